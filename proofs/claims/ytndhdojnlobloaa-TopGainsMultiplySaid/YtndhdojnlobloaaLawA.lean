/- Plain facts: words of 64 bits. -/
import Derived.Test.YtndhdojnlobloaaMirB
import Derived.Test.YtndhdojnlobloaaPl
namespace Go.Sh
open Go Go.Proofs Go.RowKit Go.Sx Go.Sx06

theorem u64m (n : Int) : IntKind.u64.wrap n = n % 18446744073709551616 := by
  unfold IntKind.wrap
  rfl
theorem u8m (n : Int) : IntKind.u8.wrap n = n % 256 := by
  unfold IntKind.wrap
  rfl
theorem b64 : IntKind.bits IntKind.u64 = 64 := rfl
theorem shr32 (x : Int) : Int.fdiv x ((2 : Int) ^ min (32 : Nat) (IntKind.bits IntKind.u64)) = x / 4294967296 := by
  rw [Int.fdiv_eq_ediv_of_nonneg _ (by decide)]
  rfl
theorem shr16 (x : Int) : Int.fdiv x ((2 : Int) ^ min (16 : Nat) (IntKind.bits IntKind.u64)) = x / 65536 := by
  rw [Int.fdiv_eq_ediv_of_nonneg _ (by decide)]
  rfl
theorem shr8 (x : Int) : Int.fdiv x ((2 : Int) ^ min (8 : Nat) (IntKind.bits IntKind.u64)) = x / 256 := by
  rw [Int.fdiv_eq_ediv_of_nonneg _ (by decide)]
  rfl
theorem mask32 (x : Int) : (↑(BitVec.toNat (BitVec.ofInt (IntKind.bits IntKind.u64) x &&& BitVec.ofInt (IntKind.bits IntKind.u64) (4294967295 : Int))) : Int) = x % 4294967296 := by
  rw [BitVec.toNat_and]
  have e : (BitVec.ofInt (IntKind.bits IntKind.u64) (4294967295 : Int)).toNat = 2 ^ 32 - 1 := by decide
  rw [e, Nat.and_two_pow_sub_one_eq_mod, BitVec.toNat_ofInt, b64]
  omega
theorem mul64_eq {x y : Int} (hx : 0 ≤ x) (hx' : x < 18446744073709551616) (hy : y = 1048576) :
    math_bits_Mul64 x y = some (x * y / 18446744073709551616, x * y % 18446744073709551616) := by
  subst hy
  unfold math_bits_Mul64
  simp only [shr32, mask32, u64m, Int.reduceMod, Int.reduceDiv, Int.mul_zero]
  congr 2
  omega

def tl (z : Nat) : Nat := (Array.getD (ByteArray.data tab8) z 0).toNat
theorem tab8_ok : ∀ z : Fin 256, tl z.val ≤ 8 ∧ z.val < 2 ^ tl z.val ∧ (z.val ≠ 0 → 1 ≤ tl z.val ∧ 2 ^ (tl z.val - 1) ≤ z.val) := by decide +kernel
theorem tab8_size : (↑(ByteArray.size tab8) : Int) = 256 := by decide +kernel

theorem len_end {n k : Nat} {z K : Int} (hk : k ≤ 56) (hz : z = ((n / 2 ^ k : Nat) : Int)) (h0 : n / 2 ^ k ≠ 0) (h1 : n / 2 ^ k < 256) (hK : K = k) :
    ∃ L : Nat, (if (0 : Int) ≤ z % 256 ∧ z % 256 < 256 then some (IntKind.wrap .i64 (K + IntKind.wrap .i64 (↑(UInt8.toNat (Array.getD (ByteArray.data tab8) (Int.toNat (z % 256)) 0)) : Int))) else none) = some (L : Int) ∧ 1 ≤ L ∧ L ≤ 64 ∧ 2 ^ (L - 1) ≤ n ∧ n < 2 ^ L := by
  obtain ⟨a1, a2, a3⟩ := tab8_ok ⟨n / 2 ^ k, h1⟩
  obtain ⟨a4, a5⟩ := a3 h0
  dsimp only at a1 a2 a4 a5
  generalize hq : n / 2 ^ k = q at *
  have ez : z % 256 = (q : Int) := by omega
  refine ⟨k + tl q, ?_, by omega, by omega, ?_, ?_⟩
  · rw [ez, if_pos (by omega)]
    have e1 : (Int.toNat (q : Int)) = q := rfl
    rw [e1]
    have e2 : (Array.getD (ByteArray.data tab8) q 0).toNat = tl q := rfl
    rw [e2]
    clear a2 a5 a3
    generalize tl q = l at *
    rw [wr64 (x := (l : Int)) (by omega), wr64 (by omega), hK]
    rfl
  · rw [show k + tl q - 1 = k + (tl q - 1) by omega, Nat.pow_add]
    have := Nat.div_mul_le_self n (2 ^ k)
    rw [hq] at this
    have h := Nat.mul_le_mul_left (2 ^ k) a5
    rw [Nat.mul_comm q] at this
    omega
  · rw [Nat.pow_add]
    have h2 : n < (q + 1) * 2 ^ k := by
      rw [← hq]
      have := Nat.mod_lt n (Nat.two_pow_pos k)
      have h3 := Nat.div_add_mod n (2 ^ k)
      rw [Nat.add_mul, Nat.one_mul, Nat.mul_comm (n / 2 ^ k)]
      omega
    have h := Nat.mul_le_mul_right (2 ^ k) (show q + 1 ≤ 2 ^ tl q from a2)
    rw [Nat.mul_comm (2 ^ tl q)] at h
    omega

theorem len64_eq {n : Nat} (h0 : 0 < n) (h1 : n < 2 ^ 64) : ∃ L : Nat, math_bits_Len64 (n : Int) = some (L : Int) ∧ 1 ≤ L ∧ L ≤ 64 ∧ 2 ^ (L - 1) ≤ n ∧ n < 2 ^ L := by
  unfold math_bits_Len64
  simp only [shr32, shr16, shr8, u8m, tab8_size]
  by_cases c1 : (n : Int) ≥ 4294967296
  · rw [if_pos c1]
    by_cases c2 : (n : Int) / 4294967296 ≥ 65536
    · rw [if_pos c2]
      by_cases c3 : (n : Int) / 4294967296 / 65536 ≥ 256
      · rw [if_pos c3]
        exact len_end (k := 56) (by omega) (by omega) (by omega) (by omega) (by decide)
      · rw [if_neg c3]
        exact len_end (k := 48) (by omega) (by omega) (by omega) (by omega) (by decide)
    · rw [if_neg c2]
      by_cases c3 : (n : Int) / 4294967296 ≥ 256
      · rw [if_pos c3]
        exact len_end (k := 40) (by omega) (by omega) (by omega) (by omega) (by decide)
      · rw [if_neg c3]
        exact len_end (k := 32) (by omega) (by omega) (by omega) (by omega) (by decide)
  · rw [if_neg c1]
    by_cases c2 : (n : Int) ≥ 65536
    · rw [if_pos c2]
      by_cases c3 : (n : Int) / 65536 ≥ 256
      · rw [if_pos c3]
        exact len_end (k := 24) (by omega) (by omega) (by omega) (by omega) (by decide)
      · rw [if_neg c3]
        exact len_end (k := 16) (by omega) (by omega) (by omega) (by omega) (by decide)
    · rw [if_neg c2]
      by_cases c3 : (n : Int) ≥ 256
      · rw [if_pos c3]
        exact len_end (k := 8) (by omega) (by omega) (by omega) (by omega) (by decide)
      · rw [if_neg c3]
        exact len_end (k := 0) (by omega) (by omega) (by omega) (by omega) (by decide)
theorem lz64_eq {n : Nat} (h0 : 0 < n) (h1 : n < 2 ^ 64) : ∃ s : Nat, math_bits_LeadingZeros64 (n : Int) = some (s : Int) ∧ s ≤ 63 ∧ 2 ^ 63 ≤ n * 2 ^ s ∧ n * 2 ^ s < 2 ^ 64 := by
  obtain ⟨L, e, l1, l2, l3, l4⟩ := len64_eq h0 h1
  unfold math_bits_LeadingZeros64
  rw [e, bind_some', wr64 (by omega)]
  refine ⟨64 - L, by congr 1; omega, by omega, ?_, ?_⟩
  · have := Nat.mul_le_mul_right (2 ^ (64 - L)) l3
    rw [← Nat.pow_add, show L - 1 + (64 - L) = 63 by omega] at this
    exact this
  · have := Nat.mul_lt_mul_of_pos_right l4 (Nat.two_pow_pos (64 - L))
    rw [← Nat.pow_add, show L + (64 - L) = 64 by omega] at this
    exact this
end Go.Sh

namespace Go.Sh
open Go Go.Proofs Go.RowKit Go.Sx Go.Sx06

def knB (y1 y0 u1 : Int) (x : Int × Int) : Option ((Int × Int) ⊕ Int) :=
  if x.1 ≥ 4294967296 then
    if (x.2 + y1) % 18446744073709551616 ≥ 4294967296 then some (.inr ((x.1 - 1) % 18446744073709551616))
    else some (.inl ((x.1 - 1) % 18446744073709551616, (x.2 + y1) % 18446744073709551616))
  else
    if (x.1 * y0) % 18446744073709551616 > ((4294967296 * x.2) % 18446744073709551616 + u1) % 18446744073709551616 then
      if (x.2 + y1) % 18446744073709551616 ≥ 4294967296 then some (.inr ((x.1 - 1) % 18446744073709551616))
      else some (.inl ((x.1 - 1) % 18446744073709551616, (x.2 + y1) % 18446744073709551616))
    else some (.inr x.1)

theorem knuth {y1 y0 u1 u Y Q : Int} (hy1 : 2147483648 ≤ y1) (hy1' : y1 < 4294967296) (hy0 : 0 ≤ y0) (hy0' : y0 < 4294967296) (hu1 : 0 ≤ u1) (hu1' : u1 < 4294967296)
    (hY : Y = y1 * 4294967296 + y0) (hu : u < Y) (hQ : Q * Y ≤ u * 4294967296 + u1) (hQ' : u * 4294967296 + u1 < (Q + 1) * Y) (hQ0 : 0 ≤ Q) :
    ∀ (k : Nat) (q r : Int) (N : Nat), q * y1 + r = u → 0 ≤ r → r < 4294967296 → Q ≤ q → q ≤ 4294967297 → 4294967295 - r < k * 2147483648 → k ≤ N → iter (knB y1 y0 u1) N (q, r) = some Q := by
  intro k
  induction k with
  | zero =>
    intro q r N _ _ h _ _ h' _
    omega
  | succ k ih =>
    intro q r N inv hr hr' hq hq' hk hN
    obtain ⟨N, rfl⟩ : ∃ M, N = M + 1 := ⟨N - 1, by omega⟩
    have hYp : 0 < Y := by omega
    have hQ32 : Q < 4294967296 := by
      refine Int.lt_of_mul_lt_mul_right (a := Y) ?_ (by omega)
      omega
    have mulY : q * Y = (u - r) * 4294967296 + q * y0 := by
      rw [hY, Int.mul_add, ← Int.mul_assoc]
      omega
    have mulY' : (q - 1) * Y = (u - (r + y1)) * 4294967296 + (q - 1) * y0 := by
      rw [hY, Int.mul_add, ← Int.mul_assoc, Int.sub_mul q 1 y1]
      omega
    -- one down
    have down : Q < q → (if (r + y1) % 18446744073709551616 ≥ 4294967296 then some (Sum.inr ((q - 1) % 18446744073709551616)) else some (.inl ((q - 1) % 18446744073709551616, (r + y1) % 18446744073709551616))) = knB y1 y0 u1 (q, r) → iter (knB y1 y0 u1) (N + 1) (q, r) = some Q := by
      intro hlt e
      unfold iter
      rw [← e]
      have e1 : (q - 1) % 18446744073709551616 = q - 1 := by omega
      have e2 : (r + y1) % 18446744073709551616 = r + y1 := by omega
      rw [e1, e2]
      by_cases c : r + y1 ≥ 4294967296
      · rw [if_pos c]
        dsimp only
        congr 1
        have h1 : (q - 1) * y0 ≤ 4294967296 * y0 := Int.mul_le_mul_of_nonneg_right (by omega) hy0
        have h2 : (q - 1) * Y < (Q + 1) * Y := by
          rw [mulY']
          omega
        have := Int.lt_of_mul_lt_mul_right h2 (by omega)
        omega
      · rw [if_neg c]
        dsimp only
        refine ih (q - 1) (r + y1) N ?_ (by omega) (by omega) (by omega) (by omega) (by omega) (by omega)
        rw [Int.sub_mul]
        omega
    by_cases c1 : q ≥ 4294967296
    · refine down (by omega) ?_
      unfold knB
      rw [if_pos c1]
    · have hb0 : 0 ≤ q * y0 := Int.mul_nonneg (by omega) hy0
      have hb1 : q * y0 ≤ 4294967296 * y0 := Int.mul_le_mul_of_nonneg_right (by omega) hy0
      have e1 : q * y0 % 18446744073709551616 = q * y0 := by omega
      have e2 : (4294967296 * r % 18446744073709551616 + u1) % 18446744073709551616 = 4294967296 * r + u1 := by omega
      by_cases c2 : q * y0 > 4294967296 * r + u1
      · refine down ?_ ?_
        · have h2 : Q * Y < q * Y := by
            rw [mulY]
            omega
          exact Int.lt_of_mul_lt_mul_right h2 (by omega)
        · unfold knB
          rw [if_neg c1]
          dsimp only
          rw [e1, e2, if_pos c2]
      · unfold iter
        unfold knB
        rw [if_neg c1]
        dsimp only
        rw [e1, e2, if_neg c2]
        dsimp only
        congr 1
        have h2 : q * Y < (Q + 1) * Y := by
          rw [mulY]
          omega
        have := Int.lt_of_mul_lt_mul_right h2 (by omega)
        omega

/-- The digit of a quotient. -/
theorem knuth_start {y1 y0 u1 u Y : Int} (hy1 : 2147483648 ≤ y1) (hy1' : y1 < 4294967296) (hy0 : 0 ≤ y0) (hy0' : y0 < 4294967296) (hu1 : 0 ≤ u1) (hu1' : u1 < 4294967296)
    (hY : Y = y1 * 4294967296 + y0) (hu0 : 0 ≤ u) (hu : u < Y) :
    iter (knB y1 y0 u1) big (u / y1, u - u / y1 * y1) = some ((u * 4294967296 + u1) / Y) := by
  have hYp : 0 < Y := by omega
  generalize hQ : (u * 4294967296 + u1) / Y = Q
  have a1 : Q * Y ≤ u * 4294967296 + u1 := by rw [← hQ]; exact Int.ediv_mul_le _ (by omega)
  have a2 : u * 4294967296 + u1 < (Q + 1) * Y := by rw [← hQ]; exact Int.lt_ediv_add_one_mul_self _ hYp
  have a3 : 0 ≤ Q := by rw [← hQ]; exact Int.ediv_nonneg (by omega) (by omega)
  have b1 : u / y1 * y1 ≤ u := Int.ediv_mul_le _ (by omega)
  have b2 : u < (u / y1 + 1) * y1 := Int.lt_ediv_add_one_mul_self _ (by omega)
  generalize u / y1 = q at *
  rw [Int.add_mul] at b2
  refine knuth hy1 hy1' hy0 hy0' hu1 hu1' hY hu a1 a2 a3 2 q (u - q * y1) big (by omega) (by omega) (by omega) ?_ ?_ (by omega) (by decide)
  · -- Q ≤ q: Q * y1 * 2^32 <= u * 2^32 + u1
    have h1 : Q * Y = Q * y1 * 4294967296 + Q * y0 := by rw [hY, Int.mul_add, ← Int.mul_assoc]
    have h2 : 0 ≤ Q * y0 := Int.mul_nonneg a3 hy0
    have h3 : Q * y1 < (q + 1) * y1 := by
      rw [Int.add_mul]
      omega
    have := Int.lt_of_mul_lt_mul_right h3 (by omega)
    omega
  · have h3 : q * y1 < 4294967298 * y1 := by omega
    have := Int.lt_of_mul_lt_mul_right h3 (by omega)
    omega
end Go.Sh

namespace Go.Sh
open Go Go.Proofs Go.RowKit Go.Sx Go.Sx06

def swp {Y : Type} : Option ((Int × Int) ⊕ Y) → Option ((Int × Int) ⊕ Y)
  | some (.inl z) => some (.inl (z.2, z.1))
  | some (.inr y) => some (.inr y)
  | none => none
theorem iter_swap {Y : Type} {b b' : Int × Int → Option ((Int × Int) ⊕ Y)} (h : ∀ x, b' (x.2, x.1) = swp (b x)) :
    ∀ (N : Nat) (x : Int × Int), iter b' N (x.2, x.1) = iter b N x
  | 0, _ => rfl
  | N + 1, x => by
    unfold iter
    rw [h x]
    cases e : b x with
    | none => rfl
    | some z =>
      cases z with
      | inl z => exact iter_swap h N z
      | inr y => rfl

theorem mw (x : Int) : x % 4294967296 % 18446744073709551616 = x % 4294967296 := by omega

section
variable {hi lo y s Y L U : Int}
  (hY : IntKind.wrap .u64 (y * (2 : Int) ^ min (Int.toNat (IntKind.wrap .u64 s)) (IntKind.bits .u64)) = Y)
  (hL : IntKind.wrap .u64 (lo * (2 : Int) ^ min (Int.toNat (IntKind.wrap .u64 s)) (IntKind.bits .u64)) = L)
  (hU : (↑(BitVec.toNat (BitVec.ofInt (IntKind.bits IntKind.u64) (IntKind.wrap IntKind.u64 (hi * (2 : Int) ^ min (Int.toNat (IntKind.wrap IntKind.u64 s)) (IntKind.bits IntKind.u64))) ||| BitVec.ofInt (IntKind.bits IntKind.u64) (Int.fdiv lo ((2 : Int) ^ min (Int.toNat (IntKind.wrap IntKind.u64 ((64 : Int) - IntKind.wrap IntKind.u64 s))) (IntKind.bits IntKind.u64))))) : Int) = U)
include hY hL
theorem div64_b0 : math_bits_Div64_b0 lo y s = knB (Y / 4294967296) (Y % 4294967296) (L / 4294967296) := by
  funext x
  unfold math_bits_Div64_b0 knB
  simp only [hY, hL, shr32, mask32]
  simp only [u64m, mw]
theorem div64_b1 (x : Int × Int) : math_bits_Div64_b1 lo y s (x.2, x.1) = swp (knB (Y / 4294967296) (Y % 4294967296) (L % 4294967296) x) := by
  unfold math_bits_Div64_b1 knB
  simp only [hY, hL, shr32, mask32]
  simp only [u64m, mw]
  by_cases c1 : x.1 ≥ 4294967296
  · by_cases c3 : (x.2 + Y / 4294967296) % 18446744073709551616 ≥ 4294967296
    · simp only [if_pos c1, if_pos c3, swp]
    · simp only [if_pos c1, if_neg c3, swp]
  · by_cases c2 : x.1 * (Y % 4294967296) % 18446744073709551616 > (4294967296 * x.2 % 18446744073709551616 + L % 4294967296) % 18446744073709551616
    · by_cases c3 : (x.2 + Y / 4294967296) % 18446744073709551616 ≥ 4294967296
      · simp only [if_neg c1, if_pos c2, if_pos c3, swp]
      · simp only [if_neg c1, if_pos c2, if_neg c3, swp]
    · simp only [if_neg c1, if_neg c2, swp]
include hU
theorem div64_r1 {q1 q0 : Int} : math_bits_Div64_r1 hi lo y q1 s q0 = some ((q1 * 4294967296 + q0) % 18446744073709551616, (((U * 4294967296 + L / 4294967296 - q1 * Y) * 4294967296 + L % 4294967296 - q0 * Y) % 18446744073709551616) / (2 ^ min (Int.toNat (IntKind.wrap IntKind.u64 s)) 64)) := by
  unfold math_bits_Div64_r1
  rw [if_pos (by rw [u64m]; omega)]
  simp only [hY, hL, hU, shr32, mask32]
  rw [Int.fdiv_eq_ediv_of_nonneg _ (Int.le_of_lt (Int.pow_pos (by decide)))]
  congr 2
  · simp only [u64m]
    omega
  · congr 1
    generalize IntKind.wrap .u64 s = s'
    simp only [u64m, mw]
    generalize q1 * Y = a
    generalize q0 * Y = b
    omega
theorem div64_r0 {q1 : Int} : math_bits_Div64_r0 hi lo y s q1 = 
    if Y / 4294967296 ≠ 0 then Option.bind (iter (math_bits_Div64_b1 lo y s) big (let u := (U * 4294967296 + L / 4294967296 - q1 * Y) % 18446744073709551616; ((u - Int.tdiv u (Y / 4294967296) % 18446744073709551616 * (Y / 4294967296)) % 18446744073709551616, Int.tdiv u (Y / 4294967296) % 18446744073709551616))) (math_bits_Div64_r1 hi lo y q1 s) else none := by
  unfold math_bits_Div64_r0
  simp only [hY, hL, hU, shr32, mask32]
  have e : IntKind.wrap IntKind.u64 (IntKind.wrap IntKind.u64 (IntKind.wrap IntKind.u64 (IntKind.wrap IntKind.u64 U * 4294967296) + L / 4294967296) - IntKind.wrap IntKind.u64 (q1 * Y)) = (U * 4294967296 + L / 4294967296 - q1 * Y) % 18446744073709551616 := by
    simp only [u64m]
    generalize q1 * Y = a
    omega
  rw [e]
  generalize (U * 4294967296 + L / 4294967296 - q1 * Y) % 18446744073709551616 = u
  have e2 : IntKind.wrap IntKind.u64 (u - IntKind.wrap IntKind.u64 (IntKind.wrap IntKind.u64 (Int.tdiv u (Y / 4294967296)) * (Y / 4294967296))) = (u - Int.tdiv u (Y / 4294967296) % 18446744073709551616 * (Y / 4294967296)) % 18446744073709551616 := by
    simp only [u64m]
    generalize Int.tdiv u (Y / 4294967296) % 18446744073709551616 * (Y / 4294967296) = a
    omega
  rw [e2]
  simp only [u64m]
end
end Go.Sh

namespace Go.Sh
open Go Go.Proofs Go.RowKit Go.Sx Go.Sx06

theorem wn (n : Nat) (h : n < 18446744073709551616) : IntKind.u64.wrap (n : Int) = n := by
  rw [u64m]
  omega
theorem pow_nat (s : Nat) : ((2 : Int) ^ s) = ((2 ^ s : Nat) : Int) := by
  rw [Int.natCast_pow]
  rfl
theorem pow_min {s : Nat} (hs : s ≤ 64) : ((2 : Int) ^ min (Int.toNat (s : Int)) 64) = ((2 ^ s : Nat) : Int) := by
  rw [Int.toNat_natCast, Nat.min_eq_left hs, pow_nat]
theorem toNat_ofNat64 {n : Nat} (h : n < 18446744073709551616) : (BitVec.ofInt 64 (n : Int)).toNat = n := by
  rw [BitVec.toNat_ofInt]
  omega

/-- The high word of a shifted pair. -/
theorem high_or {hi lo s : Nat} (hs : s ≤ 63) (hh : hi * 2 ^ s < 18446744073709551616) (hl : lo < 18446744073709551616) :
    (↑(BitVec.toNat (BitVec.ofInt (IntKind.bits IntKind.u64) (IntKind.wrap IntKind.u64 ((hi : Int) * (2 : Int) ^ min (Int.toNat (IntKind.wrap IntKind.u64 (s : Int))) (IntKind.bits IntKind.u64))) ||| BitVec.ofInt (IntKind.bits IntKind.u64) (Int.fdiv (lo : Int) ((2 : Int) ^ min (Int.toNat (IntKind.wrap IntKind.u64 ((64 : Int) - IntKind.wrap IntKind.u64 (s : Int)))) (IntKind.bits IntKind.u64))))) : Int) = ((hi * 2 ^ s + lo / 2 ^ (64 - s) : Nat) : Int) := by
  have e1 : (64 : Int) - (s : Int) = ((64 - s : Nat) : Int) := by omega
  rw [wn s (by omega), b64, e1, wn (64 - s) (by omega), pow_min (by omega), pow_min (by omega), ← Int.natCast_mul, wn _ hh, Int.fdiv_eq_ediv_of_nonneg _ (Int.natCast_nonneg _), ← Int.natCast_ediv, BitVec.toNat_or, toNat_ofNat64 hh]
  have hlt : lo / 2 ^ (64 - s) < 2 ^ s := by
    rw [Nat.div_lt_iff_lt_mul (Nat.two_pow_pos _), ← Nat.pow_add, show s + (64 - s) = 64 by omega]
    exact hl
  have hle : lo / 2 ^ (64 - s) < 18446744073709551616 := Nat.lt_of_le_of_lt (Nat.div_le_self _ _) hl
  rw [toNat_ofNat64 hle, ← Nat.shiftLeft_eq, ← Nat.shiftLeft_add_eq_or_of_lt hlt]

theorem div64_eq {hi lo y : Nat} (hh : hi < y) (hl : lo < 18446744073709551616) (hy : y < 18446744073709551616) :
    math_bits_Div64 (hi : Int) (lo : Int) (y : Int) = some ((((hi * 18446744073709551616 + lo) / y : Nat) : Int), (((hi * 18446744073709551616 + lo) % y : Nat) : Int)) := by
  have y0 : 0 < y := by omega
  unfold math_bits_Div64
  rw [if_neg (by simp; omega), if_neg (by omega)]
  by_cases h0 : hi = 0
  · subst h0
    rw [if_pos (by rfl), if_pos (by omega), if_pos (by omega)]
    congr 2
    · rw [Int.tdiv_eq_ediv_of_nonneg (by omega), ← Int.natCast_ediv, wn _ (Nat.lt_of_le_of_lt (Nat.div_le_self _ _) hl), Nat.zero_mul, Nat.zero_add]
    · rw [Int.tmod_eq_emod_of_nonneg (by omega), ← Int.natCast_emod, Nat.zero_mul, Nat.zero_add]
  rw [if_neg (by simp; omega)]
  obtain ⟨s, es, hs, hy1, hy2⟩ := lz64_eq y0 hy
  rw [es, bind_some']
  have e64 : (2 : Nat) ^ 64 = 18446744073709551616 := by decide
  have e63 : (2 : Nat) ^ 63 = 9223372036854775808 := by decide
  rw [e64] at hy2
  rw [e63] at hy1
  -- the numbers, shifted
  have hps : 0 < 2 ^ s := Nat.two_pow_pos s
  have hY : IntKind.wrap .u64 ((y : Int) * (2 : Int) ^ min (Int.toNat (IntKind.wrap .u64 (s : Int))) (IntKind.bits .u64)) = ((y * 2 ^ s : Nat) : Int) := by
    rw [wn s (by omega), b64, pow_min (by omega), ← Int.natCast_mul, wn _ hy2]
  have hL : IntKind.wrap .u64 ((lo : Int) * (2 : Int) ^ min (Int.toNat (IntKind.wrap .u64 (s : Int))) (IntKind.bits .u64)) = ((lo * 2 ^ s % 18446744073709551616 : Nat) : Int) := by
    rw [wn s (by omega), b64, pow_min (by omega), ← Int.natCast_mul, u64m]
    rfl
  have hhs : (hi + 1) * 2 ^ s ≤ y * 2 ^ s := Nat.mul_le_mul_right _ hh
  rw [Nat.add_mul, Nat.one_mul] at hhs
  have hU := high_or (hi := hi) (lo := lo) (s := s) hs (by omega) hl
  have hlt : lo / 2 ^ (64 - s) < 2 ^ s := by
    rw [Nat.div_lt_iff_lt_mul (Nat.two_pow_pos _), ← Nat.pow_add, show s + (64 - s) = 64 by omega]
    exact hl
  -- U * 2^64 + L = N * 2^s
  have hN : (hi * 2 ^ s + lo / 2 ^ (64 - s)) * 18446744073709551616 + lo * 2 ^ s % 18446744073709551616 = (hi * 18446744073709551616 + lo) * 2 ^ s := by
    have h1 : lo * 2 ^ s / 18446744073709551616 = lo / 2 ^ (64 - s) := by
      rw [show 18446744073709551616 = 2 ^ (64 - s) * 2 ^ s by rw [← Nat.pow_add, show 64 - s + s = 64 by omega]]
      exact Nat.mul_div_mul_right _ _ hps
    have h2 := Nat.div_add_mod (lo * 2 ^ s) 18446744073709551616
    rw [h1] at h2
    rw [Nat.add_mul, Nat.add_mul, Nat.mul_assoc hi, Nat.mul_comm (2 ^ s) 18446744073709551616, ← Nat.mul_assoc hi]
    omega
  have hUY : hi * 2 ^ s + lo / 2 ^ (64 - s) < y * 2 ^ s := by omega
  have hL64 : lo * 2 ^ s % 18446744073709551616 < 18446744073709551616 := Nat.mod_lt _ (by decide)
  have hq : (hi * 18446744073709551616 + lo) / y = ((hi * 18446744073709551616 + lo) * 2 ^ s) / (y * 2 ^ s) := (Nat.mul_div_mul_right _ _ hps).symm
  have hr : (hi * 18446744073709551616 + lo) % y = (((hi * 18446744073709551616 + lo) * 2 ^ s) % (y * 2 ^ s)) / 2 ^ s := by
    rw [Nat.mul_mod_mul_right, Nat.mul_div_cancel _ hps]
  rw [hq, hr, ← hN]
  clear hq hr hN hhs hlt es
  generalize hi * 2 ^ s + lo / 2 ^ (64 - s) = U at *
  generalize lo * 2 ^ s % 18446744073709551616 = L at *
  generalize y * 2 ^ s = Y at *
  simp only [hY, hU, shr32]
  rw [if_pos (by rw [u64m]; omega), if_pos (by rw [u64m]; omega), if_pos (by rw [u64m]; omega), if_pos (by rw [u64m]; omega), if_pos (by omega)]
  have eU : IntKind.wrap IntKind.u64 (U : Int) = U := wn U (by omega)
  rw [eU, Int.tdiv_eq_ediv_of_nonneg (by omega)]
  have bq : (U : Int) / ((Y : Int) / 4294967296) * ((Y : Int) / 4294967296) ≤ U := Int.ediv_mul_le _ (by omega)
  have bq0 : 0 ≤ (U : Int) / ((Y : Int) / 4294967296) := Int.ediv_nonneg (by omega) (by omega)
  have bq1 : (U : Int) / ((Y : Int) / 4294967296) ≤ U := Int.ediv_le_self _ (by omega)
  have bq2 : 0 ≤ (U : Int) / ((Y : Int) / 4294967296) * ((Y : Int) / 4294967296) := Int.mul_nonneg bq0 (by omega)
  have w1 : IntKind.wrap IntKind.u64 ((U : Int) / ((Y : Int) / 4294967296)) = (U : Int) / ((Y : Int) / 4294967296) := by
    rw [u64m]
    omega
  have w2 : IntKind.wrap IntKind.u64 ((U : Int) - IntKind.wrap IntKind.u64 ((U : Int) / ((Y : Int) / 4294967296) * ((Y : Int) / 4294967296))) = (U : Int) - (U : Int) / ((Y : Int) / 4294967296) * ((Y : Int) / 4294967296) := by
    rw [u64m, u64m]
    omega
  rw [w1, w2, div64_b0 hY hL]
  have hYd : (Y : Int) = (Y : Int) / 4294967296 * 4294967296 + (Y : Int) % 4294967296 := by omega
  rw [knuth_start (Y := (Y : Int)) (u := (U : Int)) (by omega) (by omega) (by omega) (by omega) (by omega) (by omega) hYd (by omega) (by omega), bind_some', div64_r0 hY hL hU, if_pos (by omega)]
  -- the rest of the first digit
  have hYp : (0 : Int) < Y := by omega
  generalize hQ : ((U : Int) * 4294967296 + (L : Int) / 4294967296) / (Y : Int) = Q
  have a1 : Q * Y ≤ (U : Int) * 4294967296 + (L : Int) / 4294967296 := by rw [← hQ]; exact Int.ediv_mul_le _ (by omega)
  have a2 : (U : Int) * 4294967296 + (L : Int) / 4294967296 < (Q + 1) * Y := by rw [← hQ]; exact Int.lt_ediv_add_one_mul_self _ hYp
  have a3 : 0 ≤ Q := by rw [← hQ]; exact Int.ediv_nonneg (by omega) (by omega)
  rw [Int.add_mul] at a2
  have eV : ((U : Int) * 4294967296 + (L : Int) / 4294967296 - Q * Y) % 18446744073709551616 = (U : Int) * 4294967296 + (L : Int) / 4294967296 - Q * Y := by omega
  rw [eV]
  generalize hV : (U : Int) * 4294967296 + (L : Int) / 4294967296 - Q * Y = V at *
  dsimp only
  have v0 : 0 ≤ V := by omega
  have v1 : V < Y := by omega
  rw [Int.tdiv_eq_ediv_of_nonneg v0]
  have bq : V / ((Y : Int) / 4294967296) * ((Y : Int) / 4294967296) ≤ V := Int.ediv_mul_le _ (by omega)
  have bq0 : 0 ≤ V / ((Y : Int) / 4294967296) := Int.ediv_nonneg (by omega) (by omega)
  have bq1 : V / ((Y : Int) / 4294967296) ≤ V := Int.ediv_le_self _ (by omega)
  have bq2 : 0 ≤ V / ((Y : Int) / 4294967296) * ((Y : Int) / 4294967296) := Int.mul_nonneg bq0 (by omega)
  have w1 : V / ((Y : Int) / 4294967296) % 18446744073709551616 = V / ((Y : Int) / 4294967296) := by omega
  have w2 : (V - V / ((Y : Int) / 4294967296) * ((Y : Int) / 4294967296)) % 18446744073709551616 = V - V / ((Y : Int) / 4294967296) * ((Y : Int) / 4294967296) := by omega
  rw [w1, w2]
  have hsw := iter_swap (div64_b1 hY hL) big (V / ((Y : Int) / 4294967296), V - V / ((Y : Int) / 4294967296) * ((Y : Int) / 4294967296))
  dsimp only at hsw
  rw [hsw, knuth_start (Y := (Y : Int)) (u := V) (by omega) (by omega) (by omega) (by omega) (by omega) (by omega) hYd v0 v1, bind_some', div64_r1 hY hL hU, hV]
  -- both digits together
  generalize hR : (V * 4294967296 + (L : Int) % 4294967296) / (Y : Int) = R
  have c1 : R * Y ≤ V * 4294967296 + (L : Int) % 4294967296 := by rw [← hR]; exact Int.ediv_mul_le _ (by omega)
  have c2 : V * 4294967296 + (L : Int) % 4294967296 < (R + 1) * Y := by rw [← hR]; exact Int.lt_ediv_add_one_mul_self _ hYp
  have c3 : 0 ≤ R := by rw [← hR]; exact Int.ediv_nonneg (by omega) (by omega)
  rw [Int.add_mul] at c2
  have q32 : Q < 4294967296 := by
    refine Int.lt_of_mul_lt_mul_right (a := (Y : Int)) ?_ (by omega)
    omega
  have r32 : R < 4294967296 := by
    refine Int.lt_of_mul_lt_mul_right (a := (Y : Int)) ?_ (by omega)
    omega
  have hD : ((U * 18446744073709551616 + L : Nat) : Int) = (Q * 4294967296 + R) * Y + (V * 4294967296 + (L : Int) % 4294967296 - R * Y) := by
    rw [Int.add_mul, Int.mul_assoc, Int.mul_comm 4294967296 (Y : Int), ← Int.mul_assoc]
    omega
  have hdiv : ((U * 18446744073709551616 + L : Nat) : Int) / Y = Q * 4294967296 + R := by
    rw [hD, Int.add_comm, Int.add_mul_ediv_right _ _ (by omega), Int.ediv_eq_zero_of_lt (by omega) (by omega)]
    omega
  have hmod : ((U * 18446744073709551616 + L : Nat) : Int) % Y = V * 4294967296 + (L : Int) % 4294967296 - R * Y := by
    rw [hD, Int.add_comm, Int.add_mul_emod_self_right, Int.emod_eq_of_lt (by omega) (by omega)]
  congr 2
  · rw [Int.natCast_ediv, hdiv]
    omega
  · rw [wn s (by omega), pow_min (by omega), Int.natCast_ediv, Int.natCast_emod, hmod]
    congr 1
    omega
end Go.Sh

namespace Go.Sh
open Go Go.Proofs Go.RowKit Go.Sx Go.Sx06

theorem floor_eq {n b : Int} (hb : 0 < b) (hn : -9223372036854775807 ≤ n ∧ n ≤ 9223372036854775807) : B_Floor n b = some (n / b) := by
  have h1 := tdiv_bounds (n := n) hb
  have h2 := ediv_bounds (n := n) hb
  unfold B_Floor
  rw [if_pos (by omega), if_pos (by omega), wr64 (x := n.tdiv b) (by omega)]
  split
  · rename_i h
    rw [floor_neg hb h, wr64 (by omega)]
  · rename_i h
    rw [floor_pos hb h]

theorem part_of_chk {b0 b1 b2 a0 a1 : Int} (h : chkS b0 b1 b2 a0 a1 = 0) : (-32768 ≤ b0 ∧ b0 ≤ 32768) ∧ (-32768 ≤ b1 ∧ b1 ≤ 32768) ∧ (-32768 ≤ b2 ∧ b2 ≤ 32768) ∧ (-32768 ≤ a0 ∧ a0 ≤ 32768) ∧ (-32768 ≤ a1 ∧ a1 ≤ 32768) := by
  unfold chkS at h
  split at h
  · rename_i hc
    simpa [partB] using hc
  · omega

theorem bounds_chk {c : List (List Int)} (h : chkE c = 0) : c.length ≤ 6 ∧ ∀ r ∈ c, chkRow r = 0 := by
  unfold chkE at h
  split at h
  · omega
  · rename_i h6
    refine ⟨by omega, fun r hr => ?_⟩
    cases hf : c.findIdx? (fun r => chkRow r != 0) with
    | none =>
      rw [List.findIdx?_eq_none_iff] at hf
      simpa using hf r hr
    | some k =>
      rw [hf] at h
      rw [List.findIdx?_eq_some_iff_getElem] at hf
      obtain ⟨hk, hp, _⟩ := hf
      simp [List.getD, hk] at h
      simp [h] at hp

end Go.Sh

namespace Go.Sh
open Go Go.Proofs Go.RowKit Go.Sx Go.Sx06

theorem gcd_step (a b : Int) : Int.gcd b (a.tmod b) = Int.gcd a b := by
  unfold Int.gcd
  rw [Int.natAbs_tmod, Nat.gcd_comm b.natAbs, ← Nat.gcd_rec, Nat.gcd_comm]

theorem tmod_abs (a b : Int) (hb : b ≠ 0) : (a.tmod b).natAbs < b.natAbs := by
  rw [Int.natAbs_tmod]
  exact Nat.mod_lt _ (by omega)

/-- The loop of the greatest common divisor. -/
def gcdB (x0 : Int × Int) : Option ((Int × Int) ⊕ Int) :=
  if (x0.2 != (0 : Int)) = true then
   if x0.2 ≠ (0 : Int) then
    some (.inl (x0.2, Int.tmod x0.1 x0.2))
   else none
  else
   some (.inr x0.1)

theorem gcd_iter : ∀ (n : Nat) (a b : Int) (N : Nat), b.natAbs ≤ n → n < N → ∃ g : Int, iter gcdB N (a, b) = some g ∧ g.natAbs = Int.gcd a b
  | _, _, _, 0, _, h => absurd h (by omega)
  | n, a, b, N + 1, hb, hN => by
    unfold iter gcdB
    by_cases h0 : b = 0
    · subst h0
      exact ⟨a, rfl, by simp [Int.gcd]⟩
    · have h1 := tmod_abs a b h0
      obtain ⟨m, rfl⟩ : ∃ m, n = m + 1 := ⟨n - 1, by omega⟩
      obtain ⟨g, hg, he⟩ := gcd_iter m b (a.tmod b) N (by omega) (by omega)
      refine ⟨g, ?_, by rw [he, gcd_step]⟩
      simp only
      rw [if_pos (by simpa using h0), if_pos h0]
      exact hg

theorem gcd_big {a b : Int} (hb : inJ b) : ∃ g : Int, iter gcdB big (a, b) = some g ∧ g.natAbs = Int.gcd a b :=
  gcd_iter b.natAbs a b big (Nat.le_refl _) (by unfold big; unfold inJ at hb; omega)

theorem gcd_le {a b : Int} (ha : inJ a) (hb : inJ b) : Int.gcd a b ≤ 9223372036854775807 := by
  unfold inJ at ha hb
  by_cases h : a = 0
  · subst h; simp [Int.gcd]; omega
  · have : Int.gcd a b ≤ a.natAbs := Nat.le_of_dvd (by omega) (Int.gcd_dvd_natAbs_left a b)
    omega

theorem divisorF_eq {a b : Int} (ha : inJ a) (hb : inJ b) : F_divisor a b = some (Int.gcd a b : Int) := by
  obtain ⟨g, h1, h2⟩ := gcd_big (a := a) hb
  have h3 := gcd_le ha hb
  unfold F_divisor
  rw [show iter F_divisor_b0 big (a, b) = some g from h1, bind_some']
  unfold F_divisor_r0
  rw [if_pos (by omega)]
  congr 1
  omega
/-- A fraction in lowest terms. -/
def lowS (num den : Int) : Int × Int := if den < 0 then (num.tdiv (-(Int.gcd num den : Int)), den.tdiv (-(Int.gcd num den : Int))) else (num.tdiv (Int.gcd num den), den.tdiv (Int.gcd num den))

theorem tdiv_in {a : Int} {g : Int} (ha : inJ a) (hg : 0 < g) : inJ (a.tdiv g) := by
  unfold inJ at *
  have h1 := tdiv_bounds (n := a) hg
  omega

theorem low_any {num den : Int} (hn : inJ num) (hd : inJ den) (h0 : den ≠ 0) :
    (if den < (0 : Int) then
      if IntKind.wrap IntKind.i64 ((0 : Int) - (Int.gcd num den : Int)) ≠ (0 : Int) then
       if IntKind.wrap IntKind.i64 ((0 : Int) - (Int.gcd num den : Int)) ≠ (0 : Int) then
        some ((IntKind.wrap IntKind.i64 (Int.tdiv num (IntKind.wrap IntKind.i64 ((0 : Int) - (Int.gcd num den : Int)))), IntKind.wrap IntKind.i64 (Int.tdiv den (IntKind.wrap IntKind.i64 ((0 : Int) - (Int.gcd num den : Int))))))
       else none
      else none
     else
      if (Int.gcd num den : Int) ≠ (0 : Int) then
       if (Int.gcd num den : Int) ≠ (0 : Int) then
        some ((IntKind.wrap IntKind.i64 (Int.tdiv num (Int.gcd num den : Int)), IntKind.wrap IntKind.i64 (Int.tdiv den (Int.gcd num den : Int))))
       else none
      else none) = some (lowS num den) := by
  have hg := gcd_le hn hd
  have hp : 0 < Int.gcd num den := Int.gcd_pos_of_ne_zero_right _ h0
  have t1 := tdiv_in (g := (Int.gcd num den : Int)) hn (by omega)
  have t2 := tdiv_in (g := (Int.gcd num den : Int)) hd (by omega)
  unfold inJ at t1 t2
  unfold lowS
  by_cases hneg : den < 0
  · rw [if_pos hneg, if_pos hneg, wr64 (x := 0 - (Int.gcd num den : Int)) (by omega), if_pos (by omega), if_pos (by omega), Int.zero_sub, Int.tdiv_neg, Int.tdiv_neg, wr64 (by omega), wr64 (by omega)]
  · rw [if_neg hneg, if_neg hneg, if_pos (by omega), if_pos (by omega), wr64 (by omega), wr64 (by omega)]

theorem lowestF_eq {num den : Int} (hn : inJ num) (hd : inJ den) (h0 : den ≠ 0) : F_lowest num den = some (lowS num den) := by
  unfold F_lowest
  rw [divisorF_eq hn hd, bind_some']
  exact low_any hn hd h0
end Go.Sh

namespace Go.Sh
open Go Go.Proofs Go.RowKit Go.Sx Go.Sx06

/-- Is a section stable? -/
def stB (a0 a1 : Int) : Bool := decide (max a1 (-a1) < 16384) && decide (max a0 (-a0) < 16384 + a1)
theorem secB_chk {b0 b1 b2 a0 a1 : Int} (h : chkS b0 b1 b2 a0 a1 = 0) : secB b0 b1 b2 a0 a1 = true := by
  unfold chkS at h
  split at h
  · assumption
  · omega

end Go.Sh

namespace Go.Sh
open Go Go.Proofs Go.RowKit Go.Sx Go.Sx06

/-- The ends of a fraction, in parts of a million. -/
def ptQ (n d : Int) : Int := n * 1048576 / d
def ptH (n d : Int) : Int := if n * 1048576 % d = 0 then ptQ n d else ptQ n d + 1
theorem ptH_ge (n d : Int) : ptQ n d ≤ ptH n d := by unfold ptH; split <;> omega
theorem ptQ_nonneg {n d : Int} (hn : 0 ≤ n) (hd : 0 < d) : 0 ≤ ptQ n d := Int.ediv_nonneg (by omega) (by omega)

theorem partsF_eq {n d : Int} (hn : 0 ≤ n) (hn' : n < 4611686018427387904) (hd : 0 < d) (hd' : d < 4611686018427387904) :
    F_parts n d = some (if ptQ n d > 1073741824 then (0, 0, false) else (ptQ n d, ptH n d, decide (ptH n d ≤ 1073741824))) := by
  have e0 : IntKind.wrap .u64 n = n := by rw [u64m]; omega
  have e1 : IntKind.wrap .u64 d = d := by rw [u64m]; omega
  have hm := mul64_eq (x := IntKind.wrap .u64 n) (y := 1048576) (by omega) (by omega) rfl
  have hm' := hm
  unfold math_bits_Mul64 at hm'
  obtain ⟨hH, -⟩ := Prod.mk.inj (Option.some.inj hm')
  unfold F_parts
  rw [hm, bind_some', hH, e0, e1, u64m]
  clear hH hm hm'
  by_cases c1 : n * 1048576 / 18446744073709551616 ≥ d
  · rw [if_pos c1]
    have : d * 1073741825 ≤ n * 1048576 := by omega
    have : 1073741825 ≤ ptQ n d := by
      unfold ptQ
      exact (Int.le_ediv_iff_mul_le hd).2 (by omega)
    rw [if_pos (by omega)]
  · rw [if_neg c1]
    obtain ⟨d', rfl⟩ := Int.eq_ofNat_of_zero_le (show 0 ≤ d by omega)
    obtain ⟨hi, ehi⟩ := Int.eq_ofNat_of_zero_le (show 0 ≤ n * 1048576 / 18446744073709551616 by omega)
    obtain ⟨lo, elo⟩ := Int.eq_ofNat_of_zero_le (show 0 ≤ n * 1048576 % 18446744073709551616 by omega)
    rw [ehi, elo, div64_eq (by omega) (by omega) (by omega), bind_some']
    have eN : ((hi * 18446744073709551616 + lo : Nat) : Int) = n * 1048576 := by omega
    have eq : (((hi * 18446744073709551616 + lo) / d' : Nat) : Int) = ptQ n d' := by
      rw [Int.natCast_ediv, eN]
      rfl
    have er : (((hi * 18446744073709551616 + lo) % d' : Nat) : Int) = n * 1048576 % d' := by rw [Int.natCast_emod, eN]
    dsimp only
    rw [eq, er]
    have h0 := ptQ_nonneg (n := n) (d := d') hn (by omega)
    by_cases c2 : ptQ n d' > 1073741824
    · rw [if_pos c2, if_pos c2]
    · rw [if_neg c2, if_neg c2, wr64 (x := ptQ n d') (by omega), wr64 (x := ptQ n d' + 1) (by omega)]
      have hm := Int.emod_nonneg (n * 1048576) (show (d' : Int) ≠ 0 by omega)
      unfold ptH
      by_cases c3 : n * 1048576 % (d' : Int) = 0
      · rw [if_neg (by omega), if_pos c3]
      · rw [if_pos (by omega), if_neg c3]

end Go.Sh

namespace Go.Sh
open Go Go.Proofs Go.RowKit Go.Sx Go.Sx06

/-- How two fractions compare. -/
def cmpS (n d m k : Int) : Int := if n * k < m * d then -1 else if m * d < n * k then 1 else 0

theorem cmp_step {n d m k : Int} (hn : 0 ≤ n) (hd : 0 < d) (hm : 0 ≤ m) (hk : 0 < k) :
    cmpS n d m k = if n / d < m / k then -1 else if n / d > m / k then 1 else cmpS (n % d) d (m % k) k := by
  have a1 := Int.mul_ediv_add_emod n d
  have a2 := Int.emod_nonneg n (show d ≠ 0 by omega)
  have a3 := Int.emod_lt_of_pos n hd
  have b1 := Int.mul_ediv_add_emod m k
  have b2 := Int.emod_nonneg m (show k ≠ 0 by omega)
  have b3 := Int.emod_lt_of_pos m hk
  generalize n / d = q at *
  generalize n % d = r at *
  generalize m / k = q' at *
  generalize m % k = r' at *
  have e1 : n * k = q * (d * k) + r * k := by rw [← a1, Int.add_mul, Int.mul_comm d q, Int.mul_assoc]
  have e2 : m * d = q' * (d * k) + r' * d := by rw [← b1, Int.add_mul, Int.mul_comm k q', Int.mul_assoc, Int.mul_comm k d]
  have e3 : r * k < d * k := Int.mul_lt_mul_of_pos_right a3 hk
  have e4 : r' * d < d * k := by rw [Int.mul_comm d k]; exact Int.mul_lt_mul_of_pos_right b3 hd
  have e5 : 0 ≤ r * k := Int.mul_nonneg a2 (by omega)
  have e6 : 0 ≤ r' * d := Int.mul_nonneg b2 (by omega)
  unfold cmpS
  rw [e1, e2]
  by_cases c1 : q < q'
  · have := Int.mul_le_mul_of_nonneg_right (show q + 1 ≤ q' by omega) (show 0 ≤ d * k by omega)
    rw [Int.add_mul] at this
    rw [if_pos c1, if_pos (by omega)]
  · by_cases c2 : q > q'
    · have := Int.mul_le_mul_of_nonneg_right (show q' + 1 ≤ q by omega) (show 0 ≤ d * k by omega)
      rw [Int.add_mul] at this
      rw [if_neg c1, if_pos c2, if_neg (by omega), if_pos (by omega)]
    · have : q = q' := by omega
      subst this
      rw [if_neg c1, if_neg c2]
      by_cases d1 : r * k < r' * d
      · rw [if_pos d1, if_pos (by omega)]
      · rw [if_neg d1, if_neg (by omega)]
        by_cases d2 : r' * d < r * k
        · rw [if_pos d2, if_pos (by omega)]
        · rw [if_neg d2, if_neg (by omega)]

/-- Both turned over, the other way round. -/
theorem cmp_turn (r d r' k : Int) : cmpS k r' d r = cmpS r d r' k := by
  unfold cmpS
  rw [Int.mul_comm k r, Int.mul_comm d r']

theorem compare_iter : ∀ (s : Nat) (n d m k : Int) (N : Nat), 0 ≤ n → n ≤ 9223372036854775807 → 0 < d → d ≤ 9223372036854775807 → 0 ≤ m → m ≤ 9223372036854775807 → 0 < k → k ≤ 9223372036854775807 → d + k ≤ s → s < N → iter B_Compare_b0 N (n, d, m, k) = some (cmpS n d m k) := by
  intro s
  induction s with
  | zero =>
    intro n d m k N _ _ h _ _ _ h' _ hs _
    omega
  | succ s ih =>
    intro n d m k N hn hn' hd hd' hm hm' hk hk' hs hN
    obtain ⟨N, rfl⟩ : ∃ M, N = M + 1 := ⟨N - 1, by omega⟩
    rw [cmp_step hn hd hm hk]
    unfold iter B_Compare_b0
    dsimp only
    rw [floor_eq hd (by omega), bind_some', floor_eq hk (by omega), bind_some']
    have a1 := Int.mul_ediv_add_emod n d
    have a2 := Int.emod_nonneg n (show d ≠ 0 by omega)
    have a3 := Int.emod_lt_of_pos n hd
    have a4 : 0 ≤ d * (n / d) := Int.mul_nonneg (by omega) (Int.ediv_nonneg hn (by omega))
    have b4 : 0 ≤ k * (m / k) := Int.mul_nonneg (by omega) (Int.ediv_nonneg hm (by omega))
    have b1 := Int.mul_ediv_add_emod m k
    have b2 := Int.emod_nonneg m (show k ≠ 0 by omega)
    have b3 := Int.emod_lt_of_pos m hk
    have e1 : IntKind.wrap .i64 (n - IntKind.wrap .i64 (n / d * d)) = n % d := by
      rw [Int.mul_comm (n / d) d, wr64 (x := d * (n / d)) (by omega), wr64 (by omega)]
      omega
    have e2 : IntKind.wrap .i64 (m - IntKind.wrap .i64 (m / k * k)) = m % k := by
      rw [Int.mul_comm (m / k) k, wr64 (x := k * (m / k)) (by omega), wr64 (by omega)]
      omega
    rw [e1, e2]
    by_cases c1 : n / d < m / k
    · rw [if_pos c1, if_pos c1]
    · rw [if_neg c1, if_neg c1]
      by_cases c2 : n / d > m / k
      · rw [if_pos c2, if_pos c2]
      · rw [if_neg c2, if_neg c2]
        clear a1 b1 e1 e2 a4 b4
        generalize n % d = r at *
        generalize m % k = r' at *
        by_cases d1 : r = 0
        · subst d1
          rw [if_pos (by rfl)]
          by_cases d2 : r' = 0
          · subst d2
            rw [if_pos (by rfl)]
            dsimp only
            unfold cmpS
            rw [Int.zero_mul, Int.zero_mul, if_neg (by omega), if_neg (by omega)]
          · rw [if_neg (by simpa using d2), if_pos (by rfl)]
            dsimp only
            unfold cmpS
            rw [Int.zero_mul, if_pos (Int.mul_pos (by omega) hd)]
        · rw [if_neg (by simpa using d1), if_neg (by simpa using d1)]
          by_cases d2 : r' = 0
          · subst d2
            rw [if_pos (by rfl)]
            dsimp only
            have := Int.mul_pos (show 0 < r by omega) hk
            unfold cmpS
            rw [Int.zero_mul, if_neg (by omega), if_pos this]
          · rw [if_neg (by simpa using d2)]
            dsimp only
            exact (ih k r' d r N (by omega) (by omega) (by omega) (by omega) (by omega) (by omega) (by omega) (by omega) (by omega) (by omega)).trans (congrArg some (cmp_turn r d r' k))

theorem compare_eq {n d m k : Int} (hn : 0 ≤ n) (hn' : n ≤ 9223372036854775807) (hd : 0 < d) (hd' : d ≤ 9223372036854775807) (hm : 0 ≤ m) (hm' : m ≤ 9223372036854775807) (hk : 0 < k) (hk' : k ≤ 9223372036854775807) :
    B_Compare n d m k = some (cmpS n d m k) := by
  unfold B_Compare
  rw [compare_iter (d + k).toNat n d m k big hn hn' hd hd' hm hm' hk hk' (by omega) (by unfold big; omega), bind_some']
  rfl

/-! The square of a value -/
theorem turn_in {p q r : Int} (h : turnE p q r = 0) : (1 ≤ r ∧ r ≤ 100) ∧ (-r ≤ p ∧ p ≤ r) ∧ (-r ≤ q ∧ q ≤ r) ∧ p * p + q * q = r * r := by
  unfold turnE at h
  split at h
  · cases h
  · split at h
    · rename_i h1 h2
      exact ⟨Classical.byContradiction h1, h2⟩
    · cases h

theorem sqnn (x : Int) : 0 ≤ x * x := by
  rcases Int.le_total 0 x with h | h
  · exact Int.mul_nonneg h h
  · exact Int.mul_nonneg_of_nonpos_of_nonpos h h
theorem re_in {a b c p q r : Int} (ha : -32768 ≤ a ∧ a ≤ 32768) (hb : -32768 ≤ b ∧ b ≤ 32768) (hc : -32768 ≤ c ∧ c ≤ 32768) (ht : turnE p q r = 0) :
    (-10000 ≤ p * p - q * q ∧ p * p - q * q ≤ 10000) ∧ (0 ≤ p * p ∧ p * p ≤ 10000) ∧ (0 ≤ q * q ∧ q * q ≤ 10000) ∧
    (-327680000 ≤ a * (p * p - q * q) ∧ a * (p * p - q * q) ≤ 327680000) ∧ (-3276800 ≤ b * p ∧ b * p ≤ 3276800) ∧ (-327680000 ≤ b * p * r ∧ b * p * r ≤ 327680000) ∧
    (-3276800 ≤ c * r ∧ c * r ≤ 3276800) ∧ (-327680000 ≤ c * r * r ∧ c * r * r ≤ 327680000) ∧ (-6553600 ≤ 2 * a * p ∧ 2 * a * p ≤ 6553600) ∧ (-655360000 ≤ 2 * a * p * q ∧ 2 * a * p * q ≤ 655360000) ∧
    (-3276800 ≤ b * q ∧ b * q ≤ 3276800) ∧ (-327680000 ≤ b * q * r ∧ b * q * r ≤ 327680000) := by
  obtain ⟨h1, h2, h3, h4⟩ := turn_in ht
  have hp : -100 ≤ p ∧ p ≤ 100 := by omega
  have hq : -100 ≤ q ∧ q ≤ 100 := by omega
  have hr : -100 ≤ r ∧ r ≤ 100 := by omega
  have pp := mulB (by decide) (by decide) hp hp
  have qq := mulB (by decide) (by decide) hq hq
  have p0 : 0 ≤ p * p := sqnn _
  have q0 : 0 ≤ q * q := sqnn _
  have hX : -10000 ≤ p * p - q * q ∧ p * p - q * q ≤ 10000 := by omega
  have k1 := mulB (by decide) (by decide) ha hX
  have k2 := mulB (by decide) (by decide) hb hp
  have k3 := mulB (a := 3276800) (by decide) (by decide) (by omega) hr (x := b * p)
  have k4 := mulB (by decide) (by decide) hc hr
  have k5 := mulB (a := 3276800) (by decide) (by decide) (by omega) hr (x := c * r)
  have k6 := mulB (a := 65536) (by decide) (by decide) (by omega) hp (x := 2 * a)
  have k7 := mulB (a := 6553600) (by decide) (by decide) (by omega) hq (x := 2 * a * p)
  have k8 := mulB (by decide) (by decide) hb hq
  have k9 := mulB (a := 3276800) (by decide) (by decide) (by omega) hr (x := b * q)
  refine ⟨hX, by omega, by omega, by omega, by omega, by omega, by omega, by omega, by omega, by omega, by omega, by omega⟩

theorem sq_in {a b c p q r : Int} (ha : -32768 ≤ a ∧ a ≤ 32768) (hb : -32768 ≤ b ∧ b ≤ 32768) (hc : -32768 ≤ c ∧ c ≤ 32768) (ht : turnE p q r = 0) :
    0 ≤ sqS a b c p q r ∧ sqS a b c p q r < 4611686018427387904 := by
  obtain ⟨h1, h2, h3, h4, h5, h6, h7, h8, h9, h10, h11, h12⟩ := re_in ha hb hc ht
  have e1 : b * r * p = b * p * r := by rw [Int.mul_assoc, Int.mul_comm r p, ← Int.mul_assoc]
  have e2 : b * r * q = b * q * r := by rw [Int.mul_assoc, Int.mul_comm r q, ← Int.mul_assoc]
  unfold sqS reS imS
  rw [e1, e2]
  generalize hx : a * (p * p - q * q) + b * p * r + c * r * r = x
  generalize hy : 2 * a * p * q + b * q * r = y
  have kx := mulB (a := 983040000) (b := 983040000) (by decide) (by decide) (by omega) (by omega) (x := x) (y := x)
  have ky := mulB (a := 983040000) (b := 983040000) (by decide) (by decide) (by omega) (by omega) (x := y) (y := y)
  have kx0 : 0 ≤ x * x := sqnn _
  have ky0 : 0 ≤ y * y := sqnn _
  omega

/-- A fraction in its lowest terms. -/
theorem low_of {n d : Int} (hn : 0 ≤ n) (hd : 0 < d) : ∃ g : Int, 0 < g ∧ n = g * (lowS n d).1 ∧ d = g * (lowS n d).2 ∧ 0 ≤ (lowS n d).1 ∧ 0 < (lowS n d).2 := by
  have g0 : 0 < Int.gcd n d := Int.gcd_pos_of_ne_zero_right _ (by omega)
  have g1 : (Int.gcd n d : Int) ∣ n := Int.gcd_dvd_left ..
  have g2 : (Int.gcd n d : Int) ∣ d := Int.gcd_dvd_right ..
  unfold lowS
  rw [if_neg (by omega)]
  dsimp only
  generalize Int.gcd n d = g at *
  refine ⟨g, by omega, (Int.mul_tdiv_cancel' g1).symm, (Int.mul_tdiv_cancel' g2).symm, ?_, ?_⟩
  · rw [Int.tdiv_eq_ediv_of_nonneg hn]
    exact Int.ediv_nonneg hn (by omega)
  · rw [Int.tdiv_eq_ediv_of_nonneg (by omega)]
    exact Int.ediv_pos_of_pos_of_dvd hd (by omega) g2
end Go.Sh

namespace Go.Sh
open Go Go.Proofs Go.RowKit Go.Sx Go.Sx06

/-! A loop over the elements of a list, with a state -/
def stepOut {S Y : Type} (i : Int) : S ⊕ Y → (Int × S) ⊕ Y
  | .inl s => .inl (i + 1, s)
  | .inr y => .inr y
def foldE {α S Y : Type} (stp : α → S → S ⊕ Y) (fin : S → Y) : List α → S → Y
  | [], s => fin s
  | x :: t, s => match stp x s with
    | .inl s' => foldE stp fin t s'
    | .inr y => y
theorem iter_list {α S Y : Type} (l : List α) (d : α) {body : Int × S → Option ((Int × S) ⊕ Y)} (stp : α → S → S ⊕ Y) (fin : S → Y) (Inv : S → Prop) (hl : l.length < 9223372036854775807)
    (h1 : ∀ (i : Nat) s, i < l.length → Inv s → body ((i : Int), s) = some (stepOut (i : Int) (stp (l.getD i d) s)))
    (h2 : ∀ x ∈ l, ∀ s s', Inv s → stp x s = .inl s' → Inv s')
    (h3 : ∀ s, Inv s → body ((l.length : Int), s) = some (.inr (fin s))) (s : S) (hs : Inv s) : iter body big (0, s) = some (foldE stp fin l s) := by
  have key : ∀ (t : List α) (i : Nat) (N : Nat) (s : S), Inv s → l.drop i = t → i + t.length = l.length → t.length < N → iter body N ((i : Int), s) = some (foldE stp fin t s) := by
    intro t
    induction t with
    | nil =>
      intro i N s hs hd hi hN
      obtain ⟨N, rfl⟩ : ∃ M, N = M + 1 := ⟨N - 1, by simp at hN; omega⟩
      have : i = l.length := by simpa using hi
      subst this
      unfold iter
      rw [h3 s hs]
      rfl
    | cons x t ih =>
      intro i N s hs hd hi hN
      simp only [List.length_cons] at hi hN
      obtain ⟨N, rfl⟩ : ∃ M, N = M + 1 := ⟨N - 1, by omega⟩
      have hil : i < l.length := by omega
      have hx : l.getD i d = x := by
        have := List.drop_eq_getElem_cons hil
        rw [hd] at this
        simp only [List.cons.injEq] at this
        simp [List.getD, hil, this.1]
      have ht : l.drop (i + 1) = t := by
        have := List.drop_eq_getElem_cons hil
        rw [hd] at this
        simp only [List.cons.injEq] at this
        exact this.2.symm
      unfold iter foldE
      rw [h1 i s hil hs, hx]
      cases e : stp x s with
      | inl s' =>
        have hmem : x ∈ l := by
          have := List.drop_subset i l (a := x) (by rw [hd]; exact List.mem_cons_self)
          exact this
        exact ih (i + 1) N s' (h2 x hmem s s' hs e) ht (by omega) (by omega)
      | inr y => rfl
  exact key l 0 big s hs (by simp) (by simp) (by unfold big; omega)

def numS (p q r : Int) (s : List Int) : Int := sqS (s.getD 0 0) (s.getD 1 0) (s.getD 2 0) p q r
def denS (p q r : Int) (s : List Int) : Int := sqS 16384 (s.getD 3 0) (s.getD 4 0) p q r
def upS (x h : Int) : Int := (x * h + 1048575) / 1048576
def grStep (p q r : Int) (s : List Int) (x : Int × Int) : (Int × Int) ⊕ (Int ⊕ (Int × Int)) :=
  if denS p q r s = 0 then .inr (.inl 11) else
  if ptH (numS p q r s) (denS p q r s) > 1073741824 then .inr (.inl 8) else
  if upS x.2 (ptH (numS p q r s) (denS p q r s)) > 1073741824 then .inr (.inl 8) else
  .inl (x.1 * ptQ (numS p q r s) (denS p q r s) / 1048576, upS x.2 (ptH (numS p q r s) (denS p q r s)))
def grInv (x : Int × Int) : Prop := 0 ≤ x.1 ∧ x.1 ≤ x.2 ∧ x.2 ≤ 1073741824

theorem row_in {s : List Int} (h : chkRow s = 0) : (-32768 ≤ s.getD 0 0 ∧ s.getD 0 0 ≤ 32768) ∧ (-32768 ≤ s.getD 1 0 ∧ s.getD 1 0 ≤ 32768) ∧ (-32768 ≤ s.getD 2 0 ∧ s.getD 2 0 ≤ 32768) ∧ (-32768 ≤ s.getD 3 0 ∧ s.getD 3 0 ≤ 32768) ∧ (-32768 ≤ s.getD 4 0 ∧ s.getD 4 0 ≤ 32768) := part_of_chk h

theorem num_in {p q r : Int} {s : List Int} (h : chkRow s = 0) (ht : turnE p q r = 0) : 0 ≤ numS p q r s ∧ numS p q r s < 4611686018427387904 := by
  obtain ⟨h0, h1, h2, h3, h4⟩ := row_in h
  exact sq_in h0 h1 h2 ht
theorem den_in {p q r : Int} {s : List Int} (h : chkRow s = 0) (ht : turnE p q r = 0) : 0 ≤ denS p q r s ∧ denS p q r s < 4611686018427387904 := by
  obtain ⟨h0, h1, h2, h3, h4⟩ := row_in h
  exact sq_in (by decide) h3 h4 ht

theorem gr_inv {p q r : Int} {s : List Int} (h : chkRow s = 0) (ht : turnE p q r = 0) {x y : Int × Int} (hx : grInv x) (e : grStep p q r s x = .inl y) : grInv y := by
  unfold grStep at e
  split at e
  · cases e
  · rename_i hd
    split at e
    · cases e
    · split at e
      · cases e
      · rename_i c1 c2
        cases e
        obtain ⟨a1, a2⟩ := num_in (p := p) (q := q) (r := r) h ht
        obtain ⟨b1, b2⟩ := den_in (p := p) (q := q) (r := r) h ht
        have q0 := ptQ_nonneg (n := numS p q r s) (d := denS p q r s) a1 (by omega)
        have qh := ptH_ge (numS p q r s) (denS p q r s)
        unfold grInv at *
        obtain ⟨x0, x1, x2⟩ := hx
        dsimp only
        have k1 : 0 ≤ x.1 * ptQ (numS p q r s) (denS p q r s) := Int.mul_nonneg x0 q0
        have k2 : x.1 * ptQ (numS p q r s) (denS p q r s) ≤ x.2 * ptH (numS p q r s) (denS p q r s) := Int.mul_le_mul x1 qh q0 (by omega)
        unfold upS at *
        omega

theorem rangeF_step {c : List (List Int)} {p q r : Int} (hc : chkE c = 0) (ht : turnE p q r = 0) (i : Nat) (x : Int × Int) (hi : i < c.length) (hx : grInv x) :
    F_GainRange_b0 c p q r ((i : Int), x) = some (stepOut (i : Int) (grStep p q r (c.getD i []) x)) := by
  obtain ⟨hl, hall⟩ := bounds_chk hc
  have hrow : chkRow (c.getD i []) = 0 := hall _ (by simp [List.getD, hi])
  obtain ⟨t1, t2, t3, t4⟩ := turn_in ht
  unfold F_GainRange_b0
  dsimp only
  rw [if_pos (by omega), if_pos (by omega), if_pos (by omega), Int.toNat_natCast, if_pos ⟨secB_chk hrow, by omega, by omega, by omega, by omega⟩]
  obtain ⟨a1, a2⟩ := num_in (p := p) (q := q) (r := r) hrow ht
  obtain ⟨b1, b2⟩ := den_in (p := p) (q := q) (r := r) hrow ht
  unfold grStep
  rw [show sqS 16384 ((c.getD i []).getD 3 0) ((c.getD i []).getD 4 0) p q r = denS p q r (c.getD i []) from rfl, show sqS ((c.getD i []).getD 0 0) ((c.getD i []).getD 1 0) ((c.getD i []).getD 2 0) p q r = numS p q r (c.getD i []) from rfl]
  generalize numS p q r (c.getD i []) = n at *
  generalize denS p q r (c.getD i []) = d at *
  by_cases h0 : d = 0
  · rw [if_pos (by simpa using h0), if_pos h0]
    rfl
  · rw [if_neg (by simpa using h0), if_neg h0, partsF_eq a1 a2 (by omega) b2, bind_some']
    have q0 := ptQ_nonneg (n := n) (d := d) a1 (by omega)
    have qh := ptH_ge n d
    by_cases c1 : ptH n d > 1073741824
    · rw [if_pos c1]
      by_cases c2 : ptQ n d > 1073741824
      · rw [if_pos c2, if_pos (by rfl)]
        rfl
      · rw [if_neg c2, if_pos (by simpa using c1)]
        rfl
    · rw [if_neg c1, if_neg (show ¬ ptQ n d > 1073741824 by omega), if_neg (by simpa using c1)]
      obtain ⟨x0, x1, x2⟩ := hx
      generalize ptH n d = h at *
      generalize ptQ n d = l at *
      have k0 : 0 ≤ x.2 * h := Int.mul_nonneg (by omega) (by omega)
      have k1 := Int.mul_le_mul (show x.2 ≤ 1073741824 by omega) (show h ≤ 1073741824 by omega) (by omega) (by decide)
      have k2 : 0 ≤ x.1 * l := Int.mul_nonneg (by omega) (by omega)
      have k3 := Int.mul_le_mul (show x.1 ≤ 1073741824 by omega) (show l ≤ 1073741824 by omega) (by omega) (by decide)
      dsimp only
      rw [wr64 (x := x.2 * h) (by omega), wr64 (x := x.2 * h + 1048576) (by omega), wr64 (x := x.2 * h + 1048576 - 1) (by omega), Int.tdiv_eq_ediv_of_nonneg (by omega), wr64 (x := x.1 * l) (by omega), Int.tdiv_eq_ediv_of_nonneg k2, wr64 (x := (i : Int) + 1) (by omega),
        wr64 (x := (x.2 * h + 1048576 - 1) / 1048576) (by omega), wr64 (x := x.1 * l / 1048576) (by omega), show x.2 * h + 1048576 - 1 = x.2 * h + 1048575 by omega]
      unfold upS
      by_cases c3 : (x.2 * h + 1048575) / 1048576 > 1073741824
      · rw [if_pos c3, if_pos c3]
        rfl
      · rw [if_neg c3, if_neg c3]
        rfl

def outG : Int ⊕ (Int × Int) → Int × Int × Int
  | .inl e => (0, 0, e)
  | .inr x => (x.1, x.2, 0)
/-- The enclosure of the gain of a cascade. -/
def grS (c : List (List Int)) (p q r : Int) : Int × Int × Int := outG (foldE (grStep p q r) .inr c (1048576, 1048576))

theorem rangeF_eq {c : List (List Int)} {p q r : Int} (hl : c.length ≤ 1000000000) : F_GainRange c p q r = some (if chkE c ≠ 0 then (0, 0, chkE c) else if turnE p q r ≠ 0 then (0, 0, turnE p q r) else grS c p q r) := by
  unfold F_GainRange
  rw [if_pos hl, if_pos (by simp)]
  by_cases hc : chkE c = 0
  · by_cases ht : turnE p q r = 0
    · obtain ⟨hl6, hall⟩ := bounds_chk hc
      rw [hc, ht, if_neg (by decide), if_neg (by decide), if_neg (by decide)]
      rw [iter_list c [] (grStep p q r) .inr grInv (by omega) (fun i s hi hs => rangeF_step hc ht i s hi hs) (fun x hx s s' hs e => gr_inv (hall x hx) ht hs e) (fun s _ => by unfold F_GainRange_b0; rw [if_neg (by dsimp only; omega)]) (1048576, 1048576) ⟨by decide, by decide, by decide⟩, bind_some']
      unfold grS
      cases foldE (grStep p q r) .inr c (1048576, 1048576) <;> rfl
    · have e : (Option.getD (List.find? (fun x => x != (0 : Int)) [chkE c, turnE p q r]) (0 : Int)) = turnE p q r := by
        have h1 : (turnE p q r != 0) = true := by simpa using ht
        rw [hc]
        simp [List.find?, h1]
      rw [e, if_pos (by simpa using ht), if_neg (show ¬ chkE c ≠ 0 from fun h => h hc), if_pos ht]
  · have e : (Option.getD (List.find? (fun x => x != (0 : Int)) [chkE c, turnE p q r]) (0 : Int)) = chkE c := by
      have h1 : (chkE c != 0) = true := by simpa using hc
      simp [List.find?, h1]
    rw [e, if_pos (by simpa using hc), if_pos hc]
end Go.Sh

namespace Go.Sh
open Go Go.Proofs Go.RowKit Go.Sx Go.Sx06

/-- The gain squared of a section. -/
def gsS (b0 b1 b2 a0 a1 p q r : Int) : Int × Int × Int :=
  if chkS b0 b1 b2 a0 a1 ≠ 0 then (0, 0, chkS b0 b1 b2 a0 a1) else if turnE p q r ≠ 0 then (0, 0, turnE p q r) else
  if sqS 16384 a0 a1 p q r = 0 then (0, 0, 11) else
  if 1000000000 < (lowS (sqS b0 b1 b2 p q r) (sqS 16384 a0 a1 p q r)).1 ∨ 1000000000 < (lowS (sqS b0 b1 b2 p q r) (sqS 16384 a0 a1 p q r)).2 then (0, 0, 8) else
  ((lowS (sqS b0 b1 b2 p q r) (sqS 16384 a0 a1 p q r)).1, (lowS (sqS b0 b1 b2 p q r) (sqS 16384 a0 a1 p q r)).2, 0)

theorem find2 {a b : Int} : Option.getD (List.find? (fun x => x != (0 : Int)) [a, b]) (0 : Int) = if a ≠ 0 then a else b := by
  by_cases ha : a = 0
  · subst ha
    by_cases hb : b = 0
    · subst hb
      rfl
    · have h1 : (b != 0) = true := by simpa using hb
      simp [List.find?, h1]
  · have h1 : (a != 0) = true := by simpa using ha
    simp [List.find?, h1, ha]

theorem gainSquareF_eq (b0 b1 b2 a0 a1 p q r : Int) : F_GainSquare b0 b1 b2 a0 a1 p q r = some (gsS b0 b1 b2 a0 a1 p q r) := by
  unfold F_GainSquare
  rw [if_pos (by simp), find2]
  by_cases hc : chkS b0 b1 b2 a0 a1 = 0
  · rw [if_neg (show ¬ chkS b0 b1 b2 a0 a1 ≠ 0 from fun h => h hc)]
    by_cases ht : turnE p q r = 0
    · rw [if_neg (by simpa using ht)]
      obtain ⟨t1, t2, t3, t4⟩ := turn_in ht
      obtain ⟨g0, g1, g2, g3, g4⟩ := part_of_chk hc
      rw [if_pos ⟨secB_chk hc, by omega, by omega, by omega, by omega⟩]
      unfold gsS
      rw [if_neg (show ¬ chkS b0 b1 b2 a0 a1 ≠ 0 from fun h => h hc), if_neg (show ¬ turnE p q r ≠ 0 from fun h => h ht)]
      obtain ⟨u1, u2⟩ := sq_in g0 g1 g2 ht
      obtain ⟨w1, w2⟩ := sq_in (a := 16384) (by decide) g3 g4 ht
      generalize sqS b0 b1 b2 p q r = n at *
      generalize sqS 16384 a0 a1 p q r = d at *
      by_cases h0 : d = 0
      · rw [if_pos (by simpa using h0), if_pos h0]
      · rw [if_neg (by simpa using h0), if_neg h0, lowestF_eq (by unfold inJ; omega) (by unfold inJ; omega) h0, bind_some']
        by_cases c1 : (lowS n d).1 > 1000000000
        · rw [if_pos c1, if_pos (.inl c1)]
        · rw [if_neg c1]
          by_cases c2 : (lowS n d).2 > 1000000000
          · rw [if_pos c2, if_pos (.inr c2)]
          · rw [if_neg c2, if_neg (by omega)]
    · rw [if_pos (by simpa using ht)]
      unfold gsS
      rw [if_neg (show ¬ chkS b0 b1 b2 a0 a1 ≠ 0 from fun h => h hc), if_pos ht]
  · rw [if_pos hc, if_pos (by simpa using hc)]
    unfold gsS
    rw [if_pos hc]

/-- What is told, when it is told. -/
theorem gs_told {b0 b1 b2 a0 a1 p q r : Int} (h : (gsS b0 b1 b2 a0 a1 p q r).2.2 = 0) :
    chkS b0 b1 b2 a0 a1 = 0 ∧ turnE p q r = 0 ∧ 0 < sqS 16384 a0 a1 p q r ∧ 0 ≤ sqS b0 b1 b2 p q r ∧
    (gsS b0 b1 b2 a0 a1 p q r).1 = (lowS (sqS b0 b1 b2 p q r) (sqS 16384 a0 a1 p q r)).1 ∧ (gsS b0 b1 b2 a0 a1 p q r).2.1 = (lowS (sqS b0 b1 b2 p q r) (sqS 16384 a0 a1 p q r)).2 ∧
    (0 ≤ (gsS b0 b1 b2 a0 a1 p q r).1 ∧ (gsS b0 b1 b2 a0 a1 p q r).1 ≤ 1000000000) ∧ (0 < (gsS b0 b1 b2 a0 a1 p q r).2.1 ∧ (gsS b0 b1 b2 a0 a1 p q r).2.1 ≤ 1000000000) := by
  unfold gsS at *
  by_cases hc : chkS b0 b1 b2 a0 a1 = 0
  · rw [if_neg (show ¬ chkS b0 b1 b2 a0 a1 ≠ 0 from fun h => h hc)] at *
    by_cases ht : turnE p q r = 0
    · rw [if_neg (fun h => h ht)] at *
      obtain ⟨g0, g1, g2, g3, g4⟩ := part_of_chk hc
      obtain ⟨u1, u2⟩ := sq_in g0 g1 g2 ht
      obtain ⟨w1, w2⟩ := sq_in (a := 16384) (by decide) g3 g4 ht
      generalize sqS b0 b1 b2 p q r = n at *
      generalize sqS 16384 a0 a1 p q r = d at *
      by_cases h0 : d = 0
      · rw [if_pos h0] at h
        cases h
      · rw [if_neg h0] at *
        obtain ⟨g, _, _, _, k1, k2⟩ := low_of u1 (show 0 < d by omega)
        by_cases c1 : 1000000000 < (lowS n d).1 ∨ 1000000000 < (lowS n d).2
        · rw [if_pos c1] at h
          cases h
        · rw [if_neg c1]
          dsimp only
          exact ⟨hc, ht, by omega, u1, rfl, rfl, by omega, by omega⟩
    · rw [if_pos ht] at h
      exact absurd h ht
  · rw [if_pos hc] at h
    exact absurd h hc

theorem ptQ_mul {n d : Int} (hd : 0 < d) : ptQ n d * d ≤ n * 1048576 := Int.ediv_mul_le _ (by omega)
theorem ptH_mul {n d : Int} (hd : 0 < d) : n * 1048576 ≤ ptH n d * d := by
  have h1 := Int.mul_ediv_add_emod (n * 1048576) d
  have h2 := Int.emod_lt_of_pos (n * 1048576) hd
  unfold ptH
  rw [Int.mul_comm] at h1
  split
  · unfold ptQ
    omega
  · rw [Int.add_mul]
    unfold ptQ
    omega
theorem cmp_le {a b n d : Int} (h : a * d ≤ n * b) : cmpS a b n d ≤ 0 := by
  unfold cmpS
  split
  · decide
  · rw [if_neg (by omega)]
    decide
theorem cmp_ge {a b n d : Int} (h : n * b ≤ a * d) : 0 ≤ cmpS a b n d := by
  unfold cmpS
  rw [if_neg (by omega)]
  split <;> decide

theorem gr_step_one {s : List Int} {p q r : Int} : (grStep p q r s (1048576, 1048576)) =
    if denS p q r s = 0 then .inr (.inl 11) else
    if ptH (numS p q r s) (denS p q r s) > 1073741824 then .inr (.inl 8) else
    .inl (ptQ (numS p q r s) (denS p q r s), ptH (numS p q r s) (denS p q r s)) := by
  unfold grStep upS
  have e1 : (1048576 * ptH (numS p q r s) (denS p q r s) + 1048575) / 1048576 = ptH (numS p q r s) (denS p q r s) := by omega
  have e2 : 1048576 * ptQ (numS p q r s) (denS p q r s) / 1048576 = ptQ (numS p q r s) (denS p q r s) := by omega
  dsimp only
  rw [e1, e2]
  by_cases c0 : denS p q r s = 0
  · rw [if_pos c0, if_pos c0]
  · rw [if_neg c0, if_neg c0]
    by_cases c1 : ptH (numS p q r s) (denS p q r s) > 1073741824
    · rw [if_pos c1, if_pos c1]
    · rw [if_neg c1, if_neg c1]

end Go.Sh

namespace Go.Sh
open Go Go.Proofs Go.RowKit Go.Sx Go.Sx06

end Go.Sh

namespace Go.Sh
open Go Go.Proofs Go.RowKit Go.Sx Go.Sx06

end Go.Sh

namespace Go.Sh
open Go Go.Proofs Go.RowKit Go.Sx Go.Sx06

end Go.Sh

namespace Go.Sh
open Go Go.Proofs Go.RowKit Go.Sx Go.Sx06

theorem gr_two {s t : List Int} {p q r : Int} : grS [s, t] p q r =
    if denS p q r s = 0 then (0, 0, 11) else if ptH (numS p q r s) (denS p q r s) > 1073741824 then (0, 0, 8) else
    if denS p q r t = 0 then (0, 0, 11) else if ptH (numS p q r t) (denS p q r t) > 1073741824 then (0, 0, 8) else
    if upS (ptH (numS p q r s) (denS p q r s)) (ptH (numS p q r t) (denS p q r t)) > 1073741824 then (0, 0, 8) else
    (ptQ (numS p q r s) (denS p q r s) * ptQ (numS p q r t) (denS p q r t) / 1048576, upS (ptH (numS p q r s) (denS p q r s)) (ptH (numS p q r t) (denS p q r t)), 0) := by
  unfold grS foldE
  rw [gr_step_one]
  by_cases c0 : denS p q r s = 0
  · rw [if_pos c0, if_pos c0]
    rfl
  · rw [if_neg c0, if_neg c0]
    by_cases c1 : ptH (numS p q r s) (denS p q r s) > 1073741824
    · rw [if_pos c1, if_pos c1]
      rfl
    · rw [if_neg c1, if_neg c1]
      dsimp only
      unfold foldE grStep
      by_cases c2 : denS p q r t = 0
      · rw [if_pos c2, if_pos c2]
        rfl
      · rw [if_neg c2, if_neg c2]
        by_cases c3 : ptH (numS p q r t) (denS p q r t) > 1073741824
        · rw [if_pos c3, if_pos c3]
          rfl
        · rw [if_neg c3, if_neg c3]
          dsimp only
          by_cases c4 : upS (ptH (numS p q r s) (denS p q r s)) (ptH (numS p q r t) (denS p q r t)) > 1073741824
          · rw [if_pos c4, if_pos c4]
            rfl
          · rw [if_neg c4, if_neg c4]
            rfl

/-- Two enclosures, multiplied. -/
theorem mul_low {l m n d n' d' : Int} (hl : 0 ≤ l) (hm : 0 ≤ m) (hd : 0 < d) (hd' : 0 < d') (h1 : l * d ≤ n * 1048576) (h2 : m * d' ≤ n' * 1048576) :
    l * m / 1048576 * (d * d') ≤ n * n' * 1048576 := by
  have k1 : l * m / 1048576 * 1048576 ≤ l * m := Int.ediv_mul_le _ (by decide)
  have k2 : (l * d) * (m * d') ≤ (n * 1048576) * (n' * 1048576) := Int.mul_le_mul h1 h2 (Int.mul_nonneg hm (by omega)) (Int.le_trans (Int.mul_nonneg hl (by omega)) h1)
  have k3 : l * m / 1048576 * 1048576 * (d * d') ≤ l * m * (d * d') := Int.mul_le_mul_of_nonneg_right k1 (Int.mul_nonneg (by omega) (by omega))
  have e1 : (l * d) * (m * d') = l * m * (d * d') := by grind
  have e2 : (n * 1048576) * (n' * 1048576) = n * n' * 1048576 * 1048576 := by grind
  have e3 : l * m / 1048576 * 1048576 * (d * d') = l * m / 1048576 * (d * d') * 1048576 := by grind
  rw [e1, e2] at k2
  rw [e3] at k3
  omega
theorem mul_high {h g n d n' d' : Int} (hh : 0 ≤ h) (hn : 0 ≤ n) (hn' : 0 ≤ n') (hd : 0 < d) (hd' : 0 < d') (h1 : n * 1048576 ≤ h * d) (h2 : n' * 1048576 ≤ g * d') :
    n * n' * 1048576 ≤ upS h g * (d * d') := by
  have k1 : h * g ≤ upS h g * 1048576 := by unfold upS; omega
  have k2 : (n * 1048576) * (n' * 1048576) ≤ (h * d) * (g * d') := Int.mul_le_mul h1 h2 (by omega) (Int.le_trans (by omega) h1)
  have k3 : h * g * (d * d') ≤ upS h g * 1048576 * (d * d') := Int.mul_le_mul_of_nonneg_right k1 (Int.mul_nonneg (by omega) (by omega))
  have e1 : (h * d) * (g * d') = h * g * (d * d') := by grind
  have e2 : (n * 1048576) * (n' * 1048576) = n * n' * 1048576 * 1048576 := by grind
  have e3 : upS h g * 1048576 * (d * d') = upS h g * (d * d') * 1048576 := by grind
  rw [e1, e2] at k2
  rw [e3] at k3
  omega

theorem gains_mul {a0 a1 a2 a3 a4 b0 b1 b2 b3 b4 p q r : Int} (ha : (gsS a0 a1 a2 a3 a4 p q r).2.2 = 0) (hb : (gsS b0 b1 b2 b3 b4 p q r).2.2 = 0) {lo hi : Int}
    (hr : grS [[a0, a1, a2, a3, a4], [b0, b1, b2, b3, b4]] p q r = (lo, hi, 0)) :
    (0 ≤ lo ∧ lo ≤ hi ∧ hi ≤ 1073741824) ∧ cmpS lo 1048576 ((gsS a0 a1 a2 a3 a4 p q r).1 * (gsS b0 b1 b2 b3 b4 p q r).1) ((gsS a0 a1 a2 a3 a4 p q r).2.1 * (gsS b0 b1 b2 b3 b4 p q r).2.1) ≤ 0 ∧
    0 ≤ cmpS hi 1048576 ((gsS a0 a1 a2 a3 a4 p q r).1 * (gsS b0 b1 b2 b3 b4 p q r).1) ((gsS a0 a1 a2 a3 a4 p q r).2.1 * (gsS b0 b1 b2 b3 b4 p q r).2.1) := by
  obtain ⟨k1, k2, k3, k4, k5, k6, k7, k8⟩ := gs_told ha
  obtain ⟨j1, j2, j3, j4, j5, j6, j7, j8⟩ := gs_told hb
  rw [gr_two] at hr
  rw [show numS p q r [a0, a1, a2, a3, a4] = sqS a0 a1 a2 p q r from rfl, show denS p q r [a0, a1, a2, a3, a4] = sqS 16384 a3 a4 p q r from rfl, show numS p q r [b0, b1, b2, b3, b4] = sqS b0 b1 b2 p q r from rfl, show denS p q r [b0, b1, b2, b3, b4] = sqS 16384 b3 b4 p q r from rfl] at hr
  rw [k5, k6, j5, j6]
  have ha1 := ptQ_mul (n := sqS a0 a1 a2 p q r) k3
  have ha2 := ptH_mul (n := sqS a0 a1 a2 p q r) k3
  have hb1 := ptQ_mul (n := sqS b0 b1 b2 p q r) j3
  have hb2 := ptH_mul (n := sqS b0 b1 b2 p q r) j3
  have ha3 := ptQ_nonneg k4 k3
  have hb3 := ptQ_nonneg j4 j3
  have ha4 := ptH_ge (sqS a0 a1 a2 p q r) (sqS 16384 a3 a4 p q r)
  have hb4 := ptH_ge (sqS b0 b1 b2 p q r) (sqS 16384 b3 b4 p q r)
  obtain ⟨g, hg, e1, e2, n1, n2⟩ := low_of k4 k3
  obtain ⟨g', hg', e1', e2', n1', n2'⟩ := low_of j4 j3
  clear k5 k6 k7 k8 j5 j6 j7 j8 ha hb
  generalize (lowS (sqS a0 a1 a2 p q r) (sqS 16384 a3 a4 p q r)).1 = N at *
  generalize (lowS (sqS a0 a1 a2 p q r) (sqS 16384 a3 a4 p q r)).2 = D at *
  generalize (lowS (sqS b0 b1 b2 p q r) (sqS 16384 b3 b4 p q r)).1 = N' at *
  generalize (lowS (sqS b0 b1 b2 p q r) (sqS 16384 b3 b4 p q r)).2 = D' at *
  generalize sqS a0 a1 a2 p q r = n at *
  generalize sqS 16384 a3 a4 p q r = d at *
  generalize sqS b0 b1 b2 p q r = n' at *
  generalize sqS 16384 b3 b4 p q r = d' at *
  generalize ptQ n d = l at *
  generalize ptH n d = h at *
  generalize ptQ n' d' = m at *
  generalize ptH n' d' = f at *
  have c1 : l * D ≤ N * 1048576 := by
    refine Int.le_of_mul_le_mul_left (a := g) ?_ hg
    rw [Int.mul_left_comm, ← e2, ← Int.mul_assoc, ← e1]
    exact ha1
  have c2 : N * 1048576 ≤ h * D := by
    refine Int.le_of_mul_le_mul_left (a := g) ?_ hg
    rw [Int.mul_left_comm g h, ← e2, ← Int.mul_assoc, ← e1]
    exact ha2
  have c3 : m * D' ≤ N' * 1048576 := by
    refine Int.le_of_mul_le_mul_left (a := g') ?_ hg'
    rw [Int.mul_left_comm, ← e2', ← Int.mul_assoc, ← e1']
    exact hb1
  have c4 : N' * 1048576 ≤ f * D' := by
    refine Int.le_of_mul_le_mul_left (a := g') ?_ hg'
    rw [Int.mul_left_comm g' f, ← e2', ← Int.mul_assoc, ← e1']
    exact hb2
  rw [if_neg (by omega)] at hr
  split at hr
  · cases hr
  · rw [if_neg (by omega)] at hr
    split at hr
    · cases hr
    · split at hr
      · cases hr
      · cases hr
        have q1 : 0 ≤ l * m := Int.mul_nonneg ha3 hb3
        have q2 : l * m ≤ h * f := Int.mul_le_mul ha4 hb4 hb3 (by omega)
        refine ⟨⟨by omega, by unfold upS; omega, by omega⟩, cmp_le (mul_low ha3 hb3 n2 n2' c1 c3), cmp_ge (mul_high (by omega) n1 n1' n2 n2' c2 c4)⟩

theorem gr_two_ok {s t : List Int} {p q r : Int} (h : (grS [s, t] p q r).2.2 = 0) : grS [s, t] p q r =
    (ptQ (numS p q r s) (denS p q r s) * ptQ (numS p q r t) (denS p q r t) / 1048576, upS (ptH (numS p q r s) (denS p q r s)) (ptH (numS p q r t) (denS p q r t)), 0) := by
  rw [gr_two] at *
  by_cases c0 : denS p q r s = 0
  · rw [if_pos c0] at h
    cases h
  · rw [if_neg c0] at *
    by_cases c1 : ptH (numS p q r s) (denS p q r s) > 1073741824
    · rw [if_pos c1] at h
      cases h
    · rw [if_neg c1] at *
      by_cases c2 : denS p q r t = 0
      · rw [if_pos c2] at h
        cases h
      · rw [if_neg c2] at *
        by_cases c3 : ptH (numS p q r t) (denS p q r t) > 1073741824
        · rw [if_pos c3] at h
          cases h
        · rw [if_neg c3] at *
          by_cases c4 : upS (ptH (numS p q r s) (denS p q r s)) (ptH (numS p q r t) (denS p q r t)) > 1073741824
          · rw [if_pos c4] at h
            cases h
          · rw [if_neg c4]
theorem gr_swap {s t : List Int} {p q r : Int} (h : (grS [s, t] p q r).2.2 = 0) (h' : (grS [t, s] p q r).2.2 = 0) : grS [t, s] p q r = grS [s, t] p q r := by
  rw [gr_two_ok h, gr_two_ok h']
  unfold upS
  rw [Int.mul_comm (ptQ (numS p q r t) (denS p q r t)), Int.mul_comm (ptH (numS p q r t) (denS p q r t))]

/-- What a range tells without an error. -/
theorem told_of {c : List (List Int)} {p q r : Int} {x : Int × Int × Int} (e : (if chkE c ≠ 0 then ((0 : Int), (0 : Int), chkE c) else if turnE p q r ≠ 0 then (0, 0, turnE p q r) else grS c p q r) = x) (h : x.2.2 = 0) : grS c p q r = x ∧ chkE c = 0 ∧ turnE p q r = 0 := by
  by_cases h1 : chkE c = 0
  · rw [if_neg (show ¬ chkE c ≠ 0 from fun h => h h1)] at e
    by_cases h2 : turnE p q r = 0
    · rw [if_neg (show ¬ turnE p q r ≠ 0 from fun h => h h2)] at e
      exact ⟨e, h1, h2⟩
    · rw [if_pos h2] at e
      rw [← e] at h
      exact absurd h h2
  · rw [if_pos h1] at e
    rw [← e] at h
    exact absurd h h1

theorem fold_inv {p q r : Int} (ht : turnE p q r = 0) : ∀ (c : List (List Int)) (x : Int × Int), (∀ s ∈ c, chkRow s = 0) → grInv x → ∀ y, foldE (grStep p q r) .inr c x = .inr y → grInv y
  | [], x, _, hx, y, e => by
    cases e
    exact hx
  | s :: c, x, hc, hx, y, e => by
    unfold foldE at e
    cases h : grStep p q r s x with
    | inl z =>
      rw [h] at e
      exact fold_inv ht c z (fun s hs => hc s (List.mem_cons_of_mem _ hs)) (gr_inv (hc s List.mem_cons_self) ht hx h) y e
    | inr z =>
      rw [h] at e
      dsimp only at e
      subst e
      unfold grStep at h
      split at h
      · cases h
      · split at h
        · cases h
        · split at h
          · cases h
          · cases h
theorem gr_ordered {c : List (List Int)} {p q r lo hi : Int} (hc : chkE c = 0) (ht : turnE p q r = 0) (e : grS c p q r = (lo, hi, 0)) : lo ≤ hi := by
  unfold grS at e
  cases h : foldE (grStep p q r) .inr c (1048576, 1048576) with
  | inl z =>
    rw [h] at e
    cases e
    exact Int.le_refl _
  | inr z =>
    rw [h] at e
    have := fold_inv ht c (1048576, 1048576) (bounds_chk hc).2 ⟨by decide, by decide, by decide⟩ z h
    cases e
    exact this.2.1

theorem topGains_true (a0 a1 a2 a3 a4 b0 b1 b2 b3 b4 p q r : Int) : T_TopGainsMultiply a0 a1 a2 a3 a4 b0 b1 b2 b3 b4 p q r = some true := by
  unfold T_TopGainsMultiply
  rw [rangeF_eq (by simp), bind_some', rangeF_eq (by simp), bind_some']
  generalize e1 : (if chkE [[a0, a1, a2, a3, a4], [b0, b1, b2, b3, b4]] ≠ 0 then ((0 : Int), (0 : Int), chkE [[a0, a1, a2, a3, a4], [b0, b1, b2, b3, b4]]) else if turnE p q r ≠ 0 then (0, 0, turnE p q r) else grS [[a0, a1, a2, a3, a4], [b0, b1, b2, b3, b4]] p q r) = x
  generalize e2 : (if chkE [[b0, b1, b2, b3, b4], [a0, a1, a2, a3, a4]] ≠ 0 then ((0 : Int), (0 : Int), chkE [[b0, b1, b2, b3, b4], [a0, a1, a2, a3, a4]]) else if turnE p q r ≠ 0 then (0, 0, turnE p q r) else grS [[b0, b1, b2, b3, b4], [a0, a1, a2, a3, a4]] p q r) = y
  by_cases hx : x.2.2 = 0
  · rw [if_neg (by simpa using hx)]
    by_cases hy : y.2.2 = 0
    · rw [if_neg (by simpa using hy)]
      have tx := told_of e1 hx
      have ty := told_of e2 hy
      have exy : y = x := by
        rw [← tx.1, ← ty.1]
        exact gr_swap (by rw [tx.1]; exact hx) (by rw [ty.1]; exact hy)
      subst exy
      clear e1 e2 ty hy
      obtain ⟨lo, hi, er⟩ := y
      dsimp only at hx
      subst hx
      rw [gainSquareF_eq, gainSquareF_eq]
      dsimp only
      simp only [bind_some', gt_iff_lt, Int.lt_irrefl, if_false]
      have hlh : lo ≤ hi := gr_ordered tx.2.1 tx.2.2 tx.1
      by_cases ha : (gsS a0 a1 a2 a3 a4 p q r).2.2 = 0
      · by_cases hb : (gsS b0 b1 b2 b3 b4 p q r).2.2 = 0
        · obtain ⟨hl, m1, m2⟩ := gains_mul ha hb tx.1
          obtain ⟨_, _, _, _, _, _, k7, k8⟩ := gs_told ha
          obtain ⟨_, _, _, _, _, _, j7, j8⟩ := gs_told hb
          generalize gsS a0 a1 a2 a3 a4 p q r = g at *
          generalize gsS b0 b1 b2 b3 b4 p q r = f at *
          rw [if_neg (by omega), if_neg (by simpa using ha), if_neg (by simpa using hb)]
          by_cases c1 : 1000000 < g.1
          · rw [if_pos c1]
          rw [if_neg c1]
          by_cases c2 : 1000000 < g.2.1
          · rw [if_pos c2]
          rw [if_neg c2]
          by_cases c3 : 1000000 < f.1
          · rw [if_pos c3]
          rw [if_neg c3]
          by_cases c4 : 1000000 < f.2.1
          · rw [if_pos c4]
          rw [if_neg c4]
          have n1 := Int.mul_nonneg k7.1 j7.1
          have n2 := Int.mul_le_mul (show g.1 ≤ 1000000 by omega) (show f.1 ≤ 1000000 by omega) j7.1 (by decide)
          have d1 := Int.mul_pos k8.1 j8.1
          have d2 := Int.mul_le_mul (show g.2.1 ≤ 1000000 by omega) (show f.2.1 ≤ 1000000 by omega) (by omega) (by decide)
          rw [wr64 (x := g.1 * f.1) (by omega), wr64 (x := g.2.1 * f.2.1) (by omega)]
          generalize g.1 * f.1 = N at *
          generalize g.2.1 * f.2.1 = D at *
          rw [compare_eq (by omega) (by omega) (by decide) (by decide) n1 (by omega) d1 (by omega), bind_some', if_pos m1, compare_eq (by omega) (by omega) (by decide) (by decide) n1 (by omega) d1 (by omega), bind_some', decide_eq_true m2]
        · rw [if_neg (by omega), if_neg (by simpa using ha), if_pos (by simpa using hb)]
      · rw [if_neg (by omega), if_pos (by simpa using ha)]
    · rw [if_pos (by simpa using hy)]
  · rw [if_pos (by simpa using hx)]
end Go.Sh
