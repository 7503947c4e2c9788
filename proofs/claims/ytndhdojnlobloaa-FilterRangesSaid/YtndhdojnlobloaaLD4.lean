/- Plain facts: Div64 is the quotient and the rest. -/
import Derived.Test.YtndhdojnlobloaaLD3
namespace Go.Sh
open Go Go.Proofs Go.RowKit Go.Sx Go.Sx06

theorem wn (n : Nat) (h : n < 18446744073709551616) : IntKind.u64.wrap (n : Int) = n := by
  rw [u64m]
  omega
theorem pow_nat (s : Nat) : ((2 : Int) ^ s) = ((2 ^ s : Nat) : Int) := by
  rw [Int.natCast_pow]
  rfl
theorem pow_min {s : Nat} (hs : s ≤ 64) : ((2 : Int) ^ min (Int.toNat (s : Int)) 64) = ((2 ^ s : Nat) : Int) := by
  rw [Int.toNat_natCast, Nat.min_eq_left hs, pow_nat]
theorem toNat_ofNat64 {n : Nat} (h : n < 18446744073709551616) : (BitVec.ofInt 64 (n : Int)).toNat = n := by
  rw [BitVec.toNat_ofInt]
  omega

/-- The high word of a shifted pair. -/
theorem high_or {hi lo s : Nat} (hs : s ≤ 63) (hh : hi * 2 ^ s < 18446744073709551616) (hl : lo < 18446744073709551616) :
    (↑(BitVec.toNat (BitVec.ofInt (IntKind.bits IntKind.u64) (IntKind.wrap IntKind.u64 ((hi : Int) * (2 : Int) ^ min (Int.toNat (IntKind.wrap IntKind.u64 (s : Int))) (IntKind.bits IntKind.u64))) ||| BitVec.ofInt (IntKind.bits IntKind.u64) (Int.fdiv (lo : Int) ((2 : Int) ^ min (Int.toNat (IntKind.wrap IntKind.u64 ((64 : Int) - IntKind.wrap IntKind.u64 (s : Int)))) (IntKind.bits IntKind.u64))))) : Int) = ((hi * 2 ^ s + lo / 2 ^ (64 - s) : Nat) : Int) := by
  have e1 : (64 : Int) - (s : Int) = ((64 - s : Nat) : Int) := by omega
  rw [wn s (by omega), b64, e1, wn (64 - s) (by omega), pow_min (by omega), pow_min (by omega), ← Int.natCast_mul, wn _ hh, Int.fdiv_eq_ediv_of_nonneg _ (Int.natCast_nonneg _), ← Int.natCast_ediv, BitVec.toNat_or, toNat_ofNat64 hh]
  have hlt : lo / 2 ^ (64 - s) < 2 ^ s := by
    rw [Nat.div_lt_iff_lt_mul (Nat.two_pow_pos _), ← Nat.pow_add, show s + (64 - s) = 64 by omega]
    exact hl
  have hle : lo / 2 ^ (64 - s) < 18446744073709551616 := Nat.lt_of_le_of_lt (Nat.div_le_self _ _) hl
  rw [toNat_ofNat64 hle, ← Nat.shiftLeft_eq, ← Nat.shiftLeft_add_eq_or_of_lt hlt]

theorem div64_eq {hi lo y : Nat} (hh : hi < y) (hl : lo < 18446744073709551616) (hy : y < 18446744073709551616) :
    math_bits_Div64 (hi : Int) (lo : Int) (y : Int) = some ((((hi * 18446744073709551616 + lo) / y : Nat) : Int), (((hi * 18446744073709551616 + lo) % y : Nat) : Int)) := by
  have y0 : 0 < y := by omega
  unfold math_bits_Div64
  rw [if_neg (by simp; omega), if_neg (by omega)]
  by_cases h0 : hi = 0
  · subst h0
    rw [if_pos (by rfl), if_pos (by omega), if_pos (by omega)]
    congr 2
    · rw [Int.tdiv_eq_ediv_of_nonneg (by omega), ← Int.natCast_ediv, wn _ (Nat.lt_of_le_of_lt (Nat.div_le_self _ _) hl), Nat.zero_mul, Nat.zero_add]
    · rw [Int.tmod_eq_emod_of_nonneg (by omega), ← Int.natCast_emod, Nat.zero_mul, Nat.zero_add]
  rw [if_neg (by simp; omega)]
  obtain ⟨s, es, hs, hy1, hy2⟩ := lz64_eq y0 hy
  rw [es, bind_some']
  have e64 : (2 : Nat) ^ 64 = 18446744073709551616 := by decide
  have e63 : (2 : Nat) ^ 63 = 9223372036854775808 := by decide
  rw [e64] at hy2
  rw [e63] at hy1
  -- the numbers, shifted
  have hps : 0 < 2 ^ s := Nat.two_pow_pos s
  have hY : IntKind.wrap .u64 ((y : Int) * (2 : Int) ^ min (Int.toNat (IntKind.wrap .u64 (s : Int))) (IntKind.bits .u64)) = ((y * 2 ^ s : Nat) : Int) := by
    rw [wn s (by omega), b64, pow_min (by omega), ← Int.natCast_mul, wn _ hy2]
  have hL : IntKind.wrap .u64 ((lo : Int) * (2 : Int) ^ min (Int.toNat (IntKind.wrap .u64 (s : Int))) (IntKind.bits .u64)) = ((lo * 2 ^ s % 18446744073709551616 : Nat) : Int) := by
    rw [wn s (by omega), b64, pow_min (by omega), ← Int.natCast_mul, u64m]
    rfl
  have hhs : (hi + 1) * 2 ^ s ≤ y * 2 ^ s := Nat.mul_le_mul_right _ hh
  rw [Nat.add_mul, Nat.one_mul] at hhs
  have hU := high_or (hi := hi) (lo := lo) (s := s) hs (by omega) hl
  have hlt : lo / 2 ^ (64 - s) < 2 ^ s := by
    rw [Nat.div_lt_iff_lt_mul (Nat.two_pow_pos _), ← Nat.pow_add, show s + (64 - s) = 64 by omega]
    exact hl
  -- U * 2^64 + L = N * 2^s
  have hN : (hi * 2 ^ s + lo / 2 ^ (64 - s)) * 18446744073709551616 + lo * 2 ^ s % 18446744073709551616 = (hi * 18446744073709551616 + lo) * 2 ^ s := by
    have h1 : lo * 2 ^ s / 18446744073709551616 = lo / 2 ^ (64 - s) := by
      rw [show 18446744073709551616 = 2 ^ (64 - s) * 2 ^ s by rw [← Nat.pow_add, show 64 - s + s = 64 by omega]]
      exact Nat.mul_div_mul_right _ _ hps
    have h2 := Nat.div_add_mod (lo * 2 ^ s) 18446744073709551616
    rw [h1] at h2
    rw [Nat.add_mul, Nat.add_mul, Nat.mul_assoc hi, Nat.mul_comm (2 ^ s) 18446744073709551616, ← Nat.mul_assoc hi]
    omega
  have hUY : hi * 2 ^ s + lo / 2 ^ (64 - s) < y * 2 ^ s := by omega
  have hL64 : lo * 2 ^ s % 18446744073709551616 < 18446744073709551616 := Nat.mod_lt _ (by decide)
  have hq : (hi * 18446744073709551616 + lo) / y = ((hi * 18446744073709551616 + lo) * 2 ^ s) / (y * 2 ^ s) := (Nat.mul_div_mul_right _ _ hps).symm
  have hr : (hi * 18446744073709551616 + lo) % y = (((hi * 18446744073709551616 + lo) * 2 ^ s) % (y * 2 ^ s)) / 2 ^ s := by
    rw [Nat.mul_mod_mul_right, Nat.mul_div_cancel _ hps]
  rw [hq, hr, ← hN]
  clear hq hr hN hhs hlt es
  generalize hi * 2 ^ s + lo / 2 ^ (64 - s) = U at *
  generalize lo * 2 ^ s % 18446744073709551616 = L at *
  generalize y * 2 ^ s = Y at *
  simp only [hY, hU, shr32]
  rw [if_pos (by rw [u64m]; omega), if_pos (by rw [u64m]; omega), if_pos (by rw [u64m]; omega), if_pos (by rw [u64m]; omega), if_pos (by omega)]
  have eU : IntKind.wrap IntKind.u64 (U : Int) = U := wn U (by omega)
  rw [eU, Int.tdiv_eq_ediv_of_nonneg (by omega)]
  have bq : (U : Int) / ((Y : Int) / 4294967296) * ((Y : Int) / 4294967296) ≤ U := Int.ediv_mul_le _ (by omega)
  have bq0 : 0 ≤ (U : Int) / ((Y : Int) / 4294967296) := Int.ediv_nonneg (by omega) (by omega)
  have bq1 : (U : Int) / ((Y : Int) / 4294967296) ≤ U := Int.ediv_le_self _ (by omega)
  have bq2 : 0 ≤ (U : Int) / ((Y : Int) / 4294967296) * ((Y : Int) / 4294967296) := Int.mul_nonneg bq0 (by omega)
  have w1 : IntKind.wrap IntKind.u64 ((U : Int) / ((Y : Int) / 4294967296)) = (U : Int) / ((Y : Int) / 4294967296) := by
    rw [u64m]
    omega
  have w2 : IntKind.wrap IntKind.u64 ((U : Int) - IntKind.wrap IntKind.u64 ((U : Int) / ((Y : Int) / 4294967296) * ((Y : Int) / 4294967296))) = (U : Int) - (U : Int) / ((Y : Int) / 4294967296) * ((Y : Int) / 4294967296) := by
    rw [u64m, u64m]
    omega
  rw [w1, w2, div64_b0 hY hL]
  have hYd : (Y : Int) = (Y : Int) / 4294967296 * 4294967296 + (Y : Int) % 4294967296 := by omega
  rw [knuth_start (Y := (Y : Int)) (u := (U : Int)) (by omega) (by omega) (by omega) (by omega) (by omega) (by omega) hYd (by omega) (by omega), bind_some', div64_r0 hY hL hU, if_pos (by omega)]
  -- the rest of the first digit
  have hYp : (0 : Int) < Y := by omega
  generalize hQ : ((U : Int) * 4294967296 + (L : Int) / 4294967296) / (Y : Int) = Q
  have a1 : Q * Y ≤ (U : Int) * 4294967296 + (L : Int) / 4294967296 := by rw [← hQ]; exact Int.ediv_mul_le _ (by omega)
  have a2 : (U : Int) * 4294967296 + (L : Int) / 4294967296 < (Q + 1) * Y := by rw [← hQ]; exact Int.lt_ediv_add_one_mul_self _ hYp
  have a3 : 0 ≤ Q := by rw [← hQ]; exact Int.ediv_nonneg (by omega) (by omega)
  rw [Int.add_mul] at a2
  have eV : ((U : Int) * 4294967296 + (L : Int) / 4294967296 - Q * Y) % 18446744073709551616 = (U : Int) * 4294967296 + (L : Int) / 4294967296 - Q * Y := by omega
  rw [eV]
  generalize hV : (U : Int) * 4294967296 + (L : Int) / 4294967296 - Q * Y = V at *
  dsimp only
  have v0 : 0 ≤ V := by omega
  have v1 : V < Y := by omega
  rw [Int.tdiv_eq_ediv_of_nonneg v0]
  have bq : V / ((Y : Int) / 4294967296) * ((Y : Int) / 4294967296) ≤ V := Int.ediv_mul_le _ (by omega)
  have bq0 : 0 ≤ V / ((Y : Int) / 4294967296) := Int.ediv_nonneg (by omega) (by omega)
  have bq1 : V / ((Y : Int) / 4294967296) ≤ V := Int.ediv_le_self _ (by omega)
  have bq2 : 0 ≤ V / ((Y : Int) / 4294967296) * ((Y : Int) / 4294967296) := Int.mul_nonneg bq0 (by omega)
  have w1 : V / ((Y : Int) / 4294967296) % 18446744073709551616 = V / ((Y : Int) / 4294967296) := by omega
  have w2 : (V - V / ((Y : Int) / 4294967296) * ((Y : Int) / 4294967296)) % 18446744073709551616 = V - V / ((Y : Int) / 4294967296) * ((Y : Int) / 4294967296) := by omega
  rw [w1, w2]
  have hsw := iter_swap (div64_b1 hY hL) big (V / ((Y : Int) / 4294967296), V - V / ((Y : Int) / 4294967296) * ((Y : Int) / 4294967296))
  dsimp only at hsw
  rw [hsw, knuth_start (Y := (Y : Int)) (u := V) (by omega) (by omega) (by omega) (by omega) (by omega) (by omega) hYd v0 v1, bind_some', div64_r1 hY hL hU, hV]
  -- both digits together
  generalize hR : (V * 4294967296 + (L : Int) % 4294967296) / (Y : Int) = R
  have c1 : R * Y ≤ V * 4294967296 + (L : Int) % 4294967296 := by rw [← hR]; exact Int.ediv_mul_le _ (by omega)
  have c2 : V * 4294967296 + (L : Int) % 4294967296 < (R + 1) * Y := by rw [← hR]; exact Int.lt_ediv_add_one_mul_self _ hYp
  have c3 : 0 ≤ R := by rw [← hR]; exact Int.ediv_nonneg (by omega) (by omega)
  rw [Int.add_mul] at c2
  have q32 : Q < 4294967296 := by
    refine Int.lt_of_mul_lt_mul_right (a := (Y : Int)) ?_ (by omega)
    omega
  have r32 : R < 4294967296 := by
    refine Int.lt_of_mul_lt_mul_right (a := (Y : Int)) ?_ (by omega)
    omega
  have hD : ((U * 18446744073709551616 + L : Nat) : Int) = (Q * 4294967296 + R) * Y + (V * 4294967296 + (L : Int) % 4294967296 - R * Y) := by
    rw [Int.add_mul, Int.mul_assoc, Int.mul_comm 4294967296 (Y : Int), ← Int.mul_assoc]
    omega
  have hdiv : ((U * 18446744073709551616 + L : Nat) : Int) / Y = Q * 4294967296 + R := by
    rw [hD, Int.add_comm, Int.add_mul_ediv_right _ _ (by omega), Int.ediv_eq_zero_of_lt (by omega) (by omega)]
    omega
  have hmod : ((U * 18446744073709551616 + L : Nat) : Int) % Y = V * 4294967296 + (L : Int) % 4294967296 - R * Y := by
    rw [hD, Int.add_comm, Int.add_mul_emod_self_right, Int.emod_eq_of_lt (by omega) (by omega)]
  congr 2
  · rw [Int.natCast_ediv, hdiv]
    omega
  · rw [wn s (by omega), pow_min (by omega), Int.natCast_ediv, Int.natCast_emod, hmod]
    congr 1
    omega
end Go.Sh
