/- Plain facts: parts of a fraction; comparing of fractions. -/
import Derived.Test.YtndhdojnlobloaaLD4
import Derived.Test.YtndhdojnlobloaaMirB
import Derived.Test.YtndhdojnlobloaaLC
namespace Go.Sh
open Go Go.Proofs Go.RowKit Go.Sx Go.Sx06

theorem divmod_of {x d q r : Int} (h : d * q + r = x) (h0 : 0 ≤ r) (h1 : r < d) : x / d = q ∧ x % d = r :=
  (Int.ediv_emod_unique (by omega)).2 ⟨by omega, h0, h1⟩

/-- The ends of a fraction, in parts of a million. -/
def ptQ (n d : Int) : Int := n * 1048576 / d
def ptH (n d : Int) : Int := if n * 1048576 % d = 0 then ptQ n d else ptQ n d + 1
theorem ptH_ge (n d : Int) : ptQ n d ≤ ptH n d := by unfold ptH; split <;> omega
theorem ptH_le (n d : Int) : ptH n d ≤ ptQ n d + 1 := by unfold ptH; split <;> omega
theorem ptQ_nonneg {n d : Int} (hn : 0 ≤ n) (hd : 0 < d) : 0 ≤ ptQ n d := Int.ediv_nonneg (by omega) (by omega)

theorem partsF_eq {n d : Int} (hn : 0 ≤ n) (hn' : n < 4611686018427387904) (hd : 0 < d) (hd' : d < 4611686018427387904) :
    F_parts n d = some (if ptQ n d > 1073741824 then (0, 0, false) else (ptQ n d, ptH n d, decide (ptH n d ≤ 1073741824))) := by
  have e0 : IntKind.wrap .u64 n = n := by rw [u64m]; omega
  have e1 : IntKind.wrap .u64 d = d := by rw [u64m]; omega
  have hm := mul64_eq (x := IntKind.wrap .u64 n) (y := 1048576) (by omega) (by omega) rfl
  have hm' := hm
  unfold math_bits_Mul64 at hm'
  obtain ⟨hH, -⟩ := Prod.mk.inj (Option.some.inj hm')
  unfold F_parts
  rw [hm, bind_some', hH, e0, e1, u64m]
  clear hH hm hm'
  by_cases c1 : n * 1048576 / 18446744073709551616 ≥ d
  · rw [if_pos c1]
    have : d * 1073741825 ≤ n * 1048576 := by omega
    have : 1073741825 ≤ ptQ n d := by
      unfold ptQ
      exact (Int.le_ediv_iff_mul_le hd).2 (by omega)
    rw [if_pos (by omega)]
  · rw [if_neg c1]
    obtain ⟨d', rfl⟩ := Int.eq_ofNat_of_zero_le (show 0 ≤ d by omega)
    obtain ⟨hi, ehi⟩ := Int.eq_ofNat_of_zero_le (show 0 ≤ n * 1048576 / 18446744073709551616 by omega)
    obtain ⟨lo, elo⟩ := Int.eq_ofNat_of_zero_le (show 0 ≤ n * 1048576 % 18446744073709551616 by omega)
    rw [ehi, elo, div64_eq (by omega) (by omega) (by omega), bind_some']
    have eN : ((hi * 18446744073709551616 + lo : Nat) : Int) = n * 1048576 := by omega
    have eq : (((hi * 18446744073709551616 + lo) / d' : Nat) : Int) = ptQ n d' := by
      rw [Int.natCast_ediv, eN]
      rfl
    have er : (((hi * 18446744073709551616 + lo) % d' : Nat) : Int) = n * 1048576 % d' := by rw [Int.natCast_emod, eN]
    dsimp only
    rw [eq, er]
    have h0 := ptQ_nonneg (n := n) (d := d') hn (by omega)
    by_cases c2 : ptQ n d' > 1073741824
    · rw [if_pos c2, if_pos c2]
    · rw [if_neg c2, if_neg c2, wr64 (x := ptQ n d') (by omega), wr64 (x := ptQ n d' + 1) (by omega)]
      have hm := Int.emod_nonneg (n * 1048576) (show (d' : Int) ≠ 0 by omega)
      unfold ptH
      by_cases c3 : n * 1048576 % (d' : Int) = 0
      · rw [if_neg (by omega), if_pos c3]
      · rw [if_pos (by omega), if_neg c3]

theorem partsR_iter {n d : Int} (hn : 0 ≤ n) (hd : 0 < d) (hd' : d < 4611686018427387904) (h : n / d ≤ 1073741824) :
    iter (R06_Parts_b0 d) big (n / d, n % d, 0) = some (ptQ n d, n * 1048576 % d) := by
  have hb : ∀ i : Nat, i ≤ 20 → n * 2 ^ i / d < (1073741824 + 1) * 2 ^ i := by
    intro i _
    have h1 : n < (1073741824 + 1) * d := Int.lt_mul_of_ediv_lt hd (by omega)
    rw [Int.ediv_lt_iff_lt_mul hd, Int.mul_assoc, Int.mul_comm (2 ^ i) d, ← Int.mul_assoc]
    exact Int.mul_lt_mul_of_pos_right h1 (Int.pow_pos (by decide))
  have h20 : ∀ i : Nat, i ≤ 20 → (2 : Int) ^ i ≤ 1048576 := by
    intro i hi
    have := Nat.pow_le_pow_right (show 0 < 2 by decide) hi
    have e : ((2 ^ i : Nat) : Int) = (2 : Int) ^ i := Int.natCast_pow _ _
    omega
  have := iter_upto (body := R06_Parts_b0 d) (fun i => (n * 2 ^ i / d, n * 2 ^ i % d, (i : Int))) (k := 20) (y := (n * 2 ^ 20 / d, n * 2 ^ 20 % d)) (fun i hi => ?_) ?_ (by omega)
  · rw [show n * 2 ^ 0 = n by omega] at this
    rw [show n * 1048576 = n * 2 ^ 20 by omega]
    exact this
  · have b1 := hb i (by omega)
    have b2 := hb (i + 1) (by omega)
    have b3 := h20 i (by omega)
    have b4 := h20 (i + 1) (by omega)
    have hp : 0 ≤ n * 2 ^ i := Int.mul_nonneg hn (Int.le_of_lt (Int.pow_pos (by decide)))
    have hp' : n * 2 ^ (i + 1) = 2 * (n * 2 ^ i) := by rw [Int.pow_succ, ← Int.mul_assoc]; omega
    rw [hp'] at b2
    unfold R06_Parts_b0
    dsimp only
    rw [if_pos (by omega), hp']
    have q0 := Int.ediv_nonneg hp (Int.le_of_lt hd)
    have r0 := Int.emod_nonneg (n * 2 ^ i) (show d ≠ 0 by omega)
    have r1 := Int.emod_lt_of_pos (n * 2 ^ i) hd
    have hqr := Int.mul_ediv_add_emod (n * 2 ^ i) d
    generalize n * 2 ^ i / d = q at *
    generalize n * 2 ^ i % d = r at *
    rw [wr64 (x := 2 * r) (by omega), wr64 (x := 2 * q) (by omega), wr64 (x := (i : Int) + 1) (by omega)]
    by_cases c : 2 * r ≥ d
    · rw [if_pos c, wr64 (x := 2 * q + 1) (by omega), wr64 (x := 2 * r - d) (by omega)]
      obtain ⟨a1, a2⟩ := divmod_of (x := 2 * (n * 2 ^ i)) (d := d) (q := 2 * q + 1) (r := 2 * r - d) (by rw [Int.mul_add, Int.mul_left_comm]; omega) (by omega) (by omega)
      rw [a1, a2]
      rfl
    · rw [if_neg c]
      obtain ⟨a1, a2⟩ := divmod_of (x := 2 * (n * 2 ^ i)) (d := d) (q := 2 * q) (r := 2 * r) (by rw [Int.mul_left_comm]; omega) (by omega) (by omega)
      rw [a1, a2]
      rfl
  · unfold R06_Parts_b0
    dsimp only
    rw [if_neg (by omega)]

theorem modR_eq {n d : Int} (hn : 0 ≤ n) (hd : 0 < d) : B_Mod n d = some (n % d) := by
  unfold B_Mod
  have := Int.emod_nonneg n (show d ≠ 0 by omega)
  rw [if_pos (by omega), Int.tmod_eq_emod_of_nonneg hn, if_neg (by omega)]

theorem partsR_eq {n d : Int} (hn : 0 ≤ n) (hn' : n < 4611686018427387904) (hd : 0 < d) (hd' : d < 4611686018427387904) :
    R06_Parts n d = some (if n / d > 1073741824 then (n / d, n / d) else (ptQ n d, ptH n d)) := by
  unfold R06_Parts
  rw [floor_eq hd (by omega), bind_some', modR_eq hn hd, bind_some']
  by_cases c : n / d > 1073741824
  · rw [if_pos c, if_pos c]
  · rw [if_neg c, if_neg c, partsR_iter hn hd hd' (by omega), bind_some']
    have hm := Int.emod_nonneg (n * 1048576) (show d ≠ 0 by omega)
    have h0 := ptQ_nonneg hn hd
    have h1 : ptQ n d < 4611686018427387904 := by
      have h1 : n < (1073741824 + 1) * d := Int.lt_mul_of_ediv_lt hd (by omega)
      unfold ptQ
      rw [Int.ediv_lt_iff_lt_mul hd]
      omega
    unfold R06_Parts_r0 ptH
    dsimp only
    by_cases c3 : n * 1048576 % d = 0
    · rw [if_neg (by omega), if_pos c3]
    · rw [if_pos (by omega), if_neg c3, wr64 (by omega)]

/-- The parts of one that has more than a thousand times a million. -/
theorem pt_big {n d : Int} (hd : 0 < d) (h : n / d > 1073741824) : ptQ n d > 1073741824 := by
  have h1 : (1073741825 : Int) * d ≤ n := (Int.le_ediv_iff_mul_le hd).1 (by omega)
  have : 1073741825 ≤ ptQ n d := by
    unfold ptQ
    exact (Int.le_ediv_iff_mul_le hd).2 (by omega)
  omega
end Go.Sh
