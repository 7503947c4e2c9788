/- Plain facts: words of 64 bits. -/
import Derived.Test.YtndhdojnlobloaaMirB
import Derived.Test.YtndhdojnlobloaaPl
namespace Go.Sh
open Go Go.Proofs Go.RowKit Go.Sx Go.Sx06

theorem u64m (n : Int) : IntKind.u64.wrap n = n % 18446744073709551616 := by
  unfold IntKind.wrap
  rfl
theorem b64 : IntKind.bits IntKind.u64 = 64 := rfl
theorem shr32 (x : Int) : Int.fdiv x ((2 : Int) ^ min (32 : Nat) (IntKind.bits IntKind.u64)) = x / 4294967296 := by
  rw [Int.fdiv_eq_ediv_of_nonneg _ (by decide)]
  rfl
theorem mask32 (x : Int) : (↑(BitVec.toNat (BitVec.ofInt (IntKind.bits IntKind.u64) x &&& BitVec.ofInt (IntKind.bits IntKind.u64) (4294967295 : Int))) : Int) = x % 4294967296 := by
  rw [BitVec.toNat_and]
  have e : (BitVec.ofInt (IntKind.bits IntKind.u64) (4294967295 : Int)).toNat = 2 ^ 32 - 1 := by decide
  rw [e, Nat.and_two_pow_sub_one_eq_mod, BitVec.toNat_ofInt, b64]
  omega
end Go.Sh

namespace Go.Sh
open Go Go.Proofs Go.RowKit Go.Sx Go.Sx06

end Go.Sh

namespace Go.Sh
open Go Go.Proofs Go.RowKit Go.Sx Go.Sx06

theorem mw (x : Int) : x % 4294967296 % 18446744073709551616 = x % 4294967296 := by omega

section
variable {hi lo y s Y L U : Int}
  (hY : IntKind.wrap .u64 (y * (2 : Int) ^ min (Int.toNat (IntKind.wrap .u64 s)) (IntKind.bits .u64)) = Y)
  (hL : IntKind.wrap .u64 (lo * (2 : Int) ^ min (Int.toNat (IntKind.wrap .u64 s)) (IntKind.bits .u64)) = L)
  (hU : (↑(BitVec.toNat (BitVec.ofInt (IntKind.bits IntKind.u64) (IntKind.wrap IntKind.u64 (hi * (2 : Int) ^ min (Int.toNat (IntKind.wrap IntKind.u64 s)) (IntKind.bits IntKind.u64))) ||| BitVec.ofInt (IntKind.bits IntKind.u64) (Int.fdiv lo ((2 : Int) ^ min (Int.toNat (IntKind.wrap IntKind.u64 ((64 : Int) - IntKind.wrap IntKind.u64 s))) (IntKind.bits IntKind.u64))))) : Int) = U)
include hY hL
include hU
end
end Go.Sh

namespace Go.Sh
open Go Go.Proofs Go.RowKit Go.Sx Go.Sx06

end Go.Sh

namespace Go.Sh
open Go Go.Proofs Go.RowKit Go.Sx Go.Sx06

theorem checkSection_eq (b0 b1 b2 a0 a1 : Int) : R06_CheckSection b0 b1 b2 a0 a1 = some (chkS b0 b1 b2 a0 a1) := by
  have h := iter_first [b0, b1, b2, a0, a1] 0 (fun n => !partB n) (body := R06_CheckSection_b0 b0 b1 b2 a0 a1) (fun _ => .inl ()) (.inr ()) (by simp)
    (fun i hi hp => by
      unfold R06_CheckSection_b0
      rw [if_pos (by omega), if_pos (by omega), if_pos (by omega), if_pos (by simpa [partB] using hp)])
    (fun i hi hp => by
      unfold R06_CheckSection_b0
      rw [if_pos (by omega), if_pos (by omega), if_pos (by omega), if_neg (by simpa [partB] using hp), wr64 (by simp at hi; omega)])
    (by unfold R06_CheckSection_b0; rw [if_neg (by omega)])
  unfold R06_CheckSection
  rw [h]
  unfold chkS
  cases hf : [b0, b1, b2, a0, a1].findIdx? (fun n => !partB n) with
  | none =>
    rw [List.findIdx?_eq_none_iff] at hf
    rw [if_pos (List.all_eq_true.2 fun x hx => by simpa using hf x hx)]
    rfl
  | some k =>
    rw [List.findIdx?_eq_some_iff_getElem] at hf
    obtain ⟨hk, hp, _⟩ := hf
    rw [if_neg (fun hc => by have := List.all_eq_true.1 hc _ (List.getElem_mem hk); rw [this] at hp; cases hp)]
    rfl

theorem floor_eq {n b : Int} (hb : 0 < b) (hn : -9223372036854775807 ≤ n ∧ n ≤ 9223372036854775807) : B_Floor n b = some (n / b) := by
  have h1 := tdiv_bounds (n := n) hb
  have h2 := ediv_bounds (n := n) hb
  unfold B_Floor
  rw [if_pos (by omega), if_pos (by omega), wr64 (x := n.tdiv b) (by omega)]
  split
  · rename_i h
    rw [floor_neg hb h, wr64 (by omega)]
  · rename_i h
    rw [floor_pos hb h]

theorem part_of_chk {b0 b1 b2 a0 a1 : Int} (h : chkS b0 b1 b2 a0 a1 = 0) : (-32768 ≤ b0 ∧ b0 ≤ 32768) ∧ (-32768 ≤ b1 ∧ b1 ≤ 32768) ∧ (-32768 ≤ b2 ∧ b2 ≤ 32768) ∧ (-32768 ≤ a0 ∧ a0 ≤ 32768) ∧ (-32768 ≤ a1 ∧ a1 ≤ 32768) := by
  unfold chkS at h
  split at h
  · rename_i hc
    simpa [partB] using hc
  · omega

end Go.Sh

namespace Go.Sh
open Go Go.Proofs Go.RowKit Go.Sx Go.Sx06

theorem gcd_step (a b : Int) : Int.gcd b (a.tmod b) = Int.gcd a b := by
  unfold Int.gcd
  rw [Int.natAbs_tmod, Nat.gcd_comm b.natAbs, ← Nat.gcd_rec, Nat.gcd_comm]

theorem tmod_abs (a b : Int) (hb : b ≠ 0) : (a.tmod b).natAbs < b.natAbs := by
  rw [Int.natAbs_tmod]
  exact Nat.mod_lt _ (by omega)

/-- The loop of the greatest common divisor. -/
def gcdB (x0 : Int × Int) : Option ((Int × Int) ⊕ Int) :=
  if (x0.2 != (0 : Int)) = true then
   if x0.2 ≠ (0 : Int) then
    some (.inl (x0.2, Int.tmod x0.1 x0.2))
   else none
  else
   some (.inr x0.1)

theorem gcd_iter : ∀ (n : Nat) (a b : Int) (N : Nat), b.natAbs ≤ n → n < N → ∃ g : Int, iter gcdB N (a, b) = some g ∧ g.natAbs = Int.gcd a b
  | _, _, _, 0, _, h => absurd h (by omega)
  | n, a, b, N + 1, hb, hN => by
    unfold iter gcdB
    by_cases h0 : b = 0
    · subst h0
      exact ⟨a, rfl, by simp [Int.gcd]⟩
    · have h1 := tmod_abs a b h0
      obtain ⟨m, rfl⟩ : ∃ m, n = m + 1 := ⟨n - 1, by omega⟩
      obtain ⟨g, hg, he⟩ := gcd_iter m b (a.tmod b) N (by omega) (by omega)
      refine ⟨g, ?_, by rw [he, gcd_step]⟩
      simp only
      rw [if_pos (by simpa using h0), if_pos h0]
      exact hg

theorem gcd_big {a b : Int} (hb : inJ b) : ∃ g : Int, iter gcdB big (a, b) = some g ∧ g.natAbs = Int.gcd a b :=
  gcd_iter b.natAbs a b big (Nat.le_refl _) (by unfold big; unfold inJ at hb; omega)

theorem gcd_le {a b : Int} (ha : inJ a) (hb : inJ b) : Int.gcd a b ≤ 9223372036854775807 := by
  unfold inJ at ha hb
  by_cases h : a = 0
  · subst h; simp [Int.gcd]; omega
  · have : Int.gcd a b ≤ a.natAbs := Nat.le_of_dvd (by omega) (Int.gcd_dvd_natAbs_left a b)
    omega

theorem divisorF_eq {a b : Int} (ha : inJ a) (hb : inJ b) : F_divisor a b = some (Int.gcd a b : Int) := by
  obtain ⟨g, h1, h2⟩ := gcd_big (a := a) hb
  have h3 := gcd_le ha hb
  unfold F_divisor
  rw [show iter F_divisor_b0 big (a, b) = some g from h1, bind_some']
  unfold F_divisor_r0
  rw [if_pos (by omega)]
  congr 1
  omega
theorem gcdR_eq {a b : Int} (ha : inJ a) (hb : inJ b) : B_Gcd a b = some (Int.gcd a b : Int) := by
  obtain ⟨g, h1, h2⟩ := gcd_big (a := a) hb
  have h3 := gcd_le ha hb
  unfold B_Gcd
  rw [show iter B_Gcd_b0 big (a, b) = some g from h1, bind_some']
  unfold B_Gcd_r0
  rw [if_pos (by omega)]
  congr 1
  omega

/-- A fraction in lowest terms. -/
def lowS (num den : Int) : Int × Int := if den < 0 then (num.tdiv (-(Int.gcd num den : Int)), den.tdiv (-(Int.gcd num den : Int))) else (num.tdiv (Int.gcd num den), den.tdiv (Int.gcd num den))

theorem tdiv_in {a : Int} {g : Int} (ha : inJ a) (hg : 0 < g) : inJ (a.tdiv g) := by
  unfold inJ at *
  have h1 := tdiv_bounds (n := a) hg
  omega

theorem low_any {num den : Int} (hn : inJ num) (hd : inJ den) (h0 : den ≠ 0) :
    (if den < (0 : Int) then
      if IntKind.wrap IntKind.i64 ((0 : Int) - (Int.gcd num den : Int)) ≠ (0 : Int) then
       if IntKind.wrap IntKind.i64 ((0 : Int) - (Int.gcd num den : Int)) ≠ (0 : Int) then
        some ((IntKind.wrap IntKind.i64 (Int.tdiv num (IntKind.wrap IntKind.i64 ((0 : Int) - (Int.gcd num den : Int)))), IntKind.wrap IntKind.i64 (Int.tdiv den (IntKind.wrap IntKind.i64 ((0 : Int) - (Int.gcd num den : Int))))))
       else none
      else none
     else
      if (Int.gcd num den : Int) ≠ (0 : Int) then
       if (Int.gcd num den : Int) ≠ (0 : Int) then
        some ((IntKind.wrap IntKind.i64 (Int.tdiv num (Int.gcd num den : Int)), IntKind.wrap IntKind.i64 (Int.tdiv den (Int.gcd num den : Int))))
       else none
      else none) = some (lowS num den) := by
  have hg := gcd_le hn hd
  have hp : 0 < Int.gcd num den := Int.gcd_pos_of_ne_zero_right _ h0
  have t1 := tdiv_in (g := (Int.gcd num den : Int)) hn (by omega)
  have t2 := tdiv_in (g := (Int.gcd num den : Int)) hd (by omega)
  unfold inJ at t1 t2
  unfold lowS
  by_cases hneg : den < 0
  · rw [if_pos hneg, if_pos hneg, wr64 (x := 0 - (Int.gcd num den : Int)) (by omega), if_pos (by omega), if_pos (by omega), Int.zero_sub, Int.tdiv_neg, Int.tdiv_neg, wr64 (by omega), wr64 (by omega)]
  · rw [if_neg hneg, if_neg hneg, if_pos (by omega), if_pos (by omega), wr64 (by omega), wr64 (by omega)]

theorem lowestF_eq {num den : Int} (hn : inJ num) (hd : inJ den) (h0 : den ≠ 0) : F_lowest num den = some (lowS num den) := by
  unfold F_lowest
  rw [divisorF_eq hn hd, bind_some']
  exact low_any hn hd h0
theorem lowestR_eq {num den : Int} (hn : inJ num) (hd : inJ den) (h0 : den ≠ 0) : B_Lowest num den = some (lowS num den) := by
  unfold B_Lowest
  rw [gcdR_eq hn hd, bind_some']
  exact low_any hn hd h0

end Go.Sh

namespace Go.Sh
open Go Go.Proofs Go.RowKit Go.Sx Go.Sx06

/-- Is a section stable? -/
def stB (a0 a1 : Int) : Bool := decide (max a1 (-a1) < 16384) && decide (max a0 (-a0) < 16384 + a1)
theorem secB_chk {b0 b1 b2 a0 a1 : Int} (h : chkS b0 b1 b2 a0 a1 = 0) : secB b0 b1 b2 a0 a1 = true := by
  unfold chkS at h
  split at h
  · assumption
  · omega

end Go.Sh

namespace Go.Sh
open Go Go.Proofs Go.RowKit Go.Sx Go.Sx06

end Go.Sh

namespace Go.Sh
open Go Go.Proofs Go.RowKit Go.Sx Go.Sx06

/-- How two fractions compare. -/
def cmpS (n d m k : Int) : Int := if n * k < m * d then -1 else if m * d < n * k then 1 else 0

theorem cmp_step {n d m k : Int} (hn : 0 ≤ n) (hd : 0 < d) (hm : 0 ≤ m) (hk : 0 < k) :
    cmpS n d m k = if n / d < m / k then -1 else if n / d > m / k then 1 else cmpS (n % d) d (m % k) k := by
  have a1 := Int.mul_ediv_add_emod n d
  have a2 := Int.emod_nonneg n (show d ≠ 0 by omega)
  have a3 := Int.emod_lt_of_pos n hd
  have b1 := Int.mul_ediv_add_emod m k
  have b2 := Int.emod_nonneg m (show k ≠ 0 by omega)
  have b3 := Int.emod_lt_of_pos m hk
  generalize n / d = q at *
  generalize n % d = r at *
  generalize m / k = q' at *
  generalize m % k = r' at *
  have e1 : n * k = q * (d * k) + r * k := by rw [← a1, Int.add_mul, Int.mul_comm d q, Int.mul_assoc]
  have e2 : m * d = q' * (d * k) + r' * d := by rw [← b1, Int.add_mul, Int.mul_comm k q', Int.mul_assoc, Int.mul_comm k d]
  have e3 : r * k < d * k := Int.mul_lt_mul_of_pos_right a3 hk
  have e4 : r' * d < d * k := by rw [Int.mul_comm d k]; exact Int.mul_lt_mul_of_pos_right b3 hd
  have e5 : 0 ≤ r * k := Int.mul_nonneg a2 (by omega)
  have e6 : 0 ≤ r' * d := Int.mul_nonneg b2 (by omega)
  unfold cmpS
  rw [e1, e2]
  by_cases c1 : q < q'
  · have := Int.mul_le_mul_of_nonneg_right (show q + 1 ≤ q' by omega) (show 0 ≤ d * k by omega)
    rw [Int.add_mul] at this
    rw [if_pos c1, if_pos (by omega)]
  · by_cases c2 : q > q'
    · have := Int.mul_le_mul_of_nonneg_right (show q' + 1 ≤ q by omega) (show 0 ≤ d * k by omega)
      rw [Int.add_mul] at this
      rw [if_neg c1, if_pos c2, if_neg (by omega), if_pos (by omega)]
    · have : q = q' := by omega
      subst this
      rw [if_neg c1, if_neg c2]
      by_cases d1 : r * k < r' * d
      · rw [if_pos d1, if_pos (by omega)]
      · rw [if_neg d1, if_neg (by omega)]
        by_cases d2 : r' * d < r * k
        · rw [if_pos d2, if_pos (by omega)]
        · rw [if_neg d2, if_neg (by omega)]

/-- Both turned over, the other way round. -/
theorem cmp_turn (r d r' k : Int) : cmpS k r' d r = cmpS r d r' k := by
  unfold cmpS
  rw [Int.mul_comm k r, Int.mul_comm d r']

theorem compare_iter : ∀ (s : Nat) (n d m k : Int) (N : Nat), 0 ≤ n → n ≤ 9223372036854775807 → 0 < d → d ≤ 9223372036854775807 → 0 ≤ m → m ≤ 9223372036854775807 → 0 < k → k ≤ 9223372036854775807 → d + k ≤ s → s < N → iter B_Compare_b0 N (n, d, m, k) = some (cmpS n d m k) := by
  intro s
  induction s with
  | zero =>
    intro n d m k N _ _ h _ _ _ h' _ hs _
    omega
  | succ s ih =>
    intro n d m k N hn hn' hd hd' hm hm' hk hk' hs hN
    obtain ⟨N, rfl⟩ : ∃ M, N = M + 1 := ⟨N - 1, by omega⟩
    rw [cmp_step hn hd hm hk]
    unfold iter B_Compare_b0
    dsimp only
    rw [floor_eq hd (by omega), bind_some', floor_eq hk (by omega), bind_some']
    have a1 := Int.mul_ediv_add_emod n d
    have a2 := Int.emod_nonneg n (show d ≠ 0 by omega)
    have a3 := Int.emod_lt_of_pos n hd
    have a4 : 0 ≤ d * (n / d) := Int.mul_nonneg (by omega) (Int.ediv_nonneg hn (by omega))
    have b4 : 0 ≤ k * (m / k) := Int.mul_nonneg (by omega) (Int.ediv_nonneg hm (by omega))
    have b1 := Int.mul_ediv_add_emod m k
    have b2 := Int.emod_nonneg m (show k ≠ 0 by omega)
    have b3 := Int.emod_lt_of_pos m hk
    have e1 : IntKind.wrap .i64 (n - IntKind.wrap .i64 (n / d * d)) = n % d := by
      rw [Int.mul_comm (n / d) d, wr64 (x := d * (n / d)) (by omega), wr64 (by omega)]
      omega
    have e2 : IntKind.wrap .i64 (m - IntKind.wrap .i64 (m / k * k)) = m % k := by
      rw [Int.mul_comm (m / k) k, wr64 (x := k * (m / k)) (by omega), wr64 (by omega)]
      omega
    rw [e1, e2]
    by_cases c1 : n / d < m / k
    · rw [if_pos c1, if_pos c1]
    · rw [if_neg c1, if_neg c1]
      by_cases c2 : n / d > m / k
      · rw [if_pos c2, if_pos c2]
      · rw [if_neg c2, if_neg c2]
        clear a1 b1 e1 e2 a4 b4
        generalize n % d = r at *
        generalize m % k = r' at *
        by_cases d1 : r = 0
        · subst d1
          rw [if_pos (by rfl)]
          by_cases d2 : r' = 0
          · subst d2
            rw [if_pos (by rfl)]
            dsimp only
            unfold cmpS
            rw [Int.zero_mul, Int.zero_mul, if_neg (by omega), if_neg (by omega)]
          · rw [if_neg (by simpa using d2), if_pos (by rfl)]
            dsimp only
            unfold cmpS
            rw [Int.zero_mul, if_pos (Int.mul_pos (by omega) hd)]
        · rw [if_neg (by simpa using d1), if_neg (by simpa using d1)]
          by_cases d2 : r' = 0
          · subst d2
            rw [if_pos (by rfl)]
            dsimp only
            have := Int.mul_pos (show 0 < r by omega) hk
            unfold cmpS
            rw [Int.zero_mul, if_neg (by omega), if_pos this]
          · rw [if_neg (by simpa using d2)]
            dsimp only
            exact (ih k r' d r N (by omega) (by omega) (by omega) (by omega) (by omega) (by omega) (by omega) (by omega) (by omega) (by omega)).trans (congrArg some (cmp_turn r d r' k))

theorem compare_eq {n d m k : Int} (hn : 0 ≤ n) (hn' : n ≤ 9223372036854775807) (hd : 0 < d) (hd' : d ≤ 9223372036854775807) (hm : 0 ≤ m) (hm' : m ≤ 9223372036854775807) (hk : 0 < k) (hk' : k ≤ 9223372036854775807) :
    B_Compare n d m k = some (cmpS n d m k) := by
  unfold B_Compare
  rw [compare_iter (d + k).toNat n d m k big hn hn' hd hd' hm hm' hk hk' (by omega) (by unfold big; omega), bind_some']
  rfl

/-! The square of a value -/
theorem turn_in {p q r : Int} (h : turnE p q r = 0) : (1 ≤ r ∧ r ≤ 100) ∧ (-r ≤ p ∧ p ≤ r) ∧ (-r ≤ q ∧ q ≤ r) ∧ p * p + q * q = r * r := by
  unfold turnE at h
  split at h
  · cases h
  · split at h
    · rename_i h1 h2
      exact ⟨Classical.byContradiction h1, h2⟩
    · cases h

theorem sqnn (x : Int) : 0 ≤ x * x := by
  rcases Int.le_total 0 x with h | h
  · exact Int.mul_nonneg h h
  · exact Int.mul_nonneg_of_nonpos_of_nonpos h h
theorem re_in {a b c p q r : Int} (ha : -32768 ≤ a ∧ a ≤ 32768) (hb : -32768 ≤ b ∧ b ≤ 32768) (hc : -32768 ≤ c ∧ c ≤ 32768) (ht : turnE p q r = 0) :
    (-10000 ≤ p * p - q * q ∧ p * p - q * q ≤ 10000) ∧ (0 ≤ p * p ∧ p * p ≤ 10000) ∧ (0 ≤ q * q ∧ q * q ≤ 10000) ∧
    (-327680000 ≤ a * (p * p - q * q) ∧ a * (p * p - q * q) ≤ 327680000) ∧ (-3276800 ≤ b * p ∧ b * p ≤ 3276800) ∧ (-327680000 ≤ b * p * r ∧ b * p * r ≤ 327680000) ∧
    (-3276800 ≤ c * r ∧ c * r ≤ 3276800) ∧ (-327680000 ≤ c * r * r ∧ c * r * r ≤ 327680000) ∧ (-6553600 ≤ 2 * a * p ∧ 2 * a * p ≤ 6553600) ∧ (-655360000 ≤ 2 * a * p * q ∧ 2 * a * p * q ≤ 655360000) ∧
    (-3276800 ≤ b * q ∧ b * q ≤ 3276800) ∧ (-327680000 ≤ b * q * r ∧ b * q * r ≤ 327680000) := by
  obtain ⟨h1, h2, h3, h4⟩ := turn_in ht
  have hp : -100 ≤ p ∧ p ≤ 100 := by omega
  have hq : -100 ≤ q ∧ q ≤ 100 := by omega
  have hr : -100 ≤ r ∧ r ≤ 100 := by omega
  have pp := mulB (by decide) (by decide) hp hp
  have qq := mulB (by decide) (by decide) hq hq
  have p0 : 0 ≤ p * p := sqnn _
  have q0 : 0 ≤ q * q := sqnn _
  have hX : -10000 ≤ p * p - q * q ∧ p * p - q * q ≤ 10000 := by omega
  have k1 := mulB (by decide) (by decide) ha hX
  have k2 := mulB (by decide) (by decide) hb hp
  have k3 := mulB (a := 3276800) (by decide) (by decide) (by omega) hr (x := b * p)
  have k4 := mulB (by decide) (by decide) hc hr
  have k5 := mulB (a := 3276800) (by decide) (by decide) (by omega) hr (x := c * r)
  have k6 := mulB (a := 65536) (by decide) (by decide) (by omega) hp (x := 2 * a)
  have k7 := mulB (a := 6553600) (by decide) (by decide) (by omega) hq (x := 2 * a * p)
  have k8 := mulB (by decide) (by decide) hb hq
  have k9 := mulB (a := 3276800) (by decide) (by decide) (by omega) hr (x := b * q)
  refine ⟨hX, by omega, by omega, by omega, by omega, by omega, by omega, by omega, by omega, by omega, by omega, by omega⟩

theorem sq_in {a b c p q r : Int} (ha : -32768 ≤ a ∧ a ≤ 32768) (hb : -32768 ≤ b ∧ b ≤ 32768) (hc : -32768 ≤ c ∧ c ≤ 32768) (ht : turnE p q r = 0) :
    0 ≤ sqS a b c p q r ∧ sqS a b c p q r < 4611686018427387904 := by
  obtain ⟨h1, h2, h3, h4, h5, h6, h7, h8, h9, h10, h11, h12⟩ := re_in ha hb hc ht
  have e1 : b * r * p = b * p * r := by rw [Int.mul_assoc, Int.mul_comm r p, ← Int.mul_assoc]
  have e2 : b * r * q = b * q * r := by rw [Int.mul_assoc, Int.mul_comm r q, ← Int.mul_assoc]
  unfold sqS reS imS
  rw [e1, e2]
  generalize hx : a * (p * p - q * q) + b * p * r + c * r * r = x
  generalize hy : 2 * a * p * q + b * q * r = y
  have kx := mulB (a := 983040000) (b := 983040000) (by decide) (by decide) (by omega) (by omega) (x := x) (y := x)
  have ky := mulB (a := 983040000) (b := 983040000) (by decide) (by decide) (by omega) (by omega) (x := y) (y := y)
  have kx0 : 0 ≤ x * x := sqnn _
  have ky0 : 0 ≤ y * y := sqnn _
  omega

theorem squareR_eq {a b c p q r : Int} (ha : -32768 ≤ a ∧ a ≤ 32768) (hb : -32768 ≤ b ∧ b ≤ 32768) (hc : -32768 ≤ c ∧ c ≤ 32768) (ht : turnE p q r = 0) :
    R06_square a b c p q r = some (sqS a b c p q r) := by
  obtain ⟨h1, h2, h3, h4, h5, h6, h7, h8, h9, h10, h11, h12⟩ := re_in ha hb hc ht
  have e1 : b * r * p = b * p * r := by rw [Int.mul_assoc, Int.mul_comm r p, ← Int.mul_assoc]
  have e2 : b * r * q = b * q * r := by rw [Int.mul_assoc, Int.mul_comm r q, ← Int.mul_assoc]
  have hs := sq_in ha hb hc ht
  unfold sqS reS imS at *
  unfold R06_square
  rw [e1, e2] at *
  rw [wr64 (x := p * p) (by omega), wr64 (x := q * q) (by omega), wr64 (x := p * p - q * q) (by omega), wr64 (x := a * (p * p - q * q)) (by omega), wr64 (x := b * p) (by omega), wr64 (x := b * p * r) (by omega), wr64 (x := c * r) (by omega), wr64 (x := c * r * r) (by omega),
    wr64 (x := 2 * a) (by omega), wr64 (x := 2 * a * p) (by omega), wr64 (x := 2 * a * p * q) (by omega), wr64 (x := b * q) (by omega), wr64 (x := b * q * r) (by omega), wr64 (x := a * (p * p - q * q) + b * p * r) (by omega), wr64 (x := a * (p * p - q * q) + b * p * r + c * r * r) (by omega), wr64 (x := 2 * a * p * q + b * q * r) (by omega)]
  generalize hx : a * (p * p - q * q) + b * p * r + c * r * r = x at *
  generalize hy : 2 * a * p * q + b * q * r = y at *
  have kx := mulB (a := 983040000) (b := 983040000) (by decide) (by decide) (by omega) (by omega) (x := x) (y := x)
  have ky := mulB (a := 983040000) (b := 983040000) (by decide) (by decide) (by omega) (by omega) (x := y) (y := y)
  rw [wr64 (x := x * x) (by omega), wr64 (x := y * y) (by omega), wr64 (by omega)]

theorem turnR_eq (p q r : Int) (hp : inI p) (hq : inI q) : R06_TurnErr p q r = some (turnE p q r) := by
  unfold R06_TurnErr turnE
  by_cases h1 : 1 ≤ r ∧ r ≤ 100
  · rw [if_neg (by simpa using h1), if_neg (show ¬¬ (1 ≤ r ∧ r ≤ 100) from fun hc => hc h1), wr64 (x := 0 - r) (by omega)]
    by_cases h2 : -r ≤ p ∧ p ≤ r
    · rw [if_neg (by simp; omega)]
      by_cases h3 : -r ≤ q ∧ q ≤ r
      · rw [if_neg (by simp; omega)]
        have pp := mulB (a := 100) (b := 100) (by decide) (by decide) (by omega) (by omega) (x := p) (y := p)
        have qq := mulB (a := 100) (b := 100) (by decide) (by decide) (by omega) (by omega) (x := q) (y := q)
        have rr := mulB (a := 100) (b := 100) (by decide) (by decide) (by omega) (by omega) (x := r) (y := r)
        rw [wr64 (x := p * p) (by omega), wr64 (x := q * q) (by omega), wr64 (x := r * r) (by omega), wr64 (x := p * p + q * q) (by omega)]
        by_cases h4 : p * p + q * q = r * r
        · rw [if_neg (by simpa using h4), if_pos ⟨h2, h3, h4⟩]
        · rw [if_pos (by simpa using h4), if_neg (fun hc => h4 hc.2.2)]
      · rw [if_pos (by simp; omega), if_neg (fun hc => h3 hc.2.1)]
    · rw [if_pos (by simp; omega), if_neg (fun hc => h2 hc.1)]
  · rw [if_pos (by simp; omega), if_pos h1]

/-- A fraction in its lowest terms. -/
theorem low_of {n d : Int} (hn : 0 ≤ n) (hd : 0 < d) : ∃ g : Int, 0 < g ∧ n = g * (lowS n d).1 ∧ d = g * (lowS n d).2 ∧ 0 ≤ (lowS n d).1 ∧ 0 < (lowS n d).2 := by
  have g0 : 0 < Int.gcd n d := Int.gcd_pos_of_ne_zero_right _ (by omega)
  have g1 : (Int.gcd n d : Int) ∣ n := Int.gcd_dvd_left ..
  have g2 : (Int.gcd n d : Int) ∣ d := Int.gcd_dvd_right ..
  unfold lowS
  rw [if_neg (by omega)]
  dsimp only
  generalize Int.gcd n d = g at *
  refine ⟨g, by omega, (Int.mul_tdiv_cancel' g1).symm, (Int.mul_tdiv_cancel' g2).symm, ?_, ?_⟩
  · rw [Int.tdiv_eq_ediv_of_nonneg hn]
    exact Int.ediv_nonneg hn (by omega)
  · rw [Int.tdiv_eq_ediv_of_nonneg (by omega)]
    exact Int.ediv_pos_of_pos_of_dvd hd (by omega) g2
end Go.Sh

namespace Go.Sh
open Go Go.Proofs Go.RowKit Go.Sx Go.Sx06

/-! A loop over the elements of a list, with a state -/
end Go.Sh

namespace Go.Sh
open Go Go.Proofs Go.RowKit Go.Sx Go.Sx06

/-- The gain squared of a section. -/
def gsS (b0 b1 b2 a0 a1 p q r : Int) : Int × Int × Int :=
  if chkS b0 b1 b2 a0 a1 ≠ 0 then (0, 0, chkS b0 b1 b2 a0 a1) else if turnE p q r ≠ 0 then (0, 0, turnE p q r) else
  if sqS 16384 a0 a1 p q r = 0 then (0, 0, 11) else
  if 1000000000 < (lowS (sqS b0 b1 b2 p q r) (sqS 16384 a0 a1 p q r)).1 ∨ 1000000000 < (lowS (sqS b0 b1 b2 p q r) (sqS 16384 a0 a1 p q r)).2 then (0, 0, 8) else
  ((lowS (sqS b0 b1 b2 p q r) (sqS 16384 a0 a1 p q r)).1, (lowS (sqS b0 b1 b2 p q r) (sqS 16384 a0 a1 p q r)).2, 0)

theorem find2 {a b : Int} : Option.getD (List.find? (fun x => x != (0 : Int)) [a, b]) (0 : Int) = if a ≠ 0 then a else b := by
  by_cases ha : a = 0
  · subst ha
    by_cases hb : b = 0
    · subst hb
      rfl
    · have h1 : (b != 0) = true := by simpa using hb
      simp [List.find?, h1]
  · have h1 : (a != 0) = true := by simpa using ha
    simp [List.find?, h1, ha]

theorem gainSquareF_eq (b0 b1 b2 a0 a1 p q r : Int) : F_GainSquare b0 b1 b2 a0 a1 p q r = some (gsS b0 b1 b2 a0 a1 p q r) := by
  unfold F_GainSquare
  rw [if_pos (by simp), find2]
  by_cases hc : chkS b0 b1 b2 a0 a1 = 0
  · rw [if_neg (show ¬ chkS b0 b1 b2 a0 a1 ≠ 0 from fun h => h hc)]
    by_cases ht : turnE p q r = 0
    · rw [if_neg (by simpa using ht)]
      obtain ⟨t1, t2, t3, t4⟩ := turn_in ht
      obtain ⟨g0, g1, g2, g3, g4⟩ := part_of_chk hc
      rw [if_pos ⟨secB_chk hc, by omega, by omega, by omega, by omega⟩]
      unfold gsS
      rw [if_neg (show ¬ chkS b0 b1 b2 a0 a1 ≠ 0 from fun h => h hc), if_neg (show ¬ turnE p q r ≠ 0 from fun h => h ht)]
      obtain ⟨u1, u2⟩ := sq_in g0 g1 g2 ht
      obtain ⟨w1, w2⟩ := sq_in (a := 16384) (by decide) g3 g4 ht
      generalize sqS b0 b1 b2 p q r = n at *
      generalize sqS 16384 a0 a1 p q r = d at *
      by_cases h0 : d = 0
      · rw [if_pos (by simpa using h0), if_pos h0]
      · rw [if_neg (by simpa using h0), if_neg h0, lowestF_eq (by unfold inJ; omega) (by unfold inJ; omega) h0, bind_some']
        by_cases c1 : (lowS n d).1 > 1000000000
        · rw [if_pos c1, if_pos (.inl c1)]
        · rw [if_neg c1]
          by_cases c2 : (lowS n d).2 > 1000000000
          · rw [if_pos c2, if_pos (.inr c2)]
          · rw [if_neg c2, if_neg (by omega)]
    · rw [if_pos (by simpa using ht)]
      unfold gsS
      rw [if_neg (show ¬ chkS b0 b1 b2 a0 a1 ≠ 0 from fun h => h hc), if_pos ht]
  · rw [if_pos hc, if_pos (by simpa using hc)]
    unfold gsS
    rw [if_pos hc]

/-- What is told, when it is told. -/
theorem gs_told {b0 b1 b2 a0 a1 p q r : Int} (h : (gsS b0 b1 b2 a0 a1 p q r).2.2 = 0) :
    chkS b0 b1 b2 a0 a1 = 0 ∧ turnE p q r = 0 ∧ 0 < sqS 16384 a0 a1 p q r ∧ 0 ≤ sqS b0 b1 b2 p q r ∧
    (gsS b0 b1 b2 a0 a1 p q r).1 = (lowS (sqS b0 b1 b2 p q r) (sqS 16384 a0 a1 p q r)).1 ∧ (gsS b0 b1 b2 a0 a1 p q r).2.1 = (lowS (sqS b0 b1 b2 p q r) (sqS 16384 a0 a1 p q r)).2 ∧
    (0 ≤ (gsS b0 b1 b2 a0 a1 p q r).1 ∧ (gsS b0 b1 b2 a0 a1 p q r).1 ≤ 1000000000) ∧ (0 < (gsS b0 b1 b2 a0 a1 p q r).2.1 ∧ (gsS b0 b1 b2 a0 a1 p q r).2.1 ≤ 1000000000) := by
  unfold gsS at *
  by_cases hc : chkS b0 b1 b2 a0 a1 = 0
  · rw [if_neg (show ¬ chkS b0 b1 b2 a0 a1 ≠ 0 from fun h => h hc)] at *
    by_cases ht : turnE p q r = 0
    · rw [if_neg (fun h => h ht)] at *
      obtain ⟨g0, g1, g2, g3, g4⟩ := part_of_chk hc
      obtain ⟨u1, u2⟩ := sq_in g0 g1 g2 ht
      obtain ⟨w1, w2⟩ := sq_in (a := 16384) (by decide) g3 g4 ht
      generalize sqS b0 b1 b2 p q r = n at *
      generalize sqS 16384 a0 a1 p q r = d at *
      by_cases h0 : d = 0
      · rw [if_pos h0] at h
        cases h
      · rw [if_neg h0] at *
        obtain ⟨g, _, _, _, k1, k2⟩ := low_of u1 (show 0 < d by omega)
        by_cases c1 : 1000000000 < (lowS n d).1 ∨ 1000000000 < (lowS n d).2
        · rw [if_pos c1] at h
          cases h
        · rw [if_neg c1]
          dsimp only
          exact ⟨hc, ht, by omega, u1, rfl, rfl, by omega, by omega⟩
    · rw [if_pos ht] at h
      exact absurd h ht
  · rw [if_pos hc] at h
    exact absurd h hc

end Go.Sh

namespace Go.Sh
open Go Go.Proofs Go.RowKit Go.Sx Go.Sx06

theorem gcd_le_right {a b : Int} (hb : inJ b) (h0 : b ≠ 0) : Int.gcd a b ≤ 9223372036854775807 := by
  unfold inJ at hb
  have : Int.gcd a b ≤ b.natAbs := Nat.le_of_dvd (by omega) (Int.gcd_dvd_natAbs_right a b)
  omega
theorem divisorF_eq' {a b : Int} (hb : inJ b) (h0 : b ≠ 0) : F_divisor a b = some (Int.gcd a b : Int) := by
  obtain ⟨g, h1, h2⟩ := gcd_big (a := a) hb
  have h3 := gcd_le_right (a := a) hb h0
  unfold F_divisor
  rw [show iter F_divisor_b0 big (a, b) = some g from h1, bind_some']
  unfold F_divisor_r0
  rw [if_pos (by omega)]
  congr 1
  omega
theorem gcdR_eq' {a b : Int} (hb : inJ b) (h0 : b ≠ 0) : B_Gcd a b = some (Int.gcd a b : Int) := by
  obtain ⟨g, h1, h2⟩ := gcd_big (a := a) hb
  have h3 := gcd_le_right (a := a) hb h0
  unfold B_Gcd
  rw [show iter B_Gcd_b0 big (a, b) = some g from h1, bind_some']
  unfold B_Gcd_r0
  rw [if_pos (by omega)]
  congr 1
  omega

/-- The error of a fraction. -/
def fracE (n d : Int) : Int := if ¬ (0 < d ∧ Int.gcd n d = 1) then 3 else if ¬ (-1000000000 ≤ n ∧ n ≤ 1000000000 ∧ d ≤ 1000000000) then 2 else 0
theorem fracE_ok {n d : Int} (h : fracE n d = 0) : 0 < d ∧ Int.gcd n d = 1 ∧ -1000000000 ≤ n ∧ n ≤ 1000000000 ∧ d ≤ 1000000000 := by
  unfold fracE at h
  split at h
  · cases h
  · rename_i h1
    have h1 := Classical.byContradiction h1
    split at h
    · cases h
    · rename_i h2
      have h2 := Classical.byContradiction h2
      exact ⟨h1.1, h1.2, h2⟩

theorem fracF_eq {n d : Int} (hd : inI d) : F_fracErr n d = some (fracE n d) := by
  unfold F_fracErr fracE
  unfold inI at hd
  by_cases h0 : d > 0
  · rw [if_pos h0, divisorF_eq' (by unfold inJ; omega) (by omega), bind_some']
    have e1 : (((Int.gcd n d : Int)) == 1) = decide (Int.gcd n d = 1) := by
      rw [Bool.eq_iff_iff]; simp; omega
    rw [e1]
    by_cases h1 : Int.gcd n d = 1
    · by_cases h2 : -1000000000 ≤ n ∧ n ≤ 1000000000
      · rw [if_pos (by simpa using h2), if_pos (by simp)]
        by_cases h3 : d ≤ 1000000000 <;> simp [h0, h1, h2, h3]
      · rw [if_neg (by simpa using h2), if_pos (by simp)]
        have h4 : ¬ (-1000000000 ≤ n ∧ n ≤ 1000000000 ∧ d ≤ 1000000000) := fun hc => h2 ⟨hc.1, hc.2.1⟩
        rw [if_neg (show ¬¬ (0 < d ∧ Int.gcd n d = 1) from fun hc => hc ⟨h0, h1⟩), if_pos h4]
        simp [h1]
    · rw [if_pos (show ¬ (0 < d ∧ Int.gcd n d = 1) from fun hc => h1 hc.2)]
      split <;> rw [if_pos (by simp)] <;> simp [h1]
  · rw [if_neg h0, if_pos (show ¬ (0 < d ∧ Int.gcd n d = 1) from fun hc => h0 hc.1)]
    split
    · rw [if_pos (by simp)]; simp
    · simp

theorem fracR_eq {n d : Int} (hd : inI d) : R06_FracErr n d = some (fracE n d) := by
  unfold R06_FracErr B_IsLowest fracE
  unfold inI at hd
  by_cases h0 : d > 0
  · rw [if_pos h0, gcdR_eq' (by unfold inJ; omega) (by omega), bind_some', bind_some']
    have e1 : (((Int.gcd n d : Int)) == 1) = decide (Int.gcd n d = 1) := by
      rw [Bool.eq_iff_iff]; simp; omega
    rw [e1]
    by_cases h1 : Int.gcd n d = 1
    · rw [if_neg (by simpa using h1), if_neg (fun hc => hc ⟨h0, h1⟩)]
      unfold B_IsSmall
      by_cases h2 : -1000000000 ≤ n ∧ n ≤ 1000000000
      · rw [if_pos (by simpa using h2), bind_some']
        by_cases h3 : d ≤ 1000000000
        · rw [if_neg (by simp; omega), if_neg (fun hc => hc ⟨h2.1, h2.2, h3⟩)]
        · rw [if_pos (by simp; omega), if_pos (fun hc => h3 hc.2.2)]
      · rw [if_neg (by simpa using h2), bind_some', if_pos (by simp), if_pos (fun hc => h2 ⟨hc.1, hc.2.1⟩)]
    · rw [if_pos (by simpa using h1), if_pos (fun hc => h1 hc.2)]
  · rw [if_neg h0, bind_some', if_pos (by simp), if_pos (show ¬ (0 < d ∧ Int.gcd n d = 1) from fun hc => h0 hc.1)]

end Go.Sh

namespace Go.Sh
open Go Go.Proofs Go.RowKit Go.Sx Go.Sx06

theorem mul64_all {x y : Int} (hx : 0 ≤ x) (hx' : x < 18446744073709551616) (hy : 0 ≤ y) (hy' : y < 18446744073709551616) :
    math_bits_Mul64 x y = some (x * y / 18446744073709551616, x * y % 18446744073709551616) := by
  unfold math_bits_Mul64
  simp only [shr32, mask32, u64m, mw]
  have a1 : 0 ≤ x / 4294967296 ∧ x / 4294967296 ≤ 4294967295 := by omega
  have a0 : 0 ≤ x % 4294967296 ∧ x % 4294967296 ≤ 4294967295 := by omega
  have b1 : 0 ≤ y / 4294967296 ∧ y / 4294967296 ≤ 4294967295 := by omega
  have b0 : 0 ≤ y % 4294967296 ∧ y % 4294967296 ≤ 4294967295 := by omega
  have ex : x = x / 4294967296 * 4294967296 + x % 4294967296 := by omega
  have ey : y = y / 4294967296 * 4294967296 + y % 4294967296 := by omega
  generalize x / 4294967296 = x1 at *
  generalize x % 4294967296 = x0 at *
  generalize y / 4294967296 = y1 at *
  generalize y % 4294967296 = y0 at *
  have p11 := Int.mul_le_mul a1.2 b1.2 b1.1 (by decide)
  have p10 := Int.mul_le_mul a1.2 b0.2 b0.1 (by decide)
  have p01 := Int.mul_le_mul a0.2 b1.2 b1.1 (by decide)
  have p00 := Int.mul_le_mul a0.2 b0.2 b0.1 (by decide)
  have n11 := Int.mul_nonneg a1.1 b1.1
  have n10 := Int.mul_nonneg a1.1 b0.1
  have n01 := Int.mul_nonneg a0.1 b1.1
  have n00 := Int.mul_nonneg a0.1 b0.1
  have e : x * y = x1 * y1 * 18446744073709551616 + (x1 * y0 + x0 * y1) * 4294967296 + x0 * y0 := by
    rw [ex, ey]
    grind
  rw [e]
  clear ex ey e
  generalize x1 * y1 = p at *
  generalize x1 * y0 = q at *
  generalize x0 * y1 = r at *
  generalize x0 * y0 = s at *
  congr 2
  · omega

theorem cmpU_eq (x y : Int) : cmp_Compare_uint64 x y = some (if x < y then -1 else if x > y then 1 else 0) := by
  unfold cmp_Compare_uint64 cmp_isNaN_uint64
  simp only [bind_some', bne_self_eq_false]
  by_cases h1 : x < y
  · simp [h1]
  · by_cases h2 : x > y
    · simp [h1, h2]
    · simp [h1, h2]

theorem slicesCmp_eq (a b c d : Int) : slices_Compare_uint64 [a, b] [c, d] = some (if a < c then -1 else if a > c then 1 else if b < d then -1 else if b > d then 1 else 0) := by
  have s0 : slices_Compare_uint64_b0 [a, b] [c, d] 0 = (if a < c then some (.inr (.inl (-1))) else if a > c then some (.inr (.inl 1)) else some (.inl 1)) := by
    unfold slices_Compare_uint64_b0
    rw [if_pos (by simp), if_pos (by simp), if_pos (by simp), if_neg (by simp), if_pos (by simp), if_pos (by simp), cmpU_eq, bind_some']
    show (if ((if a < c then (-1 : Int) else if a > c then 1 else 0) != 0) = true then (some (Sum.inr (Sum.inl (if a < c then (-1 : Int) else if a > c then 1 else 0))) : Option (Int ⊕ (Int ⊕ Unit))) else some (Sum.inl (IntKind.wrap .i64 (0 + 1)))) = _
    by_cases h1 : a < c
    · simp [h1]
    · by_cases h2 : a > c
      · simp [h1, h2]
      · simp [h1, h2]
        rfl
  have s1 : slices_Compare_uint64_b0 [a, b] [c, d] 1 = (if b < d then some (.inr (.inl (-1))) else if b > d then some (.inr (.inl 1)) else some (.inl 2)) := by
    unfold slices_Compare_uint64_b0
    rw [if_pos (by simp), if_pos (by simp), if_pos (by simp), if_neg (by simp), if_pos (by simp), if_pos (by simp), cmpU_eq, bind_some']
    show (if ((if b < d then (-1 : Int) else if b > d then 1 else 0) != 0) = true then (some (Sum.inr (Sum.inl (if b < d then (-1 : Int) else if b > d then 1 else 0))) : Option (Int ⊕ (Int ⊕ Unit))) else some (Sum.inl (IntKind.wrap .i64 (1 + 1)))) = _
    by_cases h1 : b < d
    · simp [h1]
    · by_cases h2 : b > d
      · simp [h1, h2]
      · simp [h1, h2]
        rfl
  have s2 : slices_Compare_uint64_b0 [a, b] [c, d] 2 = some (.inr (.inr ())) := by
    unfold slices_Compare_uint64_b0
    rw [if_neg (by simp)]
  unfold slices_Compare_uint64
  have hb : big = (big - 3) + 1 + 1 + 1 := by decide
  rw [hb]
  unfold iter
  rw [s0]
  by_cases h1 : a < c
  · rw [if_pos h1, if_pos h1]
    rfl
  · rw [if_neg h1, if_neg h1]
    by_cases h2 : a > c
    · rw [if_pos h2, if_pos h2]
      rfl
    · rw [if_neg h2, if_neg h2]
      dsimp only
      unfold iter
      rw [s1]
      by_cases h3 : b < d
      · rw [if_pos h3, if_pos h3]
        rfl
      · rw [if_neg h3, if_neg h3]
        by_cases h4 : b > d
        · rw [if_pos h4, if_pos h4]
          rfl
        · rw [if_neg h4, if_neg h4]
          dsimp only
          unfold iter
          rw [s2]
          rfl

/-- Two words each. -/
theorem lex_eq (x y : Int) : (if x / 18446744073709551616 < y / 18446744073709551616 then (-1 : Int) else if x / 18446744073709551616 > y / 18446744073709551616 then 1 else if x % 18446744073709551616 < y % 18446744073709551616 then -1 else if x % 18446744073709551616 > y % 18446744073709551616 then 1 else 0) = if x < y then -1 else if y < x then 1 else 0 := by
  split
  · rw [if_pos (by omega)]
  · split
    · rw [if_neg (by omega), if_pos (by omega)]
    · split
      · rw [if_pos (by omega)]
      · split
        · rw [if_neg (by omega), if_pos (by omega)]
        · rw [if_neg (by omega), if_neg (by omega)]

/-- The gain compared. -/
def cgS (b0 b1 b2 a0 a1 p q r m k : Int) : Int × Int :=
  if chkS b0 b1 b2 a0 a1 ≠ 0 then (0, chkS b0 b1 b2 a0 a1) else if turnE p q r ≠ 0 then (0, turnE p q r) else if fracE m k ≠ 0 then (0, fracE m k) else if m < 0 then (0, 2) else
  if sqS 16384 a0 a1 p q r = 0 then (0, 11) else (cmpS (sqS b0 b1 b2 p q r) (sqS 16384 a0 a1 p q r) m k, 0)

theorem find4 {a b c d : Int} : Option.getD (List.find? (fun x => x != (0 : Int)) [a, b, c, d]) (0 : Int) = if a ≠ 0 then a else if b ≠ 0 then b else if c ≠ 0 then c else d := by
  by_cases ha : a = 0
  · by_cases hb : b = 0
    · by_cases hc : c = 0
      · by_cases hd : d = 0
        · subst ha hb hc hd
          rfl
        · have h1 : (d != 0) = true := by simpa using hd
          simp [List.find?, h1, ha, hb, hc]
      · have h1 : (c != 0) = true := by simpa using hc
        simp [List.find?, h1, ha, hb, hc]
    · have h1 : (b != 0) = true := by simpa using hb
      simp [List.find?, h1, ha, hb]
  · have h1 : (a != 0) = true := by simpa using ha
    simp [List.find?, h1, ha]

theorem compareGainF_eq (b0 b1 b2 a0 a1 p q r m k : Int) (hk : inI k) : F_CompareGain b0 b1 b2 a0 a1 p q r m k = some (cgS b0 b1 b2 a0 a1 p q r m k) := by
  unfold F_CompareGain cgS
  rw [fracF_eq hk, bind_some', if_pos (by simp), find4]
  by_cases hc : chkS b0 b1 b2 a0 a1 = 0
  · rw [if_neg (show ¬ chkS b0 b1 b2 a0 a1 ≠ 0 from fun h => h hc), if_neg (show ¬ chkS b0 b1 b2 a0 a1 ≠ 0 from fun h => h hc)]
    by_cases ht : turnE p q r = 0
    · rw [if_neg (show ¬ turnE p q r ≠ 0 from fun h => h ht), if_neg (show ¬ turnE p q r ≠ 0 from fun h => h ht)]
      by_cases hf : fracE m k = 0
      · rw [if_neg (show ¬ fracE m k ≠ 0 from fun h => h hf), if_neg (show ¬ fracE m k ≠ 0 from fun h => h hf)]
        by_cases hm : m < 0
        · have e : (if decide (m ≥ 0) = true then (0 : Int) else 2) = 2 := by
            rw [if_neg]
            simp
            omega
          rw [e, if_pos (by decide), if_pos hm]
        · have e : (if decide (m ≥ 0) = true then (0 : Int) else 2) = 0 := by
            rw [if_pos]
            simp
            omega
          rw [e, if_neg (by decide), if_neg hm]
          obtain ⟨t1, t2, t3, t4⟩ := turn_in ht
          obtain ⟨g0, g1, g2, g3, g4⟩ := part_of_chk hc
          obtain ⟨f1, f2, f3, f4, f5⟩ := fracE_ok hf
          rw [if_pos ⟨secB_chk hc, by omega, by omega, by omega, by omega⟩]
          obtain ⟨u1, u2⟩ := sq_in g0 g1 g2 ht
          obtain ⟨w1, w2⟩ := sq_in (a := 16384) (by decide) g3 g4 ht
          generalize sqS b0 b1 b2 p q r = n at *
          generalize sqS 16384 a0 a1 p q r = d at *
          by_cases h0 : d = 0
          · rw [if_pos (by simpa using h0), if_pos h0]
          · rw [if_neg (by simpa using h0), if_neg h0]
            have m1 := mul64_all (x := IntKind.wrap .u64 n) (y := IntKind.wrap .u64 k) (by rw [u64m]; omega) (by rw [u64m]; omega) (by rw [u64m]; omega) (by rw [u64m]; omega)
            have m2 := mul64_all (x := IntKind.wrap .u64 m) (y := IntKind.wrap .u64 d) (by rw [u64m]; omega) (by rw [u64m]; omega) (by rw [u64m]; omega) (by rw [u64m]; omega)
            have m1' := m1
            have m2' := m2
            unfold math_bits_Mul64 at m1' m2'
            obtain ⟨m1h, m1l⟩ := Prod.mk.inj (Option.some.inj m1')
            obtain ⟨m2h, m2l⟩ := Prod.mk.inj (Option.some.inj m2')
            rw [m1, bind_some', m2, bind_some', m1h, m2h, m1l, m2l]
            have x1 : IntKind.wrap .u64 n = n := by rw [u64m]; omega
            have x2 : IntKind.wrap .u64 k = k := by rw [u64m]; omega
            have x3 : IntKind.wrap .u64 m = m := by rw [u64m]; omega
            have x4 : IntKind.wrap .u64 d = d := by rw [u64m]; omega
            rw [x1, x2, x3, x4, slicesCmp_eq, bind_some', lex_eq]
            rfl
      · rw [if_pos (show fracE m k ≠ 0 from hf), if_pos (by simpa using hf), if_pos (show fracE m k ≠ 0 from hf)]
    · rw [if_pos (show turnE p q r ≠ 0 from ht), if_pos (by simpa using ht), if_pos (show turnE p q r ≠ 0 from ht)]
  · rw [if_pos (show chkS b0 b1 b2 a0 a1 ≠ 0 from hc), if_pos (by simpa using hc), if_pos (show chkS b0 b1 b2 a0 a1 ≠ 0 from hc)]
end Go.Sh

namespace Go.Sh
open Go Go.Proofs Go.RowKit Go.Sx Go.Sx06

theorem gainR_eq {b0 b1 b2 a0 a1 p q r : Int} (hc : chkS b0 b1 b2 a0 a1 = 0) (ht : turnE p q r = 0) : R06_Gain b0 b1 b2 a0 a1 p q r = some (sqS b0 b1 b2 p q r, sqS 16384 a0 a1 p q r) := by
  obtain ⟨g0, g1, g2, g3, g4⟩ := part_of_chk hc
  unfold R06_Gain
  rw [squareR_eq g0 g1 g2 ht, bind_some', squareR_eq (by decide) g3 g4 ht]
  rfl

theorem gainSquareR_eq {b0 b1 b2 a0 a1 p q r : Int} (hc : chkS b0 b1 b2 a0 a1 = 0) (ht : turnE p q r = 0) : R06_GainSquare b0 b1 b2 a0 a1 p q r = some (gsS b0 b1 b2 a0 a1 p q r) := by
  obtain ⟨g0, g1, g2, g3, g4⟩ := part_of_chk hc
  have hd := squareR_eq (a := 16384) (by decide) g3 g4 ht
  have hn := squareR_eq g0 g1 g2 ht
  unfold R06_square at hd hn
  have hd := Option.some.inj hd
  have hn := Option.some.inj hn
  unfold R06_GainSquare
  rw [gainR_eq hc ht, bind_some', hd, hn]
  unfold gsS
  rw [if_neg (show ¬ chkS b0 b1 b2 a0 a1 ≠ 0 from fun h => h hc), if_neg (show ¬ turnE p q r ≠ 0 from fun h => h ht)]
  obtain ⟨u1, u2⟩ := sq_in g0 g1 g2 ht
  obtain ⟨w1, w2⟩ := sq_in (a := 16384) (by decide) g3 g4 ht
  clear hd hn
  generalize sqS b0 b1 b2 p q r = n at *
  generalize sqS 16384 a0 a1 p q r = d at *
  by_cases h0 : d = 0
  · rw [if_pos (by simpa using h0), if_pos h0]
  · rw [if_neg (by simpa using h0), if_neg h0, lowestR_eq (by unfold inJ; omega) (by unfold inJ; omega) h0, bind_some']
    obtain ⟨g, _, _, _, k1, k2⟩ := low_of u1 (show 0 < d by omega)
    generalize lowS n d = l at *
    unfold B_IsSmall
    by_cases c1 : l.1 > 1000000000
    · rw [if_neg (by simp; omega), bind_some', if_pos (by rfl), if_pos (.inl c1)]
    · rw [if_pos (by simp; omega), bind_some']
      by_cases c2 : l.2 > 1000000000
      · rw [if_pos (by simp; omega), if_pos (.inr c2)]
      · rw [if_neg (by simp; omega), if_neg (by omega)]

theorem compareGainR_eq {b0 b1 b2 a0 a1 p q r m k : Int} (hc : chkS b0 b1 b2 a0 a1 = 0) (ht : turnE p q r = 0) (hf : fracE m k = 0) (hm : 0 ≤ m) : R06_CompareGain b0 b1 b2 a0 a1 p q r m k = some (cgS b0 b1 b2 a0 a1 p q r m k) := by
  obtain ⟨g0, g1, g2, g3, g4⟩ := part_of_chk hc
  have hd := squareR_eq (a := 16384) (by decide) g3 g4 ht
  have hn := squareR_eq g0 g1 g2 ht
  unfold R06_square at hd hn
  have hd := Option.some.inj hd
  have hn := Option.some.inj hn
  unfold R06_CompareGain
  rw [gainR_eq hc ht, bind_some', hd, hn]
  unfold cgS
  rw [if_neg (show ¬ chkS b0 b1 b2 a0 a1 ≠ 0 from fun h => h hc), if_neg (show ¬ turnE p q r ≠ 0 from fun h => h ht), if_neg (show ¬ fracE m k ≠ 0 from fun h => h hf), if_neg (show ¬ m < 0 by omega)]
  obtain ⟨u1, u2⟩ := sq_in g0 g1 g2 ht
  obtain ⟨w1, w2⟩ := sq_in (a := 16384) (by decide) g3 g4 ht
  clear hd hn
  generalize sqS b0 b1 b2 p q r = n at *
  generalize sqS 16384 a0 a1 p q r = d at *
  obtain ⟨f1, f2, f3, f4, f5⟩ := fracE_ok hf
  by_cases h0 : d = 0
  · rw [if_pos (by simpa using h0), if_pos h0]
  · rw [if_neg (by simpa using h0), if_neg h0, compare_eq u1 (by omega) (by omega) (by omega) hm (by omega) f1 (by omega), bind_some']

theorem cmpB_eq {n d m k : Int} (hn : 0 ≤ n ∧ n ≤ 1000000000) (hd : 0 ≤ d ∧ d ≤ 1000000000) (hm : 0 ≤ m ∧ m ≤ 1000000000) (hk : 0 ≤ k ∧ k ≤ 1000000000) : B_Cmp n d m k = some (cmpS n d m k) := by
  unfold B_Cmp cmpS
  have a1 := Int.mul_le_mul hn.2 hk.2 hk.1 (by decide)
  have a2 := Int.mul_nonneg hn.1 hk.1
  have b1 := Int.mul_le_mul hm.2 hd.2 hd.1 (by decide)
  have b2 := Int.mul_nonneg hm.1 hd.1
  rw [wr64 (x := n * k) (by omega), wr64 (x := m * d) (by omega)]
  split
  · rfl
  · split <;> rfl

theorem cmp_low' (a b : Int) {n d : Int} (hn : 0 ≤ n) (hd : 0 < d) : cmpS (lowS n d).1 (lowS n d).2 a b = cmpS n d a b := by
  obtain ⟨g, hg, e1, e2, _, _⟩ := low_of hn hd
  generalize (lowS n d).1 = N at *
  generalize (lowS n d).2 = D at *
  subst e1
  have e3 : a * d = g * (a * D) := by rw [e2, Int.mul_left_comm]
  have e4 : g * N * b = g * (N * b) := Int.mul_assoc ..
  unfold cmpS
  rw [e3, e4]
  simp only [Int.mul_lt_mul_left hg]

theorem sq_neg (a b c p q r : Int) : sqS a b c p (-q) r = sqS a b c p q r := by
  unfold sqS reS imS
  grind
theorem turn_neg {p q r : Int} (h : turnE p q r = 0) : turnE p (-q) r = 0 := by
  obtain ⟨h1, h2, h3, h4⟩ := turn_in h
  have e : -q * -q = q * q := by grind
  unfold turnE
  rw [if_neg (show ¬¬ (1 ≤ r ∧ r ≤ 100) from fun hc => hc h1), if_pos ⟨h2, by omega, by omega⟩]
theorem gs_neg {b0 b1 b2 a0 a1 p q r : Int} (ht : turnE p q r = 0) : gsS b0 b1 b2 a0 a1 p (-q) r = gsS b0 b1 b2 a0 a1 p q r := by
  unfold gsS
  rw [sq_neg, sq_neg, turn_neg ht, ht]

/-- The gain compared, of one that is told. -/
theorem cg_told {b0 b1 b2 a0 a1 p q r m k : Int} (hg : (gsS b0 b1 b2 a0 a1 p q r).2.2 = 0) (hf : fracE m k = 0) (hm : 0 ≤ m) :
    B_Cmp (gsS b0 b1 b2 a0 a1 p q r).1 (gsS b0 b1 b2 a0 a1 p q r).2.1 m k = some (cgS b0 b1 b2 a0 a1 p q r m k).1 := by
  obtain ⟨k1, k2, k3, k4, k5, k6, k7, k8⟩ := gs_told hg
  obtain ⟨f1, f2, f3, f4, f5⟩ := fracE_ok hf
  rw [cmpB_eq k7 ⟨by omega, k8.2⟩ ⟨hm, f4⟩ ⟨by omega, f5⟩, k5, k6, cmp_low' _ _ k4 k3]
  unfold cgS
  rw [if_neg (show ¬ chkS b0 b1 b2 a0 a1 ≠ 0 from fun h => h k1), if_neg (show ¬ turnE p q r ≠ 0 from fun h => h k2), if_neg (show ¬ fracE m k ≠ 0 from fun h => h hf), if_neg (show ¬ m < 0 by omega), if_neg (by omega)]

theorem gs_chk {b0 b1 b2 a0 a1 p q r : Int} (hc : chkS b0 b1 b2 a0 a1 ≠ 0) : gsS b0 b1 b2 a0 a1 p q r = (0, 0, chkS b0 b1 b2 a0 a1) := by
  unfold gsS
  rw [if_pos hc]
theorem gs_turn {b0 b1 b2 a0 a1 p q r : Int} (hc : chkS b0 b1 b2 a0 a1 = 0) (ht : turnE p q r ≠ 0) : gsS b0 b1 b2 a0 a1 p q r = (0, 0, turnE p q r) := by
  unfold gsS
  rw [if_neg (show ¬ chkS b0 b1 b2 a0 a1 ≠ 0 from fun h => h hc), if_pos ht]
theorem cg_chk {b0 b1 b2 a0 a1 p q r m k : Int} (hc : chkS b0 b1 b2 a0 a1 ≠ 0) : cgS b0 b1 b2 a0 a1 p q r m k = (0, chkS b0 b1 b2 a0 a1) := by
  unfold cgS
  rw [if_pos hc]
theorem cg_turn {b0 b1 b2 a0 a1 p q r m k : Int} (hc : chkS b0 b1 b2 a0 a1 = 0) (ht : turnE p q r ≠ 0) : cgS b0 b1 b2 a0 a1 p q r m k = (0, turnE p q r) := by
  unfold cgS
  rw [if_neg (show ¬ chkS b0 b1 b2 a0 a1 ≠ 0 from fun h => h hc), if_pos ht]
theorem cg_frac {b0 b1 b2 a0 a1 p q r m k : Int} (hc : chkS b0 b1 b2 a0 a1 = 0) (ht : turnE p q r = 0) (hf : fracE m k ≠ 0) : cgS b0 b1 b2 a0 a1 p q r m k = (0, fracE m k) := by
  unfold cgS
  rw [if_neg (show ¬ chkS b0 b1 b2 a0 a1 ≠ 0 from fun h => h hc), if_neg (show ¬ turnE p q r ≠ 0 from fun h => h ht), if_pos hf]
theorem cg_minus {b0 b1 b2 a0 a1 p q r m k : Int} (hc : chkS b0 b1 b2 a0 a1 = 0) (ht : turnE p q r = 0) (hf : fracE m k = 0) (hm : m < 0) : cgS b0 b1 b2 a0 a1 p q r m k = (0, 2) := by
  unfold cgS
  rw [if_neg (show ¬ chkS b0 b1 b2 a0 a1 ≠ 0 from fun h => h hc), if_neg (show ¬ turnE p q r ≠ 0 from fun h => h ht), if_neg (show ¬ fracE m k ≠ 0 from fun h => h hf), if_pos hm]

theorem filterGains_true {b0 b1 b2 a0 a1 p q r m k : Int} (hp : inI p) (hq : inI q) (hk : inI k) : L06_FilterGains b0 b1 b2 a0 a1 p q r m k = some true := by
  unfold L06_FilterGains
  rw [compareGainF_eq _ _ _ _ _ _ _ _ _ _ hk, bind_some', gainSquareF_eq, bind_some', checkSection_eq, bind_some']
  by_cases hc : chkS b0 b1 b2 a0 a1 = 0
  · rw [if_pos (by simpa using hc), turnR_eq p q r hp hq, bind_some']
    by_cases ht : turnE p q r = 0
    · obtain ⟨t1, t2, t3, t4⟩ := turn_in ht
      rw [if_neg (by simpa using ht), gainSquareR_eq hc ht, bind_some', fracR_eq hk, bind_some']
      have en : IntKind.i64.wrap (0 - q) = -q := by
        rw [wr64 (x := 0 - q) (by omega)]
        omega
      simp only [gainSquareF_eq, en, gs_neg ht, bind_some']
      by_cases hf : fracE m k = 0
      · rw [if_pos (by simpa using hf)]
        by_cases hm : m < 0
        · rw [if_pos hm, cg_minus hc ht hf hm]
          simp
        · rw [if_neg hm, if_pos (by simpa using hf), compareGainR_eq hc ht hf (by omega), bind_some']
          simp only [bne_self_eq_false, beq_self_eq_true, Bool.and_self, Bool.not_true, if_pos, Bool.false_eq_true, if_false, if_true]
          by_cases hg : (gsS b0 b1 b2 a0 a1 p q r).2.2 = 0
          · rw [if_neg (by simpa using hg)]
            split
            · rfl
            · rw [cg_told hg hf (by omega), bind_some']
              simp
          · rw [if_pos (by simpa using hg)]
      · rw [if_neg (by simpa using hf), if_neg (by simpa using hf), cg_frac hc ht hf]
        simp [hf]
    · rw [if_pos (by simpa using ht), cg_turn hc ht, gs_turn hc ht]
      simp
  · rw [if_neg (by simpa using hc), cg_chk hc, gs_chk hc]
    simp [hc]
end Go.Sh
