/- Plain facts: comparing of fractions, the reference's gain. -/
import Derived.Test.YtndhdojnlobloaaLR
namespace Go.Sh
open Go Go.Proofs Go.RowKit Go.Sx Go.Sx06

/-- How two fractions compare. -/
def cmpS (n d m k : Int) : Int := if n * k < m * d then -1 else if m * d < n * k then 1 else 0

theorem cmp_step {n d m k : Int} (hn : 0 ≤ n) (hd : 0 < d) (hm : 0 ≤ m) (hk : 0 < k) :
    cmpS n d m k = if n / d < m / k then -1 else if n / d > m / k then 1 else cmpS (n % d) d (m % k) k := by
  have a1 := Int.mul_ediv_add_emod n d
  have a2 := Int.emod_nonneg n (show d ≠ 0 by omega)
  have a3 := Int.emod_lt_of_pos n hd
  have b1 := Int.mul_ediv_add_emod m k
  have b2 := Int.emod_nonneg m (show k ≠ 0 by omega)
  have b3 := Int.emod_lt_of_pos m hk
  generalize n / d = q at *
  generalize n % d = r at *
  generalize m / k = q' at *
  generalize m % k = r' at *
  have e1 : n * k = q * (d * k) + r * k := by rw [← a1, Int.add_mul, Int.mul_comm d q, Int.mul_assoc]
  have e2 : m * d = q' * (d * k) + r' * d := by rw [← b1, Int.add_mul, Int.mul_comm k q', Int.mul_assoc, Int.mul_comm k d]
  have e3 : r * k < d * k := Int.mul_lt_mul_of_pos_right a3 hk
  have e4 : r' * d < d * k := by rw [Int.mul_comm d k]; exact Int.mul_lt_mul_of_pos_right b3 hd
  have e5 : 0 ≤ r * k := Int.mul_nonneg a2 (by omega)
  have e6 : 0 ≤ r' * d := Int.mul_nonneg b2 (by omega)
  unfold cmpS
  rw [e1, e2]
  by_cases c1 : q < q'
  · have := Int.mul_le_mul_of_nonneg_right (show q + 1 ≤ q' by omega) (show 0 ≤ d * k by omega)
    rw [Int.add_mul] at this
    rw [if_pos c1, if_pos (by omega)]
  · by_cases c2 : q > q'
    · have := Int.mul_le_mul_of_nonneg_right (show q' + 1 ≤ q by omega) (show 0 ≤ d * k by omega)
      rw [Int.add_mul] at this
      rw [if_neg c1, if_pos c2, if_neg (by omega), if_pos (by omega)]
    · have : q = q' := by omega
      subst this
      rw [if_neg c1, if_neg c2]
      by_cases d1 : r * k < r' * d
      · rw [if_pos d1, if_pos (by omega)]
      · rw [if_neg d1, if_neg (by omega)]
        by_cases d2 : r' * d < r * k
        · rw [if_pos d2, if_pos (by omega)]
        · rw [if_neg d2, if_neg (by omega)]

/-- Both turned over, the other way round. -/
theorem cmp_turn (r d r' k : Int) : cmpS k r' d r = cmpS r d r' k := by
  unfold cmpS
  rw [Int.mul_comm k r, Int.mul_comm d r']

theorem compare_iter : ∀ (s : Nat) (n d m k : Int) (N : Nat), 0 ≤ n → n ≤ 9223372036854775807 → 0 < d → d ≤ 9223372036854775807 → 0 ≤ m → m ≤ 9223372036854775807 → 0 < k → k ≤ 9223372036854775807 → d + k ≤ s → s < N → iter B_Compare_b0 N (n, d, m, k) = some (cmpS n d m k) := by
  intro s
  induction s with
  | zero =>
    intro n d m k N _ _ h _ _ _ h' _ hs _
    omega
  | succ s ih =>
    intro n d m k N hn hn' hd hd' hm hm' hk hk' hs hN
    obtain ⟨N, rfl⟩ : ∃ M, N = M + 1 := ⟨N - 1, by omega⟩
    rw [cmp_step hn hd hm hk]
    unfold iter B_Compare_b0
    dsimp only
    rw [floor_eq hd (by omega), bind_some', floor_eq hk (by omega), bind_some']
    have a1 := Int.mul_ediv_add_emod n d
    have a2 := Int.emod_nonneg n (show d ≠ 0 by omega)
    have a3 := Int.emod_lt_of_pos n hd
    have a4 : 0 ≤ d * (n / d) := Int.mul_nonneg (by omega) (Int.ediv_nonneg hn (by omega))
    have b4 : 0 ≤ k * (m / k) := Int.mul_nonneg (by omega) (Int.ediv_nonneg hm (by omega))
    have b1 := Int.mul_ediv_add_emod m k
    have b2 := Int.emod_nonneg m (show k ≠ 0 by omega)
    have b3 := Int.emod_lt_of_pos m hk
    have e1 : IntKind.wrap .i64 (n - IntKind.wrap .i64 (n / d * d)) = n % d := by
      rw [Int.mul_comm (n / d) d, wr64 (x := d * (n / d)) (by omega), wr64 (by omega)]
      omega
    have e2 : IntKind.wrap .i64 (m - IntKind.wrap .i64 (m / k * k)) = m % k := by
      rw [Int.mul_comm (m / k) k, wr64 (x := k * (m / k)) (by omega), wr64 (by omega)]
      omega
    rw [e1, e2]
    by_cases c1 : n / d < m / k
    · rw [if_pos c1, if_pos c1]
    · rw [if_neg c1, if_neg c1]
      by_cases c2 : n / d > m / k
      · rw [if_pos c2, if_pos c2]
      · rw [if_neg c2, if_neg c2]
        clear a1 b1 e1 e2 a4 b4
        generalize n % d = r at *
        generalize m % k = r' at *
        by_cases d1 : r = 0
        · subst d1
          rw [if_pos (by rfl)]
          by_cases d2 : r' = 0
          · subst d2
            rw [if_pos (by rfl)]
            dsimp only
            unfold cmpS
            rw [Int.zero_mul, Int.zero_mul, if_neg (by omega), if_neg (by omega)]
          · rw [if_neg (by simpa using d2), if_pos (by rfl)]
            dsimp only
            unfold cmpS
            rw [Int.zero_mul, if_pos (Int.mul_pos (by omega) hd)]
        · rw [if_neg (by simpa using d1), if_neg (by simpa using d1)]
          by_cases d2 : r' = 0
          · subst d2
            rw [if_pos (by rfl)]
            dsimp only
            have := Int.mul_pos (show 0 < r by omega) hk
            unfold cmpS
            rw [Int.zero_mul, if_neg (by omega), if_pos this]
          · rw [if_neg (by simpa using d2)]
            dsimp only
            exact (ih k r' d r N (by omega) (by omega) (by omega) (by omega) (by omega) (by omega) (by omega) (by omega) (by omega) (by omega)).trans (congrArg some (cmp_turn r d r' k))

theorem compare_eq {n d m k : Int} (hn : 0 ≤ n) (hn' : n ≤ 9223372036854775807) (hd : 0 < d) (hd' : d ≤ 9223372036854775807) (hm : 0 ≤ m) (hm' : m ≤ 9223372036854775807) (hk : 0 < k) (hk' : k ≤ 9223372036854775807) :
    B_Compare n d m k = some (cmpS n d m k) := by
  unfold B_Compare
  rw [compare_iter (d + k).toNat n d m k big hn hn' hd hd' hm hm' hk hk' (by omega) (by unfold big; omega), bind_some']
  rfl

/-! The square of a value -/
theorem turn_in {p q r : Int} (h : turnE p q r = 0) : (1 ≤ r ∧ r ≤ 100) ∧ (-r ≤ p ∧ p ≤ r) ∧ (-r ≤ q ∧ q ≤ r) ∧ p * p + q * q = r * r := by
  unfold turnE at h
  split at h
  · cases h
  · split at h
    · rename_i h1 h2
      exact ⟨Classical.byContradiction h1, h2⟩
    · cases h

theorem sqnn (x : Int) : 0 ≤ x * x := by
  rcases Int.le_total 0 x with h | h
  · exact Int.mul_nonneg h h
  · exact Int.mul_nonneg_of_nonpos_of_nonpos h h
theorem re_in {a b c p q r : Int} (ha : -32768 ≤ a ∧ a ≤ 32768) (hb : -32768 ≤ b ∧ b ≤ 32768) (hc : -32768 ≤ c ∧ c ≤ 32768) (ht : turnE p q r = 0) :
    (-10000 ≤ p * p - q * q ∧ p * p - q * q ≤ 10000) ∧ (0 ≤ p * p ∧ p * p ≤ 10000) ∧ (0 ≤ q * q ∧ q * q ≤ 10000) ∧
    (-327680000 ≤ a * (p * p - q * q) ∧ a * (p * p - q * q) ≤ 327680000) ∧ (-3276800 ≤ b * p ∧ b * p ≤ 3276800) ∧ (-327680000 ≤ b * p * r ∧ b * p * r ≤ 327680000) ∧
    (-3276800 ≤ c * r ∧ c * r ≤ 3276800) ∧ (-327680000 ≤ c * r * r ∧ c * r * r ≤ 327680000) ∧ (-6553600 ≤ 2 * a * p ∧ 2 * a * p ≤ 6553600) ∧ (-655360000 ≤ 2 * a * p * q ∧ 2 * a * p * q ≤ 655360000) ∧
    (-3276800 ≤ b * q ∧ b * q ≤ 3276800) ∧ (-327680000 ≤ b * q * r ∧ b * q * r ≤ 327680000) := by
  obtain ⟨h1, h2, h3, h4⟩ := turn_in ht
  have hp : -100 ≤ p ∧ p ≤ 100 := by omega
  have hq : -100 ≤ q ∧ q ≤ 100 := by omega
  have hr : -100 ≤ r ∧ r ≤ 100 := by omega
  have pp := mulB (by decide) (by decide) hp hp
  have qq := mulB (by decide) (by decide) hq hq
  have p0 : 0 ≤ p * p := sqnn _
  have q0 : 0 ≤ q * q := sqnn _
  have hX : -10000 ≤ p * p - q * q ∧ p * p - q * q ≤ 10000 := by omega
  have k1 := mulB (by decide) (by decide) ha hX
  have k2 := mulB (by decide) (by decide) hb hp
  have k3 := mulB (a := 3276800) (by decide) (by decide) (by omega) hr (x := b * p)
  have k4 := mulB (by decide) (by decide) hc hr
  have k5 := mulB (a := 3276800) (by decide) (by decide) (by omega) hr (x := c * r)
  have k6 := mulB (a := 65536) (by decide) (by decide) (by omega) hp (x := 2 * a)
  have k7 := mulB (a := 6553600) (by decide) (by decide) (by omega) hq (x := 2 * a * p)
  have k8 := mulB (by decide) (by decide) hb hq
  have k9 := mulB (a := 3276800) (by decide) (by decide) (by omega) hr (x := b * q)
  refine ⟨hX, by omega, by omega, by omega, by omega, by omega, by omega, by omega, by omega, by omega, by omega, by omega⟩

theorem sq_in {a b c p q r : Int} (ha : -32768 ≤ a ∧ a ≤ 32768) (hb : -32768 ≤ b ∧ b ≤ 32768) (hc : -32768 ≤ c ∧ c ≤ 32768) (ht : turnE p q r = 0) :
    0 ≤ sqS a b c p q r ∧ sqS a b c p q r < 4611686018427387904 := by
  obtain ⟨h1, h2, h3, h4, h5, h6, h7, h8, h9, h10, h11, h12⟩ := re_in ha hb hc ht
  have e1 : b * r * p = b * p * r := by rw [Int.mul_assoc, Int.mul_comm r p, ← Int.mul_assoc]
  have e2 : b * r * q = b * q * r := by rw [Int.mul_assoc, Int.mul_comm r q, ← Int.mul_assoc]
  unfold sqS reS imS
  rw [e1, e2]
  generalize hx : a * (p * p - q * q) + b * p * r + c * r * r = x
  generalize hy : 2 * a * p * q + b * q * r = y
  have kx := mulB (a := 983040000) (b := 983040000) (by decide) (by decide) (by omega) (by omega) (x := x) (y := x)
  have ky := mulB (a := 983040000) (b := 983040000) (by decide) (by decide) (by omega) (by omega) (x := y) (y := y)
  have kx0 : 0 ≤ x * x := sqnn _
  have ky0 : 0 ≤ y * y := sqnn _
  omega

theorem squareR_eq {a b c p q r : Int} (ha : -32768 ≤ a ∧ a ≤ 32768) (hb : -32768 ≤ b ∧ b ≤ 32768) (hc : -32768 ≤ c ∧ c ≤ 32768) (ht : turnE p q r = 0) :
    R06_square a b c p q r = some (sqS a b c p q r) := by
  obtain ⟨h1, h2, h3, h4, h5, h6, h7, h8, h9, h10, h11, h12⟩ := re_in ha hb hc ht
  have e1 : b * r * p = b * p * r := by rw [Int.mul_assoc, Int.mul_comm r p, ← Int.mul_assoc]
  have e2 : b * r * q = b * q * r := by rw [Int.mul_assoc, Int.mul_comm r q, ← Int.mul_assoc]
  have hs := sq_in ha hb hc ht
  unfold sqS reS imS at *
  unfold R06_square
  rw [e1, e2] at *
  rw [wr64 (x := p * p) (by omega), wr64 (x := q * q) (by omega), wr64 (x := p * p - q * q) (by omega), wr64 (x := a * (p * p - q * q)) (by omega), wr64 (x := b * p) (by omega), wr64 (x := b * p * r) (by omega), wr64 (x := c * r) (by omega), wr64 (x := c * r * r) (by omega),
    wr64 (x := 2 * a) (by omega), wr64 (x := 2 * a * p) (by omega), wr64 (x := 2 * a * p * q) (by omega), wr64 (x := b * q) (by omega), wr64 (x := b * q * r) (by omega), wr64 (x := a * (p * p - q * q) + b * p * r) (by omega), wr64 (x := a * (p * p - q * q) + b * p * r + c * r * r) (by omega), wr64 (x := 2 * a * p * q + b * q * r) (by omega)]
  generalize hx : a * (p * p - q * q) + b * p * r + c * r * r = x at *
  generalize hy : 2 * a * p * q + b * q * r = y at *
  have kx := mulB (a := 983040000) (b := 983040000) (by decide) (by decide) (by omega) (by omega) (x := x) (y := x)
  have ky := mulB (a := 983040000) (b := 983040000) (by decide) (by decide) (by omega) (by omega) (x := y) (y := y)
  rw [wr64 (x := x * x) (by omega), wr64 (x := y * y) (by omega), wr64 (by omega)]

theorem turnR_eq (p q r : Int) (hp : inI p) (hq : inI q) : R06_TurnErr p q r = some (turnE p q r) := by
  unfold R06_TurnErr turnE
  by_cases h1 : 1 ≤ r ∧ r ≤ 100
  · rw [if_neg (by simpa using h1), if_neg (show ¬¬ (1 ≤ r ∧ r ≤ 100) from fun hc => hc h1), wr64 (x := 0 - r) (by omega)]
    by_cases h2 : -r ≤ p ∧ p ≤ r
    · rw [if_neg (by simp; omega)]
      by_cases h3 : -r ≤ q ∧ q ≤ r
      · rw [if_neg (by simp; omega)]
        have pp := mulB (a := 100) (b := 100) (by decide) (by decide) (by omega) (by omega) (x := p) (y := p)
        have qq := mulB (a := 100) (b := 100) (by decide) (by decide) (by omega) (by omega) (x := q) (y := q)
        have rr := mulB (a := 100) (b := 100) (by decide) (by decide) (by omega) (by omega) (x := r) (y := r)
        rw [wr64 (x := p * p) (by omega), wr64 (x := q * q) (by omega), wr64 (x := r * r) (by omega), wr64 (x := p * p + q * q) (by omega)]
        by_cases h4 : p * p + q * q = r * r
        · rw [if_neg (by simpa using h4), if_pos ⟨h2, h3, h4⟩]
        · rw [if_pos (by simpa using h4), if_neg (fun hc => h4 hc.2.2)]
      · rw [if_pos (by simp; omega), if_neg (fun hc => h3 hc.2.1)]
    · rw [if_pos (by simp; omega), if_neg (fun hc => h2 hc.1)]
  · rw [if_pos (by simp; omega), if_pos h1]

/-- A fraction in its lowest terms. -/
theorem low_of {n d : Int} (hn : 0 ≤ n) (hd : 0 < d) : ∃ g : Int, 0 < g ∧ n = g * (lowS n d).1 ∧ d = g * (lowS n d).2 ∧ 0 ≤ (lowS n d).1 ∧ 0 < (lowS n d).2 := by
  have g0 : 0 < Int.gcd n d := Int.gcd_pos_of_ne_zero_right _ (by omega)
  have g1 : (Int.gcd n d : Int) ∣ n := Int.gcd_dvd_left ..
  have g2 : (Int.gcd n d : Int) ∣ d := Int.gcd_dvd_right ..
  unfold lowS
  rw [if_neg (by omega)]
  dsimp only
  generalize Int.gcd n d = g at *
  refine ⟨g, by omega, (Int.mul_tdiv_cancel' g1).symm, (Int.mul_tdiv_cancel' g2).symm, ?_, ?_⟩
  · rw [Int.tdiv_eq_ediv_of_nonneg hn]
    exact Int.ediv_nonneg hn (by omega)
  · rw [Int.tdiv_eq_ediv_of_nonneg (by omega)]
    exact Int.ediv_pos_of_pos_of_dvd hd (by omega) g2
theorem cmp_low (a b : Int) {n d : Int} (hn : 0 ≤ n) (hd : 0 < d) : cmpS a b (lowS n d).1 (lowS n d).2 = cmpS a b n d := by
  obtain ⟨g, hg, e1, e2, _, _⟩ := low_of hn hd
  generalize (lowS n d).1 = N at *
  generalize (lowS n d).2 = D at *
  subst e1
  have e3 : a * d = g * (a * D) := by rw [e2, Int.mul_left_comm]
  have e4 : g * N * b = g * (N * b) := Int.mul_assoc ..
  unfold cmpS
  rw [e3, e4]
  simp only [Int.mul_lt_mul_left hg]
end Go.Sh
