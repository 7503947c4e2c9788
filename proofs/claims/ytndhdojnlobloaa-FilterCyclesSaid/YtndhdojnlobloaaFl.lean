/- Facts on floats: what is no number, and single floats as double ones. -/
import Derived.WalkKit
set_option linter.unusedSectionVars false
set_option linter.unusedSimpArgs false
set_option linter.unusedVariables false
namespace Go.Fl
open Ieee

theorem nan32 (t : Nat) : (single.read ((t % 2) * 2 ^ 31 + 0x7f800000 + 1 + (t / 2) % (2 ^ 23 - 1))).isNaN = true := by
  have e1 : single.signWeight = 2147483648 := rfl
  have e2 : single.binade = 8388608 := rfl
  have e3 : single.infRung = 2139095040 := rfl
  have hx : (t / 2) % (2 ^ 23 - 1) < 8388607 := Nat.mod_lt _ (by decide)
  have ht : t % 2 < 2 := Nat.mod_lt _ (by decide)
  generalize (t / 2) % (2 ^ 23 - 1) = x at *
  generalize t % 2 = y at *
  have hr : (y * 2 ^ 31 + 0x7f800000 + 1 + x) % 2147483648 = 2139095041 + x := by omega
  unfold Format.read
  simp only [e1, e2, e3, hr]
  rw [if_neg (by omega), if_neg (by omega), if_neg (by omega)]
  rfl

theorem nan64 (t : Nat) : (double.read ((t % 2) * 2 ^ 63 + 0x7ff0000000000000 + 1 + (t / 2) % (2 ^ 52 - 1))).isNaN = true := by
  have e1 : double.signWeight = 9223372036854775808 := rfl
  have e2 : double.binade = 4503599627370496 := rfl
  have e3 : double.infRung = 9218868437227405312 := rfl
  have hx : (t / 2) % (2 ^ 52 - 1) < 4503599627370495 := Nat.mod_lt _ (by decide)
  have ht : t % 2 < 2 := Nat.mod_lt _ (by decide)
  generalize (t / 2) % (2 ^ 52 - 1) = x at *
  generalize t % 2 = y at *
  have hr : (y * 2 ^ 63 + 0x7ff0000000000000 + 1 + x) % 9223372036854775808 = 9218868437227405313 + x := by omega
  unfold Format.read
  simp only [e1, e2, e3, hr]
  rw [if_neg (by omega), if_neg (by omega), if_neg (by omega)]
  rfl

/-- What a single float stands for. -/
theorem read32 (b : Nat) : (∃ s m e, single.read b = .number s m e ∧ m < 16777216 ∧ -149 ≤ e ∧ e ≤ 104) ∨ (∃ s, single.read b = .infinity s) ∨ ∃ s t, single.read b = .nan s t := by
  have e1 : single.signWeight = 2147483648 := rfl
  have e2 : single.binade = 8388608 := rfl
  have e3 : single.infRung = 2139095040 := rfl
  have e4 : single.leastPlace = -149 := rfl
  unfold Format.read
  simp only [e1, e2, e3, e4]
  have hr : b % 2147483648 < 2147483648 := Nat.mod_lt _ (by decide)
  generalize b % 2147483648 = r at *
  split
  · exact .inl ⟨_, _, _, rfl, by omega, by omega, by omega⟩
  · split
    · refine .inl ⟨_, _, _, rfl, ?_, ?_, ?_⟩
      · have : r % 8388608 < 8388608 := Nat.mod_lt _ (by decide)
        omega
      · omega
      · have : r / 8388608 ≤ 254 := by omega
        omega
    · split
      · exact .inr (.inl ⟨_, rfl⟩)
      · exact .inr (.inr ⟨_, _, rfl⟩)

theorem cut_zero (way : Toward) (neg : Bool) (n : Nat) (hw : way = .even) : way.cut neg n 0 = n := by
  subst hw
  simp [Toward.cut, Nat.mod_one]

/-- A number of at most 24 digits, at a place within reach, as a double float. -/
theorem write64 {s : Bool} {m : Nat} {e : Int} (hm0 : m ≠ 0) (hm : m < 9007199254740992) (he1 : -1000 ≤ e) (he2 : e ≤ 900) :
    double.write (.number s m e) = double.word s ((e + m.log2 - 52 + 1074).toNat * 4503599627370496 + m * 2 ^ (52 - m.log2)) ∧ m.log2 ≤ 52 ∧ 4503599627370496 ≤ m * 2 ^ (52 - m.log2) ∧ m * 2 ^ (52 - m.log2) < 9007199254740992 := by
  have hl : m.log2 ≤ 52 := by
    have := (Nat.log2_lt hm0 (k := 53)).2 (by omega)
    omega
  have hlo : 2 ^ m.log2 ≤ m := Nat.log2_self_le hm0
  have hhi : m < 2 ^ (m.log2 + 1) := Nat.lt_log2_self
  have hp : 2 ^ m.log2 * 2 ^ (52 - m.log2) = 4503599627370496 := by rw [← Nat.pow_add, Nat.add_sub_cancel' hl]
  have h1 : 4503599627370496 ≤ m * 2 ^ (52 - m.log2) := by rw [← hp]; exact Nat.mul_le_mul_right _ hlo
  have h2 : m * 2 ^ (52 - m.log2) < 9007199254740992 := by
    have h3 : m * 2 ^ (52 - m.log2) < 2 ^ (m.log2 + 1) * 2 ^ (52 - m.log2) := Nat.mul_lt_mul_of_pos_right hhi (Nat.two_pow_pos _)
    have h4 : 2 ^ (m.log2 + 1) * 2 ^ (52 - m.log2) = 9007199254740992 := by rw [Nat.pow_succ, Nat.mul_assoc, Nat.mul_comm 2, ← Nat.mul_assoc, hp]
    omega
  refine ⟨?_, hl, h1, h2⟩
  have e2 : double.binade = 4503599627370496 := rfl
  have e3 : double.infRung = 9218868437227405312 := rfl
  have e4 : double.leastPlace = -1074 := rfl
  have e5 : double.fractionBits = 52 := rfl
  simp only [Format.write, Format.nearest, if_neg hm0, e2, e3, e4, e5]
  have hlast : max (e + (m.log2 : Int) - 52) (-1074) = e + (m.log2 : Int) - 52 := by omega
  have hlast' : max (e + (m.log2 : Int) - (52 : Nat)) (-1074) = e + (m.log2 : Int) - 52 := hlast
  rw [hlast']
  have ha : (e - (e + (m.log2 : Int) - 52)).toNat = 52 - m.log2 := by omega
  have hb : ((e + (m.log2 : Int) - 52) - e).toNat = 0 := by omega
  rw [ha, hb, cut_zero _ _ _ rfl, Nat.shiftLeft_eq]
  have hc : (e + (m.log2 : Int) - 52 - -1074).toNat = (e + (m.log2 : Int) - 52 + 1074).toNat := by omega
  rw [hc]
  have hd : (e + (m.log2 : Int) - 52 + 1074).toNat ≤ 2000 := by omega
  rw [Nat.min_eq_left (by omega)]

theorem read_word64 {s : Bool} {r : Nat} (h1 : 4503599627370496 ≤ r) (h2 : r < 9218868437227405312) : double.read (double.word s r) = .number s (4503599627370496 + r % 4503599627370496) (-1074 + (r / 4503599627370496 - 1 : Nat)) := by
  have e1 : double.signWeight = 9223372036854775808 := rfl
  have e2 : double.binade = 4503599627370496 := rfl
  have e3 : double.infRung = 9218868437227405312 := rfl
  have e4 : double.leastPlace = -1074 := rfl
  unfold Format.read Format.word
  simp only [e1, e2, e3, e4]
  cases s
  · simp only [Bool.false_eq_true, if_false]
    have ha : r % 9223372036854775808 = r := Nat.mod_eq_of_lt (by omega)
    have hb : r / 9223372036854775808 = 0 := Nat.div_eq_of_lt (by omega)
    rw [ha, hb, if_neg (by omega), if_pos h2]
    rfl
  · simp only [if_true]
    have ha : (9223372036854775808 + r) % 9223372036854775808 = r := by omega
    have hb : (9223372036854775808 + r) / 9223372036854775808 = 1 := by omega
    rw [ha, hb, if_neg (by omega), if_pos h2]
    rfl

/-- A number of at most 53 digits, written as a double float and read back. -/
theorem round64 {s : Bool} {m : Nat} {e : Int} (hm0 : m ≠ 0) (hm : m < 9007199254740992) (he1 : -1000 ≤ e) (he2 : e ≤ 900) :
    double.read (double.write (.number s m e)) = .number s (m * 2 ^ (52 - m.log2)) (e + m.log2 - 52) ∧ m.log2 ≤ 52 := by
  obtain ⟨h1, hl, h2, h3⟩ := write64 (s := s) hm0 hm he1 he2
  rw [h1]
  generalize hk : m * 2 ^ (52 - m.log2) = k at *
  have hK : (e + (m.log2 : Int) - 52 + 1074).toNat ≤ 2000 := by omega
  have hK0 : 0 ≤ e + (m.log2 : Int) - 52 + 1074 := by omega
  generalize hq : (e + (m.log2 : Int) - 52 + 1074).toNat = q at *
  refine ⟨?_, hl⟩
  rw [read_word64 (by omega) (by omega)]
  have ha : 4503599627370496 + (q * 4503599627370496 + k) % 4503599627370496 = k := by omega
  have hb : (q * 4503599627370496 + k) / 4503599627370496 - 1 = q := by omega
  rw [ha, hb]
  congr 1
  omega

theorem zero64 (s : Bool) (e : Int) : double.read (double.write (.number s 0 e)) = .number s 0 (-1074) := by
  cases s <;> simp [Format.write, Format.nearest] <;> rfl

/-- A single float, as a double one. -/
theorem up64 {b : Nat} {s : Bool} {m : Nat} {e : Int} (h : single.read b = .number s m e) : (double.read (double.write (.number s m e))).isInfinity = false := by
  rcases read32 b with ⟨s', m', e', h', hm, he1, he2⟩ | ⟨s', h'⟩ | ⟨s', t', h'⟩
  · rw [h] at h'
    cases h'
    by_cases hm0 : m = 0
    · subst hm0; rw [zero64]; rfl
    · rw [(round64 hm0 (by omega) (by omega) (by omega)).1]; rfl
  · rw [h] at h'; cases h'
  · rw [h] at h'; cases h'

end Go.Fl
