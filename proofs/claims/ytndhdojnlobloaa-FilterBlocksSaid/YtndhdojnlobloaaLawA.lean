/- Floats of whole numbers: what is read, compared and rounded. -/
import Derived.Test.YtndhdojnlobloaaPl
import Derived.Test.YtndhdojnlobloaaFl
import Derived.Test.YtndhdojnlobloaaMirB
set_option linter.unusedSectionVars false
set_option linter.unusedSimpArgs false
set_option linter.unusedVariables false
namespace Go.Sx
open Ieee Go.Fl

/-- A number's size in units of 2^-K. -/
def mg (K : Nat) (m : Nat) (e : Int) : Nat := m * 2 ^ (e + K).toNat
def sg (s : Bool) (a : Nat) : Int := if s then -(a : Int) else (a : Int)

theorem signed_eq (s : Bool) (m k : Nat) : signed s m k = sg s (m * 2 ^ k) := by
  unfold signed sg
  rw [Nat.shiftLeft_eq]

theorem sg_mul (s : Bool) (a b : Nat) : sg s (a * b) = sg s a * (b : Int) := by
  unfold sg
  cases s <;> simp [Int.neg_mul]

theorem compare_mul {a b : Int} {c : Nat} (hc : 0 < c) : compare (a * (c : Int)) (b * (c : Int)) = compare a b := by
  have hc' : (0 : Int) < (c : Int) := by omega
  rcases Int.lt_trichotomy a b with h | h | h
  · have h1 : a * (c : Int) < b * (c : Int) := Int.mul_lt_mul_of_pos_right h hc'
    rw [Int.compare_eq_lt.2 h1, Int.compare_eq_lt.2 h]
  · subst h; rw [Int.compare_eq_eq.2 rfl, Int.compare_eq_eq.2 rfl]
  · have h1 : b * (c : Int) < a * (c : Int) := Int.mul_lt_mul_of_pos_right h hc'
    rw [Int.compare_eq_gt.2 h1, Int.compare_eq_gt.2 h]

/-- Two numbers are compared by their sizes. -/
theorem order_mg (K : Nat) {s t : Bool} {m n : Nat} {i j : Int} (hi : 0 ≤ i + K) (hj : 0 ≤ j + K) :
    Datum.order (.number s m i) (.number t n j) = some (compare (sg s (mg K m i)) (sg t (mg K n j))) := by
  simp only [Datum.order, signed_eq]
  have key : ∀ (x : Int) (m : Nat), min i j ≤ x → 0 ≤ x + K → mg K m x = m * 2 ^ (x - min i j).toNat * 2 ^ (min i j + K).toNat := by
    intro x m h1 h2
    unfold mg
    rw [Nat.mul_assoc, ← Nat.pow_add]
    congr 2
    omega
  rw [key i m (by omega) hi, key j n (by omega) hj, sg_mul s (m * _), sg_mul t (n * _), compare_mul (Nat.two_pow_pos _)]

/-- A number less itself. -/
theorem sum_self {s : Bool} {m : Nat} {i : Int} : Datum.sum (.number s m i) (Datum.opposite (.number s m i)) = some (.number false 0 i) := by
  simp only [Datum.opposite, Datum.sum, Int.min_self, Int.sub_self, Int.toNat_zero, signed_eq]
  cases s <;> simp [sg] <;> omega

theorem cut_zero_way (s : Bool) (n drop : Nat) : Toward.cut .zero s n drop = n / 2 ^ drop := by
  have h1 : (n / (1 <<< min drop (n.log2 + 2))) = n / 2 ^ drop := by
    rw [Nat.shiftLeft_eq, Nat.one_mul]
    by_cases h : drop ≤ n.log2 + 2
    · rw [Nat.min_eq_left h]
    · rw [Nat.min_eq_right (by omega)]
      have h2 : n < 2 ^ (n.log2 + 1) := Nat.lt_log2_self
      have h3 : 2 ^ (n.log2 + 1) ≤ 2 ^ (n.log2 + 2) := Nat.pow_le_pow_right (by omega) (by omega)
      have h4 : 2 ^ (n.log2 + 2) ≤ 2 ^ drop := Nat.pow_le_pow_right (by omega) (by omega)
      rw [Nat.div_eq_of_lt (by omega), Nat.div_eq_of_lt (by omega)]
  simp [Toward.cut, h1]

/-- A number's whole part. -/
theorem toInt_mg (K : Nat) {s : Bool} {m : Nat} {i : Int} (hi : 0 ≤ i + K) : Datum.toInt .zero (.number s m i) = some (sg s (mg K m i / 2 ^ K)) := by
  simp only [Datum.toInt, Datum.integral, signed_eq, Nat.pow_zero, Nat.mul_one, cut_zero_way, Nat.shiftLeft_eq]
  congr 2
  unfold mg
  by_cases h : 0 ≤ i
  · have e1 : (-i).toNat = 0 := by omega
    have e2 : (i + K).toNat = i.toNat + K := by omega
    rw [e1, e2, Nat.pow_add, Nat.pow_zero, Nat.div_one, ← Nat.mul_assoc, Nat.mul_div_cancel _ (Nat.two_pow_pos K)]
  · have e1 : i.toNat = 0 := by omega
    have e2 : K = (i + K).toNat + (-i).toNat := by omega
    rw [e1, Nat.pow_zero, Nat.mul_one]
    conv => rhs; rhs; rw [e2, Nat.pow_add]
    rw [Nat.mul_comm m, Nat.mul_div_mul_left _ _ (Nat.two_pow_pos _)]

/-- A whole number below 2^24, written as a single float and read back. -/
theorem round32 {s : Bool} {m : Nat} (hm0 : m ≠ 0) (hm : m < 16777216) :
    single.read (single.write (.number s m 0)) = .number s (m * 2 ^ (23 - m.log2)) ((m.log2 : Int) - 23) ∧ m.log2 ≤ 23 := by
  have hl : m.log2 ≤ 23 := by
    have := (Nat.log2_lt hm0 (k := 24)).2 (by omega)
    omega
  refine ⟨?_, hl⟩
  have hlo : 2 ^ m.log2 ≤ m := Nat.log2_self_le hm0
  have hhi : m < 2 ^ (m.log2 + 1) := Nat.lt_log2_self
  have hp : 2 ^ m.log2 * 2 ^ (23 - m.log2) = 8388608 := by rw [← Nat.pow_add, Nat.add_sub_cancel' hl]
  have h1 : 8388608 ≤ m * 2 ^ (23 - m.log2) := by rw [← hp]; exact Nat.mul_le_mul_right _ hlo
  have h2 : m * 2 ^ (23 - m.log2) < 16777216 := by
    have h3 : m * 2 ^ (23 - m.log2) < 2 ^ (m.log2 + 1) * 2 ^ (23 - m.log2) := Nat.mul_lt_mul_of_pos_right hhi (Nat.two_pow_pos _)
    have h4 : 2 ^ (m.log2 + 1) * 2 ^ (23 - m.log2) = 16777216 := by rw [Nat.pow_succ, Nat.mul_assoc, Nat.mul_comm 2, ← Nat.mul_assoc, hp]
    omega
  have e1 : single.signWeight = 2147483648 := rfl
  have e2 : single.binade = 8388608 := rfl
  have e3 : single.infRung = 2139095040 := rfl
  have e4 : single.leastPlace = -149 := rfl
  have e5 : single.fractionBits = 23 := rfl
  have hw : single.write (.number s m 0) = single.word s ((m.log2 + 126) * 8388608 + m * 2 ^ (23 - m.log2)) := by
    simp only [Format.write, Format.nearest, if_neg hm0, e2, e3, e4, e5]
    have hlast : max ((0 : Int) + (m.log2 : Int) - (23 : Nat)) (-149) = (m.log2 : Int) - 23 := by omega
    rw [hlast]
    have ha : ((0 : Int) - ((m.log2 : Int) - 23)).toNat = 23 - m.log2 := by omega
    have hb : (((m.log2 : Int) - 23) - 0).toNat = 0 := by omega
    rw [ha, hb, cut_zero _ _ _ rfl, Nat.shiftLeft_eq]
    have hc : ((m.log2 : Int) - 23 - -149).toNat = m.log2 + 126 := by omega
    rw [hc, Nat.min_eq_left (by omega)]
  rw [hw]
  generalize m * 2 ^ (23 - m.log2) = k at *
  generalize m.log2 = q at *
  have hrd : ∀ r, 8388608 ≤ r → r < 2139095040 → single.read (single.word s r) = .number s (8388608 + r % 8388608) (-149 + (r / 8388608 - 1 : Nat)) := by
    intro r h1 h2
    unfold Format.read Format.word
    simp only [e1, e2, e3, e4]
    cases s
    · simp only [Bool.false_eq_true, if_false]
      have ha : r % 2147483648 = r := Nat.mod_eq_of_lt (by omega)
      have hb : r / 2147483648 = 0 := Nat.div_eq_of_lt (by omega)
      rw [ha, hb, if_neg (by omega), if_pos h2]
      rfl
    · simp only [if_true]
      have ha : (2147483648 + r) % 2147483648 = r := by omega
      have hb : (2147483648 + r) / 2147483648 = 1 := by omega
      rw [ha, hb, if_neg (by omega), if_pos h2]
      rfl
  rw [hrd _ (by omega) (by omega)]
  have ha : 8388608 + ((q + 126) * 8388608 + k) % 8388608 = k := by omega
  have hb : ((q + 126) * 8388608 + k) / 8388608 - 1 = q + 126 := by omega
  have hc : (-149 : Int) + ((q + 126 : Nat) : Int) = (q : Int) - 23 := by omega
  rw [ha, hb, hc]

/-- What a whole number below 2^24 is as a single float. -/
theorem near32 (K : Nat) (hK : 149 ≤ K) {n : Int} (hn : -16777216 < n ∧ n < 16777216) :
    ∃ m e, FloatKind.decode .f32 (FloatKind.nearest .f32 n) = .number (decide (n < 0)) m e ∧ mg K m e = n.natAbs * 2 ^ K ∧ -149 ≤ e := by
  unfold FloatKind.decode FloatKind.nearest FloatKind.encode FloatKind.format
  by_cases h0 : n.natAbs = 0
  · rw [h0]
    have : n = 0 := by omega
    subst this
    exact ⟨0, -149, by rfl, by simp [mg], by omega⟩
  · obtain ⟨h1, h2⟩ := round32 (s := decide (n < 0)) h0 (by omega)
    refine ⟨_, _, h1, ?_, by omega⟩
    unfold mg
    have e1 : ((n.natAbs.log2 : Int) - 23 + K).toNat = K - (23 - n.natAbs.log2) := by omega
    rw [e1, Nat.mul_assoc, ← Nat.pow_add]
    congr 2
    omega

theorem sg_natAbs (n : Int) : sg (decide (n < 0)) n.natAbs = n := by
  unfold sg
  by_cases h : n < 0
  · simp [h]; omega
  · simp [h]; omega

theorem f2i_near {n : Int} (hn : -16777216 < n ∧ n < 16777216) : f2i .f32 (FloatKind.nearest .f32 n) = n ∧ f2iOk .f32 .i64 (FloatKind.nearest .f32 n) = true := by
  obtain ⟨m, e, h1, h2, h3⟩ := near32 149 (by omega) hn
  have ht : Datum.toInt .zero (FloatKind.decode .f32 (FloatKind.nearest .f32 n)) = some n := by
    rw [h1, toInt_mg 149 (by omega), h2, Nat.mul_div_cancel _ (Nat.two_pow_pos _), sg_natAbs]
  unfold f2i f2iOk
  rw [ht]
  refine ⟨rfl, ?_⟩
  have e1 : IntKind.i64.min = -9223372036854775808 := rfl
  have e2 : IntKind.i64.max = 9223372036854775807 := rfl
  simp only [e1, e2, decide_eq_true_eq]
  omega

end Go.Sx

namespace Go.Sh
open Go Go.Proofs Go.RowKit Go.Sx Go.Sx06

theorem checkSection_eq (b0 b1 b2 a0 a1 : Int) : R06_CheckSection b0 b1 b2 a0 a1 = some (chkS b0 b1 b2 a0 a1) := by
  have h := iter_first [b0, b1, b2, a0, a1] 0 (fun n => !partB n) (body := R06_CheckSection_b0 b0 b1 b2 a0 a1) (fun _ => .inl ()) (.inr ()) (by simp)
    (fun i hi hp => by
      unfold R06_CheckSection_b0
      rw [if_pos (by omega), if_pos (by omega), if_pos (by omega), if_pos (by simpa [partB] using hp)])
    (fun i hi hp => by
      unfold R06_CheckSection_b0
      rw [if_pos (by omega), if_pos (by omega), if_pos (by omega), if_neg (by simpa [partB] using hp), wr64 (by simp at hi; omega)])
    (by unfold R06_CheckSection_b0; rw [if_neg (by omega)])
  unfold R06_CheckSection
  rw [h]
  unfold chkS
  cases hf : [b0, b1, b2, a0, a1].findIdx? (fun n => !partB n) with
  | none =>
    rw [List.findIdx?_eq_none_iff] at hf
    rw [if_pos (List.all_eq_true.2 fun x hx => by simpa using hf x hx)]
    rfl
  | some k =>
    rw [List.findIdx?_eq_some_iff_getElem] at hf
    obtain ⟨hk, hp, _⟩ := hf
    rw [if_neg (fun hc => by have := List.all_eq_true.1 hc _ (List.getElem_mem hk); rw [this] at hp; cases hp)]
    rfl

theorem copy_eq {c : List (List Int)} (h : c.length ≤ 1000000000000) : R06_Copy c = some c := by
  unfold R06_Copy
  rw [if_pos (by omega), List.nil_append]

theorem chkRow_eq (r : List Int) : R06_CheckSection (r.getD 0 0) (r.getD 1 0) (r.getD 2 0) (r.getD 3 0) (r.getD 4 0) = some (chkRow r) := checkSection_eq _ _ _ _ _

theorem checkCascade_eq {c : List (List Int)} (hl : c.length ≤ 1000000000000) : R06_CheckCascade c = some (chkI c, chkE c) := by
  unfold R06_CheckCascade chkI chkE
  by_cases h6 : 6 < c.length
  · rw [if_pos (by omega), if_pos h6, if_pos h6]
  · rw [if_neg (by omega), if_neg h6, if_neg h6]
    have h := iter_first c [] (fun r => chkRow r != 0) (body := R06_CheckCascade_b0 c) (fun i => .inl ((i : Int), chkRow (c.getD i []))) (.inr ()) (by omega)
      (fun i hi hp => by
        unfold R06_CheckCascade_b0
        rw [if_pos (by omega), if_pos (by omega), if_pos (by omega), Int.toNat_natCast, chkRow_eq, bind_some', if_pos hp])
      (fun i hi hp => by
        unfold R06_CheckCascade_b0
        rw [if_pos (by omega), if_pos (by omega), if_pos (by omega), Int.toNat_natCast, chkRow_eq, bind_some', if_neg (by rw [hp]; simp), wr64 (by omega)])
      (by unfold R06_CheckCascade_b0; rw [if_neg (by omega)])
    rw [h]
    cases c.findIdx? (fun r => chkRow r != 0) <;> rfl

end Go.Sh

namespace Go.Sh
open Go Go.Proofs Go.RowKit Go.Sx Ieee Go.Fl

def KK : Nat := 1100
def PP : Nat := 2 ^ KK
theorem PP_pos : 0 < PP := Nat.two_pow_pos _

theorem cmp_eq (a b : Int) : (some (compare a b) == some Ordering.eq) = decide (a = b) := by
  rcases Int.lt_trichotomy a b with h | h | h
  · rw [Int.compare_eq_lt.2 h, decide_eq_false (by omega)]; rfl
  · rw [Int.compare_eq_eq.2 h, decide_eq_true h]; rfl
  · rw [Int.compare_eq_gt.2 h, decide_eq_false (by omega)]; rfl
theorem cmp_lt (a b : Int) : (some (compare a b) == some Ordering.lt) = decide (a < b) := by
  rcases Int.lt_trichotomy a b with h | h | h
  · rw [Int.compare_eq_lt.2 h, decide_eq_true h]; rfl
  · rw [Int.compare_eq_eq.2 h, decide_eq_false (by omega)]; rfl
  · rw [Int.compare_eq_gt.2 h, decide_eq_false (by omega)]; rfl
theorem cmp_gt (a b : Int) : (some (compare a b) == some Ordering.gt) = decide (b < a) := by
  rcases Int.lt_trichotomy a b with h | h | h
  · rw [Int.compare_eq_lt.2 h, decide_eq_false (by omega)]; rfl
  · rw [Int.compare_eq_eq.2 h, decide_eq_false (by omega)]; rfl
  · rw [Int.compare_eq_gt.2 h, decide_eq_true h]; rfl

/-- The error of a sample. -/
def seD : Datum → Int
  | .number _ m e => if 16777216 * PP ≤ mg KK m e then 2 else if mg KK m e / PP * PP ≠ mg KK m e then 27 else if mg KK m e / PP ≤ 32767 then 0 else 2
  | _ => 27
def se (b : Nat) : Int := seD (FloatKind.decode .f32 b)

theorem mg_up (m : Nat) (e : Nat) : mg KK m (e : Int) = m * 2 ^ e * PP := by
  unfold mg PP
  rw [Nat.mul_assoc, ← Nat.pow_add]
  congr 2

theorem sg_f (a : Nat) : sg false a = (a : Int) := rfl
theorem sg_t (a : Nat) : sg true a = -(a : Int) := rfl
theorem toIntP {s : Bool} {m : Nat} {i : Int} (hi : 0 ≤ i + KK) : Datum.toInt .zero (.number s m i) = some (sg s (mg KK m i / PP)) := toInt_mg KK hi
theorem near32P {n : Int} (hn : -16777216 < n ∧ n < 16777216) : ∃ m e, FloatKind.decode .f32 (FloatKind.nearest .f32 n) = .number (decide (n < 0)) m e ∧ mg KK m e = n.natAbs * PP ∧ -149 ≤ e := near32 KK (by unfold KK; omega) hn
theorem mg_24 : mg KK 8388608 1 = 16777216 * PP := by
  have := mg_up 8388608 1
  rw [show (8388608 * 2 ^ 1 : Nat) = 16777216 from rfl] at this
  exact this
theorem mg_16 : mg KK 5000000000000000 1 = 10000000000000000 * PP := by
  have := mg_up 5000000000000000 1
  rw [show (5000000000000000 * 2 ^ 1 : Nat) = 10000000000000000 from rfl] at this
  exact this
theorem PP_eq : PP = 2 ^ KK := rfl
attribute [irreducible] PP

theorem sub_self (f : Format) {b : Nat} {s : Bool} {m : Nat} {e : Int} (h : f.read b = .number s m e) : f.sub b b = some 0 := by
  unfold Format.sub
  rw [h, sum_self]
  simp [Format.write, Format.nearest, Format.word]
theorem sub_inf (f : Format) {b : Nat} {s : Bool} (h : f.read b = .infinity s) : f.sub b b = none := by
  unfold Format.sub
  rw [h]
  cases s <;> rfl

theorem sampleErrF_eq (b : Nat) : F_sampleErr b = some (se b) := by
  have hz : Format.order single 0 0 = some .eq := by decide
  unfold F_sampleErr se FloatKind.decode
  simp only [show FloatKind.format .f32 = single from rfl]
  rcases read32 b with ⟨s, m, e, h, hm, he1, he2⟩ | ⟨s, h⟩ | ⟨s, t, h⟩
  · have h1 : single.order b b = some .eq := by
      unfold Format.order
      rw [h, order_mg KK (by unfold KK; omega) (by unfold KK; omega), Int.compare_eq_eq.2 rfl]
    have hA : single.order b 1266679808 = some (compare (sg s (mg KK m e)) ((16777216 * PP : Nat) : Int)) := by
      unfold Format.order
      have hc : single.read 1266679808 = .number false 8388608 1 := by decide
      rw [h, hc, order_mg KK (by unfold KK; omega) (by unfold KK; omega)]
      rw [mg_24]
      first | rw [sg_f] | rw [sg_t]
    have hB : single.order b 3414163456 = some (compare (sg s (mg KK m e)) (-((16777216 * PP : Nat) : Int))) := by
      unfold Format.order
      have hc : single.read 3414163456 = .number true 8388608 1 := by decide
      rw [h, hc, order_mg KK (by unfold KK; omega) (by unfold KK; omega)]
      rw [mg_24]
      first | rw [sg_f] | rw [sg_t]
    have hT : Datum.toInt .zero (FloatKind.decode .f32 b) = some (sg s (mg KK m e / PP)) := by
      unfold FloatKind.decode
      simp only [show FloatKind.format .f32 = single from rfl]
      rw [h, toIntP (by unfold KK; omega)]
    rw [h1, sub_self single h, hA, hB]
    simp only [Option.isSome_some, Option.getD_some, hz, if_true, bne_self_eq_false, Bool.false_eq_true, if_false, cmp_gt, cmp_eq, cmp_lt, h, seD]
    generalize hg : mg KK m e = A at *
    have hP := PP_pos
    have hdm := Nat.div_add_mod A PP
    rw [Nat.mul_comm] at hdm
    have hml := Nat.mod_lt A hP
    have hq : f2i .f32 b = sg s (A / PP) := by unfold f2i; rw [hT]; rfl
    by_cases hbig : 16777216 * PP ≤ A
    · rw [if_pos hbig]
      cases s
      · rw [if_pos]
        simp only [sg, Bool.false_eq_true, if_false, Bool.or_eq_true, decide_eq_true_eq]
        omega
      · rw [if_neg, if_pos]
        · simp only [sg, if_true, Bool.or_eq_true, decide_eq_true_eq]
          omega
        · simp only [sg, if_true, Bool.or_eq_true, decide_eq_true_eq]
          omega
    · rw [if_neg hbig]
      have hd : A / PP < 16777216 := (Nat.div_lt_iff_lt_mul hP).2 (by omega)
      generalize A / PP = Q at *
      generalize A % PP = R at *
      generalize hQP : Q * PP = QP at *
      have hn : -16777216 < sg s Q ∧ sg s Q < 16777216 := by cases s <;> simp only [sg, Bool.false_eq_true, if_false, if_true] <;> omega
      have hok : f2iOk .f32 .i64 b = true := by
        unfold f2iOk
        rw [hT]
        have e1 : IntKind.i64.min = -9223372036854775808 := rfl
        have e2 : IntKind.i64.max = 9223372036854775807 := rfl
        simp only [e1, e2, decide_eq_true_eq]
        omega
      rw [if_neg, if_neg, if_pos hok]
      · obtain ⟨m', e', h3, h4, h5⟩ := near32P hn
        have hC : single.order (FloatKind.nearest .f32 (f2i .f32 b)) b = some (compare (sg s Q * (PP : Int)) (sg s A)) := by
          unfold Format.order
          have h3' : single.read (FloatKind.nearest .f32 (f2i .f32 b)) = .number (decide (sg s Q < 0)) m' e' := by rw [hq]; exact h3
          rw [h3', h, order_mg KK (by unfold KK; omega) (by unfold KK; omega), h4, hg, sg_mul, sg_natAbs]
        rw [hC]
        have hne : (some (compare (sg s Q * (PP : Int)) (sg s A)) != some Ordering.eq) = decide (QP ≠ A) := by
          rw [bne, cmp_eq]
          have : (sg s Q * (PP : Int) = sg s A) ↔ QP = A := by
            rw [← sg_mul, hQP]
            cases s <;> simp only [sg, Bool.false_eq_true, if_false, if_true] <;> omega
          by_cases hw : QP = A
          · rw [decide_eq_true (this.2 hw), decide_eq_false (by omega)]; rfl
          · rw [decide_eq_false (fun h => hw (this.1 h)), decide_eq_true hw]; rfl
        rw [hne, hq]
        by_cases hw : QP = A
        · rw [decide_eq_false (show ¬ (QP ≠ A) by omega), if_neg Bool.false_ne_true, if_neg (show ¬ (QP ≠ A) by omega)]
          rw [if_pos hok]
          have hb : (decide (-32767 ≤ sg s Q) && decide (sg s Q ≤ 32767)) = decide (Q ≤ 32767) := by
            rw [Bool.eq_iff_iff, Bool.and_eq_true, decide_eq_true_eq, decide_eq_true_eq, decide_eq_true_eq]
            cases s <;> simp only [sg, Bool.false_eq_true, if_false, if_true] <;> omega
          simp only [hb, decide_eq_true_eq]
        · rw [decide_eq_true (show QP ≠ A from hw), if_pos rfl, if_pos hw]
      · cases s <;> simp only [sg, Bool.false_eq_true, if_false, if_true, Bool.or_eq_true, decide_eq_true_eq] <;> omega
      · cases s <;> simp only [sg, Bool.false_eq_true, if_false, if_true, Bool.or_eq_true, decide_eq_true_eq] <;> omega
  · have h1 : single.order b b = some .eq := by
      unfold Format.order
      rw [h]
      cases s <;> rfl
    rw [h1, sub_inf single h, h]
    rfl
  · have h1 : single.order b b = none := by
      unfold Format.order
      rw [h]
      rfl
    rw [h1, h]
    rfl

end Go.Sh

namespace Go.Sh
open Go Go.Proofs Go.RowKit Go.Sx Ieee Go.Fl

/-- A number that is single, as a double one. -/
theorem dbl {b : Nat} {s : Bool} {m : Nat} {e : Int} (h : single.read b = .number s m e) (hm : m < 16777216) (he1 : -149 ≤ e) (he2 : e ≤ 104) :
    ∃ m' e', double.read (to64 b) = .number s m' e' ∧ mg KK m' e' = mg KK m e ∧ -1074 ≤ e' ∧ m' < 9007199254740992 := by
  have e0 : to64 b = double.write (.number s m e) := by
    unfold to64 FloatKind.encode FloatKind.decode
    simp only [show FloatKind.format .f32 = single from rfl, show FloatKind.format .f64 = double from rfl, h]
  rw [e0]
  by_cases h0 : m = 0
  · subst h0
    exact ⟨0, -1074, zero64 s e, by simp [mg], by omega, by omega⟩
  · obtain ⟨h1, h2⟩ := round64 (s := s) h0 (by omega) (show -1000 ≤ e by omega) (show e ≤ 900 by omega)
    have hw := write64 (s := s) h0 (by omega) (show -1000 ≤ e by omega) (show e ≤ 900 by omega)
    refine ⟨_, _, h1, ?_, by omega, hw.2.2.2⟩
    unfold mg
    rw [Nat.mul_assoc, ← Nat.pow_add]
    congr 2
    unfold KK
    omega

theorem even_cut {s : Bool} {n : Nat} (h2 : n % 2 = 0) (hn : 2 ≤ n) : Toward.cut .even s n 1 = n / 2 := by
  have hg : (1 <<< min 1 (n.log2 + 2)) = 2 := by rw [Nat.min_eq_left (by omega)]; rfl
  simp [Toward.cut, hg, h2]

/-- A whole number of at most 53 digits, or an even one of 54, as a double float. -/
theorem near64 {n : Int} (hn : n.natAbs < 18014398509481984) (he : 9007199254740992 ≤ n.natAbs → n.natAbs % 2 = 0) :
    ∃ m e, double.read (FloatKind.nearest .f64 n) = .number (decide (n < 0)) m e ∧ mg KK m e = n.natAbs * PP ∧ -1074 ≤ e := by
  have e0 : FloatKind.nearest .f64 n = double.write (.number (decide (n < 0)) n.natAbs 0) := rfl
  rw [e0]
  generalize decide (n < 0) = s
  generalize n.natAbs = a at *
  by_cases h0 : a = 0
  · subst h0
    exact ⟨0, -1074, zero64 s 0, by simp [mg], by omega⟩
  · by_cases hs : a < 9007199254740992
    · obtain ⟨h1, h2⟩ := round64 (s := s) h0 hs (show (-1000 : Int) ≤ 0 by omega) (show (0 : Int) ≤ 900 by omega)
      refine ⟨_, _, h1, ?_, by omega⟩
      rw [PP_eq]; unfold mg
      rw [Nat.mul_assoc, ← Nat.pow_add]
      congr 2
      unfold KK
      omega
    · have hev := he (by omega)
      have hl : a.log2 = 53 := by
        have h1 := (Nat.log2_lt h0 (k := 54)).2 (by omega)
        have h2 : ¬ a.log2 < 53 := fun h => by have := (Nat.log2_lt h0 (k := 53)).1 h; omega
        omega
      have e2 : double.binade = 4503599627370496 := rfl
      have e3 : double.infRung = 9218868437227405312 := rfl
      have e4 : double.leastPlace = -1074 := rfl
      have e5 : double.fractionBits = 52 := rfl
      have hw : double.write (.number s a 0) = double.word s (1075 * 4503599627370496 + a / 2) := by
        simp only [Format.write, Format.nearest, if_neg h0, e2, e3, e4, e5, hl]
        have hlast : max ((0 : Int) + ((53 : Nat) : Int) - ((52 : Nat) : Int)) (-1074) = 1 := by omega
        rw [hlast]
        have ha : ((0 : Int) - 1).toNat = 0 := by omega
        have hb : ((1 : Int) - 0).toNat = 1 := by omega
        rw [ha, hb, Nat.shiftLeft_zero, even_cut hev (by omega)]
        have hc : ((1 : Int) - -1074).toNat = 1075 := by omega
        rw [hc, Nat.min_eq_left (by omega)]
      rw [hw, read_word64 (by omega) (by omega)]
      refine ⟨_, _, rfl, ?_, by omega⟩
      have hb : (1075 * 4503599627370496 + a / 2) / 4503599627370496 - 1 = 1075 := by omega
      have ha : 4503599627370496 + (1075 * 4503599627370496 + a / 2) % 4503599627370496 = a / 2 := by omega
      rw [ha, hb]
      have hc : (-1074 : Int) + ((1075 : Nat) : Int) = ((1 : Nat) : Int) := by omega
      rw [hc, mg_up]
      congr 1
      omega

/-- Is the number whole? -/
theorem isWhole_eq {f : Nat} {s : Bool} {m : Nat} {e : Int} (h : double.read f = .number s m e) (he : -1074 ≤ e) (hm : m < 9007199254740992) :
    B_IsWhole f = some (decide (10000000000000000 * PP < mg KK m e ∨ mg KK m e / PP * PP = mg KK m e)) := by
  have hz : Format.order double 0 0 = some .eq := by decide
  have h1 : double.order f f = some .eq := by
    unfold Format.order
    rw [h, order_mg KK (by unfold KK; omega) (by unfold KK; omega), Int.compare_eq_eq.2 rfl]
  have hA : double.order f 14069741636278059008 = some (compare (sg s (mg KK m e)) (-((10000000000000000 * PP : Nat) : Int))) := by
    unfold Format.order
    have hc : double.read 14069741636278059008 = .number true 5000000000000000 1 := by decide
    rw [h, hc, order_mg KK (by unfold KK; omega) (by unfold KK; omega)]
    rw [mg_16]
    first | rw [sg_f] | rw [sg_t]
  have hB : double.order f 4846369599423283200 = some (compare (sg s (mg KK m e)) ((10000000000000000 * PP : Nat) : Int)) := by
    unfold Format.order
    have hc : double.read 4846369599423283200 = .number false 5000000000000000 1 := by decide
    rw [h, hc, order_mg KK (by unfold KK; omega) (by unfold KK; omega)]
    rw [mg_16]
    first | rw [sg_f] | rw [sg_t]
  have hT : Datum.toInt .zero (FloatKind.decode .f64 f) = some (sg s (mg KK m e / PP)) := by
    unfold FloatKind.decode
    simp only [show FloatKind.format .f64 = double from rfl]
    rw [h, toIntP (by unfold KK; omega)]
  have hq : f2i .f64 f = sg s (mg KK m e / PP) := by unfold f2i; rw [hT]; rfl
  -- an even number, where it has 54 digits
  have hev : 9007199254740992 ≤ mg KK m e / PP → mg KK m e / PP % 2 = 0 := by
    intro hge
    by_cases hp : 0 ≤ e
    · obtain ⟨d, rfl⟩ : ∃ d : Nat, e = d := ⟨e.toNat, by omega⟩
      rw [mg_up, Nat.mul_div_cancel _ PP_pos] at hge ⊢
      cases d with
      | zero => simp at hge; omega
      | succ d => rw [Nat.pow_succ, ← Nat.mul_assoc]; exact Nat.mul_mod_left _ _
    · have hlt : mg KK m e / PP < 9007199254740992 := by
        rw [Nat.div_lt_iff_lt_mul PP_pos]
        rw [PP_eq]; unfold mg
        have h2 : 2 ^ (e + KK).toNat ≤ 2 ^ KK := Nat.pow_le_pow_right (by omega) (by omega)
        calc m * 2 ^ (e + KK).toNat ≤ m * 2 ^ KK := Nat.mul_le_mul_left _ h2
          _ < 9007199254740992 * 2 ^ KK := Nat.mul_lt_mul_of_pos_right hm (Nat.two_pow_pos _)
      omega
  unfold B_IsWhole
  simp only [show FloatKind.format .f64 = double from rfl]
  rw [h1, sub_self double h, hA, hB]
  simp only [Option.isSome_some, Option.getD_some, hz, if_true, bne_self_eq_false, Bool.false_eq_true, if_false, cmp_gt, cmp_eq, cmp_lt]
  generalize hg : mg KK m e = A at *
  have hP := PP_pos
  have hdm := Nat.div_add_mod A PP
  rw [Nat.mul_comm] at hdm
  have hml := Nat.mod_lt A hP
  by_cases hbig : 10000000000000000 * PP < A
  · rw [decide_eq_true (show _ ∨ _ from .inl hbig)]
    cases s
    · rw [if_pos, if_pos]
      · simp only [sg, Bool.false_eq_true, if_false, Bool.not_eq_true', Bool.or_eq_false_iff, decide_eq_false_iff_not]
        omega
      · simp only [sg, Bool.false_eq_true, if_false, Bool.or_eq_true, decide_eq_true_eq]
        omega
    · rw [if_neg]
      simp only [sg, if_true, Bool.or_eq_true, decide_eq_true_eq]
      omega
  · have hd : A / PP ≤ 10000000000000000 := by
      have : A / PP < 10000000000000001 := by rw [Nat.div_lt_iff_lt_mul hP]; omega
      omega
    generalize A / PP = Q at *
    generalize A % PP = R at *
    generalize hQP : Q * PP = QP at *
    rw [if_pos, if_neg]
    · have hok : f2iOk .f64 .i64 f = true := by
        unfold f2iOk
        rw [hT]
        have e1 : IntKind.i64.min = -9223372036854775808 := rfl
        have e2 : IntKind.i64.max = 9223372036854775807 := rfl
        simp only [e1, e2, decide_eq_true_eq]
        cases s <;> simp only [sg, Bool.false_eq_true, if_false, if_true] <;> omega
      rw [if_pos hok]
      have habs : (sg s Q).natAbs = Q := by cases s <;> simp only [sg, Bool.false_eq_true, if_false, if_true] <;> omega
      obtain ⟨m', e', h3, h4, h5⟩ := near64 (n := sg s Q) (by rw [habs]; omega) (by rw [habs]; exact hev)
      have hC : double.order (FloatKind.nearest .f64 (f2i .f64 f)) f = some (compare (sg s Q * (PP : Int)) (sg s A)) := by
        unfold Format.order
        rw [hq, h3, h, order_mg KK (by unfold KK; omega) (by unfold KK; omega), h4, hg, sg_mul, sg_natAbs]
      rw [hC, cmp_eq, ← sg_mul, hQP]
      congr 1
      rw [decide_eq_decide]
      cases s <;> simp only [sg, Bool.false_eq_true, if_false, if_true] <;> omega
    · simp only [Bool.not_eq_true', Bool.or_eq_false_iff, decide_eq_false_iff_not]
      cases s <;> simp only [sg, Bool.false_eq_true, if_false, if_true] <;> omega
    · simp only [Bool.or_eq_true, decide_eq_true_eq]
      cases s <;> simp only [sg, Bool.false_eq_true, if_false, if_true] <;> omega

end Go.Sh

namespace Go.Sh
open Go Go.Proofs Go.RowKit Go.Sx Go.Sx06 Ieee Go.Fl

/-- The error of samples. -/
def sesE (l : List Nat) : Int := match l.findIdx? (fun b => se b != 0) with
  | some i => se (l.getD i 0)
  | none => 0

theorem sesE_zero {l : List Nat} (h : sesE l = 0) : ∀ b ∈ l, se b = 0 := by
  intro b hb
  unfold sesE at h
  cases hf : l.findIdx? (fun b => se b != 0) with
  | none =>
    rw [List.findIdx?_eq_none_iff] at hf
    simpa using hf b hb
  | some i =>
    rw [hf] at h
    rw [List.findIdx?_eq_some_iff_getElem] at hf
    obtain ⟨hk, hp, _⟩ := hf
    have h : se (l.getD i 0) = 0 := h
    rw [show l.getD i 0 = l[i] by simp [List.getD, hk]] at h
    simp [h] at hp

theorem sesE_ne {l : List Nat} (h : ∀ b ∈ l, se b = 0) : sesE l = 0 := by
  unfold sesE
  have : l.findIdx? (fun b => se b != 0) = none := by
    rw [List.findIdx?_eq_none_iff]
    intro b hb
    simp [h b hb]
  rw [this]

theorem samplesErrF_eq {l : List Nat} (hl : l.length < 1000000000000) : F_samplesErr l = some (sesE l) := by
  unfold F_samplesErr sesE
  have h := iter_first l 0 (fun b => se b != 0) (body := F_samplesErr_b0 l) (fun i => .inl (se (l.getD i 0))) (.inr ()) (by omega)
    (fun i hi hp => by
      unfold F_samplesErr_b0
      rw [if_pos (by omega), if_pos (by omega), if_pos (by omega), Int.toNat_natCast, sampleErrF_eq, bind_some', if_pos hp])
    (fun i hi hp => by
      unfold F_samplesErr_b0
      rw [if_pos (by omega), if_pos (by omega), if_pos (by omega), Int.toNat_natCast, sampleErrF_eq, bind_some', if_neg (by rw [hp]; simp), wr64 (by omega)])
    (by unfold F_samplesErr_b0; rw [if_neg (by omega)])
  rw [h]
  cases l.findIdx? (fun b => se b != 0) <;> rfl

theorem ord_lo {b : Nat} {s : Bool} {m : Nat} {e : Int} (h : single.read b = .number s m e) (he1 : -149 ≤ e) : single.order b 3338665472 = some (compare (sg s (mg KK m e)) (-((32767 * PP : Nat) : Int))) := by
  unfold Format.order
  have hc : single.read 3338665472 = .number true 16776704 (-9) := by decide
  rw [h, hc, order_mg KK (by unfold KK; omega) (by unfold KK; omega)]
  have : mg KK 16776704 (-9) = 32767 * PP := by
    rw [PP_eq]
    unfold mg
    rw [show KK = (-9 + (KK : Int)).toNat + 9 by unfold KK; omega, Nat.pow_add]
    rw [show ((-9 : Int) + (((-9 + (KK : Int)).toNat + 9 : Nat) : Int)).toNat = (-9 + (KK : Int)).toNat by unfold KK; omega]
    generalize 2 ^ (-9 + (KK : Int)).toNat = q
    omega
  rw [this, sg_t]
theorem ord_hi {b : Nat} {s : Bool} {m : Nat} {e : Int} (h : single.read b = .number s m e) (he1 : -149 ≤ e) : single.order b 1191181824 = some (compare (sg s (mg KK m e)) (((32767 * PP : Nat) : Int))) := by
  unfold Format.order
  have hc : single.read 1191181824 = .number false 16776704 (-9) := by decide
  rw [h, hc, order_mg KK (by unfold KK; omega) (by unfold KK; omega)]
  have : mg KK 16776704 (-9) = 32767 * PP := by
    rw [PP_eq]
    unfold mg
    rw [show KK = (-9 + (KK : Int)).toNat + 9 by unfold KK; omega, Nat.pow_add]
    rw [show ((-9 : Int) + (((-9 + (KK : Int)).toNat + 9 : Nat) : Int)).toNat = (-9 + (KK : Int)).toNat by unfold KK; omega]
    generalize 2 ^ (-9 + (KK : Int)).toNat = q
    omega
  rw [this, sg_f]

/-- One sample, by the reference. -/
theorem sampleR {α : Type} (b : Nat) (bad : Int → Option α) (good : Option α) :
    (if isNan32 b = true then bad 27 else Option.bind (B_IsWhole (to64 b)) fun r0 => if (!r0) = true then bad 27 else
      if (Format.order (FloatKind.format .f32) b 3338665472 == some Ordering.lt) = true then bad 2 else
      if (Format.order (FloatKind.format .f32) b 1191181824 == some Ordering.gt) = true then bad 2 else good) = if se b ≠ 0 then bad (se b) else good := by
  simp only [show FloatKind.format .f32 = single from rfl]
  have hdec : FloatKind.decode .f32 b = single.read b := rfl
  unfold isNan32 se
  rw [hdec]
  rcases read32 b with ⟨s, m, e, h, hm, he1, he2⟩ | ⟨s, h⟩ | ⟨s, t, h⟩
  · obtain ⟨m', e', h1, h2, h3, h4⟩ := dbl h hm he1 he2
    -- a great number is whole
    have hw : 16777216 * PP ≤ mg KK m e → mg KK m e / PP * PP = mg KK m e := by
      intro hge
      by_cases hp : 0 ≤ e
      · obtain ⟨d, rfl⟩ : ∃ d : Nat, e = d := ⟨e.toNat, by omega⟩
        rw [mg_up, Nat.mul_div_cancel _ PP_pos]
      · exfalso
        have : mg KK m e < 16777216 * PP := by
          rw [PP_eq]
          unfold mg
          have h2 : 2 ^ (e + KK).toNat ≤ 2 ^ KK := Nat.pow_le_pow_right (by omega) (by omega)
          calc m * 2 ^ (e + KK).toNat ≤ m * 2 ^ KK := Nat.mul_le_mul_left _ h2
            _ < 16777216 * 2 ^ KK := Nat.mul_lt_mul_of_pos_right hm (Nat.two_pow_pos _)
        omega
    have hW := isWhole_eq h1 h3 h4
    have hlo := ord_lo h he1
    have hhi := ord_hi h he1
    have hse : seD (.number s m e) = if 16777216 * PP ≤ mg KK m e then 2 else if mg KK m e / PP * PP ≠ mg KK m e then 27 else if mg KK m e / PP ≤ 32767 then 0 else 2 := rfl
    rw [h2] at hW
    have hnn : (Datum.number s m e).isNaN = false := rfl
    rw [h, hse, hnn, hW, bind_some', hlo, hhi, cmp_lt, cmp_gt]
    clear h h1 h2 h3 h4 hW hlo hhi hse hnn
    rw [if_neg Bool.false_ne_true]
    obtain ⟨A, hA⟩ : ∃ A, A = mg KK m e := ⟨_, rfl⟩
    rw [← hA] at hw ⊢
    clear hA
    have hP := PP_pos
    have hdm := Nat.div_add_mod A PP
    rw [Nat.mul_comm] at hdm
    have hml := Nat.mod_lt A hP
    have hq1 : A / PP ≤ 32767 ↔ A < 32768 * PP := by
      rw [← Nat.div_lt_iff_lt_mul hP]
      omega
    have hq2 : A / PP * PP = A → (A / PP ≤ 32767 ↔ A ≤ 32767 * PP) := by
      intro hh
      constructor
      · intro h; rw [← hh]; exact Nat.mul_le_mul_right _ h
      · intro h; rw [← hh] at h; exact Nat.le_of_mul_le_mul_right h hP
    generalize A / PP = Q at *
    generalize A % PP = R at *
    generalize hQP : Q * PP = QP at *
    by_cases hbig : 16777216 * PP ≤ A
    · have hww := hw hbig
      rw [if_pos hbig, decide_eq_true (show _ ∨ _ from .inr hww)]
      simp only [Bool.not_true, Bool.false_eq_true, if_false, decide_eq_true_eq]
      rw [if_pos (show (2 : Int) ≠ 0 by omega)]
      cases s
      · rw [if_neg (by rw [sg_f]; omega), if_pos (by rw [sg_f]; omega)]
      · rw [if_pos (by rw [sg_t]; omega)]
    · rw [if_neg hbig]
      by_cases hwh : QP = A
      · rw [decide_eq_true (show _ ∨ _ from .inr hwh), if_neg (show ¬ QP ≠ A by omega)]
        simp only [Bool.not_true, Bool.false_eq_true, if_false, decide_eq_true_eq]
        have hq := hq2 hwh
        by_cases hs : Q ≤ 32767
        · have := hq.1 hs
          rw [if_pos hs, if_neg (show ¬ (0 : Int) ≠ 0 by omega)]
          cases s
          · rw [if_neg (by rw [sg_f]; omega), if_neg (by rw [sg_f]; omega)]
          · rw [if_neg (by rw [sg_t]; omega), if_neg (by rw [sg_t]; omega)]
        · have : ¬ A ≤ 32767 * PP := fun h => hs (hq.2 h)
          rw [if_neg hs, if_pos (show (2 : Int) ≠ 0 by omega)]
          cases s
          · rw [if_neg (by rw [sg_f]; omega), if_pos (by rw [sg_f]; omega)]
          · rw [if_pos (by rw [sg_t]; omega)]
      · rw [decide_eq_false (show ¬ (_ ∨ _) by omega), if_pos (show QP ≠ A from hwh), if_pos (show (27 : Int) ≠ 0 by omega)]
        rfl
  · have h1 : to64 b = double.word s 9218868437227405312 := by
      unfold to64 FloatKind.encode FloatKind.decode
      simp only [show FloatKind.format .f32 = single from rfl, show FloatKind.format .f64 = double from rfl, h]
      rfl
    have h2 : double.read (to64 b) = .infinity s := by rw [h1]; cases s <;> decide
    have h3 : B_IsWhole (to64 b) = some false := by
      have ho : double.order (to64 b) (to64 b) = some .eq := by unfold Format.order; rw [h2]; cases s <;> rfl
      unfold B_IsWhole
      simp only [show FloatKind.format .f64 = double from rfl]
      rw [ho, sub_inf double h2]
      rfl
    rw [h3, h]
    rfl
  · rw [h]
    rfl

theorem samplesErrR_eq {l : List Nat} (hl : l.length < 1000000000000) : R06_SamplesErr l = some (sesE l) := by
  unfold R06_SamplesErr sesE
  have hb : ∀ i, i < l.length → R06_SamplesErr_b0 l (i : Int) = if se (l.getD i 0) ≠ 0 then some (.inr (.inl (se (l.getD i 0)))) else some (.inl ((i : Int) + 1)) := by
    intro i hi
    unfold R06_SamplesErr_b0
    rw [if_pos (by omega), if_pos (by omega), if_pos (by omega), Int.toNat_natCast]
    refine Eq.trans ?_ (sampleR (α := Int ⊕ (Int ⊕ Unit)) (l.getD i 0) (fun e => some (.inr (.inl e))) (some (.inl ((i : Int) + 1))))
    simp only [show (0 : Int) ≤ (i : Int) ∧ (i : Int) < (l.length : Int) by omega, and_self, if_true, hi, wr64 (show -9223372036854775808 ≤ (i : Int) + 1 ∧ (i : Int) + 1 ≤ 9223372036854775807 by omega)]
  have h := iter_first l 0 (fun b => se b != 0) (body := R06_SamplesErr_b0 l) (fun i => .inl (se (l.getD i 0))) (.inr ()) (by omega)
    (fun i hi hp => by rw [hb i hi, if_pos (by simpa using hp)])
    (fun i hi hp => by rw [hb i hi, if_neg (by simpa using hp)])
    (by unfold R06_SamplesErr_b0; rw [if_neg (by omega)])
  rw [h]
  cases l.findIdx? (fun b => se b != 0) <;> rfl

end Go.Sh

namespace Go.Sh
open Go Go.Proofs Go.RowKit Go.Sx Go.Sx06

def endU : List (List Int) → List Int → List (List Int)
  | us, [] => us
  | us, x :: l => endU (putUs us x) l
def outsU : List (List Int) → List Int → List Int
  | _, [] => []
  | us, x :: l => outUs us x :: outsU (putUs us x) l
def cutsU : List (List Int) → Int
  | [] => 0
  | u :: us => u.getD 9 0 + cutsU us

theorem cutsU_append : ∀ a b : List (List Int), cutsU (a ++ b) = cutsU a + cutsU b
  | [], b => by simp [cutsU]
  | u :: a, b => by simp only [List.cons_append, cutsU, cutsU_append a b]; omega
theorem endU_append : ∀ (us : List (List Int)) (a b : List Int), endU us (a ++ b) = endU (endU us a) b
  | _, [], _ => rfl
  | us, x :: a, b => endU_append (putUs us x) a b
theorem outsU_append : ∀ (us : List (List Int)) (a b : List Int), outsU us (a ++ b) = outsU us a ++ outsU (endU us a) b
  | _, [], _ => rfl
  | us, x :: a, b => by simp only [List.cons_append, outsU, endU, outsU_append (putUs us x) a b]
theorem outsU_length : ∀ (us : List (List Int)) (l : List Int), (outsU us l).length = l.length
  | _, [] => rfl
  | us, x :: l => by simp [outsU, outsU_length (putUs us x) l]
theorem endU_length : ∀ (us : List (List Int)) (l : List Int), (endU us l).length = us.length
  | _, [] => rfl
  | us, x :: l => by simp [endU, endU_length (putUs us x) l, putUs_length]
theorem endU_take {us : List (List Int)} {l : List Int} {i : Nat} (hi : i < l.length) : endU us (l.take (i + 1)) = putUs (endU us (l.take i)) (l.getD i 0) ∧
    outsU us (l.take (i + 1)) = outsU us (l.take i) ++ [outUs (endU us (l.take i)) (l.getD i 0)] := by
  rw [take_one hi 0, endU_append, outsU_append]
  exact ⟨rfl, rfl⟩

def inR (x : Int) : Prop := -32767 ≤ x ∧ x ≤ 32767

theorem outsU_range : ∀ {us : List (List Int)} {l : List Int}, (∀ x ∈ l, inR x) → ∀ y ∈ outsU us l, inR y
  | _, [], _, y, hy => by cases hy
  | us, x :: l, h, y, hy => by
    rcases List.mem_cons.1 hy with rfl | hy
    · exact outUs_range us (h x List.mem_cons_self).1 (h x List.mem_cons_self).2
    · exact outsU_range (fun x hx => h x (List.mem_cons_of_mem _ hx)) y hy

theorem endU_ok : ∀ {us : List (List Int)} {l : List Int} {k : Int}, (∀ u ∈ us, okUk k u) → (∀ x ∈ l, inR x) → ∀ u ∈ endU us l, okUk (k + l.length) u
  | us, [], k, h, _, u, hu => by simpa using h u hu
  | us, x :: l, k, h, hx, u, hu => by
    have hr := hx x List.mem_cons_self
    have h1 : ∀ v ∈ putUs us x, okUk (k + 1) v := fun v hv => by
      obtain ⟨w, hw, y, hy1, hy2, rfl⟩ := putUs_mem hr.1 hr.2 hv
      exact okUk_put (h w hw) hy1 hy2
    have := endU_ok h1 (fun x hx' => hx x (List.mem_cons_of_mem _ hx')) u hu
    rw [show k + ((x :: l).length : Int) = k + 1 + (l.length : Int) by simp; omega]
    exact this

/-- Units as they stand at a cascade. -/
def SecOf (c us : List (List Int)) : Prop := c.length = us.length ∧ ∀ k j, k < us.length → j < 5 → (c.getD k []).getD j 0 = (us.getD k []).getD j 0
/-- Units as they stand at states. -/
def StOf (s us : List (List Int)) : Prop := s.length = us.length ∧ ∀ k j, k < us.length → j < 4 → (s.getD k []).getD j 0 = (us.getD k []).getD (5 + j) 0

theorem getD_map_range {α : Type} (f : Nat → α) (n k : Nat) (d : α) (h : k < n) : ((List.range n).map f).getD k d = f k := by
  simp [List.getD, h]
theorem mkUs_get {c s : List (List Int)} {n k : Nat} (h : k < n) : (mkUs c s n).getD k [] = mkU (c.getD k []) (s.getD k []) := getD_map_range _ n k [] h

theorem mkUs_sec (c s : List (List Int)) : SecOf c (mkUs c s c.length) := by
  refine ⟨(mkUs_length _ _ _).symm, fun k j hk hj => ?_⟩
  rw [mkUs_length] at hk
  rw [mkUs_get hk]
  match j, hj with
  | 0, _ => rfl
  | 1, _ => rfl
  | 2, _ => rfl
  | 3, _ => rfl
  | 4, _ => rfl
theorem mkUs_st {c s : List (List Int)} (h : s.length = c.length) : StOf s (mkUs c s c.length) := by
  refine ⟨by rw [mkUs_length, h], fun k j hk hj => ?_⟩
  rw [mkUs_length] at hk
  rw [mkUs_get hk]
  match j, hj with
  | 0, _ => rfl
  | 1, _ => rfl
  | 2, _ => rfl
  | 3, _ => rfl
theorem mkUs_cuts (c s : List (List Int)) : ∀ n, cutsU (mkUs c s n) = 0
  | 0 => rfl
  | n + 1 => by rw [mkUs_succ, cutsU_append, mkUs_cuts c s n]; rfl

theorem putUs_sec : ∀ {us : List (List Int)} {x : Int} {k j : Nat}, k < us.length → j < 5 → ((putUs us x).getD k []).getD j 0 = (us.getD k []).getD j 0
  | u :: us, x, 0, j, _, hj => by
    simp only [putUs, List.getD_cons_zero]
    match j, hj with
    | 0, _ => rfl
    | 1, _ => rfl
    | 2, _ => rfl
    | 3, _ => rfl
    | 4, _ => rfl
  | u :: us, x, k + 1, j, h, hj => by
    simp only [putUs, List.getD_cons_succ]
    exact putUs_sec (by simpa using h) hj
theorem secOf_put {c us : List (List Int)} (h : SecOf c us) (x : Int) : SecOf c (putUs us x) :=
  ⟨by rw [putUs_length]; exact h.1, fun k j hk hj => by rw [putUs_length] at hk; rw [putUs_sec hk hj]; exact h.2 k j hk hj⟩
theorem secOf_end : ∀ {us : List (List Int)} {l : List Int} {c : List (List Int)}, SecOf c us → SecOf c (endU us l)
  | _, [], _, h => h
  | us, x :: l, _, h => secOf_end (us := putUs us x) (l := l) (secOf_put h x)

/-! ### one output, by the reference -/

end Go.Sh

namespace Go.Sh
open Go Go.Proofs Go.RowKit Go.Sx Go.Sx06

instance (x : Int) : Decidable (inR x) := by unfold inR; infer_instance
def nf (n : Int) : Nat := FloatKind.nearest .f32 n
def fi (b : Nat) : Int := f2i .f32 b
def clampS (n : Int) : Int := max (-40000) (min 40000 n)
def rawL (l : List Int) : List Nat := l.map fun n => nf (clampS n)

theorem clamp_eq (n : Int) : (if (if n < (40000 : Int) then n else (40000 : Int)) > (-40000 : Int) then if n < (40000 : Int) then n else (40000 : Int) else (-40000 : Int)) = clampS n := by
  unfold clampS
  split <;> split at * <;> omega
/-- A loop that builds a list, one element for each of another one. -/
theorem iter_map {α β : Type} (l : List α) (d : α) (f : α → β) {body : Int × List β → Option ((Int × List β) ⊕ List β)} (hlen : l.length < 1000000000000)
    (h1 : ∀ i, i < l.length → ∀ o : List β, o.length = i → body ((i : Int), o) = some (.inl ((i : Int) + 1, o ++ [f (l.getD i d)])))
    (h2 : ∀ o, body ((l.length : Int), o) = some (.inr o)) : iter body big (0, []) = some (l.map f) := by
  refine iter_upto (fun i => ((i : Int), (l.take i).map f)) (k := l.length) (fun i hi => ?_) ?_ (by omega)
  · have := h1 i hi ((l.take i).map f) (by simp; omega)
    rw [this, take_one hi d]
    simp
  · rw [List.take_length]; exact h2 _

theorem raw_eq {l : List Int} (hl : l.length ≤ 1000000) : L06_raw l = some (rawL l) := by
  unfold L06_raw rawL
  rw [iter_map l 0 (fun n => nf (clampS n)) (body := L06_raw_b0 l) (by omega) (fun i hi o ho => by
    unfold L06_raw_b0
    dsimp only
    rw [if_pos (by omega), if_pos (by omega), if_pos (by omega), Int.toNat_natCast, clamp_eq, if_pos (by simp only [List.length_cons, List.length_nil]; omega), wr64 (by omega)]
    rfl) (fun o => by unfold L06_raw_b0; dsimp only; rw [if_neg (by omega)])]
  rfl
/-- What a right sample is as a whole number. -/
theorem se_whole {b : Nat} (h : se b = 0) : f2iOk .f32 .i64 b = true ∧ inR (fi b) := by
  unfold se at h
  unfold fi f2i f2iOk
  rcases Fl.read32 b with ⟨s, m, e, hd, hm, he1, he2⟩ | ⟨s, hd⟩ | ⟨s, t, hd⟩
  · have hdec : FloatKind.decode .f32 b = .number s m e := hd
    rw [hdec] at h ⊢
    rw [toIntP (by unfold KK; omega)]
    unfold seD at h
    have h3 : mg KK m e / PP ≤ 32767 := by
      dsimp only at h
      split at h
      · omega
      · split at h
        · omega
        · split at h
          · assumption
          · omega
    clear h
    generalize mg KK m e / PP = Q at *
    have e1 : IntKind.i64.min = -9223372036854775808 := rfl
    have e2 : IntKind.i64.max = 9223372036854775807 := rfl
    simp only [e1, e2, decide_eq_true_eq, Option.getD_some, inR]
    cases s <;> simp only [sg, Bool.false_eq_true, if_false, if_true] <;> omega
  · have hdec : FloatKind.decode .f32 b = .infinity s := hd
    rw [hdec] at h
    simp [seD] at h
  · have hdec : FloatKind.decode .f32 b = .nan s t := hd
    rw [hdec] at h
    simp [seD] at h

theorem fi_nf {n : Int} (hn : -16777216 < n ∧ n < 16777216) : fi (nf n) = n := (f2i_near hn).1
theorem se_nf {n : Int} (hn : -16777216 < n ∧ n < 16777216) : se (nf n) = if inR n then 0 else 2 := by
  obtain ⟨m, e, h1, h2, h3⟩ := near32P hn
  unfold se nf
  rw [h1]
  unfold seD
  dsimp only
  rw [h2, Nat.mul_div_cancel _ PP_pos, if_neg (by
    intro h
    have := Nat.le_of_mul_le_mul_right h PP_pos
    omega), if_neg (by omega)]
  by_cases h : n.natAbs ≤ 32767
  · rw [if_pos h, if_pos (show inR n by unfold inR; omega)]
  · rw [if_neg h, if_neg (show ¬ inR n by unfold inR; omega)]
theorem sameFloats_eq {a b : List Nat} (hl : a.length ≤ 1000000) : B_SameFloats a b = some (decide (a = b)) := by
  unfold B_SameFloats
  by_cases hlen : a.length = b.length
  · rw [if_neg (by simp [hlen])]
    have h := iter_first (List.range a.length) 0 (fun i => a.getD i 0 != b.getD i 0) (body := B_SameFloats_b0 a b) (fun _ => .inl ()) (.inr ()) (by simp; omega)
      (fun i hi hp => by
        simp only [List.length_range] at hi
        have hp : (a.getD i 0 != b.getD i 0) = true := by simpa [List.getD, hi] using hp
        unfold B_SameFloats_b0
        rw [if_pos (by omega), if_pos (by omega), if_pos (by omega), if_pos (by omega), if_pos (by omega), Int.toNat_natCast, if_pos (by simp at hp ⊢; omega)])
      (fun i hi hp => by
        simp only [List.length_range] at hi
        have hp : (a.getD i 0 != b.getD i 0) = false := by simpa [List.getD, hi] using hp
        unfold B_SameFloats_b0
        rw [if_pos (by omega), if_pos (by omega), if_pos (by omega), if_pos (by omega), if_pos (by omega), Int.toNat_natCast, if_neg (by simp at hp ⊢; omega), wr64 (by omega)])
      (by unfold B_SameFloats_b0; rw [if_neg (by simp)])
    rw [h]
    cases hf : (List.range a.length).findIdx? (fun i => a.getD i 0 != b.getD i 0) with
    | none =>
      rw [List.findIdx?_eq_none_iff] at hf
      have : a = b := by
        apply List.ext_getElem hlen
        intro i h1 h2
        have := hf i (List.mem_range.2 h1)
        simpa [List.getD, h1, h2] using this
      rw [decide_eq_true this]
      rfl
    | some k =>
      rw [List.findIdx?_eq_some_iff_getElem] at hf
      obtain ⟨hk, hp, _⟩ := hf
      have : ¬ a = b := by
        rintro rfl
        simp at hp
      rw [decide_eq_false this]
      rfl
  · rw [if_pos (by simp; omega), decide_eq_false (fun h => hlen (by rw [h]))]

theorem cuts_eq {us : List (List Int)} (hl : us.length ≤ 100000) (h : ∀ u ∈ us, 0 ≤ u.getD 9 0 ∧ u.getD 9 0 ≤ 1000000000) : F_chain_cuts us = some (cutsU us) := by
  unfold F_chain_cuts
  have hb : ∀ i, i ≤ us.length → 0 ≤ cutsU (us.take i) ∧ cutsU (us.take i) ≤ i * 1000000000 := by
    intro i
    induction i with
    | zero => intro _; simp [cutsU]
    | succ i ih =>
      intro hi
      have := ih (by omega)
      have hu := h (us.getD i []) (by rw [getD_eq (by omega)]; exact List.getElem_mem _)
      rw [take_one (by omega) [], cutsU_append]
      have e : cutsU [us.getD i []] = (us.getD i []).getD 9 0 := by simp [cutsU]
      rw [e]
      push_cast
      omega
  have hit : iter (F_chain_cuts_b0 us) big (0, 0) = some (cutsU us) := iter_upto (body := F_chain_cuts_b0 us) (fun i => (cutsU (us.take i), (i : Int))) (y := cutsU us) (k := us.length) (fun i hi => by
    have h1 := hb i (by omega)
    have hu := h (us.getD i []) (by rw [getD_eq hi]; exact List.getElem_mem hi)
    unfold F_chain_cuts_b0
    dsimp only
    rw [if_pos (by omega), if_pos (by omega), if_pos (by omega), Int.toNat_natCast, wr64 (by omega), wr64 (by omega), take_one hi [], cutsU_append]
    have e : cutsU [us.getD i []] = (us.getD i []).getD 9 0 := by simp [cutsU]
    rw [e]
    rfl) (by unfold F_chain_cuts_b0; dsimp only; rw [if_neg (by omega), List.take_length]) (by omega)
  rw [hit]
  rfl

/-- The error of a list of samples. -/
def raE (c : List (List Int)) (L : List Nat) : Int := if chkE c ≠ 0 then chkE c else if L.length > 1024 then 8 else sesE L

theorem runAll_eq {c : List (List Int)} {L : List Nat} (hc : c.length ≤ 1000000) (hl : L.length ≤ 1000000) :
    F_RunAll c L = some (if raE c L = 0 then ((outsU (us0 c) (L.map fi)).map nf, cutsU (endU (us0 c) (L.map fi)), 0) else ([], 0, raE c L)) := by
  have hmin : Int.toNat (Option.getD (some (if (1024 : Int) < (L.length : Int) then (1024 : Int) else (L.length : Int))) (L.length : Int)) - 0 = min 1024 L.length := by
    simp only [Option.getD_some]
    split <;> omega
  have hses : F_samplesErr (L.take (min 1024 L.length)) = some (sesE (L.take (min 1024 L.length))) := samplesErrF_eq (by simp; omega)
  unfold F_RunAll
  rw [if_pos (by omega), if_pos (by simp only [Option.getD_none, Option.getD_some]; split <;> omega), hmin, List.drop_zero, hses, bind_some', if_pos (by simp)]
  have hfind : (Option.getD (List.find? (fun x => x != (0 : Int)) [chkE c, if decide ((L.length : Int) ≤ (1024 : Int)) = true then (0 : Int) else (8 : Int), sesE (L.take (min 1024 L.length))]) (0 : Int)) = raE c L := by
    have hd : (if decide ((L.length : Int) ≤ (1024 : Int)) = true then (0 : Int) else (8 : Int)) = if L.length > 1024 then 8 else 0 := by
      by_cases h2 : L.length > 1024
      · rw [if_pos h2, if_neg (by rw [decide_eq_true_eq]; omega)]
      · rw [if_neg h2, if_pos (by rw [decide_eq_true_eq]; omega)]
    rw [hd]
    unfold raE
    by_cases h1 : chkE c = 0
    · rw [if_neg (show ¬ chkE c ≠ 0 by omega), h1]
      by_cases h2 : L.length > 1024
      · rw [if_pos h2, if_pos h2]
        rfl
      · rw [if_neg h2, if_neg h2, Nat.min_eq_right (by omega), List.take_length]
        by_cases hs : sesE L = 0
        · rw [hs]; rfl
        · have : (sesE L != 0) = true := by simpa using hs
          simp [List.find?_cons, this]
    · rw [if_pos h1]
      have : (chkE c != 0) = true := by simpa using h1
      simp [List.find?_cons, this]
  rw [hfind]
  by_cases hE : raE c L = 0
  · rw [if_neg (by simp [hE]), if_pos hE]
    have hc0 : chkE c = 0 := by
      unfold raE at hE
      by_cases h : chkE c = 0
      · exact h
      · rw [if_pos h] at hE; exact hE
    have hl0 : L.length ≤ 1024 := by
      unfold raE at hE
      rw [if_neg (by omega)] at hE
      split at hE
      · omega
      · omega
    have hs0 : ∀ b ∈ L, se b = 0 := by
      unfold raE at hE
      rw [if_neg (by omega), if_neg (by omega)] at hE
      exact sesE_zero hE
    rw [if_pos (by omega), if_pos (by simp; omega)]
    have hu0 : mkUs c (List.replicate (Int.toNat (c.length : Int)) [(0 : Int), (0 : Int), (0 : Int), (0 : Int)]) (c.length) = us0 c := by simp [us0]
    rw [hu0]
    have hok := us0_ok hc0
    have hx : ∀ x ∈ L.map fi, inR x := by
      intro x hx
      obtain ⟨b, hb, rfl⟩ := List.mem_map.1 hx
      exact (se_whole (hs0 b hb)).2
    have hul : (us0 c).length = c.length := by simp [us0, mkUs]
    have hstep : ∀ i, i < L.length → F_RunAll_b0 L ((i : Int), endU (us0 c) ((L.map fi).take i), (outsU (us0 c) ((L.map fi).take i)).map nf) =
        some (.inl (((i + 1 : Nat) : Int), endU (us0 c) ((L.map fi).take (i + 1)), (outsU (us0 c) ((L.map fi).take (i + 1))).map nf)) := by
      intro i hi
      have hb : se (L.getD i 0) = 0 := by rw [getD_eq hi]; exact hs0 _ (List.getElem_mem hi)
      have hw := se_whole hb
      obtain ⟨t1, t2⟩ := endU_take (us := us0 c) (l := L.map fi) (i := i) (by simpa using hi)
      have hg : (L.map fi).getD i 0 = f2i .f32 (L.getD i 0) := by
        rw [getD_eq (by simpa using hi), getD_eq hi]
        simp [fi]
      rw [hg] at t1 t2
      have hol : ((outsU (us0 c) ((L.map fi).take i)).map nf).length ≤ 1024 := by simp [outsU_length]; omega
      have hR : inR (f2i .f32 (L.getD i 0)) := hw.2
      unfold F_RunAll_b0
      dsimp only
      rw [if_pos (by omega), if_pos (by omega), if_pos (by omega), Int.toNat_natCast, if_pos hw.1, if_pos ⟨by rw [endU_length, hul]; omega, fun u hu => okUk_okU (endU_ok hok (fun x hx' => hx x (List.mem_of_mem_take hx')) u hu) (by simp; omega), hR.1, hR.2⟩,
        if_pos (by simp only [List.length_cons, List.length_nil]; omega), wr64 (by omega), t1, t2]
      rw [List.map_append]
      rfl
    have hit : iter (F_RunAll_b0 L) big (0, us0 c, []) = some (endU (us0 c) (L.map fi), (outsU (us0 c) (L.map fi)).map nf) := iter_upto (body := F_RunAll_b0 L) (fun i => ((i : Int), endU (us0 c) ((L.map fi).take i), (outsU (us0 c) ((L.map fi).take i)).map nf)) (y := (endU (us0 c) (L.map fi), (outsU (us0 c) (L.map fi)).map nf)) (k := L.length) hstep (by
      unfold F_RunAll_b0
      dsimp only
      rw [if_neg (by omega)]
      rw [show (L.map fi).take L.length = L.map fi by rw [List.take_of_length_le (by simp)]]) (by omega)
    rw [hit, bind_some']
    unfold F_RunAll_r0
    have hend := endU_ok hok hx
    rw [cuts_eq (by rw [endU_length, hul]; have := (chkE_ok hc0).1; omega) (fun u hu => by have := okUk_okU (hend u hu) (by simp; omega); exact ⟨this.2.2.2.1, this.2.2.2.2⟩), bind_some']
  · rw [if_pos (by simpa using hE), if_neg hE]

end Go.Sh

namespace Go.Sh
open Go Go.Proofs Go.RowKit Go.Sx Go.Sx06

/-! ### lists of units, up to their counters -/

def EqU (us vs : List (List Int)) : Prop := us.length = vs.length ∧ ∀ k j, k < us.length → j < 9 → (us.getD k []).getD j 0 = (vs.getD k []).getD j 0

theorem eqU_cons {u v : List Int} {us vs : List (List Int)} : EqU (u :: us) (v :: vs) ↔ (∀ j, j < 9 → u.getD j 0 = v.getD j 0) ∧ EqU us vs := by
  unfold EqU
  constructor
  · rintro ⟨h1, h2⟩
    refine ⟨fun j hj => by simpa using h2 0 j (by simp) hj, by simpa using h1, fun k j hk hj => by simpa using h2 (k + 1) j (by simpa using hk) hj⟩
  · rintro ⟨h1, h2, h3⟩
    refine ⟨by simp [h2], fun k j hk hj => ?_⟩
    cases k with
    | zero => simpa using h1 j hj
    | succ k => simpa using h3 k j (by simpa using hk) hj

theorem rawU_eq {u v : List Int} (h : ∀ j, j < 9 → u.getD j 0 = v.getD j 0) (x : Int) : rawU u x = rawU v x := by
  unfold rawU
  rw [h 0 (by omega), h 1 (by omega), h 2 (by omega), h 3 (by omega), h 4 (by omega), h 5 (by omega), h 6 (by omega), h 7 (by omega), h 8 (by omega)]
theorem outU_eq {u v : List Int} (h : ∀ j, j < 9 → u.getD j 0 = v.getD j 0) (x : Int) : outU u x = outU v x := by
  unfold outU; rw [rawU_eq h]

theorem eqU_put : ∀ {us vs : List (List Int)} (x : Int), EqU us vs → EqU (putUs us x) (putUs vs x) ∧ outUs us x = outUs vs x ∧ cutsU (putUs us x) - cutsU us = cutsU (putUs vs x) - cutsU vs
  | [], [], x, _ => ⟨⟨rfl, fun k j hk => by cases hk⟩, rfl, rfl⟩
  | u :: us, v :: vs, x, h => by
    obtain ⟨h1, h2⟩ := eqU_cons.1 h
    have ho := outU_eq h1 x
    have hr := rawU_eq h1 x
    obtain ⟨i1, i2, i3⟩ := eqU_put (outU v x) h2
    simp only [putUs, outUs, ho]
    refine ⟨eqU_cons.2 ⟨fun j hj => ?_, i1⟩, i2, ?_⟩
    · unfold putU
      rw [h1 0 (by omega), h1 1 (by omega), h1 2 (by omega), h1 3 (by omega), h1 4 (by omega), h1 5 (by omega), h1 7 (by omega), ho]
      match j, hj with
      | 0, _ => rfl
      | 1, _ => rfl
      | 2, _ => rfl
      | 3, _ => rfl
      | 4, _ => rfl
      | 5, _ => rfl
      | 6, _ => rfl
      | 7, _ => rfl
      | 8, _ => rfl
    · have e1 : (putU u x).getD 9 0 = u.getD 9 0 + if outU u x = rawU u x then 0 else 1 := rfl
      have e2 : (putU v x).getD 9 0 = v.getD 9 0 + if outU v x = rawU v x then 0 else 1 := rfl
      simp only [cutsU, e1, e2, ho, hr]
      omega
  | [], _ :: _, _, h => by have := h.1; simp at this
  | _ :: _, [], _, h => by have := h.1; simp at this

theorem eqU_end : ∀ {us vs : List (List Int)} (l : List Int), EqU us vs → EqU (endU us l) (endU vs l) ∧ outsU us l = outsU vs l ∧ cutsU (endU us l) - cutsU us = cutsU (endU vs l) - cutsU vs
  | _, _, [], h => ⟨h, rfl, by simp [endU]⟩
  | us, vs, x :: l, h => by
    obtain ⟨h1, h2, h3⟩ := eqU_put x h
    obtain ⟨i1, i2, i3⟩ := eqU_end l h1
    refine ⟨i1, by simp only [outsU, h2, i2], ?_⟩
    simp only [endU]
    omega

/-- The states of units. -/
def stU (u : List Int) : List Int := [u.getD 5 0, u.getD 6 0, u.getD 7 0, u.getD 8 0]

theorem getD_map {α β : Type} (f : α → β) (l : List α) (k : Nat) (d : α) (e : β) (h : k < l.length) : (l.map f).getD k e = f (l.getD k d) := by
  simp [List.getD, h]

/-- Units made of a cascade and states are those that stand so. -/
theorem mk_eqU {c us s : List (List Int)} (hc : SecOf c us) (hs : StOf s us) : EqU (mkUs c s c.length) us := by
  refine ⟨by rw [mkUs_length]; exact hc.1, fun k j hk hj => ?_⟩
  rw [mkUs_length] at hk
  have hk' : k < us.length := by rw [← hc.1]; exact hk
  rw [mkUs_get hk]
  have := hc.2 k
  match j, hj with
  | 0, _ => exact hc.2 k 0 hk' (by omega)
  | 1, _ => exact hc.2 k 1 hk' (by omega)
  | 2, _ => exact hc.2 k 2 hk' (by omega)
  | 3, _ => exact hc.2 k 3 hk' (by omega)
  | 4, _ => exact hc.2 k 4 hk' (by omega)
  | 5, _ => exact hs.2 k 0 hk' (by omega)
  | 6, _ => exact hs.2 k 1 hk' (by omega)
  | 7, _ => exact hs.2 k 2 hk' (by omega)
  | 8, _ => exact hs.2 k 3 hk' (by omega)
theorem stU_st (us : List (List Int)) : StOf (us.map stU) us := by
  refine ⟨by simp, fun k j hk hj => ?_⟩
  rw [getD_map stU us k [] [] hk]
  match j, hj with
  | 0, _ => rfl
  | 1, _ => rfl
  | 2, _ => rfl
  | 3, _ => rfl

theorem st0 (c : List (List Int)) : StOf (List.replicate c.length [(0 : Int), 0, 0, 0]) (us0 c) := mkUs_st (by simp)

/-! ### states -/

theorem states_eq {us : List (List Int)} (hl : us.length ≤ 100000) : F_chain_states us = some (us.map stU) := by
  unfold F_chain_states
  rw [iter_map us [] stU (body := F_chain_states_b0 us) (by omega) (fun i hi o ho => by
    unfold F_chain_states_b0
    dsimp only
    rw [if_pos (by omega), if_pos (by omega), if_pos (by omega), Int.toNat_natCast, if_pos (by simp only [List.length_cons, List.length_nil]; omega), wr64 (by omega)]
    rfl) (fun o => by unfold F_chain_states_b0; dsimp only; rw [if_neg (by omega)])]
  rfl

def badS (r : List Int) : Bool := !(decide (inR (r.getD 0 0)) && decide (inR (r.getD 1 0)) && decide (inR (r.getD 2 0)) && decide (inR (r.getD 3 0)))
/-- The error of states, with a number. -/
def csS (c s : List (List Int)) : Int × Int := if s.length ≠ c.length then (0, 10) else match s.findIdx? badS with
  | some i => ((i : Int), 2)
  | none => (0, 0)

theorem decide_inR (x : Int) : (decide ((-32767 : Int) ≤ x) && decide (x ≤ (32767 : Int))) = decide (inR x) := by
  rw [Bool.eq_iff_iff, Bool.and_eq_true, decide_eq_true_eq, decide_eq_true_eq, decide_eq_true_eq]
  rfl

theorem checkStateF_eq {c s : List (List Int)} (hc : c.length ≤ 1000000000) (hl : s.length ≤ 100000) : F_CheckState c s = some (if chkE c ≠ 0 then (0, chkE c) else csS c s) := by
  unfold F_CheckState csS
  rw [if_pos hc, if_pos (by simp)]
  have hb : ∀ i, i < s.length → F_CheckState_b0 s (i : Int) = if badS (s.getD i []) = true then some (.inr (.inl (i : Int))) else some (.inl ((i : Int) + 1)) := by
    intro i hi
    unfold F_CheckState_b0 badS
    simp only [show (i : Int) < (s.length : Int) by omega, show (0 : Int) ≤ (i : Int) by omega, hi, if_true, Int.toNat_natCast, decide_inR, and_self, wr64 (show -9223372036854775808 ≤ (i : Int) + 1 ∧ (i : Int) + 1 ≤ 9223372036854775807 by omega)]
    cases decide (inR ((s.getD i []).getD 0 0)) <;> cases decide (inR ((s.getD i []).getD 1 0)) <;> cases decide (inR ((s.getD i []).getD 2 0)) <;> cases decide (inR ((s.getD i []).getD 3 0)) <;> rfl
  have hit := iter_first s [] badS (body := F_CheckState_b0 s) (fun i => .inl (i : Int)) (.inr ()) (by omega) (fun i hi hp => by rw [hb i hi, if_pos hp]) (fun i hi hp => by rw [hb i hi, if_neg (by rw [hp]; simp)])
    (by unfold F_CheckState_b0; rw [if_neg (by omega)])
  have hx : (if ((s.length : Int) == (c.length : Int)) = true then (0 : Int) else (10 : Int)) = if s.length ≠ c.length then 10 else 0 := by
    by_cases h : s.length = c.length
    · rw [if_pos (by rw [h]; exact beq_self_eq_true _), if_neg (by omega)]
    · rw [if_neg (by rw [beq_iff_eq]; omega), if_pos h]
  rw [find2, hx, hit]
  by_cases h1 : chkE c = 0
  · rw [if_neg (show ¬ chkE c ≠ 0 by omega), if_neg (show ¬ chkE c ≠ 0 by omega)]
    by_cases h : s.length = c.length
    · rw [if_neg (show ¬ s.length ≠ c.length by omega), if_neg (show ¬ s.length ≠ c.length by omega), if_neg (by decide)]
      cases s.findIdx? badS <;> rfl
    · rw [if_pos h, if_pos h, if_pos (by decide)]
  · rw [if_pos h1, if_pos h1, if_pos (by simpa using h1)]

theorem csS_ok {c s : List (List Int)} (h : (csS c s).2 = 0) : s.length = c.length ∧ ∀ k j, k < s.length → j < 4 → inR ((s.getD k []).getD j 0) := by
  unfold csS at h
  split at h
  · cases h
  · rename_i hl
    refine ⟨by omega, fun k j hk hj => ?_⟩
    split at h
    · cases h
    · rename_i hf
      rw [List.findIdx?_eq_none_iff] at hf
      have := hf (s.getD k []) (by rw [getD_eq hk]; exact List.getElem_mem hk)
      unfold badS at this
      simp only [Bool.not_eq_false', Bool.and_eq_true, decide_eq_true_eq] at this
      match j, hj with
      | 0, _ => exact this.1.1.1
      | 1, _ => exact this.1.1.2
      | 2, _ => exact this.1.2
      | 3, _ => exact this.2

theorem mkUs_ok {c s : List (List Int)} (h : chkE c = 0) (hs : (csS c s).2 = 0) : ∀ u ∈ mkUs c s c.length, okUk 0 u := by
  obtain ⟨hl, hst⟩ := csS_ok hs
  intro u hu
  simp only [mkUs, List.mem_map, List.mem_range] at hu
  obtain ⟨i, hi, rfl⟩ := hu
  have h0 := us0_ok h (mkU (c.getD i []) [0, 0, 0, 0]) (by
    simp only [us0, mkUs, List.mem_map, List.mem_range]
    exact ⟨i, hi, by rw [getD_eq (l := List.replicate c.length [(0 : Int), 0, 0, 0]) (by simpa using hi)]; simp⟩)
  refine ⟨rfl, fun j hj => ?_, fun j hj hj2 => ?_, Int.le_refl (0 : Int), Int.le_refl (0 : Int)⟩
  · have := h0.2.1 j hj
    match j, hj with
    | 0, _ => exact this
    | 1, _ => exact this
    | 2, _ => exact this
    | 3, _ => exact this
    | 4, _ => exact this
  · match j, hj, hj2 with
    | 5, _, _ => exact hst i 0 (by omega) (by omega)
    | 6, _, _ => exact hst i 1 (by omega) (by omega)
    | 7, _, _ => exact hst i 2 (by omega) (by omega)
    | 8, _, _ => exact hst i 3 (by omega) (by omega)

end Go.Sh

namespace Go.Sh
open Go Go.Proofs Go.RowKit Go.Sx Go.Sx06

def Z32 : List Nat := [(0 : Nat), (0 : Nat), (0 : Nat), (0 : Nat), (0 : Nat), (0 : Nat), (0 : Nat), (0 : Nat), (0 : Nat), (0 : Nat), (0 : Nat), (0 : Nat), (0 : Nat), (0 : Nat), (0 : Nat), (0 : Nat), (0 : Nat), (0 : Nat), (0 : Nat), (0 : Nat), (0 : Nat), (0 : Nat), (0 : Nat), (0 : Nat), (0 : Nat), (0 : Nat), (0 : Nat), (0 : Nat), (0 : Nat), (0 : Nat), (0 : Nat), (0 : Nat)]
theorem setF_len {e : Nat} {r : List Nat} {j v : Nat} (h : r.length = e) : setF e r j v = r.set j v := by
  subst h
  unfold setF
  congr 1
  apply List.ext_getElem
  · simp [padF]
  · intro i h1 h2
    simp [padF, h2]

theorem setF_pad {A : List Nat} {v : Nat} (h : A.length < 32) : setF 32 (A ++ List.replicate (32 - A.length) 0) A.length v = A ++ [v] ++ List.replicate (32 - (A.length + 1)) 0 := by
  have h1 : setF 32 (A ++ List.replicate (32 - A.length) 0) A.length v = (A ++ List.replicate (32 - A.length) 0).set A.length v := setF_len (by simp; omega)
  have h2 : 32 - A.length = (32 - (A.length + 1)) + 1 := by omega
  rw [h1, h2, List.replicate_succ, List.set_append_right _ _ (Nat.le_refl _), Nat.sub_self, List.set_cons_zero, List.append_assoc]
  rfl

/-- The error of a block. -/
def runE' (c s : List (List Int)) (b : List Nat) : Int := if chkE c ≠ 0 then chkE c else if sesE b ≠ 0 then sesE b else (csS c s).2

theorem run_eq {c s : List (List Int)} {b : List Nat} (hc : c.length ≤ 1000000) (hs : s.length ≤ 100000) (hb : b.length = 32) :
    F_Run c b s = some (if runE' c s b = 0 then ((outsU (mkUs c s c.length) (b.map fi)).map nf, (endU (mkUs c s c.length) (b.map fi)).map stU, cutsU (endU (mkUs c s c.length) (b.map fi)), 0) else (Z32, [], 0, runE' c s b)) := by
  unfold F_Run
  rw [if_pos (by omega), if_pos ⟨hb, by decide⟩, List.drop_zero, List.take_of_length_le (by omega), samplesErrF_eq (by omega), bind_some', if_pos (by simp), find2]
  by_cases h1 : chkE c = 0
  · rw [if_neg (show ¬ chkE c ≠ 0 by omega)]
    by_cases h2 : sesE b = 0
    · rw [if_pos (by rw [h2]; rfl), checkStateF_eq (by omega) hs, bind_some', if_neg (show ¬ chkE c ≠ 0 by omega)]
      have hE : runE' c s b = (csS c s).2 := by unfold runE'; rw [if_neg (by omega), if_neg (by omega)]
      rw [hE]
      by_cases h3 : (csS c s).2 = 0
      · rw [if_neg (by rw [h3]; decide), if_pos h3]
        obtain ⟨hl, _⟩ := csS_ok h3
        rw [if_pos (by omega)]
        have hok := mkUs_ok h1 h3
        have hall := sesE_zero h2
        have hx : ∀ x ∈ b.map fi, inR x := by
          intro x hx
          obtain ⟨y, hy, rfl⟩ := List.mem_map.1 hx
          exact (se_whole (hall y hy)).2
        have hul : (mkUs c s c.length).length = c.length := mkUs_length _ _ _
        generalize mkUs c s c.length = us at *
        have hit : iter (F_Run_b0 b) big (0, us, [] ++ List.replicate (32 - 0) 0) = some (endU us (b.map fi), (outsU us (b.map fi)).map nf) :=
          iter_upto (body := F_Run_b0 b) (fun i => ((i : Int), endU us ((b.map fi).take i), (outsU us ((b.map fi).take i)).map nf ++ List.replicate (32 - i) 0)) (k := 32) (fun i hi => by
            have hi' : i < b.length := by omega
            have hw := se_whole (hall (b.getD i 0) (by rw [getD_eq hi']; exact List.getElem_mem hi'))
            have hR : inR (f2i .f32 (b.getD i 0)) := hw.2
            obtain ⟨t1, t2⟩ := endU_take (us := us) (l := b.map fi) (i := i) (by simpa using hi')
            have hg : (b.map fi).getD i 0 = f2i .f32 (b.getD i 0) := by rw [getD_eq (by simpa using hi'), getD_eq hi']; simp [fi]
            rw [hg] at t1 t2
            have hlen : ((outsU us ((b.map fi).take i)).map nf).length = i := by simp [outsU_length]; omega
            have hsf := setF_pad (A := (outsU us ((b.map fi).take i)).map nf) (v := nf (outUs (endU us ((b.map fi).take i)) (f2i .f32 (b.getD i 0)))) (by omega)
            rw [hlen] at hsf
            unfold F_Run_b0
            dsimp only
            rw [if_pos (by omega), if_pos (by omega), Int.toNat_natCast, if_pos hw.1, if_pos ⟨by rw [endU_length, hul]; omega, fun u hu => okUk_okU (endU_ok hok (fun x hx' => hx x (List.mem_of_mem_take hx')) u hu) (by simp; omega), hR.1, hR.2⟩,
              if_pos (by omega), if_pos (by omega), wr64 (by omega), t1, t2]
            have e0 : (0 : Nat) + ((0 : Nat) + i * (1 : Nat)) = i := by omega
            rw [e0, show ∀ n, FloatKind.nearest .f32 n = nf n from fun _ => rfl, hsf, List.map_append]
            rfl) (by
            unfold F_Run_b0
            dsimp only
            rw [if_neg (by omega), List.take_of_length_le (by simp; omega)]
            simp) (by omega)
        change (iter (F_Run_b0 b) big (0, us, [] ++ List.replicate (32 - 0) 0)).bind _ = _
        rw [hit, bind_some']
        unfold F_Run_r0
        have hend := endU_ok hok hx
        have hc6 := (chkE_ok h1).1
        rw [states_eq (by rw [endU_length, hul]; omega), bind_some', cuts_eq (by rw [endU_length, hul]; omega) (fun u hu => by have := okUk_okU (hend u hu) (by simp; omega); exact ⟨this.2.2.2.1, this.2.2.2.2⟩), bind_some']
      · rw [if_pos (by simpa using h3), if_neg h3]
        rfl
    · rw [if_neg (show ¬ (sesE b == 0) = true by simpa using h2), if_pos (show (sesE b != 0) = true by simpa using h2)]
      have hE : runE' c s b = sesE b := by unfold runE'; rw [if_neg (by omega), if_pos h2]
      rw [hE, if_neg h2]
      rfl
  · rw [if_pos h1, if_neg (by simpa using h1), if_pos (by simpa using h1)]
    have hE : runE' c s b = chkE c := by unfold runE'; rw [if_pos h1]
    rw [hE, if_neg h1]
    rfl

theorem newStateF_eq {c : List (List Int)} (hc : c.length ≤ 1000000) : F_NewState c = some (if chkE c ≠ 0 then ([], chkE c) else (List.replicate c.length [0, 0, 0, 0], 0)) := by
  unfold F_NewState
  rw [if_pos (by omega)]
  by_cases h1 : chkE c = 0
  · rw [if_neg (by rw [h1]; decide), if_neg (show ¬ chkE c ≠ 0 by omega), if_pos (by omega), Int.toNat_natCast]
  · rw [if_pos (by simpa using h1), if_pos h1]

end Go.Sh

namespace Go.Sh
open Go Go.Proofs Go.RowKit Go.Sx Go.Sx06

/-! ### two cascades, one behind the other -/

theorem putUs_append : ∀ (a b : List (List Int)) (x : Int), putUs (a ++ b) x = putUs a x ++ putUs b (outUs a x) ∧ outUs (a ++ b) x = outUs b (outUs a x)
  | [], _, _ => ⟨rfl, rfl⟩
  | u :: a, b, x => by
    obtain ⟨h1, h2⟩ := putUs_append a b (outU u x)
    simp only [List.cons_append, putUs, outUs, h1, h2, and_self]

theorem endU_two : ∀ (a b : List (List Int)) (l : List Int), endU (a ++ b) l = endU a l ++ endU b (outsU a l) ∧ outsU (a ++ b) l = outsU b (outsU a l)
  | _, _, [] => ⟨rfl, rfl⟩
  | a, b, x :: l => by
    obtain ⟨h1, h2⟩ := putUs_append a b x
    obtain ⟨i1, i2⟩ := endU_two (putUs a x) (putUs b (outUs a x)) l
    simp only [endU, outsU, h1, h2, i1, i2, and_self]

theorem us0_append (a b : List (List Int)) : us0 (a ++ b) = us0 a ++ us0 b := by
  have h : ∀ c : List (List Int), us0 c = c.map fun r => mkU r [0, 0, 0, 0] := fun c => by
    unfold us0 mkUs
    apply List.ext_getElem
    · simp
    · intro i h1 h2
      simp at h1 h2
      simp [List.getD, h1]
  rw [h, h, h, List.map_append]

theorem chk_append {a b : List (List Int)} (h : chkE (a ++ b) = 0) : chkE a = 0 ∧ chkE b = 0 := by
  obtain ⟨h1, h2⟩ := chkE_ok h
  have key : ∀ c : List (List Int), c.length ≤ 6 → (∀ r ∈ c, chkRow r = 0) → chkE c = 0 := by
    intro c hl hr
    unfold chkE
    rw [if_neg (by omega)]
    have : c.findIdx? (fun r => chkRow r != 0) = none := by
      rw [List.findIdx?_eq_none_iff]
      intro r hr'
      simp [hr r hr']
    rw [this]
  rw [List.length_append] at h1
  exact ⟨key a (by omega) fun r hr => h2 r (List.mem_append.2 (.inl hr)), key b (by omega) fun r hr => h2 r (List.mem_append.2 (.inr hr))⟩

/-! ### the padded list -/

theorem pad_eq {L : List Nat} (hl : L.length ≤ 96) : ∃ k, iter L06_FilterBlocks_b0 big L = some (L ++ List.replicate k 0) ∧ (L.length + k) % 32 = 0 ∧ L.length + k ≤ 96 := by
  obtain ⟨k, hk1, hk2, hk3⟩ : ∃ k, (L.length + k) % 32 = 0 ∧ k < 32 ∧ L.length + k ≤ 96 := ⟨(32 - L.length % 32) % 32, by omega, by omega, by omega⟩
  refine ⟨k, ?_, hk1, hk3⟩
  have h := iter_upto (body := L06_FilterBlocks_b0) (fun i => L ++ List.replicate i 0) (y := L ++ List.replicate k 0) (k := k) (fun i hi => by
    unfold L06_FilterBlocks_b0
    have hm : Int.tmod (((L ++ List.replicate i 0).length : Nat) : Int) 32 ≠ 0 := by
      rw [List.length_append, List.length_replicate]
      have : ((L.length + i : Nat) : Int).tmod 32 = ((L.length + i) % 32 : Nat) := by
        rw [Int.tmod_eq_emod_of_nonneg (by omega)]
        rfl
      rw [this]
      omega
    rw [if_pos (by simpa using hm), if_pos (by simp only [List.length_append, List.length_replicate, List.length_cons, List.length_nil]; omega), List.append_assoc]
    rw [show List.replicate i 0 ++ [0] = List.replicate (i + 1) 0 by rw [List.replicate_succ']]) (by
    unfold L06_FilterBlocks_b0
    have hm : Int.tmod (((L ++ List.replicate k 0).length : Nat) : Int) 32 = 0 := by
      rw [List.length_append, List.length_replicate]
      have : ((L.length + k : Nat) : Int).tmod 32 = ((L.length + k) % 32 : Nat) := by
        rw [Int.tmod_eq_emod_of_nonneg (by omega)]
        rfl
      rw [this]
      omega
    rw [if_neg (by rw [hm]; decide)]) (by omega)
  simpa using h

theorem se_zero : se 0 = 0 := by
  have := se_nf (n := 0) (by omega)
  rw [if_pos (by unfold inR; omega)] at this
  exact this

theorem map_fi_nf {l : List Int} (h : ∀ x ∈ l, inR x) : (l.map nf).map fi = l ∧ ∀ b ∈ l.map nf, se b = 0 := by
  constructor
  · rw [List.map_map]
    conv => rhs; rw [← List.map_id l]
    apply List.map_congr_left
    intro x hx
    have := h x hx
    unfold inR at this
    exact fi_nf (by omega)
  · intro b hb
    obtain ⟨x, hx, rfl⟩ := List.mem_map.1 hb
    have := h x hx
    rw [se_nf (by unfold inR at this; omega), if_pos this]

theorem filterBlocks_true {a b : List (List Int)} {l : List Int} : L06_FilterBlocks a b l = some true := by
  unfold L06_FilterBlocks
  by_cases ha : (a.length : Int) > 3
  · rw [if_pos ha]
  rw [if_neg ha]
  by_cases hb : (b.length : Int) > 3
  · rw [if_pos hb]
  rw [if_neg hb]
  by_cases hl : (l.length : Int) > 96
  · rw [if_pos hl]
  rw [if_neg hl, copy_eq (by omega), bind_some', if_pos (by omega), checkCascade_eq (by simp; omega), bind_some']
  by_cases hE : ¬ chkE (a ++ b) = 0
  · rw [if_pos (by simpa using hE)]
  replace hE : chkE (a ++ b) = 0 := by omega
  rw [if_neg (show ¬ (chkE (a ++ b) != 0) = true by rw [hE]; decide), raw_eq (by omega), bind_some', samplesErrR_eq (by simp [rawL]; omega), bind_some']
  by_cases hS : ¬ sesE (rawL l) = 0
  · rw [if_pos (by simpa using hS)]
  replace hS : sesE (rawL l) = 0 := by omega
  have hrl : (rawL l).length = l.length := by simp [rawL]
  obtain ⟨k, hk, hk1, hk2⟩ := pad_eq (L := rawL l) (by omega)
  rw [if_neg (by rw [hS]; decide), bind_some', hk, bind_some']
  generalize hLdef : rawL l ++ List.replicate k 0 = L at *
  have hLl : L.length = (rawL l).length + k := by rw [← hLdef]; simp
  have hall : ∀ z ∈ L, se z = 0 := fun z hz => by
    rw [← hLdef] at hz
    rcases List.mem_append.1 hz with h | h
    · exact sesE_zero hS z h
    · rw [List.mem_replicate] at h; rw [h.2]; exact se_zero
  have hSL : sesE L = 0 := sesE_ne hall
  obtain ⟨hca, hcb⟩ := chk_append hE
  have hcab : (a ++ b).length ≤ 6 := by simp; omega
  have hx : ∀ x ∈ L.map fi, inR x := fun x hx => by
    obtain ⟨z, hz, rfl⟩ := List.mem_map.1 hx
    exact (se_whole (hall z hz)).2
  have hout := outsU_range (us := us0 a) hx
  obtain ⟨hm1, hm2⟩ := map_fi_nf hout
  -- the three runs
  have hr1 := runAll_eq (c := a ++ b) (L := L) (by omega) (by omega)
  rw [if_pos (by unfold raE; rw [if_neg (by omega), if_neg (by omega), hSL])] at hr1
  have hr2 := runAll_eq (c := a) (L := L) (by omega) (by omega)
  rw [if_pos (by unfold raE; rw [if_neg (by omega), if_neg (by omega), hSL])] at hr2
  have hr3 := runAll_eq (c := b) (L := (outsU (us0 a) (L.map fi)).map nf) (by omega) (by simp [outsU_length]; omega)
  rw [if_pos (by unfold raE; rw [if_neg (by omega), if_neg (by simp [outsU_length]; omega), sesE_ne hm2]), hm1] at hr3
  obtain ⟨t1, t2⟩ := endU_two (us0 a) (us0 b) (L.map fi)
  rw [← us0_append] at t1 t2
  have hlen1 : ((outsU (us0 (a ++ b)) (L.map fi)).map nf).length = L.length := by simp [outsU_length]
  have hlen2 : ((outsU (us0 a) (L.map fi)).map nf).length = L.length := by simp [outsU_length]
  have hok := us0_ok hE
  have hendok := endU_ok hok hx
  have hul : (us0 (a ++ b)).length = (a ++ b).length := by simp [us0, mkUs]
  have hcutb : ∀ {us : List (List Int)} {q : Int}, (∀ u ∈ us, okUk q u) → 0 ≤ cutsU us ∧ cutsU us ≤ us.length * q := by
    intro us q
    induction us with
    | nil => intro _; simp [cutsU]
    | cons u us ih =>
      intro h
      have h1 := ih (fun v hv => h v (List.mem_cons_of_mem _ hv))
      have h2 := (h u List.mem_cons_self).2.2.2
      simp only [cutsU, List.length_cons]
      push_cast
      rw [Int.add_mul]
      omega
  have hc1 := hcutb (endU_ok (us0_ok hca) hx)
  have hc2 := hcutb (endU_ok (us0_ok hcb) hout)
  have hla : (us0 a).length ≤ 3 := by simp [us0, mkUs]; omega
  have hlb : (us0 b).length ≤ 3 := by simp [us0, mkUs]; omega
  have hcs : cutsU (endU (us0 (a ++ b)) (L.map fi)) = cutsU (endU (us0 a) (L.map fi)) + cutsU (endU (us0 b) (outsU (us0 a) (L.map fi))) := by rw [t1, cutsU_append]
  have hcb1 : 0 ≤ cutsU (endU (us0 a) (L.map fi)) ∧ cutsU (endU (us0 a) (L.map fi)) ≤ 1000 := by
    have h1 := hc1.2
    have h2 : ((endU (us0 a) (L.map fi)).length : Int) * (0 + ((L.map fi).length : Int)) ≤ 3 * 96 := Int.mul_le_mul (by rw [endU_length]; omega) (by simp; omega) (by omega) (by omega)
    omega
  have hcb2 : 0 ≤ cutsU (endU (us0 b) (outsU (us0 a) (L.map fi))) ∧ cutsU (endU (us0 b) (outsU (us0 a) (L.map fi))) ≤ 1000 := by
    have h1 := hc2.2
    have h2 : ((endU (us0 b) (outsU (us0 a) (L.map fi))).length : Int) * (0 + ((outsU (us0 a) (L.map fi)).length : Int)) ≤ 3 * 96 := Int.mul_le_mul (by rw [endU_length]; omega) (by rw [outsU_length]; simp; omega) (by omega) (by omega)
    omega
  unfold L06_FilterBlocks_r0
  rw [copy_eq (by omega), bind_some', if_pos (by omega), List.nil_append, hr1, bind_some', copy_eq (by omega), bind_some', if_pos (by omega), hr2, bind_some']
  dsimp only
  rw [if_neg (by decide), if_neg (by decide), if_neg (by rw [hlen1]; simp), if_neg (by rw [hlen2]; simp), copy_eq (by omega), bind_some', if_pos (by rw [hlen2]; omega), List.nil_append, hr3, bind_some']
  dsimp only
  rw [if_neg (by decide), sameFloats_eq (by simp [outsU_length]; omega), bind_some', decide_eq_true (by rw [t2]), if_neg (by decide), wr64 (by omega), hcs, if_neg (by simp), bind_some', newStateF_eq (by omega), bind_some', if_neg (show ¬ chkE (a ++ b) ≠ 0 by omega)]
  dsimp only
  rw [if_neg (by decide)]
  -- block after block
  have hsec := mkUs_sec (a ++ b) (List.replicate (a ++ b).length [(0 : Int), 0, 0, 0])
  have hu0 : mkUs (a ++ b) (List.replicate (a ++ b).length [(0 : Int), 0, 0, 0]) (a ++ b).length = us0 (a ++ b) := rfl
  rw [hu0] at hsec
  obtain ⟨y, hy, hyp⟩ := iter_spec (body := L06_FilterBlocks_b1 b L a (a ++ b) ((outsU (us0 (a ++ b)) (L.map fi)).map nf, cutsU (endU (us0 (a ++ b)) (L.map fi)), 0))
    (fun z : Int × Int × List (List Int) => ∃ i : Nat, z.2.1 = (i : Int) ∧ i % 32 = 0 ∧ i ≤ L.length ∧ z.1 = cutsU (endU (us0 (a ++ b)) ((L.map fi).take i)) ∧ StOf z.2.2 (endU (us0 (a ++ b)) ((L.map fi).take i)))
    (fun z => L.length - z.2.1.toNat) (fun y : Unit ⊕ Int => y = .inr (cutsU (endU (us0 (a ++ b)) (L.map fi)))) (by
    rintro ⟨K, i', s⟩ ⟨i, hi', hi32, hi, hK, hst⟩
    dsimp only at hi' hK hst ⊢
    subst hi'
    unfold L06_FilterBlocks_b1
    dsimp only
    by_cases hlt : i + 32 ≤ L.length
    · left
      have hw : IntKind.i64.wrap ((i : Int) + 32) = ((i + 32 : Nat) : Int) := by rw [wr64 (by omega)]; rfl
      rw [hw]
      have hblk : (List.take (Int.toNat (Option.getD (some ((i + 32 : Nat) : Int)) (L.length : Int)) - Int.toNat (Option.getD (some (i : Int)) 0)) (List.drop (Int.toNat (Option.getD (some (i : Int)) 0)) L)) = (L.drop i).take 32 := by
        simp only [Option.getD_some, Int.toNat_natCast]
        rw [show i + 32 - i = 32 by omega]
      have hblen : ((L.drop i).take 32).length = 32 := by simp; omega
      have htk : List.take 32 (List.drop 0 ((L.drop i).take 32)) = (L.drop i).take 32 := by rw [List.drop_zero, List.take_of_length_le (by omega)]
      -- the units at this block, but for their counters
      generalize hus : endU (us0 (a ++ b)) ((L.map fi).take i) = us at *
      have husl : us.length = (a ++ b).length := by rw [← hus, endU_length, hul]
      have hsec' : SecOf (a ++ b) us := by rw [← hus]; exact secOf_end hsec
      have heq := mk_eqU hsec' hst
      obtain ⟨e1, e2, e3⟩ := eqU_end (((L.drop i).take 32).map fi) heq
      have hrange : ∀ k' j, k' < us.length → j < 4 → inR ((us.getD k' []).getD (5 + j) 0) := fun k' j hk' hj => by
        have := endU_ok hok (l := (L.map fi).take i) (fun x hx' => hx x (List.mem_of_mem_take hx')) (us.getD k' []) (by rw [hus, getD_eq hk']; exact List.getElem_mem hk')
        exact this.2.2.1 (5 + j) (by omega) (by omega)
      have hsl : s.length = (a ++ b).length := by rw [hst.1, husl]
      have hcss : csS (a ++ b) s = (0, 0) := by
        unfold csS
        rw [if_neg (by omega)]
        have : s.findIdx? badS = none := by
          rw [List.findIdx?_eq_none_iff]
          intro r hr
          obtain ⟨k', hk', rfl⟩ := List.getElem_of_mem hr
          have hg : s[k'] = s.getD k' [] := (getD_eq hk').symm
          have q : ∀ j, j < 4 → inR ((s.getD k' []).getD j 0) := fun j hj => by
            rw [hst.2 k' j (by omega) hj]
            exact hrange k' j (by omega) hj
          rw [hg]
          unfold badS
          rw [decide_eq_true (q 0 (by omega)), decide_eq_true (q 1 (by omega)), decide_eq_true (q 2 (by omega)), decide_eq_true (q 3 (by omega))]
          rfl
        rw [this]
      have hsb : sesE ((L.drop i).take 32) = 0 := sesE_ne fun z hz => hall z (List.mem_of_mem_drop (List.mem_of_mem_take hz))
      have hre : runE' (a ++ b) s ((L.drop i).take 32) = 0 := by unfold runE'; rw [if_neg (by omega), if_neg (by omega), hcss]
      have hrun := run_eq (c := a ++ b) (s := s) (b := (L.drop i).take 32) (by omega) (by omega) hblen
      rw [if_pos hre, e2] at hrun
      -- the outputs of all
      have hsplit : (L.map fi).take (i + 32) = (L.map fi).take i ++ ((L.drop i).take 32).map fi := by
        rw [List.take_add, List.map_take, List.map_drop]
      have hends : endU (us0 (a ++ b)) ((L.map fi).take (i + 32)) = endU us (((L.drop i).take 32).map fi) := by rw [hsplit, endU_append, hus]
      have houts : (outsU (us0 (a ++ b)) (L.map fi)).drop i = outsU us ((L.map fi).drop i) := by
        conv => lhs; rw [← List.take_append_drop i (L.map fi), outsU_append, hus]
        rw [List.drop_left' (by rw [outsU_length]; simp; omega)]
      have hcmp : (((outsU (us0 (a ++ b)) (L.map fi)).map nf).drop i).take 32 = (outsU us (((L.drop i).take 32).map fi)).map nf := by
        rw [← List.map_drop, houts, ← List.map_take]
        congr 1
        have h32 : (L.map fi).drop i = ((L.drop i).take 32).map fi ++ (L.map fi).drop (i + 32) := by
          rw [← List.drop_drop, ← List.map_drop, ← List.map_drop, ← List.map_append, List.take_append_drop]
        rw [h32, outsU_append, List.take_left' (by rw [outsU_length]; simp; omega)]
      have hblk2 : (List.take (Int.toNat (Option.getD (some ((i + 32 : Nat) : Int)) (((outsU (us0 (a ++ b)) (L.map fi)).map nf).length : Int)) - Int.toNat (Option.getD (some (i : Int)) 0)) (List.drop (Int.toNat (Option.getD (some (i : Int)) 0)) ((outsU (us0 (a ++ b)) (L.map fi)).map nf))) = (outsU us (((L.drop i).take 32).map fi)).map nf := by
        simp only [Option.getD_some, Int.toNat_natCast]
        rw [show i + 32 - i = 32 by omega, hcmp]
      have hol : ((outsU us (((L.drop i).take 32).map fi)).map nf).length = 32 := by simp [outsU_length]; omega
      have htk2 : List.take 32 (List.drop 0 ((outsU us (((L.drop i).take 32).map fi)).map nf)) = (outsU us (((L.drop i).take 32).map fi)).map nf := by rw [List.drop_zero, List.take_of_length_le (by omega)]
      rw [if_pos (by omega), copy_eq (by omega), bind_some', if_pos (by simp only [Option.getD_some]; omega), hblk, if_pos (by omega), if_pos (by omega), htk, hrun, bind_some']
      dsimp only
      rw [if_neg (by decide), if_pos ⟨hol, by decide⟩, if_pos (by simp only [Option.getD_some, hlen1]; omega), hblk2, htk2, sameFloats_eq (by omega), bind_some', decide_eq_true rfl, if_neg (by decide)]
      -- the counters
      have hmk0 : cutsU (mkUs (a ++ b) s (a ++ b).length) = 0 := mkUs_cuts _ _ _
      have hKb := hcutb (endU_ok hok (l := (L.map fi).take (i + 32)) (fun x hx' => hx x (List.mem_of_mem_take hx')))
      have hKb0 := hcutb (endU_ok hok (l := (L.map fi).take i) (fun x hx' => hx x (List.mem_of_mem_take hx')))
      rw [hends] at hKb
      rw [hus] at hKb0
      have hKm : ((endU us (((L.drop i).take 32).map fi)).length : Int) * (0 + (((L.map fi).take (i + 32)).length : Int)) ≤ 6 * 96 := Int.mul_le_mul (by rw [endU_length]; omega) (by simp; omega) (by omega) (by omega)
      have hKm0 : (us.length : Int) * (0 + (((L.map fi).take i).length : Int)) ≤ 6 * 96 := Int.mul_le_mul (by omega) (by simp; omega) (by omega) (by omega)
      rw [wr64 (by omega)]
      refine ⟨_, rfl, ⟨i + 32, rfl, by omega, by omega, ?_, ?_⟩, ?_⟩
      · dsimp only
        rw [hends, hK]
        omega
      · dsimp only
        rw [hends]
        have hs1 := stU_st (endU (mkUs (a ++ b) s (a ++ b).length) (((L.drop i).take 32).map fi))
        refine ⟨hs1.1.trans e1.1, fun k' j hk' hj => ?_⟩
        rw [hs1.2 k' j (by rw [e1.1]; exact hk') hj]
        exact e1.2 k' (5 + j) (by rw [e1.1]; exact hk') (by omega)
      · dsimp only
        omega
    · right
      have hie : i = L.length := by omega
      subst hie
      rw [if_neg (by rw [wr64 (by omega)]; omega)]
      refine ⟨_, rfl, ?_⟩
      rw [hK, List.take_of_length_le (by simp)]) big (0, 0, List.replicate (a ++ b).length [0, 0, 0, 0]) ⟨0, rfl, rfl, Nat.zero_le _, (mkUs_cuts _ _ _).symm, st0 (a ++ b)⟩ (by show L.length - 0 < big; unfold big; omega)
  rw [← hcs, hy, bind_some', hyp]
  show L06_FilterBlocks_r1_1 _ _ = _
  unfold L06_FilterBlocks_r1_1
  dsimp only
  simp

end Go.Sh
