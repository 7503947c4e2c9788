/- Floats of whole numbers: what is read, compared and rounded. -/
import Derived.Test.YtndhdojnlobloaaPl
import Derived.Test.YtndhdojnlobloaaFl
import Derived.Test.YtndhdojnlobloaaMirB
set_option linter.unusedSectionVars false
set_option linter.unusedSimpArgs false
set_option linter.unusedVariables false
namespace Go.Sx
open Ieee Go.Fl

/-- A number's size in units of 2^-K. -/
def mg (K : Nat) (m : Nat) (e : Int) : Nat := m * 2 ^ (e + K).toNat
def sg (s : Bool) (a : Nat) : Int := if s then -(a : Int) else (a : Int)

theorem signed_eq (s : Bool) (m k : Nat) : signed s m k = sg s (m * 2 ^ k) := by
  unfold signed sg
  rw [Nat.shiftLeft_eq]

theorem sg_mul (s : Bool) (a b : Nat) : sg s (a * b) = sg s a * (b : Int) := by
  unfold sg
  cases s <;> simp [Int.neg_mul]

theorem compare_mul {a b : Int} {c : Nat} (hc : 0 < c) : compare (a * (c : Int)) (b * (c : Int)) = compare a b := by
  have hc' : (0 : Int) < (c : Int) := by omega
  rcases Int.lt_trichotomy a b with h | h | h
  · have h1 : a * (c : Int) < b * (c : Int) := Int.mul_lt_mul_of_pos_right h hc'
    rw [Int.compare_eq_lt.2 h1, Int.compare_eq_lt.2 h]
  · subst h; rw [Int.compare_eq_eq.2 rfl, Int.compare_eq_eq.2 rfl]
  · have h1 : b * (c : Int) < a * (c : Int) := Int.mul_lt_mul_of_pos_right h hc'
    rw [Int.compare_eq_gt.2 h1, Int.compare_eq_gt.2 h]

/-- Two numbers are compared by their sizes. -/
theorem order_mg (K : Nat) {s t : Bool} {m n : Nat} {i j : Int} (hi : 0 ≤ i + K) (hj : 0 ≤ j + K) :
    Datum.order (.number s m i) (.number t n j) = some (compare (sg s (mg K m i)) (sg t (mg K n j))) := by
  simp only [Datum.order, signed_eq]
  have key : ∀ (x : Int) (m : Nat), min i j ≤ x → 0 ≤ x + K → mg K m x = m * 2 ^ (x - min i j).toNat * 2 ^ (min i j + K).toNat := by
    intro x m h1 h2
    unfold mg
    rw [Nat.mul_assoc, ← Nat.pow_add]
    congr 2
    omega
  rw [key i m (by omega) hi, key j n (by omega) hj, sg_mul s (m * _), sg_mul t (n * _), compare_mul (Nat.two_pow_pos _)]

/-- A number less itself. -/
theorem sum_self {s : Bool} {m : Nat} {i : Int} : Datum.sum (.number s m i) (Datum.opposite (.number s m i)) = some (.number false 0 i) := by
  simp only [Datum.opposite, Datum.sum, Int.min_self, Int.sub_self, Int.toNat_zero, signed_eq]
  cases s <;> simp [sg] <;> omega

theorem cut_zero_way (s : Bool) (n drop : Nat) : Toward.cut .zero s n drop = n / 2 ^ drop := by
  have h1 : (n / (1 <<< min drop (n.log2 + 2))) = n / 2 ^ drop := by
    rw [Nat.shiftLeft_eq, Nat.one_mul]
    by_cases h : drop ≤ n.log2 + 2
    · rw [Nat.min_eq_left h]
    · rw [Nat.min_eq_right (by omega)]
      have h2 : n < 2 ^ (n.log2 + 1) := Nat.lt_log2_self
      have h3 : 2 ^ (n.log2 + 1) ≤ 2 ^ (n.log2 + 2) := Nat.pow_le_pow_right (by omega) (by omega)
      have h4 : 2 ^ (n.log2 + 2) ≤ 2 ^ drop := Nat.pow_le_pow_right (by omega) (by omega)
      rw [Nat.div_eq_of_lt (by omega), Nat.div_eq_of_lt (by omega)]
  simp [Toward.cut, h1]

/-- A number's whole part. -/
theorem toInt_mg (K : Nat) {s : Bool} {m : Nat} {i : Int} (hi : 0 ≤ i + K) : Datum.toInt .zero (.number s m i) = some (sg s (mg K m i / 2 ^ K)) := by
  simp only [Datum.toInt, Datum.integral, signed_eq, Nat.pow_zero, Nat.mul_one, cut_zero_way, Nat.shiftLeft_eq]
  congr 2
  unfold mg
  by_cases h : 0 ≤ i
  · have e1 : (-i).toNat = 0 := by omega
    have e2 : (i + K).toNat = i.toNat + K := by omega
    rw [e1, e2, Nat.pow_add, Nat.pow_zero, Nat.div_one, ← Nat.mul_assoc, Nat.mul_div_cancel _ (Nat.two_pow_pos K)]
  · have e1 : i.toNat = 0 := by omega
    have e2 : K = (i + K).toNat + (-i).toNat := by omega
    rw [e1, Nat.pow_zero, Nat.mul_one]
    conv => rhs; rhs; rw [e2, Nat.pow_add]
    rw [Nat.mul_comm m, Nat.mul_div_mul_left _ _ (Nat.two_pow_pos _)]

/-- A whole number below 2^24, written as a single float and read back. -/
theorem round32 {s : Bool} {m : Nat} (hm0 : m ≠ 0) (hm : m < 16777216) :
    single.read (single.write (.number s m 0)) = .number s (m * 2 ^ (23 - m.log2)) ((m.log2 : Int) - 23) ∧ m.log2 ≤ 23 := by
  have hl : m.log2 ≤ 23 := by
    have := (Nat.log2_lt hm0 (k := 24)).2 (by omega)
    omega
  refine ⟨?_, hl⟩
  have hlo : 2 ^ m.log2 ≤ m := Nat.log2_self_le hm0
  have hhi : m < 2 ^ (m.log2 + 1) := Nat.lt_log2_self
  have hp : 2 ^ m.log2 * 2 ^ (23 - m.log2) = 8388608 := by rw [← Nat.pow_add, Nat.add_sub_cancel' hl]
  have h1 : 8388608 ≤ m * 2 ^ (23 - m.log2) := by rw [← hp]; exact Nat.mul_le_mul_right _ hlo
  have h2 : m * 2 ^ (23 - m.log2) < 16777216 := by
    have h3 : m * 2 ^ (23 - m.log2) < 2 ^ (m.log2 + 1) * 2 ^ (23 - m.log2) := Nat.mul_lt_mul_of_pos_right hhi (Nat.two_pow_pos _)
    have h4 : 2 ^ (m.log2 + 1) * 2 ^ (23 - m.log2) = 16777216 := by rw [Nat.pow_succ, Nat.mul_assoc, Nat.mul_comm 2, ← Nat.mul_assoc, hp]
    omega
  have e1 : single.signWeight = 2147483648 := rfl
  have e2 : single.binade = 8388608 := rfl
  have e3 : single.infRung = 2139095040 := rfl
  have e4 : single.leastPlace = -149 := rfl
  have e5 : single.fractionBits = 23 := rfl
  have hw : single.write (.number s m 0) = single.word s ((m.log2 + 126) * 8388608 + m * 2 ^ (23 - m.log2)) := by
    simp only [Format.write, Format.nearest, if_neg hm0, e2, e3, e4, e5]
    have hlast : max ((0 : Int) + (m.log2 : Int) - (23 : Nat)) (-149) = (m.log2 : Int) - 23 := by omega
    rw [hlast]
    have ha : ((0 : Int) - ((m.log2 : Int) - 23)).toNat = 23 - m.log2 := by omega
    have hb : (((m.log2 : Int) - 23) - 0).toNat = 0 := by omega
    rw [ha, hb, cut_zero _ _ _ rfl, Nat.shiftLeft_eq]
    have hc : ((m.log2 : Int) - 23 - -149).toNat = m.log2 + 126 := by omega
    rw [hc, Nat.min_eq_left (by omega)]
  rw [hw]
  generalize m * 2 ^ (23 - m.log2) = k at *
  generalize m.log2 = q at *
  have hrd : ∀ r, 8388608 ≤ r → r < 2139095040 → single.read (single.word s r) = .number s (8388608 + r % 8388608) (-149 + (r / 8388608 - 1 : Nat)) := by
    intro r h1 h2
    unfold Format.read Format.word
    simp only [e1, e2, e3, e4]
    cases s
    · simp only [Bool.false_eq_true, if_false]
      have ha : r % 2147483648 = r := Nat.mod_eq_of_lt (by omega)
      have hb : r / 2147483648 = 0 := Nat.div_eq_of_lt (by omega)
      rw [ha, hb, if_neg (by omega), if_pos h2]
      rfl
    · simp only [if_true]
      have ha : (2147483648 + r) % 2147483648 = r := by omega
      have hb : (2147483648 + r) / 2147483648 = 1 := by omega
      rw [ha, hb, if_neg (by omega), if_pos h2]
      rfl
  rw [hrd _ (by omega) (by omega)]
  have ha : 8388608 + ((q + 126) * 8388608 + k) % 8388608 = k := by omega
  have hb : ((q + 126) * 8388608 + k) / 8388608 - 1 = q + 126 := by omega
  have hc : (-149 : Int) + ((q + 126 : Nat) : Int) = (q : Int) - 23 := by omega
  rw [ha, hb, hc]

/-- What a whole number below 2^24 is as a single float. -/
theorem near32 (K : Nat) (hK : 149 ≤ K) {n : Int} (hn : -16777216 < n ∧ n < 16777216) :
    ∃ m e, FloatKind.decode .f32 (FloatKind.nearest .f32 n) = .number (decide (n < 0)) m e ∧ mg K m e = n.natAbs * 2 ^ K ∧ -149 ≤ e := by
  unfold FloatKind.decode FloatKind.nearest FloatKind.encode FloatKind.format
  by_cases h0 : n.natAbs = 0
  · rw [h0]
    have : n = 0 := by omega
    subst this
    exact ⟨0, -149, by rfl, by simp [mg], by omega⟩
  · obtain ⟨h1, h2⟩ := round32 (s := decide (n < 0)) h0 (by omega)
    refine ⟨_, _, h1, ?_, by omega⟩
    unfold mg
    have e1 : ((n.natAbs.log2 : Int) - 23 + K).toNat = K - (23 - n.natAbs.log2) := by omega
    rw [e1, Nat.mul_assoc, ← Nat.pow_add]
    congr 2
    omega

theorem sg_natAbs (n : Int) : sg (decide (n < 0)) n.natAbs = n := by
  unfold sg
  by_cases h : n < 0
  · simp [h]; omega
  · simp [h]; omega

theorem f2i_near {n : Int} (hn : -16777216 < n ∧ n < 16777216) : f2i .f32 (FloatKind.nearest .f32 n) = n ∧ f2iOk .f32 .i64 (FloatKind.nearest .f32 n) = true := by
  obtain ⟨m, e, h1, h2, h3⟩ := near32 149 (by omega) hn
  have ht : Datum.toInt .zero (FloatKind.decode .f32 (FloatKind.nearest .f32 n)) = some n := by
    rw [h1, toInt_mg 149 (by omega), h2, Nat.mul_div_cancel _ (Nat.two_pow_pos _), sg_natAbs]
  unfold f2i f2iOk
  rw [ht]
  refine ⟨rfl, ?_⟩
  have e1 : IntKind.i64.min = -9223372036854775808 := rfl
  have e2 : IntKind.i64.max = 9223372036854775807 := rfl
  simp only [e1, e2, decide_eq_true_eq]
  omega

end Go.Sx

namespace Go.Sh
open Go Go.Proofs Go.RowKit Go.Sx Go.Sx06

theorem few_eq (c : List (List Int)) : L06_few c = some (decide ((c.length : Int) ≤ 8)) := rfl
theorem copy_eq {c : List (List Int)} (h : c.length ≤ 1000000000000) : R06_Copy c = some c := by
  unfold R06_Copy
  rw [if_pos (by omega), List.nil_append]

end Go.Sh

namespace Go.Sh
open Go Go.Proofs Go.RowKit Go.Sx Ieee Go.Fl

def KK : Nat := 1100
def PP : Nat := 2 ^ KK
theorem PP_pos : 0 < PP := Nat.two_pow_pos _

theorem cmp_eq (a b : Int) : (some (compare a b) == some Ordering.eq) = decide (a = b) := by
  rcases Int.lt_trichotomy a b with h | h | h
  · rw [Int.compare_eq_lt.2 h, decide_eq_false (by omega)]; rfl
  · rw [Int.compare_eq_eq.2 h, decide_eq_true h]; rfl
  · rw [Int.compare_eq_gt.2 h, decide_eq_false (by omega)]; rfl
theorem cmp_lt (a b : Int) : (some (compare a b) == some Ordering.lt) = decide (a < b) := by
  rcases Int.lt_trichotomy a b with h | h | h
  · rw [Int.compare_eq_lt.2 h, decide_eq_true h]; rfl
  · rw [Int.compare_eq_eq.2 h, decide_eq_false (by omega)]; rfl
  · rw [Int.compare_eq_gt.2 h, decide_eq_false (by omega)]; rfl
theorem cmp_gt (a b : Int) : (some (compare a b) == some Ordering.gt) = decide (b < a) := by
  rcases Int.lt_trichotomy a b with h | h | h
  · rw [Int.compare_eq_lt.2 h, decide_eq_false (by omega)]; rfl
  · rw [Int.compare_eq_eq.2 h, decide_eq_false (by omega)]; rfl
  · rw [Int.compare_eq_gt.2 h, decide_eq_true h]; rfl

/-- The error of a sample. -/
def seD : Datum → Int
  | .number _ m e => if 16777216 * PP ≤ mg KK m e then 2 else if mg KK m e / PP * PP ≠ mg KK m e then 27 else if mg KK m e / PP ≤ 32767 then 0 else 2
  | _ => 27
def se (b : Nat) : Int := seD (FloatKind.decode .f32 b)

theorem mg_up (m : Nat) (e : Nat) : mg KK m (e : Int) = m * 2 ^ e * PP := by
  unfold mg PP
  rw [Nat.mul_assoc, ← Nat.pow_add]
  congr 2

theorem sg_f (a : Nat) : sg false a = (a : Int) := rfl
theorem sg_t (a : Nat) : sg true a = -(a : Int) := rfl
theorem toIntP {s : Bool} {m : Nat} {i : Int} (hi : 0 ≤ i + KK) : Datum.toInt .zero (.number s m i) = some (sg s (mg KK m i / PP)) := toInt_mg KK hi
theorem near32P {n : Int} (hn : -16777216 < n ∧ n < 16777216) : ∃ m e, FloatKind.decode .f32 (FloatKind.nearest .f32 n) = .number (decide (n < 0)) m e ∧ mg KK m e = n.natAbs * PP ∧ -149 ≤ e := near32 KK (by unfold KK; omega) hn
theorem mg_24 : mg KK 8388608 1 = 16777216 * PP := by
  have := mg_up 8388608 1
  rw [show (8388608 * 2 ^ 1 : Nat) = 16777216 from rfl] at this
  exact this
theorem sub_self (f : Format) {b : Nat} {s : Bool} {m : Nat} {e : Int} (h : f.read b = .number s m e) : f.sub b b = some 0 := by
  unfold Format.sub
  rw [h, sum_self]
  simp [Format.write, Format.nearest, Format.word]
theorem sub_inf (f : Format) {b : Nat} {s : Bool} (h : f.read b = .infinity s) : f.sub b b = none := by
  unfold Format.sub
  rw [h]
  cases s <;> rfl

theorem sampleErrF_eq (b : Nat) : F_sampleErr b = some (se b) := by
  have hz : Format.order single 0 0 = some .eq := by decide
  unfold F_sampleErr se FloatKind.decode
  simp only [show FloatKind.format .f32 = single from rfl]
  rcases read32 b with ⟨s, m, e, h, hm, he1, he2⟩ | ⟨s, h⟩ | ⟨s, t, h⟩
  · have h1 : single.order b b = some .eq := by
      unfold Format.order
      rw [h, order_mg KK (by unfold KK; omega) (by unfold KK; omega), Int.compare_eq_eq.2 rfl]
    have hA : single.order b 1266679808 = some (compare (sg s (mg KK m e)) ((16777216 * PP : Nat) : Int)) := by
      unfold Format.order
      have hc : single.read 1266679808 = .number false 8388608 1 := by decide
      rw [h, hc, order_mg KK (by unfold KK; omega) (by unfold KK; omega)]
      rw [mg_24]
      first | rw [sg_f] | rw [sg_t]
    have hB : single.order b 3414163456 = some (compare (sg s (mg KK m e)) (-((16777216 * PP : Nat) : Int))) := by
      unfold Format.order
      have hc : single.read 3414163456 = .number true 8388608 1 := by decide
      rw [h, hc, order_mg KK (by unfold KK; omega) (by unfold KK; omega)]
      rw [mg_24]
      first | rw [sg_f] | rw [sg_t]
    have hT : Datum.toInt .zero (FloatKind.decode .f32 b) = some (sg s (mg KK m e / PP)) := by
      unfold FloatKind.decode
      simp only [show FloatKind.format .f32 = single from rfl]
      rw [h, toIntP (by unfold KK; omega)]
    rw [h1, sub_self single h, hA, hB]
    simp only [Option.isSome_some, Option.getD_some, hz, if_true, bne_self_eq_false, Bool.false_eq_true, if_false, cmp_gt, cmp_eq, cmp_lt, h, seD]
    generalize hg : mg KK m e = A at *
    have hP := PP_pos
    have hdm := Nat.div_add_mod A PP
    rw [Nat.mul_comm] at hdm
    have hml := Nat.mod_lt A hP
    have hq : f2i .f32 b = sg s (A / PP) := by unfold f2i; rw [hT]; rfl
    by_cases hbig : 16777216 * PP ≤ A
    · rw [if_pos hbig]
      cases s
      · rw [if_pos]
        simp only [sg, Bool.false_eq_true, if_false, Bool.or_eq_true, decide_eq_true_eq]
        omega
      · rw [if_neg, if_pos]
        · simp only [sg, if_true, Bool.or_eq_true, decide_eq_true_eq]
          omega
        · simp only [sg, if_true, Bool.or_eq_true, decide_eq_true_eq]
          omega
    · rw [if_neg hbig]
      have hd : A / PP < 16777216 := (Nat.div_lt_iff_lt_mul hP).2 (by omega)
      generalize A / PP = Q at *
      generalize A % PP = R at *
      generalize hQP : Q * PP = QP at *
      have hn : -16777216 < sg s Q ∧ sg s Q < 16777216 := by cases s <;> simp only [sg, Bool.false_eq_true, if_false, if_true] <;> omega
      have hok : f2iOk .f32 .i64 b = true := by
        unfold f2iOk
        rw [hT]
        have e1 : IntKind.i64.min = -9223372036854775808 := rfl
        have e2 : IntKind.i64.max = 9223372036854775807 := rfl
        simp only [e1, e2, decide_eq_true_eq]
        omega
      rw [if_neg, if_neg, if_pos hok]
      · obtain ⟨m', e', h3, h4, h5⟩ := near32P hn
        have hC : single.order (FloatKind.nearest .f32 (f2i .f32 b)) b = some (compare (sg s Q * (PP : Int)) (sg s A)) := by
          unfold Format.order
          have h3' : single.read (FloatKind.nearest .f32 (f2i .f32 b)) = .number (decide (sg s Q < 0)) m' e' := by rw [hq]; exact h3
          rw [h3', h, order_mg KK (by unfold KK; omega) (by unfold KK; omega), h4, hg, sg_mul, sg_natAbs]
        rw [hC]
        have hne : (some (compare (sg s Q * (PP : Int)) (sg s A)) != some Ordering.eq) = decide (QP ≠ A) := by
          rw [bne, cmp_eq]
          have : (sg s Q * (PP : Int) = sg s A) ↔ QP = A := by
            rw [← sg_mul, hQP]
            cases s <;> simp only [sg, Bool.false_eq_true, if_false, if_true] <;> omega
          by_cases hw : QP = A
          · rw [decide_eq_true (this.2 hw), decide_eq_false (by omega)]; rfl
          · rw [decide_eq_false (fun h => hw (this.1 h)), decide_eq_true hw]; rfl
        rw [hne, hq]
        by_cases hw : QP = A
        · rw [decide_eq_false (show ¬ (QP ≠ A) by omega), if_neg Bool.false_ne_true, if_neg (show ¬ (QP ≠ A) by omega)]
          rw [if_pos hok]
          have hb : (decide (-32767 ≤ sg s Q) && decide (sg s Q ≤ 32767)) = decide (Q ≤ 32767) := by
            rw [Bool.eq_iff_iff, Bool.and_eq_true, decide_eq_true_eq, decide_eq_true_eq, decide_eq_true_eq]
            cases s <;> simp only [sg, Bool.false_eq_true, if_false, if_true] <;> omega
          simp only [hb, decide_eq_true_eq]
        · rw [decide_eq_true (show QP ≠ A from hw), if_pos rfl, if_pos hw]
      · cases s <;> simp only [sg, Bool.false_eq_true, if_false, if_true, Bool.or_eq_true, decide_eq_true_eq] <;> omega
      · cases s <;> simp only [sg, Bool.false_eq_true, if_false, if_true, Bool.or_eq_true, decide_eq_true_eq] <;> omega
  · have h1 : single.order b b = some .eq := by
      unfold Format.order
      rw [h]
      cases s <;> rfl
    rw [h1, sub_inf single h, h]
    rfl
  · have h1 : single.order b b = none := by
      unfold Format.order
      rw [h]
      rfl
    rw [h1, h]
    rfl

end Go.Sh

namespace Go.Sh
open Go Go.Proofs Go.RowKit Go.Sx Ieee Go.Fl

end Go.Sh

namespace Go.Sh
open Go Go.Proofs Go.RowKit Go.Sx Go.Sx06 Ieee Go.Fl

/-- The error of samples. -/
def sesE (l : List Nat) : Int := match l.findIdx? (fun b => se b != 0) with
  | some i => se (l.getD i 0)
  | none => 0

theorem sesE_zero {l : List Nat} (h : sesE l = 0) : ∀ b ∈ l, se b = 0 := by
  intro b hb
  unfold sesE at h
  cases hf : l.findIdx? (fun b => se b != 0) with
  | none =>
    rw [List.findIdx?_eq_none_iff] at hf
    simpa using hf b hb
  | some i =>
    rw [hf] at h
    rw [List.findIdx?_eq_some_iff_getElem] at hf
    obtain ⟨hk, hp, _⟩ := hf
    have h : se (l.getD i 0) = 0 := h
    rw [show l.getD i 0 = l[i] by simp [List.getD, hk]] at h
    simp [h] at hp

theorem sesE_ne {l : List Nat} (h : ∀ b ∈ l, se b = 0) : sesE l = 0 := by
  unfold sesE
  have : l.findIdx? (fun b => se b != 0) = none := by
    rw [List.findIdx?_eq_none_iff]
    intro b hb
    simp [h b hb]
  rw [this]

theorem samplesErrF_eq {l : List Nat} (hl : l.length < 1000000000000) : F_samplesErr l = some (sesE l) := by
  unfold F_samplesErr sesE
  have h := iter_first l 0 (fun b => se b != 0) (body := F_samplesErr_b0 l) (fun i => .inl (se (l.getD i 0))) (.inr ()) (by omega)
    (fun i hi hp => by
      unfold F_samplesErr_b0
      rw [if_pos (by omega), if_pos (by omega), if_pos (by omega), Int.toNat_natCast, sampleErrF_eq, bind_some', if_pos hp])
    (fun i hi hp => by
      unfold F_samplesErr_b0
      rw [if_pos (by omega), if_pos (by omega), if_pos (by omega), Int.toNat_natCast, sampleErrF_eq, bind_some', if_neg (by rw [hp]; simp), wr64 (by omega)])
    (by unfold F_samplesErr_b0; rw [if_neg (by omega)])
  rw [h]
  cases l.findIdx? (fun b => se b != 0) <;> rfl

end Go.Sh

namespace Go.Sh
open Go Go.Proofs Go.RowKit Go.Sx Go.Sx06

def endU : List (List Int) → List Int → List (List Int)
  | us, [] => us
  | us, x :: l => endU (putUs us x) l
def outsU : List (List Int) → List Int → List Int
  | _, [] => []
  | us, x :: l => outUs us x :: outsU (putUs us x) l
def cutsU : List (List Int) → Int
  | [] => 0
  | u :: us => u.getD 9 0 + cutsU us

theorem cutsU_append : ∀ a b : List (List Int), cutsU (a ++ b) = cutsU a + cutsU b
  | [], b => by simp [cutsU]
  | u :: a, b => by simp only [List.cons_append, cutsU, cutsU_append a b]; omega
theorem endU_append : ∀ (us : List (List Int)) (a b : List Int), endU us (a ++ b) = endU (endU us a) b
  | _, [], _ => rfl
  | us, x :: a, b => endU_append (putUs us x) a b
theorem outsU_append : ∀ (us : List (List Int)) (a b : List Int), outsU us (a ++ b) = outsU us a ++ outsU (endU us a) b
  | _, [], _ => rfl
  | us, x :: a, b => by simp only [List.cons_append, outsU, endU, outsU_append (putUs us x) a b]
theorem outsU_length : ∀ (us : List (List Int)) (l : List Int), (outsU us l).length = l.length
  | _, [] => rfl
  | us, x :: l => by simp [outsU, outsU_length (putUs us x) l]
theorem endU_length : ∀ (us : List (List Int)) (l : List Int), (endU us l).length = us.length
  | _, [] => rfl
  | us, x :: l => by simp [endU, endU_length (putUs us x) l, putUs_length]
theorem endU_take {us : List (List Int)} {l : List Int} {i : Nat} (hi : i < l.length) : endU us (l.take (i + 1)) = putUs (endU us (l.take i)) (l.getD i 0) ∧
    outsU us (l.take (i + 1)) = outsU us (l.take i) ++ [outUs (endU us (l.take i)) (l.getD i 0)] := by
  rw [take_one hi 0, endU_append, outsU_append]
  exact ⟨rfl, rfl⟩

def inR (x : Int) : Prop := -32767 ≤ x ∧ x ≤ 32767

theorem endU_ok : ∀ {us : List (List Int)} {l : List Int} {k : Int}, (∀ u ∈ us, okUk k u) → (∀ x ∈ l, inR x) → ∀ u ∈ endU us l, okUk (k + l.length) u
  | us, [], k, h, _, u, hu => by simpa using h u hu
  | us, x :: l, k, h, hx, u, hu => by
    have hr := hx x List.mem_cons_self
    have h1 : ∀ v ∈ putUs us x, okUk (k + 1) v := fun v hv => by
      obtain ⟨w, hw, y, hy1, hy2, rfl⟩ := putUs_mem hr.1 hr.2 hv
      exact okUk_put (h w hw) hy1 hy2
    have := endU_ok h1 (fun x hx' => hx x (List.mem_cons_of_mem _ hx')) u hu
    rw [show k + ((x :: l).length : Int) = k + 1 + (l.length : Int) by simp; omega]
    exact this

/-- Units as they stand at states. -/
def StOf (s us : List (List Int)) : Prop := s.length = us.length ∧ ∀ k j, k < us.length → j < 4 → (s.getD k []).getD j 0 = (us.getD k []).getD (5 + j) 0

theorem getD_map_range {α : Type} (f : Nat → α) (n k : Nat) (d : α) (h : k < n) : ((List.range n).map f).getD k d = f k := by
  simp [List.getD, h]
theorem mkUs_get {c s : List (List Int)} {n k : Nat} (h : k < n) : (mkUs c s n).getD k [] = mkU (c.getD k []) (s.getD k []) := getD_map_range _ n k [] h

theorem mkUs_st {c s : List (List Int)} (h : s.length = c.length) : StOf s (mkUs c s c.length) := by
  refine ⟨by rw [mkUs_length, h], fun k j hk hj => ?_⟩
  rw [mkUs_length] at hk
  rw [mkUs_get hk]
  match j, hj with
  | 0, _ => rfl
  | 1, _ => rfl
  | 2, _ => rfl
  | 3, _ => rfl
theorem mkUs_cuts (c s : List (List Int)) : ∀ n, cutsU (mkUs c s n) = 0
  | 0 => rfl
  | n + 1 => by rw [mkUs_succ, cutsU_append, mkUs_cuts c s n]; rfl

/-! ### one output, by the reference -/

end Go.Sh

namespace Go.Sh
open Go Go.Proofs Go.RowKit Go.Sx Go.Sx06

instance (x : Int) : Decidable (inR x) := by unfold inR; infer_instance
def nf (n : Int) : Nat := FloatKind.nearest .f32 n
def fi (b : Nat) : Int := f2i .f32 b
/-- A loop that builds a list, one element for each of another one. -/
theorem iter_map {α β : Type} (l : List α) (d : α) (f : α → β) {body : Int × List β → Option ((Int × List β) ⊕ List β)} (hlen : l.length < 1000000000000)
    (h1 : ∀ i, i < l.length → ∀ o : List β, o.length = i → body ((i : Int), o) = some (.inl ((i : Int) + 1, o ++ [f (l.getD i d)])))
    (h2 : ∀ o, body ((l.length : Int), o) = some (.inr o)) : iter body big (0, []) = some (l.map f) := by
  refine iter_upto (fun i => ((i : Int), (l.take i).map f)) (k := l.length) (fun i hi => ?_) ?_ (by omega)
  · have := h1 i hi ((l.take i).map f) (by simp; omega)
    rw [this, take_one hi d]
    simp
  · rw [List.take_length]; exact h2 _

/-- What a right sample is as a whole number. -/
theorem se_whole {b : Nat} (h : se b = 0) : f2iOk .f32 .i64 b = true ∧ inR (fi b) := by
  unfold se at h
  unfold fi f2i f2iOk
  rcases Fl.read32 b with ⟨s, m, e, hd, hm, he1, he2⟩ | ⟨s, hd⟩ | ⟨s, t, hd⟩
  · have hdec : FloatKind.decode .f32 b = .number s m e := hd
    rw [hdec] at h ⊢
    rw [toIntP (by unfold KK; omega)]
    unfold seD at h
    have h3 : mg KK m e / PP ≤ 32767 := by
      dsimp only at h
      split at h
      · omega
      · split at h
        · omega
        · split at h
          · assumption
          · omega
    clear h
    generalize mg KK m e / PP = Q at *
    have e1 : IntKind.i64.min = -9223372036854775808 := rfl
    have e2 : IntKind.i64.max = 9223372036854775807 := rfl
    simp only [e1, e2, decide_eq_true_eq, Option.getD_some, inR]
    cases s <;> simp only [sg, Bool.false_eq_true, if_false, if_true] <;> omega
  · have hdec : FloatKind.decode .f32 b = .infinity s := hd
    rw [hdec] at h
    simp [seD] at h
  · have hdec : FloatKind.decode .f32 b = .nan s t := hd
    rw [hdec] at h
    simp [seD] at h

theorem fi_nf {n : Int} (hn : -16777216 < n ∧ n < 16777216) : fi (nf n) = n := (f2i_near hn).1
theorem se_nf {n : Int} (hn : -16777216 < n ∧ n < 16777216) : se (nf n) = if inR n then 0 else 2 := by
  obtain ⟨m, e, h1, h2, h3⟩ := near32P hn
  unfold se nf
  rw [h1]
  unfold seD
  dsimp only
  rw [h2, Nat.mul_div_cancel _ PP_pos, if_neg (by
    intro h
    have := Nat.le_of_mul_le_mul_right h PP_pos
    omega), if_neg (by omega)]
  by_cases h : n.natAbs ≤ 32767
  · rw [if_pos h, if_pos (show inR n by unfold inR; omega)]
  · rw [if_neg h, if_neg (show ¬ inR n by unfold inR; omega)]
theorem cuts_eq {us : List (List Int)} (hl : us.length ≤ 100000) (h : ∀ u ∈ us, 0 ≤ u.getD 9 0 ∧ u.getD 9 0 ≤ 1000000000) : F_chain_cuts us = some (cutsU us) := by
  unfold F_chain_cuts
  have hb : ∀ i, i ≤ us.length → 0 ≤ cutsU (us.take i) ∧ cutsU (us.take i) ≤ i * 1000000000 := by
    intro i
    induction i with
    | zero => intro _; simp [cutsU]
    | succ i ih =>
      intro hi
      have := ih (by omega)
      have hu := h (us.getD i []) (by rw [getD_eq (by omega)]; exact List.getElem_mem _)
      rw [take_one (by omega) [], cutsU_append]
      have e : cutsU [us.getD i []] = (us.getD i []).getD 9 0 := by simp [cutsU]
      rw [e]
      push_cast
      omega
  have hit : iter (F_chain_cuts_b0 us) big (0, 0) = some (cutsU us) := iter_upto (body := F_chain_cuts_b0 us) (fun i => (cutsU (us.take i), (i : Int))) (y := cutsU us) (k := us.length) (fun i hi => by
    have h1 := hb i (by omega)
    have hu := h (us.getD i []) (by rw [getD_eq hi]; exact List.getElem_mem hi)
    unfold F_chain_cuts_b0
    dsimp only
    rw [if_pos (by omega), if_pos (by omega), if_pos (by omega), Int.toNat_natCast, wr64 (by omega), wr64 (by omega), take_one hi [], cutsU_append]
    have e : cutsU [us.getD i []] = (us.getD i []).getD 9 0 := by simp [cutsU]
    rw [e]
    rfl) (by unfold F_chain_cuts_b0; dsimp only; rw [if_neg (by omega), List.take_length]) (by omega)
  rw [hit]
  rfl

/-- The error of a list of samples. -/
def raE (c : List (List Int)) (L : List Nat) : Int := if chkE c ≠ 0 then chkE c else if L.length > 1024 then 8 else sesE L

theorem runAll_eq {c : List (List Int)} {L : List Nat} (hc : c.length ≤ 1000000) (hl : L.length ≤ 1000000) :
    F_RunAll c L = some (if raE c L = 0 then ((outsU (us0 c) (L.map fi)).map nf, cutsU (endU (us0 c) (L.map fi)), 0) else ([], 0, raE c L)) := by
  have hmin : Int.toNat (Option.getD (some (if (1024 : Int) < (L.length : Int) then (1024 : Int) else (L.length : Int))) (L.length : Int)) - 0 = min 1024 L.length := by
    simp only [Option.getD_some]
    split <;> omega
  have hses : F_samplesErr (L.take (min 1024 L.length)) = some (sesE (L.take (min 1024 L.length))) := samplesErrF_eq (by simp; omega)
  unfold F_RunAll
  rw [if_pos (by omega), if_pos (by simp only [Option.getD_none, Option.getD_some]; split <;> omega), hmin, List.drop_zero, hses, bind_some', if_pos (by simp)]
  have hfind : (Option.getD (List.find? (fun x => x != (0 : Int)) [chkE c, if decide ((L.length : Int) ≤ (1024 : Int)) = true then (0 : Int) else (8 : Int), sesE (L.take (min 1024 L.length))]) (0 : Int)) = raE c L := by
    have hd : (if decide ((L.length : Int) ≤ (1024 : Int)) = true then (0 : Int) else (8 : Int)) = if L.length > 1024 then 8 else 0 := by
      by_cases h2 : L.length > 1024
      · rw [if_pos h2, if_neg (by rw [decide_eq_true_eq]; omega)]
      · rw [if_neg h2, if_pos (by rw [decide_eq_true_eq]; omega)]
    rw [hd]
    unfold raE
    by_cases h1 : chkE c = 0
    · rw [if_neg (show ¬ chkE c ≠ 0 by omega), h1]
      by_cases h2 : L.length > 1024
      · rw [if_pos h2, if_pos h2]
        rfl
      · rw [if_neg h2, if_neg h2, Nat.min_eq_right (by omega), List.take_length]
        by_cases hs : sesE L = 0
        · rw [hs]; rfl
        · have : (sesE L != 0) = true := by simpa using hs
          simp [List.find?_cons, this]
    · rw [if_pos h1]
      have : (chkE c != 0) = true := by simpa using h1
      simp [List.find?_cons, this]
  rw [hfind]
  by_cases hE : raE c L = 0
  · rw [if_neg (by simp [hE]), if_pos hE]
    have hc0 : chkE c = 0 := by
      unfold raE at hE
      by_cases h : chkE c = 0
      · exact h
      · rw [if_pos h] at hE; exact hE
    have hl0 : L.length ≤ 1024 := by
      unfold raE at hE
      rw [if_neg (by omega)] at hE
      split at hE
      · omega
      · omega
    have hs0 : ∀ b ∈ L, se b = 0 := by
      unfold raE at hE
      rw [if_neg (by omega), if_neg (by omega)] at hE
      exact sesE_zero hE
    rw [if_pos (by omega), if_pos (by simp; omega)]
    have hu0 : mkUs c (List.replicate (Int.toNat (c.length : Int)) [(0 : Int), (0 : Int), (0 : Int), (0 : Int)]) (c.length) = us0 c := by simp [us0]
    rw [hu0]
    have hok := us0_ok hc0
    have hx : ∀ x ∈ L.map fi, inR x := by
      intro x hx
      obtain ⟨b, hb, rfl⟩ := List.mem_map.1 hx
      exact (se_whole (hs0 b hb)).2
    have hul : (us0 c).length = c.length := by simp [us0, mkUs]
    have hstep : ∀ i, i < L.length → F_RunAll_b0 L ((i : Int), endU (us0 c) ((L.map fi).take i), (outsU (us0 c) ((L.map fi).take i)).map nf) =
        some (.inl (((i + 1 : Nat) : Int), endU (us0 c) ((L.map fi).take (i + 1)), (outsU (us0 c) ((L.map fi).take (i + 1))).map nf)) := by
      intro i hi
      have hb : se (L.getD i 0) = 0 := by rw [getD_eq hi]; exact hs0 _ (List.getElem_mem hi)
      have hw := se_whole hb
      obtain ⟨t1, t2⟩ := endU_take (us := us0 c) (l := L.map fi) (i := i) (by simpa using hi)
      have hg : (L.map fi).getD i 0 = f2i .f32 (L.getD i 0) := by
        rw [getD_eq (by simpa using hi), getD_eq hi]
        simp [fi]
      rw [hg] at t1 t2
      have hol : ((outsU (us0 c) ((L.map fi).take i)).map nf).length ≤ 1024 := by simp [outsU_length]; omega
      have hR : inR (f2i .f32 (L.getD i 0)) := hw.2
      unfold F_RunAll_b0
      dsimp only
      rw [if_pos (by omega), if_pos (by omega), if_pos (by omega), Int.toNat_natCast, if_pos hw.1, if_pos ⟨by rw [endU_length, hul]; omega, fun u hu => okUk_okU (endU_ok hok (fun x hx' => hx x (List.mem_of_mem_take hx')) u hu) (by simp; omega), hR.1, hR.2⟩,
        if_pos (by simp only [List.length_cons, List.length_nil]; omega), wr64 (by omega), t1, t2]
      rw [List.map_append]
      rfl
    have hit : iter (F_RunAll_b0 L) big (0, us0 c, []) = some (endU (us0 c) (L.map fi), (outsU (us0 c) (L.map fi)).map nf) := iter_upto (body := F_RunAll_b0 L) (fun i => ((i : Int), endU (us0 c) ((L.map fi).take i), (outsU (us0 c) ((L.map fi).take i)).map nf)) (y := (endU (us0 c) (L.map fi), (outsU (us0 c) (L.map fi)).map nf)) (k := L.length) hstep (by
      unfold F_RunAll_b0
      dsimp only
      rw [if_neg (by omega)]
      rw [show (L.map fi).take L.length = L.map fi by rw [List.take_of_length_le (by simp)]]) (by omega)
    rw [hit, bind_some']
    unfold F_RunAll_r0
    have hend := endU_ok hok hx
    rw [cuts_eq (by rw [endU_length, hul]; have := (chkE_ok hc0).1; omega) (fun u hu => by have := okUk_okU (hend u hu) (by simp; omega); exact ⟨this.2.2.2.1, this.2.2.2.2⟩), bind_some']
  · rw [if_pos (by simpa using hE), if_neg hE]

end Go.Sh

namespace Go.Sh
open Go Go.Proofs Go.RowKit Go.Sx Go.Sx06

/-! ### lists of units, up to their counters -/

theorem getD_map {α β : Type} (f : α → β) (l : List α) (k : Nat) (d : α) (e : β) (h : k < l.length) : (l.map f).getD k e = f (l.getD k d) := by
  simp [List.getD, h]

theorem st0 (c : List (List Int)) : StOf (List.replicate c.length [(0 : Int), 0, 0, 0]) (us0 c) := mkUs_st (by simp)

/-! ### states -/

end Go.Sh

namespace Go.Sh
open Go Go.Proofs Go.RowKit Go.Sx Go.Sx06

def roomU (u : List Int) : Int := roomS (u.getD 3 0) (u.getD 4 0)
def bndU (u : List Int) (m : Int) : Int := boundS (u.getD 0 0) (u.getD 1 0) (u.getD 2 0) (u.getD 3 0) (u.getD 4 0) m
def inB (m x : Int) : Prop := -m ≤ x ∧ x ≤ m

theorem mul_le_abs {b x m : Int} (h : inB m x) : -(max b (-b) * m) ≤ b * x ∧ b * x ≤ max b (-b) * m := by
  obtain ⟨h1, h2⟩ := h
  by_cases hb : 0 ≤ b
  · rw [Int.max_eq_left (by omega)]
    refine ⟨?_, Int.mul_le_mul_of_nonneg_left h2 hb⟩
    rw [← Int.mul_neg]
    exact Int.mul_le_mul_of_nonneg_left h1 hb
  · rw [Int.max_eq_right (by omega)]
    have e : b * x = -b * -x := by simp [Int.neg_mul, Int.mul_neg]
    rw [e]
    refine ⟨?_, Int.mul_le_mul_of_nonneg_left (by omega) (by omega)⟩
    rw [← Int.mul_neg]
    exact Int.mul_le_mul_of_nonneg_left (by omega) (by omega)

theorem bnd_range {u : List Int} {m : Int} (hr : 0 < roomU u) (h0 : 0 ≤ m) : 0 ≤ bndU u m ∧ bndU u m ≤ 32767 := by
  have := boundR_range (r := u) (m := m) hr h0
  exact this

/-- One output stays within its bound; where the bound is below the greatest sample nothing is cut. -/
theorem out_bound {u : List Int} {m x : Int} (hr : 0 < roomU u) (h0 : 0 ≤ m) (hx : inB m x) (h5 : inB m (u.getD 5 0)) (h6 : inB m (u.getD 6 0)) (h7 : inB (bndU u m) (u.getD 7 0)) (h8 : inB (bndU u m) (u.getD 8 0)) :
    inB (bndU u m) (outU u x) ∧ (bndU u m < 32767 → outU u x = rawU u x) := by
  have hB := bnd_range hr h0
  have hout := outU_range u x
  have ho : outU u x = max (-32767) (min 32767 (rawU u x)) := rfl
  have hb : bndU u m = min 32767 ((inS (u.getD 0 0) (u.getD 1 0) (u.getD 2 0) * m + 8192) / roomU u) := by
    unfold bndU boundS
    rw [if_neg (by unfold roomU at hr; omega)]
    rfl
  by_cases hbig : bndU u m = 32767
  · refine ⟨?_, fun h => by omega⟩
    unfold inB
    rw [hbig]
    exact hout
  · have hq : bndU u m = (inS (u.getD 0 0) (u.getD 1 0) (u.getD 2 0) * m + 8192) / roomU u := by omega
    have e1 : rawU u x = (2 * (u.getD 0 0 * x + u.getD 1 0 * u.getD 5 0 + u.getD 2 0 * u.getD 6 0 - u.getD 3 0 * u.getD 7 0 - u.getD 4 0 * u.getD 8 0) + 16384) / 32768 := rfl
    have p0 := mul_le_abs (b := u.getD 0 0) hx
    have p1 := mul_le_abs (b := u.getD 1 0) h5
    have p2 := mul_le_abs (b := u.getD 2 0) h6
    have p3 := mul_le_abs (b := u.getD 3 0) h7
    have p4 := mul_le_abs (b := u.getD 4 0) h8
    have hd := Int.ediv_mul_le (inS (u.getD 0 0) (u.getD 1 0) (u.getD 2 0) * m + 8192) (b := roomU u) (by omega)
    have hl := Int.lt_ediv_add_one_mul_self (inS (u.getD 0 0) (u.getD 1 0) (u.getD 2 0) * m + 8192) hr
    rw [← hq] at hd hl
    have e2 : inS (u.getD 0 0) (u.getD 1 0) (u.getD 2 0) * m = max (u.getD 0 0) (-u.getD 0 0) * m + max (u.getD 1 0) (-u.getD 1 0) * m + max (u.getD 2 0) (-u.getD 2 0) * m := by
      unfold inS; rw [Int.add_mul, Int.add_mul]
    have e3 : bndU u m * roomU u = bndU u m * 16384 - max (u.getD 3 0) (-u.getD 3 0) * bndU u m - max (u.getD 4 0) (-u.getD 4 0) * bndU u m := by
      unfold roomU roomS
      rw [Int.mul_sub, Int.mul_sub, Int.mul_comm (bndU u m) (max (u.getD 3 0) _), Int.mul_comm (bndU u m) (max (u.getD 4 0) _)]
    have e4 : (bndU u m + 1) * roomU u = bndU u m * roomU u + roomU u := by rw [Int.add_mul]; omega
    have hroom : roomU u ≤ 16384 := by unfold roomU roomS; omega
    rw [e4, e2] at hl
    rw [e3] at hl hd
    clear hb hq
    generalize u.getD 0 0 * x = t0 at *
    generalize u.getD 1 0 * u.getD 5 0 = t1 at *
    generalize u.getD 2 0 * u.getD 6 0 = t2 at *
    generalize u.getD 3 0 * u.getD 7 0 = t3 at *
    generalize u.getD 4 0 * u.getD 8 0 = t4 at *
    generalize max (u.getD 0 0) (-u.getD 0 0) * m = q0 at *
    generalize max (u.getD 1 0) (-u.getD 1 0) * m = q1 at *
    generalize max (u.getD 2 0) (-u.getD 2 0) * m = q2 at *
    generalize max (u.getD 3 0) (-u.getD 3 0) * bndU u m = q3 at *
    generalize max (u.getD 4 0) (-u.getD 4 0) * bndU u m = q4 at *
    generalize bndU u m = B at *
    have hraw : -B ≤ rawU u x ∧ rawU u x ≤ B := by
      rw [e1]
      omega
    unfold inB
    refine ⟨by omega, fun _ => by omega⟩

/-- Units within bounds. -/
def BU : List (List Int) → Int → Prop
  | [], _ => True
  | u :: us, m => 0 < roomU u ∧ inB m (u.getD 5 0) ∧ inB m (u.getD 6 0) ∧ inB (bndU u m) (u.getD 7 0) ∧ inB (bndU u m) (u.getD 8 0) ∧ BU us (bndU u m)
def bEnd : List (List Int) → Int → Int
  | [], m => m
  | u :: us, m => bEnd us (bndU u m)
def small : List (List Int) → Int → Prop
  | [], _ => True
  | u :: us, m => bndU u m < 32767 ∧ small us (bndU u m)

theorem bu_put : ∀ {us : List (List Int)} {m x : Int}, 0 ≤ m → BU us m → inB m x → BU (putUs us x) m ∧ inB (bEnd us m) (outUs us x) ∧ bEnd (putUs us x) m = bEnd us m ∧ (small us m → small (putUs us x) m ∧ cutsU (putUs us x) = cutsU us)
  | [], m, x, _, _, hx => ⟨trivial, hx, rfl, fun _ => ⟨trivial, rfl⟩⟩
  | u :: us, m, x, h0, h, hx => by
    obtain ⟨hr, h5, h6, h7, h8, hus⟩ := h
    obtain ⟨ho, hcut⟩ := out_bound hr h0 hx h5 h6 h7 h8
    have hB := bnd_range hr h0
    obtain ⟨i1, i2, i3, i4⟩ := bu_put hB.1 hus ho
    refine ⟨⟨hr, hx, h5, ho, h7, i1⟩, i2, i3, fun ⟨s1, s2⟩ => ?_⟩
    obtain ⟨j1, j2⟩ := i4 s2
    refine ⟨⟨s1, j1⟩, ?_⟩
    have e1 : (putU u x).getD 9 0 = u.getD 9 0 + if outU u x = rawU u x then 0 else 1 := rfl
    simp only [putUs, cutsU, e1, if_pos (hcut s1), j2]
    omega

theorem bu_end : ∀ {us : List (List Int)} {m : Int} {l : List Int}, 0 ≤ m → BU us m → (∀ x ∈ l, inB m x) → (∀ y ∈ outsU us l, inB (bEnd us m) y) ∧ (small us m → cutsU (endU us l) = cutsU us)
  | us, m, [], _, _, _ => ⟨(fun _ h => by cases h), fun _ => rfl⟩
  | us, m, x :: l, h0, h, hx => by
    obtain ⟨h1, h2, h3, h4⟩ := bu_put h0 h (hx x List.mem_cons_self)
    obtain ⟨i1, i2⟩ := bu_end h0 h1 (fun y hy => hx y (List.mem_cons_of_mem _ hy))
    refine ⟨fun y hy => ?_, fun hs => ?_⟩
    · rcases List.mem_cons.1 hy with rfl | hy
      · exact h2
      · have := i1 y hy; rwa [h3] at this
    · obtain ⟨j1, j2⟩ := h4 hs
      show cutsU (endU (putUs us x) l) = _
      rw [i2 j1, j2]

theorem bAt_cons (r : List Int) (c : List (List Int)) (m : Int) : ∀ i, bAt (r :: c) m (i + 1) = bAt c (boundR r m) i
  | 0 => rfl
  | i + 1 => by
    show boundR ((r :: c).getD (i + 1) []) (bAt (r :: c) m (i + 1)) = _
    rw [bAt_cons r c m i]
    rfl

theorem us0_cons (r : List Int) (c : List (List Int)) : us0 (r :: c) = mkU r [0, 0, 0, 0] :: us0 c := by
  unfold us0 mkUs
  rw [List.length_cons, List.range_succ_eq_map, List.map_cons, List.map_map]
  congr 1
  all_goals
    apply List.map_congr_left
    intro i hi
    simp [List.getD, List.replicate_succ]

theorem bu_us0 : ∀ {c : List (List Int)} {m : Int}, 0 ≤ m → (∀ r ∈ c, 0 < roomR r) → BU (us0 c) m ∧ bEnd (us0 c) m = bAt c m c.length ∧ ((∀ i, i < c.length → bAt c m (i + 1) < 32767) → small (us0 c) m)
  | [], m, _, _ => ⟨trivial, rfl, fun _ => trivial⟩
  | r :: c, m, h0, hr => by
    have hr0 : 0 < roomU (mkU r [0, 0, 0, 0]) := hr r List.mem_cons_self
    have hB := bnd_range hr0 h0
    have hb : bndU (mkU r [0, 0, 0, 0]) m = boundR r m := rfl
    obtain ⟨i1, i2, i3⟩ := bu_us0 (c := c) (m := boundR r m) (by rw [← hb]; exact hB.1) (fun q hq => hr q (List.mem_cons_of_mem _ hq))
    rw [us0_cons]
    have hz : ∀ b : Int, 0 ≤ b → inB b 0 := fun b hb => by unfold inB; omega
    refine ⟨⟨hr0, hz _ h0, hz _ h0, hz _ hB.1, hz _ hB.1, i1⟩, ?_, fun hs => ⟨?_, i3 fun i hi => ?_⟩⟩
    · show bEnd (us0 c) (boundR r m) = _
      rw [i2, List.length_cons, bAt_cons]
    · have := hs 0 (by simp)
      rw [bAt_cons] at this
      exact this
    · have := hs (i + 1) (by simpa using hi)
      rw [bAt_cons] at this
      exact this

theorem bAt_take (c : List (List Int)) (m : Int) (k : Nat) : ∀ i, i ≤ k → i ≤ c.length → bAt (c.take k) m i = bAt c m i
  | 0, _, _ => rfl
  | i + 1, h1, h2 => by
    show boundR ((c.take k).getD i []) (bAt (c.take k) m i) = boundR (c.getD i []) (bAt c m i)
    rw [bAt_take c m k i (by omega) (by omega)]
    congr 1
    simp [List.getD, List.getElem?_take, show i < k by omega]

theorem cb_ok {c : List (List Int)} {m : Int} (h : cbE c m = 0) : chkE c = 0 ∧ (0 ≤ m ∧ m ≤ 32767) ∧ (∀ r ∈ c, 0 < roomR r) ∧ cbN c m = bAt c m c.length := by
  have hN : cbN c m = bAt c m c.length := by unfold cbN; rw [if_pos h]
  unfold cbE at h
  split at h
  · rename_i h1; exact absurd h h1
  · split at h
    · cases h
    · split at h
      · cases h
      · rename_i h1 h2 h3
        refine ⟨by omega, by omega, fun r hr => ?_, hN⟩
        simp only [List.any_eq_true, decide_eq_true_eq, not_exists, not_and] at h3
        have := h3 r hr
        omega

/-- A number of a bounded list. -/
def modS (m n : Int) : Int := (if Int.tmod n (2 * m + 1) < 0 then Int.tmod n (2 * m + 1) + (2 * m + 1) else Int.tmod n (2 * m + 1)) - m
theorem modS_in {m n : Int} (h : 0 ≤ m) : inB m (modS m n) := by
  have hb := tmod_bounds (n := n) (b := 2 * m + 1) (by omega)
  unfold modS inB
  split <;> omega

theorem filterBounded_true {c : List (List Int)} {l : List Int} (m : Int) (hc : c.length ≤ 1000000000000000) : L06_FilterBounded c l m = some true := by
  unfold L06_FilterBounded
  rw [few_eq, bind_some']
  by_cases h8 : ¬ (c.length : Int) ≤ 8
  · rw [if_pos (by simp; omega)]
  rw [if_neg (by simp; omega)]
  replace h8 : (c.length : Int) ≤ 8 := by omega
  by_cases h1 : (l.length : Int) > 100
  · rw [if_pos h1]
  rw [if_neg h1]
  by_cases h2 : ¬ (0 ≤ m ∧ m ≤ 32767)
  · rw [if_pos (by simp; omega)]
  replace h2 : 0 ≤ m ∧ m ≤ 32767 := by omega
  rw [if_neg (by simp; omega), copy_eq (by omega), bind_some', if_pos (by omega)]
  by_cases hE : ¬ cbE c m = 0
  · rw [if_pos (by simpa using hE)]
    have : cbN c m = 0 := by unfold cbN; rw [if_neg hE]
    rw [this]
    rfl
  replace hE : cbE c m = 0 := by omega
  rw [if_neg (by rw [hE]; decide)]
  obtain ⟨hchk, _, hroom, hN⟩ := cb_ok hE
  have hit : iter (L06_FilterBounded_b0 l m) big (0, []) = some (l.map fun n => nf (modS m n)) := iter_map l 0 (fun n => nf (modS m n)) (by omega) (fun i hi o ho => by
    unfold L06_FilterBounded_b0
    dsimp only
    have hw : IntKind.i64.wrap (IntKind.i64.wrap (2 * m) + 1) = 2 * m + 1 := by rw [wr64 (x := 2 * m) (by omega), wr64 (x := 2 * m + 1) (by omega)]
    have hb := tmod_bounds (n := l.getD i 0) (b := 2 * m + 1) (by omega)
    have hmod : B_Mod (l.getD i 0) (2 * m + 1) = some (modS m (l.getD i 0) + m) := by
      unfold B_Mod modS
      rw [if_pos (by omega)]
      split
      · rw [wr64 (by omega)]; congr 1; omega
      · congr 1; omega
    have hin := modS_in (m := m) (n := l.getD i 0) h2.1
    unfold inB at hin
    rw [if_pos (by omega), if_pos (by omega), if_pos (by omega), Int.toNat_natCast, hw, hmod, bind_some', show modS m (l.getD i 0) + m - m = modS m (l.getD i 0) by omega, wr64 (x := modS m (l.getD i 0)) (by omega), if_pos (by simp only [List.length_cons, List.length_nil]; omega), wr64 (by omega)]
    rfl) (fun o => by unfold L06_FilterBounded_b0; dsimp only; rw [if_neg (by omega)])
  rw [hit, bind_some']
  unfold L06_FilterBounded_r0
  rw [copy_eq (by omega), bind_some']
  have hin : ∀ x ∈ l.map (modS m), inB m x := fun x hx => by
    obtain ⟨n, _, rfl⟩ := List.mem_map.1 hx
    exact modS_in h2.1
  have hfi : (l.map fun n => nf (modS m n)).map fi = l.map (modS m) := by
    rw [List.map_map]
    apply List.map_congr_left
    intro n _
    have := modS_in (m := m) (n := n) h2.1
    unfold inB at this
    exact fi_nf (by omega)
  have hse : sesE (l.map fun n => nf (modS m n)) = 0 := sesE_ne fun b hb => by
    obtain ⟨n, _, rfl⟩ := List.mem_map.1 hb
    have := modS_in (m := m) (n := n) h2.1
    unfold inB at this
    rw [se_nf (by omega), if_pos (by unfold inR; omega)]
  have hra : raE c (l.map fun n => nf (modS m n)) = 0 := by
    unfold raE
    rw [if_neg (by omega), if_neg (by simp; omega), hse]
  have hrun := runAll_eq (c := c) (L := l.map fun n => nf (modS m n)) (by omega) (by simp; omega)
  rw [if_pos hra, hfi] at hrun
  rw [hrun, bind_some']
  dsimp only
  rw [if_neg (by decide), if_neg (by simp [outsU_length])]
  obtain ⟨b1, b2, b3⟩ := bu_us0 h2.1 hroom
  obtain ⟨o1, o2⟩ := bu_end h2.1 b1 hin
  rw [b2, ← hN] at o1
  have hNr := bAt_range (c := c) (m := m) h2.1 h2.2 c.length (Nat.le_refl _) (fun r hr => hroom r (List.mem_of_mem_take hr))
  rw [← hN] at hNr
  -- the bounds of all sections
  obtain ⟨y, hy, hyp⟩ := iter_spec (body := L06_FilterBounded_b1 c m) (fun z : Bool × Int => ∃ i : Nat, z.2 = (i : Int) ∧ i ≤ c.length ∧ (z.1 = true → ∀ j, j < i → cbE (c.take (j + 1)) m = 0 ∧ cbN (c.take (j + 1)) m < 32767)) (fun z => c.length - z.2.toNat)
    (fun y : Bool => y = true → ∀ j, j < c.length → cbE (c.take (j + 1)) m = 0 ∧ cbN (c.take (j + 1)) m < 32767) (by
    rintro ⟨bl, i'⟩ ⟨i, hi', hi, hall⟩
    dsimp only at hi' hall ⊢
    subst hi'
    unfold L06_FilterBounded_b1
    dsimp only
    by_cases hlt : i < c.length
    · left
      have hw : IntKind.i64.wrap ((i : Int) + 1) = ((i + 1 : Nat) : Int) := by rw [wr64 (by omega)]; rfl
      rw [if_pos (by omega), hw, if_pos (by simp only [Option.getD_none, Option.getD_some]; omega)]
      simp only [Option.getD_some, Int.toNat_natCast, Nat.sub_zero, List.drop_zero]
      rw [copy_eq (by simp; omega), bind_some', if_pos (by simp; omega)]
      have hmu : c.length - (i + 1) < c.length - i := by omega
      cases bl with
      | false => exact ⟨_, rfl, ⟨i + 1, rfl, by omega, fun h => by cases h⟩, by simpa using hmu⟩
      | true =>
        rw [if_pos rfl]
        by_cases he : cbE (c.take (i + 1)) m = 0
        · rw [if_pos (by rw [he]; rfl)]
          refine ⟨_, rfl, ⟨i + 1, rfl, by omega, fun h j hj => ?_⟩, by simpa using hmu⟩
          by_cases hji : j = i
          · subst hji; exact ⟨he, of_decide_eq_true h⟩
          · exact hall rfl j (by omega)
        · rw [if_neg (by simpa using he)]
          exact ⟨_, rfl, ⟨i + 1, rfl, by omega, fun h => by cases h⟩, by simpa using hmu⟩
    · right
      have : i = c.length := by omega
      subst this
      rw [if_neg (by omega)]
      exact ⟨_, rfl, hall⟩) big (true, 0) ⟨0, rfl, Nat.zero_le _, fun _ j hj => by omega⟩ (by show c.length - 0 < big; unfold big; omega)
  rw [hy, bind_some']
  unfold L06_FilterBounded_r1
  have hcuts : y = true → cutsU (endU (us0 c) (l.map (modS m))) = 0 := fun h => by
    have hb3 := b3 fun i hi => by
      obtain ⟨e1, e2⟩ := hyp h i hi
      have := (cb_ok e1).2.2.2
      rw [this, List.length_take, Nat.min_eq_left (by omega), bAt_take c m (i + 1) (i + 1) (Nat.le_refl _) (by omega)] at e2
      exact e2
    rw [o2 hb3, show cutsU (us0 c) = 0 from mkUs_cuts _ _ _]
  have hloop : iter (L06_FilterBounded_b2 m c ((outsU (us0 c) (l.map (modS m))).map nf, cutsU (endU (us0 c) (l.map (modS m))), 0)) big 0 = some (.inr ()) := iter_upto (fun i => (i : Int)) (k := (outsU (us0 c) (l.map (modS m))).length) (fun i hi => by
    have hmem : (outsU (us0 c) (l.map (modS m))).getD i 0 ∈ outsU (us0 c) (l.map (modS m)) := by rw [getD_eq hi]; exact List.getElem_mem hi
    have ho := o1 _ hmem
    unfold inB at ho
    have hg : ((outsU (us0 c) (l.map (modS m))).map nf).getD i 0 = nf ((outsU (us0 c) (l.map (modS m))).getD i 0) := getD_map nf _ i 0 0 hi
    have hll : (outsU (us0 c) (l.map (modS m))).length ≤ 100 := by rw [outsU_length]; simp; omega
    unfold L06_FilterBounded_b2
    dsimp only
    rw [List.length_map, if_pos (by omega), if_pos (by omega), if_pos (by omega), Int.toNat_natCast, hg]
    have hf := f2i_near (n := (outsU (us0 c) (l.map (modS m))).getD i 0) (by omega)
    have hbb : (decide ((0 : Int) - cbN c m ≤ (outsU (us0 c) (l.map (modS m))).getD i 0) && decide ((outsU (us0 c) (l.map (modS m))).getD i 0 ≤ cbN c m)) = true := by
      rw [Bool.and_eq_true, decide_eq_true_eq, decide_eq_true_eq]
      omega
    rw [show ∀ n, nf n = FloatKind.nearest .f32 n from fun _ => rfl, if_pos hf.2, hf.1, wr64 (x := (0 : Int) - cbN c m) (by omega), hbb, if_neg (by decide), wr64 (by omega)]
    rfl) (by unfold L06_FilterBounded_b2; dsimp only; rw [List.length_map, if_neg (by omega)]) (by rw [outsU_length]; simp; omega)
  rw [hloop, bind_some']
  show L06_FilterBounded_r2_1 y _ () = _
  unfold L06_FilterBounded_r2_1
  cases y with
  | false => rfl
  | true => rw [if_neg (by decide)]; dsimp only; rw [hcuts rfl]; rfl

end Go.Sh
