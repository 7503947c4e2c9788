/- Floats of whole numbers: what is read, compared and rounded. -/
import Derived.Test.YtndhdojnlobloaaPl
import Derived.Test.YtndhdojnlobloaaFl
import Derived.Test.YtndhdojnlobloaaMirB
set_option linter.unusedSectionVars false
set_option linter.unusedSimpArgs false
set_option linter.unusedVariables false
namespace Go.Sx
open Ieee Go.Fl

/-- A number's size in units of 2^-K. -/
def mg (K : Nat) (m : Nat) (e : Int) : Nat := m * 2 ^ (e + K).toNat
def sg (s : Bool) (a : Nat) : Int := if s then -(a : Int) else (a : Int)

theorem signed_eq (s : Bool) (m k : Nat) : signed s m k = sg s (m * 2 ^ k) := by
  unfold signed sg
  rw [Nat.shiftLeft_eq]

theorem sg_mul (s : Bool) (a b : Nat) : sg s (a * b) = sg s a * (b : Int) := by
  unfold sg
  cases s <;> simp [Int.neg_mul]

theorem compare_mul {a b : Int} {c : Nat} (hc : 0 < c) : compare (a * (c : Int)) (b * (c : Int)) = compare a b := by
  have hc' : (0 : Int) < (c : Int) := by omega
  rcases Int.lt_trichotomy a b with h | h | h
  · have h1 : a * (c : Int) < b * (c : Int) := Int.mul_lt_mul_of_pos_right h hc'
    rw [Int.compare_eq_lt.2 h1, Int.compare_eq_lt.2 h]
  · subst h; rw [Int.compare_eq_eq.2 rfl, Int.compare_eq_eq.2 rfl]
  · have h1 : b * (c : Int) < a * (c : Int) := Int.mul_lt_mul_of_pos_right h hc'
    rw [Int.compare_eq_gt.2 h1, Int.compare_eq_gt.2 h]

/-- Two numbers are compared by their sizes. -/
theorem order_mg (K : Nat) {s t : Bool} {m n : Nat} {i j : Int} (hi : 0 ≤ i + K) (hj : 0 ≤ j + K) :
    Datum.order (.number s m i) (.number t n j) = some (compare (sg s (mg K m i)) (sg t (mg K n j))) := by
  simp only [Datum.order, signed_eq]
  have key : ∀ (x : Int) (m : Nat), min i j ≤ x → 0 ≤ x + K → mg K m x = m * 2 ^ (x - min i j).toNat * 2 ^ (min i j + K).toNat := by
    intro x m h1 h2
    unfold mg
    rw [Nat.mul_assoc, ← Nat.pow_add]
    congr 2
    omega
  rw [key i m (by omega) hi, key j n (by omega) hj, sg_mul s (m * _), sg_mul t (n * _), compare_mul (Nat.two_pow_pos _)]

/-- A number less itself. -/
theorem sum_self {s : Bool} {m : Nat} {i : Int} : Datum.sum (.number s m i) (Datum.opposite (.number s m i)) = some (.number false 0 i) := by
  simp only [Datum.opposite, Datum.sum, Int.min_self, Int.sub_self, Int.toNat_zero, signed_eq]
  cases s <;> simp [sg] <;> omega

theorem cut_zero_way (s : Bool) (n drop : Nat) : Toward.cut .zero s n drop = n / 2 ^ drop := by
  have h1 : (n / (1 <<< min drop (n.log2 + 2))) = n / 2 ^ drop := by
    rw [Nat.shiftLeft_eq, Nat.one_mul]
    by_cases h : drop ≤ n.log2 + 2
    · rw [Nat.min_eq_left h]
    · rw [Nat.min_eq_right (by omega)]
      have h2 : n < 2 ^ (n.log2 + 1) := Nat.lt_log2_self
      have h3 : 2 ^ (n.log2 + 1) ≤ 2 ^ (n.log2 + 2) := Nat.pow_le_pow_right (by omega) (by omega)
      have h4 : 2 ^ (n.log2 + 2) ≤ 2 ^ drop := Nat.pow_le_pow_right (by omega) (by omega)
      rw [Nat.div_eq_of_lt (by omega), Nat.div_eq_of_lt (by omega)]
  simp [Toward.cut, h1]

/-- A number's whole part. -/
theorem toInt_mg (K : Nat) {s : Bool} {m : Nat} {i : Int} (hi : 0 ≤ i + K) : Datum.toInt .zero (.number s m i) = some (sg s (mg K m i / 2 ^ K)) := by
  simp only [Datum.toInt, Datum.integral, signed_eq, Nat.pow_zero, Nat.mul_one, cut_zero_way, Nat.shiftLeft_eq]
  congr 2
  unfold mg
  by_cases h : 0 ≤ i
  · have e1 : (-i).toNat = 0 := by omega
    have e2 : (i + K).toNat = i.toNat + K := by omega
    rw [e1, e2, Nat.pow_add, Nat.pow_zero, Nat.div_one, ← Nat.mul_assoc, Nat.mul_div_cancel _ (Nat.two_pow_pos K)]
  · have e1 : i.toNat = 0 := by omega
    have e2 : K = (i + K).toNat + (-i).toNat := by omega
    rw [e1, Nat.pow_zero, Nat.mul_one]
    conv => rhs; rhs; rw [e2, Nat.pow_add]
    rw [Nat.mul_comm m, Nat.mul_div_mul_left _ _ (Nat.two_pow_pos _)]

/-- A whole number below 2^24, written as a single float and read back. -/
theorem round32 {s : Bool} {m : Nat} (hm0 : m ≠ 0) (hm : m < 16777216) :
    single.read (single.write (.number s m 0)) = .number s (m * 2 ^ (23 - m.log2)) ((m.log2 : Int) - 23) ∧ m.log2 ≤ 23 := by
  have hl : m.log2 ≤ 23 := by
    have := (Nat.log2_lt hm0 (k := 24)).2 (by omega)
    omega
  refine ⟨?_, hl⟩
  have hlo : 2 ^ m.log2 ≤ m := Nat.log2_self_le hm0
  have hhi : m < 2 ^ (m.log2 + 1) := Nat.lt_log2_self
  have hp : 2 ^ m.log2 * 2 ^ (23 - m.log2) = 8388608 := by rw [← Nat.pow_add, Nat.add_sub_cancel' hl]
  have h1 : 8388608 ≤ m * 2 ^ (23 - m.log2) := by rw [← hp]; exact Nat.mul_le_mul_right _ hlo
  have h2 : m * 2 ^ (23 - m.log2) < 16777216 := by
    have h3 : m * 2 ^ (23 - m.log2) < 2 ^ (m.log2 + 1) * 2 ^ (23 - m.log2) := Nat.mul_lt_mul_of_pos_right hhi (Nat.two_pow_pos _)
    have h4 : 2 ^ (m.log2 + 1) * 2 ^ (23 - m.log2) = 16777216 := by rw [Nat.pow_succ, Nat.mul_assoc, Nat.mul_comm 2, ← Nat.mul_assoc, hp]
    omega
  have e1 : single.signWeight = 2147483648 := rfl
  have e2 : single.binade = 8388608 := rfl
  have e3 : single.infRung = 2139095040 := rfl
  have e4 : single.leastPlace = -149 := rfl
  have e5 : single.fractionBits = 23 := rfl
  have hw : single.write (.number s m 0) = single.word s ((m.log2 + 126) * 8388608 + m * 2 ^ (23 - m.log2)) := by
    simp only [Format.write, Format.nearest, if_neg hm0, e2, e3, e4, e5]
    have hlast : max ((0 : Int) + (m.log2 : Int) - (23 : Nat)) (-149) = (m.log2 : Int) - 23 := by omega
    rw [hlast]
    have ha : ((0 : Int) - ((m.log2 : Int) - 23)).toNat = 23 - m.log2 := by omega
    have hb : (((m.log2 : Int) - 23) - 0).toNat = 0 := by omega
    rw [ha, hb, cut_zero _ _ _ rfl, Nat.shiftLeft_eq]
    have hc : ((m.log2 : Int) - 23 - -149).toNat = m.log2 + 126 := by omega
    rw [hc, Nat.min_eq_left (by omega)]
  rw [hw]
  generalize m * 2 ^ (23 - m.log2) = k at *
  generalize m.log2 = q at *
  have hrd : ∀ r, 8388608 ≤ r → r < 2139095040 → single.read (single.word s r) = .number s (8388608 + r % 8388608) (-149 + (r / 8388608 - 1 : Nat)) := by
    intro r h1 h2
    unfold Format.read Format.word
    simp only [e1, e2, e3, e4]
    cases s
    · simp only [Bool.false_eq_true, if_false]
      have ha : r % 2147483648 = r := Nat.mod_eq_of_lt (by omega)
      have hb : r / 2147483648 = 0 := Nat.div_eq_of_lt (by omega)
      rw [ha, hb, if_neg (by omega), if_pos h2]
      rfl
    · simp only [if_true]
      have ha : (2147483648 + r) % 2147483648 = r := by omega
      have hb : (2147483648 + r) / 2147483648 = 1 := by omega
      rw [ha, hb, if_neg (by omega), if_pos h2]
      rfl
  rw [hrd _ (by omega) (by omega)]
  have ha : 8388608 + ((q + 126) * 8388608 + k) % 8388608 = k := by omega
  have hb : ((q + 126) * 8388608 + k) / 8388608 - 1 = q + 126 := by omega
  have hc : (-149 : Int) + ((q + 126 : Nat) : Int) = (q : Int) - 23 := by omega
  rw [ha, hb, hc]

/-- What a whole number below 2^24 is as a single float. -/
theorem near32 (K : Nat) (hK : 149 ≤ K) {n : Int} (hn : -16777216 < n ∧ n < 16777216) :
    ∃ m e, FloatKind.decode .f32 (FloatKind.nearest .f32 n) = .number (decide (n < 0)) m e ∧ mg K m e = n.natAbs * 2 ^ K ∧ -149 ≤ e := by
  unfold FloatKind.decode FloatKind.nearest FloatKind.encode FloatKind.format
  by_cases h0 : n.natAbs = 0
  · rw [h0]
    have : n = 0 := by omega
    subst this
    exact ⟨0, -149, by rfl, by simp [mg], by omega⟩
  · obtain ⟨h1, h2⟩ := round32 (s := decide (n < 0)) h0 (by omega)
    refine ⟨_, _, h1, ?_, by omega⟩
    unfold mg
    have e1 : ((n.natAbs.log2 : Int) - 23 + K).toNat = K - (23 - n.natAbs.log2) := by omega
    rw [e1, Nat.mul_assoc, ← Nat.pow_add]
    congr 2
    omega

theorem sg_natAbs (n : Int) : sg (decide (n < 0)) n.natAbs = n := by
  unfold sg
  by_cases h : n < 0
  · simp [h]; omega
  · simp [h]; omega

end Go.Sx

namespace Go.Sh
open Go Go.Proofs Go.RowKit Go.Sx Go.Sx06

theorem checkSection_eq (b0 b1 b2 a0 a1 : Int) : R06_CheckSection b0 b1 b2 a0 a1 = some (chkS b0 b1 b2 a0 a1) := by
  have h := iter_first [b0, b1, b2, a0, a1] 0 (fun n => !partB n) (body := R06_CheckSection_b0 b0 b1 b2 a0 a1) (fun _ => .inl ()) (.inr ()) (by simp)
    (fun i hi hp => by
      unfold R06_CheckSection_b0
      rw [if_pos (by omega), if_pos (by omega), if_pos (by omega), if_pos (by simpa [partB] using hp)])
    (fun i hi hp => by
      unfold R06_CheckSection_b0
      rw [if_pos (by omega), if_pos (by omega), if_pos (by omega), if_neg (by simpa [partB] using hp), wr64 (by simp at hi; omega)])
    (by unfold R06_CheckSection_b0; rw [if_neg (by omega)])
  unfold R06_CheckSection
  rw [h]
  unfold chkS
  cases hf : [b0, b1, b2, a0, a1].findIdx? (fun n => !partB n) with
  | none =>
    rw [List.findIdx?_eq_none_iff] at hf
    rw [if_pos (List.all_eq_true.2 fun x hx => by simpa using hf x hx)]
    rfl
  | some k =>
    rw [List.findIdx?_eq_some_iff_getElem] at hf
    obtain ⟨hk, hp, _⟩ := hf
    rw [if_neg (fun hc => by have := List.all_eq_true.1 hc _ (List.getElem_mem hk); rw [this] at hp; cases hp)]
    rfl

theorem few_eq (c : List (List Int)) : L06_few c = some (decide ((c.length : Int) ≤ 8)) := rfl
theorem copy_eq {c : List (List Int)} (h : c.length ≤ 1000000000000) : R06_Copy c = some c := by
  unfold R06_Copy
  rw [if_pos (by omega), List.nil_append]

theorem chkRow_eq (r : List Int) : R06_CheckSection (r.getD 0 0) (r.getD 1 0) (r.getD 2 0) (r.getD 3 0) (r.getD 4 0) = some (chkRow r) := checkSection_eq _ _ _ _ _

theorem checkCascade_eq {c : List (List Int)} (hl : c.length ≤ 1000000000000) : R06_CheckCascade c = some (chkI c, chkE c) := by
  unfold R06_CheckCascade chkI chkE
  by_cases h6 : 6 < c.length
  · rw [if_pos (by omega), if_pos h6, if_pos h6]
  · rw [if_neg (by omega), if_neg h6, if_neg h6]
    have h := iter_first c [] (fun r => chkRow r != 0) (body := R06_CheckCascade_b0 c) (fun i => .inl ((i : Int), chkRow (c.getD i []))) (.inr ()) (by omega)
      (fun i hi hp => by
        unfold R06_CheckCascade_b0
        rw [if_pos (by omega), if_pos (by omega), if_pos (by omega), Int.toNat_natCast, chkRow_eq, bind_some', if_pos hp])
      (fun i hi hp => by
        unfold R06_CheckCascade_b0
        rw [if_pos (by omega), if_pos (by omega), if_pos (by omega), Int.toNat_natCast, chkRow_eq, bind_some', if_neg (by rw [hp]; simp), wr64 (by omega)])
      (by unfold R06_CheckCascade_b0; rw [if_neg (by omega)])
    rw [h]
    cases c.findIdx? (fun r => chkRow r != 0) <;> rfl

theorem floor_eq {n b : Int} (hb : 0 < b) (hn : -9223372036854775807 ≤ n ∧ n ≤ 9223372036854775807) : B_Floor n b = some (n / b) := by
  have h1 := tdiv_bounds (n := n) hb
  have h2 := ediv_bounds (n := n) hb
  unfold B_Floor
  rw [if_pos (by omega), if_pos (by omega), wr64 (x := n.tdiv b) (by omega)]
  split
  · rename_i h
    rw [floor_neg hb h, wr64 (by omega)]
  · rename_i h
    rw [floor_pos hb h]

end Go.Sh

namespace Go.Sh
open Go Go.Proofs Go.RowKit Go.Sx Ieee Go.Fl

def KK : Nat := 1100
def PP : Nat := 2 ^ KK
theorem PP_pos : 0 < PP := Nat.two_pow_pos _

theorem cmp_eq (a b : Int) : (some (compare a b) == some Ordering.eq) = decide (a = b) := by
  rcases Int.lt_trichotomy a b with h | h | h
  · rw [Int.compare_eq_lt.2 h, decide_eq_false (by omega)]; rfl
  · rw [Int.compare_eq_eq.2 h, decide_eq_true h]; rfl
  · rw [Int.compare_eq_gt.2 h, decide_eq_false (by omega)]; rfl
theorem cmp_lt (a b : Int) : (some (compare a b) == some Ordering.lt) = decide (a < b) := by
  rcases Int.lt_trichotomy a b with h | h | h
  · rw [Int.compare_eq_lt.2 h, decide_eq_true h]; rfl
  · rw [Int.compare_eq_eq.2 h, decide_eq_false (by omega)]; rfl
  · rw [Int.compare_eq_gt.2 h, decide_eq_false (by omega)]; rfl
theorem cmp_gt (a b : Int) : (some (compare a b) == some Ordering.gt) = decide (b < a) := by
  rcases Int.lt_trichotomy a b with h | h | h
  · rw [Int.compare_eq_lt.2 h, decide_eq_false (by omega)]; rfl
  · rw [Int.compare_eq_eq.2 h, decide_eq_false (by omega)]; rfl
  · rw [Int.compare_eq_gt.2 h, decide_eq_true h]; rfl

/-- The error of a sample. -/
def seD : Datum → Int
  | .number _ m e => if 16777216 * PP ≤ mg KK m e then 2 else if mg KK m e / PP * PP ≠ mg KK m e then 27 else if mg KK m e / PP ≤ 32767 then 0 else 2
  | _ => 27
def se (b : Nat) : Int := seD (FloatKind.decode .f32 b)

theorem mg_up (m : Nat) (e : Nat) : mg KK m (e : Int) = m * 2 ^ e * PP := by
  unfold mg PP
  rw [Nat.mul_assoc, ← Nat.pow_add]
  congr 2

theorem sg_f (a : Nat) : sg false a = (a : Int) := rfl
theorem sg_t (a : Nat) : sg true a = -(a : Int) := rfl
theorem toIntP {s : Bool} {m : Nat} {i : Int} (hi : 0 ≤ i + KK) : Datum.toInt .zero (.number s m i) = some (sg s (mg KK m i / PP)) := toInt_mg KK hi
theorem near32P {n : Int} (hn : -16777216 < n ∧ n < 16777216) : ∃ m e, FloatKind.decode .f32 (FloatKind.nearest .f32 n) = .number (decide (n < 0)) m e ∧ mg KK m e = n.natAbs * PP ∧ -149 ≤ e := near32 KK (by unfold KK; omega) hn
theorem mg_24 : mg KK 8388608 1 = 16777216 * PP := by
  have := mg_up 8388608 1
  rw [show (8388608 * 2 ^ 1 : Nat) = 16777216 from rfl] at this
  exact this
theorem mg_16 : mg KK 5000000000000000 1 = 10000000000000000 * PP := by
  have := mg_up 5000000000000000 1
  rw [show (5000000000000000 * 2 ^ 1 : Nat) = 10000000000000000 from rfl] at this
  exact this
theorem PP_eq : PP = 2 ^ KK := rfl
attribute [irreducible] PP

theorem sub_self (f : Format) {b : Nat} {s : Bool} {m : Nat} {e : Int} (h : f.read b = .number s m e) : f.sub b b = some 0 := by
  unfold Format.sub
  rw [h, sum_self]
  simp [Format.write, Format.nearest, Format.word]
theorem sub_inf (f : Format) {b : Nat} {s : Bool} (h : f.read b = .infinity s) : f.sub b b = none := by
  unfold Format.sub
  rw [h]
  cases s <;> rfl

theorem sampleErrF_eq (b : Nat) : F_sampleErr b = some (se b) := by
  have hz : Format.order single 0 0 = some .eq := by decide
  unfold F_sampleErr se FloatKind.decode
  simp only [show FloatKind.format .f32 = single from rfl]
  rcases read32 b with ⟨s, m, e, h, hm, he1, he2⟩ | ⟨s, h⟩ | ⟨s, t, h⟩
  · have h1 : single.order b b = some .eq := by
      unfold Format.order
      rw [h, order_mg KK (by unfold KK; omega) (by unfold KK; omega), Int.compare_eq_eq.2 rfl]
    have hA : single.order b 1266679808 = some (compare (sg s (mg KK m e)) ((16777216 * PP : Nat) : Int)) := by
      unfold Format.order
      have hc : single.read 1266679808 = .number false 8388608 1 := by decide
      rw [h, hc, order_mg KK (by unfold KK; omega) (by unfold KK; omega)]
      rw [mg_24]
      first | rw [sg_f] | rw [sg_t]
    have hB : single.order b 3414163456 = some (compare (sg s (mg KK m e)) (-((16777216 * PP : Nat) : Int))) := by
      unfold Format.order
      have hc : single.read 3414163456 = .number true 8388608 1 := by decide
      rw [h, hc, order_mg KK (by unfold KK; omega) (by unfold KK; omega)]
      rw [mg_24]
      first | rw [sg_f] | rw [sg_t]
    have hT : Datum.toInt .zero (FloatKind.decode .f32 b) = some (sg s (mg KK m e / PP)) := by
      unfold FloatKind.decode
      simp only [show FloatKind.format .f32 = single from rfl]
      rw [h, toIntP (by unfold KK; omega)]
    rw [h1, sub_self single h, hA, hB]
    simp only [Option.isSome_some, Option.getD_some, hz, if_true, bne_self_eq_false, Bool.false_eq_true, if_false, cmp_gt, cmp_eq, cmp_lt, h, seD]
    generalize hg : mg KK m e = A at *
    have hP := PP_pos
    have hdm := Nat.div_add_mod A PP
    rw [Nat.mul_comm] at hdm
    have hml := Nat.mod_lt A hP
    have hq : f2i .f32 b = sg s (A / PP) := by unfold f2i; rw [hT]; rfl
    by_cases hbig : 16777216 * PP ≤ A
    · rw [if_pos hbig]
      cases s
      · rw [if_pos]
        simp only [sg, Bool.false_eq_true, if_false, Bool.or_eq_true, decide_eq_true_eq]
        omega
      · rw [if_neg, if_pos]
        · simp only [sg, if_true, Bool.or_eq_true, decide_eq_true_eq]
          omega
        · simp only [sg, if_true, Bool.or_eq_true, decide_eq_true_eq]
          omega
    · rw [if_neg hbig]
      have hd : A / PP < 16777216 := (Nat.div_lt_iff_lt_mul hP).2 (by omega)
      generalize A / PP = Q at *
      generalize A % PP = R at *
      generalize hQP : Q * PP = QP at *
      have hn : -16777216 < sg s Q ∧ sg s Q < 16777216 := by cases s <;> simp only [sg, Bool.false_eq_true, if_false, if_true] <;> omega
      have hok : f2iOk .f32 .i64 b = true := by
        unfold f2iOk
        rw [hT]
        have e1 : IntKind.i64.min = -9223372036854775808 := rfl
        have e2 : IntKind.i64.max = 9223372036854775807 := rfl
        simp only [e1, e2, decide_eq_true_eq]
        omega
      rw [if_neg, if_neg, if_pos hok]
      · obtain ⟨m', e', h3, h4, h5⟩ := near32P hn
        have hC : single.order (FloatKind.nearest .f32 (f2i .f32 b)) b = some (compare (sg s Q * (PP : Int)) (sg s A)) := by
          unfold Format.order
          have h3' : single.read (FloatKind.nearest .f32 (f2i .f32 b)) = .number (decide (sg s Q < 0)) m' e' := by rw [hq]; exact h3
          rw [h3', h, order_mg KK (by unfold KK; omega) (by unfold KK; omega), h4, hg, sg_mul, sg_natAbs]
        rw [hC]
        have hne : (some (compare (sg s Q * (PP : Int)) (sg s A)) != some Ordering.eq) = decide (QP ≠ A) := by
          rw [bne, cmp_eq]
          have : (sg s Q * (PP : Int) = sg s A) ↔ QP = A := by
            rw [← sg_mul, hQP]
            cases s <;> simp only [sg, Bool.false_eq_true, if_false, if_true] <;> omega
          by_cases hw : QP = A
          · rw [decide_eq_true (this.2 hw), decide_eq_false (by omega)]; rfl
          · rw [decide_eq_false (fun h => hw (this.1 h)), decide_eq_true hw]; rfl
        rw [hne, hq]
        by_cases hw : QP = A
        · rw [decide_eq_false (show ¬ (QP ≠ A) by omega), if_neg Bool.false_ne_true, if_neg (show ¬ (QP ≠ A) by omega)]
          rw [if_pos hok]
          have hb : (decide (-32767 ≤ sg s Q) && decide (sg s Q ≤ 32767)) = decide (Q ≤ 32767) := by
            rw [Bool.eq_iff_iff, Bool.and_eq_true, decide_eq_true_eq, decide_eq_true_eq, decide_eq_true_eq]
            cases s <;> simp only [sg, Bool.false_eq_true, if_false, if_true] <;> omega
          simp only [hb, decide_eq_true_eq]
        · rw [decide_eq_true (show QP ≠ A from hw), if_pos rfl, if_pos hw]
      · cases s <;> simp only [sg, Bool.false_eq_true, if_false, if_true, Bool.or_eq_true, decide_eq_true_eq] <;> omega
      · cases s <;> simp only [sg, Bool.false_eq_true, if_false, if_true, Bool.or_eq_true, decide_eq_true_eq] <;> omega
  · have h1 : single.order b b = some .eq := by
      unfold Format.order
      rw [h]
      cases s <;> rfl
    rw [h1, sub_inf single h, h]
    rfl
  · have h1 : single.order b b = none := by
      unfold Format.order
      rw [h]
      rfl
    rw [h1, h]
    rfl

end Go.Sh

namespace Go.Sh
open Go Go.Proofs Go.RowKit Go.Sx Ieee Go.Fl

/-- A number that is single, as a double one. -/
theorem dbl {b : Nat} {s : Bool} {m : Nat} {e : Int} (h : single.read b = .number s m e) (hm : m < 16777216) (he1 : -149 ≤ e) (he2 : e ≤ 104) :
    ∃ m' e', double.read (to64 b) = .number s m' e' ∧ mg KK m' e' = mg KK m e ∧ -1074 ≤ e' ∧ m' < 9007199254740992 := by
  have e0 : to64 b = double.write (.number s m e) := by
    unfold to64 FloatKind.encode FloatKind.decode
    simp only [show FloatKind.format .f32 = single from rfl, show FloatKind.format .f64 = double from rfl, h]
  rw [e0]
  by_cases h0 : m = 0
  · subst h0
    exact ⟨0, -1074, zero64 s e, by simp [mg], by omega, by omega⟩
  · obtain ⟨h1, h2⟩ := round64 (s := s) h0 (by omega) (show -1000 ≤ e by omega) (show e ≤ 900 by omega)
    have hw := write64 (s := s) h0 (by omega) (show -1000 ≤ e by omega) (show e ≤ 900 by omega)
    refine ⟨_, _, h1, ?_, by omega, hw.2.2.2⟩
    unfold mg
    rw [Nat.mul_assoc, ← Nat.pow_add]
    congr 2
    unfold KK
    omega

theorem even_cut {s : Bool} {n : Nat} (h2 : n % 2 = 0) (hn : 2 ≤ n) : Toward.cut .even s n 1 = n / 2 := by
  have hg : (1 <<< min 1 (n.log2 + 2)) = 2 := by rw [Nat.min_eq_left (by omega)]; rfl
  simp [Toward.cut, hg, h2]

/-- A whole number of at most 53 digits, or an even one of 54, as a double float. -/
theorem near64 {n : Int} (hn : n.natAbs < 18014398509481984) (he : 9007199254740992 ≤ n.natAbs → n.natAbs % 2 = 0) :
    ∃ m e, double.read (FloatKind.nearest .f64 n) = .number (decide (n < 0)) m e ∧ mg KK m e = n.natAbs * PP ∧ -1074 ≤ e := by
  have e0 : FloatKind.nearest .f64 n = double.write (.number (decide (n < 0)) n.natAbs 0) := rfl
  rw [e0]
  generalize decide (n < 0) = s
  generalize n.natAbs = a at *
  by_cases h0 : a = 0
  · subst h0
    exact ⟨0, -1074, zero64 s 0, by simp [mg], by omega⟩
  · by_cases hs : a < 9007199254740992
    · obtain ⟨h1, h2⟩ := round64 (s := s) h0 hs (show (-1000 : Int) ≤ 0 by omega) (show (0 : Int) ≤ 900 by omega)
      refine ⟨_, _, h1, ?_, by omega⟩
      rw [PP_eq]; unfold mg
      rw [Nat.mul_assoc, ← Nat.pow_add]
      congr 2
      unfold KK
      omega
    · have hev := he (by omega)
      have hl : a.log2 = 53 := by
        have h1 := (Nat.log2_lt h0 (k := 54)).2 (by omega)
        have h2 : ¬ a.log2 < 53 := fun h => by have := (Nat.log2_lt h0 (k := 53)).1 h; omega
        omega
      have e2 : double.binade = 4503599627370496 := rfl
      have e3 : double.infRung = 9218868437227405312 := rfl
      have e4 : double.leastPlace = -1074 := rfl
      have e5 : double.fractionBits = 52 := rfl
      have hw : double.write (.number s a 0) = double.word s (1075 * 4503599627370496 + a / 2) := by
        simp only [Format.write, Format.nearest, if_neg h0, e2, e3, e4, e5, hl]
        have hlast : max ((0 : Int) + ((53 : Nat) : Int) - ((52 : Nat) : Int)) (-1074) = 1 := by omega
        rw [hlast]
        have ha : ((0 : Int) - 1).toNat = 0 := by omega
        have hb : ((1 : Int) - 0).toNat = 1 := by omega
        rw [ha, hb, Nat.shiftLeft_zero, even_cut hev (by omega)]
        have hc : ((1 : Int) - -1074).toNat = 1075 := by omega
        rw [hc, Nat.min_eq_left (by omega)]
      rw [hw, read_word64 (by omega) (by omega)]
      refine ⟨_, _, rfl, ?_, by omega⟩
      have hb : (1075 * 4503599627370496 + a / 2) / 4503599627370496 - 1 = 1075 := by omega
      have ha : 4503599627370496 + (1075 * 4503599627370496 + a / 2) % 4503599627370496 = a / 2 := by omega
      rw [ha, hb]
      have hc : (-1074 : Int) + ((1075 : Nat) : Int) = ((1 : Nat) : Int) := by omega
      rw [hc, mg_up]
      congr 1
      omega

/-- Is the number whole? -/
theorem isWhole_eq {f : Nat} {s : Bool} {m : Nat} {e : Int} (h : double.read f = .number s m e) (he : -1074 ≤ e) (hm : m < 9007199254740992) :
    B_IsWhole f = some (decide (10000000000000000 * PP < mg KK m e ∨ mg KK m e / PP * PP = mg KK m e)) := by
  have hz : Format.order double 0 0 = some .eq := by decide
  have h1 : double.order f f = some .eq := by
    unfold Format.order
    rw [h, order_mg KK (by unfold KK; omega) (by unfold KK; omega), Int.compare_eq_eq.2 rfl]
  have hA : double.order f 14069741636278059008 = some (compare (sg s (mg KK m e)) (-((10000000000000000 * PP : Nat) : Int))) := by
    unfold Format.order
    have hc : double.read 14069741636278059008 = .number true 5000000000000000 1 := by decide
    rw [h, hc, order_mg KK (by unfold KK; omega) (by unfold KK; omega)]
    rw [mg_16]
    first | rw [sg_f] | rw [sg_t]
  have hB : double.order f 4846369599423283200 = some (compare (sg s (mg KK m e)) ((10000000000000000 * PP : Nat) : Int)) := by
    unfold Format.order
    have hc : double.read 4846369599423283200 = .number false 5000000000000000 1 := by decide
    rw [h, hc, order_mg KK (by unfold KK; omega) (by unfold KK; omega)]
    rw [mg_16]
    first | rw [sg_f] | rw [sg_t]
  have hT : Datum.toInt .zero (FloatKind.decode .f64 f) = some (sg s (mg KK m e / PP)) := by
    unfold FloatKind.decode
    simp only [show FloatKind.format .f64 = double from rfl]
    rw [h, toIntP (by unfold KK; omega)]
  have hq : f2i .f64 f = sg s (mg KK m e / PP) := by unfold f2i; rw [hT]; rfl
  -- an even number, where it has 54 digits
  have hev : 9007199254740992 ≤ mg KK m e / PP → mg KK m e / PP % 2 = 0 := by
    intro hge
    by_cases hp : 0 ≤ e
    · obtain ⟨d, rfl⟩ : ∃ d : Nat, e = d := ⟨e.toNat, by omega⟩
      rw [mg_up, Nat.mul_div_cancel _ PP_pos] at hge ⊢
      cases d with
      | zero => simp at hge; omega
      | succ d => rw [Nat.pow_succ, ← Nat.mul_assoc]; exact Nat.mul_mod_left _ _
    · have hlt : mg KK m e / PP < 9007199254740992 := by
        rw [Nat.div_lt_iff_lt_mul PP_pos]
        rw [PP_eq]; unfold mg
        have h2 : 2 ^ (e + KK).toNat ≤ 2 ^ KK := Nat.pow_le_pow_right (by omega) (by omega)
        calc m * 2 ^ (e + KK).toNat ≤ m * 2 ^ KK := Nat.mul_le_mul_left _ h2
          _ < 9007199254740992 * 2 ^ KK := Nat.mul_lt_mul_of_pos_right hm (Nat.two_pow_pos _)
      omega
  unfold B_IsWhole
  simp only [show FloatKind.format .f64 = double from rfl]
  rw [h1, sub_self double h, hA, hB]
  simp only [Option.isSome_some, Option.getD_some, hz, if_true, bne_self_eq_false, Bool.false_eq_true, if_false, cmp_gt, cmp_eq, cmp_lt]
  generalize hg : mg KK m e = A at *
  have hP := PP_pos
  have hdm := Nat.div_add_mod A PP
  rw [Nat.mul_comm] at hdm
  have hml := Nat.mod_lt A hP
  by_cases hbig : 10000000000000000 * PP < A
  · rw [decide_eq_true (show _ ∨ _ from .inl hbig)]
    cases s
    · rw [if_pos, if_pos]
      · simp only [sg, Bool.false_eq_true, if_false, Bool.not_eq_true', Bool.or_eq_false_iff, decide_eq_false_iff_not]
        omega
      · simp only [sg, Bool.false_eq_true, if_false, Bool.or_eq_true, decide_eq_true_eq]
        omega
    · rw [if_neg]
      simp only [sg, if_true, Bool.or_eq_true, decide_eq_true_eq]
      omega
  · have hd : A / PP ≤ 10000000000000000 := by
      have : A / PP < 10000000000000001 := by rw [Nat.div_lt_iff_lt_mul hP]; omega
      omega
    generalize A / PP = Q at *
    generalize A % PP = R at *
    generalize hQP : Q * PP = QP at *
    rw [if_pos, if_neg]
    · have hok : f2iOk .f64 .i64 f = true := by
        unfold f2iOk
        rw [hT]
        have e1 : IntKind.i64.min = -9223372036854775808 := rfl
        have e2 : IntKind.i64.max = 9223372036854775807 := rfl
        simp only [e1, e2, decide_eq_true_eq]
        cases s <;> simp only [sg, Bool.false_eq_true, if_false, if_true] <;> omega
      rw [if_pos hok]
      have habs : (sg s Q).natAbs = Q := by cases s <;> simp only [sg, Bool.false_eq_true, if_false, if_true] <;> omega
      obtain ⟨m', e', h3, h4, h5⟩ := near64 (n := sg s Q) (by rw [habs]; omega) (by rw [habs]; exact hev)
      have hC : double.order (FloatKind.nearest .f64 (f2i .f64 f)) f = some (compare (sg s Q * (PP : Int)) (sg s A)) := by
        unfold Format.order
        rw [hq, h3, h, order_mg KK (by unfold KK; omega) (by unfold KK; omega), h4, hg, sg_mul, sg_natAbs]
      rw [hC, cmp_eq, ← sg_mul, hQP]
      congr 1
      rw [decide_eq_decide]
      cases s <;> simp only [sg, Bool.false_eq_true, if_false, if_true] <;> omega
    · simp only [Bool.not_eq_true', Bool.or_eq_false_iff, decide_eq_false_iff_not]
      cases s <;> simp only [sg, Bool.false_eq_true, if_false, if_true] <;> omega
    · simp only [Bool.or_eq_true, decide_eq_true_eq]
      cases s <;> simp only [sg, Bool.false_eq_true, if_false, if_true] <;> omega

end Go.Sh

namespace Go.Sh
open Go Go.Proofs Go.RowKit Go.Sx Go.Sx06 Ieee Go.Fl

/-- The error of samples. -/
def sesE (l : List Nat) : Int := match l.findIdx? (fun b => se b != 0) with
  | some i => se (l.getD i 0)
  | none => 0

theorem sesE_zero {l : List Nat} (h : sesE l = 0) : ∀ b ∈ l, se b = 0 := by
  intro b hb
  unfold sesE at h
  cases hf : l.findIdx? (fun b => se b != 0) with
  | none =>
    rw [List.findIdx?_eq_none_iff] at hf
    simpa using hf b hb
  | some i =>
    rw [hf] at h
    rw [List.findIdx?_eq_some_iff_getElem] at hf
    obtain ⟨hk, hp, _⟩ := hf
    have h : se (l.getD i 0) = 0 := h
    rw [show l.getD i 0 = l[i] by simp [List.getD, hk]] at h
    simp [h] at hp

theorem samplesErrF_eq {l : List Nat} (hl : l.length < 1000000000000) : F_samplesErr l = some (sesE l) := by
  unfold F_samplesErr sesE
  have h := iter_first l 0 (fun b => se b != 0) (body := F_samplesErr_b0 l) (fun i => .inl (se (l.getD i 0))) (.inr ()) (by omega)
    (fun i hi hp => by
      unfold F_samplesErr_b0
      rw [if_pos (by omega), if_pos (by omega), if_pos (by omega), Int.toNat_natCast, sampleErrF_eq, bind_some', if_pos hp])
    (fun i hi hp => by
      unfold F_samplesErr_b0
      rw [if_pos (by omega), if_pos (by omega), if_pos (by omega), Int.toNat_natCast, sampleErrF_eq, bind_some', if_neg (by rw [hp]; simp), wr64 (by omega)])
    (by unfold F_samplesErr_b0; rw [if_neg (by omega)])
  rw [h]
  cases l.findIdx? (fun b => se b != 0) <;> rfl

theorem ord_lo {b : Nat} {s : Bool} {m : Nat} {e : Int} (h : single.read b = .number s m e) (he1 : -149 ≤ e) : single.order b 3338665472 = some (compare (sg s (mg KK m e)) (-((32767 * PP : Nat) : Int))) := by
  unfold Format.order
  have hc : single.read 3338665472 = .number true 16776704 (-9) := by decide
  rw [h, hc, order_mg KK (by unfold KK; omega) (by unfold KK; omega)]
  have : mg KK 16776704 (-9) = 32767 * PP := by
    rw [PP_eq]
    unfold mg
    rw [show KK = (-9 + (KK : Int)).toNat + 9 by unfold KK; omega, Nat.pow_add]
    rw [show ((-9 : Int) + (((-9 + (KK : Int)).toNat + 9 : Nat) : Int)).toNat = (-9 + (KK : Int)).toNat by unfold KK; omega]
    generalize 2 ^ (-9 + (KK : Int)).toNat = q
    omega
  rw [this, sg_t]
theorem ord_hi {b : Nat} {s : Bool} {m : Nat} {e : Int} (h : single.read b = .number s m e) (he1 : -149 ≤ e) : single.order b 1191181824 = some (compare (sg s (mg KK m e)) (((32767 * PP : Nat) : Int))) := by
  unfold Format.order
  have hc : single.read 1191181824 = .number false 16776704 (-9) := by decide
  rw [h, hc, order_mg KK (by unfold KK; omega) (by unfold KK; omega)]
  have : mg KK 16776704 (-9) = 32767 * PP := by
    rw [PP_eq]
    unfold mg
    rw [show KK = (-9 + (KK : Int)).toNat + 9 by unfold KK; omega, Nat.pow_add]
    rw [show ((-9 : Int) + (((-9 + (KK : Int)).toNat + 9 : Nat) : Int)).toNat = (-9 + (KK : Int)).toNat by unfold KK; omega]
    generalize 2 ^ (-9 + (KK : Int)).toNat = q
    omega
  rw [this, sg_f]

/-- One sample, by the reference. -/
theorem sampleR {α : Type} (b : Nat) (bad : Int → Option α) (good : Option α) :
    (if isNan32 b = true then bad 27 else Option.bind (B_IsWhole (to64 b)) fun r0 => if (!r0) = true then bad 27 else
      if (Format.order (FloatKind.format .f32) b 3338665472 == some Ordering.lt) = true then bad 2 else
      if (Format.order (FloatKind.format .f32) b 1191181824 == some Ordering.gt) = true then bad 2 else good) = if se b ≠ 0 then bad (se b) else good := by
  simp only [show FloatKind.format .f32 = single from rfl]
  have hdec : FloatKind.decode .f32 b = single.read b := rfl
  unfold isNan32 se
  rw [hdec]
  rcases read32 b with ⟨s, m, e, h, hm, he1, he2⟩ | ⟨s, h⟩ | ⟨s, t, h⟩
  · obtain ⟨m', e', h1, h2, h3, h4⟩ := dbl h hm he1 he2
    -- a great number is whole
    have hw : 16777216 * PP ≤ mg KK m e → mg KK m e / PP * PP = mg KK m e := by
      intro hge
      by_cases hp : 0 ≤ e
      · obtain ⟨d, rfl⟩ : ∃ d : Nat, e = d := ⟨e.toNat, by omega⟩
        rw [mg_up, Nat.mul_div_cancel _ PP_pos]
      · exfalso
        have : mg KK m e < 16777216 * PP := by
          rw [PP_eq]
          unfold mg
          have h2 : 2 ^ (e + KK).toNat ≤ 2 ^ KK := Nat.pow_le_pow_right (by omega) (by omega)
          calc m * 2 ^ (e + KK).toNat ≤ m * 2 ^ KK := Nat.mul_le_mul_left _ h2
            _ < 16777216 * 2 ^ KK := Nat.mul_lt_mul_of_pos_right hm (Nat.two_pow_pos _)
        omega
    have hW := isWhole_eq h1 h3 h4
    have hlo := ord_lo h he1
    have hhi := ord_hi h he1
    have hse : seD (.number s m e) = if 16777216 * PP ≤ mg KK m e then 2 else if mg KK m e / PP * PP ≠ mg KK m e then 27 else if mg KK m e / PP ≤ 32767 then 0 else 2 := rfl
    rw [h2] at hW
    have hnn : (Datum.number s m e).isNaN = false := rfl
    rw [h, hse, hnn, hW, bind_some', hlo, hhi, cmp_lt, cmp_gt]
    clear h h1 h2 h3 h4 hW hlo hhi hse hnn
    rw [if_neg Bool.false_ne_true]
    obtain ⟨A, hA⟩ : ∃ A, A = mg KK m e := ⟨_, rfl⟩
    rw [← hA] at hw ⊢
    clear hA
    have hP := PP_pos
    have hdm := Nat.div_add_mod A PP
    rw [Nat.mul_comm] at hdm
    have hml := Nat.mod_lt A hP
    have hq1 : A / PP ≤ 32767 ↔ A < 32768 * PP := by
      rw [← Nat.div_lt_iff_lt_mul hP]
      omega
    have hq2 : A / PP * PP = A → (A / PP ≤ 32767 ↔ A ≤ 32767 * PP) := by
      intro hh
      constructor
      · intro h; rw [← hh]; exact Nat.mul_le_mul_right _ h
      · intro h; rw [← hh] at h; exact Nat.le_of_mul_le_mul_right h hP
    generalize A / PP = Q at *
    generalize A % PP = R at *
    generalize hQP : Q * PP = QP at *
    by_cases hbig : 16777216 * PP ≤ A
    · have hww := hw hbig
      rw [if_pos hbig, decide_eq_true (show _ ∨ _ from .inr hww)]
      simp only [Bool.not_true, Bool.false_eq_true, if_false, decide_eq_true_eq]
      rw [if_pos (show (2 : Int) ≠ 0 by omega)]
      cases s
      · rw [if_neg (by rw [sg_f]; omega), if_pos (by rw [sg_f]; omega)]
      · rw [if_pos (by rw [sg_t]; omega)]
    · rw [if_neg hbig]
      by_cases hwh : QP = A
      · rw [decide_eq_true (show _ ∨ _ from .inr hwh), if_neg (show ¬ QP ≠ A by omega)]
        simp only [Bool.not_true, Bool.false_eq_true, if_false, decide_eq_true_eq]
        have hq := hq2 hwh
        by_cases hs : Q ≤ 32767
        · have := hq.1 hs
          rw [if_pos hs, if_neg (show ¬ (0 : Int) ≠ 0 by omega)]
          cases s
          · rw [if_neg (by rw [sg_f]; omega), if_neg (by rw [sg_f]; omega)]
          · rw [if_neg (by rw [sg_t]; omega), if_neg (by rw [sg_t]; omega)]
        · have : ¬ A ≤ 32767 * PP := fun h => hs (hq.2 h)
          rw [if_neg hs, if_pos (show (2 : Int) ≠ 0 by omega)]
          cases s
          · rw [if_neg (by rw [sg_f]; omega), if_pos (by rw [sg_f]; omega)]
          · rw [if_pos (by rw [sg_t]; omega)]
      · rw [decide_eq_false (show ¬ (_ ∨ _) by omega), if_pos (show QP ≠ A from hwh), if_pos (show (27 : Int) ≠ 0 by omega)]
        rfl
  · have h1 : to64 b = double.word s 9218868437227405312 := by
      unfold to64 FloatKind.encode FloatKind.decode
      simp only [show FloatKind.format .f32 = single from rfl, show FloatKind.format .f64 = double from rfl, h]
      rfl
    have h2 : double.read (to64 b) = .infinity s := by rw [h1]; cases s <;> decide
    have h3 : B_IsWhole (to64 b) = some false := by
      have ho : double.order (to64 b) (to64 b) = some .eq := by unfold Format.order; rw [h2]; cases s <;> rfl
      unfold B_IsWhole
      simp only [show FloatKind.format .f64 = double from rfl]
      rw [ho, sub_inf double h2]
      rfl
    rw [h3, h]
    rfl
  · rw [h]
    rfl

theorem samplesErrR_eq {l : List Nat} (hl : l.length < 1000000000000) : R06_SamplesErr l = some (sesE l) := by
  unfold R06_SamplesErr sesE
  have hb : ∀ i, i < l.length → R06_SamplesErr_b0 l (i : Int) = if se (l.getD i 0) ≠ 0 then some (.inr (.inl (se (l.getD i 0)))) else some (.inl ((i : Int) + 1)) := by
    intro i hi
    unfold R06_SamplesErr_b0
    rw [if_pos (by omega), if_pos (by omega), if_pos (by omega), Int.toNat_natCast]
    refine Eq.trans ?_ (sampleR (α := Int ⊕ (Int ⊕ Unit)) (l.getD i 0) (fun e => some (.inr (.inl e))) (some (.inl ((i : Int) + 1))))
    simp only [show (0 : Int) ≤ (i : Int) ∧ (i : Int) < (l.length : Int) by omega, and_self, if_true, hi, wr64 (show -9223372036854775808 ≤ (i : Int) + 1 ∧ (i : Int) + 1 ≤ 9223372036854775807 by omega)]
  have h := iter_first l 0 (fun b => se b != 0) (body := R06_SamplesErr_b0 l) (fun i => .inl (se (l.getD i 0))) (.inr ()) (by omega)
    (fun i hi hp => by rw [hb i hi, if_pos (by simpa using hp)])
    (fun i hi hp => by rw [hb i hi, if_neg (by simpa using hp)])
    (by unfold R06_SamplesErr_b0; rw [if_neg (by omega)])
  rw [h]
  cases l.findIdx? (fun b => se b != 0) <;> rfl

end Go.Sh

namespace Go.Sh
open Go Go.Proofs Go.RowKit Go.Sx Go.Sx06

def endU : List (List Int) → List Int → List (List Int)
  | us, [] => us
  | us, x :: l => endU (putUs us x) l
def outsU : List (List Int) → List Int → List Int
  | _, [] => []
  | us, x :: l => outUs us x :: outsU (putUs us x) l
def cutsU : List (List Int) → Int
  | [] => 0
  | u :: us => u.getD 9 0 + cutsU us

theorem cutsU_append : ∀ a b : List (List Int), cutsU (a ++ b) = cutsU a + cutsU b
  | [], b => by simp [cutsU]
  | u :: a, b => by simp only [List.cons_append, cutsU, cutsU_append a b]; omega
theorem endU_append : ∀ (us : List (List Int)) (a b : List Int), endU us (a ++ b) = endU (endU us a) b
  | _, [], _ => rfl
  | us, x :: a, b => endU_append (putUs us x) a b
theorem outsU_append : ∀ (us : List (List Int)) (a b : List Int), outsU us (a ++ b) = outsU us a ++ outsU (endU us a) b
  | _, [], _ => rfl
  | us, x :: a, b => by simp only [List.cons_append, outsU, endU, outsU_append (putUs us x) a b]
theorem outsU_length : ∀ (us : List (List Int)) (l : List Int), (outsU us l).length = l.length
  | _, [] => rfl
  | us, x :: l => by simp [outsU, outsU_length (putUs us x) l]
theorem endU_length : ∀ (us : List (List Int)) (l : List Int), (endU us l).length = us.length
  | _, [] => rfl
  | us, x :: l => by simp [endU, endU_length (putUs us x) l, putUs_length]
theorem endU_take {us : List (List Int)} {l : List Int} {i : Nat} (hi : i < l.length) : endU us (l.take (i + 1)) = putUs (endU us (l.take i)) (l.getD i 0) ∧
    outsU us (l.take (i + 1)) = outsU us (l.take i) ++ [outUs (endU us (l.take i)) (l.getD i 0)] := by
  rw [take_one hi 0, endU_append, outsU_append]
  exact ⟨rfl, rfl⟩

def inR (x : Int) : Prop := -32767 ≤ x ∧ x ≤ 32767

theorem endU_ok : ∀ {us : List (List Int)} {l : List Int} {k : Int}, (∀ u ∈ us, okUk k u) → (∀ x ∈ l, inR x) → ∀ u ∈ endU us l, okUk (k + l.length) u
  | us, [], k, h, _, u, hu => by simpa using h u hu
  | us, x :: l, k, h, hx, u, hu => by
    have hr := hx x List.mem_cons_self
    have h1 : ∀ v ∈ putUs us x, okUk (k + 1) v := fun v hv => by
      obtain ⟨w, hw, y, hy1, hy2, rfl⟩ := putUs_mem hr.1 hr.2 hv
      exact okUk_put (h w hw) hy1 hy2
    have := endU_ok h1 (fun x hx' => hx x (List.mem_cons_of_mem _ hx')) u hu
    rw [show k + ((x :: l).length : Int) = k + 1 + (l.length : Int) by simp; omega]
    exact this

/-- Units as they stand at a cascade. -/
def SecOf (c us : List (List Int)) : Prop := c.length = us.length ∧ ∀ k j, k < us.length → j < 5 → (c.getD k []).getD j 0 = (us.getD k []).getD j 0
/-- Units as they stand at states. -/
def StOf (s us : List (List Int)) : Prop := s.length = us.length ∧ ∀ k j, k < us.length → j < 4 → (s.getD k []).getD j 0 = (us.getD k []).getD (5 + j) 0

theorem getD_map_range {α : Type} (f : Nat → α) (n k : Nat) (d : α) (h : k < n) : ((List.range n).map f).getD k d = f k := by
  simp [List.getD, h]
theorem mkUs_get {c s : List (List Int)} {n k : Nat} (h : k < n) : (mkUs c s n).getD k [] = mkU (c.getD k []) (s.getD k []) := getD_map_range _ n k [] h

theorem mkUs_sec (c s : List (List Int)) : SecOf c (mkUs c s c.length) := by
  refine ⟨(mkUs_length _ _ _).symm, fun k j hk hj => ?_⟩
  rw [mkUs_length] at hk
  rw [mkUs_get hk]
  match j, hj with
  | 0, _ => rfl
  | 1, _ => rfl
  | 2, _ => rfl
  | 3, _ => rfl
  | 4, _ => rfl
theorem mkUs_st {c s : List (List Int)} (h : s.length = c.length) : StOf s (mkUs c s c.length) := by
  refine ⟨by rw [mkUs_length, h], fun k j hk hj => ?_⟩
  rw [mkUs_length] at hk
  rw [mkUs_get hk]
  match j, hj with
  | 0, _ => rfl
  | 1, _ => rfl
  | 2, _ => rfl
  | 3, _ => rfl
theorem mkUs_cuts (c s : List (List Int)) : ∀ n, cutsU (mkUs c s n) = 0
  | 0 => rfl
  | n + 1 => by rw [mkUs_succ, cutsU_append, mkUs_cuts c s n]; rfl

theorem putUs_sec : ∀ {us : List (List Int)} {x : Int} {k j : Nat}, k < us.length → j < 5 → ((putUs us x).getD k []).getD j 0 = (us.getD k []).getD j 0
  | u :: us, x, 0, j, _, hj => by
    simp only [putUs, List.getD_cons_zero]
    match j, hj with
    | 0, _ => rfl
    | 1, _ => rfl
    | 2, _ => rfl
    | 3, _ => rfl
    | 4, _ => rfl
  | u :: us, x, k + 1, j, h, hj => by
    simp only [putUs, List.getD_cons_succ]
    exact putUs_sec (by simpa using h) hj
theorem secOf_put {c us : List (List Int)} (h : SecOf c us) (x : Int) : SecOf c (putUs us x) :=
  ⟨by rw [putUs_length]; exact h.1, fun k j hk hj => by rw [putUs_length] at hk; rw [putUs_sec hk hj]; exact h.2 k j hk hj⟩
theorem secOf_end : ∀ {us : List (List Int)} {l : List Int} {c : List (List Int)}, SecOf c us → SecOf c (endU us l)
  | _, [], _, h => h
  | us, x :: l, _, h => secOf_end (us := putUs us x) (l := l) (secOf_put h x)

theorem putUs_take : ∀ (us : List (List Int)) (x : Int) (k : Nat), (putUs us x).take k = putUs (us.take k) x
  | [], x, k => by simp [putUs]
  | u :: us, x, 0 => rfl
  | u :: us, x, k + 1 => by simp only [putUs, List.take_succ_cons, putUs_take us _ k]
theorem putUs_get {us : List (List Int)} {x : Int} {k : Nat} (hk : k < us.length) : (putUs us x).getD k [] = putU (us.getD k []) (outUs (us.take k) x) := by
  have h1 : (putUs us x).take (k + 1) = putUs (us.take (k + 1)) x := putUs_take us x (k + 1)
  rw [take_one (by rw [putUs_length]; exact hk) [], take_one hk [], (putUs_snoc _ _ _).1, putUs_take] at h1
  simpa using h1

/-! ### one output, by the reference -/

theorem out_eq {u : List Int} {x : Int} (hu : okU u) (hx : inR x) :
    R06_Out (u.getD 0 0) (u.getD 1 0) (u.getD 2 0) (u.getD 3 0) (u.getD 4 0) (u.getD 5 0) (u.getD 6 0) (u.getD 7 0) (u.getD 8 0) x =
      some (outU u x, !(decide (outU u x = rawU u x)), x, u.getD 5 0, outU u x, u.getD 7 0) := by
  obtain ⟨_, hs, ht, _, _⟩ := hu
  have h0 := mulB (by omega) (by omega) (hs 0 (by omega)) hx
  have h1 := mulB (by omega) (by omega) (hs 1 (by omega)) (ht 5 (by omega) (by omega))
  have h2 := mulB (by omega) (by omega) (hs 2 (by omega)) (ht 6 (by omega) (by omega))
  have h3 := mulB (by omega) (by omega) (hs 3 (by omega)) (ht 7 (by omega) (by omega))
  have h4 := mulB (by omega) (by omega) (hs 4 (by omega)) (ht 8 (by omega) (by omega))
  unfold R06_Out
  have hraw : rawU u x = (2 * (u.getD 0 0 * x + u.getD 1 0 * u.getD 5 0 + u.getD 2 0 * u.getD 6 0 - u.getD 3 0 * u.getD 7 0 - u.getD 4 0 * u.getD 8 0) + 16384) / 32768 := rfl
  have hout : outU u x = max (-32767) (min 32767 (rawU u x)) := rfl
  generalize u.getD 0 0 * x = p0 at *
  generalize u.getD 1 0 * u.getD 5 0 = p1 at *
  generalize u.getD 2 0 * u.getD 6 0 = p2 at *
  generalize u.getD 3 0 * u.getD 7 0 = p3 at *
  generalize u.getD 4 0 * u.getD 8 0 = p4 at *
  rw [wr64 (x := p0) (by omega), wr64 (x := p1) (by omega), wr64 (x := p2) (by omega), wr64 (x := p3) (by omega), wr64 (x := p4) (by omega), wr64 (x := p0 + p1) (by omega), wr64 (x := p0 + p1 + p2) (by omega),
    wr64 (x := p0 + p1 + p2 - p3) (by omega), wr64 (x := p0 + p1 + p2 - p3 - p4) (by omega), wr64 (x := 2 * (p0 + p1 + p2 - p3 - p4)) (by omega), wr64 (x := 2 * (p0 + p1 + p2 - p3 - p4) + 16384) (by omega),
    floor_eq (by omega) (by omega), bind_some', ← hraw]
  unfold R06_isSample
  rw [bind_some']
  generalize rawU u x = r at *
  have e1 : (if (if r < (32767 : Int) then r else (32767 : Int)) > (-32767 : Int) then if r < (32767 : Int) then r else (32767 : Int) else (-32767 : Int)) = outU u x := by
    rw [hout]
    split <;> split at * <;> omega
  rw [e1]
  have e2 : (decide ((-32767 : Int) ≤ r) && decide (r ≤ (32767 : Int))) = decide (outU u x = r) := by
    rw [Bool.eq_iff_iff, Bool.and_eq_true, decide_eq_true_eq, decide_eq_true_eq, decide_eq_true_eq, hout]
    omega
  rw [e2]

theorem wr4 (r : List Int) (a b c d : Int) : wr 4 r 0 [a, b, c, d] = [a, b, c, d] := rfl

/-- One input through the cascade, by the reference. -/
theorem through1_eq {c us s : List (List Int)} {x K : Int} (hc : SecOf c us) (hs : StOf s us) (hu : ∀ u ∈ us, okU u) (hx : inR x) (hl : us.length ≤ 100000) (hK : 0 ≤ K ∧ K ≤ 1000000000000) :
    ∃ y : Int × Int × List (List Int), iter (R06_Through_b1 c) big (K, x, 0, s) = some y ∧ y.1 = K + (cutsU (putUs us x) - cutsU us) ∧ y.2.1 = outUs us x ∧ StOf y.2.2 (putUs us x) := by
  refine iter_spec (fun z : Int × Int × Int × List (List Int) => ∃ k : Nat, z.2.2.1 = (k : Int) ∧ k ≤ us.length ∧ z.1 = K + (cutsU (putUs (us.take k) x) - cutsU (us.take k)) ∧ K ≤ z.1 ∧ z.1 ≤ K + k ∧ z.2.1 = outUs (us.take k) x ∧
      z.2.2.2.length = us.length ∧ ∀ q j, q < us.length → j < 4 → (z.2.2.2.getD q []).getD j 0 = ((if q < k then putUs us x else us).getD q []).getD (5 + j) 0)
    (fun z => us.length - z.2.2.1.toNat) _ ?_ big _ ⟨0, rfl, Nat.zero_le _, by simp [cutsU, putUs], Int.le_refl _, by simp, by simp [outUs], hs.1, fun q j hq hj => by rw [if_neg (by omega)]; exact hs.2 q j hq hj⟩ (by show us.length - 0 < big; unfold big; omega)
  rintro ⟨K', x', k', S⟩ ⟨k, hk', hk, h1, h1a, h1b, h2, h3, h4⟩
  dsimp only at hk' h1 h1a h1b h2 h3 h4 ⊢
  subst hk'
  have hcl := hc.1
  by_cases hlt : k < us.length
  · left
    have hmem : us.getD k [] ∈ us := by rw [getD_eq hlt]; exact List.getElem_mem hlt
    have hok := hu _ hmem
    have hxr : inR x' := by rw [h2]; exact outUs_range _ hx.1 hx.2
    unfold R06_Through_b1
    dsimp only
    rw [if_pos (by omega), if_pos (by omega), if_pos (by omega), if_pos (by omega), if_pos (by omega)]
    simp only [Int.toNat_natCast]
    have hrow : ∀ j, j < 4 → (S.getD k []).getD j 0 = (us.getD k []).getD (5 + j) 0 := fun j hj => by have := h4 k j hlt hj; rwa [if_neg (by omega)] at this
    rw [hc.2 k 0 hlt (by omega), hc.2 k 1 hlt (by omega), hc.2 k 2 hlt (by omega), hc.2 k 3 hlt (by omega), hc.2 k 4 hlt (by omega), hrow 0 (by omega), hrow 1 (by omega), hrow 2 (by omega), hrow 3 (by omega), out_eq hok hxr, bind_some']
    dsimp only
    have hw1 : IntKind.i64.wrap ((k : Int) + 1) = ((k + 1 : Nat) : Int) := by rw [wr64 (by omega)]; rfl
    have hw2 : IntKind.i64.wrap (K' + 1) = K' + 1 := wr64 (by omega)
    have hget := putUs_get (us := us) (x := x) hlt
    rw [← h2] at hget
    have hnew : ∀ (b : Int) (K2 : Int), K2 = K' + b → b = (if outU (us.getD k []) x' = rawU (us.getD k []) x' then 0 else 1) →
        K2 = K + (cutsU (putUs (us.take (k + 1)) x) - cutsU (us.take (k + 1))) ∧ K ≤ K2 ∧ K2 ≤ K + ((k + 1 : Nat) : Int) ∧ outU (us.getD k []) x' = outUs (us.take (k + 1)) x := by
      intro b K2 hK2 hb
      rw [take_one hlt [], (putUs_snoc _ _ _).1, (putUs_snoc _ _ _).2, cutsU_append, cutsU_append, ← h2]
      have e9 : cutsU [putU (us.getD k []) x'] = (us.getD k []).getD 9 0 + b := by
        rw [hb]
        simp [cutsU, putU]
      have e9' : cutsU [us.getD k []] = (us.getD k []).getD 9 0 := by simp [cutsU]
      rw [e9, e9']
      refine ⟨by omega, ?_, ?_, rfl⟩
      · split at hb <;> omega
      · split at hb <;> push_cast <;> omega
    have hst : ∀ q j, q < us.length → j < 4 → ((S.set k (wr 4 (S.getD k []) 0 [x', (us.getD k []).getD 5 0, outU (us.getD k []) x', (us.getD k []).getD 7 0])).getD q []).getD j 0 = ((if q < k + 1 then putUs us x else us).getD q []).getD (5 + j) 0 := by
      intro q j hq hj
      by_cases hqk : q = k
      · subst hqk
        rw [Sx06.getD_set (by omega), wr4, if_pos (by omega), hget]
        match j, hj with
        | 0, _ => rfl
        | 1, _ => rfl
        | 2, _ => rfl
        | 3, _ => rfl
      · have : (S.set k (wr 4 (S.getD k []) 0 [x', (us.getD k []).getD 5 0, outU (us.getD k []) x', (us.getD k []).getD 7 0])).getD q [] = S.getD q [] := by
          simp [List.getD, List.getElem?_set, Ne.symm hqk]
        rw [this, h4 q j hq hj]
        by_cases hlt2 : q < k
        · rw [if_pos hlt2, if_pos (by omega)]
        · rw [if_neg hlt2, if_neg (by omega)]
    by_cases hcut : outU (us.getD k []) x' = rawU (us.getD k []) x'
    · rw [decide_eq_true hcut]
      simp only [Bool.not_true, Bool.false_eq_true, if_false]
      rw [if_pos (by omega), if_pos (by omega), hw1]
      obtain ⟨n1, n2, n3, n4⟩ := hnew 0 K' (by omega) (by rw [if_pos hcut])
      refine ⟨_, rfl, ⟨k + 1, rfl, by omega, n1, n2, n3, n4, by simpa using h3, hst⟩, ?_⟩
      dsimp only
      omega
    · rw [decide_eq_false hcut]
      simp only [Bool.not_false, if_true]
      rw [if_pos (by omega), if_pos (by omega), hw1, hw2]
      obtain ⟨n1, n2, n3, n4⟩ := hnew 1 (K' + 1) rfl (by rw [if_neg hcut])
      refine ⟨_, rfl, ⟨k + 1, rfl, by omega, n1, n2, n3, n4, by simpa using h3, hst⟩, ?_⟩
      dsimp only
      omega
  · right
    have hke : k = us.length := by omega
    subst hke
    unfold R06_Through_b1
    dsimp only
    rw [if_neg (by omega)]
    rw [List.take_length] at h1 h2
    refine ⟨_, rfl, h1, h2, by rw [putUs_length]; exact h3, fun q j hq hj => ?_⟩
    rw [putUs_length] at hq
    rw [h4 q j hq hj, if_pos hq]

/-- Inputs through the cascade, by the reference. -/
theorem through_eq {c us s : List (List Int)} {l : List Int} (hc : SecOf c us) (hs : StOf s us) (hu : ∀ u ∈ us, okUk 0 u) (hx : ∀ x ∈ l, inR x) (hl : us.length ≤ 100000) (hll : l.length ≤ 100000) :
    ∃ S, R06_Through c l s = some (outsU us l, S, cutsU (endU us l) - cutsU us) ∧ StOf S (endU us l) := by
  have hcuts : ∀ i, i ≤ l.length → 0 ≤ cutsU (endU us (l.take i)) - cutsU us ∧ True := fun i _ => ⟨by
    have hmono : ∀ (us : List (List Int)) (x : Int), cutsU us ≤ cutsU (putUs us x) := fun us => by
      induction us with
      | nil => intro x; exact Int.le_refl _
      | cons u us ih =>
        intro x
        have h1 := ih (outU u x)
        have h2 : (putU u x).getD 9 0 = u.getD 9 0 + if outU u x = rawU u x then 0 else 1 := rfl
        simp only [cutsU, putUs, h2]
        split <;> omega
    have : ∀ (l : List Int) (us : List (List Int)), cutsU us ≤ cutsU (endU us l) := fun l => by
      induction l with
      | nil => exact fun us => Int.le_refl _
      | cons x l ih => exact fun us => Int.le_trans (hmono us x) (ih _)
    have := this (l.take i) us
    omega, trivial⟩
  have hspec := iter_spec (body := R06_Through_b0 c l) (fun z : Int × Int × List (List Int) × List Int => ∃ i : Nat, z.2.1 = (i : Int) ∧ i ≤ l.length ∧ z.1 = cutsU (endU us (l.take i)) - cutsU us ∧ z.1 ≤ i * us.length ∧ StOf z.2.2.1 (endU us (l.take i)) ∧ z.2.2.2 = outsU us (l.take i))
    (fun z => l.length - z.2.1.toNat) (fun y : Int × List (List Int) × List Int => y.1 = cutsU (endU us l) - cutsU us ∧ StOf y.2.1 (endU us l) ∧ y.2.2 = outsU us l) ?_ big (0, 0, [] ++ s, []) ⟨0, rfl, Nat.zero_le _, by simp [endU], by simp, hs, rfl⟩ (by show l.length - 0 < big; unfold big; omega)
  · obtain ⟨⟨y1, y2, y3⟩, hy, h1, h2, h3⟩ := hspec
    dsimp only at h1 h2 h3
    subst h1 h3
    unfold R06_Through
    have hsl := hs.1
    rw [if_pos (by omega), hy]
    exact ⟨y2, rfl, h2⟩
  · rintro ⟨K, i', S, out⟩ ⟨i, hi', hi, h1, h1b, h2, h3⟩
    dsimp only at hi' h1 h1b h2 h3 ⊢
    subst hi'
    by_cases hlt : i < l.length
    · left
      unfold R06_Through_b0
      dsimp only
      rw [if_pos (by omega), if_pos (by omega), if_pos (by omega), Int.toNat_natCast]
      have hxi : inR (l.getD i 0) := by rw [getD_eq hlt]; exact hx _ (List.getElem_mem hlt)
      have hok : ∀ u ∈ endU us (l.take i), okU u := fun u hu' => okUk_okU (endU_ok hu (fun x hx' => hx x (List.mem_of_mem_take hx')) u hu') (by simp; omega)
      have hge := (hcuts i hi).1
      have hb : (i : Int) * (us.length : Int) ≤ 100000 * 100000 := Int.mul_le_mul (by omega) (by omega) (by omega) (by omega)
      obtain ⟨⟨y1, y2, y3⟩, hy, e1, e2, e3⟩ := through1_eq (x := l.getD i 0) (K := K) (secOf_end (l := l.take i) hc) h2 hok hxi (by rw [endU_length]; exact hl) (by omega)
      dsimp only at e1 e2 e3
      rw [hy, bind_some']
      unfold R06_Through_r1
      dsimp only
      obtain ⟨t1, t2⟩ := endU_take (us := us) hlt
      have hol : (outsU us (l.take i)).length ≤ 100000 := by rw [outsU_length]; simp; omega
      rw [if_pos (by rw [h3]; simp only [List.length_cons, List.length_nil]; omega), wr64 (by omega)]
      refine ⟨_, rfl, ⟨i + 1, rfl, by omega, ?_, ?_, ?_, ?_⟩, ?_⟩
      · dsimp only; rw [t1, e1]; omega
      · dsimp only
        have hcut1 : ∀ (us : List (List Int)) (x : Int), cutsU (putUs us x) - cutsU us ≤ us.length := fun us => by
          induction us with
          | nil => intro x; simp [cutsU, putUs]
          | cons u us ih =>
            intro x
            have h1 := ih (outU u x)
            have h2 : (putU u x).getD 9 0 = u.getD 9 0 + if outU u x = rawU u x then 0 else 1 := rfl
            simp only [cutsU, putUs, h2, List.length_cons]
            split <;> push_cast <;> omega
        have := hcut1 (endU us (l.take i)) (l.getD i 0)
        rw [endU_length] at this
        rw [e1]
        have e4 : ((i + 1 : Nat) : Int) * (us.length : Int) = (i : Int) * (us.length : Int) + us.length := by push_cast; rw [Int.add_mul]; omega
        rw [e4]
        omega
      · dsimp only; rw [t1]; exact e3
      · dsimp only; rw [t2, h3, e2]
      · dsimp only
        omega
    · right
      have hie : i = l.length := by omega
      subst hie
      unfold R06_Through_b0
      dsimp only
      rw [if_neg (by omega)]
      rw [List.take_length] at h1 h2 h3
      exact ⟨_, rfl, h1, h2, h3⟩

end Go.Sh

namespace Go.Sh
open Go Go.Proofs Go.RowKit Go.Sx Go.Sx06

instance (x : Int) : Decidable (inR x) := by unfold inR; infer_instance
def nf (n : Int) : Nat := FloatKind.nearest .f32 n
def fi (b : Nat) : Int := f2i .f32 b
/-- A loop that builds a list, one element for each of another one. -/
theorem iter_map {α β : Type} (l : List α) (d : α) (f : α → β) {body : Int × List β → Option ((Int × List β) ⊕ List β)} (hlen : l.length < 1000000000000)
    (h1 : ∀ i, i < l.length → ∀ o : List β, o.length = i → body ((i : Int), o) = some (.inl ((i : Int) + 1, o ++ [f (l.getD i d)])))
    (h2 : ∀ o, body ((l.length : Int), o) = some (.inr o)) : iter body big (0, []) = some (l.map f) := by
  refine iter_upto (fun i => ((i : Int), (l.take i).map f)) (k := l.length) (fun i hi => ?_) ?_ (by omega)
  · have := h1 i hi ((l.take i).map f) (by simp; omega)
    rw [this, take_one hi d]
    simp
  · rw [List.take_length]; exact h2 _

/-- What a right sample is as a whole number. -/
theorem se_whole {b : Nat} (h : se b = 0) : f2iOk .f32 .i64 b = true ∧ inR (fi b) := by
  unfold se at h
  unfold fi f2i f2iOk
  rcases Fl.read32 b with ⟨s, m, e, hd, hm, he1, he2⟩ | ⟨s, hd⟩ | ⟨s, t, hd⟩
  · have hdec : FloatKind.decode .f32 b = .number s m e := hd
    rw [hdec] at h ⊢
    rw [toIntP (by unfold KK; omega)]
    unfold seD at h
    have h3 : mg KK m e / PP ≤ 32767 := by
      dsimp only at h
      split at h
      · omega
      · split at h
        · omega
        · split at h
          · assumption
          · omega
    clear h
    generalize mg KK m e / PP = Q at *
    have e1 : IntKind.i64.min = -9223372036854775808 := rfl
    have e2 : IntKind.i64.max = 9223372036854775807 := rfl
    simp only [e1, e2, decide_eq_true_eq, Option.getD_some, inR]
    cases s <;> simp only [sg, Bool.false_eq_true, if_false, if_true] <;> omega
  · have hdec : FloatKind.decode .f32 b = .infinity s := hd
    rw [hdec] at h
    simp [seD] at h
  · have hdec : FloatKind.decode .f32 b = .nan s t := hd
    rw [hdec] at h
    simp [seD] at h

theorem numbers_eq {L : List Nat} (hl : L.length ≤ 1000000) (h : ∀ b ∈ L, se b = 0) : R06_Numbers L = some (L.map fi) := by
  unfold R06_Numbers
  rw [iter_map L 0 fi (body := R06_Numbers_b0 L) (by omega) (fun i hi o ho => by
    have hb : se (L.getD i 0) = 0 := by rw [getD_eq hi]; exact h _ (List.getElem_mem hi)
    unfold R06_Numbers_b0
    dsimp only
    rw [if_pos (by omega), if_pos (by omega), if_pos (by omega), Int.toNat_natCast, if_pos (se_whole hb).1, if_pos (by simp only [List.length_cons, List.length_nil]; omega), wr64 (by omega)]
    rfl) (fun o => by unfold R06_Numbers_b0; dsimp only; rw [if_neg (by omega)])]
  rfl

theorem newState_eq {c : List (List Int)} (hl : c.length ≤ 1000000) : R06_NewState c = some (List.replicate c.length [0, 0, 0, 0]) := by
  unfold R06_NewState
  rw [iter_map c [] (fun _ => [(0 : Int), 0, 0, 0]) (body := R06_NewState_b0 c) (by omega) (fun i hi o ho => by
    unfold R06_NewState_b0
    dsimp only
    rw [if_pos (by omega), if_pos (by simp only [List.length_cons, List.length_nil]; omega), wr64 (by omega)]) (fun o => by unfold R06_NewState_b0; dsimp only; rw [if_neg (by omega)])]
  rw [List.map_const']
  rfl

theorem sameFloats_eq {a b : List Nat} (hl : a.length ≤ 1000000) : B_SameFloats a b = some (decide (a = b)) := by
  unfold B_SameFloats
  by_cases hlen : a.length = b.length
  · rw [if_neg (by simp [hlen])]
    have h := iter_first (List.range a.length) 0 (fun i => a.getD i 0 != b.getD i 0) (body := B_SameFloats_b0 a b) (fun _ => .inl ()) (.inr ()) (by simp; omega)
      (fun i hi hp => by
        simp only [List.length_range] at hi
        have hp : (a.getD i 0 != b.getD i 0) = true := by simpa [List.getD, hi] using hp
        unfold B_SameFloats_b0
        rw [if_pos (by omega), if_pos (by omega), if_pos (by omega), if_pos (by omega), if_pos (by omega), Int.toNat_natCast, if_pos (by simp at hp ⊢; omega)])
      (fun i hi hp => by
        simp only [List.length_range] at hi
        have hp : (a.getD i 0 != b.getD i 0) = false := by simpa [List.getD, hi] using hp
        unfold B_SameFloats_b0
        rw [if_pos (by omega), if_pos (by omega), if_pos (by omega), if_pos (by omega), if_pos (by omega), Int.toNat_natCast, if_neg (by simp at hp ⊢; omega), wr64 (by omega)])
      (by unfold B_SameFloats_b0; rw [if_neg (by simp)])
    rw [h]
    cases hf : (List.range a.length).findIdx? (fun i => a.getD i 0 != b.getD i 0) with
    | none =>
      rw [List.findIdx?_eq_none_iff] at hf
      have : a = b := by
        apply List.ext_getElem hlen
        intro i h1 h2
        have := hf i (List.mem_range.2 h1)
        simpa [List.getD, h1, h2] using this
      rw [decide_eq_true this]
      rfl
    | some k =>
      rw [List.findIdx?_eq_some_iff_getElem] at hf
      obtain ⟨hk, hp, _⟩ := hf
      have : ¬ a = b := by
        rintro rfl
        simp at hp
      rw [decide_eq_false this]
      rfl
  · rw [if_pos (by simp; omega), decide_eq_false (fun h => hlen (by rw [h]))]

theorem cuts_eq {us : List (List Int)} (hl : us.length ≤ 100000) (h : ∀ u ∈ us, 0 ≤ u.getD 9 0 ∧ u.getD 9 0 ≤ 1000000000) : F_chain_cuts us = some (cutsU us) := by
  unfold F_chain_cuts
  have hb : ∀ i, i ≤ us.length → 0 ≤ cutsU (us.take i) ∧ cutsU (us.take i) ≤ i * 1000000000 := by
    intro i
    induction i with
    | zero => intro _; simp [cutsU]
    | succ i ih =>
      intro hi
      have := ih (by omega)
      have hu := h (us.getD i []) (by rw [getD_eq (by omega)]; exact List.getElem_mem _)
      rw [take_one (by omega) [], cutsU_append]
      have e : cutsU [us.getD i []] = (us.getD i []).getD 9 0 := by simp [cutsU]
      rw [e]
      push_cast
      omega
  have hit : iter (F_chain_cuts_b0 us) big (0, 0) = some (cutsU us) := iter_upto (body := F_chain_cuts_b0 us) (fun i => (cutsU (us.take i), (i : Int))) (y := cutsU us) (k := us.length) (fun i hi => by
    have h1 := hb i (by omega)
    have hu := h (us.getD i []) (by rw [getD_eq hi]; exact List.getElem_mem hi)
    unfold F_chain_cuts_b0
    dsimp only
    rw [if_pos (by omega), if_pos (by omega), if_pos (by omega), Int.toNat_natCast, wr64 (by omega), wr64 (by omega), take_one hi [], cutsU_append]
    have e : cutsU [us.getD i []] = (us.getD i []).getD 9 0 := by simp [cutsU]
    rw [e]
    rfl) (by unfold F_chain_cuts_b0; dsimp only; rw [if_neg (by omega), List.take_length]) (by omega)
  rw [hit]
  rfl

end Go.Sh

namespace Go.Sh
open Go Go.Proofs Go.RowKit Go.Sx Go.Sx06

/-! ### lists of units, up to their counters -/

/-- The states of units. -/
def stU (u : List Int) : List Int := [u.getD 5 0, u.getD 6 0, u.getD 7 0, u.getD 8 0]

theorem getD_map {α β : Type} (f : α → β) (l : List α) (k : Nat) (d : α) (e : β) (h : k < l.length) : (l.map f).getD k e = f (l.getD k d) := by
  simp [List.getD, h]

theorem stU_st (us : List (List Int)) : StOf (us.map stU) us := by
  refine ⟨by simp, fun k j hk hj => ?_⟩
  rw [getD_map stU us k [] [] hk]
  match j, hj with
  | 0, _ => rfl
  | 1, _ => rfl
  | 2, _ => rfl
  | 3, _ => rfl

theorem st0 (c : List (List Int)) : StOf (List.replicate c.length [(0 : Int), 0, 0, 0]) (us0 c) := mkUs_st (by simp)

/-! ### states -/

theorem states_eq {us : List (List Int)} (hl : us.length ≤ 100000) : F_chain_states us = some (us.map stU) := by
  unfold F_chain_states
  rw [iter_map us [] stU (body := F_chain_states_b0 us) (by omega) (fun i hi o ho => by
    unfold F_chain_states_b0
    dsimp only
    rw [if_pos (by omega), if_pos (by omega), if_pos (by omega), Int.toNat_natCast, if_pos (by simp only [List.length_cons, List.length_nil]; omega), wr64 (by omega)]
    rfl) (fun o => by unfold F_chain_states_b0; dsimp only; rw [if_neg (by omega)])]
  rfl

def badS (r : List Int) : Bool := !(decide (inR (r.getD 0 0)) && decide (inR (r.getD 1 0)) && decide (inR (r.getD 2 0)) && decide (inR (r.getD 3 0)))
/-- The error of states, with a number. -/
def csS (c s : List (List Int)) : Int × Int := if s.length ≠ c.length then (0, 10) else match s.findIdx? badS with
  | some i => ((i : Int), 2)
  | none => (0, 0)

theorem decide_inR (x : Int) : (decide ((-32767 : Int) ≤ x) && decide (x ≤ (32767 : Int))) = decide (inR x) := by
  rw [Bool.eq_iff_iff, Bool.and_eq_true, decide_eq_true_eq, decide_eq_true_eq, decide_eq_true_eq]
  rfl

theorem checkStateR_eq {c s : List (List Int)} (hl : s.length ≤ 100000) : R06_CheckState c s = some (csS c s) := by
  unfold R06_CheckState csS
  by_cases h : s.length ≠ c.length
  · rw [if_pos (by simpa using (by omega : (s.length : Int) ≠ (c.length : Int))), if_pos h]
  · rw [if_neg (by simp; omega), if_neg h]
    have hb : ∀ i, i < s.length → R06_CheckState_b0 s (i : Int) = if badS (s.getD i []) = true then some (.inr (.inl (i : Int))) else some (.inl ((i : Int) + 1)) := by
      intro i hi
      unfold R06_CheckState_b0 badS R06_isSample
      have hc : (0 : Int) ≤ (i : Int) ∧ (i : Int) < (s.length : Int) := by omega
      simp only [show (i : Int) < (s.length : Int) by omega, hc, hi, if_true, Int.toNat_natCast, Option.bind_some, decide_inR, and_self, hc.1, wr64 (show -9223372036854775808 ≤ (i : Int) + 1 ∧ (i : Int) + 1 ≤ 9223372036854775807 by omega)]
      cases decide (inR ((s.getD i []).getD 0 0)) <;> cases decide (inR ((s.getD i []).getD 1 0)) <;> cases decide (inR ((s.getD i []).getD 2 0)) <;> cases decide (inR ((s.getD i []).getD 3 0)) <;> rfl
    have hit := iter_first s [] badS (body := R06_CheckState_b0 s) (fun i => .inl (i : Int)) (.inr ()) (by omega) (fun i hi hp => by rw [hb i hi, if_pos hp]) (fun i hi hp => by rw [hb i hi, if_neg (by rw [hp]; simp)])
      (by unfold R06_CheckState_b0; rw [if_neg (by omega)])
    rw [hit]
    cases s.findIdx? badS <;> rfl

theorem checkStateF_eq {c s : List (List Int)} (hc : c.length ≤ 1000000000) (hl : s.length ≤ 100000) : F_CheckState c s = some (if chkE c ≠ 0 then (0, chkE c) else csS c s) := by
  unfold F_CheckState csS
  rw [if_pos hc, if_pos (by simp)]
  have hb : ∀ i, i < s.length → F_CheckState_b0 s (i : Int) = if badS (s.getD i []) = true then some (.inr (.inl (i : Int))) else some (.inl ((i : Int) + 1)) := by
    intro i hi
    unfold F_CheckState_b0 badS
    simp only [show (i : Int) < (s.length : Int) by omega, show (0 : Int) ≤ (i : Int) by omega, hi, if_true, Int.toNat_natCast, decide_inR, and_self, wr64 (show -9223372036854775808 ≤ (i : Int) + 1 ∧ (i : Int) + 1 ≤ 9223372036854775807 by omega)]
    cases decide (inR ((s.getD i []).getD 0 0)) <;> cases decide (inR ((s.getD i []).getD 1 0)) <;> cases decide (inR ((s.getD i []).getD 2 0)) <;> cases decide (inR ((s.getD i []).getD 3 0)) <;> rfl
  have hit := iter_first s [] badS (body := F_CheckState_b0 s) (fun i => .inl (i : Int)) (.inr ()) (by omega) (fun i hi hp => by rw [hb i hi, if_pos hp]) (fun i hi hp => by rw [hb i hi, if_neg (by rw [hp]; simp)])
    (by unfold F_CheckState_b0; rw [if_neg (by omega)])
  have hx : (if ((s.length : Int) == (c.length : Int)) = true then (0 : Int) else (10 : Int)) = if s.length ≠ c.length then 10 else 0 := by
    by_cases h : s.length = c.length
    · rw [if_pos (by rw [h]; exact beq_self_eq_true _), if_neg (by omega)]
    · rw [if_neg (by rw [beq_iff_eq]; omega), if_pos h]
  rw [find2, hx, hit]
  by_cases h1 : chkE c = 0
  · rw [if_neg (show ¬ chkE c ≠ 0 by omega), if_neg (show ¬ chkE c ≠ 0 by omega)]
    by_cases h : s.length = c.length
    · rw [if_neg (show ¬ s.length ≠ c.length by omega), if_neg (show ¬ s.length ≠ c.length by omega), if_neg (by decide)]
      cases s.findIdx? badS <;> rfl
    · rw [if_pos h, if_pos h, if_pos (by decide)]
  · rw [if_pos h1, if_pos h1, if_pos (by simpa using h1)]

theorem csS_ok {c s : List (List Int)} (h : (csS c s).2 = 0) : s.length = c.length ∧ ∀ k j, k < s.length → j < 4 → inR ((s.getD k []).getD j 0) := by
  unfold csS at h
  split at h
  · cases h
  · rename_i hl
    refine ⟨by omega, fun k j hk hj => ?_⟩
    split at h
    · cases h
    · rename_i hf
      rw [List.findIdx?_eq_none_iff] at hf
      have := hf (s.getD k []) (by rw [getD_eq hk]; exact List.getElem_mem hk)
      unfold badS at this
      simp only [Bool.not_eq_false', Bool.and_eq_true, decide_eq_true_eq] at this
      match j, hj with
      | 0, _ => exact this.1.1.1
      | 1, _ => exact this.1.1.2
      | 2, _ => exact this.1.2
      | 3, _ => exact this.2

theorem mkUs_ok {c s : List (List Int)} (h : chkE c = 0) (hs : (csS c s).2 = 0) : ∀ u ∈ mkUs c s c.length, okUk 0 u := by
  obtain ⟨hl, hst⟩ := csS_ok hs
  intro u hu
  simp only [mkUs, List.mem_map, List.mem_range] at hu
  obtain ⟨i, hi, rfl⟩ := hu
  have h0 := us0_ok h (mkU (c.getD i []) [0, 0, 0, 0]) (by
    simp only [us0, mkUs, List.mem_map, List.mem_range]
    exact ⟨i, hi, by rw [getD_eq (l := List.replicate c.length [(0 : Int), 0, 0, 0]) (by simpa using hi)]; simp⟩)
  refine ⟨rfl, fun j hj => ?_, fun j hj hj2 => ?_, Int.le_refl (0 : Int), Int.le_refl (0 : Int)⟩
  · have := h0.2.1 j hj
    match j, hj with
    | 0, _ => exact this
    | 1, _ => exact this
    | 2, _ => exact this
    | 3, _ => exact this
    | 4, _ => exact this
  · match j, hj, hj2 with
    | 5, _, _ => exact hst i 0 (by omega) (by omega)
    | 6, _, _ => exact hst i 1 (by omega) (by omega)
    | 7, _, _ => exact hst i 2 (by omega) (by omega)
    | 8, _, _ => exact hst i 3 (by omega) (by omega)

theorem sameStates_eq {a b us : List (List Int)} (ha : StOf a us) (hb : StOf b us) (hl : us.length ≤ 100000) : R06_SameStates a b = some true := by
  have h1 := ha.1
  have h2 := hb.1
  unfold R06_SameStates
  rw [if_neg (by simp; omega)]
  have hit : iter (R06_SameStates_b0 a b) big 0 = some (.inr ()) := iter_upto (fun i => (i : Int)) (k := a.length) (fun i hi => by
    have hq : ∀ j, j < 4 → (a.getD i []).getD j 0 = (b.getD i []).getD j 0 := fun j hj => by rw [ha.2 i j (by omega) hj, hb.2 i j (by omega) hj]
    unfold R06_SameStates_b0
    rw [if_pos (by omega), if_pos (by omega), if_pos (by omega), if_pos (by omega), if_pos (by omega), Int.toNat_natCast, hq 0 (by omega), hq 1 (by omega), hq 2 (by omega), hq 3 (by omega), if_neg (by simp), wr64 (by omega)]
    rfl) (by unfold R06_SameStates_b0; rw [if_neg (by omega)]) (by omega)
  rw [hit]
  rfl

end Go.Sh

namespace Go.Sh
open Go Go.Proofs Go.RowKit Go.Sx Go.Sx06

def Z32 : List Nat := [(0 : Nat), (0 : Nat), (0 : Nat), (0 : Nat), (0 : Nat), (0 : Nat), (0 : Nat), (0 : Nat), (0 : Nat), (0 : Nat), (0 : Nat), (0 : Nat), (0 : Nat), (0 : Nat), (0 : Nat), (0 : Nat), (0 : Nat), (0 : Nat), (0 : Nat), (0 : Nat), (0 : Nat), (0 : Nat), (0 : Nat), (0 : Nat), (0 : Nat), (0 : Nat), (0 : Nat), (0 : Nat), (0 : Nat), (0 : Nat), (0 : Nat), (0 : Nat)]
theorem setF_len {e : Nat} {r : List Nat} {j v : Nat} (h : r.length = e) : setF e r j v = r.set j v := by
  subst h
  unfold setF
  congr 1
  apply List.ext_getElem
  · simp [padF]
  · intro i h1 h2
    simp [padF, h2]

theorem setF_pad {A : List Nat} {v : Nat} (h : A.length < 32) : setF 32 (A ++ List.replicate (32 - A.length) 0) A.length v = A ++ [v] ++ List.replicate (32 - (A.length + 1)) 0 := by
  have h1 : setF 32 (A ++ List.replicate (32 - A.length) 0) A.length v = (A ++ List.replicate (32 - A.length) 0).set A.length v := setF_len (by simp; omega)
  have h2 : 32 - A.length = (32 - (A.length + 1)) + 1 := by omega
  rw [h1, h2, List.replicate_succ, List.set_append_right _ _ (Nat.le_refl _), Nat.sub_self, List.set_cons_zero, List.append_assoc]
  rfl

theorem blockOf_eq {l : List Int} (h : l.length ≤ 32) : R06_BlockOf l = some (l.map nf ++ List.replicate (32 - l.length) 0) := by
  unfold R06_BlockOf
  have hit : iter (R06_BlockOf_b0 l) big (0, Z32) = some (l.map nf ++ List.replicate (32 - l.length) 0) :=
    iter_upto (body := R06_BlockOf_b0 l) (fun i => ((i : Int), (l.take i).map nf ++ List.replicate (32 - i) 0)) (k := l.length) (fun i hi => by
      unfold R06_BlockOf_b0
      dsimp only
      have hlen : ((l.take i).map nf).length = i := by simp; omega
      have hs := setF_pad (A := (l.take i).map nf) (v := nf (l.getD i 0)) (by omega)
      rw [hlen] at hs
      rw [if_pos (by omega), if_pos (by omega), if_pos (by omega), if_pos (by omega), if_pos (by omega), if_pos (by omega), Int.toNat_natCast, wr64 (by omega)]
      have e0 : (0 : Nat) + ((0 : Nat) + i * (1 : Nat)) = i := by omega
      rw [e0, show FloatKind.nearest .f32 (l.getD i 0) = nf (l.getD i 0) from rfl, hs, take_one hi 0, List.map_append]
      rfl) (by
      unfold R06_BlockOf_b0
      dsimp only
      rw [List.take_length]
      by_cases h32 : l.length < 32
      · rw [if_pos (by omega), if_neg (by omega)]
      · rw [if_neg (by omega)]) (by omega)
  change (iter (R06_BlockOf_b0 l) big (0, Z32)).bind _ = _
  rw [hit]
  rfl

theorem sameBlock_eq {a b : List Nat} (ha : a.length = 32) (hb : b.length = 32) : B_SameBlock a b = some (decide (a = b)) := by
  unfold B_SameBlock
  rw [if_pos ⟨ha, by decide⟩, if_pos ⟨hb, by decide⟩, List.drop_zero, List.drop_zero, List.take_of_length_le (by omega), List.take_of_length_le (by omega), sameFloats_eq (by omega), bind_some']

/-- The error of a block. -/
def runE' (c s : List (List Int)) (b : List Nat) : Int := if chkE c ≠ 0 then chkE c else if sesE b ≠ 0 then sesE b else (csS c s).2

theorem run_eq {c s : List (List Int)} {b : List Nat} (hc : c.length ≤ 1000000) (hs : s.length ≤ 100000) (hb : b.length = 32) :
    F_Run c b s = some (if runE' c s b = 0 then ((outsU (mkUs c s c.length) (b.map fi)).map nf, (endU (mkUs c s c.length) (b.map fi)).map stU, cutsU (endU (mkUs c s c.length) (b.map fi)), 0) else (Z32, [], 0, runE' c s b)) := by
  unfold F_Run
  rw [if_pos (by omega), if_pos ⟨hb, by decide⟩, List.drop_zero, List.take_of_length_le (by omega), samplesErrF_eq (by omega), bind_some', if_pos (by simp), find2]
  by_cases h1 : chkE c = 0
  · rw [if_neg (show ¬ chkE c ≠ 0 by omega)]
    by_cases h2 : sesE b = 0
    · rw [if_pos (by rw [h2]; rfl), checkStateF_eq (by omega) hs, bind_some', if_neg (show ¬ chkE c ≠ 0 by omega)]
      have hE : runE' c s b = (csS c s).2 := by unfold runE'; rw [if_neg (by omega), if_neg (by omega)]
      rw [hE]
      by_cases h3 : (csS c s).2 = 0
      · rw [if_neg (by rw [h3]; decide), if_pos h3]
        obtain ⟨hl, _⟩ := csS_ok h3
        rw [if_pos (by omega)]
        have hok := mkUs_ok h1 h3
        have hall := sesE_zero h2
        have hx : ∀ x ∈ b.map fi, inR x := by
          intro x hx
          obtain ⟨y, hy, rfl⟩ := List.mem_map.1 hx
          exact (se_whole (hall y hy)).2
        have hul : (mkUs c s c.length).length = c.length := mkUs_length _ _ _
        generalize mkUs c s c.length = us at *
        have hit : iter (F_Run_b0 b) big (0, us, [] ++ List.replicate (32 - 0) 0) = some (endU us (b.map fi), (outsU us (b.map fi)).map nf) :=
          iter_upto (body := F_Run_b0 b) (fun i => ((i : Int), endU us ((b.map fi).take i), (outsU us ((b.map fi).take i)).map nf ++ List.replicate (32 - i) 0)) (k := 32) (fun i hi => by
            have hi' : i < b.length := by omega
            have hw := se_whole (hall (b.getD i 0) (by rw [getD_eq hi']; exact List.getElem_mem hi'))
            have hR : inR (f2i .f32 (b.getD i 0)) := hw.2
            obtain ⟨t1, t2⟩ := endU_take (us := us) (l := b.map fi) (i := i) (by simpa using hi')
            have hg : (b.map fi).getD i 0 = f2i .f32 (b.getD i 0) := by rw [getD_eq (by simpa using hi'), getD_eq hi']; simp [fi]
            rw [hg] at t1 t2
            have hlen : ((outsU us ((b.map fi).take i)).map nf).length = i := by simp [outsU_length]; omega
            have hsf := setF_pad (A := (outsU us ((b.map fi).take i)).map nf) (v := nf (outUs (endU us ((b.map fi).take i)) (f2i .f32 (b.getD i 0)))) (by omega)
            rw [hlen] at hsf
            unfold F_Run_b0
            dsimp only
            rw [if_pos (by omega), if_pos (by omega), Int.toNat_natCast, if_pos hw.1, if_pos ⟨by rw [endU_length, hul]; omega, fun u hu => okUk_okU (endU_ok hok (fun x hx' => hx x (List.mem_of_mem_take hx')) u hu) (by simp; omega), hR.1, hR.2⟩,
              if_pos (by omega), if_pos (by omega), wr64 (by omega), t1, t2]
            have e0 : (0 : Nat) + ((0 : Nat) + i * (1 : Nat)) = i := by omega
            rw [e0, show ∀ n, FloatKind.nearest .f32 n = nf n from fun _ => rfl, hsf, List.map_append]
            rfl) (by
            unfold F_Run_b0
            dsimp only
            rw [if_neg (by omega), List.take_of_length_le (by simp; omega)]
            simp) (by omega)
        change (iter (F_Run_b0 b) big (0, us, [] ++ List.replicate (32 - 0) 0)).bind _ = _
        rw [hit, bind_some']
        unfold F_Run_r0
        have hend := endU_ok hok hx
        have hc6 := (chkE_ok h1).1
        rw [states_eq (by rw [endU_length, hul]; omega), bind_some', cuts_eq (by rw [endU_length, hul]; omega) (fun u hu => by have := okUk_okU (hend u hu) (by simp; omega); exact ⟨this.2.2.2.1, this.2.2.2.2⟩), bind_some']
      · rw [if_pos (by simpa using h3), if_neg h3]
        rfl
    · rw [if_neg (show ¬ (sesE b == 0) = true by simpa using h2), if_pos (show (sesE b != 0) = true by simpa using h2)]
      have hE : runE' c s b = sesE b := by unfold runE'; rw [if_neg (by omega), if_pos h2]
      rw [hE, if_neg h2]
      rfl
  · rw [if_pos h1, if_neg (by simpa using h1), if_pos (by simpa using h1)]
    have hE : runE' c s b = chkE c := by unfold runE'; rw [if_pos h1]
    rw [hE, if_neg h1]
    rfl

theorem newStateF_eq {c : List (List Int)} (hc : c.length ≤ 1000000) : F_NewState c = some (if chkE c ≠ 0 then ([], chkE c) else (List.replicate c.length [0, 0, 0, 0], 0)) := by
  unfold F_NewState
  rw [if_pos (by omega)]
  by_cases h1 : chkE c = 0
  · rw [if_neg (by rw [h1]; decide), if_neg (show ¬ chkE c ≠ 0 by omega), if_pos (by omega), Int.toNat_natCast]
  · rw [if_pos (by simpa using h1), if_pos h1]

end Go.Sh

namespace Go.Sh
open Go Go.Proofs Go.RowKit Go.Sx Go.Sx06

theorem copyStates_eq {s : List (List Int)} (h : s.length ≤ 1000000) : R06_CopyStates s = some s := by
  unfold R06_CopyStates
  rw [if_pos (by omega), List.nil_append]

theorem runs_block {raw : List Nat} {r1 : List Nat} (h : raw.length ≤ 4) (hr : r1.length = 32) : ∃ y, iter (L06_FilterRuns_b0 raw) big (0, r1) = some y ∧ y.length = 32 := by
  refine iter_spec (fun z : Int × List Nat => ∃ i : Nat, z.1 = (i : Int) ∧ i ≤ raw.length ∧ z.2.length = 32) (fun z => raw.length - z.1.toNat) _ ?_ big _ ⟨0, rfl, Nat.zero_le _, hr⟩ (by show raw.length - 0 < big; unfold big; omega)
  rintro ⟨i', b⟩ ⟨i, hi', hi, hb⟩
  dsimp only at hi' hb ⊢
  subst hi'
  unfold L06_FilterRuns_b0
  dsimp only
  by_cases hlt : i < raw.length
  · left
    rw [if_pos (by omega), if_pos (by omega), if_pos (by omega), if_pos (by omega), if_pos (by omega), wr64 (by omega)]
    refine ⟨_, rfl, ⟨i + 1, rfl, by omega, ?_⟩, ?_⟩
    · dsimp only; rw [setF_len hb]; simpa using hb
    · dsimp only; omega
  · right
    rw [if_neg (by omega)]
    exact ⟨_, rfl, hb⟩

theorem filterRuns_true {c : List (List Int)} {b : List Int} {s : List (List Int)} {raw : List Nat} (hc : c.length ≤ 1000000000000000) : L06_FilterRuns c b s raw = some true := by
  unfold L06_FilterRuns
  rw [few_eq, bind_some']
  by_cases h8 : ¬ (c.length : Int) ≤ 8
  · rw [if_pos (by simp; omega)]
  rw [if_neg (by simp; omega)]
  replace h8 : (c.length : Int) ≤ 8 := by omega
  by_cases h1 : (b.length : Int) > 32
  · rw [if_pos h1]
  rw [if_neg h1]
  by_cases h2 : (s.length : Int) > 10
  · rw [if_pos h2]
  rw [if_neg h2]
  by_cases h3 : (raw.length : Int) > 4
  · rw [if_pos h3]
  rw [if_neg h3, blockOf_eq (by omega), bind_some']
  obtain ⟨y, hy, hyl⟩ := runs_block (raw := raw) (r1 := b.map nf ++ List.replicate (32 - b.length) 0) (by omega) (by simp; omega)
  rw [hy, bind_some']
  unfold L06_FilterRuns_r0
  have hcopy := copy_eq (c := c) (by omega)
  have hcs := copyStates_eq (s := s) (by omega)
  have hcc := checkCascade_eq (c := c) (by omega)
  have hrun := run_eq (c := c) (s := s) (b := y) (by omega) (by omega) hyl
  have hns := newStateF_eq (c := c) (by omega)
  have hst := checkStateF_eq (c := c) (s := s) (by omega) (by omega)
  have hstR := checkStateR_eq (c := c) (s := s) (by omega)
  have hnsR := newState_eq (c := c) (by omega)
  have hz : B_SameBlock Z32 Z32 = some true := by rw [sameBlock_eq rfl rfl, decide_eq_true rfl]
  have hcond : y.length = (32 : Nat) ∧ (0 : Int) ≤ Option.getD none (0 : Int) ∧ Option.getD none (0 : Int) ≤ Option.getD none (↑(32 : Nat) : Int) ∧ Option.getD none (↑(32 : Nat) : Int) ≤ (↑(32 : Nat) : Int) := ⟨hyl, by decide⟩
  have hz' : ∀ x, B_SameBlock x [(0 : Nat), (0 : Nat), (0 : Nat), (0 : Nat), (0 : Nat), (0 : Nat), (0 : Nat), (0 : Nat), (0 : Nat), (0 : Nat), (0 : Nat), (0 : Nat), (0 : Nat), (0 : Nat), (0 : Nat), (0 : Nat), (0 : Nat), (0 : Nat), (0 : Nat), (0 : Nat), (0 : Nat), (0 : Nat), (0 : Nat), (0 : Nat), (0 : Nat), (0 : Nat), (0 : Nat), (0 : Nat), (0 : Nat), (0 : Nat), (0 : Nat), (0 : Nat)] = B_SameBlock x Z32 := fun _ => rfl
  have hfin : (IntKind.i64.wrap ((([] : List (List Int)).length : Int) + (([] : List (List Int)).length : Int)) == (0 : Int)) = true := by decide
  have hlen0 : (((([] : List (List Int)).length : Nat) : Int) == (0 : Int)) = true := by decide
  have htk : List.take 32 (List.drop 0 y) = y := by rw [List.drop_zero, List.take_of_length_le (by omega)]
  have hse := samplesErrR_eq (l := y) (by omega)
  by_cases hE : ¬ chkE c = 0
  · have hEb : (chkE c != 0) = true := by simpa using hE
    have hr : runE' c s y = chkE c := by unfold runE'; rw [if_pos hE]
    rw [hr, if_neg hE] at hrun
    rw [if_pos hE] at hns hst
    simp only [hcopy, hcs, hrun, hns, hst, hcc, Option.bind_some, hEb, if_true, beq_self_eq_true, hz', hz, hfin]
  replace hE : chkE c = 0 := by omega
  have hEb : (chkE c != 0) = false := by rw [hE]; rfl
  rw [if_neg (show ¬ chkE c ≠ 0 by omega)] at hns hst
  have hsame := sameStates_eq (st0 c) (st0 c) (by simp [us0, mkUs]; omega)
  have hr0 : ((0 : Int) != 0) = false := rfl
  by_cases hS : ¬ sesE y = 0
  · have hr : runE' c s y = sesE y := by unfold runE'; rw [if_neg (by omega), if_pos hS]
    rw [hr, if_neg hS] at hrun
    have hSb : (sesE y == 0) = false := by simpa using hS
    have hSb' : (sesE y != 0) = true := by simpa using hS
    simp only [hcopy, hcs, hrun, hns, hst, hcc, Option.bind_some, hEb, Bool.false_eq_true, if_false, if_true, beq_self_eq_true, bne_self_eq_false, hstR, hnsR, hsame, Bool.not_true, hcond, htk, hse, hSb, hSb', hz', hz, hlen0, and_self]
  replace hS : sesE y = 0 := by omega
  have hSb : (sesE y == 0) = true := by rw [hS]; rfl
  have hr : runE' c s y = (csS c s).2 := by unfold runE'; rw [if_neg (by omega), if_neg (by omega)]
  by_cases hC : ¬ (csS c s).2 = 0
  · rw [hr, if_neg hC] at hrun
    have hCb : ((csS c s).2 != 0) = true := by simpa using hC
    simp only [hcopy, hcs, hrun, hns, hst, hcc, Option.bind_some, hEb, Bool.false_eq_true, if_false, if_true, beq_self_eq_true, bne_self_eq_false, hstR, hnsR, hsame, Bool.not_true, hcond, htk, hse, hSb, hCb, hz', hz, hlen0, and_self]
  replace hC : (csS c s).2 = 0 := by omega
  have hCb : ((csS c s).2 != 0) = false := by rw [hC]; rfl
  rw [hr, if_pos hC] at hrun
  obtain ⟨hsl, _⟩ := csS_ok hC
  have hall := sesE_zero hS
  have hnum := numbers_eq (L := y) (by omega) hall
  have hx : ∀ x ∈ y.map fi, inR x := fun x hx => by
    obtain ⟨z, hz, rfl⟩ := List.mem_map.1 hx
    exact (se_whole (hall z hz)).2
  obtain ⟨S, hthr, hS'⟩ := through_eq (mkUs_sec c s) (mkUs_st hsl) (mkUs_ok hE hC) hx (by rw [mkUs_length]; omega) (by simp; omega)
  have hol : (outsU (mkUs c s c.length) (y.map fi)).length = 32 := by rw [outsU_length]; simpa using hyl
  have hblk := blockOf_eq (l := outsU (mkUs c s c.length) (y.map fi)) (by omega)
  rw [hol, Nat.sub_self, List.replicate_zero, List.append_nil] at hblk
  have hsb := sameBlock_eq (a := (outsU (mkUs c s c.length) (y.map fi)).map nf) (b := (outsU (mkUs c s c.length) (y.map fi)).map nf) (by simpa using hol) (by simpa using hol)
  rw [decide_eq_true rfl] at hsb
  have hss := sameStates_eq (stU_st _) hS' (by rw [endU_length, mkUs_length]; omega)
  have hcut : (cutsU (endU (mkUs c s c.length) (y.map fi)) == cutsU (endU (mkUs c s c.length) (y.map fi)) - cutsU (mkUs c s c.length)) = true := by rw [mkUs_cuts]; simp
  simp only [hcopy, hcs, hrun, hns, hst, hcc, Option.bind_some, hEb, Bool.false_eq_true, if_false, if_true, beq_self_eq_true, bne_self_eq_false, hstR, hnsR, hsame, Bool.not_true, hcond, htk, hse, hSb, hCb, hnum, hthr, hblk, hsb, hss, hcut, and_self]

end Go.Sh
