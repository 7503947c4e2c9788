/- Contracts of turns and gains. -/
import Derived.Test.YtndhdojnlobloaaC12
set_option linter.unusedSectionVars false
set_option linter.unusedSimpArgs false
set_option linter.unusedVariables false
namespace Go.Sx06
open Go Go.Proofs Go.RowKit Go.Sx

def turnE (p q r : Int) : Int := if ¬ (1 ≤ r ∧ r ≤ 100) then 2 else if (-r ≤ p ∧ p ≤ r) ∧ (-r ≤ q ∧ q ≤ r) ∧ p * p + q * q = r * r then 0 else 10
def reS (a b c p q r : Int) : Int := a * (p * p - q * q) + b * r * p + c * r * r
def imS (a b p q r : Int) : Int := 2 * a * p * q + b * r * q
def sqS (a b c p q r : Int) : Int := reS a b c p q r * reS a b c p q r + imS a b p q r * imS a b p q r

/-! turnErr: the error of a turn -/
def gTurnErr : List A → Option (Prop × List RV)
  | [.s [.i .i64 p, .i .i64 q, .i .i64 r]] => some (True, [.d (.i .i64 (turnE p q r))])
  | _ => none

set_option maxRecDepth 100000 in
theorem turnErr_vc (p q r : Int) : runF Try.f97 (addS 104 gWithin (addS 91 gSmall (addS 87 gUnless sp0))) (fun _ _ => none) 0 [.s [.i .i64 p, .i .i64 q, .i .i64 r]] [.d (.i .i64 (turnE p q r))] := by
  refine Eq.mp (by kernel_rfl : (
       Ob True ∧
       Br (!(decide ((1 : Int) ≤ r) && decide (r ≤ (100 : Int)))) (Ob True ∧ Ob ((2 : Int) = turnE p q r) ∧ True)
       (Ob ((-9223372036854775807 : Int) ≤ r ∧ r ≤ (9223372036854775807 : Int)) ∧
       Br (decide (-r ≤ p) && decide (p ≤ r))
       (Ob ((-9223372036854775807 : Int) ≤ r ∧ r ≤ (9223372036854775807 : Int)) ∧
       Br (decide (-r ≤ q) && decide (q ≤ r))
       (Ob True ∧
       Ob True ∧
       Ob
       ((if
       (IntKind.i64.wrap (IntKind.i64.wrap (p * p) + IntKind.i64.wrap (q * q)) ==
       IntKind.i64.wrap (r * r)) =
       true then
       (0 : Int)
       else (10 : Int)) =
       turnE p q r) ∧
       True)
       (Ob True ∧ Ob True ∧ Ob ((if false = true then (0 : Int) else (10 : Int)) = turnE p q r) ∧ True))
       (Ob True ∧ Ob True ∧ Ob ((if false = true then (0 : Int) else (10 : Int)) = turnE p q r) ∧ True))) = _) ?_
  simp only [Ob_iff, Br_iff, decide_eq_true_eq, true_and, and_true, Bool.and_eq_true, Bool.not_eq_true']
  have hr : (decide (1 ≤ r) && decide (r ≤ 100)) = true ↔ 1 ≤ r ∧ r ≤ 100 := by simp
  refine ⟨fun h => ?_, fun h => ?_⟩
  · unfold turnE
    rw [if_pos (fun hc => by rw [hr.2 hc] at h; cases h)]
  · have h0 : 1 ≤ r ∧ r ≤ 100 := by simpa using h
    have hT : turnE p q r = if (-r ≤ p ∧ p ≤ r) ∧ (-r ≤ q ∧ q ≤ r) ∧ p * p + q * q = r * r then 0 else 10 := by
      unfold turnE
      rw [if_neg (fun hc => hc h0)]
    refine ⟨by omega, fun hp => ⟨by omega, fun hq => ?_, fun hq => ?_⟩, fun hp => ?_⟩
    · have m1 := mulB (x := p) (y := p) (a := 100) (b := 100) (by decide) (by decide) (by omega) (by omega)
      have m2 := mulB (x := q) (y := q) (a := 100) (b := 100) (by decide) (by decide) (by omega) (by omega)
      have m3 := mulB (x := r) (y := r) (a := 100) (b := 100) (by decide) (by decide) (by omega) (by omega)
      rw [wr (n := p * p) (by omega) (by omega), wr (n := q * q) (by omega) (by omega), wr (n := r * r) (by omega) (by omega), wr (by omega) (by omega), hT]
      simp only [beq_iff_eq, hp, hq, and_self, true_and]
    · rw [hT, if_neg (show ¬ (false = true) by decide), if_neg (fun hc => by simp [hc.2.1.1, hc.2.1.2] at hq)]
    · rw [hT, if_neg (show ¬ (false = true) by decide), if_neg (fun hc => by simp [hc.1.1, hc.1.2] at hp)]

set_option maxRecDepth 100000 in
theorem turnErr_ok : SpecOK Try.prog 97 true (pureS gTurnErr) := by
  refine pure_ok (sp := (addS 104 gWithin (addS 91 gSmall (addS 87 gUnless sp0)))) (fn := Try.f97) (body := bodyOf Try.f97) mixed (addS_ok within_ok (addS_ok small_ok (addS_ok unless_ok sp0_ok))) Try.func97 (by kernel_rfl) (by kernel_rfl) fun as_ ob rs h ho => ?_
  unfold gTurnErr at h
  split at h
  · rename_i p q r
    cases h
    exact ⟨Nat.le_of_ble_eq_true rfl, _, _, turnErr_vc p q r⟩
  · cases h

/-! square: the square of a polynomial of a turn -/
def gSquare : List A → Option (Prop × List RV)
  | [.d (.i .i64 a), .d (.i .i64 b), .d (.i .i64 c), .s [.i .i64 p, .i .i64 q, .i .i64 r]] => some ((-32768 ≤ a ∧ a ≤ 32768) ∧ (-32768 ≤ b ∧ b ≤ 32768) ∧ (-32768 ≤ c ∧ c ≤ 32768) ∧ (-100 ≤ p ∧ p ≤ 100) ∧ (-100 ≤ q ∧ q ≤ 100) ∧ (-100 ≤ r ∧ r ≤ 100), [.d (.i .i64 (sqS a b c p q r))])
  | _ => none

set_option maxRecDepth 100000 in
theorem square_vc (a b c p q r : Int) (ho : (-32768 ≤ a ∧ a ≤ 32768) ∧ (-32768 ≤ b ∧ b ≤ 32768) ∧ (-32768 ≤ c ∧ c ≤ 32768) ∧ (-100 ≤ p ∧ p ≤ 100) ∧ (-100 ≤ q ∧ q ≤ 100) ∧ (-100 ≤ r ∧ r ≤ 100)) : runF Try.f127 sp0 (fun _ _ => none) 0 [.d (.i .i64 a), .d (.i .i64 b), .d (.i .i64 c), .s [.i .i64 p, .i .i64 q, .i .i64 r]] [.d (.i .i64 (sqS a b c p q r))] := by
  refine Eq.mp (by kernel_rfl : (
       Ob True ∧
       Ob
       (IntKind.i64.wrap
       (IntKind.i64.wrap
       (IntKind.i64.wrap
       (IntKind.i64.wrap
       (IntKind.i64.wrap (a * IntKind.i64.wrap (IntKind.i64.wrap (p * p) - IntKind.i64.wrap (q * q))) +
       IntKind.i64.wrap (IntKind.i64.wrap (b * r) * p)) +
       IntKind.i64.wrap (IntKind.i64.wrap (c * r) * r)) *
       IntKind.i64.wrap
       (IntKind.i64.wrap
       (IntKind.i64.wrap (a * IntKind.i64.wrap (IntKind.i64.wrap (p * p) - IntKind.i64.wrap (q * q))) +
       IntKind.i64.wrap (IntKind.i64.wrap (b * r) * p)) +
       IntKind.i64.wrap (IntKind.i64.wrap (c * r) * r))) +
       IntKind.i64.wrap
       (IntKind.i64.wrap
       (IntKind.i64.wrap (IntKind.i64.wrap (IntKind.i64.wrap ((2 : Int) * a) * p) * q) +
       IntKind.i64.wrap (IntKind.i64.wrap (b * r) * q)) *
       IntKind.i64.wrap
       (IntKind.i64.wrap (IntKind.i64.wrap (IntKind.i64.wrap ((2 : Int) * a) * p) * q) +
       IntKind.i64.wrap (IntKind.i64.wrap (b * r) * q)))) =
       sqS a b c p q r) ∧
       True) = _) ?_
  obtain ⟨ha, hb, hc, hp, hq, hr⟩ := ho
  have pp := mulB (x := p) (y := p) (a := 100) (b := 100) (by decide) (by decide) hp hp
  have qq := mulB (x := q) (y := q) (a := 100) (b := 100) (by decide) (by decide) hq hq
  have apq := mulB (x := a) (y := p * p - q * q) (a := 32768) (b := 20000) (by decide) (by decide) ha (by omega)
  have br := mulB (x := b) (y := r) (a := 32768) (b := 100) (by decide) (by decide) hb hr
  have brp := mulB (x := b * r) (y := p) (a := 3276800) (b := 100) (by decide) (by decide) (by omega) hp
  have brq := mulB (x := b * r) (y := q) (a := 3276800) (b := 100) (by decide) (by decide) (by omega) hq
  have cr := mulB (x := c) (y := r) (a := 32768) (b := 100) (by decide) (by decide) hc hr
  have crr := mulB (x := c * r) (y := r) (a := 3276800) (b := 100) (by decide) (by decide) (by omega) hr
  have ap := mulB (x := 2 * a) (y := p) (a := 65536) (b := 100) (by decide) (by decide) (by omega) hp
  have apq2 := mulB (x := 2 * a * p) (y := q) (a := 6553600) (b := 100) (by decide) (by decide) (by omega) hq
  have eR : IntKind.i64.wrap (IntKind.i64.wrap (IntKind.i64.wrap (a * IntKind.i64.wrap (IntKind.i64.wrap (p * p) - IntKind.i64.wrap (q * q))) + IntKind.i64.wrap (IntKind.i64.wrap (b * r) * p)) + IntKind.i64.wrap (IntKind.i64.wrap (c * r) * r)) = reS a b c p q r := by
    unfold reS
    rw [wr (n := p * p) (by omega) (by omega), wr (n := q * q) (by omega) (by omega), wr (n := p * p - q * q) (by omega) (by omega), wr (n := b * r) (by omega) (by omega), wr (n := c * r) (by omega) (by omega)]
    rw [wr (n := a * (p * p - q * q)) (by omega) (by omega), wr (n := b * r * p) (by omega) (by omega), wr (n := c * r * r) (by omega) (by omega)]
    rw [wr (n := a * (p * p - q * q) + b * r * p) (by omega) (by omega), wr (by omega) (by omega)]
  have eI : IntKind.i64.wrap (IntKind.i64.wrap (IntKind.i64.wrap (IntKind.i64.wrap (2 * a) * p) * q) + IntKind.i64.wrap (IntKind.i64.wrap (b * r) * q)) = imS a b p q r := by
    unfold imS
    rw [wr (n := 2 * a) (by omega) (by omega), wr (n := b * r) (by omega) (by omega)]
    rw [wr (n := 2 * a * p) (by omega) (by omega), wr (n := b * r * q) (by omega) (by omega)]
    rw [wr (n := 2 * a * p * q) (by omega) (by omega), wr (by omega) (by omega)]
  have bR : -1500000000 ≤ reS a b c p q r ∧ reS a b c p q r ≤ 1500000000 := by unfold reS; omega
  have bI : -1500000000 ≤ imS a b p q r ∧ imS a b p q r ≤ 1500000000 := by unfold imS; omega
  have sR := mulB (by decide) (by decide) bR bR
  have sI := mulB (by decide) (by decide) bI bI
  simp only [eR, eI, Ob_iff, true_and, and_true]
  rw [wr (n := reS a b c p q r * reS a b c p q r) (by omega) (by omega), wr (n := imS a b p q r * imS a b p q r) (by omega) (by omega), wr (by omega) (by omega)]
  rfl

set_option maxRecDepth 100000 in
theorem square_ok : SpecOK Try.prog 127 true (pureS gSquare) := by
  refine pure_ok (sp := sp0) (fn := Try.f127) (body := bodyOf Try.f127) mixed sp0_ok Try.func127 (by kernel_rfl) (by kernel_rfl) fun as_ ob rs h ho => ?_
  unfold gSquare at h
  split at h
  · rename_i a b c p q r
    cases h
    exact ⟨Nat.le_of_ble_eq_true rfl, _, _, square_vc a b c p q r ho⟩
  · cases h

/-! gain: the gain squared of a section at a turn -/
def gGain : List A → Option (Prop × List RV)
  | [.s [.i .i64 b0, .i .i64 b1, .i .i64 b2, .i .i64 a0, .i .i64 a1], .s [.i .i64 p, .i .i64 q, .i .i64 r]] => some (secB b0 b1 b2 a0 a1 = true ∧ (-100 ≤ p ∧ p ≤ 100) ∧ (-100 ≤ q ∧ q ≤ 100) ∧ (-100 ≤ r ∧ r ≤ 100), [.d (.i .i64 (sqS b0 b1 b2 p q r)), .d (.i .i64 (sqS 16384 a0 a1 p q r))])
  | _ => none

set_option maxRecDepth 100000 in
theorem gain_vc (b0 b1 b2 a0 a1 p q r : Int) (ho : secB b0 b1 b2 a0 a1 = true ∧ (-100 ≤ p ∧ p ≤ 100) ∧ (-100 ≤ q ∧ q ≤ 100) ∧ (-100 ≤ r ∧ r ≤ 100)) : runF Try.f98 (addS 127 gSquare sp0) (fun _ _ => none) 0 [.s [.i .i64 b0, .i .i64 b1, .i .i64 b2, .i .i64 a0, .i .i64 a1], .s [.i .i64 p, .i .i64 q, .i .i64 r]] [.d (.i .i64 (sqS b0 b1 b2 p q r)), .d (.i .i64 (sqS 16384 a0 a1 p q r))] := by
  refine Eq.mp (by kernel_rfl : (
       Ob ((0 : Int) ≤ (0 : Int) ∧ (0 : Int) < (↑(3 : Nat) : Int)) ∧
       Ob ((0 : Int) ≤ (1 : Int) ∧ (1 : Int) < (↑(3 : Nat) : Int)) ∧
       Ob ((0 : Int) ≤ (2 : Int) ∧ (2 : Int) < (↑(3 : Nat) : Int)) ∧
       Ob
       (((-32768 : Int) ≤ b0 ∧ b0 ≤ (32768 : Int)) ∧
       ((-32768 : Int) ≤ b1 ∧ b1 ≤ (32768 : Int)) ∧
       ((-32768 : Int) ≤ b2 ∧ b2 ≤ (32768 : Int)) ∧
       ((-100 : Int) ≤ p ∧ p ≤ (100 : Int)) ∧
       ((-100 : Int) ≤ q ∧ q ≤ (100 : Int)) ∧ (-100 : Int) ≤ r ∧ r ≤ (100 : Int)) ∧
       Ob ((0 : Int) ≤ (0 : Int) ∧ (0 : Int) < (↑(2 : Nat) : Int)) ∧
       Ob ((0 : Int) ≤ (1 : Int) ∧ (1 : Int) < (↑(2 : Nat) : Int)) ∧
       Ob
       (((-32768 : Int) ≤ (16384 : Int) ∧ (16384 : Int) ≤ (32768 : Int)) ∧
       ((-32768 : Int) ≤ a0 ∧ a0 ≤ (32768 : Int)) ∧
       ((-32768 : Int) ≤ a1 ∧ a1 ≤ (32768 : Int)) ∧
       ((-100 : Int) ≤ p ∧ p ≤ (100 : Int)) ∧
       ((-100 : Int) ≤ q ∧ q ≤ (100 : Int)) ∧ (-100 : Int) ≤ r ∧ r ≤ (100 : Int)) ∧
       Ob True ∧
       Ob True ∧
       Ob (sqS b0 b1 b2 p q r = sqS b0 b1 b2 p q r) ∧
       Ob (sqS (16384 : Int) a0 a1 p q r = sqS (16384 : Int) a0 a1 p q r) ∧ True) = _) ?_
  obtain ⟨hs, hp, hq, hr⟩ := ho
  have h := secB_iff.1 hs
  simp only [Ob_iff, and_true]
  omega

set_option maxRecDepth 100000 in
theorem gain_ok : SpecOK Try.prog 98 true (pureS gGain) := by
  refine pure_ok (sp := (addS 127 gSquare sp0)) (fn := Try.f98) (body := bodyOf Try.f98) mixed (addS_ok square_ok sp0_ok) Try.func98 (by kernel_rfl) (by kernel_rfl) fun as_ ob rs h ho => ?_
  unfold gGain at h
  split at h
  · rename_i b0 b1 b2 a0 a1 p q r
    cases h
    exact ⟨Nat.le_of_ble_eq_true rfl, _, _, gain_vc b0 b1 b2 a0 a1 p q r ho⟩
  · cases h

end Go.Sx06
