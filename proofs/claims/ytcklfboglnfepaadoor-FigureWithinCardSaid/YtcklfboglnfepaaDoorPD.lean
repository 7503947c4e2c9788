/- Part 4 of the proof of FigureWithinCard: the executor, the mirrors of the functions, the plain facts. -/
import Derived.Test.YtcklfboglnfepaaDoorPC
import Derived.RangeFuncNested
import Derived.RangeFuncBound
import Derived.RangeFuncCalls
import Derived.RangeFuncLeaves
import Derived.OwnWalkIn
import Derived.TacticsInMore
import Derived.OrdersIn
import Derived.Shelf.Abstract
import Derived.WalkKit
import Derived.LoopNIn
import Derived.LoopIn
import Derived.Test.YtcklfboglnfepaaDoorProg
set_option linter.unusedSectionVars false
set_option linter.unusedSimpArgs false
set_option linter.unusedVariables false
section
namespace Go.Sh
open Go Go.Proofs Go.RowKit Go.Sx Go.Sx06 Ieee Go.Fl
theorem u64m (n : Int) : IntKind.u64.wrap n = n % 18446744073709551616 := by
  unfold IntKind.wrap
  rfl
theorem b64 : IntKind.bits IntKind.u64 = 64 := rfl
theorem shr32 (x : Int) : Int.fdiv x ((2 : Int) ^ min (32 : Nat) (IntKind.bits IntKind.u64)) = x / 4294967296 := by
  rw [Int.fdiv_eq_ediv_of_nonneg _ (by decide)]
  rfl
theorem mask32 (x : Int) : (↑(BitVec.toNat (BitVec.ofInt (IntKind.bits IntKind.u64) x &&& BitVec.ofInt (IntKind.bits IntKind.u64) (4294967295 : Int))) : Int) = x % 4294967296 := by
  rw [BitVec.toNat_and]
  have e : (BitVec.ofInt (IntKind.bits IntKind.u64) (4294967295 : Int)).toNat = 2 ^ 32 - 1 := by decide
  rw [e, Nat.and_two_pow_sub_one_eq_mod, BitVec.toNat_ofInt, b64]
  omega
theorem mw (x : Int) : x % 4294967296 % 18446744073709551616 = x % 4294967296 := by omega
def az (n : Int) : Int := max n (-n)
theorem az_abs (n : Int) : az n = (n.natAbs : Int) := by unfold az; omega
theorem sizeG_eq {n : Int} (h : inJ n) : G_size n = some (az n) := by
  unfold inJ at h
  unfold G_size az
  rw [wr64 (x := 0 - n) (by omega)]
  congr 1
  split <;> omega
theorem mul64_all {x y : Int} (hx : 0 ≤ x) (hx' : x < 18446744073709551616) (hy : 0 ≤ y) (hy' : y < 18446744073709551616) :
    y6 x y = some (x * y / 18446744073709551616, x * y % 18446744073709551616) := by
  unfold y6
  simp only [shr32, mask32, u64m, mw]
  have a1 : 0 ≤ x / 4294967296 ∧ x / 4294967296 ≤ 4294967295 := by omega
  have a0 : 0 ≤ x % 4294967296 ∧ x % 4294967296 ≤ 4294967295 := by omega
  have b1 : 0 ≤ y / 4294967296 ∧ y / 4294967296 ≤ 4294967295 := by omega
  have b0 : 0 ≤ y % 4294967296 ∧ y % 4294967296 ≤ 4294967295 := by omega
  have ex : x = x / 4294967296 * 4294967296 + x % 4294967296 := by omega
  have ey : y = y / 4294967296 * 4294967296 + y % 4294967296 := by omega
  generalize x / 4294967296 = x1 at *
  generalize x % 4294967296 = x0 at *
  generalize y / 4294967296 = y1 at *
  generalize y % 4294967296 = y0 at *
  have p11 := Int.mul_le_mul a1.2 b1.2 b1.1 (by decide)
  have p10 := Int.mul_le_mul a1.2 b0.2 b0.1 (by decide)
  have p01 := Int.mul_le_mul a0.2 b1.2 b1.1 (by decide)
  have p00 := Int.mul_le_mul a0.2 b0.2 b0.1 (by decide)
  have n11 := Int.mul_nonneg a1.1 b1.1
  have n10 := Int.mul_nonneg a1.1 b0.1
  have n01 := Int.mul_nonneg a0.1 b1.1
  have n00 := Int.mul_nonneg a0.1 b0.1
  have e : x * y = x1 * y1 * 18446744073709551616 + (x1 * y0 + x0 * y1) * 4294967296 + x0 * y0 := by
    rw [ex, ey]
    grind
  rw [e]
  clear ex ey e
  generalize x1 * y1 = p at *
  generalize x1 * y0 = q at *
  generalize x0 * y1 = r at *
  generalize x0 * y0 = s at *
  congr 2
  · omega
theorem cmpU_eq (x y : Int) : y34 x y = some (if x < y then -1 else if x > y then 1 else 0) := by
  unfold y34 y52
  simp only [bind_some', bne_self_eq_false]
  by_cases h1 : x < y
  · simp [h1]
  · by_cases h2 : x > y
    · simp [h1, h2]
    · simp [h1, h2]
theorem slicesCmp_eq (a b c d : Int) : y21 [a, b] [c, d] = some (if a < c then -1 else if a > c then 1 else if b < d then -1 else if b > d then 1 else 0) := by
  have s0 : y14 [a, b] [c, d] 0 = (if a < c then some (.inr (.inl (-1))) else if a > c then some (.inr (.inl 1)) else some (.inl 1)) := by
    unfold y14
    rw [if_pos (by simp), if_pos (by simp), if_pos (by simp), if_neg (by simp), if_pos (by simp), if_pos (by simp), cmpU_eq, bind_some']
    show (if ((if a < c then (-1 : Int) else if a > c then 1 else 0) != 0) = true then (some (Sum.inr (Sum.inl (if a < c then (-1 : Int) else if a > c then 1 else 0))) : Option (Int ⊕ (Int ⊕ Unit))) else some (Sum.inl (IntKind.wrap .i64 (0 + 1)))) = _
    by_cases h1 : a < c
    · simp [h1]
    · by_cases h2 : a > c
      · simp [h1, h2]
      · simp [h1, h2]
        rfl
  have s1 : y14 [a, b] [c, d] 1 = (if b < d then some (.inr (.inl (-1))) else if b > d then some (.inr (.inl 1)) else some (.inl 2)) := by
    unfold y14
    rw [if_pos (by simp), if_pos (by simp), if_pos (by simp), if_neg (by simp), if_pos (by simp), if_pos (by simp), cmpU_eq, bind_some']
    show (if ((if b < d then (-1 : Int) else if b > d then 1 else 0) != 0) = true then (some (Sum.inr (Sum.inl (if b < d then (-1 : Int) else if b > d then 1 else 0))) : Option (Int ⊕ (Int ⊕ Unit))) else some (Sum.inl (IntKind.wrap .i64 (1 + 1)))) = _
    by_cases h1 : b < d
    · simp [h1]
    · by_cases h2 : b > d
      · simp [h1, h2]
      · simp [h1, h2]
        rfl
  have s2 : y14 [a, b] [c, d] 2 = some (.inr (.inr ())) := by
    unfold y14
    rw [if_neg (by simp)]
  unfold y21
  have hb : big = (big - 3) + 1 + 1 + 1 := by decide
  rw [hb]
  unfold iter
  rw [s0]
  by_cases h1 : a < c
  · rw [if_pos h1, if_pos h1]
    rfl
  · rw [if_neg h1, if_neg h1]
    by_cases h2 : a > c
    · rw [if_pos h2, if_pos h2]
      rfl
    · rw [if_neg h2, if_neg h2]
      dsimp only
      unfold iter
      rw [s1]
      by_cases h3 : b < d
      · rw [if_pos h3, if_pos h3]
        rfl
      · rw [if_neg h3, if_neg h3]
        by_cases h4 : b > d
        · rw [if_pos h4, if_pos h4]
          rfl
        · rw [if_neg h4, if_neg h4]
          dsimp only
          unfold iter
          rw [s2]
          rfl
theorem lex_eq (x y : Int) : (if x / 18446744073709551616 < y / 18446744073709551616 then (-1 : Int) else if x / 18446744073709551616 > y / 18446744073709551616 then 1 else if x % 18446744073709551616 < y % 18446744073709551616 then -1 else if x % 18446744073709551616 > y % 18446744073709551616 then 1 else 0) = if x < y then -1 else if y < x then 1 else 0 := by
  split
  · rw [if_pos (by omega)]
  · split
    · rw [if_neg (by omega), if_pos (by omega)]
    · split
      · rw [if_pos (by omega)]
      · split
        · rw [if_neg (by omega), if_pos (by omega)]
        · rw [if_neg (by omega), if_neg (by omega)]
theorem withinB_eq (n lo hi : Int) : y38 n lo hi = some (decide (lo ≤ n ∧ n ≤ hi)) := by
  unfold y38
  by_cases h : lo ≤ n <;> simp [h]
theorem withinG_eq (n lo hi : Int) : y9 n lo hi = some (decide (lo ≤ n ∧ n ≤ hi)) := by
  unfold y9
  by_cases h : lo ≤ n <;> simp [h]
theorem unless_eq (b : Bool) (e : Int) : y10 b e = some (if b = true then 0 else e) := by
  unfold y10
  cases b <;> rfl
theorem ceilG_eq {n b : Int} (hb : 0 < b) (hn : 0 ≤ n) (h : n + b ≤ 9223372036854775807) : G_ceil n b = some ((n + b - 1) / b) := by
  have h1 : 0 ≤ (n + b - 1) / b := Int.ediv_nonneg (by omega) (by omega)
  have h2 : (n + b - 1) / b ≤ n + b - 1 := Int.ediv_le_self b (by omega)
  unfold G_ceil
  rw [if_pos (by omega), wr64 (x := n + b) (by omega), wr64 (x := n + b - 1) (by omega), Int.tdiv_eq_ediv_of_nonneg (by omega), wr64 (by omega)]
def firE (l : List Int) : Int := (l.find? (fun x => x != 0)).getD 0
theorem first_eq {l : List Int} (hl : l.length < 1000000) : y25 l = some (firE l) := by
  have h := iter_first l 0 (fun n => n != 0) (body := y88 l) (fun i => .inl (l.getD i 0)) (.inr ()) (by omega)
    (fun i hi hp => by
      unfold y88
      rw [if_pos (by omega), if_pos (by omega), if_pos (by omega), Int.toNat_natCast, if_pos hp])
    (fun i hi hp => by
      unfold y88
      rw [if_pos (by omega), if_pos (by omega), if_pos (by omega), Int.toNat_natCast, if_neg (by rw [hp]; simp), wr64 (by omega)])
    (by unfold y88; rw [if_neg (by omega)])
  unfold y25
  rw [h, bind_some']
  unfold firE
  cases hf : l.findIdx? (fun n => n != 0) with
  | none =>
    rw [List.findIdx?_eq_none_iff] at hf
    have : l.find? (fun x => x != 0) = none := List.find?_eq_none.2 fun x hx => by rw [hf x hx]; simp
    rw [this]; rfl
  | some k =>
    rw [List.findIdx?_eq_some_iff_getElem] at hf
    obtain ⟨hk, hp, hbef⟩ := hf
    have : l.find? (fun x => x != 0) = some l[k] := List.find?_eq_some_iff_getElem.2 ⟨hp, k, hk, rfl, fun j hj => by have := hbef j hj; simpa using this⟩
    rw [this]
    simp [List.getD, hk, y119, G_first_r0_0]
theorem firE2 (a b : Int) : firE [a, b] = if a ≠ 0 then a else b := by
  unfold firE
  by_cases h : a = 0
  · by_cases h2 : b = 0 <;> simp [h, h2]
  · simp [h]
theorem firE3 (a b c : Int) : firE [a, b, c] = if a ≠ 0 then a else if b ≠ 0 then b else c := by
  unfold firE
  by_cases h : a = 0
  · by_cases h2 : b = 0
    · by_cases h3 : c = 0 <;> simp [h, h2, h3]
    · simp [h, h2]
  · simp [h]
end Go.Sh
end

section
namespace Go.Sh
open Go Go.Proofs Go.RowKit Go.Sx Go.Sx06 Ieee Go.Fl
def KK : Nat := 1100
def PP : Nat := 2 ^ KK
theorem PP_pos : 0 < PP := Nat.two_pow_pos _
theorem cmp_eq (a b : Int) : (some (compare a b) == some Ordering.eq) = decide (a = b) := by
  rcases Int.lt_trichotomy a b with h | h | h
  · rw [Int.compare_eq_lt.2 h, decide_eq_false (by omega)]; rfl
  · rw [Int.compare_eq_eq.2 h, decide_eq_true h]; rfl
  · rw [Int.compare_eq_gt.2 h, decide_eq_false (by omega)]; rfl
theorem cmp_lt (a b : Int) : (some (compare a b) == some Ordering.lt) = decide (a < b) := by
  rcases Int.lt_trichotomy a b with h | h | h
  · rw [Int.compare_eq_lt.2 h, decide_eq_true h]; rfl
  · rw [Int.compare_eq_eq.2 h, decide_eq_false (by omega)]; rfl
  · rw [Int.compare_eq_gt.2 h, decide_eq_false (by omega)]; rfl
theorem cmp_gt (a b : Int) : (some (compare a b) == some Ordering.gt) = decide (b < a) := by
  rcases Int.lt_trichotomy a b with h | h | h
  · rw [Int.compare_eq_lt.2 h, decide_eq_false (by omega)]; rfl
  · rw [Int.compare_eq_eq.2 h, decide_eq_false (by omega)]; rfl
  · rw [Int.compare_eq_gt.2 h, decide_eq_true h]; rfl
def seD : Datum → Int
  | .number _ m e => if 16777216 * PP ≤ mg KK m e then 2 else if mg KK m e / PP * PP ≠ mg KK m e then 27 else if mg KK m e / PP ≤ 32767 then 0 else 2
  | _ => 27
def se (b : Nat) : Int := seD (FloatKind.decode .f32 b)
theorem mg_up (m : Nat) (e : Nat) : mg KK m (e : Int) = m * 2 ^ e * PP := by
  unfold mg PP
  rw [Nat.mul_assoc, ← Nat.pow_add]
  congr 2
theorem sg_f (a : Nat) : sg false a = (a : Int) := rfl
theorem sg_t (a : Nat) : sg true a = -(a : Int) := rfl
theorem toIntP {s : Bool} {m : Nat} {i : Int} (hi : 0 ≤ i + KK) : Datum.toInt .zero (.number s m i) = some (sg s (mg KK m i / PP)) := toInt_mg KK hi
theorem near32P {n : Int} (hn : -16777216 < n ∧ n < 16777216) : ∃ m e, FloatKind.decode .f32 (FloatKind.nearest .f32 n) = .number (decide (n < 0)) m e ∧ mg KK m e = n.natAbs * PP ∧ -149 ≤ e := near32 KK (by unfold KK; omega) hn
theorem mg_24 : mg KK 8388608 1 = 16777216 * PP := by
  have := mg_up 8388608 1
  rw [show (8388608 * 2 ^ 1 : Nat) = 16777216 from rfl] at this
  exact this
theorem mg_16 : mg KK 5000000000000000 1 = 10000000000000000 * PP := by
  have := mg_up 5000000000000000 1
  rw [show (5000000000000000 * 2 ^ 1 : Nat) = 10000000000000000 from rfl] at this
  exact this
theorem PP_eq : PP = 2 ^ KK := rfl
attribute [irreducible] PP
theorem sub_self (f : Format) {b : Nat} {s : Bool} {m : Nat} {e : Int} (h : f.read b = .number s m e) : f.sub b b = some 0 := by
  unfold Format.sub
  rw [h, sum_self]
  simp [Format.write, Format.nearest, Format.word]
theorem sub_inf (f : Format) {b : Nat} {s : Bool} (h : f.read b = .infinity s) : f.sub b b = none := by
  unfold Format.sub
  rw [h]
  cases s <;> rfl
theorem sampleErrF_eq (b : Nat) : y76 b = some (se b) := by
  have hz : Format.order single 0 0 = some .eq := by decide
  unfold y76 se FloatKind.decode
  simp only [show FloatKind.format .f32 = single from rfl]
  rcases read32 b with ⟨s, m, e, h, hm, he1, he2⟩ | ⟨s, h⟩ | ⟨s, t, h⟩
  · have h1 : single.order b b = some .eq := by
      unfold Format.order
      rw [h, order_mg KK (by unfold KK; omega) (by unfold KK; omega), Int.compare_eq_eq.2 rfl]
    have hA : single.order b 1266679808 = some (compare (sg s (mg KK m e)) ((16777216 * PP : Nat) : Int)) := by
      unfold Format.order
      have hc : single.read 1266679808 = .number false 8388608 1 := by decide
      rw [h, hc, order_mg KK (by unfold KK; omega) (by unfold KK; omega)]
      rw [mg_24]
      first | rw [sg_f] | rw [sg_t]
    have hB : single.order b 3414163456 = some (compare (sg s (mg KK m e)) (-((16777216 * PP : Nat) : Int))) := by
      unfold Format.order
      have hc : single.read 3414163456 = .number true 8388608 1 := by decide
      rw [h, hc, order_mg KK (by unfold KK; omega) (by unfold KK; omega)]
      rw [mg_24]
      first | rw [sg_f] | rw [sg_t]
    have hT : Datum.toInt .zero (FloatKind.decode .f32 b) = some (sg s (mg KK m e / PP)) := by
      unfold FloatKind.decode
      simp only [show FloatKind.format .f32 = single from rfl]
      rw [h, toIntP (by unfold KK; omega)]
    rw [h1, sub_self single h, hA, hB]
    simp only [Option.isSome_some, Option.getD_some, hz, if_true, bne_self_eq_false, Bool.false_eq_true, if_false, cmp_gt, cmp_eq, cmp_lt, h, seD]
    generalize hg : mg KK m e = A at *
    have hP := PP_pos
    have hdm := Nat.div_add_mod A PP
    rw [Nat.mul_comm] at hdm
    have hml := Nat.mod_lt A hP
    have hq : f2i .f32 b = sg s (A / PP) := by unfold f2i; rw [hT]; rfl
    by_cases hbig : 16777216 * PP ≤ A
    · rw [if_pos hbig]
      cases s
      · rw [if_pos]
        simp only [sg, Bool.false_eq_true, if_false, Bool.or_eq_true, decide_eq_true_eq]
        omega
      · rw [if_neg, if_pos]
        · simp only [sg, if_true, Bool.or_eq_true, decide_eq_true_eq]
          omega
        · simp only [sg, if_true, Bool.or_eq_true, decide_eq_true_eq]
          omega
    · rw [if_neg hbig]
      have hd : A / PP < 16777216 := (Nat.div_lt_iff_lt_mul hP).2 (by omega)
      generalize A / PP = Q at *
      generalize A % PP = R at *
      generalize hQP : Q * PP = QP at *
      have hn : -16777216 < sg s Q ∧ sg s Q < 16777216 := by cases s <;> simp only [sg, Bool.false_eq_true, if_false, if_true] <;> omega
      have hok : f2iOk .f32 .i64 b = true := by
        unfold f2iOk
        rw [hT]
        have e1 : IntKind.i64.min = -9223372036854775808 := rfl
        have e2 : IntKind.i64.max = 9223372036854775807 := rfl
        simp only [e1, e2, decide_eq_true_eq]
        omega
      rw [if_neg, if_neg, if_pos hok]
      · obtain ⟨m', e', h3, h4, h5⟩ := near32P hn
        have hC : single.order (FloatKind.nearest .f32 (f2i .f32 b)) b = some (compare (sg s Q * (PP : Int)) (sg s A)) := by
          unfold Format.order
          have h3' : single.read (FloatKind.nearest .f32 (f2i .f32 b)) = .number (decide (sg s Q < 0)) m' e' := by rw [hq]; exact h3
          rw [h3', h, order_mg KK (by unfold KK; omega) (by unfold KK; omega), h4, hg, sg_mul, sg_natAbs]
        rw [hC]
        have hne : (some (compare (sg s Q * (PP : Int)) (sg s A)) != some Ordering.eq) = decide (QP ≠ A) := by
          rw [bne, cmp_eq]
          have : (sg s Q * (PP : Int) = sg s A) ↔ QP = A := by
            rw [← sg_mul, hQP]
            cases s <;> simp only [sg, Bool.false_eq_true, if_false, if_true] <;> omega
          by_cases hw : QP = A
          · rw [decide_eq_true (this.2 hw), decide_eq_false (by omega)]; rfl
          · rw [decide_eq_false (fun h => hw (this.1 h)), decide_eq_true hw]; rfl
        rw [hne, hq]
        by_cases hw : QP = A
        · rw [decide_eq_false (show ¬ (QP ≠ A) by omega), if_neg Bool.false_ne_true, if_neg (show ¬ (QP ≠ A) by omega)]
          rw [if_pos hok]
          rw [sizeG_eq (by unfold inJ; omega), bind_some', unless_eq, bind_some']
          have hb : (decide (az (sg s Q) ≤ 32767) = true) ↔ (Q ≤ 32767) := by
            rw [decide_eq_true_eq, az]
            cases s <;> simp only [sg, Bool.false_eq_true, if_false, if_true] <;> omega
          by_cases hQ : Q ≤ 32767
          · rw [if_pos hQ, if_pos (hb.2 hQ)]
          · rw [if_neg hQ, if_neg (fun h => hQ (hb.1 h))]
        · rw [decide_eq_true (show QP ≠ A from hw), if_pos rfl, if_pos hw]
      · cases s <;> simp only [sg, Bool.false_eq_true, if_false, if_true, Bool.or_eq_true, decide_eq_true_eq] <;> omega
      · cases s <;> simp only [sg, Bool.false_eq_true, if_false, if_true, Bool.or_eq_true, decide_eq_true_eq] <;> omega
  · have h1 : single.order b b = some .eq := by
      unfold Format.order
      rw [h]
      cases s <;> rfl
    rw [h1, sub_inf single h, h]
    rfl
  · have h1 : single.order b b = none := by
      unfold Format.order
      rw [h]
      rfl
    rw [h1, h]
    rfl
end Go.Sh
end

section
namespace Go.Sh
open Go Go.Proofs Go.RowKit Go.Sx Go.Sx06 Ieee Go.Fl
theorem dbl {b : Nat} {s : Bool} {m : Nat} {e : Int} (h : single.read b = .number s m e) (hm : m < 16777216) (he1 : -149 ≤ e) (he2 : e ≤ 104) :
    ∃ m' e', double.read (to64 b) = .number s m' e' ∧ mg KK m' e' = mg KK m e ∧ -1074 ≤ e' ∧ m' < 9007199254740992 := by
  have e0 : to64 b = double.write (.number s m e) := by
    unfold to64 FloatKind.encode FloatKind.decode
    simp only [show FloatKind.format .f32 = single from rfl, show FloatKind.format .f64 = double from rfl, h]
  rw [e0]
  by_cases h0 : m = 0
  · subst h0
    exact ⟨0, -1074, zero64 s e, by simp [mg], by omega, by omega⟩
  · obtain ⟨h1, h2⟩ := round64 (s := s) h0 (by omega) (show -1000 ≤ e by omega) (show e ≤ 900 by omega)
    have hw := write64 (s := s) h0 (by omega) (show -1000 ≤ e by omega) (show e ≤ 900 by omega)
    refine ⟨_, _, h1, ?_, by omega, hw.2.2.2⟩
    unfold mg
    rw [Nat.mul_assoc, ← Nat.pow_add]
    congr 2
    unfold KK
    omega
theorem even_cut {s : Bool} {n : Nat} (h2 : n % 2 = 0) (hn : 2 ≤ n) : Toward.cut .even s n 1 = n / 2 := by
  have hg : (1 <<< min 1 (n.log2 + 2)) = 2 := by rw [Nat.min_eq_left (by omega)]; rfl
  simp [Toward.cut, hg, h2]
theorem near64 {n : Int} (hn : n.natAbs < 18014398509481984) (he : 9007199254740992 ≤ n.natAbs → n.natAbs % 2 = 0) :
    ∃ m e, double.read (FloatKind.nearest .f64 n) = .number (decide (n < 0)) m e ∧ mg KK m e = n.natAbs * PP ∧ -1074 ≤ e := by
  have e0 : FloatKind.nearest .f64 n = double.write (.number (decide (n < 0)) n.natAbs 0) := rfl
  rw [e0]
  generalize decide (n < 0) = s
  generalize n.natAbs = a at *
  by_cases h0 : a = 0
  · subst h0
    exact ⟨0, -1074, zero64 s 0, by simp [mg], by omega⟩
  · by_cases hs : a < 9007199254740992
    · obtain ⟨h1, h2⟩ := round64 (s := s) h0 hs (show (-1000 : Int) ≤ 0 by omega) (show (0 : Int) ≤ 900 by omega)
      refine ⟨_, _, h1, ?_, by omega⟩
      rw [PP_eq]; unfold mg
      rw [Nat.mul_assoc, ← Nat.pow_add]
      congr 2
      unfold KK
      omega
    · have hev := he (by omega)
      have hl : a.log2 = 53 := by
        have h1 := (Nat.log2_lt h0 (k := 54)).2 (by omega)
        have h2 : ¬ a.log2 < 53 := fun h => by have := (Nat.log2_lt h0 (k := 53)).1 h; omega
        omega
      have e2 : double.binade = 4503599627370496 := rfl
      have e3 : double.infRung = 9218868437227405312 := rfl
      have e4 : double.leastPlace = -1074 := rfl
      have e5 : double.fractionBits = 52 := rfl
      have hw : double.write (.number s a 0) = double.word s (1075 * 4503599627370496 + a / 2) := by
        simp only [Format.write, Format.nearest, if_neg h0, e2, e3, e4, e5, hl]
        have hlast : max ((0 : Int) + ((53 : Nat) : Int) - ((52 : Nat) : Int)) (-1074) = 1 := by omega
        rw [hlast]
        have ha : ((0 : Int) - 1).toNat = 0 := by omega
        have hb : ((1 : Int) - 0).toNat = 1 := by omega
        rw [ha, hb, Nat.shiftLeft_zero, even_cut hev (by omega)]
        have hc : ((1 : Int) - -1074).toNat = 1075 := by omega
        rw [hc, Nat.min_eq_left (by omega)]
      rw [hw, read_word64 (by omega) (by omega)]
      refine ⟨_, _, rfl, ?_, by omega⟩
      have hb : (1075 * 4503599627370496 + a / 2) / 4503599627370496 - 1 = 1075 := by omega
      have ha : 4503599627370496 + (1075 * 4503599627370496 + a / 2) % 4503599627370496 = a / 2 := by omega
      rw [ha, hb]
      have hc : (-1074 : Int) + ((1075 : Nat) : Int) = ((1 : Nat) : Int) := by omega
      rw [hc, mg_up]
      congr 1
      omega
theorem isWhole_eq {f : Nat} {s : Bool} {m : Nat} {e : Int} (h : double.read f = .number s m e) (he : -1074 ≤ e) (hm : m < 9007199254740992) :
    y82 f = some (decide (10000000000000000 * PP < mg KK m e ∨ mg KK m e / PP * PP = mg KK m e)) := by
  have hz : Format.order double 0 0 = some .eq := by decide
  have h1 : double.order f f = some .eq := by
    unfold Format.order
    rw [h, order_mg KK (by unfold KK; omega) (by unfold KK; omega), Int.compare_eq_eq.2 rfl]
  have hA : double.order f 14069741636278059008 = some (compare (sg s (mg KK m e)) (-((10000000000000000 * PP : Nat) : Int))) := by
    unfold Format.order
    have hc : double.read 14069741636278059008 = .number true 5000000000000000 1 := by decide
    rw [h, hc, order_mg KK (by unfold KK; omega) (by unfold KK; omega)]
    rw [mg_16]
    first | rw [sg_f] | rw [sg_t]
  have hB : double.order f 4846369599423283200 = some (compare (sg s (mg KK m e)) ((10000000000000000 * PP : Nat) : Int)) := by
    unfold Format.order
    have hc : double.read 4846369599423283200 = .number false 5000000000000000 1 := by decide
    rw [h, hc, order_mg KK (by unfold KK; omega) (by unfold KK; omega)]
    rw [mg_16]
    first | rw [sg_f] | rw [sg_t]
  have hT : Datum.toInt .zero (FloatKind.decode .f64 f) = some (sg s (mg KK m e / PP)) := by
    unfold FloatKind.decode
    simp only [show FloatKind.format .f64 = double from rfl]
    rw [h, toIntP (by unfold KK; omega)]
  have hq : f2i .f64 f = sg s (mg KK m e / PP) := by unfold f2i; rw [hT]; rfl
  have hev : 9007199254740992 ≤ mg KK m e / PP → mg KK m e / PP % 2 = 0 := by
    intro hge
    by_cases hp : 0 ≤ e
    · obtain ⟨d, rfl⟩ : ∃ d : Nat, e = d := ⟨e.toNat, by omega⟩
      rw [mg_up, Nat.mul_div_cancel _ PP_pos] at hge ⊢
      cases d with
      | zero => simp at hge; omega
      | succ d => rw [Nat.pow_succ, ← Nat.mul_assoc]; exact Nat.mul_mod_left _ _
    · have hlt : mg KK m e / PP < 9007199254740992 := by
        rw [Nat.div_lt_iff_lt_mul PP_pos]
        rw [PP_eq]; unfold mg
        have h2 : 2 ^ (e + KK).toNat ≤ 2 ^ KK := Nat.pow_le_pow_right (by omega) (by omega)
        calc m * 2 ^ (e + KK).toNat ≤ m * 2 ^ KK := Nat.mul_le_mul_left _ h2
          _ < 9007199254740992 * 2 ^ KK := Nat.mul_lt_mul_of_pos_right hm (Nat.two_pow_pos _)
      omega
  unfold y82
  simp only [show FloatKind.format .f64 = double from rfl]
  rw [h1, sub_self double h, hA, hB]
  simp only [Option.isSome_some, Option.getD_some, hz, if_true, bne_self_eq_false, Bool.false_eq_true, if_false, cmp_gt, cmp_eq, cmp_lt]
  generalize hg : mg KK m e = A at *
  have hP := PP_pos
  have hdm := Nat.div_add_mod A PP
  rw [Nat.mul_comm] at hdm
  have hml := Nat.mod_lt A hP
  by_cases hbig : 10000000000000000 * PP < A
  · rw [decide_eq_true (show _ ∨ _ from .inl hbig)]
    cases s
    · rw [if_pos, if_pos]
      · simp only [sg, Bool.false_eq_true, if_false, Bool.not_eq_true', Bool.or_eq_false_iff, decide_eq_false_iff_not]
        omega
      · simp only [sg, Bool.false_eq_true, if_false, Bool.or_eq_true, decide_eq_true_eq]
        omega
    · rw [if_neg]
      simp only [sg, if_true, Bool.or_eq_true, decide_eq_true_eq]
      omega
  · have hd : A / PP ≤ 10000000000000000 := by
      have : A / PP < 10000000000000001 := by rw [Nat.div_lt_iff_lt_mul hP]; omega
      omega
    generalize A / PP = Q at *
    generalize A % PP = R at *
    generalize hQP : Q * PP = QP at *
    rw [if_pos, if_neg]
    · have hok : f2iOk .f64 .i64 f = true := by
        unfold f2iOk
        rw [hT]
        have e1 : IntKind.i64.min = -9223372036854775808 := rfl
        have e2 : IntKind.i64.max = 9223372036854775807 := rfl
        simp only [e1, e2, decide_eq_true_eq]
        cases s <;> simp only [sg, Bool.false_eq_true, if_false, if_true] <;> omega
      rw [if_pos hok]
      have habs : (sg s Q).natAbs = Q := by cases s <;> simp only [sg, Bool.false_eq_true, if_false, if_true] <;> omega
      obtain ⟨m', e', h3, h4, h5⟩ := near64 (n := sg s Q) (by rw [habs]; omega) (by rw [habs]; exact hev)
      have hC : double.order (FloatKind.nearest .f64 (f2i .f64 f)) f = some (compare (sg s Q * (PP : Int)) (sg s A)) := by
        unfold Format.order
        rw [hq, h3, h, order_mg KK (by unfold KK; omega) (by unfold KK; omega), h4, hg, sg_mul, sg_natAbs]
      rw [hC, cmp_eq, ← sg_mul, hQP]
      congr 1
      rw [decide_eq_decide]
      cases s <;> simp only [sg, Bool.false_eq_true, if_false, if_true] <;> omega
    · simp only [Bool.not_eq_true', Bool.or_eq_false_iff, decide_eq_false_iff_not]
      cases s <;> simp only [sg, Bool.false_eq_true, if_false, if_true] <;> omega
    · simp only [Bool.or_eq_true, decide_eq_true_eq]
      cases s <;> simp only [sg, Bool.false_eq_true, if_false, if_true] <;> omega
end Go.Sh
end

section
namespace Go.Sh
open Go Go.Proofs Go.RowKit Go.Sx
set_option linter.unusedVariables false
def k_R05_Copy : List SV := [.a [.d, .r (.floats .f32 []), .d, .d]]
def y3 (u4 : Int) (u5 : List Nat) (u0 : Int) (u6 : Int) : Option (Int × List Nat × Int × Int) :=
  Option.bind (y4 u4 u5) fun r0 =>
  some (r0.1, r0.2, u0, u6)
def g_R05_Copy : List Lf → Option GT
  | [.d (.i .i64 u4), .r (.floats .f32 u5), .d (.i .i64 u0), .d (.i .i64 u6)] => some (.leaf (ok (y3 u4 u5 u0 u6)) [.s [.d (.i .i64 ((val (y3 u4 u5 u0 u6)).1)), .row 54 (.floats .f32 ((val (y3 u4 u5 u0 u6)).2.1)), .d (.i .i64 ((val (y3 u4 u5 u0 u6)).2.2.1)), .d (.i .i64 ((val (y3 u4 u5 u0 u6)).2.2.2))]])
  | _ => none
abbrev sp_16 : Specs → Specs := addK 16 true (pureT k_R05_Copy g_R05_Copy)
set_option maxRecDepth 100000 in
def R05_Copy_t (u4 : Int) (u5 : List Nat) (u0 : Int) (u6 : Int) : T (Int × List Nat × Int × Int) :=
 .call (y4 u4 u5) fun r0 =>
  .obT
  (.ret ((r0.1, r0.2, u0, u6)) (fun r => (Ob (r0.1 = r.1) ∧
 (Ob (r0.2 = r.2.1) ∧
 (Ob (u0 = r.2.2.1) ∧
 (Ob (u6 = r.2.2.2) ∧
 True))))) ⟨⟨rfl⟩, ⟨⟨rfl⟩, ⟨⟨rfl⟩, ⟨⟨rfl⟩, trivial⟩⟩⟩⟩)
set_option maxRecDepth 100000 in
theorem R05_Copy_vc (u4 : Int) (u5 : List Nat) (u0 : Int) (u6 : Int) (r : Int × List Nat × Int × Int) (h : Option.bind (y3 u4 u5 u0 u6) some = some r) : runT Tryd.f16 ((sp_14 sp0)) (fun _ _ _ => none) (bldD k_R05_Copy [.d (.i .i64 u4), .r (.floats .f32 u5), .d (.i .i64 u0), .d (.i .i64 u6)]) [.s [.d (.i .i64 r.1), .row 54 (.floats .f32 r.2.1), .d (.i .i64 r.2.2.1), .d (.i .i64 r.2.2.2)]] :=
  T.vc (t := R05_Copy_t u4 u5 u0 u6) (by kernel_rfl) (by kernel_rfl) h
set_option maxRecDepth 100000 in
theorem R05_Copy_ok : SpecOK Tryd.prog 16 true (pureT k_R05_Copy g_R05_Copy) := by
  refine pureT_ok (sp := (sp_14 sp0)) (fn := Tryd.f16) (body := bodyOf Tryd.f16) mixed (sp_14_ok sp0_ok) Tryd.func16 (by kernel_rfl) (by kernel_rfl) fun ls t h ho b hb => ?_
  unfold g_R05_Copy at h
  split at h
  · rename_i u4 u5 u0 u6
    cases h
    obtain rfl := bld_eq hb
    exact ⟨Nat.le_of_ble_eq_true (by kernel_rfl), _, _, R05_Copy_vc u4 u5 u0 u6 _ (ok_some ho)⟩
  · cases h
theorem sp_16_ok {sp : Specs} (h : SpecsOK Tryd.prog sp) : SpecsOK Tryd.prog (sp_16 sp) := addK_ok R05_Copy_ok h
def k_R05_isRate : List (Option Cont) := [none]
def y100 (n : Int) : Option Bool :=
  Option.bind (y38 n (8000 : Int) (192000 : Int)) fun r0 =>
  some r0
def g_R05_isRate : List A → Option (Prop × List RV)
  | [.d (.i .i64 n)] => some (ok (y100 n), [.d (.b ((val (y100 n))))])
  | _ => none
abbrev sp_53 : Specs → Specs := addK 53 true (pureK k_R05_isRate g_R05_isRate)
set_option maxRecDepth 100000 in
def R05_isRate_t (n : Int) : T (Bool) :=
 .call (y38 n (8000 : Int) (192000 : Int)) fun r0 =>
  .obT
  (.ret (r0) (fun r => (Ob (r0 = r) ∧
 True)) ⟨⟨rfl⟩, trivial⟩)
set_option maxRecDepth 100000 in
theorem R05_isRate_vc (n : Int) (r : Bool) (h : Option.bind (y100 n) some = some r) : runF Tryd.f53 ((sp_11 sp0)) (fun _ _ _ => none) [.d (.i .i64 n)] [.d (.b r)] :=
  T.vc (t := R05_isRate_t n) (by kernel_rfl) (by kernel_rfl) h
set_option maxRecDepth 100000 in
theorem R05_isRate_ok : SpecOK Tryd.prog 53 true (pureK k_R05_isRate g_R05_isRate) := by
  refine pureK_ok (sp := (sp_11 sp0)) (fn := Tryd.f53) (body := bodyOf Tryd.f53) mixed (sp_11_ok sp0_ok) Tryd.func53 (by kernel_rfl) (by kernel_rfl) fun as_ ob rs h ho => ?_
  unfold g_R05_isRate at h
  split at h
  · rename_i n
    cases h
    exact ⟨Nat.le_of_ble_eq_true rfl, _, _, R05_isRate_vc n _ (ok_some ho)⟩
  · cases h
theorem sp_53_ok {sp : Specs} (h : SpecsOK Tryd.prog sp) : SpecsOK Tryd.prog (sp_53 sp) := addK_ok R05_isRate_ok h
def y107 : List SV := [.a [.d, .r (.floats .f32 [])]]
def y30 (u15 : List Nat) (x0 : Int) : Option (Int ⊕ ((Int × Int) ⊕ Unit)) :=
  if x0 < (↑(List.length u15) : Int) then
   if (0 : Int) ≤ x0 ∧ x0 < (↑(List.length u15) : Int) then
    if Int.toNat x0 < List.length u15 then
     if (isNan32 (List.getD u15 (Int.toNat x0) (0 : Nat))) = true then
      some (.inr ((.inl ((x0, (27 : Int))))))
     else
      Option.bind (y82 (to64 (List.getD u15 (Int.toNat x0) (0 : Nat)))) fun r1 =>
      if (!r1) = true then
       some (.inr ((.inl ((x0, (27 : Int))))))
      else
       if (Ieee.Format.order (FloatKind.format .f64) (to64 (List.getD u15 (Int.toNat x0) (0 : Nat))) (4674736138332667904 : Nat) == some Ordering.gt) = true then
        some (.inr ((.inl ((x0, (2 : Int))))))
       else
        if (Ieee.Format.order (FloatKind.format .f64) (to64 (List.getD u15 (Int.toNat x0) (0 : Nat))) (13898108175187443712 : Nat) == some Ordering.lt) = true then
         some (.inr ((.inl ((x0, (2 : Int))))))
        else
         some (.inl (IntKind.wrap .i64 (x0 + (1 : Int))))
    else none
   else none
  else
   some (.inr ((.inr ())))
def R05_CheckResponse_r0_0 (u17 : Int × Int) : Option (Int × Int) :=
  some (u17.1, u17.2)
def R05_CheckResponse_r0_1 (u25 : Unit) : Option (Int × Int) :=
  some (((0 : Int), (0 : Int)))
def y69 : ((Int × Int) ⊕ Unit) → Option (Int × Int) :=
  (Sum.elim (R05_CheckResponse_r0_0) (R05_CheckResponse_r0_1))
def y31 (u16 : Int) (u15 : List Nat) : Option (Int × Int) :=
  Option.bind (y100 u16) fun r0 =>
  if (!r0) = true then
   some (((0 : Int), (2 : Int)))
  else
   if ((↑(List.length u15) : Int) == (0 : Int)) = true then
    some (((0 : Int), (10 : Int)))
   else
    if (↑(List.length u15) : Int) > (1024 : Int) then
     some (((0 : Int), (8 : Int)))
    else
     Option.bind (iter (y30 u15) big (0 : Int)) (y69)
def y108 : List Lf → Option GT
  | [.d (.i .i64 u16), .r (.floats .f32 u15)] => some (.leaf (ok (y31 u16 u15)) [.c (.d (.i .i64 ((val (y31 u16 u15)).1))), .c (.d (.i .i64 ((val (y31 u16 u15)).2)))])
  | _ => none
abbrev sp_18 : Specs → Specs := addK 18 true (pureT y107 y108)
set_option maxRecDepth 100000 in
theorem R05_CheckResponse_vc (u16 : Int) (u15 : List Nat) (r : Int × Int) (h : Option.bind (y31 u16 u15) some = some r) : runT Tryd.f18 ((sp_53 (sp_54 sp0))) (fun gs id _ => match id with
 | 0 => some ⟨Int × Nat, fun z => ⟨[(1, .w (.c (.p 1 (0 : Nat) 1 (0 : Nat)))), (4, .w (.c (.d (.i .i64 (Prod.fst z)))))], [(1, .box 34 [.d (.i .i64 u16), .o 0]), (0, .ext (.floats .f32 u15))], 2⟩, fun z => Option.bind (iter (y30 u15) (Prod.snd z) (Prod.fst z)) (fun y0 => Option.bind (y69 y0) some) = some r, fun z => Prod.snd z⟩
 | _ => none) (bldD y107 [.d (.i .i64 u16), .r (.floats .f32 u15)]) [.c (.d (.i .i64 r.1)), .c (.d (.i .i64 r.2))] := by
  refine Eq.mp (by kernel_rfl : (
 (Ob (ok (y100 u16)) ∧
 Br (!val (y100 u16))
   ((Ob (True) ∧
 (Ob (True) ∧
 (Ob ((0 : Int) = r.1) ∧
 (Ob ((2 : Int) = r.2) ∧
 True)))))
 (Br ((↑(List.length u15) : Int) == (0 : Int))
   ((Ob (True) ∧
 (Ob (True) ∧
 (Ob ((0 : Int) = r.1) ∧
 (Ob ((10 : Int) = r.2) ∧
 True)))))
 (Br (decide ((↑(List.length u15) : Int) > (1024 : Int)))
   ((Ob (True) ∧
 (Ob (True) ∧
 (Ob ((0 : Int) = r.1) ∧
 (Ob ((8 : Int) = r.2) ∧
 True)))))
   (((∃ (v0 : Int × Nat), (Ob ((Option.bind (iter (y30 u15) v0.2 v0.1) fun y0 => Option.bind (y69 y0) some) = some r) ∧
 (Ob ((0 : Nat) = (0 : Nat)) ∧
 (Ob ((0 : Int) = v0.1) ∧
 (Ob (u16 = u16) ∧
 (Ob (u15 = u15) ∧
 True)))))) ∧
   (∀ (v0 : Int × Nat), ((Option.bind (iter (y30 u15) v0.2 v0.1) fun y0 => Option.bind (y69 y0) some) = some r →
 Br (decide (v0.1 < (↑(List.length u15) : Int)))
   ((Ob ((0 : Int) ≤ v0.1 ∧ v0.1 < (↑(List.length u15) : Int)) ∧
 (Ob (Int.toNat v0.1 < List.length u15) ∧
 Br (isNan32 (List.getD u15 (Int.toNat v0.1) (0 : Nat)))
   ((Ob (True) ∧
 (Ob (ok y134) ∧
 (Ob (True) ∧
 (Ob (True) ∧
 (Ob (v0.1 = r.1) ∧
 (Ob ((27 : Int) = r.2) ∧
 True)))))))
   ((Ob (True) ∧
 (Ob (ok (y82 (to64 (List.getD u15 (Int.toNat v0.1) (0 : Nat))))) ∧
 Br (!val (y82 (to64 (List.getD u15 (Int.toNat v0.1) (0 : Nat)))))
   ((Ob (True) ∧
 (Ob (True) ∧
 (Ob (v0.1 = r.1) ∧
 (Ob ((27 : Int) = r.2) ∧
 True)))))
 (Br (Ieee.Format.order (FloatKind.format .f64) (to64 (List.getD u15 (Int.toNat v0.1) (0 : Nat))) (4674736138332667904 : Nat) == some Ordering.gt)
   ((Ob (True) ∧
 (Ob (True) ∧
 (Ob (v0.1 = r.1) ∧
 (Ob ((2 : Int) = r.2) ∧
 True)))))
 (Br (Ieee.Format.order (FloatKind.format .f64) (to64 (List.getD u15 (Int.toNat v0.1) (0 : Nat))) (13898108175187443712 : Nat) == some Ordering.lt)
   ((Ob (True) ∧
 (Ob (True) ∧
 (Ob (v0.1 = r.1) ∧
 (Ob ((2 : Int) = r.2) ∧
 True)))))
   ((∃ (v1 : Int × Nat), (Ob ((Option.bind (iter (y30 u15) v1.2 v1.1) fun y0 => Option.bind (y69 y0) some) = some r) ∧
 (Ob (v1.2 < v0.2) ∧
 (Ob ((0 : Nat) = (0 : Nat)) ∧
 (Ob (IntKind.wrap .i64 (v0.1 + (1 : Int)) = v1.1) ∧
 (Ob (u16 = u16) ∧
 (Ob (u15 = u15) ∧
 True))))))))))))))))
   ((Ob (True) ∧
 (Ob (True) ∧
 (Ob ((0 : Int) = r.1) ∧
 (Ob ((0 : Int) = r.2) ∧
 True))))))))))))) = _) ?_
  refine call_s h fun h => ?_
  refine br_b h (fun h => ?_) (fun h => ?_)
  · refine ob_t ?_
    refine ob_t ?_
    exact ret_s h (fun e => by subst e; exact (by repeat' constructor))
  · refine br_b h (fun h => ?_) (fun h => ?_)
    · refine ob_t ?_
      refine ob_t ?_
      exact ret_s h (fun e => by subst e; exact (by repeat' constructor))
    · refine br_d h (fun h => ?_) (fun h => ?_)
      · refine ob_t ?_
        refine ob_t ?_
        exact ret_s h (fun e => by subst e; exact (by repeat' constructor))
      · refine ⟨⟨((0 : Int), big), ⟨loop_s h⟩, (by repeat' constructor)⟩, fun z2 hz2 => ?_⟩
        obtain ⟨k2, hm2, h⟩ := iter_pos hz2
        refine br_d h (fun h => ?_) (fun h => ?_)
        · refine ob_s h fun h => ?_
          refine ob_s h fun h => ?_
          refine br_b h (fun h => ?_) (fun h => ?_)
          · refine ob_t ?_
            refine ob_c (p := ok y134) (by decide) ?_
            have h := exit_s h
            refine ob_t ?_
            refine ob_t ?_
            exact ret_s h (fun e => by subst e; exact (by repeat' constructor))
          · refine ob_t ?_
            refine call_s h fun h => ?_
            refine br_b h (fun h => ?_) (fun h => ?_)
            · have h := exit_s h
              refine ob_t ?_
              refine ob_t ?_
              exact ret_s h (fun e => by subst e; exact (by repeat' constructor))
            · refine br_b h (fun h => ?_) (fun h => ?_)
              · have h := exit_s h
                refine ob_t ?_
                refine ob_t ?_
                exact ret_s h (fun e => by subst e; exact (by repeat' constructor))
              · refine br_b h (fun h => ?_) (fun h => ?_)
                · have h := exit_s h
                  refine ob_t ?_
                  refine ob_t ?_
                  exact ret_s h (fun e => by subst e; exact (by repeat' constructor))
                · exact ⟨(IntKind.wrap .i64 (Prod.fst z2 + (1 : Int)), k2), ⟨next_s h⟩, ⟨lt_gs hm2.symm⟩, (by repeat' constructor)⟩
        · have h := exit_s h
          refine ob_t ?_
          refine ob_t ?_
          exact ret_s h (fun e => by subst e; exact (by repeat' constructor))
set_option maxRecDepth 100000 in
theorem R05_CheckResponse_ok : SpecOK Tryd.prog 18 true (pureT y107 y108) := by
  refine pureT_ok (sp := (sp_53 (sp_54 sp0))) (fn := Tryd.f18) (body := bodyOf Tryd.f18) mixed (sp_53_ok (sp_54_ok sp0_ok)) Tryd.func18 (by kernel_rfl) (by kernel_rfl) fun ls t h ho b hb => ?_
  unfold y108 at h
  split at h
  · rename_i u16 u15
    cases h
    obtain rfl := bld_eq hb
    exact ⟨Nat.le_of_ble_eq_true (by kernel_rfl), _, _, R05_CheckResponse_vc u16 u15 _ (ok_some ho)⟩
  · cases h
theorem sp_18_ok {sp : Specs} (h : SpecsOK Tryd.prog sp) : SpecsOK Tryd.prog (sp_18 sp) := addK_ok R05_CheckResponse_ok h
def y125 : List SV := [.a [.d, .r (.floats .f32 [])]]
def y47 (u16 : Int) (u15 : List Nat) : Option Int :=
  Option.bind (y31 u16 u15) fun r0 =>
  some r0.2
def y126 : List Lf → Option GT
  | [.d (.i .i64 u16), .r (.floats .f32 u15)] => some (.leaf (ok (y47 u16 u15)) [.c (.d (.i .i64 ((val (y47 u16 u15)))))])
  | _ => none
abbrev sp_23 : Specs → Specs := addK 23 true (pureT y125 y126)
set_option maxRecDepth 100000 in
def R05_ResponseErr_t (u16 : Int) (u15 : List Nat) : T (Int) :=
 .call (y31 u16 u15) fun r0 =>
  .obT
  (.ret (r0.2) (fun r => (Ob (r0.2 = r) ∧
 True)) ⟨⟨rfl⟩, trivial⟩)
set_option maxRecDepth 100000 in
theorem R05_ResponseErr_vc (u16 : Int) (u15 : List Nat) (r : Int) (h : Option.bind (y47 u16 u15) some = some r) : runT Tryd.f23 ((sp_18 sp0)) (fun _ _ _ => none) (bldD y125 [.d (.i .i64 u16), .r (.floats .f32 u15)]) [.c (.d (.i .i64 r))] :=
  T.vc (t := R05_ResponseErr_t u16 u15) (by kernel_rfl) (by kernel_rfl) h
set_option maxRecDepth 100000 in
theorem R05_ResponseErr_ok : SpecOK Tryd.prog 23 true (pureT y125 y126) := by
  refine pureT_ok (sp := (sp_18 sp0)) (fn := Tryd.f23) (body := bodyOf Tryd.f23) mixed (sp_18_ok sp0_ok) Tryd.func23 (by kernel_rfl) (by kernel_rfl) fun ls t h ho b hb => ?_
  unfold y126 at h
  split at h
  · rename_i u16 u15
    cases h
    obtain rfl := bld_eq hb
    exact ⟨Nat.le_of_ble_eq_true (by kernel_rfl), _, _, R05_ResponseErr_vc u16 u15 _ (ok_some ho)⟩
  · cases h
theorem sp_23_ok {sp : Specs} (h : SpecsOK Tryd.prog sp) : SpecsOK Tryd.prog (sp_23 sp) := addK_ok R05_ResponseErr_ok h
def k_R05_CheckAsk : List SV := [.a [.d, .r (.floats .f32 []), .d, .d]]
def y83 (u4 : Int) (u5 : List Nat) (u0 : Int) (u6 : Int) : Option (Int × Int) :=
  Option.bind (y31 u4 u5) fun r0 =>
  if (r0.2 != (0 : Int)) = true then
   some (r0.1, r0.2)
  else
   Option.bind (y38 u0 (0 : Int) (32767 : Int)) fun r1 =>
   if (!r1) = true then
    some (((0 : Int), (2 : Int)))
   else
    Option.bind (y38 u6 (0 : Int) (1000000000000 : Int)) fun r2 =>
    if (!r2) = true then
     some (((0 : Int), (2 : Int)))
    else
     some (((0 : Int), (0 : Int)))
def g_R05_CheckAsk : List Lf → Option GT
  | [.d (.i .i64 u4), .r (.floats .f32 u5), .d (.i .i64 u0), .d (.i .i64 u6)] => some (.leaf (ok (y83 u4 u5 u0 u6)) [.c (.d (.i .i64 ((val (y83 u4 u5 u0 u6)).1))), .c (.d (.i .i64 ((val (y83 u4 u5 u0 u6)).2)))])
  | _ => none
abbrev sp_19 : Specs → Specs := addK 19 true (pureT k_R05_CheckAsk g_R05_CheckAsk)
set_option maxRecDepth 100000 in
def R05_CheckAsk_t (u4 : Int) (u5 : List Nat) (u0 : Int) (u6 : Int) : T (Int × Int) :=
 .call (y31 u4 u5) fun r0 =>
  .brB (r0.2 != (0 : Int))
  (.obT
  (.obT
  (.ret ((r0.1, r0.2)) (fun r => (Ob (r0.1 = r.1) ∧
 (Ob (r0.2 = r.2) ∧
 True))) ⟨⟨rfl⟩, ⟨⟨rfl⟩, trivial⟩⟩)))
  (.call (y38 u0 (0 : Int) (32767 : Int)) fun r1 =>
  .brB (!r1)
  (.obT
  (.obT
  (.ret ((((0 : Int), (2 : Int)))) (fun r => (Ob ((0 : Int) = r.1) ∧
 (Ob ((2 : Int) = r.2) ∧
 True))) ⟨⟨rfl⟩, ⟨⟨rfl⟩, trivial⟩⟩)))
  (.call (y38 u6 (0 : Int) (1000000000000 : Int)) fun r2 =>
  .brB (!r2)
  (.obT
  (.obT
  (.ret ((((0 : Int), (2 : Int)))) (fun r => (Ob ((0 : Int) = r.1) ∧
 (Ob ((2 : Int) = r.2) ∧
 True))) ⟨⟨rfl⟩, ⟨⟨rfl⟩, trivial⟩⟩)))
  (.obT
  (.obT
  (.ret ((((0 : Int), (0 : Int)))) (fun r => (Ob ((0 : Int) = r.1) ∧
 (Ob ((0 : Int) = r.2) ∧
 True))) ⟨⟨rfl⟩, ⟨⟨rfl⟩, trivial⟩⟩)))))
set_option maxRecDepth 100000 in
theorem R05_CheckAsk_vc (u4 : Int) (u5 : List Nat) (u0 : Int) (u6 : Int) (r : Int × Int) (h : Option.bind (y83 u4 u5 u0 u6) some = some r) : runT Tryd.f19 ((sp_18 (sp_11 sp0))) (fun _ _ _ => none) (bldD k_R05_CheckAsk [.d (.i .i64 u4), .r (.floats .f32 u5), .d (.i .i64 u0), .d (.i .i64 u6)]) [.c (.d (.i .i64 r.1)), .c (.d (.i .i64 r.2))] :=
  T.vc (t := R05_CheckAsk_t u4 u5 u0 u6) (by kernel_rfl) (by kernel_rfl) h
set_option maxRecDepth 100000 in
theorem R05_CheckAsk_ok : SpecOK Tryd.prog 19 true (pureT k_R05_CheckAsk g_R05_CheckAsk) := by
  refine pureT_ok (sp := (sp_18 (sp_11 sp0))) (fn := Tryd.f19) (body := bodyOf Tryd.f19) mixed (sp_18_ok (sp_11_ok sp0_ok)) Tryd.func19 (by kernel_rfl) (by kernel_rfl) fun ls t h ho b hb => ?_
  unfold g_R05_CheckAsk at h
  split at h
  · rename_i u4 u5 u0 u6
    cases h
    obtain rfl := bld_eq hb
    exact ⟨Nat.le_of_ble_eq_true (by kernel_rfl), _, _, R05_CheckAsk_vc u4 u5 u0 u6 _ (ok_some ho)⟩
  · cases h
theorem sp_19_ok {sp : Specs} (h : SpecsOK Tryd.prog sp) : SpecsOK Tryd.prog (sp_19 sp) := addK_ok R05_CheckAsk_ok h
def k_R05_AskErr : List SV := [.a [.d, .r (.floats .f32 []), .d, .d]]
def y95 (u4 : Int) (u5 : List Nat) (u0 : Int) (u6 : Int) : Option Int :=
  Option.bind (y83 u4 u5 u0 u6) fun r0 =>
  some r0.2
def g_R05_AskErr : List Lf → Option GT
  | [.d (.i .i64 u4), .r (.floats .f32 u5), .d (.i .i64 u0), .d (.i .i64 u6)] => some (.leaf (ok (y95 u4 u5 u0 u6)) [.c (.d (.i .i64 ((val (y95 u4 u5 u0 u6)))))])
  | _ => none
abbrev sp_21 : Specs → Specs := addK 21 true (pureT k_R05_AskErr g_R05_AskErr)
set_option maxRecDepth 100000 in
def R05_AskErr_t (u4 : Int) (u5 : List Nat) (u0 : Int) (u6 : Int) : T (Int) :=
 .call (y83 u4 u5 u0 u6) fun r0 =>
  .obT
  (.ret (r0.2) (fun r => (Ob (r0.2 = r) ∧
 True)) ⟨⟨rfl⟩, trivial⟩)
set_option maxRecDepth 100000 in
theorem R05_AskErr_vc (u4 : Int) (u5 : List Nat) (u0 : Int) (u6 : Int) (r : Int) (h : Option.bind (y95 u4 u5 u0 u6) some = some r) : runT Tryd.f21 ((sp_19 sp0)) (fun _ _ _ => none) (bldD k_R05_AskErr [.d (.i .i64 u4), .r (.floats .f32 u5), .d (.i .i64 u0), .d (.i .i64 u6)]) [.c (.d (.i .i64 r))] :=
  T.vc (t := R05_AskErr_t u4 u5 u0 u6) (by kernel_rfl) (by kernel_rfl) h
set_option maxRecDepth 100000 in
theorem R05_AskErr_ok : SpecOK Tryd.prog 21 true (pureT k_R05_AskErr g_R05_AskErr) := by
  refine pureT_ok (sp := (sp_19 sp0)) (fn := Tryd.f21) (body := bodyOf Tryd.f21) mixed (sp_19_ok sp0_ok) Tryd.func21 (by kernel_rfl) (by kernel_rfl) fun ls t h ho b hb => ?_
  unfold g_R05_AskErr at h
  split at h
  · rename_i u4 u5 u0 u6
    cases h
    obtain rfl := bld_eq hb
    exact ⟨Nat.le_of_ble_eq_true (by kernel_rfl), _, _, R05_AskErr_vc u4 u5 u0 u6 _ (ok_some ho)⟩
  · cases h
theorem sp_21_ok {sp : Specs} (h : SpecsOK Tryd.prog sp) : SpecsOK Tryd.prog (sp_21 sp) := addK_ok R05_AskErr_ok h
end Go.Sh
end

section
namespace Go.Sh
open Go Go.Proofs Go.RowKit Go.Sx Go.Sx06 Ieee Go.Fl
theorem ord_lo64 {b : Nat} {s : Bool} {m : Nat} {e : Int} (h : double.read b = .number s m e) (he1 : -1074 ≤ e) : double.order b 13898108175187443712 = some (compare (sg s (mg KK m e)) (-((32767 * PP : Nat) : Int))) := by
  unfold Format.order
  have hc : double.read 13898108175187443712 = .number true 9006924376834048 (-38) := by decide
  rw [h, hc, order_mg KK (by unfold KK; omega) (by unfold KK; omega)]
  have : mg KK 9006924376834048 (-38) = 32767 * PP := by
    rw [PP_eq]
    unfold mg
    rw [show KK = (-38 + (KK : Int)).toNat + 38 by unfold KK; omega, Nat.pow_add]
    rw [show ((-38 : Int) + (((-38 + (KK : Int)).toNat + 38 : Nat) : Int)).toNat = (-38 + (KK : Int)).toNat by unfold KK; omega]
    generalize 2 ^ (-38 + (KK : Int)).toNat = q
    omega
  rw [this, sg_t]
theorem ord_hi64 {b : Nat} {s : Bool} {m : Nat} {e : Int} (h : double.read b = .number s m e) (he1 : -1074 ≤ e) : double.order b 4674736138332667904 = some (compare (sg s (mg KK m e)) (((32767 * PP : Nat) : Int))) := by
  unfold Format.order
  have hc : double.read 4674736138332667904 = .number false 9006924376834048 (-38) := by decide
  rw [h, hc, order_mg KK (by unfold KK; omega) (by unfold KK; omega)]
  have : mg KK 9006924376834048 (-38) = 32767 * PP := by
    rw [PP_eq]
    unfold mg
    rw [show KK = (-38 + (KK : Int)).toNat + 38 by unfold KK; omega, Nat.pow_add]
    rw [show ((-38 : Int) + (((-38 + (KK : Int)).toNat + 38 : Nat) : Int)).toNat = (-38 + (KK : Int)).toNat by unfold KK; omega]
    generalize 2 ^ (-38 + (KK : Int)).toNat = q
    omega
  rw [this, sg_f]
theorem sampleR {α : Type} (b : Nat) (bad : Int → Option α) (good : Option α) :
    (if isNan32 b = true then bad 27 else Option.bind (y82 (to64 b)) fun r0 => if (!r0) = true then bad 27 else
      if (Format.order (FloatKind.format .f64) (to64 b) 4674736138332667904 == some Ordering.gt) = true then bad 2 else
      if (Format.order (FloatKind.format .f64) (to64 b) 13898108175187443712 == some Ordering.lt) = true then bad 2 else good) = if se b ≠ 0 then bad (se b) else good := by
  simp only [show FloatKind.format .f64 = double from rfl]
  have hdec : FloatKind.decode .f32 b = single.read b := rfl
  unfold isNan32 se
  rw [hdec]
  rcases read32 b with ⟨s, m, e, h, hm, he1, he2⟩ | ⟨s, h⟩ | ⟨s, t, h⟩
  · obtain ⟨m', e', h1, h2, h3, h4⟩ := dbl h hm he1 he2
    have hw : 16777216 * PP ≤ mg KK m e → mg KK m e / PP * PP = mg KK m e := by
      intro hge
      by_cases hp : 0 ≤ e
      · obtain ⟨d, rfl⟩ : ∃ d : Nat, e = d := ⟨e.toNat, by omega⟩
        rw [mg_up, Nat.mul_div_cancel _ PP_pos]
      · exfalso
        have : mg KK m e < 16777216 * PP := by
          rw [PP_eq]
          unfold mg
          have h2 : 2 ^ (e + KK).toNat ≤ 2 ^ KK := Nat.pow_le_pow_right (by omega) (by omega)
          calc m * 2 ^ (e + KK).toNat ≤ m * 2 ^ KK := Nat.mul_le_mul_left _ h2
            _ < 16777216 * 2 ^ KK := Nat.mul_lt_mul_of_pos_right hm (Nat.two_pow_pos _)
        omega
    have hW := isWhole_eq h1 h3 h4
    have hlo := ord_lo64 h1 h3
    have hhi := ord_hi64 h1 h3
    rw [h2] at hlo hhi
    have hse : seD (.number s m e) = if 16777216 * PP ≤ mg KK m e then 2 else if mg KK m e / PP * PP ≠ mg KK m e then 27 else if mg KK m e / PP ≤ 32767 then 0 else 2 := rfl
    rw [h2] at hW
    have hnn : (Datum.number s m e).isNaN = false := rfl
    rw [h, hse, hnn, hW, bind_some', hlo, hhi, cmp_lt, cmp_gt]
    clear h h1 h2 h3 h4 hW hlo hhi hse hnn
    rw [if_neg Bool.false_ne_true]
    obtain ⟨A, hA⟩ : ∃ A, A = mg KK m e := ⟨_, rfl⟩
    rw [← hA] at hw ⊢
    clear hA
    have hP := PP_pos
    have hdm := Nat.div_add_mod A PP
    rw [Nat.mul_comm] at hdm
    have hml := Nat.mod_lt A hP
    have hq1 : A / PP ≤ 32767 ↔ A < 32768 * PP := by
      rw [← Nat.div_lt_iff_lt_mul hP]
      omega
    have hq2 : A / PP * PP = A → (A / PP ≤ 32767 ↔ A ≤ 32767 * PP) := by
      intro hh
      constructor
      · intro h; rw [← hh]; exact Nat.mul_le_mul_right _ h
      · intro h; rw [← hh] at h; exact Nat.le_of_mul_le_mul_right h hP
    generalize A / PP = Q at *
    generalize A % PP = R at *
    generalize hQP : Q * PP = QP at *
    by_cases hbig : 16777216 * PP ≤ A
    · have hww := hw hbig
      rw [if_pos hbig, decide_eq_true (show _ ∨ _ from .inr hww)]
      simp only [Bool.not_true, Bool.false_eq_true, if_false, decide_eq_true_eq]
      rw [if_pos (show (2 : Int) ≠ 0 by omega)]
      cases s
      · rw [if_pos (by rw [sg_f]; omega)]
      · rw [if_neg (by rw [sg_t]; omega), if_pos (by rw [sg_t]; omega)]
    · rw [if_neg hbig]
      by_cases hwh : QP = A
      · rw [decide_eq_true (show _ ∨ _ from .inr hwh), if_neg (show ¬ QP ≠ A by omega)]
        simp only [Bool.not_true, Bool.false_eq_true, if_false, decide_eq_true_eq]
        have hq := hq2 hwh
        by_cases hs : Q ≤ 32767
        · have := hq.1 hs
          rw [if_pos hs, if_neg (show ¬ (0 : Int) ≠ 0 by omega)]
          cases s
          · rw [if_neg (by rw [sg_f]; omega), if_neg (by rw [sg_f]; omega)]
          · rw [if_neg (by rw [sg_t]; omega), if_neg (by rw [sg_t]; omega)]
        · have : ¬ A ≤ 32767 * PP := fun h => hs (hq.2 h)
          rw [if_neg hs, if_pos (show (2 : Int) ≠ 0 by omega)]
          cases s
          · rw [if_pos (by rw [sg_f]; omega)]
          · rw [if_neg (by rw [sg_t]; omega), if_pos (by rw [sg_t]; omega)]
      · rw [decide_eq_false (show ¬ (_ ∨ _) by omega), if_pos (show QP ≠ A from hwh), if_pos (show (27 : Int) ≠ 0 by omega)]
        rfl
  · have h1 : to64 b = double.word s 9218868437227405312 := by
      unfold to64 FloatKind.encode FloatKind.decode
      simp only [show FloatKind.format .f32 = single from rfl, show FloatKind.format .f64 = double from rfl, h]
      rfl
    have h2 : double.read (to64 b) = .infinity s := by rw [h1]; cases s <;> decide
    have h3 : y82 (to64 b) = some false := by
      have ho : double.order (to64 b) (to64 b) = some .eq := by unfold Format.order; rw [h2]; cases s <;> rfl
      unfold y82
      simp only [show FloatKind.format .f64 = double from rfl]
      rw [ho, sub_inf double h2]
      rfl
    rw [h3, h]
    rfl
  · rw [h]
    rfl
theorem nd_t {p : Prop} [Decidable p] (h : p) : (!decide p) = false := by rw [decide_eq_true h]; rfl
theorem nd_f {p : Prop} [Decidable p] (h : ¬ p) : (!decide p) = true := by rw [decide_eq_false h]; rfl
def smpE (l : List Nat) : Int × Int := match l.findIdx? (fun b => se b != 0) with
  | some i => ((i : Int), se (l.getD i 0))
  | none => (0, 0)
def resE (rate : Int) (l : List Nat) : Int × Int :=
  if ¬ (8000 ≤ rate ∧ rate ≤ 192000) then (0, 2) else if l.length = 0 then (0, 10) else if 1024 < l.length then (0, 8) else smpE l
def askE (rate : Int) (l : List Nat) (noise tail : Int) : Int × Int :=
  if (resE rate l).2 ≠ 0 then resE rate l else if (0 ≤ noise ∧ noise ≤ 32767) ∧ (0 ≤ tail ∧ tail ≤ 1000000000000) then (0, 0) else (0, 2)
theorem smpE_zero {l : List Nat} (h : (smpE l).2 = 0) : ∀ b ∈ l, se b = 0 := by
  unfold smpE at h
  cases hf : l.findIdx? (fun b => se b != 0) with
  | none =>
    rw [List.findIdx?_eq_none_iff] at hf
    intro b hb
    simpa using hf b hb
  | some i =>
    rw [hf] at h
    rw [List.findIdx?_eq_some_iff_getElem] at hf
    obtain ⟨hi, hp, _⟩ := hf
    simp [List.getD, hi] at h
    simp [h] at hp
theorem smpE_of {l : List Nat} (h : ∀ b ∈ l, se b = 0) : smpE l = (0, 0) := by
  unfold smpE
  have : l.findIdx? (fun b => se b != 0) = none := by
    rw [List.findIdx?_eq_none_iff]
    intro b hb
    simp [h b hb]
  rw [this]
theorem resE_zero {rate : Int} {l : List Nat} (h : (resE rate l).2 = 0) : (8000 ≤ rate ∧ rate ≤ 192000) ∧ 0 < l.length ∧ l.length ≤ 1024 ∧ ∀ b ∈ l, se b = 0 := by
  unfold resE at h
  split at h
  · simp at h
  · rename_i h1
    split at h
    · simp at h
    · rename_i h2
      split at h
      · simp at h
      · rename_i h3
        exact ⟨Classical.not_not.1 h1, by omega, by omega, smpE_zero h⟩
theorem resE_of {rate : Int} {l : List Nat} (h1 : 8000 ≤ rate ∧ rate ≤ 192000) (h2 : 0 < l.length) (h3 : l.length ≤ 1024) (h4 : ∀ b ∈ l, se b = 0) : resE rate l = (0, 0) := by
  unfold resE
  rw [if_neg (fun h => h h1), if_neg (by omega), if_neg (by omega), smpE_of h4]
theorem resE_fst {rate : Int} {l : List Nat} (h : (resE rate l).2 = 0) : resE rate l = (0, 0) := by
  obtain ⟨h1, h2, h3, h4⟩ := resE_zero h
  exact resE_of h1 h2 h3 h4
theorem askE_zero {rate : Int} {l : List Nat} {noise tail : Int} (h : (askE rate l noise tail).2 = 0) : (resE rate l).2 = 0 ∧ (0 ≤ noise ∧ noise ≤ 32767) ∧ (0 ≤ tail ∧ tail ≤ 1000000000000) := by
  unfold askE at h
  split at h
  · contradiction
  · rename_i h1
    split at h
    · rename_i h2; exact ⟨Classical.not_not.1 h1, h2.1, h2.2⟩
    · simp at h
theorem askE_plain (rate : Int) (l : List Nat) : askE rate l 0 0 = resE rate l := by
  unfold askE
  by_cases h : (resE rate l).2 ≠ 0
  · rw [if_pos h]
  · rw [if_neg h, if_pos (by omega), resE_fst (by omega)]
theorem checkResponseG_eq (rate : Int) {l : List Nat} (hl : l.length < 1000000000000) : y57 rate l = some (resE rate l) := by
  unfold y57 G_isRate resE
  rw [withinG_eq, bind_some', bind_some', unless_eq, bind_some', unless_eq, bind_some', unless_eq, bind_some', first_eq (by simp), bind_some', firE3]
  by_cases h1 : 8000 ≤ rate ∧ rate ≤ 192000
  · by_cases h2 : l.length = 0
    · simp [h1, h2]
    · by_cases h3 : 1024 < l.length
      · simp [h1, h2, h3, show (0 : Int) < (l.length : Int) by omega, show ¬ (l.length : Int) ≤ 1024 by omega]
      · have h := iter_first l 0 (fun b => se b != 0) (body := y33 l) (fun i => .inl ((i : Int), se (l.getD i 0))) (.inr ()) (by omega)
          (fun i hi hp => by
            unfold y33
            rw [if_pos (by omega), if_pos (by omega), if_pos (by omega), Int.toNat_natCast, sampleErrF_eq, bind_some', if_pos hp])
          (fun i hi hp => by
            unfold y33
            rw [if_pos (by omega), if_pos (by omega), if_pos (by omega), Int.toNat_natCast, sampleErrF_eq, bind_some', if_neg (by rw [hp]; simp), wr64 (by omega)])
          (by unfold y33; rw [if_neg (by omega)])
        simp only [h1, and_self, decide_true, if_true, ne_eq, not_true_eq_false, if_false, show (0 : Int) < (l.length : Int) by omega, gt_iff_lt, show (l.length : Int) ≤ 1024 by omega, bne_self_eq_false, Bool.false_eq_true, h2, h3, h, bind_some']
        unfold smpE
        cases l.findIdx? (fun b => se b != 0) <;> rfl
  · simp [h1]
theorem checkAskG_eq (rate : Int) {l : List Nat} (noise tail : Int) (hl : l.length < 1000000000000) : y22 rate l noise tail = some (askE rate l noise tail) := by
  unfold y22 askE
  rw [checkResponseG_eq rate hl, bind_some']
  by_cases h : (resE rate l).2 = 0
  · rw [if_neg (by rw [h]; simp), if_neg (by omega), withinG_eq, bind_some']
    by_cases h1 : 0 ≤ noise ∧ noise ≤ 32767
    · rw [if_pos (by simpa using h1), withinG_eq, bind_some', unless_eq, bind_some']
      by_cases h2 : 0 ≤ tail ∧ tail ≤ 1000000000000 <;> simp [h1, h2]
    · rw [if_neg (by simpa using h1), if_neg (fun hc => h1 hc.1), unless_eq]
      rfl
  · rw [if_pos (by simpa using h), if_pos h]
theorem checkResponseR_eq (rate : Int) {l : List Nat} (hl : l.length < 1000000000000) : y31 rate l = some (resE rate l) := by
  unfold y31 y100 resE
  rw [withinB_eq, bind_some', bind_some']
  by_cases h1 : 8000 ≤ rate ∧ rate ≤ 192000
  · rw [nd_t h1, if_neg Bool.false_ne_true, if_neg (show ¬ ¬ (8000 ≤ rate ∧ rate ≤ 192000) from fun h => h h1)]
    by_cases h2 : l.length = 0
    · rw [h2, if_pos (by rfl), if_pos rfl]
    · rw [if_neg (show ¬ ((l.length : Int) == 0) = true by simpa using h2), if_neg h2]
      by_cases h3 : 1024 < l.length
      · rw [if_pos (show (l.length : Int) > 1024 by omega), if_pos h3]
      · rw [if_neg (show ¬ (l.length : Int) > 1024 by omega), if_neg h3]
        have hb : ∀ i, i < l.length → y30 l (i : Int) = if se (l.getD i 0) ≠ 0 then some (.inr (.inl ((i : Int), se (l.getD i 0)))) else some (.inl ((i : Int) + 1)) := by
          intro i hi
          unfold y30
          rw [if_pos (by omega), if_pos (by omega), if_pos (by omega), Int.toNat_natCast]
          refine Eq.trans ?_ (sampleR (α := Int ⊕ ((Int × Int) ⊕ Unit)) (l.getD i 0) (fun e => some (.inr (.inl ((i : Int), e)))) (some (.inl ((i : Int) + 1))))
          simp only [wr64 (show -9223372036854775808 ≤ (i : Int) + 1 ∧ (i : Int) + 1 ≤ 9223372036854775807 by omega)]
        have h := iter_first l 0 (fun b => se b != 0) (body := y30 l) (fun i => .inl ((i : Int), se (l.getD i 0))) (.inr ()) (by omega)
          (fun i hi hp => by rw [hb i hi, if_pos (by simpa using hp)])
          (fun i hi hp => by rw [hb i hi, if_neg (by simpa using hp)])
          (by unfold y30; rw [if_neg (by omega)])
        rw [h, bind_some']
        unfold smpE
        cases l.findIdx? (fun b => se b != 0) <;> rfl
  · rw [nd_f h1, if_pos rfl, if_pos (show ¬ (8000 ≤ rate ∧ rate ≤ 192000) from h1)]
theorem checkAskR_eq (rate : Int) {l : List Nat} (noise tail : Int) (hl : l.length < 1000000000000) : y83 rate l noise tail = some (askE rate l noise tail) := by
  unfold y83 askE
  rw [checkResponseR_eq rate hl, bind_some']
  by_cases h : (resE rate l).2 = 0
  · rw [if_neg (show ¬ ((resE rate l).2 != 0) = true by rw [h]; simp), if_neg (show ¬ (resE rate l).2 ≠ 0 by omega), withinB_eq, bind_some']
    by_cases h1 : 0 ≤ noise ∧ noise ≤ 32767
    · rw [nd_t h1, if_neg Bool.false_ne_true, withinB_eq, bind_some']
      by_cases h2 : 0 ≤ tail ∧ tail ≤ 1000000000000 <;> simp [h1, h2]
    · rw [nd_f h1, if_pos rfl, if_neg (fun hc => h1 hc.1)]
  · rw [if_pos (by simpa using h), if_pos h]
theorem responseErr_eq (rate : Int) {l : List Nat} (hl : l.length < 1000000000000) : y47 rate l = some (resE rate l).2 := by
  unfold y47; rw [checkResponseR_eq rate hl]; rfl
theorem askErr_eq (rate : Int) {l : List Nat} (noise tail : Int) (hl : l.length < 1000000000000) : y95 rate l noise tail = some (askE rate l noise tail).2 := by
  unfold y95; rw [checkAskR_eq rate noise tail hl]; rfl
end Go.Sh
end

section
namespace Go.Sh
open Go Go.Proofs Go.RowKit Go.Sx
set_option linter.unusedVariables false
def y109 : List SV := [.a [.d, .d], .c (.p [.p [.d, .r (.floats .f32 []), .d, .d, .r (.recs 2 []), .r (.recs 2 [])]]), .c (.p [.d])]
def y49 (u39 : Int) (u40 : Int) (u18 : Int) (u19 : List Nat) (u20 : Int) (u21 : Int) (u22 : List (List Int)) (u23 : List (List Int)) (v1_ : Int) : Option Bool :=
  if (0 : Int) ≤ (0 : Int) ∧ (0 : Int) < (↑(List.length u23) : Int) then
   if (0 : Nat) < List.length u23 then
    Option.bind (y68 u39 (List.getD (List.getD u23 (0 : Nat) []) (1 : Nat) (0 : Int)) v1_) fun r0 =>
    some r0
   else none
  else none
def y110 : List Lf → Option GT
  | [.d (.i .i64 u39), .d (.i .i64 u40), .d (.i .i64 u18), .r (.floats .f32 u19), .d (.i .i64 u20), .d (.i .i64 u21), .r (.recs 2 u22), .r (.recs 2 u23), .d (.i .i64 v1_)] => some (.leaf (ok (y49 u39 u40 u18 u19 u20 u21 u22 u23 v1_)) [.c (.d (.b ((val (y49 u39 u40 u18 u19 u20 u21 u22 u23 v1_)))))])
  | _ => none
abbrev sp_97 : Specs → Specs := addK 97 true (pureT y109 y110)
set_option maxRecDepth 100000 in
theorem G_decay_passing_1_vc (u39 : Int) (u40 : Int) (u18 : Int) (u19 : List Nat) (u20 : Int) (u21 : Int) (u22 : List (List Int)) (u23 : List (List Int)) (v1_ : Int) (r : Bool) (h : Option.bind (y49 u39 u40 u18 u19 u20 u21 u22 u23 v1_) some = some r) : runT Tryd.f97 ((sp_64 sp0)) (fun _ _ _ => none) (bldD y109 [.d (.i .i64 u39), .d (.i .i64 u40), .d (.i .i64 u18), .r (.floats .f32 u19), .d (.i .i64 u20), .d (.i .i64 u21), .r (.recs 2 u22), .r (.recs 2 u23), .d (.i .i64 v1_)]) [.c (.d (.b r))] := by
  refine Eq.mp (by kernel_rfl : (
 (Ob (True) ∧
 (Ob (True) ∧
 (Ob ((0 : Int) ≤ (0 : Int) ∧ (0 : Int) < (↑(List.length u23) : Int)) ∧
 (Ob ((0 : Nat) < List.length u23) ∧
 (Ob (True) ∧
 (Ob (ok (y68 u39 (List.getD (List.getD u23 (0 : Nat) []) (1 : Nat) (0 : Int)) v1_)) ∧
 (Ob (True) ∧
 (Ob (val (y68 u39 (List.getD (List.getD u23 (0 : Nat) []) (1 : Nat) (0 : Int)) v1_) = r) ∧
 True))))))))) = _) ?_
  refine ob_t ?_
  refine ob_t ?_
  refine ob_s h fun h => ?_
  refine ob_s h fun h => ?_
  refine ob_t ?_
  refine call_s h fun h => ?_
  refine ob_t ?_
  exact ret_s h (fun e => by subst e; exact (by repeat' constructor))
set_option maxRecDepth 100000 in
theorem G_decay_passing_1_ok : SpecOK Tryd.prog 97 true (pureT y109 y110) := by
  refine pureT_ok (sp := (sp_64 sp0)) (fn := Tryd.f97) (body := bodyOf Tryd.f97) mixed (sp_64_ok sp0_ok) Tryd.func97 (by kernel_rfl) (by kernel_rfl) fun ls t h ho b hb => ?_
  unfold y110 at h
  split at h
  · rename_i u39 u40 u18 u19 u20 u21 u22 u23 v1_
    cases h
    obtain rfl := bld_eq hb
    exact ⟨Nat.le_of_ble_eq_true (by kernel_rfl), _, _, G_decay_passing_1_vc u39 u40 u18 u19 u20 u21 u22 u23 v1_ _ (ok_some ho)⟩
  · cases h
theorem sp_97_ok {sp : Specs} (h : SpecsOK Tryd.prog sp) : SpecsOK Tryd.prog (sp_97 sp) := addK_ok G_decay_passing_1_ok h
def y111 : List SV := [.a [.d, .d], .c (.p [.p [.d, .r (.floats .f32 []), .d, .d, .r (.recs 2 []), .r (.recs 2 [])]]), .c (.p [.d])]
def y50 (u39 : Int) (u40 : Int) (u18 : Int) (u19 : List Nat) (u20 : Int) (u21 : Int) (u22 : List (List Int)) (u23 : List (List Int)) (v1_ : Int) : Option Bool :=
  if (0 : Int) ≤ (0 : Int) ∧ (0 : Int) < (↑(List.length u23) : Int) then
   if (0 : Nat) < List.length u23 then
    Option.bind (y68 u40 (List.getD (List.getD u23 (0 : Nat) []) (0 : Nat) (0 : Int)) v1_) fun r0 =>
    some r0
   else none
  else none
def y112 : List Lf → Option GT
  | [.d (.i .i64 u39), .d (.i .i64 u40), .d (.i .i64 u18), .r (.floats .f32 u19), .d (.i .i64 u20), .d (.i .i64 u21), .r (.recs 2 u22), .r (.recs 2 u23), .d (.i .i64 v1_)] => some (.leaf (ok (y50 u39 u40 u18 u19 u20 u21 u22 u23 v1_)) [.c (.d (.b ((val (y50 u39 u40 u18 u19 u20 u21 u22 u23 v1_)))))])
  | _ => none
abbrev sp_98 : Specs → Specs := addK 98 true (pureT y111 y112)
set_option maxRecDepth 100000 in
theorem G_decay_passing_2_vc (u39 : Int) (u40 : Int) (u18 : Int) (u19 : List Nat) (u20 : Int) (u21 : Int) (u22 : List (List Int)) (u23 : List (List Int)) (v1_ : Int) (r : Bool) (h : Option.bind (y50 u39 u40 u18 u19 u20 u21 u22 u23 v1_) some = some r) : runT Tryd.f98 ((sp_64 sp0)) (fun _ _ _ => none) (bldD y111 [.d (.i .i64 u39), .d (.i .i64 u40), .d (.i .i64 u18), .r (.floats .f32 u19), .d (.i .i64 u20), .d (.i .i64 u21), .r (.recs 2 u22), .r (.recs 2 u23), .d (.i .i64 v1_)]) [.c (.d (.b r))] := by
  refine Eq.mp (by kernel_rfl : (
 (Ob (True) ∧
 (Ob (True) ∧
 (Ob ((0 : Int) ≤ (0 : Int) ∧ (0 : Int) < (↑(List.length u23) : Int)) ∧
 (Ob ((0 : Nat) < List.length u23) ∧
 (Ob (True) ∧
 (Ob (ok (y68 u40 (List.getD (List.getD u23 (0 : Nat) []) (0 : Nat) (0 : Int)) v1_)) ∧
 (Ob (True) ∧
 (Ob (val (y68 u40 (List.getD (List.getD u23 (0 : Nat) []) (0 : Nat) (0 : Int)) v1_) = r) ∧
 True))))))))) = _) ?_
  refine ob_t ?_
  refine ob_t ?_
  refine ob_s h fun h => ?_
  refine ob_s h fun h => ?_
  refine ob_t ?_
  refine call_s h fun h => ?_
  refine ob_t ?_
  exact ret_s h (fun e => by subst e; exact (by repeat' constructor))
set_option maxRecDepth 100000 in
theorem G_decay_passing_2_ok : SpecOK Tryd.prog 98 true (pureT y111 y112) := by
  refine pureT_ok (sp := (sp_64 sp0)) (fn := Tryd.f98) (body := bodyOf Tryd.f98) mixed (sp_64_ok sp0_ok) Tryd.func98 (by kernel_rfl) (by kernel_rfl) fun ls t h ho b hb => ?_
  unfold y112 at h
  split at h
  · rename_i u39 u40 u18 u19 u20 u21 u22 u23 v1_
    cases h
    obtain rfl := bld_eq hb
    exact ⟨Nat.le_of_ble_eq_true (by kernel_rfl), _, _, G_decay_passing_2_vc u39 u40 u18 u19 u20 u21 u22 u23 v1_ _ (ok_some ho)⟩
  · cases h
theorem sp_98_ok {sp : Specs} (h : SpecsOK Tryd.prog sp) : SpecsOK Tryd.prog (sp_98 sp) := addK_ok G_decay_passing_2_ok h
def y141 : List SV := [.a [.d, .d], .c (.p [.p [.d, .r (.floats .f32 []), .d, .d, .r (.recs 2 []), .r (.recs 2 [])]]), .c (.p [.d])]
def y92 (u66 : Int) (u67 : Int) (u18 : Int) (u19 : List Nat) (u20 : Int) (u21 : Int) (u22 : List (List Int)) (u23 : List (List Int)) (v1_ : Int) : Option Bool :=
  if (0 : Int) ≤ (0 : Int) ∧ (0 : Int) < (↑(List.length u23) : Int) then
   if (0 : Nat) < List.length u23 then
    Option.bind (y68 u66 (List.getD (List.getD u23 (0 : Nat) []) (0 : Nat) (0 : Int)) v1_) fun r0 =>
    some r0
   else none
  else none
def y142 : List Lf → Option GT
  | [.d (.i .i64 u66), .d (.i .i64 u67), .d (.i .i64 u18), .r (.floats .f32 u19), .d (.i .i64 u20), .d (.i .i64 u21), .r (.recs 2 u22), .r (.recs 2 u23), .d (.i .i64 v1_)] => some (.leaf (ok (y92 u66 u67 u18 u19 u20 u21 u22 u23 v1_)) [.c (.d (.b ((val (y92 u66 u67 u18 u19 u20 u21 u22 u23 v1_)))))])
  | _ => none
abbrev sp_63 : Specs → Specs := addK 63 true (pureT y141 y142)
set_option maxRecDepth 100000 in
theorem G_FirstBelow_1_vc (u66 : Int) (u67 : Int) (u18 : Int) (u19 : List Nat) (u20 : Int) (u21 : Int) (u22 : List (List Int)) (u23 : List (List Int)) (v1_ : Int) (r : Bool) (h : Option.bind (y92 u66 u67 u18 u19 u20 u21 u22 u23 v1_) some = some r) : runT Tryd.f63 ((sp_64 sp0)) (fun _ _ _ => none) (bldD y141 [.d (.i .i64 u66), .d (.i .i64 u67), .d (.i .i64 u18), .r (.floats .f32 u19), .d (.i .i64 u20), .d (.i .i64 u21), .r (.recs 2 u22), .r (.recs 2 u23), .d (.i .i64 v1_)]) [.c (.d (.b r))] := by
  refine Eq.mp (by kernel_rfl : (
 (Ob (True) ∧
 (Ob (True) ∧
 (Ob ((0 : Int) ≤ (0 : Int) ∧ (0 : Int) < (↑(List.length u23) : Int)) ∧
 (Ob ((0 : Nat) < List.length u23) ∧
 (Ob (True) ∧
 (Ob (ok (y68 u66 (List.getD (List.getD u23 (0 : Nat) []) (0 : Nat) (0 : Int)) v1_)) ∧
 (Ob (True) ∧
 (Ob (val (y68 u66 (List.getD (List.getD u23 (0 : Nat) []) (0 : Nat) (0 : Int)) v1_) = r) ∧
 True))))))))) = _) ?_
  refine ob_t ?_
  refine ob_t ?_
  refine ob_s h fun h => ?_
  refine ob_s h fun h => ?_
  refine ob_t ?_
  refine call_s h fun h => ?_
  refine ob_t ?_
  exact ret_s h (fun e => by subst e; exact (by repeat' constructor))
set_option maxRecDepth 100000 in
theorem G_FirstBelow_1_ok : SpecOK Tryd.prog 63 true (pureT y141 y142) := by
  refine pureT_ok (sp := (sp_64 sp0)) (fn := Tryd.f63) (body := bodyOf Tryd.f63) mixed (sp_64_ok sp0_ok) Tryd.func63 (by kernel_rfl) (by kernel_rfl) fun ls t h ho b hb => ?_
  unfold y142 at h
  split at h
  · rename_i u66 u67 u18 u19 u20 u21 u22 u23 v1_
    cases h
    obtain rfl := bld_eq hb
    exact ⟨Nat.le_of_ble_eq_true (by kernel_rfl), _, _, G_FirstBelow_1_vc u66 u67 u18 u19 u20 u21 u22 u23 v1_ _ (ok_some ho)⟩
  · cases h
theorem sp_63_ok {sp : Specs} (h : SpecsOK Tryd.prog sp) : SpecsOK Tryd.prog (sp_63 sp) := addK_ok G_FirstBelow_1_ok h
def y72 : List SV := [.c (.r (.recs 2 [])), .c (.f 97 [.p [.p [.d, .r (.floats .f32 []), .d, .d, .r (.recs 2 []), .r (.recs 2 [])]], .p [.d]])]
def y12 (s : List (List Int)) (u29 : Int) (u30 : List Nat) (u31 : Int) (u32 : Int) (u33 : List (List Int)) (u34 : List (List Int)) (f1_ : Int) (x0 : Int) : Option (Int ⊕ (Int ⊕ Unit)) :=
  if x0 < (↑(List.length s) : Int) then
   if (0 : Int) ≤ x0 ∧ x0 < (↑(List.length s) : Int) then
    if Int.toNat x0 < List.length s then
     Option.bind (y49 (List.getD (List.getD s (Int.toNat x0) []) (0 : Nat) (0 : Int)) (List.getD (List.getD s (Int.toNat x0) []) (1 : Nat) (0 : Int)) u29 u30 u31 u32 u33 u34 f1_) fun r0 =>
     if (r0) = true then
      some (.inr (.inl x0))
     else
      some (.inl (IntKind.wrap .i64 (x0 + (1 : Int))))
    else none
   else none
  else
   some (.inr ((.inr ())))
def y145 (u17 : Int) : Option Int :=
  some u17
def y146 (u25 : Unit) : Option Int :=
  some (-1 : Int)
def y39 : (Int ⊕ Unit) → Option Int :=
  (Sum.elim (y145) (y146))
def y27 (s : List (List Int)) (u29 : Int) (u30 : List Nat) (u31 : Int) (u32 : Int) (u33 : List (List Int)) (u34 : List (List Int)) (f1_ : Int) : Option Int :=
  Option.bind (iter (y12 s u29 u30 u31 u32 u33 u34 f1_) big (0 : Int)) (y39)
def y73 : List Lf → Option GT
  | [.r (.recs 2 s), .d (.i .i64 u29), .r (.floats .f32 u30), .d (.i .i64 u31), .d (.i .i64 u32), .r (.recs 2 u33), .r (.recs 2 u34), .d (.i .i64 f1_)] => some (.leaf (ok (y27 s u29 u30 u31 u32 u33 u34 f1_)) [.c (.d (.i .i64 ((val (y27 s u29 u30 u31 u32 u33 u34 f1_)))))])
  | _ => none
set_option maxRecDepth 100000 in
theorem y163 (s : List (List Int)) (u29 : Int) (u30 : List Nat) (u31 : Int) (u32 : Int) (u33 : List (List Int)) (u34 : List (List Int)) (f1_ : Int) (r : Int) (h : Option.bind (y27 s u29 u30 u31 u32 u33 u34 f1_) some = some r) : runT Tryd.f62 ((sp_97 sp0)) (fun gs id _ => match id with
 | 0 => some ⟨Int × Nat, fun z => ⟨[(0, .w (.c (.o 0))), (1, .w (.c (.fn 97 [5, 6]))), (7, .w (.c (.d (.i .i64 ((↑(List.length s) : Int)))))), (8, .w (.c (.d (.i .i64 (Prod.fst z)))))], [(0, .ext (.recs 2 s)), (5, .ebox [.p 4 (0 : Nat) 1 (0 : Nat)]), (6, .ebox [.d (.i .i64 f1_)]), (4, .ebox [.d (.i .i64 u29), .o 1, .d (.i .i64 u31), .d (.i .i64 u32), .o 2, .o 3]), (1, .ext (.floats .f32 u30)), (2, .ext (.recs 2 u33)), (3, .ext (.recs 2 u34))], 7⟩, fun z => Option.bind (iter (y12 s u29 u30 u31 u32 u33 u34 f1_) (Prod.snd z) (Prod.fst z)) (fun y0 => Option.bind (y39 y0) some) = some r, fun z => Prod.snd z⟩
 | _ => none) (bldD y72 [.r (.recs 2 s), .d (.i .i64 u29), .r (.floats .f32 u30), .d (.i .i64 u31), .d (.i .i64 u32), .r (.recs 2 u33), .r (.recs 2 u34), .d (.i .i64 f1_)]) [.c (.d (.i .i64 r))] := by
  refine Eq.mp (by kernel_rfl : (
  ((∃ (v0 : Int × Nat), (Ob ((Option.bind (iter (y12 s u29 u30 u31 u32 u33 u34 f1_) v0.2 v0.1) fun y0 => Option.bind (y39 y0) some) = some r) ∧
 (Ob ((↑(List.length s) : Int) = (↑(List.length s) : Int)) ∧
 (Ob ((0 : Int) = v0.1) ∧
 (Ob (s = s) ∧
 (Ob ((0 : Nat) = (0 : Nat)) ∧
 (Ob (f1_ = f1_) ∧
 (Ob (u29 = u29) ∧
 (Ob (u31 = u31) ∧
 (Ob (u32 = u32) ∧
 (Ob (u30 = u30) ∧
 (Ob (u33 = u33) ∧
 (Ob (u34 = u34) ∧
 True))))))))))))) ∧
   (∀ (v0 : Int × Nat), ((Option.bind (iter (y12 s u29 u30 u31 u32 u33 u34 f1_) v0.2 v0.1) fun y0 => Option.bind (y39 y0) some) = some r →
 Br (decide (v0.1 < (↑(List.length s) : Int)))
   ((Ob ((0 : Int) ≤ v0.1 ∧ v0.1 < (↑(List.length s) : Int)) ∧
 (Ob (Int.toNat v0.1 < List.length s) ∧
 (Ob (ok (y49 (List.getD (List.getD s (Int.toNat v0.1) []) (0 : Nat) (0 : Int)) (List.getD (List.getD s (Int.toNat v0.1) []) (1 : Nat) (0 : Int)) u29 u30 u31 u32 u33 u34 f1_)) ∧
 Br (val (y49 (List.getD (List.getD s (Int.toNat v0.1) []) (0 : Nat) (0 : Int)) (List.getD (List.getD s (Int.toNat v0.1) []) (1 : Nat) (0 : Int)) u29 u30 u31 u32 u33 u34 f1_))
   ((Ob (True) ∧
 (Ob (v0.1 = r) ∧
 True)))
   ((∃ (v1 : Int × Nat), (Ob ((Option.bind (iter (y12 s u29 u30 u31 u32 u33 u34 f1_) v1.2 v1.1) fun y0 => Option.bind (y39 y0) some) = some r) ∧
 (Ob (v1.2 < v0.2) ∧
 (Ob ((↑(List.length s) : Int) = (↑(List.length s) : Int)) ∧
 (Ob (IntKind.wrap .i64 (v0.1 + (1 : Int)) = v1.1) ∧
 (Ob (s = s) ∧
 (Ob ((0 : Nat) = (0 : Nat)) ∧
 (Ob (f1_ = f1_) ∧
 (Ob (u29 = u29) ∧
 (Ob (u31 = u31) ∧
 (Ob (u32 = u32) ∧
 (Ob (u30 = u30) ∧
 (Ob (u33 = u33) ∧
 (Ob (u34 = u34) ∧
 True)))))))))))))))))))
   ((Ob (True) ∧
 (Ob ((-1 : Int) = r) ∧
 True))))))) = _) ?_
  refine ⟨⟨((0 : Int), big), ⟨loop_s h⟩, (by repeat' constructor)⟩, fun z1 hz1 => ?_⟩
  obtain ⟨k1, hm1, h⟩ := iter_pos hz1
  refine br_d h (fun h => ?_) (fun h => ?_)
  · refine ob_s h fun h => ?_
    refine ob_s h fun h => ?_
    refine call_s h fun h => ?_
    refine br_b h (fun h => ?_) (fun h => ?_)
    · have h := exit_s h
      refine ob_t ?_
      exact ret_s h (fun e => by subst e; exact (by repeat' constructor))
    · exact ⟨(IntKind.wrap .i64 (Prod.fst z1 + (1 : Int)), k1), ⟨next_s h⟩, ⟨lt_gs hm1.symm⟩, (by repeat' constructor)⟩
  · have h := exit_s h
    refine ob_t ?_
    exact ret_s h (fun e => by subst e; exact (by repeat' constructor))
set_option maxRecDepth 100000 in
theorem y164 : SpecOK Tryd.prog 62 true (pureT y72 y73) := by
  refine pureT_ok (sp := (sp_97 sp0)) (fn := Tryd.f62) (body := bodyOf Tryd.f62) mixed (sp_97_ok sp0_ok) Tryd.func62 (by kernel_rfl) (by kernel_rfl) fun ls t h ho b hb => ?_
  unfold y73 at h
  split at h
  · rename_i s u29 u30 u31 u32 u33 u34 f1_
    cases h
    obtain rfl := bld_eq hb
    exact ⟨Nat.le_of_ble_eq_true (by kernel_rfl), _, _, y163 s u29 u30 u31 u32 u33 u34 f1_ _ (ok_some ho)⟩
  · cases h
def y74 : List SV := [.c (.r (.recs 2 [])), .c (.f 98 [.p [.p [.d, .r (.floats .f32 []), .d, .d, .r (.recs 2 []), .r (.recs 2 [])]], .p [.d]])]
def y13 (s : List (List Int)) (u29 : Int) (u30 : List Nat) (u31 : Int) (u32 : Int) (u33 : List (List Int)) (u34 : List (List Int)) (f1_ : Int) (x0 : Int) : Option (Int ⊕ (Int ⊕ Unit)) :=
  if x0 < (↑(List.length s) : Int) then
   if (0 : Int) ≤ x0 ∧ x0 < (↑(List.length s) : Int) then
    if Int.toNat x0 < List.length s then
     Option.bind (y50 (List.getD (List.getD s (Int.toNat x0) []) (0 : Nat) (0 : Int)) (List.getD (List.getD s (Int.toNat x0) []) (1 : Nat) (0 : Int)) u29 u30 u31 u32 u33 u34 f1_) fun r0 =>
     if (r0) = true then
      some (.inr (.inl x0))
     else
      some (.inl (IntKind.wrap .i64 (x0 + (1 : Int))))
    else none
   else none
  else
   some (.inr ((.inr ())))
def y147 (u17 : Int) : Option Int :=
  some u17
def y148 (u25 : Unit) : Option Int :=
  some (-1 : Int)
def y40 : (Int ⊕ Unit) → Option Int :=
  (Sum.elim (y147) (y148))
def y28 (s : List (List Int)) (u29 : Int) (u30 : List Nat) (u31 : Int) (u32 : Int) (u33 : List (List Int)) (u34 : List (List Int)) (f1_ : Int) : Option Int :=
  Option.bind (iter (y13 s u29 u30 u31 u32 u33 u34 f1_) big (0 : Int)) (y40)
def y75 : List Lf → Option GT
  | [.r (.recs 2 s), .d (.i .i64 u29), .r (.floats .f32 u30), .d (.i .i64 u31), .d (.i .i64 u32), .r (.recs 2 u33), .r (.recs 2 u34), .d (.i .i64 f1_)] => some (.leaf (ok (y28 s u29 u30 u31 u32 u33 u34 f1_)) [.c (.d (.i .i64 ((val (y28 s u29 u30 u31 u32 u33 u34 f1_)))))])
  | _ => none
set_option maxRecDepth 100000 in
theorem y165 (s : List (List Int)) (u29 : Int) (u30 : List Nat) (u31 : Int) (u32 : Int) (u33 : List (List Int)) (u34 : List (List Int)) (f1_ : Int) (r : Int) (h : Option.bind (y28 s u29 u30 u31 u32 u33 u34 f1_) some = some r) : runT Tryd.f62 ((sp_98 sp0)) (fun gs id _ => match id with
 | 0 => some ⟨Int × Nat, fun z => ⟨[(0, .w (.c (.o 0))), (1, .w (.c (.fn 98 [5, 6]))), (7, .w (.c (.d (.i .i64 ((↑(List.length s) : Int)))))), (8, .w (.c (.d (.i .i64 (Prod.fst z)))))], [(0, .ext (.recs 2 s)), (5, .ebox [.p 4 (0 : Nat) 1 (0 : Nat)]), (6, .ebox [.d (.i .i64 f1_)]), (4, .ebox [.d (.i .i64 u29), .o 1, .d (.i .i64 u31), .d (.i .i64 u32), .o 2, .o 3]), (1, .ext (.floats .f32 u30)), (2, .ext (.recs 2 u33)), (3, .ext (.recs 2 u34))], 7⟩, fun z => Option.bind (iter (y13 s u29 u30 u31 u32 u33 u34 f1_) (Prod.snd z) (Prod.fst z)) (fun y0 => Option.bind (y40 y0) some) = some r, fun z => Prod.snd z⟩
 | _ => none) (bldD y74 [.r (.recs 2 s), .d (.i .i64 u29), .r (.floats .f32 u30), .d (.i .i64 u31), .d (.i .i64 u32), .r (.recs 2 u33), .r (.recs 2 u34), .d (.i .i64 f1_)]) [.c (.d (.i .i64 r))] := by
  refine Eq.mp (by kernel_rfl : (
  ((∃ (v0 : Int × Nat), (Ob ((Option.bind (iter (y13 s u29 u30 u31 u32 u33 u34 f1_) v0.2 v0.1) fun y0 => Option.bind (y40 y0) some) = some r) ∧
 (Ob ((↑(List.length s) : Int) = (↑(List.length s) : Int)) ∧
 (Ob ((0 : Int) = v0.1) ∧
 (Ob (s = s) ∧
 (Ob ((0 : Nat) = (0 : Nat)) ∧
 (Ob (f1_ = f1_) ∧
 (Ob (u29 = u29) ∧
 (Ob (u31 = u31) ∧
 (Ob (u32 = u32) ∧
 (Ob (u30 = u30) ∧
 (Ob (u33 = u33) ∧
 (Ob (u34 = u34) ∧
 True))))))))))))) ∧
   (∀ (v0 : Int × Nat), ((Option.bind (iter (y13 s u29 u30 u31 u32 u33 u34 f1_) v0.2 v0.1) fun y0 => Option.bind (y40 y0) some) = some r →
 Br (decide (v0.1 < (↑(List.length s) : Int)))
   ((Ob ((0 : Int) ≤ v0.1 ∧ v0.1 < (↑(List.length s) : Int)) ∧
 (Ob (Int.toNat v0.1 < List.length s) ∧
 (Ob (ok (y50 (List.getD (List.getD s (Int.toNat v0.1) []) (0 : Nat) (0 : Int)) (List.getD (List.getD s (Int.toNat v0.1) []) (1 : Nat) (0 : Int)) u29 u30 u31 u32 u33 u34 f1_)) ∧
 Br (val (y50 (List.getD (List.getD s (Int.toNat v0.1) []) (0 : Nat) (0 : Int)) (List.getD (List.getD s (Int.toNat v0.1) []) (1 : Nat) (0 : Int)) u29 u30 u31 u32 u33 u34 f1_))
   ((Ob (True) ∧
 (Ob (v0.1 = r) ∧
 True)))
   ((∃ (v1 : Int × Nat), (Ob ((Option.bind (iter (y13 s u29 u30 u31 u32 u33 u34 f1_) v1.2 v1.1) fun y0 => Option.bind (y40 y0) some) = some r) ∧
 (Ob (v1.2 < v0.2) ∧
 (Ob ((↑(List.length s) : Int) = (↑(List.length s) : Int)) ∧
 (Ob (IntKind.wrap .i64 (v0.1 + (1 : Int)) = v1.1) ∧
 (Ob (s = s) ∧
 (Ob ((0 : Nat) = (0 : Nat)) ∧
 (Ob (f1_ = f1_) ∧
 (Ob (u29 = u29) ∧
 (Ob (u31 = u31) ∧
 (Ob (u32 = u32) ∧
 (Ob (u30 = u30) ∧
 (Ob (u33 = u33) ∧
 (Ob (u34 = u34) ∧
 True)))))))))))))))))))
   ((Ob (True) ∧
 (Ob ((-1 : Int) = r) ∧
 True))))))) = _) ?_
  refine ⟨⟨((0 : Int), big), ⟨loop_s h⟩, (by repeat' constructor)⟩, fun z1 hz1 => ?_⟩
  obtain ⟨k1, hm1, h⟩ := iter_pos hz1
  refine br_d h (fun h => ?_) (fun h => ?_)
  · refine ob_s h fun h => ?_
    refine ob_s h fun h => ?_
    refine call_s h fun h => ?_
    refine br_b h (fun h => ?_) (fun h => ?_)
    · have h := exit_s h
      refine ob_t ?_
      exact ret_s h (fun e => by subst e; exact (by repeat' constructor))
    · exact ⟨(IntKind.wrap .i64 (Prod.fst z1 + (1 : Int)), k1), ⟨next_s h⟩, ⟨lt_gs hm1.symm⟩, (by repeat' constructor)⟩
  · have h := exit_s h
    refine ob_t ?_
    exact ret_s h (fun e => by subst e; exact (by repeat' constructor))
set_option maxRecDepth 100000 in
theorem y166 : SpecOK Tryd.prog 62 true (pureT y74 y75) := by
  refine pureT_ok (sp := (sp_98 sp0)) (fn := Tryd.f62) (body := bodyOf Tryd.f62) mixed (sp_98_ok sp0_ok) Tryd.func62 (by kernel_rfl) (by kernel_rfl) fun ls t h ho b hb => ?_
  unfold y75 at h
  split at h
  · rename_i s u29 u30 u31 u32 u33 u34 f1_
    cases h
    obtain rfl := bld_eq hb
    exact ⟨Nat.le_of_ble_eq_true (by kernel_rfl), _, _, y165 s u29 u30 u31 u32 u33 u34 f1_ _ (ok_some ho)⟩
  · cases h
def y84 : List SV := [.c (.r (.recs 2 [])), .c (.f 63 [.p [.p [.d, .r (.floats .f32 []), .d, .d, .r (.recs 2 []), .r (.recs 2 [])]], .p [.d]])]
def y44 (s : List (List Int)) (u29 : Int) (u30 : List Nat) (u31 : Int) (u32 : Int) (u33 : List (List Int)) (u34 : List (List Int)) (f1_ : Int) (x0 : Int) : Option (Int ⊕ (Int ⊕ Unit)) :=
  if x0 < (↑(List.length s) : Int) then
   if (0 : Int) ≤ x0 ∧ x0 < (↑(List.length s) : Int) then
    if Int.toNat x0 < List.length s then
     Option.bind (y92 (List.getD (List.getD s (Int.toNat x0) []) (0 : Nat) (0 : Int)) (List.getD (List.getD s (Int.toNat x0) []) (1 : Nat) (0 : Int)) u29 u30 u31 u32 u33 u34 f1_) fun r0 =>
     if (r0) = true then
      some (.inr (.inl x0))
     else
      some (.inl (IntKind.wrap .i64 (x0 + (1 : Int))))
    else none
   else none
  else
   some (.inr ((.inr ())))
def y151 (u17 : Int) : Option Int :=
  some u17
def y152 (u25 : Unit) : Option Int :=
  some (-1 : Int)
def y45 : (Int ⊕ Unit) → Option Int :=
  (Sum.elim (y151) (y152))
def y89 (s : List (List Int)) (u29 : Int) (u30 : List Nat) (u31 : Int) (u32 : Int) (u33 : List (List Int)) (u34 : List (List Int)) (f1_ : Int) : Option Int :=
  Option.bind (iter (y44 s u29 u30 u31 u32 u33 u34 f1_) big (0 : Int)) (y45)
def y85 : List Lf → Option GT
  | [.r (.recs 2 s), .d (.i .i64 u29), .r (.floats .f32 u30), .d (.i .i64 u31), .d (.i .i64 u32), .r (.recs 2 u33), .r (.recs 2 u34), .d (.i .i64 f1_)] => some (.leaf (ok (y89 s u29 u30 u31 u32 u33 u34 f1_)) [.c (.d (.i .i64 ((val (y89 s u29 u30 u31 u32 u33 u34 f1_)))))])
  | _ => none
set_option maxRecDepth 100000 in
theorem y167 (s : List (List Int)) (u29 : Int) (u30 : List Nat) (u31 : Int) (u32 : Int) (u33 : List (List Int)) (u34 : List (List Int)) (f1_ : Int) (r : Int) (h : Option.bind (y89 s u29 u30 u31 u32 u33 u34 f1_) some = some r) : runT Tryd.f62 ((sp_63 sp0)) (fun gs id _ => match id with
 | 0 => some ⟨Int × Nat, fun z => ⟨[(0, .w (.c (.o 0))), (1, .w (.c (.fn 63 [5, 6]))), (7, .w (.c (.d (.i .i64 ((↑(List.length s) : Int)))))), (8, .w (.c (.d (.i .i64 (Prod.fst z)))))], [(0, .ext (.recs 2 s)), (5, .ebox [.p 4 (0 : Nat) 1 (0 : Nat)]), (6, .ebox [.d (.i .i64 f1_)]), (4, .ebox [.d (.i .i64 u29), .o 1, .d (.i .i64 u31), .d (.i .i64 u32), .o 2, .o 3]), (1, .ext (.floats .f32 u30)), (2, .ext (.recs 2 u33)), (3, .ext (.recs 2 u34))], 7⟩, fun z => Option.bind (iter (y44 s u29 u30 u31 u32 u33 u34 f1_) (Prod.snd z) (Prod.fst z)) (fun y0 => Option.bind (y45 y0) some) = some r, fun z => Prod.snd z⟩
 | _ => none) (bldD y84 [.r (.recs 2 s), .d (.i .i64 u29), .r (.floats .f32 u30), .d (.i .i64 u31), .d (.i .i64 u32), .r (.recs 2 u33), .r (.recs 2 u34), .d (.i .i64 f1_)]) [.c (.d (.i .i64 r))] := by
  refine Eq.mp (by kernel_rfl : (
  ((∃ (v0 : Int × Nat), (Ob ((Option.bind (iter (y44 s u29 u30 u31 u32 u33 u34 f1_) v0.2 v0.1) fun y0 => Option.bind (y45 y0) some) = some r) ∧
 (Ob ((↑(List.length s) : Int) = (↑(List.length s) : Int)) ∧
 (Ob ((0 : Int) = v0.1) ∧
 (Ob (s = s) ∧
 (Ob ((0 : Nat) = (0 : Nat)) ∧
 (Ob (f1_ = f1_) ∧
 (Ob (u29 = u29) ∧
 (Ob (u31 = u31) ∧
 (Ob (u32 = u32) ∧
 (Ob (u30 = u30) ∧
 (Ob (u33 = u33) ∧
 (Ob (u34 = u34) ∧
 True))))))))))))) ∧
   (∀ (v0 : Int × Nat), ((Option.bind (iter (y44 s u29 u30 u31 u32 u33 u34 f1_) v0.2 v0.1) fun y0 => Option.bind (y45 y0) some) = some r →
 Br (decide (v0.1 < (↑(List.length s) : Int)))
   ((Ob ((0 : Int) ≤ v0.1 ∧ v0.1 < (↑(List.length s) : Int)) ∧
 (Ob (Int.toNat v0.1 < List.length s) ∧
 (Ob (ok (y92 (List.getD (List.getD s (Int.toNat v0.1) []) (0 : Nat) (0 : Int)) (List.getD (List.getD s (Int.toNat v0.1) []) (1 : Nat) (0 : Int)) u29 u30 u31 u32 u33 u34 f1_)) ∧
 Br (val (y92 (List.getD (List.getD s (Int.toNat v0.1) []) (0 : Nat) (0 : Int)) (List.getD (List.getD s (Int.toNat v0.1) []) (1 : Nat) (0 : Int)) u29 u30 u31 u32 u33 u34 f1_))
   ((Ob (True) ∧
 (Ob (v0.1 = r) ∧
 True)))
   ((∃ (v1 : Int × Nat), (Ob ((Option.bind (iter (y44 s u29 u30 u31 u32 u33 u34 f1_) v1.2 v1.1) fun y0 => Option.bind (y45 y0) some) = some r) ∧
 (Ob (v1.2 < v0.2) ∧
 (Ob ((↑(List.length s) : Int) = (↑(List.length s) : Int)) ∧
 (Ob (IntKind.wrap .i64 (v0.1 + (1 : Int)) = v1.1) ∧
 (Ob (s = s) ∧
 (Ob ((0 : Nat) = (0 : Nat)) ∧
 (Ob (f1_ = f1_) ∧
 (Ob (u29 = u29) ∧
 (Ob (u31 = u31) ∧
 (Ob (u32 = u32) ∧
 (Ob (u30 = u30) ∧
 (Ob (u33 = u33) ∧
 (Ob (u34 = u34) ∧
 True)))))))))))))))))))
   ((Ob (True) ∧
 (Ob ((-1 : Int) = r) ∧
 True))))))) = _) ?_
  refine ⟨⟨((0 : Int), big), ⟨loop_s h⟩, (by repeat' constructor)⟩, fun z1 hz1 => ?_⟩
  obtain ⟨k1, hm1, h⟩ := iter_pos hz1
  refine br_d h (fun h => ?_) (fun h => ?_)
  · refine ob_s h fun h => ?_
    refine ob_s h fun h => ?_
    refine call_s h fun h => ?_
    refine br_b h (fun h => ?_) (fun h => ?_)
    · have h := exit_s h
      refine ob_t ?_
      exact ret_s h (fun e => by subst e; exact (by repeat' constructor))
    · exact ⟨(IntKind.wrap .i64 (Prod.fst z1 + (1 : Int)), k1), ⟨next_s h⟩, ⟨lt_gs hm1.symm⟩, (by repeat' constructor)⟩
  · have h := exit_s h
    refine ob_t ?_
    exact ret_s h (fun e => by subst e; exact (by repeat' constructor))
set_option maxRecDepth 100000 in
theorem y168 : SpecOK Tryd.prog 62 true (pureT y84 y85) := by
  refine pureT_ok (sp := (sp_63 sp0)) (fn := Tryd.f62) (body := bodyOf Tryd.f62) mixed (sp_63_ok sp0_ok) Tryd.func62 (by kernel_rfl) (by kernel_rfl) fun ls t h ho b hb => ?_
  unfold y85 at h
  split at h
  · rename_i s u29 u30 u31 u32 u33 u34 f1_
    cases h
    obtain rfl := bld_eq hb
    exact ⟨Nat.le_of_ble_eq_true (by kernel_rfl), _, _, y167 s u29 u30 u31 u32 u33 u34 f1_ _ (ok_some ho)⟩
  · cases h
end Go.Sh
end

section
open Go.RowKit
namespace Go.Sx
def noDef (o : Oper) : Bool := match o.op with
  | .defer _ => false
  | _ => true
theorem noDef_spec {o : Oper} (h : noDef o = true) : ∀ c, o.op ≠ .defer c := fun c e => by
  unfold noDef at h
  rw [e] at h
  cases h
section
variable {P : Program} {l n : Nat} {a : Act} {w : World} {Q : Exit → Act → World → Prop}
theorem Oper.wpIn_of_wp {o : Oper} {K K' : Act → World → Prop} (hd : noDef o = true) (hK : ∀ a w, K a w → K' a w) (h : o.wp P a w K Q) : o.wpIn (Fence.wide.inRound l) n P a w K' Q := by
  refine ⟨fun _ _ => trivial, ?_⟩
  have hs : o.semAt (some l) a.eval = execOp a.eval o := Oper.semAt_some l a.eval o (noDef_spec hd)
  show o.uponIn (Fence.wide.inRound l) n P a K' Q ((o.semAt (some l) a.eval).run P w)
  rw [hs]
  unfold Oper.wp at h
  generalize (execOp a.eval o).run P w = r at *
  cases r with
  | ok x w' =>
    cases x with
    | value v => exact hK _ _ h
    | skip => exact hK _ _ h
    | defer d => exact hK _ _ h
    | enter f args =>
      refine ⟨fun h => (by cases h), CallsIn.inRound l (callsIn_wide.2 (Calls.mono (show Calls P f args w' _ from h) ?_))⟩
      intro e w'' he
      cases e with
      | returned v => exact hK _ _ he
      | panicked ch => exact he
      | outgrown => exact he
    | row r args =>
      refine ⟨fun h => (by cases h), ?_⟩
      intro c cs _
      obtain ⟨v, w'', hr, hst⟩ := h c cs
      exact ⟨v, w'', hK _ _ hr, (stepsIn_wide (P := P)).2 hst⟩
    | _ => exact h.elim
  | halt x w' =>
    cases x with
    | panic v => exact h
    | _ => exact h.elim
theorem wpListIn_of {ops : Array Oper} (hlo : ¬ LetsOut Q) : ∀ (os : List Oper) (a : Act) (w : World), os.all noDef = true → wpList P ops Q os a w → wpListIn (Fence.wide.inRound l) n P ops Q os a w
  | [], _, _, _, h => h
  | o :: r, a, w, hd, h => by
    simp only [List.all_cons, Bool.and_eq_true] at hd
    unfold wpList at h
    unfold wpListIn
    split at h
    · rename_i hw
      rw [if_pos hw]
      rcases h with h | h
      · exact Oper.wpIn_of_wp hd.1 (fun a w => wpListIn_of hlo r a w hd.2) h
      · exact absurd h.2 hlo
    · rename_i hw
      rw [if_neg hw]
      exact ⟨fun _ _ => trivial, wpListIn_of hlo r _ _ hd.2 h⟩
theorem wpAnyIn_of {ops : Array Oper} (hlo : ¬ LetsOut Q) (hd : ops.toList.all noDef = true) : ∀ (f : Nat) (b : Array Bool) (a : Act) (w : World), wpAny P .any ops Q f b a w → wpAnyIn (Fence.wide.inRound l) n P .any ops Q f b a w
  | 0, _, _, _, h => h
  | f + 1, b, a, w, h => by
    refine ⟨h.1, fun i hi => ?_⟩
    have h2 := h.2 i hi
    unfold wpOp at h2
    unfold wpOpIn
    cases ho : ops[i]? with
    | none =>
      rw [ho] at h2
      exact wpAnyIn_of hlo hd f _ a w h2
    | some o =>
      rw [ho] at h2
      dsimp only at h2 ⊢
      have hod : noDef o = true := List.all_eq_true.1 hd o (by
        have := List.mem_of_getElem? (l := ops.toList) (i := i) (a := o) (by simpa using ho)
        exact this)
      split at h2
      · rename_i hw
        rw [if_pos hw]
        rcases h2 with h2 | h2
        · exact Oper.wpIn_of_wp hod (fun a w => wpAnyIn_of hlo hd f _ a w) h2
        · exact absurd h2.2 hlo
      · rename_i hw
        rw [if_neg hw]
        exact ⟨fun _ _ => trivial, wpAnyIn_of hlo hd f _ _ _ h2⟩
end
theorem wpListIn_pre {P : Program} {n : Nat} {ops : Array Oper} {Q : Exit → Act → World → Prop} (hlo : ¬ LetsOut Q) {l2 : List Oper} : ∀ (l1 : List Oper) (a : Act) (w : World), wpList P ops (Exit.then (fun a w => wpListIn Fence.wide n P ops Q l2 a w) Q) l1 a w → wpListIn Fence.wide n P ops Q (l1 ++ l2) a w
  | [], _, _, h => h
  | o :: r, a, w, h => by
    unfold wpList at h
    show wpListIn Fence.wide n P ops Q (o :: (r ++ l2)) a w
    unfold wpListIn
    split at h
    · rename_i hw
      rw [if_pos hw]
      rcases h with h | h
      · have ih := wpListIn_pre (P := P) (ops := ops) (n := n) hlo (l2 := l2) r
        refine ⟨fun _ _ => trivial, ?_⟩
        have hs : o.semAt Fence.wide.round a.eval = execOp a.eval o := Oper.semAt_none a.eval o
        rw [hs]
        unfold Oper.wp at h
        generalize (execOp a.eval o).run P w = x at *
        cases x with
        | ok x w' =>
          cases x with
          | value v => exact ih _ _ h
          | skip => exact ih _ _ h
          | defer d => exact ih _ _ h
          | enter f args =>
            refine ⟨fun h => (by cases h), callsIn_wide.2 (Calls.mono (show Calls P f args w' _ from h) ?_)⟩
            intro e w'' he
            cases e with
            | returned v => exact ih _ _ he
            | panicked ch => exact he
            | outgrown => exact he
          | row q args =>
            refine ⟨fun h => (by cases h), ?_⟩
            intro c cs _
            obtain ⟨v, w'', hr, hst⟩ := h c cs
            exact ⟨v, w'', ih _ _ hr, (stepsIn_wide (P := P)).2 hst⟩
          | _ => exact h.elim
        | halt x w' =>
          cases x with
          | panic v => exact h
          | _ => exact h.elim
      · exact absurd h.2 hlo
    · rename_i hw
      rw [if_neg hw]
      exact ⟨fun _ _ => trivial, wpListIn_pre hlo r _ _ h⟩
def straight : Code → Bool
  | .skip => true
  | .label _ => true
  | .region _ ops _ => ops.toList.all noDef
  | .seq x y => straight x && straight y
  | .cond _ x y => straight x && straight y
  | .block _ c => straight c
  | .exit _ => true
  | .ret => true
  | _ => false
section
variable [Globs] {P : Program} {sp : Specs} {B : Bd} {N n0 : Nat} {ρ0 : Env} {w0 : World}
theorem Qx_lets {k : Ex → St → Prop} : ¬ LetsOut (Qx ρ0 B N n0 w0 k) := by
  rintro ⟨a, w, x, ρ', st', he, _⟩
  cases x <;> cases he
theorem sxIn_sound {l n fuel : Nat} {loops : Loops} (hm : P.follows .mixedOrders = true) (hsp : SpecsOK P sp) :
    ∀ (c : Code) (cur : Nat) (gs : List Nat) (st : St) (k : Ex → St → Prop) (ρ : Env) (a : Act) (w : World), straight c = true → sx P sp N n0 fuel loops (drawX P sp N) c cur gs st k → Rel ρ B N n0 st a w → Agree n0 ρ0 ρ → Bel B w0 w →
      c.wpIn (Fence.wide.inRound l) n P (Qx ρ0 B N n0 w0 k) a w
  | .skip, _, _, st, k, ρ, a, w, _, h, hr, hag, hbl => wpIn_skip ⟨.normal, ρ, st, rfl, h, hr, hag, hbl⟩
  | .label _, _, _, st, k, ρ, a, w, _, h, hr, hag, hbl => wpIn_label ⟨.normal, ρ, st, rfl, h, hr, hag, hbl⟩
  | .region id ops draw, _, _, st, k, ρ, a, w, hst, h, hr, hag, hbl => by
    unfold sx at h
    have hd : ops.toList.all noDef = true := hst
    cases draw with
    | false =>
      refine wpIn_region_list (wpListIn_of Qx_lets ops.toList a w hd ?_)
      have := opsX_sound (P := P) (Q := Qx ρ0 B N n0 w0 k) (k := fun st' => k .normal st') (all := ops.toList) hsp (fun ρ' st' a' w' h1 h2 h3 h4 => ⟨.normal, ρ', st', rfl, h4, h1, h2, h3⟩) ops.toList ρ st a w hr hag hbl h
      simpa using this
    | true => exact wpIn_region_any hm (wpAnyIn_of Qx_lets hd _ _ _ _ (drawn_any (Q := Qx ρ0 B N n0 w0 k) hm hsp h hr hag hbl (fun ρ' st' a' w' h1 h2 h3 h4 => ⟨.normal, ρ', st', rfl, h4, h1, h2, h3⟩)))
  | .seq x y, cur, gs, st, k, ρ, a, w, hst, h, hr, hag, hbl => by
    unfold sx at h
    simp only [straight, Bool.and_eq_true] at hst
    refine wpIn_seq (wpIn_mono (sxIn_sound hm hsp x cur gs st _ ρ a w hst.1 h hr hag hbl) ?_)
    rintro e a' w' ⟨ex, ρ', st', rfl, hk, hr', hag', hbl'⟩
    cases ex with
    | normal => exact sxIn_sound hm hsp y cur gs st' k ρ' a' w' hst.2 hk hr' hag' hbl'
    | exit j => exact ⟨.exit j, ρ', st', rfl, hk, hr', hag', hbl'⟩
    | ret => exact ⟨.ret, ρ', st', rfl, hk, hr', hag', hbl'⟩
  | .cond c x y, cur, gs, st, k, ρ, a, w, hst, h, hr, hag, hbl => by
    unfold sx at h
    simp only [straight, Bool.and_eq_true] at hst
    split at h
    · rename_i b hb
      have he := eval_bool hr hb
      cases b with
      | true => exact wpIn_cond_true he (sxIn_sound hm hsp x cur gs st k ρ a w hst.1 h hr hag hbl)
      | false => exact wpIn_cond_false he (sxIn_sound hm hsp y cur gs st k ρ a w hst.2 h hr hag hbl)
    · exact h.elim
  | .block id c, _, gs, st, k, ρ, a, w, hst, h, hr, hag, hbl => by
    unfold sx at h
    refine wpIn_block (wpIn_mono (sxIn_sound hm hsp c id gs st _ ρ a w hst h hr hag hbl) ?_)
    rintro e a' w' ⟨ex, ρ', st', rfl, hk, hr', hag', hbl'⟩
    cases ex with
    | normal => exact ⟨.normal, ρ', st', rfl, hk, hr', hag', hbl'⟩
    | exit j =>
      simp only [Ex.toExit, Exit.inBlock]
      dsimp only at hk
      split
      · rename_i e
        rw [if_pos e] at hk
        exact ⟨.normal, ρ', st', rfl, hk, hr', hag', hbl'⟩
      · rename_i e
        rw [if_neg e] at hk
        exact ⟨.exit j, ρ', st', rfl, hk, hr', hag', hbl'⟩
    | ret => exact ⟨.ret, ρ', st', rfl, hk, hr', hag', hbl'⟩
  | .exit j, _, _, st, k, ρ, a, w, _, h, hr, hag, hbl => wpIn_exit ⟨.exit j, ρ, st, rfl, h, hr, hag, hbl⟩
  | .ret, _, _, st, k, ρ, a, w, _, h, hr, hag, hbl => wpIn_ret ⟨.ret, ρ, st, rfl, h, hr, hag, hbl⟩
  | .loop _, _, _, _, _, _, _, _, hst, _, _, _, _ => by cases hst
  | .goto _, _, _, _, _, _, _, _, hst, _, _, _, _ => by cases hst
  | .rangeFunc _ _ _ _, _, _, _, _, _, _, _, hst, _, _, _, _ => by cases hst
end
def headC' : Nat → Code → Code
  | 0, _ => .skip
  | n + 1, .seq x y => .seq x (headC' n y)
  | _ + 1, c => c
def tailC' : Nat → Code → Code
  | 0, c => c
  | n + 1, .seq _ y => tailC' n y
  | _ + 1, _ => .skip
def spineB : Nat → Code → Bool
  | 0, _ => true
  | n + 1, .seq _ y => spineB n y
  | _ + 1, _ => false
section
variable [Globs] {P : Program} {sp : Specs} {B : Bd} {N n0 : Nat} {ρ0 : Env} {w0 : World}
theorem sx_head {fuel : Nat} {loops : Loops} {drawn : Array Oper → St → (St → Prop) → Prop} (hsp : SpecsOK P sp) (hdr : DrawnOK P B N n0 ρ0 w0 drawn) {Q : Exit → Act → World → Prop} {k : Ex → St → Prop} :
    ∀ (m : Nat) (c : Code) (cur : Nat) (gs : List Nat) (st : St) (ρ : Env) (a : Act) (w : World), spineB m c = true → sx P sp N n0 fuel loops drawn (headC' m c) cur gs st k → Rel ρ B N n0 st a w → Agree n0 ρ0 ρ → Bel B w0 w →
      (∀ ρ' st' a' w', k .normal st' → Rel ρ' B N n0 st' a' w' → Agree n0 ρ0 ρ' → Bel B w0 w' → (tailC' m c).wp P Q a' w') →
      (∀ ex ρ' st' a' w', ex ≠ .normal → k ex st' → Rel ρ' B N n0 st' a' w' → Agree n0 ρ0 ρ' → Bel B w0 w' → Q ex.toExit a' w') → c.wp P Q a w
  | 0, c, _, _, st, ρ, a, w, _, h, hr, hag, hbl, hn, _ => hn ρ st a w h hr hag hbl
  | m + 1, .seq x y, cur, gs, st, ρ, a, w, hs, h, hr, hag, hbl, hn, he => by
    simp only [headC'] at h
    unfold sx at h
    refine wp_seq (wp_mono (sx_sound hsp hdr x cur gs st _ ρ a w h hr hag hbl) ?_)
    rintro e a' w' ⟨ex, ρ', st', rfl, hk, hr', hag', hbl'⟩
    cases ex with
    | normal => exact sx_head hsp hdr m y cur gs st' ρ' a' w' hs hk hr' hag' hbl' hn he
    | exit j => exact he (.exit j) ρ' st' a' w' (by simp) hk hr' hag' hbl'
    | ret => exact he .ret ρ' st' a' w' (by simp) hk hr' hag' hbl'
end
section
variable [Globs] {ρ : Env} {B B2 : Bd} {hp : Hp} {nx : Nat} {w w' : World}
theorem O.ok_moreB {h : Nat} (hs : ∀ k, B k → B2 k) : ∀ {o : O}, o.ok ρ B w h → (∀ k, o.blk (ρ h) = some k → ¬ B2 k) → o.ok ρ B2 w h
  | .box _ _, ⟨k, h1, h2, h3⟩, hn => ⟨k, h1, hn k (by simp [O.blk, h1, base]), h3⟩
  | .row _ _, ⟨hr, _⟩, hn => ⟨hr, fun k hk => hn k hk⟩
  | .ext _, ⟨h1, h2⟩, _ => ⟨h1, fun a n cap e hn => hs _ (h2 a n cap e hn)⟩
  | .view _ _ _, h, _ => h
  | .dead, _, _ => trivial
  | .nan _, h, _ => h
  | .err, h, _ => h
  | .atom, h, _ => h
  | .ebox _, ⟨k, o, h1, h2, h3⟩, _ => ⟨k, o, h1, hs _ h2, h3⟩
  | .arr _ _ _ _, ⟨k, h1, h2, h3⟩, hn => ⟨k, h1, hn k (by simp [O.blk, h1, base]), h3⟩
  | .xext _, h, _ => isX_mono hs h
  | .map _, ⟨b, e, c, h1, h2, h3⟩, hn => ⟨b, e, c, h1, hn b (by simp [O.blk, h1, mapBlk]), h3⟩
  | .rrow _, ⟨h1, h2⟩, hn => ⟨h1, fun k hk => ⟨hn k hk, (h2 k hk).2⟩⟩
theorem HRel.moreB (hh : HRel ρ B hp nx w) (hs : ∀ k, B k → B2 k) (hn : ∀ h o k, find hp h = some o → o.blk (ρ h) = some k → ¬ B2 k) : HRel ρ B2 hp nx w :=
  ⟨fun h o hf => ⟨(hh.ok h o hf).1, (hh.ok h o hf).2.1, O.ok_moreB hs (hh.ok h o hf).2.2 (fun k hk => hn h o k hf hk)⟩, hh.apart, hh.glob.sub hs⟩
def extB : O → Bool
  | .ext _ => true
  | .ebox _ => true
  | .xext _ => true
  | _ => false
theorem O.ok_lessB {h : Nat} (hs : ∀ k, B k → B2 k) : ∀ {o : O}, o.ok ρ B2 w h → extB o = false → o.ok ρ B w h
  | .box _ _, ⟨k, h1, h2, h3⟩, _ => ⟨k, h1, fun hb => h2 (hs _ hb), h3⟩
  | .row _ _, ⟨hr, hk⟩, _ => ⟨hr, fun k hk' hb => hk k hk' (hs _ hb)⟩
  | .ext _, _, h => by cases h
  | .view _ _ _, h, _ => h
  | .dead, _, _ => trivial
  | .nan _, h, _ => h
  | .err, h, _ => h
  | .atom, h, _ => h
  | .ebox _, _, h => by cases h
  | .arr _ _ _ _, ⟨k, h1, h2, h3⟩, _ => ⟨k, h1, fun hb => h2 (hs _ hb), h3⟩
  | .xext _, _, h => by cases h
  | .map _, ⟨b, e, c, h1, h2, h3⟩, _ => ⟨b, e, c, h1, fun hb => h2 (hs _ hb), h3⟩
  | .rrow _, ⟨h1, h2⟩, _ => ⟨h1, fun k hk => ⟨fun hb => (h2 k hk).1 (hs _ hb), (h2 k hk).2⟩⟩
theorem HRel.lessB (hh : HRel ρ B2 hp nx w) (hs : ∀ k, B k → B2 k) (hg : GlobOK B w) (hE : ∀ h o, find hp h = some o → extB o = true → o.ok ρ B w h) : HRel ρ B hp nx w :=
  ⟨fun h o hf => ⟨(hh.ok h o hf).1, (hh.ok h o hf).2.1, by
    cases he : extB o with
    | true => exact hE h o hf he
    | false => exact O.ok_lessB hs (hh.ok h o hf).2.2 he⟩, hh.apart, hg⟩
def rngO : O → Bool
  | .view _ _ _ => false
  | .map _ => false
  | .rrow _ => false
  | _ => true
theorem own_cells {h k : Nat} : ∀ {o : O}, o.ok ρ B w h → rngO o = true → o.blk (ρ h) = some k → ∃ c t f, w.heap[k]? = some (.cells c t f)
  | .box _ _, ⟨g, h1, _, h3⟩, _, hb => by
    simp only [O.blk, h1, base, Option.some.injEq] at hb
    subst hb
    exact ⟨_, _, _, h3⟩
  | .arr _ _ _ _, ⟨g, h1, _, h3⟩, _, hb => by
    simp only [O.blk, h1, base, Option.some.injEq] at hb
    subst hb
    exact ⟨_, _, _, h3⟩
  | .row _ _, ⟨⟨_, hr⟩, _⟩, _, hb => by
    rcases hr with ⟨h1, _⟩ | ⟨g, cap, cur, h1, _, h3, _⟩
    · simp [O.blk, h1, Value.ownBlock] at hb
    · simp only [O.blk, h1, Value.ownBlock, Option.some.injEq] at hb
      subst hb
      exact ⟨_, _, _, h3⟩
theorem HRel.grown {row : Option Nat} (hh : HRel ρ B hp nx w) (hg : w.grownBy w' row) (hB : Old B w) (hr : ∀ r, row = some r → ¬ B r ∧ ∃ o : Obj, w.heap[r]? = some o ∧ o.isCells = false) (hn : ∀ h o, find hp h = some o → rngO o = true) : HRel ρ B hp nx w' := by
  obtain ⟨g, hgB, hgw, hgc⟩ : ∃ g, ¬ B g ∧ (∀ k, k < w.heap.size → k ≠ g → w'.heap[k]? = w.heap[k]?) ∧ ∀ c t f, w.heap[g]? ≠ some (.cells c t f) := by
    cases row with
    | none => exact ⟨w.heap.size, fun h => absurd (hB _ h) (Nat.lt_irrefl _), fun k hk _ => hg.block k hk (by simp), fun c t f h => absurd (Array.getElem?_eq_some_iff.1 h).1 (Nat.lt_irrefl _)⟩
    | some r =>
      obtain ⟨h1, o, h2, h3⟩ := hr r rfl
      refine ⟨r, h1, fun k hk hne => hg.block k hk (fun e => hne (Option.some.inj e)), fun c t f h => ?_⟩
      rw [h2] at h
      cases h
      cases h3
  refine ⟨fun h o hf => ⟨(hh.ok h o hf).1, (hh.ok h o hf).2.1, ?_⟩, hh.apart, globOK_except hgw hgB hh.glob⟩
  refine O.ok_except hgw hgB (hh.ok h o hf).2.2 (fun he => ?_) (fun r c fl e => ?_)
  · obtain ⟨c, t, f, hc⟩ := own_cells (hh.ok h o hf).2.2 (hn h o hf) he
    exact hgc c t f hc
  · subst e
    cases hn h _ hf
theorem HRel.addAt {b ty : Nat} {cs : List C} (hh : HRel ρ B hp nx w) (hc : w.heap[b]? = some (.cells (cs.map (C.val ρ)).toArray ty (0, 0))) (hcs : ∀ c ∈ cs, C.lt nx c) (hb : ¬ B b) (hap : ∀ h o k, find hp h = some o → o.blk (ρ h) = some k → k ≠ b) :
    HRel (upd ρ nx (.pointer (some ⟨b, 0, none⟩))) B ((nx, .box ty cs) :: hp) (nx + 1) w := by
  have ha := upd_agree ρ nx (.pointer (some ⟨b, 0, none⟩))
  have h1 := (hh.agree ha).mono_nx (Nat.le_succ nx)
  refine ⟨fun h o hf => ?_, fun h o h' o' k hf hf' hne hk hk' => ?_, h1.glob⟩
  · simp only [find] at hf
    split at hf
    · rename_i e
      subst e
      cases hf
      refine ⟨Nat.lt_succ_self _, fun c hc' => C.lt_mono (Nat.le_succ _) (hcs c hc'), b, upd_same _ _ _, hb, ?_⟩
      rw [hc]
      congr 3
      exact List.map_congr_left fun c hc' => (C.val_agree ha (hcs c hc')).symm
    · exact h1.ok h o hf
  · have old : ∀ x ox, x ≠ nx → find ((nx, O.box ty cs) :: hp) x = some ox → find hp x = some ox := fun x ox hx hf => by
      simp only [find] at hf
      rw [if_neg (fun e => hx e.symm)] at hf
      exact hf
    have new : ∀ ox, find ((nx, O.box ty cs) :: hp) nx = some ox → ∀ q, ox.blk (upd ρ nx (.pointer (some ⟨b, 0, none⟩)) nx) = some q → q = b := fun ox hf q hq => by
      simp only [find, if_true, Option.some.injEq] at hf
      subst hf
      rw [upd_same] at hq
      simp only [O.blk, base, Option.some.injEq] at hq
      exact hq.symm
    by_cases e1 : h = nx
    · subst e1
      have f' := old h' o' (fun e => hne e.symm) hf'
      have e2 := new o hf k hk
      have hlt := (hh.ok h' o' f').1
      rw [ha h' hlt] at hk'
      exact hap h' o' k f' hk' e2
    · have f1 := old h o e1 hf
      have hlt := (hh.ok h o f1).1
      rw [ha h hlt] at hk
      by_cases e2 : h' = nx
      · subst e2
        exact hap h o k f1 hk (new o' hf' k hk')
      · have f2 := old h' o' e2 hf'
        rw [ha h' (hh.ok h' o' f2).1] at hk'
        exact hh.apart h o h' o' k f1 f2 hne hk hk'
end
end Go.Sx
end

section
namespace Go.Sh
open Go Go.Proofs Go.RowKit Go.Sx
set_option linter.unusedVariables false
attribute [local go_sem] Oper.semAt_some
def orS (S T : Sx.Spec) : Sx.Spec := fun vs hp nx => match S vs hp nx with
  | some t => some t
  | none => T vs hp nx
theorem orS_ok {P : Program} {f : Nat} {M : Bool} {S T : Sx.Spec} (hs : SpecOK P f M S) (ht : SpecOK P f M T) : SpecOK P f M (orS S T) := by
  have no : ∀ {S T : Sx.Spec}, RunOK P f M S → ValOK P f T → ∀ ρ B w args hp nx t, T args hp nx = some t → t.sel.ob → (∀ x ∈ args, V.lt nx x) → HRel ρ B hp nx w → Old B w → False := by
    intro S T h1 h2 ρ B w args hp nx t ht ho hl hh hB
    obtain ⟨ob, v, _, _, hr⟩ := h2 ρ B w args hp nx t ht ho hl hh hB
    rw [h1.enter] at hr
    cases hr
  rcases hs with h1 | h1 <;> rcases ht with h2 | h2
  · refine .inl ⟨h1.enter, fun ρ B w args hp nx t h ho hl hh hB => ?_⟩
    unfold orS at h
    split at h
    · rename_i t' h'
      cases h
      exact h1.sound ρ B w args hp nx _ h' ho hl hh hB
    · exact h2.sound ρ B w args hp nx _ h ho hl hh hB
  · refine .inl ⟨h1.enter, fun ρ B w args hp nx t h ho hl hh hB => ?_⟩
    unfold orS at h
    split at h
    · rename_i t' h'
      cases h
      exact h1.sound ρ B w args hp nx _ h' ho hl hh hB
    · exact (no h1 h2 ρ B w args hp nx t h ho hl hh hB).elim
  · refine .inl ⟨h2.enter, fun ρ B w args hp nx t h ho hl hh hB => ?_⟩
    unfold orS at h
    split at h
    · rename_i t' h'
      cases h
      exact (no h2 h1 ρ B w args hp nx _ h' ho hl hh hB).elim
    · exact h2.sound ρ B w args hp nx _ h ho hl hh hB
  · refine .inr fun ρ B w args hp nx t h ho hl hh hB => ?_
    unfold orS at h
    split at h
    · rename_i t' h'
      cases h
      exact h1 ρ B w args hp nx _ h' ho hl hh hB
    · exact h2 ρ B w args hp nx _ h ho hl hh hB
def sIndexFunc : Sx.Spec := orS (pureT y72 y73) (orS (pureT y74 y75) (pureT y84 y85))
abbrev sp_62 : Specs → Specs := addK 62 true sIndexFunc
theorem sp_62_ok {sp : Specs} (h : SpecsOK Tryd.prog sp) : SpecsOK Tryd.prog (sp_62 sp) :=
  addK_ok (orS_ok y164 (orS_ok y166 y168)) h
set_option maxRecDepth 100000 in
theorem backward_calls (a : Option Addr) (len cap : Nat) (w : World) : Calls Tryd.prog 82 #[.slice a len cap] w fun e w' => e = .returned (.func (.func 96) #[] #[.pointer (some ⟨w.heap.size, 0, none⟩)]) ∧ w' = w.alloc (.cells #[.slice a len cap] 68) := by
  refine callsIn_wide.1 (callsIn_of_wp (n := 3) Tryd.func82 rfl trivial ?_ rfl)
  simp only [Tryd.ntmps82, List.size_toArray, List.length_cons, List.length_nil, Nat.reduceAdd, Nat.reduceSub, Array.replicate_succ, Array.replicate_zero, List.push_toArray, List.append_toArray, List.nil_append, List.cons_append]
  gi_wp2
  go_ret
  exact ⟨rfl, rfl⟩
def sBackward : Sx.Spec := fun vs hp nx => match vs with
  | [.w (.c (.o h))] => match (find hp h).bind O.cont with
    | some _ => some (.leaf ⟨True, .w (.c (.fn 96 [nx])), (nx, .box 68 [.o h]) :: hp, nx + 1⟩)
    | none => none
  | _ => none
theorem backward_ok : SpecOK Tryd.prog 82 true sBackward := by
  refine .inl ⟨enter_ok (body := bodyOf Tryd.f82) Tryd.func82 (by kernel_rfl) (by kernel_rfl), fun ρ B w args hp nx t h ho hl hh hB => ?_⟩
  unfold sBackward at h
  split at h
  · rename_i k
    split at h
    · rename_i c hc
      cases h
      cases hf : find hp k with
      | none => simp [hf] at hc
      | some o =>
        simp only [hf, Option.bind_some] at hc
        obtain ⟨hlt, a, cap, hv, _⟩ := cont_slice hh hf hc
        have hargs : ([V.w (.c (.o k))].map (V.val ρ)).toArray = #[.slice a c.n cap] := by
          simp [V.val, W.val, C.val, hv]
        rw [hargs]
        refine (backward_calls a c.n cap w).mono ?_
        rintro e w' ⟨rfl, rfl⟩
        refine ⟨upd ρ nx (.pointer (some ⟨w.heap.size, 0, none⟩)), ?_, ?_⟩
        · simp [RT.sel, V.val, W.val, C.val]
        · refine left_alloc hh hB _ _ _ (.box 68 [.o k]) rfl rfl (show V.lt (nx + 1) (.w (.c (.fn 96 [nx]))) from fun x hx => ?_) true (fun x hx => ?_) ⟨w.heap.size, upd_same _ _ _, fun hb => absurd (hB _ hb) (Nat.lt_irrefl _), ?_⟩ (by simp [O.blk, base])
          · simp only [List.mem_singleton] at hx
            subst hx
            exact Nat.lt_succ_self _
          · simp only [List.mem_singleton] at hx
            subst hx
            exact Nat.lt_succ_of_lt hlt
          · rw [heap_alloc_new]
            have : upd ρ nx (.pointer (some ⟨w.heap.size, 0, none⟩)) k = ρ k := upd_agree ρ nx _ k hlt
            simp [C.val, this, hv]
    · cases h
  · cases h
abbrev sp_82 : Specs → Specs := addK 82 true sBackward
theorem sp_82_ok {sp : Specs} (h : SpecsOK Tryd.prog sp) : SpecsOK Tryd.prog (sp_82 sp) := addK_ok backward_ok h
end Go.Sh
end

section
namespace Go.Sh.Bk
set_option linter.unusedVariables false
open Go Go.Proofs Go.RowKit Go.Sx
@[reducible] def tg : Globs := { tab := fun _ => none }
attribute [local instance] tg
def sub : List Nat → Code → Code
  | [], c => c
  | 0 :: p, .seq x _ => sub p x
  | _ :: p, .seq _ y => sub p y
  | 0 :: p, .cond _ x _ => sub p x
  | _ :: p, .cond _ _ y => sub p y
  | _ :: p, .block _ c => sub p c
  | _ :: p, .loop c => sub p c
  | _, c => c
noncomputable def body : Code := (Tryd.f96.body).getD .skip
structure Rd (kb : Nat) (sv : Value) (zs : List (List Int)) (W : World) : Prop where
  box : W.cell? ⟨kb, 0, none⟩ = some sv
  row : IsRow W sv (.recs 2 zs)
def Kp (kb : Nat) (sv : Value) (zs : List (List Int)) (W W' : World) : Prop := Rd kb sv zs W → Rd kb sv zs W'
def encs (zs : List (List Int)) (x : Fin zs.length) : Array Value := #[.int .i64 (x.1 : Int), .agg #[.int .i64 ((zs.getD x.1 []).getD 0 0), .int .i64 ((zs.getD x.1 []).getD 1 0)]]
def bk (n k : Nat) : List (Fin n) := (List.finRange n).reverse.take k
theorem bk_len {n k : Nat} (h : k ≤ n) : (bk n k).length = k := by simp [bk, h]
theorem bk_succ {n k : Nat} (h : k < n) : bk n (k + 1) = bk n k ++ [⟨n - 1 - k, by omega⟩] := by
  unfold bk
  rw [List.take_succ_eq_append_getElem (by simpa using h)]
  congr 2
  simp
structure ActOK (y : Value) (kb : Nat) (i : Int) (a : Act) : Prop where
  size : a.tmps.size = 19
  defers : a.defers = []
  t0 : a.tmps.getD 0 undef = y
  t1 : a.tmps.getD 1 undef = .pointer (some ⟨kb, 0, none⟩)
  t3 : a.tmps.getD 3 undef = .int .i64 i
def stA (y : Value) (zs : List (List Int)) : St := ⟨[(0, .w (.c (.d (.v y)))), (1, .w (.c (.p 0 0 1 0)))], [(0, .ebox [.o 1]), (1, .ext (.recs 2 zs))], 2⟩
def stK (y : Value) (zs : List (List Int)) (i : Int) : St := ⟨(3, vi .i64 i) :: (stA y zs).tm, (stA y zs).hp, 2⟩
def stC (y : Value) (zs : List (List Int)) (i : Int) : St := ⟨(8, vb (decide (i ≥ 0))) :: (stK y zs i).tm, (stA y zs).hp, 2⟩
def stD (y : Value) (zs : List (List Int)) (i : Int) : St := ⟨(16, .w (.a [.d (.i .i64 ((zs.getD i.toNat []).getD 0 0)), .d (.i .i64 ((zs.getD i.toNat []).getD 1 0))])) :: (12, vi .i64 i) :: (11, .w (.c (.d (.v y)))) :: (stK y zs i).tm, (stA y zs).hp, 2⟩
def rho (kb : Nat) (sv : Value) : Env := fun h => if h = 0 then .pointer (some ⟨kb, 0, none⟩) else sv
theorem hrel {kb : Nat} {sv : Value} {zs : List (List Int)} {W : World} (h : Rd kb sv zs W) (y : Value) : HRel (rho kb sv) (fun k => k < W.heap.size) (stA y zs).hp 2 W := by
  refine ⟨fun x o hf => ?_, fun x o x' o' b hf hf' hne hb => ?_, ⟨(fun _ _ h => nomatch h), (fun _ _ h => nomatch h)⟩⟩
  · simp only [stA, find] at hf
    split at hf
    · rename_i e
      subst e
      cases hf
      refine ⟨by omega, (fun c hc => by simp only [List.mem_singleton] at hc; subst hc; exact (by decide : (1 : Nat) < 2)), kb, 0, rfl, World.block_lt_of_cell? W _ h.box, fun j c hj => ?_⟩
      match j, hj with
      | 0, hj =>
        cases hj
        exact h.box
    · split at hf
      · rename_i e
        subst e
        cases hf
        exact ⟨by omega, trivial, h.row, h.row.lt (Nat.succ_pos 1)⟩
      · cases hf
  · simp only [stA, find] at hf
    split at hf
    · cases hf; cases hb
    · split at hf
      · cases hf; cases hb
      · cases hf
theorem rel_of {kb : Nat} {sv y : Value} {zs : List (List Int)} {i : Int} {a : Act} {W : World} (h : Rd kb sv zs W) (ha : ActOK y kb i a) : Rel (rho kb sv) (fun k => k < W.heap.size) 19 2 (stK y zs i) a W := by
  refine ⟨fun t v hv => ?_, ha.size, ha.defers, hrel h y, fun k hk => hk, Nat.le_refl _⟩
  simp only [stK, stA, getT] at hv
  split at hv
  · rename_i e; subst e; cases hv; exact ⟨trivial, ha.t3⟩
  · split at hv
    · rename_i e; subst e; cases hv; exact ⟨trivial, ha.t0⟩
    · split at hv
      · rename_i e; subst e; cases hv; exact ⟨(by decide : (0 : Nat) < 2), ha.t1⟩
      · cases hv
theorem back {kb : Nat} {sv y : Value} {zs : List (List Int)} {i : Int} {ρ : Env} {B : Bd} {a : Act} {W : World} (hag : Agree 2 (rho kb sv) ρ) (hr : Rel ρ B 19 2 (stK y zs i) a W) : Rd kb sv zs W ∧ ActOK y kb i a := by
  have h0 : ρ 0 = .pointer (some ⟨kb, 0, none⟩) := hag 0 (by decide)
  have h1 : ρ 1 = sv := hag 1 (by decide)
  refine ⟨⟨?_, ?_⟩, hr.size, hr.defers, (hr.tm 0 _ rfl).2, ?_, (hr.tm 3 _ rfl).2⟩
  · obtain ⟨_, _, k, o, hk, _, hc⟩ := hr.heap.ok 0 _ rfl
    have := hc 0 _ rfl
    rw [h0] at hk
    have e : (⟨kb, 0, none⟩ : Addr) = ⟨k, o, none⟩ := Option.some.inj (Value.pointer.inj hk)
    cases e
    rw [← h1]
    exact this
  · rw [← h1]
    exact (hr.heap.ok 1 _ rfl).2.2.1
  · have := (hr.tm 1 _ rfl).2
    rw [this]
    show Value.pointer (some ⟨(base (ρ 0)).block, (base (ρ 0)).off + 0, none⟩) = _
    rw [h0]
    rfl
theorem piece {c : Code} {st st2 : St} {ρ : Env} {a : Act} {w : World} (hr : Rel ρ (fun x => x < w.heap.size) 19 2 st a w)
    (h : sx Tryd.prog (fun _ => none) 19 2 0 (fun _ _ _ => none) (fun _ _ _ => False) c 0 [] st (fun e st' => match e with | .normal => Le 2 st' st2 | _ => False)) :
    c.wp Tryd.prog (fun e a' w' => e = .normal ∧ w.grownBy w' none ∧ ∃ ρ', Rel ρ' (fun x => x < w.heap.size) 19 2 st2 a' w' ∧ Agree 2 ρ ρ') a w := by
  refine wp_mono (sx_sound (fun _ _ _ h => by cases h) (fun _ _ _ _ _ _ _ _ h => h.elim) c 0 [] st _ ρ a w h hr (Agree.refl _ _) (Bel.refl _ _)) ?_
  rintro e a' w' ⟨ex, ρ', st', rfl, hk, hr', hag, hbl⟩
  cases ex with
  | normal =>
    obtain ⟨ρ2, hr2, hag2⟩ := Le.rel hk hr'
    exact ⟨rfl, ⟨hbl.os, hbl.tape, hbl.output, hbl.size, fun k hk _ => hbl.block k hk⟩, ρ2, hr2, fun x hx => (hag2 x hx).trans (hag x hx)⟩
  | exit j => exact hk.elim
  | ret => exact hk.elim
abbrev pc (c : Code) (st st2 : St) : Prop := sx Tryd.prog (fun _ => none) 19 2 0 (fun _ _ _ => none) (fun _ _ _ => False) c 0 [] st (fun e st' => match e with | .normal => Le 2 st' st2 | _ => False)
def opsOf : Code → List Oper
  | .region _ ops _ => ops.toList
  | _ => []
noncomputable def callOps : List Oper := opsOf (sub [1, 0, 0, 1, 0, 0, 0] body)
set_option maxRecDepth 100000 in
theorem pc0 (y : Value) (zs : List (List Int)) (hl : zs.length ≤ 17592186044416) : pc (sub [0] body) (stA y zs) (stK y zs ((zs.length : Int) - 1)) := by
  refine Eq.mp (by kernel_rfl : (Ob (True) ∧ (Ob (IntKind.wrap IntKind.i64 ((↑(List.length zs) : Int) - (1 : Int)) = (zs.length : Int) - 1) ∧ (Ob (y = y) ∧ (Ob ((0 : Nat) = (0 : Nat)) ∧ (Ob (zs = zs) ∧ True))))) = _) ?_
  exact ⟨⟨trivial⟩, ⟨IntWalk.i64_in _ (by omega)⟩, ⟨rfl⟩, ⟨rfl⟩, ⟨rfl⟩, trivial⟩
set_option maxRecDepth 100000 in
theorem pc1 (y : Value) (zs : List (List Int)) (i : Int) : pc (sub [1, 0, 0, 0, 0] body) (stK y zs i) (stC y zs i) := by
  refine Eq.mp (by kernel_rfl : (Ob (decide (i ≥ (0 : Int)) = decide (i ≥ (0 : Int))) ∧ (Ob (i = i) ∧ (Ob (y = y) ∧ (Ob ((0 : Nat) = (0 : Nat)) ∧ (Ob (zs = zs) ∧ True))))) = _) ?_
  exact ⟨⟨rfl⟩, ⟨rfl⟩, ⟨rfl⟩, ⟨rfl⟩, ⟨rfl⟩, trivial⟩
set_option maxRecDepth 100000 in
theorem pc3 (y : Value) (zs : List (List Int)) (i : Int) (hi : 0 ≤ i ∧ i ≤ 17592186044416) : pc (sub [1, 0, 0, 1, 1] body) (stK y zs i) (stK y zs (i - 1)) := by
  refine Eq.mp (by kernel_rfl : (Ob (IntKind.wrap IntKind.i64 (i - (1 : Int)) = i - 1) ∧ (Ob (y = y) ∧ (Ob ((0 : Nat) = (0 : Nat)) ∧ (Ob (zs = zs) ∧ True)))) = _) ?_
  exact ⟨⟨IntWalk.i64_in _ (by omega)⟩, ⟨rfl⟩, ⟨rfl⟩, ⟨rfl⟩, trivial⟩
set_option maxRecDepth 100000 in
theorem pc2 (y : Value) (zs : List (List Int)) (i : Int) (hi : 0 ≤ i ∧ i < (zs.length : Int)) : opsX Tryd.prog (fun _ => none) 19 callOps (callOps.take 6) (stK y zs i) (fun st' => Le 2 st' (stD y zs i)) := by
  refine Eq.mp (by kernel_rfl : (Ob (True) ∧ (Ob ((0 : Int) ≤ i ∧ i < (↑(List.length zs) : Int)) ∧ (Ob (Int.toNat i < List.length zs) ∧
    (Ob (List.getD (List.getD zs (Int.toNat i) []) (0 : Nat) (0 : Int) = List.getD (List.getD zs (Int.toNat i) []) (0 : Nat) (0 : Int)) ∧
    (Ob (List.getD (List.getD zs (Int.toNat i) []) (1 : Nat) (0 : Int) = List.getD (List.getD zs (Int.toNat i) []) (1 : Nat) (0 : Int)) ∧
    (Ob (i = i) ∧ (Ob (y = y) ∧ (Ob (i = i) ∧ (Ob (y = y) ∧ (Ob ((0 : Nat) = (0 : Nat)) ∧ (Ob (zs = zs) ∧ True))))))))))) = _) ?_
  exact ⟨⟨trivial⟩, ⟨hi⟩, ⟨by omega⟩, ⟨rfl⟩, ⟨rfl⟩, ⟨rfl⟩, ⟨rfl⟩, ⟨rfl⟩, ⟨rfl⟩, ⟨rfl⟩, ⟨rfl⟩, trivial⟩
theorem getT_none {y : Value} {zs : List (List Int)} {i : Int} {t : Nat} (h : t ≠ 3 ∧ t ≠ 0 ∧ t ≠ 1) : getT (stK y zs i).tm t = none := by
  simp only [stK, stA, getT]
  rw [if_neg (Ne.symm h.1), if_neg (Ne.symm h.2.1), if_neg (Ne.symm h.2.2)]
theorem relC {y : Value} {zs : List (List Int)} {i : Int} {ρ : Env} {B : Bd} {a : Act} {W : World} (h : Rel ρ B 19 2 (stC y zs i) a W) : Rel ρ B 19 2 (stK y zs i) a W := by
  refine ⟨fun t v hv => h.tm t v ?_, h.size, h.defers, h.heap, h.le, h.n0⟩
  have hne : t ≠ 8 := fun e => by subst e; rw [getT_none (by decide)] at hv; cases hv
  show getT ((8, _) :: _) t = some v
  simp only [getT]
  rw [if_neg (Ne.symm hne)]
  exact hv
theorem relD {y : Value} {zs : List (List Int)} {i : Int} {ρ : Env} {B : Bd} {a : Act} {W : World} (h : Rel ρ B 19 2 (stD y zs i) a W) : Rel ρ B 19 2 (stK y zs i) a W := by
  refine ⟨fun t v hv => h.tm t v ?_, h.size, h.defers, h.heap, h.le, h.n0⟩
  have h1 : t ≠ 16 := fun e => by subst e; rw [getT_none (by decide)] at hv; cases hv
  have h2 : t ≠ 12 := fun e => by subst e; rw [getT_none (by decide)] at hv; cases hv
  have h3 : t ≠ 11 := fun e => by subst e; rw [getT_none (by decide)] at hv; cases hv
  show getT ((16, _) :: (12, _) :: (11, _) :: _) t = some v
  simp only [getT]
  rw [if_neg (Ne.symm h1), if_neg (Ne.symm h2), if_neg (Ne.symm h3)]
  exact hv
theorem ActOK.put {y : Value} {kb : Nat} {i : Int} {a : Act} (h : ActOK y kb i a) {t : Nat} {v : Value} (ht : t ≠ 3 ∧ t ≠ 0 ∧ t ≠ 1) (hlt : t < 19) : ActOK y kb i (a.put (some t) v) := by
  have hg : ∀ x, x ≠ t → (a.put (some t) v).tmps.getD x undef = a.tmps.getD x undef := fun x hx => by
    rw [put_get (fun y hy => by cases hy; rw [h.size]; exact hlt), if_neg (fun e => hx (Option.some.inj e).symm)]
  exact ⟨by rw [put_size]; exact h.size, by rw [put_defers]; exact h.defers, (hg 0 (Ne.symm ht.2.1)).trans h.t0, (hg 1 (Ne.symm ht.2.2)).trans h.t1, (hg 3 (Ne.symm ht.1)).trans h.t3⟩
set_option maxRecDepth 100000 in
set_option maxHeartbeats 2000000 in
theorem back_loop (n l kb : Nat) (sv : Value) (zs : List (List Int)) (hl : zs.length ≤ 17592186044416) (J Jx : List (Fin zs.length) → World → Prop)
    (hY : ∀ pre x W, J pre W → pre.length < zs.length → YieldAt Fence.wide (n - 1) Tryd.prog l (encs zs x) W fun e W' =>
      (e = .returned (.bool true) ∧ J (pre ++ [x]) W' ∧ Kp kb sv zs W W') ∨ (e = .returned (.bool false) ∧ Jx (pre ++ [x]) W'))
    (hJ : ∀ A B pre, J pre A → A.grownBy B none → J pre B) (a : Act) (w : World) (hr : Rd kb sv zs w) (ha : ActOK (.func (.yield l) #[] #[]) kb ((zs.length : Int) - 1) a) (hj : J [] w) :
    (sub [1] body).wpIn Fence.wide n Tryd.prog (bodyPost Tryd.prog Tryd.f96 fun e W' => (∃ v, e = .returned v) ∧
      ((∃ ys, ys = bk zs.length zs.length ∧ J ys W') ∨ (∃ pre, True ∧ Jx pre W'))) a w := by
  refine wpIn_block (wpIn_loop (fun a w => ∃ k : Nat, k ≤ zs.length ∧ Rd kb sv zs w ∧ ActOK (.func (.yield l) #[] #[]) kb ((zs.length : Int) - 1 - k) a ∧ J (bk zs.length k) w) (fun a _ => (intOf (a.tmps.getD 3 undef) + 1).toNat)
    ⟨0, Nat.zero_le _, hr, by simpa using ha, hj⟩ ?_)
  rintro a w ⟨k, hk, hr, ha, hj⟩
  have hmu : (intOf (a.tmps.getD 3 undef) + 1).toNat = zs.length - k := by
    rw [ha.t3]
    simp [intOf]
    omega
  rw [hmu]
  refine wpIn_seq (wpIn_seq (wpIn_wide.2 (wp_mono (piece (rel_of hr ha) (pc1 _ zs _)) ?_)))
  rintro e a1 w1 ⟨rfl, hg1, ρ1, hr1, hag1⟩
  have hj1 := hJ _ _ _ hj hg1
  obtain ⟨hrd1, hact1⟩ := back hag1 (relC hr1)
  have hc : a1.eval (.tmp 8) = .bool (decide ((zs.length : Int) - 1 - k ≥ 0)) := (hr1.tm 8 _ rfl).2
  by_cases hlt : k < zs.length
  · refine wpIn_cond_true (by rw [hc, decide_eq_true (by omega)]) (wpIn_skip ?_)
    refine wpIn_seq (wpIn_block (wpIn_seq (wpIn_region_list ?_)))
    have hi : 0 ≤ (zs.length : Int) - 1 - k ∧ (zs.length : Int) - 1 - k < (zs.length : Int) := by omega
    have hx : ((zs.length - 1 - k : Nat) : Int) = (zs.length : Int) - 1 - k := by omega
    have hxn : ((zs.length : Int) - 1 - k).toNat = zs.length - 1 - k := by omega
    refine Eq.mp (congrArg (fun L => wpListIn Fence.wide n Tryd.prog _ _ L a1 w1) (List.take_append_drop 6 callOps)) ?_
    refine wpListIn_pre (by rintro ⟨_, _, ⟨_, hv⟩, _⟩; cases hv) (callOps.take 6) a1 w1 (opsX_sound (all := callOps) (n0 := 2) (N := 19) (ρ0 := rho kb sv) (w0 := w1) (B := fun x => x < w1.heap.size) (sp := fun _ => none) (k := fun st' => Le 2 st' (stD (.func (.yield l) #[] #[]) zs ((zs.length : Int) - 1 - k)))
      (fun _ _ _ h => by cases h) ?_ (callOps.take 6) (rho kb sv) _ a1 w1 (rel_of hrd1 hact1) (Agree.refl _ _) (Bel.refl _ _) (pc2 _ zs _ hi))
    intro ρ2 st2 a2 w2 hr2 hag2 hbl2 hle2
    obtain ⟨ρ3, hr3, hag3⟩ := hle2.rel hr2
    have hag23 : Agree 2 (rho kb sv) ρ3 := fun x hx => (hag3 x hx).trans (hag2 x hx)
    obtain ⟨hrd2, hact2⟩ := back hag23 (relD hr3)
    have hj2 := hJ _ _ _ hj1 ⟨hbl2.os, hbl2.tape, hbl2.output, hbl2.size, fun k hk _ => hbl2.block k hk⟩
    have g11 : a2.eval (.tmp 11) = .func (.yield l) #[] #[] := (hr3.tm 11 _ rfl).2
    have g12 : a2.eval (.tmp 12) = .int .i64 ((zs.length - 1 - k : Nat) : Int) := by rw [hx]; exact (hr3.tm 12 _ rfl).2
    have g16 : a2.eval (.tmp 16) = .agg #[.int .i64 ((zs.getD (zs.length - 1 - k) []).getD 0 0), .int .i64 ((zs.getD (zs.length - 1 - k) []).getD 1 0)] := by
      rw [← hxn]
      exact (hr3.tm 16 _ rfl).2
    obtain ⟨fn, tmps, assign, bd, hy, hR⟩ := hY (bk zs.length k) ⟨zs.length - 1 - k, by omega⟩ w2 hj2 (by rw [bk_len hk]; exact hlt)
    show wpListIn _ _ _ _ _ _ _ _
    refine wpListIn_plain rfl fun K hK => ⟨fun _ _ => trivial, ?_⟩
    have hcall : ∀ o : Oper, o.op = .call { callee := .value (.tmp 11), args := #[.tmp 12, .tmp 16], argTypes := #[3, 24] } → ((o.semAt Fence.wide.round a2.eval).run Tryd.prog w2) = .ok (.round l fn tmps assign bd) w2 := by
      intro o ho
      rw [Fence.wide_round, Oper.semAt_none]
      unfold execOp
      simp only [ho, resolve, g11, Deferred.ofValue, Sem.run_bind, Sem.run_pure, Result.andThen_ok, invoke, List.map_toArray, List.map_cons, List.map_nil, g12, g16]
      exact hy
    rw [hcall _ rfl]
    refine ⟨(fun h => by cases h), hR.mono ?_⟩
    have hact3 : ∀ b, ActOK (.func (.yield l) #[] #[]) kb ((zs.length : Int) - 1 - k) ((a2.put (some 17) (.bool b)).put (some 18) (.bool !b)) := fun b => (hact2.put (by decide) (by decide)).put (by decide) (by decide)
    have hnot : ∀ (o : Oper) (b : Bool) (w3 : World), o.op = .unOp .not 4 (.tmp 17) → ((o.semAt Fence.wide.round (a2.put (some 17) (.bool b)).eval).run Tryd.prog w3) = .ok (.value (.bool !b)) w3 := by
      intro o b w3 ho
      have h17 : (a2.put (some 17) (.bool b)).eval (.tmp 17) = .bool b := by
        show (Act.put _ (some 17) _).tmps.getD 17 undef = _
        rw [put_get (fun x hx => by cases hx; rw [hact2.size]; decide), if_pos rfl]
      rw [Fence.wide_round, Oper.semAt_none]
      unfold execOp
      simp only [ho, h17]
      rfl
    have h18 : ∀ b, ((a2.put (some 17) (.bool b)).put (some 18) (.bool !b)).eval (.tmp 18) = .bool !b := fun b => by
      show (Act.put _ (some 18) _).tmps.getD 18 undef = _
      rw [put_get (fun x hx => by cases hx; rw [put_size, hact2.size]; decide), if_pos rfl]
    rintro e w3 (⟨rfl, hj3, hk3⟩ | ⟨rfl, hj3⟩)
    · refine hK _ _ (wpListIn_plain rfl fun K hK => ⟨fun _ _ => trivial, ?_⟩)
      rw [hnot _ true w3 rfl]
      refine hK _ _ (wpListIn_nil ?_)
      refine wpIn_cond_false (h18 true) (wpIn_skip ?_)
      refine wpIn_wide.2 (wp_mono (piece (rel_of (hk3 hrd2) (hact3 true)) (pc3 _ zs _ (by omega))) ?_)
      rintro e a7 w7 ⟨rfl, hg7, ρ7, hr7, hag7⟩
      obtain ⟨hrd7, hact7⟩ := back hag7 hr7
      refine ⟨⟨k + 1, hlt, hrd7, ?_, ?_⟩, ?_⟩
      · have e : (zs.length : Int) - 1 - ((k + 1 : Nat) : Int) = (zs.length : Int) - 1 - k - 1 := by omega
        rw [e]
        exact hact7
      · rw [bk_succ hlt]
        exact hJ _ _ _ hj3 hg7
      · rw [hact7.t3]
        simp [intOf]
        omega
    · refine hK _ _ (wpListIn_plain rfl fun K hK => ⟨fun _ _ => trivial, ?_⟩)
      rw [hnot _ false w3 rfl]
      refine hK _ _ (wpListIn_nil ?_)
      refine wpIn_cond_true (h18 false) (wpIn_ret ?_)
      exact ⟨(hact3 false).defers, .tuple #[], results_none rfl _ _ _, ⟨_, rfl⟩, .inr ⟨_, trivial, hj3⟩⟩
  · obtain rfl : k = zs.length := by omega
    refine wpIn_cond_false (by rw [hc, decide_eq_false (by omega)]) (wpIn_exit ?_)
    exact ⟨hact1.defers, .tuple #[], results_none rfl _ _ _, ⟨_, rfl⟩, .inl ⟨_, rfl, hj1⟩⟩
theorem isRow_below {v : Value} {c : Cont} {A C : World} (h : IsRow A v c) (hb : Below A.heap.size A C) : IsRow C v c := by
  obtain ⟨a, cap, hv, hc, hcells⟩ := h
  refine ⟨a, cap, hv, hc, fun hn => ?_⟩
  obtain ⟨b, off, hab, hx⟩ := hcells hn
  refine ⟨b, off, hab, fun j x hj => ?_⟩
  have := hx j x hj
  exact (hb.cell (p := ⟨b, off + j, none⟩) (World.block_lt_of_cell? A _ this)).trans this
theorem Rd.below {kb : Nat} {sv : Value} {zs : List (List Int)} {A C : World} (h : Rd kb sv zs A) (hb : Below A.heap.size A C) : Rd kb sv zs C :=
  ⟨(hb.cell (p := ⟨kb, 0, none⟩) (World.block_lt_of_cell? A _ h.box)).trans h.box, isRow_below h.row hb⟩
set_option maxRecDepth 100000 in
theorem back_stops (n kb : Nat) (sv : Value) (zs : List (List Int)) (hl : zs.length ≤ 17592186044416) (w : World) (hw : Rd kb sv zs w) :
    SeqStopsK Fence.wide n Tryd.prog 96 #[.pointer (some ⟨kb, 0, none⟩)] (encs zs) (Kp kb sv zs) (fun ys => ys = bk zs.length zs.length) (fun _ => True) zs.length w := by
  intro l J Jx W hW hJ hJx hY h0
  have hr := hw.below hW
  have hb : Tryd.f96.body = some (.seq (sub [0] body) (sub [1] body)) := by kernel_rfl
  refine callsIn_of_wp Tryd.func96 hb trivial ?_ rfl
  generalize ha0 : ({ tmps := (#[Value.func (.yield l) #[] #[]] ++ #[Value.pointer (some ⟨kb, 0, none⟩)]) ++ Array.replicate (Tryd.f96.ntmps - (#[Value.func (.yield l) #[] #[]] ++ #[Value.pointer (some ⟨kb, 0, none⟩)]).size) undef, defers := [] } : Act) = a0
  have s0 : a0.tmps.size = 19 := by rw [← ha0]; kernel_rfl
  have d0 : a0.defers = [] := by rw [← ha0]
  have t0 : a0.tmps.getD 0 undef = .func (.yield l) #[] #[] := by rw [← ha0]; kernel_rfl
  have t1 : a0.tmps.getD 1 undef = .pointer (some ⟨kb, 0, none⟩) := by rw [← ha0]; kernel_rfl
  clear ha0
  have hrel0 : Rel (rho kb sv) (fun x => x < W.heap.size) 19 2 (stA (.func (.yield l) #[] #[]) zs) a0 W := by
    refine ⟨fun t v hv => ?_, s0, d0, hrel hr _, fun k hk => hk, Nat.le_refl _⟩
    simp only [stA, getT] at hv
    split at hv
    · rename_i e; subst e; cases hv; exact ⟨trivial, t0⟩
    · split at hv
      · rename_i e; subst e; cases hv; exact ⟨(by decide : (0 : Nat) < 2), t1⟩
      · cases hv
  refine wpIn_seq (wpIn_wide.2 (wp_mono (piece hrel0 (pc0 _ zs hl)) ?_))
  rintro e a1 w1 ⟨rfl, hg1, ρ1, hr1, hag1⟩
  obtain ⟨hrd1, hact1⟩ := back hag1 hr1
  exact back_loop n l kb sv zs hl J Jx hY (fun A B pre hj hg => hJ pre A B none hj hg (fun r e => by cases e)) a1 w1 hrd1 hact1 (hJ [] W w1 none h0 hg1 (fun r e => by cases e))
end Go.Sh.Bk
end

section
open Go.RowKit
namespace Go.Sx
variable [Globs] {P : Program} {sp : Specs}
theorem pureT_okC {f : Nat} {fn : Func} {body : Code} {shs : List SV} {g : List Lf → Option GT} (hf : P.funcs[f]? = some fn) (hb : fn.body = some body) (hn : (fn.name == "runtime.NumGoroutine") = false)
    (h : ∀ ls t, g ls = some t → t.sel.1 → ∀ b : Bv, bldVs shs 0 ls = some b → ∀ (ρ0 : Env) (w : World), (∀ x ∈ b.vs, V.lt b.n x) → HRel ρ0 (fun k => k < w.heap.size) b.hp b.n w →
      Calls P f (b.vs.map (V.val ρ0)).toArray w fun e w' => ∃ ρ' v hp' nx', e = .returned (V.val ρ' v) ∧ v.lt nx' ∧ Agree b.n ρ0 ρ' ∧ HRel ρ' (fun k => k < w.heap.size) hp' nx' w' ∧ Bel (fun k => k < w.heap.size) w w' ∧ fitV b.n t.sel.2 v hp') :
    SpecOK P f true (pureT shs g) := by
  refine .inl ⟨enter_ok hf hb hn, fun ρ B w args hp nx t hS hob hlt hh hB => ?_⟩
  unfold pureT at hS
  split at hS
  · rename_i ls am hto
    split at hS
    · rename_i t' hg
      cases hS
      rw [toRT_sel] at hob ⊢
      have hob : t'.sel.1 := hob
      obtain ⟨b, ρ0, hbl, q⟩ := toVs_spec hh hB shs args ls am hto hlt 0 (fun _ => undef) []
      rw [List.append_nil] at hbl
      have hbn : b.n = am.length := by have := q.nn; omega
      have hh0 : HRel ρ0 (fun k => k < w.heap.size) b.hp b.n w := by
        refine ⟨fun x o hf => ?_, fun x o x' o' k hf hf' _ hb => ?_, glob_all hh.glob hB⟩
        · obtain ⟨_, a2, a3, a4, _⟩ := q.heap x o hf
          exact ⟨a2, a3, a4⟩
        · obtain ⟨_, _, _, _, a5⟩ := q.heap x o hf
          rw [a5] at hb
          cases hb
      have hcalls := h ls t' hg hob b hbl ρ0 w q.lt hh0
      rw [q.val] at hcalls
      refine hcalls.mono ?_
      rintro e w' ⟨ρ', v, hp', nx', rfl, hvlt, hag, hh', hbel, hfit⟩
      have hbw : Below w.heap.size w w' := hbel.below
      have hh1 := hh.below hbw hB
      obtain ⟨ws, hws, hfw⟩ : ∃ ws, (tupV ws).val ρ' = v.val ρ' ∧ fitRs b.n hp' t'.sel.2 ws [] := by
        match v, hfit with
        | .w u, hfit => exact ⟨[u], rfl, hfit⟩
        | .t [], hfit => exact ⟨[], rfl, hfit⟩
        | .t (x :: y :: l), hfit => exact ⟨x :: y :: l, rfl, hfit⟩
      have hin : CIn ρ ρ' B hp hp' nx w.heap.size b.n am w' [] := by
        refine ⟨hh1, fun k o b hk hbk => .inl (O.blk_lt (hh.ok k o hk).2.2 hbk).1, fun i hi => ?_⟩
        have hi2 : i < am.length := by omega
        have h1 := q.own i hi2
        rw [Nat.zero_add] at h1
        refine ⟨?_, by rw [hag i hi]; exact h1.symm⟩
        have : am.getD i (.d (.v undef)) = am[i] := by simp [List.getD, hi2]
        rw [this]
        exact q.xlt _ (List.getElem_mem hi2)
      obtain ⟨us2, ρ2, k⟩ := fitRs_spec (m := w.heap.size) (fun k hk => hB k hk) hh' t'.sel.2 ws [] hfw nx hp ρ hin
      refine ⟨ρ2, ?_, k.agree, tupV_lt k.lt, k.le, k.heap, bel_of hbw hB, fun _ => hbw, fun _ h o b hle hf hbk => ?_⟩
      · show Ending.returned _ = Ending.returned ((tupV (rvRs am t'.sel.2 nx).ws).val ρ2)
        rw [← hws, tupV_val, tupV_val]
        simp only [k.val]
      · have hf : find ((rvRs am t'.sel.2 nx).hp ++ hp) h = some o := hf
        rw [find_append] at hf
        cases hg2 : find (rvRs am t'.sel.2 nx).hp h with
        | some o2 => rw [hg2] at hf; cases hf; exact k.fresh h o b hg2 hbk
        | none =>
          rw [hg2] at hf
          have := (hh.ok h o hf).1
          omega
    · cases hS
  · cases hS
end Go.Sx
namespace Go.Sh
open Go Go.Proofs Go.RowKit Go.Sx
set_option linter.unusedVariables false
attribute [local go_sem] Oper.semAt_some
def k_G_open : List SV := [.a [.d, .r (.floats .f32 []), .d, .d]]
def G_open_b0 (aResponseSamples : List Nat) (aNoise : Int) (x0 : (Int × List (List Int))) : Option ((Int × List (List Int)) ⊕ (List (List Int))) :=
  if x0.1 < (↑(List.length aResponseSamples) : Int) then
   if (0 : Int) ≤ x0.1 ∧ x0.1 < (↑(List.length aResponseSamples) : Int) then
    if Int.toNat x0.1 < List.length aResponseSamples then
     if f2iOk FloatKind.f32 IntKind.i64 (List.getD aResponseSamples (Int.toNat x0.1) (0 : Nat)) = true then
      Option.bind (G_size (f2i FloatKind.f32 (List.getD aResponseSamples (Int.toNat x0.1) (0 : Nat)))) fun r1 =>
      if (List.length x0.2 + List.length [[IntKind.wrap IntKind.i64 ((if IntKind.wrap IntKind.i64 (r1 - aNoise) > (0 : Int) then IntKind.wrap IntKind.i64 (r1 - aNoise) else (0 : Int)) * if IntKind.wrap IntKind.i64 (r1 - aNoise) > (0 : Int) then IntKind.wrap IntKind.i64 (r1 - aNoise) else (0 : Int)), IntKind.wrap IntKind.i64 (IntKind.wrap IntKind.i64 (r1 + aNoise) * IntKind.wrap IntKind.i64 (r1 + aNoise))]]) * (16 : Nat) ≤ (140737488355328 : Nat) ∧ List.length x0.2 + List.length [[IntKind.wrap IntKind.i64 ((if IntKind.wrap IntKind.i64 (r1 - aNoise) > (0 : Int) then IntKind.wrap IntKind.i64 (r1 - aNoise) else (0 : Int)) * if IntKind.wrap IntKind.i64 (r1 - aNoise) > (0 : Int) then IntKind.wrap IntKind.i64 (r1 - aNoise) else (0 : Int)), IntKind.wrap IntKind.i64 (IntKind.wrap IntKind.i64 (r1 + aNoise) * IntKind.wrap IntKind.i64 (r1 + aNoise))]] ≤ (9223372036854775807 : Nat) then
       some (.inl ((IntKind.wrap IntKind.i64 (x0.1 + (1 : Int)), x0.2 ++ [[IntKind.wrap IntKind.i64 ((if IntKind.wrap IntKind.i64 (r1 - aNoise) > (0 : Int) then IntKind.wrap IntKind.i64 (r1 - aNoise) else (0 : Int)) * if IntKind.wrap IntKind.i64 (r1 - aNoise) > (0 : Int) then IntKind.wrap IntKind.i64 (r1 - aNoise) else (0 : Int)), IntKind.wrap IntKind.i64 (IntKind.wrap IntKind.i64 (r1 + aNoise) * IntKind.wrap IntKind.i64 (r1 + aNoise))]])))
      else none
     else none
    else none
   else none
  else
   some (.inr x0.2)
def G_open_r0 (y0_0 : List (List Int)) : Option Unit :=
  if (0 : Int) ≤ IntKind.wrap IntKind.i64 ((↑(List.length y0_0) : Int) + (1 : Int)) ∧ IntKind.wrap IntKind.i64 ((↑(List.length y0_0) : Int) + (1 : Int)) = IntKind.wrap IntKind.i64 ((↑(List.length y0_0) : Int) + (1 : Int)) ∧ (↑(16 : Nat) : Int) * IntKind.wrap IntKind.i64 ((↑(List.length y0_0) : Int) + (1 : Int)) ≤ (281474976710656 : Int) ∧ IntKind.wrap IntKind.i64 ((↑(List.length y0_0) : Int) + (1 : Int)) ≤ (9223372036854775807 : Int) then
   if (0 : Int) ≤ (↑(List.length y0_0) : Int) ∧ (↑(List.length y0_0) : Int) < (↑(List.length (List.replicate (Int.toNat (IntKind.wrap IntKind.i64 ((↑(List.length y0_0) : Int) + (1 : Int)))) [(0 : Int), (0 : Int)])) : Int) then
    if Int.toNat (↑(List.length y0_0) : Int) < List.length (List.replicate (Int.toNat (IntKind.wrap IntKind.i64 ((↑(List.length y0_0) : Int) + (1 : Int)))) [(0 : Int), (0 : Int)]) then
     some ()
    else none
   else none
  else none
def iniS (zs : List (List Int)) (tail : Int) : List (List Int) :=
  List.set (List.replicate (Int.toNat (IntKind.wrap IntKind.i64 ((↑(List.length zs) : Int) + (1 : Int)))) [(0 : Int), (0 : Int)]) (Int.toNat (↑(List.length zs) : Int)) (wr (List.length [D.i IntKind.i64 (0 : Int), D.i IntKind.i64 (0 : Int)]) (List.getD (List.replicate (Int.toNat (IntKind.wrap IntKind.i64 ((↑(List.length zs) : Int) + (1 : Int)))) [(0 : Int), (0 : Int)]) (Int.toNat (↑(List.length zs) : Int)) []) (0 : Nat) [(0 : Int), tail])
def upS (ss : List (List Int)) (i lo hi : Int) : List (List Int) :=
  List.set ss (Int.toNat i) (wr (2 : Nat) (List.getD ss (Int.toNat i) []) (0 : Nat) [IntKind.wrap IntKind.i64 (lo + List.getD (List.getD ss (Int.toNat (IntKind.wrap IntKind.i64 (i + (1 : Int)))) []) (0 : Nat) (0 : Int)), IntKind.wrap IntKind.i64 (hi + List.getD (List.getD ss (Int.toNat (IntKind.wrap IntKind.i64 (i + (1 : Int)))) []) (1 : Nat) (0 : Int))])
def sumsOf (zs : List (List Int)) (tail : Int) (pre : List (Fin zs.length)) : List (List Int) :=
  pre.foldl (fun ss x => upS ss (x.1 : Int) ((zs.getD x.1 []).getD 0 0) ((zs.getD x.1 []).getD 1 0)) (iniS zs tail)
def G_open (aResponseRate : Int) (aResponseSamples : List Nat) (aNoise : Int) (aTail : Int) : Option (Int × List (List Int) × List (List Int)) :=
  Option.bind (y22 aResponseRate aResponseSamples aNoise aTail) fun r0 =>
  if (r0.2 != (0 : Int)) = true then
   some (r0.2, [], [])
  else
   Option.bind (iter (G_open_b0 aResponseSamples aNoise) big (((0 : Int), []))) fun y0 =>
   Option.bind (G_open_r0 y0) fun _ => some (0, y0, sumsOf y0 aTail (Bk.bk y0.length y0.length))
def g_G_open : List Lf → Option GT
  | [.d (.i .i64 aResponseRate), .r (.floats .f32 aResponseSamples), .d (.i .i64 aNoise), .d (.i .i64 aTail)] => some (.br ((val (G_open aResponseRate aResponseSamples aNoise aTail)).1 != (0 : Int))
    (.leaf (ok (G_open aResponseRate aResponseSamples aNoise aTail)) [.c (.d (.v (Value.pointer none))), .c (.d (.i .i64 ((val (G_open aResponseRate aResponseSamples aNoise aTail)).1)))])
    (.leaf (ok (G_open aResponseRate aResponseSamples aNoise aTail)) [.c (.box 102 [.d (.i .i64 aResponseRate), .g 0, .d (.i .i64 aNoise), .d (.i .i64 aTail), .row 24 (.recs 2 ((val (G_open aResponseRate aResponseSamples aNoise aTail)).2.1)), .row 24 (.recs 2 ((val (G_open aResponseRate aResponseSamples aNoise aTail)).2.2))]), .c (.d (.i .i64 (0 : Int)))]))
  | _ => none
abbrev sp_56 : Specs → Specs := addK 56 true (pureT k_G_open g_G_open)
def hpT (rate : Int) (samples : List Nat) (noise tail : Int) (zs ss : List (List Int)) : Hp := [(1, .box 36 [.d (.i .i64 rate), .o 0, .d (.i .i64 noise), .d (.i .i64 tail)]), (2, .box 95 [.p 3 (0 : Nat) 1 (0 : Nat)]), (0, .ext (.floats .f32 samples)), (3, .box 102 [.d (.i .i64 rate), .o 0, .d (.i .i64 noise), .d (.i .i64 tail), .o 4, .o 5]), (4, .row 24 (.recs 2 zs)), (5, .row 24 (.recs 2 ss)), (6, .box 68 [.o 4])]
def stT (rate : Int) (samples : List Nat) (noise tail : Int) (zs ss : List (List Int)) : St := ⟨[(6, .w (.c (.p 2 (0 : Nat) 1 (0 : Nat)))), (89, .w (.c (.fn 96 [6])))], hpT rate samples noise tail zs ss, 7⟩
def subO : List Nat → Code → Code
  | [], c => c
  | 0 :: p, .seq x _ => subO p x
  | _ :: p, .seq _ y => subO p y
  | _ :: p, .block _ c => subO p c
  | _, c => c
def bodyOfR : Code → Code
  | .rangeFunc _ _ _ b => b
  | .block _ c => bodyOfR c
  | _ => .skip
def asgOfR : Code → Code
  | .rangeFunc _ _ a _ => a
  | .block _ c => asgOfR c
  | _ => .skip
noncomputable def openT : Code := tailC' 6 (bodyOf Tryd.f56)
noncomputable def openR5 : Code := subO [0, 0] openT
noncomputable def openB : Code := bodyOfR (subO [0, 1] openT)
noncomputable def openA : Code := asgOfR (subO [0, 1] openT)
def stA (y : Value) (i lo hi : Int) : St := ⟨[(6, .w (.c (.d (.v y)))), (90, vi .i64 i), (91, .w (.a [.d (.i .i64 lo), .d (.i .i64 hi)]))], [], 0⟩
def stA' (y : Value) (i lo hi : Int) : St := ⟨[(6, .w (.c (.d (.v y)))), (12, vi .i64 i), (13, .w (.c (.p 0 0 1 0)))], [(0, .box 24 [.d (.i .i64 lo), .d (.i .i64 hi)])], 1⟩
def stB (rate : Int) (samples : List Nat) (noise tail : Int) (zs ss : List (List Int)) (i lo hi : Int) : St := ⟨[(6, .w (.c (.p 2 (0 : Nat) 1 (0 : Nat)))), (12, vi .i64 i), (13, .w (.c (.p 7 0 1 0)))], (7, .box 24 [.d (.i .i64 lo), .d (.i .i64 hi)]) :: hpT rate samples noise tail zs ss, 8⟩
set_option maxRecDepth 100000 in
theorem openA_vc (y : Value) (i lo hi : Int) : sx Tryd.prog sp0 109 0 0 (fun _ _ _ => none) (drawX Tryd.prog sp0 109) openA 0 [] (stA y i lo hi) (fun e st => match e with | .normal => Le 0 st (stA' y i lo hi) | _ => False) := by
  refine Eq.mp (by kernel_rfl : (
  (Ob (y = y) ∧
   (Ob (i = i) ∧
   (Ob ((0 : Nat) = (0 : Nat)) ∧
   (Ob (lo = lo) ∧
   (Ob (hi = hi) ∧
   True)))))) = _) ?_
  exact (by repeat' (first | exact trivial | exact ⟨rfl⟩ | refine And.intro ?_ ?_))
set_option maxRecDepth 100000 in
theorem openB_vc (rate : Int) (samples : List Nat) (noise tail : Int) (zs ss : List (List Int)) (i lo hi : Int) (hi0 : 0 ≤ i) (hi1 : i + 1 < (ss.length : Int)) (hi2 : (ss.length : Int) ≤ 17592186044417) :
    sx Tryd.prog (sp_83 sp0) 109 8 0 (fun _ _ _ => none) (drawX Tryd.prog (sp_83 sp0) 109) openB 0 [] (stB rate samples noise tail zs ss i lo hi) (fun e st => match e with | .normal => Le 8 st (stB rate samples noise tail zs (upS ss i lo hi) i lo hi) | _ => False) := by
  have hw : IntKind.wrap IntKind.i64 (i + (1 : Int)) = i + 1 := IntWalk.i64_in _ (by omega)
  refine Eq.mp (by kernel_rfl : (
  (Ob ((0 : Int) ≤ IntKind.wrap IntKind.i64 (i + (1 : Int)) ∧ IntKind.wrap IntKind.i64 (i + (1 : Int)) < (↑(List.length ss) : Int)) ∧
   (Ob (Int.toNat (IntKind.wrap IntKind.i64 (i + (1 : Int))) < List.length ss) ∧
   (Ob (ok (G_plus lo hi (List.getD (List.getD ss (Int.toNat (IntKind.wrap IntKind.i64 (i + (1 : Int)))) []) (0 : Nat) (0 : Int)) (List.getD (List.getD ss (Int.toNat (IntKind.wrap IntKind.i64 (i + (1 : Int)))) []) (1 : Nat) (0 : Int)))) ∧
   (Ob ((0 : Int) ≤ i ∧ i < (↑(List.length ss) : Int)) ∧
   (Ob (Int.toNat i < List.length ss) ∧
   (Ob ((0 : Nat) = (0 : Nat)) ∧
   (Ob (i = i) ∧
   (Ob ((0 : Nat) = (0 : Nat)) ∧
   (Ob (lo = lo) ∧
   (Ob (hi = hi) ∧
   (Ob (rate = rate) ∧
   (Ob (noise = noise) ∧
   (Ob (tail = tail) ∧
   (Ob ((0 : Nat) = (0 : Nat)) ∧
   (Ob (samples = samples) ∧
   (Ob (rate = rate) ∧
   (Ob (noise = noise) ∧
   (Ob (tail = tail) ∧
   (Ob (zs = zs) ∧
   (Ob (List.set ss (Int.toNat i) (wr (2 : Nat) (List.getD ss (Int.toNat i) []) (0 : Nat) [IntKind.wrap IntKind.i64 (lo + List.getD (List.getD ss (Int.toNat (IntKind.wrap IntKind.i64 (i + (1 : Int)))) []) (0 : Nat) (0 : Int)), IntKind.wrap IntKind.i64 (hi + List.getD (List.getD ss (Int.toNat (IntKind.wrap IntKind.i64 (i + (1 : Int)))) []) (1 : Nat) (0 : Int))]) = upS ss i lo hi) ∧
   True))))))))))))))))))))) = _) ?_
  refine ⟨⟨by rw [hw]; omega⟩, ⟨by rw [hw]; omega⟩, ⟨rfl⟩, ⟨by omega⟩, ⟨by omega⟩, ?_⟩
  exact (by repeat' (first | exact trivial | exact ⟨rfl⟩ | refine And.intro ?_ ?_))
theorem br_i {b : Bool} {X Y : Prop} (h1 : b = true → X) (h2 : b = false → Y) : Br b X Y := by
  cases b
  · exact h2 rfl
  · exact h1 rfl
set_option maxRecDepth 100000 in
set_option maxHeartbeats 4000000 in
theorem head_vc (aResponseRate : Int) (aResponseSamples : List Nat) (aNoise aTail : Int) (r : List (List Int)) (err : Int) (ha : ok (y22 aResponseRate aResponseSamples aNoise aTail))
    (he : ((val (y22 aResponseRate aResponseSamples aNoise aTail)).2 != (0 : Int)) = true → (val (y22 aResponseRate aResponseSamples aNoise aTail)).2 = err)
    (hn : ((val (y22 aResponseRate aResponseSamples aNoise aTail)).2 != (0 : Int)) = false → Option.bind (iter (G_open_b0 aResponseSamples aNoise) big (((0 : Int), []))) (fun y0 => Option.bind (G_open_r0 y0) (fun _ => some y0)) = some r) :
    sx Tryd.prog (sp_15 (sp_80 (sp_82 (sp_83 sp0)))) 109 1 40 ((fun gs id _ => match id with
 | 0 => some ⟨(Int × List (List Int)) × Nat, fun z => ⟨[(1, .w (.c (.p 1 (0 : Nat) 1 (0 : Nat)))), (6, .w (.c (.p 2 (0 : Nat) 1 (0 : Nat)))), (27, .w (.c (.o 0))), (28, .w (.c (.d (.i .i64 ((↑(List.length aResponseSamples) : Int)))))), (29, .w (.c (.d (.i .i64 (Prod.fst (Prod.fst z))))))], [(1, .box 36 [.d (.i .i64 aResponseRate), .o 0, .d (.i .i64 aNoise), .d (.i .i64 aTail)]), (2, .box 95 [.p 3 (0 : Nat) 1 (0 : Nat)]), (0, .ext (.floats .f32 aResponseSamples)), (3, .box 102 [.d (.i .i64 aResponseRate), .o 0, .d (.i .i64 aNoise), .d (.i .i64 aTail), .o 4, .d (.v (Value.slice none (0 : Nat) (0 : Nat)))]), (4, .row 24 (.recs 2 (Prod.snd (Prod.fst z))))], 5⟩, fun z => Option.bind (iter (G_open_b0 aResponseSamples aNoise) (Prod.snd z) (Prod.fst z)) (fun y0 => Option.bind (G_open_r0 y0) (fun _ => some y0)) = some r, fun z => Prod.snd z⟩
 | _ => none)) (drawX Tryd.prog (sp_15 (sp_80 (sp_82 (sp_83 sp0)))) 109) (headC' 6 (bodyOf Tryd.f56)) 0 [] ⟨argsTm 0 (bldD k_G_open [.d (.i .i64 aResponseRate), .r (.floats .f32 aResponseSamples), .d (.i .i64 aNoise), .d (.i .i64 aTail)]).vs, (bldD k_G_open [.d (.i .i64 aResponseRate), .r (.floats .f32 aResponseSamples), .d (.i .i64 aNoise), .d (.i .i64 aTail)]).hp, 1⟩
      (fun e st => match e with
        | .ret => Ob (((val (y22 aResponseRate aResponseSamples aNoise aTail)).2 != (0 : Int)) = true) ∧ retX Tryd.prog Tryd.f56.results.toList (fun v hp _ => fitV 1 [.c (.d (.v (Value.pointer none))), .c (.d (.i .i64 err))] v hp) .ret st
        | .normal => Ob (((val (y22 aResponseRate aResponseSamples aNoise aTail)).2 != (0 : Int)) = false) ∧ sx Tryd.prog (sp_15 (sp_80 (sp_82 (sp_83 sp0)))) 109 1 40 (fun _ _ _ => none) (drawX Tryd.prog (sp_15 (sp_80 (sp_82 (sp_83 sp0)))) 109) openR5 0 [] st (fun e st => match e with | .normal => Le 1 st (stT aResponseRate aResponseSamples aNoise aTail r (iniS r aTail)) | _ => False)
        | _ => False) := by
  refine Eq.mp (by kernel_rfl : (
  (Ob (ok (y22 aResponseRate aResponseSamples aNoise aTail)) ∧
   Br ((val (y22 aResponseRate aResponseSamples aNoise aTail)).2 != (0 : Int))
   ((Ob (((val (y22 aResponseRate aResponseSamples aNoise aTail)).2 != (0 : Int)) = true) ∧
   (Ob (True) ∧
   (Ob (True) ∧
   (Ob (Value.pointer none = Value.pointer none) ∧
   (Ob ((val (y22 aResponseRate aResponseSamples aNoise aTail)).2 = err) ∧
   True))))))
   (((∃ (v0 : (Int × List (List Int)) × Nat), (Ob ((Option.bind (iter (G_open_b0 aResponseSamples aNoise) v0.2 v0.1) fun y0 => Option.bind (G_open_r0 y0) fun x => some y0) = some r) ∧
   (Ob ((0 : Nat) = (0 : Nat)) ∧
   (Ob ((0 : Nat) = (0 : Nat)) ∧
   (Ob ((↑(List.length aResponseSamples) : Int) = (↑(List.length aResponseSamples) : Int)) ∧
   (Ob ((0 : Int) = v0.1.1) ∧
   (Ob (aResponseRate = aResponseRate) ∧
   (Ob (aNoise = aNoise) ∧
   (Ob (aTail = aTail) ∧
   (Ob ((0 : Nat) = (0 : Nat)) ∧
   (Ob (aResponseSamples = aResponseSamples) ∧
   (Ob (aResponseRate = aResponseRate) ∧
   (Ob (aNoise = aNoise) ∧
   (Ob (aTail = aTail) ∧
   (Ob (Value.slice none (0 : Nat) (0 : Nat) = Value.slice none (0 : Nat) (0 : Nat)) ∧
   (Ob (List.length v0.1.2 = (0 : Nat)) ∧
   True)))))))))))))))) ∧
   (∀ (v0 : (Int × List (List Int)) × Nat), ((Option.bind (iter (G_open_b0 aResponseSamples aNoise) v0.2 v0.1) fun y0 => Option.bind (G_open_r0 y0) fun x => some y0) = some r →
   Br (decide (v0.1.1 < (↑(List.length aResponseSamples) : Int)))
   ((Ob ((0 : Int) ≤ v0.1.1 ∧ v0.1.1 < (↑(List.length aResponseSamples) : Int)) ∧
   (Ob (Int.toNat v0.1.1 < List.length aResponseSamples) ∧
   (Ob (f2iOk FloatKind.f32 IntKind.i64 (List.getD aResponseSamples (Int.toNat v0.1.1) (0 : Nat)) = true) ∧
   (Ob (ok (G_size (f2i FloatKind.f32 (List.getD aResponseSamples (Int.toNat v0.1.1) (0 : Nat))))) ∧
   (Ob ((List.length v0.1.2 + List.length [[IntKind.wrap IntKind.i64 ((if IntKind.wrap IntKind.i64 (val (G_size (f2i FloatKind.f32 (List.getD aResponseSamples (Int.toNat v0.1.1) (0 : Nat)))) - aNoise) > (0 : Int) then IntKind.wrap IntKind.i64 (val (G_size (f2i FloatKind.f32 (List.getD aResponseSamples (Int.toNat v0.1.1) (0 : Nat)))) - aNoise) else (0 : Int)) * if IntKind.wrap IntKind.i64 (val (G_size (f2i FloatKind.f32 (List.getD aResponseSamples (Int.toNat v0.1.1) (0 : Nat)))) - aNoise) > (0 : Int) then IntKind.wrap IntKind.i64 (val (G_size (f2i FloatKind.f32 (List.getD aResponseSamples (Int.toNat v0.1.1) (0 : Nat)))) - aNoise) else (0 : Int)), IntKind.wrap IntKind.i64 (IntKind.wrap IntKind.i64 (val (G_size (f2i FloatKind.f32 (List.getD aResponseSamples (Int.toNat v0.1.1) (0 : Nat)))) + aNoise) * IntKind.wrap IntKind.i64 (val (G_size (f2i FloatKind.f32 (List.getD aResponseSamples (Int.toNat v0.1.1) (0 : Nat)))) + aNoise))]]) * (16 : Nat) ≤ (140737488355328 : Nat) ∧ List.length v0.1.2 + List.length [[IntKind.wrap IntKind.i64 ((if IntKind.wrap IntKind.i64 (val (G_size (f2i FloatKind.f32 (List.getD aResponseSamples (Int.toNat v0.1.1) (0 : Nat)))) - aNoise) > (0 : Int) then IntKind.wrap IntKind.i64 (val (G_size (f2i FloatKind.f32 (List.getD aResponseSamples (Int.toNat v0.1.1) (0 : Nat)))) - aNoise) else (0 : Int)) * if IntKind.wrap IntKind.i64 (val (G_size (f2i FloatKind.f32 (List.getD aResponseSamples (Int.toNat v0.1.1) (0 : Nat)))) - aNoise) > (0 : Int) then IntKind.wrap IntKind.i64 (val (G_size (f2i FloatKind.f32 (List.getD aResponseSamples (Int.toNat v0.1.1) (0 : Nat)))) - aNoise) else (0 : Int)), IntKind.wrap IntKind.i64 (IntKind.wrap IntKind.i64 (val (G_size (f2i FloatKind.f32 (List.getD aResponseSamples (Int.toNat v0.1.1) (0 : Nat)))) + aNoise) * IntKind.wrap IntKind.i64 (val (G_size (f2i FloatKind.f32 (List.getD aResponseSamples (Int.toNat v0.1.1) (0 : Nat)))) + aNoise))]] ≤ (9223372036854775807 : Nat)) ∧
   (∃ (v1 : (Int × List (List Int)) × Nat), (Ob ((Option.bind (iter (G_open_b0 aResponseSamples aNoise) v1.2 v1.1) fun y0 => Option.bind (G_open_r0 y0) fun x => some y0) = some r) ∧
   (Ob (v1.2 < v0.2) ∧
   (Ob ((0 : Nat) = (0 : Nat)) ∧
   (Ob ((0 : Nat) = (0 : Nat)) ∧
   (Ob ((↑(List.length aResponseSamples) : Int) = (↑(List.length aResponseSamples) : Int)) ∧
   (Ob (IntKind.wrap IntKind.i64 (v0.1.1 + (1 : Int)) = v1.1.1) ∧
   (Ob (aResponseRate = aResponseRate) ∧
   (Ob (aNoise = aNoise) ∧
   (Ob (aTail = aTail) ∧
   (Ob ((0 : Nat) = (0 : Nat)) ∧
   (Ob (aResponseSamples = aResponseSamples) ∧
   (Ob (aResponseRate = aResponseRate) ∧
   (Ob (aNoise = aNoise) ∧
   (Ob (aTail = aTail) ∧
   (Ob (Value.slice none (0 : Nat) (0 : Nat) = Value.slice none (0 : Nat) (0 : Nat)) ∧
   (Ob (v0.1.2 ++ [[IntKind.wrap IntKind.i64 ((if IntKind.wrap IntKind.i64 (val (G_size (f2i FloatKind.f32 (List.getD aResponseSamples (Int.toNat v0.1.1) (0 : Nat)))) - aNoise) > (0 : Int) then IntKind.wrap IntKind.i64 (val (G_size (f2i FloatKind.f32 (List.getD aResponseSamples (Int.toNat v0.1.1) (0 : Nat)))) - aNoise) else (0 : Int)) * if IntKind.wrap IntKind.i64 (val (G_size (f2i FloatKind.f32 (List.getD aResponseSamples (Int.toNat v0.1.1) (0 : Nat)))) - aNoise) > (0 : Int) then IntKind.wrap IntKind.i64 (val (G_size (f2i FloatKind.f32 (List.getD aResponseSamples (Int.toNat v0.1.1) (0 : Nat)))) - aNoise) else (0 : Int)), IntKind.wrap IntKind.i64 (IntKind.wrap IntKind.i64 (val (G_size (f2i FloatKind.f32 (List.getD aResponseSamples (Int.toNat v0.1.1) (0 : Nat)))) + aNoise) * IntKind.wrap IntKind.i64 (val (G_size (f2i FloatKind.f32 (List.getD aResponseSamples (Int.toNat v0.1.1) (0 : Nat)))) + aNoise))]] = v1.1.2) ∧
   True)))))))))))))))))))))))
   ((Ob ((0 : Int) ≤ IntKind.wrap IntKind.i64 ((↑(List.length v0.1.2) : Int) + (1 : Int)) ∧ IntKind.wrap IntKind.i64 ((↑(List.length v0.1.2) : Int) + (1 : Int)) = IntKind.wrap IntKind.i64 ((↑(List.length v0.1.2) : Int) + (1 : Int)) ∧ (↑(16 : Nat) : Int) * IntKind.wrap IntKind.i64 ((↑(List.length v0.1.2) : Int) + (1 : Int)) ≤ (281474976710656 : Int) ∧ IntKind.wrap IntKind.i64 ((↑(List.length v0.1.2) : Int) + (1 : Int)) ≤ (9223372036854775807 : Int)) ∧
   (Ob ((0 : Int) ≤ (↑(List.length v0.1.2) : Int) ∧ (↑(List.length v0.1.2) : Int) < (↑(List.length (List.replicate (Int.toNat (IntKind.wrap IntKind.i64 ((↑(List.length v0.1.2) : Int) + (1 : Int)))) [(0 : Int), (0 : Int)])) : Int)) ∧
   (Ob (Int.toNat (↑(List.length v0.1.2) : Int) < List.length (List.replicate (Int.toNat (IntKind.wrap IntKind.i64 ((↑(List.length v0.1.2) : Int) + (1 : Int)))) [(0 : Int), (0 : Int)])) ∧
   (Ob (((val (y22 aResponseRate aResponseSamples aNoise aTail)).2 != (0 : Int)) = false) ∧
   (Ob (True) ∧
   (Ob ((0 : Nat) = (0 : Nat)) ∧
   (Ob (aResponseRate = aResponseRate) ∧
   (Ob (aNoise = aNoise) ∧
   (Ob (aTail = aTail) ∧
   (Ob ((0 : Nat) = (0 : Nat)) ∧
   (Ob (aResponseSamples = aResponseSamples) ∧
   (Ob (aResponseRate = aResponseRate) ∧
   (Ob (aNoise = aNoise) ∧
   (Ob (aTail = aTail) ∧
   (Ob (v0.1.2 = r) ∧
   (Ob (List.set (List.replicate (Int.toNat (IntKind.wrap IntKind.i64 ((↑(List.length v0.1.2) : Int) + (1 : Int)))) [(0 : Int), (0 : Int)]) (Int.toNat (↑(List.length v0.1.2) : Int)) (wr (List.length [D.i IntKind.i64 (0 : Int), D.i IntKind.i64 (0 : Int)]) (List.getD (List.replicate (Int.toNat (IntKind.wrap IntKind.i64 ((↑(List.length v0.1.2) : Int) + (1 : Int)))) [(0 : Int), (0 : Int)]) (Int.toNat (↑(List.length v0.1.2) : Int)) []) (0 : Nat) [(0 : Int), aTail]) = iniS r aTail) ∧
   True))))))))))))))))))))))) = _) ?_
  refine ⟨⟨ha⟩, br_i (fun hb => ?_) (fun hb => ?_)⟩
  · exact ⟨⟨hb⟩, ⟨trivial⟩, ⟨trivial⟩, ⟨rfl⟩, ⟨he hb⟩, trivial⟩
  · have h := hn hb
    refine ⟨⟨(((0 : Int), []), big), ⟨h⟩, (by repeat' (first | exact trivial | exact ⟨rfl⟩ | refine And.intro ?_ ?_))⟩, fun z2 hz2 => ?_⟩
    obtain ⟨k2, hm2, h⟩ := iter_pos hz2
    refine br_d h (fun h => ?_) (fun h => ?_)
    · refine ob_s h fun h => ?_
      refine ob_s h fun h => ?_
      refine ob_s h fun h => ?_
      refine call_s h fun h => ?_
      refine ob_s h fun h => ?_
      exact ⟨((IntKind.wrap IntKind.i64 ((Prod.fst z2).1 + (1 : Int)), (Prod.fst z2).2 ++ [[IntKind.wrap IntKind.i64 ((if IntKind.wrap IntKind.i64 (val (G_size (f2i FloatKind.f32 (List.getD aResponseSamples (Int.toNat (Prod.fst z2).1) (0 : Nat)))) - aNoise) > (0 : Int) then IntKind.wrap IntKind.i64 (val (G_size (f2i FloatKind.f32 (List.getD aResponseSamples (Int.toNat (Prod.fst z2).1) (0 : Nat)))) - aNoise) else (0 : Int)) * if IntKind.wrap IntKind.i64 (val (G_size (f2i FloatKind.f32 (List.getD aResponseSamples (Int.toNat (Prod.fst z2).1) (0 : Nat)))) - aNoise) > (0 : Int) then IntKind.wrap IntKind.i64 (val (G_size (f2i FloatKind.f32 (List.getD aResponseSamples (Int.toNat (Prod.fst z2).1) (0 : Nat)))) - aNoise) else (0 : Int)), IntKind.wrap IntKind.i64 (IntKind.wrap IntKind.i64 (val (G_size (f2i FloatKind.f32 (List.getD aResponseSamples (Int.toNat (Prod.fst z2).1) (0 : Nat)))) + aNoise) * IntKind.wrap IntKind.i64 (val (G_size (f2i FloatKind.f32 (List.getD aResponseSamples (Int.toNat (Prod.fst z2).1) (0 : Nat)))) + aNoise))]]), k2), ⟨next_s h⟩, ⟨lt_gs hm2.symm⟩, (by repeat' (first | exact trivial | exact ⟨rfl⟩ | refine And.intro ?_ ?_))⟩
    · have h := exit_s h
      refine ob_s h fun h => ?_
      refine ob_s h fun h => ?_
      refine ob_s h fun h => ?_
      obtain rfl := Option.some.inj h
      have hb' := hb
      exact (by repeat' (first | exact trivial | exact ⟨rfl⟩ | exact ⟨trivial⟩ | exact ⟨hb⟩ | refine And.intro ?_ ?_))
end Go.Sh
end

section
open Go.RowKit
namespace Go.Sh
open Go Go.Proofs Go.RowKit Go.Sx
set_option linter.unusedVariables false
theorem iniS_len {zs : List (List Int)} (tail : Int) (h : zs.length ≤ 17592186044416) : (iniS zs tail).length = zs.length + 1 := by
  unfold iniS
  rw [List.length_set, List.length_replicate, show IntKind.wrap IntKind.i64 ((zs.length : Int) + 1) = (zs.length : Int) + 1 from IntWalk.i64_in _ (by omega)]
  omega
theorem upS_len (ss : List (List Int)) (i lo hi : Int) : (upS ss i lo hi).length = ss.length := by
  unfold upS
  rw [List.length_set]
theorem sumsOf_snoc (zs : List (List Int)) (tail : Int) (pre : List (Fin zs.length)) (x : Fin zs.length) : sumsOf zs tail (pre ++ [x]) = upS (sumsOf zs tail pre) (x.1 : Int) ((zs.getD x.1 []).getD 0 0) ((zs.getD x.1 []).getD 1 0) := by
  unfold sumsOf
  rw [List.foldl_append]
  rfl
theorem sumsOf_len {zs : List (List Int)} (tail : Int) (h : zs.length ≤ 17592186044416) (pre : List (Fin zs.length)) : (sumsOf zs tail pre).length = zs.length + 1 := by
  unfold sumsOf
  have : ∀ (pre : List (Fin zs.length)) (ss : List (List Int)), ss.length = zs.length + 1 → (pre.foldl (fun ss x => upS ss (x.1 : Int) ((zs.getD x.1 []).getD 0 0) ((zs.getD x.1 []).getD 1 0)) ss).length = zs.length + 1 := by
    intro pre
    induction pre with
    | nil => exact fun ss h => h
    | cons x l ih => exact fun ss h => ih _ ((upS_len _ _ _ _).trans h)
  exact this pre _ (iniS_len tail h)
section
variable {rate : Int} {samples : List Nat} {noise tail : Int} {zs ss : List (List Int)}
theorem hpT_find {h : Nat} {o : O} (hf : find (hpT rate samples noise tail zs ss) h = some o) :
    (h = 1 ∧ o = .box 36 [.d (.i .i64 rate), .o 0, .d (.i .i64 noise), .d (.i .i64 tail)]) ∨ (h = 2 ∧ o = .box 95 [.p 3 (0 : Nat) 1 (0 : Nat)]) ∨ (h = 0 ∧ o = .ext (.floats .f32 samples)) ∨
    (h = 3 ∧ o = .box 102 [.d (.i .i64 rate), .o 0, .d (.i .i64 noise), .d (.i .i64 tail), .o 4, .o 5]) ∨ (h = 4 ∧ o = .row 24 (.recs 2 zs)) ∨ (h = 5 ∧ o = .row 24 (.recs 2 ss)) ∨ (h = 6 ∧ o = .box 68 [.o 4]) := by
  simp only [hpT, find] at hf
  split at hf
  · rename_i e; cases hf; exact .inl ⟨e.symm, rfl⟩
  split at hf
  · rename_i e; cases hf; exact .inr (.inl ⟨e.symm, rfl⟩)
  split at hf
  · rename_i e; cases hf; exact .inr (.inr (.inl ⟨e.symm, rfl⟩))
  split at hf
  · rename_i e; cases hf; exact .inr (.inr (.inr (.inl ⟨e.symm, rfl⟩)))
  split at hf
  · rename_i e; cases hf; exact .inr (.inr (.inr (.inr (.inl ⟨e.symm, rfl⟩))))
  split at hf
  · rename_i e; cases hf; exact .inr (.inr (.inr (.inr (.inr (.inl ⟨e.symm, rfl⟩)))))
  split at hf
  · rename_i e; cases hf; exact .inr (.inr (.inr (.inr (.inr (.inr ⟨e.symm, rfl⟩)))))
  · cases hf
theorem hpT_rng {h : Nat} {o : O} (hf : find (hpT rate samples noise tail zs ss) h = some o) : rngO o = true := by
  rcases hpT_find hf with ⟨_, rfl⟩ | ⟨_, rfl⟩ | ⟨_, rfl⟩ | ⟨_, rfl⟩ | ⟨_, rfl⟩ | ⟨_, rfl⟩ | ⟨_, rfl⟩ <;> rfl
theorem hpT_lt {h : Nat} {o : O} (hf : find (hpT rate samples noise tail zs ss) h = some o) : h < 7 ∧ o.lt 7 := by
  have L : ∀ (l : List C), l.all (fun c => match c with | .d _ => true | .o h => h < 7 | .p h _ _ _ => h < 7 | _ => false) = true → ∀ c ∈ l, C.lt 7 c := by
    intro l hl c hc
    have := List.all_eq_true.1 hl c hc
    cases c with
    | d x => trivial
    | o h => exact (show h < 7 from of_decide_eq_true this)
    | p h i e j => exact (show h < 7 from of_decide_eq_true this)
    | _ => cases this
  rcases hpT_find hf with ⟨rfl, rfl⟩ | ⟨rfl, rfl⟩ | ⟨rfl, rfl⟩ | ⟨rfl, rfl⟩ | ⟨rfl, rfl⟩ | ⟨rfl, rfl⟩ | ⟨rfl, rfl⟩
  · exact ⟨by decide, L _ rfl⟩
  · exact ⟨by decide, L _ rfl⟩
  · exact ⟨by decide, trivial⟩
  · exact ⟨by decide, L _ rfl⟩
  · exact ⟨by decide, trivial⟩
  · exact ⟨by decide, trivial⟩
  · exact ⟨by decide, L _ rfl⟩
theorem hpT_blk {ρ : Env} {h k : Nat} {o : O} (s2 : List (List Int)) (hf : find (hpT rate samples noise tail zs ss) h = some o) (hb : o.blk (ρ h) = some k) : ∃ o', find (hpT rate samples noise tail zs s2) h = some o' ∧ o'.blk (ρ h) = some k := by
  rcases hpT_find hf with ⟨rfl, rfl⟩ | ⟨rfl, rfl⟩ | ⟨rfl, rfl⟩ | ⟨rfl, rfl⟩ | ⟨rfl, rfl⟩ | ⟨rfl, rfl⟩ | ⟨rfl, rfl⟩
  all_goals exact ⟨_, rfl, hb⟩
end
theorem cut_nx {ρ : Env} {B : Bd} {hp hp' : Hp} {n n' : Nat} {w : World} (h : HRel ρ B hp n w) (hs : ∀ k o, find hp' k = some o → find hp k = some o ∧ k < n' ∧ o.lt n') : HRel ρ B hp' n' w :=
  ⟨fun k o hf => ⟨(hs k o hf).2.1, (hs k o hf).2.2, (h.ok k o (hs k o hf).1).2.2⟩, fun k o k' o' b hf hf' => h.apart k o k' o' b (hs k o hf).1 (hs k' o' hf').1, h.glob⟩
theorem ext_bel {ρ : Env} {B : Bd} {w w' : World} {h : Nat} {c : Cont} (hb : Bel B w w') (ho : (O.ext c).ok ρ B w h) : (O.ext c).ok ρ B w' h := by
  obtain ⟨⟨a, cap, h1, h2, h3⟩, h4⟩ := ho
  refine ⟨⟨a, cap, h1, h2, fun hn => ?_⟩, h4⟩
  obtain ⟨b, off, rfl, hx⟩ := h3 hn
  exact ⟨b, off, rfl, fun j x hj => (hb.cell (p := ⟨b, off + j, none⟩) (h4 ⟨b, off, none⟩ _ _ h1 hn)).trans (hx j x hj)⟩
theorem cell_block {W : World} {k : Nat} {v : Value} {t : Nat} {f : Nat × Nat} (h : W.heap[k]? = some (.cells #[v] t f)) : W.cell? ⟨k, 0, none⟩ = some v := by
  simp [World.cell?, h]
theorem cell_put {W : World} {p : Addr} {v : Value} {l : Nat} {o o' : Obj} (h : W.cell? p = some v) (hl : W.heap[l]? = some o) (ho : o.isCells = false) : (W.putObj l o').cell? p = some v := by
  have hlt := World.block_lt_of_cell? W p h
  have hne : p.block ≠ l := by
    intro e
    subst e
    have : W.cell? p = none := by
      unfold World.cell?
      rw [hl]
      cases o <;> first | rfl | cases ho
    rw [this] at h
    cases h
  have hb : (W.putObj l o').heap[p.block]? = W.heap[p.block]? := (grownBy_putObj' W l o').block p.block hlt (fun e => hne (Option.some.inj e))
  exact (World.cell?_of_block (w := W) hb).trans h
theorem rd_put {kb : Nat} {sv : Value} {zs : List (List Int)} {W : World} {l : Nat} {o o' : Obj} (h : Bk.Rd kb sv zs W) (hl : W.heap[l]? = some o) (ho : o.isCells = false) : Bk.Rd kb sv zs (W.putObj l o') := by
  refine ⟨cell_put h.box hl ho, ?_⟩
  obtain ⟨a, cap, h1, h2, h3⟩ := h.row
  refine ⟨a, cap, h1, h2, fun hn => ?_⟩
  obtain ⟨b, off, hab, hx⟩ := h3 hn
  exact ⟨b, off, hab, fun j x hj => cell_put (hx j x hj) hl ho⟩
structure OI (ρ : Env) (B : Bd) (rate : Int) (samples : List Nat) (noise tail : Int) (zs : List (List Int)) (w0 : World) (pre : List (Fin zs.length)) (W : World) : Prop where
  heap : HRel ρ B (hpT rate samples noise tail zs (sumsOf zs tail pre)) 7 W
  bel : Bel B w0 W
  old : Old B W
section
variable {ρ : Env} {B : Bd} {rate : Int} {samples : List Nat} {noise tail : Int} {zs : List (List Int)} {w0 : World}
theorem OI.own (h0 : Old B w0) : OwnFrom w0.heap.size (OI ρ B rate samples noise tail zs w0) := by
  intro pre W W' row hs hg hr
  have hnB : ∀ k, B k → row ≠ some k := fun k hk e => by
    have h1 := (hr k e).1
    have h2 := h0 k hk
    omega
  refine ⟨hs.heap.grown hg hs.old (fun r e => ⟨fun hb => hnB r hb e, (hr r e).2⟩) (fun h o hf => hpT_rng hf), hs.bel.trans ⟨hg.os, hg.tape, hg.output, hg.size, fun k hk => hg.block k (hs.old k hk) (fun e => hnB k hk e.symm)⟩, fun k hk => Nat.lt_of_lt_of_le (hs.old k hk) hg.size⟩
theorem OI.rd {pre : List (Fin zs.length)} {W : World} (h : OI ρ B rate samples noise tail zs w0 pre W) {kb : Nat} (hk : ρ 6 = .pointer (some ⟨kb, 0, none⟩)) : Bk.Rd kb (ρ 4) zs W := by
  obtain ⟨_, _, k, h1, _, h3⟩ := h.heap.ok 6 _ rfl
  rw [hk] at h1
  cases h1
  exact ⟨cell_block h3, row_isRow (h.heap.ok 4 _ rfl).2.2 rfl⟩
end
def OA (y : Value) (zs : List (List Int)) (w0 : World) (x : Fin zs.length) (a : Act) (W : World) : Prop :=
  a.tmps.size = 109 ∧ a.defers = [] ∧ a.tmps.getD 6 undef = y ∧ a.tmps.getD 12 undef = .int .i64 (x.1 : Int) ∧
  ∃ b, w0.heap.size ≤ b ∧ a.tmps.getD 13 undef = .pointer (some ⟨b, 0, none⟩) ∧ W.heap[b]? = some (.cells #[.int .i64 ((zs.getD x.1 []).getD 0 0), .int .i64 ((zs.getD x.1 []).getD 1 0)] 24 (0, 0))
theorem OA.own {y : Value} {zs : List (List Int)} {w0 : World} (x : Fin zs.length) (a : Act) : OwnFrom w0.heap.size (fun (_ : Unit) W => OA y zs w0 x a W) := by
  rintro _ W W' row ⟨h1, h2, h3, h4, b, h5, h6, h7⟩ hg hr
  refine ⟨h1, h2, h3, h4, b, h5, h6, (hg.block b (Array.getElem?_eq_some_iff.1 h7).1 (fun e => ?_)).trans h7⟩
  obtain ⟨_, o, ho, hc⟩ := hr b e.symm
  rw [h7] at ho
  cases ho
  cases hc
theorem tms {a : Act} {y : Value} {i lo hi : Int} (hs : a.tmps.size = 109) (hy : a.tmps.getD 6 undef = y) {t : Nat} {v : V} {ρ : Env} (hv : getT (stA y i lo hi).tm t = some v) :
    V.lt 0 v ∧ (((#[90, 91] : Array Tmp).zip #[.int .i64 i, .agg #[.int .i64 lo, .int .i64 hi]]).foldl (fun t (p, v) => t.setIfInBounds p v) a.tmps).getD t undef = v.val ρ := by
  have e : ((#[90, 91] : Array Tmp).zip #[Value.int .i64 i, .agg #[.int .i64 lo, .int .i64 hi]]).foldl (fun t (p, v) => t.setIfInBounds p v) a.tmps = (a.tmps.setIfInBounds 90 (.int .i64 i)).setIfInBounds 91 (.agg #[.int .i64 lo, .int .i64 hi]) := by simp
  rw [e]
  simp only [stA, getT] at hv
  split at hv
  · rename_i e; subst e; cases hv
    refine ⟨trivial, ?_⟩
    rw [← hy]
    simp [Array.getD, hs, V.val, W.val, C.val, D.val, Array.getElem_setIfInBounds]
  split at hv
  · rename_i e; subst e; cases hv
    exact ⟨trivial, by simp [Array.getD, hs, V.val, W.val, C.val, D.val, vi, Array.getElem_setIfInBounds]⟩
  split at hv
  · rename_i e; subst e; cases hv
    refine ⟨fun c hc => ?_, by simp [Array.getD, hs, V.val, W.val, C.val, D.val, Array.getElem_setIfInBounds]⟩
    simp only [List.mem_cons, List.not_mem_nil, or_false] at hc
    rcases hc with rfl | rfl <;> trivial
  · cases hv
end Go.Sh
end

section
open Go.RowKit
namespace Go.Sh
open Go Go.Proofs Go.RowKit Go.Sx
set_option linter.unusedVariables false
section
variable {ρ : Env} {B : Bd} {rate : Int} {samples : List Nat} {noise tail : Int} {zs : List (List Int)}
set_option maxRecDepth 100000 in
set_option maxHeartbeats 2000000 in
theorem open_body {w0 : World} {n l : Nat} (h0 : Old B w0) (hz : zs.length ≤ 17592186044416) (hblk : ∀ s h o k, find (hpT rate samples noise tail zs s) h = some o → o.blk (ρ h) = some k → k < w0.heap.size)
    {pre : List (Fin zs.length)} {x : Fin zs.length} {a : Act} {W : World} {y : Value} (hy : y = (C.p 2 0 1 0).val ρ) (hI : OI ρ B rate samples noise tail zs w0 pre W) (hA : OA y zs w0 x a W) :
    openB.wpIn (Fence.wide.inRound l) n Tryd.prog (fun e a' W' => e = .normal ∧ KeepsFrom w0.heap.size W W' ∧ OI ρ B rate samples noise tail zs w0 (pre ++ [x]) W') a W := by
  obtain ⟨h1, h2, h3, h4, b, h5, h6, h7⟩ := hA
  generalize hlo : (zs.getD x.1 []).getD 0 0 = lo at *
  generalize hhi : (zs.getD x.1 []).getD 1 0 = hi at *
  have hnB : ¬ B b := fun hb => by have := h0 b hb; omega
  have hh0 := hI.heap.addAt (b := b) (ty := 24) (cs := [.d (.i .i64 lo), .d (.i .i64 hi)]) h7 (fun c hc => by
    simp only [List.mem_cons, List.not_mem_nil, or_false] at hc
    rcases hc with rfl | rfl <;> trivial) hnB (fun h o k hf hk e => by have := hblk _ h o k hf hk; omega)
  have hrng : ∀ h o, find ((7, O.box 24 [.d (.i .i64 lo), .d (.i .i64 hi)]) :: hpT rate samples noise tail zs (sumsOf zs tail pre)) h = some o → rngO o = true := fun h o hf => by
    simp only [find] at hf
    split at hf
    · cases hf; rfl
    · exact hpT_rng hf
  have hh1 := hh0.moreB (B2 := fun k => B k ∨ ∃ o : Obj, W.heap[k]? = some o ∧ o.isCells = false) (fun k h => .inl h) (fun h o k hf hk => by
    rintro (hb | ⟨o', ho', hc⟩)
    · exact (O.blk_lt (hh0.ok h o hf).2.2 hk).2 hb
    · obtain ⟨c, t, f, hcells⟩ := own_cells (hh0.ok h o hf).2.2 (hrng h o hf) hk
      rw [hcells] at ho'
      cases ho'
      cases hc)
  have hag0 := upd_agree ρ 7 (.pointer (some ⟨b, 0, none⟩))
  have hrel : Rel (upd ρ 7 (.pointer (some ⟨b, 0, none⟩))) (fun k => B k ∨ ∃ o : Obj, W.heap[k]? = some o ∧ o.isCells = false) 109 8 (stB rate samples noise tail zs (sumsOf zs tail pre) (x.1 : Int) lo hi) a W := by
    refine ⟨fun t v hv => ?_, h1, h2, hh1, ?_, Nat.le_refl _⟩
    · simp only [stB, getT] at hv
      split at hv
      · rename_i e; subst e; cases hv
        exact ⟨show 2 < 8 by decide, by rw [h3, hy]; rfl⟩
      split at hv
      · rename_i e; subst e; cases hv; exact ⟨trivial, h4⟩
      split at hv
      · rename_i e; subst e; cases hv
        exact ⟨show 7 < 8 by decide, by rw [h6]; rfl⟩
      · cases hv
    · rintro k (hk | ⟨o, ho, _⟩)
      · exact hI.old k hk
      · exact (Array.getElem?_eq_some_iff.1 ho).1
  have hlen := sumsOf_len tail hz pre
  have hx := x.2
  refine wpIn_mono (sxIn_sound mixed (sp_83_ok sp0_ok) openB 0 [] _ _ _ a W (by kernel_rfl) (openB_vc rate samples noise tail zs (sumsOf zs tail pre) (x.1 : Int) lo hi (by omega) (by omega) (by omega)) hrel (Agree.refl _ _) (Bel.refl _ _)) ?_
  rintro e a' W' ⟨ex, ρ', st', rfl, hk, hr', hag', hbl'⟩
  cases ex with
  | normal =>
    obtain ⟨ρ2, hr2, hag2⟩ := Le.rel hk hr'
    have hbB : Bel B W W' := ⟨hbl'.os, hbl'.tape, hbl'.output, hbl'.size, fun k hk => hbl'.block k (.inl hk)⟩
    have hag : ∀ h, h < 7 → ρ2 h = ρ h := fun h hh => by
      have e1 := hag2 h (by omega)
      have e2 := hag' h (by omega)
      rw [e1, e2]
      exact hag0 h hh
    refine ⟨rfl, ⟨hbl'.size, fun k o _ hk ho => (hbl'.block k (.inr ⟨o, hk, ho⟩)).trans hk⟩, ?_, hI.bel.trans hbB, fun k hk => Nat.lt_of_lt_of_le (hI.old k hk) hbl'.size⟩
    rw [sumsOf_snoc, hlo, hhi]
    have hl := hr2.heap.lessB (B := B) (fun k h => .inl h) (hI.heap.glob.bel hbB) (fun h o hf he => by
      simp only [stB, find] at hf
      split at hf
      · cases hf; cases he
      · rcases hpT_find hf with ⟨rfl, rfl⟩ | ⟨rfl, rfl⟩ | ⟨rfl, rfl⟩ | ⟨rfl, rfl⟩ | ⟨rfl, rfl⟩ | ⟨rfl, rfl⟩ | ⟨rfl, rfl⟩
        · cases he
        · cases he
        · have := ext_bel hbB (hI.heap.ok 0 _ rfl).2.2
          unfold O.ok at this ⊢
          rw [hag 0 (by decide)]
          exact this
        all_goals cases he)
    refine (cut_nx (n' := 7) hl (fun k o hf => ⟨?_, (hpT_lt hf).1, (hpT_lt hf).2⟩)).agree (fun h hh => (hag h hh).symm)
    show find (_ :: _) k = some o
    simp only [find]
    rw [if_neg (by have := (hpT_lt hf).1; omega)]
    exact hf
  | exit j => exact hk.elim
  | ret => exact hk.elim
set_option maxRecDepth 100000 in
set_option maxHeartbeats 2000000 in
theorem open_range {n : Nat} {Q : Exit → Act → World → Prop} {a : Act} {w : World} (h1 : 1 ≤ n) (hz : zs.length ≤ 17592186044416) (hr : Rel ρ B 109 1 (stT rate samples noise tail zs (iniS zs tail)) a w)
    (hdone : ∀ (D : Nat) (W : World), w.heap.size ≤ D → OI ρ B rate samples noise tail zs w (Bk.bk zs.length zs.length) W → W.heap[D]? = some (.deferred (some [])) → Q .normal { a with defers := { target := .collected D, args := #[] } :: a.defers } W) :
    (Code.rangeFunc (.tmp 89) #[90, 91] openA openB).wpIn Fence.wide n Tryd.prog Q a w := by
  obtain ⟨_, _, kb, hkb, _, hkc⟩ := hr.heap.ok 6 _ rfl
  have hI0 : OI ρ B rate samples noise tail zs w [] w := ⟨hr.heap, Bel.refl _ _, hr.le⟩
  have hblk : ∀ s h o k, find (hpT rate samples noise tail zs s) h = some o → o.blk (ρ h) = some k → k < w.heap.size := fun s h o k hf hk => by
    obtain ⟨o', hf', hk'⟩ := hpT_blk (iniS zs tail) hf hk
    exact (O.blk_lt (hr.heap.ok h o' hf').2.2 hk').1
  have hg : a.eval (.tmp 89) = .func (.func 96) #[] #[.pointer (some ⟨kb, 0, none⟩)] := by
    have := (hr.tm 89 _ rfl).2
    show a.tmps.getD 89 undef = _
    rw [this]
    show Value.func (.func 96) #[] #[ρ 6] = _
    rw [hkb]
  have hy : a.tmps.getD 6 undef = (C.p 2 0 1 0).val ρ := (hr.tm 6 _ rfl).2
  refine wpIn_rangeFunc_ownH (F := Fence.wide) (n := n) rfl h1 (gf := 96) (lb := #[.pointer (some ⟨kb, 0, none⟩)]) hg trivial (enters_of Tryd.func96 (by kernel_rfl) rfl)
    (Bk.back_stops (n - 1) kb (ρ 4) zs hz w (hI0.rd hkb)) (fun h k r => k (h r)) (fun W l o o' _ hl ho _ r => rd_put r hl ho) (Below.refl _ _) (fun _ => rfl)
    (OI ρ B rate samples noise tail zs w) (fun _ _ _ => False) (OI.own hr.le) (fun _ _ _ _ _ h _ _ => h.elim) hI0 (OA ((C.p 2 0 1 0).val ρ) zs w) (fun x a' => OA.own x a') ?assign ?body ?done ?stop
  case assign =>
    intro l pre x W K hI hK
    have hrel : Rel ρ (fun k => k < W.heap.size) 109 0 (stA ((C.p 2 0 1 0).val ρ) (x.1 : Int) ((zs.getD x.1 []).getD 0 0) ((zs.getD x.1 []).getD 1 0)) { tmps := ((#[90, 91] : Array Tmp).zip (Bk.encs zs x)).foldl (fun t (p, v) => t.setIfInBounds p v) a.tmps, defers := [] } W := by
      refine ⟨fun t v hv => tms hr.size hy hv, ?_, rfl, ⟨fun h o hf => (by cases hf), fun h o h' o' k hf => (by cases hf), glob_all hI.heap.glob hI.old⟩, fun k hk => hk, Nat.le_refl _⟩
      have : ((#[90, 91] : Array Tmp).zip (Bk.encs zs x)).foldl (fun t (p, v) => t.setIfInBounds p v) a.tmps = (a.tmps.setIfInBounds 90 (.int .i64 (x.1 : Int))).setIfInBounds 91 (.agg #[.int .i64 ((zs.getD x.1 []).getD 0 0), .int .i64 ((zs.getD x.1 []).getD 1 0)]) := by simp [Bk.encs]
      show Array.size (Array.foldl _ _ _) = _
      rw [this]
      simp [hr.size]
    refine wpIn_mono (sxIn_sound mixed sp0_ok openA 0 [] _ _ ρ _ W (by kernel_rfl) (openA_vc _ _ _ _) hrel (Agree.refl _ _) (Bel.refl _ _)) ?_
    rintro e a' W' ⟨ex, ρ', st', rfl, hk, hr', hag', hbl'⟩
    cases ex with
    | normal =>
      obtain ⟨ρ2, hr2, hag2⟩ := Le.rel hk hr'
      obtain ⟨_, _, b, hb, hnb, hcb⟩ := hr2.heap.ok 0 _ rfl
      have hI' : OI ρ B rate samples noise tail zs w pre W' := OI.own hr.le pre W W' none hI ⟨hbl'.os, hbl'.tape, hbl'.output, hbl'.size, fun k hk _ => hbl'.block k hk⟩ (fun r e => by cases e)
      refine hK a' W' ⟨hbl'.size, fun k o _ hk ho => (hbl'.block k (Array.getElem?_eq_some_iff.1 hk).1).trans hk⟩ (fun _ => hI'.rd hkb) hI' ⟨hr2.size, hr2.defers, (hr2.tm 6 _ rfl).2, (hr2.tm 12 _ rfl).2, b, Nat.le_trans hI.bel.size (Nat.le_of_not_lt hnb), ?_, ?_⟩
      · have := (hr2.tm 13 _ rfl).2
        rw [this]
        show Value.pointer (some ⟨(base (ρ2 0)).block, (base (ρ2 0)).off + 0, none⟩) = _
        rw [hb]
        rfl
      · exact hcb
    | exit j => exact hk.elim
    | ret => exact hk.elim
  case body =>
    intro l pre x a' W hl _ hI hA hlt
    refine wpIn_mono (open_body hr.le hz hblk rfl hI hA) ?_
    rintro e a2 W' ⟨rfl, hkf, hI'⟩
    exact ⟨hkf, fun _ => hI'.rd hkb, hI'⟩
  case done =>
    intro D xs W hD hS hI hd
    subst hS
    exact hdone D W hD hI hd
  case stop =>
    intro D c pre W _ _ h
    exact h.elim
end
end Go.Sh
end

section
open Go.RowKit
namespace Go.Sh
open Go Go.Proofs Go.RowKit Go.Sx
set_option linter.unusedVariables false
def idOf : Code → Nat
  | .region i _ _ => i
  | _ => 0
noncomputable def oT (i : Nat) : Oper := ((Bk.opsOf (subO [1, 0] openT))[i]?).getD default
def rd1 (t : Nat) (v : V) : Operand → Option V
  | .tmp u => match Nat.beq u t with
    | true => some v
    | false => none
  | _ => none
theorem rd1_reads {ρ : Env} {nx t : Nat} {v : V} {a : Act} (h1 : v.lt nx) (h2 : a.tmps.getD t undef = v.val ρ) : Reads ρ nx (rd1 t v) a := by
  intro x u hx
  unfold rd1 at hx
  split at hx
  · split at hx
    · rename_i e
      cases hx
      have := Nat.eq_of_beq_eq_true e
      subst this
      exact ⟨h1, h2⟩
    · cases hx
  · cases hx
theorem val_step {n : Nat} {ops : Array Oper} {Q : Exit → Act → World → Prop} {o : Oper} {rest : List Oper} {a : Act} {w : World} {v : Value} (hg : o.guard = none) (h : (execOp a.eval o).run Tryd.prog w = .ok (.value v) w)
    (hK : wpListIn Fence.wide n Tryd.prog ops Q rest (a.put o.dst v) w) : wpListIn Fence.wide n Tryd.prog ops Q (o :: rest) a w := by
  refine wpListIn_plain hg fun K hK' => ⟨fun _ _ => trivial, ?_⟩
  have hs : o.semAt Fence.wide.round a.eval = execOp a.eval o := Oper.semAt_none a.eval o
  rw [hs, h]
  exact hK' _ _ hK
abbrev spO : Specs := sp_15 (sp_80 (sp_82 (sp_83 sp0)))
theorem spO_ok : SpecsOK Tryd.prog spO := sp_15_ok (sp_80_ok (sp_82_ok (sp_83_ok sp0_ok)))
theorem r0_len {zs : List (List Int)} (h : G_open_r0 zs = some ()) : zs.length ≤ 17592186044416 := by
  unfold G_open_r0 at h
  split at h
  · rename_i h1
    obtain ⟨h1, _, h2, h3⟩ := h1
    by_cases hc : zs.length + 1 ≤ 9223372036854775807
    · rw [show IntKind.wrap IntKind.i64 ((zs.length : Int) + 1) = (zs.length : Int) + 1 from IntWalk.i64_in _ (by omega)] at h2
      omega
    · exfalso
      split at h
      · rename_i h4
        have hw : IntKind.wrap IntKind.i64 ((zs.length : Int) + 1) ≤ 9223372036854775807 := h3
        obtain ⟨_, h5⟩ := h4
        rw [List.length_replicate] at h5
        omega
      · cases h
  · cases h
set_option maxRecDepth 100000 in
set_option maxHeartbeats 4000000 in
theorem open_calls (rate : Int) (samples : List Nat) (noise tail : Int) (e : Int) (zs ss : List (List Int)) (hG : G_open rate samples noise tail = some (e, zs, ss)) (ρ0 : Env) (w : World)
    (hlt : ∀ x ∈ (bldD k_G_open [.d (.i .i64 rate), .r (.floats .f32 samples), .d (.i .i64 noise), .d (.i .i64 tail)]).vs, V.lt 1 x)
    (hh : HRel ρ0 (fun k => k < w.heap.size) (bldD k_G_open [.d (.i .i64 rate), .r (.floats .f32 samples), .d (.i .i64 noise), .d (.i .i64 tail)]).hp 1 w) :
    Calls Tryd.prog 56 ((bldD k_G_open [.d (.i .i64 rate), .r (.floats .f32 samples), .d (.i .i64 noise), .d (.i .i64 tail)]).vs.map (V.val ρ0)).toArray w fun x w' => ∃ ρ' v hp' nx', x = .returned (V.val ρ' v) ∧ v.lt nx' ∧ Agree 1 ρ0 ρ' ∧ HRel ρ' (fun k => k < w.heap.size) hp' nx' w' ∧ Bel (fun k => k < w.heap.size) w w' ∧
      ((e ≠ 0 ∧ fitV 1 [.c (.d (.v (Value.pointer none))), .c (.d (.i .i64 e))] v hp') ∨ (e = 0 ∧ v = .t [.c (.p 3 0 1 0), .c (.d (.i .i64 0))] ∧ hp' = hpT rate samples noise tail zs ss)) := by
  unfold G_open at hG
  obtain ⟨r0, hr0, hG⟩ := Option.bind_eq_some_iff.1 hG
  have hv : val (y22 rate samples noise tail) = r0 := by rw [hr0]; rfl
  have ha : ok (y22 rate samples noise tail) := by rw [hr0]; rfl
  have hn : ((val (y22 rate samples noise tail)).2 != (0 : Int)) = false → e = 0 ∧ ss = sumsOf zs tail (Bk.bk zs.length zs.length) ∧ G_open_r0 zs = some () ∧ Option.bind (iter (G_open_b0 samples noise) big (((0 : Int), []))) (fun y0 => Option.bind (G_open_r0 y0) (fun _ => some y0)) = some zs := by
    intro hb
    rw [hv] at hb
    rw [if_neg (by rw [hb]; decide)] at hG
    obtain ⟨y0, hy0, hG⟩ := Option.bind_eq_some_iff.1 hG
    obtain ⟨_, hr, hG⟩ := Option.bind_eq_some_iff.1 hG
    cases hG
    refine ⟨rfl, rfl, hr, ?_⟩
    rw [hy0]
    simp [hr]
  have he : ((val (y22 rate samples noise tail)).2 != (0 : Int)) = true → (val (y22 rate samples noise tail)).2 = e := by
    intro hb
    rw [hv] at hb ⊢
    rw [if_pos hb] at hG
    cases hG
    rfl
  refine callsIn_wide.1 (callsIn_of_wp_marks (n := 3) (c := bodyOf Tryd.f56) Tryd.func56 (by kernel_rfl) trivial (wpIn_wide.2 ?_) rfl)
  have hrel := rel_enter (n0 := 1) (N := 109) (Nat.le_of_ble_eq_true (by kernel_rfl)) hlt (Nat.le_refl _) ρ0 w hh (fun k hk => hk)
  refine sx_head spO_ok (drawn_ok mixed spO_ok) (cur := 0) (gs := []) 6 (bodyOf Tryd.f56) _ ρ0 _ w (by kernel_rfl) (head_vc rate samples noise tail zs e ha he (fun hb => (hn hb).2.2.2)) hrel (Agree.refl _ _) (Bel.refl _ _) ?_ ?_
  · rintro ρ1 st1 a1 w1 ⟨⟨hb⟩, hk⟩ hr1 hag1 hbl1
    have hT : tailC' 6 (bodyOf Tryd.f56) = .seq (.seq openR5 (.block 2 (.rangeFunc (.tmp 89) #[90, 91] openA openB))) (.seq (subO [1, 0] openT) (subO [1, 1] openT)) := by kernel_rfl
    rw [hT]
    refine (wpIn_wide (n := 3)).1 (wpIn_seq (wpIn_seq (wpIn_mono (wpIn_wide.2 (sx_sound spO_ok (drawn_ok mixed spO_ok) openR5 0 [] st1 _ ρ1 a1 w1 hk hr1 (Agree.refl _ _) (Bel.refl _ _))) ?_)))
    rintro x a2 w2 ⟨ex, ρ2, st2, rfl, hle, hr2, hag2, hbl2⟩
    cases ex with
    | normal =>
      obtain ⟨ρ3, hr3, hag3⟩ := Le.rel hle hr2
      obtain ⟨he0, hss, hr0', _⟩ := hn hb
      refine wpIn_block (open_range (by decide) (r0_len hr0') hr3 ?_)
      intro D W hD hI hd
      have hR : subO [1, 0] openT = .region (idOf (subO [1, 0] openT)) #[oT 0, oT 1, oT 2] false := by kernel_rfl
      have hRet : subO [1, 1] openT = .ret := by kernel_rfl
      rw [hRet, hR]
      have t6 := (hr3.tm 6 _ rfl)
      have s2 := hr3.size
      generalize hat : ({ a2 with defers := { target := .collected D, args := #[] } :: a2.defers } : Act) = at2
      have hat6 : at2.tmps.getD 6 undef = V.val ρ3 (.w (.c (.p 2 0 1 0))) := by rw [← hat]; exact t6.2
      have hats : at2.tmps.size = 109 := by rw [← hat]; exact s2
      have hatd : at2.defers = [{ target := .collected D, args := #[] }] := by rw [← hat, hr3.defers]
      have g1 := stepV_run (P := Tryd.prog) (o := oT 0) hI.heap (rd1_reads (show V.lt 7 (.w (.c (.p 2 0 1 0))) from (by decide : 2 < 7)) hat6) (show stepV Tryd.prog (oT 0).op _ _ = some (True, .w (.c (.p 3 0 1 0))) from by kernel_rfl) trivial
      have l1 : ∀ v x, x ≠ 108 → (at2.put (some 108) v).tmps.getD x undef = at2.tmps.getD x undef := fun v x hx => by
        rw [put_get (fun y hy => by cases hy; rw [hats]; decide), if_neg (fun e => hx (Option.some.inj e).symm)]
      have p108 : ∀ v, (at2.put (some 108) v).tmps.getD 108 undef = v := fun v => by
        rw [put_get (fun y hy => by cases hy; rw [hats]; decide), if_pos rfl]
      refine wpIn_seq (wpIn_region_list (val_step (o := oT 0) (rest := [oT 1, oT 2]) (by kernel_rfl) g1.1 ?_))
      rw [show (oT 0).dst = some 108 from by kernel_rfl]
      have g2 := stepV_run (P := Tryd.prog) (o := oT 1) hI.heap (rd1_reads g1.2 (p108 _)) (show stepV Tryd.prog (oT 1).op _ _ = some (True, .w (.c (.p 3 0 1 0))) from by kernel_rfl) trivial
      refine val_step (o := oT 1) (by kernel_rfl) g2.1 ?_
      rw [show (oT 1).dst = some 2 from by kernel_rfl]
      generalize hb1 : ((at2.put (some 108) (V.val ρ3 (.w (.c (.p 3 0 1 0))))).put (some 2) (V.val ρ3 (.w (.c (.p 3 0 1 0))))) = b1
      have b1s : b1.tmps.size = 109 := by rw [← hb1, put_size, put_size, hats]
      have b12 : b1.tmps.getD 2 undef = V.val ρ3 (.w (.c (.p 3 0 1 0))) := by
        rw [← hb1, put_get (fun y hy => by cases hy; rw [put_size, hats]; decide), if_pos rfl]
      have b1d : b1.defers = [{ target := .collected D, args := #[] }] := by rw [← hb1, put_defers, put_defers, hatd]
      have g3 := stepV_run (P := Tryd.prog) (o := oT 2) (a := b1) (rd := fun x => match x with | .const v => some (.w (ofValue v)) | _ => none) hI.heap (fun x u hx => by
        cases x with
        | const v =>
          cases hx
          exact ⟨ofValue_lt _ v, (ofValue_val _ v).symm⟩
        | _ => cases hx) (show stepV Tryd.prog (oT 2).op _ _ = some (True, .w (.c (.d (.i .i64 0)))) from by kernel_rfl) trivial
      refine val_step (o := oT 2) (by kernel_rfl) g3.1 (wpListIn_nil (wpIn_ret ?_))
      rw [show (oT 2).dst = some 3 from by kernel_rfl]
      show LeavesInM _ _ _ _ _ _ _ _ _
      rw [put_defers, b1d]
      have hI2 := OwnFrom.putObj (OI.own hr3.le) (.deferred none) hI hD hd rfl
      refine ⟨by simp, .inl ⟨D, _, rfl, run_takeDeferred hd, _, results_tmp2 (t := 2) (u := 3) (by kernel_rfl) _ _ _, ρ3, .t [.c (.p 3 0 1 0), .c (.d (.i .i64 0))], _, 7, ?_, ?_, ?_, hI2.heap, (hbl1.trans hbl2).trans hI2.bel, .inr ⟨he0, rfl, by rw [hss]⟩⟩⟩
      · rw [put_get (fun y hy => by cases hy; rw [b1s]; decide), put_get (fun y hy => by cases hy; rw [b1s]; decide), if_pos rfl, if_neg (by decide), b12]
        rfl
      · intro x hx
        simp only [List.mem_cons, List.not_mem_nil, or_false] at hx
        rcases hx with rfl | rfl
        · exact (by decide : 3 < 7)
        · trivial
      · exact fun h hh => ((hag3 h hh).trans (hag2 h hh)).trans (hag1 h hh)
    | exit j => exact hle.elim
    | ret => exact hle.elim
  · intro ex ρ1 st1 a1 w1 hne hk hr1 hag1 hbl1
    cases ex with
    | normal => exact absurd rfl hne
    | exit j => exact hk.elim
    | ret =>
      show LeavesInM _ _ _ _ _ _ _ _ _
      rw [hr1.defers]
      obtain ⟨⟨hb⟩, hk⟩ := hk
      simp only [retX] at hk
      split at hk
      · rename_i l hl
        have hra := resAll_run hr1 _ l _ hl hk
        refine ⟨(tupV (l.map (·.2))).val ρ1, ?_, ρ1, tupV (l.map (·.2)), st1.hp, st1.nx, rfl, tupV_lt (fun y hy => ?_), hag1, hr1.heap, hbl1, .inl ⟨?_, hra.2.2⟩⟩
        · rw [tupV_val]
          simp only [results_eq, Array.mapM_eq_mapM_toList, Sem.run_bind, Sem.run_map, hra.1, Result.andThen_ok, Sem.run_pure, List.map_map]
          rfl
        · obtain ⟨z, hz, rfl⟩ := List.mem_map.1 hy
          exact hra.2.1 z hz
        · have h1 := he hb
          intro h0
          rw [h1, h0] at hb
          cases hb
      · exact hk.elim
set_option maxRecDepth 100000 in
theorem G_open_ok : SpecOK Tryd.prog 56 true (pureT k_G_open g_G_open) := by
  refine pureT_okC (body := bodyOf Tryd.f56) Tryd.func56 (by kernel_rfl) (by kernel_rfl) ?_
  intro ls t hg ho b hb ρ0 w hlt hh
  unfold g_G_open at hg
  split at hg
  · rename_i rate samples noise tail
    cases hg
    obtain rfl := bld_eq hb
    obtain ⟨⟨e, zs, ss⟩, hr⟩ : ∃ r, G_open rate samples noise tail = some r := by
      have hk : ok (G_open rate samples noise tail) := by
        revert ho
        unfold GT.sel
        split <;> exact fun h => h
      exact Option.isSome_iff_exists.1 hk
    refine (open_calls rate samples noise tail e zs ss hr ρ0 w hlt hh).mono ?_
    rintro x w' ⟨ρ', v, hp', nx', h1, h2, h3, h4, h5, h6⟩
    refine ⟨ρ', v, hp', nx', h1, h2, h3, h4, h5, ?_⟩
    have hv : val (G_open rate samples noise tail) = (e, zs, ss) := by rw [hr]; rfl
    rw [hv]
    rcases h6 with ⟨h6, h7⟩ | ⟨rfl, rfl, rfl⟩
    · rw [show ((e, zs, ss) : Int × List (List Int) × List (List Int)).1 = e from rfl, show (e != 0) = true from by simpa using h6]
      exact h7
    · refine Eq.mp (by kernel_rfl : (
        (Ob (rate = rate) ∧ (Ob (noise = noise) ∧ (Ob (tail = tail) ∧ (Ob (zs = zs) ∧ (Ob (ss = ss) ∧ (Ob ((0 : Int) = (0 : Int)) ∧ True)))))) ) = _) ?_
      exact ⟨⟨rfl⟩, ⟨rfl⟩, ⟨rfl⟩, ⟨rfl⟩, ⟨rfl⟩, ⟨rfl⟩, trivial⟩
  · cases hg
theorem sp_56_ok {sp : Specs} (h : SpecsOK Tryd.prog sp) : SpecsOK Tryd.prog (sp_56 sp) := addK_ok G_open_ok h
end Go.Sh
end

section
open Go.RowKit
namespace Go.Sh
open Go Go.Proofs Go.RowKit Go.Sx
set_option linter.unusedVariables false
set_option maxRecDepth 100000
def k_G_exact : List SV := [.a [.d, .r (.floats .f32 [])]]
def g_G_exact : List Lf → Option GT
  | [.d (.i .i64 rate), .r (.floats .f32 samples)] => some (.br ((val (G_open rate samples 0 0)).1 != (0 : Int))
    (.leaf (ok (G_open rate samples 0 0)) [.c (.d (.v (Value.pointer none))), .c (.d (.i .i64 ((val (G_open rate samples 0 0)).1)))])
    (.leaf (ok (G_open rate samples 0 0)) [.c (.box 102 [.d (.i .i64 rate), .g 0, .d (.i .i64 0), .d (.i .i64 0), .row 24 (.recs 2 ((val (G_open rate samples 0 0)).2.1)), .row 24 (.recs 2 ((val (G_open rate samples 0 0)).2.2))]), .c (.d (.i .i64 (0 : Int)))]))
  | _ => none
abbrev sp_61 : Specs → Specs := addK 61 true (pureT k_G_exact g_G_exact)
theorem exact_vc1 (rate : Int) (samples : List Nat) (e : Int) (ha : ok (G_open rate samples (0 : Int) (0 : Int))) (hc : ((val (G_open rate samples (0 : Int) (0 : Int))).1 != (0 : Int)) = true) (he : (val (G_open rate samples (0 : Int) (0 : Int))).1 = e) : runT Tryd.f61 (sp_56 sp0) (fun _ _ _ => none) (bldD k_G_exact [.d (.i .i64 rate), .r (.floats .f32 samples)]) [.c (.d (.v (Value.pointer none))), .c (.d (.i .i64 e))] := by
  refine Eq.mp (by kernel_rfl : (Br ((val (G_open rate samples (0 : Int) (0 : Int))).1 != (0 : Int))
   ((Ob (ok (G_open rate samples (0 : Int) (0 : Int))) ∧
   (Ob (True) ∧
   (Ob (True) ∧
   (Ob (Value.pointer none = Value.pointer none) ∧
   (Ob ((val (G_open rate samples (0 : Int) (0 : Int))).1 = e) ∧
   True))))))
   ((Ob (ok (G_open rate samples (0 : Int) (0 : Int))) ∧
   (Ob (True) ∧
   (Ob (True) ∧
   False))))) = _) ?_
  exact br_i (fun _ => ⟨⟨ha⟩, ⟨trivial⟩, ⟨trivial⟩, ⟨rfl⟩, ⟨he⟩, trivial⟩) (fun h => by rw [hc] at h; cases h)
theorem exact_vc2 (rate : Int) (samples : List Nat) (zs ss : List (List Int)) (ha : ok (G_open rate samples (0 : Int) (0 : Int))) (hc : ((val (G_open rate samples (0 : Int) (0 : Int))).1 != (0 : Int)) = false) (h1 : (val (G_open rate samples (0 : Int) (0 : Int))).2.1 = zs) (h2 : (val (G_open rate samples (0 : Int) (0 : Int))).2.2 = ss) : runT Tryd.f61 (sp_56 sp0) (fun _ _ _ => none) (bldD k_G_exact [.d (.i .i64 rate), .r (.floats .f32 samples)]) [.c (.box 102 [.d (.i .i64 rate), .g 0, .d (.i .i64 0), .d (.i .i64 0), .row 24 (.recs 2 zs), .row 24 (.recs 2 ss)]), .c (.d (.i .i64 (0 : Int)))] := by
  refine Eq.mp (by kernel_rfl : (Br ((val (G_open rate samples (0 : Int) (0 : Int))).1 != (0 : Int))
   ((Ob (ok (G_open rate samples (0 : Int) (0 : Int))) ∧
   (Ob (True) ∧
   (Ob (True) ∧
   False))))
   ((Ob (ok (G_open rate samples (0 : Int) (0 : Int))) ∧
   (Ob (True) ∧
   (Ob (True) ∧
   (Ob (rate = rate) ∧
   (Ob ((0 : Int) = (0 : Int)) ∧
   (Ob ((0 : Int) = (0 : Int)) ∧
   (Ob ((val (G_open rate samples (0 : Int) (0 : Int))).2.1 = zs) ∧
   (Ob ((val (G_open rate samples (0 : Int) (0 : Int))).2.2 = ss) ∧
   (Ob ((0 : Int) = (0 : Int)) ∧
   True))))))))))) = _) ?_
  exact br_i (fun h => by rw [hc] at h; cases h) (fun _ => ⟨⟨ha⟩, ⟨trivial⟩, ⟨trivial⟩, ⟨rfl⟩, ⟨rfl⟩, ⟨rfl⟩, ⟨h1⟩, ⟨h2⟩, ⟨rfl⟩, trivial⟩)
set_option maxRecDepth 100000 in
theorem G_exact_ok : SpecOK Tryd.prog 61 true (pureT k_G_exact g_G_exact) := by
  refine pureT_ok (sp := (sp_56 sp0)) (fn := Tryd.f61) (body := bodyOf Tryd.f61) mixed (sp_56_ok sp0_ok) Tryd.func61 (by kernel_rfl) (by kernel_rfl) fun ls t h ho b hb => ?_
  unfold g_G_exact at h
  split at h
  · rename_i rate samples
    cases h
    obtain rfl := bld_eq hb
    refine ⟨Nat.le_of_ble_eq_true (by kernel_rfl), 40, fun _ _ _ => none, ?_⟩
    cases hc : ((val (G_open rate samples (0 : Int) (0 : Int))).1 != (0 : Int)) with
    | true =>
      rw [hc] at ho
      exact exact_vc1 rate samples _ ho hc rfl
    | false =>
      rw [hc] at ho
      exact exact_vc2 rate samples _ _ ho hc rfl rfl
  · cases h
theorem sp_61_ok {sp : Specs} (h : SpecsOK Tryd.prog sp) : SpecsOK Tryd.prog (sp_61 sp) := addK_ok G_exact_ok h
def G_openBlock (rate : Int) (samples : List Nat) (block : Int) : Option (Int × Int × List (List Int) × List (List Int)) :=
  Option.bind (G_open rate samples (0 : Int) (0 : Int)) fun r =>
  if (r.1 != (0 : Int)) = true then
   Option.bind (y9 block (1 : Int) (1024 : Int)) fun b =>
   Option.bind (y10 b (2 : Int)) fun u =>
   Option.bind (y25 [r.1, u]) fun f => some (r.1, f, [], [])
  else
   Option.bind (y9 block (1 : Int) (1024 : Int)) fun b =>
   Option.bind (y10 b (2 : Int)) fun u =>
   Option.bind (y25 [(0 : Int), u]) fun f => some (0, f, r.2.1, r.2.2)
def k_G_openBlock : List SV := [.a [.d, .r (.floats .f32 [])], .c .d]
def g_G_openBlock : List Lf → Option GT
  | [.d (.i .i64 rate), .r (.floats .f32 samples), .d (.i .i64 block)] => some (.br ((val (G_openBlock rate samples block)).1 != (0 : Int))
    (.leaf (ok (G_openBlock rate samples block)) [.c (.d (.v (Value.pointer none))), .c (.d (.i .i64 ((val (G_openBlock rate samples block)).2.1)))])
    (.leaf (ok (G_openBlock rate samples block)) [.c (.box 102 [.d (.i .i64 rate), .g 0, .d (.i .i64 0), .d (.i .i64 0), .row 24 (.recs 2 ((val (G_openBlock rate samples block)).2.2.1)), .row 24 (.recs 2 ((val (G_openBlock rate samples block)).2.2.2))]), .c (.d (.i .i64 ((val (G_openBlock rate samples block)).2.1)))]))
  | _ => none
abbrev sp_67 : Specs → Specs := addK 67 true (pureT k_G_openBlock g_G_openBlock)
theorem openBlock_vc1 (rate : Int) (samples : List Nat) (block e : Int) (hc : ((val (G_open rate samples (0 : Int) (0 : Int))).1 != (0 : Int)) = true) (ha : ok (G_open rate samples (0 : Int) (0 : Int))) (hw : ok (y9 block (1 : Int) (1024 : Int))) (hu : ok (y10 (val (y9 block (1 : Int) (1024 : Int))) (2 : Int)))
    (hf : ok (y25 [(val (G_open rate samples (0 : Int) (0 : Int))).1, val (y10 (val (y9 block (1 : Int) (1024 : Int))) (2 : Int))])) (he : val (y25 [(val (G_open rate samples (0 : Int) (0 : Int))).1, val (y10 (val (y9 block (1 : Int) (1024 : Int))) (2 : Int))]) = e) :
    runT Tryd.f67 (sp_41 (sp_48 (sp_47 (sp_61 sp0)))) (fun _ _ _ => none) (bldD k_G_openBlock [.d (.i .i64 rate), .r (.floats .f32 samples), .d (.i .i64 block)]) [.c (.d (.v (Value.pointer none))), .c (.d (.i .i64 e))] := by
  refine Eq.mp (by kernel_rfl : (Br ((val (G_open rate samples (0 : Int) (0 : Int))).1 != (0 : Int))
      ((Ob (ok (G_open rate samples (0 : Int) (0 : Int))) ∧
      (Ob (ok (y9 block (1 : Int) (1024 : Int))) ∧
      (Ob (ok (y10 (val (y9 block (1 : Int) (1024 : Int))) (2 : Int))) ∧
      (Ob (ok (y25 [(val (G_open rate samples (0 : Int) (0 : Int))).1, val (y10 (val (y9 block (1 : Int) (1024 : Int))) (2 : Int))])) ∧
      (Ob (True) ∧
      (Ob (True) ∧
      (Ob (Value.pointer none = Value.pointer none) ∧
      (Ob (val (y25 [(val (G_open rate samples (0 : Int) (0 : Int))).1, val (y10 (val (y9 block (1 : Int) (1024 : Int))) (2 : Int))]) = e) ∧
      True)))))))))
      ((Ob (ok (G_open rate samples (0 : Int) (0 : Int))) ∧
      (Ob (ok (y9 block (1 : Int) (1024 : Int))) ∧
      (Ob (ok (y10 (val (y9 block (1 : Int) (1024 : Int))) (2 : Int))) ∧
      (Ob (ok (y25 [(0 : Int), val (y10 (val (y9 block (1 : Int) (1024 : Int))) (2 : Int))])) ∧
      (Ob (True) ∧
      (Ob (True) ∧
      False)))))))) = _) ?_
  exact br_i (fun _ => ⟨⟨ha⟩, ⟨hw⟩, ⟨hu⟩, ⟨hf⟩, ⟨trivial⟩, ⟨trivial⟩, ⟨rfl⟩, ⟨he⟩, trivial⟩) (fun h => by rw [hc] at h; cases h)
theorem openBlock_vc2 (rate : Int) (samples : List Nat) (block e : Int) (zs ss : List (List Int)) (hc : ((val (G_open rate samples (0 : Int) (0 : Int))).1 != (0 : Int)) = false) (ha : ok (G_open rate samples (0 : Int) (0 : Int))) (hw : ok (y9 block (1 : Int) (1024 : Int))) (hu : ok (y10 (val (y9 block (1 : Int) (1024 : Int))) (2 : Int)))
    (hf : ok (y25 [(0 : Int), val (y10 (val (y9 block (1 : Int) (1024 : Int))) (2 : Int))])) (h1 : (val (G_open rate samples (0 : Int) (0 : Int))).2.1 = zs) (h2 : (val (G_open rate samples (0 : Int) (0 : Int))).2.2 = ss) (he : val (y25 [(0 : Int), val (y10 (val (y9 block (1 : Int) (1024 : Int))) (2 : Int))]) = e) :
    runT Tryd.f67 (sp_41 (sp_48 (sp_47 (sp_61 sp0)))) (fun _ _ _ => none) (bldD k_G_openBlock [.d (.i .i64 rate), .r (.floats .f32 samples), .d (.i .i64 block)]) [.c (.box 102 [.d (.i .i64 rate), .g 0, .d (.i .i64 0), .d (.i .i64 0), .row 24 (.recs 2 zs), .row 24 (.recs 2 ss)]), .c (.d (.i .i64 e))] := by
  refine Eq.mp (by kernel_rfl : (Br ((val (G_open rate samples (0 : Int) (0 : Int))).1 != (0 : Int))
      ((Ob (ok (G_open rate samples (0 : Int) (0 : Int))) ∧
      (Ob (ok (y9 block (1 : Int) (1024 : Int))) ∧
      (Ob (ok (y10 (val (y9 block (1 : Int) (1024 : Int))) (2 : Int))) ∧
      (Ob (ok (y25 [(val (G_open rate samples (0 : Int) (0 : Int))).1, val (y10 (val (y9 block (1 : Int) (1024 : Int))) (2 : Int))])) ∧
      (Ob (True) ∧
      (Ob (True) ∧
      False)))))))
      ((Ob (ok (G_open rate samples (0 : Int) (0 : Int))) ∧
      (Ob (ok (y9 block (1 : Int) (1024 : Int))) ∧
      (Ob (ok (y10 (val (y9 block (1 : Int) (1024 : Int))) (2 : Int))) ∧
      (Ob (ok (y25 [(0 : Int), val (y10 (val (y9 block (1 : Int) (1024 : Int))) (2 : Int))])) ∧
      (Ob (True) ∧
      (Ob (True) ∧
      (Ob (rate = rate) ∧
      (Ob ((0 : Int) = (0 : Int)) ∧
      (Ob ((0 : Int) = (0 : Int)) ∧
      (Ob ((val (G_open rate samples (0 : Int) (0 : Int))).2.1 = zs) ∧
      (Ob ((val (G_open rate samples (0 : Int) (0 : Int))).2.2 = ss) ∧
      (Ob (val (y25 [(0 : Int), val (y10 (val (y9 block (1 : Int) (1024 : Int))) (2 : Int))]) = e) ∧
      True)))))))))))))) = _) ?_
  exact br_i (fun h => by rw [hc] at h; cases h) (fun _ => ⟨⟨ha⟩, ⟨hw⟩, ⟨hu⟩, ⟨hf⟩, ⟨trivial⟩, ⟨trivial⟩, ⟨rfl⟩, ⟨rfl⟩, ⟨rfl⟩, ⟨h1⟩, ⟨h2⟩, ⟨he⟩, trivial⟩)
theorem some_ok {α : Type} {x : Option α} {y : α} (h : x = some y) : ok x := by rw [h]; rfl
theorem some_val {α : Type} [Inhabited α] {x : Option α} {y : α} (h : x = some y) : val x = y := by rw [h]; rfl
set_option maxRecDepth 100000 in
theorem G_openBlock_ok : SpecOK Tryd.prog 67 true (pureT k_G_openBlock g_G_openBlock) := by
  refine pureT_ok (sp := (sp_41 (sp_48 (sp_47 (sp_61 sp0))))) (fn := Tryd.f67) (body := bodyOf Tryd.f67) mixed (sp_41_ok (sp_48_ok (sp_47_ok (sp_61_ok sp0_ok)))) Tryd.func67 (by kernel_rfl) (by kernel_rfl) fun ls t h ho b hb => ?_
  unfold g_G_openBlock at h
  split at h
  · rename_i rate samples block
    cases h
    obtain rfl := bld_eq hb
    refine ⟨Nat.le_of_ble_eq_true (by kernel_rfl), 40, fun _ _ _ => none, ?_⟩
    have hk : ok (G_openBlock rate samples block) := by
      revert ho
      unfold GT.sel
      split <;> exact fun h => h
    obtain ⟨⟨c, e, zs, ss⟩, hr⟩ := Option.isSome_iff_exists.1 hk
    rw [some_val hr]
    unfold G_openBlock at hr
    obtain ⟨r, hr0, hr⟩ := Option.bind_eq_some_iff.1 hr
    split at hr
    · rename_i hc
      obtain ⟨b, hb1, hr⟩ := Option.bind_eq_some_iff.1 hr
      obtain ⟨u, hu, hr⟩ := Option.bind_eq_some_iff.1 hr
      obtain ⟨f, hf, hr⟩ := Option.bind_eq_some_iff.1 hr
      obtain ⟨rfl, rfl, rfl, rfl⟩ : r.1 = c ∧ f = e ∧ [] = zs ∧ [] = ss := by cases hr; exact ⟨rfl, rfl, rfl, rfl⟩
      dsimp only
      rw [hc]
      rw [← some_val hr0] at hc
      rw [← some_val hb1] at hu
      refine openBlock_vc1 rate samples block _ hc (some_ok hr0) (some_ok hb1) (some_ok hu) ?_ ?_
      · rw [some_val hu, some_val hr0]
        exact some_ok hf
      · rw [some_val hu, some_val hr0]
        exact some_val hf
    · rename_i hc
      obtain ⟨b, hb1, hr⟩ := Option.bind_eq_some_iff.1 hr
      obtain ⟨u, hu, hr⟩ := Option.bind_eq_some_iff.1 hr
      obtain ⟨f, hf, hr⟩ := Option.bind_eq_some_iff.1 hr
      cases hr
      have hc : (r.1 != (0 : Int)) = false := by simpa using hc
      rw [← some_val hr0] at hc
      rw [← some_val hb1] at hu
      refine openBlock_vc2 rate samples block _ _ _ hc (some_ok hr0) (some_ok hb1) (some_ok hu) ?_ ?_ ?_ ?_
      · rw [some_val hu]
        exact some_ok hf
      · rw [some_val hr0]
      · rw [some_val hr0]
      · rw [some_val hu]
        exact some_val hf
  · cases h
theorem sp_67_ok {sp : Specs} (h : SpecsOK Tryd.prog sp) : SpecsOK Tryd.prog (sp_67 sp) := addK_ok G_openBlock_ok h
end Go.Sh
end

section
namespace Go.Sh
open Go Go.Proofs Go.RowKit Go.Sx Go.Sx06 Ieee Go.Fl
def fi (b : Nat) : Int := f2i .f32 b
theorem se_whole {b : Nat} (h : se b = 0) : f2iOk .f32 .i64 b = true ∧ -32767 ≤ fi b ∧ fi b ≤ 32767 := by
  unfold se at h
  unfold fi f2i f2iOk
  rcases Fl.read32 b with ⟨s, m, e, hd, hm, he1, he2⟩ | ⟨s, hd⟩ | ⟨s, t, hd⟩
  · have hdec : FloatKind.decode .f32 b = .number s m e := hd
    rw [hdec] at h ⊢
    rw [toIntP (by unfold KK; omega)]
    unfold seD at h
    have h3 : mg KK m e / PP ≤ 32767 := by
      dsimp only at h
      split at h
      · omega
      · split at h
        · omega
        · split at h
          · assumption
          · omega
    clear h
    generalize mg KK m e / PP = Q at *
    have e1 : IntKind.i64.min = -9223372036854775808 := rfl
    have e2 : IntKind.i64.max = 9223372036854775807 := rfl
    simp only [e1, e2, decide_eq_true_eq, Option.getD_some]
    cases s <;> simp only [sg, Bool.false_eq_true, if_false, if_true] <;> omega
  · have hdec : FloatKind.decode .f32 b = .infinity s := hd
    rw [hdec] at h
    simp [seD] at h
  · have hdec : FloatKind.decode .f32 b = .nan s t := hd
    rw [hdec] at h
    simp [seD] at h
def sqP (noise n : Int) : List Int := [max 0 (az n - noise) * max 0 (az n - noise), (az n + noise) * (az n + noise)]
def zsO (noise : Int) (l : List Nat) : List (List Int) := l.map fun b => sqP noise (fi b)
def sLo : List (List Int) → Int
  | [] => 0
  | r :: l => r.getD 0 0 + sLo l
def sHi : List (List Int) → Int
  | [] => 0
  | r :: l => r.getD 1 0 + sHi l
theorem sLo_append (a b : List (List Int)) : sLo (a ++ b) = sLo a + sLo b := by
  induction a with
  | nil => simp [sLo]
  | cons r a ih => simp only [List.cons_append, sLo, ih]; omega
theorem sHi_append (a b : List (List Int)) : sHi (a ++ b) = sHi a + sHi b := by
  induction a with
  | nil => simp [sHi]
  | cons r a ih => simp only [List.cons_append, sHi, ih]; omega
def okZ (r : List Int) : Prop := 0 ≤ r.getD 0 0 ∧ r.getD 0 0 ≤ r.getD 1 0 ∧ r.getD 1 0 ≤ 4294705156
theorem s_range {zs : List (List Int)} (h : ∀ r ∈ zs, okZ r) : 0 ≤ sLo zs ∧ sLo zs ≤ sHi zs ∧ sHi zs ≤ 4294705156 * (zs.length : Int) := by
  induction zs with
  | nil => simp [sLo, sHi]
  | cons r l ih =>
    have h1 := ih fun r hr => h r (List.mem_cons_of_mem _ hr)
    have h2 := h r List.mem_cons_self
    unfold okZ at h2
    simp only [sLo, sHi, List.length_cons]
    omega
theorem az_range {n M : Int} (h : -M ≤ n ∧ n ≤ M) : 0 ≤ az n ∧ az n ≤ M := by unfold az; omega
theorem sqP_ok {noise n : Int} (hn : 0 ≤ noise ∧ noise ≤ 32767) (h : -32767 ≤ n ∧ n ≤ 32767) : okZ (sqP noise n) := by
  have h1 := az_range h
  have h2 : 0 ≤ max 0 (az n - noise) ∧ max 0 (az n - noise) ≤ az n + noise := by omega
  have h3 := Int.mul_nonneg h2.1 h2.1
  have h4 := Int.mul_le_mul h2.2 h2.2 h2.1 (by omega)
  have h5 := Int.mul_le_mul (show az n + noise ≤ 65534 by omega) (show az n + noise ≤ 65534 by omega) (show 0 ≤ az n + noise by omega) (by omega)
  exact ⟨h3, h4, h5⟩
theorem zsO_len (noise : Int) (l : List Nat) : (zsO noise l).length = l.length := by simp [zsO]
theorem zsO_ok {noise : Int} {l : List Nat} (hn : 0 ≤ noise ∧ noise ≤ 32767) (h : ∀ b ∈ l, se b = 0) : ∀ r ∈ zsO noise l, okZ r := by
  intro r hr
  obtain ⟨b, hb, rfl⟩ := List.mem_map.1 hr
  exact sqP_ok hn (se_whole (h b hb)).2
theorem iter_map {α β : Type} (l : List α) (d : α) (f : α → β) {body : Int × List β → Option ((Int × List β) ⊕ List β)} (hlen : l.length < 1000000000000)
    (h1 : ∀ i, i < l.length → ∀ o : List β, o.length = i → body ((i : Int), o) = some (.inl ((i : Int) + 1, o ++ [f (l.getD i d)])))
    (h2 : ∀ o, body ((l.length : Int), o) = some (.inr o)) : iter body big (0, []) = some (l.map f) := by
  refine iter_upto (fun i => ((i : Int), (l.take i).map f)) (k := l.length) (fun i hi => ?_) ?_ (by omega)
  · have := h1 i hi ((l.take i).map f) (by simp; omega)
    rw [this]
    have e : l.take (i + 1) = l.take i ++ [l.getD i d] := by
      rw [List.take_succ_eq_append_getElem hi]
      simp [List.getD, hi]
    rw [e]
    simp
  · rw [List.take_length]; exact h2 _
theorem sq_low {r noise : Int} (h : 0 ≤ r ∧ r ≤ 32767) (hn : 0 ≤ noise ∧ noise ≤ 32767) :
    IntKind.wrap IntKind.i64 ((if IntKind.wrap IntKind.i64 (r - noise) > (0 : Int) then IntKind.wrap IntKind.i64 (r - noise) else (0 : Int)) * if IntKind.wrap IntKind.i64 (r - noise) > (0 : Int) then IntKind.wrap IntKind.i64 (r - noise) else (0 : Int)) = max 0 (r - noise) * max 0 (r - noise) := by
  rw [wr64 (x := r - noise) (by omega)]
  have e : (if r - noise > 0 then r - noise else 0) = max 0 (r - noise) := by split <;> omega
  rw [e]
  have h1 : 0 ≤ max 0 (r - noise) ∧ max 0 (r - noise) ≤ 32767 := by omega
  have h2 := Int.mul_nonneg h1.1 h1.1
  have h3 := Int.mul_le_mul h1.2 h1.2 h1.1 (by omega)
  exact wr64 (by omega)
theorem sq_high {r noise : Int} (h : 0 ≤ r ∧ r ≤ 32767) (hn : 0 ≤ noise ∧ noise ≤ 32767) :
    IntKind.wrap IntKind.i64 (IntKind.wrap IntKind.i64 (r + noise) * IntKind.wrap IntKind.i64 (r + noise)) = (r + noise) * (r + noise) := by
  rw [wr64 (x := r + noise) (by omega)]
  have h1 : 0 ≤ r + noise ∧ r + noise ≤ 65534 := by omega
  have h2 := Int.mul_nonneg h1.1 h1.1
  have h3 := Int.mul_le_mul h1.2 h1.2 h1.1 (by omega)
  exact wr64 (by omega)
theorem open_iter {l : List Nat} {noise : Int} (hl : l.length ≤ 1024) (hs : ∀ b ∈ l, se b = 0) (hn : 0 ≤ noise ∧ noise ≤ 32767) : iter (G_open_b0 l noise) big (0, []) = some (zsO noise l) := by
  refine iter_map l 0 (fun b => sqP noise (fi b)) (by omega) (fun i hi o ho => ?_) (fun o => ?_)
  · unfold G_open_b0
    dsimp only
    have hw := se_whole (hs (l.getD i 0) (by simp [List.getD, hi]))
    have ha := az_range (M := 32767) hw.2
    rw [if_pos (by omega), if_pos (by omega), if_pos (by omega), Int.toNat_natCast, if_pos hw.1]
    rw [show f2i FloatKind.f32 (l.getD i 0) = fi (l.getD i 0) from rfl, sizeG_eq (by unfold inJ; omega), bind_some', if_pos (by simp only [List.length_cons, List.length_nil]; omega), sq_low ha hn, sq_high ha hn, wr64 (by omega)]
    rfl
  · unfold G_open_b0
    dsimp only
    rw [if_neg (by omega)]
def ssO (zs : List (List Int)) (tail : Int) : List (List Int) := (List.range (zs.length + 1)).map fun i => [sLo (zs.drop i), sHi (zs.drop i) + tail]
theorem ssO_len (zs : List (List Int)) (tail : Int) : (ssO zs tail).length = zs.length + 1 := by simp [ssO]
theorem ssO_get {zs : List (List Int)} {tail : Int} {i : Nat} (h : i ≤ zs.length) : (ssO zs tail).getD i [] = [sLo (zs.drop i), sHi (zs.drop i) + tail] := by
  unfold ssO
  have : i < zs.length + 1 := by omega
  simp [List.getD, this]
theorem iniS_get {zs : List (List Int)} (tail : Int) (h : zs.length ≤ 1024) : (iniS zs tail).length = zs.length + 1 ∧ (iniS zs tail).getD zs.length [] = [0, tail] := by
  refine ⟨iniS_len tail (by omega), ?_⟩
  unfold iniS
  rw [wr64 (by omega)]
  have e : Int.toNat ((zs.length : Int) + 1) = zs.length + 1 := by omega
  rw [e, Int.toNat_natCast]
  simp [List.getD, wr]
  rfl
theorem drop_get {zs : List (List Int)} {i : Nat} (h : i < zs.length) : zs.drop i = zs.getD i [] :: zs.drop (i + 1) := by
  rw [List.drop_eq_getElem_cons h]
  simp [List.getD, h]
theorem sums_inv {zs : List (List Int)} {tail : Int} (h : zs.length ≤ 1024) (hz : ∀ r ∈ zs, okZ r) (ht : 0 ≤ tail ∧ tail ≤ 1000000000000) : ∀ k, k ≤ zs.length →
    (sumsOf zs tail (Bk.bk zs.length k)).length = zs.length + 1 ∧ ∀ i, zs.length - k ≤ i → i ≤ zs.length → (sumsOf zs tail (Bk.bk zs.length k)).getD i [] = [sLo (zs.drop i), sHi (zs.drop i) + tail]
  | 0, _ => by
    have h0 := iniS_get tail h
    refine ⟨h0.1, fun i h1 h2 => ?_⟩
    have hi : i = zs.length := by omega
    subst hi
    rw [List.drop_length]
    simp only [sLo, sHi, Int.zero_add]
    exact h0.2
  | k + 1, hk => by
    obtain ⟨hl, hg⟩ := sums_inv h hz ht k (by omega)
    rw [Bk.bk_succ (by omega), sumsOf_snoc]
    dsimp only
    obtain ⟨ss, hss⟩ : ∃ ss, ss = sumsOf zs tail (Bk.bk zs.length k) := ⟨_, rfl⟩
    rw [← hss] at hl hg ⊢
    have hj := hg (zs.length - 1 - k + 1) (by omega) (by omega)
    have hd := drop_get (zs := zs) (i := zs.length - 1 - k) (by omega)
    have hok := hz (zs.getD (zs.length - 1 - k) []) (by simp [List.getD, show zs.length - 1 - k < zs.length by omega])
    have hr := s_range (zs := zs.drop (zs.length - 1 - k + 1)) fun r hr => hz r (List.mem_of_mem_drop hr)
    have hdl : ((zs.drop (zs.length - 1 - k + 1)).length : Int) ≤ 1024 := by rw [List.length_drop]; omega
    unfold okZ at hok
    generalize hi0 : zs.length - 1 - k = i0 at *
    have e1 : ((((i0 : Nat) : Int) + 1).toNat) = i0 + 1 := by omega
    have hup : upS ss (i0 : Int) ((zs.getD i0 []).getD 0 0) ((zs.getD i0 []).getD 1 0) = ss.set i0 [sLo (zs.drop i0), sHi (zs.drop i0) + tail] := by
      unfold upS
      rw [wr64 (x := (i0 : Int) + 1) (by omega), e1, hj, Int.toNat_natCast]
      simp only [List.getD_cons_zero, List.getD_cons_succ]
      rw [wr64 (by omega), wr64 (by omega), hd]
      simp only [sLo, sHi]
      rw [show (zs.getD i0 []).getD 1 0 + (sHi (zs.drop (i0 + 1)) + tail) = (zs.getD i0 []).getD 1 0 + sHi (zs.drop (i0 + 1)) + tail by omega]
      rfl
    rw [hup]
    refine ⟨by rw [List.length_set]; exact hl, fun i h1 h2 => ?_⟩
    by_cases he : i = i0
    · subst he
      simp [List.getD, hl, show i < zs.length + 1 by omega]
    · have := hg i (by omega) h2
      rw [← this]
      simp [List.getD, List.getElem?_set, Ne.symm he]
theorem sums_eq {zs : List (List Int)} {tail : Int} (h : zs.length ≤ 1024) (hz : ∀ r ∈ zs, okZ r) (ht : 0 ≤ tail ∧ tail ≤ 1000000000000) : sumsOf zs tail (Bk.bk zs.length zs.length) = ssO zs tail := by
  obtain ⟨h1, h2⟩ := sums_inv h hz ht zs.length (Nat.le_refl _)
  apply List.ext_getElem
  · rw [h1, ssO_len]
  · intro i hi hi'
    have hi2 : i ≤ zs.length := by omega
    have a := h2 i (by omega) hi2
    have b := ssO_get (tail := tail) hi2
    simp only [List.getD, List.getElem?_eq_getElem hi, Option.getD_some] at a
    simp only [List.getD, List.getElem?_eq_getElem hi', Option.getD_some] at b
    rw [a, b]
theorem open_eq (rate : Int) {l : List Nat} (noise tail : Int) (hl : l.length < 1000000000000) :
    G_open rate l noise tail = some (if (askE rate l noise tail).2 ≠ 0 then ((askE rate l noise tail).2, [], []) else (0, zsO noise l, ssO (zsO noise l) tail)) := by
  unfold G_open
  rw [checkAskG_eq rate noise tail hl, bind_some']
  by_cases h : (askE rate l noise tail).2 = 0
  · obtain ⟨hr, hn, ht⟩ := askE_zero h
    obtain ⟨_, _, h3, h4⟩ := resE_zero hr
    have hzl := zsO_len noise l
    have hzk := zsO_ok hn h4
    rw [if_neg (show ¬ ((askE rate l noise tail).2 != 0) = true by rw [h]; simp), if_neg (by omega), open_iter h3 h4 hn, bind_some']
    have hr0 : G_open_r0 (zsO noise l) = some () := by
      unfold G_open_r0
      rw [wr64 (by omega)]
      have e : Int.toNat (((zsO noise l).length : Int) + 1) = (zsO noise l).length + 1 := by omega
      rw [if_pos (by omega), e, List.length_replicate, if_pos (by omega), Int.toNat_natCast, if_pos (by omega)]
    rw [hr0, bind_some', sums_eq (by omega) hzk ht]
  · rw [if_pos (show ((askE rate l noise tail).2 != 0) = true by simpa using h), if_pos h]
theorem open_e (rate : Int) {l : List Nat} (noise tail : Int) (hl : l.length < 1000000000000) : (val (G_open rate l noise tail)).1 = (askE rate l noise tail).2 := by
  rw [open_eq rate noise tail hl]
  show (if (askE rate l noise tail).2 ≠ 0 then ((askE rate l noise tail).2, ([] : List (List Int)), ([] : List (List Int))) else (0, zsO noise l, ssO (zsO noise l) tail)).1 = _
  split
  · rfl
  · rename_i h; simp at h; rw [h]
end Go.Sh
end

section
namespace Go.Sh
open Go Go.Proofs Go.RowKit Go.Sx
set_option linter.unusedVariables false
def k_R05_TimeErr : List (Option Cont) := [none]
def y90 (u7 : Int) : Option Int :=
  Option.bind (y38 u7 (0 : Int) (1000000 : Int)) fun r0 =>
  if (!r0) = true then
   some (2 : Int)
  else
   some (0 : Int)
def g_R05_TimeErr : List A → Option (Prop × List RV)
  | [.d (.i .i64 u7)] => some (ok (y90 u7), [.d (.i .i64 ((val (y90 u7))))])
  | _ => none
abbrev sp_22 : Specs → Specs := addK 22 true (pureK k_R05_TimeErr g_R05_TimeErr)
set_option maxRecDepth 100000 in
def R05_TimeErr_t (u7 : Int) : T (Int) :=
 .call (y38 u7 (0 : Int) (1000000 : Int)) fun r0 =>
  .brB (!r0)
  (.obT
  (.rc ((2 : Int))))
  (.obT
  (.rc ((0 : Int))))
set_option maxRecDepth 100000 in
theorem R05_TimeErr_vc (u7 : Int) (r : Int) (h : Option.bind (y90 u7) some = some r) : runF Tryd.f22 ((sp_11 sp0)) (fun _ _ _ => none) [.d (.i .i64 u7)] [.d (.i .i64 r)] :=
  T.vc (t := R05_TimeErr_t u7) (by kernel_rfl) (by kernel_rfl) h
set_option maxRecDepth 100000 in
theorem R05_TimeErr_ok : SpecOK Tryd.prog 22 true (pureK k_R05_TimeErr g_R05_TimeErr) := by
  refine pureK_ok (sp := (sp_11 sp0)) (fn := Tryd.f22) (body := bodyOf Tryd.f22) mixed (sp_11_ok sp0_ok) Tryd.func22 (by kernel_rfl) (by kernel_rfl) fun as_ ob rs h ho => ?_
  unfold g_R05_TimeErr at h
  split at h
  · rename_i u7
    cases h
    exact ⟨Nat.le_of_ble_eq_true rfl, _, _, R05_TimeErr_vc u7 _ (ok_some ho)⟩
  · cases h
theorem sp_22_ok {sp : Specs} (h : SpecsOK Tryd.prog sp) : SpecsOK Tryd.prog (sp_22 sp) := addK_ok R05_TimeErr_ok h
end Go.Sh
end

section
namespace Go.Sh
open Go Go.Proofs Go.RowKit Go.Sx
set_option linter.unusedVariables false
end Go.Sh
end

section
namespace Go.Sh
open Go Go.Proofs Go.RowKit Go.Sx
set_option linter.unusedVariables false
def k_L05_Five : List SV := []
def L05_Five : Option (Int × List Nat) :=
  some (((8000 : Int), [(1090519040 : Nat), (1082130432 : Nat), (1073741824 : Nat), (1065353216 : Nat), (0 : Nat)]))
set_option maxRecDepth 100000 in
def L05_Five_t : T (Int × List Nat) :=
 .obT
  (.rc ((((8000 : Int), [(1090519040 : Nat), (1082130432 : Nat), (1073741824 : Nat), (1065353216 : Nat), (0 : Nat)]))))
set_option maxRecDepth 100000 in
theorem L05_Five_vc (r : Int × List Nat) (h : Option.bind (L05_Five) some = some r) : runT Tryd.f35 (sp0) (fun _ _ _ => none) (bldD k_L05_Five []) [.s [.d (.i .i64 r.1), .row 54 (.floats .f32 r.2)]] :=
  T.vc (t := L05_Five_t) (by kernel_rfl) (by kernel_rfl) h
def k_L05_Few : List SV := [.a [.d, .r (.floats .f32 [])]]
def L05_Few (u16 : Int) (u15 : List Nat) : Option Bool :=
  if (↑(List.length u15) : Int) ≤ (700 : Int) then
   some true
  else
   if (↑(List.length u15) : Int) > (1024 : Int) then
    some (decide ((↑(List.length u15) : Int) ≤ (1026 : Int)))
   else
    some false
def g_L05_Few : List Lf → Option GT
  | [.d (.i .i64 u16), .r (.floats .f32 u15)] => some (.leaf (ok (L05_Few u16 u15)) [.c (.d (.b ((val (L05_Few u16 u15)))))])
  | _ => none
abbrev sp_12 : Specs → Specs := addK 12 true (pureT k_L05_Few g_L05_Few)
set_option maxRecDepth 100000 in
def L05_Few_t (u16 : Int) (u15 : List Nat) : T (Bool) :=
 .brP ((↑(List.length u15) : Int) ≤ (700 : Int))
  (.obT
  (.rc (true)))
  (.brP ((↑(List.length u15) : Int) > (1024 : Int))
  (.obT
  (.rc ((decide ((↑(List.length u15) : Int) ≤ (1026 : Int))))))
  (.obT
  (.rc (false))))
set_option maxRecDepth 100000 in
theorem L05_Few_vc (u16 : Int) (u15 : List Nat) (r : Bool) (h : Option.bind (L05_Few u16 u15) some = some r) : runT Tryd.f12 (sp0) (fun _ _ _ => none) (bldD k_L05_Few [.d (.i .i64 u16), .r (.floats .f32 u15)]) [.c (.d (.b r))] :=
  T.vc (t := L05_Few_t u16 u15) (by kernel_rfl) (by kernel_rfl) h
set_option maxRecDepth 100000 in
theorem L05_Few_ok : SpecOK Tryd.prog 12 true (pureT k_L05_Few g_L05_Few) := by
  refine pureT_ok (sp := sp0) (fn := Tryd.f12) (body := bodyOf Tryd.f12) mixed sp0_ok Tryd.func12 (by kernel_rfl) (by kernel_rfl) fun ls t h ho b hb => ?_
  unfold g_L05_Few at h
  split at h
  · rename_i u16 u15
    cases h
    obtain rfl := bld_eq hb
    exact ⟨Nat.le_of_ble_eq_true (by kernel_rfl), _, _, L05_Few_vc u16 u15 _ (ok_some ho)⟩
  · cases h
theorem sp_12_ok {sp : Specs} (h : SpecsOK Tryd.prog sp) : SpecsOK Tryd.prog (sp_12 sp) := addK_ok L05_Few_ok h
end Go.Sh
end

section
namespace Go.Sh
open Go Go.Proofs Go.RowKit Go.Sx
set_option linter.unusedVariables false
def y127 : List SV := [.c (.p [.d, .r (.floats .f32 []), .d, .d, .r (.recs 2 []), .r (.recs 2 [])]), .c (.d)]
def y26 (u10 : Int) (u11 : List Nat) (u12 : Int) (u13 : Int) (u9 : List (List Int)) (u14 : List (List Int)) (u37 : Int) : Option (Int × Int × Bool) :=
  Option.bind (y27 u14 u10 u11 u12 u13 u9 u14 u37) fun r0 =>
  Option.bind (y28 u14 u10 u11 u12 u13 u9 u14 u37) fun r1 =>
  if r1 < (0 : Int) then
   some (((0 : Int), (0 : Int), false))
  else
   if (r1 == (↑(List.length u9) : Int)) = true then
    some (((0 : Int), (0 : Int), false))
   else
    some ((if IntKind.wrap .i64 (r0 - (1 : Int)) > (0 : Int) then IntKind.wrap .i64 (r0 - (1 : Int)) else (0 : Int), r1, true))
def y128 : List Lf → Option GT
  | [.d (.i .i64 u10), .r (.floats .f32 u11), .d (.i .i64 u12), .d (.i .i64 u13), .r (.recs 2 u9), .r (.recs 2 u14), .d (.i .i64 u37)] => some (.leaf (ok (y26 u10 u11 u12 u13 u9 u14 u37)) [.s [.d (.i .i64 ((val (y26 u10 u11 u12 u13 u9 u14 u37)).1)), .d (.i .i64 ((val (y26 u10 u11 u12 u13 u9 u14 u37)).2.1))], .c (.d (.b ((val (y26 u10 u11 u12 u13 u9 u14 u37)).2.2)))])
  | _ => none
abbrev sp_84 : Specs → Specs := addK 84 true (pureT y127 y128)
set_option maxRecDepth 100000 in
def G_decay_passing_t (u10 : Int) (u11 : List Nat) (u12 : Int) (u13 : Int) (u9 : List (List Int)) (u14 : List (List Int)) (u37 : Int) : T (Int × Int × Bool) :=
 .obT
  (.call (y27 u14 u10 u11 u12 u13 u9 u14 u37) fun r0 =>
  .obT
  (.call (y28 u14 u10 u11 u12 u13 u9 u14 u37) fun r1 =>
  .brP (r1 < (0 : Int))
  (.obT
  (.obT
  (.rc ((((0 : Int), (0 : Int), false))))))
  (.obT
  (.brB (r1 == (↑(List.length u9) : Int))
  (.obT
  (.obT
  (.rc ((((0 : Int), (0 : Int), false))))))
  (.obT
  (.obT
  (.rc (((if IntKind.wrap .i64 (r0 - (1 : Int)) > (0 : Int) then IntKind.wrap .i64 (r0 - (1 : Int)) else (0 : Int), r1, true))))))))))
set_option maxRecDepth 100000 in
theorem G_decay_passing_vc (u10 : Int) (u11 : List Nat) (u12 : Int) (u13 : Int) (u9 : List (List Int)) (u14 : List (List Int)) (u37 : Int) (r : Int × Int × Bool) (h : Option.bind (y26 u10 u11 u12 u13 u9 u14 u37) some = some r) : runT Tryd.f84 ((sp_97 (sp_98 (sp_62 sp0)))) (fun _ _ _ => none) (bldD y127 [.d (.i .i64 u10), .r (.floats .f32 u11), .d (.i .i64 u12), .d (.i .i64 u13), .r (.recs 2 u9), .r (.recs 2 u14), .d (.i .i64 u37)]) [.s [.d (.i .i64 r.1), .d (.i .i64 r.2.1)], .c (.d (.b r.2.2))] :=
  T.vc (t := G_decay_passing_t u10 u11 u12 u13 u9 u14 u37) (by kernel_rfl) (by kernel_rfl) h
set_option maxRecDepth 100000 in
theorem G_decay_passing_ok : SpecOK Tryd.prog 84 true (pureT y127 y128) := by
  refine pureT_ok (sp := (sp_97 (sp_98 (sp_62 sp0)))) (fn := Tryd.f84) (body := bodyOf Tryd.f84) mixed (sp_97_ok (sp_98_ok (sp_62_ok sp0_ok))) Tryd.func84 (by kernel_rfl) (by kernel_rfl) fun ls t h ho b hb => ?_
  unfold y128 at h
  split at h
  · rename_i u10 u11 u12 u13 u9 u14 u37
    cases h
    obtain rfl := bld_eq hb
    exact ⟨Nat.le_of_ble_eq_true (by kernel_rfl), _, _, G_decay_passing_vc u10 u11 u12 u13 u9 u14 u37 _ (ok_some ho)⟩
  · cases h
theorem sp_84_ok {sp : Specs} (h : SpecsOK Tryd.prog sp) : SpecsOK Tryd.prog (sp_84 sp) := addK_ok G_decay_passing_ok h
def y113 : List SV := [.c (.p [.d, .r (.floats .f32 []), .d, .d, .r (.recs 2 []), .r (.recs 2 [])]), .c (.d)]
def y29 (u10 : Int) (u11 : List Nat) (u12 : Int) (u13 : Int) (u9 : List (List Int)) (u14 : List (List Int)) (u35 : Int) : Option (Int × Int × Int) :=
  if (0 : Int) ≤ (0 : Int) ∧ (0 : Int) < (↑(List.length u14) : Int) then
   if (0 : Nat) < List.length u14 then
    if (List.getD (List.getD u14 (0 : Nat) []) (0 : Nat) (0 : Int) == (0 : Int)) = true then
     some (((0 : Int), (0 : Int), (11 : Int)))
    else
     if (0 : Int) ≤ u35 ∧ u35 < (↑(3 : Nat) : Int) then
      if Int.toNat u35 < List.length slopesT then
       if List.getD (List.getD slopesT (Int.toNat u35) []) (0 : Nat) (0 : Int) > (0 : Int) then
        Option.bind (y26 u10 u11 u12 u13 u9 u14 (List.getD (List.getD slopesT (Int.toNat u35) []) (0 : Nat) (0 : Int))) fun r0 =>
        if (!r0.2.2) = true then
         some (((0 : Int), (0 : Int), (12 : Int)))
        else
         Option.bind (y26 u10 u11 u12 u13 u9 u14 (List.getD (List.getD slopesT (Int.toNat u35) []) (1 : Nat) (0 : Int))) fun r1 =>
         if (!r1.2.2) = true then
          some (((0 : Int), (0 : Int), (12 : Int)))
         else
          if u10 ≠ (0 : Int) then
           Option.bind (G_ceil (IntKind.wrap .i64 (IntKind.wrap .i64 (List.getD (List.getD slopesT (Int.toNat u35) []) (2 : Nat) (0 : Int) * IntKind.wrap .i64 (r1.2.1 - r0.1)) * (1000000 : Int))) u10) fun r2 =>
           some ((IntKind.wrap .i64 (Int.tdiv (IntKind.wrap .i64 (IntKind.wrap .i64 (List.getD (List.getD slopesT (Int.toNat u35) []) (2 : Nat) 0 * if IntKind.wrap .i64 (r1.1 - r0.2.1) > 0 then IntKind.wrap .i64 (r1.1 - r0.2.1) else 0) * (1000000 : Int))) u10), r2, 0))
          else none
       else
        Option.bind (y26 u10 u11 u12 u13 u9 u14 (List.getD (List.getD slopesT (Int.toNat u35) []) (1 : Nat) (0 : Int))) fun r1 =>
        if (!r1.2.2) = true then
         some (((0 : Int), (0 : Int), (12 : Int)))
        else
         if u10 ≠ (0 : Int) then
          Option.bind (G_ceil (IntKind.wrap .i64 (IntKind.wrap .i64 (List.getD (List.getD slopesT (Int.toNat u35) []) (2 : Nat) (0 : Int) * IntKind.wrap .i64 (r1.2.1 - (0 : Int))) * (1000000 : Int))) u10) fun r3 =>
          some ((IntKind.wrap .i64 (Int.tdiv (IntKind.wrap .i64 (IntKind.wrap .i64 (List.getD (List.getD slopesT (Int.toNat u35) []) (2 : Nat) 0 * if IntKind.wrap .i64 (r1.1 - 0) > 0 then IntKind.wrap .i64 (r1.1 - 0) else 0) * (1000000 : Int))) u10), r3, 0))
         else none
      else none
     else none
   else none
  else none
def y114 : List Lf → Option GT
  | [.d (.i .i64 u10), .r (.floats .f32 u11), .d (.i .i64 u12), .d (.i .i64 u13), .r (.recs 2 u9), .r (.recs 2 u14), .d (.i .i64 u35)] => some (.leaf (ok (y29 u10 u11 u12 u13 u9 u14 u35)) [.s [.d (.i .i64 ((val (y29 u10 u11 u12 u13 u9 u14 u35)).1)), .d (.i .i64 ((val (y29 u10 u11 u12 u13 u9 u14 u35)).2.1))], .c (.d (.i .i64 ((val (y29 u10 u11 u12 u13 u9 u14 u35)).2.2)))])
  | _ => none
abbrev sp_57 : Specs → Specs := addK 57 true (pureT y113 y114)
set_option maxRecDepth 100000 in
def G_decay_decayTime_t (u10 : Int) (u11 : List Nat) (u12 : Int) (u13 : Int) (u9 : List (List Int)) (u14 : List (List Int)) (u35 : Int) : T (Int × Int × Int) :=
 .obT
  (.obP ((0 : Int) ≤ (0 : Int) ∧ (0 : Int) < (↑(List.length u14) : Int))
  (.obP ((0 : Nat) < List.length u14)
  (.brB (List.getD (List.getD u14 (0 : Nat) []) (0 : Nat) (0 : Int) == (0 : Int))
  (.obT
  (.obT
  (.rc ((((0 : Int), (0 : Int), (11 : Int)))))))
  (.obP ((0 : Int) ≤ u35 ∧ u35 < (↑(3 : Nat) : Int))
  (.obP (Int.toNat u35 < List.length slopesT)
  (.brP (List.getD (List.getD slopesT (Int.toNat u35) []) (0 : Nat) (0 : Int) > (0 : Int))
  (.call (y26 u10 u11 u12 u13 u9 u14 (List.getD (List.getD slopesT (Int.toNat u35) []) (0 : Nat) (0 : Int))) fun r0 =>
  .brB (!r0.2.2)
  (.obT
  (.obT
  (.rc ((((0 : Int), (0 : Int), (12 : Int)))))))
  (.call (y26 u10 u11 u12 u13 u9 u14 (List.getD (List.getD slopesT (Int.toNat u35) []) (1 : Nat) (0 : Int))) fun r1 =>
  .brB (!r1.2.2)
  (.obT
  (.obT
  (.rc ((((0 : Int), (0 : Int), (12 : Int)))))))
  (.obT
  (.obP (u10 ≠ (0 : Int))
  (.obT
  (.call (G_ceil (IntKind.wrap .i64 (IntKind.wrap .i64 (List.getD (List.getD slopesT (Int.toNat u35) []) (2 : Nat) (0 : Int) * IntKind.wrap .i64 (r1.2.1 - r0.1)) * (1000000 : Int))) u10) fun r2 =>
  .obT
  (.obT
  (.rc (((IntKind.wrap .i64 (Int.tdiv (IntKind.wrap .i64 (IntKind.wrap .i64 (List.getD (List.getD slopesT (Int.toNat u35) []) (2 : Nat) 0 * if IntKind.wrap .i64 (r1.1 - r0.2.1) > 0 then IntKind.wrap .i64 (r1.1 - r0.2.1) else 0) * (1000000 : Int))) u10), r2, 0)))))))))))
  (.call (y26 u10 u11 u12 u13 u9 u14 (List.getD (List.getD slopesT (Int.toNat u35) []) (1 : Nat) (0 : Int))) fun r1 =>
  .brB (!r1.2.2)
  (.obT
  (.obT
  (.rc ((((0 : Int), (0 : Int), (12 : Int)))))))
  (.obT
  (.obP (u10 ≠ (0 : Int))
  (.obT
  (.call (G_ceil (IntKind.wrap .i64 (IntKind.wrap .i64 (List.getD (List.getD slopesT (Int.toNat u35) []) (2 : Nat) (0 : Int) * IntKind.wrap .i64 (r1.2.1 - (0 : Int))) * (1000000 : Int))) u10) fun r3 =>
  .obT
  (.obT
  (.rc (((IntKind.wrap .i64 (Int.tdiv (IntKind.wrap .i64 (IntKind.wrap .i64 (List.getD (List.getD slopesT (Int.toNat u35) []) (2 : Nat) 0 * if IntKind.wrap .i64 (r1.1 - 0) > 0 then IntKind.wrap .i64 (r1.1 - 0) else 0) * (1000000 : Int))) u10), r3, 0))))))))))))))))
set_option maxRecDepth 100000 in
theorem G_decay_decayTime_vc (u10 : Int) (u11 : List Nat) (u12 : Int) (u13 : Int) (u9 : List (List Int)) (u14 : List (List Int)) (u35 : Int) (r : Int × Int × Int) (h : Option.bind (y29 u10 u11 u12 u13 u9 u14 u35) some = some r) : runT Tryd.f57 ((sp_84 (sp_81 sp0))) (fun _ _ _ => none) (bldD y113 [.d (.i .i64 u10), .r (.floats .f32 u11), .d (.i .i64 u12), .d (.i .i64 u13), .r (.recs 2 u9), .r (.recs 2 u14), .d (.i .i64 u35)]) [.s [.d (.i .i64 r.1), .d (.i .i64 r.2.1)], .c (.d (.i .i64 r.2.2))] :=
  T.vc (t := G_decay_decayTime_t u10 u11 u12 u13 u9 u14 u35) (by kernel_rfl) (by kernel_rfl) h
set_option maxRecDepth 100000 in
theorem G_decay_decayTime_ok : SpecOK Tryd.prog 57 true (pureT y113 y114) := by
  refine pureT_ok (sp := (sp_84 (sp_81 sp0))) (fn := Tryd.f57) (body := bodyOf Tryd.f57) mixed (sp_84_ok (sp_81_ok sp0_ok)) Tryd.func57 (by kernel_rfl) (by kernel_rfl) fun ls t h ho b hb => ?_
  unfold y114 at h
  split at h
  · rename_i u10 u11 u12 u13 u9 u14 u35
    cases h
    obtain rfl := bld_eq hb
    exact ⟨Nat.le_of_ble_eq_true (by kernel_rfl), _, _, G_decay_decayTime_vc u10 u11 u12 u13 u9 u14 u35 _ (ok_some ho)⟩
  · cases h
theorem sp_57_ok {sp : Specs} (h : SpecsOK Tryd.prog sp) : SpecsOK Tryd.prog (sp_57 sp) := addK_ok G_decay_decayTime_ok h
def y153 : List SV := [.a [.d, .r (.floats .f32 []), .d, .d], .c (.d)]
def y32 (u4 : Int) (u5 : List Nat) (u0 : Int) (u6 : Int) (u35 : Int) : Option (Int × Int × Int) :=
  if ((val (G_open u4 u5 u0 u6)).1 != (0 : Int)) = true then
   Option.bind (G_open u4 u5 u0 u6) fun r0 =>
   if (r0.1 != (0 : Int)) = true then
    some (((0 : Int), (0 : Int), r0.1))
   else
    none   else
   Option.bind (G_open u4 u5 u0 u6) fun r0 =>
   Option.bind (y9 u35 (0 : Int) (2 : Int)) fun r1 =>
   if (!r1) = true then
    some (((0 : Int), (0 : Int), (15 : Int)))
   else
    Option.bind (y29 u4 u5 u0 u6 r0.2.1 r0.2.2 u35) fun r2 =>
    some (r2.1, r2.2.1, r2.2.2)
def y154 : List Lf → Option GT
  | [.d (.i .i64 u4), .r (.floats .f32 u5), .d (.i .i64 u0), .d (.i .i64 u6), .d (.i .i64 u35)] => some (.leaf (ok (y32 u4 u5 u0 u6 u35)) [.s [.d (.i .i64 ((val (y32 u4 u5 u0 u6 u35)).1)), .d (.i .i64 ((val (y32 u4 u5 u0 u6 u35)).2.1))], .c (.d (.i .i64 ((val (y32 u4 u5 u0 u6 u35)).2.2)))])
  | _ => none
abbrev sp_25 : Specs → Specs := addK 25 true (pureT y153 y154)
set_option maxRecDepth 100000 in
def G_DecayWithin_t (u4 : Int) (u5 : List Nat) (u0 : Int) (u6 : Int) (u35 : Int) : T (Int × Int × Int) :=
 .brB ((val (G_open u4 u5 u0 u6)).1 != (0 : Int))
  (.call (G_open u4 u5 u0 u6) fun r0 =>
  .brB (r0.1 != (0 : Int))
  (.obT
  (.obT
  (.rc ((((0 : Int), (0 : Int), r0.1))))))
  (.bad (fun r => (Ob (ok (y9 u35 (0 : Int) (2 : Int))) ∧
 Br (!val (y9 u35 (0 : Int) (2 : Int)))
  ((Ob (True) ∧
 (Ob (True) ∧
 (Ob ((0 : Int) = r.1) ∧
 (Ob ((0 : Int) = r.2.1) ∧
 (Ob ((15 : Int) = r.2.2) ∧
 True))))))
  (False)))))
  (.call (G_open u4 u5 u0 u6) fun r0 =>
  .call (y9 u35 (0 : Int) (2 : Int)) fun r1 =>
  .brB (!r1)
  (.obT
  (.obT
  (.rc ((((0 : Int), (0 : Int), (15 : Int)))))))
  (.call (y29 u4 u5 u0 u6 r0.2.1 r0.2.2 u35) fun r2 =>
  .obT
  (.obT
  (.rc ((r2.1, r2.2.1, r2.2.2))))))
set_option maxRecDepth 100000 in
theorem G_DecayWithin_vc (u4 : Int) (u5 : List Nat) (u0 : Int) (u6 : Int) (u35 : Int) (r : Int × Int × Int) (h : Option.bind (y32 u4 u5 u0 u6 u35) some = some r) : runT Tryd.f25 ((sp_56 (sp_41 (sp_57 sp0)))) (fun _ _ _ => none) (bldD y153 [.d (.i .i64 u4), .r (.floats .f32 u5), .d (.i .i64 u0), .d (.i .i64 u6), .d (.i .i64 u35)]) [.s [.d (.i .i64 r.1), .d (.i .i64 r.2.1)], .c (.d (.i .i64 r.2.2))] :=
  T.vc (t := G_DecayWithin_t u4 u5 u0 u6 u35) (by kernel_rfl) (by kernel_rfl) h
set_option maxRecDepth 100000 in
theorem G_DecayWithin_ok : SpecOK Tryd.prog 25 true (pureT y153 y154) := by
  refine pureT_ok (sp := (sp_56 (sp_41 (sp_57 sp0)))) (fn := Tryd.f25) (body := bodyOf Tryd.f25) mixed (sp_56_ok (sp_41_ok (sp_57_ok sp0_ok))) Tryd.func25 (by kernel_rfl) (by kernel_rfl) fun ls t h ho b hb => ?_
  unfold y154 at h
  split at h
  · rename_i u4 u5 u0 u6 u35
    cases h
    obtain rfl := bld_eq hb
    exact ⟨Nat.le_of_ble_eq_true (by kernel_rfl), _, _, G_DecayWithin_vc u4 u5 u0 u6 u35 _ (ok_some ho)⟩
  · cases h
theorem sp_25_ok {sp : Specs} (h : SpecsOK Tryd.prog sp) : SpecsOK Tryd.prog (sp_25 sp) := addK_ok G_DecayWithin_ok h
def k_G_Decay : List SV := [.a [.d, .r (.floats .f32 [])], .c (.d)]
def y93 (u16 : Int) (u15 : List Nat) (u35 : Int) : Option (Int × Int × Int) :=
  Option.bind (y32 u16 u15 (0 : Int) (0 : Int) u35) fun r0 =>
  some (r0.1, r0.2.1, r0.2.2)
def g_G_Decay : List Lf → Option GT
  | [.d (.i .i64 u16), .r (.floats .f32 u15), .d (.i .i64 u35)] => some (.leaf (ok (y93 u16 u15 u35)) [.s [.d (.i .i64 ((val (y93 u16 u15 u35)).1)), .d (.i .i64 ((val (y93 u16 u15 u35)).2.1))], .c (.d (.i .i64 ((val (y93 u16 u15 u35)).2.2)))])
  | _ => none
abbrev sp_24 : Specs → Specs := addK 24 true (pureT k_G_Decay g_G_Decay)
set_option maxRecDepth 100000 in
def G_Decay_t (u16 : Int) (u15 : List Nat) (u35 : Int) : T (Int × Int × Int) :=
 .call (y32 u16 u15 (0 : Int) (0 : Int) u35) fun r0 =>
  .obT
  (.obT
  (.rc ((r0.1, r0.2.1, r0.2.2))))
set_option maxRecDepth 100000 in
theorem G_Decay_vc (u16 : Int) (u15 : List Nat) (u35 : Int) (r : Int × Int × Int) (h : Option.bind (y93 u16 u15 u35) some = some r) : runT Tryd.f24 ((sp_25 sp0)) (fun _ _ _ => none) (bldD k_G_Decay [.d (.i .i64 u16), .r (.floats .f32 u15), .d (.i .i64 u35)]) [.s [.d (.i .i64 r.1), .d (.i .i64 r.2.1)], .c (.d (.i .i64 r.2.2))] :=
  T.vc (t := G_Decay_t u16 u15 u35) (by kernel_rfl) (by kernel_rfl) h
set_option maxRecDepth 100000 in
theorem G_Decay_ok : SpecOK Tryd.prog 24 true (pureT k_G_Decay g_G_Decay) := by
  refine pureT_ok (sp := (sp_25 sp0)) (fn := Tryd.f24) (body := bodyOf Tryd.f24) mixed (sp_25_ok sp0_ok) Tryd.func24 (by kernel_rfl) (by kernel_rfl) fun ls t h ho b hb => ?_
  unfold g_G_Decay at h
  split at h
  · rename_i u16 u15 u35
    cases h
    obtain rfl := bld_eq hb
    exact ⟨Nat.le_of_ble_eq_true (by kernel_rfl), _, _, G_Decay_vc u16 u15 u35 _ (ok_some ho)⟩
  · cases h
theorem sp_24_ok {sp : Specs} (h : SpecsOK Tryd.prog sp) : SpecsOK Tryd.prog (sp_24 sp) := addK_ok G_Decay_ok h
def y155 : List SV := [.c (.p [.d, .r (.floats .f32 []), .d, .d, .r (.recs 2 []), .r (.recs 2 [])]), .c (.d)]
def y55 (u10 : Int) (u11 : List Nat) (u12 : Int) (u13 : Int) (u9 : List (List Int)) (u14 : List (List Int)) (u7 : Int) : Option (Int × Int) :=
  Option.bind (y60 u10 u11 u12 u13 u9 u14 u7) fun r0 =>
  Option.bind (y56 u10 u11 u12 u13 u9 u14 (0 : Int) r0) fun r1 =>
  some (r1.1, r1.2)
def y156 : List Lf → Option GT
  | [.d (.i .i64 u10), .r (.floats .f32 u11), .d (.i .i64 u12), .d (.i .i64 u13), .r (.recs 2 u9), .r (.recs 2 u14), .d (.i .i64 u7)] => some (.leaf (ok (y55 u10 u11 u12 u13 u9 u14 u7)) [.s [.d (.i .i64 ((val (y55 u10 u11 u12 u13 u9 u14 u7)).1)), .d (.i .i64 ((val (y55 u10 u11 u12 u13 u9 u14 u7)).2))]])
  | _ => none
abbrev sp_66 : Specs → Specs := addK 66 true (pureT y155 y156)
set_option maxRecDepth 100000 in
def G_decay_early_t (u10 : Int) (u11 : List Nat) (u12 : Int) (u13 : Int) (u9 : List (List Int)) (u14 : List (List Int)) (u7 : Int) : T (Int × Int) :=
 .call (y60 u10 u11 u12 u13 u9 u14 u7) fun r0 =>
  .call (y56 u10 u11 u12 u13 u9 u14 (0 : Int) r0) fun r1 =>
  .obT
  (.rc ((r1.1, r1.2)))
set_option maxRecDepth 100000 in
theorem G_decay_early_vc (u10 : Int) (u11 : List Nat) (u12 : Int) (u13 : Int) (u9 : List (List Int)) (u14 : List (List Int)) (u7 : Int) (r : Int × Int) (h : Option.bind (y55 u10 u11 u12 u13 u9 u14 u7) some = some r) : runT Tryd.f66 ((sp_86 (sp_91 sp0))) (fun _ _ _ => none) (bldD y155 [.d (.i .i64 u10), .r (.floats .f32 u11), .d (.i .i64 u12), .d (.i .i64 u13), .r (.recs 2 u9), .r (.recs 2 u14), .d (.i .i64 u7)]) [.s [.d (.i .i64 r.1), .d (.i .i64 r.2)]] :=
  T.vc (t := G_decay_early_t u10 u11 u12 u13 u9 u14 u7) (by kernel_rfl) (by kernel_rfl) h
set_option maxRecDepth 100000 in
theorem G_decay_early_ok : SpecOK Tryd.prog 66 true (pureT y155 y156) := by
  refine pureT_ok (sp := (sp_86 (sp_91 sp0))) (fn := Tryd.f66) (body := bodyOf Tryd.f66) mixed (sp_86_ok (sp_91_ok sp0_ok)) Tryd.func66 (by kernel_rfl) (by kernel_rfl) fun ls t h ho b hb => ?_
  unfold y156 at h
  split at h
  · rename_i u10 u11 u12 u13 u9 u14 u7
    cases h
    obtain rfl := bld_eq hb
    exact ⟨Nat.le_of_ble_eq_true (by kernel_rfl), _, _, G_decay_early_vc u10 u11 u12 u13 u9 u14 u7 _ (ok_some ho)⟩
  · cases h
theorem sp_66_ok {sp : Specs} (h : SpecsOK Tryd.prog sp) : SpecsOK Tryd.prog (sp_66 sp) := addK_ok G_decay_early_ok h
def k_G_decay_late : List SV := [.c (.p [.d, .r (.floats .f32 []), .d, .d, .r (.recs 2 []), .r (.recs 2 [])]), .c (.d)]
def y62 (u10 : Int) (u11 : List Nat) (u12 : Int) (u13 : Int) (u9 : List (List Int)) (u14 : List (List Int)) (u7 : Int) : Option (Int × Int) :=
  Option.bind (y60 u10 u11 u12 u13 u9 u14 u7) fun r0 =>
  if (0 : Int) ≤ r0 ∧ r0 < (↑(List.length u14) : Int) then
   if Int.toNat r0 < List.length u14 then
    some ((List.getD (List.getD u14 (Int.toNat r0) []) (0 : Nat) (0 : Int), List.getD (List.getD u14 (Int.toNat r0) []) (1 : Nat) (0 : Int)))
   else none
  else none
def g_G_decay_late : List Lf → Option GT
  | [.d (.i .i64 u10), .r (.floats .f32 u11), .d (.i .i64 u12), .d (.i .i64 u13), .r (.recs 2 u9), .r (.recs 2 u14), .d (.i .i64 u7)] => some (.leaf (ok (y62 u10 u11 u12 u13 u9 u14 u7)) [.s [.d (.i .i64 ((val (y62 u10 u11 u12 u13 u9 u14 u7)).1)), .d (.i .i64 ((val (y62 u10 u11 u12 u13 u9 u14 u7)).2))]])
  | _ => none
abbrev sp_85 : Specs → Specs := addK 85 true (pureT k_G_decay_late g_G_decay_late)
set_option maxRecDepth 100000 in
def G_decay_late_t (u10 : Int) (u11 : List Nat) (u12 : Int) (u13 : Int) (u9 : List (List Int)) (u14 : List (List Int)) (u7 : Int) : T (Int × Int) :=
 .obT
  (.call (y60 u10 u11 u12 u13 u9 u14 u7) fun r0 =>
  .obP ((0 : Int) ≤ r0 ∧ r0 < (↑(List.length u14) : Int))
  (.obP (Int.toNat r0 < List.length u14)
  (.obT
  (.rc (((List.getD (List.getD u14 (Int.toNat r0) []) (0 : Nat) (0 : Int), List.getD (List.getD u14 (Int.toNat r0) []) (1 : Nat) (0 : Int))))))))
set_option maxRecDepth 100000 in
theorem G_decay_late_vc (u10 : Int) (u11 : List Nat) (u12 : Int) (u13 : Int) (u9 : List (List Int)) (u14 : List (List Int)) (u7 : Int) (r : Int × Int) (h : Option.bind (y62 u10 u11 u12 u13 u9 u14 u7) some = some r) : runT Tryd.f85 ((sp_86 sp0)) (fun _ _ _ => none) (bldD k_G_decay_late [.d (.i .i64 u10), .r (.floats .f32 u11), .d (.i .i64 u12), .d (.i .i64 u13), .r (.recs 2 u9), .r (.recs 2 u14), .d (.i .i64 u7)]) [.s [.d (.i .i64 r.1), .d (.i .i64 r.2)]] :=
  T.vc (t := G_decay_late_t u10 u11 u12 u13 u9 u14 u7) (by kernel_rfl) (by kernel_rfl) h
set_option maxRecDepth 100000 in
theorem G_decay_late_ok : SpecOK Tryd.prog 85 true (pureT k_G_decay_late g_G_decay_late) := by
  refine pureT_ok (sp := (sp_86 sp0)) (fn := Tryd.f85) (body := bodyOf Tryd.f85) mixed (sp_86_ok sp0_ok) Tryd.func85 (by kernel_rfl) (by kernel_rfl) fun ls t h ho b hb => ?_
  unfold g_G_decay_late at h
  split at h
  · rename_i u10 u11 u12 u13 u9 u14 u7
    cases h
    obtain rfl := bld_eq hb
    exact ⟨Nat.le_of_ble_eq_true (by kernel_rfl), _, _, G_decay_late_vc u10 u11 u12 u13 u9 u14 u7 _ (ok_some ho)⟩
  · cases h
theorem sp_85_ok {sp : Specs} (h : SpecsOK Tryd.prog sp) : SpecsOK Tryd.prog (sp_85 sp) := addK_ok G_decay_late_ok h
def y129 : List SV := [.c (.p [.d, .r (.floats .f32 []), .d, .d, .r (.recs 2 []), .r (.recs 2 [])]), .c (.d)]
def y36 (u10 : Int) (u11 : List Nat) (u12 : Int) (u13 : Int) (u9 : List (List Int)) (u14 : List (List Int)) (u7 : Int) : Option (Int × Int × Int) :=
  Option.bind (y55 u10 u11 u12 u13 u9 u14 u7) fun r0 =>
  Option.bind (y62 u10 u11 u12 u13 u9 u14 u7) fun r1 =>
  Option.bind (y60 u10 u11 u12 u13 u9 u14 u7) fun r2 =>
  if (r2 == (↑(List.length u9) : Int)) = true then
   some (((0 : Int), (0 : Int), (12 : Int)))
  else
   if (r0.1 == (0 : Int)) = true then
    some (((0 : Int), (0 : Int), (11 : Int)))
   else
    if (r1.1 == (0 : Int)) = true then
     some (((0 : Int), (0 : Int), (11 : Int)))
    else
     Option.bind (y81 r0.1 r1.2) fun r3 =>
     Option.bind (y81 r0.2 r1.1) fun r4 =>
     Option.bind (y25 [r3.2.2, r4.2.2]) fun r5 =>
     if (r5 != (0 : Int)) = true then
      some (((0 : Int), (0 : Int), r5))
     else
      some ((r3.1, r4.2.1, (0 : Int)))
def y130 : List Lf → Option GT
  | [.d (.i .i64 u10), .r (.floats .f32 u11), .d (.i .i64 u12), .d (.i .i64 u13), .r (.recs 2 u9), .r (.recs 2 u14), .d (.i .i64 u7)] => some (.leaf (ok (y36 u10 u11 u12 u13 u9 u14 u7)) [.s [.d (.i .i64 ((val (y36 u10 u11 u12 u13 u9 u14 u7)).1)), .d (.i .i64 ((val (y36 u10 u11 u12 u13 u9 u14 u7)).2.1))], .c (.d (.i .i64 ((val (y36 u10 u11 u12 u13 u9 u14 u7)).2.2)))])
  | _ => none
abbrev sp_58 : Specs → Specs := addK 58 true (pureT y129 y130)
set_option maxRecDepth 100000 in
def G_decay_clarity_t (u10 : Int) (u11 : List Nat) (u12 : Int) (u13 : Int) (u9 : List (List Int)) (u14 : List (List Int)) (u7 : Int) : T (Int × Int × Int) :=
 .call (y55 u10 u11 u12 u13 u9 u14 u7) fun r0 =>
  .call (y62 u10 u11 u12 u13 u9 u14 u7) fun r1 =>
  .call (y60 u10 u11 u12 u13 u9 u14 u7) fun r2 =>
  .obT
  (.brB (r2 == (↑(List.length u9) : Int))
  (.obT
  (.obT
  (.rc ((((0 : Int), (0 : Int), (12 : Int)))))))
  (.brB (r0.1 == (0 : Int))
  (.obT
  (.obT
  (.rc ((((0 : Int), (0 : Int), (11 : Int)))))))
  (.brB (r1.1 == (0 : Int))
  (.obT
  (.obT
  (.rc ((((0 : Int), (0 : Int), (11 : Int)))))))
  (.call (y81 r0.1 r1.2) fun r3 =>
  .call (y81 r0.2 r1.1) fun r4 =>
  .call (y25 [r3.2.2, r4.2.2]) fun r5 =>
  .brB (r5 != (0 : Int))
  (.obT
  (.obT
  (.rc ((((0 : Int), (0 : Int), r5))))))
  (.obT
  (.obT
  (.rc (((r3.1, r4.2.1, (0 : Int)))))))))))
set_option maxRecDepth 100000 in
theorem G_decay_clarity_vc (u10 : Int) (u11 : List Nat) (u12 : Int) (u13 : Int) (u9 : List (List Int)) (u14 : List (List Int)) (u7 : Int) (r : Int × Int × Int) (h : Option.bind (y36 u10 u11 u12 u13 u9 u14 u7) some = some r) : runT Tryd.f58 ((sp_66 (sp_85 (sp_86 (sp_9 (sp_47 sp0)))))) (fun _ _ _ => none) (bldD y129 [.d (.i .i64 u10), .r (.floats .f32 u11), .d (.i .i64 u12), .d (.i .i64 u13), .r (.recs 2 u9), .r (.recs 2 u14), .d (.i .i64 u7)]) [.s [.d (.i .i64 r.1), .d (.i .i64 r.2.1)], .c (.d (.i .i64 r.2.2))] :=
  T.vc (t := G_decay_clarity_t u10 u11 u12 u13 u9 u14 u7) (by kernel_rfl) (by kernel_rfl) h
set_option maxRecDepth 100000 in
theorem G_decay_clarity_ok : SpecOK Tryd.prog 58 true (pureT y129 y130) := by
  refine pureT_ok (sp := (sp_66 (sp_85 (sp_86 (sp_9 (sp_47 sp0)))))) (fn := Tryd.f58) (body := bodyOf Tryd.f58) mixed (sp_66_ok (sp_85_ok (sp_86_ok (sp_9_ok (sp_47_ok sp0_ok))))) Tryd.func58 (by kernel_rfl) (by kernel_rfl) fun ls t h ho b hb => ?_
  unfold y130 at h
  split at h
  · rename_i u10 u11 u12 u13 u9 u14 u7
    cases h
    obtain rfl := bld_eq hb
    exact ⟨Nat.le_of_ble_eq_true (by kernel_rfl), _, _, G_decay_clarity_vc u10 u11 u12 u13 u9 u14 u7 _ (ok_some ho)⟩
  · cases h
theorem sp_58_ok {sp : Specs} (h : SpecsOK Tryd.prog sp) : SpecsOK Tryd.prog (sp_58 sp) := addK_ok G_decay_clarity_ok h
def k_G_Clarity : List SV := [.a [.d, .r (.floats .f32 []), .d, .d], .c (.d)]
def y48 (u4 : Int) (u5 : List Nat) (u0 : Int) (u6 : Int) (u7 : Int) : Option (Int × Int × Int) :=
  if ((val (G_open u4 u5 u0 u6)).1 != (0 : Int)) = true then
   Option.bind (G_open u4 u5 u0 u6) fun r0 =>
   Option.bind (y63 u7) fun r1 =>
   Option.bind (y25 [r0.1, r1]) fun r2 =>
   if (r2 != (0 : Int)) = true then
    some (((0 : Int), (0 : Int), r2))
   else
    none   else
   Option.bind (G_open u4 u5 u0 u6) fun r0 =>
   Option.bind (y63 u7) fun r1 =>
   Option.bind (y25 [(0 : Int), r1]) fun r3 =>
   if (r3 != (0 : Int)) = true then
    some (((0 : Int), (0 : Int), r3))
   else
    Option.bind (y36 u4 u5 u0 u6 r0.2.1 r0.2.2 u7) fun r4 =>
    some (r4.1, r4.2.1, r4.2.2)
def g_G_Clarity : List Lf → Option GT
  | [.d (.i .i64 u4), .r (.floats .f32 u5), .d (.i .i64 u0), .d (.i .i64 u6), .d (.i .i64 u7)] => some (.leaf (ok (y48 u4 u5 u0 u6 u7)) [.s [.d (.i .i64 ((val (y48 u4 u5 u0 u6 u7)).1)), .d (.i .i64 ((val (y48 u4 u5 u0 u6 u7)).2.1))], .c (.d (.i .i64 ((val (y48 u4 u5 u0 u6 u7)).2.2)))])
  | _ => none
abbrev sp_27 : Specs → Specs := addK 27 true (pureT k_G_Clarity g_G_Clarity)
set_option maxRecDepth 100000 in
def G_Clarity_t (u4 : Int) (u5 : List Nat) (u0 : Int) (u6 : Int) (u7 : Int) : T (Int × Int × Int) :=
 .brB ((val (G_open u4 u5 u0 u6)).1 != (0 : Int))
  (.call (G_open u4 u5 u0 u6) fun r0 =>
  .call (y63 u7) fun r1 =>
  .call (y25 [r0.1, r1]) fun r2 =>
  .brB (r2 != (0 : Int))
  (.obT
  (.obT
  (.rc ((((0 : Int), (0 : Int), r2))))))
  (.bad (fun r => False)))
  (.call (G_open u4 u5 u0 u6) fun r0 =>
  .call (y63 u7) fun r1 =>
  .call (y25 [(0 : Int), r1]) fun r3 =>
  .brB (r3 != (0 : Int))
  (.obT
  (.obT
  (.rc ((((0 : Int), (0 : Int), r3))))))
  (.call (y36 u4 u5 u0 u6 r0.2.1 r0.2.2 u7) fun r4 =>
  .obT
  (.obT
  (.rc ((r4.1, r4.2.1, r4.2.2))))))
set_option maxRecDepth 100000 in
theorem G_Clarity_vc (u4 : Int) (u5 : List Nat) (u0 : Int) (u6 : Int) (u7 : Int) (r : Int × Int × Int) (h : Option.bind (y48 u4 u5 u0 u6 u7) some = some r) : runT Tryd.f27 ((sp_56 (sp_51 (sp_47 (sp_58 sp0))))) (fun _ _ _ => none) (bldD k_G_Clarity [.d (.i .i64 u4), .r (.floats .f32 u5), .d (.i .i64 u0), .d (.i .i64 u6), .d (.i .i64 u7)]) [.s [.d (.i .i64 r.1), .d (.i .i64 r.2.1)], .c (.d (.i .i64 r.2.2))] :=
  T.vc (t := G_Clarity_t u4 u5 u0 u6 u7) (by kernel_rfl) (by kernel_rfl) h
set_option maxRecDepth 100000 in
theorem G_Clarity_ok : SpecOK Tryd.prog 27 true (pureT k_G_Clarity g_G_Clarity) := by
  refine pureT_ok (sp := (sp_56 (sp_51 (sp_47 (sp_58 sp0))))) (fn := Tryd.f27) (body := bodyOf Tryd.f27) mixed (sp_56_ok (sp_51_ok (sp_47_ok (sp_58_ok sp0_ok)))) Tryd.func27 (by kernel_rfl) (by kernel_rfl) fun ls t h ho b hb => ?_
  unfold g_G_Clarity at h
  split at h
  · rename_i u4 u5 u0 u6 u7
    cases h
    obtain rfl := bld_eq hb
    exact ⟨Nat.le_of_ble_eq_true (by kernel_rfl), _, _, G_Clarity_vc u4 u5 u0 u6 u7 _ (ok_some ho)⟩
  · cases h
theorem sp_27_ok {sp : Specs} (h : SpecsOK Tryd.prog sp) : SpecsOK Tryd.prog (sp_27 sp) := addK_ok G_Clarity_ok h
def y101 : List SV := [.c (.p [.d, .r (.floats .f32 []), .d, .d, .r (.recs 2 []), .r (.recs 2 [])]), .c (.d)]
def y23 (u10 : Int) (u11 : List Nat) (u12 : Int) (u13 : Int) (u9 : List (List Int)) (u14 : List (List Int)) (u7 : Int) : Option (Int × Int × Int) :=
  Option.bind (y55 u10 u11 u12 u13 u9 u14 u7) fun r0 =>
  Option.bind (y62 u10 u11 u12 u13 u9 u14 u7) fun r1 =>
  if (r0.1 == (0 : Int)) = true then
   if (r1.1 == (0 : Int)) = true then
    some (((0 : Int), (0 : Int), (11 : Int)))
   else
    if IntKind.wrap .i64 (r0.1 + r1.2) ≠ (0 : Int) then
     Option.bind (G_ceil (IntKind.wrap .i64 ((1000 : Int) * r0.2)) (IntKind.wrap .i64 (r0.2 + r1.1))) fun r2 =>
     some ((IntKind.wrap .i64 (Int.tdiv (IntKind.wrap .i64 ((1000 : Int) * r0.1)) (IntKind.wrap .i64 (r0.1 + r1.2))), r2, (0 : Int)))
    else none
  else
   if IntKind.wrap .i64 (r0.1 + r1.2) ≠ (0 : Int) then
    Option.bind (G_ceil (IntKind.wrap .i64 ((1000 : Int) * r0.2)) (IntKind.wrap .i64 (r0.2 + r1.1))) fun r2 =>
    some ((IntKind.wrap .i64 (Int.tdiv (IntKind.wrap .i64 ((1000 : Int) * r0.1)) (IntKind.wrap .i64 (r0.1 + r1.2))), r2, (0 : Int)))
   else none
def y102 : List Lf → Option GT
  | [.d (.i .i64 u10), .r (.floats .f32 u11), .d (.i .i64 u12), .d (.i .i64 u13), .r (.recs 2 u9), .r (.recs 2 u14), .d (.i .i64 u7)] => some (.leaf (ok (y23 u10 u11 u12 u13 u9 u14 u7)) [.s [.d (.i .i64 ((val (y23 u10 u11 u12 u13 u9 u14 u7)).1)), .d (.i .i64 ((val (y23 u10 u11 u12 u13 u9 u14 u7)).2.1))], .c (.d (.i .i64 ((val (y23 u10 u11 u12 u13 u9 u14 u7)).2.2)))])
  | _ => none
abbrev sp_59 : Specs → Specs := addK 59 true (pureT y101 y102)
set_option maxRecDepth 100000 in
def G_decay_definition_t (u10 : Int) (u11 : List Nat) (u12 : Int) (u13 : Int) (u9 : List (List Int)) (u14 : List (List Int)) (u7 : Int) : T (Int × Int × Int) :=
 .call (y55 u10 u11 u12 u13 u9 u14 u7) fun r0 =>
  .call (y62 u10 u11 u12 u13 u9 u14 u7) fun r1 =>
  .brB (r0.1 == (0 : Int))
  (.brB (r1.1 == (0 : Int))
  (.obT
  (.obT
  (.rc ((((0 : Int), (0 : Int), (11 : Int)))))))
  (.obP (IntKind.wrap .i64 (r0.1 + r1.2) ≠ (0 : Int))
  (.call (G_ceil (IntKind.wrap .i64 ((1000 : Int) * r0.2)) (IntKind.wrap .i64 (r0.2 + r1.1))) fun r2 =>
  .obT
  (.obT
  (.rc (((IntKind.wrap .i64 (Int.tdiv (IntKind.wrap .i64 ((1000 : Int) * r0.1)) (IntKind.wrap .i64 (r0.1 + r1.2))), r2, (0 : Int)))))))))
  (.obP (IntKind.wrap .i64 (r0.1 + r1.2) ≠ (0 : Int))
  (.call (G_ceil (IntKind.wrap .i64 ((1000 : Int) * r0.2)) (IntKind.wrap .i64 (r0.2 + r1.1))) fun r2 =>
  .obT
  (.obT
  (.rc (((IntKind.wrap .i64 (Int.tdiv (IntKind.wrap .i64 ((1000 : Int) * r0.1)) (IntKind.wrap .i64 (r0.1 + r1.2))), r2, (0 : Int))))))))
set_option maxRecDepth 100000 in
theorem G_decay_definition_vc (u10 : Int) (u11 : List Nat) (u12 : Int) (u13 : Int) (u9 : List (List Int)) (u14 : List (List Int)) (u7 : Int) (r : Int × Int × Int) (h : Option.bind (y23 u10 u11 u12 u13 u9 u14 u7) some = some r) : runT Tryd.f59 ((sp_66 (sp_85 (sp_81 sp0)))) (fun _ _ _ => none) (bldD y101 [.d (.i .i64 u10), .r (.floats .f32 u11), .d (.i .i64 u12), .d (.i .i64 u13), .r (.recs 2 u9), .r (.recs 2 u14), .d (.i .i64 u7)]) [.s [.d (.i .i64 r.1), .d (.i .i64 r.2.1)], .c (.d (.i .i64 r.2.2))] :=
  T.vc (t := G_decay_definition_t u10 u11 u12 u13 u9 u14 u7) (by kernel_rfl) (by kernel_rfl) h
set_option maxRecDepth 100000 in
theorem G_decay_definition_ok : SpecOK Tryd.prog 59 true (pureT y101 y102) := by
  refine pureT_ok (sp := (sp_66 (sp_85 (sp_81 sp0)))) (fn := Tryd.f59) (body := bodyOf Tryd.f59) mixed (sp_66_ok (sp_85_ok (sp_81_ok sp0_ok))) Tryd.func59 (by kernel_rfl) (by kernel_rfl) fun ls t h ho b hb => ?_
  unfold y102 at h
  split at h
  · rename_i u10 u11 u12 u13 u9 u14 u7
    cases h
    obtain rfl := bld_eq hb
    exact ⟨Nat.le_of_ble_eq_true (by kernel_rfl), _, _, G_decay_definition_vc u10 u11 u12 u13 u9 u14 u7 _ (ok_some ho)⟩
  · cases h
theorem sp_59_ok {sp : Specs} (h : SpecsOK Tryd.prog sp) : SpecsOK Tryd.prog (sp_59 sp) := addK_ok G_decay_definition_ok h
def y103 : List SV := [.a [.d, .r (.floats .f32 []), .d, .d], .c (.d)]
def y7 (u4 : Int) (u5 : List Nat) (u0 : Int) (u6 : Int) (u7 : Int) : Option (Int × Int × Int) :=
  if ((val (G_open u4 u5 u0 u6)).1 != (0 : Int)) = true then
   Option.bind (G_open u4 u5 u0 u6) fun r0 =>
   Option.bind (y63 u7) fun r1 =>
   Option.bind (y25 [r0.1, r1]) fun r2 =>
   if (r2 != (0 : Int)) = true then
    some (((0 : Int), (0 : Int), r2))
   else
    none   else
   Option.bind (G_open u4 u5 u0 u6) fun r0 =>
   Option.bind (y63 u7) fun r1 =>
   Option.bind (y25 [(0 : Int), r1]) fun r3 =>
   if (r3 != (0 : Int)) = true then
    some (((0 : Int), (0 : Int), r3))
   else
    Option.bind (y23 u4 u5 u0 u6 r0.2.1 r0.2.2 u7) fun r4 =>
    some (r4.1, r4.2.1, r4.2.2)
def y104 : List Lf → Option GT
  | [.d (.i .i64 u4), .r (.floats .f32 u5), .d (.i .i64 u0), .d (.i .i64 u6), .d (.i .i64 u7)] => some (.leaf (ok (y7 u4 u5 u0 u6 u7)) [.s [.d (.i .i64 ((val (y7 u4 u5 u0 u6 u7)).1)), .d (.i .i64 ((val (y7 u4 u5 u0 u6 u7)).2.1))], .c (.d (.i .i64 ((val (y7 u4 u5 u0 u6 u7)).2.2)))])
  | _ => none
abbrev sp_28 : Specs → Specs := addK 28 true (pureT y103 y104)
set_option maxRecDepth 100000 in
def G_DefinitionWithin_t (u4 : Int) (u5 : List Nat) (u0 : Int) (u6 : Int) (u7 : Int) : T (Int × Int × Int) :=
 .brB ((val (G_open u4 u5 u0 u6)).1 != (0 : Int))
  (.call (G_open u4 u5 u0 u6) fun r0 =>
  .call (y63 u7) fun r1 =>
  .call (y25 [r0.1, r1]) fun r2 =>
  .brB (r2 != (0 : Int))
  (.obT
  (.obT
  (.rc ((((0 : Int), (0 : Int), r2))))))
  (.bad (fun r => False)))
  (.call (G_open u4 u5 u0 u6) fun r0 =>
  .call (y63 u7) fun r1 =>
  .call (y25 [(0 : Int), r1]) fun r3 =>
  .brB (r3 != (0 : Int))
  (.obT
  (.obT
  (.rc ((((0 : Int), (0 : Int), r3))))))
  (.call (y23 u4 u5 u0 u6 r0.2.1 r0.2.2 u7) fun r4 =>
  .obT
  (.obT
  (.rc ((r4.1, r4.2.1, r4.2.2))))))
set_option maxRecDepth 100000 in
theorem G_DefinitionWithin_vc (u4 : Int) (u5 : List Nat) (u0 : Int) (u6 : Int) (u7 : Int) (r : Int × Int × Int) (h : Option.bind (y7 u4 u5 u0 u6 u7) some = some r) : runT Tryd.f28 ((sp_56 (sp_51 (sp_47 (sp_59 sp0))))) (fun _ _ _ => none) (bldD y103 [.d (.i .i64 u4), .r (.floats .f32 u5), .d (.i .i64 u0), .d (.i .i64 u6), .d (.i .i64 u7)]) [.s [.d (.i .i64 r.1), .d (.i .i64 r.2.1)], .c (.d (.i .i64 r.2.2))] :=
  T.vc (t := G_DefinitionWithin_t u4 u5 u0 u6 u7) (by kernel_rfl) (by kernel_rfl) h
set_option maxRecDepth 100000 in
theorem G_DefinitionWithin_ok : SpecOK Tryd.prog 28 true (pureT y103 y104) := by
  refine pureT_ok (sp := (sp_56 (sp_51 (sp_47 (sp_59 sp0))))) (fn := Tryd.f28) (body := bodyOf Tryd.f28) mixed (sp_56_ok (sp_51_ok (sp_47_ok (sp_59_ok sp0_ok)))) Tryd.func28 (by kernel_rfl) (by kernel_rfl) fun ls t h ho b hb => ?_
  unfold y104 at h
  split at h
  · rename_i u4 u5 u0 u6 u7
    cases h
    obtain rfl := bld_eq hb
    exact ⟨Nat.le_of_ble_eq_true (by kernel_rfl), _, _, G_DefinitionWithin_vc u4 u5 u0 u6 u7 _ (ok_some ho)⟩
  · cases h
theorem sp_28_ok {sp : Specs} (h : SpecsOK Tryd.prog sp) : SpecsOK Tryd.prog (sp_28 sp) := addK_ok G_DefinitionWithin_ok h
def k_G_Transfer : List SV := [.a [.d, .r (.floats .f32 [])], .c (.d)]
def y105 (u16 : Int) (u15 : List Nat) (u36 : Int) : Option (Int × Int × Int) :=
  if ((val (G_openBlock u16 u15 u36)).1 != (0 : Int)) = true then
   Option.bind (G_openBlock u16 u15 u36) fun r0 =>
   if (r0.2.1 != (0 : Int)) = true then
    some (((0 : Int), (0 : Int), r0.2.1))
   else
    none   else
   Option.bind (G_openBlock u16 u15 u36) fun r0 =>
   if (r0.2.1 != (0 : Int)) = true then
    some (((0 : Int), (0 : Int), r0.2.1))
   else
    if (0 : Int) ≤ (0 : Int) ∧ (0 : Int) < (↑(List.length r0.2.2.2) : Int) then
     if (0 : Nat) < List.length r0.2.2.2 then
      if List.getD (List.getD r0.2.2.2 (0 : Nat) []) (0 : Nat) (0 : Int) > (1000000000 : Int) then
       some (((0 : Int), (0 : Int), (8 : Int)))
      else
       Option.bind (y91 u16 u15 (0 : Int) (0 : Int) r0.2.2.1 r0.2.2.2 u36) fun r1 =>
       Option.bind (G_share (IntKind.wrap .i64 (IntKind.wrap .i64 (r1.1 * r1.1) + IntKind.wrap .i64 (r1.2 * r1.2))) (IntKind.wrap .i64 (List.getD (List.getD r0.2.2.2 (0 : Nat) []) (0 : Nat) (0 : Int) * List.getD (List.getD r0.2.2.2 (0 : Nat) []) (0 : Nat) (0 : Int)))) fun r2 =>
       some (r2.1, r2.2.1, r2.2.2)
     else none
    else none
def g_G_Transfer : List Lf → Option GT
  | [.d (.i .i64 u16), .r (.floats .f32 u15), .d (.i .i64 u36)] => some (.leaf (ok (y105 u16 u15 u36)) [.s [.d (.i .i64 ((val (y105 u16 u15 u36)).1)), .d (.i .i64 ((val (y105 u16 u15 u36)).2.1))], .c (.d (.i .i64 ((val (y105 u16 u15 u36)).2.2)))])
  | _ => none
abbrev sp_36 : Specs → Specs := addK 36 true (pureT k_G_Transfer g_G_Transfer)
set_option maxRecDepth 100000 in
def G_Transfer_t (u16 : Int) (u15 : List Nat) (u36 : Int) : T (Int × Int × Int) :=
 .brB ((val (G_openBlock u16 u15 u36)).1 != (0 : Int))
  (.call (G_openBlock u16 u15 u36) fun r0 =>
  .brB (r0.2.1 != (0 : Int))
  (.obT
  (.obT
  (.rc ((((0 : Int), (0 : Int), r0.2.1))))))
  (.bad (fun r => False)))
  (.call (G_openBlock u16 u15 u36) fun r0 =>
  .brB (r0.2.1 != (0 : Int))
  (.obT
  (.obT
  (.rc ((((0 : Int), (0 : Int), r0.2.1))))))
  (.obP ((0 : Int) ≤ (0 : Int) ∧ (0 : Int) < (↑(List.length r0.2.2.2) : Int))
  (.obP ((0 : Nat) < List.length r0.2.2.2)
  (.brP (List.getD (List.getD r0.2.2.2 (0 : Nat) []) (0 : Nat) (0 : Int) > (1000000000 : Int))
  (.obT
  (.obT
  (.rc ((((0 : Int), (0 : Int), (8 : Int)))))))
  (.call (y91 u16 u15 (0 : Int) (0 : Int) r0.2.2.1 r0.2.2.2 u36) fun r1 =>
  .call (G_share (IntKind.wrap .i64 (IntKind.wrap .i64 (r1.1 * r1.1) + IntKind.wrap .i64 (r1.2 * r1.2))) (IntKind.wrap .i64 (List.getD (List.getD r0.2.2.2 (0 : Nat) []) (0 : Nat) (0 : Int) * List.getD (List.getD r0.2.2.2 (0 : Nat) []) (0 : Nat) (0 : Int)))) fun r2 =>
  .obT
  (.obT
  (.rc ((r2.1, r2.2.1, r2.2.2)))))))))
set_option maxRecDepth 100000 in
theorem G_Transfer_vc (u16 : Int) (u15 : List Nat) (u36 : Int) (r : Int × Int × Int) (h : Option.bind (y105 u16 u15 u36) some = some r) : runT Tryd.f36 ((sp_67 (sp_68 (sp_65 sp0)))) (fun _ _ _ => none) (bldD k_G_Transfer [.d (.i .i64 u16), .r (.floats .f32 u15), .d (.i .i64 u36)]) [.s [.d (.i .i64 r.1), .d (.i .i64 r.2.1)], .c (.d (.i .i64 r.2.2))] :=
  T.vc (t := G_Transfer_t u16 u15 u36) (by kernel_rfl) (by kernel_rfl) h
set_option maxRecDepth 100000 in
theorem G_Transfer_ok : SpecOK Tryd.prog 36 true (pureT k_G_Transfer g_G_Transfer) := by
  refine pureT_ok (sp := (sp_67 (sp_68 (sp_65 sp0)))) (fn := Tryd.f36) (body := bodyOf Tryd.f36) mixed (sp_67_ok (sp_68_ok (sp_65_ok sp0_ok))) Tryd.func36 (by kernel_rfl) (by kernel_rfl) fun ls t h ho b hb => ?_
  unfold g_G_Transfer at h
  split at h
  · rename_i u16 u15 u36
    cases h
    obtain rfl := bld_eq hb
    exact ⟨Nat.le_of_ble_eq_true (by kernel_rfl), _, _, G_Transfer_vc u16 u15 u36 _ (ok_some ho)⟩
  · cases h
theorem sp_36_ok {sp : Specs} (h : SpecsOK Tryd.prog sp) : SpecsOK Tryd.prog (sp_36 sp) := addK_ok G_Transfer_ok h
end Go.Sh
end

section
namespace Go.Sh
open Go Go.Proofs Go.RowKit Go.Sx Go.Sx06 Ieee Go.Fl
def seg (zs : List (List Int)) (a b : Nat) : List (List Int) := (zs.drop a).take (b - a)
theorem seg_ok {zs : List (List Int)} (h : ∀ r ∈ zs, okZ r) (a b : Nat) : ∀ r ∈ seg zs a b, okZ r := fun r hr => h r (List.mem_of_mem_drop (List.mem_of_mem_take hr))
theorem take_snoc {L : List (List Int)} {i : Nat} (hi : i < L.length) : L.take (i + 1) = L.take i ++ [L.getD i []] := by
  rw [List.take_succ_eq_append_getElem hi]
  simp [List.getD, hi]
theorem sLo_snoc (a : List (List Int)) (r : List Int) : sLo (a ++ [r]) = sLo a + r.getD 0 0 := by rw [sLo_append]; simp [sLo]
theorem sHi_snoc (a : List (List Int)) (r : List Int) : sHi (a ++ [r]) = sHi a + r.getD 1 0 := by rw [sHi_append]; simp [sHi]
theorem energyG_eq {zs ss : List (List Int)} {rate noise tail : Int} {l : List Nat} {a b : Nat} (hz : ∀ r ∈ zs, okZ r) (hl : zs.length ≤ 1024) (hab : a ≤ b) (hb : b ≤ zs.length) :
    y56 rate l noise tail zs ss (a : Int) (b : Int) = some (sLo (seg zs a b), sHi (seg zs a b)) := by
  unfold y56
  simp only [Option.getD_some]
  rw [if_pos (by omega)]
  have hsl : (seg zs a b).length = b - a := by unfold seg; simp; omega
  have hok := seg_ok hz a b
  have hit : iter (y41 zs (a : Int) (b : Int)) big (0, 0, 0) = some (sLo (seg zs a b), sHi (seg zs a b)) := by
    have h := iter_upto (body := y41 zs (a : Int) (b : Int)) (fun i => ((i : Int), sLo ((seg zs a b).take i), sHi ((seg zs a b).take i))) (k := (seg zs a b).length) (y := (sLo (seg zs a b), sHi (seg zs a b)))
      (fun i hi => by
        have hr := s_range (zs := (seg zs a b).take i) fun r hr => hok r (List.mem_of_mem_take hr)
        have hlen : (((seg zs a b).take i).length : Int) ≤ 1024 := by rw [List.length_take]; omega
        have ho := hok ((seg zs a b).getD i []) (by simp [List.getD, hi])
        unfold okZ at ho
        unfold y41 G_plus
        simp only [Option.getD_some, Int.toNat_natCast]
        change (if (i : Int) < ((seg zs a b).length : Int) then _ else _) = _
        rw [if_pos (by omega), if_pos (by show (0 : Int) ≤ i ∧ (i : Int) < ((seg zs a b).length : Int); omega), if_pos (by exact hi), bind_some', take_snoc hi, sLo_snoc, sHi_snoc]
        change some (Sum.inl (IntKind.wrap .i64 ((i : Int) + 1), IntKind.wrap .i64 (sLo ((seg zs a b).take i) + ((seg zs a b).getD i []).getD 0 0), IntKind.wrap .i64 (sHi ((seg zs a b).take i) + ((seg zs a b).getD i []).getD 1 0))) = _
        rw [wr64 (x := (i : Int) + 1) (by omega), wr64 (by omega), wr64 (by omega)]
        rfl)
      (by
        unfold y41
        simp only [Option.getD_some, Int.toNat_natCast]
        change (if ((seg zs a b).length : Int) < ((seg zs a b).length : Int) then _ else _) = _
        rw [if_neg (by omega), List.take_length]) (by omega)
    simpa [sLo, sHi] using h
  rw [hit]
  rfl
def nAt (rate time : Int) : Int := (time * rate + 999999) / 1000000
theorem time_rate {rate time : Int} (hr : 8000 ≤ rate ∧ rate ≤ 192000) (ht : 0 ≤ time ∧ time ≤ 1000000) : 0 ≤ time * rate ∧ time * rate ≤ 192000000000 :=
  ⟨Int.mul_nonneg ht.1 (by omega), by have := Int.mul_le_mul ht.2 hr.2 (by omega) (by omega); omega⟩
theorem nAt_range {rate time : Int} (hr : 8000 ≤ rate ∧ rate ≤ 192000) (ht : 0 ≤ time ∧ time ≤ 1000000) : 0 ≤ nAt rate time ∧ nAt rate time ≤ 192000 := by
  have h := time_rate hr ht
  unfold nAt
  omega
theorem numberAt_eq {rate time : Int} (hr : 8000 ≤ rate ∧ rate ≤ 192000) (ht : 0 ≤ time ∧ time ≤ 1000000) : y99 rate time = some (nAt rate time) := by
  have h := time_rate hr ht
  unfold y99 nAt
  rw [wr64 (by omega), ceilG_eq (by omega) h.1 (by omega), bind_some', show time * rate + 1000000 - 1 = time * rate + 999999 by omega]
theorem timeErrG_eq (time : Int) : y63 time = some (if 0 ≤ time ∧ time ≤ 1000000 then 0 else 2) := by
  unfold y63
  rw [withinG_eq, bind_some', unless_eq, bind_some']
  by_cases h : 0 ≤ time ∧ time ≤ 1000000 <;> simp [h]
theorem timeErrR_eq (time : Int) : y90 time = some (if 0 ≤ time ∧ time ≤ 1000000 then 0 else 2) := by
  unfold y90
  rw [withinB_eq, bind_some']
  by_cases h : 0 ≤ time ∧ time ≤ 1000000
  · rw [nd_t h, if_neg Bool.false_ne_true, if_pos h]
  · rw [nd_f h, if_pos rfl, if_neg h]
def cutN (rate time : Int) (n : Nat) : Nat := min n (nAt rate time).toNat
theorem cutN_le (rate time : Int) (n : Nat) : cutN rate time n ≤ n := Nat.min_le_left _ _
theorem cut_min {rate time : Int} (n : Nat) (hr : 8000 ≤ rate ∧ rate ≤ 192000) (ht : 0 ≤ time ∧ time ≤ 1000000) : (if nAt rate time < (n : Int) then nAt rate time else (n : Int)) = (cutN rate time n : Int) ∧ (if (n : Int) < nAt rate time then (n : Int) else nAt rate time) = (cutN rate time n : Int) := by
  have := nAt_range hr ht
  unfold cutN
  constructor <;> split <;> omega
theorem cutG_eq {rate noise tail time : Int} {l : List Nat} {zs ss : List (List Int)} (hr : 8000 ≤ rate ∧ rate ≤ 192000) (ht : 0 ≤ time ∧ time ≤ 1000000) : y60 rate l noise tail zs ss time = some (cutN rate time zs.length : Int) := by
  unfold y60
  rw [numberAt_eq hr ht, bind_some', (cut_min zs.length hr ht).1]
theorem earlyG_eq {rate noise tail time : Int} {l : List Nat} {zs ss : List (List Int)} (hz : ∀ r ∈ zs, okZ r) (hl : zs.length ≤ 1024) (hr : 8000 ≤ rate ∧ rate ≤ 192000) (ht : 0 ≤ time ∧ time ≤ 1000000) :
    y55 rate l noise tail zs ss time = some (sLo (zs.take (cutN rate time zs.length)), sHi (zs.take (cutN rate time zs.length))) := by
  unfold y55
  have h := energyG_eq (rate := rate) (noise := noise) (tail := tail) (l := l) (ss := ss) (a := 0) hz hl (Nat.zero_le _) (cutN_le rate time zs.length)
  have e : seg zs 0 (cutN rate time zs.length) = zs.take (cutN rate time zs.length) := by unfold seg; simp
  rw [e] at h
  have h : y56 rate l noise tail zs ss 0 (cutN rate time zs.length : Int) = _ := h
  rw [cutG_eq hr ht, bind_some', h]
  rfl
theorem lateG_eq {rate noise tail time T : Int} {l : List Nat} {zs : List (List Int)} (hr : 8000 ≤ rate ∧ rate ≤ 192000) (ht : 0 ≤ time ∧ time ≤ 1000000) :
    y62 rate l noise tail zs (ssO zs T) time = some (sLo (zs.drop (cutN rate time zs.length)), sHi (zs.drop (cutN rate time zs.length)) + T) := by
  have hc := cutN_le rate time zs.length
  unfold y62
  rw [cutG_eq hr ht, bind_some', ssO_len, if_pos (by omega), Int.toNat_natCast, if_pos (by omega), ssO_get hc]
  rfl
end Go.Sh
end

section
namespace Go.Sh
open Go Go.Proofs Go.RowKit Go.Sx Go.Sx06 Ieee Go.Fl
def p10 (f : Int) : Int := 10 ^ f.toNat
theorem p10_cases {f : Int} (h : 0 ≤ f ∧ f ≤ 12) : f = 0 ∨ f = 1 ∨ f = 2 ∨ f = 3 ∨ f = 4 ∨ f = 5 ∨ f = 6 ∨ f = 7 ∨ f = 8 ∨ f = 9 ∨ f = 10 ∨ f = 11 ∨ f = 12 := by omega
theorem powers_eq {f : Int} (h : 0 ≤ f ∧ f ≤ 12) : powersT.getD f.toNat 0 = p10 f ∧ 1 ≤ p10 f ∧ p10 f ≤ 1000000000000 := by
  rcases p10_cases h with rfl | rfl | rfl | rfl | rfl | rfl | rfl | rfl | rfl | rfl | rfl | rfl | rfl <;> decide
theorem powers_len : powersT.length = 13 := rfl
def fB (s w f : Int) : Bool := decide (s * s * p10 f ≤ w * w)
theorem sqn {s M : Int} (h : 0 ≤ s ∧ s ≤ M) : 0 ≤ s * s ∧ s * s ≤ M * M := ⟨Int.mul_nonneg h.1 h.1, Int.mul_le_mul h.2 h.2 h.1 (by omega)⟩
theorem fallen_eq {s w f : Int} (hs : 0 ≤ s ∧ s ≤ 10000000000000) (hw : 0 ≤ w ∧ w ≤ 10000000000000) (hf : 0 ≤ f ∧ f ≤ 12) : y68 s w f = some (fB s w f) := by
  obtain ⟨hp, hp1, hp2⟩ := powers_eq hf
  have hss := sqn hs
  have hww := sqn hw
  unfold y68
  have es : IntKind.wrap IntKind.u64 s = s := by rw [u64m]; exact Int.emod_eq_of_lt hs.1 (by omega)
  have ew : IntKind.wrap IntKind.u64 w = w := by rw [u64m]; exact Int.emod_eq_of_lt hw.1 (by omega)
  rw [es, ew, powers_len]
  have m1 := mul64_all (x := s) (y := s) (by omega) (by omega) (by omega) (by omega)
  rw [m1, bind_some', if_pos (by omega), if_pos (by omega), hp]
  have hlo : IntKind.wrap IntKind.u64 (s * s) = s * s % 18446744073709551616 := u64m _
  rw [hlo]
  have hlr : 0 ≤ s * s % 18446744073709551616 ∧ s * s % 18446744073709551616 < 18446744073709551616 := by omega
  have m2 := mul64_all (x := s * s % 18446744073709551616) (y := p10 f) (by omega) (by omega) (by omega) (by omega)
  have m3 := mul64_all (x := w) (y := w) (by omega) (by omega) (by omega) (by omega)
  rw [m2, bind_some', m3, bind_some', if_pos (by omega), if_pos (by omega)]
  unfold y6 at m1 m2 m3
  have e1 := congrArg Prod.fst (Option.some.inj m1)
  have e2 := congrArg Prod.fst (Option.some.inj m2)
  have e3 := congrArg Prod.fst (Option.some.inj m3)
  dsimp only at e1 e2 e3
  rw [e1, e2, e3, u64m, u64m, u64m, u64m, slicesCmp_eq, bind_some']
  have hh : 0 ≤ s * s / 18446744073709551616 ∧ s * s / 18446744073709551616 ≤ 5421010 := by omega
  have hl2 : 0 ≤ s * s % 18446744073709551616 * p10 f / 18446744073709551616 ∧ s * s % 18446744073709551616 * p10 f / 18446744073709551616 ≤ 1000000000000 := by
    have h1 := Int.mul_nonneg hlr.1 (show 0 ≤ p10 f by omega)
    have h2 := Int.mul_le_mul (show s * s % 18446744073709551616 ≤ 18446744073709551616 by omega) hp2 (by omega) (by omega)
    constructor
    · exact Int.ediv_nonneg h1 (by omega)
    · omega
  have hm := Int.mul_nonneg hh.1 (show 0 ≤ p10 f by omega)
  have hm2 := Int.mul_le_mul hh.2 hp2 (show 0 ≤ p10 f by omega) (by omega)
  have ex : s * s * p10 f = (s * s / 18446744073709551616 * p10 f + s * s % 18446744073709551616 * p10 f / 18446744073709551616) * 18446744073709551616 + s * s % 18446744073709551616 * p10 f % 18446744073709551616 := by
    have h0 : s * s = s * s / 18446744073709551616 * 18446744073709551616 + s * s % 18446744073709551616 := by omega
    have h1 : s * s * p10 f = s * s / 18446744073709551616 * p10 f * 18446744073709551616 + s * s % 18446744073709551616 * p10 f := by
      conv => lhs; rw [h0]
      rw [Int.add_mul, Int.mul_right_comm]
    omega
  have key := lex_eq (s * s * p10 f) (w * w)
  have q1 : s * s * p10 f / 18446744073709551616 = s * s / 18446744073709551616 * p10 f + s * s % 18446744073709551616 * p10 f / 18446744073709551616 := by omega
  have q2 : s * s * p10 f % 18446744073709551616 = s * s % 18446744073709551616 * p10 f % 18446744073709551616 := by omega
  have w1 : s * s / 18446744073709551616 * p10 f % 18446744073709551616 = s * s / 18446744073709551616 * p10 f := Int.emod_eq_of_lt hm (by omega)
  rw [w1]
  have w2 : (s * s / 18446744073709551616 * p10 f + s * s % 18446744073709551616 * p10 f / 18446744073709551616) % 18446744073709551616 = s * s / 18446744073709551616 * p10 f + s * s % 18446744073709551616 * p10 f / 18446744073709551616 := Int.emod_eq_of_lt (by omega) (by omega)
  rw [w2, ← q1, ← q2]
  first
    | rw [key]
    | (rw [show w * w % 18446744073709551616 = w * w % 18446744073709551616 from rfl, key])
  unfold fB
  by_cases h1 : s * s * p10 f < w * w
  · rw [if_pos h1, decide_eq_true (show s * s * p10 f ≤ w * w by omega)]; rfl
  · rw [if_neg h1]
    by_cases h2 : w * w < s * s * p10 f
    · rw [if_pos h2, decide_eq_false (show ¬ s * s * p10 f ≤ w * w by omega)]; rfl
    · rw [if_neg h2, decide_eq_true (show s * s * p10 f ≤ w * w by omega)]; rfl
end Go.Sh
end
