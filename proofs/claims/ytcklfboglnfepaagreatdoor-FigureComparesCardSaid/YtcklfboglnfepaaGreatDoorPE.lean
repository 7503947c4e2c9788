/- Part 5 of the proof of FigureComparesCard: the executor, the mirrors of the functions, the plain facts. -/
import Derived.Test.YtcklfboglnfepaaGreatDoorPD
import Derived.Shelf.Strings.OnBuilder
import Derived.Shelf.Strconv.Itoa3
set_option maxRecDepth 100000
set_option linter.unusedSectionVars false
set_option linter.unusedSimpArgs false
set_option linter.unusedVariables false
section
namespace Go.Sh
open Go Go.Proofs Go.RowKit Go.Sx
open Go.IntKind (wrap)
def jeg : List SV := [.a [.d, .r (.floats .f32 []), .d, .d]]
def y54 (u4 : Int) (u0 : List Nat) (u6 : Int) (u5 : Int) : Option (List (List Int) × Int) :=
 if ((val (jan u4 u0 u6 u5)).1 != 0) = true then
  Option.bind (jan u4 u0 u6 u5) fun r0 =>
  if (r0.1 != 0) = true then
  some ([], r0.1)
  else
  none   else
  Option.bind (jan u4 u0 u6 u5) fun r0 =>
  if 0 ≤ (↑(List.length r0.2.1) : Int) ∧ (↑(List.length r0.2.1) : Int) ≤ (↑(List.length r0.2.1) : Int) ∧ (↑(List.length r0.2.1) : Int) ≤ (↑(List.length r0.2.2) : Int) then
  some ((List.take (Int.toNat (↑(List.length r0.2.1) : Int) - 0) (List.drop (0 : Nat) r0.2.2), 0))
  else none
def jeh : List Lf → Option GT
 | [.d (.i .i64 u4), .r (.floats .f32 u0), .d (.i .i64 u6), .d (.i .i64 u5)] => some (.leaf (ok (y54 u4 u0 u6 u5)) [.c (.rrow (.recs 2 ((val (y54 u4 u0 u6 u5)).1))), .c (.d (.i .i64 ((val (y54 u4 u0 u6 u5)).2)))])
 | _ => none
abbrev sp_54 : jab → jab := jav 54 true (jal jeg jeh)
theorem jmX (u4 : Int) (u0 : List Nat) (u6 : Int) (u5 : Int) (r : List (List Int) × Int) (h : Option.bind (y54 u4 u0 u6 u5) some = some r) : ja0 Tryz.f54 ((sp_67 sp0)) (fun _ _ _ => none) (jaO jeg [.d (.i .i64 u4), .r (.floats .f32 u0), .d (.i .i64 u6), .d (.i .i64 u5)]) [.c (.rrow (.recs 2 r.1)), .c (.d (.i .i64 r.2))] := by
 refine Eq.mp (by kernel_rfl : (
 Br ((val (jan u4 u0 u6 u5)).1 != 0)
  ((Ob (ok (jan u4 u0 u6 u5)) ∧
 Br ((val (jan u4 u0 u6 u5)).1 != 0)
  ((Ob True ∧
 (Ob True ∧
 (Ob (List.length r.1 = (0 : Nat)) ∧
 (Ob ((val (jan u4 u0 u6 u5)).1 = r.2) ∧
 True)))))
  (False)))
  ((Ob (ok (jan u4 u0 u6 u5)) ∧
 (Ob (0 ≤ (↑(List.length (val (jan u4 u0 u6 u5)).2.1) : Int) ∧ (↑(List.length (val (jan u4 u0 u6 u5)).2.1) : Int) ≤ (↑(List.length (val (jan u4 u0 u6 u5)).2.1) : Int) ∧ (↑(List.length (val (jan u4 u0 u6 u5)).2.1) : Int) ≤ (↑(List.length (val (jan u4 u0 u6 u5)).2.2) : Int)) ∧
 (Ob True ∧
 (Ob True ∧
 (Ob (List.take (Int.toNat (↑(List.length (val (jan u4 u0 u6 u5)).2.1) : Int) - 0) (List.drop (0 : Nat) (val (jan u4 u0 u6 u5)).2.2) = r.1) ∧
 (Ob ((0 : Int) = r.2) ∧
 True)))))))) = _) ?_
 refine jaW h (fun h => ?_) (fun h => ?_)
 ·refine jau h fun h => ?_
  refine jaW h (fun h => ?_) (fun h => ?_)
  ·refine jad ?_
   refine jad ?_
   exact jam h (fun e => by subst e; exact (by repeat' constructor))
  ·exact nomatch h
 ·refine jau h fun h => ?_
  refine jao h fun h => ?_
  refine jad ?_
  refine jad ?_
  exact jam h (fun e => by subst e; exact (by repeat' constructor))
theorem jmY : jag Tryz.prog 54 true (jal jeg jeh) := by
 refine jat (sp := (sp_67 sp0)) (fn := Tryz.f54) (body := jaj Tryz.f54) mixed (sp_67_ok jak) Tryz.func54 (by kernel_rfl) (by kernel_rfl) fun ls t h ho b hb => ?_
 unfold jeh at h
 split at h
 ·rename_i u4 u0 u6 u5
  cases h
  obtain rfl := jaB hb
  exact ⟨Nat.le_of_ble_eq_true (by kernel_rfl), _, _, jmX u4 u0 u6 u5 _ (jai ho)⟩
 ·cases h
theorem sp_54_ok {sp : jab} (h : jac Tryz.prog sp) : jac Tryz.prog (sp_54 sp) := jah jmY h
def jlL : List SV := [.a [.d, .r (.floats .f32 [])]]
def jeG (r0 : List (List Int) × Int) (x0 : (Int × List Int)) : Option ((Int × List Int) ⊕ (List Int)) :=
 if x0.1 < (↑(List.length r0.1) : Int) then
  if 0 ≤ x0.1 ∧ x0.1 < (↑(List.length r0.1) : Int) then
  if Int.toNat x0.1 < List.length r0.1 then
   if (List.length x0.2 + List.length [List.getD (List.getD r0.1 (Int.toNat x0.1) []) 0 (0 : Int)]) * 8 ≤ 140737488355328 ∧ List.length x0.2 + List.length [List.getD (List.getD r0.1 (Int.toNat x0.1) []) 0 (0 : Int)] ≤ 9223372036854775807 then
   some (.inl ((wrap .i64 (x0.1 + 1), x0.2 ++ [List.getD (List.getD r0.1 (Int.toNat x0.1) []) 0 (0 : Int)])))
   else none
  else none
  else none
 else
  some (.inr x0.2)
def jeH (r0 : List (List Int) × Int) (u15 : List Int) : Option (List Int × Int) :=
 some (u15, r0.2)
def jha (u17 : Int) (u16 : List Nat) : Option (List Int × Int) :=
 Option.bind (y54 u17 u16 (0 : Int) (0 : Int)) fun r0 =>
 Option.bind (jae (jeG r0) big (((0 : Int), []))) (jeH r0)
def jlM : List Lf → Option GT
 | [.d (.i .i64 u17), .r (.floats .f32 u16)] => some (.leaf (ok (jha u17 u16)) [.c (.row 3 (.ints .i64 ((val (jha u17 u16)).1))), .c (.d (.i .i64 ((val (jha u17 u16)).2)))])
 | _ => none
abbrev sp_53 : jab → jab := jav 53 true (jal jlL jlM)
abbrev jbR (u17 : Int) (u16 : List Nat) := (val (y54 u17 u16 (0 : Int) (0 : Int)))
theorem ju1 (u17 : Int) (u16 : List Nat) (r : List Int × Int) (h : Option.bind (jha u17 u16) some = some r) : ja0 Tryz.f53 ((sp_54 sp0)) (fun gs id _ => match id with
 | 0 => some ⟨(Int × List Int) × Nat, fun z => ⟨[(5, .w (.c (.d (.i .i64 ((val (y54 u17 u16 (0 : Int) (0 : Int))).2))))), (6, .w (.c (.o 1))), (15, .w (.c (.o 2))), (16, .w (.c (.d (.i .i64 ((↑(List.length (val (y54 u17 u16 (0 : Int) (0 : Int))).1) : Int)))))), (17, .w (.c (.d (.i .i64 (Prod.fst (Prod.fst z))))))], [(1, .row 3 (.ints .i64 (Prod.snd (Prod.fst z)))), (2, .rrow (.recs 2 ((val (y54 u17 u16 (0 : Int) (0 : Int))).1)))], 3⟩, fun z => Option.bind (jae (jeG (val (y54 u17 u16 (0 : Int) (0 : Int)))) (Prod.snd z) (Prod.fst z)) (fun y0 => Option.bind (jeH (val (y54 u17 u16 (0 : Int) (0 : Int))) y0) some) = some r, fun z => Prod.snd z⟩
 | _ => none) (jaO jlL [.d (.i .i64 u17), .r (.floats .f32 u16)]) [.c (.row 3 (.ints .i64 r.1)), .c (.d (.i .i64 r.2))] := by
 refine Eq.mp (by kernel_rfl : (
 (Ob (ok (y54 u17 u16 (0 : Int) (0 : Int))) ∧
  ((∃ (v0 : (Int × List Int) × Nat), (Ob ((Option.bind (jae (jeG (jbR u17 u16)) v0.2 v0.1) fun y0 => Option.bind (jeH (jbR u17 u16) y0) some) = some r) ∧
 (Ob ((jbR u17 u16).2 = (jbR u17 u16).2) ∧
 (Ob ((↑(List.length (jbR u17 u16).1) : Int) = (↑(List.length (jbR u17 u16).1) : Int)) ∧
 (Ob ((0 : Int) = v0.1.1) ∧
 (Ob (List.length v0.1.2 = (0 : Nat)) ∧
 (Ob ((jbR u17 u16).1 = (jbR u17 u16).1) ∧
 True))))))) ∧
  (∀ (v0 : (Int × List Int) × Nat), ((Option.bind (jae (jeG (jbR u17 u16)) v0.2 v0.1) fun y0 => Option.bind (jeH (jbR u17 u16) y0) some) = some r →
 Br (decide (v0.1.1 < (↑(List.length (jbR u17 u16).1) : Int)))
  ((Ob (0 ≤ v0.1.1 ∧ v0.1.1 < (↑(List.length (jbR u17 u16).1) : Int)) ∧
 (Ob (Int.toNat v0.1.1 < List.length (jbR u17 u16).1) ∧
 (Ob ((List.length v0.1.2 + List.length [List.getD (List.getD (jbR u17 u16).1 (Int.toNat v0.1.1) []) 0 (0 : Int)]) * 8 ≤ 140737488355328 ∧ List.length v0.1.2 + List.length [List.getD (List.getD (jbR u17 u16).1 (Int.toNat v0.1.1) []) 0 (0 : Int)] ≤ 9223372036854775807) ∧
  (∃ (v1 : (Int × List Int) × Nat), (Ob ((Option.bind (jae (jeG (jbR u17 u16)) v1.2 v1.1) fun y0 => Option.bind (jeH (jbR u17 u16) y0) some) = some r) ∧
 (Ob (v1.2 < v0.2) ∧
 (Ob ((jbR u17 u16).2 = (jbR u17 u16).2) ∧
 (Ob ((↑(List.length (jbR u17 u16).1) : Int) = (↑(List.length (jbR u17 u16).1) : Int)) ∧
 (Ob (wrap .i64 (v0.1.1 + 1) = v1.1.1) ∧
 (Ob (v0.1.2 ++ [List.getD (List.getD (jbR u17 u16).1 (Int.toNat v0.1.1) []) 0 (0 : Int)] = v1.1.2) ∧
 (Ob ((jbR u17 u16).1 = (jbR u17 u16).1) ∧
 True))))))))))))
  ((Ob True ∧
 (Ob True ∧
 (Ob (v0.1.2 = r.1) ∧
 (Ob ((jbR u17 u16).2 = r.2) ∧
 True)))))))))) = _) ?_
 refine jau h fun h => ?_
 refine ⟨⟨(((0 : Int), []), big), ⟨jbd h⟩, (by repeat' constructor)⟩, fun z1 hz1 => ?_⟩
 obtain ⟨k1, hm1, h⟩ := jaT hz1
 refine jaN h (fun h => ?_) (fun h => ?_)
 ·refine jao h fun h => ?_
  refine jao h fun h => ?_
  refine jao h fun h => ?_
  exact ⟨(_, k1), ⟨jaL h⟩, ⟨jaZ hm1.symm⟩, (by repeat' constructor)⟩
 ·have h := jaA h
  refine jad ?_
  refine jad ?_
  exact jam h (fun e => by subst e; exact (by repeat' constructor))
theorem ju2 : jag Tryz.prog 53 true (jal jlL jlM) := by
 refine jat (sp := (sp_54 sp0)) (fn := Tryz.f53) (body := jaj Tryz.f53) mixed (sp_54_ok jak) Tryz.func53 (by kernel_rfl) (by kernel_rfl) fun ls t h ho b hb => ?_
 unfold jlM at h
 split at h
 ·rename_i u17 u16
  cases h
  obtain rfl := jaB hb
  exact ⟨Nat.le_of_ble_eq_true (by kernel_rfl), _, _, ju1 u17 u16 _ (jai ho)⟩
 ·cases h
theorem sp_53_ok {sp : jab} (h : jac Tryz.prog sp) : jac Tryz.prog (sp_53 sp) := jah ju2 h
end Go.Sh
end

section
namespace Go.Sh
open Go Go.Proofs Go.RowKit Go.Sx Go.Sx06 Ieee Go.Fl
open Go.IntKind (wrap)
def dcT (times rate blo bhi elo ehi : Int) : Int × Int × Int := (times * max 0 (elo - bhi) * 1000000 / rate, (times * (ehi - blo) * 1000000 + rate - 1) / rate, 0)
def jbz (rate : Int) (zs : List (List Int)) (T kind : Int) : Int × Int × Int :=
 if sLo zs = 0 then (0, 0, 11) else
 if kind = 0 then (if (jaM zs T 2).2.2 = false then (0, 0, 12) else dcT 6 rate 0 0 (jaM zs T 2).1 (jaM zs T 2).2.1) else
 if kind = 1 then (if (jaM zs T 1).2.2 = false then (0, 0, 12) else if (jaM zs T 5).2.2 = false then (0, 0, 12) else dcT 3 rate (jaM zs T 1).1 (jaM zs T 1).2.1 (jaM zs T 5).1 (jaM zs T 5).2.1) else
 (if (jaM zs T 1).2.2 = false then (0, 0, 12) else if (jaM zs T 7).2.2 = false then (0, 0, 12) else dcT 2 rate (jaM zs T 1).1 (jaM zs T 1).2.1 (jaM zs T 7).1 (jaM zs T 7).2.1)
theorem jhb {rate : Int} {l : List Nat} {noise tail : Int} (h : (jbp rate l noise tail).2 = 0) : ZOK (zsO noise l) tail ∧ (8000 ≤ rate ∧ rate ≤ 192000) ∧ (∀ x ∈ l, se x = 0) ∧ l.length ≤ 1024 ∧ (0 ≤ noise ∧ noise ≤ 32767) ∧ (0 ≤ tail ∧ tail ≤ 1000000000000) ∧ 0 < l.length := by
 obtain ⟨hr, hn, ht⟩ := joN h
 obtain ⟨h1, h2, h3, h4⟩ := joM hr
 exact ⟨⟨by rw [jb8]; omega, jfT hn h4, ht⟩, h1, h4, h3, hn, ht, h2⟩
theorem jwH {rate : Int} {l : List Nat} {noise tail : Int} (hl : l.length < 1000000000000) (h : (jbp rate l noise tail).2 ≠ 0) : jan rate l noise tail = some ((jbp rate l noise tail).2, [], []) := by
 rw [jnY rate noise tail hl, if_pos h]
theorem ju3 {rate : Int} {l : List Nat} {noise tail : Int} (hl : l.length < 1000000000000) (h : (jbp rate l noise tail).2 = 0) : jan rate l noise tail = some (0, zsO noise l, ssO (zsO noise l) tail) := by
 rw [jnY rate noise tail hl, if_neg (by omega)]
theorem jdT {a : Int} (h : a ≠ 0) : (a != (0 : Int)) = true := by simpa using h
theorem jpR {a : Int} (h : a = 0) : (a != (0 : Int)) = false := by rw [h]; rfl
section
variable {zs : List (List Int)} {T f : Int} {rate noise tl : Int} {l : List Nat}
theorem jb1 (hz : ZOK zs T) (h : (jaM zs T f).2.2 = true) : 0 ≤ (jaM zs T f).1 ∧ (jaM zs T f).1 ≤ (jaM zs T f).2.1 ∧ (jaM zs T f).2.1 < (zs.length : Int) := by
 obtain ⟨i, j, _, _, hij, hj, e⟩ := jlK hz h
 rw [e]
 dsimp only
 omega
theorem jgk {g : Int} (hz : ZOK zs T) (hfg : p10 f ≤ p10 g) (hf : (jaM zs T f).2.2 = true) (hg : (jaM zs T g).2.2 = true) : (jaM zs T f).1 ≤ (jaM zs T g).2.1 := by
 obtain ⟨i, j, hs, _, hij, hj, e⟩ := jlK hz hf
 obtain ⟨i', j', hs', _, hij', hj', e'⟩ := jlK hz hg
 obtain ⟨k, hk, hkj⟩ := jwG hfg hs'
 rw [hs] at hk
 cases hk
 rw [e, e']
 dsimp only
 omega
theorem jmZ {times rate d : Int} (ht : 0 ≤ times ∧ times ≤ 6) (hr : 8000 ≤ rate) (hd : -1024 ≤ d ∧ d ≤ 1024) :
  wrap IntKind.i64 (wrap IntKind.i64 (times * if wrap IntKind.i64 d > (0 : Int) then wrap IntKind.i64 d else (0 : Int)) * (1000000 : Int)) = times * max 0 d * 1000000 ∧ 0 ≤ times * max 0 d * 1000000 ∧ times * max 0 d * 1000000 ≤ 6144000000 := by
 rw [jas (x := d) (by omega)]
 have e : (if d > 0 then d else 0) = max 0 d := by split <;> omega
 have h1 := Int.mul_nonneg ht.1 (show 0 ≤ max 0 d by omega)
 have h2 := Int.mul_le_mul ht.2 (show max 0 d ≤ 1024 by omega) (by omega) (by omega)
 rw [e, jas (x := times * max 0 d) (by omega), jas (by omega)]
 omega
theorem jm0 {times d : Int} (ht : 0 ≤ times ∧ times ≤ 6) (hd : 0 ≤ d ∧ d ≤ 1024) :
  wrap IntKind.i64 (wrap IntKind.i64 (times * wrap IntKind.i64 d) * (1000000 : Int)) = times * d * 1000000 ∧ 0 ≤ times * d * 1000000 ∧ times * d * 1000000 ≤ 6144000000 := by
 have h1 := Int.mul_nonneg ht.1 hd.1
 have h2 := Int.mul_le_mul ht.2 hd.2 (by omega) (by omega)
 rw [jas (x := d) (by omega), jas (x := times * d) (by omega), jas (by omega)]
 omega
theorem jrx {n rate : Int} (hr : 8000 ≤ rate) (hn : 0 ≤ n ∧ n ≤ 9223372036854775807) : wrap IntKind.i64 (Int.tdiv n rate) = n / rate := by
 have h1 : 0 ≤ n / rate := Int.ediv_nonneg hn.1 (by omega)
 have h2 := Int.ediv_le_self rate hn.1
 rw [Int.tdiv_eq_ediv_of_nonneg hn.1, jas (by omega)]
theorem je0 {kind : Int} (hz : ZOK zs T) (hr : 8000 ≤ rate ∧ rate ≤ 192000) (hk : 0 ≤ kind ∧ kind ≤ 2) : y35 rate l noise tl zs (ssO zs T) kind = some (jbz rate zs T kind) := by
 unfold y35 jbz
 have hlen := hz.len
 rw [jb2, if_pos (by omega), if_pos (by omega), jkh.1]
 by_cases h0 : sLo zs = 0
 ·rw [if_pos (show (sLo zs == 0) = true by simpa using h0), if_pos h0]
 rw [if_neg (show ¬ (sLo zs == 0) = true by simpa using h0), if_neg h0, if_pos (show (0 : Int) ≤ kind ∧ kind < ((3 : Nat) : Int) by omega)]
 have hk3 : kind = 0 ∨ kind = 1 ∨ kind = 2 := by omega
 rcases hk3 with rfl | rfl | rfl
 ·rw [if_pos (show Int.toNat 0 < jaY.length by decide), if_pos (show (0 : Int) = 0 from rfl)]
  have e1 : ((jaY.getD (Int.toNat 0) []).getD 0 0 : Int) = 0 := rfl
  have e2 : ((jaY.getD (Int.toNat 0) []).getD 1 0 : Int) = 2 := rfl
  have e3 : ((jaY.getD (Int.toNat 0) []).getD 2 0 : Int) = 6 := rfl
  rw [e1, e2, e3, if_neg (show ¬ ((0 : Int) > 0) by omega), jde hz (by omega), jaa]
  cases hp : (jaM zs T 2).2.2 with
  | false => rw [if_pos (by rfl), if_pos rfl]
  | true =>
   have hg := jb1 hz hp
   rw [if_neg (show ¬ ((!true) = true) by decide), if_neg (show ¬ (true = false) by decide), if_pos (show rate ≠ 0 by omega)]
   obtain ⟨a1, a2, a3⟩ := jmZ (times := 6) (rate := rate) (d := (jaM zs T 2).1 - 0) (by omega) (by omega) (by omega)
   obtain ⟨b1, b2, b3⟩ := jm0 (times := 6) (d := (jaM zs T 2).2.1 - 0) (by omega) (by omega)
   rw [a1, b1, jd8 (by omega) b2 (by omega), jaa, jrx (by omega) (by omega)]
   rfl
 ·rw [if_pos (show Int.toNat 1 < jaY.length by decide), if_neg (show ¬ ((1 : Int) = 0) by omega), if_pos (show (1 : Int) = 1 from rfl)]
  have e1 : ((jaY.getD (Int.toNat 1) []).getD 0 0 : Int) = 1 := rfl
  have e2 : ((jaY.getD (Int.toNat 1) []).getD 1 0 : Int) = 5 := rfl
  have e3 : ((jaY.getD (Int.toNat 1) []).getD 2 0 : Int) = 3 := rfl
  rw [e1, e2, e3, if_pos (show (1 : Int) > 0 by omega), jde hz (by omega), jaa]
  cases hp : (jaM zs T 1).2.2 with
  | false => rw [if_pos (by rfl), if_pos rfl]
  | true =>
   have hg := jb1 hz hp
   rw [if_neg (show ¬ ((!true) = true) by decide), if_neg (show ¬ (true = false) by decide), jde hz (by omega), jaa]
   cases hq : (jaM zs T 5).2.2 with
   | false => rw [if_pos (by rfl), if_pos rfl]
   | true =>
    have hg' := jb1 hz hq
    have haf := jgk (f := 1) (g := 5) hz (by decide) hp hq
    rw [if_neg (show ¬ ((!true) = true) by decide), if_neg (show ¬ (true = false) by decide), if_pos (show rate ≠ 0 by omega)]
    obtain ⟨a1, a2, a3⟩ := jmZ (times := 3) (rate := rate) (d := (jaM zs T 5).1 - (jaM zs T 1).2.1) (by omega) (by omega) (by omega)
    obtain ⟨b1, b2, b3⟩ := jm0 (times := 3) (d := (jaM zs T 5).2.1 - (jaM zs T 1).1) (by omega) (by omega)
    rw [a1, b1, jd8 (by omega) b2 (by omega), jaa, jrx (by omega) (by omega)]
    rfl
 ·rw [if_pos (show Int.toNat 2 < jaY.length by decide), if_neg (show ¬ ((2 : Int) = 0) by omega), if_neg (show ¬ ((2 : Int) = 1) by omega)]
  have e1 : ((jaY.getD (Int.toNat 2) []).getD 0 0 : Int) = 1 := rfl
  have e2 : ((jaY.getD (Int.toNat 2) []).getD 1 0 : Int) = 7 := rfl
  have e3 : ((jaY.getD (Int.toNat 2) []).getD 2 0 : Int) = 2 := rfl
  rw [e1, e2, e3, if_pos (show (1 : Int) > 0 by omega), jde hz (by omega), jaa]
  cases hp : (jaM zs T 1).2.2 with
  | false => rw [if_pos (by rfl), if_pos rfl]
  | true =>
   have hg := jb1 hz hp
   rw [if_neg (show ¬ ((!true) = true) by decide), if_neg (show ¬ (true = false) by decide), jde hz (by omega), jaa]
   cases hq : (jaM zs T 7).2.2 with
   | false => rw [if_pos (by rfl), if_pos rfl]
   | true =>
    have hg' := jb1 hz hq
    have haf := jgk (f := 1) (g := 7) hz (by decide) hp hq
    rw [if_neg (show ¬ ((!true) = true) by decide), if_neg (show ¬ (true = false) by decide), if_pos (show rate ≠ 0 by omega)]
    obtain ⟨a1, a2, a3⟩ := jmZ (times := 2) (rate := rate) (d := (jaM zs T 7).1 - (jaM zs T 1).2.1) (by omega) (by omega) (by omega)
    obtain ⟨b1, b2, b3⟩ := jm0 (times := 2) (d := (jaM zs T 7).2.1 - (jaM zs T 1).1) (by omega) (by omega)
    rw [a1, b1, jd8 (by omega) b2 (by omega), jaa, jrx (by omega) (by omega)]
    rfl
theorem jjQ {tail kind : Int} (hs : ∀ x ∈ l, se x = 0) (hl : l.length ≤ 1024) (hn : 0 ≤ noise ∧ noise ≤ 32767) (ht : 0 ≤ tail ∧ tail ≤ 1000000000000) (hr : 8000 ≤ rate ∧ rate ≤ 192000) (hk : 0 ≤ kind ∧ kind ≤ 2) :
  y13 rate l noise tail kind = some (jbz rate (zsO noise l) tail kind) := by
 have hzl := jb8 noise l
 have hz : ZOK (zsO noise l) tail := ⟨by omega, jfT hn hs, ht⟩
 have hlen := hz.len
 have hall := hz.all
 unfold y13 jbz
 have hsum0 := jkg (rate := rate) (noise := noise) (tail := tail) (a := 0) hs hl hn ht (Nat.zero_le _)
 rw [List.drop_zero] at hsum0
 have hsum0 : y36 rate l noise tail 0 = _ := hsum0
 rw [hsum0, jaa]
 by_cases h0 : sLo (zsO noise l) = 0
 ·rw [if_pos (show (sLo (zsO noise l) == 0) = true by simpa using h0), if_pos h0]
 rw [if_neg (show ¬ (sLo (zsO noise l) == 0) = true by simpa using h0), if_neg h0]
 have hp0 : 0 < sLo (zsO noise l) := by omega
 have hP : ∀ f, 0 ≤ f ∧ f ≤ 12 → y32 rate l noise tail f = some (jaM (zsO noise l) tail f) := fun f hf => jsi hs hl hn ht hf hp0
 have hk3 : kind = 0 ∨ kind = 1 ∨ kind = 2 := by omega
 rcases hk3 with rfl | rfl | rfl
 ·rw [if_pos (show ((0 : Int) == 0) = true from rfl), if_pos (show (0 : Int) = 0 from rfl), hP 2 (by omega), jaa]
  cases hp : (jaM (zsO noise l) tail 2).2.2 with
  | false => rw [if_pos (by rfl), if_pos rfl]
  | true =>
   have hg := jb1 hz hp
   rw [if_neg (show ¬ ((!true) = true) by decide), if_neg (show ¬ (true = false) by decide)]
   have e1 : max 0 ((jaM (zsO noise l) tail 2).1 - 0) = (jaM (zsO noise l) tail 2).1 := by omega
   rw [jas (x := 6 * (jaM (zsO noise l) tail 2).1) (by omega), jas (x := 6 * (jaM (zsO noise l) tail 2).1 * 1000000) (by omega), jas (x := 6 * (jaM (zsO noise l) tail 2).2.1) (by omega), jas (x := 6 * (jaM (zsO noise l) tail 2).2.1 * 1000000) (by omega),
    jcm (by omega) (by omega), jaa, jcZ (by omega) (by omega), jaa, jdp (by omega)]
   unfold dcT
   rw [e1, Int.sub_zero]
 ·rw [if_neg (show ¬ ((1 : Int) == 0) = true by decide), if_neg (show ¬ ((1 : Int) == 2) = true by decide), if_neg (show ¬ ((1 : Int) = 0) by decide), if_pos (show (1 : Int) = 1 from rfl), hP 1 (by omega), jaa, hP 5 (by omega), jaa]
  cases hp : (jaM (zsO noise l) tail 1).2.2 with
  | false => rw [if_pos (by rfl), if_pos rfl]
  | true =>
   have hg := jb1 hz hp
   rw [if_neg (show ¬ ((!true) = true) by decide), if_neg (show ¬ (true = false) by decide)]
   cases hq : (jaM (zsO noise l) tail 5).2.2 with
   | false => rw [if_pos (by rfl), if_pos rfl]
   | true =>
    have hg' := jb1 hz hq
    have haf := jgk (f := 1) (g := 5) hz (by decide) hp hq
    rw [if_neg (show ¬ ((!true) = true) by decide), if_neg (show ¬ (true = false) by decide)]
    obtain ⟨a1, a2, a3⟩ := jmZ (times := 3) (rate := rate) (d := (jaM (zsO noise l) tail 5).1 - (jaM (zsO noise l) tail 1).2.1) (by omega) (by omega) (by omega)
    obtain ⟨b1, b2, b3⟩ := jm0 (times := 3) (d := (jaM (zsO noise l) tail 5).2.1 - (jaM (zsO noise l) tail 1).1) (by omega) (by omega)
    rw [a1, b1, jcm (by omega) (by omega), jaa, jcZ (by omega) (by omega), jaa, jdp (by omega)]
    rfl
 ·rw [if_neg (show ¬ ((2 : Int) == 0) = true by decide), if_pos (show ((2 : Int) == 2) = true from rfl), if_neg (show ¬ ((2 : Int) = 0) by decide), if_neg (show ¬ ((2 : Int) = 1) by decide), hP 1 (by omega), jaa, hP 7 (by omega), jaa]
  cases hp : (jaM (zsO noise l) tail 1).2.2 with
  | false => rw [if_pos (by rfl), if_pos rfl]
  | true =>
   have hg := jb1 hz hp
   rw [if_neg (show ¬ ((!true) = true) by decide), if_neg (show ¬ (true = false) by decide)]
   cases hq : (jaM (zsO noise l) tail 7).2.2 with
   | false => rw [if_pos (by rfl), if_pos rfl]
   | true =>
    have hg' := jb1 hz hq
    have haf := jgk (f := 1) (g := 7) hz (by decide) hp hq
    rw [if_neg (show ¬ ((!true) = true) by decide), if_neg (show ¬ (true = false) by decide)]
    obtain ⟨a1, a2, a3⟩ := jmZ (times := 2) (rate := rate) (d := (jaM (zsO noise l) tail 7).1 - (jaM (zsO noise l) tail 1).2.1) (by omega) (by omega) (by omega)
    obtain ⟨b1, b2, b3⟩ := jm0 (times := 2) (d := (jaM (zsO noise l) tail 7).2.1 - (jaM (zsO noise l) tail 1).1) (by omega) (by omega)
    rw [a1, b1, jcm (by omega) (by omega), jaa, jcZ (by omega) (by omega), jaa, jdp (by omega)]
    rfl
end
def jjR (l : List Nat) : Bool := decide (l.length ≤ 700 ∨ (1024 < l.length ∧ l.length ≤ 1026))
theorem ju4 (rate : Int) (l : List Nat) : jc8 rate l = some (jjR l) := by
 unfold jc8 jjR
 by_cases h : l.length ≤ 700
 ·rw [if_pos (by omega), decide_eq_true (show _ ∨ _ from .inl h)]
 ·rw [if_neg (by omega)]
  by_cases h2 : 1024 < l.length
  ·rw [if_pos (by omega)]
   congr 1
   rw [decide_eq_decide]
   omega
  ·rw [if_neg (by omega), decide_eq_false (by omega)]
theorem beq_f {a b : Int} (h : a ≠ b) : (a == b) = false := by simpa using h
theorem jsK {l : List Nat} (h : jjR l = true) : l.length < 1000000000000 := by
 unfold jjR at h
 simp only [decide_eq_true_eq] at h
 omega
theorem jm1 (rate : Int) {l : List Nat} (h : l.length < 1000000000000) : y80 rate l = some (rate, l) := by
 unfold y80
 rw [if_pos (by omega), List.nil_append]
theorem jry (rate : Int) {l : List Nat} (noise tail : Int) (h : l.length < 1000000000000) : y59 rate l noise tail = some (rate, l, noise, tail) := by
 unfold y59
 rw [jm1 rate h]
 rfl
end Go.Sh
end

section
namespace Go.Sh
open Go Go.Proofs Go.RowKit Go.Sx Go.Sx06 Ieee Go.Fl
end Go.Sh
end

section
namespace Go.Sh
open Go Go.Proofs Go.RowKit Go.Sx Go.Sx06 Ieee Go.Fl
end Go.Sh
end

section
namespace Go.Sh
open Go Go.Proofs Go.RowKit Go.Sx Go.Sx06 Ieee Go.Fl
open Go.IntKind (wrap)
theorem jid {f : Int} (h : 0 ≤ f ∧ f ≤ 9) : 1 ≤ p10 f ∧ p10 f ≤ 1000000000 := by
 rcases (by omega : f = 0 ∨ f = 1 ∨ f = 2 ∨ f = 3 ∨ f = 4 ∨ f = 5 ∨ f = 6 ∨ f = 7 ∨ f = 8 ∨ f = 9) with rfl | rfl | rfl | rfl | rfl | rfl | rfl | rfl | rfl | rfl <;> exact ⟨by decide, by decide⟩
theorem jjS {num den parts tens : Int} (hn : 1 ≤ num ∧ num ≤ 10000000000000) (hd : 1 ≤ den ∧ den ≤ 10000000000000) (hp : 1 ≤ parts ∧ parts ≤ 8000000000) (ht : -9 ≤ tens ∧ tens ≤ 9) :
  y42 num den parts tens = some (if parts * p10 (max tens 0) * den < 1000000000 * p10 (max (-tens) 0) * num then -1 else if 1000000000 * p10 (max (-tens) 0) * num < parts * p10 (max tens 0) * den then 1 else 0) := by
 have h9 : y9 (1000000000 : Int) num = some (1000000000 * num / 18446744073709551616, 1000000000 * num % 18446744073709551616) := jcw (by omega) (by omega) (by omega) (by omega)
 unfold y42
 by_cases h : tens ≥ 0
 ·obtain ⟨hq, _⟩ := jjO (f := tens) (by omega)
  have hp9 := jid (f := tens) (by omega)
  rw [if_pos h, if_pos (by omega), if_pos (by rw [jic]; omega), hq]
  have hL0 : 0 ≤ parts * p10 tens := Int.mul_nonneg (by omega) (by omega)
  have hL1 := Int.mul_le_mul hp.2 hp9.2 (show 0 ≤ p10 tens by omega) (show (0 : Int) ≤ 8000000000 by omega)
  have eL : wrap IntKind.u64 (parts * p10 tens) = parts * p10 tens := by rw [jbE]; exact Int.emod_eq_of_lt hL0 (by omega)
  rw [eL]
  have m1 := jcw (x := parts * p10 tens) (y := den) (by omega) (by omega) (by omega) (by omega)
  rw [m1, jaa, h9, jaa]
  unfold y9 at m1
  have e1 := congrArg Prod.fst (Option.some.inj m1)
  dsimp only at e1
  rw [e1, show max tens 0 = tens by omega, show max (-tens) 0 = 0 by omega, show p10 0 = 1 from rfl, Int.mul_one]
  have e2 : wrap IntKind.u64 (wrap IntKind.u64 (wrap IntKind.u64 (Int.fdiv (1000000000 : Int) ((2 : Int) ^ min (32 : Nat) (IntKind.bits IntKind.u64)) * Int.fdiv num ((2 : Int) ^ min (32 : Nat) (IntKind.bits IntKind.u64))) + Int.fdiv (wrap IntKind.u64 (wrap IntKind.u64 (Int.fdiv (1000000000 : Int) ((2 : Int) ^ min (32 : Nat) (IntKind.bits IntKind.u64)) * wrap IntKind.u64 (↑(BitVec.toNat (BitVec.ofInt (IntKind.bits IntKind.u64) num &&& BitVec.ofInt (IntKind.bits IntKind.u64) (4294967295 : Int))) : Int)) + Int.fdiv (wrap IntKind.u64 ((1000000000 : Int) * wrap IntKind.u64 (↑(BitVec.toNat (BitVec.ofInt (IntKind.bits IntKind.u64) num &&& BitVec.ofInt (IntKind.bits IntKind.u64) (4294967295 : Int))) : Int))) ((2 : Int) ^ min (32 : Nat) (IntKind.bits IntKind.u64)))) ((2 : Int) ^ min (32 : Nat) (IntKind.bits IntKind.u64))) + Int.fdiv (wrap IntKind.u64 (wrap IntKind.u64 (↑(BitVec.toNat (BitVec.ofInt (IntKind.bits IntKind.u64) (wrap IntKind.u64 (wrap IntKind.u64 (Int.fdiv (1000000000 : Int) ((2 : Int) ^ min (32 : Nat) (IntKind.bits IntKind.u64)) * wrap IntKind.u64 (↑(BitVec.toNat (BitVec.ofInt (IntKind.bits IntKind.u64) num &&& BitVec.ofInt (IntKind.bits IntKind.u64) (4294967295 : Int))) : Int)) + Int.fdiv (wrap IntKind.u64 ((1000000000 : Int) * wrap IntKind.u64 (↑(BitVec.toNat (BitVec.ofInt (IntKind.bits IntKind.u64) num &&& BitVec.ofInt (IntKind.bits IntKind.u64) (4294967295 : Int))) : Int))) ((2 : Int) ^ min (32 : Nat) (IntKind.bits IntKind.u64)))) &&& BitVec.ofInt (IntKind.bits IntKind.u64) (4294967295 : Int))) : Int) + wrap IntKind.u64 ((1000000000 : Int) * Int.fdiv num ((2 : Int) ^ min (32 : Nat) (IntKind.bits IntKind.u64))))) ((2 : Int) ^ min (32 : Nat) (IntKind.bits IntKind.u64))) = 1000000000 * num / 18446744073709551616 := by
   have e9 := h9
   unfold y9 at e9
   have e9 := congrArg Prod.fst (Option.some.inj e9)
   dsimp only at e9
   simp only [jey, jfK, jbE, mw] at e9 ⊢
   rw [show (1000000000 : Int) % 4294967296 = 1000000000 from by decide] at e9
   exact e9
  rw [e2, jbE, jbE, jfL, jaa, jq3]
 ·obtain ⟨hq, _⟩ := jjO (f := -tens) (by omega)
  have hp9 := jid (f := -tens) (by omega)
  have e0 : wrap IntKind.i64 ((0 : Int) - tens) = -tens := by rw [jas (by omega), Int.zero_sub]
  rw [if_neg h, e0, if_pos (by omega), if_pos (by rw [jic]; omega), hq]
  have eL : wrap IntKind.u64 (1000000000 * p10 (-tens)) = 1000000000 * p10 (-tens) := by rw [jbE]; exact Int.emod_eq_of_lt (by omega) (by omega)
  rw [eL]
  have m1 := jcw (x := parts) (y := den) (by omega) (by omega) (by omega) (by omega)
  have m2 := jcw (x := 1000000000 * p10 (-tens)) (y := num) (by omega) (by omega) (by omega) (by omega)
  rw [m1, jaa, m2, jaa]
  unfold y9 at m1 m2
  have e1 := congrArg Prod.fst (Option.some.inj m1)
  have e2 := congrArg Prod.fst (Option.some.inj m2)
  dsimp only at e1 e2
  rw [e1, e2, show max (-tens) 0 = -tens by omega, show max tens 0 = 0 by omega, show p10 0 = 1 from rfl, Int.mul_one, jbE, jbE, jfL, jaa, jq3]
end Go.Sh
end

section
namespace Go.Sh
open Go Go.Proofs Go.RowKit Go.Sx
open Go.IntKind (wrap)
def je5 : List (Option Cont) := [none]
def y71 (x_ : Int) : Option Int :=
 if x_ ≥ 4294967296 then
  if Int.fdiv x_ ((2 : Int) ^ min (32 : Nat) (IntKind.bits .u64)) ≥ 65536 then
  if Int.fdiv (Int.fdiv x_ ((2 : Int) ^ min (32 : Nat) (IntKind.bits .u64))) ((2 : Int) ^ min (16 : Nat) (IntKind.bits .u64)) ≥ 256 then
   if 0 ≤ wrap .u8 (Int.fdiv (Int.fdiv (Int.fdiv x_ ((2 : Int) ^ min (32 : Nat) (IntKind.bits .u64))) ((2 : Int) ^ min (16 : Nat) (IntKind.bits .u64))) ((2 : Int) ^ min (8 : Nat) (IntKind.bits .u64))) ∧ wrap .u8 (Int.fdiv (Int.fdiv (Int.fdiv x_ ((2 : Int) ^ min (32 : Nat) (IntKind.bits .u64))) ((2 : Int) ^ min (16 : Nat) (IntKind.bits .u64))) ((2 : Int) ^ min (8 : Nat) (IntKind.bits .u64))) < (↑(ByteArray.size jbe) : Int) then
   some (wrap .i64 (wrap .i64 (wrap .i64 ((32 : Int) + 16) + 8) + wrap .i64 (↑(UInt8.toNat (Array.getD (ByteArray.data jbe) (Int.toNat (wrap .u8 (Int.fdiv (Int.fdiv (Int.fdiv x_ ((2 : Int) ^ min (32 : Nat) (IntKind.bits .u64))) ((2 : Int) ^ min (16 : Nat) (IntKind.bits .u64))) ((2 : Int) ^ min (8 : Nat) (IntKind.bits .u64))))) (0 : UInt8))) : Int)))
   else none
  else
   if 0 ≤ wrap .u8 (Int.fdiv (Int.fdiv x_ ((2 : Int) ^ min (32 : Nat) (IntKind.bits .u64))) ((2 : Int) ^ min (16 : Nat) (IntKind.bits .u64))) ∧ wrap .u8 (Int.fdiv (Int.fdiv x_ ((2 : Int) ^ min (32 : Nat) (IntKind.bits .u64))) ((2 : Int) ^ min (16 : Nat) (IntKind.bits .u64))) < (↑(ByteArray.size jbe) : Int) then
   some (wrap .i64 (wrap .i64 ((32 : Int) + 16) + wrap .i64 (↑(UInt8.toNat (Array.getD (ByteArray.data jbe) (Int.toNat (wrap .u8 (Int.fdiv (Int.fdiv x_ ((2 : Int) ^ min (32 : Nat) (IntKind.bits .u64))) ((2 : Int) ^ min (16 : Nat) (IntKind.bits .u64))))) (0 : UInt8))) : Int)))
   else none
  else
  if Int.fdiv x_ ((2 : Int) ^ min (32 : Nat) (IntKind.bits .u64)) ≥ 256 then
   if 0 ≤ wrap .u8 (Int.fdiv (Int.fdiv x_ ((2 : Int) ^ min (32 : Nat) (IntKind.bits .u64))) ((2 : Int) ^ min (8 : Nat) (IntKind.bits .u64))) ∧ wrap .u8 (Int.fdiv (Int.fdiv x_ ((2 : Int) ^ min (32 : Nat) (IntKind.bits .u64))) ((2 : Int) ^ min (8 : Nat) (IntKind.bits .u64))) < (↑(ByteArray.size jbe) : Int) then
   some (wrap .i64 (wrap .i64 ((32 : Int) + 8) + wrap .i64 (↑(UInt8.toNat (Array.getD (ByteArray.data jbe) (Int.toNat (wrap .u8 (Int.fdiv (Int.fdiv x_ ((2 : Int) ^ min (32 : Nat) (IntKind.bits .u64))) ((2 : Int) ^ min (8 : Nat) (IntKind.bits .u64))))) (0 : UInt8))) : Int)))
   else none
  else
   if 0 ≤ wrap .u8 (Int.fdiv x_ ((2 : Int) ^ min (32 : Nat) (IntKind.bits .u64))) ∧ wrap .u8 (Int.fdiv x_ ((2 : Int) ^ min (32 : Nat) (IntKind.bits .u64))) < (↑(ByteArray.size jbe) : Int) then
   some (wrap .i64 (32 + wrap .i64 (↑(UInt8.toNat (Array.getD (ByteArray.data jbe) (Int.toNat (wrap .u8 (Int.fdiv x_ ((2 : Int) ^ min (32 : Nat) (IntKind.bits .u64))))) (0 : UInt8))) : Int)))
   else none
 else
  if x_ ≥ 65536 then
  if Int.fdiv x_ ((2 : Int) ^ min (16 : Nat) (IntKind.bits .u64)) ≥ 256 then
   if 0 ≤ wrap .u8 (Int.fdiv (Int.fdiv x_ ((2 : Int) ^ min (16 : Nat) (IntKind.bits .u64))) ((2 : Int) ^ min (8 : Nat) (IntKind.bits .u64))) ∧ wrap .u8 (Int.fdiv (Int.fdiv x_ ((2 : Int) ^ min (16 : Nat) (IntKind.bits .u64))) ((2 : Int) ^ min (8 : Nat) (IntKind.bits .u64))) < (↑(ByteArray.size jbe) : Int) then
   some (wrap .i64 (wrap .i64 (wrap .i64 ((0 : Int) + 16) + 8) + wrap .i64 (↑(UInt8.toNat (Array.getD (ByteArray.data jbe) (Int.toNat (wrap .u8 (Int.fdiv (Int.fdiv x_ ((2 : Int) ^ min (16 : Nat) (IntKind.bits .u64))) ((2 : Int) ^ min (8 : Nat) (IntKind.bits .u64))))) (0 : UInt8))) : Int)))
   else none
  else
   if 0 ≤ wrap .u8 (Int.fdiv x_ ((2 : Int) ^ min (16 : Nat) (IntKind.bits .u64))) ∧ wrap .u8 (Int.fdiv x_ ((2 : Int) ^ min (16 : Nat) (IntKind.bits .u64))) < (↑(ByteArray.size jbe) : Int) then
   some (wrap .i64 (wrap .i64 ((0 : Int) + 16) + wrap .i64 (↑(UInt8.toNat (Array.getD (ByteArray.data jbe) (Int.toNat (wrap .u8 (Int.fdiv x_ ((2 : Int) ^ min (16 : Nat) (IntKind.bits .u64))))) (0 : UInt8))) : Int)))
   else none
  else
  if x_ ≥ 256 then
   if 0 ≤ wrap .u8 (Int.fdiv x_ ((2 : Int) ^ min (8 : Nat) (IntKind.bits .u64))) ∧ wrap .u8 (Int.fdiv x_ ((2 : Int) ^ min (8 : Nat) (IntKind.bits .u64))) < (↑(ByteArray.size jbe) : Int) then
   some (wrap .i64 (wrap .i64 ((0 : Int) + 8) + wrap .i64 (↑(UInt8.toNat (Array.getD (ByteArray.data jbe) (Int.toNat (wrap .u8 (Int.fdiv x_ ((2 : Int) ^ min (8 : Nat) (IntKind.bits .u64))))) (0 : UInt8))) : Int)))
   else none
  else
   if 0 ≤ wrap .u8 x_ ∧ wrap .u8 x_ < (↑(ByteArray.size jbe) : Int) then
   some (wrap .i64 (0 + wrap .i64 (↑(UInt8.toNat (Array.getD (ByteArray.data jbe) (Int.toNat (wrap .u8 x_)) (0 : UInt8))) : Int)))
   else none
def y163 : List A → Option (Prop × List RV)
 | [.d (.i .u64 x_)] => some (ok (y71 x_), [.d (.i .i64 ((val (y71 x_))))])
 | _ => none
abbrev sp_166 : jab → jab := jav 166 true (jar je5 y163)
abbrev jc9 (x_ : Int) := (Int.fdiv x_ ((2 : Int) ^ min (32 : Nat) (IntKind.bits .u64)))
abbrev jcQ  := ((2 : Int) ^ min (16 : Nat) (IntKind.bits .u64))
abbrev jdh  := ((2 : Int) ^ min (8 : Nat) (IntKind.bits .u64))
theorem jjT (x_ : Int) (r : Int) (h : Option.bind (y71 x_) some = some r) : jbb Tryz.f166 (sp0) (fun _ _ _ => none) [.d (.i .u64 x_)] [.d (.i .i64 r)] := by
 refine Eq.mp (by kernel_rfl : (
 Br (decide (x_ ≥ 4294967296))
  ((Ob ((0 : Int) ≤ 32) ∧
 Br (decide (Int.fdiv x_ ((2 : Int) ^ min (32 : Nat) (IntKind.bits .u64)) ≥ 65536))
  ((Ob ((0 : Int) ≤ 16) ∧
 Br (decide (Int.fdiv (jc9 x_) (jcQ) ≥ 256))
  ((Ob ((0 : Int) ≤ 8) ∧
 (Ob True ∧
 (Ob (0 ≤ wrap .u8 (Int.fdiv (Int.fdiv (jc9 x_) (jcQ)) (jdh)) ∧ wrap .u8 (Int.fdiv (Int.fdiv (jc9 x_) (jcQ)) (jdh)) < (↑(ByteArray.size jbe) : Int)) ∧
 (Ob True ∧
 (Ob True ∧
 (Ob (wrap .i64 (wrap .i64 (wrap .i64 ((32 : Int) + 16) + 8) + wrap .i64 (↑(UInt8.toNat (Array.getD (ByteArray.data jbe) (Int.toNat (wrap .u8 (Int.fdiv (Int.fdiv (jc9 x_) (jcQ)) (jdh)))) (0 : UInt8))) : Int)) = r) ∧
 True)))))))
  ((Ob True ∧
 (Ob (0 ≤ wrap .u8 (Int.fdiv (jc9 x_) (jcQ)) ∧ wrap .u8 (Int.fdiv (jc9 x_) (jcQ)) < (↑(ByteArray.size jbe) : Int)) ∧
 (Ob True ∧
 (Ob True ∧
 (Ob (wrap .i64 (wrap .i64 ((32 : Int) + 16) + wrap .i64 (↑(UInt8.toNat (Array.getD (ByteArray.data jbe) (Int.toNat (wrap .u8 (Int.fdiv (jc9 x_) (jcQ)))) (0 : UInt8))) : Int)) = r) ∧
 True))))))))
 (Br (decide (Int.fdiv x_ ((2 : Int) ^ min (32 : Nat) (IntKind.bits .u64)) ≥ 256))
  ((Ob ((0 : Int) ≤ 8) ∧
 (Ob True ∧
 (Ob (0 ≤ wrap .u8 (Int.fdiv (jc9 x_) (jdh)) ∧ wrap .u8 (Int.fdiv (jc9 x_) (jdh)) < (↑(ByteArray.size jbe) : Int)) ∧
 (Ob True ∧
 (Ob True ∧
 (Ob (wrap .i64 (wrap .i64 ((32 : Int) + 8) + wrap .i64 (↑(UInt8.toNat (Array.getD (ByteArray.data jbe) (Int.toNat (wrap .u8 (Int.fdiv (jc9 x_) (jdh)))) (0 : UInt8))) : Int)) = r) ∧
 True)))))))
  ((Ob True ∧
 (Ob (0 ≤ wrap .u8 (jc9 x_) ∧ wrap .u8 (jc9 x_) < (↑(ByteArray.size jbe) : Int)) ∧
 (Ob True ∧
 (Ob True ∧
 (Ob (wrap .i64 (32 + wrap .i64 (↑(UInt8.toNat (Array.getD (ByteArray.data jbe) (Int.toNat (wrap .u8 (jc9 x_))) (0 : UInt8))) : Int)) = r) ∧
 True)))))))))
 (Br (decide (x_ ≥ 65536))
  ((Ob ((0 : Int) ≤ 16) ∧
 Br (decide (Int.fdiv x_ (jcQ) ≥ 256))
  ((Ob ((0 : Int) ≤ 8) ∧
 (Ob True ∧
 (Ob (0 ≤ wrap .u8 (Int.fdiv (Int.fdiv x_ (jcQ)) (jdh)) ∧ wrap .u8 (Int.fdiv (Int.fdiv x_ (jcQ)) (jdh)) < (↑(ByteArray.size jbe) : Int)) ∧
 (Ob True ∧
 (Ob True ∧
 (Ob (wrap .i64 (wrap .i64 (wrap .i64 ((0 : Int) + 16) + 8) + wrap .i64 (↑(UInt8.toNat (Array.getD (ByteArray.data jbe) (Int.toNat (wrap .u8 (Int.fdiv (Int.fdiv x_ (jcQ)) (jdh)))) (0 : UInt8))) : Int)) = r) ∧
 True)))))))
  ((Ob True ∧
 (Ob (0 ≤ wrap .u8 (Int.fdiv x_ (jcQ)) ∧ wrap .u8 (Int.fdiv x_ (jcQ)) < (↑(ByteArray.size jbe) : Int)) ∧
 (Ob True ∧
 (Ob True ∧
 (Ob (wrap .i64 (wrap .i64 ((0 : Int) + 16) + wrap .i64 (↑(UInt8.toNat (Array.getD (ByteArray.data jbe) (Int.toNat (wrap .u8 (Int.fdiv x_ (jcQ)))) (0 : UInt8))) : Int)) = r) ∧
 True))))))))
 (Br (decide (x_ ≥ 256))
  ((Ob ((0 : Int) ≤ 8) ∧
 (Ob True ∧
 (Ob (0 ≤ wrap .u8 (Int.fdiv x_ (jdh)) ∧ wrap .u8 (Int.fdiv x_ (jdh)) < (↑(ByteArray.size jbe) : Int)) ∧
 (Ob True ∧
 (Ob True ∧
 (Ob (wrap .i64 (wrap .i64 ((0 : Int) + 8) + wrap .i64 (↑(UInt8.toNat (Array.getD (ByteArray.data jbe) (Int.toNat (wrap .u8 (Int.fdiv x_ (jdh)))) (0 : UInt8))) : Int)) = r) ∧
 True)))))))
  ((Ob True ∧
 (Ob (0 ≤ wrap .u8 x_ ∧ wrap .u8 x_ < (↑(ByteArray.size jbe) : Int)) ∧
 (Ob True ∧
 (Ob True ∧
 (Ob (wrap .i64 (0 + wrap .i64 (↑(UInt8.toNat (Array.getD (ByteArray.data jbe) (Int.toNat (wrap .u8 x_)) (0 : UInt8))) : Int)) = r) ∧
 True))))))))) = _) ?_
 refine jaN h (fun h => ?_) (fun h => ?_)
 ·refine jfA (p := (0 : Int) ≤ 32) (by decide) ?_
  refine jaN h (fun h => ?_) (fun h => ?_)
  ·refine jfA (p := (0 : Int) ≤ 16) (by decide) ?_
   refine jaN h (fun h => ?_) (fun h => ?_)
   ·refine jfA (p := (0 : Int) ≤ 8) (by decide) ?_
    refine jad ?_
    refine jao h fun h => ?_
    refine jad ?_
    refine jad ?_
    exact rcs h
   ·refine jad ?_
    refine jao h fun h => ?_
    refine jad ?_
    refine jad ?_
    exact rcs h
  ·refine jaN h (fun h => ?_) (fun h => ?_)
   ·refine jfA (p := (0 : Int) ≤ 8) (by decide) ?_
    refine jad ?_
    refine jao h fun h => ?_
    refine jad ?_
    refine jad ?_
    exact rcs h
   ·refine jad ?_
    refine jao h fun h => ?_
    refine jad ?_
    refine jad ?_
    exact rcs h
 ·refine jaN h (fun h => ?_) (fun h => ?_)
  ·refine jfA (p := (0 : Int) ≤ 16) (by decide) ?_
   refine jaN h (fun h => ?_) (fun h => ?_)
   ·refine jfA (p := (0 : Int) ≤ 8) (by decide) ?_
    refine jad ?_
    refine jao h fun h => ?_
    refine jad ?_
    refine jad ?_
    exact rcs h
   ·refine jad ?_
    refine jao h fun h => ?_
    refine jad ?_
    refine jad ?_
    exact rcs h
  ·refine jaN h (fun h => ?_) (fun h => ?_)
   ·refine jfA (p := (0 : Int) ≤ 8) (by decide) ?_
    refine jad ?_
    refine jao h fun h => ?_
    refine jad ?_
    refine jad ?_
    exact rcs h
   ·refine jad ?_
    refine jao h fun h => ?_
    refine jad ?_
    refine jad ?_
    exact rcs h
theorem jjU : jag Tryz.prog 166 true (jar je5 y163) := by
 refine jaz (sp := sp0) (fn := Tryz.f166) (body := jaj Tryz.f166) mixed jak Tryz.func166 (by kernel_rfl) (by kernel_rfl) fun as_ ob rs h ho => ?_
 unfold y163 at h
 split at h
 ·rename_i x_
  cases h
  exact ⟨Nat.le_of_ble_eq_true rfl, _, _, jjT x_ _ (jai ho)⟩
 ·cases h
theorem sp_166_ok {sp : jab} (h : jac Tryz.prog sp) : jac Tryz.prog (sp_166 sp) := jah jjU h
def y135 : List (Option Cont) := [none]
def y12 (x_ : Int) : Option Int :=
 Option.bind (y71 x_) fun r0 =>
 some (wrap .i64 (64 - r0))
def y113 : List A → Option (Prop × List RV)
 | [.d (.i .u64 x_)] => some (ok (y12 x_), [.d (.i .i64 ((val (y12 x_))))])
 | _ => none
abbrev sp_150 : jab → jab := jav 150 true (jar y135 y113)
theorem y204 (x_ : Int) (r : Int) (h : Option.bind (y12 x_) some = some r) : jbb Tryz.f150 ((sp_166 sp0)) (fun _ _ _ => none) [.d (.i .u64 x_)] [.d (.i .i64 r)] := by
 refine Eq.mp (by kernel_rfl : (
 (Ob (ok (y71 x_)) ∧
 (Ob True ∧
 (Ob (wrap .i64 (64 - val (y71 x_)) = r) ∧
 True)))) = _) ?_
 refine jau h fun h => ?_
 refine jad ?_
 exact rcs h
theorem y205 : jag Tryz.prog 150 true (jar y135 y113) := by
 refine jaz (sp := (sp_166 sp0)) (fn := Tryz.f150) (body := jaj Tryz.f150) mixed (sp_166_ok jak) Tryz.func150 (by kernel_rfl) (by kernel_rfl) fun as_ ob rs h ho => ?_
 unfold y113 at h
 split at h
 ·rename_i x_
  cases h
  exact ⟨Nat.le_of_ble_eq_true rfl, _, _, y204 x_ _ (jai ho)⟩
 ·cases h
theorem sp_150_ok {sp : jab} (h : jac Tryz.prog sp) : jac Tryz.prog (sp_150 sp) := jah y205 h
def je6 : List (Option Cont) := [none, none, none]
def y45 (lo : Int) (y_ : Int) (r0 : Int) (x0 : (Int × Int)) : Option ((Int × Int) ⊕ Int) :=
 if x0.1 ≥ 4294967296 then
  if wrap .u64 (x0.2 + Int.fdiv (wrap .u64 (y_ * 2 ^ min (Int.toNat (wrap .u64 r0)) (IntKind.bits .u64))) ((2 : Int) ^ min (32 : Nat) (IntKind.bits .u64))) ≥ 4294967296 then
  some (.inr (wrap .u64 (x0.1 - 1)))
  else
  some (.inl ((wrap .u64 (x0.1 - 1), wrap .u64 (x0.2 + Int.fdiv (wrap .u64 (y_ * 2 ^ min (Int.toNat (wrap .u64 r0)) (IntKind.bits .u64))) ((2 : Int) ^ min (32 : Nat) (IntKind.bits .u64))))))
 else
  if wrap .u64 (x0.1 * wrap .u64 (↑(BitVec.toNat (BitVec.ofInt (IntKind.bits .u64) (wrap .u64 (y_ * 2 ^ min (Int.toNat (wrap .u64 r0)) (IntKind.bits .u64))) &&& BitVec.ofInt (IntKind.bits .u64) (4294967295 : Int))) : Int)) > wrap .u64 (wrap .u64 (4294967296 * x0.2) + Int.fdiv (wrap .u64 (lo * 2 ^ min (Int.toNat (wrap .u64 r0)) (IntKind.bits .u64))) ((2 : Int) ^ min (32 : Nat) (IntKind.bits .u64))) then
  if wrap .u64 (x0.2 + Int.fdiv (wrap .u64 (y_ * 2 ^ min (Int.toNat (wrap .u64 r0)) (IntKind.bits .u64))) ((2 : Int) ^ min (32 : Nat) (IntKind.bits .u64))) ≥ 4294967296 then
   some (.inr (wrap .u64 (x0.1 - 1)))
  else
   some (.inl ((wrap .u64 (x0.1 - 1), wrap .u64 (x0.2 + Int.fdiv (wrap .u64 (y_ * 2 ^ min (Int.toNat (wrap .u64 r0)) (IntKind.bits .u64))) ((2 : Int) ^ min (32 : Nat) (IntKind.bits .u64))))))
  else
  some (.inr x0.1)
def y83 (lo : Int) (y_ : Int) (r0 : Int) (x1 : (Int × Int)) : Option ((Int × Int) ⊕ Int) :=
 if x1.2 ≥ 4294967296 then
  if wrap .u64 (x1.1 + Int.fdiv (wrap .u64 (y_ * 2 ^ min (Int.toNat (wrap .u64 r0)) (IntKind.bits .u64))) ((2 : Int) ^ min (32 : Nat) (IntKind.bits .u64))) ≥ 4294967296 then
  some (.inr (wrap .u64 (x1.2 - 1)))
  else
  some (.inl ((wrap .u64 (x1.1 + Int.fdiv (wrap .u64 (y_ * 2 ^ min (Int.toNat (wrap .u64 r0)) (IntKind.bits .u64))) ((2 : Int) ^ min (32 : Nat) (IntKind.bits .u64))), wrap .u64 (x1.2 - 1))))
 else
  if wrap .u64 (x1.2 * wrap .u64 (↑(BitVec.toNat (BitVec.ofInt (IntKind.bits .u64) (wrap .u64 (y_ * 2 ^ min (Int.toNat (wrap .u64 r0)) (IntKind.bits .u64))) &&& BitVec.ofInt (IntKind.bits .u64) (4294967295 : Int))) : Int)) > wrap .u64 (wrap .u64 (4294967296 * x1.1) + wrap .u64 (↑(BitVec.toNat (BitVec.ofInt (IntKind.bits .u64) (wrap .u64 (lo * 2 ^ min (Int.toNat (wrap .u64 r0)) (IntKind.bits .u64))) &&& BitVec.ofInt (IntKind.bits .u64) (4294967295 : Int))) : Int)) then
  if wrap .u64 (x1.1 + Int.fdiv (wrap .u64 (y_ * 2 ^ min (Int.toNat (wrap .u64 r0)) (IntKind.bits .u64))) ((2 : Int) ^ min (32 : Nat) (IntKind.bits .u64))) ≥ 4294967296 then
   some (.inr (wrap .u64 (x1.2 - 1)))
  else
   some (.inl ((wrap .u64 (x1.1 + Int.fdiv (wrap .u64 (y_ * 2 ^ min (Int.toNat (wrap .u64 r0)) (IntKind.bits .u64))) ((2 : Int) ^ min (32 : Nat) (IntKind.bits .u64))), wrap .u64 (x1.2 - 1))))
  else
  some (.inr x1.2)
def y18 (hi : Int) (lo : Int) (y_ : Int) (u15 : Int) (r0 : Int) (u49 : Int) : Option (Int × Int) :=
 if 0 ≤ wrap .u64 r0 then
  some ((wrap .u64 (wrap .u64 (u15 * 4294967296) + u49), Int.fdiv (wrap .u64 (wrap .u64 (wrap .u64 (wrap .u64 (wrap .u64 (wrap .u64 (wrap .u64 (↑(BitVec.toNat (BitVec.ofInt (IntKind.bits .u64) (wrap .u64 (hi * 2 ^ min (Int.toNat (wrap .u64 r0)) (IntKind.bits .u64))) ||| BitVec.ofInt (IntKind.bits .u64) (Int.fdiv lo ((2 : Int) ^ min (Int.toNat (wrap .u64 (64 - wrap .u64 r0))) (IntKind.bits .u64))))) : Int) * 4294967296) + Int.fdiv (wrap .u64 (lo * 2 ^ min (Int.toNat (wrap .u64 r0)) (IntKind.bits .u64))) ((2 : Int) ^ min (32 : Nat) (IntKind.bits .u64))) - wrap .u64 (u15 * wrap .u64 (y_ * 2 ^ min (Int.toNat (wrap .u64 r0)) (IntKind.bits .u64)))) * 4294967296) + wrap .u64 (↑(BitVec.toNat (BitVec.ofInt (IntKind.bits .u64) (wrap .u64 (lo * 2 ^ min (Int.toNat (wrap .u64 r0)) (IntKind.bits .u64))) &&& BitVec.ofInt (IntKind.bits .u64) (4294967295 : Int))) : Int)) - wrap .u64 (u49 * wrap .u64 (y_ * 2 ^ min (Int.toNat (wrap .u64 r0)) (IntKind.bits .u64))))) ((2 : Int) ^ min (Int.toNat (wrap .u64 r0)) (IntKind.bits .u64))))
 else none
def y65 (hi : Int) (lo : Int) (y_ : Int) (r0 : Int) (u15 : Int) : Option (Int × Int) :=
 if Int.fdiv (wrap .u64 (y_ * 2 ^ min (Int.toNat (wrap .u64 r0)) (IntKind.bits .u64))) ((2 : Int) ^ min (32 : Nat) (IntKind.bits .u64)) ≠ (0 : Int) then
  Option.bind (jae (y83 lo y_ r0) big ((wrap .u64 (wrap .u64 (wrap .u64 (wrap .u64 (wrap .u64 (↑(BitVec.toNat (BitVec.ofInt (IntKind.bits .u64) (wrap .u64 (hi * 2 ^ min (Int.toNat (wrap .u64 r0)) (IntKind.bits .u64))) ||| BitVec.ofInt (IntKind.bits .u64) (Int.fdiv lo ((2 : Int) ^ min (Int.toNat (wrap .u64 (64 - wrap .u64 r0))) (IntKind.bits .u64))))) : Int) * 4294967296) + Int.fdiv (wrap .u64 (lo * 2 ^ min (Int.toNat (wrap .u64 r0)) (IntKind.bits .u64))) ((2 : Int) ^ min (32 : Nat) (IntKind.bits .u64))) - wrap .u64 (u15 * wrap .u64 (y_ * 2 ^ min (Int.toNat (wrap .u64 r0)) (IntKind.bits .u64)))) - wrap .u64 (wrap .u64 (Int.tdiv (wrap .u64 (wrap .u64 (wrap .u64 (wrap .u64 (↑(BitVec.toNat (BitVec.ofInt (IntKind.bits .u64) (wrap .u64 (hi * 2 ^ min (Int.toNat (wrap .u64 r0)) (IntKind.bits .u64))) ||| BitVec.ofInt (IntKind.bits .u64) (Int.fdiv lo ((2 : Int) ^ min (Int.toNat (wrap .u64 (64 - wrap .u64 r0))) (IntKind.bits .u64))))) : Int) * 4294967296) + Int.fdiv (wrap .u64 (lo * 2 ^ min (Int.toNat (wrap .u64 r0)) (IntKind.bits .u64))) ((2 : Int) ^ min (32 : Nat) (IntKind.bits .u64))) - wrap .u64 (u15 * wrap .u64 (y_ * 2 ^ min (Int.toNat (wrap .u64 r0)) (IntKind.bits .u64))))) (Int.fdiv (wrap .u64 (y_ * 2 ^ min (Int.toNat (wrap .u64 r0)) (IntKind.bits .u64))) ((2 : Int) ^ min (32 : Nat) (IntKind.bits .u64)))) * Int.fdiv (wrap .u64 (y_ * 2 ^ min (Int.toNat (wrap .u64 r0)) (IntKind.bits .u64))) ((2 : Int) ^ min (32 : Nat) (IntKind.bits .u64)))), wrap .u64 (Int.tdiv (wrap .u64 (wrap .u64 (wrap .u64 (wrap .u64 (↑(BitVec.toNat (BitVec.ofInt (IntKind.bits .u64) (wrap .u64 (hi * 2 ^ min (Int.toNat (wrap .u64 r0)) (IntKind.bits .u64))) ||| BitVec.ofInt (IntKind.bits .u64) (Int.fdiv lo ((2 : Int) ^ min (Int.toNat (wrap .u64 (64 - wrap .u64 r0))) (IntKind.bits .u64))))) : Int) * 4294967296) + Int.fdiv (wrap .u64 (lo * 2 ^ min (Int.toNat (wrap .u64 r0)) (IntKind.bits .u64))) ((2 : Int) ^ min (32 : Nat) (IntKind.bits .u64))) - wrap .u64 (u15 * wrap .u64 (y_ * 2 ^ min (Int.toNat (wrap .u64 r0)) (IntKind.bits .u64))))) (Int.fdiv (wrap .u64 (y_ * 2 ^ min (Int.toNat (wrap .u64 r0)) (IntKind.bits .u64))) ((2 : Int) ^ min (32 : Nat) (IntKind.bits .u64))))))) (y18 hi lo y_ u15 r0)
 else none
def y72 (hi : Int) (lo : Int) (y_ : Int) : Option (Int × Int) :=
 if (y_ == 0) = true then
  none   else
  if y_ ≤ hi then
  none    else
  if (hi == 0) = true then
   if y_ ≠ (0 : Int) then
   if y_ ≠ (0 : Int) then
    some ((wrap .u64 (Int.tdiv lo y_), Int.tmod lo y_))
   else none
   else none
  else
   Option.bind (y12 y_) fun r0 =>
   if 0 ≤ wrap .u64 r0 then
   if 0 ≤ wrap .u64 r0 then
    if 0 ≤ wrap .u64 (64 - wrap .u64 r0) then
    if 0 ≤ wrap .u64 r0 then
     if Int.fdiv (wrap .u64 (y_ * 2 ^ min (Int.toNat (wrap .u64 r0)) (IntKind.bits .u64))) ((2 : Int) ^ min (32 : Nat) (IntKind.bits .u64)) ≠ (0 : Int) then
     Option.bind (jae (y45 lo y_ r0) big ((wrap .u64 (Int.tdiv (wrap .u64 (↑(BitVec.toNat (BitVec.ofInt (IntKind.bits .u64) (wrap .u64 (hi * 2 ^ min (Int.toNat (wrap .u64 r0)) (IntKind.bits .u64))) ||| BitVec.ofInt (IntKind.bits .u64) (Int.fdiv lo ((2 : Int) ^ min (Int.toNat (wrap .u64 (64 - wrap .u64 r0))) (IntKind.bits .u64))))) : Int)) (Int.fdiv (wrap .u64 (y_ * 2 ^ min (Int.toNat (wrap .u64 r0)) (IntKind.bits .u64))) ((2 : Int) ^ min (32 : Nat) (IntKind.bits .u64)))), wrap .u64 (wrap .u64 (↑(BitVec.toNat (BitVec.ofInt (IntKind.bits .u64) (wrap .u64 (hi * 2 ^ min (Int.toNat (wrap .u64 r0)) (IntKind.bits .u64))) ||| BitVec.ofInt (IntKind.bits .u64) (Int.fdiv lo ((2 : Int) ^ min (Int.toNat (wrap .u64 (64 - wrap .u64 r0))) (IntKind.bits .u64))))) : Int) - wrap .u64 (wrap .u64 (Int.tdiv (wrap .u64 (↑(BitVec.toNat (BitVec.ofInt (IntKind.bits .u64) (wrap .u64 (hi * 2 ^ min (Int.toNat (wrap .u64 r0)) (IntKind.bits .u64))) ||| BitVec.ofInt (IntKind.bits .u64) (Int.fdiv lo ((2 : Int) ^ min (Int.toNat (wrap .u64 (64 - wrap .u64 r0))) (IntKind.bits .u64))))) : Int)) (Int.fdiv (wrap .u64 (y_ * 2 ^ min (Int.toNat (wrap .u64 r0)) (IntKind.bits .u64))) ((2 : Int) ^ min (32 : Nat) (IntKind.bits .u64)))) * Int.fdiv (wrap .u64 (y_ * 2 ^ min (Int.toNat (wrap .u64 r0)) (IntKind.bits .u64))) ((2 : Int) ^ min (32 : Nat) (IntKind.bits .u64))))))) (y65 hi lo y_ r0)
     else none
    else none
    else none
   else none
   else none
def y164 : List A → Option (Prop × List RV)
 | [.d (.i .u64 hi), .d (.i .u64 lo), .d (.i .u64 y_)] => some (ok (y72 hi lo y_), [.d (.i .u64 ((val (y72 hi lo y_)).1)), .d (.i .u64 ((val (y72 hi lo y_)).2))])
 | _ => none
abbrev sp_127 : jab → jab := jav 127 true (jar je6 y164)
private abbrev e0 (hi : Int) (lo : Int) (y_ : Int) : Int := wrap .u64 (wrap .u64 (↑(BitVec.toNat (BitVec.ofInt (IntKind.bits .u64) (wrap .u64 (hi * 2 ^ min (Int.toNat (wrap .u64 (val (y12 y_)))) (IntKind.bits .u64))) ||| BitVec.ofInt (IntKind.bits .u64) (Int.fdiv lo ((2 : Int) ^ min (Int.toNat (wrap .u64 (64 - wrap .u64 (val (y12 y_))))) (IntKind.bits .u64))))) : Int) * 4294967296) + Int.fdiv (wrap .u64 (lo * 2 ^ min (Int.toNat (wrap .u64 (val (y12 y_)))) (IntKind.bits .u64))) ((2 : Int) ^ min (32 : Nat) (IntKind.bits .u64))
private abbrev e1 (y_ : Int) : Int := wrap .u64 (y_ * 2 ^ min (Int.toNat (wrap .u64 (val (y12 y_)))) (IntKind.bits .u64))
private abbrev e2 (y_ : Int) : Int := wrap .u64 (val (y12 y_))
private abbrev e3  : Int := (2 : Int) ^ min (32 : Nat) (IntKind.bits .u64)
private abbrev e4 (lo : Int) (y_ : Int) : Int := wrap .u64 (lo * 2 ^ min (Int.toNat (e2 y_)) (IntKind.bits .u64))
private abbrev e5 (y_ : Int) : Int := val (y12 y_)
private abbrev e6 (lo : Int) (y_ : Int) : Int := Int.fdiv lo ((2 : Int) ^ min (Int.toNat (wrap .u64 (64 - wrap .u64 (e5 y_)))) (IntKind.bits .u64))
private abbrev e7 (hi : Int) (y_ : Int) : Int := wrap .u64 (hi * 2 ^ min (Int.toNat (e2 y_)) (IntKind.bits .u64))
private abbrev e8 (hi : Int) (lo : Int) (y_ : Int) : Int := wrap .u64 (↑(BitVec.toNat (BitVec.ofInt (IntKind.bits .u64) (e7 hi y_) ||| BitVec.ofInt (IntKind.bits .u64) (e6 lo y_))) : Int)
private abbrev e9 (y_ : Int) : Int := (2 : Int) ^ min (Int.toNat (e2 y_)) (IntKind.bits .u64)
abbrev jm2 (lo : Int) (y_ : Int) := (↑(BitVec.toNat (BitVec.ofInt (IntKind.bits .u64) (e4 lo y_) &&& BitVec.ofInt (IntKind.bits .u64) (4294967295 : Int))) : Int)
abbrev jcq (y_ : Int) := (y_ * 2 ^ min (Int.toNat (e2 y_)) (IntKind.bits .u64))
abbrev jpS (y_ : Int) := (↑(BitVec.toNat (BitVec.ofInt (IntKind.bits .u64) (e1 y_) &&& BitVec.ofInt (IntKind.bits .u64) (4294967295 : Int))) : Int)
abbrev jki (hi : Int) (lo : Int) (y_ : Int) (v1 : Int × (Int × Int) × Nat) := (wrap .u64 (wrap .u64 (wrap .u64 (wrap .u64 (wrap .u64 (e0 hi lo y_) - wrap .u64 (v1.1 * wrap .u64 (jcq y_))) * 4294967296) + wrap .u64 (jm2 lo y_)) - wrap .u64 (wrap .u64 (v1.2.1.2 - 1) * wrap .u64 (jcq y_))))
abbrev jkj (hi : Int) (lo : Int) (y_ : Int) (v1 : Int × (Int × Int) × Nat) (v2 : Int × (Int × Int) × Nat) := (wrap .u64 (wrap .u64 (e0 hi lo y_) - wrap .u64 (v1.1 * wrap .u64 (jcq y_))) = wrap .u64 (wrap .u64 (e0 hi lo y_) - wrap .u64 (v2.1 * wrap .u64 (jcq y_))))
abbrev jgl (hi : Int) (lo : Int) (y_ : Int) (v0 : (Int × Int) × Nat) := (wrap .u64 (e0 hi lo y_) - wrap .u64 (wrap .u64 (v0.1.1 - 1) * wrap .u64 (jcq y_)))
abbrev jie (hi : Int) (lo : Int) (y_ : Int) := (↑(BitVec.toNat (BitVec.ofInt (IntKind.bits .u64) (e7 hi y_) ||| BitVec.ofInt (IntKind.bits .u64) (e6 lo y_))) : Int)
abbrev jdi (lo : Int) (y_ : Int) := (wrap .u64 (jm2 lo y_) = wrap .u64 (jm2 lo y_))
abbrev jdj (y_ : Int) := (wrap .u64 (jcq y_) = wrap .u64 (jcq y_))
abbrev jdk (y_ : Int) := (wrap .u64 (jpS y_) = wrap .u64 (jpS y_))
abbrev jcF (y_ : Int) := (wrap .u64 (e5 y_) = wrap .u64 (e5 y_))
abbrev jrz (hi : Int) (lo : Int) (y_ : Int) (v1 : Int × (Int × Int) × Nat) := (wrap .u64 (wrap .u64 (wrap .u64 (wrap .u64 (wrap .u64 (e0 hi lo y_) - wrap .u64 (v1.1 * wrap .u64 (jcq y_))) * 4294967296) + wrap .u64 (jm2 lo y_)) - wrap .u64 (v1.2.1.2 * wrap .u64 (jcq y_))))
abbrev jcG (y_ : Int) := (Int.fdiv (e1 y_) (e3 ) = Int.fdiv (e1 y_) (e3 ))
abbrev jhc (v1 : Int × (Int × Int) × Nat) := (wrap .u64 (v1.1 * 4294967296) + wrap .u64 (v1.2.1.2 - 1))
abbrev jcH (y_ : Int) := (0 ≤ wrap .u64 (e5 y_))
abbrev jhd (y_ : Int) (v1 : Int × (Int × Int) × Nat) := (decide (wrap .u64 (v1.2.1.1 + Int.fdiv (e1 y_) (e3 )) ≥ 4294967296))
abbrev jrA (lo : Int) (y_ : Int) (v1 : Int × (Int × Int) × Nat) := (decide (wrap .u64 (v1.2.1.2 * wrap .u64 (jpS y_)) > wrap .u64 (wrap .u64 (4294967296 * v1.2.1.1) + wrap .u64 (jm2 lo y_))))
abbrev jcI (lo : Int) (y_ : Int) := (y83 lo y_ (e5 y_))
theorem jjV (hi : Int) (lo : Int) (y_ : Int) (r : Int × Int) (h : Option.bind (y72 hi lo y_) some = some r) : jbb Tryz.f127 ((sp_150 sp0)) (fun gs id _ => match id with
 | 0 => some ⟨(Int × Int) × Nat, fun z => ⟨[(2, .w (.c (.d (.i .u64 (e1 y_))))), (8, .w (.c (.d (.i .u64 (e2 y_))))), (9, .w (.c (.d (.i .u64 (Int.fdiv (e1 y_) (e3 )))))), (10, .w (.c (.d (.i .u64 (wrap .u64 (↑(BitVec.toNat (BitVec.ofInt (IntKind.bits .u64) (e1 y_) &&& BitVec.ofInt (IntKind.bits .u64) (4294967295 : Int))) : Int)))))), (11, .w (.c (.d (.i .u64 (e8 hi lo y_))))), (13, .w (.c (.d (.i .u64 (Int.fdiv (e4 lo y_) (e3 )))))), (14, .w (.c (.d (.i .u64 (wrap .u64 (↑(BitVec.toNat (BitVec.ofInt (IntKind.bits .u64) (e4 lo y_) &&& BitVec.ofInt (IntKind.bits .u64) (4294967295 : Int))) : Int)))))), (15, .w (.c (.d (.i .u64 (Prod.fst (Prod.fst z)))))), (16, .w (.c (.d (.i .u64 (Prod.snd (Prod.fst z))))))], [], 3⟩, fun z => Option.bind (jae (y45 lo y_ (e5 y_)) (Prod.snd z) (Prod.fst z)) (fun y0 => Option.bind (y65 hi lo y_ (e5 y_) y0) some) = some r, fun z => Prod.snd z⟩
 | 2 => some ⟨Int × (Int × Int) × Nat, fun z => ⟨[(2, .w (.c (.d (.i .u64 (e1 y_))))), (8, .w (.c (.d (.i .u64 (e2 y_))))), (9, .w (.c (.d (.i .u64 (Int.fdiv (e1 y_) (e3 )))))), (10, .w (.c (.d (.i .u64 (wrap .u64 (↑(BitVec.toNat (BitVec.ofInt (IntKind.bits .u64) (e1 y_) &&& BitVec.ofInt (IntKind.bits .u64) (4294967295 : Int))) : Int)))))), (14, .w (.c (.d (.i .u64 (wrap .u64 (↑(BitVec.toNat (BitVec.ofInt (IntKind.bits .u64) (e4 lo y_) &&& BitVec.ofInt (IntKind.bits .u64) (4294967295 : Int))) : Int)))))), (15, .w (.c (.d (.i .u64 (Prod.fst z))))), (16, .w (.c (.d (.i .u64 (Prod.fst (Prod.fst (Prod.snd z))))))), (17, .w (.c (.d (.i .u64 (wrap .u64 (wrap .u64 (e0 hi lo y_) - wrap .u64 (Prod.fst z * wrap .u64 (y_ * 2 ^ min (Int.toNat (e2 y_)) (IntKind.bits .u64))))))))), (18, .w (.c (.d (.i .u64 (Prod.snd (Prod.fst (Prod.snd z)))))))], [], 3⟩, fun z => Option.bind (jae (y83 lo y_ (e5 y_)) (Prod.snd (Prod.snd z)) (Prod.fst (Prod.snd z))) (fun y0 => Option.bind (y18 hi lo y_ (Prod.fst z) (e5 y_) y0) some) = some r, fun z => Prod.snd (Prod.snd z)⟩
 | _ => none) [.d (.i .u64 hi), .d (.i .u64 lo), .d (.i .u64 y_)] [.d (.i .u64 r.1), .d (.i .u64 r.2)] := by
 refine Eq.mp (by kernel_rfl : (
 Br (y_ == 0)
  (False)
 (Br (decide (y_ ≤ hi))
  (False)
 (Br (hi == 0)
  ((Ob (y_ ≠ (0 : Int)) ∧
 (Ob (y_ ≠ (0 : Int)) ∧
 (Ob True ∧
 (Ob True ∧
 (Ob (wrap .u64 (Int.tdiv lo y_) = r.1) ∧
 (Ob (Int.tmod lo y_ = r.2) ∧
 True)))))))
  ((Ob (ok (y12 y_)) ∧
 (Ob True ∧
 (Ob (jcH y_) ∧
 (Ob ((0 : Int) ≤ 32) ∧
 (Ob (jcH y_) ∧
 (Ob (0 ≤ wrap .u64 (64 - wrap .u64 (e5 y_))) ∧
 (Ob (jcH y_) ∧
 (Ob ((0 : Int) ≤ 32) ∧
 (Ob (Int.fdiv (e1 y_) (e3 ) ≠ (0 : Int)) ∧
  ((∃ (v0 : (Int × Int) × Nat), (Ob ((Option.bind (jae (y45 lo y_ (e5 y_)) v0.2 v0.1) fun y0 => Option.bind (y65 hi lo y_ (e5 y_) y0) some) = some r) ∧
 (Ob (jdj y_) ∧
 (Ob (jcF y_) ∧
 (Ob (jcG y_) ∧
 (Ob (jdk y_) ∧
 (Ob (wrap .u64 (jie hi lo y_) = wrap .u64 (jie hi lo y_)) ∧
 (Ob (Int.fdiv (e4 lo y_) (e3 ) = Int.fdiv (e4 lo y_) (e3 )) ∧
 (Ob (jdi lo y_) ∧
 (Ob (wrap .u64 (Int.tdiv (e8 hi lo y_) (Int.fdiv (e1 y_) (e3 ))) = v0.1.1) ∧
 (Ob (wrap .u64 (wrap .u64 (jie hi lo y_) - wrap .u64 (wrap .u64 (Int.tdiv (e8 hi lo y_) (Int.fdiv (e1 y_) (e3 ))) * Int.fdiv (e1 y_) (e3 ))) = v0.1.2) ∧
 True))))))))))) ∧
  (∀ (v0 : (Int × Int) × Nat), ((Option.bind (jae (y45 lo y_ (e5 y_)) v0.2 v0.1) fun y0 => Option.bind (y65 hi lo y_ (e5 y_) y0) some) = some r →
 Br (decide (v0.1.1 ≥ 4294967296))
 (Br (decide (wrap .u64 (v0.1.2 + Int.fdiv (e1 y_) (e3 )) ≥ 4294967296))
  ((Ob (Int.fdiv (e1 y_) (e3 ) ≠ (0 : Int)) ∧
  ((∃ (v1 : Int × (Int × Int) × Nat), (Ob ((Option.bind (jae (jcI lo y_) v1.2.2 v1.2.1) fun y0 => Option.bind (y18 hi lo y_ v1.1 (e5 y_) y0) some) = some r) ∧
 (Ob (jdj y_) ∧
 (Ob (jcF y_) ∧
 (Ob (jcG y_) ∧
 (Ob (jdk y_) ∧
 (Ob (jdi lo y_) ∧
 (Ob (wrap .u64 (v0.1.1 - 1) = v1.1) ∧
 (Ob (wrap .u64 (wrap .u64 (jgl hi lo y_ v0) - wrap .u64 (wrap .u64 (Int.tdiv (wrap .u64 (jgl hi lo y_ v0)) (Int.fdiv (e1 y_) (e3 ))) * Int.fdiv (e1 y_) (e3 ))) = v1.2.1.1) ∧
 (Ob (wrap .u64 (jgl hi lo y_ v0) = wrap .u64 (wrap .u64 (e0 hi lo y_) - wrap .u64 (v1.1 * wrap .u64 (jcq y_)))) ∧
 (Ob (wrap .u64 (Int.tdiv (wrap .u64 (jgl hi lo y_ v0)) (Int.fdiv (e1 y_) (e3 ))) = v1.2.1.2) ∧
 True))))))))))) ∧
  (∀ (v1 : Int × (Int × Int) × Nat), ((Option.bind (jae (jcI lo y_) v1.2.2 v1.2.1) fun y0 => Option.bind (y18 hi lo y_ v1.1 (e5 y_) y0) some) = some r →
 Br (decide (v1.2.1.2 ≥ 4294967296))
 (Br (jhd y_ v1)
  ((Ob (jcH y_) ∧
 (Ob True ∧
 (Ob True ∧
 (Ob (wrap .u64 (jhc v1) = r.1) ∧
 (Ob (Int.fdiv (jki hi lo y_ v1) (e9 y_) = r.2) ∧
 True))))))
  ((∃ (v2 : Int × (Int × Int) × Nat), (Ob ((Option.bind (jae (jcI lo y_) v2.2.2 v2.2.1) fun y0 => Option.bind (y18 hi lo y_ v2.1 (e5 y_) y0) some) = some r) ∧
 (Ob (v2.2.2 < v1.2.2) ∧
 (Ob (jdj y_) ∧
 (Ob (jcF y_) ∧
 (Ob (jcG y_) ∧
 (Ob (jdk y_) ∧
 (Ob (jdi lo y_) ∧
 (Ob (v1.1 = v2.1) ∧
 (Ob (wrap .u64 (v1.2.1.1 + Int.fdiv (e1 y_) (e3 )) = v2.2.1.1) ∧
 (Ob (jkj hi lo y_ v1 v2) ∧
 (Ob (wrap .u64 (v1.2.1.2 - 1) = v2.2.1.2) ∧
 True))))))))))))))
 (Br (jrA lo y_ v1)
 (Br (jhd y_ v1)
  ((Ob (jcH y_) ∧
 (Ob True ∧
 (Ob True ∧
 (Ob (wrap .u64 (jhc v1) = r.1) ∧
 (Ob (Int.fdiv (jki hi lo y_ v1) (e9 y_) = r.2) ∧
 True))))))
  ((∃ (v2 : Int × (Int × Int) × Nat), (Ob ((Option.bind (jae (jcI lo y_) v2.2.2 v2.2.1) fun y0 => Option.bind (y18 hi lo y_ v2.1 (e5 y_) y0) some) = some r) ∧
 (Ob (v2.2.2 < v1.2.2) ∧
 (Ob (jdj y_) ∧
 (Ob (jcF y_) ∧
 (Ob (jcG y_) ∧
 (Ob (jdk y_) ∧
 (Ob (jdi lo y_) ∧
 (Ob (v1.1 = v2.1) ∧
 (Ob (wrap .u64 (v1.2.1.1 + Int.fdiv (e1 y_) (e3 )) = v2.2.1.1) ∧
 (Ob (jkj hi lo y_ v1 v2) ∧
 (Ob (wrap .u64 (v1.2.1.2 - 1) = v2.2.1.2) ∧
 True))))))))))))))
  ((Ob (jcH y_) ∧
 (Ob True ∧
 (Ob True ∧
 (Ob (wrap .u64 (wrap .u64 (v1.1 * 4294967296) + v1.2.1.2) = r.1) ∧
 (Ob (Int.fdiv (jrz hi lo y_ v1) (e9 y_) = r.2) ∧
 True))))))))))))
  ((∃ (v1a : (Int × Int) × Nat), (Ob ((Option.bind (jae (y45 lo y_ (e5 y_)) v1a.2 v1a.1) fun y0 => Option.bind (y65 hi lo y_ (e5 y_) y0) some) = some r) ∧
 (Ob (v1a.2 < v0.2) ∧
 (Ob (jdj y_) ∧
 (Ob (jcF y_) ∧
 (Ob (jcG y_) ∧
 (Ob (jdk y_) ∧
 (Ob (wrap .u64 (jie hi lo y_) = wrap .u64 (jie hi lo y_)) ∧
 (Ob (Int.fdiv (e4 lo y_) (e3 ) = Int.fdiv (e4 lo y_) (e3 )) ∧
 (Ob (jdi lo y_) ∧
 (Ob (wrap .u64 (v0.1.1 - 1) = v1a.1.1) ∧
 (Ob (wrap .u64 (v0.1.2 + Int.fdiv (e1 y_) (e3 )) = v1a.1.2) ∧
 True))))))))))))))
 (Br (decide (wrap .u64 (v0.1.1 * wrap .u64 (jpS y_)) > wrap .u64 (wrap .u64 (4294967296 * v0.1.2) + Int.fdiv (e4 lo y_) (e3 ))))
 (Br (decide (wrap .u64 (v0.1.2 + Int.fdiv (e1 y_) (e3 )) ≥ 4294967296))
  ((Ob (Int.fdiv (e1 y_) (e3 ) ≠ (0 : Int)) ∧
  ((∃ (v1 : Int × (Int × Int) × Nat), (Ob ((Option.bind (jae (jcI lo y_) v1.2.2 v1.2.1) fun y0 => Option.bind (y18 hi lo y_ v1.1 (e5 y_) y0) some) = some r) ∧
 (Ob (jdj y_) ∧
 (Ob (jcF y_) ∧
 (Ob (jcG y_) ∧
 (Ob (jdk y_) ∧
 (Ob (jdi lo y_) ∧
 (Ob (wrap .u64 (v0.1.1 - 1) = v1.1) ∧
 (Ob (wrap .u64 (wrap .u64 (jgl hi lo y_ v0) - wrap .u64 (wrap .u64 (Int.tdiv (wrap .u64 (jgl hi lo y_ v0)) (Int.fdiv (e1 y_) (e3 ))) * Int.fdiv (e1 y_) (e3 ))) = v1.2.1.1) ∧
 (Ob (wrap .u64 (jgl hi lo y_ v0) = wrap .u64 (wrap .u64 (e0 hi lo y_) - wrap .u64 (v1.1 * wrap .u64 (jcq y_)))) ∧
 (Ob (wrap .u64 (Int.tdiv (wrap .u64 (jgl hi lo y_ v0)) (Int.fdiv (e1 y_) (e3 ))) = v1.2.1.2) ∧
 True))))))))))) ∧
  (∀ (v1 : Int × (Int × Int) × Nat), ((Option.bind (jae (jcI lo y_) v1.2.2 v1.2.1) fun y0 => Option.bind (y18 hi lo y_ v1.1 (e5 y_) y0) some) = some r →
 Br (decide (v1.2.1.2 ≥ 4294967296))
 (Br (jhd y_ v1)
  ((Ob (jcH y_) ∧
 (Ob True ∧
 (Ob True ∧
 (Ob (wrap .u64 (jhc v1) = r.1) ∧
 (Ob (Int.fdiv (jki hi lo y_ v1) (e9 y_) = r.2) ∧
 True))))))
  ((∃ (v2 : Int × (Int × Int) × Nat), (Ob ((Option.bind (jae (jcI lo y_) v2.2.2 v2.2.1) fun y0 => Option.bind (y18 hi lo y_ v2.1 (e5 y_) y0) some) = some r) ∧
 (Ob (v2.2.2 < v1.2.2) ∧
 (Ob (jdj y_) ∧
 (Ob (jcF y_) ∧
 (Ob (jcG y_) ∧
 (Ob (jdk y_) ∧
 (Ob (jdi lo y_) ∧
 (Ob (v1.1 = v2.1) ∧
 (Ob (wrap .u64 (v1.2.1.1 + Int.fdiv (e1 y_) (e3 )) = v2.2.1.1) ∧
 (Ob (jkj hi lo y_ v1 v2) ∧
 (Ob (wrap .u64 (v1.2.1.2 - 1) = v2.2.1.2) ∧
 True))))))))))))))
 (Br (jrA lo y_ v1)
 (Br (jhd y_ v1)
  ((Ob (jcH y_) ∧
 (Ob True ∧
 (Ob True ∧
 (Ob (wrap .u64 (jhc v1) = r.1) ∧
 (Ob (Int.fdiv (jki hi lo y_ v1) (e9 y_) = r.2) ∧
 True))))))
  ((∃ (v2 : Int × (Int × Int) × Nat), (Ob ((Option.bind (jae (jcI lo y_) v2.2.2 v2.2.1) fun y0 => Option.bind (y18 hi lo y_ v2.1 (e5 y_) y0) some) = some r) ∧
 (Ob (v2.2.2 < v1.2.2) ∧
 (Ob (jdj y_) ∧
 (Ob (jcF y_) ∧
 (Ob (jcG y_) ∧
 (Ob (jdk y_) ∧
 (Ob (jdi lo y_) ∧
 (Ob (v1.1 = v2.1) ∧
 (Ob (wrap .u64 (v1.2.1.1 + Int.fdiv (e1 y_) (e3 )) = v2.2.1.1) ∧
 (Ob (jkj hi lo y_ v1 v2) ∧
 (Ob (wrap .u64 (v1.2.1.2 - 1) = v2.2.1.2) ∧
 True))))))))))))))
  ((Ob (jcH y_) ∧
 (Ob True ∧
 (Ob True ∧
 (Ob (wrap .u64 (wrap .u64 (v1.1 * 4294967296) + v1.2.1.2) = r.1) ∧
 (Ob (Int.fdiv (jrz hi lo y_ v1) (e9 y_) = r.2) ∧
 True))))))))))))
  ((∃ (v1a : (Int × Int) × Nat), (Ob ((Option.bind (jae (y45 lo y_ (e5 y_)) v1a.2 v1a.1) fun y0 => Option.bind (y65 hi lo y_ (e5 y_) y0) some) = some r) ∧
 (Ob (v1a.2 < v0.2) ∧
 (Ob (jdj y_) ∧
 (Ob (jcF y_) ∧
 (Ob (jcG y_) ∧
 (Ob (jdk y_) ∧
 (Ob (wrap .u64 (jie hi lo y_) = wrap .u64 (jie hi lo y_)) ∧
 (Ob (Int.fdiv (e4 lo y_) (e3 ) = Int.fdiv (e4 lo y_) (e3 )) ∧
 (Ob (jdi lo y_) ∧
 (Ob (wrap .u64 (v0.1.1 - 1) = v1a.1.1) ∧
 (Ob (wrap .u64 (v0.1.2 + Int.fdiv (e1 y_) (e3 )) = v1a.1.2) ∧
 True))))))))))))))
  ((Ob (Int.fdiv (e1 y_) (e3 ) ≠ (0 : Int)) ∧
  ((∃ (v1 : Int × (Int × Int) × Nat), (Ob ((Option.bind (jae (jcI lo y_) v1.2.2 v1.2.1) fun y0 => Option.bind (y18 hi lo y_ v1.1 (e5 y_) y0) some) = some r) ∧
 (Ob (jdj y_) ∧
 (Ob (jcF y_) ∧
 (Ob (jcG y_) ∧
 (Ob (jdk y_) ∧
 (Ob (jdi lo y_) ∧
 (Ob (v0.1.1 = v1.1) ∧
 (Ob (wrap .u64 (wrap .u64 (wrap .u64 (e0 hi lo y_) - wrap .u64 (v0.1.1 * wrap .u64 (jcq y_))) - wrap .u64 (wrap .u64 (Int.tdiv (wrap .u64 (wrap .u64 (e0 hi lo y_) - wrap .u64 (v0.1.1 * wrap .u64 (jcq y_)))) (Int.fdiv (e1 y_) (e3 ))) * Int.fdiv (e1 y_) (e3 ))) = v1.2.1.1) ∧
 (Ob (wrap .u64 (wrap .u64 (e0 hi lo y_) - wrap .u64 (v0.1.1 * wrap .u64 (jcq y_))) = wrap .u64 (wrap .u64 (e0 hi lo y_) - wrap .u64 (v1.1 * wrap .u64 (jcq y_)))) ∧
 (Ob (wrap .u64 (Int.tdiv (wrap .u64 (wrap .u64 (e0 hi lo y_) - wrap .u64 (v0.1.1 * wrap .u64 (jcq y_)))) (Int.fdiv (e1 y_) (e3 ))) = v1.2.1.2) ∧
 True))))))))))) ∧
  (∀ (v1 : Int × (Int × Int) × Nat), ((Option.bind (jae (jcI lo y_) v1.2.2 v1.2.1) fun y0 => Option.bind (y18 hi lo y_ v1.1 (e5 y_) y0) some) = some r →
 Br (decide (v1.2.1.2 ≥ 4294967296))
 (Br (jhd y_ v1)
  ((Ob (jcH y_) ∧
 (Ob True ∧
 (Ob True ∧
 (Ob (wrap .u64 (jhc v1) = r.1) ∧
 (Ob (Int.fdiv (jki hi lo y_ v1) (e9 y_) = r.2) ∧
 True))))))
  ((∃ (v2 : Int × (Int × Int) × Nat), (Ob ((Option.bind (jae (jcI lo y_) v2.2.2 v2.2.1) fun y0 => Option.bind (y18 hi lo y_ v2.1 (e5 y_) y0) some) = some r) ∧
 (Ob (v2.2.2 < v1.2.2) ∧
 (Ob (jdj y_) ∧
 (Ob (jcF y_) ∧
 (Ob (jcG y_) ∧
 (Ob (jdk y_) ∧
 (Ob (jdi lo y_) ∧
 (Ob (v1.1 = v2.1) ∧
 (Ob (wrap .u64 (v1.2.1.1 + Int.fdiv (e1 y_) (e3 )) = v2.2.1.1) ∧
 (Ob (jkj hi lo y_ v1 v2) ∧
 (Ob (wrap .u64 (v1.2.1.2 - 1) = v2.2.1.2) ∧
 True))))))))))))))
 (Br (jrA lo y_ v1)
 (Br (jhd y_ v1)
  ((Ob (jcH y_) ∧
 (Ob True ∧
 (Ob True ∧
 (Ob (wrap .u64 (jhc v1) = r.1) ∧
 (Ob (Int.fdiv (jki hi lo y_ v1) (e9 y_) = r.2) ∧
 True))))))
  ((∃ (v2 : Int × (Int × Int) × Nat), (Ob ((Option.bind (jae (jcI lo y_) v2.2.2 v2.2.1) fun y0 => Option.bind (y18 hi lo y_ v2.1 (e5 y_) y0) some) = some r) ∧
 (Ob (v2.2.2 < v1.2.2) ∧
 (Ob (jdj y_) ∧
 (Ob (jcF y_) ∧
 (Ob (jcG y_) ∧
 (Ob (jdk y_) ∧
 (Ob (jdi lo y_) ∧
 (Ob (v1.1 = v2.1) ∧
 (Ob (wrap .u64 (v1.2.1.1 + Int.fdiv (e1 y_) (e3 )) = v2.2.1.1) ∧
 (Ob (jkj hi lo y_ v1 v2) ∧
 (Ob (wrap .u64 (v1.2.1.2 - 1) = v2.2.1.2) ∧
 True))))))))))))))
  ((Ob (jcH y_) ∧
 (Ob True ∧
 (Ob True ∧
 (Ob (wrap .u64 (wrap .u64 (v1.1 * 4294967296) + v1.2.1.2) = r.1) ∧
 (Ob (Int.fdiv (jrz hi lo y_ v1) (e9 y_) = r.2) ∧
 True))))))))))))))))))))))))))))) = _) ?_
 refine jaW h (fun h => ?_) (fun h => ?_)
 ·exact nomatch h
 ·refine jaN h (fun h => ?_) (fun h => ?_)
  ·exact nomatch h
  ·refine jaW h (fun h => ?_) (fun h => ?_)
   ·refine jao h fun h => ?_
    refine jao h fun h => ?_
    refine jad ?_
    refine jad ?_
    exact rcs h
   ·refine jau h fun h => ?_
    refine jad ?_
    refine jao h fun h => ?_
    refine jfA (p := (0 : Int) ≤ 32) (by decide) ?_
    refine jao h fun h => ?_
    refine jao h fun h => ?_
    refine jao h fun h => ?_
    refine jfA (p := (0 : Int) ≤ 32) (by decide) ?_
    refine jao h fun h => ?_
    refine ⟨⟨((wrap .u64 (Int.tdiv (e8 hi lo y_) (Int.fdiv (e1 y_) (e3 ))), wrap .u64 (wrap .u64 (↑(BitVec.toNat (BitVec.ofInt (IntKind.bits .u64) (e7 hi y_) ||| BitVec.ofInt (IntKind.bits .u64) (e6 lo y_))) : Int) - wrap .u64 (wrap .u64 (Int.tdiv (e8 hi lo y_) (Int.fdiv (e1 y_) (e3 ))) * Int.fdiv (e1 y_) (e3 )))), big), ⟨jbd h⟩, (by repeat' constructor)⟩, fun z1 hz1 => ?_⟩
    obtain ⟨k1, hm1, h⟩ := jaT hz1
    refine jaN h (fun h => ?_) (fun h => ?_)
    ·refine jaN h (fun h => ?_) (fun h => ?_)
     ·have h := jaA h
      refine jao h fun h => ?_
      refine ⟨⟨(wrap .u64 ((Prod.fst z1).1 - 1), (wrap .u64 (wrap .u64 (wrap .u64 (e0 hi lo y_) - wrap .u64 (wrap .u64 ((Prod.fst z1).1 - 1) * wrap .u64 (y_ * 2 ^ min (Int.toNat (e2 y_)) (IntKind.bits .u64)))) - wrap .u64 (wrap .u64 (Int.tdiv (wrap .u64 (wrap .u64 (e0 hi lo y_) - wrap .u64 (wrap .u64 ((Prod.fst z1).1 - 1) * wrap .u64 (y_ * 2 ^ min (Int.toNat (e2 y_)) (IntKind.bits .u64))))) (Int.fdiv (e1 y_) (e3 ))) * Int.fdiv (e1 y_) (e3 ))), wrap .u64 (Int.tdiv (wrap .u64 (wrap .u64 (e0 hi lo y_) - wrap .u64 (wrap .u64 ((Prod.fst z1).1 - 1) * wrap .u64 (y_ * 2 ^ min (Int.toNat (e2 y_)) (IntKind.bits .u64))))) (Int.fdiv (e1 y_) (e3 )))), big), ⟨jbd h⟩, (by repeat' constructor)⟩, fun z2 hz2 => ?_⟩
      obtain ⟨k2, hm2, h⟩ := jaT hz2
      refine jaN h (fun h => ?_) (fun h => ?_)
      ·refine jaN h (fun h => ?_) (fun h => ?_)
       ·have h := jaA h
        refine jao h fun h => ?_
        refine jad ?_
        refine jad ?_
        exact rcs h
       ·exact ⟨(Prod.fst z2, _, k2), ⟨jaL h⟩, ⟨jaZ hm2.symm⟩, (by repeat' constructor)⟩
      ·refine jaN h (fun h => ?_) (fun h => ?_)
       ·refine jaN h (fun h => ?_) (fun h => ?_)
        ·have h := jaA h
         refine jao h fun h => ?_
         refine jad ?_
         refine jad ?_
         exact rcs h
        ·exact ⟨(Prod.fst z2, _, k2), ⟨jaL h⟩, ⟨jaZ hm2.symm⟩, (by repeat' constructor)⟩
       ·have h := jaA h
        refine jao h fun h => ?_
        refine jad ?_
        refine jad ?_
        exact rcs h
     ·exact ⟨(_, k1), ⟨jaL h⟩, ⟨jaZ hm1.symm⟩, (by repeat' constructor)⟩
    ·refine jaN h (fun h => ?_) (fun h => ?_)
     ·refine jaN h (fun h => ?_) (fun h => ?_)
      ·have h := jaA h
       refine jao h fun h => ?_
       refine ⟨⟨(wrap .u64 ((Prod.fst z1).1 - 1), (wrap .u64 (wrap .u64 (wrap .u64 (e0 hi lo y_) - wrap .u64 (wrap .u64 ((Prod.fst z1).1 - 1) * wrap .u64 (y_ * 2 ^ min (Int.toNat (e2 y_)) (IntKind.bits .u64)))) - wrap .u64 (wrap .u64 (Int.tdiv (wrap .u64 (wrap .u64 (e0 hi lo y_) - wrap .u64 (wrap .u64 ((Prod.fst z1).1 - 1) * wrap .u64 (y_ * 2 ^ min (Int.toNat (e2 y_)) (IntKind.bits .u64))))) (Int.fdiv (e1 y_) (e3 ))) * Int.fdiv (e1 y_) (e3 ))), wrap .u64 (Int.tdiv (wrap .u64 (wrap .u64 (e0 hi lo y_) - wrap .u64 (wrap .u64 ((Prod.fst z1).1 - 1) * wrap .u64 (y_ * 2 ^ min (Int.toNat (e2 y_)) (IntKind.bits .u64))))) (Int.fdiv (e1 y_) (e3 )))), big), ⟨jbd h⟩, (by repeat' constructor)⟩, fun z3 hz3 => ?_⟩
       obtain ⟨k3, hm3, h⟩ := jaT hz3
       refine jaN h (fun h => ?_) (fun h => ?_)
       ·refine jaN h (fun h => ?_) (fun h => ?_)
        ·have h := jaA h
         refine jao h fun h => ?_
         refine jad ?_
         refine jad ?_
         exact rcs h
        ·exact ⟨(Prod.fst z3, _, k3), ⟨jaL h⟩, ⟨jaZ hm3.symm⟩, (by repeat' constructor)⟩
       ·refine jaN h (fun h => ?_) (fun h => ?_)
        ·refine jaN h (fun h => ?_) (fun h => ?_)
         ·have h := jaA h
          refine jao h fun h => ?_
          refine jad ?_
          refine jad ?_
          exact rcs h
         ·exact ⟨(Prod.fst z3, _, k3), ⟨jaL h⟩, ⟨jaZ hm3.symm⟩, (by repeat' constructor)⟩
        ·have h := jaA h
         refine jao h fun h => ?_
         refine jad ?_
         refine jad ?_
         exact rcs h
      ·exact ⟨(_, k1), ⟨jaL h⟩, ⟨jaZ hm1.symm⟩, (by repeat' constructor)⟩
     ·have h := jaA h
      refine jao h fun h => ?_
      refine ⟨⟨((Prod.fst z1).1, (wrap .u64 (wrap .u64 (wrap .u64 (e0 hi lo y_) - wrap .u64 ((Prod.fst z1).1 * wrap .u64 (y_ * 2 ^ min (Int.toNat (e2 y_)) (IntKind.bits .u64)))) - wrap .u64 (wrap .u64 (Int.tdiv (wrap .u64 (wrap .u64 (e0 hi lo y_) - wrap .u64 ((Prod.fst z1).1 * wrap .u64 (y_ * 2 ^ min (Int.toNat (e2 y_)) (IntKind.bits .u64))))) (Int.fdiv (e1 y_) (e3 ))) * Int.fdiv (e1 y_) (e3 ))), wrap .u64 (Int.tdiv (wrap .u64 (wrap .u64 (e0 hi lo y_) - wrap .u64 ((Prod.fst z1).1 * wrap .u64 (y_ * 2 ^ min (Int.toNat (e2 y_)) (IntKind.bits .u64))))) (Int.fdiv (e1 y_) (e3 )))), big), ⟨jbd h⟩, (by repeat' constructor)⟩, fun z4 hz4 => ?_⟩
      obtain ⟨k4, hm4, h⟩ := jaT hz4
      refine jaN h (fun h => ?_) (fun h => ?_)
      ·refine jaN h (fun h => ?_) (fun h => ?_)
       ·have h := jaA h
        refine jao h fun h => ?_
        refine jad ?_
        refine jad ?_
        exact rcs h
       ·exact ⟨(Prod.fst z4, _, k4), ⟨jaL h⟩, ⟨jaZ hm4.symm⟩, (by repeat' constructor)⟩
      ·refine jaN h (fun h => ?_) (fun h => ?_)
       ·refine jaN h (fun h => ?_) (fun h => ?_)
        ·have h := jaA h
         refine jao h fun h => ?_
         refine jad ?_
         refine jad ?_
         exact rcs h
        ·exact ⟨(Prod.fst z4, _, k4), ⟨jaL h⟩, ⟨jaZ hm4.symm⟩, (by repeat' constructor)⟩
       ·have h := jaA h
        refine jao h fun h => ?_
        refine jad ?_
        refine jad ?_
        exact rcs h
theorem jjW : jag Tryz.prog 127 true (jar je6 y164) := by
 refine jaz (sp := (sp_150 sp0)) (fn := Tryz.f127) (body := jaj Tryz.f127) mixed (sp_150_ok jak) Tryz.func127 (by kernel_rfl) (by kernel_rfl) fun as_ ob rs h ho => ?_
 unfold y164 at h
 split at h
 ·rename_i hi lo y_
  cases h
  exact ⟨Nat.le_of_ble_eq_true rfl, _, _, jjV hi lo y_ _ (jai ho)⟩
 ·cases h
theorem sp_127_ok {sp : jab} (h : jac Tryz.prog sp) : jac Tryz.prog (sp_127 sp) := jah jjW h
def y148 : List SV := [.c (.d), .c (.d), .c (.p [.p [.d, .r (.floats .f32 []), .d, .d, .r (.recs 2 []), .r (.recs 2 [])]])]
def y19 (u71 : Int) (u72 : Int) (u18 : Int) (u19 : List Nat) (u20 : Int) (u21 : Int) (u22 : List (List Int)) (u23 : List (List Int)) : Option (Int × Bool) :=
 Option.bind (y9 (wrap .u64 u71) (1000000 : Int)) fun r0 =>
 Option.bind (y72 (wrap .u64 (wrap .u64 (wrap .u64 (Int.fdiv (wrap .u64 u71) ((2 : Int) ^ min (32 : Nat) (IntKind.bits .u64)) * Int.fdiv (1000000 : Int) ((2 : Int) ^ min (32 : Nat) (IntKind.bits .u64))) + Int.fdiv (wrap .u64 (wrap .u64 (Int.fdiv (wrap .u64 u71) ((2 : Int) ^ min (32 : Nat) (IntKind.bits .u64)) * wrap .u64 (↑(BitVec.toNat (BitVec.ofInt (IntKind.bits .u64) (1000000 : Int) &&& BitVec.ofInt (IntKind.bits .u64) (4294967295 : Int))) : Int)) + Int.fdiv (wrap .u64 (wrap .u64 (↑(BitVec.toNat (BitVec.ofInt (IntKind.bits .u64) (wrap .u64 u71) &&& BitVec.ofInt (IntKind.bits .u64) (4294967295 : Int))) : Int) * wrap .u64 (↑(BitVec.toNat (BitVec.ofInt (IntKind.bits .u64) (1000000 : Int) &&& BitVec.ofInt (IntKind.bits .u64) (4294967295 : Int))) : Int))) ((2 : Int) ^ min (32 : Nat) (IntKind.bits .u64)))) ((2 : Int) ^ min (32 : Nat) (IntKind.bits .u64))) + Int.fdiv (wrap .u64 (wrap .u64 (↑(BitVec.toNat (BitVec.ofInt (IntKind.bits .u64) (wrap .u64 (wrap .u64 (Int.fdiv (wrap .u64 u71) ((2 : Int) ^ min (32 : Nat) (IntKind.bits .u64)) * wrap .u64 (↑(BitVec.toNat (BitVec.ofInt (IntKind.bits .u64) (1000000 : Int) &&& BitVec.ofInt (IntKind.bits .u64) (4294967295 : Int))) : Int)) + Int.fdiv (wrap .u64 (wrap .u64 (↑(BitVec.toNat (BitVec.ofInt (IntKind.bits .u64) (wrap .u64 u71) &&& BitVec.ofInt (IntKind.bits .u64) (4294967295 : Int))) : Int) * wrap .u64 (↑(BitVec.toNat (BitVec.ofInt (IntKind.bits .u64) (1000000 : Int) &&& BitVec.ofInt (IntKind.bits .u64) (4294967295 : Int))) : Int))) ((2 : Int) ^ min (32 : Nat) (IntKind.bits .u64)))) &&& BitVec.ofInt (IntKind.bits .u64) (4294967295 : Int))) : Int) + wrap .u64 (wrap .u64 (↑(BitVec.toNat (BitVec.ofInt (IntKind.bits .u64) (wrap .u64 u71) &&& BitVec.ofInt (IntKind.bits .u64) (4294967295 : Int))) : Int) * Int.fdiv (1000000 : Int) ((2 : Int) ^ min (32 : Nat) (IntKind.bits .u64))))) ((2 : Int) ^ min (32 : Nat) (IntKind.bits .u64)))) (wrap .u64 (wrap .u64 u71 * 1000000)) (wrap .u64 (wrap .i64 (u72 * u18)))) fun r1 =>
 some ((wrap .i64 r1.1, decide (r1.2 > 0)))
def y149 : List Lf → Option GT
 | [.d (.i .i64 u71), .d (.i .i64 u72), .d (.i .i64 u18), .r (.floats .f32 u19), .d (.i .i64 u20), .d (.i .i64 u21), .r (.recs 2 u22), .r (.recs 2 u23)] => some (.leaf (ok (y19 u71 u72 u18 u19 u20 u21 u22 u23)) [.c (.d (.i .i64 ((val (y19 u71 u72 u18 u19 u20 u21 u22 u23)).1))), .c (.d (.b ((val (y19 u71 u72 u18 u19 u20 u21 u22 u23)).2)))])
 | _ => none
abbrev sp_125 : jab → jab := jav 125 true (jal y148 y149)
abbrev jtT (u71 : Int) (u72 : Int) (u18 : Int) := (y72 (wrap .u64 (wrap .u64 (wrap .u64 (Int.fdiv (wrap .u64 u71) ((2 : Int) ^ min (32 : Nat) (IntKind.bits .u64)) * Int.fdiv (1000000 : Int) ((2 : Int) ^ min (32 : Nat) (IntKind.bits .u64))) + Int.fdiv (wrap .u64 (wrap .u64 (Int.fdiv (wrap .u64 u71) ((2 : Int) ^ min (32 : Nat) (IntKind.bits .u64)) * wrap .u64 (↑(BitVec.toNat (BitVec.ofInt (IntKind.bits .u64) (1000000 : Int) &&& BitVec.ofInt (IntKind.bits .u64) (4294967295 : Int))) : Int)) + Int.fdiv (wrap .u64 (wrap .u64 (↑(BitVec.toNat (BitVec.ofInt (IntKind.bits .u64) (wrap .u64 u71) &&& BitVec.ofInt (IntKind.bits .u64) (4294967295 : Int))) : Int) * wrap .u64 (↑(BitVec.toNat (BitVec.ofInt (IntKind.bits .u64) (1000000 : Int) &&& BitVec.ofInt (IntKind.bits .u64) (4294967295 : Int))) : Int))) ((2 : Int) ^ min (32 : Nat) (IntKind.bits .u64)))) ((2 : Int) ^ min (32 : Nat) (IntKind.bits .u64))) + Int.fdiv (wrap .u64 (wrap .u64 (↑(BitVec.toNat (BitVec.ofInt (IntKind.bits .u64) (wrap .u64 (wrap .u64 (Int.fdiv (wrap .u64 u71) ((2 : Int) ^ min (32 : Nat) (IntKind.bits .u64)) * wrap .u64 (↑(BitVec.toNat (BitVec.ofInt (IntKind.bits .u64) (1000000 : Int) &&& BitVec.ofInt (IntKind.bits .u64) (4294967295 : Int))) : Int)) + Int.fdiv (wrap .u64 (wrap .u64 (↑(BitVec.toNat (BitVec.ofInt (IntKind.bits .u64) (wrap .u64 u71) &&& BitVec.ofInt (IntKind.bits .u64) (4294967295 : Int))) : Int) * wrap .u64 (↑(BitVec.toNat (BitVec.ofInt (IntKind.bits .u64) (1000000 : Int) &&& BitVec.ofInt (IntKind.bits .u64) (4294967295 : Int))) : Int))) ((2 : Int) ^ min (32 : Nat) (IntKind.bits .u64)))) &&& BitVec.ofInt (IntKind.bits .u64) (4294967295 : Int))) : Int) + wrap .u64 (wrap .u64 (↑(BitVec.toNat (BitVec.ofInt (IntKind.bits .u64) (wrap .u64 u71) &&& BitVec.ofInt (IntKind.bits .u64) (4294967295 : Int))) : Int) * Int.fdiv (1000000 : Int) ((2 : Int) ^ min (32 : Nat) (IntKind.bits .u64))))) ((2 : Int) ^ min (32 : Nat) (IntKind.bits .u64)))) (wrap .u64 (wrap .u64 u71 * 1000000)) (wrap .u64 (wrap .i64 (u72 * u18))))
theorem jiD (u71 : Int) (u72 : Int) (u18 : Int) (u19 : List Nat) (u20 : Int) (u21 : Int) (u22 : List (List Int)) (u23 : List (List Int)) (r : Int × Bool) (h : Option.bind (y19 u71 u72 u18 u19 u20 u21 u22 u23) some = some r) : ja0 Tryz.f125 ((sp_126 (sp_127 sp0))) (fun _ _ _ => none) (jaO y148 [.d (.i .i64 u71), .d (.i .i64 u72), .d (.i .i64 u18), .r (.floats .f32 u19), .d (.i .i64 u20), .d (.i .i64 u21), .r (.recs 2 u22), .r (.recs 2 u23)]) [.c (.d (.i .i64 r.1)), .c (.d (.b r.2))] := by
 refine Eq.mp (by kernel_rfl : (
 (Ob True ∧
 (Ob (ok (y9 (wrap .u64 u71) (1000000 : Int))) ∧
 (Ob True ∧
 (Ob True ∧
 (Ob True ∧
 (Ob (ok (jtT u71 u72 u18)) ∧
 (Ob True ∧
 (Ob True ∧
 (Ob True ∧
 (Ob (wrap .i64 (val (jtT u71 u72 u18)).1 = r.1) ∧
 (Ob (decide ((val (jtT u71 u72 u18)).2 > 0) = r.2) ∧
 True)))))))))))) = _) ?_
 refine jad ?_
 refine jau h fun h => ?_
 refine jad ?_
 refine jad ?_
 refine jad ?_
 refine jau h fun h => ?_
 refine jad ?_
 refine jad ?_
 refine jad ?_
 exact rcs h
theorem jiE : jag Tryz.prog 125 true (jal y148 y149) := by
 refine jat (sp := (sp_126 (sp_127 sp0))) (fn := Tryz.f125) (body := jaj Tryz.f125) mixed (sp_126_ok (sp_127_ok jak)) Tryz.func125 (by kernel_rfl) (by kernel_rfl) fun ls t h ho b hb => ?_
 unfold y149 at h
 split at h
 ·rename_i u71 u72 u18 u19 u20 u21 u22 u23
  cases h
  obtain rfl := jaB hb
  exact ⟨Nat.le_of_ble_eq_true (by kernel_rfl), _, _, jiD u71 u72 u18 u19 u20 u21 u22 u23 _ (jai ho)⟩
 ·cases h
theorem sp_125_ok {sp : jab} (h : jac Tryz.prog sp) : jac Tryz.prog (sp_125 sp) := jah jiE h
end Go.Sh
end

section
namespace Go.Sh
open Go Go.Proofs Go.RowKit Go.Sx
open Go.IntKind (wrap)
def y175 : List SV := [.c (.p [.d, .r (.floats .f32 []), .d, .d, .r (.recs 2 []), .r (.recs 2 [])])]
def y58 (u9 : List (List Int)) (x0 : (Int × Int × Int)) : Option ((Int × Int × Int) ⊕ (Int × Int)) :=
 if x0.1 < (↑(List.length u9) : Int) then
  if 0 ≤ x0.1 ∧ x0.1 < (↑(List.length u9) : Int) then
  if Int.toNat x0.1 < List.length u9 then
   Option.bind (jcX x0.2.1 x0.2.2 (wrap .i64 (x0.1 * List.getD (List.getD u9 (Int.toNat x0.1) []) 0 (0 : Int))) (wrap .i64 (x0.1 * List.getD (List.getD u9 (Int.toNat x0.1) []) 1 (0 : Int)))) fun r0 =>
   some (.inl ((wrap .i64 (x0.1 + 1), wrap .i64 (x0.2.1 + wrap .i64 (x0.1 * List.getD (List.getD u9 (Int.toNat x0.1) []) 0 (0 : Int))), wrap .i64 (x0.2.2 + wrap .i64 (x0.1 * List.getD (List.getD u9 (Int.toNat x0.1) []) 1 (0 : Int))))))
  else none
  else none
 else
  some (.inr (x0.2.1, x0.2.2))
def y89 (u10 : Int) (u11 : List Nat) (u12 : Int) (u13 : Int) (u9 : List (List Int)) (u14 : List (List Int)) (u15 : Int × Int) : Option (Int × Int × Int) :=
 if (0 : Int) ≤ 0 ∧ 0 < (↑(List.length u14) : Int) then
  if 0 < List.length u14 then
  Option.bind (y19 u15.1 (List.getD (List.getD u14 (0 : Nat) []) 1 (0 : Int)) u10 u11 u12 u13 u9 u14) fun r1 =>
  if (0 : Int) ≤ 0 ∧ 0 < (↑(List.length u14) : Int) then
   if 0 < List.length u14 then
   Option.bind (y19 u15.2 (List.getD (List.getD u14 (0 : Nat) []) 0 (0 : Int)) u10 u11 u12 u13 u9 u14) fun r2 =>
   if (r2.2) = true then
    Option.bind (jbk (wrap .i64 (wrap .i64 ((↑(List.length u9) : Int) - 1) * 1000000)) u10) fun r3 =>
    some ((r1.1, if r3 < wrap .i64 (r2.1 + 1) then r3 else wrap .i64 (r2.1 + 1), 0))
   else
    Option.bind (jbk (wrap .i64 (wrap .i64 ((↑(List.length u9) : Int) - 1) * 1000000)) u10) fun r3 =>
    some ((r1.1, if r3 < r2.1 then r3 else r2.1, 0))
   else none
  else none
  else none
 else none
def y4 (u10 : Int) (u11 : List Nat) (u12 : Int) (u13 : Int) (u9 : List (List Int)) (u14 : List (List Int)) : Option (Int × Int × Int) :=
 if (u13 != 0) = true then
  some (((0 : Int), 0, 23))
 else
  if (0 : Int) ≤ 0 ∧ 0 < (↑(List.length u14) : Int) then
  if 0 < List.length u14 then
   if (List.getD (List.getD u14 (0 : Nat) []) 0 (0 : Int) == 0) = true then
   some (((0 : Int), 0, 11))
   else
   Option.bind (jae (y58 u9) big (((0 : Int), 0, 0))) (y89 u10 u11 u12 u13 u9 u14)
  else none
  else none
def y176 : List Lf → Option GT
 | [.d (.i .i64 u10), .r (.floats .f32 u11), .d (.i .i64 u12), .d (.i .i64 u13), .r (.recs 2 u9), .r (.recs 2 u14)] => some (.leaf (ok (y4 u10 u11 u12 u13 u9 u14)) [.s [.d (.i .i64 ((val (y4 u10 u11 u12 u13 u9 u14)).1)), .d (.i .i64 ((val (y4 u10 u11 u12 u13 u9 u14)).2.1))], .c (.d (.i .i64 ((val (y4 u10 u11 u12 u13 u9 u14)).2.2)))])
 | _ => none
abbrev sp_82 : jab → jab := jav 82 true (jal y175 y176)
abbrev jkk (u9 : List (List Int)) := (wrap .i64 (wrap .i64 ((↑(List.length u9) : Int) - 1) * 1000000))
abbrev jkl (u14 : List (List Int)) := (List.getD (List.getD u14 (0 : Nat) []) 0 (0 : Int))
theorem jkD (u10 : Int) (u11 : List Nat) (u12 : Int) (u13 : Int) (u9 : List (List Int)) (u14 : List (List Int)) (r : Int × Int × Int) (h : Option.bind (y4 u10 u11 u12 u13 u9 u14) some = some r) : ja0 Tryz.f82 ((sp_117 (sp_125 (sp_119 sp0)))) (fun gs id _ => match id with
 | 1 => some ⟨(Int × Int × Int) × Nat, fun z => ⟨[(1, .w (.c (.p 4 0 1 0))), (2, .w (.c (.p 5 0 1 0))), (4, .w (.c (.p 6 0 1 0))), (33, .w (.c (.o 1))), (34, .w (.c (.d (.i .i64 ((↑(List.length u9) : Int)))))), (35, .w (.c (.d (.i .i64 (Prod.fst (Prod.fst z))))))], [(4, .box 105 [.p 3 0 1 0]), (5, .box 30 [.d (.i .i64 0), .d (.i .i64 0)]), (6, .box 30 [.d (.i .i64 (Prod.fst (Prod.snd (Prod.fst z)))), .d (.i .i64 (Prod.snd (Prod.snd (Prod.fst z))))]), (1, .ext (.recs 2 u9)), (3, .ebox [.d (.i .i64 u10), .o 0, .d (.i .i64 u12), .d (.i .i64 u13), .o 1, .o 2]), (0, .ext (.floats .f32 u11)), (2, .ext (.recs 2 u14))], 7⟩, fun z => Option.bind (jae (y58 u9) (Prod.snd z) (Prod.fst z)) (fun y0 => Option.bind (y89 u10 u11 u12 u13 u9 u14 y0) some) = some r, fun z => Prod.snd z⟩
 | _ => none) (jaO y175 [.d (.i .i64 u10), .r (.floats .f32 u11), .d (.i .i64 u12), .d (.i .i64 u13), .r (.recs 2 u9), .r (.recs 2 u14)]) [.s [.d (.i .i64 r.1), .d (.i .i64 r.2.1)], .c (.d (.i .i64 r.2.2))] := by
 refine Eq.mp (by kernel_rfl : (
 (Ob True ∧
 Br (u13 != 0)
  ((Ob True ∧
 (Ob True ∧
 (Ob ((0 : Int) = r.1) ∧
 (Ob ((0 : Int) = r.2.1) ∧
 (Ob ((23 : Int) = r.2.2) ∧
 True))))))
  ((Ob True ∧
 (Ob ((0 : Int) ≤ 0 ∧ 0 < (↑(List.length u14) : Int)) ∧
 (Ob (0 < List.length u14) ∧
 Br (List.getD (List.getD u14 (0 : Nat) []) 0 (0 : Int) == 0)
  ((Ob True ∧
 (Ob True ∧
 (Ob ((0 : Int) = r.1) ∧
 (Ob ((0 : Int) = r.2.1) ∧
 (Ob ((11 : Int) = r.2.2) ∧
 True))))))
  ((Ob True ∧
  ((∃ (v0 : (Int × Int × Int) × Nat), (Ob ((Option.bind (jae (y58 u9) v0.2 v0.1) fun y0 => Option.bind (y89 u10 u11 u12 u13 u9 u14 y0) some) = some r) ∧
 (Ob (0 = 0) ∧
 (Ob (0 = 0) ∧
 (Ob (0 = 0) ∧
 (Ob ((↑(List.length u9) : Int) = (↑(List.length u9) : Int)) ∧
 (Ob ((0 : Int) = v0.1.1) ∧
 (Ob (0 = 0) ∧
 (Ob ((0 : Int) = (0 : Int)) ∧
 (Ob ((0 : Int) = (0 : Int)) ∧
 (Ob ((0 : Int) = v0.1.2.1) ∧
 (Ob ((0 : Int) = v0.1.2.2) ∧
 (Ob (u9 = u9) ∧
 (Ob (u10 = u10) ∧
 (Ob (u12 = u12) ∧
 (Ob (u13 = u13) ∧
 (Ob (u11 = u11) ∧
 (Ob (u14 = u14) ∧
 True)))))))))))))))))) ∧
  (∀ (v0 : (Int × Int × Int) × Nat), ((Option.bind (jae (y58 u9) v0.2 v0.1) fun y0 => Option.bind (y89 u10 u11 u12 u13 u9 u14 y0) some) = some r →
 Br (decide (v0.1.1 < (↑(List.length u9) : Int)))
  ((Ob (0 ≤ v0.1.1 ∧ v0.1.1 < (↑(List.length u9) : Int)) ∧
 (Ob (Int.toNat v0.1.1 < List.length u9) ∧
 (Ob (ok (jcX v0.1.2.1 v0.1.2.2 (wrap .i64 (v0.1.1 * List.getD (List.getD u9 (Int.toNat v0.1.1) []) 0 (0 : Int))) (wrap .i64 (v0.1.1 * List.getD (List.getD u9 (Int.toNat v0.1.1) []) 1 (0 : Int))))) ∧
  (∃ (v1 : (Int × Int × Int) × Nat), (Ob ((Option.bind (jae (y58 u9) v1.2 v1.1) fun y0 => Option.bind (y89 u10 u11 u12 u13 u9 u14 y0) some) = some r) ∧
 (Ob (v1.2 < v0.2) ∧
 (Ob (0 = 0) ∧
 (Ob (0 = 0) ∧
 (Ob (0 = 0) ∧
 (Ob ((↑(List.length u9) : Int) = (↑(List.length u9) : Int)) ∧
 (Ob (wrap .i64 (v0.1.1 + 1) = v1.1.1) ∧
 (Ob (0 = 0) ∧
 (Ob ((0 : Int) = (0 : Int)) ∧
 (Ob ((0 : Int) = (0 : Int)) ∧
 (Ob (wrap .i64 (v0.1.2.1 + wrap .i64 (v0.1.1 * List.getD (List.getD u9 (Int.toNat v0.1.1) []) 0 (0 : Int))) = v1.1.2.1) ∧
 (Ob (wrap .i64 (v0.1.2.2 + wrap .i64 (v0.1.1 * List.getD (List.getD u9 (Int.toNat v0.1.1) []) 1 (0 : Int))) = v1.1.2.2) ∧
 (Ob (u9 = u9) ∧
 (Ob (u10 = u10) ∧
 (Ob (u12 = u12) ∧
 (Ob (u13 = u13) ∧
 (Ob (u11 = u11) ∧
 (Ob (u14 = u14) ∧
 True)))))))))))))))))))))))
  ((Ob True ∧
 (Ob ((0 : Int) ≤ 0 ∧ 0 < (↑(List.length u14) : Int)) ∧
 (Ob (0 < List.length u14) ∧
 (Ob (ok (y19 v0.1.2.1 (List.getD (List.getD u14 (0 : Nat) []) 1 (0 : Int)) u10 u11 u12 u13 u9 u14)) ∧
 (Ob True ∧
 (Ob ((0 : Int) ≤ 0 ∧ 0 < (↑(List.length u14) : Int)) ∧
 (Ob (0 < List.length u14) ∧
 (Ob (ok (y19 v0.1.2.2 (jkl u14) u10 u11 u12 u13 u9 u14)) ∧
 Br ((val (y19 v0.1.2.2 (jkl u14) u10 u11 u12 u13 u9 u14)).2)
  ((Ob True ∧
 (Ob True ∧
 (Ob (ok (jbk (jkk u9) u10)) ∧
 (Ob True ∧
 (Ob True ∧
 (Ob ((val (y19 v0.1.2.1 (List.getD (List.getD u14 (0 : Nat) []) 1 (0 : Int)) u10 u11 u12 u13 u9 u14)).1 = r.1) ∧
 (Ob ((if val (jbk (jkk u9) u10) < wrap .i64 ((val (y19 v0.1.2.2 (jkl u14) u10 u11 u12 u13 u9 u14)).1 + 1) then val (jbk (jkk u9) u10) else wrap .i64 ((val (y19 v0.1.2.2 (jkl u14) u10 u11 u12 u13 u9 u14)).1 + 1)) = r.2.1) ∧
 (Ob ((0 : Int) = r.2.2) ∧
 True)))))))))
  ((Ob True ∧
 (Ob True ∧
 (Ob (ok (jbk (jkk u9) u10)) ∧
 (Ob True ∧
 (Ob True ∧
 (Ob ((val (y19 v0.1.2.1 (List.getD (List.getD u14 (0 : Nat) []) 1 (0 : Int)) u10 u11 u12 u13 u9 u14)).1 = r.1) ∧
 (Ob ((if val (jbk (jkk u9) u10) < (val (y19 v0.1.2.2 (jkl u14) u10 u11 u12 u13 u9 u14)).1 then val (jbk (jkk u9) u10) else (val (y19 v0.1.2.2 (jkl u14) u10 u11 u12 u13 u9 u14)).1) = r.2.1) ∧
 (Ob ((0 : Int) = r.2.2) ∧
 True))))))))))))))))))))))))))))) = _) ?_
 refine jad ?_
 refine jaW h (fun h => ?_) (fun h => ?_)
 ·refine jad ?_
  refine jad ?_
  exact rcs h
 ·refine jad ?_
  refine jao h fun h => ?_
  refine jao h fun h => ?_
  refine jaW h (fun h => ?_) (fun h => ?_)
  ·refine jad ?_
   refine jad ?_
   exact rcs h
  ·refine jad ?_
   refine ⟨⟨(((0 : Int), 0, 0), big), ⟨jbd h⟩, (by repeat' constructor)⟩, fun z4 hz4 => ?_⟩
   obtain ⟨k4, hm4, h⟩ := jaT hz4
   refine jaN h (fun h => ?_) (fun h => ?_)
   ·refine jao h fun h => ?_
    refine jao h fun h => ?_
    refine jau h fun h => ?_
    exact ⟨(_, k4), ⟨jaL h⟩, ⟨jaZ hm4.symm⟩, (by repeat' constructor)⟩
   ·have h := jaA h
    refine jad ?_
    refine jao h fun h => ?_
    refine jao h fun h => ?_
    refine jau h fun h => ?_
    refine jad ?_
    refine jao h fun h => ?_
    refine jao h fun h => ?_
    refine jau h fun h => ?_
    refine jaW h (fun h => ?_) (fun h => ?_)
    ·refine jad ?_
     refine jad ?_
     refine jau h fun h => ?_
     refine jad ?_
     refine jad ?_
     exact rcs h
    ·refine jad ?_
     refine jad ?_
     refine jau h fun h => ?_
     refine jad ?_
     refine jad ?_
     exact rcs h
theorem jkE : jag Tryz.prog 82 true (jal y175 y176) := by
 refine jat (sp := (sp_117 (sp_125 (sp_119 sp0)))) (fn := Tryz.f82) (body := jaj Tryz.f82) mixed (sp_117_ok (sp_125_ok (sp_119_ok jak))) Tryz.func82 (by kernel_rfl) (by kernel_rfl) fun ls t h ho b hb => ?_
 unfold y176 at h
 split at h
 ·rename_i u10 u11 u12 u13 u9 u14
  cases h
  obtain rfl := jaB hb
  exact ⟨Nat.le_of_ble_eq_true (by kernel_rfl), _, _, jkD u10 u11 u12 u13 u9 u14 _ (jai ho)⟩
 ·cases h
theorem sp_82_ok {sp : jab} (h : jac Tryz.prog sp) : jac Tryz.prog (sp_82 sp) := jah jkE h
end Go.Sh
end

section
namespace Go.Sh
open Go Go.Proofs Go.RowKit Go.Sx Go.Sx06 Ieee Go.Fl
open Go.IntKind (wrap)
theorem jrB {L : Int} (h : -900 ≤ L ∧ L ≤ 900) : jcM L = some (L / 10, L % 10) := by
 unfold jcM
 rw [jas (x := L + 900) (by omega), Int.tdiv_eq_ediv_of_nonneg (by omega), Int.tmod_eq_emod_of_nonneg (by omega), jas (x := (L + 900) / 10) (by omega), jas (by omega)]
 congr 2
 ·omega
 ·omega
theorem jxN {n : Int} (h : -1000 ≤ n ∧ n ≤ 1000) : jhV n 10 = some (n % 10) := by
 unfold jhV
 rw [if_pos (by decide), Int.tmod_eq_emod]
 by_cases hd : 0 ≤ n ∨ (10 : Int) ∣ n
 ·rw [if_pos hd, show ((0 : Nat) : Int) = 0 from rfl, Int.sub_zero, if_neg (by omega)]
 ·rw [if_neg hd]
  have e : ((10 : Int).natAbs : Int) = 10 := rfl
  rw [e, if_pos (by omega), jas (by omega)]
  congr 1
  omega
theorem jif {k : Int} (h : 0 ≤ k ∧ k < 10) : 1000000000 ≤ ja3.getD k.toNat 0 ∧ ja3.getD k.toNat 0 ≤ 7943282347 := by
 rcases (by omega : k = 0 ∨ k = 1 ∨ k = 2 ∨ k = 3 ∨ k = 4 ∨ k = 5 ∨ k = 6 ∨ k = 7 ∨ k = 8 ∨ k = 9) with rfl | rfl | rfl | rfl | rfl | rfl | rfl | rfl | rfl | rfl <;> exact ⟨by decide, by decide⟩
theorem jtU {k : Int} (h : 0 ≤ k ∧ k < 10) : jn4 k = some (ja3.getD k.toNat 0) := by
 rcases (by omega : k = 0 ∨ k = 1 ∨ k = 2 ∨ k = 3 ∨ k = 4 ∨ k = 5 ∨ k = 6 ∨ k = 7 ∨ k = 8 ∨ k = 9) with rfl | rfl | rfl | rfl | rfl | rfl | rfl | rfl | rfl | rfl <;> rfl
theorem jjX {a : Int} (h : 0 ≤ a ∧ a ≤ 9) : p10 (9 + a) = 1000000000 * p10 a := by
 rcases (by omega : a = 0 ∨ a = 1 ∨ a = 2 ∨ a = 3 ∨ a = 4 ∨ a = 5 ∨ a = 6 ∨ a = 7 ∨ a = 8 ∨ a = 9) with rfl | rfl | rfl | rfl | rfl | rfl | rfl | rfl | rfl | rfl <;> decide
def nuL (u L : Int) : Int := (ja3.getD (L % 10).toNat 0 + if 0 < L % 10 then u else 0) * p10 (max (L / 10) 0)
def deL (L : Int) : Int := 1000000000 * p10 (max (-(L / 10)) 0)
theorem jwP {u L : Int} (hu : 0 ≤ u ∧ u ≤ 1) (h : -90 ≤ L ∧ L ≤ 90) : 1 ≤ nuL u L ∧ nuL u L ≤ 8000000000000000000 := by
 have ht := jif (k := L % 10) (by omega)
 have hp := jid (f := max (L / 10) 0) (by omega)
 have e : 1 ≤ ja3.getD (L % 10).toNat 0 + (if 0 < L % 10 then u else 0) ∧ ja3.getD (L % 10).toNat 0 + (if 0 < L % 10 then u else 0) ≤ 8000000000 := by split <;> omega
 unfold nuL
 have a := Int.mul_le_mul e.2 hp.2 (by omega) (by omega)
 have b := Int.mul_le_mul e.1 hp.1 (by omega) (by omega)
 omega
theorem jwQ {L : Int} (h : -90 ≤ L ∧ L ≤ 90) : 1 ≤ deL L ∧ deL L ≤ 1000000000000000000 := by
 have hp := jid (f := max (-(L / 10)) 0) (by omega)
 unfold deL
 omega
theorem jxk (x y : Int) : decide ((if x < y then (-1 : Int) else if y < x then 1 else 0) ≤ 0) = decide (x ≤ y) := by
 by_cases h1 : x < y
 ·rw [if_pos h1, decide_eq_true (by omega), decide_eq_true (by omega)]
 ·by_cases h2 : y < x
  ·rw [if_neg h1, if_pos h2, decide_eq_false (by omega), decide_eq_false (by omega)]
  ·rw [if_neg h1, if_neg h2, decide_eq_true (by omega), decide_eq_true (by omega)]
theorem triGe (x y : Int) : decide ((if x < y then (-1 : Int) else if y < x then 1 else 0) ≥ 0) = decide (y ≤ x) := by
 by_cases h1 : x < y
 ·rw [if_pos h1, decide_eq_false (by omega), decide_eq_false (by omega)]
 ·by_cases h2 : y < x
  ·rw [if_neg h1, if_pos h2, decide_eq_true (by omega), decide_eq_true (by omega)]
  ·rw [if_neg h1, if_neg h2, decide_eq_true (by omega), decide_eq_true (by omega)]
section
variable {num den L : Int}
theorem jo0 (hn : 1 ≤ num ∧ num ≤ 10000000000000) (hd : 1 ≤ den ∧ den ≤ 10000000000000) (h : -90 ≤ L ∧ L ≤ 90) :
  y90 (wrap IntKind.u64 num) (wrap IntKind.u64 den) L = some (decide (nuL 1 L * den ≤ deL L * num)) := by
 have ht := jif (k := L % 10) (by omega)
 have e1 : wrap IntKind.u64 num = num := by rw [jbE]; omega
 have e2 : wrap IntKind.u64 den = den := by rw [jbE]; omega
 unfold y90
 rw [jrB (by omega), jaa, jas (x := L + 900) (by omega), Int.tmod_eq_emod_of_nonneg (by omega), Int.tdiv_eq_ediv_of_nonneg (by omega), jas (x := (L + 900) / 10) (by omega), jas (by omega), e1, e2]
 rw [show (L + 900) % 10 = L % 10 by omega, show (L + 900) / 10 - 90 = L / 10 by omega]
 have hl : ja3.length = 10 := rfl
 rw [if_pos (by omega), if_pos (by rw [hl]; omega)]
 unfold nuL deL
 by_cases hk : L % 10 > 0
 ·rw [if_pos hk, if_pos hk]
  have e3 : wrap IntKind.u64 (ja3.getD (L % 10).toNat 0 + 1) = ja3.getD (L % 10).toNat 0 + 1 := by rw [jbE]; omega
  rw [e3, jjS hn hd (by omega) (by omega), jaa, jxk]
 ·rw [if_neg hk, if_neg hk, jjS hn hd (by omega) (by omega), jaa, jxk, Int.add_zero]
theorem jrC (hn : 1 ≤ num ∧ num ≤ 10000000000000) (hd : 1 ≤ den ∧ den ≤ 10000000000000) (h : -90 ≤ L ∧ L ≤ 90) :
  jjl (wrap IntKind.u64 num) (wrap IntKind.u64 den) L = some (decide (deL L * num ≤ nuL 0 L * den)) := by
 have ht := jif (k := L % 10) (by omega)
 have e1 : wrap IntKind.u64 num = num := by rw [jbE]; omega
 have e2 : wrap IntKind.u64 den = den := by rw [jbE]; omega
 unfold jjl
 rw [jrB (by omega), jaa, jas (x := L + 900) (by omega), Int.tmod_eq_emod_of_nonneg (by omega), Int.tdiv_eq_ediv_of_nonneg (by omega), jas (x := (L + 900) / 10) (by omega), jas (by omega), e1, e2]
 rw [show (L + 900) % 10 = L % 10 by omega, show (L + 900) / 10 - 90 = L / 10 by omega]
 have hl : ja3.length = 10 := rfl
 rw [if_pos (by omega), if_pos (by rw [hl]; omega)]
 unfold nuL deL
 rw [jjS hn hd (by omega) (by omega), jaa, triGe, show (if 0 < L % 10 then (0 : Int) else 0) = 0 by split <;> rfl, Int.add_zero]
theorem jez {u : Int} (hu : 0 ≤ u ∧ u ≤ 1) (hn : 1 ≤ num ∧ num ≤ 10000000000000) (hd : 1 ≤ den ∧ den ≤ 10000000000000) (h : -90 ≤ L ∧ L ≤ 90) :
  y77 num den L u = some (jcn num den (nuL u L) (deL L)) := by
 have ht := jif (k := L % 10) (by omega)
 have hnu := jwP hu h
 have hde := jwQ h
 unfold y77
 rw [jxN (by omega), jaa, jcm (by omega) (by omega), jaa, jtU (by omega), jaa]
 by_cases hk : L % 10 > 0
 ·rw [if_pos hk]
  by_cases ha : L / 10 ≥ 0
  ·have e1 : nuL u L = (ja3.getD (L % 10).toNat 0 + u) * p10 (L / 10) := by unfold nuL; rw [if_pos hk, show max (L / 10) 0 = L / 10 by omega]
   have e2 : deL L = 1000000000 := by unfold deL; rw [show max (-(L / 10)) 0 = 0 by omega]; rfl
   rw [if_pos ha, jjP (by omega), jaa, jas (x := ja3.getD (L % 10).toNat 0 + u) (by omega), ← e1, jas (x := nuL u L) (by omega), jcA (by omega) (by omega) (by omega) (by omega) (by omega) (by omega) (by omega) (by omega), jaa, e2]
  ·have e1 : nuL u L = ja3.getD (L % 10).toNat 0 + u := by unfold nuL; rw [if_pos hk, show max (L / 10) 0 = 0 by omega]; exact Int.mul_one _
   have e2 : deL L = p10 (9 - L / 10) := by unfold deL; rw [show max (-(L / 10)) 0 = -(L / 10) by omega, ← jjX (by omega), Int.sub_eq_add_neg]
   rw [if_neg ha, jas (x := 9 - L / 10) (by omega), jjP (by omega), jaa, jas (x := ja3.getD (L % 10).toNat 0 + u) (by omega), ← e1, ← e2, jcA (by omega) (by omega) (by omega) (by omega) (by omega) (by omega) (by omega) (by omega), jaa]
 ·rw [if_neg hk]
  by_cases ha : L / 10 ≥ 0
  ·have e1 : nuL u L = ja3.getD (L % 10).toNat 0 * p10 (L / 10) := by unfold nuL; rw [if_neg hk, Int.add_zero, show max (L / 10) 0 = L / 10 by omega]
   have e2 : deL L = 1000000000 := by unfold deL; rw [show max (-(L / 10)) 0 = 0 by omega]; rfl
   rw [if_pos ha, jjP (by omega), jaa, ← e1, jas (x := nuL u L) (by omega), jcA (by omega) (by omega) (by omega) (by omega) (by omega) (by omega) (by omega) (by omega), jaa, e2]
  ·have e1 : nuL u L = ja3.getD (L % 10).toNat 0 := by unfold nuL; rw [if_neg hk, Int.add_zero, show max (L / 10) 0 = 0 by omega]; exact Int.mul_one _
   have e2 : deL L = p10 (9 - L / 10) := by unfold deL; rw [show max (-(L / 10)) 0 = -(L / 10) by omega, ← jjX (by omega), Int.sub_eq_add_neg]
   rw [if_neg ha, jas (x := 9 - L / 10) (by omega), jjP (by omega), jaa, ← e1, ← e2, jcA (by omega) (by omega) (by omega) (by omega) (by omega) (by omega) (by omega) (by omega), jaa]
end
end Go.Sh
end

section
namespace Go.Sh
open Go Go.Proofs Go.RowKit Go.Sx Go.Sx06 Ieee Go.Fl
def tmE (time : Int) : Int := if 0 ≤ time ∧ time ≤ 1000000 then 0 else 2
theorem jsL {time : Int} (h : tmE time = 0) : 0 ≤ time ∧ time ≤ 1000000 := by
 unfold tmE at h
 by_cases h' : 0 ≤ time ∧ time ≤ 1000000
 ·exact h'
 ·rw [if_neg h'] at h; omega
theorem jm3 {zs : List (List Int)} (hz : ∀ r ∈ zs, okZ r) (hl : zs.length ≤ 1024) (c : Nat) : 0 ≤ sLo (zs.take c) ∧ sLo (zs.take c) ≤ sHi (zs.take c) ∧ sHi (zs.take c) ≤ 5000000000000 := by
 have := jdA (zs := zs.take c) fun r hr => hz r (List.mem_of_mem_take hr)
 have h2 : ((zs.take c).length : Int) ≤ 1024 := by rw [List.length_take]; omega
 omega
theorem jm4 {zs : List (List Int)} (hz : ∀ r ∈ zs, okZ r) (hl : zs.length ≤ 1024) (c : Nat) : 0 ≤ sLo (zs.drop c) ∧ sLo (zs.drop c) ≤ sHi (zs.drop c) ∧ sHi (zs.drop c) ≤ 5000000000000 := by
 have := jdA (zs := zs.drop c) fun r hr => hz r (List.mem_of_mem_drop hr)
 have h2 : ((zs.drop c).length : Int) ≤ 1024 := by rw [List.length_drop]; omega
 omega
def unI (num den : Int) : Option Nat := (List.range 181).findIdx? fun (i : Nat) => decide (nuL 1 (90 - (i : Int)) * den ≤ deL (90 - (i : Int)) * num)
def ovI (num den : Int) : Option Nat := (List.range 181).findIdx? fun (i : Nat) => decide (deL ((i : Int) - 90) * num ≤ nuL 0 ((i : Int) - 90) * den)
def lvS (num den : Int) : Int × Int × Int :=
 if ¬ (1 ≤ num ∧ num ≤ 10000000000000) then (0, 0, 2) else if ¬ (1 ≤ den ∧ den ≤ 10000000000000) then (0, 0, 2) else
 if den * 1000000000 < num then (0, 0, 8) else if num * 1000000000 < den then (0, 0, 8) else (90 - (((unI num den).getD 0 : Nat) : Int), (((ovI num den).getD 0 : Nat) : Int) - 90, 0)
theorem rg {i : Nat} (h : i < 181) : (List.range 181).getD i 0 = i := by simp [List.getD, h]
section
variable {num den : Int}
theorem jxl (h : den ≤ num * 1000000000) : ∃ j : Nat, unI num den = some j ∧ j < 181 ∧ decide (nuL 1 (90 - (j : Int)) * den ≤ deL (90 - (j : Int)) * num) = true ∧ ∀ i : Nat, i < j → decide (nuL 1 (90 - (i : Int)) * den ≤ deL (90 - (i : Int)) * num) = false := by
 have hx : ∃ j, unI num den = some j ∧ j ≤ 180 := by
  refine jmW (d := 0) (j := 180) (by simp) ?_
  rw [rg (by omega)]
  have e1 : nuL 1 (90 - ((180 : Nat) : Int)) = 1000000000 := by decide
  have e2 : deL (90 - ((180 : Nat) : Int)) = 1000000000000000000 := by decide
  rw [e1, e2]
  exact decide_eq_true (by omega)
 obtain ⟨j, hj, hle⟩ := hx
 obtain ⟨a, b, c⟩ := jf0 (d := 0) hj
 rw [rg (by omega)] at b
 refine ⟨j, hj, by omega, b, fun i hi => ?_⟩
 have := c i hi
 rw [rg (by omega)] at this
 exact this
theorem jxm (h : num ≤ den * 1000000000) : ∃ j : Nat, ovI num den = some j ∧ j < 181 ∧ decide (deL ((j : Int) - 90) * num ≤ nuL 0 ((j : Int) - 90) * den) = true ∧ ∀ i : Nat, i < j → decide (deL ((i : Int) - 90) * num ≤ nuL 0 ((i : Int) - 90) * den) = false := by
 have hx : ∃ j, ovI num den = some j ∧ j ≤ 180 := by
  refine jmW (d := 0) (j := 180) (by simp) ?_
  rw [rg (by omega)]
  have e1 : nuL 0 (((180 : Nat) : Int) - 90) = 1000000000000000000 := by decide
  have e2 : deL (((180 : Nat) : Int) - 90) = 1000000000 := by decide
  rw [e1, e2]
  exact decide_eq_true (by omega)
 obtain ⟨j, hj, hle⟩ := hx
 obtain ⟨a, b, c⟩ := jf0 (d := 0) hj
 rw [rg (by omega)] at b
 refine ⟨j, hj, by omega, b, fun i hi => ?_⟩
 have := c i hi
 rw [rg (by omega)] at this
 exact this
theorem jo1 : jfH num den = some (lvS num den) := by
 unfold jfH lvS y86
 rw [jdP, jaa, jaa]
 by_cases hn : 1 ≤ num ∧ num ≤ 10000000000000
 ·rw [jjv hn, if_neg Bool.false_ne_true, if_neg (fun h => h hn), jdP, jaa, jaa]
  by_cases hd : 1 ≤ den ∧ den ≤ 10000000000000
  ·rw [jjv hd, if_neg Bool.false_ne_true, if_neg (fun h => h hd)]
   have great : ∀ {a b : Int}, 1 ≤ a ∧ a ≤ 10000000000000 → 1 ≤ b ∧ b ≤ 10000000000000 → y75 a b = some (decide (b * 1000000000 < a)) := by
    intro a b ha hb
    unfold y75
    by_cases h : b ≤ 10000
    ·rw [if_pos h, jas (by omega)]
    ·rw [if_neg h, decide_eq_false (by omega)]
   rw [great hn hd, jaa]
   by_cases g1 : den * 1000000000 < num
   ·rw [decide_eq_true g1, if_pos rfl, if_pos g1]
   ·rw [decide_eq_false g1, if_neg Bool.false_ne_true, if_neg g1, great hd hn, jaa]
    by_cases g2 : num * 1000000000 < den
    ·rw [decide_eq_true g2, if_pos rfl, if_pos g2]
    ·rw [decide_eq_false g2, if_neg Bool.false_ne_true, if_neg g2]
     obtain ⟨j, hj, j1, j2, j3⟩ := jxl (num := num) (den := den) (by omega)
     obtain ⟨k, hk, k1, k2, k3⟩ := jxm (num := num) (den := den) (by omega)
     have i1 : jae (jjm num den) big (90 : Int) = some (90 - (j : Int)) := by
      refine jbA (fun i => (90 : Int) - (i : Int)) (k := j) (fun i hi => ?_) ?_ (by omega)
      ·unfold jjm
       rw [jo0 hn hd (by omega), jaa, j3 i hi, if_pos (by decide), jas (by omega)]
       congr 2; omega
      ·unfold jjm
       rw [jo0 hn hd (by omega), jaa, j2, if_neg (by decide)]
     have i2 : jae (jjn num den) big (-90 : Int) = some ((k : Int) - 90) := by
      refine jbA (fun i => (i : Int) - 90) (k := k) (fun i hi => ?_) ?_ (by omega)
      ·unfold jjn
       rw [jrC hn hd (by omega), jaa, k3 i hi, if_pos (by decide), jas (by omega)]
       congr 2; omega
      ·unfold jjn
       rw [jrC hn hd (by omega), jaa, k2, if_neg (by decide)]
     rw [i1, jaa]
     unfold jnO
     rw [i2, jaa, hj, hk]
     rfl
  ·rw [jlt hd, if_pos rfl, if_pos hd]
 ·rw [jlt hn, if_pos rfl, if_pos hn]
theorem jo2 : y78 num den = some (lvS num den) := by
 unfold y78 lvS
 rw [jcB, jaa]
 by_cases hn : 1 ≤ num ∧ num ≤ 10000000000000
 ·rw [jjv hn, if_neg Bool.false_ne_true, if_neg (fun h => h hn), jcB, jaa]
  by_cases hd : 1 ≤ den ∧ den ≤ 10000000000000
  ·rw [jjv hd, if_neg Bool.false_ne_true, if_neg (fun h => h hd)]
   rw [jcA (by omega) (by omega) (by omega) (by omega) (by omega) (by omega) (by omega) (by omega), jaa]
   have c1 : jcn num den 1000000000 1 > 0 ↔ den * 1000000000 < num := by unfold jcn; split <;> (try split) <;> omega
   have c2 : jcn num den 1 1000000000 < 0 ↔ num * 1000000000 < den := by unfold jcn; split <;> (try split) <;> omega
   by_cases g1 : den * 1000000000 < num
   ·rw [if_pos (c1.2 g1), if_pos g1]
   ·rw [if_neg (fun h => g1 (c1.1 h)), if_neg g1, jcA (by omega) (by omega) (by omega) (by omega) (by omega) (by omega) (by omega) (by omega), jaa]
    by_cases g2 : num * 1000000000 < den
    ·rw [if_pos (c2.2 g2), if_pos g2]
    ·rw [if_neg (fun h => g2 (c2.1 h)), if_neg g2]
     obtain ⟨j, hj, j1, j2, j3⟩ := jxl (num := num) (den := den) (by omega)
     obtain ⟨k, hk, k1, k2, k3⟩ := jxm (num := num) (den := den) (by omega)
     have d1 : ∀ L : Int, jcn num den (nuL 1 L) (deL L) < 0 ↔ ¬ nuL 1 L * den ≤ deL L * num := by
      intro L
      unfold jcn
      rw [Int.mul_comm num (deL L)]
      split <;> (try split) <;> omega
     have d2 : ∀ L : Int, jcn num den (nuL 0 L) (deL L) > 0 ↔ ¬ deL L * num ≤ nuL 0 L * den := by
      intro L
      unfold jcn
      rw [Int.mul_comm num (deL L)]
      split <;> (try split) <;> omega
     have i1 : jae (y81 num den) big (90 : Int) = some (90 - (j : Int)) := by
      refine jbA (fun i => (90 : Int) - (i : Int)) (k := j) (fun i hi => ?_) ?_ (by omega)
      ·unfold y81
       rw [jez (by omega) hn hd (by omega), jaa, if_pos ((d1 _).2 (of_decide_eq_false (j3 i hi))), jas (by omega)]
       congr 2; omega
      ·unfold y81
       rw [jez (by omega) hn hd (by omega), jaa, if_neg (fun h => (d1 _).1 h (of_decide_eq_true j2))]
     have i2 : jae (y82 num den) big (-90 : Int) = some ((k : Int) - 90) := by
      refine jbA (fun i => (i : Int) - 90) (k := k) (fun i hi => ?_) ?_ (by omega)
      ·unfold y82
       rw [jez (by omega) hn hd (by omega), jaa, if_pos ((d2 _).2 (of_decide_eq_false (k3 i hi))), jas (by omega)]
       congr 2; omega
      ·unfold y82
       rw [jez (by omega) hn hd (by omega), jaa, if_neg (fun h => (d2 _).1 h (of_decide_eq_true k2))]
     rw [i1, jaa]
     unfold jn7
     rw [i2, jaa, hj, hk]
     rfl
  ·rw [jlt hd, if_pos rfl, if_pos hd]
 ·rw [jlt hn, if_pos rfl, if_pos hn]
end
def clS (rate : Int) (zs : List (List Int)) (T time : Int) : Int × Int × Int :=
 if jaE rate time zs.length = zs.length then (0, 0, 12) else
 if sLo (zs.take (jaE rate time zs.length)) = 0 then (0, 0, 11) else
 if sLo (zs.drop (jaE rate time zs.length)) = 0 then (0, 0, 11) else
 if (lvS (sLo (zs.take (jaE rate time zs.length))) (sHi (zs.drop (jaE rate time zs.length)) + T)).2.2 ≠ 0 then (0, 0, (lvS (sLo (zs.take (jaE rate time zs.length))) (sHi (zs.drop (jaE rate time zs.length)) + T)).2.2) else
 if (lvS (sHi (zs.take (jaE rate time zs.length))) (sLo (zs.drop (jaE rate time zs.length)))).2.2 ≠ 0 then (0, 0, (lvS (sHi (zs.take (jaE rate time zs.length))) (sLo (zs.drop (jaE rate time zs.length)))).2.2) else
 ((lvS (sLo (zs.take (jaE rate time zs.length))) (sHi (zs.drop (jaE rate time zs.length)) + T)).1, (lvS (sHi (zs.take (jaE rate time zs.length))) (sLo (zs.drop (jaE rate time zs.length)))).2.1, 0)
theorem jyg {rate noise tail T time : Int} {l : List Nat} {zs : List (List Int)} (hz : ZOK zs T) (hr : 8000 ≤ rate ∧ rate ≤ 192000) (ht : 0 ≤ time ∧ time ≤ 1000000) :
  y43 rate l noise tail zs (ssO zs T) time = some (clS rate zs T time) := by
 unfold y43 clS
 rw [joU hz.ok hz.len hr ht, jaa, jrw hr ht, jaa, jof hr ht, jaa]
 dsimp only
 by_cases h0 : jaE rate time zs.length = zs.length
 ·rw [if_pos (show ((jaE rate time zs.length : Int) == (zs.length : Int)) = true by rw [h0]; simp), if_pos h0]
 ·rw [if_neg (show ¬ ((jaE rate time zs.length : Int) == (zs.length : Int)) = true by simp; omega), if_neg h0]
  generalize sLo (zs.take (jaE rate time zs.length)) = el at *
  generalize sHi (zs.take (jaE rate time zs.length)) = eh at *
  generalize sLo (zs.drop (jaE rate time zs.length)) = ll at *
  generalize sHi (zs.drop (jaE rate time zs.length)) = lh at *
  by_cases h1 : el = 0
  ·rw [if_pos (show (el == 0) = true by simpa using h1), if_pos h1]
  ·rw [if_neg (show ¬ (el == 0) = true by simpa using h1), if_neg h1]
   by_cases h2 : ll = 0
   ·rw [if_pos (show (ll == 0) = true by simpa using h2), if_pos h2]
   ·rw [if_neg (show ¬ (ll == 0) = true by simpa using h2), if_neg h2, jo1, jaa, jo1, jaa, jls (by simp), jaa, jxh]
    by_cases h3 : (lvS el (lh + T)).2.2 = 0
    ·rw [if_neg (show ¬ (lvS el (lh + T)).2.2 ≠ 0 from fun h => h h3), if_neg (show ¬ (lvS el (lh + T)).2.2 ≠ 0 from fun h => h h3)]
     by_cases h4 : (lvS eh ll).2.2 = 0
     ·rw [jpR h4, if_neg Bool.false_ne_true, if_neg (show ¬ (lvS eh ll).2.2 ≠ 0 from fun h => h h4)]
     ·rw [jdT h4, if_pos rfl, if_pos (show (lvS eh ll).2.2 ≠ 0 from h4)]
    ·rw [if_pos (show (lvS el (lh + T)).2.2 ≠ 0 from h3), jdT h3, if_pos rfl, if_pos (show (lvS el (lh + T)).2.2 ≠ 0 from h3)]
theorem jsj {rate noise tail time : Int} {l : List Nat} (h : (jbp rate l noise tail).2 = 0) (ht : tmE time = 0) : y22 rate l noise tail time = some (clS rate (zsO noise l) tail time) := by
 obtain ⟨hz, hr, hs, hl2, hn, htl, _⟩ := jhb h
 have ht' := jsL ht
 have hna := joT hr ht'
 unfold y22 clS
 rw [jjN hr ht', jaa, joV hs hl2 hn htl hr ht', jaa, jb8]
 dsimp only
 by_cases h0 : jaE rate time l.length = l.length
 ·rw [if_pos (show nAt rate time ≥ (l.length : Int) by unfold jaE at h0; omega), if_pos h0]
 ·rw [if_neg (show ¬ nAt rate time ≥ (l.length : Int) by unfold jaE at h0; omega), if_neg h0]
  generalize sLo ((zsO noise l).take (jaE rate time l.length)) = el at *
  generalize sHi ((zsO noise l).take (jaE rate time l.length)) = eh at *
  generalize sLo ((zsO noise l).drop (jaE rate time l.length)) = ll at *
  generalize sHi ((zsO noise l).drop (jaE rate time l.length)) = lh at *
  by_cases h1 : el = 0
  ·rw [if_pos (show (el == 0) = true by simpa using h1), if_pos h1]
  ·rw [if_neg (show ¬ (el == 0) = true by simpa using h1), if_neg h1]
   by_cases h2 : ll = 0
   ·rw [if_pos (show (ll == 0) = true by simpa using h2), if_pos h2]
   ·rw [if_neg (show ¬ (ll == 0) = true by simpa using h2), if_neg h2, jo2, jaa]
    by_cases h3 : (lvS el (lh + tail)).2.2 = 0
    ·rw [jpR h3, if_neg Bool.false_ne_true, if_neg (show ¬ (lvS el (lh + tail)).2.2 ≠ 0 from fun h => h h3), jo2, jaa]
     by_cases h4 : (lvS eh ll).2.2 = 0
     ·rw [jpR h4, if_neg Bool.false_ne_true, if_neg (show ¬ (lvS eh ll).2.2 ≠ 0 from fun h => h h4)]
     ·rw [jdT h4, if_pos rfl, if_pos (show (lvS eh ll).2.2 ≠ 0 from h4)]
    ·rw [jdT h3, if_pos rfl, if_pos (show (lvS el (lh + tail)).2.2 ≠ 0 from h3)]
end Go.Sh
end

section
namespace Go.Sh
open Go Go.Proofs Go.RowKit Go.Sx Go.Sx06 Ieee Go.Fl
open Go.IntKind (wrap)
def dwS (el eh ll lh : Int) : Int × Int × Int := if el + ll = 0 then (0, 0, 11) else (1000 * el / (el + lh), (1000 * eh + (eh + ll) - 1) / (eh + ll), 0)
def dwW (rate : Int) (l : List Nat) (noise tail time : Int) : Int × Int × Int :=
 if (jbp rate l noise tail).2 ≠ 0 then (0, 0, (jbp rate l noise tail).2) else if tmE time ≠ 0 then (0, 0, tmE time) else
 dwS (sLo ((zsO noise l).take (jaE rate time l.length))) (sHi ((zsO noise l).take (jaE rate time l.length))) (sLo ((zsO noise l).drop (jaE rate time l.length))) (sHi ((zsO noise l).drop (jaE rate time l.length)) + tail)
theorem jyh {rate noise tail T time : Int} {l : List Nat} {zs : List (List Int)} (hz : ZOK zs T) (hr : 8000 ≤ rate ∧ rate ≤ 192000) (ht : 0 ≤ time ∧ time ≤ 1000000) :
  y44 rate l noise tail zs (ssO zs T) time = some (dwS (sLo (zs.take (jaE rate time zs.length))) (sHi (zs.take (jaE rate time zs.length))) (sLo (zs.drop (jaE rate time zs.length))) (sHi (zs.drop (jaE rate time zs.length)) + T)) := by
 have a := jm3 hz.ok hz.len (jaE rate time zs.length)
 have b := jm4 hz.ok hz.len (jaE rate time zs.length)
 have hT := hz.tail
 unfold y44
 rw [joU hz.ok hz.len hr ht, jaa, jrw hr ht, jaa]
 dsimp only
 generalize sLo (zs.take (jaE rate time zs.length)) = el at *
 generalize sHi (zs.take (jaE rate time zs.length)) = eh at *
 generalize sLo (zs.drop (jaE rate time zs.length)) = ll at *
 generalize sHi (zs.drop (jaE rate time zs.length)) = lh at *
 unfold dwS
 have main : ¬ el + ll = 0 → (if wrap IntKind.i64 (el + (lh + T)) ≠ (0 : Int) then
   Option.bind (jbk (wrap IntKind.i64 ((1000 : Int) * eh)) (wrap IntKind.i64 (eh + ll))) fun r2 =>
   some ((wrap IntKind.i64 (Int.tdiv (wrap IntKind.i64 ((1000 : Int) * el)) (wrap IntKind.i64 (el + (lh + T)))), r2, (0 : Int))) else none) = some (1000 * el / (el + (lh + T)), (1000 * eh + (eh + ll) - 1) / (eh + ll), 0) := by
  intro h0
  rw [jas (x := el + (lh + T)) (by omega), if_pos (by omega), jas (x := 1000 * eh) (by omega), jas (x := eh + ll) (by omega), jas (x := 1000 * el) (by omega), jd8 (by omega) (by omega) (by omega), jaa, Int.tdiv_eq_ediv_of_nonneg (by omega)]
  have h1 : 0 ≤ 1000 * el / (el + (lh + T)) := Int.ediv_nonneg (by omega) (by omega)
  have h2 : 1000 * el / (el + (lh + T)) ≤ 1000 * el := Int.ediv_le_self _ (by omega)
  rw [jas (by omega)]
 by_cases h1 : el = 0
 ·rw [if_pos (show (el == 0) = true by simpa using h1)]
  by_cases h2 : ll = 0
  ·rw [if_pos (show (ll == 0) = true by simpa using h2), if_pos (by omega)]
  ·rw [if_neg (show ¬ (ll == 0) = true by simpa using h2), if_neg (show ¬ el + ll = 0 by omega)]
   exact main (by omega)
 ·rw [if_neg (show ¬ (el == 0) = true by simpa using h1), if_neg (show ¬ el + ll = 0 by omega)]
  exact main (by omega)
theorem jig {rate noise tail time : Int} {l : List Nat} (h : (jbp rate l noise tail).2 = 0) (ht : tmE time = 0) : y7 rate l noise tail time = some (dwW rate l noise tail time) := by
 obtain ⟨hz, hr, hs, hl2, hn, htl, _⟩ := jhb h
 have a := jm3 hz.ok hz.len (jaE rate time l.length)
 have b := jm4 hz.ok hz.len (jaE rate time l.length)
 unfold y7 dwW dwS
 rw [if_neg (show ¬ (jbp rate l noise tail).2 ≠ 0 from fun hh => hh h), if_neg (show ¬ tmE time ≠ 0 from fun hh => hh ht)]
 rw [joV hs hl2 hn htl hr (jsL ht), jaa]
 dsimp only
 generalize sLo ((zsO noise l).take (jaE rate time l.length)) = el at *
 generalize sHi ((zsO noise l).take (jaE rate time l.length)) = eh at *
 generalize sLo ((zsO noise l).drop (jaE rate time l.length)) = ll at *
 generalize sHi ((zsO noise l).drop (jaE rate time l.length)) = lh at *
 rw [jas (x := el + ll) (by omega), jas (x := el + (lh + tail)) (by omega), jas (x := 1000 * eh) (by omega), jas (x := eh + ll) (by omega), jas (x := 1000 * el) (by omega)]
 by_cases h0 : el + ll = 0
 ·rw [if_pos (show (el + ll == 0) = true by simpa using h0), if_pos h0]
 ·rw [if_neg (show ¬ (el + ll == 0) = true by simpa using h0), if_neg h0, jcm (by omega) (by omega), jaa, jcZ (by omega) (by omega), jaa, jdp (by omega)]
end Go.Sh
end

section
namespace Go.Sh
open Go Go.Proofs Go.RowKit Go.Sx Go.Sx06 Ieee Go.Fl
theorem half {X : Type} {body : X → Option (X ⊕ Int)} (mk : Int → Int → X) {yn1 yn0 u c : Int}
  (hb : ∀ q r, 0 ≤ q → q ≤ 4294967297 → 0 ≤ r → r < 4294967296 → body (mk q r) = if 4294967296 ≤ q ∨ 4294967296 * r + c < q * yn0 then (if 4294967296 ≤ r + yn1 then some (.inr (q - 1)) else some (.inl (mk (q - 1) (r + yn1)))) else some (.inr q))
  (hy1 : 2147483648 ≤ yn1 ∧ yn1 < 4294967296) (hy0 : 0 ≤ yn0 ∧ yn0 < 4294967296) (hu : 0 ≤ u ∧ u < yn1 * 4294967296 + yn0) (hc : 0 ≤ c ∧ c < 4294967296) :
  jae body big (mk (u / yn1) (u % yn1)) = some ((u * 4294967296 + c) / (yn1 * 4294967296 + yn0)) := by
 have hv : 0 < yn1 * 4294967296 + yn0 := by omega
 generalize hQ : (u * 4294967296 + c) / (yn1 * 4294967296 + yn0) = Q
 have q0 : 0 ≤ Q := by rw [← hQ]; exact Int.ediv_nonneg (by omega) (by omega)
 have qB : Q < 4294967296 := by rw [← hQ]; exact Int.ediv_lt_of_lt_mul hv (by omega)
 have le_of : ∀ q, q * (yn1 * 4294967296 + yn0) ≤ u * 4294967296 + c → q ≤ Q := fun q h => by rw [← hQ]; exact (Int.le_ediv_iff_mul_le hv).2 h
 have gt : ∀ q, u * 4294967296 + c < q * (yn1 * 4294967296 + yn0) → Q < q := fun q h => by rw [← hQ]; exact Int.ediv_lt_of_lt_mul hv h
 have exp : ∀ q r, q * yn1 + r = u → q * (yn1 * 4294967296 + yn0) = (u - r) * 4294967296 + q * yn0 := by
  intro q r h
  rw [Int.mul_add, ← Int.mul_assoc, show u - r = q * yn1 by omega]
 have main : ∀ (n : Nat) (q r : Int) (M : Nat), q * yn1 + r = u → Q ≤ q → q ≤ 4294967297 → 0 ≤ r → r < 4294967296 → 4294967296 ≤ r + (n : Int) * yn1 → n < M → jae body M (mk q r) = some Q := by
  intro n
  induction n with
  | zero =>
   intro q r M _ _ _ _ h1 h2 _
   rw [show ((0 : Nat) : Int) = 0 from rfl, Int.zero_mul] at h2
   omega
  | succ n ih =>
   intro q r M e hq hq2 hr hr2 hn hM
   obtain ⟨K, rfl⟩ : ∃ K, M = K + 1 := ⟨M - 1, by omega⟩
   unfold jae
   rw [hb q r (by omega) hq2 hr hr2]
   have ex := exp q r e
   by_cases hcnd : 4294967296 ≤ q ∨ 4294967296 * r + c < q * yn0
   ·rw [if_pos hcnd]
    have hlt : Q < q := by
     rcases hcnd with h | h
     ·omega
     ·exact gt q (by rw [ex]; omega)
    have e2 : (q - 1) * yn1 + (r + yn1) = u := by rw [Int.sub_mul]; omega
    by_cases hbr : 4294967296 ≤ r + yn1
    ·rw [if_pos hbr]
     have : q - 1 ≤ Q := by
      refine le_of _ ?_
      rw [exp _ _ e2]
      have := Int.mul_le_mul (show q - 1 ≤ 4294967296 by omega) (show yn0 ≤ 4294967296 by omega) hy0.1 (by omega)
      omega
     show some (q - 1) = some Q
     congr 1; omega
    ·rw [if_neg hbr]
     refine ih (q - 1) (r + yn1) K e2 (by omega) (by omega) (by omega) (by omega) ?_ (by omega)
     rw [show ((n + 1 : Nat) : Int) = (n : Int) + 1 from rfl, Int.add_mul] at hn
     omega
   ·rw [if_neg hcnd]
    have : q ≤ Q := le_of _ (by rw [ex]; omega)
    show some q = some Q
    congr 1; omega
 have em := Int.mul_ediv_add_emod u yn1
 have e0 := Int.emod_nonneg u (show yn1 ≠ 0 by omega)
 have e1 := Int.emod_lt_of_pos u (show 0 < yn1 by omega)
 refine main 2 _ _ big (by rw [Int.mul_comm]; exact em) ?_ ?_ e0 (by omega) (by omega) (by unfold big; omega)
 ·refine (Int.le_ediv_iff_mul_le (by omega)).2 ?_
  have h1 : Q * (yn1 * 4294967296 + yn0) ≤ u * 4294967296 + c := by rw [← hQ]; exact Int.ediv_mul_le _ (by omega)
  rw [Int.mul_add, ← Int.mul_assoc] at h1
  have := Int.mul_nonneg q0 hy0.1
  omega
 ·have : u / yn1 < 4294967298 := Int.ediv_lt_of_lt_mul (by omega) (by omega)
  omega
end Go.Sh
end

section
namespace Go.Sh
open Go Go.Proofs Go.RowKit Go.Sx Go.Sx06 Ieee Go.Fl
open Go.IntKind (wrap)
theorem jxO : ∀ b : Fin 256, 1 ≤ b.val → 1 ≤ (Array.getD (ByteArray.data jbe) b.val (0 : UInt8)).toNat ∧ (Array.getD (ByteArray.data jbe) b.val (0 : UInt8)).toNat ≤ 8 ∧ (2 : Int) ^ ((Array.getD (ByteArray.data jbe) b.val (0 : UInt8)).toNat - 1) ≤ (b.val : Int) ∧ (b.val : Int) < (2 : Int) ^ (Array.getD (ByteArray.data jbe) b.val (0 : UInt8)).toNat := by
 decide +kernel
theorem u8m (n : Int) : wrap IntKind.u8 n = n % 256 := by
 have h := jbE n
 rfl
theorem shr16 (x : Int) : Int.fdiv x ((2 : Int) ^ min (16 : Nat) (IntKind.bits IntKind.u64)) = x / 65536 := by
 rw [show (2 : Int) ^ min (16 : Nat) (IntKind.bits IntKind.u64) = 65536 from rfl]
 exact Int.fdiv_eq_ediv_of_nonneg _ (by decide)
theorem shr8 (x : Int) : Int.fdiv x ((2 : Int) ^ min (8 : Nat) (IntKind.bits IntKind.u64)) = x / 256 := by
 rw [show (2 : Int) ^ min (8 : Nat) (IntKind.bits IntKind.u64) = 256 from rfl]
 exact Int.fdiv_eq_ediv_of_nonneg _ (by decide)
def jxn (x : Int) (r : Option Int) : Prop := ∃ n : Nat, r = some (n : Int) ∧ 1 ≤ n ∧ n ≤ 64 ∧ (2 : Int) ^ (n - 1) ≤ x ∧ x < (2 : Int) ^ n
theorem jgm {x b c : Int} (s : Nat) (hs : s ≤ 56) (hc : c = (s : Int)) (hb : 1 ≤ b ∧ b < 256) (hx : b * (2 : Int) ^ s ≤ x ∧ x < (b + 1) * (2 : Int) ^ s) :
  jxn x (if (0 : Int) ≤ wrap IntKind.u8 b ∧ wrap IntKind.u8 b < (↑(ByteArray.size jbe) : Int) then
   some (wrap IntKind.i64 (c + wrap IntKind.i64 (↑(UInt8.toNat (Array.getD (ByteArray.data jbe) (Int.toNat (wrap IntKind.u8 b)) (0 : UInt8))) : Int))) else none) := by
 have e : wrap IntKind.u8 b = b := by rw [u8m]; omega
 have hsz : ByteArray.size jbe = 256 := by decide +kernel
 rw [e, hsz, if_pos (by omega)]
 obtain ⟨b', rfl⟩ := Int.eq_ofNat_of_zero_le (show 0 ≤ b by omega)
 obtain ⟨h1, h2, h3, h4⟩ := jxO ⟨b', by omega⟩ (by show 1 ≤ b'; omega)
 rw [Int.toNat_natCast]
 change 1 ≤ (Array.getD (ByteArray.data jbe) b' (0 : UInt8)).toNat at h1
 change (Array.getD (ByteArray.data jbe) b' (0 : UInt8)).toNat ≤ 8 at h2
 change (2 : Int) ^ ((Array.getD (ByteArray.data jbe) b' (0 : UInt8)).toNat - 1) ≤ (b' : Int) at h3
 change (b' : Int) < (2 : Int) ^ (Array.getD (ByteArray.data jbe) b' (0 : UInt8)).toNat at h4
 generalize (Array.getD (ByteArray.data jbe) b' (0 : UInt8)).toNat = t at *
 rw [hc, jas (x := (t : Int)) (by omega), jas (x := (s : Int) + (t : Int)) (by omega)]
 have hp : (0 : Int) < (2 : Int) ^ s := Int.pow_pos (by decide)
 refine ⟨s + t, rfl, by omega, by omega, ?_, ?_⟩
 ·have := Int.mul_le_mul_of_nonneg_right h3 (Int.le_of_lt hp)
  rw [show s + t - 1 = (t - 1) + s by omega, Int.pow_add]
  omega
 ·have := Int.mul_le_mul_of_nonneg_right (show (b' : Int) + 1 ≤ (2 : Int) ^ t by omega) (Int.le_of_lt hp)
  rw [Nat.add_comm s t, Int.pow_add]
  omega
theorem jwR {x : Int} (hx : 1 ≤ x ∧ x < 18446744073709551616) : jxn x (y71 x) := by
 unfold y71
 simp only [jey, shr16, shr8]
 have k56 : (2 : Int) ^ 56 = 72057594037927936 := by decide
 have k48 : (2 : Int) ^ 48 = 281474976710656 := by decide
 have k40 : (2 : Int) ^ 40 = 1099511627776 := by decide
 have k32 : (2 : Int) ^ 32 = 4294967296 := by decide
 have k24 : (2 : Int) ^ 24 = 16777216 := by decide
 have k16 : (2 : Int) ^ 16 = 65536 := by decide
 have k8 : (2 : Int) ^ 8 = 256 := by decide
 have k0 : (2 : Int) ^ 0 = 1 := by decide
 by_cases h1 : x ≥ 4294967296
 ·rw [if_pos h1]
  by_cases h2 : x / 4294967296 ≥ 65536
  ·rw [if_pos h2]
   by_cases h3 : x / 4294967296 / 65536 ≥ 256
   ·rw [if_pos h3]; exact jgm 56 (by omega) (by decide) (by omega) (by rw [k56]; omega)
   ·rw [if_neg h3]; exact jgm 48 (by omega) (by decide) (by omega) (by rw [k48]; omega)
  ·rw [if_neg h2]
   by_cases h3 : x / 4294967296 ≥ 256
   ·rw [if_pos h3]; exact jgm 40 (by omega) (by decide) (by omega) (by rw [k40]; omega)
   ·rw [if_neg h3]; exact jgm 32 (by omega) (by decide) (by omega) (by rw [k32]; omega)
 ·rw [if_neg h1]
  by_cases h2 : x ≥ 65536
  ·rw [if_pos h2]
   by_cases h3 : x / 65536 ≥ 256
   ·rw [if_pos h3]; exact jgm 24 (by omega) (by decide) (by omega) (by rw [k24]; omega)
   ·rw [if_neg h3]; exact jgm 16 (by omega) (by decide) (by omega) (by rw [k16]; omega)
  ·rw [if_neg h2]
   by_cases h3 : x ≥ 256
   ·rw [if_pos h3]; exact jgm 8 (by omega) (by decide) (by omega) (by rw [k8]; omega)
   ·rw [if_neg h3]; exact jgm 0 (by omega) (by decide) (by omega) (by rw [k0]; omega)
theorem ju5 {y : Int} (hy : 1 ≤ y ∧ y < 18446744073709551616) : ∃ s : Nat, y12 y = some (s : Int) ∧ s ≤ 63 ∧ 9223372036854775808 ≤ y * (2 : Int) ^ s ∧ y * (2 : Int) ^ s < 18446744073709551616 := by
 obtain ⟨n, hn, h1, h2, h3, h4⟩ := jwR hy
 have hp : (0 : Int) < (2 : Int) ^ (64 - n) := Int.pow_pos (by decide)
 refine ⟨64 - n, ?_, by omega, ?_, ?_⟩
 ·unfold y12
  rw [hn, jaa, jas (by omega)]
  congr 1; omega
 ·have := Int.mul_le_mul_of_nonneg_right h3 (Int.le_of_lt hp)
  rw [← Int.pow_add, show n - 1 + (64 - n) = 63 by omega, show (2 : Int) ^ 63 = 9223372036854775808 by decide] at this
  exact this
 ·have := Int.mul_lt_mul_of_pos_right h4 hp
  rw [← Int.pow_add, show n + (64 - n) = 64 by omega, show (2 : Int) ^ 64 = 18446744073709551616 by decide] at this
  exact this
end Go.Sh
end

section
namespace Go.Sh
open Go Go.Proofs Go.RowKit Go.Sx Go.Sx06 Ieee Go.Fl
open Go.IntKind (wrap)
theorem jyj {a C : Int} {s : Nat} (ha : 0 ≤ a) (hA : a * (2 : Int) ^ s < 18446744073709551616) (hC : 0 ≤ C ∧ C < (2 : Int) ^ s) (hs : s ≤ 63) :
  (↑(BitVec.toNat (BitVec.ofInt (IntKind.bits IntKind.u64) (a * (2 : Int) ^ s) ||| BitVec.ofInt (IntKind.bits IntKind.u64) C)) : Int) = a * (2 : Int) ^ s + C := by
 obtain ⟨a', rfl⟩ := Int.eq_ofNat_of_zero_le ha
 obtain ⟨C', rfl⟩ := Int.eq_ofNat_of_zero_le hC.1
 have hp : (2 : Int) ^ s = ((2 ^ s : Nat) : Int) := by simp
 have hC2 : C' < 2 ^ s := by have := hC.2; rw [hp] at this; exact Int.ofNat_lt.1 this
 have hs64 : 2 ^ s ≤ 2 ^ 63 := Nat.pow_le_pow_right (by omega) hs
 have hCs : C' < 18446744073709551616 := by
  have : (2 : Nat) ^ 63 = 9223372036854775808 := by decide
  omega
 rw [hp] at hA ⊢
 have hA2 : a' * 2 ^ s < 18446744073709551616 := by
  have : ((a' * 2 ^ s : Nat) : Int) < 18446744073709551616 := by rw [Int.natCast_mul]; exact hA
  omega
 rw [BitVec.toNat_or, ← Int.natCast_mul, BitVec.ofInt_natCast, BitVec.ofInt_natCast, BitVec.toNat_ofNat, BitVec.toNat_ofNat, b64, show 2 ^ 64 = 18446744073709551616 from by decide, Nat.mod_eq_of_lt hA2, Nat.mod_eq_of_lt hCs, Nat.mul_comm, ← Nat.two_pow_add_eq_or_of_lt hC2, Int.natCast_add]
structure Sh64 (hi lo y P R v u n : Int) : Prop where
 hv : v = y * P
 v1 : 9223372036854775808 ≤ v ∧ v < 18446744073709551616
 hu : u = hi * P + lo / R
 u1 : 0 ≤ u ∧ u < v
 hn : n = lo * P % 18446744073709551616
 tot : u * 18446744073709551616 + n = (hi * 18446744073709551616 + lo) * P
theorem sh64 {hi lo y : Int} (hh : 0 ≤ hi ∧ hi < y) (hy : y < 18446744073709551616) (hl : 0 ≤ lo ∧ lo < 18446744073709551616) {s : Nat} (hs : s ≤ 63) (h1 : 9223372036854775808 ≤ y * (2 : Int) ^ s) (h2 : y * (2 : Int) ^ s < 18446744073709551616) :
  Sh64 hi lo y ((2 : Int) ^ s) ((2 : Int) ^ (64 - s)) (y * (2 : Int) ^ s) (hi * (2 : Int) ^ s + lo / (2 : Int) ^ (64 - s)) (lo * (2 : Int) ^ s % 18446744073709551616) ∧ (0 ≤ lo / (2 : Int) ^ (64 - s) ∧ lo / (2 : Int) ^ (64 - s) < (2 : Int) ^ s) ∧ 0 ≤ hi * (2 : Int) ^ s ∧ hi * (2 : Int) ^ s < 18446744073709551616 := by
 have hP : (0 : Int) < (2 : Int) ^ s := Int.pow_pos (by decide)
 have hR : (0 : Int) < (2 : Int) ^ (64 - s) := Int.pow_pos (by decide)
 have hPR : (2 : Int) ^ s * (2 : Int) ^ (64 - s) = 18446744073709551616 := by rw [← Int.pow_add, show s + (64 - s) = 64 by omega]; decide
 generalize (2 : Int) ^ s = P at *
 generalize (2 : Int) ^ (64 - s) = R at *
 have c0 : 0 ≤ lo / R := Int.ediv_nonneg hl.1 (Int.le_of_lt hR)
 have c1 : lo / R < P := Int.ediv_lt_of_lt_mul hR (by rw [hPR]; exact hl.2)
 have c2 := Int.mul_ediv_add_emod lo R
 have c3 := Int.emod_nonneg lo (show R ≠ 0 by omega)
 have c4 := Int.emod_lt_of_pos lo hR
 have a0 := Int.mul_nonneg hh.1 (Int.le_of_lt hP)
 have a1 := Int.mul_le_mul_of_nonneg_right (show hi + 1 ≤ y by omega) (Int.le_of_lt hP)
 rw [Int.add_mul, Int.one_mul] at a1
 have n1 : lo * P = lo / R * 18446744073709551616 + lo % R * P := by
  conv => lhs; rw [← c2]
  rw [Int.add_mul, ← hPR]
  grind
 have n2 : 0 ≤ lo % R * P := Int.mul_nonneg c3 (Int.le_of_lt hP)
 have n3 : lo % R * P < 18446744073709551616 := by
  have := Int.mul_lt_mul_of_pos_right c4 hP
  rw [Int.mul_comm R P, hPR] at this
  exact this
 refine ⟨⟨rfl, ⟨h1, h2⟩, rfl, ⟨by omega, by omega⟩, rfl, ?_⟩, ⟨c0, c1⟩, a0, by omega⟩
 have e : lo * P % 18446744073709551616 = lo % R * P := by rw [n1]; omega
 rw [e, Int.add_mul (hi * 18446744073709551616), n1]
 grind
theorem wu {x : Int} (h : 0 ≤ x ∧ x < 18446744073709551616) : wrap IntKind.u64 x = x := by rw [jbE]; omega
theorem shn {s : Nat} (hs : s ≤ 63) : wrap IntKind.u64 (s : Int) = (s : Int) ∧ min s (IntKind.bits IntKind.u64) = s := ⟨wu (by omega), by rw [b64]; omega⟩
theorem shm {s : Nat} (hs : s ≤ 63) : Int.toNat (wrap IntKind.u64 ((64 : Int) - (s : Int))) = 64 - s ∧ min (64 - s) (IntKind.bits IntKind.u64) = 64 - s := ⟨by rw [wu (by omega)]; omega, by rw [b64]; omega⟩
theorem jih {w q c : Int} (hw : 0 < w) (hc : 0 ≤ c) (hq : q = c / w) : q * w ≤ c ∧ c < q * w + w := by
 have h1 := Int.mul_ediv_add_emod c w
 have h2 := Int.emod_nonneg c (show w ≠ 0 by omega)
 have h3 := Int.emod_lt_of_pos c hw
 rw [← hq, Int.mul_comm] at h1
 omega
section
variable {lo y v n : Int} {s : Nat}
theorem body0 (hs : s ≤ 63) (hv : y * (2 : Int) ^ s = v) (v1 : 9223372036854775808 ≤ v ∧ v < 18446744073709551616) (hn : lo * (2 : Int) ^ s % 18446744073709551616 = n) (q r : Int) (hq : 0 ≤ q) (hq2 : q ≤ 4294967297) (hr : 0 ≤ r) (hr2 : r < 4294967296) :
  y45 lo y (s : Int) (q, r) = if 4294967296 ≤ q ∨ 4294967296 * r + n / 4294967296 < q * (v % 4294967296) then (if 4294967296 ≤ r + v / 4294967296 then some (.inr (q - 1)) else some (.inl (q - 1, r + v / 4294967296))) else some (.inr q) := by
 have hn1 : 0 ≤ n ∧ n < 18446744073709551616 := by omega
 unfold y45
 simp only [(shn hs).1, Int.toNat_natCast, (shn hs).2, hv, wu (x := v) (by omega), jey, jfK, jbE (lo * (2 : Int) ^ s), hn]
 have m0 : 0 ≤ v % 4294967296 ∧ v % 4294967296 ≤ 4294967295 := by omega
 have p1 := Int.mul_le_mul hq2 m0.2 m0.1 (by omega)
 have p0 := Int.mul_nonneg hq m0.1
 rw [wu (x := v % 4294967296) (by omega), wu (x := q * (v % 4294967296)) (by omega), wu (x := 4294967296 * r) (by omega), wu (x := 4294967296 * r + n / 4294967296) (by omega), wu (x := r + v / 4294967296) (by omega)]
 by_cases h1 : q ≥ 4294967296
 ·rw [if_pos h1, if_pos (Or.inl h1), wu (x := q - 1) (by omega)]
 ·rw [if_neg h1]
  by_cases h2 : q * (v % 4294967296) > 4294967296 * r + n / 4294967296
  ·have hq1 : 1 ≤ q := by
    rcases Int.lt_or_eq_of_le hq with h | h
    ·omega
    ·rw [← h, Int.zero_mul] at h2; omega
   rw [if_pos h2, if_pos (Or.inr h2), wu (x := q - 1) (by omega)]
  ·rw [if_neg h2, if_neg (by omega)]
theorem body1 (hs : s ≤ 63) (hv : y * (2 : Int) ^ s = v) (v1 : 9223372036854775808 ≤ v ∧ v < 18446744073709551616) (hn : lo * (2 : Int) ^ s % 18446744073709551616 = n) (q r : Int) (hq : 0 ≤ q) (hq2 : q ≤ 4294967297) (hr : 0 ≤ r) (hr2 : r < 4294967296) :
  y83 lo y (s : Int) (r, q) = if 4294967296 ≤ q ∨ 4294967296 * r + n % 4294967296 < q * (v % 4294967296) then (if 4294967296 ≤ r + v / 4294967296 then some (.inr (q - 1)) else some (.inl (r + v / 4294967296, q - 1))) else some (.inr q) := by
 have hn1 : 0 ≤ n ∧ n < 18446744073709551616 := by omega
 unfold y83
 simp only [(shn hs).1, Int.toNat_natCast, (shn hs).2, hv, wu (x := v) (by omega), jey, jfK, jbE (lo * (2 : Int) ^ s), hn]
 have m0 : 0 ≤ v % 4294967296 ∧ v % 4294967296 ≤ 4294967295 := by omega
 have p1 := Int.mul_le_mul hq2 m0.2 m0.1 (by omega)
 have p0 := Int.mul_nonneg hq m0.1
 rw [wu (x := v % 4294967296) (by omega), wu (x := n % 4294967296) (by omega), wu (x := q * (v % 4294967296)) (by omega), wu (x := 4294967296 * r) (by omega), wu (x := 4294967296 * r + n % 4294967296) (by omega), wu (x := r + v / 4294967296) (by omega)]
 by_cases h1 : q ≥ 4294967296
 ·rw [if_pos h1, if_pos (Or.inl h1), wu (x := q - 1) (by omega)]
 ·rw [if_neg h1]
  by_cases h2 : q * (v % 4294967296) > 4294967296 * r + n % 4294967296
  ·have hq1 : 1 ≤ q := by
    rcases Int.lt_or_eq_of_le hq with h | h
    ·omega
    ·rw [← h, Int.zero_mul] at h2; omega
   rw [if_pos h2, if_pos (Or.inr h2), wu (x := q - 1) (by omega)]
  ·rw [if_neg h2, if_neg (by omega)]
end
end Go.Sh
end

section
namespace Go.Sh
open Go Go.Proofs Go.RowKit Go.Sx Go.Sx06 Ieee Go.Fl
open Go.IntKind (wrap)
theorem jwS {hi lo y : Int} (hh : 0 ≤ hi ∧ hi < y) (hy : y < 18446744073709551616) (hl : 0 ≤ lo ∧ lo < 18446744073709551616) :
  y72 hi lo y = some ((hi * 18446744073709551616 + lo) / y, (hi * 18446744073709551616 + lo) % y) := by
 unfold y72
 rw [if_neg (show ¬ (y == 0) = true by simp; omega), if_neg (by omega)]
 by_cases h0 : hi = 0
 ·subst h0
  rw [if_pos (by rfl), if_pos (by omega), if_pos (by omega), Int.tdiv_eq_ediv_of_nonneg hl.1, Int.tmod_eq_emod_of_nonneg hl.1, Int.zero_mul, Int.zero_add]
  have a : 0 ≤ lo / y := Int.ediv_nonneg hl.1 (by omega)
  have b : lo / y ≤ lo := Int.ediv_le_self _ hl.1
  rw [wu (by omega)]
 ·rw [if_neg (show ¬ (hi == 0) = true by simpa using h0)]
  obtain ⟨s, hs, s1, g1, g2⟩ := ju5 (y := y) (by omega)
  obtain ⟨sh, hC, hA0, hA⟩ := sh64 hh hy hl s1 g1 g2
  have hP : (0 : Int) < (2 : Int) ^ s := Int.pow_pos (by decide)
  have hor := jyj hh.1 hA hC s1
  have hR : (2 : Int) ^ (64 - s) ≥ 0 := Int.le_of_lt (Int.pow_pos (by decide))
  rw [hs, jaa]
  generalize hv : y * (2 : Int) ^ s = v at *
  generalize hn : lo * (2 : Int) ^ s % 18446744073709551616 = n at *
  generalize hu : hi * (2 : Int) ^ s + lo / (2 : Int) ^ (64 - s) = u at *
  have hv1 := sh.v1
  have hu1 := sh.u1
  have hn1 : 0 ≤ n ∧ n < 18446744073709551616 := by omega
  have tot := sh.tot
  have y1 : 2147483648 ≤ v / 4294967296 ∧ v / 4294967296 < 4294967296 := by omega
  have y0 : 0 ≤ v % 4294967296 ∧ v % 4294967296 < 4294967296 := by omega
  have yv : v / 4294967296 * 4294967296 + v % 4294967296 = v := by omega
  have c1 : 0 ≤ n / 4294967296 ∧ n / 4294967296 < 4294967296 := by omega
  have c0 : 0 ≤ n % 4294967296 ∧ n % 4294967296 < 4294967296 := by omega
  have L0 := half (body := y45 lo y (s : Int)) (fun q r => (q, r)) (fun q r a b c d => body0 s1 hv hv1 hn q r a b c d) y1 y0 (by rw [yv]; exact hu1) c1
  rw [yv] at L0
  generalize hq1 : (u * 4294967296 + n / 4294967296) / v = q1 at *
  have Q1 := jih (w := v) (c := u * 4294967296 + n / 4294967296) (by omega) (by omega) hq1.symm
  have q10 : 0 ≤ q1 := by rw [← hq1]; exact Int.ediv_nonneg (by omega) (by omega)
  have q1B : q1 < 4294967296 := by rw [← hq1]; exact Int.ediv_lt_of_lt_mul (by omega) (by omega)
  generalize hr1 : u * 4294967296 + n / 4294967296 - q1 * v = r1 at *
  have r1b : 0 ≤ r1 ∧ r1 < v := by omega
  have L1 := half (body := y83 lo y (s : Int)) (fun q r => (r, q)) (fun q r a b c d => body1 s1 hv hv1 hn q r a b c d) y1 y0 (by rw [yv]; exact r1b) c0
  rw [yv] at L1
  generalize hq0 : (r1 * 4294967296 + n % 4294967296) / v = q0 at *
  have Q0 := jih (w := v) (c := r1 * 4294967296 + n % 4294967296) (by omega) (by omega) hq0.symm
  have q00 : 0 ≤ q0 := by rw [← hq0]; exact Int.ediv_nonneg (by omega) (by omega)
  have q0B : q0 < 4294967296 := by rw [← hq0]; exact Int.ediv_lt_of_lt_mul (by omega) (by omega)
  have dS : ∀ x : Int, Int.fdiv x ((2 : Int) ^ s) = x / (2 : Int) ^ s := fun x => Int.fdiv_eq_ediv_of_nonneg _ (Int.le_of_lt hP)
  have dR : ∀ x : Int, Int.fdiv x ((2 : Int) ^ (64 - s)) = x / (2 : Int) ^ (64 - s) := fun x => Int.fdiv_eq_ediv_of_nonneg _ hR
  have m1 := jih (w := v / 4294967296) (c := u) (q := u / (v / 4294967296)) (by omega) hu1.1 rfl
  have m1' := Int.mul_ediv_add_emod u (v / 4294967296)
  have m1d : 0 ≤ u / (v / 4294967296) := Int.ediv_nonneg hu1.1 (by omega)
  have m1e : u / (v / 4294967296) ≤ u := Int.ediv_le_self _ hu1.1
  have m1f : 0 ≤ u / (v / 4294967296) * (v / 4294967296) := Int.mul_nonneg m1d (by omega)
  have k1 := jih (w := v / 4294967296) (c := r1) (q := r1 / (v / 4294967296)) (by omega) r1b.1 rfl
  have k1' := Int.mul_ediv_add_emod r1 (v / 4294967296)
  have k1d : 0 ≤ r1 / (v / 4294967296) := Int.ediv_nonneg r1b.1 (by omega)
  have k1e : r1 / (v / 4294967296) ≤ r1 := Int.ediv_le_self _ r1b.1
  have k1f : 0 ≤ r1 / (v / 4294967296) * (v / 4294967296) := Int.mul_nonneg k1d (by omega)
  have e21 : wrap .u64 (wrap .u64 (wrap .u64 (u * 4294967296) + n / 4294967296) - wrap .u64 (q1 * v)) = r1 := by
   simp only [jbE]
   omega
  have er : wrap .u64 (wrap .u64 (wrap .u64 (r1 * 4294967296) + n % 4294967296) - wrap .u64 (q0 * v)) = r1 * 4294967296 + n % 4294967296 - q0 * v := by
   simp only [jbE]
   omega
  simp only [(shn s1).1, Int.toNat_natCast, (shn s1).2, (shm s1).1, (shm s1).2, dS, dR, hv, wu (x := v) (by omega), jey, wu (x := hi * (2 : Int) ^ s) ⟨hA0, hA⟩, hor, hu]
  rw [wu (x := u) (by omega), Int.tdiv_eq_ediv_of_nonneg hu1.1, wu (x := u / (v / 4294967296)) (by omega), wu (x := u / (v / 4294967296) * (v / 4294967296)) (by omega), wu (x := u - u / (v / 4294967296) * (v / 4294967296)) (by omega)]
  rw [show u - u / (v / 4294967296) * (v / 4294967296) = u % (v / 4294967296) by rw [Int.mul_comm]; omega]
  have w64 : (0 : Int) ≤ wrap IntKind.u64 ((64 : Int) - (s : Int)) := by rw [wu (by omega)]; omega
  rw [if_pos (by omega), if_pos (by omega), if_pos w64, if_pos (by omega), if_pos (by omega), L0, jaa]
  unfold y65
  simp only [(shn s1).1, Int.toNat_natCast, (shn s1).2, (shm s1).1, (shm s1).2, dS, dR, hv, wu (x := v) (by omega), jey, wu (x := hi * (2 : Int) ^ s) ⟨hA0, hA⟩, hor, hu, jbE (lo * (2 : Int) ^ s), hn, wu (x := u) (by omega), e21]
  rw [Int.tdiv_eq_ediv_of_nonneg r1b.1, wu (x := r1 / (v / 4294967296)) (by omega), wu (x := r1 / (v / 4294967296) * (v / 4294967296)) (by omega), wu (x := r1 - r1 / (v / 4294967296) * (v / 4294967296)) (by omega)]
  rw [show r1 - r1 / (v / 4294967296) * (v / 4294967296) = r1 % (v / 4294967296) by rw [Int.mul_comm]; omega]
  rw [if_pos (by omega), L1, jaa]
  unfold y18
  simp only [(shn s1).1, Int.toNat_natCast, (shn s1).2, (shm s1).1, (shm s1).2, dS, dR, hv, wu (x := v) (by omega), jey, jfK, wu (x := hi * (2 : Int) ^ s) ⟨hA0, hA⟩, hor, hu, jbE (lo * (2 : Int) ^ s), hn, wu (x := u) (by omega), e21, wu (x := n % 4294967296) (by omega), er]
  rw [if_pos (by omega), wu (x := q1 * 4294967296) (by omega), wu (x := q1 * 4294967296 + q0) (by omega)]
  have fin : (hi * 18446744073709551616 + lo) * (2 : Int) ^ s = (q1 * 4294967296 + q0) * v + (r1 * 4294967296 + n % 4294967296 - q0 * v) := by
   rw [← tot, Int.add_mul, Int.mul_right_comm]
   omega
  generalize hrem : r1 * 4294967296 + n % 4294967296 - q0 * v = rem at *
  have remb : 0 ≤ rem ∧ rem < v := by omega
  generalize (hi * 18446744073709551616 + lo) = x at *
  generalize (2 : Int) ^ s = P at *
  have hdiv : x / y = q1 * 4294967296 + q0 := by
   have h1 : (q1 * 4294967296 + q0) * v ≤ x * P := by omega
   have h2 : x * P < (q1 * 4294967296 + q0 + 1) * v := by rw [Int.add_mul _ 1, Int.one_mul]; omega
   rw [← hv, ← Int.mul_assoc] at h1 h2
   have h3 := Int.le_of_mul_le_mul_right h1 hP
   have h4 := Int.lt_of_mul_lt_mul_right h2 (Int.le_of_lt hP)
   have h5 : q1 * 4294967296 + q0 ≤ x / y := (Int.le_ediv_iff_mul_le (by omega)).2 h3
   have h6 : x / y < q1 * 4294967296 + q0 + 1 := Int.ediv_lt_of_lt_mul (by omega) h4
   omega
  have hmod : rem / P = x % y := by
   have h1 := Int.mul_ediv_add_emod x y
   rw [hdiv] at h1
   have : rem = x % y * P := by
    have h2 : x * P = (q1 * 4294967296 + q0) * v + x % y * P := by
     conv => lhs; rw [← h1]
     rw [Int.add_mul, ← hv, Int.mul_comm y, Int.mul_assoc]
    omega
   rw [this]
   exact Int.mul_ediv_cancel _ (by omega)
  rw [hdiv, hmod]
end Go.Sh
end

section
namespace Go.Sh
open Go Go.Proofs Go.RowKit Go.Sx Go.Sx06 Ieee Go.Fl
open Go.IntKind (wrap)
def mo (j : Nat) (zs : List (List Int)) : Nat → Int
 | 0 => 0
 | k + 1 => mo j zs k + (k : Int) * (zs.getD k []).getD j 0
theorem joh {zs : List (List Int)} (hz : ∀ r ∈ zs, okZ r) (hl : zs.length ≤ 1024) {k : Nat} (hk : k < zs.length) :
  0 ≤ (k : Int) * (zs.getD k []).getD 0 0 ∧ (k : Int) * (zs.getD k []).getD 0 0 ≤ (k : Int) * (zs.getD k []).getD 1 0 ∧ (k : Int) * (zs.getD k []).getD 1 0 ≤ 4398046511104 := by
 have ho := hz (zs.getD k []) (by simp [List.getD, hk])
 unfold okZ at ho
 have a := Int.mul_nonneg (show 0 ≤ (k : Int) by omega) ho.1
 have b := Int.mul_le_mul_of_nonneg_left ho.2.1 (show 0 ≤ (k : Int) by omega)
 have c := Int.mul_le_mul (show (k : Int) ≤ 1024 by omega) ho.2.2 (by omega) (by omega)
 omega
theorem jii {zs : List (List Int)} (hz : ∀ r ∈ zs, okZ r) (hl : zs.length ≤ 1024) : ∀ k : Nat, k ≤ zs.length → 0 ≤ mo 0 zs k ∧ mo 0 zs k ≤ mo 1 zs k ∧ mo 1 zs k ≤ (k : Int) * 4398046511104
 | 0, _ => by simp [mo]
 | k + 1, h => by
  have ih := jii hz hl k (by omega)
  have t := joh hz hl (k := k) (by omega)
  unfold mo
  rw [show ((k + 1 : Nat) : Int) = (k : Int) + 1 from rfl, Int.add_mul]
  omega
theorem momG {zs : List (List Int)} (hz : ∀ r ∈ zs, okZ r) (hl : zs.length ≤ 1024) : jae (y58 zs) big (0, 0, 0) = some (mo 0 zs zs.length, mo 1 zs zs.length) := by
 refine jbA (fun i => ((i : Int), mo 0 zs i, mo 1 zs i)) (k := zs.length) (fun i hi => ?_) ?_ (by omega)
 ·have r := jii hz hl i (by omega)
  have t := joh hz hl (k := i) hi
  unfold y58 jcX
  dsimp only
  rw [if_pos (by omega), if_pos (by omega), Int.toNat_natCast, if_pos hi, jaa, jas (x := (i : Int) + 1) (by omega), jas (x := (i : Int) * (zs.getD i []).getD 0 0) (by omega), jas (x := (i : Int) * (zs.getD i []).getD 1 0) (by omega), jas (by omega), jas (by omega)]
  rfl
 ·unfold y58
  dsimp only
  rw [if_neg (by omega)]
theorem momR {rate noise tail : Int} {l : List Nat} (hs : ∀ b ∈ l, se b = 0) (hn : 0 ≤ noise ∧ noise ≤ 32767) (hl : l.length ≤ 1024) : jae (y92 rate l noise tail) big (0, 0, 0) = some (mo 0 (zsO noise l) l.length, mo 1 (zsO noise l) l.length) := by
 have hz := jfT hn hs
 have hzl := jb8 noise l
 refine jbA (fun i => ((i : Int), mo 0 (zsO noise l) i, mo 1 (zsO noise l) i)) (k := l.length) (fun i hi => ?_) ?_ (by omega)
 ·have r := jii hz (by omega) i (by omega)
  have t := joh hz (by omega) (k := i) (by omega)
  unfold y92
  dsimp only
  rw [if_pos (by omega), jmV hi hs hn, jaa, jas (x := (i : Int) + 1) (by omega), jas (x := (i : Int) * ((zsO noise l).getD i []).getD 0 0) (by omega), jas (x := (i : Int) * ((zsO noise l).getD i []).getD 1 0) (by omega), jas (by omega), jas (by omega)]
  rfl
 ·unfold y92
  dsimp only
  rw [if_neg (by omega)]
theorem jo3 {m e rate noise tail : Int} {l : List Nat} {zs ss : List (List Int)} (hm : 0 ≤ m ∧ m ≤ 4600000000000000) (he : 1 ≤ e ∧ e ≤ 6000000000000) (hr : 8000 ≤ rate ∧ rate ≤ 192000) :
  y19 m e rate l noise tail zs ss = some (m * 1000000 / (e * rate), decide (m * 1000000 % (e * rate) > 0)) := by
 have y0 : 8000 ≤ e * rate := by
  have := Int.mul_le_mul he.1 hr.1 (by omega) (by omega)
  omega
 have y1 : e * rate ≤ 1152000000000000000 := by
  have := Int.mul_le_mul he.2 hr.2 (by omega) (by omega)
  omega
 have h9 : y9 m (1000000 : Int) = some (m * 1000000 / 18446744073709551616, m * 1000000 % 18446744073709551616) := jcw (by omega) (by omega) (by omega) (by omega)
 have e9 := h9
 unfold y9 at e9
 have e9 := congrArg Prod.fst (Option.some.inj e9)
 dsimp only at e9
 simp only [jey, jfK, jbE, mw] at e9
 rw [show (1000000 : Int) % 4294967296 = 1000000 from by decide] at e9
 unfold y19
 rw [wu (x := m) (by omega), h9, jaa, jas (x := e * rate) (by omega), wu (x := e * rate) (by omega)]
 simp only [jey, jfK, jbE, mw]
 first
  | rw [e9]
  | (rw [show (1000000 : Int) % 4294967296 % 18446744073709551616 = 1000000 from by decide, e9])
  | (rw [show (1000000 : Int) % 4294967296 = 1000000 from by decide, e9])
 have hq0 : 0 ≤ m * 1000000 / (e * rate) := Int.ediv_nonneg (by omega) (by omega)
 have hq1 : m * 1000000 / (e * rate) < 9000000000000000000 := by
  refine Int.ediv_lt_of_lt_mul (by omega) ?_
  omega
 have ex : m * 1000000 / 18446744073709551616 * 18446744073709551616 + m * 1000000 % 18446744073709551616 = m * 1000000 := by omega
 rw [jwS (by omega) (by omega) (by omega), jaa, ex, jas (by omega)]
theorem jo4 {a b : Int} (hb : 0 < b) : -(-a / b) = a / b + if a % b > 0 then 1 else 0 := by
 have h1 := Int.mul_ediv_add_emod a b
 have h2 := Int.emod_nonneg a (show b ≠ 0 by omega)
 have h3 := Int.emod_lt_of_pos a hb
 by_cases h : a % b > 0
 ·rw [if_pos h]
  have : -a / b = -(a / b) - 1 := by
   refine Int.ediv_eq_iff_of_pos hb |>.2 ?_
   grind
  omega
 ·rw [if_neg h]
  have : -a / b = -(a / b) := by
   refine Int.ediv_eq_iff_of_pos hb |>.2 ?_
   grind
  omega
theorem jxP {M H rate : Int} (hH : 0 < H) (hr : 0 < rate) : (M / H * 1000000 + M % H * 1000000 / H) / rate = M * 1000000 / (H * rate) := by
 have h1 := Int.mul_ediv_add_emod M H
 have e : M * 1000000 = M % H * 1000000 + (M / H * 1000000) * H := by
  conv => lhs; rw [← h1]
  grind
 have : M * 1000000 / H = M / H * 1000000 + M % H * 1000000 / H := by
  rw [e, Int.add_mul_ediv_right _ _ (by omega), Int.add_comm]
 rw [← this, Int.ediv_ediv_of_nonneg (by omega)]
theorem jxQ {M H rate : Int} (hH : 0 < H) (hr : 0 < rate) : -(-(M / H * 1000000 + -(-(M % H * 1000000) / H)) / rate) = -(-(M * 1000000) / (H * rate)) := by
 have h1 := Int.mul_ediv_add_emod M H
 have e : -(M * 1000000) = -(M % H * 1000000) + (-(M / H * 1000000)) * H := by
  conv => lhs; rw [← h1]
  grind
 have : -(M * 1000000) / H = -(M / H * 1000000) + -(M % H * 1000000) / H := by
  rw [e, Int.add_mul_ediv_right _ _ (by omega), Int.add_comm]
 rw [← Int.ediv_ediv_of_nonneg (by omega), this]
 congr 2
 omega
theorem jxo {zs : List (List Int)} (hz : ∀ r ∈ zs, okZ r) (hl : zs.length ≤ 1024) : ∀ k : Nat, k ≤ zs.length → mo 0 zs k ≤ 1024 * sLo (zs.take k)
 | 0, _ => by simp [mo, sLo]
 | k + 1, h => by
  have ih := jxo hz hl k (by omega)
  have ho := hz (zs.getD k []) (by simp [List.getD, show k < zs.length by omega])
  unfold okZ at ho
  have t := Int.mul_le_mul_of_nonneg_right (show (k : Int) ≤ 1024 by omega) ho.1
  rw [joS (by omega), jlH]
  unfold mo
  omega
def cap (n rate : Int) : Int := ((n - 1) * 1000000 + rate - 1) / rate
def ceS (rate : Int) (zs : List (List Int)) : Int × Int × Int :=
 (
  mo 0 zs zs.length * 1000000 / (sHi zs * rate),
  (if cap zs.length rate < -(-(mo 1 zs zs.length * 1000000) / (sLo zs * rate)) then cap zs.length rate else -(-(mo 1 zs zs.length * 1000000) / (sLo zs * rate))), 0)
def ceW (rate : Int) (zs : List (List Int)) (T : Int) : Int × Int × Int := if T ≠ 0 then (0, 0, 23) else if sLo zs = 0 then (0, 0, 11) else ceS rate zs
theorem ju6 {zs : List (List Int)} (hz : ∀ r ∈ zs, okZ r) (hl : zs.length ≤ 1024) : 0 ≤ mo 0 zs zs.length ∧ mo 0 zs zs.length ≤ mo 1 zs zs.length ∧ mo 1 zs zs.length ≤ 4600000000000000 := by
 have := jii hz hl zs.length (Nat.le_refl _)
 omega
theorem ju7 {rate noise T : Int} {l : List Nat} {zs : List (List Int)} (hz : ZOK zs T) (hr : 8000 ≤ rate ∧ rate ≤ 192000) (hp : 0 < zs.length) : y4 rate l noise T zs (ssO zs T) = some (ceW rate zs T) := by
 unfold y4 ceW
 by_cases hT : T = 0
 ·subst hT
  have hl := hz.len
  have hm := ju6 hz.ok hz.len
  have ha := hz.all
  have z0 := jkh (zs := zs) (T := 0)
  rw [if_neg (by decide), jb2, if_pos (by omega), if_pos (by omega), if_neg (show ¬ (0 : Int) ≠ 0 by simp), z0.1]
  by_cases h0 : sLo zs = 0
  ·rw [if_pos (show (sLo zs == 0) = true by simpa using h0), if_pos h0]
  ·rw [if_neg (show ¬ (sLo zs == 0) = true by simpa using h0), if_neg h0, momG hz.ok hz.len, jaa]
   unfold y89 ceS
   dsimp only
   rw [jb2, if_pos (by omega), if_pos (by omega), z0.1, z0.2, Int.add_zero, jo3 ⟨hm.1, by omega⟩ (by omega) hr, jaa, jo3 ⟨by omega, hm.2.2⟩ (by omega) hr, jaa]
   dsimp only
   have yp : 0 < sLo zs * rate := Int.mul_pos (by omega) (by omega)
   have hce := jo4 (a := mo 1 zs zs.length * 1000000) yp
   have q0 : 0 ≤ mo 1 zs zs.length * 1000000 / (sLo zs * rate) := Int.ediv_nonneg (by omega) (by omega)
   have q1 : mo 1 zs zs.length * 1000000 / (sLo zs * rate) ≤ mo 1 zs zs.length * 1000000 / 8000 := by
    have y8 : 8000 ≤ sLo zs * rate := by
     have := Int.mul_le_mul (show 1 ≤ sLo zs by omega) hr.1 (by omega) (by omega)
     omega
    have a := Int.ediv_mul_le (mo 1 zs zs.length * 1000000) (show sLo zs * rate ≠ 0 by omega)
    refine (Int.le_ediv_iff_mul_le (by omega)).2 ?_
    have b := Int.mul_le_mul_of_nonneg_left y8 q0
    omega
   have hcap : jbk (wrap IntKind.i64 (wrap IntKind.i64 ((zs.length : Int) - 1) * 1000000)) rate = some (cap zs.length rate) := by
    rw [jas (x := (zs.length : Int) - 1) (by omega), jas (by omega), jd8 (by omega) (by omega) (by omega)]
    rfl
   rw [hcap]
   by_cases hmore : mo 1 zs zs.length * 1000000 % (sLo zs * rate) > 0
   ·rw [if_pos hmore] at hce
    rw [decide_eq_true hmore, if_pos rfl, jaa, jas (by omega), hce, if_pos (by omega), if_pos (by omega)]
   ·rw [if_neg hmore, Int.add_zero] at hce
    rw [decide_eq_false hmore, if_neg Bool.false_ne_true, jaa, hce, if_pos (by omega), if_pos (by omega)]
 ·rw [if_pos (show (T != 0) = true by simpa using hT), if_pos (show T ≠ 0 from hT)]
theorem jtV {rate noise tail : Int} {l : List Nat} (h : (jbp rate l noise tail).2 = 0) : y5 rate l noise tail = some (ceW rate (zsO noise l) tail) := by
 obtain ⟨hz, hr, hs, hl2, hn, ht, hp⟩ := jhb h
 have hzl := jb8 noise l
 unfold y5 ceW
 by_cases hT : tail = 0
 ·subst hT
  have hm := ju6 hz.ok hz.len
  have ha := hz.all
  rw [hzl] at hm
  have hml := jxo hz.ok hz.len l.length (by omega)
  rw [List.take_of_length_le (by omega)] at hml
  have e0 : y36 rate l noise 0 0 = _ := jkg (rate := rate) (noise := noise) (tail := 0) (l := l) (a := 0) hs hl2 hn ht (by omega)
  rw [List.drop_zero] at e0
  rw [if_neg (by decide), e0, jaa, if_neg (show ¬ (0 : Int) ≠ 0 by simp)]
  dsimp only
  by_cases h0 : sLo (zsO noise l) = 0
  ·rw [if_pos (show (sLo (zsO noise l) == 0) = true by simpa using h0), if_pos h0]
  ·rw [if_neg (show ¬ (sLo (zsO noise l) == 0) = true by simpa using h0), if_neg h0, momR hs hn hl2, jaa]
   unfold joc ceS
   rw [hzl]
   dsimp only
   rw [Int.add_zero]
   generalize sLo (zsO noise l) = L at *
   generalize sHi (zsO noise l) = H at *
   generalize mo 0 (zsO noise l) l.length = M at *
   generalize mo 1 (zsO noise l) l.length = K at *
   have a1 : 0 ≤ M / H := Int.ediv_nonneg hm.1 (by omega)
   have a2 : M / H ≤ M := Int.ediv_le_self _ hm.1
   have a3 := Int.emod_nonneg M (show H ≠ 0 by omega)
   have a4 := Int.emod_lt_of_pos M (show 0 < H by omega)
   have a5 : 0 ≤ M % H * 1000000 / H := Int.ediv_nonneg (by omega) (by omega)
   have a6 : M % H * 1000000 / H ≤ M % H * 1000000 := Int.ediv_le_self _ (by omega)
   have a7 : M / H ≤ 1024 := by
    have : M / H < 1025 := Int.ediv_lt_of_lt_mul (by omega) (by omega)
    omega
   have b1 : 0 ≤ K / L := Int.ediv_nonneg (by omega) (by omega)
   have b2 : K / L ≤ K := Int.ediv_le_self _ (by omega)
   have b3 := Int.emod_nonneg K (show L ≠ 0 by omega)
   have b4 := Int.emod_lt_of_pos K (show 0 < L by omega)
   have b5 := jo4 (a := K % L * 1000000) (show 0 < L by omega)
   have b6 : 0 ≤ K % L * 1000000 / L := Int.ediv_nonneg (by omega) (by omega)
   have b7 : K % L * 1000000 / L ≤ K % L * 1000000 := Int.ediv_le_self _ (by omega)
   have b8 : 0 ≤ -(-(K % L * 1000000) / L) ∧ -(-(K % L * 1000000) / L) ≤ K % L * 1000000 + 1 := by rw [b5]; split <;> omega
   rw [if_pos (show H ≠ 0 by omega), if_pos (show H ≠ 0 by omega), Int.tmod_eq_emod_of_nonneg hm.1, Int.tdiv_eq_ediv_of_nonneg hm.1, jas (x := M % H * 1000000) (by omega), jcm (by omega) (by omega), jaa, jas (x := M / H) (by omega), jas (x := M / H * 1000000) (by omega), jas (x := M / H * 1000000 + M % H * 1000000 / H) (by omega), jcm (by omega) (by omega), jaa, jas (x := (l.length : Int) - 1) (by omega), jas (x := ((l.length : Int) - 1) * 1000000) (by omega), jcZ (by omega) (by omega), jaa, jdp (n := ((l.length : Int) - 1) * 1000000) (by omega), if_pos (show L ≠ 0 by omega), Int.tdiv_eq_ediv_of_nonneg (by omega), jas (x := K / L) (by omega), jxP (by omega) (by omega)]
   have hcapd : (((l.length : Int) - 1) * 1000000 + rate - 1) / rate = cap (l.length : Int) rate := rfl
   rw [hcapd]
   by_cases hc : K / L < (l.length : Int)
   ·rw [if_pos hc, if_pos (show L ≠ 0 by omega), if_pos (show L ≠ 0 by omega), Int.tmod_eq_emod_of_nonneg (by omega), jas (x := K % L * 1000000) (by omega), jcZ (by omega) (by omega), jaa, jas (x := K / L * 1000000) (by omega), jas (x := K / L * 1000000 + -(-(K % L * 1000000) / L)) (by omega), jcZ (by omega) (by omega), jaa, jxQ (by omega) (by omega)]
    congr 3
    split <;> split <;> omega
   ·rw [if_neg hc]
    have hle : cap (l.length : Int) rate ≤ -(-(K * 1000000) / (L * rate)) := by
     rw [← hcapd, ← jdp (by omega), ← Int.ediv_ediv_of_nonneg (by omega)]
     have h1 : -(K * 1000000) / L ≤ -(((l.length : Int) - 1) * 1000000) := by
      have h2 : (l.length : Int) * L ≤ K := (Int.le_ediv_iff_mul_le (by omega)).1 (by omega)
      have h3 : -(K * 1000000) / L < -(((l.length : Int) - 1) * 1000000) + 1 := by
       refine Int.ediv_lt_of_lt_mul (by omega) ?_
       have h4 : (-(((l.length : Int) - 1) * 1000000) + 1) * L = -((l.length : Int) * L * 1000000) + 1000001 * L := by grind
       rw [h4]
       omega
      omega
     have h2 := Int.ediv_le_ediv (show 0 < rate by omega) h1
     omega
    congr 3
    split <;> omega
 ·rw [if_pos (show (tail != 0) = true by simpa using hT), if_pos (show tail ≠ 0 from hT)]
end Go.Sh
end

section
namespace Go.Sh
open Go Go.Proofs Go.RowKit Go.Sx
theorem jpT : ((0 : Int) ≤ 0 ∧ (0 : Int) < 6) := by decide
theorem jij : ((0 : Int) ≤ 1 ∧ (1 : Int) < 6) := by decide
theorem jda : ((0 : Int) ≤ 2 ∧ (2 : Int) < 6) := by decide
theorem jaF : (true = true) := by decide
theorem jaG : (true = true ∧ true = true) := by decide
theorem jbD : ((0 : Int) ≤ 3 ∧ (3 : Int) < 6) := by decide
theorem jaV : ((0 : Int) ≤ 4 ∧ (4 : Int) < 6) := by decide
theorem jaq : ((0 : Int) ≤ 5 ∧ (5 : Int) < 6) := by decide
def y189 : List SV := [.c (.p [.p [.d, .r (.floats .f32 []), .d, .d, .r (.recs 2 []), .r (.recs 2 [])]])]
def y14 (u18 : Int) (u19 : List Nat) (u20 : Int) (u21 : Int) (u22 : List (List Int)) (u23 : List (List Int)) : Option (Int × Int × Int) :=
 Option.bind (y43 u18 u19 u20 u21 u22 u23 (80000 : Int)) fun r0 =>
 some (r0.1, r0.2.1, r0.2.2)
def y190 : List Lf → Option GT
 | [.d (.i .i64 u18), .r (.floats .f32 u19), .d (.i .i64 u20), .d (.i .i64 u21), .r (.recs 2 u22), .r (.recs 2 u23)] => some (.leaf (ok (y14 u18 u19 u20 u21 u22 u23)) [.s [.d (.i .i64 ((val (y14 u18 u19 u20 u21 u22 u23)).1)), .d (.i .i64 ((val (y14 u18 u19 u20 u21 u22 u23)).2.1))], .c (.d (.i .i64 ((val (y14 u18 u19 u20 u21 u22 u23)).2.2)))])
 | _ => none
abbrev sp_102 : jab → jab := jav 102 true (jal y189 y190)
def jm5 (u18 : Int) (u19 : List Nat) (u20 : Int) (u21 : Int) (u22 : List (List Int)) (u23 : List (List Int)) : T (Int × Int × Int) :=
 .obT
 (.call (y43 u18 u19 u20 u21 u22 u23 (80000 : Int)) fun r0 =>
 .obT
 (.obT
 (.rc ((r0.1, r0.2.1, r0.2.2)))))
theorem jlN (u18 : Int) (u19 : List Nat) (u20 : Int) (u21 : Int) (u22 : List (List Int)) (u23 : List (List Int)) (r : Int × Int × Int) (h : Option.bind (y14 u18 u19 u20 u21 u22 u23) some = some r) : ja0 Tryz.f102 ((sp_78 sp0)) (fun _ _ _ => none) (jaO y189 [.d (.i .i64 u18), .r (.floats .f32 u19), .d (.i .i64 u20), .d (.i .i64 u21), .r (.recs 2 u22), .r (.recs 2 u23)]) [.s [.d (.i .i64 r.1), .d (.i .i64 r.2.1)], .c (.d (.i .i64 r.2.2))] :=
 T.vc (t := jm5 u18 u19 u20 u21 u22 u23) (by kernel_rfl) (by kernel_rfl) h
theorem jlO : jag Tryz.prog 102 true (jal y189 y190) := by
 refine jat (sp := (sp_78 sp0)) (fn := Tryz.f102) (body := jaj Tryz.f102) mixed (sp_78_ok jak) Tryz.func102 (by kernel_rfl) (by kernel_rfl) fun ls t h ho b hb => ?_
 unfold y190 at h
 split at h
 ·rename_i u18 u19 u20 u21 u22 u23
  cases h
  obtain rfl := jaB hb
  exact ⟨Nat.le_of_ble_eq_true (by kernel_rfl), _, _, jlN u18 u19 u20 u21 u22 u23 _ (jai ho)⟩
 ·cases h
theorem sp_102_ok {sp : jab} (h : jac Tryz.prog sp) : jac Tryz.prog (sp_102 sp) := jah jlO h
def y191 : List SV := [.c (.p [.p [.d, .r (.floats .f32 []), .d, .d, .r (.recs 2 []), .r (.recs 2 [])]])]
def y6 (u18 : Int) (u19 : List Nat) (u20 : Int) (u21 : Int) (u22 : List (List Int)) (u23 : List (List Int)) : Option (Int × Int × Int) :=
 Option.bind (y44 u18 u19 u20 u21 u22 u23 (50000 : Int)) fun r0 =>
 some (r0.1, r0.2.1, r0.2.2)
def y192 : List Lf → Option GT
 | [.d (.i .i64 u18), .r (.floats .f32 u19), .d (.i .i64 u20), .d (.i .i64 u21), .r (.recs 2 u22), .r (.recs 2 u23)] => some (.leaf (ok (y6 u18 u19 u20 u21 u22 u23)) [.s [.d (.i .i64 ((val (y6 u18 u19 u20 u21 u22 u23)).1)), .d (.i .i64 ((val (y6 u18 u19 u20 u21 u22 u23)).2.1))], .c (.d (.i .i64 ((val (y6 u18 u19 u20 u21 u22 u23)).2.2)))])
 | _ => none
abbrev sp_103 : jab → jab := jav 103 true (jal y191 y192)
def jm6 (u18 : Int) (u19 : List Nat) (u20 : Int) (u21 : Int) (u22 : List (List Int)) (u23 : List (List Int)) : T (Int × Int × Int) :=
 .obT
 (.call (y44 u18 u19 u20 u21 u22 u23 (50000 : Int)) fun r0 =>
 .obT
 (.obT
 (.rc ((r0.1, r0.2.1, r0.2.2)))))
theorem jlP (u18 : Int) (u19 : List Nat) (u20 : Int) (u21 : Int) (u22 : List (List Int)) (u23 : List (List Int)) (r : Int × Int × Int) (h : Option.bind (y6 u18 u19 u20 u21 u22 u23) some = some r) : ja0 Tryz.f103 ((sp_98 sp0)) (fun _ _ _ => none) (jaO y191 [.d (.i .i64 u18), .r (.floats .f32 u19), .d (.i .i64 u20), .d (.i .i64 u21), .r (.recs 2 u22), .r (.recs 2 u23)]) [.s [.d (.i .i64 r.1), .d (.i .i64 r.2.1)], .c (.d (.i .i64 r.2.2))] :=
 T.vc (t := jm6 u18 u19 u20 u21 u22 u23) (by kernel_rfl) (by kernel_rfl) h
theorem jlQ : jag Tryz.prog 103 true (jal y191 y192) := by
 refine jat (sp := (sp_98 sp0)) (fn := Tryz.f103) (body := jaj Tryz.f103) mixed (sp_98_ok jak) Tryz.func103 (by kernel_rfl) (by kernel_rfl) fun ls t h ho b hb => ?_
 unfold y192 at h
 split at h
 ·rename_i u18 u19 u20 u21 u22 u23
  cases h
  obtain rfl := jaB hb
  exact ⟨Nat.le_of_ble_eq_true (by kernel_rfl), _, _, jlP u18 u19 u20 u21 u22 u23 _ (jai ho)⟩
 ·cases h
theorem sp_103_ok {sp : jab} (h : jac Tryz.prog sp) : jac Tryz.prog (sp_103 sp) := jah jlQ h
def y193 : List SV := [.c (.p [.p [.d, .r (.floats .f32 []), .d, .d, .r (.recs 2 []), .r (.recs 2 [])]]), .c (.p [.d])]
def y21 (u18 : Int) (u19 : List Nat) (u20 : Int) (u21 : Int) (u22 : List (List Int)) (u23 : List (List Int)) (v1_ : Int) : Option (Int × Int × Int) :=
 Option.bind (y35 u18 u19 u20 u21 u22 u23 v1_) fun r0 =>
 some (r0.1, r0.2.1, r0.2.2)
def y194 : List Lf → Option GT
 | [.d (.i .i64 u18), .r (.floats .f32 u19), .d (.i .i64 u20), .d (.i .i64 u21), .r (.recs 2 u22), .r (.recs 2 u23), .d (.i .i64 v1_)] => some (.leaf (ok (y21 u18 u19 u20 u21 u22 u23 v1_)) [.s [.d (.i .i64 ((val (y21 u18 u19 u20 u21 u22 u23 v1_)).1)), .d (.i .i64 ((val (y21 u18 u19 u20 u21 u22 u23 v1_)).2.1))], .c (.d (.i .i64 ((val (y21 u18 u19 u20 u21 u22 u23 v1_)).2.2)))])
 | _ => none
abbrev sp_104 : jab → jab := jav 104 true (jal y193 y194)
def jm7 (u18 : Int) (u19 : List Nat) (u20 : Int) (u21 : Int) (u22 : List (List Int)) (u23 : List (List Int)) (v1_ : Int) : T (Int × Int × Int) :=
 .obT
 (.obT
 (.call (y35 u18 u19 u20 u21 u22 u23 v1_) fun r0 =>
 .obT
 (.obT
 (.rc ((r0.1, r0.2.1, r0.2.2))))))
theorem jlR (u18 : Int) (u19 : List Nat) (u20 : Int) (u21 : Int) (u22 : List (List Int)) (u23 : List (List Int)) (v1_ : Int) (r : Int × Int × Int) (h : Option.bind (y21 u18 u19 u20 u21 u22 u23 v1_) some = some r) : ja0 Tryz.f104 ((sp_69 sp0)) (fun _ _ _ => none) (jaO y193 [.d (.i .i64 u18), .r (.floats .f32 u19), .d (.i .i64 u20), .d (.i .i64 u21), .r (.recs 2 u22), .r (.recs 2 u23), .d (.i .i64 v1_)]) [.s [.d (.i .i64 r.1), .d (.i .i64 r.2.1)], .c (.d (.i .i64 r.2.2))] :=
 T.vc (t := jm7 u18 u19 u20 u21 u22 u23 v1_) (by kernel_rfl) (by kernel_rfl) h
theorem jlS : jag Tryz.prog 104 true (jal y193 y194) := by
 refine jat (sp := (sp_69 sp0)) (fn := Tryz.f104) (body := jaj Tryz.f104) mixed (sp_69_ok jak) Tryz.func104 (by kernel_rfl) (by kernel_rfl) fun ls t h ho b hb => ?_
 unfold y194 at h
 split at h
 ·rename_i u18 u19 u20 u21 u22 u23 v1_
  cases h
  obtain rfl := jaB hb
  exact ⟨Nat.le_of_ble_eq_true (by kernel_rfl), _, _, jlR u18 u19 u20 u21 u22 u23 v1_ _ (jai ho)⟩
 ·cases h
theorem sp_104_ok {sp : jab} (h : jac Tryz.prog sp) : jac Tryz.prog (sp_104 sp) := jah jlS h
def je1 : List SV := [.a [.d, .r (.floats .f32 []), .d, .d]]
def y3 (u4 : Int) (u0 : List Nat) (u6 : Int) (u5 : Int) : Option (Bool × Bool × Bool × Bool × Bool × Bool × Int × Int × Int × Int × Int × Int × Int × Int × Int × Int × Int × Int × Int) :=
 if ((val (jan u4 u0 u6 u5)).1 != 0) = true then
  Option.bind (jan u4 u0 u6 u5) fun r0 =>
  if (r0.1 != 0) = true then
  some ((false, false, false, false, false, false, 0, 0, 0, 0, 0, 0, 0, 0, 0, 0, 0, 0, r0.1))
  else
  none   else
  Option.bind (jan u4 u0 u6 u5) fun r0 =>
  Option.bind (y21 u4 u0 u6 u5 r0.2.1 r0.2.2 (0 : Int)) fun r1 =>
  if (r1.2.2 == 0) = true then
  Option.bind (y21 u4 u0 u6 u5 r0.2.1 r0.2.2 (1 : Int)) fun r2 =>
  if (r2.2.2 == 0) = true then
   Option.bind (y21 u4 u0 u6 u5 r0.2.1 r0.2.2 (2 : Int)) fun r3 =>
   if (r3.2.2 == 0) = true then
   Option.bind (y14 u4 u0 u6 u5 r0.2.1 r0.2.2) fun r4 =>
   if (r4.2.2 == 0) = true then
    Option.bind (y6 u4 u0 u6 u5 r0.2.1 r0.2.2) fun r5 =>
    if (r5.2.2 == 0) = true then
    Option.bind (y4 u4 u0 u6 u5 r0.2.1 r0.2.2) fun r6 =>
    if (r6.2.2 == 0) = true then
     some ((true, true, true, true, true, true, r1.1, r1.2.1, r2.1, r2.2.1, r3.1, r3.2.1, r4.1, r4.2.1, r5.1, r5.2.1, r6.1, r6.2.1, 0))
    else
     some ((true, true, true, true, true, false, r1.1, r1.2.1, r2.1, r2.2.1, r3.1, r3.2.1, r4.1, r4.2.1, r5.1, r5.2.1, 0, 0, 0))
    else
    Option.bind (y4 u4 u0 u6 u5 r0.2.1 r0.2.2) fun r6 =>
    if (r6.2.2 == 0) = true then
     some ((true, true, true, true, false, true, r1.1, r1.2.1, r2.1, r2.2.1, r3.1, r3.2.1, r4.1, r4.2.1, 0, 0, r6.1, r6.2.1, 0))
    else
     some ((true, true, true, true, false, false, r1.1, r1.2.1, r2.1, r2.2.1, r3.1, r3.2.1, r4.1, r4.2.1, 0, 0, 0, 0, 0))
   else
    Option.bind (y6 u4 u0 u6 u5 r0.2.1 r0.2.2) fun r5 =>
    if (r5.2.2 == 0) = true then
    Option.bind (y4 u4 u0 u6 u5 r0.2.1 r0.2.2) fun r6 =>
    if (r6.2.2 == 0) = true then
     some ((true, true, true, false, true, true, r1.1, r1.2.1, r2.1, r2.2.1, r3.1, r3.2.1, 0, 0, r5.1, r5.2.1, r6.1, r6.2.1, 0))
    else
     some ((true, true, true, false, true, false, r1.1, r1.2.1, r2.1, r2.2.1, r3.1, r3.2.1, 0, 0, r5.1, r5.2.1, 0, 0, 0))
    else
    Option.bind (y4 u4 u0 u6 u5 r0.2.1 r0.2.2) fun r6 =>
    if (r6.2.2 == 0) = true then
     some ((true, true, true, false, false, true, r1.1, r1.2.1, r2.1, r2.2.1, r3.1, r3.2.1, 0, 0, 0, 0, r6.1, r6.2.1, 0))
    else
     some ((true, true, true, false, false, false, r1.1, r1.2.1, r2.1, r2.2.1, r3.1, r3.2.1, 0, 0, 0, 0, 0, 0, 0))
   else
   Option.bind (y14 u4 u0 u6 u5 r0.2.1 r0.2.2) fun r4 =>
   if (r4.2.2 == 0) = true then
    Option.bind (y6 u4 u0 u6 u5 r0.2.1 r0.2.2) fun r5 =>
    if (r5.2.2 == 0) = true then
    Option.bind (y4 u4 u0 u6 u5 r0.2.1 r0.2.2) fun r6 =>
    if (r6.2.2 == 0) = true then
     some ((true, true, false, true, true, true, r1.1, r1.2.1, r2.1, r2.2.1, 0, 0, r4.1, r4.2.1, r5.1, r5.2.1, r6.1, r6.2.1, 0))
    else
     some ((true, true, false, true, true, false, r1.1, r1.2.1, r2.1, r2.2.1, 0, 0, r4.1, r4.2.1, r5.1, r5.2.1, 0, 0, 0))
    else
    Option.bind (y4 u4 u0 u6 u5 r0.2.1 r0.2.2) fun r6 =>
    if (r6.2.2 == 0) = true then
     some ((true, true, false, true, false, true, r1.1, r1.2.1, r2.1, r2.2.1, 0, 0, r4.1, r4.2.1, 0, 0, r6.1, r6.2.1, 0))
    else
     some ((true, true, false, true, false, false, r1.1, r1.2.1, r2.1, r2.2.1, 0, 0, r4.1, r4.2.1, 0, 0, 0, 0, 0))
   else
    Option.bind (y6 u4 u0 u6 u5 r0.2.1 r0.2.2) fun r5 =>
    if (r5.2.2 == 0) = true then
    Option.bind (y4 u4 u0 u6 u5 r0.2.1 r0.2.2) fun r6 =>
    if (r6.2.2 == 0) = true then
     some ((true, true, false, false, true, true, r1.1, r1.2.1, r2.1, r2.2.1, 0, 0, 0, 0, r5.1, r5.2.1, r6.1, r6.2.1, 0))
    else
     some ((true, true, false, false, true, false, r1.1, r1.2.1, r2.1, r2.2.1, 0, 0, 0, 0, r5.1, r5.2.1, 0, 0, 0))
    else
    Option.bind (y4 u4 u0 u6 u5 r0.2.1 r0.2.2) fun r6 =>
    if (r6.2.2 == 0) = true then
     some ((true, true, false, false, false, true, r1.1, r1.2.1, r2.1, r2.2.1, 0, 0, 0, 0, 0, 0, r6.1, r6.2.1, 0))
    else
     some ((true, true, false, false, false, false, r1.1, r1.2.1, r2.1, r2.2.1, 0, 0, 0, 0, 0, 0, 0, 0, 0))
  else
   Option.bind (y21 u4 u0 u6 u5 r0.2.1 r0.2.2 (2 : Int)) fun r3 =>
   if (r3.2.2 == 0) = true then
   Option.bind (y14 u4 u0 u6 u5 r0.2.1 r0.2.2) fun r4 =>
   if (r4.2.2 == 0) = true then
    Option.bind (y6 u4 u0 u6 u5 r0.2.1 r0.2.2) fun r5 =>
    if (r5.2.2 == 0) = true then
    Option.bind (y4 u4 u0 u6 u5 r0.2.1 r0.2.2) fun r6 =>
    if (r6.2.2 == 0) = true then
     some ((true, false, true, true, true, true, r1.1, r1.2.1, 0, 0, r3.1, r3.2.1, r4.1, r4.2.1, r5.1, r5.2.1, r6.1, r6.2.1, 0))
    else
     some ((true, false, true, true, true, false, r1.1, r1.2.1, 0, 0, r3.1, r3.2.1, r4.1, r4.2.1, r5.1, r5.2.1, 0, 0, 0))
    else
    Option.bind (y4 u4 u0 u6 u5 r0.2.1 r0.2.2) fun r6 =>
    if (r6.2.2 == 0) = true then
     some ((true, false, true, true, false, true, r1.1, r1.2.1, 0, 0, r3.1, r3.2.1, r4.1, r4.2.1, 0, 0, r6.1, r6.2.1, 0))
    else
     some ((true, false, true, true, false, false, r1.1, r1.2.1, 0, 0, r3.1, r3.2.1, r4.1, r4.2.1, 0, 0, 0, 0, 0))
   else
    Option.bind (y6 u4 u0 u6 u5 r0.2.1 r0.2.2) fun r5 =>
    if (r5.2.2 == 0) = true then
    Option.bind (y4 u4 u0 u6 u5 r0.2.1 r0.2.2) fun r6 =>
    if (r6.2.2 == 0) = true then
     some ((true, false, true, false, true, true, r1.1, r1.2.1, 0, 0, r3.1, r3.2.1, 0, 0, r5.1, r5.2.1, r6.1, r6.2.1, 0))
    else
     some ((true, false, true, false, true, false, r1.1, r1.2.1, 0, 0, r3.1, r3.2.1, 0, 0, r5.1, r5.2.1, 0, 0, 0))
    else
    Option.bind (y4 u4 u0 u6 u5 r0.2.1 r0.2.2) fun r6 =>
    if (r6.2.2 == 0) = true then
     some ((true, false, true, false, false, true, r1.1, r1.2.1, 0, 0, r3.1, r3.2.1, 0, 0, 0, 0, r6.1, r6.2.1, 0))
    else
     some ((true, false, true, false, false, false, r1.1, r1.2.1, 0, 0, r3.1, r3.2.1, 0, 0, 0, 0, 0, 0, 0))
   else
   Option.bind (y14 u4 u0 u6 u5 r0.2.1 r0.2.2) fun r4 =>
   if (r4.2.2 == 0) = true then
    Option.bind (y6 u4 u0 u6 u5 r0.2.1 r0.2.2) fun r5 =>
    if (r5.2.2 == 0) = true then
    Option.bind (y4 u4 u0 u6 u5 r0.2.1 r0.2.2) fun r6 =>
    if (r6.2.2 == 0) = true then
     some ((true, false, false, true, true, true, r1.1, r1.2.1, 0, 0, 0, 0, r4.1, r4.2.1, r5.1, r5.2.1, r6.1, r6.2.1, 0))
    else
     some ((true, false, false, true, true, false, r1.1, r1.2.1, 0, 0, 0, 0, r4.1, r4.2.1, r5.1, r5.2.1, 0, 0, 0))
    else
    Option.bind (y4 u4 u0 u6 u5 r0.2.1 r0.2.2) fun r6 =>
    if (r6.2.2 == 0) = true then
     some ((true, false, false, true, false, true, r1.1, r1.2.1, 0, 0, 0, 0, r4.1, r4.2.1, 0, 0, r6.1, r6.2.1, 0))
    else
     some ((true, false, false, true, false, false, r1.1, r1.2.1, 0, 0, 0, 0, r4.1, r4.2.1, 0, 0, 0, 0, 0))
   else
    Option.bind (y6 u4 u0 u6 u5 r0.2.1 r0.2.2) fun r5 =>
    if (r5.2.2 == 0) = true then
    Option.bind (y4 u4 u0 u6 u5 r0.2.1 r0.2.2) fun r6 =>
    if (r6.2.2 == 0) = true then
     some ((true, false, false, false, true, true, r1.1, r1.2.1, 0, 0, 0, 0, 0, 0, r5.1, r5.2.1, r6.1, r6.2.1, 0))
    else
     some ((true, false, false, false, true, false, r1.1, r1.2.1, 0, 0, 0, 0, 0, 0, r5.1, r5.2.1, 0, 0, 0))
    else
    Option.bind (y4 u4 u0 u6 u5 r0.2.1 r0.2.2) fun r6 =>
    if (r6.2.2 == 0) = true then
     some ((true, false, false, false, false, true, r1.1, r1.2.1, 0, 0, 0, 0, 0, 0, 0, 0, r6.1, r6.2.1, 0))
    else
     some ((true, false, false, false, false, false, r1.1, r1.2.1, 0, 0, 0, 0, 0, 0, 0, 0, 0, 0, 0))
  else
  Option.bind (y21 u4 u0 u6 u5 r0.2.1 r0.2.2 (1 : Int)) fun r2 =>
  if (r2.2.2 == 0) = true then
   Option.bind (y21 u4 u0 u6 u5 r0.2.1 r0.2.2 (2 : Int)) fun r3 =>
   if (r3.2.2 == 0) = true then
   Option.bind (y14 u4 u0 u6 u5 r0.2.1 r0.2.2) fun r4 =>
   if (r4.2.2 == 0) = true then
    Option.bind (y6 u4 u0 u6 u5 r0.2.1 r0.2.2) fun r5 =>
    if (r5.2.2 == 0) = true then
    Option.bind (y4 u4 u0 u6 u5 r0.2.1 r0.2.2) fun r6 =>
    if (r6.2.2 == 0) = true then
     some ((false, true, true, true, true, true, 0, 0, r2.1, r2.2.1, r3.1, r3.2.1, r4.1, r4.2.1, r5.1, r5.2.1, r6.1, r6.2.1, 0))
    else
     some ((false, true, true, true, true, false, 0, 0, r2.1, r2.2.1, r3.1, r3.2.1, r4.1, r4.2.1, r5.1, r5.2.1, 0, 0, 0))
    else
    Option.bind (y4 u4 u0 u6 u5 r0.2.1 r0.2.2) fun r6 =>
    if (r6.2.2 == 0) = true then
     some ((false, true, true, true, false, true, 0, 0, r2.1, r2.2.1, r3.1, r3.2.1, r4.1, r4.2.1, 0, 0, r6.1, r6.2.1, 0))
    else
     some ((false, true, true, true, false, false, 0, 0, r2.1, r2.2.1, r3.1, r3.2.1, r4.1, r4.2.1, 0, 0, 0, 0, 0))
   else
    Option.bind (y6 u4 u0 u6 u5 r0.2.1 r0.2.2) fun r5 =>
    if (r5.2.2 == 0) = true then
    Option.bind (y4 u4 u0 u6 u5 r0.2.1 r0.2.2) fun r6 =>
    if (r6.2.2 == 0) = true then
     some ((false, true, true, false, true, true, 0, 0, r2.1, r2.2.1, r3.1, r3.2.1, 0, 0, r5.1, r5.2.1, r6.1, r6.2.1, 0))
    else
     some ((false, true, true, false, true, false, 0, 0, r2.1, r2.2.1, r3.1, r3.2.1, 0, 0, r5.1, r5.2.1, 0, 0, 0))
    else
    Option.bind (y4 u4 u0 u6 u5 r0.2.1 r0.2.2) fun r6 =>
    if (r6.2.2 == 0) = true then
     some ((false, true, true, false, false, true, 0, 0, r2.1, r2.2.1, r3.1, r3.2.1, 0, 0, 0, 0, r6.1, r6.2.1, 0))
    else
     some ((false, true, true, false, false, false, 0, 0, r2.1, r2.2.1, r3.1, r3.2.1, 0, 0, 0, 0, 0, 0, 0))
   else
   Option.bind (y14 u4 u0 u6 u5 r0.2.1 r0.2.2) fun r4 =>
   if (r4.2.2 == 0) = true then
    Option.bind (y6 u4 u0 u6 u5 r0.2.1 r0.2.2) fun r5 =>
    if (r5.2.2 == 0) = true then
    Option.bind (y4 u4 u0 u6 u5 r0.2.1 r0.2.2) fun r6 =>
    if (r6.2.2 == 0) = true then
     some ((false, true, false, true, true, true, 0, 0, r2.1, r2.2.1, 0, 0, r4.1, r4.2.1, r5.1, r5.2.1, r6.1, r6.2.1, 0))
    else
     some ((false, true, false, true, true, false, 0, 0, r2.1, r2.2.1, 0, 0, r4.1, r4.2.1, r5.1, r5.2.1, 0, 0, 0))
    else
    Option.bind (y4 u4 u0 u6 u5 r0.2.1 r0.2.2) fun r6 =>
    if (r6.2.2 == 0) = true then
     some ((false, true, false, true, false, true, 0, 0, r2.1, r2.2.1, 0, 0, r4.1, r4.2.1, 0, 0, r6.1, r6.2.1, 0))
    else
     some ((false, true, false, true, false, false, 0, 0, r2.1, r2.2.1, 0, 0, r4.1, r4.2.1, 0, 0, 0, 0, 0))
   else
    Option.bind (y6 u4 u0 u6 u5 r0.2.1 r0.2.2) fun r5 =>
    if (r5.2.2 == 0) = true then
    Option.bind (y4 u4 u0 u6 u5 r0.2.1 r0.2.2) fun r6 =>
    if (r6.2.2 == 0) = true then
     some ((false, true, false, false, true, true, 0, 0, r2.1, r2.2.1, 0, 0, 0, 0, r5.1, r5.2.1, r6.1, r6.2.1, 0))
    else
     some ((false, true, false, false, true, false, 0, 0, r2.1, r2.2.1, 0, 0, 0, 0, r5.1, r5.2.1, 0, 0, 0))
    else
    Option.bind (y4 u4 u0 u6 u5 r0.2.1 r0.2.2) fun r6 =>
    if (r6.2.2 == 0) = true then
     some ((false, true, false, false, false, true, 0, 0, r2.1, r2.2.1, 0, 0, 0, 0, 0, 0, r6.1, r6.2.1, 0))
    else
     some ((false, true, false, false, false, false, 0, 0, r2.1, r2.2.1, 0, 0, 0, 0, 0, 0, 0, 0, 0))
  else
   Option.bind (y21 u4 u0 u6 u5 r0.2.1 r0.2.2 (2 : Int)) fun r3 =>
   if (r3.2.2 == 0) = true then
   Option.bind (y14 u4 u0 u6 u5 r0.2.1 r0.2.2) fun r4 =>
   if (r4.2.2 == 0) = true then
    Option.bind (y6 u4 u0 u6 u5 r0.2.1 r0.2.2) fun r5 =>
    if (r5.2.2 == 0) = true then
    Option.bind (y4 u4 u0 u6 u5 r0.2.1 r0.2.2) fun r6 =>
    if (r6.2.2 == 0) = true then
     some ((false, false, true, true, true, true, 0, 0, 0, 0, r3.1, r3.2.1, r4.1, r4.2.1, r5.1, r5.2.1, r6.1, r6.2.1, 0))
    else
     some ((false, false, true, true, true, false, 0, 0, 0, 0, r3.1, r3.2.1, r4.1, r4.2.1, r5.1, r5.2.1, 0, 0, 0))
    else
    Option.bind (y4 u4 u0 u6 u5 r0.2.1 r0.2.2) fun r6 =>
    if (r6.2.2 == 0) = true then
     some ((false, false, true, true, false, true, 0, 0, 0, 0, r3.1, r3.2.1, r4.1, r4.2.1, 0, 0, r6.1, r6.2.1, 0))
    else
     some ((false, false, true, true, false, false, 0, 0, 0, 0, r3.1, r3.2.1, r4.1, r4.2.1, 0, 0, 0, 0, 0))
   else
    Option.bind (y6 u4 u0 u6 u5 r0.2.1 r0.2.2) fun r5 =>
    if (r5.2.2 == 0) = true then
    Option.bind (y4 u4 u0 u6 u5 r0.2.1 r0.2.2) fun r6 =>
    if (r6.2.2 == 0) = true then
     some ((false, false, true, false, true, true, 0, 0, 0, 0, r3.1, r3.2.1, 0, 0, r5.1, r5.2.1, r6.1, r6.2.1, 0))
    else
     some ((false, false, true, false, true, false, 0, 0, 0, 0, r3.1, r3.2.1, 0, 0, r5.1, r5.2.1, 0, 0, 0))
    else
    Option.bind (y4 u4 u0 u6 u5 r0.2.1 r0.2.2) fun r6 =>
    if (r6.2.2 == 0) = true then
     some ((false, false, true, false, false, true, 0, 0, 0, 0, r3.1, r3.2.1, 0, 0, 0, 0, r6.1, r6.2.1, 0))
    else
     some ((false, false, true, false, false, false, 0, 0, 0, 0, r3.1, r3.2.1, 0, 0, 0, 0, 0, 0, 0))
   else
   Option.bind (y14 u4 u0 u6 u5 r0.2.1 r0.2.2) fun r4 =>
   if (r4.2.2 == 0) = true then
    Option.bind (y6 u4 u0 u6 u5 r0.2.1 r0.2.2) fun r5 =>
    if (r5.2.2 == 0) = true then
    Option.bind (y4 u4 u0 u6 u5 r0.2.1 r0.2.2) fun r6 =>
    if (r6.2.2 == 0) = true then
     some ((false, false, false, true, true, true, 0, 0, 0, 0, 0, 0, r4.1, r4.2.1, r5.1, r5.2.1, r6.1, r6.2.1, 0))
    else
     some ((false, false, false, true, true, false, 0, 0, 0, 0, 0, 0, r4.1, r4.2.1, r5.1, r5.2.1, 0, 0, 0))
    else
    Option.bind (y4 u4 u0 u6 u5 r0.2.1 r0.2.2) fun r6 =>
    if (r6.2.2 == 0) = true then
     some ((false, false, false, true, false, true, 0, 0, 0, 0, 0, 0, r4.1, r4.2.1, 0, 0, r6.1, r6.2.1, 0))
    else
     some ((false, false, false, true, false, false, 0, 0, 0, 0, 0, 0, r4.1, r4.2.1, 0, 0, 0, 0, 0))
   else
    Option.bind (y6 u4 u0 u6 u5 r0.2.1 r0.2.2) fun r5 =>
    if (r5.2.2 == 0) = true then
    Option.bind (y4 u4 u0 u6 u5 r0.2.1 r0.2.2) fun r6 =>
    if (r6.2.2 == 0) = true then
     some ((false, false, false, false, true, true, 0, 0, 0, 0, 0, 0, 0, 0, r5.1, r5.2.1, r6.1, r6.2.1, 0))
    else
     some ((false, false, false, false, true, false, 0, 0, 0, 0, 0, 0, 0, 0, r5.1, r5.2.1, 0, 0, 0))
    else
    Option.bind (y4 u4 u0 u6 u5 r0.2.1 r0.2.2) fun r6 =>
    if (r6.2.2 == 0) = true then
     some ((false, false, false, false, false, true, 0, 0, 0, 0, 0, 0, 0, 0, 0, 0, r6.1, r6.2.1, 0))
    else
     some ((false, false, false, false, false, false, 0, 0, 0, 0, 0, 0, 0, 0, 0, 0, 0, 0, 0))
def je2 : List Lf → Option GT
 | [.d (.i .i64 u4), .r (.floats .f32 u0), .d (.i .i64 u6), .d (.i .i64 u5)] => some (.leaf (ok (y3 u4 u0 u6 u5)) [.s [.d (.b ((val (y3 u4 u0 u6 u5)).1)), .d (.b ((val (y3 u4 u0 u6 u5)).2.1)), .d (.b ((val (y3 u4 u0 u6 u5)).2.2.1)), .d (.b ((val (y3 u4 u0 u6 u5)).2.2.2.1)), .d (.b ((val (y3 u4 u0 u6 u5)).2.2.2.2.1)), .d (.b ((val (y3 u4 u0 u6 u5)).2.2.2.2.2.1)), .d (.i .i64 ((val (y3 u4 u0 u6 u5)).2.2.2.2.2.2.1)), .d (.i .i64 ((val (y3 u4 u0 u6 u5)).2.2.2.2.2.2.2.1)), .d (.i .i64 ((val (y3 u4 u0 u6 u5)).2.2.2.2.2.2.2.2.1)), .d (.i .i64 ((val (y3 u4 u0 u6 u5)).2.2.2.2.2.2.2.2.2.1)), .d (.i .i64 ((val (y3 u4 u0 u6 u5)).2.2.2.2.2.2.2.2.2.2.1)), .d (.i .i64 ((val (y3 u4 u0 u6 u5)).2.2.2.2.2.2.2.2.2.2.2.1)), .d (.i .i64 ((val (y3 u4 u0 u6 u5)).2.2.2.2.2.2.2.2.2.2.2.2.1)), .d (.i .i64 ((val (y3 u4 u0 u6 u5)).2.2.2.2.2.2.2.2.2.2.2.2.2.1)), .d (.i .i64 ((val (y3 u4 u0 u6 u5)).2.2.2.2.2.2.2.2.2.2.2.2.2.2.1)), .d (.i .i64 ((val (y3 u4 u0 u6 u5)).2.2.2.2.2.2.2.2.2.2.2.2.2.2.2.1)), .d (.i .i64 ((val (y3 u4 u0 u6 u5)).2.2.2.2.2.2.2.2.2.2.2.2.2.2.2.2.1)), .d (.i .i64 ((val (y3 u4 u0 u6 u5)).2.2.2.2.2.2.2.2.2.2.2.2.2.2.2.2.2.1))], .c (.d (.i .i64 ((val (y3 u4 u0 u6 u5)).2.2.2.2.2.2.2.2.2.2.2.2.2.2.2.2.2.2)))])
 | _ => none
abbrev sp_60 : jab → jab := jav 60 true (jal je1 je2)
def jpD (u4 : Int) (u0 : List Nat) (u6 : Int) (u5 : Int) : T (Bool × Bool × Bool × Bool × Bool × Bool × Int × Int × Int × Int × Int × Int × Int × Int × Int × Int × Int × Int × Int) :=
 .brB ((val (jan u4 u0 u6 u5)).1 != 0)
 (.call (jan u4 u0 u6 u5) fun r0 =>
 .brB (r0.1 != 0)
 (.obT
 (.obT
 (.rc (((false, false, false, false, false, false, 0, 0, 0, 0, 0, 0, 0, 0, 0, 0, 0, 0, r0.1))))))
 (.bad (fun r => False)))
 (.call (jan u4 u0 u6 u5) fun r0 =>
 .obT
 (.obC (((0 : Int) ≤ 0 ∧ (0 : Int) < 3) ∧ true = true) (by decide)
 (.obC _ jpT
 (.obT
 (.obC (((0 : Int) ≤ 1 ∧ (1 : Int) < 3) ∧ true = true) (by decide)
 (.obC _ jij
 (.obT
 (.obC (((0 : Int) ≤ 2 ∧ (2 : Int) < 3) ∧ true = true) (by decide)
 (.obC _ jda
 (.obT
 (.obC _ jpT
 (.call (y21 u4 u0 u6 u5 r0.2.1 r0.2.2 (0 : Int)) fun r1 =>
 .brB (r1.2.2 == 0)
 (.obC _ jpT
 (.obC _ jaF
 (.obC _ jpT
 (.obC _ jaG
 (.obC _ jij
 (.call (y21 u4 u0 u6 u5 r0.2.1 r0.2.2 (1 : Int)) fun r2 =>
 .brB (r2.2.2 == 0)
 (.obC _ jij
 (.obC _ jaF
 (.obC _ jij
 (.obC _ jaG
 (.obC _ jda
 (.call (y21 u4 u0 u6 u5 r0.2.1 r0.2.2 (2 : Int)) fun r3 =>
 .brB (r3.2.2 == 0)
 (.obC _ jda
 (.obC _ jaF
 (.obC _ jda
 (.obC _ jaG
 (.obC _ jbD
 (.call (y14 u4 u0 u6 u5 r0.2.1 r0.2.2) fun r4 =>
 .brB (r4.2.2 == 0)
 (.obC _ jbD
 (.obC _ jaF
 (.obC _ jbD
 (.obC _ jaG
 (.obC _ jaV
 (.call (y6 u4 u0 u6 u5 r0.2.1 r0.2.2) fun r5 =>
 .brB (r5.2.2 == 0)
 (.obC _ jaV
 (.obC _ jaF
 (.obC _ jaV
 (.obC _ jaG
 (.obC _ jaq
 (.call (y4 u4 u0 u6 u5 r0.2.1 r0.2.2) fun r6 =>
 .brB (r6.2.2 == 0)
 (.obC _ jaq
 (.obC _ jaF
 (.obC _ jaq
 (.obC _ jaG
 (.obT
 (.obT
 (.rc (((true, true, true, true, true, true, r1.1, r1.2.1, r2.1, r2.2.1, r3.1, r3.2.1, r4.1, r4.2.1, r5.1, r5.2.1, r6.1, r6.2.1, 0))))))))))
 (.obT
 (.obT
 (.rc (((true, true, true, true, true, false, r1.1, r1.2.1, r2.1, r2.2.1, r3.1, r3.2.1, r4.1, r4.2.1, r5.1, r5.2.1, 0, 0, 0))))))))))))
 (.obC _ jaq
 (.call (y4 u4 u0 u6 u5 r0.2.1 r0.2.2) fun r6 =>
 .brB (r6.2.2 == 0)
 (.obC _ jaq
 (.obC _ jaF
 (.obC _ jaq
 (.obC _ jaG
 (.obT
 (.obT
 (.rc (((true, true, true, true, false, true, r1.1, r1.2.1, r2.1, r2.2.1, r3.1, r3.2.1, r4.1, r4.2.1, 0, 0, r6.1, r6.2.1, 0))))))))))
 (.obT
 (.obT
 (.rc (((true, true, true, true, false, false, r1.1, r1.2.1, r2.1, r2.2.1, r3.1, r3.2.1, r4.1, r4.2.1, 0, 0, 0, 0, 0))))))))))))))
 (.obC _ jaV
 (.call (y6 u4 u0 u6 u5 r0.2.1 r0.2.2) fun r5 =>
 .brB (r5.2.2 == 0)
 (.obC _ jaV
 (.obC _ jaF
 (.obC _ jaV
 (.obC _ jaG
 (.obC _ jaq
 (.call (y4 u4 u0 u6 u5 r0.2.1 r0.2.2) fun r6 =>
 .brB (r6.2.2 == 0)
 (.obC _ jaq
 (.obC _ jaF
 (.obC _ jaq
 (.obC _ jaG
 (.obT
 (.obT
 (.rc (((true, true, true, false, true, true, r1.1, r1.2.1, r2.1, r2.2.1, r3.1, r3.2.1, 0, 0, r5.1, r5.2.1, r6.1, r6.2.1, 0))))))))))
 (.obT
 (.obT
 (.rc (((true, true, true, false, true, false, r1.1, r1.2.1, r2.1, r2.2.1, r3.1, r3.2.1, 0, 0, r5.1, r5.2.1, 0, 0, 0))))))))))))
 (.obC _ jaq
 (.call (y4 u4 u0 u6 u5 r0.2.1 r0.2.2) fun r6 =>
 .brB (r6.2.2 == 0)
 (.obC _ jaq
 (.obC _ jaF
 (.obC _ jaq
 (.obC _ jaG
 (.obT
 (.obT
 (.rc (((true, true, true, false, false, true, r1.1, r1.2.1, r2.1, r2.2.1, r3.1, r3.2.1, 0, 0, 0, 0, r6.1, r6.2.1, 0))))))))))
 (.obT
 (.obT
 (.rc (((true, true, true, false, false, false, r1.1, r1.2.1, r2.1, r2.2.1, r3.1, r3.2.1, 0, 0, 0, 0, 0, 0, 0))))))))))))))))
 (.obC _ jbD
 (.call (y14 u4 u0 u6 u5 r0.2.1 r0.2.2) fun r4 =>
 .brB (r4.2.2 == 0)
 (.obC _ jbD
 (.obC _ jaF
 (.obC _ jbD
 (.obC _ jaG
 (.obC _ jaV
 (.call (y6 u4 u0 u6 u5 r0.2.1 r0.2.2) fun r5 =>
 .brB (r5.2.2 == 0)
 (.obC _ jaV
 (.obC _ jaF
 (.obC _ jaV
 (.obC _ jaG
 (.obC _ jaq
 (.call (y4 u4 u0 u6 u5 r0.2.1 r0.2.2) fun r6 =>
 .brB (r6.2.2 == 0)
 (.obC _ jaq
 (.obC _ jaF
 (.obC _ jaq
 (.obC _ jaG
 (.obT
 (.obT
 (.rc (((true, true, false, true, true, true, r1.1, r1.2.1, r2.1, r2.2.1, 0, 0, r4.1, r4.2.1, r5.1, r5.2.1, r6.1, r6.2.1, 0))))))))))
 (.obT
 (.obT
 (.rc (((true, true, false, true, true, false, r1.1, r1.2.1, r2.1, r2.2.1, 0, 0, r4.1, r4.2.1, r5.1, r5.2.1, 0, 0, 0))))))))))))
 (.obC _ jaq
 (.call (y4 u4 u0 u6 u5 r0.2.1 r0.2.2) fun r6 =>
 .brB (r6.2.2 == 0)
 (.obC _ jaq
 (.obC _ jaF
 (.obC _ jaq
 (.obC _ jaG
 (.obT
 (.obT
 (.rc (((true, true, false, true, false, true, r1.1, r1.2.1, r2.1, r2.2.1, 0, 0, r4.1, r4.2.1, 0, 0, r6.1, r6.2.1, 0))))))))))
 (.obT
 (.obT
 (.rc (((true, true, false, true, false, false, r1.1, r1.2.1, r2.1, r2.2.1, 0, 0, r4.1, r4.2.1, 0, 0, 0, 0, 0))))))))))))))
 (.obC _ jaV
 (.call (y6 u4 u0 u6 u5 r0.2.1 r0.2.2) fun r5 =>
 .brB (r5.2.2 == 0)
 (.obC _ jaV
 (.obC _ jaF
 (.obC _ jaV
 (.obC _ jaG
 (.obC _ jaq
 (.call (y4 u4 u0 u6 u5 r0.2.1 r0.2.2) fun r6 =>
 .brB (r6.2.2 == 0)
 (.obC _ jaq
 (.obC _ jaF
 (.obC _ jaq
 (.obC _ jaG
 (.obT
 (.obT
 (.rc (((true, true, false, false, true, true, r1.1, r1.2.1, r2.1, r2.2.1, 0, 0, 0, 0, r5.1, r5.2.1, r6.1, r6.2.1, 0))))))))))
 (.obT
 (.obT
 (.rc (((true, true, false, false, true, false, r1.1, r1.2.1, r2.1, r2.2.1, 0, 0, 0, 0, r5.1, r5.2.1, 0, 0, 0))))))))))))
 (.obC _ jaq
 (.call (y4 u4 u0 u6 u5 r0.2.1 r0.2.2) fun r6 =>
 .brB (r6.2.2 == 0)
 (.obC _ jaq
 (.obC _ jaF
 (.obC _ jaq
 (.obC _ jaG
 (.obT
 (.obT
 (.rc (((true, true, false, false, false, true, r1.1, r1.2.1, r2.1, r2.2.1, 0, 0, 0, 0, 0, 0, r6.1, r6.2.1, 0))))))))))
 (.obT
 (.obT
 (.rc (((true, true, false, false, false, false, r1.1, r1.2.1, r2.1, r2.2.1, 0, 0, 0, 0, 0, 0, 0, 0, 0))))))))))))))))))
 (.obC _ jda
 (.call (y21 u4 u0 u6 u5 r0.2.1 r0.2.2 (2 : Int)) fun r3 =>
 .brB (r3.2.2 == 0)
 (.obC _ jda
 (.obC _ jaF
 (.obC _ jda
 (.obC _ jaG
 (.obC _ jbD
 (.call (y14 u4 u0 u6 u5 r0.2.1 r0.2.2) fun r4 =>
 .brB (r4.2.2 == 0)
 (.obC _ jbD
 (.obC _ jaF
 (.obC _ jbD
 (.obC _ jaG
 (.obC _ jaV
 (.call (y6 u4 u0 u6 u5 r0.2.1 r0.2.2) fun r5 =>
 .brB (r5.2.2 == 0)
 (.obC _ jaV
 (.obC _ jaF
 (.obC _ jaV
 (.obC _ jaG
 (.obC _ jaq
 (.call (y4 u4 u0 u6 u5 r0.2.1 r0.2.2) fun r6 =>
 .brB (r6.2.2 == 0)
 (.obC _ jaq
 (.obC _ jaF
 (.obC _ jaq
 (.obC _ jaG
 (.obT
 (.obT
 (.rc (((true, false, true, true, true, true, r1.1, r1.2.1, 0, 0, r3.1, r3.2.1, r4.1, r4.2.1, r5.1, r5.2.1, r6.1, r6.2.1, 0))))))))))
 (.obT
 (.obT
 (.rc (((true, false, true, true, true, false, r1.1, r1.2.1, 0, 0, r3.1, r3.2.1, r4.1, r4.2.1, r5.1, r5.2.1, 0, 0, 0))))))))))))
 (.obC _ jaq
 (.call (y4 u4 u0 u6 u5 r0.2.1 r0.2.2) fun r6 =>
 .brB (r6.2.2 == 0)
 (.obC _ jaq
 (.obC _ jaF
 (.obC _ jaq
 (.obC _ jaG
 (.obT
 (.obT
 (.rc (((true, false, true, true, false, true, r1.1, r1.2.1, 0, 0, r3.1, r3.2.1, r4.1, r4.2.1, 0, 0, r6.1, r6.2.1, 0))))))))))
 (.obT
 (.obT
 (.rc (((true, false, true, true, false, false, r1.1, r1.2.1, 0, 0, r3.1, r3.2.1, r4.1, r4.2.1, 0, 0, 0, 0, 0))))))))))))))
 (.obC _ jaV
 (.call (y6 u4 u0 u6 u5 r0.2.1 r0.2.2) fun r5 =>
 .brB (r5.2.2 == 0)
 (.obC _ jaV
 (.obC _ jaF
 (.obC _ jaV
 (.obC _ jaG
 (.obC _ jaq
 (.call (y4 u4 u0 u6 u5 r0.2.1 r0.2.2) fun r6 =>
 .brB (r6.2.2 == 0)
 (.obC _ jaq
 (.obC _ jaF
 (.obC _ jaq
 (.obC _ jaG
 (.obT
 (.obT
 (.rc (((true, false, true, false, true, true, r1.1, r1.2.1, 0, 0, r3.1, r3.2.1, 0, 0, r5.1, r5.2.1, r6.1, r6.2.1, 0))))))))))
 (.obT
 (.obT
 (.rc (((true, false, true, false, true, false, r1.1, r1.2.1, 0, 0, r3.1, r3.2.1, 0, 0, r5.1, r5.2.1, 0, 0, 0))))))))))))
 (.obC _ jaq
 (.call (y4 u4 u0 u6 u5 r0.2.1 r0.2.2) fun r6 =>
 .brB (r6.2.2 == 0)
 (.obC _ jaq
 (.obC _ jaF
 (.obC _ jaq
 (.obC _ jaG
 (.obT
 (.obT
 (.rc (((true, false, true, false, false, true, r1.1, r1.2.1, 0, 0, r3.1, r3.2.1, 0, 0, 0, 0, r6.1, r6.2.1, 0))))))))))
 (.obT
 (.obT
 (.rc (((true, false, true, false, false, false, r1.1, r1.2.1, 0, 0, r3.1, r3.2.1, 0, 0, 0, 0, 0, 0, 0))))))))))))))))
 (.obC _ jbD
 (.call (y14 u4 u0 u6 u5 r0.2.1 r0.2.2) fun r4 =>
 .brB (r4.2.2 == 0)
 (.obC _ jbD
 (.obC _ jaF
 (.obC _ jbD
 (.obC _ jaG
 (.obC _ jaV
 (.call (y6 u4 u0 u6 u5 r0.2.1 r0.2.2) fun r5 =>
 .brB (r5.2.2 == 0)
 (.obC _ jaV
 (.obC _ jaF
 (.obC _ jaV
 (.obC _ jaG
 (.obC _ jaq
 (.call (y4 u4 u0 u6 u5 r0.2.1 r0.2.2) fun r6 =>
 .brB (r6.2.2 == 0)
 (.obC _ jaq
 (.obC _ jaF
 (.obC _ jaq
 (.obC _ jaG
 (.obT
 (.obT
 (.rc (((true, false, false, true, true, true, r1.1, r1.2.1, 0, 0, 0, 0, r4.1, r4.2.1, r5.1, r5.2.1, r6.1, r6.2.1, 0))))))))))
 (.obT
 (.obT
 (.rc (((true, false, false, true, true, false, r1.1, r1.2.1, 0, 0, 0, 0, r4.1, r4.2.1, r5.1, r5.2.1, 0, 0, 0))))))))))))
 (.obC _ jaq
 (.call (y4 u4 u0 u6 u5 r0.2.1 r0.2.2) fun r6 =>
 .brB (r6.2.2 == 0)
 (.obC _ jaq
 (.obC _ jaF
 (.obC _ jaq
 (.obC _ jaG
 (.obT
 (.obT
 (.rc (((true, false, false, true, false, true, r1.1, r1.2.1, 0, 0, 0, 0, r4.1, r4.2.1, 0, 0, r6.1, r6.2.1, 0))))))))))
 (.obT
 (.obT
 (.rc (((true, false, false, true, false, false, r1.1, r1.2.1, 0, 0, 0, 0, r4.1, r4.2.1, 0, 0, 0, 0, 0))))))))))))))
 (.obC _ jaV
 (.call (y6 u4 u0 u6 u5 r0.2.1 r0.2.2) fun r5 =>
 .brB (r5.2.2 == 0)
 (.obC _ jaV
 (.obC _ jaF
 (.obC _ jaV
 (.obC _ jaG
 (.obC _ jaq
 (.call (y4 u4 u0 u6 u5 r0.2.1 r0.2.2) fun r6 =>
 .brB (r6.2.2 == 0)
 (.obC _ jaq
 (.obC _ jaF
 (.obC _ jaq
 (.obC _ jaG
 (.obT
 (.obT
 (.rc (((true, false, false, false, true, true, r1.1, r1.2.1, 0, 0, 0, 0, 0, 0, r5.1, r5.2.1, r6.1, r6.2.1, 0))))))))))
 (.obT
 (.obT
 (.rc (((true, false, false, false, true, false, r1.1, r1.2.1, 0, 0, 0, 0, 0, 0, r5.1, r5.2.1, 0, 0, 0))))))))))))
 (.obC _ jaq
 (.call (y4 u4 u0 u6 u5 r0.2.1 r0.2.2) fun r6 =>
 .brB (r6.2.2 == 0)
 (.obC _ jaq
 (.obC _ jaF
 (.obC _ jaq
 (.obC _ jaG
 (.obT
 (.obT
 (.rc (((true, false, false, false, false, true, r1.1, r1.2.1, 0, 0, 0, 0, 0, 0, 0, 0, r6.1, r6.2.1, 0))))))))))
 (.obT
 (.obT
 (.rc (((true, false, false, false, false, false, r1.1, r1.2.1, 0, 0, 0, 0, 0, 0, 0, 0, 0, 0, 0))))))))))))))))))))
 (.obC _ jij
 (.call (y21 u4 u0 u6 u5 r0.2.1 r0.2.2 (1 : Int)) fun r2 =>
 .brB (r2.2.2 == 0)
 (.obC _ jij
 (.obC _ jaF
 (.obC _ jij
 (.obC _ jaG
 (.obC _ jda
 (.call (y21 u4 u0 u6 u5 r0.2.1 r0.2.2 (2 : Int)) fun r3 =>
 .brB (r3.2.2 == 0)
 (.obC _ jda
 (.obC _ jaF
 (.obC _ jda
 (.obC _ jaG
 (.obC _ jbD
 (.call (y14 u4 u0 u6 u5 r0.2.1 r0.2.2) fun r4 =>
 .brB (r4.2.2 == 0)
 (.obC _ jbD
 (.obC _ jaF
 (.obC _ jbD
 (.obC _ jaG
 (.obC _ jaV
 (.call (y6 u4 u0 u6 u5 r0.2.1 r0.2.2) fun r5 =>
 .brB (r5.2.2 == 0)
 (.obC _ jaV
 (.obC _ jaF
 (.obC _ jaV
 (.obC _ jaG
 (.obC _ jaq
 (.call (y4 u4 u0 u6 u5 r0.2.1 r0.2.2) fun r6 =>
 .brB (r6.2.2 == 0)
 (.obC _ jaq
 (.obC _ jaF
 (.obC _ jaq
 (.obC _ jaG
 (.obT
 (.obT
 (.rc (((false, true, true, true, true, true, 0, 0, r2.1, r2.2.1, r3.1, r3.2.1, r4.1, r4.2.1, r5.1, r5.2.1, r6.1, r6.2.1, 0))))))))))
 (.obT
 (.obT
 (.rc (((false, true, true, true, true, false, 0, 0, r2.1, r2.2.1, r3.1, r3.2.1, r4.1, r4.2.1, r5.1, r5.2.1, 0, 0, 0))))))))))))
 (.obC _ jaq
 (.call (y4 u4 u0 u6 u5 r0.2.1 r0.2.2) fun r6 =>
 .brB (r6.2.2 == 0)
 (.obC _ jaq
 (.obC _ jaF
 (.obC _ jaq
 (.obC _ jaG
 (.obT
 (.obT
 (.rc (((false, true, true, true, false, true, 0, 0, r2.1, r2.2.1, r3.1, r3.2.1, r4.1, r4.2.1, 0, 0, r6.1, r6.2.1, 0))))))))))
 (.obT
 (.obT
 (.rc (((false, true, true, true, false, false, 0, 0, r2.1, r2.2.1, r3.1, r3.2.1, r4.1, r4.2.1, 0, 0, 0, 0, 0))))))))))))))
 (.obC _ jaV
 (.call (y6 u4 u0 u6 u5 r0.2.1 r0.2.2) fun r5 =>
 .brB (r5.2.2 == 0)
 (.obC _ jaV
 (.obC _ jaF
 (.obC _ jaV
 (.obC _ jaG
 (.obC _ jaq
 (.call (y4 u4 u0 u6 u5 r0.2.1 r0.2.2) fun r6 =>
 .brB (r6.2.2 == 0)
 (.obC _ jaq
 (.obC _ jaF
 (.obC _ jaq
 (.obC _ jaG
 (.obT
 (.obT
 (.rc (((false, true, true, false, true, true, 0, 0, r2.1, r2.2.1, r3.1, r3.2.1, 0, 0, r5.1, r5.2.1, r6.1, r6.2.1, 0))))))))))
 (.obT
 (.obT
 (.rc (((false, true, true, false, true, false, 0, 0, r2.1, r2.2.1, r3.1, r3.2.1, 0, 0, r5.1, r5.2.1, 0, 0, 0))))))))))))
 (.obC _ jaq
 (.call (y4 u4 u0 u6 u5 r0.2.1 r0.2.2) fun r6 =>
 .brB (r6.2.2 == 0)
 (.obC _ jaq
 (.obC _ jaF
 (.obC _ jaq
 (.obC _ jaG
 (.obT
 (.obT
 (.rc (((false, true, true, false, false, true, 0, 0, r2.1, r2.2.1, r3.1, r3.2.1, 0, 0, 0, 0, r6.1, r6.2.1, 0))))))))))
 (.obT
 (.obT
 (.rc (((false, true, true, false, false, false, 0, 0, r2.1, r2.2.1, r3.1, r3.2.1, 0, 0, 0, 0, 0, 0, 0))))))))))))))))
 (.obC _ jbD
 (.call (y14 u4 u0 u6 u5 r0.2.1 r0.2.2) fun r4 =>
 .brB (r4.2.2 == 0)
 (.obC _ jbD
 (.obC _ jaF
 (.obC _ jbD
 (.obC _ jaG
 (.obC _ jaV
 (.call (y6 u4 u0 u6 u5 r0.2.1 r0.2.2) fun r5 =>
 .brB (r5.2.2 == 0)
 (.obC _ jaV
 (.obC _ jaF
 (.obC _ jaV
 (.obC _ jaG
 (.obC _ jaq
 (.call (y4 u4 u0 u6 u5 r0.2.1 r0.2.2) fun r6 =>
 .brB (r6.2.2 == 0)
 (.obC _ jaq
 (.obC _ jaF
 (.obC _ jaq
 (.obC _ jaG
 (.obT
 (.obT
 (.rc (((false, true, false, true, true, true, 0, 0, r2.1, r2.2.1, 0, 0, r4.1, r4.2.1, r5.1, r5.2.1, r6.1, r6.2.1, 0))))))))))
 (.obT
 (.obT
 (.rc (((false, true, false, true, true, false, 0, 0, r2.1, r2.2.1, 0, 0, r4.1, r4.2.1, r5.1, r5.2.1, 0, 0, 0))))))))))))
 (.obC _ jaq
 (.call (y4 u4 u0 u6 u5 r0.2.1 r0.2.2) fun r6 =>
 .brB (r6.2.2 == 0)
 (.obC _ jaq
 (.obC _ jaF
 (.obC _ jaq
 (.obC _ jaG
 (.obT
 (.obT
 (.rc (((false, true, false, true, false, true, 0, 0, r2.1, r2.2.1, 0, 0, r4.1, r4.2.1, 0, 0, r6.1, r6.2.1, 0))))))))))
 (.obT
 (.obT
 (.rc (((false, true, false, true, false, false, 0, 0, r2.1, r2.2.1, 0, 0, r4.1, r4.2.1, 0, 0, 0, 0, 0))))))))))))))
 (.obC _ jaV
 (.call (y6 u4 u0 u6 u5 r0.2.1 r0.2.2) fun r5 =>
 .brB (r5.2.2 == 0)
 (.obC _ jaV
 (.obC _ jaF
 (.obC _ jaV
 (.obC _ jaG
 (.obC _ jaq
 (.call (y4 u4 u0 u6 u5 r0.2.1 r0.2.2) fun r6 =>
 .brB (r6.2.2 == 0)
 (.obC _ jaq
 (.obC _ jaF
 (.obC _ jaq
 (.obC _ jaG
 (.obT
 (.obT
 (.rc (((false, true, false, false, true, true, 0, 0, r2.1, r2.2.1, 0, 0, 0, 0, r5.1, r5.2.1, r6.1, r6.2.1, 0))))))))))
 (.obT
 (.obT
 (.rc (((false, true, false, false, true, false, 0, 0, r2.1, r2.2.1, 0, 0, 0, 0, r5.1, r5.2.1, 0, 0, 0))))))))))))
 (.obC _ jaq
 (.call (y4 u4 u0 u6 u5 r0.2.1 r0.2.2) fun r6 =>
 .brB (r6.2.2 == 0)
 (.obC _ jaq
 (.obC _ jaF
 (.obC _ jaq
 (.obC _ jaG
 (.obT
 (.obT
 (.rc (((false, true, false, false, false, true, 0, 0, r2.1, r2.2.1, 0, 0, 0, 0, 0, 0, r6.1, r6.2.1, 0))))))))))
 (.obT
 (.obT
 (.rc (((false, true, false, false, false, false, 0, 0, r2.1, r2.2.1, 0, 0, 0, 0, 0, 0, 0, 0, 0))))))))))))))))))
 (.obC _ jda
 (.call (y21 u4 u0 u6 u5 r0.2.1 r0.2.2 (2 : Int)) fun r3 =>
 .brB (r3.2.2 == 0)
 (.obC _ jda
 (.obC _ jaF
 (.obC _ jda
 (.obC _ jaG
 (.obC _ jbD
 (.call (y14 u4 u0 u6 u5 r0.2.1 r0.2.2) fun r4 =>
 .brB (r4.2.2 == 0)
 (.obC _ jbD
 (.obC _ jaF
 (.obC _ jbD
 (.obC _ jaG
 (.obC _ jaV
 (.call (y6 u4 u0 u6 u5 r0.2.1 r0.2.2) fun r5 =>
 .brB (r5.2.2 == 0)
 (.obC _ jaV
 (.obC _ jaF
 (.obC _ jaV
 (.obC _ jaG
 (.obC _ jaq
 (.call (y4 u4 u0 u6 u5 r0.2.1 r0.2.2) fun r6 =>
 .brB (r6.2.2 == 0)
 (.obC _ jaq
 (.obC _ jaF
 (.obC _ jaq
 (.obC _ jaG
 (.obT
 (.obT
 (.rc (((false, false, true, true, true, true, 0, 0, 0, 0, r3.1, r3.2.1, r4.1, r4.2.1, r5.1, r5.2.1, r6.1, r6.2.1, 0))))))))))
 (.obT
 (.obT
 (.rc (((false, false, true, true, true, false, 0, 0, 0, 0, r3.1, r3.2.1, r4.1, r4.2.1, r5.1, r5.2.1, 0, 0, 0))))))))))))
 (.obC _ jaq
 (.call (y4 u4 u0 u6 u5 r0.2.1 r0.2.2) fun r6 =>
 .brB (r6.2.2 == 0)
 (.obC _ jaq
 (.obC _ jaF
 (.obC _ jaq
 (.obC _ jaG
 (.obT
 (.obT
 (.rc (((false, false, true, true, false, true, 0, 0, 0, 0, r3.1, r3.2.1, r4.1, r4.2.1, 0, 0, r6.1, r6.2.1, 0))))))))))
 (.obT
 (.obT
 (.rc (((false, false, true, true, false, false, 0, 0, 0, 0, r3.1, r3.2.1, r4.1, r4.2.1, 0, 0, 0, 0, 0))))))))))))))
 (.obC _ jaV
 (.call (y6 u4 u0 u6 u5 r0.2.1 r0.2.2) fun r5 =>
 .brB (r5.2.2 == 0)
 (.obC _ jaV
 (.obC _ jaF
 (.obC _ jaV
 (.obC _ jaG
 (.obC _ jaq
 (.call (y4 u4 u0 u6 u5 r0.2.1 r0.2.2) fun r6 =>
 .brB (r6.2.2 == 0)
 (.obC _ jaq
 (.obC _ jaF
 (.obC _ jaq
 (.obC _ jaG
 (.obT
 (.obT
 (.rc (((false, false, true, false, true, true, 0, 0, 0, 0, r3.1, r3.2.1, 0, 0, r5.1, r5.2.1, r6.1, r6.2.1, 0))))))))))
 (.obT
 (.obT
 (.rc (((false, false, true, false, true, false, 0, 0, 0, 0, r3.1, r3.2.1, 0, 0, r5.1, r5.2.1, 0, 0, 0))))))))))))
 (.obC _ jaq
 (.call (y4 u4 u0 u6 u5 r0.2.1 r0.2.2) fun r6 =>
 .brB (r6.2.2 == 0)
 (.obC _ jaq
 (.obC _ jaF
 (.obC _ jaq
 (.obC _ jaG
 (.obT
 (.obT
 (.rc (((false, false, true, false, false, true, 0, 0, 0, 0, r3.1, r3.2.1, 0, 0, 0, 0, r6.1, r6.2.1, 0))))))))))
 (.obT
 (.obT
 (.rc (((false, false, true, false, false, false, 0, 0, 0, 0, r3.1, r3.2.1, 0, 0, 0, 0, 0, 0, 0))))))))))))))))
 (.obC _ jbD
 (.call (y14 u4 u0 u6 u5 r0.2.1 r0.2.2) fun r4 =>
 .brB (r4.2.2 == 0)
 (.obC _ jbD
 (.obC _ jaF
 (.obC _ jbD
 (.obC _ jaG
 (.obC _ jaV
 (.call (y6 u4 u0 u6 u5 r0.2.1 r0.2.2) fun r5 =>
 .brB (r5.2.2 == 0)
 (.obC _ jaV
 (.obC _ jaF
 (.obC _ jaV
 (.obC _ jaG
 (.obC _ jaq
 (.call (y4 u4 u0 u6 u5 r0.2.1 r0.2.2) fun r6 =>
 .brB (r6.2.2 == 0)
 (.obC _ jaq
 (.obC _ jaF
 (.obC _ jaq
 (.obC _ jaG
 (.obT
 (.obT
 (.rc (((false, false, false, true, true, true, 0, 0, 0, 0, 0, 0, r4.1, r4.2.1, r5.1, r5.2.1, r6.1, r6.2.1, 0))))))))))
 (.obT
 (.obT
 (.rc (((false, false, false, true, true, false, 0, 0, 0, 0, 0, 0, r4.1, r4.2.1, r5.1, r5.2.1, 0, 0, 0))))))))))))
 (.obC _ jaq
 (.call (y4 u4 u0 u6 u5 r0.2.1 r0.2.2) fun r6 =>
 .brB (r6.2.2 == 0)
 (.obC _ jaq
 (.obC _ jaF
 (.obC _ jaq
 (.obC _ jaG
 (.obT
 (.obT
 (.rc (((false, false, false, true, false, true, 0, 0, 0, 0, 0, 0, r4.1, r4.2.1, 0, 0, r6.1, r6.2.1, 0))))))))))
 (.obT
 (.obT
 (.rc (((false, false, false, true, false, false, 0, 0, 0, 0, 0, 0, r4.1, r4.2.1, 0, 0, 0, 0, 0))))))))))))))
 (.obC _ jaV
 (.call (y6 u4 u0 u6 u5 r0.2.1 r0.2.2) fun r5 =>
 .brB (r5.2.2 == 0)
 (.obC _ jaV
 (.obC _ jaF
 (.obC _ jaV
 (.obC _ jaG
 (.obC _ jaq
 (.call (y4 u4 u0 u6 u5 r0.2.1 r0.2.2) fun r6 =>
 .brB (r6.2.2 == 0)
 (.obC _ jaq
 (.obC _ jaF
 (.obC _ jaq
 (.obC _ jaG
 (.obT
 (.obT
 (.rc (((false, false, false, false, true, true, 0, 0, 0, 0, 0, 0, 0, 0, r5.1, r5.2.1, r6.1, r6.2.1, 0))))))))))
 (.obT
 (.obT
 (.rc (((false, false, false, false, true, false, 0, 0, 0, 0, 0, 0, 0, 0, r5.1, r5.2.1, 0, 0, 0))))))))))))
 (.obC _ jaq
 (.call (y4 u4 u0 u6 u5 r0.2.1 r0.2.2) fun r6 =>
 .brB (r6.2.2 == 0)
 (.obC _ jaq
 (.obC _ jaF
 (.obC _ jaq
 (.obC _ jaG
 (.obT
 (.obT
 (.rc (((false, false, false, false, false, true, 0, 0, 0, 0, 0, 0, 0, 0, 0, 0, r6.1, r6.2.1, 0))))))))))
 (.obT
 (.obT
 (.rc (((false, false, false, false, false, false, 0, 0, 0, 0, 0, 0, 0, 0, 0, 0, 0, 0, 0))))))))))))))))))))))))))))
theorem joi (u4 : Int) (u0 : List Nat) (u6 : Int) (u5 : Int) (r : Bool × Bool × Bool × Bool × Bool × Bool × Int × Int × Int × Int × Int × Int × Int × Int × Int × Int × Int × Int × Int) (h : Option.bind (y3 u4 u0 u6 u5) some = some r) : ja0 Tryz.f60 ((sp_67 (sp_82 (sp_102 (sp_103 (sp_104 sp0)))))) (fun _ _ _ => none) (jaO je1 [.d (.i .i64 u4), .r (.floats .f32 u0), .d (.i .i64 u6), .d (.i .i64 u5)]) [.s [.d (.b r.1), .d (.b r.2.1), .d (.b r.2.2.1), .d (.b r.2.2.2.1), .d (.b r.2.2.2.2.1), .d (.b r.2.2.2.2.2.1), .d (.i .i64 r.2.2.2.2.2.2.1), .d (.i .i64 r.2.2.2.2.2.2.2.1), .d (.i .i64 r.2.2.2.2.2.2.2.2.1), .d (.i .i64 r.2.2.2.2.2.2.2.2.2.1), .d (.i .i64 r.2.2.2.2.2.2.2.2.2.2.1), .d (.i .i64 r.2.2.2.2.2.2.2.2.2.2.2.1), .d (.i .i64 r.2.2.2.2.2.2.2.2.2.2.2.2.1), .d (.i .i64 r.2.2.2.2.2.2.2.2.2.2.2.2.2.1), .d (.i .i64 r.2.2.2.2.2.2.2.2.2.2.2.2.2.2.1), .d (.i .i64 r.2.2.2.2.2.2.2.2.2.2.2.2.2.2.2.1), .d (.i .i64 r.2.2.2.2.2.2.2.2.2.2.2.2.2.2.2.2.1), .d (.i .i64 r.2.2.2.2.2.2.2.2.2.2.2.2.2.2.2.2.2.1)], .c (.d (.i .i64 r.2.2.2.2.2.2.2.2.2.2.2.2.2.2.2.2.2.2))] :=
 T.vc (t := jpD u4 u0 u6 u5) (by kernel_rfl) (by kernel_rfl) h
theorem joj : jag Tryz.prog 60 true (jal je1 je2) := by
 refine jat (sp := (sp_67 (sp_82 (sp_102 (sp_103 (sp_104 sp0)))))) (fn := Tryz.f60) (body := jaj Tryz.f60) mixed (sp_67_ok (sp_82_ok (sp_102_ok (sp_103_ok (sp_104_ok jak))))) Tryz.func60 (by kernel_rfl) (by kernel_rfl) fun ls t h ho b hb => ?_
 unfold je2 at h
 split at h
 ·rename_i u4 u0 u6 u5
  cases h
  obtain rfl := jaB hb
  exact ⟨Nat.le_of_ble_eq_true (by kernel_rfl), _, _, joi u4 u0 u6 u5 _ (jai ho)⟩
 ·cases h
theorem sp_60_ok {sp : jab} (h : jac Tryz.prog sp) : jac Tryz.prog (sp_60 sp) := jah joj h
end Go.Sh
end

section
open Go.RowKit
namespace Go.Proofs
open Go.Shelf
def Tryz.laysM171_ren : Go.Shelf.Ren := ⟨fun | 171 => 109 | 243 => 136 | 246 => 159 | 283 => 178 | 284 => 179 | 285 => 180 | 286 => 181 | 129 => 166 | 317 => 192 | 318 => 193 | 319 => 194 | 320 => 195 | 337 => 200 | 338 => 201 | n => n, fun | 3 => 3 | 9 => 9 | 2 => 2 | 4 => 4 | 171 => 213 | 0 => 0 | 53 => 134 | 37 => 179 | 5 => 5 | 173 => 215 | 212 => 227 | 51 => 228 | 20 => 20 | 213 => 229 | 46 => 189 | 232 => 243 | 233 => 244 | n => n, fun | 17 => 11 | 18 => 14 | 19 => 15 | n => n⟩
theorem Tryz.laysM171 : Go.Proofs.LaysM.n171 Tryz.prog Tryz.laysM171_ren := {
 mixed := by kernel_rfl
 f129 := Tryz.func166.trans (congrArg some (by kernel_rfl))
 f171 := Tryz.func109.trans (congrArg some (by kernel_rfl))
 f243 := Tryz.func136.trans (congrArg some (by kernel_rfl))
 f246 := Tryz.func159.trans (congrArg some (by kernel_rfl))
 f283 := Tryz.func178.trans (congrArg some (by kernel_rfl))
 f284 := Tryz.func179.trans (congrArg some (by kernel_rfl))
 f285 := Tryz.func180.trans (congrArg some (by kernel_rfl))
 f286 := Tryz.func181.trans (congrArg some (by kernel_rfl))
 f317 := Tryz.func192.trans (congrArg some (by kernel_rfl))
 f318 := Tryz.func193.trans (congrArg some (by kernel_rfl))
 f319 := Tryz.func194.trans (congrArg some (by kernel_rfl))
 f320 := Tryz.func195.trans (congrArg some (by kernel_rfl))
 f337 := Tryz.func200.trans (congrArg some (by kernel_rfl))
 f338 := Tryz.func201.trans (congrArg some (by kernel_rfl))
 t0 := Tryz.underlying0
 a0 := Tryz.isAgg0
 z0 := Tryz.sizeOf0
 v0 := Tryz.zeroValue0
 t2 := Tryz.underlying2
 a2 := Tryz.isAgg2
 z2 := Tryz.sizeOf2
 v2 := Tryz.zeroValue2
 t3 := Tryz.underlying3
 a3 := Tryz.isAgg3
 z3 := Tryz.sizeOf3
 v3 := Tryz.zeroValue3
 t4 := Tryz.underlying4
 a4 := Tryz.isAgg4
 z4 := Tryz.sizeOf4
 v4 := Tryz.zeroValue4
 t5 := Tryz.underlying5
 a5 := Tryz.isAgg5
 z5 := Tryz.sizeOf5
 v5 := Tryz.zeroValue5
 t9 := Tryz.underlying9
 a9 := Tryz.isAgg9
 z9 := Tryz.sizeOf9
 v9 := Tryz.zeroValue9
 t20 := Tryz.underlying20
 a20 := Tryz.isAgg20
 z20 := Tryz.sizeOf20
 v20 := Tryz.zeroValue20
 t37 := Tryz.underlying179
 a37 := Tryz.isAgg179
 z37 := Tryz.sizeOf179
 v37 := Tryz.zeroValue179
 t46 := Tryz.underlying189
 a46 := Tryz.isAgg189
 z46 := Tryz.sizeOf189
 v46 := Tryz.zeroValue189
 t51 := Tryz.underlying228
 a51 := Tryz.isAgg228
 z51 := Tryz.sizeOf228
 v51 := Tryz.zeroValue228
 t53 := Tryz.underlying134
 a53 := Tryz.isAgg134
 z53 := Tryz.sizeOf134
 v53 := Tryz.zeroValue134
 t171 := Tryz.underlying213
 a171 := Tryz.isAgg213
 z171 := Tryz.sizeOf213
 v171 := Tryz.zeroValue213
 t173 := Tryz.underlying215
 a173 := Tryz.isAgg215
 z173 := Tryz.sizeOf215
 v173 := Tryz.zeroValue215
 t212 := Tryz.underlying227
 a212 := Tryz.isAgg227
 z212 := Tryz.sizeOf227
 v212 := Tryz.zeroValue227
 t213 := Tryz.underlying229
 a213 := Tryz.isAgg229
 z213 := Tryz.sizeOf229
 t232 := Tryz.underlying243
 a232 := Tryz.isAgg243
 z232 := Tryz.sizeOf243
 v232 := Tryz.zeroValue243
 t233 := Tryz.underlying244
 a233 := Tryz.isAgg244
 z233 := Tryz.sizeOf244
 v233 := Tryz.zeroValue244
 g17 := by kernel_rfl
 g18 := by kernel_rfl
 g19 := by kernel_rfl
 i0 := by kernel_rfl
 i2 := by kernel_rfl
 i3 := by kernel_rfl
 i4 := by kernel_rfl
 i5 := by kernel_rfl
 i9 := by kernel_rfl
 i20 := by kernel_rfl
 i37 := by kernel_rfl
 i46 := by kernel_rfl
 i51 := by kernel_rfl
 i53 := by kernel_rfl
 i171 := by kernel_rfl
 i173 := by kernel_rfl
 i212 := by kernel_rfl
 i232 := by kernel_rfl
 i233 := by kernel_rfl
 m17 := by kernel_rfl
 m18 := by kernel_rfl
 m19 := by kernel_rfl }
def Tryz.lays156_ren : Go.Shelf.Ren := ⟨fun | 156 => 110 | 165 => 137 | 166 => 138 | 169 => 139 | 240 => 160 | 241 => 161 | 276 => 182 | 277 => 183 | n => n, fun | 31 => 142 | 9 => 9 | 3 => 3 | 4 => 4 | 0 => 0 | 20 => 20 | 72 => 181 | 76 => 175 | 70 => 178 | 37 => 179 | 75 => 174 | 127 => 196 | 164 => 217 | 5 => 5 | 80 => 183 | n => n, fun | n => n⟩
theorem Tryz.lays156 : Go.Proofs.Lays.n156 Tryz.prog Tryz.lays156_ren := {
 mixed := by kernel_rfl
 f156 := Tryz.func110.trans (congrArg some (by kernel_rfl))
 f165 := Tryz.func137.trans (congrArg some (by kernel_rfl))
 f166 := Tryz.func138.trans (congrArg some (by kernel_rfl))
 f169 := Tryz.func139.trans (congrArg some (by kernel_rfl))
 f240 := Tryz.func160.trans (congrArg some (by kernel_rfl))
 f241 := Tryz.func161.trans (congrArg some (by kernel_rfl))
 f276 := Tryz.func182.trans (congrArg some (by kernel_rfl))
 f277 := Tryz.func183.trans (congrArg some (by kernel_rfl))
 t0 := Tryz.underlying0
 a0 := Tryz.isAgg0
 z0 := Tryz.sizeOf0
 v0 := Tryz.zeroValue0
 t3 := Tryz.underlying3
 a3 := Tryz.isAgg3
 z3 := Tryz.sizeOf3
 v3 := Tryz.zeroValue3
 t4 := Tryz.underlying4
 a4 := Tryz.isAgg4
 z4 := Tryz.sizeOf4
 v4 := Tryz.zeroValue4
 t9 := Tryz.underlying9
 a9 := Tryz.isAgg9
 z9 := Tryz.sizeOf9
 v9 := Tryz.zeroValue9
 t20 := Tryz.underlying20
 a20 := Tryz.isAgg20
 z20 := Tryz.sizeOf20
 v20 := Tryz.zeroValue20
 t31 := Tryz.underlying142
 a31 := Tryz.isAgg142
 z31 := Tryz.sizeOf142
 v31 := Tryz.zeroValue142
 t37 := Tryz.underlying179
 a37 := Tryz.isAgg179
 z37 := Tryz.sizeOf179
 v37 := Tryz.zeroValue179
 t70 := Tryz.underlying178
 a70 := Tryz.isAgg178
 z70 := Tryz.sizeOf178
 v70 := Tryz.zeroValue178
 t72 := Tryz.underlying181
 a72 := Tryz.isAgg181
 z72 := Tryz.sizeOf181
 v72 := Tryz.zeroValue181
 t75 := Tryz.underlying174
 a75 := Tryz.isAgg174
 z75 := Tryz.sizeOf174
 v75 := Tryz.zeroValue174
 t76 := Tryz.underlying175
 a76 := Tryz.isAgg175
 z76 := Tryz.sizeOf175
 v76 := Tryz.zeroValue175
 t127 := Tryz.underlying196
 a127 := Tryz.isAgg196
 z127 := Tryz.sizeOf196
 v127 := Tryz.zeroValue196
 t164 := Tryz.underlying217
 a164 := Tryz.isAgg217
 z164 := Tryz.sizeOf217
 v164 := Tryz.zeroValue217 }
end Go.Proofs
namespace Go.Sh
open Go Go.Proofs Go.RowKit Go.Sx Go.Shelf
theorem jxp {α : Type} (f : α → D) (l : List α) : (l.flatMap fun x => [f x]) = l.map f := by
 induction l with
 | nil => rfl
 | cons x r ih => simp [List.flatMap_cons, ih]
theorem jm8 : Builder.Extra Tryz.prog Tryz.lays156_ren where
 sizeBuilder := by kernel_rfl
 liesBuilder := by kernel_rfl
 t5 := by kernel_rfl
 a5 := fun w => jdY w (by kernel_rfl)
 z5 := fun w => ja2 w (by kernel_rfl)
 v5 := fun w => rfl
 infoByte := by kernel_rfl
 cellsByte := by kernel_rfl
 sizeByte := by kernel_rfl
 neB5 := by decide
theorem jsk : Tryz.prog.globalNamed "internal/strconv.uint64pow10" = some 11 := by kernel_rfl
theorem jyk {B : Bd} {w : World} (h : jb3 B w) {g : Nat} {k : IntKind} {l : List Int} {name : String} (hn : Tryz.prog.globalNamed name = some g) (ht : Globs.tab g = some (.ints k l)) : Lib.TabIs Tryz.prog w name k l := by
 obtain ⟨_, hc, cs, t, f, hg, hs⟩ := h.1 g _ ht
 unfold Lib.TabIs World.var?
 rw [hn]
 simp only [Option.bind_some, hg, Option.some.injEq]
 apply Array.ext'
 apply List.ext_getElem?
 intro i
 have hfl : (Cont.ints k l).flat = l.map (D.i k) := jxp _ _
 by_cases hi : i < l.length
 ·have := hc i (.i k l[i]) (by rw [hfl]; simp [hi])
  simp only [World.cell?, hg] at this
  rw [Array.getElem?_toList]
  simp only [List.getElem?_map, List.getElem?_eq_getElem hi, Option.map_some]
  exact this
 ·rw [hfl, List.length_map] at hs
  rw [Array.getElem?_toList, Array.getElem?_eq_none (by omega), List.getElem?_eq_none (by simpa using Nat.le_of_not_lt hi)]
def strconv_Itoa (n : Int) : Option ByteArray := if -9223372036854775808 ≤ n ∧ n ≤ 9223372036854775807 then some ⟨(Lib.itoa n).toArray⟩ else none
def jhe : List SV := [.c (.d)]
def jei : List Lf → Option GT
 | [.d (.i .i64 n)] => some (.leaf (ok (strconv_Itoa n)) [.c (.d (.s (val (strconv_Itoa n))))])
 | _ => none
abbrev sp_109 : jab → jab := jav 109 true (jal jhe jei)
theorem jm9 : jag Tryz.prog 109 true (jal jhe jei) := by
 refine jjx (body := jaj Tryz.f109) Tryz.func109 (by kernel_rfl) (by kernel_rfl) ?_
 intro ls t hg ho b hb ρ0 w hlt hh
 unfold jei at hg
 split at hg
 ·rename_i n
  cases hg
  obtain rfl := jaB hb
  have hk : ok (strconv_Itoa n) := ho
  unfold strconv_Itoa at hk
  have hn : -9223372036854775808 ≤ n ∧ n ≤ 9223372036854775807 := by
   by_cases h : -9223372036854775808 ≤ n ∧ n ≤ 9223372036854775807
   ·exact h
   ·rw [if_neg h] at hk; cases hk
  have hv : val (strconv_Itoa n) = ⟨(Lib.itoa n).toArray⟩ := by
   unfold strconv_Itoa
   rw [if_pos hn]
   rfl
  have htab := jyk hh.glob jsk (k := .u64) (l := Lib.pow10Tab) (by kernel_rfl)
  refine (Any.strconv_Itoa Tryz.laysM171 n hn.1 hn.2 w htab).mono ?_
  rintro e w' ⟨rfl, k, os, rfl⟩
  have hbl : Below w.heap.size w (Sort.grow (w.drewN k) os) := by
   refine ⟨rfl, rfl, rfl, by simp [Sort.grow, World.drewN], fun j hj => ?_⟩
   show (w.heap ++ os)[j]? = _
   rw [Array.getElem?_append_left hj]
  refine ⟨ρ0, .w (.c (.d (.s ⟨(Lib.itoa n).toArray⟩))), _, _, rfl, trivial, jap.refl _ _, hh.below hbl (fun k hk => hk), jcD hbl (fun k hk => hk), ?_⟩
  show mD _ _ ∧ True
  rw [hv]
  exact ⟨⟨rfl⟩, trivial⟩
 ·cases hg
theorem sp_109_ok {sp : jab} (h : jac Tryz.prog sp) : jac Tryz.prog (sp_109 sp) := jah jm9 h
def strings_Join (l : List ByteArray) (sep : ByteArray) : Option ByteArray :=
 if l.length ≤ 140737488355328 ∧ (Lib.join (l.map (·.data.toList)) sep.data.toList).length ≤ 140737488355328 then some ⟨(Lib.join (l.map (·.data.toList)) sep.data.toList).toArray⟩ else none
def jej : List SV := [.c (.r (.strs [])), .c (.d)]
def jek : List Lf → Option GT
 | [.r (.strs l), .d (.s sep)] => some (.leaf (ok (strings_Join l sep)) [.c (.d (.s (val (strings_Join l sep))))])
 | _ => none
abbrev sp_110 : jab → jab := jav 110 true (jal jej jek)
theorem jna : jag Tryz.prog 110 true (jal jej jek) := by
 refine jjx (body := jaj Tryz.f110) Tryz.func110 (by kernel_rfl) (by kernel_rfl) ?_
 intro ls t hg ho b hb ρ0 w hlt hh
 unfold jek at hg
 split at hg
 ·rename_i l sep
  cases hg
  obtain rfl := jaB hb
  have hk : ok (strings_Join l sep) := ho
  unfold strings_Join at hk
  have hn : l.length ≤ 140737488355328 ∧ (Lib.join (l.map (·.data.toList)) sep.data.toList).length ≤ 140737488355328 := by
   by_cases h : l.length ≤ 140737488355328 ∧ (Lib.join (l.map (·.data.toList)) sep.data.toList).length ≤ 140737488355328
   ·exact h
   ·rw [if_neg h] at hk; cases hk
  have hv : val (strings_Join l sep) = ⟨(Lib.join (l.map (·.data.toList)) sep.data.toList).toArray⟩ := by
   unfold strings_Join
   rw [if_pos hn]
   rfl
  obtain ⟨_, _, ⟨a, cap, hv0, ⟨hcap, _⟩, hcells⟩, hold⟩ := hh.ok 0 (.ext (.strs l)) rfl
  have hargs : ((jaO jej [.r (.strs l), .d (.s sep)]).vs.map (V.val ρ0)).toArray = #[ρ0 0, .string sep] := rfl
  rw [hargs, hv0]
  have fin : ∀ w', Below w.heap.size w w' → ∃ ρ' v hp' nx', Ending.returned (.string ⟨(Lib.join (l.map (·.data.toList)) sep.data.toList).toArray⟩) = .returned (V.val ρ' v) ∧ v.lt nx' ∧ jap 1 ρ0 ρ' ∧ HRel ρ' (fun k => k < w.heap.size) hp' nx' w' ∧ Bel (fun k => k < w.heap.size) w w' ∧
    jnB 1 [.c (.d (.s (val (strings_Join l sep))))] v hp' := fun w' hbl => by
   refine ⟨ρ0, .w (.c (.d (.s ⟨(Lib.join (l.map (·.data.toList)) sep.data.toList).toArray⟩))), _, _, rfl, trivial, jap.refl _ _, hh.below hbl (fun k hk => hk), jcD hbl (fun k hk => hk), ?_⟩
   show mD _ _ ∧ True
   rw [hv]
   exact ⟨⟨rfl⟩, trivial⟩
  cases hl : l with
  | nil =>
   subst hl
   refine (Any.strings_Join_none Tryz.lays156 jm8 a cap sep w).mono ?_
   rintro e w' ⟨rfl, rfl⟩
   exact fin _ (Below.refl _ _)
  | cons x r =>
   rw [← hl]
   have h0 : 0 < l.length := by rw [hl]; simp
   obtain ⟨b, off, rfl, hx⟩ := hcells h0
   refine (Any.strings_Join Tryz.lays156 jm8 b off cap l sep w (fun j x hj => ?_) (hold _ _ _ hv0 h0) hn.1 hcap hn.2).mono ?_
   ·exact hx j (.s x) (by
     show ((Cont.strs l).flat)[j]? = _
     have hfl : (Cont.strs l).flat = l.map D.s := jxp _ _
     rw [hfl, List.getElem?_map, hj]
     rfl)
   ·rintro e w' ⟨rfl, hbl⟩
    exact fin _ hbl
 ·cases hg
theorem sp_110_ok {sp : jab} (h : jac Tryz.prog sp) : jac Tryz.prog (sp_110 sp) := jah jna h
end Go.Sh
end

section
namespace Go.Sh
open Go Go.Proofs Go.RowKit Go.Sx
open Go.IntKind (wrap)
def je7 : List (Option Cont) := [none]
def y84 (u50 : Bool) (u51 : Bool) (u52 : Bool) (u53 : Bool) (u54 : Bool) (u55 : Bool) (u56 : Int) (u57 : Int) (u58 : Int) (u59 : Int) (u60 : Int) (u61 : Int) (u62 : Int) (u63 : Int) (u65 : Int) (u66 : Int) (u67 : Int) (u68 : Int) (x0 : (Int × List ByteArray)) : Option ((Int × List ByteArray) ⊕ (List ByteArray)) :=
 if x0.1 < 6 then
  if (0 ≤ x0.1 ∧ x0.1 < (↑(6 : Nat) : Int)) ∧ List.getD [true, true, true, true, true, true] (Int.toNat x0.1 * 1) false = true then
  if (!List.getD [u50, u51, u52, u53, u54, u55] (Int.toNat x0.1 * 1) false) = true then
   if (List.length x0.2 + List.length [ByteArray.mk #[(45 : UInt8)]]) * 16 ≤ 140737488355328 ∧ List.length x0.2 + List.length [ByteArray.mk #[(45 : UInt8)]] ≤ 9223372036854775807 then
   some (.inl ((wrap .i64 (x0.1 + 1), x0.2 ++ [ByteArray.mk #[(45 : UInt8)]])))
   else none
  else
   if 0 ≤ x0.1 ∧ x0.1 < (↑(6 : Nat) : Int) then
   if List.getD [false, false, false, false, false, false, true, true, true, true, true, true, true, true, true, true, true, true] (6 + Int.toNat x0.1 * 2 + Field.offset (Field.mk "Lo" (3 : Nat) (0 : Nat) false "" "" (0 : Nat))) false = true then
    Option.bind (strconv_Itoa (List.getD [(0 : Int), 0, 0, 0, 0, 0, u56, u57, u58, u59, u60, u61, u62, u63, u65, u66, u67, u68] (6 + Int.toNat x0.1 * 2 + Field.offset (Field.mk "Lo" (3 : Nat) (0 : Nat) false "" "" (0 : Nat))) (0 : Int))) fun r0 =>
    if 0 ≤ x0.1 ∧ x0.1 < (↑(6 : Nat) : Int) then
    if List.getD [false, false, false, false, false, false, true, true, true, true, true, true, true, true, true, true, true, true] (6 + Int.toNat x0.1 * 2 + Field.offset (Field.mk "Hi" (3 : Nat) (1 : Nat) false "" "" (8 : Nat))) false = true then
     Option.bind (strconv_Itoa (List.getD [(0 : Int), 0, 0, 0, 0, 0, u56, u57, u58, u59, u60, u61, u62, u63, u65, u66, u67, u68] (6 + Int.toNat x0.1 * 2 + Field.offset (Field.mk "Hi" (3 : Nat) (1 : Nat) false "" "" (8 : Nat))) (0 : Int))) fun r1 =>
     if (List.length x0.2 + List.length [r0, r1]) * 16 ≤ 140737488355328 ∧ List.length x0.2 + List.length [r0, r1] ≤ 9223372036854775807 then
     some (.inl ((wrap .i64 (x0.1 + 1), x0.2 ++ [r0, r1])))
     else none
    else none
    else none
   else none
   else none
  else none
 else
  some (.inr x0.2)
def y85 (u15 : List ByteArray) : Option ByteArray :=
 Option.bind (strings_Join u15 (ByteArray.mk #[(32 : UInt8)])) fun r2 =>
 some r2
def jrD (u50 : Bool) (u51 : Bool) (u52 : Bool) (u53 : Bool) (u54 : Bool) (u55 : Bool) (u56 : Int) (u57 : Int) (u58 : Int) (u59 : Int) (u60 : Int) (u61 : Int) (u62 : Int) (u63 : Int) (u65 : Int) (u66 : Int) (u67 : Int) (u68 : Int) : Option ByteArray :=
 Option.bind (jae (y84 u50 u51 u52 u53 u54 u55 u56 u57 u58 u59 u60 u61 u62 u63 u65 u66 u67 u68) big (((0 : Int), []))) (y85)
def y165 : List A → Option (Prop × List RV)
 | [.s [.b u50, .b u51, .b u52, .b u53, .b u54, .b u55, .i .i64 u56, .i .i64 u57, .i .i64 u58, .i .i64 u59, .i .i64 u60, .i .i64 u61, .i .i64 u62, .i .i64 u63, .i .i64 u65, .i .i64 u66, .i .i64 u67, .i .i64 u68]] => some (ok (jrD u50 u51 u52 u53 u54 u55 u56 u57 u58 u59 u60 u61 u62 u63 u65 u66 u67 u68), [.d (.s ((val (jrD u50 u51 u52 u53 u54 u55 u56 u57 u58 u59 u60 u61 u62 u63 u65 u66 u67 u68))))])
 | _ => none
abbrev sp_62 : jab → jab := jav 62 true (jar je7 y165)
abbrev jnb (v0 : (Int × List ByteArray) × Nat) := (6 + Int.toNat v0.1.1 * 2 + Field.offset (Field.mk "Lo" (3 : Nat) (0 : Nat) false "" "" (0 : Nat)))
abbrev jnc (v0 : (Int × List ByteArray) × Nat) := (6 + Int.toNat v0.1.1 * 2 + Field.offset (Field.mk "Hi" (3 : Nat) (1 : Nat) false "" "" (8 : Nat)))
theorem jjY (u50 : Bool) (u51 : Bool) (u52 : Bool) (u53 : Bool) (u54 : Bool) (u55 : Bool) (u56 : Int) (u57 : Int) (u58 : Int) (u59 : Int) (u60 : Int) (u61 : Int) (u62 : Int) (u63 : Int) (u65 : Int) (u66 : Int) (u67 : Int) (u68 : Int) (r : ByteArray) (h : Option.bind (jrD u50 u51 u52 u53 u54 u55 u56 u57 u58 u59 u60 u61 u62 u63 u65 u66 u67 u68) some = some r) : jbb Tryz.f62 ((sp_109 (sp_110 sp0))) (fun gs id _ => match id with
 | 0 => some ⟨(Int × List ByteArray) × Nat, fun z => ⟨[(1, .w (.c (.p 1 0 1 0))), (3, .w (.c (.o 2))), (7, .w (.a [.d (.b u50), .d (.b u51), .d (.b u52), .d (.b u53), .d (.b u54), .d (.b u55)])), (8, .w (.c (.d (.i .i64 (Prod.fst (Prod.fst z))))))], [(1, .box 95 [.d (.b u50), .d (.b u51), .d (.b u52), .d (.b u53), .d (.b u54), .d (.b u55), .d (.i .i64 u56), .d (.i .i64 u57), .d (.i .i64 u58), .d (.i .i64 u59), .d (.i .i64 u60), .d (.i .i64 u61), .d (.i .i64 u62), .d (.i .i64 u63), .d (.i .i64 u65), .d (.i .i64 u66), .d (.i .i64 u67), .d (.i .i64 u68)]), (2, .row 9 (.strs (Prod.snd (Prod.fst z))))], 3⟩, fun z => Option.bind (jae (y84 u50 u51 u52 u53 u54 u55 u56 u57 u58 u59 u60 u61 u62 u63 u65 u66 u67 u68) (Prod.snd z) (Prod.fst z)) (fun y0 => Option.bind (y85 y0) some) = some r, fun z => Prod.snd z⟩
 | _ => none) [.s [.b u50, .b u51, .b u52, .b u53, .b u54, .b u55, .i .i64 u56, .i .i64 u57, .i .i64 u58, .i .i64 u59, .i .i64 u60, .i .i64 u61, .i .i64 u62, .i .i64 u63, .i .i64 u65, .i .i64 u66, .i .i64 u67, .i .i64 u68]] [.d (.s r)] := by
 refine Eq.mp (by kernel_rfl : (
 ((∃ (v0 : (Int × List ByteArray) × Nat), (Ob ((Option.bind (jae (y84 u50 u51 u52 u53 u54 u55 u56 u57 u58 u59 u60 u61 u62 u63 u65 u66 u67 u68) v0.2 v0.1) fun y0 => Option.bind (y85 y0) some) = some r) ∧
 (Ob (0 = 0) ∧
 (Ob (u50 = u50) ∧
 (Ob (u51 = u51) ∧
 (Ob (u52 = u52) ∧
 (Ob (u53 = u53) ∧
 (Ob (u54 = u54) ∧
 (Ob (u55 = u55) ∧
 (Ob ((0 : Int) = v0.1.1) ∧
 (Ob (u50 = u50) ∧
 (Ob (u51 = u51) ∧
 (Ob (u52 = u52) ∧
 (Ob (u53 = u53) ∧
 (Ob (u54 = u54) ∧
 (Ob (u55 = u55) ∧
 (Ob (u56 = u56) ∧
 (Ob (u57 = u57) ∧
 (Ob (u58 = u58) ∧
 (Ob (u59 = u59) ∧
 (Ob (u60 = u60) ∧
 (Ob (u61 = u61) ∧
 (Ob (u62 = u62) ∧
 (Ob (u63 = u63) ∧
 (Ob (u65 = u65) ∧
 (Ob (u66 = u66) ∧
 (Ob (u67 = u67) ∧
 (Ob (u68 = u68) ∧
 (Ob (List.length v0.1.2 = (0 : Nat)) ∧
 True))))))))))))))))))))))))))))) ∧
  (∀ (v0 : (Int × List ByteArray) × Nat), ((Option.bind (jae (y84 u50 u51 u52 u53 u54 u55 u56 u57 u58 u59 u60 u61 u62 u63 u65 u66 u67 u68) v0.2 v0.1) fun y0 => Option.bind (y85 y0) some) = some r →
 Br (decide (v0.1.1 < 6))
  ((Ob ((0 ≤ v0.1.1 ∧ v0.1.1 < (↑(6 : Nat) : Int)) ∧ List.getD [true, true, true, true, true, true] (Int.toNat v0.1.1 * 1) false = true) ∧
 Br (!List.getD [u50, u51, u52, u53, u54, u55] (Int.toNat v0.1.1 * 1) false)
  ((Ob ((List.length v0.1.2 + List.length [ByteArray.mk #[(45 : UInt8)]]) * 16 ≤ 140737488355328 ∧ List.length v0.1.2 + List.length [ByteArray.mk #[(45 : UInt8)]] ≤ 9223372036854775807) ∧
  (∃ (v1 : (Int × List ByteArray) × Nat), (Ob ((Option.bind (jae (y84 u50 u51 u52 u53 u54 u55 u56 u57 u58 u59 u60 u61 u62 u63 u65 u66 u67 u68) v1.2 v1.1) fun y0 => Option.bind (y85 y0) some) = some r) ∧
 (Ob (v1.2 < v0.2) ∧
 (Ob (0 = 0) ∧
 (Ob (u50 = u50) ∧
 (Ob (u51 = u51) ∧
 (Ob (u52 = u52) ∧
 (Ob (u53 = u53) ∧
 (Ob (u54 = u54) ∧
 (Ob (u55 = u55) ∧
 (Ob (wrap .i64 (v0.1.1 + 1) = v1.1.1) ∧
 (Ob (u50 = u50) ∧
 (Ob (u51 = u51) ∧
 (Ob (u52 = u52) ∧
 (Ob (u53 = u53) ∧
 (Ob (u54 = u54) ∧
 (Ob (u55 = u55) ∧
 (Ob (u56 = u56) ∧
 (Ob (u57 = u57) ∧
 (Ob (u58 = u58) ∧
 (Ob (u59 = u59) ∧
 (Ob (u60 = u60) ∧
 (Ob (u61 = u61) ∧
 (Ob (u62 = u62) ∧
 (Ob (u63 = u63) ∧
 (Ob (u65 = u65) ∧
 (Ob (u66 = u66) ∧
 (Ob (u67 = u67) ∧
 (Ob (u68 = u68) ∧
 (Ob (v0.1.2 ++ [ByteArray.mk #[(45 : UInt8)]] = v1.1.2) ∧
 True))))))))))))))))))))))))))))))))
  ((Ob (0 ≤ v0.1.1 ∧ v0.1.1 < (↑(6 : Nat) : Int)) ∧
 (Ob (List.getD [false, false, false, false, false, false, true, true, true, true, true, true, true, true, true, true, true, true] (jnb v0) false = true) ∧
 (Ob (ok (strconv_Itoa (List.getD [(0 : Int), 0, 0, 0, 0, 0, u56, u57, u58, u59, u60, u61, u62, u63, u65, u66, u67, u68] (jnb v0) (0 : Int)))) ∧
 (Ob (0 ≤ v0.1.1 ∧ v0.1.1 < (↑(6 : Nat) : Int)) ∧
 (Ob (List.getD [false, false, false, false, false, false, true, true, true, true, true, true, true, true, true, true, true, true] (jnc v0) false = true) ∧
 (Ob (ok (strconv_Itoa (List.getD [(0 : Int), 0, 0, 0, 0, 0, u56, u57, u58, u59, u60, u61, u62, u63, u65, u66, u67, u68] (jnc v0) (0 : Int)))) ∧
 (Ob ((List.length v0.1.2 + List.length [val (strconv_Itoa (List.getD [(0 : Int), 0, 0, 0, 0, 0, u56, u57, u58, u59, u60, u61, u62, u63, u65, u66, u67, u68] (jnb v0) (0 : Int))), val (strconv_Itoa (List.getD [(0 : Int), 0, 0, 0, 0, 0, u56, u57, u58, u59, u60, u61, u62, u63, u65, u66, u67, u68] (jnc v0) (0 : Int)))]) * 16 ≤ 140737488355328 ∧ List.length v0.1.2 + List.length [val (strconv_Itoa (List.getD [(0 : Int), 0, 0, 0, 0, 0, u56, u57, u58, u59, u60, u61, u62, u63, u65, u66, u67, u68] (jnb v0) (0 : Int))), val (strconv_Itoa (List.getD [(0 : Int), 0, 0, 0, 0, 0, u56, u57, u58, u59, u60, u61, u62, u63, u65, u66, u67, u68] (jnc v0) (0 : Int)))] ≤ 9223372036854775807) ∧
  (∃ (v1 : (Int × List ByteArray) × Nat), (Ob ((Option.bind (jae (y84 u50 u51 u52 u53 u54 u55 u56 u57 u58 u59 u60 u61 u62 u63 u65 u66 u67 u68) v1.2 v1.1) fun y0 => Option.bind (y85 y0) some) = some r) ∧
 (Ob (v1.2 < v0.2) ∧
 (Ob (0 = 0) ∧
 (Ob (u50 = u50) ∧
 (Ob (u51 = u51) ∧
 (Ob (u52 = u52) ∧
 (Ob (u53 = u53) ∧
 (Ob (u54 = u54) ∧
 (Ob (u55 = u55) ∧
 (Ob (wrap .i64 (v0.1.1 + 1) = v1.1.1) ∧
 (Ob (u50 = u50) ∧
 (Ob (u51 = u51) ∧
 (Ob (u52 = u52) ∧
 (Ob (u53 = u53) ∧
 (Ob (u54 = u54) ∧
 (Ob (u55 = u55) ∧
 (Ob (u56 = u56) ∧
 (Ob (u57 = u57) ∧
 (Ob (u58 = u58) ∧
 (Ob (u59 = u59) ∧
 (Ob (u60 = u60) ∧
 (Ob (u61 = u61) ∧
 (Ob (u62 = u62) ∧
 (Ob (u63 = u63) ∧
 (Ob (u65 = u65) ∧
 (Ob (u66 = u66) ∧
 (Ob (u67 = u67) ∧
 (Ob (u68 = u68) ∧
 (Ob (v0.1.2 ++ [val (strconv_Itoa (List.getD [(0 : Int), 0, 0, 0, 0, 0, u56, u57, u58, u59, u60, u61, u62, u63, u65, u66, u67, u68] (jnb v0) (0 : Int))), val (strconv_Itoa (List.getD [(0 : Int), 0, 0, 0, 0, 0, u56, u57, u58, u59, u60, u61, u62, u63, u65, u66, u67, u68] (jnc v0) (0 : Int)))] = v1.1.2) ∧
 True))))))))))))))))))))))))))))))))))))))))
  ((Ob (ok (strings_Join v0.1.2 (ByteArray.mk #[(32 : UInt8)]))) ∧
 (Ob True ∧
 (Ob (val (strings_Join v0.1.2 (ByteArray.mk #[(32 : UInt8)])) = r) ∧
 True)))))))) = _) ?_
 refine ⟨⟨(((0 : Int), []), big), ⟨jbd h⟩, (by repeat' constructor)⟩, fun z3 hz3 => ?_⟩
 obtain ⟨k3, hm3, h⟩ := jaT hz3
 refine jaN h (fun h => ?_) (fun h => ?_)
 ·refine jao h fun h => ?_
  refine jaW h (fun h => ?_) (fun h => ?_)
  ·refine jao h fun h => ?_
   exact ⟨((wrap .i64 ((Prod.fst z3).1 + 1), (Prod.fst z3).2 ++ [ByteArray.mk #[(45 : UInt8)]]), k3), ⟨jaL h⟩, ⟨jaZ hm3.symm⟩, (by repeat' constructor)⟩
  ·refine jao h fun h => ?_
   refine jao h fun h => ?_
   refine jau h fun h => ?_
   refine jao h fun h => ?_
   refine jao h fun h => ?_
   refine jau h fun h => ?_
   refine jao h fun h => ?_
   exact ⟨((wrap .i64 ((Prod.fst z3).1 + 1), (Prod.fst z3).2 ++ [val (strconv_Itoa (List.getD [(0 : Int), 0, 0, 0, 0, 0, u56, u57, u58, u59, u60, u61, u62, u63, u65, u66, u67, u68] (6 + Int.toNat (Prod.fst z3).1 * 2 + Field.offset (Field.mk "Lo" (3 : Nat) (0 : Nat) false "" "" (0 : Nat))) (0 : Int))), val (strconv_Itoa (List.getD [(0 : Int), 0, 0, 0, 0, 0, u56, u57, u58, u59, u60, u61, u62, u63, u65, u66, u67, u68] (6 + Int.toNat (Prod.fst z3).1 * 2 + Field.offset (Field.mk "Hi" (3 : Nat) (1 : Nat) false "" "" (8 : Nat))) (0 : Int)))]), k3), ⟨jaL h⟩, ⟨jaZ hm3.symm⟩, (by repeat' constructor)⟩
 ·have h := jaA h
  refine jau h fun h => ?_
  refine jad ?_
  exact rcs h
theorem jjZ : jag Tryz.prog 62 true (jar je7 y165) := by
 refine jaz (sp := (sp_109 (sp_110 sp0))) (fn := Tryz.f62) (body := jaj Tryz.f62) mixed (sp_109_ok (sp_110_ok jak)) Tryz.func62 (by kernel_rfl) (by kernel_rfl) fun as_ ob rs h ho => ?_
 unfold y165 at h
 split at h
 ·rename_i u50 u51 u52 u53 u54 u55 u56 u57 u58 u59 u60 u61 u62 u63 u65 u66 u67 u68
  cases h
  exact ⟨Nat.le_of_ble_eq_true rfl, _, _, jjY u50 u51 u52 u53 u54 u55 u56 u57 u58 u59 u60 u61 u62 u63 u65 u66 u67 u68 _ (jai ho)⟩
 ·cases h
theorem sp_62_ok {sp : jab} (h : jac Tryz.prog sp) : jac Tryz.prog (sp_62 sp) := jah jjZ h
end Go.Sh
end

section
namespace Go.Sh
open Go Go.Proofs Go.RowKit Go.Sx
def jkm : Int := 8000
def jkn : List Nat := [1090519040, 1082130432, 1073741824, 1065353216, 0]
def jrE (fr : Int) (fs : List Nat) : List Lf → Option GT
 | [] => some (.leaf True [.s [.d (.i .i64 fr), .row 151 (.floats .f32 fs)]])
 | _ => none
abbrev sp_66v (fr : Int) (fs : List Nat) : jab → jab := jav 66 true (jal jh7 (jrE fr fs))
theorem jxR : jag Tryz.prog 66 true (jal jh7 (jrE jkm jkn)) := by
 refine jat (sp := sp0) (fn := Tryz.f66) (body := jaj Tryz.f66) mixed jak Tryz.func66 (by kernel_rfl) (by kernel_rfl) fun ls t h ho b hb => ?_
 unfold jrE at h
 split at h
 ·cases h
  obtain rfl := jaB hb
  exact ⟨Nat.le_of_ble_eq_true (by kernel_rfl), _, _, jse (jkm, jkn) rfl⟩
 ·cases h
theorem sp_66v_ok {sp : jab} (h : jac Tryz.prog sp) : jac Tryz.prog (sp_66v jkm jkn sp) := jah jxR h
end Go.Sh
end

section
namespace Go.Sh
open Go Go.Proofs Go.RowKit Go.Sx
def jk1 : List (Option Cont) := []
def jo5 (fr : Int) (fs : List Nat) : Option Bool :=
 Option.bind (jha fr fs) fun r0 =>
 Option.bind (jed fr fs (1 : Int)) fun r1 =>
 Option.bind (jc1 fr fs (0 : Int) (0 : Int) (125 : Int)) fun r2 =>
 Option.bind (jlG fr fs (1 : Int)) fun r3 =>
 Option.bind (y3 fr fs (0 : Int) (0 : Int)) fun r4 =>
 if (r0.2 == 0) = true then
  Option.bind (jjo r0.1 [(85 : Int), 21, 5, 1, 0]) fun r5 =>
  if (r5) = true then
  if (r1.2.2 == 0) = true then
   if (r1.1 == 750 && r1.2.1 == 1500) = true then
   if (r2.2.2 == 0) = true then
    if (r2.1 == 4 && r2.2.1 == 5) = true then
    if (r3.2.2 == 0) = true then
     if (r3.1 == 9 && r3.2.1 == 17) = true then
     if (r4.2.2.2.2.2.2.2.2.2.2.2.2.2.2.2.2.2.2 == 0) = true then
      Option.bind (jrD r4.1 r4.2.1 r4.2.2.1 r4.2.2.2.1 r4.2.2.2.2.1 r4.2.2.2.2.2.1 r4.2.2.2.2.2.2.1 r4.2.2.2.2.2.2.2.1 r4.2.2.2.2.2.2.2.2.1 r4.2.2.2.2.2.2.2.2.2.1 r4.2.2.2.2.2.2.2.2.2.2.1 r4.2.2.2.2.2.2.2.2.2.2.2.1 r4.2.2.2.2.2.2.2.2.2.2.2.2.1 r4.2.2.2.2.2.2.2.2.2.2.2.2.2.1 r4.2.2.2.2.2.2.2.2.2.2.2.2.2.2.1 r4.2.2.2.2.2.2.2.2.2.2.2.2.2.2.2.1 r4.2.2.2.2.2.2.2.2.2.2.2.2.2.2.2.2.1 r4.2.2.2.2.2.2.2.2.2.2.2.2.2.2.2.2.2.1) fun r6 =>
      some (r6 == ByteArray.mk #[(55 : UInt8), (53 : UInt8), (48 : UInt8), (32 : UInt8), (49 : UInt8), (53 : UInt8), (48 : UInt8), (48 : UInt8), (32 : UInt8), (55 : UInt8), (53 : UInt8), (48 : UInt8), (32 : UInt8), (49 : UInt8), (53 : UInt8), (48 : UInt8), (48 : UInt8), (32 : UInt8), (53 : UInt8), (48 : UInt8), (48 : UInt8), (32 : UInt8), (49 : UInt8), (48 : UInt8), (48 : UInt8), (48 : UInt8), (32 : UInt8), (45 : UInt8), (32 : UInt8), (49 : UInt8), (48 : UInt8), (48 : UInt8), (48 : UInt8), (32 : UInt8), (49 : UInt8), (48 : UInt8), (48 : UInt8), (48 : UInt8), (32 : UInt8), (51 : UInt8), (57 : UInt8), (32 : UInt8), (52 : UInt8), (48 : UInt8)])
     else
      some false
     else
     some false
    else
     some false
    else
    some false
   else
    some false
   else
   some false
  else
   some false
  else
  some false
 else
  some false
def jsl (fr : Int) (fs : List Nat) : T (Bool) :=
 .obT
 (.call (jha fr fs) fun r0 =>
 .obT
 (.call (jed fr fs (1 : Int)) fun r1 =>
 .obT
 (.call (jc1 fr fs (0 : Int) (0 : Int) (125 : Int)) fun r2 =>
 .obT
 (.call (jlG fr fs (1 : Int)) fun r3 =>
 .obT
 (.call (y3 fr fs (0 : Int) (0 : Int)) fun r4 =>
 .brB (r0.2 == 0)
 (.call (jjo r0.1 [(85 : Int), 21, 5, 1, 0]) fun r5 =>
 .brB (r5)
 (.brB (r1.2.2 == 0)
 (.brB (r1.1 == 750 && r1.2.1 == 1500)
 (.brB (r2.2.2 == 0)
 (.brB (r2.1 == 4 && r2.2.1 == 5)
 (.brB (r3.2.2 == 0)
 (.brB (r3.1 == 9 && r3.2.1 == 17)
 (.brB (r4.2.2.2.2.2.2.2.2.2.2.2.2.2.2.2.2.2.2 == 0)
 (.call (jrD r4.1 r4.2.1 r4.2.2.1 r4.2.2.2.1 r4.2.2.2.2.1 r4.2.2.2.2.2.1 r4.2.2.2.2.2.2.1 r4.2.2.2.2.2.2.2.1 r4.2.2.2.2.2.2.2.2.1 r4.2.2.2.2.2.2.2.2.2.1 r4.2.2.2.2.2.2.2.2.2.2.1 r4.2.2.2.2.2.2.2.2.2.2.2.1 r4.2.2.2.2.2.2.2.2.2.2.2.2.1 r4.2.2.2.2.2.2.2.2.2.2.2.2.2.1 r4.2.2.2.2.2.2.2.2.2.2.2.2.2.2.1 r4.2.2.2.2.2.2.2.2.2.2.2.2.2.2.2.1 r4.2.2.2.2.2.2.2.2.2.2.2.2.2.2.2.2.1 r4.2.2.2.2.2.2.2.2.2.2.2.2.2.2.2.2.2.1) fun r6 =>
 .obT
 (.rc ((r6 == ByteArray.mk #[(55 : UInt8), (53 : UInt8), (48 : UInt8), (32 : UInt8), (49 : UInt8), (53 : UInt8), (48 : UInt8), (48 : UInt8), (32 : UInt8), (55 : UInt8), (53 : UInt8), (48 : UInt8), (32 : UInt8), (49 : UInt8), (53 : UInt8), (48 : UInt8), (48 : UInt8), (32 : UInt8), (53 : UInt8), (48 : UInt8), (48 : UInt8), (32 : UInt8), (49 : UInt8), (48 : UInt8), (48 : UInt8), (48 : UInt8), (32 : UInt8), (45 : UInt8), (32 : UInt8), (49 : UInt8), (48 : UInt8), (48 : UInt8), (48 : UInt8), (32 : UInt8), (49 : UInt8), (48 : UInt8), (48 : UInt8), (48 : UInt8), (32 : UInt8), (51 : UInt8), (57 : UInt8), (32 : UInt8), (52 : UInt8), (48 : UInt8)]))))
 (.obT
 (.rc (false))))
 (.obT
 (.rc (false))))
 (.obT
 (.rc (false))))
 (.obT
 (.rc (false))))
 (.obT
 (.rc (false))))
 (.obT
 (.rc (false))))
 (.obT
 (.rc (false))))
 (.obT
 (.rc (false))))
 (.obT
 (.rc (false))))))))
theorem jrF (fr : Int) (fs : List Nat) (r : Bool) (h : Option.bind (jo5 fr fs) some = some r) : jbb Tryz.f15 ((sp_53 (sp_17 (sp_26 (sp_34 (sp_66v fr fs (sp_60 (sp_55 (sp_62 sp0))))))))) (fun _ _ _ => none) [] [.d (.b r)] :=
 T.vc (t := jsl fr fs) (by kernel_rfl) (by kernel_rfl) h
end Go.Sh
end

section
namespace Go.Sh
open Go Go.Proofs Go.RowKit Go.Sx
set_option maxRecDepth 100000
set_option maxHeartbeats 4000000
theorem jw0 : jo5 jkm jkn = some true := by kernel_rfl
end Go.Sh
end

section
namespace Go.Sh
open Go Go.Proofs Go.RowKit Go.Sx
set_option maxRecDepth 100000
def jok : List A → Option (Prop × List RV)
 | [] => some (True, [.d (.b true)])
 | _ => none
abbrev sp_15b : jab → jab := jav 15 true (jar jk1 jok)
theorem ju8 : jag Tryz.prog 15 true (jar jk1 jok) := by
 refine jaz (sp := (sp_53 (sp_17 (sp_26 (sp_34 (sp_66v jkm jkn (sp_60 (sp_55 (sp_62 sp0))))))))) (fn := Tryz.f15) (body := jaj Tryz.f15) mixed (sp_53_ok (sp_17_ok (sp_26_ok (sp_34_ok (sp_66v_ok (sp_60_ok (sp_55_ok (sp_62_ok jak)))))))) Tryz.func15 (by kernel_rfl) (by kernel_rfl) fun as_ ob rs h ho => ?_
 unfold jok at h
 split at h
 ·cases h
  exact ⟨Nat.le_of_ble_eq_true rfl, _, _, jrF jkm jkn true (by rw [jw0]; rfl)⟩
 ·cases h
theorem sp_15b_ok {sp : jab} (h : jac Tryz.prog sp) : jac Tryz.prog (sp_15b sp) := jah ju8 h
end Go.Sh
end

section
namespace Go.Sh
open Go Go.Proofs Go.RowKit Go.Sx
end Go.Sh
end

section
namespace Go.Sh
open Go Go.Proofs Go.RowKit Go.Sx
open Go.IntKind (wrap)
def jo6 : List (Option Cont) := [none, none, none]
def jfl (u44 : Int) (aLo : Int) (aHi : Int) (bLo : Int) (bHi : Int) : Option Int :=
 if 0 ≤ u44 ∧ u44 < (↑(6 : Nat) : Int) then
  if Int.toNat u44 < List.length jcl then
  if 0 ≤ u44 ∧ u44 < (↑(6 : Nat) : Int) then
   if Int.toNat u44 < List.length jcl then
   if u44 < 3 then
    if wrap .i64 (20 * if wrap .i64 (bHi - aLo) > wrap .i64 (aHi - bLo) then wrap .i64 (bHi - aLo) else wrap .i64 (aHi - bLo)) ≤ if bLo < aLo then bLo else aLo then
    some (2 : Int)
    else
    if wrap .i64 (20 * if wrap .i64 (bLo - aHi) > if wrap .i64 (aLo - bHi) > 0 then wrap .i64 (aLo - bHi) else (0 : Int) then wrap .i64 (bLo - aHi) else if wrap .i64 (aLo - bHi) > 0 then wrap .i64 (aLo - bHi) else (0 : Int)) > if bHi > aHi then bHi else aHi then
     some (0 : Int)
    else
     some (1 : Int)
   else
    if (if wrap .i64 (bHi - aLo) > wrap .i64 (aHi - bLo) then wrap .i64 (bHi - aLo) else wrap .i64 (aHi - bLo)) ≤ List.getD jcl (Int.toNat u44) (0 : Int) then
    some (2 : Int)
    else
    if (if wrap .i64 (bLo - aHi) > if wrap .i64 (aLo - bHi) > 0 then wrap .i64 (aLo - bHi) else (0 : Int) then wrap .i64 (bLo - aHi) else if wrap .i64 (aLo - bHi) > 0 then wrap .i64 (aLo - bHi) else (0 : Int)) > List.getD jcl (Int.toNat u44) (0 : Int) then
     some (0 : Int)
    else
     some (1 : Int)
   else none
  else none
  else none
 else none
def jj0 : List A → Option (Prop × List RV)
 | [.d (.i .i64 u44), .s [.i .i64 aLo, .i .i64 aHi], .s [.i .i64 bLo, .i .i64 bHi]] => some (ok (jfl u44 aLo aHi bLo bHi), [.d (.i .i64 ((val (jfl u44 aLo aHi bLo bHi))))])
 | _ => none
abbrev sp_100 : jab → jab := jav 100 true (jar jo6 jj0)
theorem jtW (u44 : Int) (aLo : Int) (aHi : Int) (bLo : Int) (bHi : Int) (r : Int) (h : Option.bind (jfl u44 aLo aHi bLo bHi) some = some r) : jbb Tryz.f100 (sp0) (fun _ _ _ => none) [.d (.i .i64 u44), .s [.i .i64 aLo, .i .i64 aHi], .s [.i .i64 bLo, .i .i64 bHi]] [.d (.i .i64 r)] := by
 refine Eq.mp (by kernel_rfl : (
 (Ob (0 ≤ u44 ∧ u44 < (↑(6 : Nat) : Int)) ∧
 (Ob (Int.toNat u44 < List.length jcl) ∧
 (Ob (0 ≤ u44 ∧ u44 < (↑(6 : Nat) : Int)) ∧
 (Ob (Int.toNat u44 < List.length jcl) ∧
 Br (decide (u44 < 3))
 (Br (decide (wrap .i64 (20 * if wrap .i64 (bHi - aLo) > wrap .i64 (aHi - bLo) then wrap .i64 (bHi - aLo) else wrap .i64 (aHi - bLo)) ≤ if bLo < aLo then bLo else aLo))
  ((Ob True ∧
 (Ob ((2 : Int) = r) ∧
 True)))
 (Br (decide (wrap .i64 (20 * if wrap .i64 (bLo - aHi) > if wrap .i64 (aLo - bHi) > 0 then wrap .i64 (aLo - bHi) else (0 : Int) then wrap .i64 (bLo - aHi) else if wrap .i64 (aLo - bHi) > 0 then wrap .i64 (aLo - bHi) else (0 : Int)) > if bHi > aHi then bHi else aHi))
  ((Ob True ∧
 (Ob ((0 : Int) = r) ∧
 True)))
  ((Ob True ∧
 (Ob ((1 : Int) = r) ∧
 True)))))
 (Br (decide ((if wrap .i64 (bHi - aLo) > wrap .i64 (aHi - bLo) then wrap .i64 (bHi - aLo) else wrap .i64 (aHi - bLo)) ≤ List.getD jcl (Int.toNat u44) (0 : Int)))
  ((Ob True ∧
 (Ob ((2 : Int) = r) ∧
 True)))
 (Br (decide ((if wrap .i64 (bLo - aHi) > if wrap .i64 (aLo - bHi) > 0 then wrap .i64 (aLo - bHi) else (0 : Int) then wrap .i64 (bLo - aHi) else if wrap .i64 (aLo - bHi) > 0 then wrap .i64 (aLo - bHi) else (0 : Int)) > List.getD jcl (Int.toNat u44) (0 : Int)))
  ((Ob True ∧
 (Ob ((0 : Int) = r) ∧
 True)))
  ((Ob True ∧
 (Ob ((1 : Int) = r) ∧
 True)))))))))) = _) ?_
 refine jao h fun h => ?_
 refine jao h fun h => ?_
 refine jao h fun h => ?_
 refine jao h fun h => ?_
 refine jaN h (fun h => ?_) (fun h => ?_)
 ·refine jaN h (fun h => ?_) (fun h => ?_)
  ·refine jad ?_
   exact rcs h
  ·refine jaN h (fun h => ?_) (fun h => ?_)
   ·refine jad ?_
    exact rcs h
   ·refine jad ?_
    exact rcs h
 ·refine jaN h (fun h => ?_) (fun h => ?_)
  ·refine jad ?_
   exact rcs h
  ·refine jaN h (fun h => ?_) (fun h => ?_)
   ·refine jad ?_
    exact rcs h
   ·refine jad ?_
    exact rcs h
theorem jtX : jag Tryz.prog 100 true (jar jo6 jj0) := by
 refine jaz (sp := sp0) (fn := Tryz.f100) (body := jaj Tryz.f100) mixed jak Tryz.func100 (by kernel_rfl) (by kernel_rfl) fun as_ ob rs h ho => ?_
 unfold jj0 at h
 split at h
 ·rename_i u44 aLo aHi bLo bHi
  cases h
  exact ⟨Nat.le_of_ble_eq_true rfl, _, _, jtW u44 aLo aHi bLo bHi _ (jai ho)⟩
 ·cases h
theorem sp_100_ok {sp : jab} (h : jac Tryz.prog sp) : jac Tryz.prog (sp_100 sp) := jah jtX h
def jf1 : List SV := [.a [.d, .r (.floats .f32 []), .d, .d], .a [.d, .r (.floats .f32 []), .d, .d]]
def y67 (r0 : Bool × Bool × Bool × Bool × Bool × Bool × Int × Int × Int × Int × Int × Int × Int × Int × Int × Int × Int × Int × Int) (r1 : Bool × Bool × Bool × Bool × Bool × Bool × Int × Int × Int × Int × Int × Int × Int × Int × Int × Int × Int × Int × Int) (x0 : (Int × Int × Int × Int × Int × Int × Int)) : Option ((Int × Int × Int × Int × Int × Int × Int) ⊕ (Int × Int × Int × Int × Int × Int)) :=
 if x0.1 < 6 then
  if 0 ≤ x0.1 ∧ x0.1 < (↑(6 : Nat) : Int) then
  if List.getD [true, true, true, true, true, true] (0 + Int.toNat x0.1 * 1) false = true then
   if 0 ≤ x0.1 ∧ x0.1 < (↑(6 : Nat) : Int) then
   if List.getD [true, true, true, true, true, true, false, false, false, false, false, false, false, false, false, false, false, false] (0 + Int.toNat x0.1 * 1) false = true then
    if (List.getD [r0.1, r0.2.1, r0.2.2.1, r0.2.2.2.1, r0.2.2.2.2.1, r0.2.2.2.2.2.1, false, false, false, false, false, false, false, false, false, false, false, false] (0 + Int.toNat x0.1 * 1) false) = true then
    if 0 ≤ x0.1 ∧ x0.1 < (↑(6 : Nat) : Int) then
     if List.getD [true, true, true, true, true, true, false, false, false, false, false, false, false, false, false, false, false, false] (0 + Int.toNat x0.1 * 1) false = true then
     if (List.getD [r1.1, r1.2.1, r1.2.2.1, r1.2.2.2.1, r1.2.2.2.2.1, r1.2.2.2.2.2.1, false, false, false, false, false, false, false, false, false, false, false, false] (0 + Int.toNat x0.1 * 1) false) = true then
      if 0 ≤ x0.1 ∧ x0.1 < (↑(6 : Nat) : Int) then
      if List.getD [false, false, false, false, false, false, true, true, true, true, true, true, true, true, true, true, true, true] (6 + Int.toNat x0.1 * 2) false = true ∧ List.getD [false, false, false, false, false, false, true, true, true, true, true, true, true, true, true, true, true, true] (6 + Int.toNat x0.1 * 2 + 1) false = true then
       if 0 ≤ x0.1 ∧ x0.1 < (↑(6 : Nat) : Int) then
       if List.getD [false, false, false, false, false, false, true, true, true, true, true, true, true, true, true, true, true, true] (6 + Int.toNat x0.1 * 2) false = true ∧ List.getD [false, false, false, false, false, false, true, true, true, true, true, true, true, true, true, true, true, true] (6 + Int.toNat x0.1 * 2 + 1) false = true then
        Option.bind (jfl x0.1 (List.getD [(0 : Int), 0, 0, 0, 0, 0, r0.2.2.2.2.2.2.1, r0.2.2.2.2.2.2.2.1, r0.2.2.2.2.2.2.2.2.1, r0.2.2.2.2.2.2.2.2.2.1, r0.2.2.2.2.2.2.2.2.2.2.1, r0.2.2.2.2.2.2.2.2.2.2.2.1, r0.2.2.2.2.2.2.2.2.2.2.2.2.1, r0.2.2.2.2.2.2.2.2.2.2.2.2.2.1, r0.2.2.2.2.2.2.2.2.2.2.2.2.2.2.1, r0.2.2.2.2.2.2.2.2.2.2.2.2.2.2.2.1, r0.2.2.2.2.2.2.2.2.2.2.2.2.2.2.2.2.1, r0.2.2.2.2.2.2.2.2.2.2.2.2.2.2.2.2.2.1] (6 + Int.toNat x0.1 * 2) (0 : Int)) (List.getD [(0 : Int), 0, 0, 0, 0, 0, r0.2.2.2.2.2.2.1, r0.2.2.2.2.2.2.2.1, r0.2.2.2.2.2.2.2.2.1, r0.2.2.2.2.2.2.2.2.2.1, r0.2.2.2.2.2.2.2.2.2.2.1, r0.2.2.2.2.2.2.2.2.2.2.2.1, r0.2.2.2.2.2.2.2.2.2.2.2.2.1, r0.2.2.2.2.2.2.2.2.2.2.2.2.2.1, r0.2.2.2.2.2.2.2.2.2.2.2.2.2.2.1, r0.2.2.2.2.2.2.2.2.2.2.2.2.2.2.2.1, r0.2.2.2.2.2.2.2.2.2.2.2.2.2.2.2.2.1, r0.2.2.2.2.2.2.2.2.2.2.2.2.2.2.2.2.2.1] (6 + Int.toNat x0.1 * 2 + 1) (0 : Int)) (List.getD [(0 : Int), 0, 0, 0, 0, 0, r1.2.2.2.2.2.2.1, r1.2.2.2.2.2.2.2.1, r1.2.2.2.2.2.2.2.2.1, r1.2.2.2.2.2.2.2.2.2.1, r1.2.2.2.2.2.2.2.2.2.2.1, r1.2.2.2.2.2.2.2.2.2.2.2.1, r1.2.2.2.2.2.2.2.2.2.2.2.2.1, r1.2.2.2.2.2.2.2.2.2.2.2.2.2.1, r1.2.2.2.2.2.2.2.2.2.2.2.2.2.2.1, r1.2.2.2.2.2.2.2.2.2.2.2.2.2.2.2.1, r1.2.2.2.2.2.2.2.2.2.2.2.2.2.2.2.2.1, r1.2.2.2.2.2.2.2.2.2.2.2.2.2.2.2.2.2.1] (6 + Int.toNat x0.1 * 2) (0 : Int)) (List.getD [(0 : Int), 0, 0, 0, 0, 0, r1.2.2.2.2.2.2.1, r1.2.2.2.2.2.2.2.1, r1.2.2.2.2.2.2.2.2.1, r1.2.2.2.2.2.2.2.2.2.1, r1.2.2.2.2.2.2.2.2.2.2.1, r1.2.2.2.2.2.2.2.2.2.2.2.1, r1.2.2.2.2.2.2.2.2.2.2.2.2.1, r1.2.2.2.2.2.2.2.2.2.2.2.2.2.1, r1.2.2.2.2.2.2.2.2.2.2.2.2.2.2.1, r1.2.2.2.2.2.2.2.2.2.2.2.2.2.2.2.1, r1.2.2.2.2.2.2.2.2.2.2.2.2.2.2.2.2.1, r1.2.2.2.2.2.2.2.2.2.2.2.2.2.2.2.2.2.1] (6 + Int.toNat x0.1 * 2 + 1) (0 : Int))) fun r3 =>
        if 0 ≤ x0.1 ∧ x0.1 < (↑(6 : Nat) : Int) then
        if List.getD [true, true, true, true, true, true] (0 + Int.toNat x0.1 * 1) false = true then
         some (.inl ((wrap .i64 (x0.1 + 1), bif Nat.beq (0 + Int.toNat x0.1 * 1) 0 then r3 else bif Nat.beq (0 + Int.toNat x0.1 * 1) 0 then (1 : Int) else x0.2.1, bif Nat.beq (0 + Int.toNat x0.1 * 1) 1 then r3 else bif Nat.beq (0 + Int.toNat x0.1 * 1) 1 then (1 : Int) else x0.2.2.1, bif Nat.beq (0 + Int.toNat x0.1 * 1) 2 then r3 else bif Nat.beq (0 + Int.toNat x0.1 * 1) 2 then (1 : Int) else x0.2.2.2.1, bif Nat.beq (0 + Int.toNat x0.1 * 1) 3 then r3 else bif Nat.beq (0 + Int.toNat x0.1 * 1) 3 then (1 : Int) else x0.2.2.2.2.1, bif Nat.beq (0 + Int.toNat x0.1 * 1) 4 then r3 else bif Nat.beq (0 + Int.toNat x0.1 * 1) 4 then (1 : Int) else x0.2.2.2.2.2.1, bif Nat.beq (0 + Int.toNat x0.1 * 1) 5 then r3 else bif Nat.beq (0 + Int.toNat x0.1 * 1) 5 then (1 : Int) else x0.2.2.2.2.2.2)))
        else none
        else none
       else none
       else none
      else none
      else none
     else
      some (.inl ((wrap .i64 (x0.1 + 1), bif Nat.beq (0 + Int.toNat x0.1 * 1) 0 then (1 : Int) else x0.2.1, bif Nat.beq (0 + Int.toNat x0.1 * 1) 1 then (1 : Int) else x0.2.2.1, bif Nat.beq (0 + Int.toNat x0.1 * 1) 2 then (1 : Int) else x0.2.2.2.1, bif Nat.beq (0 + Int.toNat x0.1 * 1) 3 then (1 : Int) else x0.2.2.2.2.1, bif Nat.beq (0 + Int.toNat x0.1 * 1) 4 then (1 : Int) else x0.2.2.2.2.2.1, bif Nat.beq (0 + Int.toNat x0.1 * 1) 5 then (1 : Int) else x0.2.2.2.2.2.2)))
     else none
    else none
    else
    some (.inl ((wrap .i64 (x0.1 + 1), bif Nat.beq (0 + Int.toNat x0.1 * 1) 0 then (1 : Int) else x0.2.1, bif Nat.beq (0 + Int.toNat x0.1 * 1) 1 then (1 : Int) else x0.2.2.1, bif Nat.beq (0 + Int.toNat x0.1 * 1) 2 then (1 : Int) else x0.2.2.2.1, bif Nat.beq (0 + Int.toNat x0.1 * 1) 3 then (1 : Int) else x0.2.2.2.2.1, bif Nat.beq (0 + Int.toNat x0.1 * 1) 4 then (1 : Int) else x0.2.2.2.2.2.1, bif Nat.beq (0 + Int.toNat x0.1 * 1) 5 then (1 : Int) else x0.2.2.2.2.2.2)))
   else none
   else none
  else none
  else none
 else
  some (.inr (x0.2.1, x0.2.2.1, x0.2.2.2.1, x0.2.2.2.2.1, x0.2.2.2.2.2.1, x0.2.2.2.2.2.2))
def y68 (u15 : Int × Int × Int × Int × Int × Int) : Option (Int × Int × Int × Int × Int × Int × Int) :=
 some ((u15.1, u15.2.1, u15.2.2.1, u15.2.2.2.1, u15.2.2.2.2.1, u15.2.2.2.2.2, 0))
def y25 (u4 : Int) (u0 : List Nat) (u6 : Int) (u5 : Int) (u36 : Int) (u37 : List Nat) (u38 : Int) (u39 : Int) : Option (Int × Int × Int × Int × Int × Int × Int) :=
 Option.bind (y3 u4 u0 u6 u5) fun r0 =>
 Option.bind (y3 u36 u37 u38 u39) fun r1 =>
 Option.bind (y30 [r0.2.2.2.2.2.2.2.2.2.2.2.2.2.2.2.2.2.2, r1.2.2.2.2.2.2.2.2.2.2.2.2.2.2.2.2.2.2]) fun r2 =>
 if (r2 != 0) = true then
  some ((0, 0, 0, 0, 0, 0, r2))
 else
  Option.bind (jae (y67 r0 r1) big (((0 : Int), 0, 0, 0, 0, 0, 0))) (y68)
def jf2 : List Lf → Option GT
 | [.d (.i .i64 u4), .r (.floats .f32 u0), .d (.i .i64 u6), .d (.i .i64 u5), .d (.i .i64 u36), .r (.floats .f32 u37), .d (.i .i64 u38), .d (.i .i64 u39)] => some (.leaf (ok (y25 u4 u0 u6 u5 u36 u37 u38 u39)) [.s [.d (.i .i64 ((val (y25 u4 u0 u6 u5 u36 u37 u38 u39)).1)), .d (.i .i64 ((val (y25 u4 u0 u6 u5 u36 u37 u38 u39)).2.1)), .d (.i .i64 ((val (y25 u4 u0 u6 u5 u36 u37 u38 u39)).2.2.1)), .d (.i .i64 ((val (y25 u4 u0 u6 u5 u36 u37 u38 u39)).2.2.2.1)), .d (.i .i64 ((val (y25 u4 u0 u6 u5 u36 u37 u38 u39)).2.2.2.2.1)), .d (.i .i64 ((val (y25 u4 u0 u6 u5 u36 u37 u38 u39)).2.2.2.2.2.1))], .c (.d (.i .i64 ((val (y25 u4 u0 u6 u5 u36 u37 u38 u39)).2.2.2.2.2.2)))])
 | _ => none
abbrev sp_58 : jab → jab := jav 58 true (jal jf1 jf2)
private abbrev v29q0 (u4 : Int) (u0 : List Nat) (u6 : Int) (u5 : Int) (v0 : (Int × Int × Int × Int × Int × Int × Int) × Nat) := (List.getD [(0 : Int), 0, 0, 0, 0, 0, (val (y3 u4 u0 u6 u5)).2.2.2.2.2.2.1, (val (y3 u4 u0 u6 u5)).2.2.2.2.2.2.2.1, (val (y3 u4 u0 u6 u5)).2.2.2.2.2.2.2.2.1, (val (y3 u4 u0 u6 u5)).2.2.2.2.2.2.2.2.2.1, (val (y3 u4 u0 u6 u5)).2.2.2.2.2.2.2.2.2.2.1, (val (y3 u4 u0 u6 u5)).2.2.2.2.2.2.2.2.2.2.2.1, (val (y3 u4 u0 u6 u5)).2.2.2.2.2.2.2.2.2.2.2.2.1, (val (y3 u4 u0 u6 u5)).2.2.2.2.2.2.2.2.2.2.2.2.2.1, (val (y3 u4 u0 u6 u5)).2.2.2.2.2.2.2.2.2.2.2.2.2.2.1, (val (y3 u4 u0 u6 u5)).2.2.2.2.2.2.2.2.2.2.2.2.2.2.2.1, (val (y3 u4 u0 u6 u5)).2.2.2.2.2.2.2.2.2.2.2.2.2.2.2.2.1, (val (y3 u4 u0 u6 u5)).2.2.2.2.2.2.2.2.2.2.2.2.2.2.2.2.2.1] (6 + Int.toNat v0.1.1 * 2 + 1) (0 : Int))
private abbrev v29q1 (u36 : Int) (u37 : List Nat) (u38 : Int) (u39 : Int) (v0 : (Int × Int × Int × Int × Int × Int × Int) × Nat) := (List.getD [(0 : Int), 0, 0, 0, 0, 0, (val (y3 u36 u37 u38 u39)).2.2.2.2.2.2.1, (val (y3 u36 u37 u38 u39)).2.2.2.2.2.2.2.1, (val (y3 u36 u37 u38 u39)).2.2.2.2.2.2.2.2.1, (val (y3 u36 u37 u38 u39)).2.2.2.2.2.2.2.2.2.1, (val (y3 u36 u37 u38 u39)).2.2.2.2.2.2.2.2.2.2.1, (val (y3 u36 u37 u38 u39)).2.2.2.2.2.2.2.2.2.2.2.1, (val (y3 u36 u37 u38 u39)).2.2.2.2.2.2.2.2.2.2.2.2.1, (val (y3 u36 u37 u38 u39)).2.2.2.2.2.2.2.2.2.2.2.2.2.1, (val (y3 u36 u37 u38 u39)).2.2.2.2.2.2.2.2.2.2.2.2.2.2.1, (val (y3 u36 u37 u38 u39)).2.2.2.2.2.2.2.2.2.2.2.2.2.2.2.1, (val (y3 u36 u37 u38 u39)).2.2.2.2.2.2.2.2.2.2.2.2.2.2.2.2.1, (val (y3 u36 u37 u38 u39)).2.2.2.2.2.2.2.2.2.2.2.2.2.2.2.2.2.1] (6 + Int.toNat v0.1.1 * 2 + 1) (0 : Int))
abbrev jik (u4 : Int) (u0 : List Nat) (u6 : Int) (u5 : Int) (u36 : Int) (u37 : List Nat) (u38 : Int) (u39 : Int) (v0 : (Int × Int × Int × Int × Int × Int × Int) × Nat) := (jfl v0.1.1 (List.getD [(0 : Int), 0, 0, 0, 0, 0, (val (y3 u4 u0 u6 u5)).2.2.2.2.2.2.1, (val (y3 u4 u0 u6 u5)).2.2.2.2.2.2.2.1, (val (y3 u4 u0 u6 u5)).2.2.2.2.2.2.2.2.1, (val (y3 u4 u0 u6 u5)).2.2.2.2.2.2.2.2.2.1, (val (y3 u4 u0 u6 u5)).2.2.2.2.2.2.2.2.2.2.1, (val (y3 u4 u0 u6 u5)).2.2.2.2.2.2.2.2.2.2.2.1, (val (y3 u4 u0 u6 u5)).2.2.2.2.2.2.2.2.2.2.2.2.1, (val (y3 u4 u0 u6 u5)).2.2.2.2.2.2.2.2.2.2.2.2.2.1, (val (y3 u4 u0 u6 u5)).2.2.2.2.2.2.2.2.2.2.2.2.2.2.1, (val (y3 u4 u0 u6 u5)).2.2.2.2.2.2.2.2.2.2.2.2.2.2.2.1, (val (y3 u4 u0 u6 u5)).2.2.2.2.2.2.2.2.2.2.2.2.2.2.2.2.1, (val (y3 u4 u0 u6 u5)).2.2.2.2.2.2.2.2.2.2.2.2.2.2.2.2.2.1] (6 + Int.toNat v0.1.1 * 2) (0 : Int)) (v29q0 u4 u0 u6 u5 v0) (List.getD [(0 : Int), 0, 0, 0, 0, 0, (val (y3 u36 u37 u38 u39)).2.2.2.2.2.2.1, (val (y3 u36 u37 u38 u39)).2.2.2.2.2.2.2.1, (val (y3 u36 u37 u38 u39)).2.2.2.2.2.2.2.2.1, (val (y3 u36 u37 u38 u39)).2.2.2.2.2.2.2.2.2.1, (val (y3 u36 u37 u38 u39)).2.2.2.2.2.2.2.2.2.2.1, (val (y3 u36 u37 u38 u39)).2.2.2.2.2.2.2.2.2.2.2.1, (val (y3 u36 u37 u38 u39)).2.2.2.2.2.2.2.2.2.2.2.2.1, (val (y3 u36 u37 u38 u39)).2.2.2.2.2.2.2.2.2.2.2.2.2.1, (val (y3 u36 u37 u38 u39)).2.2.2.2.2.2.2.2.2.2.2.2.2.2.1, (val (y3 u36 u37 u38 u39)).2.2.2.2.2.2.2.2.2.2.2.2.2.2.2.1, (val (y3 u36 u37 u38 u39)).2.2.2.2.2.2.2.2.2.2.2.2.2.2.2.2.1, (val (y3 u36 u37 u38 u39)).2.2.2.2.2.2.2.2.2.2.2.2.2.2.2.2.2.1] (6 + Int.toNat v0.1.1 * 2) (0 : Int)) (v29q1 u36 u37 u38 u39 v0))
abbrev jaP (u4 : Int) (u0 : List Nat) (u6 : Int) (u5 : Int) := (val (y3 u4 u0 u6 u5))
abbrev jaQ (u36 : Int) (u37 : List Nat) (u38 : Int) (u39 : Int) := (val (y3 u36 u37 u38 u39))
abbrev jbn (v0 : (Int × Int × Int × Int × Int × Int × Int) × Nat) := (0 + Int.toNat v0.1.1 * 1)
abbrev jxq (v0 : (Int × Int × Int × Int × Int × Int × Int) × Nat) := (List.getD [false, false, false, false, false, false, true, true, true, true, true, true, true, true, true, true, true, true] (6 + Int.toNat v0.1.1 * 2) false = true ∧ List.getD [false, false, false, false, false, false, true, true, true, true, true, true, true, true, true, true, true, true] (6 + Int.toNat v0.1.1 * 2 + 1) false = true)
private abbrev v29q7 (u4 : Int) (u0 : List Nat) (u6 : Int) (u5 : Int) := ((jaP u4 u0 u6 u5).2.2.2.2.2.2.2.2.2.2.2.2.2.2.2.2.2.1 = (jaP u4 u0 u6 u5).2.2.2.2.2.2.2.2.2.2.2.2.2.2.2.2.2.1)
private abbrev v29q8 (u36 : Int) (u37 : List Nat) (u38 : Int) (u39 : Int) := ((jaQ u36 u37 u38 u39).2.2.2.2.2.2.2.2.2.2.2.2.2.2.2.2.2.1 = (jaQ u36 u37 u38 u39).2.2.2.2.2.2.2.2.2.2.2.2.2.2.2.2.2.1)
private abbrev v29q9 (u4 : Int) (u0 : List Nat) (u6 : Int) (u5 : Int) := ((jaP u4 u0 u6 u5).2.2.2.2.2.2.2.2.2.2.2.2.2.2.2.2.1 = (jaP u4 u0 u6 u5).2.2.2.2.2.2.2.2.2.2.2.2.2.2.2.2.1)
abbrev jyl (u36 : Int) (u37 : List Nat) (u38 : Int) (u39 : Int) := ((jaQ u36 u37 u38 u39).2.2.2.2.2.2.2.2.2.2.2.2.2.2.2.2.1 = (jaQ u36 u37 u38 u39).2.2.2.2.2.2.2.2.2.2.2.2.2.2.2.2.1)
abbrev jym (u4 : Int) (u0 : List Nat) (u6 : Int) (u5 : Int) := ((jaP u4 u0 u6 u5).2.2.2.2.2.2.2.2.2.2.2.2.2.2.2.1 = (jaP u4 u0 u6 u5).2.2.2.2.2.2.2.2.2.2.2.2.2.2.2.1)
abbrev jyn (u36 : Int) (u37 : List Nat) (u38 : Int) (u39 : Int) := ((jaQ u36 u37 u38 u39).2.2.2.2.2.2.2.2.2.2.2.2.2.2.2.1 = (jaQ u36 u37 u38 u39).2.2.2.2.2.2.2.2.2.2.2.2.2.2.2.1)
abbrev jyo (u4 : Int) (u0 : List Nat) (u6 : Int) (u5 : Int) := ((jaP u4 u0 u6 u5).2.2.2.2.2.2.2.2.2.2.2.2.2.2.1 = (jaP u4 u0 u6 u5).2.2.2.2.2.2.2.2.2.2.2.2.2.2.1)
abbrev jyp (u36 : Int) (u37 : List Nat) (u38 : Int) (u39 : Int) := ((jaQ u36 u37 u38 u39).2.2.2.2.2.2.2.2.2.2.2.2.2.2.1 = (jaQ u36 u37 u38 u39).2.2.2.2.2.2.2.2.2.2.2.2.2.2.1)
abbrev jyq (u4 : Int) (u0 : List Nat) (u6 : Int) (u5 : Int) := ((jaP u4 u0 u6 u5).2.2.2.2.2.2.2.2.2.2.2.2.2.1 = (jaP u4 u0 u6 u5).2.2.2.2.2.2.2.2.2.2.2.2.2.1)
abbrev jyr (u36 : Int) (u37 : List Nat) (u38 : Int) (u39 : Int) := ((jaQ u36 u37 u38 u39).2.2.2.2.2.2.2.2.2.2.2.2.2.1 = (jaQ u36 u37 u38 u39).2.2.2.2.2.2.2.2.2.2.2.2.2.1)
abbrev jys (u4 : Int) (u0 : List Nat) (u6 : Int) (u5 : Int) := ((jaP u4 u0 u6 u5).2.2.2.2.2.2.2.2.2.2.2.2.1 = (jaP u4 u0 u6 u5).2.2.2.2.2.2.2.2.2.2.2.2.1)
abbrev jyt (u36 : Int) (u37 : List Nat) (u38 : Int) (u39 : Int) := ((jaQ u36 u37 u38 u39).2.2.2.2.2.2.2.2.2.2.2.2.1 = (jaQ u36 u37 u38 u39).2.2.2.2.2.2.2.2.2.2.2.2.1)
private abbrev zrh0 (u4 : Int) (u0 : List Nat) (u6 : Int) (u5 : Int) (u36 : Int) (u37 : List Nat) (u38 : Int) (u39 : Int) (k : Prop) : Prop :=
 (Ob ((0 : Int) = (0 : Int)) ∧
 (Ob ((0 : Int) = (0 : Int)) ∧
 (Ob ((0 : Int) = (0 : Int)) ∧
 (Ob ((0 : Int) = (0 : Int)) ∧
 (Ob ((0 : Int) = (0 : Int)) ∧
 (Ob ((0 : Int) = (0 : Int)) ∧
 (Ob ((jaP u4 u0 u6 u5).1 = (jaP u4 u0 u6 u5).1) ∧
 (Ob ((jaP u4 u0 u6 u5).2.1 = (jaP u4 u0 u6 u5).2.1) ∧
 (Ob ((jaP u4 u0 u6 u5).2.2.1 = (jaP u4 u0 u6 u5).2.2.1) ∧
 (Ob ((jaP u4 u0 u6 u5).2.2.2.1 = (jaP u4 u0 u6 u5).2.2.2.1) ∧
 (Ob ((jaP u4 u0 u6 u5).2.2.2.2.1 = (jaP u4 u0 u6 u5).2.2.2.2.1) ∧
 (Ob ((jaP u4 u0 u6 u5).2.2.2.2.2.1 = (jaP u4 u0 u6 u5).2.2.2.2.2.1) ∧
 (Ob ((jaP u4 u0 u6 u5).2.2.2.2.2.2.1 = (jaP u4 u0 u6 u5).2.2.2.2.2.2.1) ∧
 (Ob ((jaP u4 u0 u6 u5).2.2.2.2.2.2.2.1 = (jaP u4 u0 u6 u5).2.2.2.2.2.2.2.1) ∧
 (Ob ((jaP u4 u0 u6 u5).2.2.2.2.2.2.2.2.1 = (jaP u4 u0 u6 u5).2.2.2.2.2.2.2.2.1) ∧
 (Ob ((jaP u4 u0 u6 u5).2.2.2.2.2.2.2.2.2.1 = (jaP u4 u0 u6 u5).2.2.2.2.2.2.2.2.2.1) ∧
 (Ob ((jaP u4 u0 u6 u5).2.2.2.2.2.2.2.2.2.2.1 = (jaP u4 u0 u6 u5).2.2.2.2.2.2.2.2.2.2.1) ∧
 (Ob ((jaP u4 u0 u6 u5).2.2.2.2.2.2.2.2.2.2.2.1 = (jaP u4 u0 u6 u5).2.2.2.2.2.2.2.2.2.2.2.1) ∧
 (Ob (jys u4 u0 u6 u5) ∧
 (Ob (jyq u4 u0 u6 u5) ∧
 (Ob (jyo u4 u0 u6 u5) ∧
 (Ob (jym u4 u0 u6 u5) ∧
 (Ob (v29q9 u4 u0 u6 u5) ∧
 (Ob (v29q7 u4 u0 u6 u5) ∧
 (Ob ((jaQ u36 u37 u38 u39).1 = (jaQ u36 u37 u38 u39).1) ∧
 (Ob ((jaQ u36 u37 u38 u39).2.1 = (jaQ u36 u37 u38 u39).2.1) ∧
 (Ob ((jaQ u36 u37 u38 u39).2.2.1 = (jaQ u36 u37 u38 u39).2.2.1) ∧
 (Ob ((jaQ u36 u37 u38 u39).2.2.2.1 = (jaQ u36 u37 u38 u39).2.2.2.1) ∧
 (Ob ((jaQ u36 u37 u38 u39).2.2.2.2.1 = (jaQ u36 u37 u38 u39).2.2.2.2.1) ∧
 (Ob ((jaQ u36 u37 u38 u39).2.2.2.2.2.1 = (jaQ u36 u37 u38 u39).2.2.2.2.2.1) ∧
 (Ob ((jaQ u36 u37 u38 u39).2.2.2.2.2.2.1 = (jaQ u36 u37 u38 u39).2.2.2.2.2.2.1) ∧
 (Ob ((jaQ u36 u37 u38 u39).2.2.2.2.2.2.2.1 = (jaQ u36 u37 u38 u39).2.2.2.2.2.2.2.1) ∧
 (Ob ((jaQ u36 u37 u38 u39).2.2.2.2.2.2.2.2.1 = (jaQ u36 u37 u38 u39).2.2.2.2.2.2.2.2.1) ∧
 (Ob ((jaQ u36 u37 u38 u39).2.2.2.2.2.2.2.2.2.1 = (jaQ u36 u37 u38 u39).2.2.2.2.2.2.2.2.2.1) ∧
 (Ob ((jaQ u36 u37 u38 u39).2.2.2.2.2.2.2.2.2.2.1 = (jaQ u36 u37 u38 u39).2.2.2.2.2.2.2.2.2.2.1) ∧
 (Ob ((jaQ u36 u37 u38 u39).2.2.2.2.2.2.2.2.2.2.2.1 = (jaQ u36 u37 u38 u39).2.2.2.2.2.2.2.2.2.2.2.1) ∧
 (Ob (jyt u36 u37 u38 u39) ∧
 (Ob (jyr u36 u37 u38 u39) ∧
 (Ob (jyp u36 u37 u38 u39) ∧
 (Ob (jyn u36 u37 u38 u39) ∧
 (Ob (jyl u36 u37 u38 u39) ∧
 (Ob (v29q8 u36 u37 u38 u39) ∧
 k))))))))))))))))))))))))))))))))))))))))))
theorem jpE (u4 : Int) (u0 : List Nat) (u6 : Int) (u5 : Int) (u36 : Int) (u37 : List Nat) (u38 : Int) (u39 : Int) (r : Int × Int × Int × Int × Int × Int × Int) (h : Option.bind (y25 u4 u0 u6 u5 u36 u37 u38 u39) some = some r) : ja0 Tryz.f58 ((sp_60 (sp_76 (sp_100 sp0)))) (fun gs id _ => match id with
 | 0 => some ⟨(Int × Int × Int × Int × Int × Int × Int) × Nat, fun z => ⟨[(4, .w (.c (.p 2 0 1 0))), (6, .w (.c (.p 3 0 1 0))), (8, .w (.c (.p 4 0 1 0))), (10, .w (.c (.p 5 0 1 0))), (30, .w (.c (.d (.i .i64 (Prod.fst (Prod.fst z))))))], [(2, .box 87 [.d (.i .i64 0), .d (.i .i64 0), .d (.i .i64 0), .d (.i .i64 0), .d (.i .i64 0), .d (.i .i64 0)]), (3, .box 95 [.d (.b ((val (y3 u4 u0 u6 u5)).1)), .d (.b ((val (y3 u4 u0 u6 u5)).2.1)), .d (.b ((val (y3 u4 u0 u6 u5)).2.2.1)), .d (.b ((val (y3 u4 u0 u6 u5)).2.2.2.1)), .d (.b ((val (y3 u4 u0 u6 u5)).2.2.2.2.1)), .d (.b ((val (y3 u4 u0 u6 u5)).2.2.2.2.2.1)), .d (.i .i64 ((val (y3 u4 u0 u6 u5)).2.2.2.2.2.2.1)), .d (.i .i64 ((val (y3 u4 u0 u6 u5)).2.2.2.2.2.2.2.1)), .d (.i .i64 ((val (y3 u4 u0 u6 u5)).2.2.2.2.2.2.2.2.1)), .d (.i .i64 ((val (y3 u4 u0 u6 u5)).2.2.2.2.2.2.2.2.2.1)), .d (.i .i64 ((val (y3 u4 u0 u6 u5)).2.2.2.2.2.2.2.2.2.2.1)), .d (.i .i64 ((val (y3 u4 u0 u6 u5)).2.2.2.2.2.2.2.2.2.2.2.1)), .d (.i .i64 ((val (y3 u4 u0 u6 u5)).2.2.2.2.2.2.2.2.2.2.2.2.1)), .d (.i .i64 ((val (y3 u4 u0 u6 u5)).2.2.2.2.2.2.2.2.2.2.2.2.2.1)), .d (.i .i64 ((val (y3 u4 u0 u6 u5)).2.2.2.2.2.2.2.2.2.2.2.2.2.2.1)), .d (.i .i64 ((val (y3 u4 u0 u6 u5)).2.2.2.2.2.2.2.2.2.2.2.2.2.2.2.1)), .d (.i .i64 ((val (y3 u4 u0 u6 u5)).2.2.2.2.2.2.2.2.2.2.2.2.2.2.2.2.1)), .d (.i .i64 ((val (y3 u4 u0 u6 u5)).2.2.2.2.2.2.2.2.2.2.2.2.2.2.2.2.2.1))]), (4, .box 95 [.d (.b ((val (y3 u36 u37 u38 u39)).1)), .d (.b ((val (y3 u36 u37 u38 u39)).2.1)), .d (.b ((val (y3 u36 u37 u38 u39)).2.2.1)), .d (.b ((val (y3 u36 u37 u38 u39)).2.2.2.1)), .d (.b ((val (y3 u36 u37 u38 u39)).2.2.2.2.1)), .d (.b ((val (y3 u36 u37 u38 u39)).2.2.2.2.2.1)), .d (.i .i64 ((val (y3 u36 u37 u38 u39)).2.2.2.2.2.2.1)), .d (.i .i64 ((val (y3 u36 u37 u38 u39)).2.2.2.2.2.2.2.1)), .d (.i .i64 ((val (y3 u36 u37 u38 u39)).2.2.2.2.2.2.2.2.1)), .d (.i .i64 ((val (y3 u36 u37 u38 u39)).2.2.2.2.2.2.2.2.2.1)), .d (.i .i64 ((val (y3 u36 u37 u38 u39)).2.2.2.2.2.2.2.2.2.2.1)), .d (.i .i64 ((val (y3 u36 u37 u38 u39)).2.2.2.2.2.2.2.2.2.2.2.1)), .d (.i .i64 ((val (y3 u36 u37 u38 u39)).2.2.2.2.2.2.2.2.2.2.2.2.1)), .d (.i .i64 ((val (y3 u36 u37 u38 u39)).2.2.2.2.2.2.2.2.2.2.2.2.2.1)), .d (.i .i64 ((val (y3 u36 u37 u38 u39)).2.2.2.2.2.2.2.2.2.2.2.2.2.2.1)), .d (.i .i64 ((val (y3 u36 u37 u38 u39)).2.2.2.2.2.2.2.2.2.2.2.2.2.2.2.1)), .d (.i .i64 ((val (y3 u36 u37 u38 u39)).2.2.2.2.2.2.2.2.2.2.2.2.2.2.2.2.1)), .d (.i .i64 ((val (y3 u36 u37 u38 u39)).2.2.2.2.2.2.2.2.2.2.2.2.2.2.2.2.2.1))]), (5, .box 87 [.d (.i .i64 (Prod.fst (Prod.snd (Prod.fst z)))), .d (.i .i64 (Prod.fst (Prod.snd (Prod.snd (Prod.fst z))))), .d (.i .i64 (Prod.fst (Prod.snd (Prod.snd (Prod.snd (Prod.fst z)))))), .d (.i .i64 (Prod.fst (Prod.snd (Prod.snd (Prod.snd (Prod.snd (Prod.fst z))))))), .d (.i .i64 (Prod.fst (Prod.snd (Prod.snd (Prod.snd (Prod.snd (Prod.snd (Prod.fst z)))))))), .d (.i .i64 (Prod.snd (Prod.snd (Prod.snd (Prod.snd (Prod.snd (Prod.snd (Prod.fst z))))))))])], 6⟩, fun z => Option.bind (jae (y67 (val (y3 u4 u0 u6 u5)) (val (y3 u36 u37 u38 u39))) (Prod.snd z) (Prod.fst z)) (fun y0 => Option.bind (y68 y0) some) = some r, fun z => Prod.snd z⟩
 | _ => none) (jaO jf1 [.d (.i .i64 u4), .r (.floats .f32 u0), .d (.i .i64 u6), .d (.i .i64 u5), .d (.i .i64 u36), .r (.floats .f32 u37), .d (.i .i64 u38), .d (.i .i64 u39)]) [.s [.d (.i .i64 r.1), .d (.i .i64 r.2.1), .d (.i .i64 r.2.2.1), .d (.i .i64 r.2.2.2.1), .d (.i .i64 r.2.2.2.2.1), .d (.i .i64 r.2.2.2.2.2.1)], .c (.d (.i .i64 r.2.2.2.2.2.2))] := by
 refine Eq.mp (by kernel_rfl : (
 (Ob (ok (y3 u4 u0 u6 u5)) ∧
 (Ob (ok (y3 u36 u37 u38 u39)) ∧
 (Ob (ok (y30 [(jaP u4 u0 u6 u5).2.2.2.2.2.2.2.2.2.2.2.2.2.2.2.2.2.2, (jaQ u36 u37 u38 u39).2.2.2.2.2.2.2.2.2.2.2.2.2.2.2.2.2.2])) ∧
 Br (val (y30 [(jaP u4 u0 u6 u5).2.2.2.2.2.2.2.2.2.2.2.2.2.2.2.2.2.2, (jaQ u36 u37 u38 u39).2.2.2.2.2.2.2.2.2.2.2.2.2.2.2.2.2.2]) != 0)
  ((Ob True ∧
 (Ob True ∧
 (Ob ((0 : Int) = r.1) ∧
 (Ob ((0 : Int) = r.2.1) ∧
 (Ob ((0 : Int) = r.2.2.1) ∧
 (Ob ((0 : Int) = r.2.2.2.1) ∧
 (Ob ((0 : Int) = r.2.2.2.2.1) ∧
 (Ob ((0 : Int) = r.2.2.2.2.2.1) ∧
 (Ob (val (y30 [(jaP u4 u0 u6 u5).2.2.2.2.2.2.2.2.2.2.2.2.2.2.2.2.2.2, (jaQ u36 u37 u38 u39).2.2.2.2.2.2.2.2.2.2.2.2.2.2.2.2.2.2]) = r.2.2.2.2.2.2) ∧
 True))))))))))
  (((∃ (v0 : (Int × Int × Int × Int × Int × Int × Int) × Nat), (Ob ((Option.bind (jae (y67 (jaP u4 u0 u6 u5) (jaQ u36 u37 u38 u39)) v0.2 v0.1) fun y0 => Option.bind (y68 y0) some) = some r) ∧
 (Ob (0 = 0) ∧
 (Ob (0 = 0) ∧
 (Ob (0 = 0) ∧
 (Ob (0 = 0) ∧
 (Ob ((0 : Int) = v0.1.1) ∧
  (zrh0 u4 u0 u6 u5 u36 u37 u38 u39 (
 (Ob ((0 : Int) = v0.1.2.1) ∧
 (Ob ((0 : Int) = v0.1.2.2.1) ∧
 (Ob ((0 : Int) = v0.1.2.2.2.1) ∧
 (Ob ((0 : Int) = v0.1.2.2.2.2.1) ∧
 (Ob ((0 : Int) = v0.1.2.2.2.2.2.1) ∧
 (Ob ((0 : Int) = v0.1.2.2.2.2.2.2) ∧
 True))))))))))))))) ∧
  (∀ (v0 : (Int × Int × Int × Int × Int × Int × Int) × Nat), ((Option.bind (jae (y67 (jaP u4 u0 u6 u5) (jaQ u36 u37 u38 u39)) v0.2 v0.1) fun y0 => Option.bind (y68 y0) some) = some r →
 Br (decide (v0.1.1 < 6))
  ((Ob (0 ≤ v0.1.1 ∧ v0.1.1 < (↑(6 : Nat) : Int)) ∧
 (Ob (List.getD [true, true, true, true, true, true] (jbn v0) false = true) ∧
 (Ob (0 ≤ v0.1.1 ∧ v0.1.1 < (↑(6 : Nat) : Int)) ∧
 (Ob (List.getD [true, true, true, true, true, true, false, false, false, false, false, false, false, false, false, false, false, false] (jbn v0) false = true) ∧
 Br (List.getD [(jaP u4 u0 u6 u5).1, (jaP u4 u0 u6 u5).2.1, (jaP u4 u0 u6 u5).2.2.1, (jaP u4 u0 u6 u5).2.2.2.1, (jaP u4 u0 u6 u5).2.2.2.2.1, (jaP u4 u0 u6 u5).2.2.2.2.2.1, false, false, false, false, false, false, false, false, false, false, false, false] (jbn v0) false)
  ((Ob (0 ≤ v0.1.1 ∧ v0.1.1 < (↑(6 : Nat) : Int)) ∧
 (Ob (List.getD [true, true, true, true, true, true, false, false, false, false, false, false, false, false, false, false, false, false] (jbn v0) false = true) ∧
 Br (List.getD [(jaQ u36 u37 u38 u39).1, (jaQ u36 u37 u38 u39).2.1, (jaQ u36 u37 u38 u39).2.2.1, (jaQ u36 u37 u38 u39).2.2.2.1, (jaQ u36 u37 u38 u39).2.2.2.2.1, (jaQ u36 u37 u38 u39).2.2.2.2.2.1, false, false, false, false, false, false, false, false, false, false, false, false] (jbn v0) false)
  ((Ob (0 ≤ v0.1.1 ∧ v0.1.1 < (↑(6 : Nat) : Int)) ∧
 (Ob (jxq v0) ∧
 (Ob (0 ≤ v0.1.1 ∧ v0.1.1 < (↑(6 : Nat) : Int)) ∧
 (Ob (jxq v0) ∧
 (Ob (ok (jik u4 u0 u6 u5 u36 u37 u38 u39 v0)) ∧
 (Ob (0 ≤ v0.1.1 ∧ v0.1.1 < (↑(6 : Nat) : Int)) ∧
 (Ob (List.getD [true, true, true, true, true, true] (jbn v0) false = true) ∧
  (∃ (v1 : (Int × Int × Int × Int × Int × Int × Int) × Nat), (Ob ((Option.bind (jae (y67 (jaP u4 u0 u6 u5) (jaQ u36 u37 u38 u39)) v1.2 v1.1) fun y0 => Option.bind (y68 y0) some) = some r) ∧
 (Ob (v1.2 < v0.2) ∧
 (Ob (0 = 0) ∧
 (Ob (0 = 0) ∧
 (Ob (0 = 0) ∧
 (Ob (0 = 0) ∧
 (Ob (wrap .i64 (v0.1.1 + 1) = v1.1.1) ∧
  (zrh0 u4 u0 u6 u5 u36 u37 u38 u39 (
 (Ob ((bif Nat.beq (jbn v0) 0 then val (jik u4 u0 u6 u5 u36 u37 u38 u39 v0) else bif Nat.beq (jbn v0) 0 then (1 : Int) else v0.1.2.1) = v1.1.2.1) ∧
 (Ob ((bif Nat.beq (jbn v0) 1 then val (jik u4 u0 u6 u5 u36 u37 u38 u39 v0) else bif Nat.beq (jbn v0) 1 then (1 : Int) else v0.1.2.2.1) = v1.1.2.2.1) ∧
 (Ob ((bif Nat.beq (jbn v0) 2 then val (jik u4 u0 u6 u5 u36 u37 u38 u39 v0) else bif Nat.beq (jbn v0) 2 then (1 : Int) else v0.1.2.2.2.1) = v1.1.2.2.2.1) ∧
 (Ob ((bif Nat.beq (jbn v0) 3 then val (jik u4 u0 u6 u5 u36 u37 u38 u39 v0) else bif Nat.beq (jbn v0) 3 then (1 : Int) else v0.1.2.2.2.2.1) = v1.1.2.2.2.2.1) ∧
 (Ob ((bif Nat.beq (jbn v0) 4 then val (jik u4 u0 u6 u5 u36 u37 u38 u39 v0) else bif Nat.beq (jbn v0) 4 then (1 : Int) else v0.1.2.2.2.2.2.1) = v1.1.2.2.2.2.2.1) ∧
 (Ob ((bif Nat.beq (jbn v0) 5 then val (jik u4 u0 u6 u5 u36 u37 u38 u39 v0) else bif Nat.beq (jbn v0) 5 then (1 : Int) else v0.1.2.2.2.2.2.2) = v1.1.2.2.2.2.2.2) ∧
 True))))))))))))))))))))))))
  ((∃ (v1 : (Int × Int × Int × Int × Int × Int × Int) × Nat), (Ob ((Option.bind (jae (y67 (jaP u4 u0 u6 u5) (jaQ u36 u37 u38 u39)) v1.2 v1.1) fun y0 => Option.bind (y68 y0) some) = some r) ∧
 (Ob (v1.2 < v0.2) ∧
 (Ob (0 = 0) ∧
 (Ob (0 = 0) ∧
 (Ob (0 = 0) ∧
 (Ob (0 = 0) ∧
 (Ob (wrap .i64 (v0.1.1 + 1) = v1.1.1) ∧
  (zrh0 u4 u0 u6 u5 u36 u37 u38 u39 (
 (Ob ((bif Nat.beq (jbn v0) 0 then (1 : Int) else v0.1.2.1) = v1.1.2.1) ∧
 (Ob ((bif Nat.beq (jbn v0) 1 then (1 : Int) else v0.1.2.2.1) = v1.1.2.2.1) ∧
 (Ob ((bif Nat.beq (jbn v0) 2 then (1 : Int) else v0.1.2.2.2.1) = v1.1.2.2.2.1) ∧
 (Ob ((bif Nat.beq (jbn v0) 3 then (1 : Int) else v0.1.2.2.2.2.1) = v1.1.2.2.2.2.1) ∧
 (Ob ((bif Nat.beq (jbn v0) 4 then (1 : Int) else v0.1.2.2.2.2.2.1) = v1.1.2.2.2.2.2.1) ∧
 (Ob ((bif Nat.beq (jbn v0) 5 then (1 : Int) else v0.1.2.2.2.2.2.2) = v1.1.2.2.2.2.2.2) ∧
 True))))))))))))))))))))
  ((∃ (v1 : (Int × Int × Int × Int × Int × Int × Int) × Nat), (Ob ((Option.bind (jae (y67 (jaP u4 u0 u6 u5) (jaQ u36 u37 u38 u39)) v1.2 v1.1) fun y0 => Option.bind (y68 y0) some) = some r) ∧
 (Ob (v1.2 < v0.2) ∧
 (Ob (0 = 0) ∧
 (Ob (0 = 0) ∧
 (Ob (0 = 0) ∧
 (Ob (0 = 0) ∧
 (Ob (wrap .i64 (v0.1.1 + 1) = v1.1.1) ∧
  (zrh0 u4 u0 u6 u5 u36 u37 u38 u39 (
 (Ob ((bif Nat.beq (jbn v0) 0 then (1 : Int) else v0.1.2.1) = v1.1.2.1) ∧
 (Ob ((bif Nat.beq (jbn v0) 1 then (1 : Int) else v0.1.2.2.1) = v1.1.2.2.1) ∧
 (Ob ((bif Nat.beq (jbn v0) 2 then (1 : Int) else v0.1.2.2.2.1) = v1.1.2.2.2.1) ∧
 (Ob ((bif Nat.beq (jbn v0) 3 then (1 : Int) else v0.1.2.2.2.2.1) = v1.1.2.2.2.2.1) ∧
 (Ob ((bif Nat.beq (jbn v0) 4 then (1 : Int) else v0.1.2.2.2.2.2.1) = v1.1.2.2.2.2.2.1) ∧
 (Ob ((bif Nat.beq (jbn v0) 5 then (1 : Int) else v0.1.2.2.2.2.2.2) = v1.1.2.2.2.2.2.2) ∧
 True))))))))))))))))))))))
  ((Ob True ∧
 (Ob True ∧
 (Ob (v0.1.2.1 = r.1) ∧
 (Ob (v0.1.2.2.1 = r.2.1) ∧
 (Ob (v0.1.2.2.2.1 = r.2.2.1) ∧
 (Ob (v0.1.2.2.2.2.1 = r.2.2.2.1) ∧
 (Ob (v0.1.2.2.2.2.2.1 = r.2.2.2.2.1) ∧
 (Ob (v0.1.2.2.2.2.2.2 = r.2.2.2.2.2.1) ∧
 (Ob ((0 : Int) = r.2.2.2.2.2.2) ∧
 True)))))))))))))))))) = _) ?_
 refine jau h fun h => ?_
 refine jau h fun h => ?_
 refine jau h fun h => ?_
 refine jaW h (fun h => ?_) (fun h => ?_)
 ·refine jad ?_
  refine jad ?_
  exact rcs h
 ·refine ⟨⟨(((0 : Int), 0, 0, 0, 0, 0, 0), big), ⟨jbd h⟩, (by repeat' constructor)⟩, fun z4 hz4 => ?_⟩
  obtain ⟨k4, hm4, h⟩ := jaT hz4
  refine jaN h (fun h => ?_) (fun h => ?_)
  ·refine jao h fun h => ?_
   refine jao h fun h => ?_
   refine jao h fun h => ?_
   refine jao h fun h => ?_
   refine jaW h (fun h => ?_) (fun h => ?_)
   ·refine jao h fun h => ?_
    refine jao h fun h => ?_
    refine jaW h (fun h => ?_) (fun h => ?_)
    ·refine jao h fun h => ?_
     refine jao h fun h => ?_
     refine jao h fun h => ?_
     refine jao h fun h => ?_
     refine jau h fun h => ?_
     refine jao h fun h => ?_
     refine jao h fun h => ?_
     exact ⟨(_, k4), ⟨jaL h⟩, ⟨jaZ hm4.symm⟩, (by repeat' constructor)⟩
    ·exact ⟨(_, k4), ⟨jaL h⟩, ⟨jaZ hm4.symm⟩, (by repeat' constructor)⟩
   ·exact ⟨(_, k4), ⟨jaL h⟩, ⟨jaZ hm4.symm⟩, (by repeat' constructor)⟩
  ·have h := jaA h
   refine jad ?_
   refine jad ?_
   exact rcs h
theorem jpF : jag Tryz.prog 58 true (jal jf1 jf2) := by
 refine jat (sp := (sp_60 (sp_76 (sp_100 sp0)))) (fn := Tryz.f58) (body := jaj Tryz.f58) mixed (sp_60_ok (sp_76_ok (sp_100_ok jak))) Tryz.func58 (by kernel_rfl) (by kernel_rfl) fun ls t h ho b hb => ?_
 unfold jf2 at h
 split at h
 ·rename_i u4 u0 u6 u5 u36 u37 u38 u39
  cases h
  obtain rfl := jaB hb
  exact ⟨Nat.le_of_ble_eq_true (by kernel_rfl), _, _, jpE u4 u0 u6 u5 u36 u37 u38 u39 _ (jai ho)⟩
 ·cases h
theorem sp_58_ok {sp : jab} (h : jac Tryz.prog sp) : jac Tryz.prog (sp_58 sp) := jah jpF h
end Go.Sh
end
