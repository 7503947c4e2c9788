/- Part 4 of the proof of FigureComparesCard: the executor, the mirrors of the functions, the plain facts. -/
import Derived.Test.YtcklfboglnfepaaGreatDoorPC
import Derived.RangeFuncNested
import Derived.RangeFuncBound
import Derived.RangeFuncCalls
import Derived.RangeFuncLeaves
import Derived.OwnWalkIn
import Derived.TacticsInMore
import Derived.OrdersIn
import Derived.Shelf.Abstract
import Derived.WalkKit
import Derived.LoopNIn
import Derived.LoopIn
import Derived.Test.YtcklfboglnfepaaGreatDoorProg
set_option maxRecDepth 100000
set_option linter.unusedSectionVars false
set_option linter.unusedSimpArgs false
set_option linter.unusedVariables false
section
namespace Go.Sh
open Go Go.Proofs Go.RowKit Go.Sx
open Go.IntKind (wrap)
def y138 : List SV := [.a [.d, .d], .c (.p [.p [.d, .r (.floats .f32 []), .d, .d, .r (.recs 2 []), .r (.recs 2 [])]]), .c (.p [.d])]
def y56 (u45 : Int) (u46 : Int) (u18 : Int) (u19 : List Nat) (u20 : Int) (u21 : Int) (u22 : List (List Int)) (u23 : List (List Int)) (v1_ : Int) : Option Bool :=
 if (0 : Int) ≤ 0 ∧ 0 < (↑(List.length u23) : Int) then
  if 0 < List.length u23 then
  Option.bind (y87 u45 (List.getD (List.getD u23 (0 : Nat) []) 1 (0 : Int)) v1_) fun r0 =>
  some r0
  else none
 else none
def y139 : List Lf → Option GT
 | [.d (.i .i64 u45), .d (.i .i64 u46), .d (.i .i64 u18), .r (.floats .f32 u19), .d (.i .i64 u20), .d (.i .i64 u21), .r (.recs 2 u22), .r (.recs 2 u23), .d (.i .i64 v1_)] => some (.leaf (ok (y56 u45 u46 u18 u19 u20 u21 u22 u23 v1_)) [.c (.d (.b ((val (y56 u45 u46 u18 u19 u20 u21 u22 u23 v1_)))))])
 | _ => none
abbrev sp_142 : jab → jab := jav 142 true (jal y138 y139)
theorem jh2 (u45 : Int) (u46 : Int) (u18 : Int) (u19 : List Nat) (u20 : Int) (u21 : Int) (u22 : List (List Int)) (u23 : List (List Int)) (v1_ : Int) (r : Bool) (h : Option.bind (y56 u45 u46 u18 u19 u20 u21 u22 u23 v1_) some = some r) : ja0 Tryz.f142 ((sp_96 sp0)) (fun _ _ _ => none) (jaO y138 [.d (.i .i64 u45), .d (.i .i64 u46), .d (.i .i64 u18), .r (.floats .f32 u19), .d (.i .i64 u20), .d (.i .i64 u21), .r (.recs 2 u22), .r (.recs 2 u23), .d (.i .i64 v1_)]) [.c (.d (.b r))] := by
 refine Eq.mp (by kernel_rfl : (
 (Ob True ∧
 (Ob True ∧
 (Ob ((0 : Int) ≤ 0 ∧ 0 < (↑(List.length u23) : Int)) ∧
 (Ob (0 < List.length u23) ∧
 (Ob True ∧
 (Ob (ok (y87 u45 (List.getD (List.getD u23 (0 : Nat) []) 1 (0 : Int)) v1_)) ∧
 (Ob True ∧
 (Ob (val (y87 u45 (List.getD (List.getD u23 (0 : Nat) []) 1 (0 : Int)) v1_) = r) ∧
 True))))))))) = _) ?_
 refine jad ?_
 refine jad ?_
 refine jao h fun h => ?_
 refine jao h fun h => ?_
 refine jad ?_
 refine jau h fun h => ?_
 refine jad ?_
 exact rcs h
theorem jh3 : jag Tryz.prog 142 true (jal y138 y139) := by
 refine jat (sp := (sp_96 sp0)) (fn := Tryz.f142) (body := jaj Tryz.f142) mixed (sp_96_ok jak) Tryz.func142 (by kernel_rfl) (by kernel_rfl) fun ls t h ho b hb => ?_
 unfold y139 at h
 split at h
 ·rename_i u45 u46 u18 u19 u20 u21 u22 u23 v1_
  cases h
  obtain rfl := jaB hb
  exact ⟨Nat.le_of_ble_eq_true (by kernel_rfl), _, _, jh2 u45 u46 u18 u19 u20 u21 u22 u23 v1_ _ (jai ho)⟩
 ·cases h
theorem sp_142_ok {sp : jab} (h : jac Tryz.prog sp) : jac Tryz.prog (sp_142 sp) := jah jh3 h
def y140 : List SV := [.a [.d, .d], .c (.p [.p [.d, .r (.floats .f32 []), .d, .d, .r (.recs 2 []), .r (.recs 2 [])]]), .c (.p [.d])]
def y57 (u45 : Int) (u46 : Int) (u18 : Int) (u19 : List Nat) (u20 : Int) (u21 : Int) (u22 : List (List Int)) (u23 : List (List Int)) (v1_ : Int) : Option Bool :=
 if (0 : Int) ≤ 0 ∧ 0 < (↑(List.length u23) : Int) then
  if 0 < List.length u23 then
  Option.bind (y87 u46 (List.getD (List.getD u23 (0 : Nat) []) 0 (0 : Int)) v1_) fun r0 =>
  some r0
  else none
 else none
def y141 : List Lf → Option GT
 | [.d (.i .i64 u45), .d (.i .i64 u46), .d (.i .i64 u18), .r (.floats .f32 u19), .d (.i .i64 u20), .d (.i .i64 u21), .r (.recs 2 u22), .r (.recs 2 u23), .d (.i .i64 v1_)] => some (.leaf (ok (y57 u45 u46 u18 u19 u20 u21 u22 u23 v1_)) [.c (.d (.b ((val (y57 u45 u46 u18 u19 u20 u21 u22 u23 v1_)))))])
 | _ => none
abbrev sp_143 : jab → jab := jav 143 true (jal y140 y141)
theorem jh4 (u45 : Int) (u46 : Int) (u18 : Int) (u19 : List Nat) (u20 : Int) (u21 : Int) (u22 : List (List Int)) (u23 : List (List Int)) (v1_ : Int) (r : Bool) (h : Option.bind (y57 u45 u46 u18 u19 u20 u21 u22 u23 v1_) some = some r) : ja0 Tryz.f143 ((sp_96 sp0)) (fun _ _ _ => none) (jaO y140 [.d (.i .i64 u45), .d (.i .i64 u46), .d (.i .i64 u18), .r (.floats .f32 u19), .d (.i .i64 u20), .d (.i .i64 u21), .r (.recs 2 u22), .r (.recs 2 u23), .d (.i .i64 v1_)]) [.c (.d (.b r))] := by
 refine Eq.mp (by kernel_rfl : (
 (Ob True ∧
 (Ob True ∧
 (Ob ((0 : Int) ≤ 0 ∧ 0 < (↑(List.length u23) : Int)) ∧
 (Ob (0 < List.length u23) ∧
 (Ob True ∧
 (Ob (ok (y87 u46 (List.getD (List.getD u23 (0 : Nat) []) 0 (0 : Int)) v1_)) ∧
 (Ob True ∧
 (Ob (val (y87 u46 (List.getD (List.getD u23 (0 : Nat) []) 0 (0 : Int)) v1_) = r) ∧
 True))))))))) = _) ?_
 refine jad ?_
 refine jad ?_
 refine jao h fun h => ?_
 refine jao h fun h => ?_
 refine jad ?_
 refine jau h fun h => ?_
 refine jad ?_
 exact rcs h
theorem jh5 : jag Tryz.prog 143 true (jal y140 y141) := by
 refine jat (sp := (sp_96 sp0)) (fn := Tryz.f143) (body := jaj Tryz.f143) mixed (sp_96_ok jak) Tryz.func143 (by kernel_rfl) (by kernel_rfl) fun ls t h ho b hb => ?_
 unfold y141 at h
 split at h
 ·rename_i u45 u46 u18 u19 u20 u21 u22 u23 v1_
  cases h
  obtain rfl := jaB hb
  exact ⟨Nat.le_of_ble_eq_true (by kernel_rfl), _, _, jh4 u45 u46 u18 u19 u20 u21 u22 u23 v1_ _ (jai ho)⟩
 ·cases h
theorem sp_143_ok {sp : jab} (h : jac Tryz.prog sp) : jac Tryz.prog (sp_143 sp) := jah jh5 h
def y173 : List SV := [.a [.d, .d], .c (.p [.p [.d, .r (.floats .f32 []), .d, .d, .r (.recs 2 []), .r (.recs 2 [])]]), .c (.p [.d])]
def jnU (u69 : Int) (u70 : Int) (u18 : Int) (u19 : List Nat) (u20 : Int) (u21 : Int) (u22 : List (List Int)) (u23 : List (List Int)) (v1_ : Int) : Option Bool :=
 if (0 : Int) ≤ 0 ∧ 0 < (↑(List.length u23) : Int) then
  if 0 < List.length u23 then
  Option.bind (y87 u69 (List.getD (List.getD u23 (0 : Nat) []) 0 (0 : Int)) v1_) fun r0 =>
  some r0
  else none
 else none
def y174 : List Lf → Option GT
 | [.d (.i .i64 u69), .d (.i .i64 u70), .d (.i .i64 u18), .r (.floats .f32 u19), .d (.i .i64 u20), .d (.i .i64 u21), .r (.recs 2 u22), .r (.recs 2 u23), .d (.i .i64 v1_)] => some (.leaf (ok (jnU u69 u70 u18 u19 u20 u21 u22 u23 v1_)) [.c (.d (.b ((val (jnU u69 u70 u18 u19 u20 u21 u22 u23 v1_)))))])
 | _ => none
abbrev sp_95 : jab → jab := jav 95 true (jal y173 y174)
theorem jky (u69 : Int) (u70 : Int) (u18 : Int) (u19 : List Nat) (u20 : Int) (u21 : Int) (u22 : List (List Int)) (u23 : List (List Int)) (v1_ : Int) (r : Bool) (h : Option.bind (jnU u69 u70 u18 u19 u20 u21 u22 u23 v1_) some = some r) : ja0 Tryz.f95 ((sp_96 sp0)) (fun _ _ _ => none) (jaO y173 [.d (.i .i64 u69), .d (.i .i64 u70), .d (.i .i64 u18), .r (.floats .f32 u19), .d (.i .i64 u20), .d (.i .i64 u21), .r (.recs 2 u22), .r (.recs 2 u23), .d (.i .i64 v1_)]) [.c (.d (.b r))] := by
 refine Eq.mp (by kernel_rfl : (
 (Ob True ∧
 (Ob True ∧
 (Ob ((0 : Int) ≤ 0 ∧ 0 < (↑(List.length u23) : Int)) ∧
 (Ob (0 < List.length u23) ∧
 (Ob True ∧
 (Ob (ok (y87 u69 (List.getD (List.getD u23 (0 : Nat) []) 0 (0 : Int)) v1_)) ∧
 (Ob True ∧
 (Ob (val (y87 u69 (List.getD (List.getD u23 (0 : Nat) []) 0 (0 : Int)) v1_) = r) ∧
 True))))))))) = _) ?_
 refine jad ?_
 refine jad ?_
 refine jao h fun h => ?_
 refine jao h fun h => ?_
 refine jad ?_
 refine jau h fun h => ?_
 refine jad ?_
 exact rcs h
theorem jkz : jag Tryz.prog 95 true (jal y173 y174) := by
 refine jat (sp := (sp_96 sp0)) (fn := Tryz.f95) (body := jaj Tryz.f95) mixed (sp_96_ok jak) Tryz.func95 (by kernel_rfl) (by kernel_rfl) fun ls t h ho b hb => ?_
 unfold y174 at h
 split at h
 ·rename_i u69 u70 u18 u19 u20 u21 u22 u23 v1_
  cases h
  obtain rfl := jaB hb
  exact ⟨Nat.le_of_ble_eq_true (by kernel_rfl), _, _, jky u69 u70 u18 u19 u20 u21 u22 u23 v1_ _ (jai ho)⟩
 ·cases h
theorem sp_95_ok {sp : jab} (h : jac Tryz.prog sp) : jac Tryz.prog (sp_95 sp) := jah jkz h
def y94 : List SV := [.c (.r (.recs 2 [])), .c (.f 142 [.p [.p [.d, .r (.floats .f32 []), .d, .d, .r (.recs 2 []), .r (.recs 2 [])]], .p [.d]])]
def y15 (s : List (List Int)) (u30 : Int) (u31 : List Nat) (u32 : Int) (u33 : Int) (u34 : List (List Int)) (u35 : List (List Int)) (f1_ : Int) (x0 : Int) : Option (Int ⊕ (Int ⊕ Unit)) :=
 if x0 < (↑(List.length s) : Int) then
  if 0 ≤ x0 ∧ x0 < (↑(List.length s) : Int) then
  if Int.toNat x0 < List.length s then
   Option.bind (y56 (List.getD (List.getD s (Int.toNat x0) []) 0 (0 : Int)) (List.getD (List.getD s (Int.toNat x0) []) 1 (0 : Int)) u30 u31 u32 u33 u34 u35 f1_) fun r0 =>
   if (r0) = true then
   some (.inr (.inl x0))
   else
   some (.inl (wrap .i64 (x0 + 1)))
  else none
  else none
 else
  some (.inr ((.inr ())))
def y177 (u15 : Int) : Option Int :=
 some u15
def y178 (u27 : Unit) : Option Int :=
 some (-1 : Int)
def y46 : (Int ⊕ Unit) → Option Int :=
 (Sum.elim (y177) (y178))
def y33 (s : List (List Int)) (u30 : Int) (u31 : List Nat) (u32 : Int) (u33 : Int) (u34 : List (List Int)) (u35 : List (List Int)) (f1_ : Int) : Option Int :=
 Option.bind (jae (y15 s u30 u31 u32 u33 u34 u35 f1_) big (0 : Int)) (y46)
def y95 : List Lf → Option GT
 | [.r (.recs 2 s), .d (.i .i64 u30), .r (.floats .f32 u31), .d (.i .i64 u32), .d (.i .i64 u33), .r (.recs 2 u34), .r (.recs 2 u35), .d (.i .i64 f1_)] => some (.leaf (ok (y33 s u30 u31 u32 u33 u34 u35 f1_)) [.c (.d (.i .i64 ((val (y33 s u30 u31 u32 u33 u34 u35 f1_)))))])
 | _ => none
theorem y197 (s : List (List Int)) (u30 : Int) (u31 : List Nat) (u32 : Int) (u33 : Int) (u34 : List (List Int)) (u35 : List (List Int)) (f1_ : Int) (r : Int) (h : Option.bind (y33 s u30 u31 u32 u33 u34 u35 f1_) some = some r) : ja0 Tryz.f94 ((sp_142 sp0)) (fun gs id _ => match id with
 | 0 => some ⟨Int × Nat, fun z => ⟨[(0, .w (.c (.o 0))), (1, .w (.c (.fn 142 [5, 6]))), (7, .w (.c (.d (.i .i64 ((↑(List.length s) : Int)))))), (8, .w (.c (.d (.i .i64 (Prod.fst z)))))], [(0, .ext (.recs 2 s)), (5, .ebox [.p 4 0 1 0]), (6, .ebox [.d (.i .i64 f1_)]), (4, .ebox [.d (.i .i64 u30), .o 1, .d (.i .i64 u32), .d (.i .i64 u33), .o 2, .o 3]), (1, .ext (.floats .f32 u31)), (2, .ext (.recs 2 u34)), (3, .ext (.recs 2 u35))], 7⟩, fun z => Option.bind (jae (y15 s u30 u31 u32 u33 u34 u35 f1_) (Prod.snd z) (Prod.fst z)) (fun y0 => Option.bind (y46 y0) some) = some r, fun z => Prod.snd z⟩
 | _ => none) (jaO y94 [.r (.recs 2 s), .d (.i .i64 u30), .r (.floats .f32 u31), .d (.i .i64 u32), .d (.i .i64 u33), .r (.recs 2 u34), .r (.recs 2 u35), .d (.i .i64 f1_)]) [.c (.d (.i .i64 r))] := by
 refine Eq.mp (by kernel_rfl : (
 ((∃ (v0 : Int × Nat), (Ob ((Option.bind (jae (y15 s u30 u31 u32 u33 u34 u35 f1_) v0.2 v0.1) fun y0 => Option.bind (y46 y0) some) = some r) ∧
 (Ob ((↑(List.length s) : Int) = (↑(List.length s) : Int)) ∧
 (Ob ((0 : Int) = v0.1) ∧
 (Ob (s = s) ∧
 (Ob (0 = 0) ∧
 (Ob (f1_ = f1_) ∧
 (Ob (u30 = u30) ∧
 (Ob (u32 = u32) ∧
 (Ob (u33 = u33) ∧
 (Ob (u31 = u31) ∧
 (Ob (u34 = u34) ∧
 (Ob (u35 = u35) ∧
 True))))))))))))) ∧
  (∀ (v0 : Int × Nat), ((Option.bind (jae (y15 s u30 u31 u32 u33 u34 u35 f1_) v0.2 v0.1) fun y0 => Option.bind (y46 y0) some) = some r →
 Br (decide (v0.1 < (↑(List.length s) : Int)))
  ((Ob (0 ≤ v0.1 ∧ v0.1 < (↑(List.length s) : Int)) ∧
 (Ob (Int.toNat v0.1 < List.length s) ∧
 (Ob (ok (y56 (List.getD (List.getD s (Int.toNat v0.1) []) 0 (0 : Int)) (List.getD (List.getD s (Int.toNat v0.1) []) 1 (0 : Int)) u30 u31 u32 u33 u34 u35 f1_)) ∧
 Br (val (y56 (List.getD (List.getD s (Int.toNat v0.1) []) 0 (0 : Int)) (List.getD (List.getD s (Int.toNat v0.1) []) 1 (0 : Int)) u30 u31 u32 u33 u34 u35 f1_))
  ((Ob True ∧
 (Ob (v0.1 = r) ∧
 True)))
  ((∃ (v1 : Int × Nat), (Ob ((Option.bind (jae (y15 s u30 u31 u32 u33 u34 u35 f1_) v1.2 v1.1) fun y0 => Option.bind (y46 y0) some) = some r) ∧
 (Ob (v1.2 < v0.2) ∧
 (Ob ((↑(List.length s) : Int) = (↑(List.length s) : Int)) ∧
 (Ob (wrap .i64 (v0.1 + 1) = v1.1) ∧
 (Ob (s = s) ∧
 (Ob (0 = 0) ∧
 (Ob (f1_ = f1_) ∧
 (Ob (u30 = u30) ∧
 (Ob (u32 = u32) ∧
 (Ob (u33 = u33) ∧
 (Ob (u31 = u31) ∧
 (Ob (u34 = u34) ∧
 (Ob (u35 = u35) ∧
 True)))))))))))))))))))
  ((Ob True ∧
 (Ob ((-1 : Int) = r) ∧
 True))))))) = _) ?_
 refine ⟨⟨((0 : Int), big), ⟨jbd h⟩, (by repeat' constructor)⟩, fun z1 hz1 => ?_⟩
 obtain ⟨k1, hm1, h⟩ := jaT hz1
 refine jaN h (fun h => ?_) (fun h => ?_)
 ·refine jao h fun h => ?_
  refine jao h fun h => ?_
  refine jau h fun h => ?_
  refine jaW h (fun h => ?_) (fun h => ?_)
  ·have h := jaA h
   refine jad ?_
   exact rcs h
  ·exact ⟨(_, k1), ⟨jaL h⟩, ⟨jaZ hm1.symm⟩, (by repeat' constructor)⟩
 ·have h := jaA h
  refine jad ?_
  exact rcs h
theorem y198 : jag Tryz.prog 94 true (jal y94 y95) := by
 refine jat (sp := (sp_142 sp0)) (fn := Tryz.f94) (body := jaj Tryz.f94) mixed (sp_142_ok jak) Tryz.func94 (by kernel_rfl) (by kernel_rfl) fun ls t h ho b hb => ?_
 unfold y95 at h
 split at h
 ·rename_i s u30 u31 u32 u33 u34 u35 f1_
  cases h
  obtain rfl := jaB hb
  exact ⟨Nat.le_of_ble_eq_true (by kernel_rfl), _, _, y197 s u30 u31 u32 u33 u34 u35 f1_ _ (jai ho)⟩
 ·cases h
def y96 : List SV := [.c (.r (.recs 2 [])), .c (.f 143 [.p [.p [.d, .r (.floats .f32 []), .d, .d, .r (.recs 2 []), .r (.recs 2 [])]], .p [.d]])]
def y16 (s : List (List Int)) (u30 : Int) (u31 : List Nat) (u32 : Int) (u33 : Int) (u34 : List (List Int)) (u35 : List (List Int)) (f1_ : Int) (x0 : Int) : Option (Int ⊕ (Int ⊕ Unit)) :=
 if x0 < (↑(List.length s) : Int) then
  if 0 ≤ x0 ∧ x0 < (↑(List.length s) : Int) then
  if Int.toNat x0 < List.length s then
   Option.bind (y57 (List.getD (List.getD s (Int.toNat x0) []) 0 (0 : Int)) (List.getD (List.getD s (Int.toNat x0) []) 1 (0 : Int)) u30 u31 u32 u33 u34 u35 f1_) fun r0 =>
   if (r0) = true then
   some (.inr (.inl x0))
   else
   some (.inl (wrap .i64 (x0 + 1)))
  else none
  else none
 else
  some (.inr ((.inr ())))
def y179 (u15 : Int) : Option Int :=
 some u15
def y180 (u27 : Unit) : Option Int :=
 some (-1 : Int)
def y47 : (Int ⊕ Unit) → Option Int :=
 (Sum.elim (y179) (y180))
def y34 (s : List (List Int)) (u30 : Int) (u31 : List Nat) (u32 : Int) (u33 : Int) (u34 : List (List Int)) (u35 : List (List Int)) (f1_ : Int) : Option Int :=
 Option.bind (jae (y16 s u30 u31 u32 u33 u34 u35 f1_) big (0 : Int)) (y47)
def y97 : List Lf → Option GT
 | [.r (.recs 2 s), .d (.i .i64 u30), .r (.floats .f32 u31), .d (.i .i64 u32), .d (.i .i64 u33), .r (.recs 2 u34), .r (.recs 2 u35), .d (.i .i64 f1_)] => some (.leaf (ok (y34 s u30 u31 u32 u33 u34 u35 f1_)) [.c (.d (.i .i64 ((val (y34 s u30 u31 u32 u33 u34 u35 f1_)))))])
 | _ => none
theorem y199 (s : List (List Int)) (u30 : Int) (u31 : List Nat) (u32 : Int) (u33 : Int) (u34 : List (List Int)) (u35 : List (List Int)) (f1_ : Int) (r : Int) (h : Option.bind (y34 s u30 u31 u32 u33 u34 u35 f1_) some = some r) : ja0 Tryz.f94 ((sp_143 sp0)) (fun gs id _ => match id with
 | 0 => some ⟨Int × Nat, fun z => ⟨[(0, .w (.c (.o 0))), (1, .w (.c (.fn 143 [5, 6]))), (7, .w (.c (.d (.i .i64 ((↑(List.length s) : Int)))))), (8, .w (.c (.d (.i .i64 (Prod.fst z)))))], [(0, .ext (.recs 2 s)), (5, .ebox [.p 4 0 1 0]), (6, .ebox [.d (.i .i64 f1_)]), (4, .ebox [.d (.i .i64 u30), .o 1, .d (.i .i64 u32), .d (.i .i64 u33), .o 2, .o 3]), (1, .ext (.floats .f32 u31)), (2, .ext (.recs 2 u34)), (3, .ext (.recs 2 u35))], 7⟩, fun z => Option.bind (jae (y16 s u30 u31 u32 u33 u34 u35 f1_) (Prod.snd z) (Prod.fst z)) (fun y0 => Option.bind (y47 y0) some) = some r, fun z => Prod.snd z⟩
 | _ => none) (jaO y96 [.r (.recs 2 s), .d (.i .i64 u30), .r (.floats .f32 u31), .d (.i .i64 u32), .d (.i .i64 u33), .r (.recs 2 u34), .r (.recs 2 u35), .d (.i .i64 f1_)]) [.c (.d (.i .i64 r))] := by
 refine Eq.mp (by kernel_rfl : (
 ((∃ (v0 : Int × Nat), (Ob ((Option.bind (jae (y16 s u30 u31 u32 u33 u34 u35 f1_) v0.2 v0.1) fun y0 => Option.bind (y47 y0) some) = some r) ∧
 (Ob ((↑(List.length s) : Int) = (↑(List.length s) : Int)) ∧
 (Ob ((0 : Int) = v0.1) ∧
 (Ob (s = s) ∧
 (Ob (0 = 0) ∧
 (Ob (f1_ = f1_) ∧
 (Ob (u30 = u30) ∧
 (Ob (u32 = u32) ∧
 (Ob (u33 = u33) ∧
 (Ob (u31 = u31) ∧
 (Ob (u34 = u34) ∧
 (Ob (u35 = u35) ∧
 True))))))))))))) ∧
  (∀ (v0 : Int × Nat), ((Option.bind (jae (y16 s u30 u31 u32 u33 u34 u35 f1_) v0.2 v0.1) fun y0 => Option.bind (y47 y0) some) = some r →
 Br (decide (v0.1 < (↑(List.length s) : Int)))
  ((Ob (0 ≤ v0.1 ∧ v0.1 < (↑(List.length s) : Int)) ∧
 (Ob (Int.toNat v0.1 < List.length s) ∧
 (Ob (ok (y57 (List.getD (List.getD s (Int.toNat v0.1) []) 0 (0 : Int)) (List.getD (List.getD s (Int.toNat v0.1) []) 1 (0 : Int)) u30 u31 u32 u33 u34 u35 f1_)) ∧
 Br (val (y57 (List.getD (List.getD s (Int.toNat v0.1) []) 0 (0 : Int)) (List.getD (List.getD s (Int.toNat v0.1) []) 1 (0 : Int)) u30 u31 u32 u33 u34 u35 f1_))
  ((Ob True ∧
 (Ob (v0.1 = r) ∧
 True)))
  ((∃ (v1 : Int × Nat), (Ob ((Option.bind (jae (y16 s u30 u31 u32 u33 u34 u35 f1_) v1.2 v1.1) fun y0 => Option.bind (y47 y0) some) = some r) ∧
 (Ob (v1.2 < v0.2) ∧
 (Ob ((↑(List.length s) : Int) = (↑(List.length s) : Int)) ∧
 (Ob (wrap .i64 (v0.1 + 1) = v1.1) ∧
 (Ob (s = s) ∧
 (Ob (0 = 0) ∧
 (Ob (f1_ = f1_) ∧
 (Ob (u30 = u30) ∧
 (Ob (u32 = u32) ∧
 (Ob (u33 = u33) ∧
 (Ob (u31 = u31) ∧
 (Ob (u34 = u34) ∧
 (Ob (u35 = u35) ∧
 True)))))))))))))))))))
  ((Ob True ∧
 (Ob ((-1 : Int) = r) ∧
 True))))))) = _) ?_
 refine ⟨⟨((0 : Int), big), ⟨jbd h⟩, (by repeat' constructor)⟩, fun z1 hz1 => ?_⟩
 obtain ⟨k1, hm1, h⟩ := jaT hz1
 refine jaN h (fun h => ?_) (fun h => ?_)
 ·refine jao h fun h => ?_
  refine jao h fun h => ?_
  refine jau h fun h => ?_
  refine jaW h (fun h => ?_) (fun h => ?_)
  ·have h := jaA h
   refine jad ?_
   exact rcs h
  ·exact ⟨(_, k1), ⟨jaL h⟩, ⟨jaZ hm1.symm⟩, (by repeat' constructor)⟩
 ·have h := jaA h
  refine jad ?_
  exact rcs h
theorem y200 : jag Tryz.prog 94 true (jal y96 y97) := by
 refine jat (sp := (sp_143 sp0)) (fn := Tryz.f94) (body := jaj Tryz.f94) mixed (sp_143_ok jak) Tryz.func94 (by kernel_rfl) (by kernel_rfl) fun ls t h ho b hb => ?_
 unfold y97 at h
 split at h
 ·rename_i s u30 u31 u32 u33 u34 u35 f1_
  cases h
  obtain rfl := jaB hb
  exact ⟨Nat.le_of_ble_eq_true (by kernel_rfl), _, _, y199 s u30 u31 u32 u33 u34 u35 f1_ _ (jai ho)⟩
 ·cases h
def y109 : List SV := [.c (.r (.recs 2 [])), .c (.f 95 [.p [.p [.d, .r (.floats .f32 []), .d, .d, .r (.recs 2 []), .r (.recs 2 [])]], .p [.d]])]
def y51 (s : List (List Int)) (u30 : Int) (u31 : List Nat) (u32 : Int) (u33 : Int) (u34 : List (List Int)) (u35 : List (List Int)) (f1_ : Int) (x0 : Int) : Option (Int ⊕ (Int ⊕ Unit)) :=
 if x0 < (↑(List.length s) : Int) then
  if 0 ≤ x0 ∧ x0 < (↑(List.length s) : Int) then
  if Int.toNat x0 < List.length s then
   Option.bind (jnU (List.getD (List.getD s (Int.toNat x0) []) 0 (0 : Int)) (List.getD (List.getD s (Int.toNat x0) []) 1 (0 : Int)) u30 u31 u32 u33 u34 u35 f1_) fun r0 =>
   if (r0) = true then
   some (.inr (.inl x0))
   else
   some (.inl (wrap .i64 (x0 + 1)))
  else none
  else none
 else
  some (.inr ((.inr ())))
def y183 (u15 : Int) : Option Int :=
 some u15
def y184 (u27 : Unit) : Option Int :=
 some (-1 : Int)
def y52 : (Int ⊕ Unit) → Option Int :=
 (Sum.elim (y183) (y184))
def y117 (s : List (List Int)) (u30 : Int) (u31 : List Nat) (u32 : Int) (u33 : Int) (u34 : List (List Int)) (u35 : List (List Int)) (f1_ : Int) : Option Int :=
 Option.bind (jae (y51 s u30 u31 u32 u33 u34 u35 f1_) big (0 : Int)) (y52)
def y110 : List Lf → Option GT
 | [.r (.recs 2 s), .d (.i .i64 u30), .r (.floats .f32 u31), .d (.i .i64 u32), .d (.i .i64 u33), .r (.recs 2 u34), .r (.recs 2 u35), .d (.i .i64 f1_)] => some (.leaf (ok (y117 s u30 u31 u32 u33 u34 u35 f1_)) [.c (.d (.i .i64 ((val (y117 s u30 u31 u32 u33 u34 u35 f1_)))))])
 | _ => none
theorem y201 (s : List (List Int)) (u30 : Int) (u31 : List Nat) (u32 : Int) (u33 : Int) (u34 : List (List Int)) (u35 : List (List Int)) (f1_ : Int) (r : Int) (h : Option.bind (y117 s u30 u31 u32 u33 u34 u35 f1_) some = some r) : ja0 Tryz.f94 ((sp_95 sp0)) (fun gs id _ => match id with
 | 0 => some ⟨Int × Nat, fun z => ⟨[(0, .w (.c (.o 0))), (1, .w (.c (.fn 95 [5, 6]))), (7, .w (.c (.d (.i .i64 ((↑(List.length s) : Int)))))), (8, .w (.c (.d (.i .i64 (Prod.fst z)))))], [(0, .ext (.recs 2 s)), (5, .ebox [.p 4 0 1 0]), (6, .ebox [.d (.i .i64 f1_)]), (4, .ebox [.d (.i .i64 u30), .o 1, .d (.i .i64 u32), .d (.i .i64 u33), .o 2, .o 3]), (1, .ext (.floats .f32 u31)), (2, .ext (.recs 2 u34)), (3, .ext (.recs 2 u35))], 7⟩, fun z => Option.bind (jae (y51 s u30 u31 u32 u33 u34 u35 f1_) (Prod.snd z) (Prod.fst z)) (fun y0 => Option.bind (y52 y0) some) = some r, fun z => Prod.snd z⟩
 | _ => none) (jaO y109 [.r (.recs 2 s), .d (.i .i64 u30), .r (.floats .f32 u31), .d (.i .i64 u32), .d (.i .i64 u33), .r (.recs 2 u34), .r (.recs 2 u35), .d (.i .i64 f1_)]) [.c (.d (.i .i64 r))] := by
 refine Eq.mp (by kernel_rfl : (
 ((∃ (v0 : Int × Nat), (Ob ((Option.bind (jae (y51 s u30 u31 u32 u33 u34 u35 f1_) v0.2 v0.1) fun y0 => Option.bind (y52 y0) some) = some r) ∧
 (Ob ((↑(List.length s) : Int) = (↑(List.length s) : Int)) ∧
 (Ob ((0 : Int) = v0.1) ∧
 (Ob (s = s) ∧
 (Ob (0 = 0) ∧
 (Ob (f1_ = f1_) ∧
 (Ob (u30 = u30) ∧
 (Ob (u32 = u32) ∧
 (Ob (u33 = u33) ∧
 (Ob (u31 = u31) ∧
 (Ob (u34 = u34) ∧
 (Ob (u35 = u35) ∧
 True))))))))))))) ∧
  (∀ (v0 : Int × Nat), ((Option.bind (jae (y51 s u30 u31 u32 u33 u34 u35 f1_) v0.2 v0.1) fun y0 => Option.bind (y52 y0) some) = some r →
 Br (decide (v0.1 < (↑(List.length s) : Int)))
  ((Ob (0 ≤ v0.1 ∧ v0.1 < (↑(List.length s) : Int)) ∧
 (Ob (Int.toNat v0.1 < List.length s) ∧
 (Ob (ok (jnU (List.getD (List.getD s (Int.toNat v0.1) []) 0 (0 : Int)) (List.getD (List.getD s (Int.toNat v0.1) []) 1 (0 : Int)) u30 u31 u32 u33 u34 u35 f1_)) ∧
 Br (val (jnU (List.getD (List.getD s (Int.toNat v0.1) []) 0 (0 : Int)) (List.getD (List.getD s (Int.toNat v0.1) []) 1 (0 : Int)) u30 u31 u32 u33 u34 u35 f1_))
  ((Ob True ∧
 (Ob (v0.1 = r) ∧
 True)))
  ((∃ (v1 : Int × Nat), (Ob ((Option.bind (jae (y51 s u30 u31 u32 u33 u34 u35 f1_) v1.2 v1.1) fun y0 => Option.bind (y52 y0) some) = some r) ∧
 (Ob (v1.2 < v0.2) ∧
 (Ob ((↑(List.length s) : Int) = (↑(List.length s) : Int)) ∧
 (Ob (wrap .i64 (v0.1 + 1) = v1.1) ∧
 (Ob (s = s) ∧
 (Ob (0 = 0) ∧
 (Ob (f1_ = f1_) ∧
 (Ob (u30 = u30) ∧
 (Ob (u32 = u32) ∧
 (Ob (u33 = u33) ∧
 (Ob (u31 = u31) ∧
 (Ob (u34 = u34) ∧
 (Ob (u35 = u35) ∧
 True)))))))))))))))))))
  ((Ob True ∧
 (Ob ((-1 : Int) = r) ∧
 True))))))) = _) ?_
 refine ⟨⟨((0 : Int), big), ⟨jbd h⟩, (by repeat' constructor)⟩, fun z1 hz1 => ?_⟩
 obtain ⟨k1, hm1, h⟩ := jaT hz1
 refine jaN h (fun h => ?_) (fun h => ?_)
 ·refine jao h fun h => ?_
  refine jao h fun h => ?_
  refine jau h fun h => ?_
  refine jaW h (fun h => ?_) (fun h => ?_)
  ·have h := jaA h
   refine jad ?_
   exact rcs h
  ·exact ⟨(_, k1), ⟨jaL h⟩, ⟨jaZ hm1.symm⟩, (by repeat' constructor)⟩
 ·have h := jaA h
  refine jad ?_
  exact rcs h
theorem y202 : jag Tryz.prog 94 true (jal y109 y110) := by
 refine jat (sp := (sp_95 sp0)) (fn := Tryz.f94) (body := jaj Tryz.f94) mixed (sp_95_ok jak) Tryz.func94 (by kernel_rfl) (by kernel_rfl) fun ls t h ho b hb => ?_
 unfold y110 at h
 split at h
 ·rename_i s u30 u31 u32 u33 u34 u35 f1_
  cases h
  obtain rfl := jaB hb
  exact ⟨Nat.le_of_ble_eq_true (by kernel_rfl), _, _, y201 s u30 u31 u32 u33 u34 u35 f1_ _ (jai ho)⟩
 ·cases h
end Go.Sh
end

section
open Go.RowKit
namespace Go.Sx
def jgh (o : Oper) : Bool := match o.op with
 | .defer _ => false
 | _ => true
theorem jtw {o : Oper} (h : jgh o = true) : ∀ c, o.op ≠ .defer c := fun c e => by
 unfold jgh at h
 rw [e] at h
 cases h
section
variable {P : Program} {l n : Nat} {a : Act} {w : World} {Q : Exit → Act → World → Prop}
theorem Oper.wpIn_of_wp {o : Oper} {K K' : Act → World → Prop} (hd : jgh o = true) (hK : ∀ a w, K a w → K' a w) (h : o.wp P a w K Q) : o.wpIn (Fence.wide.inRound l) n P a w K' Q := by
 refine ⟨fun _ _ => trivial, ?_⟩
 have hs : o.semAt (some l) a.eval = execOp a.eval o := Oper.semAt_some l a.eval o (jtw hd)
 show o.uponIn (Fence.wide.inRound l) n P a K' Q ((o.semAt (some l) a.eval).run P w)
 rw [hs]
 unfold Oper.wp at h
 generalize (execOp a.eval o).run P w = r at *
 cases r with
 | ok x w' =>
  cases x with
  | value v => exact hK _ _ h
  | skip => exact hK _ _ h
  | defer d => exact hK _ _ h
  | enter f args =>
   refine ⟨fun h => (by cases h), CallsIn.inRound l (callsIn_wide.2 (Calls.mono (show Calls P f args w' _ from h) ?_))⟩
   intro e w'' he
   cases e with
   | returned v => exact hK _ _ he
   | panicked ch => exact he
   | outgrown => exact he
  | row r args =>
   refine ⟨fun h => (by cases h), ?_⟩
   intro c cs _
   obtain ⟨v, w'', hr, hst⟩ := h c cs
   exact ⟨v, w'', hK _ _ hr, (stepsIn_wide (P := P)).2 hst⟩
  | _ => exact h.elim
 | halt x w' =>
  cases x with
  | panic v => exact h
  | _ => exact h.elim
theorem jgG {ops : Array Oper} (hlo : ¬ LetsOut Q) : ∀ (os : List Oper) (a : Act) (w : World), os.all jgh = true → wpList P ops Q os a w → wpListIn (Fence.wide.inRound l) n P ops Q os a w
 | [], _, _, _, h => h
 | o :: r, a, w, hd, h => by
  simp only [List.all_cons, Bool.and_eq_true] at hd
  unfold wpList at h
  unfold wpListIn
  split at h
  ·rename_i hw
   rw [if_pos hw]
   rcases h with h | h
   ·exact Oper.wpIn_of_wp hd.1 (fun a w => jgG hlo r a w hd.2) h
   ·exact absurd h.2 hlo
  ·rename_i hw
   rw [if_neg hw]
   exact ⟨fun _ _ => trivial, jgG hlo r _ _ hd.2 h⟩
theorem jfe {ops : Array Oper} (hlo : ¬ LetsOut Q) (hd : ops.toList.all jgh = true) : ∀ (f : Nat) (b : Array Bool) (a : Act) (w : World), wpAny P .any ops Q f b a w → wpAnyIn (Fence.wide.inRound l) n P .any ops Q f b a w
 | 0, _, _, _, h => h
 | f + 1, b, a, w, h => by
  refine ⟨h.1, fun i hi => ?_⟩
  have h2 := h.2 i hi
  unfold wpOp at h2
  unfold wpOpIn
  cases ho : ops[i]? with
  | none =>
   rw [ho] at h2
   exact jfe hlo hd f _ a w h2
  | some o =>
   rw [ho] at h2
   dsimp only at h2 ⊢
   have hod : jgh o = true := List.all_eq_true.1 hd o (by
    have := List.mem_of_getElem? (l := ops.toList) (i := i) (a := o) (by simpa using ho)
    exact this)
   split at h2
   ·rename_i hw
    rw [if_pos hw]
    rcases h2 with h2 | h2
    ·exact Oper.wpIn_of_wp hod (fun a w => jfe hlo hd f _ a w) h2
    ·exact absurd h2.2 hlo
   ·rename_i hw
    rw [if_neg hw]
    exact ⟨fun _ _ => trivial, jfe hlo hd f _ _ _ h2⟩
end
theorem jfS {P : Program} {n : Nat} {ops : Array Oper} {Q : Exit → Act → World → Prop} (hlo : ¬ LetsOut Q) {l2 : List Oper} : ∀ (l1 : List Oper) (a : Act) (w : World), wpList P ops (Exit.then (fun a w => wpListIn Fence.wide n P ops Q l2 a w) Q) l1 a w → wpListIn Fence.wide n P ops Q (l1 ++ l2) a w
 | [], _, _, h => h
 | o :: r, a, w, h => by
  unfold wpList at h
  show wpListIn Fence.wide n P ops Q (o :: (r ++ l2)) a w
  unfold wpListIn
  split at h
  ·rename_i hw
   rw [if_pos hw]
   rcases h with h | h
   ·have ih := jfS (P := P) (ops := ops) (n := n) hlo (l2 := l2) r
    refine ⟨fun _ _ => trivial, ?_⟩
    have hs : o.semAt Fence.wide.round a.eval = execOp a.eval o := Oper.semAt_none a.eval o
    rw [hs]
    unfold Oper.wp at h
    generalize (execOp a.eval o).run P w = x at *
    cases x with
    | ok x w' =>
     cases x with
     | value v => exact ih _ _ h
     | skip => exact ih _ _ h
     | defer d => exact ih _ _ h
     | enter f args =>
      refine ⟨fun h => (by cases h), callsIn_wide.2 (Calls.mono (show Calls P f args w' _ from h) ?_)⟩
      intro e w'' he
      cases e with
      | returned v => exact ih _ _ he
      | panicked ch => exact he
      | outgrown => exact he
     | row q args =>
      refine ⟨fun h => (by cases h), ?_⟩
      intro c cs _
      obtain ⟨v, w'', hr, hst⟩ := h c cs
      exact ⟨v, w'', ih _ _ hr, (stepsIn_wide (P := P)).2 hst⟩
     | _ => exact h.elim
    | halt x w' =>
     cases x with
     | panic v => exact h
     | _ => exact h.elim
   ·exact absurd h.2 hlo
  ·rename_i hw
   rw [if_neg hw]
   exact ⟨fun _ _ => trivial, jfS hlo r _ _ h⟩
def jc0 : Code → Bool
 | .skip => true
 | .label _ => true
 | .region _ ops _ => ops.toList.all jgh
 | .seq x y => jc0 x && jc0 y
 | .cond _ x y => jc0 x && jc0 y
 | .block _ c => jc0 c
 | .exit _ => true
 | .ret => true
 | _ => false
section
variable [Globs] {P : Program} {sp : jab} {B : Bd} {N n0 : Nat} {ρ0 : Env} {w0 : World}
theorem jsC {k : Ex → St → Prop} : ¬ LetsOut (Qx ρ0 B N n0 w0 k) := by
 rintro ⟨a, w, x, ρ', st', he, _⟩
 cases x <;> cases he
theorem jcC {l n fuel : Nat} {loops : jev} (hm : P.follows .mixedOrders = true) (hsp : jac P sp) :
  ∀ (c : Code) (cur : Nat) (gs : List Nat) (st : St) (k : Ex → St → Prop) (ρ : Env) (a : Act) (w : World), jc0 c = true → sx P sp N n0 fuel loops (jc6 P sp N) c cur gs st k → Rel ρ B N n0 st a w → jap n0 ρ0 ρ → Bel B w0 w →
   c.wpIn (Fence.wide.inRound l) n P (Qx ρ0 B N n0 w0 k) a w
 | .skip, _, _, st, k, ρ, a, w, _, h, hr, hag, hbl => wpIn_skip ⟨.normal, ρ, st, rfl, h, hr, hag, hbl⟩
 | .label _, _, _, st, k, ρ, a, w, _, h, hr, hag, hbl => wpIn_label ⟨.normal, ρ, st, rfl, h, hr, hag, hbl⟩
 | .region id ops draw, _, _, st, k, ρ, a, w, hst, h, hr, hag, hbl => by
  unfold sx at h
  have hd : ops.toList.all jgh = true := hst
  cases draw with
  | false =>
   refine wpIn_region_list (jgG jsC ops.toList a w hd ?_)
   have := jfb (P := P) (Q := Qx ρ0 B N n0 w0 k) (k := fun st' => k .normal st') (all := ops.toList) hsp (fun ρ' st' a' w' h1 h2 h3 h4 => ⟨.normal, ρ', st', rfl, h4, h1, h2, h3⟩) ops.toList ρ st a w hr hag hbl h
   simpa using this
  | true => exact wpIn_region_any hm (jfe jsC hd _ _ _ _ (joF (Q := Qx ρ0 B N n0 w0 k) hm hsp h hr hag hbl (fun ρ' st' a' w' h1 h2 h3 h4 => ⟨.normal, ρ', st', rfl, h4, h1, h2, h3⟩)))
 | .seq x y, cur, gs, st, k, ρ, a, w, hst, h, hr, hag, hbl => by
  unfold sx at h
  simp only [jc0, Bool.and_eq_true] at hst
  refine wpIn_seq (wpIn_mono (jcC hm hsp x cur gs st _ ρ a w hst.1 h hr hag hbl) ?_)
  rintro e a' w' ⟨ex, ρ', st', rfl, hk, hr', hag', hbl'⟩
  cases ex with
  | normal => exact jcC hm hsp y cur gs st' k ρ' a' w' hst.2 hk hr' hag' hbl'
  | exit j => exact ⟨.exit j, ρ', st', rfl, hk, hr', hag', hbl'⟩
  | ret => exact ⟨.ret, ρ', st', rfl, hk, hr', hag', hbl'⟩
 | .cond c x y, cur, gs, st, k, ρ, a, w, hst, h, hr, hag, hbl => by
  unfold sx at h
  simp only [jc0, Bool.and_eq_true] at hst
  split at h
  ·rename_i b hb
   have he := jos hr hb
   cases b with
   | true => exact wpIn_cond_true he (jcC hm hsp x cur gs st k ρ a w hst.1 h hr hag hbl)
   | false => exact wpIn_cond_false he (jcC hm hsp y cur gs st k ρ a w hst.2 h hr hag hbl)
  ·exact h.elim
 | .block id c, _, gs, st, k, ρ, a, w, hst, h, hr, hag, hbl => by
  unfold sx at h
  refine wpIn_block (wpIn_mono (jcC hm hsp c id gs st _ ρ a w hst h hr hag hbl) ?_)
  rintro e a' w' ⟨ex, ρ', st', rfl, hk, hr', hag', hbl'⟩
  cases ex with
  | normal => exact ⟨.normal, ρ', st', rfl, hk, hr', hag', hbl'⟩
  | exit j =>
   simp only [Ex.toExit, Exit.inBlock]
   dsimp only at hk
   split
   ·rename_i e
    rw [if_pos e] at hk
    exact ⟨.normal, ρ', st', rfl, hk, hr', hag', hbl'⟩
   ·rename_i e
    rw [if_neg e] at hk
    exact ⟨.exit j, ρ', st', rfl, hk, hr', hag', hbl'⟩
  | ret => exact ⟨.ret, ρ', st', rfl, hk, hr', hag', hbl'⟩
 | .exit j, _, _, st, k, ρ, a, w, _, h, hr, hag, hbl => wpIn_exit ⟨.exit j, ρ, st, rfl, h, hr, hag, hbl⟩
 | .ret, _, _, st, k, ρ, a, w, _, h, hr, hag, hbl => wpIn_ret ⟨.ret, ρ, st, rfl, h, hr, hag, hbl⟩
 | .loop _, _, _, _, _, _, _, _, hst, _, _, _, _ => by cases hst
 | .goto _, _, _, _, _, _, _, _, hst, _, _, _, _ => by cases hst
 | .rangeFunc _ _ _ _, _, _, _, _, _, _, _, hst, _, _, _, _ => by cases hst
end
def jmL : Nat → Code → Code
 | 0, _ => .skip
 | n + 1, .seq x y => .seq x (jmL n y)
 | _ + 1, c => c
def jmM : Nat → Code → Code
 | 0, c => c
 | n + 1, .seq _ y => jmM n y
 | _ + 1, _ => .skip
def juL : Nat → Code → Bool
 | 0, _ => true
 | n + 1, .seq _ y => juL n y
 | _ + 1, _ => false
section
variable [Globs] {P : Program} {sp : jab} {B : Bd} {N n0 : Nat} {ρ0 : Env} {w0 : World}
theorem jsD {fuel : Nat} {loops : jev} {drawn : Array Oper → St → (St → Prop) → Prop} (hsp : jac P sp) (hdr : jkb P B N n0 ρ0 w0 drawn) {Q : Exit → Act → World → Prop} {k : Ex → St → Prop} :
  ∀ (m : Nat) (c : Code) (cur : Nat) (gs : List Nat) (st : St) (ρ : Env) (a : Act) (w : World), juL m c = true → sx P sp N n0 fuel loops drawn (jmL m c) cur gs st k → Rel ρ B N n0 st a w → jap n0 ρ0 ρ → Bel B w0 w →
   (∀ ρ' st' a' w', k .normal st' → Rel ρ' B N n0 st' a' w' → jap n0 ρ0 ρ' → Bel B w0 w' → (jmM m c).wp P Q a' w') →
   (∀ ex ρ' st' a' w', ex ≠ .normal → k ex st' → Rel ρ' B N n0 st' a' w' → jap n0 ρ0 ρ' → Bel B w0 w' → Q ex.toExit a' w') → c.wp P Q a w
 | 0, c, _, _, st, ρ, a, w, _, h, hr, hag, hbl, hn, _ => hn ρ st a w h hr hag hbl
 | m + 1, .seq x y, cur, gs, st, ρ, a, w, hs, h, hr, hag, hbl, hn, he => by
  simp only [jmL] at h
  unfold sx at h
  refine wp_seq (wp_mono (jb4 hsp hdr x cur gs st _ ρ a w h hr hag hbl) ?_)
  rintro e a' w' ⟨ex, ρ', st', rfl, hk, hr', hag', hbl'⟩
  cases ex with
  | normal => exact jsD hsp hdr m y cur gs st' ρ' a' w' hs hk hr' hag' hbl' hn he
  | exit j => exact he (.exit j) ρ' st' a' w' (by simp) hk hr' hag' hbl'
  | ret => exact he .ret ρ' st' a' w' (by simp) hk hr' hag' hbl'
end
section
variable [Globs] {ρ : Env} {B B2 : Bd} {hp : Hp} {nx : Nat} {w w' : World}
theorem O.ok_moreB {h : Nat} (hs : ∀ k, B k → B2 k) : ∀ {o : O}, o.ok ρ B w h → (∀ k, o.blk (ρ h) = some k → ¬ B2 k) → o.ok ρ B2 w h
 | .box _ _, ⟨k, h1, h2, h3⟩, hn => ⟨k, h1, hn k (by simp [O.blk, h1, base]), h3⟩
 | .row _ _, ⟨hr, _⟩, hn => ⟨hr, fun k hk => hn k hk⟩
 | .ext _, ⟨h1, h2⟩, _ => ⟨h1, fun a n cap e hn => hs _ (h2 a n cap e hn)⟩
 | .view _ _ _, h, _ => h
 | .dead, _, _ => trivial
 | .nan _, h, _ => h
 | .err, h, _ => h
 | .atom, h, _ => h
 | .ebox _, ⟨k, o, h1, h2, h3⟩, _ => ⟨k, o, h1, hs _ h2, h3⟩
 | .arr _ _ _ _, ⟨k, h1, h2, h3⟩, hn => ⟨k, h1, hn k (by simp [O.blk, h1, base]), h3⟩
 | .xext _, h, _ => jqd hs h
 | .map _, ⟨b, e, c, h1, h2, h3⟩, hn => ⟨b, e, c, h1, hn b (by simp [O.blk, h1, jeA]), h3⟩
 | .rrow _, ⟨h1, h2⟩, hn => ⟨h1, fun k hk => ⟨hn k hk, (h2 k hk).2⟩⟩
theorem HRel.moreB (hh : HRel ρ B hp nx w) (hs : ∀ k, B k → B2 k) (hn : ∀ h o k, find hp h = some o → o.blk (ρ h) = some k → ¬ B2 k) : HRel ρ B2 hp nx w :=
 ⟨fun h o hf => ⟨(hh.ok h o hf).1, (hh.ok h o hf).2.1, O.ok_moreB hs (hh.ok h o hf).2.2 (fun k hk => hn h o k hf hk)⟩, hh.apart, hh.glob.sub hs⟩
def extB : O → Bool
 | .ext _ => true
 | .ebox _ => true
 | .xext _ => true
 | _ => false
theorem O.ok_lessB {h : Nat} (hs : ∀ k, B k → B2 k) : ∀ {o : O}, o.ok ρ B2 w h → extB o = false → o.ok ρ B w h
 | .box _ _, ⟨k, h1, h2, h3⟩, _ => ⟨k, h1, fun hb => h2 (hs _ hb), h3⟩
 | .row _ _, ⟨hr, hk⟩, _ => ⟨hr, fun k hk' hb => hk k hk' (hs _ hb)⟩
 | .ext _, _, h => by cases h
 | .view _ _ _, h, _ => h
 | .dead, _, _ => trivial
 | .nan _, h, _ => h
 | .err, h, _ => h
 | .atom, h, _ => h
 | .ebox _, _, h => by cases h
 | .arr _ _ _ _, ⟨k, h1, h2, h3⟩, _ => ⟨k, h1, fun hb => h2 (hs _ hb), h3⟩
 | .xext _, _, h => by cases h
 | .map _, ⟨b, e, c, h1, h2, h3⟩, _ => ⟨b, e, c, h1, fun hb => h2 (hs _ hb), h3⟩
 | .rrow _, ⟨h1, h2⟩, _ => ⟨h1, fun k hk => ⟨fun hb => (h2 k hk).1 (hs _ hb), (h2 k hk).2⟩⟩
theorem HRel.lessB (hh : HRel ρ B2 hp nx w) (hs : ∀ k, B k → B2 k) (hg : jb3 B w) (hE : ∀ h o, find hp h = some o → extB o = true → o.ok ρ B w h) : HRel ρ B hp nx w :=
 ⟨fun h o hf => ⟨(hh.ok h o hf).1, (hh.ok h o hf).2.1, by
  cases he : extB o with
  | true => exact hE h o hf he
  | false => exact O.ok_lessB hs (hh.ok h o hf).2.2 he⟩, hh.apart, hg⟩
def rngO : O → Bool
 | .view _ _ _ => false
 | .map _ => false
 | .rrow _ => false
 | _ => true
theorem joP {h k : Nat} : ∀ {o : O}, o.ok ρ B w h → rngO o = true → o.blk (ρ h) = some k → ∃ c t f, w.heap[k]? = some (.cells c t f)
 | .box _ _, ⟨g, h1, _, h3⟩, _, hb => by
  simp only [O.blk, h1, base, Option.some.injEq] at hb
  subst hb
  exact ⟨_, _, _, h3⟩
 | .arr _ _ _ _, ⟨g, h1, _, h3⟩, _, hb => by
  simp only [O.blk, h1, base, Option.some.injEq] at hb
  subst hb
  exact ⟨_, _, _, h3⟩
 | .row _ _, ⟨⟨_, hr⟩, _⟩, _, hb => by
  rcases hr with ⟨h1, _⟩ | ⟨g, cap, cur, h1, _, h3, _⟩
  ·simp [O.blk, h1, Value.ownBlock] at hb
  ·simp only [O.blk, h1, Value.ownBlock, Option.some.injEq] at hb
   subst hb
   exact ⟨_, _, _, h3⟩
theorem HRel.grown {row : Option Nat} (hh : HRel ρ B hp nx w) (hg : w.grownBy w' row) (hB : Old B w) (hr : ∀ r, row = some r → ¬ B r ∧ ∃ o : Obj, w.heap[r]? = some o ∧ o.isCells = false) (hn : ∀ h o, find hp h = some o → rngO o = true) : HRel ρ B hp nx w' := by
 obtain ⟨g, hgB, hgw, hgc⟩ : ∃ g, ¬ B g ∧ (∀ k, k < w.heap.size → k ≠ g → w'.heap[k]? = w.heap[k]?) ∧ ∀ c t f, w.heap[g]? ≠ some (.cells c t f) := by
  cases row with
  | none => exact ⟨w.heap.size, fun h => absurd (hB _ h) (Nat.lt_irrefl _), fun k hk _ => hg.block k hk (by simp), fun c t f h => absurd (Array.getElem?_eq_some_iff.1 h).1 (Nat.lt_irrefl _)⟩
  | some r =>
   obtain ⟨h1, o, h2, h3⟩ := hr r rfl
   refine ⟨r, h1, fun k hk hne => hg.block k hk (fun e => hne (Option.some.inj e)), fun c t f h => ?_⟩
   rw [h2] at h
   cases h
   cases h3
 refine ⟨fun h o hf => ⟨(hh.ok h o hf).1, (hh.ok h o hf).2.1, ?_⟩, hh.apart, jim hgw hgB hh.glob⟩
 refine O.ok_except hgw hgB (hh.ok h o hf).2.2 (fun he => ?_) (fun r c fl e => ?_)
 ·obtain ⟨c, t, f, hc⟩ := joP (hh.ok h o hf).2.2 (hn h o hf) he
  exact hgc c t f hc
 ·subst e
  cases hn h _ hf
theorem HRel.addAt {b ty : Nat} {cs : List C} (hh : HRel ρ B hp nx w) (hc : w.heap[b]? = some (.cells (cs.map (C.val ρ)).toArray ty (0, 0))) (hcs : ∀ c ∈ cs, C.lt nx c) (hb : ¬ B b) (hap : ∀ h o k, find hp h = some o → o.blk (ρ h) = some k → k ≠ b) :
  HRel (upd ρ nx (.pointer (some ⟨b, 0, none⟩))) B ((nx, .box ty cs) :: hp) (nx + 1) w := by
 have ha := jaC ρ nx (.pointer (some ⟨b, 0, none⟩))
 have h1 := (hh.agree ha).mono_nx (Nat.le_succ nx)
 refine ⟨fun h o hf => ?_, fun h o h' o' k hf hf' hne hk hk' => ?_, h1.glob⟩
 ·simp only [find] at hf
  split at hf
  ·rename_i e
   subst e
   cases hf
   refine ⟨Nat.lt_succ_self _, fun c hc' => C.lt_mono (Nat.le_succ _) (hcs c hc'), b, upd_same _ _ _, hb, ?_⟩
   rw [hc]
   congr 3
   exact List.map_congr_left fun c hc' => (C.val_agree ha (hcs c hc')).symm
  ·exact h1.ok h o hf
 ·have old : ∀ x ox, x ≠ nx → find ((nx, O.box ty cs) :: hp) x = some ox → find hp x = some ox := fun x ox hx hf => by
   simp only [find] at hf
   rw [if_neg (fun e => hx e.symm)] at hf
   exact hf
  have new : ∀ ox, find ((nx, O.box ty cs) :: hp) nx = some ox → ∀ q, ox.blk (upd ρ nx (.pointer (some ⟨b, 0, none⟩)) nx) = some q → q = b := fun ox hf q hq => by
   simp only [find, if_true, Option.some.injEq] at hf
   subst hf
   rw [upd_same] at hq
   simp only [O.blk, base, Option.some.injEq] at hq
   exact hq.symm
  by_cases e1 : h = nx
  ·subst e1
   have f' := old h' o' (fun e => hne e.symm) hf'
   have e2 := new o hf k hk
   have hlt := (hh.ok h' o' f').1
   rw [ha h' hlt] at hk'
   exact hap h' o' k f' hk' e2
  ·have f1 := old h o e1 hf
   have hlt := (hh.ok h o f1).1
   rw [ha h hlt] at hk
   by_cases e2 : h' = nx
   ·subst e2
    exact hap h o k f1 hk (new o' hf' k hk')
   ·have f2 := old h' o' e2 hf'
    rw [ha h' (hh.ok h' o' f2).1] at hk'
    exact hh.apart h o h' o' k f1 f2 hne hk hk'
end
end Go.Sx
end

section
namespace Go.Sh
open Go Go.Proofs Go.RowKit Go.Sx
attribute [local go_sem] Oper.semAt_some
def orS (S T : Sx.Spec) : Sx.Spec := fun vs hp nx => match S vs hp nx with
 | some t => some t
 | none => T vs hp nx
theorem juM {P : Program} {f : Nat} {M : Bool} {S T : Sx.Spec} (hs : jag P f M S) (ht : jag P f M T) : jag P f M (orS S T) := by
 have no : ∀ {S T : Sx.Spec}, RunOK P f M S → jxa P f T → ∀ ρ B w args hp nx t, T args hp nx = some t → t.sel.ob → (∀ x ∈ args, V.lt nx x) → HRel ρ B hp nx w → Old B w → False := by
  intro S T h1 h2 ρ B w args hp nx t ht ho hl hh hB
  obtain ⟨ob, v, _, _, hr⟩ := h2 ρ B w args hp nx t ht ho hl hh hB
  rw [h1.enter] at hr
  cases hr
 rcases hs with h1 | h1 <;> rcases ht with h2 | h2
 ·refine .inl ⟨h1.enter, fun ρ B w args hp nx t h ho hl hh hB => ?_⟩
  unfold orS at h
  split at h
  ·rename_i t' h'
   cases h
   exact h1.sound ρ B w args hp nx _ h' ho hl hh hB
  ·exact h2.sound ρ B w args hp nx _ h ho hl hh hB
 ·refine .inl ⟨h1.enter, fun ρ B w args hp nx t h ho hl hh hB => ?_⟩
  unfold orS at h
  split at h
  ·rename_i t' h'
   cases h
   exact h1.sound ρ B w args hp nx _ h' ho hl hh hB
  ·exact (no h1 h2 ρ B w args hp nx t h ho hl hh hB).elim
 ·refine .inl ⟨h2.enter, fun ρ B w args hp nx t h ho hl hh hB => ?_⟩
  unfold orS at h
  split at h
  ·rename_i t' h'
   cases h
   exact (no h2 h1 ρ B w args hp nx _ h' ho hl hh hB).elim
  ·exact h2.sound ρ B w args hp nx _ h ho hl hh hB
 ·refine .inr fun ρ B w args hp nx t h ho hl hh hB => ?_
  unfold orS at h
  split at h
  ·rename_i t' h'
   cases h
   exact h1 ρ B w args hp nx _ h' ho hl hh hB
  ·exact h2 ρ B w args hp nx _ h ho hl hh hB
def jty : Sx.Spec := orS (jal y94 y95) (orS (jal y96 y97) (jal y109 y110))
abbrev sp_94 : jab → jab := jav 94 true jty
theorem sp_94_ok {sp : jab} (h : jac Tryz.prog sp) : jac Tryz.prog (sp_94 sp) :=
 jah (juM y198 (juM y200 y202)) h
theorem jnV (a : Option Addr) (len cap : Nat) (w : World) : Calls Tryz.prog 116 #[.slice a len cap] w fun e w' => e = .returned (.func (.func 141) #[] #[.pointer (some ⟨w.heap.size, 0, none⟩)]) ∧ w' = w.alloc (.cells #[.slice a len cap] 81) := by
 refine callsIn_wide.1 (callsIn_of_wp (n := 3) Tryz.func116 rfl trivial ?_ rfl)
 simp only [Tryz.ntmps116, List.size_toArray, List.length_cons, List.length_nil, Nat.reduceAdd, Nat.reduceSub, Array.replicate_succ, Array.replicate_zero, List.push_toArray, List.append_toArray, List.nil_append, List.cons_append]
 gi_wp2
 go_ret
 exact ⟨rfl, rfl⟩
def jjw : Sx.Spec := fun vs hp nx => match vs with
 | [.w (.c (.o h))] => match (find hp h).bind O.cont with
  | some _ => some (.leaf ⟨True, .w (.c (.fn 141 [nx])), (nx, .box 81 [.o h]) :: hp, nx + 1⟩)
  | none => none
 | _ => none
theorem jsa : jag Tryz.prog 116 true jjw := by
 refine .inl ⟨jd4 (body := jaj Tryz.f116) Tryz.func116 (by kernel_rfl) (by kernel_rfl), fun ρ B w args hp nx t h ho hl hh hB => ?_⟩
 unfold jjw at h
 split at h
 ·rename_i k
  split at h
  ·rename_i c hc
   cases h
   cases hf : find hp k with
   | none => simp [hf] at hc
   | some o =>
    simp only [hf, Option.bind_some] at hc
    obtain ⟨hlt, a, cap, hv, _⟩ := jl5 hh hf hc
    have hargs : ([V.w (.c (.o k))].map (V.val ρ)).toArray = #[.slice a c.n cap] := by
     simp [V.val, W.val, C.val, hv]
    rw [hargs]
    refine (jnV a c.n cap w).mono ?_
    rintro e w' ⟨rfl, rfl⟩
    refine ⟨upd ρ nx (.pointer (some ⟨w.heap.size, 0, none⟩)), ?_, ?_⟩
    ·simp [RT.sel, V.val, W.val, C.val]
    ·refine jcc hh hB _ _ _ (.box 81 [.o k]) rfl rfl (show V.lt (nx + 1) (.w (.c (.fn 141 [nx]))) from fun x hx => ?_) true (fun x hx => ?_) ⟨w.heap.size, upd_same _ _ _, fun hb => absurd (hB _ hb) (Nat.lt_irrefl _), ?_⟩ (by simp [O.blk, base])
     ·simp only [List.mem_singleton] at hx
      subst hx
      exact Nat.lt_succ_self _
     ·simp only [List.mem_singleton] at hx
      subst hx
      exact Nat.lt_succ_of_lt hlt
     ·rw [heap_alloc_new]
      have : upd ρ nx (.pointer (some ⟨w.heap.size, 0, none⟩)) k = ρ k := jaC ρ nx _ k hlt
      simp [C.val, this, hv]
  ·cases h
 ·cases h
abbrev sp_116 : jab → jab := jav 116 true jjw
theorem sp_116_ok {sp : jab} (h : jac Tryz.prog sp) : jac Tryz.prog (sp_116 sp) := jah jsa h
end Go.Sh
end

section
namespace Go.Sh.Bk
open Go Go.Proofs Go.RowKit Go.Sx
open Go.IntKind (wrap)
@[reducible] def tg : Globs := { tab := fun _ => none }
attribute [local instance] tg
def sub : List Nat → Code → Code
 | [], c => c
 | 0 :: p, .seq x _ => sub p x
 | _ :: p, .seq _ y => sub p y
 | 0 :: p, .cond _ x _ => sub p x
 | _ :: p, .cond _ _ y => sub p y
 | _ :: p, .block _ c => sub p c
 | _ :: p, .loop c => sub p c
 | _, c => c
noncomputable def body : Code := (Tryz.f141.body).getD .skip
structure Rd (kb : Nat) (sv : Value) (zs : List (List Int)) (W : World) : Prop where
 box : W.cell? ⟨kb, 0, none⟩ = some sv
 row : jbc W sv (.recs 2 zs)
def Kp (kb : Nat) (sv : Value) (zs : List (List Int)) (W W' : World) : Prop := Rd kb sv zs W → Rd kb sv zs W'
def encs (zs : List (List Int)) (x : Fin zs.length) : Array Value := #[.int .i64 (x.1 : Int), .agg #[.int .i64 ((zs.getD x.1 []).getD 0 0), .int .i64 ((zs.getD x.1 []).getD 1 0)]]
def bk (n k : Nat) : List (Fin n) := (List.finRange n).reverse.take k
theorem jya {n k : Nat} (h : k ≤ n) : (bk n k).length = k := by simp [bk, h]
theorem bk_succ {n k : Nat} (h : k < n) : bk n (k + 1) = bk n k ++ [⟨n - 1 - k, by omega⟩] := by
 unfold bk
 rw [List.take_succ_eq_append_getElem (by simpa using h)]
 congr 2
 simp
structure ActOK (y : Value) (kb : Nat) (i : Int) (a : Act) : Prop where
 size : a.tmps.size = 19
 defers : a.defers = []
 t0 : a.tmps.getD 0 undef = y
 t1 : a.tmps.getD 1 undef = .pointer (some ⟨kb, 0, none⟩)
 t3 : a.tmps.getD 3 undef = .int .i64 i
def stA (y : Value) (zs : List (List Int)) : St := ⟨[(0, .w (.c (.d (.v y)))), (1, .w (.c (.p 0 0 1 0)))], [(0, .ebox [.o 1]), (1, .ext (.recs 2 zs))], 2⟩
def stK (y : Value) (zs : List (List Int)) (i : Int) : St := ⟨(3, vi .i64 i) :: (stA y zs).tm, (stA y zs).hp, 2⟩
def stC (y : Value) (zs : List (List Int)) (i : Int) : St := ⟨(8, vb (decide (i ≥ 0))) :: (stK y zs i).tm, (stA y zs).hp, 2⟩
def stD (y : Value) (zs : List (List Int)) (i : Int) : St := ⟨(16, .w (.a [.d (.i .i64 ((zs.getD i.toNat []).getD 0 0)), .d (.i .i64 ((zs.getD i.toNat []).getD 1 0))])) :: (12, vi .i64 i) :: (11, .w (.c (.d (.v y)))) :: (stK y zs i).tm, (stA y zs).hp, 2⟩
def rho (kb : Nat) (sv : Value) : Env := fun h => if h = 0 then .pointer (some ⟨kb, 0, none⟩) else sv
theorem jgt {kb : Nat} {sv : Value} {zs : List (List Int)} {W : World} (h : Rd kb sv zs W) (y : Value) : HRel (rho kb sv) (fun k => k < W.heap.size) (stA y zs).hp 2 W := by
 refine ⟨fun x o hf => ?_, fun x o x' o' b hf hf' hne hb => ?_, ⟨(fun _ _ h => nomatch h), (fun _ _ h => nomatch h)⟩⟩
 ·simp only [stA, find] at hf
  split at hf
  ·rename_i e
   subst e
   cases hf
   refine ⟨by omega, (fun c hc => by simp only [List.mem_singleton] at hc; subst hc; exact (by decide : (1 : Nat) < 2)), kb, 0, rfl, World.block_lt_of_cell? W _ h.box, fun j c hj => ?_⟩
   match j, hj with
   | 0, hj =>
    cases hj
    exact h.box
  ·split at hf
   ·rename_i e
    subst e
    cases hf
    exact ⟨by omega, trivial, h.row, h.row.lt (Nat.succ_pos 1)⟩
   ·cases hf
 ·simp only [stA, find] at hf
  split at hf
  ·cases hf; cases hb
  ·split at hf
   ·cases hf; cases hb
   ·cases hf
theorem jrd {kb : Nat} {sv y : Value} {zs : List (List Int)} {i : Int} {a : Act} {W : World} (h : Rd kb sv zs W) (ha : ActOK y kb i a) : Rel (rho kb sv) (fun k => k < W.heap.size) 19 2 (stK y zs i) a W := by
 refine ⟨fun t v hv => ?_, ha.size, ha.defers, jgt h y, fun k hk => hk, Nat.le_refl _⟩
 simp only [stK, stA, jbi] at hv
 split at hv
 ·rename_i e; subst e; cases hv; exact ⟨trivial, ha.t3⟩
 ·split at hv
  ·rename_i e; subst e; cases hv; exact ⟨trivial, ha.t0⟩
  ·split at hv
   ·rename_i e; subst e; cases hv; exact ⟨(by decide : (0 : Nat) < 2), ha.t1⟩
   ·cases hv
theorem back {kb : Nat} {sv y : Value} {zs : List (List Int)} {i : Int} {ρ : Env} {B : Bd} {a : Act} {W : World} (hag : jap 2 (rho kb sv) ρ) (hr : Rel ρ B 19 2 (stK y zs i) a W) : Rd kb sv zs W ∧ ActOK y kb i a := by
 have h0 : ρ 0 = .pointer (some ⟨kb, 0, none⟩) := hag 0 (by decide)
 have h1 : ρ 1 = sv := hag 1 (by decide)
 refine ⟨⟨?_, ?_⟩, hr.size, hr.defers, (hr.tm 0 _ rfl).2, ?_, (hr.tm 3 _ rfl).2⟩
 ·obtain ⟨_, _, k, o, hk, _, hc⟩ := hr.heap.ok 0 _ rfl
  have := hc 0 _ rfl
  rw [h0] at hk
  have e : (⟨kb, 0, none⟩ : Addr) = ⟨k, o, none⟩ := Option.some.inj (Value.pointer.inj hk)
  cases e
  rw [← h1]
  exact this
 ·rw [← h1]
  exact (hr.heap.ok 1 _ rfl).2.2.1
 ·have := (hr.tm 1 _ rfl).2
  rw [this]
  show Value.pointer (some ⟨(base (ρ 0)).block, (base (ρ 0)).off + 0, none⟩) = _
  rw [h0]
  rfl
theorem jtA {c : Code} {st st2 : St} {ρ : Env} {a : Act} {w : World} (hr : Rel ρ (fun x => x < w.heap.size) 19 2 st a w)
  (h : sx Tryz.prog (fun _ => none) 19 2 0 (fun _ _ _ => none) (fun _ _ _ => False) c 0 [] st (fun e st' => match e with | .normal => Le 2 st' st2 | _ => False)) :
  c.wp Tryz.prog (fun e a' w' => e = .normal ∧ w.grownBy w' none ∧ ∃ ρ', Rel ρ' (fun x => x < w.heap.size) 19 2 st2 a' w' ∧ jap 2 ρ ρ') a w := by
 refine wp_mono (jb4 (fun _ _ _ h => by cases h) (fun _ _ _ _ _ _ _ _ h => h.elim) c 0 [] st _ ρ a w h hr (jap.refl _ _) (Bel.refl _ _)) ?_
 rintro e a' w' ⟨ex, ρ', st', rfl, hk, hr', hag, hbl⟩
 cases ex with
 | normal =>
  obtain ⟨ρ2, hr2, hag2⟩ := Le.rel hk hr'
  exact ⟨rfl, ⟨hbl.os, hbl.tape, hbl.output, hbl.size, fun k hk _ => hbl.block k hk⟩, ρ2, hr2, fun x hx => (hag2 x hx).trans (hag x hx)⟩
 | exit j => exact hk.elim
 | ret => exact hk.elim
abbrev pc (c : Code) (st st2 : St) : Prop := sx Tryz.prog (fun _ => none) 19 2 0 (fun _ _ _ => none) (fun _ _ _ => False) c 0 [] st (fun e st' => match e with | .normal => Le 2 st' st2 | _ => False)
def opsOf : Code → List Oper
 | .region _ ops _ => ops.toList
 | _ => []
noncomputable def jfj : List Oper := opsOf (sub [1, 0, 0, 1, 0, 0, 0] body)
theorem pc0 (y : Value) (zs : List (List Int)) (hl : zs.length ≤ 17592186044416) : pc (sub [0] body) (stA y zs) (stK y zs ((zs.length : Int) - 1)) := by
 refine Eq.mp (by kernel_rfl : (Ob True ∧ (Ob (wrap IntKind.i64 ((↑(List.length zs) : Int) - (1 : Int)) = (zs.length : Int) - 1) ∧ (Ob (y = y) ∧ (Ob ((0 : Nat) = (0 : Nat)) ∧ (Ob (zs = zs) ∧ True))))) = _) ?_
 exact ⟨⟨trivial⟩, ⟨IntWalk.i64_in _ (by omega)⟩, ⟨rfl⟩, ⟨rfl⟩, ⟨rfl⟩, trivial⟩
theorem pc1 (y : Value) (zs : List (List Int)) (i : Int) : pc (sub [1, 0, 0, 0, 0] body) (stK y zs i) (stC y zs i) := by
 refine Eq.mp (by kernel_rfl : (Ob (decide (i ≥ (0 : Int)) = decide (i ≥ (0 : Int))) ∧ (Ob (i = i) ∧ (Ob (y = y) ∧ (Ob ((0 : Nat) = (0 : Nat)) ∧ (Ob (zs = zs) ∧ True))))) = _) ?_
 exact ⟨⟨rfl⟩, ⟨rfl⟩, ⟨rfl⟩, ⟨rfl⟩, ⟨rfl⟩, trivial⟩
theorem pc3 (y : Value) (zs : List (List Int)) (i : Int) (hi : 0 ≤ i ∧ i ≤ 17592186044416) : pc (sub [1, 0, 0, 1, 1] body) (stK y zs i) (stK y zs (i - 1)) := by
 refine Eq.mp (by kernel_rfl : (Ob (wrap IntKind.i64 (i - (1 : Int)) = i - 1) ∧ (Ob (y = y) ∧ (Ob ((0 : Nat) = (0 : Nat)) ∧ (Ob (zs = zs) ∧ True)))) = _) ?_
 exact ⟨⟨IntWalk.i64_in _ (by omega)⟩, ⟨rfl⟩, ⟨rfl⟩, ⟨rfl⟩, trivial⟩
theorem pc2 (y : Value) (zs : List (List Int)) (i : Int) (hi : 0 ≤ i ∧ i < (zs.length : Int)) : jgr Tryz.prog (fun _ => none) 19 jfj (jfj.take 6) (stK y zs i) (fun st' => Le 2 st' (stD y zs i)) := by
 refine Eq.mp (by kernel_rfl : (Ob True ∧ (Ob ((0 : Int) ≤ i ∧ i < (↑(List.length zs) : Int)) ∧ (Ob (Int.toNat i < List.length zs) ∧
  (Ob (List.getD (List.getD zs (Int.toNat i) []) (0 : Nat) (0 : Int) = List.getD (List.getD zs (Int.toNat i) []) (0 : Nat) (0 : Int)) ∧
  (Ob (List.getD (List.getD zs (Int.toNat i) []) (1 : Nat) (0 : Int) = List.getD (List.getD zs (Int.toNat i) []) (1 : Nat) (0 : Int)) ∧
  (Ob (i = i) ∧ (Ob (y = y) ∧ (Ob (i = i) ∧ (Ob (y = y) ∧ (Ob ((0 : Nat) = (0 : Nat)) ∧ (Ob (zs = zs) ∧ True))))))))))) = _) ?_
 exact ⟨⟨trivial⟩, ⟨hi⟩, ⟨by omega⟩, ⟨rfl⟩, ⟨rfl⟩, ⟨rfl⟩, ⟨rfl⟩, ⟨rfl⟩, ⟨rfl⟩, ⟨rfl⟩, ⟨rfl⟩, trivial⟩
theorem jgi {y : Value} {zs : List (List Int)} {i : Int} {t : Nat} (h : t ≠ 3 ∧ t ≠ 0 ∧ t ≠ 1) : jbi (stK y zs i).tm t = none := by
 simp only [stK, stA, jbi]
 rw [if_neg (Ne.symm h.1), if_neg (Ne.symm h.2.1), if_neg (Ne.symm h.2.2)]
theorem relC {y : Value} {zs : List (List Int)} {i : Int} {ρ : Env} {B : Bd} {a : Act} {W : World} (h : Rel ρ B 19 2 (stC y zs i) a W) : Rel ρ B 19 2 (stK y zs i) a W := by
 refine ⟨fun t v hv => h.tm t v ?_, h.size, h.defers, h.heap, h.le, h.n0⟩
 have hne : t ≠ 8 := fun e => by subst e; rw [jgi (by decide)] at hv; cases hv
 show jbi ((8, _) :: _) t = some v
 simp only [jbi]
 rw [if_neg (Ne.symm hne)]
 exact hv
theorem relD {y : Value} {zs : List (List Int)} {i : Int} {ρ : Env} {B : Bd} {a : Act} {W : World} (h : Rel ρ B 19 2 (stD y zs i) a W) : Rel ρ B 19 2 (stK y zs i) a W := by
 refine ⟨fun t v hv => h.tm t v ?_, h.size, h.defers, h.heap, h.le, h.n0⟩
 have h1 : t ≠ 16 := fun e => by subst e; rw [jgi (by decide)] at hv; cases hv
 have h2 : t ≠ 12 := fun e => by subst e; rw [jgi (by decide)] at hv; cases hv
 have h3 : t ≠ 11 := fun e => by subst e; rw [jgi (by decide)] at hv; cases hv
 show jbi ((16, _) :: (12, _) :: (11, _) :: _) t = some v
 simp only [jbi]
 rw [if_neg (Ne.symm h1), if_neg (Ne.symm h2), if_neg (Ne.symm h3)]
 exact hv
theorem ActOK.put {y : Value} {kb : Nat} {i : Int} {a : Act} (h : ActOK y kb i a) {t : Nat} {v : Value} (ht : t ≠ 3 ∧ t ≠ 0 ∧ t ≠ 1) (hlt : t < 19) : ActOK y kb i (a.put (some t) v) := by
 have hg : ∀ x, x ≠ t → (a.put (some t) v).tmps.getD x undef = a.tmps.getD x undef := fun x hx => by
  rw [jcK (fun y hy => by cases hy; rw [h.size]; exact hlt), if_neg (fun e => hx (Option.some.inj e).symm)]
 exact ⟨by rw [jcy]; exact h.size, by rw [jcd]; exact h.defers, (hg 0 (Ne.symm ht.2.1)).trans h.t0, (hg 1 (Ne.symm ht.2.2)).trans h.t1, (hg 3 (Ne.symm ht.1)).trans h.t3⟩
set_option maxHeartbeats 2000000 in
theorem juN (n l kb : Nat) (sv : Value) (zs : List (List Int)) (hl : zs.length ≤ 17592186044416) (J Jx : List (Fin zs.length) → World → Prop)
  (hY : ∀ pre x W, J pre W → pre.length < zs.length → YieldAt Fence.wide (n - 1) Tryz.prog l (encs zs x) W fun e W' =>
   (e = .returned (.bool true) ∧ J (pre ++ [x]) W' ∧ Kp kb sv zs W W') ∨ (e = .returned (.bool false) ∧ Jx (pre ++ [x]) W'))
  (hJ : ∀ A B pre, J pre A → A.grownBy B none → J pre B) (a : Act) (w : World) (hr : Rd kb sv zs w) (ha : ActOK (.func (.yield l) #[] #[]) kb ((zs.length : Int) - 1) a) (hj : J [] w) :
  (sub [1] body).wpIn Fence.wide n Tryz.prog (bodyPost Tryz.prog Tryz.f141 fun e W' => (∃ v, e = .returned v) ∧
   ((∃ ys, ys = bk zs.length zs.length ∧ J ys W') ∨ (∃ pre, True ∧ Jx pre W'))) a w := by
 refine wpIn_block (wpIn_loop (fun a w => ∃ k : Nat, k ≤ zs.length ∧ Rd kb sv zs w ∧ ActOK (.func (.yield l) #[] #[]) kb ((zs.length : Int) - 1 - k) a ∧ J (bk zs.length k) w) (fun a _ => (intOf (a.tmps.getD 3 undef) + 1).toNat)
  ⟨0, Nat.zero_le _, hr, by simpa using ha, hj⟩ ?_)
 rintro a w ⟨k, hk, hr, ha, hj⟩
 have hmu : (intOf (a.tmps.getD 3 undef) + 1).toNat = zs.length - k := by
  rw [ha.t3]
  simp [intOf]
  omega
 rw [hmu]
 refine wpIn_seq (wpIn_seq (wpIn_wide.2 (wp_mono (jtA (jrd hr ha) (pc1 _ zs _)) ?_)))
 rintro e a1 w1 ⟨rfl, hg1, ρ1, hr1, hag1⟩
 have hj1 := hJ _ _ _ hj hg1
 obtain ⟨hrd1, hact1⟩ := back hag1 (relC hr1)
 have hc : a1.eval (.tmp 8) = .bool (decide ((zs.length : Int) - 1 - k ≥ 0)) := (hr1.tm 8 _ rfl).2
 by_cases hlt : k < zs.length
 ·refine wpIn_cond_true (by rw [hc, decide_eq_true (by omega)]) (wpIn_skip ?_)
  refine wpIn_seq (wpIn_block (wpIn_seq (wpIn_region_list ?_)))
  have hi : 0 ≤ (zs.length : Int) - 1 - k ∧ (zs.length : Int) - 1 - k < (zs.length : Int) := by omega
  have hx : ((zs.length - 1 - k : Nat) : Int) = (zs.length : Int) - 1 - k := by omega
  have hxn : ((zs.length : Int) - 1 - k).toNat = zs.length - 1 - k := by omega
  refine Eq.mp (congrArg (fun L => wpListIn Fence.wide n Tryz.prog _ _ L a1 w1) (List.take_append_drop 6 jfj)) ?_
  refine jfS (by rintro ⟨_, _, ⟨_, hv⟩, _⟩; cases hv) (jfj.take 6) a1 w1 (jfb (all := jfj) (n0 := 2) (N := 19) (ρ0 := rho kb sv) (w0 := w1) (B := fun x => x < w1.heap.size) (sp := fun _ => none) (k := fun st' => Le 2 st' (stD (.func (.yield l) #[] #[]) zs ((zs.length : Int) - 1 - k)))
   (fun _ _ _ h => by cases h) ?_ (jfj.take 6) (rho kb sv) _ a1 w1 (jrd hrd1 hact1) (jap.refl _ _) (Bel.refl _ _) (pc2 _ zs _ hi))
  intro ρ2 st2 a2 w2 hr2 hag2 hbl2 hle2
  obtain ⟨ρ3, hr3, hag3⟩ := hle2.rel hr2
  have hag23 : jap 2 (rho kb sv) ρ3 := fun x hx => (hag3 x hx).trans (hag2 x hx)
  obtain ⟨hrd2, hact2⟩ := back hag23 (relD hr3)
  have hj2 := hJ _ _ _ hj1 ⟨hbl2.os, hbl2.tape, hbl2.output, hbl2.size, fun k hk _ => hbl2.block k hk⟩
  have g11 : a2.eval (.tmp 11) = .func (.yield l) #[] #[] := (hr3.tm 11 _ rfl).2
  have g12 : a2.eval (.tmp 12) = .int .i64 ((zs.length - 1 - k : Nat) : Int) := by rw [hx]; exact (hr3.tm 12 _ rfl).2
  have g16 : a2.eval (.tmp 16) = .agg #[.int .i64 ((zs.getD (zs.length - 1 - k) []).getD 0 0), .int .i64 ((zs.getD (zs.length - 1 - k) []).getD 1 0)] := by
   rw [← hxn]
   exact (hr3.tm 16 _ rfl).2
  obtain ⟨fn, tmps, assign, bd, hy, hR⟩ := hY (bk zs.length k) ⟨zs.length - 1 - k, by omega⟩ w2 hj2 (by rw [jya hk]; exact hlt)
  show wpListIn _ _ _ _ _ _ _ _
  refine wpListIn_plain rfl fun K hK => ⟨fun _ _ => trivial, ?_⟩
  have hcall : ∀ o : Oper, o.op = .call { callee := .value (.tmp 11), args := #[.tmp 12, .tmp 16], argTypes := #[3, 30] } → ((o.semAt Fence.wide.round a2.eval).run Tryz.prog w2) = .ok (.round l fn tmps assign bd) w2 := by
   intro o ho
   rw [Fence.wide_round, Oper.semAt_none]
   unfold execOp
   simp only [ho, resolve, g11, Deferred.ofValue, Sem.run_bind, Sem.run_pure, Result.andThen_ok, invoke, List.map_toArray, List.map_cons, List.map_nil, g12, g16]
   exact hy
  rw [hcall _ rfl]
  refine ⟨(fun h => by cases h), hR.mono ?_⟩
  have hact3 : ∀ b, ActOK (.func (.yield l) #[] #[]) kb ((zs.length : Int) - 1 - k) ((a2.put (some 17) (.bool b)).put (some 18) (.bool !b)) := fun b => (hact2.put (by decide) (by decide)).put (by decide) (by decide)
  have hnot : ∀ (o : Oper) (b : Bool) (w3 : World), o.op = .unOp .not 4 (.tmp 17) → ((o.semAt Fence.wide.round (a2.put (some 17) (.bool b)).eval).run Tryz.prog w3) = .ok (.value (.bool !b)) w3 := by
   intro o b w3 ho
   have h17 : (a2.put (some 17) (.bool b)).eval (.tmp 17) = .bool b := by
    show (Act.put _ (some 17) _).tmps.getD 17 undef = _
    rw [jcK (fun x hx => by cases hx; rw [hact2.size]; decide), if_pos rfl]
   rw [Fence.wide_round, Oper.semAt_none]
   unfold execOp
   simp only [ho, h17]
   rfl
  have h18 : ∀ b, ((a2.put (some 17) (.bool b)).put (some 18) (.bool !b)).eval (.tmp 18) = .bool !b := fun b => by
   show (Act.put _ (some 18) _).tmps.getD 18 undef = _
   rw [jcK (fun x hx => by cases hx; rw [jcy, hact2.size]; decide), if_pos rfl]
  rintro e w3 (⟨rfl, hj3, hk3⟩ | ⟨rfl, hj3⟩)
  ·refine hK _ _ (wpListIn_plain rfl fun K hK => ⟨fun _ _ => trivial, ?_⟩)
   rw [hnot _ true w3 rfl]
   refine hK _ _ (wpListIn_nil ?_)
   refine wpIn_cond_false (h18 true) (wpIn_skip ?_)
   refine wpIn_wide.2 (wp_mono (jtA (jrd (hk3 hrd2) (hact3 true)) (pc3 _ zs _ (by omega))) ?_)
   rintro e a7 w7 ⟨rfl, hg7, ρ7, hr7, hag7⟩
   obtain ⟨hrd7, hact7⟩ := back hag7 hr7
   refine ⟨⟨k + 1, hlt, hrd7, ?_, ?_⟩, ?_⟩
   ·have e : (zs.length : Int) - 1 - ((k + 1 : Nat) : Int) = (zs.length : Int) - 1 - k - 1 := by omega
    rw [e]
    exact hact7
   ·rw [bk_succ hlt]
    exact hJ _ _ _ hj3 hg7
   ·rw [hact7.t3]
    simp [intOf]
    omega
  ·refine hK _ _ (wpListIn_plain rfl fun K hK => ⟨fun _ _ => trivial, ?_⟩)
   rw [hnot _ false w3 rfl]
   refine hK _ _ (wpListIn_nil ?_)
   refine wpIn_cond_true (h18 false) (wpIn_ret ?_)
   exact ⟨(hact3 false).defers, .tuple #[], results_none rfl _ _ _, ⟨_, rfl⟩, .inr ⟨_, trivial, hj3⟩⟩
 ·obtain rfl : k = zs.length := by omega
  refine wpIn_cond_false (by rw [hc, decide_eq_false (by omega)]) (wpIn_exit ?_)
  exact ⟨hact1.defers, .tuple #[], results_none rfl _ _ _, ⟨_, rfl⟩, .inl ⟨_, rfl, hj1⟩⟩
theorem jsb {v : Value} {c : Cont} {A C : World} (h : jbc A v c) (hb : Below A.heap.size A C) : jbc C v c := by
 obtain ⟨a, cap, hv, hc, hcells⟩ := h
 refine ⟨a, cap, hv, hc, fun hn => ?_⟩
 obtain ⟨b, off, hab, hx⟩ := hcells hn
 refine ⟨b, off, hab, fun j x hj => ?_⟩
 have := hx j x hj
 exact (hb.cell (p := ⟨b, off + j, none⟩) (World.block_lt_of_cell? A _ this)).trans this
theorem Rd.below {kb : Nat} {sv : Value} {zs : List (List Int)} {A C : World} (h : Rd kb sv zs A) (hb : Below A.heap.size A C) : Rd kb sv zs C :=
 ⟨(hb.cell (p := ⟨kb, 0, none⟩) (World.block_lt_of_cell? A _ h.box)).trans h.box, jsb h.row hb⟩
theorem back_stops (n kb : Nat) (sv : Value) (zs : List (List Int)) (hl : zs.length ≤ 17592186044416) (w : World) (hw : Rd kb sv zs w) :
  SeqStopsK Fence.wide n Tryz.prog 141 #[.pointer (some ⟨kb, 0, none⟩)] (encs zs) (Kp kb sv zs) (fun ys => ys = bk zs.length zs.length) (fun _ => True) zs.length w := by
 intro l J Jx W hW hJ hJx hY h0
 have hr := hw.below hW
 have hb : Tryz.f141.body = some (.seq (sub [0] body) (sub [1] body)) := by kernel_rfl
 refine callsIn_of_wp Tryz.func141 hb trivial ?_ rfl
 generalize ha0 : ({ tmps := (#[Value.func (.yield l) #[] #[]] ++ #[Value.pointer (some ⟨kb, 0, none⟩)]) ++ Array.replicate (Tryz.f141.ntmps - (#[Value.func (.yield l) #[] #[]] ++ #[Value.pointer (some ⟨kb, 0, none⟩)]).size) undef, defers := [] } : Act) = a0
 have s0 : a0.tmps.size = 19 := by rw [← ha0]; kernel_rfl
 have d0 : a0.defers = [] := by rw [← ha0]
 have t0 : a0.tmps.getD 0 undef = .func (.yield l) #[] #[] := by rw [← ha0]; kernel_rfl
 have t1 : a0.tmps.getD 1 undef = .pointer (some ⟨kb, 0, none⟩) := by rw [← ha0]; kernel_rfl
 clear ha0
 have hrel0 : Rel (rho kb sv) (fun x => x < W.heap.size) 19 2 (stA (.func (.yield l) #[] #[]) zs) a0 W := by
  refine ⟨fun t v hv => ?_, s0, d0, jgt hr _, fun k hk => hk, Nat.le_refl _⟩
  simp only [stA, jbi] at hv
  split at hv
  ·rename_i e; subst e; cases hv; exact ⟨trivial, t0⟩
  ·split at hv
   ·rename_i e; subst e; cases hv; exact ⟨(by decide : (0 : Nat) < 2), t1⟩
   ·cases hv
 refine wpIn_seq (wpIn_wide.2 (wp_mono (jtA hrel0 (pc0 _ zs hl)) ?_))
 rintro e a1 w1 ⟨rfl, hg1, ρ1, hr1, hag1⟩
 obtain ⟨hrd1, hact1⟩ := back hag1 hr1
 exact juN n l kb sv zs hl J Jx hY (fun A B pre hj hg => hJ pre A B none hj hg (fun r e => by cases e)) a1 w1 hrd1 hact1 (hJ [] W w1 none h0 hg1 (fun r e => by cases e))
end Go.Sh.Bk
end

section
open Go.RowKit
namespace Go.Sx
variable [Globs] {P : Program} {sp : jab}
theorem jjx {f : Nat} {fn : Func} {body : Code} {shs : List SV} {g : List Lf → Option GT} (hf : P.funcs[f]? = some fn) (hb : fn.body = some body) (hn : (fn.name == "runtime.NumGoroutine") = false)
  (h : ∀ ls t, g ls = some t → t.sel.1 → ∀ b : Bv, jgf shs 0 ls = some b → ∀ (ρ0 : Env) (w : World), (∀ x ∈ b.vs, V.lt b.n x) → HRel ρ0 (fun k => k < w.heap.size) b.hp b.n w →
   Calls P f (b.vs.map (V.val ρ0)).toArray w fun e w' => ∃ ρ' v hp' nx', e = .returned (V.val ρ' v) ∧ v.lt nx' ∧ jap b.n ρ0 ρ' ∧ HRel ρ' (fun k => k < w.heap.size) hp' nx' w' ∧ Bel (fun k => k < w.heap.size) w w' ∧ jnB b.n t.sel.2 v hp') :
  jag P f true (jal shs g) := by
 refine .inl ⟨jd4 hf hb hn, fun ρ B w args hp nx t hS hob hlt hh hB => ?_⟩
 unfold jal at hS
 split at hS
 ·rename_i ls am hto
  split at hS
  ·rename_i t' hg
   cases hS
   rw [jhL] at hob ⊢
   have hob : t'.sel.1 := hob
   obtain ⟨b, ρ0, hbl, q⟩ := ji4 hh hB shs args ls am hto hlt 0 (fun _ => undef) []
   rw [List.append_nil] at hbl
   have hbn : b.n = am.length := by have := q.nn; omega
   have hh0 : HRel ρ0 (fun k => k < w.heap.size) b.hp b.n w := by
    refine ⟨fun x o hf => ?_, fun x o x' o' k hf hf' _ hb => ?_, jhI hh.glob hB⟩
    ·obtain ⟨_, a2, a3, a4, _⟩ := q.heap x o hf
     exact ⟨a2, a3, a4⟩
    ·obtain ⟨_, _, _, _, a5⟩ := q.heap x o hf
     rw [a5] at hb
     cases hb
   have hcalls := h ls t' hg hob b hbl ρ0 w q.lt hh0
   rw [q.val] at hcalls
   refine hcalls.mono ?_
   rintro e w' ⟨ρ', v, hp', nx', rfl, hvlt, hag, hh', hbel, hfit⟩
   have hbw : Below w.heap.size w w' := hbel.below
   have hh1 := hh.below hbw hB
   obtain ⟨ws, hws, hfw⟩ : ∃ ws, (jcO ws).val ρ' = v.val ρ' ∧ jkd b.n hp' t'.sel.2 ws [] := by
    match v, hfit with
    | .w u, hfit => exact ⟨[u], rfl, hfit⟩
    | .t [], hfit => exact ⟨[], rfl, hfit⟩
    | .t (x :: y :: l), hfit => exact ⟨x :: y :: l, rfl, hfit⟩
   have hin : CIn ρ ρ' B hp hp' nx w.heap.size b.n am w' [] := by
    refine ⟨hh1, fun k o b hk hbk => .inl (O.blk_lt (hh.ok k o hk).2.2 hbk).1, fun i hi => ?_⟩
    have hi2 : i < am.length := by omega
    have h1 := q.own i hi2
    rw [Nat.zero_add] at h1
    refine ⟨?_, by rw [hag i hi]; exact h1.symm⟩
    have : am.getD i (.d (.v undef)) = am[i] := by simp [List.getD, hi2]
    rw [this]
    exact q.xlt _ (List.getElem_mem hi2)
   obtain ⟨us2, ρ2, k⟩ := jhK (m := w.heap.size) (fun k hk => hB k hk) hh' t'.sel.2 ws [] hfw nx hp ρ hin
   refine ⟨ρ2, ?_, k.agree, jgX k.lt, k.le, k.heap, jcD hbw hB, fun _ => hbw, fun _ h o b hle hf hbk => ?_⟩
   ·show Ending.returned _ = Ending.returned ((jcO (jcu am t'.sel.2 nx).ws).val ρ2)
    rw [← hws, jcV, jcV]
    simp only [k.val]
   ·have hf : find ((jcu am t'.sel.2 nx).hp ++ hp) h = some o := hf
    rw [jaI] at hf
    cases hg2 : find (jcu am t'.sel.2 nx).hp h with
    | some o2 => rw [hg2] at hf; cases hf; exact k.fresh h o b hg2 hbk
    | none =>
     rw [hg2] at hf
     have := (hh.ok h o hf).1
     omega
  ·cases hS
 ·cases hS
end Go.Sx
namespace Go.Sh
open Go Go.Proofs Go.RowKit Go.Sx
open Go.IntKind (wrap)
attribute [local go_sem] Oper.semAt_some
def jdq : List SV := [.a [.d, .r (.floats .f32 []), .d, .d]]
def jb0 (aResponseSamples : List Nat) (aNoise : Int) (x0 : (Int × List (List Int))) : Option ((Int × List (List Int)) ⊕ (List (List Int))) :=
 if x0.1 < (↑(List.length aResponseSamples) : Int) then
  if (0 : Int) ≤ x0.1 ∧ x0.1 < (↑(List.length aResponseSamples) : Int) then
  if Int.toNat x0.1 < List.length aResponseSamples then
   if jb7 FloatKind.f32 IntKind.i64 (List.getD aResponseSamples (Int.toNat x0.1) (0 : Nat)) = true then
   Option.bind (ja1 (f2i FloatKind.f32 (List.getD aResponseSamples (Int.toNat x0.1) (0 : Nat)))) fun r1 =>
   if (List.length x0.2 + List.length [[wrap IntKind.i64 ((if wrap IntKind.i64 (r1 - aNoise) > (0 : Int) then wrap IntKind.i64 (r1 - aNoise) else (0 : Int)) * if wrap IntKind.i64 (r1 - aNoise) > (0 : Int) then wrap IntKind.i64 (r1 - aNoise) else (0 : Int)), wrap IntKind.i64 (wrap IntKind.i64 (r1 + aNoise) * wrap IntKind.i64 (r1 + aNoise))]]) * (16 : Nat) ≤ (140737488355328 : Nat) ∧ List.length x0.2 + List.length [[wrap IntKind.i64 ((if wrap IntKind.i64 (r1 - aNoise) > (0 : Int) then wrap IntKind.i64 (r1 - aNoise) else (0 : Int)) * if wrap IntKind.i64 (r1 - aNoise) > (0 : Int) then wrap IntKind.i64 (r1 - aNoise) else (0 : Int)), wrap IntKind.i64 (wrap IntKind.i64 (r1 + aNoise) * wrap IntKind.i64 (r1 + aNoise))]] ≤ (9223372036854775807 : Nat) then
    some (.inl ((wrap IntKind.i64 (x0.1 + (1 : Int)), x0.2 ++ [[wrap IntKind.i64 ((if wrap IntKind.i64 (r1 - aNoise) > (0 : Int) then wrap IntKind.i64 (r1 - aNoise) else (0 : Int)) * if wrap IntKind.i64 (r1 - aNoise) > (0 : Int) then wrap IntKind.i64 (r1 - aNoise) else (0 : Int)), wrap IntKind.i64 (wrap IntKind.i64 (r1 + aNoise) * wrap IntKind.i64 (r1 + aNoise))]])))
   else none
   else none
  else none
  else none
 else
  some (.inr x0.2)
def jbJ (y0_0 : List (List Int)) : Option Unit :=
 if (0 : Int) ≤ wrap IntKind.i64 ((↑(List.length y0_0) : Int) + (1 : Int)) ∧ wrap IntKind.i64 ((↑(List.length y0_0) : Int) + (1 : Int)) = wrap IntKind.i64 ((↑(List.length y0_0) : Int) + (1 : Int)) ∧ (↑(16 : Nat) : Int) * wrap IntKind.i64 ((↑(List.length y0_0) : Int) + (1 : Int)) ≤ (281474976710656 : Int) ∧ wrap IntKind.i64 ((↑(List.length y0_0) : Int) + (1 : Int)) ≤ (9223372036854775807 : Int) then
  if (0 : Int) ≤ (↑(List.length y0_0) : Int) ∧ (↑(List.length y0_0) : Int) < (↑(List.length (List.replicate (Int.toNat (wrap IntKind.i64 ((↑(List.length y0_0) : Int) + (1 : Int)))) [(0 : Int), (0 : Int)])) : Int) then
  if Int.toNat (↑(List.length y0_0) : Int) < List.length (List.replicate (Int.toNat (wrap IntKind.i64 ((↑(List.length y0_0) : Int) + (1 : Int)))) [(0 : Int), (0 : Int)]) then
   some ()
  else none
  else none
 else none
def jgH (zs : List (List Int)) (tail : Int) : List (List Int) :=
 List.set (List.replicate (Int.toNat (wrap IntKind.i64 ((↑(List.length zs) : Int) + (1 : Int)))) [(0 : Int), (0 : Int)]) (Int.toNat (↑(List.length zs) : Int)) (wr (List.length [D.i IntKind.i64 (0 : Int), D.i IntKind.i64 (0 : Int)]) (List.getD (List.replicate (Int.toNat (wrap IntKind.i64 ((↑(List.length zs) : Int) + (1 : Int)))) [(0 : Int), (0 : Int)]) (Int.toNat (↑(List.length zs) : Int)) []) (0 : Nat) [(0 : Int), tail])
def upS (ss : List (List Int)) (i lo hi : Int) : List (List Int) :=
 List.set ss (Int.toNat i) (wr (2 : Nat) (List.getD ss (Int.toNat i) []) (0 : Nat) [wrap IntKind.i64 (lo + List.getD (List.getD ss (Int.toNat (wrap IntKind.i64 (i + (1 : Int)))) []) (0 : Nat) (0 : Int)), wrap IntKind.i64 (hi + List.getD (List.getD ss (Int.toNat (wrap IntKind.i64 (i + (1 : Int)))) []) (1 : Nat) (0 : Int))])
def jb5 (zs : List (List Int)) (tail : Int) (pre : List (Fin zs.length)) : List (List Int) :=
 pre.foldl (fun ss x => upS ss (x.1 : Int) ((zs.getD x.1 []).getD 0 0) ((zs.getD x.1 []).getD 1 0)) (jgH zs tail)
def jan (aResponseRate : Int) (aResponseSamples : List Nat) (aNoise : Int) (aTail : Int) : Option (Int × List (List Int) × List (List Int)) :=
 Option.bind (y26 aResponseRate aResponseSamples aNoise aTail) fun r0 =>
 if (r0.2 != (0 : Int)) = true then
  some (r0.2, [], [])
 else
  Option.bind (jae (jb0 aResponseSamples aNoise) big (((0 : Int), []))) fun y0 =>
  Option.bind (jbJ y0) fun _ => some (0, y0, jb5 y0 aTail (Bk.bk y0.length y0.length))
def jlu : List Lf → Option GT
 | [.d (.i .i64 aResponseRate), .r (.floats .f32 aResponseSamples), .d (.i .i64 aNoise), .d (.i .i64 aTail)] => some (.br ((val (jan aResponseRate aResponseSamples aNoise aTail)).1 != (0 : Int))
  (.leaf (ok (jan aResponseRate aResponseSamples aNoise aTail)) [.c (.d (.v (Value.pointer none))), .c (.d (.i .i64 ((val (jan aResponseRate aResponseSamples aNoise aTail)).1)))])
  (.leaf (ok (jan aResponseRate aResponseSamples aNoise aTail)) [.c (.box 133 [.d (.i .i64 aResponseRate), .g 0, .d (.i .i64 aNoise), .d (.i .i64 aTail), .row 30 (.recs 2 ((val (jan aResponseRate aResponseSamples aNoise aTail)).2.1)), .row 30 (.recs 2 ((val (jan aResponseRate aResponseSamples aNoise aTail)).2.2))]), .c (.d (.i .i64 (0 : Int)))]))
 | _ => none
abbrev sp_67 : jab → jab := jav 67 true (jal jdq jlu)
def hpT (rate : Int) (samples : List Nat) (noise tail : Int) (zs ss : List (List Int)) : Hp := [(1, .box 26 [.d (.i .i64 rate), .o 0, .d (.i .i64 noise), .d (.i .i64 tail)]), (2, .box 105 [.p 3 (0 : Nat) 1 (0 : Nat)]), (0, .ext (.floats .f32 samples)), (3, .box 133 [.d (.i .i64 rate), .o 0, .d (.i .i64 noise), .d (.i .i64 tail), .o 4, .o 5]), (4, .row 30 (.recs 2 zs)), (5, .row 30 (.recs 2 ss)), (6, .box 81 [.o 4])]
def stT (rate : Int) (samples : List Nat) (noise tail : Int) (zs ss : List (List Int)) : St := ⟨[(6, .w (.c (.p 2 (0 : Nat) 1 (0 : Nat)))), (89, .w (.c (.fn 141 [6])))], hpT rate samples noise tail zs ss, 7⟩
def jeR : List Nat → Code → Code
 | [], c => c
 | 0 :: p, .seq x _ => jeR p x
 | _ :: p, .seq _ y => jeR p y
 | _ :: p, .block _ c => jeR p c
 | _, c => c
def jsE : Code → Code
 | .rangeFunc _ _ _ b => b
 | .block _ c => jsE c
 | _ => .skip
def juO : Code → Code
 | .rangeFunc _ _ a _ => a
 | .block _ c => juO c
 | _ => .skip
noncomputable def jff : Code := jmM 6 (jaj Tryz.f67)
noncomputable def jre : Code := jeR [0, 0] jff
noncomputable def jmN : Code := jsE (jeR [0, 1] jff)
noncomputable def jpP : Code := juO (jeR [0, 1] jff)
def stA (y : Value) (i lo hi : Int) : St := ⟨[(6, .w (.c (.d (.v y)))), (90, vi .i64 i), (91, .w (.a [.d (.i .i64 lo), .d (.i .i64 hi)]))], [], 0⟩
def stA' (y : Value) (i lo hi : Int) : St := ⟨[(6, .w (.c (.d (.v y)))), (12, vi .i64 i), (13, .w (.c (.p 0 0 1 0)))], [(0, .box 30 [.d (.i .i64 lo), .d (.i .i64 hi)])], 1⟩
def stB (rate : Int) (samples : List Nat) (noise tail : Int) (zs ss : List (List Int)) (i lo hi : Int) : St := ⟨[(6, .w (.c (.p 2 (0 : Nat) 1 (0 : Nat)))), (12, vi .i64 i), (13, .w (.c (.p 7 0 1 0)))], (7, .box 30 [.d (.i .i64 lo), .d (.i .i64 hi)]) :: hpT rate samples noise tail zs ss, 8⟩
theorem jwg (y : Value) (i lo hi : Int) : sx Tryz.prog sp0 109 0 0 (fun _ _ _ => none) (jc6 Tryz.prog sp0 109) jpP 0 [] (stA y i lo hi) (fun e st => match e with | .normal => Le 0 st (stA' y i lo hi) | _ => False) := by
 refine Eq.mp (by kernel_rfl : (
 (
  Ob (y = y) ∧
  (Ob (i = i) ∧
  (Ob ((0 : Nat) = (0 : Nat)) ∧
  (Ob (lo = lo) ∧
  (Ob (hi = hi) ∧
  True)))))) = _) ?_
 exact (by repeat' (first | exact trivial | exact ⟨rfl⟩ | refine And.intro ?_ ?_))
theorem jwh (rate : Int) (samples : List Nat) (noise tail : Int) (zs ss : List (List Int)) (i lo hi : Int) (hi0 : 0 ≤ i) (hi1 : i + 1 < (ss.length : Int)) (hi2 : (ss.length : Int) ≤ 17592186044417) :
  sx Tryz.prog (sp_117 sp0) 109 8 0 (fun _ _ _ => none) (jc6 Tryz.prog (sp_117 sp0) 109) jmN 0 [] (stB rate samples noise tail zs ss i lo hi) (fun e st => match e with | .normal => Le 8 st (stB rate samples noise tail zs (upS ss i lo hi) i lo hi) | _ => False) := by
 have hw : wrap IntKind.i64 (i + (1 : Int)) = i + 1 := IntWalk.i64_in _ (by omega)
 refine Eq.mp (by kernel_rfl : (
 (
  Ob ((0 : Int) ≤ wrap IntKind.i64 (i + (1 : Int)) ∧ wrap IntKind.i64 (i + (1 : Int)) < (↑(List.length ss) : Int)) ∧
  (Ob (Int.toNat (wrap IntKind.i64 (i + (1 : Int))) < List.length ss) ∧
  (Ob (ok (jcX lo hi (List.getD (List.getD ss (Int.toNat (wrap IntKind.i64 (i + (1 : Int)))) []) (0 : Nat) (0 : Int)) (List.getD (List.getD ss (Int.toNat (wrap IntKind.i64 (i + (1 : Int)))) []) (1 : Nat) (0 : Int)))) ∧
  (Ob ((0 : Int) ≤ i ∧ i < (↑(List.length ss) : Int)) ∧
  (Ob (Int.toNat i < List.length ss) ∧
  (Ob ((0 : Nat) = (0 : Nat)) ∧
  (Ob (i = i) ∧
  (Ob ((0 : Nat) = (0 : Nat)) ∧
  (Ob (lo = lo) ∧
  (Ob (hi = hi) ∧
  (Ob (rate = rate) ∧
  (Ob (noise = noise) ∧
  (Ob (tail = tail) ∧
  (Ob ((0 : Nat) = (0 : Nat)) ∧
  (Ob (samples = samples) ∧
  (Ob (rate = rate) ∧
  (Ob (noise = noise) ∧
  (Ob (tail = tail) ∧
  (Ob (zs = zs) ∧
  (Ob (List.set ss (Int.toNat i) (wr (2 : Nat) (List.getD ss (Int.toNat i) []) (0 : Nat) [wrap IntKind.i64 (lo + List.getD (List.getD ss (Int.toNat (wrap IntKind.i64 (i + (1 : Int)))) []) (0 : Nat) (0 : Int)), wrap IntKind.i64 (hi + List.getD (List.getD ss (Int.toNat (wrap IntKind.i64 (i + (1 : Int)))) []) (1 : Nat) (0 : Int))]) = upS ss i lo hi) ∧
  True))))))))))))))))))))) = _) ?_
 refine ⟨⟨by rw [hw]; omega⟩, ⟨by rw [hw]; omega⟩, ⟨rfl⟩, ⟨by omega⟩, ⟨by omega⟩, ?_⟩
 exact (by repeat' (first | exact trivial | exact ⟨rfl⟩ | refine And.intro ?_ ?_))
theorem jrf {b : Bool} {X Y : Prop} (h1 : b = true → X) (h2 : b = false → Y) : Br b X Y := by
 cases b
 ·exact h2 rfl
 ·exact h1 rfl
set_option maxHeartbeats 4000000 in
theorem jxF (aResponseRate : Int) (aResponseSamples : List Nat) (aNoise aTail : Int) (r : List (List Int)) (err : Int) (ha : ok (y26 aResponseRate aResponseSamples aNoise aTail))
  (he : ((val (y26 aResponseRate aResponseSamples aNoise aTail)).2 != (0 : Int)) = true → (val (y26 aResponseRate aResponseSamples aNoise aTail)).2 = err)
  (hn : ((val (y26 aResponseRate aResponseSamples aNoise aTail)).2 != (0 : Int)) = false → Option.bind (jae (jb0 aResponseSamples aNoise) big (((0 : Int), []))) (fun y0 => Option.bind (jbJ y0) (fun _ => some y0)) = some r) :
  sx Tryz.prog (sp_114 (sp_115 (sp_116 (sp_117 sp0)))) 109 1 40 ((fun gs id _ => match id with
 | 0 => some ⟨(Int × List (List Int)) × Nat, fun z => ⟨[(1, .w (.c (.p 1 (0 : Nat) 1 (0 : Nat)))), (6, .w (.c (.p 2 (0 : Nat) 1 (0 : Nat)))), (27, .w (.c (.o 0))), (28, .w (.c (.d (.i .i64 ((↑(List.length aResponseSamples) : Int)))))), (29, .w (.c (.d (.i .i64 (Prod.fst (Prod.fst z))))))], [(1, .box 26 [.d (.i .i64 aResponseRate), .o 0, .d (.i .i64 aNoise), .d (.i .i64 aTail)]), (2, .box 105 [.p 3 (0 : Nat) 1 (0 : Nat)]), (0, .ext (.floats .f32 aResponseSamples)), (3, .box 133 [.d (.i .i64 aResponseRate), .o 0, .d (.i .i64 aNoise), .d (.i .i64 aTail), .o 4, .d (.v (Value.slice none (0 : Nat) (0 : Nat)))]), (4, .row 30 (.recs 2 (Prod.snd (Prod.fst z))))], 5⟩, fun z => Option.bind (jae (jb0 aResponseSamples aNoise) (Prod.snd z) (Prod.fst z)) (fun y0 => Option.bind (jbJ y0) (fun _ => some y0)) = some r, fun z => Prod.snd z⟩
 | _ => none)) (jc6 Tryz.prog (sp_114 (sp_115 (sp_116 (sp_117 sp0)))) 109) (jmL 6 (jaj Tryz.f67)) 0 [] ⟨jcU 0 (jaO jdq [.d (.i .i64 aResponseRate), .r (.floats .f32 aResponseSamples), .d (.i .i64 aNoise), .d (.i .i64 aTail)]).vs, (jaO jdq [.d (.i .i64 aResponseRate), .r (.floats .f32 aResponseSamples), .d (.i .i64 aNoise), .d (.i .i64 aTail)]).hp, 1⟩
   (fun e st => match e with
    | .ret => Ob (((val (y26 aResponseRate aResponseSamples aNoise aTail)).2 != (0 : Int)) = true) ∧ jgs Tryz.prog Tryz.f67.results.toList (fun v hp _ => jnB 1 [.c (.d (.v (Value.pointer none))), .c (.d (.i .i64 err))] v hp) .ret st
    | .normal => Ob (((val (y26 aResponseRate aResponseSamples aNoise aTail)).2 != (0 : Int)) = false) ∧ sx Tryz.prog (sp_114 (sp_115 (sp_116 (sp_117 sp0)))) 109 1 40 (fun _ _ _ => none) (jc6 Tryz.prog (sp_114 (sp_115 (sp_116 (sp_117 sp0)))) 109) jre 0 [] st (fun e st => match e with | .normal => Le 1 st (stT aResponseRate aResponseSamples aNoise aTail r (jgH r aTail)) | _ => False)
    | _ => False) := by
 refine Eq.mp (by kernel_rfl : (
 (
  Ob (ok (y26 aResponseRate aResponseSamples aNoise aTail)) ∧
  Br ((val (y26 aResponseRate aResponseSamples aNoise aTail)).2 != (0 : Int))
  ((Ob (((val (y26 aResponseRate aResponseSamples aNoise aTail)).2 != (0 : Int)) = true) ∧
  (Ob True ∧
  (Ob True ∧
  (Ob (Value.pointer none = Value.pointer none) ∧
  (Ob ((val (y26 aResponseRate aResponseSamples aNoise aTail)).2 = err) ∧
  True))))))
  (((∃ (v0 : (Int × List (List Int)) × Nat), (Ob ((Option.bind (jae (jb0 aResponseSamples aNoise) v0.2 v0.1) fun y0 => Option.bind (jbJ y0) fun x => some y0) = some r) ∧
  (Ob ((0 : Nat) = (0 : Nat)) ∧
  (Ob ((0 : Nat) = (0 : Nat)) ∧
  (Ob ((↑(List.length aResponseSamples) : Int) = (↑(List.length aResponseSamples) : Int)) ∧
  (Ob ((0 : Int) = v0.1.1) ∧
  (Ob (aResponseRate = aResponseRate) ∧
  (Ob (aNoise = aNoise) ∧
  (Ob (aTail = aTail) ∧
  (Ob ((0 : Nat) = (0 : Nat)) ∧
  (Ob (aResponseSamples = aResponseSamples) ∧
  (Ob (aResponseRate = aResponseRate) ∧
  (Ob (aNoise = aNoise) ∧
  (Ob (aTail = aTail) ∧
  (Ob (Value.slice none (0 : Nat) (0 : Nat) = Value.slice none (0 : Nat) (0 : Nat)) ∧
  (Ob (List.length v0.1.2 = (0 : Nat)) ∧
  True)))))))))))))))) ∧
  (∀ (v0 : (Int × List (List Int)) × Nat), ((Option.bind (jae (jb0 aResponseSamples aNoise) v0.2 v0.1) fun y0 => Option.bind (jbJ y0) fun x => some y0) = some r →
  Br (decide (v0.1.1 < (↑(List.length aResponseSamples) : Int)))
  ((Ob ((0 : Int) ≤ v0.1.1 ∧ v0.1.1 < (↑(List.length aResponseSamples) : Int)) ∧
  (Ob (Int.toNat v0.1.1 < List.length aResponseSamples) ∧
  (Ob (jb7 FloatKind.f32 IntKind.i64 (List.getD aResponseSamples (Int.toNat v0.1.1) (0 : Nat)) = true) ∧
  (Ob (ok (ja1 (f2i FloatKind.f32 (List.getD aResponseSamples (Int.toNat v0.1.1) (0 : Nat))))) ∧
  (Ob ((List.length v0.1.2 + List.length [[wrap IntKind.i64 ((if wrap IntKind.i64 (val (ja1 (f2i FloatKind.f32 (List.getD aResponseSamples (Int.toNat v0.1.1) (0 : Nat)))) - aNoise) > (0 : Int) then wrap IntKind.i64 (val (ja1 (f2i FloatKind.f32 (List.getD aResponseSamples (Int.toNat v0.1.1) (0 : Nat)))) - aNoise) else (0 : Int)) * if wrap IntKind.i64 (val (ja1 (f2i FloatKind.f32 (List.getD aResponseSamples (Int.toNat v0.1.1) (0 : Nat)))) - aNoise) > (0 : Int) then wrap IntKind.i64 (val (ja1 (f2i FloatKind.f32 (List.getD aResponseSamples (Int.toNat v0.1.1) (0 : Nat)))) - aNoise) else (0 : Int)), wrap IntKind.i64 (wrap IntKind.i64 (val (ja1 (f2i FloatKind.f32 (List.getD aResponseSamples (Int.toNat v0.1.1) (0 : Nat)))) + aNoise) * wrap IntKind.i64 (val (ja1 (f2i FloatKind.f32 (List.getD aResponseSamples (Int.toNat v0.1.1) (0 : Nat)))) + aNoise))]]) * (16 : Nat) ≤ (140737488355328 : Nat) ∧ List.length v0.1.2 + List.length [[wrap IntKind.i64 ((if wrap IntKind.i64 (val (ja1 (f2i FloatKind.f32 (List.getD aResponseSamples (Int.toNat v0.1.1) (0 : Nat)))) - aNoise) > (0 : Int) then wrap IntKind.i64 (val (ja1 (f2i FloatKind.f32 (List.getD aResponseSamples (Int.toNat v0.1.1) (0 : Nat)))) - aNoise) else (0 : Int)) * if wrap IntKind.i64 (val (ja1 (f2i FloatKind.f32 (List.getD aResponseSamples (Int.toNat v0.1.1) (0 : Nat)))) - aNoise) > (0 : Int) then wrap IntKind.i64 (val (ja1 (f2i FloatKind.f32 (List.getD aResponseSamples (Int.toNat v0.1.1) (0 : Nat)))) - aNoise) else (0 : Int)), wrap IntKind.i64 (wrap IntKind.i64 (val (ja1 (f2i FloatKind.f32 (List.getD aResponseSamples (Int.toNat v0.1.1) (0 : Nat)))) + aNoise) * wrap IntKind.i64 (val (ja1 (f2i FloatKind.f32 (List.getD aResponseSamples (Int.toNat v0.1.1) (0 : Nat)))) + aNoise))]] ≤ (9223372036854775807 : Nat)) ∧
  (∃ (v1 : (Int × List (List Int)) × Nat), (Ob ((Option.bind (jae (jb0 aResponseSamples aNoise) v1.2 v1.1) fun y0 => Option.bind (jbJ y0) fun x => some y0) = some r) ∧
  (Ob (v1.2 < v0.2) ∧
  (Ob ((0 : Nat) = (0 : Nat)) ∧
  (Ob ((0 : Nat) = (0 : Nat)) ∧
  (Ob ((↑(List.length aResponseSamples) : Int) = (↑(List.length aResponseSamples) : Int)) ∧
  (Ob (wrap IntKind.i64 (v0.1.1 + (1 : Int)) = v1.1.1) ∧
  (Ob (aResponseRate = aResponseRate) ∧
  (Ob (aNoise = aNoise) ∧
  (Ob (aTail = aTail) ∧
  (Ob ((0 : Nat) = (0 : Nat)) ∧
  (Ob (aResponseSamples = aResponseSamples) ∧
  (Ob (aResponseRate = aResponseRate) ∧
  (Ob (aNoise = aNoise) ∧
  (Ob (aTail = aTail) ∧
  (Ob (Value.slice none (0 : Nat) (0 : Nat) = Value.slice none (0 : Nat) (0 : Nat)) ∧
  (Ob (v0.1.2 ++ [[wrap IntKind.i64 ((if wrap IntKind.i64 (val (ja1 (f2i FloatKind.f32 (List.getD aResponseSamples (Int.toNat v0.1.1) (0 : Nat)))) - aNoise) > (0 : Int) then wrap IntKind.i64 (val (ja1 (f2i FloatKind.f32 (List.getD aResponseSamples (Int.toNat v0.1.1) (0 : Nat)))) - aNoise) else (0 : Int)) * if wrap IntKind.i64 (val (ja1 (f2i FloatKind.f32 (List.getD aResponseSamples (Int.toNat v0.1.1) (0 : Nat)))) - aNoise) > (0 : Int) then wrap IntKind.i64 (val (ja1 (f2i FloatKind.f32 (List.getD aResponseSamples (Int.toNat v0.1.1) (0 : Nat)))) - aNoise) else (0 : Int)), wrap IntKind.i64 (wrap IntKind.i64 (val (ja1 (f2i FloatKind.f32 (List.getD aResponseSamples (Int.toNat v0.1.1) (0 : Nat)))) + aNoise) * wrap IntKind.i64 (val (ja1 (f2i FloatKind.f32 (List.getD aResponseSamples (Int.toNat v0.1.1) (0 : Nat)))) + aNoise))]] = v1.1.2) ∧
  True)))))))))))))))))))))))
  ((Ob ((0 : Int) ≤ wrap IntKind.i64 ((↑(List.length v0.1.2) : Int) + (1 : Int)) ∧ wrap IntKind.i64 ((↑(List.length v0.1.2) : Int) + (1 : Int)) = wrap IntKind.i64 ((↑(List.length v0.1.2) : Int) + (1 : Int)) ∧ (↑(16 : Nat) : Int) * wrap IntKind.i64 ((↑(List.length v0.1.2) : Int) + (1 : Int)) ≤ (281474976710656 : Int) ∧ wrap IntKind.i64 ((↑(List.length v0.1.2) : Int) + (1 : Int)) ≤ (9223372036854775807 : Int)) ∧
  (Ob ((0 : Int) ≤ (↑(List.length v0.1.2) : Int) ∧ (↑(List.length v0.1.2) : Int) < (↑(List.length (List.replicate (Int.toNat (wrap IntKind.i64 ((↑(List.length v0.1.2) : Int) + (1 : Int)))) [(0 : Int), (0 : Int)])) : Int)) ∧
  (Ob (Int.toNat (↑(List.length v0.1.2) : Int) < List.length (List.replicate (Int.toNat (wrap IntKind.i64 ((↑(List.length v0.1.2) : Int) + (1 : Int)))) [(0 : Int), (0 : Int)])) ∧
  (Ob (((val (y26 aResponseRate aResponseSamples aNoise aTail)).2 != (0 : Int)) = false) ∧
  (Ob True ∧
  (Ob ((0 : Nat) = (0 : Nat)) ∧
  (Ob (aResponseRate = aResponseRate) ∧
  (Ob (aNoise = aNoise) ∧
  (Ob (aTail = aTail) ∧
  (Ob ((0 : Nat) = (0 : Nat)) ∧
  (Ob (aResponseSamples = aResponseSamples) ∧
  (Ob (aResponseRate = aResponseRate) ∧
  (Ob (aNoise = aNoise) ∧
  (Ob (aTail = aTail) ∧
  (Ob (v0.1.2 = r) ∧
  (Ob (List.set (List.replicate (Int.toNat (wrap IntKind.i64 ((↑(List.length v0.1.2) : Int) + (1 : Int)))) [(0 : Int), (0 : Int)]) (Int.toNat (↑(List.length v0.1.2) : Int)) (wr (List.length [D.i IntKind.i64 (0 : Int), D.i IntKind.i64 (0 : Int)]) (List.getD (List.replicate (Int.toNat (wrap IntKind.i64 ((↑(List.length v0.1.2) : Int) + (1 : Int)))) [(0 : Int), (0 : Int)]) (Int.toNat (↑(List.length v0.1.2) : Int)) []) (0 : Nat) [(0 : Int), aTail]) = jgH r aTail) ∧
  True))))))))))))))))))))))) = _) ?_
 refine ⟨⟨ha⟩, jrf (fun hb => ?_) (fun hb => ?_)⟩
 ·exact ⟨⟨hb⟩, ⟨trivial⟩, ⟨trivial⟩, ⟨rfl⟩, ⟨he hb⟩, trivial⟩
 ·have h := hn hb
  refine ⟨⟨(((0 : Int), []), big), ⟨h⟩, (by repeat' (first | exact trivial | exact ⟨rfl⟩ | refine And.intro ?_ ?_))⟩, fun z2 hz2 => ?_⟩
  obtain ⟨k2, hm2, h⟩ := jaT hz2
  refine jaN h (fun h => ?_) (fun h => ?_)
  ·refine jao h fun h => ?_
   refine jao h fun h => ?_
   refine jao h fun h => ?_
   refine jau h fun h => ?_
   refine jao h fun h => ?_
   exact ⟨((wrap IntKind.i64 ((Prod.fst z2).1 + (1 : Int)), (Prod.fst z2).2 ++ [[wrap IntKind.i64 ((if wrap IntKind.i64 (val (ja1 (f2i FloatKind.f32 (List.getD aResponseSamples (Int.toNat (Prod.fst z2).1) (0 : Nat)))) - aNoise) > (0 : Int) then wrap IntKind.i64 (val (ja1 (f2i FloatKind.f32 (List.getD aResponseSamples (Int.toNat (Prod.fst z2).1) (0 : Nat)))) - aNoise) else (0 : Int)) * if wrap IntKind.i64 (val (ja1 (f2i FloatKind.f32 (List.getD aResponseSamples (Int.toNat (Prod.fst z2).1) (0 : Nat)))) - aNoise) > (0 : Int) then wrap IntKind.i64 (val (ja1 (f2i FloatKind.f32 (List.getD aResponseSamples (Int.toNat (Prod.fst z2).1) (0 : Nat)))) - aNoise) else (0 : Int)), wrap IntKind.i64 (wrap IntKind.i64 (val (ja1 (f2i FloatKind.f32 (List.getD aResponseSamples (Int.toNat (Prod.fst z2).1) (0 : Nat)))) + aNoise) * wrap IntKind.i64 (val (ja1 (f2i FloatKind.f32 (List.getD aResponseSamples (Int.toNat (Prod.fst z2).1) (0 : Nat)))) + aNoise))]]), k2), ⟨jaL h⟩, ⟨jaZ hm2.symm⟩, (by repeat' (first | exact trivial | exact ⟨rfl⟩ | refine And.intro ?_ ?_))⟩
  ·have h := jaA h
   refine jao h fun h => ?_
   refine jao h fun h => ?_
   refine jao h fun h => ?_
   obtain rfl := Option.some.inj h
   have hb' := hb
   exact (by repeat' (first | exact trivial | exact ⟨rfl⟩ | exact ⟨trivial⟩ | exact ⟨hb⟩ | refine And.intro ?_ ?_))
end Go.Sh
end

section
open Go.RowKit
namespace Go.Sh
open Go Go.Proofs Go.RowKit Go.Sx
open Go.IntKind (wrap)
theorem jrg {zs : List (List Int)} (tail : Int) (h : zs.length ≤ 17592186044416) : (jgH zs tail).length = zs.length + 1 := by
 unfold jgH
 rw [List.length_set, List.length_replicate, show wrap IntKind.i64 ((zs.length : Int) + 1) = (zs.length : Int) + 1 from IntWalk.i64_in _ (by omega)]
 omega
theorem jxG (ss : List (List Int)) (i lo hi : Int) : (upS ss i lo hi).length = ss.length := by
 unfold upS
 rw [List.length_set]
theorem jkZ (zs : List (List Int)) (tail : Int) (pre : List (Fin zs.length)) (x : Fin zs.length) : jb5 zs tail (pre ++ [x]) = upS (jb5 zs tail pre) (x.1 : Int) ((zs.getD x.1 []).getD 0 0) ((zs.getD x.1 []).getD 1 0) := by
 unfold jb5
 rw [List.foldl_append]
 rfl
theorem jtB {zs : List (List Int)} (tail : Int) (h : zs.length ≤ 17592186044416) (pre : List (Fin zs.length)) : (jb5 zs tail pre).length = zs.length + 1 := by
 unfold jb5
 have : ∀ (pre : List (Fin zs.length)) (ss : List (List Int)), ss.length = zs.length + 1 → (pre.foldl (fun ss x => upS ss (x.1 : Int) ((zs.getD x.1 []).getD 0 0) ((zs.getD x.1 []).getD 1 0)) ss).length = zs.length + 1 := by
  intro pre
  induction pre with
  | nil => exact fun ss h => h
  | cons x l ih => exact fun ss h => ih _ ((jxG _ _ _ _).trans h)
 exact this pre _ (jrg tail h)
section
variable {rate : Int} {samples : List Nat} {noise tail : Int} {zs ss : List (List Int)}
theorem jh6 {h : Nat} {o : O} (hf : find (hpT rate samples noise tail zs ss) h = some o) :
  (h = 1 ∧ o = .box 26 [.d (.i .i64 rate), .o 0, .d (.i .i64 noise), .d (.i .i64 tail)]) ∨ (h = 2 ∧ o = .box 105 [.p 3 (0 : Nat) 1 (0 : Nat)]) ∨ (h = 0 ∧ o = .ext (.floats .f32 samples)) ∨
  (h = 3 ∧ o = .box 133 [.d (.i .i64 rate), .o 0, .d (.i .i64 noise), .d (.i .i64 tail), .o 4, .o 5]) ∨ (h = 4 ∧ o = .row 30 (.recs 2 zs)) ∨ (h = 5 ∧ o = .row 30 (.recs 2 ss)) ∨ (h = 6 ∧ o = .box 81 [.o 4]) := by
 simp only [hpT, find] at hf
 split at hf
 ·rename_i e; cases hf; exact .inl ⟨e.symm, rfl⟩
 split at hf
 ·rename_i e; cases hf; exact .inr (.inl ⟨e.symm, rfl⟩)
 split at hf
 ·rename_i e; cases hf; exact .inr (.inr (.inl ⟨e.symm, rfl⟩))
 split at hf
 ·rename_i e; cases hf; exact .inr (.inr (.inr (.inl ⟨e.symm, rfl⟩)))
 split at hf
 ·rename_i e; cases hf; exact .inr (.inr (.inr (.inr (.inl ⟨e.symm, rfl⟩))))
 split at hf
 ·rename_i e; cases hf; exact .inr (.inr (.inr (.inr (.inr (.inl ⟨e.symm, rfl⟩)))))
 split at hf
 ·rename_i e; cases hf; exact .inr (.inr (.inr (.inr (.inr (.inr ⟨e.symm, rfl⟩)))))
 ·cases hf
theorem jsF {h : Nat} {o : O} (hf : find (hpT rate samples noise tail zs ss) h = some o) : rngO o = true := by
 rcases jh6 hf with ⟨_, rfl⟩ | ⟨_, rfl⟩ | ⟨_, rfl⟩ | ⟨_, rfl⟩ | ⟨_, rfl⟩ | ⟨_, rfl⟩ | ⟨_, rfl⟩ <;> rfl
theorem jrh {h : Nat} {o : O} (hf : find (hpT rate samples noise tail zs ss) h = some o) : h < 7 ∧ o.lt 7 := by
 have L : ∀ (l : List C), l.all (fun c => match c with | .d _ => true | .o h => h < 7 | .p h _ _ _ => h < 7 | _ => false) = true → ∀ c ∈ l, C.lt 7 c := by
  intro l hl c hc
  have := List.all_eq_true.1 hl c hc
  cases c with
  | d x => trivial
  | o h => exact (show h < 7 from of_decide_eq_true this)
  | p h i e j => exact (show h < 7 from of_decide_eq_true this)
  | _ => cases this
 rcases jh6 hf with ⟨rfl, rfl⟩ | ⟨rfl, rfl⟩ | ⟨rfl, rfl⟩ | ⟨rfl, rfl⟩ | ⟨rfl, rfl⟩ | ⟨rfl, rfl⟩ | ⟨rfl, rfl⟩
 ·exact ⟨by decide, L _ rfl⟩
 ·exact ⟨by decide, L _ rfl⟩
 ·exact ⟨by decide, trivial⟩
 ·exact ⟨by decide, L _ rfl⟩
 ·exact ⟨by decide, trivial⟩
 ·exact ⟨by decide, trivial⟩
 ·exact ⟨by decide, L _ rfl⟩
theorem jxH {ρ : Env} {h k : Nat} {o : O} (s2 : List (List Int)) (hf : find (hpT rate samples noise tail zs ss) h = some o) (hb : o.blk (ρ h) = some k) : ∃ o', find (hpT rate samples noise tail zs s2) h = some o' ∧ o'.blk (ρ h) = some k := by
 rcases jh6 hf with ⟨rfl, rfl⟩ | ⟨rfl, rfl⟩ | ⟨rfl, rfl⟩ | ⟨rfl, rfl⟩ | ⟨rfl, rfl⟩ | ⟨rfl, rfl⟩ | ⟨rfl, rfl⟩
 all_goals exact ⟨_, rfl, hb⟩
end
theorem jyb {ρ : Env} {B : Bd} {hp hp' : Hp} {n n' : Nat} {w : World} (h : HRel ρ B hp n w) (hs : ∀ k o, find hp' k = some o → find hp k = some o ∧ k < n' ∧ o.lt n') : HRel ρ B hp' n' w :=
 ⟨fun k o hf => ⟨(hs k o hf).2.1, (hs k o hf).2.2, (h.ok k o (hs k o hf).1).2.2⟩, fun k o k' o' b hf hf' => h.apart k o k' o' b (hs k o hf).1 (hs k' o' hf').1, h.glob⟩
theorem jxI {ρ : Env} {B : Bd} {w w' : World} {h : Nat} {c : Cont} (hb : Bel B w w') (ho : (O.ext c).ok ρ B w h) : (O.ext c).ok ρ B w' h := by
 obtain ⟨⟨a, cap, h1, h2, h3⟩, h4⟩ := ho
 refine ⟨⟨a, cap, h1, h2, fun hn => ?_⟩, h4⟩
 obtain ⟨b, off, rfl, hx⟩ := h3 hn
 exact ⟨b, off, rfl, fun j x hj => (hb.cell (p := ⟨b, off + j, none⟩) (h4 ⟨b, off, none⟩ _ _ h1 hn)).trans (hx j x hj)⟩
theorem jtC {W : World} {k : Nat} {v : Value} {t : Nat} {f : Nat × Nat} (h : W.heap[k]? = some (.cells #[v] t f)) : W.cell? ⟨k, 0, none⟩ = some v := by
 simp [World.cell?, h]
theorem jri {W : World} {p : Addr} {v : Value} {l : Nat} {o o' : Obj} (h : W.cell? p = some v) (hl : W.heap[l]? = some o) (ho : o.isCells = false) : (W.putObj l o').cell? p = some v := by
 have hlt := World.block_lt_of_cell? W p h
 have hne : p.block ≠ l := by
  intro e
  subst e
  have : W.cell? p = none := by
   unfold World.cell?
   rw [hl]
   cases o <;> first | rfl | cases ho
  rw [this] at h
  cases h
 have hb : (W.putObj l o').heap[p.block]? = W.heap[p.block]? := (grownBy_putObj' W l o').block p.block hlt (fun e => hne (Option.some.inj e))
 exact (World.cell?_of_block (w := W) hb).trans h
theorem jyc {kb : Nat} {sv : Value} {zs : List (List Int)} {W : World} {l : Nat} {o o' : Obj} (h : Bk.Rd kb sv zs W) (hl : W.heap[l]? = some o) (ho : o.isCells = false) : Bk.Rd kb sv zs (W.putObj l o') := by
 refine ⟨jri h.box hl ho, ?_⟩
 obtain ⟨a, cap, h1, h2, h3⟩ := h.row
 refine ⟨a, cap, h1, h2, fun hn => ?_⟩
 obtain ⟨b, off, hab, hx⟩ := h3 hn
 exact ⟨b, off, hab, fun j x hj => jri (hx j x hj) hl ho⟩
structure OI (ρ : Env) (B : Bd) (rate : Int) (samples : List Nat) (noise tail : Int) (zs : List (List Int)) (w0 : World) (pre : List (Fin zs.length)) (W : World) : Prop where
 heap : HRel ρ B (hpT rate samples noise tail zs (jb5 zs tail pre)) 7 W
 bel : Bel B w0 W
 old : Old B W
section
variable {ρ : Env} {B : Bd} {rate : Int} {samples : List Nat} {noise tail : Int} {zs : List (List Int)} {w0 : World}
theorem OI.own (h0 : Old B w0) : OwnFrom w0.heap.size (OI ρ B rate samples noise tail zs w0) := by
 intro pre W W' row hs hg hr
 have hnB : ∀ k, B k → row ≠ some k := fun k hk e => by
  have h1 := (hr k e).1
  have h2 := h0 k hk
  omega
 refine ⟨hs.heap.grown hg hs.old (fun r e => ⟨fun hb => hnB r hb e, (hr r e).2⟩) (fun h o hf => jsF hf), hs.bel.trans ⟨hg.os, hg.tape, hg.output, hg.size, fun k hk => hg.block k (hs.old k hk) (fun e => hnB k hk e.symm)⟩, fun k hk => Nat.lt_of_lt_of_le (hs.old k hk) hg.size⟩
theorem OI.rd {pre : List (Fin zs.length)} {W : World} (h : OI ρ B rate samples noise tail zs w0 pre W) {kb : Nat} (hk : ρ 6 = .pointer (some ⟨kb, 0, none⟩)) : Bk.Rd kb (ρ 4) zs W := by
 obtain ⟨_, _, k, h1, _, h3⟩ := h.heap.ok 6 _ rfl
 rw [hk] at h1
 cases h1
 exact ⟨jtC h3, jbI (h.heap.ok 4 _ rfl).2.2 rfl⟩
end
def OA (y : Value) (zs : List (List Int)) (w0 : World) (x : Fin zs.length) (a : Act) (W : World) : Prop :=
 a.tmps.size = 109 ∧ a.defers = [] ∧ a.tmps.getD 6 undef = y ∧ a.tmps.getD 12 undef = .int .i64 (x.1 : Int) ∧
 ∃ b, w0.heap.size ≤ b ∧ a.tmps.getD 13 undef = .pointer (some ⟨b, 0, none⟩) ∧ W.heap[b]? = some (.cells #[.int .i64 ((zs.getD x.1 []).getD 0 0), .int .i64 ((zs.getD x.1 []).getD 1 0)] 30 (0, 0))
theorem OA.own {y : Value} {zs : List (List Int)} {w0 : World} (x : Fin zs.length) (a : Act) : OwnFrom w0.heap.size (fun (_ : Unit) W => OA y zs w0 x a W) := by
 rintro _ W W' row ⟨h1, h2, h3, h4, b, h5, h6, h7⟩ hg hr
 refine ⟨h1, h2, h3, h4, b, h5, h6, (hg.block b (Array.getElem?_eq_some_iff.1 h7).1 (fun e => ?_)).trans h7⟩
 obtain ⟨_, o, ho, hc⟩ := hr b e.symm
 rw [h7] at ho
 cases ho
 cases hc
theorem tms {a : Act} {y : Value} {i lo hi : Int} (hs : a.tmps.size = 109) (hy : a.tmps.getD 6 undef = y) {t : Nat} {v : V} {ρ : Env} (hv : jbi (stA y i lo hi).tm t = some v) :
  V.lt 0 v ∧ (((#[90, 91] : Array Tmp).zip #[.int .i64 i, .agg #[.int .i64 lo, .int .i64 hi]]).foldl (fun t (p, v) => t.setIfInBounds p v) a.tmps).getD t undef = v.val ρ := by
 have e : ((#[90, 91] : Array Tmp).zip #[Value.int .i64 i, .agg #[.int .i64 lo, .int .i64 hi]]).foldl (fun t (p, v) => t.setIfInBounds p v) a.tmps = (a.tmps.setIfInBounds 90 (.int .i64 i)).setIfInBounds 91 (.agg #[.int .i64 lo, .int .i64 hi]) := by simp
 rw [e]
 simp only [stA, jbi] at hv
 split at hv
 ·rename_i e; subst e; cases hv
  refine ⟨trivial, ?_⟩
  rw [← hy]
  simp [Array.getD, hs, V.val, W.val, C.val, D.val, Array.getElem_setIfInBounds]
 split at hv
 ·rename_i e; subst e; cases hv
  exact ⟨trivial, by simp [Array.getD, hs, V.val, W.val, C.val, D.val, vi, Array.getElem_setIfInBounds]⟩
 split at hv
 ·rename_i e; subst e; cases hv
  refine ⟨fun c hc => ?_, by simp [Array.getD, hs, V.val, W.val, C.val, D.val, Array.getElem_setIfInBounds]⟩
  simp only [List.mem_cons, List.not_mem_nil, or_false] at hc
  rcases hc with rfl | rfl <;> trivial
 ·cases hv
end Go.Sh
end

section
open Go.RowKit
namespace Go.Sh
open Go Go.Proofs Go.RowKit Go.Sx
section
variable {ρ : Env} {B : Bd} {rate : Int} {samples : List Nat} {noise tail : Int} {zs : List (List Int)}
set_option maxHeartbeats 2000000 in
theorem juP {w0 : World} {n l : Nat} (h0 : Old B w0) (hz : zs.length ≤ 17592186044416) (hblk : ∀ s h o k, find (hpT rate samples noise tail zs s) h = some o → o.blk (ρ h) = some k → k < w0.heap.size)
  {pre : List (Fin zs.length)} {x : Fin zs.length} {a : Act} {W : World} {y : Value} (hy : y = (C.p 2 0 1 0).val ρ) (hI : OI ρ B rate samples noise tail zs w0 pre W) (hA : OA y zs w0 x a W) :
  jmN.wpIn (Fence.wide.inRound l) n Tryz.prog (fun e a' W' => e = .normal ∧ KeepsFrom w0.heap.size W W' ∧ OI ρ B rate samples noise tail zs w0 (pre ++ [x]) W') a W := by
 obtain ⟨h1, h2, h3, h4, b, h5, h6, h7⟩ := hA
 generalize hlo : (zs.getD x.1 []).getD 0 0 = lo at *
 generalize hhi : (zs.getD x.1 []).getD 1 0 = hi at *
 have hnB : ¬ B b := fun hb => by have := h0 b hb; omega
 have hh0 := hI.heap.addAt (b := b) (ty := 30) (cs := [.d (.i .i64 lo), .d (.i .i64 hi)]) h7 (fun c hc => by
  simp only [List.mem_cons, List.not_mem_nil, or_false] at hc
  rcases hc with rfl | rfl <;> trivial) hnB (fun h o k hf hk e => by have := hblk _ h o k hf hk; omega)
 have hrng : ∀ h o, find ((7, O.box 30 [.d (.i .i64 lo), .d (.i .i64 hi)]) :: hpT rate samples noise tail zs (jb5 zs tail pre)) h = some o → rngO o = true := fun h o hf => by
  simp only [find] at hf
  split at hf
  ·cases hf; rfl
  ·exact jsF hf
 have hh1 := hh0.moreB (B2 := fun k => B k ∨ ∃ o : Obj, W.heap[k]? = some o ∧ o.isCells = false) (fun k h => .inl h) (fun h o k hf hk => by
  rintro (hb | ⟨o', ho', hc⟩)
  ·exact (O.blk_lt (hh0.ok h o hf).2.2 hk).2 hb
  ·obtain ⟨c, t, f, hcells⟩ := joP (hh0.ok h o hf).2.2 (hrng h o hf) hk
   rw [hcells] at ho'
   cases ho'
   cases hc)
 have hag0 := jaC ρ 7 (.pointer (some ⟨b, 0, none⟩))
 have jgt : Rel (upd ρ 7 (.pointer (some ⟨b, 0, none⟩))) (fun k => B k ∨ ∃ o : Obj, W.heap[k]? = some o ∧ o.isCells = false) 109 8 (stB rate samples noise tail zs (jb5 zs tail pre) (x.1 : Int) lo hi) a W := by
  refine ⟨fun t v hv => ?_, h1, h2, hh1, ?_, Nat.le_refl _⟩
  ·simp only [stB, jbi] at hv
   split at hv
   ·rename_i e; subst e; cases hv
    exact ⟨show 2 < 8 by decide, by rw [h3, hy]; rfl⟩
   split at hv
   ·rename_i e; subst e; cases hv; exact ⟨trivial, h4⟩
   split at hv
   ·rename_i e; subst e; cases hv
    exact ⟨show 7 < 8 by decide, by rw [h6]; rfl⟩
   ·cases hv
  ·rintro k (hk | ⟨o, ho, _⟩)
   ·exact hI.old k hk
   ·exact (Array.getElem?_eq_some_iff.1 ho).1
 have hlen := jtB tail hz pre
 have hx := x.2
 refine wpIn_mono (jcC mixed (sp_117_ok jak) jmN 0 [] _ _ _ a W (by kernel_rfl) (jwh rate samples noise tail zs (jb5 zs tail pre) (x.1 : Int) lo hi (by omega) (by omega) (by omega)) jgt (jap.refl _ _) (Bel.refl _ _)) ?_
 rintro e a' W' ⟨ex, ρ', st', rfl, hk, hr', hag', hbl'⟩
 cases ex with
 | normal =>
  obtain ⟨ρ2, hr2, hag2⟩ := Le.rel hk hr'
  have hbB : Bel B W W' := ⟨hbl'.os, hbl'.tape, hbl'.output, hbl'.size, fun k hk => hbl'.block k (.inl hk)⟩
  have hag : ∀ h, h < 7 → ρ2 h = ρ h := fun h hh => by
   have e1 := hag2 h (by omega)
   have e2 := hag' h (by omega)
   rw [e1, e2]
   exact hag0 h hh
  refine ⟨rfl, ⟨hbl'.size, fun k o _ hk ho => (hbl'.block k (.inr ⟨o, hk, ho⟩)).trans hk⟩, ?_, hI.bel.trans hbB, fun k hk => Nat.lt_of_lt_of_le (hI.old k hk) hbl'.size⟩
  rw [jkZ, hlo, hhi]
  have hl := hr2.heap.lessB (B := B) (fun k h => .inl h) (hI.heap.glob.bel hbB) (fun h o hf he => by
   simp only [stB, find] at hf
   split at hf
   ·cases hf; cases he
   ·rcases jh6 hf with ⟨rfl, rfl⟩ | ⟨rfl, rfl⟩ | ⟨rfl, rfl⟩ | ⟨rfl, rfl⟩ | ⟨rfl, rfl⟩ | ⟨rfl, rfl⟩ | ⟨rfl, rfl⟩
    ·cases he
    ·cases he
    ·have := jxI hbB (hI.heap.ok 0 _ rfl).2.2
     unfold O.ok at this ⊢
     rw [hag 0 (by decide)]
     exact this
    all_goals cases he)
  refine (jyb (n' := 7) hl (fun k o hf => ⟨?_, (jrh hf).1, (jrh hf).2⟩)).agree (fun h hh => (hag h hh).symm)
  show find (_ :: _) k = some o
  simp only [find]
  rw [if_neg (by have := (jrh hf).1; omega)]
  exact hf
 | exit j => exact hk.elim
 | ret => exact hk.elim
set_option maxHeartbeats 2000000 in
theorem jtD {n : Nat} {Q : Exit → Act → World → Prop} {a : Act} {w : World} (h1 : 1 ≤ n) (hz : zs.length ≤ 17592186044416) (hr : Rel ρ B 109 1 (stT rate samples noise tail zs (jgH zs tail)) a w)
  (hdone : ∀ (D : Nat) (W : World), w.heap.size ≤ D → OI ρ B rate samples noise tail zs w (Bk.bk zs.length zs.length) W → W.heap[D]? = some (.deferred (some [])) → Q .normal { a with defers := { target := .collected D, args := #[] } :: a.defers } W) :
  (Code.rangeFunc (.tmp 89) #[90, 91] jpP jmN).wpIn Fence.wide n Tryz.prog Q a w := by
 obtain ⟨_, _, kb, hkb, _, hkc⟩ := hr.heap.ok 6 _ rfl
 have hI0 : OI ρ B rate samples noise tail zs w [] w := ⟨hr.heap, Bel.refl _ _, hr.le⟩
 have hblk : ∀ s h o k, find (hpT rate samples noise tail zs s) h = some o → o.blk (ρ h) = some k → k < w.heap.size := fun s h o k hf hk => by
  obtain ⟨o', hf', hk'⟩ := jxH (jgH zs tail) hf hk
  exact (O.blk_lt (hr.heap.ok h o' hf').2.2 hk').1
 have hg : a.eval (.tmp 89) = .func (.func 141) #[] #[.pointer (some ⟨kb, 0, none⟩)] := by
  have := (hr.tm 89 _ rfl).2
  show a.tmps.getD 89 undef = _
  rw [this]
  show Value.func (.func 141) #[] #[ρ 6] = _
  rw [hkb]
 have hy : a.tmps.getD 6 undef = (C.p 2 0 1 0).val ρ := (hr.tm 6 _ rfl).2
 refine wpIn_rangeFunc_ownH (F := Fence.wide) (n := n) rfl h1 (gf := 141) (lb := #[.pointer (some ⟨kb, 0, none⟩)]) hg trivial (enters_of Tryz.func141 (by kernel_rfl) rfl)
  (Bk.back_stops (n - 1) kb (ρ 4) zs hz w (hI0.rd hkb)) (fun h k r => k (h r)) (fun W l o o' _ hl ho _ r => jyc r hl ho) (Below.refl _ _) (fun _ => rfl)
  (OI ρ B rate samples noise tail zs w) (fun _ _ _ => False) (OI.own hr.le) (fun _ _ _ _ _ h _ _ => h.elim) hI0 (OA ((C.p 2 0 1 0).val ρ) zs w) (fun x a' => OA.own x a') ?assign ?body ?done ?stop
 case assign =>
  intro l pre x W K hI hK
  have jgt : Rel ρ (fun k => k < W.heap.size) 109 0 (stA ((C.p 2 0 1 0).val ρ) (x.1 : Int) ((zs.getD x.1 []).getD 0 0) ((zs.getD x.1 []).getD 1 0)) { tmps := ((#[90, 91] : Array Tmp).zip (Bk.encs zs x)).foldl (fun t (p, v) => t.setIfInBounds p v) a.tmps, defers := [] } W := by
   refine ⟨fun t v hv => tms hr.size hy hv, ?_, rfl, ⟨fun h o hf => (by cases hf), fun h o h' o' k hf => (by cases hf), jhI hI.heap.glob hI.old⟩, fun k hk => hk, Nat.le_refl _⟩
   have : ((#[90, 91] : Array Tmp).zip (Bk.encs zs x)).foldl (fun t (p, v) => t.setIfInBounds p v) a.tmps = (a.tmps.setIfInBounds 90 (.int .i64 (x.1 : Int))).setIfInBounds 91 (.agg #[.int .i64 ((zs.getD x.1 []).getD 0 0), .int .i64 ((zs.getD x.1 []).getD 1 0)]) := by simp [Bk.encs]
   show Array.size (Array.foldl _ _ _) = _
   rw [this]
   simp [hr.size]
  refine wpIn_mono (jcC mixed jak jpP 0 [] _ _ ρ _ W (by kernel_rfl) (jwg _ _ _ _) jgt (jap.refl _ _) (Bel.refl _ _)) ?_
  rintro e a' W' ⟨ex, ρ', st', rfl, hk, hr', hag', hbl'⟩
  cases ex with
  | normal =>
   obtain ⟨ρ2, hr2, hag2⟩ := Le.rel hk hr'
   obtain ⟨_, _, b, hb, hnb, hcb⟩ := hr2.heap.ok 0 _ rfl
   have hI' : OI ρ B rate samples noise tail zs w pre W' := OI.own hr.le pre W W' none hI ⟨hbl'.os, hbl'.tape, hbl'.output, hbl'.size, fun k hk _ => hbl'.block k hk⟩ (fun r e => by cases e)
   refine hK a' W' ⟨hbl'.size, fun k o _ hk ho => (hbl'.block k (Array.getElem?_eq_some_iff.1 hk).1).trans hk⟩ (fun _ => hI'.rd hkb) hI' ⟨hr2.size, hr2.defers, (hr2.tm 6 _ rfl).2, (hr2.tm 12 _ rfl).2, b, Nat.le_trans hI.bel.size (Nat.le_of_not_lt hnb), ?_, ?_⟩
   ·have := (hr2.tm 13 _ rfl).2
    rw [this]
    show Value.pointer (some ⟨(base (ρ2 0)).block, (base (ρ2 0)).off + 0, none⟩) = _
    rw [hb]
    rfl
   ·exact hcb
  | exit j => exact hk.elim
  | ret => exact hk.elim
 case body =>
  intro l pre x a' W hl _ hI hA hlt
  refine wpIn_mono (juP hr.le hz hblk rfl hI hA) ?_
  rintro e a2 W' ⟨rfl, hkf, hI'⟩
  exact ⟨hkf, fun _ => hI'.rd hkb, hI'⟩
 case done =>
  intro D xs W hD hS hI hd
  subst hS
  exact hdone D W hD hI hd
 case stop =>
  intro D c pre W _ _ h
  exact h.elim
end
end Go.Sh
end

section
open Go.RowKit
namespace Go.Sh
open Go Go.Proofs Go.RowKit Go.Sx
open Go.IntKind (wrap)
def idOf : Code → Nat
 | .region i _ _ => i
 | _ => 0
noncomputable def oT (i : Nat) : Oper := ((Bk.opsOf (jeR [1, 0] jff))[i]?).getD default
def rd1 (t : Nat) (v : V) : Operand → Option V
 | .tmp u => match Nat.beq u t with
  | true => some v
  | false => none
 | _ => none
theorem joQ {ρ : Env} {nx t : Nat} {v : V} {a : Act} (h1 : v.lt nx) (h2 : a.tmps.getD t undef = v.val ρ) : ja6 ρ nx (rd1 t v) a := by
 intro x u hx
 unfold rd1 at hx
 split at hx
 ·split at hx
  ·rename_i e
   cases hx
   have := Nat.eq_of_beq_eq_true e
   subst this
   exact ⟨h1, h2⟩
  ·cases hx
 ·cases hx
theorem jlv {n : Nat} {ops : Array Oper} {Q : Exit → Act → World → Prop} {o : Oper} {rest : List Oper} {a : Act} {w : World} {v : Value} (hg : o.guard = none) (h : (execOp a.eval o).run Tryz.prog w = .ok (.value v) w)
  (hK : wpListIn Fence.wide n Tryz.prog ops Q rest (a.put o.dst v) w) : wpListIn Fence.wide n Tryz.prog ops Q (o :: rest) a w := by
 refine wpListIn_plain hg fun K hK' => ⟨fun _ _ => trivial, ?_⟩
 have hs : o.semAt Fence.wide.round a.eval = execOp a.eval o := Oper.semAt_none a.eval o
 rw [hs, h]
 exact hK' _ _ hK
abbrev spO : jab := sp_114 (sp_115 (sp_116 (sp_117 sp0)))
theorem jmO : jac Tryz.prog spO := sp_114_ok (sp_115_ok (sp_116_ok (sp_117_ok jak)))
theorem jyd {zs : List (List Int)} (h : jbJ zs = some ()) : zs.length ≤ 17592186044416 := by
 unfold jbJ at h
 split at h
 ·rename_i h1
  obtain ⟨h1, _, h2, h3⟩ := h1
  by_cases hc : zs.length + 1 ≤ 9223372036854775807
  ·rw [show wrap IntKind.i64 ((zs.length : Int) + 1) = (zs.length : Int) + 1 from IntWalk.i64_in _ (by omega)] at h2
   omega
  ·exfalso
   split at h
   ·rename_i h4
    have hw : wrap IntKind.i64 ((zs.length : Int) + 1) ≤ 9223372036854775807 := h3
    obtain ⟨_, h5⟩ := h4
    rw [List.length_replicate] at h5
    omega
   ·cases h
 ·cases h
set_option maxHeartbeats 4000000 in
theorem jtE (rate : Int) (samples : List Nat) (noise tail : Int) (e : Int) (zs ss : List (List Int)) (hG : jan rate samples noise tail = some (e, zs, ss)) (ρ0 : Env) (w : World)
  (hlt : ∀ x ∈ (jaO jdq [.d (.i .i64 rate), .r (.floats .f32 samples), .d (.i .i64 noise), .d (.i .i64 tail)]).vs, V.lt 1 x)
  (hh : HRel ρ0 (fun k => k < w.heap.size) (jaO jdq [.d (.i .i64 rate), .r (.floats .f32 samples), .d (.i .i64 noise), .d (.i .i64 tail)]).hp 1 w) :
  Calls Tryz.prog 67 ((jaO jdq [.d (.i .i64 rate), .r (.floats .f32 samples), .d (.i .i64 noise), .d (.i .i64 tail)]).vs.map (V.val ρ0)).toArray w fun x w' => ∃ ρ' v hp' nx', x = .returned (V.val ρ' v) ∧ v.lt nx' ∧ jap 1 ρ0 ρ' ∧ HRel ρ' (fun k => k < w.heap.size) hp' nx' w' ∧ Bel (fun k => k < w.heap.size) w w' ∧
   ((e ≠ 0 ∧ jnB 1 [.c (.d (.v (Value.pointer none))), .c (.d (.i .i64 e))] v hp') ∨ (e = 0 ∧ v = .t [.c (.p 3 0 1 0), .c (.d (.i .i64 0))] ∧ hp' = hpT rate samples noise tail zs ss)) := by
 unfold jan at hG
 obtain ⟨r0, hr0, hG⟩ := Option.bind_eq_some_iff.1 hG
 have hv : val (y26 rate samples noise tail) = r0 := by rw [hr0]; rfl
 have ha : ok (y26 rate samples noise tail) := by rw [hr0]; rfl
 have hn : ((val (y26 rate samples noise tail)).2 != (0 : Int)) = false → e = 0 ∧ ss = jb5 zs tail (Bk.bk zs.length zs.length) ∧ jbJ zs = some () ∧ Option.bind (jae (jb0 samples noise) big (((0 : Int), []))) (fun y0 => Option.bind (jbJ y0) (fun _ => some y0)) = some zs := by
  intro hb
  rw [hv] at hb
  rw [if_neg (by rw [hb]; decide)] at hG
  obtain ⟨y0, hy0, hG⟩ := Option.bind_eq_some_iff.1 hG
  obtain ⟨_, hr, hG⟩ := Option.bind_eq_some_iff.1 hG
  cases hG
  refine ⟨rfl, rfl, hr, ?_⟩
  rw [hy0]
  simp [hr]
 have he : ((val (y26 rate samples noise tail)).2 != (0 : Int)) = true → (val (y26 rate samples noise tail)).2 = e := by
  intro hb
  rw [hv] at hb ⊢
  rw [if_pos hb] at hG
  cases hG
  rfl
 refine callsIn_wide.1 (callsIn_of_wp_marks (n := 3) (c := jaj Tryz.f67) Tryz.func67 (by kernel_rfl) trivial (wpIn_wide.2 ?_) rfl)
 have jgt := jou (n0 := 1) (N := 109) (Nat.le_of_ble_eq_true (by kernel_rfl)) hlt (Nat.le_refl _) ρ0 w hh (fun k hk => hk)
 refine jsD jmO (jhF mixed jmO) (cur := 0) (gs := []) 6 (jaj Tryz.f67) _ ρ0 _ w (by kernel_rfl) (jxF rate samples noise tail zs e ha he (fun hb => (hn hb).2.2.2)) jgt (jap.refl _ _) (Bel.refl _ _) ?_ ?_
 ·rintro ρ1 st1 a1 w1 ⟨⟨hb⟩, hk⟩ hr1 hag1 hbl1
  have hT : jmM 6 (jaj Tryz.f67) = .seq (.seq jre (.block 2 (.rangeFunc (.tmp 89) #[90, 91] jpP jmN))) (.seq (jeR [1, 0] jff) (jeR [1, 1] jff)) := by kernel_rfl
  rw [hT]
  refine (wpIn_wide (n := 3)).1 (wpIn_seq (wpIn_seq (wpIn_mono (wpIn_wide.2 (jb4 jmO (jhF mixed jmO) jre 0 [] st1 _ ρ1 a1 w1 hk hr1 (jap.refl _ _) (Bel.refl _ _))) ?_)))
  rintro x a2 w2 ⟨ex, ρ2, st2, rfl, hle, hr2, hag2, hbl2⟩
  cases ex with
  | normal =>
   obtain ⟨ρ3, hr3, hag3⟩ := Le.rel hle hr2
   obtain ⟨he0, hss, hr0', _⟩ := hn hb
   refine wpIn_block (jtD (by decide) (jyd hr0') hr3 ?_)
   intro D W hD hI hd
   have hR : jeR [1, 0] jff = .region (idOf (jeR [1, 0] jff)) #[oT 0, oT 1, oT 2] false := by kernel_rfl
   have hRet : jeR [1, 1] jff = .ret := by kernel_rfl
   rw [hRet, hR]
   have t6 := (hr3.tm 6 _ rfl)
   have s2 := hr3.size
   generalize hat : ({ a2 with defers := { target := .collected D, args := #[] } :: a2.defers } : Act) = at2
   have hat6 : at2.tmps.getD 6 undef = V.val ρ3 (.w (.c (.p 2 0 1 0))) := by rw [← hat]; exact t6.2
   have hats : at2.tmps.size = 109 := by rw [← hat]; exact s2
   have hatd : at2.defers = [{ target := .collected D, args := #[] }] := by rw [← hat, hr3.defers]
   have g1 := jcR (P := Tryz.prog) (o := oT 0) hI.heap (joQ (show V.lt 7 (.w (.c (.p 2 0 1 0))) from (by decide : 2 < 7)) hat6) (show jbV Tryz.prog (oT 0).op _ _ = some (True, .w (.c (.p 3 0 1 0))) from by kernel_rfl) trivial
   have l1 : ∀ v x, x ≠ 108 → (at2.put (some 108) v).tmps.getD x undef = at2.tmps.getD x undef := fun v x hx => by
    rw [jcK (fun y hy => by cases hy; rw [hats]; decide), if_neg (fun e => hx (Option.some.inj e).symm)]
   have p108 : ∀ v, (at2.put (some 108) v).tmps.getD 108 undef = v := fun v => by
    rw [jcK (fun y hy => by cases hy; rw [hats]; decide), if_pos rfl]
   refine wpIn_seq (wpIn_region_list (jlv (o := oT 0) (rest := [oT 1, oT 2]) (by kernel_rfl) g1.1 ?_))
   rw [show (oT 0).dst = some 108 from by kernel_rfl]
   have g2 := jcR (P := Tryz.prog) (o := oT 1) hI.heap (joQ g1.2 (p108 _)) (show jbV Tryz.prog (oT 1).op _ _ = some (True, .w (.c (.p 3 0 1 0))) from by kernel_rfl) trivial
   refine jlv (o := oT 1) (by kernel_rfl) g2.1 ?_
   rw [show (oT 1).dst = some 2 from by kernel_rfl]
   generalize hb1 : ((at2.put (some 108) (V.val ρ3 (.w (.c (.p 3 0 1 0))))).put (some 2) (V.val ρ3 (.w (.c (.p 3 0 1 0))))) = b1
   have b1s : b1.tmps.size = 109 := by rw [← hb1, jcy, jcy, hats]
   have b12 : b1.tmps.getD 2 undef = V.val ρ3 (.w (.c (.p 3 0 1 0))) := by
    rw [← hb1, jcK (fun y hy => by cases hy; rw [jcy, hats]; decide), if_pos rfl]
   have b1d : b1.defers = [{ target := .collected D, args := #[] }] := by rw [← hb1, jcd, jcd, hatd]
   have g3 := jcR (P := Tryz.prog) (o := oT 2) (a := b1) (rd := fun x => match x with | .const v => some (.w (ofValue v)) | _ => none) hI.heap (fun x u hx => by
    cases x with
    | const v =>
     cases hx
     exact ⟨jhk _ v, (jgn _ v).symm⟩
    | _ => cases hx) (show jbV Tryz.prog (oT 2).op _ _ = some (True, .w (.c (.d (.i .i64 0)))) from by kernel_rfl) trivial
   refine jlv (o := oT 2) (by kernel_rfl) g3.1 (wpListIn_nil (wpIn_ret ?_))
   rw [show (oT 2).dst = some 3 from by kernel_rfl]
   show LeavesInM _ _ _ _ _ _ _ _ _
   rw [jcd, b1d]
   have hI2 := OwnFrom.putObj (OI.own hr3.le) (.deferred none) hI hD hd rfl
   refine ⟨by simp, .inl ⟨D, _, rfl, run_takeDeferred hd, _, results_tmp2 (t := 2) (u := 3) (by kernel_rfl) _ _ _, ρ3, .t [.c (.p 3 0 1 0), .c (.d (.i .i64 0))], _, 7, ?_, ?_, ?_, hI2.heap, (hbl1.trans hbl2).trans hI2.bel, .inr ⟨he0, rfl, by rw [hss]⟩⟩⟩
   ·rw [jcK (fun y hy => by cases hy; rw [b1s]; decide), jcK (fun y hy => by cases hy; rw [b1s]; decide), if_pos rfl, if_neg (by decide), b12]
    rfl
   ·intro x hx
    simp only [List.mem_cons, List.not_mem_nil, or_false] at hx
    rcases hx with rfl | rfl
    ·exact (by decide : 3 < 7)
    ·trivial
   ·exact fun h hh => ((hag3 h hh).trans (hag2 h hh)).trans (hag1 h hh)
  | exit j => exact hle.elim
  | ret => exact hle.elim
 ·intro ex ρ1 st1 a1 w1 hne hk hr1 hag1 hbl1
  cases ex with
  | normal => exact absurd rfl hne
  | exit j => exact hk.elim
  | ret =>
   show LeavesInM _ _ _ _ _ _ _ _ _
   rw [hr1.defers]
   obtain ⟨⟨hb⟩, hk⟩ := hk
   simp only [jgs] at hk
   split at hk
   ·rename_i l hl
    have hra := jhw hr1 _ l _ hl hk
    refine ⟨(jcO (l.map (·.2))).val ρ1, ?_, ρ1, jcO (l.map (·.2)), st1.hp, st1.nx, rfl, jgX (fun y hy => ?_), hag1, hr1.heap, hbl1, .inl ⟨?_, hra.2.2⟩⟩
    ·rw [jcV]
     simp only [jmi, Array.mapM_eq_mapM_toList, Sem.run_bind, Sem.run_map, hra.1, Result.andThen_ok, Sem.run_pure, List.map_map]
     rfl
    ·obtain ⟨z, hz, rfl⟩ := List.mem_map.1 hy
     exact hra.2.1 z hz
    ·have h1 := he hb
     intro h0
     rw [h1, h0] at hb
     cases hb
   ·exact hk.elim
theorem juQ : jag Tryz.prog 67 true (jal jdq jlu) := by
 refine jjx (body := jaj Tryz.f67) Tryz.func67 (by kernel_rfl) (by kernel_rfl) ?_
 intro ls t hg ho b hb ρ0 w hlt hh
 unfold jlu at hg
 split at hg
 ·rename_i rate samples noise tail
  cases hg
  obtain rfl := jaB hb
  obtain ⟨⟨e, zs, ss⟩, hr⟩ : ∃ r, jan rate samples noise tail = some r := by
   have hk : ok (jan rate samples noise tail) := by
    revert ho
    unfold GT.sel
    split <;> exact fun h => h
   exact Option.isSome_iff_exists.1 hk
  refine (jtE rate samples noise tail e zs ss hr ρ0 w hlt hh).mono ?_
  rintro x w' ⟨ρ', v, hp', nx', h1, h2, h3, h4, h5, h6⟩
  refine ⟨ρ', v, hp', nx', h1, h2, h3, h4, h5, ?_⟩
  have hv : val (jan rate samples noise tail) = (e, zs, ss) := by rw [hr]; rfl
  rw [hv]
  rcases h6 with ⟨h6, h7⟩ | ⟨rfl, rfl, rfl⟩
  ·rw [show ((e, zs, ss) : Int × List (List Int) × List (List Int)).1 = e from rfl, show (e != 0) = true from by simpa using h6]
   exact h7
  ·refine Eq.mp (by kernel_rfl : (
    (Ob (rate = rate) ∧ (Ob (noise = noise) ∧ (Ob (tail = tail) ∧ (Ob (zs = zs) ∧ (Ob (ss = ss) ∧ (Ob ((0 : Int) = (0 : Int)) ∧ True)))))) ) = _) ?_
   exact ⟨⟨rfl⟩, ⟨rfl⟩, ⟨rfl⟩, ⟨rfl⟩, ⟨rfl⟩, ⟨rfl⟩, trivial⟩
 ·cases hg
theorem sp_67_ok {sp : jab} (h : jac Tryz.prog sp) : jac Tryz.prog (sp_67 sp) := jah juQ h
end Go.Sh
end

section
open Go.RowKit
namespace Go.Sh
open Go Go.Proofs Go.RowKit Go.Sx
set_option maxRecDepth 100000
def jgj : List SV := [.a [.d, .r (.floats .f32 [])]]
def jjy : List Lf → Option GT
 | [.d (.i .i64 rate), .r (.floats .f32 samples)] => some (.br ((val (jan rate samples 0 0)).1 != (0 : Int))
  (.leaf (ok (jan rate samples 0 0)) [.c (.d (.v (Value.pointer none))), .c (.d (.i .i64 ((val (jan rate samples 0 0)).1)))])
  (.leaf (ok (jan rate samples 0 0)) [.c (.box 133 [.d (.i .i64 rate), .g 0, .d (.i .i64 0), .d (.i .i64 0), .row 30 (.recs 2 ((val (jan rate samples 0 0)).2.1)), .row 30 (.recs 2 ((val (jan rate samples 0 0)).2.2))]), .c (.d (.i .i64 (0 : Int)))]))
 | _ => none
abbrev sp_84 : jab → jab := jav 84 true (jal jgj jjy)
theorem juR (rate : Int) (samples : List Nat) (e : Int) (ha : ok (jan rate samples (0 : Int) (0 : Int))) (hc : ((val (jan rate samples (0 : Int) (0 : Int))).1 != (0 : Int)) = true) (he : (val (jan rate samples (0 : Int) (0 : Int))).1 = e) : ja0 Tryz.f84 (sp_67 sp0) (fun _ _ _ => none) (jaO jgj [.d (.i .i64 rate), .r (.floats .f32 samples)]) [.c (.d (.v (Value.pointer none))), .c (.d (.i .i64 e))] := by
 refine Eq.mp (by kernel_rfl : (Br ((val (jan rate samples (0 : Int) (0 : Int))).1 != (0 : Int))
  ((Ob (ok (jan rate samples (0 : Int) (0 : Int))) ∧
  (Ob True ∧
  (Ob True ∧
  (Ob (Value.pointer none = Value.pointer none) ∧
  (Ob ((val (jan rate samples (0 : Int) (0 : Int))).1 = e) ∧
  True))))))
  ((Ob (ok (jan rate samples (0 : Int) (0 : Int))) ∧
  (Ob True ∧
  (Ob True ∧
  False))))) = _) ?_
 exact jrf (fun _ => ⟨⟨ha⟩, ⟨trivial⟩, ⟨trivial⟩, ⟨rfl⟩, ⟨he⟩, trivial⟩) (fun h => by rw [hc] at h; cases h)
theorem juS (rate : Int) (samples : List Nat) (zs ss : List (List Int)) (ha : ok (jan rate samples (0 : Int) (0 : Int))) (hc : ((val (jan rate samples (0 : Int) (0 : Int))).1 != (0 : Int)) = false) (h1 : (val (jan rate samples (0 : Int) (0 : Int))).2.1 = zs) (h2 : (val (jan rate samples (0 : Int) (0 : Int))).2.2 = ss) : ja0 Tryz.f84 (sp_67 sp0) (fun _ _ _ => none) (jaO jgj [.d (.i .i64 rate), .r (.floats .f32 samples)]) [.c (.box 133 [.d (.i .i64 rate), .g 0, .d (.i .i64 0), .d (.i .i64 0), .row 30 (.recs 2 zs), .row 30 (.recs 2 ss)]), .c (.d (.i .i64 (0 : Int)))] := by
 refine Eq.mp (by kernel_rfl : (Br ((val (jan rate samples (0 : Int) (0 : Int))).1 != (0 : Int))
  ((Ob (ok (jan rate samples (0 : Int) (0 : Int))) ∧
  (Ob True ∧
  (Ob True ∧
  False))))
  ((Ob (ok (jan rate samples (0 : Int) (0 : Int))) ∧
  (Ob True ∧
  (Ob True ∧
  (Ob (rate = rate) ∧
  (Ob ((0 : Int) = (0 : Int)) ∧
  (Ob ((0 : Int) = (0 : Int)) ∧
  (Ob ((val (jan rate samples (0 : Int) (0 : Int))).2.1 = zs) ∧
  (Ob ((val (jan rate samples (0 : Int) (0 : Int))).2.2 = ss) ∧
  (Ob ((0 : Int) = (0 : Int)) ∧
  True))))))))))) = _) ?_
 exact jrf (fun h => by rw [hc] at h; cases h) (fun _ => ⟨⟨ha⟩, ⟨trivial⟩, ⟨trivial⟩, ⟨rfl⟩, ⟨rfl⟩, ⟨rfl⟩, ⟨h1⟩, ⟨h2⟩, ⟨rfl⟩, trivial⟩)
theorem jtF : jag Tryz.prog 84 true (jal jgj jjy) := by
 refine jat (sp := (sp_67 sp0)) (fn := Tryz.f84) (body := jaj Tryz.f84) mixed (sp_67_ok jak) Tryz.func84 (by kernel_rfl) (by kernel_rfl) fun ls t h ho b hb => ?_
 unfold jjy at h
 split at h
 ·rename_i rate samples
  cases h
  obtain rfl := jaB hb
  refine ⟨Nat.le_of_ble_eq_true (by kernel_rfl), 40, fun _ _ _ => none, ?_⟩
  cases hc : ((val (jan rate samples (0 : Int) (0 : Int))).1 != (0 : Int)) with
  | true =>
   rw [hc] at ho
   exact juR rate samples _ ho hc rfl
  | false =>
   rw [hc] at ho
   exact juS rate samples _ _ ho hc rfl rfl
 ·cases h
theorem sp_84_ok {sp : jab} (h : jac Tryz.prog sp) : jac Tryz.prog (sp_84 sp) := jah jtF h
def jbf (rate : Int) (samples : List Nat) (block : Int) : Option (Int × Int × List (List Int) × List (List Int)) :=
 Option.bind (jan rate samples (0 : Int) (0 : Int)) fun r =>
 if (r.1 != (0 : Int)) = true then
  Option.bind (y10 block (1 : Int) (1024 : Int)) fun b =>
  Option.bind (y11 b (2 : Int)) fun u =>
  Option.bind (y30 [r.1, u]) fun f => some (r.1, f, [], [])
 else
  Option.bind (y10 block (1 : Int) (1024 : Int)) fun b =>
  Option.bind (y11 b (2 : Int)) fun u =>
  Option.bind (y30 [(0 : Int), u]) fun f => some (0, f, r.2.1, r.2.2)
def jdg : List SV := [.a [.d, .r (.floats .f32 [])], .c .d]
def jeS : List Lf → Option GT
 | [.d (.i .i64 rate), .r (.floats .f32 samples), .d (.i .i64 block)] => some (.br ((val (jbf rate samples block)).1 != (0 : Int))
  (.leaf (ok (jbf rate samples block)) [.c (.d (.v (Value.pointer none))), .c (.d (.i .i64 ((val (jbf rate samples block)).2.1)))])
  (.leaf (ok (jbf rate samples block)) [.c (.box 133 [.d (.i .i64 rate), .g 0, .d (.i .i64 0), .d (.i .i64 0), .row 30 (.recs 2 ((val (jbf rate samples block)).2.2.1)), .row 30 (.recs 2 ((val (jbf rate samples block)).2.2.2))]), .c (.d (.i .i64 ((val (jbf rate samples block)).2.1)))]))
 | _ => none
abbrev sp_91 : jab → jab := jav 91 true (jal jdg jeS)
theorem jpq (rate : Int) (samples : List Nat) (block e : Int) (hc : ((val (jan rate samples (0 : Int) (0 : Int))).1 != (0 : Int)) = true) (ha : ok (jan rate samples (0 : Int) (0 : Int))) (hw : ok (y10 block (1 : Int) (1024 : Int))) (hu : ok (y11 (val (y10 block (1 : Int) (1024 : Int))) (2 : Int)))
  (hf : ok (y30 [(val (jan rate samples (0 : Int) (0 : Int))).1, val (y11 (val (y10 block (1 : Int) (1024 : Int))) (2 : Int))])) (he : val (y30 [(val (jan rate samples (0 : Int) (0 : Int))).1, val (y11 (val (y10 block (1 : Int) (1024 : Int))) (2 : Int))]) = e) :
  ja0 Tryz.f91 (sp_68 (sp_85 (sp_76 (sp_84 sp0)))) (fun _ _ _ => none) (jaO jdg [.d (.i .i64 rate), .r (.floats .f32 samples), .d (.i .i64 block)]) [.c (.d (.v (Value.pointer none))), .c (.d (.i .i64 e))] := by
 refine Eq.mp (by kernel_rfl : (Br ((val (jan rate samples (0 : Int) (0 : Int))).1 != (0 : Int))
   ((Ob (ok (jan rate samples (0 : Int) (0 : Int))) ∧
   (Ob (ok (y10 block (1 : Int) (1024 : Int))) ∧
   (Ob (ok (y11 (val (y10 block (1 : Int) (1024 : Int))) (2 : Int))) ∧
   (Ob (ok (y30 [(val (jan rate samples (0 : Int) (0 : Int))).1, val (y11 (val (y10 block (1 : Int) (1024 : Int))) (2 : Int))])) ∧
   (Ob True ∧
   (Ob True ∧
   (Ob (Value.pointer none = Value.pointer none) ∧
   (Ob (val (y30 [(val (jan rate samples (0 : Int) (0 : Int))).1, val (y11 (val (y10 block (1 : Int) (1024 : Int))) (2 : Int))]) = e) ∧
   True)))))))))
   ((Ob (ok (jan rate samples (0 : Int) (0 : Int))) ∧
   (Ob (ok (y10 block (1 : Int) (1024 : Int))) ∧
   (Ob (ok (y11 (val (y10 block (1 : Int) (1024 : Int))) (2 : Int))) ∧
   (Ob (ok (y30 [(0 : Int), val (y11 (val (y10 block (1 : Int) (1024 : Int))) (2 : Int))])) ∧
   (Ob True ∧
   (Ob True ∧
   False)))))))) = _) ?_
 exact jrf (fun _ => ⟨⟨ha⟩, ⟨hw⟩, ⟨hu⟩, ⟨hf⟩, ⟨trivial⟩, ⟨trivial⟩, ⟨rfl⟩, ⟨he⟩, trivial⟩) (fun h => by rw [hc] at h; cases h)
theorem jpr (rate : Int) (samples : List Nat) (block e : Int) (zs ss : List (List Int)) (hc : ((val (jan rate samples (0 : Int) (0 : Int))).1 != (0 : Int)) = false) (ha : ok (jan rate samples (0 : Int) (0 : Int))) (hw : ok (y10 block (1 : Int) (1024 : Int))) (hu : ok (y11 (val (y10 block (1 : Int) (1024 : Int))) (2 : Int)))
  (hf : ok (y30 [(0 : Int), val (y11 (val (y10 block (1 : Int) (1024 : Int))) (2 : Int))])) (h1 : (val (jan rate samples (0 : Int) (0 : Int))).2.1 = zs) (h2 : (val (jan rate samples (0 : Int) (0 : Int))).2.2 = ss) (he : val (y30 [(0 : Int), val (y11 (val (y10 block (1 : Int) (1024 : Int))) (2 : Int))]) = e) :
  ja0 Tryz.f91 (sp_68 (sp_85 (sp_76 (sp_84 sp0)))) (fun _ _ _ => none) (jaO jdg [.d (.i .i64 rate), .r (.floats .f32 samples), .d (.i .i64 block)]) [.c (.box 133 [.d (.i .i64 rate), .g 0, .d (.i .i64 0), .d (.i .i64 0), .row 30 (.recs 2 zs), .row 30 (.recs 2 ss)]), .c (.d (.i .i64 e))] := by
 refine Eq.mp (by kernel_rfl : (Br ((val (jan rate samples (0 : Int) (0 : Int))).1 != (0 : Int))
   ((Ob (ok (jan rate samples (0 : Int) (0 : Int))) ∧
   (Ob (ok (y10 block (1 : Int) (1024 : Int))) ∧
   (Ob (ok (y11 (val (y10 block (1 : Int) (1024 : Int))) (2 : Int))) ∧
   (Ob (ok (y30 [(val (jan rate samples (0 : Int) (0 : Int))).1, val (y11 (val (y10 block (1 : Int) (1024 : Int))) (2 : Int))])) ∧
   (Ob True ∧
   (Ob True ∧
   False)))))))
   ((Ob (ok (jan rate samples (0 : Int) (0 : Int))) ∧
   (Ob (ok (y10 block (1 : Int) (1024 : Int))) ∧
   (Ob (ok (y11 (val (y10 block (1 : Int) (1024 : Int))) (2 : Int))) ∧
   (Ob (ok (y30 [(0 : Int), val (y11 (val (y10 block (1 : Int) (1024 : Int))) (2 : Int))])) ∧
   (Ob True ∧
   (Ob True ∧
   (Ob (rate = rate) ∧
   (Ob ((0 : Int) = (0 : Int)) ∧
   (Ob ((0 : Int) = (0 : Int)) ∧
   (Ob ((val (jan rate samples (0 : Int) (0 : Int))).2.1 = zs) ∧
   (Ob ((val (jan rate samples (0 : Int) (0 : Int))).2.2 = ss) ∧
   (Ob (val (y30 [(0 : Int), val (y11 (val (y10 block (1 : Int) (1024 : Int))) (2 : Int))]) = e) ∧
   True)))))))))))))) = _) ?_
 exact jrf (fun h => by rw [hc] at h; cases h) (fun _ => ⟨⟨ha⟩, ⟨hw⟩, ⟨hu⟩, ⟨hf⟩, ⟨trivial⟩, ⟨trivial⟩, ⟨rfl⟩, ⟨rfl⟩, ⟨rfl⟩, ⟨h1⟩, ⟨h2⟩, ⟨he⟩, trivial⟩)
theorem jdz {α : Type} {x : Option α} {y : α} (h : x = some y) : ok x := by rw [h]; rfl
theorem jby {α : Type} [Inhabited α] {x : Option α} {y : α} (h : x = some y) : val x = y := by rw [h]; rfl
theorem jnW : jag Tryz.prog 91 true (jal jdg jeS) := by
 refine jat (sp := (sp_68 (sp_85 (sp_76 (sp_84 sp0))))) (fn := Tryz.f91) (body := jaj Tryz.f91) mixed (sp_68_ok (sp_85_ok (sp_76_ok (sp_84_ok jak)))) Tryz.func91 (by kernel_rfl) (by kernel_rfl) fun ls t h ho b hb => ?_
 unfold jeS at h
 split at h
 ·rename_i rate samples block
  cases h
  obtain rfl := jaB hb
  refine ⟨Nat.le_of_ble_eq_true (by kernel_rfl), 40, fun _ _ _ => none, ?_⟩
  have hk : ok (jbf rate samples block) := by
   revert ho
   unfold GT.sel
   split <;> exact fun h => h
  obtain ⟨⟨c, e, zs, ss⟩, hr⟩ := Option.isSome_iff_exists.1 hk
  rw [jby hr]
  unfold jbf at hr
  obtain ⟨r, hr0, hr⟩ := Option.bind_eq_some_iff.1 hr
  split at hr
  ·rename_i hc
   obtain ⟨b, hb1, hr⟩ := Option.bind_eq_some_iff.1 hr
   obtain ⟨u, hu, hr⟩ := Option.bind_eq_some_iff.1 hr
   obtain ⟨f, hf, hr⟩ := Option.bind_eq_some_iff.1 hr
   obtain ⟨rfl, rfl, rfl, rfl⟩ : r.1 = c ∧ f = e ∧ [] = zs ∧ [] = ss := by cases hr; exact ⟨rfl, rfl, rfl, rfl⟩
   dsimp only
   rw [hc]
   rw [← jby hr0] at hc
   rw [← jby hb1] at hu
   refine jpq rate samples block _ hc (jdz hr0) (jdz hb1) (jdz hu) ?_ ?_
   ·rw [jby hu, jby hr0]
    exact jdz hf
   ·rw [jby hu, jby hr0]
    exact jby hf
  ·rename_i hc
   obtain ⟨b, hb1, hr⟩ := Option.bind_eq_some_iff.1 hr
   obtain ⟨u, hu, hr⟩ := Option.bind_eq_some_iff.1 hr
   obtain ⟨f, hf, hr⟩ := Option.bind_eq_some_iff.1 hr
   cases hr
   have hc : (r.1 != (0 : Int)) = false := by simpa using hc
   rw [← jby hr0] at hc
   rw [← jby hb1] at hu
   refine jpr rate samples block _ _ _ hc (jdz hr0) (jdz hb1) (jdz hu) ?_ ?_ ?_ ?_
   ·rw [jby hu]
    exact jdz hf
   ·rw [jby hr0]
   ·rw [jby hr0]
   ·rw [jby hu]
    exact jby hf
 ·cases h
theorem sp_91_ok {sp : jab} (h : jac Tryz.prog sp) : jac Tryz.prog (sp_91 sp) := jah jnW h
end Go.Sh
end

section
namespace Go.Sh
open Go Go.Proofs Go.RowKit Go.Sx Go.Sx06 Ieee Go.Fl
open Go.IntKind (wrap)
def fi (b : Nat) : Int := f2i .f32 b
theorem jlw {b : Nat} (h : se b = 0) : jb7 .f32 .i64 b = true ∧ -32767 ≤ fi b ∧ fi b ≤ 32767 := by
 unfold se at h
 unfold fi f2i jb7
 rcases Fl.read32 b with ⟨s, m, e, hd, hm, he1, he2⟩ | ⟨s, hd⟩ | ⟨s, t, hd⟩
 ·have hdec : FloatKind.decode .f32 b = .number s m e := hd
  rw [hdec] at h ⊢
  rw [jq6 (by unfold KK; omega)]
  unfold seD at h
  have h3 : mg KK m e / PP ≤ 32767 := by
   dsimp only at h
   split at h
   ·omega
   ·split at h
    ·omega
    ·split at h
     ·assumption
     ·omega
  clear h
  generalize mg KK m e / PP = Q at *
  have e1 : IntKind.i64.min = -9223372036854775808 := rfl
  have e2 : IntKind.i64.max = 9223372036854775807 := rfl
  simp only [e1, e2, decide_eq_true_eq, Option.getD_some]
  cases s <;> simp only [sg, Bool.false_eq_true, if_false, if_true] <;> omega
 ·have hdec : FloatKind.decode .f32 b = .infinity s := hd
  rw [hdec] at h
  simp [seD] at h
 ·have hdec : FloatKind.decode .f32 b = .nan s t := hd
  rw [hdec] at h
  simp [seD] at h
def sqP (noise n : Int) : List Int := [max 0 (az n - noise) * max 0 (az n - noise), (az n + noise) * (az n + noise)]
def zsO (noise : Int) (l : List Nat) : List (List Int) := l.map fun b => sqP noise (fi b)
def sLo : List (List Int) → Int
 | [] => 0
 | r :: l => r.getD 0 0 + sLo l
def sHi : List (List Int) → Int
 | [] => 0
 | r :: l => r.getD 1 0 + sHi l
theorem jtG (a b : List (List Int)) : sLo (a ++ b) = sLo a + sLo b := by
 induction a with
 | nil => simp [sLo]
 | cons r a ih => simp only [List.cons_append, sLo, ih]; omega
theorem jtH (a b : List (List Int)) : sHi (a ++ b) = sHi a + sHi b := by
 induction a with
 | nil => simp [sHi]
 | cons r a ih => simp only [List.cons_append, sHi, ih]; omega
def okZ (r : List Int) : Prop := 0 ≤ r.getD 0 0 ∧ r.getD 0 0 ≤ r.getD 1 0 ∧ r.getD 1 0 ≤ 4294705156
theorem jdA {zs : List (List Int)} (h : ∀ r ∈ zs, okZ r) : 0 ≤ sLo zs ∧ sLo zs ≤ sHi zs ∧ sHi zs ≤ 4294705156 * (zs.length : Int) := by
 induction zs with
 | nil => simp [sLo, sHi]
 | cons r l ih =>
  have h1 := ih fun r hr => h r (List.mem_cons_of_mem _ hr)
  have h2 := h r List.mem_cons_self
  unfold okZ at h2
  simp only [sLo, sHi, List.length_cons]
  omega
theorem jlx {n M : Int} (h : -M ≤ n ∧ n ≤ M) : 0 ≤ az n ∧ az n ≤ M := by unfold az; omega
theorem jye {noise n : Int} (hn : 0 ≤ noise ∧ noise ≤ 32767) (h : -32767 ≤ n ∧ n ≤ 32767) : okZ (sqP noise n) := by
 have h1 := jlx h
 have h2 : 0 ≤ max 0 (az n - noise) ∧ max 0 (az n - noise) ≤ az n + noise := by omega
 have h3 := Int.mul_nonneg h2.1 h2.1
 have h4 := Int.mul_le_mul h2.2 h2.2 h2.1 (by omega)
 have h5 := Int.mul_le_mul (show az n + noise ≤ 65534 by omega) (show az n + noise ≤ 65534 by omega) (show 0 ≤ az n + noise by omega) (by omega)
 exact ⟨h3, h4, h5⟩
theorem jb8 (noise : Int) (l : List Nat) : (zsO noise l).length = l.length := by simp [zsO]
theorem jfT {noise : Int} {l : List Nat} (hn : 0 ≤ noise ∧ noise ≤ 32767) (h : ∀ b ∈ l, se b = 0) : ∀ r ∈ zsO noise l, okZ r := by
 intro r hr
 obtain ⟨b, hb, rfl⟩ := List.mem_map.1 hr
 exact jye hn (jlw (h b hb)).2
theorem jwi {α β : Type} (l : List α) (d : α) (f : α → β) {body : Int × List β → Option ((Int × List β) ⊕ List β)} (hlen : l.length < 1000000000000)
  (h1 : ∀ i, i < l.length → ∀ o : List β, o.length = i → body ((i : Int), o) = some (.inl ((i : Int) + 1, o ++ [f (l.getD i d)])))
  (h2 : ∀ o, body ((l.length : Int), o) = some (.inr o)) : jae body big (0, []) = some (l.map f) := by
 refine jbA (fun i => ((i : Int), (l.take i).map f)) (k := l.length) (fun i hi => ?_) ?_ (by omega)
 ·have := h1 i hi ((l.take i).map f) (by simp; omega)
  rw [this]
  have e : l.take (i + 1) = l.take i ++ [l.getD i d] := by
   rw [List.take_succ_eq_append_getElem hi]
   simp [List.getD, hi]
  rw [e]
  simp
 ·rw [List.take_length]; exact h2 _
theorem juT {r noise : Int} (h : 0 ≤ r ∧ r ≤ 32767) (hn : 0 ≤ noise ∧ noise ≤ 32767) :
  wrap IntKind.i64 ((if wrap IntKind.i64 (r - noise) > (0 : Int) then wrap IntKind.i64 (r - noise) else (0 : Int)) * if wrap IntKind.i64 (r - noise) > (0 : Int) then wrap IntKind.i64 (r - noise) else (0 : Int)) = max 0 (r - noise) * max 0 (r - noise) := by
 rw [jas (x := r - noise) (by omega)]
 have e : (if r - noise > 0 then r - noise else 0) = max 0 (r - noise) := by split <;> omega
 rw [e]
 have h1 : 0 ≤ max 0 (r - noise) ∧ max 0 (r - noise) ≤ 32767 := by omega
 have h2 := Int.mul_nonneg h1.1 h1.1
 have h3 := Int.mul_le_mul h1.2 h1.2 h1.1 (by omega)
 exact jas (by omega)
theorem jsG {r noise : Int} (h : 0 ≤ r ∧ r ≤ 32767) (hn : 0 ≤ noise ∧ noise ≤ 32767) :
  wrap IntKind.i64 (wrap IntKind.i64 (r + noise) * wrap IntKind.i64 (r + noise)) = (r + noise) * (r + noise) := by
 rw [jas (x := r + noise) (by omega)]
 have h1 : 0 ≤ r + noise ∧ r + noise ≤ 65534 := by omega
 have h2 := Int.mul_nonneg h1.1 h1.1
 have h3 := Int.mul_le_mul h1.2 h1.2 h1.1 (by omega)
 exact jas (by omega)
theorem juU {l : List Nat} {noise : Int} (hl : l.length ≤ 1024) (hs : ∀ b ∈ l, se b = 0) (hn : 0 ≤ noise ∧ noise ≤ 32767) : jae (jb0 l noise) big (0, []) = some (zsO noise l) := by
 refine jwi l 0 (fun b => sqP noise (fi b)) (by omega) (fun i hi o ho => ?_) (fun o => ?_)
 ·unfold jb0
  dsimp only
  have hw := jlw (hs (l.getD i 0) (by simp [List.getD, hi]))
  have ha := jlx (M := 32767) hw.2
  rw [if_pos (by omega), if_pos (by omega), if_pos (by omega), Int.toNat_natCast, if_pos hw.1]
  rw [show f2i FloatKind.f32 (l.getD i 0) = fi (l.getD i 0) from rfl, jq1 (by unfold inJ; omega), jaa, if_pos (by simp only [List.length_cons, List.length_nil]; omega), juT ha hn, jsG ha hn, jas (by omega)]
  rfl
 ·unfold jb0
  dsimp only
  rw [if_neg (by omega)]
def ssO (zs : List (List Int)) (tail : Int) : List (List Int) := (List.range (zs.length + 1)).map fun i => [sLo (zs.drop i), sHi (zs.drop i) + tail]
theorem jb2 (zs : List (List Int)) (tail : Int) : (ssO zs tail).length = zs.length + 1 := by simp [ssO]
theorem jnX {zs : List (List Int)} {tail : Int} {i : Nat} (h : i ≤ zs.length) : (ssO zs tail).getD i [] = [sLo (zs.drop i), sHi (zs.drop i) + tail] := by
 unfold ssO
 have : i < zs.length + 1 := by omega
 simp [List.getD, this]
theorem jwj {zs : List (List Int)} (tail : Int) (h : zs.length ≤ 1024) : (jgH zs tail).length = zs.length + 1 ∧ (jgH zs tail).getD zs.length [] = [0, tail] := by
 refine ⟨jrg tail (by omega), ?_⟩
 unfold jgH
 rw [jas (by omega)]
 have e : Int.toNat ((zs.length : Int) + 1) = zs.length + 1 := by omega
 rw [e, Int.toNat_natCast]
 simp [List.getD, wr]
 rfl
theorem jwk {zs : List (List Int)} {i : Nat} (h : i < zs.length) : zs.drop i = zs.getD i [] :: zs.drop (i + 1) := by
 rw [List.drop_eq_getElem_cons h]
 simp [List.getD, h]
theorem jrj {zs : List (List Int)} {tail : Int} (h : zs.length ≤ 1024) (hz : ∀ r ∈ zs, okZ r) (ht : 0 ≤ tail ∧ tail ≤ 1000000000000) : ∀ k, k ≤ zs.length →
  (jb5 zs tail (Bk.bk zs.length k)).length = zs.length + 1 ∧ ∀ i, zs.length - k ≤ i → i ≤ zs.length → (jb5 zs tail (Bk.bk zs.length k)).getD i [] = [sLo (zs.drop i), sHi (zs.drop i) + tail]
 | 0, _ => by
  have h0 := jwj tail h
  refine ⟨h0.1, fun i h1 h2 => ?_⟩
  have hi : i = zs.length := by omega
  subst hi
  rw [List.drop_length]
  simp only [sLo, sHi, Int.zero_add]
  exact h0.2
 | k + 1, hk => by
  obtain ⟨hl, hg⟩ := jrj h hz ht k (by omega)
  rw [Bk.bk_succ (by omega), jkZ]
  dsimp only
  obtain ⟨ss, hss⟩ : ∃ ss, ss = jb5 zs tail (Bk.bk zs.length k) := ⟨_, rfl⟩
  rw [← hss] at hl hg ⊢
  have hj := hg (zs.length - 1 - k + 1) (by omega) (by omega)
  have hd := jwk (zs := zs) (i := zs.length - 1 - k) (by omega)
  have hok := hz (zs.getD (zs.length - 1 - k) []) (by simp [List.getD, show zs.length - 1 - k < zs.length by omega])
  have hr := jdA (zs := zs.drop (zs.length - 1 - k + 1)) fun r hr => hz r (List.mem_of_mem_drop hr)
  have hdl : ((zs.drop (zs.length - 1 - k + 1)).length : Int) ≤ 1024 := by rw [List.length_drop]; omega
  unfold okZ at hok
  generalize hi0 : zs.length - 1 - k = i0 at *
  have e1 : ((((i0 : Nat) : Int) + 1).toNat) = i0 + 1 := by omega
  have hup : upS ss (i0 : Int) ((zs.getD i0 []).getD 0 0) ((zs.getD i0 []).getD 1 0) = ss.set i0 [sLo (zs.drop i0), sHi (zs.drop i0) + tail] := by
   unfold upS
   rw [jas (x := (i0 : Int) + 1) (by omega), e1, hj, Int.toNat_natCast]
   simp only [List.getD_cons_zero, List.getD_cons_succ]
   rw [jas (by omega), jas (by omega), hd]
   simp only [sLo, sHi]
   rw [show (zs.getD i0 []).getD 1 0 + (sHi (zs.drop (i0 + 1)) + tail) = (zs.getD i0 []).getD 1 0 + sHi (zs.drop (i0 + 1)) + tail by omega]
   rfl
  rw [hup]
  refine ⟨by rw [List.length_set]; exact hl, fun i h1 h2 => ?_⟩
  by_cases he : i = i0
  ·subst he
   simp [List.getD, hl, show i < zs.length + 1 by omega]
  ·have := hg i (by omega) h2
   rw [← this]
   simp [List.getD, List.getElem?_set, Ne.symm he]
theorem jxJ {zs : List (List Int)} {tail : Int} (h : zs.length ≤ 1024) (hz : ∀ r ∈ zs, okZ r) (ht : 0 ≤ tail ∧ tail ≤ 1000000000000) : jb5 zs tail (Bk.bk zs.length zs.length) = ssO zs tail := by
 obtain ⟨h1, h2⟩ := jrj h hz ht zs.length (Nat.le_refl _)
 apply List.ext_getElem
 ·rw [h1, jb2]
 ·intro i hi hi'
  have hi2 : i ≤ zs.length := by omega
  have a := h2 i (by omega) hi2
  have b := jnX (tail := tail) hi2
  simp only [List.getD, List.getElem?_eq_getElem hi, Option.getD_some] at a
  simp only [List.getD, List.getElem?_eq_getElem hi', Option.getD_some] at b
  rw [a, b]
theorem jnY (rate : Int) {l : List Nat} (noise tail : Int) (hl : l.length < 1000000000000) :
  jan rate l noise tail = some (if (jbp rate l noise tail).2 ≠ 0 then ((jbp rate l noise tail).2, [], []) else (0, zsO noise l, ssO (zsO noise l) tail)) := by
 unfold jan
 rw [jrb rate noise tail hl, jaa]
 by_cases h : (jbp rate l noise tail).2 = 0
 ·obtain ⟨hr, hn, ht⟩ := joN h
  obtain ⟨_, _, h3, h4⟩ := joM hr
  have hzl := jb8 noise l
  have hzk := jfT hn h4
  rw [if_neg (show ¬ ((jbp rate l noise tail).2 != 0) = true by rw [h]; simp), if_neg (by omega), juU h3 h4 hn, jaa]
  have hr0 : jbJ (zsO noise l) = some () := by
   unfold jbJ
   rw [jas (by omega)]
   have e : Int.toNat (((zsO noise l).length : Int) + 1) = (zsO noise l).length + 1 := by omega
   rw [if_pos (by omega), e, List.length_replicate, if_pos (by omega), Int.toNat_natCast, if_pos (by omega)]
  rw [hr0, jaa, jxJ (by omega) hzk ht]
 ·rw [if_pos (show ((jbp rate l noise tail).2 != 0) = true by simpa using h), if_pos h]
theorem juV (rate : Int) {l : List Nat} (noise tail : Int) (hl : l.length < 1000000000000) : (val (jan rate l noise tail)).1 = (jbp rate l noise tail).2 := by
 rw [jnY rate noise tail hl]
 show (if (jbp rate l noise tail).2 ≠ 0 then ((jbp rate l noise tail).2, ([] : List (List Int)), ([] : List (List Int))) else (0, zsO noise l, ssO (zsO noise l) tail)).1 = _
 split
 ·rfl
 ·rename_i h; simp at h; rw [h]
end Go.Sh
end

section
namespace Go.Sh
open Go Go.Proofs Go.RowKit Go.Sx
open Go.IntKind (wrap)
def joR : List (Option Cont) := [none]
def jdQ (n : Int) (x0 : (Int × Int)) : Option ((Int × Int) ⊕ Int) :=
 if x0.2 < n then
  some (.inl ((wrap .i64 (10 * x0.1), wrap .i64 (x0.2 + 1))))
 else
  some (.inr x0.1)
def jdR (u15 : Int) : Option Int :=
 some u15
def jdS (n : Int) : Option Int :=
 Option.bind (jae (jdQ n) big (((1 : Int), 0))) (jdR)
def jjz : List A → Option (Prop × List RV)
 | [.d (.i .i64 n)] => some (ok (jdS n), [.d (.i .i64 ((val (jdS n))))])
 | _ => none
abbrev sp_132 : jab → jab := jav 132 true (jar joR jjz)
theorem jtI (n : Int) (r : Int) (h : Option.bind (jdS n) some = some r) : jbb Tryz.f132 (sp0) (fun gs id _ => match id with
 | 0 => some ⟨(Int × Int) × Nat, fun z => ⟨[(0, .w (.c (.d (.i .i64 n)))), (3, .w (.c (.d (.i .i64 (Prod.fst (Prod.fst z)))))), (4, .w (.c (.d (.i .i64 (Prod.snd (Prod.fst z))))))], [], 1⟩, fun z => Option.bind (jae (jdQ n) (Prod.snd z) (Prod.fst z)) (fun y0 => Option.bind (jdR y0) some) = some r, fun z => Prod.snd z⟩
 | _ => none) [.d (.i .i64 n)] [.d (.i .i64 r)] := by
 refine Eq.mp (by kernel_rfl : (
 ((∃ (v0 : (Int × Int) × Nat), (Ob ((Option.bind (jae (jdQ n) v0.2 v0.1) fun y0 => Option.bind (jdR y0) some) = some r) ∧
 (Ob (n = n) ∧
 (Ob ((1 : Int) = v0.1.1) ∧
 (Ob ((0 : Int) = v0.1.2) ∧
 True))))) ∧
  (∀ (v0 : (Int × Int) × Nat), ((Option.bind (jae (jdQ n) v0.2 v0.1) fun y0 => Option.bind (jdR y0) some) = some r →
 Br (decide (v0.1.2 < n))
  ((∃ (v1 : (Int × Int) × Nat), (Ob ((Option.bind (jae (jdQ n) v1.2 v1.1) fun y0 => Option.bind (jdR y0) some) = some r) ∧
 (Ob (v1.2 < v0.2) ∧
 (Ob (n = n) ∧
 (Ob (wrap .i64 (10 * v0.1.1) = v1.1.1) ∧
 (Ob (wrap .i64 (v0.1.2 + 1) = v1.1.2) ∧
 True)))))))
  ((Ob True ∧
 (Ob (v0.1.1 = r) ∧
 True))))))) = _) ?_
 refine ⟨⟨(((1 : Int), 0), big), ⟨jbd h⟩, (by repeat' constructor)⟩, fun z0 hz0 => ?_⟩
 obtain ⟨k0, hm0, h⟩ := jaT hz0
 refine jaN h (fun h => ?_) (fun h => ?_)
 ·exact ⟨(_, k0), ⟨jaL h⟩, ⟨jaZ hm0.symm⟩, (by repeat' constructor)⟩
 ·have h := jaA h
  refine jad ?_
  exact rcs h
theorem jtJ : jag Tryz.prog 132 true (jar joR jjz) := by
 refine jaz (sp := sp0) (fn := Tryz.f132) (body := jaj Tryz.f132) mixed jak Tryz.func132 (by kernel_rfl) (by kernel_rfl) fun as_ ob rs h ho => ?_
 unfold jjz at h
 split at h
 ·rename_i n
  cases h
  exact ⟨Nat.le_of_ble_eq_true rfl, _, _, jtI n _ (jai ho)⟩
 ·cases h
theorem sp_132_ok {sp : jab} (h : jac Tryz.prog sp) : jac Tryz.prog (sp_132 sp) := jah jtJ h
def jjA : List (Option Cont) := [none, none, none]
def y61 (n : Int) (u42 : Int) (u25 : Int) : Option Bool :=
 Option.bind (jdS (wrap .i64 (Int.tdiv u25 (2 : Int)))) fun r0 =>
 if (Int.tmod u25 (2 : Int) == 0) = true then
  some (decide (wrap .i64 (n * r0) ≤ u42))
 else
  if wrap .i64 (n * r0) > u42 then
  some (decide (wrap .i64 (n * r0) ≤ u42))
  else
  Option.bind (y38 (wrap .i64 (10 * wrap .i64 (n * r0))) u42 u42 (if wrap .i64 (n * r0) > 1 then wrap .i64 (n * r0) else (1 : Int))) fun r1 =>
  some (decide (r1 ≤ 0))
def jfU : List A → Option (Prop × List RV)
 | [.d (.i .i64 n), .d (.i .i64 u42), .d (.i .i64 u25)] => some (ok (y61 n u42 u25), [.d (.b ((val (y61 n u42 u25))))])
 | _ => none
abbrev sp_97 : jab → jab := jav 97 true (jar jjA jfU)
def jrk (n : Int) (u42 : Int) (u25 : Int) : T (Bool) :=
 .obC ((2 : Int) ≠ (0 : Int)) (by decide)
 (.call (jdS (wrap .i64 (Int.tdiv u25 (2 : Int)))) fun r0 =>
 .obC ((2 : Int) ≠ (0 : Int)) (by decide)
 (.brB (Int.tmod u25 (2 : Int) == 0)
 (.obT
 (.rc ((decide (wrap .i64 (n * r0) ≤ u42)))))
 (.brP (wrap .i64 (n * r0) > u42)
 (.obT
 (.rc ((decide (wrap .i64 (n * r0) ≤ u42)))))
 (.call (y38 (wrap .i64 (10 * wrap .i64 (n * r0))) u42 u42 (if wrap .i64 (n * r0) > 1 then wrap .i64 (n * r0) else (1 : Int))) fun r1 =>
 .obT
 (.rc ((decide (r1 ≤ 0))))))))
theorem jps (n : Int) (u42 : Int) (u25 : Int) (r : Bool) (h : Option.bind (y61 n u42 u25) some = some r) : jbb Tryz.f97 ((sp_132 (sp_47 sp0))) (fun _ _ _ => none) [.d (.i .i64 n), .d (.i .i64 u42), .d (.i .i64 u25)] [.d (.b r)] :=
 T.vc (t := jrk n u42 u25) (by kernel_rfl) (by kernel_rfl) h
theorem jpt : jag Tryz.prog 97 true (jar jjA jfU) := by
 refine jaz (sp := (sp_132 (sp_47 sp0))) (fn := Tryz.f97) (body := jaj Tryz.f97) mixed (sp_132_ok (sp_47_ok jak)) Tryz.func97 (by kernel_rfl) (by kernel_rfl) fun as_ ob rs h ho => ?_
 unfold jfU at h
 split at h
 ·rename_i n u42 u25
  cases h
  exact ⟨Nat.le_of_ble_eq_true rfl, _, _, jps n u42 u25 _ (jai ho)⟩
 ·cases h
theorem sp_97_ok {sp : jab} (h : jac Tryz.prog sp) : jac Tryz.prog (sp_97 sp) := jah jpt h
def jeT : List SV := [.a [.d, .r (.floats .f32 []), .d, .d], .c (.d)]
def y29 (u4 : Int) (u0 : List Nat) (u6 : Int) (u5 : Int) (u25 : Int) (r0 : Int × Int) (x0 : (Int × Int)) : Option ((Int × Int) ⊕ ((Int × Int) ⊕ Unit)) :=
 if x0.1 < (↑(List.length u0) : Int) then
  Option.bind (y36 u4 u0 u6 u5 x0.1) fun r1 =>
  if x0.2 < 0 then
  Option.bind (y61 r1.1 r0.2 u25) fun r2 =>
  if (r2) = true then
   Option.bind (y61 r1.2 r0.1 u25) fun r3 =>
   if (r3) = true then
   some (.inr ((.inl ((if wrap .i64 (x0.1 - 1) > 0 then wrap .i64 (x0.1 - 1) else (0 : Int), x0.1)))))
   else
   some (.inl ((wrap .i64 (x0.1 + 1), x0.1)))
  else
   Option.bind (y61 r1.2 r0.1 u25) fun r3 =>
   if (r3) = true then
   some (.inr ((.inl ((if wrap .i64 (x0.2 - 1) > 0 then wrap .i64 (x0.2 - 1) else (0 : Int), x0.1)))))
   else
   some (.inl ((wrap .i64 (x0.1 + 1), x0.2)))
  else
  Option.bind (y61 r1.2 r0.1 u25) fun r3 =>
  if (r3) = true then
   some (.inr ((.inl ((if wrap .i64 (x0.2 - 1) > 0 then wrap .i64 (x0.2 - 1) else (0 : Int), x0.1)))))
  else
   some (.inl ((wrap .i64 (x0.1 + 1), x0.2)))
 else
  some (.inr ((.inr ())))
def jly (u15 : Int × Int) : Option (Int × Int × Bool) :=
 some (u15.1, u15.2, true)
def jlz (u27 : Unit) : Option (Int × Int × Bool) :=
 some (((0 : Int), 0, false))
def y98 : ((Int × Int) ⊕ Unit) → Option (Int × Int × Bool) :=
 (Sum.elim (jly) (jlz))
def y32 (u4 : Int) (u0 : List Nat) (u6 : Int) (u5 : Int) (u25 : Int) : Option (Int × Int × Bool) :=
 Option.bind (y36 u4 u0 u6 u5 (0 : Int)) fun r0 =>
 Option.bind (jae (y29 u4 u0 u6 u5 u25 r0) big (((0 : Int), (-1 : Int)))) (y98)
def jeU : List Lf → Option GT
 | [.d (.i .i64 u4), .r (.floats .f32 u0), .d (.i .i64 u6), .d (.i .i64 u5), .d (.i .i64 u25)] => some (.leaf (ok (y32 u4 u0 u6 u5 u25)) [.s [.d (.i .i64 ((val (y32 u4 u0 u6 u5 u25)).1)), .d (.i .i64 ((val (y32 u4 u0 u6 u5 u25)).2.1))], .c (.d (.b ((val (y32 u4 u0 u6 u5 u25)).2.2)))])
 | _ => none
abbrev sp_73 : jab → jab := jav 73 true (jal jeT jeU)
abbrev jbC (u4 : Int) (u0 : List Nat) (u6 : Int) (u5 : Int) := (val (y36 u4 u0 u6 u5 (0 : Int)))
abbrev jkf (u4 : Int) (u0 : List Nat) (u6 : Int) (u5 : Int) (u25 : Int) (v0 : (Int × Int) × Nat) := (y61 (val (y36 u4 u0 u6 u5 v0.1.1)).2 (jbC u4 u0 u6 u5).1 u25)
theorem jnZ (u4 : Int) (u0 : List Nat) (u6 : Int) (u5 : Int) (u25 : Int) (r : Int × Int × Bool) (h : Option.bind (y32 u4 u0 u6 u5 u25) some = some r) : ja0 Tryz.f73 ((sp_72 (sp_97 sp0))) (fun gs id _ => match id with
 | 0 => some ⟨(Int × Int) × Nat, fun z => ⟨[(1, .w (.c (.d (.i .i64 u25)))), (2, .w (.c (.p 1 0 1 0))), (4, .w (.c (.p 2 0 1 0))), (6, .w (.c (.p 3 0 1 0))), (7, .w (.c (.p 4 0 1 0))), (8, .w (.c (.d (.i .i64 (Prod.fst (Prod.fst z))))))], [(1, .box 26 [.d (.i .i64 u4), .o 0, .d (.i .i64 u6), .d (.i .i64 u5)]), (2, .box 30 [.d (.i .i64 0), .d (.i .i64 0)]), (3, .box 30 [.d (.i .i64 ((val (y36 u4 u0 u6 u5 (0 : Int))).1)), .d (.i .i64 ((val (y36 u4 u0 u6 u5 (0 : Int))).2))]), (4, .box 30 [.d (.i .i64 (Prod.snd (Prod.fst z))), .d (.i .i64 0)]), (0, .ext (.floats .f32 u0))], 5⟩, fun z => Option.bind (jae (y29 u4 u0 u6 u5 u25 (val (y36 u4 u0 u6 u5 (0 : Int)))) (Prod.snd z) (Prod.fst z)) (fun y0 => Option.bind (y98 y0) some) = some r, fun z => Prod.snd z⟩
 | _ => none) (jaO jeT [.d (.i .i64 u4), .r (.floats .f32 u0), .d (.i .i64 u6), .d (.i .i64 u5), .d (.i .i64 u25)]) [.s [.d (.i .i64 r.1), .d (.i .i64 r.2.1)], .c (.d (.b r.2.2))] := by
 refine Eq.mp (by kernel_rfl : (
 (Ob (ok (y36 u4 u0 u6 u5 (0 : Int))) ∧
  ((∃ (v0 : (Int × Int) × Nat), (Ob ((Option.bind (jae (y29 u4 u0 u6 u5 u25 (jbC u4 u0 u6 u5)) v0.2 v0.1) fun y0 => Option.bind (y98 y0) some) = some r) ∧
 (Ob (u25 = u25) ∧
 (Ob (0 = 0) ∧
 (Ob (0 = 0) ∧
 (Ob (0 = 0) ∧
 (Ob (0 = 0) ∧
 (Ob ((0 : Int) = v0.1.1) ∧
 (Ob (u4 = u4) ∧
 (Ob (u6 = u6) ∧
 (Ob (u5 = u5) ∧
 (Ob ((0 : Int) = (0 : Int)) ∧
 (Ob ((0 : Int) = (0 : Int)) ∧
 (Ob ((jbC u4 u0 u6 u5).1 = (jbC u4 u0 u6 u5).1) ∧
 (Ob ((jbC u4 u0 u6 u5).2 = (jbC u4 u0 u6 u5).2) ∧
 (Ob ((-1 : Int) = v0.1.2) ∧
 (Ob ((0 : Int) = (0 : Int)) ∧
 (Ob (u0 = u0) ∧
 True)))))))))))))))))) ∧
  (∀ (v0 : (Int × Int) × Nat), ((Option.bind (jae (y29 u4 u0 u6 u5 u25 (jbC u4 u0 u6 u5)) v0.2 v0.1) fun y0 => Option.bind (y98 y0) some) = some r →
 Br (decide (v0.1.1 < (↑(List.length u0) : Int)))
  ((Ob (ok (y36 u4 u0 u6 u5 v0.1.1)) ∧
 Br (decide (v0.1.2 < 0))
  ((Ob (ok (y61 (val (y36 u4 u0 u6 u5 v0.1.1)).1 (jbC u4 u0 u6 u5).2 u25)) ∧
 Br (val (y61 (val (y36 u4 u0 u6 u5 v0.1.1)).1 (jbC u4 u0 u6 u5).2 u25))
  ((Ob (ok (jkf u4 u0 u6 u5 u25 v0)) ∧
 Br (val (jkf u4 u0 u6 u5 u25 v0))
  ((Ob True ∧
 (Ob True ∧
 (Ob ((if wrap .i64 (v0.1.1 - 1) > 0 then wrap .i64 (v0.1.1 - 1) else (0 : Int)) = r.1) ∧
 (Ob (v0.1.1 = r.2.1) ∧
 (Ob (true = r.2.2) ∧
 True))))))
  ((∃ (v1 : (Int × Int) × Nat), (Ob ((Option.bind (jae (y29 u4 u0 u6 u5 u25 (jbC u4 u0 u6 u5)) v1.2 v1.1) fun y0 => Option.bind (y98 y0) some) = some r) ∧
 (Ob (v1.2 < v0.2) ∧
 (Ob (u25 = u25) ∧
 (Ob (0 = 0) ∧
 (Ob (0 = 0) ∧
 (Ob (0 = 0) ∧
 (Ob (0 = 0) ∧
 (Ob (wrap .i64 (v0.1.1 + 1) = v1.1.1) ∧
 (Ob (u4 = u4) ∧
 (Ob (u6 = u6) ∧
 (Ob (u5 = u5) ∧
 (Ob ((0 : Int) = (0 : Int)) ∧
 (Ob ((0 : Int) = (0 : Int)) ∧
 (Ob ((jbC u4 u0 u6 u5).1 = (jbC u4 u0 u6 u5).1) ∧
 (Ob ((jbC u4 u0 u6 u5).2 = (jbC u4 u0 u6 u5).2) ∧
 (Ob (v0.1.1 = v1.1.2) ∧
 (Ob ((0 : Int) = (0 : Int)) ∧
 (Ob (u0 = u0) ∧
 True))))))))))))))))))))))
  ((Ob (ok (jkf u4 u0 u6 u5 u25 v0)) ∧
 Br (val (jkf u4 u0 u6 u5 u25 v0))
  ((Ob True ∧
 (Ob True ∧
 (Ob ((if wrap .i64 (v0.1.2 - 1) > 0 then wrap .i64 (v0.1.2 - 1) else (0 : Int)) = r.1) ∧
 (Ob (v0.1.1 = r.2.1) ∧
 (Ob (true = r.2.2) ∧
 True))))))
  ((∃ (v1 : (Int × Int) × Nat), (Ob ((Option.bind (jae (y29 u4 u0 u6 u5 u25 (jbC u4 u0 u6 u5)) v1.2 v1.1) fun y0 => Option.bind (y98 y0) some) = some r) ∧
 (Ob (v1.2 < v0.2) ∧
 (Ob (u25 = u25) ∧
 (Ob (0 = 0) ∧
 (Ob (0 = 0) ∧
 (Ob (0 = 0) ∧
 (Ob (0 = 0) ∧
 (Ob (wrap .i64 (v0.1.1 + 1) = v1.1.1) ∧
 (Ob (u4 = u4) ∧
 (Ob (u6 = u6) ∧
 (Ob (u5 = u5) ∧
 (Ob ((0 : Int) = (0 : Int)) ∧
 (Ob ((0 : Int) = (0 : Int)) ∧
 (Ob ((jbC u4 u0 u6 u5).1 = (jbC u4 u0 u6 u5).1) ∧
 (Ob ((jbC u4 u0 u6 u5).2 = (jbC u4 u0 u6 u5).2) ∧
 (Ob (v0.1.2 = v1.1.2) ∧
 (Ob ((0 : Int) = (0 : Int)) ∧
 (Ob (u0 = u0) ∧
 True))))))))))))))))))))))))
  ((Ob (ok (jkf u4 u0 u6 u5 u25 v0)) ∧
 Br (val (jkf u4 u0 u6 u5 u25 v0))
  ((Ob True ∧
 (Ob True ∧
 (Ob ((if wrap .i64 (v0.1.2 - 1) > 0 then wrap .i64 (v0.1.2 - 1) else (0 : Int)) = r.1) ∧
 (Ob (v0.1.1 = r.2.1) ∧
 (Ob (true = r.2.2) ∧
 True))))))
  ((∃ (v1 : (Int × Int) × Nat), (Ob ((Option.bind (jae (y29 u4 u0 u6 u5 u25 (jbC u4 u0 u6 u5)) v1.2 v1.1) fun y0 => Option.bind (y98 y0) some) = some r) ∧
 (Ob (v1.2 < v0.2) ∧
 (Ob (u25 = u25) ∧
 (Ob (0 = 0) ∧
 (Ob (0 = 0) ∧
 (Ob (0 = 0) ∧
 (Ob (0 = 0) ∧
 (Ob (wrap .i64 (v0.1.1 + 1) = v1.1.1) ∧
 (Ob (u4 = u4) ∧
 (Ob (u6 = u6) ∧
 (Ob (u5 = u5) ∧
 (Ob ((0 : Int) = (0 : Int)) ∧
 (Ob ((0 : Int) = (0 : Int)) ∧
 (Ob ((jbC u4 u0 u6 u5).1 = (jbC u4 u0 u6 u5).1) ∧
 (Ob ((jbC u4 u0 u6 u5).2 = (jbC u4 u0 u6 u5).2) ∧
 (Ob (v0.1.2 = v1.1.2) ∧
 (Ob ((0 : Int) = (0 : Int)) ∧
 (Ob (u0 = u0) ∧
 True))))))))))))))))))))))))
  ((Ob True ∧
 (Ob True ∧
 (Ob ((0 : Int) = r.1) ∧
 (Ob ((0 : Int) = r.2.1) ∧
 (Ob (false = r.2.2) ∧
 True))))))))))) = _) ?_
 refine jau h fun h => ?_
 refine ⟨⟨(((0 : Int), (-1 : Int)), big), ⟨jbd h⟩, (by repeat' constructor)⟩, fun z4 hz4 => ?_⟩
 obtain ⟨k4, hm4, h⟩ := jaT hz4
 refine jaN h (fun h => ?_) (fun h => ?_)
 ·refine jau h fun h => ?_
  refine jaN h (fun h => ?_) (fun h => ?_)
  ·refine jau h fun h => ?_
   refine jaW h (fun h => ?_) (fun h => ?_)
   ·refine jau h fun h => ?_
    refine jaW h (fun h => ?_) (fun h => ?_)
    ·have h := jaA h
     refine jad ?_
     refine jad ?_
     exact rcs h
    ·exact ⟨(_, k4), ⟨jaL h⟩, ⟨jaZ hm4.symm⟩, (by repeat' constructor)⟩
   ·refine jau h fun h => ?_
    refine jaW h (fun h => ?_) (fun h => ?_)
    ·have h := jaA h
     refine jad ?_
     refine jad ?_
     exact rcs h
    ·exact ⟨(_, k4), ⟨jaL h⟩, ⟨jaZ hm4.symm⟩, (by repeat' constructor)⟩
  ·refine jau h fun h => ?_
   refine jaW h (fun h => ?_) (fun h => ?_)
   ·have h := jaA h
    refine jad ?_
    refine jad ?_
    exact rcs h
   ·exact ⟨(_, k4), ⟨jaL h⟩, ⟨jaZ hm4.symm⟩, (by repeat' constructor)⟩
 ·have h := jaA h
  refine jad ?_
  refine jad ?_
  exact rcs h
theorem jn0 : jag Tryz.prog 73 true (jal jeT jeU) := by
 refine jat (sp := (sp_72 (sp_97 sp0))) (fn := Tryz.f73) (body := jaj Tryz.f73) mixed (sp_72_ok (sp_97_ok jak)) Tryz.func73 (by kernel_rfl) (by kernel_rfl) fun ls t h ho b hb => ?_
 unfold jeU at h
 split at h
 ·rename_i u4 u0 u6 u5 u25
  cases h
  obtain rfl := jaB hb
  exact ⟨Nat.le_of_ble_eq_true (by kernel_rfl), _, _, jnZ u4 u0 u6 u5 u25 _ (jai ho)⟩
 ·cases h
theorem sp_73_ok {sp : jab} (h : jac Tryz.prog sp) : jac Tryz.prog (sp_73 sp) := jah jn0 h
def y157 : List SV := [.a [.d, .r (.floats .f32 []), .d, .d], .c (.d)]
def y13 (u4 : Int) (u0 : List Nat) (u6 : Int) (u5 : Int) (u26 : Int) : Option (Int × Int × Int) :=
 Option.bind (y36 u4 u0 u6 u5 (0 : Int)) fun r0 =>
 if (r0.1 == 0) = true then
  some (((0 : Int), 0, 11))
 else
  if (u26 == 0) = true then
  Option.bind (y32 u4 u0 u6 u5 (2 : Int)) fun r1 =>
  if (!r1.2.2) = true then
   some (((0 : Int), 0, 12))
  else
   Option.bind (y28 (wrap .i64 (wrap .i64 (6 * r1.1) * 1000000)) u4) fun r2 =>
   Option.bind (jbl (wrap .i64 (wrap .i64 (6 * r1.2.1) * 1000000)) u4) fun r3 =>
   some ((r2, r3, 0))
  else
  if (u26 == 2) = true then
   Option.bind (y32 u4 u0 u6 u5 (1 : Int)) fun r4 =>
   Option.bind (y32 u4 u0 u6 u5 (7 : Int)) fun r5 =>
   if (!r4.2.2) = true then
   some (((0 : Int), 0, 12))
   else
   if (!r5.2.2) = true then
    some (((0 : Int), 0, 12))
   else
    Option.bind (y28 (wrap .i64 (wrap .i64 (2 * if wrap .i64 (r5.1 - r4.2.1) > 0 then wrap .i64 (r5.1 - r4.2.1) else (0 : Int)) * 1000000)) u4) fun r6 =>
    Option.bind (jbl (wrap .i64 (wrap .i64 (2 * wrap .i64 (r5.2.1 - r4.1)) * 1000000)) u4) fun r7 =>
    some ((r6, r7, 0))
  else
   Option.bind (y32 u4 u0 u6 u5 (1 : Int)) fun r4 =>
   Option.bind (y32 u4 u0 u6 u5 (5 : Int)) fun r8 =>
   if (!r4.2.2) = true then
   some (((0 : Int), 0, 12))
   else
   if (!r8.2.2) = true then
    some (((0 : Int), 0, 12))
   else
    Option.bind (y28 (wrap .i64 (wrap .i64 (3 * if wrap .i64 (r8.1 - r4.2.1) > 0 then wrap .i64 (r8.1 - r4.2.1) else (0 : Int)) * 1000000)) u4) fun r9 =>
    Option.bind (jbl (wrap .i64 (wrap .i64 (3 * wrap .i64 (r8.2.1 - r4.1)) * 1000000)) u4) fun r10 =>
    some ((r9, r10, 0))
def y158 : List Lf → Option GT
 | [.d (.i .i64 u4), .r (.floats .f32 u0), .d (.i .i64 u6), .d (.i .i64 u5), .d (.i .i64 u26)] => some (.leaf (ok (y13 u4 u0 u6 u5 u26)) [.s [.d (.i .i64 ((val (y13 u4 u0 u6 u5 u26)).1)), .d (.i .i64 ((val (y13 u4 u0 u6 u5 u26)).2.1))], .c (.d (.i .i64 ((val (y13 u4 u0 u6 u5 u26)).2.2)))])
 | _ => none
abbrev sp_24 : jab → jab := jav 24 true (jal y157 y158)
def jkA (u4 : Int) (u0 : List Nat) (u6 : Int) (u5 : Int) (u26 : Int) : T (Int × Int × Int) :=
 .call (y36 u4 u0 u6 u5 (0 : Int)) fun r0 =>
 .brB (r0.1 == 0)
 (.obT
 (.obT
 (.rc ((((0 : Int), 0, 11))))))
 (.brB (u26 == 0)
 (.call (y32 u4 u0 u6 u5 (2 : Int)) fun r1 =>
 .brB (!r1.2.2)
 (.obT
 (.obT
 (.rc ((((0 : Int), 0, 12))))))
 (.call (y28 (wrap .i64 (wrap .i64 (6 * r1.1) * 1000000)) u4) fun r2 =>
 .call (jbl (wrap .i64 (wrap .i64 (6 * r1.2.1) * 1000000)) u4) fun r3 =>
 .obT
 (.obT
 (.rc (((r2, r3, 0)))))))
 (.brB (u26 == 2)
 (.call (y32 u4 u0 u6 u5 (1 : Int)) fun r4 =>
 .call (y32 u4 u0 u6 u5 (7 : Int)) fun r5 =>
 .brB (!r4.2.2)
 (.obT
 (.obT
 (.rc ((((0 : Int), 0, 12))))))
 (.brB (!r5.2.2)
 (.obT
 (.obT
 (.rc ((((0 : Int), 0, 12))))))
 (.call (y28 (wrap .i64 (wrap .i64 (2 * if wrap .i64 (r5.1 - r4.2.1) > 0 then wrap .i64 (r5.1 - r4.2.1) else (0 : Int)) * 1000000)) u4) fun r6 =>
 .call (jbl (wrap .i64 (wrap .i64 (2 * wrap .i64 (r5.2.1 - r4.1)) * 1000000)) u4) fun r7 =>
 .obT
 (.obT
 (.rc (((r6, r7, 0))))))))
 (.call (y32 u4 u0 u6 u5 (1 : Int)) fun r4 =>
 .call (y32 u4 u0 u6 u5 (5 : Int)) fun r8 =>
 .brB (!r4.2.2)
 (.obT
 (.obT
 (.rc ((((0 : Int), 0, 12))))))
 (.brB (!r8.2.2)
 (.obT
 (.obT
 (.rc ((((0 : Int), 0, 12))))))
 (.call (y28 (wrap .i64 (wrap .i64 (3 * if wrap .i64 (r8.1 - r4.2.1) > 0 then wrap .i64 (r8.1 - r4.2.1) else (0 : Int)) * 1000000)) u4) fun r9 =>
 .call (jbl (wrap .i64 (wrap .i64 (3 * wrap .i64 (r8.2.1 - r4.1)) * 1000000)) u4) fun r10 =>
 .obT
 (.obT
 (.rc (((r9, r10, 0))))))))))
theorem jjB (u4 : Int) (u0 : List Nat) (u6 : Int) (u5 : Int) (u26 : Int) (r : Int × Int × Int) (h : Option.bind (y13 u4 u0 u6 u5 u26) some = some r) : ja0 Tryz.f24 ((sp_72 (sp_73 (sp_74 (sp_75 sp0))))) (fun _ _ _ => none) (jaO y157 [.d (.i .i64 u4), .r (.floats .f32 u0), .d (.i .i64 u6), .d (.i .i64 u5), .d (.i .i64 u26)]) [.s [.d (.i .i64 r.1), .d (.i .i64 r.2.1)], .c (.d (.i .i64 r.2.2))] :=
 T.vc (t := jkA u4 u0 u6 u5 u26) (by kernel_rfl) (by kernel_rfl) h
theorem jjC : jag Tryz.prog 24 true (jal y157 y158) := by
 refine jat (sp := (sp_72 (sp_73 (sp_74 (sp_75 sp0))))) (fn := Tryz.f24) (body := jaj Tryz.f24) mixed (sp_72_ok (sp_73_ok (sp_74_ok (sp_75_ok jak)))) Tryz.func24 (by kernel_rfl) (by kernel_rfl) fun ls t h ho b hb => ?_
 unfold y158 at h
 split at h
 ·rename_i u4 u0 u6 u5 u26
  cases h
  obtain rfl := jaB hb
  exact ⟨Nat.le_of_ble_eq_true (by kernel_rfl), _, _, jjB u4 u0 u6 u5 u26 _ (jai ho)⟩
 ·cases h
theorem sp_24_ok {sp : jab} (h : jac Tryz.prog sp) : jac Tryz.prog (sp_24 sp) := jah jjC h
def jiu : List (Option Cont) := [none]
def jlA (u7 : Int) : Option Int :=
 Option.bind (y53 u7 (0 : Int) (1000000 : Int)) fun r0 =>
 if (!r0) = true then
  some (2 : Int)
 else
  some (0 : Int)
def jeV : List A → Option (Prop × List RV)
 | [.d (.i .i64 u7)] => some (ok (jlA u7), [.d (.i .i64 ((val (jlA u7))))])
 | _ => none
abbrev sp_27 : jab → jab := jav 27 true (jar jiu jeV)
def jpu (u7 : Int) : T (Int) :=
 .call (y53 u7 (0 : Int) (1000000 : Int)) fun r0 =>
 .brB (!r0)
 (.obT
 (.rc ((2 : Int))))
 (.obT
 (.rc ((0 : Int))))
theorem jn1 (u7 : Int) (r : Int) (h : Option.bind (jlA u7) some = some r) : jbb Tryz.f27 ((sp_35 sp0)) (fun _ _ _ => none) [.d (.i .i64 u7)] [.d (.i .i64 r)] :=
 T.vc (t := jpu u7) (by kernel_rfl) (by kernel_rfl) h
theorem jn2 : jag Tryz.prog 27 true (jar jiu jeV) := by
 refine jaz (sp := (sp_35 sp0)) (fn := Tryz.f27) (body := jaj Tryz.f27) mixed (sp_35_ok jak) Tryz.func27 (by kernel_rfl) (by kernel_rfl) fun as_ ob rs h ho => ?_
 unfold jeV at h
 split at h
 ·rename_i u7
  cases h
  exact ⟨Nat.le_of_ble_eq_true rfl, _, _, jn1 u7 _ (jai ho)⟩
 ·cases h
theorem sp_27_ok {sp : jab} (h : jac Tryz.prog sp) : jac Tryz.prog (sp_27 sp) := jah jn2 h
def jg6 : List (Option Cont) := [none, none]
def y76 (u40 : Int) (u7 : Int) : Option (Int × Int) :=
 Option.bind (jgD u40) fun r0 =>
 if (!r0) = true then
  some (((0 : Int), 2))
 else
  Option.bind (jlA u7) fun r1 =>
  if (r1 != 0) = true then
  some (((0 : Int), r1))
  else
  Option.bind (jbl (wrap .i64 (u7 * u40)) (1000000 : Int)) fun r2 =>
  some ((r2, 0))
def jec : List A → Option (Prop × List RV)
 | [.d (.i .i64 u40), .d (.i .i64 u7)] => some (ok (y76 u40 u7), [.d (.i .i64 ((val (y76 u40 u7)).1)), .d (.i .i64 ((val (y76 u40 u7)).2))])
 | _ => none
abbrev sp_79 : jab → jab := jav 79 true (jar jg6 jec)
def jn3 (u40 : Int) (u7 : Int) : T (Int × Int) :=
 .call (jgD u40) fun r0 =>
 .brB (!r0)
 (.obT
 (.obT
 (.rc ((((0 : Int), 2))))))
 (.call (jlA u7) fun r1 =>
 .brB (r1 != 0)
 (.obT
 (.obT
 (.rc ((((0 : Int), r1))))))
 (.call (jbl (wrap .i64 (u7 * u40)) (1000000 : Int)) fun r2 =>
 .obT
 (.obT
 (.rc (((r2, 0)))))))
theorem jmP (u40 : Int) (u7 : Int) (r : Int × Int) (h : Option.bind (y76 u40 u7) some = some r) : jbb Tryz.f79 ((sp_120 (sp_27 (sp_75 sp0)))) (fun _ _ _ => none) [.d (.i .i64 u40), .d (.i .i64 u7)] [.d (.i .i64 r.1), .d (.i .i64 r.2)] :=
 T.vc (t := jn3 u40 u7) (by kernel_rfl) (by kernel_rfl) h
theorem jmQ : jag Tryz.prog 79 true (jar jg6 jec) := by
 refine jaz (sp := (sp_120 (sp_27 (sp_75 sp0)))) (fn := Tryz.f79) (body := jaj Tryz.f79) mixed (sp_120_ok (sp_27_ok (sp_75_ok jak))) Tryz.func79 (by kernel_rfl) (by kernel_rfl) fun as_ ob rs h ho => ?_
 unfold jec at h
 split at h
 ·rename_i u40 u7
  cases h
  exact ⟨Nat.le_of_ble_eq_true rfl, _, _, jmP u40 u7 _ (jai ho)⟩
 ·cases h
theorem sp_79_ok {sp : jab} (h : jac Tryz.prog sp) : jac Tryz.prog (sp_79 sp) := jah jmQ h
def jgI : List SV := [.a [.d, .r (.floats .f32 []), .d, .d], .c (.d)]
def y91 (u4 : Int) (u0 : List Nat) (u6 : Int) (u5 : Int) (u7 : Int) : Option (Int × Int × Int × Int) :=
 Option.bind (y76 u4 u7) fun r0 =>
 Option.bind (y23 u4 u0 u6 u5 (0 : Int) (if (↑(List.length u0) : Int) < r0.1 then (↑(List.length u0) : Int) else r0.1)) fun r1 =>
 if ((if (↑(List.length u0) : Int) < r0.1 then (↑(List.length u0) : Int) else r0.1) == (↑(List.length u0) : Int)) = true then
  Option.bind (y23 u4 u0 u6 u5 (if (↑(List.length u0) : Int) < r0.1 then (↑(List.length u0) : Int) else r0.1) (↑(List.length u0) : Int)) fun r2 =>
  some ((r1.1, wrap .i64 (r1.2 - u5), r2.1, r2.2))
 else
  Option.bind (y23 u4 u0 u6 u5 (if (↑(List.length u0) : Int) < r0.1 then (↑(List.length u0) : Int) else r0.1) (↑(List.length u0) : Int)) fun r2 =>
  some (r1.1, r1.2, r2.1, r2.2)
def jgJ : List Lf → Option GT
 | [.d (.i .i64 u4), .r (.floats .f32 u0), .d (.i .i64 u6), .d (.i .i64 u5), .d (.i .i64 u7)] => some (.leaf (ok (y91 u4 u0 u6 u5 u7)) [.s [.d (.i .i64 ((val (y91 u4 u0 u6 u5 u7)).1)), .d (.i .i64 ((val (y91 u4 u0 u6 u5 u7)).2.1))], .s [.d (.i .i64 ((val (y91 u4 u0 u6 u5 u7)).2.2.1)), .d (.i .i64 ((val (y91 u4 u0 u6 u5 u7)).2.2.2))]])
 | _ => none
abbrev sp_80 : jab → jab := jav 80 true (jal jgI jgJ)
def jsc (u4 : Int) (u0 : List Nat) (u6 : Int) (u5 : Int) (u7 : Int) : T (Int × Int × Int × Int) :=
 .call (y76 u4 u7) fun r0 =>
 .call (y23 u4 u0 u6 u5 (0 : Int) (if (↑(List.length u0) : Int) < r0.1 then (↑(List.length u0) : Int) else r0.1)) fun r1 =>
 .brB ((if (↑(List.length u0) : Int) < r0.1 then (↑(List.length u0) : Int) else r0.1) == (↑(List.length u0) : Int))
 (.call (y23 u4 u0 u6 u5 (if (↑(List.length u0) : Int) < r0.1 then (↑(List.length u0) : Int) else r0.1) (↑(List.length u0) : Int)) fun r2 =>
 .obT
 (.obT
 (.rc (((r1.1, wrap .i64 (r1.2 - u5), r2.1, r2.2))))))
 (.call (y23 u4 u0 u6 u5 (if (↑(List.length u0) : Int) < r0.1 then (↑(List.length u0) : Int) else r0.1) (↑(List.length u0) : Int)) fun r2 =>
 .obT
 (.obT
 (.rc ((r1.1, r1.2, r2.1, r2.2)))))
theorem jrl (u4 : Int) (u0 : List Nat) (u6 : Int) (u5 : Int) (u7 : Int) (r : Int × Int × Int × Int) (h : Option.bind (y91 u4 u0 u6 u5 u7) some = some r) : ja0 Tryz.f80 ((sp_79 (sp_52 sp0))) (fun _ _ _ => none) (jaO jgI [.d (.i .i64 u4), .r (.floats .f32 u0), .d (.i .i64 u6), .d (.i .i64 u5), .d (.i .i64 u7)]) [.s [.d (.i .i64 r.1), .d (.i .i64 r.2.1)], .s [.d (.i .i64 r.2.2.1), .d (.i .i64 r.2.2.2)]] :=
 T.vc (t := jsc u4 u0 u6 u5 u7) (by kernel_rfl) (by kernel_rfl) h
theorem jrm : jag Tryz.prog 80 true (jal jgI jgJ) := by
 refine jat (sp := (sp_79 (sp_52 sp0))) (fn := Tryz.f80) (body := jaj Tryz.f80) mixed (sp_79_ok (sp_52_ok jak)) Tryz.func80 (by kernel_rfl) (by kernel_rfl) fun ls t h ho b hb => ?_
 unfold jgJ at h
 split at h
 ·rename_i u4 u0 u6 u5 u7
  cases h
  obtain rfl := jaB hb
  exact ⟨Nat.le_of_ble_eq_true (by kernel_rfl), _, _, jrl u4 u0 u6 u5 u7 _ (jai ho)⟩
 ·cases h
theorem sp_80_ok {sp : jab} (h : jac Tryz.prog sp) : jac Tryz.prog (sp_80 sp) := jah jrm h
end Go.Sh
end

section
namespace Go.Sh
open Go Go.Proofs Go.RowKit Go.Sx
open Go.IntKind (wrap)
def jjD : List (Option Cont) := [none]
def jn4 (k : Int) : Option Int :=
 if (0 ≤ k ∧ k < (↑(10 : Nat) : Int)) ∧ List.getD [true, true, true, true, true, true, true, true, true, true] (Int.toNat k * 1) false = true then
  some (List.getD [(1000000000 : Int), 1258925411, 1584893192, 1995262314, 2511886431, 3162277660, 3981071705, 5011872336, 6309573444, 7943282347] (Int.toNat k * 1) (0 : Int))
 else none
def jfV : List A → Option (Prop × List RV)
 | [.d (.i .i64 k)] => some (ok (jn4 k), [.d (.i .i64 ((val (jn4 k))))])
 | _ => none
abbrev sp_149 : jab → jab := jav 149 true (jar jjD jfV)
def jrn (k : Int) : T (Int) :=
 .obP ((0 ≤ k ∧ k < (↑(10 : Nat) : Int)) ∧ List.getD [true, true, true, true, true, true, true, true, true, true] (Int.toNat k * 1) false = true)
 (.obT
 (.rc ((List.getD [(1000000000 : Int), 1258925411, 1584893192, 1995262314, 2511886431, 3162277660, 3981071705, 5011872336, 6309573444, 7943282347] (Int.toNat k * 1) (0 : Int)))))
theorem jpv (k : Int) (r : Int) (h : Option.bind (jn4 k) some = some r) : jbb Tryz.f149 (sp0) (fun _ _ _ => none) [.d (.i .i64 k)] [.d (.i .i64 r)] :=
 T.vc (t := jrn k) (by kernel_rfl) (by kernel_rfl) h
theorem jpw : jag Tryz.prog 149 true (jar jjD jfV) := by
 refine jaz (sp := sp0) (fn := Tryz.f149) (body := jaj Tryz.f149) mixed jak Tryz.func149 (by kernel_rfl) (by kernel_rfl) fun as_ ob rs h ho => ?_
 unfold jfV at h
 split at h
 ·rename_i k
  cases h
  exact ⟨Nat.le_of_ble_eq_true rfl, _, _, jpv k _ (jai ho)⟩
 ·cases h
theorem sp_149_ok {sp : jab} (h : jac Tryz.prog sp) : jac Tryz.prog (sp_149 sp) := jah jpw h
def jiv : List (Option Cont) := [none, none, none, none]
def y77 (num : Int) (den : Int) (u24 : Int) (up : Int) : Option Int :=
 Option.bind (jhV u24 (10 : Int)) fun r0 =>
 Option.bind (y28 u24 (10 : Int)) fun r1 =>
 Option.bind (jn4 r0) fun r2 =>
 if r0 > 0 then
  if r1 ≥ 0 then
  Option.bind (jdS r1) fun r3 =>
  Option.bind (y38 num den (wrap .i64 (wrap .i64 (r2 + up) * r3)) (1000000000 : Int)) fun r4 =>
  some r4
  else
  Option.bind (jdS (wrap .i64 (9 - r1))) fun r5 =>
  Option.bind (y38 num den (wrap .i64 (r2 + up)) r5) fun r6 =>
  some r6
 else
  if r1 ≥ 0 then
  Option.bind (jdS r1) fun r3 =>
  Option.bind (y38 num den (wrap .i64 (r2 * r3)) (1000000000 : Int)) fun r7 =>
  some r7
  else
  Option.bind (jdS (wrap .i64 (9 - r1))) fun r5 =>
  Option.bind (y38 num den r2 r5) fun r8 =>
  some r8
def jeW : List A → Option (Prop × List RV)
 | [.d (.i .i64 num), .d (.i .i64 den), .d (.i .i64 u24), .d (.i .i64 up)] => some (ok (y77 num den u24 up), [.d (.i .i64 ((val (y77 num den u24 up))))])
 | _ => none
abbrev sp_124 : jab → jab := jav 124 true (jar jiv jeW)
def jpx (num : Int) (den : Int) (u24 : Int) (up : Int) : T (Int) :=
 .call (jhV u24 (10 : Int)) fun r0 =>
 .call (y28 u24 (10 : Int)) fun r1 =>
 .call (jn4 r0) fun r2 =>
 .brP (r0 > 0)
 (.brP (r1 ≥ 0)
 (.call (jdS r1) fun r3 =>
 .call (y38 num den (wrap .i64 (wrap .i64 (r2 + up) * r3)) (1000000000 : Int)) fun r4 =>
 .obT
 (.rc (r4)))
 (.call (jdS (wrap .i64 (9 - r1))) fun r5 =>
 .call (y38 num den (wrap .i64 (r2 + up)) r5) fun r6 =>
 .obT
 (.rc (r6))))
 (.brP (r1 ≥ 0)
 (.call (jdS r1) fun r3 =>
 .call (y38 num den (wrap .i64 (r2 * r3)) (1000000000 : Int)) fun r7 =>
 .obT
 (.rc (r7)))
 (.call (jdS (wrap .i64 (9 - r1))) fun r5 =>
 .call (y38 num den r2 r5) fun r8 =>
 .obT
 (.rc (r8))))
theorem jn5 (num : Int) (den : Int) (u24 : Int) (up : Int) (r : Int) (h : Option.bind (y77 num den u24 up) some = some r) : jbb Tryz.f124 ((sp_148 (sp_74 (sp_149 (sp_132 (sp_47 sp0)))))) (fun _ _ _ => none) [.d (.i .i64 num), .d (.i .i64 den), .d (.i .i64 u24), .d (.i .i64 up)] [.d (.i .i64 r)] :=
 T.vc (t := jpx num den u24 up) (by kernel_rfl) (by kernel_rfl) h
theorem jn6 : jag Tryz.prog 124 true (jar jiv jeW) := by
 refine jaz (sp := (sp_148 (sp_74 (sp_149 (sp_132 (sp_47 sp0)))))) (fn := Tryz.f124) (body := jaj Tryz.f124) mixed (sp_148_ok (sp_74_ok (sp_149_ok (sp_132_ok (sp_47_ok jak))))) Tryz.func124 (by kernel_rfl) (by kernel_rfl) fun as_ ob rs h ho => ?_
 unfold jeW at h
 split at h
 ·rename_i num den u24 up
  cases h
  exact ⟨Nat.le_of_ble_eq_true rfl, _, _, jn5 num den u24 up _ (jai ho)⟩
 ·cases h
theorem sp_124_ok {sp : jab} (h : jac Tryz.prog sp) : jac Tryz.prog (sp_124 sp) := jah jn6 h
def jiw : List (Option Cont) := [none, none]
def y81 (num : Int) (den : Int) (x0 : Int) : Option (Int ⊕ Int) :=
 Option.bind (y77 num den x0 (1 : Int)) fun r4 =>
 if r4 < 0 then
  some (.inl (wrap .i64 (x0 - 1)))
 else
  some (.inr x0)
def y82 (num : Int) (den : Int) (x1 : Int) : Option (Int ⊕ Int) :=
 Option.bind (y77 num den x1 (0 : Int)) fun r5 =>
 if r5 > 0 then
  some (.inl (wrap .i64 (x1 + 1)))
 else
  some (.inr x1)
def jro (u15 : Int) (u49 : Int) : Option (Int × Int × Int) :=
 some ((u15, u49, 0))
def jn7 (num : Int) (den : Int) (u15 : Int) : Option (Int × Int × Int) :=
 Option.bind (jae (y82 num den) big (-90 : Int)) (jro u15)
def y78 (num : Int) (den : Int) : Option (Int × Int × Int) :=
 Option.bind (y53 num (1 : Int) (10000000000000 : Int)) fun r0 =>
 if (!r0) = true then
  some (((0 : Int), 0, 2))
 else
  Option.bind (y53 den (1 : Int) (10000000000000 : Int)) fun r1 =>
  if (!r1) = true then
  some (((0 : Int), 0, 2))
  else
  Option.bind (y38 num den (1000000000 : Int) (1 : Int)) fun r2 =>
  if r2 > 0 then
   some (((0 : Int), 0, 8))
  else
   Option.bind (y38 num den (1 : Int) (1000000000 : Int)) fun r3 =>
   if r3 < 0 then
   some (((0 : Int), 0, 8))
   else
   Option.bind (jae (y81 num den) big (90 : Int)) (jn7 num den)
def jeX : List A → Option (Prop × List RV)
 | [.d (.i .i64 num), .d (.i .i64 den)] => some (ok (y78 num den), [.s [.i .i64 ((val (y78 num den)).1), .i .i64 ((val (y78 num den)).2.1)], .d (.i .i64 ((val (y78 num den)).2.2))])
 | _ => none
abbrev sp_81 : jab → jab := jav 81 true (jar jiw jeX)
theorem jn8 (num : Int) (den : Int) (r : Int × Int × Int) (h : Option.bind (y78 num den) some = some r) : jbb Tryz.f81 ((sp_35 (sp_47 (sp_124 sp0)))) (fun gs id _ => match id with
 | 0 => some ⟨Int × Nat, fun z => ⟨[(0, .w (.c (.d (.i .i64 num)))), (1, .w (.c (.d (.i .i64 den)))), (4, .w (.c (.p 2 0 1 0))), (6, .w (.c (.p 3 0 1 0)))], [(2, .box 30 [.d (.i .i64 0), .d (.i .i64 0)]), (3, .box 30 [.d (.i .i64 (Prod.fst z)), .d (.i .i64 (-90 : Int))])], 4⟩, fun z => Option.bind (jae (y81 num den) (Prod.snd z) (Prod.fst z)) (fun y0 => Option.bind (jn7 num den y0) some) = some r, fun z => Prod.snd z⟩
 | 2 => some ⟨Int × Int × Nat, fun z => ⟨[(0, .w (.c (.d (.i .i64 num)))), (1, .w (.c (.d (.i .i64 den)))), (4, .w (.c (.p 2 0 1 0))), (6, .w (.c (.p 3 0 1 0)))], [(2, .box 30 [.d (.i .i64 0), .d (.i .i64 0)]), (3, .box 30 [.d (.i .i64 (Prod.fst z)), .d (.i .i64 (Prod.fst (Prod.snd z)))])], 4⟩, fun z => Option.bind (jae (y82 num den) (Prod.snd (Prod.snd z)) (Prod.fst (Prod.snd z))) (fun y0 => Option.bind (jro (Prod.fst z) y0) some) = some r, fun z => Prod.snd (Prod.snd z)⟩
 | _ => none) [.d (.i .i64 num), .d (.i .i64 den)] [.s [.i .i64 r.1, .i .i64 r.2.1], .d (.i .i64 r.2.2)] := by
 refine Eq.mp (by kernel_rfl : (
 (Ob (ok (y53 num (1 : Int) (10000000000000 : Int))) ∧
 Br (!val (y53 num (1 : Int) (10000000000000 : Int)))
  ((Ob True ∧
 (Ob True ∧
 (Ob ((0 : Int) = r.1) ∧
 (Ob ((0 : Int) = r.2.1) ∧
 (Ob ((2 : Int) = r.2.2) ∧
 True))))))
  ((Ob (ok (y53 den (1 : Int) (10000000000000 : Int))) ∧
 Br (!val (y53 den (1 : Int) (10000000000000 : Int)))
  ((Ob True ∧
 (Ob True ∧
 (Ob ((0 : Int) = r.1) ∧
 (Ob ((0 : Int) = r.2.1) ∧
 (Ob ((2 : Int) = r.2.2) ∧
 True))))))
  ((Ob (ok (y38 num den (1000000000 : Int) (1 : Int))) ∧
 Br (decide (val (y38 num den (1000000000 : Int) (1 : Int)) > 0))
  ((Ob True ∧
 (Ob True ∧
 (Ob ((0 : Int) = r.1) ∧
 (Ob ((0 : Int) = r.2.1) ∧
 (Ob ((8 : Int) = r.2.2) ∧
 True))))))
  ((Ob (ok (y38 num den (1 : Int) (1000000000 : Int))) ∧
 Br (decide (val (y38 num den (1 : Int) (1000000000 : Int)) < 0))
  ((Ob True ∧
 (Ob True ∧
 (Ob ((0 : Int) = r.1) ∧
 (Ob ((0 : Int) = r.2.1) ∧
 (Ob ((8 : Int) = r.2.2) ∧
 True))))))
  (((∃ (v0 : Int × Nat), (Ob ((Option.bind (jae (y81 num den) v0.2 v0.1) fun y0 => Option.bind (jn7 num den y0) some) = some r) ∧
 (Ob (num = num) ∧
 (Ob (den = den) ∧
 (Ob (0 = 0) ∧
 (Ob (0 = 0) ∧
 (Ob ((0 : Int) = (0 : Int)) ∧
 (Ob ((0 : Int) = (0 : Int)) ∧
 (Ob ((90 : Int) = v0.1) ∧
 (Ob ((-90 : Int) = (-90 : Int)) ∧
 True)))))))))) ∧
  (∀ (v0 : Int × Nat), ((Option.bind (jae (y81 num den) v0.2 v0.1) fun y0 => Option.bind (jn7 num den y0) some) = some r →
 (Ob (ok (y77 num den v0.1 (1 : Int))) ∧
 Br (decide (val (y77 num den v0.1 (1 : Int)) < 0))
  ((∃ (v1 : Int × Nat), (Ob ((Option.bind (jae (y81 num den) v1.2 v1.1) fun y0 => Option.bind (jn7 num den y0) some) = some r) ∧
 (Ob (v1.2 < v0.2) ∧
 (Ob (num = num) ∧
 (Ob (den = den) ∧
 (Ob (0 = 0) ∧
 (Ob (0 = 0) ∧
 (Ob ((0 : Int) = (0 : Int)) ∧
 (Ob ((0 : Int) = (0 : Int)) ∧
 (Ob (wrap .i64 (v0.1 - 1) = v1.1) ∧
 (Ob ((-90 : Int) = (-90 : Int)) ∧
 True))))))))))))
  (((∃ (v1a : Int × Int × Nat), (Ob ((Option.bind (jae (y82 num den) v1a.2.2 v1a.2.1) fun y0 => Option.bind (jro v1a.1 y0) some) = some r) ∧
 (Ob (num = num) ∧
 (Ob (den = den) ∧
 (Ob (0 = 0) ∧
 (Ob (0 = 0) ∧
 (Ob ((0 : Int) = (0 : Int)) ∧
 (Ob ((0 : Int) = (0 : Int)) ∧
 (Ob (v0.1 = v1a.1) ∧
 (Ob ((-90 : Int) = v1a.2.1) ∧
 True)))))))))) ∧
  (∀ (v1a : Int × Int × Nat), ((Option.bind (jae (y82 num den) v1a.2.2 v1a.2.1) fun y0 => Option.bind (jro v1a.1 y0) some) = some r →
 (Ob (ok (y77 num den v1a.2.1 (0 : Int))) ∧
 Br (decide (val (y77 num den v1a.2.1 (0 : Int)) > 0))
  ((∃ (v2 : Int × Int × Nat), (Ob ((Option.bind (jae (y82 num den) v2.2.2 v2.2.1) fun y0 => Option.bind (jro v2.1 y0) some) = some r) ∧
 (Ob (v2.2.2 < v1a.2.2) ∧
 (Ob (num = num) ∧
 (Ob (den = den) ∧
 (Ob (0 = 0) ∧
 (Ob (0 = 0) ∧
 (Ob ((0 : Int) = (0 : Int)) ∧
 (Ob ((0 : Int) = (0 : Int)) ∧
 (Ob (v1a.1 = v2.1) ∧
 (Ob (wrap .i64 (v1a.2.1 + 1) = v2.2.1) ∧
 True))))))))))))
  ((Ob True ∧
 (Ob True ∧
 (Ob (v1a.1 = r.1) ∧
 (Ob (v1a.2.1 = r.2.1) ∧
 (Ob ((0 : Int) = r.2.2) ∧
 True)))))))))))))))))))))))) = _) ?_
 refine jau h fun h => ?_
 refine jaW h (fun h => ?_) (fun h => ?_)
 ·refine jad ?_
  refine jad ?_
  exact rcs h
 ·refine jau h fun h => ?_
  refine jaW h (fun h => ?_) (fun h => ?_)
  ·refine jad ?_
   refine jad ?_
   exact rcs h
  ·refine jau h fun h => ?_
   refine jaN h (fun h => ?_) (fun h => ?_)
   ·refine jad ?_
    refine jad ?_
    exact rcs h
   ·refine jau h fun h => ?_
    refine jaN h (fun h => ?_) (fun h => ?_)
    ·refine jad ?_
     refine jad ?_
     exact rcs h
    ·refine ⟨⟨((90 : Int), big), ⟨jbd h⟩, (by repeat' constructor)⟩, fun z6 hz6 => ?_⟩
     obtain ⟨k6, hm6, h⟩ := jaT hz6
     refine jau h fun h => ?_
     refine jaN h (fun h => ?_) (fun h => ?_)
     ·exact ⟨(_, k6), ⟨jaL h⟩, ⟨jaZ hm6.symm⟩, (by repeat' constructor)⟩
     ·have h := jaA h
      refine ⟨⟨(Prod.fst z6, (-90 : Int), big), ⟨jbd h⟩, (by repeat' constructor)⟩, fun z7 hz7 => ?_⟩
      obtain ⟨k7, hm7, h⟩ := jaT hz7
      refine jau h fun h => ?_
      refine jaN h (fun h => ?_) (fun h => ?_)
      ·exact ⟨(Prod.fst z7, _, k7), ⟨jaL h⟩, ⟨jaZ hm7.symm⟩, (by repeat' constructor)⟩
      ·have h := jaA h
       refine jad ?_
       refine jad ?_
       exact rcs h
theorem jn9 : jag Tryz.prog 81 true (jar jiw jeX) := by
 refine jaz (sp := (sp_35 (sp_47 (sp_124 sp0)))) (fn := Tryz.f81) (body := jaj Tryz.f81) mixed (sp_35_ok (sp_47_ok (sp_124_ok jak))) Tryz.func81 (by kernel_rfl) (by kernel_rfl) fun as_ ob rs h ho => ?_
 unfold jeX at h
 split at h
 ·rename_i num den
  cases h
  exact ⟨Nat.le_of_ble_eq_true rfl, _, _, jn8 num den _ (jai ho)⟩
 ·cases h
theorem sp_81_ok {sp : jab} (h : jac Tryz.prog sp) : jac Tryz.prog (sp_81 sp) := jah jn9 h
def jeY : List SV := [.a [.d, .r (.floats .f32 []), .d, .d], .c (.d)]
def y22 (u4 : Int) (u0 : List Nat) (u6 : Int) (u5 : Int) (u7 : Int) : Option (Int × Int × Int) :=
 Option.bind (y76 u4 u7) fun r0 =>
 if r0.1 ≥ (↑(List.length u0) : Int) then
  some (((0 : Int), 0, 12))
 else
  Option.bind (y91 u4 u0 u6 u5 u7) fun r1 =>
  if (r1.1 == 0) = true then
  some (((0 : Int), 0, 11))
  else
  if (r1.2.2.1 == 0) = true then
   some (((0 : Int), 0, 11))
  else
   Option.bind (y78 r1.1 r1.2.2.2) fun r2 =>
   if (r2.2.2 != 0) = true then
   some (((0 : Int), 0, r2.2.2))
   else
   Option.bind (y78 r1.2.1 r1.2.2.1) fun r3 =>
   if (r3.2.2 != 0) = true then
    some (((0 : Int), 0, r3.2.2))
   else
    some ((r2.1, r3.2.1, 0))
def jeZ : List Lf → Option GT
 | [.d (.i .i64 u4), .r (.floats .f32 u0), .d (.i .i64 u6), .d (.i .i64 u5), .d (.i .i64 u7)] => some (.leaf (ok (y22 u4 u0 u6 u5 u7)) [.s [.d (.i .i64 ((val (y22 u4 u0 u6 u5 u7)).1)), .d (.i .i64 ((val (y22 u4 u0 u6 u5 u7)).2.1))], .c (.d (.i .i64 ((val (y22 u4 u0 u6 u5 u7)).2.2)))])
 | _ => none
abbrev sp_28 : jab → jab := jav 28 true (jal jeY jeZ)
def jpy (u4 : Int) (u0 : List Nat) (u6 : Int) (u5 : Int) (u7 : Int) : T (Int × Int × Int) :=
 .call (y76 u4 u7) fun r0 =>
 .brP (r0.1 ≥ (↑(List.length u0) : Int))
 (.obT
 (.obT
 (.rc ((((0 : Int), 0, 12))))))
 (.call (y91 u4 u0 u6 u5 u7) fun r1 =>
 .brB (r1.1 == 0)
 (.obT
 (.obT
 (.rc ((((0 : Int), 0, 11))))))
 (.brB (r1.2.2.1 == 0)
 (.obT
 (.obT
 (.rc ((((0 : Int), 0, 11))))))
 (.call (y78 r1.1 r1.2.2.2) fun r2 =>
 .brB (r2.2.2 != 0)
 (.obT
 (.obT
 (.rc ((((0 : Int), 0, r2.2.2))))))
 (.call (y78 r1.2.1 r1.2.2.1) fun r3 =>
 .brB (r3.2.2 != 0)
 (.obT
 (.obT
 (.rc ((((0 : Int), 0, r3.2.2))))))
 (.obT
 (.obT
 (.rc (((r2.1, r3.2.1, 0))))))))))
theorem joa (u4 : Int) (u0 : List Nat) (u6 : Int) (u5 : Int) (u7 : Int) (r : Int × Int × Int) (h : Option.bind (y22 u4 u0 u6 u5 u7) some = some r) : ja0 Tryz.f28 ((sp_79 (sp_80 (sp_81 sp0)))) (fun _ _ _ => none) (jaO jeY [.d (.i .i64 u4), .r (.floats .f32 u0), .d (.i .i64 u6), .d (.i .i64 u5), .d (.i .i64 u7)]) [.s [.d (.i .i64 r.1), .d (.i .i64 r.2.1)], .c (.d (.i .i64 r.2.2))] :=
 T.vc (t := jpy u4 u0 u6 u5 u7) (by kernel_rfl) (by kernel_rfl) h
theorem job : jag Tryz.prog 28 true (jal jeY jeZ) := by
 refine jat (sp := (sp_79 (sp_80 (sp_81 sp0)))) (fn := Tryz.f28) (body := jaj Tryz.f28) mixed (sp_79_ok (sp_80_ok (sp_81_ok jak))) Tryz.func28 (by kernel_rfl) (by kernel_rfl) fun ls t h ho b hb => ?_
 unfold jeZ at h
 split at h
 ·rename_i u4 u0 u6 u5 u7
  cases h
  obtain rfl := jaB hb
  exact ⟨Nat.le_of_ble_eq_true (by kernel_rfl), _, _, joa u4 u0 u6 u5 u7 _ (jai ho)⟩
 ·cases h
theorem sp_28_ok {sp : jab} (h : jac Tryz.prog sp) : jac Tryz.prog (sp_28 sp) := jah job h
def jfW : List SV := [.a [.d, .r (.floats .f32 []), .d, .d]]
def y92 (u4 : Int) (u0 : List Nat) (u6 : Int) (u5 : Int) (x0 : (Int × Int × Int)) : Option ((Int × Int × Int) ⊕ (Int × Int)) :=
 if x0.1 < (↑(List.length u0) : Int) then
  Option.bind (y60 u4 u0 u6 u5 x0.1) fun r1 =>
  some (.inl ((wrap .i64 (x0.1 + 1), wrap .i64 (x0.2.1 + wrap .i64 (x0.1 * r1.1)), wrap .i64 (x0.2.2 + wrap .i64 (x0.1 * r1.2)))))
 else
  some (.inr (x0.2.1, x0.2.2))
def joc (u4 : Int) (u0 : List Nat) (r0 : Int × Int) (u15 : Int × Int) : Option (Int × Int × Int) :=
 if r0.2 ≠ (0 : Int) then
  if r0.2 ≠ (0 : Int) then
  Option.bind (y28 (wrap .i64 (Int.tmod u15.1 r0.2 * 1000000)) r0.2) fun r2 =>
  Option.bind (y28 (wrap .i64 (wrap .i64 (wrap .i64 (Int.tdiv u15.1 r0.2) * 1000000) + r2)) u4) fun r3 =>
  Option.bind (jbl (wrap .i64 (wrap .i64 ((↑(List.length u0) : Int) - 1) * 1000000)) u4) fun r4 =>
  if r0.1 ≠ (0 : Int) then
   if wrap .i64 (Int.tdiv u15.2 r0.1) < (↑(List.length u0) : Int) then
   if r0.1 ≠ (0 : Int) then
    if r0.1 ≠ (0 : Int) then
    Option.bind (jbl (wrap .i64 (Int.tmod u15.2 r0.1 * 1000000)) r0.1) fun r5 =>
    Option.bind (jbl (wrap .i64 (wrap .i64 (wrap .i64 (Int.tdiv u15.2 r0.1) * 1000000) + r5)) u4) fun r6 =>
    some ((r3, if r6 < r4 then r6 else r4, 0))
    else none
   else none
   else
   some ((r3, r4, 0))
  else none
  else none
 else none
def y5 (u4 : Int) (u0 : List Nat) (u6 : Int) (u5 : Int) : Option (Int × Int × Int) :=
 if (u5 != 0) = true then
  some (((0 : Int), 0, 23))
 else
  Option.bind (y36 u4 u0 u6 u5 (0 : Int)) fun r0 =>
  if (r0.1 == 0) = true then
  some (((0 : Int), 0, 11))
  else
  Option.bind (jae (y92 u4 u0 u6 u5) big (((0 : Int), 0, 0))) (joc u4 u0 r0)
def jfX : List Lf → Option GT
 | [.d (.i .i64 u4), .r (.floats .f32 u0), .d (.i .i64 u6), .d (.i .i64 u5)] => some (.leaf (ok (y5 u4 u0 u6 u5)) [.s [.d (.i .i64 ((val (y5 u4 u0 u6 u5)).1)), .d (.i .i64 ((val (y5 u4 u0 u6 u5)).2.1))], .c (.d (.i .i64 ((val (y5 u4 u0 u6 u5)).2.2)))])
 | _ => none
abbrev sp_30 : jab → jab := jav 30 true (jal jfW jfX)
abbrev jbq (u4 : Int) (u0 : List Nat) (u6 : Int) (u5 : Int) := (val (y36 u4 u0 u6 u5 (0 : Int)))
abbrev jtK (u4 : Int) (u0 : List Nat) (u6 : Int) (u5 : Int) (v0 : (Int × Int × Int) × Nat) := (y28 (wrap .i64 (wrap .i64 (wrap .i64 (Int.tdiv v0.1.2.1 (jbq u4 u0 u6 u5).2) * 1000000) + val (y28 (wrap .i64 (Int.tmod v0.1.2.1 (jbq u4 u0 u6 u5).2 * 1000000)) (jbq u4 u0 u6 u5).2))) u4)
abbrev jtL (u4 : Int) (u0 : List Nat) (u6 : Int) (u5 : Int) (v0 : (Int × Int × Int) × Nat) := (jbl (wrap .i64 (wrap .i64 (wrap .i64 (Int.tdiv v0.1.2.2 (jbq u4 u0 u6 u5).1) * 1000000) + val (jbl (wrap .i64 (Int.tmod v0.1.2.2 (jbq u4 u0 u6 u5).1 * 1000000)) (jbq u4 u0 u6 u5).1))) u4)
abbrev jpQ (u0 : List Nat) := (wrap .i64 (wrap .i64 ((↑(List.length u0) : Int) - 1) * 1000000))
theorem jpz (u4 : Int) (u0 : List Nat) (u6 : Int) (u5 : Int) (r : Int × Int × Int) (h : Option.bind (y5 u4 u0 u6 u5) some = some r) : ja0 Tryz.f30 ((sp_72 (sp_83 (sp_74 (sp_75 sp0))))) (fun gs id _ => match id with
 | 0 => some ⟨(Int × Int × Int) × Nat, fun z => ⟨[(1, .w (.c (.p 1 0 1 0))), (2, .w (.c (.p 2 0 1 0))), (4, .w (.c (.p 3 0 1 0))), (5, .w (.c (.p 4 0 1 0))), (6, .w (.c (.d (.i .i64 ((↑(List.length u0) : Int)))))), (7, .w (.c (.d (.i .i64 (Prod.fst (Prod.fst z))))))], [(1, .box 26 [.d (.i .i64 u4), .o 0, .d (.i .i64 u6), .d (.i .i64 u5)]), (2, .box 30 [.d (.i .i64 0), .d (.i .i64 0)]), (3, .box 30 [.d (.i .i64 ((val (y36 u4 u0 u6 u5 (0 : Int))).1)), .d (.i .i64 ((val (y36 u4 u0 u6 u5 (0 : Int))).2))]), (4, .box 30 [.d (.i .i64 (Prod.fst (Prod.snd (Prod.fst z)))), .d (.i .i64 (Prod.snd (Prod.snd (Prod.fst z))))]), (0, .ext (.floats .f32 u0))], 5⟩, fun z => Option.bind (jae (y92 u4 u0 u6 u5) (Prod.snd z) (Prod.fst z)) (fun y0 => Option.bind (joc u4 u0 (val (y36 u4 u0 u6 u5 (0 : Int))) y0) some) = some r, fun z => Prod.snd z⟩
 | _ => none) (jaO jfW [.d (.i .i64 u4), .r (.floats .f32 u0), .d (.i .i64 u6), .d (.i .i64 u5)]) [.s [.d (.i .i64 r.1), .d (.i .i64 r.2.1)], .c (.d (.i .i64 r.2.2))] := by
 refine Eq.mp (by kernel_rfl : (
 Br (u5 != 0)
  ((Ob True ∧
 (Ob True ∧
 (Ob ((0 : Int) = r.1) ∧
 (Ob ((0 : Int) = r.2.1) ∧
 (Ob ((23 : Int) = r.2.2) ∧
 True))))))
  ((Ob (ok (y36 u4 u0 u6 u5 (0 : Int))) ∧
 Br ((jbq u4 u0 u6 u5).1 == 0)
  ((Ob True ∧
 (Ob True ∧
 (Ob ((0 : Int) = r.1) ∧
 (Ob ((0 : Int) = r.2.1) ∧
 (Ob ((11 : Int) = r.2.2) ∧
 True))))))
  (((∃ (v0 : (Int × Int × Int) × Nat), (Ob ((Option.bind (jae (y92 u4 u0 u6 u5) v0.2 v0.1) fun y0 => Option.bind (joc u4 u0 (jbq u4 u0 u6 u5) y0) some) = some r) ∧
 (Ob (0 = 0) ∧
 (Ob (0 = 0) ∧
 (Ob (0 = 0) ∧
 (Ob (0 = 0) ∧
 (Ob ((↑(List.length u0) : Int) = (↑(List.length u0) : Int)) ∧
 (Ob ((0 : Int) = v0.1.1) ∧
 (Ob (u4 = u4) ∧
 (Ob (u6 = u6) ∧
 (Ob (u5 = u5) ∧
 (Ob ((0 : Int) = (0 : Int)) ∧
 (Ob ((0 : Int) = (0 : Int)) ∧
 (Ob ((jbq u4 u0 u6 u5).1 = (jbq u4 u0 u6 u5).1) ∧
 (Ob ((jbq u4 u0 u6 u5).2 = (jbq u4 u0 u6 u5).2) ∧
 (Ob ((0 : Int) = v0.1.2.1) ∧
 (Ob ((0 : Int) = v0.1.2.2) ∧
 (Ob (u0 = u0) ∧
 True)))))))))))))))))) ∧
  (∀ (v0 : (Int × Int × Int) × Nat), ((Option.bind (jae (y92 u4 u0 u6 u5) v0.2 v0.1) fun y0 => Option.bind (joc u4 u0 (jbq u4 u0 u6 u5) y0) some) = some r →
 Br (decide (v0.1.1 < (↑(List.length u0) : Int)))
  ((Ob (ok (y60 u4 u0 u6 u5 v0.1.1)) ∧
  (∃ (v1 : (Int × Int × Int) × Nat), (Ob ((Option.bind (jae (y92 u4 u0 u6 u5) v1.2 v1.1) fun y0 => Option.bind (joc u4 u0 (jbq u4 u0 u6 u5) y0) some) = some r) ∧
 (Ob (v1.2 < v0.2) ∧
 (Ob (0 = 0) ∧
 (Ob (0 = 0) ∧
 (Ob (0 = 0) ∧
 (Ob (0 = 0) ∧
 (Ob ((↑(List.length u0) : Int) = (↑(List.length u0) : Int)) ∧
 (Ob (wrap .i64 (v0.1.1 + 1) = v1.1.1) ∧
 (Ob (u4 = u4) ∧
 (Ob (u6 = u6) ∧
 (Ob (u5 = u5) ∧
 (Ob ((0 : Int) = (0 : Int)) ∧
 (Ob ((0 : Int) = (0 : Int)) ∧
 (Ob ((jbq u4 u0 u6 u5).1 = (jbq u4 u0 u6 u5).1) ∧
 (Ob ((jbq u4 u0 u6 u5).2 = (jbq u4 u0 u6 u5).2) ∧
 (Ob (wrap .i64 (v0.1.2.1 + wrap .i64 (v0.1.1 * (val (y60 u4 u0 u6 u5 v0.1.1)).1)) = v1.1.2.1) ∧
 (Ob (wrap .i64 (v0.1.2.2 + wrap .i64 (v0.1.1 * (val (y60 u4 u0 u6 u5 v0.1.1)).2)) = v1.1.2.2) ∧
 (Ob (u0 = u0) ∧
 True)))))))))))))))))))))
  ((Ob ((jbq u4 u0 u6 u5).2 ≠ (0 : Int)) ∧
 (Ob ((jbq u4 u0 u6 u5).2 ≠ (0 : Int)) ∧
 (Ob (ok (y28 (wrap .i64 (Int.tmod v0.1.2.1 (jbq u4 u0 u6 u5).2 * 1000000)) (jbq u4 u0 u6 u5).2)) ∧
 (Ob (ok (jtK u4 u0 u6 u5 v0)) ∧
 (Ob (ok (jbl (jpQ u0) u4)) ∧
 (Ob ((jbq u4 u0 u6 u5).1 ≠ (0 : Int)) ∧
 Br (decide (wrap .i64 (Int.tdiv v0.1.2.2 (jbq u4 u0 u6 u5).1) < (↑(List.length u0) : Int)))
  ((Ob ((jbq u4 u0 u6 u5).1 ≠ (0 : Int)) ∧
 (Ob ((jbq u4 u0 u6 u5).1 ≠ (0 : Int)) ∧
 (Ob (ok (jbl (wrap .i64 (Int.tmod v0.1.2.2 (jbq u4 u0 u6 u5).1 * 1000000)) (jbq u4 u0 u6 u5).1)) ∧
 (Ob (ok (jtL u4 u0 u6 u5 v0)) ∧
 (Ob True ∧
 (Ob True ∧
 (Ob (val (jtK u4 u0 u6 u5 v0) = r.1) ∧
 (Ob ((if val (jtL u4 u0 u6 u5 v0) < val (jbl (jpQ u0) u4) then val (jtL u4 u0 u6 u5 v0) else val (jbl (jpQ u0) u4)) = r.2.1) ∧
 (Ob ((0 : Int) = r.2.2) ∧
 True))))))))))
  ((Ob True ∧
 (Ob True ∧
 (Ob (val (jtK u4 u0 u6 u5 v0) = r.1) ∧
 (Ob (val (jbl (jpQ u0) u4) = r.2.1) ∧
 (Ob ((0 : Int) = r.2.2) ∧
 True)))))))))))))))))))) = _) ?_
 refine jaW h (fun h => ?_) (fun h => ?_)
 ·refine jad ?_
  refine jad ?_
  exact rcs h
 ·refine jau h fun h => ?_
  refine jaW h (fun h => ?_) (fun h => ?_)
  ·refine jad ?_
   refine jad ?_
   exact rcs h
  ·refine ⟨⟨(((0 : Int), 0, 0), big), ⟨jbd h⟩, (by repeat' constructor)⟩, fun z7 hz7 => ?_⟩
   obtain ⟨k7, hm7, h⟩ := jaT hz7
   refine jaN h (fun h => ?_) (fun h => ?_)
   ·refine jau h fun h => ?_
    exact ⟨(_, k7), ⟨jaL h⟩, ⟨jaZ hm7.symm⟩, (by repeat' constructor)⟩
   ·have h := jaA h
    refine jao h fun h => ?_
    refine jao h fun h => ?_
    refine jau h fun h => ?_
    refine jau h fun h => ?_
    refine jau h fun h => ?_
    refine jao h fun h => ?_
    refine jaN h (fun h => ?_) (fun h => ?_)
    ·refine jao h fun h => ?_
     refine jao h fun h => ?_
     refine jau h fun h => ?_
     refine jau h fun h => ?_
     refine jad ?_
     refine jad ?_
     exact rcs h
    ·refine jad ?_
     refine jad ?_
     exact rcs h
theorem jpA : jag Tryz.prog 30 true (jal jfW jfX) := by
 refine jat (sp := (sp_72 (sp_83 (sp_74 (sp_75 sp0))))) (fn := Tryz.f30) (body := jaj Tryz.f30) mixed (sp_72_ok (sp_83_ok (sp_74_ok (sp_75_ok jak)))) Tryz.func30 (by kernel_rfl) (by kernel_rfl) fun ls t h ho b hb => ?_
 unfold jfX at h
 split at h
 ·rename_i u4 u0 u6 u5
  cases h
  obtain rfl := jaB hb
  exact ⟨Nat.le_of_ble_eq_true (by kernel_rfl), _, _, jpz u4 u0 u6 u5 _ (jai ho)⟩
 ·cases h
theorem sp_30_ok {sp : jab} (h : jac Tryz.prog sp) : jac Tryz.prog (sp_30 sp) := jah jpA h
end Go.Sh
end

section
namespace Go.Sh
open Go Go.Proofs Go.RowKit Go.Sx
open Go.IntKind (wrap)
def y125 : List SV := [.a [.d, .r (.floats .f32 []), .d, .d], .c (.d)]
def y7 (u4 : Int) (u0 : List Nat) (u6 : Int) (u5 : Int) (u7 : Int) : Option (Int × Int × Int) :=
 Option.bind (y91 u4 u0 u6 u5 u7) fun r0 =>
 if (wrap .i64 (r0.1 + r0.2.2.1) == 0) = true then
  some (((0 : Int), 0, 11))
 else
  Option.bind (y28 (wrap .i64 (1000 * r0.1)) (wrap .i64 (r0.1 + r0.2.2.2))) fun r1 =>
  Option.bind (jbl (wrap .i64 (1000 * r0.2.1)) (wrap .i64 (r0.2.1 + r0.2.2.1))) fun r2 =>
  some ((r1, r2, 0))
def y126 : List Lf → Option GT
 | [.d (.i .i64 u4), .r (.floats .f32 u0), .d (.i .i64 u6), .d (.i .i64 u5), .d (.i .i64 u7)] => some (.leaf (ok (y7 u4 u0 u6 u5 u7)) [.s [.d (.i .i64 ((val (y7 u4 u0 u6 u5 u7)).1)), .d (.i .i64 ((val (y7 u4 u0 u6 u5 u7)).2.1))], .c (.d (.i .i64 ((val (y7 u4 u0 u6 u5 u7)).2.2)))])
 | _ => none
abbrev sp_46 : jab → jab := jav 46 true (jal y125 y126)
def jgK (u4 : Int) (u0 : List Nat) (u6 : Int) (u5 : Int) (u7 : Int) : T (Int × Int × Int) :=
 .call (y91 u4 u0 u6 u5 u7) fun r0 =>
 .brB (wrap .i64 (r0.1 + r0.2.2.1) == 0)
 (.obT
 (.obT
 (.rc ((((0 : Int), 0, 11))))))
 (.call (y28 (wrap .i64 (1000 * r0.1)) (wrap .i64 (r0.1 + r0.2.2.2))) fun r1 =>
 .call (jbl (wrap .i64 (1000 * r0.2.1)) (wrap .i64 (r0.2.1 + r0.2.2.1))) fun r2 =>
 .obT
 (.obT
 (.rc (((r1, r2, 0))))))
theorem jf3 (u4 : Int) (u0 : List Nat) (u6 : Int) (u5 : Int) (u7 : Int) (r : Int × Int × Int) (h : Option.bind (y7 u4 u0 u6 u5 u7) some = some r) : ja0 Tryz.f46 ((sp_80 (sp_74 (sp_75 sp0)))) (fun _ _ _ => none) (jaO y125 [.d (.i .i64 u4), .r (.floats .f32 u0), .d (.i .i64 u6), .d (.i .i64 u5), .d (.i .i64 u7)]) [.s [.d (.i .i64 r.1), .d (.i .i64 r.2.1)], .c (.d (.i .i64 r.2.2))] :=
 T.vc (t := jgK u4 u0 u6 u5 u7) (by kernel_rfl) (by kernel_rfl) h
theorem jf4 : jag Tryz.prog 46 true (jal y125 y126) := by
 refine jat (sp := (sp_80 (sp_74 (sp_75 sp0)))) (fn := Tryz.f46) (body := jaj Tryz.f46) mixed (sp_80_ok (sp_74_ok (sp_75_ok jak))) Tryz.func46 (by kernel_rfl) (by kernel_rfl) fun ls t h ho b hb => ?_
 unfold y126 at h
 split at h
 ·rename_i u4 u0 u6 u5 u7
  cases h
  obtain rfl := jaB hb
  exact ⟨Nat.le_of_ble_eq_true (by kernel_rfl), _, _, jf3 u4 u0 u6 u5 u7 _ (jai ho)⟩
 ·cases h
theorem sp_46_ok {sp : jab} (h : jac Tryz.prog sp) : jac Tryz.prog (sp_46 sp) := jah jf4 h
def jk0 : List (Option Cont) := [none, none, none]
def y93 (u44 : Int) (aLo : Int) (aHi : Int) (bLo : Int) (bHi : Int) : Option Int :=
 if u44 ≤ 2 then
  if wrap .i64 (20 * if wrap .i64 (bHi - aLo) > wrap .i64 (aHi - bLo) then wrap .i64 (bHi - aLo) else wrap .i64 (aHi - bLo)) ≤ if bLo < aLo then bLo else aLo then
  some (2 : Int)
  else
  if wrap .i64 (20 * if wrap .i64 (bLo - aHi) > if wrap .i64 (aLo - bHi) > 0 then wrap .i64 (aLo - bHi) else (0 : Int) then wrap .i64 (bLo - aHi) else if wrap .i64 (aLo - bHi) > 0 then wrap .i64 (aLo - bHi) else (0 : Int)) > if bHi > aHi then bHi else aHi then
   some (0 : Int)
  else
   some (1 : Int)
 else
  if (u44 == 3) = true then
  if (u44 == 4) = true then
   if (if wrap .i64 (bHi - aLo) > wrap .i64 (aHi - bLo) then wrap .i64 (bHi - aLo) else wrap .i64 (aHi - bLo)) ≤ 50 then
   some (2 : Int)
   else
   if (if wrap .i64 (bLo - aHi) > if wrap .i64 (aLo - bHi) > 0 then wrap .i64 (aLo - bHi) else (0 : Int) then wrap .i64 (bLo - aHi) else if wrap .i64 (aLo - bHi) > 0 then wrap .i64 (aLo - bHi) else (0 : Int)) > 50 then
    some (0 : Int)
   else
    some (1 : Int)
  else
   if (if wrap .i64 (bHi - aLo) > wrap .i64 (aHi - bLo) then wrap .i64 (bHi - aLo) else wrap .i64 (aHi - bLo)) ≤ 1 then
   some (2 : Int)
   else
   if (if wrap .i64 (bLo - aHi) > if wrap .i64 (aLo - bHi) > 0 then wrap .i64 (aLo - bHi) else (0 : Int) then wrap .i64 (bLo - aHi) else if wrap .i64 (aLo - bHi) > 0 then wrap .i64 (aLo - bHi) else (0 : Int)) > 1 then
    some (0 : Int)
   else
    some (1 : Int)
  else
  if (u44 == 4) = true then
   if (if wrap .i64 (bHi - aLo) > wrap .i64 (aHi - bLo) then wrap .i64 (bHi - aLo) else wrap .i64 (aHi - bLo)) ≤ 50 then
   some (2 : Int)
   else
   if (if wrap .i64 (bLo - aHi) > if wrap .i64 (aLo - bHi) > 0 then wrap .i64 (aLo - bHi) else (0 : Int) then wrap .i64 (bLo - aHi) else if wrap .i64 (aLo - bHi) > 0 then wrap .i64 (aLo - bHi) else (0 : Int)) > 50 then
    some (0 : Int)
   else
    some (1 : Int)
  else
   if (if wrap .i64 (bHi - aLo) > wrap .i64 (aHi - bLo) then wrap .i64 (bHi - aLo) else wrap .i64 (aHi - bLo)) ≤ 10000 then
   some (2 : Int)
   else
   if (if wrap .i64 (bLo - aHi) > if wrap .i64 (aLo - bHi) > 0 then wrap .i64 (aLo - bHi) else (0 : Int) then wrap .i64 (bLo - aHi) else if wrap .i64 (aLo - bHi) > 0 then wrap .i64 (aLo - bHi) else (0 : Int)) > 10000 then
    some (0 : Int)
   else
    some (1 : Int)
def jgL : List A → Option (Prop × List RV)
 | [.d (.i .i64 u44), .s [.i .i64 aLo, .i .i64 aHi], .s [.i .i64 bLo, .i .i64 bHi]] => some (ok (y93 u44 aLo aHi bLo bHi), [.d (.i .i64 ((val (y93 u44 aLo aHi bLo bHi))))])
 | _ => none
abbrev sp_101 : jab → jab := jav 101 true (jar jk0 jgL)
def jsd (u44 : Int) (aLo : Int) (aHi : Int) (bLo : Int) (bHi : Int) : T (Int) :=
 .brP (u44 ≤ 2)
 (.brP (wrap .i64 (20 * if wrap .i64 (bHi - aLo) > wrap .i64 (aHi - bLo) then wrap .i64 (bHi - aLo) else wrap .i64 (aHi - bLo)) ≤ if bLo < aLo then bLo else aLo)
 (.obT
 (.rc ((2 : Int))))
 (.brP (wrap .i64 (20 * if wrap .i64 (bLo - aHi) > if wrap .i64 (aLo - bHi) > 0 then wrap .i64 (aLo - bHi) else (0 : Int) then wrap .i64 (bLo - aHi) else if wrap .i64 (aLo - bHi) > 0 then wrap .i64 (aLo - bHi) else (0 : Int)) > if bHi > aHi then bHi else aHi)
 (.obT
 (.rc ((0 : Int))))
 (.obT
 (.rc ((1 : Int))))))
 (.brB (u44 == 3)
 (.brB (u44 == 4)
 (.brP ((if wrap .i64 (bHi - aLo) > wrap .i64 (aHi - bLo) then wrap .i64 (bHi - aLo) else wrap .i64 (aHi - bLo)) ≤ 50)
 (.obT
 (.rc ((2 : Int))))
 (.brP ((if wrap .i64 (bLo - aHi) > if wrap .i64 (aLo - bHi) > 0 then wrap .i64 (aLo - bHi) else (0 : Int) then wrap .i64 (bLo - aHi) else if wrap .i64 (aLo - bHi) > 0 then wrap .i64 (aLo - bHi) else (0 : Int)) > 50)
 (.obT
 (.rc ((0 : Int))))
 (.obT
 (.rc ((1 : Int))))))
 (.brP ((if wrap .i64 (bHi - aLo) > wrap .i64 (aHi - bLo) then wrap .i64 (bHi - aLo) else wrap .i64 (aHi - bLo)) ≤ 1)
 (.obT
 (.rc ((2 : Int))))
 (.brP ((if wrap .i64 (bLo - aHi) > if wrap .i64 (aLo - bHi) > 0 then wrap .i64 (aLo - bHi) else (0 : Int) then wrap .i64 (bLo - aHi) else if wrap .i64 (aLo - bHi) > 0 then wrap .i64 (aLo - bHi) else (0 : Int)) > 1)
 (.obT
 (.rc ((0 : Int))))
 (.obT
 (.rc ((1 : Int)))))))
 (.brB (u44 == 4)
 (.brP ((if wrap .i64 (bHi - aLo) > wrap .i64 (aHi - bLo) then wrap .i64 (bHi - aLo) else wrap .i64 (aHi - bLo)) ≤ 50)
 (.obT
 (.rc ((2 : Int))))
 (.brP ((if wrap .i64 (bLo - aHi) > if wrap .i64 (aLo - bHi) > 0 then wrap .i64 (aLo - bHi) else (0 : Int) then wrap .i64 (bLo - aHi) else if wrap .i64 (aLo - bHi) > 0 then wrap .i64 (aLo - bHi) else (0 : Int)) > 50)
 (.obT
 (.rc ((0 : Int))))
 (.obT
 (.rc ((1 : Int))))))
 (.brP ((if wrap .i64 (bHi - aLo) > wrap .i64 (aHi - bLo) then wrap .i64 (bHi - aLo) else wrap .i64 (aHi - bLo)) ≤ 10000)
 (.obT
 (.rc ((2 : Int))))
 (.brP ((if wrap .i64 (bLo - aHi) > if wrap .i64 (aLo - bHi) > 0 then wrap .i64 (aLo - bHi) else (0 : Int) then wrap .i64 (bLo - aHi) else if wrap .i64 (aLo - bHi) > 0 then wrap .i64 (aLo - bHi) else (0 : Int)) > 10000)
 (.obT
 (.rc ((0 : Int))))
 (.obT
 (.rc ((1 : Int))))))))
theorem jrp (u44 : Int) (aLo : Int) (aHi : Int) (bLo : Int) (bHi : Int) (r : Int) (h : Option.bind (y93 u44 aLo aHi bLo bHi) some = some r) : jbb Tryz.f101 (sp0) (fun _ _ _ => none) [.d (.i .i64 u44), .s [.i .i64 aLo, .i .i64 aHi], .s [.i .i64 bLo, .i .i64 bHi]] [.d (.i .i64 r)] :=
 T.vc (t := jsd u44 aLo aHi bLo bHi) (by kernel_rfl) (by kernel_rfl) h
theorem jrq : jag Tryz.prog 101 true (jar jk0 jgL) := by
 refine jaz (sp := sp0) (fn := Tryz.f101) (body := jaj Tryz.f101) mixed jak Tryz.func101 (by kernel_rfl) (by kernel_rfl) fun as_ ob rs h ho => ?_
 unfold jgL at h
 split at h
 ·rename_i u44 aLo aHi bLo bHi
  cases h
  exact ⟨Nat.le_of_ble_eq_true rfl, _, _, jrp u44 aLo aHi bLo bHi _ (jai ho)⟩
 ·cases h
theorem sp_101_ok {sp : jab} (h : jac Tryz.prog sp) : jac Tryz.prog (sp_101 sp) := jah jrq h
def jh7 : List SV := []
def jwp : Option (Int × List Nat) :=
 some (((8000 : Int), [(1090519040 : Nat), (1082130432 : Nat), (1073741824 : Nat), (1065353216 : Nat), (0 : Nat)]))
def jtM : T (Int × List Nat) :=
 .obT
 (.rc ((((8000 : Int), [(1090519040 : Nat), (1082130432 : Nat), (1073741824 : Nat), (1065353216 : Nat), (0 : Nat)]))))
theorem jse (r : Int × List Nat) (h : Option.bind (jwp) some = some r) : ja0 Tryz.f66 (sp0) (fun _ _ _ => none) (jaO jh7 []) [.s [.d (.i .i64 r.1), .row 151 (.floats .f32 r.2)]] :=
 T.vc (t := jtM) (by kernel_rfl) (by kernel_rfl) h
def jjE : List SV := [.a [.d, .r (.floats .f32 [])]]
def jc8 (u17 : Int) (u16 : List Nat) : Option Bool :=
 if (↑(List.length u16) : Int) ≤ 700 then
  some true
 else
  if (↑(List.length u16) : Int) > 1024 then
  some (decide ((↑(List.length u16) : Int) ≤ 1026))
  else
  some false
def jjF : List Lf → Option GT
 | [.d (.i .i64 u17), .r (.floats .f32 u16)] => some (.leaf (ok (jc8 u17 u16)) [.c (.d (.b ((val (jc8 u17 u16)))))])
 | _ => none
abbrev sp_16 : jab → jab := jav 16 true (jal jjE jjF)
def juW (u17 : Int) (u16 : List Nat) : T (Bool) :=
 .brP ((↑(List.length u16) : Int) ≤ 700)
 (.obT
 (.rc (true)))
 (.brP ((↑(List.length u16) : Int) > 1024)
 (.obT
 (.rc ((decide ((↑(List.length u16) : Int) ≤ 1026)))))
 (.obT
 (.rc (false))))
theorem jtN (u17 : Int) (u16 : List Nat) (r : Bool) (h : Option.bind (jc8 u17 u16) some = some r) : ja0 Tryz.f16 (sp0) (fun _ _ _ => none) (jaO jjE [.d (.i .i64 u17), .r (.floats .f32 u16)]) [.c (.d (.b r))] :=
 T.vc (t := juW u17 u16) (by kernel_rfl) (by kernel_rfl) h
theorem jtO : jag Tryz.prog 16 true (jal jjE jjF) := by
 refine jat (sp := sp0) (fn := Tryz.f16) (body := jaj Tryz.f16) mixed jak Tryz.func16 (by kernel_rfl) (by kernel_rfl) fun ls t h ho b hb => ?_
 unfold jjF at h
 split at h
 ·rename_i u17 u16
  cases h
  obtain rfl := jaB hb
  exact ⟨Nat.le_of_ble_eq_true (by kernel_rfl), _, _, jtN u17 u16 _ (jai ho)⟩
 ·cases h
theorem sp_16_ok {sp : jab} (h : jac Tryz.prog sp) : jac Tryz.prog (sp_16 sp) := jah jtO h
end Go.Sh
end

section
namespace Go.Sh
open Go Go.Proofs Go.RowKit Go.Sx
open Go.IntKind (wrap)
def y159 : List SV := [.c (.p [.d, .r (.floats .f32 []), .d, .d, .r (.recs 2 []), .r (.recs 2 [])]), .c (.d)]
def y31 (u10 : Int) (u11 : List Nat) (u12 : Int) (u13 : Int) (u9 : List (List Int)) (u14 : List (List Int)) (u25 : Int) : Option (Int × Int × Bool) :=
 Option.bind (y33 u14 u10 u11 u12 u13 u9 u14 u25) fun r0 =>
 Option.bind (y34 u14 u10 u11 u12 u13 u9 u14 u25) fun r1 =>
 if r1 < 0 then
  some (((0 : Int), 0, false))
 else
  if (r1 == (↑(List.length u9) : Int)) = true then
  some (((0 : Int), 0, false))
  else
  some ((if wrap .i64 (r0 - 1) > 0 then wrap .i64 (r0 - 1) else (0 : Int), r1, true))
def y160 : List Lf → Option GT
 | [.d (.i .i64 u10), .r (.floats .f32 u11), .d (.i .i64 u12), .d (.i .i64 u13), .r (.recs 2 u9), .r (.recs 2 u14), .d (.i .i64 u25)] => some (.leaf (ok (y31 u10 u11 u12 u13 u9 u14 u25)) [.s [.d (.i .i64 ((val (y31 u10 u11 u12 u13 u9 u14 u25)).1)), .d (.i .i64 ((val (y31 u10 u11 u12 u13 u9 u14 u25)).2.1))], .c (.d (.b ((val (y31 u10 u11 u12 u13 u9 u14 u25)).2.2)))])
 | _ => none
abbrev sp_118 : jab → jab := jav 118 true (jal y159 y160)
def jkB (u10 : Int) (u11 : List Nat) (u12 : Int) (u13 : Int) (u9 : List (List Int)) (u14 : List (List Int)) (u25 : Int) : T (Int × Int × Bool) :=
 .obT
 (.call (y33 u14 u10 u11 u12 u13 u9 u14 u25) fun r0 =>
 .obT
 (.call (y34 u14 u10 u11 u12 u13 u9 u14 u25) fun r1 =>
 .brP (r1 < 0)
 (.obT
 (.obT
 (.rc ((((0 : Int), 0, false))))))
 (.obT
 (.brB (r1 == (↑(List.length u9) : Int))
 (.obT
 (.obT
 (.rc ((((0 : Int), 0, false))))))
 (.obT
 (.obT
 (.rc (((if wrap .i64 (r0 - 1) > 0 then wrap .i64 (r0 - 1) else (0 : Int), r1, true))))))))))
theorem jjG (u10 : Int) (u11 : List Nat) (u12 : Int) (u13 : Int) (u9 : List (List Int)) (u14 : List (List Int)) (u25 : Int) (r : Int × Int × Bool) (h : Option.bind (y31 u10 u11 u12 u13 u9 u14 u25) some = some r) : ja0 Tryz.f118 ((sp_142 (sp_143 (sp_94 sp0)))) (fun _ _ _ => none) (jaO y159 [.d (.i .i64 u10), .r (.floats .f32 u11), .d (.i .i64 u12), .d (.i .i64 u13), .r (.recs 2 u9), .r (.recs 2 u14), .d (.i .i64 u25)]) [.s [.d (.i .i64 r.1), .d (.i .i64 r.2.1)], .c (.d (.b r.2.2))] :=
 T.vc (t := jkB u10 u11 u12 u13 u9 u14 u25) (by kernel_rfl) (by kernel_rfl) h
theorem jjH : jag Tryz.prog 118 true (jal y159 y160) := by
 refine jat (sp := (sp_142 (sp_143 (sp_94 sp0)))) (fn := Tryz.f118) (body := jaj Tryz.f118) mixed (sp_142_ok (sp_143_ok (sp_94_ok jak))) Tryz.func118 (by kernel_rfl) (by kernel_rfl) fun ls t h ho b hb => ?_
 unfold y160 at h
 split at h
 ·rename_i u10 u11 u12 u13 u9 u14 u25
  cases h
  obtain rfl := jaB hb
  exact ⟨Nat.le_of_ble_eq_true (by kernel_rfl), _, _, jjG u10 u11 u12 u13 u9 u14 u25 _ (jai ho)⟩
 ·cases h
theorem sp_118_ok {sp : jab} (h : jac Tryz.prog sp) : jac Tryz.prog (sp_118 sp) := jah jjH h
def y142 : List SV := [.c (.p [.d, .r (.floats .f32 []), .d, .d, .r (.recs 2 []), .r (.recs 2 [])]), .c (.d)]
def y35 (u10 : Int) (u11 : List Nat) (u12 : Int) (u13 : Int) (u9 : List (List Int)) (u14 : List (List Int)) (u26 : Int) : Option (Int × Int × Int) :=
 if (0 : Int) ≤ 0 ∧ 0 < (↑(List.length u14) : Int) then
  if 0 < List.length u14 then
  if (List.getD (List.getD u14 (0 : Nat) []) 0 (0 : Int) == 0) = true then
   some (((0 : Int), 0, 11))
  else
   if 0 ≤ u26 ∧ u26 < (↑(3 : Nat) : Int) then
   if Int.toNat u26 < List.length jaY then
    if List.getD (List.getD jaY (Int.toNat u26) []) 0 (0 : Int) > 0 then
    Option.bind (y31 u10 u11 u12 u13 u9 u14 (List.getD (List.getD jaY (Int.toNat u26) []) 0 (0 : Int))) fun r0 =>
    if (!r0.2.2) = true then
     some (((0 : Int), 0, 12))
    else
     Option.bind (y31 u10 u11 u12 u13 u9 u14 (List.getD (List.getD jaY (Int.toNat u26) []) 1 (0 : Int))) fun r1 =>
     if (!r1.2.2) = true then
     some (((0 : Int), 0, 12))
     else
     if u10 ≠ (0 : Int) then
      Option.bind (jbk (wrap .i64 (wrap .i64 (List.getD (List.getD jaY (Int.toNat u26) []) 2 0 * wrap .i64 (r1.2.1 - r0.1)) * 1000000)) u10) fun r2 =>
      some ((wrap .i64 (Int.tdiv (wrap .i64 (wrap .i64 (List.getD (List.getD jaY (Int.toNat u26) []) 2 0 * if wrap .i64 (r1.1 - r0.2.1) > 0 then wrap .i64 (r1.1 - r0.2.1) else 0) * 1000000)) u10), r2, 0))
     else none
    else
    Option.bind (y31 u10 u11 u12 u13 u9 u14 (List.getD (List.getD jaY (Int.toNat u26) []) 1 (0 : Int))) fun r1 =>
    if (!r1.2.2) = true then
     some (((0 : Int), 0, 12))
    else
     if u10 ≠ (0 : Int) then
     Option.bind (jbk (wrap .i64 (wrap .i64 (List.getD (List.getD jaY (Int.toNat u26) []) 2 0 * wrap .i64 (r1.2.1 - 0)) * 1000000)) u10) fun r3 =>
     some ((wrap .i64 (Int.tdiv (wrap .i64 (wrap .i64 (List.getD (List.getD jaY (Int.toNat u26) []) 2 0 * if wrap .i64 (r1.1 - 0) > 0 then wrap .i64 (r1.1 - 0) else 0) * 1000000)) u10), r3, 0))
     else none
   else none
   else none
  else none
 else none
def y143 : List Lf → Option GT
 | [.d (.i .i64 u10), .r (.floats .f32 u11), .d (.i .i64 u12), .d (.i .i64 u13), .r (.recs 2 u9), .r (.recs 2 u14), .d (.i .i64 u26)] => some (.leaf (ok (y35 u10 u11 u12 u13 u9 u14 u26)) [.s [.d (.i .i64 ((val (y35 u10 u11 u12 u13 u9 u14 u26)).1)), .d (.i .i64 ((val (y35 u10 u11 u12 u13 u9 u14 u26)).2.1))], .c (.d (.i .i64 ((val (y35 u10 u11 u12 u13 u9 u14 u26)).2.2)))])
 | _ => none
abbrev sp_69 : jab → jab := jav 69 true (jal y142 y143)
def jiC (u10 : Int) (u11 : List Nat) (u12 : Int) (u13 : Int) (u9 : List (List Int)) (u14 : List (List Int)) (u26 : Int) : T (Int × Int × Int) :=
 .obT
 (.obP ((0 : Int) ≤ 0 ∧ 0 < (↑(List.length u14) : Int))
 (.obP (0 < List.length u14)
 (.brB (List.getD (List.getD u14 (0 : Nat) []) 0 (0 : Int) == 0)
 (.obT
 (.obT
 (.rc ((((0 : Int), 0, 11))))))
 (.obP (0 ≤ u26 ∧ u26 < (↑(3 : Nat) : Int))
 (.obP (Int.toNat u26 < List.length jaY)
 (.brP (List.getD (List.getD jaY (Int.toNat u26) []) 0 (0 : Int) > 0)
 (.call (y31 u10 u11 u12 u13 u9 u14 (List.getD (List.getD jaY (Int.toNat u26) []) 0 (0 : Int))) fun r0 =>
 .brB (!r0.2.2)
 (.obT
 (.obT
 (.rc ((((0 : Int), 0, 12))))))
 (.call (y31 u10 u11 u12 u13 u9 u14 (List.getD (List.getD jaY (Int.toNat u26) []) 1 (0 : Int))) fun r1 =>
 .brB (!r1.2.2)
 (.obT
 (.obT
 (.rc ((((0 : Int), 0, 12))))))
 (.obT
 (.obP (u10 ≠ (0 : Int))
 (.obT
 (.call (jbk (wrap .i64 (wrap .i64 (List.getD (List.getD jaY (Int.toNat u26) []) 2 0 * wrap .i64 (r1.2.1 - r0.1)) * 1000000)) u10) fun r2 =>
 .obT
 (.obT
 (.rc (((wrap .i64 (Int.tdiv (wrap .i64 (wrap .i64 (List.getD (List.getD jaY (Int.toNat u26) []) 2 0 * if wrap .i64 (r1.1 - r0.2.1) > 0 then wrap .i64 (r1.1 - r0.2.1) else 0) * 1000000)) u10), r2, 0)))))))))))
 (.call (y31 u10 u11 u12 u13 u9 u14 (List.getD (List.getD jaY (Int.toNat u26) []) 1 (0 : Int))) fun r1 =>
 .brB (!r1.2.2)
 (.obT
 (.obT
 (.rc ((((0 : Int), 0, 12))))))
 (.obT
 (.obP (u10 ≠ (0 : Int))
 (.obT
 (.call (jbk (wrap .i64 (wrap .i64 (List.getD (List.getD jaY (Int.toNat u26) []) 2 0 * wrap .i64 (r1.2.1 - 0)) * 1000000)) u10) fun r3 =>
 .obT
 (.obT
 (.rc (((wrap .i64 (Int.tdiv (wrap .i64 (wrap .i64 (List.getD (List.getD jaY (Int.toNat u26) []) 2 0 * if wrap .i64 (r1.1 - 0) > 0 then wrap .i64 (r1.1 - 0) else 0) * 1000000)) u10), r3, 0))))))))))))))))
theorem jh8 (u10 : Int) (u11 : List Nat) (u12 : Int) (u13 : Int) (u9 : List (List Int)) (u14 : List (List Int)) (u26 : Int) (r : Int × Int × Int) (h : Option.bind (y35 u10 u11 u12 u13 u9 u14 u26) some = some r) : ja0 Tryz.f69 ((sp_118 (sp_119 sp0))) (fun _ _ _ => none) (jaO y142 [.d (.i .i64 u10), .r (.floats .f32 u11), .d (.i .i64 u12), .d (.i .i64 u13), .r (.recs 2 u9), .r (.recs 2 u14), .d (.i .i64 u26)]) [.s [.d (.i .i64 r.1), .d (.i .i64 r.2.1)], .c (.d (.i .i64 r.2.2))] :=
 T.vc (t := jiC u10 u11 u12 u13 u9 u14 u26) (by kernel_rfl) (by kernel_rfl) h
theorem jh9 : jag Tryz.prog 69 true (jal y142 y143) := by
 refine jat (sp := (sp_118 (sp_119 sp0))) (fn := Tryz.f69) (body := jaj Tryz.f69) mixed (sp_118_ok (sp_119_ok jak)) Tryz.func69 (by kernel_rfl) (by kernel_rfl) fun ls t h ho b hb => ?_
 unfold y143 at h
 split at h
 ·rename_i u10 u11 u12 u13 u9 u14 u26
  cases h
  obtain rfl := jaB hb
  exact ⟨Nat.le_of_ble_eq_true (by kernel_rfl), _, _, jh8 u10 u11 u12 u13 u9 u14 u26 _ (jai ho)⟩
 ·cases h
theorem sp_69_ok {sp : jab} (h : jac Tryz.prog sp) : jac Tryz.prog (sp_69 sp) := jah jh9 h
def y185 : List SV := [.a [.d, .r (.floats .f32 []), .d, .d], .c (.d)]
def jlB (u4 : Int) (u0 : List Nat) (u6 : Int) (u5 : Int) (u26 : Int) : Option (Int × Int × Int) :=
 if ((val (jan u4 u0 u6 u5)).1 != 0) = true then
  Option.bind (jan u4 u0 u6 u5) fun r0 =>
  if (r0.1 != 0) = true then
  some (((0 : Int), 0, r0.1))
  else
  none   else
  Option.bind (jan u4 u0 u6 u5) fun r0 =>
  Option.bind (y10 u26 (0 : Int) (2 : Int)) fun r1 =>
  if (!r1) = true then
  some (((0 : Int), 0, 15))
  else
  Option.bind (y35 u4 u0 u6 u5 r0.2.1 r0.2.2 u26) fun r2 =>
  some (r2.1, r2.2.1, r2.2.2)
def y186 : List Lf → Option GT
 | [.d (.i .i64 u4), .r (.floats .f32 u0), .d (.i .i64 u6), .d (.i .i64 u5), .d (.i .i64 u26)] => some (.leaf (ok (jlB u4 u0 u6 u5 u26)) [.s [.d (.i .i64 ((val (jlB u4 u0 u6 u5 u26)).1)), .d (.i .i64 ((val (jlB u4 u0 u6 u5 u26)).2.1))], .c (.d (.i .i64 ((val (jlB u4 u0 u6 u5 u26)).2.2)))])
 | _ => none
abbrev sp_19 : jab → jab := jav 19 true (jal y185 y186)
def jmR (u4 : Int) (u0 : List Nat) (u6 : Int) (u5 : Int) (u26 : Int) : T (Int × Int × Int) :=
 .brB ((val (jan u4 u0 u6 u5)).1 != 0)
 (.call (jan u4 u0 u6 u5) fun r0 =>
 .brB (r0.1 != 0)
 (.obT
 (.obT
 (.rc ((((0 : Int), 0, r0.1))))))
 (.bad (fun r => (Ob (ok (y10 u26 (0 : Int) (2 : Int))) ∧
 Br (!val (y10 u26 (0 : Int) (2 : Int)))
 ((Ob True ∧
 (Ob True ∧
 (Ob ((0 : Int) = r.1) ∧
 (Ob ((0 : Int) = r.2.1) ∧
 (Ob ((15 : Int) = r.2.2) ∧
 True))))))
 (False)))))
 (.call (jan u4 u0 u6 u5) fun r0 =>
 .call (y10 u26 (0 : Int) (2 : Int)) fun r1 =>
 .brB (!r1)
 (.obT
 (.obT
 (.rc ((((0 : Int), 0, 15))))))
 (.call (y35 u4 u0 u6 u5 r0.2.1 r0.2.2 u26) fun r2 =>
 .obT
 (.obT
 (.rc ((r2.1, r2.2.1, r2.2.2))))))
theorem jlC (u4 : Int) (u0 : List Nat) (u6 : Int) (u5 : Int) (u26 : Int) (r : Int × Int × Int) (h : Option.bind (jlB u4 u0 u6 u5 u26) some = some r) : ja0 Tryz.f19 ((sp_67 (sp_68 (sp_69 sp0)))) (fun _ _ _ => none) (jaO y185 [.d (.i .i64 u4), .r (.floats .f32 u0), .d (.i .i64 u6), .d (.i .i64 u5), .d (.i .i64 u26)]) [.s [.d (.i .i64 r.1), .d (.i .i64 r.2.1)], .c (.d (.i .i64 r.2.2))] :=
 T.vc (t := jmR u4 u0 u6 u5 u26) (by kernel_rfl) (by kernel_rfl) h
theorem jlD : jag Tryz.prog 19 true (jal y185 y186) := by
 refine jat (sp := (sp_67 (sp_68 (sp_69 sp0)))) (fn := Tryz.f19) (body := jaj Tryz.f19) mixed (sp_67_ok (sp_68_ok (sp_69_ok jak))) Tryz.func19 (by kernel_rfl) (by kernel_rfl) fun ls t h ho b hb => ?_
 unfold y186 at h
 split at h
 ·rename_i u4 u0 u6 u5 u26
  cases h
  obtain rfl := jaB hb
  exact ⟨Nat.le_of_ble_eq_true (by kernel_rfl), _, _, jlC u4 u0 u6 u5 u26 _ (jai ho)⟩
 ·cases h
theorem sp_19_ok {sp : jab} (h : jac Tryz.prog sp) : jac Tryz.prog (sp_19 sp) := jah jlD h
def jjI : List SV := [.a [.d, .r (.floats .f32 [])], .c (.d)]
def jed (u17 : Int) (u16 : List Nat) (u26 : Int) : Option (Int × Int × Int) :=
 Option.bind (jlB u17 u16 (0 : Int) (0 : Int) u26) fun r0 =>
 some (r0.1, r0.2.1, r0.2.2)
def jjJ : List Lf → Option GT
 | [.d (.i .i64 u17), .r (.floats .f32 u16), .d (.i .i64 u26)] => some (.leaf (ok (jed u17 u16 u26)) [.s [.d (.i .i64 ((val (jed u17 u16 u26)).1)), .d (.i .i64 ((val (jed u17 u16 u26)).2.1))], .c (.d (.i .i64 ((val (jed u17 u16 u26)).2.2)))])
 | _ => none
abbrev sp_17 : jab → jab := jav 17 true (jal jjI jjJ)
def juX (u17 : Int) (u16 : List Nat) (u26 : Int) : T (Int × Int × Int) :=
 .call (jlB u17 u16 (0 : Int) (0 : Int) u26) fun r0 =>
 .obT
 (.obT
 (.rc ((r0.1, r0.2.1, r0.2.2))))
theorem jtP (u17 : Int) (u16 : List Nat) (u26 : Int) (r : Int × Int × Int) (h : Option.bind (jed u17 u16 u26) some = some r) : ja0 Tryz.f17 ((sp_19 sp0)) (fun _ _ _ => none) (jaO jjI [.d (.i .i64 u17), .r (.floats .f32 u16), .d (.i .i64 u26)]) [.s [.d (.i .i64 r.1), .d (.i .i64 r.2.1)], .c (.d (.i .i64 r.2.2))] :=
 T.vc (t := juX u17 u16 u26) (by kernel_rfl) (by kernel_rfl) h
theorem jtQ : jag Tryz.prog 17 true (jal jjI jjJ) := by
 refine jat (sp := (sp_19 sp0)) (fn := Tryz.f17) (body := jaj Tryz.f17) mixed (sp_19_ok jak) Tryz.func17 (by kernel_rfl) (by kernel_rfl) fun ls t h ho b hb => ?_
 unfold jjJ at h
 split at h
 ·rename_i u17 u16 u26
  cases h
  obtain rfl := jaB hb
  exact ⟨Nat.le_of_ble_eq_true (by kernel_rfl), _, _, jtP u17 u16 u26 _ (jai ho)⟩
 ·cases h
theorem sp_17_ok {sp : jab} (h : jac Tryz.prog sp) : jac Tryz.prog (sp_17 sp) := jah jtQ h
def y187 : List SV := [.c (.p [.d, .r (.floats .f32 []), .d, .d, .r (.recs 2 []), .r (.recs 2 [])]), .c (.d)]
def y66 (u10 : Int) (u11 : List Nat) (u12 : Int) (u13 : Int) (u9 : List (List Int)) (u14 : List (List Int)) (u7 : Int) : Option (Int × Int) :=
 Option.bind (y74 u10 u11 u12 u13 u9 u14 u7) fun r0 =>
 Option.bind (y69 u10 u11 u12 u13 u9 u14 (0 : Int) r0) fun r1 =>
 some (r1.1, r1.2)
def y188 : List Lf → Option GT
 | [.d (.i .i64 u10), .r (.floats .f32 u11), .d (.i .i64 u12), .d (.i .i64 u13), .r (.recs 2 u9), .r (.recs 2 u14), .d (.i .i64 u7)] => some (.leaf (ok (y66 u10 u11 u12 u13 u9 u14 u7)) [.s [.d (.i .i64 ((val (y66 u10 u11 u12 u13 u9 u14 u7)).1)), .d (.i .i64 ((val (y66 u10 u11 u12 u13 u9 u14 u7)).2))]])
 | _ => none
abbrev sp_89 : jab → jab := jav 89 true (jal y187 y188)
def jmS (u10 : Int) (u11 : List Nat) (u12 : Int) (u13 : Int) (u9 : List (List Int)) (u14 : List (List Int)) (u7 : Int) : T (Int × Int) :=
 .call (y74 u10 u11 u12 u13 u9 u14 u7) fun r0 =>
 .call (y69 u10 u11 u12 u13 u9 u14 (0 : Int) r0) fun r1 =>
 .obT
 (.rc ((r1.1, r1.2)))
theorem jlE (u10 : Int) (u11 : List Nat) (u12 : Int) (u13 : Int) (u9 : List (List Int)) (u14 : List (List Int)) (u7 : Int) (r : Int × Int) (h : Option.bind (y66 u10 u11 u12 u13 u9 u14 u7) some = some r) : ja0 Tryz.f89 ((sp_88 (sp_87 sp0))) (fun _ _ _ => none) (jaO y187 [.d (.i .i64 u10), .r (.floats .f32 u11), .d (.i .i64 u12), .d (.i .i64 u13), .r (.recs 2 u9), .r (.recs 2 u14), .d (.i .i64 u7)]) [.s [.d (.i .i64 r.1), .d (.i .i64 r.2)]] :=
 T.vc (t := jmS u10 u11 u12 u13 u9 u14 u7) (by kernel_rfl) (by kernel_rfl) h
theorem jlF : jag Tryz.prog 89 true (jal y187 y188) := by
 refine jat (sp := (sp_88 (sp_87 sp0))) (fn := Tryz.f89) (body := jaj Tryz.f89) mixed (sp_88_ok (sp_87_ok jak)) Tryz.func89 (by kernel_rfl) (by kernel_rfl) fun ls t h ho b hb => ?_
 unfold y188 at h
 split at h
 ·rename_i u10 u11 u12 u13 u9 u14 u7
  cases h
  obtain rfl := jaB hb
  exact ⟨Nat.le_of_ble_eq_true (by kernel_rfl), _, _, jlE u10 u11 u12 u13 u9 u14 u7 _ (jai ho)⟩
 ·cases h
theorem sp_89_ok {sp : jab} (h : jac Tryz.prog sp) : jac Tryz.prog (sp_89 sp) := jah jlF h
def jee : List SV := [.c (.p [.d, .r (.floats .f32 []), .d, .d, .r (.recs 2 []), .r (.recs 2 [])]), .c (.d)]
def y79 (u10 : Int) (u11 : List Nat) (u12 : Int) (u13 : Int) (u9 : List (List Int)) (u14 : List (List Int)) (u7 : Int) : Option (Int × Int) :=
 Option.bind (y74 u10 u11 u12 u13 u9 u14 u7) fun r0 =>
 if 0 ≤ r0 ∧ r0 < (↑(List.length u14) : Int) then
  if Int.toNat r0 < List.length u14 then
  some ((List.getD (List.getD u14 (Int.toNat r0) []) 0 (0 : Int), List.getD (List.getD u14 (Int.toNat r0) []) 1 (0 : Int)))
  else none
 else none
def jef : List Lf → Option GT
 | [.d (.i .i64 u10), .r (.floats .f32 u11), .d (.i .i64 u12), .d (.i .i64 u13), .r (.recs 2 u9), .r (.recs 2 u14), .d (.i .i64 u7)] => some (.leaf (ok (y79 u10 u11 u12 u13 u9 u14 u7)) [.s [.d (.i .i64 ((val (y79 u10 u11 u12 u13 u9 u14 u7)).1)), .d (.i .i64 ((val (y79 u10 u11 u12 u13 u9 u14 u7)).2))]])
 | _ => none
abbrev sp_122 : jab → jab := jav 122 true (jal jee jef)
def jod (u10 : Int) (u11 : List Nat) (u12 : Int) (u13 : Int) (u9 : List (List Int)) (u14 : List (List Int)) (u7 : Int) : T (Int × Int) :=
 .obT
 (.call (y74 u10 u11 u12 u13 u9 u14 u7) fun r0 =>
 .obP (0 ≤ r0 ∧ r0 < (↑(List.length u14) : Int))
 (.obP (Int.toNat r0 < List.length u14)
 (.obT
 (.rc (((List.getD (List.getD u14 (Int.toNat r0) []) 0 (0 : Int), List.getD (List.getD u14 (Int.toNat r0) []) 1 (0 : Int))))))))
theorem jmT (u10 : Int) (u11 : List Nat) (u12 : Int) (u13 : Int) (u9 : List (List Int)) (u14 : List (List Int)) (u7 : Int) (r : Int × Int) (h : Option.bind (y79 u10 u11 u12 u13 u9 u14 u7) some = some r) : ja0 Tryz.f122 ((sp_88 sp0)) (fun _ _ _ => none) (jaO jee [.d (.i .i64 u10), .r (.floats .f32 u11), .d (.i .i64 u12), .d (.i .i64 u13), .r (.recs 2 u9), .r (.recs 2 u14), .d (.i .i64 u7)]) [.s [.d (.i .i64 r.1), .d (.i .i64 r.2)]] :=
 T.vc (t := jod u10 u11 u12 u13 u9 u14 u7) (by kernel_rfl) (by kernel_rfl) h
theorem jmU : jag Tryz.prog 122 true (jal jee jef) := by
 refine jat (sp := (sp_88 sp0)) (fn := Tryz.f122) (body := jaj Tryz.f122) mixed (sp_88_ok jak) Tryz.func122 (by kernel_rfl) (by kernel_rfl) fun ls t h ho b hb => ?_
 unfold jef at h
 split at h
 ·rename_i u10 u11 u12 u13 u9 u14 u7
  cases h
  obtain rfl := jaB hb
  exact ⟨Nat.le_of_ble_eq_true (by kernel_rfl), _, _, jmT u10 u11 u12 u13 u9 u14 u7 _ (jai ho)⟩
 ·cases h
theorem sp_122_ok {sp : jab} (h : jac Tryz.prog sp) : jac Tryz.prog (sp_122 sp) := jah jmU h
def y161 : List SV := [.c (.p [.d, .r (.floats .f32 []), .d, .d, .r (.recs 2 []), .r (.recs 2 [])]), .c (.d)]
def y43 (u10 : Int) (u11 : List Nat) (u12 : Int) (u13 : Int) (u9 : List (List Int)) (u14 : List (List Int)) (u7 : Int) : Option (Int × Int × Int) :=
 Option.bind (y66 u10 u11 u12 u13 u9 u14 u7) fun r0 =>
 Option.bind (y79 u10 u11 u12 u13 u9 u14 u7) fun r1 =>
 Option.bind (y74 u10 u11 u12 u13 u9 u14 u7) fun r2 =>
 if (r2 == (↑(List.length u9) : Int)) = true then
  some (((0 : Int), 0, 12))
 else
  if (r0.1 == 0) = true then
  some (((0 : Int), 0, 11))
  else
  if (r1.1 == 0) = true then
   some (((0 : Int), 0, 11))
  else
   Option.bind (jfH r0.1 r1.2) fun r3 =>
   Option.bind (jfH r0.2 r1.1) fun r4 =>
   Option.bind (y30 [r3.2.2, r4.2.2]) fun r5 =>
   if (r5 != 0) = true then
   some (((0 : Int), 0, r5))
   else
   some ((r3.1, r4.2.1, 0))
def y162 : List Lf → Option GT
 | [.d (.i .i64 u10), .r (.floats .f32 u11), .d (.i .i64 u12), .d (.i .i64 u13), .r (.recs 2 u9), .r (.recs 2 u14), .d (.i .i64 u7)] => some (.leaf (ok (y43 u10 u11 u12 u13 u9 u14 u7)) [.s [.d (.i .i64 ((val (y43 u10 u11 u12 u13 u9 u14 u7)).1)), .d (.i .i64 ((val (y43 u10 u11 u12 u13 u9 u14 u7)).2.1))], .c (.d (.i .i64 ((val (y43 u10 u11 u12 u13 u9 u14 u7)).2.2)))])
 | _ => none
abbrev sp_78 : jab → jab := jav 78 true (jal y161 y162)
def jkC (u10 : Int) (u11 : List Nat) (u12 : Int) (u13 : Int) (u9 : List (List Int)) (u14 : List (List Int)) (u7 : Int) : T (Int × Int × Int) :=
 .call (y66 u10 u11 u12 u13 u9 u14 u7) fun r0 =>
 .call (y79 u10 u11 u12 u13 u9 u14 u7) fun r1 =>
 .call (y74 u10 u11 u12 u13 u9 u14 u7) fun r2 =>
 .obT
 (.brB (r2 == (↑(List.length u9) : Int))
 (.obT
 (.obT
 (.rc ((((0 : Int), 0, 12))))))
 (.brB (r0.1 == 0)
 (.obT
 (.obT
 (.rc ((((0 : Int), 0, 11))))))
 (.brB (r1.1 == 0)
 (.obT
 (.obT
 (.rc ((((0 : Int), 0, 11))))))
 (.call (jfH r0.1 r1.2) fun r3 =>
 .call (jfH r0.2 r1.1) fun r4 =>
 .call (y30 [r3.2.2, r4.2.2]) fun r5 =>
 .brB (r5 != 0)
 (.obT
 (.obT
 (.rc ((((0 : Int), 0, r5))))))
 (.obT
 (.obT
 (.rc (((r3.1, r4.2.1, 0))))))))))
theorem jjK (u10 : Int) (u11 : List Nat) (u12 : Int) (u13 : Int) (u9 : List (List Int)) (u14 : List (List Int)) (u7 : Int) (r : Int × Int × Int) (h : Option.bind (y43 u10 u11 u12 u13 u9 u14 u7) some = some r) : ja0 Tryz.f78 ((sp_89 (sp_122 (sp_88 (sp_123 (sp_76 sp0)))))) (fun _ _ _ => none) (jaO y161 [.d (.i .i64 u10), .r (.floats .f32 u11), .d (.i .i64 u12), .d (.i .i64 u13), .r (.recs 2 u9), .r (.recs 2 u14), .d (.i .i64 u7)]) [.s [.d (.i .i64 r.1), .d (.i .i64 r.2.1)], .c (.d (.i .i64 r.2.2))] :=
 T.vc (t := jkC u10 u11 u12 u13 u9 u14 u7) (by kernel_rfl) (by kernel_rfl) h
theorem jjL : jag Tryz.prog 78 true (jal y161 y162) := by
 refine jat (sp := (sp_89 (sp_122 (sp_88 (sp_123 (sp_76 sp0)))))) (fn := Tryz.f78) (body := jaj Tryz.f78) mixed (sp_89_ok (sp_122_ok (sp_88_ok (sp_123_ok (sp_76_ok jak))))) Tryz.func78 (by kernel_rfl) (by kernel_rfl) fun ls t h ho b hb => ?_
 unfold y162 at h
 split at h
 ·rename_i u10 u11 u12 u13 u9 u14 u7
  cases h
  obtain rfl := jaB hb
  exact ⟨Nat.le_of_ble_eq_true (by kernel_rfl), _, _, jjK u10 u11 u12 u13 u9 u14 u7 _ (jai ho)⟩
 ·cases h
theorem sp_78_ok {sp : jab} (h : jac Tryz.prog sp) : jac Tryz.prog (sp_78 sp) := jah jjL h
def jgM : List SV := [.a [.d, .r (.floats .f32 []), .d, .d], .c (.d)]
def jc1 (u4 : Int) (u0 : List Nat) (u6 : Int) (u5 : Int) (u7 : Int) : Option (Int × Int × Int) :=
 if ((val (jan u4 u0 u6 u5)).1 != 0) = true then
  Option.bind (jan u4 u0 u6 u5) fun r0 =>
  Option.bind (jcY u7) fun r1 =>
  Option.bind (y30 [r0.1, r1]) fun r2 =>
  if (r2 != 0) = true then
  some (((0 : Int), 0, r2))
  else
  none   else
  Option.bind (jan u4 u0 u6 u5) fun r0 =>
  Option.bind (jcY u7) fun r1 =>
  Option.bind (y30 [(0 : Int), r1]) fun r3 =>
  if (r3 != 0) = true then
  some (((0 : Int), 0, r3))
  else
  Option.bind (y43 u4 u0 u6 u5 r0.2.1 r0.2.2 u7) fun r4 =>
  some (r4.1, r4.2.1, r4.2.2)
def jgN : List Lf → Option GT
 | [.d (.i .i64 u4), .r (.floats .f32 u0), .d (.i .i64 u6), .d (.i .i64 u5), .d (.i .i64 u7)] => some (.leaf (ok (jc1 u4 u0 u6 u5 u7)) [.s [.d (.i .i64 ((val (jc1 u4 u0 u6 u5 u7)).1)), .d (.i .i64 ((val (jc1 u4 u0 u6 u5 u7)).2.1))], .c (.d (.i .i64 ((val (jc1 u4 u0 u6 u5 u7)).2.2)))])
 | _ => none
abbrev sp_26 : jab → jab := jav 26 true (jal jgM jgN)
def jsf (u4 : Int) (u0 : List Nat) (u6 : Int) (u5 : Int) (u7 : Int) : T (Int × Int × Int) :=
 .brB ((val (jan u4 u0 u6 u5)).1 != 0)
 (.call (jan u4 u0 u6 u5) fun r0 =>
 .call (jcY u7) fun r1 =>
 .call (y30 [r0.1, r1]) fun r2 =>
 .brB (r2 != 0)
 (.obT
 (.obT
 (.rc ((((0 : Int), 0, r2))))))
 (.bad (fun r => False)))
 (.call (jan u4 u0 u6 u5) fun r0 =>
 .call (jcY u7) fun r1 =>
 .call (y30 [(0 : Int), r1]) fun r3 =>
 .brB (r3 != 0)
 (.obT
 (.obT
 (.rc ((((0 : Int), 0, r3))))))
 (.call (y43 u4 u0 u6 u5 r0.2.1 r0.2.2 u7) fun r4 =>
 .obT
 (.obT
 (.rc ((r4.1, r4.2.1, r4.2.2))))))
theorem jrr (u4 : Int) (u0 : List Nat) (u6 : Int) (u5 : Int) (u7 : Int) (r : Int × Int × Int) (h : Option.bind (jc1 u4 u0 u6 u5 u7) some = some r) : ja0 Tryz.f26 ((sp_67 (sp_77 (sp_76 (sp_78 sp0))))) (fun _ _ _ => none) (jaO jgM [.d (.i .i64 u4), .r (.floats .f32 u0), .d (.i .i64 u6), .d (.i .i64 u5), .d (.i .i64 u7)]) [.s [.d (.i .i64 r.1), .d (.i .i64 r.2.1)], .c (.d (.i .i64 r.2.2))] :=
 T.vc (t := jsf u4 u0 u6 u5 u7) (by kernel_rfl) (by kernel_rfl) h
theorem jrs : jag Tryz.prog 26 true (jal jgM jgN) := by
 refine jat (sp := (sp_67 (sp_77 (sp_76 (sp_78 sp0))))) (fn := Tryz.f26) (body := jaj Tryz.f26) mixed (sp_67_ok (sp_77_ok (sp_76_ok (sp_78_ok jak)))) Tryz.func26 (by kernel_rfl) (by kernel_rfl) fun ls t h ho b hb => ?_
 unfold jgN at h
 split at h
 ·rename_i u4 u0 u6 u5 u7
  cases h
  obtain rfl := jaB hb
  exact ⟨Nat.le_of_ble_eq_true (by kernel_rfl), _, _, jrr u4 u0 u6 u5 u7 _ (jai ho)⟩
 ·cases h
theorem sp_26_ok {sp : jab} (h : jac Tryz.prog sp) : jac Tryz.prog (sp_26 sp) := jah jrs h
def y132 : List SV := [.c (.p [.d, .r (.floats .f32 []), .d, .d, .r (.recs 2 []), .r (.recs 2 [])]), .c (.d)]
def y44 (u10 : Int) (u11 : List Nat) (u12 : Int) (u13 : Int) (u9 : List (List Int)) (u14 : List (List Int)) (u7 : Int) : Option (Int × Int × Int) :=
 Option.bind (y66 u10 u11 u12 u13 u9 u14 u7) fun r0 =>
 Option.bind (y79 u10 u11 u12 u13 u9 u14 u7) fun r1 =>
 if (r0.1 == 0) = true then
  if (r1.1 == 0) = true then
  some (((0 : Int), 0, 11))
  else
  if wrap .i64 (r0.1 + r1.2) ≠ (0 : Int) then
   Option.bind (jbk (wrap .i64 (1000 * r0.2)) (wrap .i64 (r0.2 + r1.1))) fun r2 =>
   some ((wrap .i64 (Int.tdiv (wrap .i64 (1000 * r0.1)) (wrap .i64 (r0.1 + r1.2))), r2, 0))
  else none
 else
  if wrap .i64 (r0.1 + r1.2) ≠ (0 : Int) then
  Option.bind (jbk (wrap .i64 (1000 * r0.2)) (wrap .i64 (r0.2 + r1.1))) fun r2 =>
  some ((wrap .i64 (Int.tdiv (wrap .i64 (1000 * r0.1)) (wrap .i64 (r0.1 + r1.2))), r2, 0))
  else none
def y133 : List Lf → Option GT
 | [.d (.i .i64 u10), .r (.floats .f32 u11), .d (.i .i64 u12), .d (.i .i64 u13), .r (.recs 2 u9), .r (.recs 2 u14), .d (.i .i64 u7)] => some (.leaf (ok (y44 u10 u11 u12 u13 u9 u14 u7)) [.s [.d (.i .i64 ((val (y44 u10 u11 u12 u13 u9 u14 u7)).1)), .d (.i .i64 ((val (y44 u10 u11 u12 u13 u9 u14 u7)).2.1))], .c (.d (.i .i64 ((val (y44 u10 u11 u12 u13 u9 u14 u7)).2.2)))])
 | _ => none
abbrev sp_98 : jab → jab := jav 98 true (jal y132 y133)
def jia (u10 : Int) (u11 : List Nat) (u12 : Int) (u13 : Int) (u9 : List (List Int)) (u14 : List (List Int)) (u7 : Int) : T (Int × Int × Int) :=
 .call (y66 u10 u11 u12 u13 u9 u14 u7) fun r0 =>
 .call (y79 u10 u11 u12 u13 u9 u14 u7) fun r1 =>
 .brB (r0.1 == 0)
 (.brB (r1.1 == 0)
 (.obT
 (.obT
 (.rc ((((0 : Int), 0, 11))))))
 (.obP (wrap .i64 (r0.1 + r1.2) ≠ (0 : Int))
 (.call (jbk (wrap .i64 (1000 * r0.2)) (wrap .i64 (r0.2 + r1.1))) fun r2 =>
 .obT
 (.obT
 (.rc (((wrap .i64 (Int.tdiv (wrap .i64 (1000 * r0.1)) (wrap .i64 (r0.1 + r1.2))), r2, 0))))))))
 (.obP (wrap .i64 (r0.1 + r1.2) ≠ (0 : Int))
 (.call (jbk (wrap .i64 (1000 * r0.2)) (wrap .i64 (r0.2 + r1.1))) fun r2 =>
 .obT
 (.obT
 (.rc (((wrap .i64 (Int.tdiv (wrap .i64 (1000 * r0.1)) (wrap .i64 (r0.1 + r1.2))), r2, 0)))))))
theorem jg7 (u10 : Int) (u11 : List Nat) (u12 : Int) (u13 : Int) (u9 : List (List Int)) (u14 : List (List Int)) (u7 : Int) (r : Int × Int × Int) (h : Option.bind (y44 u10 u11 u12 u13 u9 u14 u7) some = some r) : ja0 Tryz.f98 ((sp_89 (sp_122 (sp_119 sp0)))) (fun _ _ _ => none) (jaO y132 [.d (.i .i64 u10), .r (.floats .f32 u11), .d (.i .i64 u12), .d (.i .i64 u13), .r (.recs 2 u9), .r (.recs 2 u14), .d (.i .i64 u7)]) [.s [.d (.i .i64 r.1), .d (.i .i64 r.2.1)], .c (.d (.i .i64 r.2.2))] :=
 T.vc (t := jia u10 u11 u12 u13 u9 u14 u7) (by kernel_rfl) (by kernel_rfl) h
theorem jg8 : jag Tryz.prog 98 true (jal y132 y133) := by
 refine jat (sp := (sp_89 (sp_122 (sp_119 sp0)))) (fn := Tryz.f98) (body := jaj Tryz.f98) mixed (sp_89_ok (sp_122_ok (sp_119_ok jak))) Tryz.func98 (by kernel_rfl) (by kernel_rfl) fun ls t h ho b hb => ?_
 unfold y133 at h
 split at h
 ·rename_i u10 u11 u12 u13 u9 u14 u7
  cases h
  obtain rfl := jaB hb
  exact ⟨Nat.le_of_ble_eq_true (by kernel_rfl), _, _, jg7 u10 u11 u12 u13 u9 u14 u7 _ (jai ho)⟩
 ·cases h
theorem sp_98_ok {sp : jab} (h : jac Tryz.prog sp) : jac Tryz.prog (sp_98 sp) := jah jg8 h
def jfY : List SV := [.a [.d, .r (.floats .f32 [])], .c (.d)]
def jlG (u17 : Int) (u16 : List Nat) (u41 : Int) : Option (Int × Int × Int) :=
 if ((val (jbf u17 u16 u41)).1 != 0) = true then
  Option.bind (jbf u17 u16 u41) fun r0 =>
  if (r0.2.1 != 0) = true then
  some (((0 : Int), 0, r0.2.1))
  else
  none   else
  Option.bind (jbf u17 u16 u41) fun r0 =>
  if (r0.2.1 != 0) = true then
  some (((0 : Int), 0, r0.2.1))
  else
  if (0 : Int) ≤ 0 ∧ 0 < (↑(List.length r0.2.2.2) : Int) then
   if 0 < List.length r0.2.2.2 then
   if List.getD (List.getD r0.2.2.2 (0 : Nat) []) 0 (0 : Int) > 1000000000 then
    some (((0 : Int), 0, 8))
   else
    Option.bind (jnH u17 u16 (0 : Int) (0 : Int) r0.2.2.1 r0.2.2.2 u41) fun r1 =>
    Option.bind (jd6 (wrap .i64 (wrap .i64 (r1.1 * r1.1) + wrap .i64 (r1.2 * r1.2))) (wrap .i64 (List.getD (List.getD r0.2.2.2 (0 : Nat) []) 0 0 * List.getD (List.getD r0.2.2.2 (0 : Nat) []) 0 (0 : Int)))) fun r2 =>
    some (r2.1, r2.2.1, r2.2.2)
   else none
  else none
def jfZ : List Lf → Option GT
 | [.d (.i .i64 u17), .r (.floats .f32 u16), .d (.i .i64 u41)] => some (.leaf (ok (jlG u17 u16 u41)) [.s [.d (.i .i64 ((val (jlG u17 u16 u41)).1)), .d (.i .i64 ((val (jlG u17 u16 u41)).2.1))], .c (.d (.i .i64 ((val (jlG u17 u16 u41)).2.2)))])
 | _ => none
abbrev sp_34 : jab → jab := jav 34 true (jal jfY jfZ)
def jrt (u17 : Int) (u16 : List Nat) (u41 : Int) : T (Int × Int × Int) :=
 .brB ((val (jbf u17 u16 u41)).1 != 0)
 (.call (jbf u17 u16 u41) fun r0 =>
 .brB (r0.2.1 != 0)
 (.obT
 (.obT
 (.rc ((((0 : Int), 0, r0.2.1))))))
 (.bad (fun r => False)))
 (.call (jbf u17 u16 u41) fun r0 =>
 .brB (r0.2.1 != 0)
 (.obT
 (.obT
 (.rc ((((0 : Int), 0, r0.2.1))))))
 (.obP ((0 : Int) ≤ 0 ∧ 0 < (↑(List.length r0.2.2.2) : Int))
 (.obP (0 < List.length r0.2.2.2)
 (.brP (List.getD (List.getD r0.2.2.2 (0 : Nat) []) 0 (0 : Int) > 1000000000)
 (.obT
 (.obT
 (.rc ((((0 : Int), 0, 8))))))
 (.call (jnH u17 u16 (0 : Int) (0 : Int) r0.2.2.1 r0.2.2.2 u41) fun r1 =>
 .call (jd6 (wrap .i64 (wrap .i64 (r1.1 * r1.1) + wrap .i64 (r1.2 * r1.2))) (wrap .i64 (List.getD (List.getD r0.2.2.2 (0 : Nat) []) 0 0 * List.getD (List.getD r0.2.2.2 (0 : Nat) []) 0 (0 : Int)))) fun r2 =>
 .obT
 (.obT
 (.rc ((r2.1, r2.2.1, r2.2.2)))))))))
theorem jpB (u17 : Int) (u16 : List Nat) (u41 : Int) (r : Int × Int × Int) (h : Option.bind (jlG u17 u16 u41) some = some r) : ja0 Tryz.f34 ((sp_91 (sp_92 (sp_86 sp0)))) (fun _ _ _ => none) (jaO jfY [.d (.i .i64 u17), .r (.floats .f32 u16), .d (.i .i64 u41)]) [.s [.d (.i .i64 r.1), .d (.i .i64 r.2.1)], .c (.d (.i .i64 r.2.2))] :=
 T.vc (t := jrt u17 u16 u41) (by kernel_rfl) (by kernel_rfl) h
theorem jpC : jag Tryz.prog 34 true (jal jfY jfZ) := by
 refine jat (sp := (sp_91 (sp_92 (sp_86 sp0)))) (fn := Tryz.f34) (body := jaj Tryz.f34) mixed (sp_91_ok (sp_92_ok (sp_86_ok jak))) Tryz.func34 (by kernel_rfl) (by kernel_rfl) fun ls t h ho b hb => ?_
 unfold jfZ at h
 split at h
 ·rename_i u17 u16 u41
  cases h
  obtain rfl := jaB hb
  exact ⟨Nat.le_of_ble_eq_true (by kernel_rfl), _, _, jpB u17 u16 u41 _ (jai ho)⟩
 ·cases h
theorem sp_34_ok {sp : jab} (h : jac Tryz.prog sp) : jac Tryz.prog (sp_34 sp) := jah jpC h
end Go.Sh
end

section
namespace Go.Sh
open Go Go.Proofs Go.RowKit Go.Sx Go.Sx06 Ieee Go.Fl
open Go.IntKind (wrap)
def seg (zs : List (List Int)) (a b : Nat) : List (List Int) := (zs.drop a).take (b - a)
theorem jru {zs : List (List Int)} (h : ∀ r ∈ zs, okZ r) (a b : Nat) : ∀ r ∈ seg zs a b, okZ r := fun r hr => h r (List.mem_of_mem_drop (List.mem_of_mem_take hr))
theorem jsH (zs : List (List Int)) (a b : Nat) : (seg zs a b).length ≤ zs.length := by unfold seg; simp; omega
theorem jsI (zs : List (List Int)) (a : Nat) : seg zs a zs.length = zs.drop a := by
 unfold seg
 rw [List.take_of_length_le (by simp)]
theorem jwC (zs : List (List Int)) (a : Nat) : seg zs a a = [] := by unfold seg; simp
theorem jwD {zs : List (List Int)} {a k : Nat} (h : a + k < zs.length) : seg zs a (a + k + 1) = seg zs a (a + k) ++ [zs.getD (a + k) []] := by
 unfold seg
 have e1 : a + k + 1 - a = k + 1 := by omega
 have e2 : a + k - a = k := by omega
 rw [e1, e2, List.take_succ_eq_append_getElem (by simp; omega)]
 simp [List.getD, h]
theorem joS {L : List (List Int)} {i : Nat} (hi : i < L.length) : L.take (i + 1) = L.take i ++ [L.getD i []] := by
 rw [List.take_succ_eq_append_getElem hi]
 simp [List.getD, hi]
theorem jlH (a : List (List Int)) (r : List Int) : sLo (a ++ [r]) = sLo a + r.getD 0 0 := by rw [jtG]; simp [sLo]
theorem jrv (a : List (List Int)) (r : List Int) : sHi (a ++ [r]) = sHi a + r.getD 1 0 := by rw [jtH]; simp [sHi]
theorem jtR {zs ss : List (List Int)} {rate noise tail : Int} {l : List Nat} {a b : Nat} (hz : ∀ r ∈ zs, okZ r) (hl : zs.length ≤ 1024) (hab : a ≤ b) (hb : b ≤ zs.length) :
  y69 rate l noise tail zs ss (a : Int) (b : Int) = some (sLo (seg zs a b), sHi (seg zs a b)) := by
 unfold y69
 simp only [Option.getD_some]
 rw [if_pos (by omega)]
 have hsl : (seg zs a b).length = b - a := by unfold seg; simp; omega
 have hok := jru hz a b
 have hit : jae (y48 zs (a : Int) (b : Int)) big (0, 0, 0) = some (sLo (seg zs a b), sHi (seg zs a b)) := by
  have h := jbA (body := y48 zs (a : Int) (b : Int)) (fun i => ((i : Int), sLo ((seg zs a b).take i), sHi ((seg zs a b).take i))) (k := (seg zs a b).length) (y := (sLo (seg zs a b), sHi (seg zs a b)))
   (fun i hi => by
    have hr := jdA (zs := (seg zs a b).take i) fun r hr => hok r (List.mem_of_mem_take hr)
    have hlen : (((seg zs a b).take i).length : Int) ≤ 1024 := by rw [List.length_take]; omega
    have ho := hok ((seg zs a b).getD i []) (by simp [List.getD, hi])
    unfold okZ at ho
    unfold y48 jcX
    simp only [Option.getD_some, Int.toNat_natCast]
    change (if (i : Int) < ((seg zs a b).length : Int) then _ else _) = _
    rw [if_pos (by omega), if_pos (by show (0 : Int) ≤ i ∧ (i : Int) < ((seg zs a b).length : Int); omega), if_pos (by exact hi), jaa, joS hi, jlH, jrv]
    change some (Sum.inl (wrap .i64 ((i : Int) + 1), wrap .i64 (sLo ((seg zs a b).take i) + ((seg zs a b).getD i []).getD 0 0), wrap .i64 (sHi ((seg zs a b).take i) + ((seg zs a b).getD i []).getD 1 0))) = _
    rw [jas (x := (i : Int) + 1) (by omega), jas (by omega), jas (by omega)]
    rfl)
   (by
    unfold y48
    simp only [Option.getD_some, Int.toNat_natCast]
    change (if ((seg zs a b).length : Int) < ((seg zs a b).length : Int) then _ else _) = _
    rw [if_neg (by omega), List.take_length]) (by omega)
  simpa [sLo, sHi] using h
 rw [hit]
 rfl
theorem jmV {rate noise tail : Int} {l : List Nat} {t : Nat} (ht : t < l.length) (hs : ∀ b ∈ l, se b = 0) (hn : 0 ≤ noise ∧ noise ≤ 32767) :
  y60 rate l noise tail (t : Int) = some (((zsO noise l).getD t []).getD 0 0, ((zsO noise l).getD t []).getD 1 0) := by
 unfold y60
 have hw := jlw (hs (l.getD t 0) (by simp [List.getD, ht]))
 have ha := jlx (M := 32767) hw.2
 have hg : (zsO noise l).getD t [] = sqP noise (fi (l.getD t 0)) := by simp [zsO, List.getD, ht]
 rw [if_pos (by omega), Int.toNat_natCast, if_pos ht, if_pos hw.1, show f2i FloatKind.f32 (l.getD t 0) = fi (l.getD t 0) from rfl, jvW (by unfold inJ; omega), jaa, juT ha hn, jsG ha hn, hg]
 rfl
theorem jib {rate noise tail : Int} {l : List Nat} {a b : Nat} (hs : ∀ x ∈ l, se x = 0) (hl : l.length ≤ 1024) (hn : 0 ≤ noise ∧ noise ≤ 32767) (ht : 0 ≤ tail ∧ tail ≤ 1000000000000) (hab : a ≤ b) (hb : b ≤ l.length) :
  y23 rate l noise tail (a : Int) (b : Int) = some (sLo (seg (zsO noise l) a b), sHi (seg (zsO noise l) a b) + if b = l.length then tail else 0) := by
 have hzl := jb8 noise l
 have hz := jfT hn hs
 have hok := jru hz a b
 unfold y23
 have h := jbA (body := y39 rate l noise tail (b : Int)) (fun i => (((a + i : Nat) : Int), sLo (seg (zsO noise l) a (a + i)), sHi (seg (zsO noise l) a (a + i)))) (k := b - a) (y := (sLo (seg (zsO noise l) a b), sHi (seg (zsO noise l) a b)))
  (fun i hi => by
   have hr := jdA (jru hz a (a + i))
   have hlen : ((seg (zsO noise l) a (a + i)).length : Int) ≤ 1024 := by have := jsH (zsO noise l) a (a + i); omega
   have ho := hz ((zsO noise l).getD (a + i) []) (by simp [List.getD, show a + i < (zsO noise l).length by omega])
   unfold okZ at ho
   unfold y39
   dsimp only
   rw [if_pos (by omega), jmV (by omega) hs hn, jaa]
   rw [show a + (i + 1) = a + i + 1 by omega, jwD (by omega), jlH, jrv, jas (x := (((a + i : Nat) : Int)) + 1) (by omega), jas (by omega), jas (by omega)]
   rfl)
  (by
   unfold y39
   dsimp only
   have e : a + (b - a) = b := by omega
   rw [if_neg (by omega), e]) (by omega)
 have h0 : jae (y39 rate l noise tail (b : Int)) big ((a : Int), 0, 0) = some (sLo (seg (zsO noise l) a b), sHi (seg (zsO noise l) a b)) := by
  simpa [sLo, sHi, jwC] using h
 rw [h0, jaa]
 unfold y73
 have hr := jdA hok
 have hlen : ((seg (zsO noise l) a b).length : Int) ≤ 1024 := by have := jsH (zsO noise l) a b; omega
 by_cases he : b = l.length
 ·rw [if_pos (show ((b : Int) == (l.length : Int)) = true by rw [he]; simp), if_pos he]
  rw [jas (by dsimp only; omega)]
 ·rw [if_neg (show ¬ ((b : Int) == (l.length : Int)) = true by simp; omega), if_neg he, Int.add_zero]
theorem jkg {rate noise tail : Int} {l : List Nat} {a : Nat} (hs : ∀ x ∈ l, se x = 0) (hl : l.length ≤ 1024) (hn : 0 ≤ noise ∧ noise ≤ 32767) (ht : 0 ≤ tail ∧ tail ≤ 1000000000000) (ha : a ≤ l.length) :
  y36 rate l noise tail (a : Int) = some (sLo ((zsO noise l).drop a), sHi ((zsO noise l).drop a) + tail) := by
 unfold y36
 rw [jib hs hl hn ht ha (Nat.le_refl _), jaa, if_pos rfl]
 have := jsI (zsO noise l) a
 rw [jb8] at this
 rw [this]
def nAt (rate time : Int) : Int := (time * rate + 999999) / 1000000
theorem jjM {rate time : Int} (hr : 8000 ≤ rate ∧ rate ≤ 192000) (ht : 0 ≤ time ∧ time ≤ 1000000) : 0 ≤ time * rate ∧ time * rate ≤ 192000000000 :=
 ⟨Int.mul_nonneg ht.1 (by omega), by have := Int.mul_le_mul ht.2 hr.2 (by omega) (by omega); omega⟩
theorem joT {rate time : Int} (hr : 8000 ≤ rate ∧ rate ≤ 192000) (ht : 0 ≤ time ∧ time ≤ 1000000) : 0 ≤ nAt rate time ∧ nAt rate time ≤ 192000 := by
 have h := jjM hr ht
 unfold nAt
 omega
theorem jsg {rate time : Int} (hr : 8000 ≤ rate ∧ rate ≤ 192000) (ht : 0 ≤ time ∧ time ≤ 1000000) : jlm rate time = some (nAt rate time) := by
 have h := jjM hr ht
 unfold jlm nAt
 rw [jas (by omega), jd8 (by omega) h.1 (by omega), jaa, show time * rate + 1000000 - 1 = time * rate + 999999 by omega]
theorem jsh (time : Int) : jlA time = some (if 0 ≤ time ∧ time ≤ 1000000 then 0 else 2) := by
 unfold jlA
 rw [jcB, jaa]
 by_cases h : 0 ≤ time ∧ time ≤ 1000000
 ·rw [jjv h, if_neg Bool.false_ne_true, if_pos h]
 ·rw [jlt h, if_pos rfl, if_neg h]
theorem jjN {rate time : Int} (hr : 8000 ≤ rate ∧ rate ≤ 192000) (ht : 0 ≤ time ∧ time ≤ 1000000) : y76 rate time = some (nAt rate time, 0) := by
 have h := jjM hr ht
 unfold y76 jgD
 rw [jcB, jaa, jaa, jjv hr, if_neg Bool.false_ne_true, jsh, if_pos ht, jaa, if_neg (by simp), jas (by omega), jcZ (by omega) (by omega), jaa, jdp (by omega), show time * rate + 1000000 - 1 = time * rate + 999999 by omega]
 rfl
def jaE (rate time : Int) (n : Nat) : Nat := min n (nAt rate time).toNat
theorem joe (rate time : Int) (n : Nat) : jaE rate time n ≤ n := Nat.min_le_left _ _
theorem jsJ {rate time : Int} (n : Nat) (hr : 8000 ≤ rate ∧ rate ≤ 192000) (ht : 0 ≤ time ∧ time ≤ 1000000) : (if nAt rate time < (n : Int) then nAt rate time else (n : Int)) = (jaE rate time n : Int) ∧ (if (n : Int) < nAt rate time then (n : Int) else nAt rate time) = (jaE rate time n : Int) := by
 have := joT hr ht
 unfold jaE
 constructor <;> split <;> omega
theorem jof {rate noise tail time : Int} {l : List Nat} {zs ss : List (List Int)} (hr : 8000 ≤ rate ∧ rate ≤ 192000) (ht : 0 ≤ time ∧ time ≤ 1000000) : y74 rate l noise tail zs ss time = some (jaE rate time zs.length : Int) := by
 unfold y74
 rw [jsg hr ht, jaa, (jsJ zs.length hr ht).1]
theorem joU {rate noise tail time : Int} {l : List Nat} {zs ss : List (List Int)} (hz : ∀ r ∈ zs, okZ r) (hl : zs.length ≤ 1024) (hr : 8000 ≤ rate ∧ rate ≤ 192000) (ht : 0 ≤ time ∧ time ≤ 1000000) :
  y66 rate l noise tail zs ss time = some (sLo (zs.take (jaE rate time zs.length)), sHi (zs.take (jaE rate time zs.length))) := by
 unfold y66
 have h := jtR (rate := rate) (noise := noise) (tail := tail) (l := l) (ss := ss) (a := 0) hz hl (Nat.zero_le _) (joe rate time zs.length)
 have e : seg zs 0 (jaE rate time zs.length) = zs.take (jaE rate time zs.length) := by unfold seg; simp
 rw [e] at h
 have h : y69 rate l noise tail zs ss 0 (jaE rate time zs.length : Int) = _ := h
 rw [jof hr ht, jaa, h]
 rfl
theorem jrw {rate noise tail time T : Int} {l : List Nat} {zs : List (List Int)} (hr : 8000 ≤ rate ∧ rate ≤ 192000) (ht : 0 ≤ time ∧ time ≤ 1000000) :
  y79 rate l noise tail zs (ssO zs T) time = some (sLo (zs.drop (jaE rate time zs.length)), sHi (zs.drop (jaE rate time zs.length)) + T) := by
 have hc := joe rate time zs.length
 unfold y79
 rw [jof hr ht, jaa, jb2, if_pos (by omega), Int.toNat_natCast, if_pos (by omega), jnX hc]
 rfl
theorem joV {rate noise tail time : Int} {l : List Nat} (hs : ∀ x ∈ l, se x = 0) (hl : l.length ≤ 1024) (hn : 0 ≤ noise ∧ noise ≤ 32767) (htl : 0 ≤ tail ∧ tail ≤ 1000000000000) (hr : 8000 ≤ rate ∧ rate ≤ 192000) (ht : 0 ≤ time ∧ time ≤ 1000000) :
  y91 rate l noise tail time = some (sLo ((zsO noise l).take (jaE rate time l.length)), sHi ((zsO noise l).take (jaE rate time l.length)), sLo ((zsO noise l).drop (jaE rate time l.length)), sHi ((zsO noise l).drop (jaE rate time l.length)) + tail) := by
 have hc := joe rate time l.length
 have hzl := jb8 noise l
 have hz := jfT hn hs
 have hE := jib (rate := rate) (tail := tail) (a := 0) hs hl hn htl (Nat.zero_le _) hc
 have hL := jib (rate := rate) (tail := tail) hs hl hn htl hc (Nat.le_refl _)
 have e : seg (zsO noise l) 0 (jaE rate time l.length) = (zsO noise l).take (jaE rate time l.length) := by unfold seg; simp
 have e2 := jsI (zsO noise l) (jaE rate time l.length)
 rw [hzl] at e2
 rw [e] at hE
 rw [e2, if_pos rfl] at hL
 unfold y91
 rw [jjN hr ht, jaa]
 dsimp only
 rw [(jsJ l.length hr ht).2]
 have hE : y23 rate l noise tail 0 (jaE rate time l.length : Int) = _ := hE
 rw [hE, jaa]
 have hrg := jdA (zs := (zsO noise l).take (jaE rate time l.length)) fun r hr => hz r (List.mem_of_mem_take hr)
 have hlen : (((zsO noise l).take (jaE rate time l.length)).length : Int) ≤ 1024 := by rw [List.length_take]; omega
 by_cases hce : jaE rate time l.length = l.length
 ·rw [if_pos (show ((jaE rate time l.length : Int) == (l.length : Int)) = true by rw [hce]; simp), if_pos hce, hL, jaa]
  dsimp only
  rw [show sHi ((zsO noise l).take (jaE rate time l.length)) + tail - tail = sHi ((zsO noise l).take (jaE rate time l.length)) by omega, jas (by omega)]
 ·rw [if_neg (show ¬ ((jaE rate time l.length : Int) == (l.length : Int)) = true by simp; omega), if_neg hce, hL, jaa, Int.add_zero]
end Go.Sh
end

section
namespace Go.Sh
open Go Go.Proofs Go.RowKit Go.Sx Go.Sx06 Ieee Go.Fl
open Go.IntKind (wrap)
def p10 (f : Int) : Int := 10 ^ f.toNat
theorem joW {f : Int} (h : 0 ≤ f ∧ f ≤ 12) : f = 0 ∨ f = 1 ∨ f = 2 ∨ f = 3 ∨ f = 4 ∨ f = 5 ∨ f = 6 ∨ f = 7 ∨ f = 8 ∨ f = 9 ∨ f = 10 ∨ f = 11 ∨ f = 12 := by omega
theorem jjO {f : Int} (h : 0 ≤ f ∧ f ≤ 12) : jay.getD f.toNat 0 = p10 f ∧ 1 ≤ p10 f ∧ p10 f ≤ 1000000000000 := by
 rcases joW h with rfl | rfl | rfl | rfl | rfl | rfl | rfl | rfl | rfl | rfl | rfl | rfl | rfl <;> decide
theorem jic : jay.length = 13 := rfl
def fB (s w f : Int) : Bool := decide (s * s * p10 f ≤ w * w)
theorem sqn {s M : Int} (h : 0 ≤ s ∧ s ≤ M) : 0 ≤ s * s ∧ s * s ≤ M * M := ⟨Int.mul_nonneg h.1 h.1, Int.mul_le_mul h.2 h.2 h.1 (by omega)⟩
theorem joX {s w f : Int} (hs : 0 ≤ s ∧ s ≤ 10000000000000) (hw : 0 ≤ w ∧ w ≤ 10000000000000) (hf : 0 ≤ f ∧ f ≤ 12) : y87 s w f = some (fB s w f) := by
 obtain ⟨hp, hp1, hp2⟩ := jjO hf
 have hss := sqn hs
 have hww := sqn hw
 unfold y87
 have es : wrap IntKind.u64 s = s := by rw [jbE]; exact Int.emod_eq_of_lt hs.1 (by omega)
 have ew : wrap IntKind.u64 w = w := by rw [jbE]; exact Int.emod_eq_of_lt hw.1 (by omega)
 rw [es, ew, jic]
 have m1 := jcw (x := s) (y := s) (by omega) (by omega) (by omega) (by omega)
 rw [m1, jaa, if_pos (by omega), if_pos (by omega), hp]
 have hlo : wrap IntKind.u64 (s * s) = s * s % 18446744073709551616 := jbE _
 rw [hlo]
 have hlr : 0 ≤ s * s % 18446744073709551616 ∧ s * s % 18446744073709551616 < 18446744073709551616 := by omega
 have m2 := jcw (x := s * s % 18446744073709551616) (y := p10 f) (by omega) (by omega) (by omega) (by omega)
 have m3 := jcw (x := w) (y := w) (by omega) (by omega) (by omega) (by omega)
 rw [m2, jaa, m3, jaa, if_pos (by omega), if_pos (by omega)]
 unfold y9 at m1 m2 m3
 have e1 := congrArg Prod.fst (Option.some.inj m1)
 have e2 := congrArg Prod.fst (Option.some.inj m2)
 have e3 := congrArg Prod.fst (Option.some.inj m3)
 dsimp only at e1 e2 e3
 rw [e1, e2, e3, jbE, jbE, jbE, jbE, jfL, jaa]
 have hh : 0 ≤ s * s / 18446744073709551616 ∧ s * s / 18446744073709551616 ≤ 5421010 := by omega
 have hl2 : 0 ≤ s * s % 18446744073709551616 * p10 f / 18446744073709551616 ∧ s * s % 18446744073709551616 * p10 f / 18446744073709551616 ≤ 1000000000000 := by
  have h1 := Int.mul_nonneg hlr.1 (show 0 ≤ p10 f by omega)
  have h2 := Int.mul_le_mul (show s * s % 18446744073709551616 ≤ 18446744073709551616 by omega) hp2 (by omega) (by omega)
  constructor
  ·exact Int.ediv_nonneg h1 (by omega)
  ·omega
 have hm := Int.mul_nonneg hh.1 (show 0 ≤ p10 f by omega)
 have hm2 := Int.mul_le_mul hh.2 hp2 (show 0 ≤ p10 f by omega) (by omega)
 have ex : s * s * p10 f = (s * s / 18446744073709551616 * p10 f + s * s % 18446744073709551616 * p10 f / 18446744073709551616) * 18446744073709551616 + s * s % 18446744073709551616 * p10 f % 18446744073709551616 := by
  have h0 : s * s = s * s / 18446744073709551616 * 18446744073709551616 + s * s % 18446744073709551616 := by omega
  have h1 : s * s * p10 f = s * s / 18446744073709551616 * p10 f * 18446744073709551616 + s * s % 18446744073709551616 * p10 f := by
   conv => lhs; rw [h0]
   rw [Int.add_mul, Int.mul_right_comm]
  omega
 have key := jq3 (s * s * p10 f) (w * w)
 have q1 : s * s * p10 f / 18446744073709551616 = s * s / 18446744073709551616 * p10 f + s * s % 18446744073709551616 * p10 f / 18446744073709551616 := by omega
 have q2 : s * s * p10 f % 18446744073709551616 = s * s % 18446744073709551616 * p10 f % 18446744073709551616 := by omega
 have w1 : s * s / 18446744073709551616 * p10 f % 18446744073709551616 = s * s / 18446744073709551616 * p10 f := Int.emod_eq_of_lt hm (by omega)
 rw [w1]
 have w2 : (s * s / 18446744073709551616 * p10 f + s * s % 18446744073709551616 * p10 f / 18446744073709551616) % 18446744073709551616 = s * s / 18446744073709551616 * p10 f + s * s % 18446744073709551616 * p10 f / 18446744073709551616 := Int.emod_eq_of_lt (by omega) (by omega)
 rw [w2, ← q1, ← q2]
 first
  | rw [key]
  | (rw [show w * w % 18446744073709551616 = w * w % 18446744073709551616 from rfl, key])
 unfold fB
 by_cases h1 : s * s * p10 f < w * w
 ·rw [if_pos h1, decide_eq_true (show s * s * p10 f ≤ w * w by omega)]; rfl
 ·rw [if_neg h1]
  by_cases h2 : w * w < s * s * p10 f
  ·rw [if_pos h2, decide_eq_false (show ¬ s * s * p10 f ≤ w * w by omega)]; rfl
  ·rw [if_neg h2, decide_eq_true (show s * s * p10 f ≤ w * w by omega)]; rfl
theorem jjP {n : Int} (h : 0 ≤ n ∧ n ≤ 18) : jdS n = some (p10 n) := by
 have : n = 0 ∨ n = 1 ∨ n = 2 ∨ n = 3 ∨ n = 4 ∨ n = 5 ∨ n = 6 ∨ n = 7 ∨ n = 8 ∨ n = 9 ∨ n = 10 ∨ n = 11 ∨ n = 12 ∨ n = 13 ∨ n = 14 ∨ n = 15 ∨ n = 16 ∨ n = 17 ∨ n = 18 := by omega
 rcases this with rfl | rfl | rfl | rfl | rfl | rfl | rfl | rfl | rfl | rfl | rfl | rfl | rfl | rfl | rfl | rfl | rfl | rfl | rfl <;> decide +kernel
theorem jwE {f : Int} (h : 0 ≤ f ∧ f ≤ 12) : (f % 2 = 0 → p10 f = p10 (f / 2) * p10 (f / 2)) ∧ (f % 2 = 1 → p10 f = 10 * (p10 (f / 2) * p10 (f / 2))) ∧ 1 ≤ p10 (f / 2) ∧ p10 (f / 2) ≤ 1000000 := by
 rcases joW h with rfl | rfl | rfl | rfl | rfl | rfl | rfl | rfl | rfl | rfl | rfl | rfl | rfl <;> decide
theorem sq_le {a b : Int} (ha : 0 ≤ a) (hb : 0 ≤ b) : a * a ≤ b * b ↔ a ≤ b := by
 constructor
 ·intro h
  apply Classical.byContradiction
  intro hc
  have h1 := Int.mul_lt_mul (show b < a by omega) (show b ≤ a by omega)
  by_cases hb0 : b = 0
  ·subst hb0
   have := Int.mul_pos (show 0 < a by omega) (show 0 < a by omega)
   omega
  ·have := h1 (by omega) (by omega)
   omega
 ·intro h
  exact Int.mul_le_mul h h ha hb
theorem joY {n w f : Int} (hn : 0 ≤ n ∧ n ≤ 9000000000000) (hw : 0 < w ∧ w ≤ 9000000000000) (hf : 0 ≤ f ∧ f ≤ 12) : y61 n w f = some (fB n w f) := by
 obtain ⟨he, ho, hp1, hp2⟩ := jwE hf
 unfold y61
 rw [Int.tdiv_eq_ediv_of_nonneg hf.1, jas (x := f / 2) (by omega), jjP (by omega), jaa, Int.tmod_eq_emod_of_nonneg hf.1]
 have hx : 0 ≤ n * p10 (f / 2) ∧ n * p10 (f / 2) ≤ 9000000000000000000 := ⟨Int.mul_nonneg hn.1 (by omega), by have := Int.mul_le_mul hn.2 hp2 (by omega) (by omega); omega⟩
 have hxx : n * p10 (f / 2) * (n * p10 (f / 2)) = n * n * (p10 (f / 2) * p10 (f / 2)) := by
  rw [Int.mul_assoc, Int.mul_left_comm (p10 (f / 2)) n, ← Int.mul_assoc]
 rw [jas (x := n * p10 (f / 2)) (by omega)]
 generalize hX : n * p10 (f / 2) = X at *
 have hle := sq_le hx.1 (show 0 ≤ w by omega)
 have hnn := Int.mul_nonneg hx.1 hx.1
 by_cases hpar : f % 2 = 0
 ·rw [if_pos (by rw [hpar]; rfl)]
  congr 1
  unfold fB
  rw [he hpar, ← hxx]
  exact (decide_eq_decide.2 hle).symm
 ·have hodd : f % 2 = 1 := by omega
  rw [if_neg (by simpa using hpar)]
  have hfB : fB n w f = decide (10 * (X * X) ≤ w * w) := by
   unfold fB
   rw [ho hodd, Int.mul_left_comm, ← hxx]
  rw [hfB]
  by_cases hbig : X > w
  ·rw [if_pos hbig, decide_eq_false (show ¬ X ≤ w by omega), decide_eq_false]
   intro hc
   exact absurd (hle.1 (by omega)) (by omega)
  ·rw [if_neg hbig, jas (x := 10 * X) (by omega)]
   have em : (if X > 1 then X else 1) = max 1 X := by split <;> omega
   rw [em, jcA (by omega) (by omega) (by omega) (by omega) (by omega) (by omega) (by omega) (by omega), jaa]
   congr 1
   have h10 : 10 * X * max 1 X = 10 * (X * X) := by
    by_cases h0 : X = 0
    ·rw [h0]; rfl
    ·rw [show max 1 X = X by omega, Int.mul_assoc]
   unfold jcn
   rw [h10]
   by_cases c1 : 10 * (X * X) < w * w
   ·rw [if_pos c1, decide_eq_true (show 10 * (X * X) ≤ w * w by omega)]; rfl
   ·rw [if_neg c1]
    by_cases c2 : w * w < 10 * (X * X)
    ·rw [if_pos c2, decide_eq_false (show ¬ 10 * (X * X) ≤ w * w by omega)]; rfl
    ·rw [if_neg c2, decide_eq_true (show 10 * (X * X) ≤ w * w by omega)]; rfl
end Go.Sh
end

section
namespace Go.Sh
open Go Go.Proofs Go.RowKit Go.Sx Go.Sx06 Ieee Go.Fl
open Go.IntKind (wrap)
theorem jxK {s s' w w' f : Int} (h1 : 0 ≤ s ∧ s ≤ s') (h2 : 0 ≤ w' ∧ w' ≤ w) (hf : 0 ≤ p10 f) (h : fB s' w' f = true) : fB s w f = true := by
 unfold fB at *
 simp only [decide_eq_true_eq] at *
 have a := Int.mul_le_mul_of_nonneg_right (Int.mul_le_mul h1.2 h1.2 h1.1 (by omega)) hf
 have b := Int.mul_le_mul h2.2 h2.2 h2.1 (by omega)
 omega
theorem jxL (f : Int) : 0 ≤ p10 f := by unfold p10; exact Int.pow_nonneg (by omega)
theorem jwF {s w f g : Int} (hfg : p10 f ≤ p10 g) (h : fB s w g = true) : fB s w f = true := by
 unfold fB at *
 simp only [decide_eq_true_eq] at *
 have a : 0 ≤ s * s := by
  rcases Int.le_total 0 s with h | h
  ·exact Int.mul_nonneg h h
  ·exact Int.mul_nonneg_of_nonpos_of_nonpos h h
 have b := Int.mul_le_mul_of_nonneg_left hfg a
 omega
def sfI (zs : List (List Int)) (T f : Int) : Option Nat := (ssO zs T).findIdx? fun r => fB (r.getD 1 0) (sLo zs) f
def phI (zs : List (List Int)) (T f : Int) : Option Nat := (ssO zs T).findIdx? fun r => fB (r.getD 0 0) (sHi zs + T) f
def ixZ (o : Option Nat) : Int := match o with
 | some i => (i : Int)
 | none => -1
def jaM (zs : List (List Int)) (T f : Int) : Int × Int × Bool := match sfI zs T f with
 | some j => if j = zs.length then (0, 0, false) else (max 0 (ixZ (phI zs T f) - 1), (j : Int), true)
 | none => (0, 0, false)
structure ZOK (zs : List (List Int)) (T : Int) : Prop where
 len : zs.length ≤ 1024
 ok : ∀ r ∈ zs, okZ r
 tail : 0 ≤ T ∧ T ≤ 1000000000000
section
variable {zs : List (List Int)} {T f : Int}
theorem ZOK.at_ (h : ZOK zs T) {i : Nat} (hi : i ≤ zs.length) : 0 ≤ sLo (zs.drop i) ∧ sLo (zs.drop i) ≤ sHi (zs.drop i) + T ∧ sHi (zs.drop i) + T ≤ 6000000000000 := by
 have := jdA (zs := zs.drop i) fun r hr => h.ok r (List.mem_of_mem_drop hr)
 have hl := h.len
 have ht := h.tail
 have hd : ((zs.drop i).length : Int) ≤ 1024 := by rw [List.length_drop]; omega
 omega
theorem ZOK.all (h : ZOK zs T) : 0 ≤ sLo zs ∧ sLo zs ≤ sHi zs + T ∧ sHi zs + T ≤ 6000000000000 := by
 have := h.at_ (i := 0) (Nat.zero_le _)
 simpa using this
theorem jf0 {α : Type} {l : List α} {P : α → Bool} {d : α} {j : Nat} (h : l.findIdx? P = some j) : j < l.length ∧ P (l.getD j d) = true ∧ ∀ i, i < j → P (l.getD i d) = false := by
 rw [List.findIdx?_eq_some_iff_getElem] at h
 obtain ⟨hk, hp, hb⟩ := h
 refine ⟨hk, by simpa [List.getD, hk] using hp, fun i hi => ?_⟩
 have := hb i hi
 simpa [List.getD, show i < l.length by omega] using this
theorem jlI {α : Type} {l : List α} {P : α → Bool} (d : α) (h : l.findIdx? P = none) : ∀ i, i < l.length → P (l.getD i d) = false := by
 rw [List.findIdx?_eq_none_iff] at h
 intro i hi
 simpa [List.getD, hi] using h l[i] (List.getElem_mem _)
theorem jmW {α : Type} {l : List α} {P : α → Bool} {d : α} {j : Nat} (h1 : j < l.length) (h2 : P (l.getD j d) = true) : ∃ i, l.findIdx? P = some i ∧ i ≤ j := by
 cases h : l.findIdx? P with
 | none => have := jlI d h j h1; rw [h2] at this; cases this
 | some i =>
  refine ⟨i, rfl, ?_⟩
  have := (jf0 (d := d) h).2.2
  apply Classical.byContradiction
  intro hc
  have h3 := this j (by omega)
  rw [h2] at h3
  cases h3
theorem jc2 {i : Nat} (hi : i ≤ zs.length) : ((ssO zs T).getD i []).getD 0 0 = sLo (zs.drop i) ∧ ((ssO zs T).getD i []).getD 1 0 = sHi (zs.drop i) + T := by
 rw [jnX hi]
 exact ⟨rfl, rfl⟩
theorem jkh : ((ssO zs T).getD 0 []).getD 0 0 = sLo zs ∧ ((ssO zs T).getD 0 []).getD 1 0 = sHi zs + T := by
 have := jc2 (zs := zs) (T := T) (i := 0) (Nat.zero_le _)
 simpa using this
theorem jfk {j : Nat} (h : sfI zs T f = some j) : j ≤ zs.length ∧ fB (sHi (zs.drop j) + T) (sLo zs) f = true ∧ ∀ i, i < j → fB (sHi (zs.drop i) + T) (sLo zs) f = false := by
 obtain ⟨h1, h2, h3⟩ := jf0 (d := []) h
 rw [jb2] at h1
 have hj : j ≤ zs.length := by omega
 rw [(jc2 hj).2] at h2
 refine ⟨hj, h2, fun i hi => ?_⟩
 have := h3 i hi
 rw [(jc2 (show i ≤ zs.length by omega)).2] at this
 exact this
theorem jxM {j : Nat} (h : phI zs T f = some j) : j ≤ zs.length ∧ fB (sLo (zs.drop j)) (sHi zs + T) f = true ∧ ∀ i, i < j → fB (sLo (zs.drop i)) (sHi zs + T) f = false := by
 obtain ⟨h1, h2, h3⟩ := jf0 (d := []) h
 rw [jb2] at h1
 have hj : j ≤ zs.length := by omega
 rw [(jc2 hj).1] at h2
 refine ⟨hj, h2, fun i hi => ?_⟩
 have := h3 i hi
 rw [(jc2 (show i ≤ zs.length by omega)).1] at this
 exact this
theorem jlJ (hz : ZOK zs T) {j : Nat} (h : sfI zs T f = some j) : ∃ i, phI zs T f = some i ∧ i ≤ j := by
 obtain ⟨h1, h2, _⟩ := jfk h
 have a := hz.at_ h1
 have b := hz.all
 refine jmW (d := []) (by rw [jb2]; omega) ?_
 rw [(jc2 h1).1]
 exact jxK ⟨a.1, a.2.1⟩ ⟨b.1, b.2.1⟩ (jxL f) h2
theorem jwG {g : Int} (hfg : p10 f ≤ p10 g) {j : Nat} (h : sfI zs T g = some j) : ∃ i, sfI zs T f = some i ∧ i ≤ j := by
 obtain ⟨h1, h2, _⟩ := jfk h
 refine jmW (d := []) (by rw [jb2]; omega) ?_
 rw [(jc2 h1).2]
 exact jwF hfg h2
theorem jlK (hz : ZOK zs T) (h : (jaM zs T f).2.2 = true) : ∃ i j : Nat, sfI zs T f = some j ∧ phI zs T f = some i ∧ i ≤ j ∧ j < zs.length ∧ jaM zs T f = (max 0 ((i : Int) - 1), (j : Int), true) := by
 unfold jaM at h ⊢
 cases hs : sfI zs T f with
 | none => rw [hs] at h; cases h
 | some j =>
  rw [hs] at h
  dsimp only at h ⊢
  split at h
  ·cases h
  ·rename_i hne
   obtain ⟨i, hi, hij⟩ := jlJ hz hs
   have := (jfk hs).1
   refine ⟨i, j, rfl, hi, hij, by omega, ?_⟩
   rw [if_neg hne, hi]
   rfl
variable {rate noise tl : Int} {l : List Nat}
theorem juY (hz : ZOK zs T) (hf : 0 ≤ f ∧ f ≤ 12) : y33 (ssO zs T) rate l noise tl zs (ssO zs T) f = some (ixZ (phI zs T f)) := by
 have ha := hz.all
 have hlen := hz.len
 have hk := jb2 zs T
 have h0 := jkh (zs := zs) (T := T)
 have hc : ∀ i, i < (ssO zs T).length → y56 (((ssO zs T).getD i []).getD 0 0) (((ssO zs T).getD i []).getD 1 0) rate l noise tl zs (ssO zs T) f = some (fB (((ssO zs T).getD i []).getD 0 0) (sHi zs + T) f) := by
  intro i hi
  unfold y56
  rw [if_pos (by omega), if_pos (by omega), h0.2, (jc2 (show i ≤ zs.length by omega)).1]
  have := hz.at_ (i := i) (by omega)
  rw [joX (by omega) (by omega) hf]
  rfl
 have h := jdM (ssO zs T) [] (fun r => fB (r.getD 0 0) (sHi zs + T) f) (body := y15 (ssO zs T) rate l noise tl zs (ssO zs T) f) (fun i => .inl (i : Int)) (.inr ()) (by omega)
  (fun i hi hp => by
   unfold y15
   rw [if_pos (by omega), if_pos (by omega), if_pos (by omega), Int.toNat_natCast, hc i hi, jaa, if_pos hp])
  (fun i hi hp => by
   unfold y15
   rw [if_pos (by omega), if_pos (by omega), if_pos (by omega), Int.toNat_natCast, hc i hi, jaa, if_neg (by rw [hp]; simp), jas (by omega)])
  (by unfold y15; rw [if_neg (by omega)])
 unfold y33 phI ixZ
 rw [h]
 cases (ssO zs T).findIdx? (fun r => fB (r.getD 0 0) (sHi zs + T) f) <;> rfl
theorem juZ (hz : ZOK zs T) (hf : 0 ≤ f ∧ f ≤ 12) : y34 (ssO zs T) rate l noise tl zs (ssO zs T) f = some (ixZ (sfI zs T f)) := by
 have ha := hz.all
 have hlen := hz.len
 have hk := jb2 zs T
 have h0 := jkh (zs := zs) (T := T)
 have hc : ∀ i, i < (ssO zs T).length → y57 (((ssO zs T).getD i []).getD 0 0) (((ssO zs T).getD i []).getD 1 0) rate l noise tl zs (ssO zs T) f = some (fB (((ssO zs T).getD i []).getD 1 0) (sLo zs) f) := by
  intro i hi
  unfold y57
  rw [if_pos (by omega), if_pos (by omega), h0.1, (jc2 (show i ≤ zs.length by omega)).2]
  have := hz.at_ (i := i) (by omega)
  rw [joX (by omega) (by omega) hf]
  rfl
 have h := jdM (ssO zs T) [] (fun r => fB (r.getD 1 0) (sLo zs) f) (body := y16 (ssO zs T) rate l noise tl zs (ssO zs T) f) (fun i => .inl (i : Int)) (.inr ()) (by omega)
  (fun i hi hp => by
   unfold y16
   rw [if_pos (by omega), if_pos (by omega), if_pos (by omega), Int.toNat_natCast, hc i hi, jaa, if_pos hp])
  (fun i hi hp => by
   unfold y16
   rw [if_pos (by omega), if_pos (by omega), if_pos (by omega), Int.toNat_natCast, hc i hi, jaa, if_neg (by rw [hp]; simp), jas (by omega)])
  (by unfold y16; rw [if_neg (by omega)])
 unfold y34 sfI ixZ
 rw [h]
 cases (ssO zs T).findIdx? (fun r => fB (r.getD 1 0) (sLo zs) f) <;> rfl
theorem jde (hz : ZOK zs T) (hf : 0 ≤ f ∧ f ≤ 12) : y31 rate l noise tl zs (ssO zs T) f = some (jaM zs T f) := by
 unfold y31
 rw [juY hz hf, jaa, juZ hz hf, jaa]
 unfold jaM
 cases hs : sfI zs T f with
 | none => rfl
 | some j =>
  obtain ⟨i, hi, hij⟩ := jlJ hz hs
  have hj := (jfk hs).1
  have hl := hz.len
  rw [hi]
  unfold ixZ
  dsimp only
  rw [if_neg (by omega)]
  by_cases he : j = zs.length
  ·rw [if_pos (by rw [he]; simp), if_pos he]
  ·rw [if_neg (by simp; omega), if_neg he, jas (by omega)]
   congr 2
   split <;> omega
def jco (o : Option Nat) (t : Nat) : Int := match o with
 | some i => if i < t then (i : Int) else -1
 | none => -1
theorem joZ (o : Option Nat) : jco o 0 = -1 := by cases o <;> simp [jco]
theorem jg9 {i t : Nat} (h : i < t) : jco (some i) t = i := by simp [jco, h]
theorem jog {i t : Nat} (h : t ≤ i) : jco (some i) t = -1 := by simp [jco]; omega
theorem jtS (o : Option Nat) (t : Nat) : -1 ≤ jco o t ∧ jco o t ≤ t := by
 cases o with
 | none => simp [jco]
 | some i =>
  by_cases h : i < t
  ·rw [jg9 h]; omega
  ·rw [jog (by omega)]; omega
theorem ju0 {t : Nat} (ht : t ≤ zs.length) : jco (phI zs T f) (t + 1) = if jco (phI zs T f) t < 0 then (if fB (sLo (zs.drop t)) (sHi zs + T) f = true then (t : Int) else -1) else jco (phI zs T f) t := by
 cases hph : phI zs T f with
 | none =>
  have := jlI [] hph t (by rw [jb2]; omega)
  rw [(jc2 ht).1] at this
  rw [if_pos (show jco none t < 0 by simp [jco]), this]
  rfl
 | some i =>
  obtain ⟨h1, h2, h3⟩ := jxM hph
  by_cases c1 : i < t
  ·rw [jg9 (show i < t + 1 by omega), jg9 c1, if_neg (by omega)]
  ·rw [jog (show t ≤ i by omega), if_pos (by omega)]
   by_cases c2 : i = t
   ·subst c2
    rw [jg9 (by omega), if_pos h2]
   ·rw [jog (by omega), h3 t (by omega)]
    rfl
theorem jsi {tail : Int} (hs : ∀ x ∈ l, se x = 0) (hl : l.length ≤ 1024) (hn : 0 ≤ noise ∧ noise ≤ 32767) (ht : 0 ≤ tail ∧ tail ≤ 1000000000000) (hf : 0 ≤ f ∧ f ≤ 12) (h0 : 0 < sLo (zsO noise l)) :
  y32 rate l noise tail f = some (jaM (zsO noise l) tail f) := by
 have hzl := jb8 noise l
 have hz : ZOK (zsO noise l) tail := ⟨by omega, jfT hn hs, ht⟩
 have hall := hz.all
 unfold y32
 have hsum0 := jkg (rate := rate) (noise := noise) (tail := tail) (a := 0) hs hl hn ht (Nat.zero_le _)
 rw [List.drop_zero] at hsum0
 have hsum0 : y36 rate l noise tail 0 = _ := hsum0
 rw [hsum0, jaa]
 have hP : ∀ t, t < l.length → y61 (sLo ((zsO noise l).drop t)) (sHi (zsO noise l) + tail) f = some (fB (sLo ((zsO noise l).drop t)) (sHi (zsO noise l) + tail) f) := fun t ht' => by
  have := hz.at_ (i := t) (by omega)
  exact joY (by omega) (by omega) hf
 have hQ : ∀ t, t < l.length → y61 (sHi ((zsO noise l).drop t) + tail) (sLo (zsO noise l)) f = some (fB (sHi ((zsO noise l).drop t) + tail) (sLo (zsO noise l)) f) := fun t ht' => by
  have := hz.at_ (i := t) (by omega)
  exact joY (by omega) (by omega) hf
 have emax : ∀ z : Int, -9223372036854775807 ≤ z ∧ z ≤ 9223372036854775807 → (if wrap IntKind.i64 (z - (1 : Int)) > (0 : Int) then wrap IntKind.i64 (z - (1 : Int)) else (0 : Int)) = max 0 (z - 1) := fun z hz => by
  rw [jas (by omega)]
  split <;> omega
 have hbody : ∀ t, t < l.length → y29 rate l noise tail f (sLo (zsO noise l), sHi (zsO noise l) + tail) ((t : Int), jco (phI (zsO noise l) tail f) t) =
   if fB (sHi ((zsO noise l).drop t) + tail) (sLo (zsO noise l)) f = true then some (.inr (.inl (max 0 (jco (phI (zsO noise l) tail f) (t + 1) - 1), (t : Int)))) else some (.inl (((t + 1 : Nat) : Int), jco (phI (zsO noise l) tail f) (t + 1))) := by
  intro t ht'
  rw [ju0 (by omega)]
  have hlr := jtS (phI (zsO noise l) tail f) t
  generalize jco (phI (zsO noise l) tail f) t = u at *
  unfold y29
  dsimp only
  rw [if_pos (by omega), jkg hs hl hn ht (Nat.le_of_lt ht'), jaa, hP t ht', hQ t ht', emax _ (by omega), emax _ (by omega), jas (by omega)]
  simp only [jaa]
  by_cases c1 : u < 0
  ·have hu : u = -1 := by omega
   subst hu
   by_cases c2 : fB (sLo ((zsO noise l).drop t)) (sHi (zsO noise l) + tail) f = true
   ·simp only [c2, if_true, show ((-1 : Int) < 0) = True by simp]; rfl
   ·simp only [c2, if_false, if_true, Bool.false_eq_true, show ((-1 : Int) < 0) = True by simp]; rfl
  ·simp only [c1, if_false]; rfl
 have hend : y29 rate l noise tail f (sLo (zsO noise l), sHi (zsO noise l) + tail) ((l.length : Int), jco (phI (zsO noise l) tail f) l.length) = some (.inr (.inr ())) := by
  unfold y29
  dsimp only
  rw [if_neg (by omega)]
 unfold jaM
 have hfin : ∀ j, sfI (zsO noise l) tail f = some j → j < l.length → jae (y29 rate l noise tail f (sLo (zsO noise l), sHi (zsO noise l) + tail)) big (0, -1) = some (.inl (max 0 (ixZ (phI (zsO noise l) tail f) - 1), (j : Int))) := by
  intro j hsf hj
  obtain ⟨h1, h2, h3⟩ := jfk hsf
  obtain ⟨i, hi, hij⟩ := jlJ hz hsf
  have := jbA (body := y29 rate l noise tail f (sLo (zsO noise l), sHi (zsO noise l) + tail)) (fun t => ((t : Int), jco (phI (zsO noise l) tail f) t)) (k := j) (y := .inl (max 0 (ixZ (phI (zsO noise l) tail f) - 1), (j : Int))) (fun t ht' => by
   rw [hbody t (by omega), h3 t ht']
   rfl) (by
   rw [hbody j hj, if_pos h2, hi, jg9 (show i < j + 1 by omega)]
   rfl) (by omega)
  rw [joZ] at this
  exact this
 have hnone : (∀ t, t < l.length → fB (sHi ((zsO noise l).drop t) + tail) (sLo (zsO noise l)) f = false) → jae (y29 rate l noise tail f (sLo (zsO noise l), sHi (zsO noise l) + tail)) big (0, -1) = some (.inr ()) := by
  intro hn'
  have := jbA (body := y29 rate l noise tail f (sLo (zsO noise l), sHi (zsO noise l) + tail)) (fun t => ((t : Int), jco (phI (zsO noise l) tail f) t)) (k := l.length) (y := .inr ()) (fun t ht' => by
   rw [hbody t ht', hn' t ht']
   rfl) hend (by omega)
  rw [joZ] at this
  exact this
 cases hsf : sfI (zsO noise l) tail f with
 | none =>
  rw [hnone fun t ht' => by
   have := jlI [] hsf t (by rw [jb2]; omega)
   rw [(jc2 (show t ≤ (zsO noise l).length by omega)).2] at this
   exact this]
  rfl
 | some j =>
  obtain ⟨h1, h2, h3⟩ := jfk hsf
  dsimp only
  by_cases he : j = (zsO noise l).length
  ·rw [if_pos he, hnone fun t ht' => h3 t (by omega)]
   rfl
  ·rw [if_neg he, hfin j hsf (by omega)]
   rfl
end
end Go.Sh
end
