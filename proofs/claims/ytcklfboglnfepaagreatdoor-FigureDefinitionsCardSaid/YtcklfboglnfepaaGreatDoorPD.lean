/- Part 4 of the proof of FigureDefinitionsCard: the executor, the mirrors of the functions, the plain facts. -/
import Derived.Test.YtcklfboglnfepaaGreatDoorPC
import Derived.RangeFuncNested
import Derived.RangeFuncBound
import Derived.RangeFuncCalls
import Derived.RangeFuncLeaves
import Derived.OwnWalkIn
import Derived.TacticsInMore
import Derived.OrdersIn
import Derived.Shelf.Abstract
import Derived.WalkKit
import Derived.LoopNIn
import Derived.LoopIn
import Derived.Test.YtcklfboglnfepaaGreatDoorProg
set_option linter.unusedSectionVars false
set_option linter.unusedSimpArgs false
set_option linter.unusedVariables false
section
namespace Go.Sh
open Go Go.Proofs Go.RowKit Go.Sx
set_option linter.unusedVariables false
def y151 : List SV := [.c (.p [.d, .r (.floats .f32 []), .d, .d, .r (.recs 2 []), .r (.recs 2 [])]), .a [.d, .d]]
def y33 (u9 : List (List Int)) (u37 : Int) (wTo : Int) (x0 : (Int × Int × Int)) : Option ((Int × Int × Int) ⊕ (Int × Int)) :=
  if x0.1 < (↑(List.length (List.take (Int.toNat (Option.getD (some wTo) (↑(List.length u9) : Int)) - Int.toNat (Option.getD (some u37) (0 : Int))) (List.drop (Int.toNat (Option.getD (some u37) (0 : Int))) u9))) : Int) then
   if (0 : Int) ≤ x0.1 ∧ x0.1 < (↑(List.length (List.take (Int.toNat (Option.getD (some wTo) (↑(List.length u9) : Int)) - Int.toNat (Option.getD (some u37) (0 : Int))) (List.drop (Int.toNat (Option.getD (some u37) (0 : Int))) u9))) : Int) then
    if Int.toNat x0.1 < List.length (List.take (Int.toNat (Option.getD (some wTo) (↑(List.length u9) : Int)) - Int.toNat (Option.getD (some u37) (0 : Int))) (List.drop (Int.toNat (Option.getD (some u37) (0 : Int))) u9)) then
     Option.bind (G_plus x0.2.1 x0.2.2 (List.getD (List.getD (List.take (Int.toNat (Option.getD (some wTo) (↑(List.length u9) : Int)) - Int.toNat (Option.getD (some u37) (0 : Int))) (List.drop (Int.toNat (Option.getD (some u37) (0 : Int))) u9)) (Int.toNat x0.1) []) (0 : Nat) (0 : Int)) (List.getD (List.getD (List.take (Int.toNat (Option.getD (some wTo) (↑(List.length u9) : Int)) - Int.toNat (Option.getD (some u37) (0 : Int))) (List.drop (Int.toNat (Option.getD (some u37) (0 : Int))) u9)) (Int.toNat x0.1) []) (1 : Nat) (0 : Int))) fun r0 =>
     some (.inl ((IntKind.wrap .i64 (x0.1 + (1 : Int)), IntKind.wrap .i64 (x0.2.1 + List.getD (List.getD (List.take (Int.toNat (Option.getD (some wTo) (↑(List.length u9) : Int)) - Int.toNat (Option.getD (some u37) (0 : Int))) (List.drop (Int.toNat (Option.getD (some u37) (0 : Int))) u9)) (Int.toNat x0.1) []) (0 : Nat) (0 : Int)), IntKind.wrap .i64 (x0.2.2 + List.getD (List.getD (List.take (Int.toNat (Option.getD (some wTo) (↑(List.length u9) : Int)) - Int.toNat (Option.getD (some u37) (0 : Int))) (List.drop (Int.toNat (Option.getD (some u37) (0 : Int))) u9)) (Int.toNat x0.1) []) (1 : Nat) (0 : Int)))))
    else none
   else none
  else
   some (.inr (x0.2.1, x0.2.2))
def y88 (u16 : Int × Int) : Option (Int × Int) :=
  some (u16.1, u16.2)
def y49 (u11 : Int) (u12 : List Nat) (u13 : Int) (u14 : Int) (u9 : List (List Int)) (u15 : List (List Int)) (u37 : Int) (wTo : Int) : Option (Int × Int) :=
  if (0 : Int) ≤ Option.getD (some u37) (0 : Int) ∧ Option.getD (some u37) (0 : Int) ≤ Option.getD (some wTo) (↑(List.length u9) : Int) ∧ Option.getD (some wTo) (↑(List.length u9) : Int) ≤ (↑(List.length u9) : Int) then
   Option.bind (iter (y33 u9 u37 wTo) big (((0 : Int), (0 : Int), (0 : Int)))) (y88)
  else none
def y152 : List Lf → Option GT
  | [.d (.i .i64 u11), .r (.floats .f32 u12), .d (.i .i64 u13), .d (.i .i64 u14), .r (.recs 2 u9), .r (.recs 2 u15), .d (.i .i64 u37), .d (.i .i64 wTo)] => some (.leaf (ok (y49 u11 u12 u13 u14 u9 u15 u37 wTo)) [.s [.d (.i .i64 ((val (y49 u11 u12 u13 u14 u9 u15 u37 wTo)).1)), .d (.i .i64 ((val (y49 u11 u12 u13 u14 u9 u15 u37 wTo)).2))]])
  | _ => none
abbrev sp_87 : Specs → Specs := addK 87 true (pureT y151 y152)
set_option maxRecDepth 100000 in
theorem G_decay_energy_vc (u11 : Int) (u12 : List Nat) (u13 : Int) (u14 : Int) (u9 : List (List Int)) (u15 : List (List Int)) (u37 : Int) (wTo : Int) (r : Int × Int) (h : Option.bind (y49 u11 u12 u13 u14 u9 u15 u37 wTo) some = some r) : runT Tryz.f87 ((sp_117 sp0)) (fun gs id _ => match id with
 | 0 => some ⟨(Int × Int × Int) × Nat, fun z => ⟨[(4, .w (.c (.p 4 (0 : Nat) 1 (0 : Nat)))), (15, .w (.c (.o 5))), (16, .w (.c (.d (.i .i64 ((↑(List.length (List.take (Int.toNat (Option.getD (some wTo) (↑(List.length u9) : Int)) - Int.toNat (Option.getD (some u37) (0 : Int))) (List.drop (Int.toNat (Option.getD (some u37) (0 : Int))) u9))) : Int)))))), (17, .w (.c (.d (.i .i64 (Prod.fst (Prod.fst z))))))], [(4, .box 30 [.d (.i .i64 (Prod.fst (Prod.snd (Prod.fst z)))), .d (.i .i64 (Prod.snd (Prod.snd (Prod.fst z))))]), (5, .ext (.recs 2 (List.take (Int.toNat (Option.getD (some wTo) (↑(List.length u9) : Int)) - Int.toNat (Option.getD (some u37) (0 : Int))) (List.drop (Int.toNat (Option.getD (some u37) (0 : Int))) u9))))], 6⟩, fun z => Option.bind (iter (y33 u9 u37 wTo) (Prod.snd z) (Prod.fst z)) (fun y0 => Option.bind (y88 y0) some) = some r, fun z => Prod.snd z⟩
 | _ => none) (bldD y151 [.d (.i .i64 u11), .r (.floats .f32 u12), .d (.i .i64 u13), .d (.i .i64 u14), .r (.recs 2 u9), .r (.recs 2 u15), .d (.i .i64 u37), .d (.i .i64 wTo)]) [.s [.d (.i .i64 r.1), .d (.i .i64 r.2)]] := by
  refine Eq.mp (by kernel_rfl : (
 (Ob (True) ∧
 (Ob ((0 : Int) ≤ Option.getD (some u37) (0 : Int) ∧ Option.getD (some u37) (0 : Int) ≤ Option.getD (some wTo) (↑(List.length u9) : Int) ∧ Option.getD (some wTo) (↑(List.length u9) : Int) ≤ (↑(List.length u9) : Int)) ∧
   ((∃ (v0 : (Int × Int × Int) × Nat), (Ob ((Option.bind (iter (y33 u9 u37 wTo) v0.2 v0.1) fun y0 => Option.bind (y88 y0) some) = some r) ∧
 (Ob ((0 : Nat) = (0 : Nat)) ∧
 (Ob ((↑(List.length (List.take (Int.toNat (Option.getD (some wTo) (↑(List.length u9) : Int)) - Int.toNat (Option.getD (some u37) (0 : Int))) (List.drop (Int.toNat (Option.getD (some u37) (0 : Int))) u9))) : Int) = (↑(List.length (List.take (Int.toNat (Option.getD (some wTo) (↑(List.length u9) : Int)) - Int.toNat (Option.getD (some u37) (0 : Int))) (List.drop (Int.toNat (Option.getD (some u37) (0 : Int))) u9))) : Int)) ∧
 (Ob ((0 : Int) = v0.1.1) ∧
 (Ob ((0 : Int) = v0.1.2.1) ∧
 (Ob ((0 : Int) = v0.1.2.2) ∧
 (Ob (List.take (Int.toNat (Option.getD (some wTo) (↑(List.length u9) : Int)) - Int.toNat (Option.getD (some u37) (0 : Int))) (List.drop (Int.toNat (Option.getD (some u37) (0 : Int))) u9) = List.take (Int.toNat (Option.getD (some wTo) (↑(List.length u9) : Int)) - Int.toNat (Option.getD (some u37) (0 : Int))) (List.drop (Int.toNat (Option.getD (some u37) (0 : Int))) u9)) ∧
 True)))))))) ∧
   (∀ (v0 : (Int × Int × Int) × Nat), ((Option.bind (iter (y33 u9 u37 wTo) v0.2 v0.1) fun y0 => Option.bind (y88 y0) some) = some r →
 Br (decide (v0.1.1 < (↑(List.length (List.take (Int.toNat (Option.getD (some wTo) (↑(List.length u9) : Int)) - Int.toNat (Option.getD (some u37) (0 : Int))) (List.drop (Int.toNat (Option.getD (some u37) (0 : Int))) u9))) : Int)))
   ((Ob ((0 : Int) ≤ v0.1.1 ∧ v0.1.1 < (↑(List.length (List.take (Int.toNat (Option.getD (some wTo) (↑(List.length u9) : Int)) - Int.toNat (Option.getD (some u37) (0 : Int))) (List.drop (Int.toNat (Option.getD (some u37) (0 : Int))) u9))) : Int)) ∧
 (Ob (Int.toNat v0.1.1 < List.length (List.take (Int.toNat (Option.getD (some wTo) (↑(List.length u9) : Int)) - Int.toNat (Option.getD (some u37) (0 : Int))) (List.drop (Int.toNat (Option.getD (some u37) (0 : Int))) u9))) ∧
 (Ob (ok (G_plus v0.1.2.1 v0.1.2.2 (List.getD (List.getD (List.take (Int.toNat (Option.getD (some wTo) (↑(List.length u9) : Int)) - Int.toNat (Option.getD (some u37) (0 : Int))) (List.drop (Int.toNat (Option.getD (some u37) (0 : Int))) u9)) (Int.toNat v0.1.1) []) (0 : Nat) (0 : Int)) (List.getD (List.getD (List.take (Int.toNat (Option.getD (some wTo) (↑(List.length u9) : Int)) - Int.toNat (Option.getD (some u37) (0 : Int))) (List.drop (Int.toNat (Option.getD (some u37) (0 : Int))) u9)) (Int.toNat v0.1.1) []) (1 : Nat) (0 : Int)))) ∧
   (∃ (v1 : (Int × Int × Int) × Nat), (Ob ((Option.bind (iter (y33 u9 u37 wTo) v1.2 v1.1) fun y0 => Option.bind (y88 y0) some) = some r) ∧
 (Ob (v1.2 < v0.2) ∧
 (Ob ((0 : Nat) = (0 : Nat)) ∧
 (Ob ((↑(List.length (List.take (Int.toNat (Option.getD (some wTo) (↑(List.length u9) : Int)) - Int.toNat (Option.getD (some u37) (0 : Int))) (List.drop (Int.toNat (Option.getD (some u37) (0 : Int))) u9))) : Int) = (↑(List.length (List.take (Int.toNat (Option.getD (some wTo) (↑(List.length u9) : Int)) - Int.toNat (Option.getD (some u37) (0 : Int))) (List.drop (Int.toNat (Option.getD (some u37) (0 : Int))) u9))) : Int)) ∧
 (Ob (IntKind.wrap .i64 (v0.1.1 + (1 : Int)) = v1.1.1) ∧
 (Ob (IntKind.wrap .i64 (v0.1.2.1 + List.getD (List.getD (List.take (Int.toNat (Option.getD (some wTo) (↑(List.length u9) : Int)) - Int.toNat (Option.getD (some u37) (0 : Int))) (List.drop (Int.toNat (Option.getD (some u37) (0 : Int))) u9)) (Int.toNat v0.1.1) []) (0 : Nat) (0 : Int)) = v1.1.2.1) ∧
 (Ob (IntKind.wrap .i64 (v0.1.2.2 + List.getD (List.getD (List.take (Int.toNat (Option.getD (some wTo) (↑(List.length u9) : Int)) - Int.toNat (Option.getD (some u37) (0 : Int))) (List.drop (Int.toNat (Option.getD (some u37) (0 : Int))) u9)) (Int.toNat v0.1.1) []) (1 : Nat) (0 : Int)) = v1.1.2.2) ∧
 (Ob (List.take (Int.toNat (Option.getD (some wTo) (↑(List.length u9) : Int)) - Int.toNat (Option.getD (some u37) (0 : Int))) (List.drop (Int.toNat (Option.getD (some u37) (0 : Int))) u9) = List.take (Int.toNat (Option.getD (some wTo) (↑(List.length u9) : Int)) - Int.toNat (Option.getD (some u37) (0 : Int))) (List.drop (Int.toNat (Option.getD (some u37) (0 : Int))) u9)) ∧
 True)))))))))))))
   ((Ob (True) ∧
 (Ob (v0.1.2.1 = r.1) ∧
 (Ob (v0.1.2.2 = r.2) ∧
 True)))))))))) = _) ?_
  refine ob_t ?_
  refine ob_s h fun h => ?_
  refine ⟨⟨(((0 : Int), (0 : Int), (0 : Int)), big), ⟨loop_s h⟩, (by repeat' (first | exact trivial | exact ⟨rfl⟩ | refine And.intro ?_ ?_))⟩, fun z1 hz1 => ?_⟩
  obtain ⟨k1, hm1, h⟩ := iter_pos hz1
  refine br_d h (fun h => ?_) (fun h => ?_)
  · refine ob_s h fun h => ?_
    refine ob_s h fun h => ?_
    refine call_s h fun h => ?_
    exact ⟨((IntKind.wrap .i64 ((Prod.fst z1).1 + (1 : Int)), IntKind.wrap .i64 ((Prod.fst z1).2.1 + List.getD (List.getD (List.take (Int.toNat (Option.getD (some wTo) (↑(List.length u9) : Int)) - Int.toNat (Option.getD (some u37) (0 : Int))) (List.drop (Int.toNat (Option.getD (some u37) (0 : Int))) u9)) (Int.toNat (Prod.fst z1).1) []) (0 : Nat) (0 : Int)), IntKind.wrap .i64 ((Prod.fst z1).2.2 + List.getD (List.getD (List.take (Int.toNat (Option.getD (some wTo) (↑(List.length u9) : Int)) - Int.toNat (Option.getD (some u37) (0 : Int))) (List.drop (Int.toNat (Option.getD (some u37) (0 : Int))) u9)) (Int.toNat (Prod.fst z1).1) []) (1 : Nat) (0 : Int))), k1), ⟨next_s h⟩, ⟨lt_gs hm1.symm⟩, (by repeat' (first | exact trivial | exact ⟨rfl⟩ | refine And.intro ?_ ?_))⟩
  · have h := exit_s h
    refine ob_t ?_
    exact ret_s h (fun e => by subst e; exact (by repeat' (first | exact trivial | exact ⟨rfl⟩ | refine And.intro ?_ ?_)))
set_option maxRecDepth 100000 in
theorem G_decay_energy_ok : SpecOK Tryz.prog 87 true (pureT y151 y152) := by
  refine pureT_ok (sp := (sp_117 sp0)) (fn := Tryz.f87) (body := bodyOf Tryz.f87) mixed (sp_117_ok sp0_ok) Tryz.func87 (by kernel_rfl) (by kernel_rfl) fun ls t h ho b hb => ?_
  unfold y152 at h
  split at h
  · rename_i u11 u12 u13 u14 u9 u15 u37 wTo
    cases h
    obtain rfl := bld_eq hb
    exact ⟨Nat.le_of_ble_eq_true (by kernel_rfl), _, _, G_decay_energy_vc u11 u12 u13 u14 u9 u15 u37 wTo _ (ok_some ho)⟩
  · cases h
theorem sp_87_ok {sp : Specs} (h : SpecsOK Tryz.prog sp) : SpecsOK Tryz.prog (sp_87 sp) := addK_ok G_decay_energy_ok h
def k_G_numberAt : List (Option Cont) := [none, none]
def y109 (u34 : Int) (u4 : Int) : Option Int :=
  Option.bind (G_ceil (IntKind.wrap .i64 (u4 * u34)) (1000000 : Int)) fun r0 =>
  some r0
def g_G_numberAt : List A → Option (Prop × List RV)
  | [.d (.i .i64 u34), .d (.i .i64 u4)] => some (ok (y109 u34 u4), [.d (.i .i64 ((val (y109 u34 u4))))])
  | _ => none
abbrev sp_129 : Specs → Specs := addK 129 true (pureK k_G_numberAt g_G_numberAt)
set_option maxRecDepth 100000 in
def G_numberAt_t (u34 : Int) (u4 : Int) : T (Int) :=
 .call (G_ceil (IntKind.wrap .i64 (u4 * u34)) (1000000 : Int)) fun r0 =>
  .obT
  (.ret (r0) (fun r => (Ob (r0 = r) ∧
 True)) ⟨⟨rfl⟩, trivial⟩)
set_option maxRecDepth 100000 in
theorem G_numberAt_vc (u34 : Int) (u4 : Int) (r : Int) (h : Option.bind (y109 u34 u4) some = some r) : runF Tryz.f129 ((sp_119 sp0)) (fun _ _ _ => none) [.d (.i .i64 u34), .d (.i .i64 u4)] [.d (.i .i64 r)] :=
  T.vc (t := G_numberAt_t u34 u4) (by kernel_rfl) (by kernel_rfl) h
set_option maxRecDepth 100000 in
theorem G_numberAt_ok : SpecOK Tryz.prog 129 true (pureK k_G_numberAt g_G_numberAt) := by
  refine pureK_ok (sp := (sp_119 sp0)) (fn := Tryz.f129) (body := bodyOf Tryz.f129) mixed (sp_119_ok sp0_ok) Tryz.func129 (by kernel_rfl) (by kernel_rfl) fun as_ ob rs h ho => ?_
  unfold g_G_numberAt at h
  split at h
  · rename_i u34 u4
    cases h
    exact ⟨Nat.le_of_ble_eq_true rfl, _, _, G_numberAt_vc u34 u4 _ (ok_some ho)⟩
  · cases h
theorem sp_129_ok {sp : Specs} (h : SpecsOK Tryz.prog sp) : SpecsOK Tryz.prog (sp_129 sp) := addK_ok G_numberAt_ok h
def k_G_decay_cut : List SV := [.c (.p [.d, .r (.floats .f32 []), .d, .d, .r (.recs 2 []), .r (.recs 2 [])]), .c (.d)]
def y53 (u11 : Int) (u12 : List Nat) (u13 : Int) (u14 : Int) (u9 : List (List Int)) (u15 : List (List Int)) (u4 : Int) : Option Int :=
  Option.bind (y109 u11 u4) fun r0 =>
  some (if r0 < (↑(List.length u9) : Int) then r0 else (↑(List.length u9) : Int))
def g_G_decay_cut : List Lf → Option GT
  | [.d (.i .i64 u11), .r (.floats .f32 u12), .d (.i .i64 u13), .d (.i .i64 u14), .r (.recs 2 u9), .r (.recs 2 u15), .d (.i .i64 u4)] => some (.leaf (ok (y53 u11 u12 u13 u14 u9 u15 u4)) [.c (.d (.i .i64 ((val (y53 u11 u12 u13 u14 u9 u15 u4)))))])
  | _ => none
abbrev sp_88 : Specs → Specs := addK 88 true (pureT k_G_decay_cut g_G_decay_cut)
set_option maxRecDepth 100000 in
def G_decay_cut_t (u11 : Int) (u12 : List Nat) (u13 : Int) (u14 : Int) (u9 : List (List Int)) (u15 : List (List Int)) (u4 : Int) : T (Int) :=
 .obT
  (.obT
  (.call (y109 u11 u4) fun r0 =>
  .obT
  (.ret ((if r0 < (↑(List.length u9) : Int) then r0 else (↑(List.length u9) : Int))) (fun r => (Ob ((if r0 < (↑(List.length u9) : Int) then r0 else (↑(List.length u9) : Int)) = r) ∧
 True)) ⟨⟨rfl⟩, trivial⟩)))
set_option maxRecDepth 100000 in
theorem G_decay_cut_vc (u11 : Int) (u12 : List Nat) (u13 : Int) (u14 : Int) (u9 : List (List Int)) (u15 : List (List Int)) (u4 : Int) (r : Int) (h : Option.bind (y53 u11 u12 u13 u14 u9 u15 u4) some = some r) : runT Tryz.f88 ((sp_129 sp0)) (fun _ _ _ => none) (bldD k_G_decay_cut [.d (.i .i64 u11), .r (.floats .f32 u12), .d (.i .i64 u13), .d (.i .i64 u14), .r (.recs 2 u9), .r (.recs 2 u15), .d (.i .i64 u4)]) [.c (.d (.i .i64 r))] :=
  T.vc (t := G_decay_cut_t u11 u12 u13 u14 u9 u15 u4) (by kernel_rfl) (by kernel_rfl) h
set_option maxRecDepth 100000 in
theorem G_decay_cut_ok : SpecOK Tryz.prog 88 true (pureT k_G_decay_cut g_G_decay_cut) := by
  refine pureT_ok (sp := (sp_129 sp0)) (fn := Tryz.f88) (body := bodyOf Tryz.f88) mixed (sp_129_ok sp0_ok) Tryz.func88 (by kernel_rfl) (by kernel_rfl) fun ls t h ho b hb => ?_
  unfold g_G_decay_cut at h
  split at h
  · rename_i u11 u12 u13 u14 u9 u15 u4
    cases h
    obtain rfl := bld_eq hb
    exact ⟨Nat.le_of_ble_eq_true (by kernel_rfl), _, _, G_decay_cut_vc u11 u12 u13 u14 u9 u15 u4 _ (ok_some ho)⟩
  · cases h
theorem sp_88_ok {sp : Specs} (h : SpecsOK Tryz.prog sp) : SpecsOK Tryz.prog (sp_88 sp) := addK_ok G_decay_cut_ok h
def y153 : List SV := [.c (.p [.d, .r (.floats .f32 []), .d, .d, .r (.recs 2 []), .r (.recs 2 [])]), .c (.d)]
def y34 (u9 : List (List Int)) (u35 : Int) (x0 : (Int × Int × Int)) : Option ((Int × Int × Int) ⊕ (Int × Int)) :=
  if x0.2.2 < (↑(List.length u9) : Int) then
   if (0 : Int) ≤ x0.2.2 ∧ x0.2.2 < (↑(List.length u9) : Int) then
    if Int.toNat x0.2.2 < List.length u9 then
     if u35 ≠ (0 : Int) then
      if (Int.tmod (IntKind.wrap .i64 (Int.tdiv x0.2.2 u35)) (4 : Int) == (0 : Int)) = true then
       some (.inl ((IntKind.wrap .i64 (x0.1 + List.getD (List.getD u9 (Int.toNat x0.2.2) []) (0 : Nat) (0 : Int)), x0.2.1, IntKind.wrap .i64 (x0.2.2 + (1 : Int)))))
      else
       if (Int.tmod (IntKind.wrap .i64 (Int.tdiv x0.2.2 u35)) (4 : Int) == (1 : Int)) = true then
        some (.inl ((x0.1, IntKind.wrap .i64 (x0.2.1 - List.getD (List.getD u9 (Int.toNat x0.2.2) []) (0 : Nat) (0 : Int)), IntKind.wrap .i64 (x0.2.2 + (1 : Int)))))
       else
        if (Int.tmod (IntKind.wrap .i64 (Int.tdiv x0.2.2 u35)) (4 : Int) == (2 : Int)) = true then
         some (.inl ((IntKind.wrap .i64 (x0.1 - List.getD (List.getD u9 (Int.toNat x0.2.2) []) (0 : Nat) (0 : Int)), x0.2.1, IntKind.wrap .i64 (x0.2.2 + (1 : Int)))))
        else
         if (Int.tmod (IntKind.wrap .i64 (Int.tdiv x0.2.2 u35)) (4 : Int) == (3 : Int)) = true then
          some (.inl ((x0.1, IntKind.wrap .i64 (x0.2.1 + List.getD (List.getD u9 (Int.toNat x0.2.2) []) (0 : Nat) (0 : Int)), IntKind.wrap .i64 (x0.2.2 + (1 : Int)))))
         else
          some (.inl ((x0.1, x0.2.1, IntKind.wrap .i64 (x0.2.2 + (1 : Int)))))
     else none
    else none
   else none
  else
   some (.inr (x0.1, x0.2.1))
def y35 (u16 : Int × Int) : Option (Int × Int) :=
  some (u16.1, u16.2)
def y95 (u11 : Int) (u12 : List Nat) (u13 : Int) (u14 : Int) (u9 : List (List Int)) (u15 : List (List Int)) (u35 : Int) : Option (Int × Int) :=
  Option.bind (iter (y34 u9 u35) big (((0 : Int), (0 : Int), (0 : Int)))) (y35)
def y154 : List Lf → Option GT
  | [.d (.i .i64 u11), .r (.floats .f32 u12), .d (.i .i64 u13), .d (.i .i64 u14), .r (.recs 2 u9), .r (.recs 2 u15), .d (.i .i64 u35)] => some (.leaf (ok (y95 u11 u12 u13 u14 u9 u15 u35)) [.c (.d (.i .i64 ((val (y95 u11 u12 u13 u14 u9 u15 u35)).1))), .c (.d (.i .i64 ((val (y95 u11 u12 u13 u14 u9 u15 u35)).2)))])
  | _ => none
abbrev sp_92 : Specs → Specs := addK 92 true (pureT y153 y154)
set_option maxRecDepth 100000 in
theorem G_decay_turned_vc (u11 : Int) (u12 : List Nat) (u13 : Int) (u14 : Int) (u9 : List (List Int)) (u15 : List (List Int)) (u35 : Int) (r : Int × Int) (h : Option.bind (y95 u11 u12 u13 u14 u9 u15 u35) some = some r) : runT Tryz.f92 (sp0) (fun gs id _ => match id with
 | 0 => some ⟨(Int × Int × Int) × Nat, fun z => ⟨[(1, .w (.c (.d (.i .i64 u35)))), (4, .w (.c (.d (.i .i64 (Prod.fst (Prod.fst z)))))), (5, .w (.c (.d (.i .i64 (Prod.fst (Prod.snd (Prod.fst z))))))), (11, .w (.c (.o 1))), (12, .w (.c (.d (.i .i64 ((↑(List.length u9) : Int)))))), (13, .w (.c (.d (.i .i64 (Prod.snd (Prod.snd (Prod.fst z)))))))], [(1, .ext (.recs 2 u9))], 4⟩, fun z => Option.bind (iter (y34 u9 u35) (Prod.snd z) (Prod.fst z)) (fun y0 => Option.bind (y35 y0) some) = some r, fun z => Prod.snd z⟩
 | _ => none) (bldD y153 [.d (.i .i64 u11), .r (.floats .f32 u12), .d (.i .i64 u13), .d (.i .i64 u14), .r (.recs 2 u9), .r (.recs 2 u15), .d (.i .i64 u35)]) [.c (.d (.i .i64 r.1)), .c (.d (.i .i64 r.2))] := by
  refine Eq.mp (by kernel_rfl : (
 (Ob (True) ∧
   ((∃ (v0 : (Int × Int × Int) × Nat), (Ob ((Option.bind (iter (y34 u9 u35) v0.2 v0.1) fun y0 => Option.bind (y35 y0) some) = some r) ∧
 (Ob (u35 = u35) ∧
 (Ob ((0 : Int) = v0.1.1) ∧
 (Ob ((0 : Int) = v0.1.2.1) ∧
 (Ob ((↑(List.length u9) : Int) = (↑(List.length u9) : Int)) ∧
 (Ob ((0 : Int) = v0.1.2.2) ∧
 (Ob (u9 = u9) ∧
 True)))))))) ∧
   (∀ (v0 : (Int × Int × Int) × Nat), ((Option.bind (iter (y34 u9 u35) v0.2 v0.1) fun y0 => Option.bind (y35 y0) some) = some r →
 Br (decide (v0.1.2.2 < (↑(List.length u9) : Int)))
   ((Ob ((0 : Int) ≤ v0.1.2.2 ∧ v0.1.2.2 < (↑(List.length u9) : Int)) ∧
 (Ob (Int.toNat v0.1.2.2 < List.length u9) ∧
 (Ob (u35 ≠ (0 : Int)) ∧
 (Ob ((4 : Int) ≠ (0 : Int)) ∧
 Br (Int.tmod (IntKind.wrap .i64 (Int.tdiv v0.1.2.2 u35)) (4 : Int) == (0 : Int))
   ((∃ (v1 : (Int × Int × Int) × Nat), (Ob ((Option.bind (iter (y34 u9 u35) v1.2 v1.1) fun y0 => Option.bind (y35 y0) some) = some r) ∧
 (Ob (v1.2 < v0.2) ∧
 (Ob (u35 = u35) ∧
 (Ob (IntKind.wrap .i64 (v0.1.1 + List.getD (List.getD u9 (Int.toNat v0.1.2.2) []) (0 : Nat) (0 : Int)) = v1.1.1) ∧
 (Ob (v0.1.2.1 = v1.1.2.1) ∧
 (Ob ((↑(List.length u9) : Int) = (↑(List.length u9) : Int)) ∧
 (Ob (IntKind.wrap .i64 (v0.1.2.2 + (1 : Int)) = v1.1.2.2) ∧
 (Ob (u9 = u9) ∧
 True))))))))))
 (Br (Int.tmod (IntKind.wrap .i64 (Int.tdiv v0.1.2.2 u35)) (4 : Int) == (1 : Int))
   ((∃ (v1 : (Int × Int × Int) × Nat), (Ob ((Option.bind (iter (y34 u9 u35) v1.2 v1.1) fun y0 => Option.bind (y35 y0) some) = some r) ∧
 (Ob (v1.2 < v0.2) ∧
 (Ob (u35 = u35) ∧
 (Ob (v0.1.1 = v1.1.1) ∧
 (Ob (IntKind.wrap .i64 (v0.1.2.1 - List.getD (List.getD u9 (Int.toNat v0.1.2.2) []) (0 : Nat) (0 : Int)) = v1.1.2.1) ∧
 (Ob ((↑(List.length u9) : Int) = (↑(List.length u9) : Int)) ∧
 (Ob (IntKind.wrap .i64 (v0.1.2.2 + (1 : Int)) = v1.1.2.2) ∧
 (Ob (u9 = u9) ∧
 True))))))))))
 (Br (Int.tmod (IntKind.wrap .i64 (Int.tdiv v0.1.2.2 u35)) (4 : Int) == (2 : Int))
   ((∃ (v1 : (Int × Int × Int) × Nat), (Ob ((Option.bind (iter (y34 u9 u35) v1.2 v1.1) fun y0 => Option.bind (y35 y0) some) = some r) ∧
 (Ob (v1.2 < v0.2) ∧
 (Ob (u35 = u35) ∧
 (Ob (IntKind.wrap .i64 (v0.1.1 - List.getD (List.getD u9 (Int.toNat v0.1.2.2) []) (0 : Nat) (0 : Int)) = v1.1.1) ∧
 (Ob (v0.1.2.1 = v1.1.2.1) ∧
 (Ob ((↑(List.length u9) : Int) = (↑(List.length u9) : Int)) ∧
 (Ob (IntKind.wrap .i64 (v0.1.2.2 + (1 : Int)) = v1.1.2.2) ∧
 (Ob (u9 = u9) ∧
 True))))))))))
 (Br (Int.tmod (IntKind.wrap .i64 (Int.tdiv v0.1.2.2 u35)) (4 : Int) == (3 : Int))
   ((∃ (v1 : (Int × Int × Int) × Nat), (Ob ((Option.bind (iter (y34 u9 u35) v1.2 v1.1) fun y0 => Option.bind (y35 y0) some) = some r) ∧
 (Ob (v1.2 < v0.2) ∧
 (Ob (u35 = u35) ∧
 (Ob (v0.1.1 = v1.1.1) ∧
 (Ob (IntKind.wrap .i64 (v0.1.2.1 + List.getD (List.getD u9 (Int.toNat v0.1.2.2) []) (0 : Nat) (0 : Int)) = v1.1.2.1) ∧
 (Ob ((↑(List.length u9) : Int) = (↑(List.length u9) : Int)) ∧
 (Ob (IntKind.wrap .i64 (v0.1.2.2 + (1 : Int)) = v1.1.2.2) ∧
 (Ob (u9 = u9) ∧
 True))))))))))
   ((∃ (v1 : (Int × Int × Int) × Nat), (Ob ((Option.bind (iter (y34 u9 u35) v1.2 v1.1) fun y0 => Option.bind (y35 y0) some) = some r) ∧
 (Ob (v1.2 < v0.2) ∧
 (Ob (u35 = u35) ∧
 (Ob (v0.1.1 = v1.1.1) ∧
 (Ob (v0.1.2.1 = v1.1.2.1) ∧
 (Ob ((↑(List.length u9) : Int) = (↑(List.length u9) : Int)) ∧
 (Ob (IntKind.wrap .i64 (v0.1.2.2 + (1 : Int)) = v1.1.2.2) ∧
 (Ob (u9 = u9) ∧
 True))))))))))))))))))
   ((Ob (True) ∧
 (Ob (True) ∧
 (Ob (v0.1.1 = r.1) ∧
 (Ob (v0.1.2.1 = r.2) ∧
 True)))))))))) = _) ?_
  refine ob_t ?_
  refine ⟨⟨(((0 : Int), (0 : Int), (0 : Int)), big), ⟨loop_s h⟩, (by repeat' (first | exact trivial | exact ⟨rfl⟩ | refine And.intro ?_ ?_))⟩, fun z0 hz0 => ?_⟩
  obtain ⟨k0, hm0, h⟩ := iter_pos hz0
  refine br_d h (fun h => ?_) (fun h => ?_)
  · refine ob_s h fun h => ?_
    refine ob_s h fun h => ?_
    refine ob_s h fun h => ?_
    refine ob_c (p := (4 : Int) ≠ (0 : Int)) (by decide) ?_
    refine br_b h (fun h => ?_) (fun h => ?_)
    · exact ⟨((IntKind.wrap .i64 ((Prod.fst z0).1 + List.getD (List.getD u9 (Int.toNat (Prod.fst z0).2.2) []) (0 : Nat) (0 : Int)), (Prod.fst z0).2.1, IntKind.wrap .i64 ((Prod.fst z0).2.2 + (1 : Int))), k0), ⟨next_s h⟩, ⟨lt_gs hm0.symm⟩, (by repeat' (first | exact trivial | exact ⟨rfl⟩ | refine And.intro ?_ ?_))⟩
    · refine br_b h (fun h => ?_) (fun h => ?_)
      · exact ⟨(((Prod.fst z0).1, IntKind.wrap .i64 ((Prod.fst z0).2.1 - List.getD (List.getD u9 (Int.toNat (Prod.fst z0).2.2) []) (0 : Nat) (0 : Int)), IntKind.wrap .i64 ((Prod.fst z0).2.2 + (1 : Int))), k0), ⟨next_s h⟩, ⟨lt_gs hm0.symm⟩, (by repeat' (first | exact trivial | exact ⟨rfl⟩ | refine And.intro ?_ ?_))⟩
      · refine br_b h (fun h => ?_) (fun h => ?_)
        · exact ⟨((IntKind.wrap .i64 ((Prod.fst z0).1 - List.getD (List.getD u9 (Int.toNat (Prod.fst z0).2.2) []) (0 : Nat) (0 : Int)), (Prod.fst z0).2.1, IntKind.wrap .i64 ((Prod.fst z0).2.2 + (1 : Int))), k0), ⟨next_s h⟩, ⟨lt_gs hm0.symm⟩, (by repeat' (first | exact trivial | exact ⟨rfl⟩ | refine And.intro ?_ ?_))⟩
        · refine br_b h (fun h => ?_) (fun h => ?_)
          · exact ⟨(((Prod.fst z0).1, IntKind.wrap .i64 ((Prod.fst z0).2.1 + List.getD (List.getD u9 (Int.toNat (Prod.fst z0).2.2) []) (0 : Nat) (0 : Int)), IntKind.wrap .i64 ((Prod.fst z0).2.2 + (1 : Int))), k0), ⟨next_s h⟩, ⟨lt_gs hm0.symm⟩, (by repeat' (first | exact trivial | exact ⟨rfl⟩ | refine And.intro ?_ ?_))⟩
          · exact ⟨(((Prod.fst z0).1, (Prod.fst z0).2.1, IntKind.wrap .i64 ((Prod.fst z0).2.2 + (1 : Int))), k0), ⟨next_s h⟩, ⟨lt_gs hm0.symm⟩, (by repeat' (first | exact trivial | exact ⟨rfl⟩ | refine And.intro ?_ ?_))⟩
  · have h := exit_s h
    refine ob_t ?_
    refine ob_t ?_
    exact ret_s h (fun e => by subst e; exact (by repeat' (first | exact trivial | exact ⟨rfl⟩ | refine And.intro ?_ ?_)))
set_option maxRecDepth 100000 in
theorem G_decay_turned_ok : SpecOK Tryz.prog 92 true (pureT y153 y154) := by
  refine pureT_ok (sp := sp0) (fn := Tryz.f92) (body := bodyOf Tryz.f92) mixed sp0_ok Tryz.func92 (by kernel_rfl) (by kernel_rfl) fun ls t h ho b hb => ?_
  unfold y154 at h
  split at h
  · rename_i u11 u12 u13 u14 u9 u15 u35
    cases h
    obtain rfl := bld_eq hb
    exact ⟨Nat.le_of_ble_eq_true (by kernel_rfl), _, _, G_decay_turned_vc u11 u12 u13 u14 u9 u15 u35 _ (ok_some ho)⟩
  · cases h
theorem sp_92_ok {sp : Specs} (h : SpecsOK Tryz.prog sp) : SpecsOK Tryz.prog (sp_92 sp) := addK_ok G_decay_turned_ok h
def k_G_LevelOf_1 : List (Option Cont) := [none]
def y73 (n : Int) : Option Bool :=
  Option.bind (y8 n (1 : Int) (10000000000000 : Int)) fun r0 =>
  some r0
def g_G_LevelOf_1 : List A → Option (Prop × List RV)
  | [.d (.i .i64 n)] => some (ok (y73 n), [.d (.b ((val (y73 n))))])
  | _ => none
abbrev sp_144 : Specs → Specs := addK 144 true (pureK k_G_LevelOf_1 g_G_LevelOf_1)
set_option maxRecDepth 100000 in
def G_LevelOf_1_t (n : Int) : T (Bool) :=
 .call (y8 n (1 : Int) (10000000000000 : Int)) fun r0 =>
  .obT
  (.ret (r0) (fun r => (Ob (r0 = r) ∧
 True)) ⟨⟨rfl⟩, trivial⟩)
set_option maxRecDepth 100000 in
theorem G_LevelOf_1_vc (n : Int) (r : Bool) (h : Option.bind (y73 n) some = some r) : runF Tryz.f144 ((sp_68 sp0)) (fun _ _ _ => none) [.d (.i .i64 n)] [.d (.b r)] :=
  T.vc (t := G_LevelOf_1_t n) (by kernel_rfl) (by kernel_rfl) h
set_option maxRecDepth 100000 in
theorem G_LevelOf_1_ok : SpecOK Tryz.prog 144 true (pureK k_G_LevelOf_1 g_G_LevelOf_1) := by
  refine pureK_ok (sp := (sp_68 sp0)) (fn := Tryz.f144) (body := bodyOf Tryz.f144) mixed (sp_68_ok sp0_ok) Tryz.func144 (by kernel_rfl) (by kernel_rfl) fun as_ ob rs h ho => ?_
  unfold g_G_LevelOf_1 at h
  split at h
  · rename_i n
    cases h
    exact ⟨Nat.le_of_ble_eq_true rfl, _, _, G_LevelOf_1_vc n _ (ok_some ho)⟩
  · cases h
theorem sp_144_ok {sp : Specs} (h : SpecsOK Tryz.prog sp) : SpecsOK Tryz.prog (sp_144 sp) := addK_ok G_LevelOf_1_ok h
def k_G_LevelOf_2 : List (Option Cont) := [none, none]
def y74 (a : Int) (b : Int) : Option Bool :=
  if b ≤ (10000 : Int) then
   some (decide (a > IntKind.wrap .i64 (b * (1000000000 : Int))))
  else
   some false
def g_G_LevelOf_2 : List A → Option (Prop × List RV)
  | [.d (.i .i64 a), .d (.i .i64 b)] => some (ok (y74 a b), [.d (.b ((val (y74 a b))))])
  | _ => none
abbrev sp_145 : Specs → Specs := addK 145 true (pureK k_G_LevelOf_2 g_G_LevelOf_2)
set_option maxRecDepth 100000 in
def G_LevelOf_2_t (a : Int) (b : Int) : T (Bool) :=
 .brP (b ≤ (10000 : Int))
  (.obT
  (.ret ((decide (a > IntKind.wrap .i64 (b * (1000000000 : Int))))) (fun r => (Ob (decide (a > IntKind.wrap .i64 (b * (1000000000 : Int))) = r) ∧
 True)) ⟨⟨rfl⟩, trivial⟩))
  (.obT
  (.ret (false) (fun r => (Ob (false = r) ∧
 True)) ⟨⟨rfl⟩, trivial⟩))
set_option maxRecDepth 100000 in
theorem G_LevelOf_2_vc (a : Int) (b : Int) (r : Bool) (h : Option.bind (y74 a b) some = some r) : runF Tryz.f145 (sp0) (fun _ _ _ => none) [.d (.i .i64 a), .d (.i .i64 b)] [.d (.b r)] :=
  T.vc (t := G_LevelOf_2_t a b) (by kernel_rfl) (by kernel_rfl) h
set_option maxRecDepth 100000 in
theorem G_LevelOf_2_ok : SpecOK Tryz.prog 145 true (pureK k_G_LevelOf_2 g_G_LevelOf_2) := by
  refine pureK_ok (sp := sp0) (fn := Tryz.f145) (body := bodyOf Tryz.f145) mixed sp0_ok Tryz.func145 (by kernel_rfl) (by kernel_rfl) fun as_ ob rs h ho => ?_
  unfold g_G_LevelOf_2 at h
  split at h
  · rename_i a b
    cases h
    exact ⟨Nat.le_of_ble_eq_true rfl, _, _, G_LevelOf_2_vc a b _ (ok_some ho)⟩
  · cases h
theorem sp_145_ok {sp : Specs} (h : SpecsOK Tryz.prog sp) : SpecsOK Tryz.prog (sp_145 sp) := addK_ok G_LevelOf_2_ok h
def k_G_ratio_compare : List (Option Cont) := [none, none, none]
def y44 (u24 : Int) (u25 : Int) (u40 : Int) (u41 : Int) : Option Int :=
  if u41 ≥ (0 : Int) then
   if (0 : Int) ≤ u41 ∧ u41 < (↑(13 : Nat) : Int) then
    if Int.toNat u41 < List.length powersT then
     Option.bind (y9 (IntKind.wrap .u64 (u40 * List.getD powersT (Int.toNat u41) (0 : Int))) u25) fun r0 =>
     Option.bind (y9 (1000000000 : Int) u24) fun r1 =>
     Option.bind (y22 [IntKind.wrap .u64 (IntKind.wrap .u64 (IntKind.wrap .u64 (Int.fdiv (IntKind.wrap .u64 (u40 * List.getD powersT (Int.toNat u41) (0 : Int))) ((2 : Int) ^ min (32 : Nat) (IntKind.bits .u64)) * Int.fdiv u25 ((2 : Int) ^ min (32 : Nat) (IntKind.bits .u64))) + Int.fdiv (IntKind.wrap .u64 (IntKind.wrap .u64 (Int.fdiv (IntKind.wrap .u64 (u40 * List.getD powersT (Int.toNat u41) (0 : Int))) ((2 : Int) ^ min (32 : Nat) (IntKind.bits .u64)) * IntKind.wrap .u64 (↑(BitVec.toNat (BitVec.ofInt (IntKind.bits .u64) u25 &&& BitVec.ofInt (IntKind.bits .u64) (4294967295 : Int))) : Int)) + Int.fdiv (IntKind.wrap .u64 (IntKind.wrap .u64 (↑(BitVec.toNat (BitVec.ofInt (IntKind.bits .u64) (IntKind.wrap .u64 (u40 * List.getD powersT (Int.toNat u41) (0 : Int))) &&& BitVec.ofInt (IntKind.bits .u64) (4294967295 : Int))) : Int) * IntKind.wrap .u64 (↑(BitVec.toNat (BitVec.ofInt (IntKind.bits .u64) u25 &&& BitVec.ofInt (IntKind.bits .u64) (4294967295 : Int))) : Int))) ((2 : Int) ^ min (32 : Nat) (IntKind.bits .u64)))) ((2 : Int) ^ min (32 : Nat) (IntKind.bits .u64))) + Int.fdiv (IntKind.wrap .u64 (IntKind.wrap .u64 (↑(BitVec.toNat (BitVec.ofInt (IntKind.bits .u64) (IntKind.wrap .u64 (IntKind.wrap .u64 (Int.fdiv (IntKind.wrap .u64 (u40 * List.getD powersT (Int.toNat u41) (0 : Int))) ((2 : Int) ^ min (32 : Nat) (IntKind.bits .u64)) * IntKind.wrap .u64 (↑(BitVec.toNat (BitVec.ofInt (IntKind.bits .u64) u25 &&& BitVec.ofInt (IntKind.bits .u64) (4294967295 : Int))) : Int)) + Int.fdiv (IntKind.wrap .u64 (IntKind.wrap .u64 (↑(BitVec.toNat (BitVec.ofInt (IntKind.bits .u64) (IntKind.wrap .u64 (u40 * List.getD powersT (Int.toNat u41) (0 : Int))) &&& BitVec.ofInt (IntKind.bits .u64) (4294967295 : Int))) : Int) * IntKind.wrap .u64 (↑(BitVec.toNat (BitVec.ofInt (IntKind.bits .u64) u25 &&& BitVec.ofInt (IntKind.bits .u64) (4294967295 : Int))) : Int))) ((2 : Int) ^ min (32 : Nat) (IntKind.bits .u64)))) &&& BitVec.ofInt (IntKind.bits .u64) (4294967295 : Int))) : Int) + IntKind.wrap .u64 (IntKind.wrap .u64 (↑(BitVec.toNat (BitVec.ofInt (IntKind.bits .u64) (IntKind.wrap .u64 (u40 * List.getD powersT (Int.toNat u41) (0 : Int))) &&& BitVec.ofInt (IntKind.bits .u64) (4294967295 : Int))) : Int) * Int.fdiv u25 ((2 : Int) ^ min (32 : Nat) (IntKind.bits .u64))))) ((2 : Int) ^ min (32 : Nat) (IntKind.bits .u64))), IntKind.wrap .u64 (IntKind.wrap .u64 (u40 * List.getD powersT (Int.toNat u41) (0 : Int)) * u25)] [IntKind.wrap .u64 (IntKind.wrap .u64 (IntKind.wrap .u64 (Int.fdiv (1000000000 : Int) ((2 : Int) ^ min (32 : Nat) (IntKind.bits .u64)) * Int.fdiv u24 ((2 : Int) ^ min (32 : Nat) (IntKind.bits .u64))) + Int.fdiv (IntKind.wrap .u64 (IntKind.wrap .u64 (Int.fdiv (1000000000 : Int) ((2 : Int) ^ min (32 : Nat) (IntKind.bits .u64)) * IntKind.wrap .u64 (↑(BitVec.toNat (BitVec.ofInt (IntKind.bits .u64) u24 &&& BitVec.ofInt (IntKind.bits .u64) (4294967295 : Int))) : Int)) + Int.fdiv (IntKind.wrap .u64 ((1000000000 : Int) * IntKind.wrap .u64 (↑(BitVec.toNat (BitVec.ofInt (IntKind.bits .u64) u24 &&& BitVec.ofInt (IntKind.bits .u64) (4294967295 : Int))) : Int))) ((2 : Int) ^ min (32 : Nat) (IntKind.bits .u64)))) ((2 : Int) ^ min (32 : Nat) (IntKind.bits .u64))) + Int.fdiv (IntKind.wrap .u64 (IntKind.wrap .u64 (↑(BitVec.toNat (BitVec.ofInt (IntKind.bits .u64) (IntKind.wrap .u64 (IntKind.wrap .u64 (Int.fdiv (1000000000 : Int) ((2 : Int) ^ min (32 : Nat) (IntKind.bits .u64)) * IntKind.wrap .u64 (↑(BitVec.toNat (BitVec.ofInt (IntKind.bits .u64) u24 &&& BitVec.ofInt (IntKind.bits .u64) (4294967295 : Int))) : Int)) + Int.fdiv (IntKind.wrap .u64 ((1000000000 : Int) * IntKind.wrap .u64 (↑(BitVec.toNat (BitVec.ofInt (IntKind.bits .u64) u24 &&& BitVec.ofInt (IntKind.bits .u64) (4294967295 : Int))) : Int))) ((2 : Int) ^ min (32 : Nat) (IntKind.bits .u64)))) &&& BitVec.ofInt (IntKind.bits .u64) (4294967295 : Int))) : Int) + IntKind.wrap .u64 ((1000000000 : Int) * Int.fdiv u24 ((2 : Int) ^ min (32 : Nat) (IntKind.bits .u64))))) ((2 : Int) ^ min (32 : Nat) (IntKind.bits .u64))), IntKind.wrap .u64 ((1000000000 : Int) * u24)]) fun r2 =>
     some r2
    else none
   else none
  else
   if (0 : Int) ≤ IntKind.wrap .i64 ((0 : Int) - u41) ∧ IntKind.wrap .i64 ((0 : Int) - u41) < (↑(13 : Nat) : Int) then
    if Int.toNat (IntKind.wrap .i64 ((0 : Int) - u41)) < List.length powersT then
     Option.bind (y9 u40 u25) fun r3 =>
     Option.bind (y9 (IntKind.wrap .u64 ((1000000000 : Int) * List.getD powersT (Int.toNat (IntKind.wrap .i64 ((0 : Int) - u41))) (0 : Int))) u24) fun r4 =>
     Option.bind (y22 [IntKind.wrap .u64 (IntKind.wrap .u64 (IntKind.wrap .u64 (Int.fdiv u40 ((2 : Int) ^ min (32 : Nat) (IntKind.bits .u64)) * Int.fdiv u25 ((2 : Int) ^ min (32 : Nat) (IntKind.bits .u64))) + Int.fdiv (IntKind.wrap .u64 (IntKind.wrap .u64 (Int.fdiv u40 ((2 : Int) ^ min (32 : Nat) (IntKind.bits .u64)) * IntKind.wrap .u64 (↑(BitVec.toNat (BitVec.ofInt (IntKind.bits .u64) u25 &&& BitVec.ofInt (IntKind.bits .u64) (4294967295 : Int))) : Int)) + Int.fdiv (IntKind.wrap .u64 (IntKind.wrap .u64 (↑(BitVec.toNat (BitVec.ofInt (IntKind.bits .u64) u40 &&& BitVec.ofInt (IntKind.bits .u64) (4294967295 : Int))) : Int) * IntKind.wrap .u64 (↑(BitVec.toNat (BitVec.ofInt (IntKind.bits .u64) u25 &&& BitVec.ofInt (IntKind.bits .u64) (4294967295 : Int))) : Int))) ((2 : Int) ^ min (32 : Nat) (IntKind.bits .u64)))) ((2 : Int) ^ min (32 : Nat) (IntKind.bits .u64))) + Int.fdiv (IntKind.wrap .u64 (IntKind.wrap .u64 (↑(BitVec.toNat (BitVec.ofInt (IntKind.bits .u64) (IntKind.wrap .u64 (IntKind.wrap .u64 (Int.fdiv u40 ((2 : Int) ^ min (32 : Nat) (IntKind.bits .u64)) * IntKind.wrap .u64 (↑(BitVec.toNat (BitVec.ofInt (IntKind.bits .u64) u25 &&& BitVec.ofInt (IntKind.bits .u64) (4294967295 : Int))) : Int)) + Int.fdiv (IntKind.wrap .u64 (IntKind.wrap .u64 (↑(BitVec.toNat (BitVec.ofInt (IntKind.bits .u64) u40 &&& BitVec.ofInt (IntKind.bits .u64) (4294967295 : Int))) : Int) * IntKind.wrap .u64 (↑(BitVec.toNat (BitVec.ofInt (IntKind.bits .u64) u25 &&& BitVec.ofInt (IntKind.bits .u64) (4294967295 : Int))) : Int))) ((2 : Int) ^ min (32 : Nat) (IntKind.bits .u64)))) &&& BitVec.ofInt (IntKind.bits .u64) (4294967295 : Int))) : Int) + IntKind.wrap .u64 (IntKind.wrap .u64 (↑(BitVec.toNat (BitVec.ofInt (IntKind.bits .u64) u40 &&& BitVec.ofInt (IntKind.bits .u64) (4294967295 : Int))) : Int) * Int.fdiv u25 ((2 : Int) ^ min (32 : Nat) (IntKind.bits .u64))))) ((2 : Int) ^ min (32 : Nat) (IntKind.bits .u64))), IntKind.wrap .u64 (u40 * u25)] [IntKind.wrap .u64 (IntKind.wrap .u64 (IntKind.wrap .u64 (Int.fdiv (IntKind.wrap .u64 ((1000000000 : Int) * List.getD powersT (Int.toNat (IntKind.wrap .i64 ((0 : Int) - u41))) (0 : Int))) ((2 : Int) ^ min (32 : Nat) (IntKind.bits .u64)) * Int.fdiv u24 ((2 : Int) ^ min (32 : Nat) (IntKind.bits .u64))) + Int.fdiv (IntKind.wrap .u64 (IntKind.wrap .u64 (Int.fdiv (IntKind.wrap .u64 ((1000000000 : Int) * List.getD powersT (Int.toNat (IntKind.wrap .i64 ((0 : Int) - u41))) (0 : Int))) ((2 : Int) ^ min (32 : Nat) (IntKind.bits .u64)) * IntKind.wrap .u64 (↑(BitVec.toNat (BitVec.ofInt (IntKind.bits .u64) u24 &&& BitVec.ofInt (IntKind.bits .u64) (4294967295 : Int))) : Int)) + Int.fdiv (IntKind.wrap .u64 (IntKind.wrap .u64 (↑(BitVec.toNat (BitVec.ofInt (IntKind.bits .u64) (IntKind.wrap .u64 ((1000000000 : Int) * List.getD powersT (Int.toNat (IntKind.wrap .i64 ((0 : Int) - u41))) (0 : Int))) &&& BitVec.ofInt (IntKind.bits .u64) (4294967295 : Int))) : Int) * IntKind.wrap .u64 (↑(BitVec.toNat (BitVec.ofInt (IntKind.bits .u64) u24 &&& BitVec.ofInt (IntKind.bits .u64) (4294967295 : Int))) : Int))) ((2 : Int) ^ min (32 : Nat) (IntKind.bits .u64)))) ((2 : Int) ^ min (32 : Nat) (IntKind.bits .u64))) + Int.fdiv (IntKind.wrap .u64 (IntKind.wrap .u64 (↑(BitVec.toNat (BitVec.ofInt (IntKind.bits .u64) (IntKind.wrap .u64 (IntKind.wrap .u64 (Int.fdiv (IntKind.wrap .u64 ((1000000000 : Int) * List.getD powersT (Int.toNat (IntKind.wrap .i64 ((0 : Int) - u41))) (0 : Int))) ((2 : Int) ^ min (32 : Nat) (IntKind.bits .u64)) * IntKind.wrap .u64 (↑(BitVec.toNat (BitVec.ofInt (IntKind.bits .u64) u24 &&& BitVec.ofInt (IntKind.bits .u64) (4294967295 : Int))) : Int)) + Int.fdiv (IntKind.wrap .u64 (IntKind.wrap .u64 (↑(BitVec.toNat (BitVec.ofInt (IntKind.bits .u64) (IntKind.wrap .u64 ((1000000000 : Int) * List.getD powersT (Int.toNat (IntKind.wrap .i64 ((0 : Int) - u41))) (0 : Int))) &&& BitVec.ofInt (IntKind.bits .u64) (4294967295 : Int))) : Int) * IntKind.wrap .u64 (↑(BitVec.toNat (BitVec.ofInt (IntKind.bits .u64) u24 &&& BitVec.ofInt (IntKind.bits .u64) (4294967295 : Int))) : Int))) ((2 : Int) ^ min (32 : Nat) (IntKind.bits .u64)))) &&& BitVec.ofInt (IntKind.bits .u64) (4294967295 : Int))) : Int) + IntKind.wrap .u64 (IntKind.wrap .u64 (↑(BitVec.toNat (BitVec.ofInt (IntKind.bits .u64) (IntKind.wrap .u64 ((1000000000 : Int) * List.getD powersT (Int.toNat (IntKind.wrap .i64 ((0 : Int) - u41))) (0 : Int))) &&& BitVec.ofInt (IntKind.bits .u64) (4294967295 : Int))) : Int) * Int.fdiv u24 ((2 : Int) ^ min (32 : Nat) (IntKind.bits .u64))))) ((2 : Int) ^ min (32 : Nat) (IntKind.bits .u64))), IntKind.wrap .u64 (IntKind.wrap .u64 ((1000000000 : Int) * List.getD powersT (Int.toNat (IntKind.wrap .i64 ((0 : Int) - u41))) (0 : Int)) * u24)]) fun r5 =>
     some r5
    else none
   else none
def y140 : List A → Option (Prop × List RV)
  | [.s [.i .u64 u24, .i .u64 u25], .d (.i .u64 u40), .d (.i .i64 u41)] => some (ok (y44 u24 u25 u40 u41), [.d (.i .i64 ((val (y44 u24 u25 u40 u41))))])
  | _ => none
abbrev sp_165 : Specs → Specs := addK 165 true (pureK k_G_ratio_compare y140)
set_option maxRecDepth 100000 in
def G_ratio_compare_t (u24 : Int) (u25 : Int) (u40 : Int) (u41 : Int) : T (Int) :=
 .brP (u41 ≥ (0 : Int))
  (.obP ((0 : Int) ≤ u41 ∧ u41 < (↑(13 : Nat) : Int))
  (.obP (Int.toNat u41 < List.length powersT)
  (.call (y9 (IntKind.wrap .u64 (u40 * List.getD powersT (Int.toNat u41) (0 : Int))) u25) fun r0 =>
  .call (y9 (1000000000 : Int) u24) fun r1 =>
  .call (y22 [IntKind.wrap .u64 (IntKind.wrap .u64 (IntKind.wrap .u64 (Int.fdiv (IntKind.wrap .u64 (u40 * List.getD powersT (Int.toNat u41) (0 : Int))) ((2 : Int) ^ min (32 : Nat) (IntKind.bits .u64)) * Int.fdiv u25 ((2 : Int) ^ min (32 : Nat) (IntKind.bits .u64))) + Int.fdiv (IntKind.wrap .u64 (IntKind.wrap .u64 (Int.fdiv (IntKind.wrap .u64 (u40 * List.getD powersT (Int.toNat u41) (0 : Int))) ((2 : Int) ^ min (32 : Nat) (IntKind.bits .u64)) * IntKind.wrap .u64 (↑(BitVec.toNat (BitVec.ofInt (IntKind.bits .u64) u25 &&& BitVec.ofInt (IntKind.bits .u64) (4294967295 : Int))) : Int)) + Int.fdiv (IntKind.wrap .u64 (IntKind.wrap .u64 (↑(BitVec.toNat (BitVec.ofInt (IntKind.bits .u64) (IntKind.wrap .u64 (u40 * List.getD powersT (Int.toNat u41) (0 : Int))) &&& BitVec.ofInt (IntKind.bits .u64) (4294967295 : Int))) : Int) * IntKind.wrap .u64 (↑(BitVec.toNat (BitVec.ofInt (IntKind.bits .u64) u25 &&& BitVec.ofInt (IntKind.bits .u64) (4294967295 : Int))) : Int))) ((2 : Int) ^ min (32 : Nat) (IntKind.bits .u64)))) ((2 : Int) ^ min (32 : Nat) (IntKind.bits .u64))) + Int.fdiv (IntKind.wrap .u64 (IntKind.wrap .u64 (↑(BitVec.toNat (BitVec.ofInt (IntKind.bits .u64) (IntKind.wrap .u64 (IntKind.wrap .u64 (Int.fdiv (IntKind.wrap .u64 (u40 * List.getD powersT (Int.toNat u41) (0 : Int))) ((2 : Int) ^ min (32 : Nat) (IntKind.bits .u64)) * IntKind.wrap .u64 (↑(BitVec.toNat (BitVec.ofInt (IntKind.bits .u64) u25 &&& BitVec.ofInt (IntKind.bits .u64) (4294967295 : Int))) : Int)) + Int.fdiv (IntKind.wrap .u64 (IntKind.wrap .u64 (↑(BitVec.toNat (BitVec.ofInt (IntKind.bits .u64) (IntKind.wrap .u64 (u40 * List.getD powersT (Int.toNat u41) (0 : Int))) &&& BitVec.ofInt (IntKind.bits .u64) (4294967295 : Int))) : Int) * IntKind.wrap .u64 (↑(BitVec.toNat (BitVec.ofInt (IntKind.bits .u64) u25 &&& BitVec.ofInt (IntKind.bits .u64) (4294967295 : Int))) : Int))) ((2 : Int) ^ min (32 : Nat) (IntKind.bits .u64)))) &&& BitVec.ofInt (IntKind.bits .u64) (4294967295 : Int))) : Int) + IntKind.wrap .u64 (IntKind.wrap .u64 (↑(BitVec.toNat (BitVec.ofInt (IntKind.bits .u64) (IntKind.wrap .u64 (u40 * List.getD powersT (Int.toNat u41) (0 : Int))) &&& BitVec.ofInt (IntKind.bits .u64) (4294967295 : Int))) : Int) * Int.fdiv u25 ((2 : Int) ^ min (32 : Nat) (IntKind.bits .u64))))) ((2 : Int) ^ min (32 : Nat) (IntKind.bits .u64))), IntKind.wrap .u64 (IntKind.wrap .u64 (u40 * List.getD powersT (Int.toNat u41) (0 : Int)) * u25)] [IntKind.wrap .u64 (IntKind.wrap .u64 (IntKind.wrap .u64 (Int.fdiv (1000000000 : Int) ((2 : Int) ^ min (32 : Nat) (IntKind.bits .u64)) * Int.fdiv u24 ((2 : Int) ^ min (32 : Nat) (IntKind.bits .u64))) + Int.fdiv (IntKind.wrap .u64 (IntKind.wrap .u64 (Int.fdiv (1000000000 : Int) ((2 : Int) ^ min (32 : Nat) (IntKind.bits .u64)) * IntKind.wrap .u64 (↑(BitVec.toNat (BitVec.ofInt (IntKind.bits .u64) u24 &&& BitVec.ofInt (IntKind.bits .u64) (4294967295 : Int))) : Int)) + Int.fdiv (IntKind.wrap .u64 ((1000000000 : Int) * IntKind.wrap .u64 (↑(BitVec.toNat (BitVec.ofInt (IntKind.bits .u64) u24 &&& BitVec.ofInt (IntKind.bits .u64) (4294967295 : Int))) : Int))) ((2 : Int) ^ min (32 : Nat) (IntKind.bits .u64)))) ((2 : Int) ^ min (32 : Nat) (IntKind.bits .u64))) + Int.fdiv (IntKind.wrap .u64 (IntKind.wrap .u64 (↑(BitVec.toNat (BitVec.ofInt (IntKind.bits .u64) (IntKind.wrap .u64 (IntKind.wrap .u64 (Int.fdiv (1000000000 : Int) ((2 : Int) ^ min (32 : Nat) (IntKind.bits .u64)) * IntKind.wrap .u64 (↑(BitVec.toNat (BitVec.ofInt (IntKind.bits .u64) u24 &&& BitVec.ofInt (IntKind.bits .u64) (4294967295 : Int))) : Int)) + Int.fdiv (IntKind.wrap .u64 ((1000000000 : Int) * IntKind.wrap .u64 (↑(BitVec.toNat (BitVec.ofInt (IntKind.bits .u64) u24 &&& BitVec.ofInt (IntKind.bits .u64) (4294967295 : Int))) : Int))) ((2 : Int) ^ min (32 : Nat) (IntKind.bits .u64)))) &&& BitVec.ofInt (IntKind.bits .u64) (4294967295 : Int))) : Int) + IntKind.wrap .u64 ((1000000000 : Int) * Int.fdiv u24 ((2 : Int) ^ min (32 : Nat) (IntKind.bits .u64))))) ((2 : Int) ^ min (32 : Nat) (IntKind.bits .u64))), IntKind.wrap .u64 ((1000000000 : Int) * u24)]) fun r2 =>
  .obT
  (.ret (r2) (fun r => (Ob (r2 = r) ∧
 True)) ⟨⟨rfl⟩, trivial⟩))))
  (.obP ((0 : Int) ≤ IntKind.wrap .i64 ((0 : Int) - u41) ∧ IntKind.wrap .i64 ((0 : Int) - u41) < (↑(13 : Nat) : Int))
  (.obP (Int.toNat (IntKind.wrap .i64 ((0 : Int) - u41)) < List.length powersT)
  (.call (y9 u40 u25) fun r3 =>
  .call (y9 (IntKind.wrap .u64 ((1000000000 : Int) * List.getD powersT (Int.toNat (IntKind.wrap .i64 ((0 : Int) - u41))) (0 : Int))) u24) fun r4 =>
  .call (y22 [IntKind.wrap .u64 (IntKind.wrap .u64 (IntKind.wrap .u64 (Int.fdiv u40 ((2 : Int) ^ min (32 : Nat) (IntKind.bits .u64)) * Int.fdiv u25 ((2 : Int) ^ min (32 : Nat) (IntKind.bits .u64))) + Int.fdiv (IntKind.wrap .u64 (IntKind.wrap .u64 (Int.fdiv u40 ((2 : Int) ^ min (32 : Nat) (IntKind.bits .u64)) * IntKind.wrap .u64 (↑(BitVec.toNat (BitVec.ofInt (IntKind.bits .u64) u25 &&& BitVec.ofInt (IntKind.bits .u64) (4294967295 : Int))) : Int)) + Int.fdiv (IntKind.wrap .u64 (IntKind.wrap .u64 (↑(BitVec.toNat (BitVec.ofInt (IntKind.bits .u64) u40 &&& BitVec.ofInt (IntKind.bits .u64) (4294967295 : Int))) : Int) * IntKind.wrap .u64 (↑(BitVec.toNat (BitVec.ofInt (IntKind.bits .u64) u25 &&& BitVec.ofInt (IntKind.bits .u64) (4294967295 : Int))) : Int))) ((2 : Int) ^ min (32 : Nat) (IntKind.bits .u64)))) ((2 : Int) ^ min (32 : Nat) (IntKind.bits .u64))) + Int.fdiv (IntKind.wrap .u64 (IntKind.wrap .u64 (↑(BitVec.toNat (BitVec.ofInt (IntKind.bits .u64) (IntKind.wrap .u64 (IntKind.wrap .u64 (Int.fdiv u40 ((2 : Int) ^ min (32 : Nat) (IntKind.bits .u64)) * IntKind.wrap .u64 (↑(BitVec.toNat (BitVec.ofInt (IntKind.bits .u64) u25 &&& BitVec.ofInt (IntKind.bits .u64) (4294967295 : Int))) : Int)) + Int.fdiv (IntKind.wrap .u64 (IntKind.wrap .u64 (↑(BitVec.toNat (BitVec.ofInt (IntKind.bits .u64) u40 &&& BitVec.ofInt (IntKind.bits .u64) (4294967295 : Int))) : Int) * IntKind.wrap .u64 (↑(BitVec.toNat (BitVec.ofInt (IntKind.bits .u64) u25 &&& BitVec.ofInt (IntKind.bits .u64) (4294967295 : Int))) : Int))) ((2 : Int) ^ min (32 : Nat) (IntKind.bits .u64)))) &&& BitVec.ofInt (IntKind.bits .u64) (4294967295 : Int))) : Int) + IntKind.wrap .u64 (IntKind.wrap .u64 (↑(BitVec.toNat (BitVec.ofInt (IntKind.bits .u64) u40 &&& BitVec.ofInt (IntKind.bits .u64) (4294967295 : Int))) : Int) * Int.fdiv u25 ((2 : Int) ^ min (32 : Nat) (IntKind.bits .u64))))) ((2 : Int) ^ min (32 : Nat) (IntKind.bits .u64))), IntKind.wrap .u64 (u40 * u25)] [IntKind.wrap .u64 (IntKind.wrap .u64 (IntKind.wrap .u64 (Int.fdiv (IntKind.wrap .u64 ((1000000000 : Int) * List.getD powersT (Int.toNat (IntKind.wrap .i64 ((0 : Int) - u41))) (0 : Int))) ((2 : Int) ^ min (32 : Nat) (IntKind.bits .u64)) * Int.fdiv u24 ((2 : Int) ^ min (32 : Nat) (IntKind.bits .u64))) + Int.fdiv (IntKind.wrap .u64 (IntKind.wrap .u64 (Int.fdiv (IntKind.wrap .u64 ((1000000000 : Int) * List.getD powersT (Int.toNat (IntKind.wrap .i64 ((0 : Int) - u41))) (0 : Int))) ((2 : Int) ^ min (32 : Nat) (IntKind.bits .u64)) * IntKind.wrap .u64 (↑(BitVec.toNat (BitVec.ofInt (IntKind.bits .u64) u24 &&& BitVec.ofInt (IntKind.bits .u64) (4294967295 : Int))) : Int)) + Int.fdiv (IntKind.wrap .u64 (IntKind.wrap .u64 (↑(BitVec.toNat (BitVec.ofInt (IntKind.bits .u64) (IntKind.wrap .u64 ((1000000000 : Int) * List.getD powersT (Int.toNat (IntKind.wrap .i64 ((0 : Int) - u41))) (0 : Int))) &&& BitVec.ofInt (IntKind.bits .u64) (4294967295 : Int))) : Int) * IntKind.wrap .u64 (↑(BitVec.toNat (BitVec.ofInt (IntKind.bits .u64) u24 &&& BitVec.ofInt (IntKind.bits .u64) (4294967295 : Int))) : Int))) ((2 : Int) ^ min (32 : Nat) (IntKind.bits .u64)))) ((2 : Int) ^ min (32 : Nat) (IntKind.bits .u64))) + Int.fdiv (IntKind.wrap .u64 (IntKind.wrap .u64 (↑(BitVec.toNat (BitVec.ofInt (IntKind.bits .u64) (IntKind.wrap .u64 (IntKind.wrap .u64 (Int.fdiv (IntKind.wrap .u64 ((1000000000 : Int) * List.getD powersT (Int.toNat (IntKind.wrap .i64 ((0 : Int) - u41))) (0 : Int))) ((2 : Int) ^ min (32 : Nat) (IntKind.bits .u64)) * IntKind.wrap .u64 (↑(BitVec.toNat (BitVec.ofInt (IntKind.bits .u64) u24 &&& BitVec.ofInt (IntKind.bits .u64) (4294967295 : Int))) : Int)) + Int.fdiv (IntKind.wrap .u64 (IntKind.wrap .u64 (↑(BitVec.toNat (BitVec.ofInt (IntKind.bits .u64) (IntKind.wrap .u64 ((1000000000 : Int) * List.getD powersT (Int.toNat (IntKind.wrap .i64 ((0 : Int) - u41))) (0 : Int))) &&& BitVec.ofInt (IntKind.bits .u64) (4294967295 : Int))) : Int) * IntKind.wrap .u64 (↑(BitVec.toNat (BitVec.ofInt (IntKind.bits .u64) u24 &&& BitVec.ofInt (IntKind.bits .u64) (4294967295 : Int))) : Int))) ((2 : Int) ^ min (32 : Nat) (IntKind.bits .u64)))) &&& BitVec.ofInt (IntKind.bits .u64) (4294967295 : Int))) : Int) + IntKind.wrap .u64 (IntKind.wrap .u64 (↑(BitVec.toNat (BitVec.ofInt (IntKind.bits .u64) (IntKind.wrap .u64 ((1000000000 : Int) * List.getD powersT (Int.toNat (IntKind.wrap .i64 ((0 : Int) - u41))) (0 : Int))) &&& BitVec.ofInt (IntKind.bits .u64) (4294967295 : Int))) : Int) * Int.fdiv u24 ((2 : Int) ^ min (32 : Nat) (IntKind.bits .u64))))) ((2 : Int) ^ min (32 : Nat) (IntKind.bits .u64))), IntKind.wrap .u64 (IntKind.wrap .u64 ((1000000000 : Int) * List.getD powersT (Int.toNat (IntKind.wrap .i64 ((0 : Int) - u41))) (0 : Int)) * u24)]) fun r5 =>
  .obT
  (.ret (r5) (fun r => (Ob (r5 = r) ∧
 True)) ⟨⟨rfl⟩, trivial⟩))))
set_option maxRecDepth 100000 in
theorem G_ratio_compare_vc (u24 : Int) (u25 : Int) (u40 : Int) (u41 : Int) (r : Int) (h : Option.bind (y44 u24 u25 u40 u41) some = some r) : runF Tryz.f165 ((sp_126 (sp_131 sp0))) (fun _ _ _ => none) [.s [.i .u64 u24, .i .u64 u25], .d (.i .u64 u40), .d (.i .i64 u41)] [.d (.i .i64 r)] :=
  T.vc (t := G_ratio_compare_t u24 u25 u40 u41) (by kernel_rfl) (by kernel_rfl) h
set_option maxRecDepth 100000 in
theorem G_ratio_compare_ok : SpecOK Tryz.prog 165 true (pureK k_G_ratio_compare y140) := by
  refine pureK_ok (sp := (sp_126 (sp_131 sp0))) (fn := Tryz.f165) (body := bodyOf Tryz.f165) mixed (sp_126_ok (sp_131_ok sp0_ok)) Tryz.func165 (by kernel_rfl) (by kernel_rfl) fun as_ ob rs h ho => ?_
  unfold y140 at h
  split at h
  · rename_i u24 u25 u40 u41
    cases h
    exact ⟨Nat.le_of_ble_eq_true rfl, _, _, G_ratio_compare_vc u24 u25 u40 u41 _ (ok_some ho)⟩
  · cases h
theorem sp_165_ok {sp : Specs} (h : SpecsOK Tryz.prog sp) : SpecsOK Tryz.prog (sp_165 sp) := addK_ok G_ratio_compare_ok h
def k_G_ratio_under : List (Option Cont) := [none, none]
def y98 (u24 : Int) (u25 : Int) (u23 : Int) : Option Bool :=
  Option.bind (G_split u23) fun r0 =>
  if (0 : Int) ≤ Int.tmod (IntKind.wrap .i64 (u23 + (900 : Int))) (10 : Int) ∧ Int.tmod (IntKind.wrap .i64 (u23 + (900 : Int))) (10 : Int) < (↑(10 : Nat) : Int) then
   if Int.toNat (Int.tmod (IntKind.wrap .i64 (u23 + (900 : Int))) (10 : Int)) < List.length tenthsT then
    if Int.tmod (IntKind.wrap .i64 (u23 + (900 : Int))) (10 : Int) > (0 : Int) then
     Option.bind (y44 u24 u25 (IntKind.wrap .u64 (List.getD tenthsT (Int.toNat (Int.tmod (IntKind.wrap .i64 (u23 + (900 : Int))) (10 : Int))) (0 : Int) + (1 : Int))) (IntKind.wrap .i64 (IntKind.wrap .i64 (Int.tdiv (IntKind.wrap .i64 (u23 + (900 : Int))) (10 : Int)) - (90 : Int)))) fun r1 =>
     some (decide (r1 ≤ (0 : Int)))
    else
     Option.bind (y44 u24 u25 (List.getD tenthsT (Int.toNat (Int.tmod (IntKind.wrap .i64 (u23 + (900 : Int))) (10 : Int))) (0 : Int)) (IntKind.wrap .i64 (IntKind.wrap .i64 (Int.tdiv (IntKind.wrap .i64 (u23 + (900 : Int))) (10 : Int)) - (90 : Int)))) fun r2 =>
     some (decide (r2 ≤ (0 : Int)))
   else none
  else none
def y168 : List A → Option (Prop × List RV)
  | [.s [.i .u64 u24, .i .u64 u25], .d (.i .i64 u23)] => some (ok (y98 u24 u25 u23), [.d (.b ((val (y98 u24 u25 u23))))])
  | _ => none
abbrev sp_146 : Specs → Specs := addK 146 true (pureK k_G_ratio_under y168)
set_option maxRecDepth 100000 in
def G_ratio_under_t (u24 : Int) (u25 : Int) (u23 : Int) : T (Bool) :=
 .call (G_split u23) fun r0 =>
  .obP ((0 : Int) ≤ Int.tmod (IntKind.wrap .i64 (u23 + (900 : Int))) (10 : Int) ∧ Int.tmod (IntKind.wrap .i64 (u23 + (900 : Int))) (10 : Int) < (↑(10 : Nat) : Int))
  (.obP (Int.toNat (Int.tmod (IntKind.wrap .i64 (u23 + (900 : Int))) (10 : Int)) < List.length tenthsT)
  (.brP (Int.tmod (IntKind.wrap .i64 (u23 + (900 : Int))) (10 : Int) > (0 : Int))
  (.call (y44 u24 u25 (IntKind.wrap .u64 (List.getD tenthsT (Int.toNat (Int.tmod (IntKind.wrap .i64 (u23 + (900 : Int))) (10 : Int))) (0 : Int) + (1 : Int))) (IntKind.wrap .i64 (IntKind.wrap .i64 (Int.tdiv (IntKind.wrap .i64 (u23 + (900 : Int))) (10 : Int)) - (90 : Int)))) fun r1 =>
  .obT
  (.ret ((decide (r1 ≤ (0 : Int)))) (fun r => (Ob (decide (r1 ≤ (0 : Int)) = r) ∧
 True)) ⟨⟨rfl⟩, trivial⟩))
  (.call (y44 u24 u25 (List.getD tenthsT (Int.toNat (Int.tmod (IntKind.wrap .i64 (u23 + (900 : Int))) (10 : Int))) (0 : Int)) (IntKind.wrap .i64 (IntKind.wrap .i64 (Int.tdiv (IntKind.wrap .i64 (u23 + (900 : Int))) (10 : Int)) - (90 : Int)))) fun r2 =>
  .obT
  (.ret ((decide (r2 ≤ (0 : Int)))) (fun r => (Ob (decide (r2 ≤ (0 : Int)) = r) ∧
 True)) ⟨⟨rfl⟩, trivial⟩))))
set_option maxRecDepth 100000 in
theorem G_ratio_under_vc (u24 : Int) (u25 : Int) (u23 : Int) (r : Bool) (h : Option.bind (y98 u24 u25 u23) some = some r) : runF Tryz.f146 ((sp_164 (sp_165 sp0))) (fun _ _ _ => none) [.s [.i .u64 u24, .i .u64 u25], .d (.i .i64 u23)] [.d (.b r)] :=
  T.vc (t := G_ratio_under_t u24 u25 u23) (by kernel_rfl) (by kernel_rfl) h
set_option maxRecDepth 100000 in
theorem G_ratio_under_ok : SpecOK Tryz.prog 146 true (pureK k_G_ratio_under y168) := by
  refine pureK_ok (sp := (sp_164 (sp_165 sp0))) (fn := Tryz.f146) (body := bodyOf Tryz.f146) mixed (sp_164_ok (sp_165_ok sp0_ok)) Tryz.func146 (by kernel_rfl) (by kernel_rfl) fun as_ ob rs h ho => ?_
  unfold y168 at h
  split at h
  · rename_i u24 u25 u23
    cases h
    exact ⟨Nat.le_of_ble_eq_true rfl, _, _, G_ratio_under_vc u24 u25 u23 _ (ok_some ho)⟩
  · cases h
theorem sp_146_ok {sp : Specs} (h : SpecsOK Tryz.prog sp) : SpecsOK Tryz.prog (sp_146 sp) := addK_ok G_ratio_under_ok h
def k_G_ratio_over : List (Option Cont) := [none, none]
def y106 (u24 : Int) (u25 : Int) (u23 : Int) : Option Bool :=
  Option.bind (G_split u23) fun r0 =>
  if (0 : Int) ≤ Int.tmod (IntKind.wrap .i64 (u23 + (900 : Int))) (10 : Int) ∧ Int.tmod (IntKind.wrap .i64 (u23 + (900 : Int))) (10 : Int) < (↑(10 : Nat) : Int) then
   if Int.toNat (Int.tmod (IntKind.wrap .i64 (u23 + (900 : Int))) (10 : Int)) < List.length tenthsT then
    Option.bind (y44 u24 u25 (List.getD tenthsT (Int.toNat (Int.tmod (IntKind.wrap .i64 (u23 + (900 : Int))) (10 : Int))) (0 : Int)) (IntKind.wrap .i64 (IntKind.wrap .i64 (Int.tdiv (IntKind.wrap .i64 (u23 + (900 : Int))) (10 : Int)) - (90 : Int)))) fun r1 =>
    some (decide (r1 ≥ (0 : Int)))
   else none
  else none
def g_G_ratio_over : List A → Option (Prop × List RV)
  | [.s [.i .u64 u24, .i .u64 u25], .d (.i .i64 u23)] => some (ok (y106 u24 u25 u23), [.d (.b ((val (y106 u24 u25 u23))))])
  | _ => none
abbrev sp_147 : Specs → Specs := addK 147 true (pureK k_G_ratio_over g_G_ratio_over)
set_option maxRecDepth 100000 in
def G_ratio_over_t (u24 : Int) (u25 : Int) (u23 : Int) : T (Bool) :=
 .call (G_split u23) fun r0 =>
  .obP ((0 : Int) ≤ Int.tmod (IntKind.wrap .i64 (u23 + (900 : Int))) (10 : Int) ∧ Int.tmod (IntKind.wrap .i64 (u23 + (900 : Int))) (10 : Int) < (↑(10 : Nat) : Int))
  (.obP (Int.toNat (Int.tmod (IntKind.wrap .i64 (u23 + (900 : Int))) (10 : Int)) < List.length tenthsT)
  (.call (y44 u24 u25 (List.getD tenthsT (Int.toNat (Int.tmod (IntKind.wrap .i64 (u23 + (900 : Int))) (10 : Int))) (0 : Int)) (IntKind.wrap .i64 (IntKind.wrap .i64 (Int.tdiv (IntKind.wrap .i64 (u23 + (900 : Int))) (10 : Int)) - (90 : Int)))) fun r1 =>
  .obT
  (.ret ((decide (r1 ≥ (0 : Int)))) (fun r => (Ob (decide (r1 ≥ (0 : Int)) = r) ∧
 True)) ⟨⟨rfl⟩, trivial⟩)))
set_option maxRecDepth 100000 in
theorem G_ratio_over_vc (u24 : Int) (u25 : Int) (u23 : Int) (r : Bool) (h : Option.bind (y106 u24 u25 u23) some = some r) : runF Tryz.f147 ((sp_164 (sp_165 sp0))) (fun _ _ _ => none) [.s [.i .u64 u24, .i .u64 u25], .d (.i .i64 u23)] [.d (.b r)] :=
  T.vc (t := G_ratio_over_t u24 u25 u23) (by kernel_rfl) (by kernel_rfl) h
set_option maxRecDepth 100000 in
theorem G_ratio_over_ok : SpecOK Tryz.prog 147 true (pureK k_G_ratio_over g_G_ratio_over) := by
  refine pureK_ok (sp := (sp_164 (sp_165 sp0))) (fn := Tryz.f147) (body := bodyOf Tryz.f147) mixed (sp_164_ok (sp_165_ok sp0_ok)) Tryz.func147 (by kernel_rfl) (by kernel_rfl) fun as_ ob rs h ho => ?_
  unfold g_G_ratio_over at h
  split at h
  · rename_i u24 u25 u23
    cases h
    exact ⟨Nat.le_of_ble_eq_true rfl, _, _, G_ratio_over_vc u24 u25 u23 _ (ok_some ho)⟩
  · cases h
theorem sp_147_ok {sp : Specs} (h : SpecsOK Tryz.prog sp) : SpecsOK Tryz.prog (sp_147 sp) := addK_ok G_ratio_over_ok h
def k_G_LevelOf : List (Option Cont) := [none, none]
def y126 (num : Int) (den : Int) (x0 : Int) : Option (Int ⊕ Int) :=
  Option.bind (y98 (IntKind.wrap .u64 num) (IntKind.wrap .u64 den) x0) fun r4 =>
  if (!r4) = true then
   some (.inl (IntKind.wrap .i64 (x0 - (1 : Int))))
  else
   some (.inr x0)
def y127 (num : Int) (den : Int) (x1 : Int) : Option (Int ⊕ Int) :=
  Option.bind (y106 (IntKind.wrap .u64 num) (IntKind.wrap .u64 den) x1) fun r5 =>
  if (!r5) = true then
   some (.inl (IntKind.wrap .i64 (x1 + (1 : Int))))
  else
   some (.inr x1)
def y128 (u16 : Int) (u61 : Int) : Option (Int × Int × Int) :=
  some ((u16, u61, (0 : Int)))
def y129 (num : Int) (den : Int) (u16 : Int) : Option (Int × Int × Int) :=
  Option.bind (iter (y127 num den) big (-90 : Int)) (y128 u16)
def y99 (num : Int) (den : Int) : Option (Int × Int × Int) :=
  Option.bind (y73 num) fun r0 =>
  if (!r0) = true then
   some (((0 : Int), (0 : Int), (2 : Int)))
  else
   Option.bind (y73 den) fun r1 =>
   if (!r1) = true then
    some (((0 : Int), (0 : Int), (2 : Int)))
   else
    Option.bind (y74 num den) fun r2 =>
    if (r2) = true then
     some (((0 : Int), (0 : Int), (8 : Int)))
    else
     Option.bind (y74 den num) fun r3 =>
     if (r3) = true then
      some (((0 : Int), (0 : Int), (8 : Int)))
     else
      Option.bind (iter (y126 num den) big (90 : Int)) (y129 num den)
def g_G_LevelOf : List A → Option (Prop × List RV)
  | [.d (.i .i64 num), .d (.i .i64 den)] => some (ok (y99 num den), [.s [.i .i64 ((val (y99 num den)).1), .i .i64 ((val (y99 num den)).2.1)], .d (.i .i64 ((val (y99 num den)).2.2))])
  | _ => none
abbrev sp_123 : Specs → Specs := addK 123 true (pureK k_G_LevelOf g_G_LevelOf)
set_option maxRecDepth 100000 in
theorem G_LevelOf_vc (num : Int) (den : Int) (r : Int × Int × Int) (h : Option.bind (y99 num den) some = some r) : runF Tryz.f123 ((sp_144 (sp_145 (sp_146 (sp_147 sp0))))) (fun gs id _ => match id with
 | 1 => some ⟨Int × Nat, fun z => ⟨[(4, .w (.c (.p 2 (0 : Nat) 1 (0 : Nat)))), (8, .w (.c (.p 3 (0 : Nat) 1 (0 : Nat)))), (9, .w (.c (.p 4 (0 : Nat) 1 (0 : Nat))))], [(2, .box 30 [.d (.i .i64 (0 : Int)), .d (.i .i64 (0 : Int))]), (3, .box 188 [.d (.i .u64 (IntKind.wrap .u64 num)), .d (.i .u64 (IntKind.wrap .u64 den))]), (4, .box 30 [.d (.i .i64 (Prod.fst z)), .d (.i .i64 (-90 : Int))])], 5⟩, fun z => Option.bind (iter (y126 num den) (Prod.snd z) (Prod.fst z)) (fun y0 => Option.bind (y129 num den y0) some) = some r, fun z => Prod.snd z⟩
 | 3 => some ⟨Int × Int × Nat, fun z => ⟨[(4, .w (.c (.p 2 (0 : Nat) 1 (0 : Nat)))), (8, .w (.c (.p 3 (0 : Nat) 1 (0 : Nat)))), (9, .w (.c (.p 4 (0 : Nat) 1 (0 : Nat))))], [(2, .box 30 [.d (.i .i64 (0 : Int)), .d (.i .i64 (0 : Int))]), (3, .box 188 [.d (.i .u64 (IntKind.wrap .u64 num)), .d (.i .u64 (IntKind.wrap .u64 den))]), (4, .box 30 [.d (.i .i64 (Prod.fst z)), .d (.i .i64 (Prod.fst (Prod.snd z)))])], 5⟩, fun z => Option.bind (iter (y127 num den) (Prod.snd (Prod.snd z)) (Prod.fst (Prod.snd z))) (fun y0 => Option.bind (y128 (Prod.fst z) y0) some) = some r, fun z => Prod.snd (Prod.snd z)⟩
 | _ => none) [.d (.i .i64 num), .d (.i .i64 den)] [.s [.i .i64 r.1, .i .i64 r.2.1], .d (.i .i64 r.2.2)] := by
  refine Eq.mp (by kernel_rfl : (
 (Ob (ok (y73 num)) ∧
 Br (!val (y73 num))
   ((Ob (True) ∧
 (Ob (True) ∧
 (Ob ((0 : Int) = r.1) ∧
 (Ob ((0 : Int) = r.2.1) ∧
 (Ob ((2 : Int) = r.2.2) ∧
 True))))))
   ((Ob (ok (y73 den)) ∧
 Br (!val (y73 den))
   ((Ob (True) ∧
 (Ob (True) ∧
 (Ob ((0 : Int) = r.1) ∧
 (Ob ((0 : Int) = r.2.1) ∧
 (Ob ((2 : Int) = r.2.2) ∧
 True))))))
   ((Ob (ok (y74 num den)) ∧
 Br (val (y74 num den))
   ((Ob (True) ∧
 (Ob (True) ∧
 (Ob ((0 : Int) = r.1) ∧
 (Ob ((0 : Int) = r.2.1) ∧
 (Ob ((8 : Int) = r.2.2) ∧
 True))))))
   ((Ob (ok (y74 den num)) ∧
 Br (val (y74 den num))
   ((Ob (True) ∧
 (Ob (True) ∧
 (Ob ((0 : Int) = r.1) ∧
 (Ob ((0 : Int) = r.2.1) ∧
 (Ob ((8 : Int) = r.2.2) ∧
 True))))))
   ((Ob (True) ∧
 (Ob (True) ∧
   ((∃ (v0 : Int × Nat), (Ob ((Option.bind (iter (y126 num den) v0.2 v0.1) fun y0 => Option.bind (y129 num den y0) some) = some r) ∧
 (Ob ((0 : Nat) = (0 : Nat)) ∧
 (Ob ((0 : Nat) = (0 : Nat)) ∧
 (Ob ((0 : Nat) = (0 : Nat)) ∧
 (Ob ((0 : Int) = (0 : Int)) ∧
 (Ob ((0 : Int) = (0 : Int)) ∧
 (Ob (IntKind.wrap .u64 num = IntKind.wrap .u64 num) ∧
 (Ob (IntKind.wrap .u64 den = IntKind.wrap .u64 den) ∧
 (Ob ((90 : Int) = v0.1) ∧
 (Ob ((-90 : Int) = (-90 : Int)) ∧
 True))))))))))) ∧
   (∀ (v0 : Int × Nat), ((Option.bind (iter (y126 num den) v0.2 v0.1) fun y0 => Option.bind (y129 num den y0) some) = some r →
 (Ob (ok (y98 (IntKind.wrap .u64 num) (IntKind.wrap .u64 den) v0.1)) ∧
 Br (!val (y98 (IntKind.wrap .u64 num) (IntKind.wrap .u64 den) v0.1))
   ((∃ (v1 : Int × Nat), (Ob ((Option.bind (iter (y126 num den) v1.2 v1.1) fun y0 => Option.bind (y129 num den y0) some) = some r) ∧
 (Ob (v1.2 < v0.2) ∧
 (Ob ((0 : Nat) = (0 : Nat)) ∧
 (Ob ((0 : Nat) = (0 : Nat)) ∧
 (Ob ((0 : Nat) = (0 : Nat)) ∧
 (Ob ((0 : Int) = (0 : Int)) ∧
 (Ob ((0 : Int) = (0 : Int)) ∧
 (Ob (IntKind.wrap .u64 num = IntKind.wrap .u64 num) ∧
 (Ob (IntKind.wrap .u64 den = IntKind.wrap .u64 den) ∧
 (Ob (IntKind.wrap .i64 (v0.1 - (1 : Int)) = v1.1) ∧
 (Ob ((-90 : Int) = (-90 : Int)) ∧
 True)))))))))))))
   (((∃ (v1 : Int × Int × Nat), (Ob ((Option.bind (iter (y127 num den) v1.2.2 v1.2.1) fun y0 => Option.bind (y128 v1.1 y0) some) = some r) ∧
 (Ob ((0 : Nat) = (0 : Nat)) ∧
 (Ob ((0 : Nat) = (0 : Nat)) ∧
 (Ob ((0 : Nat) = (0 : Nat)) ∧
 (Ob ((0 : Int) = (0 : Int)) ∧
 (Ob ((0 : Int) = (0 : Int)) ∧
 (Ob (IntKind.wrap .u64 num = IntKind.wrap .u64 num) ∧
 (Ob (IntKind.wrap .u64 den = IntKind.wrap .u64 den) ∧
 (Ob (v0.1 = v1.1) ∧
 (Ob ((-90 : Int) = v1.2.1) ∧
 True))))))))))) ∧
   (∀ (v1 : Int × Int × Nat), ((Option.bind (iter (y127 num den) v1.2.2 v1.2.1) fun y0 => Option.bind (y128 v1.1 y0) some) = some r →
 (Ob (ok (y106 (IntKind.wrap .u64 num) (IntKind.wrap .u64 den) v1.2.1)) ∧
 Br (!val (y106 (IntKind.wrap .u64 num) (IntKind.wrap .u64 den) v1.2.1))
   ((∃ (v2 : Int × Int × Nat), (Ob ((Option.bind (iter (y127 num den) v2.2.2 v2.2.1) fun y0 => Option.bind (y128 v2.1 y0) some) = some r) ∧
 (Ob (v2.2.2 < v1.2.2) ∧
 (Ob ((0 : Nat) = (0 : Nat)) ∧
 (Ob ((0 : Nat) = (0 : Nat)) ∧
 (Ob ((0 : Nat) = (0 : Nat)) ∧
 (Ob ((0 : Int) = (0 : Int)) ∧
 (Ob ((0 : Int) = (0 : Int)) ∧
 (Ob (IntKind.wrap .u64 num = IntKind.wrap .u64 num) ∧
 (Ob (IntKind.wrap .u64 den = IntKind.wrap .u64 den) ∧
 (Ob (v1.1 = v2.1) ∧
 (Ob (IntKind.wrap .i64 (v1.2.1 + (1 : Int)) = v2.2.1) ∧
 True)))))))))))))
   ((Ob (True) ∧
 (Ob (True) ∧
 (Ob (v1.1 = r.1) ∧
 (Ob (v1.2.1 = r.2.1) ∧
 (Ob ((0 : Int) = r.2.2) ∧
 True)))))))))))))))))))))))))) = _) ?_
  refine call_s h fun h => ?_
  refine br_b h (fun h => ?_) (fun h => ?_)
  · refine ob_t ?_
    refine ob_t ?_
    exact ret_s h (fun e => by subst e; exact (by repeat' (first | exact trivial | exact ⟨rfl⟩ | refine And.intro ?_ ?_)))
  · refine call_s h fun h => ?_
    refine br_b h (fun h => ?_) (fun h => ?_)
    · refine ob_t ?_
      refine ob_t ?_
      exact ret_s h (fun e => by subst e; exact (by repeat' (first | exact trivial | exact ⟨rfl⟩ | refine And.intro ?_ ?_)))
    · refine call_s h fun h => ?_
      refine br_b h (fun h => ?_) (fun h => ?_)
      · refine ob_t ?_
        refine ob_t ?_
        exact ret_s h (fun e => by subst e; exact (by repeat' (first | exact trivial | exact ⟨rfl⟩ | refine And.intro ?_ ?_)))
      · refine call_s h fun h => ?_
        refine br_b h (fun h => ?_) (fun h => ?_)
        · refine ob_t ?_
          refine ob_t ?_
          exact ret_s h (fun e => by subst e; exact (by repeat' (first | exact trivial | exact ⟨rfl⟩ | refine And.intro ?_ ?_)))
        · refine ob_t ?_
          refine ob_t ?_
          refine ⟨⟨((90 : Int), big), ⟨loop_s h⟩, (by repeat' (first | exact trivial | exact ⟨rfl⟩ | refine And.intro ?_ ?_))⟩, fun z6 hz6 => ?_⟩
          obtain ⟨k6, hm6, h⟩ := iter_pos hz6
          refine call_s h fun h => ?_
          refine br_b h (fun h => ?_) (fun h => ?_)
          · exact ⟨(IntKind.wrap .i64 (Prod.fst z6 - (1 : Int)), k6), ⟨next_s h⟩, ⟨lt_gs hm6.symm⟩, (by repeat' (first | exact trivial | exact ⟨rfl⟩ | refine And.intro ?_ ?_))⟩
          · have h := exit_s h
            refine ⟨⟨(Prod.fst z6, (-90 : Int), big), ⟨loop_s h⟩, (by repeat' (first | exact trivial | exact ⟨rfl⟩ | refine And.intro ?_ ?_))⟩, fun z7 hz7 => ?_⟩
            obtain ⟨k7, hm7, h⟩ := iter_pos hz7
            refine call_s h fun h => ?_
            refine br_b h (fun h => ?_) (fun h => ?_)
            · exact ⟨(Prod.fst z7, IntKind.wrap .i64 (Prod.fst (Prod.snd z7) + (1 : Int)), k7), ⟨next_s h⟩, ⟨lt_gs hm7.symm⟩, (by repeat' (first | exact trivial | exact ⟨rfl⟩ | refine And.intro ?_ ?_))⟩
            · have h := exit_s h
              refine ob_t ?_
              refine ob_t ?_
              exact ret_s h (fun e => by subst e; exact (by repeat' (first | exact trivial | exact ⟨rfl⟩ | refine And.intro ?_ ?_)))
set_option maxRecDepth 100000 in
theorem G_LevelOf_ok : SpecOK Tryz.prog 123 true (pureK k_G_LevelOf g_G_LevelOf) := by
  refine pureK_ok (sp := (sp_144 (sp_145 (sp_146 (sp_147 sp0))))) (fn := Tryz.f123) (body := bodyOf Tryz.f123) mixed (sp_144_ok (sp_145_ok (sp_146_ok (sp_147_ok sp0_ok)))) Tryz.func123 (by kernel_rfl) (by kernel_rfl) fun as_ ob rs h ho => ?_
  unfold g_G_LevelOf at h
  split at h
  · rename_i num den
    cases h
    exact ⟨Nat.le_of_ble_eq_true rfl, _, _, G_LevelOf_vc num den _ (ok_some ho)⟩
  · cases h
theorem sp_123_ok {sp : Specs} (h : SpecsOK Tryz.prog sp) : SpecsOK Tryz.prog (sp_123 sp) := addK_ok G_LevelOf_ok h
def k_G_fallen : List (Option Cont) := [none, none, none]
def y85 (sum : Int) (u42 : Int) (u36 : Int) : Option Bool :=
  Option.bind (y9 (IntKind.wrap .u64 sum) (IntKind.wrap .u64 sum)) fun r0 =>
  if (0 : Int) ≤ u36 ∧ u36 < (↑(13 : Nat) : Int) then
   if Int.toNat u36 < List.length powersT then
    Option.bind (y9 (IntKind.wrap .u64 (IntKind.wrap .u64 sum * IntKind.wrap .u64 sum)) (List.getD powersT (Int.toNat u36) (0 : Int))) fun r1 =>
    Option.bind (y9 (IntKind.wrap .u64 u42) (IntKind.wrap .u64 u42)) fun r2 =>
    if (0 : Int) ≤ u36 ∧ u36 < (↑(13 : Nat) : Int) then
     if Int.toNat u36 < List.length powersT then
      Option.bind (y22 [IntKind.wrap .u64 (IntKind.wrap .u64 (IntKind.wrap .u64 (IntKind.wrap .u64 (IntKind.wrap .u64 (Int.fdiv (IntKind.wrap .u64 sum) ((2 : Int) ^ min (32 : Nat) (IntKind.bits .u64)) * Int.fdiv (IntKind.wrap .u64 sum) ((2 : Int) ^ min (32 : Nat) (IntKind.bits .u64))) + Int.fdiv (IntKind.wrap .u64 (IntKind.wrap .u64 (Int.fdiv (IntKind.wrap .u64 sum) ((2 : Int) ^ min (32 : Nat) (IntKind.bits .u64)) * IntKind.wrap .u64 (↑(BitVec.toNat (BitVec.ofInt (IntKind.bits .u64) (IntKind.wrap .u64 sum) &&& BitVec.ofInt (IntKind.bits .u64) (4294967295 : Int))) : Int)) + Int.fdiv (IntKind.wrap .u64 (IntKind.wrap .u64 (↑(BitVec.toNat (BitVec.ofInt (IntKind.bits .u64) (IntKind.wrap .u64 sum) &&& BitVec.ofInt (IntKind.bits .u64) (4294967295 : Int))) : Int) * IntKind.wrap .u64 (↑(BitVec.toNat (BitVec.ofInt (IntKind.bits .u64) (IntKind.wrap .u64 sum) &&& BitVec.ofInt (IntKind.bits .u64) (4294967295 : Int))) : Int))) ((2 : Int) ^ min (32 : Nat) (IntKind.bits .u64)))) ((2 : Int) ^ min (32 : Nat) (IntKind.bits .u64))) + Int.fdiv (IntKind.wrap .u64 (IntKind.wrap .u64 (↑(BitVec.toNat (BitVec.ofInt (IntKind.bits .u64) (IntKind.wrap .u64 (IntKind.wrap .u64 (Int.fdiv (IntKind.wrap .u64 sum) ((2 : Int) ^ min (32 : Nat) (IntKind.bits .u64)) * IntKind.wrap .u64 (↑(BitVec.toNat (BitVec.ofInt (IntKind.bits .u64) (IntKind.wrap .u64 sum) &&& BitVec.ofInt (IntKind.bits .u64) (4294967295 : Int))) : Int)) + Int.fdiv (IntKind.wrap .u64 (IntKind.wrap .u64 (↑(BitVec.toNat (BitVec.ofInt (IntKind.bits .u64) (IntKind.wrap .u64 sum) &&& BitVec.ofInt (IntKind.bits .u64) (4294967295 : Int))) : Int) * IntKind.wrap .u64 (↑(BitVec.toNat (BitVec.ofInt (IntKind.bits .u64) (IntKind.wrap .u64 sum) &&& BitVec.ofInt (IntKind.bits .u64) (4294967295 : Int))) : Int))) ((2 : Int) ^ min (32 : Nat) (IntKind.bits .u64)))) &&& BitVec.ofInt (IntKind.bits .u64) (4294967295 : Int))) : Int) + IntKind.wrap .u64 (IntKind.wrap .u64 (↑(BitVec.toNat (BitVec.ofInt (IntKind.bits .u64) (IntKind.wrap .u64 sum) &&& BitVec.ofInt (IntKind.bits .u64) (4294967295 : Int))) : Int) * Int.fdiv (IntKind.wrap .u64 sum) ((2 : Int) ^ min (32 : Nat) (IntKind.bits .u64))))) ((2 : Int) ^ min (32 : Nat) (IntKind.bits .u64))) * List.getD powersT (Int.toNat u36) (0 : Int)) + IntKind.wrap .u64 (IntKind.wrap .u64 (IntKind.wrap .u64 (Int.fdiv (IntKind.wrap .u64 (IntKind.wrap .u64 sum * IntKind.wrap .u64 sum)) ((2 : Int) ^ min (32 : Nat) (IntKind.bits .u64)) * Int.fdiv (List.getD powersT (Int.toNat u36) (0 : Int)) ((2 : Int) ^ min (32 : Nat) (IntKind.bits .u64))) + Int.fdiv (IntKind.wrap .u64 (IntKind.wrap .u64 (Int.fdiv (IntKind.wrap .u64 (IntKind.wrap .u64 sum * IntKind.wrap .u64 sum)) ((2 : Int) ^ min (32 : Nat) (IntKind.bits .u64)) * IntKind.wrap .u64 (↑(BitVec.toNat (BitVec.ofInt (IntKind.bits .u64) (List.getD powersT (Int.toNat u36) (0 : Int)) &&& BitVec.ofInt (IntKind.bits .u64) (4294967295 : Int))) : Int)) + Int.fdiv (IntKind.wrap .u64 (IntKind.wrap .u64 (↑(BitVec.toNat (BitVec.ofInt (IntKind.bits .u64) (IntKind.wrap .u64 (IntKind.wrap .u64 sum * IntKind.wrap .u64 sum)) &&& BitVec.ofInt (IntKind.bits .u64) (4294967295 : Int))) : Int) * IntKind.wrap .u64 (↑(BitVec.toNat (BitVec.ofInt (IntKind.bits .u64) (List.getD powersT (Int.toNat u36) (0 : Int)) &&& BitVec.ofInt (IntKind.bits .u64) (4294967295 : Int))) : Int))) ((2 : Int) ^ min (32 : Nat) (IntKind.bits .u64)))) ((2 : Int) ^ min (32 : Nat) (IntKind.bits .u64))) + Int.fdiv (IntKind.wrap .u64 (IntKind.wrap .u64 (↑(BitVec.toNat (BitVec.ofInt (IntKind.bits .u64) (IntKind.wrap .u64 (IntKind.wrap .u64 (Int.fdiv (IntKind.wrap .u64 (IntKind.wrap .u64 sum * IntKind.wrap .u64 sum)) ((2 : Int) ^ min (32 : Nat) (IntKind.bits .u64)) * IntKind.wrap .u64 (↑(BitVec.toNat (BitVec.ofInt (IntKind.bits .u64) (List.getD powersT (Int.toNat u36) (0 : Int)) &&& BitVec.ofInt (IntKind.bits .u64) (4294967295 : Int))) : Int)) + Int.fdiv (IntKind.wrap .u64 (IntKind.wrap .u64 (↑(BitVec.toNat (BitVec.ofInt (IntKind.bits .u64) (IntKind.wrap .u64 (IntKind.wrap .u64 sum * IntKind.wrap .u64 sum)) &&& BitVec.ofInt (IntKind.bits .u64) (4294967295 : Int))) : Int) * IntKind.wrap .u64 (↑(BitVec.toNat (BitVec.ofInt (IntKind.bits .u64) (List.getD powersT (Int.toNat u36) (0 : Int)) &&& BitVec.ofInt (IntKind.bits .u64) (4294967295 : Int))) : Int))) ((2 : Int) ^ min (32 : Nat) (IntKind.bits .u64)))) &&& BitVec.ofInt (IntKind.bits .u64) (4294967295 : Int))) : Int) + IntKind.wrap .u64 (IntKind.wrap .u64 (↑(BitVec.toNat (BitVec.ofInt (IntKind.bits .u64) (IntKind.wrap .u64 (IntKind.wrap .u64 sum * IntKind.wrap .u64 sum)) &&& BitVec.ofInt (IntKind.bits .u64) (4294967295 : Int))) : Int) * Int.fdiv (List.getD powersT (Int.toNat u36) (0 : Int)) ((2 : Int) ^ min (32 : Nat) (IntKind.bits .u64))))) ((2 : Int) ^ min (32 : Nat) (IntKind.bits .u64)))), IntKind.wrap .u64 (IntKind.wrap .u64 (IntKind.wrap .u64 sum * IntKind.wrap .u64 sum) * List.getD powersT (Int.toNat u36) (0 : Int))] [IntKind.wrap .u64 (IntKind.wrap .u64 (IntKind.wrap .u64 (Int.fdiv (IntKind.wrap .u64 u42) ((2 : Int) ^ min (32 : Nat) (IntKind.bits .u64)) * Int.fdiv (IntKind.wrap .u64 u42) ((2 : Int) ^ min (32 : Nat) (IntKind.bits .u64))) + Int.fdiv (IntKind.wrap .u64 (IntKind.wrap .u64 (Int.fdiv (IntKind.wrap .u64 u42) ((2 : Int) ^ min (32 : Nat) (IntKind.bits .u64)) * IntKind.wrap .u64 (↑(BitVec.toNat (BitVec.ofInt (IntKind.bits .u64) (IntKind.wrap .u64 u42) &&& BitVec.ofInt (IntKind.bits .u64) (4294967295 : Int))) : Int)) + Int.fdiv (IntKind.wrap .u64 (IntKind.wrap .u64 (↑(BitVec.toNat (BitVec.ofInt (IntKind.bits .u64) (IntKind.wrap .u64 u42) &&& BitVec.ofInt (IntKind.bits .u64) (4294967295 : Int))) : Int) * IntKind.wrap .u64 (↑(BitVec.toNat (BitVec.ofInt (IntKind.bits .u64) (IntKind.wrap .u64 u42) &&& BitVec.ofInt (IntKind.bits .u64) (4294967295 : Int))) : Int))) ((2 : Int) ^ min (32 : Nat) (IntKind.bits .u64)))) ((2 : Int) ^ min (32 : Nat) (IntKind.bits .u64))) + Int.fdiv (IntKind.wrap .u64 (IntKind.wrap .u64 (↑(BitVec.toNat (BitVec.ofInt (IntKind.bits .u64) (IntKind.wrap .u64 (IntKind.wrap .u64 (Int.fdiv (IntKind.wrap .u64 u42) ((2 : Int) ^ min (32 : Nat) (IntKind.bits .u64)) * IntKind.wrap .u64 (↑(BitVec.toNat (BitVec.ofInt (IntKind.bits .u64) (IntKind.wrap .u64 u42) &&& BitVec.ofInt (IntKind.bits .u64) (4294967295 : Int))) : Int)) + Int.fdiv (IntKind.wrap .u64 (IntKind.wrap .u64 (↑(BitVec.toNat (BitVec.ofInt (IntKind.bits .u64) (IntKind.wrap .u64 u42) &&& BitVec.ofInt (IntKind.bits .u64) (4294967295 : Int))) : Int) * IntKind.wrap .u64 (↑(BitVec.toNat (BitVec.ofInt (IntKind.bits .u64) (IntKind.wrap .u64 u42) &&& BitVec.ofInt (IntKind.bits .u64) (4294967295 : Int))) : Int))) ((2 : Int) ^ min (32 : Nat) (IntKind.bits .u64)))) &&& BitVec.ofInt (IntKind.bits .u64) (4294967295 : Int))) : Int) + IntKind.wrap .u64 (IntKind.wrap .u64 (↑(BitVec.toNat (BitVec.ofInt (IntKind.bits .u64) (IntKind.wrap .u64 u42) &&& BitVec.ofInt (IntKind.bits .u64) (4294967295 : Int))) : Int) * Int.fdiv (IntKind.wrap .u64 u42) ((2 : Int) ^ min (32 : Nat) (IntKind.bits .u64))))) ((2 : Int) ^ min (32 : Nat) (IntKind.bits .u64))), IntKind.wrap .u64 (IntKind.wrap .u64 u42 * IntKind.wrap .u64 u42)]) fun r3 =>
      some (decide (r3 ≤ (0 : Int)))
     else none
    else none
   else none
  else none
def g_G_fallen : List A → Option (Prop × List RV)
  | [.d (.i .i64 sum), .d (.i .i64 u42), .d (.i .i64 u36)] => some (ok (y85 sum u42 u36), [.d (.b ((val (y85 sum u42 u36))))])
  | _ => none
abbrev sp_96 : Specs → Specs := addK 96 true (pureK k_G_fallen g_G_fallen)
set_option maxRecDepth 100000 in
def G_fallen_t (sum : Int) (u42 : Int) (u36 : Int) : T (Bool) :=
 .obT
  (.obT
  (.call (y9 (IntKind.wrap .u64 sum) (IntKind.wrap .u64 sum)) fun r0 =>
  .obP ((0 : Int) ≤ u36 ∧ u36 < (↑(13 : Nat) : Int))
  (.obP (Int.toNat u36 < List.length powersT)
  (.call (y9 (IntKind.wrap .u64 (IntKind.wrap .u64 sum * IntKind.wrap .u64 sum)) (List.getD powersT (Int.toNat u36) (0 : Int))) fun r1 =>
  .obT
  (.obT
  (.call (y9 (IntKind.wrap .u64 u42) (IntKind.wrap .u64 u42)) fun r2 =>
  .obP ((0 : Int) ≤ u36 ∧ u36 < (↑(13 : Nat) : Int))
  (.obP (Int.toNat u36 < List.length powersT)
  (.call (y22 [IntKind.wrap .u64 (IntKind.wrap .u64 (IntKind.wrap .u64 (IntKind.wrap .u64 (IntKind.wrap .u64 (Int.fdiv (IntKind.wrap .u64 sum) ((2 : Int) ^ min (32 : Nat) (IntKind.bits .u64)) * Int.fdiv (IntKind.wrap .u64 sum) ((2 : Int) ^ min (32 : Nat) (IntKind.bits .u64))) + Int.fdiv (IntKind.wrap .u64 (IntKind.wrap .u64 (Int.fdiv (IntKind.wrap .u64 sum) ((2 : Int) ^ min (32 : Nat) (IntKind.bits .u64)) * IntKind.wrap .u64 (↑(BitVec.toNat (BitVec.ofInt (IntKind.bits .u64) (IntKind.wrap .u64 sum) &&& BitVec.ofInt (IntKind.bits .u64) (4294967295 : Int))) : Int)) + Int.fdiv (IntKind.wrap .u64 (IntKind.wrap .u64 (↑(BitVec.toNat (BitVec.ofInt (IntKind.bits .u64) (IntKind.wrap .u64 sum) &&& BitVec.ofInt (IntKind.bits .u64) (4294967295 : Int))) : Int) * IntKind.wrap .u64 (↑(BitVec.toNat (BitVec.ofInt (IntKind.bits .u64) (IntKind.wrap .u64 sum) &&& BitVec.ofInt (IntKind.bits .u64) (4294967295 : Int))) : Int))) ((2 : Int) ^ min (32 : Nat) (IntKind.bits .u64)))) ((2 : Int) ^ min (32 : Nat) (IntKind.bits .u64))) + Int.fdiv (IntKind.wrap .u64 (IntKind.wrap .u64 (↑(BitVec.toNat (BitVec.ofInt (IntKind.bits .u64) (IntKind.wrap .u64 (IntKind.wrap .u64 (Int.fdiv (IntKind.wrap .u64 sum) ((2 : Int) ^ min (32 : Nat) (IntKind.bits .u64)) * IntKind.wrap .u64 (↑(BitVec.toNat (BitVec.ofInt (IntKind.bits .u64) (IntKind.wrap .u64 sum) &&& BitVec.ofInt (IntKind.bits .u64) (4294967295 : Int))) : Int)) + Int.fdiv (IntKind.wrap .u64 (IntKind.wrap .u64 (↑(BitVec.toNat (BitVec.ofInt (IntKind.bits .u64) (IntKind.wrap .u64 sum) &&& BitVec.ofInt (IntKind.bits .u64) (4294967295 : Int))) : Int) * IntKind.wrap .u64 (↑(BitVec.toNat (BitVec.ofInt (IntKind.bits .u64) (IntKind.wrap .u64 sum) &&& BitVec.ofInt (IntKind.bits .u64) (4294967295 : Int))) : Int))) ((2 : Int) ^ min (32 : Nat) (IntKind.bits .u64)))) &&& BitVec.ofInt (IntKind.bits .u64) (4294967295 : Int))) : Int) + IntKind.wrap .u64 (IntKind.wrap .u64 (↑(BitVec.toNat (BitVec.ofInt (IntKind.bits .u64) (IntKind.wrap .u64 sum) &&& BitVec.ofInt (IntKind.bits .u64) (4294967295 : Int))) : Int) * Int.fdiv (IntKind.wrap .u64 sum) ((2 : Int) ^ min (32 : Nat) (IntKind.bits .u64))))) ((2 : Int) ^ min (32 : Nat) (IntKind.bits .u64))) * List.getD powersT (Int.toNat u36) (0 : Int)) + IntKind.wrap .u64 (IntKind.wrap .u64 (IntKind.wrap .u64 (Int.fdiv (IntKind.wrap .u64 (IntKind.wrap .u64 sum * IntKind.wrap .u64 sum)) ((2 : Int) ^ min (32 : Nat) (IntKind.bits .u64)) * Int.fdiv (List.getD powersT (Int.toNat u36) (0 : Int)) ((2 : Int) ^ min (32 : Nat) (IntKind.bits .u64))) + Int.fdiv (IntKind.wrap .u64 (IntKind.wrap .u64 (Int.fdiv (IntKind.wrap .u64 (IntKind.wrap .u64 sum * IntKind.wrap .u64 sum)) ((2 : Int) ^ min (32 : Nat) (IntKind.bits .u64)) * IntKind.wrap .u64 (↑(BitVec.toNat (BitVec.ofInt (IntKind.bits .u64) (List.getD powersT (Int.toNat u36) (0 : Int)) &&& BitVec.ofInt (IntKind.bits .u64) (4294967295 : Int))) : Int)) + Int.fdiv (IntKind.wrap .u64 (IntKind.wrap .u64 (↑(BitVec.toNat (BitVec.ofInt (IntKind.bits .u64) (IntKind.wrap .u64 (IntKind.wrap .u64 sum * IntKind.wrap .u64 sum)) &&& BitVec.ofInt (IntKind.bits .u64) (4294967295 : Int))) : Int) * IntKind.wrap .u64 (↑(BitVec.toNat (BitVec.ofInt (IntKind.bits .u64) (List.getD powersT (Int.toNat u36) (0 : Int)) &&& BitVec.ofInt (IntKind.bits .u64) (4294967295 : Int))) : Int))) ((2 : Int) ^ min (32 : Nat) (IntKind.bits .u64)))) ((2 : Int) ^ min (32 : Nat) (IntKind.bits .u64))) + Int.fdiv (IntKind.wrap .u64 (IntKind.wrap .u64 (↑(BitVec.toNat (BitVec.ofInt (IntKind.bits .u64) (IntKind.wrap .u64 (IntKind.wrap .u64 (Int.fdiv (IntKind.wrap .u64 (IntKind.wrap .u64 sum * IntKind.wrap .u64 sum)) ((2 : Int) ^ min (32 : Nat) (IntKind.bits .u64)) * IntKind.wrap .u64 (↑(BitVec.toNat (BitVec.ofInt (IntKind.bits .u64) (List.getD powersT (Int.toNat u36) (0 : Int)) &&& BitVec.ofInt (IntKind.bits .u64) (4294967295 : Int))) : Int)) + Int.fdiv (IntKind.wrap .u64 (IntKind.wrap .u64 (↑(BitVec.toNat (BitVec.ofInt (IntKind.bits .u64) (IntKind.wrap .u64 (IntKind.wrap .u64 sum * IntKind.wrap .u64 sum)) &&& BitVec.ofInt (IntKind.bits .u64) (4294967295 : Int))) : Int) * IntKind.wrap .u64 (↑(BitVec.toNat (BitVec.ofInt (IntKind.bits .u64) (List.getD powersT (Int.toNat u36) (0 : Int)) &&& BitVec.ofInt (IntKind.bits .u64) (4294967295 : Int))) : Int))) ((2 : Int) ^ min (32 : Nat) (IntKind.bits .u64)))) &&& BitVec.ofInt (IntKind.bits .u64) (4294967295 : Int))) : Int) + IntKind.wrap .u64 (IntKind.wrap .u64 (↑(BitVec.toNat (BitVec.ofInt (IntKind.bits .u64) (IntKind.wrap .u64 (IntKind.wrap .u64 sum * IntKind.wrap .u64 sum)) &&& BitVec.ofInt (IntKind.bits .u64) (4294967295 : Int))) : Int) * Int.fdiv (List.getD powersT (Int.toNat u36) (0 : Int)) ((2 : Int) ^ min (32 : Nat) (IntKind.bits .u64))))) ((2 : Int) ^ min (32 : Nat) (IntKind.bits .u64)))), IntKind.wrap .u64 (IntKind.wrap .u64 (IntKind.wrap .u64 sum * IntKind.wrap .u64 sum) * List.getD powersT (Int.toNat u36) (0 : Int))] [IntKind.wrap .u64 (IntKind.wrap .u64 (IntKind.wrap .u64 (Int.fdiv (IntKind.wrap .u64 u42) ((2 : Int) ^ min (32 : Nat) (IntKind.bits .u64)) * Int.fdiv (IntKind.wrap .u64 u42) ((2 : Int) ^ min (32 : Nat) (IntKind.bits .u64))) + Int.fdiv (IntKind.wrap .u64 (IntKind.wrap .u64 (Int.fdiv (IntKind.wrap .u64 u42) ((2 : Int) ^ min (32 : Nat) (IntKind.bits .u64)) * IntKind.wrap .u64 (↑(BitVec.toNat (BitVec.ofInt (IntKind.bits .u64) (IntKind.wrap .u64 u42) &&& BitVec.ofInt (IntKind.bits .u64) (4294967295 : Int))) : Int)) + Int.fdiv (IntKind.wrap .u64 (IntKind.wrap .u64 (↑(BitVec.toNat (BitVec.ofInt (IntKind.bits .u64) (IntKind.wrap .u64 u42) &&& BitVec.ofInt (IntKind.bits .u64) (4294967295 : Int))) : Int) * IntKind.wrap .u64 (↑(BitVec.toNat (BitVec.ofInt (IntKind.bits .u64) (IntKind.wrap .u64 u42) &&& BitVec.ofInt (IntKind.bits .u64) (4294967295 : Int))) : Int))) ((2 : Int) ^ min (32 : Nat) (IntKind.bits .u64)))) ((2 : Int) ^ min (32 : Nat) (IntKind.bits .u64))) + Int.fdiv (IntKind.wrap .u64 (IntKind.wrap .u64 (↑(BitVec.toNat (BitVec.ofInt (IntKind.bits .u64) (IntKind.wrap .u64 (IntKind.wrap .u64 (Int.fdiv (IntKind.wrap .u64 u42) ((2 : Int) ^ min (32 : Nat) (IntKind.bits .u64)) * IntKind.wrap .u64 (↑(BitVec.toNat (BitVec.ofInt (IntKind.bits .u64) (IntKind.wrap .u64 u42) &&& BitVec.ofInt (IntKind.bits .u64) (4294967295 : Int))) : Int)) + Int.fdiv (IntKind.wrap .u64 (IntKind.wrap .u64 (↑(BitVec.toNat (BitVec.ofInt (IntKind.bits .u64) (IntKind.wrap .u64 u42) &&& BitVec.ofInt (IntKind.bits .u64) (4294967295 : Int))) : Int) * IntKind.wrap .u64 (↑(BitVec.toNat (BitVec.ofInt (IntKind.bits .u64) (IntKind.wrap .u64 u42) &&& BitVec.ofInt (IntKind.bits .u64) (4294967295 : Int))) : Int))) ((2 : Int) ^ min (32 : Nat) (IntKind.bits .u64)))) &&& BitVec.ofInt (IntKind.bits .u64) (4294967295 : Int))) : Int) + IntKind.wrap .u64 (IntKind.wrap .u64 (↑(BitVec.toNat (BitVec.ofInt (IntKind.bits .u64) (IntKind.wrap .u64 u42) &&& BitVec.ofInt (IntKind.bits .u64) (4294967295 : Int))) : Int) * Int.fdiv (IntKind.wrap .u64 u42) ((2 : Int) ^ min (32 : Nat) (IntKind.bits .u64))))) ((2 : Int) ^ min (32 : Nat) (IntKind.bits .u64))), IntKind.wrap .u64 (IntKind.wrap .u64 u42 * IntKind.wrap .u64 u42)]) fun r3 =>
  .obT
  (.ret ((decide (r3 ≤ (0 : Int)))) (fun r => (Ob (decide (r3 ≤ (0 : Int)) = r) ∧
 True)) ⟨⟨rfl⟩, trivial⟩)))))))))
set_option maxRecDepth 100000 in
theorem G_fallen_vc (sum : Int) (u42 : Int) (u36 : Int) (r : Bool) (h : Option.bind (y85 sum u42 u36) some = some r) : runF Tryz.f96 ((sp_126 (sp_131 sp0))) (fun _ _ _ => none) [.d (.i .i64 sum), .d (.i .i64 u42), .d (.i .i64 u36)] [.d (.b r)] :=
  T.vc (t := G_fallen_t sum u42 u36) (by kernel_rfl) (by kernel_rfl) h
set_option maxRecDepth 100000 in
theorem G_fallen_ok : SpecOK Tryz.prog 96 true (pureK k_G_fallen g_G_fallen) := by
  refine pureK_ok (sp := (sp_126 (sp_131 sp0))) (fn := Tryz.f96) (body := bodyOf Tryz.f96) mixed (sp_126_ok (sp_131_ok sp0_ok)) Tryz.func96 (by kernel_rfl) (by kernel_rfl) fun as_ ob rs h ho => ?_
  unfold g_G_fallen at h
  split at h
  · rename_i sum u42 u36
    cases h
    exact ⟨Nat.le_of_ble_eq_true rfl, _, _, G_fallen_vc sum u42 u36 _ (ok_some ho)⟩
  · cases h
theorem sp_96_ok {sp : Specs} (h : SpecsOK Tryz.prog sp) : SpecsOK Tryz.prog (sp_96 sp) := addK_ok G_fallen_ok h
end Go.Sh
end

section
namespace Go.Sh
open Go Go.Proofs Go.RowKit Go.Sx
abbrev sp_93 : Specs → Specs := addK 93 true (bitsS .f64 .u64)
theorem sp_93_ok {sp : Specs} (h : SpecsOK Tryz.prog sp) : SpecsOK Tryz.prog (sp_93 sp) :=
  addK_ok (bits_ok (fn := Tryz.f93) (g := Extern.MathFloatBits.float64bits) Tryz.func93 (by kernel_rfl) (by kernel_rfl) (by kernel_rfl) (by kernel_rfl) fun _ => rfl) h
end Go.Sh
end

section
namespace Go.Sh
open Go Go.Proofs Go.RowKit Go.Sx
set_option linter.unusedVariables false
def y155 : List SV := [.a [.d, .r (.floats .f32 [])]]
def y43 (u10 : Int) (u7 : List Nat) : Option (Int × List Nat) :=
  if ((0 : Nat) + List.length u7) * (4 : Nat) ≤ (140737488355328 : Nat) ∧ (0 : Nat) + List.length u7 ≤ (9223372036854775807 : Nat) then
   some (u10, [] ++ u7)
  else none
def y156 : List Lf → Option GT
  | [.d (.i .i64 u10), .r (.floats .f32 u7)] => some (.leaf (ok (y43 u10 u7)) [.s [.d (.i .i64 ((val (y43 u10 u7)).1)), .row 151 (.floats .f32 ((val (y43 u10 u7)).2))]])
  | _ => none
abbrev sp_18 : Specs → Specs := addK 18 true (pureT y155 y156)
set_option maxRecDepth 100000 in
theorem B_CopyResponse_vc (u10 : Int) (u7 : List Nat) (r : Int × List Nat) (h : Option.bind (y43 u10 u7) some = some r) : runT Tryz.f18 (sp0) (fun _ _ _ => none) (bldD y155 [.d (.i .i64 u10), .r (.floats .f32 u7)]) [.s [.d (.i .i64 r.1), .row 151 (.floats .f32 r.2)]] := by
  refine Eq.mp (by kernel_rfl : (
 (Ob (((0 : Nat) + List.length u7) * (4 : Nat) ≤ (140737488355328 : Nat) ∧ (0 : Nat) + List.length u7 ≤ (9223372036854775807 : Nat)) ∧
 (Ob (True) ∧
 (Ob (u10 = r.1) ∧
 (Ob ([] ++ u7 = r.2) ∧
 True))))) = _) ?_
  refine ob_s h fun h => ?_
  refine ob_t ?_
  exact ret_s h (fun e => by subst e; exact (by repeat' (first | exact trivial | exact ⟨rfl⟩ | refine And.intro ?_ ?_)))
set_option maxRecDepth 100000 in
theorem B_CopyResponse_ok : SpecOK Tryz.prog 18 true (pureT y155 y156) := by
  refine pureT_ok (sp := sp0) (fn := Tryz.f18) (body := bodyOf Tryz.f18) mixed sp0_ok Tryz.func18 (by kernel_rfl) (by kernel_rfl) fun ls t h ho b hb => ?_
  unfold y156 at h
  split at h
  · rename_i u10 u7
    cases h
    obtain rfl := bld_eq hb
    exact ⟨Nat.le_of_ble_eq_true (by kernel_rfl), _, _, B_CopyResponse_vc u10 u7 _ (ok_some ho)⟩
  · cases h
theorem sp_18_ok {sp : Specs} (h : SpecsOK Tryz.prog sp) : SpecsOK Tryz.prog (sp_18 sp) := addK_ok B_CopyResponse_ok h
end Go.Sh
end

section
namespace Go.Sh
open Go Go.Proofs Go.RowKit Go.Sx
set_option linter.unusedVariables false
def k_B_Within : List (Option Cont) := [none, none, none]
def y67 (n : Int) (lo : Int) (hi : Int) : Option Bool :=
  if lo ≤ n then
   some (decide (n ≤ hi))
  else
   some false
def g_B_Within : List A → Option (Prop × List RV)
  | [.d (.i .i64 n), .d (.i .i64 lo), .d (.i .i64 hi)] => some (ok (y67 n lo hi), [.d (.b ((val (y67 n lo hi))))])
  | _ => none
abbrev sp_35 : Specs → Specs := addK 35 true (pureK k_B_Within g_B_Within)
set_option maxRecDepth 100000 in
theorem B_Within_vc (n : Int) (lo : Int) (hi : Int) (r : Bool) (h : Option.bind (y67 n lo hi) some = some r) : runF Tryz.f35 (sp0) (fun _ _ _ => none) [.d (.i .i64 n), .d (.i .i64 lo), .d (.i .i64 hi)] [.d (.b r)] := by
  refine Eq.mp (by kernel_rfl : (
 Br (decide (lo ≤ n))
   ((Ob (True) ∧
 (Ob (decide (n ≤ hi) = r) ∧
 True)))
   ((Ob (True) ∧
 (Ob (false = r) ∧
 True)))) = _) ?_
  refine br_d h (fun h => ?_) (fun h => ?_)
  · refine ob_t ?_
    exact ret_s h (fun e => by subst e; exact (by repeat' (first | exact trivial | exact ⟨rfl⟩ | refine And.intro ?_ ?_)))
  · refine ob_t ?_
    exact ret_s h (fun e => by subst e; exact (by repeat' (first | exact trivial | exact ⟨rfl⟩ | refine And.intro ?_ ?_)))
set_option maxRecDepth 100000 in
theorem B_Within_ok : SpecOK Tryz.prog 35 true (pureK k_B_Within g_B_Within) := by
  refine pureK_ok (sp := sp0) (fn := Tryz.f35) (body := bodyOf Tryz.f35) mixed sp0_ok Tryz.func35 (by kernel_rfl) (by kernel_rfl) fun as_ ob rs h ho => ?_
  unfold g_B_Within at h
  split at h
  · rename_i n lo hi
    cases h
    exact ⟨Nat.le_of_ble_eq_true rfl, _, _, B_Within_vc n lo hi _ (ok_some ho)⟩
  · cases h
theorem sp_35_ok {sp : Specs} (h : SpecsOK Tryz.prog sp) : SpecsOK Tryz.prog (sp_35 sp) := addK_ok B_Within_ok h
def k_B_Ints : List (Option Cont) := [some (.ints .i64 []), some (.ints .i64 [])]
def B_Ints_b0 (a : List Int) (b : List Int) (x0 : Int) : Option (Int ⊕ (Unit ⊕ Unit)) :=
  if x0 < (↑(List.length a) : Int) then
   if (0 : Int) ≤ x0 ∧ x0 < (↑(List.length a) : Int) then
    if Int.toNat x0 < List.length a then
     if (0 : Int) ≤ x0 ∧ x0 < (↑(List.length b) : Int) then
      if Int.toNat x0 < List.length b then
       if (List.getD a (Int.toNat x0) (0 : Int) != List.getD b (Int.toNat x0) (0 : Int)) = true then
        some (.inr ((.inl ())))
       else
        some (.inl (IntKind.wrap .i64 (x0 + (1 : Int))))
      else none
     else none
    else none
   else none
  else
   some (.inr ((.inr ())))
def B_Ints_r0_0 (u16 : Unit) : Option Bool :=
  some false
def B_Ints_r0_1 (u33 : Unit) : Option Bool :=
  some true
def B_Ints_r0 : (Unit ⊕ Unit) → Option Bool :=
  (Sum.elim (B_Ints_r0_0) (B_Ints_r0_1))
def B_Ints (a : List Int) (b : List Int) : Option Bool :=
  if ((↑(List.length a) : Int) != (↑(List.length b) : Int)) = true then
   some false
  else
   Option.bind (iter (B_Ints_b0 a b) big (0 : Int)) (B_Ints_r0)
def g_B_Ints : List A → Option (Prop × List RV)
  | [.r (.ints .i64 a), .r (.ints .i64 b)] => some (ok (B_Ints a b), [.d (.b ((val (B_Ints a b))))])
  | _ => none
abbrev sp_55 : Specs → Specs := addK 55 true (pureK k_B_Ints g_B_Ints)
set_option maxRecDepth 100000 in
theorem B_Ints_vc (a : List Int) (b : List Int) (r : Bool) (h : Option.bind (B_Ints a b) some = some r) : runF Tryz.f55 (sp0) (fun gs id _ => match id with
 | 0 => some ⟨Int × Nat, fun z => ⟨[(0, .w (.c (.o 0))), (1, .w (.c (.o 1))), (5, .w (.c (.d (.i .i64 (Prod.fst z)))))], [(0, .ext (.ints .i64 a)), (1, .ext (.ints .i64 b))], 2⟩, fun z => Option.bind (iter (B_Ints_b0 a b) (Prod.snd z) (Prod.fst z)) (fun y0 => Option.bind (B_Ints_r0 y0) some) = some r, fun z => Prod.snd z⟩
 | _ => none) [.r (.ints .i64 a), .r (.ints .i64 b)] [.d (.b r)] := by
  refine Eq.mp (by kernel_rfl : (
 Br ((↑(List.length a) : Int) != (↑(List.length b) : Int))
   ((Ob (True) ∧
 (Ob (false = r) ∧
 True)))
   (((∃ (v0 : Int × Nat), (Ob ((Option.bind (iter (B_Ints_b0 a b) v0.2 v0.1) fun y0 => Option.bind (B_Ints_r0 y0) some) = some r) ∧
 (Ob ((0 : Int) = v0.1) ∧
 (Ob (a = a) ∧
 (Ob (b = b) ∧
 True))))) ∧
   (∀ (v0 : Int × Nat), ((Option.bind (iter (B_Ints_b0 a b) v0.2 v0.1) fun y0 => Option.bind (B_Ints_r0 y0) some) = some r →
 Br (decide (v0.1 < (↑(List.length a) : Int)))
   ((Ob ((0 : Int) ≤ v0.1 ∧ v0.1 < (↑(List.length a) : Int)) ∧
 (Ob (Int.toNat v0.1 < List.length a) ∧
 (Ob ((0 : Int) ≤ v0.1 ∧ v0.1 < (↑(List.length b) : Int)) ∧
 (Ob (Int.toNat v0.1 < List.length b) ∧
 Br (List.getD a (Int.toNat v0.1) (0 : Int) != List.getD b (Int.toNat v0.1) (0 : Int))
   ((Ob (True) ∧
 (Ob (false = r) ∧
 True)))
   ((∃ (v1 : Int × Nat), (Ob ((Option.bind (iter (B_Ints_b0 a b) v1.2 v1.1) fun y0 => Option.bind (B_Ints_r0 y0) some) = some r) ∧
 (Ob (v1.2 < v0.2) ∧
 (Ob (IntKind.wrap .i64 (v0.1 + (1 : Int)) = v1.1) ∧
 (Ob (a = a) ∧
 (Ob (b = b) ∧
 True))))))))))))
   ((Ob (True) ∧
 (Ob (true = r) ∧
 True)))))))) = _) ?_
  refine br_b h (fun h => ?_) (fun h => ?_)
  · refine ob_t ?_
    exact ret_s h (fun e => by subst e; exact (by repeat' (first | exact trivial | exact ⟨rfl⟩ | refine And.intro ?_ ?_)))
  · refine ⟨⟨((0 : Int), big), ⟨loop_s h⟩, (by repeat' (first | exact trivial | exact ⟨rfl⟩ | refine And.intro ?_ ?_))⟩, fun z0 hz0 => ?_⟩
    obtain ⟨k0, hm0, h⟩ := iter_pos hz0
    refine br_d h (fun h => ?_) (fun h => ?_)
    · refine ob_s h fun h => ?_
      refine ob_s h fun h => ?_
      refine ob_s h fun h => ?_
      refine ob_s h fun h => ?_
      refine br_b h (fun h => ?_) (fun h => ?_)
      · have h := exit_s h
        refine ob_t ?_
        exact ret_s h (fun e => by subst e; exact (by repeat' (first | exact trivial | exact ⟨rfl⟩ | refine And.intro ?_ ?_)))
      · exact ⟨(IntKind.wrap .i64 (Prod.fst z0 + (1 : Int)), k0), ⟨next_s h⟩, ⟨lt_gs hm0.symm⟩, (by repeat' (first | exact trivial | exact ⟨rfl⟩ | refine And.intro ?_ ?_))⟩
    · have h := exit_s h
      refine ob_t ?_
      exact ret_s h (fun e => by subst e; exact (by repeat' (first | exact trivial | exact ⟨rfl⟩ | refine And.intro ?_ ?_)))
set_option maxRecDepth 100000 in
theorem B_Ints_ok : SpecOK Tryz.prog 55 true (pureK k_B_Ints g_B_Ints) := by
  refine pureK_ok (sp := sp0) (fn := Tryz.f55) (body := bodyOf Tryz.f55) mixed sp0_ok Tryz.func55 (by kernel_rfl) (by kernel_rfl) fun as_ ob rs h ho => ?_
  unfold g_B_Ints at h
  split at h
  · rename_i a b
    cases h
    exact ⟨Nat.le_of_ble_eq_true rfl, _, _, B_Ints_vc a b _ (ok_some ho)⟩
  · cases h
theorem sp_55_ok {sp : Specs} (h : SpecsOK Tryz.prog sp) : SpecsOK Tryz.prog (sp_55 sp) := addK_ok B_Ints_ok h
def k_B_Floor : List (Option Cont) := [none, none]
def y20 (n : Int) (by_ : Int) : Option Int :=
  if by_ ≠ (0 : Int) then
   if by_ ≠ (0 : Int) then
    if Int.tmod n by_ < (0 : Int) then
     some (IntKind.wrap .i64 (IntKind.wrap .i64 (Int.tdiv n by_) - (1 : Int)))
    else
     some (IntKind.wrap .i64 (Int.tdiv n by_))
   else none
  else none
def g_B_Floor : List A → Option (Prop × List RV)
  | [.d (.i .i64 n), .d (.i .i64 by_)] => some (ok (y20 n by_), [.d (.i .i64 ((val (y20 n by_))))])
  | _ => none
abbrev sp_74 : Specs → Specs := addK 74 true (pureK k_B_Floor g_B_Floor)
set_option maxRecDepth 100000 in
theorem B_Floor_vc (n : Int) (by_ : Int) (r : Int) (h : Option.bind (y20 n by_) some = some r) : runF Tryz.f74 (sp0) (fun _ _ _ => none) [.d (.i .i64 n), .d (.i .i64 by_)] [.d (.i .i64 r)] := by
  refine Eq.mp (by kernel_rfl : (
 (Ob (by_ ≠ (0 : Int)) ∧
 (Ob (by_ ≠ (0 : Int)) ∧
 Br (decide (Int.tmod n by_ < (0 : Int)))
   ((Ob (True) ∧
 (Ob (IntKind.wrap .i64 (IntKind.wrap .i64 (Int.tdiv n by_) - (1 : Int)) = r) ∧
 True)))
   ((Ob (True) ∧
 (Ob (IntKind.wrap .i64 (Int.tdiv n by_) = r) ∧
 True)))))) = _) ?_
  refine ob_s h fun h => ?_
  refine ob_s h fun h => ?_
  refine br_d h (fun h => ?_) (fun h => ?_)
  · refine ob_t ?_
    exact ret_s h (fun e => by subst e; exact (by repeat' (first | exact trivial | exact ⟨rfl⟩ | refine And.intro ?_ ?_)))
  · refine ob_t ?_
    exact ret_s h (fun e => by subst e; exact (by repeat' (first | exact trivial | exact ⟨rfl⟩ | refine And.intro ?_ ?_)))
set_option maxRecDepth 100000 in
theorem B_Floor_ok : SpecOK Tryz.prog 74 true (pureK k_B_Floor g_B_Floor) := by
  refine pureK_ok (sp := sp0) (fn := Tryz.f74) (body := bodyOf Tryz.f74) mixed sp0_ok Tryz.func74 (by kernel_rfl) (by kernel_rfl) fun as_ ob rs h ho => ?_
  unfold g_B_Floor at h
  split at h
  · rename_i n by_
    cases h
    exact ⟨Nat.le_of_ble_eq_true rfl, _, _, B_Floor_vc n by_ _ (ok_some ho)⟩
  · cases h
theorem sp_74_ok {sp : Specs} (h : SpecsOK Tryz.prog sp) : SpecsOK Tryz.prog (sp_74 sp) := addK_ok B_Floor_ok h
def k_B_Ceil : List (Option Cont) := [none, none]
def B_Ceil (n : Int) (by_ : Int) : Option Int :=
  Option.bind (y20 (IntKind.wrap .i64 ((0 : Int) - n)) by_) fun r0 =>
  some (IntKind.wrap .i64 ((0 : Int) - r0))
def g_B_Ceil : List A → Option (Prop × List RV)
  | [.d (.i .i64 n), .d (.i .i64 by_)] => some (ok (B_Ceil n by_), [.d (.i .i64 ((val (B_Ceil n by_))))])
  | _ => none
abbrev sp_75 : Specs → Specs := addK 75 true (pureK k_B_Ceil g_B_Ceil)
set_option maxRecDepth 100000 in
theorem B_Ceil_vc (n : Int) (by_ : Int) (r : Int) (h : Option.bind (B_Ceil n by_) some = some r) : runF Tryz.f75 ((sp_74 sp0)) (fun _ _ _ => none) [.d (.i .i64 n), .d (.i .i64 by_)] [.d (.i .i64 r)] := by
  refine Eq.mp (by kernel_rfl : (
 (Ob (ok (y20 (IntKind.wrap .i64 ((0 : Int) - n)) by_)) ∧
 (Ob (True) ∧
 (Ob (IntKind.wrap .i64 ((0 : Int) - val (y20 (IntKind.wrap .i64 ((0 : Int) - n)) by_)) = r) ∧
 True)))) = _) ?_
  refine call_s h fun h => ?_
  refine ob_t ?_
  exact ret_s h (fun e => by subst e; exact (by repeat' (first | exact trivial | exact ⟨rfl⟩ | refine And.intro ?_ ?_)))
set_option maxRecDepth 100000 in
theorem B_Ceil_ok : SpecOK Tryz.prog 75 true (pureK k_B_Ceil g_B_Ceil) := by
  refine pureK_ok (sp := (sp_74 sp0)) (fn := Tryz.f75) (body := bodyOf Tryz.f75) mixed (sp_74_ok sp0_ok) Tryz.func75 (by kernel_rfl) (by kernel_rfl) fun as_ ob rs h ho => ?_
  unfold g_B_Ceil at h
  split at h
  · rename_i n by_
    cases h
    exact ⟨Nat.le_of_ble_eq_true rfl, _, _, B_Ceil_vc n by_ _ (ok_some ho)⟩
  · cases h
theorem sp_75_ok {sp : Specs} (h : SpecsOK Tryz.prog sp) : SpecsOK Tryz.prog (sp_75 sp) := addK_ok B_Ceil_ok h
def k_B_Compare : List (Option Cont) := [none, none, none, none]
def y78 (x0 : (Int × Int × Int × Int)) : Option ((Int × Int × Int × Int) ⊕ Int) :=
  Option.bind (y20 x0.1 x0.2.1) fun r0 =>
  Option.bind (y20 x0.2.2.1 x0.2.2.2) fun r1 =>
  if r0 < r1 then
   some (.inr (-1 : Int))
  else
   if r0 > r1 then
    some (.inr (1 : Int))
   else
    if (IntKind.wrap .i64 (x0.1 - IntKind.wrap .i64 (r0 * x0.2.1)) == (0 : Int)) = true then
     if (IntKind.wrap .i64 (x0.2.2.1 - IntKind.wrap .i64 (r1 * x0.2.2.2)) == (0 : Int)) = true then
      some (.inr (0 : Int))
     else
      if (IntKind.wrap .i64 (x0.1 - IntKind.wrap .i64 (r0 * x0.2.1)) == (0 : Int)) = true then
       some (.inr (-1 : Int))
      else
       none     else
     if (IntKind.wrap .i64 (x0.1 - IntKind.wrap .i64 (r0 * x0.2.1)) == (0 : Int)) = true then
      none      else
      if (IntKind.wrap .i64 (x0.2.2.1 - IntKind.wrap .i64 (r1 * x0.2.2.2)) == (0 : Int)) = true then
       some (.inr (1 : Int))
      else
       some (.inl ((x0.2.2.2, IntKind.wrap .i64 (x0.2.2.1 - IntKind.wrap .i64 (r1 * x0.2.2.2)), x0.2.1, IntKind.wrap .i64 (x0.1 - IntKind.wrap .i64 (r0 * x0.2.1)))))
def y107 (u16 : Int) : Option Int :=
  some u16
def y3 (n : Int) (d : Int) (m_ : Int) (k : Int) : Option Int :=
  Option.bind (iter (y78) big (n, d, m_, k)) (y107)
def g_B_Compare : List A → Option (Prop × List RV)
  | [.d (.i .i64 n), .d (.i .i64 d), .d (.i .i64 m_), .d (.i .i64 k)] => some (ok (y3 n d m_ k), [.d (.i .i64 ((val (y3 n d m_ k))))])
  | _ => none
abbrev sp_47 : Specs → Specs := addK 47 true (pureK k_B_Compare g_B_Compare)
set_option maxRecDepth 100000 in
theorem B_Compare_vc (n : Int) (d : Int) (m_ : Int) (k : Int) (r : Int) (h : Option.bind (y3 n d m_ k) some = some r) : runF Tryz.f47 ((sp_74 sp0)) (fun gs id _ => match id with
 | 0 => some ⟨(Int × Int × Int × Int) × Nat, fun z => ⟨[(0, .w (.c (.d (.i .i64 (Prod.fst (Prod.fst z)))))), (1, .w (.c (.d (.i .i64 (Prod.fst (Prod.snd (Prod.fst z))))))), (2, .w (.c (.d (.i .i64 (Prod.fst (Prod.snd (Prod.snd (Prod.fst z)))))))), (3, .w (.c (.d (.i .i64 (Prod.snd (Prod.snd (Prod.snd (Prod.fst z))))))))], [], 4⟩, fun z => Option.bind (iter (y78) (Prod.snd z) (Prod.fst z)) (fun y0 => Option.bind (y107 y0) some) = some r, fun z => Prod.snd z⟩
 | _ => none) [.d (.i .i64 n), .d (.i .i64 d), .d (.i .i64 m_), .d (.i .i64 k)] [.d (.i .i64 r)] := by
  refine Eq.mp (by kernel_rfl : (
  ((∃ (v0 : (Int × Int × Int × Int) × Nat), (Ob ((Option.bind (iter y78 v0.2 v0.1) fun y0 => Option.bind (y107 y0) some) = some r) ∧
 (Ob (n = v0.1.1) ∧
 (Ob (d = v0.1.2.1) ∧
 (Ob (m_ = v0.1.2.2.1) ∧
 (Ob (k = v0.1.2.2.2) ∧
 True)))))) ∧
   (∀ (v0 : (Int × Int × Int × Int) × Nat), ((Option.bind (iter y78 v0.2 v0.1) fun y0 => Option.bind (y107 y0) some) = some r →
 (Ob (ok (y20 v0.1.1 v0.1.2.1)) ∧
 (Ob (ok (y20 v0.1.2.2.1 v0.1.2.2.2)) ∧
 Br (decide (val (y20 v0.1.1 v0.1.2.1) < val (y20 v0.1.2.2.1 v0.1.2.2.2)))
   ((Ob (True) ∧
 (Ob ((-1 : Int) = r) ∧
 True)))
 (Br (decide (val (y20 v0.1.1 v0.1.2.1) > val (y20 v0.1.2.2.1 v0.1.2.2.2)))
   ((Ob (True) ∧
 (Ob ((1 : Int) = r) ∧
 True)))
 (Br (IntKind.wrap .i64 (v0.1.1 - IntKind.wrap .i64 (val (y20 v0.1.1 v0.1.2.1) * v0.1.2.1)) == (0 : Int))
 (Br (IntKind.wrap .i64 (v0.1.2.2.1 - IntKind.wrap .i64 (val (y20 v0.1.2.2.1 v0.1.2.2.2) * v0.1.2.2.2)) == (0 : Int))
   ((Ob (True) ∧
 (Ob ((0 : Int) = r) ∧
 True)))
 (Br (IntKind.wrap .i64 (v0.1.1 - IntKind.wrap .i64 (val (y20 v0.1.1 v0.1.2.1) * v0.1.2.1)) == (0 : Int))
   ((Ob (True) ∧
 (Ob ((-1 : Int) = r) ∧
 True)))
 (Br (IntKind.wrap .i64 (v0.1.2.2.1 - IntKind.wrap .i64 (val (y20 v0.1.2.2.1 v0.1.2.2.2) * v0.1.2.2.2)) == (0 : Int))
   ((Ob (True) ∧
 (Ob ((1 : Int) = r) ∧
 True)))
   ((∃ (v1 : (Int × Int × Int × Int) × Nat), (Ob ((Option.bind (iter y78 v1.2 v1.1) fun y0 => Option.bind (y107 y0) some) = some r) ∧
 (Ob (v1.2 < v0.2) ∧
 (Ob (v0.1.2.2.2 = v1.1.1) ∧
 (Ob (IntKind.wrap .i64 (v0.1.2.2.1 - IntKind.wrap .i64 (val (y20 v0.1.2.2.1 v0.1.2.2.2) * v0.1.2.2.2)) = v1.1.2.1) ∧
 (Ob (v0.1.2.1 = v1.1.2.2.1) ∧
 (Ob (IntKind.wrap .i64 (v0.1.1 - IntKind.wrap .i64 (val (y20 v0.1.1 v0.1.2.1) * v0.1.2.1)) = v1.1.2.2.2) ∧
 True)))))))))))
 (Br (IntKind.wrap .i64 (v0.1.1 - IntKind.wrap .i64 (val (y20 v0.1.1 v0.1.2.1) * v0.1.2.1)) == (0 : Int))
   ((Ob (True) ∧
 (Ob ((-1 : Int) = r) ∧
 True)))
 (Br (IntKind.wrap .i64 (v0.1.2.2.1 - IntKind.wrap .i64 (val (y20 v0.1.2.2.1 v0.1.2.2.2) * v0.1.2.2.2)) == (0 : Int))
   ((Ob (True) ∧
 (Ob ((1 : Int) = r) ∧
 True)))
   ((∃ (v1 : (Int × Int × Int × Int) × Nat), (Ob ((Option.bind (iter y78 v1.2 v1.1) fun y0 => Option.bind (y107 y0) some) = some r) ∧
 (Ob (v1.2 < v0.2) ∧
 (Ob (v0.1.2.2.2 = v1.1.1) ∧
 (Ob (IntKind.wrap .i64 (v0.1.2.2.1 - IntKind.wrap .i64 (val (y20 v0.1.2.2.1 v0.1.2.2.2) * v0.1.2.2.2)) = v1.1.2.1) ∧
 (Ob (v0.1.2.1 = v1.1.2.2.1) ∧
 (Ob (IntKind.wrap .i64 (v0.1.1 - IntKind.wrap .i64 (val (y20 v0.1.1 v0.1.2.1) * v0.1.2.1)) = v1.1.2.2.2) ∧
 True)))))))))))))))))) = _) ?_
  refine ⟨⟨((n, d, m_, k), big), ⟨loop_s h⟩, (by repeat' (first | exact trivial | exact ⟨rfl⟩ | refine And.intro ?_ ?_))⟩, fun z2 hz2 => ?_⟩
  obtain ⟨k2, hm2, h⟩ := iter_pos hz2
  refine call_s h fun h => ?_
  refine call_s h fun h => ?_
  refine br_d h (fun h => ?_) (fun h => ?_)
  · have h := exit_s h
    refine ob_t ?_
    exact ret_s h (fun e => by subst e; exact (by repeat' (first | exact trivial | exact ⟨rfl⟩ | refine And.intro ?_ ?_)))
  · refine br_d h (fun h => ?_) (fun h => ?_)
    · have h := exit_s h
      refine ob_t ?_
      exact ret_s h (fun e => by subst e; exact (by repeat' (first | exact trivial | exact ⟨rfl⟩ | refine And.intro ?_ ?_)))
    · refine br_b h (fun h => ?_) (fun h => ?_)
      · refine br_b h (fun h => ?_) (fun h => ?_)
        · have h := exit_s h
          refine ob_t ?_
          exact ret_s h (fun e => by subst e; exact (by repeat' (first | exact trivial | exact ⟨rfl⟩ | refine And.intro ?_ ?_)))
        · refine br_b h (fun h => ?_) (fun h => ?_)
          · have h := exit_s h
            refine ob_t ?_
            exact ret_s h (fun e => by subst e; exact (by repeat' (first | exact trivial | exact ⟨rfl⟩ | refine And.intro ?_ ?_)))
          · exact nomatch h
      · refine br_b h (fun h => ?_) (fun h => ?_)
        · exact nomatch h
        · refine br_b h (fun h => ?_) (fun h => ?_)
          · have h := exit_s h
            refine ob_t ?_
            exact ret_s h (fun e => by subst e; exact (by repeat' (first | exact trivial | exact ⟨rfl⟩ | refine And.intro ?_ ?_)))
          · exact ⟨(((Prod.fst z2).2.2.2, IntKind.wrap .i64 ((Prod.fst z2).2.2.1 - IntKind.wrap .i64 (val (y20 (Prod.fst z2).2.2.1 (Prod.fst z2).2.2.2) * (Prod.fst z2).2.2.2)), (Prod.fst z2).2.1, IntKind.wrap .i64 ((Prod.fst z2).1 - IntKind.wrap .i64 (val (y20 (Prod.fst z2).1 (Prod.fst z2).2.1) * (Prod.fst z2).2.1))), k2), ⟨next_s h⟩, ⟨lt_gs hm2.symm⟩, (by repeat' (first | exact trivial | exact ⟨rfl⟩ | refine And.intro ?_ ?_))⟩
set_option maxRecDepth 100000 in
theorem B_Compare_ok : SpecOK Tryz.prog 47 true (pureK k_B_Compare g_B_Compare) := by
  refine pureK_ok (sp := (sp_74 sp0)) (fn := Tryz.f47) (body := bodyOf Tryz.f47) mixed (sp_74_ok sp0_ok) Tryz.func47 (by kernel_rfl) (by kernel_rfl) fun as_ ob rs h ho => ?_
  unfold g_B_Compare at h
  split at h
  · rename_i n d m_ k
    cases h
    exact ⟨Nat.le_of_ble_eq_true rfl, _, _, B_Compare_vc n d m_ k _ (ok_some ho)⟩
  · cases h
theorem sp_47_ok {sp : Specs} (h : SpecsOK Tryz.prog sp) : SpecsOK Tryz.prog (sp_47 sp) := addK_ok B_Compare_ok h
def k_B_Size : List (Option Cont) := [none]
def B_Size (n : Int) : Option Int :=
  some (if IntKind.wrap .i64 ((0 : Int) - n) > n then IntKind.wrap .i64 ((0 : Int) - n) else n)
def g_B_Size : List A → Option (Prop × List RV)
  | [.d (.i .i64 n)] => some (ok (B_Size n), [.d (.i .i64 ((val (B_Size n))))])
  | _ => none
abbrev sp_128 : Specs → Specs := addK 128 true (pureK k_B_Size g_B_Size)
set_option maxRecDepth 100000 in
theorem B_Size_vc (n : Int) (r : Int) (h : Option.bind (B_Size n) some = some r) : runF Tryz.f128 (sp0) (fun _ _ _ => none) [.d (.i .i64 n)] [.d (.i .i64 r)] := by
  refine Eq.mp (by kernel_rfl : (
 (Ob (True) ∧
 (Ob ((if IntKind.wrap .i64 ((0 : Int) - n) > n then IntKind.wrap .i64 ((0 : Int) - n) else n) = r) ∧
 True))) = _) ?_
  refine ob_t ?_
  exact ret_s h (fun e => by subst e; exact (by repeat' (first | exact trivial | exact ⟨rfl⟩ | refine And.intro ?_ ?_)))
set_option maxRecDepth 100000 in
theorem B_Size_ok : SpecOK Tryz.prog 128 true (pureK k_B_Size g_B_Size) := by
  refine pureK_ok (sp := sp0) (fn := Tryz.f128) (body := bodyOf Tryz.f128) mixed sp0_ok Tryz.func128 (by kernel_rfl) (by kernel_rfl) fun as_ ob rs h ho => ?_
  unfold g_B_Size at h
  split at h
  · rename_i n
    cases h
    exact ⟨Nat.le_of_ble_eq_true rfl, _, _, B_Size_vc n _ (ok_some ho)⟩
  · cases h
theorem sp_128_ok {sp : Specs} (h : SpecsOK Tryz.prog sp) : SpecsOK Tryz.prog (sp_128 sp) := addK_ok B_Size_ok h
def k_B_Gcd : List (Option Cont) := [none, none]
def B_Gcd_b0 (x0 : (Int × Int)) : Option ((Int × Int) ⊕ Int) :=
  if (x0.2 != (0 : Int)) = true then
   if x0.2 ≠ (0 : Int) then
    some (.inl (x0.2, Int.tmod x0.1 x0.2))
   else none
  else
   some (.inr x0.1)
def B_Gcd_r0 (u16 : Int) : Option Int :=
  Option.bind (B_Size u16) fun r0 =>
  some r0
def B_Gcd (a : Int) (b : Int) : Option Int :=
  Option.bind (iter (B_Gcd_b0) big (a, b)) (B_Gcd_r0)
def g_B_Gcd : List A → Option (Prop × List RV)
  | [.d (.i .i64 a), .d (.i .i64 b)] => some (ok (B_Gcd a b), [.d (.i .i64 ((val (B_Gcd a b))))])
  | _ => none
abbrev sp_151 : Specs → Specs := addK 151 true (pureK k_B_Gcd g_B_Gcd)
set_option maxRecDepth 100000 in
theorem B_Gcd_vc (a : Int) (b : Int) (r : Int) (h : Option.bind (B_Gcd a b) some = some r) : runF Tryz.f151 ((sp_128 sp0)) (fun gs id _ => match id with
 | 0 => some ⟨(Int × Int) × Nat, fun z => ⟨[(0, .w (.c (.d (.i .i64 (Prod.fst (Prod.fst z)))))), (1, .w (.c (.d (.i .i64 (Prod.snd (Prod.fst z))))))], [], 2⟩, fun z => Option.bind (iter (B_Gcd_b0) (Prod.snd z) (Prod.fst z)) (fun y0 => Option.bind (B_Gcd_r0 y0) some) = some r, fun z => Prod.snd z⟩
 | _ => none) [.d (.i .i64 a), .d (.i .i64 b)] [.d (.i .i64 r)] := by
  refine Eq.mp (by kernel_rfl : (
  ((∃ (v0 : (Int × Int) × Nat), (Ob ((Option.bind (iter B_Gcd_b0 v0.2 v0.1) fun y0 => Option.bind (B_Gcd_r0 y0) some) = some r) ∧
 (Ob (a = v0.1.1) ∧
 (Ob (b = v0.1.2) ∧
 True)))) ∧
   (∀ (v0 : (Int × Int) × Nat), ((Option.bind (iter B_Gcd_b0 v0.2 v0.1) fun y0 => Option.bind (B_Gcd_r0 y0) some) = some r →
 Br (v0.1.2 != (0 : Int))
   ((Ob (v0.1.2 ≠ (0 : Int)) ∧
   (∃ (v1 : (Int × Int) × Nat), (Ob ((Option.bind (iter B_Gcd_b0 v1.2 v1.1) fun y0 => Option.bind (B_Gcd_r0 y0) some) = some r) ∧
 (Ob (v1.2 < v0.2) ∧
 (Ob (v0.1.2 = v1.1.1) ∧
 (Ob (Int.tmod v0.1.1 v0.1.2 = v1.1.2) ∧
 True)))))))
   ((Ob (ok (B_Size v0.1.1)) ∧
 (Ob (True) ∧
 (Ob (val (B_Size v0.1.1) = r) ∧
 True)))))))) = _) ?_
  refine ⟨⟨((a, b), big), ⟨loop_s h⟩, (by repeat' (first | exact trivial | exact ⟨rfl⟩ | refine And.intro ?_ ?_))⟩, fun z1 hz1 => ?_⟩
  obtain ⟨k1, hm1, h⟩ := iter_pos hz1
  refine br_b h (fun h => ?_) (fun h => ?_)
  · refine ob_s h fun h => ?_
    exact ⟨(((Prod.fst z1).2, Int.tmod (Prod.fst z1).1 (Prod.fst z1).2), k1), ⟨next_s h⟩, ⟨lt_gs hm1.symm⟩, (by repeat' (first | exact trivial | exact ⟨rfl⟩ | refine And.intro ?_ ?_))⟩
  · have h := exit_s h
    refine call_s h fun h => ?_
    refine ob_t ?_
    exact ret_s h (fun e => by subst e; exact (by repeat' (first | exact trivial | exact ⟨rfl⟩ | refine And.intro ?_ ?_)))
set_option maxRecDepth 100000 in
theorem B_Gcd_ok : SpecOK Tryz.prog 151 true (pureK k_B_Gcd g_B_Gcd) := by
  refine pureK_ok (sp := (sp_128 sp0)) (fn := Tryz.f151) (body := bodyOf Tryz.f151) mixed (sp_128_ok sp0_ok) Tryz.func151 (by kernel_rfl) (by kernel_rfl) fun as_ ob rs h ho => ?_
  unfold g_B_Gcd at h
  split at h
  · rename_i a b
    cases h
    exact ⟨Nat.le_of_ble_eq_true rfl, _, _, B_Gcd_vc a b _ (ok_some ho)⟩
  · cases h
theorem sp_151_ok {sp : Specs} (h : SpecsOK Tryz.prog sp) : SpecsOK Tryz.prog (sp_151 sp) := addK_ok B_Gcd_ok h
def k_B_Lowest : List (Option Cont) := [none, none]
def B_Lowest (num : Int) (den : Int) : Option (Int × Int) :=
  Option.bind (B_Gcd num den) fun r0 =>
  if den < (0 : Int) then
   if IntKind.wrap .i64 ((0 : Int) - r0) ≠ (0 : Int) then
    if IntKind.wrap .i64 ((0 : Int) - r0) ≠ (0 : Int) then
     some ((IntKind.wrap .i64 (Int.tdiv num (IntKind.wrap .i64 ((0 : Int) - r0))), IntKind.wrap .i64 (Int.tdiv den (IntKind.wrap .i64 ((0 : Int) - r0)))))
    else none
   else none
  else
   if r0 ≠ (0 : Int) then
    if r0 ≠ (0 : Int) then
     some ((IntKind.wrap .i64 (Int.tdiv num r0), IntKind.wrap .i64 (Int.tdiv den r0)))
    else none
   else none
def g_B_Lowest : List A → Option (Prop × List RV)
  | [.d (.i .i64 num), .d (.i .i64 den)] => some (ok (B_Lowest num den), [.s [.i .i64 ((val (B_Lowest num den)).1), .i .i64 ((val (B_Lowest num den)).2)]])
  | _ => none
abbrev sp_130 : Specs → Specs := addK 130 true (pureK k_B_Lowest g_B_Lowest)
set_option maxRecDepth 100000 in
theorem B_Lowest_vc (num : Int) (den : Int) (r : Int × Int) (h : Option.bind (B_Lowest num den) some = some r) : runF Tryz.f130 ((sp_151 sp0)) (fun _ _ _ => none) [.d (.i .i64 num), .d (.i .i64 den)] [.s [.i .i64 r.1, .i .i64 r.2]] := by
  refine Eq.mp (by kernel_rfl : (
 (Ob (ok (B_Gcd num den)) ∧
 Br (decide (den < (0 : Int)))
   ((Ob (IntKind.wrap .i64 ((0 : Int) - val (B_Gcd num den)) ≠ (0 : Int)) ∧
 (Ob (IntKind.wrap .i64 ((0 : Int) - val (B_Gcd num den)) ≠ (0 : Int)) ∧
 (Ob (True) ∧
 (Ob (IntKind.wrap .i64 (Int.tdiv num (IntKind.wrap .i64 ((0 : Int) - val (B_Gcd num den)))) = r.1) ∧
 (Ob (IntKind.wrap .i64 (Int.tdiv den (IntKind.wrap .i64 ((0 : Int) - val (B_Gcd num den)))) = r.2) ∧
 True))))))
   ((Ob (val (B_Gcd num den) ≠ (0 : Int)) ∧
 (Ob (val (B_Gcd num den) ≠ (0 : Int)) ∧
 (Ob (True) ∧
 (Ob (IntKind.wrap .i64 (Int.tdiv num (val (B_Gcd num den))) = r.1) ∧
 (Ob (IntKind.wrap .i64 (Int.tdiv den (val (B_Gcd num den))) = r.2) ∧
 True)))))))) = _) ?_
  refine call_s h fun h => ?_
  refine br_d h (fun h => ?_) (fun h => ?_)
  · refine ob_s h fun h => ?_
    refine ob_s h fun h => ?_
    refine ob_t ?_
    exact ret_s h (fun e => by subst e; exact (by repeat' (first | exact trivial | exact ⟨rfl⟩ | refine And.intro ?_ ?_)))
  · refine ob_s h fun h => ?_
    refine ob_s h fun h => ?_
    refine ob_t ?_
    exact ret_s h (fun e => by subst e; exact (by repeat' (first | exact trivial | exact ⟨rfl⟩ | refine And.intro ?_ ?_)))
set_option maxRecDepth 100000 in
theorem B_Lowest_ok : SpecOK Tryz.prog 130 true (pureK k_B_Lowest g_B_Lowest) := by
  refine pureK_ok (sp := (sp_151 sp0)) (fn := Tryz.f130) (body := bodyOf Tryz.f130) mixed (sp_151_ok sp0_ok) Tryz.func130 (by kernel_rfl) (by kernel_rfl) fun as_ ob rs h ho => ?_
  unfold g_B_Lowest at h
  split at h
  · rename_i num den
    cases h
    exact ⟨Nat.le_of_ble_eq_true rfl, _, _, B_Lowest_vc num den _ (ok_some ho)⟩
  · cases h
theorem sp_130_ok {sp : Specs} (h : SpecsOK Tryz.prog sp) : SpecsOK Tryz.prog (sp_130 sp) := addK_ok B_Lowest_ok h
def k_B_IsWhole : List SV := [.c (.d)]
def y79 (f : Nat) : Option Bool :=
  if (Ieee.Format.order (FloatKind.format .f64) f f != some Ordering.eq) = true then
   some false
  else
   if (Option.isSome (Ieee.Format.sub (FloatKind.format .f64) f f)) = true then
    if (Ieee.Format.order (FloatKind.format .f64) (Option.getD (Ieee.Format.sub (FloatKind.format .f64) f f) (0 : Nat)) (0 : Nat) != some Ordering.eq) = true then
     some false
    else
     if (Ieee.Format.order (FloatKind.format .f64) f (14069741636278059008 : Nat) == some Ordering.gt || Ieee.Format.order (FloatKind.format .f64) f (14069741636278059008 : Nat) == some Ordering.eq) = true then
      if (!(Ieee.Format.order (FloatKind.format .f64) f (4846369599423283200 : Nat) == some Ordering.lt || Ieee.Format.order (FloatKind.format .f64) f (4846369599423283200 : Nat) == some Ordering.eq)) = true then
       some true
      else
       if f2iOk .f64 .i64 f = true then
        some (Ieee.Format.order (FloatKind.format .f64) (FloatKind.nearest .f64 (f2i .f64 f)) f == some Ordering.eq)
       else none
     else
      some true
   else
    some false
def y150 : Option Bool :=
  some false
def g_B_IsWhole : List Lf → Option GT
  | [.d (.f .f64 f)] => some (.leaf (ok (y79 f)) [.c (.d (.b ((val (y79 f)))))])
  | [.n .f64] => some (.leaf (ok (y150)) [.c (.d (.b ((val (y150)))))])
  | _ => none
abbrev sp_121 : Specs → Specs := addK 121 true (pureT k_B_IsWhole g_B_IsWhole)
set_option maxRecDepth 100000 in
theorem B_IsWhole_vc (f : Nat) (r : Bool) (h : Option.bind (y79 f) some = some r) : runT Tryz.f121 (sp0) (fun _ _ _ => none) (bldD k_B_IsWhole [.d (.f .f64 f)]) [.c (.d (.b r))] := by
  refine Eq.mp (by kernel_rfl : (
 Br (Ieee.Format.order (FloatKind.format .f64) f f != some Ordering.eq)
   ((Ob (True) ∧
 (Ob (false = r) ∧
 True)))
 (Br (Option.isSome (Ieee.Format.sub (FloatKind.format .f64) f f))
   ((Ob (True) ∧
 Br (Ieee.Format.order (FloatKind.format .f64) (Option.getD (Ieee.Format.sub (FloatKind.format .f64) f f) (0 : Nat)) (0 : Nat) != some Ordering.eq)
   ((Ob (True) ∧
 (Ob (false = r) ∧
 True)))
 (Br (Ieee.Format.order (FloatKind.format .f64) f (14069741636278059008 : Nat) == some Ordering.gt || Ieee.Format.order (FloatKind.format .f64) f (14069741636278059008 : Nat) == some Ordering.eq)
 (Br (!(Ieee.Format.order (FloatKind.format .f64) f (4846369599423283200 : Nat) == some Ordering.lt || Ieee.Format.order (FloatKind.format .f64) f (4846369599423283200 : Nat) == some Ordering.eq))
   ((Ob (True) ∧
 (Ob (true = r) ∧
 True)))
   ((Ob (f2iOk .f64 .i64 f = true) ∧
 (Ob (True) ∧
 (Ob (True) ∧
 (Ob ((Ieee.Format.order (FloatKind.format .f64) (FloatKind.nearest .f64 (f2i .f64 f)) f == some Ordering.eq) = r) ∧
 True))))))
   ((Ob (True) ∧
 (Ob (true = r) ∧
 True))))))
   ((Ob (True) ∧
 (Ob (True) ∧
 (Ob (false = r) ∧
 True)))))) = _) ?_
  refine br_b h (fun h => ?_) (fun h => ?_)
  · refine ob_t ?_
    exact ret_s h (fun e => by subst e; exact (by repeat' (first | exact trivial | exact ⟨rfl⟩ | refine And.intro ?_ ?_)))
  · refine br_b h (fun h => ?_) (fun h => ?_)
    · refine ob_t ?_
      refine br_b h (fun h => ?_) (fun h => ?_)
      · refine ob_t ?_
        exact ret_s h (fun e => by subst e; exact (by repeat' (first | exact trivial | exact ⟨rfl⟩ | refine And.intro ?_ ?_)))
      · refine br_b h (fun h => ?_) (fun h => ?_)
        · refine br_b h (fun h => ?_) (fun h => ?_)
          · refine ob_t ?_
            exact ret_s h (fun e => by subst e; exact (by repeat' (first | exact trivial | exact ⟨rfl⟩ | refine And.intro ?_ ?_)))
          · refine ob_s h fun h => ?_
            refine ob_t ?_
            refine ob_t ?_
            exact ret_s h (fun e => by subst e; exact (by repeat' (first | exact trivial | exact ⟨rfl⟩ | refine And.intro ?_ ?_)))
        · refine ob_t ?_
          exact ret_s h (fun e => by subst e; exact (by repeat' (first | exact trivial | exact ⟨rfl⟩ | refine And.intro ?_ ?_)))
    · refine ob_t ?_
      refine ob_t ?_
      exact ret_s h (fun e => by subst e; exact (by repeat' (first | exact trivial | exact ⟨rfl⟩ | refine And.intro ?_ ?_)))
set_option maxRecDepth 100000 in
theorem B_IsWhole_n_vc (r : Bool) (h : Option.bind (y150) some = some r) : runT Tryz.f121 (sp0) (fun _ _ _ => none) (bldD k_B_IsWhole [.n .f64]) [.c (.d (.b r))] := by
  refine Eq.mp (by kernel_rfl : (
 (Ob (True) ∧
 (Ob (false = r) ∧
 True))) = _) ?_
  refine ob_t ?_
  exact ret_s h (fun e => by subst e; exact (by repeat' (first | exact trivial | exact ⟨rfl⟩ | refine And.intro ?_ ?_)))
set_option maxRecDepth 100000 in
theorem B_IsWhole_ok : SpecOK Tryz.prog 121 true (pureT k_B_IsWhole g_B_IsWhole) := by
  refine pureT_ok (sp := sp0) (fn := Tryz.f121) (body := bodyOf Tryz.f121) mixed sp0_ok Tryz.func121 (by kernel_rfl) (by kernel_rfl) fun ls t h ho b hb => ?_
  unfold g_B_IsWhole at h
  split at h
  · rename_i f
    cases h
    obtain rfl := bld_eq hb
    exact ⟨Nat.le_of_ble_eq_true (by kernel_rfl), _, _, B_IsWhole_vc f _ (ok_some ho)⟩
  · cases h
    obtain rfl := bld_eq hb
    exact ⟨Nat.le_of_ble_eq_true (by kernel_rfl), _, _, B_IsWhole_n_vc _ (ok_some ho)⟩
  · cases h
theorem sp_121_ok {sp : Specs} (h : SpecsOK Tryz.prog sp) : SpecsOK Tryz.prog (sp_121 sp) := addK_ok B_IsWhole_ok h
end Go.Sh
end

section
namespace Go.Sh
open Go Go.Proofs Go.RowKit Go.Sx Go.Sx06 Ieee Go.Fl
theorem floor_eq {n b : Int} (hb : 0 < b) (hn : -9223372036854775807 ≤ n ∧ n ≤ 9223372036854775807) : y20 n b = some (n / b) := by
  have h1 := tdiv_bounds (n := n) hb
  have h2 := ediv_bounds (n := n) hb
  unfold y20
  rw [if_pos (by omega), if_pos (by omega), wr64 (x := n.tdiv b) (by omega)]
  split
  · rename_i h
    rw [floor_neg hb h, wr64 (by omega)]
  · rename_i h
    rw [floor_pos hb h]
theorem gcd_step (a b : Int) : Int.gcd b (a.tmod b) = Int.gcd a b := by
  unfold Int.gcd
  rw [Int.natAbs_tmod, Nat.gcd_comm b.natAbs, ← Nat.gcd_rec, Nat.gcd_comm]
theorem tmod_abs (a b : Int) (hb : b ≠ 0) : (a.tmod b).natAbs < b.natAbs := by
  rw [Int.natAbs_tmod]
  exact Nat.mod_lt _ (by omega)
def gcdB (x0 : Int × Int) : Option ((Int × Int) ⊕ Int) :=
  if (x0.2 != (0 : Int)) = true then
   if x0.2 ≠ (0 : Int) then
    some (.inl (x0.2, Int.tmod x0.1 x0.2))
   else none
  else
   some (.inr x0.1)
theorem gcd_iter : ∀ (n : Nat) (a b : Int) (N : Nat), b.natAbs ≤ n → n < N → ∃ g : Int, iter gcdB N (a, b) = some g ∧ g.natAbs = Int.gcd a b
  | _, _, _, 0, _, h => absurd h (by omega)
  | n, a, b, N + 1, hb, hN => by
    unfold iter gcdB
    by_cases h0 : b = 0
    · subst h0
      exact ⟨a, rfl, by simp [Int.gcd]⟩
    · have h1 := tmod_abs a b h0
      obtain ⟨m, rfl⟩ : ∃ m, n = m + 1 := ⟨n - 1, by omega⟩
      obtain ⟨g, hg, he⟩ := gcd_iter m b (a.tmod b) N (by omega) (by omega)
      refine ⟨g, ?_, by rw [he, gcd_step]⟩
      simp only
      rw [if_pos (by simpa using h0), if_pos h0]
      exact hg
theorem gcd_big {a b : Int} (hb : inJ b) : ∃ g : Int, iter gcdB big (a, b) = some g ∧ g.natAbs = Int.gcd a b :=
  gcd_iter b.natAbs a b big (Nat.le_refl _) (by unfold big; unfold inJ at hb; omega)
theorem gcd_le {a b : Int} (ha : inJ a) (hb : inJ b) : Int.gcd a b ≤ 9223372036854775807 := by
  unfold inJ at ha hb
  by_cases h : a = 0
  · subst h; simp [Int.gcd]; omega
  · have : Int.gcd a b ≤ a.natAbs := Nat.le_of_dvd (by omega) (Int.gcd_dvd_natAbs_left a b)
    omega
def az (n : Int) : Int := max n (-n)
theorem az_abs (n : Int) : az n = (n.natAbs : Int) := by unfold az; omega
theorem sizeB_eq {n : Int} (h : inJ n) : B_Size n = some (az n) := by
  unfold inJ at h
  unfold B_Size az
  rw [wr64 (x := 0 - n) (by omega)]
  congr 1
  split <;> omega
theorem sizeG_eq {n : Int} (h : inJ n) : G_size n = some (az n) := by
  unfold inJ at h
  unfold G_size az
  rw [wr64 (x := 0 - n) (by omega)]
  congr 1
  split <;> omega
theorem gcdR_eq {a b : Int} (ha : inJ a) (hb : inJ b) : B_Gcd a b = some (Int.gcd a b : Int) := by
  obtain ⟨g, h1, h2⟩ := gcd_big (a := a) hb
  have h3 := gcd_le ha hb
  unfold B_Gcd
  rw [show iter B_Gcd_b0 big (a, b) = some g from h1, bind_some']
  unfold B_Gcd_r0
  rw [sizeB_eq (by unfold inJ; omega), bind_some', az_abs, h2]
def lowS (num den : Int) : Int × Int := if den < 0 then (num.tdiv (-(Int.gcd num den : Int)), den.tdiv (-(Int.gcd num den : Int))) else (num.tdiv (Int.gcd num den), den.tdiv (Int.gcd num den))
theorem tdiv_in {a : Int} {g : Int} (ha : inJ a) (hg : 0 < g) : inJ (a.tdiv g) := by
  unfold inJ at *
  have h1 := tdiv_bounds (n := a) hg
  omega
theorem low_any {num den : Int} (hn : inJ num) (hd : inJ den) (h0 : den ≠ 0) :
    (if den < (0 : Int) then
      if IntKind.wrap IntKind.i64 ((0 : Int) - (Int.gcd num den : Int)) ≠ (0 : Int) then
       if IntKind.wrap IntKind.i64 ((0 : Int) - (Int.gcd num den : Int)) ≠ (0 : Int) then
        some ((IntKind.wrap IntKind.i64 (Int.tdiv num (IntKind.wrap IntKind.i64 ((0 : Int) - (Int.gcd num den : Int)))), IntKind.wrap IntKind.i64 (Int.tdiv den (IntKind.wrap IntKind.i64 ((0 : Int) - (Int.gcd num den : Int))))))
       else none
      else none
     else
      if (Int.gcd num den : Int) ≠ (0 : Int) then
       if (Int.gcd num den : Int) ≠ (0 : Int) then
        some ((IntKind.wrap IntKind.i64 (Int.tdiv num (Int.gcd num den : Int)), IntKind.wrap IntKind.i64 (Int.tdiv den (Int.gcd num den : Int))))
       else none
      else none) = some (lowS num den) := by
  have hg := gcd_le hn hd
  have hp : 0 < Int.gcd num den := Int.gcd_pos_of_ne_zero_right _ h0
  have t1 := tdiv_in (g := (Int.gcd num den : Int)) hn (by omega)
  have t2 := tdiv_in (g := (Int.gcd num den : Int)) hd (by omega)
  unfold inJ at t1 t2
  unfold lowS
  by_cases hneg : den < 0
  · rw [if_pos hneg, if_pos hneg, wr64 (x := 0 - (Int.gcd num den : Int)) (by omega), if_pos (by omega), if_pos (by omega), Int.zero_sub, Int.tdiv_neg, Int.tdiv_neg, wr64 (by omega), wr64 (by omega)]
  · rw [if_neg hneg, if_neg hneg, if_pos (by omega), if_pos (by omega), wr64 (by omega), wr64 (by omega)]
theorem lowestR_eq {num den : Int} (hn : inJ num) (hd : inJ den) (h0 : den ≠ 0) : B_Lowest num den = some (lowS num den) := by
  unfold B_Lowest
  rw [gcdR_eq hn hd, bind_some']
  exact low_any hn hd h0
def cmpS (n d m k : Int) : Int := if n * k < m * d then -1 else if m * d < n * k then 1 else 0
theorem cmp_step {n d m k : Int} (hn : 0 ≤ n) (hd : 0 < d) (hm : 0 ≤ m) (hk : 0 < k) :
    cmpS n d m k = if n / d < m / k then -1 else if n / d > m / k then 1 else cmpS (n % d) d (m % k) k := by
  have a1 := Int.mul_ediv_add_emod n d
  have a2 := Int.emod_nonneg n (show d ≠ 0 by omega)
  have a3 := Int.emod_lt_of_pos n hd
  have b1 := Int.mul_ediv_add_emod m k
  have b2 := Int.emod_nonneg m (show k ≠ 0 by omega)
  have b3 := Int.emod_lt_of_pos m hk
  generalize n / d = q at *
  generalize n % d = r at *
  generalize m / k = q' at *
  generalize m % k = r' at *
  have e1 : n * k = q * (d * k) + r * k := by rw [← a1, Int.add_mul, Int.mul_comm d q, Int.mul_assoc]
  have e2 : m * d = q' * (d * k) + r' * d := by rw [← b1, Int.add_mul, Int.mul_comm k q', Int.mul_assoc, Int.mul_comm k d]
  have e3 : r * k < d * k := Int.mul_lt_mul_of_pos_right a3 hk
  have e4 : r' * d < d * k := by rw [Int.mul_comm d k]; exact Int.mul_lt_mul_of_pos_right b3 hd
  have e5 : 0 ≤ r * k := Int.mul_nonneg a2 (by omega)
  have e6 : 0 ≤ r' * d := Int.mul_nonneg b2 (by omega)
  unfold cmpS
  rw [e1, e2]
  by_cases c1 : q < q'
  · have := Int.mul_le_mul_of_nonneg_right (show q + 1 ≤ q' by omega) (show 0 ≤ d * k by omega)
    rw [Int.add_mul] at this
    rw [if_pos c1, if_pos (by omega)]
  · by_cases c2 : q > q'
    · have := Int.mul_le_mul_of_nonneg_right (show q' + 1 ≤ q by omega) (show 0 ≤ d * k by omega)
      rw [Int.add_mul] at this
      rw [if_neg c1, if_pos c2, if_neg (by omega), if_pos (by omega)]
    · have : q = q' := by omega
      subst this
      rw [if_neg c1, if_neg c2]
      by_cases d1 : r * k < r' * d
      · rw [if_pos d1, if_pos (by omega)]
      · rw [if_neg d1, if_neg (by omega)]
        by_cases d2 : r' * d < r * k
        · rw [if_pos d2, if_pos (by omega)]
        · rw [if_neg d2, if_neg (by omega)]
theorem cmp_turn (r d r' k : Int) : cmpS k r' d r = cmpS r d r' k := by
  unfold cmpS
  rw [Int.mul_comm k r, Int.mul_comm d r']
theorem compare_iter : ∀ (s : Nat) (n d m k : Int) (N : Nat), 0 ≤ n → n ≤ 9223372036854775807 → 0 < d → d ≤ 9223372036854775807 → 0 ≤ m → m ≤ 9223372036854775807 → 0 < k → k ≤ 9223372036854775807 → d + k ≤ s → s < N → iter y78 N (n, d, m, k) = some (cmpS n d m k) := by
  intro s
  induction s with
  | zero =>
    intro n d m k N _ _ h _ _ _ h' _ hs _
    omega
  | succ s ih =>
    intro n d m k N hn hn' hd hd' hm hm' hk hk' hs hN
    obtain ⟨N, rfl⟩ : ∃ M, N = M + 1 := ⟨N - 1, by omega⟩
    rw [cmp_step hn hd hm hk]
    unfold iter y78
    dsimp only
    rw [floor_eq hd (by omega), bind_some', floor_eq hk (by omega), bind_some']
    have a1 := Int.mul_ediv_add_emod n d
    have a2 := Int.emod_nonneg n (show d ≠ 0 by omega)
    have a3 := Int.emod_lt_of_pos n hd
    have a4 : 0 ≤ d * (n / d) := Int.mul_nonneg (by omega) (Int.ediv_nonneg hn (by omega))
    have b4 : 0 ≤ k * (m / k) := Int.mul_nonneg (by omega) (Int.ediv_nonneg hm (by omega))
    have b1 := Int.mul_ediv_add_emod m k
    have b2 := Int.emod_nonneg m (show k ≠ 0 by omega)
    have b3 := Int.emod_lt_of_pos m hk
    have e1 : IntKind.wrap .i64 (n - IntKind.wrap .i64 (n / d * d)) = n % d := by
      rw [Int.mul_comm (n / d) d, wr64 (x := d * (n / d)) (by omega), wr64 (by omega)]
      omega
    have e2 : IntKind.wrap .i64 (m - IntKind.wrap .i64 (m / k * k)) = m % k := by
      rw [Int.mul_comm (m / k) k, wr64 (x := k * (m / k)) (by omega), wr64 (by omega)]
      omega
    rw [e1, e2]
    by_cases c1 : n / d < m / k
    · rw [if_pos c1, if_pos c1]
    · rw [if_neg c1, if_neg c1]
      by_cases c2 : n / d > m / k
      · rw [if_pos c2, if_pos c2]
      · rw [if_neg c2, if_neg c2]
        clear a1 b1 e1 e2 a4 b4
        generalize n % d = r at *
        generalize m % k = r' at *
        by_cases d1 : r = 0
        · subst d1
          rw [if_pos (by rfl)]
          by_cases d2 : r' = 0
          · subst d2
            rw [if_pos (by rfl)]
            dsimp only
            unfold cmpS
            rw [Int.zero_mul, Int.zero_mul, if_neg (by omega), if_neg (by omega)]
          · rw [if_neg (by simpa using d2), if_pos (by rfl)]
            dsimp only
            unfold cmpS
            rw [Int.zero_mul, if_pos (Int.mul_pos (by omega) hd)]
        · rw [if_neg (by simpa using d1), if_neg (by simpa using d1)]
          by_cases d2 : r' = 0
          · subst d2
            rw [if_pos (by rfl)]
            dsimp only
            have := Int.mul_pos (show 0 < r by omega) hk
            unfold cmpS
            rw [Int.zero_mul, if_neg (by omega), if_pos this]
          · rw [if_neg (by simpa using d2)]
            dsimp only
            exact (ih k r' d r N (by omega) (by omega) (by omega) (by omega) (by omega) (by omega) (by omega) (by omega) (by omega) (by omega)).trans (congrArg some (cmp_turn r d r' k))
theorem compare_eq {n d m k : Int} (hn : 0 ≤ n) (hn' : n ≤ 9223372036854775807) (hd : 0 < d) (hd' : d ≤ 9223372036854775807) (hm : 0 ≤ m) (hm' : m ≤ 9223372036854775807) (hk : 0 < k) (hk' : k ≤ 9223372036854775807) :
    y3 n d m k = some (cmpS n d m k) := by
  unfold y3
  rw [compare_iter (d + k).toNat n d m k big hn hn' hd hd' hm hm' hk hk' (by omega) (by unfold big; omega), bind_some']
  rfl
theorem withinB_eq (n lo hi : Int) : y67 n lo hi = some (decide (lo ≤ n ∧ n ≤ hi)) := by
  unfold y67
  by_cases h : lo ≤ n <;> simp [h]
theorem withinG_eq (n lo hi : Int) : y8 n lo hi = some (decide (lo ≤ n ∧ n ≤ hi)) := by
  unfold y8
  by_cases h : lo ≤ n <;> simp [h]
theorem unless_eq (b : Bool) (e : Int) : y7 b e = some (if b = true then 0 else e) := by
  unfold y7
  cases b <;> rfl
theorem ceilB_eq {n b : Int} (hb : 0 < b) (hn : -9223372036854775807 ≤ n ∧ n ≤ 9223372036854775807) : B_Ceil n b = some (-(-n / b)) := by
  have := ediv_bounds (n := -n) hb
  unfold B_Ceil
  rw [wr64 (x := 0 - n) (by omega), Int.zero_sub, floor_eq hb (by omega), bind_some', wr64 (by omega), Int.zero_sub]
theorem ceil_pos {n b : Int} (hb : 0 < b) : -(-n / b) = (n + b - 1) / b := by
  have h1 := Int.mul_ediv_add_emod (-n) b
  have h2 := Int.emod_nonneg (-n) (show b ≠ 0 by omega)
  have h3 := Int.emod_lt_of_pos (-n) hb
  generalize -n / b = q at *
  generalize -n % b = r at *
  symm
  have e : n + b - 1 = b * (-q) + (b - 1 - r) := by rw [Int.mul_neg]; omega
  rw [e, Int.add_comm, Int.add_mul_ediv_left _ _ (by omega), Int.ediv_eq_zero_of_lt (by omega) (by omega)]
  omega
theorem ceilG_eq {n b : Int} (hb : 0 < b) (hn : 0 ≤ n) (h : n + b ≤ 9223372036854775807) : G_ceil n b = some ((n + b - 1) / b) := by
  have h1 : 0 ≤ (n + b - 1) / b := Int.ediv_nonneg (by omega) (by omega)
  have h2 : (n + b - 1) / b ≤ n + b - 1 := Int.ediv_le_self b (by omega)
  unfold G_ceil
  rw [if_pos (by omega), wr64 (x := n + b) (by omega), wr64 (x := n + b - 1) (by omega), Int.tdiv_eq_ediv_of_nonneg (by omega), wr64 (by omega)]
def firE (l : List Int) : Int := (l.find? (fun x => x != 0)).getD 0
theorem first_eq {l : List Int} (hl : l.length < 1000000) : y18 l = some (firE l) := by
  have h := iter_first l 0 (fun n => n != 0) (body := y91 l) (fun i => .inl (l.getD i 0)) (.inr ()) (by omega)
    (fun i hi hp => by
      unfold y91
      rw [if_pos (by omega), if_pos (by omega), if_pos (by omega), Int.toNat_natCast, if_pos hp])
    (fun i hi hp => by
      unfold y91
      rw [if_pos (by omega), if_pos (by omega), if_pos (by omega), Int.toNat_natCast, if_neg (by rw [hp]; simp), wr64 (by omega)])
    (by unfold y91; rw [if_neg (by omega)])
  unfold y18
  rw [h, bind_some']
  unfold firE
  cases hf : l.findIdx? (fun n => n != 0) with
  | none =>
    rw [List.findIdx?_eq_none_iff] at hf
    have : l.find? (fun x => x != 0) = none := List.find?_eq_none.2 fun x hx => by rw [hf x hx]; simp
    rw [this]; rfl
  | some k =>
    rw [List.findIdx?_eq_some_iff_getElem] at hf
    obtain ⟨hk, hp, hbef⟩ := hf
    have : l.find? (fun x => x != 0) = some l[k] := List.find?_eq_some_iff_getElem.2 ⟨hp, k, hk, rfl, fun j hj => by have := hbef j hj; simpa using this⟩
    rw [this]
    simp [List.getD, hk, y134, G_first_r0_0]
theorem firE2 (a b : Int) : firE [a, b] = if a ≠ 0 then a else b := by
  unfold firE
  by_cases h : a = 0
  · by_cases h2 : b = 0 <;> simp [h, h2]
  · simp [h]
theorem firE3 (a b c : Int) : firE [a, b, c] = if a ≠ 0 then a else if b ≠ 0 then b else c := by
  unfold firE
  by_cases h : a = 0
  · by_cases h2 : b = 0
    · by_cases h3 : c = 0 <;> simp [h, h2, h3]
    · simp [h, h2]
  · simp [h]
end Go.Sh
end

section
namespace Go.Sh
open Go Go.Proofs Go.RowKit Go.Sx Go.Sx06 Ieee Go.Fl
def KK : Nat := 1100
def PP : Nat := 2 ^ KK
theorem PP_pos : 0 < PP := Nat.two_pow_pos _
theorem cmp_eq (a b : Int) : (some (compare a b) == some Ordering.eq) = decide (a = b) := by
  rcases Int.lt_trichotomy a b with h | h | h
  · rw [Int.compare_eq_lt.2 h, decide_eq_false (by omega)]; rfl
  · rw [Int.compare_eq_eq.2 h, decide_eq_true h]; rfl
  · rw [Int.compare_eq_gt.2 h, decide_eq_false (by omega)]; rfl
theorem cmp_lt (a b : Int) : (some (compare a b) == some Ordering.lt) = decide (a < b) := by
  rcases Int.lt_trichotomy a b with h | h | h
  · rw [Int.compare_eq_lt.2 h, decide_eq_true h]; rfl
  · rw [Int.compare_eq_eq.2 h, decide_eq_false (by omega)]; rfl
  · rw [Int.compare_eq_gt.2 h, decide_eq_false (by omega)]; rfl
theorem cmp_gt (a b : Int) : (some (compare a b) == some Ordering.gt) = decide (b < a) := by
  rcases Int.lt_trichotomy a b with h | h | h
  · rw [Int.compare_eq_lt.2 h, decide_eq_false (by omega)]; rfl
  · rw [Int.compare_eq_eq.2 h, decide_eq_false (by omega)]; rfl
  · rw [Int.compare_eq_gt.2 h, decide_eq_true h]; rfl
def seD : Datum → Int
  | .number _ m e => if 16777216 * PP ≤ mg KK m e then 2 else if mg KK m e / PP * PP ≠ mg KK m e then 27 else if mg KK m e / PP ≤ 32767 then 0 else 2
  | _ => 27
def se (b : Nat) : Int := seD (FloatKind.decode .f32 b)
theorem mg_up (m : Nat) (e : Nat) : mg KK m (e : Int) = m * 2 ^ e * PP := by
  unfold mg PP
  rw [Nat.mul_assoc, ← Nat.pow_add]
  congr 2
theorem sg_f (a : Nat) : sg false a = (a : Int) := rfl
theorem sg_t (a : Nat) : sg true a = -(a : Int) := rfl
theorem toIntP {s : Bool} {m : Nat} {i : Int} (hi : 0 ≤ i + KK) : Datum.toInt .zero (.number s m i) = some (sg s (mg KK m i / PP)) := toInt_mg KK hi
theorem near32P {n : Int} (hn : -16777216 < n ∧ n < 16777216) : ∃ m e, FloatKind.decode .f32 (FloatKind.nearest .f32 n) = .number (decide (n < 0)) m e ∧ mg KK m e = n.natAbs * PP ∧ -149 ≤ e := near32 KK (by unfold KK; omega) hn
theorem mg_24 : mg KK 8388608 1 = 16777216 * PP := by
  have := mg_up 8388608 1
  rw [show (8388608 * 2 ^ 1 : Nat) = 16777216 from rfl] at this
  exact this
theorem mg_16 : mg KK 5000000000000000 1 = 10000000000000000 * PP := by
  have := mg_up 5000000000000000 1
  rw [show (5000000000000000 * 2 ^ 1 : Nat) = 10000000000000000 from rfl] at this
  exact this
theorem PP_eq : PP = 2 ^ KK := rfl
attribute [irreducible] PP
theorem sub_self (f : Format) {b : Nat} {s : Bool} {m : Nat} {e : Int} (h : f.read b = .number s m e) : f.sub b b = some 0 := by
  unfold Format.sub
  rw [h, sum_self]
  simp [Format.write, Format.nearest, Format.word]
theorem sub_inf (f : Format) {b : Nat} {s : Bool} (h : f.read b = .infinity s) : f.sub b b = none := by
  unfold Format.sub
  rw [h]
  cases s <;> rfl
theorem sampleErrF_eq (b : Nat) : y72 b = some (se b) := by
  have hz : Format.order single 0 0 = some .eq := by decide
  unfold y72 se FloatKind.decode
  simp only [show FloatKind.format .f32 = single from rfl]
  rcases read32 b with ⟨s, m, e, h, hm, he1, he2⟩ | ⟨s, h⟩ | ⟨s, t, h⟩
  · have h1 : single.order b b = some .eq := by
      unfold Format.order
      rw [h, order_mg KK (by unfold KK; omega) (by unfold KK; omega), Int.compare_eq_eq.2 rfl]
    have hA : single.order b 1266679808 = some (compare (sg s (mg KK m e)) ((16777216 * PP : Nat) : Int)) := by
      unfold Format.order
      have hc : single.read 1266679808 = .number false 8388608 1 := by decide
      rw [h, hc, order_mg KK (by unfold KK; omega) (by unfold KK; omega)]
      rw [mg_24]
      first | rw [sg_f] | rw [sg_t]
    have hB : single.order b 3414163456 = some (compare (sg s (mg KK m e)) (-((16777216 * PP : Nat) : Int))) := by
      unfold Format.order
      have hc : single.read 3414163456 = .number true 8388608 1 := by decide
      rw [h, hc, order_mg KK (by unfold KK; omega) (by unfold KK; omega)]
      rw [mg_24]
      first | rw [sg_f] | rw [sg_t]
    have hT : Datum.toInt .zero (FloatKind.decode .f32 b) = some (sg s (mg KK m e / PP)) := by
      unfold FloatKind.decode
      simp only [show FloatKind.format .f32 = single from rfl]
      rw [h, toIntP (by unfold KK; omega)]
    rw [h1, sub_self single h, hA, hB]
    simp only [Option.isSome_some, Option.getD_some, hz, if_true, bne_self_eq_false, Bool.false_eq_true, if_false, cmp_gt, cmp_eq, cmp_lt, h, seD]
    generalize hg : mg KK m e = A at *
    have hP := PP_pos
    have hdm := Nat.div_add_mod A PP
    rw [Nat.mul_comm] at hdm
    have hml := Nat.mod_lt A hP
    have hq : f2i .f32 b = sg s (A / PP) := by unfold f2i; rw [hT]; rfl
    by_cases hbig : 16777216 * PP ≤ A
    · rw [if_pos hbig]
      cases s
      · rw [if_pos]
        simp only [sg, Bool.false_eq_true, if_false, Bool.or_eq_true, decide_eq_true_eq]
        omega
      · rw [if_neg, if_pos]
        · simp only [sg, if_true, Bool.or_eq_true, decide_eq_true_eq]
          omega
        · simp only [sg, if_true, Bool.or_eq_true, decide_eq_true_eq]
          omega
    · rw [if_neg hbig]
      have hd : A / PP < 16777216 := (Nat.div_lt_iff_lt_mul hP).2 (by omega)
      generalize A / PP = Q at *
      generalize A % PP = R at *
      generalize hQP : Q * PP = QP at *
      have hn : -16777216 < sg s Q ∧ sg s Q < 16777216 := by cases s <;> simp only [sg, Bool.false_eq_true, if_false, if_true] <;> omega
      have hok : f2iOk .f32 .i64 b = true := by
        unfold f2iOk
        rw [hT]
        have e1 : IntKind.i64.min = -9223372036854775808 := rfl
        have e2 : IntKind.i64.max = 9223372036854775807 := rfl
        simp only [e1, e2, decide_eq_true_eq]
        omega
      rw [if_neg, if_neg, if_pos hok]
      · obtain ⟨m', e', h3, h4, h5⟩ := near32P hn
        have hC : single.order (FloatKind.nearest .f32 (f2i .f32 b)) b = some (compare (sg s Q * (PP : Int)) (sg s A)) := by
          unfold Format.order
          have h3' : single.read (FloatKind.nearest .f32 (f2i .f32 b)) = .number (decide (sg s Q < 0)) m' e' := by rw [hq]; exact h3
          rw [h3', h, order_mg KK (by unfold KK; omega) (by unfold KK; omega), h4, hg, sg_mul, sg_natAbs]
        rw [hC]
        have hne : (some (compare (sg s Q * (PP : Int)) (sg s A)) != some Ordering.eq) = decide (QP ≠ A) := by
          rw [bne, cmp_eq]
          have : (sg s Q * (PP : Int) = sg s A) ↔ QP = A := by
            rw [← sg_mul, hQP]
            cases s <;> simp only [sg, Bool.false_eq_true, if_false, if_true] <;> omega
          by_cases hw : QP = A
          · rw [decide_eq_true (this.2 hw), decide_eq_false (by omega)]; rfl
          · rw [decide_eq_false (fun h => hw (this.1 h)), decide_eq_true hw]; rfl
        rw [hne, hq]
        by_cases hw : QP = A
        · rw [decide_eq_false (show ¬ (QP ≠ A) by omega), if_neg Bool.false_ne_true, if_neg (show ¬ (QP ≠ A) by omega)]
          rw [if_pos hok]
          rw [sizeG_eq (by unfold inJ; omega), bind_some', unless_eq, bind_some']
          have hb : (decide (az (sg s Q) ≤ 32767) = true) ↔ (Q ≤ 32767) := by
            rw [decide_eq_true_eq, az]
            cases s <;> simp only [sg, Bool.false_eq_true, if_false, if_true] <;> omega
          by_cases hQ : Q ≤ 32767
          · rw [if_pos hQ, if_pos (hb.2 hQ)]
          · rw [if_neg hQ, if_neg (fun h => hQ (hb.1 h))]
        · rw [decide_eq_true (show QP ≠ A from hw), if_pos rfl, if_pos hw]
      · cases s <;> simp only [sg, Bool.false_eq_true, if_false, if_true, Bool.or_eq_true, decide_eq_true_eq] <;> omega
      · cases s <;> simp only [sg, Bool.false_eq_true, if_false, if_true, Bool.or_eq_true, decide_eq_true_eq] <;> omega
  · have h1 : single.order b b = some .eq := by
      unfold Format.order
      rw [h]
      cases s <;> rfl
    rw [h1, sub_inf single h, h]
    rfl
  · have h1 : single.order b b = none := by
      unfold Format.order
      rw [h]
      rfl
    rw [h1, h]
    rfl
end Go.Sh
end

section
namespace Go.Sh
open Go Go.Proofs Go.RowKit Go.Sx Go.Sx06 Ieee Go.Fl
theorem dbl {b : Nat} {s : Bool} {m : Nat} {e : Int} (h : single.read b = .number s m e) (hm : m < 16777216) (he1 : -149 ≤ e) (he2 : e ≤ 104) :
    ∃ m' e', double.read (to64 b) = .number s m' e' ∧ mg KK m' e' = mg KK m e ∧ -1074 ≤ e' ∧ m' < 9007199254740992 := by
  have e0 : to64 b = double.write (.number s m e) := by
    unfold to64 FloatKind.encode FloatKind.decode
    simp only [show FloatKind.format .f32 = single from rfl, show FloatKind.format .f64 = double from rfl, h]
  rw [e0]
  by_cases h0 : m = 0
  · subst h0
    exact ⟨0, -1074, zero64 s e, by simp [mg], by omega, by omega⟩
  · obtain ⟨h1, h2⟩ := round64 (s := s) h0 (by omega) (show -1000 ≤ e by omega) (show e ≤ 900 by omega)
    have hw := write64 (s := s) h0 (by omega) (show -1000 ≤ e by omega) (show e ≤ 900 by omega)
    refine ⟨_, _, h1, ?_, by omega, hw.2.2.2⟩
    unfold mg
    rw [Nat.mul_assoc, ← Nat.pow_add]
    congr 2
    unfold KK
    omega
theorem even_cut {s : Bool} {n : Nat} (h2 : n % 2 = 0) (hn : 2 ≤ n) : Toward.cut .even s n 1 = n / 2 := by
  have hg : (1 <<< min 1 (n.log2 + 2)) = 2 := by rw [Nat.min_eq_left (by omega)]; rfl
  simp [Toward.cut, hg, h2]
theorem near64 {n : Int} (hn : n.natAbs < 18014398509481984) (he : 9007199254740992 ≤ n.natAbs → n.natAbs % 2 = 0) :
    ∃ m e, double.read (FloatKind.nearest .f64 n) = .number (decide (n < 0)) m e ∧ mg KK m e = n.natAbs * PP ∧ -1074 ≤ e := by
  have e0 : FloatKind.nearest .f64 n = double.write (.number (decide (n < 0)) n.natAbs 0) := rfl
  rw [e0]
  generalize decide (n < 0) = s
  generalize n.natAbs = a at *
  by_cases h0 : a = 0
  · subst h0
    exact ⟨0, -1074, zero64 s 0, by simp [mg], by omega⟩
  · by_cases hs : a < 9007199254740992
    · obtain ⟨h1, h2⟩ := round64 (s := s) h0 hs (show (-1000 : Int) ≤ 0 by omega) (show (0 : Int) ≤ 900 by omega)
      refine ⟨_, _, h1, ?_, by omega⟩
      rw [PP_eq]; unfold mg
      rw [Nat.mul_assoc, ← Nat.pow_add]
      congr 2
      unfold KK
      omega
    · have hev := he (by omega)
      have hl : a.log2 = 53 := by
        have h1 := (Nat.log2_lt h0 (k := 54)).2 (by omega)
        have h2 : ¬ a.log2 < 53 := fun h => by have := (Nat.log2_lt h0 (k := 53)).1 h; omega
        omega
      have e2 : double.binade = 4503599627370496 := rfl
      have e3 : double.infRung = 9218868437227405312 := rfl
      have e4 : double.leastPlace = -1074 := rfl
      have e5 : double.fractionBits = 52 := rfl
      have hw : double.write (.number s a 0) = double.word s (1075 * 4503599627370496 + a / 2) := by
        simp only [Format.write, Format.nearest, if_neg h0, e2, e3, e4, e5, hl]
        have hlast : max ((0 : Int) + ((53 : Nat) : Int) - ((52 : Nat) : Int)) (-1074) = 1 := by omega
        rw [hlast]
        have ha : ((0 : Int) - 1).toNat = 0 := by omega
        have hb : ((1 : Int) - 0).toNat = 1 := by omega
        rw [ha, hb, Nat.shiftLeft_zero, even_cut hev (by omega)]
        have hc : ((1 : Int) - -1074).toNat = 1075 := by omega
        rw [hc, Nat.min_eq_left (by omega)]
      rw [hw, read_word64 (by omega) (by omega)]
      refine ⟨_, _, rfl, ?_, by omega⟩
      have hb : (1075 * 4503599627370496 + a / 2) / 4503599627370496 - 1 = 1075 := by omega
      have ha : 4503599627370496 + (1075 * 4503599627370496 + a / 2) % 4503599627370496 = a / 2 := by omega
      rw [ha, hb]
      have hc : (-1074 : Int) + ((1075 : Nat) : Int) = ((1 : Nat) : Int) := by omega
      rw [hc, mg_up]
      congr 1
      omega
theorem isWhole_eq {f : Nat} {s : Bool} {m : Nat} {e : Int} (h : double.read f = .number s m e) (he : -1074 ≤ e) (hm : m < 9007199254740992) :
    y79 f = some (decide (10000000000000000 * PP < mg KK m e ∨ mg KK m e / PP * PP = mg KK m e)) := by
  have hz : Format.order double 0 0 = some .eq := by decide
  have h1 : double.order f f = some .eq := by
    unfold Format.order
    rw [h, order_mg KK (by unfold KK; omega) (by unfold KK; omega), Int.compare_eq_eq.2 rfl]
  have hA : double.order f 14069741636278059008 = some (compare (sg s (mg KK m e)) (-((10000000000000000 * PP : Nat) : Int))) := by
    unfold Format.order
    have hc : double.read 14069741636278059008 = .number true 5000000000000000 1 := by decide
    rw [h, hc, order_mg KK (by unfold KK; omega) (by unfold KK; omega)]
    rw [mg_16]
    first | rw [sg_f] | rw [sg_t]
  have hB : double.order f 4846369599423283200 = some (compare (sg s (mg KK m e)) ((10000000000000000 * PP : Nat) : Int)) := by
    unfold Format.order
    have hc : double.read 4846369599423283200 = .number false 5000000000000000 1 := by decide
    rw [h, hc, order_mg KK (by unfold KK; omega) (by unfold KK; omega)]
    rw [mg_16]
    first | rw [sg_f] | rw [sg_t]
  have hT : Datum.toInt .zero (FloatKind.decode .f64 f) = some (sg s (mg KK m e / PP)) := by
    unfold FloatKind.decode
    simp only [show FloatKind.format .f64 = double from rfl]
    rw [h, toIntP (by unfold KK; omega)]
  have hq : f2i .f64 f = sg s (mg KK m e / PP) := by unfold f2i; rw [hT]; rfl
  have hev : 9007199254740992 ≤ mg KK m e / PP → mg KK m e / PP % 2 = 0 := by
    intro hge
    by_cases hp : 0 ≤ e
    · obtain ⟨d, rfl⟩ : ∃ d : Nat, e = d := ⟨e.toNat, by omega⟩
      rw [mg_up, Nat.mul_div_cancel _ PP_pos] at hge ⊢
      cases d with
      | zero => simp at hge; omega
      | succ d => rw [Nat.pow_succ, ← Nat.mul_assoc]; exact Nat.mul_mod_left _ _
    · have hlt : mg KK m e / PP < 9007199254740992 := by
        rw [Nat.div_lt_iff_lt_mul PP_pos]
        rw [PP_eq]; unfold mg
        have h2 : 2 ^ (e + KK).toNat ≤ 2 ^ KK := Nat.pow_le_pow_right (by omega) (by omega)
        calc m * 2 ^ (e + KK).toNat ≤ m * 2 ^ KK := Nat.mul_le_mul_left _ h2
          _ < 9007199254740992 * 2 ^ KK := Nat.mul_lt_mul_of_pos_right hm (Nat.two_pow_pos _)
      omega
  unfold y79
  simp only [show FloatKind.format .f64 = double from rfl]
  rw [h1, sub_self double h, hA, hB]
  simp only [Option.isSome_some, Option.getD_some, hz, if_true, bne_self_eq_false, Bool.false_eq_true, if_false, cmp_gt, cmp_eq, cmp_lt]
  generalize hg : mg KK m e = A at *
  have hP := PP_pos
  have hdm := Nat.div_add_mod A PP
  rw [Nat.mul_comm] at hdm
  have hml := Nat.mod_lt A hP
  by_cases hbig : 10000000000000000 * PP < A
  · rw [decide_eq_true (show _ ∨ _ from .inl hbig)]
    cases s
    · rw [if_pos, if_pos]
      · simp only [sg, Bool.false_eq_true, if_false, Bool.not_eq_true', Bool.or_eq_false_iff, decide_eq_false_iff_not]
        omega
      · simp only [sg, Bool.false_eq_true, if_false, Bool.or_eq_true, decide_eq_true_eq]
        omega
    · rw [if_neg]
      simp only [sg, if_true, Bool.or_eq_true, decide_eq_true_eq]
      omega
  · have hd : A / PP ≤ 10000000000000000 := by
      have : A / PP < 10000000000000001 := by rw [Nat.div_lt_iff_lt_mul hP]; omega
      omega
    generalize A / PP = Q at *
    generalize A % PP = R at *
    generalize hQP : Q * PP = QP at *
    rw [if_pos, if_neg]
    · have hok : f2iOk .f64 .i64 f = true := by
        unfold f2iOk
        rw [hT]
        have e1 : IntKind.i64.min = -9223372036854775808 := rfl
        have e2 : IntKind.i64.max = 9223372036854775807 := rfl
        simp only [e1, e2, decide_eq_true_eq]
        cases s <;> simp only [sg, Bool.false_eq_true, if_false, if_true] <;> omega
      rw [if_pos hok]
      have habs : (sg s Q).natAbs = Q := by cases s <;> simp only [sg, Bool.false_eq_true, if_false, if_true] <;> omega
      obtain ⟨m', e', h3, h4, h5⟩ := near64 (n := sg s Q) (by rw [habs]; omega) (by rw [habs]; exact hev)
      have hC : double.order (FloatKind.nearest .f64 (f2i .f64 f)) f = some (compare (sg s Q * (PP : Int)) (sg s A)) := by
        unfold Format.order
        rw [hq, h3, h, order_mg KK (by unfold KK; omega) (by unfold KK; omega), h4, hg, sg_mul, sg_natAbs]
      rw [hC, cmp_eq, ← sg_mul, hQP]
      congr 1
      rw [decide_eq_decide]
      cases s <;> simp only [sg, Bool.false_eq_true, if_false, if_true] <;> omega
    · simp only [Bool.not_eq_true', Bool.or_eq_false_iff, decide_eq_false_iff_not]
      cases s <;> simp only [sg, Bool.false_eq_true, if_false, if_true] <;> omega
    · simp only [Bool.or_eq_true, decide_eq_true_eq]
      cases s <;> simp only [sg, Bool.false_eq_true, if_false, if_true] <;> omega
end Go.Sh
end

section
namespace Go.Sh
open Go Go.Proofs Go.RowKit Go.Sx
set_option linter.unusedVariables false
def k_R05_Copy : List SV := [.a [.d, .r (.floats .f32 []), .d, .d]]
def y103 (u5 : Int) (u0 : List Nat) (u6 : Int) (u1 : Int) : Option (Int × List Nat × Int × Int) :=
  Option.bind (y43 u5 u0) fun r0 =>
  some (r0.1, r0.2, u6, u1)
def g_R05_Copy : List Lf → Option GT
  | [.d (.i .i64 u5), .r (.floats .f32 u0), .d (.i .i64 u6), .d (.i .i64 u1)] => some (.leaf (ok (y103 u5 u0 u6 u1)) [.s [.d (.i .i64 ((val (y103 u5 u0 u6 u1)).1)), .row 151 (.floats .f32 ((val (y103 u5 u0 u6 u1)).2.1)), .d (.i .i64 ((val (y103 u5 u0 u6 u1)).2.2.1)), .d (.i .i64 ((val (y103 u5 u0 u6 u1)).2.2.2))]])
  | _ => none
abbrev sp_20 : Specs → Specs := addK 20 true (pureT k_R05_Copy g_R05_Copy)
set_option maxRecDepth 100000 in
def R05_Copy_t (u5 : Int) (u0 : List Nat) (u6 : Int) (u1 : Int) : T (Int × List Nat × Int × Int) :=
 .call (y43 u5 u0) fun r0 =>
  .obT
  (.ret ((r0.1, r0.2, u6, u1)) (fun r => (Ob (r0.1 = r.1) ∧
 (Ob (r0.2 = r.2.1) ∧
 (Ob (u6 = r.2.2.1) ∧
 (Ob (u1 = r.2.2.2) ∧
 True))))) ⟨⟨rfl⟩, ⟨⟨rfl⟩, ⟨⟨rfl⟩, ⟨⟨rfl⟩, trivial⟩⟩⟩⟩)
set_option maxRecDepth 100000 in
theorem R05_Copy_vc (u5 : Int) (u0 : List Nat) (u6 : Int) (u1 : Int) (r : Int × List Nat × Int × Int) (h : Option.bind (y103 u5 u0 u6 u1) some = some r) : runT Tryz.f20 ((sp_18 sp0)) (fun _ _ _ => none) (bldD k_R05_Copy [.d (.i .i64 u5), .r (.floats .f32 u0), .d (.i .i64 u6), .d (.i .i64 u1)]) [.s [.d (.i .i64 r.1), .row 151 (.floats .f32 r.2.1), .d (.i .i64 r.2.2.1), .d (.i .i64 r.2.2.2)]] :=
  T.vc (t := R05_Copy_t u5 u0 u6 u1) (by kernel_rfl) (by kernel_rfl) h
set_option maxRecDepth 100000 in
theorem R05_Copy_ok : SpecOK Tryz.prog 20 true (pureT k_R05_Copy g_R05_Copy) := by
  refine pureT_ok (sp := (sp_18 sp0)) (fn := Tryz.f20) (body := bodyOf Tryz.f20) mixed (sp_18_ok sp0_ok) Tryz.func20 (by kernel_rfl) (by kernel_rfl) fun ls t h ho b hb => ?_
  unfold g_R05_Copy at h
  split at h
  · rename_i u5 u0 u6 u1
    cases h
    obtain rfl := bld_eq hb
    exact ⟨Nat.le_of_ble_eq_true (by kernel_rfl), _, _, R05_Copy_vc u5 u0 u6 u1 _ (ok_some ho)⟩
  · cases h
theorem sp_20_ok {sp : Specs} (h : SpecsOK Tryz.prog sp) : SpecsOK Tryz.prog (sp_20 sp) := addK_ok R05_Copy_ok h
def k_R05_isRate : List (Option Cont) := [none]
def y75 (n : Int) : Option Bool :=
  Option.bind (y67 n (8000 : Int) (192000 : Int)) fun r0 =>
  some r0
def g_R05_isRate : List A → Option (Prop × List RV)
  | [.d (.i .i64 n)] => some (ok (y75 n), [.d (.b ((val (y75 n))))])
  | _ => none
abbrev sp_120 : Specs → Specs := addK 120 true (pureK k_R05_isRate g_R05_isRate)
set_option maxRecDepth 100000 in
def R05_isRate_t (n : Int) : T (Bool) :=
 .call (y67 n (8000 : Int) (192000 : Int)) fun r0 =>
  .obT
  (.ret (r0) (fun r => (Ob (r0 = r) ∧
 True)) ⟨⟨rfl⟩, trivial⟩)
set_option maxRecDepth 100000 in
theorem R05_isRate_vc (n : Int) (r : Bool) (h : Option.bind (y75 n) some = some r) : runF Tryz.f120 ((sp_35 sp0)) (fun _ _ _ => none) [.d (.i .i64 n)] [.d (.b r)] :=
  T.vc (t := R05_isRate_t n) (by kernel_rfl) (by kernel_rfl) h
set_option maxRecDepth 100000 in
theorem R05_isRate_ok : SpecOK Tryz.prog 120 true (pureK k_R05_isRate g_R05_isRate) := by
  refine pureK_ok (sp := (sp_35 sp0)) (fn := Tryz.f120) (body := bodyOf Tryz.f120) mixed (sp_35_ok sp0_ok) Tryz.func120 (by kernel_rfl) (by kernel_rfl) fun as_ ob rs h ho => ?_
  unfold g_R05_isRate at h
  split at h
  · rename_i n
    cases h
    exact ⟨Nat.le_of_ble_eq_true rfl, _, _, R05_isRate_vc n _ (ok_some ho)⟩
  · cases h
theorem sp_120_ok {sp : Specs} (h : SpecsOK Tryz.prog sp) : SpecsOK Tryz.prog (sp_120 sp) := addK_ok R05_isRate_ok h
def y117 : List SV := [.a [.d, .r (.floats .f32 [])]]
def y23 (u7 : List Nat) (x0 : Int) : Option (Int ⊕ ((Int × Int) ⊕ Unit)) :=
  if x0 < (↑(List.length u7) : Int) then
   if (0 : Int) ≤ x0 ∧ x0 < (↑(List.length u7) : Int) then
    if Int.toNat x0 < List.length u7 then
     if (isNan32 (List.getD u7 (Int.toNat x0) (0 : Nat))) = true then
      some (.inr ((.inl ((x0, (27 : Int))))))
     else
      Option.bind (y79 (to64 (List.getD u7 (Int.toNat x0) (0 : Nat)))) fun r1 =>
      if (!r1) = true then
       some (.inr ((.inl ((x0, (27 : Int))))))
      else
       if (Ieee.Format.order (FloatKind.format .f64) (to64 (List.getD u7 (Int.toNat x0) (0 : Nat))) (4674736138332667904 : Nat) == some Ordering.gt) = true then
        some (.inr ((.inl ((x0, (2 : Int))))))
       else
        if (Ieee.Format.order (FloatKind.format .f64) (to64 (List.getD u7 (Int.toNat x0) (0 : Nat))) (13898108175187443712 : Nat) == some Ordering.lt) = true then
         some (.inr ((.inl ((x0, (2 : Int))))))
        else
         some (.inl (IntKind.wrap .i64 (x0 + (1 : Int))))
    else none
   else none
  else
   some (.inr ((.inr ())))
def R05_CheckResponse_r0_0 (u16 : Int × Int) : Option (Int × Int) :=
  some (u16.1, u16.2)
def R05_CheckResponse_r0_1 (u33 : Unit) : Option (Int × Int) :=
  some (((0 : Int), (0 : Int)))
def y61 : ((Int × Int) ⊕ Unit) → Option (Int × Int) :=
  (Sum.elim (R05_CheckResponse_r0_0) (R05_CheckResponse_r0_1))
def y25 (u10 : Int) (u7 : List Nat) : Option (Int × Int) :=
  Option.bind (y75 u10) fun r0 =>
  if (!r0) = true then
   some (((0 : Int), (2 : Int)))
  else
   if ((↑(List.length u7) : Int) == (0 : Int)) = true then
    some (((0 : Int), (10 : Int)))
   else
    if (↑(List.length u7) : Int) > (1024 : Int) then
     some (((0 : Int), (8 : Int)))
    else
     Option.bind (iter (y23 u7) big (0 : Int)) (y61)
def y118 : List Lf → Option GT
  | [.d (.i .i64 u10), .r (.floats .f32 u7)] => some (.leaf (ok (y25 u10 u7)) [.c (.d (.i .i64 ((val (y25 u10 u7)).1))), .c (.d (.i .i64 ((val (y25 u10 u7)).2)))])
  | _ => none
abbrev sp_70 : Specs → Specs := addK 70 true (pureT y117 y118)
set_option maxRecDepth 100000 in
theorem R05_CheckResponse_vc (u10 : Int) (u7 : List Nat) (r : Int × Int) (h : Option.bind (y25 u10 u7) some = some r) : runT Tryz.f70 ((sp_120 (sp_121 sp0))) (fun gs id _ => match id with
 | 0 => some ⟨Int × Nat, fun z => ⟨[(1, .w (.c (.p 1 (0 : Nat) 1 (0 : Nat)))), (4, .w (.c (.d (.i .i64 (Prod.fst z)))))], [(1, .box 24 [.d (.i .i64 u10), .o 0]), (0, .ext (.floats .f32 u7))], 2⟩, fun z => Option.bind (iter (y23 u7) (Prod.snd z) (Prod.fst z)) (fun y0 => Option.bind (y61 y0) some) = some r, fun z => Prod.snd z⟩
 | _ => none) (bldD y117 [.d (.i .i64 u10), .r (.floats .f32 u7)]) [.c (.d (.i .i64 r.1)), .c (.d (.i .i64 r.2))] := by
  refine Eq.mp (by kernel_rfl : (
 (Ob (ok (y75 u10)) ∧
 Br (!val (y75 u10))
   ((Ob (True) ∧
 (Ob (True) ∧
 (Ob ((0 : Int) = r.1) ∧
 (Ob ((2 : Int) = r.2) ∧
 True)))))
 (Br ((↑(List.length u7) : Int) == (0 : Int))
   ((Ob (True) ∧
 (Ob (True) ∧
 (Ob ((0 : Int) = r.1) ∧
 (Ob ((10 : Int) = r.2) ∧
 True)))))
 (Br (decide ((↑(List.length u7) : Int) > (1024 : Int)))
   ((Ob (True) ∧
 (Ob (True) ∧
 (Ob ((0 : Int) = r.1) ∧
 (Ob ((8 : Int) = r.2) ∧
 True)))))
   (((∃ (v0 : Int × Nat), (Ob ((Option.bind (iter (y23 u7) v0.2 v0.1) fun y0 => Option.bind (y61 y0) some) = some r) ∧
 (Ob ((0 : Nat) = (0 : Nat)) ∧
 (Ob ((0 : Int) = v0.1) ∧
 (Ob (u10 = u10) ∧
 (Ob (u7 = u7) ∧
 True)))))) ∧
   (∀ (v0 : Int × Nat), ((Option.bind (iter (y23 u7) v0.2 v0.1) fun y0 => Option.bind (y61 y0) some) = some r →
 Br (decide (v0.1 < (↑(List.length u7) : Int)))
   ((Ob ((0 : Int) ≤ v0.1 ∧ v0.1 < (↑(List.length u7) : Int)) ∧
 (Ob (Int.toNat v0.1 < List.length u7) ∧
 Br (isNan32 (List.getD u7 (Int.toNat v0.1) (0 : Nat)))
   ((Ob (True) ∧
 (Ob (ok y150) ∧
 (Ob (True) ∧
 (Ob (True) ∧
 (Ob (v0.1 = r.1) ∧
 (Ob ((27 : Int) = r.2) ∧
 True)))))))
   ((Ob (True) ∧
 (Ob (ok (y79 (to64 (List.getD u7 (Int.toNat v0.1) (0 : Nat))))) ∧
 Br (!val (y79 (to64 (List.getD u7 (Int.toNat v0.1) (0 : Nat)))))
   ((Ob (True) ∧
 (Ob (True) ∧
 (Ob (v0.1 = r.1) ∧
 (Ob ((27 : Int) = r.2) ∧
 True)))))
 (Br (Ieee.Format.order (FloatKind.format .f64) (to64 (List.getD u7 (Int.toNat v0.1) (0 : Nat))) (4674736138332667904 : Nat) == some Ordering.gt)
   ((Ob (True) ∧
 (Ob (True) ∧
 (Ob (v0.1 = r.1) ∧
 (Ob ((2 : Int) = r.2) ∧
 True)))))
 (Br (Ieee.Format.order (FloatKind.format .f64) (to64 (List.getD u7 (Int.toNat v0.1) (0 : Nat))) (13898108175187443712 : Nat) == some Ordering.lt)
   ((Ob (True) ∧
 (Ob (True) ∧
 (Ob (v0.1 = r.1) ∧
 (Ob ((2 : Int) = r.2) ∧
 True)))))
   ((∃ (v1 : Int × Nat), (Ob ((Option.bind (iter (y23 u7) v1.2 v1.1) fun y0 => Option.bind (y61 y0) some) = some r) ∧
 (Ob (v1.2 < v0.2) ∧
 (Ob ((0 : Nat) = (0 : Nat)) ∧
 (Ob (IntKind.wrap .i64 (v0.1 + (1 : Int)) = v1.1) ∧
 (Ob (u10 = u10) ∧
 (Ob (u7 = u7) ∧
 True))))))))))))))))
   ((Ob (True) ∧
 (Ob (True) ∧
 (Ob ((0 : Int) = r.1) ∧
 (Ob ((0 : Int) = r.2) ∧
 True))))))))))))) = _) ?_
  refine call_s h fun h => ?_
  refine br_b h (fun h => ?_) (fun h => ?_)
  · refine ob_t ?_
    refine ob_t ?_
    exact ret_s h (fun e => by subst e; exact (by repeat' (first | exact trivial | exact ⟨rfl⟩ | refine And.intro ?_ ?_)))
  · refine br_b h (fun h => ?_) (fun h => ?_)
    · refine ob_t ?_
      refine ob_t ?_
      exact ret_s h (fun e => by subst e; exact (by repeat' (first | exact trivial | exact ⟨rfl⟩ | refine And.intro ?_ ?_)))
    · refine br_d h (fun h => ?_) (fun h => ?_)
      · refine ob_t ?_
        refine ob_t ?_
        exact ret_s h (fun e => by subst e; exact (by repeat' (first | exact trivial | exact ⟨rfl⟩ | refine And.intro ?_ ?_)))
      · refine ⟨⟨((0 : Int), big), ⟨loop_s h⟩, (by repeat' (first | exact trivial | exact ⟨rfl⟩ | refine And.intro ?_ ?_))⟩, fun z2 hz2 => ?_⟩
        obtain ⟨k2, hm2, h⟩ := iter_pos hz2
        refine br_d h (fun h => ?_) (fun h => ?_)
        · refine ob_s h fun h => ?_
          refine ob_s h fun h => ?_
          refine br_b h (fun h => ?_) (fun h => ?_)
          · refine ob_t ?_
            refine ob_c (p := ok y150) (by decide) ?_
            have h := exit_s h
            refine ob_t ?_
            refine ob_t ?_
            exact ret_s h (fun e => by subst e; exact (by repeat' (first | exact trivial | exact ⟨rfl⟩ | refine And.intro ?_ ?_)))
          · refine ob_t ?_
            refine call_s h fun h => ?_
            refine br_b h (fun h => ?_) (fun h => ?_)
            · have h := exit_s h
              refine ob_t ?_
              refine ob_t ?_
              exact ret_s h (fun e => by subst e; exact (by repeat' (first | exact trivial | exact ⟨rfl⟩ | refine And.intro ?_ ?_)))
            · refine br_b h (fun h => ?_) (fun h => ?_)
              · have h := exit_s h
                refine ob_t ?_
                refine ob_t ?_
                exact ret_s h (fun e => by subst e; exact (by repeat' (first | exact trivial | exact ⟨rfl⟩ | refine And.intro ?_ ?_)))
              · refine br_b h (fun h => ?_) (fun h => ?_)
                · have h := exit_s h
                  refine ob_t ?_
                  refine ob_t ?_
                  exact ret_s h (fun e => by subst e; exact (by repeat' (first | exact trivial | exact ⟨rfl⟩ | refine And.intro ?_ ?_)))
                · exact ⟨(IntKind.wrap .i64 (Prod.fst z2 + (1 : Int)), k2), ⟨next_s h⟩, ⟨lt_gs hm2.symm⟩, (by repeat' (first | exact trivial | exact ⟨rfl⟩ | refine And.intro ?_ ?_))⟩
        · have h := exit_s h
          refine ob_t ?_
          refine ob_t ?_
          exact ret_s h (fun e => by subst e; exact (by repeat' (first | exact trivial | exact ⟨rfl⟩ | refine And.intro ?_ ?_)))
set_option maxRecDepth 100000 in
theorem R05_CheckResponse_ok : SpecOK Tryz.prog 70 true (pureT y117 y118) := by
  refine pureT_ok (sp := (sp_120 (sp_121 sp0))) (fn := Tryz.f70) (body := bodyOf Tryz.f70) mixed (sp_120_ok (sp_121_ok sp0_ok)) Tryz.func70 (by kernel_rfl) (by kernel_rfl) fun ls t h ho b hb => ?_
  unfold y118 at h
  split at h
  · rename_i u10 u7
    cases h
    obtain rfl := bld_eq hb
    exact ⟨Nat.le_of_ble_eq_true (by kernel_rfl), _, _, R05_CheckResponse_vc u10 u7 _ (ok_some ho)⟩
  · cases h
theorem sp_70_ok {sp : Specs} (h : SpecsOK Tryz.prog sp) : SpecsOK Tryz.prog (sp_70 sp) := addK_ok R05_CheckResponse_ok h
def y141 : List SV := [.a [.d, .r (.floats .f32 [])]]
def y62 (u10 : Int) (u7 : List Nat) : Option Int :=
  Option.bind (y25 u10 u7) fun r0 =>
  some r0.2
def y142 : List Lf → Option GT
  | [.d (.i .i64 u10), .r (.floats .f32 u7)] => some (.leaf (ok (y62 u10 u7)) [.c (.d (.i .i64 ((val (y62 u10 u7)))))])
  | _ => none
abbrev sp_21 : Specs → Specs := addK 21 true (pureT y141 y142)
set_option maxRecDepth 100000 in
def R05_ResponseErr_t (u10 : Int) (u7 : List Nat) : T (Int) :=
 .call (y25 u10 u7) fun r0 =>
  .obT
  (.ret (r0.2) (fun r => (Ob (r0.2 = r) ∧
 True)) ⟨⟨rfl⟩, trivial⟩)
set_option maxRecDepth 100000 in
theorem R05_ResponseErr_vc (u10 : Int) (u7 : List Nat) (r : Int) (h : Option.bind (y62 u10 u7) some = some r) : runT Tryz.f21 ((sp_70 sp0)) (fun _ _ _ => none) (bldD y141 [.d (.i .i64 u10), .r (.floats .f32 u7)]) [.c (.d (.i .i64 r))] :=
  T.vc (t := R05_ResponseErr_t u10 u7) (by kernel_rfl) (by kernel_rfl) h
set_option maxRecDepth 100000 in
theorem R05_ResponseErr_ok : SpecOK Tryz.prog 21 true (pureT y141 y142) := by
  refine pureT_ok (sp := (sp_70 sp0)) (fn := Tryz.f21) (body := bodyOf Tryz.f21) mixed (sp_70_ok sp0_ok) Tryz.func21 (by kernel_rfl) (by kernel_rfl) fun ls t h ho b hb => ?_
  unfold y142 at h
  split at h
  · rename_i u10 u7
    cases h
    obtain rfl := bld_eq hb
    exact ⟨Nat.le_of_ble_eq_true (by kernel_rfl), _, _, R05_ResponseErr_vc u10 u7 _ (ok_some ho)⟩
  · cases h
theorem sp_21_ok {sp : Specs} (h : SpecsOK Tryz.prog sp) : SpecsOK Tryz.prog (sp_21 sp) := addK_ok R05_ResponseErr_ok h
def k_R05_CheckAsk : List SV := [.a [.d, .r (.floats .f32 []), .d, .d]]
def y80 (u5 : Int) (u0 : List Nat) (u6 : Int) (u1 : Int) : Option (Int × Int) :=
  Option.bind (y25 u5 u0) fun r0 =>
  if (r0.2 != (0 : Int)) = true then
   some (r0.1, r0.2)
  else
   Option.bind (y67 u6 (0 : Int) (32767 : Int)) fun r1 =>
   if (!r1) = true then
    some (((0 : Int), (2 : Int)))
   else
    Option.bind (y67 u1 (0 : Int) (1000000000000 : Int)) fun r2 =>
    if (!r2) = true then
     some (((0 : Int), (2 : Int)))
    else
     some (((0 : Int), (0 : Int)))
def g_R05_CheckAsk : List Lf → Option GT
  | [.d (.i .i64 u5), .r (.floats .f32 u0), .d (.i .i64 u6), .d (.i .i64 u1)] => some (.leaf (ok (y80 u5 u0 u6 u1)) [.c (.d (.i .i64 ((val (y80 u5 u0 u6 u1)).1))), .c (.d (.i .i64 ((val (y80 u5 u0 u6 u1)).2)))])
  | _ => none
abbrev sp_71 : Specs → Specs := addK 71 true (pureT k_R05_CheckAsk g_R05_CheckAsk)
set_option maxRecDepth 100000 in
def R05_CheckAsk_t (u5 : Int) (u0 : List Nat) (u6 : Int) (u1 : Int) : T (Int × Int) :=
 .call (y25 u5 u0) fun r0 =>
  .brB (r0.2 != (0 : Int))
  (.obT
  (.obT
  (.ret ((r0.1, r0.2)) (fun r => (Ob (r0.1 = r.1) ∧
 (Ob (r0.2 = r.2) ∧
 True))) ⟨⟨rfl⟩, ⟨⟨rfl⟩, trivial⟩⟩)))
  (.call (y67 u6 (0 : Int) (32767 : Int)) fun r1 =>
  .brB (!r1)
  (.obT
  (.obT
  (.ret ((((0 : Int), (2 : Int)))) (fun r => (Ob ((0 : Int) = r.1) ∧
 (Ob ((2 : Int) = r.2) ∧
 True))) ⟨⟨rfl⟩, ⟨⟨rfl⟩, trivial⟩⟩)))
  (.call (y67 u1 (0 : Int) (1000000000000 : Int)) fun r2 =>
  .brB (!r2)
  (.obT
  (.obT
  (.ret ((((0 : Int), (2 : Int)))) (fun r => (Ob ((0 : Int) = r.1) ∧
 (Ob ((2 : Int) = r.2) ∧
 True))) ⟨⟨rfl⟩, ⟨⟨rfl⟩, trivial⟩⟩)))
  (.obT
  (.obT
  (.ret ((((0 : Int), (0 : Int)))) (fun r => (Ob ((0 : Int) = r.1) ∧
 (Ob ((0 : Int) = r.2) ∧
 True))) ⟨⟨rfl⟩, ⟨⟨rfl⟩, trivial⟩⟩)))))
set_option maxRecDepth 100000 in
theorem R05_CheckAsk_vc (u5 : Int) (u0 : List Nat) (u6 : Int) (u1 : Int) (r : Int × Int) (h : Option.bind (y80 u5 u0 u6 u1) some = some r) : runT Tryz.f71 ((sp_70 (sp_35 sp0))) (fun _ _ _ => none) (bldD k_R05_CheckAsk [.d (.i .i64 u5), .r (.floats .f32 u0), .d (.i .i64 u6), .d (.i .i64 u1)]) [.c (.d (.i .i64 r.1)), .c (.d (.i .i64 r.2))] :=
  T.vc (t := R05_CheckAsk_t u5 u0 u6 u1) (by kernel_rfl) (by kernel_rfl) h
set_option maxRecDepth 100000 in
theorem R05_CheckAsk_ok : SpecOK Tryz.prog 71 true (pureT k_R05_CheckAsk g_R05_CheckAsk) := by
  refine pureT_ok (sp := (sp_70 (sp_35 sp0))) (fn := Tryz.f71) (body := bodyOf Tryz.f71) mixed (sp_70_ok (sp_35_ok sp0_ok)) Tryz.func71 (by kernel_rfl) (by kernel_rfl) fun ls t h ho b hb => ?_
  unfold g_R05_CheckAsk at h
  split at h
  · rename_i u5 u0 u6 u1
    cases h
    obtain rfl := bld_eq hb
    exact ⟨Nat.le_of_ble_eq_true (by kernel_rfl), _, _, R05_CheckAsk_vc u5 u0 u6 u1 _ (ok_some ho)⟩
  · cases h
theorem sp_71_ok {sp : Specs} (h : SpecsOK Tryz.prog sp) : SpecsOK Tryz.prog (sp_71 sp) := addK_ok R05_CheckAsk_ok h
def k_R05_AskErr : List SV := [.a [.d, .r (.floats .f32 []), .d, .d]]
def y110 (u5 : Int) (u0 : List Nat) (u6 : Int) (u1 : Int) : Option Int :=
  Option.bind (y80 u5 u0 u6 u1) fun r0 =>
  some r0.2
def g_R05_AskErr : List Lf → Option GT
  | [.d (.i .i64 u5), .r (.floats .f32 u0), .d (.i .i64 u6), .d (.i .i64 u1)] => some (.leaf (ok (y110 u5 u0 u6 u1)) [.c (.d (.i .i64 ((val (y110 u5 u0 u6 u1)))))])
  | _ => none
abbrev sp_22 : Specs → Specs := addK 22 true (pureT k_R05_AskErr g_R05_AskErr)
set_option maxRecDepth 100000 in
def R05_AskErr_t (u5 : Int) (u0 : List Nat) (u6 : Int) (u1 : Int) : T (Int) :=
 .call (y80 u5 u0 u6 u1) fun r0 =>
  .obT
  (.ret (r0.2) (fun r => (Ob (r0.2 = r) ∧
 True)) ⟨⟨rfl⟩, trivial⟩)
set_option maxRecDepth 100000 in
theorem R05_AskErr_vc (u5 : Int) (u0 : List Nat) (u6 : Int) (u1 : Int) (r : Int) (h : Option.bind (y110 u5 u0 u6 u1) some = some r) : runT Tryz.f22 ((sp_71 sp0)) (fun _ _ _ => none) (bldD k_R05_AskErr [.d (.i .i64 u5), .r (.floats .f32 u0), .d (.i .i64 u6), .d (.i .i64 u1)]) [.c (.d (.i .i64 r))] :=
  T.vc (t := R05_AskErr_t u5 u0 u6 u1) (by kernel_rfl) (by kernel_rfl) h
set_option maxRecDepth 100000 in
theorem R05_AskErr_ok : SpecOK Tryz.prog 22 true (pureT k_R05_AskErr g_R05_AskErr) := by
  refine pureT_ok (sp := (sp_71 sp0)) (fn := Tryz.f22) (body := bodyOf Tryz.f22) mixed (sp_71_ok sp0_ok) Tryz.func22 (by kernel_rfl) (by kernel_rfl) fun ls t h ho b hb => ?_
  unfold g_R05_AskErr at h
  split at h
  · rename_i u5 u0 u6 u1
    cases h
    obtain rfl := bld_eq hb
    exact ⟨Nat.le_of_ble_eq_true (by kernel_rfl), _, _, R05_AskErr_vc u5 u0 u6 u1 _ (ok_some ho)⟩
  · cases h
theorem sp_22_ok {sp : Specs} (h : SpecsOK Tryz.prog sp) : SpecsOK Tryz.prog (sp_22 sp) := addK_ok R05_AskErr_ok h
def k_R05_square : List SV := [.a [.d, .r (.floats .f32 []), .d, .d], .c (.d)]
def y55 (u5 : Int) (u0 : List Nat) (u6 : Int) (u1 : Int) (t : Int) : Option (Int × Int) :=
  if (0 : Int) ≤ t ∧ t < (↑(List.length u0) : Int) then
   if Int.toNat t < List.length u0 then
    if f2iOk .f32 .i64 (List.getD u0 (Int.toNat t) (0 : Nat)) = true then
     Option.bind (B_Size (f2i .f32 (List.getD u0 (Int.toNat t) (0 : Nat)))) fun r0 =>
     some ((IntKind.wrap .i64 ((if IntKind.wrap .i64 (r0 - u6) > (0 : Int) then IntKind.wrap .i64 (r0 - u6) else (0 : Int)) * if IntKind.wrap .i64 (r0 - u6) > (0 : Int) then IntKind.wrap .i64 (r0 - u6) else (0 : Int)), IntKind.wrap .i64 (IntKind.wrap .i64 (r0 + u6) * IntKind.wrap .i64 (r0 + u6))))
    else none
   else none
  else none
def g_R05_square : List Lf → Option GT
  | [.d (.i .i64 u5), .r (.floats .f32 u0), .d (.i .i64 u6), .d (.i .i64 u1), .d (.i .i64 t)] => some (.leaf (ok (y55 u5 u0 u6 u1 t)) [.s [.d (.i .i64 ((val (y55 u5 u0 u6 u1 t)).1)), .d (.i .i64 ((val (y55 u5 u0 u6 u1 t)).2))]])
  | _ => none
abbrev sp_83 : Specs → Specs := addK 83 true (pureT k_R05_square g_R05_square)
set_option maxRecDepth 100000 in
def R05_square_t (u5 : Int) (u0 : List Nat) (u6 : Int) (u1 : Int) (t : Int) : T (Int × Int) :=
 .obP ((0 : Int) ≤ t ∧ t < (↑(List.length u0) : Int))
  (.obP (Int.toNat t < List.length u0)
  (.obP (f2iOk .f32 .i64 (List.getD u0 (Int.toNat t) (0 : Nat)) = true)
  (.call (B_Size (f2i .f32 (List.getD u0 (Int.toNat t) (0 : Nat)))) fun r0 =>
  .obT
  (.ret (((IntKind.wrap .i64 ((if IntKind.wrap .i64 (r0 - u6) > (0 : Int) then IntKind.wrap .i64 (r0 - u6) else (0 : Int)) * if IntKind.wrap .i64 (r0 - u6) > (0 : Int) then IntKind.wrap .i64 (r0 - u6) else (0 : Int)), IntKind.wrap .i64 (IntKind.wrap .i64 (r0 + u6) * IntKind.wrap .i64 (r0 + u6))))) (fun r => (Ob (IntKind.wrap .i64 ((if IntKind.wrap .i64 (r0 - u6) > (0 : Int) then IntKind.wrap .i64 (r0 - u6) else (0 : Int)) * if IntKind.wrap .i64 (r0 - u6) > (0 : Int) then IntKind.wrap .i64 (r0 - u6) else (0 : Int)) = r.1) ∧
 (Ob (IntKind.wrap .i64 (IntKind.wrap .i64 (r0 + u6) * IntKind.wrap .i64 (r0 + u6)) = r.2) ∧
 True))) ⟨⟨rfl⟩, ⟨⟨rfl⟩, trivial⟩⟩))))
set_option maxRecDepth 100000 in
theorem R05_square_vc (u5 : Int) (u0 : List Nat) (u6 : Int) (u1 : Int) (t : Int) (r : Int × Int) (h : Option.bind (y55 u5 u0 u6 u1 t) some = some r) : runT Tryz.f83 ((sp_128 sp0)) (fun _ _ _ => none) (bldD k_R05_square [.d (.i .i64 u5), .r (.floats .f32 u0), .d (.i .i64 u6), .d (.i .i64 u1), .d (.i .i64 t)]) [.s [.d (.i .i64 r.1), .d (.i .i64 r.2)]] :=
  T.vc (t := R05_square_t u5 u0 u6 u1 t) (by kernel_rfl) (by kernel_rfl) h
set_option maxRecDepth 100000 in
theorem R05_square_ok : SpecOK Tryz.prog 83 true (pureT k_R05_square g_R05_square) := by
  refine pureT_ok (sp := (sp_128 sp0)) (fn := Tryz.f83) (body := bodyOf Tryz.f83) mixed (sp_128_ok sp0_ok) Tryz.func83 (by kernel_rfl) (by kernel_rfl) fun ls t h ho b hb => ?_
  unfold g_R05_square at h
  split at h
  · rename_i u5 u0 u6 u1 t
    cases h
    obtain rfl := bld_eq hb
    exact ⟨Nat.le_of_ble_eq_true (by kernel_rfl), _, _, R05_square_vc u5 u0 u6 u1 t _ (ok_some ho)⟩
  · cases h
theorem sp_83_ok {sp : Specs} (h : SpecsOK Tryz.prog sp) : SpecsOK Tryz.prog (sp_83 sp) := addK_ok R05_square_ok h
def y130 : List SV := [.a [.d, .r (.floats .f32 []), .d, .d], .a [.d, .d]]
def y24 (u5 : Int) (u0 : List Nat) (u6 : Int) (u1 : Int) (wTo : Int) (x0 : (Int × Int × Int)) : Option ((Int × Int × Int) ⊕ (Int × Int)) :=
  if x0.1 < wTo then
   Option.bind (y55 u5 u0 u6 u1 x0.1) fun r0 =>
   some (.inl ((IntKind.wrap .i64 (x0.1 + (1 : Int)), IntKind.wrap .i64 (x0.2.1 + r0.1), IntKind.wrap .i64 (x0.2.2 + r0.2))))
  else
   some (.inr (x0.2.1, x0.2.2))
def y52 (u0 : List Nat) (u1 : Int) (wTo : Int) (u16 : Int × Int) : Option (Int × Int) :=
  if (wTo == (↑(List.length u0) : Int)) = true then
   some ((u16.1, IntKind.wrap .i64 (u16.2 + u1)))
  else
   some (u16.1, u16.2)
def y16 (u5 : Int) (u0 : List Nat) (u6 : Int) (u1 : Int) (u37 : Int) (wTo : Int) : Option (Int × Int) :=
  Option.bind (iter (y24 u5 u0 u6 u1 wTo) big ((u37, (0 : Int), (0 : Int)))) (y52 u0 u1 wTo)
def y131 : List Lf → Option GT
  | [.d (.i .i64 u5), .r (.floats .f32 u0), .d (.i .i64 u6), .d (.i .i64 u1), .d (.i .i64 u37), .d (.i .i64 wTo)] => some (.leaf (ok (y16 u5 u0 u6 u1 u37 wTo)) [.s [.d (.i .i64 ((val (y16 u5 u0 u6 u1 u37 wTo)).1)), .d (.i .i64 ((val (y16 u5 u0 u6 u1 u37 wTo)).2))]])
  | _ => none
abbrev sp_52 : Specs → Specs := addK 52 true (pureT y130 y131)
set_option maxRecDepth 100000 in
theorem R05_EnergyWithin_vc (u5 : Int) (u0 : List Nat) (u6 : Int) (u1 : Int) (u37 : Int) (wTo : Int) (r : Int × Int) (h : Option.bind (y16 u5 u0 u6 u1 u37 wTo) some = some r) : runT Tryz.f52 ((sp_83 sp0)) (fun gs id _ => match id with
 | 0 => some ⟨(Int × Int × Int) × Nat, fun z => ⟨[(2, .w (.c (.p 1 (0 : Nat) 1 (0 : Nat)))), (3, .w (.c (.p 2 (0 : Nat) 1 (0 : Nat)))), (4, .w (.c (.p 3 (0 : Nat) 1 (0 : Nat)))), (5, .w (.c (.p 4 (0 : Nat) 1 (0 : Nat)))), (6, .w (.c (.d (.i .i64 (Prod.fst (Prod.fst z))))))], [(1, .box 26 [.d (.i .i64 u5), .o 0, .d (.i .i64 u6), .d (.i .i64 u1)]), (2, .box 73 [.d (.i .i64 u37), .d (.i .i64 wTo)]), (3, .box 30 [.d (.i .i64 (0 : Int)), .d (.i .i64 (0 : Int))]), (4, .box 30 [.d (.i .i64 (Prod.fst (Prod.snd (Prod.fst z)))), .d (.i .i64 (Prod.snd (Prod.snd (Prod.fst z))))]), (0, .ext (.floats .f32 u0))], 5⟩, fun z => Option.bind (iter (y24 u5 u0 u6 u1 wTo) (Prod.snd z) (Prod.fst z)) (fun y0 => Option.bind (y52 u0 u1 wTo y0) some) = some r, fun z => Prod.snd z⟩
 | _ => none) (bldD y130 [.d (.i .i64 u5), .r (.floats .f32 u0), .d (.i .i64 u6), .d (.i .i64 u1), .d (.i .i64 u37), .d (.i .i64 wTo)]) [.s [.d (.i .i64 r.1), .d (.i .i64 r.2)]] := by
  refine Eq.mp (by kernel_rfl : (
  ((∃ (v0 : (Int × Int × Int) × Nat), (Ob ((Option.bind (iter (y24 u5 u0 u6 u1 wTo) v0.2 v0.1) fun y0 => Option.bind (y52 u0 u1 wTo y0) some) = some r) ∧
 (Ob ((0 : Nat) = (0 : Nat)) ∧
 (Ob ((0 : Nat) = (0 : Nat)) ∧
 (Ob ((0 : Nat) = (0 : Nat)) ∧
 (Ob ((0 : Nat) = (0 : Nat)) ∧
 (Ob (u37 = v0.1.1) ∧
 (Ob (u5 = u5) ∧
 (Ob (u6 = u6) ∧
 (Ob (u1 = u1) ∧
 (Ob (u37 = u37) ∧
 (Ob (wTo = wTo) ∧
 (Ob ((0 : Int) = (0 : Int)) ∧
 (Ob ((0 : Int) = (0 : Int)) ∧
 (Ob ((0 : Int) = v0.1.2.1) ∧
 (Ob ((0 : Int) = v0.1.2.2) ∧
 (Ob (u0 = u0) ∧
 True))))))))))))))))) ∧
   (∀ (v0 : (Int × Int × Int) × Nat), ((Option.bind (iter (y24 u5 u0 u6 u1 wTo) v0.2 v0.1) fun y0 => Option.bind (y52 u0 u1 wTo y0) some) = some r →
 Br (decide (v0.1.1 < wTo))
   ((Ob (ok (y55 u5 u0 u6 u1 v0.1.1)) ∧
   (∃ (v1 : (Int × Int × Int) × Nat), (Ob ((Option.bind (iter (y24 u5 u0 u6 u1 wTo) v1.2 v1.1) fun y0 => Option.bind (y52 u0 u1 wTo y0) some) = some r) ∧
 (Ob (v1.2 < v0.2) ∧
 (Ob ((0 : Nat) = (0 : Nat)) ∧
 (Ob ((0 : Nat) = (0 : Nat)) ∧
 (Ob ((0 : Nat) = (0 : Nat)) ∧
 (Ob ((0 : Nat) = (0 : Nat)) ∧
 (Ob (IntKind.wrap .i64 (v0.1.1 + (1 : Int)) = v1.1.1) ∧
 (Ob (u5 = u5) ∧
 (Ob (u6 = u6) ∧
 (Ob (u1 = u1) ∧
 (Ob (u37 = u37) ∧
 (Ob (wTo = wTo) ∧
 (Ob ((0 : Int) = (0 : Int)) ∧
 (Ob ((0 : Int) = (0 : Int)) ∧
 (Ob (IntKind.wrap .i64 (v0.1.2.1 + (val (y55 u5 u0 u6 u1 v0.1.1)).1) = v1.1.2.1) ∧
 (Ob (IntKind.wrap .i64 (v0.1.2.2 + (val (y55 u5 u0 u6 u1 v0.1.1)).2) = v1.1.2.2) ∧
 (Ob (u0 = u0) ∧
 True))))))))))))))))))))
 (Br (wTo == (↑(List.length u0) : Int))
   ((Ob (True) ∧
 (Ob (v0.1.2.1 = r.1) ∧
 (Ob (IntKind.wrap .i64 (v0.1.2.2 + u1) = r.2) ∧
 True))))
   ((Ob (True) ∧
 (Ob (v0.1.2.1 = r.1) ∧
 (Ob (v0.1.2.2 = r.2) ∧
 True))))))))) = _) ?_
  refine ⟨⟨((u37, (0 : Int), (0 : Int)), big), ⟨loop_s h⟩, (by repeat' (first | exact trivial | exact ⟨rfl⟩ | refine And.intro ?_ ?_))⟩, fun z1 hz1 => ?_⟩
  obtain ⟨k1, hm1, h⟩ := iter_pos hz1
  refine br_d h (fun h => ?_) (fun h => ?_)
  · refine call_s h fun h => ?_
    exact ⟨((IntKind.wrap .i64 ((Prod.fst z1).1 + (1 : Int)), IntKind.wrap .i64 ((Prod.fst z1).2.1 + (val (y55 u5 u0 u6 u1 (Prod.fst z1).1)).1), IntKind.wrap .i64 ((Prod.fst z1).2.2 + (val (y55 u5 u0 u6 u1 (Prod.fst z1).1)).2)), k1), ⟨next_s h⟩, ⟨lt_gs hm1.symm⟩, (by repeat' (first | exact trivial | exact ⟨rfl⟩ | refine And.intro ?_ ?_))⟩
  · have h := exit_s h
    refine br_b h (fun h => ?_) (fun h => ?_)
    · refine ob_t ?_
      exact ret_s h (fun e => by subst e; exact (by repeat' (first | exact trivial | exact ⟨rfl⟩ | refine And.intro ?_ ?_)))
    · refine ob_t ?_
      exact ret_s h (fun e => by subst e; exact (by repeat' (first | exact trivial | exact ⟨rfl⟩ | refine And.intro ?_ ?_)))
set_option maxRecDepth 100000 in
theorem R05_EnergyWithin_ok : SpecOK Tryz.prog 52 true (pureT y130 y131) := by
  refine pureT_ok (sp := (sp_83 sp0)) (fn := Tryz.f52) (body := bodyOf Tryz.f52) mixed (sp_83_ok sp0_ok) Tryz.func52 (by kernel_rfl) (by kernel_rfl) fun ls t h ho b hb => ?_
  unfold y131 at h
  split at h
  · rename_i u5 u0 u6 u1 u37 wTo
    cases h
    obtain rfl := bld_eq hb
    exact ⟨Nat.le_of_ble_eq_true (by kernel_rfl), _, _, R05_EnergyWithin_vc u5 u0 u6 u1 u37 wTo _ (ok_some ho)⟩
  · cases h
theorem sp_52_ok {sp : Specs} (h : SpecsOK Tryz.prog sp) : SpecsOK Tryz.prog (sp_52 sp) := addK_ok R05_EnergyWithin_ok h
def k_R05_sum : List SV := [.a [.d, .r (.floats .f32 []), .d, .d], .c (.d)]
def R05_sum (u5 : Int) (u0 : List Nat) (u6 : Int) (u1 : Int) (t : Int) : Option (Int × Int) :=
  Option.bind (y16 u5 u0 u6 u1 t (↑(List.length u0) : Int)) fun r0 =>
  some (r0.1, r0.2)
def g_R05_sum : List Lf → Option GT
  | [.d (.i .i64 u5), .r (.floats .f32 u0), .d (.i .i64 u6), .d (.i .i64 u1), .d (.i .i64 t)] => some (.leaf (ok (R05_sum u5 u0 u6 u1 t)) [.s [.d (.i .i64 ((val (R05_sum u5 u0 u6 u1 t)).1)), .d (.i .i64 ((val (R05_sum u5 u0 u6 u1 t)).2))]])
  | _ => none
abbrev sp_72 : Specs → Specs := addK 72 true (pureT k_R05_sum g_R05_sum)
set_option maxRecDepth 100000 in
def R05_sum_t (u5 : Int) (u0 : List Nat) (u6 : Int) (u1 : Int) (t : Int) : T (Int × Int) :=
 .call (y16 u5 u0 u6 u1 t (↑(List.length u0) : Int)) fun r0 =>
  .obT
  (.ret ((r0.1, r0.2)) (fun r => (Ob (r0.1 = r.1) ∧
 (Ob (r0.2 = r.2) ∧
 True))) ⟨⟨rfl⟩, ⟨⟨rfl⟩, trivial⟩⟩)
set_option maxRecDepth 100000 in
theorem R05_sum_vc (u5 : Int) (u0 : List Nat) (u6 : Int) (u1 : Int) (t : Int) (r : Int × Int) (h : Option.bind (R05_sum u5 u0 u6 u1 t) some = some r) : runT Tryz.f72 ((sp_52 sp0)) (fun _ _ _ => none) (bldD k_R05_sum [.d (.i .i64 u5), .r (.floats .f32 u0), .d (.i .i64 u6), .d (.i .i64 u1), .d (.i .i64 t)]) [.s [.d (.i .i64 r.1), .d (.i .i64 r.2)]] :=
  T.vc (t := R05_sum_t u5 u0 u6 u1 t) (by kernel_rfl) (by kernel_rfl) h
set_option maxRecDepth 100000 in
theorem R05_sum_ok : SpecOK Tryz.prog 72 true (pureT k_R05_sum g_R05_sum) := by
  refine pureT_ok (sp := (sp_52 sp0)) (fn := Tryz.f72) (body := bodyOf Tryz.f72) mixed (sp_52_ok sp0_ok) Tryz.func72 (by kernel_rfl) (by kernel_rfl) fun ls t h ho b hb => ?_
  unfold g_R05_sum at h
  split at h
  · rename_i u5 u0 u6 u1 t
    cases h
    obtain rfl := bld_eq hb
    exact ⟨Nat.le_of_ble_eq_true (by kernel_rfl), _, _, R05_sum_vc u5 u0 u6 u1 t _ (ok_some ho)⟩
  · cases h
theorem sp_72_ok {sp : Specs} (h : SpecsOK Tryz.prog sp) : SpecsOK Tryz.prog (sp_72 sp) := addK_ok R05_sum_ok h
end Go.Sh
end

section
namespace Go.Sh
open Go Go.Proofs Go.RowKit Go.Sx Go.Sx06 Ieee Go.Fl
theorem ord_lo64 {b : Nat} {s : Bool} {m : Nat} {e : Int} (h : double.read b = .number s m e) (he1 : -1074 ≤ e) : double.order b 13898108175187443712 = some (compare (sg s (mg KK m e)) (-((32767 * PP : Nat) : Int))) := by
  unfold Format.order
  have hc : double.read 13898108175187443712 = .number true 9006924376834048 (-38) := by decide
  rw [h, hc, order_mg KK (by unfold KK; omega) (by unfold KK; omega)]
  have : mg KK 9006924376834048 (-38) = 32767 * PP := by
    rw [PP_eq]
    unfold mg
    rw [show KK = (-38 + (KK : Int)).toNat + 38 by unfold KK; omega, Nat.pow_add]
    rw [show ((-38 : Int) + (((-38 + (KK : Int)).toNat + 38 : Nat) : Int)).toNat = (-38 + (KK : Int)).toNat by unfold KK; omega]
    generalize 2 ^ (-38 + (KK : Int)).toNat = q
    omega
  rw [this, sg_t]
theorem ord_hi64 {b : Nat} {s : Bool} {m : Nat} {e : Int} (h : double.read b = .number s m e) (he1 : -1074 ≤ e) : double.order b 4674736138332667904 = some (compare (sg s (mg KK m e)) (((32767 * PP : Nat) : Int))) := by
  unfold Format.order
  have hc : double.read 4674736138332667904 = .number false 9006924376834048 (-38) := by decide
  rw [h, hc, order_mg KK (by unfold KK; omega) (by unfold KK; omega)]
  have : mg KK 9006924376834048 (-38) = 32767 * PP := by
    rw [PP_eq]
    unfold mg
    rw [show KK = (-38 + (KK : Int)).toNat + 38 by unfold KK; omega, Nat.pow_add]
    rw [show ((-38 : Int) + (((-38 + (KK : Int)).toNat + 38 : Nat) : Int)).toNat = (-38 + (KK : Int)).toNat by unfold KK; omega]
    generalize 2 ^ (-38 + (KK : Int)).toNat = q
    omega
  rw [this, sg_f]
theorem sampleR {α : Type} (b : Nat) (bad : Int → Option α) (good : Option α) :
    (if isNan32 b = true then bad 27 else Option.bind (y79 (to64 b)) fun r0 => if (!r0) = true then bad 27 else
      if (Format.order (FloatKind.format .f64) (to64 b) 4674736138332667904 == some Ordering.gt) = true then bad 2 else
      if (Format.order (FloatKind.format .f64) (to64 b) 13898108175187443712 == some Ordering.lt) = true then bad 2 else good) = if se b ≠ 0 then bad (se b) else good := by
  simp only [show FloatKind.format .f64 = double from rfl]
  have hdec : FloatKind.decode .f32 b = single.read b := rfl
  unfold isNan32 se
  rw [hdec]
  rcases read32 b with ⟨s, m, e, h, hm, he1, he2⟩ | ⟨s, h⟩ | ⟨s, t, h⟩
  · obtain ⟨m', e', h1, h2, h3, h4⟩ := dbl h hm he1 he2
    have hw : 16777216 * PP ≤ mg KK m e → mg KK m e / PP * PP = mg KK m e := by
      intro hge
      by_cases hp : 0 ≤ e
      · obtain ⟨d, rfl⟩ : ∃ d : Nat, e = d := ⟨e.toNat, by omega⟩
        rw [mg_up, Nat.mul_div_cancel _ PP_pos]
      · exfalso
        have : mg KK m e < 16777216 * PP := by
          rw [PP_eq]
          unfold mg
          have h2 : 2 ^ (e + KK).toNat ≤ 2 ^ KK := Nat.pow_le_pow_right (by omega) (by omega)
          calc m * 2 ^ (e + KK).toNat ≤ m * 2 ^ KK := Nat.mul_le_mul_left _ h2
            _ < 16777216 * 2 ^ KK := Nat.mul_lt_mul_of_pos_right hm (Nat.two_pow_pos _)
        omega
    have hW := isWhole_eq h1 h3 h4
    have hlo := ord_lo64 h1 h3
    have hhi := ord_hi64 h1 h3
    rw [h2] at hlo hhi
    have hse : seD (.number s m e) = if 16777216 * PP ≤ mg KK m e then 2 else if mg KK m e / PP * PP ≠ mg KK m e then 27 else if mg KK m e / PP ≤ 32767 then 0 else 2 := rfl
    rw [h2] at hW
    have hnn : (Datum.number s m e).isNaN = false := rfl
    rw [h, hse, hnn, hW, bind_some', hlo, hhi, cmp_lt, cmp_gt]
    clear h h1 h2 h3 h4 hW hlo hhi hse hnn
    rw [if_neg Bool.false_ne_true]
    obtain ⟨A, hA⟩ : ∃ A, A = mg KK m e := ⟨_, rfl⟩
    rw [← hA] at hw ⊢
    clear hA
    have hP := PP_pos
    have hdm := Nat.div_add_mod A PP
    rw [Nat.mul_comm] at hdm
    have hml := Nat.mod_lt A hP
    have hq1 : A / PP ≤ 32767 ↔ A < 32768 * PP := by
      rw [← Nat.div_lt_iff_lt_mul hP]
      omega
    have hq2 : A / PP * PP = A → (A / PP ≤ 32767 ↔ A ≤ 32767 * PP) := by
      intro hh
      constructor
      · intro h; rw [← hh]; exact Nat.mul_le_mul_right _ h
      · intro h; rw [← hh] at h; exact Nat.le_of_mul_le_mul_right h hP
    generalize A / PP = Q at *
    generalize A % PP = R at *
    generalize hQP : Q * PP = QP at *
    by_cases hbig : 16777216 * PP ≤ A
    · have hww := hw hbig
      rw [if_pos hbig, decide_eq_true (show _ ∨ _ from .inr hww)]
      simp only [Bool.not_true, Bool.false_eq_true, if_false, decide_eq_true_eq]
      rw [if_pos (show (2 : Int) ≠ 0 by omega)]
      cases s
      · rw [if_pos (by rw [sg_f]; omega)]
      · rw [if_neg (by rw [sg_t]; omega), if_pos (by rw [sg_t]; omega)]
    · rw [if_neg hbig]
      by_cases hwh : QP = A
      · rw [decide_eq_true (show _ ∨ _ from .inr hwh), if_neg (show ¬ QP ≠ A by omega)]
        simp only [Bool.not_true, Bool.false_eq_true, if_false, decide_eq_true_eq]
        have hq := hq2 hwh
        by_cases hs : Q ≤ 32767
        · have := hq.1 hs
          rw [if_pos hs, if_neg (show ¬ (0 : Int) ≠ 0 by omega)]
          cases s
          · rw [if_neg (by rw [sg_f]; omega), if_neg (by rw [sg_f]; omega)]
          · rw [if_neg (by rw [sg_t]; omega), if_neg (by rw [sg_t]; omega)]
        · have : ¬ A ≤ 32767 * PP := fun h => hs (hq.2 h)
          rw [if_neg hs, if_pos (show (2 : Int) ≠ 0 by omega)]
          cases s
          · rw [if_pos (by rw [sg_f]; omega)]
          · rw [if_neg (by rw [sg_t]; omega), if_pos (by rw [sg_t]; omega)]
      · rw [decide_eq_false (show ¬ (_ ∨ _) by omega), if_pos (show QP ≠ A from hwh), if_pos (show (27 : Int) ≠ 0 by omega)]
        rfl
  · have h1 : to64 b = double.word s 9218868437227405312 := by
      unfold to64 FloatKind.encode FloatKind.decode
      simp only [show FloatKind.format .f32 = single from rfl, show FloatKind.format .f64 = double from rfl, h]
      rfl
    have h2 : double.read (to64 b) = .infinity s := by rw [h1]; cases s <;> decide
    have h3 : y79 (to64 b) = some false := by
      have ho : double.order (to64 b) (to64 b) = some .eq := by unfold Format.order; rw [h2]; cases s <;> rfl
      unfold y79
      simp only [show FloatKind.format .f64 = double from rfl]
      rw [ho, sub_inf double h2]
      rfl
    rw [h3, h]
    rfl
  · rw [h]
    rfl
theorem nd_t {p : Prop} [Decidable p] (h : p) : (!decide p) = false := by rw [decide_eq_true h]; rfl
theorem nd_f {p : Prop} [Decidable p] (h : ¬ p) : (!decide p) = true := by rw [decide_eq_false h]; rfl
def smpE (l : List Nat) : Int × Int := match l.findIdx? (fun b => se b != 0) with
  | some i => ((i : Int), se (l.getD i 0))
  | none => (0, 0)
def resE (rate : Int) (l : List Nat) : Int × Int :=
  if ¬ (8000 ≤ rate ∧ rate ≤ 192000) then (0, 2) else if l.length = 0 then (0, 10) else if 1024 < l.length then (0, 8) else smpE l
def askE (rate : Int) (l : List Nat) (noise tail : Int) : Int × Int :=
  if (resE rate l).2 ≠ 0 then resE rate l else if (0 ≤ noise ∧ noise ≤ 32767) ∧ (0 ≤ tail ∧ tail ≤ 1000000000000) then (0, 0) else (0, 2)
theorem smpE_zero {l : List Nat} (h : (smpE l).2 = 0) : ∀ b ∈ l, se b = 0 := by
  unfold smpE at h
  cases hf : l.findIdx? (fun b => se b != 0) with
  | none =>
    rw [List.findIdx?_eq_none_iff] at hf
    intro b hb
    simpa using hf b hb
  | some i =>
    rw [hf] at h
    rw [List.findIdx?_eq_some_iff_getElem] at hf
    obtain ⟨hi, hp, _⟩ := hf
    simp [List.getD, hi] at h
    simp [h] at hp
theorem smpE_of {l : List Nat} (h : ∀ b ∈ l, se b = 0) : smpE l = (0, 0) := by
  unfold smpE
  have : l.findIdx? (fun b => se b != 0) = none := by
    rw [List.findIdx?_eq_none_iff]
    intro b hb
    simp [h b hb]
  rw [this]
theorem resE_zero {rate : Int} {l : List Nat} (h : (resE rate l).2 = 0) : (8000 ≤ rate ∧ rate ≤ 192000) ∧ 0 < l.length ∧ l.length ≤ 1024 ∧ ∀ b ∈ l, se b = 0 := by
  unfold resE at h
  split at h
  · simp at h
  · rename_i h1
    split at h
    · simp at h
    · rename_i h2
      split at h
      · simp at h
      · rename_i h3
        exact ⟨Classical.not_not.1 h1, by omega, by omega, smpE_zero h⟩
theorem resE_of {rate : Int} {l : List Nat} (h1 : 8000 ≤ rate ∧ rate ≤ 192000) (h2 : 0 < l.length) (h3 : l.length ≤ 1024) (h4 : ∀ b ∈ l, se b = 0) : resE rate l = (0, 0) := by
  unfold resE
  rw [if_neg (fun h => h h1), if_neg (by omega), if_neg (by omega), smpE_of h4]
theorem resE_fst {rate : Int} {l : List Nat} (h : (resE rate l).2 = 0) : resE rate l = (0, 0) := by
  obtain ⟨h1, h2, h3, h4⟩ := resE_zero h
  exact resE_of h1 h2 h3 h4
theorem askE_zero {rate : Int} {l : List Nat} {noise tail : Int} (h : (askE rate l noise tail).2 = 0) : (resE rate l).2 = 0 ∧ (0 ≤ noise ∧ noise ≤ 32767) ∧ (0 ≤ tail ∧ tail ≤ 1000000000000) := by
  unfold askE at h
  split at h
  · contradiction
  · rename_i h1
    split at h
    · rename_i h2; exact ⟨Classical.not_not.1 h1, h2.1, h2.2⟩
    · simp at h
theorem askE_plain (rate : Int) (l : List Nat) : askE rate l 0 0 = resE rate l := by
  unfold askE
  by_cases h : (resE rate l).2 ≠ 0
  · rw [if_pos h]
  · rw [if_neg h, if_pos (by omega), resE_fst (by omega)]
theorem checkResponseG_eq (rate : Int) {l : List Nat} (hl : l.length < 1000000000000) : y50 rate l = some (resE rate l) := by
  unfold y50 y102 resE
  rw [withinG_eq, bind_some', bind_some', unless_eq, bind_some', unless_eq, bind_some', unless_eq, bind_some', first_eq (by simp), bind_some', firE3]
  by_cases h1 : 8000 ≤ rate ∧ rate ≤ 192000
  · by_cases h2 : l.length = 0
    · simp [h1, h2]
    · by_cases h3 : 1024 < l.length
      · simp [h1, h2, h3, show (0 : Int) < (l.length : Int) by omega, show ¬ (l.length : Int) ≤ 1024 by omega]
      · have h := iter_first l 0 (fun b => se b != 0) (body := y26 l) (fun i => .inl ((i : Int), se (l.getD i 0))) (.inr ()) (by omega)
          (fun i hi hp => by
            unfold y26
            rw [if_pos (by omega), if_pos (by omega), if_pos (by omega), Int.toNat_natCast, sampleErrF_eq, bind_some', if_pos hp])
          (fun i hi hp => by
            unfold y26
            rw [if_pos (by omega), if_pos (by omega), if_pos (by omega), Int.toNat_natCast, sampleErrF_eq, bind_some', if_neg (by rw [hp]; simp), wr64 (by omega)])
          (by unfold y26; rw [if_neg (by omega)])
        simp only [h1, and_self, decide_true, if_true, ne_eq, not_true_eq_false, if_false, show (0 : Int) < (l.length : Int) by omega, gt_iff_lt, show (l.length : Int) ≤ 1024 by omega, bne_self_eq_false, Bool.false_eq_true, h2, h3, h, bind_some']
        unfold smpE
        cases l.findIdx? (fun b => se b != 0) <;> rfl
  · simp [h1]
theorem checkAskG_eq (rate : Int) {l : List Nat} (noise tail : Int) (hl : l.length < 1000000000000) : y19 rate l noise tail = some (askE rate l noise tail) := by
  unfold y19 askE
  rw [checkResponseG_eq rate hl, bind_some']
  by_cases h : (resE rate l).2 = 0
  · rw [if_neg (by rw [h]; simp), if_neg (by omega), withinG_eq, bind_some']
    by_cases h1 : 0 ≤ noise ∧ noise ≤ 32767
    · rw [if_pos (by simpa using h1), withinG_eq, bind_some', unless_eq, bind_some']
      by_cases h2 : 0 ≤ tail ∧ tail ≤ 1000000000000 <;> simp [h1, h2]
    · rw [if_neg (by simpa using h1), if_neg (fun hc => h1 hc.1), unless_eq]
      rfl
  · rw [if_pos (by simpa using h), if_pos h]
theorem checkResponseR_eq (rate : Int) {l : List Nat} (hl : l.length < 1000000000000) : y25 rate l = some (resE rate l) := by
  unfold y25 y75 resE
  rw [withinB_eq, bind_some', bind_some']
  by_cases h1 : 8000 ≤ rate ∧ rate ≤ 192000
  · rw [nd_t h1, if_neg Bool.false_ne_true, if_neg (show ¬ ¬ (8000 ≤ rate ∧ rate ≤ 192000) from fun h => h h1)]
    by_cases h2 : l.length = 0
    · rw [h2, if_pos (by rfl), if_pos rfl]
    · rw [if_neg (show ¬ ((l.length : Int) == 0) = true by simpa using h2), if_neg h2]
      by_cases h3 : 1024 < l.length
      · rw [if_pos (show (l.length : Int) > 1024 by omega), if_pos h3]
      · rw [if_neg (show ¬ (l.length : Int) > 1024 by omega), if_neg h3]
        have hb : ∀ i, i < l.length → y23 l (i : Int) = if se (l.getD i 0) ≠ 0 then some (.inr (.inl ((i : Int), se (l.getD i 0)))) else some (.inl ((i : Int) + 1)) := by
          intro i hi
          unfold y23
          rw [if_pos (by omega), if_pos (by omega), if_pos (by omega), Int.toNat_natCast]
          refine Eq.trans ?_ (sampleR (α := Int ⊕ ((Int × Int) ⊕ Unit)) (l.getD i 0) (fun e => some (.inr (.inl ((i : Int), e)))) (some (.inl ((i : Int) + 1))))
          simp only [wr64 (show -9223372036854775808 ≤ (i : Int) + 1 ∧ (i : Int) + 1 ≤ 9223372036854775807 by omega)]
        have h := iter_first l 0 (fun b => se b != 0) (body := y23 l) (fun i => .inl ((i : Int), se (l.getD i 0))) (.inr ()) (by omega)
          (fun i hi hp => by rw [hb i hi, if_pos (by simpa using hp)])
          (fun i hi hp => by rw [hb i hi, if_neg (by simpa using hp)])
          (by unfold y23; rw [if_neg (by omega)])
        rw [h, bind_some']
        unfold smpE
        cases l.findIdx? (fun b => se b != 0) <;> rfl
  · rw [nd_f h1, if_pos rfl, if_pos (show ¬ (8000 ≤ rate ∧ rate ≤ 192000) from h1)]
theorem checkAskR_eq (rate : Int) {l : List Nat} (noise tail : Int) (hl : l.length < 1000000000000) : y80 rate l noise tail = some (askE rate l noise tail) := by
  unfold y80 askE
  rw [checkResponseR_eq rate hl, bind_some']
  by_cases h : (resE rate l).2 = 0
  · rw [if_neg (show ¬ ((resE rate l).2 != 0) = true by rw [h]; simp), if_neg (show ¬ (resE rate l).2 ≠ 0 by omega), withinB_eq, bind_some']
    by_cases h1 : 0 ≤ noise ∧ noise ≤ 32767
    · rw [nd_t h1, if_neg Bool.false_ne_true, withinB_eq, bind_some']
      by_cases h2 : 0 ≤ tail ∧ tail ≤ 1000000000000 <;> simp [h1, h2]
    · rw [nd_f h1, if_pos rfl, if_neg (fun hc => h1 hc.1)]
  · rw [if_pos (by simpa using h), if_pos h]
theorem responseErr_eq (rate : Int) {l : List Nat} (hl : l.length < 1000000000000) : y62 rate l = some (resE rate l).2 := by
  unfold y62; rw [checkResponseR_eq rate hl]; rfl
theorem askErr_eq (rate : Int) {l : List Nat} (noise tail : Int) (hl : l.length < 1000000000000) : y110 rate l noise tail = some (askE rate l noise tail).2 := by
  unfold y110; rw [checkAskR_eq rate noise tail hl]; rfl
end Go.Sh
end

section
namespace Go.Sh
open Go Go.Proofs Go.RowKit Go.Sx
set_option linter.unusedVariables false
def y119 : List SV := [.a [.d, .d], .c (.p [.p [.d, .r (.floats .f32 []), .d, .d, .r (.recs 2 []), .r (.recs 2 [])]]), .c (.p [.d])]
def y64 (u38 : Int) (u39 : Int) (u17 : Int) (u18 : List Nat) (u19 : Int) (u20 : Int) (u21 : List (List Int)) (u22 : List (List Int)) (v1_ : Int) : Option Bool :=
  if (0 : Int) ≤ (0 : Int) ∧ (0 : Int) < (↑(List.length u22) : Int) then
   if (0 : Nat) < List.length u22 then
    Option.bind (y85 u38 (List.getD (List.getD u22 (0 : Nat) []) (1 : Nat) (0 : Int)) v1_) fun r0 =>
    some r0
   else none
  else none
def y120 : List Lf → Option GT
  | [.d (.i .i64 u38), .d (.i .i64 u39), .d (.i .i64 u17), .r (.floats .f32 u18), .d (.i .i64 u19), .d (.i .i64 u20), .r (.recs 2 u21), .r (.recs 2 u22), .d (.i .i64 v1_)] => some (.leaf (ok (y64 u38 u39 u17 u18 u19 u20 u21 u22 v1_)) [.c (.d (.b ((val (y64 u38 u39 u17 u18 u19 u20 u21 u22 v1_)))))])
  | _ => none
abbrev sp_142 : Specs → Specs := addK 142 true (pureT y119 y120)
set_option maxRecDepth 100000 in
theorem G_decay_passing_1_vc (u38 : Int) (u39 : Int) (u17 : Int) (u18 : List Nat) (u19 : Int) (u20 : Int) (u21 : List (List Int)) (u22 : List (List Int)) (v1_ : Int) (r : Bool) (h : Option.bind (y64 u38 u39 u17 u18 u19 u20 u21 u22 v1_) some = some r) : runT Tryz.f142 ((sp_96 sp0)) (fun _ _ _ => none) (bldD y119 [.d (.i .i64 u38), .d (.i .i64 u39), .d (.i .i64 u17), .r (.floats .f32 u18), .d (.i .i64 u19), .d (.i .i64 u20), .r (.recs 2 u21), .r (.recs 2 u22), .d (.i .i64 v1_)]) [.c (.d (.b r))] := by
  refine Eq.mp (by kernel_rfl : (
 (Ob (True) ∧
 (Ob (True) ∧
 (Ob ((0 : Int) ≤ (0 : Int) ∧ (0 : Int) < (↑(List.length u22) : Int)) ∧
 (Ob ((0 : Nat) < List.length u22) ∧
 (Ob (True) ∧
 (Ob (ok (y85 u38 (List.getD (List.getD u22 (0 : Nat) []) (1 : Nat) (0 : Int)) v1_)) ∧
 (Ob (True) ∧
 (Ob (val (y85 u38 (List.getD (List.getD u22 (0 : Nat) []) (1 : Nat) (0 : Int)) v1_) = r) ∧
 True))))))))) = _) ?_
  refine ob_t ?_
  refine ob_t ?_
  refine ob_s h fun h => ?_
  refine ob_s h fun h => ?_
  refine ob_t ?_
  refine call_s h fun h => ?_
  refine ob_t ?_
  exact ret_s h (fun e => by subst e; exact (by repeat' (first | exact trivial | exact ⟨rfl⟩ | refine And.intro ?_ ?_)))
set_option maxRecDepth 100000 in
theorem G_decay_passing_1_ok : SpecOK Tryz.prog 142 true (pureT y119 y120) := by
  refine pureT_ok (sp := (sp_96 sp0)) (fn := Tryz.f142) (body := bodyOf Tryz.f142) mixed (sp_96_ok sp0_ok) Tryz.func142 (by kernel_rfl) (by kernel_rfl) fun ls t h ho b hb => ?_
  unfold y120 at h
  split at h
  · rename_i u38 u39 u17 u18 u19 u20 u21 u22 v1_
    cases h
    obtain rfl := bld_eq hb
    exact ⟨Nat.le_of_ble_eq_true (by kernel_rfl), _, _, G_decay_passing_1_vc u38 u39 u17 u18 u19 u20 u21 u22 v1_ _ (ok_some ho)⟩
  · cases h
theorem sp_142_ok {sp : Specs} (h : SpecsOK Tryz.prog sp) : SpecsOK Tryz.prog (sp_142 sp) := addK_ok G_decay_passing_1_ok h
def y121 : List SV := [.a [.d, .d], .c (.p [.p [.d, .r (.floats .f32 []), .d, .d, .r (.recs 2 []), .r (.recs 2 [])]]), .c (.p [.d])]
def y65 (u38 : Int) (u39 : Int) (u17 : Int) (u18 : List Nat) (u19 : Int) (u20 : Int) (u21 : List (List Int)) (u22 : List (List Int)) (v1_ : Int) : Option Bool :=
  if (0 : Int) ≤ (0 : Int) ∧ (0 : Int) < (↑(List.length u22) : Int) then
   if (0 : Nat) < List.length u22 then
    Option.bind (y85 u39 (List.getD (List.getD u22 (0 : Nat) []) (0 : Nat) (0 : Int)) v1_) fun r0 =>
    some r0
   else none
  else none
def y122 : List Lf → Option GT
  | [.d (.i .i64 u38), .d (.i .i64 u39), .d (.i .i64 u17), .r (.floats .f32 u18), .d (.i .i64 u19), .d (.i .i64 u20), .r (.recs 2 u21), .r (.recs 2 u22), .d (.i .i64 v1_)] => some (.leaf (ok (y65 u38 u39 u17 u18 u19 u20 u21 u22 v1_)) [.c (.d (.b ((val (y65 u38 u39 u17 u18 u19 u20 u21 u22 v1_)))))])
  | _ => none
abbrev sp_143 : Specs → Specs := addK 143 true (pureT y121 y122)
set_option maxRecDepth 100000 in
theorem G_decay_passing_2_vc (u38 : Int) (u39 : Int) (u17 : Int) (u18 : List Nat) (u19 : Int) (u20 : Int) (u21 : List (List Int)) (u22 : List (List Int)) (v1_ : Int) (r : Bool) (h : Option.bind (y65 u38 u39 u17 u18 u19 u20 u21 u22 v1_) some = some r) : runT Tryz.f143 ((sp_96 sp0)) (fun _ _ _ => none) (bldD y121 [.d (.i .i64 u38), .d (.i .i64 u39), .d (.i .i64 u17), .r (.floats .f32 u18), .d (.i .i64 u19), .d (.i .i64 u20), .r (.recs 2 u21), .r (.recs 2 u22), .d (.i .i64 v1_)]) [.c (.d (.b r))] := by
  refine Eq.mp (by kernel_rfl : (
 (Ob (True) ∧
 (Ob (True) ∧
 (Ob ((0 : Int) ≤ (0 : Int) ∧ (0 : Int) < (↑(List.length u22) : Int)) ∧
 (Ob ((0 : Nat) < List.length u22) ∧
 (Ob (True) ∧
 (Ob (ok (y85 u39 (List.getD (List.getD u22 (0 : Nat) []) (0 : Nat) (0 : Int)) v1_)) ∧
 (Ob (True) ∧
 (Ob (val (y85 u39 (List.getD (List.getD u22 (0 : Nat) []) (0 : Nat) (0 : Int)) v1_) = r) ∧
 True))))))))) = _) ?_
  refine ob_t ?_
  refine ob_t ?_
  refine ob_s h fun h => ?_
  refine ob_s h fun h => ?_
  refine ob_t ?_
  refine call_s h fun h => ?_
  refine ob_t ?_
  exact ret_s h (fun e => by subst e; exact (by repeat' (first | exact trivial | exact ⟨rfl⟩ | refine And.intro ?_ ?_)))
set_option maxRecDepth 100000 in
theorem G_decay_passing_2_ok : SpecOK Tryz.prog 143 true (pureT y121 y122) := by
  refine pureT_ok (sp := (sp_96 sp0)) (fn := Tryz.f143) (body := bodyOf Tryz.f143) mixed (sp_96_ok sp0_ok) Tryz.func143 (by kernel_rfl) (by kernel_rfl) fun ls t h ho b hb => ?_
  unfold y122 at h
  split at h
  · rename_i u38 u39 u17 u18 u19 u20 u21 u22 v1_
    cases h
    obtain rfl := bld_eq hb
    exact ⟨Nat.le_of_ble_eq_true (by kernel_rfl), _, _, G_decay_passing_2_vc u38 u39 u17 u18 u19 u20 u21 u22 v1_ _ (ok_some ho)⟩
  · cases h
theorem sp_143_ok {sp : Specs} (h : SpecsOK Tryz.prog sp) : SpecsOK Tryz.prog (sp_143 sp) := addK_ok G_decay_passing_2_ok h
def y157 : List SV := [.a [.d, .d], .c (.p [.p [.d, .r (.floats .f32 []), .d, .d, .r (.recs 2 []), .r (.recs 2 [])]]), .c (.p [.d])]
def y96 (u62 : Int) (u63 : Int) (u17 : Int) (u18 : List Nat) (u19 : Int) (u20 : Int) (u21 : List (List Int)) (u22 : List (List Int)) (v1_ : Int) : Option Bool :=
  if (0 : Int) ≤ (0 : Int) ∧ (0 : Int) < (↑(List.length u22) : Int) then
   if (0 : Nat) < List.length u22 then
    Option.bind (y85 u62 (List.getD (List.getD u22 (0 : Nat) []) (0 : Nat) (0 : Int)) v1_) fun r0 =>
    some r0
   else none
  else none
def y158 : List Lf → Option GT
  | [.d (.i .i64 u62), .d (.i .i64 u63), .d (.i .i64 u17), .r (.floats .f32 u18), .d (.i .i64 u19), .d (.i .i64 u20), .r (.recs 2 u21), .r (.recs 2 u22), .d (.i .i64 v1_)] => some (.leaf (ok (y96 u62 u63 u17 u18 u19 u20 u21 u22 v1_)) [.c (.d (.b ((val (y96 u62 u63 u17 u18 u19 u20 u21 u22 v1_)))))])
  | _ => none
abbrev sp_95 : Specs → Specs := addK 95 true (pureT y157 y158)
set_option maxRecDepth 100000 in
theorem G_FirstBelow_1_vc (u62 : Int) (u63 : Int) (u17 : Int) (u18 : List Nat) (u19 : Int) (u20 : Int) (u21 : List (List Int)) (u22 : List (List Int)) (v1_ : Int) (r : Bool) (h : Option.bind (y96 u62 u63 u17 u18 u19 u20 u21 u22 v1_) some = some r) : runT Tryz.f95 ((sp_96 sp0)) (fun _ _ _ => none) (bldD y157 [.d (.i .i64 u62), .d (.i .i64 u63), .d (.i .i64 u17), .r (.floats .f32 u18), .d (.i .i64 u19), .d (.i .i64 u20), .r (.recs 2 u21), .r (.recs 2 u22), .d (.i .i64 v1_)]) [.c (.d (.b r))] := by
  refine Eq.mp (by kernel_rfl : (
 (Ob (True) ∧
 (Ob (True) ∧
 (Ob ((0 : Int) ≤ (0 : Int) ∧ (0 : Int) < (↑(List.length u22) : Int)) ∧
 (Ob ((0 : Nat) < List.length u22) ∧
 (Ob (True) ∧
 (Ob (ok (y85 u62 (List.getD (List.getD u22 (0 : Nat) []) (0 : Nat) (0 : Int)) v1_)) ∧
 (Ob (True) ∧
 (Ob (val (y85 u62 (List.getD (List.getD u22 (0 : Nat) []) (0 : Nat) (0 : Int)) v1_) = r) ∧
 True))))))))) = _) ?_
  refine ob_t ?_
  refine ob_t ?_
  refine ob_s h fun h => ?_
  refine ob_s h fun h => ?_
  refine ob_t ?_
  refine call_s h fun h => ?_
  refine ob_t ?_
  exact ret_s h (fun e => by subst e; exact (by repeat' (first | exact trivial | exact ⟨rfl⟩ | refine And.intro ?_ ?_)))
set_option maxRecDepth 100000 in
theorem G_FirstBelow_1_ok : SpecOK Tryz.prog 95 true (pureT y157 y158) := by
  refine pureT_ok (sp := (sp_96 sp0)) (fn := Tryz.f95) (body := bodyOf Tryz.f95) mixed (sp_96_ok sp0_ok) Tryz.func95 (by kernel_rfl) (by kernel_rfl) fun ls t h ho b hb => ?_
  unfold y158 at h
  split at h
  · rename_i u62 u63 u17 u18 u19 u20 u21 u22 v1_
    cases h
    obtain rfl := bld_eq hb
    exact ⟨Nat.le_of_ble_eq_true (by kernel_rfl), _, _, G_FirstBelow_1_vc u62 u63 u17 u18 u19 u20 u21 u22 v1_ _ (ok_some ho)⟩
  · cases h
theorem sp_95_ok {sp : Specs} (h : SpecsOK Tryz.prog sp) : SpecsOK Tryz.prog (sp_95 sp) := addK_ok G_FirstBelow_1_ok h
def y68 : List SV := [.c (.r (.recs 2 [])), .c (.f 142 [.p [.p [.d, .r (.floats .f32 []), .d, .d, .r (.recs 2 []), .r (.recs 2 [])]], .p [.d]])]
def y29 (s : List (List Int)) (u26 : Int) (u27 : List Nat) (u28 : Int) (u29 : Int) (u30 : List (List Int)) (u31 : List (List Int)) (f1_ : Int) (x0 : Int) : Option (Int ⊕ (Int ⊕ Unit)) :=
  if x0 < (↑(List.length s) : Int) then
   if (0 : Int) ≤ x0 ∧ x0 < (↑(List.length s) : Int) then
    if Int.toNat x0 < List.length s then
     Option.bind (y64 (List.getD (List.getD s (Int.toNat x0) []) (0 : Nat) (0 : Int)) (List.getD (List.getD s (Int.toNat x0) []) (1 : Nat) (0 : Int)) u26 u27 u28 u29 u30 u31 f1_) fun r0 =>
     if (r0) = true then
      some (.inr (.inl x0))
     else
      some (.inl (IntKind.wrap .i64 (x0 + (1 : Int))))
    else none
   else none
  else
   some (.inr ((.inr ())))
def y163 (u16 : Int) : Option Int :=
  some u16
def y164 (u33 : Unit) : Option Int :=
  some (-1 : Int)
def y30 : (Int ⊕ Unit) → Option Int :=
  (Sum.elim (y163) (y164))
def y41 (s : List (List Int)) (u26 : Int) (u27 : List Nat) (u28 : Int) (u29 : Int) (u30 : List (List Int)) (u31 : List (List Int)) (f1_ : Int) : Option Int :=
  Option.bind (iter (y29 s u26 u27 u28 u29 u30 u31 f1_) big (0 : Int)) (y30)
def y69 : List Lf → Option GT
  | [.r (.recs 2 s), .d (.i .i64 u26), .r (.floats .f32 u27), .d (.i .i64 u28), .d (.i .i64 u29), .r (.recs 2 u30), .r (.recs 2 u31), .d (.i .i64 f1_)] => some (.leaf (ok (y41 s u26 u27 u28 u29 u30 u31 f1_)) [.c (.d (.i .i64 ((val (y41 s u26 u27 u28 u29 u30 u31 f1_)))))])
  | _ => none
set_option maxRecDepth 100000 in
theorem y181 (s : List (List Int)) (u26 : Int) (u27 : List Nat) (u28 : Int) (u29 : Int) (u30 : List (List Int)) (u31 : List (List Int)) (f1_ : Int) (r : Int) (h : Option.bind (y41 s u26 u27 u28 u29 u30 u31 f1_) some = some r) : runT Tryz.f94 ((sp_142 sp0)) (fun gs id _ => match id with
 | 0 => some ⟨Int × Nat, fun z => ⟨[(0, .w (.c (.o 0))), (1, .w (.c (.fn 142 [5, 6]))), (7, .w (.c (.d (.i .i64 ((↑(List.length s) : Int)))))), (8, .w (.c (.d (.i .i64 (Prod.fst z)))))], [(0, .ext (.recs 2 s)), (5, .ebox [.p 4 (0 : Nat) 1 (0 : Nat)]), (6, .ebox [.d (.i .i64 f1_)]), (4, .ebox [.d (.i .i64 u26), .o 1, .d (.i .i64 u28), .d (.i .i64 u29), .o 2, .o 3]), (1, .ext (.floats .f32 u27)), (2, .ext (.recs 2 u30)), (3, .ext (.recs 2 u31))], 7⟩, fun z => Option.bind (iter (y29 s u26 u27 u28 u29 u30 u31 f1_) (Prod.snd z) (Prod.fst z)) (fun y0 => Option.bind (y30 y0) some) = some r, fun z => Prod.snd z⟩
 | _ => none) (bldD y68 [.r (.recs 2 s), .d (.i .i64 u26), .r (.floats .f32 u27), .d (.i .i64 u28), .d (.i .i64 u29), .r (.recs 2 u30), .r (.recs 2 u31), .d (.i .i64 f1_)]) [.c (.d (.i .i64 r))] := by
  refine Eq.mp (by kernel_rfl : (
  ((∃ (v0 : Int × Nat), (Ob ((Option.bind (iter (y29 s u26 u27 u28 u29 u30 u31 f1_) v0.2 v0.1) fun y0 => Option.bind (y30 y0) some) = some r) ∧
 (Ob ((↑(List.length s) : Int) = (↑(List.length s) : Int)) ∧
 (Ob ((0 : Int) = v0.1) ∧
 (Ob (s = s) ∧
 (Ob ((0 : Nat) = (0 : Nat)) ∧
 (Ob (f1_ = f1_) ∧
 (Ob (u26 = u26) ∧
 (Ob (u28 = u28) ∧
 (Ob (u29 = u29) ∧
 (Ob (u27 = u27) ∧
 (Ob (u30 = u30) ∧
 (Ob (u31 = u31) ∧
 True))))))))))))) ∧
   (∀ (v0 : Int × Nat), ((Option.bind (iter (y29 s u26 u27 u28 u29 u30 u31 f1_) v0.2 v0.1) fun y0 => Option.bind (y30 y0) some) = some r →
 Br (decide (v0.1 < (↑(List.length s) : Int)))
   ((Ob ((0 : Int) ≤ v0.1 ∧ v0.1 < (↑(List.length s) : Int)) ∧
 (Ob (Int.toNat v0.1 < List.length s) ∧
 (Ob (ok (y64 (List.getD (List.getD s (Int.toNat v0.1) []) (0 : Nat) (0 : Int)) (List.getD (List.getD s (Int.toNat v0.1) []) (1 : Nat) (0 : Int)) u26 u27 u28 u29 u30 u31 f1_)) ∧
 Br (val (y64 (List.getD (List.getD s (Int.toNat v0.1) []) (0 : Nat) (0 : Int)) (List.getD (List.getD s (Int.toNat v0.1) []) (1 : Nat) (0 : Int)) u26 u27 u28 u29 u30 u31 f1_))
   ((Ob (True) ∧
 (Ob (v0.1 = r) ∧
 True)))
   ((∃ (v1 : Int × Nat), (Ob ((Option.bind (iter (y29 s u26 u27 u28 u29 u30 u31 f1_) v1.2 v1.1) fun y0 => Option.bind (y30 y0) some) = some r) ∧
 (Ob (v1.2 < v0.2) ∧
 (Ob ((↑(List.length s) : Int) = (↑(List.length s) : Int)) ∧
 (Ob (IntKind.wrap .i64 (v0.1 + (1 : Int)) = v1.1) ∧
 (Ob (s = s) ∧
 (Ob ((0 : Nat) = (0 : Nat)) ∧
 (Ob (f1_ = f1_) ∧
 (Ob (u26 = u26) ∧
 (Ob (u28 = u28) ∧
 (Ob (u29 = u29) ∧
 (Ob (u27 = u27) ∧
 (Ob (u30 = u30) ∧
 (Ob (u31 = u31) ∧
 True)))))))))))))))))))
   ((Ob (True) ∧
 (Ob ((-1 : Int) = r) ∧
 True))))))) = _) ?_
  refine ⟨⟨((0 : Int), big), ⟨loop_s h⟩, (by repeat' (first | exact trivial | exact ⟨rfl⟩ | refine And.intro ?_ ?_))⟩, fun z1 hz1 => ?_⟩
  obtain ⟨k1, hm1, h⟩ := iter_pos hz1
  refine br_d h (fun h => ?_) (fun h => ?_)
  · refine ob_s h fun h => ?_
    refine ob_s h fun h => ?_
    refine call_s h fun h => ?_
    refine br_b h (fun h => ?_) (fun h => ?_)
    · have h := exit_s h
      refine ob_t ?_
      exact ret_s h (fun e => by subst e; exact (by repeat' (first | exact trivial | exact ⟨rfl⟩ | refine And.intro ?_ ?_)))
    · exact ⟨(IntKind.wrap .i64 (Prod.fst z1 + (1 : Int)), k1), ⟨next_s h⟩, ⟨lt_gs hm1.symm⟩, (by repeat' (first | exact trivial | exact ⟨rfl⟩ | refine And.intro ?_ ?_))⟩
  · have h := exit_s h
    refine ob_t ?_
    exact ret_s h (fun e => by subst e; exact (by repeat' (first | exact trivial | exact ⟨rfl⟩ | refine And.intro ?_ ?_)))
set_option maxRecDepth 100000 in
theorem y182 : SpecOK Tryz.prog 94 true (pureT y68 y69) := by
  refine pureT_ok (sp := (sp_142 sp0)) (fn := Tryz.f94) (body := bodyOf Tryz.f94) mixed (sp_142_ok sp0_ok) Tryz.func94 (by kernel_rfl) (by kernel_rfl) fun ls t h ho b hb => ?_
  unfold y69 at h
  split at h
  · rename_i s u26 u27 u28 u29 u30 u31 f1_
    cases h
    obtain rfl := bld_eq hb
    exact ⟨Nat.le_of_ble_eq_true (by kernel_rfl), _, _, y181 s u26 u27 u28 u29 u30 u31 f1_ _ (ok_some ho)⟩
  · cases h
def y70 : List SV := [.c (.r (.recs 2 [])), .c (.f 143 [.p [.p [.d, .r (.floats .f32 []), .d, .d, .r (.recs 2 []), .r (.recs 2 [])]], .p [.d]])]
def y31 (s : List (List Int)) (u26 : Int) (u27 : List Nat) (u28 : Int) (u29 : Int) (u30 : List (List Int)) (u31 : List (List Int)) (f1_ : Int) (x0 : Int) : Option (Int ⊕ (Int ⊕ Unit)) :=
  if x0 < (↑(List.length s) : Int) then
   if (0 : Int) ≤ x0 ∧ x0 < (↑(List.length s) : Int) then
    if Int.toNat x0 < List.length s then
     Option.bind (y65 (List.getD (List.getD s (Int.toNat x0) []) (0 : Nat) (0 : Int)) (List.getD (List.getD s (Int.toNat x0) []) (1 : Nat) (0 : Int)) u26 u27 u28 u29 u30 u31 f1_) fun r0 =>
     if (r0) = true then
      some (.inr (.inl x0))
     else
      some (.inl (IntKind.wrap .i64 (x0 + (1 : Int))))
    else none
   else none
  else
   some (.inr ((.inr ())))
def y165 (u16 : Int) : Option Int :=
  some u16
def y166 (u33 : Unit) : Option Int :=
  some (-1 : Int)
def y32 : (Int ⊕ Unit) → Option Int :=
  (Sum.elim (y165) (y166))
def y42 (s : List (List Int)) (u26 : Int) (u27 : List Nat) (u28 : Int) (u29 : Int) (u30 : List (List Int)) (u31 : List (List Int)) (f1_ : Int) : Option Int :=
  Option.bind (iter (y31 s u26 u27 u28 u29 u30 u31 f1_) big (0 : Int)) (y32)
def y71 : List Lf → Option GT
  | [.r (.recs 2 s), .d (.i .i64 u26), .r (.floats .f32 u27), .d (.i .i64 u28), .d (.i .i64 u29), .r (.recs 2 u30), .r (.recs 2 u31), .d (.i .i64 f1_)] => some (.leaf (ok (y42 s u26 u27 u28 u29 u30 u31 f1_)) [.c (.d (.i .i64 ((val (y42 s u26 u27 u28 u29 u30 u31 f1_)))))])
  | _ => none
set_option maxRecDepth 100000 in
theorem y183 (s : List (List Int)) (u26 : Int) (u27 : List Nat) (u28 : Int) (u29 : Int) (u30 : List (List Int)) (u31 : List (List Int)) (f1_ : Int) (r : Int) (h : Option.bind (y42 s u26 u27 u28 u29 u30 u31 f1_) some = some r) : runT Tryz.f94 ((sp_143 sp0)) (fun gs id _ => match id with
 | 0 => some ⟨Int × Nat, fun z => ⟨[(0, .w (.c (.o 0))), (1, .w (.c (.fn 143 [5, 6]))), (7, .w (.c (.d (.i .i64 ((↑(List.length s) : Int)))))), (8, .w (.c (.d (.i .i64 (Prod.fst z)))))], [(0, .ext (.recs 2 s)), (5, .ebox [.p 4 (0 : Nat) 1 (0 : Nat)]), (6, .ebox [.d (.i .i64 f1_)]), (4, .ebox [.d (.i .i64 u26), .o 1, .d (.i .i64 u28), .d (.i .i64 u29), .o 2, .o 3]), (1, .ext (.floats .f32 u27)), (2, .ext (.recs 2 u30)), (3, .ext (.recs 2 u31))], 7⟩, fun z => Option.bind (iter (y31 s u26 u27 u28 u29 u30 u31 f1_) (Prod.snd z) (Prod.fst z)) (fun y0 => Option.bind (y32 y0) some) = some r, fun z => Prod.snd z⟩
 | _ => none) (bldD y70 [.r (.recs 2 s), .d (.i .i64 u26), .r (.floats .f32 u27), .d (.i .i64 u28), .d (.i .i64 u29), .r (.recs 2 u30), .r (.recs 2 u31), .d (.i .i64 f1_)]) [.c (.d (.i .i64 r))] := by
  refine Eq.mp (by kernel_rfl : (
  ((∃ (v0 : Int × Nat), (Ob ((Option.bind (iter (y31 s u26 u27 u28 u29 u30 u31 f1_) v0.2 v0.1) fun y0 => Option.bind (y32 y0) some) = some r) ∧
 (Ob ((↑(List.length s) : Int) = (↑(List.length s) : Int)) ∧
 (Ob ((0 : Int) = v0.1) ∧
 (Ob (s = s) ∧
 (Ob ((0 : Nat) = (0 : Nat)) ∧
 (Ob (f1_ = f1_) ∧
 (Ob (u26 = u26) ∧
 (Ob (u28 = u28) ∧
 (Ob (u29 = u29) ∧
 (Ob (u27 = u27) ∧
 (Ob (u30 = u30) ∧
 (Ob (u31 = u31) ∧
 True))))))))))))) ∧
   (∀ (v0 : Int × Nat), ((Option.bind (iter (y31 s u26 u27 u28 u29 u30 u31 f1_) v0.2 v0.1) fun y0 => Option.bind (y32 y0) some) = some r →
 Br (decide (v0.1 < (↑(List.length s) : Int)))
   ((Ob ((0 : Int) ≤ v0.1 ∧ v0.1 < (↑(List.length s) : Int)) ∧
 (Ob (Int.toNat v0.1 < List.length s) ∧
 (Ob (ok (y65 (List.getD (List.getD s (Int.toNat v0.1) []) (0 : Nat) (0 : Int)) (List.getD (List.getD s (Int.toNat v0.1) []) (1 : Nat) (0 : Int)) u26 u27 u28 u29 u30 u31 f1_)) ∧
 Br (val (y65 (List.getD (List.getD s (Int.toNat v0.1) []) (0 : Nat) (0 : Int)) (List.getD (List.getD s (Int.toNat v0.1) []) (1 : Nat) (0 : Int)) u26 u27 u28 u29 u30 u31 f1_))
   ((Ob (True) ∧
 (Ob (v0.1 = r) ∧
 True)))
   ((∃ (v1 : Int × Nat), (Ob ((Option.bind (iter (y31 s u26 u27 u28 u29 u30 u31 f1_) v1.2 v1.1) fun y0 => Option.bind (y32 y0) some) = some r) ∧
 (Ob (v1.2 < v0.2) ∧
 (Ob ((↑(List.length s) : Int) = (↑(List.length s) : Int)) ∧
 (Ob (IntKind.wrap .i64 (v0.1 + (1 : Int)) = v1.1) ∧
 (Ob (s = s) ∧
 (Ob ((0 : Nat) = (0 : Nat)) ∧
 (Ob (f1_ = f1_) ∧
 (Ob (u26 = u26) ∧
 (Ob (u28 = u28) ∧
 (Ob (u29 = u29) ∧
 (Ob (u27 = u27) ∧
 (Ob (u30 = u30) ∧
 (Ob (u31 = u31) ∧
 True)))))))))))))))))))
   ((Ob (True) ∧
 (Ob ((-1 : Int) = r) ∧
 True))))))) = _) ?_
  refine ⟨⟨((0 : Int), big), ⟨loop_s h⟩, (by repeat' (first | exact trivial | exact ⟨rfl⟩ | refine And.intro ?_ ?_))⟩, fun z1 hz1 => ?_⟩
  obtain ⟨k1, hm1, h⟩ := iter_pos hz1
  refine br_d h (fun h => ?_) (fun h => ?_)
  · refine ob_s h fun h => ?_
    refine ob_s h fun h => ?_
    refine call_s h fun h => ?_
    refine br_b h (fun h => ?_) (fun h => ?_)
    · have h := exit_s h
      refine ob_t ?_
      exact ret_s h (fun e => by subst e; exact (by repeat' (first | exact trivial | exact ⟨rfl⟩ | refine And.intro ?_ ?_)))
    · exact ⟨(IntKind.wrap .i64 (Prod.fst z1 + (1 : Int)), k1), ⟨next_s h⟩, ⟨lt_gs hm1.symm⟩, (by repeat' (first | exact trivial | exact ⟨rfl⟩ | refine And.intro ?_ ?_))⟩
  · have h := exit_s h
    refine ob_t ?_
    exact ret_s h (fun e => by subst e; exact (by repeat' (first | exact trivial | exact ⟨rfl⟩ | refine And.intro ?_ ?_)))
set_option maxRecDepth 100000 in
theorem y184 : SpecOK Tryz.prog 94 true (pureT y70 y71) := by
  refine pureT_ok (sp := (sp_143 sp0)) (fn := Tryz.f94) (body := bodyOf Tryz.f94) mixed (sp_143_ok sp0_ok) Tryz.func94 (by kernel_rfl) (by kernel_rfl) fun ls t h ho b hb => ?_
  unfold y71 at h
  split at h
  · rename_i s u26 u27 u28 u29 u30 u31 f1_
    cases h
    obtain rfl := bld_eq hb
    exact ⟨Nat.le_of_ble_eq_true (by kernel_rfl), _, _, y183 s u26 u27 u28 u29 u30 u31 f1_ _ (ok_some ho)⟩
  · cases h
def y81 : List SV := [.c (.r (.recs 2 [])), .c (.f 95 [.p [.p [.d, .r (.floats .f32 []), .d, .d, .r (.recs 2 []), .r (.recs 2 [])]], .p [.d]])]
def y38 (s : List (List Int)) (u26 : Int) (u27 : List Nat) (u28 : Int) (u29 : Int) (u30 : List (List Int)) (u31 : List (List Int)) (f1_ : Int) (x0 : Int) : Option (Int ⊕ (Int ⊕ Unit)) :=
  if x0 < (↑(List.length s) : Int) then
   if (0 : Int) ≤ x0 ∧ x0 < (↑(List.length s) : Int) then
    if Int.toNat x0 < List.length s then
     Option.bind (y96 (List.getD (List.getD s (Int.toNat x0) []) (0 : Nat) (0 : Int)) (List.getD (List.getD s (Int.toNat x0) []) (1 : Nat) (0 : Int)) u26 u27 u28 u29 u30 u31 f1_) fun r0 =>
     if (r0) = true then
      some (.inr (.inl x0))
     else
      some (.inl (IntKind.wrap .i64 (x0 + (1 : Int))))
    else none
   else none
  else
   some (.inr ((.inr ())))
def y169 (u16 : Int) : Option Int :=
  some u16
def y170 (u33 : Unit) : Option Int :=
  some (-1 : Int)
def y39 : (Int ⊕ Unit) → Option Int :=
  (Sum.elim (y169) (y170))
def y93 (s : List (List Int)) (u26 : Int) (u27 : List Nat) (u28 : Int) (u29 : Int) (u30 : List (List Int)) (u31 : List (List Int)) (f1_ : Int) : Option Int :=
  Option.bind (iter (y38 s u26 u27 u28 u29 u30 u31 f1_) big (0 : Int)) (y39)
def y82 : List Lf → Option GT
  | [.r (.recs 2 s), .d (.i .i64 u26), .r (.floats .f32 u27), .d (.i .i64 u28), .d (.i .i64 u29), .r (.recs 2 u30), .r (.recs 2 u31), .d (.i .i64 f1_)] => some (.leaf (ok (y93 s u26 u27 u28 u29 u30 u31 f1_)) [.c (.d (.i .i64 ((val (y93 s u26 u27 u28 u29 u30 u31 f1_)))))])
  | _ => none
set_option maxRecDepth 100000 in
theorem y185 (s : List (List Int)) (u26 : Int) (u27 : List Nat) (u28 : Int) (u29 : Int) (u30 : List (List Int)) (u31 : List (List Int)) (f1_ : Int) (r : Int) (h : Option.bind (y93 s u26 u27 u28 u29 u30 u31 f1_) some = some r) : runT Tryz.f94 ((sp_95 sp0)) (fun gs id _ => match id with
 | 0 => some ⟨Int × Nat, fun z => ⟨[(0, .w (.c (.o 0))), (1, .w (.c (.fn 95 [5, 6]))), (7, .w (.c (.d (.i .i64 ((↑(List.length s) : Int)))))), (8, .w (.c (.d (.i .i64 (Prod.fst z)))))], [(0, .ext (.recs 2 s)), (5, .ebox [.p 4 (0 : Nat) 1 (0 : Nat)]), (6, .ebox [.d (.i .i64 f1_)]), (4, .ebox [.d (.i .i64 u26), .o 1, .d (.i .i64 u28), .d (.i .i64 u29), .o 2, .o 3]), (1, .ext (.floats .f32 u27)), (2, .ext (.recs 2 u30)), (3, .ext (.recs 2 u31))], 7⟩, fun z => Option.bind (iter (y38 s u26 u27 u28 u29 u30 u31 f1_) (Prod.snd z) (Prod.fst z)) (fun y0 => Option.bind (y39 y0) some) = some r, fun z => Prod.snd z⟩
 | _ => none) (bldD y81 [.r (.recs 2 s), .d (.i .i64 u26), .r (.floats .f32 u27), .d (.i .i64 u28), .d (.i .i64 u29), .r (.recs 2 u30), .r (.recs 2 u31), .d (.i .i64 f1_)]) [.c (.d (.i .i64 r))] := by
  refine Eq.mp (by kernel_rfl : (
  ((∃ (v0 : Int × Nat), (Ob ((Option.bind (iter (y38 s u26 u27 u28 u29 u30 u31 f1_) v0.2 v0.1) fun y0 => Option.bind (y39 y0) some) = some r) ∧
 (Ob ((↑(List.length s) : Int) = (↑(List.length s) : Int)) ∧
 (Ob ((0 : Int) = v0.1) ∧
 (Ob (s = s) ∧
 (Ob ((0 : Nat) = (0 : Nat)) ∧
 (Ob (f1_ = f1_) ∧
 (Ob (u26 = u26) ∧
 (Ob (u28 = u28) ∧
 (Ob (u29 = u29) ∧
 (Ob (u27 = u27) ∧
 (Ob (u30 = u30) ∧
 (Ob (u31 = u31) ∧
 True))))))))))))) ∧
   (∀ (v0 : Int × Nat), ((Option.bind (iter (y38 s u26 u27 u28 u29 u30 u31 f1_) v0.2 v0.1) fun y0 => Option.bind (y39 y0) some) = some r →
 Br (decide (v0.1 < (↑(List.length s) : Int)))
   ((Ob ((0 : Int) ≤ v0.1 ∧ v0.1 < (↑(List.length s) : Int)) ∧
 (Ob (Int.toNat v0.1 < List.length s) ∧
 (Ob (ok (y96 (List.getD (List.getD s (Int.toNat v0.1) []) (0 : Nat) (0 : Int)) (List.getD (List.getD s (Int.toNat v0.1) []) (1 : Nat) (0 : Int)) u26 u27 u28 u29 u30 u31 f1_)) ∧
 Br (val (y96 (List.getD (List.getD s (Int.toNat v0.1) []) (0 : Nat) (0 : Int)) (List.getD (List.getD s (Int.toNat v0.1) []) (1 : Nat) (0 : Int)) u26 u27 u28 u29 u30 u31 f1_))
   ((Ob (True) ∧
 (Ob (v0.1 = r) ∧
 True)))
   ((∃ (v1 : Int × Nat), (Ob ((Option.bind (iter (y38 s u26 u27 u28 u29 u30 u31 f1_) v1.2 v1.1) fun y0 => Option.bind (y39 y0) some) = some r) ∧
 (Ob (v1.2 < v0.2) ∧
 (Ob ((↑(List.length s) : Int) = (↑(List.length s) : Int)) ∧
 (Ob (IntKind.wrap .i64 (v0.1 + (1 : Int)) = v1.1) ∧
 (Ob (s = s) ∧
 (Ob ((0 : Nat) = (0 : Nat)) ∧
 (Ob (f1_ = f1_) ∧
 (Ob (u26 = u26) ∧
 (Ob (u28 = u28) ∧
 (Ob (u29 = u29) ∧
 (Ob (u27 = u27) ∧
 (Ob (u30 = u30) ∧
 (Ob (u31 = u31) ∧
 True)))))))))))))))))))
   ((Ob (True) ∧
 (Ob ((-1 : Int) = r) ∧
 True))))))) = _) ?_
  refine ⟨⟨((0 : Int), big), ⟨loop_s h⟩, (by repeat' (first | exact trivial | exact ⟨rfl⟩ | refine And.intro ?_ ?_))⟩, fun z1 hz1 => ?_⟩
  obtain ⟨k1, hm1, h⟩ := iter_pos hz1
  refine br_d h (fun h => ?_) (fun h => ?_)
  · refine ob_s h fun h => ?_
    refine ob_s h fun h => ?_
    refine call_s h fun h => ?_
    refine br_b h (fun h => ?_) (fun h => ?_)
    · have h := exit_s h
      refine ob_t ?_
      exact ret_s h (fun e => by subst e; exact (by repeat' (first | exact trivial | exact ⟨rfl⟩ | refine And.intro ?_ ?_)))
    · exact ⟨(IntKind.wrap .i64 (Prod.fst z1 + (1 : Int)), k1), ⟨next_s h⟩, ⟨lt_gs hm1.symm⟩, (by repeat' (first | exact trivial | exact ⟨rfl⟩ | refine And.intro ?_ ?_))⟩
  · have h := exit_s h
    refine ob_t ?_
    exact ret_s h (fun e => by subst e; exact (by repeat' (first | exact trivial | exact ⟨rfl⟩ | refine And.intro ?_ ?_)))
set_option maxRecDepth 100000 in
theorem y186 : SpecOK Tryz.prog 94 true (pureT y81 y82) := by
  refine pureT_ok (sp := (sp_95 sp0)) (fn := Tryz.f94) (body := bodyOf Tryz.f94) mixed (sp_95_ok sp0_ok) Tryz.func94 (by kernel_rfl) (by kernel_rfl) fun ls t h ho b hb => ?_
  unfold y82 at h
  split at h
  · rename_i s u26 u27 u28 u29 u30 u31 f1_
    cases h
    obtain rfl := bld_eq hb
    exact ⟨Nat.le_of_ble_eq_true (by kernel_rfl), _, _, y185 s u26 u27 u28 u29 u30 u31 f1_ _ (ok_some ho)⟩
  · cases h
end Go.Sh
end

section
open Go.RowKit
namespace Go.Sx
def noDef (o : Oper) : Bool := match o.op with
  | .defer _ => false
  | _ => true
theorem noDef_spec {o : Oper} (h : noDef o = true) : ∀ c, o.op ≠ .defer c := fun c e => by
  unfold noDef at h
  rw [e] at h
  cases h
section
variable {P : Program} {l n : Nat} {a : Act} {w : World} {Q : Exit → Act → World → Prop}
theorem Oper.wpIn_of_wp {o : Oper} {K K' : Act → World → Prop} (hd : noDef o = true) (hK : ∀ a w, K a w → K' a w) (h : o.wp P a w K Q) : o.wpIn (Fence.wide.inRound l) n P a w K' Q := by
  refine ⟨fun _ _ => trivial, ?_⟩
  have hs : o.semAt (some l) a.eval = execOp a.eval o := Oper.semAt_some l a.eval o (noDef_spec hd)
  show o.uponIn (Fence.wide.inRound l) n P a K' Q ((o.semAt (some l) a.eval).run P w)
  rw [hs]
  unfold Oper.wp at h
  generalize (execOp a.eval o).run P w = r at *
  cases r with
  | ok x w' =>
    cases x with
    | value v => exact hK _ _ h
    | skip => exact hK _ _ h
    | defer d => exact hK _ _ h
    | enter f args =>
      refine ⟨fun h => (by cases h), CallsIn.inRound l (callsIn_wide.2 (Calls.mono (show Calls P f args w' _ from h) ?_))⟩
      intro e w'' he
      cases e with
      | returned v => exact hK _ _ he
      | panicked ch => exact he
      | outgrown => exact he
    | row r args =>
      refine ⟨fun h => (by cases h), ?_⟩
      intro c cs _
      obtain ⟨v, w'', hr, hst⟩ := h c cs
      exact ⟨v, w'', hK _ _ hr, (stepsIn_wide (P := P)).2 hst⟩
    | _ => exact h.elim
  | halt x w' =>
    cases x with
    | panic v => exact h
    | _ => exact h.elim
theorem wpListIn_of {ops : Array Oper} (hlo : ¬ LetsOut Q) : ∀ (os : List Oper) (a : Act) (w : World), os.all noDef = true → wpList P ops Q os a w → wpListIn (Fence.wide.inRound l) n P ops Q os a w
  | [], _, _, _, h => h
  | o :: r, a, w, hd, h => by
    simp only [List.all_cons, Bool.and_eq_true] at hd
    unfold wpList at h
    unfold wpListIn
    split at h
    · rename_i hw
      rw [if_pos hw]
      rcases h with h | h
      · exact Oper.wpIn_of_wp hd.1 (fun a w => wpListIn_of hlo r a w hd.2) h
      · exact absurd h.2 hlo
    · rename_i hw
      rw [if_neg hw]
      exact ⟨fun _ _ => trivial, wpListIn_of hlo r _ _ hd.2 h⟩
theorem wpAnyIn_of {ops : Array Oper} (hlo : ¬ LetsOut Q) (hd : ops.toList.all noDef = true) : ∀ (f : Nat) (b : Array Bool) (a : Act) (w : World), wpAny P .any ops Q f b a w → wpAnyIn (Fence.wide.inRound l) n P .any ops Q f b a w
  | 0, _, _, _, h => h
  | f + 1, b, a, w, h => by
    refine ⟨h.1, fun i hi => ?_⟩
    have h2 := h.2 i hi
    unfold wpOp at h2
    unfold wpOpIn
    cases ho : ops[i]? with
    | none =>
      rw [ho] at h2
      exact wpAnyIn_of hlo hd f _ a w h2
    | some o =>
      rw [ho] at h2
      dsimp only at h2 ⊢
      have hod : noDef o = true := List.all_eq_true.1 hd o (by
        have := List.mem_of_getElem? (l := ops.toList) (i := i) (a := o) (by simpa using ho)
        exact this)
      split at h2
      · rename_i hw
        rw [if_pos hw]
        rcases h2 with h2 | h2
        · exact Oper.wpIn_of_wp hod (fun a w => wpAnyIn_of hlo hd f _ a w) h2
        · exact absurd h2.2 hlo
      · rename_i hw
        rw [if_neg hw]
        exact ⟨fun _ _ => trivial, wpAnyIn_of hlo hd f _ _ _ h2⟩
end
theorem wpListIn_pre {P : Program} {n : Nat} {ops : Array Oper} {Q : Exit → Act → World → Prop} (hlo : ¬ LetsOut Q) {l2 : List Oper} : ∀ (l1 : List Oper) (a : Act) (w : World), wpList P ops (Exit.then (fun a w => wpListIn Fence.wide n P ops Q l2 a w) Q) l1 a w → wpListIn Fence.wide n P ops Q (l1 ++ l2) a w
  | [], _, _, h => h
  | o :: r, a, w, h => by
    unfold wpList at h
    show wpListIn Fence.wide n P ops Q (o :: (r ++ l2)) a w
    unfold wpListIn
    split at h
    · rename_i hw
      rw [if_pos hw]
      rcases h with h | h
      · have ih := wpListIn_pre (P := P) (ops := ops) (n := n) hlo (l2 := l2) r
        refine ⟨fun _ _ => trivial, ?_⟩
        have hs : o.semAt Fence.wide.round a.eval = execOp a.eval o := Oper.semAt_none a.eval o
        rw [hs]
        unfold Oper.wp at h
        generalize (execOp a.eval o).run P w = x at *
        cases x with
        | ok x w' =>
          cases x with
          | value v => exact ih _ _ h
          | skip => exact ih _ _ h
          | defer d => exact ih _ _ h
          | enter f args =>
            refine ⟨fun h => (by cases h), callsIn_wide.2 (Calls.mono (show Calls P f args w' _ from h) ?_)⟩
            intro e w'' he
            cases e with
            | returned v => exact ih _ _ he
            | panicked ch => exact he
            | outgrown => exact he
          | row q args =>
            refine ⟨fun h => (by cases h), ?_⟩
            intro c cs _
            obtain ⟨v, w'', hr, hst⟩ := h c cs
            exact ⟨v, w'', ih _ _ hr, (stepsIn_wide (P := P)).2 hst⟩
          | _ => exact h.elim
        | halt x w' =>
          cases x with
          | panic v => exact h
          | _ => exact h.elim
      · exact absurd h.2 hlo
    · rename_i hw
      rw [if_neg hw]
      exact ⟨fun _ _ => trivial, wpListIn_pre hlo r _ _ h⟩
def straight : Code → Bool
  | .skip => true
  | .label _ => true
  | .region _ ops _ => ops.toList.all noDef
  | .seq x y => straight x && straight y
  | .cond _ x y => straight x && straight y
  | .block _ c => straight c
  | .exit _ => true
  | .ret => true
  | _ => false
section
variable [Globs] {P : Program} {sp : Specs} {B : Bd} {N n0 : Nat} {ρ0 : Env} {w0 : World}
theorem Qx_lets {k : Ex → St → Prop} : ¬ LetsOut (Qx ρ0 B N n0 w0 k) := by
  rintro ⟨a, w, x, ρ', st', he, _⟩
  cases x <;> cases he
theorem sxIn_sound {l n fuel : Nat} {loops : Loops} (hm : P.follows .mixedOrders = true) (hsp : SpecsOK P sp) :
    ∀ (c : Code) (cur : Nat) (gs : List Nat) (st : St) (k : Ex → St → Prop) (ρ : Env) (a : Act) (w : World), straight c = true → sx P sp N n0 fuel loops (drawX P sp N) c cur gs st k → Rel ρ B N n0 st a w → Agree n0 ρ0 ρ → Bel B w0 w →
      c.wpIn (Fence.wide.inRound l) n P (Qx ρ0 B N n0 w0 k) a w
  | .skip, _, _, st, k, ρ, a, w, _, h, hr, hag, hbl => wpIn_skip ⟨.normal, ρ, st, rfl, h, hr, hag, hbl⟩
  | .label _, _, _, st, k, ρ, a, w, _, h, hr, hag, hbl => wpIn_label ⟨.normal, ρ, st, rfl, h, hr, hag, hbl⟩
  | .region id ops draw, _, _, st, k, ρ, a, w, hst, h, hr, hag, hbl => by
    unfold sx at h
    have hd : ops.toList.all noDef = true := hst
    cases draw with
    | false =>
      refine wpIn_region_list (wpListIn_of Qx_lets ops.toList a w hd ?_)
      have := opsX_sound (P := P) (Q := Qx ρ0 B N n0 w0 k) (k := fun st' => k .normal st') (all := ops.toList) hsp (fun ρ' st' a' w' h1 h2 h3 h4 => ⟨.normal, ρ', st', rfl, h4, h1, h2, h3⟩) ops.toList ρ st a w hr hag hbl h
      simpa using this
    | true => exact wpIn_region_any hm (wpAnyIn_of Qx_lets hd _ _ _ _ (drawn_any (Q := Qx ρ0 B N n0 w0 k) hm hsp h hr hag hbl (fun ρ' st' a' w' h1 h2 h3 h4 => ⟨.normal, ρ', st', rfl, h4, h1, h2, h3⟩)))
  | .seq x y, cur, gs, st, k, ρ, a, w, hst, h, hr, hag, hbl => by
    unfold sx at h
    simp only [straight, Bool.and_eq_true] at hst
    refine wpIn_seq (wpIn_mono (sxIn_sound hm hsp x cur gs st _ ρ a w hst.1 h hr hag hbl) ?_)
    rintro e a' w' ⟨ex, ρ', st', rfl, hk, hr', hag', hbl'⟩
    cases ex with
    | normal => exact sxIn_sound hm hsp y cur gs st' k ρ' a' w' hst.2 hk hr' hag' hbl'
    | exit j => exact ⟨.exit j, ρ', st', rfl, hk, hr', hag', hbl'⟩
    | ret => exact ⟨.ret, ρ', st', rfl, hk, hr', hag', hbl'⟩
  | .cond c x y, cur, gs, st, k, ρ, a, w, hst, h, hr, hag, hbl => by
    unfold sx at h
    simp only [straight, Bool.and_eq_true] at hst
    split at h
    · rename_i b hb
      have he := eval_bool hr hb
      cases b with
      | true => exact wpIn_cond_true he (sxIn_sound hm hsp x cur gs st k ρ a w hst.1 h hr hag hbl)
      | false => exact wpIn_cond_false he (sxIn_sound hm hsp y cur gs st k ρ a w hst.2 h hr hag hbl)
    · exact h.elim
  | .block id c, _, gs, st, k, ρ, a, w, hst, h, hr, hag, hbl => by
    unfold sx at h
    refine wpIn_block (wpIn_mono (sxIn_sound hm hsp c id gs st _ ρ a w hst h hr hag hbl) ?_)
    rintro e a' w' ⟨ex, ρ', st', rfl, hk, hr', hag', hbl'⟩
    cases ex with
    | normal => exact ⟨.normal, ρ', st', rfl, hk, hr', hag', hbl'⟩
    | exit j =>
      simp only [Ex.toExit, Exit.inBlock]
      dsimp only at hk
      split
      · rename_i e
        rw [if_pos e] at hk
        exact ⟨.normal, ρ', st', rfl, hk, hr', hag', hbl'⟩
      · rename_i e
        rw [if_neg e] at hk
        exact ⟨.exit j, ρ', st', rfl, hk, hr', hag', hbl'⟩
    | ret => exact ⟨.ret, ρ', st', rfl, hk, hr', hag', hbl'⟩
  | .exit j, _, _, st, k, ρ, a, w, _, h, hr, hag, hbl => wpIn_exit ⟨.exit j, ρ, st, rfl, h, hr, hag, hbl⟩
  | .ret, _, _, st, k, ρ, a, w, _, h, hr, hag, hbl => wpIn_ret ⟨.ret, ρ, st, rfl, h, hr, hag, hbl⟩
  | .loop _, _, _, _, _, _, _, _, hst, _, _, _, _ => by cases hst
  | .goto _, _, _, _, _, _, _, _, hst, _, _, _, _ => by cases hst
  | .rangeFunc _ _ _ _, _, _, _, _, _, _, _, hst, _, _, _, _ => by cases hst
end
def headC' : Nat → Code → Code
  | 0, _ => .skip
  | n + 1, .seq x y => .seq x (headC' n y)
  | _ + 1, c => c
def tailC' : Nat → Code → Code
  | 0, c => c
  | n + 1, .seq _ y => tailC' n y
  | _ + 1, _ => .skip
def spineB : Nat → Code → Bool
  | 0, _ => true
  | n + 1, .seq _ y => spineB n y
  | _ + 1, _ => false
section
variable [Globs] {P : Program} {sp : Specs} {B : Bd} {N n0 : Nat} {ρ0 : Env} {w0 : World}
theorem sx_head {fuel : Nat} {loops : Loops} {drawn : Array Oper → St → (St → Prop) → Prop} (hsp : SpecsOK P sp) (hdr : DrawnOK P B N n0 ρ0 w0 drawn) {Q : Exit → Act → World → Prop} {k : Ex → St → Prop} :
    ∀ (m : Nat) (c : Code) (cur : Nat) (gs : List Nat) (st : St) (ρ : Env) (a : Act) (w : World), spineB m c = true → sx P sp N n0 fuel loops drawn (headC' m c) cur gs st k → Rel ρ B N n0 st a w → Agree n0 ρ0 ρ → Bel B w0 w →
      (∀ ρ' st' a' w', k .normal st' → Rel ρ' B N n0 st' a' w' → Agree n0 ρ0 ρ' → Bel B w0 w' → (tailC' m c).wp P Q a' w') →
      (∀ ex ρ' st' a' w', ex ≠ .normal → k ex st' → Rel ρ' B N n0 st' a' w' → Agree n0 ρ0 ρ' → Bel B w0 w' → Q ex.toExit a' w') → c.wp P Q a w
  | 0, c, _, _, st, ρ, a, w, _, h, hr, hag, hbl, hn, _ => hn ρ st a w h hr hag hbl
  | m + 1, .seq x y, cur, gs, st, ρ, a, w, hs, h, hr, hag, hbl, hn, he => by
    simp only [headC'] at h
    unfold sx at h
    refine wp_seq (wp_mono (sx_sound hsp hdr x cur gs st _ ρ a w h hr hag hbl) ?_)
    rintro e a' w' ⟨ex, ρ', st', rfl, hk, hr', hag', hbl'⟩
    cases ex with
    | normal => exact sx_head hsp hdr m y cur gs st' ρ' a' w' hs hk hr' hag' hbl' hn he
    | exit j => exact he (.exit j) ρ' st' a' w' (by simp) hk hr' hag' hbl'
    | ret => exact he .ret ρ' st' a' w' (by simp) hk hr' hag' hbl'
end
section
variable [Globs] {ρ : Env} {B B2 : Bd} {hp : Hp} {nx : Nat} {w w' : World}
theorem O.ok_moreB {h : Nat} (hs : ∀ k, B k → B2 k) : ∀ {o : O}, o.ok ρ B w h → (∀ k, o.blk (ρ h) = some k → ¬ B2 k) → o.ok ρ B2 w h
  | .box _ _, ⟨k, h1, h2, h3⟩, hn => ⟨k, h1, hn k (by simp [O.blk, h1, base]), h3⟩
  | .row _ _, ⟨hr, _⟩, hn => ⟨hr, fun k hk => hn k hk⟩
  | .ext _, ⟨h1, h2⟩, _ => ⟨h1, fun a n cap e hn => hs _ (h2 a n cap e hn)⟩
  | .view _ _ _, h, _ => h
  | .dead, _, _ => trivial
  | .nan _, h, _ => h
  | .err, h, _ => h
  | .atom, h, _ => h
  | .ebox _, ⟨k, o, h1, h2, h3⟩, _ => ⟨k, o, h1, hs _ h2, h3⟩
  | .arr _ _ _ _, ⟨k, h1, h2, h3⟩, hn => ⟨k, h1, hn k (by simp [O.blk, h1, base]), h3⟩
  | .xext _, h, _ => isX_mono hs h
  | .map _, ⟨b, e, c, h1, h2, h3⟩, hn => ⟨b, e, c, h1, hn b (by simp [O.blk, h1, mapBlk]), h3⟩
  | .rrow _, ⟨h1, h2⟩, hn => ⟨h1, fun k hk => ⟨hn k hk, (h2 k hk).2⟩⟩
theorem HRel.moreB (hh : HRel ρ B hp nx w) (hs : ∀ k, B k → B2 k) (hn : ∀ h o k, find hp h = some o → o.blk (ρ h) = some k → ¬ B2 k) : HRel ρ B2 hp nx w :=
  ⟨fun h o hf => ⟨(hh.ok h o hf).1, (hh.ok h o hf).2.1, O.ok_moreB hs (hh.ok h o hf).2.2 (fun k hk => hn h o k hf hk)⟩, hh.apart, hh.glob.sub hs⟩
def extB : O → Bool
  | .ext _ => true
  | .ebox _ => true
  | .xext _ => true
  | _ => false
theorem O.ok_lessB {h : Nat} (hs : ∀ k, B k → B2 k) : ∀ {o : O}, o.ok ρ B2 w h → extB o = false → o.ok ρ B w h
  | .box _ _, ⟨k, h1, h2, h3⟩, _ => ⟨k, h1, fun hb => h2 (hs _ hb), h3⟩
  | .row _ _, ⟨hr, hk⟩, _ => ⟨hr, fun k hk' hb => hk k hk' (hs _ hb)⟩
  | .ext _, _, h => by cases h
  | .view _ _ _, h, _ => h
  | .dead, _, _ => trivial
  | .nan _, h, _ => h
  | .err, h, _ => h
  | .atom, h, _ => h
  | .ebox _, _, h => by cases h
  | .arr _ _ _ _, ⟨k, h1, h2, h3⟩, _ => ⟨k, h1, fun hb => h2 (hs _ hb), h3⟩
  | .xext _, _, h => by cases h
  | .map _, ⟨b, e, c, h1, h2, h3⟩, _ => ⟨b, e, c, h1, fun hb => h2 (hs _ hb), h3⟩
  | .rrow _, ⟨h1, h2⟩, _ => ⟨h1, fun k hk => ⟨fun hb => (h2 k hk).1 (hs _ hb), (h2 k hk).2⟩⟩
theorem HRel.lessB (hh : HRel ρ B2 hp nx w) (hs : ∀ k, B k → B2 k) (hg : GlobOK B w) (hE : ∀ h o, find hp h = some o → extB o = true → o.ok ρ B w h) : HRel ρ B hp nx w :=
  ⟨fun h o hf => ⟨(hh.ok h o hf).1, (hh.ok h o hf).2.1, by
    cases he : extB o with
    | true => exact hE h o hf he
    | false => exact O.ok_lessB hs (hh.ok h o hf).2.2 he⟩, hh.apart, hg⟩
def rngO : O → Bool
  | .view _ _ _ => false
  | .map _ => false
  | .rrow _ => false
  | _ => true
theorem own_cells {h k : Nat} : ∀ {o : O}, o.ok ρ B w h → rngO o = true → o.blk (ρ h) = some k → ∃ c t f, w.heap[k]? = some (.cells c t f)
  | .box _ _, ⟨g, h1, _, h3⟩, _, hb => by
    simp only [O.blk, h1, base, Option.some.injEq] at hb
    subst hb
    exact ⟨_, _, _, h3⟩
  | .arr _ _ _ _, ⟨g, h1, _, h3⟩, _, hb => by
    simp only [O.blk, h1, base, Option.some.injEq] at hb
    subst hb
    exact ⟨_, _, _, h3⟩
  | .row _ _, ⟨⟨_, hr⟩, _⟩, _, hb => by
    rcases hr with ⟨h1, _⟩ | ⟨g, cap, cur, h1, _, h3, _⟩
    · simp [O.blk, h1, Value.ownBlock] at hb
    · simp only [O.blk, h1, Value.ownBlock, Option.some.injEq] at hb
      subst hb
      exact ⟨_, _, _, h3⟩
theorem HRel.grown {row : Option Nat} (hh : HRel ρ B hp nx w) (hg : w.grownBy w' row) (hB : Old B w) (hr : ∀ r, row = some r → ¬ B r ∧ ∃ o : Obj, w.heap[r]? = some o ∧ o.isCells = false) (hn : ∀ h o, find hp h = some o → rngO o = true) : HRel ρ B hp nx w' := by
  obtain ⟨g, hgB, hgw, hgc⟩ : ∃ g, ¬ B g ∧ (∀ k, k < w.heap.size → k ≠ g → w'.heap[k]? = w.heap[k]?) ∧ ∀ c t f, w.heap[g]? ≠ some (.cells c t f) := by
    cases row with
    | none => exact ⟨w.heap.size, fun h => absurd (hB _ h) (Nat.lt_irrefl _), fun k hk _ => hg.block k hk (by simp), fun c t f h => absurd (Array.getElem?_eq_some_iff.1 h).1 (Nat.lt_irrefl _)⟩
    | some r =>
      obtain ⟨h1, o, h2, h3⟩ := hr r rfl
      refine ⟨r, h1, fun k hk hne => hg.block k hk (fun e => hne (Option.some.inj e)), fun c t f h => ?_⟩
      rw [h2] at h
      cases h
      cases h3
  refine ⟨fun h o hf => ⟨(hh.ok h o hf).1, (hh.ok h o hf).2.1, ?_⟩, hh.apart, globOK_except hgw hgB hh.glob⟩
  refine O.ok_except hgw hgB (hh.ok h o hf).2.2 (fun he => ?_) (fun r c fl e => ?_)
  · obtain ⟨c, t, f, hc⟩ := own_cells (hh.ok h o hf).2.2 (hn h o hf) he
    exact hgc c t f hc
  · subst e
    cases hn h _ hf
theorem HRel.addAt {b ty : Nat} {cs : List C} (hh : HRel ρ B hp nx w) (hc : w.heap[b]? = some (.cells (cs.map (C.val ρ)).toArray ty (0, 0))) (hcs : ∀ c ∈ cs, C.lt nx c) (hb : ¬ B b) (hap : ∀ h o k, find hp h = some o → o.blk (ρ h) = some k → k ≠ b) :
    HRel (upd ρ nx (.pointer (some ⟨b, 0, none⟩))) B ((nx, .box ty cs) :: hp) (nx + 1) w := by
  have ha := upd_agree ρ nx (.pointer (some ⟨b, 0, none⟩))
  have h1 := (hh.agree ha).mono_nx (Nat.le_succ nx)
  refine ⟨fun h o hf => ?_, fun h o h' o' k hf hf' hne hk hk' => ?_, h1.glob⟩
  · simp only [find] at hf
    split at hf
    · rename_i e
      subst e
      cases hf
      refine ⟨Nat.lt_succ_self _, fun c hc' => C.lt_mono (Nat.le_succ _) (hcs c hc'), b, upd_same _ _ _, hb, ?_⟩
      rw [hc]
      congr 3
      exact List.map_congr_left fun c hc' => (C.val_agree ha (hcs c hc')).symm
    · exact h1.ok h o hf
  · have old : ∀ x ox, x ≠ nx → find ((nx, O.box ty cs) :: hp) x = some ox → find hp x = some ox := fun x ox hx hf => by
      simp only [find] at hf
      rw [if_neg (fun e => hx e.symm)] at hf
      exact hf
    have new : ∀ ox, find ((nx, O.box ty cs) :: hp) nx = some ox → ∀ q, ox.blk (upd ρ nx (.pointer (some ⟨b, 0, none⟩)) nx) = some q → q = b := fun ox hf q hq => by
      simp only [find, if_true, Option.some.injEq] at hf
      subst hf
      rw [upd_same] at hq
      simp only [O.blk, base, Option.some.injEq] at hq
      exact hq.symm
    by_cases e1 : h = nx
    · subst e1
      have f' := old h' o' (fun e => hne e.symm) hf'
      have e2 := new o hf k hk
      have hlt := (hh.ok h' o' f').1
      rw [ha h' hlt] at hk'
      exact hap h' o' k f' hk' e2
    · have f1 := old h o e1 hf
      have hlt := (hh.ok h o f1).1
      rw [ha h hlt] at hk
      by_cases e2 : h' = nx
      · subst e2
        exact hap h o k f1 hk (new o' hf' k hk')
      · have f2 := old h' o' e2 hf'
        rw [ha h' (hh.ok h' o' f2).1] at hk'
        exact hh.apart h o h' o' k f1 f2 hne hk hk'
end
end Go.Sx
end

section
namespace Go.Sh
open Go Go.Proofs Go.RowKit Go.Sx
set_option linter.unusedVariables false
attribute [local go_sem] Oper.semAt_some
def orS (S T : Sx.Spec) : Sx.Spec := fun vs hp nx => match S vs hp nx with
  | some t => some t
  | none => T vs hp nx
theorem orS_ok {P : Program} {f : Nat} {M : Bool} {S T : Sx.Spec} (hs : SpecOK P f M S) (ht : SpecOK P f M T) : SpecOK P f M (orS S T) := by
  have no : ∀ {S T : Sx.Spec}, RunOK P f M S → ValOK P f T → ∀ ρ B w args hp nx t, T args hp nx = some t → t.sel.ob → (∀ x ∈ args, V.lt nx x) → HRel ρ B hp nx w → Old B w → False := by
    intro S T h1 h2 ρ B w args hp nx t ht ho hl hh hB
    obtain ⟨ob, v, _, _, hr⟩ := h2 ρ B w args hp nx t ht ho hl hh hB
    rw [h1.enter] at hr
    cases hr
  rcases hs with h1 | h1 <;> rcases ht with h2 | h2
  · refine .inl ⟨h1.enter, fun ρ B w args hp nx t h ho hl hh hB => ?_⟩
    unfold orS at h
    split at h
    · rename_i t' h'
      cases h
      exact h1.sound ρ B w args hp nx _ h' ho hl hh hB
    · exact h2.sound ρ B w args hp nx _ h ho hl hh hB
  · refine .inl ⟨h1.enter, fun ρ B w args hp nx t h ho hl hh hB => ?_⟩
    unfold orS at h
    split at h
    · rename_i t' h'
      cases h
      exact h1.sound ρ B w args hp nx _ h' ho hl hh hB
    · exact (no h1 h2 ρ B w args hp nx t h ho hl hh hB).elim
  · refine .inl ⟨h2.enter, fun ρ B w args hp nx t h ho hl hh hB => ?_⟩
    unfold orS at h
    split at h
    · rename_i t' h'
      cases h
      exact (no h2 h1 ρ B w args hp nx _ h' ho hl hh hB).elim
    · exact h2.sound ρ B w args hp nx _ h ho hl hh hB
  · refine .inr fun ρ B w args hp nx t h ho hl hh hB => ?_
    unfold orS at h
    split at h
    · rename_i t' h'
      cases h
      exact h1 ρ B w args hp nx _ h' ho hl hh hB
    · exact h2 ρ B w args hp nx _ h ho hl hh hB
def sIndexFunc : Sx.Spec := orS (pureT y68 y69) (orS (pureT y70 y71) (pureT y81 y82))
abbrev sp_94 : Specs → Specs := addK 94 true sIndexFunc
theorem sp_94_ok {sp : Specs} (h : SpecsOK Tryz.prog sp) : SpecsOK Tryz.prog (sp_94 sp) :=
  addK_ok (orS_ok y182 (orS_ok y184 y186)) h
set_option maxRecDepth 100000 in
theorem backward_calls (a : Option Addr) (len cap : Nat) (w : World) : Calls Tryz.prog 116 #[.slice a len cap] w fun e w' => e = .returned (.func (.func 141) #[] #[.pointer (some ⟨w.heap.size, 0, none⟩)]) ∧ w' = w.alloc (.cells #[.slice a len cap] 81) := by
  refine callsIn_wide.1 (callsIn_of_wp (n := 3) Tryz.func116 rfl trivial ?_ rfl)
  simp only [Tryz.ntmps116, List.size_toArray, List.length_cons, List.length_nil, Nat.reduceAdd, Nat.reduceSub, Array.replicate_succ, Array.replicate_zero, List.push_toArray, List.append_toArray, List.nil_append, List.cons_append]
  gi_wp2
  go_ret
  exact ⟨rfl, rfl⟩
def sBackward : Sx.Spec := fun vs hp nx => match vs with
  | [.w (.c (.o h))] => match (find hp h).bind O.cont with
    | some _ => some (.leaf ⟨True, .w (.c (.fn 141 [nx])), (nx, .box 81 [.o h]) :: hp, nx + 1⟩)
    | none => none
  | _ => none
theorem backward_ok : SpecOK Tryz.prog 116 true sBackward := by
  refine .inl ⟨enter_ok (body := bodyOf Tryz.f116) Tryz.func116 (by kernel_rfl) (by kernel_rfl), fun ρ B w args hp nx t h ho hl hh hB => ?_⟩
  unfold sBackward at h
  split at h
  · rename_i k
    split at h
    · rename_i c hc
      cases h
      cases hf : find hp k with
      | none => simp [hf] at hc
      | some o =>
        simp only [hf, Option.bind_some] at hc
        obtain ⟨hlt, a, cap, hv, _⟩ := cont_slice hh hf hc
        have hargs : ([V.w (.c (.o k))].map (V.val ρ)).toArray = #[.slice a c.n cap] := by
          simp [V.val, W.val, C.val, hv]
        rw [hargs]
        refine (backward_calls a c.n cap w).mono ?_
        rintro e w' ⟨rfl, rfl⟩
        refine ⟨upd ρ nx (.pointer (some ⟨w.heap.size, 0, none⟩)), ?_, ?_⟩
        · simp [RT.sel, V.val, W.val, C.val]
        · refine left_alloc hh hB _ _ _ (.box 81 [.o k]) rfl rfl (show V.lt (nx + 1) (.w (.c (.fn 141 [nx]))) from fun x hx => ?_) true (fun x hx => ?_) ⟨w.heap.size, upd_same _ _ _, fun hb => absurd (hB _ hb) (Nat.lt_irrefl _), ?_⟩ (by simp [O.blk, base])
          · simp only [List.mem_singleton] at hx
            subst hx
            exact Nat.lt_succ_self _
          · simp only [List.mem_singleton] at hx
            subst hx
            exact Nat.lt_succ_of_lt hlt
          · rw [heap_alloc_new]
            have : upd ρ nx (.pointer (some ⟨w.heap.size, 0, none⟩)) k = ρ k := upd_agree ρ nx _ k hlt
            simp [C.val, this, hv]
    · cases h
  · cases h
abbrev sp_116 : Specs → Specs := addK 116 true sBackward
theorem sp_116_ok {sp : Specs} (h : SpecsOK Tryz.prog sp) : SpecsOK Tryz.prog (sp_116 sp) := addK_ok backward_ok h
end Go.Sh
end

section
namespace Go.Sh.Bk
set_option linter.unusedVariables false
open Go Go.Proofs Go.RowKit Go.Sx
@[reducible] def tg : Globs := { tab := fun _ => none }
attribute [local instance] tg
def sub : List Nat → Code → Code
  | [], c => c
  | 0 :: p, .seq x _ => sub p x
  | _ :: p, .seq _ y => sub p y
  | 0 :: p, .cond _ x _ => sub p x
  | _ :: p, .cond _ _ y => sub p y
  | _ :: p, .block _ c => sub p c
  | _ :: p, .loop c => sub p c
  | _, c => c
noncomputable def body : Code := (Tryz.f141.body).getD .skip
structure Rd (kb : Nat) (sv : Value) (zs : List (List Int)) (W : World) : Prop where
  box : W.cell? ⟨kb, 0, none⟩ = some sv
  row : IsRow W sv (.recs 2 zs)
def Kp (kb : Nat) (sv : Value) (zs : List (List Int)) (W W' : World) : Prop := Rd kb sv zs W → Rd kb sv zs W'
def encs (zs : List (List Int)) (x : Fin zs.length) : Array Value := #[.int .i64 (x.1 : Int), .agg #[.int .i64 ((zs.getD x.1 []).getD 0 0), .int .i64 ((zs.getD x.1 []).getD 1 0)]]
def bk (n k : Nat) : List (Fin n) := (List.finRange n).reverse.take k
theorem bk_len {n k : Nat} (h : k ≤ n) : (bk n k).length = k := by simp [bk, h]
theorem bk_succ {n k : Nat} (h : k < n) : bk n (k + 1) = bk n k ++ [⟨n - 1 - k, by omega⟩] := by
  unfold bk
  rw [List.take_succ_eq_append_getElem (by simpa using h)]
  congr 2
  simp
structure ActOK (y : Value) (kb : Nat) (i : Int) (a : Act) : Prop where
  size : a.tmps.size = 19
  defers : a.defers = []
  t0 : a.tmps.getD 0 undef = y
  t1 : a.tmps.getD 1 undef = .pointer (some ⟨kb, 0, none⟩)
  t3 : a.tmps.getD 3 undef = .int .i64 i
def stA (y : Value) (zs : List (List Int)) : St := ⟨[(0, .w (.c (.d (.v y)))), (1, .w (.c (.p 0 0 1 0)))], [(0, .ebox [.o 1]), (1, .ext (.recs 2 zs))], 2⟩
def stK (y : Value) (zs : List (List Int)) (i : Int) : St := ⟨(3, vi .i64 i) :: (stA y zs).tm, (stA y zs).hp, 2⟩
def stC (y : Value) (zs : List (List Int)) (i : Int) : St := ⟨(8, vb (decide (i ≥ 0))) :: (stK y zs i).tm, (stA y zs).hp, 2⟩
def stD (y : Value) (zs : List (List Int)) (i : Int) : St := ⟨(16, .w (.a [.d (.i .i64 ((zs.getD i.toNat []).getD 0 0)), .d (.i .i64 ((zs.getD i.toNat []).getD 1 0))])) :: (12, vi .i64 i) :: (11, .w (.c (.d (.v y)))) :: (stK y zs i).tm, (stA y zs).hp, 2⟩
def rho (kb : Nat) (sv : Value) : Env := fun h => if h = 0 then .pointer (some ⟨kb, 0, none⟩) else sv
theorem hrel {kb : Nat} {sv : Value} {zs : List (List Int)} {W : World} (h : Rd kb sv zs W) (y : Value) : HRel (rho kb sv) (fun k => k < W.heap.size) (stA y zs).hp 2 W := by
  refine ⟨fun x o hf => ?_, fun x o x' o' b hf hf' hne hb => ?_, ⟨(fun _ _ h => nomatch h), (fun _ _ h => nomatch h)⟩⟩
  · simp only [stA, find] at hf
    split at hf
    · rename_i e
      subst e
      cases hf
      refine ⟨by omega, (fun c hc => by simp only [List.mem_singleton] at hc; subst hc; exact (by decide : (1 : Nat) < 2)), kb, 0, rfl, World.block_lt_of_cell? W _ h.box, fun j c hj => ?_⟩
      match j, hj with
      | 0, hj =>
        cases hj
        exact h.box
    · split at hf
      · rename_i e
        subst e
        cases hf
        exact ⟨by omega, trivial, h.row, h.row.lt (Nat.succ_pos 1)⟩
      · cases hf
  · simp only [stA, find] at hf
    split at hf
    · cases hf; cases hb
    · split at hf
      · cases hf; cases hb
      · cases hf
theorem rel_of {kb : Nat} {sv y : Value} {zs : List (List Int)} {i : Int} {a : Act} {W : World} (h : Rd kb sv zs W) (ha : ActOK y kb i a) : Rel (rho kb sv) (fun k => k < W.heap.size) 19 2 (stK y zs i) a W := by
  refine ⟨fun t v hv => ?_, ha.size, ha.defers, hrel h y, fun k hk => hk, Nat.le_refl _⟩
  simp only [stK, stA, getT] at hv
  split at hv
  · rename_i e; subst e; cases hv; exact ⟨trivial, ha.t3⟩
  · split at hv
    · rename_i e; subst e; cases hv; exact ⟨trivial, ha.t0⟩
    · split at hv
      · rename_i e; subst e; cases hv; exact ⟨(by decide : (0 : Nat) < 2), ha.t1⟩
      · cases hv
theorem back {kb : Nat} {sv y : Value} {zs : List (List Int)} {i : Int} {ρ : Env} {B : Bd} {a : Act} {W : World} (hag : Agree 2 (rho kb sv) ρ) (hr : Rel ρ B 19 2 (stK y zs i) a W) : Rd kb sv zs W ∧ ActOK y kb i a := by
  have h0 : ρ 0 = .pointer (some ⟨kb, 0, none⟩) := hag 0 (by decide)
  have h1 : ρ 1 = sv := hag 1 (by decide)
  refine ⟨⟨?_, ?_⟩, hr.size, hr.defers, (hr.tm 0 _ rfl).2, ?_, (hr.tm 3 _ rfl).2⟩
  · obtain ⟨_, _, k, o, hk, _, hc⟩ := hr.heap.ok 0 _ rfl
    have := hc 0 _ rfl
    rw [h0] at hk
    have e : (⟨kb, 0, none⟩ : Addr) = ⟨k, o, none⟩ := Option.some.inj (Value.pointer.inj hk)
    cases e
    rw [← h1]
    exact this
  · rw [← h1]
    exact (hr.heap.ok 1 _ rfl).2.2.1
  · have := (hr.tm 1 _ rfl).2
    rw [this]
    show Value.pointer (some ⟨(base (ρ 0)).block, (base (ρ 0)).off + 0, none⟩) = _
    rw [h0]
    rfl
theorem piece {c : Code} {st st2 : St} {ρ : Env} {a : Act} {w : World} (hr : Rel ρ (fun x => x < w.heap.size) 19 2 st a w)
    (h : sx Tryz.prog (fun _ => none) 19 2 0 (fun _ _ _ => none) (fun _ _ _ => False) c 0 [] st (fun e st' => match e with | .normal => Le 2 st' st2 | _ => False)) :
    c.wp Tryz.prog (fun e a' w' => e = .normal ∧ w.grownBy w' none ∧ ∃ ρ', Rel ρ' (fun x => x < w.heap.size) 19 2 st2 a' w' ∧ Agree 2 ρ ρ') a w := by
  refine wp_mono (sx_sound (fun _ _ _ h => by cases h) (fun _ _ _ _ _ _ _ _ h => h.elim) c 0 [] st _ ρ a w h hr (Agree.refl _ _) (Bel.refl _ _)) ?_
  rintro e a' w' ⟨ex, ρ', st', rfl, hk, hr', hag, hbl⟩
  cases ex with
  | normal =>
    obtain ⟨ρ2, hr2, hag2⟩ := Le.rel hk hr'
    exact ⟨rfl, ⟨hbl.os, hbl.tape, hbl.output, hbl.size, fun k hk _ => hbl.block k hk⟩, ρ2, hr2, fun x hx => (hag2 x hx).trans (hag x hx)⟩
  | exit j => exact hk.elim
  | ret => exact hk.elim
abbrev pc (c : Code) (st st2 : St) : Prop := sx Tryz.prog (fun _ => none) 19 2 0 (fun _ _ _ => none) (fun _ _ _ => False) c 0 [] st (fun e st' => match e with | .normal => Le 2 st' st2 | _ => False)
def opsOf : Code → List Oper
  | .region _ ops _ => ops.toList
  | _ => []
noncomputable def callOps : List Oper := opsOf (sub [1, 0, 0, 1, 0, 0, 0] body)
set_option maxRecDepth 100000 in
theorem pc0 (y : Value) (zs : List (List Int)) (hl : zs.length ≤ 17592186044416) : pc (sub [0] body) (stA y zs) (stK y zs ((zs.length : Int) - 1)) := by
  refine Eq.mp (by kernel_rfl : (Ob (True) ∧ (Ob (IntKind.wrap IntKind.i64 ((↑(List.length zs) : Int) - (1 : Int)) = (zs.length : Int) - 1) ∧ (Ob (y = y) ∧ (Ob ((0 : Nat) = (0 : Nat)) ∧ (Ob (zs = zs) ∧ True))))) = _) ?_
  exact ⟨⟨trivial⟩, ⟨IntWalk.i64_in _ (by omega)⟩, ⟨rfl⟩, ⟨rfl⟩, ⟨rfl⟩, trivial⟩
set_option maxRecDepth 100000 in
theorem pc1 (y : Value) (zs : List (List Int)) (i : Int) : pc (sub [1, 0, 0, 0, 0] body) (stK y zs i) (stC y zs i) := by
  refine Eq.mp (by kernel_rfl : (Ob (decide (i ≥ (0 : Int)) = decide (i ≥ (0 : Int))) ∧ (Ob (i = i) ∧ (Ob (y = y) ∧ (Ob ((0 : Nat) = (0 : Nat)) ∧ (Ob (zs = zs) ∧ True))))) = _) ?_
  exact ⟨⟨rfl⟩, ⟨rfl⟩, ⟨rfl⟩, ⟨rfl⟩, ⟨rfl⟩, trivial⟩
set_option maxRecDepth 100000 in
theorem pc3 (y : Value) (zs : List (List Int)) (i : Int) (hi : 0 ≤ i ∧ i ≤ 17592186044416) : pc (sub [1, 0, 0, 1, 1] body) (stK y zs i) (stK y zs (i - 1)) := by
  refine Eq.mp (by kernel_rfl : (Ob (IntKind.wrap IntKind.i64 (i - (1 : Int)) = i - 1) ∧ (Ob (y = y) ∧ (Ob ((0 : Nat) = (0 : Nat)) ∧ (Ob (zs = zs) ∧ True)))) = _) ?_
  exact ⟨⟨IntWalk.i64_in _ (by omega)⟩, ⟨rfl⟩, ⟨rfl⟩, ⟨rfl⟩, trivial⟩
set_option maxRecDepth 100000 in
theorem pc2 (y : Value) (zs : List (List Int)) (i : Int) (hi : 0 ≤ i ∧ i < (zs.length : Int)) : opsX Tryz.prog (fun _ => none) 19 callOps (callOps.take 6) (stK y zs i) (fun st' => Le 2 st' (stD y zs i)) := by
  refine Eq.mp (by kernel_rfl : (Ob (True) ∧ (Ob ((0 : Int) ≤ i ∧ i < (↑(List.length zs) : Int)) ∧ (Ob (Int.toNat i < List.length zs) ∧
    (Ob (List.getD (List.getD zs (Int.toNat i) []) (0 : Nat) (0 : Int) = List.getD (List.getD zs (Int.toNat i) []) (0 : Nat) (0 : Int)) ∧
    (Ob (List.getD (List.getD zs (Int.toNat i) []) (1 : Nat) (0 : Int) = List.getD (List.getD zs (Int.toNat i) []) (1 : Nat) (0 : Int)) ∧
    (Ob (i = i) ∧ (Ob (y = y) ∧ (Ob (i = i) ∧ (Ob (y = y) ∧ (Ob ((0 : Nat) = (0 : Nat)) ∧ (Ob (zs = zs) ∧ True))))))))))) = _) ?_
  exact ⟨⟨trivial⟩, ⟨hi⟩, ⟨by omega⟩, ⟨rfl⟩, ⟨rfl⟩, ⟨rfl⟩, ⟨rfl⟩, ⟨rfl⟩, ⟨rfl⟩, ⟨rfl⟩, ⟨rfl⟩, trivial⟩
theorem getT_none {y : Value} {zs : List (List Int)} {i : Int} {t : Nat} (h : t ≠ 3 ∧ t ≠ 0 ∧ t ≠ 1) : getT (stK y zs i).tm t = none := by
  simp only [stK, stA, getT]
  rw [if_neg (Ne.symm h.1), if_neg (Ne.symm h.2.1), if_neg (Ne.symm h.2.2)]
theorem relC {y : Value} {zs : List (List Int)} {i : Int} {ρ : Env} {B : Bd} {a : Act} {W : World} (h : Rel ρ B 19 2 (stC y zs i) a W) : Rel ρ B 19 2 (stK y zs i) a W := by
  refine ⟨fun t v hv => h.tm t v ?_, h.size, h.defers, h.heap, h.le, h.n0⟩
  have hne : t ≠ 8 := fun e => by subst e; rw [getT_none (by decide)] at hv; cases hv
  show getT ((8, _) :: _) t = some v
  simp only [getT]
  rw [if_neg (Ne.symm hne)]
  exact hv
theorem relD {y : Value} {zs : List (List Int)} {i : Int} {ρ : Env} {B : Bd} {a : Act} {W : World} (h : Rel ρ B 19 2 (stD y zs i) a W) : Rel ρ B 19 2 (stK y zs i) a W := by
  refine ⟨fun t v hv => h.tm t v ?_, h.size, h.defers, h.heap, h.le, h.n0⟩
  have h1 : t ≠ 16 := fun e => by subst e; rw [getT_none (by decide)] at hv; cases hv
  have h2 : t ≠ 12 := fun e => by subst e; rw [getT_none (by decide)] at hv; cases hv
  have h3 : t ≠ 11 := fun e => by subst e; rw [getT_none (by decide)] at hv; cases hv
  show getT ((16, _) :: (12, _) :: (11, _) :: _) t = some v
  simp only [getT]
  rw [if_neg (Ne.symm h1), if_neg (Ne.symm h2), if_neg (Ne.symm h3)]
  exact hv
theorem ActOK.put {y : Value} {kb : Nat} {i : Int} {a : Act} (h : ActOK y kb i a) {t : Nat} {v : Value} (ht : t ≠ 3 ∧ t ≠ 0 ∧ t ≠ 1) (hlt : t < 19) : ActOK y kb i (a.put (some t) v) := by
  have hg : ∀ x, x ≠ t → (a.put (some t) v).tmps.getD x undef = a.tmps.getD x undef := fun x hx => by
    rw [put_get (fun y hy => by cases hy; rw [h.size]; exact hlt), if_neg (fun e => hx (Option.some.inj e).symm)]
  exact ⟨by rw [put_size]; exact h.size, by rw [put_defers]; exact h.defers, (hg 0 (Ne.symm ht.2.1)).trans h.t0, (hg 1 (Ne.symm ht.2.2)).trans h.t1, (hg 3 (Ne.symm ht.1)).trans h.t3⟩
set_option maxRecDepth 100000 in
set_option maxHeartbeats 2000000 in
theorem back_loop (n l kb : Nat) (sv : Value) (zs : List (List Int)) (hl : zs.length ≤ 17592186044416) (J Jx : List (Fin zs.length) → World → Prop)
    (hY : ∀ pre x W, J pre W → pre.length < zs.length → YieldAt Fence.wide (n - 1) Tryz.prog l (encs zs x) W fun e W' =>
      (e = .returned (.bool true) ∧ J (pre ++ [x]) W' ∧ Kp kb sv zs W W') ∨ (e = .returned (.bool false) ∧ Jx (pre ++ [x]) W'))
    (hJ : ∀ A B pre, J pre A → A.grownBy B none → J pre B) (a : Act) (w : World) (hr : Rd kb sv zs w) (ha : ActOK (.func (.yield l) #[] #[]) kb ((zs.length : Int) - 1) a) (hj : J [] w) :
    (sub [1] body).wpIn Fence.wide n Tryz.prog (bodyPost Tryz.prog Tryz.f141 fun e W' => (∃ v, e = .returned v) ∧
      ((∃ ys, ys = bk zs.length zs.length ∧ J ys W') ∨ (∃ pre, True ∧ Jx pre W'))) a w := by
  refine wpIn_block (wpIn_loop (fun a w => ∃ k : Nat, k ≤ zs.length ∧ Rd kb sv zs w ∧ ActOK (.func (.yield l) #[] #[]) kb ((zs.length : Int) - 1 - k) a ∧ J (bk zs.length k) w) (fun a _ => (intOf (a.tmps.getD 3 undef) + 1).toNat)
    ⟨0, Nat.zero_le _, hr, by simpa using ha, hj⟩ ?_)
  rintro a w ⟨k, hk, hr, ha, hj⟩
  have hmu : (intOf (a.tmps.getD 3 undef) + 1).toNat = zs.length - k := by
    rw [ha.t3]
    simp [intOf]
    omega
  rw [hmu]
  refine wpIn_seq (wpIn_seq (wpIn_wide.2 (wp_mono (piece (rel_of hr ha) (pc1 _ zs _)) ?_)))
  rintro e a1 w1 ⟨rfl, hg1, ρ1, hr1, hag1⟩
  have hj1 := hJ _ _ _ hj hg1
  obtain ⟨hrd1, hact1⟩ := back hag1 (relC hr1)
  have hc : a1.eval (.tmp 8) = .bool (decide ((zs.length : Int) - 1 - k ≥ 0)) := (hr1.tm 8 _ rfl).2
  by_cases hlt : k < zs.length
  · refine wpIn_cond_true (by rw [hc, decide_eq_true (by omega)]) (wpIn_skip ?_)
    refine wpIn_seq (wpIn_block (wpIn_seq (wpIn_region_list ?_)))
    have hi : 0 ≤ (zs.length : Int) - 1 - k ∧ (zs.length : Int) - 1 - k < (zs.length : Int) := by omega
    have hx : ((zs.length - 1 - k : Nat) : Int) = (zs.length : Int) - 1 - k := by omega
    have hxn : ((zs.length : Int) - 1 - k).toNat = zs.length - 1 - k := by omega
    refine Eq.mp (congrArg (fun L => wpListIn Fence.wide n Tryz.prog _ _ L a1 w1) (List.take_append_drop 6 callOps)) ?_
    refine wpListIn_pre (by rintro ⟨_, _, ⟨_, hv⟩, _⟩; cases hv) (callOps.take 6) a1 w1 (opsX_sound (all := callOps) (n0 := 2) (N := 19) (ρ0 := rho kb sv) (w0 := w1) (B := fun x => x < w1.heap.size) (sp := fun _ => none) (k := fun st' => Le 2 st' (stD (.func (.yield l) #[] #[]) zs ((zs.length : Int) - 1 - k)))
      (fun _ _ _ h => by cases h) ?_ (callOps.take 6) (rho kb sv) _ a1 w1 (rel_of hrd1 hact1) (Agree.refl _ _) (Bel.refl _ _) (pc2 _ zs _ hi))
    intro ρ2 st2 a2 w2 hr2 hag2 hbl2 hle2
    obtain ⟨ρ3, hr3, hag3⟩ := hle2.rel hr2
    have hag23 : Agree 2 (rho kb sv) ρ3 := fun x hx => (hag3 x hx).trans (hag2 x hx)
    obtain ⟨hrd2, hact2⟩ := back hag23 (relD hr3)
    have hj2 := hJ _ _ _ hj1 ⟨hbl2.os, hbl2.tape, hbl2.output, hbl2.size, fun k hk _ => hbl2.block k hk⟩
    have g11 : a2.eval (.tmp 11) = .func (.yield l) #[] #[] := (hr3.tm 11 _ rfl).2
    have g12 : a2.eval (.tmp 12) = .int .i64 ((zs.length - 1 - k : Nat) : Int) := by rw [hx]; exact (hr3.tm 12 _ rfl).2
    have g16 : a2.eval (.tmp 16) = .agg #[.int .i64 ((zs.getD (zs.length - 1 - k) []).getD 0 0), .int .i64 ((zs.getD (zs.length - 1 - k) []).getD 1 0)] := by
      rw [← hxn]
      exact (hr3.tm 16 _ rfl).2
    obtain ⟨fn, tmps, assign, bd, hy, hR⟩ := hY (bk zs.length k) ⟨zs.length - 1 - k, by omega⟩ w2 hj2 (by rw [bk_len hk]; exact hlt)
    show wpListIn _ _ _ _ _ _ _ _
    refine wpListIn_plain rfl fun K hK => ⟨fun _ _ => trivial, ?_⟩
    have hcall : ∀ o : Oper, o.op = .call { callee := .value (.tmp 11), args := #[.tmp 12, .tmp 16], argTypes := #[3, 30] } → ((o.semAt Fence.wide.round a2.eval).run Tryz.prog w2) = .ok (.round l fn tmps assign bd) w2 := by
      intro o ho
      rw [Fence.wide_round, Oper.semAt_none]
      unfold execOp
      simp only [ho, resolve, g11, Deferred.ofValue, Sem.run_bind, Sem.run_pure, Result.andThen_ok, invoke, List.map_toArray, List.map_cons, List.map_nil, g12, g16]
      exact hy
    rw [hcall _ rfl]
    refine ⟨(fun h => by cases h), hR.mono ?_⟩
    have hact3 : ∀ b, ActOK (.func (.yield l) #[] #[]) kb ((zs.length : Int) - 1 - k) ((a2.put (some 17) (.bool b)).put (some 18) (.bool !b)) := fun b => (hact2.put (by decide) (by decide)).put (by decide) (by decide)
    have hnot : ∀ (o : Oper) (b : Bool) (w3 : World), o.op = .unOp .not 4 (.tmp 17) → ((o.semAt Fence.wide.round (a2.put (some 17) (.bool b)).eval).run Tryz.prog w3) = .ok (.value (.bool !b)) w3 := by
      intro o b w3 ho
      have h17 : (a2.put (some 17) (.bool b)).eval (.tmp 17) = .bool b := by
        show (Act.put _ (some 17) _).tmps.getD 17 undef = _
        rw [put_get (fun x hx => by cases hx; rw [hact2.size]; decide), if_pos rfl]
      rw [Fence.wide_round, Oper.semAt_none]
      unfold execOp
      simp only [ho, h17]
      rfl
    have h18 : ∀ b, ((a2.put (some 17) (.bool b)).put (some 18) (.bool !b)).eval (.tmp 18) = .bool !b := fun b => by
      show (Act.put _ (some 18) _).tmps.getD 18 undef = _
      rw [put_get (fun x hx => by cases hx; rw [put_size, hact2.size]; decide), if_pos rfl]
    rintro e w3 (⟨rfl, hj3, hk3⟩ | ⟨rfl, hj3⟩)
    · refine hK _ _ (wpListIn_plain rfl fun K hK => ⟨fun _ _ => trivial, ?_⟩)
      rw [hnot _ true w3 rfl]
      refine hK _ _ (wpListIn_nil ?_)
      refine wpIn_cond_false (h18 true) (wpIn_skip ?_)
      refine wpIn_wide.2 (wp_mono (piece (rel_of (hk3 hrd2) (hact3 true)) (pc3 _ zs _ (by omega))) ?_)
      rintro e a7 w7 ⟨rfl, hg7, ρ7, hr7, hag7⟩
      obtain ⟨hrd7, hact7⟩ := back hag7 hr7
      refine ⟨⟨k + 1, hlt, hrd7, ?_, ?_⟩, ?_⟩
      · have e : (zs.length : Int) - 1 - ((k + 1 : Nat) : Int) = (zs.length : Int) - 1 - k - 1 := by omega
        rw [e]
        exact hact7
      · rw [bk_succ hlt]
        exact hJ _ _ _ hj3 hg7
      · rw [hact7.t3]
        simp [intOf]
        omega
    · refine hK _ _ (wpListIn_plain rfl fun K hK => ⟨fun _ _ => trivial, ?_⟩)
      rw [hnot _ false w3 rfl]
      refine hK _ _ (wpListIn_nil ?_)
      refine wpIn_cond_true (h18 false) (wpIn_ret ?_)
      exact ⟨(hact3 false).defers, .tuple #[], results_none rfl _ _ _, ⟨_, rfl⟩, .inr ⟨_, trivial, hj3⟩⟩
  · obtain rfl : k = zs.length := by omega
    refine wpIn_cond_false (by rw [hc, decide_eq_false (by omega)]) (wpIn_exit ?_)
    exact ⟨hact1.defers, .tuple #[], results_none rfl _ _ _, ⟨_, rfl⟩, .inl ⟨_, rfl, hj1⟩⟩
theorem isRow_below {v : Value} {c : Cont} {A C : World} (h : IsRow A v c) (hb : Below A.heap.size A C) : IsRow C v c := by
  obtain ⟨a, cap, hv, hc, hcells⟩ := h
  refine ⟨a, cap, hv, hc, fun hn => ?_⟩
  obtain ⟨b, off, hab, hx⟩ := hcells hn
  refine ⟨b, off, hab, fun j x hj => ?_⟩
  have := hx j x hj
  exact (hb.cell (p := ⟨b, off + j, none⟩) (World.block_lt_of_cell? A _ this)).trans this
theorem Rd.below {kb : Nat} {sv : Value} {zs : List (List Int)} {A C : World} (h : Rd kb sv zs A) (hb : Below A.heap.size A C) : Rd kb sv zs C :=
  ⟨(hb.cell (p := ⟨kb, 0, none⟩) (World.block_lt_of_cell? A _ h.box)).trans h.box, isRow_below h.row hb⟩
set_option maxRecDepth 100000 in
theorem back_stops (n kb : Nat) (sv : Value) (zs : List (List Int)) (hl : zs.length ≤ 17592186044416) (w : World) (hw : Rd kb sv zs w) :
    SeqStopsK Fence.wide n Tryz.prog 141 #[.pointer (some ⟨kb, 0, none⟩)] (encs zs) (Kp kb sv zs) (fun ys => ys = bk zs.length zs.length) (fun _ => True) zs.length w := by
  intro l J Jx W hW hJ hJx hY h0
  have hr := hw.below hW
  have hb : Tryz.f141.body = some (.seq (sub [0] body) (sub [1] body)) := by kernel_rfl
  refine callsIn_of_wp Tryz.func141 hb trivial ?_ rfl
  generalize ha0 : ({ tmps := (#[Value.func (.yield l) #[] #[]] ++ #[Value.pointer (some ⟨kb, 0, none⟩)]) ++ Array.replicate (Tryz.f141.ntmps - (#[Value.func (.yield l) #[] #[]] ++ #[Value.pointer (some ⟨kb, 0, none⟩)]).size) undef, defers := [] } : Act) = a0
  have s0 : a0.tmps.size = 19 := by rw [← ha0]; kernel_rfl
  have d0 : a0.defers = [] := by rw [← ha0]
  have t0 : a0.tmps.getD 0 undef = .func (.yield l) #[] #[] := by rw [← ha0]; kernel_rfl
  have t1 : a0.tmps.getD 1 undef = .pointer (some ⟨kb, 0, none⟩) := by rw [← ha0]; kernel_rfl
  clear ha0
  have hrel0 : Rel (rho kb sv) (fun x => x < W.heap.size) 19 2 (stA (.func (.yield l) #[] #[]) zs) a0 W := by
    refine ⟨fun t v hv => ?_, s0, d0, hrel hr _, fun k hk => hk, Nat.le_refl _⟩
    simp only [stA, getT] at hv
    split at hv
    · rename_i e; subst e; cases hv; exact ⟨trivial, t0⟩
    · split at hv
      · rename_i e; subst e; cases hv; exact ⟨(by decide : (0 : Nat) < 2), t1⟩
      · cases hv
  refine wpIn_seq (wpIn_wide.2 (wp_mono (piece hrel0 (pc0 _ zs hl)) ?_))
  rintro e a1 w1 ⟨rfl, hg1, ρ1, hr1, hag1⟩
  obtain ⟨hrd1, hact1⟩ := back hag1 hr1
  exact back_loop n l kb sv zs hl J Jx hY (fun A B pre hj hg => hJ pre A B none hj hg (fun r e => by cases e)) a1 w1 hrd1 hact1 (hJ [] W w1 none h0 hg1 (fun r e => by cases e))
end Go.Sh.Bk
end
