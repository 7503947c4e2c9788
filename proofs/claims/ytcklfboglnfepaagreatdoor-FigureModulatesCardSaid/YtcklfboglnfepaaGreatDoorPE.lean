/- Part 5 of the proof of FigureModulatesCard: the executor, the mirrors of the functions, the plain facts. -/
import Derived.Test.YtcklfboglnfepaaGreatDoorPD
import Derived.Shelf.Strings.OnBuilder
import Derived.Shelf.Strconv.Itoa3
set_option linter.unusedSectionVars false
set_option linter.unusedSimpArgs false
set_option linter.unusedVariables false
section
namespace Go.Sh
open Go Go.Proofs Go.RowKit Go.Sx
set_option linter.unusedVariables false
def y129 : List SV := [.c (.p [.d, .r (.floats .f32 []), .d, .d, .r (.recs 2 []), .r (.recs 2 [])]), .c (.d)]
def y25 (u5 : Int) (u6 : List Nat) (u7 : Int) (u9 : Int) (u4 : List (List Int)) (u10 : List (List Int)) (u35 : Int) : Option (Int × Int × Bool) :=
  Option.bind (y35 u10 u5 u6 u7 u9 u4 u10 u35) fun r0 =>
  Option.bind (y36 u10 u5 u6 u7 u9 u4 u10 u35) fun r1 =>
  if r1 < (0 : Int) then
   some (((0 : Int), (0 : Int), false))
  else
   if (r1 == (↑(List.length u4) : Int)) = true then
    some (((0 : Int), (0 : Int), false))
   else
    some ((if IntKind.wrap .i64 (r0 - (1 : Int)) > (0 : Int) then IntKind.wrap .i64 (r0 - (1 : Int)) else (0 : Int), r1, true))
def y130 : List Lf → Option GT
  | [.d (.i .i64 u5), .r (.floats .f32 u6), .d (.i .i64 u7), .d (.i .i64 u9), .r (.recs 2 u4), .r (.recs 2 u10), .d (.i .i64 u35)] => some (.leaf (ok (y25 u5 u6 u7 u9 u4 u10 u35)) [.s [.d (.i .i64 ((val (y25 u5 u6 u7 u9 u4 u10 u35)).1)), .d (.i .i64 ((val (y25 u5 u6 u7 u9 u4 u10 u35)).2.1))], .c (.d (.b ((val (y25 u5 u6 u7 u9 u4 u10 u35)).2.2)))])
  | _ => none
abbrev sp_118 : Specs → Specs := addK 118 true (pureT y129 y130)
set_option maxRecDepth 100000 in
def G_decay_passing_t (u5 : Int) (u6 : List Nat) (u7 : Int) (u9 : Int) (u4 : List (List Int)) (u10 : List (List Int)) (u35 : Int) : T (Int × Int × Bool) :=
 .obT
  (.call (y35 u10 u5 u6 u7 u9 u4 u10 u35) fun r0 =>
  .obT
  (.call (y36 u10 u5 u6 u7 u9 u4 u10 u35) fun r1 =>
  .brP (r1 < (0 : Int))
  (.obT
  (.obT
  (.rc ((((0 : Int), (0 : Int), false))))))
  (.obT
  (.brB (r1 == (↑(List.length u4) : Int))
  (.obT
  (.obT
  (.rc ((((0 : Int), (0 : Int), false))))))
  (.obT
  (.obT
  (.rc (((if IntKind.wrap .i64 (r0 - (1 : Int)) > (0 : Int) then IntKind.wrap .i64 (r0 - (1 : Int)) else (0 : Int), r1, true))))))))))
set_option maxRecDepth 100000 in
theorem G_decay_passing_vc (u5 : Int) (u6 : List Nat) (u7 : Int) (u9 : Int) (u4 : List (List Int)) (u10 : List (List Int)) (u35 : Int) (r : Int × Int × Bool) (h : Option.bind (y25 u5 u6 u7 u9 u4 u10 u35) some = some r) : runT Tryz.f118 ((sp_142 (sp_143 (sp_94 sp0)))) (fun _ _ _ => none) (bldD y129 [.d (.i .i64 u5), .r (.floats .f32 u6), .d (.i .i64 u7), .d (.i .i64 u9), .r (.recs 2 u4), .r (.recs 2 u10), .d (.i .i64 u35)]) [.s [.d (.i .i64 r.1), .d (.i .i64 r.2.1)], .c (.d (.b r.2.2))] :=
  T.vc (t := G_decay_passing_t u5 u6 u7 u9 u4 u10 u35) (by kernel_rfl) (by kernel_rfl) h
set_option maxRecDepth 100000 in
theorem G_decay_passing_ok : SpecOK Tryz.prog 118 true (pureT y129 y130) := by
  refine pureT_ok (sp := (sp_142 (sp_143 (sp_94 sp0)))) (fn := Tryz.f118) (body := bodyOf Tryz.f118) mixed (sp_142_ok (sp_143_ok (sp_94_ok sp0_ok))) Tryz.func118 (by kernel_rfl) (by kernel_rfl) fun ls t h ho b hb => ?_
  unfold y130 at h
  split at h
  · rename_i u5 u6 u7 u9 u4 u10 u35
    cases h
    obtain rfl := bld_eq hb
    exact ⟨Nat.le_of_ble_eq_true (by kernel_rfl), _, _, G_decay_passing_vc u5 u6 u7 u9 u4 u10 u35 _ (ok_some ho)⟩
  · cases h
theorem sp_118_ok {sp : Specs} (h : SpecsOK Tryz.prog sp) : SpecsOK Tryz.prog (sp_118 sp) := addK_ok G_decay_passing_ok h
def y109 : List SV := [.c (.p [.d, .r (.floats .f32 []), .d, .d, .r (.recs 2 []), .r (.recs 2 [])]), .c (.d)]
def y31 (u5 : Int) (u6 : List Nat) (u7 : Int) (u9 : Int) (u4 : List (List Int)) (u10 : List (List Int)) (u33 : Int) : Option (Int × Int × Int) :=
  if (0 : Int) ≤ (0 : Int) ∧ (0 : Int) < (↑(List.length u10) : Int) then
   if (0 : Nat) < List.length u10 then
    if (List.getD (List.getD u10 (0 : Nat) []) (0 : Nat) (0 : Int) == (0 : Int)) = true then
     some (((0 : Int), (0 : Int), (11 : Int)))
    else
     if (0 : Int) ≤ u33 ∧ u33 < (↑(3 : Nat) : Int) then
      if Int.toNat u33 < List.length slopesT then
       if List.getD (List.getD slopesT (Int.toNat u33) []) (0 : Nat) (0 : Int) > (0 : Int) then
        Option.bind (y25 u5 u6 u7 u9 u4 u10 (List.getD (List.getD slopesT (Int.toNat u33) []) (0 : Nat) (0 : Int))) fun r0 =>
        if (!r0.2.2) = true then
         some (((0 : Int), (0 : Int), (12 : Int)))
        else
         Option.bind (y25 u5 u6 u7 u9 u4 u10 (List.getD (List.getD slopesT (Int.toNat u33) []) (1 : Nat) (0 : Int))) fun r1 =>
         if (!r1.2.2) = true then
          some (((0 : Int), (0 : Int), (12 : Int)))
         else
          if u5 ≠ (0 : Int) then
           Option.bind (G_ceil (IntKind.wrap .i64 (IntKind.wrap .i64 (List.getD (List.getD slopesT (Int.toNat u33) []) (2 : Nat) (0 : Int) * IntKind.wrap .i64 (r1.2.1 - r0.1)) * (1000000 : Int))) u5) fun r2 =>
           some ((IntKind.wrap .i64 (Int.tdiv (IntKind.wrap .i64 (IntKind.wrap .i64 (List.getD (List.getD slopesT (Int.toNat u33) []) (2 : Nat) (0 : Int) * if IntKind.wrap .i64 (r1.1 - r0.2.1) > (0 : Int) then IntKind.wrap .i64 (r1.1 - r0.2.1) else (0 : Int)) * (1000000 : Int))) u5), r2, (0 : Int)))
          else none
       else
        Option.bind (y25 u5 u6 u7 u9 u4 u10 (List.getD (List.getD slopesT (Int.toNat u33) []) (1 : Nat) (0 : Int))) fun r1 =>
        if (!r1.2.2) = true then
         some (((0 : Int), (0 : Int), (12 : Int)))
        else
         if u5 ≠ (0 : Int) then
          Option.bind (G_ceil (IntKind.wrap .i64 (IntKind.wrap .i64 (List.getD (List.getD slopesT (Int.toNat u33) []) (2 : Nat) (0 : Int) * IntKind.wrap .i64 (r1.2.1 - (0 : Int))) * (1000000 : Int))) u5) fun r3 =>
          some ((IntKind.wrap .i64 (Int.tdiv (IntKind.wrap .i64 (IntKind.wrap .i64 (List.getD (List.getD slopesT (Int.toNat u33) []) (2 : Nat) (0 : Int) * if IntKind.wrap .i64 (r1.1 - (0 : Int)) > (0 : Int) then IntKind.wrap .i64 (r1.1 - (0 : Int)) else (0 : Int)) * (1000000 : Int))) u5), r3, (0 : Int)))
         else none
      else none
     else none
   else none
  else none
def y110 : List Lf → Option GT
  | [.d (.i .i64 u5), .r (.floats .f32 u6), .d (.i .i64 u7), .d (.i .i64 u9), .r (.recs 2 u4), .r (.recs 2 u10), .d (.i .i64 u33)] => some (.leaf (ok (y31 u5 u6 u7 u9 u4 u10 u33)) [.s [.d (.i .i64 ((val (y31 u5 u6 u7 u9 u4 u10 u33)).1)), .d (.i .i64 ((val (y31 u5 u6 u7 u9 u4 u10 u33)).2.1))], .c (.d (.i .i64 ((val (y31 u5 u6 u7 u9 u4 u10 u33)).2.2)))])
  | _ => none
abbrev sp_69 : Specs → Specs := addK 69 true (pureT y109 y110)
set_option maxRecDepth 100000 in
def G_decay_decayTime_t (u5 : Int) (u6 : List Nat) (u7 : Int) (u9 : Int) (u4 : List (List Int)) (u10 : List (List Int)) (u33 : Int) : T (Int × Int × Int) :=
 .obT
  (.obP ((0 : Int) ≤ (0 : Int) ∧ (0 : Int) < (↑(List.length u10) : Int))
  (.obP ((0 : Nat) < List.length u10)
  (.brB (List.getD (List.getD u10 (0 : Nat) []) (0 : Nat) (0 : Int) == (0 : Int))
  (.obT
  (.obT
  (.rc ((((0 : Int), (0 : Int), (11 : Int)))))))
  (.obP ((0 : Int) ≤ u33 ∧ u33 < (↑(3 : Nat) : Int))
  (.obP (Int.toNat u33 < List.length slopesT)
  (.brP (List.getD (List.getD slopesT (Int.toNat u33) []) (0 : Nat) (0 : Int) > (0 : Int))
  (.call (y25 u5 u6 u7 u9 u4 u10 (List.getD (List.getD slopesT (Int.toNat u33) []) (0 : Nat) (0 : Int))) fun r0 =>
  .brB (!r0.2.2)
  (.obT
  (.obT
  (.rc ((((0 : Int), (0 : Int), (12 : Int)))))))
  (.call (y25 u5 u6 u7 u9 u4 u10 (List.getD (List.getD slopesT (Int.toNat u33) []) (1 : Nat) (0 : Int))) fun r1 =>
  .brB (!r1.2.2)
  (.obT
  (.obT
  (.rc ((((0 : Int), (0 : Int), (12 : Int)))))))
  (.obT
  (.obP (u5 ≠ (0 : Int))
  (.obT
  (.call (G_ceil (IntKind.wrap .i64 (IntKind.wrap .i64 (List.getD (List.getD slopesT (Int.toNat u33) []) (2 : Nat) (0 : Int) * IntKind.wrap .i64 (r1.2.1 - r0.1)) * (1000000 : Int))) u5) fun r2 =>
  .obT
  (.obT
  (.rc (((IntKind.wrap .i64 (Int.tdiv (IntKind.wrap .i64 (IntKind.wrap .i64 (List.getD (List.getD slopesT (Int.toNat u33) []) (2 : Nat) (0 : Int) * if IntKind.wrap .i64 (r1.1 - r0.2.1) > (0 : Int) then IntKind.wrap .i64 (r1.1 - r0.2.1) else (0 : Int)) * (1000000 : Int))) u5), r2, (0 : Int))))))))))))
  (.call (y25 u5 u6 u7 u9 u4 u10 (List.getD (List.getD slopesT (Int.toNat u33) []) (1 : Nat) (0 : Int))) fun r1 =>
  .brB (!r1.2.2)
  (.obT
  (.obT
  (.rc ((((0 : Int), (0 : Int), (12 : Int)))))))
  (.obT
  (.obP (u5 ≠ (0 : Int))
  (.obT
  (.call (G_ceil (IntKind.wrap .i64 (IntKind.wrap .i64 (List.getD (List.getD slopesT (Int.toNat u33) []) (2 : Nat) (0 : Int) * IntKind.wrap .i64 (r1.2.1 - (0 : Int))) * (1000000 : Int))) u5) fun r3 =>
  .obT
  (.obT
  (.rc (((IntKind.wrap .i64 (Int.tdiv (IntKind.wrap .i64 (IntKind.wrap .i64 (List.getD (List.getD slopesT (Int.toNat u33) []) (2 : Nat) (0 : Int) * if IntKind.wrap .i64 (r1.1 - (0 : Int)) > (0 : Int) then IntKind.wrap .i64 (r1.1 - (0 : Int)) else (0 : Int)) * (1000000 : Int))) u5), r3, (0 : Int)))))))))))))))))
set_option maxRecDepth 100000 in
theorem G_decay_decayTime_vc (u5 : Int) (u6 : List Nat) (u7 : Int) (u9 : Int) (u4 : List (List Int)) (u10 : List (List Int)) (u33 : Int) (r : Int × Int × Int) (h : Option.bind (y31 u5 u6 u7 u9 u4 u10 u33) some = some r) : runT Tryz.f69 ((sp_118 (sp_119 sp0))) (fun _ _ _ => none) (bldD y109 [.d (.i .i64 u5), .r (.floats .f32 u6), .d (.i .i64 u7), .d (.i .i64 u9), .r (.recs 2 u4), .r (.recs 2 u10), .d (.i .i64 u33)]) [.s [.d (.i .i64 r.1), .d (.i .i64 r.2.1)], .c (.d (.i .i64 r.2.2))] :=
  T.vc (t := G_decay_decayTime_t u5 u6 u7 u9 u4 u10 u33) (by kernel_rfl) (by kernel_rfl) h
set_option maxRecDepth 100000 in
theorem G_decay_decayTime_ok : SpecOK Tryz.prog 69 true (pureT y109 y110) := by
  refine pureT_ok (sp := (sp_118 (sp_119 sp0))) (fn := Tryz.f69) (body := bodyOf Tryz.f69) mixed (sp_118_ok (sp_119_ok sp0_ok)) Tryz.func69 (by kernel_rfl) (by kernel_rfl) fun ls t h ho b hb => ?_
  unfold y110 at h
  split at h
  · rename_i u5 u6 u7 u9 u4 u10 u33
    cases h
    obtain rfl := bld_eq hb
    exact ⟨Nat.le_of_ble_eq_true (by kernel_rfl), _, _, G_decay_decayTime_vc u5 u6 u7 u9 u4 u10 u33 _ (ok_some ho)⟩
  · cases h
theorem sp_69_ok {sp : Specs} (h : SpecsOK Tryz.prog sp) : SpecsOK Tryz.prog (sp_69 sp) := addK_ok G_decay_decayTime_ok h
def y157 : List SV := [.a [.d, .r (.floats .f32 []), .d, .d], .c (.d)]
def y78 (u13 : Int) (u11 : List Nat) (u14 : Int) (u12 : Int) (u33 : Int) : Option (Int × Int × Int) :=
  if ((val (G_open u13 u11 u14 u12)).1 != (0 : Int)) = true then
   Option.bind (G_open u13 u11 u14 u12) fun r0 =>
   if (r0.1 != (0 : Int)) = true then
    some (((0 : Int), (0 : Int), r0.1))
   else
    none   else
   Option.bind (G_open u13 u11 u14 u12) fun r0 =>
   Option.bind (y5 u33 (0 : Int) (2 : Int)) fun r1 =>
   if (!r1) = true then
    some (((0 : Int), (0 : Int), (15 : Int)))
   else
    Option.bind (y31 u13 u11 u14 u12 r0.2.1 r0.2.2 u33) fun r2 =>
    some (r2.1, r2.2.1, r2.2.2)
def y158 : List Lf → Option GT
  | [.d (.i .i64 u13), .r (.floats .f32 u11), .d (.i .i64 u14), .d (.i .i64 u12), .d (.i .i64 u33)] => some (.leaf (ok (y78 u13 u11 u14 u12 u33)) [.s [.d (.i .i64 ((val (y78 u13 u11 u14 u12 u33)).1)), .d (.i .i64 ((val (y78 u13 u11 u14 u12 u33)).2.1))], .c (.d (.i .i64 ((val (y78 u13 u11 u14 u12 u33)).2.2)))])
  | _ => none
abbrev sp_19 : Specs → Specs := addK 19 true (pureT y157 y158)
set_option maxRecDepth 100000 in
def G_DecayWithin_t (u13 : Int) (u11 : List Nat) (u14 : Int) (u12 : Int) (u33 : Int) : T (Int × Int × Int) :=
 .brB ((val (G_open u13 u11 u14 u12)).1 != (0 : Int))
  (.call (G_open u13 u11 u14 u12) fun r0 =>
  .brB (r0.1 != (0 : Int))
  (.obT
  (.obT
  (.rc ((((0 : Int), (0 : Int), r0.1))))))
  (.bad (fun r => (Ob (ok (y5 u33 (0 : Int) (2 : Int))) ∧
 Br (!val (y5 u33 (0 : Int) (2 : Int)))
  ((Ob (True) ∧
 (Ob (True) ∧
 (Ob ((0 : Int) = r.1) ∧
 (Ob ((0 : Int) = r.2.1) ∧
 (Ob ((15 : Int) = r.2.2) ∧
 True))))))
  (False)))))
  (.call (G_open u13 u11 u14 u12) fun r0 =>
  .call (y5 u33 (0 : Int) (2 : Int)) fun r1 =>
  .brB (!r1)
  (.obT
  (.obT
  (.rc ((((0 : Int), (0 : Int), (15 : Int)))))))
  (.call (y31 u13 u11 u14 u12 r0.2.1 r0.2.2 u33) fun r2 =>
  .obT
  (.obT
  (.rc ((r2.1, r2.2.1, r2.2.2))))))
set_option maxRecDepth 100000 in
theorem G_DecayWithin_vc (u13 : Int) (u11 : List Nat) (u14 : Int) (u12 : Int) (u33 : Int) (r : Int × Int × Int) (h : Option.bind (y78 u13 u11 u14 u12 u33) some = some r) : runT Tryz.f19 ((sp_67 (sp_68 (sp_69 sp0)))) (fun _ _ _ => none) (bldD y157 [.d (.i .i64 u13), .r (.floats .f32 u11), .d (.i .i64 u14), .d (.i .i64 u12), .d (.i .i64 u33)]) [.s [.d (.i .i64 r.1), .d (.i .i64 r.2.1)], .c (.d (.i .i64 r.2.2))] :=
  T.vc (t := G_DecayWithin_t u13 u11 u14 u12 u33) (by kernel_rfl) (by kernel_rfl) h
set_option maxRecDepth 100000 in
theorem G_DecayWithin_ok : SpecOK Tryz.prog 19 true (pureT y157 y158) := by
  refine pureT_ok (sp := (sp_67 (sp_68 (sp_69 sp0)))) (fn := Tryz.f19) (body := bodyOf Tryz.f19) mixed (sp_67_ok (sp_68_ok (sp_69_ok sp0_ok))) Tryz.func19 (by kernel_rfl) (by kernel_rfl) fun ls t h ho b hb => ?_
  unfold y158 at h
  split at h
  · rename_i u13 u11 u14 u12 u33
    cases h
    obtain rfl := bld_eq hb
    exact ⟨Nat.le_of_ble_eq_true (by kernel_rfl), _, _, G_DecayWithin_vc u13 u11 u14 u12 u33 _ (ok_some ho)⟩
  · cases h
theorem sp_19_ok {sp : Specs} (h : SpecsOK Tryz.prog sp) : SpecsOK Tryz.prog (sp_19 sp) := addK_ok G_DecayWithin_ok h
def k_G_Decay : List SV := [.a [.d, .r (.floats .f32 [])], .c (.d)]
def G_Decay (u1 : Int) (u0 : List Nat) (u33 : Int) : Option (Int × Int × Int) :=
  Option.bind (y78 u1 u0 (0 : Int) (0 : Int) u33) fun r0 =>
  some (r0.1, r0.2.1, r0.2.2)
def g_G_Decay : List Lf → Option GT
  | [.d (.i .i64 u1), .r (.floats .f32 u0), .d (.i .i64 u33)] => some (.leaf (ok (G_Decay u1 u0 u33)) [.s [.d (.i .i64 ((val (G_Decay u1 u0 u33)).1)), .d (.i .i64 ((val (G_Decay u1 u0 u33)).2.1))], .c (.d (.i .i64 ((val (G_Decay u1 u0 u33)).2.2)))])
  | _ => none
abbrev sp_17 : Specs → Specs := addK 17 true (pureT k_G_Decay g_G_Decay)
set_option maxRecDepth 100000 in
def G_Decay_t (u1 : Int) (u0 : List Nat) (u33 : Int) : T (Int × Int × Int) :=
 .call (y78 u1 u0 (0 : Int) (0 : Int) u33) fun r0 =>
  .obT
  (.obT
  (.rc ((r0.1, r0.2.1, r0.2.2))))
set_option maxRecDepth 100000 in
theorem G_Decay_vc (u1 : Int) (u0 : List Nat) (u33 : Int) (r : Int × Int × Int) (h : Option.bind (G_Decay u1 u0 u33) some = some r) : runT Tryz.f17 ((sp_19 sp0)) (fun _ _ _ => none) (bldD k_G_Decay [.d (.i .i64 u1), .r (.floats .f32 u0), .d (.i .i64 u33)]) [.s [.d (.i .i64 r.1), .d (.i .i64 r.2.1)], .c (.d (.i .i64 r.2.2))] :=
  T.vc (t := G_Decay_t u1 u0 u33) (by kernel_rfl) (by kernel_rfl) h
set_option maxRecDepth 100000 in
theorem G_Decay_ok : SpecOK Tryz.prog 17 true (pureT k_G_Decay g_G_Decay) := by
  refine pureT_ok (sp := (sp_19 sp0)) (fn := Tryz.f17) (body := bodyOf Tryz.f17) mixed (sp_19_ok sp0_ok) Tryz.func17 (by kernel_rfl) (by kernel_rfl) fun ls t h ho b hb => ?_
  unfold g_G_Decay at h
  split at h
  · rename_i u1 u0 u33
    cases h
    obtain rfl := bld_eq hb
    exact ⟨Nat.le_of_ble_eq_true (by kernel_rfl), _, _, G_Decay_vc u1 u0 u33 _ (ok_some ho)⟩
  · cases h
theorem sp_17_ok {sp : Specs} (h : SpecsOK Tryz.prog sp) : SpecsOK Tryz.prog (sp_17 sp) := addK_ok G_Decay_ok h
def y159 : List SV := [.c (.p [.d, .r (.floats .f32 []), .d, .d, .r (.recs 2 []), .r (.recs 2 [])]), .c (.d)]
def y61 (u5 : Int) (u6 : List Nat) (u7 : Int) (u9 : Int) (u4 : List (List Int)) (u10 : List (List Int)) (u16 : Int) : Option (Int × Int) :=
  Option.bind (y67 u5 u6 u7 u9 u4 u10 u16) fun r0 =>
  Option.bind (y88 u5 u6 u7 u9 u4 u10 (0 : Int) r0) fun r1 =>
  some (r1.1, r1.2)
def y160 : List Lf → Option GT
  | [.d (.i .i64 u5), .r (.floats .f32 u6), .d (.i .i64 u7), .d (.i .i64 u9), .r (.recs 2 u4), .r (.recs 2 u10), .d (.i .i64 u16)] => some (.leaf (ok (y61 u5 u6 u7 u9 u4 u10 u16)) [.s [.d (.i .i64 ((val (y61 u5 u6 u7 u9 u4 u10 u16)).1)), .d (.i .i64 ((val (y61 u5 u6 u7 u9 u4 u10 u16)).2))]])
  | _ => none
abbrev sp_89 : Specs → Specs := addK 89 true (pureT y159 y160)
set_option maxRecDepth 100000 in
def G_decay_early_t (u5 : Int) (u6 : List Nat) (u7 : Int) (u9 : Int) (u4 : List (List Int)) (u10 : List (List Int)) (u16 : Int) : T (Int × Int) :=
 .call (y67 u5 u6 u7 u9 u4 u10 u16) fun r0 =>
  .call (y88 u5 u6 u7 u9 u4 u10 (0 : Int) r0) fun r1 =>
  .obT
  (.rc ((r1.1, r1.2)))
set_option maxRecDepth 100000 in
theorem G_decay_early_vc (u5 : Int) (u6 : List Nat) (u7 : Int) (u9 : Int) (u4 : List (List Int)) (u10 : List (List Int)) (u16 : Int) (r : Int × Int) (h : Option.bind (y61 u5 u6 u7 u9 u4 u10 u16) some = some r) : runT Tryz.f89 ((sp_88 (sp_87 sp0))) (fun _ _ _ => none) (bldD y159 [.d (.i .i64 u5), .r (.floats .f32 u6), .d (.i .i64 u7), .d (.i .i64 u9), .r (.recs 2 u4), .r (.recs 2 u10), .d (.i .i64 u16)]) [.s [.d (.i .i64 r.1), .d (.i .i64 r.2)]] :=
  T.vc (t := G_decay_early_t u5 u6 u7 u9 u4 u10 u16) (by kernel_rfl) (by kernel_rfl) h
set_option maxRecDepth 100000 in
theorem G_decay_early_ok : SpecOK Tryz.prog 89 true (pureT y159 y160) := by
  refine pureT_ok (sp := (sp_88 (sp_87 sp0))) (fn := Tryz.f89) (body := bodyOf Tryz.f89) mixed (sp_88_ok (sp_87_ok sp0_ok)) Tryz.func89 (by kernel_rfl) (by kernel_rfl) fun ls t h ho b hb => ?_
  unfold y160 at h
  split at h
  · rename_i u5 u6 u7 u9 u4 u10 u16
    cases h
    obtain rfl := bld_eq hb
    exact ⟨Nat.le_of_ble_eq_true (by kernel_rfl), _, _, G_decay_early_vc u5 u6 u7 u9 u4 u10 u16 _ (ok_some ho)⟩
  · cases h
theorem sp_89_ok {sp : Specs} (h : SpecsOK Tryz.prog sp) : SpecsOK Tryz.prog (sp_89 sp) := addK_ok G_decay_early_ok h
def k_G_decay_late : List SV := [.c (.p [.d, .r (.floats .f32 []), .d, .d, .r (.recs 2 []), .r (.recs 2 [])]), .c (.d)]
def y75 (u5 : Int) (u6 : List Nat) (u7 : Int) (u9 : Int) (u4 : List (List Int)) (u10 : List (List Int)) (u16 : Int) : Option (Int × Int) :=
  Option.bind (y67 u5 u6 u7 u9 u4 u10 u16) fun r0 =>
  if (0 : Int) ≤ r0 ∧ r0 < (↑(List.length u10) : Int) then
   if Int.toNat r0 < List.length u10 then
    some ((List.getD (List.getD u10 (Int.toNat r0) []) (0 : Nat) (0 : Int), List.getD (List.getD u10 (Int.toNat r0) []) (1 : Nat) (0 : Int)))
   else none
  else none
def g_G_decay_late : List Lf → Option GT
  | [.d (.i .i64 u5), .r (.floats .f32 u6), .d (.i .i64 u7), .d (.i .i64 u9), .r (.recs 2 u4), .r (.recs 2 u10), .d (.i .i64 u16)] => some (.leaf (ok (y75 u5 u6 u7 u9 u4 u10 u16)) [.s [.d (.i .i64 ((val (y75 u5 u6 u7 u9 u4 u10 u16)).1)), .d (.i .i64 ((val (y75 u5 u6 u7 u9 u4 u10 u16)).2))]])
  | _ => none
abbrev sp_122 : Specs → Specs := addK 122 true (pureT k_G_decay_late g_G_decay_late)
set_option maxRecDepth 100000 in
def G_decay_late_t (u5 : Int) (u6 : List Nat) (u7 : Int) (u9 : Int) (u4 : List (List Int)) (u10 : List (List Int)) (u16 : Int) : T (Int × Int) :=
 .obT
  (.call (y67 u5 u6 u7 u9 u4 u10 u16) fun r0 =>
  .obP ((0 : Int) ≤ r0 ∧ r0 < (↑(List.length u10) : Int))
  (.obP (Int.toNat r0 < List.length u10)
  (.obT
  (.rc (((List.getD (List.getD u10 (Int.toNat r0) []) (0 : Nat) (0 : Int), List.getD (List.getD u10 (Int.toNat r0) []) (1 : Nat) (0 : Int))))))))
set_option maxRecDepth 100000 in
theorem G_decay_late_vc (u5 : Int) (u6 : List Nat) (u7 : Int) (u9 : Int) (u4 : List (List Int)) (u10 : List (List Int)) (u16 : Int) (r : Int × Int) (h : Option.bind (y75 u5 u6 u7 u9 u4 u10 u16) some = some r) : runT Tryz.f122 ((sp_88 sp0)) (fun _ _ _ => none) (bldD k_G_decay_late [.d (.i .i64 u5), .r (.floats .f32 u6), .d (.i .i64 u7), .d (.i .i64 u9), .r (.recs 2 u4), .r (.recs 2 u10), .d (.i .i64 u16)]) [.s [.d (.i .i64 r.1), .d (.i .i64 r.2)]] :=
  T.vc (t := G_decay_late_t u5 u6 u7 u9 u4 u10 u16) (by kernel_rfl) (by kernel_rfl) h
set_option maxRecDepth 100000 in
theorem G_decay_late_ok : SpecOK Tryz.prog 122 true (pureT k_G_decay_late g_G_decay_late) := by
  refine pureT_ok (sp := (sp_88 sp0)) (fn := Tryz.f122) (body := bodyOf Tryz.f122) mixed (sp_88_ok sp0_ok) Tryz.func122 (by kernel_rfl) (by kernel_rfl) fun ls t h ho b hb => ?_
  unfold g_G_decay_late at h
  split at h
  · rename_i u5 u6 u7 u9 u4 u10 u16
    cases h
    obtain rfl := bld_eq hb
    exact ⟨Nat.le_of_ble_eq_true (by kernel_rfl), _, _, G_decay_late_vc u5 u6 u7 u9 u4 u10 u16 _ (ok_some ho)⟩
  · cases h
theorem sp_122_ok {sp : Specs} (h : SpecsOK Tryz.prog sp) : SpecsOK Tryz.prog (sp_122 sp) := addK_ok G_decay_late_ok h
def y131 : List SV := [.c (.p [.d, .r (.floats .f32 []), .d, .d, .r (.recs 2 []), .r (.recs 2 [])]), .c (.d)]
def y41 (u5 : Int) (u6 : List Nat) (u7 : Int) (u9 : Int) (u4 : List (List Int)) (u10 : List (List Int)) (u16 : Int) : Option (Int × Int × Int) :=
  Option.bind (y61 u5 u6 u7 u9 u4 u10 u16) fun r0 =>
  Option.bind (y75 u5 u6 u7 u9 u4 u10 u16) fun r1 =>
  Option.bind (y67 u5 u6 u7 u9 u4 u10 u16) fun r2 =>
  if (r2 == (↑(List.length u4) : Int)) = true then
   some (((0 : Int), (0 : Int), (12 : Int)))
  else
   if (r0.1 == (0 : Int)) = true then
    some (((0 : Int), (0 : Int), (11 : Int)))
   else
    if (r1.1 == (0 : Int)) = true then
     some (((0 : Int), (0 : Int), (11 : Int)))
    else
     Option.bind (y92 r0.1 r1.2) fun r3 =>
     Option.bind (y92 r0.2 r1.1) fun r4 =>
     Option.bind (y20 [r3.2.2, r4.2.2]) fun r5 =>
     if (r5 != (0 : Int)) = true then
      some (((0 : Int), (0 : Int), r5))
     else
      some ((r3.1, r4.2.1, (0 : Int)))
def y132 : List Lf → Option GT
  | [.d (.i .i64 u5), .r (.floats .f32 u6), .d (.i .i64 u7), .d (.i .i64 u9), .r (.recs 2 u4), .r (.recs 2 u10), .d (.i .i64 u16)] => some (.leaf (ok (y41 u5 u6 u7 u9 u4 u10 u16)) [.s [.d (.i .i64 ((val (y41 u5 u6 u7 u9 u4 u10 u16)).1)), .d (.i .i64 ((val (y41 u5 u6 u7 u9 u4 u10 u16)).2.1))], .c (.d (.i .i64 ((val (y41 u5 u6 u7 u9 u4 u10 u16)).2.2)))])
  | _ => none
abbrev sp_78 : Specs → Specs := addK 78 true (pureT y131 y132)
set_option maxRecDepth 100000 in
def G_decay_clarity_t (u5 : Int) (u6 : List Nat) (u7 : Int) (u9 : Int) (u4 : List (List Int)) (u10 : List (List Int)) (u16 : Int) : T (Int × Int × Int) :=
 .call (y61 u5 u6 u7 u9 u4 u10 u16) fun r0 =>
  .call (y75 u5 u6 u7 u9 u4 u10 u16) fun r1 =>
  .call (y67 u5 u6 u7 u9 u4 u10 u16) fun r2 =>
  .obT
  (.brB (r2 == (↑(List.length u4) : Int))
  (.obT
  (.obT
  (.rc ((((0 : Int), (0 : Int), (12 : Int)))))))
  (.brB (r0.1 == (0 : Int))
  (.obT
  (.obT
  (.rc ((((0 : Int), (0 : Int), (11 : Int)))))))
  (.brB (r1.1 == (0 : Int))
  (.obT
  (.obT
  (.rc ((((0 : Int), (0 : Int), (11 : Int)))))))
  (.call (y92 r0.1 r1.2) fun r3 =>
  .call (y92 r0.2 r1.1) fun r4 =>
  .call (y20 [r3.2.2, r4.2.2]) fun r5 =>
  .brB (r5 != (0 : Int))
  (.obT
  (.obT
  (.rc ((((0 : Int), (0 : Int), r5))))))
  (.obT
  (.obT
  (.rc (((r3.1, r4.2.1, (0 : Int)))))))))))
set_option maxRecDepth 100000 in
theorem G_decay_clarity_vc (u5 : Int) (u6 : List Nat) (u7 : Int) (u9 : Int) (u4 : List (List Int)) (u10 : List (List Int)) (u16 : Int) (r : Int × Int × Int) (h : Option.bind (y41 u5 u6 u7 u9 u4 u10 u16) some = some r) : runT Tryz.f78 ((sp_89 (sp_122 (sp_88 (sp_123 (sp_76 sp0)))))) (fun _ _ _ => none) (bldD y131 [.d (.i .i64 u5), .r (.floats .f32 u6), .d (.i .i64 u7), .d (.i .i64 u9), .r (.recs 2 u4), .r (.recs 2 u10), .d (.i .i64 u16)]) [.s [.d (.i .i64 r.1), .d (.i .i64 r.2.1)], .c (.d (.i .i64 r.2.2))] :=
  T.vc (t := G_decay_clarity_t u5 u6 u7 u9 u4 u10 u16) (by kernel_rfl) (by kernel_rfl) h
set_option maxRecDepth 100000 in
theorem G_decay_clarity_ok : SpecOK Tryz.prog 78 true (pureT y131 y132) := by
  refine pureT_ok (sp := (sp_89 (sp_122 (sp_88 (sp_123 (sp_76 sp0)))))) (fn := Tryz.f78) (body := bodyOf Tryz.f78) mixed (sp_89_ok (sp_122_ok (sp_88_ok (sp_123_ok (sp_76_ok sp0_ok))))) Tryz.func78 (by kernel_rfl) (by kernel_rfl) fun ls t h ho b hb => ?_
  unfold y132 at h
  split at h
  · rename_i u5 u6 u7 u9 u4 u10 u16
    cases h
    obtain rfl := bld_eq hb
    exact ⟨Nat.le_of_ble_eq_true (by kernel_rfl), _, _, G_decay_clarity_vc u5 u6 u7 u9 u4 u10 u16 _ (ok_some ho)⟩
  · cases h
theorem sp_78_ok {sp : Specs} (h : SpecsOK Tryz.prog sp) : SpecsOK Tryz.prog (sp_78 sp) := addK_ok G_decay_clarity_ok h
def k_G_Clarity : List SV := [.a [.d, .r (.floats .f32 []), .d, .d], .c (.d)]
def G_Clarity (u13 : Int) (u11 : List Nat) (u14 : Int) (u12 : Int) (u16 : Int) : Option (Int × Int × Int) :=
  if ((val (G_open u13 u11 u14 u12)).1 != (0 : Int)) = true then
   Option.bind (G_open u13 u11 u14 u12) fun r0 =>
   Option.bind (G_timeErr u16) fun r1 =>
   Option.bind (y20 [r0.1, r1]) fun r2 =>
   if (r2 != (0 : Int)) = true then
    some (((0 : Int), (0 : Int), r2))
   else
    none   else
   Option.bind (G_open u13 u11 u14 u12) fun r0 =>
   Option.bind (G_timeErr u16) fun r1 =>
   Option.bind (y20 [(0 : Int), r1]) fun r3 =>
   if (r3 != (0 : Int)) = true then
    some (((0 : Int), (0 : Int), r3))
   else
    Option.bind (y41 u13 u11 u14 u12 r0.2.1 r0.2.2 u16) fun r4 =>
    some (r4.1, r4.2.1, r4.2.2)
def g_G_Clarity : List Lf → Option GT
  | [.d (.i .i64 u13), .r (.floats .f32 u11), .d (.i .i64 u14), .d (.i .i64 u12), .d (.i .i64 u16)] => some (.leaf (ok (G_Clarity u13 u11 u14 u12 u16)) [.s [.d (.i .i64 ((val (G_Clarity u13 u11 u14 u12 u16)).1)), .d (.i .i64 ((val (G_Clarity u13 u11 u14 u12 u16)).2.1))], .c (.d (.i .i64 ((val (G_Clarity u13 u11 u14 u12 u16)).2.2)))])
  | _ => none
abbrev sp_26 : Specs → Specs := addK 26 true (pureT k_G_Clarity g_G_Clarity)
set_option maxRecDepth 100000 in
def G_Clarity_t (u13 : Int) (u11 : List Nat) (u14 : Int) (u12 : Int) (u16 : Int) : T (Int × Int × Int) :=
 .brB ((val (G_open u13 u11 u14 u12)).1 != (0 : Int))
  (.call (G_open u13 u11 u14 u12) fun r0 =>
  .call (G_timeErr u16) fun r1 =>
  .call (y20 [r0.1, r1]) fun r2 =>
  .brB (r2 != (0 : Int))
  (.obT
  (.obT
  (.rc ((((0 : Int), (0 : Int), r2))))))
  (.bad (fun r => False)))
  (.call (G_open u13 u11 u14 u12) fun r0 =>
  .call (G_timeErr u16) fun r1 =>
  .call (y20 [(0 : Int), r1]) fun r3 =>
  .brB (r3 != (0 : Int))
  (.obT
  (.obT
  (.rc ((((0 : Int), (0 : Int), r3))))))
  (.call (y41 u13 u11 u14 u12 r0.2.1 r0.2.2 u16) fun r4 =>
  .obT
  (.obT
  (.rc ((r4.1, r4.2.1, r4.2.2))))))
set_option maxRecDepth 100000 in
theorem G_Clarity_vc (u13 : Int) (u11 : List Nat) (u14 : Int) (u12 : Int) (u16 : Int) (r : Int × Int × Int) (h : Option.bind (G_Clarity u13 u11 u14 u12 u16) some = some r) : runT Tryz.f26 ((sp_67 (sp_77 (sp_76 (sp_78 sp0))))) (fun _ _ _ => none) (bldD k_G_Clarity [.d (.i .i64 u13), .r (.floats .f32 u11), .d (.i .i64 u14), .d (.i .i64 u12), .d (.i .i64 u16)]) [.s [.d (.i .i64 r.1), .d (.i .i64 r.2.1)], .c (.d (.i .i64 r.2.2))] :=
  T.vc (t := G_Clarity_t u13 u11 u14 u12 u16) (by kernel_rfl) (by kernel_rfl) h
set_option maxRecDepth 100000 in
theorem G_Clarity_ok : SpecOK Tryz.prog 26 true (pureT k_G_Clarity g_G_Clarity) := by
  refine pureT_ok (sp := (sp_67 (sp_77 (sp_76 (sp_78 sp0))))) (fn := Tryz.f26) (body := bodyOf Tryz.f26) mixed (sp_67_ok (sp_77_ok (sp_76_ok (sp_78_ok sp0_ok)))) Tryz.func26 (by kernel_rfl) (by kernel_rfl) fun ls t h ho b hb => ?_
  unfold g_G_Clarity at h
  split at h
  · rename_i u13 u11 u14 u12 u16
    cases h
    obtain rfl := bld_eq hb
    exact ⟨Nat.le_of_ble_eq_true (by kernel_rfl), _, _, G_Clarity_vc u13 u11 u14 u12 u16 _ (ok_some ho)⟩
  · cases h
theorem sp_26_ok {sp : Specs} (h : SpecsOK Tryz.prog sp) : SpecsOK Tryz.prog (sp_26 sp) := addK_ok G_Clarity_ok h
def y100 : List SV := [.c (.p [.d, .r (.floats .f32 []), .d, .d, .r (.recs 2 []), .r (.recs 2 [])]), .c (.d)]
def y47 (u5 : Int) (u6 : List Nat) (u7 : Int) (u9 : Int) (u4 : List (List Int)) (u10 : List (List Int)) (u16 : Int) : Option (Int × Int × Int) :=
  Option.bind (y61 u5 u6 u7 u9 u4 u10 u16) fun r0 =>
  Option.bind (y75 u5 u6 u7 u9 u4 u10 u16) fun r1 =>
  if (r0.1 == (0 : Int)) = true then
   if (r1.1 == (0 : Int)) = true then
    some (((0 : Int), (0 : Int), (11 : Int)))
   else
    if IntKind.wrap .i64 (r0.1 + r1.2) ≠ (0 : Int) then
     Option.bind (G_ceil (IntKind.wrap .i64 ((1000 : Int) * r0.2)) (IntKind.wrap .i64 (r0.2 + r1.1))) fun r2 =>
     some ((IntKind.wrap .i64 (Int.tdiv (IntKind.wrap .i64 ((1000 : Int) * r0.1)) (IntKind.wrap .i64 (r0.1 + r1.2))), r2, (0 : Int)))
    else none
  else
   if IntKind.wrap .i64 (r0.1 + r1.2) ≠ (0 : Int) then
    Option.bind (G_ceil (IntKind.wrap .i64 ((1000 : Int) * r0.2)) (IntKind.wrap .i64 (r0.2 + r1.1))) fun r2 =>
    some ((IntKind.wrap .i64 (Int.tdiv (IntKind.wrap .i64 ((1000 : Int) * r0.1)) (IntKind.wrap .i64 (r0.1 + r1.2))), r2, (0 : Int)))
   else none
def y101 : List Lf → Option GT
  | [.d (.i .i64 u5), .r (.floats .f32 u6), .d (.i .i64 u7), .d (.i .i64 u9), .r (.recs 2 u4), .r (.recs 2 u10), .d (.i .i64 u16)] => some (.leaf (ok (y47 u5 u6 u7 u9 u4 u10 u16)) [.s [.d (.i .i64 ((val (y47 u5 u6 u7 u9 u4 u10 u16)).1)), .d (.i .i64 ((val (y47 u5 u6 u7 u9 u4 u10 u16)).2.1))], .c (.d (.i .i64 ((val (y47 u5 u6 u7 u9 u4 u10 u16)).2.2)))])
  | _ => none
abbrev sp_98 : Specs → Specs := addK 98 true (pureT y100 y101)
set_option maxRecDepth 100000 in
def G_decay_definition_t (u5 : Int) (u6 : List Nat) (u7 : Int) (u9 : Int) (u4 : List (List Int)) (u10 : List (List Int)) (u16 : Int) : T (Int × Int × Int) :=
 .call (y61 u5 u6 u7 u9 u4 u10 u16) fun r0 =>
  .call (y75 u5 u6 u7 u9 u4 u10 u16) fun r1 =>
  .brB (r0.1 == (0 : Int))
  (.brB (r1.1 == (0 : Int))
  (.obT
  (.obT
  (.rc ((((0 : Int), (0 : Int), (11 : Int)))))))
  (.obP (IntKind.wrap .i64 (r0.1 + r1.2) ≠ (0 : Int))
  (.call (G_ceil (IntKind.wrap .i64 ((1000 : Int) * r0.2)) (IntKind.wrap .i64 (r0.2 + r1.1))) fun r2 =>
  .obT
  (.obT
  (.rc (((IntKind.wrap .i64 (Int.tdiv (IntKind.wrap .i64 ((1000 : Int) * r0.1)) (IntKind.wrap .i64 (r0.1 + r1.2))), r2, (0 : Int)))))))))
  (.obP (IntKind.wrap .i64 (r0.1 + r1.2) ≠ (0 : Int))
  (.call (G_ceil (IntKind.wrap .i64 ((1000 : Int) * r0.2)) (IntKind.wrap .i64 (r0.2 + r1.1))) fun r2 =>
  .obT
  (.obT
  (.rc (((IntKind.wrap .i64 (Int.tdiv (IntKind.wrap .i64 ((1000 : Int) * r0.1)) (IntKind.wrap .i64 (r0.1 + r1.2))), r2, (0 : Int))))))))
set_option maxRecDepth 100000 in
theorem G_decay_definition_vc (u5 : Int) (u6 : List Nat) (u7 : Int) (u9 : Int) (u4 : List (List Int)) (u10 : List (List Int)) (u16 : Int) (r : Int × Int × Int) (h : Option.bind (y47 u5 u6 u7 u9 u4 u10 u16) some = some r) : runT Tryz.f98 ((sp_89 (sp_122 (sp_119 sp0)))) (fun _ _ _ => none) (bldD y100 [.d (.i .i64 u5), .r (.floats .f32 u6), .d (.i .i64 u7), .d (.i .i64 u9), .r (.recs 2 u4), .r (.recs 2 u10), .d (.i .i64 u16)]) [.s [.d (.i .i64 r.1), .d (.i .i64 r.2.1)], .c (.d (.i .i64 r.2.2))] :=
  T.vc (t := G_decay_definition_t u5 u6 u7 u9 u4 u10 u16) (by kernel_rfl) (by kernel_rfl) h
set_option maxRecDepth 100000 in
theorem G_decay_definition_ok : SpecOK Tryz.prog 98 true (pureT y100 y101) := by
  refine pureT_ok (sp := (sp_89 (sp_122 (sp_119 sp0)))) (fn := Tryz.f98) (body := bodyOf Tryz.f98) mixed (sp_89_ok (sp_122_ok (sp_119_ok sp0_ok))) Tryz.func98 (by kernel_rfl) (by kernel_rfl) fun ls t h ho b hb => ?_
  unfold y101 at h
  split at h
  · rename_i u5 u6 u7 u9 u4 u10 u16
    cases h
    obtain rfl := bld_eq hb
    exact ⟨Nat.le_of_ble_eq_true (by kernel_rfl), _, _, G_decay_definition_vc u5 u6 u7 u9 u4 u10 u16 _ (ok_some ho)⟩
  · cases h
theorem sp_98_ok {sp : Specs} (h : SpecsOK Tryz.prog sp) : SpecsOK Tryz.prog (sp_98 sp) := addK_ok G_decay_definition_ok h
def k_G_Transfer : List SV := [.a [.d, .r (.floats .f32 [])], .c (.d)]
def y58 (u1 : Int) (u0 : List Nat) (u17 : Int) : Option (Int × Int × Int) :=
  if ((val (G_openBlock u1 u0 u17)).1 != (0 : Int)) = true then
   Option.bind (G_openBlock u1 u0 u17) fun r0 =>
   if (r0.2.1 != (0 : Int)) = true then
    some (((0 : Int), (0 : Int), r0.2.1))
   else
    none   else
   Option.bind (G_openBlock u1 u0 u17) fun r0 =>
   if (r0.2.1 != (0 : Int)) = true then
    some (((0 : Int), (0 : Int), r0.2.1))
   else
    if (0 : Int) ≤ (0 : Int) ∧ (0 : Int) < (↑(List.length r0.2.2.2) : Int) then
     if (0 : Nat) < List.length r0.2.2.2 then
      if List.getD (List.getD r0.2.2.2 (0 : Nat) []) (0 : Nat) (0 : Int) > (1000000000 : Int) then
       some (((0 : Int), (0 : Int), (8 : Int)))
      else
       Option.bind (y37 u1 u0 (0 : Int) (0 : Int) r0.2.2.1 r0.2.2.2 u17) fun r1 =>
       Option.bind (G_share (IntKind.wrap .i64 (IntKind.wrap .i64 (r1.1 * r1.1) + IntKind.wrap .i64 (r1.2 * r1.2))) (IntKind.wrap .i64 (List.getD (List.getD r0.2.2.2 (0 : Nat) []) (0 : Nat) (0 : Int) * List.getD (List.getD r0.2.2.2 (0 : Nat) []) (0 : Nat) (0 : Int)))) fun r2 =>
       some (r2.1, r2.2.1, r2.2.2)
     else none
    else none
def g_G_Transfer : List Lf → Option GT
  | [.d (.i .i64 u1), .r (.floats .f32 u0), .d (.i .i64 u17)] => some (.leaf (ok (y58 u1 u0 u17)) [.s [.d (.i .i64 ((val (y58 u1 u0 u17)).1)), .d (.i .i64 ((val (y58 u1 u0 u17)).2.1))], .c (.d (.i .i64 ((val (y58 u1 u0 u17)).2.2)))])
  | _ => none
abbrev sp_34 : Specs → Specs := addK 34 true (pureT k_G_Transfer g_G_Transfer)
set_option maxRecDepth 100000 in
def G_Transfer_t (u1 : Int) (u0 : List Nat) (u17 : Int) : T (Int × Int × Int) :=
 .brB ((val (G_openBlock u1 u0 u17)).1 != (0 : Int))
  (.call (G_openBlock u1 u0 u17) fun r0 =>
  .brB (r0.2.1 != (0 : Int))
  (.obT
  (.obT
  (.rc ((((0 : Int), (0 : Int), r0.2.1))))))
  (.bad (fun r => False)))
  (.call (G_openBlock u1 u0 u17) fun r0 =>
  .brB (r0.2.1 != (0 : Int))
  (.obT
  (.obT
  (.rc ((((0 : Int), (0 : Int), r0.2.1))))))
  (.obP ((0 : Int) ≤ (0 : Int) ∧ (0 : Int) < (↑(List.length r0.2.2.2) : Int))
  (.obP ((0 : Nat) < List.length r0.2.2.2)
  (.brP (List.getD (List.getD r0.2.2.2 (0 : Nat) []) (0 : Nat) (0 : Int) > (1000000000 : Int))
  (.obT
  (.obT
  (.rc ((((0 : Int), (0 : Int), (8 : Int)))))))
  (.call (y37 u1 u0 (0 : Int) (0 : Int) r0.2.2.1 r0.2.2.2 u17) fun r1 =>
  .call (G_share (IntKind.wrap .i64 (IntKind.wrap .i64 (r1.1 * r1.1) + IntKind.wrap .i64 (r1.2 * r1.2))) (IntKind.wrap .i64 (List.getD (List.getD r0.2.2.2 (0 : Nat) []) (0 : Nat) (0 : Int) * List.getD (List.getD r0.2.2.2 (0 : Nat) []) (0 : Nat) (0 : Int)))) fun r2 =>
  .obT
  (.obT
  (.rc ((r2.1, r2.2.1, r2.2.2)))))))))
set_option maxRecDepth 100000 in
theorem G_Transfer_vc (u1 : Int) (u0 : List Nat) (u17 : Int) (r : Int × Int × Int) (h : Option.bind (y58 u1 u0 u17) some = some r) : runT Tryz.f34 ((sp_91 (sp_92 (sp_86 sp0)))) (fun _ _ _ => none) (bldD k_G_Transfer [.d (.i .i64 u1), .r (.floats .f32 u0), .d (.i .i64 u17)]) [.s [.d (.i .i64 r.1), .d (.i .i64 r.2.1)], .c (.d (.i .i64 r.2.2))] :=
  T.vc (t := G_Transfer_t u1 u0 u17) (by kernel_rfl) (by kernel_rfl) h
set_option maxRecDepth 100000 in
theorem G_Transfer_ok : SpecOK Tryz.prog 34 true (pureT k_G_Transfer g_G_Transfer) := by
  refine pureT_ok (sp := (sp_91 (sp_92 (sp_86 sp0)))) (fn := Tryz.f34) (body := bodyOf Tryz.f34) mixed (sp_91_ok (sp_92_ok (sp_86_ok sp0_ok))) Tryz.func34 (by kernel_rfl) (by kernel_rfl) fun ls t h ho b hb => ?_
  unfold g_G_Transfer at h
  split at h
  · rename_i u1 u0 u17
    cases h
    obtain rfl := bld_eq hb
    exact ⟨Nat.le_of_ble_eq_true (by kernel_rfl), _, _, G_Transfer_vc u1 u0 u17 _ (ok_some ho)⟩
  · cases h
theorem sp_34_ok {sp : Specs} (h : SpecsOK Tryz.prog sp) : SpecsOK Tryz.prog (sp_34 sp) := addK_ok G_Transfer_ok h
end Go.Sh
end

section
namespace Go.Sh
open Go Go.Proofs Go.RowKit Go.Sx Go.Sx06 Ieee Go.Fl
def seg (zs : List (List Int)) (a b : Nat) : List (List Int) := (zs.drop a).take (b - a)
theorem seg_ok {zs : List (List Int)} (h : ∀ r ∈ zs, okZ r) (a b : Nat) : ∀ r ∈ seg zs a b, okZ r := fun r hr => h r (List.mem_of_mem_drop (List.mem_of_mem_take hr))
theorem seg_len (zs : List (List Int)) (a b : Nat) : (seg zs a b).length ≤ zs.length := by unfold seg; simp; omega
theorem seg_end (zs : List (List Int)) (a : Nat) : seg zs a zs.length = zs.drop a := by
  unfold seg
  rw [List.take_of_length_le (by simp)]
theorem seg_self (zs : List (List Int)) (a : Nat) : seg zs a a = [] := by unfold seg; simp
theorem seg_succ {zs : List (List Int)} {a k : Nat} (h : a + k < zs.length) : seg zs a (a + k + 1) = seg zs a (a + k) ++ [zs.getD (a + k) []] := by
  unfold seg
  have e1 : a + k + 1 - a = k + 1 := by omega
  have e2 : a + k - a = k := by omega
  rw [e1, e2, List.take_succ_eq_append_getElem (by simp; omega)]
  simp [List.getD, h]
theorem take_snoc {L : List (List Int)} {i : Nat} (hi : i < L.length) : L.take (i + 1) = L.take i ++ [L.getD i []] := by
  rw [List.take_succ_eq_append_getElem hi]
  simp [List.getD, hi]
theorem sLo_snoc (a : List (List Int)) (r : List Int) : sLo (a ++ [r]) = sLo a + r.getD 0 0 := by rw [sLo_append]; simp [sLo]
theorem sHi_snoc (a : List (List Int)) (r : List Int) : sHi (a ++ [r]) = sHi a + r.getD 1 0 := by rw [sHi_append]; simp [sHi]
theorem squareR_eq {rate noise tail : Int} {l : List Nat} {t : Nat} (ht : t < l.length) (hs : ∀ b ∈ l, se b = 0) (hn : 0 ≤ noise ∧ noise ≤ 32767) :
    y16 rate l noise tail (t : Int) = some (((zsO noise l).getD t []).getD 0 0, ((zsO noise l).getD t []).getD 1 0) := by
  unfold y16
  have hw := se_whole (hs (l.getD t 0) (by simp [List.getD, ht]))
  have ha := az_range (M := 32767) hw.2
  have hg : (zsO noise l).getD t [] = sqP noise (fi (l.getD t 0)) := by simp [zsO, List.getD, ht]
  rw [if_pos (by omega), Int.toNat_natCast, if_pos ht, if_pos hw.1, show f2i FloatKind.f32 (l.getD t 0) = fi (l.getD t 0) from rfl, sizeB_eq (by unfold inJ; omega), bind_some', sq_low ha hn, sq_high ha hn, hg]
  rfl
theorem energyR_eq {rate noise tail : Int} {l : List Nat} {a b : Nat} (hs : ∀ x ∈ l, se x = 0) (hl : l.length ≤ 1024) (hn : 0 ≤ noise ∧ noise ≤ 32767) (ht : 0 ≤ tail ∧ tail ≤ 1000000000000) (hab : a ≤ b) (hb : b ≤ l.length) :
    y45 rate l noise tail (a : Int) (b : Int) = some (sLo (seg (zsO noise l) a b), sHi (seg (zsO noise l) a b) + if b = l.length then tail else 0) := by
  have hzl := zsO_len noise l
  have hz := zsO_ok hn hs
  have hok := seg_ok hz a b
  unfold y45
  have h := iter_upto (body := y22 rate l noise tail (b : Int)) (fun i => (((a + i : Nat) : Int), sLo (seg (zsO noise l) a (a + i)), sHi (seg (zsO noise l) a (a + i)))) (k := b - a) (y := (sLo (seg (zsO noise l) a b), sHi (seg (zsO noise l) a b)))
    (fun i hi => by
      have hr := s_range (seg_ok hz a (a + i))
      have hlen : ((seg (zsO noise l) a (a + i)).length : Int) ≤ 1024 := by have := seg_len (zsO noise l) a (a + i); omega
      have ho := hz ((zsO noise l).getD (a + i) []) (by simp [List.getD, show a + i < (zsO noise l).length by omega])
      unfold okZ at ho
      unfold y22
      dsimp only
      rw [if_pos (by omega), squareR_eq (by omega) hs hn, bind_some']
      rw [show a + (i + 1) = a + i + 1 by omega, seg_succ (by omega), sLo_snoc, sHi_snoc, wr64 (x := (((a + i : Nat) : Int)) + 1) (by omega), wr64 (by omega), wr64 (by omega)]
      rfl)
    (by
      unfold y22
      dsimp only
      have e : a + (b - a) = b := by omega
      rw [if_neg (by omega), e]) (by omega)
  have h0 : iter (y22 rate l noise tail (b : Int)) big ((a : Int), 0, 0) = some (sLo (seg (zsO noise l) a b), sHi (seg (zsO noise l) a b)) := by
    simpa [sLo, sHi, seg_self] using h
  rw [h0, bind_some']
  unfold y50
  have hr := s_range hok
  have hlen : ((seg (zsO noise l) a b).length : Int) ≤ 1024 := by have := seg_len (zsO noise l) a b; omega
  by_cases he : b = l.length
  · rw [if_pos (show ((b : Int) == (l.length : Int)) = true by rw [he]; simp), if_pos he]
    rw [wr64 (by dsimp only; omega)]
  · rw [if_neg (show ¬ ((b : Int) == (l.length : Int)) = true by simp; omega), if_neg he, Int.add_zero]
theorem sumR_eq {rate noise tail : Int} {l : List Nat} {a : Nat} (hs : ∀ x ∈ l, se x = 0) (hl : l.length ≤ 1024) (hn : 0 ≤ noise ∧ noise ≤ 32767) (ht : 0 ≤ tail ∧ tail ≤ 1000000000000) (ha : a ≤ l.length) :
    R05_sum rate l noise tail (a : Int) = some (sLo ((zsO noise l).drop a), sHi ((zsO noise l).drop a) + tail) := by
  unfold R05_sum
  rw [energyR_eq hs hl hn ht ha (Nat.le_refl _), bind_some', if_pos rfl]
  have := seg_end (zsO noise l) a
  rw [zsO_len] at this
  rw [this]
def shS (num den : Int) : Int × Int × Int :=
  if den = 0 then (0, 0, 11) else if num / (Int.gcd num den : Int) > 1000000000 ∨ den / (Int.gcd num den : Int) > 1000000000 then (0, 0, 8) else (num / (Int.gcd num den : Int), den / (Int.gcd num den : Int), 0)
theorem shareG_eq {num den : Int} (hn : 0 ≤ num) (hn' : num ≤ 9223372036854775807) (hd : 0 ≤ den) (hd' : den ≤ 9223372036854775807) : G_share num den = some (shS num den) := by
  unfold G_share shS
  by_cases h0 : den = 0
  · rw [if_pos (show (den == 0) = true by simpa using h0), if_pos h0]
  · rw [if_neg (show ¬ (den == 0) = true by simpa using h0), if_neg h0]
    have key : ∀ (n : Nat) (a b : Int) (N : Nat), 0 ≤ a → 0 ≤ b → b.natAbs ≤ n → n < N → iter y85 N (a, b) = some (Int.gcd a b : Int) := by
      intro n
      induction n with
      | zero =>
        intro a b N ha hb hbn hN
        obtain ⟨M, rfl⟩ : ∃ M, N = M + 1 := ⟨N - 1, by omega⟩
        have : b = 0 := by omega
        subst this
        unfold iter y85
        rw [if_neg (by simp)]
        simp [Int.gcd]
        omega
      | succ n ih =>
        intro a b N ha hb hbn hN
        obtain ⟨M, rfl⟩ : ∃ M, N = M + 1 := ⟨N - 1, by omega⟩
        by_cases hb0 : b = 0
        · subst hb0
          unfold iter y85
          rw [if_neg (by simp)]
          simp [Int.gcd]
          omega
        · unfold iter y85
          rw [if_pos (show (b != 0) = true by simpa using hb0), if_pos hb0]
          dsimp only
          have h1 := tmod_abs a b hb0
          have h2 : 0 ≤ a.tmod b := Int.tmod_nonneg b ha
          exact (ih b (a.tmod b) M hb h2 (by omega) (by omega)).trans (by rw [gcd_step])
    rw [key den.natAbs num den big hn hd (Nat.le_refl _) (by unfold big; omega), bind_some']
    have hg : 0 < Int.gcd num den := Int.gcd_pos_of_ne_zero_right _ h0
    unfold y121
    have d1 : 0 ≤ num / (Int.gcd num den : Int) ∧ num / (Int.gcd num den : Int) ≤ num := ⟨Int.ediv_nonneg hn (by omega), Int.ediv_le_self _ hn⟩
    have d2 : 0 ≤ den / (Int.gcd num den : Int) ∧ den / (Int.gcd num den : Int) ≤ den := ⟨Int.ediv_nonneg hd (by omega), Int.ediv_le_self _ hd⟩
    rw [if_pos (by omega), if_pos (by omega), Int.tdiv_eq_ediv_of_nonneg hn, Int.tdiv_eq_ediv_of_nonneg hd, wr64 (by omega), wr64 (by omega)]
    by_cases c1 : num / (Int.gcd num den : Int) > 1000000000
    · rw [if_pos c1, if_pos (.inl c1)]
    · by_cases c2 : den / (Int.gcd num den : Int) > 1000000000
      · rw [if_neg c1, if_pos c2, if_pos (.inr c2)]
      · rw [if_neg c1, if_neg c2, if_neg (by omega)]
theorem shareR_eq {num den : Int} (hn : 0 ≤ num) (hn' : num ≤ 9223372036854775807) (hd : 0 ≤ den) (hd' : den ≤ 9223372036854775807) : y93 num den = some (shS num den) := by
  unfold y93 shS
  by_cases h0 : den = 0
  · rw [if_pos (show (den == 0) = true by simpa using h0), if_pos h0]
  · rw [if_neg (show ¬ (den == 0) = true by simpa using h0), if_neg h0, lowestR_eq (by unfold inJ; omega) (by unfold inJ; omega) h0, bind_some']
    unfold lowS
    rw [if_neg (show ¬ den < 0 by omega), Int.tdiv_eq_ediv_of_nonneg hn, Int.tdiv_eq_ediv_of_nonneg hd]
    dsimp only
    by_cases c1 : num / (Int.gcd num den : Int) > 1000000000
    · rw [if_pos c1, if_pos (.inl c1)]
    · by_cases c2 : den / (Int.gcd num den : Int) > 1000000000
      · rw [if_neg c1, if_pos c2, if_pos (.inr c2)]
      · rw [if_neg c1, if_neg c2, if_neg (by omega)]
end Go.Sh
end

section
namespace Go.Sh
open Go Go.Proofs Go.RowKit Go.Sx Go.Sx06 Ieee Go.Fl
end Go.Sh
end

section
namespace Go.Sh
open Go Go.Proofs Go.RowKit Go.Sx Go.Sx06 Ieee Go.Fl
structure ZOK (zs : List (List Int)) (T : Int) : Prop where
  len : zs.length ≤ 1024
  ok : ∀ r ∈ zs, okZ r
  tail : 0 ≤ T ∧ T ≤ 1000000000000
section
variable {zs : List (List Int)} {T f : Int}
theorem ZOK.at_ (h : ZOK zs T) {i : Nat} (hi : i ≤ zs.length) : 0 ≤ sLo (zs.drop i) ∧ sLo (zs.drop i) ≤ sHi (zs.drop i) + T ∧ sHi (zs.drop i) + T ≤ 6000000000000 := by
  have := s_range (zs := zs.drop i) fun r hr => h.ok r (List.mem_of_mem_drop hr)
  have hl := h.len
  have ht := h.tail
  have hd : ((zs.drop i).length : Int) ≤ 1024 := by rw [List.length_drop]; omega
  omega
theorem ZOK.all (h : ZOK zs T) : 0 ≤ sLo zs ∧ sLo zs ≤ sHi zs + T ∧ sHi zs + T ≤ 6000000000000 := by
  have := h.at_ (i := 0) (Nat.zero_le _)
  simpa using this
theorem ss_get {i : Nat} (hi : i ≤ zs.length) : ((ssO zs T).getD i []).getD 0 0 = sLo (zs.drop i) ∧ ((ssO zs T).getD i []).getD 1 0 = sHi (zs.drop i) + T := by
  rw [ssO_get hi]
  exact ⟨rfl, rfl⟩
theorem ss_zero : ((ssO zs T).getD 0 []).getD 0 0 = sLo zs ∧ ((ssO zs T).getD 0 []).getD 1 0 = sHi zs + T := by
  have := ss_get (zs := zs) (T := T) (i := 0) (Nat.zero_le _)
  simpa using this
variable {rate noise tl : Int} {l : List Nat}
end
end Go.Sh
end

section
namespace Go.Sh
open Go Go.Proofs Go.RowKit Go.Sx
set_option linter.unusedVariables false
def k_G_SumsWithin : List SV := [.a [.d, .r (.floats .f32 []), .d, .d]]
def y3 (u13 : Int) (u11 : List Nat) (u14 : Int) (u12 : Int) : Option (List (List Int) × Int) :=
  if ((val (G_open u13 u11 u14 u12)).1 != (0 : Int)) = true then
   Option.bind (G_open u13 u11 u14 u12) fun r0 =>
   if (r0.1 != (0 : Int)) = true then
    some ([], r0.1)
   else
    none   else
   Option.bind (G_open u13 u11 u14 u12) fun r0 =>
   if (0 : Int) ≤ (↑(List.length r0.2.1) : Int) ∧ (↑(List.length r0.2.1) : Int) ≤ (↑(List.length r0.2.1) : Int) ∧ (↑(List.length r0.2.1) : Int) ≤ (↑(List.length r0.2.2) : Int) then
    some ((List.take (Int.toNat (↑(List.length r0.2.1) : Int) - (0 : Nat)) (List.drop (0 : Nat) r0.2.2), (0 : Int)))
   else none
def g_G_SumsWithin : List Lf → Option GT
  | [.d (.i .i64 u13), .r (.floats .f32 u11), .d (.i .i64 u14), .d (.i .i64 u12)] => some (.leaf (ok (y3 u13 u11 u14 u12)) [.c (.rrow (.recs 2 ((val (y3 u13 u11 u14 u12)).1))), .c (.d (.i .i64 ((val (y3 u13 u11 u14 u12)).2)))])
  | _ => none
abbrev sp_54 : Specs → Specs := addK 54 true (pureT k_G_SumsWithin g_G_SumsWithin)
set_option maxRecDepth 100000 in
theorem G_SumsWithin_vc (u13 : Int) (u11 : List Nat) (u14 : Int) (u12 : Int) (r : List (List Int) × Int) (h : Option.bind (y3 u13 u11 u14 u12) some = some r) : runT Tryz.f54 ((sp_67 sp0)) (fun _ _ _ => none) (bldD k_G_SumsWithin [.d (.i .i64 u13), .r (.floats .f32 u11), .d (.i .i64 u14), .d (.i .i64 u12)]) [.c (.rrow (.recs 2 r.1)), .c (.d (.i .i64 r.2))] := by
  refine Eq.mp (by kernel_rfl : (
 Br ((val (G_open u13 u11 u14 u12)).1 != (0 : Int))
   ((Ob (ok (G_open u13 u11 u14 u12)) ∧
 Br ((val (G_open u13 u11 u14 u12)).1 != (0 : Int))
   ((Ob (True) ∧
 (Ob (True) ∧
 (Ob (List.length r.1 = (0 : Nat)) ∧
 (Ob ((val (G_open u13 u11 u14 u12)).1 = r.2) ∧
 True)))))
   (False)))
   ((Ob (ok (G_open u13 u11 u14 u12)) ∧
 (Ob ((0 : Int) ≤ (↑(List.length (val (G_open u13 u11 u14 u12)).2.1) : Int) ∧ (↑(List.length (val (G_open u13 u11 u14 u12)).2.1) : Int) ≤ (↑(List.length (val (G_open u13 u11 u14 u12)).2.1) : Int) ∧ (↑(List.length (val (G_open u13 u11 u14 u12)).2.1) : Int) ≤ (↑(List.length (val (G_open u13 u11 u14 u12)).2.2) : Int)) ∧
 (Ob (True) ∧
 (Ob (True) ∧
 (Ob (List.take (Int.toNat (↑(List.length (val (G_open u13 u11 u14 u12)).2.1) : Int) - (0 : Nat)) (List.drop (0 : Nat) (val (G_open u13 u11 u14 u12)).2.2) = r.1) ∧
 (Ob ((0 : Int) = r.2) ∧
 True)))))))) = _) ?_
  refine br_b h (fun h => ?_) (fun h => ?_)
  · refine call_s h fun h => ?_
    refine br_b h (fun h => ?_) (fun h => ?_)
    · refine ob_t ?_
      refine ob_t ?_
      exact ret_s h (fun e => by subst e; exact (by repeat' (first | exact trivial | exact ⟨rfl⟩ | refine And.intro ?_ ?_)))
    · exact nomatch h
  · refine call_s h fun h => ?_
    refine ob_s h fun h => ?_
    refine ob_t ?_
    refine ob_t ?_
    exact ret_s h (fun e => by subst e; exact (by repeat' (first | exact trivial | exact ⟨rfl⟩ | refine And.intro ?_ ?_)))
set_option maxRecDepth 100000 in
theorem G_SumsWithin_ok : SpecOK Tryz.prog 54 true (pureT k_G_SumsWithin g_G_SumsWithin) := by
  refine pureT_ok (sp := (sp_67 sp0)) (fn := Tryz.f54) (body := bodyOf Tryz.f54) mixed (sp_67_ok sp0_ok) Tryz.func54 (by kernel_rfl) (by kernel_rfl) fun ls t h ho b hb => ?_
  unfold g_G_SumsWithin at h
  split at h
  · rename_i u13 u11 u14 u12
    cases h
    obtain rfl := bld_eq hb
    exact ⟨Nat.le_of_ble_eq_true (by kernel_rfl), _, _, G_SumsWithin_vc u13 u11 u14 u12 _ (ok_some ho)⟩
  · cases h
theorem sp_54_ok {sp : Specs} (h : SpecsOK Tryz.prog sp) : SpecsOK Tryz.prog (sp_54 sp) := addK_ok G_SumsWithin_ok h
def k_G_Sums : List SV := [.a [.d, .r (.floats .f32 [])]]
def G_Sums_b0 (r0 : List (List Int) × Int) (x0 : (Int × List Int)) : Option ((Int × List Int) ⊕ (List Int)) :=
  if x0.1 < (↑(List.length r0.1) : Int) then
   if (0 : Int) ≤ x0.1 ∧ x0.1 < (↑(List.length r0.1) : Int) then
    if Int.toNat x0.1 < List.length r0.1 then
     if (List.length x0.2 + List.length [List.getD (List.getD r0.1 (Int.toNat x0.1) []) (0 : Nat) (0 : Int)]) * (8 : Nat) ≤ (140737488355328 : Nat) ∧ List.length x0.2 + List.length [List.getD (List.getD r0.1 (Int.toNat x0.1) []) (0 : Nat) (0 : Int)] ≤ (9223372036854775807 : Nat) then
      some (.inl ((IntKind.wrap .i64 (x0.1 + (1 : Int)), x0.2 ++ [List.getD (List.getD r0.1 (Int.toNat x0.1) []) (0 : Nat) (0 : Int)])))
     else none
    else none
   else none
  else
   some (.inr x0.2)
def G_Sums_r0 (r0 : List (List Int) × Int) (u15 : List Int) : Option (List Int × Int) :=
  some (u15, r0.2)
def G_Sums (u1 : Int) (u0 : List Nat) : Option (List Int × Int) :=
  Option.bind (y3 u1 u0 (0 : Int) (0 : Int)) fun r0 =>
  Option.bind (iter (G_Sums_b0 r0) big (((0 : Int), []))) (G_Sums_r0 r0)
def g_G_Sums : List Lf → Option GT
  | [.d (.i .i64 u1), .r (.floats .f32 u0)] => some (.leaf (ok (G_Sums u1 u0)) [.c (.row 3 (.ints .i64 ((val (G_Sums u1 u0)).1))), .c (.d (.i .i64 ((val (G_Sums u1 u0)).2)))])
  | _ => none
abbrev sp_53 : Specs → Specs := addK 53 true (pureT k_G_Sums g_G_Sums)
set_option maxRecDepth 100000 in
theorem G_Sums_vc (u1 : Int) (u0 : List Nat) (r : List Int × Int) (h : Option.bind (G_Sums u1 u0) some = some r) : runT Tryz.f53 ((sp_54 sp0)) (fun gs id _ => match id with
 | 0 => some ⟨(Int × List Int) × Nat, fun z => ⟨[(5, .w (.c (.d (.i .i64 ((val (y3 u1 u0 (0 : Int) (0 : Int))).2))))), (6, .w (.c (.o 1))), (15, .w (.c (.o 2))), (16, .w (.c (.d (.i .i64 ((↑(List.length (val (y3 u1 u0 (0 : Int) (0 : Int))).1) : Int)))))), (17, .w (.c (.d (.i .i64 (Prod.fst (Prod.fst z))))))], [(1, .row 3 (.ints .i64 (Prod.snd (Prod.fst z)))), (2, .rrow (.recs 2 ((val (y3 u1 u0 (0 : Int) (0 : Int))).1)))], 3⟩, fun z => Option.bind (iter (G_Sums_b0 (val (y3 u1 u0 (0 : Int) (0 : Int)))) (Prod.snd z) (Prod.fst z)) (fun y0 => Option.bind (G_Sums_r0 (val (y3 u1 u0 (0 : Int) (0 : Int))) y0) some) = some r, fun z => Prod.snd z⟩
 | _ => none) (bldD k_G_Sums [.d (.i .i64 u1), .r (.floats .f32 u0)]) [.c (.row 3 (.ints .i64 r.1)), .c (.d (.i .i64 r.2))] := by
  refine Eq.mp (by kernel_rfl : (
 (Ob (ok (y3 u1 u0 (0 : Int) (0 : Int))) ∧
   ((∃ (v0 : (Int × List Int) × Nat), (Ob ((Option.bind (iter (G_Sums_b0 (val (y3 u1 u0 (0 : Int) (0 : Int)))) v0.2 v0.1) fun y0 => Option.bind (G_Sums_r0 (val (y3 u1 u0 (0 : Int) (0 : Int))) y0) some) = some r) ∧
 (Ob ((val (y3 u1 u0 (0 : Int) (0 : Int))).2 = (val (y3 u1 u0 (0 : Int) (0 : Int))).2) ∧
 (Ob ((↑(List.length (val (y3 u1 u0 (0 : Int) (0 : Int))).1) : Int) = (↑(List.length (val (y3 u1 u0 (0 : Int) (0 : Int))).1) : Int)) ∧
 (Ob ((0 : Int) = v0.1.1) ∧
 (Ob (List.length v0.1.2 = (0 : Nat)) ∧
 (Ob ((val (y3 u1 u0 (0 : Int) (0 : Int))).1 = (val (y3 u1 u0 (0 : Int) (0 : Int))).1) ∧
 True))))))) ∧
   (∀ (v0 : (Int × List Int) × Nat), ((Option.bind (iter (G_Sums_b0 (val (y3 u1 u0 (0 : Int) (0 : Int)))) v0.2 v0.1) fun y0 => Option.bind (G_Sums_r0 (val (y3 u1 u0 (0 : Int) (0 : Int))) y0) some) = some r →
 Br (decide (v0.1.1 < (↑(List.length (val (y3 u1 u0 (0 : Int) (0 : Int))).1) : Int)))
   ((Ob ((0 : Int) ≤ v0.1.1 ∧ v0.1.1 < (↑(List.length (val (y3 u1 u0 (0 : Int) (0 : Int))).1) : Int)) ∧
 (Ob (Int.toNat v0.1.1 < List.length (val (y3 u1 u0 (0 : Int) (0 : Int))).1) ∧
 (Ob ((List.length v0.1.2 + List.length [List.getD (List.getD (val (y3 u1 u0 (0 : Int) (0 : Int))).1 (Int.toNat v0.1.1) []) (0 : Nat) (0 : Int)]) * (8 : Nat) ≤ (140737488355328 : Nat) ∧ List.length v0.1.2 + List.length [List.getD (List.getD (val (y3 u1 u0 (0 : Int) (0 : Int))).1 (Int.toNat v0.1.1) []) (0 : Nat) (0 : Int)] ≤ (9223372036854775807 : Nat)) ∧
   (∃ (v1 : (Int × List Int) × Nat), (Ob ((Option.bind (iter (G_Sums_b0 (val (y3 u1 u0 (0 : Int) (0 : Int)))) v1.2 v1.1) fun y0 => Option.bind (G_Sums_r0 (val (y3 u1 u0 (0 : Int) (0 : Int))) y0) some) = some r) ∧
 (Ob (v1.2 < v0.2) ∧
 (Ob ((val (y3 u1 u0 (0 : Int) (0 : Int))).2 = (val (y3 u1 u0 (0 : Int) (0 : Int))).2) ∧
 (Ob ((↑(List.length (val (y3 u1 u0 (0 : Int) (0 : Int))).1) : Int) = (↑(List.length (val (y3 u1 u0 (0 : Int) (0 : Int))).1) : Int)) ∧
 (Ob (IntKind.wrap .i64 (v0.1.1 + (1 : Int)) = v1.1.1) ∧
 (Ob (v0.1.2 ++ [List.getD (List.getD (val (y3 u1 u0 (0 : Int) (0 : Int))).1 (Int.toNat v0.1.1) []) (0 : Nat) (0 : Int)] = v1.1.2) ∧
 (Ob ((val (y3 u1 u0 (0 : Int) (0 : Int))).1 = (val (y3 u1 u0 (0 : Int) (0 : Int))).1) ∧
 True))))))))))))
   ((Ob (True) ∧
 (Ob (True) ∧
 (Ob (v0.1.2 = r.1) ∧
 (Ob ((val (y3 u1 u0 (0 : Int) (0 : Int))).2 = r.2) ∧
 True)))))))))) = _) ?_
  refine call_s h fun h => ?_
  refine ⟨⟨(((0 : Int), []), big), ⟨loop_s h⟩, (by repeat' (first | exact trivial | exact ⟨rfl⟩ | refine And.intro ?_ ?_))⟩, fun z1 hz1 => ?_⟩
  obtain ⟨k1, hm1, h⟩ := iter_pos hz1
  refine br_d h (fun h => ?_) (fun h => ?_)
  · refine ob_s h fun h => ?_
    refine ob_s h fun h => ?_
    refine ob_s h fun h => ?_
    exact ⟨((IntKind.wrap .i64 ((Prod.fst z1).1 + (1 : Int)), (Prod.fst z1).2 ++ [List.getD (List.getD (val (y3 u1 u0 (0 : Int) (0 : Int))).1 (Int.toNat (Prod.fst z1).1) []) (0 : Nat) (0 : Int)]), k1), ⟨next_s h⟩, ⟨lt_gs hm1.symm⟩, (by repeat' (first | exact trivial | exact ⟨rfl⟩ | refine And.intro ?_ ?_))⟩
  · have h := exit_s h
    refine ob_t ?_
    refine ob_t ?_
    exact ret_s h (fun e => by subst e; exact (by repeat' (first | exact trivial | exact ⟨rfl⟩ | refine And.intro ?_ ?_)))
set_option maxRecDepth 100000 in
theorem G_Sums_ok : SpecOK Tryz.prog 53 true (pureT k_G_Sums g_G_Sums) := by
  refine pureT_ok (sp := (sp_54 sp0)) (fn := Tryz.f53) (body := bodyOf Tryz.f53) mixed (sp_54_ok sp0_ok) Tryz.func53 (by kernel_rfl) (by kernel_rfl) fun ls t h ho b hb => ?_
  unfold g_G_Sums at h
  split at h
  · rename_i u1 u0
    cases h
    obtain rfl := bld_eq hb
    exact ⟨Nat.le_of_ble_eq_true (by kernel_rfl), _, _, G_Sums_vc u1 u0 _ (ok_some ho)⟩
  · cases h
theorem sp_53_ok {sp : Specs} (h : SpecsOK Tryz.prog sp) : SpecsOK Tryz.prog (sp_53 sp) := addK_ok G_Sums_ok h
end Go.Sh
end

section
namespace Go.Sh
open Go Go.Proofs Go.RowKit Go.Sx Go.Sx06 Ieee Go.Fl
theorem ask_zok {rate : Int} {l : List Nat} {noise tail : Int} (h : (askE rate l noise tail).2 = 0) : ZOK (zsO noise l) tail ∧ (8000 ≤ rate ∧ rate ≤ 192000) ∧ (∀ x ∈ l, se x = 0) ∧ l.length ≤ 1024 ∧ (0 ≤ noise ∧ noise ≤ 32767) ∧ (0 ≤ tail ∧ tail ≤ 1000000000000) ∧ 0 < l.length := by
  obtain ⟨hr, hn, ht⟩ := askE_zero h
  obtain ⟨h1, h2, h3, h4⟩ := resE_zero hr
  exact ⟨⟨by rw [zsO_len]; omega, zsO_ok hn h4, ht⟩, h1, h4, h3, hn, ht, h2⟩
theorem bne_t {a : Int} (h : a ≠ 0) : (a != (0 : Int)) = true := by simpa using h
theorem bne_f {a : Int} (h : a = 0) : (a != (0 : Int)) = false := by rw [h]; rfl
section
variable {zs : List (List Int)} {T f : Int} {rate noise tl : Int} {l : List Nat}
end
def fewB (l : List Nat) : Bool := decide (l.length ≤ 700 ∨ (1024 < l.length ∧ l.length ≤ 1026))
theorem few_eq (rate : Int) (l : List Nat) : L05_Few rate l = some (fewB l) := by
  unfold L05_Few fewB
  by_cases h : l.length ≤ 700
  · rw [if_pos (by omega), decide_eq_true (show _ ∨ _ from .inl h)]
  · rw [if_neg (by omega)]
    by_cases h2 : 1024 < l.length
    · rw [if_pos (by omega)]
      congr 1
      rw [decide_eq_decide]
      omega
    · rw [if_neg (by omega), decide_eq_false (by omega)]
theorem beq_f {a b : Int} (h : a ≠ b) : (a == b) = false := by simpa using h
theorem few_len {l : List Nat} (h : fewB l = true) : l.length < 1000000000000 := by
  unfold fewB at h
  simp only [decide_eq_true_eq] at h
  omega
theorem copyResponse_eq (rate : Int) {l : List Nat} (h : l.length < 1000000000000) : y38 rate l = some (rate, l) := by
  unfold y38
  rw [if_pos (by omega), List.nil_append]
end Go.Sh
end

section
namespace Go.Sh
open Go Go.Proofs Go.RowKit Go.Sx Go.Sx06 Ieee Go.Fl
end Go.Sh
end

section
namespace Go.Sh
open Go Go.Proofs Go.RowKit Go.Sx
set_option linter.unusedVariables false
def k_math_bits_Len64 : List (Option Cont) := [none]
def y76 (x_ : Int) : Option Int :=
  if x_ ≥ (4294967296 : Int) then
   if Int.fdiv x_ ((2 : Int) ^ min (32 : Nat) (IntKind.bits .u64)) ≥ (65536 : Int) then
    if Int.fdiv (Int.fdiv x_ ((2 : Int) ^ min (32 : Nat) (IntKind.bits .u64))) ((2 : Int) ^ min (16 : Nat) (IntKind.bits .u64)) ≥ (256 : Int) then
     if (0 : Int) ≤ IntKind.wrap .u8 (Int.fdiv (Int.fdiv (Int.fdiv x_ ((2 : Int) ^ min (32 : Nat) (IntKind.bits .u64))) ((2 : Int) ^ min (16 : Nat) (IntKind.bits .u64))) ((2 : Int) ^ min (8 : Nat) (IntKind.bits .u64))) ∧ IntKind.wrap .u8 (Int.fdiv (Int.fdiv (Int.fdiv x_ ((2 : Int) ^ min (32 : Nat) (IntKind.bits .u64))) ((2 : Int) ^ min (16 : Nat) (IntKind.bits .u64))) ((2 : Int) ^ min (8 : Nat) (IntKind.bits .u64))) < (↑(ByteArray.size tab8) : Int) then
      some (IntKind.wrap .i64 (IntKind.wrap .i64 (IntKind.wrap .i64 ((32 : Int) + (16 : Int)) + (8 : Int)) + IntKind.wrap .i64 (↑(UInt8.toNat (Array.getD (ByteArray.data tab8) (Int.toNat (IntKind.wrap .u8 (Int.fdiv (Int.fdiv (Int.fdiv x_ ((2 : Int) ^ min (32 : Nat) (IntKind.bits .u64))) ((2 : Int) ^ min (16 : Nat) (IntKind.bits .u64))) ((2 : Int) ^ min (8 : Nat) (IntKind.bits .u64))))) (0 : UInt8))) : Int)))
     else none
    else
     if (0 : Int) ≤ IntKind.wrap .u8 (Int.fdiv (Int.fdiv x_ ((2 : Int) ^ min (32 : Nat) (IntKind.bits .u64))) ((2 : Int) ^ min (16 : Nat) (IntKind.bits .u64))) ∧ IntKind.wrap .u8 (Int.fdiv (Int.fdiv x_ ((2 : Int) ^ min (32 : Nat) (IntKind.bits .u64))) ((2 : Int) ^ min (16 : Nat) (IntKind.bits .u64))) < (↑(ByteArray.size tab8) : Int) then
      some (IntKind.wrap .i64 (IntKind.wrap .i64 ((32 : Int) + (16 : Int)) + IntKind.wrap .i64 (↑(UInt8.toNat (Array.getD (ByteArray.data tab8) (Int.toNat (IntKind.wrap .u8 (Int.fdiv (Int.fdiv x_ ((2 : Int) ^ min (32 : Nat) (IntKind.bits .u64))) ((2 : Int) ^ min (16 : Nat) (IntKind.bits .u64))))) (0 : UInt8))) : Int)))
     else none
   else
    if Int.fdiv x_ ((2 : Int) ^ min (32 : Nat) (IntKind.bits .u64)) ≥ (256 : Int) then
     if (0 : Int) ≤ IntKind.wrap .u8 (Int.fdiv (Int.fdiv x_ ((2 : Int) ^ min (32 : Nat) (IntKind.bits .u64))) ((2 : Int) ^ min (8 : Nat) (IntKind.bits .u64))) ∧ IntKind.wrap .u8 (Int.fdiv (Int.fdiv x_ ((2 : Int) ^ min (32 : Nat) (IntKind.bits .u64))) ((2 : Int) ^ min (8 : Nat) (IntKind.bits .u64))) < (↑(ByteArray.size tab8) : Int) then
      some (IntKind.wrap .i64 (IntKind.wrap .i64 ((32 : Int) + (8 : Int)) + IntKind.wrap .i64 (↑(UInt8.toNat (Array.getD (ByteArray.data tab8) (Int.toNat (IntKind.wrap .u8 (Int.fdiv (Int.fdiv x_ ((2 : Int) ^ min (32 : Nat) (IntKind.bits .u64))) ((2 : Int) ^ min (8 : Nat) (IntKind.bits .u64))))) (0 : UInt8))) : Int)))
     else none
    else
     if (0 : Int) ≤ IntKind.wrap .u8 (Int.fdiv x_ ((2 : Int) ^ min (32 : Nat) (IntKind.bits .u64))) ∧ IntKind.wrap .u8 (Int.fdiv x_ ((2 : Int) ^ min (32 : Nat) (IntKind.bits .u64))) < (↑(ByteArray.size tab8) : Int) then
      some (IntKind.wrap .i64 ((32 : Int) + IntKind.wrap .i64 (↑(UInt8.toNat (Array.getD (ByteArray.data tab8) (Int.toNat (IntKind.wrap .u8 (Int.fdiv x_ ((2 : Int) ^ min (32 : Nat) (IntKind.bits .u64))))) (0 : UInt8))) : Int)))
     else none
  else
   if x_ ≥ (65536 : Int) then
    if Int.fdiv x_ ((2 : Int) ^ min (16 : Nat) (IntKind.bits .u64)) ≥ (256 : Int) then
     if (0 : Int) ≤ IntKind.wrap .u8 (Int.fdiv (Int.fdiv x_ ((2 : Int) ^ min (16 : Nat) (IntKind.bits .u64))) ((2 : Int) ^ min (8 : Nat) (IntKind.bits .u64))) ∧ IntKind.wrap .u8 (Int.fdiv (Int.fdiv x_ ((2 : Int) ^ min (16 : Nat) (IntKind.bits .u64))) ((2 : Int) ^ min (8 : Nat) (IntKind.bits .u64))) < (↑(ByteArray.size tab8) : Int) then
      some (IntKind.wrap .i64 (IntKind.wrap .i64 (IntKind.wrap .i64 ((0 : Int) + (16 : Int)) + (8 : Int)) + IntKind.wrap .i64 (↑(UInt8.toNat (Array.getD (ByteArray.data tab8) (Int.toNat (IntKind.wrap .u8 (Int.fdiv (Int.fdiv x_ ((2 : Int) ^ min (16 : Nat) (IntKind.bits .u64))) ((2 : Int) ^ min (8 : Nat) (IntKind.bits .u64))))) (0 : UInt8))) : Int)))
     else none
    else
     if (0 : Int) ≤ IntKind.wrap .u8 (Int.fdiv x_ ((2 : Int) ^ min (16 : Nat) (IntKind.bits .u64))) ∧ IntKind.wrap .u8 (Int.fdiv x_ ((2 : Int) ^ min (16 : Nat) (IntKind.bits .u64))) < (↑(ByteArray.size tab8) : Int) then
      some (IntKind.wrap .i64 (IntKind.wrap .i64 ((0 : Int) + (16 : Int)) + IntKind.wrap .i64 (↑(UInt8.toNat (Array.getD (ByteArray.data tab8) (Int.toNat (IntKind.wrap .u8 (Int.fdiv x_ ((2 : Int) ^ min (16 : Nat) (IntKind.bits .u64))))) (0 : UInt8))) : Int)))
     else none
   else
    if x_ ≥ (256 : Int) then
     if (0 : Int) ≤ IntKind.wrap .u8 (Int.fdiv x_ ((2 : Int) ^ min (8 : Nat) (IntKind.bits .u64))) ∧ IntKind.wrap .u8 (Int.fdiv x_ ((2 : Int) ^ min (8 : Nat) (IntKind.bits .u64))) < (↑(ByteArray.size tab8) : Int) then
      some (IntKind.wrap .i64 (IntKind.wrap .i64 ((0 : Int) + (8 : Int)) + IntKind.wrap .i64 (↑(UInt8.toNat (Array.getD (ByteArray.data tab8) (Int.toNat (IntKind.wrap .u8 (Int.fdiv x_ ((2 : Int) ^ min (8 : Nat) (IntKind.bits .u64))))) (0 : UInt8))) : Int)))
     else none
    else
     if (0 : Int) ≤ IntKind.wrap .u8 x_ ∧ IntKind.wrap .u8 x_ < (↑(ByteArray.size tab8) : Int) then
      some (IntKind.wrap .i64 ((0 : Int) + IntKind.wrap .i64 (↑(UInt8.toNat (Array.getD (ByteArray.data tab8) (Int.toNat (IntKind.wrap .u8 x_)) (0 : UInt8))) : Int)))
     else none
def y133 : List A → Option (Prop × List RV)
  | [.d (.i .u64 x_)] => some (ok (y76 x_), [.d (.i .i64 ((val (y76 x_))))])
  | _ => none
abbrev sp_166 : Specs → Specs := addK 166 true (pureK k_math_bits_Len64 y133)
set_option maxRecDepth 100000 in
theorem math_bits_Len64_vc (x_ : Int) (r : Int) (h : Option.bind (y76 x_) some = some r) : runF Tryz.f166 (sp0) (fun _ _ _ => none) [.d (.i .u64 x_)] [.d (.i .i64 r)] := by
  refine Eq.mp (by kernel_rfl : (
 Br (decide (x_ ≥ (4294967296 : Int)))
   ((Ob ((0 : Int) ≤ (32 : Int)) ∧
 Br (decide (Int.fdiv x_ ((2 : Int) ^ min (32 : Nat) (IntKind.bits .u64)) ≥ (65536 : Int)))
   ((Ob ((0 : Int) ≤ (16 : Int)) ∧
 Br (decide (Int.fdiv (Int.fdiv x_ ((2 : Int) ^ min (32 : Nat) (IntKind.bits .u64))) ((2 : Int) ^ min (16 : Nat) (IntKind.bits .u64)) ≥ (256 : Int)))
   ((Ob ((0 : Int) ≤ (8 : Int)) ∧
 (Ob (True) ∧
 (Ob ((0 : Int) ≤ IntKind.wrap .u8 (Int.fdiv (Int.fdiv (Int.fdiv x_ ((2 : Int) ^ min (32 : Nat) (IntKind.bits .u64))) ((2 : Int) ^ min (16 : Nat) (IntKind.bits .u64))) ((2 : Int) ^ min (8 : Nat) (IntKind.bits .u64))) ∧ IntKind.wrap .u8 (Int.fdiv (Int.fdiv (Int.fdiv x_ ((2 : Int) ^ min (32 : Nat) (IntKind.bits .u64))) ((2 : Int) ^ min (16 : Nat) (IntKind.bits .u64))) ((2 : Int) ^ min (8 : Nat) (IntKind.bits .u64))) < (↑(ByteArray.size tab8) : Int)) ∧
 (Ob (True) ∧
 (Ob (True) ∧
 (Ob (IntKind.wrap .i64 (IntKind.wrap .i64 (IntKind.wrap .i64 ((32 : Int) + (16 : Int)) + (8 : Int)) + IntKind.wrap .i64 (↑(UInt8.toNat (Array.getD (ByteArray.data tab8) (Int.toNat (IntKind.wrap .u8 (Int.fdiv (Int.fdiv (Int.fdiv x_ ((2 : Int) ^ min (32 : Nat) (IntKind.bits .u64))) ((2 : Int) ^ min (16 : Nat) (IntKind.bits .u64))) ((2 : Int) ^ min (8 : Nat) (IntKind.bits .u64))))) (0 : UInt8))) : Int)) = r) ∧
 True)))))))
   ((Ob (True) ∧
 (Ob ((0 : Int) ≤ IntKind.wrap .u8 (Int.fdiv (Int.fdiv x_ ((2 : Int) ^ min (32 : Nat) (IntKind.bits .u64))) ((2 : Int) ^ min (16 : Nat) (IntKind.bits .u64))) ∧ IntKind.wrap .u8 (Int.fdiv (Int.fdiv x_ ((2 : Int) ^ min (32 : Nat) (IntKind.bits .u64))) ((2 : Int) ^ min (16 : Nat) (IntKind.bits .u64))) < (↑(ByteArray.size tab8) : Int)) ∧
 (Ob (True) ∧
 (Ob (True) ∧
 (Ob (IntKind.wrap .i64 (IntKind.wrap .i64 ((32 : Int) + (16 : Int)) + IntKind.wrap .i64 (↑(UInt8.toNat (Array.getD (ByteArray.data tab8) (Int.toNat (IntKind.wrap .u8 (Int.fdiv (Int.fdiv x_ ((2 : Int) ^ min (32 : Nat) (IntKind.bits .u64))) ((2 : Int) ^ min (16 : Nat) (IntKind.bits .u64))))) (0 : UInt8))) : Int)) = r) ∧
 True))))))))
 (Br (decide (Int.fdiv x_ ((2 : Int) ^ min (32 : Nat) (IntKind.bits .u64)) ≥ (256 : Int)))
   ((Ob ((0 : Int) ≤ (8 : Int)) ∧
 (Ob (True) ∧
 (Ob ((0 : Int) ≤ IntKind.wrap .u8 (Int.fdiv (Int.fdiv x_ ((2 : Int) ^ min (32 : Nat) (IntKind.bits .u64))) ((2 : Int) ^ min (8 : Nat) (IntKind.bits .u64))) ∧ IntKind.wrap .u8 (Int.fdiv (Int.fdiv x_ ((2 : Int) ^ min (32 : Nat) (IntKind.bits .u64))) ((2 : Int) ^ min (8 : Nat) (IntKind.bits .u64))) < (↑(ByteArray.size tab8) : Int)) ∧
 (Ob (True) ∧
 (Ob (True) ∧
 (Ob (IntKind.wrap .i64 (IntKind.wrap .i64 ((32 : Int) + (8 : Int)) + IntKind.wrap .i64 (↑(UInt8.toNat (Array.getD (ByteArray.data tab8) (Int.toNat (IntKind.wrap .u8 (Int.fdiv (Int.fdiv x_ ((2 : Int) ^ min (32 : Nat) (IntKind.bits .u64))) ((2 : Int) ^ min (8 : Nat) (IntKind.bits .u64))))) (0 : UInt8))) : Int)) = r) ∧
 True)))))))
   ((Ob (True) ∧
 (Ob ((0 : Int) ≤ IntKind.wrap .u8 (Int.fdiv x_ ((2 : Int) ^ min (32 : Nat) (IntKind.bits .u64))) ∧ IntKind.wrap .u8 (Int.fdiv x_ ((2 : Int) ^ min (32 : Nat) (IntKind.bits .u64))) < (↑(ByteArray.size tab8) : Int)) ∧
 (Ob (True) ∧
 (Ob (True) ∧
 (Ob (IntKind.wrap .i64 ((32 : Int) + IntKind.wrap .i64 (↑(UInt8.toNat (Array.getD (ByteArray.data tab8) (Int.toNat (IntKind.wrap .u8 (Int.fdiv x_ ((2 : Int) ^ min (32 : Nat) (IntKind.bits .u64))))) (0 : UInt8))) : Int)) = r) ∧
 True)))))))))
 (Br (decide (x_ ≥ (65536 : Int)))
   ((Ob ((0 : Int) ≤ (16 : Int)) ∧
 Br (decide (Int.fdiv x_ ((2 : Int) ^ min (16 : Nat) (IntKind.bits .u64)) ≥ (256 : Int)))
   ((Ob ((0 : Int) ≤ (8 : Int)) ∧
 (Ob (True) ∧
 (Ob ((0 : Int) ≤ IntKind.wrap .u8 (Int.fdiv (Int.fdiv x_ ((2 : Int) ^ min (16 : Nat) (IntKind.bits .u64))) ((2 : Int) ^ min (8 : Nat) (IntKind.bits .u64))) ∧ IntKind.wrap .u8 (Int.fdiv (Int.fdiv x_ ((2 : Int) ^ min (16 : Nat) (IntKind.bits .u64))) ((2 : Int) ^ min (8 : Nat) (IntKind.bits .u64))) < (↑(ByteArray.size tab8) : Int)) ∧
 (Ob (True) ∧
 (Ob (True) ∧
 (Ob (IntKind.wrap .i64 (IntKind.wrap .i64 (IntKind.wrap .i64 ((0 : Int) + (16 : Int)) + (8 : Int)) + IntKind.wrap .i64 (↑(UInt8.toNat (Array.getD (ByteArray.data tab8) (Int.toNat (IntKind.wrap .u8 (Int.fdiv (Int.fdiv x_ ((2 : Int) ^ min (16 : Nat) (IntKind.bits .u64))) ((2 : Int) ^ min (8 : Nat) (IntKind.bits .u64))))) (0 : UInt8))) : Int)) = r) ∧
 True)))))))
   ((Ob (True) ∧
 (Ob ((0 : Int) ≤ IntKind.wrap .u8 (Int.fdiv x_ ((2 : Int) ^ min (16 : Nat) (IntKind.bits .u64))) ∧ IntKind.wrap .u8 (Int.fdiv x_ ((2 : Int) ^ min (16 : Nat) (IntKind.bits .u64))) < (↑(ByteArray.size tab8) : Int)) ∧
 (Ob (True) ∧
 (Ob (True) ∧
 (Ob (IntKind.wrap .i64 (IntKind.wrap .i64 ((0 : Int) + (16 : Int)) + IntKind.wrap .i64 (↑(UInt8.toNat (Array.getD (ByteArray.data tab8) (Int.toNat (IntKind.wrap .u8 (Int.fdiv x_ ((2 : Int) ^ min (16 : Nat) (IntKind.bits .u64))))) (0 : UInt8))) : Int)) = r) ∧
 True))))))))
 (Br (decide (x_ ≥ (256 : Int)))
   ((Ob ((0 : Int) ≤ (8 : Int)) ∧
 (Ob (True) ∧
 (Ob ((0 : Int) ≤ IntKind.wrap .u8 (Int.fdiv x_ ((2 : Int) ^ min (8 : Nat) (IntKind.bits .u64))) ∧ IntKind.wrap .u8 (Int.fdiv x_ ((2 : Int) ^ min (8 : Nat) (IntKind.bits .u64))) < (↑(ByteArray.size tab8) : Int)) ∧
 (Ob (True) ∧
 (Ob (True) ∧
 (Ob (IntKind.wrap .i64 (IntKind.wrap .i64 ((0 : Int) + (8 : Int)) + IntKind.wrap .i64 (↑(UInt8.toNat (Array.getD (ByteArray.data tab8) (Int.toNat (IntKind.wrap .u8 (Int.fdiv x_ ((2 : Int) ^ min (8 : Nat) (IntKind.bits .u64))))) (0 : UInt8))) : Int)) = r) ∧
 True)))))))
   ((Ob (True) ∧
 (Ob ((0 : Int) ≤ IntKind.wrap .u8 x_ ∧ IntKind.wrap .u8 x_ < (↑(ByteArray.size tab8) : Int)) ∧
 (Ob (True) ∧
 (Ob (True) ∧
 (Ob (IntKind.wrap .i64 ((0 : Int) + IntKind.wrap .i64 (↑(UInt8.toNat (Array.getD (ByteArray.data tab8) (Int.toNat (IntKind.wrap .u8 x_)) (0 : UInt8))) : Int)) = r) ∧
 True))))))))) = _) ?_
  refine br_d h (fun h => ?_) (fun h => ?_)
  · refine ob_c (p := (0 : Int) ≤ (32 : Int)) (by decide) ?_
    refine br_d h (fun h => ?_) (fun h => ?_)
    · refine ob_c (p := (0 : Int) ≤ (16 : Int)) (by decide) ?_
      refine br_d h (fun h => ?_) (fun h => ?_)
      · refine ob_c (p := (0 : Int) ≤ (8 : Int)) (by decide) ?_
        refine ob_t ?_
        refine ob_s h fun h => ?_
        refine ob_t ?_
        refine ob_t ?_
        exact ret_s h (fun e => by subst e; exact (by repeat' (first | exact trivial | exact ⟨rfl⟩ | refine And.intro ?_ ?_)))
      · refine ob_t ?_
        refine ob_s h fun h => ?_
        refine ob_t ?_
        refine ob_t ?_
        exact ret_s h (fun e => by subst e; exact (by repeat' (first | exact trivial | exact ⟨rfl⟩ | refine And.intro ?_ ?_)))
    · refine br_d h (fun h => ?_) (fun h => ?_)
      · refine ob_c (p := (0 : Int) ≤ (8 : Int)) (by decide) ?_
        refine ob_t ?_
        refine ob_s h fun h => ?_
        refine ob_t ?_
        refine ob_t ?_
        exact ret_s h (fun e => by subst e; exact (by repeat' (first | exact trivial | exact ⟨rfl⟩ | refine And.intro ?_ ?_)))
      · refine ob_t ?_
        refine ob_s h fun h => ?_
        refine ob_t ?_
        refine ob_t ?_
        exact ret_s h (fun e => by subst e; exact (by repeat' (first | exact trivial | exact ⟨rfl⟩ | refine And.intro ?_ ?_)))
  · refine br_d h (fun h => ?_) (fun h => ?_)
    · refine ob_c (p := (0 : Int) ≤ (16 : Int)) (by decide) ?_
      refine br_d h (fun h => ?_) (fun h => ?_)
      · refine ob_c (p := (0 : Int) ≤ (8 : Int)) (by decide) ?_
        refine ob_t ?_
        refine ob_s h fun h => ?_
        refine ob_t ?_
        refine ob_t ?_
        exact ret_s h (fun e => by subst e; exact (by repeat' (first | exact trivial | exact ⟨rfl⟩ | refine And.intro ?_ ?_)))
      · refine ob_t ?_
        refine ob_s h fun h => ?_
        refine ob_t ?_
        refine ob_t ?_
        exact ret_s h (fun e => by subst e; exact (by repeat' (first | exact trivial | exact ⟨rfl⟩ | refine And.intro ?_ ?_)))
    · refine br_d h (fun h => ?_) (fun h => ?_)
      · refine ob_c (p := (0 : Int) ≤ (8 : Int)) (by decide) ?_
        refine ob_t ?_
        refine ob_s h fun h => ?_
        refine ob_t ?_
        refine ob_t ?_
        exact ret_s h (fun e => by subst e; exact (by repeat' (first | exact trivial | exact ⟨rfl⟩ | refine And.intro ?_ ?_)))
      · refine ob_t ?_
        refine ob_s h fun h => ?_
        refine ob_t ?_
        refine ob_t ?_
        exact ret_s h (fun e => by subst e; exact (by repeat' (first | exact trivial | exact ⟨rfl⟩ | refine And.intro ?_ ?_)))
set_option maxRecDepth 100000 in
theorem math_bits_Len64_ok : SpecOK Tryz.prog 166 true (pureK k_math_bits_Len64 y133) := by
  refine pureK_ok (sp := sp0) (fn := Tryz.f166) (body := bodyOf Tryz.f166) mixed sp0_ok Tryz.func166 (by kernel_rfl) (by kernel_rfl) fun as_ ob rs h ho => ?_
  unfold y133 at h
  split at h
  · rename_i x_
    cases h
    exact ⟨Nat.le_of_ble_eq_true rfl, _, _, math_bits_Len64_vc x_ _ (ok_some ho)⟩
  · cases h
theorem sp_166_ok {sp : Specs} (h : SpecsOK Tryz.prog sp) : SpecsOK Tryz.prog (sp_166 sp) := addK_ok math_bits_Len64_ok h
def y102 : List (Option Cont) := [none]
def y7 (x_ : Int) : Option Int :=
  Option.bind (y76 x_) fun r0 =>
  some (IntKind.wrap .i64 ((64 : Int) - r0))
def y79 : List A → Option (Prop × List RV)
  | [.d (.i .u64 x_)] => some (ok (y7 x_), [.d (.i .i64 ((val (y7 x_))))])
  | _ => none
abbrev sp_150 : Specs → Specs := addK 150 true (pureK y102 y79)
set_option maxRecDepth 100000 in
theorem y174 (x_ : Int) (r : Int) (h : Option.bind (y7 x_) some = some r) : runF Tryz.f150 ((sp_166 sp0)) (fun _ _ _ => none) [.d (.i .u64 x_)] [.d (.i .i64 r)] := by
  refine Eq.mp (by kernel_rfl : (
 (Ob (ok (y76 x_)) ∧
 (Ob (True) ∧
 (Ob (IntKind.wrap .i64 ((64 : Int) - val (y76 x_)) = r) ∧
 True)))) = _) ?_
  refine call_s h fun h => ?_
  refine ob_t ?_
  exact ret_s h (fun e => by subst e; exact (by repeat' (first | exact trivial | exact ⟨rfl⟩ | refine And.intro ?_ ?_)))
set_option maxRecDepth 100000 in
theorem y175 : SpecOK Tryz.prog 150 true (pureK y102 y79) := by
  refine pureK_ok (sp := (sp_166 sp0)) (fn := Tryz.f150) (body := bodyOf Tryz.f150) mixed (sp_166_ok sp0_ok) Tryz.func150 (by kernel_rfl) (by kernel_rfl) fun as_ ob rs h ho => ?_
  unfold y79 at h
  split at h
  · rename_i x_
    cases h
    exact ⟨Nat.le_of_ble_eq_true rfl, _, _, y174 x_ _ (ok_some ho)⟩
  · cases h
theorem sp_150_ok {sp : Specs} (h : SpecsOK Tryz.prog sp) : SpecsOK Tryz.prog (sp_150 sp) := addK_ok y175 h
def k_math_bits_Div64 : List (Option Cont) := [none, none, none]
def y52 (lo : Int) (y_ : Int) (r0 : Int) (x0 : (Int × Int)) : Option ((Int × Int) ⊕ Int) :=
  if x0.1 ≥ (4294967296 : Int) then
   if IntKind.wrap .u64 (x0.2 + Int.fdiv (IntKind.wrap .u64 (y_ * (2 : Int) ^ min (Int.toNat (IntKind.wrap .u64 r0)) (IntKind.bits .u64))) ((2 : Int) ^ min (32 : Nat) (IntKind.bits .u64))) ≥ (4294967296 : Int) then
    some (.inr (IntKind.wrap .u64 (x0.1 - (1 : Int))))
   else
    some (.inl ((IntKind.wrap .u64 (x0.1 - (1 : Int)), IntKind.wrap .u64 (x0.2 + Int.fdiv (IntKind.wrap .u64 (y_ * (2 : Int) ^ min (Int.toNat (IntKind.wrap .u64 r0)) (IntKind.bits .u64))) ((2 : Int) ^ min (32 : Nat) (IntKind.bits .u64))))))
  else
   if IntKind.wrap .u64 (x0.1 * IntKind.wrap .u64 (↑(BitVec.toNat (BitVec.ofInt (IntKind.bits .u64) (IntKind.wrap .u64 (y_ * (2 : Int) ^ min (Int.toNat (IntKind.wrap .u64 r0)) (IntKind.bits .u64))) &&& BitVec.ofInt (IntKind.bits .u64) (4294967295 : Int))) : Int)) > IntKind.wrap .u64 (IntKind.wrap .u64 ((4294967296 : Int) * x0.2) + Int.fdiv (IntKind.wrap .u64 (lo * (2 : Int) ^ min (Int.toNat (IntKind.wrap .u64 r0)) (IntKind.bits .u64))) ((2 : Int) ^ min (32 : Nat) (IntKind.bits .u64))) then
    if IntKind.wrap .u64 (x0.2 + Int.fdiv (IntKind.wrap .u64 (y_ * (2 : Int) ^ min (Int.toNat (IntKind.wrap .u64 r0)) (IntKind.bits .u64))) ((2 : Int) ^ min (32 : Nat) (IntKind.bits .u64))) ≥ (4294967296 : Int) then
     some (.inr (IntKind.wrap .u64 (x0.1 - (1 : Int))))
    else
     some (.inl ((IntKind.wrap .u64 (x0.1 - (1 : Int)), IntKind.wrap .u64 (x0.2 + Int.fdiv (IntKind.wrap .u64 (y_ * (2 : Int) ^ min (Int.toNat (IntKind.wrap .u64 r0)) (IntKind.bits .u64))) ((2 : Int) ^ min (32 : Nat) (IntKind.bits .u64))))))
   else
    some (.inr x0.1)
def y9 (lo : Int) (y_ : Int) (r0 : Int) (x1 : (Int × Int)) : Option ((Int × Int) ⊕ Int) :=
  if x1.2 ≥ (4294967296 : Int) then
   if IntKind.wrap .u64 (x1.1 + Int.fdiv (IntKind.wrap .u64 (y_ * (2 : Int) ^ min (Int.toNat (IntKind.wrap .u64 r0)) (IntKind.bits .u64))) ((2 : Int) ^ min (32 : Nat) (IntKind.bits .u64))) ≥ (4294967296 : Int) then
    some (.inr (IntKind.wrap .u64 (x1.2 - (1 : Int))))
   else
    some (.inl ((IntKind.wrap .u64 (x1.1 + Int.fdiv (IntKind.wrap .u64 (y_ * (2 : Int) ^ min (Int.toNat (IntKind.wrap .u64 r0)) (IntKind.bits .u64))) ((2 : Int) ^ min (32 : Nat) (IntKind.bits .u64))), IntKind.wrap .u64 (x1.2 - (1 : Int)))))
  else
   if IntKind.wrap .u64 (x1.2 * IntKind.wrap .u64 (↑(BitVec.toNat (BitVec.ofInt (IntKind.bits .u64) (IntKind.wrap .u64 (y_ * (2 : Int) ^ min (Int.toNat (IntKind.wrap .u64 r0)) (IntKind.bits .u64))) &&& BitVec.ofInt (IntKind.bits .u64) (4294967295 : Int))) : Int)) > IntKind.wrap .u64 (IntKind.wrap .u64 ((4294967296 : Int) * x1.1) + IntKind.wrap .u64 (↑(BitVec.toNat (BitVec.ofInt (IntKind.bits .u64) (IntKind.wrap .u64 (lo * (2 : Int) ^ min (Int.toNat (IntKind.wrap .u64 r0)) (IntKind.bits .u64))) &&& BitVec.ofInt (IntKind.bits .u64) (4294967295 : Int))) : Int)) then
    if IntKind.wrap .u64 (x1.1 + Int.fdiv (IntKind.wrap .u64 (y_ * (2 : Int) ^ min (Int.toNat (IntKind.wrap .u64 r0)) (IntKind.bits .u64))) ((2 : Int) ^ min (32 : Nat) (IntKind.bits .u64))) ≥ (4294967296 : Int) then
     some (.inr (IntKind.wrap .u64 (x1.2 - (1 : Int))))
    else
     some (.inl ((IntKind.wrap .u64 (x1.1 + Int.fdiv (IntKind.wrap .u64 (y_ * (2 : Int) ^ min (Int.toNat (IntKind.wrap .u64 r0)) (IntKind.bits .u64))) ((2 : Int) ^ min (32 : Nat) (IntKind.bits .u64))), IntKind.wrap .u64 (x1.2 - (1 : Int)))))
   else
    some (.inr x1.2)
def y10 (hi : Int) (lo : Int) (y_ : Int) (u15 : Int) (r0 : Int) (u61 : Int) : Option (Int × Int) :=
  if (0 : Int) ≤ IntKind.wrap .u64 r0 then
   some ((IntKind.wrap .u64 (IntKind.wrap .u64 (u15 * (4294967296 : Int)) + u61), Int.fdiv (IntKind.wrap .u64 (IntKind.wrap .u64 (IntKind.wrap .u64 (IntKind.wrap .u64 (IntKind.wrap .u64 (IntKind.wrap .u64 (IntKind.wrap .u64 (↑(BitVec.toNat (BitVec.ofInt (IntKind.bits .u64) (IntKind.wrap .u64 (hi * (2 : Int) ^ min (Int.toNat (IntKind.wrap .u64 r0)) (IntKind.bits .u64))) ||| BitVec.ofInt (IntKind.bits .u64) (Int.fdiv lo ((2 : Int) ^ min (Int.toNat (IntKind.wrap .u64 ((64 : Int) - IntKind.wrap .u64 r0))) (IntKind.bits .u64))))) : Int) * (4294967296 : Int)) + Int.fdiv (IntKind.wrap .u64 (lo * (2 : Int) ^ min (Int.toNat (IntKind.wrap .u64 r0)) (IntKind.bits .u64))) ((2 : Int) ^ min (32 : Nat) (IntKind.bits .u64))) - IntKind.wrap .u64 (u15 * IntKind.wrap .u64 (y_ * (2 : Int) ^ min (Int.toNat (IntKind.wrap .u64 r0)) (IntKind.bits .u64)))) * (4294967296 : Int)) + IntKind.wrap .u64 (↑(BitVec.toNat (BitVec.ofInt (IntKind.bits .u64) (IntKind.wrap .u64 (lo * (2 : Int) ^ min (Int.toNat (IntKind.wrap .u64 r0)) (IntKind.bits .u64))) &&& BitVec.ofInt (IntKind.bits .u64) (4294967295 : Int))) : Int)) - IntKind.wrap .u64 (u61 * IntKind.wrap .u64 (y_ * (2 : Int) ^ min (Int.toNat (IntKind.wrap .u64 r0)) (IntKind.bits .u64))))) ((2 : Int) ^ min (Int.toNat (IntKind.wrap .u64 r0)) (IntKind.bits .u64))))
  else none
def y53 (hi : Int) (lo : Int) (y_ : Int) (r0 : Int) (u15 : Int) : Option (Int × Int) :=
  if Int.fdiv (IntKind.wrap .u64 (y_ * (2 : Int) ^ min (Int.toNat (IntKind.wrap .u64 r0)) (IntKind.bits .u64))) ((2 : Int) ^ min (32 : Nat) (IntKind.bits .u64)) ≠ (0 : Int) then
   Option.bind (iter (y9 lo y_ r0) big ((IntKind.wrap .u64 (IntKind.wrap .u64 (IntKind.wrap .u64 (IntKind.wrap .u64 (IntKind.wrap .u64 (↑(BitVec.toNat (BitVec.ofInt (IntKind.bits .u64) (IntKind.wrap .u64 (hi * (2 : Int) ^ min (Int.toNat (IntKind.wrap .u64 r0)) (IntKind.bits .u64))) ||| BitVec.ofInt (IntKind.bits .u64) (Int.fdiv lo ((2 : Int) ^ min (Int.toNat (IntKind.wrap .u64 ((64 : Int) - IntKind.wrap .u64 r0))) (IntKind.bits .u64))))) : Int) * (4294967296 : Int)) + Int.fdiv (IntKind.wrap .u64 (lo * (2 : Int) ^ min (Int.toNat (IntKind.wrap .u64 r0)) (IntKind.bits .u64))) ((2 : Int) ^ min (32 : Nat) (IntKind.bits .u64))) - IntKind.wrap .u64 (u15 * IntKind.wrap .u64 (y_ * (2 : Int) ^ min (Int.toNat (IntKind.wrap .u64 r0)) (IntKind.bits .u64)))) - IntKind.wrap .u64 (IntKind.wrap .u64 (Int.tdiv (IntKind.wrap .u64 (IntKind.wrap .u64 (IntKind.wrap .u64 (IntKind.wrap .u64 (↑(BitVec.toNat (BitVec.ofInt (IntKind.bits .u64) (IntKind.wrap .u64 (hi * (2 : Int) ^ min (Int.toNat (IntKind.wrap .u64 r0)) (IntKind.bits .u64))) ||| BitVec.ofInt (IntKind.bits .u64) (Int.fdiv lo ((2 : Int) ^ min (Int.toNat (IntKind.wrap .u64 ((64 : Int) - IntKind.wrap .u64 r0))) (IntKind.bits .u64))))) : Int) * (4294967296 : Int)) + Int.fdiv (IntKind.wrap .u64 (lo * (2 : Int) ^ min (Int.toNat (IntKind.wrap .u64 r0)) (IntKind.bits .u64))) ((2 : Int) ^ min (32 : Nat) (IntKind.bits .u64))) - IntKind.wrap .u64 (u15 * IntKind.wrap .u64 (y_ * (2 : Int) ^ min (Int.toNat (IntKind.wrap .u64 r0)) (IntKind.bits .u64))))) (Int.fdiv (IntKind.wrap .u64 (y_ * (2 : Int) ^ min (Int.toNat (IntKind.wrap .u64 r0)) (IntKind.bits .u64))) ((2 : Int) ^ min (32 : Nat) (IntKind.bits .u64)))) * Int.fdiv (IntKind.wrap .u64 (y_ * (2 : Int) ^ min (Int.toNat (IntKind.wrap .u64 r0)) (IntKind.bits .u64))) ((2 : Int) ^ min (32 : Nat) (IntKind.bits .u64)))), IntKind.wrap .u64 (Int.tdiv (IntKind.wrap .u64 (IntKind.wrap .u64 (IntKind.wrap .u64 (IntKind.wrap .u64 (↑(BitVec.toNat (BitVec.ofInt (IntKind.bits .u64) (IntKind.wrap .u64 (hi * (2 : Int) ^ min (Int.toNat (IntKind.wrap .u64 r0)) (IntKind.bits .u64))) ||| BitVec.ofInt (IntKind.bits .u64) (Int.fdiv lo ((2 : Int) ^ min (Int.toNat (IntKind.wrap .u64 ((64 : Int) - IntKind.wrap .u64 r0))) (IntKind.bits .u64))))) : Int) * (4294967296 : Int)) + Int.fdiv (IntKind.wrap .u64 (lo * (2 : Int) ^ min (Int.toNat (IntKind.wrap .u64 r0)) (IntKind.bits .u64))) ((2 : Int) ^ min (32 : Nat) (IntKind.bits .u64))) - IntKind.wrap .u64 (u15 * IntKind.wrap .u64 (y_ * (2 : Int) ^ min (Int.toNat (IntKind.wrap .u64 r0)) (IntKind.bits .u64))))) (Int.fdiv (IntKind.wrap .u64 (y_ * (2 : Int) ^ min (Int.toNat (IntKind.wrap .u64 r0)) (IntKind.bits .u64))) ((2 : Int) ^ min (32 : Nat) (IntKind.bits .u64))))))) (y10 hi lo y_ u15 r0)
  else none
def y49 (hi : Int) (lo : Int) (y_ : Int) : Option (Int × Int) :=
  if (y_ == (0 : Int)) = true then
   none   else
   if y_ ≤ hi then
    none    else
    if (hi == (0 : Int)) = true then
     if y_ ≠ (0 : Int) then
      if y_ ≠ (0 : Int) then
       some ((IntKind.wrap .u64 (Int.tdiv lo y_), Int.tmod lo y_))
      else none
     else none
    else
     Option.bind (y7 y_) fun r0 =>
     if (0 : Int) ≤ IntKind.wrap .u64 r0 then
      if (0 : Int) ≤ IntKind.wrap .u64 r0 then
       if (0 : Int) ≤ IntKind.wrap .u64 ((64 : Int) - IntKind.wrap .u64 r0) then
        if (0 : Int) ≤ IntKind.wrap .u64 r0 then
         if Int.fdiv (IntKind.wrap .u64 (y_ * (2 : Int) ^ min (Int.toNat (IntKind.wrap .u64 r0)) (IntKind.bits .u64))) ((2 : Int) ^ min (32 : Nat) (IntKind.bits .u64)) ≠ (0 : Int) then
          Option.bind (iter (y52 lo y_ r0) big ((IntKind.wrap .u64 (Int.tdiv (IntKind.wrap .u64 (↑(BitVec.toNat (BitVec.ofInt (IntKind.bits .u64) (IntKind.wrap .u64 (hi * (2 : Int) ^ min (Int.toNat (IntKind.wrap .u64 r0)) (IntKind.bits .u64))) ||| BitVec.ofInt (IntKind.bits .u64) (Int.fdiv lo ((2 : Int) ^ min (Int.toNat (IntKind.wrap .u64 ((64 : Int) - IntKind.wrap .u64 r0))) (IntKind.bits .u64))))) : Int)) (Int.fdiv (IntKind.wrap .u64 (y_ * (2 : Int) ^ min (Int.toNat (IntKind.wrap .u64 r0)) (IntKind.bits .u64))) ((2 : Int) ^ min (32 : Nat) (IntKind.bits .u64)))), IntKind.wrap .u64 (IntKind.wrap .u64 (↑(BitVec.toNat (BitVec.ofInt (IntKind.bits .u64) (IntKind.wrap .u64 (hi * (2 : Int) ^ min (Int.toNat (IntKind.wrap .u64 r0)) (IntKind.bits .u64))) ||| BitVec.ofInt (IntKind.bits .u64) (Int.fdiv lo ((2 : Int) ^ min (Int.toNat (IntKind.wrap .u64 ((64 : Int) - IntKind.wrap .u64 r0))) (IntKind.bits .u64))))) : Int) - IntKind.wrap .u64 (IntKind.wrap .u64 (Int.tdiv (IntKind.wrap .u64 (↑(BitVec.toNat (BitVec.ofInt (IntKind.bits .u64) (IntKind.wrap .u64 (hi * (2 : Int) ^ min (Int.toNat (IntKind.wrap .u64 r0)) (IntKind.bits .u64))) ||| BitVec.ofInt (IntKind.bits .u64) (Int.fdiv lo ((2 : Int) ^ min (Int.toNat (IntKind.wrap .u64 ((64 : Int) - IntKind.wrap .u64 r0))) (IntKind.bits .u64))))) : Int)) (Int.fdiv (IntKind.wrap .u64 (y_ * (2 : Int) ^ min (Int.toNat (IntKind.wrap .u64 r0)) (IntKind.bits .u64))) ((2 : Int) ^ min (32 : Nat) (IntKind.bits .u64)))) * Int.fdiv (IntKind.wrap .u64 (y_ * (2 : Int) ^ min (Int.toNat (IntKind.wrap .u64 r0)) (IntKind.bits .u64))) ((2 : Int) ^ min (32 : Nat) (IntKind.bits .u64))))))) (y53 hi lo y_ r0)
         else none
        else none
       else none
      else none
     else none
def y134 : List A → Option (Prop × List RV)
  | [.d (.i .u64 hi), .d (.i .u64 lo), .d (.i .u64 y_)] => some (ok (y49 hi lo y_), [.d (.i .u64 ((val (y49 hi lo y_)).1)), .d (.i .u64 ((val (y49 hi lo y_)).2))])
  | _ => none
abbrev sp_127 : Specs → Specs := addK 127 true (pureK k_math_bits_Div64 y134)
set_option maxRecDepth 100000 in
private abbrev e0 (hi : Int) (lo : Int) (y_ : Int) : Int := IntKind.wrap .u64 (IntKind.wrap .u64 (↑(BitVec.toNat (BitVec.ofInt (IntKind.bits .u64) (IntKind.wrap .u64 (hi * (2 : Int) ^ min (Int.toNat (IntKind.wrap .u64 (val (y7 y_)))) (IntKind.bits .u64))) ||| BitVec.ofInt (IntKind.bits .u64) (Int.fdiv lo ((2 : Int) ^ min (Int.toNat (IntKind.wrap .u64 ((64 : Int) - IntKind.wrap .u64 (val (y7 y_))))) (IntKind.bits .u64))))) : Int) * (4294967296 : Int)) + Int.fdiv (IntKind.wrap .u64 (lo * (2 : Int) ^ min (Int.toNat (IntKind.wrap .u64 (val (y7 y_)))) (IntKind.bits .u64))) ((2 : Int) ^ min (32 : Nat) (IntKind.bits .u64))
private abbrev e1 (y_ : Int) : Int := IntKind.wrap .u64 (y_ * (2 : Int) ^ min (Int.toNat (IntKind.wrap .u64 (val (y7 y_)))) (IntKind.bits .u64))
private abbrev e2 (y_ : Int) : Int := IntKind.wrap .u64 (val (y7 y_))
private abbrev e3  : Int := (2 : Int) ^ min (32 : Nat) (IntKind.bits .u64)
private abbrev e4 (lo : Int) (y_ : Int) : Int := IntKind.wrap .u64 (lo * (2 : Int) ^ min (Int.toNat (e2 y_)) (IntKind.bits .u64))
private abbrev e5 (y_ : Int) : Int := val (y7 y_)
private abbrev e6 (lo : Int) (y_ : Int) : Int := Int.fdiv lo ((2 : Int) ^ min (Int.toNat (IntKind.wrap .u64 ((64 : Int) - IntKind.wrap .u64 (e5 y_)))) (IntKind.bits .u64))
private abbrev e7 (hi : Int) (y_ : Int) : Int := IntKind.wrap .u64 (hi * (2 : Int) ^ min (Int.toNat (e2 y_)) (IntKind.bits .u64))
private abbrev e8 (hi : Int) (lo : Int) (y_ : Int) : Int := IntKind.wrap .u64 (↑(BitVec.toNat (BitVec.ofInt (IntKind.bits .u64) (e7 hi y_) ||| BitVec.ofInt (IntKind.bits .u64) (e6 lo y_))) : Int)
private abbrev e9 (y_ : Int) : Int := (2 : Int) ^ min (Int.toNat (e2 y_)) (IntKind.bits .u64)
theorem math_bits_Div64_vc (hi : Int) (lo : Int) (y_ : Int) (r : Int × Int) (h : Option.bind (y49 hi lo y_) some = some r) : runF Tryz.f127 ((sp_150 sp0)) (fun gs id _ => match id with
 | 0 => some ⟨(Int × Int) × Nat, fun z => ⟨[(2, .w (.c (.d (.i .u64 (e1 y_))))), (8, .w (.c (.d (.i .u64 (e2 y_))))), (9, .w (.c (.d (.i .u64 (Int.fdiv (e1 y_) (e3 )))))), (10, .w (.c (.d (.i .u64 (IntKind.wrap .u64 (↑(BitVec.toNat (BitVec.ofInt (IntKind.bits .u64) (e1 y_) &&& BitVec.ofInt (IntKind.bits .u64) (4294967295 : Int))) : Int)))))), (11, .w (.c (.d (.i .u64 (e8 hi lo y_))))), (13, .w (.c (.d (.i .u64 (Int.fdiv (e4 lo y_) (e3 )))))), (14, .w (.c (.d (.i .u64 (IntKind.wrap .u64 (↑(BitVec.toNat (BitVec.ofInt (IntKind.bits .u64) (e4 lo y_) &&& BitVec.ofInt (IntKind.bits .u64) (4294967295 : Int))) : Int)))))), (15, .w (.c (.d (.i .u64 (Prod.fst (Prod.fst z)))))), (16, .w (.c (.d (.i .u64 (Prod.snd (Prod.fst z))))))], [], 3⟩, fun z => Option.bind (iter (y52 lo y_ (e5 y_)) (Prod.snd z) (Prod.fst z)) (fun y0 => Option.bind (y53 hi lo y_ (e5 y_) y0) some) = some r, fun z => Prod.snd z⟩
 | 2 => some ⟨Int × (Int × Int) × Nat, fun z => ⟨[(2, .w (.c (.d (.i .u64 (e1 y_))))), (8, .w (.c (.d (.i .u64 (e2 y_))))), (9, .w (.c (.d (.i .u64 (Int.fdiv (e1 y_) (e3 )))))), (10, .w (.c (.d (.i .u64 (IntKind.wrap .u64 (↑(BitVec.toNat (BitVec.ofInt (IntKind.bits .u64) (e1 y_) &&& BitVec.ofInt (IntKind.bits .u64) (4294967295 : Int))) : Int)))))), (14, .w (.c (.d (.i .u64 (IntKind.wrap .u64 (↑(BitVec.toNat (BitVec.ofInt (IntKind.bits .u64) (e4 lo y_) &&& BitVec.ofInt (IntKind.bits .u64) (4294967295 : Int))) : Int)))))), (15, .w (.c (.d (.i .u64 (Prod.fst z))))), (16, .w (.c (.d (.i .u64 (Prod.fst (Prod.fst (Prod.snd z))))))), (17, .w (.c (.d (.i .u64 (IntKind.wrap .u64 (IntKind.wrap .u64 (e0 hi lo y_) - IntKind.wrap .u64 (Prod.fst z * IntKind.wrap .u64 (y_ * (2 : Int) ^ min (Int.toNat (e2 y_)) (IntKind.bits .u64))))))))), (18, .w (.c (.d (.i .u64 (Prod.snd (Prod.fst (Prod.snd z)))))))], [], 3⟩, fun z => Option.bind (iter (y9 lo y_ (e5 y_)) (Prod.snd (Prod.snd z)) (Prod.fst (Prod.snd z))) (fun y0 => Option.bind (y10 hi lo y_ (Prod.fst z) (e5 y_) y0) some) = some r, fun z => Prod.snd (Prod.snd z)⟩
 | _ => none) [.d (.i .u64 hi), .d (.i .u64 lo), .d (.i .u64 y_)] [.d (.i .u64 r.1), .d (.i .u64 r.2)] := by
  refine Eq.mp (by kernel_rfl : (
 Br (y_ == (0 : Int))
   (False)
 (Br (decide (y_ ≤ hi))
   (False)
 (Br (hi == (0 : Int))
   ((Ob (y_ ≠ (0 : Int)) ∧
 (Ob (y_ ≠ (0 : Int)) ∧
 (Ob (True) ∧
 (Ob (True) ∧
 (Ob (IntKind.wrap .u64 (Int.tdiv lo y_) = r.1) ∧
 (Ob (Int.tmod lo y_ = r.2) ∧
 True)))))))
   ((Ob (ok (y7 y_)) ∧
 (Ob (True) ∧
 (Ob ((0 : Int) ≤ IntKind.wrap .u64 (e5 y_)) ∧
 (Ob ((0 : Int) ≤ (32 : Int)) ∧
 (Ob ((0 : Int) ≤ IntKind.wrap .u64 (e5 y_)) ∧
 (Ob ((0 : Int) ≤ IntKind.wrap .u64 ((64 : Int) - IntKind.wrap .u64 (e5 y_))) ∧
 (Ob ((0 : Int) ≤ IntKind.wrap .u64 (e5 y_)) ∧
 (Ob ((0 : Int) ≤ (32 : Int)) ∧
 (Ob (Int.fdiv (e1 y_) (e3 ) ≠ (0 : Int)) ∧
   ((∃ (v0 : (Int × Int) × Nat), (Ob ((Option.bind (iter (y52 lo y_ (e5 y_)) v0.2 v0.1) fun y0 => Option.bind (y53 hi lo y_ (e5 y_) y0) some) = some r) ∧
 (Ob (IntKind.wrap .u64 (y_ * (2 : Int) ^ min (Int.toNat (e2 y_)) (IntKind.bits .u64)) = IntKind.wrap .u64 (y_ * (2 : Int) ^ min (Int.toNat (e2 y_)) (IntKind.bits .u64))) ∧
 (Ob (IntKind.wrap .u64 (e5 y_) = IntKind.wrap .u64 (e5 y_)) ∧
 (Ob (Int.fdiv (e1 y_) (e3 ) = Int.fdiv (e1 y_) (e3 )) ∧
 (Ob (IntKind.wrap .u64 (↑(BitVec.toNat (BitVec.ofInt (IntKind.bits .u64) (e1 y_) &&& BitVec.ofInt (IntKind.bits .u64) (4294967295 : Int))) : Int) = IntKind.wrap .u64 (↑(BitVec.toNat (BitVec.ofInt (IntKind.bits .u64) (e1 y_) &&& BitVec.ofInt (IntKind.bits .u64) (4294967295 : Int))) : Int)) ∧
 (Ob (IntKind.wrap .u64 (↑(BitVec.toNat (BitVec.ofInt (IntKind.bits .u64) (e7 hi y_) ||| BitVec.ofInt (IntKind.bits .u64) (e6 lo y_))) : Int) = IntKind.wrap .u64 (↑(BitVec.toNat (BitVec.ofInt (IntKind.bits .u64) (e7 hi y_) ||| BitVec.ofInt (IntKind.bits .u64) (e6 lo y_))) : Int)) ∧
 (Ob (Int.fdiv (e4 lo y_) (e3 ) = Int.fdiv (e4 lo y_) (e3 )) ∧
 (Ob (IntKind.wrap .u64 (↑(BitVec.toNat (BitVec.ofInt (IntKind.bits .u64) (e4 lo y_) &&& BitVec.ofInt (IntKind.bits .u64) (4294967295 : Int))) : Int) = IntKind.wrap .u64 (↑(BitVec.toNat (BitVec.ofInt (IntKind.bits .u64) (e4 lo y_) &&& BitVec.ofInt (IntKind.bits .u64) (4294967295 : Int))) : Int)) ∧
 (Ob (IntKind.wrap .u64 (Int.tdiv (e8 hi lo y_) (Int.fdiv (e1 y_) (e3 ))) = v0.1.1) ∧
 (Ob (IntKind.wrap .u64 (IntKind.wrap .u64 (↑(BitVec.toNat (BitVec.ofInt (IntKind.bits .u64) (e7 hi y_) ||| BitVec.ofInt (IntKind.bits .u64) (e6 lo y_))) : Int) - IntKind.wrap .u64 (IntKind.wrap .u64 (Int.tdiv (e8 hi lo y_) (Int.fdiv (e1 y_) (e3 ))) * Int.fdiv (e1 y_) (e3 ))) = v0.1.2) ∧
 True))))))))))) ∧
   (∀ (v0 : (Int × Int) × Nat), ((Option.bind (iter (y52 lo y_ (e5 y_)) v0.2 v0.1) fun y0 => Option.bind (y53 hi lo y_ (e5 y_) y0) some) = some r →
 Br (decide (v0.1.1 ≥ (4294967296 : Int)))
 (Br (decide (IntKind.wrap .u64 (v0.1.2 + Int.fdiv (e1 y_) (e3 )) ≥ (4294967296 : Int)))
   ((Ob (Int.fdiv (e1 y_) (e3 ) ≠ (0 : Int)) ∧
   ((∃ (v1 : Int × (Int × Int) × Nat), (Ob ((Option.bind (iter (y9 lo y_ (e5 y_)) v1.2.2 v1.2.1) fun y0 => Option.bind (y10 hi lo y_ v1.1 (e5 y_) y0) some) = some r) ∧
 (Ob (IntKind.wrap .u64 (y_ * (2 : Int) ^ min (Int.toNat (e2 y_)) (IntKind.bits .u64)) = IntKind.wrap .u64 (y_ * (2 : Int) ^ min (Int.toNat (e2 y_)) (IntKind.bits .u64))) ∧
 (Ob (IntKind.wrap .u64 (e5 y_) = IntKind.wrap .u64 (e5 y_)) ∧
 (Ob (Int.fdiv (e1 y_) (e3 ) = Int.fdiv (e1 y_) (e3 )) ∧
 (Ob (IntKind.wrap .u64 (↑(BitVec.toNat (BitVec.ofInt (IntKind.bits .u64) (e1 y_) &&& BitVec.ofInt (IntKind.bits .u64) (4294967295 : Int))) : Int) = IntKind.wrap .u64 (↑(BitVec.toNat (BitVec.ofInt (IntKind.bits .u64) (e1 y_) &&& BitVec.ofInt (IntKind.bits .u64) (4294967295 : Int))) : Int)) ∧
 (Ob (IntKind.wrap .u64 (↑(BitVec.toNat (BitVec.ofInt (IntKind.bits .u64) (e4 lo y_) &&& BitVec.ofInt (IntKind.bits .u64) (4294967295 : Int))) : Int) = IntKind.wrap .u64 (↑(BitVec.toNat (BitVec.ofInt (IntKind.bits .u64) (e4 lo y_) &&& BitVec.ofInt (IntKind.bits .u64) (4294967295 : Int))) : Int)) ∧
 (Ob (IntKind.wrap .u64 (v0.1.1 - (1 : Int)) = v1.1) ∧
 (Ob (IntKind.wrap .u64 (IntKind.wrap .u64 (IntKind.wrap .u64 (e0 hi lo y_) - IntKind.wrap .u64 (IntKind.wrap .u64 (v0.1.1 - (1 : Int)) * IntKind.wrap .u64 (y_ * (2 : Int) ^ min (Int.toNat (e2 y_)) (IntKind.bits .u64)))) - IntKind.wrap .u64 (IntKind.wrap .u64 (Int.tdiv (IntKind.wrap .u64 (IntKind.wrap .u64 (e0 hi lo y_) - IntKind.wrap .u64 (IntKind.wrap .u64 (v0.1.1 - (1 : Int)) * IntKind.wrap .u64 (y_ * (2 : Int) ^ min (Int.toNat (e2 y_)) (IntKind.bits .u64))))) (Int.fdiv (e1 y_) (e3 ))) * Int.fdiv (e1 y_) (e3 ))) = v1.2.1.1) ∧
 (Ob (IntKind.wrap .u64 (IntKind.wrap .u64 (e0 hi lo y_) - IntKind.wrap .u64 (IntKind.wrap .u64 (v0.1.1 - (1 : Int)) * IntKind.wrap .u64 (y_ * (2 : Int) ^ min (Int.toNat (e2 y_)) (IntKind.bits .u64)))) = IntKind.wrap .u64 (IntKind.wrap .u64 (e0 hi lo y_) - IntKind.wrap .u64 (v1.1 * IntKind.wrap .u64 (y_ * (2 : Int) ^ min (Int.toNat (e2 y_)) (IntKind.bits .u64))))) ∧
 (Ob (IntKind.wrap .u64 (Int.tdiv (IntKind.wrap .u64 (IntKind.wrap .u64 (e0 hi lo y_) - IntKind.wrap .u64 (IntKind.wrap .u64 (v0.1.1 - (1 : Int)) * IntKind.wrap .u64 (y_ * (2 : Int) ^ min (Int.toNat (e2 y_)) (IntKind.bits .u64))))) (Int.fdiv (e1 y_) (e3 ))) = v1.2.1.2) ∧
 True))))))))))) ∧
   (∀ (v1 : Int × (Int × Int) × Nat), ((Option.bind (iter (y9 lo y_ (e5 y_)) v1.2.2 v1.2.1) fun y0 => Option.bind (y10 hi lo y_ v1.1 (e5 y_) y0) some) = some r →
 Br (decide (v1.2.1.2 ≥ (4294967296 : Int)))
 (Br (decide (IntKind.wrap .u64 (v1.2.1.1 + Int.fdiv (e1 y_) (e3 )) ≥ (4294967296 : Int)))
   ((Ob ((0 : Int) ≤ IntKind.wrap .u64 (e5 y_)) ∧
 (Ob (True) ∧
 (Ob (True) ∧
 (Ob (IntKind.wrap .u64 (IntKind.wrap .u64 (v1.1 * (4294967296 : Int)) + IntKind.wrap .u64 (v1.2.1.2 - (1 : Int))) = r.1) ∧
 (Ob (Int.fdiv (IntKind.wrap .u64 (IntKind.wrap .u64 (IntKind.wrap .u64 (IntKind.wrap .u64 (IntKind.wrap .u64 (e0 hi lo y_) - IntKind.wrap .u64 (v1.1 * IntKind.wrap .u64 (y_ * (2 : Int) ^ min (Int.toNat (e2 y_)) (IntKind.bits .u64)))) * (4294967296 : Int)) + IntKind.wrap .u64 (↑(BitVec.toNat (BitVec.ofInt (IntKind.bits .u64) (e4 lo y_) &&& BitVec.ofInt (IntKind.bits .u64) (4294967295 : Int))) : Int)) - IntKind.wrap .u64 (IntKind.wrap .u64 (v1.2.1.2 - (1 : Int)) * IntKind.wrap .u64 (y_ * (2 : Int) ^ min (Int.toNat (e2 y_)) (IntKind.bits .u64))))) (e9 y_) = r.2) ∧
 True))))))
   ((∃ (v2 : Int × (Int × Int) × Nat), (Ob ((Option.bind (iter (y9 lo y_ (e5 y_)) v2.2.2 v2.2.1) fun y0 => Option.bind (y10 hi lo y_ v2.1 (e5 y_) y0) some) = some r) ∧
 (Ob (v2.2.2 < v1.2.2) ∧
 (Ob (IntKind.wrap .u64 (y_ * (2 : Int) ^ min (Int.toNat (e2 y_)) (IntKind.bits .u64)) = IntKind.wrap .u64 (y_ * (2 : Int) ^ min (Int.toNat (e2 y_)) (IntKind.bits .u64))) ∧
 (Ob (IntKind.wrap .u64 (e5 y_) = IntKind.wrap .u64 (e5 y_)) ∧
 (Ob (Int.fdiv (e1 y_) (e3 ) = Int.fdiv (e1 y_) (e3 )) ∧
 (Ob (IntKind.wrap .u64 (↑(BitVec.toNat (BitVec.ofInt (IntKind.bits .u64) (e1 y_) &&& BitVec.ofInt (IntKind.bits .u64) (4294967295 : Int))) : Int) = IntKind.wrap .u64 (↑(BitVec.toNat (BitVec.ofInt (IntKind.bits .u64) (e1 y_) &&& BitVec.ofInt (IntKind.bits .u64) (4294967295 : Int))) : Int)) ∧
 (Ob (IntKind.wrap .u64 (↑(BitVec.toNat (BitVec.ofInt (IntKind.bits .u64) (e4 lo y_) &&& BitVec.ofInt (IntKind.bits .u64) (4294967295 : Int))) : Int) = IntKind.wrap .u64 (↑(BitVec.toNat (BitVec.ofInt (IntKind.bits .u64) (e4 lo y_) &&& BitVec.ofInt (IntKind.bits .u64) (4294967295 : Int))) : Int)) ∧
 (Ob (v1.1 = v2.1) ∧
 (Ob (IntKind.wrap .u64 (v1.2.1.1 + Int.fdiv (e1 y_) (e3 )) = v2.2.1.1) ∧
 (Ob (IntKind.wrap .u64 (IntKind.wrap .u64 (e0 hi lo y_) - IntKind.wrap .u64 (v1.1 * IntKind.wrap .u64 (y_ * (2 : Int) ^ min (Int.toNat (e2 y_)) (IntKind.bits .u64)))) = IntKind.wrap .u64 (IntKind.wrap .u64 (e0 hi lo y_) - IntKind.wrap .u64 (v2.1 * IntKind.wrap .u64 (y_ * (2 : Int) ^ min (Int.toNat (e2 y_)) (IntKind.bits .u64))))) ∧
 (Ob (IntKind.wrap .u64 (v1.2.1.2 - (1 : Int)) = v2.2.1.2) ∧
 True))))))))))))))
 (Br (decide (IntKind.wrap .u64 (v1.2.1.2 * IntKind.wrap .u64 (↑(BitVec.toNat (BitVec.ofInt (IntKind.bits .u64) (e1 y_) &&& BitVec.ofInt (IntKind.bits .u64) (4294967295 : Int))) : Int)) > IntKind.wrap .u64 (IntKind.wrap .u64 ((4294967296 : Int) * v1.2.1.1) + IntKind.wrap .u64 (↑(BitVec.toNat (BitVec.ofInt (IntKind.bits .u64) (e4 lo y_) &&& BitVec.ofInt (IntKind.bits .u64) (4294967295 : Int))) : Int))))
 (Br (decide (IntKind.wrap .u64 (v1.2.1.1 + Int.fdiv (e1 y_) (e3 )) ≥ (4294967296 : Int)))
   ((Ob ((0 : Int) ≤ IntKind.wrap .u64 (e5 y_)) ∧
 (Ob (True) ∧
 (Ob (True) ∧
 (Ob (IntKind.wrap .u64 (IntKind.wrap .u64 (v1.1 * (4294967296 : Int)) + IntKind.wrap .u64 (v1.2.1.2 - (1 : Int))) = r.1) ∧
 (Ob (Int.fdiv (IntKind.wrap .u64 (IntKind.wrap .u64 (IntKind.wrap .u64 (IntKind.wrap .u64 (IntKind.wrap .u64 (e0 hi lo y_) - IntKind.wrap .u64 (v1.1 * IntKind.wrap .u64 (y_ * (2 : Int) ^ min (Int.toNat (e2 y_)) (IntKind.bits .u64)))) * (4294967296 : Int)) + IntKind.wrap .u64 (↑(BitVec.toNat (BitVec.ofInt (IntKind.bits .u64) (e4 lo y_) &&& BitVec.ofInt (IntKind.bits .u64) (4294967295 : Int))) : Int)) - IntKind.wrap .u64 (IntKind.wrap .u64 (v1.2.1.2 - (1 : Int)) * IntKind.wrap .u64 (y_ * (2 : Int) ^ min (Int.toNat (e2 y_)) (IntKind.bits .u64))))) (e9 y_) = r.2) ∧
 True))))))
   ((∃ (v2 : Int × (Int × Int) × Nat), (Ob ((Option.bind (iter (y9 lo y_ (e5 y_)) v2.2.2 v2.2.1) fun y0 => Option.bind (y10 hi lo y_ v2.1 (e5 y_) y0) some) = some r) ∧
 (Ob (v2.2.2 < v1.2.2) ∧
 (Ob (IntKind.wrap .u64 (y_ * (2 : Int) ^ min (Int.toNat (e2 y_)) (IntKind.bits .u64)) = IntKind.wrap .u64 (y_ * (2 : Int) ^ min (Int.toNat (e2 y_)) (IntKind.bits .u64))) ∧
 (Ob (IntKind.wrap .u64 (e5 y_) = IntKind.wrap .u64 (e5 y_)) ∧
 (Ob (Int.fdiv (e1 y_) (e3 ) = Int.fdiv (e1 y_) (e3 )) ∧
 (Ob (IntKind.wrap .u64 (↑(BitVec.toNat (BitVec.ofInt (IntKind.bits .u64) (e1 y_) &&& BitVec.ofInt (IntKind.bits .u64) (4294967295 : Int))) : Int) = IntKind.wrap .u64 (↑(BitVec.toNat (BitVec.ofInt (IntKind.bits .u64) (e1 y_) &&& BitVec.ofInt (IntKind.bits .u64) (4294967295 : Int))) : Int)) ∧
 (Ob (IntKind.wrap .u64 (↑(BitVec.toNat (BitVec.ofInt (IntKind.bits .u64) (e4 lo y_) &&& BitVec.ofInt (IntKind.bits .u64) (4294967295 : Int))) : Int) = IntKind.wrap .u64 (↑(BitVec.toNat (BitVec.ofInt (IntKind.bits .u64) (e4 lo y_) &&& BitVec.ofInt (IntKind.bits .u64) (4294967295 : Int))) : Int)) ∧
 (Ob (v1.1 = v2.1) ∧
 (Ob (IntKind.wrap .u64 (v1.2.1.1 + Int.fdiv (e1 y_) (e3 )) = v2.2.1.1) ∧
 (Ob (IntKind.wrap .u64 (IntKind.wrap .u64 (e0 hi lo y_) - IntKind.wrap .u64 (v1.1 * IntKind.wrap .u64 (y_ * (2 : Int) ^ min (Int.toNat (e2 y_)) (IntKind.bits .u64)))) = IntKind.wrap .u64 (IntKind.wrap .u64 (e0 hi lo y_) - IntKind.wrap .u64 (v2.1 * IntKind.wrap .u64 (y_ * (2 : Int) ^ min (Int.toNat (e2 y_)) (IntKind.bits .u64))))) ∧
 (Ob (IntKind.wrap .u64 (v1.2.1.2 - (1 : Int)) = v2.2.1.2) ∧
 True))))))))))))))
   ((Ob ((0 : Int) ≤ IntKind.wrap .u64 (e5 y_)) ∧
 (Ob (True) ∧
 (Ob (True) ∧
 (Ob (IntKind.wrap .u64 (IntKind.wrap .u64 (v1.1 * (4294967296 : Int)) + v1.2.1.2) = r.1) ∧
 (Ob (Int.fdiv (IntKind.wrap .u64 (IntKind.wrap .u64 (IntKind.wrap .u64 (IntKind.wrap .u64 (IntKind.wrap .u64 (e0 hi lo y_) - IntKind.wrap .u64 (v1.1 * IntKind.wrap .u64 (y_ * (2 : Int) ^ min (Int.toNat (e2 y_)) (IntKind.bits .u64)))) * (4294967296 : Int)) + IntKind.wrap .u64 (↑(BitVec.toNat (BitVec.ofInt (IntKind.bits .u64) (e4 lo y_) &&& BitVec.ofInt (IntKind.bits .u64) (4294967295 : Int))) : Int)) - IntKind.wrap .u64 (v1.2.1.2 * IntKind.wrap .u64 (y_ * (2 : Int) ^ min (Int.toNat (e2 y_)) (IntKind.bits .u64))))) (e9 y_) = r.2) ∧
 True))))))))))))
   ((∃ (v1 : (Int × Int) × Nat), (Ob ((Option.bind (iter (y52 lo y_ (e5 y_)) v1.2 v1.1) fun y0 => Option.bind (y53 hi lo y_ (e5 y_) y0) some) = some r) ∧
 (Ob (v1.2 < v0.2) ∧
 (Ob (IntKind.wrap .u64 (y_ * (2 : Int) ^ min (Int.toNat (e2 y_)) (IntKind.bits .u64)) = IntKind.wrap .u64 (y_ * (2 : Int) ^ min (Int.toNat (e2 y_)) (IntKind.bits .u64))) ∧
 (Ob (IntKind.wrap .u64 (e5 y_) = IntKind.wrap .u64 (e5 y_)) ∧
 (Ob (Int.fdiv (e1 y_) (e3 ) = Int.fdiv (e1 y_) (e3 )) ∧
 (Ob (IntKind.wrap .u64 (↑(BitVec.toNat (BitVec.ofInt (IntKind.bits .u64) (e1 y_) &&& BitVec.ofInt (IntKind.bits .u64) (4294967295 : Int))) : Int) = IntKind.wrap .u64 (↑(BitVec.toNat (BitVec.ofInt (IntKind.bits .u64) (e1 y_) &&& BitVec.ofInt (IntKind.bits .u64) (4294967295 : Int))) : Int)) ∧
 (Ob (IntKind.wrap .u64 (↑(BitVec.toNat (BitVec.ofInt (IntKind.bits .u64) (e7 hi y_) ||| BitVec.ofInt (IntKind.bits .u64) (e6 lo y_))) : Int) = IntKind.wrap .u64 (↑(BitVec.toNat (BitVec.ofInt (IntKind.bits .u64) (e7 hi y_) ||| BitVec.ofInt (IntKind.bits .u64) (e6 lo y_))) : Int)) ∧
 (Ob (Int.fdiv (e4 lo y_) (e3 ) = Int.fdiv (e4 lo y_) (e3 )) ∧
 (Ob (IntKind.wrap .u64 (↑(BitVec.toNat (BitVec.ofInt (IntKind.bits .u64) (e4 lo y_) &&& BitVec.ofInt (IntKind.bits .u64) (4294967295 : Int))) : Int) = IntKind.wrap .u64 (↑(BitVec.toNat (BitVec.ofInt (IntKind.bits .u64) (e4 lo y_) &&& BitVec.ofInt (IntKind.bits .u64) (4294967295 : Int))) : Int)) ∧
 (Ob (IntKind.wrap .u64 (v0.1.1 - (1 : Int)) = v1.1.1) ∧
 (Ob (IntKind.wrap .u64 (v0.1.2 + Int.fdiv (e1 y_) (e3 )) = v1.1.2) ∧
 True))))))))))))))
 (Br (decide (IntKind.wrap .u64 (v0.1.1 * IntKind.wrap .u64 (↑(BitVec.toNat (BitVec.ofInt (IntKind.bits .u64) (e1 y_) &&& BitVec.ofInt (IntKind.bits .u64) (4294967295 : Int))) : Int)) > IntKind.wrap .u64 (IntKind.wrap .u64 ((4294967296 : Int) * v0.1.2) + Int.fdiv (e4 lo y_) (e3 ))))
 (Br (decide (IntKind.wrap .u64 (v0.1.2 + Int.fdiv (e1 y_) (e3 )) ≥ (4294967296 : Int)))
   ((Ob (Int.fdiv (e1 y_) (e3 ) ≠ (0 : Int)) ∧
   ((∃ (v1 : Int × (Int × Int) × Nat), (Ob ((Option.bind (iter (y9 lo y_ (e5 y_)) v1.2.2 v1.2.1) fun y0 => Option.bind (y10 hi lo y_ v1.1 (e5 y_) y0) some) = some r) ∧
 (Ob (IntKind.wrap .u64 (y_ * (2 : Int) ^ min (Int.toNat (e2 y_)) (IntKind.bits .u64)) = IntKind.wrap .u64 (y_ * (2 : Int) ^ min (Int.toNat (e2 y_)) (IntKind.bits .u64))) ∧
 (Ob (IntKind.wrap .u64 (e5 y_) = IntKind.wrap .u64 (e5 y_)) ∧
 (Ob (Int.fdiv (e1 y_) (e3 ) = Int.fdiv (e1 y_) (e3 )) ∧
 (Ob (IntKind.wrap .u64 (↑(BitVec.toNat (BitVec.ofInt (IntKind.bits .u64) (e1 y_) &&& BitVec.ofInt (IntKind.bits .u64) (4294967295 : Int))) : Int) = IntKind.wrap .u64 (↑(BitVec.toNat (BitVec.ofInt (IntKind.bits .u64) (e1 y_) &&& BitVec.ofInt (IntKind.bits .u64) (4294967295 : Int))) : Int)) ∧
 (Ob (IntKind.wrap .u64 (↑(BitVec.toNat (BitVec.ofInt (IntKind.bits .u64) (e4 lo y_) &&& BitVec.ofInt (IntKind.bits .u64) (4294967295 : Int))) : Int) = IntKind.wrap .u64 (↑(BitVec.toNat (BitVec.ofInt (IntKind.bits .u64) (e4 lo y_) &&& BitVec.ofInt (IntKind.bits .u64) (4294967295 : Int))) : Int)) ∧
 (Ob (IntKind.wrap .u64 (v0.1.1 - (1 : Int)) = v1.1) ∧
 (Ob (IntKind.wrap .u64 (IntKind.wrap .u64 (IntKind.wrap .u64 (e0 hi lo y_) - IntKind.wrap .u64 (IntKind.wrap .u64 (v0.1.1 - (1 : Int)) * IntKind.wrap .u64 (y_ * (2 : Int) ^ min (Int.toNat (e2 y_)) (IntKind.bits .u64)))) - IntKind.wrap .u64 (IntKind.wrap .u64 (Int.tdiv (IntKind.wrap .u64 (IntKind.wrap .u64 (e0 hi lo y_) - IntKind.wrap .u64 (IntKind.wrap .u64 (v0.1.1 - (1 : Int)) * IntKind.wrap .u64 (y_ * (2 : Int) ^ min (Int.toNat (e2 y_)) (IntKind.bits .u64))))) (Int.fdiv (e1 y_) (e3 ))) * Int.fdiv (e1 y_) (e3 ))) = v1.2.1.1) ∧
 (Ob (IntKind.wrap .u64 (IntKind.wrap .u64 (e0 hi lo y_) - IntKind.wrap .u64 (IntKind.wrap .u64 (v0.1.1 - (1 : Int)) * IntKind.wrap .u64 (y_ * (2 : Int) ^ min (Int.toNat (e2 y_)) (IntKind.bits .u64)))) = IntKind.wrap .u64 (IntKind.wrap .u64 (e0 hi lo y_) - IntKind.wrap .u64 (v1.1 * IntKind.wrap .u64 (y_ * (2 : Int) ^ min (Int.toNat (e2 y_)) (IntKind.bits .u64))))) ∧
 (Ob (IntKind.wrap .u64 (Int.tdiv (IntKind.wrap .u64 (IntKind.wrap .u64 (e0 hi lo y_) - IntKind.wrap .u64 (IntKind.wrap .u64 (v0.1.1 - (1 : Int)) * IntKind.wrap .u64 (y_ * (2 : Int) ^ min (Int.toNat (e2 y_)) (IntKind.bits .u64))))) (Int.fdiv (e1 y_) (e3 ))) = v1.2.1.2) ∧
 True))))))))))) ∧
   (∀ (v1 : Int × (Int × Int) × Nat), ((Option.bind (iter (y9 lo y_ (e5 y_)) v1.2.2 v1.2.1) fun y0 => Option.bind (y10 hi lo y_ v1.1 (e5 y_) y0) some) = some r →
 Br (decide (v1.2.1.2 ≥ (4294967296 : Int)))
 (Br (decide (IntKind.wrap .u64 (v1.2.1.1 + Int.fdiv (e1 y_) (e3 )) ≥ (4294967296 : Int)))
   ((Ob ((0 : Int) ≤ IntKind.wrap .u64 (e5 y_)) ∧
 (Ob (True) ∧
 (Ob (True) ∧
 (Ob (IntKind.wrap .u64 (IntKind.wrap .u64 (v1.1 * (4294967296 : Int)) + IntKind.wrap .u64 (v1.2.1.2 - (1 : Int))) = r.1) ∧
 (Ob (Int.fdiv (IntKind.wrap .u64 (IntKind.wrap .u64 (IntKind.wrap .u64 (IntKind.wrap .u64 (IntKind.wrap .u64 (e0 hi lo y_) - IntKind.wrap .u64 (v1.1 * IntKind.wrap .u64 (y_ * (2 : Int) ^ min (Int.toNat (e2 y_)) (IntKind.bits .u64)))) * (4294967296 : Int)) + IntKind.wrap .u64 (↑(BitVec.toNat (BitVec.ofInt (IntKind.bits .u64) (e4 lo y_) &&& BitVec.ofInt (IntKind.bits .u64) (4294967295 : Int))) : Int)) - IntKind.wrap .u64 (IntKind.wrap .u64 (v1.2.1.2 - (1 : Int)) * IntKind.wrap .u64 (y_ * (2 : Int) ^ min (Int.toNat (e2 y_)) (IntKind.bits .u64))))) (e9 y_) = r.2) ∧
 True))))))
   ((∃ (v2 : Int × (Int × Int) × Nat), (Ob ((Option.bind (iter (y9 lo y_ (e5 y_)) v2.2.2 v2.2.1) fun y0 => Option.bind (y10 hi lo y_ v2.1 (e5 y_) y0) some) = some r) ∧
 (Ob (v2.2.2 < v1.2.2) ∧
 (Ob (IntKind.wrap .u64 (y_ * (2 : Int) ^ min (Int.toNat (e2 y_)) (IntKind.bits .u64)) = IntKind.wrap .u64 (y_ * (2 : Int) ^ min (Int.toNat (e2 y_)) (IntKind.bits .u64))) ∧
 (Ob (IntKind.wrap .u64 (e5 y_) = IntKind.wrap .u64 (e5 y_)) ∧
 (Ob (Int.fdiv (e1 y_) (e3 ) = Int.fdiv (e1 y_) (e3 )) ∧
 (Ob (IntKind.wrap .u64 (↑(BitVec.toNat (BitVec.ofInt (IntKind.bits .u64) (e1 y_) &&& BitVec.ofInt (IntKind.bits .u64) (4294967295 : Int))) : Int) = IntKind.wrap .u64 (↑(BitVec.toNat (BitVec.ofInt (IntKind.bits .u64) (e1 y_) &&& BitVec.ofInt (IntKind.bits .u64) (4294967295 : Int))) : Int)) ∧
 (Ob (IntKind.wrap .u64 (↑(BitVec.toNat (BitVec.ofInt (IntKind.bits .u64) (e4 lo y_) &&& BitVec.ofInt (IntKind.bits .u64) (4294967295 : Int))) : Int) = IntKind.wrap .u64 (↑(BitVec.toNat (BitVec.ofInt (IntKind.bits .u64) (e4 lo y_) &&& BitVec.ofInt (IntKind.bits .u64) (4294967295 : Int))) : Int)) ∧
 (Ob (v1.1 = v2.1) ∧
 (Ob (IntKind.wrap .u64 (v1.2.1.1 + Int.fdiv (e1 y_) (e3 )) = v2.2.1.1) ∧
 (Ob (IntKind.wrap .u64 (IntKind.wrap .u64 (e0 hi lo y_) - IntKind.wrap .u64 (v1.1 * IntKind.wrap .u64 (y_ * (2 : Int) ^ min (Int.toNat (e2 y_)) (IntKind.bits .u64)))) = IntKind.wrap .u64 (IntKind.wrap .u64 (e0 hi lo y_) - IntKind.wrap .u64 (v2.1 * IntKind.wrap .u64 (y_ * (2 : Int) ^ min (Int.toNat (e2 y_)) (IntKind.bits .u64))))) ∧
 (Ob (IntKind.wrap .u64 (v1.2.1.2 - (1 : Int)) = v2.2.1.2) ∧
 True))))))))))))))
 (Br (decide (IntKind.wrap .u64 (v1.2.1.2 * IntKind.wrap .u64 (↑(BitVec.toNat (BitVec.ofInt (IntKind.bits .u64) (e1 y_) &&& BitVec.ofInt (IntKind.bits .u64) (4294967295 : Int))) : Int)) > IntKind.wrap .u64 (IntKind.wrap .u64 ((4294967296 : Int) * v1.2.1.1) + IntKind.wrap .u64 (↑(BitVec.toNat (BitVec.ofInt (IntKind.bits .u64) (e4 lo y_) &&& BitVec.ofInt (IntKind.bits .u64) (4294967295 : Int))) : Int))))
 (Br (decide (IntKind.wrap .u64 (v1.2.1.1 + Int.fdiv (e1 y_) (e3 )) ≥ (4294967296 : Int)))
   ((Ob ((0 : Int) ≤ IntKind.wrap .u64 (e5 y_)) ∧
 (Ob (True) ∧
 (Ob (True) ∧
 (Ob (IntKind.wrap .u64 (IntKind.wrap .u64 (v1.1 * (4294967296 : Int)) + IntKind.wrap .u64 (v1.2.1.2 - (1 : Int))) = r.1) ∧
 (Ob (Int.fdiv (IntKind.wrap .u64 (IntKind.wrap .u64 (IntKind.wrap .u64 (IntKind.wrap .u64 (IntKind.wrap .u64 (e0 hi lo y_) - IntKind.wrap .u64 (v1.1 * IntKind.wrap .u64 (y_ * (2 : Int) ^ min (Int.toNat (e2 y_)) (IntKind.bits .u64)))) * (4294967296 : Int)) + IntKind.wrap .u64 (↑(BitVec.toNat (BitVec.ofInt (IntKind.bits .u64) (e4 lo y_) &&& BitVec.ofInt (IntKind.bits .u64) (4294967295 : Int))) : Int)) - IntKind.wrap .u64 (IntKind.wrap .u64 (v1.2.1.2 - (1 : Int)) * IntKind.wrap .u64 (y_ * (2 : Int) ^ min (Int.toNat (e2 y_)) (IntKind.bits .u64))))) (e9 y_) = r.2) ∧
 True))))))
   ((∃ (v2 : Int × (Int × Int) × Nat), (Ob ((Option.bind (iter (y9 lo y_ (e5 y_)) v2.2.2 v2.2.1) fun y0 => Option.bind (y10 hi lo y_ v2.1 (e5 y_) y0) some) = some r) ∧
 (Ob (v2.2.2 < v1.2.2) ∧
 (Ob (IntKind.wrap .u64 (y_ * (2 : Int) ^ min (Int.toNat (e2 y_)) (IntKind.bits .u64)) = IntKind.wrap .u64 (y_ * (2 : Int) ^ min (Int.toNat (e2 y_)) (IntKind.bits .u64))) ∧
 (Ob (IntKind.wrap .u64 (e5 y_) = IntKind.wrap .u64 (e5 y_)) ∧
 (Ob (Int.fdiv (e1 y_) (e3 ) = Int.fdiv (e1 y_) (e3 )) ∧
 (Ob (IntKind.wrap .u64 (↑(BitVec.toNat (BitVec.ofInt (IntKind.bits .u64) (e1 y_) &&& BitVec.ofInt (IntKind.bits .u64) (4294967295 : Int))) : Int) = IntKind.wrap .u64 (↑(BitVec.toNat (BitVec.ofInt (IntKind.bits .u64) (e1 y_) &&& BitVec.ofInt (IntKind.bits .u64) (4294967295 : Int))) : Int)) ∧
 (Ob (IntKind.wrap .u64 (↑(BitVec.toNat (BitVec.ofInt (IntKind.bits .u64) (e4 lo y_) &&& BitVec.ofInt (IntKind.bits .u64) (4294967295 : Int))) : Int) = IntKind.wrap .u64 (↑(BitVec.toNat (BitVec.ofInt (IntKind.bits .u64) (e4 lo y_) &&& BitVec.ofInt (IntKind.bits .u64) (4294967295 : Int))) : Int)) ∧
 (Ob (v1.1 = v2.1) ∧
 (Ob (IntKind.wrap .u64 (v1.2.1.1 + Int.fdiv (e1 y_) (e3 )) = v2.2.1.1) ∧
 (Ob (IntKind.wrap .u64 (IntKind.wrap .u64 (e0 hi lo y_) - IntKind.wrap .u64 (v1.1 * IntKind.wrap .u64 (y_ * (2 : Int) ^ min (Int.toNat (e2 y_)) (IntKind.bits .u64)))) = IntKind.wrap .u64 (IntKind.wrap .u64 (e0 hi lo y_) - IntKind.wrap .u64 (v2.1 * IntKind.wrap .u64 (y_ * (2 : Int) ^ min (Int.toNat (e2 y_)) (IntKind.bits .u64))))) ∧
 (Ob (IntKind.wrap .u64 (v1.2.1.2 - (1 : Int)) = v2.2.1.2) ∧
 True))))))))))))))
   ((Ob ((0 : Int) ≤ IntKind.wrap .u64 (e5 y_)) ∧
 (Ob (True) ∧
 (Ob (True) ∧
 (Ob (IntKind.wrap .u64 (IntKind.wrap .u64 (v1.1 * (4294967296 : Int)) + v1.2.1.2) = r.1) ∧
 (Ob (Int.fdiv (IntKind.wrap .u64 (IntKind.wrap .u64 (IntKind.wrap .u64 (IntKind.wrap .u64 (IntKind.wrap .u64 (e0 hi lo y_) - IntKind.wrap .u64 (v1.1 * IntKind.wrap .u64 (y_ * (2 : Int) ^ min (Int.toNat (e2 y_)) (IntKind.bits .u64)))) * (4294967296 : Int)) + IntKind.wrap .u64 (↑(BitVec.toNat (BitVec.ofInt (IntKind.bits .u64) (e4 lo y_) &&& BitVec.ofInt (IntKind.bits .u64) (4294967295 : Int))) : Int)) - IntKind.wrap .u64 (v1.2.1.2 * IntKind.wrap .u64 (y_ * (2 : Int) ^ min (Int.toNat (e2 y_)) (IntKind.bits .u64))))) (e9 y_) = r.2) ∧
 True))))))))))))
   ((∃ (v1 : (Int × Int) × Nat), (Ob ((Option.bind (iter (y52 lo y_ (e5 y_)) v1.2 v1.1) fun y0 => Option.bind (y53 hi lo y_ (e5 y_) y0) some) = some r) ∧
 (Ob (v1.2 < v0.2) ∧
 (Ob (IntKind.wrap .u64 (y_ * (2 : Int) ^ min (Int.toNat (e2 y_)) (IntKind.bits .u64)) = IntKind.wrap .u64 (y_ * (2 : Int) ^ min (Int.toNat (e2 y_)) (IntKind.bits .u64))) ∧
 (Ob (IntKind.wrap .u64 (e5 y_) = IntKind.wrap .u64 (e5 y_)) ∧
 (Ob (Int.fdiv (e1 y_) (e3 ) = Int.fdiv (e1 y_) (e3 )) ∧
 (Ob (IntKind.wrap .u64 (↑(BitVec.toNat (BitVec.ofInt (IntKind.bits .u64) (e1 y_) &&& BitVec.ofInt (IntKind.bits .u64) (4294967295 : Int))) : Int) = IntKind.wrap .u64 (↑(BitVec.toNat (BitVec.ofInt (IntKind.bits .u64) (e1 y_) &&& BitVec.ofInt (IntKind.bits .u64) (4294967295 : Int))) : Int)) ∧
 (Ob (IntKind.wrap .u64 (↑(BitVec.toNat (BitVec.ofInt (IntKind.bits .u64) (e7 hi y_) ||| BitVec.ofInt (IntKind.bits .u64) (e6 lo y_))) : Int) = IntKind.wrap .u64 (↑(BitVec.toNat (BitVec.ofInt (IntKind.bits .u64) (e7 hi y_) ||| BitVec.ofInt (IntKind.bits .u64) (e6 lo y_))) : Int)) ∧
 (Ob (Int.fdiv (e4 lo y_) (e3 ) = Int.fdiv (e4 lo y_) (e3 )) ∧
 (Ob (IntKind.wrap .u64 (↑(BitVec.toNat (BitVec.ofInt (IntKind.bits .u64) (e4 lo y_) &&& BitVec.ofInt (IntKind.bits .u64) (4294967295 : Int))) : Int) = IntKind.wrap .u64 (↑(BitVec.toNat (BitVec.ofInt (IntKind.bits .u64) (e4 lo y_) &&& BitVec.ofInt (IntKind.bits .u64) (4294967295 : Int))) : Int)) ∧
 (Ob (IntKind.wrap .u64 (v0.1.1 - (1 : Int)) = v1.1.1) ∧
 (Ob (IntKind.wrap .u64 (v0.1.2 + Int.fdiv (e1 y_) (e3 )) = v1.1.2) ∧
 True))))))))))))))
   ((Ob (Int.fdiv (e1 y_) (e3 ) ≠ (0 : Int)) ∧
   ((∃ (v1 : Int × (Int × Int) × Nat), (Ob ((Option.bind (iter (y9 lo y_ (e5 y_)) v1.2.2 v1.2.1) fun y0 => Option.bind (y10 hi lo y_ v1.1 (e5 y_) y0) some) = some r) ∧
 (Ob (IntKind.wrap .u64 (y_ * (2 : Int) ^ min (Int.toNat (e2 y_)) (IntKind.bits .u64)) = IntKind.wrap .u64 (y_ * (2 : Int) ^ min (Int.toNat (e2 y_)) (IntKind.bits .u64))) ∧
 (Ob (IntKind.wrap .u64 (e5 y_) = IntKind.wrap .u64 (e5 y_)) ∧
 (Ob (Int.fdiv (e1 y_) (e3 ) = Int.fdiv (e1 y_) (e3 )) ∧
 (Ob (IntKind.wrap .u64 (↑(BitVec.toNat (BitVec.ofInt (IntKind.bits .u64) (e1 y_) &&& BitVec.ofInt (IntKind.bits .u64) (4294967295 : Int))) : Int) = IntKind.wrap .u64 (↑(BitVec.toNat (BitVec.ofInt (IntKind.bits .u64) (e1 y_) &&& BitVec.ofInt (IntKind.bits .u64) (4294967295 : Int))) : Int)) ∧
 (Ob (IntKind.wrap .u64 (↑(BitVec.toNat (BitVec.ofInt (IntKind.bits .u64) (e4 lo y_) &&& BitVec.ofInt (IntKind.bits .u64) (4294967295 : Int))) : Int) = IntKind.wrap .u64 (↑(BitVec.toNat (BitVec.ofInt (IntKind.bits .u64) (e4 lo y_) &&& BitVec.ofInt (IntKind.bits .u64) (4294967295 : Int))) : Int)) ∧
 (Ob (v0.1.1 = v1.1) ∧
 (Ob (IntKind.wrap .u64 (IntKind.wrap .u64 (IntKind.wrap .u64 (e0 hi lo y_) - IntKind.wrap .u64 (v0.1.1 * IntKind.wrap .u64 (y_ * (2 : Int) ^ min (Int.toNat (e2 y_)) (IntKind.bits .u64)))) - IntKind.wrap .u64 (IntKind.wrap .u64 (Int.tdiv (IntKind.wrap .u64 (IntKind.wrap .u64 (e0 hi lo y_) - IntKind.wrap .u64 (v0.1.1 * IntKind.wrap .u64 (y_ * (2 : Int) ^ min (Int.toNat (e2 y_)) (IntKind.bits .u64))))) (Int.fdiv (e1 y_) (e3 ))) * Int.fdiv (e1 y_) (e3 ))) = v1.2.1.1) ∧
 (Ob (IntKind.wrap .u64 (IntKind.wrap .u64 (e0 hi lo y_) - IntKind.wrap .u64 (v0.1.1 * IntKind.wrap .u64 (y_ * (2 : Int) ^ min (Int.toNat (e2 y_)) (IntKind.bits .u64)))) = IntKind.wrap .u64 (IntKind.wrap .u64 (e0 hi lo y_) - IntKind.wrap .u64 (v1.1 * IntKind.wrap .u64 (y_ * (2 : Int) ^ min (Int.toNat (e2 y_)) (IntKind.bits .u64))))) ∧
 (Ob (IntKind.wrap .u64 (Int.tdiv (IntKind.wrap .u64 (IntKind.wrap .u64 (e0 hi lo y_) - IntKind.wrap .u64 (v0.1.1 * IntKind.wrap .u64 (y_ * (2 : Int) ^ min (Int.toNat (e2 y_)) (IntKind.bits .u64))))) (Int.fdiv (e1 y_) (e3 ))) = v1.2.1.2) ∧
 True))))))))))) ∧
   (∀ (v1 : Int × (Int × Int) × Nat), ((Option.bind (iter (y9 lo y_ (e5 y_)) v1.2.2 v1.2.1) fun y0 => Option.bind (y10 hi lo y_ v1.1 (e5 y_) y0) some) = some r →
 Br (decide (v1.2.1.2 ≥ (4294967296 : Int)))
 (Br (decide (IntKind.wrap .u64 (v1.2.1.1 + Int.fdiv (e1 y_) (e3 )) ≥ (4294967296 : Int)))
   ((Ob ((0 : Int) ≤ IntKind.wrap .u64 (e5 y_)) ∧
 (Ob (True) ∧
 (Ob (True) ∧
 (Ob (IntKind.wrap .u64 (IntKind.wrap .u64 (v1.1 * (4294967296 : Int)) + IntKind.wrap .u64 (v1.2.1.2 - (1 : Int))) = r.1) ∧
 (Ob (Int.fdiv (IntKind.wrap .u64 (IntKind.wrap .u64 (IntKind.wrap .u64 (IntKind.wrap .u64 (IntKind.wrap .u64 (e0 hi lo y_) - IntKind.wrap .u64 (v1.1 * IntKind.wrap .u64 (y_ * (2 : Int) ^ min (Int.toNat (e2 y_)) (IntKind.bits .u64)))) * (4294967296 : Int)) + IntKind.wrap .u64 (↑(BitVec.toNat (BitVec.ofInt (IntKind.bits .u64) (e4 lo y_) &&& BitVec.ofInt (IntKind.bits .u64) (4294967295 : Int))) : Int)) - IntKind.wrap .u64 (IntKind.wrap .u64 (v1.2.1.2 - (1 : Int)) * IntKind.wrap .u64 (y_ * (2 : Int) ^ min (Int.toNat (e2 y_)) (IntKind.bits .u64))))) (e9 y_) = r.2) ∧
 True))))))
   ((∃ (v2 : Int × (Int × Int) × Nat), (Ob ((Option.bind (iter (y9 lo y_ (e5 y_)) v2.2.2 v2.2.1) fun y0 => Option.bind (y10 hi lo y_ v2.1 (e5 y_) y0) some) = some r) ∧
 (Ob (v2.2.2 < v1.2.2) ∧
 (Ob (IntKind.wrap .u64 (y_ * (2 : Int) ^ min (Int.toNat (e2 y_)) (IntKind.bits .u64)) = IntKind.wrap .u64 (y_ * (2 : Int) ^ min (Int.toNat (e2 y_)) (IntKind.bits .u64))) ∧
 (Ob (IntKind.wrap .u64 (e5 y_) = IntKind.wrap .u64 (e5 y_)) ∧
 (Ob (Int.fdiv (e1 y_) (e3 ) = Int.fdiv (e1 y_) (e3 )) ∧
 (Ob (IntKind.wrap .u64 (↑(BitVec.toNat (BitVec.ofInt (IntKind.bits .u64) (e1 y_) &&& BitVec.ofInt (IntKind.bits .u64) (4294967295 : Int))) : Int) = IntKind.wrap .u64 (↑(BitVec.toNat (BitVec.ofInt (IntKind.bits .u64) (e1 y_) &&& BitVec.ofInt (IntKind.bits .u64) (4294967295 : Int))) : Int)) ∧
 (Ob (IntKind.wrap .u64 (↑(BitVec.toNat (BitVec.ofInt (IntKind.bits .u64) (e4 lo y_) &&& BitVec.ofInt (IntKind.bits .u64) (4294967295 : Int))) : Int) = IntKind.wrap .u64 (↑(BitVec.toNat (BitVec.ofInt (IntKind.bits .u64) (e4 lo y_) &&& BitVec.ofInt (IntKind.bits .u64) (4294967295 : Int))) : Int)) ∧
 (Ob (v1.1 = v2.1) ∧
 (Ob (IntKind.wrap .u64 (v1.2.1.1 + Int.fdiv (e1 y_) (e3 )) = v2.2.1.1) ∧
 (Ob (IntKind.wrap .u64 (IntKind.wrap .u64 (e0 hi lo y_) - IntKind.wrap .u64 (v1.1 * IntKind.wrap .u64 (y_ * (2 : Int) ^ min (Int.toNat (e2 y_)) (IntKind.bits .u64)))) = IntKind.wrap .u64 (IntKind.wrap .u64 (e0 hi lo y_) - IntKind.wrap .u64 (v2.1 * IntKind.wrap .u64 (y_ * (2 : Int) ^ min (Int.toNat (e2 y_)) (IntKind.bits .u64))))) ∧
 (Ob (IntKind.wrap .u64 (v1.2.1.2 - (1 : Int)) = v2.2.1.2) ∧
 True))))))))))))))
 (Br (decide (IntKind.wrap .u64 (v1.2.1.2 * IntKind.wrap .u64 (↑(BitVec.toNat (BitVec.ofInt (IntKind.bits .u64) (e1 y_) &&& BitVec.ofInt (IntKind.bits .u64) (4294967295 : Int))) : Int)) > IntKind.wrap .u64 (IntKind.wrap .u64 ((4294967296 : Int) * v1.2.1.1) + IntKind.wrap .u64 (↑(BitVec.toNat (BitVec.ofInt (IntKind.bits .u64) (e4 lo y_) &&& BitVec.ofInt (IntKind.bits .u64) (4294967295 : Int))) : Int))))
 (Br (decide (IntKind.wrap .u64 (v1.2.1.1 + Int.fdiv (e1 y_) (e3 )) ≥ (4294967296 : Int)))
   ((Ob ((0 : Int) ≤ IntKind.wrap .u64 (e5 y_)) ∧
 (Ob (True) ∧
 (Ob (True) ∧
 (Ob (IntKind.wrap .u64 (IntKind.wrap .u64 (v1.1 * (4294967296 : Int)) + IntKind.wrap .u64 (v1.2.1.2 - (1 : Int))) = r.1) ∧
 (Ob (Int.fdiv (IntKind.wrap .u64 (IntKind.wrap .u64 (IntKind.wrap .u64 (IntKind.wrap .u64 (IntKind.wrap .u64 (e0 hi lo y_) - IntKind.wrap .u64 (v1.1 * IntKind.wrap .u64 (y_ * (2 : Int) ^ min (Int.toNat (e2 y_)) (IntKind.bits .u64)))) * (4294967296 : Int)) + IntKind.wrap .u64 (↑(BitVec.toNat (BitVec.ofInt (IntKind.bits .u64) (e4 lo y_) &&& BitVec.ofInt (IntKind.bits .u64) (4294967295 : Int))) : Int)) - IntKind.wrap .u64 (IntKind.wrap .u64 (v1.2.1.2 - (1 : Int)) * IntKind.wrap .u64 (y_ * (2 : Int) ^ min (Int.toNat (e2 y_)) (IntKind.bits .u64))))) (e9 y_) = r.2) ∧
 True))))))
   ((∃ (v2 : Int × (Int × Int) × Nat), (Ob ((Option.bind (iter (y9 lo y_ (e5 y_)) v2.2.2 v2.2.1) fun y0 => Option.bind (y10 hi lo y_ v2.1 (e5 y_) y0) some) = some r) ∧
 (Ob (v2.2.2 < v1.2.2) ∧
 (Ob (IntKind.wrap .u64 (y_ * (2 : Int) ^ min (Int.toNat (e2 y_)) (IntKind.bits .u64)) = IntKind.wrap .u64 (y_ * (2 : Int) ^ min (Int.toNat (e2 y_)) (IntKind.bits .u64))) ∧
 (Ob (IntKind.wrap .u64 (e5 y_) = IntKind.wrap .u64 (e5 y_)) ∧
 (Ob (Int.fdiv (e1 y_) (e3 ) = Int.fdiv (e1 y_) (e3 )) ∧
 (Ob (IntKind.wrap .u64 (↑(BitVec.toNat (BitVec.ofInt (IntKind.bits .u64) (e1 y_) &&& BitVec.ofInt (IntKind.bits .u64) (4294967295 : Int))) : Int) = IntKind.wrap .u64 (↑(BitVec.toNat (BitVec.ofInt (IntKind.bits .u64) (e1 y_) &&& BitVec.ofInt (IntKind.bits .u64) (4294967295 : Int))) : Int)) ∧
 (Ob (IntKind.wrap .u64 (↑(BitVec.toNat (BitVec.ofInt (IntKind.bits .u64) (e4 lo y_) &&& BitVec.ofInt (IntKind.bits .u64) (4294967295 : Int))) : Int) = IntKind.wrap .u64 (↑(BitVec.toNat (BitVec.ofInt (IntKind.bits .u64) (e4 lo y_) &&& BitVec.ofInt (IntKind.bits .u64) (4294967295 : Int))) : Int)) ∧
 (Ob (v1.1 = v2.1) ∧
 (Ob (IntKind.wrap .u64 (v1.2.1.1 + Int.fdiv (e1 y_) (e3 )) = v2.2.1.1) ∧
 (Ob (IntKind.wrap .u64 (IntKind.wrap .u64 (e0 hi lo y_) - IntKind.wrap .u64 (v1.1 * IntKind.wrap .u64 (y_ * (2 : Int) ^ min (Int.toNat (e2 y_)) (IntKind.bits .u64)))) = IntKind.wrap .u64 (IntKind.wrap .u64 (e0 hi lo y_) - IntKind.wrap .u64 (v2.1 * IntKind.wrap .u64 (y_ * (2 : Int) ^ min (Int.toNat (e2 y_)) (IntKind.bits .u64))))) ∧
 (Ob (IntKind.wrap .u64 (v1.2.1.2 - (1 : Int)) = v2.2.1.2) ∧
 True))))))))))))))
   ((Ob ((0 : Int) ≤ IntKind.wrap .u64 (e5 y_)) ∧
 (Ob (True) ∧
 (Ob (True) ∧
 (Ob (IntKind.wrap .u64 (IntKind.wrap .u64 (v1.1 * (4294967296 : Int)) + v1.2.1.2) = r.1) ∧
 (Ob (Int.fdiv (IntKind.wrap .u64 (IntKind.wrap .u64 (IntKind.wrap .u64 (IntKind.wrap .u64 (IntKind.wrap .u64 (e0 hi lo y_) - IntKind.wrap .u64 (v1.1 * IntKind.wrap .u64 (y_ * (2 : Int) ^ min (Int.toNat (e2 y_)) (IntKind.bits .u64)))) * (4294967296 : Int)) + IntKind.wrap .u64 (↑(BitVec.toNat (BitVec.ofInt (IntKind.bits .u64) (e4 lo y_) &&& BitVec.ofInt (IntKind.bits .u64) (4294967295 : Int))) : Int)) - IntKind.wrap .u64 (v1.2.1.2 * IntKind.wrap .u64 (y_ * (2 : Int) ^ min (Int.toNat (e2 y_)) (IntKind.bits .u64))))) (e9 y_) = r.2) ∧
 True))))))))))))))))))))))))))))) = _) ?_
  refine br_b h (fun h => ?_) (fun h => ?_)
  · exact nomatch h
  · refine br_d h (fun h => ?_) (fun h => ?_)
    · exact nomatch h
    · refine br_b h (fun h => ?_) (fun h => ?_)
      · refine ob_s h fun h => ?_
        refine ob_s h fun h => ?_
        refine ob_t ?_
        refine ob_t ?_
        exact ret_s h (fun e => by subst e; exact (by repeat' (first | exact trivial | exact ⟨rfl⟩ | refine And.intro ?_ ?_)))
      · refine call_s h fun h => ?_
        refine ob_t ?_
        refine ob_s h fun h => ?_
        refine ob_c (p := (0 : Int) ≤ (32 : Int)) (by decide) ?_
        refine ob_s h fun h => ?_
        refine ob_s h fun h => ?_
        refine ob_s h fun h => ?_
        refine ob_c (p := (0 : Int) ≤ (32 : Int)) (by decide) ?_
        refine ob_s h fun h => ?_
        refine ⟨⟨((IntKind.wrap .u64 (Int.tdiv (e8 hi lo y_) (Int.fdiv (e1 y_) (e3 ))), IntKind.wrap .u64 (IntKind.wrap .u64 (↑(BitVec.toNat (BitVec.ofInt (IntKind.bits .u64) (e7 hi y_) ||| BitVec.ofInt (IntKind.bits .u64) (e6 lo y_))) : Int) - IntKind.wrap .u64 (IntKind.wrap .u64 (Int.tdiv (e8 hi lo y_) (Int.fdiv (e1 y_) (e3 ))) * Int.fdiv (e1 y_) (e3 )))), big), ⟨loop_s h⟩, (by repeat' (first | exact trivial | exact ⟨rfl⟩ | refine And.intro ?_ ?_))⟩, fun z1 hz1 => ?_⟩
        obtain ⟨k1, hm1, h⟩ := iter_pos hz1
        refine br_d h (fun h => ?_) (fun h => ?_)
        · refine br_d h (fun h => ?_) (fun h => ?_)
          · have h := exit_s h
            refine ob_s h fun h => ?_
            refine ⟨⟨(IntKind.wrap .u64 ((Prod.fst z1).1 - (1 : Int)), (IntKind.wrap .u64 (IntKind.wrap .u64 (IntKind.wrap .u64 (e0 hi lo y_) - IntKind.wrap .u64 (IntKind.wrap .u64 ((Prod.fst z1).1 - (1 : Int)) * IntKind.wrap .u64 (y_ * (2 : Int) ^ min (Int.toNat (e2 y_)) (IntKind.bits .u64)))) - IntKind.wrap .u64 (IntKind.wrap .u64 (Int.tdiv (IntKind.wrap .u64 (IntKind.wrap .u64 (e0 hi lo y_) - IntKind.wrap .u64 (IntKind.wrap .u64 ((Prod.fst z1).1 - (1 : Int)) * IntKind.wrap .u64 (y_ * (2 : Int) ^ min (Int.toNat (e2 y_)) (IntKind.bits .u64))))) (Int.fdiv (e1 y_) (e3 ))) * Int.fdiv (e1 y_) (e3 ))), IntKind.wrap .u64 (Int.tdiv (IntKind.wrap .u64 (IntKind.wrap .u64 (e0 hi lo y_) - IntKind.wrap .u64 (IntKind.wrap .u64 ((Prod.fst z1).1 - (1 : Int)) * IntKind.wrap .u64 (y_ * (2 : Int) ^ min (Int.toNat (e2 y_)) (IntKind.bits .u64))))) (Int.fdiv (e1 y_) (e3 )))), big), ⟨loop_s h⟩, (by repeat' (first | exact trivial | exact ⟨rfl⟩ | refine And.intro ?_ ?_))⟩, fun z2 hz2 => ?_⟩
            obtain ⟨k2, hm2, h⟩ := iter_pos hz2
            refine br_d h (fun h => ?_) (fun h => ?_)
            · refine br_d h (fun h => ?_) (fun h => ?_)
              · have h := exit_s h
                refine ob_s h fun h => ?_
                refine ob_t ?_
                refine ob_t ?_
                exact ret_s h (fun e => by subst e; exact (by repeat' (first | exact trivial | exact ⟨rfl⟩ | refine And.intro ?_ ?_)))
              · exact ⟨(Prod.fst z2, (IntKind.wrap .u64 ((Prod.fst (Prod.snd z2)).1 + Int.fdiv (e1 y_) (e3 )), IntKind.wrap .u64 ((Prod.fst (Prod.snd z2)).2 - (1 : Int))), k2), ⟨next_s h⟩, ⟨lt_gs hm2.symm⟩, (by repeat' (first | exact trivial | exact ⟨rfl⟩ | refine And.intro ?_ ?_))⟩
            · refine br_d h (fun h => ?_) (fun h => ?_)
              · refine br_d h (fun h => ?_) (fun h => ?_)
                · have h := exit_s h
                  refine ob_s h fun h => ?_
                  refine ob_t ?_
                  refine ob_t ?_
                  exact ret_s h (fun e => by subst e; exact (by repeat' (first | exact trivial | exact ⟨rfl⟩ | refine And.intro ?_ ?_)))
                · exact ⟨(Prod.fst z2, (IntKind.wrap .u64 ((Prod.fst (Prod.snd z2)).1 + Int.fdiv (e1 y_) (e3 )), IntKind.wrap .u64 ((Prod.fst (Prod.snd z2)).2 - (1 : Int))), k2), ⟨next_s h⟩, ⟨lt_gs hm2.symm⟩, (by repeat' (first | exact trivial | exact ⟨rfl⟩ | refine And.intro ?_ ?_))⟩
              · have h := exit_s h
                refine ob_s h fun h => ?_
                refine ob_t ?_
                refine ob_t ?_
                exact ret_s h (fun e => by subst e; exact (by repeat' (first | exact trivial | exact ⟨rfl⟩ | refine And.intro ?_ ?_)))
          · exact ⟨((IntKind.wrap .u64 ((Prod.fst z1).1 - (1 : Int)), IntKind.wrap .u64 ((Prod.fst z1).2 + Int.fdiv (e1 y_) (e3 ))), k1), ⟨next_s h⟩, ⟨lt_gs hm1.symm⟩, (by repeat' (first | exact trivial | exact ⟨rfl⟩ | refine And.intro ?_ ?_))⟩
        · refine br_d h (fun h => ?_) (fun h => ?_)
          · refine br_d h (fun h => ?_) (fun h => ?_)
            · have h := exit_s h
              refine ob_s h fun h => ?_
              refine ⟨⟨(IntKind.wrap .u64 ((Prod.fst z1).1 - (1 : Int)), (IntKind.wrap .u64 (IntKind.wrap .u64 (IntKind.wrap .u64 (e0 hi lo y_) - IntKind.wrap .u64 (IntKind.wrap .u64 ((Prod.fst z1).1 - (1 : Int)) * IntKind.wrap .u64 (y_ * (2 : Int) ^ min (Int.toNat (e2 y_)) (IntKind.bits .u64)))) - IntKind.wrap .u64 (IntKind.wrap .u64 (Int.tdiv (IntKind.wrap .u64 (IntKind.wrap .u64 (e0 hi lo y_) - IntKind.wrap .u64 (IntKind.wrap .u64 ((Prod.fst z1).1 - (1 : Int)) * IntKind.wrap .u64 (y_ * (2 : Int) ^ min (Int.toNat (e2 y_)) (IntKind.bits .u64))))) (Int.fdiv (e1 y_) (e3 ))) * Int.fdiv (e1 y_) (e3 ))), IntKind.wrap .u64 (Int.tdiv (IntKind.wrap .u64 (IntKind.wrap .u64 (e0 hi lo y_) - IntKind.wrap .u64 (IntKind.wrap .u64 ((Prod.fst z1).1 - (1 : Int)) * IntKind.wrap .u64 (y_ * (2 : Int) ^ min (Int.toNat (e2 y_)) (IntKind.bits .u64))))) (Int.fdiv (e1 y_) (e3 )))), big), ⟨loop_s h⟩, (by repeat' (first | exact trivial | exact ⟨rfl⟩ | refine And.intro ?_ ?_))⟩, fun z3 hz3 => ?_⟩
              obtain ⟨k3, hm3, h⟩ := iter_pos hz3
              refine br_d h (fun h => ?_) (fun h => ?_)
              · refine br_d h (fun h => ?_) (fun h => ?_)
                · have h := exit_s h
                  refine ob_s h fun h => ?_
                  refine ob_t ?_
                  refine ob_t ?_
                  exact ret_s h (fun e => by subst e; exact (by repeat' (first | exact trivial | exact ⟨rfl⟩ | refine And.intro ?_ ?_)))
                · exact ⟨(Prod.fst z3, (IntKind.wrap .u64 ((Prod.fst (Prod.snd z3)).1 + Int.fdiv (e1 y_) (e3 )), IntKind.wrap .u64 ((Prod.fst (Prod.snd z3)).2 - (1 : Int))), k3), ⟨next_s h⟩, ⟨lt_gs hm3.symm⟩, (by repeat' (first | exact trivial | exact ⟨rfl⟩ | refine And.intro ?_ ?_))⟩
              · refine br_d h (fun h => ?_) (fun h => ?_)
                · refine br_d h (fun h => ?_) (fun h => ?_)
                  · have h := exit_s h
                    refine ob_s h fun h => ?_
                    refine ob_t ?_
                    refine ob_t ?_
                    exact ret_s h (fun e => by subst e; exact (by repeat' (first | exact trivial | exact ⟨rfl⟩ | refine And.intro ?_ ?_)))
                  · exact ⟨(Prod.fst z3, (IntKind.wrap .u64 ((Prod.fst (Prod.snd z3)).1 + Int.fdiv (e1 y_) (e3 )), IntKind.wrap .u64 ((Prod.fst (Prod.snd z3)).2 - (1 : Int))), k3), ⟨next_s h⟩, ⟨lt_gs hm3.symm⟩, (by repeat' (first | exact trivial | exact ⟨rfl⟩ | refine And.intro ?_ ?_))⟩
                · have h := exit_s h
                  refine ob_s h fun h => ?_
                  refine ob_t ?_
                  refine ob_t ?_
                  exact ret_s h (fun e => by subst e; exact (by repeat' (first | exact trivial | exact ⟨rfl⟩ | refine And.intro ?_ ?_)))
            · exact ⟨((IntKind.wrap .u64 ((Prod.fst z1).1 - (1 : Int)), IntKind.wrap .u64 ((Prod.fst z1).2 + Int.fdiv (e1 y_) (e3 ))), k1), ⟨next_s h⟩, ⟨lt_gs hm1.symm⟩, (by repeat' (first | exact trivial | exact ⟨rfl⟩ | refine And.intro ?_ ?_))⟩
          · have h := exit_s h
            refine ob_s h fun h => ?_
            refine ⟨⟨((Prod.fst z1).1, (IntKind.wrap .u64 (IntKind.wrap .u64 (IntKind.wrap .u64 (e0 hi lo y_) - IntKind.wrap .u64 ((Prod.fst z1).1 * IntKind.wrap .u64 (y_ * (2 : Int) ^ min (Int.toNat (e2 y_)) (IntKind.bits .u64)))) - IntKind.wrap .u64 (IntKind.wrap .u64 (Int.tdiv (IntKind.wrap .u64 (IntKind.wrap .u64 (e0 hi lo y_) - IntKind.wrap .u64 ((Prod.fst z1).1 * IntKind.wrap .u64 (y_ * (2 : Int) ^ min (Int.toNat (e2 y_)) (IntKind.bits .u64))))) (Int.fdiv (e1 y_) (e3 ))) * Int.fdiv (e1 y_) (e3 ))), IntKind.wrap .u64 (Int.tdiv (IntKind.wrap .u64 (IntKind.wrap .u64 (e0 hi lo y_) - IntKind.wrap .u64 ((Prod.fst z1).1 * IntKind.wrap .u64 (y_ * (2 : Int) ^ min (Int.toNat (e2 y_)) (IntKind.bits .u64))))) (Int.fdiv (e1 y_) (e3 )))), big), ⟨loop_s h⟩, (by repeat' (first | exact trivial | exact ⟨rfl⟩ | refine And.intro ?_ ?_))⟩, fun z4 hz4 => ?_⟩
            obtain ⟨k4, hm4, h⟩ := iter_pos hz4
            refine br_d h (fun h => ?_) (fun h => ?_)
            · refine br_d h (fun h => ?_) (fun h => ?_)
              · have h := exit_s h
                refine ob_s h fun h => ?_
                refine ob_t ?_
                refine ob_t ?_
                exact ret_s h (fun e => by subst e; exact (by repeat' (first | exact trivial | exact ⟨rfl⟩ | refine And.intro ?_ ?_)))
              · exact ⟨(Prod.fst z4, (IntKind.wrap .u64 ((Prod.fst (Prod.snd z4)).1 + Int.fdiv (e1 y_) (e3 )), IntKind.wrap .u64 ((Prod.fst (Prod.snd z4)).2 - (1 : Int))), k4), ⟨next_s h⟩, ⟨lt_gs hm4.symm⟩, (by repeat' (first | exact trivial | exact ⟨rfl⟩ | refine And.intro ?_ ?_))⟩
            · refine br_d h (fun h => ?_) (fun h => ?_)
              · refine br_d h (fun h => ?_) (fun h => ?_)
                · have h := exit_s h
                  refine ob_s h fun h => ?_
                  refine ob_t ?_
                  refine ob_t ?_
                  exact ret_s h (fun e => by subst e; exact (by repeat' (first | exact trivial | exact ⟨rfl⟩ | refine And.intro ?_ ?_)))
                · exact ⟨(Prod.fst z4, (IntKind.wrap .u64 ((Prod.fst (Prod.snd z4)).1 + Int.fdiv (e1 y_) (e3 )), IntKind.wrap .u64 ((Prod.fst (Prod.snd z4)).2 - (1 : Int))), k4), ⟨next_s h⟩, ⟨lt_gs hm4.symm⟩, (by repeat' (first | exact trivial | exact ⟨rfl⟩ | refine And.intro ?_ ?_))⟩
              · have h := exit_s h
                refine ob_s h fun h => ?_
                refine ob_t ?_
                refine ob_t ?_
                exact ret_s h (fun e => by subst e; exact (by repeat' (first | exact trivial | exact ⟨rfl⟩ | refine And.intro ?_ ?_)))
set_option maxRecDepth 100000 in
theorem math_bits_Div64_ok : SpecOK Tryz.prog 127 true (pureK k_math_bits_Div64 y134) := by
  refine pureK_ok (sp := (sp_150 sp0)) (fn := Tryz.f127) (body := bodyOf Tryz.f127) mixed (sp_150_ok sp0_ok) Tryz.func127 (by kernel_rfl) (by kernel_rfl) fun as_ ob rs h ho => ?_
  unfold y134 at h
  split at h
  · rename_i hi lo y_
    cases h
    exact ⟨Nat.le_of_ble_eq_true rfl, _, _, math_bits_Div64_vc hi lo y_ _ (ok_some ho)⟩
  · cases h
theorem sp_127_ok {sp : Specs} (h : SpecsOK Tryz.prog sp) : SpecsOK Tryz.prog (sp_127 sp) := addK_ok math_bits_Div64_ok h
def y118 : List SV := [.c (.d), .c (.d), .c (.p [.p [.d, .r (.floats .f32 []), .d, .d, .r (.recs 2 []), .r (.recs 2 [])]])]
def y13 (u65 : Int) (u66 : Int) (u18 : Int) (u19 : List Nat) (u20 : Int) (u21 : Int) (u22 : List (List Int)) (u23 : List (List Int)) : Option (Int × Bool) :=
  Option.bind (y6 (IntKind.wrap .u64 u65) (1000000 : Int)) fun r0 =>
  Option.bind (y49 (IntKind.wrap .u64 (IntKind.wrap .u64 (IntKind.wrap .u64 (Int.fdiv (IntKind.wrap .u64 u65) ((2 : Int) ^ min (32 : Nat) (IntKind.bits .u64)) * Int.fdiv (1000000 : Int) ((2 : Int) ^ min (32 : Nat) (IntKind.bits .u64))) + Int.fdiv (IntKind.wrap .u64 (IntKind.wrap .u64 (Int.fdiv (IntKind.wrap .u64 u65) ((2 : Int) ^ min (32 : Nat) (IntKind.bits .u64)) * IntKind.wrap .u64 (↑(BitVec.toNat (BitVec.ofInt (IntKind.bits .u64) (1000000 : Int) &&& BitVec.ofInt (IntKind.bits .u64) (4294967295 : Int))) : Int)) + Int.fdiv (IntKind.wrap .u64 (IntKind.wrap .u64 (↑(BitVec.toNat (BitVec.ofInt (IntKind.bits .u64) (IntKind.wrap .u64 u65) &&& BitVec.ofInt (IntKind.bits .u64) (4294967295 : Int))) : Int) * IntKind.wrap .u64 (↑(BitVec.toNat (BitVec.ofInt (IntKind.bits .u64) (1000000 : Int) &&& BitVec.ofInt (IntKind.bits .u64) (4294967295 : Int))) : Int))) ((2 : Int) ^ min (32 : Nat) (IntKind.bits .u64)))) ((2 : Int) ^ min (32 : Nat) (IntKind.bits .u64))) + Int.fdiv (IntKind.wrap .u64 (IntKind.wrap .u64 (↑(BitVec.toNat (BitVec.ofInt (IntKind.bits .u64) (IntKind.wrap .u64 (IntKind.wrap .u64 (Int.fdiv (IntKind.wrap .u64 u65) ((2 : Int) ^ min (32 : Nat) (IntKind.bits .u64)) * IntKind.wrap .u64 (↑(BitVec.toNat (BitVec.ofInt (IntKind.bits .u64) (1000000 : Int) &&& BitVec.ofInt (IntKind.bits .u64) (4294967295 : Int))) : Int)) + Int.fdiv (IntKind.wrap .u64 (IntKind.wrap .u64 (↑(BitVec.toNat (BitVec.ofInt (IntKind.bits .u64) (IntKind.wrap .u64 u65) &&& BitVec.ofInt (IntKind.bits .u64) (4294967295 : Int))) : Int) * IntKind.wrap .u64 (↑(BitVec.toNat (BitVec.ofInt (IntKind.bits .u64) (1000000 : Int) &&& BitVec.ofInt (IntKind.bits .u64) (4294967295 : Int))) : Int))) ((2 : Int) ^ min (32 : Nat) (IntKind.bits .u64)))) &&& BitVec.ofInt (IntKind.bits .u64) (4294967295 : Int))) : Int) + IntKind.wrap .u64 (IntKind.wrap .u64 (↑(BitVec.toNat (BitVec.ofInt (IntKind.bits .u64) (IntKind.wrap .u64 u65) &&& BitVec.ofInt (IntKind.bits .u64) (4294967295 : Int))) : Int) * Int.fdiv (1000000 : Int) ((2 : Int) ^ min (32 : Nat) (IntKind.bits .u64))))) ((2 : Int) ^ min (32 : Nat) (IntKind.bits .u64)))) (IntKind.wrap .u64 (IntKind.wrap .u64 u65 * (1000000 : Int))) (IntKind.wrap .u64 (IntKind.wrap .i64 (u66 * u18)))) fun r1 =>
  some ((IntKind.wrap .i64 r1.1, decide (r1.2 > (0 : Int))))
def y119 : List Lf → Option GT
  | [.d (.i .i64 u65), .d (.i .i64 u66), .d (.i .i64 u18), .r (.floats .f32 u19), .d (.i .i64 u20), .d (.i .i64 u21), .r (.recs 2 u22), .r (.recs 2 u23)] => some (.leaf (ok (y13 u65 u66 u18 u19 u20 u21 u22 u23)) [.c (.d (.i .i64 ((val (y13 u65 u66 u18 u19 u20 u21 u22 u23)).1))), .c (.d (.b ((val (y13 u65 u66 u18 u19 u20 u21 u22 u23)).2)))])
  | _ => none
abbrev sp_125 : Specs → Specs := addK 125 true (pureT y118 y119)
set_option maxRecDepth 100000 in
theorem G_decay_centre_1_vc (u65 : Int) (u66 : Int) (u18 : Int) (u19 : List Nat) (u20 : Int) (u21 : Int) (u22 : List (List Int)) (u23 : List (List Int)) (r : Int × Bool) (h : Option.bind (y13 u65 u66 u18 u19 u20 u21 u22 u23) some = some r) : runT Tryz.f125 ((sp_126 (sp_127 sp0))) (fun _ _ _ => none) (bldD y118 [.d (.i .i64 u65), .d (.i .i64 u66), .d (.i .i64 u18), .r (.floats .f32 u19), .d (.i .i64 u20), .d (.i .i64 u21), .r (.recs 2 u22), .r (.recs 2 u23)]) [.c (.d (.i .i64 r.1)), .c (.d (.b r.2))] := by
  refine Eq.mp (by kernel_rfl : (
 (Ob (True) ∧
 (Ob (ok (y6 (IntKind.wrap .u64 u65) (1000000 : Int))) ∧
 (Ob (True) ∧
 (Ob (True) ∧
 (Ob (True) ∧
 (Ob (ok (y49 (IntKind.wrap .u64 (IntKind.wrap .u64 (IntKind.wrap .u64 (Int.fdiv (IntKind.wrap .u64 u65) ((2 : Int) ^ min (32 : Nat) (IntKind.bits .u64)) * Int.fdiv (1000000 : Int) ((2 : Int) ^ min (32 : Nat) (IntKind.bits .u64))) + Int.fdiv (IntKind.wrap .u64 (IntKind.wrap .u64 (Int.fdiv (IntKind.wrap .u64 u65) ((2 : Int) ^ min (32 : Nat) (IntKind.bits .u64)) * IntKind.wrap .u64 (↑(BitVec.toNat (BitVec.ofInt (IntKind.bits .u64) (1000000 : Int) &&& BitVec.ofInt (IntKind.bits .u64) (4294967295 : Int))) : Int)) + Int.fdiv (IntKind.wrap .u64 (IntKind.wrap .u64 (↑(BitVec.toNat (BitVec.ofInt (IntKind.bits .u64) (IntKind.wrap .u64 u65) &&& BitVec.ofInt (IntKind.bits .u64) (4294967295 : Int))) : Int) * IntKind.wrap .u64 (↑(BitVec.toNat (BitVec.ofInt (IntKind.bits .u64) (1000000 : Int) &&& BitVec.ofInt (IntKind.bits .u64) (4294967295 : Int))) : Int))) ((2 : Int) ^ min (32 : Nat) (IntKind.bits .u64)))) ((2 : Int) ^ min (32 : Nat) (IntKind.bits .u64))) + Int.fdiv (IntKind.wrap .u64 (IntKind.wrap .u64 (↑(BitVec.toNat (BitVec.ofInt (IntKind.bits .u64) (IntKind.wrap .u64 (IntKind.wrap .u64 (Int.fdiv (IntKind.wrap .u64 u65) ((2 : Int) ^ min (32 : Nat) (IntKind.bits .u64)) * IntKind.wrap .u64 (↑(BitVec.toNat (BitVec.ofInt (IntKind.bits .u64) (1000000 : Int) &&& BitVec.ofInt (IntKind.bits .u64) (4294967295 : Int))) : Int)) + Int.fdiv (IntKind.wrap .u64 (IntKind.wrap .u64 (↑(BitVec.toNat (BitVec.ofInt (IntKind.bits .u64) (IntKind.wrap .u64 u65) &&& BitVec.ofInt (IntKind.bits .u64) (4294967295 : Int))) : Int) * IntKind.wrap .u64 (↑(BitVec.toNat (BitVec.ofInt (IntKind.bits .u64) (1000000 : Int) &&& BitVec.ofInt (IntKind.bits .u64) (4294967295 : Int))) : Int))) ((2 : Int) ^ min (32 : Nat) (IntKind.bits .u64)))) &&& BitVec.ofInt (IntKind.bits .u64) (4294967295 : Int))) : Int) + IntKind.wrap .u64 (IntKind.wrap .u64 (↑(BitVec.toNat (BitVec.ofInt (IntKind.bits .u64) (IntKind.wrap .u64 u65) &&& BitVec.ofInt (IntKind.bits .u64) (4294967295 : Int))) : Int) * Int.fdiv (1000000 : Int) ((2 : Int) ^ min (32 : Nat) (IntKind.bits .u64))))) ((2 : Int) ^ min (32 : Nat) (IntKind.bits .u64)))) (IntKind.wrap .u64 (IntKind.wrap .u64 u65 * (1000000 : Int))) (IntKind.wrap .u64 (IntKind.wrap .i64 (u66 * u18))))) ∧
 (Ob (True) ∧
 (Ob (True) ∧
 (Ob (True) ∧
 (Ob (IntKind.wrap .i64 (val (y49 (IntKind.wrap .u64 (IntKind.wrap .u64 (IntKind.wrap .u64 (Int.fdiv (IntKind.wrap .u64 u65) ((2 : Int) ^ min (32 : Nat) (IntKind.bits .u64)) * Int.fdiv (1000000 : Int) ((2 : Int) ^ min (32 : Nat) (IntKind.bits .u64))) + Int.fdiv (IntKind.wrap .u64 (IntKind.wrap .u64 (Int.fdiv (IntKind.wrap .u64 u65) ((2 : Int) ^ min (32 : Nat) (IntKind.bits .u64)) * IntKind.wrap .u64 (↑(BitVec.toNat (BitVec.ofInt (IntKind.bits .u64) (1000000 : Int) &&& BitVec.ofInt (IntKind.bits .u64) (4294967295 : Int))) : Int)) + Int.fdiv (IntKind.wrap .u64 (IntKind.wrap .u64 (↑(BitVec.toNat (BitVec.ofInt (IntKind.bits .u64) (IntKind.wrap .u64 u65) &&& BitVec.ofInt (IntKind.bits .u64) (4294967295 : Int))) : Int) * IntKind.wrap .u64 (↑(BitVec.toNat (BitVec.ofInt (IntKind.bits .u64) (1000000 : Int) &&& BitVec.ofInt (IntKind.bits .u64) (4294967295 : Int))) : Int))) ((2 : Int) ^ min (32 : Nat) (IntKind.bits .u64)))) ((2 : Int) ^ min (32 : Nat) (IntKind.bits .u64))) + Int.fdiv (IntKind.wrap .u64 (IntKind.wrap .u64 (↑(BitVec.toNat (BitVec.ofInt (IntKind.bits .u64) (IntKind.wrap .u64 (IntKind.wrap .u64 (Int.fdiv (IntKind.wrap .u64 u65) ((2 : Int) ^ min (32 : Nat) (IntKind.bits .u64)) * IntKind.wrap .u64 (↑(BitVec.toNat (BitVec.ofInt (IntKind.bits .u64) (1000000 : Int) &&& BitVec.ofInt (IntKind.bits .u64) (4294967295 : Int))) : Int)) + Int.fdiv (IntKind.wrap .u64 (IntKind.wrap .u64 (↑(BitVec.toNat (BitVec.ofInt (IntKind.bits .u64) (IntKind.wrap .u64 u65) &&& BitVec.ofInt (IntKind.bits .u64) (4294967295 : Int))) : Int) * IntKind.wrap .u64 (↑(BitVec.toNat (BitVec.ofInt (IntKind.bits .u64) (1000000 : Int) &&& BitVec.ofInt (IntKind.bits .u64) (4294967295 : Int))) : Int))) ((2 : Int) ^ min (32 : Nat) (IntKind.bits .u64)))) &&& BitVec.ofInt (IntKind.bits .u64) (4294967295 : Int))) : Int) + IntKind.wrap .u64 (IntKind.wrap .u64 (↑(BitVec.toNat (BitVec.ofInt (IntKind.bits .u64) (IntKind.wrap .u64 u65) &&& BitVec.ofInt (IntKind.bits .u64) (4294967295 : Int))) : Int) * Int.fdiv (1000000 : Int) ((2 : Int) ^ min (32 : Nat) (IntKind.bits .u64))))) ((2 : Int) ^ min (32 : Nat) (IntKind.bits .u64)))) (IntKind.wrap .u64 (IntKind.wrap .u64 u65 * (1000000 : Int))) (IntKind.wrap .u64 (IntKind.wrap .i64 (u66 * u18))))).1 = r.1) ∧
 (Ob (decide ((val (y49 (IntKind.wrap .u64 (IntKind.wrap .u64 (IntKind.wrap .u64 (Int.fdiv (IntKind.wrap .u64 u65) ((2 : Int) ^ min (32 : Nat) (IntKind.bits .u64)) * Int.fdiv (1000000 : Int) ((2 : Int) ^ min (32 : Nat) (IntKind.bits .u64))) + Int.fdiv (IntKind.wrap .u64 (IntKind.wrap .u64 (Int.fdiv (IntKind.wrap .u64 u65) ((2 : Int) ^ min (32 : Nat) (IntKind.bits .u64)) * IntKind.wrap .u64 (↑(BitVec.toNat (BitVec.ofInt (IntKind.bits .u64) (1000000 : Int) &&& BitVec.ofInt (IntKind.bits .u64) (4294967295 : Int))) : Int)) + Int.fdiv (IntKind.wrap .u64 (IntKind.wrap .u64 (↑(BitVec.toNat (BitVec.ofInt (IntKind.bits .u64) (IntKind.wrap .u64 u65) &&& BitVec.ofInt (IntKind.bits .u64) (4294967295 : Int))) : Int) * IntKind.wrap .u64 (↑(BitVec.toNat (BitVec.ofInt (IntKind.bits .u64) (1000000 : Int) &&& BitVec.ofInt (IntKind.bits .u64) (4294967295 : Int))) : Int))) ((2 : Int) ^ min (32 : Nat) (IntKind.bits .u64)))) ((2 : Int) ^ min (32 : Nat) (IntKind.bits .u64))) + Int.fdiv (IntKind.wrap .u64 (IntKind.wrap .u64 (↑(BitVec.toNat (BitVec.ofInt (IntKind.bits .u64) (IntKind.wrap .u64 (IntKind.wrap .u64 (Int.fdiv (IntKind.wrap .u64 u65) ((2 : Int) ^ min (32 : Nat) (IntKind.bits .u64)) * IntKind.wrap .u64 (↑(BitVec.toNat (BitVec.ofInt (IntKind.bits .u64) (1000000 : Int) &&& BitVec.ofInt (IntKind.bits .u64) (4294967295 : Int))) : Int)) + Int.fdiv (IntKind.wrap .u64 (IntKind.wrap .u64 (↑(BitVec.toNat (BitVec.ofInt (IntKind.bits .u64) (IntKind.wrap .u64 u65) &&& BitVec.ofInt (IntKind.bits .u64) (4294967295 : Int))) : Int) * IntKind.wrap .u64 (↑(BitVec.toNat (BitVec.ofInt (IntKind.bits .u64) (1000000 : Int) &&& BitVec.ofInt (IntKind.bits .u64) (4294967295 : Int))) : Int))) ((2 : Int) ^ min (32 : Nat) (IntKind.bits .u64)))) &&& BitVec.ofInt (IntKind.bits .u64) (4294967295 : Int))) : Int) + IntKind.wrap .u64 (IntKind.wrap .u64 (↑(BitVec.toNat (BitVec.ofInt (IntKind.bits .u64) (IntKind.wrap .u64 u65) &&& BitVec.ofInt (IntKind.bits .u64) (4294967295 : Int))) : Int) * Int.fdiv (1000000 : Int) ((2 : Int) ^ min (32 : Nat) (IntKind.bits .u64))))) ((2 : Int) ^ min (32 : Nat) (IntKind.bits .u64)))) (IntKind.wrap .u64 (IntKind.wrap .u64 u65 * (1000000 : Int))) (IntKind.wrap .u64 (IntKind.wrap .i64 (u66 * u18))))).2 > (0 : Int)) = r.2) ∧
 True)))))))))))) = _) ?_
  refine ob_t ?_
  refine call_s h fun h => ?_
  refine ob_t ?_
  refine ob_t ?_
  refine ob_t ?_
  refine call_s h fun h => ?_
  refine ob_t ?_
  refine ob_t ?_
  refine ob_t ?_
  exact ret_s h (fun e => by subst e; exact (by repeat' (first | exact trivial | exact ⟨rfl⟩ | refine And.intro ?_ ?_)))
set_option maxRecDepth 100000 in
theorem G_decay_centre_1_ok : SpecOK Tryz.prog 125 true (pureT y118 y119) := by
  refine pureT_ok (sp := (sp_126 (sp_127 sp0))) (fn := Tryz.f125) (body := bodyOf Tryz.f125) mixed (sp_126_ok (sp_127_ok sp0_ok)) Tryz.func125 (by kernel_rfl) (by kernel_rfl) fun ls t h ho b hb => ?_
  unfold y119 at h
  split at h
  · rename_i u65 u66 u18 u19 u20 u21 u22 u23
    cases h
    obtain rfl := bld_eq hb
    exact ⟨Nat.le_of_ble_eq_true (by kernel_rfl), _, _, G_decay_centre_1_vc u65 u66 u18 u19 u20 u21 u22 u23 _ (ok_some ho)⟩
  · cases h
theorem sp_125_ok {sp : Specs} (h : SpecsOK Tryz.prog sp) : SpecsOK Tryz.prog (sp_125 sp) := addK_ok G_decay_centre_1_ok h
end Go.Sh
end

section
namespace Go.Sh
open Go Go.Proofs Go.RowKit Go.Sx
set_option linter.unusedVariables false
def y145 : List SV := [.c (.p [.d, .r (.floats .f32 []), .d, .d, .r (.recs 2 []), .r (.recs 2 [])])]
def y82 (u4 : List (List Int)) (x0 : (Int × Int × Int)) : Option ((Int × Int × Int) ⊕ (Int × Int)) :=
  if x0.1 < (↑(List.length u4) : Int) then
   if (0 : Int) ≤ x0.1 ∧ x0.1 < (↑(List.length u4) : Int) then
    if Int.toNat x0.1 < List.length u4 then
     Option.bind (G_plus x0.2.1 x0.2.2 (IntKind.wrap .i64 (x0.1 * List.getD (List.getD u4 (Int.toNat x0.1) []) (0 : Nat) (0 : Int))) (IntKind.wrap .i64 (x0.1 * List.getD (List.getD u4 (Int.toNat x0.1) []) (1 : Nat) (0 : Int)))) fun r0 =>
     some (.inl ((IntKind.wrap .i64 (x0.1 + (1 : Int)), IntKind.wrap .i64 (x0.2.1 + IntKind.wrap .i64 (x0.1 * List.getD (List.getD u4 (Int.toNat x0.1) []) (0 : Nat) (0 : Int))), IntKind.wrap .i64 (x0.2.2 + IntKind.wrap .i64 (x0.1 * List.getD (List.getD u4 (Int.toNat x0.1) []) (1 : Nat) (0 : Int))))))
    else none
   else none
  else
   some (.inr (x0.2.1, x0.2.2))
def y83 (u5 : Int) (u6 : List Nat) (u7 : Int) (u9 : Int) (u4 : List (List Int)) (u10 : List (List Int)) (u15 : Int × Int) : Option (Int × Int × Int) :=
  if (0 : Int) ≤ (0 : Int) ∧ (0 : Int) < (↑(List.length u10) : Int) then
   if (0 : Nat) < List.length u10 then
    Option.bind (y13 u15.1 (List.getD (List.getD u10 (0 : Nat) []) (1 : Nat) (0 : Int)) u5 u6 u7 u9 u4 u10) fun r1 =>
    if (0 : Int) ≤ (0 : Int) ∧ (0 : Int) < (↑(List.length u10) : Int) then
     if (0 : Nat) < List.length u10 then
      Option.bind (y13 u15.2 (List.getD (List.getD u10 (0 : Nat) []) (0 : Nat) (0 : Int)) u5 u6 u7 u9 u4 u10) fun r2 =>
      if (r2.2) = true then
       Option.bind (G_ceil (IntKind.wrap .i64 (IntKind.wrap .i64 ((↑(List.length u4) : Int) - (1 : Int)) * (1000000 : Int))) u5) fun r3 =>
       some ((r1.1, if r3 < IntKind.wrap .i64 (r2.1 + (1 : Int)) then r3 else IntKind.wrap .i64 (r2.1 + (1 : Int)), (0 : Int)))
      else
       Option.bind (G_ceil (IntKind.wrap .i64 (IntKind.wrap .i64 ((↑(List.length u4) : Int) - (1 : Int)) * (1000000 : Int))) u5) fun r3 =>
       some ((r1.1, if r3 < r2.1 then r3 else r2.1, (0 : Int)))
     else none
    else none
   else none
  else none
def y1 (u5 : Int) (u6 : List Nat) (u7 : Int) (u9 : Int) (u4 : List (List Int)) (u10 : List (List Int)) : Option (Int × Int × Int) :=
  if (u9 != (0 : Int)) = true then
   some (((0 : Int), (0 : Int), (23 : Int)))
  else
   if (0 : Int) ≤ (0 : Int) ∧ (0 : Int) < (↑(List.length u10) : Int) then
    if (0 : Nat) < List.length u10 then
     if (List.getD (List.getD u10 (0 : Nat) []) (0 : Nat) (0 : Int) == (0 : Int)) = true then
      some (((0 : Int), (0 : Int), (11 : Int)))
     else
      Option.bind (iter (y82 u4) big (((0 : Int), (0 : Int), (0 : Int)))) (y83 u5 u6 u7 u9 u4 u10)
    else none
   else none
def y146 : List Lf → Option GT
  | [.d (.i .i64 u5), .r (.floats .f32 u6), .d (.i .i64 u7), .d (.i .i64 u9), .r (.recs 2 u4), .r (.recs 2 u10)] => some (.leaf (ok (y1 u5 u6 u7 u9 u4 u10)) [.s [.d (.i .i64 ((val (y1 u5 u6 u7 u9 u4 u10)).1)), .d (.i .i64 ((val (y1 u5 u6 u7 u9 u4 u10)).2.1))], .c (.d (.i .i64 ((val (y1 u5 u6 u7 u9 u4 u10)).2.2)))])
  | _ => none
abbrev sp_82 : Specs → Specs := addK 82 true (pureT y145 y146)
set_option maxRecDepth 100000 in
theorem G_decay_centre_vc (u5 : Int) (u6 : List Nat) (u7 : Int) (u9 : Int) (u4 : List (List Int)) (u10 : List (List Int)) (r : Int × Int × Int) (h : Option.bind (y1 u5 u6 u7 u9 u4 u10) some = some r) : runT Tryz.f82 ((sp_117 (sp_125 (sp_119 sp0)))) (fun gs id _ => match id with
 | 1 => some ⟨(Int × Int × Int) × Nat, fun z => ⟨[(1, .w (.c (.p 4 (0 : Nat) 1 (0 : Nat)))), (2, .w (.c (.p 5 (0 : Nat) 1 (0 : Nat)))), (4, .w (.c (.p 6 (0 : Nat) 1 (0 : Nat)))), (33, .w (.c (.o 1))), (34, .w (.c (.d (.i .i64 ((↑(List.length u4) : Int)))))), (35, .w (.c (.d (.i .i64 (Prod.fst (Prod.fst z))))))], [(4, .box 105 [.p 3 (0 : Nat) 1 (0 : Nat)]), (5, .box 30 [.d (.i .i64 (0 : Int)), .d (.i .i64 (0 : Int))]), (6, .box 30 [.d (.i .i64 (Prod.fst (Prod.snd (Prod.fst z)))), .d (.i .i64 (Prod.snd (Prod.snd (Prod.fst z))))]), (1, .ext (.recs 2 u4)), (3, .ebox [.d (.i .i64 u5), .o 0, .d (.i .i64 u7), .d (.i .i64 u9), .o 1, .o 2]), (0, .ext (.floats .f32 u6)), (2, .ext (.recs 2 u10))], 7⟩, fun z => Option.bind (iter (y82 u4) (Prod.snd z) (Prod.fst z)) (fun y0 => Option.bind (y83 u5 u6 u7 u9 u4 u10 y0) some) = some r, fun z => Prod.snd z⟩
 | _ => none) (bldD y145 [.d (.i .i64 u5), .r (.floats .f32 u6), .d (.i .i64 u7), .d (.i .i64 u9), .r (.recs 2 u4), .r (.recs 2 u10)]) [.s [.d (.i .i64 r.1), .d (.i .i64 r.2.1)], .c (.d (.i .i64 r.2.2))] := by
  refine Eq.mp (by kernel_rfl : (
 (Ob (True) ∧
 Br (u9 != (0 : Int))
   ((Ob (True) ∧
 (Ob (True) ∧
 (Ob ((0 : Int) = r.1) ∧
 (Ob ((0 : Int) = r.2.1) ∧
 (Ob ((23 : Int) = r.2.2) ∧
 True))))))
   ((Ob (True) ∧
 (Ob ((0 : Int) ≤ (0 : Int) ∧ (0 : Int) < (↑(List.length u10) : Int)) ∧
 (Ob ((0 : Nat) < List.length u10) ∧
 Br (List.getD (List.getD u10 (0 : Nat) []) (0 : Nat) (0 : Int) == (0 : Int))
   ((Ob (True) ∧
 (Ob (True) ∧
 (Ob ((0 : Int) = r.1) ∧
 (Ob ((0 : Int) = r.2.1) ∧
 (Ob ((11 : Int) = r.2.2) ∧
 True))))))
   ((Ob (True) ∧
   ((∃ (v0 : (Int × Int × Int) × Nat), (Ob ((Option.bind (iter (y82 u4) v0.2 v0.1) fun y0 => Option.bind (y83 u5 u6 u7 u9 u4 u10 y0) some) = some r) ∧
 (Ob ((0 : Nat) = (0 : Nat)) ∧
 (Ob ((0 : Nat) = (0 : Nat)) ∧
 (Ob ((0 : Nat) = (0 : Nat)) ∧
 (Ob ((↑(List.length u4) : Int) = (↑(List.length u4) : Int)) ∧
 (Ob ((0 : Int) = v0.1.1) ∧
 (Ob ((0 : Nat) = (0 : Nat)) ∧
 (Ob ((0 : Int) = (0 : Int)) ∧
 (Ob ((0 : Int) = (0 : Int)) ∧
 (Ob ((0 : Int) = v0.1.2.1) ∧
 (Ob ((0 : Int) = v0.1.2.2) ∧
 (Ob (u4 = u4) ∧
 (Ob (u5 = u5) ∧
 (Ob (u7 = u7) ∧
 (Ob (u9 = u9) ∧
 (Ob (u6 = u6) ∧
 (Ob (u10 = u10) ∧
 True)))))))))))))))))) ∧
   (∀ (v0 : (Int × Int × Int) × Nat), ((Option.bind (iter (y82 u4) v0.2 v0.1) fun y0 => Option.bind (y83 u5 u6 u7 u9 u4 u10 y0) some) = some r →
 Br (decide (v0.1.1 < (↑(List.length u4) : Int)))
   ((Ob ((0 : Int) ≤ v0.1.1 ∧ v0.1.1 < (↑(List.length u4) : Int)) ∧
 (Ob (Int.toNat v0.1.1 < List.length u4) ∧
 (Ob (ok (G_plus v0.1.2.1 v0.1.2.2 (IntKind.wrap .i64 (v0.1.1 * List.getD (List.getD u4 (Int.toNat v0.1.1) []) (0 : Nat) (0 : Int))) (IntKind.wrap .i64 (v0.1.1 * List.getD (List.getD u4 (Int.toNat v0.1.1) []) (1 : Nat) (0 : Int))))) ∧
   (∃ (v1 : (Int × Int × Int) × Nat), (Ob ((Option.bind (iter (y82 u4) v1.2 v1.1) fun y0 => Option.bind (y83 u5 u6 u7 u9 u4 u10 y0) some) = some r) ∧
 (Ob (v1.2 < v0.2) ∧
 (Ob ((0 : Nat) = (0 : Nat)) ∧
 (Ob ((0 : Nat) = (0 : Nat)) ∧
 (Ob ((0 : Nat) = (0 : Nat)) ∧
 (Ob ((↑(List.length u4) : Int) = (↑(List.length u4) : Int)) ∧
 (Ob (IntKind.wrap .i64 (v0.1.1 + (1 : Int)) = v1.1.1) ∧
 (Ob ((0 : Nat) = (0 : Nat)) ∧
 (Ob ((0 : Int) = (0 : Int)) ∧
 (Ob ((0 : Int) = (0 : Int)) ∧
 (Ob (IntKind.wrap .i64 (v0.1.2.1 + IntKind.wrap .i64 (v0.1.1 * List.getD (List.getD u4 (Int.toNat v0.1.1) []) (0 : Nat) (0 : Int))) = v1.1.2.1) ∧
 (Ob (IntKind.wrap .i64 (v0.1.2.2 + IntKind.wrap .i64 (v0.1.1 * List.getD (List.getD u4 (Int.toNat v0.1.1) []) (1 : Nat) (0 : Int))) = v1.1.2.2) ∧
 (Ob (u4 = u4) ∧
 (Ob (u5 = u5) ∧
 (Ob (u7 = u7) ∧
 (Ob (u9 = u9) ∧
 (Ob (u6 = u6) ∧
 (Ob (u10 = u10) ∧
 True)))))))))))))))))))))))
   ((Ob (True) ∧
 (Ob ((0 : Int) ≤ (0 : Int) ∧ (0 : Int) < (↑(List.length u10) : Int)) ∧
 (Ob ((0 : Nat) < List.length u10) ∧
 (Ob (ok (y13 v0.1.2.1 (List.getD (List.getD u10 (0 : Nat) []) (1 : Nat) (0 : Int)) u5 u6 u7 u9 u4 u10)) ∧
 (Ob (True) ∧
 (Ob ((0 : Int) ≤ (0 : Int) ∧ (0 : Int) < (↑(List.length u10) : Int)) ∧
 (Ob ((0 : Nat) < List.length u10) ∧
 (Ob (ok (y13 v0.1.2.2 (List.getD (List.getD u10 (0 : Nat) []) (0 : Nat) (0 : Int)) u5 u6 u7 u9 u4 u10)) ∧
 Br ((val (y13 v0.1.2.2 (List.getD (List.getD u10 (0 : Nat) []) (0 : Nat) (0 : Int)) u5 u6 u7 u9 u4 u10)).2)
   ((Ob (True) ∧
 (Ob (True) ∧
 (Ob (ok (G_ceil (IntKind.wrap .i64 (IntKind.wrap .i64 ((↑(List.length u4) : Int) - (1 : Int)) * (1000000 : Int))) u5)) ∧
 (Ob (True) ∧
 (Ob (True) ∧
 (Ob ((val (y13 v0.1.2.1 (List.getD (List.getD u10 (0 : Nat) []) (1 : Nat) (0 : Int)) u5 u6 u7 u9 u4 u10)).1 = r.1) ∧
 (Ob ((if val (G_ceil (IntKind.wrap .i64 (IntKind.wrap .i64 ((↑(List.length u4) : Int) - (1 : Int)) * (1000000 : Int))) u5) < IntKind.wrap .i64 ((val (y13 v0.1.2.2 (List.getD (List.getD u10 (0 : Nat) []) (0 : Nat) (0 : Int)) u5 u6 u7 u9 u4 u10)).1 + (1 : Int)) then val (G_ceil (IntKind.wrap .i64 (IntKind.wrap .i64 ((↑(List.length u4) : Int) - (1 : Int)) * (1000000 : Int))) u5) else IntKind.wrap .i64 ((val (y13 v0.1.2.2 (List.getD (List.getD u10 (0 : Nat) []) (0 : Nat) (0 : Int)) u5 u6 u7 u9 u4 u10)).1 + (1 : Int))) = r.2.1) ∧
 (Ob ((0 : Int) = r.2.2) ∧
 True)))))))))
   ((Ob (True) ∧
 (Ob (True) ∧
 (Ob (ok (G_ceil (IntKind.wrap .i64 (IntKind.wrap .i64 ((↑(List.length u4) : Int) - (1 : Int)) * (1000000 : Int))) u5)) ∧
 (Ob (True) ∧
 (Ob (True) ∧
 (Ob ((val (y13 v0.1.2.1 (List.getD (List.getD u10 (0 : Nat) []) (1 : Nat) (0 : Int)) u5 u6 u7 u9 u4 u10)).1 = r.1) ∧
 (Ob ((if val (G_ceil (IntKind.wrap .i64 (IntKind.wrap .i64 ((↑(List.length u4) : Int) - (1 : Int)) * (1000000 : Int))) u5) < (val (y13 v0.1.2.2 (List.getD (List.getD u10 (0 : Nat) []) (0 : Nat) (0 : Int)) u5 u6 u7 u9 u4 u10)).1 then val (G_ceil (IntKind.wrap .i64 (IntKind.wrap .i64 ((↑(List.length u4) : Int) - (1 : Int)) * (1000000 : Int))) u5) else (val (y13 v0.1.2.2 (List.getD (List.getD u10 (0 : Nat) []) (0 : Nat) (0 : Int)) u5 u6 u7 u9 u4 u10)).1) = r.2.1) ∧
 (Ob ((0 : Int) = r.2.2) ∧
 True))))))))))))))))))))))))))))) = _) ?_
  refine ob_t ?_
  refine br_b h (fun h => ?_) (fun h => ?_)
  · refine ob_t ?_
    refine ob_t ?_
    exact ret_s h (fun e => by subst e; exact (by repeat' (first | exact trivial | exact ⟨rfl⟩ | refine And.intro ?_ ?_)))
  · refine ob_t ?_
    refine ob_s h fun h => ?_
    refine ob_s h fun h => ?_
    refine br_b h (fun h => ?_) (fun h => ?_)
    · refine ob_t ?_
      refine ob_t ?_
      exact ret_s h (fun e => by subst e; exact (by repeat' (first | exact trivial | exact ⟨rfl⟩ | refine And.intro ?_ ?_)))
    · refine ob_t ?_
      refine ⟨⟨(((0 : Int), (0 : Int), (0 : Int)), big), ⟨loop_s h⟩, (by repeat' (first | exact trivial | exact ⟨rfl⟩ | refine And.intro ?_ ?_))⟩, fun z4 hz4 => ?_⟩
      obtain ⟨k4, hm4, h⟩ := iter_pos hz4
      refine br_d h (fun h => ?_) (fun h => ?_)
      · refine ob_s h fun h => ?_
        refine ob_s h fun h => ?_
        refine call_s h fun h => ?_
        exact ⟨((IntKind.wrap .i64 ((Prod.fst z4).1 + (1 : Int)), IntKind.wrap .i64 ((Prod.fst z4).2.1 + IntKind.wrap .i64 ((Prod.fst z4).1 * List.getD (List.getD u4 (Int.toNat (Prod.fst z4).1) []) (0 : Nat) (0 : Int))), IntKind.wrap .i64 ((Prod.fst z4).2.2 + IntKind.wrap .i64 ((Prod.fst z4).1 * List.getD (List.getD u4 (Int.toNat (Prod.fst z4).1) []) (1 : Nat) (0 : Int)))), k4), ⟨next_s h⟩, ⟨lt_gs hm4.symm⟩, (by repeat' (first | exact trivial | exact ⟨rfl⟩ | refine And.intro ?_ ?_))⟩
      · have h := exit_s h
        refine ob_t ?_
        refine ob_s h fun h => ?_
        refine ob_s h fun h => ?_
        refine call_s h fun h => ?_
        refine ob_t ?_
        refine ob_s h fun h => ?_
        refine ob_s h fun h => ?_
        refine call_s h fun h => ?_
        refine br_b h (fun h => ?_) (fun h => ?_)
        · refine ob_t ?_
          refine ob_t ?_
          refine call_s h fun h => ?_
          refine ob_t ?_
          refine ob_t ?_
          exact ret_s h (fun e => by subst e; exact (by repeat' (first | exact trivial | exact ⟨rfl⟩ | refine And.intro ?_ ?_)))
        · refine ob_t ?_
          refine ob_t ?_
          refine call_s h fun h => ?_
          refine ob_t ?_
          refine ob_t ?_
          exact ret_s h (fun e => by subst e; exact (by repeat' (first | exact trivial | exact ⟨rfl⟩ | refine And.intro ?_ ?_)))
set_option maxRecDepth 100000 in
theorem G_decay_centre_ok : SpecOK Tryz.prog 82 true (pureT y145 y146) := by
  refine pureT_ok (sp := (sp_117 (sp_125 (sp_119 sp0)))) (fn := Tryz.f82) (body := bodyOf Tryz.f82) mixed (sp_117_ok (sp_125_ok (sp_119_ok sp0_ok))) Tryz.func82 (by kernel_rfl) (by kernel_rfl) fun ls t h ho b hb => ?_
  unfold y146 at h
  split at h
  · rename_i u5 u6 u7 u9 u4 u10
    cases h
    obtain rfl := bld_eq hb
    exact ⟨Nat.le_of_ble_eq_true (by kernel_rfl), _, _, G_decay_centre_vc u5 u6 u7 u9 u4 u10 _ (ok_some ho)⟩
  · cases h
theorem sp_82_ok {sp : Specs} (h : SpecsOK Tryz.prog sp) : SpecsOK Tryz.prog (sp_82 sp) := addK_ok G_decay_centre_ok h
end Go.Sh
end

section
namespace Go.Sh
open Go Go.Proofs Go.RowKit Go.Sx
set_option linter.unusedVariables false
def y161 : List SV := [.c (.p [.p [.d, .r (.floats .f32 []), .d, .d, .r (.recs 2 []), .r (.recs 2 [])]])]
def y8 (u18 : Int) (u19 : List Nat) (u20 : Int) (u21 : Int) (u22 : List (List Int)) (u23 : List (List Int)) : Option (Int × Int × Int) :=
  Option.bind (y41 u18 u19 u20 u21 u22 u23 (80000 : Int)) fun r0 =>
  some (r0.1, r0.2.1, r0.2.2)
def y162 : List Lf → Option GT
  | [.d (.i .i64 u18), .r (.floats .f32 u19), .d (.i .i64 u20), .d (.i .i64 u21), .r (.recs 2 u22), .r (.recs 2 u23)] => some (.leaf (ok (y8 u18 u19 u20 u21 u22 u23)) [.s [.d (.i .i64 ((val (y8 u18 u19 u20 u21 u22 u23)).1)), .d (.i .i64 ((val (y8 u18 u19 u20 u21 u22 u23)).2.1))], .c (.d (.i .i64 ((val (y8 u18 u19 u20 u21 u22 u23)).2.2)))])
  | _ => none
abbrev sp_102 : Specs → Specs := addK 102 true (pureT y161 y162)
set_option maxRecDepth 100000 in
def G_FiguresOf_1_t (u18 : Int) (u19 : List Nat) (u20 : Int) (u21 : Int) (u22 : List (List Int)) (u23 : List (List Int)) : T (Int × Int × Int) :=
 .obT
  (.call (y41 u18 u19 u20 u21 u22 u23 (80000 : Int)) fun r0 =>
  .obT
  (.obT
  (.rc ((r0.1, r0.2.1, r0.2.2)))))
set_option maxRecDepth 100000 in
theorem G_FiguresOf_1_vc (u18 : Int) (u19 : List Nat) (u20 : Int) (u21 : Int) (u22 : List (List Int)) (u23 : List (List Int)) (r : Int × Int × Int) (h : Option.bind (y8 u18 u19 u20 u21 u22 u23) some = some r) : runT Tryz.f102 ((sp_78 sp0)) (fun _ _ _ => none) (bldD y161 [.d (.i .i64 u18), .r (.floats .f32 u19), .d (.i .i64 u20), .d (.i .i64 u21), .r (.recs 2 u22), .r (.recs 2 u23)]) [.s [.d (.i .i64 r.1), .d (.i .i64 r.2.1)], .c (.d (.i .i64 r.2.2))] :=
  T.vc (t := G_FiguresOf_1_t u18 u19 u20 u21 u22 u23) (by kernel_rfl) (by kernel_rfl) h
set_option maxRecDepth 100000 in
theorem G_FiguresOf_1_ok : SpecOK Tryz.prog 102 true (pureT y161 y162) := by
  refine pureT_ok (sp := (sp_78 sp0)) (fn := Tryz.f102) (body := bodyOf Tryz.f102) mixed (sp_78_ok sp0_ok) Tryz.func102 (by kernel_rfl) (by kernel_rfl) fun ls t h ho b hb => ?_
  unfold y162 at h
  split at h
  · rename_i u18 u19 u20 u21 u22 u23
    cases h
    obtain rfl := bld_eq hb
    exact ⟨Nat.le_of_ble_eq_true (by kernel_rfl), _, _, G_FiguresOf_1_vc u18 u19 u20 u21 u22 u23 _ (ok_some ho)⟩
  · cases h
theorem sp_102_ok {sp : Specs} (h : SpecsOK Tryz.prog sp) : SpecsOK Tryz.prog (sp_102 sp) := addK_ok G_FiguresOf_1_ok h
def y163 : List SV := [.c (.p [.p [.d, .r (.floats .f32 []), .d, .d, .r (.recs 2 []), .r (.recs 2 [])]])]
def y2 (u18 : Int) (u19 : List Nat) (u20 : Int) (u21 : Int) (u22 : List (List Int)) (u23 : List (List Int)) : Option (Int × Int × Int) :=
  Option.bind (y47 u18 u19 u20 u21 u22 u23 (50000 : Int)) fun r0 =>
  some (r0.1, r0.2.1, r0.2.2)
def y164 : List Lf → Option GT
  | [.d (.i .i64 u18), .r (.floats .f32 u19), .d (.i .i64 u20), .d (.i .i64 u21), .r (.recs 2 u22), .r (.recs 2 u23)] => some (.leaf (ok (y2 u18 u19 u20 u21 u22 u23)) [.s [.d (.i .i64 ((val (y2 u18 u19 u20 u21 u22 u23)).1)), .d (.i .i64 ((val (y2 u18 u19 u20 u21 u22 u23)).2.1))], .c (.d (.i .i64 ((val (y2 u18 u19 u20 u21 u22 u23)).2.2)))])
  | _ => none
abbrev sp_103 : Specs → Specs := addK 103 true (pureT y163 y164)
set_option maxRecDepth 100000 in
def G_FiguresOf_2_t (u18 : Int) (u19 : List Nat) (u20 : Int) (u21 : Int) (u22 : List (List Int)) (u23 : List (List Int)) : T (Int × Int × Int) :=
 .obT
  (.call (y47 u18 u19 u20 u21 u22 u23 (50000 : Int)) fun r0 =>
  .obT
  (.obT
  (.rc ((r0.1, r0.2.1, r0.2.2)))))
set_option maxRecDepth 100000 in
theorem G_FiguresOf_2_vc (u18 : Int) (u19 : List Nat) (u20 : Int) (u21 : Int) (u22 : List (List Int)) (u23 : List (List Int)) (r : Int × Int × Int) (h : Option.bind (y2 u18 u19 u20 u21 u22 u23) some = some r) : runT Tryz.f103 ((sp_98 sp0)) (fun _ _ _ => none) (bldD y163 [.d (.i .i64 u18), .r (.floats .f32 u19), .d (.i .i64 u20), .d (.i .i64 u21), .r (.recs 2 u22), .r (.recs 2 u23)]) [.s [.d (.i .i64 r.1), .d (.i .i64 r.2.1)], .c (.d (.i .i64 r.2.2))] :=
  T.vc (t := G_FiguresOf_2_t u18 u19 u20 u21 u22 u23) (by kernel_rfl) (by kernel_rfl) h
set_option maxRecDepth 100000 in
theorem G_FiguresOf_2_ok : SpecOK Tryz.prog 103 true (pureT y163 y164) := by
  refine pureT_ok (sp := (sp_98 sp0)) (fn := Tryz.f103) (body := bodyOf Tryz.f103) mixed (sp_98_ok sp0_ok) Tryz.func103 (by kernel_rfl) (by kernel_rfl) fun ls t h ho b hb => ?_
  unfold y164 at h
  split at h
  · rename_i u18 u19 u20 u21 u22 u23
    cases h
    obtain rfl := bld_eq hb
    exact ⟨Nat.le_of_ble_eq_true (by kernel_rfl), _, _, G_FiguresOf_2_vc u18 u19 u20 u21 u22 u23 _ (ok_some ho)⟩
  · cases h
theorem sp_103_ok {sp : Specs} (h : SpecsOK Tryz.prog sp) : SpecsOK Tryz.prog (sp_103 sp) := addK_ok G_FiguresOf_2_ok h
def y165 : List SV := [.c (.p [.p [.d, .r (.floats .f32 []), .d, .d, .r (.recs 2 []), .r (.recs 2 [])]]), .c (.p [.d])]
def y12 (u18 : Int) (u19 : List Nat) (u20 : Int) (u21 : Int) (u22 : List (List Int)) (u23 : List (List Int)) (v1_ : Int) : Option (Int × Int × Int) :=
  Option.bind (y31 u18 u19 u20 u21 u22 u23 v1_) fun r0 =>
  some (r0.1, r0.2.1, r0.2.2)
def y166 : List Lf → Option GT
  | [.d (.i .i64 u18), .r (.floats .f32 u19), .d (.i .i64 u20), .d (.i .i64 u21), .r (.recs 2 u22), .r (.recs 2 u23), .d (.i .i64 v1_)] => some (.leaf (ok (y12 u18 u19 u20 u21 u22 u23 v1_)) [.s [.d (.i .i64 ((val (y12 u18 u19 u20 u21 u22 u23 v1_)).1)), .d (.i .i64 ((val (y12 u18 u19 u20 u21 u22 u23 v1_)).2.1))], .c (.d (.i .i64 ((val (y12 u18 u19 u20 u21 u22 u23 v1_)).2.2)))])
  | _ => none
abbrev sp_104 : Specs → Specs := addK 104 true (pureT y165 y166)
set_option maxRecDepth 100000 in
def G_FiguresOf_3_t (u18 : Int) (u19 : List Nat) (u20 : Int) (u21 : Int) (u22 : List (List Int)) (u23 : List (List Int)) (v1_ : Int) : T (Int × Int × Int) :=
 .obT
  (.obT
  (.call (y31 u18 u19 u20 u21 u22 u23 v1_) fun r0 =>
  .obT
  (.obT
  (.rc ((r0.1, r0.2.1, r0.2.2))))))
set_option maxRecDepth 100000 in
theorem G_FiguresOf_3_vc (u18 : Int) (u19 : List Nat) (u20 : Int) (u21 : Int) (u22 : List (List Int)) (u23 : List (List Int)) (v1_ : Int) (r : Int × Int × Int) (h : Option.bind (y12 u18 u19 u20 u21 u22 u23 v1_) some = some r) : runT Tryz.f104 ((sp_69 sp0)) (fun _ _ _ => none) (bldD y165 [.d (.i .i64 u18), .r (.floats .f32 u19), .d (.i .i64 u20), .d (.i .i64 u21), .r (.recs 2 u22), .r (.recs 2 u23), .d (.i .i64 v1_)]) [.s [.d (.i .i64 r.1), .d (.i .i64 r.2.1)], .c (.d (.i .i64 r.2.2))] :=
  T.vc (t := G_FiguresOf_3_t u18 u19 u20 u21 u22 u23 v1_) (by kernel_rfl) (by kernel_rfl) h
set_option maxRecDepth 100000 in
theorem G_FiguresOf_3_ok : SpecOK Tryz.prog 104 true (pureT y165 y166) := by
  refine pureT_ok (sp := (sp_69 sp0)) (fn := Tryz.f104) (body := bodyOf Tryz.f104) mixed (sp_69_ok sp0_ok) Tryz.func104 (by kernel_rfl) (by kernel_rfl) fun ls t h ho b hb => ?_
  unfold y166 at h
  split at h
  · rename_i u18 u19 u20 u21 u22 u23 v1_
    cases h
    obtain rfl := bld_eq hb
    exact ⟨Nat.le_of_ble_eq_true (by kernel_rfl), _, _, G_FiguresOf_3_vc u18 u19 u20 u21 u22 u23 v1_ _ (ok_some ho)⟩
  · cases h
theorem sp_104_ok {sp : Specs} (h : SpecsOK Tryz.prog sp) : SpecsOK Tryz.prog (sp_104 sp) := addK_ok G_FiguresOf_3_ok h
def k_G_FiguresOf : List SV := [.a [.d, .r (.floats .f32 []), .d, .d]]
def y11 (u13 : Int) (u11 : List Nat) (u14 : Int) (u12 : Int) : Option (Bool × Bool × Bool × Bool × Bool × Bool × Int × Int × Int × Int × Int × Int × Int × Int × Int × Int × Int × Int × Int) :=
  if ((val (G_open u13 u11 u14 u12)).1 != (0 : Int)) = true then
   Option.bind (G_open u13 u11 u14 u12) fun r0 =>
   if (r0.1 != (0 : Int)) = true then
    some ((false, false, false, false, false, false, (0 : Int), (0 : Int), (0 : Int), (0 : Int), (0 : Int), (0 : Int), (0 : Int), (0 : Int), (0 : Int), (0 : Int), (0 : Int), (0 : Int), r0.1))
   else
    none   else
   Option.bind (G_open u13 u11 u14 u12) fun r0 =>
   Option.bind (y12 u13 u11 u14 u12 r0.2.1 r0.2.2 (0 : Int)) fun r1 =>
   if (r1.2.2 == (0 : Int)) = true then
    Option.bind (y12 u13 u11 u14 u12 r0.2.1 r0.2.2 (1 : Int)) fun r2 =>
    if (r2.2.2 == (0 : Int)) = true then
     Option.bind (y12 u13 u11 u14 u12 r0.2.1 r0.2.2 (2 : Int)) fun r3 =>
     if (r3.2.2 == (0 : Int)) = true then
      Option.bind (y8 u13 u11 u14 u12 r0.2.1 r0.2.2) fun r4 =>
      if (r4.2.2 == (0 : Int)) = true then
       Option.bind (y2 u13 u11 u14 u12 r0.2.1 r0.2.2) fun r5 =>
       if (r5.2.2 == (0 : Int)) = true then
        Option.bind (y1 u13 u11 u14 u12 r0.2.1 r0.2.2) fun r6 =>
        if (r6.2.2 == (0 : Int)) = true then
         some ((true, true, true, true, true, true, r1.1, r1.2.1, r2.1, r2.2.1, r3.1, r3.2.1, r4.1, r4.2.1, r5.1, r5.2.1, r6.1, r6.2.1, (0 : Int)))
        else
         some ((true, true, true, true, true, false, r1.1, r1.2.1, r2.1, r2.2.1, r3.1, r3.2.1, r4.1, r4.2.1, r5.1, r5.2.1, (0 : Int), (0 : Int), (0 : Int)))
       else
        Option.bind (y1 u13 u11 u14 u12 r0.2.1 r0.2.2) fun r6 =>
        if (r6.2.2 == (0 : Int)) = true then
         some ((true, true, true, true, false, true, r1.1, r1.2.1, r2.1, r2.2.1, r3.1, r3.2.1, r4.1, r4.2.1, (0 : Int), (0 : Int), r6.1, r6.2.1, (0 : Int)))
        else
         some ((true, true, true, true, false, false, r1.1, r1.2.1, r2.1, r2.2.1, r3.1, r3.2.1, r4.1, r4.2.1, (0 : Int), (0 : Int), (0 : Int), (0 : Int), (0 : Int)))
      else
       Option.bind (y2 u13 u11 u14 u12 r0.2.1 r0.2.2) fun r5 =>
       if (r5.2.2 == (0 : Int)) = true then
        Option.bind (y1 u13 u11 u14 u12 r0.2.1 r0.2.2) fun r6 =>
        if (r6.2.2 == (0 : Int)) = true then
         some ((true, true, true, false, true, true, r1.1, r1.2.1, r2.1, r2.2.1, r3.1, r3.2.1, (0 : Int), (0 : Int), r5.1, r5.2.1, r6.1, r6.2.1, (0 : Int)))
        else
         some ((true, true, true, false, true, false, r1.1, r1.2.1, r2.1, r2.2.1, r3.1, r3.2.1, (0 : Int), (0 : Int), r5.1, r5.2.1, (0 : Int), (0 : Int), (0 : Int)))
       else
        Option.bind (y1 u13 u11 u14 u12 r0.2.1 r0.2.2) fun r6 =>
        if (r6.2.2 == (0 : Int)) = true then
         some ((true, true, true, false, false, true, r1.1, r1.2.1, r2.1, r2.2.1, r3.1, r3.2.1, (0 : Int), (0 : Int), (0 : Int), (0 : Int), r6.1, r6.2.1, (0 : Int)))
        else
         some ((true, true, true, false, false, false, r1.1, r1.2.1, r2.1, r2.2.1, r3.1, r3.2.1, (0 : Int), (0 : Int), (0 : Int), (0 : Int), (0 : Int), (0 : Int), (0 : Int)))
     else
      Option.bind (y8 u13 u11 u14 u12 r0.2.1 r0.2.2) fun r4 =>
      if (r4.2.2 == (0 : Int)) = true then
       Option.bind (y2 u13 u11 u14 u12 r0.2.1 r0.2.2) fun r5 =>
       if (r5.2.2 == (0 : Int)) = true then
        Option.bind (y1 u13 u11 u14 u12 r0.2.1 r0.2.2) fun r6 =>
        if (r6.2.2 == (0 : Int)) = true then
         some ((true, true, false, true, true, true, r1.1, r1.2.1, r2.1, r2.2.1, (0 : Int), (0 : Int), r4.1, r4.2.1, r5.1, r5.2.1, r6.1, r6.2.1, (0 : Int)))
        else
         some ((true, true, false, true, true, false, r1.1, r1.2.1, r2.1, r2.2.1, (0 : Int), (0 : Int), r4.1, r4.2.1, r5.1, r5.2.1, (0 : Int), (0 : Int), (0 : Int)))
       else
        Option.bind (y1 u13 u11 u14 u12 r0.2.1 r0.2.2) fun r6 =>
        if (r6.2.2 == (0 : Int)) = true then
         some ((true, true, false, true, false, true, r1.1, r1.2.1, r2.1, r2.2.1, (0 : Int), (0 : Int), r4.1, r4.2.1, (0 : Int), (0 : Int), r6.1, r6.2.1, (0 : Int)))
        else
         some ((true, true, false, true, false, false, r1.1, r1.2.1, r2.1, r2.2.1, (0 : Int), (0 : Int), r4.1, r4.2.1, (0 : Int), (0 : Int), (0 : Int), (0 : Int), (0 : Int)))
      else
       Option.bind (y2 u13 u11 u14 u12 r0.2.1 r0.2.2) fun r5 =>
       if (r5.2.2 == (0 : Int)) = true then
        Option.bind (y1 u13 u11 u14 u12 r0.2.1 r0.2.2) fun r6 =>
        if (r6.2.2 == (0 : Int)) = true then
         some ((true, true, false, false, true, true, r1.1, r1.2.1, r2.1, r2.2.1, (0 : Int), (0 : Int), (0 : Int), (0 : Int), r5.1, r5.2.1, r6.1, r6.2.1, (0 : Int)))
        else
         some ((true, true, false, false, true, false, r1.1, r1.2.1, r2.1, r2.2.1, (0 : Int), (0 : Int), (0 : Int), (0 : Int), r5.1, r5.2.1, (0 : Int), (0 : Int), (0 : Int)))
       else
        Option.bind (y1 u13 u11 u14 u12 r0.2.1 r0.2.2) fun r6 =>
        if (r6.2.2 == (0 : Int)) = true then
         some ((true, true, false, false, false, true, r1.1, r1.2.1, r2.1, r2.2.1, (0 : Int), (0 : Int), (0 : Int), (0 : Int), (0 : Int), (0 : Int), r6.1, r6.2.1, (0 : Int)))
        else
         some ((true, true, false, false, false, false, r1.1, r1.2.1, r2.1, r2.2.1, (0 : Int), (0 : Int), (0 : Int), (0 : Int), (0 : Int), (0 : Int), (0 : Int), (0 : Int), (0 : Int)))
    else
     Option.bind (y12 u13 u11 u14 u12 r0.2.1 r0.2.2 (2 : Int)) fun r3 =>
     if (r3.2.2 == (0 : Int)) = true then
      Option.bind (y8 u13 u11 u14 u12 r0.2.1 r0.2.2) fun r4 =>
      if (r4.2.2 == (0 : Int)) = true then
       Option.bind (y2 u13 u11 u14 u12 r0.2.1 r0.2.2) fun r5 =>
       if (r5.2.2 == (0 : Int)) = true then
        Option.bind (y1 u13 u11 u14 u12 r0.2.1 r0.2.2) fun r6 =>
        if (r6.2.2 == (0 : Int)) = true then
         some ((true, false, true, true, true, true, r1.1, r1.2.1, (0 : Int), (0 : Int), r3.1, r3.2.1, r4.1, r4.2.1, r5.1, r5.2.1, r6.1, r6.2.1, (0 : Int)))
        else
         some ((true, false, true, true, true, false, r1.1, r1.2.1, (0 : Int), (0 : Int), r3.1, r3.2.1, r4.1, r4.2.1, r5.1, r5.2.1, (0 : Int), (0 : Int), (0 : Int)))
       else
        Option.bind (y1 u13 u11 u14 u12 r0.2.1 r0.2.2) fun r6 =>
        if (r6.2.2 == (0 : Int)) = true then
         some ((true, false, true, true, false, true, r1.1, r1.2.1, (0 : Int), (0 : Int), r3.1, r3.2.1, r4.1, r4.2.1, (0 : Int), (0 : Int), r6.1, r6.2.1, (0 : Int)))
        else
         some ((true, false, true, true, false, false, r1.1, r1.2.1, (0 : Int), (0 : Int), r3.1, r3.2.1, r4.1, r4.2.1, (0 : Int), (0 : Int), (0 : Int), (0 : Int), (0 : Int)))
      else
       Option.bind (y2 u13 u11 u14 u12 r0.2.1 r0.2.2) fun r5 =>
       if (r5.2.2 == (0 : Int)) = true then
        Option.bind (y1 u13 u11 u14 u12 r0.2.1 r0.2.2) fun r6 =>
        if (r6.2.2 == (0 : Int)) = true then
         some ((true, false, true, false, true, true, r1.1, r1.2.1, (0 : Int), (0 : Int), r3.1, r3.2.1, (0 : Int), (0 : Int), r5.1, r5.2.1, r6.1, r6.2.1, (0 : Int)))
        else
         some ((true, false, true, false, true, false, r1.1, r1.2.1, (0 : Int), (0 : Int), r3.1, r3.2.1, (0 : Int), (0 : Int), r5.1, r5.2.1, (0 : Int), (0 : Int), (0 : Int)))
       else
        Option.bind (y1 u13 u11 u14 u12 r0.2.1 r0.2.2) fun r6 =>
        if (r6.2.2 == (0 : Int)) = true then
         some ((true, false, true, false, false, true, r1.1, r1.2.1, (0 : Int), (0 : Int), r3.1, r3.2.1, (0 : Int), (0 : Int), (0 : Int), (0 : Int), r6.1, r6.2.1, (0 : Int)))
        else
         some ((true, false, true, false, false, false, r1.1, r1.2.1, (0 : Int), (0 : Int), r3.1, r3.2.1, (0 : Int), (0 : Int), (0 : Int), (0 : Int), (0 : Int), (0 : Int), (0 : Int)))
     else
      Option.bind (y8 u13 u11 u14 u12 r0.2.1 r0.2.2) fun r4 =>
      if (r4.2.2 == (0 : Int)) = true then
       Option.bind (y2 u13 u11 u14 u12 r0.2.1 r0.2.2) fun r5 =>
       if (r5.2.2 == (0 : Int)) = true then
        Option.bind (y1 u13 u11 u14 u12 r0.2.1 r0.2.2) fun r6 =>
        if (r6.2.2 == (0 : Int)) = true then
         some ((true, false, false, true, true, true, r1.1, r1.2.1, (0 : Int), (0 : Int), (0 : Int), (0 : Int), r4.1, r4.2.1, r5.1, r5.2.1, r6.1, r6.2.1, (0 : Int)))
        else
         some ((true, false, false, true, true, false, r1.1, r1.2.1, (0 : Int), (0 : Int), (0 : Int), (0 : Int), r4.1, r4.2.1, r5.1, r5.2.1, (0 : Int), (0 : Int), (0 : Int)))
       else
        Option.bind (y1 u13 u11 u14 u12 r0.2.1 r0.2.2) fun r6 =>
        if (r6.2.2 == (0 : Int)) = true then
         some ((true, false, false, true, false, true, r1.1, r1.2.1, (0 : Int), (0 : Int), (0 : Int), (0 : Int), r4.1, r4.2.1, (0 : Int), (0 : Int), r6.1, r6.2.1, (0 : Int)))
        else
         some ((true, false, false, true, false, false, r1.1, r1.2.1, (0 : Int), (0 : Int), (0 : Int), (0 : Int), r4.1, r4.2.1, (0 : Int), (0 : Int), (0 : Int), (0 : Int), (0 : Int)))
      else
       Option.bind (y2 u13 u11 u14 u12 r0.2.1 r0.2.2) fun r5 =>
       if (r5.2.2 == (0 : Int)) = true then
        Option.bind (y1 u13 u11 u14 u12 r0.2.1 r0.2.2) fun r6 =>
        if (r6.2.2 == (0 : Int)) = true then
         some ((true, false, false, false, true, true, r1.1, r1.2.1, (0 : Int), (0 : Int), (0 : Int), (0 : Int), (0 : Int), (0 : Int), r5.1, r5.2.1, r6.1, r6.2.1, (0 : Int)))
        else
         some ((true, false, false, false, true, false, r1.1, r1.2.1, (0 : Int), (0 : Int), (0 : Int), (0 : Int), (0 : Int), (0 : Int), r5.1, r5.2.1, (0 : Int), (0 : Int), (0 : Int)))
       else
        Option.bind (y1 u13 u11 u14 u12 r0.2.1 r0.2.2) fun r6 =>
        if (r6.2.2 == (0 : Int)) = true then
         some ((true, false, false, false, false, true, r1.1, r1.2.1, (0 : Int), (0 : Int), (0 : Int), (0 : Int), (0 : Int), (0 : Int), (0 : Int), (0 : Int), r6.1, r6.2.1, (0 : Int)))
        else
         some ((true, false, false, false, false, false, r1.1, r1.2.1, (0 : Int), (0 : Int), (0 : Int), (0 : Int), (0 : Int), (0 : Int), (0 : Int), (0 : Int), (0 : Int), (0 : Int), (0 : Int)))
   else
    Option.bind (y12 u13 u11 u14 u12 r0.2.1 r0.2.2 (1 : Int)) fun r2 =>
    if (r2.2.2 == (0 : Int)) = true then
     Option.bind (y12 u13 u11 u14 u12 r0.2.1 r0.2.2 (2 : Int)) fun r3 =>
     if (r3.2.2 == (0 : Int)) = true then
      Option.bind (y8 u13 u11 u14 u12 r0.2.1 r0.2.2) fun r4 =>
      if (r4.2.2 == (0 : Int)) = true then
       Option.bind (y2 u13 u11 u14 u12 r0.2.1 r0.2.2) fun r5 =>
       if (r5.2.2 == (0 : Int)) = true then
        Option.bind (y1 u13 u11 u14 u12 r0.2.1 r0.2.2) fun r6 =>
        if (r6.2.2 == (0 : Int)) = true then
         some ((false, true, true, true, true, true, (0 : Int), (0 : Int), r2.1, r2.2.1, r3.1, r3.2.1, r4.1, r4.2.1, r5.1, r5.2.1, r6.1, r6.2.1, (0 : Int)))
        else
         some ((false, true, true, true, true, false, (0 : Int), (0 : Int), r2.1, r2.2.1, r3.1, r3.2.1, r4.1, r4.2.1, r5.1, r5.2.1, (0 : Int), (0 : Int), (0 : Int)))
       else
        Option.bind (y1 u13 u11 u14 u12 r0.2.1 r0.2.2) fun r6 =>
        if (r6.2.2 == (0 : Int)) = true then
         some ((false, true, true, true, false, true, (0 : Int), (0 : Int), r2.1, r2.2.1, r3.1, r3.2.1, r4.1, r4.2.1, (0 : Int), (0 : Int), r6.1, r6.2.1, (0 : Int)))
        else
         some ((false, true, true, true, false, false, (0 : Int), (0 : Int), r2.1, r2.2.1, r3.1, r3.2.1, r4.1, r4.2.1, (0 : Int), (0 : Int), (0 : Int), (0 : Int), (0 : Int)))
      else
       Option.bind (y2 u13 u11 u14 u12 r0.2.1 r0.2.2) fun r5 =>
       if (r5.2.2 == (0 : Int)) = true then
        Option.bind (y1 u13 u11 u14 u12 r0.2.1 r0.2.2) fun r6 =>
        if (r6.2.2 == (0 : Int)) = true then
         some ((false, true, true, false, true, true, (0 : Int), (0 : Int), r2.1, r2.2.1, r3.1, r3.2.1, (0 : Int), (0 : Int), r5.1, r5.2.1, r6.1, r6.2.1, (0 : Int)))
        else
         some ((false, true, true, false, true, false, (0 : Int), (0 : Int), r2.1, r2.2.1, r3.1, r3.2.1, (0 : Int), (0 : Int), r5.1, r5.2.1, (0 : Int), (0 : Int), (0 : Int)))
       else
        Option.bind (y1 u13 u11 u14 u12 r0.2.1 r0.2.2) fun r6 =>
        if (r6.2.2 == (0 : Int)) = true then
         some ((false, true, true, false, false, true, (0 : Int), (0 : Int), r2.1, r2.2.1, r3.1, r3.2.1, (0 : Int), (0 : Int), (0 : Int), (0 : Int), r6.1, r6.2.1, (0 : Int)))
        else
         some ((false, true, true, false, false, false, (0 : Int), (0 : Int), r2.1, r2.2.1, r3.1, r3.2.1, (0 : Int), (0 : Int), (0 : Int), (0 : Int), (0 : Int), (0 : Int), (0 : Int)))
     else
      Option.bind (y8 u13 u11 u14 u12 r0.2.1 r0.2.2) fun r4 =>
      if (r4.2.2 == (0 : Int)) = true then
       Option.bind (y2 u13 u11 u14 u12 r0.2.1 r0.2.2) fun r5 =>
       if (r5.2.2 == (0 : Int)) = true then
        Option.bind (y1 u13 u11 u14 u12 r0.2.1 r0.2.2) fun r6 =>
        if (r6.2.2 == (0 : Int)) = true then
         some ((false, true, false, true, true, true, (0 : Int), (0 : Int), r2.1, r2.2.1, (0 : Int), (0 : Int), r4.1, r4.2.1, r5.1, r5.2.1, r6.1, r6.2.1, (0 : Int)))
        else
         some ((false, true, false, true, true, false, (0 : Int), (0 : Int), r2.1, r2.2.1, (0 : Int), (0 : Int), r4.1, r4.2.1, r5.1, r5.2.1, (0 : Int), (0 : Int), (0 : Int)))
       else
        Option.bind (y1 u13 u11 u14 u12 r0.2.1 r0.2.2) fun r6 =>
        if (r6.2.2 == (0 : Int)) = true then
         some ((false, true, false, true, false, true, (0 : Int), (0 : Int), r2.1, r2.2.1, (0 : Int), (0 : Int), r4.1, r4.2.1, (0 : Int), (0 : Int), r6.1, r6.2.1, (0 : Int)))
        else
         some ((false, true, false, true, false, false, (0 : Int), (0 : Int), r2.1, r2.2.1, (0 : Int), (0 : Int), r4.1, r4.2.1, (0 : Int), (0 : Int), (0 : Int), (0 : Int), (0 : Int)))
      else
       Option.bind (y2 u13 u11 u14 u12 r0.2.1 r0.2.2) fun r5 =>
       if (r5.2.2 == (0 : Int)) = true then
        Option.bind (y1 u13 u11 u14 u12 r0.2.1 r0.2.2) fun r6 =>
        if (r6.2.2 == (0 : Int)) = true then
         some ((false, true, false, false, true, true, (0 : Int), (0 : Int), r2.1, r2.2.1, (0 : Int), (0 : Int), (0 : Int), (0 : Int), r5.1, r5.2.1, r6.1, r6.2.1, (0 : Int)))
        else
         some ((false, true, false, false, true, false, (0 : Int), (0 : Int), r2.1, r2.2.1, (0 : Int), (0 : Int), (0 : Int), (0 : Int), r5.1, r5.2.1, (0 : Int), (0 : Int), (0 : Int)))
       else
        Option.bind (y1 u13 u11 u14 u12 r0.2.1 r0.2.2) fun r6 =>
        if (r6.2.2 == (0 : Int)) = true then
         some ((false, true, false, false, false, true, (0 : Int), (0 : Int), r2.1, r2.2.1, (0 : Int), (0 : Int), (0 : Int), (0 : Int), (0 : Int), (0 : Int), r6.1, r6.2.1, (0 : Int)))
        else
         some ((false, true, false, false, false, false, (0 : Int), (0 : Int), r2.1, r2.2.1, (0 : Int), (0 : Int), (0 : Int), (0 : Int), (0 : Int), (0 : Int), (0 : Int), (0 : Int), (0 : Int)))
    else
     Option.bind (y12 u13 u11 u14 u12 r0.2.1 r0.2.2 (2 : Int)) fun r3 =>
     if (r3.2.2 == (0 : Int)) = true then
      Option.bind (y8 u13 u11 u14 u12 r0.2.1 r0.2.2) fun r4 =>
      if (r4.2.2 == (0 : Int)) = true then
       Option.bind (y2 u13 u11 u14 u12 r0.2.1 r0.2.2) fun r5 =>
       if (r5.2.2 == (0 : Int)) = true then
        Option.bind (y1 u13 u11 u14 u12 r0.2.1 r0.2.2) fun r6 =>
        if (r6.2.2 == (0 : Int)) = true then
         some ((false, false, true, true, true, true, (0 : Int), (0 : Int), (0 : Int), (0 : Int), r3.1, r3.2.1, r4.1, r4.2.1, r5.1, r5.2.1, r6.1, r6.2.1, (0 : Int)))
        else
         some ((false, false, true, true, true, false, (0 : Int), (0 : Int), (0 : Int), (0 : Int), r3.1, r3.2.1, r4.1, r4.2.1, r5.1, r5.2.1, (0 : Int), (0 : Int), (0 : Int)))
       else
        Option.bind (y1 u13 u11 u14 u12 r0.2.1 r0.2.2) fun r6 =>
        if (r6.2.2 == (0 : Int)) = true then
         some ((false, false, true, true, false, true, (0 : Int), (0 : Int), (0 : Int), (0 : Int), r3.1, r3.2.1, r4.1, r4.2.1, (0 : Int), (0 : Int), r6.1, r6.2.1, (0 : Int)))
        else
         some ((false, false, true, true, false, false, (0 : Int), (0 : Int), (0 : Int), (0 : Int), r3.1, r3.2.1, r4.1, r4.2.1, (0 : Int), (0 : Int), (0 : Int), (0 : Int), (0 : Int)))
      else
       Option.bind (y2 u13 u11 u14 u12 r0.2.1 r0.2.2) fun r5 =>
       if (r5.2.2 == (0 : Int)) = true then
        Option.bind (y1 u13 u11 u14 u12 r0.2.1 r0.2.2) fun r6 =>
        if (r6.2.2 == (0 : Int)) = true then
         some ((false, false, true, false, true, true, (0 : Int), (0 : Int), (0 : Int), (0 : Int), r3.1, r3.2.1, (0 : Int), (0 : Int), r5.1, r5.2.1, r6.1, r6.2.1, (0 : Int)))
        else
         some ((false, false, true, false, true, false, (0 : Int), (0 : Int), (0 : Int), (0 : Int), r3.1, r3.2.1, (0 : Int), (0 : Int), r5.1, r5.2.1, (0 : Int), (0 : Int), (0 : Int)))
       else
        Option.bind (y1 u13 u11 u14 u12 r0.2.1 r0.2.2) fun r6 =>
        if (r6.2.2 == (0 : Int)) = true then
         some ((false, false, true, false, false, true, (0 : Int), (0 : Int), (0 : Int), (0 : Int), r3.1, r3.2.1, (0 : Int), (0 : Int), (0 : Int), (0 : Int), r6.1, r6.2.1, (0 : Int)))
        else
         some ((false, false, true, false, false, false, (0 : Int), (0 : Int), (0 : Int), (0 : Int), r3.1, r3.2.1, (0 : Int), (0 : Int), (0 : Int), (0 : Int), (0 : Int), (0 : Int), (0 : Int)))
     else
      Option.bind (y8 u13 u11 u14 u12 r0.2.1 r0.2.2) fun r4 =>
      if (r4.2.2 == (0 : Int)) = true then
       Option.bind (y2 u13 u11 u14 u12 r0.2.1 r0.2.2) fun r5 =>
       if (r5.2.2 == (0 : Int)) = true then
        Option.bind (y1 u13 u11 u14 u12 r0.2.1 r0.2.2) fun r6 =>
        if (r6.2.2 == (0 : Int)) = true then
         some ((false, false, false, true, true, true, (0 : Int), (0 : Int), (0 : Int), (0 : Int), (0 : Int), (0 : Int), r4.1, r4.2.1, r5.1, r5.2.1, r6.1, r6.2.1, (0 : Int)))
        else
         some ((false, false, false, true, true, false, (0 : Int), (0 : Int), (0 : Int), (0 : Int), (0 : Int), (0 : Int), r4.1, r4.2.1, r5.1, r5.2.1, (0 : Int), (0 : Int), (0 : Int)))
       else
        Option.bind (y1 u13 u11 u14 u12 r0.2.1 r0.2.2) fun r6 =>
        if (r6.2.2 == (0 : Int)) = true then
         some ((false, false, false, true, false, true, (0 : Int), (0 : Int), (0 : Int), (0 : Int), (0 : Int), (0 : Int), r4.1, r4.2.1, (0 : Int), (0 : Int), r6.1, r6.2.1, (0 : Int)))
        else
         some ((false, false, false, true, false, false, (0 : Int), (0 : Int), (0 : Int), (0 : Int), (0 : Int), (0 : Int), r4.1, r4.2.1, (0 : Int), (0 : Int), (0 : Int), (0 : Int), (0 : Int)))
      else
       Option.bind (y2 u13 u11 u14 u12 r0.2.1 r0.2.2) fun r5 =>
       if (r5.2.2 == (0 : Int)) = true then
        Option.bind (y1 u13 u11 u14 u12 r0.2.1 r0.2.2) fun r6 =>
        if (r6.2.2 == (0 : Int)) = true then
         some ((false, false, false, false, true, true, (0 : Int), (0 : Int), (0 : Int), (0 : Int), (0 : Int), (0 : Int), (0 : Int), (0 : Int), r5.1, r5.2.1, r6.1, r6.2.1, (0 : Int)))
        else
         some ((false, false, false, false, true, false, (0 : Int), (0 : Int), (0 : Int), (0 : Int), (0 : Int), (0 : Int), (0 : Int), (0 : Int), r5.1, r5.2.1, (0 : Int), (0 : Int), (0 : Int)))
       else
        Option.bind (y1 u13 u11 u14 u12 r0.2.1 r0.2.2) fun r6 =>
        if (r6.2.2 == (0 : Int)) = true then
         some ((false, false, false, false, false, true, (0 : Int), (0 : Int), (0 : Int), (0 : Int), (0 : Int), (0 : Int), (0 : Int), (0 : Int), (0 : Int), (0 : Int), r6.1, r6.2.1, (0 : Int)))
        else
         some ((false, false, false, false, false, false, (0 : Int), (0 : Int), (0 : Int), (0 : Int), (0 : Int), (0 : Int), (0 : Int), (0 : Int), (0 : Int), (0 : Int), (0 : Int), (0 : Int), (0 : Int)))
def g_G_FiguresOf : List Lf → Option GT
  | [.d (.i .i64 u13), .r (.floats .f32 u11), .d (.i .i64 u14), .d (.i .i64 u12)] => some (.leaf (ok (y11 u13 u11 u14 u12)) [.s [.d (.b ((val (y11 u13 u11 u14 u12)).1)), .d (.b ((val (y11 u13 u11 u14 u12)).2.1)), .d (.b ((val (y11 u13 u11 u14 u12)).2.2.1)), .d (.b ((val (y11 u13 u11 u14 u12)).2.2.2.1)), .d (.b ((val (y11 u13 u11 u14 u12)).2.2.2.2.1)), .d (.b ((val (y11 u13 u11 u14 u12)).2.2.2.2.2.1)), .d (.i .i64 ((val (y11 u13 u11 u14 u12)).2.2.2.2.2.2.1)), .d (.i .i64 ((val (y11 u13 u11 u14 u12)).2.2.2.2.2.2.2.1)), .d (.i .i64 ((val (y11 u13 u11 u14 u12)).2.2.2.2.2.2.2.2.1)), .d (.i .i64 ((val (y11 u13 u11 u14 u12)).2.2.2.2.2.2.2.2.2.1)), .d (.i .i64 ((val (y11 u13 u11 u14 u12)).2.2.2.2.2.2.2.2.2.2.1)), .d (.i .i64 ((val (y11 u13 u11 u14 u12)).2.2.2.2.2.2.2.2.2.2.2.1)), .d (.i .i64 ((val (y11 u13 u11 u14 u12)).2.2.2.2.2.2.2.2.2.2.2.2.1)), .d (.i .i64 ((val (y11 u13 u11 u14 u12)).2.2.2.2.2.2.2.2.2.2.2.2.2.1)), .d (.i .i64 ((val (y11 u13 u11 u14 u12)).2.2.2.2.2.2.2.2.2.2.2.2.2.2.1)), .d (.i .i64 ((val (y11 u13 u11 u14 u12)).2.2.2.2.2.2.2.2.2.2.2.2.2.2.2.1)), .d (.i .i64 ((val (y11 u13 u11 u14 u12)).2.2.2.2.2.2.2.2.2.2.2.2.2.2.2.2.1)), .d (.i .i64 ((val (y11 u13 u11 u14 u12)).2.2.2.2.2.2.2.2.2.2.2.2.2.2.2.2.2.1))], .c (.d (.i .i64 ((val (y11 u13 u11 u14 u12)).2.2.2.2.2.2.2.2.2.2.2.2.2.2.2.2.2.2)))])
  | _ => none
abbrev sp_60 : Specs → Specs := addK 60 true (pureT k_G_FiguresOf g_G_FiguresOf)
set_option maxRecDepth 100000 in
def G_FiguresOf_t (u13 : Int) (u11 : List Nat) (u14 : Int) (u12 : Int) : T (Bool × Bool × Bool × Bool × Bool × Bool × Int × Int × Int × Int × Int × Int × Int × Int × Int × Int × Int × Int × Int) :=
 .brB ((val (G_open u13 u11 u14 u12)).1 != (0 : Int))
  (.call (G_open u13 u11 u14 u12) fun r0 =>
  .brB (r0.1 != (0 : Int))
  (.obT
  (.obT
  (.rc (((false, false, false, false, false, false, (0 : Int), (0 : Int), (0 : Int), (0 : Int), (0 : Int), (0 : Int), (0 : Int), (0 : Int), (0 : Int), (0 : Int), (0 : Int), (0 : Int), r0.1))))))
  (.bad (fun r => False)))
  (.call (G_open u13 u11 u14 u12) fun r0 =>
  .obT
  (.obC (((0 : Int) ≤ (0 : Int) ∧ (0 : Int) < (3 : Int)) ∧ true = true) (by decide)
  (.obC ((0 : Int) ≤ (0 : Int) ∧ (0 : Int) < (6 : Int)) (by decide)
  (.obT
  (.obC (((0 : Int) ≤ (1 : Int) ∧ (1 : Int) < (3 : Int)) ∧ true = true) (by decide)
  (.obC ((0 : Int) ≤ (1 : Int) ∧ (1 : Int) < (6 : Int)) (by decide)
  (.obT
  (.obC (((0 : Int) ≤ (2 : Int) ∧ (2 : Int) < (3 : Int)) ∧ true = true) (by decide)
  (.obC ((0 : Int) ≤ (2 : Int) ∧ (2 : Int) < (6 : Int)) (by decide)
  (.obT
  (.obC ((0 : Int) ≤ (0 : Int) ∧ (0 : Int) < (6 : Int)) (by decide)
  (.call (y12 u13 u11 u14 u12 r0.2.1 r0.2.2 (0 : Int)) fun r1 =>
  .brB (r1.2.2 == (0 : Int))
  (.obC ((0 : Int) ≤ (0 : Int) ∧ (0 : Int) < (6 : Int)) (by decide)
  (.obC (true = true) (by decide)
  (.obC ((0 : Int) ≤ (0 : Int) ∧ (0 : Int) < (6 : Int)) (by decide)
  (.obC (true = true ∧ true = true) (by decide)
  (.obC ((0 : Int) ≤ (1 : Int) ∧ (1 : Int) < (6 : Int)) (by decide)
  (.call (y12 u13 u11 u14 u12 r0.2.1 r0.2.2 (1 : Int)) fun r2 =>
  .brB (r2.2.2 == (0 : Int))
  (.obC ((0 : Int) ≤ (1 : Int) ∧ (1 : Int) < (6 : Int)) (by decide)
  (.obC (true = true) (by decide)
  (.obC ((0 : Int) ≤ (1 : Int) ∧ (1 : Int) < (6 : Int)) (by decide)
  (.obC (true = true ∧ true = true) (by decide)
  (.obC ((0 : Int) ≤ (2 : Int) ∧ (2 : Int) < (6 : Int)) (by decide)
  (.call (y12 u13 u11 u14 u12 r0.2.1 r0.2.2 (2 : Int)) fun r3 =>
  .brB (r3.2.2 == (0 : Int))
  (.obC ((0 : Int) ≤ (2 : Int) ∧ (2 : Int) < (6 : Int)) (by decide)
  (.obC (true = true) (by decide)
  (.obC ((0 : Int) ≤ (2 : Int) ∧ (2 : Int) < (6 : Int)) (by decide)
  (.obC (true = true ∧ true = true) (by decide)
  (.obC ((0 : Int) ≤ (3 : Int) ∧ (3 : Int) < (6 : Int)) (by decide)
  (.call (y8 u13 u11 u14 u12 r0.2.1 r0.2.2) fun r4 =>
  .brB (r4.2.2 == (0 : Int))
  (.obC ((0 : Int) ≤ (3 : Int) ∧ (3 : Int) < (6 : Int)) (by decide)
  (.obC (true = true) (by decide)
  (.obC ((0 : Int) ≤ (3 : Int) ∧ (3 : Int) < (6 : Int)) (by decide)
  (.obC (true = true ∧ true = true) (by decide)
  (.obC ((0 : Int) ≤ (4 : Int) ∧ (4 : Int) < (6 : Int)) (by decide)
  (.call (y2 u13 u11 u14 u12 r0.2.1 r0.2.2) fun r5 =>
  .brB (r5.2.2 == (0 : Int))
  (.obC ((0 : Int) ≤ (4 : Int) ∧ (4 : Int) < (6 : Int)) (by decide)
  (.obC (true = true) (by decide)
  (.obC ((0 : Int) ≤ (4 : Int) ∧ (4 : Int) < (6 : Int)) (by decide)
  (.obC (true = true ∧ true = true) (by decide)
  (.obC ((0 : Int) ≤ (5 : Int) ∧ (5 : Int) < (6 : Int)) (by decide)
  (.call (y1 u13 u11 u14 u12 r0.2.1 r0.2.2) fun r6 =>
  .brB (r6.2.2 == (0 : Int))
  (.obC ((0 : Int) ≤ (5 : Int) ∧ (5 : Int) < (6 : Int)) (by decide)
  (.obC (true = true) (by decide)
  (.obC ((0 : Int) ≤ (5 : Int) ∧ (5 : Int) < (6 : Int)) (by decide)
  (.obC (true = true ∧ true = true) (by decide)
  (.obT
  (.obT
  (.rc (((true, true, true, true, true, true, r1.1, r1.2.1, r2.1, r2.2.1, r3.1, r3.2.1, r4.1, r4.2.1, r5.1, r5.2.1, r6.1, r6.2.1, (0 : Int)))))))))))
  (.obT
  (.obT
  (.rc (((true, true, true, true, true, false, r1.1, r1.2.1, r2.1, r2.2.1, r3.1, r3.2.1, r4.1, r4.2.1, r5.1, r5.2.1, (0 : Int), (0 : Int), (0 : Int)))))))))))))
  (.obC ((0 : Int) ≤ (5 : Int) ∧ (5 : Int) < (6 : Int)) (by decide)
  (.call (y1 u13 u11 u14 u12 r0.2.1 r0.2.2) fun r6 =>
  .brB (r6.2.2 == (0 : Int))
  (.obC ((0 : Int) ≤ (5 : Int) ∧ (5 : Int) < (6 : Int)) (by decide)
  (.obC (true = true) (by decide)
  (.obC ((0 : Int) ≤ (5 : Int) ∧ (5 : Int) < (6 : Int)) (by decide)
  (.obC (true = true ∧ true = true) (by decide)
  (.obT
  (.obT
  (.rc (((true, true, true, true, false, true, r1.1, r1.2.1, r2.1, r2.2.1, r3.1, r3.2.1, r4.1, r4.2.1, (0 : Int), (0 : Int), r6.1, r6.2.1, (0 : Int)))))))))))
  (.obT
  (.obT
  (.rc (((true, true, true, true, false, false, r1.1, r1.2.1, r2.1, r2.2.1, r3.1, r3.2.1, r4.1, r4.2.1, (0 : Int), (0 : Int), (0 : Int), (0 : Int), (0 : Int)))))))))))))))
  (.obC ((0 : Int) ≤ (4 : Int) ∧ (4 : Int) < (6 : Int)) (by decide)
  (.call (y2 u13 u11 u14 u12 r0.2.1 r0.2.2) fun r5 =>
  .brB (r5.2.2 == (0 : Int))
  (.obC ((0 : Int) ≤ (4 : Int) ∧ (4 : Int) < (6 : Int)) (by decide)
  (.obC (true = true) (by decide)
  (.obC ((0 : Int) ≤ (4 : Int) ∧ (4 : Int) < (6 : Int)) (by decide)
  (.obC (true = true ∧ true = true) (by decide)
  (.obC ((0 : Int) ≤ (5 : Int) ∧ (5 : Int) < (6 : Int)) (by decide)
  (.call (y1 u13 u11 u14 u12 r0.2.1 r0.2.2) fun r6 =>
  .brB (r6.2.2 == (0 : Int))
  (.obC ((0 : Int) ≤ (5 : Int) ∧ (5 : Int) < (6 : Int)) (by decide)
  (.obC (true = true) (by decide)
  (.obC ((0 : Int) ≤ (5 : Int) ∧ (5 : Int) < (6 : Int)) (by decide)
  (.obC (true = true ∧ true = true) (by decide)
  (.obT
  (.obT
  (.rc (((true, true, true, false, true, true, r1.1, r1.2.1, r2.1, r2.2.1, r3.1, r3.2.1, (0 : Int), (0 : Int), r5.1, r5.2.1, r6.1, r6.2.1, (0 : Int)))))))))))
  (.obT
  (.obT
  (.rc (((true, true, true, false, true, false, r1.1, r1.2.1, r2.1, r2.2.1, r3.1, r3.2.1, (0 : Int), (0 : Int), r5.1, r5.2.1, (0 : Int), (0 : Int), (0 : Int)))))))))))))
  (.obC ((0 : Int) ≤ (5 : Int) ∧ (5 : Int) < (6 : Int)) (by decide)
  (.call (y1 u13 u11 u14 u12 r0.2.1 r0.2.2) fun r6 =>
  .brB (r6.2.2 == (0 : Int))
  (.obC ((0 : Int) ≤ (5 : Int) ∧ (5 : Int) < (6 : Int)) (by decide)
  (.obC (true = true) (by decide)
  (.obC ((0 : Int) ≤ (5 : Int) ∧ (5 : Int) < (6 : Int)) (by decide)
  (.obC (true = true ∧ true = true) (by decide)
  (.obT
  (.obT
  (.rc (((true, true, true, false, false, true, r1.1, r1.2.1, r2.1, r2.2.1, r3.1, r3.2.1, (0 : Int), (0 : Int), (0 : Int), (0 : Int), r6.1, r6.2.1, (0 : Int)))))))))))
  (.obT
  (.obT
  (.rc (((true, true, true, false, false, false, r1.1, r1.2.1, r2.1, r2.2.1, r3.1, r3.2.1, (0 : Int), (0 : Int), (0 : Int), (0 : Int), (0 : Int), (0 : Int), (0 : Int)))))))))))))))))
  (.obC ((0 : Int) ≤ (3 : Int) ∧ (3 : Int) < (6 : Int)) (by decide)
  (.call (y8 u13 u11 u14 u12 r0.2.1 r0.2.2) fun r4 =>
  .brB (r4.2.2 == (0 : Int))
  (.obC ((0 : Int) ≤ (3 : Int) ∧ (3 : Int) < (6 : Int)) (by decide)
  (.obC (true = true) (by decide)
  (.obC ((0 : Int) ≤ (3 : Int) ∧ (3 : Int) < (6 : Int)) (by decide)
  (.obC (true = true ∧ true = true) (by decide)
  (.obC ((0 : Int) ≤ (4 : Int) ∧ (4 : Int) < (6 : Int)) (by decide)
  (.call (y2 u13 u11 u14 u12 r0.2.1 r0.2.2) fun r5 =>
  .brB (r5.2.2 == (0 : Int))
  (.obC ((0 : Int) ≤ (4 : Int) ∧ (4 : Int) < (6 : Int)) (by decide)
  (.obC (true = true) (by decide)
  (.obC ((0 : Int) ≤ (4 : Int) ∧ (4 : Int) < (6 : Int)) (by decide)
  (.obC (true = true ∧ true = true) (by decide)
  (.obC ((0 : Int) ≤ (5 : Int) ∧ (5 : Int) < (6 : Int)) (by decide)
  (.call (y1 u13 u11 u14 u12 r0.2.1 r0.2.2) fun r6 =>
  .brB (r6.2.2 == (0 : Int))
  (.obC ((0 : Int) ≤ (5 : Int) ∧ (5 : Int) < (6 : Int)) (by decide)
  (.obC (true = true) (by decide)
  (.obC ((0 : Int) ≤ (5 : Int) ∧ (5 : Int) < (6 : Int)) (by decide)
  (.obC (true = true ∧ true = true) (by decide)
  (.obT
  (.obT
  (.rc (((true, true, false, true, true, true, r1.1, r1.2.1, r2.1, r2.2.1, (0 : Int), (0 : Int), r4.1, r4.2.1, r5.1, r5.2.1, r6.1, r6.2.1, (0 : Int)))))))))))
  (.obT
  (.obT
  (.rc (((true, true, false, true, true, false, r1.1, r1.2.1, r2.1, r2.2.1, (0 : Int), (0 : Int), r4.1, r4.2.1, r5.1, r5.2.1, (0 : Int), (0 : Int), (0 : Int)))))))))))))
  (.obC ((0 : Int) ≤ (5 : Int) ∧ (5 : Int) < (6 : Int)) (by decide)
  (.call (y1 u13 u11 u14 u12 r0.2.1 r0.2.2) fun r6 =>
  .brB (r6.2.2 == (0 : Int))
  (.obC ((0 : Int) ≤ (5 : Int) ∧ (5 : Int) < (6 : Int)) (by decide)
  (.obC (true = true) (by decide)
  (.obC ((0 : Int) ≤ (5 : Int) ∧ (5 : Int) < (6 : Int)) (by decide)
  (.obC (true = true ∧ true = true) (by decide)
  (.obT
  (.obT
  (.rc (((true, true, false, true, false, true, r1.1, r1.2.1, r2.1, r2.2.1, (0 : Int), (0 : Int), r4.1, r4.2.1, (0 : Int), (0 : Int), r6.1, r6.2.1, (0 : Int)))))))))))
  (.obT
  (.obT
  (.rc (((true, true, false, true, false, false, r1.1, r1.2.1, r2.1, r2.2.1, (0 : Int), (0 : Int), r4.1, r4.2.1, (0 : Int), (0 : Int), (0 : Int), (0 : Int), (0 : Int)))))))))))))))
  (.obC ((0 : Int) ≤ (4 : Int) ∧ (4 : Int) < (6 : Int)) (by decide)
  (.call (y2 u13 u11 u14 u12 r0.2.1 r0.2.2) fun r5 =>
  .brB (r5.2.2 == (0 : Int))
  (.obC ((0 : Int) ≤ (4 : Int) ∧ (4 : Int) < (6 : Int)) (by decide)
  (.obC (true = true) (by decide)
  (.obC ((0 : Int) ≤ (4 : Int) ∧ (4 : Int) < (6 : Int)) (by decide)
  (.obC (true = true ∧ true = true) (by decide)
  (.obC ((0 : Int) ≤ (5 : Int) ∧ (5 : Int) < (6 : Int)) (by decide)
  (.call (y1 u13 u11 u14 u12 r0.2.1 r0.2.2) fun r6 =>
  .brB (r6.2.2 == (0 : Int))
  (.obC ((0 : Int) ≤ (5 : Int) ∧ (5 : Int) < (6 : Int)) (by decide)
  (.obC (true = true) (by decide)
  (.obC ((0 : Int) ≤ (5 : Int) ∧ (5 : Int) < (6 : Int)) (by decide)
  (.obC (true = true ∧ true = true) (by decide)
  (.obT
  (.obT
  (.rc (((true, true, false, false, true, true, r1.1, r1.2.1, r2.1, r2.2.1, (0 : Int), (0 : Int), (0 : Int), (0 : Int), r5.1, r5.2.1, r6.1, r6.2.1, (0 : Int)))))))))))
  (.obT
  (.obT
  (.rc (((true, true, false, false, true, false, r1.1, r1.2.1, r2.1, r2.2.1, (0 : Int), (0 : Int), (0 : Int), (0 : Int), r5.1, r5.2.1, (0 : Int), (0 : Int), (0 : Int)))))))))))))
  (.obC ((0 : Int) ≤ (5 : Int) ∧ (5 : Int) < (6 : Int)) (by decide)
  (.call (y1 u13 u11 u14 u12 r0.2.1 r0.2.2) fun r6 =>
  .brB (r6.2.2 == (0 : Int))
  (.obC ((0 : Int) ≤ (5 : Int) ∧ (5 : Int) < (6 : Int)) (by decide)
  (.obC (true = true) (by decide)
  (.obC ((0 : Int) ≤ (5 : Int) ∧ (5 : Int) < (6 : Int)) (by decide)
  (.obC (true = true ∧ true = true) (by decide)
  (.obT
  (.obT
  (.rc (((true, true, false, false, false, true, r1.1, r1.2.1, r2.1, r2.2.1, (0 : Int), (0 : Int), (0 : Int), (0 : Int), (0 : Int), (0 : Int), r6.1, r6.2.1, (0 : Int)))))))))))
  (.obT
  (.obT
  (.rc (((true, true, false, false, false, false, r1.1, r1.2.1, r2.1, r2.2.1, (0 : Int), (0 : Int), (0 : Int), (0 : Int), (0 : Int), (0 : Int), (0 : Int), (0 : Int), (0 : Int)))))))))))))))))))
  (.obC ((0 : Int) ≤ (2 : Int) ∧ (2 : Int) < (6 : Int)) (by decide)
  (.call (y12 u13 u11 u14 u12 r0.2.1 r0.2.2 (2 : Int)) fun r3 =>
  .brB (r3.2.2 == (0 : Int))
  (.obC ((0 : Int) ≤ (2 : Int) ∧ (2 : Int) < (6 : Int)) (by decide)
  (.obC (true = true) (by decide)
  (.obC ((0 : Int) ≤ (2 : Int) ∧ (2 : Int) < (6 : Int)) (by decide)
  (.obC (true = true ∧ true = true) (by decide)
  (.obC ((0 : Int) ≤ (3 : Int) ∧ (3 : Int) < (6 : Int)) (by decide)
  (.call (y8 u13 u11 u14 u12 r0.2.1 r0.2.2) fun r4 =>
  .brB (r4.2.2 == (0 : Int))
  (.obC ((0 : Int) ≤ (3 : Int) ∧ (3 : Int) < (6 : Int)) (by decide)
  (.obC (true = true) (by decide)
  (.obC ((0 : Int) ≤ (3 : Int) ∧ (3 : Int) < (6 : Int)) (by decide)
  (.obC (true = true ∧ true = true) (by decide)
  (.obC ((0 : Int) ≤ (4 : Int) ∧ (4 : Int) < (6 : Int)) (by decide)
  (.call (y2 u13 u11 u14 u12 r0.2.1 r0.2.2) fun r5 =>
  .brB (r5.2.2 == (0 : Int))
  (.obC ((0 : Int) ≤ (4 : Int) ∧ (4 : Int) < (6 : Int)) (by decide)
  (.obC (true = true) (by decide)
  (.obC ((0 : Int) ≤ (4 : Int) ∧ (4 : Int) < (6 : Int)) (by decide)
  (.obC (true = true ∧ true = true) (by decide)
  (.obC ((0 : Int) ≤ (5 : Int) ∧ (5 : Int) < (6 : Int)) (by decide)
  (.call (y1 u13 u11 u14 u12 r0.2.1 r0.2.2) fun r6 =>
  .brB (r6.2.2 == (0 : Int))
  (.obC ((0 : Int) ≤ (5 : Int) ∧ (5 : Int) < (6 : Int)) (by decide)
  (.obC (true = true) (by decide)
  (.obC ((0 : Int) ≤ (5 : Int) ∧ (5 : Int) < (6 : Int)) (by decide)
  (.obC (true = true ∧ true = true) (by decide)
  (.obT
  (.obT
  (.rc (((true, false, true, true, true, true, r1.1, r1.2.1, (0 : Int), (0 : Int), r3.1, r3.2.1, r4.1, r4.2.1, r5.1, r5.2.1, r6.1, r6.2.1, (0 : Int)))))))))))
  (.obT
  (.obT
  (.rc (((true, false, true, true, true, false, r1.1, r1.2.1, (0 : Int), (0 : Int), r3.1, r3.2.1, r4.1, r4.2.1, r5.1, r5.2.1, (0 : Int), (0 : Int), (0 : Int)))))))))))))
  (.obC ((0 : Int) ≤ (5 : Int) ∧ (5 : Int) < (6 : Int)) (by decide)
  (.call (y1 u13 u11 u14 u12 r0.2.1 r0.2.2) fun r6 =>
  .brB (r6.2.2 == (0 : Int))
  (.obC ((0 : Int) ≤ (5 : Int) ∧ (5 : Int) < (6 : Int)) (by decide)
  (.obC (true = true) (by decide)
  (.obC ((0 : Int) ≤ (5 : Int) ∧ (5 : Int) < (6 : Int)) (by decide)
  (.obC (true = true ∧ true = true) (by decide)
  (.obT
  (.obT
  (.rc (((true, false, true, true, false, true, r1.1, r1.2.1, (0 : Int), (0 : Int), r3.1, r3.2.1, r4.1, r4.2.1, (0 : Int), (0 : Int), r6.1, r6.2.1, (0 : Int)))))))))))
  (.obT
  (.obT
  (.rc (((true, false, true, true, false, false, r1.1, r1.2.1, (0 : Int), (0 : Int), r3.1, r3.2.1, r4.1, r4.2.1, (0 : Int), (0 : Int), (0 : Int), (0 : Int), (0 : Int)))))))))))))))
  (.obC ((0 : Int) ≤ (4 : Int) ∧ (4 : Int) < (6 : Int)) (by decide)
  (.call (y2 u13 u11 u14 u12 r0.2.1 r0.2.2) fun r5 =>
  .brB (r5.2.2 == (0 : Int))
  (.obC ((0 : Int) ≤ (4 : Int) ∧ (4 : Int) < (6 : Int)) (by decide)
  (.obC (true = true) (by decide)
  (.obC ((0 : Int) ≤ (4 : Int) ∧ (4 : Int) < (6 : Int)) (by decide)
  (.obC (true = true ∧ true = true) (by decide)
  (.obC ((0 : Int) ≤ (5 : Int) ∧ (5 : Int) < (6 : Int)) (by decide)
  (.call (y1 u13 u11 u14 u12 r0.2.1 r0.2.2) fun r6 =>
  .brB (r6.2.2 == (0 : Int))
  (.obC ((0 : Int) ≤ (5 : Int) ∧ (5 : Int) < (6 : Int)) (by decide)
  (.obC (true = true) (by decide)
  (.obC ((0 : Int) ≤ (5 : Int) ∧ (5 : Int) < (6 : Int)) (by decide)
  (.obC (true = true ∧ true = true) (by decide)
  (.obT
  (.obT
  (.rc (((true, false, true, false, true, true, r1.1, r1.2.1, (0 : Int), (0 : Int), r3.1, r3.2.1, (0 : Int), (0 : Int), r5.1, r5.2.1, r6.1, r6.2.1, (0 : Int)))))))))))
  (.obT
  (.obT
  (.rc (((true, false, true, false, true, false, r1.1, r1.2.1, (0 : Int), (0 : Int), r3.1, r3.2.1, (0 : Int), (0 : Int), r5.1, r5.2.1, (0 : Int), (0 : Int), (0 : Int)))))))))))))
  (.obC ((0 : Int) ≤ (5 : Int) ∧ (5 : Int) < (6 : Int)) (by decide)
  (.call (y1 u13 u11 u14 u12 r0.2.1 r0.2.2) fun r6 =>
  .brB (r6.2.2 == (0 : Int))
  (.obC ((0 : Int) ≤ (5 : Int) ∧ (5 : Int) < (6 : Int)) (by decide)
  (.obC (true = true) (by decide)
  (.obC ((0 : Int) ≤ (5 : Int) ∧ (5 : Int) < (6 : Int)) (by decide)
  (.obC (true = true ∧ true = true) (by decide)
  (.obT
  (.obT
  (.rc (((true, false, true, false, false, true, r1.1, r1.2.1, (0 : Int), (0 : Int), r3.1, r3.2.1, (0 : Int), (0 : Int), (0 : Int), (0 : Int), r6.1, r6.2.1, (0 : Int)))))))))))
  (.obT
  (.obT
  (.rc (((true, false, true, false, false, false, r1.1, r1.2.1, (0 : Int), (0 : Int), r3.1, r3.2.1, (0 : Int), (0 : Int), (0 : Int), (0 : Int), (0 : Int), (0 : Int), (0 : Int)))))))))))))))))
  (.obC ((0 : Int) ≤ (3 : Int) ∧ (3 : Int) < (6 : Int)) (by decide)
  (.call (y8 u13 u11 u14 u12 r0.2.1 r0.2.2) fun r4 =>
  .brB (r4.2.2 == (0 : Int))
  (.obC ((0 : Int) ≤ (3 : Int) ∧ (3 : Int) < (6 : Int)) (by decide)
  (.obC (true = true) (by decide)
  (.obC ((0 : Int) ≤ (3 : Int) ∧ (3 : Int) < (6 : Int)) (by decide)
  (.obC (true = true ∧ true = true) (by decide)
  (.obC ((0 : Int) ≤ (4 : Int) ∧ (4 : Int) < (6 : Int)) (by decide)
  (.call (y2 u13 u11 u14 u12 r0.2.1 r0.2.2) fun r5 =>
  .brB (r5.2.2 == (0 : Int))
  (.obC ((0 : Int) ≤ (4 : Int) ∧ (4 : Int) < (6 : Int)) (by decide)
  (.obC (true = true) (by decide)
  (.obC ((0 : Int) ≤ (4 : Int) ∧ (4 : Int) < (6 : Int)) (by decide)
  (.obC (true = true ∧ true = true) (by decide)
  (.obC ((0 : Int) ≤ (5 : Int) ∧ (5 : Int) < (6 : Int)) (by decide)
  (.call (y1 u13 u11 u14 u12 r0.2.1 r0.2.2) fun r6 =>
  .brB (r6.2.2 == (0 : Int))
  (.obC ((0 : Int) ≤ (5 : Int) ∧ (5 : Int) < (6 : Int)) (by decide)
  (.obC (true = true) (by decide)
  (.obC ((0 : Int) ≤ (5 : Int) ∧ (5 : Int) < (6 : Int)) (by decide)
  (.obC (true = true ∧ true = true) (by decide)
  (.obT
  (.obT
  (.rc (((true, false, false, true, true, true, r1.1, r1.2.1, (0 : Int), (0 : Int), (0 : Int), (0 : Int), r4.1, r4.2.1, r5.1, r5.2.1, r6.1, r6.2.1, (0 : Int)))))))))))
  (.obT
  (.obT
  (.rc (((true, false, false, true, true, false, r1.1, r1.2.1, (0 : Int), (0 : Int), (0 : Int), (0 : Int), r4.1, r4.2.1, r5.1, r5.2.1, (0 : Int), (0 : Int), (0 : Int)))))))))))))
  (.obC ((0 : Int) ≤ (5 : Int) ∧ (5 : Int) < (6 : Int)) (by decide)
  (.call (y1 u13 u11 u14 u12 r0.2.1 r0.2.2) fun r6 =>
  .brB (r6.2.2 == (0 : Int))
  (.obC ((0 : Int) ≤ (5 : Int) ∧ (5 : Int) < (6 : Int)) (by decide)
  (.obC (true = true) (by decide)
  (.obC ((0 : Int) ≤ (5 : Int) ∧ (5 : Int) < (6 : Int)) (by decide)
  (.obC (true = true ∧ true = true) (by decide)
  (.obT
  (.obT
  (.rc (((true, false, false, true, false, true, r1.1, r1.2.1, (0 : Int), (0 : Int), (0 : Int), (0 : Int), r4.1, r4.2.1, (0 : Int), (0 : Int), r6.1, r6.2.1, (0 : Int)))))))))))
  (.obT
  (.obT
  (.rc (((true, false, false, true, false, false, r1.1, r1.2.1, (0 : Int), (0 : Int), (0 : Int), (0 : Int), r4.1, r4.2.1, (0 : Int), (0 : Int), (0 : Int), (0 : Int), (0 : Int)))))))))))))))
  (.obC ((0 : Int) ≤ (4 : Int) ∧ (4 : Int) < (6 : Int)) (by decide)
  (.call (y2 u13 u11 u14 u12 r0.2.1 r0.2.2) fun r5 =>
  .brB (r5.2.2 == (0 : Int))
  (.obC ((0 : Int) ≤ (4 : Int) ∧ (4 : Int) < (6 : Int)) (by decide)
  (.obC (true = true) (by decide)
  (.obC ((0 : Int) ≤ (4 : Int) ∧ (4 : Int) < (6 : Int)) (by decide)
  (.obC (true = true ∧ true = true) (by decide)
  (.obC ((0 : Int) ≤ (5 : Int) ∧ (5 : Int) < (6 : Int)) (by decide)
  (.call (y1 u13 u11 u14 u12 r0.2.1 r0.2.2) fun r6 =>
  .brB (r6.2.2 == (0 : Int))
  (.obC ((0 : Int) ≤ (5 : Int) ∧ (5 : Int) < (6 : Int)) (by decide)
  (.obC (true = true) (by decide)
  (.obC ((0 : Int) ≤ (5 : Int) ∧ (5 : Int) < (6 : Int)) (by decide)
  (.obC (true = true ∧ true = true) (by decide)
  (.obT
  (.obT
  (.rc (((true, false, false, false, true, true, r1.1, r1.2.1, (0 : Int), (0 : Int), (0 : Int), (0 : Int), (0 : Int), (0 : Int), r5.1, r5.2.1, r6.1, r6.2.1, (0 : Int)))))))))))
  (.obT
  (.obT
  (.rc (((true, false, false, false, true, false, r1.1, r1.2.1, (0 : Int), (0 : Int), (0 : Int), (0 : Int), (0 : Int), (0 : Int), r5.1, r5.2.1, (0 : Int), (0 : Int), (0 : Int)))))))))))))
  (.obC ((0 : Int) ≤ (5 : Int) ∧ (5 : Int) < (6 : Int)) (by decide)
  (.call (y1 u13 u11 u14 u12 r0.2.1 r0.2.2) fun r6 =>
  .brB (r6.2.2 == (0 : Int))
  (.obC ((0 : Int) ≤ (5 : Int) ∧ (5 : Int) < (6 : Int)) (by decide)
  (.obC (true = true) (by decide)
  (.obC ((0 : Int) ≤ (5 : Int) ∧ (5 : Int) < (6 : Int)) (by decide)
  (.obC (true = true ∧ true = true) (by decide)
  (.obT
  (.obT
  (.rc (((true, false, false, false, false, true, r1.1, r1.2.1, (0 : Int), (0 : Int), (0 : Int), (0 : Int), (0 : Int), (0 : Int), (0 : Int), (0 : Int), r6.1, r6.2.1, (0 : Int)))))))))))
  (.obT
  (.obT
  (.rc (((true, false, false, false, false, false, r1.1, r1.2.1, (0 : Int), (0 : Int), (0 : Int), (0 : Int), (0 : Int), (0 : Int), (0 : Int), (0 : Int), (0 : Int), (0 : Int), (0 : Int)))))))))))))))))))))
  (.obC ((0 : Int) ≤ (1 : Int) ∧ (1 : Int) < (6 : Int)) (by decide)
  (.call (y12 u13 u11 u14 u12 r0.2.1 r0.2.2 (1 : Int)) fun r2 =>
  .brB (r2.2.2 == (0 : Int))
  (.obC ((0 : Int) ≤ (1 : Int) ∧ (1 : Int) < (6 : Int)) (by decide)
  (.obC (true = true) (by decide)
  (.obC ((0 : Int) ≤ (1 : Int) ∧ (1 : Int) < (6 : Int)) (by decide)
  (.obC (true = true ∧ true = true) (by decide)
  (.obC ((0 : Int) ≤ (2 : Int) ∧ (2 : Int) < (6 : Int)) (by decide)
  (.call (y12 u13 u11 u14 u12 r0.2.1 r0.2.2 (2 : Int)) fun r3 =>
  .brB (r3.2.2 == (0 : Int))
  (.obC ((0 : Int) ≤ (2 : Int) ∧ (2 : Int) < (6 : Int)) (by decide)
  (.obC (true = true) (by decide)
  (.obC ((0 : Int) ≤ (2 : Int) ∧ (2 : Int) < (6 : Int)) (by decide)
  (.obC (true = true ∧ true = true) (by decide)
  (.obC ((0 : Int) ≤ (3 : Int) ∧ (3 : Int) < (6 : Int)) (by decide)
  (.call (y8 u13 u11 u14 u12 r0.2.1 r0.2.2) fun r4 =>
  .brB (r4.2.2 == (0 : Int))
  (.obC ((0 : Int) ≤ (3 : Int) ∧ (3 : Int) < (6 : Int)) (by decide)
  (.obC (true = true) (by decide)
  (.obC ((0 : Int) ≤ (3 : Int) ∧ (3 : Int) < (6 : Int)) (by decide)
  (.obC (true = true ∧ true = true) (by decide)
  (.obC ((0 : Int) ≤ (4 : Int) ∧ (4 : Int) < (6 : Int)) (by decide)
  (.call (y2 u13 u11 u14 u12 r0.2.1 r0.2.2) fun r5 =>
  .brB (r5.2.2 == (0 : Int))
  (.obC ((0 : Int) ≤ (4 : Int) ∧ (4 : Int) < (6 : Int)) (by decide)
  (.obC (true = true) (by decide)
  (.obC ((0 : Int) ≤ (4 : Int) ∧ (4 : Int) < (6 : Int)) (by decide)
  (.obC (true = true ∧ true = true) (by decide)
  (.obC ((0 : Int) ≤ (5 : Int) ∧ (5 : Int) < (6 : Int)) (by decide)
  (.call (y1 u13 u11 u14 u12 r0.2.1 r0.2.2) fun r6 =>
  .brB (r6.2.2 == (0 : Int))
  (.obC ((0 : Int) ≤ (5 : Int) ∧ (5 : Int) < (6 : Int)) (by decide)
  (.obC (true = true) (by decide)
  (.obC ((0 : Int) ≤ (5 : Int) ∧ (5 : Int) < (6 : Int)) (by decide)
  (.obC (true = true ∧ true = true) (by decide)
  (.obT
  (.obT
  (.rc (((false, true, true, true, true, true, (0 : Int), (0 : Int), r2.1, r2.2.1, r3.1, r3.2.1, r4.1, r4.2.1, r5.1, r5.2.1, r6.1, r6.2.1, (0 : Int)))))))))))
  (.obT
  (.obT
  (.rc (((false, true, true, true, true, false, (0 : Int), (0 : Int), r2.1, r2.2.1, r3.1, r3.2.1, r4.1, r4.2.1, r5.1, r5.2.1, (0 : Int), (0 : Int), (0 : Int)))))))))))))
  (.obC ((0 : Int) ≤ (5 : Int) ∧ (5 : Int) < (6 : Int)) (by decide)
  (.call (y1 u13 u11 u14 u12 r0.2.1 r0.2.2) fun r6 =>
  .brB (r6.2.2 == (0 : Int))
  (.obC ((0 : Int) ≤ (5 : Int) ∧ (5 : Int) < (6 : Int)) (by decide)
  (.obC (true = true) (by decide)
  (.obC ((0 : Int) ≤ (5 : Int) ∧ (5 : Int) < (6 : Int)) (by decide)
  (.obC (true = true ∧ true = true) (by decide)
  (.obT
  (.obT
  (.rc (((false, true, true, true, false, true, (0 : Int), (0 : Int), r2.1, r2.2.1, r3.1, r3.2.1, r4.1, r4.2.1, (0 : Int), (0 : Int), r6.1, r6.2.1, (0 : Int)))))))))))
  (.obT
  (.obT
  (.rc (((false, true, true, true, false, false, (0 : Int), (0 : Int), r2.1, r2.2.1, r3.1, r3.2.1, r4.1, r4.2.1, (0 : Int), (0 : Int), (0 : Int), (0 : Int), (0 : Int)))))))))))))))
  (.obC ((0 : Int) ≤ (4 : Int) ∧ (4 : Int) < (6 : Int)) (by decide)
  (.call (y2 u13 u11 u14 u12 r0.2.1 r0.2.2) fun r5 =>
  .brB (r5.2.2 == (0 : Int))
  (.obC ((0 : Int) ≤ (4 : Int) ∧ (4 : Int) < (6 : Int)) (by decide)
  (.obC (true = true) (by decide)
  (.obC ((0 : Int) ≤ (4 : Int) ∧ (4 : Int) < (6 : Int)) (by decide)
  (.obC (true = true ∧ true = true) (by decide)
  (.obC ((0 : Int) ≤ (5 : Int) ∧ (5 : Int) < (6 : Int)) (by decide)
  (.call (y1 u13 u11 u14 u12 r0.2.1 r0.2.2) fun r6 =>
  .brB (r6.2.2 == (0 : Int))
  (.obC ((0 : Int) ≤ (5 : Int) ∧ (5 : Int) < (6 : Int)) (by decide)
  (.obC (true = true) (by decide)
  (.obC ((0 : Int) ≤ (5 : Int) ∧ (5 : Int) < (6 : Int)) (by decide)
  (.obC (true = true ∧ true = true) (by decide)
  (.obT
  (.obT
  (.rc (((false, true, true, false, true, true, (0 : Int), (0 : Int), r2.1, r2.2.1, r3.1, r3.2.1, (0 : Int), (0 : Int), r5.1, r5.2.1, r6.1, r6.2.1, (0 : Int)))))))))))
  (.obT
  (.obT
  (.rc (((false, true, true, false, true, false, (0 : Int), (0 : Int), r2.1, r2.2.1, r3.1, r3.2.1, (0 : Int), (0 : Int), r5.1, r5.2.1, (0 : Int), (0 : Int), (0 : Int)))))))))))))
  (.obC ((0 : Int) ≤ (5 : Int) ∧ (5 : Int) < (6 : Int)) (by decide)
  (.call (y1 u13 u11 u14 u12 r0.2.1 r0.2.2) fun r6 =>
  .brB (r6.2.2 == (0 : Int))
  (.obC ((0 : Int) ≤ (5 : Int) ∧ (5 : Int) < (6 : Int)) (by decide)
  (.obC (true = true) (by decide)
  (.obC ((0 : Int) ≤ (5 : Int) ∧ (5 : Int) < (6 : Int)) (by decide)
  (.obC (true = true ∧ true = true) (by decide)
  (.obT
  (.obT
  (.rc (((false, true, true, false, false, true, (0 : Int), (0 : Int), r2.1, r2.2.1, r3.1, r3.2.1, (0 : Int), (0 : Int), (0 : Int), (0 : Int), r6.1, r6.2.1, (0 : Int)))))))))))
  (.obT
  (.obT
  (.rc (((false, true, true, false, false, false, (0 : Int), (0 : Int), r2.1, r2.2.1, r3.1, r3.2.1, (0 : Int), (0 : Int), (0 : Int), (0 : Int), (0 : Int), (0 : Int), (0 : Int)))))))))))))))))
  (.obC ((0 : Int) ≤ (3 : Int) ∧ (3 : Int) < (6 : Int)) (by decide)
  (.call (y8 u13 u11 u14 u12 r0.2.1 r0.2.2) fun r4 =>
  .brB (r4.2.2 == (0 : Int))
  (.obC ((0 : Int) ≤ (3 : Int) ∧ (3 : Int) < (6 : Int)) (by decide)
  (.obC (true = true) (by decide)
  (.obC ((0 : Int) ≤ (3 : Int) ∧ (3 : Int) < (6 : Int)) (by decide)
  (.obC (true = true ∧ true = true) (by decide)
  (.obC ((0 : Int) ≤ (4 : Int) ∧ (4 : Int) < (6 : Int)) (by decide)
  (.call (y2 u13 u11 u14 u12 r0.2.1 r0.2.2) fun r5 =>
  .brB (r5.2.2 == (0 : Int))
  (.obC ((0 : Int) ≤ (4 : Int) ∧ (4 : Int) < (6 : Int)) (by decide)
  (.obC (true = true) (by decide)
  (.obC ((0 : Int) ≤ (4 : Int) ∧ (4 : Int) < (6 : Int)) (by decide)
  (.obC (true = true ∧ true = true) (by decide)
  (.obC ((0 : Int) ≤ (5 : Int) ∧ (5 : Int) < (6 : Int)) (by decide)
  (.call (y1 u13 u11 u14 u12 r0.2.1 r0.2.2) fun r6 =>
  .brB (r6.2.2 == (0 : Int))
  (.obC ((0 : Int) ≤ (5 : Int) ∧ (5 : Int) < (6 : Int)) (by decide)
  (.obC (true = true) (by decide)
  (.obC ((0 : Int) ≤ (5 : Int) ∧ (5 : Int) < (6 : Int)) (by decide)
  (.obC (true = true ∧ true = true) (by decide)
  (.obT
  (.obT
  (.rc (((false, true, false, true, true, true, (0 : Int), (0 : Int), r2.1, r2.2.1, (0 : Int), (0 : Int), r4.1, r4.2.1, r5.1, r5.2.1, r6.1, r6.2.1, (0 : Int)))))))))))
  (.obT
  (.obT
  (.rc (((false, true, false, true, true, false, (0 : Int), (0 : Int), r2.1, r2.2.1, (0 : Int), (0 : Int), r4.1, r4.2.1, r5.1, r5.2.1, (0 : Int), (0 : Int), (0 : Int)))))))))))))
  (.obC ((0 : Int) ≤ (5 : Int) ∧ (5 : Int) < (6 : Int)) (by decide)
  (.call (y1 u13 u11 u14 u12 r0.2.1 r0.2.2) fun r6 =>
  .brB (r6.2.2 == (0 : Int))
  (.obC ((0 : Int) ≤ (5 : Int) ∧ (5 : Int) < (6 : Int)) (by decide)
  (.obC (true = true) (by decide)
  (.obC ((0 : Int) ≤ (5 : Int) ∧ (5 : Int) < (6 : Int)) (by decide)
  (.obC (true = true ∧ true = true) (by decide)
  (.obT
  (.obT
  (.rc (((false, true, false, true, false, true, (0 : Int), (0 : Int), r2.1, r2.2.1, (0 : Int), (0 : Int), r4.1, r4.2.1, (0 : Int), (0 : Int), r6.1, r6.2.1, (0 : Int)))))))))))
  (.obT
  (.obT
  (.rc (((false, true, false, true, false, false, (0 : Int), (0 : Int), r2.1, r2.2.1, (0 : Int), (0 : Int), r4.1, r4.2.1, (0 : Int), (0 : Int), (0 : Int), (0 : Int), (0 : Int)))))))))))))))
  (.obC ((0 : Int) ≤ (4 : Int) ∧ (4 : Int) < (6 : Int)) (by decide)
  (.call (y2 u13 u11 u14 u12 r0.2.1 r0.2.2) fun r5 =>
  .brB (r5.2.2 == (0 : Int))
  (.obC ((0 : Int) ≤ (4 : Int) ∧ (4 : Int) < (6 : Int)) (by decide)
  (.obC (true = true) (by decide)
  (.obC ((0 : Int) ≤ (4 : Int) ∧ (4 : Int) < (6 : Int)) (by decide)
  (.obC (true = true ∧ true = true) (by decide)
  (.obC ((0 : Int) ≤ (5 : Int) ∧ (5 : Int) < (6 : Int)) (by decide)
  (.call (y1 u13 u11 u14 u12 r0.2.1 r0.2.2) fun r6 =>
  .brB (r6.2.2 == (0 : Int))
  (.obC ((0 : Int) ≤ (5 : Int) ∧ (5 : Int) < (6 : Int)) (by decide)
  (.obC (true = true) (by decide)
  (.obC ((0 : Int) ≤ (5 : Int) ∧ (5 : Int) < (6 : Int)) (by decide)
  (.obC (true = true ∧ true = true) (by decide)
  (.obT
  (.obT
  (.rc (((false, true, false, false, true, true, (0 : Int), (0 : Int), r2.1, r2.2.1, (0 : Int), (0 : Int), (0 : Int), (0 : Int), r5.1, r5.2.1, r6.1, r6.2.1, (0 : Int)))))))))))
  (.obT
  (.obT
  (.rc (((false, true, false, false, true, false, (0 : Int), (0 : Int), r2.1, r2.2.1, (0 : Int), (0 : Int), (0 : Int), (0 : Int), r5.1, r5.2.1, (0 : Int), (0 : Int), (0 : Int)))))))))))))
  (.obC ((0 : Int) ≤ (5 : Int) ∧ (5 : Int) < (6 : Int)) (by decide)
  (.call (y1 u13 u11 u14 u12 r0.2.1 r0.2.2) fun r6 =>
  .brB (r6.2.2 == (0 : Int))
  (.obC ((0 : Int) ≤ (5 : Int) ∧ (5 : Int) < (6 : Int)) (by decide)
  (.obC (true = true) (by decide)
  (.obC ((0 : Int) ≤ (5 : Int) ∧ (5 : Int) < (6 : Int)) (by decide)
  (.obC (true = true ∧ true = true) (by decide)
  (.obT
  (.obT
  (.rc (((false, true, false, false, false, true, (0 : Int), (0 : Int), r2.1, r2.2.1, (0 : Int), (0 : Int), (0 : Int), (0 : Int), (0 : Int), (0 : Int), r6.1, r6.2.1, (0 : Int)))))))))))
  (.obT
  (.obT
  (.rc (((false, true, false, false, false, false, (0 : Int), (0 : Int), r2.1, r2.2.1, (0 : Int), (0 : Int), (0 : Int), (0 : Int), (0 : Int), (0 : Int), (0 : Int), (0 : Int), (0 : Int)))))))))))))))))))
  (.obC ((0 : Int) ≤ (2 : Int) ∧ (2 : Int) < (6 : Int)) (by decide)
  (.call (y12 u13 u11 u14 u12 r0.2.1 r0.2.2 (2 : Int)) fun r3 =>
  .brB (r3.2.2 == (0 : Int))
  (.obC ((0 : Int) ≤ (2 : Int) ∧ (2 : Int) < (6 : Int)) (by decide)
  (.obC (true = true) (by decide)
  (.obC ((0 : Int) ≤ (2 : Int) ∧ (2 : Int) < (6 : Int)) (by decide)
  (.obC (true = true ∧ true = true) (by decide)
  (.obC ((0 : Int) ≤ (3 : Int) ∧ (3 : Int) < (6 : Int)) (by decide)
  (.call (y8 u13 u11 u14 u12 r0.2.1 r0.2.2) fun r4 =>
  .brB (r4.2.2 == (0 : Int))
  (.obC ((0 : Int) ≤ (3 : Int) ∧ (3 : Int) < (6 : Int)) (by decide)
  (.obC (true = true) (by decide)
  (.obC ((0 : Int) ≤ (3 : Int) ∧ (3 : Int) < (6 : Int)) (by decide)
  (.obC (true = true ∧ true = true) (by decide)
  (.obC ((0 : Int) ≤ (4 : Int) ∧ (4 : Int) < (6 : Int)) (by decide)
  (.call (y2 u13 u11 u14 u12 r0.2.1 r0.2.2) fun r5 =>
  .brB (r5.2.2 == (0 : Int))
  (.obC ((0 : Int) ≤ (4 : Int) ∧ (4 : Int) < (6 : Int)) (by decide)
  (.obC (true = true) (by decide)
  (.obC ((0 : Int) ≤ (4 : Int) ∧ (4 : Int) < (6 : Int)) (by decide)
  (.obC (true = true ∧ true = true) (by decide)
  (.obC ((0 : Int) ≤ (5 : Int) ∧ (5 : Int) < (6 : Int)) (by decide)
  (.call (y1 u13 u11 u14 u12 r0.2.1 r0.2.2) fun r6 =>
  .brB (r6.2.2 == (0 : Int))
  (.obC ((0 : Int) ≤ (5 : Int) ∧ (5 : Int) < (6 : Int)) (by decide)
  (.obC (true = true) (by decide)
  (.obC ((0 : Int) ≤ (5 : Int) ∧ (5 : Int) < (6 : Int)) (by decide)
  (.obC (true = true ∧ true = true) (by decide)
  (.obT
  (.obT
  (.rc (((false, false, true, true, true, true, (0 : Int), (0 : Int), (0 : Int), (0 : Int), r3.1, r3.2.1, r4.1, r4.2.1, r5.1, r5.2.1, r6.1, r6.2.1, (0 : Int)))))))))))
  (.obT
  (.obT
  (.rc (((false, false, true, true, true, false, (0 : Int), (0 : Int), (0 : Int), (0 : Int), r3.1, r3.2.1, r4.1, r4.2.1, r5.1, r5.2.1, (0 : Int), (0 : Int), (0 : Int)))))))))))))
  (.obC ((0 : Int) ≤ (5 : Int) ∧ (5 : Int) < (6 : Int)) (by decide)
  (.call (y1 u13 u11 u14 u12 r0.2.1 r0.2.2) fun r6 =>
  .brB (r6.2.2 == (0 : Int))
  (.obC ((0 : Int) ≤ (5 : Int) ∧ (5 : Int) < (6 : Int)) (by decide)
  (.obC (true = true) (by decide)
  (.obC ((0 : Int) ≤ (5 : Int) ∧ (5 : Int) < (6 : Int)) (by decide)
  (.obC (true = true ∧ true = true) (by decide)
  (.obT
  (.obT
  (.rc (((false, false, true, true, false, true, (0 : Int), (0 : Int), (0 : Int), (0 : Int), r3.1, r3.2.1, r4.1, r4.2.1, (0 : Int), (0 : Int), r6.1, r6.2.1, (0 : Int)))))))))))
  (.obT
  (.obT
  (.rc (((false, false, true, true, false, false, (0 : Int), (0 : Int), (0 : Int), (0 : Int), r3.1, r3.2.1, r4.1, r4.2.1, (0 : Int), (0 : Int), (0 : Int), (0 : Int), (0 : Int)))))))))))))))
  (.obC ((0 : Int) ≤ (4 : Int) ∧ (4 : Int) < (6 : Int)) (by decide)
  (.call (y2 u13 u11 u14 u12 r0.2.1 r0.2.2) fun r5 =>
  .brB (r5.2.2 == (0 : Int))
  (.obC ((0 : Int) ≤ (4 : Int) ∧ (4 : Int) < (6 : Int)) (by decide)
  (.obC (true = true) (by decide)
  (.obC ((0 : Int) ≤ (4 : Int) ∧ (4 : Int) < (6 : Int)) (by decide)
  (.obC (true = true ∧ true = true) (by decide)
  (.obC ((0 : Int) ≤ (5 : Int) ∧ (5 : Int) < (6 : Int)) (by decide)
  (.call (y1 u13 u11 u14 u12 r0.2.1 r0.2.2) fun r6 =>
  .brB (r6.2.2 == (0 : Int))
  (.obC ((0 : Int) ≤ (5 : Int) ∧ (5 : Int) < (6 : Int)) (by decide)
  (.obC (true = true) (by decide)
  (.obC ((0 : Int) ≤ (5 : Int) ∧ (5 : Int) < (6 : Int)) (by decide)
  (.obC (true = true ∧ true = true) (by decide)
  (.obT
  (.obT
  (.rc (((false, false, true, false, true, true, (0 : Int), (0 : Int), (0 : Int), (0 : Int), r3.1, r3.2.1, (0 : Int), (0 : Int), r5.1, r5.2.1, r6.1, r6.2.1, (0 : Int)))))))))))
  (.obT
  (.obT
  (.rc (((false, false, true, false, true, false, (0 : Int), (0 : Int), (0 : Int), (0 : Int), r3.1, r3.2.1, (0 : Int), (0 : Int), r5.1, r5.2.1, (0 : Int), (0 : Int), (0 : Int)))))))))))))
  (.obC ((0 : Int) ≤ (5 : Int) ∧ (5 : Int) < (6 : Int)) (by decide)
  (.call (y1 u13 u11 u14 u12 r0.2.1 r0.2.2) fun r6 =>
  .brB (r6.2.2 == (0 : Int))
  (.obC ((0 : Int) ≤ (5 : Int) ∧ (5 : Int) < (6 : Int)) (by decide)
  (.obC (true = true) (by decide)
  (.obC ((0 : Int) ≤ (5 : Int) ∧ (5 : Int) < (6 : Int)) (by decide)
  (.obC (true = true ∧ true = true) (by decide)
  (.obT
  (.obT
  (.rc (((false, false, true, false, false, true, (0 : Int), (0 : Int), (0 : Int), (0 : Int), r3.1, r3.2.1, (0 : Int), (0 : Int), (0 : Int), (0 : Int), r6.1, r6.2.1, (0 : Int)))))))))))
  (.obT
  (.obT
  (.rc (((false, false, true, false, false, false, (0 : Int), (0 : Int), (0 : Int), (0 : Int), r3.1, r3.2.1, (0 : Int), (0 : Int), (0 : Int), (0 : Int), (0 : Int), (0 : Int), (0 : Int)))))))))))))))))
  (.obC ((0 : Int) ≤ (3 : Int) ∧ (3 : Int) < (6 : Int)) (by decide)
  (.call (y8 u13 u11 u14 u12 r0.2.1 r0.2.2) fun r4 =>
  .brB (r4.2.2 == (0 : Int))
  (.obC ((0 : Int) ≤ (3 : Int) ∧ (3 : Int) < (6 : Int)) (by decide)
  (.obC (true = true) (by decide)
  (.obC ((0 : Int) ≤ (3 : Int) ∧ (3 : Int) < (6 : Int)) (by decide)
  (.obC (true = true ∧ true = true) (by decide)
  (.obC ((0 : Int) ≤ (4 : Int) ∧ (4 : Int) < (6 : Int)) (by decide)
  (.call (y2 u13 u11 u14 u12 r0.2.1 r0.2.2) fun r5 =>
  .brB (r5.2.2 == (0 : Int))
  (.obC ((0 : Int) ≤ (4 : Int) ∧ (4 : Int) < (6 : Int)) (by decide)
  (.obC (true = true) (by decide)
  (.obC ((0 : Int) ≤ (4 : Int) ∧ (4 : Int) < (6 : Int)) (by decide)
  (.obC (true = true ∧ true = true) (by decide)
  (.obC ((0 : Int) ≤ (5 : Int) ∧ (5 : Int) < (6 : Int)) (by decide)
  (.call (y1 u13 u11 u14 u12 r0.2.1 r0.2.2) fun r6 =>
  .brB (r6.2.2 == (0 : Int))
  (.obC ((0 : Int) ≤ (5 : Int) ∧ (5 : Int) < (6 : Int)) (by decide)
  (.obC (true = true) (by decide)
  (.obC ((0 : Int) ≤ (5 : Int) ∧ (5 : Int) < (6 : Int)) (by decide)
  (.obC (true = true ∧ true = true) (by decide)
  (.obT
  (.obT
  (.rc (((false, false, false, true, true, true, (0 : Int), (0 : Int), (0 : Int), (0 : Int), (0 : Int), (0 : Int), r4.1, r4.2.1, r5.1, r5.2.1, r6.1, r6.2.1, (0 : Int)))))))))))
  (.obT
  (.obT
  (.rc (((false, false, false, true, true, false, (0 : Int), (0 : Int), (0 : Int), (0 : Int), (0 : Int), (0 : Int), r4.1, r4.2.1, r5.1, r5.2.1, (0 : Int), (0 : Int), (0 : Int)))))))))))))
  (.obC ((0 : Int) ≤ (5 : Int) ∧ (5 : Int) < (6 : Int)) (by decide)
  (.call (y1 u13 u11 u14 u12 r0.2.1 r0.2.2) fun r6 =>
  .brB (r6.2.2 == (0 : Int))
  (.obC ((0 : Int) ≤ (5 : Int) ∧ (5 : Int) < (6 : Int)) (by decide)
  (.obC (true = true) (by decide)
  (.obC ((0 : Int) ≤ (5 : Int) ∧ (5 : Int) < (6 : Int)) (by decide)
  (.obC (true = true ∧ true = true) (by decide)
  (.obT
  (.obT
  (.rc (((false, false, false, true, false, true, (0 : Int), (0 : Int), (0 : Int), (0 : Int), (0 : Int), (0 : Int), r4.1, r4.2.1, (0 : Int), (0 : Int), r6.1, r6.2.1, (0 : Int)))))))))))
  (.obT
  (.obT
  (.rc (((false, false, false, true, false, false, (0 : Int), (0 : Int), (0 : Int), (0 : Int), (0 : Int), (0 : Int), r4.1, r4.2.1, (0 : Int), (0 : Int), (0 : Int), (0 : Int), (0 : Int)))))))))))))))
  (.obC ((0 : Int) ≤ (4 : Int) ∧ (4 : Int) < (6 : Int)) (by decide)
  (.call (y2 u13 u11 u14 u12 r0.2.1 r0.2.2) fun r5 =>
  .brB (r5.2.2 == (0 : Int))
  (.obC ((0 : Int) ≤ (4 : Int) ∧ (4 : Int) < (6 : Int)) (by decide)
  (.obC (true = true) (by decide)
  (.obC ((0 : Int) ≤ (4 : Int) ∧ (4 : Int) < (6 : Int)) (by decide)
  (.obC (true = true ∧ true = true) (by decide)
  (.obC ((0 : Int) ≤ (5 : Int) ∧ (5 : Int) < (6 : Int)) (by decide)
  (.call (y1 u13 u11 u14 u12 r0.2.1 r0.2.2) fun r6 =>
  .brB (r6.2.2 == (0 : Int))
  (.obC ((0 : Int) ≤ (5 : Int) ∧ (5 : Int) < (6 : Int)) (by decide)
  (.obC (true = true) (by decide)
  (.obC ((0 : Int) ≤ (5 : Int) ∧ (5 : Int) < (6 : Int)) (by decide)
  (.obC (true = true ∧ true = true) (by decide)
  (.obT
  (.obT
  (.rc (((false, false, false, false, true, true, (0 : Int), (0 : Int), (0 : Int), (0 : Int), (0 : Int), (0 : Int), (0 : Int), (0 : Int), r5.1, r5.2.1, r6.1, r6.2.1, (0 : Int)))))))))))
  (.obT
  (.obT
  (.rc (((false, false, false, false, true, false, (0 : Int), (0 : Int), (0 : Int), (0 : Int), (0 : Int), (0 : Int), (0 : Int), (0 : Int), r5.1, r5.2.1, (0 : Int), (0 : Int), (0 : Int)))))))))))))
  (.obC ((0 : Int) ≤ (5 : Int) ∧ (5 : Int) < (6 : Int)) (by decide)
  (.call (y1 u13 u11 u14 u12 r0.2.1 r0.2.2) fun r6 =>
  .brB (r6.2.2 == (0 : Int))
  (.obC ((0 : Int) ≤ (5 : Int) ∧ (5 : Int) < (6 : Int)) (by decide)
  (.obC (true = true) (by decide)
  (.obC ((0 : Int) ≤ (5 : Int) ∧ (5 : Int) < (6 : Int)) (by decide)
  (.obC (true = true ∧ true = true) (by decide)
  (.obT
  (.obT
  (.rc (((false, false, false, false, false, true, (0 : Int), (0 : Int), (0 : Int), (0 : Int), (0 : Int), (0 : Int), (0 : Int), (0 : Int), (0 : Int), (0 : Int), r6.1, r6.2.1, (0 : Int)))))))))))
  (.obT
  (.obT
  (.rc (((false, false, false, false, false, false, (0 : Int), (0 : Int), (0 : Int), (0 : Int), (0 : Int), (0 : Int), (0 : Int), (0 : Int), (0 : Int), (0 : Int), (0 : Int), (0 : Int), (0 : Int)))))))))))))))))))))))))))))
set_option maxRecDepth 100000 in
theorem G_FiguresOf_vc (u13 : Int) (u11 : List Nat) (u14 : Int) (u12 : Int) (r : Bool × Bool × Bool × Bool × Bool × Bool × Int × Int × Int × Int × Int × Int × Int × Int × Int × Int × Int × Int × Int) (h : Option.bind (y11 u13 u11 u14 u12) some = some r) : runT Tryz.f60 ((sp_67 (sp_82 (sp_102 (sp_103 (sp_104 sp0)))))) (fun _ _ _ => none) (bldD k_G_FiguresOf [.d (.i .i64 u13), .r (.floats .f32 u11), .d (.i .i64 u14), .d (.i .i64 u12)]) [.s [.d (.b r.1), .d (.b r.2.1), .d (.b r.2.2.1), .d (.b r.2.2.2.1), .d (.b r.2.2.2.2.1), .d (.b r.2.2.2.2.2.1), .d (.i .i64 r.2.2.2.2.2.2.1), .d (.i .i64 r.2.2.2.2.2.2.2.1), .d (.i .i64 r.2.2.2.2.2.2.2.2.1), .d (.i .i64 r.2.2.2.2.2.2.2.2.2.1), .d (.i .i64 r.2.2.2.2.2.2.2.2.2.2.1), .d (.i .i64 r.2.2.2.2.2.2.2.2.2.2.2.1), .d (.i .i64 r.2.2.2.2.2.2.2.2.2.2.2.2.1), .d (.i .i64 r.2.2.2.2.2.2.2.2.2.2.2.2.2.1), .d (.i .i64 r.2.2.2.2.2.2.2.2.2.2.2.2.2.2.1), .d (.i .i64 r.2.2.2.2.2.2.2.2.2.2.2.2.2.2.2.1), .d (.i .i64 r.2.2.2.2.2.2.2.2.2.2.2.2.2.2.2.2.1), .d (.i .i64 r.2.2.2.2.2.2.2.2.2.2.2.2.2.2.2.2.2.1)], .c (.d (.i .i64 r.2.2.2.2.2.2.2.2.2.2.2.2.2.2.2.2.2.2))] :=
  T.vc (t := G_FiguresOf_t u13 u11 u14 u12) (by kernel_rfl) (by kernel_rfl) h
set_option maxRecDepth 100000 in
theorem G_FiguresOf_ok : SpecOK Tryz.prog 60 true (pureT k_G_FiguresOf g_G_FiguresOf) := by
  refine pureT_ok (sp := (sp_67 (sp_82 (sp_102 (sp_103 (sp_104 sp0)))))) (fn := Tryz.f60) (body := bodyOf Tryz.f60) mixed (sp_67_ok (sp_82_ok (sp_102_ok (sp_103_ok (sp_104_ok sp0_ok))))) Tryz.func60 (by kernel_rfl) (by kernel_rfl) fun ls t h ho b hb => ?_
  unfold g_G_FiguresOf at h
  split at h
  · rename_i u13 u11 u14 u12
    cases h
    obtain rfl := bld_eq hb
    exact ⟨Nat.le_of_ble_eq_true (by kernel_rfl), _, _, G_FiguresOf_vc u13 u11 u14 u12 _ (ok_some ho)⟩
  · cases h
theorem sp_60_ok {sp : Specs} (h : SpecsOK Tryz.prog sp) : SpecsOK Tryz.prog (sp_60 sp) := addK_ok G_FiguresOf_ok h
end Go.Sh
end

section
open Go.RowKit
namespace Go.Proofs
open Go.Shelf
def Tryz.laysM171_ren : Go.Shelf.Ren := ⟨fun | 171 => 109 | 243 => 136 | 246 => 159 | 283 => 178 | 284 => 179 | 285 => 180 | 286 => 181 | 129 => 166 | 317 => 192 | 318 => 193 | 319 => 194 | 320 => 195 | 337 => 200 | 338 => 201 | n => n, fun | 3 => 3 | 9 => 9 | 2 => 2 | 4 => 4 | 171 => 213 | 0 => 0 | 53 => 134 | 37 => 179 | 5 => 5 | 173 => 215 | 212 => 227 | 51 => 228 | 20 => 20 | 213 => 229 | 46 => 189 | 232 => 243 | 233 => 244 | n => n, fun | 17 => 11 | 18 => 14 | 19 => 15 | n => n⟩
theorem Tryz.laysM171 : Go.Proofs.LaysM.n171 Tryz.prog Tryz.laysM171_ren := {
  mixed := by kernel_rfl
  f129 := Tryz.func166.trans (congrArg some (by kernel_rfl))
  f171 := Tryz.func109.trans (congrArg some (by kernel_rfl))
  f243 := Tryz.func136.trans (congrArg some (by kernel_rfl))
  f246 := Tryz.func159.trans (congrArg some (by kernel_rfl))
  f283 := Tryz.func178.trans (congrArg some (by kernel_rfl))
  f284 := Tryz.func179.trans (congrArg some (by kernel_rfl))
  f285 := Tryz.func180.trans (congrArg some (by kernel_rfl))
  f286 := Tryz.func181.trans (congrArg some (by kernel_rfl))
  f317 := Tryz.func192.trans (congrArg some (by kernel_rfl))
  f318 := Tryz.func193.trans (congrArg some (by kernel_rfl))
  f319 := Tryz.func194.trans (congrArg some (by kernel_rfl))
  f320 := Tryz.func195.trans (congrArg some (by kernel_rfl))
  f337 := Tryz.func200.trans (congrArg some (by kernel_rfl))
  f338 := Tryz.func201.trans (congrArg some (by kernel_rfl))
  t0 := Tryz.underlying0
  a0 := Tryz.isAgg0
  z0 := Tryz.sizeOf0
  v0 := Tryz.zeroValue0
  t2 := Tryz.underlying2
  a2 := Tryz.isAgg2
  z2 := Tryz.sizeOf2
  v2 := Tryz.zeroValue2
  t3 := Tryz.underlying3
  a3 := Tryz.isAgg3
  z3 := Tryz.sizeOf3
  v3 := Tryz.zeroValue3
  t4 := Tryz.underlying4
  a4 := Tryz.isAgg4
  z4 := Tryz.sizeOf4
  v4 := Tryz.zeroValue4
  t5 := Tryz.underlying5
  a5 := Tryz.isAgg5
  z5 := Tryz.sizeOf5
  v5 := Tryz.zeroValue5
  t9 := Tryz.underlying9
  a9 := Tryz.isAgg9
  z9 := Tryz.sizeOf9
  v9 := Tryz.zeroValue9
  t20 := Tryz.underlying20
  a20 := Tryz.isAgg20
  z20 := Tryz.sizeOf20
  v20 := Tryz.zeroValue20
  t37 := Tryz.underlying179
  a37 := Tryz.isAgg179
  z37 := Tryz.sizeOf179
  v37 := Tryz.zeroValue179
  t46 := Tryz.underlying189
  a46 := Tryz.isAgg189
  z46 := Tryz.sizeOf189
  v46 := Tryz.zeroValue189
  t51 := Tryz.underlying228
  a51 := Tryz.isAgg228
  z51 := Tryz.sizeOf228
  v51 := Tryz.zeroValue228
  t53 := Tryz.underlying134
  a53 := Tryz.isAgg134
  z53 := Tryz.sizeOf134
  v53 := Tryz.zeroValue134
  t171 := Tryz.underlying213
  a171 := Tryz.isAgg213
  z171 := Tryz.sizeOf213
  v171 := Tryz.zeroValue213
  t173 := Tryz.underlying215
  a173 := Tryz.isAgg215
  z173 := Tryz.sizeOf215
  v173 := Tryz.zeroValue215
  t212 := Tryz.underlying227
  a212 := Tryz.isAgg227
  z212 := Tryz.sizeOf227
  v212 := Tryz.zeroValue227
  t213 := Tryz.underlying229
  a213 := Tryz.isAgg229
  z213 := Tryz.sizeOf229
  t232 := Tryz.underlying243
  a232 := Tryz.isAgg243
  z232 := Tryz.sizeOf243
  v232 := Tryz.zeroValue243
  t233 := Tryz.underlying244
  a233 := Tryz.isAgg244
  z233 := Tryz.sizeOf244
  v233 := Tryz.zeroValue244
  g17 := by kernel_rfl
  g18 := by kernel_rfl
  g19 := by kernel_rfl
  i0 := by kernel_rfl
  i2 := by kernel_rfl
  i3 := by kernel_rfl
  i4 := by kernel_rfl
  i5 := by kernel_rfl
  i9 := by kernel_rfl
  i20 := by kernel_rfl
  i37 := by kernel_rfl
  i46 := by kernel_rfl
  i51 := by kernel_rfl
  i53 := by kernel_rfl
  i171 := by kernel_rfl
  i173 := by kernel_rfl
  i212 := by kernel_rfl
  i232 := by kernel_rfl
  i233 := by kernel_rfl
  m17 := by kernel_rfl
  m18 := by kernel_rfl
  m19 := by kernel_rfl }
def Tryz.lays156_ren : Go.Shelf.Ren := ⟨fun | 156 => 110 | 165 => 137 | 166 => 138 | 169 => 139 | 240 => 160 | 241 => 161 | 276 => 182 | 277 => 183 | n => n, fun | 31 => 142 | 9 => 9 | 3 => 3 | 4 => 4 | 0 => 0 | 20 => 20 | 72 => 181 | 76 => 175 | 70 => 178 | 37 => 179 | 75 => 174 | 127 => 196 | 164 => 217 | 5 => 5 | 80 => 183 | n => n, fun | n => n⟩
theorem Tryz.lays156 : Go.Proofs.Lays.n156 Tryz.prog Tryz.lays156_ren := {
  mixed := by kernel_rfl
  f156 := Tryz.func110.trans (congrArg some (by kernel_rfl))
  f165 := Tryz.func137.trans (congrArg some (by kernel_rfl))
  f166 := Tryz.func138.trans (congrArg some (by kernel_rfl))
  f169 := Tryz.func139.trans (congrArg some (by kernel_rfl))
  f240 := Tryz.func160.trans (congrArg some (by kernel_rfl))
  f241 := Tryz.func161.trans (congrArg some (by kernel_rfl))
  f276 := Tryz.func182.trans (congrArg some (by kernel_rfl))
  f277 := Tryz.func183.trans (congrArg some (by kernel_rfl))
  t0 := Tryz.underlying0
  a0 := Tryz.isAgg0
  z0 := Tryz.sizeOf0
  v0 := Tryz.zeroValue0
  t3 := Tryz.underlying3
  a3 := Tryz.isAgg3
  z3 := Tryz.sizeOf3
  v3 := Tryz.zeroValue3
  t4 := Tryz.underlying4
  a4 := Tryz.isAgg4
  z4 := Tryz.sizeOf4
  v4 := Tryz.zeroValue4
  t9 := Tryz.underlying9
  a9 := Tryz.isAgg9
  z9 := Tryz.sizeOf9
  v9 := Tryz.zeroValue9
  t20 := Tryz.underlying20
  a20 := Tryz.isAgg20
  z20 := Tryz.sizeOf20
  v20 := Tryz.zeroValue20
  t31 := Tryz.underlying142
  a31 := Tryz.isAgg142
  z31 := Tryz.sizeOf142
  v31 := Tryz.zeroValue142
  t37 := Tryz.underlying179
  a37 := Tryz.isAgg179
  z37 := Tryz.sizeOf179
  v37 := Tryz.zeroValue179
  t70 := Tryz.underlying178
  a70 := Tryz.isAgg178
  z70 := Tryz.sizeOf178
  v70 := Tryz.zeroValue178
  t72 := Tryz.underlying181
  a72 := Tryz.isAgg181
  z72 := Tryz.sizeOf181
  v72 := Tryz.zeroValue181
  t75 := Tryz.underlying174
  a75 := Tryz.isAgg174
  z75 := Tryz.sizeOf174
  v75 := Tryz.zeroValue174
  t76 := Tryz.underlying175
  a76 := Tryz.isAgg175
  z76 := Tryz.sizeOf175
  v76 := Tryz.zeroValue175
  t127 := Tryz.underlying196
  a127 := Tryz.isAgg196
  z127 := Tryz.sizeOf196
  v127 := Tryz.zeroValue196
  t164 := Tryz.underlying217
  a164 := Tryz.isAgg217
  z164 := Tryz.sizeOf217
  v164 := Tryz.zeroValue217 }
end Go.Proofs
namespace Go.Sh
open Go Go.Proofs Go.RowKit Go.Sx Go.Shelf
set_option linter.unusedVariables false
theorem flat1 {α : Type} (f : α → D) (l : List α) : (l.flatMap fun x => [f x]) = l.map f := by
  induction l with
  | nil => rfl
  | cons x r ih => simp [List.flatMap_cons, ih]
set_option maxRecDepth 100000 in
theorem builder156 : Builder.Extra Tryz.prog Tryz.lays156_ren where
  sizeBuilder := by kernel_rfl
  liesBuilder := by kernel_rfl
  t5 := by kernel_rfl
  a5 := fun w => run_aggT w (by kernel_rfl)
  z5 := fun w => run_szT w (by kernel_rfl)
  v5 := fun w => rfl
  infoByte := by kernel_rfl
  cellsByte := by kernel_rfl
  sizeByte := by kernel_rfl
  neB5 := by decide
set_option maxRecDepth 100000 in
theorem pow10_named : Tryz.prog.globalNamed "internal/strconv.uint64pow10" = some 11 := by kernel_rfl
theorem tab_is {B : Bd} {w : World} (h : GlobOK B w) {g : Nat} {k : IntKind} {l : List Int} {name : String} (hn : Tryz.prog.globalNamed name = some g) (ht : Globs.tab g = some (.ints k l)) : Lib.TabIs Tryz.prog w name k l := by
  obtain ⟨_, hc, cs, t, f, hg, hs⟩ := h.1 g _ ht
  unfold Lib.TabIs World.var?
  rw [hn]
  simp only [Option.bind_some, hg, Option.some.injEq]
  apply Array.ext'
  apply List.ext_getElem?
  intro i
  have hfl : (Cont.ints k l).flat = l.map (D.i k) := flat1 _ _
  by_cases hi : i < l.length
  · have := hc i (.i k l[i]) (by rw [hfl]; simp [hi])
    simp only [World.cell?, hg] at this
    rw [Array.getElem?_toList]
    simp only [List.getElem?_map, List.getElem?_eq_getElem hi, Option.map_some]
    exact this
  · rw [hfl, List.length_map] at hs
    rw [Array.getElem?_toList, Array.getElem?_eq_none (by omega), List.getElem?_eq_none (by simpa using Nat.le_of_not_lt hi)]
def strconv_Itoa (n : Int) : Option ByteArray := if -9223372036854775808 ≤ n ∧ n ≤ 9223372036854775807 then some ⟨(Lib.itoa n).toArray⟩ else none
def k_strconv_Itoa : List SV := [.c (.d)]
def g_strconv_Itoa : List Lf → Option GT
  | [.d (.i .i64 n)] => some (.leaf (ok (strconv_Itoa n)) [.c (.d (.s (val (strconv_Itoa n))))])
  | _ => none
abbrev sp_109 : Specs → Specs := addK 109 true (pureT k_strconv_Itoa g_strconv_Itoa)
set_option maxRecDepth 100000 in
theorem strconv_Itoa_ok : SpecOK Tryz.prog 109 true (pureT k_strconv_Itoa g_strconv_Itoa) := by
  refine pureT_okC (body := bodyOf Tryz.f109) Tryz.func109 (by kernel_rfl) (by kernel_rfl) ?_
  intro ls t hg ho b hb ρ0 w hlt hh
  unfold g_strconv_Itoa at hg
  split at hg
  · rename_i n
    cases hg
    obtain rfl := bld_eq hb
    have hk : ok (strconv_Itoa n) := ho
    unfold strconv_Itoa at hk
    have hn : -9223372036854775808 ≤ n ∧ n ≤ 9223372036854775807 := by
      by_cases h : -9223372036854775808 ≤ n ∧ n ≤ 9223372036854775807
      · exact h
      · rw [if_neg h] at hk; cases hk
    have hv : val (strconv_Itoa n) = ⟨(Lib.itoa n).toArray⟩ := by
      unfold strconv_Itoa
      rw [if_pos hn]
      rfl
    have htab := tab_is hh.glob pow10_named (k := .u64) (l := Lib.pow10Tab) (by kernel_rfl)
    refine (Any.strconv_Itoa Tryz.laysM171 n hn.1 hn.2 w htab).mono ?_
    rintro e w' ⟨rfl, k, os, rfl⟩
    have hbl : Below w.heap.size w (Sort.grow (w.drewN k) os) := by
      refine ⟨rfl, rfl, rfl, by simp [Sort.grow, World.drewN], fun j hj => ?_⟩
      show (w.heap ++ os)[j]? = _
      rw [Array.getElem?_append_left hj]
    refine ⟨ρ0, .w (.c (.d (.s ⟨(Lib.itoa n).toArray⟩))), _, _, rfl, trivial, Agree.refl _ _, hh.below hbl (fun k hk => hk), bel_of hbl (fun k hk => hk), ?_⟩
    show mD _ _ ∧ True
    rw [hv]
    exact ⟨⟨rfl⟩, trivial⟩
  · cases hg
theorem sp_109_ok {sp : Specs} (h : SpecsOK Tryz.prog sp) : SpecsOK Tryz.prog (sp_109 sp) := addK_ok strconv_Itoa_ok h
def strings_Join (l : List ByteArray) (sep : ByteArray) : Option ByteArray :=
  if l.length ≤ 140737488355328 ∧ (Lib.join (l.map (·.data.toList)) sep.data.toList).length ≤ 140737488355328 then some ⟨(Lib.join (l.map (·.data.toList)) sep.data.toList).toArray⟩ else none
def k_strings_Join : List SV := [.c (.r (.strs [])), .c (.d)]
def g_strings_Join : List Lf → Option GT
  | [.r (.strs l), .d (.s sep)] => some (.leaf (ok (strings_Join l sep)) [.c (.d (.s (val (strings_Join l sep))))])
  | _ => none
abbrev sp_110 : Specs → Specs := addK 110 true (pureT k_strings_Join g_strings_Join)
set_option maxRecDepth 100000 in
theorem strings_Join_ok : SpecOK Tryz.prog 110 true (pureT k_strings_Join g_strings_Join) := by
  refine pureT_okC (body := bodyOf Tryz.f110) Tryz.func110 (by kernel_rfl) (by kernel_rfl) ?_
  intro ls t hg ho b hb ρ0 w hlt hh
  unfold g_strings_Join at hg
  split at hg
  · rename_i l sep
    cases hg
    obtain rfl := bld_eq hb
    have hk : ok (strings_Join l sep) := ho
    unfold strings_Join at hk
    have hn : l.length ≤ 140737488355328 ∧ (Lib.join (l.map (·.data.toList)) sep.data.toList).length ≤ 140737488355328 := by
      by_cases h : l.length ≤ 140737488355328 ∧ (Lib.join (l.map (·.data.toList)) sep.data.toList).length ≤ 140737488355328
      · exact h
      · rw [if_neg h] at hk; cases hk
    have hv : val (strings_Join l sep) = ⟨(Lib.join (l.map (·.data.toList)) sep.data.toList).toArray⟩ := by
      unfold strings_Join
      rw [if_pos hn]
      rfl
    obtain ⟨_, _, ⟨a, cap, hv0, ⟨hcap, _⟩, hcells⟩, hold⟩ := hh.ok 0 (.ext (.strs l)) rfl
    have hargs : ((bldD k_strings_Join [.r (.strs l), .d (.s sep)]).vs.map (V.val ρ0)).toArray = #[ρ0 0, .string sep] := rfl
    rw [hargs, hv0]
    have fin : ∀ w', Below w.heap.size w w' → ∃ ρ' v hp' nx', Ending.returned (.string ⟨(Lib.join (l.map (·.data.toList)) sep.data.toList).toArray⟩) = .returned (V.val ρ' v) ∧ v.lt nx' ∧ Agree 1 ρ0 ρ' ∧ HRel ρ' (fun k => k < w.heap.size) hp' nx' w' ∧ Bel (fun k => k < w.heap.size) w w' ∧
        fitV 1 [.c (.d (.s (val (strings_Join l sep))))] v hp' := fun w' hbl => by
      refine ⟨ρ0, .w (.c (.d (.s ⟨(Lib.join (l.map (·.data.toList)) sep.data.toList).toArray⟩))), _, _, rfl, trivial, Agree.refl _ _, hh.below hbl (fun k hk => hk), bel_of hbl (fun k hk => hk), ?_⟩
      show mD _ _ ∧ True
      rw [hv]
      exact ⟨⟨rfl⟩, trivial⟩
    cases hl : l with
    | nil =>
      subst hl
      refine (Any.strings_Join_none Tryz.lays156 builder156 a cap sep w).mono ?_
      rintro e w' ⟨rfl, rfl⟩
      exact fin _ (Below.refl _ _)
    | cons x r =>
      rw [← hl]
      have h0 : 0 < l.length := by rw [hl]; simp
      obtain ⟨b, off, rfl, hx⟩ := hcells h0
      refine (Any.strings_Join Tryz.lays156 builder156 b off cap l sep w (fun j x hj => ?_) (hold _ _ _ hv0 h0) hn.1 hcap hn.2).mono ?_
      · exact hx j (.s x) (by
          show ((Cont.strs l).flat)[j]? = _
          have hfl : (Cont.strs l).flat = l.map D.s := flat1 _ _
          rw [hfl, List.getElem?_map, hj]
          rfl)
      · rintro e w' ⟨rfl, hbl⟩
        exact fin _ hbl
  · cases hg
theorem sp_110_ok {sp : Specs} (h : SpecsOK Tryz.prog sp) : SpecsOK Tryz.prog (sp_110 sp) := addK_ok strings_Join_ok h
end Go.Sh
end

section
namespace Go.Sh
open Go Go.Proofs Go.RowKit Go.Sx
set_option linter.unusedVariables false
def k_G_FormatFigures : List (Option Cont) := [none]
def y54 (u43 : Bool) (u44 : Bool) (u45 : Bool) (u46 : Bool) (u47 : Bool) (u48 : Bool) (u49 : Int) (u50 : Int) (u51 : Int) (u52 : Int) (u53 : Int) (u54 : Int) (u55 : Int) (u56 : Int) (u57 : Int) (u58 : Int) (u59 : Int) (u60 : Int) (x0 : (Int × List ByteArray)) : Option ((Int × List ByteArray) ⊕ (List ByteArray)) :=
  if x0.1 < (6 : Int) then
   if ((0 : Int) ≤ x0.1 ∧ x0.1 < (↑(6 : Nat) : Int)) ∧ List.getD [true, true, true, true, true, true] (Int.toNat x0.1 * (1 : Nat)) false = true then
    if (!List.getD [u43, u44, u45, u46, u47, u48] (Int.toNat x0.1 * (1 : Nat)) false) = true then
     if (List.length x0.2 + List.length [ByteArray.mk #[(45 : UInt8)]]) * (16 : Nat) ≤ (140737488355328 : Nat) ∧ List.length x0.2 + List.length [ByteArray.mk #[(45 : UInt8)]] ≤ (9223372036854775807 : Nat) then
      some (.inl ((IntKind.wrap .i64 (x0.1 + (1 : Int)), x0.2 ++ [ByteArray.mk #[(45 : UInt8)]])))
     else none
    else
     if (0 : Int) ≤ x0.1 ∧ x0.1 < (↑(6 : Nat) : Int) then
      if List.getD [false, false, false, false, false, false, true, true, true, true, true, true, true, true, true, true, true, true] ((6 : Nat) + Int.toNat x0.1 * (2 : Nat) + Field.offset (Field.mk "Lo" (3 : Nat) (0 : Nat) false "" "" (0 : Nat))) false = true then
       Option.bind (strconv_Itoa (List.getD [(0 : Int), (0 : Int), (0 : Int), (0 : Int), (0 : Int), (0 : Int), u49, u50, u51, u52, u53, u54, u55, u56, u57, u58, u59, u60] ((6 : Nat) + Int.toNat x0.1 * (2 : Nat) + Field.offset (Field.mk "Lo" (3 : Nat) (0 : Nat) false "" "" (0 : Nat))) (0 : Int))) fun r0 =>
       if (0 : Int) ≤ x0.1 ∧ x0.1 < (↑(6 : Nat) : Int) then
        if List.getD [false, false, false, false, false, false, true, true, true, true, true, true, true, true, true, true, true, true] ((6 : Nat) + Int.toNat x0.1 * (2 : Nat) + Field.offset (Field.mk "Hi" (3 : Nat) (1 : Nat) false "" "" (8 : Nat))) false = true then
         Option.bind (strconv_Itoa (List.getD [(0 : Int), (0 : Int), (0 : Int), (0 : Int), (0 : Int), (0 : Int), u49, u50, u51, u52, u53, u54, u55, u56, u57, u58, u59, u60] ((6 : Nat) + Int.toNat x0.1 * (2 : Nat) + Field.offset (Field.mk "Hi" (3 : Nat) (1 : Nat) false "" "" (8 : Nat))) (0 : Int))) fun r1 =>
         if (List.length x0.2 + List.length [r0, r1]) * (16 : Nat) ≤ (140737488355328 : Nat) ∧ List.length x0.2 + List.length [r0, r1] ≤ (9223372036854775807 : Nat) then
          some (.inl ((IntKind.wrap .i64 (x0.1 + (1 : Int)), x0.2 ++ [r0, r1])))
         else none
        else none
       else none
      else none
     else none
   else none
  else
   some (.inr x0.2)
def y55 (u15 : List ByteArray) : Option ByteArray :=
  Option.bind (strings_Join u15 (ByteArray.mk #[(32 : UInt8)])) fun r2 =>
  some r2
def y94 (u43 : Bool) (u44 : Bool) (u45 : Bool) (u46 : Bool) (u47 : Bool) (u48 : Bool) (u49 : Int) (u50 : Int) (u51 : Int) (u52 : Int) (u53 : Int) (u54 : Int) (u55 : Int) (u56 : Int) (u57 : Int) (u58 : Int) (u59 : Int) (u60 : Int) : Option ByteArray :=
  Option.bind (iter (y54 u43 u44 u45 u46 u47 u48 u49 u50 u51 u52 u53 u54 u55 u56 u57 u58 u59 u60) big (((0 : Int), []))) (y55)
def y135 : List A → Option (Prop × List RV)
  | [.s [.b u43, .b u44, .b u45, .b u46, .b u47, .b u48, .i .i64 u49, .i .i64 u50, .i .i64 u51, .i .i64 u52, .i .i64 u53, .i .i64 u54, .i .i64 u55, .i .i64 u56, .i .i64 u57, .i .i64 u58, .i .i64 u59, .i .i64 u60]] => some (ok (y94 u43 u44 u45 u46 u47 u48 u49 u50 u51 u52 u53 u54 u55 u56 u57 u58 u59 u60), [.d (.s ((val (y94 u43 u44 u45 u46 u47 u48 u49 u50 u51 u52 u53 u54 u55 u56 u57 u58 u59 u60))))])
  | _ => none
abbrev sp_62 : Specs → Specs := addK 62 true (pureK k_G_FormatFigures y135)
set_option maxRecDepth 100000 in
theorem G_FormatFigures_vc (u43 : Bool) (u44 : Bool) (u45 : Bool) (u46 : Bool) (u47 : Bool) (u48 : Bool) (u49 : Int) (u50 : Int) (u51 : Int) (u52 : Int) (u53 : Int) (u54 : Int) (u55 : Int) (u56 : Int) (u57 : Int) (u58 : Int) (u59 : Int) (u60 : Int) (r : ByteArray) (h : Option.bind (y94 u43 u44 u45 u46 u47 u48 u49 u50 u51 u52 u53 u54 u55 u56 u57 u58 u59 u60) some = some r) : runF Tryz.f62 ((sp_109 (sp_110 sp0))) (fun gs id _ => match id with
 | 0 => some ⟨(Int × List ByteArray) × Nat, fun z => ⟨[(1, .w (.c (.p 1 (0 : Nat) 1 (0 : Nat)))), (3, .w (.c (.o 2))), (7, .w (.a [.d (.b u43), .d (.b u44), .d (.b u45), .d (.b u46), .d (.b u47), .d (.b u48)])), (8, .w (.c (.d (.i .i64 (Prod.fst (Prod.fst z))))))], [(1, .box 95 [.d (.b u43), .d (.b u44), .d (.b u45), .d (.b u46), .d (.b u47), .d (.b u48), .d (.i .i64 u49), .d (.i .i64 u50), .d (.i .i64 u51), .d (.i .i64 u52), .d (.i .i64 u53), .d (.i .i64 u54), .d (.i .i64 u55), .d (.i .i64 u56), .d (.i .i64 u57), .d (.i .i64 u58), .d (.i .i64 u59), .d (.i .i64 u60)]), (2, .row 9 (.strs (Prod.snd (Prod.fst z))))], 3⟩, fun z => Option.bind (iter (y54 u43 u44 u45 u46 u47 u48 u49 u50 u51 u52 u53 u54 u55 u56 u57 u58 u59 u60) (Prod.snd z) (Prod.fst z)) (fun y0 => Option.bind (y55 y0) some) = some r, fun z => Prod.snd z⟩
 | _ => none) [.s [.b u43, .b u44, .b u45, .b u46, .b u47, .b u48, .i .i64 u49, .i .i64 u50, .i .i64 u51, .i .i64 u52, .i .i64 u53, .i .i64 u54, .i .i64 u55, .i .i64 u56, .i .i64 u57, .i .i64 u58, .i .i64 u59, .i .i64 u60]] [.d (.s r)] := by
  refine Eq.mp (by kernel_rfl : (
  ((∃ (v0 : (Int × List ByteArray) × Nat), (Ob ((Option.bind (iter (y54 u43 u44 u45 u46 u47 u48 u49 u50 u51 u52 u53 u54 u55 u56 u57 u58 u59 u60) v0.2 v0.1) fun y0 => Option.bind (y55 y0) some) = some r) ∧
 (Ob ((0 : Nat) = (0 : Nat)) ∧
 (Ob (u43 = u43) ∧
 (Ob (u44 = u44) ∧
 (Ob (u45 = u45) ∧
 (Ob (u46 = u46) ∧
 (Ob (u47 = u47) ∧
 (Ob (u48 = u48) ∧
 (Ob ((0 : Int) = v0.1.1) ∧
 (Ob (u43 = u43) ∧
 (Ob (u44 = u44) ∧
 (Ob (u45 = u45) ∧
 (Ob (u46 = u46) ∧
 (Ob (u47 = u47) ∧
 (Ob (u48 = u48) ∧
 (Ob (u49 = u49) ∧
 (Ob (u50 = u50) ∧
 (Ob (u51 = u51) ∧
 (Ob (u52 = u52) ∧
 (Ob (u53 = u53) ∧
 (Ob (u54 = u54) ∧
 (Ob (u55 = u55) ∧
 (Ob (u56 = u56) ∧
 (Ob (u57 = u57) ∧
 (Ob (u58 = u58) ∧
 (Ob (u59 = u59) ∧
 (Ob (u60 = u60) ∧
 (Ob (List.length v0.1.2 = (0 : Nat)) ∧
 True))))))))))))))))))))))))))))) ∧
   (∀ (v0 : (Int × List ByteArray) × Nat), ((Option.bind (iter (y54 u43 u44 u45 u46 u47 u48 u49 u50 u51 u52 u53 u54 u55 u56 u57 u58 u59 u60) v0.2 v0.1) fun y0 => Option.bind (y55 y0) some) = some r →
 Br (decide (v0.1.1 < (6 : Int)))
   ((Ob (((0 : Int) ≤ v0.1.1 ∧ v0.1.1 < (↑(6 : Nat) : Int)) ∧ List.getD [true, true, true, true, true, true] (Int.toNat v0.1.1 * (1 : Nat)) false = true) ∧
 Br (!List.getD [u43, u44, u45, u46, u47, u48] (Int.toNat v0.1.1 * (1 : Nat)) false)
   ((Ob ((List.length v0.1.2 + List.length [ByteArray.mk #[(45 : UInt8)]]) * (16 : Nat) ≤ (140737488355328 : Nat) ∧ List.length v0.1.2 + List.length [ByteArray.mk #[(45 : UInt8)]] ≤ (9223372036854775807 : Nat)) ∧
   (∃ (v1 : (Int × List ByteArray) × Nat), (Ob ((Option.bind (iter (y54 u43 u44 u45 u46 u47 u48 u49 u50 u51 u52 u53 u54 u55 u56 u57 u58 u59 u60) v1.2 v1.1) fun y0 => Option.bind (y55 y0) some) = some r) ∧
 (Ob (v1.2 < v0.2) ∧
 (Ob ((0 : Nat) = (0 : Nat)) ∧
 (Ob (u43 = u43) ∧
 (Ob (u44 = u44) ∧
 (Ob (u45 = u45) ∧
 (Ob (u46 = u46) ∧
 (Ob (u47 = u47) ∧
 (Ob (u48 = u48) ∧
 (Ob (IntKind.wrap .i64 (v0.1.1 + (1 : Int)) = v1.1.1) ∧
 (Ob (u43 = u43) ∧
 (Ob (u44 = u44) ∧
 (Ob (u45 = u45) ∧
 (Ob (u46 = u46) ∧
 (Ob (u47 = u47) ∧
 (Ob (u48 = u48) ∧
 (Ob (u49 = u49) ∧
 (Ob (u50 = u50) ∧
 (Ob (u51 = u51) ∧
 (Ob (u52 = u52) ∧
 (Ob (u53 = u53) ∧
 (Ob (u54 = u54) ∧
 (Ob (u55 = u55) ∧
 (Ob (u56 = u56) ∧
 (Ob (u57 = u57) ∧
 (Ob (u58 = u58) ∧
 (Ob (u59 = u59) ∧
 (Ob (u60 = u60) ∧
 (Ob (v0.1.2 ++ [ByteArray.mk #[(45 : UInt8)]] = v1.1.2) ∧
 True))))))))))))))))))))))))))))))))
   ((Ob ((0 : Int) ≤ v0.1.1 ∧ v0.1.1 < (↑(6 : Nat) : Int)) ∧
 (Ob (List.getD [false, false, false, false, false, false, true, true, true, true, true, true, true, true, true, true, true, true] ((6 : Nat) + Int.toNat v0.1.1 * (2 : Nat) + Field.offset (Field.mk "Lo" (3 : Nat) (0 : Nat) false "" "" (0 : Nat))) false = true) ∧
 (Ob (ok (strconv_Itoa (List.getD [(0 : Int), (0 : Int), (0 : Int), (0 : Int), (0 : Int), (0 : Int), u49, u50, u51, u52, u53, u54, u55, u56, u57, u58, u59, u60] ((6 : Nat) + Int.toNat v0.1.1 * (2 : Nat) + Field.offset (Field.mk "Lo" (3 : Nat) (0 : Nat) false "" "" (0 : Nat))) (0 : Int)))) ∧
 (Ob ((0 : Int) ≤ v0.1.1 ∧ v0.1.1 < (↑(6 : Nat) : Int)) ∧
 (Ob (List.getD [false, false, false, false, false, false, true, true, true, true, true, true, true, true, true, true, true, true] ((6 : Nat) + Int.toNat v0.1.1 * (2 : Nat) + Field.offset (Field.mk "Hi" (3 : Nat) (1 : Nat) false "" "" (8 : Nat))) false = true) ∧
 (Ob (ok (strconv_Itoa (List.getD [(0 : Int), (0 : Int), (0 : Int), (0 : Int), (0 : Int), (0 : Int), u49, u50, u51, u52, u53, u54, u55, u56, u57, u58, u59, u60] ((6 : Nat) + Int.toNat v0.1.1 * (2 : Nat) + Field.offset (Field.mk "Hi" (3 : Nat) (1 : Nat) false "" "" (8 : Nat))) (0 : Int)))) ∧
 (Ob ((List.length v0.1.2 + List.length [val (strconv_Itoa (List.getD [(0 : Int), (0 : Int), (0 : Int), (0 : Int), (0 : Int), (0 : Int), u49, u50, u51, u52, u53, u54, u55, u56, u57, u58, u59, u60] ((6 : Nat) + Int.toNat v0.1.1 * (2 : Nat) + Field.offset (Field.mk "Lo" (3 : Nat) (0 : Nat) false "" "" (0 : Nat))) (0 : Int))), val (strconv_Itoa (List.getD [(0 : Int), (0 : Int), (0 : Int), (0 : Int), (0 : Int), (0 : Int), u49, u50, u51, u52, u53, u54, u55, u56, u57, u58, u59, u60] ((6 : Nat) + Int.toNat v0.1.1 * (2 : Nat) + Field.offset (Field.mk "Hi" (3 : Nat) (1 : Nat) false "" "" (8 : Nat))) (0 : Int)))]) * (16 : Nat) ≤ (140737488355328 : Nat) ∧ List.length v0.1.2 + List.length [val (strconv_Itoa (List.getD [(0 : Int), (0 : Int), (0 : Int), (0 : Int), (0 : Int), (0 : Int), u49, u50, u51, u52, u53, u54, u55, u56, u57, u58, u59, u60] ((6 : Nat) + Int.toNat v0.1.1 * (2 : Nat) + Field.offset (Field.mk "Lo" (3 : Nat) (0 : Nat) false "" "" (0 : Nat))) (0 : Int))), val (strconv_Itoa (List.getD [(0 : Int), (0 : Int), (0 : Int), (0 : Int), (0 : Int), (0 : Int), u49, u50, u51, u52, u53, u54, u55, u56, u57, u58, u59, u60] ((6 : Nat) + Int.toNat v0.1.1 * (2 : Nat) + Field.offset (Field.mk "Hi" (3 : Nat) (1 : Nat) false "" "" (8 : Nat))) (0 : Int)))] ≤ (9223372036854775807 : Nat)) ∧
   (∃ (v1 : (Int × List ByteArray) × Nat), (Ob ((Option.bind (iter (y54 u43 u44 u45 u46 u47 u48 u49 u50 u51 u52 u53 u54 u55 u56 u57 u58 u59 u60) v1.2 v1.1) fun y0 => Option.bind (y55 y0) some) = some r) ∧
 (Ob (v1.2 < v0.2) ∧
 (Ob ((0 : Nat) = (0 : Nat)) ∧
 (Ob (u43 = u43) ∧
 (Ob (u44 = u44) ∧
 (Ob (u45 = u45) ∧
 (Ob (u46 = u46) ∧
 (Ob (u47 = u47) ∧
 (Ob (u48 = u48) ∧
 (Ob (IntKind.wrap .i64 (v0.1.1 + (1 : Int)) = v1.1.1) ∧
 (Ob (u43 = u43) ∧
 (Ob (u44 = u44) ∧
 (Ob (u45 = u45) ∧
 (Ob (u46 = u46) ∧
 (Ob (u47 = u47) ∧
 (Ob (u48 = u48) ∧
 (Ob (u49 = u49) ∧
 (Ob (u50 = u50) ∧
 (Ob (u51 = u51) ∧
 (Ob (u52 = u52) ∧
 (Ob (u53 = u53) ∧
 (Ob (u54 = u54) ∧
 (Ob (u55 = u55) ∧
 (Ob (u56 = u56) ∧
 (Ob (u57 = u57) ∧
 (Ob (u58 = u58) ∧
 (Ob (u59 = u59) ∧
 (Ob (u60 = u60) ∧
 (Ob (v0.1.2 ++ [val (strconv_Itoa (List.getD [(0 : Int), (0 : Int), (0 : Int), (0 : Int), (0 : Int), (0 : Int), u49, u50, u51, u52, u53, u54, u55, u56, u57, u58, u59, u60] ((6 : Nat) + Int.toNat v0.1.1 * (2 : Nat) + Field.offset (Field.mk "Lo" (3 : Nat) (0 : Nat) false "" "" (0 : Nat))) (0 : Int))), val (strconv_Itoa (List.getD [(0 : Int), (0 : Int), (0 : Int), (0 : Int), (0 : Int), (0 : Int), u49, u50, u51, u52, u53, u54, u55, u56, u57, u58, u59, u60] ((6 : Nat) + Int.toNat v0.1.1 * (2 : Nat) + Field.offset (Field.mk "Hi" (3 : Nat) (1 : Nat) false "" "" (8 : Nat))) (0 : Int)))] = v1.1.2) ∧
 True))))))))))))))))))))))))))))))))))))))))
   ((Ob (ok (strings_Join v0.1.2 (ByteArray.mk #[(32 : UInt8)]))) ∧
 (Ob (True) ∧
 (Ob (val (strings_Join v0.1.2 (ByteArray.mk #[(32 : UInt8)])) = r) ∧
 True)))))))) = _) ?_
  refine ⟨⟨(((0 : Int), []), big), ⟨loop_s h⟩, (by repeat' (first | exact trivial | exact ⟨rfl⟩ | refine And.intro ?_ ?_))⟩, fun z3 hz3 => ?_⟩
  obtain ⟨k3, hm3, h⟩ := iter_pos hz3
  refine br_d h (fun h => ?_) (fun h => ?_)
  · refine ob_s h fun h => ?_
    refine br_b h (fun h => ?_) (fun h => ?_)
    · refine ob_s h fun h => ?_
      exact ⟨((IntKind.wrap .i64 ((Prod.fst z3).1 + (1 : Int)), (Prod.fst z3).2 ++ [ByteArray.mk #[(45 : UInt8)]]), k3), ⟨next_s h⟩, ⟨lt_gs hm3.symm⟩, (by repeat' (first | exact trivial | exact ⟨rfl⟩ | refine And.intro ?_ ?_))⟩
    · refine ob_s h fun h => ?_
      refine ob_s h fun h => ?_
      refine call_s h fun h => ?_
      refine ob_s h fun h => ?_
      refine ob_s h fun h => ?_
      refine call_s h fun h => ?_
      refine ob_s h fun h => ?_
      exact ⟨((IntKind.wrap .i64 ((Prod.fst z3).1 + (1 : Int)), (Prod.fst z3).2 ++ [val (strconv_Itoa (List.getD [(0 : Int), (0 : Int), (0 : Int), (0 : Int), (0 : Int), (0 : Int), u49, u50, u51, u52, u53, u54, u55, u56, u57, u58, u59, u60] ((6 : Nat) + Int.toNat (Prod.fst z3).1 * (2 : Nat) + Field.offset (Field.mk "Lo" (3 : Nat) (0 : Nat) false "" "" (0 : Nat))) (0 : Int))), val (strconv_Itoa (List.getD [(0 : Int), (0 : Int), (0 : Int), (0 : Int), (0 : Int), (0 : Int), u49, u50, u51, u52, u53, u54, u55, u56, u57, u58, u59, u60] ((6 : Nat) + Int.toNat (Prod.fst z3).1 * (2 : Nat) + Field.offset (Field.mk "Hi" (3 : Nat) (1 : Nat) false "" "" (8 : Nat))) (0 : Int)))]), k3), ⟨next_s h⟩, ⟨lt_gs hm3.symm⟩, (by repeat' (first | exact trivial | exact ⟨rfl⟩ | refine And.intro ?_ ?_))⟩
  · have h := exit_s h
    refine call_s h fun h => ?_
    refine ob_t ?_
    exact ret_s h (fun e => by subst e; exact (by repeat' (first | exact trivial | exact ⟨rfl⟩ | refine And.intro ?_ ?_)))
set_option maxRecDepth 100000 in
theorem G_FormatFigures_ok : SpecOK Tryz.prog 62 true (pureK k_G_FormatFigures y135) := by
  refine pureK_ok (sp := (sp_109 (sp_110 sp0))) (fn := Tryz.f62) (body := bodyOf Tryz.f62) mixed (sp_109_ok (sp_110_ok sp0_ok)) Tryz.func62 (by kernel_rfl) (by kernel_rfl) fun as_ ob rs h ho => ?_
  unfold y135 at h
  split at h
  · rename_i u43 u44 u45 u46 u47 u48 u49 u50 u51 u52 u53 u54 u55 u56 u57 u58 u59 u60
    cases h
    exact ⟨Nat.le_of_ble_eq_true rfl, _, _, G_FormatFigures_vc u43 u44 u45 u46 u47 u48 u49 u50 u51 u52 u53 u54 u55 u56 u57 u58 u59 u60 _ (ok_some ho)⟩
  · cases h
theorem sp_62_ok {sp : Specs} (h : SpecsOK Tryz.prog sp) : SpecsOK Tryz.prog (sp_62 sp) := addK_ok G_FormatFigures_ok h
end Go.Sh
end

section
namespace Go.Sh
open Go Go.Proofs Go.RowKit Go.Sx
set_option linter.unusedVariables false
def freeR : Int := 8000
def freeS : List Nat := [1090519040, 1082130432, 1073741824, 1065353216, 0]
def g_five (fr : Int) (fs : List Nat) : List Lf → Option GT
  | [] => some (.leaf True [.s [.d (.i .i64 fr), .row 151 (.floats .f32 fs)]])
  | _ => none
abbrev sp_66v (fr : Int) (fs : List Nat) : Specs → Specs := addK 66 true (pureT k_L05_Five (g_five fr fs))
set_option maxRecDepth 100000 in
theorem five_ok : SpecOK Tryz.prog 66 true (pureT k_L05_Five (g_five freeR freeS)) := by
  refine pureT_ok (sp := sp0) (fn := Tryz.f66) (body := bodyOf Tryz.f66) mixed sp0_ok Tryz.func66 (by kernel_rfl) (by kernel_rfl) fun ls t h ho b hb => ?_
  unfold g_five at h
  split at h
  · cases h
    obtain rfl := bld_eq hb
    exact ⟨Nat.le_of_ble_eq_true (by kernel_rfl), _, _, L05_Five_vc (freeR, freeS) rfl⟩
  · cases h
theorem sp_66v_ok {sp : Specs} (h : SpecsOK Tryz.prog sp) : SpecsOK Tryz.prog (sp_66v freeR freeS sp) := addK_ok five_ok h
end Go.Sh
end

section
namespace Go.Sh
open Go Go.Proofs Go.RowKit Go.Sx
set_option linter.unusedVariables false
def k_L05_awake : List (Option Cont) := []
def L05_awake (fr : Int) (fs : List Nat) : Option Bool :=
  Option.bind (G_Sums fr fs) fun r0 =>
  Option.bind (G_Decay fr fs (1 : Int)) fun r1 =>
  Option.bind (G_Clarity fr fs (0 : Int) (0 : Int) (125 : Int)) fun r2 =>
  Option.bind (y58 fr fs (1 : Int)) fun r3 =>
  Option.bind (y11 fr fs (0 : Int) (0 : Int)) fun r4 =>
  if (r0.2 == (0 : Int)) = true then
   Option.bind (B_Ints r0.1 [(85 : Int), (21 : Int), (5 : Int), (1 : Int), (0 : Int)]) fun r5 =>
   if (r5) = true then
    if (r1.2.2 == (0 : Int)) = true then
     if (r1.1 == (750 : Int) && r1.2.1 == (1500 : Int)) = true then
      if (r2.2.2 == (0 : Int)) = true then
       if (r2.1 == (4 : Int) && r2.2.1 == (5 : Int)) = true then
        if (r3.2.2 == (0 : Int)) = true then
         if (r3.1 == (9 : Int) && r3.2.1 == (17 : Int)) = true then
          if (r4.2.2.2.2.2.2.2.2.2.2.2.2.2.2.2.2.2.2 == (0 : Int)) = true then
           Option.bind (y94 r4.1 r4.2.1 r4.2.2.1 r4.2.2.2.1 r4.2.2.2.2.1 r4.2.2.2.2.2.1 r4.2.2.2.2.2.2.1 r4.2.2.2.2.2.2.2.1 r4.2.2.2.2.2.2.2.2.1 r4.2.2.2.2.2.2.2.2.2.1 r4.2.2.2.2.2.2.2.2.2.2.1 r4.2.2.2.2.2.2.2.2.2.2.2.1 r4.2.2.2.2.2.2.2.2.2.2.2.2.1 r4.2.2.2.2.2.2.2.2.2.2.2.2.2.1 r4.2.2.2.2.2.2.2.2.2.2.2.2.2.2.1 r4.2.2.2.2.2.2.2.2.2.2.2.2.2.2.2.1 r4.2.2.2.2.2.2.2.2.2.2.2.2.2.2.2.2.1 r4.2.2.2.2.2.2.2.2.2.2.2.2.2.2.2.2.2.1) fun r6 =>
           some (r6 == ByteArray.mk #[(55 : UInt8), (53 : UInt8), (48 : UInt8), (32 : UInt8), (49 : UInt8), (53 : UInt8), (48 : UInt8), (48 : UInt8), (32 : UInt8), (55 : UInt8), (53 : UInt8), (48 : UInt8), (32 : UInt8), (49 : UInt8), (53 : UInt8), (48 : UInt8), (48 : UInt8), (32 : UInt8), (53 : UInt8), (48 : UInt8), (48 : UInt8), (32 : UInt8), (49 : UInt8), (48 : UInt8), (48 : UInt8), (48 : UInt8), (32 : UInt8), (45 : UInt8), (32 : UInt8), (49 : UInt8), (48 : UInt8), (48 : UInt8), (48 : UInt8), (32 : UInt8), (49 : UInt8), (48 : UInt8), (48 : UInt8), (48 : UInt8), (32 : UInt8), (51 : UInt8), (57 : UInt8), (32 : UInt8), (52 : UInt8), (48 : UInt8)])
          else
           some false
         else
          some false
        else
         some false
       else
        some false
      else
       some false
     else
      some false
    else
     some false
   else
    some false
  else
   some false
set_option maxRecDepth 100000 in
def L05_awake_t (fr : Int) (fs : List Nat) : T (Bool) :=
 .obT
  (.call (G_Sums fr fs) fun r0 =>
  .obT
  (.call (G_Decay fr fs (1 : Int)) fun r1 =>
  .obT
  (.call (G_Clarity fr fs (0 : Int) (0 : Int) (125 : Int)) fun r2 =>
  .obT
  (.call (y58 fr fs (1 : Int)) fun r3 =>
  .obT
  (.call (y11 fr fs (0 : Int) (0 : Int)) fun r4 =>
  .brB (r0.2 == (0 : Int))
  (.call (B_Ints r0.1 [(85 : Int), (21 : Int), (5 : Int), (1 : Int), (0 : Int)]) fun r5 =>
  .brB (r5)
  (.brB (r1.2.2 == (0 : Int))
  (.brB (r1.1 == (750 : Int) && r1.2.1 == (1500 : Int))
  (.brB (r2.2.2 == (0 : Int))
  (.brB (r2.1 == (4 : Int) && r2.2.1 == (5 : Int))
  (.brB (r3.2.2 == (0 : Int))
  (.brB (r3.1 == (9 : Int) && r3.2.1 == (17 : Int))
  (.brB (r4.2.2.2.2.2.2.2.2.2.2.2.2.2.2.2.2.2.2 == (0 : Int))
  (.call (y94 r4.1 r4.2.1 r4.2.2.1 r4.2.2.2.1 r4.2.2.2.2.1 r4.2.2.2.2.2.1 r4.2.2.2.2.2.2.1 r4.2.2.2.2.2.2.2.1 r4.2.2.2.2.2.2.2.2.1 r4.2.2.2.2.2.2.2.2.2.1 r4.2.2.2.2.2.2.2.2.2.2.1 r4.2.2.2.2.2.2.2.2.2.2.2.1 r4.2.2.2.2.2.2.2.2.2.2.2.2.1 r4.2.2.2.2.2.2.2.2.2.2.2.2.2.1 r4.2.2.2.2.2.2.2.2.2.2.2.2.2.2.1 r4.2.2.2.2.2.2.2.2.2.2.2.2.2.2.2.1 r4.2.2.2.2.2.2.2.2.2.2.2.2.2.2.2.2.1 r4.2.2.2.2.2.2.2.2.2.2.2.2.2.2.2.2.2.1) fun r6 =>
  .obT
  (.rc ((r6 == ByteArray.mk #[(55 : UInt8), (53 : UInt8), (48 : UInt8), (32 : UInt8), (49 : UInt8), (53 : UInt8), (48 : UInt8), (48 : UInt8), (32 : UInt8), (55 : UInt8), (53 : UInt8), (48 : UInt8), (32 : UInt8), (49 : UInt8), (53 : UInt8), (48 : UInt8), (48 : UInt8), (32 : UInt8), (53 : UInt8), (48 : UInt8), (48 : UInt8), (32 : UInt8), (49 : UInt8), (48 : UInt8), (48 : UInt8), (48 : UInt8), (32 : UInt8), (45 : UInt8), (32 : UInt8), (49 : UInt8), (48 : UInt8), (48 : UInt8), (48 : UInt8), (32 : UInt8), (49 : UInt8), (48 : UInt8), (48 : UInt8), (48 : UInt8), (32 : UInt8), (51 : UInt8), (57 : UInt8), (32 : UInt8), (52 : UInt8), (48 : UInt8)]))))
  (.obT
  (.rc (false))))
  (.obT
  (.rc (false))))
  (.obT
  (.rc (false))))
  (.obT
  (.rc (false))))
  (.obT
  (.rc (false))))
  (.obT
  (.rc (false))))
  (.obT
  (.rc (false))))
  (.obT
  (.rc (false))))
  (.obT
  (.rc (false))))))))
set_option maxRecDepth 100000 in
theorem L05_awake_vc (fr : Int) (fs : List Nat) (r : Bool) (h : Option.bind (L05_awake fr fs) some = some r) : runF Tryz.f15 ((sp_53 (sp_17 (sp_26 (sp_34 (sp_66v fr fs (sp_60 (sp_55 (sp_62 sp0))))))))) (fun _ _ _ => none) [] [.d (.b r)] :=
  T.vc (t := L05_awake_t fr fs) (by kernel_rfl) (by kernel_rfl) h
end Go.Sh
end

section
namespace Go.Sh
open Go Go.Proofs Go.RowKit Go.Sx
set_option maxRecDepth 100000
set_option maxHeartbeats 4000000
theorem awake_eq : L05_awake freeR freeS = some true := by kernel_rfl
end Go.Sh
end

section
namespace Go.Sh
open Go Go.Proofs Go.RowKit Go.Sx
set_option maxRecDepth 100000
def g_awake : List A → Option (Prop × List RV)
  | [] => some (True, [.d (.b true)])
  | _ => none
abbrev sp_15b : Specs → Specs := addK 15 true (pureK k_L05_awake g_awake)
theorem awakeT_ok : SpecOK Tryz.prog 15 true (pureK k_L05_awake g_awake) := by
  refine pureK_ok (sp := (sp_53 (sp_17 (sp_26 (sp_34 (sp_66v freeR freeS (sp_60 (sp_55 (sp_62 sp0))))))))) (fn := Tryz.f15) (body := bodyOf Tryz.f15) mixed (sp_53_ok (sp_17_ok (sp_26_ok (sp_34_ok (sp_66v_ok (sp_60_ok (sp_55_ok (sp_62_ok sp0_ok)))))))) Tryz.func15 (by kernel_rfl) (by kernel_rfl) fun as_ ob rs h ho => ?_
  unfold g_awake at h
  split at h
  · cases h
    exact ⟨Nat.le_of_ble_eq_true rfl, _, _, L05_awake_vc freeR freeS true (by rw [awake_eq]; rfl)⟩
  · cases h
theorem sp_15b_ok {sp : Specs} (h : SpecsOK Tryz.prog sp) : SpecsOK Tryz.prog (sp_15b sp) := addK_ok awakeT_ok h
end Go.Sh
end

section
namespace Go.Sh
open Go Go.Proofs Go.RowKit Go.Sx
set_option linter.unusedVariables false
def k_G_Modulated : List SV := [.a [.d, .r (.floats .f32 [])], .c (.d)]
def y87 (u1 : Int) (u0 : List Nat) (u17 : Int) : Option ((Nat × Nat) × Int) :=
  if ((val (G_openBlock u1 u0 u17)).1 != (0 : Int)) = true then
   Option.bind (G_openBlock u1 u0 u17) fun r0 =>
   if (r0.2.1 != (0 : Int)) = true then
    some ((((0 : Nat), (0 : Nat)), r0.2.1))
   else
    none   else
   Option.bind (G_openBlock u1 u0 u17) fun r0 =>
   if (r0.2.1 != (0 : Int)) = true then
    some ((((0 : Nat), (0 : Nat)), r0.2.1))
   else
    Option.bind (y37 u1 u0 (0 : Int) (0 : Int) r0.2.2.1 r0.2.2.2 u17) fun r1 =>
    some (((FloatKind.nearest .f64 r1.1, FloatKind.nearest .f64 r1.2), (0 : Int)))
def g_G_Modulated : List Lf → Option GT
  | [.d (.i .i64 u1), .r (.floats .f32 u0), .d (.i .i64 u17)] => some (.leaf (ok (y87 u1 u0 u17)) [.c (.d (.z .f64 ((val (y87 u1 u0 u17)).1))), .c (.d (.i .i64 ((val (y87 u1 u0 u17)).2)))])
  | _ => none
abbrev sp_33 : Specs → Specs := addK 33 true (pureT k_G_Modulated g_G_Modulated)
set_option maxRecDepth 100000 in
def G_Modulated_t (u1 : Int) (u0 : List Nat) (u17 : Int) : T ((Nat × Nat) × Int) :=
 .brB ((val (G_openBlock u1 u0 u17)).1 != (0 : Int))
  (.call (G_openBlock u1 u0 u17) fun r0 =>
  .brB (r0.2.1 != (0 : Int))
  (.obT
  (.obT
  (.rc (((((0 : Nat), (0 : Nat)), r0.2.1))))))
  (.bad (fun r => False)))
  (.call (G_openBlock u1 u0 u17) fun r0 =>
  .brB (r0.2.1 != (0 : Int))
  (.obT
  (.obT
  (.rc (((((0 : Nat), (0 : Nat)), r0.2.1))))))
  (.call (y37 u1 u0 (0 : Int) (0 : Int) r0.2.2.1 r0.2.2.2 u17) fun r1 =>
  .obT
  (.obT
  (.obT
  (.obT
  (.obT
  (.rc ((((FloatKind.nearest .f64 r1.1, FloatKind.nearest .f64 r1.2), (0 : Int)))))))))))
set_option maxRecDepth 100000 in
theorem G_Modulated_vc (u1 : Int) (u0 : List Nat) (u17 : Int) (r : (Nat × Nat) × Int) (h : Option.bind (y87 u1 u0 u17) some = some r) : runT Tryz.f33 ((sp_91 (sp_92 sp0))) (fun _ _ _ => none) (bldD k_G_Modulated [.d (.i .i64 u1), .r (.floats .f32 u0), .d (.i .i64 u17)]) [.c (.d (.z .f64 r.1)), .c (.d (.i .i64 r.2))] :=
  T.vc (t := G_Modulated_t u1 u0 u17) (by kernel_rfl) (by kernel_rfl) h
set_option maxRecDepth 100000 in
theorem G_Modulated_ok : SpecOK Tryz.prog 33 true (pureT k_G_Modulated g_G_Modulated) := by
  refine pureT_ok (sp := (sp_91 (sp_92 sp0))) (fn := Tryz.f33) (body := bodyOf Tryz.f33) mixed (sp_91_ok (sp_92_ok sp0_ok)) Tryz.func33 (by kernel_rfl) (by kernel_rfl) fun ls t h ho b hb => ?_
  unfold g_G_Modulated at h
  split at h
  · rename_i u1 u0 u17
    cases h
    obtain rfl := bld_eq hb
    exact ⟨Nat.le_of_ble_eq_true (by kernel_rfl), _, _, G_Modulated_vc u1 u0 u17 _ (ok_some ho)⟩
  · cases h
theorem sp_33_ok {sp : Specs} (h : SpecsOK Tryz.prog sp) : SpecsOK Tryz.prog (sp_33 sp) := addK_ok G_Modulated_ok h
end Go.Sh
end

section
namespace Go.Sh
open Go Go.Proofs Go.RowKit Go.Sx
set_option linter.unusedVariables false
def k_L05_FigureModulates : List SV := [.a [.d, .r (.floats .f32 [])], .c (.d)]
def L05_FigureModulates (u1 : Int) (u0 : List Nat) (u17 : Int) : Option Bool :=
  Option.bind (L05_Few u1 u0) fun r0 =>
  if (!r0) = true then
   some true
  else
   Option.bind (y38 u1 u0) fun r1 =>
   Option.bind (y87 r1.1 r1.2 u17) fun r2 =>
   Option.bind (y38 u1 u0) fun r3 =>
   Option.bind (y58 r1.1 r1.2 u17) fun r4 =>
   Option.bind (y57 u1 u0) fun r5 =>
   if (r5 == (0 : Int)) = true then
    Option.bind (y98 u17 (1 : Int) (1024 : Int)) fun r6 =>
    if (!r6) = true then
     if (r2.2 == (2 : Int)) = true then
      if (r4.2.2 == (2 : Int)) = true then
       Option.bind (y34 r2.1 ((0 : Nat), (0 : Nat))) fun r7 =>
       if (r7) = true then
        some (r4.1 == (0 : Int) && r4.2.1 == (0 : Int))
       else
        some false
      else
       some false
     else
      some false
    else
     if (r5 != (0 : Int)) = true then
      none      else
      Option.bind (y15 u1 u0 u17) fun r8 =>
      Option.bind (y24 u1 u0 u17) fun r9 =>
      if (r2.2 == (0 : Int)) = true then
       Option.bind (B_Num r8.1 r8.2) fun r10 =>
       Option.bind (y34 r2.1 r10) fun r11 =>
       if (r11) = true then
        if (r4.2.2 == r9.2.2) = true then
         if (r4.1 == r9.1 && r4.2.1 == r9.2.1) = true then
          if (r9.2.2 != (0 : Int)) = true then
           some true
          else
           some (decide (r4.1 ≤ r4.2.1))
         else
          some false
        else
         some false
       else
        some false
      else
       some false
   else
    if (r5 != (0 : Int)) = true then
     if (r2.2 == r5) = true then
      if (r4.2.2 == r5) = true then
       Option.bind (y34 r2.1 ((0 : Nat), (0 : Nat))) fun r7 =>
       if (r7) = true then
        some (r4.1 == (0 : Int) && r4.2.1 == (0 : Int))
       else
        some false
      else
       some false
     else
      some false
    else
     none def g_L05_FigureModulates : List Lf → Option GT
  | [.d (.i .i64 u1), .r (.floats .f32 u0), .d (.i .i64 u17)] => some (.leaf (ok (L05_FigureModulates u1 u0 u17)) [.c (.d (.b ((val (L05_FigureModulates u1 u0 u17)))))])
  | _ => none
set_option maxRecDepth 100000 in
def L05_FigureModulates_t (u1 : Int) (u0 : List Nat) (u17 : Int) : T (Bool) :=
 .obT
  (.call (L05_Few u1 u0) fun r0 =>
  .brB (!r0)
  (.obT
  (.rc (true)))
  (.call (y38 u1 u0) fun r1 =>
  .call (y87 r1.1 r1.2 u17) fun r2 =>
  .call (y38 u1 u0) fun r3 =>
  .call (y58 r1.1 r1.2 u17) fun r4 =>
  .call (y57 u1 u0) fun r5 =>
  .brB (r5 == (0 : Int))
  (.call (y98 u17 (1 : Int) (1024 : Int)) fun r6 =>
  .brB (!r6)
  (.brB (r2.2 == (2 : Int))
  (.brB (r4.2.2 == (2 : Int))
  (.call (y34 r2.1 ((0 : Nat), (0 : Nat))) fun r7 =>
  .brB (r7)
  (.obT
  (.rc ((r4.1 == (0 : Int) && r4.2.1 == (0 : Int)))))
  (.obT
  (.rc (false))))
  (.obT
  (.rc (false))))
  (.obT
  (.rc (false))))
  (.brB (r5 != (0 : Int))
  (.bad (fun r => Br (r2.2 == r5)
 (Br (r4.2.2 == r5)
  ((Ob (ok (y34 r2.1 ((0 : Nat), (0 : Nat)))) ∧
 Br (val (y34 r2.1 ((0 : Nat), (0 : Nat))))
  ((Ob (True) ∧
 (Ob ((r4.1 == (0 : Int) && r4.2.1 == (0 : Int)) = r) ∧
 True)))
  ((Ob (True) ∧
 (Ob (false = r) ∧
 True)))))
  ((Ob (True) ∧
 (Ob (false = r) ∧
 True))))
  ((Ob (True) ∧
 (Ob (false = r) ∧
 True)))))
  (.call (y15 u1 u0 u17) fun r8 =>
  .call (y24 u1 u0 u17) fun r9 =>
  .brB (r2.2 == (0 : Int))
  (.obC ((0 : Int) ≤ (0 : Int) ∧ (0 : Int) < (2 : Int)) (by decide)
  (.obC ((0 : Int) ≤ (1 : Int) ∧ (1 : Int) < (2 : Int)) (by decide)
  (.call (B_Num r8.1 r8.2) fun r10 =>
  .call (y34 r2.1 r10) fun r11 =>
  .brB (r11)
  (.brB (r4.2.2 == r9.2.2)
  (.brB (r4.1 == r9.1 && r4.2.1 == r9.2.1)
  (.brB (r9.2.2 != (0 : Int))
  (.obT
  (.rc (true)))
  (.obT
  (.rc ((decide (r4.1 ≤ r4.2.1))))))
  (.obT
  (.rc (false))))
  (.obT
  (.rc (false))))
  (.obT
  (.rc (false))))))
  (.obT
  (.rc (false))))))
  (.brB (r5 != (0 : Int))
  (.brB (r2.2 == r5)
  (.brB (r4.2.2 == r5)
  (.call (y34 r2.1 ((0 : Nat), (0 : Nat))) fun r7 =>
  .brB (r7)
  (.obT
  (.rc ((r4.1 == (0 : Int) && r4.2.1 == (0 : Int)))))
  (.obT
  (.rc (false))))
  (.obT
  (.rc (false))))
  (.obT
  (.rc (false))))
  (.bad (fun r => (Ob (ok (y15 u1 u0 u17)) ∧
 (Ob (ok (y24 u1 u0 u17)) ∧
 Br (r2.2 == (0 : Int))
  ((Ob ((0 : Int) ≤ (0 : Int) ∧ (0 : Int) < (↑(2 : Nat) : Int)) ∧
 (Ob ((0 : Int) ≤ (1 : Int) ∧ (1 : Int) < (↑(2 : Nat) : Int)) ∧
 (Ob (ok (B_Num (val (y15 u1 u0 u17)).1 (val (y15 u1 u0 u17)).2)) ∧
 (Ob (ok (y34 r2.1 (val (B_Num (val (y15 u1 u0 u17)).1 (val (y15 u1 u0 u17)).2)))) ∧
 Br (val (y34 r2.1 (val (B_Num (val (y15 u1 u0 u17)).1 (val (y15 u1 u0 u17)).2))))
 (Br (r4.2.2 == (val (y24 u1 u0 u17)).2.2)
 (Br (r4.1 == (val (y24 u1 u0 u17)).1 && r4.2.1 == (val (y24 u1 u0 u17)).2.1)
 (Br ((val (y24 u1 u0 u17)).2.2 != (0 : Int))
  ((Ob (True) ∧
 (Ob (true = r) ∧
 True)))
  ((Ob (True) ∧
 (Ob (decide (r4.1 ≤ r4.2.1) = r) ∧
 True))))
  ((Ob (True) ∧
 (Ob (false = r) ∧
 True))))
  ((Ob (True) ∧
 (Ob (false = r) ∧
 True))))
  ((Ob (True) ∧
 (Ob (false = r) ∧
 True))))))))
  ((Ob (True) ∧
 (Ob (false = r) ∧
 True))))))))))
set_option maxRecDepth 100000 in
theorem L05_FigureModulates_vc (u1 : Int) (u0 : List Nat) (u17 : Int) (r : Bool) (h : Option.bind (L05_FigureModulates u1 u0 u17) some = some r) : runT Tryz.f7 ((sp_15b (sp_16 (sp_33 (sp_18 (sp_34 (sp_21 (sp_35 (sp_37 (sp_38 (sp_39 (sp_36 sp0)))))))))))) (fun _ _ _ => none) (bldD k_L05_FigureModulates [.d (.i .i64 u1), .r (.floats .f32 u0), .d (.i .i64 u17)]) [.c (.d (.b r))] :=
  T.vc (t := L05_FigureModulates_t u1 u0 u17) (by kernel_rfl) (by kernel_rfl) h
set_option maxRecDepth 100000 in
theorem L05_FigureModulates_ok : SpecOK Tryz.prog 7 true (pureT k_L05_FigureModulates g_L05_FigureModulates) := by
  refine pureT_ok (sp := (sp_15b (sp_16 (sp_33 (sp_18 (sp_34 (sp_21 (sp_35 (sp_37 (sp_38 (sp_39 (sp_36 sp0)))))))))))) (fn := Tryz.f7) (body := bodyOf Tryz.f7) mixed (sp_15b_ok (sp_16_ok (sp_33_ok (sp_18_ok (sp_34_ok (sp_21_ok (sp_35_ok (sp_37_ok (sp_38_ok (sp_39_ok (sp_36_ok sp0_ok))))))))))) Tryz.func7 (by kernel_rfl) (by kernel_rfl) fun ls t h ho b hb => ?_
  unfold g_L05_FigureModulates at h
  split at h
  · rename_i u1 u0 u17
    cases h
    obtain rfl := bld_eq hb
    exact ⟨Nat.le_of_ble_eq_true (by kernel_rfl), _, _, L05_FigureModulates_vc u1 u0 u17 _ (ok_some ho)⟩
  · cases h
end Go.Sh
end
