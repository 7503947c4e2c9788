/- Part 5 of the proof of EngineChecks: the executor, the mirrors of the functions, the plain facts. -/
import Derived.Test.YtigliehhpdpaoaaGreatPD
set_option maxRecDepth 100000
set_option linter.unusedSectionVars false
set_option linter.unusedSimpArgs false
set_option linter.unusedVariables false
section
namespace Go.Sh
open Go Go.Proofs Go.RowKit Go.Sx
abbrev sp_123:jab→jab:=sp_123_124
theorem sp_123_ok {sp:jab} (h:jac Tryz.prog sp):jac Tryz.prog (sp_123 sp):=sp_123_124_ok h
abbrev sp_125:jab→jab:=sp_125_126
theorem sp_125_ok {sp:jab} (h:jac Tryz.prog sp):jac Tryz.prog (sp_125 sp):=sp_125_126_ok h
end Go.Sh
end

section
namespace Go.Sh
open Go Go.Proofs Go.RowKit Go.Sx
open Go.IntKind (wrap)
def jgN:List (Option Cont):=[some (.recs 5 [])]
def y21 (c:List (List Int)) (x0:Int):Option (Int ⊕ ((Int × Int) ⊕ Unit)) :=
 if x0<(↑(List.length c):Int)then
  if 0≤x0∧x0<(↑(List.length c):Int)then
  if Int.toNat x0<List.length c then
   if(Sx09.chkS (List.getD (List.getD c (Int.toNat x0) []) 0 (0:Int)) (List.getD (List.getD c (Int.toNat x0) []) 1 (0:Int)) (List.getD (List.getD c (Int.toNat x0) []) 2 (0:Int)) (List.getD (List.getD c (Int.toNat x0) []) 3 (0:Int)) (List.getD (List.getD c (Int.toNat x0) []) 4 (0:Int))!=0)=true then
   some (.inr ((.inl ((x0,Sx09.chkS (List.getD (List.getD c (Int.toNat x0) []) 0 (0:Int)) (List.getD (List.getD c (Int.toNat x0) []) 1 (0:Int)) (List.getD (List.getD c (Int.toNat x0) []) 2 (0:Int)) (List.getD (List.getD c (Int.toNat x0) []) 3 (0:Int)) (List.getD (List.getD c (Int.toNat x0) []) 4 (0:Int)))))))
   else
   some (.inl (wrap .i64 (x0+1)))
  else none
  else none
 else
  some (.inr ((.inr ())))
def jjv (u3:Int × Int):Option (Int × Int) :=
 some (u3.1,u3.2)
def jjw (u4:Unit):Option (Int × Int) :=
 some (((0:Int),0))
def y70:((Int × Int) ⊕ Unit)→Option (Int × Int) :=
 (Sum.elim (jjv) (jjw))
def y57 (c:List (List Int)):Option (Int × Int) :=
 if(↑(List.length c):Int)>6 then
  some (((0:Int),8))
 else
  Option.bind (jad (y21 c) big (0:Int)) (y70)
def y115:List A→Option (Prop × List RV)
 |[.r (.recs 5 c)]=>some (ok (y57 c),[.d (.i .i64 ((val (y57 c)).1)),.d (.i .i64 ((val (y57 c)).2))])
 |_=>none
abbrev sp_174:jab→jab:=jaX 174 true (jaP jgN y115)
theorem jlf (c:List (List Int)) (r:Int × Int) (h:Option.bind (y57 c) some=some r):jct Tryz.f174 ((sp_179 sp0)) (fun gs id _=>match id with
 |0=>some ⟨Int × Nat,fun z=>⟨[(10,.w (.c (.o 0))),(11,.w (.c (.d (.i .i64 ((↑(List.length c):Int)))))),(12,.w (.c (.d (.i .i64 (Prod.fst z)))))],[(0,.ext (.recs 5 c))],1⟩,fun z=>Option.bind (jad (y21 c) (Prod.snd z) (Prod.fst z)) (fun y0=>Option.bind (y70 y0) some)=some r,fun z=>Prod.snd z⟩
 |_=>none) [.r (.recs 5 c)] [.d (.i .i64 r.1),.d (.i .i64 r.2)]:=by
 refine Eq.mp (by kernel_rfl:(
 Br (decide ((↑(List.length c):Int)>6))
  ((Ob True ∧
 (Ob True ∧
 (Ob ((0:Int)=r.1) ∧
 (Ob ((8:Int)=r.2) ∧
 True)))))
  (((∃(v0:Int × Nat),(Ob ((Option.bind (jad (y21 c) v0.2 v0.1) fun y0=>Option.bind (y70 y0) some)=some r) ∧
 (Ob ((↑(List.length c):Int)=(↑(List.length c):Int)) ∧
 (Ob ((0:Int)=v0.1) ∧
 (Ob (c=c) ∧
 True))))) ∧
  (∀(v0:Int × Nat),((Option.bind (jad (y21 c) v0.2 v0.1) fun y0=>Option.bind (y70 y0) some)=some r →
 Br (decide (v0.1<(↑(List.length c):Int)))
  ((Ob (0≤v0.1∧v0.1<(↑(List.length c):Int)) ∧
 (Ob (Int.toNat v0.1<List.length c) ∧
 (Ob True ∧
 Br (Sx09.chkS (List.getD (List.getD c (Int.toNat v0.1) []) 0 (0:Int)) (List.getD (List.getD c (Int.toNat v0.1) []) 1 (0:Int)) (List.getD (List.getD c (Int.toNat v0.1) []) 2 (0:Int)) (List.getD (List.getD c (Int.toNat v0.1) []) 3 (0:Int)) (List.getD (List.getD c (Int.toNat v0.1) []) 4 (0:Int))!=0)
  ((Ob True ∧
 (Ob True ∧
 (Ob (v0.1=r.1) ∧
 (Ob (Sx09.chkS (List.getD (List.getD c (Int.toNat v0.1) []) 0 (0:Int)) (List.getD (List.getD c (Int.toNat v0.1) []) 1 (0:Int)) (List.getD (List.getD c (Int.toNat v0.1) []) 2 (0:Int)) (List.getD (List.getD c (Int.toNat v0.1) []) 3 (0:Int)) (List.getD (List.getD c (Int.toNat v0.1) []) 4 (0:Int))=r.2) ∧
 True)))))
  ((∃(v1:Int × Nat),(Ob ((Option.bind (jad (y21 c) v1.2 v1.1) fun y0=>Option.bind (y70 y0) some)=some r) ∧
 (Ob (v1.2<v0.2) ∧
 (Ob ((↑(List.length c):Int)=(↑(List.length c):Int)) ∧
 (Ob (wrap .i64 (v0.1+1)=v1.1) ∧
 (Ob (c=c) ∧
 True)))))))))))
  ((Ob True ∧
 (Ob True ∧
 (Ob ((0:Int)=r.1) ∧
 (Ob ((0:Int)=r.2) ∧
 True))))))))))=_) ?_
 refine jay h (fun h=>?_) (fun h=>?_)
 ·refine jaf ?_
  refine jaf ?_
  exact rcs h
 ·refine⟨⟨((0:Int),big),⟨jaT h⟩,(by repeat' constructor)⟩,fun z0 hz0=>?_⟩
  obtain⟨k0,hm0,h⟩:=jaD hz0
  refine jay h (fun h=>?_) (fun h=>?_)
  ·refine jaz h fun h=>?_
   refine jaz h fun h=>?_
   refine jaf ?_
   refine jaw h (fun h=>?_) (fun h=>?_)
   ·have h:=jah h
    refine jaf ?_
    refine jaf ?_
    exact rcs h
   ·exact⟨(_,k0),⟨jav h⟩,⟨jaC hm0.symm⟩,(by repeat' constructor)⟩
  ·have h:=jah h
   refine jaf ?_
   refine jaf ?_
   exact rcs h
theorem jlg:jaj Tryz.prog 174 true (jaP jgN y115):=by
 refine ja1 (sp:=(sp_179 sp0)) (fn:=Tryz.f174) (body:=bodyOf Tryz.f174) mixed (sp_179_ok jaB) Tryz.func174 (by kernel_rfl) (by kernel_rfl) fun as_ ob rs h ho=>?_
 unfold y115 at h
 split at h
 ·rename_i c
  cases h
  exact⟨Nat.le_of_ble_eq_true rfl,_,_,jlf c _ (jax ho)⟩
 ·cases h
theorem sp_174_ok {sp:jab} (h:jac Tryz.prog sp):jac Tryz.prog (sp_174 sp):=jaA jlg h
def jia:List (Option Cont):=[some (.recs 5 [])]
def y77 (c:List (List Int)):Option Int :=
 Option.bind (y57 c) fun r0 =>
 some r0.2
def je9:List A→Option (Prop × List RV)
 |[.r (.recs 5 c)]=>some (ok (y77 c),[.d (.i .i64 ((val (y77 c))))])
 |_=>none
abbrev sp_161:jab→jab:=jaX 161 true (jaP jia je9)
def joh (c:List (List Int)):T (Int) :=
 .call (y57 c) fun r0 =>
 .obT
 (.rc (r0.2))
theorem jnh (c:List (List Int)) (r:Int) (h:Option.bind (y77 c) some=some r):jct Tryz.f161 ((sp_174 sp0)) (fun _ _ _=>none) [.r (.recs 5 c)] [.d (.i .i64 r)] :=
 T.vc (t:=joh c) (by kernel_rfl) (by kernel_rfl) h
theorem jni:jaj Tryz.prog 161 true (jaP jia je9):=by
 refine ja1 (sp:=(sp_174 sp0)) (fn:=Tryz.f161) (body:=bodyOf Tryz.f161) mixed (sp_174_ok jaB) Tryz.func161 (by kernel_rfl) (by kernel_rfl) fun as_ ob rs h ho=>?_
 unfold je9 at h
 split at h
 ·rename_i c
  cases h
  exact⟨Nat.le_of_ble_eq_true rfl,_,_,jnh c _ (jax ho)⟩
 ·cases h
theorem sp_161_ok {sp:jab} (h:jac Tryz.prog sp):jac Tryz.prog (sp_161 sp):=jaA jni h
def jkp:List (Option Cont):=[some (.recs 5 [])]
def y62 (c:List (List Int)):Option (List (List Int) × Int) :=
 Option.bind (y77 c) fun r0 =>
 if(r0 != 0)=true then
  some ([],r0)
 else
  if 0≤(↑(List.length c):Int)∧(↑(List.length c):Int)=(↑(List.length c):Int)∧(↑(32:Nat):Int)*(↑(List.length c):Int)≤281474976710656∧(↑(List.length c):Int)≤9223372036854775807 then
  some ((List.replicate (Int.toNat (↑(List.length c):Int)) [0,0,0,0],0))
  else none
def jgO:List A→Option (Prop × List RV)
 |[.r (.recs 5 c)]=>some (ok (y62 c),[.row 174 (.recs 4 ((val (y62 c)).1)),.d (.i .i64 ((val (y62 c)).2))])
 |_=>none
abbrev sp_130:jab→jab:=jaX 130 true (jaP jkp jgO)
def jqS (c:List (List Int)):T (List (List Int) × Int) :=
 .call (y77 c) fun r0 =>
 .brB (r0 != 0)
 (.obT
 (.obT
 (.ret (([],r0)) (fun r=>(Ob (List.length r.1=(0:Nat)) ∧
 (Ob (r0=r.2) ∧
 True))) ⟨⟨rfl⟩,⟨⟨rfl⟩,trivial⟩⟩)))
 (.obP (0≤(↑(List.length c):Int)∧(↑(List.length c):Int)=(↑(List.length c):Int)∧(↑(32:Nat):Int)*(↑(List.length c):Int)≤281474976710656∧(↑(List.length c):Int)≤9223372036854775807)
 (.obT
 (.obT
 (.rc (((List.replicate (Int.toNat (↑(List.length c):Int)) [0,0,0,0],0)))))))
theorem jpk (c:List (List Int)) (r:List (List Int) × Int) (h:Option.bind (y62 c) some=some r):jct Tryz.f130 ((sp_161 sp0)) (fun _ _ _=>none) [.r (.recs 5 c)] [.row 174 (.recs 4 r.1),.d (.i .i64 r.2)] :=
 T.vc (t:=jqS c) (by kernel_rfl) (by kernel_rfl) h
theorem jpl:jaj Tryz.prog 130 true (jaP jkp jgO):=by
 refine ja1 (sp:=(sp_161 sp0)) (fn:=Tryz.f130) (body:=bodyOf Tryz.f130) mixed (sp_161_ok jaB) Tryz.func130 (by kernel_rfl) (by kernel_rfl) fun as_ ob rs h ho=>?_
 unfold jgO at h
 split at h
 ·rename_i c
  cases h
  exact⟨Nat.le_of_ble_eq_true rfl,_,_,jpk c _ (jax ho)⟩
 ·cases h
theorem sp_130_ok {sp:jab} (h:jac Tryz.prog sp):jac Tryz.prog (sp_130 sp):=jaA jpl h
def jhG:List SV:=[.a [.d,.x (.st [.s,.i .i64,.ints .i64,.ints .i64,.ints .i64,.i .i64,.recs 5,.i .i64] [])],.c (.d)]
def y80 (u1:ByteArray) (u0:List (List NC)) (i:Int):Option Int :=
 if 0≤i∧i<(↑(List.length u0):Int)then
  if Int.toNat i<List.length u0 then
  Option.bind (y45 (nI u0 (Int.toNat i) (7:Nat)) u1 u0) fun r0 =>
  if(!r0)=true then
   if(nI u0 (Int.toNat i) (7:Nat)!=(-1:Int))=true then
   Option.bind (y35 (nS u0 (Int.toNat i) (0:Nat))) fun r1 =>
   if(!r1)=true then
    some (4:Int)
   else
    if(nS u0 (Int.toNat i) (0:Nat)==ByteArray.mk #[(115:UInt8),(116:UInt8),(97:UInt8),(110:UInt8),(100:UInt8)])=true then
    some (4:Int)
    else
    if 0≤Option.getD none (0:Int)∧Option.getD none 0≤Option.getD (some i) (↑(List.length u0):Int)∧Option.getD (some i) (↑(List.length u0):Int)≤(↑(List.length u0):Int)then
     Option.bind (y3 (List.take (Int.toNat (Option.getD (some i) (↑(List.length u0):Int))-0) (List.drop (0:Nat) u0)) (nS u0 (Int.toNat i) (0:Nat)) (nI u0 (Int.toNat i) (1:Nat)) (nL u0 (Int.toNat i) (2:Nat)) (nL u0 (Int.toNat i) (3:Nat)) (nL u0 (Int.toNat i) (4:Nat)) (nI u0 (Int.toNat i) (5:Nat)) (nR u0 (Int.toNat i) (6:Nat)) (nI u0 (Int.toNat i) (7:Nat))) fun r2 =>
     if(r2)=true then
     some (5:Int)
     else
     Option.bind (y9 (nI u0 (Int.toNat i) (1:Nat)) (0:Int) (4:Int)) fun r3 =>
     if(!r3)=true then
      some (15:Int)
     else
      Option.bind (y87 (nS u0 (Int.toNat i) (0:Nat)) (nI u0 (Int.toNat i) (1:Nat)) (nL u0 (Int.toNat i) (2:Nat)) (nL u0 (Int.toNat i) (3:Nat)) (nL u0 (Int.toNat i) (4:Nat)) (nI u0 (Int.toNat i) (5:Nat)) (nR u0 (Int.toNat i) (6:Nat)) (nI u0 (Int.toNat i) (7:Nat))) fun r4 =>
      if(!r4)=true then
      some (10:Int)
      else
      some (6:Int)
    else none
   else
   Option.bind (y5 (nL u0 (Int.toNat i) (2:Nat)) u1 u0) fun r5 =>
   Option.bind (y35 (nS u0 (Int.toNat i) (0:Nat))) fun r1 =>
   if(!r1)=true then
    some (4:Int)
   else
    if(nS u0 (Int.toNat i) (0:Nat)==ByteArray.mk #[(115:UInt8),(116:UInt8),(97:UInt8),(110:UInt8),(100:UInt8)])=true then
    some (4:Int)
    else
    if 0≤Option.getD none (0:Int)∧Option.getD none 0≤Option.getD (some i) (↑(List.length u0):Int)∧Option.getD (some i) (↑(List.length u0):Int)≤(↑(List.length u0):Int)then
     Option.bind (y3 (List.take (Int.toNat (Option.getD (some i) (↑(List.length u0):Int))-0) (List.drop (0:Nat) u0)) (nS u0 (Int.toNat i) (0:Nat)) (nI u0 (Int.toNat i) (1:Nat)) (nL u0 (Int.toNat i) (2:Nat)) (nL u0 (Int.toNat i) (3:Nat)) (nL u0 (Int.toNat i) (4:Nat)) (nI u0 (Int.toNat i) (5:Nat)) (nR u0 (Int.toNat i) (6:Nat)) (nI u0 (Int.toNat i) (7:Nat))) fun r2 =>
     if(r2)=true then
     some (5:Int)
     else
     Option.bind (y9 (nI u0 (Int.toNat i) (1:Nat)) (0:Int) (4:Int)) fun r3 =>
     if(!r3)=true then
      some (15:Int)
     else
      Option.bind (y87 (nS u0 (Int.toNat i) (0:Nat)) (nI u0 (Int.toNat i) (1:Nat)) (nL u0 (Int.toNat i) (2:Nat)) (nL u0 (Int.toNat i) (3:Nat)) (nL u0 (Int.toNat i) (4:Nat)) (nI u0 (Int.toNat i) (5:Nat)) (nR u0 (Int.toNat i) (6:Nat)) (nI u0 (Int.toNat i) (7:Nat))) fun r4 =>
      if(!r4)=true then
      some (10:Int)
      else
      if(r5)=true then
       some (6:Int)
      else
       Option.bind (y79 (nL u0 (Int.toNat i) (2:Nat))) fun r6 =>
       if(r6)=true then
       some (26:Int)
       else
       Option.bind (jdy (nS u0 (Int.toNat i) (0:Nat)) (nI u0 (Int.toNat i) (1:Nat)) (nL u0 (Int.toNat i) (2:Nat)) (nL u0 (Int.toNat i) (3:Nat)) (nL u0 (Int.toNat i) (4:Nat)) (nI u0 (Int.toNat i) (5:Nat)) (nR u0 (Int.toNat i) (6:Nat)) (nI u0 (Int.toNat i) (7:Nat))) fun r7 =>
       if(!r7)=true then
        some (2:Int)
       else
        if(nI u0 (Int.toNat i) (1:Nat)!=3)=true then
        Option.bind (y40 ((↑(List.length (nR u0 (Int.toNat i) (6:Nat))):Int)==0) (10:Int)) fun r8 =>
        some r8
        else
        Option.bind (y62 (nR u0 (Int.toNat i) (6:Nat))) fun r9 =>
        some r9.2
    else none
  else
   Option.bind (y5 (nL u0 (Int.toNat i) (2:Nat)) u1 u0) fun r5 =>
   Option.bind (y35 (nS u0 (Int.toNat i) (0:Nat))) fun r1 =>
   if(!r1)=true then
   some (4:Int)
   else
   if(nS u0 (Int.toNat i) (0:Nat)==ByteArray.mk #[(115:UInt8),(116:UInt8),(97:UInt8),(110:UInt8),(100:UInt8)])=true then
    some (4:Int)
   else
    if 0≤Option.getD none (0:Int)∧Option.getD none 0≤Option.getD (some i) (↑(List.length u0):Int)∧Option.getD (some i) (↑(List.length u0):Int)≤(↑(List.length u0):Int)then
    Option.bind (y3 (List.take (Int.toNat (Option.getD (some i) (↑(List.length u0):Int))-0) (List.drop (0:Nat) u0)) (nS u0 (Int.toNat i) (0:Nat)) (nI u0 (Int.toNat i) (1:Nat)) (nL u0 (Int.toNat i) (2:Nat)) (nL u0 (Int.toNat i) (3:Nat)) (nL u0 (Int.toNat i) (4:Nat)) (nI u0 (Int.toNat i) (5:Nat)) (nR u0 (Int.toNat i) (6:Nat)) (nI u0 (Int.toNat i) (7:Nat))) fun r2 =>
    if(r2)=true then
     some (5:Int)
    else
     Option.bind (y9 (nI u0 (Int.toNat i) (1:Nat)) (0:Int) (4:Int)) fun r3 =>
     if(!r3)=true then
     some (15:Int)
     else
     Option.bind (y87 (nS u0 (Int.toNat i) (0:Nat)) (nI u0 (Int.toNat i) (1:Nat)) (nL u0 (Int.toNat i) (2:Nat)) (nL u0 (Int.toNat i) (3:Nat)) (nL u0 (Int.toNat i) (4:Nat)) (nI u0 (Int.toNat i) (5:Nat)) (nR u0 (Int.toNat i) (6:Nat)) (nI u0 (Int.toNat i) (7:Nat))) fun r4 =>
     if(!r4)=true then
      some (10:Int)
     else
      if(r5)=true then
      some (6:Int)
      else
      Option.bind (y79 (nL u0 (Int.toNat i) (2:Nat))) fun r6 =>
      if(r6)=true then
       some (26:Int)
      else
       Option.bind (jdy (nS u0 (Int.toNat i) (0:Nat)) (nI u0 (Int.toNat i) (1:Nat)) (nL u0 (Int.toNat i) (2:Nat)) (nL u0 (Int.toNat i) (3:Nat)) (nL u0 (Int.toNat i) (4:Nat)) (nI u0 (Int.toNat i) (5:Nat)) (nR u0 (Int.toNat i) (6:Nat)) (nI u0 (Int.toNat i) (7:Nat))) fun r7 =>
       if(!r7)=true then
       some (2:Int)
       else
       if(nI u0 (Int.toNat i) (1:Nat)!=3)=true then
        Option.bind (y40 ((↑(List.length (nR u0 (Int.toNat i) (6:Nat))):Int)==0) (10:Int)) fun r8 =>
        some r8
       else
        Option.bind (y62 (nR u0 (Int.toNat i) (6:Nat))) fun r9 =>
        some r9.2
    else none
  else none
 else none
def jhH:List Lf→Option GT
 |[.d (.s u1),.x (.st [.s,.i .i64,.ints .i64,.ints .i64,.ints .i64,.i .i64,.recs 5,.i .i64] u0),.d (.i .i64 i)]=>some (.leaf (ok (y80 u1 u0 i)) [.c (.d (.i .i64 ((val (y80 u1 u0 i)))))])
 |_=>none
abbrev sp_79:jab→jab:=jaX 79 true (jat jhG jhH)
abbrev jtY (u0:List (List NC)) (i:Int):=(y3 (List.take (Int.toNat (Option.getD (some i) (↑(List.length u0):Int))-0) (List.drop (0:Nat) u0)) (nS u0 (Int.toNat i) (0:Nat)) (nI u0 (Int.toNat i) (1:Nat)) (nL u0 (Int.toNat i) (2:Nat)) (nL u0 (Int.toNat i) (3:Nat)) (nL u0 (Int.toNat i) (4:Nat)) (nI u0 (Int.toNat i) (5:Nat)) (nR u0 (Int.toNat i) (6:Nat)) (nI u0 (Int.toNat i) (7:Nat)))
abbrev jtZ (u0:List (List NC)) (i:Int):=(y87 (nS u0 (Int.toNat i) (0:Nat)) (nI u0 (Int.toNat i) (1:Nat)) (nL u0 (Int.toNat i) (2:Nat)) (nL u0 (Int.toNat i) (3:Nat)) (nL u0 (Int.toNat i) (4:Nat)) (nI u0 (Int.toNat i) (5:Nat)) (nR u0 (Int.toNat i) (6:Nat)) (nI u0 (Int.toNat i) (7:Nat)))
abbrev jt0 (u0:List (List NC)) (i:Int):=(0≤Option.getD none (0:Int)∧Option.getD none 0≤Option.getD (some i) (↑(List.length u0):Int)∧Option.getD (some i) (↑(List.length u0):Int)≤(↑(List.length u0):Int))
abbrev jxR (u0:List (List NC)) (i:Int):=(jdy (nS u0 (Int.toNat i) (0:Nat)) (nI u0 (Int.toNat i) (1:Nat)) (nL u0 (Int.toNat i) (2:Nat)) (nL u0 (Int.toNat i) (3:Nat)) (nL u0 (Int.toNat i) (4:Nat)) (nI u0 (Int.toNat i) (5:Nat)) (nR u0 (Int.toNat i) (6:Nat)) (nI u0 (Int.toNat i) (7:Nat)))
def jsm (u1:ByteArray) (u0:List (List NC)) (i:Int):T (Int) :=
 .obP (0≤i∧i<(↑(List.length u0):Int))
 (.obP (Int.toNat i<List.length u0)
 (.call (y45 (nI u0 (Int.toNat i) (7:Nat)) u1 u0) fun r0 =>
 .brB (!r0)
 (.brB (nI u0 (Int.toNat i) (7:Nat)!=(-1:Int))
 (.call (y35 (nS u0 (Int.toNat i) (0:Nat))) fun r1 =>
 .brB (!r1)
 (.obT
 (.rc ((4:Int))))
 (.brB (nS u0 (Int.toNat i) (0:Nat)==ByteArray.mk #[(115:UInt8),(116:UInt8),(97:UInt8),(110:UInt8),(100:UInt8)])
 (.obT
 (.rc ((4:Int))))
 (.obP (jt0 u0 i)
 (.call (jtY u0 i) fun r2 =>
 .brB (r2)
 (.obT
 (.rc ((5:Int))))
 (.call (y9 (nI u0 (Int.toNat i) (1:Nat)) (0:Int) (4:Int)) fun r3 =>
 .brB (!r3)
 (.obT
 (.rc ((15:Int))))
 (.call (jtZ u0 i) fun r4 =>
 .brB (!r4)
 (.obT
 (.rc ((10:Int))))
 (.obT
 (.rc ((6:Int))))))))))
 (.call (y5 (nL u0 (Int.toNat i) (2:Nat)) u1 u0) fun r5 =>
 .call (y35 (nS u0 (Int.toNat i) (0:Nat))) fun r1 =>
 .brB (!r1)
 (.obT
 (.rc ((4:Int))))
 (.brB (nS u0 (Int.toNat i) (0:Nat)==ByteArray.mk #[(115:UInt8),(116:UInt8),(97:UInt8),(110:UInt8),(100:UInt8)])
 (.obT
 (.rc ((4:Int))))
 (.obP (jt0 u0 i)
 (.call (jtY u0 i) fun r2 =>
 .brB (r2)
 (.obT
 (.rc ((5:Int))))
 (.call (y9 (nI u0 (Int.toNat i) (1:Nat)) (0:Int) (4:Int)) fun r3 =>
 .brB (!r3)
 (.obT
 (.rc ((15:Int))))
 (.call (jtZ u0 i) fun r4 =>
 .brB (!r4)
 (.obT
 (.rc ((10:Int))))
 (.brB (r5)
 (.obT
 (.rc ((6:Int))))
 (.call (y79 (nL u0 (Int.toNat i) (2:Nat))) fun r6 =>
 .brB (r6)
 (.obT
 (.rc ((26:Int))))
 (.call (jxR u0 i) fun r7 =>
 .brB (!r7)
 (.obT
 (.rc ((2:Int))))
 (.brB (nI u0 (Int.toNat i) (1:Nat)!=3)
 (.call (y40 ((↑(List.length (nR u0 (Int.toNat i) (6:Nat))):Int)==0) (10:Int)) fun r8 =>
 .obT
 (.rc (r8)))
 (.call (y62 (nR u0 (Int.toNat i) (6:Nat))) fun r9 =>
 .obT
 (.rc (r9.2))))))))))))))
 (.call (y5 (nL u0 (Int.toNat i) (2:Nat)) u1 u0) fun r5 =>
 .call (y35 (nS u0 (Int.toNat i) (0:Nat))) fun r1 =>
 .brB (!r1)
 (.obT
 (.rc ((4:Int))))
 (.brB (nS u0 (Int.toNat i) (0:Nat)==ByteArray.mk #[(115:UInt8),(116:UInt8),(97:UInt8),(110:UInt8),(100:UInt8)])
 (.obT
 (.rc ((4:Int))))
 (.obP (jt0 u0 i)
 (.call (jtY u0 i) fun r2 =>
 .brB (r2)
 (.obT
 (.rc ((5:Int))))
 (.call (y9 (nI u0 (Int.toNat i) (1:Nat)) (0:Int) (4:Int)) fun r3 =>
 .brB (!r3)
 (.obT
 (.rc ((15:Int))))
 (.call (jtZ u0 i) fun r4 =>
 .brB (!r4)
 (.obT
 (.rc ((10:Int))))
 (.brB (r5)
 (.obT
 (.rc ((6:Int))))
 (.call (y79 (nL u0 (Int.toNat i) (2:Nat))) fun r6 =>
 .brB (r6)
 (.obT
 (.rc ((26:Int))))
 (.call (jxR u0 i) fun r7 =>
 .brB (!r7)
 (.obT
 (.rc ((2:Int))))
 (.brB (nI u0 (Int.toNat i) (1:Nat)!=3)
 (.call (y40 ((↑(List.length (nR u0 (Int.toNat i) (6:Nat))):Int)==0) (10:Int)) fun r8 =>
 .obT
 (.rc (r8)))
 (.call (y62 (nR u0 (Int.toNat i) (6:Nat))) fun r9 =>
 .obT
 (.rc (r9.2)))))))))))))))
theorem jqT (u1:ByteArray) (u0:List (List NC)) (i r:Int) (h:Option.bind (y80 u1 u0 i) some=some r):jbQ Tryz.f79 ((sp_122 (sp_124 (sp_123 (sp_78 (sp_126 (sp_125 (sp_84 (sp_127 (sp_128 (sp_129 (sp_77 (sp_130 sp0))))))))))))) (fun _ _ _=>none) (jbA jhG [.d (.s u1),.x (.st [.s,.i .i64,.ints .i64,.ints .i64,.ints .i64,.i .i64,.recs 5,.i .i64] u0),.d (.i .i64 i)]) [.c (.d (.i .i64 r))] :=
 T.vc (t:=jsm u1 u0 i) (by kernel_rfl) (by kernel_rfl) h
theorem jqU:jaj Tryz.prog 79 true (jat jhG jhH):=by
 refine jaS (sp:=(sp_122 (sp_124 (sp_123 (sp_78 (sp_126 (sp_125 (sp_84 (sp_127 (sp_128 (sp_129 (sp_77 (sp_130 sp0))))))))))))) (fn:=Tryz.f79) (body:=bodyOf Tryz.f79) mixed (sp_122_ok (sp_124_ok (sp_123_ok (sp_78_ok (sp_126_ok (sp_125_ok (sp_84_ok (sp_127_ok (sp_128_ok (sp_129_ok (sp_77_ok (sp_130_ok jaB)))))))))))) Tryz.func79 (by kernel_rfl) (by kernel_rfl) fun ls t h ho b hb=>?_
 unfold jhH at h
 split at h
 ·rename_i u1 u0 i
  cases h
  obtain rfl:=ja9 hb
  exact⟨Nat.le_of_ble_eq_true (by kernel_rfl),_,_,jqT u1 u0 i _ (jax ho)⟩
 ·cases h
theorem sp_79_ok {sp:jab} (h:jac Tryz.prog sp):jac Tryz.prog (sp_79 sp):=jaA jqU h
def jfa:List SV:=[.a [.d,.x (.st [.s,.i .i64,.ints .i64,.ints .i64,.ints .i64,.i .i64,.recs 5,.i .i64] [])]]
def y23 (u1:ByteArray) (u0:List (List NC)) (x0:Int):Option (Int ⊕ ((Int × Int) ⊕ Unit)) :=
 if x0<(↑(List.length u0):Int)then
  Option.bind (y80 u1 u0 x0) fun r4 =>
  if(r4 != 0)=true then
  some (.inr ((.inl (x0,r4))))
  else
  some (.inl (wrap .i64 (x0+1)))
 else
  some (.inr ((.inr ())))
def jlh (u3:Int × Int):Option (Int × Int) :=
 some (u3.1,u3.2)
def jli (u4:Unit):Option (Int × Int) :=
 some (((0:Int),0))
def y65:((Int × Int) ⊕ Unit)→Option (Int × Int) :=
 (Sum.elim (jlh) (jli))
def y12 (u1:ByteArray) (u0:List (List NC)):Option (Int × Int) :=
 Option.bind (y35 u1) fun r0 =>
 Option.bind (y40 r0 (4:Int)) fun r1 =>
 Option.bind (y40 (decide ((↑(List.length u0):Int)≤24)) (8:Int)) fun r2 =>
 Option.bind (je6 [r1,r2]) fun r3 =>
 if(r3 != 0)=true then
  some (((0:Int),r3))
 else
  Option.bind (jad (y23 u1 u0) big (0:Int)) (y65)
def jfb:List Lf→Option GT
 |[.d (.s u1),.x (.st [.s,.i .i64,.ints .i64,.ints .i64,.ints .i64,.i .i64,.recs 5,.i .i64] u0)]=>some (.leaf (ok (y12 u1 u0)) [.c (.d (.i .i64 ((val (y12 u1 u0)).1))),.c (.d (.i .i64 ((val (y12 u1 u0)).2)))])
 |_=>none
abbrev sp_18:jab→jab:=jaX 18 true (jat jfa jfb)
abbrev jqV (u1:ByteArray) (u0:List (List NC)):=(je6 [val (y40 (val (y35 u1)) (4:Int)),val (y40 (decide ((↑(List.length u0):Int)≤24)) (8:Int))])
theorem jnj (u1:ByteArray) (u0:List (List NC)) (r:Int × Int) (h:Option.bind (y12 u1 u0) some=some r):jbQ Tryz.f18 ((sp_78 (sp_77 (sp_76 (sp_79 sp0))))) (fun gs id _=>match id with
 |0=>some ⟨Int × Nat,fun z=>⟨[(1,.w (.c (.p 1 0 1 0))),(23,.w (.c (.d (.i .i64 ((↑(List.length u0):Int)))))),(24,.w (.c (.d (.i .i64 (Prod.fst z)))))],[(1,.box 24 [.d (.s u1),.o 0]),(0,.xext (XC.st [NK.s,NK.i .i64,NK.ints .i64,NK.ints .i64,NK.ints .i64,NK.i .i64,NK.recs (5:Nat),NK.i .i64] u0))],2⟩,fun z=>Option.bind (jad (y23 u1 u0) (Prod.snd z) (Prod.fst z)) (fun y0=>Option.bind (y65 y0) some)=some r,fun z=>Prod.snd z⟩
 |_=>none) (jbA jfa [.d (.s u1),.x (.st [.s,.i .i64,.ints .i64,.ints .i64,.ints .i64,.i .i64,.recs 5,.i .i64] u0)]) [.c (.d (.i .i64 r.1)),.c (.d (.i .i64 r.2))]:=by
 refine Eq.mp (by kernel_rfl:(
 (Ob (ok (y35 u1)) ∧
 (Ob (ok (y40 (val (y35 u1)) (4:Int))) ∧
 (Ob (ok (y40 (decide ((↑(List.length u0):Int)≤24)) (8:Int))) ∧
 (Ob (ok (jqV u1 u0)) ∧
 Br (val (jqV u1 u0)!=0)
  ((Ob True ∧
 (Ob True ∧
 (Ob ((0:Int)=r.1) ∧
 (Ob (val (jqV u1 u0)=r.2) ∧
 True)))))
  (((∃(v0:Int × Nat),(Ob ((Option.bind (jad (y23 u1 u0) v0.2 v0.1) fun y0=>Option.bind (y65 y0) some)=some r) ∧
 (Ob (0=0) ∧
 (Ob ((↑(List.length u0):Int)=(↑(List.length u0):Int)) ∧
 (Ob ((0:Int)=v0.1) ∧
 (Ob (u1=u1) ∧
 (Ob (u0=u0) ∧
 True))))))) ∧
  (∀(v0:Int × Nat),((Option.bind (jad (y23 u1 u0) v0.2 v0.1) fun y0=>Option.bind (y65 y0) some)=some r →
 Br (decide (v0.1<(↑(List.length u0):Int)))
  ((Ob (ok (y80 u1 u0 v0.1)) ∧
 Br (val (y80 u1 u0 v0.1)!=0)
  ((Ob True ∧
 (Ob True ∧
 (Ob (v0.1=r.1) ∧
 (Ob (val (y80 u1 u0 v0.1)=r.2) ∧
 True)))))
  ((∃(v1:Int × Nat),(Ob ((Option.bind (jad (y23 u1 u0) v1.2 v1.1) fun y0=>Option.bind (y65 y0) some)=some r) ∧
 (Ob (v1.2<v0.2) ∧
 (Ob (0=0) ∧
 (Ob ((↑(List.length u0):Int)=(↑(List.length u0):Int)) ∧
 (Ob (wrap .i64 (v0.1+1)=v1.1) ∧
 (Ob (u1=u1) ∧
 (Ob (u0=u0) ∧
 True)))))))))))
  ((Ob True ∧
 (Ob True ∧
 (Ob ((0:Int)=r.1) ∧
 (Ob ((0:Int)=r.2) ∧
 True))))))))))))))=_) ?_
 refine jaE h fun h=>?_
 refine jaE h fun h=>?_
 refine jaE h fun h=>?_
 refine jaE h fun h=>?_
 refine jaw h (fun h=>?_) (fun h=>?_)
 ·refine jaf ?_
  refine jaf ?_
  exact rcs h
 ·refine⟨⟨((0:Int),big),⟨jaT h⟩,(by repeat' constructor)⟩,fun z5 hz5=>?_⟩
  obtain⟨k5,hm5,h⟩:=jaD hz5
  refine jay h (fun h=>?_) (fun h=>?_)
  ·refine jaE h fun h=>?_
   refine jaw h (fun h=>?_) (fun h=>?_)
   ·have h:=jah h
    refine jaf ?_
    refine jaf ?_
    exact rcs h
   ·exact⟨(_,k5),⟨jav h⟩,⟨jaC hm5.symm⟩,(by repeat' constructor)⟩
  ·have h:=jah h
   refine jaf ?_
   refine jaf ?_
   exact rcs h
theorem jnk:jaj Tryz.prog 18 true (jat jfa jfb):=by
 refine jaS (sp:=(sp_78 (sp_77 (sp_76 (sp_79 sp0))))) (fn:=Tryz.f18) (body:=bodyOf Tryz.f18) mixed (sp_78_ok (sp_77_ok (sp_76_ok (sp_79_ok jaB)))) Tryz.func18 (by kernel_rfl) (by kernel_rfl) fun ls t h ho b hb=>?_
 unfold jfb at h
 split at h
 ·rename_i u1 u0
  cases h
  obtain rfl:=ja9 hb
  exact⟨Nat.le_of_ble_eq_true (by kernel_rfl),_,_,jnj u1 u0 _ (jax ho)⟩
 ·cases h
theorem sp_18_ok {sp:jab} (h:jac Tryz.prog sp):jac Tryz.prog (sp_18 sp):=jaA jnk h
end Go.Sh
end

section
namespace Go.Sh
open Go Go.Proofs Go.RowKit Go.Sx
open Go.IntKind (wrap)
theorem jwU {body:Int→Option (Int ⊕ (Unit ⊕ Unit))} (n:Nat) (hlen:n<9223372036854775807)
  (h:∀i,i<n→body (i:Int)=some (.inl ((i:Int)+1))∨body (i:Int)=some (.inr (.inl ()))) (h3:body (n:Int)=some (.inr (.inr ()))) :
  ∃b:Bool,jad body big 0=some (if b=true then .inl ()else .inr ()):=by
 classical
 refine⟨(List.range n).any fun i=>decide (body (i:Int)=some (.inr (.inl ()))),?_⟩
 exact jdH n (fun i=>decide (body (i:Int)=some (.inr (.inl ())))) (.inl ()) (.inr ()) hlen (fun i hi hp=>of_decide_eq_true hp) (fun i hi hp=>(h i hi).resolve_right (of_decide_eq_false hp)) h3
def inB (n lo hi:Int):Bool:=decide (lo≤n)&&decide (n≤hi)
theorem jbs (n lo hi:Int):y4 n lo hi=some (inB n lo hi):=by
 unfold y4 inB
 split
 ·rename_i h; simp[h]
 ·rename_i h; simp[h]
theorem jcG (n lo hi:Int):y9 n lo hi=some (inB n lo hi):=by
 unfold y9 inB
 split
 ·rename_i h; simp[h]
 ·rename_i h; simp[h]
theorem jnl (n:Int):jel n 4000=some (inB n (-4000) 4000):=by
 unfold jel
 rw[show wrap IntKind.i64 ((0:Int)-4000)=-4000 from by rw[jbk (by omega)]; rfl,jcG]
 rfl
theorem jlG (b:Bool) (e:Int):y40 b e=some (if b=true then 0 else e):=by
 unfold y40
 cases b<;>rfl
theorem jfc (l:List Int) (n:Int) (hl:l.length<9223372036854775807):jcZ l n=some (l.any (·== n)):=by
 unfold jcZ
 rw[jcY l 0 (·== n) (.inl ()) (.inr ()) hl (fun i hi hp=>?_) (fun i hi hp=>?_) ?_]
 ·cases l.any (·== n)<;>rfl
 ·unfold y92; simp only[Int.toNat_natCast]
  rw[if_neg (by omega)]
 ·unfold y92; simp only[Int.toNat_natCast]
  rw[if_pos (by omega),if_pos (by omega),if_pos hi,if_pos hp]
 ·unfold y92; simp only[Int.toNat_natCast]
  rw[if_pos (by omega),if_pos (by omega),if_pos hi,if_neg (by rw[hp]; exact Bool.false_ne_true),jbk (by omega)]
theorem jd1 (l:List Int) (hl:l.length≤100):y6 l=some l:=by
 unfold y6
 rw[if_pos (by omega)]
 rfl
theorem jvx (a:List Int) (hl:a.length<9223372036854775807):jfJ a a=some true:=by
 unfold jfJ
 rw[if_neg (by simp)]
 rw[jcY a 0 (fun _=>false) (.inl ()) (.inr ()) hl (fun i hi hp=>by cases hp) (fun i hi hp=>?_) ?_]
 ·have:a.any (fun _=>false)=false:=by simp
  rw[this]; rfl
 ·unfold y93; simp only[Int.toNat_natCast]
  rw[if_neg (by omega)]
 ·unfold y93; simp only[Int.toNat_natCast]
  rw[if_pos (by omega),if_pos (by omega),if_pos hi,if_pos (by omega),if_pos hi,if_neg (by simp),jbk (by omega)]
theorem jyi:y88=y60:=rfl
set_option maxHeartbeats 4000000 in
theorem jwV (s:ByteArray) (hs:s.size<1000):∃b:Bool,jad (y60 s) big 0=some (if b=true then .inl ()else .inr ()):=by
 refine jwU s.size (by omega) (fun i hi=>?_) ?_
 ·unfold y60
  rw[if_pos (by omega),if_pos (by omega),jbk (by omega)]
  repeat' (first|exact .inl rfl|exact .inr rfl|split)
 ·unfold y60
  rw[if_neg (by omega)]
theorem js0 (s:ByteArray) (hs:s.size<1000):∃b:Bool,y35 s=some b∧y55 s=some b:=by
 obtain⟨b,hb⟩:=jwV s hs
 unfold y35 y55
 rw[jyi,hb]
 have hne:(s != ByteArray.mk #[])=true↔1≤s.size:=by
  constructor
  ·intro h
   refine Nat.pos_of_ne_zero fun h0=>?_
   have:s=ByteArray.mk #[]:=by
    cases s with
    |mk d =>
     have:d.size=0:=h0
     rw[Array.eq_empty_of_size_eq_zero this]
   rw[this]at h
   exact absurd h (by decide)
  ·intro h
   cases hb:(s != ByteArray.mk #[])
   ·exfalso
    have:(s==ByteArray.mk #[])=true:=by simpa [bne]using hb
    cases s with
    |mk d =>
     have h2:(d == #[])=true:=this
     have e:d=#[]:=eq_of_beq h2
     subst e
     exact absurd h (by decide)
   ·rfl
 cases b with
 |true =>
  refine⟨false,rfl,?_⟩
  split
  ·rfl
  ·split<;>rfl
 |false =>
  show ∃b,(if(s != ByteArray.mk #[])=true then some (decide ((s.size:Int)≤12))else some false)=some b∧_
  by_cases h1:1≤s.size
  ·rw[if_pos (hne.2 h1),if_neg (by omega)]
   by_cases h2:(s.size:Int)>12
   ·rw[if_pos h2]
    exact⟨false,by simp; omega,rfl⟩
   ·rw[if_neg h2]
    exact⟨true,by simp; omega,rfl⟩
  ·rw[if_neg (fun h=>h1 (hne.1 h)),if_pos (by omega)]
   exact⟨false,rfl,rfl⟩
end Go.Sh
end

section
namespace Go.Sh
open Go Go.Proofs Go.RowKit Go.Sx
def jd2 (n:Nat) (l:List Int):Bool:=l.any fun x=>!inB x 0 ((n:Int)-1)
def jhI (l:List Int):Bool:=(List.range l.length).any fun i=>(l.take i).any (·== l.getD i 0)
def jec (r:List Int):Bool:=[r.getD 0 0,r.getD 1 0,r.getD 2 0,r.getD 3 0,r.getD 4 0].all Sx09.partB
def jc0 (c:List (List Int)):Int:=if(c.length:Int)>6 then 8 else if c.any (fun r=>!jec r)=true then 2 else 0
def exB (g:List (List NC)) (i:Nat):Bool:=(List.range i).any fun k=>nS g k 0==nS g i 0
theorem jwW (l:List Int) (nm:ByteArray) (g:List (List NC)) (hl:l.length<1000) (hg:g.length<1000):y5 l nm g=some (jd2 g.length l):=by
 have hb:∀x:Int,y72 x nm g=some (!inB x 0 ((g.length:Int)-1)):=fun x=>by
  unfold y72 y45
  rw[jbk (by omega),jcG]
  rfl
 unfold y5 y22
 rw[jbZ l 0 (fun x=>!inB x 0 ((g.length:Int)-1)) (fun i=>.inl (i:Int)) (.inr ()) (by omega) (fun i hi hp=>?_) (fun i hi hp=>?_) ?_]
 ·unfold jd2
  cases hf:l.findIdx? (fun x=>!inB x 0 ((g.length:Int)-1))with
  |none =>
   have:l.any (fun x=>!inB x 0 ((g.length:Int)-1))=false:=by
    rw[List.findIdx?_eq_none_iff]at hf
    rw[List.any_eq_false]
    intro x hx
    simp[hf x hx]
   rw[this]; rfl
  |some i =>
   have:l.any (fun x=>!inB x 0 ((g.length:Int)-1))=true:=by
    rw[List.findIdx?_eq_some_iff_getElem]at hf
    obtain⟨h,hp,_⟩:=hf
    exact List.any_eq_true.2 ⟨_,List.getElem_mem h,hp⟩
   rw[this]
   show some (decide ((i:Int)≥0))=some true
   simp
 ·unfold y7; simp only[Int.toNat_natCast]
  rw[if_neg (by omega)]
 ·unfold y7; simp only[Int.toNat_natCast]
  rw[if_pos (by omega),if_pos (by omega),if_pos hi,hb,jae,if_pos hp]
 ·unfold y7; simp only[Int.toNat_natCast]
  rw[if_pos (by omega),if_pos (by omega),if_pos hi,hb,jae,if_neg (by rw[hp]; exact Bool.false_ne_true),jbk (by omega)]
theorem js1 (g:List (List NC)) {i k:Nat} (h:k<i) (j:Nat):nS (g.take i) k j=nS g k j:=by
 unfold nS
 simp[List.getD,List.getElem?_take,h]
theorem jt1 (g:List (List NC)) (i:Nat) (hi0:i<g.length) (hg:g.length<1000) (a:Int) (b c d:List Int) (e:Int) (f:List (List Int)) (s:Int) :
  y3 (g.take i) (nS g i 0) a b c d e f s=some (exB g i):=by
 have hlen:(g.take i).length=i:=by simp; omega
 unfold y3 y8
 have key:=jbZ (body:=y2 (g.take i) (nS g i 0) a b c d e f s) (List.range i) 0 (fun k=>nS g k 0==nS g i 0) (fun i=>.inl (i:Int)) (.inr ()) (by simp; omega) (fun k hk hp=>by
   have hk:k<i:=by simpa using hk
   have hr:(List.range i).getD k 0=k:=by simp[List.getD,hk]
   rw[hr]at hp
   unfold y2; simp only[Int.toNat_natCast]
   rw[hlen,if_pos (by omega),if_pos (by omega),if_pos hk]
   unfold y73
   rw[jae,js1 g hk,if_pos hp]) (fun k hk hp=>by
   have hk:k<i:=by simpa using hk
   have hr:(List.range i).getD k 0=k:=by simp[List.getD,hk]
   rw[hr]at hp
   unfold y2; simp only[Int.toNat_natCast]
   rw[hlen,if_pos (by omega),if_pos (by omega),if_pos hk]
   unfold y73
   rw[jae,js1 g hk,if_neg (by rw[hp]; exact Bool.false_ne_true),jbk (by omega)]) (by
   unfold y2; simp only[Int.toNat_natCast]
   rw[hlen,if_neg (by simp)])
 rw[key]
 unfold exB
 cases hf:(List.range i).findIdx? (fun k=>nS g k 0==nS g i 0)with
 |none =>
  have:(List.range i).any (fun k=>nS g k 0==nS g i 0)=false:=by
   rw[List.findIdx?_eq_none_iff]at hf
   rw[List.any_eq_false]
   intro x hx
   simp[hf x hx]
  rw[this]; rfl
 |some m =>
  have:(List.range i).any (fun k=>nS g k 0==nS g i 0)=true:=by
   rw[List.findIdx?_eq_some_iff_getElem]at hf
   obtain⟨h,hp,_⟩:=hf
   exact List.any_eq_true.2 ⟨_,List.getElem_mem h,hp⟩
  rw[this]
  show some (decide ((m:Int)≥0))=some true
  simp
theorem jkq (l:List Int) (v:Int) (hl:l.length<1000):y19 l v=some (l.any (·== v)):=by
 unfold y19 y56
 rw[jbZ l 0 (fun x=>v==x) (fun i=>.inl (i:Int)) (.inr ()) (by omega) (fun i hi hp=>?_) (fun i hi hp=>?_) ?_]
 ·have hsym:l.any (·== v)=l.any (fun x=>v==x):=by
   congr 1
   funext x
   exact Bool.beq_comm
  rw[hsym]
  cases hf:l.findIdx? (fun x=>v==x)with
  |none =>
   have:l.any (fun x=>v==x)=false:=by
    rw[List.findIdx?_eq_none_iff]at hf
    rw[List.any_eq_false]
    intro x hx
    simp[hf x hx]
   rw[this]; rfl
  |some i =>
   have:l.any (fun x=>v==x)=true:=by
    rw[List.findIdx?_eq_some_iff_getElem]at hf
    obtain⟨h,hp,_⟩:=hf
    exact List.any_eq_true.2 ⟨_,List.getElem_mem h,hp⟩
   rw[this]
   show some (decide ((i:Int)≥0))=some true
   simp
 ·unfold y18; simp only[Int.toNat_natCast]
  rw[if_neg (by omega)]
 ·unfold y18; simp only[Int.toNat_natCast]
  rw[if_pos (by omega),if_pos (by omega),if_pos hi,if_pos hp]
 ·unfold y18; simp only[Int.toNat_natCast]
  rw[if_pos (by omega),if_pos (by omega),if_pos hi,if_neg (by rw[hp]; exact Bool.false_ne_true),jbk (by omega)]
theorem jsn (l:List Int) (hl:l.length<1000):y79 l=some (jhI l):=by
 unfold y79
 have key:=jdH (body:=y48 l) l.length (fun i=>(l.take i).any (·== l.getD i 0)) (.inl ()) (.inr ()) (by omega) (fun i hi hp=>by
   unfold y48; simp only[Int.toNat_natCast]
   rw[if_pos (by omega),if_pos (by omega),if_pos hi,if_pos (by simp only[Option.getD]; omega)]
   simp only[Option.getD_some,Int.toNat_natCast,Nat.sub_zero,List.drop_zero]
   rw[jkq _ _ (by simp; omega),jae,if_pos hp]) (fun i hi hp=>by
   unfold y48; simp only[Int.toNat_natCast]
   rw[if_pos (by omega),if_pos (by omega),if_pos hi,if_pos (by simp only[Option.getD]; omega)]
   simp only[Option.getD_some,Int.toNat_natCast,Nat.sub_zero,List.drop_zero]
   rw[jkq _ _ (by simp; omega),jae,if_neg (by rw[hp]; exact Bool.false_ne_true),jbk (by omega)]) (by
   unfold y48; simp only[Int.toNat_natCast]
   rw[if_neg (by omega)])
 rw[key]
 unfold jhI
 cases (List.range l.length).any (fun i=>(l.take i).any (·== l.getD i 0))<;>rfl
def jdS (kd:Int) (al ga:List Int) (de:Int):Bool:=!(al.any fun x=>!inB x 0 64) && !(ga.any fun x=>!inB x (-4000) 4000)&&inB de 0 64&&(kd==2||de==0)
theorem jt2 (nm:ByteArray) (kd:Int) (fr al ga:List Int) (de:Int) (ca:List (List Int)) (sd:Int) (ha:al.length<1000) (hg:ga.length<1000):jdy nm kd fr al ga de ca sd=some (jdS kd al ga de):=by
 have hr1:∀x:Int,y39 x=some (inB x 0 64):=fun x=>by unfold y39; rw[jcG]; rfl
 have kg:=jcY (body:=y46 ga) ga 0 (fun x=>!inB x (-4000) 4000) (.inl ()) (.inr ()) (by omega) (fun i hi hp=>by
   unfold y46; simp only[Int.toNat_natCast]
   rw[if_pos (by omega),if_pos (by omega),if_pos hi,jnl,jae,if_pos hp]) (fun i hi hp=>by
   unfold y46; simp only[Int.toNat_natCast]
   rw[if_pos (by omega),if_pos (by omega),if_pos hi,jnl,jae,if_neg (by rw[hp]; exact Bool.false_ne_true),jbk (by omega)]) (by
   unfold y46; simp only[Int.toNat_natCast]
   rw[if_neg (by omega)])
 have ka:=jcY (body:=y61 al) al 0 (fun x=>!inB x 0 64) (.inl ()) (.inr ()) (by omega) (fun i hi hp=>by
   unfold y61; simp only[Int.toNat_natCast]
   rw[if_pos (by omega),if_pos (by omega),if_pos hi,hr1,jae,if_pos hp]) (fun i hi hp=>by
   unfold y61; simp only[Int.toNat_natCast]
   rw[if_pos (by omega),if_pos (by omega),if_pos hi,hr1,jae,if_neg (by rw[hp]; exact Bool.false_ne_true),jbk (by omega)]) (by
   unfold y61; simp only[Int.toNat_natCast]
   rw[if_neg (by omega)])
 unfold jdy jdS
 rw[ka]
 cases al.any (fun x=>!inB x 0 64)with
 |true=>rfl
 |false =>
  show(jad (y46 ga) big 0).bind (y89 kd de)=_
  rw[kg]
  cases ga.any (fun x=>!inB x (-4000) 4000)with
  |true=>rfl
  |false =>
   show(y39 de).bind _=_
   rw[hr1,jae]
   cases inB de 0 64 with
   |false=>rfl
   |true=>cases hk:(kd==2)<;>simp
end Go.Sh
end

section
namespace Go.Sh
open Go Go.Proofs Go.RowKit Go.Sx
theorem jlH {α:Type} (l:List α) (P:α→Bool):(l.findIdx? P).isSome=l.any P:=by
 induction l with
 |nil=>rfl
 |cons x r ih =>
  rw[List.findIdx?_cons,List.any_cons]
  cases P x with
  |true=>rfl
  |false=>simp[ih]
theorem js2 (r:List Int):y41 (r.getD 0 0) (r.getD 1 0) (r.getD 2 0) (r.getD 3 0) (r.getD 4 0)=some (if jec r=true then 0 else 2):=by
 unfold y41
 have key:=jcY (body:=y13 (r.getD 0 0) (r.getD 1 0) (r.getD 2 0) (r.getD 3 0) (r.getD 4 0)) [r.getD 0 0,r.getD 1 0,r.getD 2 0,r.getD 3 0,r.getD 4 0] 0 (fun x=>!inB x (-32768) 32768) (.inl ()) (.inr ()) (by simp) (fun i hi hp=>by
   unfold y13; simp only[Int.toNat_natCast]
   rw[if_pos (by omega),if_pos (by omega),if_pos hi,jbs,jae,if_pos hp]) (fun i hi hp=>by
   unfold y13; simp only[Int.toNat_natCast]
   have hi5:i<5:=hi
   rw[if_pos (by omega),if_pos (by omega),if_pos hi,jbs,jae,if_neg (by rw[hp]; exact Bool.false_ne_true),jbk (by omega)]) (by
   unfold y13; simp only[Int.toNat_natCast]
   rw[if_neg (by omega)])
 rw[key]
 have e:([r.getD 0 0,r.getD 1 0,r.getD 2 0,r.getD 3 0,r.getD 4 0].any fun x=>!inB x (-32768) 32768)=!jec r:=by
  unfold jec
  rw[List.all_eq_not_any_not]
  simp only[Bool.not_not]
  rfl
 rw[e]
 cases jec r<;>rfl
theorem jwX (c:List (List Int)) (hc:c.length<1000):(y27 c).bind (fun r=>some r.2)=some (jc0 c):=by
 unfold y27 jc0
 split
 ·rfl
 ·have key:=jbZ (body:=y14 c) c [] (fun r=>!jec r) (fun i=>.inl ((i:Int),2)) (.inr ()) (by omega) (fun i hi hp=>by
    unfold y14; simp only[Int.toNat_natCast]
    have hp:jec (c.getD i [])=false:=by simpa using hp
    rw[if_pos (by omega),if_pos (by omega),if_pos hi,js2,hp,jae]
    rfl) (fun i hi hp=>by
    unfold y14; simp only[Int.toNat_natCast]
    have hp:jec (c.getD i [])=true:=by simpa using hp
    rw[if_pos (by omega),if_pos (by omega),if_pos hi,js2,hp,jae,jbk (by omega)]
    rfl) (by
    unfold y14; simp only[Int.toNat_natCast]
    rw[if_neg (by omega)])
  rw[key,←jlH]
  cases c.findIdx? (fun r=>!jec r)<;>rfl
theorem jwY (c:List (List Int)) (hc:c.length<1000):(y62 c).bind (fun r=>some r.2)=some (jc0 c):=by
 have h1:y77 c=some (jc0 c):=by
  unfold y77 y57 jc0
  split
  ·rfl
  ·have key:=jbZ (body:=y21 c) c [] (fun r=>!jec r) (fun i=>.inl ((i:Int),2)) (.inr ()) (by omega) (fun i hi hp=>by
     unfold y21; simp only[Int.toNat_natCast]
     have hp:jec (c.getD i [])=false:=by simpa using hp
     have hs:Sx09.chkS ((c.getD i []).getD 0 0) ((c.getD i []).getD 1 0) ((c.getD i []).getD 2 0) ((c.getD i []).getD 3 0) ((c.getD i []).getD 4 0)=2:=by
      unfold Sx09.chkS
      unfold jec at hp
      rw[if_neg (by rw[hp]; exact Bool.false_ne_true)]
     rw[if_pos (by omega),if_pos (by omega),if_pos hi,hs]
     rfl) (fun i hi hp=>by
     unfold y21; simp only[Int.toNat_natCast]
     have hp:jec (c.getD i [])=true:=by simpa using hp
     have hs:Sx09.chkS ((c.getD i []).getD 0 0) ((c.getD i []).getD 1 0) ((c.getD i []).getD 2 0) ((c.getD i []).getD 3 0) ((c.getD i []).getD 4 0)=0:=by
      unfold Sx09.chkS
      unfold jec at hp
      rw[if_pos hp]
     rw[if_pos (by omega),if_pos (by omega),if_pos hi,hs,jbk (by omega)]
     rfl) (by
     unfold y21; simp only[Int.toNat_natCast]
     rw[if_neg (by omega)])
   rw[key,←jlH]
   cases c.findIdx? (fun r=>!jec r)<;>rfl
 unfold y62
 rw[h1,jae]
 cases hz:(jc0 c != 0)with
 |true=>rfl
 |false =>
  have h0:jc0 c=0:=by simpa using hz
  rw[if_neg (by simp),if_pos (by omega),h0]
  rfl
def jeH (s:ByteArray):Bool:=(y55 s).getD false
theorem jqW {s:ByteArray} (hs:s.size<1000):y55 s=some (jeH s):=by
 obtain⟨b,_,h2⟩:=js0 s hs
 unfold jeH
 rw[h2]; rfl
theorem jqX {s:ByteArray} (hs:s.size<1000):y35 s=some (jeH s):=by
 obtain⟨b,h1,h2⟩:=js0 s hs
 unfold jeH
 rw[h1,h2]; rfl
def jgP (kd:Int) (f a g:Nat):Bool :=
 if(kd==0)=true then inB (f:Int) 0 0&&((a:Int)==(f:Int))&&((g:Int)==0)
 else if(kd==1)=true then inB (f:Int) 1 6&&((a:Int)==(f:Int))&&((g:Int)==(f:Int))
 else inB (f:Int) 1 1&&((a:Int)==(f:Int))&&((g:Int)==0)
theorem jt3 (nm:ByteArray) (kd:Int) (fr al ga:List Int) (de:Int) (ca:List (List Int)) (sd:Int):y87 nm kd fr al ga de ca sd=some (jgP kd fr.length al.length ga.length):=by
 unfold y87 jgP
 simp only[jcG,jae]
 generalize (kd==0)=k0
 generalize (kd==1)=k1
 generalize inB (fr.length:Int) 0 0=c1
 generalize inB (fr.length:Int) 1 6=c2
 generalize inB (fr.length:Int) 1 1=c3
 generalize ((al.length:Int)==(fr.length:Int))=c4
 cases k0<;>cases k1<;>cases c1<;>cases c2<;>cases c3<;>cases c4<;>rfl
def jkr:ByteArray:=ByteArray.mk #[115,116,97,110,100]
def sdB (n:Nat) (s:Int):Bool:=s == -1||inB s 0 ((n:Int)-1)
def jbK (g:List (List NC)) (i:Nat):Int :=
 if(!jeH (nS g i 0))=true then 4
 else if(nS g i 0==jkr)=true then 4
 else if exB g i=true then 5
 else if(!inB (nI g i 1) 0 4)=true then 15
 else if(!jgP (nI g i 1) (nL g i 2).length (nL g i 3).length (nL g i 4).length)=true then 10
 else if jd2 g.length (nL g i 2)=true then 6
 else if(!sdB g.length (nI g i 7))=true then 6
 else if jhI (nL g i 2)=true then 26
 else if(!jdS (nI g i 1) (nL g i 3) (nL g i 4) (nI g i 5))=true then 2
 else if(nI g i 1==3)=true then jc0 (nR g i 6)
 else if(((nR g i 6).length:Int)==0)=true then 0 else 10
structure Fw (g:List (List NC)):Prop where
 n:g.length<1000
 nm:∀i,i<g.length→(nS g i 0).size<1000
 fr:∀i,i<g.length→(nL g i 2).length<100
 al:∀i,i<g.length→(nL g i 3).length<100
 ga:∀i,i<g.length→(nL g i 4).length<100
 ca:∀i,i<g.length→(nR g i 6).length<100
set_option maxHeartbeats 2000000 in
theorem jqY {g:List (List NC)} (hw:Fw g) (nm:ByteArray) {i:Nat} (hi:i<g.length):y80 nm g (i:Int)=some (jbK g i):=by
 have hn:=hw.n
 have h1:=hw.nm i hi
 have h2:=hw.fr i hi
 have h3:=hw.al i hi
 have h4:=hw.ga i hi
 have h5:=hw.ca i hi
 have hst:y45 (nI g i 7) nm g=some (inB (nI g i 7) 0 ((g.length:Int)-1)):=by
  unfold y45
  rw[jbk (by omega),jcG]
  rfl
 unfold y80
 rw[if_pos (by omega),if_pos (by simpa using hi)]
 simp only[Int.toNat_natCast,Option.getD_some,Option.getD_none,Nat.sub_zero,List.drop_zero]
 rw[hst,jwW _ nm g (by omega) hn,jqX h1]
 simp only[jae,jcG,jt3,jlG]
 rw[jt1 g i hi hn,jsn _ (by omega),jt2 _ _ _ _ _ _ _ _ (by omega) (by omega),jwY _ (by omega)]
 simp only[jae]
 have hb:(0:Int)≤0∧(0:Int)≤(i:Int)∧(i:Int)≤(g.length:Int):=by omega
 simp only[if_pos hb]
 unfold jbK sdB
 rw[show(ByteArray.mk #[115,116,97,110,100])=jkr from rfl]
 rw[show(nI g i 1 != 3)=!(nI g i 1==3)from rfl,show(nI g i 7 != -1)=!(nI g i 7 == -1)from rfl]
 generalize jeH (nS g i 0)=b1
 generalize (nS g i 0==jkr)=b2
 generalize exB g i=b3
 generalize inB (nI g i 1) 0 4=b4
 generalize jgP (nI g i 1) (nL g i 2).length (nL g i 3).length (nL g i 4).length=b5
 generalize jd2 g.length (nL g i 2)=b6
 generalize inB (nI g i 7) 0 ((g.length:Int)-1)=b7
 generalize (nI g i 7 == -1)=b8
 generalize jhI (nL g i 2)=b9
 generalize jdS (nI g i 1) (nL g i 3) (nL g i 4) (nI g i 5)=b10
 generalize (nI g i 1==3)=b11
 generalize (((nR g i 6).length:Int)==0)=b12
 generalize jc0 (nR g i 6)=ce
 cases b7<;>cases b8<;>(cases b1; rfl; cases b2<;>try rfl)<;>(cases b3<;>try rfl)<;>(cases b4; rfl; cases b5; rfl; cases b6<;>try rfl)<;>(cases b9<;>try rfl)<;>(cases b10; rfl; cases b11<;>cases b12<;>rfl)
end Go.Sh
end

section
namespace Go.Sh
open Go Go.Proofs Go.RowKit Go.Sx
theorem jt4 (x y z:Bool) (r:Int):(if(!x)=true then some (10:Int)else if(!y)=true then some 10 else if(!z)=true then some 10 else some r)=some (if(!(x&&y&&z))=true then 10 else r):=by
 cases x<;>cases y<;>cases z<;>rfl
set_option maxHeartbeats 4000000 in
theorem jqZ {g:List (List NC)} (hw:Fw g) (nm:ByteArray) {i:Nat} (hi:i<g.length):y59 nm g (i:Int)=some (jbK g i):=by
 have hn:=hw.n
 have h1:=hw.nm i hi
 have h2:=hw.fr i hi
 have h3:=hw.al i hi
 have h4:=hw.ga i hi
 have h5:=hw.ca i hi
 have k0:=jdH (body:=y34 g (i:Int)) i (fun k=>nS g k 0==nS g i 0) (.inl ()) (.inr ()) (by omega) (fun k hk hp=>by
   unfold y34; simp only[Int.toNat_natCast]
   rw[if_pos (by omega),if_pos (by omega),if_pos (by omega),if_pos hp]) (fun k hk hp=>by
   unfold y34; simp only[Int.toNat_natCast]
   rw[if_pos (by omega),if_pos (by omega),if_pos (by omega),if_neg (by rw[hp]; exact Bool.false_ne_true),jbk (by omega)]) (by
   unfold y34; simp only[Int.toNat_natCast]
   rw[if_neg (by omega)])
 have k1:=jcY (body:=y11 g (i:Int)) (nL g i 2) 0 (fun x=>!inB x 0 ((g.length:Int)-1)) (.inl ()) (.inr ()) (by omega) (fun k hk hp=>by
   unfold y11; simp only[Int.toNat_natCast]
   rw[if_pos (by omega),if_pos (by omega),if_pos hk,jbk (by omega),jbs,jae,if_pos hp]) (fun k hk hp=>by
   unfold y11; simp only[Int.toNat_natCast]
   rw[if_pos (by omega),if_pos (by omega),if_pos hk,jbk (x:=(g.length:Int)-1) (by omega),jbs,jae,if_neg (by rw[hp]; exact Bool.false_ne_true),jbk (by omega)]) (by
   unfold y11; simp only[Int.toNat_natCast]
   rw[if_neg (by omega)])
 have k2:=jdH (body:=y42 g (i:Int)) (nL g i 2).length (fun k=>((nL g i 2).take k).any (·== (nL g i 2).getD k 0)) (.inl ()) (.inr ()) (by omega) (fun k hk hp=>by
   unfold y42; simp only[Int.toNat_natCast]
   rw[if_pos (by omega),if_pos (by simp only[Option.getD]; omega),if_pos (by omega),if_pos hk]
   simp only[Option.getD_some,Int.toNat_natCast,Nat.sub_zero,List.drop_zero]
   rw[jfc _ _ (by simp; omega),jae,if_pos hp]) (fun k hk hp=>by
   unfold y42; simp only[Int.toNat_natCast]
   rw[if_pos (by omega),if_pos (by simp only[Option.getD]; omega),if_pos (by omega),if_pos hk]
   simp only[Option.getD_some,Int.toNat_natCast,Nat.sub_zero,List.drop_zero]
   rw[jfc _ _ (by simp; omega),jae,if_neg (by rw[hp]; exact Bool.false_ne_true),jbk (by omega)]) (by
   unfold y42; simp only[Int.toNat_natCast]
   rw[if_neg (by omega)])
 have k3:=jcY (body:=y43 g (i:Int)) (nL g i 3) 0 (fun x=>!inB x 0 64) (.inl ()) (.inr ()) (by omega) (fun k hk hp=>by
   unfold y43; simp only[Int.toNat_natCast]
   rw[if_pos (by omega),if_pos (by omega),if_pos hk,jbs,jae,if_pos hp]) (fun k hk hp=>by
   unfold y43; simp only[Int.toNat_natCast]
   rw[if_pos (by omega),if_pos (by omega),if_pos hk,jbs,jae,if_neg (by rw[hp]; exact Bool.false_ne_true),jbk (by omega)]) (by
   unfold y43; simp only[Int.toNat_natCast]
   rw[if_neg (by omega)])
 have k4:=jcY (body:=y44 g (i:Int)) (nL g i 4) 0 (fun x=>!inB x (-4000) 4000) (.inl ()) (.inr ()) (by omega) (fun k hk hp=>by
   unfold y44; simp only[Int.toNat_natCast]
   rw[if_pos (by omega),if_pos (by omega),if_pos hk,jbs,jae,if_pos hp]) (fun k hk hp=>by
   unfold y44; simp only[Int.toNat_natCast]
   rw[if_pos (by omega),if_pos (by omega),if_pos hk,jbs,jae,if_neg (by rw[hp]; exact Bool.false_ne_true),jbk (by omega)]) (by
   unfold y44; simp only[Int.toNat_natCast]
   rw[if_neg (by omega)])
 have t4:y108 g (i:Int) ()=some (if(!inB (nI g i 5) 0 64)=true then 2 else if(!(nI g i 1==2||nI g i 5==0))=true then 2 else if(nI g i 1==3)=true then jc0 (nR g i 6)else if(((nR g i 6).length:Int)==0)=true then 0 else 10):=by
  unfold y108
  simp only[Int.toNat_natCast]
  rw[jwX _ (by omega),jbs,jae,show(nI g i 1 != 3)=!(nI g i 1==3)from rfl,show(nI g i 1 != 2)=!(nI g i 1==2)from rfl,show(nI g i 5 != 0)=!(nI g i 5==0)from rfl]
  have hz:(if((nR g i 6).length:Int)>0 then some (10:Int)else some 0)=some (if(((nR g i 6).length:Int)==0)=true then 0 else 10):=by
   by_cases h:(nR g i 6).length=0
   ·rw[if_neg (by omega),if_pos (by simp[h])]
   ·rw[if_pos (by omega),if_neg (by simpa using h)]
  rw[hz]
  generalize inB (nI g i 5) 0 64=c1
  generalize (nI g i 1==2)=c2
  generalize (nI g i 5==0)=c3
  generalize (nI g i 1==3)=c4
  cases c1<;>cases c2<;>cases c3<;>cases c4<;>rfl
 have t3:y109 g (i:Int) ()=some (if((nL g i 4).any fun x=>!inB x (-4000) 4000)=true then 2 else if(!inB (nI g i 5) 0 64)=true then 2 else if(!(nI g i 1==2||nI g i 5==0))=true then 2 else if(nI g i 1==3)=true then jc0 (nR g i 6)else if(((nR g i 6).length:Int)==0)=true then 0 else 10):=by
  unfold y109
  rw[k4,jae]
  cases (nL g i 4).any (fun x=>!inB x (-4000) 4000)with
  |true=>rfl
  |false=>exact t4
 have t2:y110 g (i:Int) ()=some (if(!jdS (nI g i 1) (nL g i 3) (nL g i 4) (nI g i 5))=true then 2 else if(nI g i 1==3)=true then jc0 (nR g i 6)else if(((nR g i 6).length:Int)==0)=true then 0 else 10):=by
  unfold y110 jdS
  rw[k3,jae]
  generalize hA:(nL g i 3).any (fun x=>!inB x 0 64)=bA
  cases bA with
  |true=>rfl
  |false =>
   refine t3.trans ?_
   generalize (nL g i 4).any (fun x=>!inB x (-4000) 4000)=bG
   generalize inB (nI g i 5) 0 64=c1
   generalize (nI g i 1==2||nI g i 5==0)=c2
   cases bG<;>cases c1<;>cases c2<;>rfl
 have t1:y111 g (i:Int) ()=some (if(!inB (nI g i 7) (-1) ((g.length:Int)-1))=true then 6 else if jhI (nL g i 2)=true then 26 else if(!jdS (nI g i 1) (nL g i 3) (nL g i 4) (nI g i 5))=true then 2 else if(nI g i 1==3)=true then jc0 (nR g i 6)else if(((nR g i 6).length:Int)==0)=true then 0 else 10):=by
  unfold y111
  simp only[Int.toNat_natCast]
  rw[jbk (by omega),jbs,jae,k2,jae]
  cases inB (nI g i 7) (-1) ((g.length:Int)-1)with
  |false=>rfl
  |true =>
   show y74 g (i:Int) (if jhI (nL g i 2)=true then .inl ()else .inr ())=_
   cases jhI (nL g i 2)with
   |true=>rfl
   |false=>exact t2
 have hsd:inB (nI g i 7) (-1) ((g.length:Int)-1)=sdB g.length (nI g i 7):=by
  unfold sdB inB
  have:((nI g i 7)==(-1:Int))=decide (nI g i 7=-1):=rfl
  rw[this]
  by_cases h:nI g i 7=-1
  ·simp[h]; omega
  ·have e:decide ((-1:Int)≤nI g i 7)=decide ((0:Int)≤nI g i 7):=by
    congr 1
    exact propext ⟨fun _=>by omega,fun _=>by omega⟩
   rw[e]; simp[h]
 rw[hsd]at t1
 have t1':((some (if jd2 g.length (nL g i 2)=true then Sum.inl ()else Sum.inr ()):Option (Unit ⊕ Unit)).bind (y29 g (i:Int)))=some (if jd2 g.length (nL g i 2)=true then 6 else if(!sdB g.length (nI g i 7))=true then 6 else if jhI (nL g i 2)=true then 26 else if(!jdS (nI g i 1) (nL g i 3) (nL g i 4) (nI g i 5))=true then 2 else if(nI g i 1==3)=true then jc0 (nR g i 6)else if(((nR g i 6).length:Int)==0)=true then 0 else 10):=by
  rw[jae]
  cases jd2 g.length (nL g i 2)with
  |true=>rfl
  |false=>exact t1
 have k1:jad (y11 g (i:Int)) big 0=some (if jd2 g.length (nL g i 2)=true then .inl ()else .inr ()):=k1
 have t0:y112 g (i:Int) ()=some (if(!inB (nI g i 1) 0 4)=true then 15 else if(!jgP (nI g i 1) (nL g i 2).length (nL g i 3).length (nL g i 4).length)=true then 10 else if jd2 g.length (nL g i 2)=true then 6 else if(!sdB g.length (nI g i 7))=true then 6 else if jhI (nL g i 2)=true then 26 else if(!jdS (nI g i 1) (nL g i 3) (nL g i 4) (nI g i 5))=true then 2 else if(nI g i 1==3)=true then jc0 (nR g i 6)else if(((nR g i 6).length:Int)==0)=true then 0 else 10):=by
  unfold y112
  simp only[Int.toNat_natCast]
  rw[k1,t1']
  simp only[jbs,jae]
  generalize (if jd2 g.length (nL g i 2)=true then(6:Int)else if(!sdB g.length (nI g i 7))=true then 6 else if jhI (nL g i 2)=true then 26 else if(!jdS (nI g i 1) (nL g i 3) (nL g i 4) (nI g i 5))=true then 2 else if(nI g i 1==3)=true then jc0 (nR g i 6)else if(((nR g i 6).length:Int)==0)=true then 0 else 10)=rest
  by_cases h0:(!inB (nI g i 1) 0 4)=true
  ·rw[if_pos h0,if_pos h0]
  ·rw[if_neg h0,if_neg h0]
   by_cases hk:nI g i 1=0
   ·have e0:(nI g i 1==0)=true:=by simp[hk]
    have e1:¬(nI g i 1==1)=true:=by simp[hk]
    rw[if_pos e0,if_neg e1,if_neg e1]
    have hs:jgP (nI g i 1) (nL g i 2).length (nL g i 3).length (nL g i 4).length=(inB ((nL g i 2).length:Int) 0 0&&(((nL g i 3).length:Int)==((nL g i 2).length:Int))&&(((nL g i 4).length:Int)==0)):=by
     unfold jgP
     rw[if_pos e0]
    rw[hs]
    exact jt4 _ _ _ _
   ·have e0:¬(nI g i 1==0)=true:=by simpa using hk
    rw[if_neg e0]
    by_cases hk1:(nI g i 1==1)=true
    ·rw[if_pos hk1,if_pos hk1]
     have hs:jgP (nI g i 1) (nL g i 2).length (nL g i 3).length (nL g i 4).length=(inB ((nL g i 2).length:Int) 1 6&&(((nL g i 3).length:Int)==((nL g i 2).length:Int))&&(((nL g i 4).length:Int)==((nL g i 2).length:Int))):=by
      unfold jgP
      rw[if_neg e0,if_pos hk1]
     rw[hs]
     exact jt4 _ _ _ _
    ·rw[if_neg hk1,if_neg hk1]
     have hs:jgP (nI g i 1) (nL g i 2).length (nL g i 3).length (nL g i 4).length=(inB ((nL g i 2).length:Int) 1 1&&(((nL g i 3).length:Int)==((nL g i 2).length:Int))&&(((nL g i 4).length:Int)==0)):=by
      unfold jgP
      rw[if_neg e0,if_neg hk1]
     rw[hs]
     exact jt4 _ _ _ _
 unfold y59
 rw[if_pos (by omega),if_pos (by simpa using hi)]
 simp only[Int.toNat_natCast]
 rw[jqW h1,jae,k0,jae]
 unfold jbK
 rw[show(ByteArray.mk #[115,116,97,110,100])=jkr from rfl]
 cases jeH (nS g i 0)with
 |false=>rfl
 |true =>
  have ht:¬((!true)=true):=by simp
  by_cases hs:(nS g i 0==jkr)=true
  ·rw[if_neg ht,if_pos hs,if_neg ht,if_pos hs]
  ·rw[if_neg ht,if_neg hs,if_neg ht,if_neg hs]
   show y75 g (i:Int) (if exB g i=true then .inl ()else .inr ())=_
   cases exB g i with
   |true=>rfl
   |false=>exact t0
end Go.Sh
end

section
namespace Go.Sh
open Go Go.Proofs Go.RowKit Go.Sx
def cg (nm:ByteArray) (g:List (List NC)):Int × Int :=
 if(!jeH nm)=true then(0,4)
 else if(g.length:Int)>24 then(0,8)
 else match(List.range g.length).findIdx? (fun i=>jbK g i != 0)with
  |some i=>((i:Int),jbK g i)
  |none=>(0,0)
theorem jvy (a b:Int):je6 [a,b]=some (if(a != 0)=true then a else b):=by
 unfold je6
 have key:=jbZ (body:=y71 [a,b]) [a,b] 0 (fun x=>x != 0) (fun i=>.inl ([a,b].getD i 0)) (.inr ()) (by simp) (fun i hi hp=>by
   unfold y71; simp only[Int.toNat_natCast]
   rw[if_pos (by omega),if_pos (by omega),if_pos hi,if_pos hp]) (fun i hi hp=>by
   unfold y71; simp only[Int.toNat_natCast]
   have hi2:i<2:=hi
   rw[if_pos (by omega),if_pos (by omega),if_pos hi,if_neg (by rw[hp]; exact Bool.false_ne_true),jbk (by omega)]) (by
   unfold y71; simp only[Int.toNat_natCast]
   rw[if_neg (by omega)])
 rw[key]
 cases ha:(a != 0)with
 |true=>simp[List.findIdx?_cons,ha]; rfl
 |false =>
  cases hb:(b != 0)with
  |true=>simp[List.findIdx?_cons,ha,hb]; rfl
  |false =>
   have:b=0:=by simpa using hb
   simp[List.findIdx?_cons,ha,hb,this]; rfl
theorem jnm {n:Nat} {P:Nat→Bool} {i:Nat} (h:(List.range n).findIdx? P=some i):i<n:=by
 rw[List.findIdx?_eq_some_iff_getElem]at h
 obtain⟨h,_⟩:=h
 simpa using h
theorem jhf {g:List (List NC)} (hw:Fw g) {nm:ByteArray} (hs:nm.size<1000):y12 nm g=some (cg nm g):=by
 have hn:=hw.n
 unfold y12 cg
 rw[jqX hs]
 simp only[jae,jlG]
 rw[jvy,jae]
 cases jeH nm with
 |false=>rfl
 |true =>
  by_cases h24:(g.length:Int)>24
  ·rw[if_neg (by simp:¬(!true)=true),if_pos h24]
   have e:decide ((g.length:Int)≤24)=false:=by simp; omega
   rw[e]; rfl
  ·rw[if_neg (by simp:¬(!true)=true),if_neg h24]
   have e:decide ((g.length:Int)≤24)=true:=by simp; omega
   rw[e]
   show Option.bind (jad (y23 nm g) big 0) y65=_
   have key:=jbZ (body:=y23 nm g) (List.range g.length) 0 (fun i=>jbK g i != 0) (fun i=>.inl ((i:Int),jbK g i)) (.inr ()) (by simp; omega) (fun i hi hp=>by
     have hi:i<g.length:=by simpa using hi
     have hr:(List.range g.length).getD i 0=i:=by simp[List.getD,hi]
     rw[hr]at hp
     unfold y23
     rw[if_pos (by omega),jqY hw nm hi,jae,if_pos hp]) (fun i hi hp=>by
     have hi:i<g.length:=by simpa using hi
     have hr:(List.range g.length).getD i 0=i:=by simp[List.getD,hi]
     rw[hr]at hp
     unfold y23
     rw[if_pos (by omega),jqY hw nm hi,jae,if_neg (by rw[hp]; exact Bool.false_ne_true),jbk (by omega)]) (by
     unfold y23
     rw[if_neg (by simp)])
   rw[key]
   cases (List.range g.length).findIdx? (fun i=>jbK g i != 0)<;>rfl
theorem joJ {g:List (List NC)} (hw:Fw g) {nm:ByteArray} (hs:nm.size<1000):y30 nm g=some (cg nm g):=by
 have hn:=hw.n
 unfold y30 cg
 rw[jqW hs,jae]
 cases jeH nm with
 |false=>rfl
 |true =>
  have ht:¬((!true)=true):=by simp
  rw[if_neg ht,if_neg ht]
  by_cases h24:(g.length:Int)>24
  ·rw[if_pos h24,if_pos h24]
  ·rw[if_neg h24,if_neg h24]
   have key:=jbZ (body:=y20 nm g) (List.range g.length) 0 (fun i=>jbK g i != 0) (fun i=>.inl ((i:Int),jbK g i)) (.inr ()) (by simp; omega) (fun i hi hp=>by
     have hi:i<g.length:=by simpa using hi
     have hr:(List.range g.length).getD i 0=i:=by simp[List.getD,hi]
     rw[hr]at hp
     unfold y20
     rw[if_pos (by omega),jqZ hw nm hi,jae,if_pos hp]) (fun i hi hp=>by
     have hi:i<g.length:=by simpa using hi
     have hr:(List.range g.length).getD i 0=i:=by simp[List.getD,hi]
     rw[hr]at hp
     unfold y20
     rw[if_pos (by omega),jqZ hw nm hi,jae,if_neg (by rw[hp]; exact Bool.false_ne_true),jbk (by omega)]) (by
     unfold y20
     rw[if_neg (by simp)])
   rw[key]
   cases (List.range g.length).findIdx? (fun i=>jbK g i != 0)<;>rfl
def rowU (g:List (List NC)) (i:Nat):List NC:=[.d (.s (nS g i 0)),.d (.i .i64 (nI g i 1)),.r (.ints .i64 (nL g i 2)),.r (.ints .i64 (nL g i 3)),.r (.ints .i64 (nL g i 4)),.d (.i .i64 (nI g i 5)),.r (.recs 5 (nR g i 6)),.d (.i .i64 (nI g i 7))]
def cpU (g:List (List NC)):List (List NC):=(List.range g.length).map (rowU g)
theorem jyj {g:List (List NC)} (hw:Fw g) (nm:ByteArray):y66 nm g=some (nm,cpU g):=by
 have hn:=hw.n
 unfold y66
 have key:=jfH (body:=y58 g) (fun k=>((k:Int),(List.range k).map (rowU g))) (y:=cpU g) (k:=g.length) (fun i hi=>by
   have h2:=hw.fr i hi
   have h3:=hw.al i hi
   have h4:=hw.ga i hi
   have h5:=hw.ca i hi
   unfold y58
   simp only[Int.toNat_natCast]
   rw[if_pos (by omega),if_pos (by omega),if_pos hi,jd1 _ (by omega),jd1 _ (by omega),jd1 _ (by omega)]
   simp only[jae]
   rw[if_pos (by omega),if_pos (by simp only[List.length_map,List.length_range,List.length_cons,List.length_nil]; omega),jbk (by omega),List.range_succ,List.map_append]
   rfl) (by
   unfold y58
   rw[if_neg (by simp)]
   rfl) (by omega)
 have key:jad (y58 g) big ((0:Int),[])=some (cpU g):=key
 rw[key]
 rfl
theorem jfL (g:List (List NC)):(cpU g).length=g.length:=by simp[cpU]
theorem jfM {g:List (List NC)} {i:Nat} (hi:i<g.length):(cpU g).getD i []=rowU g i:=by simp[cpU,List.getD,hi]
theorem cp_S {g:List (List NC)} {i:Nat} (hi:i<g.length):nS (cpU g) i 0=nS g i 0:=by
 show NC.toS (((cpU g).getD i []).getD 0 _)=_
 rw[jfM hi]; rfl
theorem cp_I {g:List (List NC)} {i:Nat} (hi:i<g.length):nI (cpU g) i 1=nI g i 1∧nI (cpU g) i 5=nI g i 5∧nI (cpU g) i 7=nI g i 7:=by
 refine⟨?_,?_,?_⟩
 ·show NC.toI (((cpU g).getD i []).getD 1 _)=_
  rw[jfM hi]; rfl
 ·show NC.toI (((cpU g).getD i []).getD 5 _)=_
  rw[jfM hi]; rfl
 ·show NC.toI (((cpU g).getD i []).getD 7 _)=_
  rw[jfM hi]; rfl
theorem jmb {g:List (List NC)} {i:Nat} (hi:i<g.length):nL (cpU g) i 2=nL g i 2∧nL (cpU g) i 3=nL g i 3∧nL (cpU g) i 4=nL g i 4:=by
 refine⟨?_,?_,?_⟩
 ·show NC.toInts (((cpU g).getD i []).getD 2 _)=_
  rw[jfM hi]; rfl
 ·show NC.toInts (((cpU g).getD i []).getD 3 _)=_
  rw[jfM hi]; rfl
 ·show NC.toInts (((cpU g).getD i []).getD 4 _)=_
  rw[jfM hi]; rfl
theorem cp_R {g:List (List NC)} {i:Nat} (hi:i<g.length):nR (cpU g) i 6=nR g i 6:=by
 show NC.toRecs (((cpU g).getD i []).getD 6 _)=_
 rw[jfM hi]; rfl
theorem cp_fw {g:List (List NC)} (hw:Fw g):Fw (cpU g):=by
 constructor
 ·rw[jfL]; exact hw.n
 all_goals intro i hi; rw[jfL]at hi
 ·rw[cp_S hi]; exact hw.nm i hi
 ·rw[(jmb hi).1]; exact hw.fr i hi
 ·rw[(jmb hi).2.1]; exact hw.al i hi
 ·rw[(jmb hi).2.2]; exact hw.ga i hi
 ·rw[cp_R hi]; exact hw.ca i hi
theorem jyY {g:List (List NC)} {i:Nat} (hi:i<g.length):jbK (cpU g) i=jbK g i:=by
 have hex:exB (cpU g) i=exB g i:=by
  unfold exB
  rw[cp_S hi]
  have:∀l:List Nat,(∀k∈l,k<i)→(l.any fun k=>nS (cpU g) k 0==nS g i 0)=l.any fun k=>nS g k 0==nS g i 0:=by
   intro l
   induction l with
   |nil=>intro _; rfl
   |cons x r ih =>
    intro h
    have hx:=h x List.mem_cons_self
    rw[List.any_cons,List.any_cons,cp_S (by omega),ih fun k hk=>h k (List.mem_cons_of_mem _ hk)]
  exact this _ fun k hk=>List.mem_range.1 hk
 unfold jbK
 rw[cp_S hi,hex,(cp_I hi).1,(cp_I hi).2.1,(cp_I hi).2.2,(jmb hi).1,(jmb hi).2.1,(jmb hi).2.2,cp_R hi,jfL]
def cgM (e:Nat→Int) (o:Option Nat):Int × Int:=match o with
 |some i=>((i:Int),e i)
 |none=>(0,0)
def cgF (b:Bool) (n:Nat) (e:Nat→Int):Int × Int:=if(!b)=true then(0,4)else if(n:Int)>24 then(0,8)else cgM e ((List.range n).findIdx? fun i=>e i != 0)
theorem jt7 (e e':Nat→Int) (n:Nat) (hn:∀i,i<n→e i=e' i) (l:List Nat):(∀i∈l,i<n)→l.findIdx? (fun i=>e i != 0)=l.findIdx? (fun i=>e' i != 0):=by
 induction l with
 |nil=>intro _; rfl
 |cons x r ih =>
  intro h
  rw[List.findIdx?_cons,List.findIdx?_cons,hn x (h x List.mem_cons_self),ih fun i hi=>h i (List.mem_cons_of_mem _ hi)]
theorem jvz (b:Bool) (n:Nat) (e e':Nat→Int) (hn:∀i,i<n→e i=e' i):cgF b n e=cgF b n e':=by
 unfold cgF
 rw[jt7 e e' n hn _ fun i hi=>List.mem_range.1 hi]
 have hm:cgM e ((List.range n).findIdx? fun i=>e' i != 0)=cgM e' ((List.range n).findIdx? fun i=>e' i != 0):=by
  cases h:(List.range n).findIdx? (fun i=>e' i != 0)with
  |none=>rfl
  |some i =>
   show((i:Int),e i)=((i:Int),e' i)
   rw[hn i (jnm h)]
 rw[hm]
theorem jks (nm:ByteArray) (g:List (List NC)):cg nm g=cgF (jeH nm) g.length (jbK g):=by
 unfold cg cgF cgM
 rfl
theorem jxS (nm:ByteArray) (g:List (List NC)):cg nm (cpU g)=cg nm g:=by
 rw[jks,jks,jfL]
 exact jvz _ _ _ _ fun i hi=>jyY hi
theorem jvA (nm:ByteArray) (g:List (List NC)):jem nm g=some false∨(jem nm g=some true∧Fw g∧nm.size<1000):=by
 unfold jem
 by_cases h0:((nm.size:Nat):Int)>20
 ·rw[if_pos h0]; exact .inl rfl
 rw[if_neg h0]
 have loop:g.length≤26→(Option.bind (jad (y26 g) big 0) y47=some false∨(Option.bind (jad (y26 g) big 0) y47=some true∧Fw g∧nm.size<1000)):=by
  intro h26
  let P:Nat→Bool:=fun i=>decide ((((nS g i 0).size:Nat):Int)>20)||decide (((nL g i 2).length:Int)>8)||decide (((nL g i 3).length:Int)>8)||decide (((nL g i 4).length:Int)>8)||decide (((nR g i 6).length:Int)>8)
  have key:=jdH (body:=y26 g) g.length P (.inl ()) (.inr ()) (by omega) (fun i hi hp=>by
    unfold y26; simp only[Int.toNat_natCast]
    rw[if_pos (by omega),if_pos (by omega),if_pos hi]
    simp only[P,Bool.or_eq_true,decide_eq_true_eq]at hp
    repeat' split
    all_goals first|rfl|(exfalso; omega)) (fun i hi hp=>by
    unfold y26; simp only[Int.toNat_natCast]
    rw[if_pos (by omega),if_pos (by omega),if_pos hi]
    simp only[P,Bool.or_eq_false_iff,decide_eq_false_iff_not]at hp
    rw[if_neg hp.1.1.1.1,if_neg hp.1.1.1.2,if_neg hp.1.1.2,if_neg hp.1.2,if_neg hp.2,jbk (by omega)]) (by
    unfold y26; simp only[Int.toNat_natCast]
    rw[if_neg (by omega)])
  rw[key]
  cases hP:(List.range g.length).any P with
  |true=>exact .inl rfl
  |false =>
   refine .inr ⟨rfl,?_,by omega⟩
   have hall:∀i,i<g.length→P i=false:=fun i hi=>by
    have:=List.any_eq_false.1 hP i (by simpa using hi)
    simpa using this
   have hq:∀i,i<g.length→(nS g i 0).size≤20∧(nL g i 2).length≤8∧(nL g i 3).length≤8∧(nL g i 4).length≤8∧(nR g i 6).length≤8:=fun i hi=>by
    have hp:=hall i hi
    simp only[P,Bool.or_eq_false_iff,decide_eq_false_iff_not]at hp
    omega
   exact⟨by omega,fun i hi=>by have:=hq i hi; omega,fun i hi=>by have:=hq i hi; omega,fun i hi=>by have:=hq i hi; omega,fun i hi=>by have:=hq i hi; omega,fun i hi=>by have:=hq i hi; omega⟩
 split
 ·split
  ·exact .inl rfl
  ·split
   ·exact .inl rfl
   ·exact loop (by omega)
 ·split
  ·exact .inl rfl
  ·exact loop (by omega)
end Go.Sh
end

section
namespace Go.Sx09
open Go Go.Proofs Go.RowKit Go.Shelf Go.Sx
attribute [local go_sem] Oper.semAt_some
structure KpS (K:Nat→Prop) (A C:World):Prop where
 size:A.heap.size≤C.heap.size
 same:∀k o,K k→A.heap[k]?=some o→o.isCells=true→C.heap[k]?=some o
theorem kps_t {K:Nat→Prop} {A B C:World} (h:KpS K A B) (k:KpS K B C):KpS K A C:=⟨Nat.le_trans h.size k.size,fun x o hx ho hc=>k.same x o hx (h.same x o hx ho hc) hc⟩
theorem kps_b {K:Nat→Prop} {w:World} (W:World) (l:Nat) (o o':Obj) (_:w.heap.size≤l) (h:W.heap[l]?=some o) (hc:o.isCells=false) (_:o.isWalk=false):KpS K W (W.putObj l o') :=
 ⟨by simp,fun k u _ hk hu=>by
  have hne:l≠k:=fun e=>by subst e; rw[h]at hk; cases hk; rw[hc]at hu; cases hu
  exact(World.putObj_heap_other (fun e=>hne e.symm)).trans hk⟩
theorem jvB {K:Nat→Prop} {A B:World} (h:Below A.heap.size A B):KpS K A B:=⟨h.size,fun k o _ hk _=>(h.block k (Array.getElem?_eq_some_iff.1 hk).1).trans hk⟩
def needL (L:List Int) (st:Int):List Int:=if st=-1 then L else L++[st]
def stN (y:Value) (L:List Int) (v:List Value) (st:Int) (k:Nat):St :=
 ⟨[(18,vi .i64 k),(17,vi .i64 L.length),(16,.w (.c (.o 0))),(4,.w (.c (.p 1 0 1 0))),(0,.w (.c (.d (.v y))))],[(0,.ext (.ints .i64 L)),(1,.ebox (v.map (fun x=>C.d (.v x))++[.d (.i .i64 st)]))],2⟩
def stNc (y:Value) (L:List Int) (v:List Value) (st:Int) (k:Nat):St:=⟨(19,vb (decide ((k:Int)<L.length)))::(stN y L v st k).tm,(stN y L v st k).hp,2⟩
def stNd (y:Value) (L:List Int) (v:List Value) (st:Int) (k:Nat):St:=⟨(6,vi .i64 (L.getD k 0))::(stN y L v st k).tm,(stN y L v st k).hp,2⟩
def stNe (y:Value) (L:List Int) (v:List Value) (st:Int) (k:Nat):St:=⟨(29,vb (st != -1))::(stN y L v st k).tm,(stN y L v st k).hp,2⟩
abbrev pn (c:Code) (st st2:St):Prop:=sx Tryz.prog (fun _=>none) 34 2 0 (fun _ _ _=>none) (fun _ _ _=>False) c 0 [] st (fun e st'=>match e with | .normal=>Le 2 st' st2|_=>False)
section
variable (y:Value) (L:List Int) (v0 v1 v2 v3 v4 v5 v6:Value) (st:Int) (k:Nat)
theorem pn1:pn (sub [1,0,1,0,0,0] (bodyOf Tryz.f132)) (stN y L [v0,v1,v2,v3,v4,v5,v6] st k) (stNc y L [v0,v1,v2,v3,v4,v5,v6] st k):=by
 refine Eq.mp (by kernel_rfl:(Ob ((decide ((k:Int)<L.length))=decide ((k:Int)<L.length))∧Ob ((k:Int)=k)∧Ob ((L.length:Int)=L.length)∧Ob ((0:Nat)=0)∧Ob (y=y)∧Ob (L=L)∧Ob (v0=v0)∧Ob (v1=v1)∧Ob (v2=v2)∧Ob (v3=v3)∧Ob (v4=v4)∧Ob (v5=v5)∧Ob (v6=v6)∧Ob (st=st)∧True)=_) ?_
 exact⟨⟨rfl⟩,⟨rfl⟩,⟨rfl⟩,⟨rfl⟩,⟨rfl⟩,⟨rfl⟩,⟨rfl⟩,⟨rfl⟩,⟨rfl⟩,⟨rfl⟩,⟨rfl⟩,⟨rfl⟩,⟨rfl⟩,⟨rfl⟩,trivial⟩
theorem pn2 (hk:k<L.length):pn (sub [1,0,1,0,0,1,1,0,0,0] (bodyOf Tryz.f132)) (stNc y L [v0,v1,v2,v3,v4,v5,v6] st k) (stNd y L [v0,v1,v2,v3,v4,v5,v6] st k):=by
 refine Eq.mp (by kernel_rfl:(Ob (0≤(k:Int)∧(k:Int)<(L.length:Int))∧Ob ((k:Int).toNat<L.length)∧Ob (L.getD (k:Int).toNat 0=L.getD k 0)∧Ob ((k:Int)=k)∧Ob ((L.length:Int)=L.length)∧Ob ((0:Nat)=0)∧Ob (y=y)∧Ob (L=L)∧Ob (v0=v0)∧Ob (v1=v1)∧Ob (v2=v2)∧Ob (v3=v3)∧Ob (v4=v4)∧Ob (v5=v5)∧Ob (v6=v6)∧Ob (st=st)∧True)=_) ?_
 exact⟨⟨by omega⟩,⟨by omega⟩,⟨rfl⟩,⟨rfl⟩,⟨rfl⟩,⟨rfl⟩,⟨rfl⟩,⟨rfl⟩,⟨rfl⟩,⟨rfl⟩,⟨rfl⟩,⟨rfl⟩,⟨rfl⟩,⟨rfl⟩,⟨rfl⟩,⟨rfl⟩,trivial⟩
theorem pn3 (hk:(k:Int)+1≤9223372036854775807):pn (sub [1,0,1,0,0,1,1,1] (bodyOf Tryz.f132)) (stN y L [v0,v1,v2,v3,v4,v5,v6] st k) (stN y L [v0,v1,v2,v3,v4,v5,v6] st (k+1)):=by
 refine Eq.mp (by kernel_rfl:(Ob (IntKind.i64.wrap ((k:Int)+1)=((k+1:Nat):Int))∧Ob ((L.length:Int)=L.length)∧Ob ((0:Nat)=0)∧Ob (y=y)∧Ob (L=L)∧Ob (v0=v0)∧Ob (v1=v1)∧Ob (v2=v2)∧Ob (v3=v3)∧Ob (v4=v4)∧Ob (v5=v5)∧Ob (v6=v6)∧Ob (st=st)∧True)=_) ?_
 refine⟨⟨?_⟩,⟨rfl⟩,⟨rfl⟩,⟨rfl⟩,⟨rfl⟩,⟨rfl⟩,⟨rfl⟩,⟨rfl⟩,⟨rfl⟩,⟨rfl⟩,⟨rfl⟩,⟨rfl⟩,⟨rfl⟩,trivial⟩
 rw[IntWalk.i64_in _ (by omega)]
 omega
theorem pn4:pn (sub [1,1,0] (bodyOf Tryz.f132)) (stN y L [v0,v1,v2,v3,v4,v5,v6] st k) (stNe y L [v0,v1,v2,v3,v4,v5,v6] st k):=by
 refine Eq.mp (by kernel_rfl:(Ob True∧Ob ((st != (-1:Int))=(st != (-1:Int)))∧Ob ((k:Int)=k)∧Ob ((L.length:Int)=L.length)∧Ob ((0:Nat)=0)∧Ob (y=y)∧Ob (L=L)∧Ob (v0=v0)∧Ob (v1=v1)∧Ob (v2=v2)∧Ob (v3=v3)∧Ob (v4=v4)∧Ob (v5=v5)∧Ob (v6=v6)∧Ob (st=st)∧True)=_) ?_
 exact⟨⟨trivial⟩,⟨rfl⟩,⟨rfl⟩,⟨rfl⟩,⟨rfl⟩,⟨rfl⟩,⟨rfl⟩,⟨rfl⟩,⟨rfl⟩,⟨rfl⟩,⟨rfl⟩,⟨rfl⟩,⟨rfl⟩,⟨rfl⟩,⟨rfl⟩,trivial⟩
end
theorem jgr {ρ:Env} {B:Kd} {N n0:Nat} {st:St} {a:Act} {w:World} {t:Nat} {v:V} (h:Rel ρ B N n0 st a w) (hv:v.lt st.nx) (hlt:t<N):Rel ρ B N n0 ⟨(t,v)::st.tm,st.hp,st.nx⟩ (a.put (some t) (v.val ρ)) w:=by
 refine⟨fun x u hx=>?_,by rw[jbF]; exact h.size,by rw[jcT]; exact h.defers,h.heap,h.le,h.n0⟩
 simp only[jaN]at hx
 rw[jbU (fun y hy=>by cases hy; rw[h.size]; exact hlt)]
 split at hx
 ·rename_i e
  subst e
  cases hx
  exact⟨hv,by rw[if_pos rfl]⟩
 ·rename_i e
  rw[if_neg (fun e'=>e (Option.some.inj e'))]
  exact h.tm x u hx
theorem jq0 {o:Oper} {v:Value} {n:Nat} {a:Act} {w:World} {K:Act→World→Prop} {Q:Exit→Act→World→Prop} (h:(execOp a.eval o).run Tryz.prog w=.ok (.value v) w) (hK:K (a.put o.dst v) w):o.wpIn Fence.wide n Tryz.prog a w K Q:=by
 refine⟨fun _ _=>trivial,?_⟩
 rw[Fence.wide_round,Oper.semAt_none,h]
 exact hK
theorem jdI {o:Oper} {t n N n0:Nat} {ob:Prop} {v:V} {ρ:Env} {B:Kd} {st:St} {a:Act} {w:World} {K:Act→World→Prop} {Q:Exit→Act→World→Prop} (hr:Rel ρ B N n0 st a w) (hs:jbg Tryz.prog o.op (jcr st) st.hp=some (ob,v)) (hob:ob) (hd:o.dst=some t) (ht:t<N)
  (hK:∀a',Rel ρ B N n0 ⟨(t,v)::st.tm,st.hp,st.nx⟩ a' w→K a' w):o.wpIn Fence.wide n Tryz.prog a w K Q:=by
 obtain⟨B',_,hh⟩:=hr.heap
 have h1:=jfx hh hr.reads hs hob
 refine jq0 h1.1 ?_
 rw[hd]
 exact hK _ (jgr hr h1.2 ht)
theorem js3 {ρ:Env} {B:Kd} {N n0:Nat} {s s0:St} {a:Act} {w:World} (h:Rel ρ B N n0 s0 a w) (ht:∀t v,jaN s.tm t=some v→jaN s0.tm t=some v) (hh:s.hp=s0.hp) (hn:s.nx=s0.nx):Rel ρ B N n0 s a w :=
 ⟨fun t v hv=>by rw[hn]; exact h.tm t v (ht t v hv),h.size,h.defers,by rw[hh,hn]; exact h.heap,h.le,by rw[hn]; exact h.n0⟩
structure BetN (K:Nat→Prop) (y:Value) (L:List Int) (v:List Value) (st:Int) (k:Nat) (a:Act) (w:World):Prop where
 rel:∃ρ,Rel ρ (kd fun x=>x<w.heap.size) 34 2 (stN y L v st k) a w∧(∀ad n cap,ρ 0=.slice (some ad) n cap→0<n→K ad.block)∧∀b o,ρ 1=.pointer (some ⟨b,o,none⟩)→K b
theorem jk4 {K:Nat→Prop} {ρ:Env} {B:Kd} {L:List Int} {v:List Value} {st:Int} {a:Act} {w w':World} {s:St} (h:Rel ρ B 34 2 s a w) (hs:s.hp=[(0,.ext (.ints .i64 L)),(1,.ebox (v.map (fun x=>C.d (.v x))++[.d (.i .i64 st)]))]) (h0:∀ad n cap,ρ 0=.slice (some ad) n cap→0<n→K ad.block) (h1:∀b o,ρ 1=.pointer (some ⟨b,o,none⟩)→K b) (hk:KpS K w w') :
  Rel ρ (kd fun x=>x<w'.heap.size) 34 2 s a w':=by
 obtain⟨B',_,hh⟩:=h.heap
 have keep:∀{b:Nat} {off:Nat} {u:Value},K b→w.cell? ⟨b,off,none⟩=some u→w'.cell? ⟨b,off,none⟩=some u:=fun {b off u} hK hc=>by
  obtain⟨o,ho,hoc⟩:=cells_of_cell hc
  have h2:=hk.same _ o hK ho hoc
  exact(World.cell?_of_block (w:=w) (w':=w') (a:=⟨b,off,none⟩) (h2.trans (show w.heap[b]?=some o from ho).symm)).trans hc
 refine⟨h.tm,h.size,h.defers,⟨kd fun x=>x<w'.heap.size,Grow.refl _ _ _ _,⟨fun x o hf=>?_,fun x o x' o' b hf hf' hne hb=>?_,jgh⟩⟩,fun k hk=>jbS.1 hk,h.n0⟩
 ·have hx:=hh.ok x o hf
  refine⟨hx.1,hx.2.1,?_⟩
  simp only[hs,find]at hf
  split at hf
  ·rename_i e; subst e; cases hf
   obtain⟨⟨ad,cap,hv,hc,hcells⟩,ho⟩:=hx.2.2
   have hrow:jaO w' (ρ 0) (.ints .i64 L):=by
    refine⟨ad,cap,hv,hc,fun hn=>?_⟩
    obtain⟨b,off,hab,hxc⟩:=hcells hn
    subst hab
    exact⟨b,off,rfl,fun j z hj=>keep (h0 _ _ _ hv hn) (hxc j z hj)⟩
   exact⟨hrow,hrow.lt (Nat.lt_succ_self 0)⟩
  ·split at hf
   ·rename_i e; subst e; cases hf
    obtain⟨b,off,hv,hB,hcells⟩:=hx.2.2
    have hK:=h1 b off hv
    refine⟨b,off,hv,?_,fun j c hj=>keep hK (hcells j c hj)⟩
    have hc0:=keep hK (hcells v.length (.d (.i .i64 st)) (by rw[List.getElem?_append_right (by simp)]; simp))
    exact World.block_lt_of_cell? w' _ hc0
   ·cases hf
 ·simp only[hs,find]at hf
  split at hf
  ·cases hf; cases hb
  ·split at hf
   ·cases hf; cases hb
   ·cases hf
theorem jkt {K:Nat→Prop} {A B:World} (h:A.grownBy B none):KpS K A B:=⟨h.size,fun k o _ hk _=>(h.block k (Array.getElem?_eq_some_iff.1 hk).1 (fun e=>by cases e)).trans hk⟩
theorem joK {l:Nat} {fn tmps assign body:_} {x:Value} {W:World} {a:Act} {s q ty:Nat} (hs:a.eval (.tmp s)=.func (.yield l) #[] #[]) (hq:a.eval (.tmp q)=x)
  (hy:(Instr.yield l #[x]).run Tryz.prog W=.ok (.round l fn tmps assign body) W) (o:Oper) (ho:o.op=.call { callee:=.value (.tmp s),args:=#[.tmp q],argTypes:=#[ty] }) :
  ((o.semAt Fence.wide.round a.eval).run Tryz.prog W)=.ok (.round l fn tmps assign body) W:=by
 rw[Fence.wide_round,Oper.semAt_none]
 unfold execOp
 simp only[ho,resolve,hs,Deferred.ofValue,Sem.run_bind,Sem.run_pure,Result.andThen_ok,invoke,List.map_toArray,List.map_cons,List.map_nil,hq]
 exact hy
theorem jvC {α:Type} {enc:α→Int} {A:List α} {L:List Int} {st:Int} (hA:A.map enc=needL L st) {k:Nat} (hk:k<L.length):∃h:k<A.length,enc A[k]=L.getD k 0:=by
 have hlen:A.length=(needL L st).length:=by rw[←hA]; simp
 have h1:k<(needL L st).length:=by
  unfold needL
  split
  ·exact hk
  ·simp; omega
 refine⟨by omega,?_⟩
 have h2:(A.map enc)[k]?=(needL L st)[k]?:=by rw[hA]
 rw[List.getElem?_map,List.getElem?_eq_getElem (by omega)]at h2
 have h3:(needL L st)[k]?=L[k]?:=by
  unfold needL
  split
  ·rfl
  ·rw[List.getElem?_append_left hk]
 rw[h3,List.getElem?_eq_getElem hk]at h2
 simp only[Option.map_some,Option.some.injEq]at h2
 rw[h2]
 simp[List.getD,List.getElem?_eq_getElem hk]
set_option maxHeartbeats 2000000 in
theorem jt9 (n l:Nat) (K:Nat→Prop) (L:List Int) (v0 v1 v2 v3 v4 v5 v6:Value) (st:Int) (hL:(L.length:Int)<9223372036854775807) {α:Type} (enc:α→Int) (A:List α) (hA:A.map enc=needL L st) (J Jx:List α→World→Prop)
  (hY:∀(k:Nat) (h:k<A.length) W,J (A.take k) W→YieldAt Fence.wide (n-1) Tryz.prog l #[.int .i64 (enc A[k])] W fun e W' =>
   (e=.returned (.bool true)∧J (A.take (k+1)) W'∧KpS K W W')∨(e=.returned (.bool false)∧Jx (A.take (k+1)) W'))
  (hJ:∀A B pre,J pre A→A.grownBy B none→J pre B) (a:Act) (w:World) (hb:BetN K (.func (.yield l) #[] #[]) L [v0,v1,v2,v3,v4,v5,v6] st 0 a w) (hj0:J [] w)
  (R:World→Prop) (hR:∀k W,k≤A.length→Jx (A.take k) W→R W) (Q:Act→World→Prop) (hQ:∀a w,BetN K (.func (.yield l) #[] #[]) L [v0,v1,v2,v3,v4,v5,v6] st L.length a w→J (A.take L.length) w→Q a w) :
  (sub [1,0,1] (bodyOf Tryz.f132)).wpIn Fence.wide n Tryz.prog (Exit.then Q (bodyPost Tryz.prog Tryz.f132 fun e W'=>(∃v,e=.returned v)∧R W')) a w:=by
 refine wpIn_block (wpIn_loop (fun a w=>∃k,k≤L.length∧BetN K (.func (.yield l) #[] #[]) L [v0,v1,v2,v3,v4,v5,v6] st k a w∧J (A.take k) w) (fun a _=>L.length-(intOf (a.tmps.getD 18 undef)).toNat) ⟨0,by omega,hb,hj0⟩ ?_)
 rintro a w ⟨k,hk,⟨ρ,hr,hg0,hg1⟩,hj⟩
 have hmu:(intOf (a.tmps.getD 18 undef)).toNat=k:=by
  rw[(hr.tm 18 _ rfl).2]
  simp[intOf]
 rw[hmu]
 refine wpIn_seq (wpIn_wide.2 (wp_mono (ji6 hr (pn1 _ L v0 v1 v2 v3 v4 v5 v6 st k)) ?_))
 rintro e a1 w1 ⟨rfl,hw1,ρ1,hr1,hag1⟩
 have hj1:=hJ _ _ _ hj hw1
 have hc:a1.eval (.tmp 19)=.bool (decide ((k:Int)<L.length)):=(hr1.tm 19 _ rfl).2
 by_cases hlt:k<L.length
 ·refine wpIn_seq (wpIn_cond_true (by rw[hc,decide_eq_true (by omega)]) (wpIn_skip ?_))
  have hg0a:∀ad n cap,ρ1 0=.slice (some ad) n cap→0<n→K ad.block:=fun ad n cap h=>hg0 ad n cap (by rw[←hag1 0 (by decide)]; exact h)
  have hg1a:∀b o,ρ1 1=.pointer (some ⟨b,o,none⟩)→K b:=fun b o h=>hg1 b o (by rw[←hag1 1 (by decide)]; exact h)
  have hr1b:Rel ρ1 (kd fun x=>x<w1.heap.size) 34 2 (stNc (.func (.yield l) #[] #[]) L [v0,v1,v2,v3,v4,v5,v6] st k) a1 w1:=jk4 hr1 rfl hg0a hg1a (jkt (World.grownBy.refl w1 none))
  refine wpIn_seq (wpIn_block (wpIn_seq (wpIn_wide.2 (wp_mono (ji6 hr1b (pn2 _ L v0 v1 v2 v3 v4 v5 v6 st k hlt)) ?_))))
  rintro e a2 w2 ⟨rfl,hw2,ρ2,hr2,hag2⟩
  have hj2:=hJ _ _ _ hj1 hw2
  obtain⟨hkA,henc⟩:=jvC hA hlt
  obtain⟨fn,tmps,assign,body,hy,hRd⟩:=hY k hkA w2 hj2
  rw[henc]at hy
  refine wpIn_seq (wpIn_region_list ?_)
  refine wpListIn_plain rfl fun K2 hK2=>jdI (t:=22) hr2 rfl trivial rfl (by decide) fun a3 hr3=>hK2 _ _ ?_
  refine wpListIn_plain rfl fun K2 hK2=>jdI (t:=23) hr3 rfl trivial rfl (by decide) fun a4 hr4=>hK2 _ _ ?_
  have g22:a4.eval (.tmp 22)=.func (.yield l) #[] #[]:=(hr4.tm 22 _ rfl).2
  have g23:a4.eval (.tmp 23)=.int .i64 (L.getD k 0):=(hr4.tm 23 _ rfl).2
  refine wpListIn_plain rfl fun K2 hK2=>⟨fun _ _=>trivial,?_⟩
  rw[joK (ty:=3) g22 g23 hy _ rfl]
  refine⟨(fun h=>by cases h),hRd.mono ?_⟩
  have hg0b:∀ad n cap,ρ2 0=.slice (some ad) n cap→0<n→K ad.block:=fun ad n cap h=>hg0a ad n cap (by rw[←hag2 0 (by decide)]; exact h)
  have hg1b:∀b o,ρ2 1=.pointer (some ⟨b,o,none⟩)→K b:=fun b o h=>hg1a b o (by rw[←hag2 1 (by decide)]; exact h)
  have hr5:∀(b:Bool) (w3:World),KpS K w2 w3→Rel ρ2 (kd fun x=>x<w3.heap.size) 34 2 _ (a4.put (some 24) (.bool b)) w3:=fun b w3 hk3=>jk4 (jgr (v:=vb b) hr4 trivial (by decide)) rfl hg0b hg1b hk3
  rintro e w3 (⟨rfl,hj3,hk3⟩|⟨rfl,hj3⟩)
  ·refine hK2 _ _ (wpListIn_plain rfl fun K3 hK3=>jdI (t:=25) (hr5 true w3 hk3) rfl trivial rfl (by decide) fun a5 hr6=>hK3 _ _ (wpListIn_nil ?_))
   have g25:a5.eval (.tmp 25)=.bool false:=(hr6.tm 25 _ rfl).2
   refine wpIn_cond_false g25 (wpIn_skip ?_)
   have hr7:Rel ρ2 (kd fun x=>x<w3.heap.size) 34 2 (stN (.func (.yield l) #[] #[]) L [v0,v1,v2,v3,v4,v5,v6] st k) a5 w3:=js3 hr6 (fun t v hv=>by
    simp only[stN,jaN]at hv
    simp only[stNd,stN,jaN]
    repeat' split at hv
    all_goals first
     |(cases hv; done)
     |(subst_vars; simp only[hv]; rfl)
     |(subst_vars; exact hv)) rfl rfl
   refine wpIn_wide.2 (wp_mono (ji6 hr7 (pn3 _ L v0 v1 v2 v3 v4 v5 v6 st k (by omega))) ?_)
   rintro e a7 w7 ⟨rfl,hw7,ρ7,hr8,hag7⟩
   refine⟨⟨k+1,by omega,⟨ρ7,jk4 hr8 rfl (fun ad n cap h=>hg0b ad n cap (by rw[←hag7 0 (by decide)]; exact h)) (fun b o h=>hg1b b o (by rw[←hag7 1 (by decide)]; exact h)) (jkt (World.grownBy.refl w7 none)),fun ad n cap h=>hg0b ad n cap (by rw[←hag7 0 (by decide)]; exact h),fun b o h=>hg1b b o (by rw[←hag7 1 (by decide)]; exact h)⟩,hJ _ _ _ hj3 hw7⟩,?_⟩
   rw[(hr8.tm 18 _ rfl).2]
   simp[intOf]
   omega
  ·have hr4b:=jgr (v:=vb false) (t:=24) hr4 trivial (by decide)
   have g24:(a4.put (some 24) (.bool false)).eval (.tmp 24)=.bool false:=(hr4b.tm 24 _ rfl).2
   refine hK2 _ _ (wpListIn_plain rfl fun K3 hK3=>jq0 (v:=.bool true) ?_ (hK3 _ _ (wpListIn_nil ?_)))
   ·unfold execOp
    dsimp only
    rw[g24]
    rfl
   have hr5:=jgr (v:=vb true) (t:=25) hr4b trivial (by decide)
   have g25:((a4.put (some 24) (.bool false)).put (some 25) (.bool true)).eval (.tmp 25)=.bool true:=(hr5.tm 25 _ rfl).2
   refine wpIn_cond_true g25 (wpIn_ret ?_)
   exact⟨hr5.defers,.tuple #[],results_none rfl _ _ _,⟨_,rfl⟩,hR (k+1) _ (by omega) hj3⟩
 ·have hk5:k=L.length:=by omega
  subst hk5
  refine wpIn_seq (wpIn_cond_false (by rw[hc,decide_eq_false (by omega)]) (wpIn_exit ?_))
  refine hQ _ _ ⟨ρ1,js3 (jk4 hr1 rfl (fun ad n cap h=>hg0 ad n cap (by rw[←hag1 0 (by decide)]; exact h)) (fun b o h=>hg1 b o (by rw[←hag1 1 (by decide)]; exact h)) (jkt (World.grownBy.refl w1 none))) (fun t v hv=>?_) rfl rfl,fun ad n cap h=>hg0 ad n cap (by rw[←hag1 0 (by decide)]; exact h),fun b o h=>hg1 b o (by rw[←hag1 1 (by decide)]; exact h)⟩ hj1
  have hne:t≠19:=fun e=>by subst e; simp[stN,jaN]at hv
  simp only[stNc,jaN]
  rw[if_neg (Ne.symm hne)]
  exact hv
abbrev shU:List NK:=[.s,.i .i64,.ints .i64,.ints .i64,.ints .i64,.i .i64,.recs 5,.i .i64]
def stI (y:Value) (nm:ByteArray) (l:List (List NC)) (i:Int) (co:Value):St:=⟨[(0,.w (.c (.d (.v y)))),(1,.w (.c (.p 1 0 1 0))),(2,.w (.c (.p 2 0 1 0)))],[(0,.box 4 [.d (.b false)]),(1,.ebox [.p 3 0 1 0]),(2,.ebox [.d (.i .i64 i)]),(3,.ebox [.d (.s nm),.o 4,.d (.v co)]),(4,.xext (.st shU l))],5⟩
def hpJ (l:List (List NC)) (i:Nat):Hp:=[(0,.box 4 [.d (.b false)]),(1,.box 118 [.d (.s (nS l i 0)),.d (.i .i64 (nI l i 1)),.o 2,.o 3,.o 4,.d (.i .i64 (nI l i 5)),.o 5,.d (.i .i64 (nI l i 7))]),(2,.ext (.ints .i64 (nL l i 2))),(3,.ext (.ints .i64 (nL l i 3))),(4,.ext (.ints .i64 (nL l i 4))),(5,.ext (.recs 5 (nR l i 6)))]
def stJ (y:Value) (l:List (List NC)) (i:Nat):St:=⟨[(4,.w (.c (.p 1 0 1 0))),(0,.w (.c (.d (.v y))))],hpJ l i,6⟩
def stJ2 (y:Value) (l:List (List NC)) (i:Nat):St:=⟨[(18,vi .i64 0),(17,vi .i64 (nL l i 2).length),(16,.w (.c (.o 2))),(4,.w (.c (.p 1 0 1 0))),(0,.w (.c (.d (.v y))))],hpJ l i,6⟩
theorem pnJ (y:Value) (l:List (List NC)) (i:Nat):sx Tryz.prog (fun _=>none) 34 1 0 (fun _ _ _=>none) (fun _ _ _=>False) (sub [1,0,0] (bodyOf Tryz.f132)) 0 [] (stJ y l i) (fun e st'=>match e with | .normal=>Le 1 st' (stJ2 y l i)|_=>False):=by
 refine Eq.mp (by kernel_rfl:(Ob ((0:Int)=0)∧Ob (((nL l i 2).length:Int)=(nL l i 2).length)∧Ob ((0:Nat)=0)∧Ob (y=y)∧Ob (false=false)∧Ob (nS l i 0=nS l i 0)∧Ob (nI l i 1=nI l i 1)∧Ob (nI l i 5=nI l i 5)∧Ob (nI l i 7=nI l i 7)∧Ob (nL l i 2=nL l i 2)∧Ob (nL l i 3=nL l i 3)∧Ob (nL l i 4=nL l i 4)∧Ob (nR l i 6=nR l i 6)∧True)=_) ?_
 exact⟨⟨rfl⟩,⟨rfl⟩,⟨rfl⟩,⟨rfl⟩,⟨rfl⟩,⟨rfl⟩,⟨rfl⟩,⟨rfl⟩,⟨rfl⟩,⟨rfl⟩,⟨rfl⟩,⟨rfl⟩,⟨rfl⟩,trivial⟩
theorem jdz {w:World} {k j t:Nat} {vs:Array Value} {f:_} (h:w.heap[k]?=some (.cells vs t f)) {v:Value} (hv:vs[j]?=some v):w.cell? ⟨k,j,none⟩=some v:=by
 unfold World.cell?
 dsimp only
 rw[h]
 simp[hv]
theorem jua {α:Type} {enc:α→Int} {A:List α} {L:List Int} {st:Int} (hA:A.map enc=needL L st) (hst:st≠-1):∃h:L.length<A.length,enc A[L.length]=st∧A.length=L.length+1:=by
 have e:needL L st=L++[st]:=if_neg hst
 have hlen:A.length=L.length+1:=by
  have:(A.map enc).length=(L++[st]).length:=by rw[hA,e]
  simpa using this
 refine⟨by omega,?_,hlen⟩
 have h2:(A.map enc)[L.length]?=(L++[st])[L.length]?:=by rw[hA,e]
 rw[List.getElem?_map,List.getElem?_eq_getElem (by omega)]at h2
 simpa using h2
set_option maxHeartbeats 4000000 in
theorem jvD (n l r:Nat) (nm:ByteArray) (gU:List (List NC)) (i:Int) (co:Value) (ρ0:Env) (W:World)
  (hh:HRel ρ0 (kd fun k=>k<W.heap.size∧k≠r) (stI (.func (.yield l) #[] #[]) nm gU i co).hp 5 W) (hr0:ρ0 0=.pointer (some ⟨r,0,none⟩))
  (hi:0≤i∧i<gU.length) (hL:((nL gU i.toNat 2).length:Int)<9223372036854775807) {α:Type} (enc:α→Int) (A:List α) (hA:A.map enc=needL (nL gU i.toNat 2) (nI gU i.toNat 7)) (J Jx:List α→World→Prop)
  (hY:∀(k:Nat) (h:k<A.length) W,J (A.take k) W→YieldAt Fence.wide (n-1) Tryz.prog l #[.int .i64 (enc A[k])] W fun e W' =>
   (e=.returned (.bool true)∧J (A.take (k+1)) W'∧KpS (fun k=>k≠r) W W')∨(e=.returned (.bool false)∧Jx (A.take (k+1)) W'))
  (hJ:AbidesFrom W.heap.size J) (h0:J [] W) :
  CallsIn Fence.wide n Tryz.prog 132 #[.func (.yield l) #[] #[],(C.p 1 0 1 0).val ρ0,(C.p 2 0 1 0).val ρ0] W fun e W'=>(∃v,e=.returned v) ∧
   ((∃ys,ys=A∧J ys W')∨(∃pre,(∃k,k≤A.length∧pre=A.take k)∧Jx pre W')):=by
 refine callsIn_of_wp Tryz.func132 rfl trivial ?_ rfl
 refine wpIn_seq (wpIn_wide.2 ?_)
 have hsp:jac Tryz.prog (fun _=>none):=fun _ _ _ h=>by cases h
 obtain⟨y,hy⟩:∃y:Value,y=.func (.yield l) #[] #[]:=⟨_,rfl⟩
 rw[←hy]at hh ⊢
 refine jcF (N:=34) (n0:=1) (B:=kd fun k=>k<W.heap.size∧k≠r) (ρ0:=ρ0) (w0:=W) (st:=stI y nm gU i co)
  (k:=fun st=>Le 1 st (stJ y gU i.toNat)) (by kernel_rfl) hsp (ds:=[]) _ _ ρ0 _ _ _ ?vc ?rel (jai.refl _ _) (Bel.refl _ _) ?next
 case vc =>
  refine Eq.mp (by kernel_rfl:(Ob True∧Ob True∧Ob True∧Ob ((0:Int)≤i∧i<((XC.st shU gU).n:Int))∧Ob (i.toNat<(XC.st shU gU).n)∧Ob ((0:Nat)=0)∧Ob (y=y)∧Ob (false=false)∧Ob (nS gU i.toNat 0=nS gU i.toNat 0)∧Ob (nI gU i.toNat 1=nI gU i.toNat 1)∧Ob (nI gU i.toNat 5=nI gU i.toNat 5)∧Ob (nI gU i.toNat 7=nI gU i.toNat 7)∧Ob (nL gU i.toNat 2=nL gU i.toNat 2)∧Ob (nL gU i.toNat 3=nL gU i.toNat 3)∧Ob (nL gU i.toNat 4=nL gU i.toNat 4)∧Ob (nR gU i.toNat 6=nR gU i.toNat 6)∧True)=_) ?_
  exact⟨⟨trivial⟩,⟨trivial⟩,⟨trivial⟩,⟨hi⟩,⟨by show i.toNat<gU.length; omega⟩,⟨rfl⟩,⟨rfl⟩,⟨rfl⟩,⟨rfl⟩,⟨rfl⟩,⟨rfl⟩,⟨rfl⟩,⟨rfl⟩,⟨rfl⟩,⟨rfl⟩,⟨rfl⟩,trivial⟩
 case rel =>
  refine jfD (N:=34) (n0:=1) (args:=[.w (.c (.d (.v y))),.w (.c (.p 1 0 1 0)),.w (.c (.p 2 0 1 0))]) (Nat.le_of_ble_eq_true rfl) (fun x hx=>?_) (by decide) ρ0 W hh (fun k hk=>(jbS.1 hk).1)
  simp only[List.mem_cons,List.not_mem_nil,or_false]at hx
  rcases hx with rfl|rfl|rfl
  ·trivial
  ·exact(by decide:1<5)
  ·exact(by decide:2<5)
 case next =>
  rintro ρ1 st1 a1 w1 hr1 hag1 hbl1 hle
  obtain⟨ρ2,hr2,hag2⟩:=hle.rel hr1
  refine wpIn_seq (wpIn_seq (wpIn_wide.2 (wp_mono (jbV hsp (fun _ _ _ _ _ _ _ _ _ h=>h.elim) (sub [1,0,0] (bodyOf Tryz.f132)) 0 [] (stJ y gU i.toNat) _ ρ2 a1 w1 (pnJ y gU i.toNat) hr2 (jai.refl _ _) (Bel.refl _ _)) ?_)))
  rintro e a2 w2 ⟨ex,ρ3,st3,rfl,hk3,hr3',hag3,hbl3⟩
  cases ex with
  |exit j=>exact hk3.elim
  |ret=>exact hk3.elim
  |normal =>
   obtain⟨ρ4,hr4,hag4⟩:=hk3.rel hr3'
   have hρ0:ρ4 0=.pointer (some ⟨r,0,none⟩):=(hag4 0 (by decide)).trans ((hag3 0 (by decide)).trans ((hag2 0 (by decide)).trans ((hag1 0 (by decide)).trans hr0)))
   have hbW:Bel (kd fun k=>k<W.heap.size∧k≠r).kp W w2:=hbl1.trans hbl3
   obtain⟨B',gB,hh4⟩:=hr4.heap
   have o0:=(hh4.ok 0 _ rfl).2.2
   have o1:=(hh4.ok 1 _ rfl).2.2
   have o2:=(hh4.ok 2 _ rfl).2.2
   obtain⟨r',hr',hB0,hheap0⟩:=o0
   have err:r'=r:=by
    rw[hρ0]at hr'
    cases hr'
    rfl
   subst err
   obtain⟨k1,hk1,hB1,hheap1⟩:=o1
   obtain⟨q0,hq0,hBq,hheapW⟩:=(hh.ok 0 _ rfl).2.2
   have eq0:q0=r':=by
    rw[hr0]at hq0
    cases hq0
    rfl
   subst eq0
   have hgr:W.grownBy w2 none:=by
    refine⟨hbW.os,hbW.tape,hbW.output,hbW.size,fun k hk _=>?_⟩
    by_cases e:k=q0
    ·subst e
     rw[hheap0,hheapW]
     rfl
    ·exact hbW.block k ⟨hk,e⟩
   have hj2:J [] w2:=hJ [] W w2 none h0 hgr (fun r e=>by cases e)
   have hne1:k1≠q0:=fun e=>hh4.apart 1 _ 0 _ k1 rfl rfl (by decide) (by rw[hk1]; rfl) (by rw[hρ0,e]; rfl)
   have hb:BetN (fun k=>k≠q0) y (nL gU i.toNat 2) [.string (nS gU i.toNat 0),.int .i64 (nI gU i.toNat 1),ρ4 2,ρ4 3,ρ4 4,.int .i64 (nI gU i.toNat 5),ρ4 5] (nI gU i.toNat 7) 0 a2 w2:=by
    refine⟨fun h=>if h=0 then ρ4 2 else ρ4 1,⟨fun t v hv=>?_,hr4.size,hr4.defers,⟨kd fun x=>x<w2.heap.size,Grow.refl _ _ _ _,⟨fun x o hf=>?_,fun x o x' o' b hf hf' hne hb=>?_,jgh⟩⟩,fun k hk=>jbS.1 hk,Nat.le_refl _⟩,fun ad m cap hv hm=>?_,fun b o hv=>?_⟩
    ·simp only[stN,jaN]at hv
     split at hv
     ·rename_i e; subst e; cases hv; exact⟨trivial,(hr4.tm 18 _ rfl).2⟩
     ·split at hv
      ·rename_i e; subst e; cases hv; exact⟨trivial,(hr4.tm 17 _ rfl).2⟩
      ·split at hv
       ·rename_i e; subst e; cases hv; exact⟨(by decide:0<2),(hr4.tm 16 _ rfl).2⟩
       ·split at hv
        ·rename_i e; subst e; cases hv; exact⟨(by decide:1<2),(hr4.tm 4 _ rfl).2⟩
        ·split at hv
         ·rename_i e; subst e; cases hv; exact⟨trivial,(hr4.tm 0 _ rfl).2⟩
         ·cases hv
    ·simp only[stN,find]at hf
     split at hf
     ·rename_i e; subst e; cases hf
      exact⟨(by decide:0<2),trivial,o2.1,o2.1.lt (Nat.lt_succ_self 0)⟩
     ·split at hf
      ·rename_i e; subst e; cases hf
       refine⟨(by decide:1<2),?_,k1,0,by simpa using hk1,(Array.getElem?_eq_some_iff.1 hheap1).1,fun j c hj=>?_⟩
       ·intro c hc
        simp only[List.map_cons,List.map_nil,List.cons_append,List.nil_append,List.mem_cons,List.not_mem_nil,or_false]at hc
        rcases hc with rfl|rfl|rfl|rfl|rfl|rfl|rfl|rfl<;>trivial
       ·rw[Nat.zero_add]
        refine jdz hheap1 ?_
        match j,hj with
        |0,hj=>cases hj; rfl
        |1,hj=>cases hj; rfl
        |2,hj=>cases hj; rfl
        |3,hj=>cases hj; rfl
        |4,hj=>cases hj; rfl
        |5,hj=>cases hj; rfl
        |6,hj=>cases hj; rfl
        |7,hj=>cases hj; rfl
        |j+8,hj=>cases hj
      ·cases hf
    ·simp only[stN,find]at hf
     split at hf
     ·cases hf; cases hb
     ·split at hf
      ·cases hf; cases hb
      ·cases hf
    ·intro e
     have h2:=o2.2 ad m cap (by simpa using hv) hm
     exact hB0 (.inl (e ▸ h2))
    ·intro e
     have hv':ρ4 1=.pointer (some ⟨b,o,none⟩):=by simpa using hv
     rw[hk1]at hv'
     cases hv'
     exact hne1 e
   subst hy
   refine jt9 n l (fun k=>k≠q0) _ _ _ _ _ _ _ _ _ hL enc A hA J Jx hY (fun A B pre hj hg=>hJ pre A B none hj hg (fun r e=>by cases e)) a2 w2 hb hj2
    (fun W'=>(∃ys,ys=A∧J ys W')∨(∃pre,(∃k,k≤A.length∧pre=A.take k)∧Jx pre W')) (fun k W hk hx=>.inr ⟨_,⟨k,hk,rfl⟩,hx⟩) _ ?_
   rintro a5 w5 ⟨ρ5,hr5,hg0,hg1⟩ hj5
   refine wpIn_seq (wpIn_wide.2 (wp_mono (ji6 hr5 (pn4 _ _ _ _ _ _ _ _ _ _ _)) ?_))
   rintro e a6 w6 ⟨rfl,hw6,ρ6,hr6,hag6⟩
   have hj6:=hJ _ _ _ none hj5 hw6 (fun r e=>by cases e)
   have hc:a6.eval (.tmp 29)=.bool (nI gU i.toNat 7 != -1):=(hr6.tm 29 _ rfl).2
   by_cases hst:nI gU i.toNat 7=-1
   ·refine wpIn_cond_false (by rw[hc,hst]; rfl) (wpIn_skip ?_)
    refine⟨hr6.defers,.tuple #[],results_none rfl _ _ _,⟨_,rfl⟩,.inl ⟨_,rfl,?_⟩⟩
    have hlen:A.length=(nL gU i.toNat 2).length:=by
     have:(A.map enc).length=(needL (nL gU i.toNat 2) (nI gU i.toNat 7)).length:=by rw[hA]
     rw[needL,if_pos hst]at this
     simpa using this
    rw[←hlen,List.take_length]at hj6
    exact hj6
   ·refine wpIn_cond_true (by rw[hc]; simp[hst]) (wpIn_region_list ?_)
    obtain⟨hkA,henc,hlen⟩:=jua hA hst
    obtain⟨fn,tmps,assign,body,hy,hRd⟩:=hY _ hkA w6 hj6
    rw[henc]at hy
    refine wpListIn_plain rfl fun K2 hK2=>jdI (t:=30) hr6 rfl trivial rfl (by decide) fun a7 hr7=>hK2 _ _ ?_
    refine wpListIn_plain rfl fun K2 hK2=>jdI (t:=31) hr7 rfl trivial rfl (by decide) fun a8 hr8=>hK2 _ _ ?_
    refine wpListIn_plain rfl fun K2 hK2=>jdI (t:=32) hr8 rfl trivial rfl (by decide) fun a9 hr9=>hK2 _ _ ?_
    have g30:a9.eval (.tmp 30)=.func (.yield l) #[] #[]:=(hr9.tm 30 _ rfl).2
    have g32:a9.eval (.tmp 32)=.int .i64 (nI gU i.toNat 7):=(hr9.tm 32 _ rfl).2
    refine wpListIn_plain rfl fun K2 hK2=>⟨fun _ _=>trivial,?_⟩
    rw[joK (ty:=3) g30 g32 hy _ rfl]
    refine⟨(fun h=>by cases h),hRd.mono ?_⟩
    rintro e w7 (⟨rfl,hj7,hk7⟩|⟨rfl,hj7⟩)
    ·refine hK2 _ _ (wpListIn_nil ?_)
     refine⟨(jgr (t:=33) (v:=vb true) hr9 trivial (by decide)).defers,.tuple #[],results_none rfl _ _ _,⟨_,rfl⟩,.inl ⟨_,rfl,?_⟩⟩
     rw[←hlen,List.take_length]at hj7
     exact hj7
    ·refine hK2 _ _ (wpListIn_nil ?_)
     exact⟨(jgr (t:=33) (v:=vb false) hr9 trivial (by decide)).defers,.tuple #[],results_none rfl _ _ _,⟨_,rfl⟩,.inr ⟨_,⟨_,by omega,rfl⟩,hj7⟩⟩
end Go.Sx09
end

section
namespace Go.Sx09
open Go Go.Proofs Go.RowKit Go.Shelf Go.Sx
attribute [local go_sem] Oper.semAt_some
set_option maxHeartbeats 2000000 in
theorem jw0 (n:Nat) (p:Option Addr) (i:Int) (w:World) :
  CallsIn Fence.wide n Tryz.prog 86 #[.pointer p,.int .i64 i] w fun e w'=>e=.returned (.func (.func 132) #[] #[.pointer (some ⟨w.heap.size,0,none⟩),.pointer (some ⟨w.heap.size+1,0,none⟩)])∧w'=(w.alloc (.cells #[.pointer p] 126)).alloc (.cells #[.int .i64 i] 3):=by
 refine callsIn_of_wp Tryz.func86 rfl trivial ?_ rfl
 simp only[Tryz.ntmps86,List.size_toArray,List.length_cons,List.length_nil,Nat.reduceAdd,Nat.reduceSub,Array.replicate_succ,Array.replicate_zero,List.push_toArray,List.append_toArray,List.nil_append,List.cons_append]
 gi_wp2
 go_ret
 exact⟨rfl,rfl⟩
theorem jw1 (w:World) (c0 c1 c2 c3:Array Value) (t0 t1 t2 t3:TypeId):∃w2,w2.heap.size=w.heap.size+4∧Below w.heap.size w w2∧w2.heap[w.heap.size]?=some (.cells c0 t0 (0,0))∧w2.heap[w.heap.size+1]?=some (.cells c1 t1 (0,0)) ∧
  w2.heap[w.heap.size+1+1]?=some (.cells c2 t2 (0,0))∧w2.heap[w.heap.size+1+1+1]?=some (.cells c3 t3 (0,0))∧(((w.alloc (.cells c0 t0)).alloc (.cells c1 t1)).alloc (.cells c2 t2)).alloc (.cells c3 t3)=w2:=by
 have new:∀(w:World) (c:Array Value) (t:TypeId) (m:Nat),w.heap.size=m→(w.alloc (.cells c t)).heap[m]?=some (.cells c t (0,0)):=fun w c t m e=>by subst e; exact World.alloc_heap_new w (.cells c t)
 have old:∀(w:World) (o o':Obj) (k:Nat),w.heap[k]?=some o→(w.alloc o').heap[k]?=some o:=fun w o o' k h=>(Below.heap_alloc w o' k (Array.getElem?_eq_some_iff.1 h).1).trans h
 refine⟨_,by simp,(((Below.refl _ w).alloc (Nat.le_refl _) _).alloc (by simp) _).alloc (by simp; omega) _ |>.alloc (by simp; omega) _,?_,?_,?_,?_,rfl⟩
 ·exact old _ _ _ _ (old _ _ _ _ (old _ _ _ _ (new w c0 t0 _ rfl)))
 ·exact old _ _ _ _ (old _ _ _ _ (new _ c1 t1 _ (by simp)))
 ·exact old _ _ _ _ (new _ c2 t2 _ (by simp))
 ·exact new _ c3 t3 _ (by simp)
def readyB (pl:List Bool) (L:List Int):Bool:=L.all fun x=>pl.getD x.toNat false
set_option maxHeartbeats 4000000 in
theorem ready_in (nm:ByteArray) (gU:List (List NC)) (od:List Int) (i:Int) (pl:List Bool) (ρ:Env) (w:World)
  (hh:HRel ρ (kd fun k=>k<w.heap.size) [(3,.ext (.bools pl)),(2,.ebox [.d (.s nm),.o 0,.o 1]),(1,.ext (.ints .i64 od)),(0,.xext (.st shU gU))] 4 w)
  (hi:0≤i∧i<gU.length) (hL:((nL gU i.toNat 2).length:Int)<9223372036854775807) (hx:∀x∈needL (nL gU i.toNat 2) (nI gU i.toNat 7),0≤x∧x<pl.length) :
  CallsIn Fence.wide 9 Tryz.prog 85 #[(C.p 2 0 1 0).val ρ,.int .i64 i,ρ 3] w fun e w'=>e=.returned (.bool (readyB pl (needL (nL gU i.toNat 2) (nI gU i.toNat 7))))∧Below w.heap.size w w':=by
 have h1:1≤9:=by omega
 have hro:Fence.wide.round=none:=rfl
 obtain⟨gb,go,hgp,hgB,hgc⟩:=(hh.ok 2 _ rfl).2.2
 have hrow:=(hh.ok 3 _ rfl).2.2
 obtain⟨⟨pa,pc,hpv,hpc,hpcells⟩,hpo⟩:=hrow
 have hP:(C.p 2 0 1 0).val ρ=.pointer (some ⟨gb,go,none⟩):=by
  simp only[C.val,hgp,base]
  rfl
 rw[hP,hpv]
 refine callsIn_of_wp_marks Tryz.func85 rfl trivial ?_ hro
 simp only[Tryz.ntmps85,List.size_toArray,List.length_cons,List.length_nil,Nat.reduceAdd,Nat.reduceSub,Array.replicate_succ,Array.replicate_zero,List.push_toArray,List.append_toArray,List.nil_append,List.cons_append]
 gi_wp2_with (refine⟨trivial,?_⟩; gi_at_call 86; refine(jw0 _ _ i _).mono ?_; rintro e w' ⟨rfl,rfl⟩)
 obtain⟨w2,hs2,hB0,k0,k1,k2,k3,hw2⟩:=jw1 w #[.slice pa (Cont.bools pl).n pc] #[.bool false] #[.pointer (some ⟨gb,go,none⟩)] #[.int .i64 i] 133 4 126 3
 rw[hw2]
 have hne:∀(A:List {x:Int // 0≤x∧x<pl.length}),A.map (fun x=>x.1)=needL (nL gU i.toNat 2) (nI gU i.toNat 7)→readyB pl (needL (nL gU i.toNat 2) (nI gU i.toNat 7))=A.all fun x=>pl.getD x.1.toNat false:=fun A hA=>by
  rw[←hA]
  simp[readyB]
 obtain⟨A,hA⟩:∃A:List {x:Int // 0≤x∧x<pl.length},A.map (fun x=>x.1)=needL (nL gU i.toNat 2) (nI gU i.toNat 7) :=
  ⟨(needL (nL gU i.toNat 2) (nI gU i.toNat 7)).attachWith _ hx,by simp⟩
 have hready:=hne A hA
 refine wpIn_rangeFunc_ownF hro h1 (gf:=132) (lb:=#[.pointer (some ⟨w.heap.size+1+1,0,none⟩),.pointer (some ⟨w.heap.size+1+1+1,0,none⟩)]) rfl trivial (enters_of Tryz.func132 (by kernel_rfl) rfl)
  (α:={x:Int // 0≤x∧x<pl.length}) (encs:=fun x=>#[.int .i64 x.1]) (Kp:=KpS fun k=>k≠w.heap.size+1) (S:=fun ys=>ys=A) (Sp:=fun pre=>∃k,k≤A.length∧pre=A.take k) (N:=A.length) (w0:=w2)
  ?seq kps_t kps_b (Below.refl _ _) (fun _=>rfl)
  (fun pre W=>((∀y∈pre,pl.getD y.1.toNat false=true)∧W.cell? ⟨w.heap.size,0,none⟩=some (.slice pa (Cont.bools pl).n pc)∧W.cell? ⟨w.heap.size+1,0,none⟩=some (.bool false)∧W.frozen? ⟨w.heap.size+1,0,none⟩=false)∧Below w.heap.size w W)
  (fun c pre W=>(c=.ret∧(∃y∈pre,pl.getD y.1.toNat false=false)∧W.cell? ⟨w.heap.size+1,0,none⟩=some (.bool false))∧Below w.heap.size w W)
  (OwnFrom.and (Own.from (fun s A B row hs hg hr=>⟨hs.1,cell_kept hs.2.1 hg hr,cell_kept hs.2.2.1 hg hr,(frozen_kept hs.2.2.1 hg hr).trans hs.2.2.2⟩) _) (ownFrom_below (Nat.le_refl _) (by omega)))
  (fun c=>OwnFrom.and (Own.from (fun s A B row hs hg hr=>⟨hs.1,hs.2.1,cell_kept hs.2.2 hg hr⟩) _) (ownFrom_below (Nat.le_refl _) (by omega)))
  ⟨⟨by simp,jdz k0 rfl,jdz k1 rfl,?frozen⟩,hB0⟩
  (fun x=>{ tmps:=#[Value.pointer (some { block:=gb,off:=go }),Value.int IntKind.i64 i,Value.slice pa (Cont.bools pl).n pc,undef,undef,Value.pointer (some { block:=w.heap.size,off:=0 }),Value.pointer (some { block:=w.heap.size+1,off:=0 }),.int .i64 x.1,Value.pointer (some { block:=gb,off:=go }),Value.int IntKind.i64 i,Value.func (Fn.func 132) #[] #[Value.pointer (some { block:=w.heap.size+1+1,off:=0 }),Value.pointer (some { block:=w.heap.size+1+1+1,off:=0 })],.int .i64 x.1,undef,undef,undef,undef,undef],defers:=[] }) ?assign ?body ?done ?stop
 case frozen =>
  unfold World.frozen?
  dsimp only
  rw[k1]
  rfl
 case seq =>
  intro l J Jx W hW hJ hJx hY h0
  have hBW:Below w.heap.size w W:=hB0.trans (hW.mono (by omega))
  have hsz:=hW.size
  have at2:∀k o,k<w2.heap.size→w2.heap[k]?=some o→W.heap[k]?=some o:=fun k o hk ho=>(hW.block k hk).trans ho
  have hmono:∀k,(kd fun k=>k<w.heap.size).kp k→(kd fun k=>k<W.heap.size∧k≠w.heap.size+1).kp k:=fun k hk=>by
   have hk:k<w.heap.size:=hk
   exact⟨by omega,by omega⟩
  have hbw:Bel (kd fun k=>k<w.heap.size).kp w W:=⟨hBW.os,hBW.tape,hBW.output,hBW.size,hBW.block⟩
  let ρ':Env:=fun h=>match h with
   |0=>.pointer (some ⟨w.heap.size+1,0,none⟩)
   |1=>.pointer (some ⟨w.heap.size+1+1,0,none⟩)
   |2=>.pointer (some ⟨w.heap.size+1+1+1,0,none⟩)
   |3=>ρ 2
   |_=>ρ 0
  have hx0:=(hh.ok 0 _ rfl).2.2
  have hrel:HRel ρ' (kd fun k=>k<W.heap.size∧k≠w.heap.size+1) (stI (.func (.yield l) #[] #[]) nm gU i (ρ 1)).hp 5 W:=by
   refine⟨fun x o hf=>?_,fun x o x' o' b hf hf' hne hb=>?_,jgh⟩
   ·simp only[stI,find]at hf
    split at hf
    ·rename_i e; subst e; cases hf
     exact⟨by decide,(fun c hc=>by simp at hc; subst hc; trivial),w.heap.size+1,rfl,fun h=>(jbS.1 h).2 rfl,at2 _ _ (by omega) k1⟩
    ·split at hf
     ·rename_i e; subst e; cases hf
      refine⟨by decide,(fun c hc=>by simp at hc; subst hc; exact(by decide:3<5)),w.heap.size+1+1,0,rfl,⟨by omega,by omega⟩,fun j c hj=>?_⟩
      refine(jdz (at2 _ _ (by omega) k2) (j:=0+j) (v:=c.val ρ') ?_)
      match j,hj with
      |0,hj=>cases hj; exact congrArg some hP.symm
      |j+1,hj=>cases hj
     ·split at hf
      ·rename_i e; subst e; cases hf
       refine⟨by decide,(fun c hc=>by simp at hc; subst hc; trivial),w.heap.size+1+1+1,0,rfl,⟨by omega,by omega⟩,fun j c hj=>?_⟩
       refine(jdz (at2 _ _ (by omega) k3) (j:=0+j) (v:=c.val ρ') ?_)
       match j,hj with
       |0,hj=>cases hj; rfl
       |j+1,hj=>cases hj
      ·split at hf
       ·rename_i e; subst e; cases hf
        refine⟨by decide,(fun c hc=>by simp at hc; rcases hc with rfl|rfl|rfl<;>first|exact True.intro|exact(by decide:4<5)),gb,go,hgp,hmono _ hgB,fun j c hj=>?_⟩
        refine(hbw.cell (p:=⟨gb,go+j,none⟩) hgB).trans ?_
        match j,hj with
        |0,hj=>cases hj; exact hgc 0 _ rfl
        |1,hj=>cases hj; exact hgc 1 _ rfl
        |2,hj=>cases hj; exact hgc 2 _ rfl
        |j+3,hj=>cases hj
       ·split at hf
        ·rename_i e; subst e; cases hf
         exact⟨by decide,trivial,(IsX.bel hx0 hbw).mono hmono⟩
        ·cases hf
   ·simp only[stI,find]at hf hf'
    have hz:∀y oy,find (stI (.func (.yield l) #[] #[]) nm gU i (ρ 1)).hp y=some oy→y≠0→oy.blk (ρ' y)=none:=fun y oy hy hy0=>by
     simp only[stI,find]at hy
     rw[if_neg (Ne.symm hy0)]at hy
     repeat' split at hy
     all_goals (cases hy; try rfl)
    by_cases e:x=0
    ·rw[hz x' o' hf' (by omega)]
     intro h; cases h
    ·rw[hz x o hf e]at hb
     cases hb
  refine(jvD _ l (w.heap.size+1) nm gU i (ρ 1) ρ' W hrel rfl hi hL (fun x=>x.1) A hA J Jx (fun k hk W1 hj=>?_) hJ h0)
  have e1:A.take (k+1)=A.take k++[A[k]]:=by rw[List.take_succ_eq_append_getElem hk]
  rw[e1]
  exact hY (A.take k) A[k] W1 hj (by rw[List.length_take]; omega)
 case assign =>
  intro l x W K hK
  gi_wp2
  exact hK
 case body =>
  rintro l pre x W ⟨⟨hp,hv5,hcr,hfr⟩,hB⟩ _
  have hlt:w.heap.size+1<W.heap.size:=World.block_lt_of_cell? W ⟨w.heap.size+1,0,none⟩ hcr
  have hx1:=x.2.1
  have hx2:=x.2.2
  obtain⟨b,off,hab,hcells⟩:=hpcells (by show 0<pl.length; omega)
  subst hab
  have hcell:W.cell? ⟨b,off+x.1.toNat,none⟩=some (.bool (pl.getD x.1.toNat false)):=by
   have hc:=hcells x.1.toNat (.b (pl.getD x.1.toNat false)) (by
    have:=(Cont.bools pl).flat_get (i:=x.1.toNat) (j:=0) (by show x.1.toNat<pl.length; omega) Nat.one_pos
    simpa [Cont.e,Cont.cell]using this)
   have hbl:b<w.heap.size:=World.block_lt_of_cell? w ⟨b,off+x.1.toNat,none⟩ hc
   exact(hB.cell (p:=⟨b,off+x.1.toNat,none⟩) hbl).trans hc
  have hx3:x.1<((Cont.bools pl).n:Int):=hx2
  clear hcells hready hA hne hpcells hpc hpo hgc hgB hgp hP hx hL hi hh hpv k0 k1 k2 k3 hs2 hB0 hw2
  have hgd:pl.getD x.1.toNat false=pl[x.1.toNat]'(by omega):=by simp[List.getD,List.getElem?_eq_getElem (show x.1.toNat<pl.length by omega)]
  gi_wp2
  ·rename_i hxx
   exact⟨KeepsOthers.setCell _ _ _,⟨rfl,⟨x,List.mem_append.2 (.inr (by simp)),by rw[hgd]; simpa using hxx⟩,World.cell?_setCell_same' _ _ _ (by rw[hcr]; rfl)⟩,hB.setCell (p:=⟨w.heap.size+1,0,none⟩) (by simp) _⟩
  ·rename_i hxx
   exact⟨KeepsOthers.refl _,jvB (Below.refl _ _),⟨fun y hy=>(List.mem_append.1 hy).elim (hp y) (fun e=>by simp at e; subst e; rw[hgd]; simpa using hxx),hv5,hcr,hfr⟩,hB⟩
 case done =>
  rintro D ys W hD rfl ⟨⟨hne,hv5,hcr,hfr⟩,hB⟩ hK
  clear hpcells hpc hpo hgc hgB hgp hP hx hL hi hh hpv k0 k1 k2 k3 hB0 hw2
  gi_wp2
  have hK':=(KeepsOthers.setCell W ⟨w.heap.size+1,0,none⟩ (.bool true)).same D _ hK rfl
  refine⟨by simp,.inl ⟨_,_,rfl,run_takeDeferred hK',?_⟩⟩
  have hc5:=cell_kept (World.cell?_setCell_same' W ⟨w.heap.size+1,0,none⟩ (.bool true) (by rw[hcr]; rfl)) (grownBy_putObj' _ D (.deferred none)) (fun r e=>by cases e; exact⟨_,hK',rfl⟩)
  have hall:readyB pl (needL (nL gU i.toNat 2) (nI gU i.toNat 7))=true:=by
   rw[hready]
   exact List.all_eq_true.2 fun y hy=>hne y hy
  refine⟨.bool true,?_,by rw[hall],(hB.setCell (p:=⟨w.heap.size+1,0,none⟩) (by simp) _).trans (belowK_b (w:=w) (Nat.le_refl _) _ D _ _ (by omega) hK' rfl rfl)⟩
  simp[results,Tryz.f85,go_sem,hc5]
 case stop =>
  rintro D c pre W hD ⟨k,hk,rfl⟩ ⟨⟨rfl,⟨y,hy,hpy⟩,hcr⟩,hB⟩ hK
  clear hpcells hpc hpo hgc hgB hgp hP hx hL hi hh hpv k0 k1 k2 k3 hB0 hw2
  gi_wp2
  refine⟨by simp,.inl ⟨_,_,rfl,run_takeDeferred hK,?_⟩⟩
  have hc5:=cell_kept hcr (grownBy_putObj' _ D (.deferred none)) (fun r e=>by cases e; exact⟨_,hK,rfl⟩)
  have hall:readyB pl (needL (nL gU i.toNat 2) (nI gU i.toNat 7))=false:=by
   rw[hready,Bool.eq_false_iff]
   intro h
   have:=List.all_eq_true.1 h y (List.mem_of_mem_take hy)
   rw[hpy]at this
   cases this
  refine⟨.bool false,?_,by rw[hall],hB.trans (belowK_b (w:=w) (Nat.le_refl _) W D _ _ (by omega) hK rfl rfl)⟩
  simp[results,Tryz.f85,go_sem,hc5]
end Go.Sx09
end

section
open Go.RowKit
namespace Go.Sx
section
variable [Globs] {P:Program}
theorem jq1 {f:Nat} {fn:Func} {body:Code} {shs:List SV} {g:List Lf→Option GT} (hf:P.funcs[f]?=some fn) (hb:fn.body=some body) (hn:(fn.name == "runtime.NumGoroutine")=false)
  (h:∀ls t,g ls=some t→∃ob x,t=.leaf ob [.c (.d x)]∧(ob→∀b:Bv,jfq shs 0 ls=some b→∀ρ w,HRel ρ (kd fun k=>k<w.heap.size) b.hp b.n w→Calls P f (b.vs.map (V.val ρ)).toArray w fun e w'=>e=.returned x.val∧Below w.heap.size w w')) :
  jaj P f true (jat shs g):=by
 refine .inl ⟨jcX hf hb hn,fun ρ B w args hp nx t hS hob hlt hh hB=>?_⟩
 unfold jat at hS
 split at hS
 ·rename_i ls am hto
  split at hS
  ·rename_i t' hg
   cases hS
   obtain⟨ob,x,rfl,hc⟩:=h ls t' hg
   rw[jbI]at hob
   have hob:ob:=hob
   obtain⟨b,ρ0,hbl,q⟩:=jhc hh hB shs args ls am hto hlt 0 (fun _=>undef) []
   rw[List.append_nil]at hbl
   have hh0:HRel ρ0 (kd fun k=>k<w.heap.size) b.hp b.n w:=by
    refine⟨fun x o hf=>?_,fun x o x' o' k hf hf' _ hb=>?_,jiQ hh.glob hB⟩
    ·obtain⟨_,a2,a3,a4,_⟩:=q.heap x o hf
     exact⟨a2,a3,a4⟩
    ·obtain⟨_,_,_,_,a5⟩:=q.heap x o hf
     rw[a5]at hb
     cases hb
   have hcalls:=hc hob b hbl ρ0 w hh0
   rw[q.val]at hcalls
   refine hcalls.mono ?_
   rintro e w' ⟨rfl,hbw⟩
   refine⟨ρ,?_,jai.refl _ _,?_,?_,⟨B,Grow.refl _ _ _ _,?_⟩,jcw hbw hB,fun _=>hbw,fun _ h o k hle hf _=>?_⟩
   ·rw[jbI]; rfl
   ·rw[jbI]; trivial
   ·rw[jbI]; exact Nat.le_refl _
   ·rw[jbI]; exact hh.below hbw hB
   ·rw[jbI]at hf
    have:=(hh.ok h o hf).1
    omega
  ·cases hS
 ·cases hS
end
end Go.Sx
end

section
namespace Go.Sh
open Go Go.Proofs Go.RowKit Go.Sx
def jku:List SV:=[.c (.p [.d,.x (.st [.s,.i .i64,.ints .i64,.ints .i64,.ints .i64,.i .i64,.recs 5,.i .i64] []),.r (.ints .i64 [])]),.c .d,.c (.r (.bools []))]
def jbw (gUnits:List (List NC)) (i:Int) (placed:List Bool):Option Bool :=
 if 0≤i∧i<gUnits.length then
  if((nL gUnits i.toNat 2).length:Int)<9223372036854775807∧(Sx09.needL (nL gUnits i.toNat 2) (nI gUnits i.toNat 7)).all (fun x=>decide (0≤x∧x<placed.length))=true then
   some (Sx09.readyB placed (Sx09.needL (nL gUnits i.toNat 2) (nI gUnits i.toNat 7)))
  else none
 else none
def jhg:List Lf→Option GT
 |[.d (.s gName),.x (.st [.s,.i .i64,.ints .i64,.ints .i64,.ints .i64,.i .i64,.recs 5,.i .i64] gUnits),.r (.ints .i64 order),.d (.i .i64 i),.r (.bools placed)]=>some (.leaf (ok (jbw gUnits i placed)) [.c (.d (.b (val (jbw gUnits i placed))))])
 |_=>none
abbrev sp_85:jab→jab:=jaX 85 true (jat jku jhg)
theorem jnn:jaj Tryz.prog 85 true (jat jku jhg):=by
 refine jq1 (fn:=Tryz.f85) (body:=bodyOf Tryz.f85) Tryz.func85 (by kernel_rfl) (by kernel_rfl) fun ls t h=>?_
 unfold jhg at h
 split at h
 ·rename_i gName gUnits order i placed
  cases h
  refine⟨_,_,rfl,fun hok b hb ρ w hh=>?_⟩
  have hbe:b=⟨[.w (.c (.p 2 0 1 0)),.w (.c (.d (.i .i64 i))),.w (.c (.o 3))],[(3,.ext (.bools placed)),(2,.ebox [.d (.s gName),.o 0,.o 1]),(1,.ext (.ints .i64 order)),(0,.xext (.st Sx09.shU gUnits))],4,[]⟩ :=
   Option.some.inj (hb.symm.trans (by kernel_rfl))
  subst hbe
  unfold ok jbw at hok
  split at hok
  ·rename_i hi
   split at hok
   ·rename_i hL
    have hv:val (jbw gUnits i placed)=Sx09.readyB placed (Sx09.needL (nL gUnits i.toNat 2) (nI gUnits i.toNat 7)):=by
     unfold jbw
     rw[if_pos hi,if_pos hL]
     rfl
    rw[hv]
    exact(callsIn_wide (n:=9)).1 (Sx09.ready_in gName gUnits order i placed ρ w hh hi hL.1 fun x hx=>by simpa using List.all_eq_true.1 hL.2 x hx)
   ·cases hok
  ·cases hok
 ·cases h
theorem sp_85_ok {sp:jab} (h:jac Tryz.prog sp):jac Tryz.prog (sp_85 sp):=jaA jnn h
end Go.Sh
end

section
namespace Go.Sh
open Go Go.Proofs Go.RowKit Go.Sx
open Go.IntKind (wrap)
def jgQ:List SV:=[.a [.d,.x (.st [.s,.i .i64,.ints .i64,.ints .i64,.ints .i64,.i .i64,.recs 5,.i .i64] [])]]
def jbt (u0:List (List NC)) (x0:Int × List Bool × List Int) (x1:Int):Option (Int ⊕ Int) :=
 if x1<(↑(List.length u0):Int)then
  if 0≤x1∧x1<(↑(List.length x0.2.1):Int)then
  if Int.toNat x1<List.length x0.2.1 then
   if(!List.getD x0.2.1 (Int.toNat x1) false)=true then
   Option.bind (jbw u0 x1 x0.2.1) fun r1 =>
   if(r1)=true then
    some (.inr x1)
   else
    some (.inl (wrap .i64 (x1+1)))
   else
   some (.inl (wrap .i64 (x1+1)))
  else none
  else none
 else
  some (.inr (-1:Int))
def jcH (x0:Int × List Bool × List Int) (u26:Int):Option ((Int × List Bool × List Int) ⊕ (Unit ⊕ (List Int))) :=
 if(u26==(-1:Int))=true then
  some (.inr ((.inl ())))
 else
  if 0≤u26∧u26<(↑(List.length x0.2.1):Int)then
  if Int.toNat u26<List.length x0.2.1 then
   if(List.length x0.2.2+List.length [u26])*8≤140737488355328∧List.length x0.2.2+List.length [u26]≤9223372036854775807 then
   some (.inl ((wrap .i64 (x0.1+1),List.set x0.2.1 (Int.toNat u26) true,x0.2.2++[u26])))
   else none
  else none
  else none
def ja4 (u0:List (List NC)) (x0:(Int × List Bool × List Int)):Option ((Int × List Bool × List Int) ⊕ (Unit ⊕ (List Int))) :=
 if x0.1<(↑(List.length u0):Int)then
  Option.bind (jad (jbt u0 x0) big (0:Int)) (jcH x0)
 else
  some (.inr (.inr x0.2.2))
def jpm (u3:Unit):Option Int :=
 some (19:Int)
def jpn (u4:List Int):Option Int :=
 none
def jbB:(Unit ⊕ (List Int))→Option Int :=
 (Sum.elim (jpm) (jpn))
def jb9 (u1:ByteArray) (u0:List (List NC)):Option Int :=
 Option.bind (y12 u1 u0) fun r0 =>
 if(r0.2 != 0)=true then
  some r0.2
 else
  if 0≤(↑(List.length u0):Int)∧(↑(List.length u0):Int)=(↑(List.length u0):Int)∧(↑(1:Nat):Int)*(↑(List.length u0):Int)≤281474976710656∧(↑(List.length u0):Int)≤9223372036854775807 then
  Option.bind (jad (ja4 u0) big (((0:Int),List.replicate (Int.toNat (↑(List.length u0):Int)) false,[]))) (jbB)
  else none
def jdc (u0:List (List NC)) (x0:Int × List Bool × List Int) (x1:Int):Option (Int ⊕ Int) :=
 if x1<(↑(List.length u0):Int)then
  if 0≤x1∧x1<(↑(List.length x0.2.1):Int)then
  if Int.toNat x1<List.length x0.2.1 then
   if(!List.getD x0.2.1 (Int.toNat x1) false)=true then
   Option.bind (jbw u0 x1 x0.2.1) fun r1 =>
   if(r1)=true then
    some (.inr x1)
   else
    some (.inl (wrap .i64 (x1+1)))
   else
   some (.inl (wrap .i64 (x1+1)))
  else none
  else none
 else
  some (.inr (-1:Int))
def jdd (x0:Int × List Bool × List Int) (u26:Int):Option ((Int × List Bool × List Int) ⊕ (Unit ⊕ (List Int))) :=
 if(u26==(-1:Int))=true then
  some (.inr ((.inl ())))
 else
  if 0≤u26∧u26<(↑(List.length x0.2.1):Int)then
  if Int.toNat u26<List.length x0.2.1 then
   if(List.length x0.2.2+List.length [u26])*8≤140737488355328∧List.length x0.2.2+List.length [u26]≤9223372036854775807 then
   some (.inl ((wrap .i64 (x0.1+1),List.set x0.2.1 (Int.toNat u26) true,x0.2.2++[u26])))
   else none
  else none
  else none
def jbu (u0:List (List NC)) (x0:(Int × List Bool × List Int)):Option ((Int × List Bool × List Int) ⊕ (Unit ⊕ (List Int))) :=
 if x0.1<(↑(List.length u0):Int)then
  Option.bind (jad (jdc u0 x0) big (0:Int)) (jdd x0)
 else
  some (.inr (.inr x0.2.2))
def jpo (u1:ByteArray) (u3:Unit):Option (ByteArray × List Int × Int) :=
 none
def jpp (u1:ByteArray) (u4:List Int):Option (ByteArray × List Int × Int) :=
 some ((u1,u4,0))
def jbC (u1:ByteArray):(Unit ⊕ (List Int))→Option (ByteArray × List Int × Int) :=
 (Sum.elim (jpo u1) (jpp u1))
def jca (u1:ByteArray) (u0:List (List NC)):Option (ByteArray × List Int × Int) :=
 Option.bind (y12 u1 u0) fun r0 =>
 if(r0.2 != 0)=true then
  none
 else
  if 0≤(↑(List.length u0):Int)∧(↑(List.length u0):Int)=(↑(List.length u0):Int)∧(↑(1:Nat):Int)*(↑(List.length u0):Int)≤281474976710656∧(↑(List.length u0):Int)≤9223372036854775807 then
  Option.bind (jad (jbu u0) big (((0:Int),List.replicate (Int.toNat (↑(List.length u0):Int)) false,[]))) (jbC u1)
  else none
def jq2:List Lf→Option GT
 |[.d (.s u1),.x (.st [.s,.i .i64,.ints .i64,.ints .i64,.ints .i64,.i .i64,.recs 5,.i .i64] u0)]=>some (.br (Option.isSome (jb9 u1 u0)) (.leaf (ok (jb9 u1 u0)) [.c (.d (.v (Value.pointer none))),.c (.d (.i .i64 ((val (jb9 u1 u0)))))]) (.leaf (ok (jca u1 u0)) [.c (.box 130 [.d (.s ((val (jca u1 u0)).1)),.g 0,.row 3 (.ints .i64 ((val (jca u1 u0)).2.1))]),.c (.d (.i .i64 ((val (jca u1 u0)).2.2)))]))
 |_=>none
abbrev jfN (u0:List (List NC)):=((↑(List.length u0):Int)=(↑(List.length u0):Int))
theorem jso (u1:ByteArray) (u0:List (List NC)) (r:Int) (h:Option.bind (jb9 u1 u0) some=some r):jbQ Tryz.f80 ((sp_18 (sp_85 sp0))) (fun gs id _=>match id with
 |0=>some ⟨(Int × List Bool × List Int) × Nat,fun z=>⟨[(1,.w (.c (.p 1 0 1 0))),(6,.w (.c (.p 2 0 1 0))),(7,.w (.c (.o 3))),(27,.w (.c (.d (.i .i64 ((↑(List.length u0):Int)))))),(28,.w (.c (.d (.i .i64 (Prod.fst (Prod.fst z))))))],[(1,.box 24 [.d (.s u1),.o 0]),(2,.box 130 [.d (.s u1),.o 0,.o 4]),(3,.row 4 (.bools (Prod.fst (Prod.snd (Prod.fst z))))),(0,.xext (XC.st [NK.s,NK.i .i64,NK.ints .i64,NK.ints .i64,NK.ints .i64,NK.i .i64,NK.recs (5:Nat),NK.i .i64] u0)),(4,.row 3 (.ints .i64 (Prod.snd (Prod.snd (Prod.fst z)))))],5⟩,fun z=>Option.bind (jad (ja4 u0) (Prod.snd z) (Prod.fst z)) (fun y0=>Option.bind (jbB y0) some)=some r,fun z=>Prod.snd z⟩
 |2=>some ⟨(Int × List Bool × List Int) × Nat × Int × Nat,fun z=>⟨[(1,.w (.c (.p 1 0 1 0))),(6,.w (.c (.p 2 0 1 0))),(7,.w (.c (.o 3))),(8,.w (.c (.d (.i .i64 (-1:Int))))),(27,.w (.c (.d (.i .i64 ((↑(List.length u0):Int)))))),(28,.w (.c (.d (.i .i64 ((Prod.fst z).1))))),(32,.w (.c (.d (.i .i64 ((↑(List.length u0):Int)))))),(33,.w (.c (.d (.i .i64 (Prod.fst (Prod.snd (Prod.snd z)))))))],[(1,.box 24 [.d (.s u1),.o 0]),(2,.box 130 [.d (.s u1),.o 0,.o 4]),(3,.row 4 (.bools ((Prod.fst z).2.1))),(0,.xext (XC.st [NK.s,NK.i .i64,NK.ints .i64,NK.ints .i64,NK.ints .i64,NK.i .i64,NK.recs (5:Nat),NK.i .i64] u0)),(4,.row 3 (.ints .i64 ((Prod.fst z).2.2)))],5⟩,fun z=>Prod.fst (Prod.snd z)+1=gs.getD 0 0∧Option.bind (jad (jbt u0 (Prod.fst z)) (Prod.snd (Prod.snd (Prod.snd z))) (Prod.fst (Prod.snd (Prod.snd z)))) (fun y0=>Option.bind (jcH (Prod.fst z) y0) (jbJ (ja4 u0) (Prod.fst (Prod.snd z)) (fun y1=>Option.bind (jbB y1) some)))=some r,fun z=>Prod.snd (Prod.snd (Prod.snd z))⟩
 |_=>none) (jbA jgQ [.d (.s u1),.x (.st [.s,.i .i64,.ints .i64,.ints .i64,.ints .i64,.i .i64,.recs 5,.i .i64] u0)]) [.c (.d (.v (Value.pointer none))),.c (.d (.i .i64 r))]:=by
 refine Eq.mp (by kernel_rfl:(
 (Ob (ok (y12 u1 u0)) ∧
 Br ((val (y12 u1 u0)).2 != 0)
  ((Ob True ∧
 (Ob True ∧
 (Ob (Value.pointer none=Value.pointer none) ∧
 (Ob ((val (y12 u1 u0)).2=r) ∧
 True)))))
  ((Ob (0≤(↑(List.length u0):Int)∧(↑(List.length u0):Int)=(↑(List.length u0):Int)∧(↑(1:Nat):Int)*(↑(List.length u0):Int)≤281474976710656∧(↑(List.length u0):Int)≤9223372036854775807) ∧
  ((∃(v0:(Int × List Bool × List Int) × Nat),(Ob ((Option.bind (jad (ja4 u0) v0.2 v0.1) fun y0=>Option.bind (jbB y0) some)=some r) ∧
 (Ob (0=0) ∧
 (Ob (0=0) ∧
 (Ob (jfN u0) ∧
 (Ob ((0:Int)=v0.1.1) ∧
 (Ob (u1=u1) ∧
 (Ob (u1=u1) ∧
 (Ob (List.replicate (Int.toNat (↑(List.length u0):Int)) false=v0.1.2.1) ∧
 (Ob (u0=u0) ∧
 (Ob (List.length v0.1.2.2=(0:Nat)) ∧
 True))))))))))) ∧
  (∀(v0:(Int × List Bool × List Int) × Nat),((Option.bind (jad (ja4 u0) v0.2 v0.1) fun y0=>Option.bind (jbB y0) some)=some r →
 Br (decide (v0.1.1<(↑(List.length u0):Int)))
  (((∃(v1:(Int × List Bool × List Int) × Nat × Int × Nat),(Ob (v1.2.1+1=v0.2∧(Option.bind (jad (jbt u0 v1.1) v1.2.2.2 v1.2.2.1) fun y0=>Option.bind (jcH v1.1 y0) (jbJ (ja4 u0) v1.2.1 fun y1=>Option.bind (jbB y1) some))=some r) ∧
 (Ob (0=0) ∧
 (Ob (0=0) ∧
 (Ob ((-1:Int)=(-1:Int)) ∧
 (Ob (jfN u0) ∧
 (Ob (v0.1.1=v1.1.1) ∧
 (Ob (jfN u0) ∧
 (Ob ((0:Int)=v1.2.2.1) ∧
 (Ob (u1=u1) ∧
 (Ob (u1=u1) ∧
 (Ob (v0.1.2.1=v1.1.2.1) ∧
 (Ob (u0=u0) ∧
 (Ob (v0.1.2.2=v1.1.2.2) ∧
 True)))))))))))))) ∧
  (∀(v1:(Int × List Bool × List Int) × Nat × Int × Nat),(v1.2.1+1=v0.2∧(Option.bind (jad (jbt u0 v1.1) v1.2.2.2 v1.2.2.1) fun y0=>Option.bind (jcH v1.1 y0) (jbJ (ja4 u0) v1.2.1 fun y1=>Option.bind (jbB y1) some))=some r →
 Br (decide (v1.2.2.1<(↑(List.length u0):Int)))
  ((Ob (0≤v1.2.2.1∧v1.2.2.1<(↑(List.length v1.1.2.1):Int)) ∧
 (Ob (Int.toNat v1.2.2.1<List.length v1.1.2.1) ∧
 Br (!List.getD v1.1.2.1 (Int.toNat v1.2.2.1) false)
  ((Ob (ok (jbw u0 v1.2.2.1 v1.1.2.1)) ∧
 Br (val (jbw u0 v1.2.2.1 v1.1.2.1))
 (Br (v1.2.2.1==(-1:Int))
  ((Ob True ∧
 (Ob True ∧
 (Ob (Value.pointer none=Value.pointer none) ∧
 (Ob ((19:Int)=r) ∧
 True)))))
  ((Ob (0≤v1.2.2.1∧v1.2.2.1<(↑(List.length v1.1.2.1):Int)) ∧
 (Ob (Int.toNat v1.2.2.1<List.length v1.1.2.1) ∧
 (Ob ((List.length v1.1.2.2+List.length [v1.2.2.1])*8≤140737488355328∧List.length v1.1.2.2+List.length [v1.2.2.1]≤9223372036854775807) ∧
  (∃(v2:(Int × List Bool × List Int) × Nat),(Ob ((Option.bind (jad (ja4 u0) v2.2 v2.1) fun y0=>Option.bind (jbB y0) some)=some r) ∧
 (Ob (v2.2<v0.2) ∧
 (Ob (0=0) ∧
 (Ob (0=0) ∧
 (Ob (jfN u0) ∧
 (Ob (wrap .i64 (v1.1.1+1)=v2.1.1) ∧
 (Ob (u1=u1) ∧
 (Ob (u1=u1) ∧
 (Ob (List.set v1.1.2.1 (Int.toNat v1.2.2.1) true=v2.1.2.1) ∧
 (Ob (u0=u0) ∧
 (Ob (v1.1.2.2++[v1.2.2.1]=v2.1.2.2) ∧
 True)))))))))))))))))
  ((∃(v2a:(Int × List Bool × List Int) × Nat × Int × Nat),(Ob (v2a.2.1+1=v0.2∧(Option.bind (jad (jbt u0 v2a.1) v2a.2.2.2 v2a.2.2.1) fun y0=>Option.bind (jcH v2a.1 y0) (jbJ (ja4 u0) v2a.2.1 fun y1=>Option.bind (jbB y1) some))=some r) ∧
 (Ob (v2a.2.2.2<v1.2.2.2) ∧
 (Ob (0=0) ∧
 (Ob (0=0) ∧
 (Ob ((-1:Int)=(-1:Int)) ∧
 (Ob (jfN u0) ∧
 (Ob (v1.1.1=v2a.1.1) ∧
 (Ob (jfN u0) ∧
 (Ob (wrap .i64 (v1.2.2.1+1)=v2a.2.2.1) ∧
 (Ob (u1=u1) ∧
 (Ob (u1=u1) ∧
 (Ob (v1.1.2.1=v2a.1.2.1) ∧
 (Ob (u0=u0) ∧
 (Ob (v1.1.2.2=v2a.1.2.2) ∧
 True))))))))))))))))))
  ((∃(v2a:(Int × List Bool × List Int) × Nat × Int × Nat),(Ob (v2a.2.1+1=v0.2∧(Option.bind (jad (jbt u0 v2a.1) v2a.2.2.2 v2a.2.2.1) fun y0=>Option.bind (jcH v2a.1 y0) (jbJ (ja4 u0) v2a.2.1 fun y1=>Option.bind (jbB y1) some))=some r) ∧
 (Ob (v2a.2.2.2<v1.2.2.2) ∧
 (Ob (0=0) ∧
 (Ob (0=0) ∧
 (Ob ((-1:Int)=(-1:Int)) ∧
 (Ob (jfN u0) ∧
 (Ob (v1.1.1=v2a.1.1) ∧
 (Ob (jfN u0) ∧
 (Ob (wrap .i64 (v1.2.2.1+1)=v2a.2.2.1) ∧
 (Ob (u1=u1) ∧
 (Ob (u1=u1) ∧
 (Ob (v1.1.2.1=v2a.1.2.1) ∧
 (Ob (u0=u0) ∧
 (Ob (v1.1.2.2=v2a.1.2.2) ∧
 True)))))))))))))))))))
  ((Ob True ∧
 (Ob True ∧
 (Ob (Value.pointer none=Value.pointer none) ∧
 (Ob ((19:Int)=r) ∧
 True)))))))))
  ((Ob True ∧
 (Ob True ∧
  False))))))))))=_) ?_
 refine jaE h fun h=>?_
 refine jaw h (fun h=>?_) (fun h=>?_)
 ·refine jaf ?_
  refine jaf ?_
  exact jag h (fun e=>by subst e; exact(by repeat' constructor))
 ·refine jaz h fun h=>?_
  refine⟨⟨(((0:Int),List.replicate (Int.toNat (↑(List.length u0):Int)) false,[]),big),⟨jaT h⟩,(by repeat' constructor)⟩,fun z2 hz2=>?_⟩
  obtain⟨k2,hm2,h⟩:=jaD hz2
  refine jay h (fun h=>?_) (fun h=>?_)
  ·refine⟨⟨(Prod.fst z2,k2,0,big),⟨⟨hm2.symm,jaT h⟩⟩,(by repeat' constructor)⟩,fun z3 hz3=>?_⟩
   obtain⟨k3,hm3,h⟩:=jaD hz3.2
   refine jay h (fun h=>?_) (fun h=>?_)
   ·refine jaz h fun h=>?_
    refine jaz h fun h=>?_
    refine jaw h (fun h=>?_) (fun h=>?_)
    ·refine jaE h fun h=>?_
     refine jaw h (fun h=>?_) (fun h=>?_)
     ·have h:=jah h
      refine jaw h (fun h=>?_) (fun h=>?_)
      ·have h:=jah h
       refine jaf ?_
       refine jaf ?_
       exact jag h (fun e=>by subst e; exact(by repeat' constructor))
      ·refine jaz h fun h=>?_
       refine jaz h fun h=>?_
       refine jaz h fun h=>?_
       exact⟨(_,Prod.fst (Prod.snd z3)),⟨jav h⟩,⟨jaC hz3.1⟩,(by repeat' constructor)⟩
     ·exact⟨(Prod.fst z3,Prod.fst (Prod.snd z3),wrap .i64 (Prod.fst (Prod.snd (Prod.snd z3))+1),k3),⟨⟨hz3.1,jav h⟩⟩,⟨jaC hm3.symm⟩,(by repeat' constructor)⟩
    ·exact⟨(Prod.fst z3,Prod.fst (Prod.snd z3),wrap .i64 (Prod.fst (Prod.snd (Prod.snd z3))+1),k3),⟨⟨hz3.1,jav h⟩⟩,⟨jaC hm3.symm⟩,(by repeat' constructor)⟩
   ·have h:=jah h
    have h:=jxF (by first|decide|rfl|simp) h
    have h:=jah h
    refine jaf ?_
    refine jaf ?_
    exact jag h (fun e=>by subst e; exact(by repeat' constructor))
  ·have h:=jah h
   refine jaf ?_
   refine jaf ?_
   exact nomatch h
abbrev jfO (u0:List (List NC)):=((↑(List.length u0):Int)=(↑(List.length u0):Int))
theorem jsp (u1:ByteArray) (u0:List (List NC)) (r:ByteArray × List Int × Int) (h:Option.bind (jca u1 u0) some=some r):jbQ Tryz.f80 ((sp_18 (sp_85 sp0))) (fun gs id _=>match id with
 |0=>some ⟨(Int × List Bool × List Int) × Nat,fun z=>⟨[(1,.w (.c (.p 1 0 1 0))),(6,.w (.c (.p 2 0 1 0))),(7,.w (.c (.o 3))),(27,.w (.c (.d (.i .i64 ((↑(List.length u0):Int)))))),(28,.w (.c (.d (.i .i64 (Prod.fst (Prod.fst z))))))],[(1,.box 24 [.d (.s u1),.o 0]),(2,.box 130 [.d (.s u1),.o 0,.o 4]),(3,.row 4 (.bools (Prod.fst (Prod.snd (Prod.fst z))))),(0,.xext (XC.st [NK.s,NK.i .i64,NK.ints .i64,NK.ints .i64,NK.ints .i64,NK.i .i64,NK.recs (5:Nat),NK.i .i64] u0)),(4,.row 3 (.ints .i64 (Prod.snd (Prod.snd (Prod.fst z)))))],5⟩,fun z=>Option.bind (jad (jbu u0) (Prod.snd z) (Prod.fst z)) (fun y0=>Option.bind (jbC u1 y0) some)=some r,fun z=>Prod.snd z⟩
 |2=>some ⟨(Int × List Bool × List Int) × Nat × Int × Nat,fun z=>⟨[(1,.w (.c (.p 1 0 1 0))),(6,.w (.c (.p 2 0 1 0))),(7,.w (.c (.o 3))),(8,.w (.c (.d (.i .i64 (-1:Int))))),(27,.w (.c (.d (.i .i64 ((↑(List.length u0):Int)))))),(28,.w (.c (.d (.i .i64 ((Prod.fst z).1))))),(32,.w (.c (.d (.i .i64 ((↑(List.length u0):Int)))))),(33,.w (.c (.d (.i .i64 (Prod.fst (Prod.snd (Prod.snd z)))))))],[(1,.box 24 [.d (.s u1),.o 0]),(2,.box 130 [.d (.s u1),.o 0,.o 4]),(3,.row 4 (.bools ((Prod.fst z).2.1))),(0,.xext (XC.st [NK.s,NK.i .i64,NK.ints .i64,NK.ints .i64,NK.ints .i64,NK.i .i64,NK.recs (5:Nat),NK.i .i64] u0)),(4,.row 3 (.ints .i64 ((Prod.fst z).2.2)))],5⟩,fun z=>Prod.fst (Prod.snd z)+1=gs.getD 0 0∧Option.bind (jad (jdc u0 (Prod.fst z)) (Prod.snd (Prod.snd (Prod.snd z))) (Prod.fst (Prod.snd (Prod.snd z)))) (fun y0=>Option.bind (jdd (Prod.fst z) y0) (jbJ (jbu u0) (Prod.fst (Prod.snd z)) (fun y1=>Option.bind (jbC u1 y1) some)))=some r,fun z=>Prod.snd (Prod.snd (Prod.snd z))⟩
 |_=>none) (jbA jgQ [.d (.s u1),.x (.st [.s,.i .i64,.ints .i64,.ints .i64,.ints .i64,.i .i64,.recs 5,.i .i64] u0)]) [.c (.box 130 [.d (.s r.1),.g 0,.row 3 (.ints .i64 r.2.1)]),.c (.d (.i .i64 r.2.2))]:=by
 refine Eq.mp (by kernel_rfl:(
 (Ob (ok (y12 u1 u0)) ∧
 Br ((val (y12 u1 u0)).2 != 0)
  ((Ob True ∧
 (Ob True ∧
  False)))
  ((Ob (0≤(↑(List.length u0):Int)∧(↑(List.length u0):Int)=(↑(List.length u0):Int)∧(↑(1:Nat):Int)*(↑(List.length u0):Int)≤281474976710656∧(↑(List.length u0):Int)≤9223372036854775807) ∧
  ((∃(v0:(Int × List Bool × List Int) × Nat),(Ob ((Option.bind (jad (jbu u0) v0.2 v0.1) fun y0=>Option.bind (jbC u1 y0) some)=some r) ∧
 (Ob (0=0) ∧
 (Ob (0=0) ∧
 (Ob (jfO u0) ∧
 (Ob ((0:Int)=v0.1.1) ∧
 (Ob (u1=u1) ∧
 (Ob (u1=u1) ∧
 (Ob (List.replicate (Int.toNat (↑(List.length u0):Int)) false=v0.1.2.1) ∧
 (Ob (u0=u0) ∧
 (Ob (List.length v0.1.2.2=(0:Nat)) ∧
 True))))))))))) ∧
  (∀(v0:(Int × List Bool × List Int) × Nat),((Option.bind (jad (jbu u0) v0.2 v0.1) fun y0=>Option.bind (jbC u1 y0) some)=some r →
 Br (decide (v0.1.1<(↑(List.length u0):Int)))
  (((∃(v1:(Int × List Bool × List Int) × Nat × Int × Nat),(Ob (v1.2.1+1=v0.2∧(Option.bind (jad (jdc u0 v1.1) v1.2.2.2 v1.2.2.1) fun y0=>Option.bind (jdd v1.1 y0) (jbJ (jbu u0) v1.2.1 fun y1=>Option.bind (jbC u1 y1) some))=some r) ∧
 (Ob (0=0) ∧
 (Ob (0=0) ∧
 (Ob ((-1:Int)=(-1:Int)) ∧
 (Ob (jfO u0) ∧
 (Ob (v0.1.1=v1.1.1) ∧
 (Ob (jfO u0) ∧
 (Ob ((0:Int)=v1.2.2.1) ∧
 (Ob (u1=u1) ∧
 (Ob (u1=u1) ∧
 (Ob (v0.1.2.1=v1.1.2.1) ∧
 (Ob (u0=u0) ∧
 (Ob (v0.1.2.2=v1.1.2.2) ∧
 True)))))))))))))) ∧
  (∀(v1:(Int × List Bool × List Int) × Nat × Int × Nat),(v1.2.1+1=v0.2∧(Option.bind (jad (jdc u0 v1.1) v1.2.2.2 v1.2.2.1) fun y0=>Option.bind (jdd v1.1 y0) (jbJ (jbu u0) v1.2.1 fun y1=>Option.bind (jbC u1 y1) some))=some r →
 Br (decide (v1.2.2.1<(↑(List.length u0):Int)))
  ((Ob (0≤v1.2.2.1∧v1.2.2.1<(↑(List.length v1.1.2.1):Int)) ∧
 (Ob (Int.toNat v1.2.2.1<List.length v1.1.2.1) ∧
 Br (!List.getD v1.1.2.1 (Int.toNat v1.2.2.1) false)
  ((Ob (ok (jbw u0 v1.2.2.1 v1.1.2.1)) ∧
 Br (val (jbw u0 v1.2.2.1 v1.1.2.1))
 (Br (v1.2.2.1==(-1:Int))
  ((Ob True ∧
 (Ob True ∧
  False)))
  ((Ob (0≤v1.2.2.1∧v1.2.2.1<(↑(List.length v1.1.2.1):Int)) ∧
 (Ob (Int.toNat v1.2.2.1<List.length v1.1.2.1) ∧
 (Ob ((List.length v1.1.2.2+List.length [v1.2.2.1])*8≤140737488355328∧List.length v1.1.2.2+List.length [v1.2.2.1]≤9223372036854775807) ∧
  (∃(v2:(Int × List Bool × List Int) × Nat),(Ob ((Option.bind (jad (jbu u0) v2.2 v2.1) fun y0=>Option.bind (jbC u1 y0) some)=some r) ∧
 (Ob (v2.2<v0.2) ∧
 (Ob (0=0) ∧
 (Ob (0=0) ∧
 (Ob (jfO u0) ∧
 (Ob (wrap .i64 (v1.1.1+1)=v2.1.1) ∧
 (Ob (u1=u1) ∧
 (Ob (u1=u1) ∧
 (Ob (List.set v1.1.2.1 (Int.toNat v1.2.2.1) true=v2.1.2.1) ∧
 (Ob (u0=u0) ∧
 (Ob (v1.1.2.2++[v1.2.2.1]=v2.1.2.2) ∧
 True)))))))))))))))))
  ((∃(v2a:(Int × List Bool × List Int) × Nat × Int × Nat),(Ob (v2a.2.1+1=v0.2∧(Option.bind (jad (jdc u0 v2a.1) v2a.2.2.2 v2a.2.2.1) fun y0=>Option.bind (jdd v2a.1 y0) (jbJ (jbu u0) v2a.2.1 fun y1=>Option.bind (jbC u1 y1) some))=some r) ∧
 (Ob (v2a.2.2.2<v1.2.2.2) ∧
 (Ob (0=0) ∧
 (Ob (0=0) ∧
 (Ob ((-1:Int)=(-1:Int)) ∧
 (Ob (jfO u0) ∧
 (Ob (v1.1.1=v2a.1.1) ∧
 (Ob (jfO u0) ∧
 (Ob (wrap .i64 (v1.2.2.1+1)=v2a.2.2.1) ∧
 (Ob (u1=u1) ∧
 (Ob (u1=u1) ∧
 (Ob (v1.1.2.1=v2a.1.2.1) ∧
 (Ob (u0=u0) ∧
 (Ob (v1.1.2.2=v2a.1.2.2) ∧
 True))))))))))))))))))
  ((∃(v2a:(Int × List Bool × List Int) × Nat × Int × Nat),(Ob (v2a.2.1+1=v0.2∧(Option.bind (jad (jdc u0 v2a.1) v2a.2.2.2 v2a.2.2.1) fun y0=>Option.bind (jdd v2a.1 y0) (jbJ (jbu u0) v2a.2.1 fun y1=>Option.bind (jbC u1 y1) some))=some r) ∧
 (Ob (v2a.2.2.2<v1.2.2.2) ∧
 (Ob (0=0) ∧
 (Ob (0=0) ∧
 (Ob ((-1:Int)=(-1:Int)) ∧
 (Ob (jfO u0) ∧
 (Ob (v1.1.1=v2a.1.1) ∧
 (Ob (jfO u0) ∧
 (Ob (wrap .i64 (v1.2.2.1+1)=v2a.2.2.1) ∧
 (Ob (u1=u1) ∧
 (Ob (u1=u1) ∧
 (Ob (v1.1.2.1=v2a.1.2.1) ∧
 (Ob (u0=u0) ∧
 (Ob (v1.1.2.2=v2a.1.2.2) ∧
 True)))))))))))))))))))
  ((Ob True ∧
 (Ob True ∧
  False)))))))
  ((Ob True ∧
 (Ob True ∧
 (Ob (u1=r.1) ∧
 (Ob (v0.1.2.2=r.2.1) ∧
 (Ob ((0:Int)=r.2.2) ∧
 True)))))))))))))=_) ?_
 refine jaE h fun h=>?_
 refine jaw h (fun h=>?_) (fun h=>?_)
 ·refine jaf ?_
  refine jaf ?_
  exact nomatch h
 ·refine jaz h fun h=>?_
  refine⟨⟨(((0:Int),List.replicate (Int.toNat (↑(List.length u0):Int)) false,[]),big),⟨jaT h⟩,(by repeat' constructor)⟩,fun z2 hz2=>?_⟩
  obtain⟨k2,hm2,h⟩:=jaD hz2
  refine jay h (fun h=>?_) (fun h=>?_)
  ·refine⟨⟨(Prod.fst z2,k2,0,big),⟨⟨hm2.symm,jaT h⟩⟩,(by repeat' constructor)⟩,fun z3 hz3=>?_⟩
   obtain⟨k3,hm3,h⟩:=jaD hz3.2
   refine jay h (fun h=>?_) (fun h=>?_)
   ·refine jaz h fun h=>?_
    refine jaz h fun h=>?_
    refine jaw h (fun h=>?_) (fun h=>?_)
    ·refine jaE h fun h=>?_
     refine jaw h (fun h=>?_) (fun h=>?_)
     ·have h:=jah h
      refine jaw h (fun h=>?_) (fun h=>?_)
      ·have h:=jah h
       refine jaf ?_
       refine jaf ?_
       exact nomatch h
      ·refine jaz h fun h=>?_
       refine jaz h fun h=>?_
       refine jaz h fun h=>?_
       exact⟨(_,Prod.fst (Prod.snd z3)),⟨jav h⟩,⟨jaC hz3.1⟩,(by repeat' constructor)⟩
     ·exact⟨(Prod.fst z3,Prod.fst (Prod.snd z3),wrap .i64 (Prod.fst (Prod.snd (Prod.snd z3))+1),k3),⟨⟨hz3.1,jav h⟩⟩,⟨jaC hm3.symm⟩,(by repeat' constructor)⟩
    ·exact⟨(Prod.fst z3,Prod.fst (Prod.snd z3),wrap .i64 (Prod.fst (Prod.snd (Prod.snd z3))+1),k3),⟨⟨hz3.1,jav h⟩⟩,⟨jaC hm3.symm⟩,(by repeat' constructor)⟩
   ·have h:=jah h
    have h:=jxF (by first|decide|rfl|simp) h
    have h:=jah h
    refine jaf ?_
    refine jaf ?_
    exact nomatch h
  ·have h:=jah h
   refine jaf ?_
   refine jaf ?_
   exact jag h (fun e=>by subst e; exact(by repeat' constructor))
theorem jvE:jaj Tryz.prog 80 true (jat jgQ jq2):=by
 refine jaS (sp:=(sp_18 (sp_85 sp0))) (fn:=Tryz.f80) (body:=bodyOf Tryz.f80) mixed (sp_18_ok (sp_85_ok jaB)) Tryz.func80 (by kernel_rfl) (by kernel_rfl) fun ls t h ho b hb=>?_
 unfold jq2 at h
 split at h
 ·rename_i u1 u0
  cases h
  obtain rfl:=ja9 hb
  refine jyF (Q:=fun rs=>_∧∃fuel loops,sx _ _ _ _ fuel loops _ _ _ _ _ (jd6 _ _ fun v hp _=>jkd _ rs v hp)) (fun _ ho=>⟨Nat.le_of_ble_eq_true (by kernel_rfl),_,_,jso u1 u0 _ (jax ho)⟩) (fun _ ho=>?_) ho
  exact⟨Nat.le_of_ble_eq_true (by kernel_rfl),_,_,jsp u1 u0 _ (jax ho)⟩
 ·cases h
end Go.Sh
end

section
namespace Go.Sh
open Go Go.Proofs Go.RowKit Go.Sx
theorem jyk {g:List (List NC)} {i:Nat} (h:jbK g i=0):(∀x∈nL g i 2,0≤x∧x<(g.length:Int))∧(nI g i 7=-1∨(0≤nI g i 7∧nI g i 7<(g.length:Int))):=by
 have hm:jd2 g.length (nL g i 2)=false:=by
  cases hb:jd2 g.length (nL g i 2)with
  |false=>rfl
  |true =>
   exfalso
   unfold jbK at h
   rw[if_pos hb]at h
   repeat' split at h
   all_goals exact absurd h (by decide)
 have hs:sdB g.length (nI g i 7)=true:=by
  cases hb:sdB g.length (nI g i 7)with
  |true=>rfl
  |false =>
   exfalso
   unfold jbK at h
   rw[hm,if_neg (by simp:¬(false=true)),hb,if_pos (by simp:(!false)=true)]at h
   repeat' split at h
   all_goals exact absurd h (by decide)
 refine⟨fun x hx=>?_,?_⟩
 ·have:=List.any_eq_false.1 hm x hx
  simp only[inB,Bool.not_eq_true,Bool.not_eq_false',Bool.and_eq_true,decide_eq_true_eq]at this
  omega
 ·unfold sdB inB at hs
  simp only[Bool.or_eq_true,beq_iff_eq,Bool.and_eq_true,decide_eq_true_eq]at hs
  omega
def jhJ (out:List Int) (k:Nat):Bool:=out.any (·== (k:Int))
def jgi (g:List (List NC)) (i k:Nat):Bool:=(nL g i 2).any (·== (k:Int))||nI g i 7==(k:Int)
def jeI (g:List (List NC)) (out:List Int) (i:Nat):Bool:=!(List.range g.length).any fun k=>jgi g i k && !jhJ out k
def jdA (g:List (List NC)) (out:List Int) (i:Nat):Bool:=!jhJ out i&&jeI g out i
def jbL (g:List (List NC)) (out:List Int):Option Nat:=(List.range g.length).find? (jdA g out)
def jbd (n:Nat) (out:List Int):List Bool:=(List.range n).map (jhJ out)
theorem joL {g:List (List NC)} (hw:Fw g) {i:Nat} (hi:i<g.length) (k:Nat) (nm:ByteArray) (a:Int) (b c:List Int) (d:Int) (e:List (List Int)):y98 nm a (nL g i 2) b c d e (nI g i 7) (k:Int)=some (jgi g i k):=by
 have h2:=hw.fr i hi
 unfold y98 jgi
 rw[jfc _ _ (by omega),jae]
 cases (nL g i 2).any (·== (k:Int))<;>rfl
theorem jvF {g:List (List NC)} (hw:Fw g) (nm:ByteArray) {i:Nat} (hi:i<g.length) (out:List Int) (ho:out.length<1000):y86 nm g out (i:Int)=some (jeI g out i):=by
 have hn:=hw.n
 unfold y86
 have key:=jdH (body:=y36 g out (i:Int)) g.length (fun k=>jgi g i k && !jhJ out k) (.inl ()) (.inr ()) (by omega) (fun k hk hp=>by
   simp only[Bool.and_eq_true,Bool.not_eq_true']at hp
   unfold y36
   simp only[Int.toNat_natCast]
   rw[if_pos (by omega),if_pos (by omega),if_pos hi,joL hw hi,jae,if_pos hp.1,jfc _ _ (by omega),jae]
   have h2:(out.any (·== (k:Int)))=false:=hp.2
   rw[h2]
   rfl) (fun k hk hp=>by
   unfold y36
   simp only[Int.toNat_natCast]
   rw[if_pos (by omega),if_pos (by omega),if_pos hi,joL hw hi,jae]
   cases h1:jgi g i k with
   |false=>rw[if_neg (by simp),jbk (by omega)]
   |true =>
    rw[h1]at hp
    have h2:jhJ out k=true:=by simpa using hp
    have h2:(out.any (·== (k:Int)))=true:=h2
    rw[if_pos rfl,jfc _ _ (by omega),jae,h2,jbk (by omega)]
    rfl) (by
   unfold y36
   rw[if_neg (by omega)])
 rw[key]
 unfold jeI
 cases (List.range g.length).any (fun k=>jgi g i k && !jhJ out k)<;>rfl
theorem jeJ (n:Nat) (out:List Int):(jbd n out).length=n:=by simp[jbd]
theorem jeK {n k:Nat} (hk:k<n) (out:List Int):(jbd n out).getD k false=jhJ out k:=by simp[jbd,List.getD,hk]
theorem jno {n i:Nat} (hi:i<n) (out:List Int):(jbd n out).set i true=jbd n (out++[(i:Int)]):=by
 refine List.ext_getElem (by simp[jbd]) fun k h1 h2=>?_
 have hk:k<n:=by simpa [jbd]using h2
 rw[List.getElem_set]
 simp only[jbd,List.getElem_map,List.getElem_range,jhJ,List.any_append,List.any_cons,List.any_nil,Bool.or_false]
 by_cases h:i=k
 ·subst h; simp
 ·rw[if_neg h]
  have:((i:Int)==(k:Int))=false:=by simp; omega
  rw[this,Bool.or_false]
theorem jkv {g:List (List NC)} (hw:Fw g) {i:Nat} (hi:i<g.length) (hr:jbK g i=0) (out:List Int):jbw g (i:Int) (jbd g.length out)=some (jeI g out i):=by
 have h2:=hw.fr i hi
 obtain⟨r1,r2⟩:=jyk hr
 have hmem:∀x,x∈Sx09.needL (nL g i 2) (nI g i 7)↔(x∈nL g i 2∨(nI g i 7≠-1∧x=nI g i 7)):=fun x=>by
  unfold Sx09.needL
  split
  ·rename_i h; simp[h]
  ·rename_i h; simp[h]
 have hrg:∀x∈Sx09.needL (nL g i 2) (nI g i 7),0≤x∧x<(g.length:Int):=fun x hx=>by
  rcases(hmem x).1 hx with h|⟨h,rfl⟩
  ·exact r1 x h
  ·exact r2.resolve_left h
 unfold jbw
 simp only[Int.toNat_natCast]
 rw[if_pos (by omega),if_pos ⟨by omega,by
  rw[List.all_eq_true]
  intro x hx
  rw[jeJ]
  simpa using hrg x hx⟩]
 congr 1
 rw[Bool.eq_iff_iff]
 unfold Sx09.readyB jeI
 rw[List.all_eq_true,Bool.not_eq_true',List.any_eq_false]
 constructor
 ·intro h k hk
  have hk:k<g.length:=List.mem_range.1 hk
  simp only[Bool.and_eq_true,Bool.not_eq_true',not_and,Bool.not_eq_false]
  intro hn
  have hx:(k:Int)∈Sx09.needL (nL g i 2) (nI g i 7):=by
   rw[hmem]
   unfold jgi at hn
   rw[Bool.or_eq_true,List.any_eq_true]at hn
   rcases hn with ⟨x,hx,e⟩|e
   ·have:x=(k:Int):=by simpa using e
    subst this; exact .inl hx
   ·have:nI g i 7=(k:Int):=by simpa using e
    exact .inr ⟨by omega,this.symm⟩
  have:=h _ hx
  rwa [Int.toNat_natCast,jeK hk]at this
 ·intro h x hx
  obtain⟨h0,h1⟩:=hrg x hx
  obtain⟨k,rfl⟩:∃k:Nat,x=(k:Int):=⟨x.toNat,by omega⟩
  have hk:k<g.length:=by omega
  rw[Int.toNat_natCast,jeK hk]
  have:=h k (List.mem_range.2 hk)
  simp only[Bool.and_eq_true,Bool.not_eq_true',not_and,Bool.not_eq_false]at this
  refine this ?_
  unfold jgi
  rw[Bool.or_eq_true,List.any_eq_true]
  rcases(hmem _).1 hx with h|⟨h,e⟩
  ·exact .inl ⟨_,h,by simp⟩
  ·exact .inr (by simp[←e])
theorem jw2 (P:Nat→Bool) (l:List Nat):(l.findIdx? P).map (fun i=>l.getD i 0)=l.find? P:=by
 induction l with
 |nil=>rfl
 |cons x r ih =>
  rw[List.findIdx?_cons,List.find?_cons]
  cases P x with
  |true=>rfl
  |false =>
   rw[←ih]
   cases r.findIdx? P<;>rfl
theorem jvG {Y:Type} (n:Nat) (P:Nat→Bool) {body:Int→Option (Int ⊕ Y)} (hit:Nat→Y) (miss:Y) (hlen:n<9223372036854775807)
  (h1:∀i,i<n→P i=true→body (i:Int)=some (.inr (hit i)))
  (h2:∀i,i<n→P i=false→body (i:Int)=some (.inl ((i:Int)+1))) (h3:body (n:Int)=some (.inr miss)) :
  jad body big 0=some (match(List.range n).find? P with|some i=>hit i|none=>miss):=by
 have hg:∀i,i<n→(List.range n).getD i 0=i:=fun i hi=>by simp[List.getD,hi]
 have key:=jbZ (body:=body) (List.range n) 0 P hit miss (by simpa using hlen) (fun i hi hp=>by
   have hi:i<n:=by simpa using hi
   rw[hg i hi]at hp; exact h1 i hi hp) (fun i hi hp=>by
   have hi:i<n:=by simpa using hi
   rw[hg i hi]at hp; exact h2 i hi hp) (by simpa using h3)
 rw[key,←jw2]
 cases h:(List.range n).findIdx? P with
 |none=>rfl
 |some i =>
  show some (hit i)=some (hit ((List.range n).getD i 0))
  rw[hg i (jnm h)]
def jc1 (next:List Int→Option Nat):Nat→List Int→Option (List Int)
 |0,out=>some out
 |k+1,out=>match next out with
  |some i=>jc1 next k (out++[(i:Int)])
  |none=>none
theorem jmc {X Y:Type} {body:X→Option (X ⊕ Y)} (F:List Int→X) (next:List Int→Option Nat) (good:List Int→Y) (bad:Y) (n:Nat)
  (h1:∀out,out.length<n→body (F out)=some (match next out with|some i=>.inl (F (out++[(i:Int)]))|none=>.inr bad)) (h2:∀out,out.length=n→body (F out)=some (.inr (good out))) :
  ∀(k:Nat) (out:List Int) (N:Nat),out.length+k=n→k<N→jad body N (F out)=some (match jc1 next k out with|some l=>good l|none=>bad)
 |0,out,0,_,h=>by omega
 |0,out,N+1,ho,_=>by
  unfold jad
  rw[h2 out (by omega)]
  rfl
 |k+1,out,0,_,h=>by omega
 |k+1,out,N+1,ho,hN=>by
  unfold jad
  rw[h1 out (by omega)]
  unfold jc1
  cases hx:next out with
  |none=>rfl
  |some i=>exact jmc F next good bad n h1 h2 k (out++[(i:Int)]) N (by simp; omega) (by omega)
end Go.Sh
end

section
open Go.RowKit
namespace Go.Sx
def nzI (e:Int):Int:=Int.ofNat (e.toNat-1+1)
theorem jy0 {e:Int} (h:0<e):nzI e=e:=by
 unfold nzI
 rw[Int.ofNat_eq_natCast]
 omega
theorem jvH [Globs] {P:Program} {f:Nat} {shs:List SV} {g g':List Lf→Option GT} (h:∀ls t',g' ls=some t'→∃t,g ls=some t∧(t'.sel.1→t.sel.1∧t.sel.2=t'.sel.2)) (hS:jaj P f true (jat shs g)):jaj P f true (jat shs g'):=by
 have key:∀args hp nx t',jat shs g' args hp nx=some t'→t'.sel.ob→∃t,jat shs g args hp nx=some t∧t.sel.ob∧t.sel.v=t'.sel.v∧t.sel.hp=t'.sel.hp∧t.sel.nx=t'.sel.nx:=by
  intro args hp nx t' ht hob
  unfold jat at ht ⊢
  split at ht
  ·rename_i ls am hto
   split at ht
   ·rename_i q' hg
    cases ht
    obtain⟨q,hq,himp⟩:=h ls q' hg
    rw[jbI]at hob ⊢
    obtain⟨h1,h2⟩:=himp hob
    refine⟨q.toRT am hp nx,by simp only[hq],?_,?_,?_,?_⟩
    ·rw[jbI]; exact h1
    all_goals rw[jbI]; simp only[h2]
   ·cases ht
  ·cases ht
 rcases hS with hR|hV
 ·refine .inl ⟨hR.enter,fun ρ B w args hp nx t' ht hob hlt hh hB=>?_⟩
  obtain⟨t,q1,q2,q3,q4,q5⟩:=key args hp nx t' ht hob
  refine(hR.sound ρ B w args hp nx t q1 q2 hlt hh hB).mono ?_
  rintro e w' ⟨ρ',he,hl⟩
  refine⟨ρ',by rw[he,q3],hl.agree,by rw[←q3,←q5]; exact hl.lt,by rw[←q5]; exact hl.le,by rw[←q4,←q5]; exact hl.heap,hl.below,hl.mono,by rw[←q4]; exact hl.fresh⟩
 ·refine .inr fun ρ B w args hp nx t' ht hob hlt hh hB=>?_
  obtain⟨t,q1,q2,q3,q4,q5⟩:=key args hp nx t' ht hob
  obtain⟨ob,v,e1,e2,e3⟩:=hV ρ B w args hp nx t q1 q2 hlt hh hB
  rw[e1]at q3 q4 q5
  refine⟨t'.sel.ob,v,?_,e2,e3⟩
  cases hs:t'.sel with
  |mk ob' v' hp' nx' =>
   rw[hs]at q3 q4 q5
   simp only at q3 q4 q5
   rw[←q3,←q4,←q5]
end Go.Sx
namespace Go.Sh
open Go Go.Proofs Go.RowKit Go.Sx
def jdJ (gName:ByteArray) (gUnits:List (List NC)):Option Int:=(jb9 gName gUnits).bind fun e=>if 0<e then some e else none
def jcq (gName:ByteArray) (gUnits:List (List NC)):Option (List Int):=(jca gName gUnits).map fun r=>r.2.1
def jhh (gName:ByteArray) (gUnits:List (List NC)):Bool:=(jb9 gName gUnits).isSome
def jkw:List Lf→Option GT
 |[.d (.s gName),.x (.st [.s,.i .i64,.ints .i64,.ints .i64,.ints .i64,.i .i64,.recs 5,.i .i64] gUnits)]=>some (.br (jhh gName gUnits) (.leaf (ok (jdJ gName gUnits)) [.c (.d (.v (Value.pointer none))),.c (.d (.i .i64 (nzI (val (jdJ gName gUnits)))))]) (.leaf (ok (jcq gName gUnits)) [.c (.box 130 [.d (.s gName),.g 0,.row 3 (.ints .i64 (val (jcq gName gUnits)))]),.c (.d (.i .i64 0))]))
 |_=>none
theorem jvI {gName:ByteArray} {gUnits:List (List NC)} {r:ByteArray × List Int × Int} (h:jca gName gUnits=some r):r.1=gName∧r.2.2=0:=by
 unfold jca at h
 obtain⟨c,_,h⟩:=Option.bind_eq_some_iff.1 h
 split at h
 ·cases h
 ·split at h
  ·obtain⟨y,_,h⟩:=Option.bind_eq_some_iff.1 h
   cases y with
   |inl u=>cases h
   |inr l=>cases h; exact⟨rfl,rfl⟩
  ·cases h
theorem jub:jaj Tryz.prog 80 true (jat jgQ jkw):=by
 refine jvH (fun ls t' h=>?_) jvE
 unfold jkw at h
 split at h
 ·rename_i gName gUnits
  cases h
  refine⟨_,rfl,fun hob=>?_⟩
  unfold jhh at hob ⊢
  cases hq:(jb9 gName gUnits).isSome with
  |true =>
   rw[hq]at hob
   have hob:ok (jdJ gName gUnits):=hob
   obtain⟨e,he⟩:=Option.isSome_iff_exists.1 hq
   have hF:jdJ gName gUnits=if 0<e then some e else none:=by unfold jdJ; rw[he]; rfl
   have hpos:0<e:=by
    rw[hF]at hob
    by_cases h0:0<e
    ·exact h0
    ·rw[if_neg h0]at hob; cases hob
   rw[if_pos hpos]at hF
   refine⟨hq,?_⟩
   show[RR.c (.d (.v (Value.pointer none))),RR.c (.d (.i .i64 (val (jb9 gName gUnits))))]=[RR.c (.d (.v (Value.pointer none))),RR.c (.d (.i .i64 (nzI (val (jdJ gName gUnits)))))]
   rw[jm4 he,jm4 hF,jy0 hpos]
  |false =>
   rw[hq]at hob
   have hob:ok (jcq gName gUnits):=hob
   cases he:jca gName gUnits with
   |none=>unfold jcq at hob; rw[he]at hob; cases hob
   |some r =>
    have hS:jcq gName gUnits=some r.2.1:=by unfold jcq; rw[he]; rfl
    obtain⟨q1,q2⟩:=jvI he
    refine⟨rfl,?_⟩
    show[RR.c (.box 130 [.d (.s r.1),.g 0,.row 3 (.ints .i64 r.2.1)]),RR.c (.d (.i .i64 r.2.2))]=[RR.c (.box 130 [.d (.s gName),.g 0,.row 3 (.ints .i64 (val (jcq gName gUnits)))]),RR.c (.d (.i .i64 0))]
    rw[jm4 hS,q1,q2]
 ·cases h
abbrev sp_80:jab→jab:=jaX 80 true (jat jgQ jkw)
theorem sp_80_ok {sp:jab} (h:jac Tryz.prog sp):jac Tryz.prog (sp_80 sp):=jaA jub h
end Go.Sh
end

section
namespace Go.Sh
open Go Go.Proofs Go.RowKit Go.Sx
open Go.IntKind (wrap)
def jkx:List SV:=[.a [.d,.x (.st [.s,.i .i64,.ints .i64,.ints .i64,.ints .i64,.i .i64,.recs 5,.i .i64] [])]]
def jen (u1:ByteArray) (u0:List (List NC)):Option (List Int × Int) :=
 if(jhh u1 u0)=true then
  Option.bind (jdJ u1 u0) fun r0 =>
  some ([],nzI r0)
 else
  Option.bind (jcq u1 u0) fun r1 =>
  some ((r1,0))
def jky:List Lf→Option GT
 |[.d (.s u1),.x (.st [.s,.i .i64,.ints .i64,.ints .i64,.ints .i64,.i .i64,.recs 5,.i .i64] u0)]=>some (.leaf (ok (jen u1 u0)) [.c (.row 3 (.ints .i64 ((val (jen u1 u0)).1))),.c (.d (.i .i64 ((val (jen u1 u0)).2)))])
 |_=>none
abbrev sp_20:jab→jab:=jaX 20 true (jat jkx jky)
def jvJ (u1:ByteArray) (u0:List (List NC)):T (List Int × Int) :=
 .brB (jhh u1 u0)
 (.call (jdJ u1 u0) fun r0 =>
 .obT
 (.obT
 (.ret (([],nzI r0)) (fun r=>(Ob (List.length r.1=(0:Nat)) ∧
 (Ob (nzI r0=r.2) ∧
 True))) ⟨⟨rfl⟩,⟨⟨rfl⟩,trivial⟩⟩)))
 (.call (jcq u1 u0) fun r1 =>
 .obT
 (.obT
 (.rc (((r1,0))))))
theorem juc (u1:ByteArray) (u0:List (List NC)) (r:List Int × Int) (h:Option.bind (jen u1 u0) some=some r):jbQ Tryz.f20 ((sp_80 sp0)) (fun _ _ _=>none) (jbA jkx [.d (.s u1),.x (.st [.s,.i .i64,.ints .i64,.ints .i64,.ints .i64,.i .i64,.recs 5,.i .i64] u0)]) [.c (.row 3 (.ints .i64 r.1)),.c (.d (.i .i64 r.2))] :=
 T.vc (t:=jvJ u1 u0) (by kernel_rfl) (by kernel_rfl) h
theorem jud:jaj Tryz.prog 20 true (jat jkx jky):=by
 refine jaS (sp:=(sp_80 sp0)) (fn:=Tryz.f20) (body:=bodyOf Tryz.f20) mixed (sp_80_ok jaB) Tryz.func20 (by kernel_rfl) (by kernel_rfl) fun ls t h ho b hb=>?_
 unfold jky at h
 split at h
 ·rename_i u1 u0
  cases h
  obtain rfl:=ja9 hb
  exact⟨Nat.le_of_ble_eq_true (by kernel_rfl),_,_,juc u1 u0 _ (jax ho)⟩
 ·cases h
theorem sp_20_ok {sp:jab} (h:jac Tryz.prog sp):jac Tryz.prog (sp_20 sp):=jaA jud h
def jfd:List SV:=[.a [.d,.x (.st [.s,.i .i64,.ints .i64,.ints .i64,.ints .i64,.i .i64,.recs 5,.i .i64] [])],.c (.r (.ints .i64 []))]
def y24 (u0:List (List NC)) (l:List Int) (x0:(Int × List Bool)):Option ((Int × List Bool) ⊕ (Int ⊕ Unit)) :=
 if x0.1<(↑(List.length l):Int)then
  if 0≤x0.1∧x0.1<(↑(List.length l):Int)then
  if Int.toNat x0.1<List.length l then
   Option.bind (y9 (List.getD l (Int.toNat x0.1) (0:Int)) (0:Int) (wrap .i64 ((↑(List.length l):Int)-1))) fun r2 =>
   if(!r2)=true then
   some (.inr ((.inl (6:Int))))
   else
   if 0≤List.getD l (Int.toNat x0.1) (0:Int)∧List.getD l (Int.toNat x0.1) 0<(↑(List.length x0.2):Int)then
    if Int.toNat (List.getD l (Int.toNat x0.1) (0:Int))<List.length x0.2 then
    if(List.getD x0.2 (Int.toNat (List.getD l (Int.toNat x0.1) (0:Int))) false)=true then
     some (.inr ((.inl (26:Int))))
    else
     Option.bind (jbw u0 (List.getD l (Int.toNat x0.1) (0:Int)) x0.2) fun r3 =>
     if(!r3)=true then
     some (.inr ((.inl (9:Int))))
     else
     if 0≤List.getD l (Int.toNat x0.1) (0:Int)∧List.getD l (Int.toNat x0.1) 0<(↑(List.length x0.2):Int)then
      if Int.toNat (List.getD l (Int.toNat x0.1) (0:Int))<List.length x0.2 then
      some (.inl ((wrap .i64 (x0.1+1),List.set x0.2 (Int.toNat (List.getD l (Int.toNat x0.1) (0:Int))) true)))
      else none
     else none
    else none
   else none
  else none
  else none
 else
  some (.inr ((.inr ())))
def jlj (u3:Int):Option Int :=
 some u3
def jlk (u4:Unit):Option Int :=
 some (0:Int)
def y81:(Int ⊕ Unit)→Option Int :=
 (Sum.elim (jlj) (jlk))
def y78 (u1:ByteArray) (u0:List (List NC)) (l:List Int):Option Int :=
 if(jhh u1 u0)=true then
  Option.bind (jdJ u1 u0) fun r0 =>
  some (nzI r0)
 else
  Option.bind (jcq u1 u0) fun r1 =>
  if((↑(List.length l):Int)!=(↑(List.length u0):Int))=true then
  some (10:Int)
  else
  if 0≤(↑(List.length l):Int)∧(↑(List.length l):Int)=(↑(List.length l):Int)∧(↑(1:Nat):Int)*(↑(List.length l):Int)≤281474976710656∧(↑(List.length l):Int)≤9223372036854775807 then
   Option.bind (jad (y24 u0 l) big (((0:Int),List.replicate (Int.toNat (↑(List.length l):Int)) false))) (y81)
  else none
def jfe:List Lf→Option GT
 |[.d (.s u1),.x (.st [.s,.i .i64,.ints .i64,.ints .i64,.ints .i64,.i .i64,.recs 5,.i .i64] u0),.r (.ints .i64 l)]=>some (.leaf (ok (y78 u1 u0 l)) [.c (.d (.i .i64 ((val (y78 u1 u0 l)))))])
 |_=>none
abbrev sp_25:jab→jab:=jaX 25 true (jat jfd jfe)
theorem jnp (u1:ByteArray) (u0:List (List NC)) (l:List Int) (r:Int) (h:Option.bind (y78 u1 u0 l) some=some r):jbQ Tryz.f25 ((sp_80 (sp_84 (sp_85 sp0)))) (fun gs id _=>match id with
 |0=>some ⟨(Int × List Bool) × Nat,fun z=>⟨[(1,.w (.c (.o 1))),(5,.w (.c (.p 2 0 1 0))),(7,.w (.c (.o 3))),(27,.w (.c (.o 1))),(28,.w (.c (.d (.i .i64 ((↑(List.length l):Int)))))),(29,.w (.c (.d (.i .i64 (Prod.fst (Prod.fst z))))))],[(1,.ext (.ints .i64 l)),(2,.box 130 [.d (.s u1),.o 0,.o 4]),(3,.row 4 (.bools (Prod.snd (Prod.fst z)))),(0,.xext (XC.st [NK.s,NK.i .i64,NK.ints .i64,NK.ints .i64,NK.ints .i64,NK.i .i64,NK.recs (5:Nat),NK.i .i64] u0)),(4,.row 3 (.ints .i64 (val (jcq u1 u0))))],5⟩,fun z=>Option.bind (jad (y24 u0 l) (Prod.snd z) (Prod.fst z)) (fun y0=>Option.bind (y81 y0) some)=some r,fun z=>Prod.snd z⟩
 |_=>none) (jbA jfd [.d (.s u1),.x (.st [.s,.i .i64,.ints .i64,.ints .i64,.ints .i64,.i .i64,.recs 5,.i .i64] u0),.r (.ints .i64 l)]) [.c (.d (.i .i64 r))]:=by
 refine Eq.mp (by kernel_rfl:(
 Br (jhh u1 u0)
  ((Ob (ok (jdJ u1 u0)) ∧
 (Ob True ∧
 (Ob (nzI (val (jdJ u1 u0))=r) ∧
 True))))
  ((Ob (ok (jcq u1 u0)) ∧
 Br ((↑(List.length l):Int)!=(↑(List.length u0):Int))
  ((Ob True ∧
 (Ob ((10:Int)=r) ∧
 True)))
  ((Ob (0≤(↑(List.length l):Int)∧(↑(List.length l):Int)=(↑(List.length l):Int)∧(↑(1:Nat):Int)*(↑(List.length l):Int)≤281474976710656∧(↑(List.length l):Int)≤9223372036854775807) ∧
  ((∃(v0:(Int × List Bool) × Nat),(Ob ((Option.bind (jad (y24 u0 l) v0.2 v0.1) fun y0=>Option.bind (y81 y0) some)=some r) ∧
 (Ob (0=0) ∧
 (Ob ((↑(List.length l):Int)=(↑(List.length l):Int)) ∧
 (Ob ((0:Int)=v0.1.1) ∧
 (Ob (l=l) ∧
 (Ob (u1=u1) ∧
 (Ob (List.replicate (Int.toNat (↑(List.length l):Int)) false=v0.1.2) ∧
 (Ob (u0=u0) ∧
 (Ob (val (jcq u1 u0)=val (jcq u1 u0)) ∧
 True)))))))))) ∧
  (∀(v0:(Int × List Bool) × Nat),((Option.bind (jad (y24 u0 l) v0.2 v0.1) fun y0=>Option.bind (y81 y0) some)=some r →
 Br (decide (v0.1.1<(↑(List.length l):Int)))
  ((Ob (0≤v0.1.1∧v0.1.1<(↑(List.length l):Int)) ∧
 (Ob (Int.toNat v0.1.1<List.length l) ∧
 (Ob (ok (y9 (List.getD l (Int.toNat v0.1.1) (0:Int)) (0:Int) (wrap .i64 ((↑(List.length l):Int)-1)))) ∧
 Br (!val (y9 (List.getD l (Int.toNat v0.1.1) (0:Int)) (0:Int) (wrap .i64 ((↑(List.length l):Int)-1))))
  ((Ob True ∧
 (Ob ((6:Int)=r) ∧
 True)))
  ((Ob (0≤List.getD l (Int.toNat v0.1.1) (0:Int)∧List.getD l (Int.toNat v0.1.1) 0<(↑(List.length v0.1.2):Int)) ∧
 (Ob (Int.toNat (List.getD l (Int.toNat v0.1.1) (0:Int))<List.length v0.1.2) ∧
 Br (List.getD v0.1.2 (Int.toNat (List.getD l (Int.toNat v0.1.1) (0:Int))) false)
  ((Ob True ∧
 (Ob ((26:Int)=r) ∧
 True)))
  ((Ob (ok (jbw u0 (List.getD l (Int.toNat v0.1.1) (0:Int)) v0.1.2)) ∧
 Br (!val (jbw u0 (List.getD l (Int.toNat v0.1.1) (0:Int)) v0.1.2))
  ((Ob True ∧
 (Ob ((9:Int)=r) ∧
 True)))
  ((Ob (0≤List.getD l (Int.toNat v0.1.1) (0:Int)∧List.getD l (Int.toNat v0.1.1) 0<(↑(List.length v0.1.2):Int)) ∧
 (Ob (Int.toNat (List.getD l (Int.toNat v0.1.1) (0:Int))<List.length v0.1.2) ∧
  (∃(v1:(Int × List Bool) × Nat),(Ob ((Option.bind (jad (y24 u0 l) v1.2 v1.1) fun y0=>Option.bind (y81 y0) some)=some r) ∧
 (Ob (v1.2<v0.2) ∧
 (Ob (0=0) ∧
 (Ob ((↑(List.length l):Int)=(↑(List.length l):Int)) ∧
 (Ob (wrap .i64 (v0.1.1+1)=v1.1.1) ∧
 (Ob (l=l) ∧
 (Ob (u1=u1) ∧
 (Ob (List.set v0.1.2 (Int.toNat (List.getD l (Int.toNat v0.1.1) (0:Int))) true=v1.1.2) ∧
 (Ob (u0=u0) ∧
 (Ob (val (jcq u1 u0)=val (jcq u1 u0)) ∧
 True)))))))))))))))))))))))
  ((Ob True ∧
 (Ob ((0:Int)=r) ∧
 True)))))))))))=_) ?_
 refine jaw h (fun h=>?_) (fun h=>?_)
 ·refine jaE h fun h=>?_
  refine jaf ?_
  exact rcs h
 ·refine jaE h fun h=>?_
  refine jaw h (fun h=>?_) (fun h=>?_)
  ·refine jaf ?_
   exact rcs h
  ·refine jaz h fun h=>?_
   refine⟨⟨(((0:Int),List.replicate (Int.toNat (↑(List.length l):Int)) false),big),⟨jaT h⟩,(by repeat' constructor)⟩,fun z4 hz4=>?_⟩
   obtain⟨k4,hm4,h⟩:=jaD hz4
   refine jay h (fun h=>?_) (fun h=>?_)
   ·refine jaz h fun h=>?_
    refine jaz h fun h=>?_
    refine jaE h fun h=>?_
    refine jaw h (fun h=>?_) (fun h=>?_)
    ·have h:=jah h
     refine jaf ?_
     exact rcs h
    ·refine jaz h fun h=>?_
     refine jaz h fun h=>?_
     refine jaw h (fun h=>?_) (fun h=>?_)
     ·have h:=jah h
      refine jaf ?_
      exact rcs h
     ·refine jaE h fun h=>?_
      refine jaw h (fun h=>?_) (fun h=>?_)
      ·have h:=jah h
       refine jaf ?_
       exact rcs h
      ·refine jaz h fun h=>?_
       refine jaz h fun h=>?_
       exact⟨(_,k4),⟨jav h⟩,⟨jaC hm4.symm⟩,(by repeat' constructor)⟩
   ·have h:=jah h
    refine jaf ?_
    exact rcs h
theorem jnq:jaj Tryz.prog 25 true (jat jfd jfe):=by
 refine jaS (sp:=(sp_80 (sp_84 (sp_85 sp0)))) (fn:=Tryz.f25) (body:=bodyOf Tryz.f25) mixed (sp_80_ok (sp_84_ok (sp_85_ok jaB))) Tryz.func25 (by kernel_rfl) (by kernel_rfl) fun ls t h ho b hb=>?_
 unfold jfe at h
 split at h
 ·rename_i u1 u0 l
  cases h
  obtain rfl:=ja9 hb
  exact⟨Nat.le_of_ble_eq_true (by kernel_rfl),_,_,jnp u1 u0 l _ (jax ho)⟩
 ·cases h
theorem sp_25_ok {sp:jab} (h:jac Tryz.prog sp):jac Tryz.prog (sp_25 sp):=jaA jnq h
end Go.Sh
end

section
namespace Go.Sh
open Go Go.Proofs Go.RowKit Go.Sx
open Go.IntKind (wrap)
theorem js4 {g:List (List NC)} {out:List Int} {i:Nat} (h:jbL g out=some i):i<g.length∧jdA g out i=true :=
 ⟨List.mem_range.1 (List.mem_of_find?_eq_some h),List.find?_some h⟩
def jgj (P:Nat→Bool) (n k:Nat):Int:=match(List.range' (n-k) k).find? P with
 |some i=>(i:Int)
 |none=>-1
theorem jue (P:Nat→Bool) {n k:Nat} (hk:k<n):jgj P n (k+1)=if P (n-1-k)=true then((n-1-k:Nat):Int)else jgj P n k:=by
 unfold jgj
 have e:n-(k+1)=n-1-k:=by omega
 rw[List.range'_succ,e,List.find?_cons]
 have e2:n-1-k+1=n-k:=by omega
 rw[e2]
 cases P (n-1-k)<;>rfl
theorem jvK (P:Nat→Bool) (n:Nat):jgj P n n=match(List.range n).find? P with|some i=>(i:Int)|none=>-1:=by
 unfold jgj
 rw[Nat.sub_self,←List.range_eq_range']
def jk5 (g:List (List NC)) (out:List Int):Int:=match jbL g out with
 |some i=>(i:Int)
 |none=>-1
theorem jvL {g:List (List NC)} (hw:Fw g) (nm:ByteArray) (out:List Int) (ho:out.length<1000):jad (y28 nm g out) big (-1,wrap IntKind.i64 ((g.length:Int)-1))=some (jk5 g out):=by
 have hn:=hw.n
 have key:=jfH (body:=y28 nm g out) (fun k=>(jgj (jdA g out) g.length k,(g.length:Int)-1-(k:Int))) (y:=jk5 g out) (k:=g.length) (fun k hk=>by
   unfold y28
   obtain⟨j,hj⟩:∃j:Nat,(g.length:Int)-1-(k:Int)=(j:Int):=⟨g.length-1-k,by omega⟩
   have hjn:j=g.length-1-k:=by omega
   have hjl:j<g.length:=by omega
   rw[hj,if_pos (by omega),jfc _ _ (by omega),jae,jvF hw nm hjl out ho]
   have hs:=jue (jdA g out) hk
   rw[←hjn]at hs
   have he:(g.length:Int)-1-((k+1:Nat):Int)=(j:Int)-1:=by omega
   rw[he,hs,jbk (by omega)]
   have hc:jdA g out j=(!(out.any (·== (j:Int)))&&jeI g out j):=rfl
   rw[hc]
   cases out.any (·== (j:Int))with
   |true=>rfl
   |false =>
    cases jeI g out j<;>rfl) (by
   unfold y28
   rw[if_neg (by show ¬((g.length:Int)-1-(g.length:Int)≥0); omega)]
   show some (Sum.inr (jgj (jdA g out) g.length g.length))=_
   rw[jvK]
   rfl) (by omega)
 have e0:jgj (jdA g out) g.length 0=-1:=rfl
 have key:jad (y28 nm g out) big (jgj (jdA g out) g.length 0,(g.length:Int)-1-((0:Nat):Int))=some (jk5 g out):=key
 rw[e0]at key
 rw[jbk (by omega)]
 have e1:(g.length:Int)-1-((0:Nat):Int)=(g.length:Int)-1:=by omega
 rw[e1]at key
 exact key
theorem joM {g:List (List NC)} (hw:Fw g) (nm:ByteArray):y64 nm g=some (match jc1 (jbL g) g.length []with|some l=>(l,true)|none=>([],false)):=by
 have hn:=hw.n
 unfold y64
 have key:=jmc (body:=y15 nm g) (fun out=>out) (jbL g) (fun l=>.inr l) (.inl ()) g.length (fun out ho=>by
   unfold y15
   rw[if_pos (by omega),jvL hw nm out (by omega),jae]
   unfold y63 jk5
   cases hx:jbL g out with
   |none=>rfl
   |some i =>
    show(if(i:Int)<0 then _ else _)=_
    rw[if_neg (by omega),if_pos (by simp only[List.length_cons,List.length_nil]; omega)]) (fun out ho=>by
   unfold y15
   rw[if_neg (by omega)]) g.length [] big (by simp) (by have:big=18446744073709551616:=rfl; omega)
 rw[key]
 cases jc1 (jbL g) g.length []<;>rfl
theorem jnr (n:Nat):jbd n []=List.replicate n false:=by
 refine List.ext_getElem (by simp[jbd]) fun k h1 h2=>?_
 simp[jbd,jhJ]
theorem jvM {g:List (List NC)} (hw:Fw g) (hall:∀i,i<g.length→jbK g i=0) (out:List Int) (k:Int):jad (jbt g (k,jbd g.length out,out)) big 0=some (jk5 g out):=by
 have hn:=hw.n
 have key:=jvG (body:=jbt g (k,jbd g.length out,out)) g.length (jdA g out) (fun i=>(i:Int)) (-1) (by omega) (fun i hi hp=>by
   unfold jbt
   simp only[Int.toNat_natCast,jeJ]
   unfold jdA at hp
   rw[Bool.and_eq_true]at hp
   rw[if_pos (by omega),if_pos (by omega),if_pos hi,jeK hi,if_pos hp.1,jkv hw hi (hall i hi),jae,if_pos hp.2]) (fun i hi hp=>by
   unfold jbt
   simp only[Int.toNat_natCast,jeJ]
   unfold jdA at hp
   rw[if_pos (by omega),if_pos (by omega),if_pos hi,jeK hi]
   cases hh:jhJ out i with
   |true=>rw[if_neg (by simp),jbk (by omega)]
   |false =>
    rw[hh]at hp
    have hr:jeI g out i=false:=by simpa using hp
    rw[if_pos (by rfl),jkv hw hi (hall i hi),jae,hr,if_neg (by simp),jbk (by omega)]) (by
   unfold jbt
   rw[if_neg (by omega)])
 exact key
theorem jq3 {g:List (List NC)} (hw:Fw g) (hall:∀i,i<g.length→jbK g i=0):jad (ja4 g) big ((0:Int),List.replicate g.length false,[])=some (match jc1 (jbL g) g.length []with|some l=>.inr l|none=>.inl ()):=by
 have hn:=hw.n
 have key:=jmc (body:=ja4 g) (fun out=>((out.length:Int),jbd g.length out,out)) (jbL g) (fun l=>.inr l) (.inl ()) g.length (fun out ho=>by
   unfold ja4
   rw[if_pos (by show(out.length:Int)<_; omega),jvM hw hall,jae]
   unfold jcH jk5
   cases hx:jbL g out with
   |none=>rfl
   |some i =>
    have hi:=(js4 hx).1
    have hne:((i:Int) == -1)=false:=by
     rw[beq_eq_false_iff_ne]; omega
    simp only[jeJ]
    rw[hne,if_neg (by simp),if_pos (by omega),if_pos (by omega),if_pos (by simp only[List.length_cons,List.length_nil]; omega),jbk (by omega),Int.toNat_natCast,jno hi]
    simp) (fun out ho=>by
   unfold ja4
   rw[if_neg (by show ¬(out.length:Int)<_; omega)]) g.length [] big (by simp) (by have:big=18446744073709551616:=rfl; omega)
 rw[jnr]at key
 exact key
theorem jkz (next:List Int→Option Nat):∀(k:Nat) (out l:List Int),jc1 next k out=some l→out.length+k=l.length∧l.take out.length=out∧∀j,out.length≤j→j<l.length→∃i,next (l.take j)=some i∧l.getD j 0=((i:Nat):Int)
 |0,out,l,h=>by
  cases h
  exact⟨rfl,List.take_length,fun j h1 h2=>by omega⟩
 |k+1,out,l,h=>by
  unfold jc1 at h
  cases hx:next out with
  |none=>rw[hx]at h; cases h
  |some i =>
   rw[hx]at h
   obtain⟨h1,h2,h3⟩:=jkz next k (out++[(i:Int)]) l h
   simp only[List.length_append,List.length_cons,List.length_nil]at h1 h2 h3
   have ht:l.take out.length=out:=by
    have:(l.take (out.length+1)).take out.length=out:=by rw[h2]; simp
    rwa [List.take_take,Nat.min_eq_left (by omega)]at this
   refine⟨by omega,ht,fun j hj1 hj2=>?_⟩
   by_cases hj:j=out.length
   ·subst hj
    refine⟨i,by rw[ht]; exact hx,?_⟩
    have hg:(l.take (out.length+1))[out.length]?=some (i:Int):=by rw[h2]; simp
    rw[List.getElem?_take_of_lt (by omega)]at hg
    simp[List.getD,hg]
   ·exact h3 j (by omega) hj2
theorem jvN {g:List (List NC)} (hw:Fw g) (hall:∀i,i<g.length→jbK g i=0) {l:List Int} (h:jc1 (jbL g) g.length []=some l):l.length=g.length∧jad (y24 g l) big ((0:Int),List.replicate l.length false)=some (.inr ()):=by
 have hn:=hw.n
 obtain⟨h1,_,h3⟩:=jkz (jbL g) g.length [] l h
 have hlen:l.length=g.length:=by simp at h1; omega
 refine⟨hlen,?_⟩
 have key:=jfH (body:=y24 g l) (fun k=>((k:Int),jbd g.length (l.take k))) (y:=.inr ()) (k:=l.length) (fun k hk=>by
   obtain⟨i,hx,hi⟩:=h3 k (Nat.zero_le _) hk
   obtain⟨hil,hc⟩:=js4 hx
   unfold jdA at hc
   rw[Bool.and_eq_true,Bool.not_eq_true']at hc
   have hin:inB (i:Int) 0 ((l.length:Int)-1)=true:=by
    unfold inB
    rw[Bool.and_eq_true,decide_eq_true_eq,decide_eq_true_eq]
    omega
   have htk:l.take k++[(i:Int)]=l.take (k+1):=by
    have:l[k]?=some (i:Int):=by
     have hg:=List.getElem?_eq_getElem hk
     rw[hg]
     congr 1
     have:l.getD k 0=l[k]:=by simp[List.getD,hk]
     rw[←this,hi]
    rw[List.take_add_one,this]
    rfl
   unfold y24
   simp only[Int.toNat_natCast,jeJ,hi]
   rw[if_pos (by omega),if_pos (by omega),if_pos hk,jbk (x:=(l.length:Int)-1) (by omega),jcG,hin,jae,if_neg (by simp),if_pos (by omega),if_pos hil,jeK hil,hc.1,if_neg (by simp),jkv hw hil (hall i hil),jae,hc.2,if_neg (by simp),if_pos (by omega),if_pos hil,jbk (by omega),jno hil,htk]
   rfl) (by
   unfold y24
   rw[if_neg (by omega)]) (by omega)
 have e0:jbd g.length (l.take 0)=List.replicate l.length false:=by rw[List.take_zero,jnr,hlen]
 have key:jad (y24 g l) big (((0:Nat):Int),jbd g.length (l.take 0))=some (.inr ()):=key
 rw[e0]at key
 exact key
theorem jsq (c:List (List Int)):0≤jc0 c:=by
 unfold jc0
 repeat' split
 all_goals omega
theorem jsr (g:List (List NC)) (i:Nat):0≤jbK g i:=by
 unfold jbK
 have:=jsq (nR g i 6)
 generalize jc0 (nR g i 6)=c at *
 repeat' split
 all_goals omega
theorem jvO (nm:ByteArray) (g:List (List NC)):0≤(cg nm g).2:=by
 rw[jks]
 unfold cgF
 split
 ·show(0:Int)≤4; omega
 ·split
  ·show(0:Int)≤8; omega
  ·cases (List.range g.length).findIdx? (fun i=>jbK g i != 0)with
   |none=>exact Int.le_refl _
   |some i=>exact jsr g i
theorem joi {nm:ByteArray} {g:List (List NC)} (h:(cg nm g).2=0):∀i,i<g.length→jbK g i=0:=by
 rw[jks]at h
 unfold cgF at h
 split at h
 ·exact absurd (show(4:Int)=0 from h) (by omega)
 ·split at h
  ·exact absurd (show(8:Int)=0 from h) (by omega)
  ·cases hf:(List.range g.length).findIdx? (fun i=>jbK g i != 0)with
   |none =>
    intro i hi
    rw[List.findIdx?_eq_none_iff]at hf
    simpa using hf i (List.mem_range.2 hi)
   |some i =>
    rw[hf]at h
    have h:jbK g i=0:=h
    rw[List.findIdx?_eq_some_iff_getElem]at hf
    obtain⟨hlt,hp,_⟩:=hf
    simp only[List.getElem_range]at hp
    rw[h]at hp
    exact absurd hp (by decide)
theorem jq4 {n:Nat} (h:n<1000):(0:Int)≤(n:Int)∧(n:Int)=(n:Int)∧((1:Nat):Int)*(n:Int)≤281474976710656∧(n:Int)≤9223372036854775807:=by
 omega
theorem jvP {g:List (List NC)} (hw:Fw g) {nm:ByteArray} (hs:nm.size<1000) (h:(cg nm g).2≠0):jb9 nm g=some (cg nm g).2:=by
 unfold jb9
 rw[jhf hw hs,jae,if_pos (bne_iff_ne.2 h)]
theorem jq5 {g:List (List NC)} (hw:Fw g) {nm:ByteArray} (hs:nm.size<1000) (h:(cg nm g).2=0):jb9 nm g=match jc1 (jbL g) g.length []with|some _=>none|none=>some 19:=by
 unfold jb9
 rw[jhf hw hs,jae,if_neg (by rw[h]; simp),if_pos (jq4 hw.n),Int.toNat_natCast,jq3 hw (joi h),jae]
 cases jc1 (jbL g) g.length []<;>rfl
theorem jq6 {g:List (List NC)} (hw:Fw g) {nm:ByteArray} (hs:nm.size<1000) (h:(cg nm g).2=0) {l:List Int} (hl:jc1 (jbL g) g.length []=some l):jca nm g=some (nm,l,0):=by
 unfold jca
 rw[show jbu=ja4 from rfl]
 rw[jhf hw hs,jae,if_neg (by rw[h]; simp),if_pos (jq4 hw.n),Int.toNat_natCast,jq3 hw (joi h),jae,hl]
 rfl
theorem jyl {e:Int} (h:0<e):nzI e=e:=by
 unfold nzI
 show((e.toNat-1+1:Nat):Int)=e
 omega
theorem jvQ {g:List (List NC)} (hw:Fw g) {nm:ByteArray} (hs:nm.size<1000):jen nm g=some (if(cg nm g).2≠0 then([],(cg nm g).2)else match jc1 (jbL g) g.length []with|some l=>(l,0)|none=>([],19)):=by
 unfold jen jhh jdJ jcq
 by_cases h:(cg nm g).2=0
 ·have hn:¬((cg nm g).2≠0):=fun hn=>hn h
  rw[if_neg hn,jq5 hw hs h]
  cases hl:jc1 (jbL g) g.length []with
  |none=>rfl
  |some l =>
   rw[jq6 hw hs h hl]
   rfl
 ·have hp:0<(cg nm g).2:=by have:=jvO nm g; omega
  rw[jvP hw hs h,if_pos h]
  show Option.bind (Option.bind (some (cg nm g).2) _) _=_
  simp only[jae]
  rw[if_pos hp,jae,jyl hp]
theorem jpq {g:List (List NC)} (hw:Fw g) {nm:ByteArray} (hs:nm.size<1000) (h:(cg nm g).2=0) {l:List Int} (hl:jc1 (jbL g) g.length []=some l):y78 nm g l=some 0:=by
 have hn:=hw.n
 obtain⟨h1,h2⟩:=jvN hw (joi h) hl
 unfold y78 jhh jdJ jcq
 rw[jq5 hw hs h,hl]
 show Option.bind ((jca nm g).map _) _=_
 rw[jq6 hw hs h hl]
 show(if((l.length:Int)!=(g.length:Int))=true then _ else _)=_
 rw[h1,if_neg (by simp),if_pos (jq4 hn),Int.toNat_natCast,←h1,h2]
 rfl
theorem jss {g:List (List NC)} (hw:Fw g) {nm:ByteArray} (hs:nm.size<1000):y76 nm g=some (if(cg nm g).2≠0 then(cg nm g).2 else match jc1 (jbL g) g.length []with|some _=>0|none=>19):=by
 unfold y76
 rw[joJ hw hs,jae]
 by_cases h:(cg nm g).2=0
 ·rw[if_neg (by rw[h]; simp),if_neg (fun hn=>hn h),joM hw,jae]
  cases jc1 (jbL g) g.length []<;>rfl
 ·rw[if_pos (bne_iff_ne.2 h),if_pos h]
end Go.Sh
end

section
namespace Go.Sh
open Go Go.Proofs Go.RowKit Go.Sx
open Go.IntKind (wrap)
def jgR:List SV:=[.c (.p [.p [.d,.x (.st [.s,.i .i64,.ints .i64,.ints .i64,.ints .i64,.i .i64,.recs 5,.i .i64] []),.r (.ints .i64 [])],.d,.x (.ff .f32 []),.x (.rr 4 []),.r (.frs .f32 32 []),.r (.ints .i64 []),.r (.frs .f32 32 []),.x (.rr 4 []),.r (.ints .i64 [])]),.c (.d),.c (.d)]
def y49 (u15:ByteArray) (u16:List (List NC)) (u17:List Int) (u11:Int) (u18:List (List Nat)) (u19:List (List (List Int))) (u20:List (List Nat)) (u21:List Int) (u22:List (List Nat)) (u23:List (List (List Int))) (u24:List Int) (u27:Int) (k:Int):Option Int :=
 if k<0 then
  if 0≤u27∧u27<(↑(List.length u18):Int)then
  if Int.toNat u27<List.length u18 then
   if 0≤wrap .i64 (128+k)∧wrap .i64 (128+k)<(↑(List.length (List.getD u18 (Int.toNat u27) [])):Int)then
   if Int.toNat (wrap .i64 (128+k))<List.length (List.getD u18 (Int.toNat u27) [])then
    if jik .f32 .i64 (List.getD (List.getD u18 (Int.toNat u27) []) (Int.toNat (wrap .i64 (128+k))) (0:Nat))=true then
    some (f2i .f32 (List.getD (List.getD u18 (Int.toNat u27) []) (Int.toNat (wrap .i64 (128+k))) (0:Nat)))
    else none
   else none
   else none
  else none
  else none
 else
  if 0≤u27∧u27<(↑(List.length u22):Int)then
  if 0≤k∧k<(↑(32:Nat):Int)then
   if Int.toNat u27<List.length u22∧0+Int.toNat k*1<32 then
   if jik .f32 .i64 (List.getD (List.getD u22 (Int.toNat u27) []) (0+Int.toNat k*1) (0:Nat))=true then
    some (f2i .f32 (List.getD (List.getD u22 (Int.toNat u27) []) (0+Int.toNat k*1) (0:Nat)))
   else none
   else none
  else none
  else none
def jgS:List Lf→Option GT
 |[.d (.s u15),.x (.st [.s,.i .i64,.ints .i64,.ints .i64,.ints .i64,.i .i64,.recs 5,.i .i64] u16),.r (.ints .i64 u17),.d (.i .i64 u11),.x (.ff .f32 u18),.x (.rr 4 u19),.r (.frs .f32 32 u20),.r (.ints .i64 u21),.r (.frs .f32 32 u22),.x (.rr 4 u23),.r (.ints .i64 u24),.d (.i .i64 u27),.d (.i .i64 k)]=>some (.leaf (ok (y49 u15 u16 u17 u11 u18 u19 u20 u21 u22 u23 u24 u27 k)) [.c (.d (.i .i64 ((val (y49 u15 u16 u17 u11 u18 u19 u20 u21 u22 u23 u24 u27 k)))))])
 |_=>none
abbrev sp_149:jab→jab:=jaX 149 true (jat jgR jgS)
def jq7 (u15:ByteArray) (u16:List (List NC)) (u17:List Int) (u11:Int) (u18:List (List Nat)) (u19:List (List (List Int))) (u20:List (List Nat)) (u21:List Int) (u22:List (List Nat)) (u23:List (List (List Int))) (u24:List Int) (u27:Int) (k:Int):T (Int) :=
 .brP (k<0)
 (.obT
 (.obP (0≤u27∧u27<(↑(List.length u18):Int))
 (.obP (Int.toNat u27<List.length u18)
 (.obP (0≤wrap .i64 (128+k)∧wrap .i64 (128+k)<(↑(List.length (List.getD u18 (Int.toNat u27) [])):Int))
 (.obP (Int.toNat (wrap .i64 (128+k))<List.length (List.getD u18 (Int.toNat u27) []))
 (.obP (jik .f32 .i64 (List.getD (List.getD u18 (Int.toNat u27) []) (Int.toNat (wrap .i64 (128+k))) (0:Nat))=true)
 (.obT
 (.rc ((f2i .f32 (List.getD (List.getD u18 (Int.toNat u27) []) (Int.toNat (wrap .i64 (128+k))) (0:Nat))))))))))))
 (.obT
 (.obP (0≤u27∧u27<(↑(List.length u22):Int))
 (.obP (0≤k∧k<(↑(32:Nat):Int))
 (.obP (Int.toNat u27<List.length u22∧0+Int.toNat k*1<32)
 (.obP (jik .f32 .i64 (List.getD (List.getD u22 (Int.toNat u27) []) (0+Int.toNat k*1) (0:Nat))=true)
 (.obT
 (.rc ((f2i .f32 (List.getD (List.getD u22 (Int.toNat u27) []) (0+Int.toNat k*1) (0:Nat)))))))))))
theorem jpr (u15:ByteArray) (u16:List (List NC)) (u17:List Int) (u11:Int) (u18:List (List Nat)) (u19:List (List (List Int))) (u20:List (List Nat)) (u21:List Int) (u22:List (List Nat)) (u23:List (List (List Int))) (u24:List Int) (u27:Int) (k:Int) (r:Int) (h:Option.bind (y49 u15 u16 u17 u11 u18 u19 u20 u21 u22 u23 u24 u27 k) some=some r):jbQ Tryz.f149 (sp0) (fun _ _ _=>none) (jbA jgR [.d (.s u15),.x (.st [.s,.i .i64,.ints .i64,.ints .i64,.ints .i64,.i .i64,.recs 5,.i .i64] u16),.r (.ints .i64 u17),.d (.i .i64 u11),.x (.ff .f32 u18),.x (.rr 4 u19),.r (.frs .f32 32 u20),.r (.ints .i64 u21),.r (.frs .f32 32 u22),.x (.rr 4 u23),.r (.ints .i64 u24),.d (.i .i64 u27),.d (.i .i64 k)]) [.c (.d (.i .i64 r))] :=
 T.vc (t:=jq7 u15 u16 u17 u11 u18 u19 u20 u21 u22 u23 u24 u27 k) (by kernel_rfl) (by kernel_rfl) h
theorem jps:jaj Tryz.prog 149 true (jat jgR jgS):=by
 refine jaS (sp:=sp0) (fn:=Tryz.f149) (body:=bodyOf Tryz.f149) mixed jaB Tryz.func149 (by kernel_rfl) (by kernel_rfl) fun ls t h ho b hb=>?_
 unfold jgS at h
 split at h
 ·rename_i u15 u16 u17 u11 u18 u19 u20 u21 u22 u23 u24 u27 k
  cases h
  obtain rfl:=ja9 hb
  exact⟨Nat.le_of_ble_eq_true (by kernel_rfl),_,_,jpr u15 u16 u17 u11 u18 u19 u20 u21 u22 u23 u24 u27 k _ (jax ho)⟩
 ·cases h
theorem sp_149_ok {sp:jab} (h:jac Tryz.prog sp):jac Tryz.prog (sp_149 sp):=jaA jps h
end Go.Sh
end

section
namespace Go.Sh
open Go Go.Proofs Go.RowKit Go.Sx
open Go.IntKind (wrap)
def jeL:List SV:=[.c (.p [.p [.d,.x (.st [.s,.i .i64,.ints .i64,.ints .i64,.ints .i64,.i .i64,.recs 5,.i .i64] []),.r (.ints .i64 [])],.d,.x (.ff .f32 []),.x (.rr 4 []),.r (.frs .f32 32 []),.r (.ints .i64 []),.r (.frs .f32 32 []),.x (.rr 4 []),.r (.ints .i64 [])]),.a [.d,.d,.r (.ints .i64 []),.r (.ints .i64 []),.r (.ints .i64 []),.d,.r (.recs 5 []),.d],.c (.d),.c (.d)]
def jcj (u15:ByteArray) (u16:List (List NC)) (u17:List Int) (u11:Int) (u18:List (List Nat)) (u19:List (List (List Int))) (u20:List (List Nat)) (u21:List Int) (u22:List (List Nat)) (u23:List (List (List Int))) (u24:List Int) (u10:List Int) (u9:List Int) (u59:Int) (u60:Int) (x0:(Int × Int × Int × Int × Int × Int × Int × Int × Int × Int × Int × Int × Int × Int × Int × Int × Int × Int × Int × Int × Int × Int × Int × Int × Int × Int × Int × Int × Int × Int × Int × Int × Int)):Option ((Int × Int × Int × Int × Int × Int × Int × Int × Int × Int × Int × Int × Int × Int × Int × Int × Int × Int × Int × Int × Int × Int × Int × Int × Int × Int × Int × Int × Int × Int × Int × Int × Int) ⊕ (Int × Int × Int × Int × Int × Int × Int × Int × Int × Int × Int × Int × Int × Int × Int × Int × Int × Int × Int × Int × Int × Int × Int × Int × Int × Int × Int × Int × Int × Int × Int × Int)) :=
 if x0.1<32 then
  if 0≤u59∧u59<(↑(List.length u10):Int)then
  if Int.toNat u59<List.length u10 then
   if 0≤u59∧u59<(↑(List.length u9):Int)then
   if Int.toNat u59<List.length u9 then
    Option.bind (y49 u15 u16 u17 u11 u18 u19 u20 u21 u22 u23 u24 (List.getD u10 (Int.toNat u59) (0:Int)) (wrap .i64 (wrap .i64 (x0.1-List.getD u9 (Int.toNat u59) (0:Int))-u60))) fun r0 =>
    if 0≤x0.1∧x0.1<(↑(32:Nat):Int)then
    if List.getD [true,true,true,true,true,true,true,true,true,true,true,true,true,true,true,true,true,true,true,true,true,true,true,true,true,true,true,true,true,true,true,true] (0+Int.toNat x0.1*1) false=true then
     some (.inl ((wrap .i64 (x0.1+1),bif Nat.beq (0+Int.toNat x0.1*1) 0 then r0 else x0.2.1,bif Nat.beq (0+Int.toNat x0.1*1) 1 then r0 else x0.2.2.1,bif Nat.beq (0+Int.toNat x0.1*1) 2 then r0 else x0.2.2.2.1,bif Nat.beq (0+Int.toNat x0.1*1) 3 then r0 else x0.2.2.2.2.1,bif Nat.beq (0+Int.toNat x0.1*1) 4 then r0 else x0.2.2.2.2.2.1,bif Nat.beq (0+Int.toNat x0.1*1) 5 then r0 else x0.2.2.2.2.2.2.1,bif Nat.beq (0+Int.toNat x0.1*1) 6 then r0 else x0.2.2.2.2.2.2.2.1,bif Nat.beq (0+Int.toNat x0.1*1) 7 then r0 else x0.2.2.2.2.2.2.2.2.1,bif Nat.beq (0+Int.toNat x0.1*1) 8 then r0 else x0.2.2.2.2.2.2.2.2.2.1,bif Nat.beq (0+Int.toNat x0.1*1) 9 then r0 else x0.2.2.2.2.2.2.2.2.2.2.1,bif Nat.beq (0+Int.toNat x0.1*1) 10 then r0 else x0.2.2.2.2.2.2.2.2.2.2.2.1,bif Nat.beq (0+Int.toNat x0.1*1) 11 then r0 else x0.2.2.2.2.2.2.2.2.2.2.2.2.1,bif Nat.beq (0+Int.toNat x0.1*1) 12 then r0 else x0.2.2.2.2.2.2.2.2.2.2.2.2.2.1,bif Nat.beq (0+Int.toNat x0.1*1) 13 then r0 else x0.2.2.2.2.2.2.2.2.2.2.2.2.2.2.1,bif Nat.beq (0+Int.toNat x0.1*1) 14 then r0 else x0.2.2.2.2.2.2.2.2.2.2.2.2.2.2.2.1,bif Nat.beq (0+Int.toNat x0.1*1) 15 then r0 else x0.2.2.2.2.2.2.2.2.2.2.2.2.2.2.2.2.1,bif Nat.beq (0+Int.toNat x0.1*1) 16 then r0 else x0.2.2.2.2.2.2.2.2.2.2.2.2.2.2.2.2.2.1,bif Nat.beq (0+Int.toNat x0.1*1) 17 then r0 else x0.2.2.2.2.2.2.2.2.2.2.2.2.2.2.2.2.2.2.1,bif Nat.beq (0+Int.toNat x0.1*1) 18 then r0 else x0.2.2.2.2.2.2.2.2.2.2.2.2.2.2.2.2.2.2.2.1,bif Nat.beq (0+Int.toNat x0.1*1) 19 then r0 else x0.2.2.2.2.2.2.2.2.2.2.2.2.2.2.2.2.2.2.2.2.1,bif Nat.beq (0+Int.toNat x0.1*1) 20 then r0 else x0.2.2.2.2.2.2.2.2.2.2.2.2.2.2.2.2.2.2.2.2.2.1,bif Nat.beq (0+Int.toNat x0.1*1) 21 then r0 else x0.2.2.2.2.2.2.2.2.2.2.2.2.2.2.2.2.2.2.2.2.2.2.1,bif Nat.beq (0+Int.toNat x0.1*1) 22 then r0 else x0.2.2.2.2.2.2.2.2.2.2.2.2.2.2.2.2.2.2.2.2.2.2.2.1,bif Nat.beq (0+Int.toNat x0.1*1) 23 then r0 else x0.2.2.2.2.2.2.2.2.2.2.2.2.2.2.2.2.2.2.2.2.2.2.2.2.1,bif Nat.beq (0+Int.toNat x0.1*1) 24 then r0 else x0.2.2.2.2.2.2.2.2.2.2.2.2.2.2.2.2.2.2.2.2.2.2.2.2.2.1,bif Nat.beq (0+Int.toNat x0.1*1) 25 then r0 else x0.2.2.2.2.2.2.2.2.2.2.2.2.2.2.2.2.2.2.2.2.2.2.2.2.2.2.1,bif Nat.beq (0+Int.toNat x0.1*1) 26 then r0 else x0.2.2.2.2.2.2.2.2.2.2.2.2.2.2.2.2.2.2.2.2.2.2.2.2.2.2.2.1,bif Nat.beq (0+Int.toNat x0.1*1) 27 then r0 else x0.2.2.2.2.2.2.2.2.2.2.2.2.2.2.2.2.2.2.2.2.2.2.2.2.2.2.2.2.1,bif Nat.beq (0+Int.toNat x0.1*1) 28 then r0 else x0.2.2.2.2.2.2.2.2.2.2.2.2.2.2.2.2.2.2.2.2.2.2.2.2.2.2.2.2.2.1,bif Nat.beq (0+Int.toNat x0.1*1) 29 then r0 else x0.2.2.2.2.2.2.2.2.2.2.2.2.2.2.2.2.2.2.2.2.2.2.2.2.2.2.2.2.2.2.1,bif Nat.beq (0+Int.toNat x0.1*1) 30 then r0 else x0.2.2.2.2.2.2.2.2.2.2.2.2.2.2.2.2.2.2.2.2.2.2.2.2.2.2.2.2.2.2.2.1,bif Nat.beq (0+Int.toNat x0.1*1) 31 then r0 else x0.2.2.2.2.2.2.2.2.2.2.2.2.2.2.2.2.2.2.2.2.2.2.2.2.2.2.2.2.2.2.2.2)))
    else none
    else none
   else none
   else none
  else none
  else none
 else
  some (.inr (x0.2.1,x0.2.2.1,x0.2.2.2.1,x0.2.2.2.2.1,x0.2.2.2.2.2.1,x0.2.2.2.2.2.2.1,x0.2.2.2.2.2.2.2.1,x0.2.2.2.2.2.2.2.2.1,x0.2.2.2.2.2.2.2.2.2.1,x0.2.2.2.2.2.2.2.2.2.2.1,x0.2.2.2.2.2.2.2.2.2.2.2.1,x0.2.2.2.2.2.2.2.2.2.2.2.2.1,x0.2.2.2.2.2.2.2.2.2.2.2.2.2.1,x0.2.2.2.2.2.2.2.2.2.2.2.2.2.2.1,x0.2.2.2.2.2.2.2.2.2.2.2.2.2.2.2.1,x0.2.2.2.2.2.2.2.2.2.2.2.2.2.2.2.2.1,x0.2.2.2.2.2.2.2.2.2.2.2.2.2.2.2.2.2.1,x0.2.2.2.2.2.2.2.2.2.2.2.2.2.2.2.2.2.2.1,x0.2.2.2.2.2.2.2.2.2.2.2.2.2.2.2.2.2.2.2.1,x0.2.2.2.2.2.2.2.2.2.2.2.2.2.2.2.2.2.2.2.2.1,x0.2.2.2.2.2.2.2.2.2.2.2.2.2.2.2.2.2.2.2.2.2.1,x0.2.2.2.2.2.2.2.2.2.2.2.2.2.2.2.2.2.2.2.2.2.2.1,x0.2.2.2.2.2.2.2.2.2.2.2.2.2.2.2.2.2.2.2.2.2.2.2.1,x0.2.2.2.2.2.2.2.2.2.2.2.2.2.2.2.2.2.2.2.2.2.2.2.2.1,x0.2.2.2.2.2.2.2.2.2.2.2.2.2.2.2.2.2.2.2.2.2.2.2.2.2.1,x0.2.2.2.2.2.2.2.2.2.2.2.2.2.2.2.2.2.2.2.2.2.2.2.2.2.2.1,x0.2.2.2.2.2.2.2.2.2.2.2.2.2.2.2.2.2.2.2.2.2.2.2.2.2.2.2.1,x0.2.2.2.2.2.2.2.2.2.2.2.2.2.2.2.2.2.2.2.2.2.2.2.2.2.2.2.2.1,x0.2.2.2.2.2.2.2.2.2.2.2.2.2.2.2.2.2.2.2.2.2.2.2.2.2.2.2.2.2.1,x0.2.2.2.2.2.2.2.2.2.2.2.2.2.2.2.2.2.2.2.2.2.2.2.2.2.2.2.2.2.2.1,x0.2.2.2.2.2.2.2.2.2.2.2.2.2.2.2.2.2.2.2.2.2.2.2.2.2.2.2.2.2.2.2.1,x0.2.2.2.2.2.2.2.2.2.2.2.2.2.2.2.2.2.2.2.2.2.2.2.2.2.2.2.2.2.2.2.2))
def jck (u3:Int × Int × Int × Int × Int × Int × Int × Int × Int × Int × Int × Int × Int × Int × Int × Int × Int × Int × Int × Int × Int × Int × Int × Int × Int × Int × Int × Int × Int × Int × Int × Int):Option (Int × Int × Int × Int × Int × Int × Int × Int × Int × Int × Int × Int × Int × Int × Int × Int × Int × Int × Int × Int × Int × Int × Int × Int × Int × Int × Int × Int × Int × Int × Int × Int) :=
 some (u3.1,u3.2.1,u3.2.2.1,u3.2.2.2.1,u3.2.2.2.2.1,u3.2.2.2.2.2.1,u3.2.2.2.2.2.2.1,u3.2.2.2.2.2.2.2.1,u3.2.2.2.2.2.2.2.2.1,u3.2.2.2.2.2.2.2.2.2.1,u3.2.2.2.2.2.2.2.2.2.2.1,u3.2.2.2.2.2.2.2.2.2.2.2.1,u3.2.2.2.2.2.2.2.2.2.2.2.2.1,u3.2.2.2.2.2.2.2.2.2.2.2.2.2.1,u3.2.2.2.2.2.2.2.2.2.2.2.2.2.2.1,u3.2.2.2.2.2.2.2.2.2.2.2.2.2.2.2.1,u3.2.2.2.2.2.2.2.2.2.2.2.2.2.2.2.2.1,u3.2.2.2.2.2.2.2.2.2.2.2.2.2.2.2.2.2.1,u3.2.2.2.2.2.2.2.2.2.2.2.2.2.2.2.2.2.2.1,u3.2.2.2.2.2.2.2.2.2.2.2.2.2.2.2.2.2.2.2.1,u3.2.2.2.2.2.2.2.2.2.2.2.2.2.2.2.2.2.2.2.2.1,u3.2.2.2.2.2.2.2.2.2.2.2.2.2.2.2.2.2.2.2.2.2.1,u3.2.2.2.2.2.2.2.2.2.2.2.2.2.2.2.2.2.2.2.2.2.2.1,u3.2.2.2.2.2.2.2.2.2.2.2.2.2.2.2.2.2.2.2.2.2.2.2.1,u3.2.2.2.2.2.2.2.2.2.2.2.2.2.2.2.2.2.2.2.2.2.2.2.2.1,u3.2.2.2.2.2.2.2.2.2.2.2.2.2.2.2.2.2.2.2.2.2.2.2.2.2.1,u3.2.2.2.2.2.2.2.2.2.2.2.2.2.2.2.2.2.2.2.2.2.2.2.2.2.2.1,u3.2.2.2.2.2.2.2.2.2.2.2.2.2.2.2.2.2.2.2.2.2.2.2.2.2.2.2.1,u3.2.2.2.2.2.2.2.2.2.2.2.2.2.2.2.2.2.2.2.2.2.2.2.2.2.2.2.2.1,u3.2.2.2.2.2.2.2.2.2.2.2.2.2.2.2.2.2.2.2.2.2.2.2.2.2.2.2.2.2.1,u3.2.2.2.2.2.2.2.2.2.2.2.2.2.2.2.2.2.2.2.2.2.2.2.2.2.2.2.2.2.2.1,u3.2.2.2.2.2.2.2.2.2.2.2.2.2.2.2.2.2.2.2.2.2.2.2.2.2.2.2.2.2.2.2)
def jak (u15:ByteArray) (u16:List (List NC)) (u17:List Int) (u11:Int) (u18:List (List Nat)) (u19:List (List (List Int))) (u20:List (List Nat)) (u21:List Int) (u22:List (List Nat)) (u23:List (List (List Int))) (u24:List Int) (u12:ByteArray) (u5:Int) (u10:List Int) (u9:List Int) (u7:List Int) (u6:Int) (u13:List (List Int)) (u14:Int) (u59:Int) (u60:Int):Option (Int × Int × Int × Int × Int × Int × Int × Int × Int × Int × Int × Int × Int × Int × Int × Int × Int × Int × Int × Int × Int × Int × Int × Int × Int × Int × Int × Int × Int × Int × Int × Int) :=
 Option.bind (jad (jcj u15 u16 u17 u11 u18 u19 u20 u21 u22 u23 u24 u10 u9 u59 u60) big (((0:Int),0,0,0,0,0,0,0,0,0,0,0,0,0,0,0,0,0,0,0,0,0,0,0,0,0,0,0,0,0,0,0,0))) (jck)
def jeM:List Lf→Option GT
 |[.d (.s u15),.x (.st [.s,.i .i64,.ints .i64,.ints .i64,.ints .i64,.i .i64,.recs 5,.i .i64] u16),.r (.ints .i64 u17),.d (.i .i64 u11),.x (.ff .f32 u18),.x (.rr 4 u19),.r (.frs .f32 32 u20),.r (.ints .i64 u21),.r (.frs .f32 32 u22),.x (.rr 4 u23),.r (.ints .i64 u24),.d (.s u12),.d (.i .i64 u5),.r (.ints .i64 u10),.r (.ints .i64 u9),.r (.ints .i64 u7),.d (.i .i64 u6),.r (.recs 5 u13),.d (.i .i64 u14),.d (.i .i64 u59),.d (.i .i64 u60)]=>some (.leaf (ok (jak u15 u16 u17 u11 u18 u19 u20 u21 u22 u23 u24 u12 u5 u10 u9 u7 u6 u13 u14 u59 u60)) [.s [.d (.i .i64 ((val (jak u15 u16 u17 u11 u18 u19 u20 u21 u22 u23 u24 u12 u5 u10 u9 u7 u6 u13 u14 u59 u60)).1)),.d (.i .i64 ((val (jak u15 u16 u17 u11 u18 u19 u20 u21 u22 u23 u24 u12 u5 u10 u9 u7 u6 u13 u14 u59 u60)).2.1)),.d (.i .i64 ((val (jak u15 u16 u17 u11 u18 u19 u20 u21 u22 u23 u24 u12 u5 u10 u9 u7 u6 u13 u14 u59 u60)).2.2.1)),.d (.i .i64 ((val (jak u15 u16 u17 u11 u18 u19 u20 u21 u22 u23 u24 u12 u5 u10 u9 u7 u6 u13 u14 u59 u60)).2.2.2.1)),.d (.i .i64 ((val (jak u15 u16 u17 u11 u18 u19 u20 u21 u22 u23 u24 u12 u5 u10 u9 u7 u6 u13 u14 u59 u60)).2.2.2.2.1)),.d (.i .i64 ((val (jak u15 u16 u17 u11 u18 u19 u20 u21 u22 u23 u24 u12 u5 u10 u9 u7 u6 u13 u14 u59 u60)).2.2.2.2.2.1)),.d (.i .i64 ((val (jak u15 u16 u17 u11 u18 u19 u20 u21 u22 u23 u24 u12 u5 u10 u9 u7 u6 u13 u14 u59 u60)).2.2.2.2.2.2.1)),.d (.i .i64 ((val (jak u15 u16 u17 u11 u18 u19 u20 u21 u22 u23 u24 u12 u5 u10 u9 u7 u6 u13 u14 u59 u60)).2.2.2.2.2.2.2.1)),.d (.i .i64 ((val (jak u15 u16 u17 u11 u18 u19 u20 u21 u22 u23 u24 u12 u5 u10 u9 u7 u6 u13 u14 u59 u60)).2.2.2.2.2.2.2.2.1)),.d (.i .i64 ((val (jak u15 u16 u17 u11 u18 u19 u20 u21 u22 u23 u24 u12 u5 u10 u9 u7 u6 u13 u14 u59 u60)).2.2.2.2.2.2.2.2.2.1)),.d (.i .i64 ((val (jak u15 u16 u17 u11 u18 u19 u20 u21 u22 u23 u24 u12 u5 u10 u9 u7 u6 u13 u14 u59 u60)).2.2.2.2.2.2.2.2.2.2.1)),.d (.i .i64 ((val (jak u15 u16 u17 u11 u18 u19 u20 u21 u22 u23 u24 u12 u5 u10 u9 u7 u6 u13 u14 u59 u60)).2.2.2.2.2.2.2.2.2.2.2.1)),.d (.i .i64 ((val (jak u15 u16 u17 u11 u18 u19 u20 u21 u22 u23 u24 u12 u5 u10 u9 u7 u6 u13 u14 u59 u60)).2.2.2.2.2.2.2.2.2.2.2.2.1)),.d (.i .i64 ((val (jak u15 u16 u17 u11 u18 u19 u20 u21 u22 u23 u24 u12 u5 u10 u9 u7 u6 u13 u14 u59 u60)).2.2.2.2.2.2.2.2.2.2.2.2.2.1)),.d (.i .i64 ((val (jak u15 u16 u17 u11 u18 u19 u20 u21 u22 u23 u24 u12 u5 u10 u9 u7 u6 u13 u14 u59 u60)).2.2.2.2.2.2.2.2.2.2.2.2.2.2.1)),.d (.i .i64 ((val (jak u15 u16 u17 u11 u18 u19 u20 u21 u22 u23 u24 u12 u5 u10 u9 u7 u6 u13 u14 u59 u60)).2.2.2.2.2.2.2.2.2.2.2.2.2.2.2.1)),.d (.i .i64 ((val (jak u15 u16 u17 u11 u18 u19 u20 u21 u22 u23 u24 u12 u5 u10 u9 u7 u6 u13 u14 u59 u60)).2.2.2.2.2.2.2.2.2.2.2.2.2.2.2.2.1)),.d (.i .i64 ((val (jak u15 u16 u17 u11 u18 u19 u20 u21 u22 u23 u24 u12 u5 u10 u9 u7 u6 u13 u14 u59 u60)).2.2.2.2.2.2.2.2.2.2.2.2.2.2.2.2.2.1)),.d (.i .i64 ((val (jak u15 u16 u17 u11 u18 u19 u20 u21 u22 u23 u24 u12 u5 u10 u9 u7 u6 u13 u14 u59 u60)).2.2.2.2.2.2.2.2.2.2.2.2.2.2.2.2.2.2.1)),.d (.i .i64 ((val (jak u15 u16 u17 u11 u18 u19 u20 u21 u22 u23 u24 u12 u5 u10 u9 u7 u6 u13 u14 u59 u60)).2.2.2.2.2.2.2.2.2.2.2.2.2.2.2.2.2.2.2.1)),.d (.i .i64 ((val (jak u15 u16 u17 u11 u18 u19 u20 u21 u22 u23 u24 u12 u5 u10 u9 u7 u6 u13 u14 u59 u60)).2.2.2.2.2.2.2.2.2.2.2.2.2.2.2.2.2.2.2.2.1)),.d (.i .i64 ((val (jak u15 u16 u17 u11 u18 u19 u20 u21 u22 u23 u24 u12 u5 u10 u9 u7 u6 u13 u14 u59 u60)).2.2.2.2.2.2.2.2.2.2.2.2.2.2.2.2.2.2.2.2.2.1)),.d (.i .i64 ((val (jak u15 u16 u17 u11 u18 u19 u20 u21 u22 u23 u24 u12 u5 u10 u9 u7 u6 u13 u14 u59 u60)).2.2.2.2.2.2.2.2.2.2.2.2.2.2.2.2.2.2.2.2.2.2.1)),.d (.i .i64 ((val (jak u15 u16 u17 u11 u18 u19 u20 u21 u22 u23 u24 u12 u5 u10 u9 u7 u6 u13 u14 u59 u60)).2.2.2.2.2.2.2.2.2.2.2.2.2.2.2.2.2.2.2.2.2.2.2.1)),.d (.i .i64 ((val (jak u15 u16 u17 u11 u18 u19 u20 u21 u22 u23 u24 u12 u5 u10 u9 u7 u6 u13 u14 u59 u60)).2.2.2.2.2.2.2.2.2.2.2.2.2.2.2.2.2.2.2.2.2.2.2.2.1)),.d (.i .i64 ((val (jak u15 u16 u17 u11 u18 u19 u20 u21 u22 u23 u24 u12 u5 u10 u9 u7 u6 u13 u14 u59 u60)).2.2.2.2.2.2.2.2.2.2.2.2.2.2.2.2.2.2.2.2.2.2.2.2.2.1)),.d (.i .i64 ((val (jak u15 u16 u17 u11 u18 u19 u20 u21 u22 u23 u24 u12 u5 u10 u9 u7 u6 u13 u14 u59 u60)).2.2.2.2.2.2.2.2.2.2.2.2.2.2.2.2.2.2.2.2.2.2.2.2.2.2.1)),.d (.i .i64 ((val (jak u15 u16 u17 u11 u18 u19 u20 u21 u22 u23 u24 u12 u5 u10 u9 u7 u6 u13 u14 u59 u60)).2.2.2.2.2.2.2.2.2.2.2.2.2.2.2.2.2.2.2.2.2.2.2.2.2.2.2.1)),.d (.i .i64 ((val (jak u15 u16 u17 u11 u18 u19 u20 u21 u22 u23 u24 u12 u5 u10 u9 u7 u6 u13 u14 u59 u60)).2.2.2.2.2.2.2.2.2.2.2.2.2.2.2.2.2.2.2.2.2.2.2.2.2.2.2.2.1)),.d (.i .i64 ((val (jak u15 u16 u17 u11 u18 u19 u20 u21 u22 u23 u24 u12 u5 u10 u9 u7 u6 u13 u14 u59 u60)).2.2.2.2.2.2.2.2.2.2.2.2.2.2.2.2.2.2.2.2.2.2.2.2.2.2.2.2.2.1)),.d (.i .i64 ((val (jak u15 u16 u17 u11 u18 u19 u20 u21 u22 u23 u24 u12 u5 u10 u9 u7 u6 u13 u14 u59 u60)).2.2.2.2.2.2.2.2.2.2.2.2.2.2.2.2.2.2.2.2.2.2.2.2.2.2.2.2.2.2.1)),.d (.i .i64 ((val (jak u15 u16 u17 u11 u18 u19 u20 u21 u22 u23 u24 u12 u5 u10 u9 u7 u6 u13 u14 u59 u60)).2.2.2.2.2.2.2.2.2.2.2.2.2.2.2.2.2.2.2.2.2.2.2.2.2.2.2.2.2.2.2))]])
 |_=>none
abbrev jaM (u15:ByteArray) (u16:List (List NC)) (u17:List Int) (u11:Int) (u18:List (List Nat)) (u19:List (List (List Int))) (u20:List (List Nat)) (u21:List Int) (u22:List (List Nat)) (u23:List (List (List Int))) (u24:List Int) (u10:List Int) (u9:List Int) (u59:Int) (u60:Int) (v0:(Int × Int × Int × Int × Int × Int × Int × Int × Int × Int × Int × Int × Int × Int × Int × Int × Int × Int × Int × Int × Int × Int × Int × Int × Int × Int × Int × Int × Int × Int × Int × Int × Int) × Nat):=(y49 u15 u16 u17 u11 u18 u19 u20 u21 u22 u23 u24 (List.getD u10 (Int.toNat u59) (0:Int)) (wrap .i64 (wrap .i64 (v0.1.1-List.getD u9 (Int.toNat u59) (0:Int))-u60)))
abbrev ja8 (v0:(Int × Int × Int × Int × Int × Int × Int × Int × Int × Int × Int × Int × Int × Int × Int × Int × Int × Int × Int × Int × Int × Int × Int × Int × Int × Int × Int × Int × Int × Int × Int × Int × Int) × Nat):=(0+Int.toNat v0.1.1*1)
abbrev juf  := (Int × Int × Int × Int × Int × Int × Int × Int × Int × Int × Int × Int × Int × Int × Int × Int × Int × Int × Int × Int × Int × Int × Int × Int × Int × Int × Int × Int × Int × Int × Int × Int × Int)
private abbrev qT0  (k:Prop):Prop :=
 (Ob ((0:Int)=(0:Int)) ∧
 (Ob ((0:Int)=(0:Int)) ∧
 (Ob ((0:Int)=(0:Int)) ∧
 (Ob ((0:Int)=(0:Int)) ∧
 (Ob ((0:Int)=(0:Int)) ∧
 (Ob ((0:Int)=(0:Int)) ∧
 (Ob ((0:Int)=(0:Int)) ∧
 (Ob ((0:Int)=(0:Int)) ∧
 k))))))))
theorem jmd (u15:ByteArray) (u16:List (List NC)) (u17:List Int) (u11:Int) (u18:List (List Nat)) (u19:List (List (List Int))) (u20:List (List Nat)) (u21:List Int) (u22:List (List Nat)) (u23:List (List (List Int))) (u24:List Int) (u12:ByteArray) (u5:Int) (u10:List Int) (u9:List Int) (u7:List Int) (u6:Int) (u13:List (List Int)) (u14:Int) (u59:Int) (u60:Int) (r:Int × Int × Int × Int × Int × Int × Int × Int × Int × Int × Int × Int × Int × Int × Int × Int × Int × Int × Int × Int × Int × Int × Int × Int × Int × Int × Int × Int × Int × Int × Int × Int) (h:Option.bind (jak u15 u16 u17 u11 u18 u19 u20 u21 u22 u23 u24 u12 u5 u10 u9 u7 u6 u13 u14 u59 u60) some=some r):jbQ Tryz.f148 ((sp_149 sp0)) (fun gs id _=>match id with
 |0=>some ⟨(Int × Int × Int × Int × Int × Int × Int × Int × Int × Int × Int × Int × Int × Int × Int × Int × Int × Int × Int × Int × Int × Int × Int × Int × Int × Int × Int × Int × Int × Int × Int × Int × Int) × Nat,fun z=>⟨[(0,.w (.c (.p 10 0 1 0))),(2,.w (.c (.d (.i .i64 u59)))),(3,.w (.c (.d (.i .i64 u60)))),(5,.w (.c (.p 15 0 1 0))),(8,.w (.c (.p 16 0 1 0))),(9,.w (.c (.p 17 0 1 0))),(11,.w (.c (.d (.i .i64 (Prod.fst (Prod.fst z))))))],[(10,.ebox [.p 2 0 1 0,.d (.i .i64 u11),.o 3,.o 4,.o 5,.o 6,.o 7,.o 8,.o 9]),(15,.box 118 [.d (.s u12),.d (.i .i64 u5),.o 11,.o 12,.o 13,.d (.i .i64 u6),.o 14,.d (.i .i64 u14)]),(16,.box 206 [.d (.i .i64 0),.d (.i .i64 0),.d (.i .i64 0),.d (.i .i64 0),.d (.i .i64 0),.d (.i .i64 0),.d (.i .i64 0),.d (.i .i64 0),.d (.i .i64 0),.d (.i .i64 0),.d (.i .i64 0),.d (.i .i64 0),.d (.i .i64 0),.d (.i .i64 0),.d (.i .i64 0),.d (.i .i64 0),.d (.i .i64 0),.d (.i .i64 0),.d (.i .i64 0),.d (.i .i64 0),.d (.i .i64 0),.d (.i .i64 0),.d (.i .i64 0),.d (.i .i64 0),.d (.i .i64 0),.d (.i .i64 0),.d (.i .i64 0),.d (.i .i64 0),.d (.i .i64 0),.d (.i .i64 0),.d (.i .i64 0),.d (.i .i64 0)]),(17,.box 206 [.d (.i .i64 (Prod.fst (Prod.snd (Prod.fst z)))),.d (.i .i64 (Prod.fst (Prod.snd (Prod.snd (Prod.fst z))))),.d (.i .i64 (Prod.fst (Prod.snd (Prod.snd (Prod.snd (Prod.fst z)))))),.d (.i .i64 (Prod.fst (Prod.snd (Prod.snd (Prod.snd (Prod.snd (Prod.fst z))))))),.d (.i .i64 (Prod.fst (Prod.snd (Prod.snd (Prod.snd (Prod.snd (Prod.snd (Prod.fst z)))))))),.d (.i .i64 (Prod.fst (Prod.snd (Prod.snd (Prod.snd (Prod.snd (Prod.snd (Prod.snd (Prod.fst z))))))))),.d (.i .i64 (Prod.fst (Prod.snd (Prod.snd (Prod.snd (Prod.snd (Prod.snd (Prod.snd (Prod.snd (Prod.fst z)))))))))),.d (.i .i64 (Prod.fst (Prod.snd (Prod.snd (Prod.snd (Prod.snd (Prod.snd (Prod.snd (Prod.snd (Prod.snd (Prod.fst z))))))))))),.d (.i .i64 (Prod.fst (Prod.snd (Prod.snd (Prod.snd (Prod.snd (Prod.snd (Prod.snd (Prod.snd (Prod.snd (Prod.snd (Prod.fst z)))))))))))),.d (.i .i64 (Prod.fst (Prod.snd (Prod.snd (Prod.snd (Prod.snd (Prod.snd (Prod.snd (Prod.snd (Prod.snd (Prod.snd (Prod.snd (Prod.fst z))))))))))))),.d (.i .i64 (Prod.fst (Prod.snd (Prod.snd (Prod.snd (Prod.snd (Prod.snd (Prod.snd (Prod.snd (Prod.snd (Prod.snd (Prod.snd (Prod.snd (Prod.fst z)))))))))))))),.d (.i .i64 (Prod.fst (Prod.snd (Prod.snd (Prod.snd (Prod.snd (Prod.snd (Prod.snd (Prod.snd (Prod.snd (Prod.snd (Prod.snd (Prod.snd (Prod.snd (Prod.fst z))))))))))))))),.d (.i .i64 (Prod.fst (Prod.snd (Prod.snd (Prod.snd (Prod.snd (Prod.snd (Prod.snd (Prod.snd (Prod.snd (Prod.snd (Prod.snd (Prod.snd (Prod.snd (Prod.snd (Prod.fst z)))))))))))))))),.d (.i .i64 (Prod.fst (Prod.snd (Prod.snd (Prod.snd (Prod.snd (Prod.snd (Prod.snd (Prod.snd (Prod.snd (Prod.snd (Prod.snd (Prod.snd (Prod.snd (Prod.snd (Prod.snd (Prod.fst z))))))))))))))))),.d (.i .i64 (Prod.fst (Prod.snd (Prod.snd (Prod.snd (Prod.snd (Prod.snd (Prod.snd (Prod.snd (Prod.snd (Prod.snd (Prod.snd (Prod.snd (Prod.snd (Prod.snd (Prod.snd (Prod.snd (Prod.fst z)))))))))))))))))),.d (.i .i64 (Prod.fst (Prod.snd (Prod.snd (Prod.snd (Prod.snd (Prod.snd (Prod.snd (Prod.snd (Prod.snd (Prod.snd (Prod.snd (Prod.snd (Prod.snd (Prod.snd (Prod.snd (Prod.snd (Prod.snd (Prod.fst z))))))))))))))))))),.d (.i .i64 (Prod.fst (Prod.snd (Prod.snd (Prod.snd (Prod.snd (Prod.snd (Prod.snd (Prod.snd (Prod.snd (Prod.snd (Prod.snd (Prod.snd (Prod.snd (Prod.snd (Prod.snd (Prod.snd (Prod.snd (Prod.snd (Prod.fst z)))))))))))))))))))),.d (.i .i64 (Prod.fst (Prod.snd (Prod.snd (Prod.snd (Prod.snd (Prod.snd (Prod.snd (Prod.snd (Prod.snd (Prod.snd (Prod.snd (Prod.snd (Prod.snd (Prod.snd (Prod.snd (Prod.snd (Prod.snd (Prod.snd (Prod.snd (Prod.fst z))))))))))))))))))))),.d (.i .i64 (Prod.fst (Prod.snd (Prod.snd (Prod.snd (Prod.snd (Prod.snd (Prod.snd (Prod.snd (Prod.snd (Prod.snd (Prod.snd (Prod.snd (Prod.snd (Prod.snd (Prod.snd (Prod.snd (Prod.snd (Prod.snd (Prod.snd (Prod.snd (Prod.fst z)))))))))))))))))))))),.d (.i .i64 (Prod.fst (Prod.snd (Prod.snd (Prod.snd (Prod.snd (Prod.snd (Prod.snd (Prod.snd (Prod.snd (Prod.snd (Prod.snd (Prod.snd (Prod.snd (Prod.snd (Prod.snd (Prod.snd (Prod.snd (Prod.snd (Prod.snd (Prod.snd (Prod.snd (Prod.fst z))))))))))))))))))))))),.d (.i .i64 (Prod.fst (Prod.snd (Prod.snd (Prod.snd (Prod.snd (Prod.snd (Prod.snd (Prod.snd (Prod.snd (Prod.snd (Prod.snd (Prod.snd (Prod.snd (Prod.snd (Prod.snd (Prod.snd (Prod.snd (Prod.snd (Prod.snd (Prod.snd (Prod.snd (Prod.snd (Prod.fst z)))))))))))))))))))))))),.d (.i .i64 (Prod.fst (Prod.snd (Prod.snd (Prod.snd (Prod.snd (Prod.snd (Prod.snd (Prod.snd (Prod.snd (Prod.snd (Prod.snd (Prod.snd (Prod.snd (Prod.snd (Prod.snd (Prod.snd (Prod.snd (Prod.snd (Prod.snd (Prod.snd (Prod.snd (Prod.snd (Prod.snd (Prod.fst z))))))))))))))))))))))))),.d (.i .i64 (Prod.fst (Prod.snd (Prod.snd (Prod.snd (Prod.snd (Prod.snd (Prod.snd (Prod.snd (Prod.snd (Prod.snd (Prod.snd (Prod.snd (Prod.snd (Prod.snd (Prod.snd (Prod.snd (Prod.snd (Prod.snd (Prod.snd (Prod.snd (Prod.snd (Prod.snd (Prod.snd (Prod.snd (Prod.fst z)))))))))))))))))))))))))),.d (.i .i64 (Prod.fst (Prod.snd (Prod.snd (Prod.snd (Prod.snd (Prod.snd (Prod.snd (Prod.snd (Prod.snd (Prod.snd (Prod.snd (Prod.snd (Prod.snd (Prod.snd (Prod.snd (Prod.snd (Prod.snd (Prod.snd (Prod.snd (Prod.snd (Prod.snd (Prod.snd (Prod.snd (Prod.snd (Prod.snd (Prod.fst z))))))))))))))))))))))))))),.d (.i .i64 (Prod.fst (Prod.snd (Prod.snd (Prod.snd (Prod.snd (Prod.snd (Prod.snd (Prod.snd (Prod.snd (Prod.snd (Prod.snd (Prod.snd (Prod.snd (Prod.snd (Prod.snd (Prod.snd (Prod.snd (Prod.snd (Prod.snd (Prod.snd (Prod.snd (Prod.snd (Prod.snd (Prod.snd (Prod.snd (Prod.snd (Prod.fst z)))))))))))))))))))))))))))),.d (.i .i64 (Prod.fst (Prod.snd (Prod.snd (Prod.snd (Prod.snd (Prod.snd (Prod.snd (Prod.snd (Prod.snd (Prod.snd (Prod.snd (Prod.snd (Prod.snd (Prod.snd (Prod.snd (Prod.snd (Prod.snd (Prod.snd (Prod.snd (Prod.snd (Prod.snd (Prod.snd (Prod.snd (Prod.snd (Prod.snd (Prod.snd (Prod.snd (Prod.fst z))))))))))))))))))))))))))))),.d (.i .i64 (Prod.fst (Prod.snd (Prod.snd (Prod.snd (Prod.snd (Prod.snd (Prod.snd (Prod.snd (Prod.snd (Prod.snd (Prod.snd (Prod.snd (Prod.snd (Prod.snd (Prod.snd (Prod.snd (Prod.snd (Prod.snd (Prod.snd (Prod.snd (Prod.snd (Prod.snd (Prod.snd (Prod.snd (Prod.snd (Prod.snd (Prod.snd (Prod.snd (Prod.fst z)))))))))))))))))))))))))))))),.d (.i .i64 (Prod.fst (Prod.snd (Prod.snd (Prod.snd (Prod.snd (Prod.snd (Prod.snd (Prod.snd (Prod.snd (Prod.snd (Prod.snd (Prod.snd (Prod.snd (Prod.snd (Prod.snd (Prod.snd (Prod.snd (Prod.snd (Prod.snd (Prod.snd (Prod.snd (Prod.snd (Prod.snd (Prod.snd (Prod.snd (Prod.snd (Prod.snd (Prod.snd (Prod.snd (Prod.fst z))))))))))))))))))))))))))))))),.d (.i .i64 (Prod.fst (Prod.snd (Prod.snd (Prod.snd (Prod.snd (Prod.snd (Prod.snd (Prod.snd (Prod.snd (Prod.snd (Prod.snd (Prod.snd (Prod.snd (Prod.snd (Prod.snd (Prod.snd (Prod.snd (Prod.snd (Prod.snd (Prod.snd (Prod.snd (Prod.snd (Prod.snd (Prod.snd (Prod.snd (Prod.snd (Prod.snd (Prod.snd (Prod.snd (Prod.snd (Prod.fst z)))))))))))))))))))))))))))))))),.d (.i .i64 (Prod.fst (Prod.snd (Prod.snd (Prod.snd (Prod.snd (Prod.snd (Prod.snd (Prod.snd (Prod.snd (Prod.snd (Prod.snd (Prod.snd (Prod.snd (Prod.snd (Prod.snd (Prod.snd (Prod.snd (Prod.snd (Prod.snd (Prod.snd (Prod.snd (Prod.snd (Prod.snd (Prod.snd (Prod.snd (Prod.snd (Prod.snd (Prod.snd (Prod.snd (Prod.snd (Prod.snd (Prod.fst z))))))))))))))))))))))))))))))))),.d (.i .i64 (Prod.fst (Prod.snd (Prod.snd (Prod.snd (Prod.snd (Prod.snd (Prod.snd (Prod.snd (Prod.snd (Prod.snd (Prod.snd (Prod.snd (Prod.snd (Prod.snd (Prod.snd (Prod.snd (Prod.snd (Prod.snd (Prod.snd (Prod.snd (Prod.snd (Prod.snd (Prod.snd (Prod.snd (Prod.snd (Prod.snd (Prod.snd (Prod.snd (Prod.snd (Prod.snd (Prod.snd (Prod.snd (Prod.fst z)))))))))))))))))))))))))))))))))),.d (.i .i64 (Prod.snd (Prod.snd (Prod.snd (Prod.snd (Prod.snd (Prod.snd (Prod.snd (Prod.snd (Prod.snd (Prod.snd (Prod.snd (Prod.snd (Prod.snd (Prod.snd (Prod.snd (Prod.snd (Prod.snd (Prod.snd (Prod.snd (Prod.snd (Prod.snd (Prod.snd (Prod.snd (Prod.snd (Prod.snd (Prod.snd (Prod.snd (Prod.snd (Prod.snd (Prod.snd (Prod.snd (Prod.snd (Prod.fst z))))))))))))))))))))))))))))))))))]),(2,.ebox [.d (.s u15),.o 0,.o 1]),(3,.xext (XC.ff .f32 u18)),(4,.xext (XC.rr (4:Nat) u19)),(5,.ext (.frs .f32 32 u20)),(6,.ext (.ints .i64 u21)),(7,.ext (.frs .f32 32 u22)),(8,.xext (XC.rr (4:Nat) u23)),(9,.ext (.ints .i64 u24)),(11,.ext (.ints .i64 u10)),(12,.ext (.ints .i64 u9)),(13,.ext (.ints .i64 u7)),(14,.ext (.recs 5 u13)),(0,.xext (XC.st [NK.s,NK.i .i64,NK.ints .i64,NK.ints .i64,NK.ints .i64,NK.i .i64,NK.recs (5:Nat),NK.i .i64] u16)),(1,.ext (.ints .i64 u17))],18⟩,fun z=>Option.bind (jad (jcj u15 u16 u17 u11 u18 u19 u20 u21 u22 u23 u24 u10 u9 u59 u60) (Prod.snd z) (Prod.fst z)) (fun y0=>Option.bind (jck y0) some)=some r,fun z=>Prod.snd z⟩
 |_=>none) (jbA jeL [.d (.s u15),.x (.st [.s,.i .i64,.ints .i64,.ints .i64,.ints .i64,.i .i64,.recs 5,.i .i64] u16),.r (.ints .i64 u17),.d (.i .i64 u11),.x (.ff .f32 u18),.x (.rr 4 u19),.r (.frs .f32 32 u20),.r (.ints .i64 u21),.r (.frs .f32 32 u22),.x (.rr 4 u23),.r (.ints .i64 u24),.d (.s u12),.d (.i .i64 u5),.r (.ints .i64 u10),.r (.ints .i64 u9),.r (.ints .i64 u7),.d (.i .i64 u6),.r (.recs 5 u13),.d (.i .i64 u14),.d (.i .i64 u59),.d (.i .i64 u60)]) [.s [.d (.i .i64 r.1),.d (.i .i64 r.2.1),.d (.i .i64 r.2.2.1),.d (.i .i64 r.2.2.2.1),.d (.i .i64 r.2.2.2.2.1),.d (.i .i64 r.2.2.2.2.2.1),.d (.i .i64 r.2.2.2.2.2.2.1),.d (.i .i64 r.2.2.2.2.2.2.2.1),.d (.i .i64 r.2.2.2.2.2.2.2.2.1),.d (.i .i64 r.2.2.2.2.2.2.2.2.2.1),.d (.i .i64 r.2.2.2.2.2.2.2.2.2.2.1),.d (.i .i64 r.2.2.2.2.2.2.2.2.2.2.2.1),.d (.i .i64 r.2.2.2.2.2.2.2.2.2.2.2.2.1),.d (.i .i64 r.2.2.2.2.2.2.2.2.2.2.2.2.2.1),.d (.i .i64 r.2.2.2.2.2.2.2.2.2.2.2.2.2.2.1),.d (.i .i64 r.2.2.2.2.2.2.2.2.2.2.2.2.2.2.2.1),.d (.i .i64 r.2.2.2.2.2.2.2.2.2.2.2.2.2.2.2.2.1),.d (.i .i64 r.2.2.2.2.2.2.2.2.2.2.2.2.2.2.2.2.2.1),.d (.i .i64 r.2.2.2.2.2.2.2.2.2.2.2.2.2.2.2.2.2.2.1),.d (.i .i64 r.2.2.2.2.2.2.2.2.2.2.2.2.2.2.2.2.2.2.2.1),.d (.i .i64 r.2.2.2.2.2.2.2.2.2.2.2.2.2.2.2.2.2.2.2.2.1),.d (.i .i64 r.2.2.2.2.2.2.2.2.2.2.2.2.2.2.2.2.2.2.2.2.2.1),.d (.i .i64 r.2.2.2.2.2.2.2.2.2.2.2.2.2.2.2.2.2.2.2.2.2.2.1),.d (.i .i64 r.2.2.2.2.2.2.2.2.2.2.2.2.2.2.2.2.2.2.2.2.2.2.2.1),.d (.i .i64 r.2.2.2.2.2.2.2.2.2.2.2.2.2.2.2.2.2.2.2.2.2.2.2.2.1),.d (.i .i64 r.2.2.2.2.2.2.2.2.2.2.2.2.2.2.2.2.2.2.2.2.2.2.2.2.2.1),.d (.i .i64 r.2.2.2.2.2.2.2.2.2.2.2.2.2.2.2.2.2.2.2.2.2.2.2.2.2.2.1),.d (.i .i64 r.2.2.2.2.2.2.2.2.2.2.2.2.2.2.2.2.2.2.2.2.2.2.2.2.2.2.2.1),.d (.i .i64 r.2.2.2.2.2.2.2.2.2.2.2.2.2.2.2.2.2.2.2.2.2.2.2.2.2.2.2.2.1),.d (.i .i64 r.2.2.2.2.2.2.2.2.2.2.2.2.2.2.2.2.2.2.2.2.2.2.2.2.2.2.2.2.2.1),.d (.i .i64 r.2.2.2.2.2.2.2.2.2.2.2.2.2.2.2.2.2.2.2.2.2.2.2.2.2.2.2.2.2.2.1),.d (.i .i64 r.2.2.2.2.2.2.2.2.2.2.2.2.2.2.2.2.2.2.2.2.2.2.2.2.2.2.2.2.2.2.2)]]:=by
 refine Eq.mp (by kernel_rfl:(
 ((∃(v0:(juf) × Nat),(Ob ((Option.bind (jad (jcj u15 u16 u17 u11 u18 u19 u20 u21 u22 u23 u24 u10 u9 u59 u60) v0.2 v0.1) fun y0=>Option.bind (jck y0) some)=some r) ∧
 (Ob (0=0) ∧
 (Ob (u59=u59) ∧
 (Ob (u60=u60) ∧
 (Ob (0=0) ∧
 (Ob (0=0) ∧
 (Ob (0=0) ∧
 (Ob ((0:Int)=v0.1.1) ∧
 (Ob (0=0) ∧
 (Ob (u11=u11) ∧
 (Ob (u12=u12) ∧
 (Ob (u5=u5) ∧
 (Ob (u6=u6) ∧
 (Ob (u14=u14) ∧
  (qT0 (
  (qT0 (
  (qT0 (
  (qT0 (
 (Ob ((0:Int)=v0.1.2.1) ∧
 (Ob ((0:Int)=v0.1.2.2.1) ∧
 (Ob ((0:Int)=v0.1.2.2.2.1) ∧
 (Ob ((0:Int)=v0.1.2.2.2.2.1) ∧
 (Ob ((0:Int)=v0.1.2.2.2.2.2.1) ∧
 (Ob ((0:Int)=v0.1.2.2.2.2.2.2.1) ∧
 (Ob ((0:Int)=v0.1.2.2.2.2.2.2.2.1) ∧
 (Ob ((0:Int)=v0.1.2.2.2.2.2.2.2.2.1) ∧
 (Ob ((0:Int)=v0.1.2.2.2.2.2.2.2.2.2.1) ∧
 (Ob ((0:Int)=v0.1.2.2.2.2.2.2.2.2.2.2.1) ∧
 (Ob ((0:Int)=v0.1.2.2.2.2.2.2.2.2.2.2.2.1) ∧
 (Ob ((0:Int)=v0.1.2.2.2.2.2.2.2.2.2.2.2.2.1) ∧
 (Ob ((0:Int)=v0.1.2.2.2.2.2.2.2.2.2.2.2.2.2.1) ∧
 (Ob ((0:Int)=v0.1.2.2.2.2.2.2.2.2.2.2.2.2.2.2.1) ∧
 (Ob ((0:Int)=v0.1.2.2.2.2.2.2.2.2.2.2.2.2.2.2.2.1) ∧
 (Ob ((0:Int)=v0.1.2.2.2.2.2.2.2.2.2.2.2.2.2.2.2.2.1) ∧
 (Ob ((0:Int)=v0.1.2.2.2.2.2.2.2.2.2.2.2.2.2.2.2.2.2.1) ∧
 (Ob ((0:Int)=v0.1.2.2.2.2.2.2.2.2.2.2.2.2.2.2.2.2.2.2.1) ∧
 (Ob ((0:Int)=v0.1.2.2.2.2.2.2.2.2.2.2.2.2.2.2.2.2.2.2.2.1) ∧
 (Ob ((0:Int)=v0.1.2.2.2.2.2.2.2.2.2.2.2.2.2.2.2.2.2.2.2.2.1) ∧
 (Ob ((0:Int)=v0.1.2.2.2.2.2.2.2.2.2.2.2.2.2.2.2.2.2.2.2.2.2.1) ∧
 (Ob ((0:Int)=v0.1.2.2.2.2.2.2.2.2.2.2.2.2.2.2.2.2.2.2.2.2.2.2.1) ∧
 (Ob ((0:Int)=v0.1.2.2.2.2.2.2.2.2.2.2.2.2.2.2.2.2.2.2.2.2.2.2.2.1) ∧
 (Ob ((0:Int)=v0.1.2.2.2.2.2.2.2.2.2.2.2.2.2.2.2.2.2.2.2.2.2.2.2.2.1) ∧
 (Ob ((0:Int)=v0.1.2.2.2.2.2.2.2.2.2.2.2.2.2.2.2.2.2.2.2.2.2.2.2.2.2.1) ∧
 (Ob ((0:Int)=v0.1.2.2.2.2.2.2.2.2.2.2.2.2.2.2.2.2.2.2.2.2.2.2.2.2.2.2.1) ∧
 (Ob ((0:Int)=v0.1.2.2.2.2.2.2.2.2.2.2.2.2.2.2.2.2.2.2.2.2.2.2.2.2.2.2.2.1) ∧
 (Ob ((0:Int)=v0.1.2.2.2.2.2.2.2.2.2.2.2.2.2.2.2.2.2.2.2.2.2.2.2.2.2.2.2.2.1) ∧
 (Ob ((0:Int)=v0.1.2.2.2.2.2.2.2.2.2.2.2.2.2.2.2.2.2.2.2.2.2.2.2.2.2.2.2.2.2.1) ∧
 (Ob ((0:Int)=v0.1.2.2.2.2.2.2.2.2.2.2.2.2.2.2.2.2.2.2.2.2.2.2.2.2.2.2.2.2.2.2.1) ∧
 (Ob ((0:Int)=v0.1.2.2.2.2.2.2.2.2.2.2.2.2.2.2.2.2.2.2.2.2.2.2.2.2.2.2.2.2.2.2.2.1) ∧
 (Ob ((0:Int)=v0.1.2.2.2.2.2.2.2.2.2.2.2.2.2.2.2.2.2.2.2.2.2.2.2.2.2.2.2.2.2.2.2.2) ∧
 (Ob (u15=u15) ∧
 (Ob (u18=u18) ∧
 (Ob (u19=u19) ∧
 (Ob (u20=u20) ∧
 (Ob (u21=u21) ∧
 (Ob (u22=u22) ∧
 (Ob (u23=u23) ∧
 (Ob (u24=u24) ∧
 (Ob (u10=u10) ∧
 (Ob (u9=u9) ∧
 (Ob (u7=u7) ∧
 (Ob (u13=u13) ∧
 (Ob (u16=u16) ∧
 (Ob (u17=u17) ∧
 True))))))))))))))))))))))))))))))))))))))))))))))))))))))))))))))))))))) ∧
  (∀(v0:(juf) × Nat),((Option.bind (jad (jcj u15 u16 u17 u11 u18 u19 u20 u21 u22 u23 u24 u10 u9 u59 u60) v0.2 v0.1) fun y0=>Option.bind (jck y0) some)=some r →
 Br (decide (v0.1.1<32))
  ((Ob (0≤u59∧u59<(↑(List.length u10):Int)) ∧
 (Ob (Int.toNat u59<List.length u10) ∧
 (Ob (0≤u59∧u59<(↑(List.length u9):Int)) ∧
 (Ob (Int.toNat u59<List.length u9) ∧
 (Ob (ok (jaM u15 u16 u17 u11 u18 u19 u20 u21 u22 u23 u24 u10 u9 u59 u60 v0)) ∧
 (Ob (0≤v0.1.1∧v0.1.1<(↑(32:Nat):Int)) ∧
 (Ob (List.getD [true,true,true,true,true,true,true,true,true,true,true,true,true,true,true,true,true,true,true,true,true,true,true,true,true,true,true,true,true,true,true,true] (ja8 v0) false=true) ∧
  (∃(v1:(juf) × Nat),(Ob ((Option.bind (jad (jcj u15 u16 u17 u11 u18 u19 u20 u21 u22 u23 u24 u10 u9 u59 u60) v1.2 v1.1) fun y0=>Option.bind (jck y0) some)=some r) ∧
 (Ob (v1.2<v0.2) ∧
 (Ob (0=0) ∧
 (Ob (u59=u59) ∧
 (Ob (u60=u60) ∧
 (Ob (0=0) ∧
 (Ob (0=0) ∧
 (Ob (0=0) ∧
 (Ob (wrap .i64 (v0.1.1+1)=v1.1.1) ∧
 (Ob (0=0) ∧
 (Ob (u11=u11) ∧
 (Ob (u12=u12) ∧
 (Ob (u5=u5) ∧
 (Ob (u6=u6) ∧
 (Ob (u14=u14) ∧
  (qT0 (
  (qT0 (
  (qT0 (
  (qT0 (
 (Ob ((bif Nat.beq (ja8 v0) 0 then val (jaM u15 u16 u17 u11 u18 u19 u20 u21 u22 u23 u24 u10 u9 u59 u60 v0)else v0.1.2.1)=v1.1.2.1) ∧
 (Ob ((bif Nat.beq (ja8 v0) 1 then val (jaM u15 u16 u17 u11 u18 u19 u20 u21 u22 u23 u24 u10 u9 u59 u60 v0)else v0.1.2.2.1)=v1.1.2.2.1) ∧
 (Ob ((bif Nat.beq (ja8 v0) 2 then val (jaM u15 u16 u17 u11 u18 u19 u20 u21 u22 u23 u24 u10 u9 u59 u60 v0)else v0.1.2.2.2.1)=v1.1.2.2.2.1) ∧
 (Ob ((bif Nat.beq (ja8 v0) 3 then val (jaM u15 u16 u17 u11 u18 u19 u20 u21 u22 u23 u24 u10 u9 u59 u60 v0)else v0.1.2.2.2.2.1)=v1.1.2.2.2.2.1) ∧
 (Ob ((bif Nat.beq (ja8 v0) 4 then val (jaM u15 u16 u17 u11 u18 u19 u20 u21 u22 u23 u24 u10 u9 u59 u60 v0)else v0.1.2.2.2.2.2.1)=v1.1.2.2.2.2.2.1) ∧
 (Ob ((bif Nat.beq (ja8 v0) 5 then val (jaM u15 u16 u17 u11 u18 u19 u20 u21 u22 u23 u24 u10 u9 u59 u60 v0)else v0.1.2.2.2.2.2.2.1)=v1.1.2.2.2.2.2.2.1) ∧
 (Ob ((bif Nat.beq (ja8 v0) 6 then val (jaM u15 u16 u17 u11 u18 u19 u20 u21 u22 u23 u24 u10 u9 u59 u60 v0)else v0.1.2.2.2.2.2.2.2.1)=v1.1.2.2.2.2.2.2.2.1) ∧
 (Ob ((bif Nat.beq (ja8 v0) 7 then val (jaM u15 u16 u17 u11 u18 u19 u20 u21 u22 u23 u24 u10 u9 u59 u60 v0)else v0.1.2.2.2.2.2.2.2.2.1)=v1.1.2.2.2.2.2.2.2.2.1) ∧
 (Ob ((bif Nat.beq (ja8 v0) 8 then val (jaM u15 u16 u17 u11 u18 u19 u20 u21 u22 u23 u24 u10 u9 u59 u60 v0)else v0.1.2.2.2.2.2.2.2.2.2.1)=v1.1.2.2.2.2.2.2.2.2.2.1) ∧
 (Ob ((bif Nat.beq (ja8 v0) 9 then val (jaM u15 u16 u17 u11 u18 u19 u20 u21 u22 u23 u24 u10 u9 u59 u60 v0)else v0.1.2.2.2.2.2.2.2.2.2.2.1)=v1.1.2.2.2.2.2.2.2.2.2.2.1) ∧
 (Ob ((bif Nat.beq (ja8 v0) 10 then val (jaM u15 u16 u17 u11 u18 u19 u20 u21 u22 u23 u24 u10 u9 u59 u60 v0)else v0.1.2.2.2.2.2.2.2.2.2.2.2.1)=v1.1.2.2.2.2.2.2.2.2.2.2.2.1) ∧
 (Ob ((bif Nat.beq (ja8 v0) 11 then val (jaM u15 u16 u17 u11 u18 u19 u20 u21 u22 u23 u24 u10 u9 u59 u60 v0)else v0.1.2.2.2.2.2.2.2.2.2.2.2.2.1)=v1.1.2.2.2.2.2.2.2.2.2.2.2.2.1) ∧
 (Ob ((bif Nat.beq (ja8 v0) 12 then val (jaM u15 u16 u17 u11 u18 u19 u20 u21 u22 u23 u24 u10 u9 u59 u60 v0)else v0.1.2.2.2.2.2.2.2.2.2.2.2.2.2.1)=v1.1.2.2.2.2.2.2.2.2.2.2.2.2.2.1) ∧
 (Ob ((bif Nat.beq (ja8 v0) 13 then val (jaM u15 u16 u17 u11 u18 u19 u20 u21 u22 u23 u24 u10 u9 u59 u60 v0)else v0.1.2.2.2.2.2.2.2.2.2.2.2.2.2.2.1)=v1.1.2.2.2.2.2.2.2.2.2.2.2.2.2.2.1) ∧
 (Ob ((bif Nat.beq (ja8 v0) 14 then val (jaM u15 u16 u17 u11 u18 u19 u20 u21 u22 u23 u24 u10 u9 u59 u60 v0)else v0.1.2.2.2.2.2.2.2.2.2.2.2.2.2.2.2.1)=v1.1.2.2.2.2.2.2.2.2.2.2.2.2.2.2.2.1) ∧
 (Ob ((bif Nat.beq (ja8 v0) 15 then val (jaM u15 u16 u17 u11 u18 u19 u20 u21 u22 u23 u24 u10 u9 u59 u60 v0)else v0.1.2.2.2.2.2.2.2.2.2.2.2.2.2.2.2.2.1)=v1.1.2.2.2.2.2.2.2.2.2.2.2.2.2.2.2.2.1) ∧
 (Ob ((bif Nat.beq (ja8 v0) 16 then val (jaM u15 u16 u17 u11 u18 u19 u20 u21 u22 u23 u24 u10 u9 u59 u60 v0)else v0.1.2.2.2.2.2.2.2.2.2.2.2.2.2.2.2.2.2.1)=v1.1.2.2.2.2.2.2.2.2.2.2.2.2.2.2.2.2.2.1) ∧
 (Ob ((bif Nat.beq (ja8 v0) 17 then val (jaM u15 u16 u17 u11 u18 u19 u20 u21 u22 u23 u24 u10 u9 u59 u60 v0)else v0.1.2.2.2.2.2.2.2.2.2.2.2.2.2.2.2.2.2.2.1)=v1.1.2.2.2.2.2.2.2.2.2.2.2.2.2.2.2.2.2.2.1) ∧
 (Ob ((bif Nat.beq (ja8 v0) 18 then val (jaM u15 u16 u17 u11 u18 u19 u20 u21 u22 u23 u24 u10 u9 u59 u60 v0)else v0.1.2.2.2.2.2.2.2.2.2.2.2.2.2.2.2.2.2.2.2.1)=v1.1.2.2.2.2.2.2.2.2.2.2.2.2.2.2.2.2.2.2.2.1) ∧
 (Ob ((bif Nat.beq (ja8 v0) 19 then val (jaM u15 u16 u17 u11 u18 u19 u20 u21 u22 u23 u24 u10 u9 u59 u60 v0)else v0.1.2.2.2.2.2.2.2.2.2.2.2.2.2.2.2.2.2.2.2.2.1)=v1.1.2.2.2.2.2.2.2.2.2.2.2.2.2.2.2.2.2.2.2.2.1) ∧
 (Ob ((bif Nat.beq (ja8 v0) 20 then val (jaM u15 u16 u17 u11 u18 u19 u20 u21 u22 u23 u24 u10 u9 u59 u60 v0)else v0.1.2.2.2.2.2.2.2.2.2.2.2.2.2.2.2.2.2.2.2.2.2.1)=v1.1.2.2.2.2.2.2.2.2.2.2.2.2.2.2.2.2.2.2.2.2.2.1) ∧
 (Ob ((bif Nat.beq (ja8 v0) 21 then val (jaM u15 u16 u17 u11 u18 u19 u20 u21 u22 u23 u24 u10 u9 u59 u60 v0)else v0.1.2.2.2.2.2.2.2.2.2.2.2.2.2.2.2.2.2.2.2.2.2.2.1)=v1.1.2.2.2.2.2.2.2.2.2.2.2.2.2.2.2.2.2.2.2.2.2.2.1) ∧
 (Ob ((bif Nat.beq (ja8 v0) 22 then val (jaM u15 u16 u17 u11 u18 u19 u20 u21 u22 u23 u24 u10 u9 u59 u60 v0)else v0.1.2.2.2.2.2.2.2.2.2.2.2.2.2.2.2.2.2.2.2.2.2.2.2.1)=v1.1.2.2.2.2.2.2.2.2.2.2.2.2.2.2.2.2.2.2.2.2.2.2.2.1) ∧
 (Ob ((bif Nat.beq (ja8 v0) 23 then val (jaM u15 u16 u17 u11 u18 u19 u20 u21 u22 u23 u24 u10 u9 u59 u60 v0)else v0.1.2.2.2.2.2.2.2.2.2.2.2.2.2.2.2.2.2.2.2.2.2.2.2.2.1)=v1.1.2.2.2.2.2.2.2.2.2.2.2.2.2.2.2.2.2.2.2.2.2.2.2.2.1) ∧
 (Ob ((bif Nat.beq (ja8 v0) 24 then val (jaM u15 u16 u17 u11 u18 u19 u20 u21 u22 u23 u24 u10 u9 u59 u60 v0)else v0.1.2.2.2.2.2.2.2.2.2.2.2.2.2.2.2.2.2.2.2.2.2.2.2.2.2.1)=v1.1.2.2.2.2.2.2.2.2.2.2.2.2.2.2.2.2.2.2.2.2.2.2.2.2.2.1) ∧
 (Ob ((bif Nat.beq (ja8 v0) 25 then val (jaM u15 u16 u17 u11 u18 u19 u20 u21 u22 u23 u24 u10 u9 u59 u60 v0)else v0.1.2.2.2.2.2.2.2.2.2.2.2.2.2.2.2.2.2.2.2.2.2.2.2.2.2.2.1)=v1.1.2.2.2.2.2.2.2.2.2.2.2.2.2.2.2.2.2.2.2.2.2.2.2.2.2.2.1) ∧
 (Ob ((bif Nat.beq (ja8 v0) 26 then val (jaM u15 u16 u17 u11 u18 u19 u20 u21 u22 u23 u24 u10 u9 u59 u60 v0)else v0.1.2.2.2.2.2.2.2.2.2.2.2.2.2.2.2.2.2.2.2.2.2.2.2.2.2.2.2.1)=v1.1.2.2.2.2.2.2.2.2.2.2.2.2.2.2.2.2.2.2.2.2.2.2.2.2.2.2.2.1) ∧
 (Ob ((bif Nat.beq (ja8 v0) 27 then val (jaM u15 u16 u17 u11 u18 u19 u20 u21 u22 u23 u24 u10 u9 u59 u60 v0)else v0.1.2.2.2.2.2.2.2.2.2.2.2.2.2.2.2.2.2.2.2.2.2.2.2.2.2.2.2.2.1)=v1.1.2.2.2.2.2.2.2.2.2.2.2.2.2.2.2.2.2.2.2.2.2.2.2.2.2.2.2.2.1) ∧
 (Ob ((bif Nat.beq (ja8 v0) 28 then val (jaM u15 u16 u17 u11 u18 u19 u20 u21 u22 u23 u24 u10 u9 u59 u60 v0)else v0.1.2.2.2.2.2.2.2.2.2.2.2.2.2.2.2.2.2.2.2.2.2.2.2.2.2.2.2.2.2.1)=v1.1.2.2.2.2.2.2.2.2.2.2.2.2.2.2.2.2.2.2.2.2.2.2.2.2.2.2.2.2.2.1) ∧
 (Ob ((bif Nat.beq (ja8 v0) 29 then val (jaM u15 u16 u17 u11 u18 u19 u20 u21 u22 u23 u24 u10 u9 u59 u60 v0)else v0.1.2.2.2.2.2.2.2.2.2.2.2.2.2.2.2.2.2.2.2.2.2.2.2.2.2.2.2.2.2.2.1)=v1.1.2.2.2.2.2.2.2.2.2.2.2.2.2.2.2.2.2.2.2.2.2.2.2.2.2.2.2.2.2.2.1) ∧
 (Ob ((bif Nat.beq (ja8 v0) 30 then val (jaM u15 u16 u17 u11 u18 u19 u20 u21 u22 u23 u24 u10 u9 u59 u60 v0)else v0.1.2.2.2.2.2.2.2.2.2.2.2.2.2.2.2.2.2.2.2.2.2.2.2.2.2.2.2.2.2.2.2.1)=v1.1.2.2.2.2.2.2.2.2.2.2.2.2.2.2.2.2.2.2.2.2.2.2.2.2.2.2.2.2.2.2.2.1) ∧
 (Ob ((bif Nat.beq (ja8 v0) 31 then val (jaM u15 u16 u17 u11 u18 u19 u20 u21 u22 u23 u24 u10 u9 u59 u60 v0)else v0.1.2.2.2.2.2.2.2.2.2.2.2.2.2.2.2.2.2.2.2.2.2.2.2.2.2.2.2.2.2.2.2.2)=v1.1.2.2.2.2.2.2.2.2.2.2.2.2.2.2.2.2.2.2.2.2.2.2.2.2.2.2.2.2.2.2.2.2) ∧
 (Ob (u15=u15) ∧
 (Ob (u18=u18) ∧
 (Ob (u19=u19) ∧
 (Ob (u20=u20) ∧
 (Ob (u21=u21) ∧
 (Ob (u22=u22) ∧
 (Ob (u23=u23) ∧
 (Ob (u24=u24) ∧
 (Ob (u10=u10) ∧
 (Ob (u9=u9) ∧
 (Ob (u7=u7) ∧
 (Ob (u13=u13) ∧
 (Ob (u16=u16) ∧
 (Ob (u17=u17) ∧
 True))))))))))))))))))))))))))))))))))))))))))))))))))))))))))))))))))))))))))))))
  ((Ob True ∧
 (Ob (v0.1.2.1=r.1) ∧
 (Ob (v0.1.2.2.1=r.2.1) ∧
 (Ob (v0.1.2.2.2.1=r.2.2.1) ∧
 (Ob (v0.1.2.2.2.2.1=r.2.2.2.1) ∧
 (Ob (v0.1.2.2.2.2.2.1=r.2.2.2.2.1) ∧
 (Ob (v0.1.2.2.2.2.2.2.1=r.2.2.2.2.2.1) ∧
 (Ob (v0.1.2.2.2.2.2.2.2.1=r.2.2.2.2.2.2.1) ∧
 (Ob (v0.1.2.2.2.2.2.2.2.2.1=r.2.2.2.2.2.2.2.1) ∧
 (Ob (v0.1.2.2.2.2.2.2.2.2.2.1=r.2.2.2.2.2.2.2.2.1) ∧
 (Ob (v0.1.2.2.2.2.2.2.2.2.2.2.1=r.2.2.2.2.2.2.2.2.2.1) ∧
 (Ob (v0.1.2.2.2.2.2.2.2.2.2.2.2.1=r.2.2.2.2.2.2.2.2.2.2.1) ∧
 (Ob (v0.1.2.2.2.2.2.2.2.2.2.2.2.2.1=r.2.2.2.2.2.2.2.2.2.2.2.1) ∧
 (Ob (v0.1.2.2.2.2.2.2.2.2.2.2.2.2.2.1=r.2.2.2.2.2.2.2.2.2.2.2.2.1) ∧
 (Ob (v0.1.2.2.2.2.2.2.2.2.2.2.2.2.2.2.1=r.2.2.2.2.2.2.2.2.2.2.2.2.2.1) ∧
 (Ob (v0.1.2.2.2.2.2.2.2.2.2.2.2.2.2.2.2.1=r.2.2.2.2.2.2.2.2.2.2.2.2.2.2.1) ∧
 (Ob (v0.1.2.2.2.2.2.2.2.2.2.2.2.2.2.2.2.2.1=r.2.2.2.2.2.2.2.2.2.2.2.2.2.2.2.1) ∧
 (Ob (v0.1.2.2.2.2.2.2.2.2.2.2.2.2.2.2.2.2.2.1=r.2.2.2.2.2.2.2.2.2.2.2.2.2.2.2.2.1) ∧
 (Ob (v0.1.2.2.2.2.2.2.2.2.2.2.2.2.2.2.2.2.2.2.1=r.2.2.2.2.2.2.2.2.2.2.2.2.2.2.2.2.2.1) ∧
 (Ob (v0.1.2.2.2.2.2.2.2.2.2.2.2.2.2.2.2.2.2.2.2.1=r.2.2.2.2.2.2.2.2.2.2.2.2.2.2.2.2.2.2.1) ∧
 (Ob (v0.1.2.2.2.2.2.2.2.2.2.2.2.2.2.2.2.2.2.2.2.2.1=r.2.2.2.2.2.2.2.2.2.2.2.2.2.2.2.2.2.2.2.1) ∧
 (Ob (v0.1.2.2.2.2.2.2.2.2.2.2.2.2.2.2.2.2.2.2.2.2.2.1=r.2.2.2.2.2.2.2.2.2.2.2.2.2.2.2.2.2.2.2.2.1) ∧
 (Ob (v0.1.2.2.2.2.2.2.2.2.2.2.2.2.2.2.2.2.2.2.2.2.2.2.1=r.2.2.2.2.2.2.2.2.2.2.2.2.2.2.2.2.2.2.2.2.2.1) ∧
 (Ob (v0.1.2.2.2.2.2.2.2.2.2.2.2.2.2.2.2.2.2.2.2.2.2.2.2.1=r.2.2.2.2.2.2.2.2.2.2.2.2.2.2.2.2.2.2.2.2.2.2.1) ∧
 (Ob (v0.1.2.2.2.2.2.2.2.2.2.2.2.2.2.2.2.2.2.2.2.2.2.2.2.2.1=r.2.2.2.2.2.2.2.2.2.2.2.2.2.2.2.2.2.2.2.2.2.2.2.1) ∧
 (Ob (v0.1.2.2.2.2.2.2.2.2.2.2.2.2.2.2.2.2.2.2.2.2.2.2.2.2.2.1=r.2.2.2.2.2.2.2.2.2.2.2.2.2.2.2.2.2.2.2.2.2.2.2.2.1) ∧
 (Ob (v0.1.2.2.2.2.2.2.2.2.2.2.2.2.2.2.2.2.2.2.2.2.2.2.2.2.2.2.1=r.2.2.2.2.2.2.2.2.2.2.2.2.2.2.2.2.2.2.2.2.2.2.2.2.2.1) ∧
 (Ob (v0.1.2.2.2.2.2.2.2.2.2.2.2.2.2.2.2.2.2.2.2.2.2.2.2.2.2.2.2.1=r.2.2.2.2.2.2.2.2.2.2.2.2.2.2.2.2.2.2.2.2.2.2.2.2.2.2.1) ∧
 (Ob (v0.1.2.2.2.2.2.2.2.2.2.2.2.2.2.2.2.2.2.2.2.2.2.2.2.2.2.2.2.2.1=r.2.2.2.2.2.2.2.2.2.2.2.2.2.2.2.2.2.2.2.2.2.2.2.2.2.2.2.1) ∧
 (Ob (v0.1.2.2.2.2.2.2.2.2.2.2.2.2.2.2.2.2.2.2.2.2.2.2.2.2.2.2.2.2.2.1=r.2.2.2.2.2.2.2.2.2.2.2.2.2.2.2.2.2.2.2.2.2.2.2.2.2.2.2.2.1) ∧
 (Ob (v0.1.2.2.2.2.2.2.2.2.2.2.2.2.2.2.2.2.2.2.2.2.2.2.2.2.2.2.2.2.2.2.1=r.2.2.2.2.2.2.2.2.2.2.2.2.2.2.2.2.2.2.2.2.2.2.2.2.2.2.2.2.2.1) ∧
 (Ob (v0.1.2.2.2.2.2.2.2.2.2.2.2.2.2.2.2.2.2.2.2.2.2.2.2.2.2.2.2.2.2.2.2.1=r.2.2.2.2.2.2.2.2.2.2.2.2.2.2.2.2.2.2.2.2.2.2.2.2.2.2.2.2.2.2.1) ∧
 (Ob (v0.1.2.2.2.2.2.2.2.2.2.2.2.2.2.2.2.2.2.2.2.2.2.2.2.2.2.2.2.2.2.2.2.2=r.2.2.2.2.2.2.2.2.2.2.2.2.2.2.2.2.2.2.2.2.2.2.2.2.2.2.2.2.2.2.2) ∧
 True))))))))))))))))))))))))))))))))))))))=_) ?_
 refine⟨⟨(((0:Int),0,0,0,0,0,0,0,0,0,0,0,0,0,0,0,0,0,0,0,0,0,0,0,0,0,0,0,0,0,0,0,0),big),⟨jaT h⟩,(by repeat' constructor)⟩,fun z1 hz1=>?_⟩
 obtain⟨k1,hm1,h⟩:=jaD hz1
 refine jay h (fun h=>?_) (fun h=>?_)
 ·refine jaz h fun h=>?_
  refine jaz h fun h=>?_
  refine jaz h fun h=>?_
  refine jaz h fun h=>?_
  refine jaE h fun h=>?_
  refine jaz h fun h=>?_
  refine jaz h fun h=>?_
  exact⟨(_,k1),⟨jav h⟩,⟨jaC hm1.symm⟩,(by repeat' constructor)⟩
 ·have h:=jah h
  refine jaf ?_
  exact rcs h
theorem jme:jaj Tryz.prog 148 true (jat jeL jeM):=by
 refine jaS (sp:=(sp_149 sp0)) (fn:=Tryz.f148) (body:=bodyOf Tryz.f148) mixed (sp_149_ok jaB) Tryz.func148 (by kernel_rfl) (by kernel_rfl) fun ls t h ho b hb=>?_
 unfold jeM at h
 split at h
 ·rename_i u15 u16 u17 u11 u18 u19 u20 u21 u22 u23 u24 u12 u5 u10 u9 u7 u6 u13 u14 u59 u60
  cases h
  obtain rfl:=ja9 hb
  exact⟨Nat.le_of_ble_eq_true (by kernel_rfl),_,_,jmd u15 u16 u17 u11 u18 u19 u20 u21 u22 u23 u24 u12 u5 u10 u9 u7 u6 u13 u14 u59 u60 _ (jax ho)⟩
 ·cases h
end Go.Sh
end

section
namespace Go.Sh
open Go Go.Proofs Go.RowKit Go.Sx
open Go.IntKind (wrap)
def jeN:List SV:=[.c (.p [.p [.d,.x (.st [.s,.i .i64,.ints .i64,.ints .i64,.ints .i64,.i .i64,.recs 5,.i .i64] []),.r (.ints .i64 [])],.d,.x (.ff .f32 []),.x (.rr 4 []),.r (.frs .f32 32 []),.r (.ints .i64 []),.r (.frs .f32 32 []),.x (.rr 4 []),.r (.ints .i64 [])])]
def jcl (u15:ByteArray) (u16:List (List NC)) (u17:List Int) (u11:Int) (u18:List (List Nat)) (u19:List (List (List Int))) (u20:List (List Nat)) (u21:List Int) (u22:List (List Nat)) (u23:List (List (List Int))) (u24:List Int) (x0:Int × List (List Nat)) (x1:(Int × List Nat)):Option ((Int × List Nat) ⊕ (List Nat)) :=
 if x1.1<32 then
  Option.bind (y49 u15 u16 u17 u11 u18 u19 u20 u21 u22 u23 u24 x0.1 x1.1) fun r0 =>
  if(List.length x1.2+List.length [FloatKind.nearest .f32 r0])*4≤140737488355328∧List.length x1.2+List.length [FloatKind.nearest .f32 r0]≤9223372036854775807 then
  some (.inl ((wrap .i64 (x1.1+1),x1.2++[FloatKind.nearest .f32 r0])))
  else none
 else
  some (.inr x1.2)
def jcm (x0:Int × List (List Nat)) (u26:List Nat):Option ((Int × List (List Nat)) ⊕ (List (List Nat))) :=
 if(List.length x0.2+List.length (List.map (fun r=>NC.toFlts (List.headD r (NC.d (D.v undef)))) [[NC.r (Cont.floats .f32 u26)]]))*24≤140737488355328∧List.length x0.2+List.length (List.map (fun r=>NC.toFlts (List.headD r (NC.d (D.v undef)))) [[NC.r (Cont.floats .f32 u26)]])≤9223372036854775807 then
  some (.inl ((wrap .i64 (x0.1+1),x0.2++List.map (fun r=>NC.toFlts (List.headD r (NC.d (D.v undef)))) [[NC.r (Cont.floats .f32 u26)]])))
 else none
def jbe (u15:ByteArray) (u16:List (List NC)) (u17:List Int) (u11:Int) (u18:List (List Nat)) (u19:List (List (List Int))) (u20:List (List Nat)) (u21:List Int) (u22:List (List Nat)) (u23:List (List (List Int))) (u24:List Int) (x0:(Int × List (List Nat))):Option ((Int × List (List Nat)) ⊕ (List (List Nat))) :=
 if x0.1<(↑(List.length u16):Int)then
  Option.bind (jad (jcl u15 u16 u17 u11 u18 u19 u20 u21 u22 u23 u24 x0) big (((-96:Int),[]))) (jcm x0)
 else
  some (.inr x0.2)
def jbf (u11:Int) (u3:List (List Nat)):Option (Int × List (List Nat)) :=
 some ((wrap .i64 (u11+1),u3))
def jc5 (u15:ByteArray) (u16:List (List NC)) (u17:List Int) (u11:Int) (u18:List (List Nat)) (u19:List (List (List Int))) (u20:List (List Nat)) (u21:List Int) (u22:List (List Nat)) (u23:List (List (List Int))) (u24:List Int):Option (Int × List (List Nat)) :=
 Option.bind (jad (jbe u15 u16 u17 u11 u18 u19 u20 u21 u22 u23 u24) big (((0:Int),[]))) (jbf u11)
def jeO:List Lf→Option GT
 |[.d (.s u15),.x (.st [.s,.i .i64,.ints .i64,.ints .i64,.ints .i64,.i .i64,.recs 5,.i .i64] u16),.r (.ints .i64 u17),.d (.i .i64 u11),.x (.ff .f32 u18),.x (.rr 4 u19),.r (.frs .f32 32 u20),.r (.ints .i64 u21),.r (.frs .f32 32 u22),.x (.rr 4 u23),.r (.ints .i64 u24)]=>some (.leaf (ok (jc5 u15 u16 u17 u11 u18 u19 u20 u21 u22 u23 u24)) [.s [.d (.i .i64 ((val (jc5 u15 u16 u17 u11 u18 u19 u20 u21 u22 u23 u24)).1)),.x 157 (.ff .f32 ((val (jc5 u15 u16 u17 u11 u18 u19 u20 u21 u22 u23 u24)).2)),.g 8]])
 |_=>none
abbrev jfP  := (Value.slice none (0:Nat) (0:Nat)=Value.slice none (0:Nat) (0:Nat))
theorem jmf (u15:ByteArray) (u16:List (List NC)) (u17:List Int) (u11:Int) (u18:List (List Nat)) (u19:List (List (List Int))) (u20:List (List Nat)) (u21:List Int) (u22:List (List Nat)) (u23:List (List (List Int))) (u24:List Int) (r:Int × List (List Nat)) (h:Option.bind (jc5 u15 u16 u17 u11 u18 u19 u20 u21 u22 u23 u24) some=some r):jbQ Tryz.f106 ((sp_149 sp0)) (fun gs id _=>match id with
 |0=>some ⟨(Int × List (List Nat)) × Nat,fun z=>⟨[(0,.w (.c (.p 10 0 1 0))),(2,.w (.c (.p 11 0 1 0))),(3,.w (.c (.p 12 0 1 0))),(26,.w (.c (.d (.i .i64 ((↑(List.length u16):Int)))))),(27,.w (.c (.d (.i .i64 (Prod.fst (Prod.fst z))))))],[(10,.ebox [.p 2 0 1 0,.d (.i .i64 u11),.o 3,.o 4,.o 5,.o 6,.o 7,.o 8,.o 9]),(11,.box 78 [.d (.i .i64 0),.d (.v (Value.slice none (0:Nat) (0:Nat))),.d (.v (Value.slice none (0:Nat) (0:Nat)))]),(12,.box 78 [.d (.i .i64 (wrap .i64 (u11+1))),.o 13,.o 8]),(2,.ebox [.d (.s u15),.o 0,.o 1]),(3,.xext (XC.ff .f32 u18)),(4,.xext (XC.rr (4:Nat) u19)),(5,.ext (.frs .f32 32 u20)),(6,.ext (.ints .i64 u21)),(7,.ext (.frs .f32 32 u22)),(8,.xext (XC.rr (4:Nat) u23)),(9,.ext (.ints .i64 u24)),(13,.xrow 157 (XC.ff .f32 (Prod.snd (Prod.fst z)))),(0,.xext (XC.st [NK.s,NK.i .i64,NK.ints .i64,NK.ints .i64,NK.ints .i64,NK.i .i64,NK.recs (5:Nat),NK.i .i64] u16)),(1,.ext (.ints .i64 u17))],14⟩,fun z=>Option.bind (jad (jbe u15 u16 u17 u11 u18 u19 u20 u21 u22 u23 u24) (Prod.snd z) (Prod.fst z)) (fun y0=>Option.bind (jbf u11 y0) some)=some r,fun z=>Prod.snd z⟩
 |2=>some ⟨(Int × List (List Nat)) × Nat × (Int × List Nat) × Nat,fun z=>⟨[(0,.w (.c (.p 10 0 1 0))),(2,.w (.c (.p 11 0 1 0))),(3,.w (.c (.p 12 0 1 0))),(4,.w (.c (.d (.i .i64 ((Prod.fst z).1))))),(5,.w (.c (.o 13))),(6,.w (.c (.d (.i .i64 (Prod.fst (Prod.fst (Prod.snd (Prod.snd z)))))))),(26,.w (.c (.d (.i .i64 ((↑(List.length u16):Int)))))),(27,.w (.c (.d (.i .i64 ((Prod.fst z).1)))))],[(10,.ebox [.p 2 0 1 0,.d (.i .i64 u11),.o 3,.o 4,.o 5,.o 6,.o 7,.o 8,.o 9]),(11,.box 78 [.d (.i .i64 0),.d (.v (Value.slice none (0:Nat) (0:Nat))),.d (.v (Value.slice none (0:Nat) (0:Nat)))]),(12,.box 78 [.d (.i .i64 (wrap .i64 (u11+1))),.o 14,.o 8]),(13,.row 108 (.floats .f32 (Prod.snd (Prod.fst (Prod.snd (Prod.snd z)))))),(2,.ebox [.d (.s u15),.o 0,.o 1]),(3,.xext (XC.ff .f32 u18)),(4,.xext (XC.rr (4:Nat) u19)),(5,.ext (.frs .f32 32 u20)),(6,.ext (.ints .i64 u21)),(7,.ext (.frs .f32 32 u22)),(8,.xext (XC.rr (4:Nat) u23)),(9,.ext (.ints .i64 u24)),(14,.xrow 157 (XC.ff .f32 (Prod.fst z).2)),(0,.xext (XC.st [NK.s,NK.i .i64,NK.ints .i64,NK.ints .i64,NK.ints .i64,NK.i .i64,NK.recs (5:Nat),NK.i .i64] u16)),(1,.ext (.ints .i64 u17))],15⟩,fun z=>Prod.fst (Prod.snd z)+1=gs.getD 0 0∧Option.bind (jad (jcl u15 u16 u17 u11 u18 u19 u20 u21 u22 u23 u24 (Prod.fst z)) (Prod.snd (Prod.snd (Prod.snd z))) (Prod.fst (Prod.snd (Prod.snd z)))) (fun y0=>Option.bind (jcm (Prod.fst z) y0) (jbJ (jbe u15 u16 u17 u11 u18 u19 u20 u21 u22 u23 u24) (Prod.fst (Prod.snd z)) (fun y1=>Option.bind (jbf u11 y1) some)))=some r,fun z=>Prod.snd (Prod.snd (Prod.snd z))⟩
 |_=>none) (jbA jeN [.d (.s u15),.x (.st [.s,.i .i64,.ints .i64,.ints .i64,.ints .i64,.i .i64,.recs 5,.i .i64] u16),.r (.ints .i64 u17),.d (.i .i64 u11),.x (.ff .f32 u18),.x (.rr 4 u19),.r (.frs .f32 32 u20),.r (.ints .i64 u21),.r (.frs .f32 32 u22),.x (.rr 4 u23),.r (.ints .i64 u24)]) [.s [.d (.i .i64 r.1),.x 157 (.ff .f32 r.2),.g 8]]:=by
 refine Eq.mp (by kernel_rfl:(
 (Ob True ∧
 (Ob True ∧
 (Ob True ∧
 (Ob True ∧
  ((∃(v0:(Int × List (List Nat)) × Nat),(Ob ((Option.bind (jad (jbe u15 u16 u17 u11 u18 u19 u20 u21 u22 u23 u24) v0.2 v0.1) fun y0=>Option.bind (jbf u11 y0) some)=some r) ∧
 (Ob (0=0) ∧
 (Ob (0=0) ∧
 (Ob (0=0) ∧
 (Ob ((↑(List.length u16):Int)=(↑(List.length u16):Int)) ∧
 (Ob ((0:Int)=v0.1.1) ∧
 (Ob (0=0) ∧
 (Ob (u11=u11) ∧
 (Ob ((0:Int)=(0:Int)) ∧
 (Ob (jfP) ∧
 (Ob (jfP) ∧
 (Ob (wrap .i64 (u11+1)=wrap .i64 (u11+1)) ∧
 (Ob (u15=u15) ∧
 (Ob (u18=u18) ∧
 (Ob (u19=u19) ∧
 (Ob (u20=u20) ∧
 (Ob (u21=u21) ∧
 (Ob (u22=u22) ∧
 (Ob (u23=u23) ∧
 (Ob (u24=u24) ∧
 (Ob (List.length v0.1.2=(0:Nat)) ∧
 (Ob (u16=u16) ∧
 (Ob (u17=u17) ∧
 True)))))))))))))))))))))))) ∧
  (∀(v0:(Int × List (List Nat)) × Nat),((Option.bind (jad (jbe u15 u16 u17 u11 u18 u19 u20 u21 u22 u23 u24) v0.2 v0.1) fun y0=>Option.bind (jbf u11 y0) some)=some r →
 Br (decide (v0.1.1<(↑(List.length u16):Int)))
  (((∃(v1:(Int × List (List Nat)) × Nat × (Int × List Nat) × Nat),(Ob (v1.2.1+1=v0.2∧(Option.bind (jad (jcl u15 u16 u17 u11 u18 u19 u20 u21 u22 u23 u24 v1.1) v1.2.2.2 v1.2.2.1) fun y0=>Option.bind (jcm v1.1 y0) (jbJ (jbe u15 u16 u17 u11 u18 u19 u20 u21 u22 u23 u24) v1.2.1 fun y1=>Option.bind (jbf u11 y1) some))=some r) ∧
 (Ob (0=0) ∧
 (Ob (0=0) ∧
 (Ob (0=0) ∧
 (Ob (v0.1.1=v1.1.1) ∧
 (Ob ((-96:Int)=v1.2.2.1.1) ∧
 (Ob ((↑(List.length u16):Int)=(↑(List.length u16):Int)) ∧
 (Ob (v0.1.1=v1.1.1) ∧
 (Ob (0=0) ∧
 (Ob (u11=u11) ∧
 (Ob ((0:Int)=(0:Int)) ∧
 (Ob (jfP) ∧
 (Ob (jfP) ∧
 (Ob (wrap .i64 (u11+1)=wrap .i64 (u11+1)) ∧
 (Ob (List.length v1.2.2.1.2=(0:Nat)) ∧
 (Ob (u15=u15) ∧
 (Ob (u18=u18) ∧
 (Ob (u19=u19) ∧
 (Ob (u20=u20) ∧
 (Ob (u21=u21) ∧
 (Ob (u22=u22) ∧
 (Ob (u23=u23) ∧
 (Ob (u24=u24) ∧
 (Ob (v0.1.2=v1.1.2) ∧
 (Ob (u16=u16) ∧
 (Ob (u17=u17) ∧
 True))))))))))))))))))))))))))) ∧
  (∀(v1:(Int × List (List Nat)) × Nat × (Int × List Nat) × Nat),(v1.2.1+1=v0.2∧(Option.bind (jad (jcl u15 u16 u17 u11 u18 u19 u20 u21 u22 u23 u24 v1.1) v1.2.2.2 v1.2.2.1) fun y0=>Option.bind (jcm v1.1 y0) (jbJ (jbe u15 u16 u17 u11 u18 u19 u20 u21 u22 u23 u24) v1.2.1 fun y1=>Option.bind (jbf u11 y1) some))=some r →
 Br (decide (v1.2.2.1.1<32))
  ((Ob (ok (y49 u15 u16 u17 u11 u18 u19 u20 u21 u22 u23 u24 v1.1.1 v1.2.2.1.1)) ∧
 (Ob True ∧
 (Ob ((List.length v1.2.2.1.2+List.length [FloatKind.nearest .f32 (val (y49 u15 u16 u17 u11 u18 u19 u20 u21 u22 u23 u24 v1.1.1 v1.2.2.1.1))])*4≤140737488355328∧List.length v1.2.2.1.2+List.length [FloatKind.nearest .f32 (val (y49 u15 u16 u17 u11 u18 u19 u20 u21 u22 u23 u24 v1.1.1 v1.2.2.1.1))]≤9223372036854775807) ∧
  (∃(v2:(Int × List (List Nat)) × Nat × (Int × List Nat) × Nat),(Ob (v2.2.1+1=v0.2∧(Option.bind (jad (jcl u15 u16 u17 u11 u18 u19 u20 u21 u22 u23 u24 v2.1) v2.2.2.2 v2.2.2.1) fun y0=>Option.bind (jcm v2.1 y0) (jbJ (jbe u15 u16 u17 u11 u18 u19 u20 u21 u22 u23 u24) v2.2.1 fun y1=>Option.bind (jbf u11 y1) some))=some r) ∧
 (Ob (v2.2.2.2<v1.2.2.2) ∧
 (Ob (0=0) ∧
 (Ob (0=0) ∧
 (Ob (0=0) ∧
 (Ob (v1.1.1=v2.1.1) ∧
 (Ob (wrap .i64 (v1.2.2.1.1+1)=v2.2.2.1.1) ∧
 (Ob ((↑(List.length u16):Int)=(↑(List.length u16):Int)) ∧
 (Ob (v1.1.1=v2.1.1) ∧
 (Ob (0=0) ∧
 (Ob (u11=u11) ∧
 (Ob ((0:Int)=(0:Int)) ∧
 (Ob (jfP) ∧
 (Ob (jfP) ∧
 (Ob (wrap .i64 (u11+1)=wrap .i64 (u11+1)) ∧
 (Ob (v1.2.2.1.2++[FloatKind.nearest .f32 (val (y49 u15 u16 u17 u11 u18 u19 u20 u21 u22 u23 u24 v1.1.1 v1.2.2.1.1))]=v2.2.2.1.2) ∧
 (Ob (u15=u15) ∧
 (Ob (u18=u18) ∧
 (Ob (u19=u19) ∧
 (Ob (u20=u20) ∧
 (Ob (u21=u21) ∧
 (Ob (u22=u22) ∧
 (Ob (u23=u23) ∧
 (Ob (u24=u24) ∧
 (Ob (v1.1.2=v2.1.2) ∧
 (Ob (u16=u16) ∧
 (Ob (u17=u17) ∧
 True))))))))))))))))))))))))))))))))
  ((Ob ((List.length v1.1.2+List.length (List.map (fun r=>NC.toFlts (List.headD r (NC.d (D.v undef)))) [[NC.r (Cont.floats .f32 v1.2.2.1.2)]]))*24≤140737488355328∧List.length v1.1.2+List.length (List.map (fun r=>NC.toFlts (List.headD r (NC.d (D.v undef)))) [[NC.r (Cont.floats .f32 v1.2.2.1.2)]])≤9223372036854775807) ∧
  (∃(v2a:(Int × List (List Nat)) × Nat),(Ob ((Option.bind (jad (jbe u15 u16 u17 u11 u18 u19 u20 u21 u22 u23 u24) v2a.2 v2a.1) fun y0=>Option.bind (jbf u11 y0) some)=some r) ∧
 (Ob (v2a.2<v0.2) ∧
 (Ob (0=0) ∧
 (Ob (0=0) ∧
 (Ob (0=0) ∧
 (Ob ((↑(List.length u16):Int)=(↑(List.length u16):Int)) ∧
 (Ob (wrap .i64 (v1.1.1+1)=v2a.1.1) ∧
 (Ob (0=0) ∧
 (Ob (u11=u11) ∧
 (Ob ((0:Int)=(0:Int)) ∧
 (Ob (jfP) ∧
 (Ob (jfP) ∧
 (Ob (wrap .i64 (u11+1)=wrap .i64 (u11+1)) ∧
 (Ob (u15=u15) ∧
 (Ob (u18=u18) ∧
 (Ob (u19=u19) ∧
 (Ob (u20=u20) ∧
 (Ob (u21=u21) ∧
 (Ob (u22=u22) ∧
 (Ob (u23=u23) ∧
 (Ob (u24=u24) ∧
 (Ob (v1.1.2++List.map (fun r=>NC.toFlts (List.headD r (NC.d (D.v undef)))) [[NC.r (Cont.floats .f32 v1.2.2.1.2)]]=v2a.1.2) ∧
 (Ob (u16=u16) ∧
 (Ob (u17=u17) ∧
 True)))))))))))))))))))))))))))))))
  ((Ob True ∧
 (Ob (wrap .i64 (u11+1)=r.1) ∧
 (Ob (v0.1.2=r.2) ∧
 True))))))))))))=_) ?_
 refine jaf ?_
 refine jaf ?_
 refine jaf ?_
 refine jaf ?_
 refine⟨⟨(((0:Int),[]),big),⟨jaT h⟩,(by repeat' constructor)⟩,fun z1 hz1=>?_⟩
 obtain⟨k1,hm1,h⟩:=jaD hz1
 refine jay h (fun h=>?_) (fun h=>?_)
 ·refine⟨⟨(Prod.fst z1,k1,((-96:Int),[]),big),⟨⟨hm1.symm,jaT h⟩⟩,(by repeat' constructor)⟩,fun z2 hz2=>?_⟩
  obtain⟨k2,hm2,h⟩:=jaD hz2.2
  refine jay h (fun h=>?_) (fun h=>?_)
  ·refine jaE h fun h=>?_
   refine jaf ?_
   refine jaz h fun h=>?_
   exact⟨(Prod.fst z2,Prod.fst (Prod.snd z2),(wrap .i64 ((Prod.fst (Prod.snd (Prod.snd z2))).1+1),(Prod.fst (Prod.snd (Prod.snd z2))).2++[FloatKind.nearest .f32 (val (y49 u15 u16 u17 u11 u18 u19 u20 u21 u22 u23 u24 (Prod.fst z2).1 (Prod.fst (Prod.snd (Prod.snd z2))).1))]),k2),⟨⟨hz2.1,jav h⟩⟩,⟨jaC hm2.symm⟩,(by repeat' constructor)⟩
  ·have h:=jah h
   refine jaz h fun h=>?_
   exact⟨(_,Prod.fst (Prod.snd z2)),⟨jav h⟩,⟨jaC hz2.1⟩,(by repeat' constructor)⟩
 ·have h:=jah h
  refine jaf ?_
  exact jag h (fun e=>by subst e; exact(by repeat' constructor))
theorem jmg:jaj Tryz.prog 106 true (jat jeN jeO):=by
 refine jaS (sp:=(sp_149 sp0)) (fn:=Tryz.f106) (body:=bodyOf Tryz.f106) mixed (sp_149_ok jaB) Tryz.func106 (by kernel_rfl) (by kernel_rfl) fun ls t h ho b hb=>?_
 unfold jeO at h
 split at h
 ·rename_i u15 u16 u17 u11 u18 u19 u20 u21 u22 u23 u24
  cases h
  obtain rfl:=ja9 hb
  exact⟨Nat.le_of_ble_eq_true (by kernel_rfl),_,_,jmf u15 u16 u17 u11 u18 u19 u20 u21 u22 u23 u24 _ (jax ho)⟩
 ·cases h
end Go.Sh
end

section
open Go.RowKit
namespace Go.Sx
def jk6 (z:C) (cs:List C) (j:Nat):Bool :=
 match z with
 | .d (.i k _)=>(iks k cs).getD j false
 | .d (.b _)=>(bks cs).getD j false
 | .d (.s _)=>(sks cs).getD j false
 |_=>false
def jkA (cs:List C):List C→Nat→Bool
 |[],_=>true
 |z::r,j=>match jk6 z cs j with
  |true=>jkA cs r (j+1)
  |false=>false
def jpC (P:Program) (t:TypeId) (cs:List C) (j:Nat):Bool :=
 match jaI P t with
 |some z=>jkA cs z j
 |none=>false
def jns (cs:List C) (j:Nat):List C→Bool
 |[]=>true
 |c::r=>match jk6 c cs j,jnN cs j c with
  |true,some (_,cs')=>jns cs' (j+1) r
  |_,_=>false
theorem jvR {z c:C} {cs:List C} {j:Nat} {p:Prop} (h:jnJ z cs j=some (p,c)) (hb:jk6 z cs j=true):p:=by
 unfold jnJ at h
 unfold jk6 at hb
 split at h<;>cases h<;>exact hb
theorem js5 {cs:List C}:∀{zs l:List C} {j:Nat} {p:Prop},jg3 cs zs j=some (p,l)→jkA cs zs j=true→p
 |[],l,j,p,h,_=>by
  simp only[jg3,Option.some.injEq,Prod.mk.injEq]at h
  exact h.1 ▸ trivial
 |z::r,l,j,p,h,hb=>by
  unfold jg3 at h
  unfold jkA at hb
  split at h
  ·rename_i q c hq
   split at hb
   ·rename_i hz
    have h1:=jvR hq hz
    split at h
    ·cases h
     exact h1
    ·split at h
     ·rename_i q2 l2 h2
      cases h
      exact⟨h1,js5 h2 hb⟩
     ·cases h
   ·cases hb
  ·cases h
theorem jvS {P:Program} {t:TypeId} {cs:List C} {j:Nat} {p:Prop} {v:V} (h:jjD P t cs j=some (p,v)) (hb:jpC P t cs j=true):p:=by
 unfold jjD at h
 unfold jpC at hb
 split at h
 ·rename_i z _ _ hz
  rw[hz]at hb
  split at h
  ·rename_i q c hq
   cases h
   dsimp only[jkA]at hb
   split at hb
   ·rename_i h1
    exact jvR hq h1
   ·cases hb
  ·cases h
 ·rename_i sz z _ _ hz
  rw[hz]at hb
  split at h
  ·split at h
   ·rename_i q l hq
    cases h
    exact js5 hq hb
   ·cases h
  ·cases h
 ·cases h
theorem jy1 {c:C} {cs cs':List C} {j:Nat} {p:Prop} (h:jnN cs j c=some (p,cs')) (hb:jk6 c cs j=true):p:=by
 unfold jnN at h
 unfold jk6 at hb
 split at h<;>cases h<;>exact hb
theorem js6:∀{ds cs l:List C} {j:Nat} {p:Prop},jkT cs j ds=some (p,l)→jns cs j ds=true→p
 |[],_,_,_,_,h,_=>by cases h
 |c::r,cs,l,j,p,h,hb=>by
  unfold jkT at h
  unfold jns at hb
  split at h
  ·rename_i q cs' hq
   split at hb
   ·rename_i cs2 hz hq2
    rw[hq]at hq2
    cases hq2
    have h1:=jy1 hq hz
    split at h
    ·cases h
     exact h1
    ·split at h
     ·rename_i q2 l2 h2
      cases h
      exact⟨h1,js6 h2 hb⟩
     ·cases h
   ·cases hb
  ·cases h
def jq8 (P:Program) (t:TypeId) (cs:List C) (e j:Nat):Bool :=
 match e with
 |0=>match jjD P t cs j with
  |none=>true
  |some _=>jpC P t cs j
 |_+1=>true
def jug (P:Program) (t:TypeId) (c:Cont) (i j:Nat):Bool :=
 match c with
 | .frs _ E l=>Nat.blt i l.length&&Nat.blt j E
 | .floats _ l=>match jby P t,szT P t with
  |some true,some sz=>Nat.ble (i+sz) l.length
  |_,_=>Nat.blt i l.length
 |c=>Nat.blt i c.n
def juh (P:Program) (t:TypeId) (o:O) (i e j:Nat):Bool :=
 match o with
 | .box _ cs=>jq8 P t cs e j
 | .ebox cs=>jq8 P t cs e j
 | .arr _ _ E _=>Nat.blt (i*e+j) E
 | .xext X=>Nat.blt i X.n
 | .xrow _ X=>Nat.blt i X.n
 | .mrow _ _ X _=>Nat.blt i X.n
 | .lbox _ _ _ _=>true
 | .lview _ _ _ _=>true
 | .elist _ _ _=>true
 |o=>match o.cont with
  |some c=>jug P t c i j
  |none=>false
theorem jym {P:Program} {t:TypeId} {cs:List C} {e j:Nat} {p:Prop} {v:V} (h:jep P t cs e j=some (p,v)) (hb:jq8 P t cs e j=true):p:=by
 unfold jep at h
 split at h
 ·split at h
  ·rename_i x hx
   cases h
   unfold jq8 at hb
   dsimp only at hb
   rw[hx]at hb
   exact jvS hx hb
  ·cases h
 ·cases h
theorem jbn {a b:Nat} (h:Nat.blt a b=true):a<b:=by simpa using h
theorem js7 {P:Program} {t:TypeId} {o:O} {i e j:Nat} {p:Prop} {v:V} (h:jdf P t o i e j=some (p,v)) (hb:juh P t o i e j=true):p:=by
 unfold jdf at h
 split at h
 ·rename_i ag sz hag hsz
  have xs:∀(sh:List NK) (l:List (List NC)),Nat.blt i l.length=true→((match(generalizing:=false) ag with
   |true=>none
   |false=>match Nat.beq e sh.length,sh[j]? with
    |true,some (.i k)=>some (i<l.length,vi k (((l.getD i []).getD j (.d (.v undef))).toI))
    |true,some .b=>some (i<l.length,vb (((l.getD i []).getD j (.d (.v undef))).toB))
    |true,some (.f k)=>some (i<l.length,vf k (((l.getD i []).getD j (.d (.v undef))).toF))
    |true,some .s=>some (i<l.length,vs (((l.getD i []).getD j (.d (.v undef))).toS))
    |_,_=>none):Option (Prop × V))=some (p,v)→p:=by
   intro sh l hl h
   split at h
   ·cases h
   ·split at h<;>cases h<;>exact jbn hl
  have bx:∀cs:List C,jq8 P t cs e j=true→((match jep P t cs e j with
   |some x=>some x
   |none=>match(generalizing:=false) ag with
    |true=>if i*e+j+sz≤cs.length then some (True,V.w (.a ((cs.drop (i*e+j)).take sz)))else none
    |false=>(cs[i*e+j]?).map fun c=>(True,V.w (.c c))):Option (Prop × V))=some (p,v)→p:=by
   intro cs hb h
   split at h
   ·rename_i x hx
    cases h
    exact jym hx hb
   ·split at h
    ·split at h
     ·cases h; trivial
     ·cases h
    ·cases hc:cs[i*e+j]? with
     |none=>simp[hc]at h
     |some c=>simp[hc]at h; exact h.1
  have ct:∀c:Cont,jug P t c i j=true→((match some c with
   |some (.frs k E l) =>
    match(generalizing:=false) ag with
    |true=>match Nat.beq e E,Nat.beq j 0,Nat.beq sz E with
     |true,true,true=>some (i<l.length,jnH k E (l.getD i []))
     |_,_,_=>none
    |false=>match Nat.beq e E with
     |true=>some (i<l.length∧j<E,vf k ((l.getD i []).getD j 0))
     |false=>none
   |some (.floats k l) =>
    match Nat.beq e 1,Nat.beq j 0 with
    |true,true=>match(generalizing:=false) ag with
     |true=>some (i+sz≤l.length,jnH k sz ((l.drop i).take sz))
     |false=>some (i<l.length,vf k (l.getD i 0))
    |_,_=>none
   |some c =>
    match(generalizing:=false) ag with
    |true=>if e=c.e∧j+sz≤e then some (i<c.n,V.w (.a ((List.range sz).map fun m=>C.d (c.cell i (j+m)))))else none
    |false=>if e=c.e∧j<e then some (i<c.n,V.w (.c (.d (c.cell i j))))else none
   |none=>none):Option (Prop × V))=some (p,v)→p:=by
   intro c hb h
   unfold jug at hb
   cases c with
   |frs k E l =>
    simp only[Bool.and_eq_true]at hb
    dsimp only at h
    split at h
    ·split at h
     ·cases h; exact jbn hb.1
     ·cases h
    ·split at h
     ·cases h; exact⟨jbn hb.1,jbn hb.2⟩
     ·cases h
   |floats k l =>
    dsimp only at h hb
    rw[hag,hsz]at hb
    split at h
    ·cases ag with
     |true=>cases h; exact Nat.le_of_ble_eq_true hb
     |false=>cases h; exact jbn hb
    ·cases h
   |_ =>
    dsimp only at h hb
    split at h
    ·split at h
     ·cases h; exact jbn hb
     ·cases h
    ·split at h
     ·cases h; exact jbn hb
     ·cases h
  cases o with
  |box ty cs=>exact bx cs hb h
  |ebox cs=>exact bx cs hb h
  |arr ty k E r =>
   dsimp only at h
   split at h
   ·split at h
    ·cases h; trivial
    ·cases h
   ·cases h; exact jbn hb
  |xext X =>
   cases X with
   |st sh l=>exact xs sh l hb h
   |_=>cases h
  |xrow ty X =>
   cases X with
   |st sh l=>exact xs sh l hb h
   |_=>cases h
  |mrow ty ts X ho =>
   cases ho with
   |none =>
    cases X with
    |st sh l=>exact xs sh l hb h
    |_=>cases h
   |some x=>cases X<;>cases h
  |lbox ty E n cs =>
   dsimp only at h
   split at h
   ·split at h
    ·split at h
     ·cases h; trivial
     ·cases h
    ·cases hc:cs[i*e+j]? with
     |none=>simp[hc]at h
     |some c=>simp[hc]at h; exact h.1
   ·cases h
  |lview r E n cs =>
   dsimp only at h
   split at h
   ·split at h
    ·split at h
     ·cases h; trivial
     ·cases h
    ·cases hc:cs[i*e+j]? with
     |none=>simp[hc]at h
     |some c=>simp[hc]at h; exact h.1
   ·cases h
  |elist E n cs =>
   dsimp only at h
   split at h
   ·split at h
    ·split at h
     ·cases h; trivial
     ·cases h
    ·cases hc:cs[i*e+j]? with
     |none=>simp[hc]at h
     |some c=>simp[hc]at h; exact h.1
   ·cases h
  |row ty c=>exact ct c hb h
  |ext c=>exact ct c hb h
  |view r c fl=>exact ct c hb h
  |rrow c=>exact ct c hb h
  |fext c=>exact ct c hb h
  |sub r i0 e0 j0 t0 c=>exact ct c hb h
  |_=>cases h
 ·cases h
end Go.Sx
end

section
open Go.RowKit
namespace Go.Sx
def ji7 (l m:Option Int) (n:Int):Bool:=decide (0≤l.getD 0∧l.getD 0≤m.getD n∧m.getD n≤n)
def jib (o:O) (y:Option V) (i e j:Nat):Bool :=
 match o with
 | .box _ cs=>match e with
  |0=>match y with
   |some (.w u)=>jns cs j u.cells
   |_=>false
  |_+1=>true
 | .arr _ _ E _=>Nat.blt (i*e+j) E
 | .row _ (.frs _ E l)=>Nat.blt i l.length&&Nat.blt j E
 | .row _ c=>Nat.blt i c.n
 | .xrow _ X=>Nat.blt i X.n
 | .mrow _ _ X ho=>match ho with
  |none=>Nat.blt i X.n
  |some (i0,_)=>Nat.beq i i0&&Nat.blt i X.n
 | .sub _ _ _ _ _ c=>Nat.blt i c.n
 | .lbox _ _ _ _=>true
 |_=>false
def jde (hp:Hp) (v:Option V):Option Nat :=
 match v with
 |some (.w (.c (.o h)))=>match find hp h with
  |some o=>match o.cont with
   |some c=>some c.n
   |none=>match o.xc with
    |some X=>some X.n
    |none=>match o.lst with
     |some (_,n,_)=>some n
     |none=>none
  |none=>none
 |some (.w (.c (.d (.v (.slice none 0 0)))))=>some 0
 |_=>none
def obB (P:Program) (op:Op) (rd:Operand→Option V) (hp:Hp):Bool :=
 match op with
 | .binOp op _ x y _=>match(rd x).bind V.int?,(rd y).bind V.int? with
  |some _,some (_,b)=>(match op with
   | .quo=>!(decide (b=0))
   | .rem=>!(decide (b=0))
   | .shl=>decide (0≤b)
   | .shr=>decide (0≤b)
   |_=>true)
  |_,_=>false
 | .convert _ dst x=>match(rd x).bind V.flt? with
  |some (s,b)=>match P.underlying dst with
   |some (.int k)=>jik s k b
   |_=>false
  |none=>match(rd x).bind V.int? with
   |some _=>true
   |none=>false
 | .index t x i=>match rd x,(rd i).bind V.int? with
  |some v,some (_,n)=>match v.str?,P.underlying t with
   |some s,_=>decide (0≤n∧n<(s.size:Int))
   |none,some (.array len elem)=>decide (0≤n∧n<(len:Int))&&(match v.agg?,szT P elem with
    |some cs,some size=>isK i||(match jjD P elem cs (n.toNat*size)with
     |none=>true
     |some _=>jpC P elem cs (n.toNat*size))
    |_,_=>true)
   |none,_=>false
  |_,_=>false
 | .indexAddr t x ix=>match(rd ix).bind V.int? with
  |some (_,n)=>match P.underlying t with
   |some (.array len _)=>decide (0≤n∧n<(len:Int))
   |some (.slice _)=>match jde hp (rd x)with
    |some m=>decide (0≤n∧n<(m:Int))
    |none=>false
   |_=>false
  |none=>false
 | .load t x=>match rd x with
  |some (.w (.c (.p h i e j)))=>match find hp h with
   |some o=>juh P t o i e j
   |none=>false
  |_=>false
 | .store _ x y=>match rd x with
  |some (.w (.c (.p h i e j)))=>match find hp h with
   |some o=>jib o (rd y) i e j
   |none=>false
  |_=>false
 | .slice t x lo hi none=>match jaR rd lo,jaR rd hi with
  |some l,some m=>match P.underlying t with
   |some .string=>match(rd x).bind V.str? with
    |some s=>ji7 l m (s.size:Int)
    |none=>false
   |some (.array n _)=>match rd x with
    |some (.w (.c (.p h _ _ _)))=>match find hp h with
     |some (.arr _ _ _ r)=>Nat.beq r.length n&&ji7 l m (n:Int)
     |some (.box _ _)=>true
     |_=>false
    |_=>false
   |some (.slice _)=>match jde hp (rd x)with
    |some n=>ji7 l m (n:Int)
    |none=>false
   |_=>false
  |_,_=>false
 | .slice _ x lo (some hi) (some mx)=>match jaR rd lo,(rd hi).bind V.int?,(rd mx).bind V.int?,jde hp (rd x)with
  |some l,some (_,m),some (_,q),some n=>decide (0≤l.getD 0∧l.getD 0≤m∧m≤q∧q≤(n:Int))
  |_,_,_,_=>false
 | .makeSlice t l c=>match P.underlying t,(rd l).bind V.int?,(rd c).bind V.int? with
  |some (.slice elem),some (_,n),some (_,m)=>match jaZ P elem with
   |some b=>decide (0≤n∧n=m∧(b:Int)*n≤281474976710656∧n≤9223372036854775807)
   |none=>false
  |_,_,_=>false
 | .call c=>match c.callee,c.args.toList,c.argTypes.toList with
  | .builtin .append,[s,x],[t,_]=>match P.underlying t,jde hp (rd s),jde hp (rd x)with
   |some (.slice elem),some n,some m=>match jaZ P elem with
    |some b=>Nat.ble ((n+m)*b) 140737488355328&&Nat.ble (n+m) 9223372036854775807&&(match jir hp (rd s)with
     |some c1=>Nat.blt 0 c1.n&&Nat.blt 0 m
     |none=>true)
    |none=>false
   |_,_,_=>false
  |_,_,_=>false
 |_=>false
section
variable [Globs] {P:Program} {rd:Operand→Option V} {hp:Hp} {nx:Nat}
theorem jyn {v:V} {x y} (h:v.int?=some x) (k:v.str?=some y):False:=by
 unfold V.int? at h
 split at h
 ·cases k
 ·cases h
theorem jfQ {h:Nat} {c:Cont} {n:Nat} {v:Option V} (hv:v=some (.w (.c (.o h)))) (hc:(find hp h).bind O.cont=some c) (hn:jde hp v=some n):n=c.n:=by
 subst hv
 unfold jde at hn
 cases ho:find hp h with
 |none=>simp[ho]at hc
 |some o =>
  simp only[ho,Option.bind_some]at hc
  simp only[ho,hc,Option.some.injEq]at hn
  exact hn.symm
theorem jk7 {h:Nat} {X:XC} {n:Nat} {v:Option V} (hv:v=some (.w (.c (.o h)))) (hc:(find hp h).bind O.xc=some X) (hn:jde hp v=some n):n=X.n:=by
 subst hv
 unfold jde at hn
 cases ho:find hp h with
 |none=>simp[ho]at hc
 |some o =>
  simp only[ho,Option.bind_some]at hc
  have hcn:o.cont=none:=by cases o<;>simp[O.xc]at hc<;>rfl
  simp only[ho,hcn,hc,Option.some.injEq]at hn
  exact hn.symm
theorem ji8 {h:Nat} {e m:Nat} {cs:List C} {n:Nat} {v:Option V} (hv:v=some (.w (.c (.o h)))) (hc:(find hp h).bind O.lst=some (e,m,cs)) (hn:jde hp v=some n):n=m:=by
 subst hv
 unfold jde at hn
 cases ho:find hp h with
 |none=>simp[ho]at hc
 |some o =>
  simp only[ho,Option.bind_some]at hc
  have hcn:o.cont=none∧o.xc=none:=by cases o<;>simp[O.lst]at hc<;>exact⟨rfl,rfl⟩
  simp only[ho,hcn,hc,Option.some.injEq]at hn
  exact hn.symm
theorem jw3 {op:BinOp} {k k':IntKind} {m n:Int} {ob:Prop} {v:V} (ht:(match op with
   | .quo=>!(decide (n=0))
   | .rem=>!(decide (n=0))
   | .shl=>decide (0≤n)
   | .shr=>decide (0≤n)
   |_=>true)=true) (h:jfv op k m k' n=some (ob,v)):ob:=by
 unfold jfv at h
 split at h
 ·cases h; simpa using ht
 ·cases h; simpa using ht
 ·split at h
  ·split at h<;>first|(cases h; trivial)|(cases h; simpa using ht)|cases h
  ·cases h
theorem jvT {op:Op} {ob:Prop} {v:V} (ht:obB P op rd hp=true) (h:jbb P op rd hp=some (ob,v)):ob:=by
 unfold obB at ht
 unfold jbb at h
 cases op with
 |binOp op t x y yt =>
  dsimp only at h ht
  split at ht
  ·rename_i ka k' b hx hy
   split at h
   ·rename_i u v' hu hv
    simp only[hu,hv,Option.bind_some]at hx hy
    rw[hx,hy]at h
    obtain⟨k,a⟩:=ka
    exact jw3 ht h
   ·cases h
  ·cases ht
 |convert s d x =>
  dsimp only at h ht
  cases hx:rd x with
  |none=>simp[hx]at h
  |some u =>
   simp only[hx,Option.bind_some]at h ht
   unfold jpx at h
   split at h
   ·cases h; trivial
   ·cases h; trivial
   ·rename_i s' b hu hd hf
    cases h
    rw[hf]at ht
    dsimp only at ht
    rw[hd]at ht
    exact ht
   ·cases h
 |index t x i =>
  dsimp only at h ht
  split at ht
  ·rename_i u k n hx hi
   simp only[hx,Option.bind_some]at h
   split at ht
   ·rename_i s hs
    rw[hs,hi]at h
    split at h
    ·rename_i s2 k2 n2 h1 h2 h3
     cases h1; cases h3
     cases h
     simpa using ht
    ·cases h
    ·rename_i h0; cases h0
   ·rename_i len elem hs hut
    rw[hs,hut,hi]at h
    simp only[Bool.and_eq_true,decide_eq_true_eq]at ht
    split at h
    ·rename_i h0 _ _; cases h0
    ·cases h
    ·split at h
     ·rename_i len' elem' cs k' n' h1 h2 h3
      cases h1; cases h3
      rw[h2]at ht
      split at h
      ·rename_i size hsz
       rw[hsz]at ht
       simp only[Bool.or_eq_true]at ht
       split at h
       ·rename_i p v' hk hsel
        cases h
        rw[hk,hsel]at ht
        exact⟨ht.1,jvS hsel (by simpa using ht.2)⟩
       ·generalize jb3 P elem cs _=q at h
        cases q with
        |none=>simp at h
        |some v'=>simp at h; rw[←h.1]; exact ht.1
      ·cases h
     ·cases h
   ·cases ht
  ·cases ht
 |indexAddr t x ix =>
  dsimp only at h ht
  split at ht
  ·rename_i k n hi
   rw[hi]at h
   split at h
   ·rename_i len elem h' i e j k2 n2 hut hx hn
    cases hn
    rw[hut]at ht
    simp only[decide_eq_true_eq]at ht
    split at h
    ·split at h<;>(cases h; exact ht)
    ·cases h
   ·rename_i elem h' k2 n2 hut hx hn
    cases hn
    rw[hut]at ht
    dsimp only at ht
    split at h
    ·rename_i c size hc hsz
     split at h
     ·cases h
      split at ht
      ·rename_i m hm
       rw[jfQ hx hc hm]at ht
       simpa using ht
      ·cases ht
     ·cases h
    ·cases h
   ·cases h
  ·cases ht
 |load t x =>
  dsimp only at h ht
  split at h
  ·rename_i h' i e j hx
   rw[hx]at ht
   dsimp only at ht
   split at h
   ·rename_i o ho
    rw[ho]at ht
    exact js7 h ht
   ·cases h
  ·cases h
 |call c =>
  dsimp only at h ht
  split at ht
  ·rename_i hc ha hat
   rw[hc]at h
   simp at h
  ·cases ht
 |slice t x lo hi mx=>cases h
 |store t x y=>cases h
 |makeSlice t l c=>cases h
 |_=>cases ht
end
end Go.Sx
end

section
open Go.RowKit
namespace Go.Sx
section
variable [Globs] {P:Program} {rd:Operand→Option V} {hp:Hp} {nx:Nat} {sp:jab}
theorem jxT {op:Op} {ob:Prop} {v:V} (ht:obB P op rd hp=true) (h:jfk P op rd hp=some (ob,v)):ob:=by
 unfold obB at ht
 unfold jfk at h
 cases op with
 |binOp op t x y yt =>
  dsimp only at h ht
  split at ht
  ·rename_i ka k' b hx hy
   split at h
   ·rename_i u u' hu hu'
    simp only[hu,hu',Option.bind_some]at hx hy
    split at h
    ·rename_i a b hs hs'
     exact(jyn hx hs).elim
    ·split at h
     ·unfold jmy at h
      cases op<;>simp at h<;>exact h.1
     ·split at h
      ·unfold jfw at h
       cases op<;>simp at h<;>exact h.1
      ·cases h
   ·cases h
  ·cases ht
 |slice t x lo hi mx =>
  cases mx with
  |some mx=>simp at h
  |none =>
   dsimp only at h ht
   split at h
   ·rename_i s l m hut hx hl hm
    cases h
    rw[hl,hm,hut,hx]at ht
    simpa [ji7]using ht
   ·cases h
 |convert s d x =>
  dsimp only at h
  split at h
  ·split at h
   ·cases h; trivial
   ·cases h
  ·cases h
 |index t x i =>
  dsimp only at h ht
  split at h
  ·rename_i k E r hx
   split at h
   ·rename_i len elem k2 n hut hi
    rw[hx,hi,hut]at ht
    simp only[V.str?,Bool.and_eq_true,decide_eq_true_eq]at ht
    split at h
    ·cases h; exact ht.1
    ·cases h
   ·cases h
  ·cases h
 |sliceToArrayPointer t x=>cases ht
 |nilCheck x=>cases ht
 |fieldAddr s x f=>cases ht
 |indexAddr t x ix =>
  dsimp only at h ht
  split at ht
  ·rename_i k n hi
   rw[hi]at h
   split at h
   ·rename_i len elem h' e k2 n2 hut hx hn
    cases hn
    rw[hut]at ht
    simp only[decide_eq_true_eq]at ht
    split at h
    ·split at h
     ·cases h; exact ht
     ·cases h
    ·cases h
   ·rename_i elem h' k2 n2 hut hx hn
    cases hn
    rw[hut]at ht
    dsimp only at ht
    split at h
    ·rename_i X size hc hsz
     split at h
     ·cases h
      split at ht
      ·rename_i m hm
       rw[jk7 hx hc hm]at ht
       simpa using ht
      ·cases ht
     ·cases h
    ·rename_i size hc hsz
     split at h
     ·rename_i e m cs hl
      split at h
      ·cases h
       split at ht
       ·rename_i m' hm
        rw[ji8 hx hl hm]at ht
        simpa using ht
       ·cases ht
      ·cases h
     ·cases h
    ·cases h
   ·cases h
  ·cases ht
 |load t x =>
  dsimp only at h ht
  split at h
  ·rename_i hx
   rw[hx]at ht
   cases ht
  ·cases h
 |call c =>
  dsimp only at h ht
  split at ht
  ·rename_i hc ha hat
   rw[hc]at h
   simp at h
  ·cases ht
 |_=>simp at h
theorem bR_ob {op:Op} {r:Res} (ht:obB P op rd hp=true) (h:jdh P op rd hp nx=some r):r.ob:=by
 unfold obB at ht
 unfold jdh at h
 cases op with
 |slice t x lo hi mx =>
  split at h
  ·rename_i t2 x2 hi2 mx2 he
   cases he
   dsimp only at ht
   split at h
   ·split at h
    ·rename_i elem h' k m k' q hut hx hm hq
     split at h
     ·rename_i c e hf hs
      split at h
      ·cases h
       split at ht
       ·rename_i l m' k1 q' k2 n hl hm' hq' hn
        rw[hm]at hm'; rw[hq]at hq'
        cases hm'; cases hq'
        simp only[jaR,Option.some.injEq]at hl
        subst hl
        rw[jfQ (c:=c) hx (by rw[hf]; rfl) hn]at ht
        simp only[Option.getD_none,decide_eq_true_eq]at ht
        exact⟨ht.2.1,ht.2.2⟩
       ·cases ht
      ·cases h
     ·cases h
    ·cases h
   ·cases h
  ·rename_i t2 x2 lo2 he
   cases he
   dsimp only at ht
   split at h
   ·split at h
    ·rename_i elem h' k l hut hx hl
     split at h
     ·rename_i c e hf hs
      split at h
      ·cases h
       split at ht
       ·rename_i l' m hl' hm
        rw[hut]at ht
        dsimp only at ht
        split at ht
        ·rename_i n hn
         have hcn:(find hp h').bind O.cont=some c:=by
          cases ho:find hp h' with
          |none=>simp[ho]at hf
          |some o =>
           simp only[ho,Option.bind_some]at hf ⊢
           cases o<;>simp[jeX]at hf<;>simpa [O.cont]using hf
         rw[jfQ hx hcn hn]at ht
         simp only[jaR]at hl' hm
         rw[hl]at hl'
         cases hl'; cases hm
         simp only[ji7,Option.getD_some,Option.getD_none,decide_eq_true_eq]at ht
         exact⟨ht.1,ht.2.1⟩
        ·cases ht
       ·cases ht
      ·cases h
     ·cases h
    ·cases h
   ·cases h
  ·cases h
 |_=>simp at h
theorem bN_ob {op:Op} {r:Res} (ht:obB P op rd hp=true) (h:jdV P op rd hp nx=some r):r.ob:=by
 unfold obB at ht
 unfold jdV at h
 cases op with
 |makeSlice t l c =>
  dsimp only at h ht
  split at h
  ·rename_i elem k n k' m hut hn hm
   rw[hut,hn,hm]at ht
   dsimp only at ht
   split at h
   ·rename_i X0 z b e h1 h2 h3 h4
    rw[h3]at ht
    split at h
    ·cases h; simpa using ht
    ·cases h
   ·cases h
  ·cases h
 |buildSlice t n ps=>cases ht
 |store t x y =>
  dsimp only at h ht
  split at h
  ·rename_i k i e j u hx hy
   rw[hx]at ht
   dsimp only at ht
   split at h
   ·rename_i ty X sz hf hs
    rw[hf]at ht
    have ht:=jbn (show Nat.blt i X.n=true from ht)
    split at h
    ·split at h
     ·split at h
      ·cases h; exact ht
      ·cases h
     ·split at h
      ·split at h
       ·cases h; exact ht
       ·cases h
      ·cases h
    ·cases h
   ·cases h
  ·cases h
 |call c =>
  dsimp only at h ht
  split at h
  ·rename_i s x t t' hc ha hat
   rw[hc,ha,hat]at ht
   dsimp only at ht
   split at h
   ·rename_i elem hb hut
    rw[hut]at ht
    split at h
    ·rename_i X0 z e b h1 h2 h3 h4
     split at h
     ·rename_i hs ty X1 hx ty' X2 g1 g2
      split at ht
      ·rename_i elem' n m he hn hm
       cases he
       rw[h4]at ht
       simp only[Bool.and_eq_true]at ht
       have len:∀{v:Option V} {hs:Option Nat} {ty n:Nat} {X:XC},v.bind (xOf hp X0)=some (hs,ty,X)→jde hp v=some n→n=X.n∨X=X0:=by
        intro v hs ty n X hv hn
        cases v with
        |none=>cases hv
        |some v =>
         simp only[Option.bind_some]at hv
         unfold xOf at hv
         split at hv
         ·split at hv
          ·rename_i ty2 X2 hf
           cases hv
           exact .inl (jk7 (X:=X) rfl (by rw[hf]; rfl) hn)
          ·cases hv
         ·cases hv; exact .inr rfl
         ·cases hv
       have h0:X0.n=0:=by
        unfold xcT at h1
        split at h1
        ·split at h1
         ·split at h1<;>cases h1; rfl
         ·split at h1<;>cases h1<;>rfl
         ·cases h1
        ·cases h1
       have l1:X1.n≤n:=(len g1 hn).elim (fun e=>Nat.le_of_eq e.symm) fun e=>by rw[e,h0]; exact Nat.zero_le _
       have l2:X2.n≤m:=(len g2 hm).elim (fun e=>Nat.le_of_eq e.symm) fun e=>by rw[e,h0]; exact Nat.zero_le _
       split at h
       ·cases h
        have a1:=Nat.le_of_ble_eq_true ht.1.1
        have a2:=Nat.le_of_ble_eq_true ht.1.2
        exact⟨Nat.le_trans (Nat.mul_le_mul_right b (Nat.add_le_add l1 l2)) a1,Nat.le_trans (Nat.add_le_add l1 l2) a2⟩
       ·cases h
      ·cases ht
     ·cases h
    ·cases h
   ·cases h
  ·cases h
 |_=>simp at h
end
end Go.Sx
end

section
open Go.RowKit
namespace Go.Sx
section
variable [Globs] {P:Program} {rd:Operand→Option V} {hp:Hp} {nx:Nat} {sp:jab}
theorem jic {h:Nat} {o:O} {n:Nat} {v:Option V} (hv:v=some (.w (.c (.o h)))) (hf:find hp h=some o) (hn:jde hp v=some n):(∀c,o.cont=some c→n=c.n)∧(∀X,o.xc=some X→n=X.n) :=
 ⟨fun c hc=>jfQ hv (by rw[hf]; exact hc) hn,fun X hX=>jk7 hv (by rw[hf]; exact hX) hn⟩
theorem ji9 {z:List D} {v:Option V} {hx:Option Nat} {cx:Option Cont} {c2:Cont} {m:Nat} (g:v.bind (jcf hp)=some (hx,cx)) (hc:jcx z cx=some c2) (hm:jde hp v=some m):c2.n=m:=by
 cases v with
 |none=>cases g
 |some v =>
  simp only[Option.bind_some]at g
  unfold jcf at g
  split at g
  ·rename_i h2
   cases hc':(find hp h2).bind O.cont with
   |none=>simp[hc']at g
   |some c' =>
    simp[hc']at g
    obtain⟨_,rfl⟩:=g
    simp only[jcx,Option.some.injEq]at hc
    subst hc
    exact(jfQ rfl hc' hm).symm
  ·cases g
   simp only[jde,Option.some.injEq]at hm
   rw[(jc7 (show jdP z []=some c2 from hc)).2.1,←hm]
   rfl
  ·cases g
theorem bX_ob {op:Op} {r:Res} (ht:obB P op rd hp=true) (h:jdU P op rd hp nx=some r):r.ob:=by
 unfold obB at ht
 unfold jdU at h
 cases op with
 |box elem x=>cases ht
 |alloc elem=>cases ht
 |buildSlice t n ps=>cases ht
 |slice t x lo hi mx =>
  cases mx with
  |none =>
   dsimp only at h ht
   split at h
   ·rename_i n elem h' l m hut hx hl hm
    rw[hl,hm,hut]at ht
    dsimp only at ht
    rw[hx]at ht
    dsimp only at ht
    split at h
    ·rename_i ty k E r' hf hs
     rw[hf]at ht
     split at h
     ·cases h
      simp only[Bool.and_eq_true,ji7,decide_eq_true_eq]at ht
      exact⟨Nat.eq_of_beq_eq_true ht.1,ht.2⟩
     ·cases h
    ·cases h
   ·rename_i elem h' l m hut hx hl hm
    rw[hl,hm,hut]at ht
    dsimp only at ht
    split at h
    ·rename_i X sz hf hs
     split at ht
     ·rename_i n hn
      rw[(jic hx hf hn).2 X rfl]at ht
      split at h
      ·cases h
       simpa [ji7]using ht
      ·cases h
     ·cases ht
    ·cases h
   ·cases h
  |some mx =>
   cases hi with
   |none=>cases h
   |some hi =>
    dsimp only at h ht
    split at h
    ·rename_i elem h' l k m k' q hut hx hl hm hq
     split at h
     ·rename_i o e hf hs
      split at h
      ·rename_i c hc
       split at h
       ·cases h
        split at ht
        ·rename_i l' k1 m' k2 q' n hl' hm' hq' hn
         rw[hl]at hl'; rw[hm]at hm'; rw[hq]at hq'
         cases hl'; cases hm'; cases hq'
         rw[(jic hx hf hn).1 c hc]at ht
         simpa using ht
        ·cases ht
       ·cases h
      ·cases h
     ·cases h
    ·cases h
 |load t x =>
  dsimp only at h ht
  split at h
  ·rename_i h' i e j hx
   rw[hx]at ht
   dsimp only at ht
   split at h
   ·rename_i b X hb
    cases hf:find hp h' with
    |none=>simp[hf]at hb
    |some o =>
     rw[hf]at ht
     simp only[hf,Option.bind_some]at hb
     have ht:i<X.n:=by
      cases o<;>simp[O.xk]at hb<;>(obtain⟨_,rfl⟩:=hb; exact jbn ht)
     split at h
     ·split at h
      ·cases h; exact ht
      ·cases h
     ·split at h
      ·split at h
       ·cases h; exact ht
       ·cases h
      ·cases h
     ·cases h
   ·cases h
  ·cases h
 |store t x y =>
  dsimp only at h ht
  split at h
  ·rename_i h' i e j k v hx hy
   rw[hx]at ht
   dsimp only at ht
   split at h
   ·rename_i ty k' E r' _ _ hf
    rw[hf]at ht
    split at h
    ·cases h; exact jbn ht
    ·cases h
   ·rename_i ty k' E l _ _ hf
    rw[hf]at ht
    simp only[jib,Bool.and_eq_true]at ht
    split at h
    ·cases h; exact⟨jbn ht.1,jbn ht.2⟩
    ·cases h
   ·cases h
  ·rename_i h' i e k E' v hx hy
   rw[hx]at ht
   dsimp only at ht
   split at h
   ·split at h
    ·cases h; trivial
    ·cases h
   ·rename_i ty k' E l _ _ hf
    rw[hf]at ht
    simp only[jib,Bool.and_eq_true]at ht
    split at h
    ·cases h; exact jbn ht.1
    ·cases h
   ·cases h
  ·split at h
   ·split at h
    ·split at h
     ·cases h; trivial
     ·cases h
    ·cases h
   ·cases h
  ·cases h
 |makeMap t r=>cases r<;>cases ht
 |lookup t x i ok=>cases ht
 |mapUpdate t m i y=>cases ht
 |_=>simp at h
theorem bM_ob {op:Op} {r:Res} (ht:obB P op rd hp=true) (h:jdW P op rd hp nx=some r):r.ob:=by
 unfold obB at ht
 unfold jdW at h
 cases op with
 |makeSlice t l c =>
  dsimp only at h ht
  split at h
  ·rename_i elem k n k' m _ hut hn hm
   rw[hut,hn,hm]at ht
   dsimp only at ht
   split at h
   ·rename_i X0 z b e ts h1 h2 h3 h4 h5
    rw[h3]at ht
    split at h
    ·cases h; simpa using ht
    ·cases h
   ·cases h
  ·cases h
 |buildSlice t n ps=>cases ht
 |load t x =>
  dsimp only at h ht
  split at h
  ·rename_i h' i e j hx
   rw[hx]at ht
   dsimp only at ht
   split at h
   ·rename_i ty ts X hf
    rw[hf]at ht
    have ht:i<X.n:=jbn ht
    split at h
    ·split at h
     ·cases h; exact ht
     ·cases h
    ·split at h
     ·split at h
      ·cases h; exact ht
      ·cases h
     ·cases h
    ·cases h
   ·cases h
  ·cases h
 |store t x y =>
  dsimp only at h ht
  split at h
  ·rename_i h' i e j u hx hy
   rw[hx]at ht
   dsimp only at ht
   split at h
   ·rename_i ty ts X ho sz hf hs
    rw[hf]at ht
    split at h
    ·split at h
     ·split at h
      ·split at h
       ·cases h; exact jbn ht
       ·cases h
      ·cases h
     ·split at h
      ·split at h
       ·split at h
        ·cases h; exact jbn ht
        ·rename_i i0 j0
         split at h
         ·cases h
          simp only[jib,Bool.and_eq_true]at ht
          exact⟨Nat.eq_of_beq_eq_true ht.1,jbn ht.2⟩
         ·cases h
       ·cases h
      ·cases h
    ·cases h
   ·rename_i r0 i0 e0 j0 t0 c sz hf hs
    rw[hf]at ht
    have ht:i<c.n:=jbn ht
    split at h
    ·split at h
     ·split at h
      ·split at h
       ·cases h; exact ht
       ·cases h
      ·cases h
     ·cases h
    ·cases h
   ·cases h
  ·cases h
 |call c =>
  dsimp only at h ht
  split at h
  ·rename_i s x t t' hc ha hat
   rw[hc,ha,hat]at ht
   dsimp only at ht
   split at h
   ·rename_i elem hb hut
    rw[hut]at ht
    split at ht
    ·rename_i elem' n m he hn hm
     cases he
     split at ht
     ·rename_i b h4
      simp only[Bool.and_eq_true]at ht
      have a1:=Nat.le_of_ble_eq_true ht.1.1
      have a2:=Nat.le_of_ble_eq_true ht.1.2
      have fin:∀{x y:Nat},x≤n→y≤m→(x+y)*b≤140737488355328∧x+y≤9223372036854775807:=fun l1 l2 =>
       ⟨Nat.le_trans (Nat.mul_le_mul_right b (Nat.add_le_add l1 l2)) a1,Nat.le_trans (Nat.add_le_add l1 l2) a2⟩
      have MA:∀{r},jfz P t elem (rd s) (rd x) hp nx=some r→r.ob:=by
       intro r h
       unfold jfz at h
       split at h
       ·rename_i X0 z e b' ts h0 h1 h2 h3 h4' h5
        rw[h4]at h4'
        cases h4'
        have h0:X0.n=0:=by
         unfold xcT at h1
         split at h1
         ·split at h1
          ·split at h1<;>cases h1; rfl
          ·split at h1<;>cases h1<;>rfl
          ·cases h1
         ·cases h1
        have len:∀{v:Option V} {hs:Option Nat} {ty n:Nat} {ts:List Nat} {X:XC},v.bind (mOf hp X0)=some (hs,ty,ts,X)→jde hp v=some n→X.n≤n:=by
         intro v hs ty n ts X hv hn
         cases v with
         |none=>cases hv
         |some v =>
          simp only[Option.bind_some]at hv
          unfold mOf at hv
          split at hv
          ·split at hv
           ·rename_i ty2 ts2 X2 hf
            cases hv
            exact Nat.le_of_eq (jk7 (X:=X) rfl (by rw[hf]; rfl) hn).symm
           ·cases hv
          ·cases hv; rw[h0]; exact Nat.zero_le _
          ·cases hv
        split at h
        ·rename_i hs ty t1 X1 hx ty' t2 X2 g1 g2
         split at h
         ·cases h
          exact fin (len g1 hn) (len g2 hm)
         ·cases h
        ·cases h
       ·cases h
      split at h
      ·rename_i hs0 hobj
       split at h
       ·rename_i r0 i0 e0 j0 t0 c1 hf
        split at h
        ·rename_i hx cx z e b' ty ts X g1 g2 g3 g4 g5
         rw[h4]at g4
         cases g4
         split at h
         ·rename_i c2 hc2
          split at h
          ·split at h
           ·cases h
            have hs':rd s=some (.w (.c (.o hs0))):=by
             cases hrs:rd s with
             |none=>simp[hrs]at hobj
             |some v =>
              simp only[hrs,Option.bind_some]at hobj
              unfold V.obj? at hobj
              split at hobj
              ·cases hobj; rfl
              ·cases hobj
            have l1:c1.n≤n:=Nat.le_of_eq ((jic hs' hf hn).1 c1 rfl).symm
            have l2:c2.n≤m:=Nat.le_of_eq (ji9 g1 hc2 hm)
            exact fin l1 l2
           ·cases h
          ·cases h
         ·cases h
        ·cases h
       ·exact MA h
      ·exact MA h
     ·cases ht
    ·cases ht
   ·cases h
  ·cases h
 |_=>simp at h
theorem bL_ob {op:Op} {r:Res} (ht:obB P op rd hp=true) (h:jes P op rd hp nx=some r):r.ob:=by
 unfold obB at ht
 unfold jes at h
 cases op with
 |makeSlice t l c =>
  dsimp only at h ht
  split at h
  ·rename_i elem k n k' m _ hut hn hm
   rw[hut,hn,hm]at ht
   dsimp only at ht
   split at h
   ·rename_i z e b h1 h2 h3
    rw[h3]at ht
    split at h
    ·cases h; simpa using ht
    ·cases h
   ·cases h
  ·cases h
 |buildSlice t n ps=>cases ht
 |slice t x lo hi mx =>
  cases mx with
  |some mx=>cases h
  |none =>
   dsimp only at h ht
   split at h
   ·rename_i elem h' l m hut hx hl hm
    rw[hl,hm,hut]at ht
    dsimp only at ht
    split at h
    ·rename_i e n cs sz hf hs
     split at ht
     ·rename_i n' hn
      rw[ji8 hx hf hn]at ht
      split at h
      ·cases h
       simpa [ji7]using ht
      ·cases h
     ·cases ht
    ·cases h
   ·cases h
 |store t x y =>
  dsimp only at h
  split at h
  ·split at h
   ·split at h
    ·cases h; trivial
    ·cases h
   ·cases h
  ·cases h
 |call c =>
  dsimp only at h ht
  split at h
  ·rename_i s x t t' hc ha hat
   rw[hc,ha,hat]at ht
   dsimp only at ht
   split at h
   ·rename_i elem _ hb hut
    rw[hut]at ht
    split at h
    ·rename_i z e b h1 h2 h3
     split at h
     ·rename_i hs ty e1 n1 cs1 n2 cs2 g1 g2
      split at ht
      ·rename_i elem' n m he hn hm
       cases he
       rw[h3]at ht
       simp only[Bool.and_eq_true]at ht
       have l1:n1=n:=by
        cases hrs:rd s with
        |none=>simp[hrs]at g1
        |some v =>
         simp only[hrs,Option.bind_some]at g1
         rw[hrs]at hn
         unfold lOf at g1
         split at g1
         ·rename_i k
          split at g1
          ·rename_i hf
           cases g1
           exact(ji8 rfl (by rw[hf]; rfl) hn).symm
          ·cases g1
         ·cases g1; simpa [jde]using hn
         ·cases g1
       have l2:n2=m:=by
        cases hrs:rd x with
        |none=>simp[hrs]at g2
        |some v =>
         simp only[hrs,Option.bind_some]at g2
         rw[hrs]at hm
         unfold lRd at g2
         split at g2
         ·rename_i k
          split at g2
          ·rename_i hf
           cases g2
           exact(ji8 rfl hf hm).symm
          ·cases g2
         ·cases g2; simpa [jde]using hm
         ·cases g2
       split at h
       ·cases h
        rw[←l1,←l2]at ht
        exact⟨Nat.le_of_ble_eq_true ht.1.1,Nat.le_of_ble_eq_true ht.1.2⟩
       ·cases h
      ·cases ht
     ·cases h
    ·cases h
   ·cases h
  ·cases h
 |_=>simp at h
theorem bH_ob {op:Op} {r:Res} (ht:obB P op rd hp=true) (hcall:∀c,op=.call c→c.callee=.builtin .append) (h:jg6 P sp op rd hp nx=some r):r.ob:=by
 unfold obB at ht
 unfold jg6 at h
 cases op with
 |box elem x=>cases ht
 |alloc elem=>cases ht
 |buildSlice t n ps=>cases ht
 |makeSlice t l c =>
  dsimp only at h ht
  split at h
  ·rename_i elem k n k' m hut hn hm
   rw[hut,hn,hm]at ht
   dsimp only at ht
   split at h
   ·rename_i z e b h1 h2 h3
    rw[h3]at ht
    split at h
    ·split at h
     ·cases h; simpa using ht
     ·cases h
    ·cases h
   ·cases h
  ·cases h
 |slice t x lo hi mx =>
  cases mx with
  |some mx=>cases h
  |none =>
   dsimp only at h ht
   split at h
   ·split at h
    ·split at h
     ·split at h
      ·split at h
       ·cases h; trivial
       ·cases h
      ·cases h
     ·cases h
    ·cases h
   ·rename_i elem h' l m hut hx hl hm
    rw[hl,hm,hut]at ht
    dsimp only at ht
    split at h
    ·rename_i o e hf hs
     split at h
     ·rename_i c hc
      split at ht
      ·rename_i n hn
       rw[(jic hx hf hn).1 c hc]at ht
       split at h
       ·cases h
        simpa [ji7]using ht
       ·cases h
      ·cases ht
     ·cases h
    ·cases h
   ·cases h
 |store t x y =>
  dsimp only at h ht
  split at h
  ·rename_i h' i e j u hx hy
   rw[hx]at ht
   dsimp only at ht
   split at h
   ·split at h
    ·rename_i ty cs hf
     rw[hf,hy]at ht
     split at h
     ·rename_i p cs' hst
      cases h
      unfold jmE at hst
      split at hst
      ·split at hst
       ·cases hst
       ·rename_i c0 r0 hu
        dsimp only[jib]at ht
        exact js6 hst ht
      ·cases hst
     ·split at h
      ·cases h; trivial
      ·cases h
    ·rename_i ty c hf
     rw[hf]at ht
     have ht:i<c.n:=by
      cases c with
      |frs k E l =>
       simp only[jib,Bool.and_eq_true]at ht
       exact jbn ht.1
      |_=>exact jbn ht
     split at h
     ·split at h
      ·split at h
       ·cases h; exact ht
       ·cases h
      ·cases h
     ·cases h
    ·cases h
   ·cases h
  ·cases h
 |call c =>
  dsimp only at h ht
  have hcc:=hcall c rfl
  rw[hcc]at h ht
  split at h
  ·rename_i s x t t' _ ha hat
   rw[ha,hat]at ht
   dsimp only at ht
   split at h
   ·rename_i hte
    split at ht
    ·rename_i elem n m hut hn hm
     split at ht
     ·rename_i b hb
      simp only[Bool.and_eq_true]at ht
      have a1:=Nat.le_of_ble_eq_true ht.1.1
      have a2:=Nat.le_of_ble_eq_true ht.1.2
      have fin:∀{x y:Nat},x≤n→y≤m→(x+y)*b≤140737488355328∧x+y≤9223372036854775807:=fun l1 l2 =>
       ⟨Nat.le_trans (Nat.mul_le_mul_right b (Nat.add_le_add l1 l2)) a1,Nat.le_trans (Nat.add_le_add l1 l2) a2⟩
      split at h
      ·rename_i c1 hfv
       rw[hfv]at ht
       simp only[Bool.and_eq_true]at ht
       unfold jfm at h
       split at h
       ·rename_i elem' hx cx hut' g1
        rw[hut]at hut'
        cases hut'
        split at h
        ·rename_i z e b' h1 h2 h3
         rw[hb]at h3
         cases h3
         split at h
         ·rename_i c2 hc2
          split at h
          ·split at h
           ·cases h
            have l1:c1.n≤n:=by
             unfold jir at hfv
             split at hfv
             ·rename_i hh hrs
              split at hfv
              ·rename_i rr cc hf
               cases hfv
               exact Nat.le_of_eq ((jic hrs hf hn).1 c1 rfl).symm
              ·cases hfv
             ·cases hfv
            have l2:=ji9 g1 hc2 hm
            exact⟨jbn ht.2.1,by rw[l2]; exact jbn ht.2.2,fin l1 (Nat.le_of_eq l2)⟩
           ·cases h
          ·cases h
         ·cases h
        ·cases h
       ·cases h
      ·split at h
       ·rename_i elem' hs cs hx cx hut' g1 g2
        rw[hut]at hut'
        cases hut'
        split at h
        ·rename_i z e b' h1 h2 h3
         rw[hb]at h3
         cases h3
         split at h
         ·rename_i c1 c2 _ hc1 hc2
          split at h
          ·split at h
           ·cases h
            exact fin (Nat.le_of_eq (ji9 g1 hc1 hn)) (Nat.le_of_eq (ji9 g2 hc2 hm))
           ·cases h
          ·cases h
         ·cases h
        ·cases h
       ·cases h
     ·cases ht
    ·cases ht
   ·cases h
  ·rename_i hc; cases hc
  ·cases h
 |_=>simp at h
theorem b_ob {op:Op} {r:Res} (ht:obB P op rd hp=true) (h:jb1 P sp op rd hp nx=some r):r.ob:=by
 unfold jb1 at h
 split at h
 ·rename_i ob v hv
  cases h
  unfold jbg at hv
  split at hv
  ·rename_i p hp0
   cases hv
   exact jvT ht hp0
  ·exact jxT ht hv
 ·split at h
  ·rename_i r' hr
   cases h
   exact bR_ob ht hr
  ·split at h
   ·rename_i r' hr
    cases h
    exact bX_ob ht hr
   ·split at h
    ·rename_i r' hr
     cases h
     exact bL_ob ht hr
    ·split at h
     ·rename_i r' hr
      cases h
      exact bM_ob ht hr
     ·split at h
      ·rename_i r' hr
       cases h
       exact bN_ob ht hr
      ·refine bH_ob ht ?_ h
       intro c hc
       subst hc
       unfold obB at ht
       dsimp only at ht
       split at ht
       ·assumption
       ·cases ht
end
end Go.Sx
end
