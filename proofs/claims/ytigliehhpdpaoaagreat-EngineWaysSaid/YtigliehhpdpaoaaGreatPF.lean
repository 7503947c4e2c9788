/- Part 6 of the proof of EngineWays: the executor, the mirrors of the functions, the plain facts. -/
import Derived.Test.YtigliehhpdpaoaaGreatPE
import Derived.Carry
import Derived.ChangeArms
import Derived.OpenShut
import Derived.ChangeShapes
import Derived.ChangeSame
import Derived.SizedLaws
import Derived.WideShapes
set_option maxRecDepth 100000
set_option linter.unusedSectionVars false
set_option linter.unusedSimpArgs false
set_option linter.unusedVariables false
section
namespace Go.Sh
open Go Go.Proofs Go.RowKit Go.Sx
open Go.IntKind (wrap)
def jeV:List SV:=[.c (.p [.d,.x (.st [.s,.i .i64,.ints .i64,.ints .i64,.ints .i64,.i .i64,.recs 5,.i .i64] []),.r (.ints .i64 [])])]
def y22 (u27:List (List NC)) (u28:List Int) (x0:Int × List (List NC)) (x1:(Int × List (List NC))):Option ((Int × List (List NC)) ⊕ ((Int × Int × List Int × List Int) ⊕ (List (List NC)))) :=
 if x1.1<(↑(List.length (nL u27 (Int.toNat (List.getD u28 x0.1.toNat (0:Int))) (2:Nat))):Int)then
  if 0≤x1.1∧x1.1<(↑(List.length (nL u27 (Int.toNat (List.getD u28 x0.1.toNat (0:Int))) (2:Nat))):Int)then
  if Int.toNat x1.1<List.length (nL u27 (Int.toNat (List.getD u28 x0.1.toNat (0:Int))) (2:Nat))then
   if 0≤List.getD (nL u27 (Int.toNat (List.getD u28 x0.1.toNat (0:Int))) (2:Nat)) x1.1.toNat (0:Int)∧List.getD (nL u27 (Int.toNat (List.getD u28 x0.1.toNat (0:Int))) (2:Nat)) x1.1.toNat 0<(↑x1.2.length:Int)then
   if Int.toNat (List.getD (nL u27 (Int.toNat (List.getD u28 x0.1.toNat (0:Int))) (2:Nat)) x1.1.toNat (0:Int))<List.length x1.2 then
    if 0≤x1.1∧x1.1<(↑(List.length (nL u27 (Int.toNat (List.getD u28 x0.1.toNat (0:Int))) (3:Nat))):Int)then
    if Int.toNat x1.1<List.length (nL u27 (Int.toNat (List.getD u28 x0.1.toNat (0:Int))) (3:Nat))then
     Option.bind (y52 (nL x1.2 (Int.toNat (List.getD (nL u27 (Int.toNat (List.getD u28 x0.1.toNat (0:Int))) (2:Nat)) x1.1.toNat (0:Int))) (0:Nat)) (nI x1.2 (Int.toNat (List.getD (nL u27 (Int.toNat (List.getD u28 x0.1.toNat (0:Int))) (2:Nat)) x1.1.toNat (0:Int))) (1:Nat)) (List.getD u28 x0.1.toNat (0:Int)) (wrap .i64 (List.getD (nL u27 (Int.toNat (List.getD u28 x0.1.toNat (0:Int))) (3:Nat)) x1.1.toNat 0+nI u27 (Int.toNat (List.getD u28 x0.1.toNat (0:Int))) (5:Nat)))) fun r0 =>
     if(x1.1==0)=true then
     if 0≤List.getD u28 x0.1.toNat (0:Int)∧List.getD u28 x0.1.toNat 0<(↑x1.2.length:Int)then
      if Int.toNat (List.getD u28 x0.1.toNat (0:Int))<List.length x1.2 then
      some (.inl ((wrap .i64 (x1.1+1),List.set x1.2 (Int.toNat (List.getD u28 x0.1.toNat (0:Int))) [NC.r (Cont.ints .i64 r0.1),NC.d (D.i .i64 r0.2)])))
      else none
     else none
     else
     if 0≤List.getD u28 x0.1.toNat (0:Int)∧List.getD u28 x0.1.toNat 0<(↑x1.2.length:Int)then
      if Int.toNat (List.getD u28 x0.1.toNat (0:Int))<List.length x1.2 then
      if(r0.2 != nI x1.2 (Int.toNat (List.getD u28 x0.1.toNat (0:Int))) (1:Nat))=true then
       if 0≤List.getD u28 x0.1.toNat (0:Int)∧List.getD u28 x0.1.toNat 0<(↑x1.2.length:Int)then
       if Int.toNat (List.getD u28 x0.1.toNat (0:Int))<List.length x1.2 then
        some (.inr ((.inl ((nI x1.2 (Int.toNat (List.getD u28 x0.1.toNat (0:Int))) (1:Nat),r0.2,nL x1.2 (Int.toNat (List.getD u28 x0.1.toNat (0:Int))) (0:Nat),r0.1)))))
       else none
       else none
      else
       some (.inl ((wrap .i64 (x1.1+1),x1.2)))
      else none
     else none
    else none
    else none
   else none
   else none
  else none
  else none
 else
  some (.inr (.inr x1.2))
def jlV (x0:Int × List (List NC)) (u29:Int × Int × List Int × List Int):Option ((Int × List (List NC)) ⊕ ((Int × Int × List Int × List Int) ⊕ (List (List NC)))) :=
 some (.inr ((.inl ((u29.1,u29.2.1,u29.2.2.1,u29.2.2.2)))))
def y119 (x0:Int × List (List NC)) (u46:List (List NC)):Option ((Int × List (List NC)) ⊕ ((Int × Int × List Int × List Int) ⊕ (List (List NC)))) :=
 some (.inl ((wrap .i64 (x0.1+1),u46)))
def y99 (x0:Int × List (List NC)):((Int × Int × List Int × List Int) ⊕ (List (List NC)))→Option ((Int × List (List NC)) ⊕ ((Int × Int × List Int × List Int) ⊕ (List (List NC)))) :=
 (Sum.elim (jlV x0) (y119 x0))
def y23 (u27:List (List NC)) (u28:List Int) (x0:(Int × List (List NC))):Option ((Int × List (List NC)) ⊕ ((Int × Int × List Int × List Int) ⊕ (List (List NC)))) :=
 if x0.1<(↑u28.length:Int)then
  if 0≤x0.1∧x0.1<(↑u28.length:Int)then
  if Int.toNat x0.1<List.length u28 then
   if 0≤List.getD u28 x0.1.toNat (0:Int)∧List.getD u28 x0.1.toNat 0<(↑u27.length:Int)then
   if Int.toNat (List.getD u28 x0.1.toNat (0:Int))<List.length u27 then
    if((↑(List.length (nL u27 (Int.toNat (List.getD u28 x0.1.toNat (0:Int))) (2:Nat))):Int)==0)=true then
    if 0≤List.getD u28 x0.1.toNat (0:Int)∧List.getD u28 x0.1.toNat 0<(↑x0.2.length:Int)then
     if Int.toNat (List.getD u28 x0.1.toNat (0:Int))<List.length x0.2 then
     Option.bind (jag (y22 u27 u28 x0) big (((0:Int),List.set x0.2 (Int.toNat (List.getD u28 x0.1.toNat (0:Int))) [NC.r (Cont.ints .i64 [List.getD u28 x0.1.toNat (0:Int)]),NC.d (D.i .i64 0)]))) (y99 x0)
     else none
    else none
    else
    Option.bind (jag (y22 u27 u28 x0) big (((0:Int),x0.2))) (y99 x0)
   else none
   else none
  else none
  else none
 else
  some (.inr (.inr x0.2))
def jlW (u5:Int × Int × List Int × List Int):Option (List (List NC) × List Int × Int × List Int × Int × Bool) :=
 some ([],u5.2.2.1,u5.1,u5.2.2.2,u5.2.1,true)
def jlX (u6:List (List NC)):Option (List (List NC) × List Int × Int × List Int × Int × Bool) :=
 some ((u6,[],0,[],0,false))
def y143:((Int × Int × List Int × List Int) ⊕ (List (List NC)))→Option (List (List NC) × List Int × Int × List Int × Int × Bool) :=
 (Sum.elim (jlW) (jlX))
def y9 (u38:ByteArray) (u27:List (List NC)) (u28:List Int):Option (List (List NC) × List Int × Int × List Int × Int × Bool) :=
 if 0≤(↑u27.length:Int)∧(↑u27.length:Int)=(↑u27.length:Int)∧(↑(32:Nat):Int)*(↑u27.length:Int)≤281474976710656∧(↑u27.length:Int)≤9223372036854775807 then
  Option.bind (jag (y23 u27 u28) big (((0:Int),List.replicate (Int.toNat (↑u27.length:Int)) [NC.r (Cont.ints .i64 []),NC.d (D.i .i64 0)]))) (y143)
 else none
def jeW:List Lf→Option GT
 |[.d (.s u38),.x (.st [.s,.i .i64,.ints .i64,.ints .i64,.ints .i64,.i .i64,.recs 5,.i .i64] u27),.r (.ints .i64 u28)]=>some (.leaf (ok (y9 u38 u27 u28)) [.c (.x 140 (.st ([NK.ints .i64,NK.i .i64]) ((val (y9 u38 u27 u28)).1))),.s [.fe (.ints .i64 ((val (y9 u38 u27 u28)).2.1)),.d (.i .i64 ((val (y9 u38 u27 u28)).2.2.1)),.row 3 (.ints .i64 ((val (y9 u38 u27 u28)).2.2.2.1)),.d (.i .i64 ((val (y9 u38 u27 u28)).2.2.2.2.1))],.c (.d (.b ((val (y9 u38 u27 u28)).2.2.2.2.2)))])
 |_=>none
abbrev sp_88:jaa→jaa:=jaG 88 true (jai jeV jeW)
abbrev y144 (u38:ByteArray) (u27:List (List NC)) (u28:List Int) (r:List (List NC) × List Int × Int × List Int × Int × Bool):Lp ((Int × List (List NC)) × Nat) ((Int × List (List NC))) (((Int × Int × List Int × List Int) ⊕ (List (List NC)))) ((List (List NC) × List Int × Int × List Int × Int × Bool)) (List (List NC) × List Int × Int × List Int × Int × Bool) :=
 ⟨fun z=>z.1,fun z=>z.2,fun z x n=>(x,n),fun z=>y23 u27 u28,fun z=>y143,fun z=>top r,fun z=>0,[.c fun _=>0,.c fun _=>0,.c fun _=>(↑u28.length:Int),.c fun vv=>vv.1.1,.c fun _=>u38,.c fun vv=>vv.1.2,.c fun _=>Value.slice none (0:Nat) (0:Nat),.c fun _=>(0:Int),.c fun _=>Value.slice none (0:Nat) (0:Nat),.c fun _=>(0:Int),.c fun _=>u28,.c fun _=>u27]⟩
abbrev y145 (u38:ByteArray) (u27:List (List NC)) (u28:List Int) (r:List (List NC) × List Int × Int × List Int × Int × Bool) (m1:Nat):Lp ((Int × List (List NC)) × Nat × (Int × List (List NC)) × Nat) ((Int × List (List NC))) (((Int × Int × List Int × List Int) ⊕ (List (List NC)))) (((Int × List (List NC)) ⊕ ((Int × Int × List Int × List Int) ⊕ (List (List NC))))) (List (List NC) × List Int × Int × List Int × Int × Bool) :=
 ⟨fun z=>z.2.2.1,fun z=>z.2.2.2,fun z x n=>(z.1,z.2.1,x,n),fun z=>y22 u27 u28 z.1,fun z=>y99 z.1,fun z=>(y144 u38 u27 u28 r).cx (z.1,m1),fun z=>z.2.1,[.c fun _=>0,.c fun _=>0,.c fun vv=>List.getD u28 vv.1.1.toNat (0:Int),.c fun _=>0,.c fun _=>(↑u28.length:Int),.c fun vv=>vv.1.1,.c fun vv=>(↑(List.length (nL u27 (Int.toNat (List.getD u28 vv.1.1.toNat (0:Int))) (2:Nat))):Int),.c fun vv=>vv.2.2.1.1,.c fun _=>u38,.c fun vv=>vv.2.2.1.2,.c fun _=>Value.slice none (0:Nat) (0:Nat),.c fun _=>(0:Int),.c fun _=>Value.slice none (0:Nat) (0:Nat),.c fun _=>(0:Int),.c fun vv=>nS u27 (Int.toNat (List.getD u28 vv.1.1.toNat (0:Int))) (0:Nat),.c fun vv=>nI u27 (Int.toNat (List.getD u28 vv.1.1.toNat (0:Int))) (1:Nat),.c fun vv=>nI u27 (Int.toNat (List.getD u28 vv.1.1.toNat (0:Int))) (5:Nat),.c fun vv=>nI u27 (Int.toNat (List.getD u28 vv.1.1.toNat (0:Int))) (7:Nat),.c fun _=>u28,.c fun vv=>nL u27 (Int.toNat (List.getD u28 vv.1.1.toNat (0:Int))) (2:Nat),.c fun _=>u27,.c fun vv=>nL u27 (Int.toNat (List.getD u28 vv.1.1.toNat (0:Int))) (3:Nat),.c fun vv=>nL u27 (Int.toNat (List.getD u28 vv.1.1.toNat (0:Int))) (4:Nat),.c fun vv=>nR u27 (Int.toNat (List.getD u28 vv.1.1.toNat (0:Int))) (6:Nat)]⟩
def joH (u38:ByteArray) (u27:List (List NC)) (u28:List Int) (r:List (List NC) × List Int × Int × List Int × Int × Bool):Sk (top r) (Option.bind (jag (y23 u27 u28) big (((0:Int),List.replicate (Int.toNat (↑u27.length:Int)) [NC.r (Cont.ints .i64 []),NC.d (D.i .i64 0)]))) (y143)) :=
 .loop (y144 u38 u27 u28 r) (fun kk=>(((0:Int),List.replicate (Int.toNat (↑u27.length:Int)) [NC.r (Cont.ints .i64 []),NC.d (D.i .i64 0)]),big)) fun z0 =>
 .br
 (.ob (.ob (.obT (.ob (.ob (.brB
 (.ob (.ob (.loop (y145 u38 u27 u28 r z0.2) (fun kk=>(z0.1,kk,((0:Int),List.set z0.1.2 (Int.toNat (List.getD u28 z0.1.1.toNat (0:Int))) [NC.r (Cont.ints .i64 [List.getD u28 z0.1.1.toNat (0:Int)]),NC.d (D.i .i64 0)]),big)) fun z1 =>
 .br
 (.ob (.ob (.ob (.ob (.ob (.ob (.call (.brB
 (.ob (.ob (.next)))
 (.ob (.ob (.brB
 (.ob (.ob (.exit (.exit (.obT (.obT (.obT (.ret (fun r=>(Ob (List.length r.1=(0:Nat)) ∧
 (Ob (nL z1.2.2.1.2 (Int.toNat (List.getD u28 z1.1.1.toNat (0:Int))) (0:Nat)=r.2.1) ∧
 (Ob (nI z1.2.2.1.2 (Int.toNat (List.getD u28 z1.1.1.toNat (0:Int))) (1:Nat)=r.2.2.1) ∧
 (Ob ((val (y52 (nL z1.2.2.1.2 (Int.toNat (List.getD (nL u27 (Int.toNat (List.getD u28 z1.1.1.toNat (0:Int))) (2:Nat)) z1.2.2.1.1.toNat (0:Int))) (0:Nat)) (nI z1.2.2.1.2 (Int.toNat (List.getD (nL u27 (Int.toNat (List.getD u28 z1.1.1.toNat (0:Int))) (2:Nat)) z1.2.2.1.1.toNat (0:Int))) (1:Nat)) (List.getD u28 z1.1.1.toNat (0:Int)) (wrap .i64 (List.getD (nL u27 (Int.toNat (List.getD u28 z1.1.1.toNat (0:Int))) (3:Nat)) z1.2.2.1.1.toNat 0+nI u27 (Int.toNat (List.getD u28 z1.1.1.toNat (0:Int))) (5:Nat))))).1=r.2.2.2.1) ∧
 (Ob ((val (y52 (nL z1.2.2.1.2 (Int.toNat (List.getD (nL u27 (Int.toNat (List.getD u28 z1.1.1.toNat (0:Int))) (2:Nat)) z1.2.2.1.1.toNat (0:Int))) (0:Nat)) (nI z1.2.2.1.2 (Int.toNat (List.getD (nL u27 (Int.toNat (List.getD u28 z1.1.1.toNat (0:Int))) (2:Nat)) z1.2.2.1.1.toNat (0:Int))) (1:Nat)) (List.getD u28 z1.1.1.toNat (0:Int)) (wrap .i64 (List.getD (nL u27 (Int.toNat (List.getD u28 z1.1.1.toNat (0:Int))) (3:Nat)) z1.2.2.1.1.toNat 0+nI u27 (Int.toNat (List.getD u28 z1.1.1.toNat (0:Int))) (5:Nat))))).2=r.2.2.2.2.1) ∧
 (Ob (true=r.2.2.2.2.2) ∧
 True))))))) ⟨⟨rfl⟩,⟨⟨rfl⟩,⟨⟨rfl⟩,⟨⟨rfl⟩,⟨⟨rfl⟩,⟨⟨rfl⟩,trivial⟩⟩⟩⟩⟩⟩))))))))
 (.next))))))))))))
 (.exit (.next)))))
 (.loop (y145 u38 u27 u28 r z0.2) (fun kk=>(z0.1,kk,((0:Int),z0.1.2),big)) fun z1 =>
 .br
 (.ob (.ob (.ob (.ob (.ob (.ob (.call (.brB
 (.ob (.ob (.next)))
 (.ob (.ob (.brB
 (.ob (.ob (.exit (.exit (.obT (.obT (.obT (.ret (fun r=>(Ob (List.length r.1=(0:Nat)) ∧
 (Ob (nL z1.2.2.1.2 (Int.toNat (List.getD u28 z1.1.1.toNat (0:Int))) (0:Nat)=r.2.1) ∧
 (Ob (nI z1.2.2.1.2 (Int.toNat (List.getD u28 z1.1.1.toNat (0:Int))) (1:Nat)=r.2.2.1) ∧
 (Ob ((val (y52 (nL z1.2.2.1.2 (Int.toNat (List.getD (nL u27 (Int.toNat (List.getD u28 z1.1.1.toNat (0:Int))) (2:Nat)) z1.2.2.1.1.toNat (0:Int))) (0:Nat)) (nI z1.2.2.1.2 (Int.toNat (List.getD (nL u27 (Int.toNat (List.getD u28 z1.1.1.toNat (0:Int))) (2:Nat)) z1.2.2.1.1.toNat (0:Int))) (1:Nat)) (List.getD u28 z1.1.1.toNat (0:Int)) (wrap .i64 (List.getD (nL u27 (Int.toNat (List.getD u28 z1.1.1.toNat (0:Int))) (3:Nat)) z1.2.2.1.1.toNat 0+nI u27 (Int.toNat (List.getD u28 z1.1.1.toNat (0:Int))) (5:Nat))))).1=r.2.2.2.1) ∧
 (Ob ((val (y52 (nL z1.2.2.1.2 (Int.toNat (List.getD (nL u27 (Int.toNat (List.getD u28 z1.1.1.toNat (0:Int))) (2:Nat)) z1.2.2.1.1.toNat (0:Int))) (0:Nat)) (nI z1.2.2.1.2 (Int.toNat (List.getD (nL u27 (Int.toNat (List.getD u28 z1.1.1.toNat (0:Int))) (2:Nat)) z1.2.2.1.1.toNat (0:Int))) (1:Nat)) (List.getD u28 z1.1.1.toNat (0:Int)) (wrap .i64 (List.getD (nL u27 (Int.toNat (List.getD u28 z1.1.1.toNat (0:Int))) (3:Nat)) z1.2.2.1.1.toNat 0+nI u27 (Int.toNat (List.getD u28 z1.1.1.toNat (0:Int))) (5:Nat))))).2=r.2.2.2.2.1) ∧
 (Ob (true=r.2.2.2.2.2) ∧
 True))))))) ⟨⟨rfl⟩,⟨⟨rfl⟩,⟨⟨rfl⟩,⟨⟨rfl⟩,⟨⟨rfl⟩,⟨⟨rfl⟩,trivial⟩⟩⟩⟩⟩⟩))))))))
 (.next))))))))))))
 (.exit (.next)))))))))
 (.exit (.obT (.obT (.obT (.ret (fun r=>(Ob (z0.1.2=r.1) ∧
 (Ob (List.length r.2.1=(0:Nat)) ∧
 (Ob ((0:Int)=r.2.2.1) ∧
 (Ob (List.length r.2.2.2.1=(0:Nat)) ∧
 (Ob ((0:Int)=r.2.2.2.2.1) ∧
 (Ob (false=r.2.2.2.2.2) ∧
 True))))))) ⟨⟨rfl⟩,⟨⟨rfl⟩,⟨⟨rfl⟩,⟨⟨rfl⟩,⟨⟨rfl⟩,⟨⟨rfl⟩,trivial⟩⟩⟩⟩⟩⟩)))))
def jpJ (u38:ByteArray) (u27:List (List NC)) (u28:List Int) (r:List (List NC) × List Int × Int × List Int × Int × Bool):Sk (top r) (y9 u38 u27 u28) :=
 .obT (.ob (.obT (joH u38 u27 u28 r)))
theorem joI (u38:ByteArray) (u27:List (List NC)) (u28:List Int) (r:List (List NC) × List Int × Int × List Int × Int × Bool) (h:Option.bind (y9 u38 u27 u28) some=some r):ja5 Tryz.f88 ((sp_133 sp0)) (fun gs id _=>match id with
 |0=>some ⟨(Int × List (List NC)) × Nat,fun z=>⟨[(0,.w (.c (.p 2 0 1 0))),(2,.w (.c (.o 3))),(3,.w (.c (.p 4 0 1 0))),(21,.w (.c (.o 1))),(22,.w (.c (.d (.i .i64 ((↑u28.length:Int)))))),(23,.w (.c (.d (.i .i64 z.1.1))))],[(2,.ebox [.d (.s u38),.o 0,.o 1]),(3,.xrow 140 (XC.st [NK.ints .i64,NK.i .i64] z.1.2)),(4,.box 141 [.d (.v (Value.slice none (0:Nat) (0:Nat))),.d (.i .i64 0),.d (.v (Value.slice none (0:Nat) (0:Nat))),.d (.i .i64 0)]),(1,.ext (.ints .i64 u28)),(0,.xext (XC.st [NK.s,NK.i .i64,NK.ints .i64,NK.ints .i64,NK.ints .i64,NK.i .i64,NK.recs (5:Nat),NK.i .i64] u27))],5⟩,fun z=>(y144 u38 u27 u28 r).inv z,fun z=>z.2⟩
 |2=>some ⟨(Int × List (List NC)) × Nat × (Int × List (List NC)) × Nat,fun z=>⟨[(0,.w (.c (.p 2 0 1 0))),(2,.w (.c (.o 3))),(3,.w (.c (.p 4 0 1 0))),(6,.w (.c (.d (.i .i64 (List.getD u28 z.1.1.toNat (0:Int)))))),(7,.w (.c (.p 5 0 1 0))),(21,.w (.c (.o 1))),(22,.w (.c (.d (.i .i64 ((↑u28.length:Int)))))),(23,.w (.c (.d (.i .i64 (z.1.1))))),(46,.w (.c (.o 6))),(47,.w (.c (.d (.i .i64 ((↑(List.length (nL u27 (Int.toNat (List.getD u28 z.1.1.toNat (0:Int))) (2:Nat))):Int)))))),(48,.w (.c (.d (.i .i64 z.2.2.1.1))))],[(2,.ebox [.d (.s u38),.o 0,.o 1]),(3,.xrow 140 (XC.st [NK.ints .i64,NK.i .i64] z.2.2.1.2)),(4,.box 141 [.d (.v (Value.slice none (0:Nat) (0:Nat))),.d (.i .i64 0),.d (.v (Value.slice none (0:Nat) (0:Nat))),.d (.i .i64 0)]),(5,.box 118 [.d (.s (nS u27 (Int.toNat (List.getD u28 z.1.1.toNat (0:Int))) (0:Nat))),.d (.i .i64 (nI u27 (Int.toNat (List.getD u28 z.1.1.toNat (0:Int))) (1:Nat))),.o 6,.o 7,.o 8,.d (.i .i64 (nI u27 (Int.toNat (List.getD u28 z.1.1.toNat (0:Int))) (5:Nat))),.o 9,.d (.i .i64 (nI u27 (Int.toNat (List.getD u28 z.1.1.toNat (0:Int))) (7:Nat)))]),(1,.ext (.ints .i64 u28)),(6,.ext (.ints .i64 (nL u27 (Int.toNat (List.getD u28 z.1.1.toNat (0:Int))) (2:Nat)))),(0,.xext (XC.st [NK.s,NK.i .i64,NK.ints .i64,NK.ints .i64,NK.ints .i64,NK.i .i64,NK.recs (5:Nat),NK.i .i64] u27)),(7,.ext (.ints .i64 (nL u27 (Int.toNat (List.getD u28 z.1.1.toNat (0:Int))) (3:Nat)))),(8,.ext (.ints .i64 (nL u27 (Int.toNat (List.getD u28 z.1.1.toNat (0:Int))) (4:Nat)))),(9,.ext (.recs 5 (nR u27 (Int.toNat (List.getD u28 z.1.1.toNat (0:Int))) (6:Nat))))],10⟩,fun z=>(y145 u38 u27 u28 r (gs.getD 0 0)).inv z,fun z=>z.2.2.2⟩
 |_=>none) (ja0 jeV [.d (.s u38),.x (.st [.s,.i .i64,.ints .i64,.ints .i64,.ints .i64,.i .i64,.recs 5,.i .i64] u27),.r (.ints .i64 u28)]) [.c (.x 140 (.st ([NK.ints .i64,NK.i .i64]) r.1)),.s [.fe (.ints .i64 r.2.1),.d (.i .i64 r.2.2.1),.row 3 (.ints .i64 r.2.2.2.1),.d (.i .i64 r.2.2.2.2.1)],.c (.d (.b r.2.2.2.2.2))] :=
 Sk.vc (jpJ u38 u27 u28 r) (by kernel_rfl) h
theorem joJ:jaf Tryz.prog 88 true (jai jeV jeW):=by
 refine jav (sp:=(sp_133 sp0)) (fn:=Tryz.f88) (body:=bodyOf Tryz.f88) mixed (sp_133_ok jau) Tryz.func88 (by kernel_rfl) (by kernel_rfl) fun ls t h ho b hb=>?_
 unfold jeW at h
 split at h
 ·rename_i u38 u27 u28
  cases h
  obtain rfl:=jaL hb
  exact⟨Nat.le_of_ble_eq_true (by kernel_rfl),_,_,joI u38 u27 u28 _ (jap ho)⟩
 ·cases h
theorem sp_88_ok {sp:jaa} (h:jac Tryz.prog sp):jac Tryz.prog (sp_88 sp):=jar joJ h
end Go.Sh
end

section
namespace Go.Sh
open Go Go.Proofs Go.RowKit Go.Sx
def jhM:List SV:=[.a [.d,.x (.st [.s,.i .i64,.ints .i64,.ints .i64,.ints .i64,.i .i64,.recs 5,.i .i64] [])]]
def y44 (u4:ByteArray) (u1:List (List NC)):Option (List Int × List Int × Int) :=
 if(jji u4 u1)=true then
  Option.bind (jdC u4 u1) fun r0 =>
  some ([],[],nzI r0)
 else
  Option.bind (jen u4 u1) fun r1 =>
  Option.bind (y9 u4 u1 r1) fun r2 =>
  if(!r2.2.2.2.2.2)=true then
  some (([],[],12))
  else
  some ((r2.2.1,r2.2.2.2.1,0))
def jhN:List Lf→Option GT
 |[.d (.s u4),.x (.st [.s,.i .i64,.ints .i64,.ints .i64,.ints .i64,.i .i64,.recs 5,.i .i64] u1)]=>some (.leaf (ok (y44 u4 u1)) [.s [.fe (.ints .i64 ((val (y44 u4 u1)).1)),.row 3 (.ints .i64 ((val (y44 u4 u1)).2.1))],.c (.d (.i .i64 ((val (y44 u4 u1)).2.2)))])
 |_=>none
abbrev sp_34:jaa→jaa:=jaG 34 true (jai jhM jhN)
def jt6 (u4:ByteArray) (u1:List (List NC)) (r:List Int × List Int × Int):Sk (top r) (y44 u4 u1) :=
 .brB
 (.call (.obT (.obT (.ret (fun r=>(Ob (List.length r.1=(0:Nat)) ∧
 (Ob (List.length r.2.1=(0:Nat)) ∧
 (Ob (nzI (val (jdC u4 u1))=r.2.2) ∧
 True)))) ⟨⟨rfl⟩,⟨⟨rfl⟩,⟨⟨rfl⟩,trivial⟩⟩⟩))))
 (.call (.call (.brB
 (.obT (.obT (.ret (fun r=>(Ob (List.length r.1=(0:Nat)) ∧
 (Ob (List.length r.2.1=(0:Nat)) ∧
 (Ob ((12:Int)=r.2.2) ∧
 True)))) ⟨⟨rfl⟩,⟨⟨rfl⟩,⟨⟨rfl⟩,trivial⟩⟩⟩)))
 (.obC ((0:Int)≤0∧(0:Int)<2) (by decide) (.obC ((0:Int)≤1∧(1:Int)<2) (by decide) (.obT (.obT (.rc))))))))
theorem jsB (u4:ByteArray) (u1:List (List NC)) (r:List Int × List Int × Int) (h:Option.bind (y44 u4 u1) some=some r):ja5 Tryz.f34 ((sp_80 (sp_88 sp0))) (fun _ _ _=>none) (ja0 jhM [.d (.s u4),.x (.st [.s,.i .i64,.ints .i64,.ints .i64,.ints .i64,.i .i64,.recs 5,.i .i64] u1)]) [.s [.fe (.ints .i64 r.1),.row 3 (.ints .i64 r.2.1)],.c (.d (.i .i64 r.2.2))] :=
 Sk.vc (jt6 u4 u1 r) (by kernel_rfl) h
theorem jsC:jaf Tryz.prog 34 true (jai jhM jhN):=by
 refine jav (sp:=(sp_80 (sp_88 sp0))) (fn:=Tryz.f34) (body:=bodyOf Tryz.f34) mixed (sp_80_ok (sp_88_ok jau)) Tryz.func34 (by kernel_rfl) (by kernel_rfl) fun ls t h ho b hb=>?_
 unfold jhN at h
 split at h
 ·rename_i u4 u1
  cases h
  obtain rfl:=jaL hb
  exact⟨Nat.le_of_ble_eq_true (by kernel_rfl),_,_,jsB u4 u1 _ (jap ho)⟩
 ·cases h
theorem sp_34_ok {sp:jaa} (h:jac Tryz.prog sp):jac Tryz.prog (sp_34 sp):=jar jsC h
end Go.Sh
end

section
namespace Go.Sh
open Go Go.Proofs Go.RowKit Go.Sx
open Go.IntKind (wrap)
variable {g:List (List NC)} {l:List Int}
theorem jnh {X Y X' Y':Type} {body:X→Option (X ⊕ Y)} {body':X'→Option (X' ⊕ Y')} (Rel:Nat→X→X'→Prop) (post:Y→Y'→Prop)
  (h:∀m x x',Rel m x x'→(∃y y',body x=some (.inr y)∧body' x'=some (.inr y')∧post y y')∨(∃m' x1 x1',m=m' + 1∧body x=some (.inl x1)∧body' x'=some (.inl x1')∧Rel m' x1 x1')) :
  ∀(m:Nat) (x:X) (x':X') (N N':Nat),m<N→m<N'→Rel m x x'→∃y y',jag body N x=some y∧jag body' N' x'=some y'∧post y y'
 |m,x,x',0,_,hN,_,_=>absurd hN (by omega)
 |m,x,x',_+1,0,_,hN,_=>absurd hN (by omega)
 |m,x,x',N+1,N' + 1,h1,h2,hr=>by
  unfold jag
  rcases h m x x' hr with ⟨y,y',e,e',hp⟩|⟨m',x1,x1',rfl,e,e',hr'⟩
  ·rw[e,e']; exact⟨y,y',rfl,rfl,hp⟩
  ·rw[e,e']; exact jnh Rel post h m' x1 x1' N N' (by omega) (by omega) hr'
theorem jli {i:Nat} (h:ja6 g i=0):jeT (nI g i 1) (nL g i 2).length (nL g i 3).length (nL g i 4).length=true∧jcG (nI g i 1) (nL g i 3) (nL g i 4) (nI g i 5)=true∧jfI (nL g i 2)=false∧inB (nI g i 1) 0 4=true:=by
 unfold ja6 at h
 repeat' (split at h)
 all_goals first|omega|skip
 all_goals
  rename_i h1 h2 h3 h4 h5 h6 h7 h8 h9 h10
  simp at *
 all_goals simp_all
theorem jgc {i:Nat} (h:ja6 g i=0):(nL g i 3).length=(nL g i 2).length∧((nL g i 2).length=0↔nI g i 1=0):=by
 have h1:=(jli h).1
 unfold jeT at h1
 split at h1
 ·rename_i hk
  simp only[inB,Bool.and_eq_true,decide_eq_true_eq,beq_iff_eq]at h1 hk
  omega
 ·rename_i hk
  split at h1
  all_goals
   simp only[inB,Bool.and_eq_true,decide_eq_true_eq,beq_iff_eq]at h1 hk
   omega
theorem jlj {i:Nat} (h:ja6 g i=0):(∀k,k<(nL g i 3).length→0≤(nL g i 3).getD k 0∧(nL g i 3).getD k 0≤64)∧0≤nI g i 5∧nI g i 5≤64:=by
 have h1:=(jli h).2.1
 unfold jcG at h1
 rw[Bool.and_eq_true,Bool.and_eq_true,Bool.and_eq_true]at h1
 obtain⟨⟨⟨ha,_⟩,hd⟩,_⟩:=h1
 simp only[inB,Bool.and_eq_true,decide_eq_true_eq]at hd
 refine⟨fun k hk=>?_,hd⟩
 rw[Bool.not_eq_true',List.any_eq_false]at ha
 have:=ha ((nL g i 3).getD k 0) (by simp[List.getD,hk])
 generalize (nL g i 3).getD k 0=c at *
 simp only[inB,Bool.not_eq_true,Bool.not_eq_false',Bool.and_eq_true,decide_eq_true_eq]at this
 exact this
inductive WayTo (g:List (List NC)):List Int→Int→Nat→Prop where
 |one {i:Nat} (hi:i<g.length) (h:nI g i 1=0):WayTo g [(i:Int)] 0 i
 |on {w:List Int} {n:Int} {u i k:Nat} (h:WayTo g w n u) (hi:i<g.length) (hk:k<(nL g i 2).length) (he:(nL g i 2).getD k 0=(u:Int)):WayTo g (w++[(i:Int)]) (n+((nL g i 3).getD k 0+nI g i 5)) i
theorem WayTo.bound (hall:∀i,i<g.length→ja6 g i=0) {w:List Int} {n:Int} {i:Nat} (h:WayTo g w n i):0≤n∧n≤128*(w.length:Int)∧i<g.length∧1≤w.length:=by
 induction h with
 |one hi h=>simp; omega
 | @on w n u i k h hi hk he ih =>
  obtain⟨h1,h2,h3⟩:=jlj (hall i hi)
  have:=h1 k (by have:=(jgc (hall i hi)).1; omega)
  simp only[List.length_append,List.length_cons,List.length_nil]
  omega
def jpK (w:List Int) (n:Int):List NC:=[.r (.ints .i64 w),.d (.i .i64 n)]
theorem joK (A:List (List NC)) (i u:Nat) (w:List Int) (n:Int) (hi:i<A.length):nI (A.set i (jpK w n)) u 1=if i=u then n else nI A u 1:=by
 unfold nI
 rw[jaY _ _ _ _ _ hi]
 split<;>rfl
theorem joL (A:List (List NC)) (i u:Nat) (w:List Int) (n:Int) (hi:i<A.length):nL (A.set i (jpK w n)) u 0=if i=u then w else nL A u 0:=by
 unfold nL
 rw[jaY _ _ _ _ _ hi]
 split<;>rfl
def jcC (g A:List (List NC)) (O:List Int) (u p:Nat):Prop:=nI A u 1=O.getD u 0∧WayTo g (nL A u 0) (nI A u 1) u∧(nL A u 0).length≤p+1
def jni (g:List (List NC)) (O:List Int) (i m:Nat):Prop:=∀k v:Nat,k<m→(nL g i 2).getD k 0=(v:Int)→O.getD v 0+((nL g i 3).getD k 0+nI g i 5)=O.getD i 0
structure InvW (g:List (List NC)) (l:List Int) (j:Nat) (A:List (List NC)) (O:List Int):Prop where
 la:A.length=g.length
 lo:O.length=g.length
 don:∀p u:Nat,p<j→l.getD p 0=(u:Int)→jcC g A O u p
 new:∀p u:Nat,j≤p→p<g.length→l.getD p 0=(u:Int)→O.getD u 0=0
 con:∀p u:Nat,p<j→l.getD p 0=(u:Int)→jni g O u (nL g u 2).length∧((nL g u 2).length=0→O.getD u 0=0)
def jlk (g:List (List NC)) (y:Int × Int × List Int × List Int):Prop:=∃i:Nat,WayTo g y.2.2.1 y.1 i∧WayTo g y.2.2.2 y.2.1 i∧y.1≠y.2.1∧y.2.2.1.length≤g.length∧y.2.2.2.length≤g.length
theorem toE {w:List Int} {n b:Int} {i:Nat} (hw:w.length<100000) (hn:-1000000000≤n+b∧n+b≤1000000000):y52 w n (i:Int) b=some (w++[(i:Int)],n+b):=by
 unfold y52 jcd
 rw[if_pos (by omega),jad,if_pos (by simp only[List.length_cons,List.length_nil]; omega),jaC (by omega)]
theorem jA3 (h:Rg g l) {j i:Nat} (hj:j<g.length) (hi:i<g.length) (e:l.getD j 0=(i:Int)) (X:List (List NC)) (X':List Int) (A0:List (List NC)) (O0:List Int)
  (hA:A0.length=g.length) (hO:O0.length=g.length) (hd:∀p u:Nat,p<j→l.getD p 0=(u:Int)→jcC g A0 O0 u p) (hn:∀p u:Nat,j≤p→p<g.length→l.getD p 0=(u:Int)→O0.getD u 0=0)
  (hz:(nL g i 2).length=0→jcC g A0 O0 i j) (hcon:∀p u:Nat,p<j→l.getD p 0=(u:Int)→jni g O0 u (nL g u 2).length∧((nL g u 2).length=0→O0.getD u 0=0)) :
  ∃y y',jag (y22 g l ((j:Int),X)) big ((0:Int),A0)=some y∧jag (y8 g ((j:Int),X') (l,true)) big ((0:Int),O0)=some y' ∧
   ((∃d,y=.inl d∧y'=.inl ()∧jlk g d)∨(∃A O,y=.inr A∧y'=.inr O∧InvW g l (j+1) A O)):=by
 have hgn:=h.n
 have hL:=h.len
 have hfr:=h.fw.fr i hi
 obtain⟨hal,_⟩:=jgc (h.ok i hi)
 obtain⟨ra,rd1,rd2⟩:=jlj (h.ok i hi)
 refine jnh (fun m (x:Int × List (List NC)) (x':Int × List Int)=>∃k:Nat,k+m=(nL g i 2).length∧x.1=(k:Int)∧x'.1=(k:Int)∧x.2.length=g.length∧x'.2.length=g.length ∧
   (∀p u:Nat,p<j→l.getD p 0=(u:Int)→jcC g x.2 x'.2 u p)∧(∀p u:Nat,j+1≤p→p<g.length→l.getD p 0=(u:Int)→x'.2.getD u 0=0)∧(((nL g i 2).length=0∨0<k)→jcC g x.2 x'.2 i j) ∧
   (∀p u:Nat,p<j→l.getD p 0=(u:Int)→jni g x'.2 u (nL g u 2).length∧((nL g u 2).length=0→x'.2.getD u 0=0))∧jni g x'.2 i k∧((nL g i 2).length=0→x'.2.getD i 0=0)) _ (fun m x x' hr=>?_) (nL g i 2).length _ _ big big (by have:big=18446744073709551616:=rfl; omega) (by have:big=18446744073709551616:=rfl; omega)
   ⟨0,by omega,rfl,rfl,hA,hO,hd,fun p u h1 h2 h3=>hn p u (by omega) h2 h3,fun hh=>hz (by omega),hcon,fun k v hk=>absurd hk (by omega),fun _=>hn j i (Nat.le_refl _) hj e⟩
 obtain⟨a,A⟩:=x
 obtain⟨a',O⟩:=x'
 obtain⟨k,hk,h1,h2,hA,hO,hd,hn,hg,hcn,hci,hcz⟩:=hr
 obtain rfl:a=(k:Int):=h1
 obtain rfl:a'=(k:Int):=h2
 have hA:A.length=g.length:=hA
 have hO:O.length=g.length:=hO
 by_cases hkn:k<(nL g i 2).length
 ·obtain⟨j',u,hj',hu,e2,e3⟩:=h.from hj e hi hkn
  obtain⟨g1,g2,g3⟩:=hd j' u hj' e3
  have g1:nI A u 1=O.getD u 0:=g1
  have g2:WayTo g (nL A u 0) (nI A u 1) u:=g2
  have g3:(nL A u 0).length≤j' + 1:=g3
  obtain⟨b1,b2,b3,b4⟩:=g2.bound h.ok
  have hak:=ra k (by omega)
  have hway:=WayTo.on g2 hi hkn e2
  generalize hc:(nL g i 3).getD k 0=c at *
  have hto:y52 (nL A u 0) (nI A u 1) (i:Int) (wrap IntKind.i64 (c+nI g i 5))=some (nL A u 0++[(i:Int)],nI A u 1+(c+nI g i 5)):=by
   rw[jaC (by omega),toE (by omega) (by omega)]
  have hlen2:(nL A u 0++[(i:Int)]).length≤j+1:=by
   simp only[List.length_append,List.length_cons,List.length_nil]; omega
  have hwr:wrap IntKind.i64 (wrap IntKind.i64 (O.getD u 0+c)+nI g i 5)=nI A u 1+(c+nI g i 5):=by
   rw[←g1,jaC (x:=nI A u 1+c) (by omega),jaC (by omega)]
   omega
  have hne:∀p v:Nat,p<j→l.getD p 0=(v:Int)→i≠v:=fun p v hp hv=>jk2 h hj hp e hv
  have hnext:∀(A':List (List NC)) (O':List Int),A'.length=g.length→O'.length=g.length→(∀v:Nat,i≠v→nI A' v 1=nI A v 1∧nL A' v 0=nL A v 0∧O'.getD v 0=O.getD v 0)→jcC g A' O' i j→jni g O' i (k+1) →
    ∃k':Nat,k' + (m-1)=(nL g i 2).length∧(k:Int)+1=(k':Int)∧(k:Int)+1=(k':Int)∧A'.length=g.length∧O'.length=g.length ∧
     (∀p u:Nat,p<j→l.getD p 0=(u:Int)→jcC g A' O' u p)∧(∀p u:Nat,j+1≤p→p<g.length→l.getD p 0=(u:Int)→O'.getD u 0=0)∧(((nL g i 2).length=0∨0<k')→jcC g A' O' i j) ∧
     (∀p u:Nat,p<j→l.getD p 0=(u:Int)→jni g O' u (nL g u 2).length∧((nL g u 2).length=0→O'.getD u 0=0))∧jni g O' i k'∧((nL g i 2).length=0→O'.getD i 0=0):=by
   intro A' O' q1 q2 q3 q4 q5
   refine⟨k+1,by omega,by omega,by omega,q1,q2,fun p v hp hv=>?_,fun p v hp hp2 hv=>?_,fun _=>q4,fun p v hp hv=>?_,q5,fun hh=>absurd hkn (by omega)⟩
   rotate_left 2
   ·have hvn:v<g.length:=by
     obtain⟨v',hv',ev,_⟩:=h.at (j:=p) (by omega)
     rw[hv]at ev
     omega
    obtain⟨c1,c2⟩:=hcn p v hp hv
    refine⟨fun k2 v2 hk2 hv2=>?_,fun hh=>by rw[(q3 v (hne p v hp hv)).2.2]; exact c2 hh⟩
    obtain⟨j3,u3,hj3,_,e5,e6⟩:=h.from (by omega) hv hvn hk2
    have hu3:u3=v2:=by
     rw[hv2]at e5
     omega
    subst hu3
    rw[(q3 v (hne p v hp hv)).2.2,(q3 u3 (hne j3 u3 (by omega) e6)).2.2]
    exact c1 k2 u3 hk2 hv2
   ·obtain⟨z1,z2,z3⟩:=q3 v (hne p v hp hv)
    obtain⟨w1,w2,w3⟩:=hd p v hp hv
    exact⟨by rw[z1,z3]; exact w1,by rw[z1,z2]; exact w2,by rw[z2]; exact w3⟩
   ·have:i≠v:=fun ev=>by
     have:=jk2 h hp2 (j':=j) (by omega) hv e
     omega
    rw[(q3 v this).2.2]
    exact hn p v hp hp2 hv
  by_cases hk0:k=0
  ·right
   subst hk0
   have q:=hnext (A.set i (jpK (nL A u 0++[(i:Int)]) (nI A u 1+(c+nI g i 5)))) (O.set i (nI A u 1+(c+nI g i 5))) (by simp[hA]) (by simp[hO]) (fun v hv=>by
    rw[joK _ _ _ _ _ (by omega),joL _ _ _ _ _ (by omega),jaY _ _ _ _ _ (by omega),if_neg hv,if_neg hv,if_neg hv]; exact⟨rfl,rfl,rfl⟩) (by
    unfold jcC
    rw[joK _ _ _ _ _ (by omega),joL _ _ _ _ _ (by omega),jaY _ _ _ _ _ (by omega),if_pos rfl,if_pos rfl,if_pos rfl]
    exact⟨rfl,hway,hlen2⟩) (fun k2 v2 hk2 hv2=>by
    obtain rfl:k2=0:=by omega
    rw[e2]at hv2
    obtain rfl:u=v2:=by omega
    have hiu:=hne j' u hj' e3
    rw[jaY _ _ _ _ _ (by omega),jaY _ _ _ _ _ (by omega),if_neg hiu,if_pos rfl,hc,←g1])
   refine⟨m-1,(_,A.set i (jpK (nL A u 0++[(i:Int)]) (nI A u 1+(c+nI g i 5)))),(_,O.set i (nI A u 1+(c+nI g i 5))),by omega,?_,?_,q⟩
   ·unfold y22
    simp only[Int.toNat_natCast,e,e2,hc]
    rw[if_pos (by omega),if_pos (by omega),if_pos hkn,if_pos (by omega),if_pos (by omega),if_pos (by omega),if_pos (by omega),hto,jad,if_pos (by simp),if_pos (by omega),if_pos (by omega),jaC (by omega)]
    rfl
   ·unfold y8
    simp only[Int.toNat_natCast,e,e2,hc]
    rw[if_pos (by omega),if_pos (by omega),if_pos hkn,if_pos (by omega),if_pos (by omega),if_pos (by omega),if_pos (by omega),if_neg (by omega),if_pos (by omega),if_pos (by omega),if_pos (by omega),if_pos (by omega),hwr,jaC (by omega)]
  ·obtain⟨w1,w2,w3⟩:=hg (.inr (by omega))
   have w1:nI A i 1=O.getD i 0:=w1
   by_cases hcl:nI A u 1+(c+nI g i 5)=nI A i 1
   ·right
    have q:=hnext A (O.set i (nI A u 1+(c+nI g i 5))) hA (by simp[hO]) (fun v hv=>by
     rw[jaY _ _ _ _ _ (by omega),if_neg hv]; exact⟨rfl,rfl,rfl⟩) (by
     unfold jcC
     rw[jaY _ _ _ _ _ (by omega),if_pos rfl]
     exact⟨hcl.symm,w2,w3⟩) (fun k2 v2 hk2 hv2=>by
     obtain⟨j3,u3,hj3,_,e5,e6⟩:=h.from hj e hi (show k2<(nL g i 2).length by omega)
     have hu3:u3=v2:=by
      rw[hv2]at e5
      omega
     subst hu3
     have hiu:=hne j3 u3 hj3 e6
     rw[jaY _ _ _ _ _ (by omega),jaY _ _ _ _ _ (by omega),if_neg hiu,if_pos rfl,hcl,w1]
     by_cases hk3:k2=k
     ·subst hk3
      rw[e2]at hv2
      obtain rfl:u=u3:=by omega
      rw[hc,←g1,hcl,w1]
     ·exact hci k2 u3 (by omega) hv2)
    refine⟨m-1,(_,A),(_,O.set i (nI A u 1+(c+nI g i 5))),by omega,?_,?_,q⟩
    ·unfold y22
     simp only[Int.toNat_natCast,e,e2,hc]
     rw[if_pos (by omega),if_pos (by omega),if_pos hkn,if_pos (by omega),if_pos (by omega),if_pos (by omega),if_pos (by omega),hto,jad,if_neg (by simp; omega),if_pos (by omega),if_pos (by omega),if_neg (by simp[hcl]),jaC (by omega)]
    ·unfold y8
     simp only[Int.toNat_natCast,e,e2,hc]
     rw[if_pos (by omega),if_pos (by omega),if_pos hkn,if_pos (by omega),if_pos (by omega),if_pos (by omega),if_pos (by omega),if_pos (by omega),if_pos (by omega),if_pos (by omega),if_pos (by omega),if_pos (by omega),hwr,if_neg (by rw[hcl,w1]; simp),if_pos (by omega),if_pos (by omega),if_pos (by omega),if_pos (by omega),jaC (by omega)]
   ·left
    refine⟨.inl (nI A i 1,nI A u 1+(c+nI g i 5),nL A i 0,nL A u 0++[(i:Int)]),.inl (),?_,?_,.inl ⟨_,rfl,rfl,i,w2,hway,fun hh=>hcl hh.symm,by show(nL A i 0).length≤_; have:(nL A i 0).length≤j+1:=w3; omega,by show(nL A u 0++[(i:Int)]).length≤_; omega⟩⟩
    ·unfold y22
     simp only[Int.toNat_natCast,e,e2,hc]
     rw[if_pos (by omega),if_pos (by omega),if_pos hkn,if_pos (by omega),if_pos (by omega),if_pos (by omega),if_pos (by omega),hto,jad,if_neg (by simp; omega),if_pos (by omega),if_pos (by omega),if_pos (by simpa using hcl),if_pos (by omega),if_pos (by omega)]
    ·unfold y8
     simp only[Int.toNat_natCast,e,e2,hc]
     rw[if_pos (by omega),if_pos (by omega),if_pos hkn,if_pos (by omega),if_pos (by omega),if_pos (by omega),if_pos (by omega),if_pos (by omega),if_pos (by omega),if_pos (by omega),if_pos (by omega),if_pos (by omega),hwr,if_pos (by rw[←w1]; simpa using hcl)]
 ·left
  have hd':∀p u:Nat,p<j+1→l.getD p 0=(u:Int)→jcC g A O u p:=fun p u hp hu=>by
   by_cases hpj:p=j
   ·subst hpj
    rw[e]at hu
    obtain rfl:i=u:=by omega
    exact hg (by omega)
   ·exact hd p u (by omega) hu
  refine⟨.inr A,.inr O,?_,?_,.inr ⟨A,O,rfl,rfl,⟨hA,hO,hd',hn,fun p u hp hu=>by
   by_cases hpj:p=j
   ·subst hpj
    rw[e]at hu
    obtain rfl:i=u:=by omega
    obtain rfl:k=(nL g i 2).length:=by omega
    exact⟨hci,hcz⟩
   ·exact hcn p u (by omega) hu⟩⟩⟩
  ·unfold y22
   simp only[Int.toNat_natCast,e]
   rw[if_neg (by omega)]
  ·unfold y8
   simp only[Int.toNat_natCast,e]
   rw[if_neg (by omega)]
theorem waysL (h:Rg g l):∃y y',jag (y23 g l) big ((0:Int),List.replicate g.length (jpK [] 0))=some y∧jag (y11 g (l,true)) big ((0:Int),List.replicate g.length 0)=some y' ∧
   ((∃d,y=.inl d∧y'=.inl ()∧jlk g d)∨(∃A O,y=.inr A∧y'=.inr O∧InvW g l g.length A O)):=by
 have hgn:=h.n
 have hL:=h.len
 refine jnh (fun m (x:Int × List (List NC)) (x':Int × List Int)=>∃j:Nat,j+m=g.length∧x.1=(j:Int)∧x'.1=(j:Int)∧InvW g l j x.2 x'.2) _ (fun m x x' hr=>?_) g.length _ _ big big (by have:big=18446744073709551616:=rfl; omega) (by have:big=18446744073709551616:=rfl; omega)
   ⟨0,by omega,rfl,rfl,by simp,by simp,fun p u hp=>absurd hp (by omega),fun p u _ _ _=>by
    simp only[List.getD,List.getElem?_replicate]
    split<;>rfl,fun p u hp=>absurd hp (by omega)⟩
 obtain⟨a,A⟩:=x
 obtain⟨a',O⟩:=x'
 obtain⟨j,hj,h1,h2,hI⟩:=hr
 obtain rfl:a=(j:Int):=h1
 obtain rfl:a'=(j:Int):=h2
 obtain⟨hA,hO,hd,hn,hcn⟩:=hI
 have hA:A.length=g.length:=hA
 have hO:O.length=g.length:=hO
 by_cases hjn:j<g.length
 ·obtain⟨i,hi,e,_⟩:=h.at hjn
  obtain⟨_,hk0⟩:=jgc (h.ok i hi)
  have hne:∀p v:Nat,p<j→l.getD p 0=(v:Int)→i≠v:=fun p v hp hv=>jk2 h hjn hp e hv
  have hstart:∃A0,(jag (y22 g l ((j:Int),A)) big ((0:Int),A0)).bind (y99 ((j:Int),A))=y23 g l ((j:Int),A)∧A0.length=g.length∧(∀p u:Nat,p<j→l.getD p 0=(u:Int)→jcC g A0 O u p)∧((nL g i 2).length=0→jcC g A0 O i j):=by
   by_cases hz:(nL g i 2).length=0
   ·refine⟨A.set i (jpK [(i:Int)] 0),?_,by simp[hA],fun p v hp hv=>?_,fun _=>?_⟩
    ·unfold y23
     simp only[Int.toNat_natCast,e]
     rw[if_pos (by omega),if_pos (by omega),if_pos (by omega),if_pos (by omega),if_pos hi,if_pos (by simp[hz]),if_pos (by omega),if_pos (by omega)]
     rfl
    ·obtain⟨w1,w2,w3⟩:=hd p v hp hv
     unfold jcC
     rw[joK _ _ _ _ _ (by omega),joL _ _ _ _ _ (by omega),if_neg (hne p v hp hv),if_neg (hne p v hp hv)]
     exact⟨w1,w2,w3⟩
    ·unfold jcC
     rw[joK _ _ _ _ _ (by omega),joL _ _ _ _ _ (by omega),if_pos rfl,if_pos rfl]
     exact⟨(hn j i (Nat.le_refl _) hjn e).symm,.one hi (hk0.1 hz),by simp⟩
   ·refine⟨A,?_,hA,hd,fun hz'=>absurd hz' hz⟩
    unfold y23
    simp only[Int.toNat_natCast,e]
    rw[if_pos (by omega),if_pos (by omega),if_pos (by omega),if_pos (by omega),if_pos hi,if_neg (by simp; intro hh; exact hz (by simp[hh]))]
  obtain⟨A0,hs1,hs2,hs3,hs4⟩:=hstart
  have hR:(jag (y8 g ((j:Int),O) (l,true)) big ((0:Int),O)).bind (y128 ((j:Int),O))=y11 g (l,true) ((j:Int),O):=by
   unfold y11
   simp only[Int.toNat_natCast,e]
   rw[if_pos (by omega),if_pos (by omega),if_pos (by omega),if_pos (by omega),if_pos hi]
  obtain⟨y,y',q1,q2,q3⟩:=jA3 h hjn hi e A O A0 O hs2 hO hs3 hn hs4 hcn
  rw[q1]at hs1
  rw[q2]at hR
  rcases q3 with ⟨d,rfl,rfl,hd'⟩|⟨A1,O1,rfl,rfl,hI1⟩
  ·left
   exact⟨.inl d,.inl (),by rw[←hs1]; rfl,by rw[←hR]; rfl,.inl ⟨d,rfl,rfl,hd'⟩⟩
  ·right
   refine⟨m-1,((j:Int)+1,A1),((j:Int)+1,O1),by omega,?_,?_,j+1,by omega,by simp,by simp,hI1⟩
   ·rw[←hs1]
    show y119 _ _=_
    unfold y119
    rw[jaC (by simp; omega)]
   ·rw[←hR]
    show y108 _ _=_
    unfold y108
    rw[jaC (by simp; omega)]
 ·left
  obtain rfl:j=g.length:=by omega
  refine⟨.inr A,.inr O,?_,?_,.inr ⟨A,O,rfl,rfl,⟨hA,hO,hd,hn,hcn⟩⟩⟩
  ·unfold y23
   rw[if_neg (by show ¬(g.length:Int)<_; omega)]
  ·unfold y11
   rw[if_neg (by show ¬(g.length:Int)<(l.length:Int); omega)]
theorem jwk (h:Rg g l) (nm nm':ByteArray) :
  (∃d,y9 nm g l=some ([],d.2.2.1,d.1,d.2.2.2,d.2.1,true)∧y6 nm' g=some ([],false)∧jlk g d) ∨
  (∃A O,y9 nm g l=some (A,[],0,[],0,false)∧y6 nm' g=some (O,true)∧InvW g l g.length A O):=by
 have hn:=h.n
 obtain⟨y,y',h1,h2,h3⟩:=waysL h
 unfold y9 y6
 rw[jha h.fw,h.ord,jad,if_pos (by omega),if_pos (by omega),Int.toNat_natCast,h2]
 have h1:jag (y23 g l) big ((0:Int),List.replicate g.length [NC.r (Cont.ints IntKind.i64 []),NC.d (D.i IntKind.i64 (0:Int))])=some y:=h1
 rw[h1]
 rcases h3 with ⟨d,rfl,rfl,hd⟩|⟨A,O,rfl,rfl,hI⟩
 ·exact .inl ⟨d,rfl,rfl,hd⟩
 ·exact .inr ⟨A,O,rfl,rfl,hI⟩
end Go.Sh
end

section
namespace Go.Sh
open Go Go.Proofs Go.RowKit Go.Sx
variable {g:List (List NC)} {l:List Int}
theorem joM (h:Rg g l) {nm:ByteArray} (hs:nm.size<1000) (h0:(cg nm g).2=0):ja9 nm g=none∧jbD nm g=some (nm,l,0) :=
 ⟨by rw[jss h.fw hs h0,h.ord],jyJ h.fw hs h0 h.ord⟩
theorem jt7 (h:Rg g l) {nm:ByteArray} (hs:nm.size<1000) (h0:(cg nm g).2=0) (nm':ByteArray) :
  (∃d,y44 nm g=some (d.2.2.1,d.2.2.2,0)∧y6 nm' g=some ([],false)∧jlk g d)∨∃O,y44 nm g=some ([],[],12)∧y6 nm' g=some (O,true):=by
 obtain⟨h1,h2⟩:=joM h hs h0
 unfold y44 jji jdC jen
 rw[h1,h2]
 show(∃d,Option.bind (y9 nm g l) _=_∧_)∨∃O,Option.bind (y9 nm g l) _=_∧_
 rcases jwk h nm nm' with ⟨d,e1,e2,hd⟩|⟨A,O,e1,e2,hI⟩
 ·rw[e1,e2]; exact .inl ⟨d,rfl,rfl,hd⟩
 ·rw[e1,e2]; exact .inr ⟨O,rfl,rfl⟩
theorem jqh (hw:Fw g) {nm:ByteArray} {e:Int} (he:0<e) (h:ja9 nm g=some e):y44 nm g=some ([],[],e):=by
 unfold y44 jji jdC
 rw[h]
 show Option.bind (Option.bind (some e) _) _=_
 simp only[jad]
 rw[if_pos he,jad,jz8 he]
theorem cpL2 (i:Nat):nL (cpU g) i 2=nL g i 2:=(cpL i).1
theorem cpL3 (i:Nat):nL (cpU g) i 3=nL g i 3:=(cpL i).2.1
theorem cpI5 (i:Nat):nI (cpU g) i 5=nI g i 5:=(cpI i).2.1
theorem juO (hw:Fw g) (nm:ByteArray):y6 nm (cpU g)=y6 nm g:=by
 have e1:y8 (cpU g)=y8 g:=by
  funext a b c
  unfold y8
  simp only[cpL2,cpL3,cpI5]
 have e0:y11 (cpU g)=y11 g:=by
  funext a b
  unfold y11
  rw[e1,jbZ]
 unfold y6
 rw[jha (jvP hw),jha hw,jk3,jbZ,e0]
end Go.Sh
end

section
namespace Go.Sh
open Go Go.Proofs Go.RowKit Go.Sx
open Go.IntKind (wrap)
def y109:List SV:=[.c (.p [.d,.x (.st [.s,.i .i64,.ints .i64,.ints .i64,.ints .i64,.i .i64,.recs 5,.i .i64] []),.r (.ints .i64 [])]),.c (.r (.ints .i64 []))]
def y21 (u27:List (List NC)) (w:List Int) (x0:(Int × Int)):Option ((Int × Int) ⊕ (Int ⊕ Int)) :=
 if x0.2<(↑w.length:Int)then
  if 0≤x0.2∧x0.2<(↑w.length:Int)then
  if Int.toNat x0.2<List.length w then
   Option.bind (y28 (List.getD w x0.2.toNat (0:Int)) (0:Int) (wrap .i64 ((↑u27.length:Int)-1))) fun r0 =>
   if(!r0)=true then
   some (.inr ((.inl (6:Int))))
   else
   if 0≤List.getD w x0.2.toNat (0:Int)∧List.getD w x0.2.toNat 0<(↑u27.length:Int)then
    if Int.toNat (List.getD w x0.2.toNat (0:Int))<List.length u27 then
    if(x0.2==0)=true then
     if(nI u27 (Int.toNat (List.getD w x0.2.toNat (0:Int))) (1:Nat)!=0)=true then
     some (.inr ((.inl (15:Int))))
     else
     some (.inl ((x0.1,wrap .i64 (x0.2+1))))
    else
     if 0≤wrap .i64 (x0.2-1)∧wrap .i64 (x0.2-1)<(↑w.length:Int)then
     if Int.toNat (wrap .i64 (x0.2-1))<List.length w then
      Option.bind (y18 (nL u27 (Int.toNat (List.getD w x0.2.toNat (0:Int))) (2:Nat)) (List.getD w (Int.toNat (wrap .i64 (x0.2-1))) (0:Int))) fun r1 =>
      if r1<0 then
      some (.inr ((.inl (23:Int))))
      else
      if 0≤r1∧r1<(↑(List.length (nL u27 (Int.toNat (List.getD w x0.2.toNat (0:Int))) (3:Nat))):Int)then
       if Int.toNat r1<List.length (nL u27 (Int.toNat (List.getD w x0.2.toNat (0:Int))) (3:Nat))then
       some (.inl ((wrap .i64 (x0.1+wrap .i64 (List.getD (nL u27 (Int.toNat (List.getD w x0.2.toNat (0:Int))) (3:Nat)) r1.toNat 0+nI u27 (Int.toNat (List.getD w x0.2.toNat (0:Int))) (5:Nat))),wrap .i64 (x0.2+1))))
       else none
      else none
     else none
     else none
    else none
   else none
  else none
  else none
 else
  some (.inr (.inr x0.1))
def jin (u5:Int):Option (Int × Int) :=
 some (((0:Int),u5))
def jio (u6:Int):Option (Int × Int) :=
 some ((u6,0))
def y93:(Int ⊕ Int)→Option (Int × Int) :=
 (Sum.elim (jin) (jio))
def y12 (u38:ByteArray) (u27:List (List NC)) (u28 w:List Int):Option (Int × Int) :=
 if((↑w.length:Int)==0)=true then
  some (((0:Int),10))
 else
  if(↑w.length:Int)>(↑u27.length:Int)then
  some (((0:Int),10))
  else
  Option.bind (jag (y21 u27 w) big (((0:Int),0))) (y93)
def y110:List Lf→Option GT
 |[.d (.s u38),.x (.st [.s,.i .i64,.ints .i64,.ints .i64,.ints .i64,.i .i64,.recs 5,.i .i64] u27),.r (.ints .i64 u28),.r (.ints .i64 w)]=>some (.leaf (ok (y12 u38 u27 u28 w)) [.c (.d (.i .i64 ((val (y12 u38 u27 u28 w)).1))),.c (.d (.i .i64 ((val (y12 u38 u27 u28 w)).2)))])
 |_=>none
abbrev sp_90:jaa→jaa:=jaG 90 true (jai y109 y110)
abbrev y158 (u38:ByteArray) (u27:List (List NC)) (u28 w:List Int) (r:Int × Int):Lp ((Int × Int) × Nat) (Int × Int) (Int ⊕ Int) (Int × Int) (Int × Int) :=
 ⟨fun z=>z.1,fun z=>z.2,fun z x n=>(x,n),fun z=>y21 u27 w,fun z=>y93,fun z=>top r,fun z=>0,[.c fun _=>0,.c fun vv=>vv.1.1,.c fun _=>(↑w.length:Int),.c fun vv=>vv.1.2,.c fun _=>u38,.c fun _=>w,.c fun _=>u27,.c fun _=>u28]⟩
def jjM (u38:ByteArray) (u27:List (List NC)) (u28 w:List Int) (r:Int × Int):Sk (top r) (Option.bind (jag (y21 u27 w) big (((0:Int),0))) (y93)) :=
 .loop (y158 u38 u27 u28 w r) (fun kk=>(((0:Int),0),big)) fun z0 =>
 .br
 (.ob (.ob (.obT (.call (.brB
 (.exit (.obT (.obT (.rc))))
 (.obT (.ob (.ob (.brB
 (.brB
 (.exit (.obT (.obT (.rc))))
 (.next))
 (.ob (.ob (.call (.br
 (.exit (.obT (.obT (.rc))))
 (.ob (.ob (.next))))))))))))))))
 (.exit (.obT (.obT (.rc))))
def jll (u38:ByteArray) (u27:List (List NC)) (u28 w:List Int) (r:Int × Int):Sk (top r) (y12 u38 u27 u28 w) :=
 .brB
 (.obT (.obT (.rc)))
 (.obT (.br
 (.obT (.obT (.rc)))
 (jjM u38 u27 u28 w r)))
theorem jjN (u38:ByteArray) (u27:List (List NC)) (u28 w:List Int) (r:Int × Int) (h:Option.bind (y12 u38 u27 u28 w) some=some r):ja5 Tryz.f90 ((sp_84 (sp_134 sp0))) (fun gs id _=>match id with
 |0=>some ⟨(Int × Int) × Nat,fun z=>⟨[(0,.w (.c (.p 2 0 1 0))),(1,.w (.c (.o 3))),(6,.w (.c (.d (.i .i64 z.1.1)))),(25,.w (.c (.o 3))),(26,.w (.c (.d (.i .i64 ((↑w.length:Int)))))),(27,.w (.c (.d (.i .i64 z.1.2))))],[(2,.ebox [.d (.s u38),.o 0,.o 1]),(3,.ext (.ints .i64 w)),(0,.xext (XC.st [NK.s,NK.i .i64,NK.ints .i64,NK.ints .i64,NK.ints .i64,NK.i .i64,NK.recs (5:Nat),NK.i .i64] u27)),(1,.ext (.ints .i64 u28))],4⟩,fun z=>(y158 u38 u27 u28 w r).inv z,fun z=>z.2⟩
 |_=>none) (ja0 y109 [.d (.s u38),.x (.st [.s,.i .i64,.ints .i64,.ints .i64,.ints .i64,.i .i64,.recs 5,.i .i64] u27),.r (.ints .i64 u28),.r (.ints .i64 w)]) [.c (.d (.i .i64 r.1)),.c (.d (.i .i64 r.2))] :=
 Sk.vc (jll u38 u27 u28 w r) (by kernel_rfl) h
theorem jjO:jaf Tryz.prog 90 true (jai y109 y110):=by
 refine jav (sp:=(sp_84 (sp_134 sp0))) (fn:=Tryz.f90) (body:=bodyOf Tryz.f90) mixed (sp_84_ok (sp_134_ok jau)) Tryz.func90 (by kernel_rfl) (by kernel_rfl) fun ls t h ho b hb=>?_
 unfold y110 at h
 split at h
 ·rename_i u38 u27 u28 w
  cases h
  obtain rfl:=jaL hb
  exact⟨Nat.le_of_ble_eq_true (by kernel_rfl),_,_,jjN u38 u27 u28 w _ (jap ho)⟩
 ·cases h
theorem sp_90_ok {sp:jaa} (h:jac Tryz.prog sp):jac Tryz.prog (sp_90 sp):=jar jjO h
end Go.Sh
end

section
namespace Go.Sh
open Go Go.Proofs Go.RowKit Go.Sx
open Go.IntKind (wrap)
def y131:List SV:=[.a [.d,.x (.st [.s,.i .i64,.ints .i64,.ints .i64,.ints .i64,.i .i64,.recs 5,.i .i64] [])],.a [.r (.ints .i64 []),.r (.ints .i64 [])]]
def y27 (u4:ByteArray) (u1:List (List NC)) (w0 w1:List Int):Option (Int × Int × Int) :=
 if(jji u4 u1)=true then
  Option.bind (jdC u4 u1) fun r0 =>
  some (((0:Int),0,nzI r0))
 else
  Option.bind (jen u4 u1) fun r1 =>
  Option.bind (y12 u4 u1 r1 w0) fun r2 =>
  if(r2.2 != 0)=true then
  some (((0:Int),0,r2.2))
  else
  Option.bind (y12 u4 u1 r1 w1) fun r3 =>
  if(r3.2 != 0)=true then
   some (((0:Int),0,r3.2))
  else
   if 0≤wrap .i64 ((↑w0.length:Int)-1)∧wrap .i64 ((↑w0.length:Int)-1)<(↑w0.length:Int)then
   if Int.toNat (wrap .i64 ((↑w0.length:Int)-1))<List.length w0 then
    if 0≤wrap .i64 ((↑w1.length:Int)-1)∧wrap .i64 ((↑w1.length:Int)-1)<(↑w1.length:Int)then
    if Int.toNat (wrap .i64 ((↑w1.length:Int)-1))<List.length w1 then
     if(List.getD w0 (Int.toNat (wrap .i64 ((↑w0.length:Int)-1))) (0:Int)!=List.getD w1 (Int.toNat (wrap .i64 ((↑w1.length:Int)-1))) (0:Int))=true then
     some (((0:Int),0,13))
     else
     if(r2.1==r3.1)=true then
      some (((0:Int),0,20))
     else
      some ((r2.1,r3.1,0))
    else none
    else none
   else none
   else none
def y132:List Lf→Option GT
 |[.d (.s u4),.x (.st [.s,.i .i64,.ints .i64,.ints .i64,.ints .i64,.i .i64,.recs 5,.i .i64] u1),.r (.ints .i64 w0),.r (.ints .i64 w1)]=>some (.leaf (ok (y27 u4 u1 w0 w1)) [.s [.d (.i .i64 ((val (y27 u4 u1 w0 w1)).1)),.d (.i .i64 ((val (y27 u4 u1 w0 w1)).2.1))],.c (.d (.i .i64 ((val (y27 u4 u1 w0 w1)).2.2)))])
 |_=>none
abbrev sp_36:jaa→jaa:=jaG 36 true (jai y131 y132)
def jnj (u4:ByteArray) (u1:List (List NC)) (w0 w1:List Int) (r:Int × Int × Int):Sk (top r) (y27 u4 u1 w0 w1) :=
 .brB
 (.call (.obT (.obT (.rc))))
 (.call (.obC ((0:Int)≤0∧(0:Int)<2) (by decide) (.call (.obC ((0:Int)≤0∧(0:Int)<2) (by decide) (.obC (true=true) (by decide) (.brB
 (.obT (.obT (.rc)))
 (.obC ((0:Int)≤1∧(1:Int)<2) (by decide) (.call (.obC ((0:Int)≤1∧(1:Int)<2) (by decide) (.obC (true=true) (by decide) (.brB
 (.obT (.obT (.rc)))
 (.obC ((0:Int)≤0∧(0:Int)<2) (by decide) (.obC ((0:Int)≤0∧(0:Int)<2) (by decide) (.ob (.ob (.obC ((0:Int)≤1∧(1:Int)<2) (by decide) (.obC ((0:Int)≤1∧(1:Int)<2) (by decide) (.ob (.ob (.brB
 (.obT (.obT (.rc)))
 (.obC ((0:Int)≤0∧(0:Int)<2) (by decide) (.obC ((0:Int)≤1∧(1:Int)<2) (by decide) (.brB
 (.obT (.obT (.rc)))
 (.obT (.obT (.rc))))))))))))))))))))))))))
theorem jlY (u4:ByteArray) (u1:List (List NC)) (w0 w1:List Int) (r:Int × Int × Int) (h:Option.bind (y27 u4 u1 w0 w1) some=some r):ja5 Tryz.f36 ((sp_80 (sp_90 sp0))) (fun _ _ _=>none) (ja0 y131 [.d (.s u4),.x (.st [.s,.i .i64,.ints .i64,.ints .i64,.ints .i64,.i .i64,.recs 5,.i .i64] u1),.r (.ints .i64 w0),.r (.ints .i64 w1)]) [.s [.d (.i .i64 r.1),.d (.i .i64 r.2.1)],.c (.d (.i .i64 r.2.2))] :=
 Sk.vc (jnj u4 u1 w0 w1 r) (by kernel_rfl) h
theorem jlZ:jaf Tryz.prog 36 true (jai y131 y132):=by
 refine jav (sp:=(sp_80 (sp_90 sp0))) (fn:=Tryz.f36) (body:=bodyOf Tryz.f36) mixed (sp_80_ok (sp_90_ok jau)) Tryz.func36 (by kernel_rfl) (by kernel_rfl) fun ls t h ho b hb=>?_
 unfold y132 at h
 split at h
 ·rename_i u4 u1 w0 w1
  cases h
  obtain rfl:=jaL hb
  exact⟨Nat.le_of_ble_eq_true (by kernel_rfl),_,_,jlY u4 u1 w0 w1 _ (jap ho)⟩
 ·cases h
theorem sp_36_ok {sp:jaa} (h:jac Tryz.prog sp):jac Tryz.prog (sp_36 sp):=jar jlZ h
end Go.Sh
end

section
namespace Go.Sh
open Go Go.Proofs Go.RowKit Go.Sx
open Go.IntKind (wrap)
def y111:List SV:=[.a [.d,.x (.st [.s,.i .i64,.ints .i64,.ints .i64,.ints .i64,.i .i64,.recs 5,.i .i64] [])],.a [.r (.ints .i64 []),.r (.ints .i64 [])]]
def y33 (u1:List (List NC)) (w0:List Int) (x0:Int × Int) (x1:(Int × Int)):Option ((Int × Int) ⊕ Int) :=
 if x1.1<(↑(List.length (nL u1 (Int.toNat (List.getD w0 x0.1.toNat (0:Int))) (2:Nat))):Int)then
  if 0≤x1.1∧x1.1<(↑(List.length (nL u1 (Int.toNat (List.getD w0 x0.1.toNat (0:Int))) (2:Nat))):Int)then
  if Int.toNat x1.1<List.length (nL u1 (Int.toNat (List.getD w0 x0.1.toNat (0:Int))) (2:Nat))then
   if 0≤wrap .i64 (x0.1-1)∧wrap .i64 (x0.1-1)<(↑w0.length:Int)then
   if Int.toNat (wrap .i64 (x0.1-1))<List.length w0 then
    if(List.getD (nL u1 (Int.toNat (List.getD w0 x0.1.toNat (0:Int))) (2:Nat)) x1.1.toNat (0:Int)==List.getD w0 (Int.toNat (wrap .i64 (x0.1-1))) (0:Int))=true then
    if 0≤x1.1∧x1.1<(↑(List.length (nL u1 (Int.toNat (List.getD w0 x0.1.toNat (0:Int))) (3:Nat))):Int)then
     if Int.toNat x1.1<List.length (nL u1 (Int.toNat (List.getD w0 x0.1.toNat (0:Int))) (3:Nat))then
     some (.inl ((wrap .i64 (x1.1+1),wrap .i64 (wrap .i64 (x1.2+List.getD (nL u1 (Int.toNat (List.getD w0 x0.1.toNat (0:Int))) (3:Nat)) x1.1.toNat (0:Int))+nI u1 (Int.toNat (List.getD w0 x0.1.toNat (0:Int))) (5:Nat)))))
     else none
    else none
    else
    some (.inl ((wrap .i64 (x1.1+1),x1.2)))
   else none
   else none
  else none
  else none
 else
  some (.inr x1.2)
def y94 (x0:Int × Int) (u29:Int):Option ((Int × Int) ⊕ (Int ⊕ Int)) :=
 some (.inl ((wrap .i64 (x0.1+1),u29)))
def y13 (u1:List (List NC)) (w0:List Int) (x0:(Int × Int)):Option ((Int × Int) ⊕ (Int ⊕ Int)) :=
 if x0.1<(↑w0.length:Int)then
  if 0≤x0.1∧x0.1<(↑w0.length:Int)then
  if Int.toNat x0.1<List.length w0 then
   Option.bind (y7 (List.getD w0 x0.1.toNat (0:Int)) (0:Int) (wrap .i64 ((↑u1.length:Int)-1))) fun r0 =>
   if(!r0)=true then
   some (.inr ((.inl (6:Int))))
   else
   if 0≤x0.1∧x0.1<(↑w0.length:Int)then
    if Int.toNat x0.1<List.length w0 then
    if 0≤List.getD w0 x0.1.toNat (0:Int)∧List.getD w0 x0.1.toNat 0<(↑u1.length:Int)then
     if Int.toNat (List.getD w0 x0.1.toNat (0:Int))<List.length u1 then
     if(x0.1==0)=true then
      if(nI u1 (Int.toNat (List.getD w0 x0.1.toNat (0:Int))) (1:Nat)!=0)=true then
      some (.inr ((.inl (15:Int))))
      else
      some (.inl ((wrap .i64 (x0.1+1),x0.2)))
     else
      if 0≤wrap .i64 (x0.1-1)∧wrap .i64 (x0.1-1)<(↑w0.length:Int)then
      if Int.toNat (wrap .i64 (x0.1-1))<List.length w0 then
       Option.bind (jdz (nL u1 (Int.toNat (List.getD w0 x0.1.toNat (0:Int))) (2:Nat)) (List.getD w0 (Int.toNat (wrap .i64 (x0.1-1))) (0:Int))) fun r1 =>
       if(!r1)=true then
       some (.inr ((.inl (23:Int))))
       else
       Option.bind (jag (y33 u1 w0 x0) big (((0:Int),x0.2))) (y94 x0)
      else none
      else none
     else none
    else none
    else none
   else none
  else none
  else none
 else
  some (.inr (.inr x0.2))
def jip (u1:List (List NC)) (w0 w1:List Int) (u5:Int):Option (Int × Int × Int) :=
 some (((0:Int),0,u5))
def y159 (u1:List (List NC)) (w1:List Int) (x2:Int × Int) (x3:(Int × Int)):Option ((Int × Int) ⊕ Int) :=
 if x3.1<(↑(List.length (nL u1 (Int.toNat (List.getD w1 x2.1.toNat (0:Int))) (2:Nat))):Int)then
  if 0≤x3.1∧x3.1<(↑(List.length (nL u1 (Int.toNat (List.getD w1 x2.1.toNat (0:Int))) (2:Nat))):Int)then
  if Int.toNat x3.1<List.length (nL u1 (Int.toNat (List.getD w1 x2.1.toNat (0:Int))) (2:Nat))then
   if 0≤wrap .i64 (x2.1-1)∧wrap .i64 (x2.1-1)<(↑w1.length:Int)then
   if Int.toNat (wrap .i64 (x2.1-1))<List.length w1 then
    if(List.getD (nL u1 (Int.toNat (List.getD w1 x2.1.toNat (0:Int))) (2:Nat)) x3.1.toNat (0:Int)==List.getD w1 (Int.toNat (wrap .i64 (x2.1-1))) (0:Int))=true then
    if 0≤x3.1∧x3.1<(↑(List.length (nL u1 (Int.toNat (List.getD w1 x2.1.toNat (0:Int))) (3:Nat))):Int)then
     if Int.toNat x3.1<List.length (nL u1 (Int.toNat (List.getD w1 x2.1.toNat (0:Int))) (3:Nat))then
     some (.inl ((wrap .i64 (x3.1+1),wrap .i64 (wrap .i64 (x3.2+List.getD (nL u1 (Int.toNat (List.getD w1 x2.1.toNat (0:Int))) (3:Nat)) x3.1.toNat (0:Int))+nI u1 (Int.toNat (List.getD w1 x2.1.toNat (0:Int))) (5:Nat)))))
     else none
    else none
    else
    some (.inl ((wrap .i64 (x3.1+1),x3.2)))
   else none
   else none
  else none
  else none
 else
  some (.inr x3.2)
def y160 (x2:Int × Int) (u70:Int):Option ((Int × Int) ⊕ (Int ⊕ Int)) :=
 some (.inl ((wrap .i64 (x2.1+1),u70)))
def y95 (u1:List (List NC)) (w1:List Int) (x2:(Int × Int)):Option ((Int × Int) ⊕ (Int ⊕ Int)) :=
 if x2.1<(↑w1.length:Int)then
  if 0≤x2.1∧x2.1<(↑w1.length:Int)then
  if Int.toNat x2.1<List.length w1 then
   Option.bind (y7 (List.getD w1 x2.1.toNat (0:Int)) (0:Int) (wrap .i64 ((↑u1.length:Int)-1))) fun r2 =>
   if(!r2)=true then
   some (.inr ((.inl (6:Int))))
   else
   if 0≤x2.1∧x2.1<(↑w1.length:Int)then
    if Int.toNat x2.1<List.length w1 then
    if 0≤List.getD w1 x2.1.toNat (0:Int)∧List.getD w1 x2.1.toNat 0<(↑u1.length:Int)then
     if Int.toNat (List.getD w1 x2.1.toNat (0:Int))<List.length u1 then
     if(x2.1==0)=true then
      if(nI u1 (Int.toNat (List.getD w1 x2.1.toNat (0:Int))) (1:Nat)!=0)=true then
      some (.inr ((.inl (15:Int))))
      else
      some (.inl ((wrap .i64 (x2.1+1),x2.2)))
     else
      if 0≤wrap .i64 (x2.1-1)∧wrap .i64 (x2.1-1)<(↑w1.length:Int)then
      if Int.toNat (wrap .i64 (x2.1-1))<List.length w1 then
       Option.bind (jdz (nL u1 (Int.toNat (List.getD w1 x2.1.toNat (0:Int))) (2:Nat)) (List.getD w1 (Int.toNat (wrap .i64 (x2.1-1))) (0:Int))) fun r3 =>
       if(!r3)=true then
       some (.inr ((.inl (23:Int))))
       else
       Option.bind (jag (y159 u1 w1 x2) big (((0:Int),x2.2))) (y160 x2)
      else none
      else none
     else none
    else none
    else none
   else none
  else none
  else none
 else
  some (.inr (.inr x2.2))
def jiq (w0 w1:List Int) (u6 u69:Int):Option (Int × Int × Int) :=
 some (((0:Int),0,u69))
def y80 (w0 w1:List Int) (u6 u71:Int):Option (Int × Int × Int) :=
 if 0≤wrap .i64 ((↑w0.length:Int)-1)∧wrap .i64 ((↑w0.length:Int)-1)<(↑w0.length:Int)then
  if Int.toNat (wrap .i64 ((↑w0.length:Int)-1))<List.length w0 then
  if 0≤wrap .i64 ((↑w1.length:Int)-1)∧wrap .i64 ((↑w1.length:Int)-1)<(↑w1.length:Int)then
   if Int.toNat (wrap .i64 ((↑w1.length:Int)-1))<List.length w1 then
   if(List.getD w0 (Int.toNat (wrap .i64 ((↑w0.length:Int)-1))) (0:Int)!=List.getD w1 (Int.toNat (wrap .i64 ((↑w1.length:Int)-1))) (0:Int))=true then
    some (((0:Int),0,13))
   else
    if(u6==u71)=true then
    some (((0:Int),0,20))
    else
    some ((u6,u71,0))
   else none
  else none
  else none
 else none
def y161 (w0 w1:List Int) (u6:Int):(Int ⊕ Int)→Option (Int × Int × Int) :=
 (Sum.elim (jiq w0 w1 u6) (y80 w0 w1 u6))
def y81 (u1:List (List NC)) (w0 w1:List Int) (u6:Int):Option (Int × Int × Int) :=
 if((↑w1.length:Int)==0)=true then
  some (((0:Int),0,10))
 else
  if(↑w1.length:Int)>(↑u1.length:Int)then
  some (((0:Int),0,10))
  else
  Option.bind (jag (y95 u1 w1) big (((0:Int),0))) (y161 w0 w1 u6)
def y96 (u1:List (List NC)) (w0 w1:List Int):(Int ⊕ Int)→Option (Int × Int × Int) :=
 (Sum.elim (jip u1 w0 w1) (y81 u1 w0 w1))
def y19 (u4:ByteArray) (u1:List (List NC)) (w0 w1:List Int):Option (Int × Int × Int) :=
 if((↑w0.length:Int)==0)=true then
  some (((0:Int),0,10))
 else
  if(↑w0.length:Int)>(↑u1.length:Int)then
  some (((0:Int),0,10))
  else
  Option.bind (jag (y13 u1 w0) big (((0:Int),0))) (y96 u1 w0 w1)
def y112:List Lf→Option GT
 |[.d (.s u4),.x (.st [.s,.i .i64,.ints .i64,.ints .i64,.ints .i64,.i .i64,.recs 5,.i .i64] u1),.r (.ints .i64 w0),.r (.ints .i64 w1)]=>some (.leaf (ok (y19 u4 u1 w0 w1)) [.s [.d (.i .i64 ((val (y19 u4 u1 w0 w1)).1)),.d (.i .i64 ((val (y19 u4 u1 w0 w1)).2.1))],.c (.d (.i .i64 ((val (y19 u4 u1 w0 w1)).2.2)))])
 |_=>none
abbrev sp_35:jaa→jaa:=jaG 35 true (jai y111 y112)
abbrev y97 (u4:ByteArray) (u1:List (List NC)) (w0 w1:List Int) (r:Int × Int × Int):Lp ((Int × Int) × Nat) (Int × Int) (Int ⊕ Int) (Int × Int × Int) (Int × Int × Int) :=
 ⟨fun z=>z.1,fun z=>z.2,fun z x n=>(x,n),fun z=>y13 u1 w0,fun z=>y96 u1 w0 w1,fun z=>top r,fun z=>0,[.c fun _=>0,.c fun _=>0,.c fun _=>0,.c fun _=>0,.c fun _=>(0:Int),.c fun vv=>vv.1.1,.c fun _=>u4,.c fun _=>(0:Int),.c fun _=>(0:Int),.c fun vv=>vv.1.2,.c fun _=>(0:Int),.c fun _=>u1,.c fun _=>w0,.c fun _=>w1]⟩
abbrev y162 (u4:ByteArray) (u1:List (List NC)) (w0 w1:List Int) (r:Int × Int × Int) (m1:Nat):Lp ((Int × Int) × Nat × (Int × Int) × Nat) (Int × Int) Int (((Int × Int) ⊕ (Int ⊕ Int))) (Int × Int × Int) :=
 ⟨fun z=>z.2.2.1,fun z=>z.2.2.2,fun z x n=>(z.1,z.2.1,x,n),fun z=>y33 u1 w0 z.1,fun z=>y94 z.1,fun z=>(y97 u4 u1 w0 w1 r).cx (z.1,m1),fun z=>z.2.1,[.c fun _=>0,.c fun _=>0,.c fun _=>0,.c fun _=>0,.c fun _=>(0:Int),.c fun vv=>vv.1.1,.c fun _=>0,.c fun vv=>vv.2.2.1.1,.c fun _=>u4,.c fun _=>(0:Int),.c fun _=>(0:Int),.c fun vv=>vv.2.2.1.2,.c fun _=>(0:Int),.c fun vv=>nS u1 (Int.toNat (List.getD w0 vv.1.1.toNat (0:Int))) (0:Nat),.c fun vv=>nI u1 (Int.toNat (List.getD w0 vv.1.1.toNat (0:Int))) (1:Nat),.c fun vv=>nI u1 (Int.toNat (List.getD w0 vv.1.1.toNat (0:Int))) (5:Nat),.c fun vv=>nI u1 (Int.toNat (List.getD w0 vv.1.1.toNat (0:Int))) (7:Nat),.c fun _=>u1,.c fun _=>w0,.c fun _=>w1,.c fun vv=>nL u1 (Int.toNat (List.getD w0 vv.1.1.toNat (0:Int))) (2:Nat),.c fun vv=>nL u1 (Int.toNat (List.getD w0 vv.1.1.toNat (0:Int))) (3:Nat),.c fun vv=>nL u1 (Int.toNat (List.getD w0 vv.1.1.toNat (0:Int))) (4:Nat),.c fun vv=>nR u1 (Int.toNat (List.getD w0 vv.1.1.toNat (0:Int))) (6:Nat)]⟩
abbrev y98 (u4:ByteArray) (u1:List (List NC)) (w0 w1:List Int) (r:Int × Int × Int):Lp (Int × (Int × Int) × Nat) (Int × Int) (Int ⊕ Int) (Int × Int × Int) (Int × Int × Int) :=
 ⟨fun z=>z.2.1,fun z=>z.2.2,fun z x n=>(z.1,x,n),fun z=>y95 u1 w1,fun z=>y161 w0 w1 z.1,fun z=>top r,fun z=>0,[.c fun _=>0,.c fun _=>0,.c fun _=>0,.c fun _=>0,.c fun _=>(1:Int),.c fun vv=>vv.2.1.1,.c fun _=>u4,.c fun _=>(0:Int),.c fun _=>(0:Int),.c fun vv=>vv.1,.c fun vv=>vv.2.1.2,.c fun _=>u1,.c fun _=>w0,.c fun _=>w1]⟩
abbrev y163 (u4:ByteArray) (u1:List (List NC)) (w0 w1:List Int) (r:Int × Int × Int) (m1:Nat):Lp (Int × (Int × Int) × Nat × (Int × Int) × Nat) (Int × Int) Int (((Int × Int) ⊕ (Int ⊕ Int))) (Int × Int × Int) :=
 ⟨fun z=>z.2.2.2.1,fun z=>z.2.2.2.2,fun z x n=>(z.1,z.2.1,z.2.2.1,x,n),fun z=>y159 u1 w1 z.2.1,fun z=>y160 z.2.1,fun z=>(y98 u4 u1 w0 w1 r).cx ((z.1,z.2.1,m1)),fun z=>z.2.2.1,[.c fun _=>0,.c fun _=>0,.c fun _=>0,.c fun _=>0,.c fun _=>(1:Int),.c fun vv=>vv.2.1.1,.c fun _=>0,.c fun vv=>vv.2.2.2.1.1,.c fun _=>u4,.c fun _=>(0:Int),.c fun _=>(0:Int),.c fun vv=>vv.1,.c fun vv=>vv.2.2.2.1.2,.c fun vv=>nS u1 (Int.toNat (List.getD w1 vv.2.1.1.toNat (0:Int))) (0:Nat),.c fun vv=>nI u1 (Int.toNat (List.getD w1 vv.2.1.1.toNat (0:Int))) (1:Nat),.c fun vv=>nI u1 (Int.toNat (List.getD w1 vv.2.1.1.toNat (0:Int))) (5:Nat),.c fun vv=>nI u1 (Int.toNat (List.getD w1 vv.2.1.1.toNat (0:Int))) (7:Nat),.c fun _=>u1,.c fun _=>w0,.c fun _=>w1,.c fun vv=>nL u1 (Int.toNat (List.getD w1 vv.2.1.1.toNat (0:Int))) (2:Nat),.c fun vv=>nL u1 (Int.toNat (List.getD w1 vv.2.1.1.toNat (0:Int))) (3:Nat),.c fun vv=>nL u1 (Int.toNat (List.getD w1 vv.2.1.1.toNat (0:Int))) (4:Nat),.c fun vv=>nR u1 (Int.toNat (List.getD w1 vv.2.1.1.toNat (0:Int))) (6:Nat)]⟩
def jjP (u4:ByteArray) (u1:List (List NC)) (w0 w1:List Int) (r:Int × Int × Int):Sk (top r) (Option.bind (jag (y13 u1 w0) big (((0:Int),0))) (y96 u1 w0 w1)) :=
 .loop (y97 u4 u1 w0 w1 r) (fun kk=>(((0:Int),0),big)) fun z0 =>
 .obC ((0:Int)≤0∧(0:Int)<2) (by decide) (.obT (.br
 (.obC ((0:Int)≤0∧(0:Int)<2) (by decide) (.obT (.ob (.ob (.call (.brB
 (.exit (.obT (.obT (.rc))))
 (.obC ((0:Int)≤0∧(0:Int)<2) (by decide) (.obT (.ob (.ob (.ob (.ob (.brB
 (.brB
 (.exit (.obT (.obT (.rc))))
 (.next))
 (.obC ((0:Int)≤0∧(0:Int)<2) (by decide) (.obT (.ob (.ob (.call (.brB
 (.exit (.obT (.obT (.rc))))
 (.loop (y162 u4 u1 w0 w1 r z0.2) (fun kk=>(z0.1,kk,((0:Int),z0.1.2),big)) fun z1 =>
 .br
 (.ob (.ob (.obC ((0:Int)≤0∧(0:Int)<2) (by decide) (.obT (.ob (.ob (.brB
 (.obC ((0:Int)≤0∧(0:Int)<2) (by decide) (.obC (true=true) (by decide) (.ob (.ob (.obC ((0:Int)≤0∧(0:Int)<2) (by decide) (.obC (true=true) (by decide) (.next)))))))
 (.next))))))))
 (.exit (.next))))))))))))))))))))))
 (.exit (.obC ((0:Int)≤1∧(1:Int)<2) (by decide) (.obT (.brB
 (.obT (.obT (.rc)))
 (.obC ((0:Int)≤1∧(1:Int)<2) (by decide) (.obT (.br
 (.obT (.obT (.rc)))
 (.loop (y98 u4 u1 w0 w1 r) (fun kk=>(z0.1.2,((0:Int),0),big)) fun z0 =>
 .obC ((0:Int)≤1∧(1:Int)<2) (by decide) (.obT (.br
 (.obC ((0:Int)≤1∧(1:Int)<2) (by decide) (.obT (.ob (.ob (.call (.brB
 (.exit (.obT (.obT (.rc))))
 (.obC ((0:Int)≤1∧(1:Int)<2) (by decide) (.obT (.ob (.ob (.ob (.ob (.brB
 (.brB
 (.exit (.obT (.obT (.rc))))
 (.next))
 (.obC ((0:Int)≤1∧(1:Int)<2) (by decide) (.obT (.ob (.ob (.call (.brB
 (.exit (.obT (.obT (.rc))))
 (.loop (y163 u4 u1 w0 w1 r z0.2.2) (fun kk=>(z0.1,z0.2.1,kk,((0:Int),z0.2.1.2),big)) fun z1 =>
 .br
 (.ob (.ob (.obC ((0:Int)≤1∧(1:Int)<2) (by decide) (.obT (.ob (.ob (.brB
 (.obC ((0:Int)≤1∧(1:Int)<2) (by decide) (.obC (true=true) (by decide) (.ob (.ob (.obC ((0:Int)≤1∧(1:Int)<2) (by decide) (.obC (true=true) (by decide) (.next)))))))
 (.next))))))))
 (.exit (.next))))))))))))))))))))))
 (.exit (.obC ((0:Int)≤0∧(0:Int)<2) (by decide) (.obC ((0:Int)≤0∧(0:Int)<2) (by decide) (.ob (.ob (.obC ((0:Int)≤1∧(1:Int)<2) (by decide) (.obC ((0:Int)≤1∧(1:Int)<2) (by decide) (.ob (.ob (.brB
 (.obT (.obT (.rc)))
 (.obC ((0:Int)≤0∧(0:Int)<2) (by decide) (.obC ((0:Int)≤1∧(1:Int)<2) (by decide) (.brB
 (.obT (.obT (.rc)))
 (.obT (.obT (.rc))))))))))))))))))))))))))))
def jlm (u4:ByteArray) (u1:List (List NC)) (w0 w1:List Int) (r:Int × Int × Int):Sk (top r) (y19 u4 u1 w0 w1) :=
 .obC ((0:Int)≤0∧(0:Int)<2) (by decide) (.obT (.brB
 (.obT (.obT (.rc)))
 (.obC ((0:Int)≤0∧(0:Int)<2) (by decide) (.obT (.br
 (.obT (.obT (.rc)))
 (jjP u4 u1 w0 w1 r))))))
theorem jjQ (u4:ByteArray) (u1:List (List NC)) (w0 w1:List Int) (r:Int × Int × Int) (h:Option.bind (y19 u4 u1 w0 w1) some=some r):ja5 Tryz.f35 ((sp_45 (sp_48 sp0))) (fun gs id st=>match id with
 |2=>(match isI st 7 (0:Int)with|true=>some ⟨(Int × Int) × Nat,fun z=>⟨[(2,.w (.c (.p 3 0 1 0))),(3,.w (.c (.p 4 0 1 0))),(4,.w (.c (.p 5 0 1 0))),(6,.w (.c (.p 6 0 1 0))),(7,.w (.c (.d (.i .i64 0)))),(8,.w (.c (.d (.i .i64 z.1.1))))],[(3,.box 24 [.d (.s u4),.o 0]),(4,.box 49 [.o 1,.o 2]),(5,.box 52 [.d (.i .i64 0),.d (.i .i64 0)]),(6,.box 52 [.d (.i .i64 z.1.2),.d (.i .i64 0)]),(0,.xext (XC.st [NK.s,NK.i .i64,NK.ints .i64,NK.ints .i64,NK.ints .i64,NK.i .i64,NK.recs (5:Nat),NK.i .i64] u1)),(1,.ext (.ints .i64 w0)),(2,.ext (.ints .i64 w1))],7⟩,fun z=>(y97 u4 u1 w0 w1 r).inv z,fun z=>z.2⟩|false=>some ⟨Int × (Int × Int) × Nat,fun z=>⟨[(2,.w (.c (.p 3 0 1 0))),(3,.w (.c (.p 4 0 1 0))),(4,.w (.c (.p 5 0 1 0))),(6,.w (.c (.p 6 0 1 0))),(7,.w (.c (.d (.i .i64 1)))),(8,.w (.c (.d (.i .i64 z.2.1.1))))],[(3,.box 24 [.d (.s u4),.o 0]),(4,.box 49 [.o 1,.o 2]),(5,.box 52 [.d (.i .i64 0),.d (.i .i64 0)]),(6,.box 52 [.d (.i .i64 z.1),.d (.i .i64 z.2.1.2)]),(0,.xext (XC.st [NK.s,NK.i .i64,NK.ints .i64,NK.ints .i64,NK.ints .i64,NK.i .i64,NK.recs (5:Nat),NK.i .i64] u1)),(1,.ext (.ints .i64 w0)),(2,.ext (.ints .i64 w1))],7⟩,fun z=>(y98 u4 u1 w0 w1 r).inv z,fun z=>z.2.2⟩)
 |4=>(match isI st 7 (0:Int)with|true=>some ⟨(Int × Int) × Nat × (Int × Int) × Nat,fun z=>⟨[(2,.w (.c (.p 3 0 1 0))),(3,.w (.c (.p 4 0 1 0))),(4,.w (.c (.p 5 0 1 0))),(6,.w (.c (.p 6 0 1 0))),(7,.w (.c (.d (.i .i64 0)))),(8,.w (.c (.d (.i .i64 (z.1.1))))),(9,.w (.c (.p 7 0 1 0))),(10,.w (.c (.d (.i .i64 z.2.2.1.1))))],[(3,.box 24 [.d (.s u4),.o 0]),(4,.box 49 [.o 1,.o 2]),(5,.box 52 [.d (.i .i64 0),.d (.i .i64 0)]),(6,.box 52 [.d (.i .i64 z.2.2.1.2),.d (.i .i64 0)]),(7,.box 118 [.d (.s (nS u1 (Int.toNat (List.getD w0 z.1.1.toNat (0:Int))) (0:Nat))),.d (.i .i64 (nI u1 (Int.toNat (List.getD w0 z.1.1.toNat (0:Int))) (1:Nat))),.o 8,.o 9,.o 10,.d (.i .i64 (nI u1 (Int.toNat (List.getD w0 z.1.1.toNat (0:Int))) (5:Nat))),.o 11,.d (.i .i64 (nI u1 (Int.toNat (List.getD w0 z.1.1.toNat (0:Int))) (7:Nat)))]),(0,.xext (XC.st [NK.s,NK.i .i64,NK.ints .i64,NK.ints .i64,NK.ints .i64,NK.i .i64,NK.recs (5:Nat),NK.i .i64] u1)),(1,.ext (.ints .i64 w0)),(2,.ext (.ints .i64 w1)),(8,.ext (.ints .i64 (nL u1 (Int.toNat (List.getD w0 z.1.1.toNat (0:Int))) (2:Nat)))),(9,.ext (.ints .i64 (nL u1 (Int.toNat (List.getD w0 z.1.1.toNat (0:Int))) (3:Nat)))),(10,.ext (.ints .i64 (nL u1 (Int.toNat (List.getD w0 z.1.1.toNat (0:Int))) (4:Nat)))),(11,.ext (.recs 5 (nR u1 (Int.toNat (List.getD w0 z.1.1.toNat (0:Int))) (6:Nat))))],12⟩,fun z=>(y162 u4 u1 w0 w1 r (gs.getD 0 0)).inv z,fun z=>z.2.2.2⟩|false=>some ⟨Int × (Int × Int) × Nat × (Int × Int) × Nat,fun z=>⟨[(2,.w (.c (.p 3 0 1 0))),(3,.w (.c (.p 4 0 1 0))),(4,.w (.c (.p 5 0 1 0))),(6,.w (.c (.p 6 0 1 0))),(7,.w (.c (.d (.i .i64 1)))),(8,.w (.c (.d (.i .i64 (z.2.1.1))))),(9,.w (.c (.p 7 0 1 0))),(10,.w (.c (.d (.i .i64 z.2.2.2.1.1))))],[(3,.box 24 [.d (.s u4),.o 0]),(4,.box 49 [.o 1,.o 2]),(5,.box 52 [.d (.i .i64 0),.d (.i .i64 0)]),(6,.box 52 [.d (.i .i64 z.1),.d (.i .i64 z.2.2.2.1.2)]),(7,.box 118 [.d (.s (nS u1 (Int.toNat (List.getD w1 z.2.1.1.toNat (0:Int))) (0:Nat))),.d (.i .i64 (nI u1 (Int.toNat (List.getD w1 z.2.1.1.toNat (0:Int))) (1:Nat))),.o 8,.o 9,.o 10,.d (.i .i64 (nI u1 (Int.toNat (List.getD w1 z.2.1.1.toNat (0:Int))) (5:Nat))),.o 11,.d (.i .i64 (nI u1 (Int.toNat (List.getD w1 z.2.1.1.toNat (0:Int))) (7:Nat)))]),(0,.xext (XC.st [NK.s,NK.i .i64,NK.ints .i64,NK.ints .i64,NK.ints .i64,NK.i .i64,NK.recs (5:Nat),NK.i .i64] u1)),(1,.ext (.ints .i64 w0)),(2,.ext (.ints .i64 w1)),(8,.ext (.ints .i64 (nL u1 (Int.toNat (List.getD w1 z.2.1.1.toNat (0:Int))) (2:Nat)))),(9,.ext (.ints .i64 (nL u1 (Int.toNat (List.getD w1 z.2.1.1.toNat (0:Int))) (3:Nat)))),(10,.ext (.ints .i64 (nL u1 (Int.toNat (List.getD w1 z.2.1.1.toNat (0:Int))) (4:Nat)))),(11,.ext (.recs 5 (nR u1 (Int.toNat (List.getD w1 z.2.1.1.toNat (0:Int))) (6:Nat))))],12⟩,fun z=>(y163 u4 u1 w0 w1 r (gs.getD 0 0)).inv z,fun z=>z.2.2.2.2⟩)
 |_=>none) (ja0 y111 [.d (.s u4),.x (.st [.s,.i .i64,.ints .i64,.ints .i64,.ints .i64,.i .i64,.recs 5,.i .i64] u1),.r (.ints .i64 w0),.r (.ints .i64 w1)]) [.s [.d (.i .i64 r.1),.d (.i .i64 r.2.1)],.c (.d (.i .i64 r.2.2))] :=
 Sk.vc (jlm u4 u1 w0 w1 r) (by kernel_rfl) h
theorem jjR:jaf Tryz.prog 35 true (jai y111 y112):=by
 refine jav (sp:=(sp_45 (sp_48 sp0))) (fn:=Tryz.f35) (body:=bodyOf Tryz.f35) mixed (sp_45_ok (sp_48_ok jau)) Tryz.func35 (by kernel_rfl) (by kernel_rfl) fun ls t h ho b hb=>?_
 unfold y112 at h
 split at h
 ·rename_i u4 u1 w0 w1
  cases h
  obtain rfl:=jaL hb
  exact⟨Nat.le_of_ble_eq_true (by kernel_rfl),_,_,jjQ u4 u1 w0 w1 _ (jap ho)⟩
 ·cases h
theorem sp_35_ok {sp:jaa} (h:jac Tryz.prog sp):jac Tryz.prog (sp_35 sp):=jar jjR h
end Go.Sh
end

section
namespace Go.Sh
open Go Go.Proofs Go.RowKit Go.Sx
open Go.IntKind (wrap)
variable {g:List (List NC)} {l:List Int}
def stp (g:List (List NC)) (w:List Int) (k:Nat) (n:Int):Int ⊕ Int :=
 if(!inB (w.getD k 0) 0 ((g.length:Int)-1))=true then .inl 6
 else if k=0 then(if(nI g (w.getD k 0).toNat 1 != 0)=true then .inl 15 else .inr n)
 else match(nL g (w.getD k 0).toNat 2).findIdx? (fun x=>w.getD (k-1) 0==x)with
  |none=>.inl 23
  |some j=>.inr (n+((nL g (w.getD k 0).toNat 3).getD j 0+nI g (w.getD k 0).toNat 5))
def jbw (g:List (List NC)) (w:List Int):Nat→Nat→Int→Int ⊕ Int
 |0,_,n=>.inr n
 |m+1,k,n=>match stp g w k n with
  | .inl e=>.inl e
  | .inr n'=>jbw g w m (k+1) n'
theorem jxK (hall:∀i,i<g.length→ja6 g i=0) {w:List Int} {k:Nat} {n n':Int} (h:stp g w k n=.inr n'):∃i:Nat,i<g.length∧w.getD k 0=(i:Int)∧n≤n'∧n'≤n+128:=by
 unfold stp at h
 split at h
 ·cases h
 ·rename_i h1
  have h1':inB (w.getD k 0) 0 ((g.length:Int)-1)=true:=by simpa using h1
  simp only[inB,Bool.and_eq_true,decide_eq_true_eq]at h1'
  obtain⟨i,hi⟩:∃i:Nat,w.getD k 0=(i:Int):=⟨(w.getD k 0).toNat,by omega⟩
  have hin:i<g.length:=by omega
  refine⟨i,hin,hi,?_⟩
  rw[hi,Int.toNat_natCast]at h
  split at h
  ·split at h
   ·cases h
   ·cases h; omega
  ·cases hf:(nL g i 2).findIdx? (fun x=>w.getD (k-1) 0==x)with
   |none=>rw[hf]at h; cases h
   |some j =>
    rw[hf]at h
    cases h
    rw[List.findIdx?_eq_some_iff_getElem]at hf
    obtain⟨hj,_⟩:=hf
    obtain⟨r1,r2,r3⟩:=jlj (hall i hin)
    have:=r1 j (by have:=(jgc (hall i hin)).1; omega)
    omega
theorem jnk {X:Type} {body:X→Option (X ⊕ (Int ⊕ Int))} (hall:∀i,i<g.length→ja6 g i=0) (w:List Int) (hw:w.length<1000) (F:Nat→Int→X)
  (h:∀k n,k<w.length→0≤n→n≤128*(k:Int)→body (F k n)=match stp g w k n with | .inl e=>some (.inr (.inl e)) | .inr n'=>some (.inl (F (k+1) n')))
  (h3:∀n,body (F w.length n)=some (.inr (.inr n))) :
  ∀(m k:Nat) (n:Int) (N:Nat),k+m=w.length→m<N→0≤n→n≤128*(k:Int)→jag body N (F k n)=some (jbw g w m k n)
 |m,k,n,0,_,hN,_,_=>absurd hN (by omega)
 |0,k,n,N+1,hk,_,_,_=>by
  unfold jag
  obtain rfl:k=w.length:=by omega
  rw[h3]
  rfl
 |m+1,k,n,N+1,hk,hN,h1,h2=>by
  unfold jag jbw
  rw[h k n (by omega) h1 h2]
  cases hs:stp g w k n with
  |inl e=>rfl
  |inr n' =>
   obtain⟨_,_,_,h4,h5⟩:=jxK hall hs
   exact jnk hall w hw F h h3 m (k+1) n' N (by omega) (by omega) (by omega) (by omega)
theorem jBd (s:List Int) (v:Int) (hl:s.length<1000):y18 s v=some (match s.findIdx? (fun x=>v==x)with|some j=>(j:Int)|none=>-1):=by
 unfold y18
 rw[jbr (body:=y10 s v) s 0 (fun x=>v==x) (fun i=>.inl (i:Int)) (.inr ()) (by omega) (fun i hi hp=>?_) (fun i hi hp=>?_) (by
  unfold y10
  rw[if_neg (by omega)])]
 ·cases s.findIdx? (fun x=>v==x)<;>rfl
 ·unfold y10; simp only[Int.toNat_natCast]
  rw[if_pos (by omega),if_pos (by omega),if_pos hi,if_pos hp]
 ·unfold y10; simp only[Int.toNat_natCast]
  rw[if_pos (by omega),if_pos (by omega),if_pos hi,if_neg (by rw[hp]; exact Bool.false_ne_true),jaC (by omega)]
theorem jzg (h:Rg g l) (w:List Int) (hw:w.length<1000):jag (y21 g w) big ((0:Int),(0:Int))=some (jbw g w w.length 0 0):=by
 have hn:=h.n
 refine jnk (body:=y21 g w) h.ok w hw (fun k n=>(n,(k:Int))) (fun k n hk h1 h2=>?_) (fun n=>by
  unfold y21
  rw[if_neg (by show ¬(w.length:Int)<_; omega)]) w.length 0 0 big (by omega) (by have:big=18446744073709551616:=rfl; omega) (by omega) (by omega)
 unfold y21
 simp only[Int.toNat_natCast]
 rw[if_pos (by omega),if_pos (by omega),if_pos hk,jaC (x:=(g.length:Int)-1) (by omega),jci,jad]
 cases hb:inB (w.getD k 0) 0 ((g.length:Int)-1)with
 |false =>
  have:stp g w k n=.inl 6:=by unfold stp; rw[hb]; rfl
  rw[this]; rfl
 |true =>
  have hb':=hb
  simp only[inB,Bool.and_eq_true,decide_eq_true_eq]at hb'
  obtain⟨i,hi⟩:∃i:Nat,w.getD k 0=(i:Int):=⟨(w.getD k 0).toNat,by omega⟩
  have hin:i<g.length:=by omega
  have hfr:=h.fw.fr i hin
  obtain⟨r1,r2,r3⟩:=jlj (h.ok i hin)
  have hal:=(jgc (h.ok i hin)).1
  have hst:stp g w k n=if k=0 then(if(nI g i 1 != 0)=true then .inl 15 else .inr n)else match(nL g i 2).findIdx? (fun x=>w.getD (k-1) 0==x)with
    |none=>.inl 23
    |some j=>.inr (n+((nL g i 3).getD j 0+nI g i 5)):=by
   unfold stp
   rw[hb,hi,Int.toNat_natCast]
   rfl
  rw[hst]
  rw[hi,if_neg (by simp),if_pos (by omega),Int.toNat_natCast,if_pos hin]
  by_cases hk0:k=0
  ·subst hk0
   rw[if_pos (by rfl),if_pos rfl]
   split
   ·rfl
   ·rw[jaC (by omega)]; rfl
  ·rw[if_neg (by simp; omega),if_neg hk0,jaC (x:=(k:Int)-1) (by omega),if_pos (by omega),if_pos (by omega),show((k:Int)-1).toNat=k-1 by omega,jBd _ _ (by omega),jad]
   cases hf:(nL g i 2).findIdx? (fun x=>w.getD (k-1) 0==x)with
   |none=>rw[if_pos (by show(-1:Int)<0; omega)]
   |some j =>
    have hf':=hf
    rw[List.findIdx?_eq_some_iff_getElem]at hf'
    obtain⟨hj,_⟩:=hf'
    have:=r1 j (by omega)
    dsimp only
    rw[if_neg (by omega),if_pos (by omega),Int.toNat_natCast,if_pos (by omega),jaC (x:=(nL g i 3).getD j 0+nI g i 5) (by omega),jaC (by omega),jaC (by omega)]
    rfl
theorem joN (h:Rg g l) {i j j':Nat} (hi:i<g.length) (hj:j<(nL g i 2).length) (hj':j'<(nL g i 2).length) (e:(nL g i 2).getD j 0=(nL g i 2).getD j' 0):j=j':=by
 have hd:=(jli (h.ok i hi)).2.2.1
 unfold jfI at hd
 rw[List.any_eq_false]at hd
 have key:∀a b:Nat,a<b→b<(nL g i 2).length→(nL g i 2).getD a 0≠(nL g i 2).getD b 0:=fun a b hab hb ee=>by
  apply hd b (List.mem_range.2 hb)
  rw[List.any_eq_true]
  refine⟨(nL g i 2).getD a 0,?_,by simpa using ee⟩
  rw[List.mem_iff_getElem]
  exact⟨a,by simp; omega,by rw[List.getElem_take,jhb 0 (by omega)]⟩
 rcases Nat.lt_trichotomy j j' with hh|hh|hh
 ·exact absurd e (key j j' hh hj')
 ·exact hh
 ·exact absurd e.symm (key j' j hh hj)
theorem jsD (h:Rg g l) (w:List Int) (hw:w.length<1000):jag (y13 g w) big ((0:Int),(0:Int))=some (jbw g w w.length 0 0):=by
 have hn:=h.n
 refine jnk (body:=y13 g w) h.ok w hw (fun k n=>((k:Int),n)) (fun k n hk h1 h2=>?_) (fun n=>by
  unfold y13
  rw[if_neg (by show ¬(w.length:Int)<_; omega)]) w.length 0 0 big (by omega) (by have:big=18446744073709551616:=rfl; omega) (by omega) (by omega)
 unfold y13
 simp only[Int.toNat_natCast]
 rw[if_pos (by omega),if_pos (by omega),if_pos hk,jaC (x:=(g.length:Int)-1) (by omega),jbb,jad]
 cases hb:inB (w.getD k 0) 0 ((g.length:Int)-1)with
 |false =>
  have:stp g w k n=.inl 6:=by unfold stp; rw[hb]; rfl
  rw[this]; rfl
 |true =>
  have hb':=hb
  simp only[inB,Bool.and_eq_true,decide_eq_true_eq]at hb'
  obtain⟨i,hi⟩:∃i:Nat,w.getD k 0=(i:Int):=⟨(w.getD k 0).toNat,by omega⟩
  have hin:i<g.length:=by omega
  have hfr:=h.fw.fr i hin
  obtain⟨r1,r2,r3⟩:=jlj (h.ok i hin)
  have hal:=(jgc (h.ok i hin)).1
  have hst:stp g w k n=if k=0 then(if(nI g i 1 != 0)=true then .inl 15 else .inr n)else match(nL g i 2).findIdx? (fun x=>w.getD (k-1) 0==x)with
    |none=>.inl 23
    |some j=>.inr (n+((nL g i 3).getD j 0+nI g i 5)):=by
   unfold stp
   rw[hb,hi,Int.toNat_natCast]
   rfl
  rw[hst]
  rw[hi,if_neg (by simp),if_pos (by omega),if_pos hk,if_pos (by omega),Int.toNat_natCast,if_pos hin]
  by_cases hk0:k=0
  ·subst hk0
   rw[if_pos (by rfl),if_pos rfl]
   split
   ·rfl
   ·rw[jaC (by omega)]; rfl
  ·rw[if_neg (by simp; omega),if_neg hk0,jaC (x:=(k:Int)-1) (by omega),if_pos (by omega),if_pos (by omega),show((k:Int)-1).toNat=k-1 by omega,jdN _ _ (by omega),jad]
   have hany:(nL g i 2).any (fun x=>x==w.getD (k-1) 0)=((nL g i 2).findIdx? (fun x=>w.getD (k-1) 0==x)).isSome:=by
    rw[jhD]
    congr 1
    funext x
    exact Bool.beq_comm
   rw[hany]
   cases hf:(nL g i 2).findIdx? (fun x=>w.getD (k-1) 0==x)with
   |none=>rfl
   |some j =>
    have hf':=hf
    rw[List.findIdx?_eq_some_iff_getElem]at hf'
    obtain⟨hj,hje,_⟩:=hf'
    have hje:(nL g i 2).getD j 0=w.getD (k-1) 0:=by
     rw[jhb 0 hj]
     simpa using (beq_iff_eq.1 hje).symm
    have hrj:=r1 j (by omega)
    rw[if_neg (by simp)]
    generalize hc:(nL g i 3).getD j 0+nI g i 5=c at *
    have key:=jfr (body:=y33 g w ((k:Int),n)) (fun m=>((m:Int),if j<m then n+c else n)) (y:=n+c) (k:=(nL g i 2).length) (fun m hm=>by
      unfold y33
      simp only[Int.toNat_natCast,hi]
      rw[if_pos (by omega),if_pos (by omega),if_pos hm,jaC (x:=(k:Int)-1) (by omega),if_pos (by omega),show((k:Int)-1).toNat=k-1 by omega,if_pos (by omega),jaC (x:=(m:Int)+1) (by omega)]
      by_cases hmj:m=j
      ·subst hmj
       rw[if_pos (by rw[hje]; simp),if_pos (by omega),if_pos (by omega),if_neg (show ¬m<m by omega),if_pos (show m<m+1 by omega),jaC (x:=n+(nL g i 3).getD m 0) (by omega),jaC (by omega),←hc,Int.add_assoc]
       rfl
      ·have hne:(nL g i 2).getD m 0≠w.getD (k-1) 0:=fun ee=>hmj (joN h hin hm hj (ee.trans hje.symm))
       rw[if_neg (by simpa using hne)]
       by_cases hjm:j<m
       ·rw[if_pos hjm,if_pos (by omega)]; rfl
       ·rw[if_neg hjm,if_neg (by omega)]; rfl) (by
      unfold y33
      simp only[Int.toNat_natCast,hi]
      rw[if_neg (by omega),if_pos hj]) (by omega)
    have key:jag (y33 g w ((k:Int),n)) big ((0:Int),n)=_:=key
    rw[key,jad]
    unfold y94
    rw[jaC (by simp; omega)]
    show _=some (Sum.inl (((k+1:Nat):Int),n+((nL g i 3).getD j 0+nI g i 5)))
    rw[hc]
    rfl
def lenOf (g:List (List NC)) (w:List Int):Int ⊕ Int:=if w.length=0∨g.length<w.length then .inl 10 else jbw g w w.length 0 0
def cu (g:List (List NC)) (w0 w1:List Int):Int × Int × Int:=match lenOf g w0,lenOf g w1 with
 | .inl e,_=>(0,0,e)
 | .inr _,.inl e=>(0,0,e)
 | .inr n,.inr m=>if w0.getD (w0.length-1) 0≠w1.getD (w1.length-1) 0 then(0,0,13)else if n=m then(0,0,20)else(n,m,0)
theorem jAh {w:List Int} {k:Nat} {n e:Int} (h:stp g w k n=.inl e):e≠0:=by
 unfold stp at h
 split at h
 ·cases h; omega
 ·split at h
  ·split at h
   ·cases h; omega
   ·cases h
  ·split at h
   ·cases h; omega
   ·cases h
theorem jsE {w:List Int}:∀(m k:Nat) (n:Int) {e:Int},jbw g w m k n=.inl e→e≠0
 |0,_,_,_,h=>by cases h
 |m+1,k,n,e,h=>by
  unfold jbw at h
  cases hs:stp g w k n with
  |inl e'=>rw[hs]at h; cases h; exact jAh hs
  |inr n'=>rw[hs]at h; exact jsE m (k+1) n' h
theorem jqi {w:List Int} {e:Int} (h:lenOf g w=.inl e):e≠0:=by
 unfold lenOf at h
 split at h
 ·cases h; omega
 ·exact jsE _ _ _ h
theorem juP (h:Rg g l) (nm:ByteArray) (od w:List Int) (hw:w.length<1000):y12 nm g od w=some (match lenOf g w with | .inl e=>(0,e) | .inr n=>(n,0)):=by
 unfold y12 lenOf
 by_cases h0:w.length=0
 ·rw[if_pos (by simp[h0]),if_pos (.inl h0)]
 ·rw[if_neg (by simp; intro hh; exact h0 (by simp[hh]))]
  by_cases h1:g.length<w.length
  ·rw[if_pos (by omega),if_pos (.inr h1)]
  ·rw[if_neg (by omega),if_neg (by omega),jzg h w hw]
   cases jbw g w w.length 0 0<;>rfl
theorem jqj {w:List Int} {n:Int} (h:lenOf g w=.inr n):0<w.length∧w.length≤g.length∧jbw g w w.length 0 0=.inr n:=by
 unfold lenOf at h
 split at h
 ·cases h
 ·exact⟨by omega,by omega,h⟩
theorem jlO {w:List Int} (h:0<w.length) (hw:w.length<1000):wrap IntKind.i64 ((w.length:Int)-1)=((w.length-1:Nat):Int):=by
 rw[jaC (by omega)]; omega
theorem jBe (h:Rg g l) {nm:ByteArray} (hs:nm.size<1000) (h0:(cg nm g).2=0) (w0 w1:List Int) (hw0:w0.length<1000) (hw1:w1.length<1000):y27 nm g w0 w1=some (cu g w0 w1):=by
 obtain⟨h1,h2⟩:=joM h hs h0
 unfold y27 jji jdC jen
 rw[h1,h2]
 show Option.bind (y12 nm g l w0) _=_
 rw[juP h nm l w0 hw0,juP h nm l w1 hw1]
 unfold cu
 cases ha:lenOf g w0 with
 |inl e =>
  have he:=jqi ha
  simp only[jad]
  rw[if_pos (bne_iff_ne.2 he)]
 |inr n =>
  obtain⟨p0,_,_⟩:=jqj ha
  simp only[jad]
  rw[if_neg (by simp)]
  cases hb:lenOf g w1 with
  |inl e =>
   have he:=jqi hb
   rw[if_pos (bne_iff_ne.2 he)]
  |inr m =>
   obtain⟨p1,_,_⟩:=jqj hb
   rw[if_neg (by simp),jlO p0 hw0,jlO p1 hw1]
   simp only[Int.toNat_natCast]
   rw[if_pos (by omega),if_pos (by omega),if_pos (by omega),if_pos (by omega)]
   by_cases hl:w0.getD (w0.length-1) 0=w1.getD (w1.length-1) 0
   ·rw[if_neg (by simpa using hl)]
    have e:(if w0.getD (w0.length-1) 0≠w1.getD (w1.length-1) 0 then((0,0,13):Int × Int × Int)else if n=m then(0,0,20)else(n,m,0))=if n=m then(0,0,20)else(n,m,0):=if_neg (fun hn=>hn hl)
    rw[e]
    by_cases hnm:n=m
    ·rw[if_pos (by simpa using hnm),if_pos hnm]
    ·rw[if_neg (by simpa using hnm),if_neg hnm]
   ·rw[if_pos (by simpa using hl),if_pos hl]
theorem jBf (h:Rg g l) (nm:ByteArray) (w0 w1:List Int) (hw0:w0.length<1000) (hw1:w1.length<1000):y19 nm g w0 w1=some (cu g w0 w1):=by
 unfold y19 cu
 by_cases z0:w0.length=0
 ·have:lenOf g w0=.inl 10:=by unfold lenOf; rw[if_pos (.inl z0)]
  rw[if_pos (by simp[z0]),this]
 ·rw[if_neg (by simp; intro hh; exact z0 (by simp[hh]))]
  by_cases g0:g.length<w0.length
  ·have:lenOf g w0=.inl 10:=by unfold lenOf; rw[if_pos (.inr g0)]
   rw[if_pos (by omega),this]
  ·have e0:lenOf g w0=jbw g w0 w0.length 0 0:=by unfold lenOf; rw[if_neg (by omega)]
   rw[if_neg (by omega),jsD h w0 hw0,e0]
   cases ha:jbw g w0 w0.length 0 0 with
   |inl e=>rfl
   |inr n =>
    show y81 g w0 w1 n=_
    unfold y81
    by_cases z1:w1.length=0
    ·have:lenOf g w1=.inl 10:=by unfold lenOf; rw[if_pos (.inl z1)]
     rw[if_pos (by simp[z1]),this]
    ·rw[if_neg (by simp; intro hh; exact z1 (by simp[hh]))]
     by_cases g1:g.length<w1.length
     ·have:lenOf g w1=.inl 10:=by unfold lenOf; rw[if_pos (.inr g1)]
      rw[if_pos (by omega),this]
     ·have e1:lenOf g w1=jbw g w1 w1.length 0 0:=by unfold lenOf; rw[if_neg (by omega)]
      rw[if_neg (by omega),show y95 g w1=y13 g w1 from rfl,jsD h w1 hw1,e1]
      cases hb:jbw g w1 w1.length 0 0 with
      |inl e=>rfl
      |inr m =>
       show y80 w0 w1 n m=_
       unfold y80
       rw[jlO (by omega) hw0,jlO (by omega) hw1]
       simp only[Int.toNat_natCast]
       rw[if_pos (by omega),if_pos (by omega),if_pos (by omega),if_pos (by omega)]
       by_cases hl:w0.getD (w0.length-1) 0=w1.getD (w1.length-1) 0
       ·rw[if_neg (by simpa using hl)]
        have e:(if w0.getD (w0.length-1) 0≠w1.getD (w1.length-1) 0 then((0,0,13):Int × Int × Int)else if n=m then(0,0,20)else(n,m,0))=if n=m then(0,0,20)else(n,m,0):=if_neg (fun hn=>hn hl)
        rw[e]
        by_cases hnm:n=m
        ·rw[if_pos (by simpa using hnm),if_pos hnm]
        ·rw[if_neg (by simpa using hnm),if_neg hnm]
       ·rw[if_pos (by simpa using hl),if_pos hl]
theorem jBg (w:List Int) (k:Nat) (n:Int):stp (cpU g) w k n=stp g w k n:=by
 unfold stp
 rw[jbZ,cpL2,cpL3,cpI5,(cpI _).1]
theorem jpL (w:List Int):∀(m k:Nat) (n:Int),jbw (cpU g) w m k n=jbw g w m k n
 |0,_,_=>rfl
 |m+1,k,n=>by
  unfold jbw
  rw[jBg]
  cases stp g w k n with
  |inl e=>rfl
  |inr n'=>exact jpL w m (k+1) n'
theorem jzO (w0 w1:List Int):cu (cpU g) w0 w1=cu g w0 w1:=by
 unfold cu lenOf
 rw[jbZ,jpL,jpL]
end Go.Sh
end

section
namespace Go.Sh
open Go Go.Proofs Go.RowKit Go.Sx
open Go.IntKind (wrap)
def jgM:List SV:=[.c (.p [.p [.d,.x (.st [.s,.i .i64,.ints .i64,.ints .i64,.ints .i64,.i .i64,.recs 5,.i .i64] []),.r (.ints .i64 [])],.d,.x (.ff .f32 []),.x (.rr 4 []),.r (.frs .f32 32 []),.r (.ints .i64 []),.r (.frs .f32 32 []),.x (.rr 4 []),.r (.ints .i64 [])]),.c (.d),.c (.d)]
def jpM (u17:ByteArray) (u18:List (List NC)) (u19:List Int) (u16:Int) (u20:List (List Nat)) (u21:List (List (List Int))) (u22:List (List Nat)) (u23:List Int) (u24:List (List Nat)) (u25:List (List (List Int))) (u26:List Int) (u39:Int) (k:Int):Option Int :=
 if k<0 then
  if 0≤u39∧u39<(↑u20.length:Int)then
  if Int.toNat u39<List.length u20 then
   if 0≤wrap .i64 (128+k)∧wrap .i64 (128+k)<(↑(List.length (List.getD u20 u39.toNat [])):Int)then
   if Int.toNat (wrap .i64 (128+k))<List.length (List.getD u20 u39.toNat [])then
    if jnC .f32 .i64 (List.getD (List.getD u20 u39.toNat []) (Int.toNat (wrap .i64 (128+k))) (0:Nat))=true then
    some (f2i .f32 (List.getD (List.getD u20 u39.toNat []) (Int.toNat (wrap .i64 (128+k))) (0:Nat)))
    else none
   else none
   else none
  else none
  else none
 else
  if 0≤u39∧u39<(↑u24.length:Int)then
  if 0≤k∧k<(↑(32:Nat):Int)then
   if Int.toNat u39<List.length u24∧0+Int.toNat k*1<32 then
   if jnC .f32 .i64 (List.getD (List.getD u24 u39.toNat []) (0+Int.toNat k*1) (0:Nat))=true then
    some (f2i .f32 (List.getD (List.getD u24 u39.toNat []) (0+Int.toNat k*1) (0:Nat)))
   else none
   else none
  else none
  else none
def jgN:List Lf→Option GT
 |[.d (.s u17),.x (.st [.s,.i .i64,.ints .i64,.ints .i64,.ints .i64,.i .i64,.recs 5,.i .i64] u18),.r (.ints .i64 u19),.d (.i .i64 u16),.x (.ff .f32 u20),.x (.rr 4 u21),.r (.frs .f32 32 u22),.r (.ints .i64 u23),.r (.frs .f32 32 u24),.x (.rr 4 u25),.r (.ints .i64 u26),.d (.i .i64 u39),.d (.i .i64 k)]=>some (.leaf (ok (jpM u17 u18 u19 u16 u20 u21 u22 u23 u24 u25 u26 u39 k)) [.c (.d (.i .i64 ((val (jpM u17 u18 u19 u16 u20 u21 u22 u23 u24 u25 u26 u39 k)))))])
 |_=>none
abbrev sp_149:jaa→jaa:=jaG 149 true (jai jgM jgN)
def jsF (u17:ByteArray) (u18:List (List NC)) (u19:List Int) (u16:Int) (u20:List (List Nat)) (u21:List (List (List Int))) (u22:List (List Nat)) (u23:List Int) (u24:List (List Nat)) (u25:List (List (List Int))) (u26:List Int) (u39:Int) (k:Int) (r:Int):Sk (top r) (jpM u17 u18 u19 u16 u20 u21 u22 u23 u24 u25 u26 u39 k) :=
 .br
 (.obT (.ob (.ob (.ob (.ob (.ob (.obT (.rc))))))))
 (.obT (.ob (.ob (.ob (.ob (.obT (.rc)))))))
theorem jqU (u17:ByteArray) (u18:List (List NC)) (u19:List Int) (u16:Int) (u20:List (List Nat)) (u21:List (List (List Int))) (u22:List (List Nat)) (u23:List Int) (u24:List (List Nat)) (u25:List (List (List Int))) (u26:List Int) (u39:Int) (k:Int) (r:Int) (h:Option.bind (jpM u17 u18 u19 u16 u20 u21 u22 u23 u24 u25 u26 u39 k) some=some r):ja5 Tryz.f149 (sp0) (fun _ _ _=>none) (ja0 jgM [.d (.s u17),.x (.st [.s,.i .i64,.ints .i64,.ints .i64,.ints .i64,.i .i64,.recs 5,.i .i64] u18),.r (.ints .i64 u19),.d (.i .i64 u16),.x (.ff .f32 u20),.x (.rr 4 u21),.r (.frs .f32 32 u22),.r (.ints .i64 u23),.r (.frs .f32 32 u24),.x (.rr 4 u25),.r (.ints .i64 u26),.d (.i .i64 u39),.d (.i .i64 k)]) [.c (.d (.i .i64 r))] :=
 Sk.vc (jsF u17 u18 u19 u16 u20 u21 u22 u23 u24 u25 u26 u39 k r) (by kernel_rfl) h
theorem jqV:jaf Tryz.prog 149 true (jai jgM jgN):=by
 refine jav (sp:=sp0) (fn:=Tryz.f149) (body:=bodyOf Tryz.f149) mixed jau Tryz.func149 (by kernel_rfl) (by kernel_rfl) fun ls t h ho b hb=>?_
 unfold jgN at h
 split at h
 ·rename_i u17 u18 u19 u16 u20 u21 u22 u23 u24 u25 u26 u39 k
  cases h
  obtain rfl:=jaL hb
  exact⟨Nat.le_of_ble_eq_true (by kernel_rfl),_,_,jqU u17 u18 u19 u16 u20 u21 u22 u23 u24 u25 u26 u39 k _ (jap ho)⟩
 ·cases h
theorem sp_149_ok {sp:jaa} (h:jac Tryz.prog sp):jac Tryz.prog (sp_149 sp):=jar jqV h
end Go.Sh
end

section
namespace Go.Sh
open Go Go.Proofs Go.RowKit Go.Sx
open Go.IntKind (wrap)
def jer:List SV:=[.c (.p [.p [.d,.x (.st [.s,.i .i64,.ints .i64,.ints .i64,.ints .i64,.i .i64,.recs 5,.i .i64] []),.r (.ints .i64 [])],.d,.x (.ff .f32 []),.x (.rr 4 []),.r (.frs .f32 32 []),.r (.ints .i64 []),.r (.frs .f32 32 []),.x (.rr 4 []),.r (.ints .i64 [])]),.a [.d,.d,.r (.ints .i64 []),.r (.ints .i64 []),.r (.ints .i64 []),.d,.r (.recs 5 []),.d],.c (.d),.c (.d)]
def jdR (u17:ByteArray) (u18:List (List NC)) (u19:List Int) (u16:Int) (u20:List (List Nat)) (u21:List (List (List Int))) (u22:List (List Nat)) (u23:List Int) (u24:List (List Nat)) (u25:List (List (List Int))) (u26:List Int) (u12:List Int) (u11:List Int) (u44:Int) (u45:Int) (x0:(Int × Int × Int × Int × Int × Int × Int × Int × Int × Int × Int × Int × Int × Int × Int × Int × Int × Int × Int × Int × Int × Int × Int × Int × Int × Int × Int × Int × Int × Int × Int × Int × Int)):Option ((Int × Int × Int × Int × Int × Int × Int × Int × Int × Int × Int × Int × Int × Int × Int × Int × Int × Int × Int × Int × Int × Int × Int × Int × Int × Int × Int × Int × Int × Int × Int × Int × Int) ⊕ (Int × Int × Int × Int × Int × Int × Int × Int × Int × Int × Int × Int × Int × Int × Int × Int × Int × Int × Int × Int × Int × Int × Int × Int × Int × Int × Int × Int × Int × Int × Int × Int)) :=
 if x0.1<32 then
  if 0≤u44∧u44<(↑u12.length:Int)then
  if Int.toNat u44<List.length u12 then
   if 0≤u44∧u44<(↑u11.length:Int)then
   if Int.toNat u44<List.length u11 then
    Option.bind (jpM u17 u18 u19 u16 u20 u21 u22 u23 u24 u25 u26 (List.getD u12 u44.toNat (0:Int)) (wrap .i64 (wrap .i64 (x0.1-List.getD u11 u44.toNat (0:Int))-u45))) fun r0 =>
    if 0≤x0.1∧x0.1<(↑(32:Nat):Int)then
    if List.getD [true,true,true,true,true,true,true,true,true,true,true,true,true,true,true,true,true,true,true,true,true,true,true,true,true,true,true,true,true,true,true,true] (0+Int.toNat x0.1*1) false=true then
     some (.inl ((wrap .i64 (x0.1+1),bif Nat.beq (0+Int.toNat x0.1*1) 0 then r0 else x0.2.1,bif Nat.beq (0+Int.toNat x0.1*1) 1 then r0 else x0.2.2.1,bif Nat.beq (0+Int.toNat x0.1*1) 2 then r0 else x0.2.2.2.1,bif Nat.beq (0+Int.toNat x0.1*1) 3 then r0 else x0.2.2.2.2.1,bif Nat.beq (0+Int.toNat x0.1*1) 4 then r0 else x0.2.2.2.2.2.1,bif Nat.beq (0+Int.toNat x0.1*1) 5 then r0 else x0.2.2.2.2.2.2.1,bif Nat.beq (0+Int.toNat x0.1*1) 6 then r0 else x0.2.2.2.2.2.2.2.1,bif Nat.beq (0+Int.toNat x0.1*1) 7 then r0 else x0.2.2.2.2.2.2.2.2.1,bif Nat.beq (0+Int.toNat x0.1*1) 8 then r0 else x0.2.2.2.2.2.2.2.2.2.1,bif Nat.beq (0+Int.toNat x0.1*1) 9 then r0 else x0.2.2.2.2.2.2.2.2.2.2.1,bif Nat.beq (0+Int.toNat x0.1*1) 10 then r0 else x0.2.2.2.2.2.2.2.2.2.2.2.1,bif Nat.beq (0+Int.toNat x0.1*1) 11 then r0 else x0.2.2.2.2.2.2.2.2.2.2.2.2.1,bif Nat.beq (0+Int.toNat x0.1*1) 12 then r0 else x0.2.2.2.2.2.2.2.2.2.2.2.2.2.1,bif Nat.beq (0+Int.toNat x0.1*1) 13 then r0 else x0.2.2.2.2.2.2.2.2.2.2.2.2.2.2.1,bif Nat.beq (0+Int.toNat x0.1*1) 14 then r0 else x0.2.2.2.2.2.2.2.2.2.2.2.2.2.2.2.1,bif Nat.beq (0+Int.toNat x0.1*1) 15 then r0 else x0.2.2.2.2.2.2.2.2.2.2.2.2.2.2.2.2.1,bif Nat.beq (0+Int.toNat x0.1*1) 16 then r0 else x0.2.2.2.2.2.2.2.2.2.2.2.2.2.2.2.2.2.1,bif Nat.beq (0+Int.toNat x0.1*1) 17 then r0 else x0.2.2.2.2.2.2.2.2.2.2.2.2.2.2.2.2.2.2.1,bif Nat.beq (0+Int.toNat x0.1*1) 18 then r0 else x0.2.2.2.2.2.2.2.2.2.2.2.2.2.2.2.2.2.2.2.1,bif Nat.beq (0+Int.toNat x0.1*1) 19 then r0 else x0.2.2.2.2.2.2.2.2.2.2.2.2.2.2.2.2.2.2.2.2.1,bif Nat.beq (0+Int.toNat x0.1*1) 20 then r0 else x0.2.2.2.2.2.2.2.2.2.2.2.2.2.2.2.2.2.2.2.2.2.1,bif Nat.beq (0+Int.toNat x0.1*1) 21 then r0 else x0.2.2.2.2.2.2.2.2.2.2.2.2.2.2.2.2.2.2.2.2.2.2.1,bif Nat.beq (0+Int.toNat x0.1*1) 22 then r0 else x0.2.2.2.2.2.2.2.2.2.2.2.2.2.2.2.2.2.2.2.2.2.2.2.1,bif Nat.beq (0+Int.toNat x0.1*1) 23 then r0 else x0.2.2.2.2.2.2.2.2.2.2.2.2.2.2.2.2.2.2.2.2.2.2.2.2.1,bif Nat.beq (0+Int.toNat x0.1*1) 24 then r0 else x0.2.2.2.2.2.2.2.2.2.2.2.2.2.2.2.2.2.2.2.2.2.2.2.2.2.1,bif Nat.beq (0+Int.toNat x0.1*1) 25 then r0 else x0.2.2.2.2.2.2.2.2.2.2.2.2.2.2.2.2.2.2.2.2.2.2.2.2.2.2.1,bif Nat.beq (0+Int.toNat x0.1*1) 26 then r0 else x0.2.2.2.2.2.2.2.2.2.2.2.2.2.2.2.2.2.2.2.2.2.2.2.2.2.2.2.1,bif Nat.beq (0+Int.toNat x0.1*1) 27 then r0 else x0.2.2.2.2.2.2.2.2.2.2.2.2.2.2.2.2.2.2.2.2.2.2.2.2.2.2.2.2.1,bif Nat.beq (0+Int.toNat x0.1*1) 28 then r0 else x0.2.2.2.2.2.2.2.2.2.2.2.2.2.2.2.2.2.2.2.2.2.2.2.2.2.2.2.2.2.1,bif Nat.beq (0+Int.toNat x0.1*1) 29 then r0 else x0.2.2.2.2.2.2.2.2.2.2.2.2.2.2.2.2.2.2.2.2.2.2.2.2.2.2.2.2.2.2.1,bif Nat.beq (0+Int.toNat x0.1*1) 30 then r0 else x0.2.2.2.2.2.2.2.2.2.2.2.2.2.2.2.2.2.2.2.2.2.2.2.2.2.2.2.2.2.2.2.1,bif Nat.beq (0+Int.toNat x0.1*1) 31 then r0 else x0.2.2.2.2.2.2.2.2.2.2.2.2.2.2.2.2.2.2.2.2.2.2.2.2.2.2.2.2.2.2.2.2)))
    else none
    else none
   else none
   else none
  else none
  else none
 else
  some (.inr (x0.2.1,x0.2.2.1,x0.2.2.2.1,x0.2.2.2.2.1,x0.2.2.2.2.2.1,x0.2.2.2.2.2.2.1,x0.2.2.2.2.2.2.2.1,x0.2.2.2.2.2.2.2.2.1,x0.2.2.2.2.2.2.2.2.2.1,x0.2.2.2.2.2.2.2.2.2.2.1,x0.2.2.2.2.2.2.2.2.2.2.2.1,x0.2.2.2.2.2.2.2.2.2.2.2.2.1,x0.2.2.2.2.2.2.2.2.2.2.2.2.2.1,x0.2.2.2.2.2.2.2.2.2.2.2.2.2.2.1,x0.2.2.2.2.2.2.2.2.2.2.2.2.2.2.2.1,x0.2.2.2.2.2.2.2.2.2.2.2.2.2.2.2.2.1,x0.2.2.2.2.2.2.2.2.2.2.2.2.2.2.2.2.2.1,x0.2.2.2.2.2.2.2.2.2.2.2.2.2.2.2.2.2.2.1,x0.2.2.2.2.2.2.2.2.2.2.2.2.2.2.2.2.2.2.2.1,x0.2.2.2.2.2.2.2.2.2.2.2.2.2.2.2.2.2.2.2.2.1,x0.2.2.2.2.2.2.2.2.2.2.2.2.2.2.2.2.2.2.2.2.2.1,x0.2.2.2.2.2.2.2.2.2.2.2.2.2.2.2.2.2.2.2.2.2.2.1,x0.2.2.2.2.2.2.2.2.2.2.2.2.2.2.2.2.2.2.2.2.2.2.2.1,x0.2.2.2.2.2.2.2.2.2.2.2.2.2.2.2.2.2.2.2.2.2.2.2.2.1,x0.2.2.2.2.2.2.2.2.2.2.2.2.2.2.2.2.2.2.2.2.2.2.2.2.2.1,x0.2.2.2.2.2.2.2.2.2.2.2.2.2.2.2.2.2.2.2.2.2.2.2.2.2.2.1,x0.2.2.2.2.2.2.2.2.2.2.2.2.2.2.2.2.2.2.2.2.2.2.2.2.2.2.2.1,x0.2.2.2.2.2.2.2.2.2.2.2.2.2.2.2.2.2.2.2.2.2.2.2.2.2.2.2.2.1,x0.2.2.2.2.2.2.2.2.2.2.2.2.2.2.2.2.2.2.2.2.2.2.2.2.2.2.2.2.2.1,x0.2.2.2.2.2.2.2.2.2.2.2.2.2.2.2.2.2.2.2.2.2.2.2.2.2.2.2.2.2.2.1,x0.2.2.2.2.2.2.2.2.2.2.2.2.2.2.2.2.2.2.2.2.2.2.2.2.2.2.2.2.2.2.2.1,x0.2.2.2.2.2.2.2.2.2.2.2.2.2.2.2.2.2.2.2.2.2.2.2.2.2.2.2.2.2.2.2.2))
def jdS (u5:Int × Int × Int × Int × Int × Int × Int × Int × Int × Int × Int × Int × Int × Int × Int × Int × Int × Int × Int × Int × Int × Int × Int × Int × Int × Int × Int × Int × Int × Int × Int × Int):Option (Int × Int × Int × Int × Int × Int × Int × Int × Int × Int × Int × Int × Int × Int × Int × Int × Int × Int × Int × Int × Int × Int × Int × Int × Int × Int × Int × Int × Int × Int × Int × Int) :=
 some (u5.1,u5.2.1,u5.2.2.1,u5.2.2.2.1,u5.2.2.2.2.1,u5.2.2.2.2.2.1,u5.2.2.2.2.2.2.1,u5.2.2.2.2.2.2.2.1,u5.2.2.2.2.2.2.2.2.1,u5.2.2.2.2.2.2.2.2.2.1,u5.2.2.2.2.2.2.2.2.2.2.1,u5.2.2.2.2.2.2.2.2.2.2.2.1,u5.2.2.2.2.2.2.2.2.2.2.2.2.1,u5.2.2.2.2.2.2.2.2.2.2.2.2.2.1,u5.2.2.2.2.2.2.2.2.2.2.2.2.2.2.1,u5.2.2.2.2.2.2.2.2.2.2.2.2.2.2.2.1,u5.2.2.2.2.2.2.2.2.2.2.2.2.2.2.2.2.1,u5.2.2.2.2.2.2.2.2.2.2.2.2.2.2.2.2.2.1,u5.2.2.2.2.2.2.2.2.2.2.2.2.2.2.2.2.2.2.1,u5.2.2.2.2.2.2.2.2.2.2.2.2.2.2.2.2.2.2.2.1,u5.2.2.2.2.2.2.2.2.2.2.2.2.2.2.2.2.2.2.2.2.1,u5.2.2.2.2.2.2.2.2.2.2.2.2.2.2.2.2.2.2.2.2.2.1,u5.2.2.2.2.2.2.2.2.2.2.2.2.2.2.2.2.2.2.2.2.2.2.1,u5.2.2.2.2.2.2.2.2.2.2.2.2.2.2.2.2.2.2.2.2.2.2.2.1,u5.2.2.2.2.2.2.2.2.2.2.2.2.2.2.2.2.2.2.2.2.2.2.2.2.1,u5.2.2.2.2.2.2.2.2.2.2.2.2.2.2.2.2.2.2.2.2.2.2.2.2.2.1,u5.2.2.2.2.2.2.2.2.2.2.2.2.2.2.2.2.2.2.2.2.2.2.2.2.2.2.1,u5.2.2.2.2.2.2.2.2.2.2.2.2.2.2.2.2.2.2.2.2.2.2.2.2.2.2.2.1,u5.2.2.2.2.2.2.2.2.2.2.2.2.2.2.2.2.2.2.2.2.2.2.2.2.2.2.2.2.1,u5.2.2.2.2.2.2.2.2.2.2.2.2.2.2.2.2.2.2.2.2.2.2.2.2.2.2.2.2.2.1,u5.2.2.2.2.2.2.2.2.2.2.2.2.2.2.2.2.2.2.2.2.2.2.2.2.2.2.2.2.2.2.1,u5.2.2.2.2.2.2.2.2.2.2.2.2.2.2.2.2.2.2.2.2.2.2.2.2.2.2.2.2.2.2.2)
def jah (u17:ByteArray) (u18:List (List NC)) (u19:List Int) (u16:Int) (u20:List (List Nat)) (u21:List (List (List Int))) (u22:List (List Nat)) (u23:List Int) (u24:List (List Nat)) (u25:List (List (List Int))) (u26:List Int) (u13:ByteArray) (u7:Int) (u12:List Int) (u11:List Int) (u10:List Int) (u9:Int) (u14:List (List Int)) (u15:Int) (u44:Int) (u45:Int):Option (Int × Int × Int × Int × Int × Int × Int × Int × Int × Int × Int × Int × Int × Int × Int × Int × Int × Int × Int × Int × Int × Int × Int × Int × Int × Int × Int × Int × Int × Int × Int × Int) :=
 Option.bind (jag (jdR u17 u18 u19 u16 u20 u21 u22 u23 u24 u25 u26 u12 u11 u44 u45) big (((0:Int),0,0,0,0,0,0,0,0,0,0,0,0,0,0,0,0,0,0,0,0,0,0,0,0,0,0,0,0,0,0,0,0))) (jdS)
def jes:List Lf→Option GT
 |[.d (.s u17),.x (.st [.s,.i .i64,.ints .i64,.ints .i64,.ints .i64,.i .i64,.recs 5,.i .i64] u18),.r (.ints .i64 u19),.d (.i .i64 u16),.x (.ff .f32 u20),.x (.rr 4 u21),.r (.frs .f32 32 u22),.r (.ints .i64 u23),.r (.frs .f32 32 u24),.x (.rr 4 u25),.r (.ints .i64 u26),.d (.s u13),.d (.i .i64 u7),.r (.ints .i64 u12),.r (.ints .i64 u11),.r (.ints .i64 u10),.d (.i .i64 u9),.r (.recs 5 u14),.d (.i .i64 u15),.d (.i .i64 u44),.d (.i .i64 u45)]=>some (.leaf (ok (jah u17 u18 u19 u16 u20 u21 u22 u23 u24 u25 u26 u13 u7 u12 u11 u10 u9 u14 u15 u44 u45)) [.s [.d (.i .i64 ((val (jah u17 u18 u19 u16 u20 u21 u22 u23 u24 u25 u26 u13 u7 u12 u11 u10 u9 u14 u15 u44 u45)).1)),.d (.i .i64 ((val (jah u17 u18 u19 u16 u20 u21 u22 u23 u24 u25 u26 u13 u7 u12 u11 u10 u9 u14 u15 u44 u45)).2.1)),.d (.i .i64 ((val (jah u17 u18 u19 u16 u20 u21 u22 u23 u24 u25 u26 u13 u7 u12 u11 u10 u9 u14 u15 u44 u45)).2.2.1)),.d (.i .i64 ((val (jah u17 u18 u19 u16 u20 u21 u22 u23 u24 u25 u26 u13 u7 u12 u11 u10 u9 u14 u15 u44 u45)).2.2.2.1)),.d (.i .i64 ((val (jah u17 u18 u19 u16 u20 u21 u22 u23 u24 u25 u26 u13 u7 u12 u11 u10 u9 u14 u15 u44 u45)).2.2.2.2.1)),.d (.i .i64 ((val (jah u17 u18 u19 u16 u20 u21 u22 u23 u24 u25 u26 u13 u7 u12 u11 u10 u9 u14 u15 u44 u45)).2.2.2.2.2.1)),.d (.i .i64 ((val (jah u17 u18 u19 u16 u20 u21 u22 u23 u24 u25 u26 u13 u7 u12 u11 u10 u9 u14 u15 u44 u45)).2.2.2.2.2.2.1)),.d (.i .i64 ((val (jah u17 u18 u19 u16 u20 u21 u22 u23 u24 u25 u26 u13 u7 u12 u11 u10 u9 u14 u15 u44 u45)).2.2.2.2.2.2.2.1)),.d (.i .i64 ((val (jah u17 u18 u19 u16 u20 u21 u22 u23 u24 u25 u26 u13 u7 u12 u11 u10 u9 u14 u15 u44 u45)).2.2.2.2.2.2.2.2.1)),.d (.i .i64 ((val (jah u17 u18 u19 u16 u20 u21 u22 u23 u24 u25 u26 u13 u7 u12 u11 u10 u9 u14 u15 u44 u45)).2.2.2.2.2.2.2.2.2.1)),.d (.i .i64 ((val (jah u17 u18 u19 u16 u20 u21 u22 u23 u24 u25 u26 u13 u7 u12 u11 u10 u9 u14 u15 u44 u45)).2.2.2.2.2.2.2.2.2.2.1)),.d (.i .i64 ((val (jah u17 u18 u19 u16 u20 u21 u22 u23 u24 u25 u26 u13 u7 u12 u11 u10 u9 u14 u15 u44 u45)).2.2.2.2.2.2.2.2.2.2.2.1)),.d (.i .i64 ((val (jah u17 u18 u19 u16 u20 u21 u22 u23 u24 u25 u26 u13 u7 u12 u11 u10 u9 u14 u15 u44 u45)).2.2.2.2.2.2.2.2.2.2.2.2.1)),.d (.i .i64 ((val (jah u17 u18 u19 u16 u20 u21 u22 u23 u24 u25 u26 u13 u7 u12 u11 u10 u9 u14 u15 u44 u45)).2.2.2.2.2.2.2.2.2.2.2.2.2.1)),.d (.i .i64 ((val (jah u17 u18 u19 u16 u20 u21 u22 u23 u24 u25 u26 u13 u7 u12 u11 u10 u9 u14 u15 u44 u45)).2.2.2.2.2.2.2.2.2.2.2.2.2.2.1)),.d (.i .i64 ((val (jah u17 u18 u19 u16 u20 u21 u22 u23 u24 u25 u26 u13 u7 u12 u11 u10 u9 u14 u15 u44 u45)).2.2.2.2.2.2.2.2.2.2.2.2.2.2.2.1)),.d (.i .i64 ((val (jah u17 u18 u19 u16 u20 u21 u22 u23 u24 u25 u26 u13 u7 u12 u11 u10 u9 u14 u15 u44 u45)).2.2.2.2.2.2.2.2.2.2.2.2.2.2.2.2.1)),.d (.i .i64 ((val (jah u17 u18 u19 u16 u20 u21 u22 u23 u24 u25 u26 u13 u7 u12 u11 u10 u9 u14 u15 u44 u45)).2.2.2.2.2.2.2.2.2.2.2.2.2.2.2.2.2.1)),.d (.i .i64 ((val (jah u17 u18 u19 u16 u20 u21 u22 u23 u24 u25 u26 u13 u7 u12 u11 u10 u9 u14 u15 u44 u45)).2.2.2.2.2.2.2.2.2.2.2.2.2.2.2.2.2.2.1)),.d (.i .i64 ((val (jah u17 u18 u19 u16 u20 u21 u22 u23 u24 u25 u26 u13 u7 u12 u11 u10 u9 u14 u15 u44 u45)).2.2.2.2.2.2.2.2.2.2.2.2.2.2.2.2.2.2.2.1)),.d (.i .i64 ((val (jah u17 u18 u19 u16 u20 u21 u22 u23 u24 u25 u26 u13 u7 u12 u11 u10 u9 u14 u15 u44 u45)).2.2.2.2.2.2.2.2.2.2.2.2.2.2.2.2.2.2.2.2.1)),.d (.i .i64 ((val (jah u17 u18 u19 u16 u20 u21 u22 u23 u24 u25 u26 u13 u7 u12 u11 u10 u9 u14 u15 u44 u45)).2.2.2.2.2.2.2.2.2.2.2.2.2.2.2.2.2.2.2.2.2.1)),.d (.i .i64 ((val (jah u17 u18 u19 u16 u20 u21 u22 u23 u24 u25 u26 u13 u7 u12 u11 u10 u9 u14 u15 u44 u45)).2.2.2.2.2.2.2.2.2.2.2.2.2.2.2.2.2.2.2.2.2.2.1)),.d (.i .i64 ((val (jah u17 u18 u19 u16 u20 u21 u22 u23 u24 u25 u26 u13 u7 u12 u11 u10 u9 u14 u15 u44 u45)).2.2.2.2.2.2.2.2.2.2.2.2.2.2.2.2.2.2.2.2.2.2.2.1)),.d (.i .i64 ((val (jah u17 u18 u19 u16 u20 u21 u22 u23 u24 u25 u26 u13 u7 u12 u11 u10 u9 u14 u15 u44 u45)).2.2.2.2.2.2.2.2.2.2.2.2.2.2.2.2.2.2.2.2.2.2.2.2.1)),.d (.i .i64 ((val (jah u17 u18 u19 u16 u20 u21 u22 u23 u24 u25 u26 u13 u7 u12 u11 u10 u9 u14 u15 u44 u45)).2.2.2.2.2.2.2.2.2.2.2.2.2.2.2.2.2.2.2.2.2.2.2.2.2.1)),.d (.i .i64 ((val (jah u17 u18 u19 u16 u20 u21 u22 u23 u24 u25 u26 u13 u7 u12 u11 u10 u9 u14 u15 u44 u45)).2.2.2.2.2.2.2.2.2.2.2.2.2.2.2.2.2.2.2.2.2.2.2.2.2.2.1)),.d (.i .i64 ((val (jah u17 u18 u19 u16 u20 u21 u22 u23 u24 u25 u26 u13 u7 u12 u11 u10 u9 u14 u15 u44 u45)).2.2.2.2.2.2.2.2.2.2.2.2.2.2.2.2.2.2.2.2.2.2.2.2.2.2.2.1)),.d (.i .i64 ((val (jah u17 u18 u19 u16 u20 u21 u22 u23 u24 u25 u26 u13 u7 u12 u11 u10 u9 u14 u15 u44 u45)).2.2.2.2.2.2.2.2.2.2.2.2.2.2.2.2.2.2.2.2.2.2.2.2.2.2.2.2.1)),.d (.i .i64 ((val (jah u17 u18 u19 u16 u20 u21 u22 u23 u24 u25 u26 u13 u7 u12 u11 u10 u9 u14 u15 u44 u45)).2.2.2.2.2.2.2.2.2.2.2.2.2.2.2.2.2.2.2.2.2.2.2.2.2.2.2.2.2.1)),.d (.i .i64 ((val (jah u17 u18 u19 u16 u20 u21 u22 u23 u24 u25 u26 u13 u7 u12 u11 u10 u9 u14 u15 u44 u45)).2.2.2.2.2.2.2.2.2.2.2.2.2.2.2.2.2.2.2.2.2.2.2.2.2.2.2.2.2.2.1)),.d (.i .i64 ((val (jah u17 u18 u19 u16 u20 u21 u22 u23 u24 u25 u26 u13 u7 u12 u11 u10 u9 u14 u15 u44 u45)).2.2.2.2.2.2.2.2.2.2.2.2.2.2.2.2.2.2.2.2.2.2.2.2.2.2.2.2.2.2.2))]])
 |_=>none
abbrev jgO (u17:ByteArray) (u18:List (List NC)) (u19:List Int) (u16:Int) (u20:List (List Nat)) (u21:List (List (List Int))) (u22:List (List Nat)) (u23:List Int) (u24:List (List Nat)) (u25:List (List (List Int))) (u26:List Int) (u13:ByteArray) (u7:Int) (u12:List Int) (u11:List Int) (u10:List Int) (u9:Int) (u14:List (List Int)) (u15:Int) (u44:Int) (u45:Int) (r:Int × Int × Int × Int × Int × Int × Int × Int × Int × Int × Int × Int × Int × Int × Int × Int × Int × Int × Int × Int × Int × Int × Int × Int × Int × Int × Int × Int × Int × Int × Int × Int):Lp ((Int × Int × Int × Int × Int × Int × Int × Int × Int × Int × Int × Int × Int × Int × Int × Int × Int × Int × Int × Int × Int × Int × Int × Int × Int × Int × Int × Int × Int × Int × Int × Int × Int) × Nat) (Int × Int × Int × Int × Int × Int × Int × Int × Int × Int × Int × Int × Int × Int × Int × Int × Int × Int × Int × Int × Int × Int × Int × Int × Int × Int × Int × Int × Int × Int × Int × Int × Int) (Int × Int × Int × Int × Int × Int × Int × Int × Int × Int × Int × Int × Int × Int × Int × Int × Int × Int × Int × Int × Int × Int × Int × Int × Int × Int × Int × Int × Int × Int × Int × Int) (Int × Int × Int × Int × Int × Int × Int × Int × Int × Int × Int × Int × Int × Int × Int × Int × Int × Int × Int × Int × Int × Int × Int × Int × Int × Int × Int × Int × Int × Int × Int × Int) (Int × Int × Int × Int × Int × Int × Int × Int × Int × Int × Int × Int × Int × Int × Int × Int × Int × Int × Int × Int × Int × Int × Int × Int × Int × Int × Int × Int × Int × Int × Int × Int) :=
 ⟨fun z=>z.1,fun z=>z.2,fun z x n=>(x,n),fun z=>jdR u17 u18 u19 u16 u20 u21 u22 u23 u24 u25 u26 u12 u11 u44 u45,fun z=>jdS,fun z=>top r,fun z=>0,[.c fun _=>0,.c fun _=>u44,.c fun _=>u45,.c fun _=>0,.c fun _=>0,.c fun _=>0,.c fun vv=>vv.1.1,.c fun _=>0,.c fun _=>u16,.c fun _=>u13,.c fun _=>u7,.c fun _=>u9,.c fun _=>u15,.c fun _=>(0:Int),.c fun _=>(0:Int),.c fun _=>(0:Int),.c fun _=>(0:Int),.c fun _=>(0:Int),.c fun _=>(0:Int),.c fun _=>(0:Int),.c fun _=>(0:Int),.c fun _=>(0:Int),.c fun _=>(0:Int),.c fun _=>(0:Int),.c fun _=>(0:Int),.c fun _=>(0:Int),.c fun _=>(0:Int),.c fun _=>(0:Int),.c fun _=>(0:Int),.c fun _=>(0:Int),.c fun _=>(0:Int),.c fun _=>(0:Int),.c fun _=>(0:Int),.c fun _=>(0:Int),.c fun _=>(0:Int),.c fun _=>(0:Int),.c fun _=>(0:Int),.c fun _=>(0:Int),.c fun _=>(0:Int),.c fun _=>(0:Int),.c fun _=>(0:Int),.c fun _=>(0:Int),.c fun _=>(0:Int),.c fun _=>(0:Int),.c fun _=>(0:Int),.c fun vv=>vv.1.2.1,.c fun vv=>vv.1.2.2.1,.c fun vv=>vv.1.2.2.2.1,.c fun vv=>vv.1.2.2.2.2.1,.c fun vv=>vv.1.2.2.2.2.2.1,.c fun vv=>vv.1.2.2.2.2.2.2.1,.c fun vv=>vv.1.2.2.2.2.2.2.2.1,.c fun vv=>vv.1.2.2.2.2.2.2.2.2.1,.c fun vv=>vv.1.2.2.2.2.2.2.2.2.2.1,.c fun vv=>vv.1.2.2.2.2.2.2.2.2.2.2.1,.c fun vv=>vv.1.2.2.2.2.2.2.2.2.2.2.2.1,.c fun vv=>vv.1.2.2.2.2.2.2.2.2.2.2.2.2.1,.c fun vv=>vv.1.2.2.2.2.2.2.2.2.2.2.2.2.2.1,.c fun vv=>vv.1.2.2.2.2.2.2.2.2.2.2.2.2.2.2.1,.c fun vv=>vv.1.2.2.2.2.2.2.2.2.2.2.2.2.2.2.2.1,.c fun vv=>vv.1.2.2.2.2.2.2.2.2.2.2.2.2.2.2.2.2.1,.c fun vv=>vv.1.2.2.2.2.2.2.2.2.2.2.2.2.2.2.2.2.2.1,.c fun vv=>vv.1.2.2.2.2.2.2.2.2.2.2.2.2.2.2.2.2.2.2.1,.c fun vv=>vv.1.2.2.2.2.2.2.2.2.2.2.2.2.2.2.2.2.2.2.2.1,.c fun vv=>vv.1.2.2.2.2.2.2.2.2.2.2.2.2.2.2.2.2.2.2.2.2.1,.c fun vv=>vv.1.2.2.2.2.2.2.2.2.2.2.2.2.2.2.2.2.2.2.2.2.2.1,.c fun vv=>vv.1.2.2.2.2.2.2.2.2.2.2.2.2.2.2.2.2.2.2.2.2.2.2.1,.c fun vv=>vv.1.2.2.2.2.2.2.2.2.2.2.2.2.2.2.2.2.2.2.2.2.2.2.2.1,.c fun vv=>vv.1.2.2.2.2.2.2.2.2.2.2.2.2.2.2.2.2.2.2.2.2.2.2.2.2.1,.c fun vv=>vv.1.2.2.2.2.2.2.2.2.2.2.2.2.2.2.2.2.2.2.2.2.2.2.2.2.2.1,.c fun vv=>vv.1.2.2.2.2.2.2.2.2.2.2.2.2.2.2.2.2.2.2.2.2.2.2.2.2.2.2.1,.c fun vv=>vv.1.2.2.2.2.2.2.2.2.2.2.2.2.2.2.2.2.2.2.2.2.2.2.2.2.2.2.2.1,.c fun vv=>vv.1.2.2.2.2.2.2.2.2.2.2.2.2.2.2.2.2.2.2.2.2.2.2.2.2.2.2.2.2.1,.c fun vv=>vv.1.2.2.2.2.2.2.2.2.2.2.2.2.2.2.2.2.2.2.2.2.2.2.2.2.2.2.2.2.2.1,.c fun vv=>vv.1.2.2.2.2.2.2.2.2.2.2.2.2.2.2.2.2.2.2.2.2.2.2.2.2.2.2.2.2.2.2.1,.c fun vv=>vv.1.2.2.2.2.2.2.2.2.2.2.2.2.2.2.2.2.2.2.2.2.2.2.2.2.2.2.2.2.2.2.2.1,.c fun vv=>vv.1.2.2.2.2.2.2.2.2.2.2.2.2.2.2.2.2.2.2.2.2.2.2.2.2.2.2.2.2.2.2.2.2,.c fun _=>u17,.c fun _=>u20,.c fun _=>u21,.c fun _=>u22,.c fun _=>u23,.c fun _=>u24,.c fun _=>u25,.c fun _=>u26,.c fun _=>u12,.c fun _=>u11,.c fun _=>u10,.c fun _=>u14,.c fun _=>u18,.c fun _=>u19]⟩
def jnl (u17:ByteArray) (u18:List (List NC)) (u19:List Int) (u16:Int) (u20:List (List Nat)) (u21:List (List (List Int))) (u22:List (List Nat)) (u23:List Int) (u24:List (List Nat)) (u25:List (List (List Int))) (u26:List Int) (u13:ByteArray) (u7:Int) (u12:List Int) (u11:List Int) (u10:List Int) (u9:Int) (u14:List (List Int)) (u15:Int) (u44:Int) (u45:Int) (r:Int × Int × Int × Int × Int × Int × Int × Int × Int × Int × Int × Int × Int × Int × Int × Int × Int × Int × Int × Int × Int × Int × Int × Int × Int × Int × Int × Int × Int × Int × Int × Int):Sk (top r) (Option.bind (jag (jdR u17 u18 u19 u16 u20 u21 u22 u23 u24 u25 u26 u12 u11 u44 u45) big (((0:Int),0,0,0,0,0,0,0,0,0,0,0,0,0,0,0,0,0,0,0,0,0,0,0,0,0,0,0,0,0,0,0,0))) (jdS)) :=
 .loop (jgO u17 u18 u19 u16 u20 u21 u22 u23 u24 u25 u26 u13 u7 u12 u11 u10 u9 u14 u15 u44 u45 r) (fun kk=>(((0:Int),0,0,0,0,0,0,0,0,0,0,0,0,0,0,0,0,0,0,0,0,0,0,0,0,0,0,0,0,0,0,0,0),big)) fun z0 =>
 .br
 (.ob (.ob (.ob (.ob (.call (.ob (.ob (.next))))))))
 (.exit (.obT (.rc)))
def joO (u17:ByteArray) (u18:List (List NC)) (u19:List Int) (u16:Int) (u20:List (List Nat)) (u21:List (List (List Int))) (u22:List (List Nat)) (u23:List Int) (u24:List (List Nat)) (u25:List (List (List Int))) (u26:List Int) (u13:ByteArray) (u7:Int) (u12:List Int) (u11:List Int) (u10:List Int) (u9:Int) (u14:List (List Int)) (u15:Int) (u44:Int) (u45:Int) (r:Int × Int × Int × Int × Int × Int × Int × Int × Int × Int × Int × Int × Int × Int × Int × Int × Int × Int × Int × Int × Int × Int × Int × Int × Int × Int × Int × Int × Int × Int × Int × Int):Sk (top r) (jah u17 u18 u19 u16 u20 u21 u22 u23 u24 u25 u26 u13 u7 u12 u11 u10 u9 u14 u15 u44 u45) :=
 jnl u17 u18 u19 u16 u20 u21 u22 u23 u24 u25 u26 u13 u7 u12 u11 u10 u9 u14 u15 u44 u45 r
theorem jnm (u17:ByteArray) (u18:List (List NC)) (u19:List Int) (u16:Int) (u20:List (List Nat)) (u21:List (List (List Int))) (u22:List (List Nat)) (u23:List Int) (u24:List (List Nat)) (u25:List (List (List Int))) (u26:List Int) (u13:ByteArray) (u7:Int) (u12:List Int) (u11:List Int) (u10:List Int) (u9:Int) (u14:List (List Int)) (u15:Int) (u44:Int) (u45:Int) (r:Int × Int × Int × Int × Int × Int × Int × Int × Int × Int × Int × Int × Int × Int × Int × Int × Int × Int × Int × Int × Int × Int × Int × Int × Int × Int × Int × Int × Int × Int × Int × Int) (h:Option.bind (jah u17 u18 u19 u16 u20 u21 u22 u23 u24 u25 u26 u13 u7 u12 u11 u10 u9 u14 u15 u44 u45) some=some r):ja5 Tryz.f148 ((sp_149 sp0)) (fun gs id _=>match id with
 |0=>some ⟨(Int × Int × Int × Int × Int × Int × Int × Int × Int × Int × Int × Int × Int × Int × Int × Int × Int × Int × Int × Int × Int × Int × Int × Int × Int × Int × Int × Int × Int × Int × Int × Int × Int) × Nat,fun z=>⟨[(0,.w (.c (.p 10 0 1 0))),(2,.w (.c (.d (.i .i64 u44)))),(3,.w (.c (.d (.i .i64 u45)))),(5,.w (.c (.p 15 0 1 0))),(8,.w (.c (.p 16 0 1 0))),(9,.w (.c (.p 17 0 1 0))),(11,.w (.c (.d (.i .i64 z.1.1))))],[(10,.ebox [.p 2 0 1 0,.d (.i .i64 u16),.o 3,.o 4,.o 5,.o 6,.o 7,.o 8,.o 9]),(15,.box 118 [.d (.s u13),.d (.i .i64 u7),.o 11,.o 12,.o 13,.d (.i .i64 u9),.o 14,.d (.i .i64 u15)]),(16,.box 206 [.d (.i .i64 0),.d (.i .i64 0),.d (.i .i64 0),.d (.i .i64 0),.d (.i .i64 0),.d (.i .i64 0),.d (.i .i64 0),.d (.i .i64 0),.d (.i .i64 0),.d (.i .i64 0),.d (.i .i64 0),.d (.i .i64 0),.d (.i .i64 0),.d (.i .i64 0),.d (.i .i64 0),.d (.i .i64 0),.d (.i .i64 0),.d (.i .i64 0),.d (.i .i64 0),.d (.i .i64 0),.d (.i .i64 0),.d (.i .i64 0),.d (.i .i64 0),.d (.i .i64 0),.d (.i .i64 0),.d (.i .i64 0),.d (.i .i64 0),.d (.i .i64 0),.d (.i .i64 0),.d (.i .i64 0),.d (.i .i64 0),.d (.i .i64 0)]),(17,.box 206 [.d (.i .i64 z.1.2.1),.d (.i .i64 z.1.2.2.1),.d (.i .i64 z.1.2.2.2.1),.d (.i .i64 z.1.2.2.2.2.1),.d (.i .i64 z.1.2.2.2.2.2.1),.d (.i .i64 z.1.2.2.2.2.2.2.1),.d (.i .i64 z.1.2.2.2.2.2.2.2.1),.d (.i .i64 z.1.2.2.2.2.2.2.2.2.1),.d (.i .i64 z.1.2.2.2.2.2.2.2.2.2.1),.d (.i .i64 z.1.2.2.2.2.2.2.2.2.2.2.1),.d (.i .i64 z.1.2.2.2.2.2.2.2.2.2.2.2.1),.d (.i .i64 z.1.2.2.2.2.2.2.2.2.2.2.2.2.1),.d (.i .i64 z.1.2.2.2.2.2.2.2.2.2.2.2.2.2.1),.d (.i .i64 z.1.2.2.2.2.2.2.2.2.2.2.2.2.2.2.1),.d (.i .i64 z.1.2.2.2.2.2.2.2.2.2.2.2.2.2.2.2.1),.d (.i .i64 z.1.2.2.2.2.2.2.2.2.2.2.2.2.2.2.2.2.1),.d (.i .i64 z.1.2.2.2.2.2.2.2.2.2.2.2.2.2.2.2.2.2.1),.d (.i .i64 z.1.2.2.2.2.2.2.2.2.2.2.2.2.2.2.2.2.2.2.1),.d (.i .i64 z.1.2.2.2.2.2.2.2.2.2.2.2.2.2.2.2.2.2.2.2.1),.d (.i .i64 z.1.2.2.2.2.2.2.2.2.2.2.2.2.2.2.2.2.2.2.2.2.1),.d (.i .i64 z.1.2.2.2.2.2.2.2.2.2.2.2.2.2.2.2.2.2.2.2.2.2.1),.d (.i .i64 z.1.2.2.2.2.2.2.2.2.2.2.2.2.2.2.2.2.2.2.2.2.2.2.1),.d (.i .i64 z.1.2.2.2.2.2.2.2.2.2.2.2.2.2.2.2.2.2.2.2.2.2.2.2.1),.d (.i .i64 z.1.2.2.2.2.2.2.2.2.2.2.2.2.2.2.2.2.2.2.2.2.2.2.2.2.1),.d (.i .i64 z.1.2.2.2.2.2.2.2.2.2.2.2.2.2.2.2.2.2.2.2.2.2.2.2.2.2.1),.d (.i .i64 z.1.2.2.2.2.2.2.2.2.2.2.2.2.2.2.2.2.2.2.2.2.2.2.2.2.2.2.1),.d (.i .i64 z.1.2.2.2.2.2.2.2.2.2.2.2.2.2.2.2.2.2.2.2.2.2.2.2.2.2.2.2.1),.d (.i .i64 z.1.2.2.2.2.2.2.2.2.2.2.2.2.2.2.2.2.2.2.2.2.2.2.2.2.2.2.2.2.1),.d (.i .i64 z.1.2.2.2.2.2.2.2.2.2.2.2.2.2.2.2.2.2.2.2.2.2.2.2.2.2.2.2.2.2.1),.d (.i .i64 z.1.2.2.2.2.2.2.2.2.2.2.2.2.2.2.2.2.2.2.2.2.2.2.2.2.2.2.2.2.2.2.1),.d (.i .i64 z.1.2.2.2.2.2.2.2.2.2.2.2.2.2.2.2.2.2.2.2.2.2.2.2.2.2.2.2.2.2.2.2.1),.d (.i .i64 z.1.2.2.2.2.2.2.2.2.2.2.2.2.2.2.2.2.2.2.2.2.2.2.2.2.2.2.2.2.2.2.2.2)]),(2,.ebox [.d (.s u17),.o 0,.o 1]),(3,.xext (XC.ff .f32 u20)),(4,.xext (XC.rr (4:Nat) u21)),(5,.ext (.frs .f32 32 u22)),(6,.ext (.ints .i64 u23)),(7,.ext (.frs .f32 32 u24)),(8,.xext (XC.rr (4:Nat) u25)),(9,.ext (.ints .i64 u26)),(11,.ext (.ints .i64 u12)),(12,.ext (.ints .i64 u11)),(13,.ext (.ints .i64 u10)),(14,.ext (.recs 5 u14)),(0,.xext (XC.st [NK.s,NK.i .i64,NK.ints .i64,NK.ints .i64,NK.ints .i64,NK.i .i64,NK.recs (5:Nat),NK.i .i64] u18)),(1,.ext (.ints .i64 u19))],18⟩,fun z=>(jgO u17 u18 u19 u16 u20 u21 u22 u23 u24 u25 u26 u13 u7 u12 u11 u10 u9 u14 u15 u44 u45 r).inv z,fun z=>z.2⟩
 |_=>none) (ja0 jer [.d (.s u17),.x (.st [.s,.i .i64,.ints .i64,.ints .i64,.ints .i64,.i .i64,.recs 5,.i .i64] u18),.r (.ints .i64 u19),.d (.i .i64 u16),.x (.ff .f32 u20),.x (.rr 4 u21),.r (.frs .f32 32 u22),.r (.ints .i64 u23),.r (.frs .f32 32 u24),.x (.rr 4 u25),.r (.ints .i64 u26),.d (.s u13),.d (.i .i64 u7),.r (.ints .i64 u12),.r (.ints .i64 u11),.r (.ints .i64 u10),.d (.i .i64 u9),.r (.recs 5 u14),.d (.i .i64 u15),.d (.i .i64 u44),.d (.i .i64 u45)]) [.s [.d (.i .i64 r.1),.d (.i .i64 r.2.1),.d (.i .i64 r.2.2.1),.d (.i .i64 r.2.2.2.1),.d (.i .i64 r.2.2.2.2.1),.d (.i .i64 r.2.2.2.2.2.1),.d (.i .i64 r.2.2.2.2.2.2.1),.d (.i .i64 r.2.2.2.2.2.2.2.1),.d (.i .i64 r.2.2.2.2.2.2.2.2.1),.d (.i .i64 r.2.2.2.2.2.2.2.2.2.1),.d (.i .i64 r.2.2.2.2.2.2.2.2.2.2.1),.d (.i .i64 r.2.2.2.2.2.2.2.2.2.2.2.1),.d (.i .i64 r.2.2.2.2.2.2.2.2.2.2.2.2.1),.d (.i .i64 r.2.2.2.2.2.2.2.2.2.2.2.2.2.1),.d (.i .i64 r.2.2.2.2.2.2.2.2.2.2.2.2.2.2.1),.d (.i .i64 r.2.2.2.2.2.2.2.2.2.2.2.2.2.2.2.1),.d (.i .i64 r.2.2.2.2.2.2.2.2.2.2.2.2.2.2.2.2.1),.d (.i .i64 r.2.2.2.2.2.2.2.2.2.2.2.2.2.2.2.2.2.1),.d (.i .i64 r.2.2.2.2.2.2.2.2.2.2.2.2.2.2.2.2.2.2.1),.d (.i .i64 r.2.2.2.2.2.2.2.2.2.2.2.2.2.2.2.2.2.2.2.1),.d (.i .i64 r.2.2.2.2.2.2.2.2.2.2.2.2.2.2.2.2.2.2.2.2.1),.d (.i .i64 r.2.2.2.2.2.2.2.2.2.2.2.2.2.2.2.2.2.2.2.2.2.1),.d (.i .i64 r.2.2.2.2.2.2.2.2.2.2.2.2.2.2.2.2.2.2.2.2.2.2.1),.d (.i .i64 r.2.2.2.2.2.2.2.2.2.2.2.2.2.2.2.2.2.2.2.2.2.2.2.1),.d (.i .i64 r.2.2.2.2.2.2.2.2.2.2.2.2.2.2.2.2.2.2.2.2.2.2.2.2.1),.d (.i .i64 r.2.2.2.2.2.2.2.2.2.2.2.2.2.2.2.2.2.2.2.2.2.2.2.2.2.1),.d (.i .i64 r.2.2.2.2.2.2.2.2.2.2.2.2.2.2.2.2.2.2.2.2.2.2.2.2.2.2.1),.d (.i .i64 r.2.2.2.2.2.2.2.2.2.2.2.2.2.2.2.2.2.2.2.2.2.2.2.2.2.2.2.1),.d (.i .i64 r.2.2.2.2.2.2.2.2.2.2.2.2.2.2.2.2.2.2.2.2.2.2.2.2.2.2.2.2.1),.d (.i .i64 r.2.2.2.2.2.2.2.2.2.2.2.2.2.2.2.2.2.2.2.2.2.2.2.2.2.2.2.2.2.1),.d (.i .i64 r.2.2.2.2.2.2.2.2.2.2.2.2.2.2.2.2.2.2.2.2.2.2.2.2.2.2.2.2.2.2.1),.d (.i .i64 r.2.2.2.2.2.2.2.2.2.2.2.2.2.2.2.2.2.2.2.2.2.2.2.2.2.2.2.2.2.2.2)]] :=
 Sk.vc (joO u17 u18 u19 u16 u20 u21 u22 u23 u24 u25 u26 u13 u7 u12 u11 u10 u9 u14 u15 u44 u45 r) (by kernel_rfl) h
theorem jnn:jaf Tryz.prog 148 true (jai jer jes):=by
 refine jav (sp:=(sp_149 sp0)) (fn:=Tryz.f148) (body:=bodyOf Tryz.f148) mixed (sp_149_ok jau) Tryz.func148 (by kernel_rfl) (by kernel_rfl) fun ls t h ho b hb=>?_
 unfold jes at h
 split at h
 ·rename_i u17 u18 u19 u16 u20 u21 u22 u23 u24 u25 u26 u13 u7 u12 u11 u10 u9 u14 u15 u44 u45
  cases h
  obtain rfl:=jaL hb
  exact⟨Nat.le_of_ble_eq_true (by kernel_rfl),_,_,jnm u17 u18 u19 u16 u20 u21 u22 u23 u24 u25 u26 u13 u7 u12 u11 u10 u9 u14 u15 u44 u45 _ (jap ho)⟩
 ·cases h
end Go.Sh
end

section
namespace Go.Sh
open Go Go.Proofs Go.RowKit Go.Sx
open Go.IntKind (wrap)
def jet:List SV:=[.c (.p [.p [.d,.x (.st [.s,.i .i64,.ints .i64,.ints .i64,.ints .i64,.i .i64,.recs 5,.i .i64] []),.r (.ints .i64 [])],.d,.x (.ff .f32 []),.x (.rr 4 []),.r (.frs .f32 32 []),.r (.ints .i64 []),.r (.frs .f32 32 []),.x (.rr 4 []),.r (.ints .i64 [])])]
def jgP (u17:ByteArray) (u18:List (List NC)) (u19:List Int) (u16:Int) (u20:List (List Nat)) (u21:List (List (List Int))) (u22:List (List Nat)) (u23:List Int) (u24:List (List Nat)) (u25:List (List (List Int))) (u26:List Int) (x0:Int × List (List Nat)) (x1:(Int × List Nat)):Option ((Int × List Nat) ⊕ (List Nat)) :=
 if x1.1<32 then
  Option.bind (jpM u17 u18 u19 u16 u20 u21 u22 u23 u24 u25 u26 x0.1 x1.1) fun r0 =>
  if(List.length x1.2+List.length [FloatKind.nearest .f32 r0])*4≤140737488355328∧List.length x1.2+List.length [FloatKind.nearest .f32 r0]≤9223372036854775807 then
  some (.inl ((wrap .i64 (x1.1+1),x1.2++[FloatKind.nearest .f32 r0])))
  else none
 else
  some (.inr x1.2)
def jgQ (x0:Int × List (List Nat)) (u29:List Nat):Option ((Int × List (List Nat)) ⊕ (List (List Nat))) :=
 if(List.length x0.2+List.length (List.map (fun r=>NC.toFlts (List.headD r (NC.d (D.v undef)))) [[NC.r (Cont.floats .f32 u29)]]))*24≤140737488355328∧List.length x0.2+List.length (List.map (fun r=>NC.toFlts (List.headD r (NC.d (D.v undef)))) [[NC.r (Cont.floats .f32 u29)]])≤9223372036854775807 then
  some (.inl ((wrap .i64 (x0.1+1),x0.2++List.map (fun r=>NC.toFlts (List.headD r (NC.d (D.v undef)))) [[NC.r (Cont.floats .f32 u29)]])))
 else none
def jdT (u17:ByteArray) (u18:List (List NC)) (u19:List Int) (u16:Int) (u20:List (List Nat)) (u21:List (List (List Int))) (u22:List (List Nat)) (u23:List Int) (u24:List (List Nat)) (u25:List (List (List Int))) (u26:List Int) (x0:(Int × List (List Nat))):Option ((Int × List (List Nat)) ⊕ (List (List Nat))) :=
 if x0.1<(↑u18.length:Int)then
  Option.bind (jag (jgP u17 u18 u19 u16 u20 u21 u22 u23 u24 u25 u26 x0) big (((-96:Int),[]))) (jgQ x0)
 else
  some (.inr x0.2)
def jdU (u16:Int) (u5:List (List Nat)):Option (Int × List (List Nat)) :=
 some ((wrap .i64 (u16+1),u5))
def jb5 (u17:ByteArray) (u18:List (List NC)) (u19:List Int) (u16:Int) (u20:List (List Nat)) (u21:List (List (List Int))) (u22:List (List Nat)) (u23:List Int) (u24:List (List Nat)) (u25:List (List (List Int))) (u26:List Int):Option (Int × List (List Nat)) :=
 Option.bind (jag (jdT u17 u18 u19 u16 u20 u21 u22 u23 u24 u25 u26) big (((0:Int),[]))) (jdU u16)
def jeu:List Lf→Option GT
 |[.d (.s u17),.x (.st [.s,.i .i64,.ints .i64,.ints .i64,.ints .i64,.i .i64,.recs 5,.i .i64] u18),.r (.ints .i64 u19),.d (.i .i64 u16),.x (.ff .f32 u20),.x (.rr 4 u21),.r (.frs .f32 32 u22),.r (.ints .i64 u23),.r (.frs .f32 32 u24),.x (.rr 4 u25),.r (.ints .i64 u26)]=>some (.leaf (ok (jb5 u17 u18 u19 u16 u20 u21 u22 u23 u24 u25 u26)) [.s [.d (.i .i64 ((val (jb5 u17 u18 u19 u16 u20 u21 u22 u23 u24 u25 u26)).1)),.x 157 (.ff .f32 ((val (jb5 u17 u18 u19 u16 u20 u21 u22 u23 u24 u25 u26)).2)),.g 8]])
 |_=>none
abbrev jdV (u17:ByteArray) (u18:List (List NC)) (u19:List Int) (u16:Int) (u20:List (List Nat)) (u21:List (List (List Int))) (u22:List (List Nat)) (u23:List Int) (u24:List (List Nat)) (u25:List (List (List Int))) (u26:List Int) (r:Int × List (List Nat)):Lp ((Int × List (List Nat)) × Nat) ((Int × List (List Nat))) ((List (List Nat))) ((Int × List (List Nat))) (Int × List (List Nat)) :=
 ⟨fun z=>z.1,fun z=>z.2,fun z x n=>(x,n),fun z=>jdT u17 u18 u19 u16 u20 u21 u22 u23 u24 u25 u26,fun z=>jdU u16,fun z=>top r,fun z=>0,[.c fun _=>0,.c fun _=>0,.c fun _=>0,.c fun _=>(↑u18.length:Int),.c fun vv=>vv.1.1,.c fun _=>0,.c fun _=>u16,.c fun _=>(0:Int),.c fun _=>Value.slice none (0:Nat) (0:Nat),.c fun _=>Value.slice none (0:Nat) (0:Nat),.c fun _=>wrap .i64 (u16+1),.c fun _=>u17,.c fun _=>u20,.c fun _=>u21,.c fun _=>u22,.c fun _=>u23,.c fun _=>u24,.c fun _=>u25,.c fun _=>u26,.c fun vv=>vv.1.2,.c fun _=>u18,.c fun _=>u19]⟩
abbrev jgR (u17:ByteArray) (u18:List (List NC)) (u19:List Int) (u16:Int) (u20:List (List Nat)) (u21:List (List (List Int))) (u22:List (List Nat)) (u23:List Int) (u24:List (List Nat)) (u25:List (List (List Int))) (u26:List Int) (r:Int × List (List Nat)) (m1:Nat):Lp ((Int × List (List Nat)) × Nat × (Int × List Nat) × Nat) (Int × List Nat) (List Nat) (((Int × List (List Nat)) ⊕ (List (List Nat)))) (Int × List (List Nat)) :=
 ⟨fun z=>z.2.2.1,fun z=>z.2.2.2,fun z x n=>(z.1,z.2.1,x,n),fun z=>jgP u17 u18 u19 u16 u20 u21 u22 u23 u24 u25 u26 z.1,fun z=>jgQ z.1,fun z=>(jdV u17 u18 u19 u16 u20 u21 u22 u23 u24 u25 u26 r).cx (z.1,m1),fun z=>z.2.1,[.c fun _=>0,.c fun _=>0,.c fun _=>0,.c fun vv=>vv.1.1,.c fun vv=>vv.2.2.1.1,.c fun _=>(↑u18.length:Int),.c fun vv=>vv.1.1,.c fun _=>0,.c fun _=>u16,.c fun _=>(0:Int),.c fun _=>Value.slice none (0:Nat) (0:Nat),.c fun _=>Value.slice none (0:Nat) (0:Nat),.c fun _=>wrap .i64 (u16+1),.c fun vv=>vv.2.2.1.2,.c fun _=>u17,.c fun _=>u20,.c fun _=>u21,.c fun _=>u22,.c fun _=>u23,.c fun _=>u24,.c fun _=>u25,.c fun _=>u26,.c fun vv=>vv.1.2,.c fun _=>u18,.c fun _=>u19]⟩
def jno (u17:ByteArray) (u18:List (List NC)) (u19:List Int) (u16:Int) (u20:List (List Nat)) (u21:List (List (List Int))) (u22:List (List Nat)) (u23:List Int) (u24:List (List Nat)) (u25:List (List (List Int))) (u26:List Int) (r:Int × List (List Nat)):Sk (top r) (Option.bind (jag (jdT u17 u18 u19 u16 u20 u21 u22 u23 u24 u25 u26) big (((0:Int),[]))) (jdU u16)) :=
 .loopQ (jdV u17 u18 u19 u16 u20 u21 u22 u23 u24 u25 u26 r) [.c fun _=>0,.c fun _=>0,.c fun _=>0,.c fun _=>(↑u18.length:Int),.c fun vv=>vv.1.1,.c fun _=>0,.c fun _=>u16,.c fun _=>(0:Int),.c fun _=>Value.slice none (0:Nat) (0:Nat),.c fun _=>Value.slice none (0:Nat) (0:Nat),.c fun _=>wrap .i64 (u16+1),.c fun _=>u17,.c fun _=>u20,.c fun _=>u21,.c fun _=>u22,.c fun _=>u23,.c fun _=>u24,.c fun _=>u25,.c fun _=>u26,.p fun vv=>List.length vv.1.2=(0:Nat),.c fun _=>u18,.c fun _=>u19] (fun kk=>(((0:Int),[]),big)) (fun z0 =>
 .br
 (.loopQ (jgR u17 u18 u19 u16 u20 u21 u22 u23 u24 u25 u26 r z0.2) [.c fun _=>0,.c fun _=>0,.c fun _=>0,.c fun vv=>vv.1.1,.c fun vv=>vv.2.2.1.1,.c fun _=>(↑u18.length:Int),.c fun vv=>vv.1.1,.c fun _=>0,.c fun _=>u16,.c fun _=>(0:Int),.c fun _=>Value.slice none (0:Nat) (0:Nat),.c fun _=>Value.slice none (0:Nat) (0:Nat),.c fun _=>wrap .i64 (u16+1),.p fun vv=>List.length vv.2.2.1.2=(0:Nat),.c fun _=>u17,.c fun _=>u20,.c fun _=>u21,.c fun _=>u22,.c fun _=>u23,.c fun _=>u24,.c fun _=>u25,.c fun _=>u26,.c fun vv=>vv.1.2,.c fun _=>u18,.c fun _=>u19] (fun kk=>(z0.1,kk,((-96:Int),[]),big)) (fun z1 =>
 .br
 (.call (.obT (.ob (.next))))
 (.exit (.ob (.next)))) (fun _=>⟨rfl,trivial⟩))
 (.exit (.obT (.rc)))) (fun _=>⟨rfl,trivial⟩)
def joP (u17:ByteArray) (u18:List (List NC)) (u19:List Int) (u16:Int) (u20:List (List Nat)) (u21:List (List (List Int))) (u22:List (List Nat)) (u23:List Int) (u24:List (List Nat)) (u25:List (List (List Int))) (u26:List Int) (r:Int × List (List Nat)):Sk (top r) (jb5 u17 u18 u19 u16 u20 u21 u22 u23 u24 u25 u26) :=
 .obT (.obT (.obT (.obT (jno u17 u18 u19 u16 u20 u21 u22 u23 u24 u25 u26 r))))
theorem jnp (u17:ByteArray) (u18:List (List NC)) (u19:List Int) (u16:Int) (u20:List (List Nat)) (u21:List (List (List Int))) (u22:List (List Nat)) (u23:List Int) (u24:List (List Nat)) (u25:List (List (List Int))) (u26:List Int) (r:Int × List (List Nat)) (h:Option.bind (jb5 u17 u18 u19 u16 u20 u21 u22 u23 u24 u25 u26) some=some r):ja5 Tryz.f106 ((sp_149 sp0)) (fun gs id _=>match id with
 |0=>some ⟨(Int × List (List Nat)) × Nat,fun z=>⟨[(0,.w (.c (.p 10 0 1 0))),(2,.w (.c (.p 11 0 1 0))),(3,.w (.c (.p 12 0 1 0))),(26,.w (.c (.d (.i .i64 ((↑u18.length:Int)))))),(27,.w (.c (.d (.i .i64 z.1.1))))],[(10,.ebox [.p 2 0 1 0,.d (.i .i64 u16),.o 3,.o 4,.o 5,.o 6,.o 7,.o 8,.o 9]),(11,.box 78 [.d (.i .i64 0),.d (.v (Value.slice none (0:Nat) (0:Nat))),.d (.v (Value.slice none (0:Nat) (0:Nat)))]),(12,.box 78 [.d (.i .i64 (wrap .i64 (u16+1))),.o 13,.o 8]),(2,.ebox [.d (.s u17),.o 0,.o 1]),(3,.xext (XC.ff .f32 u20)),(4,.xext (XC.rr (4:Nat) u21)),(5,.ext (.frs .f32 32 u22)),(6,.ext (.ints .i64 u23)),(7,.ext (.frs .f32 32 u24)),(8,.xext (XC.rr (4:Nat) u25)),(9,.ext (.ints .i64 u26)),(13,.xrow 157 (XC.ff .f32 z.1.2)),(0,.xext (XC.st [NK.s,NK.i .i64,NK.ints .i64,NK.ints .i64,NK.ints .i64,NK.i .i64,NK.recs (5:Nat),NK.i .i64] u18)),(1,.ext (.ints .i64 u19))],14⟩,fun z=>(jdV u17 u18 u19 u16 u20 u21 u22 u23 u24 u25 u26 r).inv z,fun z=>z.2⟩
 |2=>some ⟨(Int × List (List Nat)) × Nat × (Int × List Nat) × Nat,fun z=>⟨[(0,.w (.c (.p 10 0 1 0))),(2,.w (.c (.p 11 0 1 0))),(3,.w (.c (.p 12 0 1 0))),(4,.w (.c (.d (.i .i64 (z.1.1))))),(5,.w (.c (.o 13))),(6,.w (.c (.d (.i .i64 z.2.2.1.1)))),(26,.w (.c (.d (.i .i64 ((↑u18.length:Int)))))),(27,.w (.c (.d (.i .i64 (z.1.1)))))],[(10,.ebox [.p 2 0 1 0,.d (.i .i64 u16),.o 3,.o 4,.o 5,.o 6,.o 7,.o 8,.o 9]),(11,.box 78 [.d (.i .i64 0),.d (.v (Value.slice none (0:Nat) (0:Nat))),.d (.v (Value.slice none (0:Nat) (0:Nat)))]),(12,.box 78 [.d (.i .i64 (wrap .i64 (u16+1))),.o 14,.o 8]),(13,.row 108 (.floats .f32 z.2.2.1.2)),(2,.ebox [.d (.s u17),.o 0,.o 1]),(3,.xext (XC.ff .f32 u20)),(4,.xext (XC.rr (4:Nat) u21)),(5,.ext (.frs .f32 32 u22)),(6,.ext (.ints .i64 u23)),(7,.ext (.frs .f32 32 u24)),(8,.xext (XC.rr (4:Nat) u25)),(9,.ext (.ints .i64 u26)),(14,.xrow 157 (XC.ff .f32 z.1.2)),(0,.xext (XC.st [NK.s,NK.i .i64,NK.ints .i64,NK.ints .i64,NK.ints .i64,NK.i .i64,NK.recs (5:Nat),NK.i .i64] u18)),(1,.ext (.ints .i64 u19))],15⟩,fun z=>(jgR u17 u18 u19 u16 u20 u21 u22 u23 u24 u25 u26 r (gs.getD 0 0)).inv z,fun z=>z.2.2.2⟩
 |_=>none) (ja0 jet [.d (.s u17),.x (.st [.s,.i .i64,.ints .i64,.ints .i64,.ints .i64,.i .i64,.recs 5,.i .i64] u18),.r (.ints .i64 u19),.d (.i .i64 u16),.x (.ff .f32 u20),.x (.rr 4 u21),.r (.frs .f32 32 u22),.r (.ints .i64 u23),.r (.frs .f32 32 u24),.x (.rr 4 u25),.r (.ints .i64 u26)]) [.s [.d (.i .i64 r.1),.x 157 (.ff .f32 r.2),.g 8]] :=
 Sk.vc (joP u17 u18 u19 u16 u20 u21 u22 u23 u24 u25 u26 r) (by kernel_rfl) h
theorem jnq:jaf Tryz.prog 106 true (jai jet jeu):=by
 refine jav (sp:=(sp_149 sp0)) (fn:=Tryz.f106) (body:=bodyOf Tryz.f106) mixed (sp_149_ok jau) Tryz.func106 (by kernel_rfl) (by kernel_rfl) fun ls t h ho b hb=>?_
 unfold jeu at h
 split at h
 ·rename_i u17 u18 u19 u16 u20 u21 u22 u23 u24 u25 u26
  cases h
  obtain rfl:=jaL hb
  exact⟨Nat.le_of_ble_eq_true (by kernel_rfl),_,_,jnp u17 u18 u19 u16 u20 u21 u22 u23 u24 u25 u26 _ (jap ho)⟩
 ·cases h
end Go.Sh
end

section
namespace Go.Sh
open Go Go.Proofs Go.RowKit Go.Sx
def jgS:List Lf→Option (List RR)
 |[.d (.i .i64 l0),.d (.i .i64 l1),.d (.i .i64 l2),.d (.i .i64 l3),.d (.i .i64 l4),.d (.i .i64 l5),.d (.i .i64 l6),.d (.i .i64 l7),.d (.i .i64 l8),.d (.i .i64 l9),.d (.i .i64 l10),.d (.i .i64 l11),.d (.i .i64 l12),.d (.i .i64 l13),.d (.i .i64 l14),.d (.i .i64 l15),.d (.i .i64 l16),.d (.i .i64 l17),.d (.i .i64 l18),.d (.i .i64 l19),.d (.i .i64 l20),.d (.i .i64 l21),.d (.i .i64 l22),.d (.i .i64 l23),.d (.i .i64 l24),.d (.i .i64 l25),.d (.i .i64 l26),.d (.i .i64 l27),.d (.i .i64 l28),.d (.i .i64 l29),.d (.i .i64 l30),.d (.i .i64 l31)]=>match jfs l0 l1 l2 l3 l4 l5 l6 l7 l8 l9 l10 l11 l12 l13 l14 l15 l16 l17 l18 l19 l20 l21 l22 l23 l24 l25 l26 l27 l28 l29 l30 l31 with
  |some v=>some [.b .f32 32 (v)]
  |none=>none
 |_=>none
theorem joQ:∀ls rs,jgS ls=some rs→∃t,jho ls=some t∧t.sel.2=rs∧t.sel.1:=by
 intro ls rs h
 unfold jgS at h
 split at h
 ·split at h
  ·rename_i v hv
   cases h
   exact⟨_,rfl,by simp only[GT.sel,hv]; rfl,jfZ hv⟩
  ·cases h
 ·cases h
def jdW:List Lf→Option (List RR)
 |[.d (.s r_graphEngineGraphName),.x (.st [.s,.i .i64,.ints .i64,.ints .i64,.ints .i64,.i .i64,.recs 5,.i .i64] r_graphEngineGraphUnits),.r (.ints .i64 r_graphorder),.d (.i .i64 r_beforeBlocks),.x (.ff .f32 r_beforePast),.x (.rr 4 r_beforeFilters),.r (.frs .f32 32 r_in),.r (.ints .i64 r_who),.r (.frs .f32 32 r_given),.x (.rr 4 r_after),.r (.ints .i64 r_cuts),.d (.s uName),.d (.i .i64 uKind),.r (.ints .i64 uFrom),.r (.ints .i64 uAlign),.r (.ints .i64 uGains),.d (.i .i64 uDelay),.r (.recs 5 uCascade),.d (.i .i64 uStand),.d (.i .i64 from_),.d (.i .i64 later)]=>match jah r_graphEngineGraphName r_graphEngineGraphUnits r_graphorder r_beforeBlocks r_beforePast r_beforeFilters r_in r_who r_given r_after r_cuts uName uKind uFrom uAlign uGains uDelay uCascade uStand from_ later with
  |some v=>some [.s [.d (.i .i64 (v.1)),.d (.i .i64 (v.2.1)),.d (.i .i64 (v.2.2.1)),.d (.i .i64 (v.2.2.2.1)),.d (.i .i64 (v.2.2.2.2.1)),.d (.i .i64 (v.2.2.2.2.2.1)),.d (.i .i64 (v.2.2.2.2.2.2.1)),.d (.i .i64 (v.2.2.2.2.2.2.2.1)),.d (.i .i64 (v.2.2.2.2.2.2.2.2.1)),.d (.i .i64 (v.2.2.2.2.2.2.2.2.2.1)),.d (.i .i64 (v.2.2.2.2.2.2.2.2.2.2.1)),.d (.i .i64 (v.2.2.2.2.2.2.2.2.2.2.2.1)),.d (.i .i64 (v.2.2.2.2.2.2.2.2.2.2.2.2.1)),.d (.i .i64 (v.2.2.2.2.2.2.2.2.2.2.2.2.2.1)),.d (.i .i64 (v.2.2.2.2.2.2.2.2.2.2.2.2.2.2.1)),.d (.i .i64 (v.2.2.2.2.2.2.2.2.2.2.2.2.2.2.2.1)),.d (.i .i64 (v.2.2.2.2.2.2.2.2.2.2.2.2.2.2.2.2.1)),.d (.i .i64 (v.2.2.2.2.2.2.2.2.2.2.2.2.2.2.2.2.2.1)),.d (.i .i64 (v.2.2.2.2.2.2.2.2.2.2.2.2.2.2.2.2.2.2.1)),.d (.i .i64 (v.2.2.2.2.2.2.2.2.2.2.2.2.2.2.2.2.2.2.2.1)),.d (.i .i64 (v.2.2.2.2.2.2.2.2.2.2.2.2.2.2.2.2.2.2.2.2.1)),.d (.i .i64 (v.2.2.2.2.2.2.2.2.2.2.2.2.2.2.2.2.2.2.2.2.2.1)),.d (.i .i64 (v.2.2.2.2.2.2.2.2.2.2.2.2.2.2.2.2.2.2.2.2.2.2.1)),.d (.i .i64 (v.2.2.2.2.2.2.2.2.2.2.2.2.2.2.2.2.2.2.2.2.2.2.2.1)),.d (.i .i64 (v.2.2.2.2.2.2.2.2.2.2.2.2.2.2.2.2.2.2.2.2.2.2.2.2.1)),.d (.i .i64 (v.2.2.2.2.2.2.2.2.2.2.2.2.2.2.2.2.2.2.2.2.2.2.2.2.2.1)),.d (.i .i64 (v.2.2.2.2.2.2.2.2.2.2.2.2.2.2.2.2.2.2.2.2.2.2.2.2.2.2.1)),.d (.i .i64 (v.2.2.2.2.2.2.2.2.2.2.2.2.2.2.2.2.2.2.2.2.2.2.2.2.2.2.2.1)),.d (.i .i64 (v.2.2.2.2.2.2.2.2.2.2.2.2.2.2.2.2.2.2.2.2.2.2.2.2.2.2.2.2.1)),.d (.i .i64 (v.2.2.2.2.2.2.2.2.2.2.2.2.2.2.2.2.2.2.2.2.2.2.2.2.2.2.2.2.2.1)),.d (.i .i64 (v.2.2.2.2.2.2.2.2.2.2.2.2.2.2.2.2.2.2.2.2.2.2.2.2.2.2.2.2.2.2.1)),.d (.i .i64 (v.2.2.2.2.2.2.2.2.2.2.2.2.2.2.2.2.2.2.2.2.2.2.2.2.2.2.2.2.2.2.2))]]
  |none=>none
 |_=>none
theorem jjS:∀ls rs,jdW ls=some rs→∃t,jes ls=some t∧t.sel.2=rs∧t.sel.1:=by
 intro ls rs h
 unfold jdW at h
 split at h
 ·split at h
  ·rename_i v hv
   cases h
   exact⟨_,rfl,by simp only[GT.sel,hv]; rfl,jfZ hv⟩
  ·cases h
 ·cases h
def jjs:List Lf→Option (List RR)
 |[.d (.s gName),.x (.st [.s,.i .i64,.ints .i64,.ints .i64,.ints .i64,.i .i64,.recs 5,.i .i64] gUnits),.r (.ints .i64 order),.d (.i .i64 i),.r (.bools placed)]=>match jcN gUnits i placed with
  |some v=>some [.c (.d (.b v))]
  |none=>none
 |_=>none
theorem jqW:∀ls rs,jjs ls=some rs→∃t,jg9 ls=some t∧t.sel.2=rs∧t.sel.1:=by
 intro ls rs h
 unfold jjs at h
 split at h
 ·split at h
  ·rename_i v hv
   cases h
   exact⟨_,rfl,by simp only[GT.sel,hv]; rfl,jfZ hv⟩
  ·cases h
 ·cases h
def jdX:List Lf→Option (List RR)
 |[.d (.s r_graphEngineGraphName),.x (.st [.s,.i .i64,.ints .i64,.ints .i64,.ints .i64,.i .i64,.recs 5,.i .i64] r_graphEngineGraphUnits),.r (.ints .i64 r_graphorder),.d (.i .i64 r_beforeBlocks),.x (.ff .f32 r_beforePast),.x (.rr 4 r_beforeFilters),.r (.frs .f32 32 r_in),.r (.ints .i64 r_who),.r (.frs .f32 32 r_given),.x (.rr 4 r_after),.r (.ints .i64 r_cuts)]=>match jb5 r_graphEngineGraphName r_graphEngineGraphUnits r_graphorder r_beforeBlocks r_beforePast r_beforeFilters r_in r_who r_given r_after r_cuts with
  |some v=>some [.s [.d (.i .i64 (v.1)),.x 157 (.ff .f32 (v.2)),.g 8]]
  |none=>none
 |_=>none
theorem jjT:∀ls rs,jdX ls=some rs→∃t,jeu ls=some t∧t.sel.2=rs∧t.sel.1:=by
 intro ls rs h
 unfold jdX at h
 split at h
 ·split at h
  ·rename_i v hv
   cases h
   exact⟨_,rfl,by simp only[GT.sel,hv]; rfl,jfZ hv⟩
  ·cases h
 ·cases h
def jfK:List Lf→Option (List RR)
 |[.r (.ints .i64 l)]=>match jcd l with
  |some v=>some [.c (.row 3 (.ints .i64 v))]
  |none=>none
 |_=>none
theorem jnr:∀ls rs,jfK ls=some rs→∃t,jeq ls=some t∧t.sel.2=rs∧t.sel.1:=by
 intro ls rs h
 unfold jfK at h
 split at h
 ·split at h
  ·rename_i v hv
   cases h
   exact⟨_,rfl,by simp only[GT.sel,hv]; rfl,jfZ hv⟩
  ·cases h
 ·cases h
def jfL:List Lf→Option (List RR)
 |[.r (.recs 5 l)]=>match jdn l with
  |some v=>some [.c (.row 148 (.recs 5 v))]
  |none=>none
 |_=>none
theorem jns:∀ls rs,jfL ls=some rs→∃t,jgJ ls=some t∧t.sel.2=rs∧t.sel.1:=by
 intro ls rs h
 unfold jfL at h
 split at h
 ·split at h
  ·rename_i v hv
   cases h
   exact⟨_,rfl,by simp only[GT.sel,hv]; rfl,jfZ hv⟩
  ·cases h
 ·cases h
def jfM:List Lf→Option (List RR)
 |[.r (.recs 4 l)]=>match jdo l with
  |some v=>some [.c (.row 174 (.recs 4 v))]
  |none=>none
 |_=>none
theorem jnt:∀ls rs,jfM ls=some rs→∃t,jgK ls=some t∧t.sel.2=rs∧t.sel.1:=by
 intro ls rs h
 unfold jfM at h
 split at h
 ·split at h
  ·rename_i v hv
   cases h
   exact⟨_,rfl,by simp only[GT.sel,hv]; rfl,jfZ hv⟩
  ·cases h
 ·cases h
end Go.Sh
end

section
namespace Go.Sh
open Go Go.Proofs Go.RowKit Go.Sx
def jBh:Nat→Bool
 |22|42|75|76|98|138=>true
 |_=>false
abbrev jbi:Globs:={ tab:=fun _=>none,nestL:=jBh }
def xsR:List XC:=[.st [.s,.i .i64,.ints .i64,.ints .i64,.ints .i64,.i .i64,.recs 5,.i .i64] [],.rr 4 [],.ff .f32 []]
noncomputable def ovE:jaa:=fun f=>match f with
 |146=>some (true,jeU [] jhn jgS)
 |148=>some (true,jeU xsR jer jdW)
 |106=>some (true,jeU xsR jet jdX)
 |136=>some (true,jeU [] jgI jfK)
 |137=>some (true,jeU [] jld jfL)
 |144=>some (true,jeU [] jle jfM)
 |85=>some (true,jeU xsR jkZ jjs)
 |_=>none
def roE:Nat→Bool
 |76|77|78|84|160|165|176|177|180|164|175|172|149|122|123|124|125|126|127|128|129|134|140|156|157|158|159|89|24|133|93|94|99|145|146|147|148|104|105|135|136|137|144=>true
 |_=>false
theorem jgT {f:Nat} {xs:List XC} {shs:List SV} {g0:List Lf→Option GT} {g:List Lf→Option (List RR)} (hs:jaf Tryz.prog f true (jai shs g0))
  (hg:∀ls rs,g ls=some rs→∃t,g0 ls=some t∧t.sel.2=rs∧t.sel.1):@jaf jbi Tryz.prog f true (jeU xs shs g) :=
 @jAf jbi _ _ _ _ _ _ (jqf globs jbi rfl rfl hs) hg
theorem jxL:@jac jbi Tryz.prog ovE:=fun f M S h=>by
 unfold ovE at h
 split at h<;>cases h
 ·exact jgT jrZ joQ
 ·exact jgT jnn jjS
 ·exact jgT jnq jjT
 ·exact jgT jjz jnr
 ·exact jgT jqS jns
 ·exact jgT jqT jnt
 ·exact jgT jos jqW
theorem jsG:jbJ ovE:=fun f M S args hp nx t h hS=>by
 unfold ovE at h
 split at h<;>cases h<;>exact jxG hS
noncomputable def dpE:jaa:=@jm9 jbi Tryz.prog ovE roE 200 20
theorem jBi:@jac jbi Tryz.prog dpE:=(@jpI jbi _ _ _ _ mixed jxL jsG 20).1
theorem jzh:jbJ dpE:=(@jpI jbi _ _ _ _ mixed jxL jsG 20).2
noncomputable def jhd (c:Code) (st:St):Option (Ex × St):=@cx jbi Tryz.prog dpE Tryz.f16.ntmps 200 c st
noncomputable def pcE (n:Nat):Code:=(jhc (Tryz.f16.body.getD .skip)).getD n .skip
abbrev aO (h:Nat):V:=.w (.c (.o h))
abbrev aN:C:=.d (.v (.slice none 0 0))
abbrev aI (n:Int):C:=.d (.i .i64 n)
abbrev aR (l:List Int):O:=.row 3 (.ints .i64 l)
abbrev aH0:Nat × O:=(56,aR [0,1,2,3])
abbrev aH1:Nat × O:=(8,(.lbox 118 8 4 [(.d (.s ⟨#[109,105,99]⟩)),(aI 0),aN,aN,aN,(aI 0),aN,(aI (-1)),(.d (.s ⟨#[100]⟩)),(aI 2),(.o 1),(.o 2),aN,(aI 3),aN,(aI (-1)),(.d (.s ⟨#[109,105,120]⟩)),(aI 1),(.o 3),(.o 4),(.o 5),(aI 0),aN,(aI (-1)),(.d (.s ⟨#[111,117,116]⟩)),(aI 4),(.o 6),(.o 7),aN,(aI 0),aN,(aI (-1))]))
abbrev aH2:Nat × O:=(5,aR [500,1000])
abbrev aH3:Nat × O:=(4,aR [0,0])
abbrev aH4:Nat × O:=(3,aR [0,1])
abbrev aH5:Nat × O:=(165,aR [0,2])
abbrev aH6:Nat × O:=(65,(.lbox 118 8 4 [(.d (.s ⟨#[109,105,99]⟩)),(aI 0),aN,aN,aN,(aI 0),aN,(aI (-1)),(.d (.s ⟨#[100]⟩)),(aI 2),(.o 58),(.o 59),aN,(aI 3),aN,(aI (-1)),(.d (.s ⟨#[109,105,120]⟩)),(aI 1),(.o 60),(.o 61),(.o 62),(aI 0),aN,(aI (-1)),(.d (.s ⟨#[111,117,116]⟩)),(aI 4),(.o 63),(.o 64),aN,(aI 0),aN,(aI (-1))]))
abbrev aH7:Nat × O:=(62,aR [500,1000])
abbrev aH8:Nat × O:=(61,aR [0,0])
abbrev aH9:Nat × O:=(60,aR [0,1])
abbrev jsH:Nat × O:=(259,(.box 24 [(.d (.s ⟨#[112]⟩)),(.o 240)]))
abbrev jsI:Nat × O:=(254,aR [0])
abbrev jsJ:Nat × O:=(250,aR [3,0])
abbrev jsK:Nat × O:=(246,aR [0])
abbrev jsL:Nat × O:=(240,(.lbox 118 8 4 [(.d (.s ⟨#[109,105,99]⟩)),(aI 0),(.o 241),(.o 242),(.o 243),(aI 0),(.o 244),(aI (-1)),(.d (.s ⟨#[100]⟩)),(aI 2),(.o 245),(.o 246),(.o 247),(aI 3),(.o 248),(aI (-1)),(.d (.s ⟨#[109,105,120]⟩)),(aI 1),(.o 249),(.o 250),(.o 251),(aI 0),(.o 252),(aI (-1)),(.d (.s ⟨#[111,117,116]⟩)),(aI 4),(.o 253),(.o 254),(.o 255),(aI 0),(.o 256),(aI (-1))]))
abbrev jsM:Nat × O:=(256,(.row 148 (.recs 5 [])))
abbrev jsN:Nat × O:=(253,aR [2])
abbrev jsO:Nat × O:=(252,(.row 148 (.recs 5 [])))
abbrev jsP:Nat × O:=(251,aR [500,1000])
abbrev jsQ:Nat × O:=(249,aR [0,1])
abbrev jsR:Nat × O:=(248,(.row 148 (.recs 5 [])))
abbrev jsS:Nat × O:=(245,aR [0])
abbrev jsT:Nat × O:=(244,(.row 148 (.recs 5 [])))
abbrev jsU:Nat × O:=(187,(.lbox 118 8 4 [(.d (.s ⟨#[109,105,99]⟩)),(aI 0),aN,aN,aN,(aI 0),aN,(aI (-1)),(.d (.s ⟨#[100]⟩)),(aI 2),(.o 180),(.o 181),aN,(aI 3),aN,(aI (-1)),(.d (.s ⟨#[109,105,120]⟩)),(aI 1),(.o 182),(.o 183),(.o 184),(aI 0),aN,(aI (-1)),(.d (.s ⟨#[111,117,116]⟩)),(aI 4),(.o 185),(.o 186),aN,(aI 0),aN,(aI (-1))]))
abbrev jsV:Nat × O:=(186,aR [0])
abbrev jsW:Nat × O:=(185,aR [2])
abbrev jsX:Nat × O:=(184,aR [500,1000])
abbrev jsY:Nat × O:=(183,aR [0,0])
abbrev jsZ:Nat × O:=(182,aR [0,1])
abbrev js0:Nat × O:=(181,aR [0])
abbrev js1:Nat × O:=(180,aR [0])
abbrev aH31:Nat × O:=(351,aR [0,3,3,3])
abbrev aH32:Nat × O:=(428,(.lbox 79 1 1 [(.o 497)]))
abbrev aH33:Nat × O:=(497,(.row 110 (.frs .f32 32 [[1112276992,0,0,1120534528,0,0,0,0,0,0,0,0,0,0,0,0,0,0,0,0,0,0,0,0,0,0,0,0,0,0,0,0]])))
abbrev aH34:Nat × O:=(364,(.lbox 79 1 1 [(.o 363)]))
abbrev aH35:Nat × O:=(363,(.row 110 (.frs .f32 32 [[1120534528,0,0,0,0,0,0,0,0,0,0,0,0,0,0,0,0,0,0,0,0,0,0,0,0,0,0,0,0,0,0,0]])))
abbrev aH36:Nat × O:=(360,(.lbox 118 8 4 [(.d (.s ⟨#[109,105,99]⟩)),(aI 0),aN,aN,aN,(aI 0),aN,(aI (-1)),(.d (.s ⟨#[100]⟩)),(aI 2),(.o 353),(.o 354),aN,(aI 3),aN,(aI (-1)),(.d (.s ⟨#[109,105,120]⟩)),(aI 1),(.o 355),(.o 356),(.o 357),(aI 0),aN,(aI (-1)),(.d (.s ⟨#[111,117,116]⟩)),(aI 4),(.o 358),(.o 359),aN,(aI 0),aN,(aI (-1))]))
abbrev aH37:Nat × O:=(359,aR [0])
abbrev aH38:Nat × O:=(358,aR [2])
abbrev aH39:Nat × O:=(357,aR [500,1000])
abbrev aH40:Nat × O:=(356,aR [0,0])
abbrev aH41:Nat × O:=(355,aR [0,1])
abbrev aH42:Nat × O:=(354,aR [0])
abbrev aH43:Nat × O:=(353,aR [0])
abbrev aH44:Nat × O:=(501,aR [0,3,3,3])
abbrev aH45:Nat × O:=(500,aR [0,2])
abbrev aH46:Nat × O:=(499,aR [0,1,2,3])
abbrev awT0:List (Nat × V):=[]
def awS0:St:=⟨awT0,[],0⟩
abbrev awT1:List (Nat × V):=(0,(vb false))::[]
def awS1:St:=⟨awT1,[],0⟩
abbrev awT2:List (Nat × V):=(2,(vi .i64 0))::(1,(aO 56))::(16,(vi .i64 0))::(15,(aO 56))::(12,(.t [(.c (.o 56)),(.c (aI 0))]))::(14,(.t [(.c (.o 56)),(.c (aI 0))]))::(13,(.w (.a [(.d (.s ⟨#[112]⟩)),(.o 8)])))::awT1
def awS2:St:=⟨awT2,[aH0,aH1,(7,aR [0]),(6,aR [2]),aH2,aH3,aH4,(2,aR [0]),(1,aR [0])],57⟩
abbrev awT3:List (Nat × V):=(4,(vi .i64 0))::(3,(aO 165))::(21,(vi .i64 0))::(20,(aO 165))::(17,(.t [(.c (.o 165)),(.c (aI 0))]))::(19,(.t [(.c (.o 165)),(.c (aI 0))]))::(18,(.w (.a [(.d (.s ⟨#[112]⟩)),(.o 65)])))::awT2
def awS3:St:=⟨awT3,[aH5,aH6,(64,aR [0]),(63,aR [2]),aH7,aH8,aH9,(59,aR [0]),(58,aR [0]),aH0,aH1,(7,aR [0]),(6,aR [2]),aH2,aH3,aH4,(2,aR [0]),(1,aR [0])],179⟩
abbrev awT4:List (Nat × V):=(6,(vi .i64 0))::(5,(.w (.c (.p 259 0 1 0))))::(26,(vi .i64 0))::(25,(.w (.a [(.d (.s ⟨#[112]⟩)),(.o 240)])))::(22,(.t [(.a [(.d (.s ⟨#[112]⟩)),(.o 240)]),(.c (aI 0))]))::(24,(.t [(.a [(.d (.s ⟨#[112]⟩)),(.o 240)]),(.c (aI 0))]))::(23,(.w (.a [(.d (.s ⟨#[112]⟩)),(.o 187)])))::awT3
def awS4:St:=⟨awT4,[jsH,jsI,jsJ,jsK,jsL,jsM,(255,aR []),jsN,jsO,jsP,jsQ,jsR,(247,aR []),jsS,jsT,(243,aR []),(242,aR []),(241,aR []),jsU,jsV,jsW,jsX,jsY,jsZ,js0,js1,aH5,aH6,(64,aR [0]),(63,aR [2]),aH7,aH8,aH9,(59,aR [0]),(58,aR [0]),aH0,aH1,(7,aR [0]),(6,aR [2]),aH2,aH3,aH4,(2,aR [0]),(1,aR [0])],260⟩
abbrev awT5:List (Nat × V):=(8,(vi .i64 0))::(7,(aO 351))::(31,(vi .i64 0))::(30,(aO 351))::(27,(.t [(.c (.o 351)),(.c (aI 0))]))::(29,(.t [(.c (.o 351)),(.c (aI 0))]))::(28,(.w (.a [(.d (.s ⟨#[112]⟩)),(.o 240)])))::awT4
def awS5:St:=⟨awT5,[aH31,jsH,jsI,jsJ,jsK,jsL,jsM,(255,aR []),jsN,jsO,jsP,jsQ,jsR,(247,aR []),jsS,jsT,(243,aR []),(242,aR []),(241,aR []),jsU,jsV,jsW,jsX,jsY,jsZ,js0,js1,aH5,aH6,(64,aR [0]),(63,aR [2]),aH7,aH8,aH9,(59,aR [0]),(58,aR [0]),aH0,aH1,(7,aR [0]),(6,aR [2]),aH2,aH3,aH4,(2,aR [0]),(1,aR [0])],352⟩
abbrev awT6:List (Nat × V):=(11,(vi .i64 0))::(10,(vi .i64 0))::(9,(aO 428))::(40,(vi .i64 0))::(39,(vi .i64 0))::(38,(aO 428))::(32,(.t [(.c (.o 428)),(.c (aI 0)),(.c (aI 0))]))::(37,(.t [(.c (.o 428)),(.c (aI 0)),(.c (aI 0))]))::(36,(aO 364))::(35,(aO 363))::(34,(.w (.b .f32 32 [1120534528,0,0,0,0,0,0,0,0,0,0,0,0,0,0,0,0,0,0,0,0,0,0,0,0,0,0,0,0,0,0,0])))::(33,(.w (.a [(.d (.s ⟨#[112]⟩)),(.o 360)])))::awT5
def awS6:St:=⟨awT6,[aH32,aH33,aH34,aH35,aH36,aH37,aH38,aH39,aH40,aH41,aH42,aH43,aH31,jsH,jsI,jsJ,jsK,jsL,jsM,(255,aR []),jsN,jsO,jsP,jsQ,jsR,(247,aR []),jsS,jsT,(243,aR []),(242,aR []),(241,aR []),jsU,jsV,jsW,jsX,jsY,jsZ,js0,js1,aH5,aH6,(64,aR [0]),(63,aR [2]),aH7,aH8,aH9,(59,aR [0]),(58,aR [0]),aH0,aH1,(7,aR [0]),(6,aR [2]),aH2,aH3,aH4,(2,aR [0]),(1,aR [0])],499⟩
abbrev awT7:List (Nat × V):=(0,(vb true))::(107,(vb true))::(106,(vb true))::(105,(.w (.c (.d (.f .f32 1120534528)))))::(104,(.w (.c (.p 497 0 32 3))))::(103,(.w (.c (.p 497 0 32 0))))::(102,(aO 497))::(101,(.w (.c (.p 428 0 1 0))))::(100,(aO 428))::(99,(vb true))::(98,(vb true))::(97,(vb true))::(96,(.w (.c (.d (.f .f32 1112276992)))))::(95,(.w (.c (.p 497 0 32 0))))::(94,(.w (.c (.p 497 0 32 0))))::(93,(aO 497))::(92,(.w (.c (.p 428 0 1 0))))::(91,(aO 428))::(90,(vb true))::(89,(vb true))::(88,(vb true))::(87,(vi .i64 1))::(86,(aO 497))::(85,(.w (.c (.p 428 0 1 0))))::(84,(aO 428))::(83,(vb true))::(82,(vb true))::(81,(vb true))::(80,(vi .i64 1))::(79,(aO 428))::(78,(vb true))::(77,(vb true))::(76,(vb true))::(75,(vi .i64 0))::(74,(vb true))::(73,(vb true))::(72,(vb true))::(71,(vi .i64 0))::(70,(vb true))::(69,(vb true))::(68,(vb true))::(67,(aO 501))::(66,(aO 351))::(65,(vb true))::(64,(vb true))::(63,(vb true))::(62,(vi .i64 0))::(61,(vb true))::(60,(vb true))::(59,(vb true))::(58,(vi .i64 0))::(57,(vb true))::(56,(vb true))::(55,(vb true))::(54,(aO 500))::(53,(aO 165))::(52,(vb true))::(51,(vb true))::(50,(vb true))::(49,(vi .i64 0))::(48,(vb true))::(47,(vb true))::(46,(vb true))::(45,(aO 499))::(44,(aO 56))::(43,(vb true))::(42,(vb true))::(41,(vi .i64 0))::awT6
def awS7:St:=⟨awT7,[aH44,aH45,aH46,aH32,aH33,aH34,aH35,aH36,aH37,aH38,aH39,aH40,aH41,aH42,aH43,aH31,jsH,jsI,jsJ,jsK,jsL,jsM,(255,aR []),jsN,jsO,jsP,jsQ,jsR,(247,aR []),jsS,jsT,(243,aR []),(242,aR []),(241,aR []),jsU,jsV,jsW,jsX,jsY,jsZ,js0,js1,aH5,aH6,(64,aR [0]),(63,aR [2]),aH7,aH8,aH9,(59,aR [0]),(58,aR [0]),aH0,aH1,(7,aR [0]),(6,aR [2]),aH2,aH3,aH4,(2,aR [0]),(1,aR [0])],502⟩
abbrev awT8:List (Nat × V):=awT7
def awS8:St:=⟨awT8,[aH44,aH45,aH46,aH32,aH33,aH34,aH35,aH36,aH37,aH38,aH39,aH40,aH41,aH42,aH43,aH31,jsH,jsI,jsJ,jsK,jsL,jsM,(255,aR []),jsN,jsO,jsP,jsQ,jsR,(247,aR []),jsS,jsT,(243,aR []),(242,aR []),(241,aR []),jsU,jsV,jsW,jsX,jsY,jsZ,js0,js1,aH5,aH6,(64,aR [0]),(63,aR [2]),aH7,aH8,aH9,(59,aR [0]),(58,aR [0]),aH0,aH1,(7,aR [0]),(6,aR [2]),aH2,aH3,aH4,(2,aR [0]),(1,aR [0])],502⟩
end Go.Sh
end

section
namespace Go.Sh
open Go Go.Proofs Go.RowKit Go.Sx
set_option maxRecDepth 1000000 in
theorem aw_0:jhd (pcE 0) awS0=some (.normal,awS1):=by kernel_rfl
set_option maxRecDepth 1000000 in
theorem aw_1:jhd (pcE 1) awS1=some (.normal,awS2):=by kernel_rfl
set_option maxRecDepth 1000000 in
theorem aw_2:jhd (pcE 2) awS2=some (.normal,awS3):=by kernel_rfl
end Go.Sh
end

section
namespace Go.Sh
open Go Go.Proofs Go.RowKit Go.Sx
set_option maxRecDepth 1000000 in
theorem aw_3:jhd (pcE 3) awS3=some (.normal,awS4):=by kernel_rfl
end Go.Sh
end

section
namespace Go.Sh
open Go Go.Proofs Go.RowKit Go.Sx
set_option maxRecDepth 1000000 in
theorem aw_4:jhd (pcE 4) awS4=some (.normal,awS5):=by kernel_rfl
end Go.Sh
end

section
namespace Go.Sh
open Go Go.Proofs Go.RowKit Go.Sx
set_option maxRecDepth 1000000 in
theorem aw_5:jhd (pcE 5) awS5=some (.normal,awS6):=by kernel_rfl
end Go.Sh
end

section
namespace Go.Sh
open Go Go.Proofs Go.RowKit Go.Sx
set_option maxRecDepth 1000000 in
theorem aw_6:jhd (pcE 6) awS6=some (.normal,awS7):=by kernel_rfl
set_option maxRecDepth 1000000 in
theorem aw_7:jhd (pcE 7) awS7=some (.ret,awS8):=by kernel_rfl
end Go.Sh
end

section
namespace Go.Sh
open Go Go.Proofs Go.RowKit Go.Sx
def jmA:List SV:=[]
def jln:Option Bool:=some true
def jfb:List Lf→Option GT
 |[]=>some (.leaf (ok (jln)) [.c (.d (.b (val (jln))))])
 |_=>none
abbrev sp_16:jaa→jaa:=jaG 16 true (jai jmA jfb)
set_option maxRecDepth 1000000 in
theorem jAi:jhc (Tryz.f16.body.getD .skip)=[pcE 0,pcE 1,pcE 2,pcE 3,pcE 4,pcE 5,pcE 6,pcE 7]:=by kernel_rfl
theorem jBA:@cxL jbi Tryz.prog dpE Tryz.f16.ntmps 200 (jhc (Tryz.f16.body.getD .skip)) ⟨[],[],0⟩=some (.ret,awS8):=by
 rw[jAi]
 exact @jdQ jbi _ _ _ _ _ _ _ _ _ aw_0 (@jdQ jbi _ _ _ _ _ _ _ _ _ aw_1 (@jdQ jbi _ _ _ _ _ _ _ _ _ aw_2 (@jdQ jbi _ _ _ _ _ _ _ _ _ aw_3 (@jdQ jbi _ _ _ _ _ _ _ _ _ aw_4 (@jdQ jbi _ _ _ _ _ _ _ _ _ aw_5 (@jdQ jbi _ _ _ _ _ _ _ _ _ aw_6 ((@juN jbi _ _ _ _ _ _).trans aw_7)))))))
set_option maxRecDepth 1000000 in
theorem js2:jaf Tryz.prog 16 true (jai jmA jfb) :=
 jqf jbi globs rfl rfl (@jxH jbi Tryz.prog dpE 16 200 Tryz.f16 (Tryz.f16.body.getD .skip) (.b true) .ret awS8 jfb mixed jBi jzh Tryz.func16 (by kernel_rfl) (by kernel_rfl) jBA (fun j h=>by cases h) (by kernel_rfl) fun ls t h=>by
  unfold jfb at h
  split at h
  ·cases h
   exact⟨rfl,_,rfl⟩
  ·cases h)
theorem sp_16_ok {sp:jaa} (h:jac Tryz.prog sp):jac Tryz.prog (sp_16 sp):=jar js2 h
end Go.Sh
end

section
namespace Go.Sh
open Go Go.Proofs Go.RowKit Go.Sx
open Go.IntKind (wrap)
def jgU:List SV:=[.a [.d,.x (.st [.s,.i .i64,.ints .i64,.ints .i64,.ints .i64,.i .i64,.recs 5,.i .i64] [])]]
def jbE (u4:ByteArray) (u1:List (List NC)):Option Bool :=
 Option.bind (jd3 u4 u1) fun r0 =>
 if(!r0)=true then
  some true
 else
  Option.bind (y88 u4 u1) fun r1 =>
  Option.bind (y44 r1.1 r1.2) fun r2 =>
  Option.bind (y67 u4 u1) fun r3 =>
  if(r3 != 0)=true then
  if(r2.2.2==r3)=true then
   some (wrap .i64 ((↑r2.1.length:Int)+(↑r2.2.1.length:Int))==0)
  else
   some false
  else
  Option.bind (y6 u4 u1) fun r4 =>
  if(r4.2)=true then
   if(r2.2.2==12)=true then
   some (wrap .i64 ((↑r2.1.length:Int)+(↑r2.2.1.length:Int))==0)
   else
   some false
  else
   Option.bind (y19 u4 u1 r2.1 r2.2.1) fun r5 =>
   Option.bind (y88 u4 u1) fun r6 =>
   Option.bind (y40 r2.1) fun r7 =>
   Option.bind (y40 r2.2.1) fun r8 =>
   Option.bind (y27 r1.1 r1.2 r7 r8) fun r9 =>
   if(r2.2.2==0)=true then
   if(r5.2.2==0)=true then
    if(r9.2.2==0)=true then
    if(r9.1==r5.1&&r9.2.1==r5.2.1)=true then
     some (r9.1 != r9.2.1)
    else
     some false
    else
    some false
   else
    some false
   else
   some false
def jgV:List Lf→Option GT
 |[.d (.s u4),.x (.st [.s,.i .i64,.ints .i64,.ints .i64,.ints .i64,.i .i64,.recs 5,.i .i64] u1)]=>some (.leaf (ok (jbE u4 u1)) [.c (.d (.b ((val (jbE u4 u1)))))])
 |_=>none
def jnu (u4:ByteArray) (u1:List (List NC)) (r:Bool):Sk (top r) (jbE u4 u1) :=
 .obC (ok jln) (by decide) (.call (.brB
 (.obT (.rc))
 (.call (.call (.call (.brB
 (.brB
 (.obC ((0:Int)≤0∧(0:Int)<2) (by decide) (.obC ((0:Int)≤1∧(1:Int)<2) (by decide) (.obT (.rc))))
 (.obT (.rc)))
 (.call (.brB
 (.brB
 (.obC ((0:Int)≤0∧(0:Int)<2) (by decide) (.obC ((0:Int)≤1∧(1:Int)<2) (by decide) (.obT (.rc))))
 (.obT (.rc)))
 (.call (.call (.obC ((0:Int)≤0∧(0:Int)<2) (by decide) (.call (.obC ((0:Int)≤1∧(1:Int)<2) (by decide) (.call (.call (.brB
 (.brB
 (.brB
 (.brB
 (.obC ((0:Int)≤0∧(0:Int)<2) (by decide) (.obC ((0:Int)≤1∧(1:Int)<2) (by decide) (.obT (.rc))))
 (.obT (.rc)))
 (.obT (.rc)))
 (.obT (.rc)))
 (.obT (.rc))))))))))))))))))
theorem jl0 (u4:ByteArray) (u1:List (List NC)) (r:Bool) (h:Option.bind (jbE u4 u1) some=some r):ja5 Tryz.f6 ((sp_16 (sp_17 (sp_34 (sp_22 (sp_33 (sp_35 (sp_19 (sp_26 (sp_36 sp0)))))))))) (fun _ _ _=>none) (ja0 jgU [.d (.s u4),.x (.st [.s,.i .i64,.ints .i64,.ints .i64,.ints .i64,.i .i64,.recs 5,.i .i64] u1)]) [.c (.d (.b r))] :=
 Sk.vc (jnu u4 u1 r) (by kernel_rfl) h
theorem jl1:jaf Tryz.prog 6 true (jai jgU jgV):=by
 refine jav (sp:=(sp_16 (sp_17 (sp_34 (sp_22 (sp_33 (sp_35 (sp_19 (sp_26 (sp_36 sp0)))))))))) (fn:=Tryz.f6) (body:=bodyOf Tryz.f6) mixed (sp_16_ok (sp_17_ok (sp_34_ok (sp_22_ok (sp_33_ok (sp_35_ok (sp_19_ok (sp_26_ok (sp_36_ok jau))))))))) Tryz.func6 (by kernel_rfl) (by kernel_rfl) fun ls t h ho b hb=>?_
 unfold jgV at h
 split at h
 ·rename_i u4 u1
  cases h
  obtain rfl:=jaL hb
  exact⟨Nat.le_of_ble_eq_true (by kernel_rfl),_,_,jl0 u4 u1 _ (jap ho)⟩
 ·cases h
end Go.Sh
end

section
namespace Go.Sh
open Go Go.Proofs Go.RowKit Go.Sx
open Go.IntKind (wrap)
variable {g:List (List NC)} {l:List Int}
theorem jqk (w:List Int):∀(m k:Nat) (n:Int),jbw g w (m+1) k n=match jbw g w m k n with
  | .inl e=>.inl e
  | .inr n1=>stp g w (k+m) n1
 |0,k,n=>by
  unfold jbw
  show(match stp g w k n with | .inl e=>.inl e | .inr n'=>jbw g w 0 (k+1) n')=stp g w (k+0) n
  rw[Nat.add_zero]
  cases stp g w k n<;>rfl
 |m+1,k,n=>by
  have ih:=jqk w m (k+1)
  unfold jbw
  cases hs:stp g w k n with
  |inl e=>rfl
  |inr n1 =>
   show jbw g w (m+1) (k+1) n1=_
   rw[ih n1,show k+1+m=k+(m+1) by omega]
theorem jnv {α:Type} (w r:List α) (d:α) {k:Nat} (h:k<w.length):(w++r).getD k d=w.getD k d:=by
 simp only[List.getD,List.getElem?_append_left h]
theorem js3 (w r:List Int):∀(m k:Nat) (n:Int),k+m≤w.length→jbw g (w++r) m k n=jbw g w m k n
 |0,_,_,_=>rfl
 |m+1,k,n,h=>by
  have hs:stp g (w++r) k n=stp g w k n:=by
   unfold stp
   rw[jnv w r 0 (by omega),jnv w r 0 (show k-1<w.length by omega)]
  unfold jbw
  rw[hs]
  cases stp g w k n with
  |inl e=>rfl
  |inr n1=>exact js3 w r m (k+1) n1 (by omega)
theorem juQ {i n:Nat} (h:i<n):inB (i:Int) 0 ((n:Int)-1)=true:=by
 simp only[inB,Bool.and_eq_true,decide_eq_true_eq]; omega
theorem juR (h:Rg g l) {w:List Int} {n:Int} {i:Nat} (hw:WayTo g w n i):jbw g w w.length 0 0=.inr n∧w.getD (w.length-1) 0=(i:Int):=by
 induction hw with
 | @one i hi hk =>
  refine⟨?_,by simp⟩
  show(match stp g [(i:Int)] 0 0 with|Sum.inl e=>(Sum.inl e:Int ⊕ Int)|Sum.inr n'=>jbw g [(i:Int)] 0 1 n')=_
  have:stp g [(i:Int)] 0 0=.inr 0:=by
   unfold stp
   show(if(!inB (i:Int) 0 ((g.length:Int)-1))=true then _ else _)=_
   rw[juQ hi,if_neg (by simp),if_pos rfl]
   show(if(nI g (i:Int).toNat 1 != 0)=true then _ else _)=_
   rw[Int.toNat_natCast,hk,if_neg (by simp)]
  rw[this]
  rfl
 | @on w n u i k hw hi hk he ih =>
  obtain⟨ih1,ih2⟩:=ih
  obtain⟨_,_,_,b4⟩:=hw.bound h.ok
  have hlen:(w++[(i:Int)]).length=w.length+1:=by simp
  have e1:(w++[(i:Int)]).getD w.length 0=(i:Int):=by simp[List.getD]
  refine⟨?_,by rw[hlen]; exact e1⟩
  rw[hlen,jqk,js3 w _ _ _ _ (by omega),ih1,Nat.zero_add]
  dsimp only
  unfold stp
  rw[e1,juQ hi,if_neg (by simp),if_neg (by omega),jnv w _ 0 (by omega),ih2,Int.toNat_natCast]
  have hf:(nL g i 2).findIdx? (fun x=>(u:Int)==x)=some k:=by
   rw[List.findIdx?_eq_some_iff_getElem]
   refine⟨hk,by rw[←jhb 0 hk,he]; simp,fun j hj=>?_⟩
   intro hc
   have:(nL g i 2).getD j 0=(u:Int):=by
    rw[jhb 0 (by omega)]
    exact(beq_iff_eq.1 hc).symm
   have:=joN h hi (j:=j) (by omega) hk (this.trans he.symm)
   omega
  rw[hf]
theorem jxM (h:Rg g l) {d:Int × Int × List Int × List Int} (hd:jlk g d):cu g d.2.2.1 d.2.2.2=(d.1,d.2.1,0)∧d.1≠d.2.1∧d.2.2.1.length≤g.length∧d.2.2.2.length≤g.length:=by
 obtain⟨i,h1,h2,h3,h4,h5⟩:=hd
 refine⟨?_,h3,h4,h5⟩
 obtain⟨r1,e1⟩:=juR h h1
 obtain⟨r2,e2⟩:=juR h h2
 obtain⟨_,_,_,b1⟩:=h1.bound h.ok
 obtain⟨_,_,_,b2⟩:=h2.bound h.ok
 have q1:lenOf g d.2.2.1=.inr d.1:=by unfold lenOf; rw[if_neg (by omega),r1]
 have q2:lenOf g d.2.2.2=.inr d.2.1:=by unfold lenOf; rw[if_neg (by omega),r2]
 unfold cu
 rw[q1,q2]
 dsimp only
 rw[if_neg (fun hn=>hn (e1.trans e2.symm)),if_neg h3]
theorem n24w {nm:ByteArray} (h0:(cg nm g).2=0):g.length≤24:=by
 have:¬((g.length:Int)>24):=fun h24=>by
  rw[jkX]at h0
  unfold cgF at h0
  split at h0
  ·exact absurd (show(4:Int)=0 from h0) (by omega)
  ·exact absurd (show(8:Int)=0 from h0) (by omega)
 omega
theorem joR (nm:ByteArray) (g:List (List NC)):jbE nm g=some true:=by
 unfold jbE
 rcases jxd nm g with h|⟨h,hw,hs⟩
 ·rw[h]; rfl
 ·have hc:=jvP hw
  have hn:=hw.n
  rw[h,jad,if_neg (by simp),jz7 hw]
  simp only[jad]
  rw[jt0 hw hs]
  have hz:(wrap IntKind.i64 (((0:Nat):Int)+((0:Nat):Int))==(0:Int))=true:=by rw[jaC (by omega)]; rfl
  by_cases h0:(cg nm g).2=0
  ·have hne:¬((cg nm g).2≠0):=fun hn=>hn h0
   rw[if_neg hne]
   cases hl:jdp (jby g) g.length []with
   |none =>
    have ho:ja9 nm (cpU g)=some 19:=by rw[jss hc hs (by rw[jq2]; exact h0),jk3,jbZ,hl]
    rw[jqh hc (by omega) ho]
    simp only[jad]
    rw[if_pos (by simp),if_pos (by simp)]
    exact congrArg some hz
   |some od =>
    have hr:=rg_of hw h0 hl
    have h0c:(cg nm (cpU g)).2=0:=by rw[jq2]; exact h0
    rcases jt7 hr.cp hs h0c nm with ⟨d,hE,hR,hd⟩|⟨O,hE,hR⟩
    ·rw[juO hw]at hR
     obtain⟨q1,q2,q3,q4⟩:=jxM hr.cp hd
     rw[jbZ]at q3 q4
     rw[hE,hR]
     simp only[jad]
     rw[jBf hr nm _ _ (by omega) (by omega),jcF _ (by have:=n24w h0; omega),jcF _ (by have:=n24w h0; omega)]
     simp only[jad]
     rw[jBe hr.cp hs h0c _ _ (by omega) (by omega),jzO]
     rw[jzO]at q1
     rw[q1]
     simp only[jad]
     rw[if_neg (by simp),if_neg (by simp),if_pos (by simp),if_pos (by simp),if_pos (by simp),if_pos (by simp)]
     simpa using q2
    ·rw[juO hw]at hR
     rw[hE,hR]
     simp only[jad]
     rw[if_neg (by simp),if_pos (by simp),if_pos (by simp)]
     exact congrArg some hz
  ·have hp:0<(cg nm g).2:=by have:=jxp nm g; omega
   have ho:ja9 nm (cpU g)=some (cg nm g).2:=by rw[jxr hc hs (by rw[jq2]; exact h0),jq2]
   rw[jqh hc hp ho]
   simp only[jad]
   rw[if_pos h0,if_pos (bne_iff_ne.2 h0),if_pos (by simp)]
   exact congrArg some hz
end Go.Sh
end

section
namespace Go.Sx
open Go.RowKit Go.ChangeShapes Go.WideShapes
inductive K where
 |i (k:IntKind)|b|f (k:FloatKind)|s
def K.fits:K→D→Prop
 | .i k,.i k' n=>k'=k∧(Lit.int k n).wf=true
 | .b,.b _=>True
 | .f k,.f k' n=>k'=k∧(Lit.float k n).wf=true
 | .s,.s x=>x.size≤maxLen
 |_,_=>False
def jbg:List K→List D→Prop
 |[],[]=>True
 |k::ks,d::ds=>k.fits d∧jbg ks ds
 |_,_=>False
theorem jeX:∀{ks:List K} {ds:List D} {ks':List K} {ds':List D},jbg ks ds→jbg ks' ds'→jbg (ks++ks') (ds++ds')
 |[],[],_,_,_,h=>h
 |_::_,_::_,_,_,h,h'=>⟨h.1,jeX h.2 h'⟩
 |[],_::_,_,_,h,_=>h.elim
 |_::_,[],_,_,h,_=>h.elim
theorem jeY:∀{ks:List K} {ds:List D},jbg ks ds→ds.length=ks.length
 |[],[],_=>rfl
 |_::_,_::_,h=>by simp[jeY h.2]
 |[],_::_,h=>h.elim
 |_::_,[],h=>h.elim
def jgd (g:TypeId→Option (List K)) (P:Program):Nat→List Field→Option (List K)
 |_,[]=>some []
 |n,f::fs=>match g f.type with
  |none=>none
  |some ks=>if f.offset=n∧P.cellsOf f.type=ks.length then(jgd g P (n+ks.length) fs).map (ks ++ ·)else none
def kinds (P:Program):Nat→TypeId→Option (List K)
 |0,_=>none
 |d+1,t=>match P.underlying t with
  |some .bool=>some [.b]
  |some (.int k)=>some [.i k]
  |some (.float k)=>some [.f k]
  |some .string=>some [.s]
  |some (.struct fs)=>match jgd (kinds P d) P 0 fs.toList with
   |some ks=>if P.cellsOf t=ks.length then some ks else none
   |none=>none
  |some (.array n e)=>match kinds P d e with
   |some ks=>if P.cellsOf t=n*ks.length∧P.cellsOf e=ks.length then some (List.replicate n ks).flatten else none
   |none=>none
  |_=>none
section
variable {H:Type} {enc:TypeId × Value→H} {P:Program} {w:World} {base:Nat} {spare:Nat→Bool} {held:Bool}
theorem jmB {ks:List K} {e:TypeId} {m:Nat} (ih:∀cs x,DataW.trod enc P w base spare held m e cs=some x→∃ds:List D,cs=ds.map D.val∧jbg ks ds) :
  ∀(n:Nat) (cs:List Value),cs.length=n*ks.length→(∀i,i<n→∃x,DataW.trod enc P w base spare held m e ((cs.drop (i*ks.length)).take ks.length)=some x)→∃ds:List D,cs=ds.map D.val∧jbg (List.replicate n ks).flatten ds
 |0,cs,hl,_=>⟨[],by simpa using hl,trivial⟩
 |n+1,cs,hl,h=>by
  obtain⟨x,hx⟩:=h 0 (by omega)
  obtain⟨ds0,h0,h1⟩:=ih _ x hx
  obtain⟨ds1,h2,h3⟩:=jmB ih n (cs.drop ks.length) (by rw[List.length_drop,hl,Nat.add_mul]; omega) (fun i hi=>by
   obtain⟨y,hy⟩:=h (i+1) (by omega)
   refine⟨y,?_⟩
   rw[List.drop_drop]
   rw[show ks.length+i*ks.length=(i+1)*ks.length by rw[Nat.add_mul]; omega]
   exact hy)
  refine⟨ds0++ds1,?_,jeX h1 h3⟩
  rw[List.map_append,←h0,←h2]
  simp
theorem jlo {g:TypeId→Option (List K)} {m:Nat} (ih:∀t ks cs x,g t=some ks→DataW.trod enc P w base spare held m t cs=some x→∃ds:List D,cs=ds.map D.val∧jbg ks ds) :
  ∀(fs:List Field) (n:Nat) (ks:List K) (cs:List Value),jgd g P n fs=some ks→cs.length=n+ks.length→(∀f∈fs,∃x,DataW.trod enc P w base spare held m f.type ((cs.drop f.offset).take (P.cellsOf f.type))=some x) →
   ∃ds:List D,cs.drop n=ds.map D.val∧jbg ks ds
 |[],n,ks,cs,hk,hl,_=>by
  simp only[jgd,Option.some.injEq]at hk
  subst hk
  refine⟨[],?_,trivial⟩
  simp at hl
  simp[hl]
 |f::fs,n,ks,cs,hk,hl,h=>by
  simp only[jgd]at hk
  split at hk
  ·cases hk
  ·rename_i kf hg
   split at hk
   ·rename_i hc
    cases hr:jgd g P (n+kf.length) fs with
    |none=>simp[hr]at hk
    |some kr =>
     simp only[hr,Option.map_some,Option.some.injEq]at hk
     subst hk
     obtain⟨x,hx⟩:=h f List.mem_cons_self
     rw[hc.1,hc.2]at hx
     obtain⟨ds0,h0,h1⟩:=ih f.type kf _ x hg hx
     obtain⟨ds1,h2,h3⟩:=jlo ih fs (n+kf.length) kr cs hr (by rw[hl,List.length_append]; omega) (fun f' hf'=>h f' (List.mem_cons_of_mem _ hf'))
     refine⟨ds0++ds1,?_,jeX h1 h3⟩
     rw[List.map_append,←h0,←h2,←List.drop_drop]
     exact(List.take_append_drop _ _).symm
   ·cases hk
theorem jf6:∀(d:Nat) (t:TypeId) (ks:List K) (fuel:Nat) (cs:List Value) (x:DataW H × List MemPlace),kinds P d t=some ks→DataW.trod enc P w base spare held fuel t cs=some x →
  ∃ds:List D,cs=ds.map D.val∧jbg ks ds
 |0,_,_,_,_,_,h,_=>by cases h
 |d+1,t,ks,fuel,cs,x,hk,hx=>by
  unfold kinds at hk
  split at hk
  ·rename_i ht
   cases hk
   obtain⟨b,rfl,_⟩:=DataW.trod_bool ht hx
   exact⟨[.b b],rfl,trivial,trivial⟩
  ·rename_i k ht
   cases hk
   obtain⟨n,rfl,_,hw⟩:=DataW.trod_int ht hx
   exact⟨[.i k n],rfl,⟨rfl,hw⟩,trivial⟩
  ·rename_i k ht
   cases hk
   cases fuel with
   |zero=>simp[DataW.trod]at hx
   |succ n =>
    rcases cs with _|⟨v,_|⟨v',r⟩⟩
    ·simp[DataW.trod,ht]at hx
    ·cases v with
     |float k2 n2 =>
      simp only[DataW.trod,ht]at hx
      split at hx
      ·rename_i hh
       exact⟨[.f k2 n2],rfl,⟨hh.1,hh.2⟩,trivial⟩
      ·cases hx
     |_=>simp[DataW.trod,ht]at hx
    ·simp[DataW.trod,ht]at hx
  ·rename_i ht
   cases hk
   obtain⟨z,rfl,_,hw⟩:=DataW.trod_string ht hx
   exact⟨[.s z],rfl,hw,trivial⟩
  ·rename_i fs ht
   split at hk
   ·rename_i ks' hks
    split at hk
    ·rename_i hc
     cases hk
     obtain⟨xs,n,rfl,_,hl,hxl,hf⟩:=DataW.trod_struct ht hx
     have:=jlo (enc:=enc) (w:=w) (base:=base) (spare:=spare) (held:=held) (g:=kinds P d) (m:=n) (fun t ks cs x h1 h2=>jf6 d t ks n cs x h1 h2) fs.toList 0 ks cs hks (by rw[hl,hc]; omega) (fun f hfm=>by
      obtain⟨i,hi,hfi⟩:=List.mem_iff_getElem.1 hfm
      have hi':i<fs.size:=by simpa using hi
      have h1:=hf i f (by rw[Array.getElem?_eq_getElem hi']; simpa using hfi)
      exact⟨xs[i]'(by omega),by rw[h1,List.getElem?_eq_getElem]⟩)
     simpa using this
    ·cases hk
   ·cases hk
  ·rename_i n e ht
   split at hk
   ·rename_i ks' hks
    split at hk
    ·rename_i hc
     cases hk
     obtain⟨xs,m,rfl,_,hl,hxl,hf⟩:=DataW.trod_array ht hx
     exact jmB (fun cs x h=>jf6 d e ks' m cs x hks h) n cs (by rw[hl,hc.1]) (fun i hi=>by
      have h1:=hf i hi
      rw[hc.2]at h1
      exact⟨xs[i]'(by omega),by rw[h1,List.getElem?_eq_getElem]⟩)
    ·cases hk
   ·cases hk
  ·cases hk
theorem jxN {t e:TypeId} {ks:List K} {d fuel:Nat} {cs:List Value} {x:DataW H × List MemPlace} (ht:P.underlying t=some (.slice e)) (hk:kinds P d e=some ks) (hc:P.cellsOf e=ks.length) (h0:0<ks.length)
  (hx:DataW.trod enc P w base spare held fuel t cs=some x) :
  ∃(v:Value) (rows:List (List D)),cs=[v]∧(∀r∈rows,jbg ks r)∧jaF w v (.lits ks.length rows)∧(x.1=.nil∧rows=[]∨∃el sp,x.1=.slice el sp∧el.length=rows.length):=by
 rcases DataW.trod_slice ht hx with ⟨rfl,rfl⟩|⟨a,len,cap,elems,rest,n,rfl,rfl,rfl,hb,hl,hm,hel,hi,_,_⟩
 ·exact⟨_,[],rfl,(fun _ h=>by cases h),⟨none,0,rfl,⟨by simp[Cont.n],fun _=>rfl⟩,fun h=>absurd h (by simp[Cont.n])⟩,.inl ⟨rfl,rfl⟩⟩
 ·-- each element's cells
  have hget:∀i,i<len→∃ds:List D,jbg ks ds∧∀j,j<ks.length→w.cell? ((a.add (i*ks.length)).add j)=(ds[j]?).map D.val:=fun i hil=>by
   have h1:=hi i hil
   rw[hc]at h1
   have h2:elems[i]?=some (elems[i]'(by omega)):=List.getElem?_eq_getElem (by omega)
   rw[h2]at h1
   obtain⟨cs',hcs,htr⟩:=Option.bind_eq_some_iff.1 h1
   obtain⟨ds,hds,hfit⟩:=jf6 d e ks n cs' _ hk htr
   obtain⟨_,hcl,hat⟩:=World.cells?_some hcs
   refine⟨ds,hfit,fun j hj=>?_⟩
   rw[hat j hj,hds,List.getElem?_map]
  let R:Nat→List D:=fun i=>if h:i<len then Classical.choose (hget i h)else[]
  have hR:∀i (h:i<len),jbg ks (R i)∧∀j,j<ks.length→w.cell? ((a.add (i*ks.length)).add j)=((R i)[j]?).map D.val:=fun i h=>by
   show jbg ks (if h:i<len then _ else _)∧_
   simp only[R,dif_pos h]
   exact Classical.choose_spec (hget i h)
  refine⟨_,(List.range len).map R,rfl,fun r hr=>?_,?_,.inr ⟨_,_,rfl,by simp[hel]⟩⟩
  ·obtain⟨i,hi',rfl⟩:=List.mem_map.1 hr
   exact(hR i (by simpa using hi')).1
  ·refine⟨some a,cap,by simp[Cont.n],⟨by simpa [Cont.n]using hl,fun h=>by cases h⟩,fun hn=>?_⟩
   have hn:0<len:=by simpa [Cont.n]using hn
   have hsp:a.spot=none:=by
    have h1:=(hR 0 hn).2 0 h0
    have hfl:=jeY (hR 0 hn).1
    rw[List.getElem?_eq_getElem (by omega)]at h1
    simp[Addr.add]at h1
    cases hs:a.spot with
    |none=>rfl
    |some s =>
     exfalso
     unfold World.cell? at h1
     simp only[hs]at h1
     split at h1
     ·simp at h1
     ·cases h1
   obtain⟨b,off,sp⟩:=a
   simp only at hsp
   subst hsp
   refine⟨b,off,rfl,fun j y hj=>?_⟩
   have hne:0<ks.length:=h0
   have hjl:j<(Cont.lits ks.length ((List.range len).map R)).flat.length:=(List.getElem?_eq_some_iff.1 hj).1
   rw[Cont.flat_length]at hjl
   simp only[Cont.n,Cont.e,List.length_map,List.length_range]at hjl
   have hq:j/ks.length<len:=Nat.div_lt_of_lt_mul (by rw[Nat.mul_comm]; exact hjl)
   have hr:j%ks.length<ks.length:=Nat.mod_lt _ hne
   have hg:=Cont.flat_get (.lits ks.length ((List.range len).map R)) (i:=j/ks.length) (j:=j%ks.length) (by simpa [Cont.n]using hq) hr
   have ej:j/ks.length*ks.length+j%ks.length=j:=by rw[Nat.mul_comm]; exact Nat.div_add_mod j _
   simp only[Cont.e]at hg
   rw[ej,hj]at hg
   have hcell:=(hR (j/ks.length) hq).2 (j%ks.length) hr
   have hfl:=jeY (hR (j/ks.length) hq).1
   rw[jaK,jaK,Nat.add_assoc,ej,List.getElem?_eq_getElem (by omega)]at hcell
   rw[hcell]
   simp only[Option.some.injEq]at hg
   simp[hg,Cont.cell,List.getD,hq,List.getElem?_eq_getElem (show j%ks.length<(R (j/ks.length)).length by omega)]
theorem js4 {v:Value} {c c':Cont} (h:jaF w v c) (hn:c'.n=c.n) (hf:c'.flat=c.flat):jaF w v c':=by
 obtain⟨a,cap,hv,hc,hcell⟩:=h
 exact⟨a,cap,by rw[hn]; exact hv,by rw[hn]; exact hc,fun h=>by
  obtain⟨b,off,e,hx⟩:=hcell (by rw[←hn]; exact h)
  exact⟨b,off,e,by rw[hf]; exact hx⟩⟩
theorem juS:∀{n:Nat} {r:List D},jbg (List.replicate n (.i .i64)) r→∃l:List Int,r=l.map (D.i .i64)∧l.length=n∧∀x∈l,inI x
 |0,[],_=>⟨[],rfl,rfl,fun _ h=>by cases h⟩
 |n+1,.i k x::r,h=>by
  obtain⟨l,h1,h2,h3⟩:=juS (n:=n) h.2
  obtain⟨rfl,hw⟩:=h.1
  refine⟨x::l,by rw[h1]; rfl,by simp[h2],fun y hy=>?_⟩
  rcases List.mem_cons.1 hy with rfl|hy
  ·unfold inI
   simpa [Lit.wf,IntKind.min,IntKind.max,IntKind.signed,IntKind.bits]using hw
  ·exact h3 y hy
 |0,_::_,h=>h.elim
 |_+1,[],h=>h.elim
 |_+1,.b _::_,h=>h.1.elim
 |_+1,.f _ _::_,h=>h.1.elim
 |_+1,.s _::_,h=>h.1.elim
 |_+1,.v _::_,h=>h.1.elim
theorem jxO {n:Nat} {rows:List (List D)} (h:∀r∈rows,jbg (List.replicate n (.i .i64)) r):∃l:List (List Int),rows=l.map (fun r=>r.map (D.i .i64))∧l.length=rows.length∧∀r∈l,r.length=n∧∀x∈r,inI x:=by
 induction rows with
 |nil=>exact⟨[],rfl,rfl,fun _ h=>by cases h⟩
 |cons r rows ih =>
  obtain⟨l,h1,h2,h3⟩:=ih fun r hr=>h r (List.mem_cons_of_mem _ hr)
  obtain⟨x,h4,h5,h6⟩:=juS (h r List.mem_cons_self)
  refine⟨x::l,by rw[h1,h4]; rfl,by simp[h2],fun y hy=>?_⟩
  rcases List.mem_cons.1 hy with rfl|hy
  ·exact⟨h5,h6⟩
  ·exact h3 y hy
theorem jxP {n:Nat} {l:List (List Int)} (h:∀r∈l,r.length=n):(Cont.recs n l).flat=(Cont.lits n (l.map fun r=>r.map (D.i .i64))).flat:=by
 simp only[Cont.flat]
 induction l with
 |nil=>rfl
 |cons r l ih =>
  rw[List.flatMap_cons,List.map_cons,List.flatMap_cons,ih fun r hr=>h r (List.mem_cons_of_mem _ hr)]
  congr 1
  have hr:=h r List.mem_cons_self
  subst hr
  rw[jj2]
  exact(litD_self' (r.map (D.i .i64)) (by simp)).symm
 where
 litD_self' {n:Nat} (r:List D) (h:r.length=n):jis n r=r:=by subst h; exact jj3 r
end
section
variable [Globs] {P:Program} {w:World}
end
section
variable {H:Type} {enc:TypeId × Value→H} {P:Program}
theorem js5 {sp:Nat→Bool} (hl:laidOutB P=true) {W W':World} (hb:Below W.heap.size W W'):∀(ts:List TypeId) (vs:List Value) (ds:List (DataW H)) (ps:List MemPlace),(∀t∈ts,P.readableRec t=true∧t<P.types.size) →
  DataW.TrodAll enc P W 0 (fun _=>true) true ts vs ds ps→(∀p∈ps,p.block<W.heap.size)→(∀p∈ps,sp p.block=true)→DataW.TrodAll enc P W' 0 sp true ts vs ds ps
 |[],[],[],_,_,h,_,_=>h
 |t::ts,v::vs,d::ds,ps,ht,h,hlt,hs=>by
  obtain⟨p,q,h1,h2,rfl⟩:=h
  have htt:=ht t List.mem_cons_self
  exact⟨p,q,WideElems.Trod_stays hl htt.1 htt.2 h1 (fun x hx=>hb.same (hlt x (List.mem_append_left _ hx))) (fun x hx=>hs x (List.mem_append_left _ hx)),
   js5 hl hb ts vs ds q (fun t ht'=>ht t (List.mem_cons_of_mem _ ht')) h2 (fun x hx=>hlt x (List.mem_append_right _ hx)) (fun x hx=>hs x (List.mem_append_right _ hx)),rfl⟩
 |[],_::_,_,_,_,h,_,_=>h.elim
 |_::_,[],_,_,_,h,_,_=>h.elim
 |[],[],_::_,_,_,h,_,_=>h.elim
 |_::_,_::_,[],_,_,h,_,_=>h.elim
theorem jzv {f:Func} {s:ChangeSpec} {apart fresh handsOn again:Bool} {W W':World} {args:Array Value} {ds gs:List (DataW H)} {before:List MemPlace} {tb:TypeId} (hvars:s.vars=[]) (hrt:f.resultTypes=#[tb]) (htb:P.underlying tb=some .bool)
  (hres:(s.fn H (ds++gs)).results=[.lit (.bool true)]) (hargs:(s.fn H (ds++gs)).args=ds) (hsv:(s.fn H (ds++gs)).vars=[]) (hl:laidOutB P=true) (hread:∀t∈f.params.toList,P.readableRec t=true∧t<P.types.size)
  (hW:DataW.Whole enc P f.params.toList s.vars apart W args.toList ds gs before) (hb:Below W.heap.size W W'):s.post enc P f apart fresh handsOn again W args (.bool true) W':=by
 have hlt:∀p∈before,p.block<W.heap.size:=fun p hp=>hW.lt p hp
 have hW':=hW
 obtain⟨p,q,h1,h2,rfl,hfz,hnd⟩:=hW'
 rw[hvars]at h2
 have hq:q=[]:=by
  cases gs with
  |nil=>exact h2
  |cons _ _=>exact h2.elim
 subst hq
 rw[List.append_nil]at hlt hfz hnd
 have hA:∀sp:Nat→Bool,(∀x∈p,sp x.block=true)→DataW.TrodAll enc P W' 0 sp true f.params.toList args.toList ds p:=fun sp hs=>js5 hl hb _ _ _ _ hread h1 hlt hs
 have hR:∀(b:Nat) (sp:Nat→Bool) (hd:Bool),DataW.TrodAll enc P W' b sp hd [tb] [.bool true] [.lit (.bool true)] []:=fun b sp hd=>⟨[],[],⟨1,by simp[DataW.trod,htb,Value.cells]⟩,rfl,rfl⟩
 have hrl:(Value.bool true).resultList f.resultTypes.size=[.bool true]:=by rw[hrt]; rfl
 have hrt':f.resultTypes.toList=[tb]:=by rw[hrt]
 refine⟨ds,gs,p++[],[],p,[],hW,?_,?_,?_,World.keptBut_mono (fun x hx=>⟨hx,.inr (.inl (by simpa using hx))⟩) (hb.frame (·∈ p++[])),fun _=>⟨fun j t r hj hr=>?_,?_⟩⟩
 ·rw[hrl,hrt',hres]; exact hR _ _ _
 ·rw[hargs]; exact hA _ (fun x hx=>by simpa using hlt x hx)
 ·rw[hvars,hsv]; rfl
 ·rw[hrt]at hj
  rw[hrl]at hr
  cases j with
  |zero =>
   simp at hj hr
   subst hj; subst hr
   exact okWide_bool_mk htb _
  |succ j=>simp at hj
 ·refine⟨[.lit (.bool true)]++ds,[],p,⟨p,[],?_,by rw[hvars]; rfl,by simp,?_,?_⟩,fun x hx _=>by simpa using hx⟩
  ·rw[hrl,hrt']
   exact⟨[],p,⟨1,by simp[DataW.trod,htb,Value.cells]⟩,hA _ (fun _ _=>rfl),rfl⟩
  ·intro b off hp
   rw[hb.frozen (hlt _ hp)]
   exact hfz b off hp
  ·exact hnd
end
section
variable {H:Type} {enc:TypeId × Value→H} {P:Program} {w:World} {base:Nat} {spare:Nat→Bool} {held:Bool} {r:Reach} {b0:Nat}
end
end Go.Sx
end

section
namespace Go.Sx
open Go.RowKit Go.ChangeShapes Go.WideShapes
inductive K2 where
 |d (k:K)
 |s (ks:List K)
inductive T1 where
 |d (x:D)
 |r (c:Cont)
 |xl (X:XC)
inductive Cell2 (w:World):K2→Value→T1→Prop where
 |d (k:K) (x:D) (h:k.fits x):Cell2 w (.d k) x.val (.d x)
 |s (ks:List K) (v:Value) (rows:List (List D)) (h0:0<ks.length) (h:∀r∈rows,jbg ks r) (hr:jaF w v (.lits ks.length rows)):Cell2 w (.s ks) v (.r (.lits ks.length rows))
inductive Cells2 (w:World):List K2→List Value→List T1→Prop where
 |nil:Cells2 w [] [] []
 |cons {k:K2} {v:Value} {t:T1} {ks:List K2} {vs:List Value} {ts:List T1} (h:Cell2 w k v t) (r:Cells2 w ks vs ts):Cells2 w (k::ks) (v::vs) (t::ts)
theorem Cells2.append {w:World} {ks ks':List K2} {vs vs':List Value} {ts ts':List T1} (h:Cells2 w ks vs ts) (h':Cells2 w ks' vs' ts'):Cells2 w (ks++ks') (vs++vs') (ts++ts'):=by
 induction h with
 |nil=>exact h'
 |cons h r ih=>exact .cons h ih
def jeZ (g:TypeId→Option (List K2)) (P:Program):Nat→List Field→Option (List K2)
 |_,[]=>some []
 |n,f::fs=>match g f.type with
  |none=>none
  |some ks=>if f.offset=n∧P.cellsOf f.type=ks.length then(jeZ g P (n+ks.length) fs).map (ks ++ ·)else none
def jfz (P:Program):Nat→TypeId→Option (List K2)
 |0,_=>none
 |d+1,t=>match kinds P d t with
  |some ks=>some (ks.map .d)
  |none=>match P.underlying t with
   |some (.slice e)=>match kinds P d e with
    |some (k::ks)=>if P.cellsOf e=ks.length+1 then some [.s (k::ks)]else none
    |_=>none
   |some (.struct fs)=>match jeZ (jfz P d) P 0 fs.toList with
    |some ks=>if P.cellsOf t=ks.length then some ks else none
    |none=>none
   |some (.array n e)=>match jfz P d e with
    |some ks=>if P.cellsOf t=n*ks.length∧P.cellsOf e=ks.length then some (List.replicate n ks).flatten else none
    |none=>none
   |_=>none
section
variable {H:Type} {enc:TypeId × Value→H} {P:Program} {w:World} {base:Nat} {spare:Nat→Bool} {held:Bool}
theorem jzw {ks:List K} {ds:List D} (h:jbg ks ds):Cells2 w (ks.map .d) (ds.map D.val) (ds.map .d):=by
 induction ks generalizing ds with
 |nil=>cases ds with
  |nil=>exact .nil
  |cons _ _=>exact h.elim
 |cons k ks ih=>cases ds with
  |nil=>exact h.elim
  |cons d ds=>exact .cons (.d k d h.1) (ih h.2)
theorem jjA {g:TypeId→Option (List K2)} {m:Nat} (ih:∀t ks cs x,g t=some ks→DataW.trod enc P w base spare held m t cs=some x→∃ts,Cells2 w ks cs ts) :
  ∀(fs:List Field) (n:Nat) (ks:List K2) (cs:List Value),jeZ g P n fs=some ks→cs.length=n+ks.length→(∀f∈fs,∃x,DataW.trod enc P w base spare held m f.type ((cs.drop f.offset).take (P.cellsOf f.type))=some x) →
   ∃ts,Cells2 w ks (cs.drop n) ts
 |[],n,ks,cs,hk,hl,_=>by
  simp only[jeZ,Option.some.injEq]at hk
  subst hk
  refine⟨[],?_⟩
  simp at hl
  rw[List.drop_eq_nil_of_le (by omega)]
  exact .nil
 |f::fs,n,ks,cs,hk,hl,h=>by
  simp only[jeZ]at hk
  split at hk
  ·cases hk
  ·rename_i kf hg
   split at hk
   ·rename_i hc
    cases hr:jeZ g P (n+kf.length) fs with
    |none=>simp[hr]at hk
    |some kr =>
     simp only[hr,Option.map_some,Option.some.injEq]at hk
     subst hk
     obtain⟨x,hx⟩:=h f List.mem_cons_self
     rw[hc.1,hc.2]at hx
     obtain⟨ts0,h0⟩:=ih f.type kf _ x hg hx
     obtain⟨ts1,h1⟩:=jjA ih fs (n+kf.length) kr cs hr (by rw[hl,List.length_append]; omega) (fun f' hf'=>h f' (List.mem_cons_of_mem _ hf'))
     refine⟨ts0++ts1,?_⟩
     have e:cs.drop n=(cs.drop n).take kf.length++cs.drop (n+kf.length):=by rw[←List.drop_drop]; exact(List.take_append_drop _ _).symm
     rw[e]
     exact h0.append h1
   ·cases hk
theorem jlp {ks:List K2} {e:TypeId} {m:Nat} (ih:∀cs x,DataW.trod enc P w base spare held m e cs=some x→∃ts,Cells2 w ks cs ts) :
  ∀(n:Nat) (cs:List Value),cs.length=n*ks.length→(∀i,i<n→∃x,DataW.trod enc P w base spare held m e ((cs.drop (i*ks.length)).take ks.length)=some x)→∃ts,Cells2 w (List.replicate n ks).flatten cs ts
 |0,cs,hl,_=>by
  have:cs=[]:=by simpa using hl
  subst this
  exact⟨[],.nil⟩
 |n+1,cs,hl,h=>by
  obtain⟨x,hx⟩:=h 0 (by omega)
  obtain⟨t0,h0⟩:=ih _ x hx
  obtain⟨t1,h1⟩:=jlp ih n (cs.drop ks.length) (by rw[List.length_drop,hl,Nat.add_mul]; omega) (fun i hi=>by
   obtain⟨y,hy⟩:=h (i+1) (by omega)
   refine⟨y,?_⟩
   rw[List.drop_drop]
   rw[show ks.length+i*ks.length=(i+1)*ks.length by rw[Nat.add_mul]; omega]
   exact hy)
  refine⟨t0++t1,?_⟩
  have:=h0.append h1
  simpa [List.replicate_succ]using this
theorem jfc:∀(d:Nat) (t:TypeId) (ks:List K2) (fuel:Nat) (cs:List Value) (x:DataW H × List MemPlace),jfz P d t=some ks→DataW.trod enc P w base spare held fuel t cs=some x→∃ts,Cells2 w ks cs ts
 |0,_,_,_,_,_,h,_=>by cases h
 |d+1,t,ks,fuel,cs,x,hk,hx=>by
  unfold jfz at hk
  split at hk
  ·rename_i ks' hks
   cases hk
   obtain⟨ds,rfl,h2⟩:=jf6 d t ks' fuel cs x hks hx
   exact⟨_,jzw h2⟩
  ·split at hk
   ·rename_i e ht
    split at hk
    ·rename_i k ks' hks
     split at hk
     ·rename_i hc
      cases hk
      obtain⟨v,rows,rfl,h2,h3,_⟩:=jxN ht hks (by simpa using hc) (by simp) hx
      exact⟨_,.cons (.s _ v rows (by simp) h2 h3) .nil⟩
     ·cases hk
    ·cases hk
   ·rename_i fs ht
    split at hk
    ·rename_i ks' hks
     split at hk
     ·rename_i hc
      cases hk
      obtain⟨xs,n,rfl,_,hl,hxl,hf⟩:=DataW.trod_struct ht hx
      have:=jjA (enc:=enc) (w:=w) (base:=base) (spare:=spare) (held:=held) (g:=jfz P d) (m:=n) (fun t ks cs x h1 h2=>jfc d t ks n cs x h1 h2) fs.toList 0 ks cs hks (by rw[hl,hc]; omega) (fun f hfm=>by
       obtain⟨i,hi,hfi⟩:=List.mem_iff_getElem.1 hfm
       have hi':i<fs.size:=by simpa using hi
       have h1:=hf i f (by rw[Array.getElem?_eq_getElem hi']; simpa using hfi)
       exact⟨xs[i]'(by omega),by rw[h1,List.getElem?_eq_getElem]⟩)
      simpa using this
     ·cases hk
    ·cases hk
   ·rename_i n e ht
    split at hk
    ·rename_i ks' hks
     split at hk
     ·rename_i hc
      cases hk
      obtain⟨xs,m,rfl,_,hl,hxl,hf⟩:=DataW.trod_array ht hx
      exact jlp (fun cs x h=>jfc d e ks' m cs x hks h) n cs (by rw[hl,hc.1]) (fun i hi=>by
       have h1:=hf i hi
       rw[hc.2]at h1
       exact⟨xs[i]'(by omega),by rw[h1,List.getElem?_eq_getElem]⟩)
     ·cases hk
    ·cases hk
   ·cases hk
end
inductive T1Is (w:World):Value→T1→Prop where
 |d (x:D):T1Is w x.val (.d x)
 |r (v:Value) (c:Cont) (he:0<c.e) (h:jaF w v c):T1Is w v (.r c)
 |xl (v:Value) (X:XC) (h:IsX (fun k=>k<w.heap.size) w v X):T1Is w v (.xl X)
theorem jnw {w:World} {v:Value} {t:T1} (h:Cell2 w (.d (.i .i64)) v t):∃n:Int,T1Is w v (.d (.i .i64 n))∧inI n:=by
 cases h with
 |d k x h =>
  cases x with
  |i k n =>
   obtain⟨rfl,hw⟩:=h
   exact⟨n,.d _,by unfold inI; simpa [Lit.wf,IntKind.min,IntKind.max,IntKind.signed,IntKind.bits]using hw⟩
  |_=>exact h.elim
theorem js6 {w:World} {v:Value} {t:T1} (h:Cell2 w (.d .s) v t):∃n:ByteArray,T1Is w v (.d (.s n))∧n.size≤maxLen:=by
 cases h with
 |d k x h =>
  cases x with
  |s n=>exact⟨n,.d _,h⟩
  |_=>exact h.elim
theorem jql {w:World} {n:Nat} {v:Value} {t:T1} (h:Cell2 w (.s (List.replicate n (.i .i64))) v t):∃l:List (List Int),T1Is w v (.r (.recs n l))∧∀r∈l,r.length=n∧∀x∈r,inI x:=by
 cases h with
 |s ks v rows h0 h2 h3 =>
  obtain⟨l,h5,h6,h7⟩:=jxO h2
  subst h5
  rw[List.length_replicate]at h0 h3
  exact⟨l,.r v _ h0 (js4 h3 (by simp[Cont.n]) (jxP fun r hr=>(h7 r hr).1)),h7⟩
theorem jlq {w:World} {v:Value} {t:T1} (h:Cell2 w (.s [.i .i64]) v t):∃l:List Int,T1Is w v (.r (.ints .i64 l))∧∀x∈l,inI x:=by
 obtain⟨l,h2,h3⟩:=jql (n:=1) h
 cases h2 with
 |r _ _ _ h2 =>
  refine⟨l.map (fun r=>r.getD 0 0),.r v _ (Nat.succ_pos 0) (js4 h2 (by simp[Cont.n]) ?_),fun x hx=>?_⟩
  ·simp only[Cont.flat]
   rename_i he
   clear h2 he
   induction l with
   |nil=>rfl
   |cons r l ih =>
    rw[List.map_cons,List.flatMap_cons,List.flatMap_cons,ih (fun r hr=>h3 r (List.mem_cons_of_mem _ hr))]
    rfl
  ·obtain⟨r,hr,rfl⟩:=List.mem_map.1 hx
   have:=h3 r hr
   match r,this with
   |[y],this=>exact this.2 y (by simp)
section
variable [Globs]
inductive T2 where
 |c (t:T1)
 |a (l:List T1)
inductive T1sAre (w:World):List Value→List T1→Prop where
 |nil:T1sAre w [] []
 |cons {v:Value} {t:T1} {vs:List Value} {ts:List T1} (h:T1Is w v t) (r:T1sAre w vs ts):T1sAre w (v::vs) (t::ts)
inductive T2Is (w:World):Value→T2→Prop where
 |c {v:Value} {t:T1} (h:T1Is w v t):T2Is w v (.c t)
 |a {vs:List Value} {ts:List T1} (h:T1sAre w vs ts):T2Is w (.agg vs.toArray) (.a ts)
inductive T2sAre (w:World):List Value→List T2→Prop where
 |nil:T2sAre w [] []
 |cons {v:Value} {t:T2} {vs:List Value} {ts:List T2} (h:T2Is w v t) (r:T2sAre w vs ts):T2sAre w (v::vs) (t::ts)
structure TB where
 cs:List C
 hp:Hp
 n:Nat
def T1.bld (n:Nat):T1→TB
 | .d x=>⟨[.d x],[],n⟩
 | .r c=>⟨[.o n],[(n,.ext c)],n+1⟩
 | .xl X=>⟨[.o n],[(n,.xext X)],n+1⟩
def joS:Nat→List T1→TB
 |n,[]=>⟨[],[],n⟩
 |n,t::l=>let a:=t.bld n; let b:=joS a.n l; ⟨a.cs++b.cs,b.hp++a.hp,b.n⟩
structure TV where
 vs:List V
 hp:Hp
 n:Nat
def T2.bld (n:Nat):T2→TV
 | .c t=>let a:=t.bld n; ⟨[.w (.c (jfY a.cs))],a.hp,a.n⟩
 | .a l=>let a:=joS n l; ⟨[.w (.a a.cs)],a.hp,a.n⟩
def jcm:Nat→List T2→TV
 |n,[]=>⟨[],[],n⟩
 |n,t::l=>let a:=t.bld n; let b:=jcm a.n l; ⟨a.vs++b.vs,b.hp++a.hp,b.n⟩
def Hk (w:World) (v:Value):O→Prop
 | .ext c=>jaF w v c∧0<c.e
 | .xext X=>IsX (fun k=>k<w.heap.size) w v X
 |_=>False
structure TOK (w:World) (n:Nat) (ρ ρ':Env) (vals:List Value) (cs:List C) (hp:Hp) (n':Nat):Prop where
 agree:jae n ρ ρ'
 le:n≤n'
 val:cs.map (C.val ρ')=vals
 lt:∀c∈cs,C.lt n' c
 heap:∀k o,find hp k=some o→n≤k∧k<n'∧Hk w (ρ' k) o
theorem T1.bld_ok {w:World} {v:Value} {t:T1} (h:T1Is w v t) (n:Nat) (ρ:Env):∃ρ',TOK w n ρ ρ' [v] (t.bld n).cs (t.bld n).hp (t.bld n).n:=by
 cases h with
 |d x=>exact⟨ρ,jae.refl _ _,Nat.le_refl _,rfl,(fun c hc=>by simp only[T1.bld,List.mem_singleton]at hc; subst hc; trivial),fun _ _ h=>by cases h⟩
 |r v c he h =>
  refine⟨upd ρ n v,jal _ _ _,Nat.le_succ _,by simp[T1.bld,C.val],(fun c hc=>by simp only[T1.bld,List.mem_singleton]at hc; subst hc; exact Nat.lt_succ_self n),fun k o hf=>?_⟩
  simp only[T1.bld,find]at hf
  split at hf
  ·rename_i e
   subst e
   cases hf
   exact⟨Nat.le_refl _,Nat.lt_succ_self _,by rw[upd_same]; exact⟨h,he⟩⟩
  ·cases hf
 |xl v X h =>
  refine⟨upd ρ n v,jal _ _ _,Nat.le_succ _,by simp[T1.bld,C.val],(fun c hc=>by simp only[T1.bld,List.mem_singleton]at hc; subst hc; exact Nat.lt_succ_self n),fun k o hf=>?_⟩
  simp only[T1.bld,find]at hf
  split at hf
  ·rename_i e
   subst e
   cases hf
   exact⟨Nat.le_refl _,Nat.lt_succ_self _,by rw[upd_same]; exact h⟩
  ·cases hf
theorem TOK.append {w:World} {n n1 n2:Nat} {ρ ρ1 ρ2:Env} {a b:List Value} {ca cb:List C} {ha hb:Hp} (h1:TOK w n ρ ρ1 a ca ha n1) (h2:TOK w n1 ρ1 ρ2 b cb hb n2):TOK w n ρ ρ2 (a++b) (ca++cb) (hb++ha) n2:=by
 refine⟨h1.agree.trans h2.agree h1.le,Nat.le_trans h1.le h2.le,?_,?_,?_⟩
 ·rw[List.map_append,h2.val,←h1.val]
  congr 1
  exact List.map_congr_left fun c hc=>C.val_agree h2.agree (h1.lt c hc)
 ·intro c hc
  rcases List.mem_append.1 hc with hc|hc
  ·exact C.lt_mono h2.le (h1.lt c hc)
  ·exact h2.lt c hc
 ·intro k o hf
  rw[jat]at hf
  cases hg:find hb k with
  |some o2 =>
   rw[hg]at hf
   cases hf
   obtain⟨q1,q2,q3⟩:=h2.heap k o hg
   exact⟨Nat.le_trans h1.le q1,q2,q3⟩
  |none =>
   rw[hg]at hf
   obtain⟨q1,q2,q3⟩:=h1.heap k o hf
   exact⟨q1,Nat.lt_of_lt_of_le q2 h2.le,by rw[h2.agree k q2]; exact q3⟩
theorem jzx {w:World} {vs:List Value} {ts:List T1} (h:T1sAre w vs ts):∀(n:Nat) (ρ:Env),∃ρ',TOK w n ρ ρ' vs (joS n ts).cs (joS n ts).hp (joS n ts).n:=by
 induction h with
 |nil=>exact fun n ρ=>⟨ρ,jae.refl _ _,Nat.le_refl _,rfl,(fun _ h=>by cases h),fun _ _ h=>by cases h⟩
 |cons h r ih =>
  intro n ρ
  obtain⟨ρ1,k1⟩:=T1.bld_ok h n ρ
  obtain⟨ρ2,k2⟩:=ih _ ρ1
  exact⟨ρ2,k1.append k2⟩
structure TVOK (w:World) (n:Nat) (ρ ρ':Env) (vals:List Value) (vs:List V) (hp:Hp) (n':Nat):Prop where
 agree:jae n ρ ρ'
 le:n≤n'
 val:vs.map (V.val ρ')=vals
 lt:∀c∈vs,V.lt n' c
 heap:∀k o,find hp k=some o→n≤k∧k<n'∧Hk w (ρ' k) o
theorem T2.bld_ok {w:World} {v:Value} {t:T2} (h:T2Is w v t) (n:Nat) (ρ:Env):∃ρ',TVOK w n ρ ρ' [v] (t.bld n).vs (t.bld n).hp (t.bld n).n:=by
 cases h with
 | @c v t h =>
  obtain⟨ρ',k⟩:=T1.bld_ok h n ρ
  have hone:∃c,(t.bld n).cs=[c]:=by cases t<;>exact⟨_,rfl⟩
  obtain⟨c,hc⟩:=hone
  have hval:=k.val
  have hlt:=k.lt
  rw[hc]at hval hlt
  refine⟨ρ',k.agree,k.le,?_,?_,k.heap⟩
  ·simp only[T2.bld,hc,jfY,List.map_cons,List.map_nil,V.val,W.val]
   simpa using hval
  ·intro y hy
   simp only[T2.bld,hc,jfY,List.mem_singleton]at hy
   subst hy
   exact hlt c List.mem_cons_self
 | @a vs ts h =>
  obtain⟨ρ',k⟩:=jzx h n ρ
  refine⟨ρ',k.agree,k.le,?_,?_,k.heap⟩
  ·simp only[T2.bld,List.map_cons,List.map_nil,V.val,W.val,k.val]
  ·intro y hy
   simp only[T2.bld,List.mem_singleton]at hy
   subst hy
   exact k.lt
theorem jzy {w:World} {vs:List Value} {ts:List T2} (h:T2sAre w vs ts):∀(n:Nat) (ρ:Env),∃ρ',TVOK w n ρ ρ' vs (jcm n ts).vs (jcm n ts).hp (jcm n ts).n:=by
 induction h with
 |nil=>exact fun n ρ=>⟨ρ,jae.refl _ _,Nat.le_refl _,rfl,(fun _ h=>by cases h),fun _ _ h=>by cases h⟩
 | @cons v t vs ts h r ih =>
  intro n ρ
  obtain⟨ρ1,k1⟩:=T2.bld_ok h n ρ
  obtain⟨ρ2,k2⟩:=ih (t.bld n).n ρ1
  refine⟨ρ2,k1.agree.trans k2.agree k1.le,Nat.le_trans k1.le k2.le,?_,?_,?_⟩
  ·simp only[jcm,List.map_append,k2.val]
   have:(t.bld n).vs.map (V.val ρ2)=[v]:=by
    rw[←k1.val]
    exact List.map_congr_left fun c hc=>V.val_agree k2.agree (k1.lt c hc)
   rw[this]
   rfl
  ·intro c hc
   rcases List.mem_append.1 hc with hc|hc
   ·exact V.lt_mono k2.le (k1.lt c hc)
   ·exact k2.lt c hc
  ·intro k o hf
   have hf:find ((jcm (t.bld n).n ts).hp++(t.bld n).hp) k=some o:=hf
   rw[jat]at hf
   cases hg:find (jcm (t.bld n).n ts).hp k with
   |some o2 =>
    rw[hg]at hf
    cases hf
    obtain⟨q1,q2,q3⟩:=k2.heap k o hg
    exact⟨Nat.le_trans k1.le q1,q2,q3⟩
   |none =>
    rw[hg]at hf
    obtain⟨q1,q2,q3⟩:=k1.heap k o hf
    exact⟨q1,Nat.lt_of_lt_of_le q2 k2.le,by rw[k2.agree k q2]; exact q3⟩
theorem jwm {P:Program} {w:World} {f:Nat} {shs:List SV} {g:List Lf→Option GT} {vs:List Value} {ts:List T2} {ls:List Lf} {am:List C} {ob:Prop} {b:Bool} {fn:Func} (hok:jaf P f true (jai shs g)) (hargs:T2sAre w vs ts)
  (hto:ji1 (jcm 0 ts).hp shs (jcm 0 ts).vs=some (ls,am)) (hg:g ls=some (.leaf ob [.c (.d (.b b))])) (ho:ob) (hb:b=true)
  (hfn:P.funcs[f]?=some fn) (hbody:fn.body=some (fn.body.getD .skip)) (hn:(fn.name == "runtime.NumGoroutine")=false) (hgl:jbW (fun k=>k<w.heap.size) w) :
  Calls P f vs.toArray w fun e w'=>e=.returned (.bool true)∧Below w.heap.size w w':=by
 subst hb
 obtain⟨ρ,k⟩:=jzy hargs 0 (fun _=>undef)
 have hh:HRel ρ (kd fun k=>k<w.heap.size) (jcm 0 ts).hp (jcm 0 ts).n w:=by
  refine⟨fun x o hf=>?_,fun x o x' o' q hf hf' _ hb=>?_,hgl⟩
  ·obtain⟨_,q2,q3⟩:=k.heap x o hf
   cases o with
   |ext c=>exact⟨q2,trivial,q3.1,jaF.lt q3.1 q3.2⟩
   |xext X=>exact⟨q2,trivial,q3⟩
   |_=>exact q3.elim
  ·obtain⟨_,_,q3⟩:=k.heap x o hf
   cases o with
   |ext c=>cases hb
   |xext X=>cases hb
   |_=>exact q3.elim
 have:=(hok.sound hfn hbody hn).sound ρ (kd fun k=>k<w.heap.size) w (jcm 0 ts).vs (jcm 0 ts).hp (jcm 0 ts).n ((GT.leaf ob [.c (.d (.b true))]).toRT am (jcm 0 ts).hp (jcm 0 ts).n) (by
  unfold jai
  rw[hto]
  dsimp only
  rw[hg]) ho k.lt hh (fun k hk=>jbz.1 hk)
 rw[k.val]at this
 refine this.mono ?_
 rintro e w' ⟨ρ',rfl,hl⟩
 exact⟨rfl,hl.mono rfl⟩
end
end Go.Sx
end

section
namespace Go.Sx
open Go.RowKit Go.ChangeShapes Go.WideShapes
def jzP (w:World) (ks:List K2) (v:Value):Prop :=
 ∃(n:Nat) (us:Nat→List Value) (ts:Nat→List T1) (a:Option Addr) (cap:Nat),(∀i,i<n→Cells2 w ks (us i) (ts i))∧v=.slice a n cap∧(n≤cap∧(a=none→cap=0)) ∧
  (0<n→∃b off,a=some ⟨b,off,none⟩∧b<w.heap.size∧∀i j,i<n→j<ks.length→w.cell? ⟨b,off+(i*ks.length+j),none⟩=(us i)[j]?)
inductive K3 where
 |k (k:K2)
 |x (ks:List K2)
inductive Cell3 (w:World):K3→Value→Prop where
 |k (k:K2) (v:Value) (t:T1) (h:Cell2 w k v t):Cell3 w (.k k) v
 |x (ks:List K2) (v:Value) (h0:0<ks.length) (h:jzP w ks v):Cell3 w (.x ks) v
inductive Cells3 (w:World):List K3→List Value→Prop where
 |nil:Cells3 w [] []
 |cons {k:K3} {v:Value} {ks:List K3} {vs:List Value} (h:Cell3 w k v) (r:Cells3 w ks vs):Cells3 w (k::ks) (v::vs)
theorem Cells3.append {w:World} {ks ks':List K3} {vs vs':List Value} (h:Cells3 w ks vs) (h':Cells3 w ks' vs'):Cells3 w (ks++ks') (vs++vs'):=by
 induction h with
 |nil=>exact h'
 |cons h r ih=>exact .cons h ih
theorem jzz {w:World} {ks:List K2} {vs:List Value} {ts:List T1} (h:Cells2 w ks vs ts):Cells3 w (ks.map .k) vs:=by
 induction h with
 |nil=>exact .nil
 |cons h r ih=>exact .cons (.k _ _ _ h) ih
def je0 (g:TypeId→Option (List K3)) (P:Program):Nat→List Field→Option (List K3)
 |_,[]=>some []
 |n,f::fs=>match g f.type with
  |none=>none
  |some ks=>if f.offset=n∧P.cellsOf f.type=ks.length then(je0 g P (n+ks.length) fs).map (ks ++ ·)else none
def jlr (P:Program):Nat→TypeId→Option (List K3)
 |0,_=>none
 |d+1,t=>match jfz P d t with
  |some ks=>some (ks.map .k)
  |none=>match P.underlying t with
   |some (.slice e)=>match jfz P d e with
    |some (k::ks)=>if P.cellsOf e=ks.length+1 then some [.x (k::ks)]else none
    |_=>none
   |some (.struct fs)=>match je0 (jlr P d) P 0 fs.toList with
    |some ks=>if P.cellsOf t=ks.length then some ks else none
    |none=>none
   |_=>none
theorem Cells2.len {w:World} {ks:List K2} {vs:List Value} {ts:List T1} (h:Cells2 w ks vs ts):vs.length=ks.length∧ts.length=ks.length:=by
 induction h with
 |nil=>exact⟨rfl,rfl⟩
 |cons h r ih=>exact⟨by simp[ih.1],by simp[ih.2]⟩
section
variable {H:Type} {enc:TypeId × Value→H} {P:Program} {w:World} {base:Nat} {spare:Nat→Bool} {held:Bool}
theorem jwn {t e:TypeId} {ks:List K2} {d fuel:Nat} {cs:List Value} {x:DataW H × List MemPlace} (ht:P.underlying t=some (.slice e)) (hk:jfz P d e=some ks) (hc:P.cellsOf e=ks.length) (h0:0<ks.length)
  (hx:DataW.trod enc P w base spare held fuel t cs=some x):∃v,cs=[v]∧jzP w ks v:=by
 rcases DataW.trod_slice ht hx with ⟨rfl,rfl⟩|⟨a,len,cap,elems,rest,n,rfl,rfl,rfl,hb,hl,hm,hel,hi,_,_⟩
 ·exact⟨_,rfl,0,fun _=>[],fun _=>[],none,0,fun i hi=>by omega,rfl,⟨Nat.le_refl _,fun _=>rfl⟩,fun h=>by omega⟩
 ·have hget:∀i,i<len→∃p:List Value × List T1,Cells2 w ks p.1 p.2∧∀j,j<ks.length→w.cell? ((a.add (i*ks.length)).add j)=p.1[j]?:=fun i hil=>by
   have h1:=hi i hil
   rw[hc]at h1
   have h2:elems[i]?=some (elems[i]'(by omega)):=List.getElem?_eq_getElem (by omega)
   rw[h2]at h1
   obtain⟨cs',hcs,htr⟩:=Option.bind_eq_some_iff.1 h1
   obtain⟨ts,hts⟩:=jfc d e ks n cs' _ hk htr
   obtain⟨_,hcl,hat⟩:=World.cells?_some hcs
   exact⟨(cs',ts),hts,fun j hj=>hat j hj⟩
  let R:Nat→List Value × List T1:=fun i=>if h:i<len then Classical.choose (hget i h)else([],[])
  have hR:∀i (h:i<len),Cells2 w ks (R i).1 (R i).2∧∀j,j<ks.length→w.cell? ((a.add (i*ks.length)).add j)=(R i).1[j]?:=fun i h=>by
   have e:R i=Classical.choose (hget i h):=dif_pos h
   rw[e]
   exact Classical.choose_spec (hget i h)
  refine⟨_,rfl,len,fun i=>(R i).1,fun i=>(R i).2,some a,cap,fun i h=>(hR i h).1,rfl,⟨hl,fun h=>by cases h⟩,fun hn=>?_⟩
  have hlen:=(hR 0 hn).1.len.1
  have hcell0:w.cell? ((a.add (0*ks.length)).add 0)=some ((R 0).1[0]'(by omega)):=by
   rw[(hR 0 hn).2 0 h0,List.getElem?_eq_getElem]
  have hsp:a.spot=none:=by
   have h1:=hcell0
   simp[Addr.add]at h1
   cases hs:a.spot with
   |none=>rfl
   |some s =>
    exfalso
    unfold World.cell? at h1
    simp only[hs]at h1
    split at h1
    ·simp at h1
    ·cases h1
  obtain⟨b,off,sp⟩:=a
  simp only at hsp
  subst hsp
  refine⟨b,off,rfl,?_,fun i j hi hj=>?_⟩
  ·have h1:=hcell0
   rw[jaK,jaK]at h1
   exact World.block_lt_of_cell? w _ h1
  ·have:=(hR i hi).2 j hj
   rw[jaK,jaK,Nat.add_assoc]at this
   exact this
theorem jjB {g:TypeId→Option (List K3)} {m:Nat} (ih:∀t ks cs x,g t=some ks→DataW.trod enc P w base spare held m t cs=some x→Cells3 w ks cs) :
  ∀(fs:List Field) (n:Nat) (ks:List K3) (cs:List Value),je0 g P n fs=some ks→cs.length=n+ks.length→(∀f∈fs,∃x,DataW.trod enc P w base spare held m f.type ((cs.drop f.offset).take (P.cellsOf f.type))=some x) →
   Cells3 w ks (cs.drop n)
 |[],n,ks,cs,hk,hl,_=>by
  simp only[je0,Option.some.injEq]at hk
  subst hk
  simp at hl
  rw[List.drop_eq_nil_of_le (by omega)]
  exact .nil
 |f::fs,n,ks,cs,hk,hl,h=>by
  simp only[je0]at hk
  split at hk
  ·cases hk
  ·rename_i kf hg
   split at hk
   ·rename_i hc
    cases hr:je0 g P (n+kf.length) fs with
    |none=>simp[hr]at hk
    |some kr =>
     simp only[hr,Option.map_some,Option.some.injEq]at hk
     subst hk
     obtain⟨x,hx⟩:=h f List.mem_cons_self
     rw[hc.1,hc.2]at hx
     have h0:=ih f.type kf _ x hg hx
     have h1:=jjB ih fs (n+kf.length) kr cs hr (by rw[hl,List.length_append]; omega) (fun f' hf'=>h f' (List.mem_cons_of_mem _ hf'))
     have e:cs.drop n=(cs.drop n).take kf.length++cs.drop (n+kf.length):=by rw[←List.drop_drop]; exact(List.take_append_drop _ _).symm
     rw[e]
     exact h0.append h1
   ·cases hk
theorem jmC:∀(d:Nat) (t:TypeId) (ks:List K3) (fuel:Nat) (cs:List Value) (x:DataW H × List MemPlace),jlr P d t=some ks→DataW.trod enc P w base spare held fuel t cs=some x→Cells3 w ks cs
 |0,_,_,_,_,_,h,_=>by cases h
 |d+1,t,ks,fuel,cs,x,hk,hx=>by
  unfold jlr at hk
  split at hk
  ·rename_i ks' hks
   cases hk
   obtain⟨ts,h2⟩:=jfc d t ks' fuel cs x hks hx
   exact jzz h2
  ·split at hk
   ·rename_i e ht
    split at hk
    ·rename_i k ks' hks
     split at hk
     ·rename_i hc
      cases hk
      obtain⟨v,rfl,h2⟩:=jwn ht hks (by simpa using hc) (by simp) hx
      exact .cons (.x _ v (by simp) h2) .nil
     ·cases hk
    ·cases hk
   ·rename_i fs ht
    split at hk
    ·rename_i ks' hks
     split at hk
     ·rename_i hc
      cases hk
      obtain⟨xs,n,rfl,_,hl,hxl,hf⟩:=DataW.trod_struct ht hx
      have:=jjB (enc:=enc) (w:=w) (base:=base) (spare:=spare) (held:=held) (g:=jlr P d) (m:=n) (fun t ks cs x h1 h2=>jmC d t ks n cs x h1 h2) fs.toList 0 ks cs hks (by rw[hl,hc]; omega) (fun f hfm=>by
       obtain⟨i,hi,hfi⟩:=List.mem_iff_getElem.1 hfm
       have hi':i<fs.size:=by simpa using hi
       have h1:=hf i f (by rw[Array.getElem?_eq_getElem hi']; simpa using hfi)
       exact⟨xs[i]'(by omega),by rw[h1,List.getElem?_eq_getElem]⟩)
      simpa using this
     ·cases hk
    ·cases hk
   ·cases hk
theorem jwo {r:Reach} {b0:Nat} {t:TypeId} {d:Nat} {ks:List K3} {v:Value} {x:DataW H} {p:List MemPlace} (ht:jbj P t=some true) (hk:jlr P d t=some ks)
  (hval:Value.okWide P w r b0 t v) (h:DataW.Trod enc P w base spare held t v x p):∃vs,v=.agg (List.toArray vs)∧Cells3 w ks vs:=by
 obtain⟨fuel,hx⟩:=h
 have h1:=jmC d t ks fuel _ _ hk hx
 have hv:∃cs,v=.agg cs:=by
  unfold Value.okWide at hval
  cases hU:P.underlying t with
  |none=>simp[jbj,hU]at ht
  |some u =>
   rw[hU]at hval
   cases u with
   |struct fs=>obtain⟨cs,h,_⟩:=hval; exact⟨cs,h⟩
   |array n e=>obtain⟨cs,h,_⟩:=hval; exact⟨cs,h⟩
   |_=>simp[jbj,hU]at ht
 obtain⟨cs,rfl⟩:=hv
 exact⟨cs.toList,by simp,h1⟩
end
def T1.nc:T1→NC
 | .d x=>.d x
 | .r c=>.r c
 | .xl _=>.d (.v undef)
section
variable [Globs]
theorem jhe {w:World} {v:Value} {t:T1} (h:T1Is w v t) (hx:∀X,t≠.xl X):t.nc.at (fun k=>k<w.heap.size) w v:=by
 cases h with
 |d x=>exact rfl
 |r v c he h=>exact⟨h,jaF.lt h he⟩
 |xl v X h=>exact(hx X rfl).elim
abbrev jwp:List K2:=[.d .s,.d (.i .i64),.s [.i .i64],.s [.i .i64],.s [.i .i64],.d (.i .i64),.s (List.replicate 5 (.i .i64)),.d (.i .i64)]
abbrev jfd:List NK:=[.s,.i .i64,.ints .i64,.ints .i64,.ints .i64,.i .i64,.recs 5,.i .i64]
theorem jnx {w:World} {vs:List Value} {ts:List T1} (h:Cells2 w jwp vs ts):∃r:List NC,jca jfd r∧r.length=8∧vs.length=8∧∀j u,vs[j]?=some u→(r.getD j (.d (.v undef))).at (fun k=>k<w.heap.size) w u:=by
 rcases h with _|⟨k0,r0⟩
 rcases r0 with _|⟨k1,r1⟩
 rcases r1 with _|⟨k2,r2⟩
 rcases r2 with _|⟨k3,r3⟩
 rcases r3 with _|⟨k4,r4⟩
 rcases r4 with _|⟨k5,r5⟩
 rcases r5 with _|⟨k6,r6⟩
 rcases r6 with _|⟨k7,r7⟩
 cases r7
 obtain⟨a0,e0,_⟩:=js6 k0
 obtain⟨a1,e1,_⟩:=jnw k1
 obtain⟨a2,e2,_⟩:=jlq k2
 obtain⟨a3,e3,_⟩:=jlq k3
 obtain⟨a4,e4,_⟩:=jlq k4
 obtain⟨a5,e5,_⟩:=jnw k5
 obtain⟨a6,e6,_⟩:=jql k6
 obtain⟨a7,e7,_⟩:=jnw k7
 refine⟨[.d (.s a0),.d (.i .i64 a1),.r (.ints .i64 a2),.r (.ints .i64 a3),.r (.ints .i64 a4),.d (.i .i64 a5),.r (.recs 5 a6),.d (.i .i64 a7)],⟨rfl,fun j k x hk hx=>?_⟩,rfl,rfl,fun j u hu=>?_⟩
 ·match j,hk,hx with
  |0,hk,hx=>cases hk; cases hx; rfl
  |1,hk,hx=>cases hk; cases hx; rfl
  |2,hk,hx=>cases hk; cases hx; rfl
  |3,hk,hx=>cases hk; cases hx; rfl
  |4,hk,hx=>cases hk; cases hx; rfl
  |5,hk,hx=>cases hk; cases hx; rfl
  |6,hk,hx=>cases hk; cases hx; rfl
  |7,hk,hx=>cases hk; cases hx; rfl
  |j+8,hk,hx=>simp at hk
 ·match j,hu with
  |0,hu=>cases hu; exact jhe e0 (fun X h=>by cases h)
  |1,hu=>cases hu; exact jhe e1 (fun X h=>by cases h)
  |2,hu=>cases hu; exact jhe e2 (fun X h=>by cases h)
  |3,hu=>cases hu; exact jhe e3 (fun X h=>by cases h)
  |4,hu=>cases hu; exact jhe e4 (fun X h=>by cases h)
  |5,hu=>cases hu; exact jhe e5 (fun X h=>by cases h)
  |6,hu=>cases hu; exact jhe e6 (fun X h=>by cases h)
  |7,hu=>cases hu; exact jhe e7 (fun X h=>by cases h)
  |j+8,hu=>simp at hu
theorem jwq {w:World} {v:Value} (h:Cell3 w (.x jwp) v):∃l:List (List NC),T1Is w v (.xl (.st jfd l)):=by
 cases h with
 |x ks v h0 h =>
  obtain⟨n,us,ts,a,cap,h1,rfl,h3,h4⟩:=h
  let R:Nat→List NC:=fun i=>if h:i<n then Classical.choose (jnx (h1 i h))else[]
  have hR:∀i (h:i<n),jca jfd (R i)∧(R i).length=8∧(us i).length=8∧∀j u,(us i)[j]?=some u→((R i).getD j (.d (.v undef))).at (fun k=>k<w.heap.size) w u:=fun i h=>by
   have e:R i=Classical.choose (jnx (h1 i h)):=dif_pos h
   rw[e]
   exact Classical.choose_spec (jnx (h1 i h))
  have hrows:∀r∈(List.range n).map R,jca jfd r:=fun r hr=>by
   obtain⟨i,hi,rfl⟩:=List.mem_map.1 hr
   exact(hR i (List.mem_range.1 hi)).1
  obtain⟨m1,m2,m3⟩:=(XC.st jfd []).cell_mk hrows
  have m1:(XC.st jfd ((List.range n).map R)).n=((List.range n).map R).length:=m1
  have m3:∀i j,i<((List.range n).map R).length→j<8→(XC.st jfd ((List.range n).map R)).cell i j=(((List.range n).map R).getD i []).getD j (.d (.v undef)):=m3
  have hn:(XC.st jfd ((List.range n).map R)).n=n:=by rw[m1]; simp
  refine⟨(List.range n).map R,.xl _ _ ⟨a,cap,by rw[hn],by rw[hn]; exact h3,fun h=>?_⟩⟩
  rw[hn]at h
  obtain⟨b,off,rfl,hb,hc⟩:=h4 h
  refine⟨b,off,rfl,hb,fun i j hi hj=>?_⟩
  rw[hn]at hi
  have hj:j<8:=hj
  obtain⟨_,q2,q3,q4⟩:=hR i hi
  have hu:(us i)[j]?=some ((us i)[j]'(by omega)):=List.getElem?_eq_getElem (by omega)
  refine⟨_,(hc i j hi hj).trans hu,?_⟩
  rw[m3 i j (by simpa using hi) hj]
  have:((List.range n).map R).getD i []=R i:=by simp[List.getD,hi]
  rw[this]
  exact q4 j _ hu
end
end Go.Sx
end
