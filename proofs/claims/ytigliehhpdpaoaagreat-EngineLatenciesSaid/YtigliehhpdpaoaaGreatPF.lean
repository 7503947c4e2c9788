/- Part 6 of the proof of EngineLatencies: the executor, the mirrors of the functions, the plain facts. -/
import Derived.Test.YtigliehhpdpaoaaGreatPE
import Derived.Carry
import Derived.ChangeArms
import Derived.OpenShut
import Derived.ChangeShapes
import Derived.ChangeSame
import Derived.SizedLaws
import Derived.WideShapes
set_option maxRecDepth 100000
set_option linter.unusedSectionVars false
set_option linter.unusedSimpArgs false
set_option linter.unusedVariables false
section
namespace Go.Sh
open Go Go.Proofs Go.RowKit Go.Sx
open Go.IntKind (wrap)
def y158:List (Option Cont):=[some (.ints .i64 []),some (.ints .i64 [])]
def y148 (s1 s2:List Int) (x0:Int):Option (Int ⊕ (Unit ⊕ Unit)) :=
 if x0<(↑(List.length s1):Int)then
  if 0≤x0∧x0<(↑(List.length s1):Int)then
  if Int.toNat x0<List.length s1 then
   if 0≤x0∧x0<(↑(List.length s2):Int)then
   if Int.toNat x0<List.length s2 then
    if(List.getD s1 (Int.toNat x0) (0:Int)!=List.getD s2 (Int.toNat x0) (0:Int))=true then
    some (.inr ((.inl ())))
    else
    some (.inl (wrap .i64 (x0+1)))
   else none
   else none
  else none
  else none
 else
  some (.inr ((.inr ())))
def jim (u4:Unit):Option Bool :=
 some false
def jin (u5:Unit):Option Bool :=
 some true
def y149:(Unit ⊕ Unit)→Option Bool :=
 (Sum.elim (jim) (jin))
def y17 (s1 s2:List Int):Option Bool :=
 if((↑(List.length s1):Int)!=(↑(List.length s2):Int))=true then
  some false
 else
  Option.bind (jah (y148 s1 s2) big (0:Int)) (y149)
def y100:List A→Option (Prop × List RV)
 |[.r (.ints .i64 s1),.r (.ints .i64 s2)]=>some (ok (y17 s1 s2),[.d (.b ((val (y17 s1 s2))))])
 |_=>none
abbrev sp_89:jaa→jaa:=jaG 89 true (jaE y158 y100)
abbrev y150 (s1 s2:List Int) (r:Bool):Lp (Int × Nat) Int (Unit ⊕ Unit) Bool Bool :=
 ⟨fun z=>Prod.fst z,fun z=>Prod.snd z,fun z x n=>(x,n),fun z=>y148 s1 s2,fun z=>y149,fun z=>top r,fun z=>0,[.c fun _=>(↑(List.length s1):Int),.c fun vv=>vv.1,.c fun _=>s1,.c fun _=>s2]⟩
def jld (s1 s2:List Int) (r:Bool):Sk (top r) (y17 s1 s2) :=
 .brB
 (.obT (.rc))
 (.loop (y150 s1 s2 r) (fun kk=>((0:Int),big)) fun z0 =>
 .br
 (.ob (.ob (.ob (.ob (.brB
 (.exit (.obT (.rc)))
 (.next))))))
 (.exit (.obT (.rc))))
theorem jjM (s1 s2:List Int) (r:Bool) (h:Option.bind (y17 s1 s2) some=some r):jbY Tryz.f89 (sp0) (fun gs id _=>match id with
 |0=>some ⟨Int × Nat,fun z=>⟨[(0,.w (.c (.o 0))),(1,.w (.c (.o 1))),(12,.w (.c (.d (.i .i64 ((↑(List.length s1):Int)))))),(13,.w (.c (.d (.i .i64 (Prod.fst z)))))],[(0,.ext (.ints .i64 s1)),(1,.ext (.ints .i64 s2))],2⟩,fun z=>(y150 s1 s2 r).inv z,fun z=>Prod.snd z⟩
 |_=>none) [.r (.ints .i64 s1),.r (.ints .i64 s2)] [.d (.b r)] :=
 Sk.vc (jld s1 s2 r) (by kernel_rfl) h
theorem jjN:jaf Tryz.prog 89 true (jaE y158 y100):=by
 refine jaN (sp:=sp0) (fn:=Tryz.f89) (body:=bodyOf Tryz.f89) mixed jau Tryz.func89 (by kernel_rfl) (by kernel_rfl) fun as_ ob rs h ho=>?_
 unfold y100 at h
 split at h
 ·rename_i s1 s2
  cases h
  exact⟨Nat.le_of_ble_eq_true rfl,_,_,jjM s1 s2 _ (jap ho)⟩
 ·cases h
theorem sp_89_ok {sp:jaa} (h:jac Tryz.prog sp):jac Tryz.prog (sp_89 sp):=jar jjN h
def y131:List SV:=[.a [.d,.x (.st [.s,.i .i64,.ints .i64,.ints .i64,.ints .i64,.i .i64,.recs 5,.i .i64] [])]]
def y9 (u1:List (List NC)) (x0:Int × List Int) (r0:List Int × Bool) (x1:(Int × List Int)):Option ((Int × List Int) ⊕ (Unit ⊕ (List Int))) :=
 if x1.1<(↑(List.length (nL u1 (Int.toNat (List.getD r0.1 (Int.toNat x0.1) (0:Int))) (2:Nat))):Int)then
  if 0≤x1.1∧x1.1<(↑(List.length (nL u1 (Int.toNat (List.getD r0.1 (Int.toNat x0.1) (0:Int))) (2:Nat))):Int)then
  if Int.toNat x1.1<List.length (nL u1 (Int.toNat (List.getD r0.1 (Int.toNat x0.1) (0:Int))) (2:Nat))then
   if 0≤List.getD (nL u1 (Int.toNat (List.getD r0.1 (Int.toNat x0.1) (0:Int))) (2:Nat)) (Int.toNat x1.1) (0:Int)∧List.getD (nL u1 (Int.toNat (List.getD r0.1 (Int.toNat x0.1) (0:Int))) (2:Nat)) (Int.toNat x1.1) 0<(↑(List.length x1.2):Int)then
   if Int.toNat (List.getD (nL u1 (Int.toNat (List.getD r0.1 (Int.toNat x0.1) (0:Int))) (2:Nat)) (Int.toNat x1.1) (0:Int))<List.length x1.2 then
    if 0≤x1.1∧x1.1<(↑(List.length (nL u1 (Int.toNat (List.getD r0.1 (Int.toNat x0.1) (0:Int))) (3:Nat))):Int)then
    if Int.toNat x1.1<List.length (nL u1 (Int.toNat (List.getD r0.1 (Int.toNat x0.1) (0:Int))) (3:Nat))then
     if x1.1>0 then
     if 0≤x0.1∧x0.1<(↑(List.length r0.1):Int)then
      if Int.toNat x0.1<List.length r0.1 then
      if 0≤List.getD r0.1 (Int.toNat x0.1) (0:Int)∧List.getD r0.1 (Int.toNat x0.1) 0<(↑(List.length x1.2):Int)then
       if Int.toNat (List.getD r0.1 (Int.toNat x0.1) (0:Int))<List.length x1.2 then
       if(wrap .i64 (wrap .i64 (List.getD x1.2 (Int.toNat (List.getD (nL u1 (Int.toNat (List.getD r0.1 (Int.toNat x0.1) (0:Int))) (2:Nat)) (Int.toNat x1.1) (0:Int))) 0+List.getD (nL u1 (Int.toNat (List.getD r0.1 (Int.toNat x0.1) (0:Int))) (3:Nat)) (Int.toNat x1.1) (0:Int))+nI u1 (Int.toNat (List.getD r0.1 (Int.toNat x0.1) (0:Int))) (5:Nat))!=List.getD x1.2 (Int.toNat (List.getD r0.1 (Int.toNat x0.1) (0:Int))) (0:Int))=true then
        some (.inr ((.inl ())))
       else
        if 0≤x0.1∧x0.1<(↑(List.length r0.1):Int)then
        if Int.toNat x0.1<List.length r0.1 then
         if 0≤List.getD r0.1 (Int.toNat x0.1) (0:Int)∧List.getD r0.1 (Int.toNat x0.1) 0<(↑(List.length x1.2):Int)then
         if Int.toNat (List.getD r0.1 (Int.toNat x0.1) (0:Int))<List.length x1.2 then
          some (.inl ((wrap .i64 (x1.1+1),List.set x1.2 (Int.toNat (List.getD r0.1 (Int.toNat x0.1) (0:Int))) (wrap .i64 (wrap .i64 (List.getD x1.2 (Int.toNat (List.getD (nL u1 (Int.toNat (List.getD r0.1 (Int.toNat x0.1) (0:Int))) (2:Nat)) (Int.toNat x1.1) (0:Int))) 0+List.getD (nL u1 (Int.toNat (List.getD r0.1 (Int.toNat x0.1) (0:Int))) (3:Nat)) (Int.toNat x1.1) (0:Int))+nI u1 (Int.toNat (List.getD r0.1 (Int.toNat x0.1) (0:Int))) (5:Nat))))))
         else none
         else none
        else none
        else none
       else none
      else none
      else none
     else none
     else
     if 0≤x0.1∧x0.1<(↑(List.length r0.1):Int)then
      if Int.toNat x0.1<List.length r0.1 then
      if 0≤List.getD r0.1 (Int.toNat x0.1) (0:Int)∧List.getD r0.1 (Int.toNat x0.1) 0<(↑(List.length x1.2):Int)then
       if Int.toNat (List.getD r0.1 (Int.toNat x0.1) (0:Int))<List.length x1.2 then
       some (.inl ((wrap .i64 (x1.1+1),List.set x1.2 (Int.toNat (List.getD r0.1 (Int.toNat x0.1) (0:Int))) (wrap .i64 (wrap .i64 (List.getD x1.2 (Int.toNat (List.getD (nL u1 (Int.toNat (List.getD r0.1 (Int.toNat x0.1) (0:Int))) (2:Nat)) (Int.toNat x1.1) (0:Int))) 0+List.getD (nL u1 (Int.toNat (List.getD r0.1 (Int.toNat x0.1) (0:Int))) (3:Nat)) (Int.toNat x1.1) (0:Int))+nI u1 (Int.toNat (List.getD r0.1 (Int.toNat x0.1) (0:Int))) (5:Nat))))))
       else none
      else none
      else none
     else none
    else none
    else none
   else none
   else none
  else none
  else none
 else
  some (.inr (.inr x1.2))
def jle (x0:Int × List Int) (u26:Unit):Option ((Int × List Int) ⊕ (Unit ⊕ (List Int))) :=
 some (.inr ((.inl ())))
def y101 (x0:Int × List Int) (u44:List Int):Option ((Int × List Int) ⊕ (Unit ⊕ (List Int))) :=
 some (.inl ((wrap .i64 (x0.1+1),u44)))
def y120 (x0:Int × List Int):(Unit ⊕ (List Int))→Option ((Int × List Int) ⊕ (Unit ⊕ (List Int))) :=
 (Sum.elim (jle x0) (y101 x0))
def y12 (u1:List (List NC)) (r0:List Int × Bool) (x0:(Int × List Int)):Option ((Int × List Int) ⊕ (Unit ⊕ (List Int))) :=
 if x0.1<(↑(List.length r0.1):Int)then
  if 0≤x0.1∧x0.1<(↑(List.length r0.1):Int)then
  if Int.toNat x0.1<List.length r0.1 then
   if 0≤List.getD r0.1 (Int.toNat x0.1) (0:Int)∧List.getD r0.1 (Int.toNat x0.1) 0<(↑(List.length u1):Int)then
   if Int.toNat (List.getD r0.1 (Int.toNat x0.1) (0:Int))<List.length u1 then
    Option.bind (jah (y9 u1 x0 r0) big (((0:Int),x0.2))) (y120 x0)
   else none
   else none
  else none
  else none
 else
  some (.inr (.inr x0.2))
def jlf (u4:Unit):Option (List Int × Bool) :=
 some ([],false)
def jlg (u5:List Int):Option (List Int × Bool) :=
 some (u5,true)
def y121:(Unit ⊕ (List Int))→Option (List Int × Bool) :=
 (Sum.elim (jlf) (jlg))
def y8 (u3:ByteArray) (u1:List (List NC)):Option (List Int × Bool) :=
 Option.bind (y1 u3 u1) fun r0 =>
 if 0≤(↑(List.length u1):Int)∧(↑(List.length u1):Int)=(↑(List.length u1):Int)∧(↑(8:Nat):Int)*(↑(List.length u1):Int)≤281474976710656∧(↑(List.length u1):Int)≤9223372036854775807 then
  Option.bind (jah (y12 u1 r0) big (((0:Int),List.replicate (Int.toNat (↑(List.length u1):Int)) (0:Int)))) (y121)
 else none
def y132:List Lf→Option GT
 |[.d (.s u3),.x (.st [.s,.i .i64,.ints .i64,.ints .i64,.ints .i64,.i .i64,.recs 5,.i .i64] u1)]=>some (.leaf (ok (y8 u3 u1)) [.c (.row 3 (.ints .i64 ((val (y8 u3 u1)).1))),.c (.d (.b ((val (y8 u3 u1)).2)))])
 |_=>none
abbrev sp_33:jaa→jaa:=jaG 33 true (jak y131 y132)
abbrev y122 (u3:ByteArray) (u1:List (List NC)) (r:List Int × Bool):Lp ((Int × List Int) × Nat) (Int × List Int) ((Unit ⊕ (List Int))) (List Int × Bool) (List Int × Bool) :=
 ⟨fun z=>Prod.fst z,fun z=>Prod.snd z,fun z x n=>(x,n),fun z=>y12 u1 (val (y1 u3 u1)),fun z=>y121,fun z=>top r,fun z=>0,[.c fun _=>0,.c fun vv=>vv.1.1,.c fun _=>u3,.c fun _=>(val (y1 u3 u1)).1,.c fun vv=>vv.1.2,.c fun _=>u1]⟩
abbrev jgL (u3:ByteArray) (u1:List (List NC)) (r:List Int × Bool) (m1:Nat):Lp ((Int × List Int) × Nat × (Int × List Int) × Nat) (Int × List Int) ((Unit ⊕ (List Int))) (((Int × List Int) ⊕ (Unit ⊕ (List Int)))) (List Int × Bool) :=
 ⟨fun z=>Prod.fst (Prod.snd (Prod.snd z)),fun z=>Prod.snd (Prod.snd (Prod.snd z)),fun z x n=>(Prod.fst z,Prod.fst (Prod.snd z),x,n),fun z=>y9 u1 (Prod.fst z) (val (y1 u3 u1)),fun z=>y120 (Prod.fst z),fun z=>(y122 u3 u1 r).cx (Prod.fst z,m1),fun z=>Prod.fst (Prod.snd z),[.c fun _=>0,.c fun vv=>vv.1.1,.c fun _=>0,.c fun vv=>vv.2.2.1.1,.c fun _=>u3,.c fun _=>(val (y1 u3 u1)).1,.c fun vv=>vv.2.2.1.2,.c fun vv=>nS u1 (Int.toNat (List.getD (val (y1 u3 u1)).1 (Int.toNat vv.1.1) (0:Int))) (0:Nat),.c fun vv=>nI u1 (Int.toNat (List.getD (val (y1 u3 u1)).1 (Int.toNat vv.1.1) (0:Int))) (1:Nat),.c fun vv=>nI u1 (Int.toNat (List.getD (val (y1 u3 u1)).1 (Int.toNat vv.1.1) (0:Int))) (5:Nat),.c fun vv=>nI u1 (Int.toNat (List.getD (val (y1 u3 u1)).1 (Int.toNat vv.1.1) (0:Int))) (7:Nat),.c fun _=>u1,.c fun vv=>nL u1 (Int.toNat (List.getD (val (y1 u3 u1)).1 (Int.toNat vv.1.1) (0:Int))) (2:Nat),.c fun vv=>nL u1 (Int.toNat (List.getD (val (y1 u3 u1)).1 (Int.toNat vv.1.1) (0:Int))) (3:Nat),.c fun vv=>nL u1 (Int.toNat (List.getD (val (y1 u3 u1)).1 (Int.toNat vv.1.1) (0:Int))) (4:Nat),.c fun vv=>nR u1 (Int.toNat (List.getD (val (y1 u3 u1)).1 (Int.toNat vv.1.1) (0:Int))) (6:Nat)]⟩
def jm4 (u3:ByteArray) (u1:List (List NC)) (r:List Int × Bool):Sk (top r) (Option.bind (jah (y12 u1 (val (y1 u3 u1))) big (((0:Int),List.replicate (Int.toNat (↑(List.length u1):Int)) (0:Int)))) (y121)) :=
 .loop (y122 u3 u1 r) (fun kk=>(((0:Int),List.replicate (Int.toNat (↑(List.length u1):Int)) (0:Int)),big)) fun z0 =>
 .br
 (.ob (.ob (.ob (.ob (.loop (jgL u3 u1 r (Prod.snd z0)) (fun kk=>(Prod.fst z0,kk,((0:Int),(Prod.fst z0).2),big)) fun z1 =>
 .br
 (.ob (.ob (.ob (.ob (.ob (.ob (.br
 (.ob (.ob (.ob (.ob (.brB
 (.exit (.exit (.obT (.obT (.ret (fun r=>(Ob (List.length r.1=(0:Nat)) ∧
 (Ob (false=r.2) ∧
 True))) ⟨⟨rfl⟩,⟨⟨rfl⟩,trivial⟩⟩)))))
 (.ob (.ob (.ob (.ob (.next))))))))))
 (.ob (.ob (.ob (.ob (.next))))))))))))
 (.exit (.next)))))))
 (.exit (.obT (.obT (.rc))))
def jos (u3:ByteArray) (u1:List (List NC)) (r:List Int × Bool):Sk (top r) (y8 u3 u1) :=
 .call (.ob (jm4 u3 u1 r))
theorem jm5 (u3:ByteArray) (u1:List (List NC)) (r:List Int × Bool) (h:Option.bind (y8 u3 u1) some=some r):jbb Tryz.f33 ((sp_23 sp0)) (fun gs id _=>match id with
 |0=>some ⟨(Int × List Int) × Nat,fun z=>⟨[(1,.w (.c (.p 1 0 1 0))),(4,.w (.c (.o 2))),(6,.w (.c (.o 3))),(7,.w (.c (.d (.i .i64 (Prod.fst (Prod.fst z))))))],[(1,.box 24 [.d (.s u3),.o 0]),(2,.row 3 (.ints .i64 ((val (y1 u3 u1)).1))),(3,.row 3 (.ints .i64 (Prod.snd (Prod.fst z)))),(0,.xext (XC.st [NK.s,NK.i .i64,NK.ints .i64,NK.ints .i64,NK.ints .i64,NK.i .i64,NK.recs (5:Nat),NK.i .i64] u1))],4⟩,fun z=>(y122 u3 u1 r).inv z,fun z=>Prod.snd z⟩
 |2=>some ⟨(Int × List Int) × Nat × (Int × List Int) × Nat,fun z=>⟨[(1,.w (.c (.p 1 0 1 0))),(4,.w (.c (.o 2))),(6,.w (.c (.o 3))),(7,.w (.c (.d (.i .i64 ((Prod.fst z).1))))),(8,.w (.c (.p 4 0 1 0))),(9,.w (.c (.d (.i .i64 (Prod.fst (Prod.fst (Prod.snd (Prod.snd z))))))))],[(1,.box 24 [.d (.s u3),.o 0]),(2,.row 3 (.ints .i64 ((val (y1 u3 u1)).1))),(3,.row 3 (.ints .i64 (Prod.snd (Prod.fst (Prod.snd (Prod.snd z)))))),(4,.box 118 [.d (.s (nS u1 (Int.toNat (List.getD (val (y1 u3 u1)).1 (Int.toNat (Prod.fst z).1) (0:Int))) (0:Nat))),.d (.i .i64 (nI u1 (Int.toNat (List.getD (val (y1 u3 u1)).1 (Int.toNat (Prod.fst z).1) (0:Int))) (1:Nat))),.o 5,.o 6,.o 7,.d (.i .i64 (nI u1 (Int.toNat (List.getD (val (y1 u3 u1)).1 (Int.toNat (Prod.fst z).1) (0:Int))) (5:Nat))),.o 8,.d (.i .i64 (nI u1 (Int.toNat (List.getD (val (y1 u3 u1)).1 (Int.toNat (Prod.fst z).1) (0:Int))) (7:Nat)))]),(0,.xext (XC.st [NK.s,NK.i .i64,NK.ints .i64,NK.ints .i64,NK.ints .i64,NK.i .i64,NK.recs (5:Nat),NK.i .i64] u1)),(5,.ext (.ints .i64 (nL u1 (Int.toNat (List.getD (val (y1 u3 u1)).1 (Int.toNat (Prod.fst z).1) (0:Int))) (2:Nat)))),(6,.ext (.ints .i64 (nL u1 (Int.toNat (List.getD (val (y1 u3 u1)).1 (Int.toNat (Prod.fst z).1) (0:Int))) (3:Nat)))),(7,.ext (.ints .i64 (nL u1 (Int.toNat (List.getD (val (y1 u3 u1)).1 (Int.toNat (Prod.fst z).1) (0:Int))) (4:Nat)))),(8,.ext (.recs 5 (nR u1 (Int.toNat (List.getD (val (y1 u3 u1)).1 (Int.toNat (Prod.fst z).1) (0:Int))) (6:Nat))))],9⟩,fun z=>(jgL u3 u1 r (gs.getD 0 0)).inv z,fun z=>Prod.snd (Prod.snd (Prod.snd z))⟩
 |_=>none) (ja5 y131 [.d (.s u3),.x (.st [.s,.i .i64,.ints .i64,.ints .i64,.ints .i64,.i .i64,.recs 5,.i .i64] u1)]) [.c (.row 3 (.ints .i64 r.1)),.c (.d (.b r.2))] :=
 Sk.vc (jos u3 u1 r) (by kernel_rfl) h
theorem jm6:jaf Tryz.prog 33 true (jak y131 y132):=by
 refine jay (sp:=(sp_23 sp0)) (fn:=Tryz.f33) (body:=bodyOf Tryz.f33) mixed (sp_23_ok jau) Tryz.func33 (by kernel_rfl) (by kernel_rfl) fun ls t h ho b hb=>?_
 unfold y132 at h
 split at h
 ·rename_i u3 u1
  cases h
  obtain rfl:=jaL hb
  exact⟨Nat.le_of_ble_eq_true (by kernel_rfl),_,_,jm5 u3 u1 _ (jap ho)⟩
 ·cases h
theorem sp_33_ok {sp:jaa} (h:jac Tryz.prog sp):jac Tryz.prog (sp_33 sp):=jar jm6 h
end Go.Sh
end

section
namespace Go.Sh
open Go Go.Proofs Go.RowKit Go.Sx
open Go.IntKind (wrap)
def jjo:List SV:=[.a [.r (.ints .i64 []),.d],.c (.d),.c (.d)]
def y49 (u66:List Int) (u67 i by_:Int):Option (List Int × Int) :=
 Option.bind (jce u66) fun r0 =>
 if(List.length r0+List.length [i])*8≤140737488355328∧List.length r0+List.length [i]≤9223372036854775807 then
  some ((r0++[i],wrap .i64 (u67+by_)))
 else none
def jjp:List Lf→Option GT
 |[.r (.ints .i64 u66),.d (.i .i64 u67),.d (.i .i64 i),.d (.i .i64 by_)]=>some (.leaf (ok (y49 u66 u67 i by_)) [.s [.row 3 (.ints .i64 ((val (y49 u66 u67 i by_)).1)),.d (.i .i64 ((val (y49 u66 u67 i by_)).2))]])
 |_=>none
abbrev sp_133:jaa→jaa:=jaG 133 true (jak jjo jjp)
def jv5 (u66:List Int) (u67 i by_:Int) (r:List Int × Int):Sk (top r) (y49 u66 u67 i by_) :=
 .call (.ob (.obT (.rc)))
theorem jtV (u66:List Int) (u67 i by_:Int) (r:List Int × Int) (h:Option.bind (y49 u66 u67 i by_) some=some r):jbb Tryz.f133 ((sp_136 sp0)) (fun _ _ _=>none) (ja5 jjo [.r (.ints .i64 u66),.d (.i .i64 u67),.d (.i .i64 i),.d (.i .i64 by_)]) [.s [.row 3 (.ints .i64 r.1),.d (.i .i64 r.2)]] :=
 Sk.vc (jv5 u66 u67 i by_ r) (by kernel_rfl) h
theorem jtW:jaf Tryz.prog 133 true (jak jjo jjp):=by
 refine jay (sp:=(sp_136 sp0)) (fn:=Tryz.f133) (body:=bodyOf Tryz.f133) mixed (sp_136_ok jau) Tryz.func133 (by kernel_rfl) (by kernel_rfl) fun ls t h ho b hb=>?_
 unfold jjp at h
 split at h
 ·rename_i u66 u67 i by_
  cases h
  obtain rfl:=jaL hb
  exact⟨Nat.le_of_ble_eq_true (by kernel_rfl),_,_,jtV u66 u67 i by_ _ (jap ho)⟩
 ·cases h
theorem sp_133_ok {sp:jaa} (h:jac Tryz.prog sp):jac Tryz.prog (sp_133 sp):=jar jtW h
end Go.Sh
end

section
namespace Go.Sh
open Go Go.Proofs Go.RowKit Go.Sx
open Go.IntKind (wrap)
def jeU:List SV:=[.c (.p [.d,.x (.st [.s,.i .i64,.ints .i64,.ints .i64,.ints .i64,.i .i64,.recs 5,.i .i64] []),.r (.ints .i64 [])])]
def y19 (u40:List (List NC)) (u41:List Int) (x0:Int × List (List NC)) (x1:(Int × List (List NC))):Option ((Int × List (List NC)) ⊕ ((Int × Int × List Int × List Int) ⊕ (List (List NC)))) :=
 if x1.1<(↑(List.length (nL u40 (Int.toNat (List.getD u41 (Int.toNat x0.1) (0:Int))) (2:Nat))):Int)then
  if 0≤x1.1∧x1.1<(↑(List.length (nL u40 (Int.toNat (List.getD u41 (Int.toNat x0.1) (0:Int))) (2:Nat))):Int)then
  if Int.toNat x1.1<List.length (nL u40 (Int.toNat (List.getD u41 (Int.toNat x0.1) (0:Int))) (2:Nat))then
   if 0≤List.getD (nL u40 (Int.toNat (List.getD u41 (Int.toNat x0.1) (0:Int))) (2:Nat)) (Int.toNat x1.1) (0:Int)∧List.getD (nL u40 (Int.toNat (List.getD u41 (Int.toNat x0.1) (0:Int))) (2:Nat)) (Int.toNat x1.1) 0<(↑(List.length x1.2):Int)then
   if Int.toNat (List.getD (nL u40 (Int.toNat (List.getD u41 (Int.toNat x0.1) (0:Int))) (2:Nat)) (Int.toNat x1.1) (0:Int))<List.length x1.2 then
    if 0≤x1.1∧x1.1<(↑(List.length (nL u40 (Int.toNat (List.getD u41 (Int.toNat x0.1) (0:Int))) (3:Nat))):Int)then
    if Int.toNat x1.1<List.length (nL u40 (Int.toNat (List.getD u41 (Int.toNat x0.1) (0:Int))) (3:Nat))then
     Option.bind (y49 (nL x1.2 (Int.toNat (List.getD (nL u40 (Int.toNat (List.getD u41 (Int.toNat x0.1) (0:Int))) (2:Nat)) (Int.toNat x1.1) (0:Int))) (0:Nat)) (nI x1.2 (Int.toNat (List.getD (nL u40 (Int.toNat (List.getD u41 (Int.toNat x0.1) (0:Int))) (2:Nat)) (Int.toNat x1.1) (0:Int))) (1:Nat)) (List.getD u41 (Int.toNat x0.1) (0:Int)) (wrap .i64 (List.getD (nL u40 (Int.toNat (List.getD u41 (Int.toNat x0.1) (0:Int))) (3:Nat)) (Int.toNat x1.1) 0+nI u40 (Int.toNat (List.getD u41 (Int.toNat x0.1) (0:Int))) (5:Nat)))) fun r0 =>
     if(x1.1==0)=true then
     if 0≤List.getD u41 (Int.toNat x0.1) (0:Int)∧List.getD u41 (Int.toNat x0.1) 0<(↑(List.length x1.2):Int)then
      if Int.toNat (List.getD u41 (Int.toNat x0.1) (0:Int))<List.length x1.2 then
      some (.inl ((wrap .i64 (x1.1+1),List.set x1.2 (Int.toNat (List.getD u41 (Int.toNat x0.1) (0:Int))) [NC.r (Cont.ints .i64 r0.1),NC.d (D.i .i64 r0.2)])))
      else none
     else none
     else
     if 0≤List.getD u41 (Int.toNat x0.1) (0:Int)∧List.getD u41 (Int.toNat x0.1) 0<(↑(List.length x1.2):Int)then
      if Int.toNat (List.getD u41 (Int.toNat x0.1) (0:Int))<List.length x1.2 then
      if(r0.2 != nI x1.2 (Int.toNat (List.getD u41 (Int.toNat x0.1) (0:Int))) (1:Nat))=true then
       if 0≤List.getD u41 (Int.toNat x0.1) (0:Int)∧List.getD u41 (Int.toNat x0.1) 0<(↑(List.length x1.2):Int)then
       if Int.toNat (List.getD u41 (Int.toNat x0.1) (0:Int))<List.length x1.2 then
        some (.inr ((.inl ((nI x1.2 (Int.toNat (List.getD u41 (Int.toNat x0.1) (0:Int))) (1:Nat),r0.2,nL x1.2 (Int.toNat (List.getD u41 (Int.toNat x0.1) (0:Int))) (0:Nat),r0.1)))))
       else none
       else none
      else
       some (.inl ((wrap .i64 (x1.1+1),x1.2)))
      else none
     else none
    else none
    else none
   else none
   else none
  else none
  else none
 else
  some (.inr (.inr x1.2))
def jlO (x0:Int × List (List NC)) (u26:Int × Int × List Int × List Int):Option ((Int × List (List NC)) ⊕ ((Int × Int × List Int × List Int) ⊕ (List (List NC)))) :=
 some (.inr ((.inl ((Prod.fst u26,Prod.fst (Prod.snd u26),Prod.fst (Prod.snd (Prod.snd u26)),Prod.snd (Prod.snd (Prod.snd u26)))))))
def y111 (x0:Int × List (List NC)) (u44:List (List NC)):Option ((Int × List (List NC)) ⊕ ((Int × Int × List Int × List Int) ⊕ (List (List NC)))) :=
 some (.inl ((wrap .i64 (x0.1+1),u44)))
def y89 (x0:Int × List (List NC)):((Int × Int × List Int × List Int) ⊕ (List (List NC)))→Option ((Int × List (List NC)) ⊕ ((Int × Int × List Int × List Int) ⊕ (List (List NC)))) :=
 (Sum.elim (jlO x0) (y111 x0))
def y20 (u40:List (List NC)) (u41:List Int) (x0:(Int × List (List NC))):Option ((Int × List (List NC)) ⊕ ((Int × Int × List Int × List Int) ⊕ (List (List NC)))) :=
 if x0.1<(↑(List.length u41):Int)then
  if 0≤x0.1∧x0.1<(↑(List.length u41):Int)then
  if Int.toNat x0.1<List.length u41 then
   if 0≤List.getD u41 (Int.toNat x0.1) (0:Int)∧List.getD u41 (Int.toNat x0.1) 0<(↑(List.length u40):Int)then
   if Int.toNat (List.getD u41 (Int.toNat x0.1) (0:Int))<List.length u40 then
    if((↑(List.length (nL u40 (Int.toNat (List.getD u41 (Int.toNat x0.1) (0:Int))) (2:Nat))):Int)==0)=true then
    if 0≤List.getD u41 (Int.toNat x0.1) (0:Int)∧List.getD u41 (Int.toNat x0.1) 0<(↑(List.length x0.2):Int)then
     if Int.toNat (List.getD u41 (Int.toNat x0.1) (0:Int))<List.length x0.2 then
     Option.bind (jah (y19 u40 u41 x0) big (((0:Int),List.set x0.2 (Int.toNat (List.getD u41 (Int.toNat x0.1) (0:Int))) [NC.r (Cont.ints .i64 [List.getD u41 (Int.toNat x0.1) (0:Int)]),NC.d (D.i .i64 0)]))) (y89 x0)
     else none
    else none
    else
    Option.bind (jah (y19 u40 u41 x0) big (((0:Int),x0.2))) (y89 x0)
   else none
   else none
  else none
  else none
 else
  some (.inr (.inr x0.2))
def jlP (u4:Int × Int × List Int × List Int):Option (List (List NC) × List Int × Int × List Int × Int × Bool) :=
 some ([],u4.2.2.1,u4.1,u4.2.2.2,u4.2.1,true)
def jlQ (u5:List (List NC)):Option (List (List NC) × List Int × Int × List Int × Int × Bool) :=
 some ((u5,[],0,[],0,false))
def y133:((Int × Int × List Int × List Int) ⊕ (List (List NC)))→Option (List (List NC) × List Int × Int × List Int × Int × Bool) :=
 (Sum.elim (jlP) (jlQ))
def y2 (u46:ByteArray) (u40:List (List NC)) (u41:List Int):Option (List (List NC) × List Int × Int × List Int × Int × Bool) :=
 if 0≤(↑(List.length u40):Int)∧(↑(List.length u40):Int)=(↑(List.length u40):Int)∧(↑(32:Nat):Int)*(↑(List.length u40):Int)≤281474976710656∧(↑(List.length u40):Int)≤9223372036854775807 then
  Option.bind (jah (y20 u40 u41) big (((0:Int),List.replicate (Int.toNat (↑(List.length u40):Int)) [NC.r (Cont.ints .i64 []),NC.d (D.i .i64 0)]))) (y133)
 else none
def jeV:List Lf→Option GT
 |[.d (.s u46),.x (.st [.s,.i .i64,.ints .i64,.ints .i64,.ints .i64,.i .i64,.recs 5,.i .i64] u40),.r (.ints .i64 u41)]=>some (.leaf (ok (y2 u46 u40 u41)) [.c (.x 140 (.st ([NK.ints .i64,NK.i .i64]) ((val (y2 u46 u40 u41)).1))),.s [.fe (.ints .i64 ((val (y2 u46 u40 u41)).2.1)),.d (.i .i64 ((val (y2 u46 u40 u41)).2.2.1)),.row 3 (.ints .i64 ((val (y2 u46 u40 u41)).2.2.2.1)),.d (.i .i64 ((val (y2 u46 u40 u41)).2.2.2.2.1))],.c (.d (.b ((val (y2 u46 u40 u41)).2.2.2.2.2)))])
 |_=>none
abbrev sp_88:jaa→jaa:=jaG 88 true (jak jeU jeV)
abbrev y134 (u46:ByteArray) (u40:List (List NC)) (u41:List Int) (r:List (List NC) × List Int × Int × List Int × Int × Bool):Lp ((Int × List (List NC)) × Nat) ((Int × List (List NC))) (((Int × Int × List Int × List Int) ⊕ (List (List NC)))) ((List (List NC) × List Int × Int × List Int × Int × Bool)) (List (List NC) × List Int × Int × List Int × Int × Bool) :=
 ⟨fun z=>Prod.fst z,fun z=>Prod.snd z,fun z x n=>(x,n),fun z=>y20 u40 u41,fun z=>y133,fun z=>top r,fun z=>0,[.c fun _=>0,.c fun _=>0,.c fun _=>(↑(List.length u41):Int),.c fun vv=>vv.1.1,.c fun _=>u46,.c fun vv=>vv.1.2,.c fun _=>Value.slice none (0:Nat) (0:Nat),.c fun _=>(0:Int),.c fun _=>Value.slice none (0:Nat) (0:Nat),.c fun _=>(0:Int),.c fun _=>u41,.c fun _=>u40]⟩
abbrev y135 (u46:ByteArray) (u40:List (List NC)) (u41:List Int) (r:List (List NC) × List Int × Int × List Int × Int × Bool) (m1:Nat):Lp ((Int × List (List NC)) × Nat × (Int × List (List NC)) × Nat) ((Int × List (List NC))) (((Int × Int × List Int × List Int) ⊕ (List (List NC)))) (((Int × List (List NC)) ⊕ ((Int × Int × List Int × List Int) ⊕ (List (List NC))))) (List (List NC) × List Int × Int × List Int × Int × Bool) :=
 ⟨fun z=>Prod.fst (Prod.snd (Prod.snd z)),fun z=>Prod.snd (Prod.snd (Prod.snd z)),fun z x n=>(Prod.fst z,Prod.fst (Prod.snd z),x,n),fun z=>y19 u40 u41 (Prod.fst z),fun z=>y89 (Prod.fst z),fun z=>(y134 u46 u40 u41 r).cx (Prod.fst z,m1),fun z=>Prod.fst (Prod.snd z),[.c fun _=>0,.c fun _=>0,.c fun vv=>List.getD u41 (Int.toNat vv.1.1) (0:Int),.c fun _=>0,.c fun _=>(↑(List.length u41):Int),.c fun vv=>vv.1.1,.c fun vv=>(↑(List.length (nL u40 (Int.toNat (List.getD u41 (Int.toNat vv.1.1) (0:Int))) (2:Nat))):Int),.c fun vv=>vv.2.2.1.1,.c fun _=>u46,.c fun vv=>vv.2.2.1.2,.c fun _=>Value.slice none (0:Nat) (0:Nat),.c fun _=>(0:Int),.c fun _=>Value.slice none (0:Nat) (0:Nat),.c fun _=>(0:Int),.c fun vv=>nS u40 (Int.toNat (List.getD u41 (Int.toNat vv.1.1) (0:Int))) (0:Nat),.c fun vv=>nI u40 (Int.toNat (List.getD u41 (Int.toNat vv.1.1) (0:Int))) (1:Nat),.c fun vv=>nI u40 (Int.toNat (List.getD u41 (Int.toNat vv.1.1) (0:Int))) (5:Nat),.c fun vv=>nI u40 (Int.toNat (List.getD u41 (Int.toNat vv.1.1) (0:Int))) (7:Nat),.c fun _=>u41,.c fun vv=>nL u40 (Int.toNat (List.getD u41 (Int.toNat vv.1.1) (0:Int))) (2:Nat),.c fun _=>u40,.c fun vv=>nL u40 (Int.toNat (List.getD u41 (Int.toNat vv.1.1) (0:Int))) (3:Nat),.c fun vv=>nL u40 (Int.toNat (List.getD u41 (Int.toNat vv.1.1) (0:Int))) (4:Nat),.c fun vv=>nR u40 (Int.toNat (List.getD u41 (Int.toNat vv.1.1) (0:Int))) (6:Nat)]⟩
def jot (u46:ByteArray) (u40:List (List NC)) (u41:List Int) (r:List (List NC) × List Int × Int × List Int × Int × Bool):Sk (top r) (Option.bind (jah (y20 u40 u41) big (((0:Int),List.replicate (Int.toNat (↑(List.length u40):Int)) [NC.r (Cont.ints .i64 []),NC.d (D.i .i64 0)]))) (y133)) :=
 .loop (y134 u46 u40 u41 r) (fun kk=>(((0:Int),List.replicate (Int.toNat (↑(List.length u40):Int)) [NC.r (Cont.ints .i64 []),NC.d (D.i .i64 0)]),big)) fun z0 =>
 .br
 (.ob (.ob (.obT (.ob (.ob (.brB
 (.ob (.ob (.loop (y135 u46 u40 u41 r (Prod.snd z0)) (fun kk=>(Prod.fst z0,kk,((0:Int),List.set (Prod.fst z0).2 (Int.toNat (List.getD u41 (Int.toNat (Prod.fst z0).1) (0:Int))) [NC.r (Cont.ints .i64 [List.getD u41 (Int.toNat (Prod.fst z0).1) (0:Int)]),NC.d (D.i .i64 0)]),big)) fun z1 =>
 .br
 (.ob (.ob (.ob (.ob (.ob (.ob (.call (.brB
 (.ob (.ob (.next)))
 (.ob (.ob (.brB
 (.ob (.ob (.exit (.exit (.obT (.obT (.obT (.ret (fun r=>(Ob (List.length r.1=(0:Nat)) ∧
 (Ob (nL z1.2.2.1.2 (Int.toNat (List.getD u41 (Int.toNat z1.1.1) (0:Int))) (0:Nat)=r.2.1) ∧
 (Ob (nI z1.2.2.1.2 (Int.toNat (List.getD u41 (Int.toNat z1.1.1) (0:Int))) (1:Nat)=r.2.2.1) ∧
 (Ob ((val (y49 (nL z1.2.2.1.2 (Int.toNat (List.getD (nL u40 (Int.toNat (List.getD u41 (Int.toNat z1.1.1) (0:Int))) (2:Nat)) (Int.toNat z1.2.2.1.1) (0:Int))) (0:Nat)) (nI z1.2.2.1.2 (Int.toNat (List.getD (nL u40 (Int.toNat (List.getD u41 (Int.toNat z1.1.1) (0:Int))) (2:Nat)) (Int.toNat z1.2.2.1.1) (0:Int))) (1:Nat)) (List.getD u41 (Int.toNat z1.1.1) (0:Int)) (wrap .i64 (List.getD (nL u40 (Int.toNat (List.getD u41 (Int.toNat z1.1.1) (0:Int))) (3:Nat)) (Int.toNat z1.2.2.1.1) 0+nI u40 (Int.toNat (List.getD u41 (Int.toNat z1.1.1) (0:Int))) (5:Nat))))).1=r.2.2.2.1) ∧
 (Ob ((val (y49 (nL z1.2.2.1.2 (Int.toNat (List.getD (nL u40 (Int.toNat (List.getD u41 (Int.toNat z1.1.1) (0:Int))) (2:Nat)) (Int.toNat z1.2.2.1.1) (0:Int))) (0:Nat)) (nI z1.2.2.1.2 (Int.toNat (List.getD (nL u40 (Int.toNat (List.getD u41 (Int.toNat z1.1.1) (0:Int))) (2:Nat)) (Int.toNat z1.2.2.1.1) (0:Int))) (1:Nat)) (List.getD u41 (Int.toNat z1.1.1) (0:Int)) (wrap .i64 (List.getD (nL u40 (Int.toNat (List.getD u41 (Int.toNat z1.1.1) (0:Int))) (3:Nat)) (Int.toNat z1.2.2.1.1) 0+nI u40 (Int.toNat (List.getD u41 (Int.toNat z1.1.1) (0:Int))) (5:Nat))))).2=r.2.2.2.2.1) ∧
 (Ob (true=r.2.2.2.2.2) ∧
 True))))))) ⟨⟨rfl⟩,⟨⟨rfl⟩,⟨⟨rfl⟩,⟨⟨rfl⟩,⟨⟨rfl⟩,⟨⟨rfl⟩,trivial⟩⟩⟩⟩⟩⟩))))))))
 (.next))))))))))))
 (.exit (.next)))))
 (.loop (y135 u46 u40 u41 r (Prod.snd z0)) (fun kk=>(Prod.fst z0,kk,((0:Int),(Prod.fst z0).2),big)) fun z1 =>
 .br
 (.ob (.ob (.ob (.ob (.ob (.ob (.call (.brB
 (.ob (.ob (.next)))
 (.ob (.ob (.brB
 (.ob (.ob (.exit (.exit (.obT (.obT (.obT (.ret (fun r=>(Ob (List.length r.1=(0:Nat)) ∧
 (Ob (nL z1.2.2.1.2 (Int.toNat (List.getD u41 (Int.toNat z1.1.1) (0:Int))) (0:Nat)=r.2.1) ∧
 (Ob (nI z1.2.2.1.2 (Int.toNat (List.getD u41 (Int.toNat z1.1.1) (0:Int))) (1:Nat)=r.2.2.1) ∧
 (Ob ((val (y49 (nL z1.2.2.1.2 (Int.toNat (List.getD (nL u40 (Int.toNat (List.getD u41 (Int.toNat z1.1.1) (0:Int))) (2:Nat)) (Int.toNat z1.2.2.1.1) (0:Int))) (0:Nat)) (nI z1.2.2.1.2 (Int.toNat (List.getD (nL u40 (Int.toNat (List.getD u41 (Int.toNat z1.1.1) (0:Int))) (2:Nat)) (Int.toNat z1.2.2.1.1) (0:Int))) (1:Nat)) (List.getD u41 (Int.toNat z1.1.1) (0:Int)) (wrap .i64 (List.getD (nL u40 (Int.toNat (List.getD u41 (Int.toNat z1.1.1) (0:Int))) (3:Nat)) (Int.toNat z1.2.2.1.1) 0+nI u40 (Int.toNat (List.getD u41 (Int.toNat z1.1.1) (0:Int))) (5:Nat))))).1=r.2.2.2.1) ∧
 (Ob ((val (y49 (nL z1.2.2.1.2 (Int.toNat (List.getD (nL u40 (Int.toNat (List.getD u41 (Int.toNat z1.1.1) (0:Int))) (2:Nat)) (Int.toNat z1.2.2.1.1) (0:Int))) (0:Nat)) (nI z1.2.2.1.2 (Int.toNat (List.getD (nL u40 (Int.toNat (List.getD u41 (Int.toNat z1.1.1) (0:Int))) (2:Nat)) (Int.toNat z1.2.2.1.1) (0:Int))) (1:Nat)) (List.getD u41 (Int.toNat z1.1.1) (0:Int)) (wrap .i64 (List.getD (nL u40 (Int.toNat (List.getD u41 (Int.toNat z1.1.1) (0:Int))) (3:Nat)) (Int.toNat z1.2.2.1.1) 0+nI u40 (Int.toNat (List.getD u41 (Int.toNat z1.1.1) (0:Int))) (5:Nat))))).2=r.2.2.2.2.1) ∧
 (Ob (true=r.2.2.2.2.2) ∧
 True))))))) ⟨⟨rfl⟩,⟨⟨rfl⟩,⟨⟨rfl⟩,⟨⟨rfl⟩,⟨⟨rfl⟩,⟨⟨rfl⟩,trivial⟩⟩⟩⟩⟩⟩))))))))
 (.next))))))))))))
 (.exit (.next)))))))))
 (.exit (.obT (.obT (.obT (.ret (fun r=>(Ob (z0.1.2=r.1) ∧
 (Ob (List.length r.2.1=(0:Nat)) ∧
 (Ob ((0:Int)=r.2.2.1) ∧
 (Ob (List.length r.2.2.2.1=(0:Nat)) ∧
 (Ob ((0:Int)=r.2.2.2.2.1) ∧
 (Ob (false=r.2.2.2.2.2) ∧
 True))))))) ⟨⟨rfl⟩,⟨⟨rfl⟩,⟨⟨rfl⟩,⟨⟨rfl⟩,⟨⟨rfl⟩,⟨⟨rfl⟩,trivial⟩⟩⟩⟩⟩⟩)))))
def jpu (u46:ByteArray) (u40:List (List NC)) (u41:List Int) (r:List (List NC) × List Int × Int × List Int × Int × Bool):Sk (top r) (y2 u46 u40 u41) :=
 .obT (.ob (.obT (jot u46 u40 u41 r)))
theorem jou (u46:ByteArray) (u40:List (List NC)) (u41:List Int) (r:List (List NC) × List Int × Int × List Int × Int × Bool) (h:Option.bind (y2 u46 u40 u41) some=some r):jbb Tryz.f88 ((sp_133 sp0)) (fun gs id _=>match id with
 |0=>some ⟨(Int × List (List NC)) × Nat,fun z=>⟨[(0,.w (.c (.p 2 0 1 0))),(2,.w (.c (.o 3))),(3,.w (.c (.p 4 0 1 0))),(21,.w (.c (.o 1))),(22,.w (.c (.d (.i .i64 ((↑(List.length u41):Int)))))),(23,.w (.c (.d (.i .i64 (Prod.fst (Prod.fst z))))))],[(2,.ebox [.d (.s u46),.o 0,.o 1]),(3,.xrow 140 (XC.st [NK.ints .i64,NK.i .i64] (Prod.snd (Prod.fst z)))),(4,.box 141 [.d (.v (Value.slice none (0:Nat) (0:Nat))),.d (.i .i64 0),.d (.v (Value.slice none (0:Nat) (0:Nat))),.d (.i .i64 0)]),(1,.ext (.ints .i64 u41)),(0,.xext (XC.st [NK.s,NK.i .i64,NK.ints .i64,NK.ints .i64,NK.ints .i64,NK.i .i64,NK.recs (5:Nat),NK.i .i64] u40))],5⟩,fun z=>(y134 u46 u40 u41 r).inv z,fun z=>Prod.snd z⟩
 |2=>some ⟨(Int × List (List NC)) × Nat × (Int × List (List NC)) × Nat,fun z=>⟨[(0,.w (.c (.p 2 0 1 0))),(2,.w (.c (.o 3))),(3,.w (.c (.p 4 0 1 0))),(6,.w (.c (.d (.i .i64 (List.getD u41 (Int.toNat (Prod.fst z).1) (0:Int)))))),(7,.w (.c (.p 5 0 1 0))),(21,.w (.c (.o 1))),(22,.w (.c (.d (.i .i64 ((↑(List.length u41):Int)))))),(23,.w (.c (.d (.i .i64 ((Prod.fst z).1))))),(46,.w (.c (.o 6))),(47,.w (.c (.d (.i .i64 ((↑(List.length (nL u40 (Int.toNat (List.getD u41 (Int.toNat (Prod.fst z).1) (0:Int))) (2:Nat))):Int)))))),(48,.w (.c (.d (.i .i64 (Prod.fst (Prod.fst (Prod.snd (Prod.snd z))))))))],[(2,.ebox [.d (.s u46),.o 0,.o 1]),(3,.xrow 140 (XC.st [NK.ints .i64,NK.i .i64] (Prod.snd (Prod.fst (Prod.snd (Prod.snd z)))))),(4,.box 141 [.d (.v (Value.slice none (0:Nat) (0:Nat))),.d (.i .i64 0),.d (.v (Value.slice none (0:Nat) (0:Nat))),.d (.i .i64 0)]),(5,.box 118 [.d (.s (nS u40 (Int.toNat (List.getD u41 (Int.toNat (Prod.fst z).1) (0:Int))) (0:Nat))),.d (.i .i64 (nI u40 (Int.toNat (List.getD u41 (Int.toNat (Prod.fst z).1) (0:Int))) (1:Nat))),.o 6,.o 7,.o 8,.d (.i .i64 (nI u40 (Int.toNat (List.getD u41 (Int.toNat (Prod.fst z).1) (0:Int))) (5:Nat))),.o 9,.d (.i .i64 (nI u40 (Int.toNat (List.getD u41 (Int.toNat (Prod.fst z).1) (0:Int))) (7:Nat)))]),(1,.ext (.ints .i64 u41)),(6,.ext (.ints .i64 (nL u40 (Int.toNat (List.getD u41 (Int.toNat (Prod.fst z).1) (0:Int))) (2:Nat)))),(0,.xext (XC.st [NK.s,NK.i .i64,NK.ints .i64,NK.ints .i64,NK.ints .i64,NK.i .i64,NK.recs (5:Nat),NK.i .i64] u40)),(7,.ext (.ints .i64 (nL u40 (Int.toNat (List.getD u41 (Int.toNat (Prod.fst z).1) (0:Int))) (3:Nat)))),(8,.ext (.ints .i64 (nL u40 (Int.toNat (List.getD u41 (Int.toNat (Prod.fst z).1) (0:Int))) (4:Nat)))),(9,.ext (.recs 5 (nR u40 (Int.toNat (List.getD u41 (Int.toNat (Prod.fst z).1) (0:Int))) (6:Nat))))],10⟩,fun z=>(y135 u46 u40 u41 r (gs.getD 0 0)).inv z,fun z=>Prod.snd (Prod.snd (Prod.snd z))⟩
 |_=>none) (ja5 jeU [.d (.s u46),.x (.st [.s,.i .i64,.ints .i64,.ints .i64,.ints .i64,.i .i64,.recs 5,.i .i64] u40),.r (.ints .i64 u41)]) [.c (.x 140 (.st ([NK.ints .i64,NK.i .i64]) r.1)),.s [.fe (.ints .i64 r.2.1),.d (.i .i64 r.2.2.1),.row 3 (.ints .i64 r.2.2.2.1),.d (.i .i64 r.2.2.2.2.1)],.c (.d (.b r.2.2.2.2.2))] :=
 Sk.vc (jpu u46 u40 u41 r) (by kernel_rfl) h
theorem jov:jaf Tryz.prog 88 true (jak jeU jeV):=by
 refine jay (sp:=(sp_133 sp0)) (fn:=Tryz.f88) (body:=bodyOf Tryz.f88) mixed (sp_133_ok jau) Tryz.func88 (by kernel_rfl) (by kernel_rfl) fun ls t h ho b hb=>?_
 unfold jeV at h
 split at h
 ·rename_i u46 u40 u41
  cases h
  obtain rfl:=jaL hb
  exact⟨Nat.le_of_ble_eq_true (by kernel_rfl),_,_,jou u46 u40 u41 _ (jap ho)⟩
 ·cases h
theorem sp_88_ok {sp:jaa} (h:jac Tryz.prog sp):jac Tryz.prog (sp_88 sp):=jar jov h
end Go.Sh
end

section
namespace Go.Sh
open Go Go.Proofs Go.RowKit Go.Sx
open Go.IntKind (wrap)
def jfI:List SV:=[.a [.d,.x (.st [.s,.i .i64,.ints .i64,.ints .i64,.ints .i64,.i .i64,.recs 5,.i .i64] [])]]
def y36 (r2:List (List NC) × List Int × Int × List Int × Int × Bool) (x0:(Int × List Int)):Option ((Int × List Int) ⊕ (List Int)) :=
 if x0.1<(↑(List.length r2.1):Int)then
  if 0≤x0.1∧x0.1<(↑(List.length r2.1):Int)then
  if Int.toNat x0.1<List.length r2.1 then
   if(List.length x0.2+List.length [nI r2.1 (Int.toNat x0.1) (1:Nat)])*8≤140737488355328∧List.length x0.2+List.length [nI r2.1 (Int.toNat x0.1) (1:Nat)]≤9223372036854775807 then
   some (.inl ((wrap .i64 (x0.1+1),x0.2++[nI r2.1 (Int.toNat x0.1) (1:Nat)])))
   else none
  else none
  else none
 else
  some (.inr x0.2)
def y106 (u4:List Int):Option (List Int × Int) :=
 some ((u4,0))
def y7 (u3:ByteArray) (u1:List (List NC)):Option (List Int × Int) :=
 if(joe u3 u1)=true then
  Option.bind (jfa u3 u1) fun r0 =>
  some ([],nzI r0)
 else
  Option.bind (jcd u3 u1) fun r1 =>
  Option.bind (y2 u3 u1 r1) fun r2 =>
  if(r2.2.2.2.2.2)=true then
  some (([],13))
  else
  Option.bind (jah (y36 r2) big (((0:Int),[]))) (y106)
def jfJ:List Lf→Option GT
 |[.d (.s u3),.x (.st [.s,.i .i64,.ints .i64,.ints .i64,.ints .i64,.i .i64,.recs 5,.i .i64] u1)]=>some (.leaf (ok (y7 u3 u1)) [.c (.row 3 (.ints .i64 ((val (y7 u3 u1)).1))),.c (.d (.i .i64 ((val (y7 u3 u1)).2)))])
 |_=>none
abbrev sp_31:jaa→jaa:=jaG 31 true (jak jfI jfJ)
abbrev jio (u3:ByteArray) (u1:List (List NC)) (r:List Int × Int):Lp ((Int × List Int) × Nat) (Int × List Int) (List Int) (List Int × Int) (List Int × Int) :=
 ⟨fun z=>Prod.fst z,fun z=>Prod.snd z,fun z x n=>(x,n),fun z=>y36 (val (y2 u3 u1 (val (jcd u3 u1)))),fun z=>y106,fun z=>top r,fun z=>0,[.c fun _=>(↑(List.length (val (y2 u3 u1 (val (jcd u3 u1)))).1):Int),.c fun vv=>vv.1.1,.c fun vv=>vv.1.2,.c fun _=>(val (y2 u3 u1 (val (jcd u3 u1)))).1]⟩
def jpv (u3:ByteArray) (u1:List (List NC)) (r:List Int × Int):Sk (top r) (Option.bind (jah (y36 (val (y2 u3 u1 (val (jcd u3 u1))))) big (((0:Int),[]))) (y106)) :=
 .loopQ (jio u3 u1 r) [.c fun _=>(↑(List.length (val (y2 u3 u1 (val (jcd u3 u1)))).1):Int),.c fun vv=>vv.1.1,.p fun vv=>List.length vv.1.2=(0:Nat),.c fun _=>(val (y2 u3 u1 (val (jcd u3 u1)))).1] (fun kk=>(((0:Int),[]),big)) (fun z0 =>
 .br
 (.ob (.ob (.ob (.next))))
 (.exit (.obT (.obT (.rc))))) (fun _=>⟨rfl,trivial⟩)
def jqK (u3:ByteArray) (u1:List (List NC)) (r:List Int × Int):Sk (top r) (y7 u3 u1) :=
 .brB
 (.call (.obT (.obT (.ret (fun r=>(Ob (List.length r.1=(0:Nat)) ∧
 (Ob (nzI (val (jfa u3 u1))=r.2) ∧
 True))) ⟨⟨rfl⟩,⟨⟨rfl⟩,trivial⟩⟩))))
 (.call (.call (.brB
 (.obT (.obT (.ret (fun r=>(Ob (List.length r.1=(0:Nat)) ∧
 (Ob ((13:Int)=r.2) ∧
 True))) ⟨⟨rfl⟩,⟨⟨rfl⟩,trivial⟩⟩)))
 (jpv u3 u1 r))))
theorem jpw (u3:ByteArray) (u1:List (List NC)) (r:List Int × Int) (h:Option.bind (y7 u3 u1) some=some r):jbb Tryz.f31 ((sp_80 (sp_88 sp0))) (fun gs id _=>match id with
 |0=>some ⟨(Int × List Int) × Nat,fun z=>⟨[(9,.w (.c (.o 1))),(27,.w (.c (.o 2))),(28,.w (.c (.d (.i .i64 ((↑(List.length (val (y2 u3 u1 (val (jcd u3 u1)))).1):Int)))))),(29,.w (.c (.d (.i .i64 (Prod.fst (Prod.fst z))))))],[(1,.row 3 (.ints .i64 (Prod.snd (Prod.fst z)))),(2,.xrow 140 (XC.st [NK.ints .i64,NK.i .i64] (val (y2 u3 u1 (val (jcd u3 u1)))).1))],3⟩,fun z=>(jio u3 u1 r).inv z,fun z=>Prod.snd z⟩
 |_=>none) (ja5 jfI [.d (.s u3),.x (.st [.s,.i .i64,.ints .i64,.ints .i64,.ints .i64,.i .i64,.recs 5,.i .i64] u1)]) [.c (.row 3 (.ints .i64 r.1)),.c (.d (.i .i64 r.2))] :=
 Sk.vc (jqK u3 u1 r) (by kernel_rfl) h
theorem jpx:jaf Tryz.prog 31 true (jak jfI jfJ):=by
 refine jay (sp:=(sp_80 (sp_88 sp0))) (fn:=Tryz.f31) (body:=bodyOf Tryz.f31) mixed (sp_80_ok (sp_88_ok jau)) Tryz.func31 (by kernel_rfl) (by kernel_rfl) fun ls t h ho b hb=>?_
 unfold jfJ at h
 split at h
 ·rename_i u3 u1
  cases h
  obtain rfl:=jaL hb
  exact⟨Nat.le_of_ble_eq_true (by kernel_rfl),_,_,jpw u3 u1 _ (jap ho)⟩
 ·cases h
theorem sp_31_ok {sp:jaa} (h:jac Tryz.prog sp):jac Tryz.prog (sp_31 sp):=jar jpx h
def y102:List SV:=[.a [.d,.x (.st [.s,.i .i64,.ints .i64,.ints .i64,.ints .i64,.i .i64,.recs 5,.i .i64] [])],.c (.r (.ints .i64 []))]
def y10 (u3:ByteArray) (u1:List (List NC)) (l:List Int):Option Int :=
 Option.bind (y7 u3 u1) fun r0 =>
 if(r0.2 != 0)=true then
  if(r0.2 != 13)=true then
  some r0.2
  else
  if((↑(List.length l):Int)!=(↑(List.length u1):Int))=true then
   some (10:Int)
  else
   if(r0.2==0)=true then
   none
   else
   some (val (y21 false (20:Int)))
 else
  if((↑(List.length l):Int)!=(↑(List.length u1):Int))=true then
  some (10:Int)
  else
  if(r0.2==0)=true then
   Option.bind (y17 r0.1 l) fun r1 =>
   Option.bind (y21 r1 (20:Int)) fun r2 =>
   some r2
  else
   none
def y103:List Lf→Option GT
 |[.d (.s u3),.x (.st [.s,.i .i64,.ints .i64,.ints .i64,.ints .i64,.i .i64,.recs 5,.i .i64] u1),.r (.ints .i64 l)]=>some (.leaf (ok (y10 u3 u1 l)) [.c (.d (.i .i64 ((val (y10 u3 u1 l)))))])
 |_=>none
abbrev sp_32:jaa→jaa:=jaG 32 true (jak y102 y103)
def jlh (u3:ByteArray) (u1:List (List NC)) (l:List Int) (r:Int):Sk (top r) (y10 u3 u1 l) :=
 .call (.brB
 (.brB
 (.obT (.rc))
 (.brB
 (.obT (.rc))
 (.brB
 (.bad ((Ob (ok (y17 (val (y7 u3 u1)).1 l)) ∧
 (Ob (ok (y21 (val (y17 (val (y7 u3 u1)).1 l)) (20:Int))) ∧
 (Ob True ∧
 (Ob (val (y21 (val (y17 (val (y7 u3 u1)).1 l)) (20:Int))=r) ∧
 True))))))
 (.obC (ok (y21 false (20:Int))) (by decide) (.obT (.rc))))))
 (.brB
 (.obT (.rc))
 (.brB
 (.call (.call (.obT (.rc))))
 (.bad ((Ob (ok (y21 false (20:Int))) ∧
 (Ob True ∧
 (Ob (val (y21 false (20:Int))=r) ∧
 True))))))))
theorem jjO (u3:ByteArray) (u1:List (List NC)) (l:List Int) (r:Int) (h:Option.bind (y10 u3 u1 l) some=some r):jbb Tryz.f32 ((sp_31 (sp_89 (sp_77 sp0)))) (fun _ _ _=>none) (ja5 y102 [.d (.s u3),.x (.st [.s,.i .i64,.ints .i64,.ints .i64,.ints .i64,.i .i64,.recs 5,.i .i64] u1),.r (.ints .i64 l)]) [.c (.d (.i .i64 r))] :=
 Sk.vc (jlh u3 u1 l r) (by kernel_rfl) h
theorem jjP:jaf Tryz.prog 32 true (jak y102 y103):=by
 refine jay (sp:=(sp_31 (sp_89 (sp_77 sp0)))) (fn:=Tryz.f32) (body:=bodyOf Tryz.f32) mixed (sp_31_ok (sp_89_ok (sp_77_ok jau))) Tryz.func32 (by kernel_rfl) (by kernel_rfl) fun ls t h ho b hb=>?_
 unfold y103 at h
 split at h
 ·rename_i u3 u1 l
  cases h
  obtain rfl:=jaL hb
  exact⟨Nat.le_of_ble_eq_true (by kernel_rfl),_,_,jjO u3 u1 l _ (jap ho)⟩
 ·cases h
theorem sp_32_ok {sp:jaa} (h:jac Tryz.prog sp):jac Tryz.prog (sp_32 sp):=jar jjP h
end Go.Sh
end

section
namespace Go.Sh
open Go Go.Proofs Go.RowKit Go.Sx
open Go.IntKind (wrap)
variable {g:List (List NC)} {l:List Int}
theorem jm7 {X Y X' Y':Type} {body:X→Option (X ⊕ Y)} {body':X'→Option (X' ⊕ Y')} (Rel:Nat→X→X'→Prop) (post:Y→Y'→Prop)
  (h:∀m x x',Rel m x x'→(∃y y',body x=some (.inr y)∧body' x'=some (.inr y')∧post y y')∨(∃m' x1 x1',m=m' + 1∧body x=some (.inl x1)∧body' x'=some (.inl x1')∧Rel m' x1 x1')) :
  ∀(m:Nat) (x:X) (x':X') (N N':Nat),m<N→m<N'→Rel m x x'→∃y y',jah body N x=some y∧jah body' N' x'=some y'∧post y y'
 |m,x,x',0,_,hN,_,_=>absurd hN (by omega)
 |m,x,x',_+1,0,_,hN,_=>absurd hN (by omega)
 |m,x,x',N+1,N' + 1,h1,h2,hr=>by
  unfold jah
  rcases h m x x' hr with ⟨y,y',e,e',hp⟩|⟨m',x1,x1',rfl,e,e',hr'⟩
  ·rw[e,e']; exact⟨y,y',rfl,rfl,hp⟩
  ·rw[e,e']; exact jm7 Rel post h m' x1 x1' N N' (by omega) (by omega) hr'
theorem jow (a b:List Int) (hl:a.length<9223372036854775807):jcs a b=some (decide (a=b)):=by
 unfold jcs
 by_cases hL:a.length=b.length
 ·rw[if_neg (by simp; omega)]
  rw[jcC (body:=y77 a b) a.length (fun i=>a.getD i 0 != b.getD i 0) (.inl ()) (.inr ()) hl (fun i hi hp=>?_) (fun i hi hp=>?_) (by
   unfold y77
   rw[if_neg (by omega)])]
  ·rw[jad]
   cases ha:(List.range a.length).any (fun i=>a.getD i 0 != b.getD i 0)with
   |true =>
    rw[List.any_eq_true]at ha
    obtain⟨i,_,h2⟩:=ha
    have:¬a=b:=fun e=>by subst e; simp at h2
    rw[decide_eq_false this]; rfl
   |false =>
    have:a=b:=by
     rw[List.any_eq_false]at ha
     refine List.ext_getElem hL fun i h1 h2=>?_
     have:=ha i (List.mem_range.2 h1)
     simpa [List.getD,h1,h2]using this
    rw[decide_eq_true this]; rfl
  ·unfold y77; simp only[Int.toNat_natCast]
   rw[if_pos (by omega),if_pos (by omega),if_pos hi,if_pos (by omega),if_pos (by omega),if_pos hp]
  ·unfold y77; simp only[Int.toNat_natCast]
   rw[if_pos (by omega),if_pos (by omega),if_pos hi,if_pos (by omega),if_pos (by omega),if_neg (by rw[hp]; exact Bool.false_ne_true),jaO (by omega)]
 ·have:¬a=b:=fun e=>hL (by rw[e])
  rw[if_pos (by simp; omega),decide_eq_false this]
theorem jp7 {i:Nat} (h:ja3 g i=0):jeS (nI g i 1) (nL g i 2).length (nL g i 3).length (nL g i 4).length=true∧jcH (nI g i 1) (nL g i 3) (nL g i 4) (nI g i 5)=true∧jgC (nL g i 2)=false∧inB (nI g i 1) 0 4=true:=by
 unfold ja3 at h
 repeat' (split at h)
 all_goals first|omega|skip
 all_goals
  rename_i h1 h2 h3 h4 h5 h6 h7 h8 h9 h10
  simp at *
 all_goals simp_all
theorem jpy {i:Nat} (h:ja3 g i=0):(nL g i 3).length=(nL g i 2).length∧((nL g i 2).length=0↔nI g i 1=0):=by
 have h1:=(jp7 h).1
 unfold jeS at h1
 split at h1
 ·rename_i hk
  simp only[inB,Bool.and_eq_true,decide_eq_true_eq,beq_iff_eq]at h1 hk
  omega
 ·rename_i hk
  split at h1
  all_goals
   simp only[inB,Bool.and_eq_true,decide_eq_true_eq,beq_iff_eq]at h1 hk
   omega
theorem jxC {i:Nat} (h:ja3 g i=0):(∀k,k<(nL g i 3).length→0≤(nL g i 3).getD k 0∧(nL g i 3).getD k 0≤64)∧0≤nI g i 5∧nI g i 5≤64:=by
 have h1:=(jp7 h).2.1
 unfold jcH at h1
 rw[Bool.and_eq_true,Bool.and_eq_true,Bool.and_eq_true]at h1
 obtain⟨⟨⟨ha,_⟩,hd⟩,_⟩:=h1
 simp only[inB,Bool.and_eq_true,decide_eq_true_eq]at hd
 refine⟨fun k hk=>?_,hd⟩
 rw[Bool.not_eq_true',List.any_eq_false]at ha
 have:=ha ((nL g i 3).getD k 0) (by simp[List.getD,hk])
 generalize (nL g i 3).getD k 0=c at *
 simp only[inB,Bool.not_eq_true,Bool.not_eq_false',Bool.and_eq_true,decide_eq_true_eq]at this
 exact this
inductive WayTo (g:List (List NC)):List Int→Int→Nat→Prop where
 |one {i:Nat} (hi:i<g.length) (h:nI g i 1=0):WayTo g [(i:Int)] 0 i
 |on {w:List Int} {n:Int} {u i k:Nat} (h:WayTo g w n u) (hi:i<g.length) (hk:k<(nL g i 2).length) (he:(nL g i 2).getD k 0=(u:Int)):WayTo g (w++[(i:Int)]) (n+((nL g i 3).getD k 0+nI g i 5)) i
theorem WayTo.bound (hall:∀i,i<g.length→ja3 g i=0) {w:List Int} {n:Int} {i:Nat} (h:WayTo g w n i):0≤n∧n≤128*(w.length:Int)∧i<g.length∧1≤w.length:=by
 induction h with
 |one hi h=>simp; omega
 | @on w n u i k h hi hk he ih =>
  obtain⟨h1,h2,h3⟩:=jxC (hall i hi)
  have:=h1 k (by have:=(jpy (hall i hi)).1; omega)
  simp only[List.length_append,List.length_cons,List.length_nil]
  omega
def jpz (w:List Int) (n:Int):List NC:=[.r (.ints .i64 w),.d (.i .i64 n)]
theorem jox (A:List (List NC)) (i u:Nat) (w:List Int) (n:Int) (hi:i<A.length):nI (A.set i (jpz w n)) u 1=if i=u then n else nI A u 1:=by
 unfold nI
 rw[jbh _ _ _ _ _ hi]
 split<;>rfl
theorem joy (A:List (List NC)) (i u:Nat) (w:List Int) (n:Int) (hi:i<A.length):nL (A.set i (jpz w n)) u 0=if i=u then w else nL A u 0:=by
 unfold nL
 rw[jbh _ _ _ _ _ hi]
 split<;>rfl
def jcE (g A:List (List NC)) (O:List Int) (u p:Nat):Prop:=nI A u 1=O.getD u 0∧WayTo g (nL A u 0) (nI A u 1) u∧(nL A u 0).length≤p+1
structure InvW (g:List (List NC)) (l:List Int) (j:Nat) (A:List (List NC)) (O:List Int):Prop where
 la:A.length=g.length
 lo:O.length=g.length
 don:∀p u:Nat,p<j→l.getD p 0=(u:Int)→jcE g A O u p
 new:∀p u:Nat,j≤p→p<g.length→l.getD p 0=(u:Int)→O.getD u 0=0
def jst (g:List (List NC)) (y:Int × Int × List Int × List Int):Prop:=∃i:Nat,WayTo g y.2.2.1 y.1 i∧WayTo g y.2.2.2 y.2.1 i∧y.1≠y.2.1∧y.2.2.1.length≤g.length∧y.2.2.2.length≤g.length
theorem toE {w:List Int} {n b:Int} {i:Nat} (hw:w.length<100000) (hn:-1000000000≤n+b∧n+b≤1000000000):y49 w n (i:Int) b=some (w++[(i:Int)],n+b):=by
 unfold y49 jce
 rw[if_pos (by omega),jad,if_pos (by simp only[List.length_cons,List.length_nil]; omega),jaO (by omega)]
theorem jAV (h:Rg g l) {j i:Nat} (hj:j<g.length) (hi:i<g.length) (e:l.getD j 0=(i:Int)) (X:List (List NC)) (X':List Int) (A0:List (List NC)) (O0:List Int)
  (hA:A0.length=g.length) (hO:O0.length=g.length) (hd:∀p u:Nat,p<j→l.getD p 0=(u:Int)→jcE g A0 O0 u p) (hn:∀p u:Nat,j≤p→p<g.length→l.getD p 0=(u:Int)→O0.getD u 0=0)
  (hz:(nL g i 2).length=0→jcE g A0 O0 i j) :
  ∃y y',jah (y19 g l ((j:Int),X)) big ((0:Int),A0)=some y∧jah (y9 g ((j:Int),X') (l,true)) big ((0:Int),O0)=some y' ∧
   ((∃d,y=.inl d∧y'=.inl ()∧jst g d)∨(∃A O,y=.inr A∧y'=.inr O∧InvW g l (j+1) A O)):=by
 have hgn:=h.n
 have hL:=h.len
 have hfr:=h.fw.fr i hi
 obtain⟨hal,_⟩:=jpy (h.ok i hi)
 obtain⟨ra,rd1,rd2⟩:=jxC (h.ok i hi)
 refine jm7 (fun m (x:Int × List (List NC)) (x':Int × List Int)=>∃k:Nat,k+m=(nL g i 2).length∧x.1=(k:Int)∧x'.1=(k:Int)∧x.2.length=g.length∧x'.2.length=g.length ∧
   (∀p u:Nat,p<j→l.getD p 0=(u:Int)→jcE g x.2 x'.2 u p)∧(∀p u:Nat,j+1≤p→p<g.length→l.getD p 0=(u:Int)→x'.2.getD u 0=0)∧(((nL g i 2).length=0∨0<k)→jcE g x.2 x'.2 i j)) _ (fun m x x' hr=>?_) (nL g i 2).length _ _ big big (by have:big=18446744073709551616:=rfl; omega) (by have:big=18446744073709551616:=rfl; omega)
   ⟨0,by omega,rfl,rfl,hA,hO,hd,fun p u h1 h2 h3=>hn p u (by omega) h2 h3,fun hh=>hz (by omega)⟩
 obtain⟨a,A⟩:=x
 obtain⟨a',O⟩:=x'
 obtain⟨k,hk,h1,h2,hA,hO,hd,hn,hg⟩:=hr
 obtain rfl:a=(k:Int):=h1
 obtain rfl:a'=(k:Int):=h2
 have hA:A.length=g.length:=hA
 have hO:O.length=g.length:=hO
 by_cases hkn:k<(nL g i 2).length
 ·obtain⟨j',u,hj',hu,e2,e3⟩:=h.from hj e hi hkn
  obtain⟨g1,g2,g3⟩:=hd j' u hj' e3
  have g1:nI A u 1=O.getD u 0:=g1
  have g2:WayTo g (nL A u 0) (nI A u 1) u:=g2
  have g3:(nL A u 0).length≤j' + 1:=g3
  obtain⟨b1,b2,b3,b4⟩:=g2.bound h.ok
  have hak:=ra k (by omega)
  have hway:=WayTo.on g2 hi hkn e2
  generalize hc:(nL g i 3).getD k 0=c at *
  have hto:y49 (nL A u 0) (nI A u 1) (i:Int) (wrap IntKind.i64 (c+nI g i 5))=some (nL A u 0++[(i:Int)],nI A u 1+(c+nI g i 5)):=by
   rw[jaO (by omega),toE (by omega) (by omega)]
  have hlen2:(nL A u 0++[(i:Int)]).length≤j+1:=by
   simp only[List.length_append,List.length_cons,List.length_nil]; omega
  have hwr:wrap IntKind.i64 (wrap IntKind.i64 (O.getD u 0+c)+nI g i 5)=nI A u 1+(c+nI g i 5):=by
   rw[←g1,jaO (x:=nI A u 1+c) (by omega),jaO (by omega)]
   omega
  have hne:∀p v:Nat,p<j→l.getD p 0=(v:Int)→i≠v:=fun p v hp hv=>jk0 h hj hp e hv
  have hnext:∀(A':List (List NC)) (O':List Int),A'.length=g.length→O'.length=g.length→(∀v:Nat,i≠v→nI A' v 1=nI A v 1∧nL A' v 0=nL A v 0∧O'.getD v 0=O.getD v 0)→jcE g A' O' i j →
    ∃k':Nat,k' + (m-1)=(nL g i 2).length∧(k:Int)+1=(k':Int)∧(k:Int)+1=(k':Int)∧A'.length=g.length∧O'.length=g.length ∧
     (∀p u:Nat,p<j→l.getD p 0=(u:Int)→jcE g A' O' u p)∧(∀p u:Nat,j+1≤p→p<g.length→l.getD p 0=(u:Int)→O'.getD u 0=0)∧(((nL g i 2).length=0∨0<k')→jcE g A' O' i j):=by
   intro A' O' q1 q2 q3 q4
   refine⟨k+1,by omega,by omega,by omega,q1,q2,fun p v hp hv=>?_,fun p v hp hp2 hv=>?_,fun _=>q4⟩
   ·obtain⟨z1,z2,z3⟩:=q3 v (hne p v hp hv)
    obtain⟨w1,w2,w3⟩:=hd p v hp hv
    exact⟨by rw[z1,z3]; exact w1,by rw[z1,z2]; exact w2,by rw[z2]; exact w3⟩
   ·have:i≠v:=fun ev=>by
     have:=jk0 h hp2 (j':=j) (by omega) hv e
     omega
    rw[(q3 v this).2.2]
    exact hn p v hp hp2 hv
  by_cases hk0:k=0
  ·right
   subst hk0
   have q:=hnext (A.set i (jpz (nL A u 0++[(i:Int)]) (nI A u 1+(c+nI g i 5)))) (O.set i (nI A u 1+(c+nI g i 5))) (by simp[hA]) (by simp[hO]) (fun v hv=>by
    rw[jox _ _ _ _ _ (by omega),joy _ _ _ _ _ (by omega),jbh _ _ _ _ _ (by omega),if_neg hv,if_neg hv,if_neg hv]; exact⟨rfl,rfl,rfl⟩) (by
    unfold jcE
    rw[jox _ _ _ _ _ (by omega),joy _ _ _ _ _ (by omega),jbh _ _ _ _ _ (by omega),if_pos rfl,if_pos rfl,if_pos rfl]
    exact⟨rfl,hway,hlen2⟩)
   refine⟨m-1,(_,A.set i (jpz (nL A u 0++[(i:Int)]) (nI A u 1+(c+nI g i 5)))),(_,O.set i (nI A u 1+(c+nI g i 5))),by omega,?_,?_,q⟩
   ·unfold y19
    simp only[Int.toNat_natCast,e,e2,hc]
    rw[if_pos (by omega),if_pos (by omega),if_pos hkn,if_pos (by omega),if_pos (by omega),if_pos (by omega),if_pos (by omega),hto,jad,if_pos (by simp),if_pos (by omega),if_pos (by omega),jaO (by omega)]
    rfl
   ·unfold y9
    simp only[Int.toNat_natCast,e,e2,hc]
    rw[if_pos (by omega),if_pos (by omega),if_pos hkn,if_pos (by omega),if_pos (by omega),if_pos (by omega),if_pos (by omega),if_neg (by omega),if_pos (by omega),if_pos (by omega),if_pos (by omega),if_pos (by omega),hwr,jaO (by omega)]
  ·obtain⟨w1,w2,w3⟩:=hg (.inr (by omega))
   have w1:nI A i 1=O.getD i 0:=w1
   by_cases hcl:nI A u 1+(c+nI g i 5)=nI A i 1
   ·right
    have q:=hnext A (O.set i (nI A u 1+(c+nI g i 5))) hA (by simp[hO]) (fun v hv=>by
     rw[jbh _ _ _ _ _ (by omega),if_neg hv]; exact⟨rfl,rfl,rfl⟩) (by
     unfold jcE
     rw[jbh _ _ _ _ _ (by omega),if_pos rfl]
     exact⟨hcl.symm,w2,w3⟩)
    refine⟨m-1,(_,A),(_,O.set i (nI A u 1+(c+nI g i 5))),by omega,?_,?_,q⟩
    ·unfold y19
     simp only[Int.toNat_natCast,e,e2,hc]
     rw[if_pos (by omega),if_pos (by omega),if_pos hkn,if_pos (by omega),if_pos (by omega),if_pos (by omega),if_pos (by omega),hto,jad,if_neg (by simp; omega),if_pos (by omega),if_pos (by omega),if_neg (by simp[hcl]),jaO (by omega)]
    ·unfold y9
     simp only[Int.toNat_natCast,e,e2,hc]
     rw[if_pos (by omega),if_pos (by omega),if_pos hkn,if_pos (by omega),if_pos (by omega),if_pos (by omega),if_pos (by omega),if_pos (by omega),if_pos (by omega),if_pos (by omega),if_pos (by omega),if_pos (by omega),hwr,if_neg (by rw[hcl,w1]; simp),if_pos (by omega),if_pos (by omega),if_pos (by omega),if_pos (by omega),jaO (by omega)]
   ·left
    refine⟨.inl (nI A i 1,nI A u 1+(c+nI g i 5),nL A i 0,nL A u 0++[(i:Int)]),.inl (),?_,?_,.inl ⟨_,rfl,rfl,i,w2,hway,fun hh=>hcl hh.symm,by show(nL A i 0).length≤_; have:(nL A i 0).length≤j+1:=w3; omega,by show(nL A u 0++[(i:Int)]).length≤_; omega⟩⟩
    ·unfold y19
     simp only[Int.toNat_natCast,e,e2,hc]
     rw[if_pos (by omega),if_pos (by omega),if_pos hkn,if_pos (by omega),if_pos (by omega),if_pos (by omega),if_pos (by omega),hto,jad,if_neg (by simp; omega),if_pos (by omega),if_pos (by omega),if_pos (by simpa using hcl),if_pos (by omega),if_pos (by omega)]
    ·unfold y9
     simp only[Int.toNat_natCast,e,e2,hc]
     rw[if_pos (by omega),if_pos (by omega),if_pos hkn,if_pos (by omega),if_pos (by omega),if_pos (by omega),if_pos (by omega),if_pos (by omega),if_pos (by omega),if_pos (by omega),if_pos (by omega),if_pos (by omega),hwr,if_pos (by rw[←w1]; simpa using hcl)]
 ·left
  have hd':∀p u:Nat,p<j+1→l.getD p 0=(u:Int)→jcE g A O u p:=fun p u hp hu=>by
   by_cases hpj:p=j
   ·subst hpj
    rw[e]at hu
    obtain rfl:i=u:=by omega
    exact hg (by omega)
   ·exact hd p u (by omega) hu
  refine⟨.inr A,.inr O,?_,?_,.inr ⟨A,O,rfl,rfl,⟨hA,hO,hd',hn⟩⟩⟩
  ·unfold y19
   simp only[Int.toNat_natCast,e]
   rw[if_neg (by omega)]
  ·unfold y9
   simp only[Int.toNat_natCast,e]
   rw[if_neg (by omega)]
theorem waysL (h:Rg g l):∃y y',jah (y20 g l) big ((0:Int),List.replicate g.length (jpz [] 0))=some y∧jah (y12 g (l,true)) big ((0:Int),List.replicate g.length 0)=some y' ∧
   ((∃d,y=.inl d∧y'=.inl ()∧jst g d)∨(∃A O,y=.inr A∧y'=.inr O∧InvW g l g.length A O)):=by
 have hgn:=h.n
 have hL:=h.len
 refine jm7 (fun m (x:Int × List (List NC)) (x':Int × List Int)=>∃j:Nat,j+m=g.length∧x.1=(j:Int)∧x'.1=(j:Int)∧InvW g l j x.2 x'.2) _ (fun m x x' hr=>?_) g.length _ _ big big (by have:big=18446744073709551616:=rfl; omega) (by have:big=18446744073709551616:=rfl; omega)
   ⟨0,by omega,rfl,rfl,by simp,by simp,fun p u hp=>absurd hp (by omega),fun p u _ _ _=>by
    simp only[List.getD,List.getElem?_replicate]
    split<;>rfl⟩
 obtain⟨a,A⟩:=x
 obtain⟨a',O⟩:=x'
 obtain⟨j,hj,h1,h2,hI⟩:=hr
 obtain rfl:a=(j:Int):=h1
 obtain rfl:a'=(j:Int):=h2
 obtain⟨hA,hO,hd,hn⟩:=hI
 have hA:A.length=g.length:=hA
 have hO:O.length=g.length:=hO
 by_cases hjn:j<g.length
 ·obtain⟨i,hi,e,_⟩:=h.at hjn
  obtain⟨_,hk0⟩:=jpy (h.ok i hi)
  have hne:∀p v:Nat,p<j→l.getD p 0=(v:Int)→i≠v:=fun p v hp hv=>jk0 h hjn hp e hv
  have hstart:∃A0,(jah (y19 g l ((j:Int),A)) big ((0:Int),A0)).bind (y89 ((j:Int),A))=y20 g l ((j:Int),A)∧A0.length=g.length∧(∀p u:Nat,p<j→l.getD p 0=(u:Int)→jcE g A0 O u p)∧((nL g i 2).length=0→jcE g A0 O i j):=by
   by_cases hz:(nL g i 2).length=0
   ·refine⟨A.set i (jpz [(i:Int)] 0),?_,by simp[hA],fun p v hp hv=>?_,fun _=>?_⟩
    ·unfold y20
     simp only[Int.toNat_natCast,e]
     rw[if_pos (by omega),if_pos (by omega),if_pos (by omega),if_pos (by omega),if_pos hi,if_pos (by simp[hz]),if_pos (by omega),if_pos (by omega)]
     rfl
    ·obtain⟨w1,w2,w3⟩:=hd p v hp hv
     unfold jcE
     rw[jox _ _ _ _ _ (by omega),joy _ _ _ _ _ (by omega),if_neg (hne p v hp hv),if_neg (hne p v hp hv)]
     exact⟨w1,w2,w3⟩
    ·unfold jcE
     rw[jox _ _ _ _ _ (by omega),joy _ _ _ _ _ (by omega),if_pos rfl,if_pos rfl]
     exact⟨(hn j i (Nat.le_refl _) hjn e).symm,.one hi (hk0.1 hz),by simp⟩
   ·refine⟨A,?_,hA,hd,fun hz'=>absurd hz' hz⟩
    unfold y20
    simp only[Int.toNat_natCast,e]
    rw[if_pos (by omega),if_pos (by omega),if_pos (by omega),if_pos (by omega),if_pos hi,if_neg (by simp; intro hh; exact hz (by simp[hh]))]
  obtain⟨A0,hs1,hs2,hs3,hs4⟩:=hstart
  have hR:(jah (y9 g ((j:Int),O) (l,true)) big ((0:Int),O)).bind (y120 ((j:Int),O))=y12 g (l,true) ((j:Int),O):=by
   unfold y12
   simp only[Int.toNat_natCast,e]
   rw[if_pos (by omega),if_pos (by omega),if_pos (by omega),if_pos (by omega),if_pos hi]
  obtain⟨y,y',q1,q2,q3⟩:=jAV h hjn hi e A O A0 O hs2 hO hs3 hn hs4
  rw[q1]at hs1
  rw[q2]at hR
  rcases q3 with ⟨d,rfl,rfl,hd'⟩|⟨A1,O1,rfl,rfl,hI1⟩
  ·left
   exact⟨.inl d,.inl (),by rw[←hs1]; rfl,by rw[←hR]; rfl,.inl ⟨d,rfl,rfl,hd'⟩⟩
  ·right
   refine⟨m-1,((j:Int)+1,A1),((j:Int)+1,O1),by omega,?_,?_,j+1,by omega,by simp,by simp,hI1⟩
   ·rw[←hs1]
    show y111 _ _=_
    unfold y111
    rw[jaO (by simp; omega)]
   ·rw[←hR]
    show y101 _ _=_
    unfold y101
    rw[jaO (by simp; omega)]
 ·left
  obtain rfl:j=g.length:=by omega
  refine⟨.inr A,.inr O,?_,?_,.inr ⟨A,O,rfl,rfl,⟨hA,hO,hd,hn⟩⟩⟩
  ·unfold y20
   rw[if_neg (by show ¬(g.length:Int)<_; omega)]
  ·unfold y12
   rw[if_neg (by show ¬(g.length:Int)<(l.length:Int); omega)]
theorem jv7 (h:Rg g l) (nm nm':ByteArray) :
  (∃d,y2 nm g l=some ([],d.2.2.1,d.1,d.2.2.2,d.2.1,true)∧y8 nm' g=some ([],false)∧jst g d) ∨
  (∃A O,y2 nm g l=some (A,[],0,[],0,false)∧y8 nm' g=some (O,true)∧InvW g l g.length A O):=by
 have hn:=h.n
 obtain⟨y,y',h1,h2,h3⟩:=waysL h
 unfold y2 y8
 rw[jg9 h.fw,h.ord,jad,if_pos (by omega),if_pos (by omega),Int.toNat_natCast,h2]
 have h1:jah (y20 g l) big ((0:Int),List.replicate g.length [NC.r (Cont.ints IntKind.i64 []),NC.d (D.i IntKind.i64 (0:Int))])=some y:=h1
 rw[h1]
 rcases h3 with ⟨d,rfl,rfl,hd⟩|⟨A,O,rfl,rfl,hI⟩
 ·exact .inl ⟨d,rfl,rfl,hd⟩
 ·exact .inr ⟨A,O,rfl,rfl,hI⟩
end Go.Sh
end

section
namespace Go.Sh
open Go Go.Proofs Go.RowKit Go.Sx
variable {g:List (List NC)} {l:List Int}
theorem jv8 (h:Rg g l) {nm:ByteArray} (hs:nm.size<1000) (h0:(cg nm g).2=0):ja8 nm g=none∧jbC nm g=some (nm,l,0) :=
 ⟨by rw[jsk h.fw hs h0,h.ord],jyz h.fw hs h0 h.ord⟩
theorem jxD {A:List (List NC)} {O:List Int} (hI:InvW g l g.length A O) (h:Rg g l):∀u:Nat,u<g.length→nI A u 1=O.getD u 0:=fun u hu=>by
 obtain⟨p,hp,e⟩:=h.surj hu
 exact(hI.don p u hp e).1
theorem jz4 {A:List (List NC)} {O:List Int} (hA:A.length=g.length) (hO:O.length=g.length) (hn:g.length<1000) (he:∀u:Nat,u<g.length→nI A u 1=O.getD u 0) :
  jah (y36 (A,[],0,[],0,false)) big ((0:Int),[])=some O:=by
 have key:=jfr (body:=y36 (A,[],0,[],0,false)) (fun m=>((m:Int),O.take m)) (y:=O) (k:=g.length) (fun m hm=>by
   unfold y36
   simp only[Int.toNat_natCast]
   rw[if_pos (by omega),if_pos (by omega),if_pos (by omega),if_pos (by simp only[List.length_cons,List.length_nil,List.length_take]; omega),jaO (by omega),he m hm,List.take_add_one,List.getElem?_eq_getElem (by omega)]
   simp[List.getD,show m<O.length by omega]) (by
   unfold y36
   rw[if_neg (by show ¬(g.length:Int)<(A.length:Int); omega),←hO,List.take_length]) (by omega)
 exact key
theorem jv9 (h:Rg g l) {nm:ByteArray} (hs:nm.size<1000) (h0:(cg nm g).2=0) (nm':ByteArray) :
  (y7 nm g=some ([],13)∧y8 nm' g=some ([],false))∨∃O,y7 nm g=some (O,0)∧y8 nm' g=some (O,true)∧O.length=g.length:=by
 obtain⟨h1,h2⟩:=jv8 h hs h0
 unfold y7 joe jfa jcd
 rw[h1,h2]
 show(Option.bind (y2 nm g l) _=_∧_)∨∃O,Option.bind (y2 nm g l) _=_∧_
 rcases jv7 h nm nm' with ⟨d,e1,e2,_⟩|⟨A,O,e1,e2,hI⟩
 ·rw[e1,e2]; exact .inl ⟨rfl,rfl⟩
 ·rw[e1,e2]
  refine .inr ⟨O,?_,rfl,hI.lo⟩
  show Option.bind (jah (y36 (A,[],0,[],0,false)) big ((0:Int),[])) y106=_
  rw[jz4 hI.la hI.lo h.n (jxD hI h)]
  rfl
theorem jsu (hw:Fw g) {nm:ByteArray} {e:Int} (he:0<e) (h:ja8 nm g=some e):y7 nm g=some ([],e):=by
 unfold y7 joe jfa
 rw[h]
 show Option.bind (Option.bind (some e) _) _=_
 simp only[jad]
 rw[if_pos he,jad,jzV he]
theorem cpL2 (i:Nat):nL (cpU g) i 2=nL g i 2:=(cpL i).1
theorem cpL3 (i:Nat):nL (cpU g) i 3=nL g i 3:=(cpL i).2.1
theorem cpI5 (i:Nat):nI (cpU g) i 5=nI g i 5:=(cpI i).2.1
theorem juD (hw:Fw g) (nm:ByteArray):y8 nm (cpU g)=y8 nm g:=by
 have e1:y9 (cpU g)=y9 g:=by
  funext a b c
  unfold y9
  simp only[cpL2,cpL3,cpI5]
 have e0:y12 (cpU g)=y12 g:=by
  funext a b
  unfold y12
  rw[e1,jbZ]
 unfold y8
 rw[jg9 (jvB hw),jg9 hw,jk1,jbZ,e0]
end Go.Sh
end

section
namespace Go.Sh
open Go Go.Proofs Go.RowKit Go.Sx
open Go.IntKind (wrap)
def jgM:List SV:=[.c (.p [.p [.d,.x (.st [.s,.i .i64,.ints .i64,.ints .i64,.ints .i64,.i .i64,.recs 5,.i .i64] []),.r (.ints .i64 [])],.d,.x (.ff .f32 []),.x (.rr 4 []),.r (.frs .f32 32 []),.r (.ints .i64 []),.r (.frs .f32 32 []),.x (.rr 4 []),.r (.ints .i64 [])]),.c (.d),.c (.d)]
def jpA (u16:ByteArray) (u17:List (List NC)) (u18:List Int) (u15:Int) (u19:List (List Nat)) (u20:List (List (List Int))) (u21:List (List Nat)) (u22:List Int) (u23:List (List Nat)) (u24:List (List (List Int))) (u25:List Int) (u35:Int) (k:Int):Option Int :=
 if k<0 then
  if 0≤u35∧u35<(↑(List.length u19):Int)then
  if Int.toNat u35<List.length u19 then
   if 0≤wrap .i64 (128+k)∧wrap .i64 (128+k)<(↑(List.length (List.getD u19 (Int.toNat u35) [])):Int)then
   if Int.toNat (wrap .i64 (128+k))<List.length (List.getD u19 (Int.toNat u35) [])then
    if jnn .f32 .i64 (List.getD (List.getD u19 (Int.toNat u35) []) (Int.toNat (wrap .i64 (128+k))) (0:Nat))=true then
    some (f2i .f32 (List.getD (List.getD u19 (Int.toNat u35) []) (Int.toNat (wrap .i64 (128+k))) (0:Nat)))
    else none
   else none
   else none
  else none
  else none
 else
  if 0≤u35∧u35<(↑(List.length u23):Int)then
  if 0≤k∧k<(↑(32:Nat):Int)then
   if Int.toNat u35<List.length u23∧0+Int.toNat k*1<32 then
   if jnn .f32 .i64 (List.getD (List.getD u23 (Int.toNat u35) []) (0+Int.toNat k*1) (0:Nat))=true then
    some (f2i .f32 (List.getD (List.getD u23 (Int.toNat u35) []) (0+Int.toNat k*1) (0:Nat)))
   else none
   else none
  else none
  else none
def jgN:List Lf→Option GT
 |[.d (.s u16),.x (.st [.s,.i .i64,.ints .i64,.ints .i64,.ints .i64,.i .i64,.recs 5,.i .i64] u17),.r (.ints .i64 u18),.d (.i .i64 u15),.x (.ff .f32 u19),.x (.rr 4 u20),.r (.frs .f32 32 u21),.r (.ints .i64 u22),.r (.frs .f32 32 u23),.x (.rr 4 u24),.r (.ints .i64 u25),.d (.i .i64 u35),.d (.i .i64 k)]=>some (.leaf (ok (jpA u16 u17 u18 u15 u19 u20 u21 u22 u23 u24 u25 u35 k)) [.c (.d (.i .i64 ((val (jpA u16 u17 u18 u15 u19 u20 u21 u22 u23 u24 u25 u35 k)))))])
 |_=>none
abbrev sp_149:jaa→jaa:=jaG 149 true (jak jgM jgN)
def jsv (u16:ByteArray) (u17:List (List NC)) (u18:List Int) (u15:Int) (u19:List (List Nat)) (u20:List (List (List Int))) (u21:List (List Nat)) (u22:List Int) (u23:List (List Nat)) (u24:List (List (List Int))) (u25:List Int) (u35:Int) (k:Int) (r:Int):Sk (top r) (jpA u16 u17 u18 u15 u19 u20 u21 u22 u23 u24 u25 u35 k) :=
 .br
 (.obT (.ob (.ob (.ob (.ob (.ob (.obT (.rc))))))))
 (.obT (.ob (.ob (.ob (.ob (.obT (.rc)))))))
theorem jqL (u16:ByteArray) (u17:List (List NC)) (u18:List Int) (u15:Int) (u19:List (List Nat)) (u20:List (List (List Int))) (u21:List (List Nat)) (u22:List Int) (u23:List (List Nat)) (u24:List (List (List Int))) (u25:List Int) (u35:Int) (k:Int) (r:Int) (h:Option.bind (jpA u16 u17 u18 u15 u19 u20 u21 u22 u23 u24 u25 u35 k) some=some r):jbb Tryz.f149 (sp0) (fun _ _ _=>none) (ja5 jgM [.d (.s u16),.x (.st [.s,.i .i64,.ints .i64,.ints .i64,.ints .i64,.i .i64,.recs 5,.i .i64] u17),.r (.ints .i64 u18),.d (.i .i64 u15),.x (.ff .f32 u19),.x (.rr 4 u20),.r (.frs .f32 32 u21),.r (.ints .i64 u22),.r (.frs .f32 32 u23),.x (.rr 4 u24),.r (.ints .i64 u25),.d (.i .i64 u35),.d (.i .i64 k)]) [.c (.d (.i .i64 r))] :=
 Sk.vc (jsv u16 u17 u18 u15 u19 u20 u21 u22 u23 u24 u25 u35 k r) (by kernel_rfl) h
theorem jqM:jaf Tryz.prog 149 true (jak jgM jgN):=by
 refine jay (sp:=sp0) (fn:=Tryz.f149) (body:=bodyOf Tryz.f149) mixed jau Tryz.func149 (by kernel_rfl) (by kernel_rfl) fun ls t h ho b hb=>?_
 unfold jgN at h
 split at h
 ·rename_i u16 u17 u18 u15 u19 u20 u21 u22 u23 u24 u25 u35 k
  cases h
  obtain rfl:=jaL hb
  exact⟨Nat.le_of_ble_eq_true (by kernel_rfl),_,_,jqL u16 u17 u18 u15 u19 u20 u21 u22 u23 u24 u25 u35 k _ (jap ho)⟩
 ·cases h
theorem sp_149_ok {sp:jaa} (h:jac Tryz.prog sp):jac Tryz.prog (sp_149 sp):=jar jqM h
end Go.Sh
end

section
namespace Go.Sh
open Go Go.Proofs Go.RowKit Go.Sx
open Go.IntKind (wrap)
def jeo:List SV:=[.c (.p [.p [.d,.x (.st [.s,.i .i64,.ints .i64,.ints .i64,.ints .i64,.i .i64,.recs 5,.i .i64] []),.r (.ints .i64 [])],.d,.x (.ff .f32 []),.x (.rr 4 []),.r (.frs .f32 32 []),.r (.ints .i64 []),.r (.frs .f32 32 []),.x (.rr 4 []),.r (.ints .i64 [])]),.a [.d,.d,.r (.ints .i64 []),.r (.ints .i64 []),.r (.ints .i64 []),.d,.r (.recs 5 []),.d],.c (.d),.c (.d)]
def jdN (u16:ByteArray) (u17:List (List NC)) (u18:List Int) (u15:Int) (u19:List (List Nat)) (u20:List (List (List Int))) (u21:List (List Nat)) (u22:List Int) (u23:List (List Nat)) (u24:List (List (List Int))) (u25:List Int) (u11:List Int) (u10:List Int) (u42:Int) (u43:Int) (x0:(Int × Int × Int × Int × Int × Int × Int × Int × Int × Int × Int × Int × Int × Int × Int × Int × Int × Int × Int × Int × Int × Int × Int × Int × Int × Int × Int × Int × Int × Int × Int × Int × Int)):Option ((Int × Int × Int × Int × Int × Int × Int × Int × Int × Int × Int × Int × Int × Int × Int × Int × Int × Int × Int × Int × Int × Int × Int × Int × Int × Int × Int × Int × Int × Int × Int × Int × Int) ⊕ (Int × Int × Int × Int × Int × Int × Int × Int × Int × Int × Int × Int × Int × Int × Int × Int × Int × Int × Int × Int × Int × Int × Int × Int × Int × Int × Int × Int × Int × Int × Int × Int)) :=
 if x0.1<32 then
  if 0≤u42∧u42<(↑(List.length u11):Int)then
  if Int.toNat u42<List.length u11 then
   if 0≤u42∧u42<(↑(List.length u10):Int)then
   if Int.toNat u42<List.length u10 then
    Option.bind (jpA u16 u17 u18 u15 u19 u20 u21 u22 u23 u24 u25 (List.getD u11 (Int.toNat u42) (0:Int)) (wrap .i64 (wrap .i64 (x0.1-List.getD u10 (Int.toNat u42) (0:Int))-u43))) fun r0 =>
    if 0≤x0.1∧x0.1<(↑(32:Nat):Int)then
    if List.getD [true,true,true,true,true,true,true,true,true,true,true,true,true,true,true,true,true,true,true,true,true,true,true,true,true,true,true,true,true,true,true,true] (0+Int.toNat x0.1*1) false=true then
     some (.inl ((wrap .i64 (x0.1+1),bif Nat.beq (0+Int.toNat x0.1*1) 0 then r0 else x0.2.1,bif Nat.beq (0+Int.toNat x0.1*1) 1 then r0 else x0.2.2.1,bif Nat.beq (0+Int.toNat x0.1*1) 2 then r0 else x0.2.2.2.1,bif Nat.beq (0+Int.toNat x0.1*1) 3 then r0 else x0.2.2.2.2.1,bif Nat.beq (0+Int.toNat x0.1*1) 4 then r0 else x0.2.2.2.2.2.1,bif Nat.beq (0+Int.toNat x0.1*1) 5 then r0 else x0.2.2.2.2.2.2.1,bif Nat.beq (0+Int.toNat x0.1*1) 6 then r0 else x0.2.2.2.2.2.2.2.1,bif Nat.beq (0+Int.toNat x0.1*1) 7 then r0 else x0.2.2.2.2.2.2.2.2.1,bif Nat.beq (0+Int.toNat x0.1*1) 8 then r0 else x0.2.2.2.2.2.2.2.2.2.1,bif Nat.beq (0+Int.toNat x0.1*1) 9 then r0 else x0.2.2.2.2.2.2.2.2.2.2.1,bif Nat.beq (0+Int.toNat x0.1*1) 10 then r0 else x0.2.2.2.2.2.2.2.2.2.2.2.1,bif Nat.beq (0+Int.toNat x0.1*1) 11 then r0 else x0.2.2.2.2.2.2.2.2.2.2.2.2.1,bif Nat.beq (0+Int.toNat x0.1*1) 12 then r0 else x0.2.2.2.2.2.2.2.2.2.2.2.2.2.1,bif Nat.beq (0+Int.toNat x0.1*1) 13 then r0 else x0.2.2.2.2.2.2.2.2.2.2.2.2.2.2.1,bif Nat.beq (0+Int.toNat x0.1*1) 14 then r0 else x0.2.2.2.2.2.2.2.2.2.2.2.2.2.2.2.1,bif Nat.beq (0+Int.toNat x0.1*1) 15 then r0 else x0.2.2.2.2.2.2.2.2.2.2.2.2.2.2.2.2.1,bif Nat.beq (0+Int.toNat x0.1*1) 16 then r0 else x0.2.2.2.2.2.2.2.2.2.2.2.2.2.2.2.2.2.1,bif Nat.beq (0+Int.toNat x0.1*1) 17 then r0 else x0.2.2.2.2.2.2.2.2.2.2.2.2.2.2.2.2.2.2.1,bif Nat.beq (0+Int.toNat x0.1*1) 18 then r0 else x0.2.2.2.2.2.2.2.2.2.2.2.2.2.2.2.2.2.2.2.1,bif Nat.beq (0+Int.toNat x0.1*1) 19 then r0 else x0.2.2.2.2.2.2.2.2.2.2.2.2.2.2.2.2.2.2.2.2.1,bif Nat.beq (0+Int.toNat x0.1*1) 20 then r0 else x0.2.2.2.2.2.2.2.2.2.2.2.2.2.2.2.2.2.2.2.2.2.1,bif Nat.beq (0+Int.toNat x0.1*1) 21 then r0 else x0.2.2.2.2.2.2.2.2.2.2.2.2.2.2.2.2.2.2.2.2.2.2.1,bif Nat.beq (0+Int.toNat x0.1*1) 22 then r0 else x0.2.2.2.2.2.2.2.2.2.2.2.2.2.2.2.2.2.2.2.2.2.2.2.1,bif Nat.beq (0+Int.toNat x0.1*1) 23 then r0 else x0.2.2.2.2.2.2.2.2.2.2.2.2.2.2.2.2.2.2.2.2.2.2.2.2.1,bif Nat.beq (0+Int.toNat x0.1*1) 24 then r0 else x0.2.2.2.2.2.2.2.2.2.2.2.2.2.2.2.2.2.2.2.2.2.2.2.2.2.1,bif Nat.beq (0+Int.toNat x0.1*1) 25 then r0 else x0.2.2.2.2.2.2.2.2.2.2.2.2.2.2.2.2.2.2.2.2.2.2.2.2.2.2.1,bif Nat.beq (0+Int.toNat x0.1*1) 26 then r0 else x0.2.2.2.2.2.2.2.2.2.2.2.2.2.2.2.2.2.2.2.2.2.2.2.2.2.2.2.1,bif Nat.beq (0+Int.toNat x0.1*1) 27 then r0 else x0.2.2.2.2.2.2.2.2.2.2.2.2.2.2.2.2.2.2.2.2.2.2.2.2.2.2.2.2.1,bif Nat.beq (0+Int.toNat x0.1*1) 28 then r0 else x0.2.2.2.2.2.2.2.2.2.2.2.2.2.2.2.2.2.2.2.2.2.2.2.2.2.2.2.2.2.1,bif Nat.beq (0+Int.toNat x0.1*1) 29 then r0 else x0.2.2.2.2.2.2.2.2.2.2.2.2.2.2.2.2.2.2.2.2.2.2.2.2.2.2.2.2.2.2.1,bif Nat.beq (0+Int.toNat x0.1*1) 30 then r0 else x0.2.2.2.2.2.2.2.2.2.2.2.2.2.2.2.2.2.2.2.2.2.2.2.2.2.2.2.2.2.2.2.1,bif Nat.beq (0+Int.toNat x0.1*1) 31 then r0 else x0.2.2.2.2.2.2.2.2.2.2.2.2.2.2.2.2.2.2.2.2.2.2.2.2.2.2.2.2.2.2.2.2)))
    else none
    else none
   else none
   else none
  else none
  else none
 else
  some (.inr (x0.2.1,x0.2.2.1,x0.2.2.2.1,x0.2.2.2.2.1,x0.2.2.2.2.2.1,x0.2.2.2.2.2.2.1,x0.2.2.2.2.2.2.2.1,x0.2.2.2.2.2.2.2.2.1,x0.2.2.2.2.2.2.2.2.2.1,x0.2.2.2.2.2.2.2.2.2.2.1,x0.2.2.2.2.2.2.2.2.2.2.2.1,x0.2.2.2.2.2.2.2.2.2.2.2.2.1,x0.2.2.2.2.2.2.2.2.2.2.2.2.2.1,x0.2.2.2.2.2.2.2.2.2.2.2.2.2.2.1,x0.2.2.2.2.2.2.2.2.2.2.2.2.2.2.2.1,x0.2.2.2.2.2.2.2.2.2.2.2.2.2.2.2.2.1,x0.2.2.2.2.2.2.2.2.2.2.2.2.2.2.2.2.2.1,x0.2.2.2.2.2.2.2.2.2.2.2.2.2.2.2.2.2.2.1,x0.2.2.2.2.2.2.2.2.2.2.2.2.2.2.2.2.2.2.2.1,x0.2.2.2.2.2.2.2.2.2.2.2.2.2.2.2.2.2.2.2.2.1,x0.2.2.2.2.2.2.2.2.2.2.2.2.2.2.2.2.2.2.2.2.2.1,x0.2.2.2.2.2.2.2.2.2.2.2.2.2.2.2.2.2.2.2.2.2.2.1,x0.2.2.2.2.2.2.2.2.2.2.2.2.2.2.2.2.2.2.2.2.2.2.2.1,x0.2.2.2.2.2.2.2.2.2.2.2.2.2.2.2.2.2.2.2.2.2.2.2.2.1,x0.2.2.2.2.2.2.2.2.2.2.2.2.2.2.2.2.2.2.2.2.2.2.2.2.2.1,x0.2.2.2.2.2.2.2.2.2.2.2.2.2.2.2.2.2.2.2.2.2.2.2.2.2.2.1,x0.2.2.2.2.2.2.2.2.2.2.2.2.2.2.2.2.2.2.2.2.2.2.2.2.2.2.2.1,x0.2.2.2.2.2.2.2.2.2.2.2.2.2.2.2.2.2.2.2.2.2.2.2.2.2.2.2.2.1,x0.2.2.2.2.2.2.2.2.2.2.2.2.2.2.2.2.2.2.2.2.2.2.2.2.2.2.2.2.2.1,x0.2.2.2.2.2.2.2.2.2.2.2.2.2.2.2.2.2.2.2.2.2.2.2.2.2.2.2.2.2.2.1,x0.2.2.2.2.2.2.2.2.2.2.2.2.2.2.2.2.2.2.2.2.2.2.2.2.2.2.2.2.2.2.2.1,x0.2.2.2.2.2.2.2.2.2.2.2.2.2.2.2.2.2.2.2.2.2.2.2.2.2.2.2.2.2.2.2.2))
def jdO (u4:Int × Int × Int × Int × Int × Int × Int × Int × Int × Int × Int × Int × Int × Int × Int × Int × Int × Int × Int × Int × Int × Int × Int × Int × Int × Int × Int × Int × Int × Int × Int × Int):Option (Int × Int × Int × Int × Int × Int × Int × Int × Int × Int × Int × Int × Int × Int × Int × Int × Int × Int × Int × Int × Int × Int × Int × Int × Int × Int × Int × Int × Int × Int × Int × Int) :=
 some (u4.1,u4.2.1,u4.2.2.1,u4.2.2.2.1,u4.2.2.2.2.1,u4.2.2.2.2.2.1,u4.2.2.2.2.2.2.1,u4.2.2.2.2.2.2.2.1,u4.2.2.2.2.2.2.2.2.1,u4.2.2.2.2.2.2.2.2.2.1,u4.2.2.2.2.2.2.2.2.2.2.1,u4.2.2.2.2.2.2.2.2.2.2.2.1,u4.2.2.2.2.2.2.2.2.2.2.2.2.1,u4.2.2.2.2.2.2.2.2.2.2.2.2.2.1,u4.2.2.2.2.2.2.2.2.2.2.2.2.2.2.1,u4.2.2.2.2.2.2.2.2.2.2.2.2.2.2.2.1,u4.2.2.2.2.2.2.2.2.2.2.2.2.2.2.2.2.1,u4.2.2.2.2.2.2.2.2.2.2.2.2.2.2.2.2.2.1,u4.2.2.2.2.2.2.2.2.2.2.2.2.2.2.2.2.2.2.1,u4.2.2.2.2.2.2.2.2.2.2.2.2.2.2.2.2.2.2.2.1,u4.2.2.2.2.2.2.2.2.2.2.2.2.2.2.2.2.2.2.2.2.1,u4.2.2.2.2.2.2.2.2.2.2.2.2.2.2.2.2.2.2.2.2.2.1,u4.2.2.2.2.2.2.2.2.2.2.2.2.2.2.2.2.2.2.2.2.2.2.1,u4.2.2.2.2.2.2.2.2.2.2.2.2.2.2.2.2.2.2.2.2.2.2.2.1,u4.2.2.2.2.2.2.2.2.2.2.2.2.2.2.2.2.2.2.2.2.2.2.2.2.1,u4.2.2.2.2.2.2.2.2.2.2.2.2.2.2.2.2.2.2.2.2.2.2.2.2.2.1,u4.2.2.2.2.2.2.2.2.2.2.2.2.2.2.2.2.2.2.2.2.2.2.2.2.2.2.1,u4.2.2.2.2.2.2.2.2.2.2.2.2.2.2.2.2.2.2.2.2.2.2.2.2.2.2.2.1,u4.2.2.2.2.2.2.2.2.2.2.2.2.2.2.2.2.2.2.2.2.2.2.2.2.2.2.2.2.1,u4.2.2.2.2.2.2.2.2.2.2.2.2.2.2.2.2.2.2.2.2.2.2.2.2.2.2.2.2.2.1,u4.2.2.2.2.2.2.2.2.2.2.2.2.2.2.2.2.2.2.2.2.2.2.2.2.2.2.2.2.2.2.1,u4.2.2.2.2.2.2.2.2.2.2.2.2.2.2.2.2.2.2.2.2.2.2.2.2.2.2.2.2.2.2.2)
def jag (u16:ByteArray) (u17:List (List NC)) (u18:List Int) (u15:Int) (u19:List (List Nat)) (u20:List (List (List Int))) (u21:List (List Nat)) (u22:List Int) (u23:List (List Nat)) (u24:List (List (List Int))) (u25:List Int) (u12:ByteArray) (u6:Int) (u11:List Int) (u10:List Int) (u9:List Int) (u7:Int) (u13:List (List Int)) (u14:Int) (u42:Int) (u43:Int):Option (Int × Int × Int × Int × Int × Int × Int × Int × Int × Int × Int × Int × Int × Int × Int × Int × Int × Int × Int × Int × Int × Int × Int × Int × Int × Int × Int × Int × Int × Int × Int × Int) :=
 Option.bind (jah (jdN u16 u17 u18 u15 u19 u20 u21 u22 u23 u24 u25 u11 u10 u42 u43) big (((0:Int),0,0,0,0,0,0,0,0,0,0,0,0,0,0,0,0,0,0,0,0,0,0,0,0,0,0,0,0,0,0,0,0))) (jdO)
def jep:List Lf→Option GT
 |[.d (.s u16),.x (.st [.s,.i .i64,.ints .i64,.ints .i64,.ints .i64,.i .i64,.recs 5,.i .i64] u17),.r (.ints .i64 u18),.d (.i .i64 u15),.x (.ff .f32 u19),.x (.rr 4 u20),.r (.frs .f32 32 u21),.r (.ints .i64 u22),.r (.frs .f32 32 u23),.x (.rr 4 u24),.r (.ints .i64 u25),.d (.s u12),.d (.i .i64 u6),.r (.ints .i64 u11),.r (.ints .i64 u10),.r (.ints .i64 u9),.d (.i .i64 u7),.r (.recs 5 u13),.d (.i .i64 u14),.d (.i .i64 u42),.d (.i .i64 u43)]=>some (.leaf (ok (jag u16 u17 u18 u15 u19 u20 u21 u22 u23 u24 u25 u12 u6 u11 u10 u9 u7 u13 u14 u42 u43)) [.s [.d (.i .i64 ((val (jag u16 u17 u18 u15 u19 u20 u21 u22 u23 u24 u25 u12 u6 u11 u10 u9 u7 u13 u14 u42 u43)).1)),.d (.i .i64 ((val (jag u16 u17 u18 u15 u19 u20 u21 u22 u23 u24 u25 u12 u6 u11 u10 u9 u7 u13 u14 u42 u43)).2.1)),.d (.i .i64 ((val (jag u16 u17 u18 u15 u19 u20 u21 u22 u23 u24 u25 u12 u6 u11 u10 u9 u7 u13 u14 u42 u43)).2.2.1)),.d (.i .i64 ((val (jag u16 u17 u18 u15 u19 u20 u21 u22 u23 u24 u25 u12 u6 u11 u10 u9 u7 u13 u14 u42 u43)).2.2.2.1)),.d (.i .i64 ((val (jag u16 u17 u18 u15 u19 u20 u21 u22 u23 u24 u25 u12 u6 u11 u10 u9 u7 u13 u14 u42 u43)).2.2.2.2.1)),.d (.i .i64 ((val (jag u16 u17 u18 u15 u19 u20 u21 u22 u23 u24 u25 u12 u6 u11 u10 u9 u7 u13 u14 u42 u43)).2.2.2.2.2.1)),.d (.i .i64 ((val (jag u16 u17 u18 u15 u19 u20 u21 u22 u23 u24 u25 u12 u6 u11 u10 u9 u7 u13 u14 u42 u43)).2.2.2.2.2.2.1)),.d (.i .i64 ((val (jag u16 u17 u18 u15 u19 u20 u21 u22 u23 u24 u25 u12 u6 u11 u10 u9 u7 u13 u14 u42 u43)).2.2.2.2.2.2.2.1)),.d (.i .i64 ((val (jag u16 u17 u18 u15 u19 u20 u21 u22 u23 u24 u25 u12 u6 u11 u10 u9 u7 u13 u14 u42 u43)).2.2.2.2.2.2.2.2.1)),.d (.i .i64 ((val (jag u16 u17 u18 u15 u19 u20 u21 u22 u23 u24 u25 u12 u6 u11 u10 u9 u7 u13 u14 u42 u43)).2.2.2.2.2.2.2.2.2.1)),.d (.i .i64 ((val (jag u16 u17 u18 u15 u19 u20 u21 u22 u23 u24 u25 u12 u6 u11 u10 u9 u7 u13 u14 u42 u43)).2.2.2.2.2.2.2.2.2.2.1)),.d (.i .i64 ((val (jag u16 u17 u18 u15 u19 u20 u21 u22 u23 u24 u25 u12 u6 u11 u10 u9 u7 u13 u14 u42 u43)).2.2.2.2.2.2.2.2.2.2.2.1)),.d (.i .i64 ((val (jag u16 u17 u18 u15 u19 u20 u21 u22 u23 u24 u25 u12 u6 u11 u10 u9 u7 u13 u14 u42 u43)).2.2.2.2.2.2.2.2.2.2.2.2.1)),.d (.i .i64 ((val (jag u16 u17 u18 u15 u19 u20 u21 u22 u23 u24 u25 u12 u6 u11 u10 u9 u7 u13 u14 u42 u43)).2.2.2.2.2.2.2.2.2.2.2.2.2.1)),.d (.i .i64 ((val (jag u16 u17 u18 u15 u19 u20 u21 u22 u23 u24 u25 u12 u6 u11 u10 u9 u7 u13 u14 u42 u43)).2.2.2.2.2.2.2.2.2.2.2.2.2.2.1)),.d (.i .i64 ((val (jag u16 u17 u18 u15 u19 u20 u21 u22 u23 u24 u25 u12 u6 u11 u10 u9 u7 u13 u14 u42 u43)).2.2.2.2.2.2.2.2.2.2.2.2.2.2.2.1)),.d (.i .i64 ((val (jag u16 u17 u18 u15 u19 u20 u21 u22 u23 u24 u25 u12 u6 u11 u10 u9 u7 u13 u14 u42 u43)).2.2.2.2.2.2.2.2.2.2.2.2.2.2.2.2.1)),.d (.i .i64 ((val (jag u16 u17 u18 u15 u19 u20 u21 u22 u23 u24 u25 u12 u6 u11 u10 u9 u7 u13 u14 u42 u43)).2.2.2.2.2.2.2.2.2.2.2.2.2.2.2.2.2.1)),.d (.i .i64 ((val (jag u16 u17 u18 u15 u19 u20 u21 u22 u23 u24 u25 u12 u6 u11 u10 u9 u7 u13 u14 u42 u43)).2.2.2.2.2.2.2.2.2.2.2.2.2.2.2.2.2.2.1)),.d (.i .i64 ((val (jag u16 u17 u18 u15 u19 u20 u21 u22 u23 u24 u25 u12 u6 u11 u10 u9 u7 u13 u14 u42 u43)).2.2.2.2.2.2.2.2.2.2.2.2.2.2.2.2.2.2.2.1)),.d (.i .i64 ((val (jag u16 u17 u18 u15 u19 u20 u21 u22 u23 u24 u25 u12 u6 u11 u10 u9 u7 u13 u14 u42 u43)).2.2.2.2.2.2.2.2.2.2.2.2.2.2.2.2.2.2.2.2.1)),.d (.i .i64 ((val (jag u16 u17 u18 u15 u19 u20 u21 u22 u23 u24 u25 u12 u6 u11 u10 u9 u7 u13 u14 u42 u43)).2.2.2.2.2.2.2.2.2.2.2.2.2.2.2.2.2.2.2.2.2.1)),.d (.i .i64 ((val (jag u16 u17 u18 u15 u19 u20 u21 u22 u23 u24 u25 u12 u6 u11 u10 u9 u7 u13 u14 u42 u43)).2.2.2.2.2.2.2.2.2.2.2.2.2.2.2.2.2.2.2.2.2.2.1)),.d (.i .i64 ((val (jag u16 u17 u18 u15 u19 u20 u21 u22 u23 u24 u25 u12 u6 u11 u10 u9 u7 u13 u14 u42 u43)).2.2.2.2.2.2.2.2.2.2.2.2.2.2.2.2.2.2.2.2.2.2.2.1)),.d (.i .i64 ((val (jag u16 u17 u18 u15 u19 u20 u21 u22 u23 u24 u25 u12 u6 u11 u10 u9 u7 u13 u14 u42 u43)).2.2.2.2.2.2.2.2.2.2.2.2.2.2.2.2.2.2.2.2.2.2.2.2.1)),.d (.i .i64 ((val (jag u16 u17 u18 u15 u19 u20 u21 u22 u23 u24 u25 u12 u6 u11 u10 u9 u7 u13 u14 u42 u43)).2.2.2.2.2.2.2.2.2.2.2.2.2.2.2.2.2.2.2.2.2.2.2.2.2.1)),.d (.i .i64 ((val (jag u16 u17 u18 u15 u19 u20 u21 u22 u23 u24 u25 u12 u6 u11 u10 u9 u7 u13 u14 u42 u43)).2.2.2.2.2.2.2.2.2.2.2.2.2.2.2.2.2.2.2.2.2.2.2.2.2.2.1)),.d (.i .i64 ((val (jag u16 u17 u18 u15 u19 u20 u21 u22 u23 u24 u25 u12 u6 u11 u10 u9 u7 u13 u14 u42 u43)).2.2.2.2.2.2.2.2.2.2.2.2.2.2.2.2.2.2.2.2.2.2.2.2.2.2.2.1)),.d (.i .i64 ((val (jag u16 u17 u18 u15 u19 u20 u21 u22 u23 u24 u25 u12 u6 u11 u10 u9 u7 u13 u14 u42 u43)).2.2.2.2.2.2.2.2.2.2.2.2.2.2.2.2.2.2.2.2.2.2.2.2.2.2.2.2.1)),.d (.i .i64 ((val (jag u16 u17 u18 u15 u19 u20 u21 u22 u23 u24 u25 u12 u6 u11 u10 u9 u7 u13 u14 u42 u43)).2.2.2.2.2.2.2.2.2.2.2.2.2.2.2.2.2.2.2.2.2.2.2.2.2.2.2.2.2.1)),.d (.i .i64 ((val (jag u16 u17 u18 u15 u19 u20 u21 u22 u23 u24 u25 u12 u6 u11 u10 u9 u7 u13 u14 u42 u43)).2.2.2.2.2.2.2.2.2.2.2.2.2.2.2.2.2.2.2.2.2.2.2.2.2.2.2.2.2.2.1)),.d (.i .i64 ((val (jag u16 u17 u18 u15 u19 u20 u21 u22 u23 u24 u25 u12 u6 u11 u10 u9 u7 u13 u14 u42 u43)).2.2.2.2.2.2.2.2.2.2.2.2.2.2.2.2.2.2.2.2.2.2.2.2.2.2.2.2.2.2.2))]])
 |_=>none
abbrev jgO (u16:ByteArray) (u17:List (List NC)) (u18:List Int) (u15:Int) (u19:List (List Nat)) (u20:List (List (List Int))) (u21:List (List Nat)) (u22:List Int) (u23:List (List Nat)) (u24:List (List (List Int))) (u25:List Int) (u12:ByteArray) (u6:Int) (u11:List Int) (u10:List Int) (u9:List Int) (u7:Int) (u13:List (List Int)) (u14:Int) (u42:Int) (u43:Int) (r:Int × Int × Int × Int × Int × Int × Int × Int × Int × Int × Int × Int × Int × Int × Int × Int × Int × Int × Int × Int × Int × Int × Int × Int × Int × Int × Int × Int × Int × Int × Int × Int):Lp ((Int × Int × Int × Int × Int × Int × Int × Int × Int × Int × Int × Int × Int × Int × Int × Int × Int × Int × Int × Int × Int × Int × Int × Int × Int × Int × Int × Int × Int × Int × Int × Int × Int) × Nat) (Int × Int × Int × Int × Int × Int × Int × Int × Int × Int × Int × Int × Int × Int × Int × Int × Int × Int × Int × Int × Int × Int × Int × Int × Int × Int × Int × Int × Int × Int × Int × Int × Int) (Int × Int × Int × Int × Int × Int × Int × Int × Int × Int × Int × Int × Int × Int × Int × Int × Int × Int × Int × Int × Int × Int × Int × Int × Int × Int × Int × Int × Int × Int × Int × Int) (Int × Int × Int × Int × Int × Int × Int × Int × Int × Int × Int × Int × Int × Int × Int × Int × Int × Int × Int × Int × Int × Int × Int × Int × Int × Int × Int × Int × Int × Int × Int × Int) (Int × Int × Int × Int × Int × Int × Int × Int × Int × Int × Int × Int × Int × Int × Int × Int × Int × Int × Int × Int × Int × Int × Int × Int × Int × Int × Int × Int × Int × Int × Int × Int) :=
 ⟨fun z=>Prod.fst z,fun z=>Prod.snd z,fun z x n=>(x,n),fun z=>jdN u16 u17 u18 u15 u19 u20 u21 u22 u23 u24 u25 u11 u10 u42 u43,fun z=>jdO,fun z=>top r,fun z=>0,[.c fun _=>0,.c fun _=>u42,.c fun _=>u43,.c fun _=>0,.c fun _=>0,.c fun _=>0,.c fun vv=>vv.1.1,.c fun _=>0,.c fun _=>u15,.c fun _=>u12,.c fun _=>u6,.c fun _=>u7,.c fun _=>u14,.c fun _=>(0:Int),.c fun _=>(0:Int),.c fun _=>(0:Int),.c fun _=>(0:Int),.c fun _=>(0:Int),.c fun _=>(0:Int),.c fun _=>(0:Int),.c fun _=>(0:Int),.c fun _=>(0:Int),.c fun _=>(0:Int),.c fun _=>(0:Int),.c fun _=>(0:Int),.c fun _=>(0:Int),.c fun _=>(0:Int),.c fun _=>(0:Int),.c fun _=>(0:Int),.c fun _=>(0:Int),.c fun _=>(0:Int),.c fun _=>(0:Int),.c fun _=>(0:Int),.c fun _=>(0:Int),.c fun _=>(0:Int),.c fun _=>(0:Int),.c fun _=>(0:Int),.c fun _=>(0:Int),.c fun _=>(0:Int),.c fun _=>(0:Int),.c fun _=>(0:Int),.c fun _=>(0:Int),.c fun _=>(0:Int),.c fun _=>(0:Int),.c fun _=>(0:Int),.c fun vv=>vv.1.2.1,.c fun vv=>vv.1.2.2.1,.c fun vv=>vv.1.2.2.2.1,.c fun vv=>vv.1.2.2.2.2.1,.c fun vv=>vv.1.2.2.2.2.2.1,.c fun vv=>vv.1.2.2.2.2.2.2.1,.c fun vv=>vv.1.2.2.2.2.2.2.2.1,.c fun vv=>vv.1.2.2.2.2.2.2.2.2.1,.c fun vv=>vv.1.2.2.2.2.2.2.2.2.2.1,.c fun vv=>vv.1.2.2.2.2.2.2.2.2.2.2.1,.c fun vv=>vv.1.2.2.2.2.2.2.2.2.2.2.2.1,.c fun vv=>vv.1.2.2.2.2.2.2.2.2.2.2.2.2.1,.c fun vv=>vv.1.2.2.2.2.2.2.2.2.2.2.2.2.2.1,.c fun vv=>vv.1.2.2.2.2.2.2.2.2.2.2.2.2.2.2.1,.c fun vv=>vv.1.2.2.2.2.2.2.2.2.2.2.2.2.2.2.2.1,.c fun vv=>vv.1.2.2.2.2.2.2.2.2.2.2.2.2.2.2.2.2.1,.c fun vv=>vv.1.2.2.2.2.2.2.2.2.2.2.2.2.2.2.2.2.2.1,.c fun vv=>vv.1.2.2.2.2.2.2.2.2.2.2.2.2.2.2.2.2.2.2.1,.c fun vv=>vv.1.2.2.2.2.2.2.2.2.2.2.2.2.2.2.2.2.2.2.2.1,.c fun vv=>vv.1.2.2.2.2.2.2.2.2.2.2.2.2.2.2.2.2.2.2.2.2.1,.c fun vv=>vv.1.2.2.2.2.2.2.2.2.2.2.2.2.2.2.2.2.2.2.2.2.2.1,.c fun vv=>vv.1.2.2.2.2.2.2.2.2.2.2.2.2.2.2.2.2.2.2.2.2.2.2.1,.c fun vv=>vv.1.2.2.2.2.2.2.2.2.2.2.2.2.2.2.2.2.2.2.2.2.2.2.2.1,.c fun vv=>vv.1.2.2.2.2.2.2.2.2.2.2.2.2.2.2.2.2.2.2.2.2.2.2.2.2.1,.c fun vv=>vv.1.2.2.2.2.2.2.2.2.2.2.2.2.2.2.2.2.2.2.2.2.2.2.2.2.2.1,.c fun vv=>vv.1.2.2.2.2.2.2.2.2.2.2.2.2.2.2.2.2.2.2.2.2.2.2.2.2.2.2.1,.c fun vv=>vv.1.2.2.2.2.2.2.2.2.2.2.2.2.2.2.2.2.2.2.2.2.2.2.2.2.2.2.2.1,.c fun vv=>vv.1.2.2.2.2.2.2.2.2.2.2.2.2.2.2.2.2.2.2.2.2.2.2.2.2.2.2.2.2.1,.c fun vv=>vv.1.2.2.2.2.2.2.2.2.2.2.2.2.2.2.2.2.2.2.2.2.2.2.2.2.2.2.2.2.2.1,.c fun vv=>vv.1.2.2.2.2.2.2.2.2.2.2.2.2.2.2.2.2.2.2.2.2.2.2.2.2.2.2.2.2.2.2.1,.c fun vv=>vv.1.2.2.2.2.2.2.2.2.2.2.2.2.2.2.2.2.2.2.2.2.2.2.2.2.2.2.2.2.2.2.2.1,.c fun vv=>vv.1.2.2.2.2.2.2.2.2.2.2.2.2.2.2.2.2.2.2.2.2.2.2.2.2.2.2.2.2.2.2.2.2,.c fun _=>u16,.c fun _=>u19,.c fun _=>u20,.c fun _=>u21,.c fun _=>u22,.c fun _=>u23,.c fun _=>u24,.c fun _=>u25,.c fun _=>u11,.c fun _=>u10,.c fun _=>u9,.c fun _=>u13,.c fun _=>u17,.c fun _=>u18]⟩
def jm8 (u16:ByteArray) (u17:List (List NC)) (u18:List Int) (u15:Int) (u19:List (List Nat)) (u20:List (List (List Int))) (u21:List (List Nat)) (u22:List Int) (u23:List (List Nat)) (u24:List (List (List Int))) (u25:List Int) (u12:ByteArray) (u6:Int) (u11:List Int) (u10:List Int) (u9:List Int) (u7:Int) (u13:List (List Int)) (u14:Int) (u42:Int) (u43:Int) (r:Int × Int × Int × Int × Int × Int × Int × Int × Int × Int × Int × Int × Int × Int × Int × Int × Int × Int × Int × Int × Int × Int × Int × Int × Int × Int × Int × Int × Int × Int × Int × Int):Sk (top r) (Option.bind (jah (jdN u16 u17 u18 u15 u19 u20 u21 u22 u23 u24 u25 u11 u10 u42 u43) big (((0:Int),0,0,0,0,0,0,0,0,0,0,0,0,0,0,0,0,0,0,0,0,0,0,0,0,0,0,0,0,0,0,0,0))) (jdO)) :=
 .loop (jgO u16 u17 u18 u15 u19 u20 u21 u22 u23 u24 u25 u12 u6 u11 u10 u9 u7 u13 u14 u42 u43 r) (fun kk=>(((0:Int),0,0,0,0,0,0,0,0,0,0,0,0,0,0,0,0,0,0,0,0,0,0,0,0,0,0,0,0,0,0,0,0),big)) fun z0 =>
 .br
 (.ob (.ob (.ob (.ob (.call (.ob (.ob (.next))))))))
 (.exit (.obT (.rc)))
def joz (u16:ByteArray) (u17:List (List NC)) (u18:List Int) (u15:Int) (u19:List (List Nat)) (u20:List (List (List Int))) (u21:List (List Nat)) (u22:List Int) (u23:List (List Nat)) (u24:List (List (List Int))) (u25:List Int) (u12:ByteArray) (u6:Int) (u11:List Int) (u10:List Int) (u9:List Int) (u7:Int) (u13:List (List Int)) (u14:Int) (u42:Int) (u43:Int) (r:Int × Int × Int × Int × Int × Int × Int × Int × Int × Int × Int × Int × Int × Int × Int × Int × Int × Int × Int × Int × Int × Int × Int × Int × Int × Int × Int × Int × Int × Int × Int × Int):Sk (top r) (jag u16 u17 u18 u15 u19 u20 u21 u22 u23 u24 u25 u12 u6 u11 u10 u9 u7 u13 u14 u42 u43) :=
 jm8 u16 u17 u18 u15 u19 u20 u21 u22 u23 u24 u25 u12 u6 u11 u10 u9 u7 u13 u14 u42 u43 r
theorem jm9 (u16:ByteArray) (u17:List (List NC)) (u18:List Int) (u15:Int) (u19:List (List Nat)) (u20:List (List (List Int))) (u21:List (List Nat)) (u22:List Int) (u23:List (List Nat)) (u24:List (List (List Int))) (u25:List Int) (u12:ByteArray) (u6:Int) (u11:List Int) (u10:List Int) (u9:List Int) (u7:Int) (u13:List (List Int)) (u14:Int) (u42:Int) (u43:Int) (r:Int × Int × Int × Int × Int × Int × Int × Int × Int × Int × Int × Int × Int × Int × Int × Int × Int × Int × Int × Int × Int × Int × Int × Int × Int × Int × Int × Int × Int × Int × Int × Int) (h:Option.bind (jag u16 u17 u18 u15 u19 u20 u21 u22 u23 u24 u25 u12 u6 u11 u10 u9 u7 u13 u14 u42 u43) some=some r):jbb Tryz.f148 ((sp_149 sp0)) (fun gs id _=>match id with
 |0=>some ⟨(Int × Int × Int × Int × Int × Int × Int × Int × Int × Int × Int × Int × Int × Int × Int × Int × Int × Int × Int × Int × Int × Int × Int × Int × Int × Int × Int × Int × Int × Int × Int × Int × Int) × Nat,fun z=>⟨[(0,.w (.c (.p 10 0 1 0))),(2,.w (.c (.d (.i .i64 u42)))),(3,.w (.c (.d (.i .i64 u43)))),(5,.w (.c (.p 15 0 1 0))),(8,.w (.c (.p 16 0 1 0))),(9,.w (.c (.p 17 0 1 0))),(11,.w (.c (.d (.i .i64 (Prod.fst (Prod.fst z))))))],[(10,.ebox [.p 2 0 1 0,.d (.i .i64 u15),.o 3,.o 4,.o 5,.o 6,.o 7,.o 8,.o 9]),(15,.box 118 [.d (.s u12),.d (.i .i64 u6),.o 11,.o 12,.o 13,.d (.i .i64 u7),.o 14,.d (.i .i64 u14)]),(16,.box 206 [.d (.i .i64 0),.d (.i .i64 0),.d (.i .i64 0),.d (.i .i64 0),.d (.i .i64 0),.d (.i .i64 0),.d (.i .i64 0),.d (.i .i64 0),.d (.i .i64 0),.d (.i .i64 0),.d (.i .i64 0),.d (.i .i64 0),.d (.i .i64 0),.d (.i .i64 0),.d (.i .i64 0),.d (.i .i64 0),.d (.i .i64 0),.d (.i .i64 0),.d (.i .i64 0),.d (.i .i64 0),.d (.i .i64 0),.d (.i .i64 0),.d (.i .i64 0),.d (.i .i64 0),.d (.i .i64 0),.d (.i .i64 0),.d (.i .i64 0),.d (.i .i64 0),.d (.i .i64 0),.d (.i .i64 0),.d (.i .i64 0),.d (.i .i64 0)]),(17,.box 206 [.d (.i .i64 (Prod.fst (Prod.snd (Prod.fst z)))),.d (.i .i64 (Prod.fst (Prod.snd (Prod.snd (Prod.fst z))))),.d (.i .i64 (Prod.fst (Prod.snd (Prod.snd (Prod.snd (Prod.fst z)))))),.d (.i .i64 (Prod.fst (Prod.snd (Prod.snd (Prod.snd (Prod.snd (Prod.fst z))))))),.d (.i .i64 (Prod.fst (Prod.snd (Prod.snd (Prod.snd (Prod.snd (Prod.snd (Prod.fst z)))))))),.d (.i .i64 (Prod.fst (Prod.snd (Prod.snd (Prod.snd (Prod.snd (Prod.snd (Prod.snd (Prod.fst z))))))))),.d (.i .i64 (Prod.fst (Prod.snd (Prod.snd (Prod.snd (Prod.snd (Prod.snd (Prod.snd (Prod.snd (Prod.fst z)))))))))),.d (.i .i64 (Prod.fst (Prod.snd (Prod.snd (Prod.snd (Prod.snd (Prod.snd (Prod.snd (Prod.snd (Prod.snd (Prod.fst z))))))))))),.d (.i .i64 (Prod.fst (Prod.snd (Prod.snd (Prod.snd (Prod.snd (Prod.snd (Prod.snd (Prod.snd (Prod.snd (Prod.snd (Prod.fst z)))))))))))),.d (.i .i64 (Prod.fst (Prod.snd (Prod.snd (Prod.snd (Prod.snd (Prod.snd (Prod.snd (Prod.snd (Prod.snd (Prod.snd (Prod.snd (Prod.fst z))))))))))))),.d (.i .i64 (Prod.fst (Prod.snd (Prod.snd (Prod.snd (Prod.snd (Prod.snd (Prod.snd (Prod.snd (Prod.snd (Prod.snd (Prod.snd (Prod.snd (Prod.fst z)))))))))))))),.d (.i .i64 (Prod.fst (Prod.snd (Prod.snd (Prod.snd (Prod.snd (Prod.snd (Prod.snd (Prod.snd (Prod.snd (Prod.snd (Prod.snd (Prod.snd (Prod.snd (Prod.fst z))))))))))))))),.d (.i .i64 (Prod.fst (Prod.snd (Prod.snd (Prod.snd (Prod.snd (Prod.snd (Prod.snd (Prod.snd (Prod.snd (Prod.snd (Prod.snd (Prod.snd (Prod.snd (Prod.snd (Prod.fst z)))))))))))))))),.d (.i .i64 (Prod.fst (Prod.snd (Prod.snd (Prod.snd (Prod.snd (Prod.snd (Prod.snd (Prod.snd (Prod.snd (Prod.snd (Prod.snd (Prod.snd (Prod.snd (Prod.snd (Prod.snd (Prod.fst z))))))))))))))))),.d (.i .i64 (Prod.fst (Prod.snd (Prod.snd (Prod.snd (Prod.snd (Prod.snd (Prod.snd (Prod.snd (Prod.snd (Prod.snd (Prod.snd (Prod.snd (Prod.snd (Prod.snd (Prod.snd (Prod.snd (Prod.fst z)))))))))))))))))),.d (.i .i64 (Prod.fst (Prod.snd (Prod.snd (Prod.snd (Prod.snd (Prod.snd (Prod.snd (Prod.snd (Prod.snd (Prod.snd (Prod.snd (Prod.snd (Prod.snd (Prod.snd (Prod.snd (Prod.snd (Prod.snd (Prod.fst z))))))))))))))))))),.d (.i .i64 (Prod.fst (Prod.snd (Prod.snd (Prod.snd (Prod.snd (Prod.snd (Prod.snd (Prod.snd (Prod.snd (Prod.snd (Prod.snd (Prod.snd (Prod.snd (Prod.snd (Prod.snd (Prod.snd (Prod.snd (Prod.snd (Prod.fst z)))))))))))))))))))),.d (.i .i64 (Prod.fst (Prod.snd (Prod.snd (Prod.snd (Prod.snd (Prod.snd (Prod.snd (Prod.snd (Prod.snd (Prod.snd (Prod.snd (Prod.snd (Prod.snd (Prod.snd (Prod.snd (Prod.snd (Prod.snd (Prod.snd (Prod.snd (Prod.fst z))))))))))))))))))))),.d (.i .i64 (Prod.fst (Prod.snd (Prod.snd (Prod.snd (Prod.snd (Prod.snd (Prod.snd (Prod.snd (Prod.snd (Prod.snd (Prod.snd (Prod.snd (Prod.snd (Prod.snd (Prod.snd (Prod.snd (Prod.snd (Prod.snd (Prod.snd (Prod.snd (Prod.fst z)))))))))))))))))))))),.d (.i .i64 (Prod.fst (Prod.snd (Prod.snd (Prod.snd (Prod.snd (Prod.snd (Prod.snd (Prod.snd (Prod.snd (Prod.snd (Prod.snd (Prod.snd (Prod.snd (Prod.snd (Prod.snd (Prod.snd (Prod.snd (Prod.snd (Prod.snd (Prod.snd (Prod.snd (Prod.fst z))))))))))))))))))))))),.d (.i .i64 (Prod.fst (Prod.snd (Prod.snd (Prod.snd (Prod.snd (Prod.snd (Prod.snd (Prod.snd (Prod.snd (Prod.snd (Prod.snd (Prod.snd (Prod.snd (Prod.snd (Prod.snd (Prod.snd (Prod.snd (Prod.snd (Prod.snd (Prod.snd (Prod.snd (Prod.snd (Prod.fst z)))))))))))))))))))))))),.d (.i .i64 (Prod.fst (Prod.snd (Prod.snd (Prod.snd (Prod.snd (Prod.snd (Prod.snd (Prod.snd (Prod.snd (Prod.snd (Prod.snd (Prod.snd (Prod.snd (Prod.snd (Prod.snd (Prod.snd (Prod.snd (Prod.snd (Prod.snd (Prod.snd (Prod.snd (Prod.snd (Prod.snd (Prod.fst z))))))))))))))))))))))))),.d (.i .i64 (Prod.fst (Prod.snd (Prod.snd (Prod.snd (Prod.snd (Prod.snd (Prod.snd (Prod.snd (Prod.snd (Prod.snd (Prod.snd (Prod.snd (Prod.snd (Prod.snd (Prod.snd (Prod.snd (Prod.snd (Prod.snd (Prod.snd (Prod.snd (Prod.snd (Prod.snd (Prod.snd (Prod.snd (Prod.fst z)))))))))))))))))))))))))),.d (.i .i64 (Prod.fst (Prod.snd (Prod.snd (Prod.snd (Prod.snd (Prod.snd (Prod.snd (Prod.snd (Prod.snd (Prod.snd (Prod.snd (Prod.snd (Prod.snd (Prod.snd (Prod.snd (Prod.snd (Prod.snd (Prod.snd (Prod.snd (Prod.snd (Prod.snd (Prod.snd (Prod.snd (Prod.snd (Prod.snd (Prod.fst z))))))))))))))))))))))))))),.d (.i .i64 (Prod.fst (Prod.snd (Prod.snd (Prod.snd (Prod.snd (Prod.snd (Prod.snd (Prod.snd (Prod.snd (Prod.snd (Prod.snd (Prod.snd (Prod.snd (Prod.snd (Prod.snd (Prod.snd (Prod.snd (Prod.snd (Prod.snd (Prod.snd (Prod.snd (Prod.snd (Prod.snd (Prod.snd (Prod.snd (Prod.snd (Prod.fst z)))))))))))))))))))))))))))),.d (.i .i64 (Prod.fst (Prod.snd (Prod.snd (Prod.snd (Prod.snd (Prod.snd (Prod.snd (Prod.snd (Prod.snd (Prod.snd (Prod.snd (Prod.snd (Prod.snd (Prod.snd (Prod.snd (Prod.snd (Prod.snd (Prod.snd (Prod.snd (Prod.snd (Prod.snd (Prod.snd (Prod.snd (Prod.snd (Prod.snd (Prod.snd (Prod.snd (Prod.fst z))))))))))))))))))))))))))))),.d (.i .i64 (Prod.fst (Prod.snd (Prod.snd (Prod.snd (Prod.snd (Prod.snd (Prod.snd (Prod.snd (Prod.snd (Prod.snd (Prod.snd (Prod.snd (Prod.snd (Prod.snd (Prod.snd (Prod.snd (Prod.snd (Prod.snd (Prod.snd (Prod.snd (Prod.snd (Prod.snd (Prod.snd (Prod.snd (Prod.snd (Prod.snd (Prod.snd (Prod.snd (Prod.fst z)))))))))))))))))))))))))))))),.d (.i .i64 (Prod.fst (Prod.snd (Prod.snd (Prod.snd (Prod.snd (Prod.snd (Prod.snd (Prod.snd (Prod.snd (Prod.snd (Prod.snd (Prod.snd (Prod.snd (Prod.snd (Prod.snd (Prod.snd (Prod.snd (Prod.snd (Prod.snd (Prod.snd (Prod.snd (Prod.snd (Prod.snd (Prod.snd (Prod.snd (Prod.snd (Prod.snd (Prod.snd (Prod.snd (Prod.fst z))))))))))))))))))))))))))))))),.d (.i .i64 (Prod.fst (Prod.snd (Prod.snd (Prod.snd (Prod.snd (Prod.snd (Prod.snd (Prod.snd (Prod.snd (Prod.snd (Prod.snd (Prod.snd (Prod.snd (Prod.snd (Prod.snd (Prod.snd (Prod.snd (Prod.snd (Prod.snd (Prod.snd (Prod.snd (Prod.snd (Prod.snd (Prod.snd (Prod.snd (Prod.snd (Prod.snd (Prod.snd (Prod.snd (Prod.snd (Prod.fst z)))))))))))))))))))))))))))))))),.d (.i .i64 (Prod.fst (Prod.snd (Prod.snd (Prod.snd (Prod.snd (Prod.snd (Prod.snd (Prod.snd (Prod.snd (Prod.snd (Prod.snd (Prod.snd (Prod.snd (Prod.snd (Prod.snd (Prod.snd (Prod.snd (Prod.snd (Prod.snd (Prod.snd (Prod.snd (Prod.snd (Prod.snd (Prod.snd (Prod.snd (Prod.snd (Prod.snd (Prod.snd (Prod.snd (Prod.snd (Prod.snd (Prod.fst z))))))))))))))))))))))))))))))))),.d (.i .i64 (Prod.fst (Prod.snd (Prod.snd (Prod.snd (Prod.snd (Prod.snd (Prod.snd (Prod.snd (Prod.snd (Prod.snd (Prod.snd (Prod.snd (Prod.snd (Prod.snd (Prod.snd (Prod.snd (Prod.snd (Prod.snd (Prod.snd (Prod.snd (Prod.snd (Prod.snd (Prod.snd (Prod.snd (Prod.snd (Prod.snd (Prod.snd (Prod.snd (Prod.snd (Prod.snd (Prod.snd (Prod.snd (Prod.fst z)))))))))))))))))))))))))))))))))),.d (.i .i64 (Prod.snd (Prod.snd (Prod.snd (Prod.snd (Prod.snd (Prod.snd (Prod.snd (Prod.snd (Prod.snd (Prod.snd (Prod.snd (Prod.snd (Prod.snd (Prod.snd (Prod.snd (Prod.snd (Prod.snd (Prod.snd (Prod.snd (Prod.snd (Prod.snd (Prod.snd (Prod.snd (Prod.snd (Prod.snd (Prod.snd (Prod.snd (Prod.snd (Prod.snd (Prod.snd (Prod.snd (Prod.snd (Prod.fst z))))))))))))))))))))))))))))))))))]),(2,.ebox [.d (.s u16),.o 0,.o 1]),(3,.xext (XC.ff .f32 u19)),(4,.xext (XC.rr (4:Nat) u20)),(5,.ext (.frs .f32 32 u21)),(6,.ext (.ints .i64 u22)),(7,.ext (.frs .f32 32 u23)),(8,.xext (XC.rr (4:Nat) u24)),(9,.ext (.ints .i64 u25)),(11,.ext (.ints .i64 u11)),(12,.ext (.ints .i64 u10)),(13,.ext (.ints .i64 u9)),(14,.ext (.recs 5 u13)),(0,.xext (XC.st [NK.s,NK.i .i64,NK.ints .i64,NK.ints .i64,NK.ints .i64,NK.i .i64,NK.recs (5:Nat),NK.i .i64] u17)),(1,.ext (.ints .i64 u18))],18⟩,fun z=>(jgO u16 u17 u18 u15 u19 u20 u21 u22 u23 u24 u25 u12 u6 u11 u10 u9 u7 u13 u14 u42 u43 r).inv z,fun z=>Prod.snd z⟩
 |_=>none) (ja5 jeo [.d (.s u16),.x (.st [.s,.i .i64,.ints .i64,.ints .i64,.ints .i64,.i .i64,.recs 5,.i .i64] u17),.r (.ints .i64 u18),.d (.i .i64 u15),.x (.ff .f32 u19),.x (.rr 4 u20),.r (.frs .f32 32 u21),.r (.ints .i64 u22),.r (.frs .f32 32 u23),.x (.rr 4 u24),.r (.ints .i64 u25),.d (.s u12),.d (.i .i64 u6),.r (.ints .i64 u11),.r (.ints .i64 u10),.r (.ints .i64 u9),.d (.i .i64 u7),.r (.recs 5 u13),.d (.i .i64 u14),.d (.i .i64 u42),.d (.i .i64 u43)]) [.s [.d (.i .i64 r.1),.d (.i .i64 r.2.1),.d (.i .i64 r.2.2.1),.d (.i .i64 r.2.2.2.1),.d (.i .i64 r.2.2.2.2.1),.d (.i .i64 r.2.2.2.2.2.1),.d (.i .i64 r.2.2.2.2.2.2.1),.d (.i .i64 r.2.2.2.2.2.2.2.1),.d (.i .i64 r.2.2.2.2.2.2.2.2.1),.d (.i .i64 r.2.2.2.2.2.2.2.2.2.1),.d (.i .i64 r.2.2.2.2.2.2.2.2.2.2.1),.d (.i .i64 r.2.2.2.2.2.2.2.2.2.2.2.1),.d (.i .i64 r.2.2.2.2.2.2.2.2.2.2.2.2.1),.d (.i .i64 r.2.2.2.2.2.2.2.2.2.2.2.2.2.1),.d (.i .i64 r.2.2.2.2.2.2.2.2.2.2.2.2.2.2.1),.d (.i .i64 r.2.2.2.2.2.2.2.2.2.2.2.2.2.2.2.1),.d (.i .i64 r.2.2.2.2.2.2.2.2.2.2.2.2.2.2.2.2.1),.d (.i .i64 r.2.2.2.2.2.2.2.2.2.2.2.2.2.2.2.2.2.1),.d (.i .i64 r.2.2.2.2.2.2.2.2.2.2.2.2.2.2.2.2.2.2.1),.d (.i .i64 r.2.2.2.2.2.2.2.2.2.2.2.2.2.2.2.2.2.2.2.1),.d (.i .i64 r.2.2.2.2.2.2.2.2.2.2.2.2.2.2.2.2.2.2.2.2.1),.d (.i .i64 r.2.2.2.2.2.2.2.2.2.2.2.2.2.2.2.2.2.2.2.2.2.1),.d (.i .i64 r.2.2.2.2.2.2.2.2.2.2.2.2.2.2.2.2.2.2.2.2.2.2.1),.d (.i .i64 r.2.2.2.2.2.2.2.2.2.2.2.2.2.2.2.2.2.2.2.2.2.2.2.1),.d (.i .i64 r.2.2.2.2.2.2.2.2.2.2.2.2.2.2.2.2.2.2.2.2.2.2.2.2.1),.d (.i .i64 r.2.2.2.2.2.2.2.2.2.2.2.2.2.2.2.2.2.2.2.2.2.2.2.2.2.1),.d (.i .i64 r.2.2.2.2.2.2.2.2.2.2.2.2.2.2.2.2.2.2.2.2.2.2.2.2.2.2.1),.d (.i .i64 r.2.2.2.2.2.2.2.2.2.2.2.2.2.2.2.2.2.2.2.2.2.2.2.2.2.2.2.1),.d (.i .i64 r.2.2.2.2.2.2.2.2.2.2.2.2.2.2.2.2.2.2.2.2.2.2.2.2.2.2.2.2.1),.d (.i .i64 r.2.2.2.2.2.2.2.2.2.2.2.2.2.2.2.2.2.2.2.2.2.2.2.2.2.2.2.2.2.1),.d (.i .i64 r.2.2.2.2.2.2.2.2.2.2.2.2.2.2.2.2.2.2.2.2.2.2.2.2.2.2.2.2.2.2.1),.d (.i .i64 r.2.2.2.2.2.2.2.2.2.2.2.2.2.2.2.2.2.2.2.2.2.2.2.2.2.2.2.2.2.2.2)]] :=
 Sk.vc (joz u16 u17 u18 u15 u19 u20 u21 u22 u23 u24 u25 u12 u6 u11 u10 u9 u7 u13 u14 u42 u43 r) (by kernel_rfl) h
theorem jna:jaf Tryz.prog 148 true (jak jeo jep):=by
 refine jay (sp:=(sp_149 sp0)) (fn:=Tryz.f148) (body:=bodyOf Tryz.f148) mixed (sp_149_ok jau) Tryz.func148 (by kernel_rfl) (by kernel_rfl) fun ls t h ho b hb=>?_
 unfold jep at h
 split at h
 ·rename_i u16 u17 u18 u15 u19 u20 u21 u22 u23 u24 u25 u12 u6 u11 u10 u9 u7 u13 u14 u42 u43
  cases h
  obtain rfl:=jaL hb
  exact⟨Nat.le_of_ble_eq_true (by kernel_rfl),_,_,jm9 u16 u17 u18 u15 u19 u20 u21 u22 u23 u24 u25 u12 u6 u11 u10 u9 u7 u13 u14 u42 u43 _ (jap ho)⟩
 ·cases h
end Go.Sh
end

section
namespace Go.Sh
open Go Go.Proofs Go.RowKit Go.Sx
open Go.IntKind (wrap)
def jeq:List SV:=[.c (.p [.p [.d,.x (.st [.s,.i .i64,.ints .i64,.ints .i64,.ints .i64,.i .i64,.recs 5,.i .i64] []),.r (.ints .i64 [])],.d,.x (.ff .f32 []),.x (.rr 4 []),.r (.frs .f32 32 []),.r (.ints .i64 []),.r (.frs .f32 32 []),.x (.rr 4 []),.r (.ints .i64 [])])]
def jgP (u16:ByteArray) (u17:List (List NC)) (u18:List Int) (u15:Int) (u19:List (List Nat)) (u20:List (List (List Int))) (u21:List (List Nat)) (u22:List Int) (u23:List (List Nat)) (u24:List (List (List Int))) (u25:List Int) (x0:Int × List (List Nat)) (x1:(Int × List Nat)):Option ((Int × List Nat) ⊕ (List Nat)) :=
 if x1.1<32 then
  Option.bind (jpA u16 u17 u18 u15 u19 u20 u21 u22 u23 u24 u25 x0.1 x1.1) fun r0 =>
  if(List.length x1.2+List.length [FloatKind.nearest .f32 r0])*4≤140737488355328∧List.length x1.2+List.length [FloatKind.nearest .f32 r0]≤9223372036854775807 then
  some (.inl ((wrap .i64 (x1.1+1),x1.2++[FloatKind.nearest .f32 r0])))
  else none
 else
  some (.inr x1.2)
def jgQ (x0:Int × List (List Nat)) (u26:List Nat):Option ((Int × List (List Nat)) ⊕ (List (List Nat))) :=
 if(List.length x0.2+List.length (List.map (fun r=>NC.toFlts (List.headD r (NC.d (D.v undef)))) [[NC.r (Cont.floats .f32 u26)]]))*24≤140737488355328∧List.length x0.2+List.length (List.map (fun r=>NC.toFlts (List.headD r (NC.d (D.v undef)))) [[NC.r (Cont.floats .f32 u26)]])≤9223372036854775807 then
  some (.inl ((wrap .i64 (x0.1+1),x0.2++List.map (fun r=>NC.toFlts (List.headD r (NC.d (D.v undef)))) [[NC.r (Cont.floats .f32 u26)]])))
 else none
def jdP (u16:ByteArray) (u17:List (List NC)) (u18:List Int) (u15:Int) (u19:List (List Nat)) (u20:List (List (List Int))) (u21:List (List Nat)) (u22:List Int) (u23:List (List Nat)) (u24:List (List (List Int))) (u25:List Int) (x0:(Int × List (List Nat))):Option ((Int × List (List Nat)) ⊕ (List (List Nat))) :=
 if x0.1<(↑(List.length u17):Int)then
  Option.bind (jah (jgP u16 u17 u18 u15 u19 u20 u21 u22 u23 u24 u25 x0) big (((-96:Int),[]))) (jgQ x0)
 else
  some (.inr x0.2)
def jdQ (u15:Int) (u4:List (List Nat)):Option (Int × List (List Nat)) :=
 some ((wrap .i64 (u15+1),u4))
def jb5 (u16:ByteArray) (u17:List (List NC)) (u18:List Int) (u15:Int) (u19:List (List Nat)) (u20:List (List (List Int))) (u21:List (List Nat)) (u22:List Int) (u23:List (List Nat)) (u24:List (List (List Int))) (u25:List Int):Option (Int × List (List Nat)) :=
 Option.bind (jah (jdP u16 u17 u18 u15 u19 u20 u21 u22 u23 u24 u25) big (((0:Int),[]))) (jdQ u15)
def jer:List Lf→Option GT
 |[.d (.s u16),.x (.st [.s,.i .i64,.ints .i64,.ints .i64,.ints .i64,.i .i64,.recs 5,.i .i64] u17),.r (.ints .i64 u18),.d (.i .i64 u15),.x (.ff .f32 u19),.x (.rr 4 u20),.r (.frs .f32 32 u21),.r (.ints .i64 u22),.r (.frs .f32 32 u23),.x (.rr 4 u24),.r (.ints .i64 u25)]=>some (.leaf (ok (jb5 u16 u17 u18 u15 u19 u20 u21 u22 u23 u24 u25)) [.s [.d (.i .i64 ((val (jb5 u16 u17 u18 u15 u19 u20 u21 u22 u23 u24 u25)).1)),.x 157 (.ff .f32 ((val (jb5 u16 u17 u18 u15 u19 u20 u21 u22 u23 u24 u25)).2)),.g 8]])
 |_=>none
abbrev jdR (u16:ByteArray) (u17:List (List NC)) (u18:List Int) (u15:Int) (u19:List (List Nat)) (u20:List (List (List Int))) (u21:List (List Nat)) (u22:List Int) (u23:List (List Nat)) (u24:List (List (List Int))) (u25:List Int) (r:Int × List (List Nat)):Lp ((Int × List (List Nat)) × Nat) ((Int × List (List Nat))) ((List (List Nat))) ((Int × List (List Nat))) (Int × List (List Nat)) :=
 ⟨fun z=>Prod.fst z,fun z=>Prod.snd z,fun z x n=>(x,n),fun z=>jdP u16 u17 u18 u15 u19 u20 u21 u22 u23 u24 u25,fun z=>jdQ u15,fun z=>top r,fun z=>0,[.c fun _=>0,.c fun _=>0,.c fun _=>0,.c fun _=>(↑(List.length u17):Int),.c fun vv=>vv.1.1,.c fun _=>0,.c fun _=>u15,.c fun _=>(0:Int),.c fun _=>Value.slice none (0:Nat) (0:Nat),.c fun _=>Value.slice none (0:Nat) (0:Nat),.c fun _=>wrap .i64 (u15+1),.c fun _=>u16,.c fun _=>u19,.c fun _=>u20,.c fun _=>u21,.c fun _=>u22,.c fun _=>u23,.c fun _=>u24,.c fun _=>u25,.c fun vv=>vv.1.2,.c fun _=>u17,.c fun _=>u18]⟩
abbrev jgR (u16:ByteArray) (u17:List (List NC)) (u18:List Int) (u15:Int) (u19:List (List Nat)) (u20:List (List (List Int))) (u21:List (List Nat)) (u22:List Int) (u23:List (List Nat)) (u24:List (List (List Int))) (u25:List Int) (r:Int × List (List Nat)) (m1:Nat):Lp ((Int × List (List Nat)) × Nat × (Int × List Nat) × Nat) (Int × List Nat) (List Nat) (((Int × List (List Nat)) ⊕ (List (List Nat)))) (Int × List (List Nat)) :=
 ⟨fun z=>Prod.fst (Prod.snd (Prod.snd z)),fun z=>Prod.snd (Prod.snd (Prod.snd z)),fun z x n=>(Prod.fst z,Prod.fst (Prod.snd z),x,n),fun z=>jgP u16 u17 u18 u15 u19 u20 u21 u22 u23 u24 u25 (Prod.fst z),fun z=>jgQ (Prod.fst z),fun z=>(jdR u16 u17 u18 u15 u19 u20 u21 u22 u23 u24 u25 r).cx (Prod.fst z,m1),fun z=>Prod.fst (Prod.snd z),[.c fun _=>0,.c fun _=>0,.c fun _=>0,.c fun vv=>vv.1.1,.c fun vv=>vv.2.2.1.1,.c fun _=>(↑(List.length u17):Int),.c fun vv=>vv.1.1,.c fun _=>0,.c fun _=>u15,.c fun _=>(0:Int),.c fun _=>Value.slice none (0:Nat) (0:Nat),.c fun _=>Value.slice none (0:Nat) (0:Nat),.c fun _=>wrap .i64 (u15+1),.c fun vv=>vv.2.2.1.2,.c fun _=>u16,.c fun _=>u19,.c fun _=>u20,.c fun _=>u21,.c fun _=>u22,.c fun _=>u23,.c fun _=>u24,.c fun _=>u25,.c fun vv=>vv.1.2,.c fun _=>u17,.c fun _=>u18]⟩
def jnb (u16:ByteArray) (u17:List (List NC)) (u18:List Int) (u15:Int) (u19:List (List Nat)) (u20:List (List (List Int))) (u21:List (List Nat)) (u22:List Int) (u23:List (List Nat)) (u24:List (List (List Int))) (u25:List Int) (r:Int × List (List Nat)):Sk (top r) (Option.bind (jah (jdP u16 u17 u18 u15 u19 u20 u21 u22 u23 u24 u25) big (((0:Int),[]))) (jdQ u15)) :=
 .loopQ (jdR u16 u17 u18 u15 u19 u20 u21 u22 u23 u24 u25 r) [.c fun _=>0,.c fun _=>0,.c fun _=>0,.c fun _=>(↑(List.length u17):Int),.c fun vv=>vv.1.1,.c fun _=>0,.c fun _=>u15,.c fun _=>(0:Int),.c fun _=>Value.slice none (0:Nat) (0:Nat),.c fun _=>Value.slice none (0:Nat) (0:Nat),.c fun _=>wrap .i64 (u15+1),.c fun _=>u16,.c fun _=>u19,.c fun _=>u20,.c fun _=>u21,.c fun _=>u22,.c fun _=>u23,.c fun _=>u24,.c fun _=>u25,.p fun vv=>List.length vv.1.2=(0:Nat),.c fun _=>u17,.c fun _=>u18] (fun kk=>(((0:Int),[]),big)) (fun z0 =>
 .br
 (.loopQ (jgR u16 u17 u18 u15 u19 u20 u21 u22 u23 u24 u25 r (Prod.snd z0)) [.c fun _=>0,.c fun _=>0,.c fun _=>0,.c fun vv=>vv.1.1,.c fun vv=>vv.2.2.1.1,.c fun _=>(↑(List.length u17):Int),.c fun vv=>vv.1.1,.c fun _=>0,.c fun _=>u15,.c fun _=>(0:Int),.c fun _=>Value.slice none (0:Nat) (0:Nat),.c fun _=>Value.slice none (0:Nat) (0:Nat),.c fun _=>wrap .i64 (u15+1),.p fun vv=>List.length vv.2.2.1.2=(0:Nat),.c fun _=>u16,.c fun _=>u19,.c fun _=>u20,.c fun _=>u21,.c fun _=>u22,.c fun _=>u23,.c fun _=>u24,.c fun _=>u25,.c fun vv=>vv.1.2,.c fun _=>u17,.c fun _=>u18] (fun kk=>(Prod.fst z0,kk,((-96:Int),[]),big)) (fun z1 =>
 .br
 (.call (.obT (.ob (.next))))
 (.exit (.ob (.next)))) (fun _=>⟨rfl,trivial⟩))
 (.exit (.obT (.rc)))) (fun _=>⟨rfl,trivial⟩)
def joA (u16:ByteArray) (u17:List (List NC)) (u18:List Int) (u15:Int) (u19:List (List Nat)) (u20:List (List (List Int))) (u21:List (List Nat)) (u22:List Int) (u23:List (List Nat)) (u24:List (List (List Int))) (u25:List Int) (r:Int × List (List Nat)):Sk (top r) (jb5 u16 u17 u18 u15 u19 u20 u21 u22 u23 u24 u25) :=
 .obT (.obT (.obT (.obT (jnb u16 u17 u18 u15 u19 u20 u21 u22 u23 u24 u25 r))))
theorem jnc (u16:ByteArray) (u17:List (List NC)) (u18:List Int) (u15:Int) (u19:List (List Nat)) (u20:List (List (List Int))) (u21:List (List Nat)) (u22:List Int) (u23:List (List Nat)) (u24:List (List (List Int))) (u25:List Int) (r:Int × List (List Nat)) (h:Option.bind (jb5 u16 u17 u18 u15 u19 u20 u21 u22 u23 u24 u25) some=some r):jbb Tryz.f106 ((sp_149 sp0)) (fun gs id _=>match id with
 |0=>some ⟨(Int × List (List Nat)) × Nat,fun z=>⟨[(0,.w (.c (.p 10 0 1 0))),(2,.w (.c (.p 11 0 1 0))),(3,.w (.c (.p 12 0 1 0))),(26,.w (.c (.d (.i .i64 ((↑(List.length u17):Int)))))),(27,.w (.c (.d (.i .i64 (Prod.fst (Prod.fst z))))))],[(10,.ebox [.p 2 0 1 0,.d (.i .i64 u15),.o 3,.o 4,.o 5,.o 6,.o 7,.o 8,.o 9]),(11,.box 78 [.d (.i .i64 0),.d (.v (Value.slice none (0:Nat) (0:Nat))),.d (.v (Value.slice none (0:Nat) (0:Nat)))]),(12,.box 78 [.d (.i .i64 (wrap .i64 (u15+1))),.o 13,.o 8]),(2,.ebox [.d (.s u16),.o 0,.o 1]),(3,.xext (XC.ff .f32 u19)),(4,.xext (XC.rr (4:Nat) u20)),(5,.ext (.frs .f32 32 u21)),(6,.ext (.ints .i64 u22)),(7,.ext (.frs .f32 32 u23)),(8,.xext (XC.rr (4:Nat) u24)),(9,.ext (.ints .i64 u25)),(13,.xrow 157 (XC.ff .f32 (Prod.snd (Prod.fst z)))),(0,.xext (XC.st [NK.s,NK.i .i64,NK.ints .i64,NK.ints .i64,NK.ints .i64,NK.i .i64,NK.recs (5:Nat),NK.i .i64] u17)),(1,.ext (.ints .i64 u18))],14⟩,fun z=>(jdR u16 u17 u18 u15 u19 u20 u21 u22 u23 u24 u25 r).inv z,fun z=>Prod.snd z⟩
 |2=>some ⟨(Int × List (List Nat)) × Nat × (Int × List Nat) × Nat,fun z=>⟨[(0,.w (.c (.p 10 0 1 0))),(2,.w (.c (.p 11 0 1 0))),(3,.w (.c (.p 12 0 1 0))),(4,.w (.c (.d (.i .i64 ((Prod.fst z).1))))),(5,.w (.c (.o 13))),(6,.w (.c (.d (.i .i64 (Prod.fst (Prod.fst (Prod.snd (Prod.snd z)))))))),(26,.w (.c (.d (.i .i64 ((↑(List.length u17):Int)))))),(27,.w (.c (.d (.i .i64 ((Prod.fst z).1)))))],[(10,.ebox [.p 2 0 1 0,.d (.i .i64 u15),.o 3,.o 4,.o 5,.o 6,.o 7,.o 8,.o 9]),(11,.box 78 [.d (.i .i64 0),.d (.v (Value.slice none (0:Nat) (0:Nat))),.d (.v (Value.slice none (0:Nat) (0:Nat)))]),(12,.box 78 [.d (.i .i64 (wrap .i64 (u15+1))),.o 14,.o 8]),(13,.row 108 (.floats .f32 (Prod.snd (Prod.fst (Prod.snd (Prod.snd z)))))),(2,.ebox [.d (.s u16),.o 0,.o 1]),(3,.xext (XC.ff .f32 u19)),(4,.xext (XC.rr (4:Nat) u20)),(5,.ext (.frs .f32 32 u21)),(6,.ext (.ints .i64 u22)),(7,.ext (.frs .f32 32 u23)),(8,.xext (XC.rr (4:Nat) u24)),(9,.ext (.ints .i64 u25)),(14,.xrow 157 (XC.ff .f32 (Prod.fst z).2)),(0,.xext (XC.st [NK.s,NK.i .i64,NK.ints .i64,NK.ints .i64,NK.ints .i64,NK.i .i64,NK.recs (5:Nat),NK.i .i64] u17)),(1,.ext (.ints .i64 u18))],15⟩,fun z=>(jgR u16 u17 u18 u15 u19 u20 u21 u22 u23 u24 u25 r (gs.getD 0 0)).inv z,fun z=>Prod.snd (Prod.snd (Prod.snd z))⟩
 |_=>none) (ja5 jeq [.d (.s u16),.x (.st [.s,.i .i64,.ints .i64,.ints .i64,.ints .i64,.i .i64,.recs 5,.i .i64] u17),.r (.ints .i64 u18),.d (.i .i64 u15),.x (.ff .f32 u19),.x (.rr 4 u20),.r (.frs .f32 32 u21),.r (.ints .i64 u22),.r (.frs .f32 32 u23),.x (.rr 4 u24),.r (.ints .i64 u25)]) [.s [.d (.i .i64 r.1),.x 157 (.ff .f32 r.2),.g 8]] :=
 Sk.vc (joA u16 u17 u18 u15 u19 u20 u21 u22 u23 u24 u25 r) (by kernel_rfl) h
theorem jnd:jaf Tryz.prog 106 true (jak jeq jer):=by
 refine jay (sp:=(sp_149 sp0)) (fn:=Tryz.f106) (body:=bodyOf Tryz.f106) mixed (sp_149_ok jau) Tryz.func106 (by kernel_rfl) (by kernel_rfl) fun ls t h ho b hb=>?_
 unfold jer at h
 split at h
 ·rename_i u16 u17 u18 u15 u19 u20 u21 u22 u23 u24 u25
  cases h
  obtain rfl:=jaL hb
  exact⟨Nat.le_of_ble_eq_true (by kernel_rfl),_,_,jnc u16 u17 u18 u15 u19 u20 u21 u22 u23 u24 u25 _ (jap ho)⟩
 ·cases h
end Go.Sh
end

section
namespace Go.Sh
open Go Go.Proofs Go.RowKit Go.Sx
def jgS:List Lf→Option (List RR)
 |[.d (.i .i64 l0),.d (.i .i64 l1),.d (.i .i64 l2),.d (.i .i64 l3),.d (.i .i64 l4),.d (.i .i64 l5),.d (.i .i64 l6),.d (.i .i64 l7),.d (.i .i64 l8),.d (.i .i64 l9),.d (.i .i64 l10),.d (.i .i64 l11),.d (.i .i64 l12),.d (.i .i64 l13),.d (.i .i64 l14),.d (.i .i64 l15),.d (.i .i64 l16),.d (.i .i64 l17),.d (.i .i64 l18),.d (.i .i64 l19),.d (.i .i64 l20),.d (.i .i64 l21),.d (.i .i64 l22),.d (.i .i64 l23),.d (.i .i64 l24),.d (.i .i64 l25),.d (.i .i64 l26),.d (.i .i64 l27),.d (.i .i64 l28),.d (.i .i64 l29),.d (.i .i64 l30),.d (.i .i64 l31)]=>match jfs l0 l1 l2 l3 l4 l5 l6 l7 l8 l9 l10 l11 l12 l13 l14 l15 l16 l17 l18 l19 l20 l21 l22 l23 l24 l25 l26 l27 l28 l29 l30 l31 with
  |some v=>some [.b .f32 32 (v)]
  |none=>none
 |_=>none
theorem joB:∀ls rs,jgS ls=some rs→∃t,jhm ls=some t∧t.sel.2=rs∧t.sel.1:=by
 intro ls rs h
 unfold jgS at h
 split at h
 ·split at h
  ·rename_i v hv
   cases h
   exact⟨_,rfl,by simp only[GT.sel,hv]; rfl,jfZ hv⟩
  ·cases h
 ·cases h
def jdS:List Lf→Option (List RR)
 |[.d (.s r_graphEngineGraphName),.x (.st [.s,.i .i64,.ints .i64,.ints .i64,.ints .i64,.i .i64,.recs 5,.i .i64] r_graphEngineGraphUnits),.r (.ints .i64 r_graphorder),.d (.i .i64 r_beforeBlocks),.x (.ff .f32 r_beforePast),.x (.rr 4 r_beforeFilters),.r (.frs .f32 32 r_in),.r (.ints .i64 r_who),.r (.frs .f32 32 r_given),.x (.rr 4 r_after),.r (.ints .i64 r_cuts),.d (.s uName),.d (.i .i64 uKind),.r (.ints .i64 uFrom),.r (.ints .i64 uAlign),.r (.ints .i64 uGains),.d (.i .i64 uDelay),.r (.recs 5 uCascade),.d (.i .i64 uStand),.d (.i .i64 from_),.d (.i .i64 later)]=>match jag r_graphEngineGraphName r_graphEngineGraphUnits r_graphorder r_beforeBlocks r_beforePast r_beforeFilters r_in r_who r_given r_after r_cuts uName uKind uFrom uAlign uGains uDelay uCascade uStand from_ later with
  |some v=>some [.s [.d (.i .i64 (v.1)),.d (.i .i64 (v.2.1)),.d (.i .i64 (v.2.2.1)),.d (.i .i64 (v.2.2.2.1)),.d (.i .i64 (v.2.2.2.2.1)),.d (.i .i64 (v.2.2.2.2.2.1)),.d (.i .i64 (v.2.2.2.2.2.2.1)),.d (.i .i64 (v.2.2.2.2.2.2.2.1)),.d (.i .i64 (v.2.2.2.2.2.2.2.2.1)),.d (.i .i64 (v.2.2.2.2.2.2.2.2.2.1)),.d (.i .i64 (v.2.2.2.2.2.2.2.2.2.2.1)),.d (.i .i64 (v.2.2.2.2.2.2.2.2.2.2.2.1)),.d (.i .i64 (v.2.2.2.2.2.2.2.2.2.2.2.2.1)),.d (.i .i64 (v.2.2.2.2.2.2.2.2.2.2.2.2.2.1)),.d (.i .i64 (v.2.2.2.2.2.2.2.2.2.2.2.2.2.2.1)),.d (.i .i64 (v.2.2.2.2.2.2.2.2.2.2.2.2.2.2.2.1)),.d (.i .i64 (v.2.2.2.2.2.2.2.2.2.2.2.2.2.2.2.2.1)),.d (.i .i64 (v.2.2.2.2.2.2.2.2.2.2.2.2.2.2.2.2.2.1)),.d (.i .i64 (v.2.2.2.2.2.2.2.2.2.2.2.2.2.2.2.2.2.2.1)),.d (.i .i64 (v.2.2.2.2.2.2.2.2.2.2.2.2.2.2.2.2.2.2.2.1)),.d (.i .i64 (v.2.2.2.2.2.2.2.2.2.2.2.2.2.2.2.2.2.2.2.2.1)),.d (.i .i64 (v.2.2.2.2.2.2.2.2.2.2.2.2.2.2.2.2.2.2.2.2.2.1)),.d (.i .i64 (v.2.2.2.2.2.2.2.2.2.2.2.2.2.2.2.2.2.2.2.2.2.2.1)),.d (.i .i64 (v.2.2.2.2.2.2.2.2.2.2.2.2.2.2.2.2.2.2.2.2.2.2.2.1)),.d (.i .i64 (v.2.2.2.2.2.2.2.2.2.2.2.2.2.2.2.2.2.2.2.2.2.2.2.2.1)),.d (.i .i64 (v.2.2.2.2.2.2.2.2.2.2.2.2.2.2.2.2.2.2.2.2.2.2.2.2.2.1)),.d (.i .i64 (v.2.2.2.2.2.2.2.2.2.2.2.2.2.2.2.2.2.2.2.2.2.2.2.2.2.2.1)),.d (.i .i64 (v.2.2.2.2.2.2.2.2.2.2.2.2.2.2.2.2.2.2.2.2.2.2.2.2.2.2.2.1)),.d (.i .i64 (v.2.2.2.2.2.2.2.2.2.2.2.2.2.2.2.2.2.2.2.2.2.2.2.2.2.2.2.2.1)),.d (.i .i64 (v.2.2.2.2.2.2.2.2.2.2.2.2.2.2.2.2.2.2.2.2.2.2.2.2.2.2.2.2.2.1)),.d (.i .i64 (v.2.2.2.2.2.2.2.2.2.2.2.2.2.2.2.2.2.2.2.2.2.2.2.2.2.2.2.2.2.2.1)),.d (.i .i64 (v.2.2.2.2.2.2.2.2.2.2.2.2.2.2.2.2.2.2.2.2.2.2.2.2.2.2.2.2.2.2.2))]]
  |none=>none
 |_=>none
theorem jjQ:∀ls rs,jdS ls=some rs→∃t,jep ls=some t∧t.sel.2=rs∧t.sel.1:=by
 intro ls rs h
 unfold jdS at h
 split at h
 ·split at h
  ·rename_i v hv
   cases h
   exact⟨_,rfl,by simp only[GT.sel,hv]; rfl,jfZ hv⟩
  ·cases h
 ·cases h
def jjq:List Lf→Option (List RR)
 |[.d (.s gName),.x (.st [.s,.i .i64,.ints .i64,.ints .i64,.ints .i64,.i .i64,.recs 5,.i .i64] gUnits),.r (.ints .i64 order),.d (.i .i64 i),.r (.bools placed)]=>match jcP gUnits i placed with
  |some v=>some [.c (.d (.b v))]
  |none=>none
 |_=>none
theorem jqN:∀ls rs,jjq ls=some rs→∃t,jg8 ls=some t∧t.sel.2=rs∧t.sel.1:=by
 intro ls rs h
 unfold jjq at h
 split at h
 ·split at h
  ·rename_i v hv
   cases h
   exact⟨_,rfl,by simp only[GT.sel,hv]; rfl,jfZ hv⟩
  ·cases h
 ·cases h
def jdT:List Lf→Option (List RR)
 |[.d (.s r_graphEngineGraphName),.x (.st [.s,.i .i64,.ints .i64,.ints .i64,.ints .i64,.i .i64,.recs 5,.i .i64] r_graphEngineGraphUnits),.r (.ints .i64 r_graphorder),.d (.i .i64 r_beforeBlocks),.x (.ff .f32 r_beforePast),.x (.rr 4 r_beforeFilters),.r (.frs .f32 32 r_in),.r (.ints .i64 r_who),.r (.frs .f32 32 r_given),.x (.rr 4 r_after),.r (.ints .i64 r_cuts)]=>match jb5 r_graphEngineGraphName r_graphEngineGraphUnits r_graphorder r_beforeBlocks r_beforePast r_beforeFilters r_in r_who r_given r_after r_cuts with
  |some v=>some [.s [.d (.i .i64 (v.1)),.x 157 (.ff .f32 (v.2)),.g 8]]
  |none=>none
 |_=>none
theorem jjR:∀ls rs,jdT ls=some rs→∃t,jer ls=some t∧t.sel.2=rs∧t.sel.1:=by
 intro ls rs h
 unfold jdT at h
 split at h
 ·split at h
  ·rename_i v hv
   cases h
   exact⟨_,rfl,by simp only[GT.sel,hv]; rfl,jfZ hv⟩
  ·cases h
 ·cases h
def jfK:List Lf→Option (List RR)
 |[.r (.ints .i64 l)]=>match jce l with
  |some v=>some [.c (.row 3 (.ints .i64 v))]
  |none=>none
 |_=>none
theorem jne:∀ls rs,jfK ls=some rs→∃t,jen ls=some t∧t.sel.2=rs∧t.sel.1:=by
 intro ls rs h
 unfold jfK at h
 split at h
 ·split at h
  ·rename_i v hv
   cases h
   exact⟨_,rfl,by simp only[GT.sel,hv]; rfl,jfZ hv⟩
  ·cases h
 ·cases h
def jfL:List Lf→Option (List RR)
 |[.r (.recs 5 l)]=>match jdl l with
  |some v=>some [.c (.row 148 (.recs 5 v))]
  |none=>none
 |_=>none
theorem jnf:∀ls rs,jfL ls=some rs→∃t,jgJ ls=some t∧t.sel.2=rs∧t.sel.1:=by
 intro ls rs h
 unfold jfL at h
 split at h
 ·split at h
  ·rename_i v hv
   cases h
   exact⟨_,rfl,by simp only[GT.sel,hv]; rfl,jfZ hv⟩
  ·cases h
 ·cases h
def jfM:List Lf→Option (List RR)
 |[.r (.recs 4 l)]=>match jdm l with
  |some v=>some [.c (.row 174 (.recs 4 v))]
  |none=>none
 |_=>none
theorem jng:∀ls rs,jfM ls=some rs→∃t,jgK ls=some t∧t.sel.2=rs∧t.sel.1:=by
 intro ls rs h
 unfold jfM at h
 split at h
 ·split at h
  ·rename_i v hv
   cases h
   exact⟨_,rfl,by simp only[GT.sel,hv]; rfl,jfZ hv⟩
  ·cases h
 ·cases h
end Go.Sh
end

section
namespace Go.Sh
open Go Go.Proofs Go.RowKit Go.Sx
def jAW:Nat→Bool
 |22|42|75|76|98|138=>true
 |_=>false
abbrev jbj:Globs:={ tab:=fun _=>none,nestL:=jAW }
def xsR:List XC:=[.st [.s,.i .i64,.ints .i64,.ints .i64,.ints .i64,.i .i64,.recs 5,.i .i64] [],.rr 4 [],.ff .f32 []]
noncomputable def ovE:jaa:=fun f=>match f with
 |146=>some (true,jeT [] jhl jgS)
 |148=>some (true,jeT xsR jeo jdS)
 |106=>some (true,jeT xsR jeq jdT)
 |136=>some (true,jeT [] jgI jfK)
 |137=>some (true,jeT [] jlb jfL)
 |144=>some (true,jeT [] jlc jfM)
 |85=>some (true,jeT xsR jkX jjq)
 |_=>none
def roE:Nat→Bool
 |76|77|78|84|160|165|176|177|180|164|175|172|149|122|123|124|125|126|127|128|129|134|140|156|157|158|159|89|24|133|93|94|99|145|146|147|148|104|105|135|136|137|144=>true
 |_=>false
theorem jgT {f:Nat} {xs:List XC} {shs:List SV} {g0:List Lf→Option GT} {g:List Lf→Option (List RR)} (hs:jaf Tryz.prog f true (jak shs g0))
  (hg:∀ls rs,g ls=some rs→∃t,g0 ls=some t∧t.sel.2=rs∧t.sel.1):@jaf jbj Tryz.prog f true (jeT xs shs g) :=
 @jz2 jbj _ _ _ _ _ _ (jp5 globs jbj rfl rfl hs) hg
theorem jxE:@jac jbj Tryz.prog ovE:=fun f M S h=>by
 unfold ovE at h
 split at h<;>cases h
 ·exact jgT jrR joB
 ·exact jgT jna jjQ
 ·exact jgT jnd jjR
 ·exact jgT jjz jne
 ·exact jgT jqI jnf
 ·exact jgT jqJ jng
 ·exact jgT jod jqN
theorem jsw:jbI ovE:=fun f M S args hp nx t h hS=>by
 unfold ovE at h
 split at h<;>cases h<;>exact jxy hS
noncomputable def dpE:jaa:=@jmZ jbj Tryz.prog ovE roE 200 20
theorem jAX:@jac jbj Tryz.prog dpE:=(@jpt jbj _ _ _ _ mixed jxE jsw 20).1
theorem jy3:jbI dpE:=(@jpt jbj _ _ _ _ mixed jxE jsw 20).2
noncomputable def jhb (c:Code) (st:St):Option (Ex × St):=@cx jbj Tryz.prog dpE Tryz.f16.ntmps 200 c st
noncomputable def pcE (n:Nat):Code:=(jha (Tryz.f16.body.getD .skip)).getD n .skip
abbrev aO (h:Nat):V:=.w (.c (.o h))
abbrev aN:C:=.d (.v (.slice none 0 0))
abbrev aI (n:Int):C:=.d (.i .i64 n)
abbrev aR (l:List Int):O:=.row 3 (.ints .i64 l)
abbrev aH0:Nat × O:=(56,aR [0,1,2,3])
abbrev aH1:Nat × O:=(8,(.lbox 118 8 4 [(.d (.s ⟨#[109,105,99]⟩)),(aI 0),aN,aN,aN,(aI 0),aN,(aI (-1)),(.d (.s ⟨#[100]⟩)),(aI 2),(.o 1),(.o 2),aN,(aI 3),aN,(aI (-1)),(.d (.s ⟨#[109,105,120]⟩)),(aI 1),(.o 3),(.o 4),(.o 5),(aI 0),aN,(aI (-1)),(.d (.s ⟨#[111,117,116]⟩)),(aI 4),(.o 6),(.o 7),aN,(aI 0),aN,(aI (-1))]))
abbrev aH2:Nat × O:=(5,aR [500,1000])
abbrev aH3:Nat × O:=(4,aR [0,0])
abbrev aH4:Nat × O:=(3,aR [0,1])
abbrev aH5:Nat × O:=(165,aR [0,2])
abbrev aH6:Nat × O:=(65,(.lbox 118 8 4 [(.d (.s ⟨#[109,105,99]⟩)),(aI 0),aN,aN,aN,(aI 0),aN,(aI (-1)),(.d (.s ⟨#[100]⟩)),(aI 2),(.o 58),(.o 59),aN,(aI 3),aN,(aI (-1)),(.d (.s ⟨#[109,105,120]⟩)),(aI 1),(.o 60),(.o 61),(.o 62),(aI 0),aN,(aI (-1)),(.d (.s ⟨#[111,117,116]⟩)),(aI 4),(.o 63),(.o 64),aN,(aI 0),aN,(aI (-1))]))
abbrev aH7:Nat × O:=(62,aR [500,1000])
abbrev aH8:Nat × O:=(61,aR [0,0])
abbrev aH9:Nat × O:=(60,aR [0,1])
abbrev jsx:Nat × O:=(259,(.box 24 [(.d (.s ⟨#[112]⟩)),(.o 240)]))
abbrev jsy:Nat × O:=(254,aR [0])
abbrev jsz:Nat × O:=(250,aR [3,0])
abbrev jsA:Nat × O:=(246,aR [0])
abbrev jsB:Nat × O:=(240,(.lbox 118 8 4 [(.d (.s ⟨#[109,105,99]⟩)),(aI 0),(.o 241),(.o 242),(.o 243),(aI 0),(.o 244),(aI (-1)),(.d (.s ⟨#[100]⟩)),(aI 2),(.o 245),(.o 246),(.o 247),(aI 3),(.o 248),(aI (-1)),(.d (.s ⟨#[109,105,120]⟩)),(aI 1),(.o 249),(.o 250),(.o 251),(aI 0),(.o 252),(aI (-1)),(.d (.s ⟨#[111,117,116]⟩)),(aI 4),(.o 253),(.o 254),(.o 255),(aI 0),(.o 256),(aI (-1))]))
abbrev jsC:Nat × O:=(256,(.row 148 (.recs 5 [])))
abbrev jsD:Nat × O:=(253,aR [2])
abbrev jsE:Nat × O:=(252,(.row 148 (.recs 5 [])))
abbrev jsF:Nat × O:=(251,aR [500,1000])
abbrev jsG:Nat × O:=(249,aR [0,1])
abbrev jsH:Nat × O:=(248,(.row 148 (.recs 5 [])))
abbrev jsI:Nat × O:=(245,aR [0])
abbrev jsJ:Nat × O:=(244,(.row 148 (.recs 5 [])))
abbrev jsK:Nat × O:=(187,(.lbox 118 8 4 [(.d (.s ⟨#[109,105,99]⟩)),(aI 0),aN,aN,aN,(aI 0),aN,(aI (-1)),(.d (.s ⟨#[100]⟩)),(aI 2),(.o 180),(.o 181),aN,(aI 3),aN,(aI (-1)),(.d (.s ⟨#[109,105,120]⟩)),(aI 1),(.o 182),(.o 183),(.o 184),(aI 0),aN,(aI (-1)),(.d (.s ⟨#[111,117,116]⟩)),(aI 4),(.o 185),(.o 186),aN,(aI 0),aN,(aI (-1))]))
abbrev jsL:Nat × O:=(186,aR [0])
abbrev jsM:Nat × O:=(185,aR [2])
abbrev jsN:Nat × O:=(184,aR [500,1000])
abbrev jsO:Nat × O:=(183,aR [0,0])
abbrev jsP:Nat × O:=(182,aR [0,1])
abbrev jsQ:Nat × O:=(181,aR [0])
abbrev jsR:Nat × O:=(180,aR [0])
abbrev aH31:Nat × O:=(351,aR [0,3,3,3])
abbrev aH32:Nat × O:=(428,(.lbox 79 1 1 [(.o 497)]))
abbrev aH33:Nat × O:=(497,(.row 110 (.frs .f32 32 [[1112276992,0,0,1120534528,0,0,0,0,0,0,0,0,0,0,0,0,0,0,0,0,0,0,0,0,0,0,0,0,0,0,0,0]])))
abbrev aH34:Nat × O:=(364,(.lbox 79 1 1 [(.o 363)]))
abbrev aH35:Nat × O:=(363,(.row 110 (.frs .f32 32 [[1120534528,0,0,0,0,0,0,0,0,0,0,0,0,0,0,0,0,0,0,0,0,0,0,0,0,0,0,0,0,0,0,0]])))
abbrev aH36:Nat × O:=(360,(.lbox 118 8 4 [(.d (.s ⟨#[109,105,99]⟩)),(aI 0),aN,aN,aN,(aI 0),aN,(aI (-1)),(.d (.s ⟨#[100]⟩)),(aI 2),(.o 353),(.o 354),aN,(aI 3),aN,(aI (-1)),(.d (.s ⟨#[109,105,120]⟩)),(aI 1),(.o 355),(.o 356),(.o 357),(aI 0),aN,(aI (-1)),(.d (.s ⟨#[111,117,116]⟩)),(aI 4),(.o 358),(.o 359),aN,(aI 0),aN,(aI (-1))]))
abbrev aH37:Nat × O:=(359,aR [0])
abbrev aH38:Nat × O:=(358,aR [2])
abbrev aH39:Nat × O:=(357,aR [500,1000])
abbrev aH40:Nat × O:=(356,aR [0,0])
abbrev aH41:Nat × O:=(355,aR [0,1])
abbrev aH42:Nat × O:=(354,aR [0])
abbrev aH43:Nat × O:=(353,aR [0])
abbrev aH44:Nat × O:=(501,aR [0,3,3,3])
abbrev aH45:Nat × O:=(500,aR [0,2])
abbrev aH46:Nat × O:=(499,aR [0,1,2,3])
abbrev awT0:List (Nat × V):=[]
def awS0:St:=⟨awT0,[],0⟩
abbrev awT1:List (Nat × V):=(0,(vb false))::[]
def awS1:St:=⟨awT1,[],0⟩
abbrev awT2:List (Nat × V):=(2,(vi .i64 0))::(1,(aO 56))::(16,(vi .i64 0))::(15,(aO 56))::(12,(.t [(.c (.o 56)),(.c (aI 0))]))::(14,(.t [(.c (.o 56)),(.c (aI 0))]))::(13,(.w (.a [(.d (.s ⟨#[112]⟩)),(.o 8)])))::awT1
def awS2:St:=⟨awT2,[aH0,aH1,(7,aR [0]),(6,aR [2]),aH2,aH3,aH4,(2,aR [0]),(1,aR [0])],57⟩
abbrev awT3:List (Nat × V):=(4,(vi .i64 0))::(3,(aO 165))::(21,(vi .i64 0))::(20,(aO 165))::(17,(.t [(.c (.o 165)),(.c (aI 0))]))::(19,(.t [(.c (.o 165)),(.c (aI 0))]))::(18,(.w (.a [(.d (.s ⟨#[112]⟩)),(.o 65)])))::awT2
def awS3:St:=⟨awT3,[aH5,aH6,(64,aR [0]),(63,aR [2]),aH7,aH8,aH9,(59,aR [0]),(58,aR [0]),aH0,aH1,(7,aR [0]),(6,aR [2]),aH2,aH3,aH4,(2,aR [0]),(1,aR [0])],179⟩
abbrev awT4:List (Nat × V):=(6,(vi .i64 0))::(5,(.w (.c (.p 259 0 1 0))))::(26,(vi .i64 0))::(25,(.w (.a [(.d (.s ⟨#[112]⟩)),(.o 240)])))::(22,(.t [(.a [(.d (.s ⟨#[112]⟩)),(.o 240)]),(.c (aI 0))]))::(24,(.t [(.a [(.d (.s ⟨#[112]⟩)),(.o 240)]),(.c (aI 0))]))::(23,(.w (.a [(.d (.s ⟨#[112]⟩)),(.o 187)])))::awT3
def awS4:St:=⟨awT4,[jsx,jsy,jsz,jsA,jsB,jsC,(255,aR []),jsD,jsE,jsF,jsG,jsH,(247,aR []),jsI,jsJ,(243,aR []),(242,aR []),(241,aR []),jsK,jsL,jsM,jsN,jsO,jsP,jsQ,jsR,aH5,aH6,(64,aR [0]),(63,aR [2]),aH7,aH8,aH9,(59,aR [0]),(58,aR [0]),aH0,aH1,(7,aR [0]),(6,aR [2]),aH2,aH3,aH4,(2,aR [0]),(1,aR [0])],260⟩
abbrev awT5:List (Nat × V):=(8,(vi .i64 0))::(7,(aO 351))::(31,(vi .i64 0))::(30,(aO 351))::(27,(.t [(.c (.o 351)),(.c (aI 0))]))::(29,(.t [(.c (.o 351)),(.c (aI 0))]))::(28,(.w (.a [(.d (.s ⟨#[112]⟩)),(.o 240)])))::awT4
def awS5:St:=⟨awT5,[aH31,jsx,jsy,jsz,jsA,jsB,jsC,(255,aR []),jsD,jsE,jsF,jsG,jsH,(247,aR []),jsI,jsJ,(243,aR []),(242,aR []),(241,aR []),jsK,jsL,jsM,jsN,jsO,jsP,jsQ,jsR,aH5,aH6,(64,aR [0]),(63,aR [2]),aH7,aH8,aH9,(59,aR [0]),(58,aR [0]),aH0,aH1,(7,aR [0]),(6,aR [2]),aH2,aH3,aH4,(2,aR [0]),(1,aR [0])],352⟩
abbrev awT6:List (Nat × V):=(11,(vi .i64 0))::(10,(vi .i64 0))::(9,(aO 428))::(40,(vi .i64 0))::(39,(vi .i64 0))::(38,(aO 428))::(32,(.t [(.c (.o 428)),(.c (aI 0)),(.c (aI 0))]))::(37,(.t [(.c (.o 428)),(.c (aI 0)),(.c (aI 0))]))::(36,(aO 364))::(35,(aO 363))::(34,(.w (.b .f32 32 [1120534528,0,0,0,0,0,0,0,0,0,0,0,0,0,0,0,0,0,0,0,0,0,0,0,0,0,0,0,0,0,0,0])))::(33,(.w (.a [(.d (.s ⟨#[112]⟩)),(.o 360)])))::awT5
def awS6:St:=⟨awT6,[aH32,aH33,aH34,aH35,aH36,aH37,aH38,aH39,aH40,aH41,aH42,aH43,aH31,jsx,jsy,jsz,jsA,jsB,jsC,(255,aR []),jsD,jsE,jsF,jsG,jsH,(247,aR []),jsI,jsJ,(243,aR []),(242,aR []),(241,aR []),jsK,jsL,jsM,jsN,jsO,jsP,jsQ,jsR,aH5,aH6,(64,aR [0]),(63,aR [2]),aH7,aH8,aH9,(59,aR [0]),(58,aR [0]),aH0,aH1,(7,aR [0]),(6,aR [2]),aH2,aH3,aH4,(2,aR [0]),(1,aR [0])],499⟩
abbrev awT7:List (Nat × V):=(0,(vb true))::(107,(vb true))::(106,(vb true))::(105,(.w (.c (.d (.f .f32 1120534528)))))::(104,(.w (.c (.p 497 0 32 3))))::(103,(.w (.c (.p 497 0 32 0))))::(102,(aO 497))::(101,(.w (.c (.p 428 0 1 0))))::(100,(aO 428))::(99,(vb true))::(98,(vb true))::(97,(vb true))::(96,(.w (.c (.d (.f .f32 1112276992)))))::(95,(.w (.c (.p 497 0 32 0))))::(94,(.w (.c (.p 497 0 32 0))))::(93,(aO 497))::(92,(.w (.c (.p 428 0 1 0))))::(91,(aO 428))::(90,(vb true))::(89,(vb true))::(88,(vb true))::(87,(vi .i64 1))::(86,(aO 497))::(85,(.w (.c (.p 428 0 1 0))))::(84,(aO 428))::(83,(vb true))::(82,(vb true))::(81,(vb true))::(80,(vi .i64 1))::(79,(aO 428))::(78,(vb true))::(77,(vb true))::(76,(vb true))::(75,(vi .i64 0))::(74,(vb true))::(73,(vb true))::(72,(vb true))::(71,(vi .i64 0))::(70,(vb true))::(69,(vb true))::(68,(vb true))::(67,(aO 501))::(66,(aO 351))::(65,(vb true))::(64,(vb true))::(63,(vb true))::(62,(vi .i64 0))::(61,(vb true))::(60,(vb true))::(59,(vb true))::(58,(vi .i64 0))::(57,(vb true))::(56,(vb true))::(55,(vb true))::(54,(aO 500))::(53,(aO 165))::(52,(vb true))::(51,(vb true))::(50,(vb true))::(49,(vi .i64 0))::(48,(vb true))::(47,(vb true))::(46,(vb true))::(45,(aO 499))::(44,(aO 56))::(43,(vb true))::(42,(vb true))::(41,(vi .i64 0))::awT6
def awS7:St:=⟨awT7,[aH44,aH45,aH46,aH32,aH33,aH34,aH35,aH36,aH37,aH38,aH39,aH40,aH41,aH42,aH43,aH31,jsx,jsy,jsz,jsA,jsB,jsC,(255,aR []),jsD,jsE,jsF,jsG,jsH,(247,aR []),jsI,jsJ,(243,aR []),(242,aR []),(241,aR []),jsK,jsL,jsM,jsN,jsO,jsP,jsQ,jsR,aH5,aH6,(64,aR [0]),(63,aR [2]),aH7,aH8,aH9,(59,aR [0]),(58,aR [0]),aH0,aH1,(7,aR [0]),(6,aR [2]),aH2,aH3,aH4,(2,aR [0]),(1,aR [0])],502⟩
abbrev awT8:List (Nat × V):=awT7
def awS8:St:=⟨awT8,[aH44,aH45,aH46,aH32,aH33,aH34,aH35,aH36,aH37,aH38,aH39,aH40,aH41,aH42,aH43,aH31,jsx,jsy,jsz,jsA,jsB,jsC,(255,aR []),jsD,jsE,jsF,jsG,jsH,(247,aR []),jsI,jsJ,(243,aR []),(242,aR []),(241,aR []),jsK,jsL,jsM,jsN,jsO,jsP,jsQ,jsR,aH5,aH6,(64,aR [0]),(63,aR [2]),aH7,aH8,aH9,(59,aR [0]),(58,aR [0]),aH0,aH1,(7,aR [0]),(6,aR [2]),aH2,aH3,aH4,(2,aR [0]),(1,aR [0])],502⟩
end Go.Sh
end

section
namespace Go.Sh
open Go Go.Proofs Go.RowKit Go.Sx
set_option maxRecDepth 1000000 in
theorem aw_0:jhb (pcE 0) awS0=some (.normal,awS1):=by kernel_rfl
set_option maxRecDepth 1000000 in
theorem aw_1:jhb (pcE 1) awS1=some (.normal,awS2):=by kernel_rfl
set_option maxRecDepth 1000000 in
theorem aw_2:jhb (pcE 2) awS2=some (.normal,awS3):=by kernel_rfl
end Go.Sh
end

section
namespace Go.Sh
open Go Go.Proofs Go.RowKit Go.Sx
set_option maxRecDepth 1000000 in
theorem aw_3:jhb (pcE 3) awS3=some (.normal,awS4):=by kernel_rfl
end Go.Sh
end

section
namespace Go.Sh
open Go Go.Proofs Go.RowKit Go.Sx
set_option maxRecDepth 1000000 in
theorem aw_4:jhb (pcE 4) awS4=some (.normal,awS5):=by kernel_rfl
end Go.Sh
end

section
namespace Go.Sh
open Go Go.Proofs Go.RowKit Go.Sx
set_option maxRecDepth 1000000 in
theorem aw_5:jhb (pcE 5) awS5=some (.normal,awS6):=by kernel_rfl
end Go.Sh
end

section
namespace Go.Sh
open Go Go.Proofs Go.RowKit Go.Sx
set_option maxRecDepth 1000000 in
theorem aw_6:jhb (pcE 6) awS6=some (.normal,awS7):=by kernel_rfl
set_option maxRecDepth 1000000 in
theorem aw_7:jhb (pcE 7) awS7=some (.ret,awS8):=by kernel_rfl
end Go.Sh
end

section
namespace Go.Sh
open Go Go.Proofs Go.RowKit Go.Sx
def jmp:List SV:=[]
def jli:Option Bool:=some true
def jfc:List Lf→Option GT
 |[]=>some (.leaf (ok (jli)) [.c (.d (.b (val (jli))))])
 |_=>none
abbrev sp_16:jaa→jaa:=jaG 16 true (jak jmp jfc)
set_option maxRecDepth 1000000 in
theorem jz5:jha (Tryz.f16.body.getD .skip)=[pcE 0,pcE 1,pcE 2,pcE 3,pcE 4,pcE 5,pcE 6,pcE 7]:=by kernel_rfl
theorem jBf:@cxL jbj Tryz.prog dpE Tryz.f16.ntmps 200 (jha (Tryz.f16.body.getD .skip)) ⟨[],[],0⟩=some (.ret,awS8):=by
 rw[jz5]
 exact @jdM jbj _ _ _ _ _ _ _ _ _ aw_0 (@jdM jbj _ _ _ _ _ _ _ _ _ aw_1 (@jdM jbj _ _ _ _ _ _ _ _ _ aw_2 (@jdM jbj _ _ _ _ _ _ _ _ _ aw_3 (@jdM jbj _ _ _ _ _ _ _ _ _ aw_4 (@jdM jbj _ _ _ _ _ _ _ _ _ aw_5 (@jdM jbj _ _ _ _ _ _ _ _ _ aw_6 ((@juC jbj _ _ _ _ _ _).trans aw_7)))))))
set_option maxRecDepth 1000000 in
theorem jsS:jaf Tryz.prog 16 true (jak jmp jfc) :=
 jp5 jbj globs rfl rfl (@jxz jbj Tryz.prog dpE 16 200 Tryz.f16 (Tryz.f16.body.getD .skip) (.b true) .ret awS8 jfc mixed jAX jy3 Tryz.func16 (by kernel_rfl) (by kernel_rfl) jBf (fun j h=>by cases h) (by kernel_rfl) fun ls t h=>by
  unfold jfc at h
  split at h
  ·cases h
   exact⟨rfl,_,rfl⟩
  ·cases h)
theorem sp_16_ok {sp:jaa} (h:jac Tryz.prog sp):jac Tryz.prog (sp_16 sp):=jar jsS h
end Go.Sh
end

section
namespace Go.Sh
open Go Go.Proofs Go.RowKit Go.Sx
def jd1:List SV:=[.a [.d,.x (.st [.s,.i .i64,.ints .i64,.ints .i64,.ints .i64,.i .i64,.recs 5,.i .i64] [])],.c (.r (.ints .i64 []))]
def ja4 (u3:ByteArray) (u1:List (List NC)) (l:List Int):Option Bool :=
 Option.bind (jdZ u3 u1) fun r0 =>
 if(!r0)=true then
  some true
 else
  if(↑(List.length l):Int)>26 then
  some true
  else
  Option.bind (y84 u3 u1) fun r1 =>
  Option.bind (y7 r1.1 r1.2) fun r2 =>
  Option.bind (y84 u3 u1) fun r3 =>
  Option.bind (y50 l) fun r4 =>
  Option.bind (y10 r1.1 r1.2 r4) fun r5 =>
  Option.bind (y65 u3 u1) fun r6 =>
  if(r6 != 0)=true then
   if(r2.2==r6)=true then
   if(r5==r6)=true then
    some ((↑(List.length r2.1):Int)==0)
   else
    some false
   else
   some false
  else
   Option.bind (y8 u3 u1) fun r7 =>
   if(r7.2)=true then
   if(r2.2 != 0)=true then
    some false
   else
    Option.bind (jcs r2.1 r7.1) fun r8 =>
    if(!r8)=true then
    some false
    else
    if(!r7.2)=true then
     if(r2.2 != 13)=true then
     some false
     else
     if((↑(List.length r2.1):Int)!=0)=true then
      some false
     else
      if((↑(List.length l):Int)!=(↑(List.length u1):Int))=true then
      some (r5==10)
      else
      if(r7.2)=true then
       Option.bind (jcs l r7.1) fun r9 =>
       if(r9==(r5==0))=true then
       if(r5==0)=true then
        some true
       else
        if(r5==20)=true then
        some true
        else
        if(!r7.2)=true then
         some (r5==20)
        else
         some false
       else
       if(!r7.2)=true then
        some (r5==20)
       else
        some false
      else
       if(!r7.2)=true then
       some (r5==20)
       else
       some false
    else
     if((↑(List.length l):Int)!=(↑(List.length u1):Int))=true then
     some (r5==10)
     else
     if(r7.2)=true then
      Option.bind (jcs l r7.1) fun r9 =>
      if(r9==(r5==0))=true then
      if(r5==0)=true then
       some true
      else
       if(r5==20)=true then
       some true
       else
       if(!r7.2)=true then
        some (r5==20)
       else
        some false
      else
      if(!r7.2)=true then
       some (r5==20)
      else
       some false
     else
      if(!r7.2)=true then
      some (r5==20)
      else
      some false
   else
   if(!r7.2)=true then
    if(r2.2 != 13)=true then
    some false
    else
    if((↑(List.length r2.1):Int)!=0)=true then
     some false
    else
     if((↑(List.length l):Int)!=(↑(List.length u1):Int))=true then
     some (r5==10)
     else
     if(r7.2)=true then
      Option.bind (jcs l r7.1) fun r9 =>
      if(r9==(r5==0))=true then
      if(r5==0)=true then
       some true
      else
       if(r5==20)=true then
       some true
       else
       if(!r7.2)=true then
        some (r5==20)
       else
        some false
      else
      if(!r7.2)=true then
       some (r5==20)
      else
       some false
     else
      if(!r7.2)=true then
      some (r5==20)
      else
      some false
   else
    if((↑(List.length l):Int)!=(↑(List.length u1):Int))=true then
    some (r5==10)
    else
    if(r7.2)=true then
     Option.bind (jcs l r7.1) fun r9 =>
     if(r9==(r5==0))=true then
     if(r5==0)=true then
      some true
     else
      if(r5==20)=true then
      some true
      else
      if(!r7.2)=true then
       some (r5==20)
      else
       some false
     else
     if(!r7.2)=true then
      some (r5==20)
     else
      some false
    else
     if(!r7.2)=true then
     some (r5==20)
     else
     some false
def jd2:List Lf→Option GT
 |[.d (.s u3),.x (.st [.s,.i .i64,.ints .i64,.ints .i64,.ints .i64,.i .i64,.recs 5,.i .i64] u1),.r (.ints .i64 l)]=>some (.leaf (ok (ja4 u3 u1 l)) [.c (.d (.b ((val (ja4 u3 u1 l)))))])
 |_=>none
def jip (u3:ByteArray) (u1:List (List NC)) (l:List Int) (r:Bool):Sk (top r) (ja4 u3 u1 l) :=
 .obC (ok jli) (by decide) (.call (.brB
 (.obT (.rc))
 (.br
 (.obT (.rc))
 (.call (.call (.call (.call (.call (.call (.brB
 (.brB
 (.brB
 (.obT (.rc))
 (.obT (.rc)))
 (.obT (.rc)))
 (.call (.brB
 (.brB
 (.obT (.rc))
 (.call (.brB
 (.obT (.rc))
 (.brB
 (.brB
 (.obT (.rc))
 (.brB
 (.obT (.rc))
 (.brB
 (.obT (.rc))
 (.brB
 (.call (.brB
 (.brB
 (.obT (.rc))
 (.brB
 (.obT (.rc))
 (.brB
 (.obT (.rc))
 (.obT (.rc)))))
 (.brB
 (.obT (.rc))
 (.obT (.rc)))))
 (.brB
 (.obT (.rc))
 (.obT (.rc)))))))
 (.brB
 (.obT (.rc))
 (.brB
 (.call (.brB
 (.brB
 (.obT (.rc))
 (.brB
 (.obT (.rc))
 (.brB
 (.obT (.rc))
 (.obT (.rc)))))
 (.brB
 (.obT (.rc))
 (.obT (.rc)))))
 (.brB
 (.obT (.rc))
 (.obT (.rc)))))))))
 (.brB
 (.brB
 (.obT (.rc))
 (.brB
 (.obT (.rc))
 (.brB
 (.obT (.rc))
 (.brB
 (.call (.brB
 (.brB
 (.obT (.rc))
 (.brB
 (.obT (.rc))
 (.brB
 (.obT (.rc))
 (.obT (.rc)))))
 (.brB
 (.obT (.rc))
 (.obT (.rc)))))
 (.brB
 (.obT (.rc))
 (.obT (.rc)))))))
 (.brB
 (.obT (.rc))
 (.brB
 (.call (.brB
 (.brB
 (.obT (.rc))
 (.brB
 (.obT (.rc))
 (.brB
 (.obT (.rc))
 (.obT (.rc)))))
 (.brB
 (.obT (.rc))
 (.obT (.rc)))))
 (.brB
 (.obT (.rc))
 (.obT (.rc))))))))))))))))))
theorem jhK (u3:ByteArray) (u1:List (List NC)) (l:List Int) (r:Bool) (h:Option.bind (ja4 u3 u1 l) some=some r):jbb Tryz.f5 ((sp_16 (sp_17 (sp_31 (sp_19 (sp_26 (sp_32 (sp_22 (sp_33 (sp_24 sp0)))))))))) (fun _ _ _=>none) (ja5 jd1 [.d (.s u3),.x (.st [.s,.i .i64,.ints .i64,.ints .i64,.ints .i64,.i .i64,.recs 5,.i .i64] u1),.r (.ints .i64 l)]) [.c (.d (.b r))] :=
 Sk.vc (jip u3 u1 l r) (by kernel_rfl) h
theorem jhL:jaf Tryz.prog 5 true (jak jd1 jd2):=by
 refine jay (sp:=(sp_16 (sp_17 (sp_31 (sp_19 (sp_26 (sp_32 (sp_22 (sp_33 (sp_24 sp0)))))))))) (fn:=Tryz.f5) (body:=bodyOf Tryz.f5) mixed (sp_16_ok (sp_17_ok (sp_31_ok (sp_19_ok (sp_26_ok (sp_32_ok (sp_22_ok (sp_33_ok (sp_24_ok jau))))))))) Tryz.func5 (by kernel_rfl) (by kernel_rfl) fun ls t h ho b hb=>?_
 unfold jd2 at h
 split at h
 ·rename_i u3 u1 l
  cases h
  obtain rfl:=jaL hb
  exact⟨Nat.le_of_ble_eq_true (by kernel_rfl),_,_,jhK u3 u1 l _ (jap ho)⟩
 ·cases h
end Go.Sh
end

section
namespace Go.Sh
open Go Go.Proofs Go.RowKit Go.Sx
theorem jBg (a b:List Int) (hl:a.length<9223372036854775807):y17 a b=some (decide (a=b)):=jow a b hl
theorem joC {nm:ByteArray} {g:List (List NC)} {l:List Int} {e:Int} (he:e≠0) (he2:e≠13) (h:y7 nm g=some ([],e)):y10 nm g l=some e:=by
 unfold y10
 rw[h,jad,if_pos (bne_iff_ne.2 he),if_pos (bne_iff_ne.2 he2)]
theorem jsT {nm:ByteArray} {g:List (List NC)} {l:List Int} (h:y7 nm g=some ([],13)):y10 nm g l=some (if((l.length:Int)!=(g.length:Int))=true then 10 else 20):=by
 unfold y10
 rw[h,jad,if_pos (by rfl),if_neg (by simp)]
 split
 ·rfl
 ·rw[if_neg (by simp)]
  rfl
theorem jxF {nm:ByteArray} {g:List (List NC)} {l O:List Int} (hO:O.length<1000) (h:y7 nm g=some (O,0)):y10 nm g l=some (if((l.length:Int)!=(g.length:Int))=true then 10 else if O=l then 0 else 20):=by
 unfold y10
 rw[h,jad,if_neg (by simp)]
 split
 ·rfl
 ·rw[if_pos (by rfl),jBg _ _ (show O.length<9223372036854775807 by omega),jad,jhB,jad]
  by_cases hh:O=l<;>simp[hh]
theorem jz6 (nm:ByteArray) (g:List (List NC)):(cg nm g).2≠13:=by
 rw[jkV]
 unfold cgF
 split
 ·show(4:Int)≠13; omega
 ·split
  ·show(8:Int)≠13; omega
  ·cases (List.range g.length).findIdx? (fun i=>ja3 g i != 0)with
   |none=>show(0:Int)≠13; omega
   |some i =>
    show ja3 g i≠13
    unfold ja3
    have:jci (nR g i 6)≠13:=by unfold jci; repeat' split<;>omega
    repeat' split
    all_goals first|omega|exact this
theorem jjr (nm:ByteArray) (g:List (List NC)) (l:List Int):ja4 nm g l=some true:=by
 unfold ja4
 rcases jw5 nm g with h|⟨h,hw,hs⟩
 ·rw[h]; rfl
 ·have hc:=jvB hw
  have hn:=hw.n
  rw[h,jad,if_neg (by simp)]
  by_cases h26:(l.length:Int)>26
  ·rw[if_pos h26]
  ·rw[if_neg h26,jzU hw,jdx l (by omega)]
   simp only[jad]
   rw[jtR hw hs]
   by_cases h0:(cg nm g).2=0
   ·have hne:¬((cg nm g).2≠0):=fun hn=>hn h0
    rw[if_neg hne]
    cases hl:jdn (jbx g) g.length []with
    |none =>
     have ho:ja8 nm (cpU g)=some 19:=by rw[jsk hc hs (by rw[jqT]; exact h0),jk1,jbZ,hl]
     have hE:=jsu hc (by omega) ho
     rw[hE,joC (by omega) (by omega) hE]
     rfl
    |some od =>
     have hr:=rg_of hw h0 hl
     have h0c:(cg nm (cpU g)).2=0:=by rw[jqT]; exact h0
     rcases jv9 hr.cp hs h0c nm with ⟨hE,hR⟩|⟨O,hE,hR,hO⟩
     ·rw[juD hw]at hR
      rw[hE,jsT hE,hR,jbZ]
      simp only[jad]
      by_cases hlen:l.length=g.length
      ·have e1:((l.length:Int)!=(g.length:Int))=false:=by simp; omega
       rw[e1]; rfl
      ·have e1:((l.length:Int)!=(g.length:Int))=true:=by simp; omega
       rw[e1]; rfl
     ·rw[juD hw]at hR
      rw[jbZ]at hO
      rw[hE,jxF (by omega) hE,hR,jbZ]
      simp only[jad]
      rw[jw0 O (by omega),jow l O (by omega)]
      simp only[jad]
      by_cases hlen:l.length=g.length
      ·have e1:((l.length:Int)!=(g.length:Int))=false:=by simp; omega
       rw[e1]
       by_cases hh:O=l
       ·have hh':l=O:=hh.symm
        rw[decide_eq_true hh']
        simp[hh]
       ·have hh':¬l=O:=fun e=>hh e.symm
        rw[decide_eq_false hh']
        simp[hh]
      ·have e1:((l.length:Int)!=(g.length:Int))=true:=by simp; omega
       rw[e1]; rfl
   ·have hp:0<(cg nm g).2:=by have:=jxh nm g; omega
    have ho:ja8 nm (cpU g)=some (cg nm g).2:=by rw[jxj hc hs (by rw[jqT]; exact h0),jqT]
    have hE:=jsu hc hp ho
    rw[hE,joC h0 (jz6 nm g) hE]
    simp only[jad]
    rw[if_pos h0,if_pos (bne_iff_ne.2 h0),if_pos (by simp),if_pos (by simp)]
    rfl
end Go.Sh
end

section
namespace Go.Sx
open Go.RowKit Go.ChangeShapes Go.WideShapes
inductive K where
 |i (k:IntKind)|b|f (k:FloatKind)|s
def K.fits:K→D→Prop
 | .i k,.i k' n=>k'=k∧(Lit.int k n).wf=true
 | .b,.b _=>True
 | .f k,.f k' n=>k'=k∧(Lit.float k n).wf=true
 | .s,.s x=>x.size≤maxLen
 |_,_=>False
def jbf:List K→List D→Prop
 |[],[]=>True
 |k::ks,d::ds=>k.fits d∧jbf ks ds
 |_,_=>False
theorem jeW:∀{ks:List K} {ds:List D} {ks':List K} {ds':List D},jbf ks ds→jbf ks' ds'→jbf (ks++ks') (ds++ds')
 |[],[],_,_,_,h=>h
 |_::_,_::_,_,_,h,h'=>⟨h.1,jeW h.2 h'⟩
 |[],_::_,_,_,h,_=>h.elim
 |_::_,[],_,_,h,_=>h.elim
theorem jeX:∀{ks:List K} {ds:List D},jbf ks ds→ds.length=ks.length
 |[],[],_=>rfl
 |_::_,_::_,h=>by simp[jeX h.2]
 |[],_::_,h=>h.elim
 |_::_,[],h=>h.elim
def jgc (g:TypeId→Option (List K)) (P:Program):Nat→List Field→Option (List K)
 |_,[]=>some []
 |n,f::fs=>match g f.type with
  |none=>none
  |some ks=>if f.offset=n∧P.cellsOf f.type=ks.length then(jgc g P (n+ks.length) fs).map (ks ++ ·)else none
def jes (P:Program):Nat→TypeId→Option (List K)
 |0,_=>none
 |d+1,t=>match P.underlying t with
  |some .bool=>some [.b]
  |some (.int k)=>some [.i k]
  |some (.float k)=>some [.f k]
  |some .string=>some [.s]
  |some (.struct fs)=>match jgc (jes P d) P 0 fs.toList with
   |some ks=>if P.cellsOf t=ks.length then some ks else none
   |none=>none
  |some (.array n e)=>match jes P d e with
   |some ks=>if P.cellsOf t=n*ks.length∧P.cellsOf e=ks.length then some (List.replicate n ks).flatten else none
   |none=>none
  |_=>none
section
variable {H:Type} {enc:TypeId × Value→H} {P:Program} {w:World} {base:Nat} {spare:Nat→Bool} {held:Bool}
theorem jmq {ks:List K} {e:TypeId} {m:Nat} (ih:∀cs x,DataW.trod enc P w base spare held m e cs=some x→∃ds:List D,cs=ds.map D.val∧jbf ks ds) :
  ∀(n:Nat) (cs:List Value),cs.length=n*ks.length→(∀i,i<n→∃x,DataW.trod enc P w base spare held m e ((cs.drop (i*ks.length)).take ks.length)=some x)→∃ds:List D,cs=ds.map D.val∧jbf (List.replicate n ks).flatten ds
 |0,cs,hl,_=>⟨[],by simpa using hl,trivial⟩
 |n+1,cs,hl,h=>by
  obtain⟨x,hx⟩:=h 0 (by omega)
  obtain⟨ds0,h0,h1⟩:=ih _ x hx
  obtain⟨ds1,h2,h3⟩:=jmq ih n (cs.drop ks.length) (by rw[List.length_drop,hl,Nat.add_mul]; omega) (fun i hi=>by
   obtain⟨y,hy⟩:=h (i+1) (by omega)
   refine⟨y,?_⟩
   rw[List.drop_drop]
   rw[show ks.length+i*ks.length=(i+1)*ks.length by rw[Nat.add_mul]; omega]
   exact hy)
  refine⟨ds0++ds1,?_,jeW h1 h3⟩
  rw[List.map_append,←h0,←h2]
  simp
theorem jlj {g:TypeId→Option (List K)} {m:Nat} (ih:∀t ks cs x,g t=some ks→DataW.trod enc P w base spare held m t cs=some x→∃ds:List D,cs=ds.map D.val∧jbf ks ds) :
  ∀(fs:List Field) (n:Nat) (ks:List K) (cs:List Value),jgc g P n fs=some ks→cs.length=n+ks.length→(∀f∈fs,∃x,DataW.trod enc P w base spare held m f.type ((cs.drop f.offset).take (P.cellsOf f.type))=some x) →
   ∃ds:List D,cs.drop n=ds.map D.val∧jbf ks ds
 |[],n,ks,cs,hk,hl,_=>by
  simp only[jgc,Option.some.injEq]at hk
  subst hk
  refine⟨[],?_,trivial⟩
  simp at hl
  simp[hl]
 |f::fs,n,ks,cs,hk,hl,h=>by
  simp only[jgc]at hk
  split at hk
  ·cases hk
  ·rename_i kf hg
   split at hk
   ·rename_i hc
    cases hr:jgc g P (n+kf.length) fs with
    |none=>simp[hr]at hk
    |some kr =>
     simp only[hr,Option.map_some,Option.some.injEq]at hk
     subst hk
     obtain⟨x,hx⟩:=h f List.mem_cons_self
     rw[hc.1,hc.2]at hx
     obtain⟨ds0,h0,h1⟩:=ih f.type kf _ x hg hx
     obtain⟨ds1,h2,h3⟩:=jlj ih fs (n+kf.length) kr cs hr (by rw[hl,List.length_append]; omega) (fun f' hf'=>h f' (List.mem_cons_of_mem _ hf'))
     refine⟨ds0++ds1,?_,jeW h1 h3⟩
     rw[List.map_append,←h0,←h2,←List.drop_drop]
     exact(List.take_append_drop _ _).symm
   ·cases hk
theorem jf6:∀(d:Nat) (t:TypeId) (ks:List K) (fuel:Nat) (cs:List Value) (x:DataW H × List MemPlace),jes P d t=some ks→DataW.trod enc P w base spare held fuel t cs=some x →
  ∃ds:List D,cs=ds.map D.val∧jbf ks ds
 |0,_,_,_,_,_,h,_=>by cases h
 |d+1,t,ks,fuel,cs,x,hk,hx=>by
  unfold jes at hk
  split at hk
  ·rename_i ht
   cases hk
   obtain⟨b,rfl,_⟩:=DataW.trod_bool ht hx
   exact⟨[.b b],rfl,trivial,trivial⟩
  ·rename_i k ht
   cases hk
   obtain⟨n,rfl,_,hw⟩:=DataW.trod_int ht hx
   exact⟨[.i k n],rfl,⟨rfl,hw⟩,trivial⟩
  ·rename_i k ht
   cases hk
   cases fuel with
   |zero=>simp[DataW.trod]at hx
   |succ n =>
    rcases cs with _|⟨v,_|⟨v',r⟩⟩
    ·simp[DataW.trod,ht]at hx
    ·cases v with
     |float k2 n2 =>
      simp only[DataW.trod,ht]at hx
      split at hx
      ·rename_i hh
       exact⟨[.f k2 n2],rfl,⟨hh.1,hh.2⟩,trivial⟩
      ·cases hx
     |_=>simp[DataW.trod,ht]at hx
    ·simp[DataW.trod,ht]at hx
  ·rename_i ht
   cases hk
   obtain⟨z,rfl,_,hw⟩:=DataW.trod_string ht hx
   exact⟨[.s z],rfl,hw,trivial⟩
  ·rename_i fs ht
   split at hk
   ·rename_i ks' hks
    split at hk
    ·rename_i hc
     cases hk
     obtain⟨xs,n,rfl,_,hl,hxl,hf⟩:=DataW.trod_struct ht hx
     have:=jlj (enc:=enc) (w:=w) (base:=base) (spare:=spare) (held:=held) (g:=jes P d) (m:=n) (fun t ks cs x h1 h2=>jf6 d t ks n cs x h1 h2) fs.toList 0 ks cs hks (by rw[hl,hc]; omega) (fun f hfm=>by
      obtain⟨i,hi,hfi⟩:=List.mem_iff_getElem.1 hfm
      have hi':i<fs.size:=by simpa using hi
      have h1:=hf i f (by rw[Array.getElem?_eq_getElem hi']; simpa using hfi)
      exact⟨xs[i]'(by omega),by rw[h1,List.getElem?_eq_getElem]⟩)
     simpa using this
    ·cases hk
   ·cases hk
  ·rename_i n e ht
   split at hk
   ·rename_i ks' hks
    split at hk
    ·rename_i hc
     cases hk
     obtain⟨xs,m,rfl,_,hl,hxl,hf⟩:=DataW.trod_array ht hx
     exact jmq (fun cs x h=>jf6 d e ks' m cs x hks h) n cs (by rw[hl,hc.1]) (fun i hi=>by
      have h1:=hf i hi
      rw[hc.2]at h1
      exact⟨xs[i]'(by omega),by rw[h1,List.getElem?_eq_getElem]⟩)
    ·cases hk
   ·cases hk
  ·cases hk
theorem jp8 {t e:TypeId} {ks:List K} {d fuel:Nat} {cs:List Value} {x:DataW H × List MemPlace} (ht:P.underlying t=some (.slice e)) (hk:jes P d e=some ks) (hc:P.cellsOf e=ks.length) (h0:0<ks.length)
  (hx:DataW.trod enc P w base spare held fuel t cs=some x) :
  ∃(v:Value) (rows:List (List D)),cs=[v]∧(∀r∈rows,jbf ks r)∧jaC w v (.lits ks.length rows)∧(x.1=.nil∧rows=[]∨∃el sp,x.1=.slice el sp∧el.length=rows.length):=by
 rcases DataW.trod_slice ht hx with ⟨rfl,rfl⟩|⟨a,len,cap,elems,rest,n,rfl,rfl,rfl,hb,hl,hm,hel,hi,_,_⟩
 ·exact⟨_,[],rfl,(fun _ h=>by cases h),⟨none,0,rfl,⟨by simp[Cont.n],fun _=>rfl⟩,fun h=>absurd h (by simp[Cont.n])⟩,.inl ⟨rfl,rfl⟩⟩
 ·-- each element's cells
  have hget:∀i,i<len→∃ds:List D,jbf ks ds∧∀j,j<ks.length→w.cell? ((a.add (i*ks.length)).add j)=(ds[j]?).map D.val:=fun i hil=>by
   have h1:=hi i hil
   rw[hc]at h1
   have h2:elems[i]?=some (elems[i]'(by omega)):=List.getElem?_eq_getElem (by omega)
   rw[h2]at h1
   obtain⟨cs',hcs,htr⟩:=Option.bind_eq_some_iff.1 h1
   obtain⟨ds,hds,hfit⟩:=jf6 d e ks n cs' _ hk htr
   obtain⟨_,hcl,hat⟩:=World.cells?_some hcs
   refine⟨ds,hfit,fun j hj=>?_⟩
   rw[hat j hj,hds,List.getElem?_map]
  let R:Nat→List D:=fun i=>if h:i<len then Classical.choose (hget i h)else[]
  have hR:∀i (h:i<len),jbf ks (R i)∧∀j,j<ks.length→w.cell? ((a.add (i*ks.length)).add j)=((R i)[j]?).map D.val:=fun i h=>by
   show jbf ks (if h:i<len then _ else _)∧_
   simp only[R,dif_pos h]
   exact Classical.choose_spec (hget i h)
  refine⟨_,(List.range len).map R,rfl,fun r hr=>?_,?_,.inr ⟨_,_,rfl,by simp[hel]⟩⟩
  ·obtain⟨i,hi',rfl⟩:=List.mem_map.1 hr
   exact(hR i (by simpa using hi')).1
  ·refine⟨some a,cap,by simp[Cont.n],⟨by simpa [Cont.n]using hl,fun h=>by cases h⟩,fun hn=>?_⟩
   have hn:0<len:=by simpa [Cont.n]using hn
   have hsp:a.spot=none:=by
    have h1:=(hR 0 hn).2 0 h0
    have hfl:=jeX (hR 0 hn).1
    rw[List.getElem?_eq_getElem (by omega)]at h1
    simp[Addr.add]at h1
    cases hs:a.spot with
    |none=>rfl
    |some s =>
     exfalso
     unfold World.cell? at h1
     simp only[hs]at h1
     split at h1
     ·simp at h1
     ·cases h1
   obtain⟨b,off,sp⟩:=a
   simp only at hsp
   subst hsp
   refine⟨b,off,rfl,fun j y hj=>?_⟩
   have hne:0<ks.length:=h0
   have hjl:j<(Cont.lits ks.length ((List.range len).map R)).flat.length:=(List.getElem?_eq_some_iff.1 hj).1
   rw[Cont.flat_length]at hjl
   simp only[Cont.n,Cont.e,List.length_map,List.length_range]at hjl
   have hq:j/ks.length<len:=Nat.div_lt_of_lt_mul (by rw[Nat.mul_comm]; exact hjl)
   have hr:j%ks.length<ks.length:=Nat.mod_lt _ hne
   have hg:=Cont.flat_get (.lits ks.length ((List.range len).map R)) (i:=j/ks.length) (j:=j%ks.length) (by simpa [Cont.n]using hq) hr
   have ej:j/ks.length*ks.length+j%ks.length=j:=by rw[Nat.mul_comm]; exact Nat.div_add_mod j _
   simp only[Cont.e]at hg
   rw[ej,hj]at hg
   have hcell:=(hR (j/ks.length) hq).2 (j%ks.length) hr
   have hfl:=jeX (hR (j/ks.length) hq).1
   rw[jaJ,jaJ,Nat.add_assoc,ej,List.getElem?_eq_getElem (by omega)]at hcell
   rw[hcell]
   simp only[Option.some.injEq]at hg
   simp[hg,Cont.cell,List.getD,hq,List.getElem?_eq_getElem (show j%ks.length<(R (j/ks.length)).length by omega)]
theorem jjs {v:Value} {c c':Cont} (h:jaC w v c) (hn:c'.n=c.n) (hf:c'.flat=c.flat):jaC w v c':=by
 obtain⟨a,cap,hv,hc,hcell⟩:=h
 exact⟨a,cap,by rw[hn]; exact hv,by rw[hn]; exact hc,fun h=>by
  obtain⟨b,off,e,hx⟩:=hcell (by rw[←hn]; exact h)
  exact⟨b,off,e,by rw[hf]; exact hx⟩⟩
theorem juE:∀{n:Nat} {r:List D},jbf (List.replicate n (.i .i64)) r→∃l:List Int,r=l.map (D.i .i64)∧l.length=n∧∀x∈l,inI x
 |0,[],_=>⟨[],rfl,rfl,fun _ h=>by cases h⟩
 |n+1,.i k x::r,h=>by
  obtain⟨l,h1,h2,h3⟩:=juE (n:=n) h.2
  obtain⟨rfl,hw⟩:=h.1
  refine⟨x::l,by rw[h1]; rfl,by simp[h2],fun y hy=>?_⟩
  rcases List.mem_cons.1 hy with rfl|hy
  ·unfold inI
   simpa [Lit.wf,IntKind.min,IntKind.max,IntKind.signed,IntKind.bits]using hw
  ·exact h3 y hy
 |0,_::_,h=>h.elim
 |_+1,[],h=>h.elim
 |_+1,.b _::_,h=>h.1.elim
 |_+1,.f _ _::_,h=>h.1.elim
 |_+1,.s _::_,h=>h.1.elim
 |_+1,.v _::_,h=>h.1.elim
theorem jp9 {n:Nat} {rows:List (List D)} (h:∀r∈rows,jbf (List.replicate n (.i .i64)) r):∃l:List (List Int),rows=l.map (fun r=>r.map (D.i .i64))∧l.length=rows.length∧∀r∈l,r.length=n∧∀x∈r,inI x:=by
 induction rows with
 |nil=>exact⟨[],rfl,rfl,fun _ h=>by cases h⟩
 |cons r rows ih =>
  obtain⟨l,h1,h2,h3⟩:=ih fun r hr=>h r (List.mem_cons_of_mem _ hr)
  obtain⟨x,h4,h5,h6⟩:=juE (h r List.mem_cons_self)
  refine⟨x::l,by rw[h1,h4]; rfl,by simp[h2],fun y hy=>?_⟩
  rcases List.mem_cons.1 hy with rfl|hy
  ·exact⟨h5,h6⟩
  ·exact h3 y hy
theorem jqa {n:Nat} {l:List (List Int)} (h:∀r∈l,r.length=n):(Cont.recs n l).flat=(Cont.lits n (l.map fun r=>r.map (D.i .i64))).flat:=by
 simp only[Cont.flat]
 induction l with
 |nil=>rfl
 |cons r l ih =>
  rw[List.flatMap_cons,List.map_cons,List.flatMap_cons,ih fun r hr=>h r (List.mem_cons_of_mem _ hr)]
  congr 1
  have hr:=h r List.mem_cons_self
  subst hr
  rw[jj0]
  exact(litD_self' (r.map (D.i .i64)) (by simp)).symm
 where
 litD_self' {n:Nat} (r:List D) (h:r.length=n):jir n r=r:=by subst h; exact jj1 r
theorem jxG {t e:TypeId} {d n fuel:Nat} {cs:List Value} {x:DataW H × List MemPlace} (ht:P.underlying t=some (.slice e)) (hk:jes P d e=some (List.replicate n (.i .i64))) (hc:P.cellsOf e=n) (h0:0<n)
  (hx:DataW.trod enc P w base spare held fuel t cs=some x) :
  ∃(v:Value) (l:List (List Int)),cs=[v]∧jaC w v (.recs n l)∧(∀r∈l,r.length=n∧∀x∈r,inI x)∧(x.1=.nil∧l=[]∨∃el sp,x.1=.slice el sp∧el.length=l.length):=by
 obtain⟨v,rows,h1,h2,h3,h4⟩:=jp8 ht hk (by simpa using hc) (by simpa using h0) hx
 obtain⟨l,h5,h6,h7⟩:=jp9 h2
 subst h5
 refine⟨v,l,h1,jjs h3 (by simp[Cont.n]) ?_,h7,?_⟩
 ·rw[List.length_replicate]; exact jqa fun r hr=>(h7 r hr).1
 ·rcases h4 with h4|⟨el,sp,h4,h8⟩
  ·exact .inl ⟨h4.1,by simpa using h4.2⟩
  ·exact .inr ⟨el,sp,h4,by simpa using h8⟩
theorem jxH {t e:TypeId} {d fuel:Nat} {cs:List Value} {x:DataW H × List MemPlace} (ht:P.underlying t=some (.slice e)) (hk:jes P d e=some [.i .i64]) (hc:P.cellsOf e=1)
  (hx:DataW.trod enc P w base spare held fuel t cs=some x) :
  ∃(v:Value) (l:List Int),cs=[v]∧jaC w v (.ints .i64 l)∧(∀x∈l,inI x)∧(x.1=.nil∧l=[]∨∃el sp,x.1=.slice el sp∧el.length=l.length):=by
 obtain⟨v,l,h1,h2,h3,h4⟩:=jxG (n:=1) ht hk hc (by omega) hx
 refine⟨v,l.map (fun r=>r.getD 0 0),h1,jjs h2 (by simp[Cont.n]) ?_,fun x hx=>?_,?_⟩
 ·simp only[Cont.flat]
  clear h2 h4
  induction l with
  |nil=>rfl
  |cons r l ih =>
   rw[List.map_cons,List.flatMap_cons,List.flatMap_cons,ih fun r hr=>h3 r (List.mem_cons_of_mem _ hr)]
   rfl
 ·obtain⟨r,hr,rfl⟩:=List.mem_map.1 hx
  have:=h3 r hr
  match r,this with
  |[y],this=>exact this.2 y (by simp)
 ·rcases h4 with h4|⟨el,sp,h4,h8⟩
  ·exact .inl ⟨h4.1,by simpa using h4.2⟩
  ·exact .inr ⟨el,sp,h4,by simpa using h8⟩
end
inductive ArgIs (w:World):Value→A→Prop where
 |d (x:D):ArgIs w x.val (.d x)
 |s (l:List D):ArgIs w (.agg (l.map D.val).toArray) (.s l)
 |r (v:Value) (c:Cont) (he:0<c.e) (h:jaC w v c):ArgIs w v (.r c)
section
variable [Globs] {P:Program} {w:World}
end
section
variable {H:Type} {enc:TypeId × Value→H} {P:Program}
theorem jsU {sp:Nat→Bool} (hl:laidOutB P=true) {W W':World} (hb:Below W.heap.size W W'):∀(ts:List TypeId) (vs:List Value) (ds:List (DataW H)) (ps:List MemPlace),(∀t∈ts,P.readableRec t=true∧t<P.types.size) →
  DataW.TrodAll enc P W 0 (fun _=>true) true ts vs ds ps→(∀p∈ps,p.block<W.heap.size)→(∀p∈ps,sp p.block=true)→DataW.TrodAll enc P W' 0 sp true ts vs ds ps
 |[],[],[],_,_,h,_,_=>h
 |t::ts,v::vs,d::ds,ps,ht,h,hlt,hs=>by
  obtain⟨p,q,h1,h2,rfl⟩:=h
  have htt:=ht t List.mem_cons_self
  exact⟨p,q,WideElems.Trod_stays hl htt.1 htt.2 h1 (fun x hx=>hb.same (hlt x (List.mem_append_left _ hx))) (fun x hx=>hs x (List.mem_append_left _ hx)),
   jsU hl hb ts vs ds q (fun t ht'=>ht t (List.mem_cons_of_mem _ ht')) h2 (fun x hx=>hlt x (List.mem_append_right _ hx)) (fun x hx=>hs x (List.mem_append_right _ hx)),rfl⟩
 |[],_::_,_,_,_,h,_,_=>h.elim
 |_::_,[],_,_,_,h,_,_=>h.elim
 |[],[],_::_,_,_,h,_,_=>h.elim
 |_::_,_::_,[],_,_,h,_,_=>h.elim
theorem jzh {f:Func} {s:ChangeSpec} {apart fresh handsOn again:Bool} {W W':World} {args:Array Value} {ds gs:List (DataW H)} {before:List MemPlace} {tb:TypeId} (hvars:s.vars=[]) (hrt:f.resultTypes=#[tb]) (htb:P.underlying tb=some .bool)
  (hres:(s.fn H (ds++gs)).results=[.lit (.bool true)]) (hargs:(s.fn H (ds++gs)).args=ds) (hsv:(s.fn H (ds++gs)).vars=[]) (hl:laidOutB P=true) (hread:∀t∈f.params.toList,P.readableRec t=true∧t<P.types.size)
  (hW:DataW.Whole enc P f.params.toList s.vars apart W args.toList ds gs before) (hb:Below W.heap.size W W'):s.post enc P f apart fresh handsOn again W args (.bool true) W':=by
 have hlt:∀p∈before,p.block<W.heap.size:=fun p hp=>hW.lt p hp
 have hW':=hW
 obtain⟨p,q,h1,h2,rfl,hfz,hnd⟩:=hW'
 rw[hvars]at h2
 have hq:q=[]:=by
  cases gs with
  |nil=>exact h2
  |cons _ _=>exact h2.elim
 subst hq
 rw[List.append_nil]at hlt hfz hnd
 have hA:∀sp:Nat→Bool,(∀x∈p,sp x.block=true)→DataW.TrodAll enc P W' 0 sp true f.params.toList args.toList ds p:=fun sp hs=>jsU hl hb _ _ _ _ hread h1 hlt hs
 have hR:∀(b:Nat) (sp:Nat→Bool) (hd:Bool),DataW.TrodAll enc P W' b sp hd [tb] [.bool true] [.lit (.bool true)] []:=fun b sp hd=>⟨[],[],⟨1,by simp[DataW.trod,htb,Value.cells]⟩,rfl,rfl⟩
 have hrl:(Value.bool true).resultList f.resultTypes.size=[.bool true]:=by rw[hrt]; rfl
 have hrt':f.resultTypes.toList=[tb]:=by rw[hrt]
 refine⟨ds,gs,p++[],[],p,[],hW,?_,?_,?_,World.keptBut_mono (fun x hx=>⟨hx,.inr (.inl (by simpa using hx))⟩) (hb.frame (·∈ p++[])),fun _=>⟨fun j t r hj hr=>?_,?_⟩⟩
 ·rw[hrl,hrt',hres]; exact hR _ _ _
 ·rw[hargs]; exact hA _ (fun x hx=>by simpa using hlt x hx)
 ·rw[hvars,hsv]; rfl
 ·rw[hrt]at hj
  rw[hrl]at hr
  cases j with
  |zero =>
   simp at hj hr
   subst hj; subst hr
   exact okWide_bool_mk htb _
  |succ j=>simp at hj
 ·refine⟨[.lit (.bool true)]++ds,[],p,⟨p,[],?_,by rw[hvars]; rfl,by simp,?_,?_⟩,fun x hx _=>by simpa using hx⟩
  ·rw[hrl,hrt']
   exact⟨[],p,⟨1,by simp[DataW.trod,htb,Value.cells]⟩,hA _ (fun _ _=>rfl),rfl⟩
  ·intro b off hp
   rw[hb.frozen (hlt _ hp)]
   exact hfz b off hp
  ·exact hnd
end
section
variable {H:Type} {enc:TypeId × Value→H} {P:Program} {w:World} {base:Nat} {spare:Nat→Bool} {held:Bool} {r:Reach} {b0:Nat}
theorem jzi {t e:TypeId} {v v':Value} (ht:P.underlying t=some (.slice e)) (hval:Value.okWide P w r b0 t v) (h:v.cells.toList=[v']):v=v':=by
 obtain⟨a,len,cap,rfl⟩:=okWide_slice ht hval
 simpa [Value.cells]using h
theorem jzj {t e:TypeId} {d:Nat} {v:Value} {x:DataW H} {p:List MemPlace} (ht:P.underlying t=some (.slice e)) (hk:jes P d e=some [.i .i64]) (hc:P.cellsOf e=1)
  (hval:Value.okWide P w r b0 t v) (h:DataW.Trod enc P w base spare held t v x p) :
  ∃l:List Int,ArgIs w v (.r (.ints .i64 l))∧(∀x∈l,inI x)∧(x=.nil∧l=[]∨∃el sp,x=.slice el sp∧el.length=l.length):=by
 obtain⟨fuel,hx⟩:=h
 obtain⟨v',l,h1,h2,h3,h4⟩:=jxH ht hk hc hx
 have:=jzi ht hval h1
 subst this
 exact⟨l,.r _ _ (Nat.succ_pos 0) h2,h3,h4⟩
theorem jBh {α:Type} {ts:List TypeId} {ds:List (DataW H)} (h:(DataW.weightsEach P ts ds).all (·≤ reachBytes)=true) {j:Nat} {t e:TypeId} {x:DataW H} {l:List α} (ht:ts[j]?=some t) (hd:ds[j]?=some x) (hu:P.underlying t=some (.slice e)) (hb:0<P.bytesOf e)
  (hx:x=.nil∧l=[]∨∃el sp,x=.slice el sp∧el.length=l.length):l.length*P.bytesOf e≤140737488355328:=by
 rcases hx with ⟨_,rfl⟩|⟨el,sp,rfl,he⟩
 ·simp
 ·have h1:=sized_slice h ht hd hu
  have h2:=reachBytes_lt
  have h3:l.length*P.bytesOf e≤(el.length+sp.length)*P.bytesOf e:=Nat.mul_le_mul_right _ (by omega)
  omega
end
end Go.Sx
end

section
namespace Go.Sx
open Go.RowKit Go.ChangeShapes Go.WideShapes
inductive K2 where
 |d (k:K)
 |s (ks:List K)
inductive T1 where
 |d (x:D)
 |r (c:Cont)
 |xl (X:XC)
inductive Cell2 (w:World):K2→Value→T1→Prop where
 |d (k:K) (x:D) (h:k.fits x):Cell2 w (.d k) x.val (.d x)
 |s (ks:List K) (v:Value) (rows:List (List D)) (h0:0<ks.length) (h:∀r∈rows,jbf ks r) (hr:jaC w v (.lits ks.length rows)):Cell2 w (.s ks) v (.r (.lits ks.length rows))
inductive Cells2 (w:World):List K2→List Value→List T1→Prop where
 |nil:Cells2 w [] [] []
 |cons {k:K2} {v:Value} {t:T1} {ks:List K2} {vs:List Value} {ts:List T1} (h:Cell2 w k v t) (r:Cells2 w ks vs ts):Cells2 w (k::ks) (v::vs) (t::ts)
theorem Cells2.append {w:World} {ks ks':List K2} {vs vs':List Value} {ts ts':List T1} (h:Cells2 w ks vs ts) (h':Cells2 w ks' vs' ts'):Cells2 w (ks++ks') (vs++vs') (ts++ts'):=by
 induction h with
 |nil=>exact h'
 |cons h r ih=>exact .cons h ih
def jeY (g:TypeId→Option (List K2)) (P:Program):Nat→List Field→Option (List K2)
 |_,[]=>some []
 |n,f::fs=>match g f.type with
  |none=>none
  |some ks=>if f.offset=n∧P.cellsOf f.type=ks.length then(jeY g P (n+ks.length) fs).map (ks ++ ·)else none
def jgU (P:Program):Nat→TypeId→Option (List K2)
 |0,_=>none
 |d+1,t=>match jes P d t with
  |some ks=>some (ks.map .d)
  |none=>match P.underlying t with
   |some (.slice e)=>match jes P d e with
    |some (k::ks)=>if P.cellsOf e=ks.length+1 then some [.s (k::ks)]else none
    |_=>none
   |some (.struct fs)=>match jeY (jgU P d) P 0 fs.toList with
    |some ks=>if P.cellsOf t=ks.length then some ks else none
    |none=>none
   |_=>none
section
variable {H:Type} {enc:TypeId × Value→H} {P:Program} {w:World} {base:Nat} {spare:Nat→Bool} {held:Bool}
theorem jzk {ks:List K} {ds:List D} (h:jbf ks ds):Cells2 w (ks.map .d) (ds.map D.val) (ds.map .d):=by
 induction ks generalizing ds with
 |nil=>cases ds with
  |nil=>exact .nil
  |cons _ _=>exact h.elim
 |cons k ks ih=>cases ds with
  |nil=>exact h.elim
  |cons d ds=>exact .cons (.d k d h.1) (ih h.2)
theorem jjA {g:TypeId→Option (List K2)} {m:Nat} (ih:∀t ks cs x,g t=some ks→DataW.trod enc P w base spare held m t cs=some x→∃ts,Cells2 w ks cs ts) :
  ∀(fs:List Field) (n:Nat) (ks:List K2) (cs:List Value),jeY g P n fs=some ks→cs.length=n+ks.length→(∀f∈fs,∃x,DataW.trod enc P w base spare held m f.type ((cs.drop f.offset).take (P.cellsOf f.type))=some x) →
   ∃ts,Cells2 w ks (cs.drop n) ts
 |[],n,ks,cs,hk,hl,_=>by
  simp only[jeY,Option.some.injEq]at hk
  subst hk
  refine⟨[],?_⟩
  simp at hl
  rw[List.drop_eq_nil_of_le (by omega)]
  exact .nil
 |f::fs,n,ks,cs,hk,hl,h=>by
  simp only[jeY]at hk
  split at hk
  ·cases hk
  ·rename_i kf hg
   split at hk
   ·rename_i hc
    cases hr:jeY g P (n+kf.length) fs with
    |none=>simp[hr]at hk
    |some kr =>
     simp only[hr,Option.map_some,Option.some.injEq]at hk
     subst hk
     obtain⟨x,hx⟩:=h f List.mem_cons_self
     rw[hc.1,hc.2]at hx
     obtain⟨ts0,h0⟩:=ih f.type kf _ x hg hx
     obtain⟨ts1,h1⟩:=jjA ih fs (n+kf.length) kr cs hr (by rw[hl,List.length_append]; omega) (fun f' hf'=>h f' (List.mem_cons_of_mem _ hf'))
     refine⟨ts0++ts1,?_⟩
     have e:cs.drop n=(cs.drop n).take kf.length++cs.drop (n+kf.length):=by rw[←List.drop_drop]; exact(List.take_append_drop _ _).symm
     rw[e]
     exact h0.append h1
   ·cases hk
theorem jhM:∀(d:Nat) (t:TypeId) (ks:List K2) (fuel:Nat) (cs:List Value) (x:DataW H × List MemPlace),jgU P d t=some ks→DataW.trod enc P w base spare held fuel t cs=some x→∃ts,Cells2 w ks cs ts
 |0,_,_,_,_,_,h,_=>by cases h
 |d+1,t,ks,fuel,cs,x,hk,hx=>by
  unfold jgU at hk
  split at hk
  ·rename_i ks' hks
   cases hk
   obtain⟨ds,rfl,h2⟩:=jf6 d t ks' fuel cs x hks hx
   exact⟨_,jzk h2⟩
  ·split at hk
   ·rename_i e ht
    split at hk
    ·rename_i k ks' hks
     split at hk
     ·rename_i hc
      cases hk
      obtain⟨v,rows,rfl,h2,h3,_⟩:=jp8 ht hks (by simpa using hc) (by simp) hx
      exact⟨_,.cons (.s _ v rows (by simp) h2 h3) .nil⟩
     ·cases hk
    ·cases hk
   ·rename_i fs ht
    split at hk
    ·rename_i ks' hks
     split at hk
     ·rename_i hc
      cases hk
      obtain⟨xs,n,rfl,_,hl,hxl,hf⟩:=DataW.trod_struct ht hx
      have:=jjA (enc:=enc) (w:=w) (base:=base) (spare:=spare) (held:=held) (g:=jgU P d) (m:=n) (fun t ks cs x h1 h2=>jhM d t ks n cs x h1 h2) fs.toList 0 ks cs hks (by rw[hl,hc]; omega) (fun f hfm=>by
       obtain⟨i,hi,hfi⟩:=List.mem_iff_getElem.1 hfm
       have hi':i<fs.size:=by simpa using hi
       have h1:=hf i f (by rw[Array.getElem?_eq_getElem hi']; simpa using hfi)
       exact⟨xs[i]'(by omega),by rw[h1,List.getElem?_eq_getElem]⟩)
      simpa using this
     ·cases hk
    ·cases hk
   ·cases hk
end
inductive T1Is (w:World):Value→T1→Prop where
 |d (x:D):T1Is w x.val (.d x)
 |r (v:Value) (c:Cont) (he:0<c.e) (h:jaC w v c):T1Is w v (.r c)
 |xl (v:Value) (X:XC) (h:IsX (fun k=>k<w.heap.size) w v X):T1Is w v (.xl X)
theorem jnh {w:World} {v:Value} {t:T1} (h:Cell2 w (.d (.i .i64)) v t):∃n:Int,T1Is w v (.d (.i .i64 n))∧inI n:=by
 cases h with
 |d k x h =>
  cases x with
  |i k n =>
   obtain⟨rfl,hw⟩:=h
   exact⟨n,.d _,by unfold inI; simpa [Lit.wf,IntKind.min,IntKind.max,IntKind.signed,IntKind.bits]using hw⟩
  |_=>exact h.elim
theorem jsV {w:World} {v:Value} {t:T1} (h:Cell2 w (.d .s) v t):∃n:ByteArray,T1Is w v (.d (.s n))∧n.size≤maxLen:=by
 cases h with
 |d k x h =>
  cases x with
  |s n=>exact⟨n,.d _,h⟩
  |_=>exact h.elim
theorem jqb {w:World} {n:Nat} {v:Value} {t:T1} (h:Cell2 w (.s (List.replicate n (.i .i64))) v t):∃l:List (List Int),T1Is w v (.r (.recs n l))∧∀r∈l,r.length=n∧∀x∈r,inI x:=by
 cases h with
 |s ks v rows h0 h2 h3 =>
  obtain⟨l,h5,h6,h7⟩:=jp9 h2
  subst h5
  rw[List.length_replicate]at h0 h3
  exact⟨l,.r v _ h0 (jjs h3 (by simp[Cont.n]) (jqa fun r hr=>(h7 r hr).1)),h7⟩
theorem jlk {w:World} {v:Value} {t:T1} (h:Cell2 w (.s [.i .i64]) v t):∃l:List Int,T1Is w v (.r (.ints .i64 l))∧∀x∈l,inI x:=by
 obtain⟨l,h2,h3⟩:=jqb (n:=1) h
 cases h2 with
 |r _ _ _ h2 =>
  refine⟨l.map (fun r=>r.getD 0 0),.r v _ (Nat.succ_pos 0) (jjs h2 (by simp[Cont.n]) ?_),fun x hx=>?_⟩
  ·simp only[Cont.flat]
   rename_i he
   clear h2 he
   induction l with
   |nil=>rfl
   |cons r l ih =>
    rw[List.map_cons,List.flatMap_cons,List.flatMap_cons,ih (fun r hr=>h3 r (List.mem_cons_of_mem _ hr))]
    rfl
  ·obtain⟨r,hr,rfl⟩:=List.mem_map.1 hx
   have:=h3 r hr
   match r,this with
   |[y],this=>exact this.2 y (by simp)
theorem t1_of {w:World} {v:Value} {c:Cont} (h:ArgIs w v (.r c)):T1Is w v (.r c):=by
 cases h with
 |r _ _ he h=>exact .r _ _ he h
section
variable [Globs]
inductive T2 where
 |c (t:T1)
 |a (l:List T1)
inductive T1sAre (w:World):List Value→List T1→Prop where
 |nil:T1sAre w [] []
 |cons {v:Value} {t:T1} {vs:List Value} {ts:List T1} (h:T1Is w v t) (r:T1sAre w vs ts):T1sAre w (v::vs) (t::ts)
inductive T2Is (w:World):Value→T2→Prop where
 |c {v:Value} {t:T1} (h:T1Is w v t):T2Is w v (.c t)
 |a {vs:List Value} {ts:List T1} (h:T1sAre w vs ts):T2Is w (.agg vs.toArray) (.a ts)
inductive T2sAre (w:World):List Value→List T2→Prop where
 |nil:T2sAre w [] []
 |cons {v:Value} {t:T2} {vs:List Value} {ts:List T2} (h:T2Is w v t) (r:T2sAre w vs ts):T2sAre w (v::vs) (t::ts)
structure TB where
 cs:List C
 hp:Hp
 n:Nat
def T1.bld (n:Nat):T1→TB
 | .d x=>⟨[.d x],[],n⟩
 | .r c=>⟨[.o n],[(n,.ext c)],n+1⟩
 | .xl X=>⟨[.o n],[(n,.xext X)],n+1⟩
def joD:Nat→List T1→TB
 |n,[]=>⟨[],[],n⟩
 |n,t::l=>let a:=t.bld n; let b:=joD a.n l; ⟨a.cs++b.cs,b.hp++a.hp,b.n⟩
structure TV where
 vs:List V
 hp:Hp
 n:Nat
def T2.bld (n:Nat):T2→TV
 | .c t=>let a:=t.bld n; ⟨[.w (.c (jfY a.cs))],a.hp,a.n⟩
 | .a l=>let a:=joD n l; ⟨[.w (.a a.cs)],a.hp,a.n⟩
def jcm:Nat→List T2→TV
 |n,[]=>⟨[],[],n⟩
 |n,t::l=>let a:=t.bld n; let b:=jcm a.n l; ⟨a.vs++b.vs,b.hp++a.hp,b.n⟩
def Hk (w:World) (v:Value):O→Prop
 | .ext c=>jaC w v c∧0<c.e
 | .xext X=>IsX (fun k=>k<w.heap.size) w v X
 |_=>False
structure TOK (w:World) (n:Nat) (ρ ρ':Env) (vals:List Value) (cs:List C) (hp:Hp) (n':Nat):Prop where
 agree:jae n ρ ρ'
 le:n≤n'
 val:cs.map (C.val ρ')=vals
 lt:∀c∈cs,C.lt n' c
 heap:∀k o,find hp k=some o→n≤k∧k<n'∧Hk w (ρ' k) o
theorem T1.bld_ok {w:World} {v:Value} {t:T1} (h:T1Is w v t) (n:Nat) (ρ:Env):∃ρ',TOK w n ρ ρ' [v] (t.bld n).cs (t.bld n).hp (t.bld n).n:=by
 cases h with
 |d x=>exact⟨ρ,jae.refl _ _,Nat.le_refl _,rfl,(fun c hc=>by simp only[T1.bld,List.mem_singleton]at hc; subst hc; trivial),fun _ _ h=>by cases h⟩
 |r v c he h =>
  refine⟨upd ρ n v,jal _ _ _,Nat.le_succ _,by simp[T1.bld,C.val],(fun c hc=>by simp only[T1.bld,List.mem_singleton]at hc; subst hc; exact Nat.lt_succ_self n),fun k o hf=>?_⟩
  simp only[T1.bld,find]at hf
  split at hf
  ·rename_i e
   subst e
   cases hf
   exact⟨Nat.le_refl _,Nat.lt_succ_self _,by rw[upd_same]; exact⟨h,he⟩⟩
  ·cases hf
 |xl v X h =>
  refine⟨upd ρ n v,jal _ _ _,Nat.le_succ _,by simp[T1.bld,C.val],(fun c hc=>by simp only[T1.bld,List.mem_singleton]at hc; subst hc; exact Nat.lt_succ_self n),fun k o hf=>?_⟩
  simp only[T1.bld,find]at hf
  split at hf
  ·rename_i e
   subst e
   cases hf
   exact⟨Nat.le_refl _,Nat.lt_succ_self _,by rw[upd_same]; exact h⟩
  ·cases hf
theorem TOK.append {w:World} {n n1 n2:Nat} {ρ ρ1 ρ2:Env} {a b:List Value} {ca cb:List C} {ha hb:Hp} (h1:TOK w n ρ ρ1 a ca ha n1) (h2:TOK w n1 ρ1 ρ2 b cb hb n2):TOK w n ρ ρ2 (a++b) (ca++cb) (hb++ha) n2:=by
 refine⟨h1.agree.trans h2.agree h1.le,Nat.le_trans h1.le h2.le,?_,?_,?_⟩
 ·rw[List.map_append,h2.val,←h1.val]
  congr 1
  exact List.map_congr_left fun c hc=>C.val_agree h2.agree (h1.lt c hc)
 ·intro c hc
  rcases List.mem_append.1 hc with hc|hc
  ·exact C.lt_mono h2.le (h1.lt c hc)
  ·exact h2.lt c hc
 ·intro k o hf
  rw[jat]at hf
  cases hg:find hb k with
  |some o2 =>
   rw[hg]at hf
   cases hf
   obtain⟨q1,q2,q3⟩:=h2.heap k o hg
   exact⟨Nat.le_trans h1.le q1,q2,q3⟩
  |none =>
   rw[hg]at hf
   obtain⟨q1,q2,q3⟩:=h1.heap k o hf
   exact⟨q1,Nat.lt_of_lt_of_le q2 h2.le,by rw[h2.agree k q2]; exact q3⟩
theorem jzl {w:World} {vs:List Value} {ts:List T1} (h:T1sAre w vs ts):∀(n:Nat) (ρ:Env),∃ρ',TOK w n ρ ρ' vs (joD n ts).cs (joD n ts).hp (joD n ts).n:=by
 induction h with
 |nil=>exact fun n ρ=>⟨ρ,jae.refl _ _,Nat.le_refl _,rfl,(fun _ h=>by cases h),fun _ _ h=>by cases h⟩
 |cons h r ih =>
  intro n ρ
  obtain⟨ρ1,k1⟩:=T1.bld_ok h n ρ
  obtain⟨ρ2,k2⟩:=ih _ ρ1
  exact⟨ρ2,k1.append k2⟩
structure TVOK (w:World) (n:Nat) (ρ ρ':Env) (vals:List Value) (vs:List V) (hp:Hp) (n':Nat):Prop where
 agree:jae n ρ ρ'
 le:n≤n'
 val:vs.map (V.val ρ')=vals
 lt:∀c∈vs,V.lt n' c
 heap:∀k o,find hp k=some o→n≤k∧k<n'∧Hk w (ρ' k) o
theorem T2.bld_ok {w:World} {v:Value} {t:T2} (h:T2Is w v t) (n:Nat) (ρ:Env):∃ρ',TVOK w n ρ ρ' [v] (t.bld n).vs (t.bld n).hp (t.bld n).n:=by
 cases h with
 | @c v t h =>
  obtain⟨ρ',k⟩:=T1.bld_ok h n ρ
  have hone:∃c,(t.bld n).cs=[c]:=by cases t<;>exact⟨_,rfl⟩
  obtain⟨c,hc⟩:=hone
  have hval:=k.val
  have hlt:=k.lt
  rw[hc]at hval hlt
  refine⟨ρ',k.agree,k.le,?_,?_,k.heap⟩
  ·simp only[T2.bld,hc,jfY,List.map_cons,List.map_nil,V.val,W.val]
   simpa using hval
  ·intro y hy
   simp only[T2.bld,hc,jfY,List.mem_singleton]at hy
   subst hy
   exact hlt c List.mem_cons_self
 | @a vs ts h =>
  obtain⟨ρ',k⟩:=jzl h n ρ
  refine⟨ρ',k.agree,k.le,?_,?_,k.heap⟩
  ·simp only[T2.bld,List.map_cons,List.map_nil,V.val,W.val,k.val]
  ·intro y hy
   simp only[T2.bld,List.mem_singleton]at hy
   subst hy
   exact k.lt
theorem jzm {w:World} {vs:List Value} {ts:List T2} (h:T2sAre w vs ts):∀(n:Nat) (ρ:Env),∃ρ',TVOK w n ρ ρ' vs (jcm n ts).vs (jcm n ts).hp (jcm n ts).n:=by
 induction h with
 |nil=>exact fun n ρ=>⟨ρ,jae.refl _ _,Nat.le_refl _,rfl,(fun _ h=>by cases h),fun _ _ h=>by cases h⟩
 | @cons v t vs ts h r ih =>
  intro n ρ
  obtain⟨ρ1,k1⟩:=T2.bld_ok h n ρ
  obtain⟨ρ2,k2⟩:=ih (t.bld n).n ρ1
  refine⟨ρ2,k1.agree.trans k2.agree k1.le,Nat.le_trans k1.le k2.le,?_,?_,?_⟩
  ·simp only[jcm,List.map_append,k2.val]
   have:(t.bld n).vs.map (V.val ρ2)=[v]:=by
    rw[←k1.val]
    exact List.map_congr_left fun c hc=>V.val_agree k2.agree (k1.lt c hc)
   rw[this]
   rfl
  ·intro c hc
   rcases List.mem_append.1 hc with hc|hc
   ·exact V.lt_mono k2.le (k1.lt c hc)
   ·exact k2.lt c hc
  ·intro k o hf
   have hf:find ((jcm (t.bld n).n ts).hp++(t.bld n).hp) k=some o:=hf
   rw[jat]at hf
   cases hg:find (jcm (t.bld n).n ts).hp k with
   |some o2 =>
    rw[hg]at hf
    cases hf
    obtain⟨q1,q2,q3⟩:=k2.heap k o hg
    exact⟨Nat.le_trans k1.le q1,q2,q3⟩
   |none =>
    rw[hg]at hf
    obtain⟨q1,q2,q3⟩:=k1.heap k o hf
    exact⟨q1,Nat.lt_of_lt_of_le q2 k2.le,by rw[k2.agree k q2]; exact q3⟩
theorem jwb {P:Program} {w:World} {f:Nat} {shs:List SV} {g:List Lf→Option GT} {vs:List Value} {ts:List T2} {ls:List Lf} {am:List C} {ob:Prop} {b:Bool} {fn:Func} (hok:jaf P f true (jak shs g)) (hargs:T2sAre w vs ts)
  (hto:ji0 (jcm 0 ts).hp shs (jcm 0 ts).vs=some (ls,am)) (hg:g ls=some (.leaf ob [.c (.d (.b b))])) (ho:ob) (hb:b=true)
  (hfn:P.funcs[f]?=some fn) (hbody:fn.body=some (fn.body.getD .skip)) (hn:(fn.name == "runtime.NumGoroutine")=false) (hgl:jbV (fun k=>k<w.heap.size) w) :
  Calls P f vs.toArray w fun e w'=>e=.returned (.bool true)∧Below w.heap.size w w':=by
 subst hb
 obtain⟨ρ,k⟩:=jzm hargs 0 (fun _=>undef)
 have hh:HRel ρ (kd fun k=>k<w.heap.size) (jcm 0 ts).hp (jcm 0 ts).n w:=by
  refine⟨fun x o hf=>?_,fun x o x' o' q hf hf' _ hb=>?_,hgl⟩
  ·obtain⟨_,q2,q3⟩:=k.heap x o hf
   cases o with
   |ext c=>exact⟨q2,trivial,q3.1,jaC.lt q3.1 q3.2⟩
   |xext X=>exact⟨q2,trivial,q3⟩
   |_=>exact q3.elim
  ·obtain⟨_,_,q3⟩:=k.heap x o hf
   cases o with
   |ext c=>cases hb
   |xext X=>cases hb
   |_=>exact q3.elim
 have:=(hok.sound hfn hbody hn).sound ρ (kd fun k=>k<w.heap.size) w (jcm 0 ts).vs (jcm 0 ts).hp (jcm 0 ts).n ((GT.leaf ob [.c (.d (.b true))]).toRT am (jcm 0 ts).hp (jcm 0 ts).n) (by
  unfold jak
  rw[hto]
  dsimp only
  rw[hg]) ho k.lt hh (fun k hk=>jby.1 hk)
 rw[k.val]at this
 refine this.mono ?_
 rintro e w' ⟨ρ',rfl,hl⟩
 exact⟨rfl,hl.mono rfl⟩
end
end Go.Sx
end

section
namespace Go.Sx
open Go.RowKit Go.ChangeShapes Go.WideShapes
def jzC (w:World) (ks:List K2) (v:Value):Prop :=
 ∃(n:Nat) (us:Nat→List Value) (ts:Nat→List T1) (a:Option Addr) (cap:Nat),(∀i,i<n→Cells2 w ks (us i) (ts i))∧v=.slice a n cap∧(n≤cap∧(a=none→cap=0)) ∧
  (0<n→∃b off,a=some ⟨b,off,none⟩∧b<w.heap.size∧∀i j,i<n→j<ks.length→w.cell? ⟨b,off+(i*ks.length+j),none⟩=(us i)[j]?)
inductive K3 where
 |k (k:K2)
 |x (ks:List K2)
inductive Cell3 (w:World):K3→Value→Prop where
 |k (k:K2) (v:Value) (t:T1) (h:Cell2 w k v t):Cell3 w (.k k) v
 |x (ks:List K2) (v:Value) (h0:0<ks.length) (h:jzC w ks v):Cell3 w (.x ks) v
inductive Cells3 (w:World):List K3→List Value→Prop where
 |nil:Cells3 w [] []
 |cons {k:K3} {v:Value} {ks:List K3} {vs:List Value} (h:Cell3 w k v) (r:Cells3 w ks vs):Cells3 w (k::ks) (v::vs)
theorem Cells3.append {w:World} {ks ks':List K3} {vs vs':List Value} (h:Cells3 w ks vs) (h':Cells3 w ks' vs'):Cells3 w (ks++ks') (vs++vs'):=by
 induction h with
 |nil=>exact h'
 |cons h r ih=>exact .cons h ih
theorem jzn {w:World} {ks:List K2} {vs:List Value} {ts:List T1} (h:Cells2 w ks vs ts):Cells3 w (ks.map .k) vs:=by
 induction h with
 |nil=>exact .nil
 |cons h r ih=>exact .cons (.k _ _ _ h) ih
def jeZ (g:TypeId→Option (List K3)) (P:Program):Nat→List Field→Option (List K3)
 |_,[]=>some []
 |n,f::fs=>match g f.type with
  |none=>none
  |some ks=>if f.offset=n∧P.cellsOf f.type=ks.length then(jeZ g P (n+ks.length) fs).map (ks ++ ·)else none
def jll (P:Program):Nat→TypeId→Option (List K3)
 |0,_=>none
 |d+1,t=>match jgU P d t with
  |some ks=>some (ks.map .k)
  |none=>match P.underlying t with
   |some (.slice e)=>match jgU P d e with
    |some (k::ks)=>if P.cellsOf e=ks.length+1 then some [.x (k::ks)]else none
    |_=>none
   |some (.struct fs)=>match jeZ (jll P d) P 0 fs.toList with
    |some ks=>if P.cellsOf t=ks.length then some ks else none
    |none=>none
   |_=>none
theorem Cells2.len {w:World} {ks:List K2} {vs:List Value} {ts:List T1} (h:Cells2 w ks vs ts):vs.length=ks.length∧ts.length=ks.length:=by
 induction h with
 |nil=>exact⟨rfl,rfl⟩
 |cons h r ih=>exact⟨by simp[ih.1],by simp[ih.2]⟩
section
variable {H:Type} {enc:TypeId × Value→H} {P:Program} {w:World} {base:Nat} {spare:Nat→Bool} {held:Bool}
theorem jwc {t e:TypeId} {ks:List K2} {d fuel:Nat} {cs:List Value} {x:DataW H × List MemPlace} (ht:P.underlying t=some (.slice e)) (hk:jgU P d e=some ks) (hc:P.cellsOf e=ks.length) (h0:0<ks.length)
  (hx:DataW.trod enc P w base spare held fuel t cs=some x):∃v,cs=[v]∧jzC w ks v:=by
 rcases DataW.trod_slice ht hx with ⟨rfl,rfl⟩|⟨a,len,cap,elems,rest,n,rfl,rfl,rfl,hb,hl,hm,hel,hi,_,_⟩
 ·exact⟨_,rfl,0,fun _=>[],fun _=>[],none,0,fun i hi=>by omega,rfl,⟨Nat.le_refl _,fun _=>rfl⟩,fun h=>by omega⟩
 ·have hget:∀i,i<len→∃p:List Value × List T1,Cells2 w ks p.1 p.2∧∀j,j<ks.length→w.cell? ((a.add (i*ks.length)).add j)=p.1[j]?:=fun i hil=>by
   have h1:=hi i hil
   rw[hc]at h1
   have h2:elems[i]?=some (elems[i]'(by omega)):=List.getElem?_eq_getElem (by omega)
   rw[h2]at h1
   obtain⟨cs',hcs,htr⟩:=Option.bind_eq_some_iff.1 h1
   obtain⟨ts,hts⟩:=jhM d e ks n cs' _ hk htr
   obtain⟨_,hcl,hat⟩:=World.cells?_some hcs
   exact⟨(cs',ts),hts,fun j hj=>hat j hj⟩
  let R:Nat→List Value × List T1:=fun i=>if h:i<len then Classical.choose (hget i h)else([],[])
  have hR:∀i (h:i<len),Cells2 w ks (R i).1 (R i).2∧∀j,j<ks.length→w.cell? ((a.add (i*ks.length)).add j)=(R i).1[j]?:=fun i h=>by
   have e:R i=Classical.choose (hget i h):=dif_pos h
   rw[e]
   exact Classical.choose_spec (hget i h)
  refine⟨_,rfl,len,fun i=>(R i).1,fun i=>(R i).2,some a,cap,fun i h=>(hR i h).1,rfl,⟨hl,fun h=>by cases h⟩,fun hn=>?_⟩
  have hlen:=(hR 0 hn).1.len.1
  have hcell0:w.cell? ((a.add (0*ks.length)).add 0)=some ((R 0).1[0]'(by omega)):=by
   rw[(hR 0 hn).2 0 h0,List.getElem?_eq_getElem]
  have hsp:a.spot=none:=by
   have h1:=hcell0
   simp[Addr.add]at h1
   cases hs:a.spot with
   |none=>rfl
   |some s =>
    exfalso
    unfold World.cell? at h1
    simp only[hs]at h1
    split at h1
    ·simp at h1
    ·cases h1
  obtain⟨b,off,sp⟩:=a
  simp only at hsp
  subst hsp
  refine⟨b,off,rfl,?_,fun i j hi hj=>?_⟩
  ·have h1:=hcell0
   rw[jaJ,jaJ]at h1
   exact World.block_lt_of_cell? w _ h1
  ·have:=(hR i hi).2 j hj
   rw[jaJ,jaJ,Nat.add_assoc]at this
   exact this
theorem jjB {g:TypeId→Option (List K3)} {m:Nat} (ih:∀t ks cs x,g t=some ks→DataW.trod enc P w base spare held m t cs=some x→Cells3 w ks cs) :
  ∀(fs:List Field) (n:Nat) (ks:List K3) (cs:List Value),jeZ g P n fs=some ks→cs.length=n+ks.length→(∀f∈fs,∃x,DataW.trod enc P w base spare held m f.type ((cs.drop f.offset).take (P.cellsOf f.type))=some x) →
   Cells3 w ks (cs.drop n)
 |[],n,ks,cs,hk,hl,_=>by
  simp only[jeZ,Option.some.injEq]at hk
  subst hk
  simp at hl
  rw[List.drop_eq_nil_of_le (by omega)]
  exact .nil
 |f::fs,n,ks,cs,hk,hl,h=>by
  simp only[jeZ]at hk
  split at hk
  ·cases hk
  ·rename_i kf hg
   split at hk
   ·rename_i hc
    cases hr:jeZ g P (n+kf.length) fs with
    |none=>simp[hr]at hk
    |some kr =>
     simp only[hr,Option.map_some,Option.some.injEq]at hk
     subst hk
     obtain⟨x,hx⟩:=h f List.mem_cons_self
     rw[hc.1,hc.2]at hx
     have h0:=ih f.type kf _ x hg hx
     have h1:=jjB ih fs (n+kf.length) kr cs hr (by rw[hl,List.length_append]; omega) (fun f' hf'=>h f' (List.mem_cons_of_mem _ hf'))
     have e:cs.drop n=(cs.drop n).take kf.length++cs.drop (n+kf.length):=by rw[←List.drop_drop]; exact(List.take_append_drop _ _).symm
     rw[e]
     exact h0.append h1
   ·cases hk
theorem jmr:∀(d:Nat) (t:TypeId) (ks:List K3) (fuel:Nat) (cs:List Value) (x:DataW H × List MemPlace),jll P d t=some ks→DataW.trod enc P w base spare held fuel t cs=some x→Cells3 w ks cs
 |0,_,_,_,_,_,h,_=>by cases h
 |d+1,t,ks,fuel,cs,x,hk,hx=>by
  unfold jll at hk
  split at hk
  ·rename_i ks' hks
   cases hk
   obtain⟨ts,h2⟩:=jhM d t ks' fuel cs x hks hx
   exact jzn h2
  ·split at hk
   ·rename_i e ht
    split at hk
    ·rename_i k ks' hks
     split at hk
     ·rename_i hc
      cases hk
      obtain⟨v,rfl,h2⟩:=jwc ht hks (by simpa using hc) (by simp) hx
      exact .cons (.x _ v (by simp) h2) .nil
     ·cases hk
    ·cases hk
   ·rename_i fs ht
    split at hk
    ·rename_i ks' hks
     split at hk
     ·rename_i hc
      cases hk
      obtain⟨xs,n,rfl,_,hl,hxl,hf⟩:=DataW.trod_struct ht hx
      have:=jjB (enc:=enc) (w:=w) (base:=base) (spare:=spare) (held:=held) (g:=jll P d) (m:=n) (fun t ks cs x h1 h2=>jmr d t ks n cs x h1 h2) fs.toList 0 ks cs hks (by rw[hl,hc]; omega) (fun f hfm=>by
       obtain⟨i,hi,hfi⟩:=List.mem_iff_getElem.1 hfm
       have hi':i<fs.size:=by simpa using hi
       have h1:=hf i f (by rw[Array.getElem?_eq_getElem hi']; simpa using hfi)
       exact⟨xs[i]'(by omega),by rw[h1,List.getElem?_eq_getElem]⟩)
      simpa using this
     ·cases hk
    ·cases hk
   ·cases hk
theorem jwd {r:Reach} {b0:Nat} {t:TypeId} {d:Nat} {ks:List K3} {v:Value} {x:DataW H} {p:List MemPlace} (ht:jbk P t=some true) (hk:jll P d t=some ks)
  (hval:Value.okWide P w r b0 t v) (h:DataW.Trod enc P w base spare held t v x p):∃vs,v=.agg (List.toArray vs)∧Cells3 w ks vs:=by
 obtain⟨fuel,hx⟩:=h
 have h1:=jmr d t ks fuel _ _ hk hx
 have hv:∃cs,v=.agg cs:=by
  unfold Value.okWide at hval
  cases hU:P.underlying t with
  |none=>simp[jbk,hU]at ht
  |some u =>
   rw[hU]at hval
   cases u with
   |struct fs=>obtain⟨cs,h,_⟩:=hval; exact⟨cs,h⟩
   |array n e=>obtain⟨cs,h,_⟩:=hval; exact⟨cs,h⟩
   |_=>simp[jbk,hU]at ht
 obtain⟨cs,rfl⟩:=hv
 exact⟨cs.toList,by simp,h1⟩
end
def T1.nc:T1→NC
 | .d x=>.d x
 | .r c=>.r c
 | .xl _=>.d (.v undef)
section
variable [Globs]
theorem jhc {w:World} {v:Value} {t:T1} (h:T1Is w v t) (hx:∀X,t≠.xl X):t.nc.at (fun k=>k<w.heap.size) w v:=by
 cases h with
 |d x=>exact rfl
 |r v c he h=>exact⟨h,jaC.lt h he⟩
 |xl v X h=>exact(hx X rfl).elim
abbrev jwe:List K2:=[.d .s,.d (.i .i64),.s [.i .i64],.s [.i .i64],.s [.i .i64],.d (.i .i64),.s (List.replicate 5 (.i .i64)),.d (.i .i64)]
abbrev jfd:List NK:=[.s,.i .i64,.ints .i64,.ints .i64,.ints .i64,.i .i64,.recs 5,.i .i64]
theorem jni {w:World} {vs:List Value} {ts:List T1} (h:Cells2 w jwe vs ts):∃r:List NC,jca jfd r∧r.length=8∧vs.length=8∧∀j u,vs[j]?=some u→(r.getD j (.d (.v undef))).at (fun k=>k<w.heap.size) w u:=by
 rcases h with _|⟨k0,r0⟩
 rcases r0 with _|⟨k1,r1⟩
 rcases r1 with _|⟨k2,r2⟩
 rcases r2 with _|⟨k3,r3⟩
 rcases r3 with _|⟨k4,r4⟩
 rcases r4 with _|⟨k5,r5⟩
 rcases r5 with _|⟨k6,r6⟩
 rcases r6 with _|⟨k7,r7⟩
 cases r7
 obtain⟨a0,e0,_⟩:=jsV k0
 obtain⟨a1,e1,_⟩:=jnh k1
 obtain⟨a2,e2,_⟩:=jlk k2
 obtain⟨a3,e3,_⟩:=jlk k3
 obtain⟨a4,e4,_⟩:=jlk k4
 obtain⟨a5,e5,_⟩:=jnh k5
 obtain⟨a6,e6,_⟩:=jqb k6
 obtain⟨a7,e7,_⟩:=jnh k7
 refine⟨[.d (.s a0),.d (.i .i64 a1),.r (.ints .i64 a2),.r (.ints .i64 a3),.r (.ints .i64 a4),.d (.i .i64 a5),.r (.recs 5 a6),.d (.i .i64 a7)],⟨rfl,fun j k x hk hx=>?_⟩,rfl,rfl,fun j u hu=>?_⟩
 ·match j,hk,hx with
  |0,hk,hx=>cases hk; cases hx; rfl
  |1,hk,hx=>cases hk; cases hx; rfl
  |2,hk,hx=>cases hk; cases hx; rfl
  |3,hk,hx=>cases hk; cases hx; rfl
  |4,hk,hx=>cases hk; cases hx; rfl
  |5,hk,hx=>cases hk; cases hx; rfl
  |6,hk,hx=>cases hk; cases hx; rfl
  |7,hk,hx=>cases hk; cases hx; rfl
  |j+8,hk,hx=>simp at hk
 ·match j,hu with
  |0,hu=>cases hu; exact jhc e0 (fun X h=>by cases h)
  |1,hu=>cases hu; exact jhc e1 (fun X h=>by cases h)
  |2,hu=>cases hu; exact jhc e2 (fun X h=>by cases h)
  |3,hu=>cases hu; exact jhc e3 (fun X h=>by cases h)
  |4,hu=>cases hu; exact jhc e4 (fun X h=>by cases h)
  |5,hu=>cases hu; exact jhc e5 (fun X h=>by cases h)
  |6,hu=>cases hu; exact jhc e6 (fun X h=>by cases h)
  |7,hu=>cases hu; exact jhc e7 (fun X h=>by cases h)
  |j+8,hu=>simp at hu
theorem jwf {w:World} {v:Value} (h:Cell3 w (.x jwe) v):∃l:List (List NC),T1Is w v (.xl (.st jfd l)):=by
 cases h with
 |x ks v h0 h =>
  obtain⟨n,us,ts,a,cap,h1,rfl,h3,h4⟩:=h
  let R:Nat→List NC:=fun i=>if h:i<n then Classical.choose (jni (h1 i h))else[]
  have hR:∀i (h:i<n),jca jfd (R i)∧(R i).length=8∧(us i).length=8∧∀j u,(us i)[j]?=some u→((R i).getD j (.d (.v undef))).at (fun k=>k<w.heap.size) w u:=fun i h=>by
   have e:R i=Classical.choose (jni (h1 i h)):=dif_pos h
   rw[e]
   exact Classical.choose_spec (jni (h1 i h))
  have hrows:∀r∈(List.range n).map R,jca jfd r:=fun r hr=>by
   obtain⟨i,hi,rfl⟩:=List.mem_map.1 hr
   exact(hR i (List.mem_range.1 hi)).1
  obtain⟨m1,m2,m3⟩:=(XC.st jfd []).cell_mk hrows
  have m1:(XC.st jfd ((List.range n).map R)).n=((List.range n).map R).length:=m1
  have m3:∀i j,i<((List.range n).map R).length→j<8→(XC.st jfd ((List.range n).map R)).cell i j=(((List.range n).map R).getD i []).getD j (.d (.v undef)):=m3
  have hn:(XC.st jfd ((List.range n).map R)).n=n:=by rw[m1]; simp
  refine⟨(List.range n).map R,.xl _ _ ⟨a,cap,by rw[hn],by rw[hn]; exact h3,fun h=>?_⟩⟩
  rw[hn]at h
  obtain⟨b,off,rfl,hb,hc⟩:=h4 h
  refine⟨b,off,rfl,hb,fun i j hi hj=>?_⟩
  rw[hn]at hi
  have hj:j<8:=hj
  obtain⟨_,q2,q3,q4⟩:=hR i hi
  have hu:(us i)[j]?=some ((us i)[j]'(by omega)):=List.getElem?_eq_getElem (by omega)
  refine⟨_,(hc i j hi hj).trans hu,?_⟩
  rw[m3 i j (by simpa using hi) hj]
  have:((List.range n).map R).getD i []=R i:=by simp[List.getD,hi]
  rw[this]
  exact q4 j _ hu
end
end Go.Sx
end
