/- Part 4 of the proof of FigureSheetsCard: the executor, the mirrors of the functions, the plain facts. -/
import Derived.Test.YtcklfboglnfepaaGreatDoorPC
import Derived.Shelf.Strings.OnBuilder
import Derived.Shelf.Strconv.Itoa3
import Derived.Shelf.Strings.Prefix
import Derived.Shelf.Strings.SplitShaped
import Derived.Shelf.Strconv.AtoiAll
import Derived.Lib.ItoaLen
set_option maxRecDepth 100000
set_option linter.unusedSectionVars false
set_option linter.unusedSimpArgs false
set_option linter.unusedVariables false
section
namespace Go.Sh
open Go Go.Proofs Go.RowKit Go.Sx
open Go.IntKind (wrap)
def jnJ:List (Option Cont):=[none,none,none]
def y56 (n lo hi:Int):Option Bool :=
 if lo≤n then
  some (decide (n≤hi))
 else
  some false
def jiB:List A→Option (Prop × List RV)
 |[.d (.i .i64 n),.d (.i .i64 lo),.d (.i .i64 hi)]=>some (ok (y56 n lo hi),[.d (.b ((val (y56 n lo hi))))])
 |_=>none
abbrev sp_35:jab→jab:=jas 35 true (jaq jnJ jiB)
theorem jtm (n lo hi:Int) (r:Bool) (h:Option.bind (y56 n lo hi) some=some r):ja6 Tryz.f35 (sp0) (fun _ _ _=>none) [.d (.i .i64 n),.d (.i .i64 lo),.d (.i .i64 hi)] [.d (.b r)]:=by
 refine Eq.mp (by kernel_rfl:(
 Br (decide (lo≤n))
  ((Ob True ∧
 (Ob (decide (n≤hi)=r) ∧
 True)))
  ((Ob True ∧
 (Ob (false=r) ∧
 True))))=_) ?_
 refine jaT h (fun h=>?_) (fun h=>?_)
 ·refine jad ?_
  exact rcs h
 ·refine jad ?_
  exact rcs h
theorem jtn:jah Tryz.prog 35 true (jaq jnJ jiB):=by
 refine jaw (sp:=sp0) (fn:=Tryz.f35) (body:=jai Tryz.f35) mixed jak Tryz.func35 (by kernel_rfl) (by kernel_rfl) fun as_ ob rs h ho=>?_
 unfold jiB at h
 split at h
 ·rename_i n lo hi
  cases h
  exact⟨Nat.le_of_ble_eq_true rfl,_,_,jtm n lo hi _ (jaj ho)⟩
 ·cases h
theorem sp_35_ok {sp:jab} (h:jac Tryz.prog sp):jac Tryz.prog (sp_35 sp):=jag jtn h
def jr4:List (Option Cont):=[some (.ints .i64 []),some (.ints .i64 [])]
def je3 (a b:List Int) (x0:Int):Option (Int ⊕ (Unit ⊕ Unit)) :=
 if x0<(↑(List.length a):Int)then
  if 0≤x0∧x0<(↑(List.length a):Int)then
  if Int.toNat x0<List.length a then
   if 0≤x0∧x0<(↑(List.length b):Int)then
   if Int.toNat x0<List.length b then
    if(List.getD a (Int.toNat x0) (0:Int)!=List.getD b (Int.toNat x0) (0:Int))=true then
    some (.inr ((.inl ())))
    else
    some (.inl (wrap .i64 (x0+1)))
   else none
   else none
  else none
  else none
 else
  some (.inr ((.inr ())))
def jto (u10:Unit):Option Bool :=
 some false
def jtp (u27:Unit):Option Bool :=
 some true
def je4:(Unit ⊕ Unit)→Option Bool :=
 (Sum.elim (jto) (jtp))
def jkd (a b:List Int):Option Bool :=
 if((↑(List.length a):Int)!=(↑(List.length b):Int))=true then
  some false
 else
  Option.bind (jae (je3 a b) big (0:Int)) (je4)
def jmm:List A→Option (Prop × List RV)
 |[.r (.ints .i64 a),.r (.ints .i64 b)]=>some (ok (jkd a b),[.d (.b ((val (jkd a b))))])
 |_=>none
abbrev sp_55:jab→jab:=jas 55 true (jaq jr4 jmm)
theorem jwj (a b:List Int) (r:Bool) (h:Option.bind (jkd a b) some=some r):ja6 Tryz.f55 (sp0) (fun gs id _=>match id with
 |0=>some ⟨Int × Nat,fun z=>⟨[(0,.w (.c (.o 0))),(1,.w (.c (.o 1))),(5,.w (.c (.d (.i .i64 (Prod.fst z)))))],[(0,.ext (.ints .i64 a)),(1,.ext (.ints .i64 b))],2⟩,fun z=>Option.bind (jae (je3 a b) (Prod.snd z) (Prod.fst z)) (fun y0=>Option.bind (je4 y0) some)=some r,fun z=>Prod.snd z⟩
 |_=>none) [.r (.ints .i64 a),.r (.ints .i64 b)] [.d (.b r)]:=by
 refine Eq.mp (by kernel_rfl:(
 Br ((↑(List.length a):Int)!=(↑(List.length b):Int))
  ((Ob True ∧
 (Ob (false=r) ∧
 True)))
  (((∃(v0:Int × Nat),(Ob ((Option.bind (jae (je3 a b) v0.2 v0.1) fun y0=>Option.bind (je4 y0) some)=some r) ∧
 (Ob ((0:Int)=v0.1) ∧
 (Ob (a=a) ∧
 (Ob (b=b) ∧
 True))))) ∧
  (∀(v0:Int × Nat),((Option.bind (jae (je3 a b) v0.2 v0.1) fun y0=>Option.bind (je4 y0) some)=some r →
 Br (decide (v0.1<(↑(List.length a):Int)))
  ((Ob (0≤v0.1∧v0.1<(↑(List.length a):Int)) ∧
 (Ob (Int.toNat v0.1<List.length a) ∧
 (Ob (0≤v0.1∧v0.1<(↑(List.length b):Int)) ∧
 (Ob (Int.toNat v0.1<List.length b) ∧
 Br (List.getD a (Int.toNat v0.1) (0:Int)!=List.getD b (Int.toNat v0.1) (0:Int))
  ((Ob True ∧
 (Ob (false=r) ∧
 True)))
  ((∃(v1:Int × Nat),(Ob ((Option.bind (jae (je3 a b) v1.2 v1.1) fun y0=>Option.bind (je4 y0) some)=some r) ∧
 (Ob (v1.2<v0.2) ∧
 (Ob (wrap .i64 (v0.1+1)=v1.1) ∧
 (Ob (a=a) ∧
 (Ob (b=b) ∧
 True))))))))))))
  ((Ob True ∧
 (Ob (true=r) ∧
 True))))))))=_) ?_
 refine jaV h (fun h=>?_) (fun h=>?_)
 ·refine jad ?_
  exact rcs h
 ·refine⟨⟨((0:Int),big),⟨jbe h⟩,(by repeat' constructor)⟩,fun z0 hz0=>?_⟩
  obtain⟨k0,hm0,h⟩:=jaU hz0
  refine jaT h (fun h=>?_) (fun h=>?_)
  ·refine jat h fun h=>?_
   refine jat h fun h=>?_
   refine jat h fun h=>?_
   refine jat h fun h=>?_
   refine jaV h (fun h=>?_) (fun h=>?_)
   ·have h:=jaC h
    refine jad ?_
    exact rcs h
   ·exact⟨(_,k0),⟨jaQ h⟩,⟨ja0 hm0.symm⟩,(by repeat' constructor)⟩
  ·have h:=jaC h
   refine jad ?_
   exact rcs h
theorem jwk:jah Tryz.prog 55 true (jaq jr4 jmm):=by
 refine jaw (sp:=sp0) (fn:=Tryz.f55) (body:=jai Tryz.f55) mixed jak Tryz.func55 (by kernel_rfl) (by kernel_rfl) fun as_ ob rs h ho=>?_
 unfold jmm at h
 split at h
 ·rename_i a b
  cases h
  exact⟨Nat.le_of_ble_eq_true rfl,_,_,jwj a b _ (jaj ho)⟩
 ·cases h
theorem sp_55_ok {sp:jab} (h:jac Tryz.prog sp):jac Tryz.prog (sp_55 sp):=jag jwk h
def jpP:List (Option Cont):=[none,none]
def y27 (n by_:Int):Option Int :=
 if by_≠(0:Int)then
  if by_≠(0:Int)then
  if Int.tmod n by_<0 then
   some (wrap .i64 (wrap .i64 (Int.tdiv n by_)-1))
  else
   some (wrap .i64 (Int.tdiv n by_))
  else none
 else none
def jke:List A→Option (Prop × List RV)
 |[.d (.i .i64 n),.d (.i .i64 by_)]=>some (ok (y27 n by_),[.d (.i .i64 ((val (y27 n by_))))])
 |_=>none
abbrev sp_74:jab→jab:=jas 74 true (jaq jpP jke)
theorem ju2 (n by_ r:Int) (h:Option.bind (y27 n by_) some=some r):ja6 Tryz.f74 (sp0) (fun _ _ _=>none) [.d (.i .i64 n),.d (.i .i64 by_)] [.d (.i .i64 r)]:=by
 refine Eq.mp (by kernel_rfl:(
 (Ob (by_≠(0:Int)) ∧
 (Ob (by_≠(0:Int)) ∧
 Br (decide (Int.tmod n by_<0))
  ((Ob True ∧
 (Ob (wrap .i64 (wrap .i64 (Int.tdiv n by_)-1)=r) ∧
 True)))
  ((Ob True ∧
 (Ob (wrap .i64 (Int.tdiv n by_)=r) ∧
 True))))))=_) ?_
 refine jat h fun h=>?_
 refine jat h fun h=>?_
 refine jaT h (fun h=>?_) (fun h=>?_)
 ·refine jad ?_
  exact rcs h
 ·refine jad ?_
  exact rcs h
theorem ju3:jah Tryz.prog 74 true (jaq jpP jke):=by
 refine jaw (sp:=sp0) (fn:=Tryz.f74) (body:=jai Tryz.f74) mixed jak Tryz.func74 (by kernel_rfl) (by kernel_rfl) fun as_ ob rs h ho=>?_
 unfold jke at h
 split at h
 ·rename_i n by_
  cases h
  exact⟨Nat.le_of_ble_eq_true rfl,_,_,ju2 n by_ _ (jaj ho)⟩
 ·cases h
theorem sp_74_ok {sp:jab} (h:jac Tryz.prog sp):jac Tryz.prog (sp_74 sp):=jag ju3 h
def jr5:List (Option Cont):=[none,none]
def jbi (n by_:Int):Option Int :=
 Option.bind (y27 (wrap .i64 (0-n)) by_) fun r0 =>
 some (wrap .i64 (0-r0))
def jmn:List A→Option (Prop × List RV)
 |[.d (.i .i64 n),.d (.i .i64 by_)]=>some (ok (jbi n by_),[.d (.i .i64 ((val (jbi n by_))))])
 |_=>none
abbrev sp_75:jab→jab:=jas 75 true (jaq jr5 jmn)
theorem jwl (n by_ r:Int) (h:Option.bind (jbi n by_) some=some r):ja6 Tryz.f75 ((sp_74 sp0)) (fun _ _ _=>none) [.d (.i .i64 n),.d (.i .i64 by_)] [.d (.i .i64 r)]:=by
 refine Eq.mp (by kernel_rfl:(
 (Ob (ok (y27 (wrap .i64 (0-n)) by_)) ∧
 (Ob True ∧
 (Ob (wrap .i64 (0-val (y27 (wrap .i64 (0-n)) by_))=r) ∧
 True))))=_) ?_
 refine jav h fun h=>?_
 refine jad ?_
 exact rcs h
theorem jwm:jah Tryz.prog 75 true (jaq jr5 jmn):=by
 refine jaw (sp:=(sp_74 sp0)) (fn:=Tryz.f75) (body:=jai Tryz.f75) mixed (sp_74_ok jak) Tryz.func75 (by kernel_rfl) (by kernel_rfl) fun as_ ob rs h ho=>?_
 unfold jmn at h
 split at h
 ·rename_i n by_
  cases h
  exact⟨Nat.le_of_ble_eq_true rfl,_,_,jwl n by_ _ (jaj ho)⟩
 ·cases h
theorem sp_75_ok {sp:jab} (h:jac Tryz.prog sp):jac Tryz.prog (sp_75 sp):=jag jwm h
def jlW:List (Option Cont):=[none,none,none,none]
def jkf (x0:(Int × Int × Int × Int)):Option ((Int × Int × Int × Int) ⊕ Int) :=
 Option.bind (y27 x0.1 x0.2.1) fun r0 =>
 Option.bind (y27 x0.2.2.1 x0.2.2.2) fun r1 =>
 if r0<r1 then
  some (.inr (-1:Int))
 else
  if r0>r1 then
  some (.inr (1:Int))
  else
  if(wrap .i64 (x0.1-wrap .i64 (r0*x0.2.1))==0)=true then
   if(wrap .i64 (x0.2.2.1-wrap .i64 (r1*x0.2.2.2))==0)=true then
   some (.inr (0:Int))
   else
   if(wrap .i64 (x0.1-wrap .i64 (r0*x0.2.1))==0)=true then
    some (.inr (-1:Int))
   else
    none     else
   if(wrap .i64 (x0.1-wrap .i64 (r0*x0.2.1))==0)=true then
   none      else
   if(wrap .i64 (x0.2.2.1-wrap .i64 (r1*x0.2.2.2))==0)=true then
    some (.inr (1:Int))
   else
    some (.inl ((x0.2.2.2,wrap .i64 (x0.2.2.1-wrap .i64 (r1*x0.2.2.2)),x0.2.1,wrap .i64 (x0.1-wrap .i64 (r0*x0.2.1)))))
def joT (u10:Int):Option Int :=
 some u10
def y37 (n d m_ k:Int):Option Int :=
 Option.bind (jae (jkf) big (n,d,m_,k)) (joT)
def jhe:List A→Option (Prop × List RV)
 |[.d (.i .i64 n),.d (.i .i64 d),.d (.i .i64 m_),.d (.i .i64 k)]=>some (ok (y37 n d m_ k),[.d (.i .i64 ((val (y37 n d m_ k))))])
 |_=>none
abbrev sp_47:jab→jab:=jas 47 true (jaq jlW jhe)
abbrev jnK (v0:(Int × Int × Int × Int) × Nat):=(v0.1.2.2.1-wrap .i64 (val (y27 v0.1.2.2.1 v0.1.2.2.2)*v0.1.2.2.2))
abbrev jnL (v0:(Int × Int × Int × Int) × Nat):=(v0.1.1-wrap .i64 (val (y27 v0.1.1 v0.1.2.1)*v0.1.2.1))
theorem jr6 (n d m_ k r:Int) (h:Option.bind (y37 n d m_ k) some=some r):ja6 Tryz.f47 ((sp_74 sp0)) (fun gs id _=>match id with
 |0=>some ⟨(Int × Int × Int × Int) × Nat,fun z=>⟨[(0,.w (.c (.d (.i .i64 (Prod.fst (Prod.fst z)))))),(1,.w (.c (.d (.i .i64 (Prod.fst (Prod.snd (Prod.fst z))))))),(2,.w (.c (.d (.i .i64 (Prod.fst (Prod.snd (Prod.snd (Prod.fst z)))))))),(3,.w (.c (.d (.i .i64 (Prod.snd (Prod.snd (Prod.snd (Prod.fst z))))))))],[],4⟩,fun z=>Option.bind (jae (jkf) (Prod.snd z) (Prod.fst z)) (fun y0=>Option.bind (joT y0) some)=some r,fun z=>Prod.snd z⟩
 |_=>none) [.d (.i .i64 n),.d (.i .i64 d),.d (.i .i64 m_),.d (.i .i64 k)] [.d (.i .i64 r)]:=by
 refine Eq.mp (by kernel_rfl:(
 ((∃(v0:(Int × Int × Int × Int) × Nat),(Ob ((Option.bind (jae jkf v0.2 v0.1) fun y0=>Option.bind (joT y0) some)=some r) ∧
 (Ob (n=v0.1.1) ∧
 (Ob (d=v0.1.2.1) ∧
 (Ob (m_=v0.1.2.2.1) ∧
 (Ob (k=v0.1.2.2.2) ∧
 True)))))) ∧
  (∀(v0:(Int × Int × Int × Int) × Nat),((Option.bind (jae jkf v0.2 v0.1) fun y0=>Option.bind (joT y0) some)=some r →
 (Ob (ok (y27 v0.1.1 v0.1.2.1)) ∧
 (Ob (ok (y27 v0.1.2.2.1 v0.1.2.2.2)) ∧
 Br (decide (val (y27 v0.1.1 v0.1.2.1)<val (y27 v0.1.2.2.1 v0.1.2.2.2)))
  ((Ob True ∧
 (Ob ((-1:Int)=r) ∧
 True)))
 (Br (decide (val (y27 v0.1.1 v0.1.2.1)>val (y27 v0.1.2.2.1 v0.1.2.2.2)))
  ((Ob True ∧
 (Ob ((1:Int)=r) ∧
 True)))
 (Br (wrap .i64 (jnL v0)==0)
 (Br (wrap .i64 (jnK v0)==0)
  ((Ob True ∧
 (Ob ((0:Int)=r) ∧
 True)))
 (Br (wrap .i64 (jnL v0)==0)
  ((Ob True ∧
 (Ob ((-1:Int)=r) ∧
 True)))
 (Br (wrap .i64 (jnK v0)==0)
  ((Ob True ∧
 (Ob ((1:Int)=r) ∧
 True)))
  ((∃(v1:(Int × Int × Int × Int) × Nat),(Ob ((Option.bind (jae jkf v1.2 v1.1) fun y0=>Option.bind (joT y0) some)=some r) ∧
 (Ob (v1.2<v0.2) ∧
 (Ob (v0.1.2.2.2=v1.1.1) ∧
 (Ob (wrap .i64 (jnK v0)=v1.1.2.1) ∧
 (Ob (v0.1.2.1=v1.1.2.2.1) ∧
 (Ob (wrap .i64 (jnL v0)=v1.1.2.2.2) ∧
 True)))))))))))
 (Br (wrap .i64 (jnL v0)==0)
  ((Ob True ∧
 (Ob ((-1:Int)=r) ∧
 True)))
 (Br (wrap .i64 (jnK v0)==0)
  ((Ob True ∧
 (Ob ((1:Int)=r) ∧
 True)))
  ((∃(v1:(Int × Int × Int × Int) × Nat),(Ob ((Option.bind (jae jkf v1.2 v1.1) fun y0=>Option.bind (joT y0) some)=some r) ∧
 (Ob (v1.2<v0.2) ∧
 (Ob (v0.1.2.2.2=v1.1.1) ∧
 (Ob (wrap .i64 (jnK v0)=v1.1.2.1) ∧
 (Ob (v0.1.2.1=v1.1.2.2.1) ∧
 (Ob (wrap .i64 (jnL v0)=v1.1.2.2.2) ∧
 True))))))))))))))))))=_) ?_
 refine⟨⟨((n,d,m_,k),big),⟨jbe h⟩,(by repeat' constructor)⟩,fun z2 hz2=>?_⟩
 obtain⟨k2,hm2,h⟩:=jaU hz2
 refine jav h fun h=>?_
 refine jav h fun h=>?_
 refine jaT h (fun h=>?_) (fun h=>?_)
 ·have h:=jaC h
  refine jad ?_
  exact rcs h
 ·refine jaT h (fun h=>?_) (fun h=>?_)
  ·have h:=jaC h
   refine jad ?_
   exact rcs h
  ·refine jaV h (fun h=>?_) (fun h=>?_)
   ·refine jaV h (fun h=>?_) (fun h=>?_)
    ·have h:=jaC h
     refine jad ?_
     exact rcs h
    ·refine jaV h (fun h=>?_) (fun h=>?_)
     ·have h:=jaC h
      refine jad ?_
      exact rcs h
     ·exact nomatch h
   ·refine jaV h (fun h=>?_) (fun h=>?_)
    ·exact nomatch h
    ·refine jaV h (fun h=>?_) (fun h=>?_)
     ·have h:=jaC h
      refine jad ?_
      exact rcs h
     ·exact⟨(_,k2),⟨jaQ h⟩,⟨ja0 hm2.symm⟩,(by repeat' constructor)⟩
theorem jr7:jah Tryz.prog 47 true (jaq jlW jhe):=by
 refine jaw (sp:=(sp_74 sp0)) (fn:=Tryz.f47) (body:=jai Tryz.f47) mixed (sp_74_ok jak) Tryz.func47 (by kernel_rfl) (by kernel_rfl) fun as_ ob rs h ho=>?_
 unfold jhe at h
 split at h
 ·rename_i n d m_ k
  cases h
  exact⟨Nat.le_of_ble_eq_true rfl,_,_,jr6 n d m_ k _ (jaj ho)⟩
 ·cases h
theorem sp_47_ok {sp:jab} (h:jac Tryz.prog sp):jac Tryz.prog (sp_47 sp):=jag jr7 h
def jr8:List (Option Cont):=[none]
def je5 (n:Int):Option Int :=
 some (if wrap .i64 (0-n)>n then wrap .i64 (0-n)else n)
def jmo:List A→Option (Prop × List RV)
 |[.d (.i .i64 n)]=>some (ok (je5 n),[.d (.i .i64 ((val (je5 n))))])
 |_=>none
abbrev sp_128:jab→jab:=jas 128 true (jaq jr8 jmo)
theorem jwn (n r:Int) (h:Option.bind (je5 n) some=some r):ja6 Tryz.f128 (sp0) (fun _ _ _=>none) [.d (.i .i64 n)] [.d (.i .i64 r)]:=by
 refine Eq.mp (by kernel_rfl:(
 (Ob True ∧
 (Ob ((if wrap .i64 (0-n)>n then wrap .i64 (0-n)else n)=r) ∧
 True)))=_) ?_
 refine jad ?_
 exact rcs h
theorem jwo:jah Tryz.prog 128 true (jaq jr8 jmo):=by
 refine jaw (sp:=sp0) (fn:=Tryz.f128) (body:=jai Tryz.f128) mixed jak Tryz.func128 (by kernel_rfl) (by kernel_rfl) fun as_ ob rs h ho=>?_
 unfold jmo at h
 split at h
 ·rename_i n
  cases h
  exact⟨Nat.le_of_ble_eq_true rfl,_,_,jwn n _ (jaj ho)⟩
 ·cases h
theorem sp_128_ok {sp:jab} (h:jac Tryz.prog sp):jac Tryz.prog (sp_128 sp):=jag jwo h
def jt1:List (Option Cont):=[none,none]
def jiC (n by_:Int):Option Int :=
 if by_≠(0:Int)then
  if Int.tmod n by_<0 then
  some (wrap .i64 (Int.tmod n by_+by_))
  else
  some (Int.tmod n by_)
 else none
def joU:List A→Option (Prop × List RV)
 |[.d (.i .i64 n),.d (.i .i64 by_)]=>some (ok (jiC n by_),[.d (.i .i64 ((val (jiC n by_))))])
 |_=>none
abbrev sp_148:jab→jab:=jas 148 true (jaq jt1 joU)
theorem jxL (n by_ r:Int) (h:Option.bind (jiC n by_) some=some r):ja6 Tryz.f148 (sp0) (fun _ _ _=>none) [.d (.i .i64 n),.d (.i .i64 by_)] [.d (.i .i64 r)]:=by
 refine Eq.mp (by kernel_rfl:(
 (Ob (by_≠(0:Int)) ∧
 Br (decide (Int.tmod n by_<0))
  ((Ob True ∧
 (Ob (wrap .i64 (Int.tmod n by_+by_)=r) ∧
 True)))
  ((Ob True ∧
 (Ob (Int.tmod n by_=r) ∧
 True)))))=_) ?_
 refine jat h fun h=>?_
 refine jaT h (fun h=>?_) (fun h=>?_)
 ·refine jad ?_
  exact rcs h
 ·refine jad ?_
  exact rcs h
theorem jxM:jah Tryz.prog 148 true (jaq jt1 joU):=by
 refine jaw (sp:=sp0) (fn:=Tryz.f148) (body:=jai Tryz.f148) mixed jak Tryz.func148 (by kernel_rfl) (by kernel_rfl) fun as_ ob rs h ho=>?_
 unfold joU at h
 split at h
 ·rename_i n by_
  cases h
  exact⟨Nat.le_of_ble_eq_true rfl,_,_,jxL n by_ _ (jaj ho)⟩
 ·cases h
theorem sp_148_ok {sp:jab} (h:jac Tryz.prog sp):jac Tryz.prog (sp_148 sp):=jag jxM h
def jeS:List SV:=[.c (.d)]
def jgh (f:Nat):Option Bool :=
 if(Ieee.Format.order (FloatKind.format .f64) f f != some Ordering.eq)=true then
  some false
 else
  if(Option.isSome (Ieee.Format.sub (FloatKind.format .f64) f f))=true then
  if(Ieee.Format.order (FloatKind.format .f64) (Option.getD (Ieee.Format.sub (FloatKind.format .f64) f f) (0:Nat)) (0:Nat)!=some Ordering.eq)=true then
   some false
  else
   if(Ieee.Format.order (FloatKind.format .f64) f (14069741636278059008:Nat)==some Ordering.gt||Ieee.Format.order (FloatKind.format .f64) f (14069741636278059008:Nat)==some Ordering.eq)=true then
   if(!(Ieee.Format.order (FloatKind.format .f64) f (4846369599423283200:Nat)==some Ordering.lt||Ieee.Format.order (FloatKind.format .f64) f (4846369599423283200:Nat)==some Ordering.eq))=true then
    some true
   else
    if jca .f64 .i64 f=true then
    some (Ieee.Format.order (FloatKind.format .f64) (FloatKind.nearest .f64 (f2i .f64 f)) f==some Ordering.eq)
    else none
   else
   some true
  else
  some false
def jr9:Option Bool :=
 some false
def jhf:List Lf→Option GT
 |[.d (.f .f64 f)]=>some (.leaf (ok (jgh f)) [.c (.d (.b ((val (jgh f)))))])
 |[.n .f64]=>some (.leaf (ok (jr9)) [.c (.d (.b ((val (jr9)))))])
 |_=>none
abbrev sp_121:jab→jab:=jas 121 true (jal jeS jhf)
theorem jsa (f:Nat) (r:Bool) (h:Option.bind (jgh f) some=some r):jaY Tryz.f121 (sp0) (fun _ _ _=>none) (jaO jeS [.d (.f .f64 f)]) [.c (.d (.b r))]:=by
 refine Eq.mp (by kernel_rfl:(
 Br (Ieee.Format.order (FloatKind.format .f64) f f != some Ordering.eq)
  ((Ob True ∧
 (Ob (false=r) ∧
 True)))
 (Br (Option.isSome (Ieee.Format.sub (FloatKind.format .f64) f f))
  ((Ob True ∧
 Br (Ieee.Format.order (FloatKind.format .f64) (Option.getD (Ieee.Format.sub (FloatKind.format .f64) f f) (0:Nat)) (0:Nat)!=some Ordering.eq)
  ((Ob True ∧
 (Ob (false=r) ∧
 True)))
 (Br (Ieee.Format.order (FloatKind.format .f64) f (14069741636278059008:Nat)==some Ordering.gt||Ieee.Format.order (FloatKind.format .f64) f (14069741636278059008:Nat)==some Ordering.eq)
 (Br (!(Ieee.Format.order (FloatKind.format .f64) f (4846369599423283200:Nat)==some Ordering.lt||Ieee.Format.order (FloatKind.format .f64) f (4846369599423283200:Nat)==some Ordering.eq))
  ((Ob True ∧
 (Ob (true=r) ∧
 True)))
  ((Ob (jca .f64 .i64 f=true) ∧
 (Ob True ∧
 (Ob True ∧
 (Ob ((Ieee.Format.order (FloatKind.format .f64) (FloatKind.nearest .f64 (f2i .f64 f)) f==some Ordering.eq)=r) ∧
 True))))))
  ((Ob True ∧
 (Ob (true=r) ∧
 True))))))
  ((Ob True ∧
 (Ob True ∧
 (Ob (false=r) ∧
 True))))))=_) ?_
 refine jaV h (fun h=>?_) (fun h=>?_)
 ·refine jad ?_
  exact rcs h
 ·refine jaV h (fun h=>?_) (fun h=>?_)
  ·refine jad ?_
   refine jaV h (fun h=>?_) (fun h=>?_)
   ·refine jad ?_
    exact rcs h
   ·refine jaV h (fun h=>?_) (fun h=>?_)
    ·refine jaV h (fun h=>?_) (fun h=>?_)
     ·refine jad ?_
      exact rcs h
     ·refine jat h fun h=>?_
      refine jad ?_
      refine jad ?_
      exact rcs h
    ·refine jad ?_
     exact rcs h
  ·refine jad ?_
   refine jad ?_
   exact rcs h
theorem joV (r:Bool) (h:Option.bind (jr9) some=some r):jaY Tryz.f121 (sp0) (fun _ _ _=>none) (jaO jeS [.n .f64]) [.c (.d (.b r))]:=by
 refine Eq.mp (by kernel_rfl:(
 (Ob True ∧
 (Ob (false=r) ∧
 True)))=_) ?_
 refine jad ?_
 exact rcs h
theorem jsb:jah Tryz.prog 121 true (jal jeS jhf):=by
 refine jau (sp:=sp0) (fn:=Tryz.f121) (body:=jai Tryz.f121) mixed jak Tryz.func121 (by kernel_rfl) (by kernel_rfl) fun ls t h ho b hb=>?_
 unfold jhf at h
 split at h
 ·rename_i f
  cases h
  obtain rfl:=jaD hb
  exact⟨Nat.le_of_ble_eq_true (by kernel_rfl),_,_,jsa f _ (jaj ho)⟩
 ·cases h
  obtain rfl:=jaD hb
  exact⟨Nat.le_of_ble_eq_true (by kernel_rfl),_,_,joV _ (jaj ho)⟩
 ·cases h
theorem sp_121_ok {sp:jab} (h:jac Tryz.prog sp):jac Tryz.prog (sp_121 sp):=jag jsb h
def jkg (x0:(Int × ByteArray × ByteArray)):Option ((Int × ByteArray × ByteArray) ⊕ (ByteArray × ByteArray)) :=
 if(x0.1 != 0)=true then
  Option.bind (je5 (Int.tmod x0.1 (10:Int))) fun r0 =>
  if(↑(ByteArray.size (jht [wrap .u8 (wrap .i64 (48+r0))])+ByteArray.size x0.2.1):Int)≤9223372036854775807 then
  some (.inl ((wrap .i64 (Int.tdiv x0.1 (10:Int)),jht [wrap .u8 (wrap .i64 (48+r0))]++x0.2.1,x0.2.2)))
  else none
 else
  some (.inr (x0.2.1,x0.2.2))
def jd7 (u10:ByteArray × ByteArray):Option ByteArray :=
 if(↑(ByteArray.size u10.2+ByteArray.size u10.1):Int)≤9223372036854775807 then
  some (u10.2++u10.1)
 else none
def jkh (n:Int):Option ByteArray :=
 if(n==0)=true then
  some (ByteArray.mk #[(48:UInt8)])
 else
  if n<0 then
  Option.bind (jae (jkg) big ((n,ByteArray.mk #[],ByteArray.mk #[(45:UInt8)]))) (jd7)
  else
  Option.bind (jae (jkg) big (n,ByteArray.mk #[],ByteArray.mk #[])) (jd7)
end Go.Sh
end

section
namespace Go.Sh
open Go Go.Proofs Go.RowKit Go.Sx Go.Sx06 Ieee Go.Fl
open Go.IntKind (wrap)
theorem jbE (n:Int):IntKind.u64.wrap n=n%18446744073709551616:=by
 unfold wrap
 rfl
theorem b64:IntKind.bits IntKind.u64=64:=rfl
theorem jeT (x:Int):Int.fdiv x ((2:Int)^min (32:Nat) (IntKind.bits IntKind.u64))=x/4294967296:=by
 rw[Int.fdiv_eq_ediv_of_nonneg _ (by decide)]
 rfl
theorem jgi (x:Int):(↑(BitVec.toNat (BitVec.ofInt (IntKind.bits IntKind.u64) x &&& BitVec.ofInt (IntKind.bits IntKind.u64) (4294967295:Int))):Int)=x%4294967296:=by
 rw[BitVec.toNat_and]
 have e:(BitVec.ofInt (IntKind.bits IntKind.u64) (4294967295:Int)).toNat=2^32-1:=by decide
 rw[e,Nat.and_two_pow_sub_one_eq_mod,BitVec.toNat_ofInt,b64]
 omega
theorem mw (x:Int):x%4294967296%18446744073709551616=x%4294967296:=by omega
theorem jcp {n b:Int} (hb:0<b) (hn:-9223372036854775807≤n∧n≤9223372036854775807):y27 n b=some (n/b):=by
 have h1:=jtl (n:=n) hb
 have h2:=jlV (n:=n) hb
 unfold y27
 rw[if_pos (by omega),if_pos (by omega),jap (x:=n.tdiv b) (by omega)]
 split
 ·rename_i h
  rw[jwh hb h,jap (by omega)]
 ·rename_i h
  rw[jwi hb h]
def az (n:Int):Int:=max n (-n)
theorem jAj (n:Int):az n=(n.natAbs:Int):=by unfold az; omega
theorem jsc {n:Int} (h:inJ n):je5 n=some (az n):=by
 unfold inJ at h
 unfold je5 az
 rw[jap (x:=0-n) (by omega)]
 congr 1
 split<;>omega
theorem jsd {n:Int} (h:inJ n):ja1 n=some (az n):=by
 unfold inJ at h
 unfold ja1 az
 rw[jap (x:=0-n) (by omega)]
 congr 1
 split<;>omega
def jcq (n d m k:Int):Int:=if n*k<m*d then -1 else if m*d<n*k then 1 else 0
theorem jxN {n d m k:Int} (hn:0≤n) (hd:0<d) (hm:0≤m) (hk:0<k) :
  jcq n d m k=if n/d<m/k then -1 else if n/d>m/k then 1 else jcq (n%d) d (m%k) k:=by
 have a1:=Int.mul_ediv_add_emod n d
 have a2:=Int.emod_nonneg n (show d≠0 by omega)
 have a3:=Int.emod_lt_of_pos n hd
 have b1:=Int.mul_ediv_add_emod m k
 have b2:=Int.emod_nonneg m (show k≠0 by omega)
 have b3:=Int.emod_lt_of_pos m hk
 generalize n/d=q at *
 generalize n%d=r at *
 generalize m/k=q' at *
 generalize m%k=r' at *
 have e1:n*k=q*(d*k)+r*k:=by rw[←a1,Int.add_mul,Int.mul_comm d q,Int.mul_assoc]
 have e2:m*d=q' * (d*k)+r' * d:=by rw[←b1,Int.add_mul,Int.mul_comm k q',Int.mul_assoc,Int.mul_comm k d]
 have e3:r*k<d*k:=Int.mul_lt_mul_of_pos_right a3 hk
 have e4:r' * d<d*k:=by rw[Int.mul_comm d k]; exact Int.mul_lt_mul_of_pos_right b3 hd
 have e5:0≤r*k:=Int.mul_nonneg a2 (by omega)
 have e6:0≤r' * d:=Int.mul_nonneg b2 (by omega)
 unfold jcq
 rw[e1,e2]
 by_cases c1:q<q'
 ·have:=Int.mul_le_mul_of_nonneg_right (show q+1≤q' by omega) (show 0≤d*k by omega)
  rw[Int.add_mul]at this
  rw[if_pos c1,if_pos (by omega)]
 ·by_cases c2:q>q'
  ·have:=Int.mul_le_mul_of_nonneg_right (show q' + 1≤q by omega) (show 0≤d*k by omega)
   rw[Int.add_mul]at this
   rw[if_neg c1,if_pos c2,if_neg (by omega),if_pos (by omega)]
  ·have:q=q':=by omega
   subst this
   rw[if_neg c1,if_neg c2]
   by_cases d1:r*k<r' * d
   ·rw[if_pos d1,if_pos (by omega)]
   ·rw[if_neg d1,if_neg (by omega)]
    by_cases d2:r' * d<r*k
    ·rw[if_pos d2,if_pos (by omega)]
    ·rw[if_neg d2,if_neg (by omega)]
theorem jxO (r d r' k:Int):jcq k r' d r=jcq r d r' k:=by
 unfold jcq
 rw[Int.mul_comm k r,Int.mul_comm d r']
theorem jse:∀(s:Nat) (n d m k:Int) (N:Nat),0≤n→n≤9223372036854775807→0<d→d≤9223372036854775807→0≤m→m≤9223372036854775807→0<k→k≤9223372036854775807→d+k≤s→s<N→jae jkf N (n,d,m,k)=some (jcq n d m k):=by
 intro s
 induction s with
 |zero =>
  intro n d m k N _ _ h _ _ _ h' _ hs _
  omega
 |succ s ih =>
  intro n d m k N hn hn' hd hd' hm hm' hk hk' hs hN
  obtain⟨N,rfl⟩:∃M,N=M+1:=⟨N-1,by omega⟩
  rw[jxN hn hd hm hk]
  unfold jae jkf
  dsimp only
  rw[jcp hd (by omega),jaa,jcp hk (by omega),jaa]
  have a1:=Int.mul_ediv_add_emod n d
  have a2:=Int.emod_nonneg n (show d≠0 by omega)
  have a3:=Int.emod_lt_of_pos n hd
  have a4:0≤d*(n/d):=Int.mul_nonneg (by omega) (Int.ediv_nonneg hn (by omega))
  have b4:0≤k*(m/k):=Int.mul_nonneg (by omega) (Int.ediv_nonneg hm (by omega))
  have b1:=Int.mul_ediv_add_emod m k
  have b2:=Int.emod_nonneg m (show k≠0 by omega)
  have b3:=Int.emod_lt_of_pos m hk
  have e1:wrap .i64 (n-wrap .i64 (n/d*d))=n%d:=by
   rw[Int.mul_comm (n/d) d,jap (x:=d*(n/d)) (by omega),jap (by omega)]
   omega
  have e2:wrap .i64 (m-wrap .i64 (m/k*k))=m%k:=by
   rw[Int.mul_comm (m/k) k,jap (x:=k*(m/k)) (by omega),jap (by omega)]
   omega
  rw[e1,e2]
  by_cases c1:n/d<m/k
  ·rw[if_pos c1,if_pos c1]
  ·rw[if_neg c1,if_neg c1]
   by_cases c2:n/d>m/k
   ·rw[if_pos c2,if_pos c2]
   ·rw[if_neg c2,if_neg c2]
    clear a1 b1 e1 e2 a4 b4
    generalize n%d=r at *
    generalize m%k=r' at *
    by_cases d1:r=0
    ·subst d1
     rw[if_pos (by rfl)]
     by_cases d2:r'=0
     ·subst d2
      rw[if_pos (by rfl)]
      dsimp only
      unfold jcq
      rw[Int.zero_mul,Int.zero_mul,if_neg (by omega),if_neg (by omega)]
     ·rw[if_neg (by simpa using d2),if_pos (by rfl)]
      dsimp only
      unfold jcq
      rw[Int.zero_mul,if_pos (Int.mul_pos (by omega) hd)]
    ·rw[if_neg (by simpa using d1),if_neg (by simpa using d1)]
     by_cases d2:r'=0
     ·subst d2
      rw[if_pos (by rfl)]
      dsimp only
      have:=Int.mul_pos (show 0<r by omega) hk
      unfold jcq
      rw[Int.zero_mul,if_neg (by omega),if_pos this]
     ·rw[if_neg (by simpa using d2)]
      dsimp only
      exact(ih k r' d r N (by omega) (by omega) (by omega) (by omega) (by omega) (by omega) (by omega) (by omega) (by omega) (by omega)).trans (congrArg some (jxO r d r' k))
theorem jcL {n d m k:Int} (hn:0≤n) (hn':n≤9223372036854775807) (hd:0<d) (hd':d≤9223372036854775807) (hm:0≤m) (hm':m≤9223372036854775807) (hk:0<k) (hk':k≤9223372036854775807) :
  y37 n d m k=some (jcq n d m k):=by
 unfold y37
 rw[jse (d+k).toNat n d m k big hn hn' hd hd' hm hm' hk hk' (by omega) (by unfold big; omega),jaa]
 rfl
theorem jcF {x y:Int} (hx:0≤x) (hx':x<18446744073709551616) (hy:0≤y) (hy':y<18446744073709551616) :
  y6 x y=some (x*y/18446744073709551616,x*y%18446744073709551616):=by
 unfold y6
 simp only[jeT,jgi,jbE,mw]
 have a1:0≤x/4294967296∧x/4294967296≤4294967295:=by omega
 have a0:0≤x%4294967296∧x%4294967296≤4294967295:=by omega
 have b1:0≤y/4294967296∧y/4294967296≤4294967295:=by omega
 have b0:0≤y%4294967296∧y%4294967296≤4294967295:=by omega
 have ex:x=x/4294967296*4294967296+x%4294967296:=by omega
 have ey:y=y/4294967296*4294967296+y%4294967296:=by omega
 generalize x/4294967296=x1 at *
 generalize x%4294967296=x0 at *
 generalize y/4294967296=y1 at *
 generalize y%4294967296=y0 at *
 have p11:=Int.mul_le_mul a1.2 b1.2 b1.1 (by decide)
 have p10:=Int.mul_le_mul a1.2 b0.2 b0.1 (by decide)
 have p01:=Int.mul_le_mul a0.2 b1.2 b1.1 (by decide)
 have p00:=Int.mul_le_mul a0.2 b0.2 b0.1 (by decide)
 have n11:=Int.mul_nonneg a1.1 b1.1
 have n10:=Int.mul_nonneg a1.1 b0.1
 have n01:=Int.mul_nonneg a0.1 b1.1
 have n00:=Int.mul_nonneg a0.1 b0.1
 have e:x*y=x1*y1*18446744073709551616+(x1*y0+x0*y1)*4294967296+x0*y0:=by
  rw[ex,ey]
  grind
 rw[e]
 clear ex ey e
 generalize x1*y1=p at *
 generalize x1*y0=q at *
 generalize x0*y1=r at *
 generalize x0*y0=s at *
 congr 2
 ·omega
theorem jt2 (x y:Int):y42 x y=some (if x<y then -1 else if x>y then 1 else 0):=by
 unfold y42 y64
 simp only[jaa,bne_self_eq_false]
 by_cases h1:x<y
 ·simp[h1]
 ·by_cases h2:x>y
  ·simp[h1,h2]
  ·simp[h1,h2]
theorem jgj (a b c d:Int):y25 [a,b] [c,d]=some (if a<c then -1 else if a>c then 1 else if b<d then -1 else if b>d then 1 else 0):=by
 have s0:y19 [a,b] [c,d] 0=(if a<c then some (.inr (.inl (-1)))else if a>c then some (.inr (.inl 1))else some (.inl 1)):=by
  unfold y19
  rw[if_pos (by simp),if_pos (by simp),if_pos (by simp),if_neg (by simp),if_pos (by simp),if_pos (by simp),jt2,jaa]
  show(if((if a<c then(-1:Int)else if a>c then 1 else 0)!=0)=true then(some (Sum.inr (Sum.inl (if a<c then(-1:Int)else if a>c then 1 else 0))):Option (Int ⊕ (Int ⊕ Unit)))else some (Sum.inl (wrap .i64 (0+1))))=_
  by_cases h1:a<c
  ·simp[h1]
  ·by_cases h2:a>c
   ·simp[h1,h2]
   ·simp[h1,h2]
    rfl
 have s1:y19 [a,b] [c,d] 1=(if b<d then some (.inr (.inl (-1)))else if b>d then some (.inr (.inl 1))else some (.inl 2)):=by
  unfold y19
  rw[if_pos (by simp),if_pos (by simp),if_pos (by simp),if_neg (by simp),if_pos (by simp),if_pos (by simp),jt2,jaa]
  show(if((if b<d then(-1:Int)else if b>d then 1 else 0)!=0)=true then(some (Sum.inr (Sum.inl (if b<d then(-1:Int)else if b>d then 1 else 0))):Option (Int ⊕ (Int ⊕ Unit)))else some (Sum.inl (wrap .i64 (1+1))))=_
  by_cases h1:b<d
  ·simp[h1]
  ·by_cases h2:b>d
   ·simp[h1,h2]
   ·simp[h1,h2]
    rfl
 have s2:y19 [a,b] [c,d] 2=some (.inr (.inr ())):=by
  unfold y19
  rw[if_neg (by simp)]
 unfold y25
 have hb:big=(big-3)+1+1+1:=by decide
 rw[hb]
 unfold jae
 rw[s0]
 by_cases h1:a<c
 ·rw[if_pos h1,if_pos h1]
  rfl
 ·rw[if_neg h1,if_neg h1]
  by_cases h2:a>c
  ·rw[if_pos h2,if_pos h2]
   rfl
  ·rw[if_neg h2,if_neg h2]
   dsimp only
   unfold jae
   rw[s1]
   by_cases h3:b<d
   ·rw[if_pos h3,if_pos h3]
    rfl
   ·rw[if_neg h3,if_neg h3]
    by_cases h4:b>d
    ·rw[if_pos h4,if_pos h4]
     rfl
    ·rw[if_neg h4,if_neg h4]
     dsimp only
     unfold jae
     rw[s2]
     rfl
theorem jsf (x y:Int):(if x/18446744073709551616<y/18446744073709551616 then(-1:Int)else if x/18446744073709551616>y/18446744073709551616 then 1 else if x%18446744073709551616<y%18446744073709551616 then -1 else if x%18446744073709551616>y%18446744073709551616 then 1 else 0)=if x<y then -1 else if y<x then 1 else 0:=by
 split
 ·rw[if_pos (by omega)]
 ·split
  ·rw[if_neg (by omega),if_pos (by omega)]
  ·split
   ·rw[if_pos (by omega)]
   ·split
    ·rw[if_neg (by omega),if_pos (by omega)]
    ·rw[if_neg (by omega),if_neg (by omega)]
theorem jcM (n lo hi:Int):y56 n lo hi=some (decide (lo≤n∧n≤hi)):=by
 unfold y56
 by_cases h:lo≤n<;>simp[h]
theorem jd8 (n lo hi:Int):y7 n lo hi=some (decide (lo≤n∧n≤hi)):=by
 unfold y7
 by_cases h:lo≤n<;>simp[h]
theorem jdR (b:Bool) (e:Int):y9 b e=some (if b=true then 0 else e):=by
 unfold y9
 cases b<;>rfl
theorem jdc {n b:Int} (hb:0<b) (hn:-9223372036854775807≤n∧n≤9223372036854775807):jbi n b=some (-(-n/b)):=by
 have:=jlV (n:=-n) hb
 unfold jbi
 rw[jap (x:=0-n) (by omega),Int.zero_sub,jcp hb (by omega),jaa,jap (by omega),Int.zero_sub]
theorem jdI {n b:Int} (hb:0<b):-(-n/b)=(n+b-1)/b:=by
 have h1:=Int.mul_ediv_add_emod (-n) b
 have h2:=Int.emod_nonneg (-n) (show b≠0 by omega)
 have h3:=Int.emod_lt_of_pos (-n) hb
 generalize -n/b=q at *
 generalize -n%b=r at *
 symm
 have e:n+b-1=b*(-q)+(b-1-r):=by rw[Int.mul_neg]; omega
 rw[e,Int.add_comm,Int.add_mul_ediv_left _ _ (by omega),Int.ediv_eq_zero_of_lt (by omega) (by omega)]
 omega
theorem jeu {n b:Int} (hb:0<b) (hn:0≤n) (h:n+b≤9223372036854775807):jbh n b=some ((n+b-1)/b):=by
 have h1:0≤(n+b-1)/b:=Int.ediv_nonneg (by omega) (by omega)
 have h2:(n+b-1)/b≤n+b-1:=Int.ediv_le_self b (by omega)
 unfold jbh
 rw[if_pos (by omega),jap (x:=n+b) (by omega),jap (x:=n+b-1) (by omega),Int.tdiv_eq_ediv_of_nonneg (by omega),jap (by omega)]
def joW (l:List Int):Int:=(l.find? (fun x=>x != 0)).getD 0
theorem jsg {l:List Int} (hl:l.length<1000000):y40 l=some (joW l):=by
 have h:=jdm l 0 (fun n=>n != 0) (body:=jir l) (fun i=>.inl (l.getD i 0)) (.inr ()) (by omega)
  (fun i hi hp=>by
   unfold jir
   rw[if_pos (by omega),if_pos (by omega),if_pos (by omega),Int.toNat_natCast,if_pos hp])
  (fun i hi hp=>by
   unfold jir
   rw[if_pos (by omega),if_pos (by omega),if_pos (by omega),Int.toNat_natCast,if_neg (by rw[hp]; simp),jap (by omega)])
  (by unfold jir; rw[if_neg (by omega)])
 unfold y40
 rw[h,jaa]
 unfold joW
 cases hf:l.findIdx? (fun n=>n != 0)with
 |none =>
  rw[List.findIdx?_eq_none_iff]at hf
  have:l.find? (fun x=>x != 0)=none:=List.find?_eq_none.2 fun x hx=>by rw[hf x hx]; simp
  rw[this]; rfl
 |some k =>
  rw[List.findIdx?_eq_some_iff_getElem]at hf
  obtain⟨hk,hp,hbef⟩:=hf
  have:l.find? (fun x=>x != 0)=some l[k]:=List.find?_eq_some_iff_getElem.2 ⟨hp,k,hk,rfl,fun j hj=>by have:=hbef j hj; simpa using this⟩
  rw[this]
  simp[List.getD,hk,joE,jjX]
theorem firE2 (a b:Int):joW [a,b]=if a≠0 then a else b:=by
 unfold joW
 by_cases h:a=0
 ·by_cases h2:b=0<;>simp[h,h2]
 ·simp[h]
theorem firE3 (a b c:Int):joW [a,b,c]=if a≠0 then a else if b≠0 then b else c:=by
 unfold joW
 by_cases h:a=0
 ·by_cases h2:b=0
  ·by_cases h3:c=0<;>simp[h,h2,h3]
  ·simp[h,h2]
 ·simp[h]
end Go.Sh
end

section
namespace Go.Sh
open Go Go.Proofs Go.RowKit Go.Sx Go.Sx06 Go.Lib
def mkB (l:List UInt8):ByteArray:=⟨l.toArray⟩
theorem jev (l:List UInt8):(mkB l).data.toList=l:=rfl
theorem jwp (s:ByteArray):mkB s.data.toList=s:=mk_data s
theorem jcr (l:List UInt8):(mkB l).size=l.length:=by rw[size_eq]; rfl
end Go.Sh
end

section
open Go.RowKit
namespace Go.Sh
open Go Go.Proofs Go.RowKit Go.Sx
set_option maxRecDepth 100000
def jgQ:List SV:=[.a [.d,.r (.floats .f32 [])]]
def jki:List Lf→Option GT
 |[.d (.i .i64 rate),.r (.floats .f32 samples)]=>some (.br ((val (jao rate samples 0 0)).1 != (0:Int))
  (.leaf (ok (jao rate samples 0 0)) [.c (.d (.v (Value.pointer none))),.c (.d (.i .i64 ((val (jao rate samples 0 0)).1)))])
  (.leaf (ok (jao rate samples 0 0)) [.c (.box 133 [.d (.i .i64 rate),.g 0,.d (.i .i64 0),.d (.i .i64 0),.row 30 (.recs 2 ((val (jao rate samples 0 0)).2.1)),.row 30 (.recs 2 ((val (jao rate samples 0 0)).2.2))]),.c (.d (.i .i64 (0:Int)))]))
 |_=>none
abbrev sp_84:jab→jab:=jas 84 true (jal jgQ jki)
theorem jwq (rate:Int) (samples:List Nat) (e:Int) (ha:ok (jao rate samples (0:Int) (0:Int))) (hc:((val (jao rate samples (0:Int) (0:Int))).1 != (0:Int))=true) (he:(val (jao rate samples (0:Int) (0:Int))).1=e):jaY Tryz.f84 (sp_67 sp0) (fun _ _ _=>none) (jaO jgQ [.d (.i .i64 rate),.r (.floats .f32 samples)]) [.c (.d (.v (Value.pointer none))),.c (.d (.i .i64 e))]:=by
 refine Eq.mp (by kernel_rfl:(Br ((val (jao rate samples (0:Int) (0:Int))).1 != (0:Int))
  ((Ob (ok (jao rate samples (0:Int) (0:Int))) ∧
  (Ob True ∧
  (Ob True ∧
  (Ob (Value.pointer none=Value.pointer none) ∧
  (Ob ((val (jao rate samples (0:Int) (0:Int))).1=e) ∧
  True))))))
  ((Ob (ok (jao rate samples (0:Int) (0:Int))) ∧
  (Ob True ∧
  (Ob True ∧
  False)))))=_) ?_
 exact jrW (fun _=>⟨⟨ha⟩,⟨trivial⟩,⟨trivial⟩,⟨rfl⟩,⟨he⟩,trivial⟩) (fun h=>by rw[hc]at h; cases h)
theorem jwr (rate:Int) (samples:List Nat) (zs ss:List (List Int)) (ha:ok (jao rate samples (0:Int) (0:Int))) (hc:((val (jao rate samples (0:Int) (0:Int))).1 != (0:Int))=false) (h1:(val (jao rate samples (0:Int) (0:Int))).2.1=zs) (h2:(val (jao rate samples (0:Int) (0:Int))).2.2=ss):jaY Tryz.f84 (sp_67 sp0) (fun _ _ _=>none) (jaO jgQ [.d (.i .i64 rate),.r (.floats .f32 samples)]) [.c (.box 133 [.d (.i .i64 rate),.g 0,.d (.i .i64 0),.d (.i .i64 0),.row 30 (.recs 2 zs),.row 30 (.recs 2 ss)]),.c (.d (.i .i64 (0:Int)))]:=by
 refine Eq.mp (by kernel_rfl:(Br ((val (jao rate samples (0:Int) (0:Int))).1 != (0:Int))
  ((Ob (ok (jao rate samples (0:Int) (0:Int))) ∧
  (Ob True ∧
  (Ob True ∧
  False))))
  ((Ob (ok (jao rate samples (0:Int) (0:Int))) ∧
  (Ob True ∧
  (Ob True ∧
  (Ob (rate=rate) ∧
  (Ob ((0:Int)=(0:Int)) ∧
  (Ob ((0:Int)=(0:Int)) ∧
  (Ob ((val (jao rate samples (0:Int) (0:Int))).2.1=zs) ∧
  (Ob ((val (jao rate samples (0:Int) (0:Int))).2.2=ss) ∧
  (Ob ((0:Int)=(0:Int)) ∧
  True)))))))))))=_) ?_
 exact jrW (fun h=>by rw[hc]at h; cases h) (fun _=>⟨⟨ha⟩,⟨trivial⟩,⟨trivial⟩,⟨rfl⟩,⟨rfl⟩,⟨rfl⟩,⟨h1⟩,⟨h2⟩,⟨rfl⟩,trivial⟩)
theorem ju4:jah Tryz.prog 84 true (jal jgQ jki):=by
 refine jau (sp:=(sp_67 sp0)) (fn:=Tryz.f84) (body:=jai Tryz.f84) mixed (sp_67_ok jak) Tryz.func84 (by kernel_rfl) (by kernel_rfl) fun ls t h ho b hb=>?_
 unfold jki at h
 split at h
 ·rename_i rate samples
  cases h
  obtain rfl:=jaD hb
  refine⟨Nat.le_of_ble_eq_true (by kernel_rfl),40,fun _ _ _=>none,?_⟩
  cases hc:((val (jao rate samples (0:Int) (0:Int))).1 != (0:Int))with
  |true =>
   rw[hc]at ho
   exact jwq rate samples _ ho hc rfl
  |false =>
   rw[hc]at ho
   exact jwr rate samples _ _ ho hc rfl rfl
 ·cases h
theorem sp_84_ok {sp:jab} (h:jac Tryz.prog sp):jac Tryz.prog (sp_84 sp):=jag ju4 h
def jbb (rate:Int) (samples:List Nat) (block:Int):Option (Int × Int × List (List Int) × List (List Int)) :=
 Option.bind (jao rate samples (0:Int) (0:Int)) fun r =>
 if(r.1 != (0:Int))=true then
  Option.bind (y7 block (1:Int) (1024:Int)) fun b =>
  Option.bind (y9 b (2:Int)) fun u =>
  Option.bind (y40 [r.1,u]) fun f=>some (r.1,f,[],[])
 else
  Option.bind (y7 block (1:Int) (1024:Int)) fun b =>
  Option.bind (y9 b (2:Int)) fun u =>
  Option.bind (y40 [(0:Int),u]) fun f=>some (0,f,r.2.1,r.2.2)
def jdw:List SV:=[.a [.d,.r (.floats .f32 [])],.c .d]
def jfk:List Lf→Option GT
 |[.d (.i .i64 rate),.r (.floats .f32 samples),.d (.i .i64 block)]=>some (.br ((val (jbb rate samples block)).1 != (0:Int))
  (.leaf (ok (jbb rate samples block)) [.c (.d (.v (Value.pointer none))),.c (.d (.i .i64 ((val (jbb rate samples block)).2.1)))])
  (.leaf (ok (jbb rate samples block)) [.c (.box 133 [.d (.i .i64 rate),.g 0,.d (.i .i64 0),.d (.i .i64 0),.row 30 (.recs 2 ((val (jbb rate samples block)).2.2.1)),.row 30 (.recs 2 ((val (jbb rate samples block)).2.2.2))]),.c (.d (.i .i64 ((val (jbb rate samples block)).2.1)))]))
 |_=>none
abbrev sp_91:jab→jab:=jas 91 true (jal jdw jfk)
theorem jqp (rate:Int) (samples:List Nat) (block e:Int) (hc:((val (jao rate samples (0:Int) (0:Int))).1 != (0:Int))=true) (ha:ok (jao rate samples (0:Int) (0:Int))) (hw:ok (y7 block (1:Int) (1024:Int))) (hu:ok (y9 (val (y7 block (1:Int) (1024:Int))) (2:Int)))
  (hf:ok (y40 [(val (jao rate samples (0:Int) (0:Int))).1,val (y9 (val (y7 block (1:Int) (1024:Int))) (2:Int))])) (he:val (y40 [(val (jao rate samples (0:Int) (0:Int))).1,val (y9 (val (y7 block (1:Int) (1024:Int))) (2:Int))])=e) :
  jaY Tryz.f91 (sp_68 (sp_85 (sp_76 (sp_84 sp0)))) (fun _ _ _=>none) (jaO jdw [.d (.i .i64 rate),.r (.floats .f32 samples),.d (.i .i64 block)]) [.c (.d (.v (Value.pointer none))),.c (.d (.i .i64 e))]:=by
 refine Eq.mp (by kernel_rfl:(Br ((val (jao rate samples (0:Int) (0:Int))).1 != (0:Int))
   ((Ob (ok (jao rate samples (0:Int) (0:Int))) ∧
   (Ob (ok (y7 block (1:Int) (1024:Int))) ∧
   (Ob (ok (y9 (val (y7 block (1:Int) (1024:Int))) (2:Int))) ∧
   (Ob (ok (y40 [(val (jao rate samples (0:Int) (0:Int))).1,val (y9 (val (y7 block (1:Int) (1024:Int))) (2:Int))])) ∧
   (Ob True ∧
   (Ob True ∧
   (Ob (Value.pointer none=Value.pointer none) ∧
   (Ob (val (y40 [(val (jao rate samples (0:Int) (0:Int))).1,val (y9 (val (y7 block (1:Int) (1024:Int))) (2:Int))])=e) ∧
   True)))))))))
   ((Ob (ok (jao rate samples (0:Int) (0:Int))) ∧
   (Ob (ok (y7 block (1:Int) (1024:Int))) ∧
   (Ob (ok (y9 (val (y7 block (1:Int) (1024:Int))) (2:Int))) ∧
   (Ob (ok (y40 [(0:Int),val (y9 (val (y7 block (1:Int) (1024:Int))) (2:Int))])) ∧
   (Ob True ∧
   (Ob True ∧
   False))))))))=_) ?_
 exact jrW (fun _=>⟨⟨ha⟩,⟨hw⟩,⟨hu⟩,⟨hf⟩,⟨trivial⟩,⟨trivial⟩,⟨rfl⟩,⟨he⟩,trivial⟩) (fun h=>by rw[hc]at h; cases h)
theorem jqq (rate:Int) (samples:List Nat) (block e:Int) (zs ss:List (List Int)) (hc:((val (jao rate samples (0:Int) (0:Int))).1 != (0:Int))=false) (ha:ok (jao rate samples (0:Int) (0:Int))) (hw:ok (y7 block (1:Int) (1024:Int))) (hu:ok (y9 (val (y7 block (1:Int) (1024:Int))) (2:Int)))
  (hf:ok (y40 [(0:Int),val (y9 (val (y7 block (1:Int) (1024:Int))) (2:Int))])) (h1:(val (jao rate samples (0:Int) (0:Int))).2.1=zs) (h2:(val (jao rate samples (0:Int) (0:Int))).2.2=ss) (he:val (y40 [(0:Int),val (y9 (val (y7 block (1:Int) (1024:Int))) (2:Int))])=e) :
  jaY Tryz.f91 (sp_68 (sp_85 (sp_76 (sp_84 sp0)))) (fun _ _ _=>none) (jaO jdw [.d (.i .i64 rate),.r (.floats .f32 samples),.d (.i .i64 block)]) [.c (.box 133 [.d (.i .i64 rate),.g 0,.d (.i .i64 0),.d (.i .i64 0),.row 30 (.recs 2 zs),.row 30 (.recs 2 ss)]),.c (.d (.i .i64 e))]:=by
 refine Eq.mp (by kernel_rfl:(Br ((val (jao rate samples (0:Int) (0:Int))).1 != (0:Int))
   ((Ob (ok (jao rate samples (0:Int) (0:Int))) ∧
   (Ob (ok (y7 block (1:Int) (1024:Int))) ∧
   (Ob (ok (y9 (val (y7 block (1:Int) (1024:Int))) (2:Int))) ∧
   (Ob (ok (y40 [(val (jao rate samples (0:Int) (0:Int))).1,val (y9 (val (y7 block (1:Int) (1024:Int))) (2:Int))])) ∧
   (Ob True ∧
   (Ob True ∧
   False)))))))
   ((Ob (ok (jao rate samples (0:Int) (0:Int))) ∧
   (Ob (ok (y7 block (1:Int) (1024:Int))) ∧
   (Ob (ok (y9 (val (y7 block (1:Int) (1024:Int))) (2:Int))) ∧
   (Ob (ok (y40 [(0:Int),val (y9 (val (y7 block (1:Int) (1024:Int))) (2:Int))])) ∧
   (Ob True ∧
   (Ob True ∧
   (Ob (rate=rate) ∧
   (Ob ((0:Int)=(0:Int)) ∧
   (Ob ((0:Int)=(0:Int)) ∧
   (Ob ((val (jao rate samples (0:Int) (0:Int))).2.1=zs) ∧
   (Ob ((val (jao rate samples (0:Int) (0:Int))).2.2=ss) ∧
   (Ob (val (y40 [(0:Int),val (y9 (val (y7 block (1:Int) (1024:Int))) (2:Int))])=e) ∧
   True))))))))))))))=_) ?_
 exact jrW (fun h=>by rw[hc]at h; cases h) (fun _=>⟨⟨ha⟩,⟨hw⟩,⟨hu⟩,⟨hf⟩,⟨trivial⟩,⟨trivial⟩,⟨rfl⟩,⟨rfl⟩,⟨rfl⟩,⟨h1⟩,⟨h2⟩,⟨he⟩,trivial⟩)
theorem jdS {α:Type} {x:Option α} {y:α} (h:x=some y):ok x:=by rw[h]; rfl
theorem jbB {α:Type} [Inhabited α] {x:Option α} {y:α} (h:x=some y):val x=y:=by rw[h]; rfl
theorem joX:jah Tryz.prog 91 true (jal jdw jfk):=by
 refine jau (sp:=(sp_68 (sp_85 (sp_76 (sp_84 sp0))))) (fn:=Tryz.f91) (body:=jai Tryz.f91) mixed (sp_68_ok (sp_85_ok (sp_76_ok (sp_84_ok jak)))) Tryz.func91 (by kernel_rfl) (by kernel_rfl) fun ls t h ho b hb=>?_
 unfold jfk at h
 split at h
 ·rename_i rate samples block
  cases h
  obtain rfl:=jaD hb
  refine⟨Nat.le_of_ble_eq_true (by kernel_rfl),40,fun _ _ _=>none,?_⟩
  have hk:ok (jbb rate samples block):=by
   revert ho
   unfold GT.sel
   split<;>exact fun h=>h
  obtain⟨⟨c,e,zs,ss⟩,hr⟩:=Option.isSome_iff_exists.1 hk
  rw[jbB hr]
  unfold jbb at hr
  obtain⟨r,hr0,hr⟩:=Option.bind_eq_some_iff.1 hr
  split at hr
  ·rename_i hc
   obtain⟨b,hb1,hr⟩:=Option.bind_eq_some_iff.1 hr
   obtain⟨u,hu,hr⟩:=Option.bind_eq_some_iff.1 hr
   obtain⟨f,hf,hr⟩:=Option.bind_eq_some_iff.1 hr
   obtain⟨rfl,rfl,rfl,rfl⟩:r.1=c∧f=e∧[]=zs∧[]=ss:=by cases hr; exact⟨rfl,rfl,rfl,rfl⟩
   dsimp only
   rw[hc]
   rw[←jbB hr0]at hc
   rw[←jbB hb1]at hu
   refine jqp rate samples block _ hc (jdS hr0) (jdS hb1) (jdS hu) ?_ ?_
   ·rw[jbB hu,jbB hr0]
    exact jdS hf
   ·rw[jbB hu,jbB hr0]
    exact jbB hf
  ·rename_i hc
   obtain⟨b,hb1,hr⟩:=Option.bind_eq_some_iff.1 hr
   obtain⟨u,hu,hr⟩:=Option.bind_eq_some_iff.1 hr
   obtain⟨f,hf,hr⟩:=Option.bind_eq_some_iff.1 hr
   cases hr
   have hc:(r.1 != (0:Int))=false:=by simpa using hc
   rw[←jbB hr0]at hc
   rw[←jbB hb1]at hu
   refine jqq rate samples block _ _ _ hc (jdS hr0) (jdS hb1) (jdS hu) ?_ ?_ ?_ ?_
   ·rw[jbB hu]
    exact jdS hf
   ·rw[jbB hr0]
   ·rw[jbB hr0]
   ·rw[jbB hu]
    exact jbB hf
 ·cases h
theorem sp_91_ok {sp:jab} (h:jac Tryz.prog sp):jac Tryz.prog (sp_91 sp):=jag joX h
end Go.Sh
end

section
namespace Go.Sh
open Go Go.Proofs Go.RowKit Go.Sx
open Go.IntKind (wrap)
def y163:List SV:=[.c (.p [.d,.r (.floats .f32 []),.d,.d,.r (.recs 2 []),.r (.recs 2 [])]),.c (.d)]
def y29 (u11:Int) (u12:List Nat) (u13 u14:Int) (u9 u15:List (List Int)) (u25:Int):Option (Int × Int × Bool) :=
 Option.bind (y31 u15 u11 u12 u13 u14 u9 u15 u25) fun r0 =>
 Option.bind (y32 u15 u11 u12 u13 u14 u9 u15 u25) fun r1 =>
 if r1<0 then
  some (((0:Int),0,false))
 else
  if(r1==(↑(List.length u9):Int))=true then
  some (((0:Int),0,false))
  else
  some ((if wrap .i64 (r0-1)>0 then wrap .i64 (r0-1)else(0:Int),r1,true))
def y164:List Lf→Option GT
 |[.d (.i .i64 u11),.r (.floats .f32 u12),.d (.i .i64 u13),.d (.i .i64 u14),.r (.recs 2 u9),.r (.recs 2 u15),.d (.i .i64 u25)]=>some (.leaf (ok (y29 u11 u12 u13 u14 u9 u15 u25)) [.s [.d (.i .i64 ((val (y29 u11 u12 u13 u14 u9 u15 u25)).1)),.d (.i .i64 ((val (y29 u11 u12 u13 u14 u9 u15 u25)).2.1))],.c (.d (.b ((val (y29 u11 u12 u13 u14 u9 u15 u25)).2.2)))])
 |_=>none
abbrev sp_118:jab→jab:=jas 118 true (jal y163 y164)
def jls (u11:Int) (u12:List Nat) (u13 u14:Int) (u9 u15:List (List Int)) (u25:Int):T (Int × Int × Bool) :=
 .obT
 (.call (y31 u15 u11 u12 u13 u14 u9 u15 u25) fun r0 =>
 .obT
 (.call (y32 u15 u11 u12 u13 u14 u9 u15 u25) fun r1 =>
 .brP (r1<0)
 (.obT
 (.obT
 (.rc ((((0:Int),0,false))))))
 (.obT
 (.brB (r1==(↑(List.length u9):Int))
 (.obT
 (.obT
 (.rc ((((0:Int),0,false))))))
 (.obT
 (.obT
 (.rc (((if wrap .i64 (r0-1)>0 then wrap .i64 (r0-1)else(0:Int),r1,true))))))))))
theorem jkj (u11:Int) (u12:List Nat) (u13 u14:Int) (u9 u15:List (List Int)) (u25:Int) (r:Int × Int × Bool) (h:Option.bind (y29 u11 u12 u13 u14 u9 u15 u25) some=some r):jaY Tryz.f118 ((sp_142 (sp_143 (sp_94 sp0)))) (fun _ _ _=>none) (jaO y163 [.d (.i .i64 u11),.r (.floats .f32 u12),.d (.i .i64 u13),.d (.i .i64 u14),.r (.recs 2 u9),.r (.recs 2 u15),.d (.i .i64 u25)]) [.s [.d (.i .i64 r.1),.d (.i .i64 r.2.1)],.c (.d (.b r.2.2))] :=
 T.vc (t:=jls u11 u12 u13 u14 u9 u15 u25) (by kernel_rfl) (by kernel_rfl) h
theorem jkk:jah Tryz.prog 118 true (jal y163 y164):=by
 refine jau (sp:=(sp_142 (sp_143 (sp_94 sp0)))) (fn:=Tryz.f118) (body:=jai Tryz.f118) mixed (sp_142_ok (sp_143_ok (sp_94_ok jak))) Tryz.func118 (by kernel_rfl) (by kernel_rfl) fun ls t h ho b hb=>?_
 unfold y164 at h
 split at h
 ·rename_i u11 u12 u13 u14 u9 u15 u25
  cases h
  obtain rfl:=jaD hb
  exact⟨Nat.le_of_ble_eq_true (by kernel_rfl),_,_,jkj u11 u12 u13 u14 u9 u15 u25 _ (jaj ho)⟩
 ·cases h
theorem sp_118_ok {sp:jab} (h:jac Tryz.prog sp):jac Tryz.prog (sp_118 sp):=jag jkk h
def y145:List SV:=[.c (.p [.d,.r (.floats .f32 []),.d,.d,.r (.recs 2 []),.r (.recs 2 [])]),.c (.d)]
def y34 (u11:Int) (u12:List Nat) (u13 u14:Int) (u9 u15:List (List Int)) (u26:Int):Option (Int × Int × Int) :=
 if(0:Int)≤0∧0<(↑(List.length u15):Int)then
  if 0<List.length u15 then
  if(List.getD (List.getD u15 (0:Nat) []) 0 (0:Int)==0)=true then
   some (((0:Int),0,11))
  else
   if 0≤u26∧u26<(↑(3:Nat):Int)then
   if Int.toNat u26<List.length jaW then
    if List.getD (List.getD jaW (Int.toNat u26) []) 0 (0:Int)>0 then
    Option.bind (y29 u11 u12 u13 u14 u9 u15 (List.getD (List.getD jaW (Int.toNat u26) []) 0 (0:Int))) fun r0 =>
    if(!r0.2.2)=true then
     some (((0:Int),0,12))
    else
     Option.bind (y29 u11 u12 u13 u14 u9 u15 (List.getD (List.getD jaW (Int.toNat u26) []) 1 (0:Int))) fun r1 =>
     if(!r1.2.2)=true then
     some (((0:Int),0,12))
     else
     if u11≠(0:Int)then
      Option.bind (jbh (wrap .i64 (wrap .i64 (List.getD (List.getD jaW (Int.toNat u26) []) 2 0*wrap .i64 (r1.2.1-r0.1))*1000000)) u11) fun r2 =>
      some ((wrap .i64 (Int.tdiv (wrap .i64 (wrap .i64 (List.getD (List.getD jaW (Int.toNat u26) []) 2 0*if wrap .i64 (r1.1-r0.2.1)>0 then wrap .i64 (r1.1-r0.2.1)else 0)*1000000)) u11),r2,0))
     else none
    else
    Option.bind (y29 u11 u12 u13 u14 u9 u15 (List.getD (List.getD jaW (Int.toNat u26) []) 1 (0:Int))) fun r1 =>
    if(!r1.2.2)=true then
     some (((0:Int),0,12))
    else
     if u11≠(0:Int)then
     Option.bind (jbh (wrap .i64 (wrap .i64 (List.getD (List.getD jaW (Int.toNat u26) []) 2 0*wrap .i64 (r1.2.1-0))*1000000)) u11) fun r3 =>
     some ((wrap .i64 (Int.tdiv (wrap .i64 (wrap .i64 (List.getD (List.getD jaW (Int.toNat u26) []) 2 0*if wrap .i64 (r1.1-0)>0 then wrap .i64 (r1.1-0)else 0)*1000000)) u11),r3,0))
     else none
   else none
   else none
  else none
 else none
def y146:List Lf→Option GT
 |[.d (.i .i64 u11),.r (.floats .f32 u12),.d (.i .i64 u13),.d (.i .i64 u14),.r (.recs 2 u9),.r (.recs 2 u15),.d (.i .i64 u26)]=>some (.leaf (ok (y34 u11 u12 u13 u14 u9 u15 u26)) [.s [.d (.i .i64 ((val (y34 u11 u12 u13 u14 u9 u15 u26)).1)),.d (.i .i64 ((val (y34 u11 u12 u13 u14 u9 u15 u26)).2.1))],.c (.d (.i .i64 ((val (y34 u11 u12 u13 u14 u9 u15 u26)).2.2)))])
 |_=>none
abbrev sp_69:jab→jab:=jas 69 true (jal y145 y146)
def jje (u11:Int) (u12:List Nat) (u13 u14:Int) (u9 u15:List (List Int)) (u26:Int):T (Int × Int × Int) :=
 .obT
 (.obP ((0:Int)≤0∧0<(↑(List.length u15):Int))
 (.obP (0<List.length u15)
 (.brB (List.getD (List.getD u15 (0:Nat) []) 0 (0:Int)==0)
 (.obT
 (.obT
 (.rc ((((0:Int),0,11))))))
 (.obP (0≤u26∧u26<(↑(3:Nat):Int))
 (.obP (Int.toNat u26<List.length jaW)
 (.brP (List.getD (List.getD jaW (Int.toNat u26) []) 0 (0:Int)>0)
 (.call (y29 u11 u12 u13 u14 u9 u15 (List.getD (List.getD jaW (Int.toNat u26) []) 0 (0:Int))) fun r0 =>
 .brB (!r0.2.2)
 (.obT
 (.obT
 (.rc ((((0:Int),0,12))))))
 (.call (y29 u11 u12 u13 u14 u9 u15 (List.getD (List.getD jaW (Int.toNat u26) []) 1 (0:Int))) fun r1 =>
 .brB (!r1.2.2)
 (.obT
 (.obT
 (.rc ((((0:Int),0,12))))))
 (.obT
 (.obP (u11≠(0:Int))
 (.obT
 (.call (jbh (wrap .i64 (wrap .i64 (List.getD (List.getD jaW (Int.toNat u26) []) 2 0*wrap .i64 (r1.2.1-r0.1))*1000000)) u11) fun r2 =>
 .obT
 (.obT
 (.rc (((wrap .i64 (Int.tdiv (wrap .i64 (wrap .i64 (List.getD (List.getD jaW (Int.toNat u26) []) 2 0*if wrap .i64 (r1.1-r0.2.1)>0 then wrap .i64 (r1.1-r0.2.1)else 0)*1000000)) u11),r2,0)))))))))))
 (.call (y29 u11 u12 u13 u14 u9 u15 (List.getD (List.getD jaW (Int.toNat u26) []) 1 (0:Int))) fun r1 =>
 .brB (!r1.2.2)
 (.obT
 (.obT
 (.rc ((((0:Int),0,12))))))
 (.obT
 (.obP (u11≠(0:Int))
 (.obT
 (.call (jbh (wrap .i64 (wrap .i64 (List.getD (List.getD jaW (Int.toNat u26) []) 2 0*wrap .i64 (r1.2.1-0))*1000000)) u11) fun r3 =>
 .obT
 (.obT
 (.rc (((wrap .i64 (Int.tdiv (wrap .i64 (wrap .i64 (List.getD (List.getD jaW (Int.toNat u26) []) 2 0*if wrap .i64 (r1.1-0)>0 then wrap .i64 (r1.1-0)else 0)*1000000)) u11),r3,0))))))))))))))))
theorem jiD (u11:Int) (u12:List Nat) (u13 u14:Int) (u9 u15:List (List Int)) (u26:Int) (r:Int × Int × Int) (h:Option.bind (y34 u11 u12 u13 u14 u9 u15 u26) some=some r):jaY Tryz.f69 ((sp_118 (sp_119 sp0))) (fun _ _ _=>none) (jaO y145 [.d (.i .i64 u11),.r (.floats .f32 u12),.d (.i .i64 u13),.d (.i .i64 u14),.r (.recs 2 u9),.r (.recs 2 u15),.d (.i .i64 u26)]) [.s [.d (.i .i64 r.1),.d (.i .i64 r.2.1)],.c (.d (.i .i64 r.2.2))] :=
 T.vc (t:=jje u11 u12 u13 u14 u9 u15 u26) (by kernel_rfl) (by kernel_rfl) h
theorem jiE:jah Tryz.prog 69 true (jal y145 y146):=by
 refine jau (sp:=(sp_118 (sp_119 sp0))) (fn:=Tryz.f69) (body:=jai Tryz.f69) mixed (sp_118_ok (sp_119_ok jak)) Tryz.func69 (by kernel_rfl) (by kernel_rfl) fun ls t h ho b hb=>?_
 unfold y146 at h
 split at h
 ·rename_i u11 u12 u13 u14 u9 u15 u26
  cases h
  obtain rfl:=jaD hb
  exact⟨Nat.le_of_ble_eq_true (by kernel_rfl),_,_,jiD u11 u12 u13 u14 u9 u15 u26 _ (jaj ho)⟩
 ·cases h
theorem sp_69_ok {sp:jab} (h:jac Tryz.prog sp):jac Tryz.prog (sp_69 sp):=jag jiE h
def y195:List SV:=[.a [.d,.r (.floats .f32 []),.d,.d],.c (.d)]
def jmp (u4:Int) (u0:List Nat) (u6 u5 u26:Int):Option (Int × Int × Int) :=
 if((val (jao u4 u0 u6 u5)).1 != 0)=true then
  Option.bind (jao u4 u0 u6 u5) fun r0 =>
  if(r0.1 != 0)=true then
  some (((0:Int),0,r0.1))
  else
  none   else
  Option.bind (jao u4 u0 u6 u5) fun r0 =>
  Option.bind (y7 u26 (0:Int) (2:Int)) fun r1 =>
  if(!r1)=true then
  some (((0:Int),0,15))
  else
  Option.bind (y34 u4 u0 u6 u5 r0.2.1 r0.2.2 u26) fun r2 =>
  some (r2.1,r2.2.1,r2.2.2)
def y196:List Lf→Option GT
 |[.d (.i .i64 u4),.r (.floats .f32 u0),.d (.i .i64 u6),.d (.i .i64 u5),.d (.i .i64 u26)]=>some (.leaf (ok (jmp u4 u0 u6 u5 u26)) [.s [.d (.i .i64 ((val (jmp u4 u0 u6 u5 u26)).1)),.d (.i .i64 ((val (jmp u4 u0 u6 u5 u26)).2.1))],.c (.d (.i .i64 ((val (jmp u4 u0 u6 u5 u26)).2.2)))])
 |_=>none
abbrev sp_19:jab→jab:=jas 19 true (jal y195 y196)
def jnM (u4:Int) (u0:List Nat) (u6 u5 u26:Int):T (Int × Int × Int) :=
 .brB ((val (jao u4 u0 u6 u5)).1 != 0)
 (.call (jao u4 u0 u6 u5) fun r0 =>
 .brB (r0.1 != 0)
 (.obT
 (.obT
 (.rc ((((0:Int),0,r0.1))))))
 (.bad (fun r=>(Ob (ok (y7 u26 (0:Int) (2:Int))) ∧
 Br (!val (y7 u26 (0:Int) (2:Int)))
 ((Ob True ∧
 (Ob True ∧
 (Ob ((0:Int)=r.1) ∧
 (Ob ((0:Int)=r.2.1) ∧
 (Ob ((15:Int)=r.2.2) ∧
 True))))))
 (False)))))
 (.call (jao u4 u0 u6 u5) fun r0 =>
 .call (y7 u26 (0:Int) (2:Int)) fun r1 =>
 .brB (!r1)
 (.obT
 (.obT
 (.rc ((((0:Int),0,15))))))
 (.call (y34 u4 u0 u6 u5 r0.2.1 r0.2.2 u26) fun r2 =>
 .obT
 (.obT
 (.rc ((r2.1,r2.2.1,r2.2.2))))))
theorem jmq (u4:Int) (u0:List Nat) (u6 u5 u26:Int) (r:Int × Int × Int) (h:Option.bind (jmp u4 u0 u6 u5 u26) some=some r):jaY Tryz.f19 ((sp_67 (sp_68 (sp_69 sp0)))) (fun _ _ _=>none) (jaO y195 [.d (.i .i64 u4),.r (.floats .f32 u0),.d (.i .i64 u6),.d (.i .i64 u5),.d (.i .i64 u26)]) [.s [.d (.i .i64 r.1),.d (.i .i64 r.2.1)],.c (.d (.i .i64 r.2.2))] :=
 T.vc (t:=jnM u4 u0 u6 u5 u26) (by kernel_rfl) (by kernel_rfl) h
theorem jmr:jah Tryz.prog 19 true (jal y195 y196):=by
 refine jau (sp:=(sp_67 (sp_68 (sp_69 sp0)))) (fn:=Tryz.f19) (body:=jai Tryz.f19) mixed (sp_67_ok (sp_68_ok (sp_69_ok jak))) Tryz.func19 (by kernel_rfl) (by kernel_rfl) fun ls t h ho b hb=>?_
 unfold y196 at h
 split at h
 ·rename_i u4 u0 u6 u5 u26
  cases h
  obtain rfl:=jaD hb
  exact⟨Nat.le_of_ble_eq_true (by kernel_rfl),_,_,jmq u4 u0 u6 u5 u26 _ (jaj ho)⟩
 ·cases h
theorem sp_19_ok {sp:jab} (h:jac Tryz.prog sp):jac Tryz.prog (sp_19 sp):=jag jmr h
def jkl:List SV:=[.a [.d,.r (.floats .f32 [])],.c (.d)]
def jew (u17:Int) (u16:List Nat) (u26:Int):Option (Int × Int × Int) :=
 Option.bind (jmp u17 u16 (0:Int) (0:Int) u26) fun r0 =>
 some (r0.1,r0.2.1,r0.2.2)
def jkm:List Lf→Option GT
 |[.d (.i .i64 u17),.r (.floats .f32 u16),.d (.i .i64 u26)]=>some (.leaf (ok (jew u17 u16 u26)) [.s [.d (.i .i64 ((val (jew u17 u16 u26)).1)),.d (.i .i64 ((val (jew u17 u16 u26)).2.1))],.c (.d (.i .i64 ((val (jew u17 u16 u26)).2.2)))])
 |_=>none
abbrev sp_17:jab→jab:=jas 17 true (jal jkl jkm)
def jws (u17:Int) (u16:List Nat) (u26:Int):T (Int × Int × Int) :=
 .call (jmp u17 u16 (0:Int) (0:Int) u26) fun r0 =>
 .obT
 (.obT
 (.rc ((r0.1,r0.2.1,r0.2.2))))
theorem ju5 (u17:Int) (u16:List Nat) (u26:Int) (r:Int × Int × Int) (h:Option.bind (jew u17 u16 u26) some=some r):jaY Tryz.f17 ((sp_19 sp0)) (fun _ _ _=>none) (jaO jkl [.d (.i .i64 u17),.r (.floats .f32 u16),.d (.i .i64 u26)]) [.s [.d (.i .i64 r.1),.d (.i .i64 r.2.1)],.c (.d (.i .i64 r.2.2))] :=
 T.vc (t:=jws u17 u16 u26) (by kernel_rfl) (by kernel_rfl) h
theorem ju6:jah Tryz.prog 17 true (jal jkl jkm):=by
 refine jau (sp:=(sp_19 sp0)) (fn:=Tryz.f17) (body:=jai Tryz.f17) mixed (sp_19_ok jak) Tryz.func17 (by kernel_rfl) (by kernel_rfl) fun ls t h ho b hb=>?_
 unfold jkm at h
 split at h
 ·rename_i u17 u16 u26
  cases h
  obtain rfl:=jaD hb
  exact⟨Nat.le_of_ble_eq_true (by kernel_rfl),_,_,ju5 u17 u16 u26 _ (jaj ho)⟩
 ·cases h
theorem sp_17_ok {sp:jab} (h:jac Tryz.prog sp):jac Tryz.prog (sp_17 sp):=jag ju6 h
def y197:List SV:=[.c (.p [.d,.r (.floats .f32 []),.d,.d,.r (.recs 2 []),.r (.recs 2 [])]),.c (.d)]
def y68 (u11:Int) (u12:List Nat) (u13 u14:Int) (u9 u15:List (List Int)) (u7:Int):Option (Int × Int) :=
 Option.bind (y74 u11 u12 u13 u14 u9 u15 u7) fun r0 =>
 Option.bind (y69 u11 u12 u13 u14 u9 u15 (0:Int) r0) fun r1 =>
 some (r1.1,r1.2)
def y198:List Lf→Option GT
 |[.d (.i .i64 u11),.r (.floats .f32 u12),.d (.i .i64 u13),.d (.i .i64 u14),.r (.recs 2 u9),.r (.recs 2 u15),.d (.i .i64 u7)]=>some (.leaf (ok (y68 u11 u12 u13 u14 u9 u15 u7)) [.s [.d (.i .i64 ((val (y68 u11 u12 u13 u14 u9 u15 u7)).1)),.d (.i .i64 ((val (y68 u11 u12 u13 u14 u9 u15 u7)).2))]])
 |_=>none
abbrev sp_89:jab→jab:=jas 89 true (jal y197 y198)
def jnN (u11:Int) (u12:List Nat) (u13 u14:Int) (u9 u15:List (List Int)) (u7:Int):T (Int × Int) :=
 .call (y74 u11 u12 u13 u14 u9 u15 u7) fun r0 =>
 .call (y69 u11 u12 u13 u14 u9 u15 (0:Int) r0) fun r1 =>
 .obT
 (.rc ((r1.1,r1.2)))
theorem jms (u11:Int) (u12:List Nat) (u13 u14:Int) (u9 u15:List (List Int)) (u7:Int) (r:Int × Int) (h:Option.bind (y68 u11 u12 u13 u14 u9 u15 u7) some=some r):jaY Tryz.f89 ((sp_88 (sp_87 sp0))) (fun _ _ _=>none) (jaO y197 [.d (.i .i64 u11),.r (.floats .f32 u12),.d (.i .i64 u13),.d (.i .i64 u14),.r (.recs 2 u9),.r (.recs 2 u15),.d (.i .i64 u7)]) [.s [.d (.i .i64 r.1),.d (.i .i64 r.2)]] :=
 T.vc (t:=jnN u11 u12 u13 u14 u9 u15 u7) (by kernel_rfl) (by kernel_rfl) h
theorem jmt:jah Tryz.prog 89 true (jal y197 y198):=by
 refine jau (sp:=(sp_88 (sp_87 sp0))) (fn:=Tryz.f89) (body:=jai Tryz.f89) mixed (sp_88_ok (sp_87_ok jak)) Tryz.func89 (by kernel_rfl) (by kernel_rfl) fun ls t h ho b hb=>?_
 unfold y198 at h
 split at h
 ·rename_i u11 u12 u13 u14 u9 u15 u7
  cases h
  obtain rfl:=jaD hb
  exact⟨Nat.le_of_ble_eq_true (by kernel_rfl),_,_,jms u11 u12 u13 u14 u9 u15 u7 _ (jaj ho)⟩
 ·cases h
theorem sp_89_ok {sp:jab} (h:jac Tryz.prog sp):jac Tryz.prog (sp_89 sp):=jag jmt h
def jex:List SV:=[.c (.p [.d,.r (.floats .f32 []),.d,.d,.r (.recs 2 []),.r (.recs 2 [])]),.c (.d)]
def y76 (u11:Int) (u12:List Nat) (u13 u14:Int) (u9 u15:List (List Int)) (u7:Int):Option (Int × Int) :=
 Option.bind (y74 u11 u12 u13 u14 u9 u15 u7) fun r0 =>
 if 0≤r0∧r0<(↑(List.length u15):Int)then
  if Int.toNat r0<List.length u15 then
  some ((List.getD (List.getD u15 (Int.toNat r0) []) 0 (0:Int),List.getD (List.getD u15 (Int.toNat r0) []) 1 (0:Int)))
  else none
 else none
def jey:List Lf→Option GT
 |[.d (.i .i64 u11),.r (.floats .f32 u12),.d (.i .i64 u13),.d (.i .i64 u14),.r (.recs 2 u9),.r (.recs 2 u15),.d (.i .i64 u7)]=>some (.leaf (ok (y76 u11 u12 u13 u14 u9 u15 u7)) [.s [.d (.i .i64 ((val (y76 u11 u12 u13 u14 u9 u15 u7)).1)),.d (.i .i64 ((val (y76 u11 u12 u13 u14 u9 u15 u7)).2))]])
 |_=>none
abbrev sp_122:jab→jab:=jas 122 true (jal jex jey)
def joY (u11:Int) (u12:List Nat) (u13 u14:Int) (u9 u15:List (List Int)) (u7:Int):T (Int × Int) :=
 .obT
 (.call (y74 u11 u12 u13 u14 u9 u15 u7) fun r0 =>
 .obP (0≤r0∧r0<(↑(List.length u15):Int))
 (.obP (Int.toNat r0<List.length u15)
 (.obT
 (.rc (((List.getD (List.getD u15 (Int.toNat r0) []) 0 (0:Int),List.getD (List.getD u15 (Int.toNat r0) []) 1 (0:Int))))))))
theorem jnO (u11:Int) (u12:List Nat) (u13 u14:Int) (u9 u15:List (List Int)) (u7:Int) (r:Int × Int) (h:Option.bind (y76 u11 u12 u13 u14 u9 u15 u7) some=some r):jaY Tryz.f122 ((sp_88 sp0)) (fun _ _ _=>none) (jaO jex [.d (.i .i64 u11),.r (.floats .f32 u12),.d (.i .i64 u13),.d (.i .i64 u14),.r (.recs 2 u9),.r (.recs 2 u15),.d (.i .i64 u7)]) [.s [.d (.i .i64 r.1),.d (.i .i64 r.2)]] :=
 T.vc (t:=joY u11 u12 u13 u14 u9 u15 u7) (by kernel_rfl) (by kernel_rfl) h
theorem jnP:jah Tryz.prog 122 true (jal jex jey):=by
 refine jau (sp:=(sp_88 sp0)) (fn:=Tryz.f122) (body:=jai Tryz.f122) mixed (sp_88_ok jak) Tryz.func122 (by kernel_rfl) (by kernel_rfl) fun ls t h ho b hb=>?_
 unfold jey at h
 split at h
 ·rename_i u11 u12 u13 u14 u9 u15 u7
  cases h
  obtain rfl:=jaD hb
  exact⟨Nat.le_of_ble_eq_true (by kernel_rfl),_,_,jnO u11 u12 u13 u14 u9 u15 u7 _ (jaj ho)⟩
 ·cases h
theorem sp_122_ok {sp:jab} (h:jac Tryz.prog sp):jac Tryz.prog (sp_122 sp):=jag jnP h
def y165:List SV:=[.c (.p [.d,.r (.floats .f32 []),.d,.d,.r (.recs 2 []),.r (.recs 2 [])]),.c (.d)]
def y44 (u11:Int) (u12:List Nat) (u13 u14:Int) (u9 u15:List (List Int)) (u7:Int):Option (Int × Int × Int) :=
 Option.bind (y68 u11 u12 u13 u14 u9 u15 u7) fun r0 =>
 Option.bind (y76 u11 u12 u13 u14 u9 u15 u7) fun r1 =>
 Option.bind (y74 u11 u12 u13 u14 u9 u15 u7) fun r2 =>
 if(r2==(↑(List.length u9):Int))=true then
  some (((0:Int),0,12))
 else
  if(r0.1==0)=true then
  some (((0:Int),0,11))
  else
  if(r1.1==0)=true then
   some (((0:Int),0,11))
  else
   Option.bind (jgg r0.1 r1.2) fun r3 =>
   Option.bind (jgg r0.2 r1.1) fun r4 =>
   Option.bind (y40 [r3.2.2,r4.2.2]) fun r5 =>
   if(r5 != 0)=true then
   some (((0:Int),0,r5))
   else
   some ((r3.1,r4.2.1,0))
def y166:List Lf→Option GT
 |[.d (.i .i64 u11),.r (.floats .f32 u12),.d (.i .i64 u13),.d (.i .i64 u14),.r (.recs 2 u9),.r (.recs 2 u15),.d (.i .i64 u7)]=>some (.leaf (ok (y44 u11 u12 u13 u14 u9 u15 u7)) [.s [.d (.i .i64 ((val (y44 u11 u12 u13 u14 u9 u15 u7)).1)),.d (.i .i64 ((val (y44 u11 u12 u13 u14 u9 u15 u7)).2.1))],.c (.d (.i .i64 ((val (y44 u11 u12 u13 u14 u9 u15 u7)).2.2)))])
 |_=>none
abbrev sp_78:jab→jab:=jas 78 true (jal y165 y166)
def jlt (u11:Int) (u12:List Nat) (u13 u14:Int) (u9 u15:List (List Int)) (u7:Int):T (Int × Int × Int) :=
 .call (y68 u11 u12 u13 u14 u9 u15 u7) fun r0 =>
 .call (y76 u11 u12 u13 u14 u9 u15 u7) fun r1 =>
 .call (y74 u11 u12 u13 u14 u9 u15 u7) fun r2 =>
 .obT
 (.brB (r2==(↑(List.length u9):Int))
 (.obT
 (.obT
 (.rc ((((0:Int),0,12))))))
 (.brB (r0.1==0)
 (.obT
 (.obT
 (.rc ((((0:Int),0,11))))))
 (.brB (r1.1==0)
 (.obT
 (.obT
 (.rc ((((0:Int),0,11))))))
 (.call (jgg r0.1 r1.2) fun r3 =>
 .call (jgg r0.2 r1.1) fun r4 =>
 .call (y40 [r3.2.2,r4.2.2]) fun r5 =>
 .brB (r5 != 0)
 (.obT
 (.obT
 (.rc ((((0:Int),0,r5))))))
 (.obT
 (.obT
 (.rc (((r3.1,r4.2.1,0))))))))))
theorem jkn (u11:Int) (u12:List Nat) (u13 u14:Int) (u9 u15:List (List Int)) (u7:Int) (r:Int × Int × Int) (h:Option.bind (y44 u11 u12 u13 u14 u9 u15 u7) some=some r):jaY Tryz.f78 ((sp_89 (sp_122 (sp_88 (sp_123 (sp_76 sp0)))))) (fun _ _ _=>none) (jaO y165 [.d (.i .i64 u11),.r (.floats .f32 u12),.d (.i .i64 u13),.d (.i .i64 u14),.r (.recs 2 u9),.r (.recs 2 u15),.d (.i .i64 u7)]) [.s [.d (.i .i64 r.1),.d (.i .i64 r.2.1)],.c (.d (.i .i64 r.2.2))] :=
 T.vc (t:=jlt u11 u12 u13 u14 u9 u15 u7) (by kernel_rfl) (by kernel_rfl) h
theorem jko:jah Tryz.prog 78 true (jal y165 y166):=by
 refine jau (sp:=(sp_89 (sp_122 (sp_88 (sp_123 (sp_76 sp0)))))) (fn:=Tryz.f78) (body:=jai Tryz.f78) mixed (sp_89_ok (sp_122_ok (sp_88_ok (sp_123_ok (sp_76_ok jak))))) Tryz.func78 (by kernel_rfl) (by kernel_rfl) fun ls t h ho b hb=>?_
 unfold y166 at h
 split at h
 ·rename_i u11 u12 u13 u14 u9 u15 u7
  cases h
  obtain rfl:=jaD hb
  exact⟨Nat.le_of_ble_eq_true (by kernel_rfl),_,_,jkn u11 u12 u13 u14 u9 u15 u7 _ (jaj ho)⟩
 ·cases h
theorem sp_78_ok {sp:jab} (h:jac Tryz.prog sp):jac Tryz.prog (sp_78 sp):=jag jko h
def jhg:List SV:=[.a [.d,.r (.floats .f32 []),.d,.d],.c (.d)]
def jdd (u4:Int) (u0:List Nat) (u6 u5 u7:Int):Option (Int × Int × Int) :=
 if((val (jao u4 u0 u6 u5)).1 != 0)=true then
  Option.bind (jao u4 u0 u6 u5) fun r0 =>
  Option.bind (jda u7) fun r1 =>
  Option.bind (y40 [r0.1,r1]) fun r2 =>
  if(r2 != 0)=true then
  some (((0:Int),0,r2))
  else
  none   else
  Option.bind (jao u4 u0 u6 u5) fun r0 =>
  Option.bind (jda u7) fun r1 =>
  Option.bind (y40 [(0:Int),r1]) fun r3 =>
  if(r3 != 0)=true then
  some (((0:Int),0,r3))
  else
  Option.bind (y44 u4 u0 u6 u5 r0.2.1 r0.2.2 u7) fun r4 =>
  some (r4.1,r4.2.1,r4.2.2)
def jhh:List Lf→Option GT
 |[.d (.i .i64 u4),.r (.floats .f32 u0),.d (.i .i64 u6),.d (.i .i64 u5),.d (.i .i64 u7)]=>some (.leaf (ok (jdd u4 u0 u6 u5 u7)) [.s [.d (.i .i64 ((val (jdd u4 u0 u6 u5 u7)).1)),.d (.i .i64 ((val (jdd u4 u0 u6 u5 u7)).2.1))],.c (.d (.i .i64 ((val (jdd u4 u0 u6 u5 u7)).2.2)))])
 |_=>none
abbrev sp_26:jab→jab:=jas 26 true (jal jhg jhh)
def jtq (u4:Int) (u0:List Nat) (u6 u5 u7:Int):T (Int × Int × Int) :=
 .brB ((val (jao u4 u0 u6 u5)).1 != 0)
 (.call (jao u4 u0 u6 u5) fun r0 =>
 .call (jda u7) fun r1 =>
 .call (y40 [r0.1,r1]) fun r2 =>
 .brB (r2 != 0)
 (.obT
 (.obT
 (.rc ((((0:Int),0,r2))))))
 (.bad (fun r=>False)))
 (.call (jao u4 u0 u6 u5) fun r0 =>
 .call (jda u7) fun r1 =>
 .call (y40 [(0:Int),r1]) fun r3 =>
 .brB (r3 != 0)
 (.obT
 (.obT
 (.rc ((((0:Int),0,r3))))))
 (.call (y44 u4 u0 u6 u5 r0.2.1 r0.2.2 u7) fun r4 =>
 .obT
 (.obT
 (.rc ((r4.1,r4.2.1,r4.2.2))))))
theorem jsh (u4:Int) (u0:List Nat) (u6 u5 u7:Int) (r:Int × Int × Int) (h:Option.bind (jdd u4 u0 u6 u5 u7) some=some r):jaY Tryz.f26 ((sp_67 (sp_77 (sp_76 (sp_78 sp0))))) (fun _ _ _=>none) (jaO jhg [.d (.i .i64 u4),.r (.floats .f32 u0),.d (.i .i64 u6),.d (.i .i64 u5),.d (.i .i64 u7)]) [.s [.d (.i .i64 r.1),.d (.i .i64 r.2.1)],.c (.d (.i .i64 r.2.2))] :=
 T.vc (t:=jtq u4 u0 u6 u5 u7) (by kernel_rfl) (by kernel_rfl) h
theorem jsi:jah Tryz.prog 26 true (jal jhg jhh):=by
 refine jau (sp:=(sp_67 (sp_77 (sp_76 (sp_78 sp0))))) (fn:=Tryz.f26) (body:=jai Tryz.f26) mixed (sp_67_ok (sp_77_ok (sp_76_ok (sp_78_ok jak)))) Tryz.func26 (by kernel_rfl) (by kernel_rfl) fun ls t h ho b hb=>?_
 unfold jhh at h
 split at h
 ·rename_i u4 u0 u6 u5 u7
  cases h
  obtain rfl:=jaD hb
  exact⟨Nat.le_of_ble_eq_true (by kernel_rfl),_,_,jsh u4 u0 u6 u5 u7 _ (jaj ho)⟩
 ·cases h
theorem sp_26_ok {sp:jab} (h:jac Tryz.prog sp):jac Tryz.prog (sp_26 sp):=jag jsi h
def y136:List SV:=[.c (.p [.d,.r (.floats .f32 []),.d,.d,.r (.recs 2 []),.r (.recs 2 [])]),.c (.d)]
def y45 (u11:Int) (u12:List Nat) (u13 u14:Int) (u9 u15:List (List Int)) (u7:Int):Option (Int × Int × Int) :=
 Option.bind (y68 u11 u12 u13 u14 u9 u15 u7) fun r0 =>
 Option.bind (y76 u11 u12 u13 u14 u9 u15 u7) fun r1 =>
 if(r0.1==0)=true then
  if(r1.1==0)=true then
  some (((0:Int),0,11))
  else
  if wrap .i64 (r0.1+r1.2)≠(0:Int)then
   Option.bind (jbh (wrap .i64 (1000*r0.2)) (wrap .i64 (r0.2+r1.1))) fun r2 =>
   some ((wrap .i64 (Int.tdiv (wrap .i64 (1000*r0.1)) (wrap .i64 (r0.1+r1.2))),r2,0))
  else none
 else
  if wrap .i64 (r0.1+r1.2)≠(0:Int)then
  Option.bind (jbh (wrap .i64 (1000*r0.2)) (wrap .i64 (r0.2+r1.1))) fun r2 =>
  some ((wrap .i64 (Int.tdiv (wrap .i64 (1000*r0.1)) (wrap .i64 (r0.1+r1.2))),r2,0))
  else none
def y137:List Lf→Option GT
 |[.d (.i .i64 u11),.r (.floats .f32 u12),.d (.i .i64 u13),.d (.i .i64 u14),.r (.recs 2 u9),.r (.recs 2 u15),.d (.i .i64 u7)]=>some (.leaf (ok (y45 u11 u12 u13 u14 u9 u15 u7)) [.s [.d (.i .i64 ((val (y45 u11 u12 u13 u14 u9 u15 u7)).1)),.d (.i .i64 ((val (y45 u11 u12 u13 u14 u9 u15 u7)).2.1))],.c (.d (.i .i64 ((val (y45 u11 u12 u13 u14 u9 u15 u7)).2.2)))])
 |_=>none
abbrev sp_98:jab→jab:=jas 98 true (jal y136 y137)
def jiF (u11:Int) (u12:List Nat) (u13 u14:Int) (u9 u15:List (List Int)) (u7:Int):T (Int × Int × Int) :=
 .call (y68 u11 u12 u13 u14 u9 u15 u7) fun r0 =>
 .call (y76 u11 u12 u13 u14 u9 u15 u7) fun r1 =>
 .brB (r0.1==0)
 (.brB (r1.1==0)
 (.obT
 (.obT
 (.rc ((((0:Int),0,11))))))
 (.obP (wrap .i64 (r0.1+r1.2)≠(0:Int))
 (.call (jbh (wrap .i64 (1000*r0.2)) (wrap .i64 (r0.2+r1.1))) fun r2 =>
 .obT
 (.obT
 (.rc (((wrap .i64 (Int.tdiv (wrap .i64 (1000*r0.1)) (wrap .i64 (r0.1+r1.2))),r2,0))))))))
 (.obP (wrap .i64 (r0.1+r1.2)≠(0:Int))
 (.call (jbh (wrap .i64 (1000*r0.2)) (wrap .i64 (r0.2+r1.1))) fun r2 =>
 .obT
 (.obT
 (.rc (((wrap .i64 (Int.tdiv (wrap .i64 (1000*r0.1)) (wrap .i64 (r0.1+r1.2))),r2,0)))))))
theorem jhH (u11:Int) (u12:List Nat) (u13 u14:Int) (u9 u15:List (List Int)) (u7:Int) (r:Int × Int × Int) (h:Option.bind (y45 u11 u12 u13 u14 u9 u15 u7) some=some r):jaY Tryz.f98 ((sp_89 (sp_122 (sp_119 sp0)))) (fun _ _ _=>none) (jaO y136 [.d (.i .i64 u11),.r (.floats .f32 u12),.d (.i .i64 u13),.d (.i .i64 u14),.r (.recs 2 u9),.r (.recs 2 u15),.d (.i .i64 u7)]) [.s [.d (.i .i64 r.1),.d (.i .i64 r.2.1)],.c (.d (.i .i64 r.2.2))] :=
 T.vc (t:=jiF u11 u12 u13 u14 u9 u15 u7) (by kernel_rfl) (by kernel_rfl) h
theorem jhI:jah Tryz.prog 98 true (jal y136 y137):=by
 refine jau (sp:=(sp_89 (sp_122 (sp_119 sp0)))) (fn:=Tryz.f98) (body:=jai Tryz.f98) mixed (sp_89_ok (sp_122_ok (sp_119_ok jak))) Tryz.func98 (by kernel_rfl) (by kernel_rfl) fun ls t h ho b hb=>?_
 unfold y137 at h
 split at h
 ·rename_i u11 u12 u13 u14 u9 u15 u7
  cases h
  obtain rfl:=jaD hb
  exact⟨Nat.le_of_ble_eq_true (by kernel_rfl),_,_,jhH u11 u12 u13 u14 u9 u15 u7 _ (jaj ho)⟩
 ·cases h
theorem sp_98_ok {sp:jab} (h:jac Tryz.prog sp):jac Tryz.prog (sp_98 sp):=jag jhI h
def jgk:List SV:=[.a [.d,.r (.floats .f32 [])],.c (.d)]
def jmu (u17:Int) (u16:List Nat) (u37:Int):Option (Int × Int × Int) :=
 if((val (jbb u17 u16 u37)).1 != 0)=true then
  Option.bind (jbb u17 u16 u37) fun r0 =>
  if(r0.2.1 != 0)=true then
  some (((0:Int),0,r0.2.1))
  else
  none   else
  Option.bind (jbb u17 u16 u37) fun r0 =>
  if(r0.2.1 != 0)=true then
  some (((0:Int),0,r0.2.1))
  else
  if(0:Int)≤0∧0<(↑(List.length r0.2.2.2):Int)then
   if 0<List.length r0.2.2.2 then
   if List.getD (List.getD r0.2.2.2 (0:Nat) []) 0 (0:Int)>1000000000 then
    some (((0:Int),0,8))
   else
    Option.bind (joJ u17 u16 (0:Int) (0:Int) r0.2.2.1 r0.2.2.2 u37) fun r1 =>
    Option.bind (jer (wrap .i64 (wrap .i64 (r1.1*r1.1)+wrap .i64 (r1.2*r1.2))) (wrap .i64 (List.getD (List.getD r0.2.2.2 (0:Nat) []) 0 0*List.getD (List.getD r0.2.2.2 (0:Nat) []) 0 (0:Int)))) fun r2 =>
    some (r2.1,r2.2.1,r2.2.2)
   else none
  else none
def jgl:List Lf→Option GT
 |[.d (.i .i64 u17),.r (.floats .f32 u16),.d (.i .i64 u37)]=>some (.leaf (ok (jmu u17 u16 u37)) [.s [.d (.i .i64 ((val (jmu u17 u16 u37)).1)),.d (.i .i64 ((val (jmu u17 u16 u37)).2.1))],.c (.d (.i .i64 ((val (jmu u17 u16 u37)).2.2)))])
 |_=>none
abbrev sp_34:jab→jab:=jas 34 true (jal jgk jgl)
def jsj (u17:Int) (u16:List Nat) (u37:Int):T (Int × Int × Int) :=
 .brB ((val (jbb u17 u16 u37)).1 != 0)
 (.call (jbb u17 u16 u37) fun r0 =>
 .brB (r0.2.1 != 0)
 (.obT
 (.obT
 (.rc ((((0:Int),0,r0.2.1))))))
 (.bad (fun r=>False)))
 (.call (jbb u17 u16 u37) fun r0 =>
 .brB (r0.2.1 != 0)
 (.obT
 (.obT
 (.rc ((((0:Int),0,r0.2.1))))))
 (.obP ((0:Int)≤0∧0<(↑(List.length r0.2.2.2):Int))
 (.obP (0<List.length r0.2.2.2)
 (.brP (List.getD (List.getD r0.2.2.2 (0:Nat) []) 0 (0:Int)>1000000000)
 (.obT
 (.obT
 (.rc ((((0:Int),0,8))))))
 (.call (joJ u17 u16 (0:Int) (0:Int) r0.2.2.1 r0.2.2.2 u37) fun r1 =>
 .call (jer (wrap .i64 (wrap .i64 (r1.1*r1.1)+wrap .i64 (r1.2*r1.2))) (wrap .i64 (List.getD (List.getD r0.2.2.2 (0:Nat) []) 0 0*List.getD (List.getD r0.2.2.2 (0:Nat) []) 0 (0:Int)))) fun r2 =>
 .obT
 (.obT
 (.rc ((r2.1,r2.2.1,r2.2.2)))))))))
theorem jqr (u17:Int) (u16:List Nat) (u37:Int) (r:Int × Int × Int) (h:Option.bind (jmu u17 u16 u37) some=some r):jaY Tryz.f34 ((sp_91 (sp_92 (sp_86 sp0)))) (fun _ _ _=>none) (jaO jgk [.d (.i .i64 u17),.r (.floats .f32 u16),.d (.i .i64 u37)]) [.s [.d (.i .i64 r.1),.d (.i .i64 r.2.1)],.c (.d (.i .i64 r.2.2))] :=
 T.vc (t:=jsj u17 u16 u37) (by kernel_rfl) (by kernel_rfl) h
theorem jqs:jah Tryz.prog 34 true (jal jgk jgl):=by
 refine jau (sp:=(sp_91 (sp_92 (sp_86 sp0)))) (fn:=Tryz.f34) (body:=jai Tryz.f34) mixed (sp_91_ok (sp_92_ok (sp_86_ok jak))) Tryz.func34 (by kernel_rfl) (by kernel_rfl) fun ls t h ho b hb=>?_
 unfold jgl at h
 split at h
 ·rename_i u17 u16 u37
  cases h
  obtain rfl:=jaD hb
  exact⟨Nat.le_of_ble_eq_true (by kernel_rfl),_,_,jqr u17 u16 u37 _ (jaj ho)⟩
 ·cases h
theorem sp_34_ok {sp:jab} (h:jac Tryz.prog sp):jac Tryz.prog (sp_34 sp):=jag jqs h
end Go.Sh
end

section
open Go.RowKit
namespace Go.Proofs
open Go.Shelf
def Tryz.laysM171_ren:Go.Shelf.Ren:=⟨fun|171=>109|243=>136|246=>159|283=>178|284=>179|285=>180|286=>181|129=>166|317=>192|318=>193|319=>194|320=>195|337=>200|338=>201|n=>n,fun|3=>3|9=>9|2=>2|4=>4|171=>213|0=>0|53=>134|37=>179|5=>5|173=>215|212=>227|51=>228|20=>20|213=>229|46=>189|232=>243|233=>244|n=>n,fun|17=>11|18=>14|19=>15|n=>n⟩
theorem Tryz.laysM171:Go.Proofs.LaysM.n171 Tryz.prog Tryz.laysM171_ren:={
 mixed:=by kernel_rfl
 f129:=Tryz.func166.trans (congrArg some (by kernel_rfl))
 f171:=Tryz.func109.trans (congrArg some (by kernel_rfl))
 f243:=Tryz.func136.trans (congrArg some (by kernel_rfl))
 f246:=Tryz.func159.trans (congrArg some (by kernel_rfl))
 f283:=Tryz.func178.trans (congrArg some (by kernel_rfl))
 f284:=Tryz.func179.trans (congrArg some (by kernel_rfl))
 f285:=Tryz.func180.trans (congrArg some (by kernel_rfl))
 f286:=Tryz.func181.trans (congrArg some (by kernel_rfl))
 f317:=Tryz.func192.trans (congrArg some (by kernel_rfl))
 f318:=Tryz.func193.trans (congrArg some (by kernel_rfl))
 f319:=Tryz.func194.trans (congrArg some (by kernel_rfl))
 f320:=Tryz.func195.trans (congrArg some (by kernel_rfl))
 f337:=Tryz.func200.trans (congrArg some (by kernel_rfl))
 f338:=Tryz.func201.trans (congrArg some (by kernel_rfl))
 t0:=Tryz.underlying0
 a0:=Tryz.isAgg0
 z0:=Tryz.sizeOf0
 v0:=Tryz.zeroValue0
 t2:=Tryz.underlying2
 a2:=Tryz.isAgg2
 z2:=Tryz.sizeOf2
 v2:=Tryz.zeroValue2
 t3:=Tryz.underlying3
 a3:=Tryz.isAgg3
 z3:=Tryz.sizeOf3
 v3:=Tryz.zeroValue3
 t4:=Tryz.underlying4
 a4:=Tryz.isAgg4
 z4:=Tryz.sizeOf4
 v4:=Tryz.zeroValue4
 t5:=Tryz.underlying5
 a5:=Tryz.isAgg5
 z5:=Tryz.sizeOf5
 v5:=Tryz.zeroValue5
 t9:=Tryz.underlying9
 a9:=Tryz.isAgg9
 z9:=Tryz.sizeOf9
 v9:=Tryz.zeroValue9
 t20:=Tryz.underlying20
 a20:=Tryz.isAgg20
 z20:=Tryz.sizeOf20
 v20:=Tryz.zeroValue20
 t37:=Tryz.underlying179
 a37:=Tryz.isAgg179
 z37:=Tryz.sizeOf179
 v37:=Tryz.zeroValue179
 t46:=Tryz.underlying189
 a46:=Tryz.isAgg189
 z46:=Tryz.sizeOf189
 v46:=Tryz.zeroValue189
 t51:=Tryz.underlying228
 a51:=Tryz.isAgg228
 z51:=Tryz.sizeOf228
 v51:=Tryz.zeroValue228
 t53:=Tryz.underlying134
 a53:=Tryz.isAgg134
 z53:=Tryz.sizeOf134
 v53:=Tryz.zeroValue134
 t171:=Tryz.underlying213
 a171:=Tryz.isAgg213
 z171:=Tryz.sizeOf213
 v171:=Tryz.zeroValue213
 t173:=Tryz.underlying215
 a173:=Tryz.isAgg215
 z173:=Tryz.sizeOf215
 v173:=Tryz.zeroValue215
 t212:=Tryz.underlying227
 a212:=Tryz.isAgg227
 z212:=Tryz.sizeOf227
 v212:=Tryz.zeroValue227
 t213:=Tryz.underlying229
 a213:=Tryz.isAgg229
 z213:=Tryz.sizeOf229
 t232:=Tryz.underlying243
 a232:=Tryz.isAgg243
 z232:=Tryz.sizeOf243
 v232:=Tryz.zeroValue243
 t233:=Tryz.underlying244
 a233:=Tryz.isAgg244
 z233:=Tryz.sizeOf244
 v233:=Tryz.zeroValue244
 g17:=by kernel_rfl
 g18:=by kernel_rfl
 g19:=by kernel_rfl
 i0:=by kernel_rfl
 i2:=by kernel_rfl
 i3:=by kernel_rfl
 i4:=by kernel_rfl
 i5:=by kernel_rfl
 i9:=by kernel_rfl
 i20:=by kernel_rfl
 i37:=by kernel_rfl
 i46:=by kernel_rfl
 i51:=by kernel_rfl
 i53:=by kernel_rfl
 i171:=by kernel_rfl
 i173:=by kernel_rfl
 i212:=by kernel_rfl
 i232:=by kernel_rfl
 i233:=by kernel_rfl
 m17:=by kernel_rfl
 m18:=by kernel_rfl
 m19:=by kernel_rfl }
def Tryz.lays156_ren:Go.Shelf.Ren:=⟨fun|156=>110|165=>137|166=>138|169=>139|240=>160|241=>161|276=>182|277=>183|n=>n,fun|31=>142|9=>9|3=>3|4=>4|0=>0|20=>20|72=>181|76=>175|70=>178|37=>179|75=>174|127=>196|164=>217|5=>5|80=>183|n=>n,fun|n=>n⟩
theorem Tryz.lays156:Go.Proofs.Lays.n156 Tryz.prog Tryz.lays156_ren:={
 mixed:=by kernel_rfl
 f156:=Tryz.func110.trans (congrArg some (by kernel_rfl))
 f165:=Tryz.func137.trans (congrArg some (by kernel_rfl))
 f166:=Tryz.func138.trans (congrArg some (by kernel_rfl))
 f169:=Tryz.func139.trans (congrArg some (by kernel_rfl))
 f240:=Tryz.func160.trans (congrArg some (by kernel_rfl))
 f241:=Tryz.func161.trans (congrArg some (by kernel_rfl))
 f276:=Tryz.func182.trans (congrArg some (by kernel_rfl))
 f277:=Tryz.func183.trans (congrArg some (by kernel_rfl))
 t0:=Tryz.underlying0
 a0:=Tryz.isAgg0
 z0:=Tryz.sizeOf0
 v0:=Tryz.zeroValue0
 t3:=Tryz.underlying3
 a3:=Tryz.isAgg3
 z3:=Tryz.sizeOf3
 v3:=Tryz.zeroValue3
 t4:=Tryz.underlying4
 a4:=Tryz.isAgg4
 z4:=Tryz.sizeOf4
 v4:=Tryz.zeroValue4
 t9:=Tryz.underlying9
 a9:=Tryz.isAgg9
 z9:=Tryz.sizeOf9
 v9:=Tryz.zeroValue9
 t20:=Tryz.underlying20
 a20:=Tryz.isAgg20
 z20:=Tryz.sizeOf20
 v20:=Tryz.zeroValue20
 t31:=Tryz.underlying142
 a31:=Tryz.isAgg142
 z31:=Tryz.sizeOf142
 v31:=Tryz.zeroValue142
 t37:=Tryz.underlying179
 a37:=Tryz.isAgg179
 z37:=Tryz.sizeOf179
 v37:=Tryz.zeroValue179
 t70:=Tryz.underlying178
 a70:=Tryz.isAgg178
 z70:=Tryz.sizeOf178
 v70:=Tryz.zeroValue178
 t72:=Tryz.underlying181
 a72:=Tryz.isAgg181
 z72:=Tryz.sizeOf181
 v72:=Tryz.zeroValue181
 t75:=Tryz.underlying174
 a75:=Tryz.isAgg174
 z75:=Tryz.sizeOf174
 v75:=Tryz.zeroValue174
 t76:=Tryz.underlying175
 a76:=Tryz.isAgg175
 z76:=Tryz.sizeOf175
 v76:=Tryz.zeroValue175
 t127:=Tryz.underlying196
 a127:=Tryz.isAgg196
 z127:=Tryz.sizeOf196
 v127:=Tryz.zeroValue196
 t164:=Tryz.underlying217
 a164:=Tryz.isAgg217
 z164:=Tryz.sizeOf217
 v164:=Tryz.zeroValue217 }
end Go.Proofs
namespace Go.Sh
open Go Go.Proofs Go.RowKit Go.Sx Go.Shelf
theorem ju7 {α:Type} (f:α→D) (l:List α):(l.flatMap fun x=>[f x])=l.map f:=by
 induction l with
 |nil=>rfl
 |cons x r ih=>simp[List.flatMap_cons,ih]
theorem jnQ:Builder.Extra Tryz.prog Tryz.lays156_ren where
 sizeBuilder:=by kernel_rfl
 liesBuilder:=by kernel_rfl
 t5:=by kernel_rfl
 a5:=fun w=>jej w (by kernel_rfl)
 z5:=fun w=>jaX w (by kernel_rfl)
 v5:=fun w=>rfl
 infoByte:=by kernel_rfl
 cellsByte:=by kernel_rfl
 sizeByte:=by kernel_rfl
 neB5:=by decide
theorem jtr:Tryz.prog.globalNamed "internal/strconv.uint64pow10" = some 11:=by kernel_rfl
theorem jAk {B:Bd} {w:World} (h:jb6 B w) {g:Nat} {k:IntKind} {l:List Int} {name:String} (hn:Tryz.prog.globalNamed name=some g) (ht:Globs.tab g=some (.ints k l)):Lib.TabIs Tryz.prog w name k l:=by
 obtain⟨_,hc,cs,t,f,hg,hs⟩:=h.1 g _ ht
 unfold Lib.TabIs World.var?
 rw[hn]
 simp only[Option.bind_some,hg,Option.some.injEq]
 apply Array.ext'
 apply List.ext_getElem?
 intro i
 have hfl:(Cont.ints k l).flat=l.map (D.i k):=ju7 _ _
 by_cases hi:i<l.length
 ·have:=hc i (.i k l[i]) (by rw[hfl]; simp[hi])
  simp only[World.cell?,hg]at this
  rw[Array.getElem?_toList]
  simp only[List.getElem?_map,List.getElem?_eq_getElem hi,Option.map_some]
  exact this
 ·rw[hfl,List.length_map]at hs
  rw[Array.getElem?_toList,Array.getElem?_eq_none (by omega),List.getElem?_eq_none (by simpa using Nat.le_of_not_lt hi)]
def strconv_Itoa (n:Int):Option ByteArray:=if -9223372036854775808≤n∧n≤9223372036854775807 then some ⟨(Lib.itoa n).toArray⟩else none
def jhJ:List SV:=[.c (.d)]
def jez:List Lf→Option GT
 |[.d (.i .i64 n)]=>some (.leaf (ok (strconv_Itoa n)) [.c (.d (.s (val (strconv_Itoa n))))])
 |_=>none
abbrev sp_109:jab→jab:=jas 109 true (jal jhJ jez)
theorem jnR:jah Tryz.prog 109 true (jal jhJ jez):=by
 refine jdQ (body:=jai Tryz.f109) Tryz.func109 (by kernel_rfl) (by kernel_rfl) ?_
 intro ls t hg ho b hb ρ0 w hlt hh
 unfold jez at hg
 split at hg
 ·rename_i n
  cases hg
  obtain rfl:=jaD hb
  have hk:ok (strconv_Itoa n):=ho
  unfold strconv_Itoa at hk
  have hn:-9223372036854775808≤n∧n≤9223372036854775807:=by
   by_cases h:-9223372036854775808≤n∧n≤9223372036854775807
   ·exact h
   ·rw[if_neg h]at hk; cases hk
  have hv:val (strconv_Itoa n)=⟨(Lib.itoa n).toArray⟩:=by
   unfold strconv_Itoa
   rw[if_pos hn]
   rfl
  have htab:=jAk hh.glob jtr (k:=.u64) (l:=Lib.pow10Tab) (by kernel_rfl)
  refine(Any.strconv_Itoa Tryz.laysM171 n hn.1 hn.2 w htab).mono ?_
  rintro e w' ⟨rfl,k,os,rfl⟩
  have hbl:Below w.heap.size w (Sort.grow (w.drewN k) os):=by
   refine⟨rfl,rfl,rfl,by simp[Sort.grow,World.drewN],fun j hj=>?_⟩
   show(w.heap++os)[j]?=_
   rw[Array.getElem?_append_left hj]
  refine⟨ρ0,.w (.c (.d (.s ⟨(Lib.itoa n).toArray⟩))),_,_,rfl,trivial,jan.refl _ _,hh.below hbl (fun k hk=>hk),jb7 hbl (fun k hk=>hk),?_⟩
  show mD _ _∧True
  rw[hv]
  exact⟨⟨rfl⟩,trivial⟩
 ·cases hg
theorem sp_109_ok {sp:jab} (h:jac Tryz.prog sp):jac Tryz.prog (sp_109 sp):=jag jnR h
def strings_Join (l:List ByteArray) (sep:ByteArray):Option ByteArray :=
 if l.length≤140737488355328∧(Lib.join (l.map (·.data.toList)) sep.data.toList).length≤140737488355328 then some ⟨(Lib.join (l.map (·.data.toList)) sep.data.toList).toArray⟩else none
def jeA:List SV:=[.c (.r (.strs [])),.c (.d)]
def jeB:List Lf→Option GT
 |[.r (.strs l),.d (.s sep)]=>some (.leaf (ok (strings_Join l sep)) [.c (.d (.s (val (strings_Join l sep))))])
 |_=>none
abbrev sp_110:jab→jab:=jas 110 true (jal jeA jeB)
theorem jnS:jah Tryz.prog 110 true (jal jeA jeB):=by
 refine jdQ (body:=jai Tryz.f110) Tryz.func110 (by kernel_rfl) (by kernel_rfl) ?_
 intro ls t hg ho b hb ρ0 w hlt hh
 unfold jeB at hg
 split at hg
 ·rename_i l sep
  cases hg
  obtain rfl:=jaD hb
  have hk:ok (strings_Join l sep):=ho
  unfold strings_Join at hk
  have hn:l.length≤140737488355328∧(Lib.join (l.map (·.data.toList)) sep.data.toList).length≤140737488355328:=by
   by_cases h:l.length≤140737488355328∧(Lib.join (l.map (·.data.toList)) sep.data.toList).length≤140737488355328
   ·exact h
   ·rw[if_neg h]at hk; cases hk
  have hv:val (strings_Join l sep)=⟨(Lib.join (l.map (·.data.toList)) sep.data.toList).toArray⟩:=by
   unfold strings_Join
   rw[if_pos hn]
   rfl
  obtain⟨_,_,⟨a,cap,hv0,⟨hcap,_⟩,hcells⟩,hold⟩:=hh.ok 0 (.ext (.strs l)) rfl
  have hargs:((jaO jeA [.r (.strs l),.d (.s sep)]).vs.map (V.val ρ0)).toArray=#[ρ0 0,.string sep]:=rfl
  rw[hargs,hv0]
  have fin:∀w',Below w.heap.size w w'→∃ρ' v hp' nx',Ending.returned (.string ⟨(Lib.join (l.map (·.data.toList)) sep.data.toList).toArray⟩)=.returned (V.val ρ' v)∧v.lt nx'∧jan 1 ρ0 ρ'∧HRel ρ' (fun k=>k<w.heap.size) hp' nx' w'∧Bel (fun k=>k<w.heap.size) w w' ∧
    jjR 1 [.c (.d (.s (val (strings_Join l sep))))] v hp':=fun w' hbl=>by
   refine⟨ρ0,.w (.c (.d (.s ⟨(Lib.join (l.map (·.data.toList)) sep.data.toList).toArray⟩))),_,_,rfl,trivial,jan.refl _ _,hh.below hbl (fun k hk=>hk),jb7 hbl (fun k hk=>hk),?_⟩
   show mD _ _∧True
   rw[hv]
   exact⟨⟨rfl⟩,trivial⟩
  cases hl:l with
  |nil =>
   subst hl
   refine(Any.strings_Join_none Tryz.lays156 jnQ a cap sep w).mono ?_
   rintro e w' ⟨rfl,rfl⟩
   exact fin _ (Below.refl _ _)
  |cons x r =>
   rw[←hl]
   have h0:0<l.length:=by rw[hl]; simp
   obtain⟨b,off,rfl,hx⟩:=hcells h0
   refine(Any.strings_Join Tryz.lays156 jnQ b off cap l sep w (fun j x hj=>?_) (hold _ _ _ hv0 h0) hn.1 hcap hn.2).mono ?_
   ·exact hx j (.s x) (by
     show((Cont.strs l).flat)[j]?=_
     have hfl:(Cont.strs l).flat=l.map D.s:=ju7 _ _
     rw[hfl,List.getElem?_map,hj]
     rfl)
   ·rintro e w' ⟨rfl,hbl⟩
    exact fin _ hbl
 ·cases hg
theorem sp_110_ok {sp:jab} (h:jac Tryz.prog sp):jac Tryz.prog (sp_110 sp):=jag jnS h
end Go.Sh
end

section
open Go.RowKit
namespace Go.Proofs
open Go.Shelf
def Tryz.lays101_ren:Go.Shelf.Ren:=⟨fun|101=>135|208=>158|206=>177|n=>n,fun|9=>9|4=>4|3=>3|n=>n,fun|n=>n⟩
theorem Tryz.lays101:Go.Proofs.Lays.n101 Tryz.prog Tryz.lays101_ren:={
 mixed:=by kernel_rfl
 f101:=Tryz.func135.trans (congrArg some (by kernel_rfl))
 f206:=Tryz.func177.trans (congrArg some (by kernel_rfl))
 f208:=Tryz.func158.trans (congrArg some (by kernel_rfl))
 t3:=Tryz.underlying3
 a3:=Tryz.isAgg3
 z3:=Tryz.sizeOf3
 v3:=Tryz.zeroValue3
 t4:=Tryz.underlying4
 a4:=Tryz.isAgg4
 z4:=Tryz.sizeOf4
 v4:=Tryz.zeroValue4
 t9:=Tryz.underlying9
 a9:=Tryz.isAgg9
 z9:=Tryz.sizeOf9
 v9:=Tryz.zeroValue9 }
def Tryz.laysM146_ren:Go.Shelf.Ren:=⟨fun|146=>105|221=>133|268=>153|138=>154|143=>155|195=>168|197=>169|218=>170|219=>171|260=>184|217=>185|225=>186|224=>187|267=>188|266=>196|314=>197|n=>n,fun|9=>9|31=>142|3=>3|4=>4|0=>0|105=>203|21=>21|5=>5|46=>189|119=>231|139=>234|138=>233|146=>235|51=>228|n=>n,fun|1=>8|3=>12|4=>13|n=>n⟩
theorem Tryz.laysM146:Go.Proofs.LaysM.n146 Tryz.prog Tryz.laysM146_ren:={
 mixed:=by kernel_rfl
 f138:=Tryz.func154.trans (congrArg some (by kernel_rfl))
 f143:=Tryz.func155.trans (congrArg some (by kernel_rfl))
 f146:=Tryz.func105.trans (congrArg some (by kernel_rfl))
 f195:=Tryz.func168.trans (congrArg some (by kernel_rfl))
 f197:=Tryz.func169.trans (congrArg some (by kernel_rfl))
 f217:=Tryz.func185.trans (congrArg some (by kernel_rfl))
 f218:=Tryz.func170.trans (congrArg some (by kernel_rfl))
 f219:=Tryz.func171.trans (congrArg some (by kernel_rfl))
 f221:=Tryz.func133.trans (congrArg some (by kernel_rfl))
 f224:=Tryz.func187.trans (congrArg some (by kernel_rfl))
 f225:=Tryz.func186.trans (congrArg some (by kernel_rfl))
 f260:=Tryz.func184.trans (congrArg some (by kernel_rfl))
 f266:=Tryz.func196.trans (congrArg some (by kernel_rfl))
 f267:=Tryz.func188.trans (congrArg some (by kernel_rfl))
 f268:=Tryz.func153.trans (congrArg some (by kernel_rfl))
 f314:=Tryz.func197.trans (congrArg some (by kernel_rfl))
 t0:=Tryz.underlying0
 a0:=Tryz.isAgg0
 z0:=Tryz.sizeOf0
 v0:=Tryz.zeroValue0
 t3:=Tryz.underlying3
 a3:=Tryz.isAgg3
 z3:=Tryz.sizeOf3
 v3:=Tryz.zeroValue3
 t4:=Tryz.underlying4
 a4:=Tryz.isAgg4
 z4:=Tryz.sizeOf4
 v4:=Tryz.zeroValue4
 t5:=Tryz.underlying5
 a5:=Tryz.isAgg5
 z5:=Tryz.sizeOf5
 v5:=Tryz.zeroValue5
 t9:=Tryz.underlying9
 a9:=Tryz.isAgg9
 z9:=Tryz.sizeOf9
 v9:=Tryz.zeroValue9
 t21:=Tryz.underlying21
 a21:=Tryz.isAgg21
 z21:=Tryz.sizeOf21
 v21:=Tryz.zeroValue21
 t31:=Tryz.underlying142
 a31:=Tryz.isAgg142
 z31:=Tryz.sizeOf142
 v31:=Tryz.zeroValue142
 t46:=Tryz.underlying189
 a46:=Tryz.isAgg189
 z46:=Tryz.sizeOf189
 v46:=Tryz.zeroValue189
 t51:=Tryz.underlying228
 a51:=Tryz.isAgg228
 z51:=Tryz.sizeOf228
 v51:=Tryz.zeroValue228
 t105:=Tryz.underlying203
 a105:=Tryz.isAgg203
 z105:=Tryz.sizeOf203
 v105:=Tryz.zeroValue203
 t119:=Tryz.underlying231
 a119:=Tryz.isAgg231
 z119:=Tryz.sizeOf231
 t138:=Tryz.underlying233
 a138:=Tryz.isAgg233
 z138:=Tryz.sizeOf233
 v138:=Tryz.zeroValue233
 t139:=Tryz.underlying234
 a139:=Tryz.isAgg234
 z139:=Tryz.sizeOf234
 v139:=Tryz.zeroValue234
 t146:=Tryz.underlying235
 a146:=Tryz.isAgg235
 z146:=Tryz.sizeOf235
 v146:=Tryz.zeroValue235
 g1:=by kernel_rfl
 g3:=by kernel_rfl
 g4:=by kernel_rfl
 i0:=by kernel_rfl
 i3:=by kernel_rfl
 i4:=by kernel_rfl
 i5:=by kernel_rfl
 i9:=by kernel_rfl
 i21:=by kernel_rfl
 i31:=by kernel_rfl
 i46:=by kernel_rfl
 i51:=by kernel_rfl
 i105:=by kernel_rfl
 i138:=by kernel_rfl
 i139:=by kernel_rfl
 i146:=by kernel_rfl
 m1:=by kernel_rfl
 s1_3:=fun w h=>Go.Proofs.cell_of_shapedOpen_int (zero:=#[.int .i64 0]) (t:=3) h (of_decide_eq_true (by kernel_rfl)) (by kernel_rfl) rfl (by kernel_rfl) (by kernel_rfl) Tryz.underlying3
 m3:=by kernel_rfl
 m4:=by kernel_rfl }
def Tryz.laysC172_ren:Go.Shelf.Ren:=⟨fun|172=>134|244=>156|245=>157|247=>172|279=>173|280=>174|281=>175|282=>176|287=>189|316=>190|171=>109|205=>191|321=>198|322=>199|243=>136|246=>159|283=>178|284=>179|285=>180|286=>181|129=>166|317=>192|318=>193|319=>194|320=>195|337=>200|338=>201|n=>n,fun|9=>9|3=>3|75=>174|76=>175|4=>4|5=>5|167=>206|37=>179|0=>0|85=>207|2=>2|168=>209|53=>134|175=>220|46=>189|210=>224|127=>196|145=>241|143=>239|21=>21|171=>213|173=>215|212=>227|51=>228|20=>20|213=>229|232=>243|233=>244|80=>183|n=>n,fun|15=>9|16=>10|17=>11|18=>14|19=>15|n=>n⟩
theorem Tryz.laysC172:Go.Proofs.LaysC.n172 Tryz.prog Tryz.laysC172_ren:={
 mixed:=by kernel_rfl
 f129:=Tryz.func166.trans (congrArg some (by kernel_rfl))
 f171:=Tryz.func109.trans (congrArg some (by kernel_rfl))
 f172:=Tryz.func134.trans (congrArg some (by kernel_rfl))
 f205:=Tryz.func191.trans (congrArg some (by kernel_rfl))
 f243:=Tryz.func136.trans (congrArg some (by kernel_rfl))
 f244:=Tryz.func156.trans (congrArg some (by kernel_rfl))
 f245:=Tryz.func157.trans (congrArg some (by kernel_rfl))
 f246:=Tryz.func159.trans (congrArg some (by kernel_rfl))
 f247:=Tryz.func172.trans (congrArg some (by kernel_rfl))
 f279:=Tryz.func173.trans (congrArg some (by kernel_rfl))
 f280:=Tryz.func174.trans (congrArg some (by kernel_rfl))
 f281:=Tryz.func175.trans (congrArg some (by kernel_rfl))
 f282:=Tryz.func176.trans (congrArg some (by kernel_rfl))
 f283:=Tryz.func178.trans (congrArg some (by kernel_rfl))
 f284:=Tryz.func179.trans (congrArg some (by kernel_rfl))
 f285:=Tryz.func180.trans (congrArg some (by kernel_rfl))
 f286:=Tryz.func181.trans (congrArg some (by kernel_rfl))
 f287:=Tryz.func189.trans (congrArg some (by kernel_rfl))
 f316:=Tryz.func190.trans (congrArg some (by kernel_rfl))
 f317:=Tryz.func192.trans (congrArg some (by kernel_rfl))
 f318:=Tryz.func193.trans (congrArg some (by kernel_rfl))
 f319:=Tryz.func194.trans (congrArg some (by kernel_rfl))
 f320:=Tryz.func195.trans (congrArg some (by kernel_rfl))
 f321:=Tryz.func198.trans (congrArg some (by kernel_rfl))
 f322:=Tryz.func199.trans (congrArg some (by kernel_rfl))
 f337:=Tryz.func200.trans (congrArg some (by kernel_rfl))
 f338:=Tryz.func201.trans (congrArg some (by kernel_rfl))
 t0:=Tryz.underlying0
 a0:=Tryz.isAgg0
 z0:=Tryz.sizeOf0
 v0:=Tryz.zeroValue0
 t2:=Tryz.underlying2
 a2:=Tryz.isAgg2
 z2:=Tryz.sizeOf2
 v2:=Tryz.zeroValue2
 t3:=Tryz.underlying3
 a3:=Tryz.isAgg3
 z3:=Tryz.sizeOf3
 v3:=Tryz.zeroValue3
 t4:=Tryz.underlying4
 a4:=Tryz.isAgg4
 z4:=Tryz.sizeOf4
 v4:=Tryz.zeroValue4
 t5:=Tryz.underlying5
 a5:=Tryz.isAgg5
 z5:=Tryz.sizeOf5
 v5:=Tryz.zeroValue5
 t9:=Tryz.underlying9
 a9:=Tryz.isAgg9
 z9:=Tryz.sizeOf9
 v9:=Tryz.zeroValue9
 t20:=Tryz.underlying20
 a20:=Tryz.isAgg20
 z20:=Tryz.sizeOf20
 v20:=Tryz.zeroValue20
 t21:=Tryz.underlying21
 a21:=Tryz.isAgg21
 z21:=Tryz.sizeOf21
 v21:=Tryz.zeroValue21
 t37:=Tryz.underlying179
 a37:=Tryz.isAgg179
 z37:=Tryz.sizeOf179
 v37:=Tryz.zeroValue179
 t46:=Tryz.underlying189
 a46:=Tryz.isAgg189
 z46:=Tryz.sizeOf189
 v46:=Tryz.zeroValue189
 t51:=Tryz.underlying228
 a51:=Tryz.isAgg228
 z51:=Tryz.sizeOf228
 v51:=Tryz.zeroValue228
 t53:=Tryz.underlying134
 a53:=Tryz.isAgg134
 z53:=Tryz.sizeOf134
 v53:=Tryz.zeroValue134
 t75:=Tryz.underlying174
 a75:=Tryz.isAgg174
 z75:=Tryz.sizeOf174
 v75:=Tryz.zeroValue174
 t76:=Tryz.underlying175
 a76:=Tryz.isAgg175
 z76:=Tryz.sizeOf175
 v76:=Tryz.zeroValue175
 t85:=Tryz.underlying207
 a85:=Tryz.isAgg207
 z85:=Tryz.sizeOf207
 v85:=Tryz.zeroValue207
 t127:=Tryz.underlying196
 a127:=Tryz.isAgg196
 z127:=Tryz.sizeOf196
 v127:=Tryz.zeroValue196
 t143:=Tryz.underlying239
 a143:=Tryz.isAgg239
 z143:=Tryz.sizeOf239
 v143:=Tryz.zeroValue239
 t145:=Tryz.underlying241
 a145:=Tryz.isAgg241
 z145:=Tryz.sizeOf241
 v145:=Tryz.zeroValue241
 t167:=Tryz.underlying206
 a167:=Tryz.isAgg206
 z167:=Tryz.sizeOf206
 v167:=Tryz.zeroValue206
 t168:=Tryz.underlying209
 a168:=Tryz.isAgg209
 z168:=Tryz.sizeOf209
 v168:=Tryz.zeroValue209
 t171:=Tryz.underlying213
 a171:=Tryz.isAgg213
 z171:=Tryz.sizeOf213
 v171:=Tryz.zeroValue213
 t173:=Tryz.underlying215
 a173:=Tryz.isAgg215
 z173:=Tryz.sizeOf215
 v173:=Tryz.zeroValue215
 t175:=Tryz.underlying220
 a175:=Tryz.isAgg220
 z175:=Tryz.sizeOf220
 v175:=Tryz.zeroValue220
 t210:=Tryz.underlying224
 a210:=Tryz.isAgg224
 z210:=Tryz.sizeOf224
 v210:=Tryz.zeroValue224
 t212:=Tryz.underlying227
 a212:=Tryz.isAgg227
 z212:=Tryz.sizeOf227
 v212:=Tryz.zeroValue227
 t213:=Tryz.underlying229
 a213:=Tryz.isAgg229
 z213:=Tryz.sizeOf229
 t232:=Tryz.underlying243
 a232:=Tryz.isAgg243
 z232:=Tryz.sizeOf243
 v232:=Tryz.zeroValue243
 t233:=Tryz.underlying244
 a233:=Tryz.isAgg244
 z233:=Tryz.sizeOf244
 v233:=Tryz.zeroValue244
 g15:=by kernel_rfl
 g16:=by kernel_rfl
 g17:=by kernel_rfl
 g18:=by kernel_rfl
 g19:=by kernel_rfl
 t80:=Tryz.underlying183
 a80:=Tryz.isAgg183
 z80:=Tryz.sizeOf183
 v80:=Tryz.zeroValue183
 i0:=by kernel_rfl
 i2:=by kernel_rfl
 i3:=by kernel_rfl
 i4:=by kernel_rfl
 i5:=by kernel_rfl
 i9:=by kernel_rfl
 i20:=by kernel_rfl
 i21:=by kernel_rfl
 i37:=by kernel_rfl
 i46:=by kernel_rfl
 i51:=by kernel_rfl
 i53:=by kernel_rfl
 i75:=by kernel_rfl
 i76:=by kernel_rfl
 i80:=by kernel_rfl
 i85:=by kernel_rfl
 i127:=by kernel_rfl
 i143:=by kernel_rfl
 i145:=by kernel_rfl
 i167:=by kernel_rfl
 i168:=by kernel_rfl
 i171:=by kernel_rfl
 i173:=by kernel_rfl
 i175:=by kernel_rfl
 i210:=by kernel_rfl
 i212:=by kernel_rfl
 i232:=by kernel_rfl
 i233:=by kernel_rfl
 m15:=by kernel_rfl
 m16:=by kernel_rfl
 m17:=by kernel_rfl
 m18:=by kernel_rfl
 m19:=by kernel_rfl
 c0:=by kernel_rfl
 c2:=by kernel_rfl
 c3:=by kernel_rfl
 c4:=by kernel_rfl
 c5:=by kernel_rfl
 c9:=by kernel_rfl
 c20:=by kernel_rfl
 c21:=by kernel_rfl
 c37:=by kernel_rfl
 c46:=by kernel_rfl
 c51:=by kernel_rfl
 c53:=by kernel_rfl
 c75:=by kernel_rfl
 c76:=by kernel_rfl
 c80:=by kernel_rfl
 c85:=by kernel_rfl
 c127:=by kernel_rfl
 c143:=by kernel_rfl
 c145:=by kernel_rfl
 c167:=by kernel_rfl
 c168:=by kernel_rfl
 c171:=by kernel_rfl
 c173:=by kernel_rfl
 c175:=by kernel_rfl
 c210:=by kernel_rfl
 c212:=by kernel_rfl
 c213:=by kernel_rfl
 c232:=by kernel_rfl
 c233:=by kernel_rfl }
end Go.Proofs
namespace Go.Sh
open Go Go.Proofs Go.RowKit Go.Sx Go.Shelf
def strings_TrimPrefix (s p:ByteArray):Option ByteArray:=some ⟨(Lib.trimPrefix s.data.toList p.data.toList).toArray⟩
def jd9:List SV:=[.c (.d),.c (.d)]
def jcN:List Lf→Option GT
 |[.d (.s s),.d (.s p)]=>some (.leaf (ok (strings_TrimPrefix s p)) [.c (.d (.s (val (strings_TrimPrefix s p))))])
 |_=>none
abbrev sp_135:jab→jab:=jas 135 true (jal jd9 jcN)
theorem jhK:jah Tryz.prog 135 true (jal jd9 jcN):=by
 refine jdQ (body:=jai Tryz.f135) Tryz.func135 (by kernel_rfl) (by kernel_rfl) ?_
 intro ls t hg ho b hb ρ0 w hlt hh
 unfold jcN at hg
 split at hg
 ·rename_i s p
  cases hg
  obtain rfl:=jaD hb
  refine(Any.strings_TrimPrefix Tryz.lays101 s p w).mono ?_
  rintro e w' ⟨rfl,rfl⟩
  refine⟨ρ0,.w (.c (.d (.s ⟨(Lib.trimPrefix s.data.toList p.data.toList).toArray⟩))),_,_,rfl,trivial,jan.refl _ _,hh,Bel.refl _ _,?_⟩
  show mD _ _∧True
  exact⟨⟨rfl⟩,trivial⟩
 ·cases hg
theorem sp_135_ok {sp:jab} (h:jac Tryz.prog sp):jac Tryz.prog (sp_135 sp):=jag jhK h
def strings_Split (s sep:ByteArray):Option (List ByteArray) :=
 if s.size≤1000000∧1≤sep.size then some (Lib.splitB sep 0 (Lib.countB s sep) s)else none
def jgR:List SV:=[.c (.d),.c (.d)]
def jea:List Lf→Option GT
 |[.d (.s s),.d (.s sep)]=>some (.leaf (ok (strings_Split s sep)) [.c (.row 9 (.strs (val (strings_Split s sep))))])
 |_=>none
abbrev sp_105:jab→jab:=jas 105 true (jal jgR jea)
theorem jmv:jah Tryz.prog 105 true (jal jgR jea):=by
 refine jdQ (body:=jai Tryz.f105) Tryz.func105 (by kernel_rfl) (by kernel_rfl) ?_
 intro ls t hg ho b hb ρ0 w hlt hh
 unfold jea at hg
 split at hg
 ·rename_i s sep
  cases hg
  obtain rfl:=jaD hb
  have hk:ok (strings_Split s sep):=ho
  unfold strings_Split at hk
  have hn:s.size≤1000000∧1≤sep.size:=by
   by_cases h:s.size≤1000000∧1≤sep.size
   ·exact h
   ·rw[if_neg h]at hk; cases hk
  have hv:val (strings_Split s sep)=Lib.splitB sep 0 (Lib.countB s sep) s:=by
   unfold strings_Split
   rw[if_pos hn]
   rfl
  have hlen:=Lib.splitB_all sep hn.2 0 _ s rfl
  obtain⟨_,m0,hm,m,rfl⟩:=hh.glob.2 8 _ rfl
  refine(Any.strings_Split { Tryz.laysM146 with } Tryz.laysM146.i9 s sep m w (by omega) hm hn.2).mono ?_
  rintro e w' ⟨rfl,rfl⟩
  generalize hL:Lib.splitB sep 0 (Lib.countB s sep) s=L at *
  have hfl:(L.map Value.string).toArray=((Cont.strs L).flat.map D.val).toArray:=by
   show _=((L.flatMap fun x=>[D.s x]).map D.val).toArray
   rw[ju7,List.map_map]
   rfl
  have hbl:Below w.heap.size w (w.alloc (.cells (L.map Value.string).toArray 9)):=(Below.refl _ w).alloc (Nat.le_refl _) _
  have hle:=Lib.countB_le sep hn.2 s.size s (Nat.le_refl _)
  have hLn:(Cont.strs L).n≤9223372036854775807:=by show L.length≤_; omega
  refine⟨upd ρ0 0 (.slice (some ⟨w.heap.size,0,none⟩) L.length L.length),.w (.c (.o 0)),(0,.row 9 (.strs L))::[],1,?_,Nat.lt_succ_self 0,fun h hh=>absurd hh (Nat.not_lt_zero _),?_,jb7 hbl (fun k hk=>hk),?_⟩
  ·rw[←hlen]
   rfl
  ·refine HRel.add (nx:=0) (hp:=[]) hh hbl (fun k hk=>hk) (fun h hh=>absurd hh (Nat.not_lt_zero _)) trivial ?_ ?_
   ·rw[hfl]
    exact jm6 (c:=.strs L) (fun k hk=>hk) hLn
   ·intro k hk
    rw[upd_same]at hk
    simp[O.blk,Value.ownBlock]at hk
    omega
  ·show jd1 _ _∧True
   rw[hv]
   exact⟨⟨rfl⟩,trivial⟩
 ·cases hg
theorem sp_105_ok {sp:jab} (h:jac Tryz.prog sp):jac Tryz.prog (sp_105 sp):=jag jmv h
def jeU (s:ByteArray):Bool:=match Lib.atoiAll s.data.toList with
 | .ok _=>true
 |_=>false
def jbm (s:ByteArray):Int:=match Lib.atoiAll s.data.toList with
 | .ok v=>v
 | .range=>Lib.atoiSat s.data.toList
 |_=>0
def ju8:Sx.Spec:=fun vs hp nx=>match vs with
 |[.w (.c (.d (.s s)))]=>some (.br (jeU s)
   (.leaf ⟨s.size≤1000000,.t [.c (.d (.i .i64 (jbm s))),.c (.d (.v .nilIface))],hp,nx⟩)
   (.leaf ⟨s.size≤1000000,.t [.c (.d (.i .i64 (jbm s))),.c (.o nx)],(nx,.err)::hp,nx+1⟩))
 |_=>none
abbrev sp_134:jab→jab:=jas 134 true ju8
theorem jzC:jah Tryz.prog 134 true ju8:=by
 refine .inl ⟨jdG Tryz.func134 (body:=jai Tryz.f134) (by kernel_rfl) (by kernel_rfl),fun ρ B w args hp nx t hS hob hlt hh hB=>?_⟩
 unfold ju8 at hS
 split at hS
 ·rename_i s
  cases hS
  have hargs:(List.map (V.val ρ) [V.w (.c (.d (.s s)))]).toArray=#[.string s]:=rfl
  rw[hargs]
  cases hb:jeU s with
  |true =>
   simp only[RT.sel,hb]at hob ⊢
   obtain⟨v,hv⟩:∃v,Lib.atoiAll s.data.toList=.ok v:=by
    unfold jeU at hb
    split at hb
    ·rename_i v h; exact⟨v,h⟩
    ·cases hb
   have hav:jbm s=v:=by unfold jbm; rw[hv]
   refine(Any.strconv_Atoi_ok Tryz.laysC172 s (by omega) v hv w).mono ?_
   rintro e w' ⟨rfl,hw⟩
   have hbl:Below w.heap.size w w':=by
    rcases hw with rfl|⟨t,rfl⟩
    ·exact Below.refl _ _
    ·exact Lib.bytesWorld_below w _ t
   refine⟨ρ,by rw[hav]; rfl,jan.refl _ _,fun x hx=>?_,Nat.le_refl _,hh.below hbl hB,jb7 hbl hB,fun _=>hbl,fun _ h o k hn hf=>?_⟩
   ·simp only[List.mem_cons,List.not_mem_nil,or_false]at hx
    rcases hx with rfl|rfl<;>trivial
   ·have:=(hh.ok h o hf).1
    omega
  |false =>
   simp only[RT.sel,hb]at hob ⊢
   have key:∀(v:Int),jbm s=v→∀(N:Nat) (t:Nat) (w':World),Below w.heap.size w w'→∃ρ',(Ending.returned (.tuple #[.int .i64 v,.iface t (.pointer (some ⟨N,0,none⟩))]):Ending)=.returned ((V.t [.c (.d (.i .i64 (jbm s))),.c (.o nx)]).val ρ') ∧
     Go.Sx.Left ρ B nx w ⟨s.size≤1000000,.t [.c (.d (.i .i64 (jbm s))),.c (.o nx)],(nx,.err)::hp,nx+1⟩ true ρ' w':=by
    intro v hv N t w' hbl
    refine⟨upd ρ nx (.iface t (.pointer (some ⟨N,0,none⟩))),?_,jaB _ _ _,fun x hx=>?_,Nat.le_succ _,?_,jb7 hbl hB,fun _=>hbl,fun _ h o k hn hf hk=>?_⟩
    ·rw[hv]
     simp[V.val,W.val,C.val,D.val]
    ·simp only[List.mem_cons,List.not_mem_nil,or_false]at hx
     rcases hx with rfl|rfl
     ·trivial
     ·exact Nat.lt_succ_self nx
    ·refine hh.add hbl hB (jaB _ _ _) trivial ⟨t,_,upd_same _ _ _⟩ ?_
     intro k hk
     simp[O.blk]at hk
    ·simp only[find]at hf
     split at hf
     ·cases hf
      simp[O.blk]at hk
     ·have:=(hh.ok h o hf).1
      omega
   cases hv:Lib.atoiAll s.data.toList with
   |ok v =>
    unfold jeU at hb
    rw[hv]at hb
    cases hb
   |range =>
    obtain⟨_,ev,hev,hev2⟩:=hh.glob.2 10 _ rfl
    refine(Any.strconv_Atoi_range Tryz.laysC172 s (by omega) hv ev w hev hev2).mono ?_
    rintro e w' ⟨N,rfl,_,_,hbl⟩
    exact key _ (by unfold jbm; rw[hv]) N _ w' hbl
   |_ =>
    obtain⟨_,ev,hev,hev2⟩:=hh.glob.2 9 _ rfl
    refine(Any.strconv_Atoi_syntax Tryz.laysC172 s (by omega) hv ev w hev hev2).mono ?_
    rintro e w' ⟨N,rfl,_,_,hbl⟩
    exact key 0 (by unfold jbm; rw[hv]) N _ w' hbl
 ·cases hS
theorem sp_134_ok {sp:jab} (h:jac Tryz.prog sp):jac Tryz.prog (sp_134 sp):=jag jzC h
end Go.Sh
end

section
namespace Go.Sh
open Go Go.Proofs Go.RowKit Go.Sx
open Go.IntKind (wrap)
def jnT:List (Option Cont):=[none]
def jfl (s:ByteArray):Option (Int × Bool) :=
 if(jeU s)=true then
  if ByteArray.size s≤1000000 then
  Option.bind (strconv_Itoa (jbm s)) fun r0 =>
  if(r0==s)=true then
   Option.bind (strings_TrimPrefix s (ByteArray.mk #[(45:UInt8)])) fun r1 =>
   some ((jbm s,decide ((↑(ByteArray.size r1):Int)≤13)))
  else
   some (jbm s,false)
  else none
 else
  if ByteArray.size s≤1000000 then
  some (jbm s,false)
  else none
def jiG:List A→Option (Prop × List RV)
 |[.d (.s s)]=>some (ok (jfl s),[.d (.i .i64 ((val (jfl s)).1)),.d (.b ((val (jfl s)).2))])
 |_=>none
abbrev sp_106:jab→jab:=jas 106 true (jaq jnT jiG)
theorem jts (s:ByteArray) (r:Int × Bool) (h:Option.bind (jfl s) some=some r):ja6 Tryz.f106 ((sp_134 (sp_109 (sp_135 sp0)))) (fun _ _ _=>none) [.d (.s s)] [.d (.i .i64 r.1),.d (.b r.2)]:=by
 refine Eq.mp (by kernel_rfl:(
 Br (jeU s)
  ((Ob (ByteArray.size s≤1000000) ∧
 (Ob (ok (strconv_Itoa (jbm s))) ∧
 Br (val (strconv_Itoa (jbm s))==s)
  ((Ob (ok (strings_TrimPrefix s (ByteArray.mk #[(45:UInt8)]))) ∧
 (Ob True ∧
 (Ob True ∧
 (Ob (jbm s=r.1) ∧
 (Ob (decide ((↑(ByteArray.size (val (strings_TrimPrefix s (ByteArray.mk #[(45:UInt8)])))):Int)≤13)=r.2) ∧
 True))))))
  ((Ob True ∧
 (Ob True ∧
 (Ob (jbm s=r.1) ∧
 (Ob (false=r.2) ∧
 True))))))))
  ((Ob (ByteArray.size s≤1000000) ∧
 (Ob True ∧
 (Ob True ∧
 (Ob (jbm s=r.1) ∧
 (Ob (false=r.2) ∧
 True)))))))=_) ?_
 refine jaV h (fun h=>?_) (fun h=>?_)
 ·refine jat h fun h=>?_
  refine jav h fun h=>?_
  refine jaV h (fun h=>?_) (fun h=>?_)
  ·refine jav h fun h=>?_
   refine jad ?_
   refine jad ?_
   exact jam h (fun e=>by subst e; exact(by repeat' (first|exact trivial|exact⟨rfl⟩|refine And.intro ?_ ?_)))
  ·refine jad ?_
   refine jad ?_
   exact jam h (fun e=>by subst e; exact(by repeat' (first|exact trivial|exact⟨rfl⟩|refine And.intro ?_ ?_)))
 ·refine jat h fun h=>?_
  refine jad ?_
  refine jad ?_
  exact jam h (fun e=>by subst e; exact(by repeat' (first|exact trivial|exact⟨rfl⟩|refine And.intro ?_ ?_)))
theorem jtt:jah Tryz.prog 106 true (jaq jnT jiG):=by
 refine jaw (sp:=(sp_134 (sp_109 (sp_135 sp0)))) (fn:=Tryz.f106) (body:=jai Tryz.f106) mixed (sp_134_ok (sp_109_ok (sp_135_ok jak))) Tryz.func106 (by kernel_rfl) (by kernel_rfl) fun as_ ob rs h ho=>?_
 unfold jiG at h
 split at h
 ·rename_i s
  cases h
  exact⟨Nat.le_of_ble_eq_true rfl,_,_,jts s _ (jaj ho)⟩
 ·cases h
theorem sp_106_ok {sp:jab} (h:jac Tryz.prog sp):jac Tryz.prog (sp_106 sp):=jag jtt h
def y216:List (Option Cont):=[none]
def y80 (u39 u40:Int):Option Bool :=
 some (decide (u39>u40))
def y151:List A→Option (Prop × List RV)
 |[.s [.i .i64 u39,.i .i64 u40]]=>some (ok (y80 u39 u40),[.d (.b ((val (y80 u39 u40))))])
 |_=>none
abbrev sp_108:jab→jab:=jas 108 true (jaq y216 y151)
theorem jjf (u39 u40:Int) (r:Bool) (h:Option.bind (y80 u39 u40) some=some r):ja6 Tryz.f108 (sp0) (fun _ _ _=>none) [.s [.i .i64 u39,.i .i64 u40]] [.d (.b r)]:=by
 refine Eq.mp (by kernel_rfl:(
 (Ob True ∧
 (Ob (decide (u39>u40)=r) ∧
 True)))=_) ?_
 refine jad ?_
 exact jam h (fun e=>by subst e; exact(by repeat' (first|exact trivial|exact⟨rfl⟩|refine And.intro ?_ ?_)))
theorem jjg:jah Tryz.prog 108 true (jaq y216 y151):=by
 refine jaw (sp:=sp0) (fn:=Tryz.f108) (body:=jai Tryz.f108) mixed jak Tryz.func108 (by kernel_rfl) (by kernel_rfl) fun as_ ob rs h ho=>?_
 unfold y151 at h
 split at h
 ·rename_i u39 u40
  cases h
  exact⟨Nat.le_of_ble_eq_true rfl,_,_,jjf u39 u40 _ (jaj ho)⟩
 ·cases h
theorem sp_108_ok {sp:jab} (h:jac Tryz.prog sp):jac Tryz.prog (sp_108 sp):=jag jjg h
def y131:List (Option Cont):=[some (.recs 2 []),none]
def y18 (s:List (List Int)) (x0:Int):Option (Int ⊕ (Int ⊕ Unit)) :=
 if x0<(↑(List.length s):Int)then
  if 0≤x0∧x0<(↑(List.length s):Int)then
  if Int.toNat x0<List.length s then
   Option.bind (y80 (List.getD (List.getD s (Int.toNat x0) []) 0 (0:Int)) (List.getD (List.getD s (Int.toNat x0) []) 1 (0:Int))) fun r0 =>
   if(r0)=true then
   some (.inr (.inl x0))
   else
   some (.inl (wrap .i64 (x0+1)))
  else none
  else none
 else
  some (.inr ((.inr ())))
def y189 (u10:Int):Option Int :=
 some u10
def y190 (u27:Unit):Option Int :=
 some (-1:Int)
def y49:(Int ⊕ Unit)→Option Int :=
 (Sum.elim (y189) (y190))
def y33 (s:List (List Int)):Option Int :=
 Option.bind (jae (y18 s) big (0:Int)) (y49)
def y97:List A→Option (Prop × List RV)
 |[.r (.recs 2 s),.f 108]=>some (ok (y33 s),[.d (.i .i64 ((val (y33 s))))])
 |_=>none
abbrev sp_94_108:jab→jab:=jas 94 true (jaq y131 y97)
theorem y211 (s:List (List Int)) (r:Int) (h:Option.bind (y33 s) some=some r):ja6 Tryz.f94 ((sp_108 sp0)) (fun gs id _=>match id with
 |0=>some ⟨Int × Nat,fun z=>⟨[(0,.w (.c (.o 0))),(1,.w (.c (.fn 108 []))),(7,.w (.c (.d (.i .i64 ((↑(List.length s):Int)))))),(8,.w (.c (.d (.i .i64 (Prod.fst z)))))],[(0,.ext (.recs 2 s))],2⟩,fun z=>Option.bind (jae (y18 s) (Prod.snd z) (Prod.fst z)) (fun y0=>Option.bind (y49 y0) some)=some r,fun z=>Prod.snd z⟩
 |_=>none) [.r (.recs 2 s),.f 108] [.d (.i .i64 r)]:=by
 refine Eq.mp (by kernel_rfl:(
 ((∃(v0:Int × Nat),(Ob ((Option.bind (jae (y18 s) v0.2 v0.1) fun y0=>Option.bind (y49 y0) some)=some r) ∧
 (Ob ((↑(List.length s):Int)=(↑(List.length s):Int)) ∧
 (Ob ((0:Int)=v0.1) ∧
 (Ob (s=s) ∧
 True))))) ∧
  (∀(v0:Int × Nat),((Option.bind (jae (y18 s) v0.2 v0.1) fun y0=>Option.bind (y49 y0) some)=some r →
 Br (decide (v0.1<(↑(List.length s):Int)))
  ((Ob (0≤v0.1∧v0.1<(↑(List.length s):Int)) ∧
 (Ob (Int.toNat v0.1<List.length s) ∧
 (Ob (ok (y80 (List.getD (List.getD s (Int.toNat v0.1) []) 0 (0:Int)) (List.getD (List.getD s (Int.toNat v0.1) []) 1 (0:Int)))) ∧
 Br (val (y80 (List.getD (List.getD s (Int.toNat v0.1) []) 0 (0:Int)) (List.getD (List.getD s (Int.toNat v0.1) []) 1 (0:Int))))
  ((Ob True ∧
 (Ob (v0.1=r) ∧
 True)))
  ((∃(v1:Int × Nat),(Ob ((Option.bind (jae (y18 s) v1.2 v1.1) fun y0=>Option.bind (y49 y0) some)=some r) ∧
 (Ob (v1.2<v0.2) ∧
 (Ob ((↑(List.length s):Int)=(↑(List.length s):Int)) ∧
 (Ob (wrap .i64 (v0.1+1)=v1.1) ∧
 (Ob (s=s) ∧
 True)))))))))))
  ((Ob True ∧
 (Ob ((-1:Int)=r) ∧
 True)))))))=_) ?_
 refine⟨⟨((0:Int),big),⟨jbe h⟩,(by repeat' (first|exact trivial|exact⟨rfl⟩|refine And.intro ?_ ?_))⟩,fun z1 hz1=>?_⟩
 obtain⟨k1,hm1,h⟩:=jaU hz1
 refine jaT h (fun h=>?_) (fun h=>?_)
 ·refine jat h fun h=>?_
  refine jat h fun h=>?_
  refine jav h fun h=>?_
  refine jaV h (fun h=>?_) (fun h=>?_)
  ·have h:=jaC h
   refine jad ?_
   exact jam h (fun e=>by subst e; exact(by repeat' (first|exact trivial|exact⟨rfl⟩|refine And.intro ?_ ?_)))
  ·exact⟨(wrap .i64 (Prod.fst z1+1),k1),⟨jaQ h⟩,⟨ja0 hm1.symm⟩,(by repeat' (first|exact trivial|exact⟨rfl⟩|refine And.intro ?_ ?_))⟩
 ·have h:=jaC h
  refine jad ?_
  exact jam h (fun e=>by subst e; exact(by repeat' (first|exact trivial|exact⟨rfl⟩|refine And.intro ?_ ?_)))
theorem y212:jah Tryz.prog 94 true (jaq y131 y97):=by
 refine jaw (sp:=(sp_108 sp0)) (fn:=Tryz.f94) (body:=jai Tryz.f94) mixed (sp_108_ok jak) Tryz.func94 (by kernel_rfl) (by kernel_rfl) fun as_ ob rs h ho=>?_
 unfold y97 at h
 split at h
 ·rename_i s
  cases h
  exact⟨Nat.le_of_ble_eq_true rfl,_,_,y211 s _ (jaj ho)⟩
 ·cases h
theorem sp_94_108_ok {sp:jab} (h:jac Tryz.prog sp):jac Tryz.prog (sp_94_108 sp):=jag y212 h
end Go.Sh
end

section
namespace Go.Sh
open Go Go.Proofs Go.RowKit Go.Sx Go.Sx06 Go.Lib
open Go.IntKind (wrap)
theorem jdT (a b:List UInt8):mkB a++mkB b=mkB (a++b):=by
 apply ByteArray.ext
 show(mkB a++mkB b).data=_
 rw[ByteArray.data_append]
 simp[mkB]
theorem jnU (a b:ByteArray):(a==b)=decide (a=b):=by
 obtain⟨⟨x⟩⟩:=a
 obtain⟨⟨y⟩⟩:=b
 show((⟨x⟩:Array UInt8)==⟨y⟩)=_
 rw[Bool.eq_iff_iff]
 simp
theorem jwt {d:Nat} (h:d<10):jht [wrap IntKind.u8 (wrap IntKind.i64 ((48:Int)+(d:Int)))]=mkB [UInt8.ofNat (48+d)]:=by
 have hw:∀y:Int,IntKind.u8.wrap y=y%256:=fun y=>by
  unfold wrap
  simp[IntKind.signed,IntKind.bits]
 rw[jap (by omega),hw]
 unfold jht mkB
 simp only[List.foldl_cons,List.foldl_nil]
 rw[show((48+(d:Int))%256).toNat=48+d by omega]
 rfl
theorem jsk:∀(u:Nat) (x:Int) (s:List UInt8) (sg:ByteArray) (N:Nat),x.natAbs=u→u≠0→-9223372036854775808≤x→x≤9223372036854775807→s.length+(decDigits u).length≤1000→u<N →
  jae jkg N (x,mkB s,sg)=some (mkB (decDigits u++s),sg):=by
 intro u
 induction u using Nat.strongRecOn with
 |_ u ih =>
  intro x s sg N hx hu h1 h2 hS hN
  obtain⟨M,rfl⟩:∃M,N=M+1:=⟨N-1,by omega⟩
  have hd:az (x.tmod 10)=((u%10:Nat):Int):=by
   rw[jAj,Int.natAbs_tmod,hx]
   rfl
  have hq:(x.tdiv 10).natAbs=u/10:=by rw[Int.natAbs_tdiv,hx]; rfl
  have hin:inJ (x.tmod 10):=by
   have:(x.tmod 10).natAbs=u%10:=by rw[Int.natAbs_tmod,hx]; rfl
   unfold inJ; omega
  have jcX:jkg (x,mkB s,sg)=some (.inl (x.tdiv 10,mkB (UInt8.ofNat (48+u%10)::s),sg)):=by
   unfold jkg
   dsimp only
   rw[if_pos (by simp; omega),jsc hin,jaa,hd,jwt (by omega)]
   rw[if_pos (by rw[jcr,jcr]; simp; omega),jdT,jap (by omega)]
   rfl
  have hne:jae jkg (M+1) (x,mkB s,sg)=jae jkg M (x.tdiv 10,mkB (UInt8.ofNat (48+u%10)::s),sg):=by
   conv=>lhs; unfold jae
   rw[jcX]
  rw[hne]
  by_cases h10:u<10
  ·have hz:x.tdiv 10=0:=by omega
   obtain⟨M',rfl⟩:∃M',M=M' + 1:=⟨M-1,by omega⟩
   rw[hz,jbT h10,show u%10=u by omega]
   unfold jae jkg
   rfl
  ·have hl:(decDigits u).length=(decDigits (u/10)).length+1:=by rw[je2 h10]; simp
   rw[ih (u/10) (by omega) (x.tdiv 10) _ sg M hq (by omega) (by omega) (by omega) (by simp; omega) (by omega),je2 h10]
   simp
theorem jx2 {n:Int} (h:-9223372036854775808≤n∧n≤9223372036854775807):(decDigits n.natAbs).length≤21:=by
 have:=itoa_length_le n h.1 h.2
 unfold itoa at this
 split at this
 ·simp at this; omega
 ·rw[show n.natAbs=n.toNat by omega]; exact this
theorem jlX {n:Int} (h:-9223372036854775808≤n∧n≤9223372036854775807):jkh n=some (mkB (itoa n)):=by
 have hl:=jx2 h
 unfold jkh itoa
 by_cases h0:n=0
 ·subst h0
  rw[if_pos (by decide),if_neg (by decide),show(0:Int).toNat=0 from rfl,jbT (by omega)]
  rfl
 ·rw[if_neg (by simpa using h0)]
  have dl:=fun sg=>jsk n.natAbs n [] sg big rfl (by omega) h.1 h.2 (by simp; omega) (by unfold big; omega)
  simp only[List.append_nil]at dl
  by_cases hn:n<0
  ·rw[if_pos hn,if_pos hn]
   have e:=dl (mkB [45])
   rw[show(n,ByteArray.mk #[],ByteArray.mk #[(45:UInt8)])=(n,mkB [],mkB [45])from rfl,e,jaa]
   unfold jd7
   dsimp only
   rw[if_pos (by rw[jcr,jcr]; simp; omega),jdT]
   rfl
  ·rw[if_neg hn,if_neg hn]
   have e:=dl (mkB [])
   rw[show(n,ByteArray.mk #[],ByteArray.mk #[])=(n,mkB [],mkB [])from rfl,e,jaa]
   unfold jd7
   dsimp only
   rw[if_pos (by rw[jcr,jcr]; simp; omega),jdT,show n.natAbs=n.toNat by omega]
   rfl
theorem jwu (s:ByteArray) (c:UInt8) (hs:s.size≤1000000):strings_Split s (mkB [c])=some ((jbq c [] s.data.toList).map mkB):=by
 unfold strings_Split
 rw[if_pos ⟨hs,by rw[jcr]; simp⟩]
 have e:=splitB_data (mkB [c]) 0 (countB s (mkB [c])) s
 have e2:(splitB (mkB [c]) 0 (countB s (mkB [c])) s).map (·.data.toList)=jbq c [] s.data.toList:=by
  rw[e]
  exact jpO c s.data.toList
 rw[←e2,List.map_map]
 congr 1
 conv=>lhs; rw[←List.map_id (splitB (mkB [c]) 0 (countB s (mkB [c])) s)]
 refine List.map_congr_left fun x _=>?_
 exact(jwp x).symm
theorem ju9 (s:ByteArray) (hs:s.size≤1000000):∃v,jfl s=some (v,(jcK 13 s.data.toList).isSome)∧∀w,jcK 13 s.data.toList=some w→v=w:=by
 unfold jfl
 refine⟨jbm s,?_,fun w hw=>?_⟩
 ·cases hn:jcK 13 s.data.toList with
  |some w =>
   obtain⟨p1,p2,p3,p4⟩:=jze (by omega) hn
   have hv:jbm s=w:=by unfold jbm; rw[p2]
   have hb:jeU s=true:=by unfold jeU; rw[p2]
   have hr:-9223372036854775808≤w∧w≤9223372036854775807:=by
    have h13:(10:Nat)^13=10000000000000:=by decide
    omega
   rw[if_pos hb,if_pos hs,hv]
   unfold strconv_Itoa
   rw[if_pos hr,jaa]
   have e:(⟨(Lib.itoa w).toArray⟩:ByteArray)=s:=by rw[p1]
   rw[e,if_pos (by rw[jnU]; simp)]
   unfold strings_TrimPrefix
   rw[jaa]
   congr 2
   rw[size_eq]
   show decide (((trimPrefix s.data.toList [45]).length:Int)≤13)=true
   exact decide_eq_true (by omega)
  |none =>
   cases hb:jeU s with
   |false=>rw[if_neg Bool.false_ne_true,if_pos hs]; rfl
   |true =>
    rw[if_pos rfl,if_pos hs]
    have hr:-9223372036854775808≤jbm s∧jbm s≤9223372036854775807:=by
     unfold jeU at hb
     unfold jbm
     cases ha:atoiAll s.data.toList
     case ok v=>exact atoiAll_bounds ha
     all_goals (rw[ha]at hb; cases hb)
    unfold strconv_Itoa
    rw[if_pos hr,jaa]
    by_cases he:(⟨(Lib.itoa (jbm s)).toArray⟩:ByteArray)=s
    ·rw[if_pos (by rw[jnU]; simpa using he)]
     unfold strings_TrimPrefix
     rw[jaa]
     congr 2
     rw[size_eq]
     show decide (((trimPrefix s.data.toList [45]).length:Int)≤13)=false
     refine decide_eq_false fun hle=>?_
     have hl:itoa (jbm s)=s.data.toList:=congrArg (fun z:ByteArray=>z.data.toList) he
     have:=jzf (k:=13) (n:=jbm s) (by rw[hl]; omega)
     rw[hl,hn]at this
     cases this
    ·rw[if_neg (by rw[jnU]; simpa using he)]
     rfl
 ·have:=(jze (by omega) hw).2.1
  unfold jbm
  rw[this]
end Go.Sh
end

section
namespace Go.Sh
open Go Go.Proofs Go.RowKit Go.Sx
abbrev sp_94b:jab→jab:=sp_94_108
theorem sp_94b_ok {sp:jab} (h:jac Tryz.prog sp):jac Tryz.prog (sp_94b sp):=sp_94_108_ok h
end Go.Sh
end

section
namespace Go.Sh
open Go Go.Proofs Go.RowKit Go.Sx
def y122:List (Option Cont):=[some (.recs 2 []),none]
def y14 (s:List (List Int)):Option Bool :=
 Option.bind (y33 s) fun r0 =>
 some (decide (r0≥0))
def y85:List A→Option (Prop × List RV)
 |[.r (.recs 2 s),.f 108]=>some (ok (y14 s),[.d (.b ((val (y14 s))))])
 |_=>none
abbrev sp_107_108:jab→jab:=jas 107 true (jaq y122 y85)
theorem y181 (s:List (List Int)) (r:Bool) (h:Option.bind (y14 s) some=some r):ja6 Tryz.f107 ((sp_94b (sp_108 sp0))) (fun _ _ _=>none) [.r (.recs 2 s),.f 108] [.d (.b r)]:=by
 refine Eq.mp (by kernel_rfl:(
 (Ob (ok (y33 s)) ∧
 (Ob True ∧
 (Ob (decide (val (y33 s)≥0)=r) ∧
 True))))=_) ?_
 refine jav h fun h=>?_
 refine jad ?_
 exact jam h (fun e=>by subst e; exact(by repeat' (first|exact trivial|exact⟨rfl⟩|refine And.intro ?_ ?_)))
theorem y182:jah Tryz.prog 107 true (jaq y122 y85):=by
 refine jaw (sp:=(sp_94b (sp_108 sp0))) (fn:=Tryz.f107) (body:=jai Tryz.f107) mixed (sp_94b_ok (sp_108_ok jak)) Tryz.func107 (by kernel_rfl) (by kernel_rfl) fun as_ ob rs h ho=>?_
 unfold y85 at h
 split at h
 ·rename_i s
  cases h
  exact⟨Nat.le_of_ble_eq_true rfl,_,_,y181 s _ (jaj ho)⟩
 ·cases h
theorem sp_107_108_ok {sp:jab} (h:jac Tryz.prog sp):jac Tryz.prog (sp_107_108 sp):=jag y182 h
end Go.Sh
namespace Go.Sh
open Go Go.Proofs Go.RowKit Go.Sx
abbrev sp_107:jab→jab:=sp_107_108
theorem sp_107_ok {sp:jab} (h:jac Tryz.prog sp):jac Tryz.prog (sp_107 sp):=sp_107_108_ok h
end Go.Sh
end

section
namespace Go.Sh
open Go Go.Proofs Go.RowKit Go.Sx Go.Sx06 Go.Lib
abbrev Fg:=Bool × Int × Int
abbrev zf:Fg:=(false,0,0)
def pf1 (W:List ByteArray):Option (Fg × List ByteArray) :=
 if(W.getD 0 ByteArray.empty).data.toList=[45]∧W≠[]then some (zf,W.drop 1)
 else if W.length<2 then none
 else match jcK 13 (W.getD 0 ByteArray.empty).data.toList,jcK 13 (W.getD 1 ByteArray.empty).data.toList with
  |some lo,some hi=>some ((true,lo,hi),W.drop 2)
  |_,_=>none
abbrev Dp:=List Fg × List ByteArray
def nx1 (d:Dp):Dp:=match pf1 d.2 with
 |some (x,W)=>(d.1++[x],W)
 |none=>d
def pfS:Nat→List ByteArray→Option Dp
 |0,W=>some ([],W)
 |n+1,W=>(pfS n W).bind fun d=>if(pf1 d.2).isSome=true then some (nx1 d)else none
def jkp (L:List Fg):Bool:=(List.range 6).any fun j=>decide ((L.getD j zf).2.1>(L.getD j zf).2.2)
def pfR (W:List ByteArray):List Fg × Int:=match pfS 6 W with
 |none=>([],7)
 |some d=>if d.2≠[]then([],7)else if jkp d.1=true then([],9)else(d.1,0)
def jeb (L:List Fg):List D:=[.b (L.getD 0 zf).1,.b (L.getD 1 zf).1,.b (L.getD 2 zf).1,.b (L.getD 3 zf).1,.b (L.getD 4 zf).1,.b (L.getD 5 zf).1,
 .i .i64 (L.getD 0 zf).2.1,.i .i64 (L.getD 0 zf).2.2,.i .i64 (L.getD 1 zf).2.1,.i .i64 (L.getD 1 zf).2.2,.i .i64 (L.getD 2 zf).2.1,.i .i64 (L.getD 2 zf).2.2,
 .i .i64 (L.getD 3 zf).2.1,.i .i64 (L.getD 3 zf).2.2,.i .i64 (L.getD 4 zf).2.1,.i .i64 (L.getD 4 zf).2.2,.i .i64 (L.getD 5 zf).2.1,.i .i64 (L.getD 5 zf).2.2]
def rsF (r:List Fg × Int):List RR:=[.s ((jeb r.1).map .d),.c (.d (.i .i64 r.2))]
def jiH:List Nat→Code→Code
 |[],c=>c
 |0::p,.seq x _=>jiH p x
 |_::p,.seq _ y=>jiH p y
 |0::p,.cond _ x _=>jiH p x
 |_::p,.cond _ _ y=>jiH p y
 |_::p,.block _ c=>jiH p c
 |_::p,.loop c=>jiH p c
 |_,c=>c
noncomputable def pgB:Code:=jai Tryz.f61
noncomputable def pgR3:Code:=jiH [1,1,1,0,0] pgB
noncomputable def pgL:Code:=jiH [1,1,1,0,1,0,0] pgB
noncomputable def pgT:Code:=jiH [1,1,1,1] pgB
abbrev spPg:jab:=sp_105 (sp_106 (sp_107 sp0))
theorem jdU:jac Tryz.prog spPg:=sp_105_ok (sp_106_ok (sp_107_ok jak))
abbrev jgm (c:Code) (st:St) (k:Ex→St→Prop):Prop:=sx Tryz.prog spPg 73 0 0 (fun _ _ _=>none) (jcl Tryz.prog spPg 73) c 0 [] st k
def rowO:Bool→List ByteArray→O
 |true,W=>.row 9 (.strs W)
 |false,W=>.rrow (.strs W)
def hpPg (b:Bool) (d:Dp):Hp:=[(2,rowO b d.2),(1,.box 95 ((jeb d.1).map .d)),(0,.box 95 ((jeb []).map .d))]
def tmPg:List (Nat × V):=[(5,.w (.c (.p 1 (0:Nat) 1 (0:Nat)))),(4,.w (.c (.o 2))),(3,vi .i64 0),(2,.w (.c (.p 0 (0:Nat) 1 (0:Nat))))]
def jgn (b:Bool) (i:Nat) (d:Dp):St:=⟨(13,vi .i64 (i:Int))::tmPg,hpPg b d,3⟩
def jva (d:Dp):St:=⟨tmPg,hpPg false d,3⟩
abbrev jvb (r:List Fg × Int) (st:St):Prop:=jeo Tryz.prog Tryz.f61.results.toList (fun v hp _=>jjR 0 (rsF r) v hp) .ret st
end Go.Sh
end

section
namespace Go.Sh
open Go Go.Proofs Go.RowKit Go.Sx Go.Sx06 Go.Lib
def CE (L n:List Fg) (p:Prop):Prop:=Ob ((L.getD 0 zf).1=(n.getD 0 zf).1)∧Ob ((L.getD 1 zf).1=(n.getD 1 zf).1)∧Ob ((L.getD 2 zf).1=(n.getD 2 zf).1)∧Ob ((L.getD 3 zf).1=(n.getD 3 zf).1)∧Ob ((L.getD 4 zf).1=(n.getD 4 zf).1)∧Ob ((L.getD 5 zf).1=(n.getD 5 zf).1)∧Ob ((L.getD 0 zf).2.1=(n.getD 0 zf).2.1)∧Ob ((L.getD 0 zf).2.2=(n.getD 0 zf).2.2)∧Ob ((L.getD 1 zf).2.1=(n.getD 1 zf).2.1)∧Ob ((L.getD 1 zf).2.2=(n.getD 1 zf).2.2)∧Ob ((L.getD 2 zf).2.1=(n.getD 2 zf).2.1)∧Ob ((L.getD 2 zf).2.2=(n.getD 2 zf).2.2)∧Ob ((L.getD 3 zf).2.1=(n.getD 3 zf).2.1)∧Ob ((L.getD 3 zf).2.2=(n.getD 3 zf).2.2)∧Ob ((L.getD 4 zf).2.1=(n.getD 4 zf).2.1)∧Ob ((L.getD 4 zf).2.2=(n.getD 4 zf).2.2)∧Ob ((L.getD 5 zf).2.1=(n.getD 5 zf).2.1)∧Ob ((L.getD 5 zf).2.2=(n.getD 5 zf).2.2)∧p
theorem jeV {L n:List Fg} {p:Prop} (h:L=n) (hp:p):CE L n p:=by
 subst h
 exact⟨⟨rfl⟩,⟨rfl⟩,⟨rfl⟩,⟨rfl⟩,⟨rfl⟩,⟨rfl⟩,⟨rfl⟩,⟨rfl⟩,⟨rfl⟩,⟨rfl⟩,⟨rfl⟩,⟨rfl⟩,⟨rfl⟩,⟨rfl⟩,⟨rfl⟩,⟨rfl⟩,⟨rfl⟩,⟨rfl⟩,hp⟩
abbrev gn (W:List ByteArray) (k:Nat):Int × Bool:=val (jfl (W.getD k ByteArray.empty))
def retP (W:List ByteArray):Prop:=pf1 W=none∧Ob True∧Ob True∧CE [] [] (Ob ((7:Int)=7)∧True)
def nxtP (i:Nat) (L:List Fg) (W' W:List ByteArray) (n:Dp):Prop:=(pf1 W).isSome=true∧Ob (IntKind.i64.wrap ((i:Int)+(1:Int))=((i+1:Nat):Int))∧Ob ((0:Nat)=0)∧Ob ((0:Int)=0)∧Ob ((0:Nat)=0)∧Ob (W'=n.2)∧CE L n.1 (CE [] [] True)
def numP (i:Nat) (L:List Fg) (W:List ByteArray) (n:Dp):Prop :=
 Br (decide ((W.length:Int)<(2:Int))) (retP W) (Ob ((0:Int)≤(0:Int)∧(0:Int)<(W.length:Int))∧Ob ((0:Nat)<W.length)∧Ob (ok (jfl (W.getD (0:Nat) ByteArray.empty)))∧Ob ((0:Int)≤(1:Int)∧(1:Int)<(W.length:Int))∧Ob ((1:Nat)<W.length)∧Ob (ok (jfl (W.getD (1:Nat) ByteArray.empty))) ∧
  Br (!(gn W 0).2) (retP W) (Br (!(gn W 1).2) (retP W) (Ob True∧Ob ((0:Int)≤(2:Int)∧(2:Int)≤(W.length:Int))∧Ob ((0:Int)≤(i:Int)∧(i:Int)<((6:Nat):Int))∧Ob ((bks (List.map C.d (jeb L))).getD i false=true)∧Ob ((0:Int)≤(i:Int)∧(i:Int)<((6:Nat):Int)) ∧
   Ob ((iks .i64 (jgY i true 0 (List.map C.d (jeb L)))).getD (6+i*2) false=true∧(iks .i64 (jjr .i64 (6+i*2) (gn W 0).1 0 (jgY i true 0 (List.map C.d (jeb L))))).getD (6+i*2+1) false=true) ∧
   nxtP i (L++[(true,(gn W 0).1,(gn W 1).1)]) (List.take (W.length-2) (List.drop 2 W)) W n)))
def jdn (i:Nat) (L:List Fg) (W:List ByteArray) (n:Dp):Prop :=
 Br (decide ((W.length:Int)>(0:Int))) (Ob ((0:Int)≤(0:Int)∧(0:Int)<(W.length:Int))∧Ob ((0:Nat)<W.length)∧Br (W.getD (0:Nat) ByteArray.empty == { data:=#[(45:UInt8)] })
  (Ob ((0:Int)≤(1:Int)∧(1:Int)≤(W.length:Int))∧nxtP i (L++[zf]) (List.take (W.length-1) (List.drop 1 W)) W n) (numP i L W n)) (numP i L W n)
theorem jmw {b:Bool} {X Y:Prop} (h1:b=true→X) (h2:b=false→Y):Br b X Y:=by
 cases b
 ·exact h2 rfl
 ·exact h1 rfl
theorem jzg {W:List ByteArray} {k:Nat} (h:(W.getD k ByteArray.empty).size≤1000000):ok (jfl (W.getD k ByteArray.empty))∧(gn W k).2=(jcK 13 (W.getD k ByteArray.empty).data.toList).isSome∧∀v,jcK 13 (W.getD k ByteArray.empty).data.toList=some v→(gn W k).1=v:=by
 obtain⟨v,h1,h2⟩:=ju9 _ h
 refine⟨by rw[h1]; rfl,?_,fun w hw=>?_⟩
 ·show(val (jfl _)).2=_
  rw[h1]
  rfl
 ·show(val (jfl _)).1=_
  rw[h1]
  exact h2 w hw
theorem joZ {W:List ByteArray} (h:pf1 W=none):retP W:=⟨h,⟨trivial⟩,⟨trivial⟩,jeV rfl ⟨⟨rfl⟩,trivial⟩⟩
theorem jt3 {i:Nat} {L L':List Fg} {W W' W2:List ByteArray} {n:Dp} {x:Fg} (hi:i<6) (hn:n=nx1 (L,W)) (h:pf1 W=some (x,W2)) (hL:L'=L++[x]) (hW:W'=W2):nxtP i L' W' W n:=by
 have e:n=(L++[x],W2):=by
  rw[hn]
  unfold nx1
  rw[h]
 subst e
 subst hL
 subst hW
 exact⟨by rw[h]; rfl,⟨by rw[jap (by omega)]; omega⟩,⟨rfl⟩,⟨rfl⟩,⟨rfl⟩,⟨rfl⟩,jeV rfl (jeV rfl trivial)⟩
theorem jsl {W:List ByteArray} (k:Nat):List.take (W.length-k) (List.drop k W)=W.drop k:=List.take_of_length_le (by rw[List.length_drop]; omega)
theorem jpQ {i:Nat} {L:List Fg} {W:List ByteArray} {n:Dp} (hi:i<6) (hn:n=nx1 (L,W)) (hw:∀k,(W.getD k ByteArray.empty).size≤1000000) (hd:¬((W.getD 0 ByteArray.empty).data.toList=[45]∧W≠[])):numP i L W n:=by
 refine jmw (fun h=>joZ ?_) (fun h=>?_)
 ·unfold pf1
  have h:=of_decide_eq_true h
  rw[if_neg hd,if_pos (by omega)]
 ·have h:=of_decide_eq_false h
  have h2:¬W.length<2:=by omega
  obtain⟨g0,g1,g2⟩:=jzg (k:=0) (hw 0)
  obtain⟨f0,f1,f2⟩:=jzg (k:=1) (hw 1)
  refine⟨⟨by omega⟩,⟨by omega⟩,⟨g0⟩,⟨by omega⟩,⟨by omega⟩,⟨f0⟩,jmw (fun h=>joZ ?_) (fun h=>jmw (fun h'=>joZ ?_) (fun h'=>?_))⟩
  ·unfold pf1
   rw[if_neg hd,if_neg h2]
   rw[g1]at h
   cases hx:jcK 13 (W.getD 0 ByteArray.empty).data.toList with
   |none=>rfl
   |some v=>rw[hx]at h; cases h
  ·unfold pf1
   rw[if_neg hd,if_neg h2]
   rw[f1]at h'
   cases hx:jcK 13 (W.getD 1 ByteArray.empty).data.toList with
   |none=>cases jcK 13 (W.getD 0 ByteArray.empty).data.toList<;>rfl
   |some v=>rw[hx]at h'; cases h'
  ·have hb:∀j,j<6→(bks (List.map C.d (jeb L))).getD j false=true:=fun j hj=>by
    match j,hj with
    |0,_=>rfl
    |1,_=>rfl
    |2,_=>rfl
    |3,_=>rfl
    |4,_=>rfl
    |5,_=>rfl
   have hc:∀(j:Nat) (a:Int),j<6→(iks .i64 (jgY j true 0 (List.map C.d (jeb L)))).getD (6+j*2) false=true∧(iks .i64 (jjr .i64 (6+j*2) a 0 (jgY j true 0 (List.map C.d (jeb L))))).getD (6+j*2+1) false=true:=fun j a hj=>by
    match j,hj with
    |0,_=>exact⟨rfl,rfl⟩
    |1,_=>exact⟨rfl,rfl⟩
    |2,_=>exact⟨rfl,rfl⟩
    |3,_=>exact⟨rfl,rfl⟩
    |4,_=>exact⟨rfl,rfl⟩
    |5,_=>exact⟨rfl,rfl⟩
   rw[g1]at h
   rw[f1]at h'
   cases hx:jcK 13 (W.getD 0 ByteArray.empty).data.toList with
   |none=>rw[hx]at h; cases h
   |some v0 =>
   cases hy:jcK 13 (W.getD 1 ByteArray.empty).data.toList with
   |none=>rw[hy]at h'; cases h'
   |some v1 =>
    have hp:pf1 W=some ((true,v0,v1),W.drop 2):=by
     unfold pf1
     rw[if_neg hd,if_neg h2,hx,hy]
    exact⟨⟨trivial⟩,⟨by omega⟩,⟨by omega⟩,⟨hb i hi⟩,⟨by omega⟩,⟨hc i _ hi⟩,jt3 hi hn hp (by rw[g2 v0 hx,f2 v1 hy]) (jsl 2)⟩
theorem jvd {i:Nat} {L:List Fg} {W:List ByteArray} {n:Dp} (hi:i<6) (hn:n=nx1 (L,W)) (hw:∀k,(W.getD k ByteArray.empty).size≤1000000):jdn i L W n:=by
 refine jmw (fun h=>?_) (fun h=>?_)
 ·have h1:0<W.length:=by simpa using h
  have hne:W≠[]:=fun e=>by rw[e]at h1; cases h1
  refine⟨⟨by omega⟩,⟨h1⟩,jmw (fun h=>?_) (fun h=>?_)⟩
  ·have hd:(W.getD 0 ByteArray.empty).data.toList=[45]:=by
    rw[jnU]at h
    rw[of_decide_eq_true h]
   exact⟨⟨by omega⟩,jt3 hi hn (by unfold pf1; rw[if_pos ⟨hd,hne⟩]) rfl (jsl 1)⟩
  ·refine jpQ hi hn hw (fun hc=>?_)
   rw[jnU]at h
   refine of_decide_eq_false h ?_
   have:=hc.1
   rw[←jwp (W.getD 0 ByteArray.empty),this]
   rfl
 ·refine jpQ hi hn hw (fun hc=>?_)
  have:¬0<W.length:=by simpa using h
  exact hc.2 (List.eq_nil_of_length_eq_zero (by omega))
def jkq (i:Nat) (d:Dp) (e:Ex) (st':St):Prop:=match e with | .normal=>(pf1 d.2).isSome=true∧Le 0 st' (jgn false (i+1) (nx1 d)) | .ret=>pf1 d.2=none∧jvb ([],7) st' | .exit _=>False
theorem jx7 (W:List ByteArray) (h:jdn 0 [] W (nx1 ([],W))):jgm pgL (jgn (Nat.beq 0 0) 0 ([],W)) (jkq 0 ([],W)) :=
 Eq.mp (by kernel_rfl:jdn 0 [] W (nx1 ([],W))=_) h
theorem jx8 (x0:Fg) (W:List ByteArray) (h:jdn 1 [x0] W (nx1 ([x0],W))):jgm pgL (jgn (Nat.beq 1 0) 1 ([x0],W)) (jkq 1 ([x0],W)) :=
 Eq.mp (by kernel_rfl:jdn 1 [x0] W (nx1 ([x0],W))=_) h
theorem jx9 (x0 x1:Fg) (W:List ByteArray) (h:jdn 2 [x0,x1] W (nx1 ([x0,x1],W))):jgm pgL (jgn (Nat.beq 2 0) 2 ([x0,x1],W)) (jkq 2 ([x0,x1],W)) :=
 Eq.mp (by kernel_rfl:jdn 2 [x0,x1] W (nx1 ([x0,x1],W))=_) h
theorem jya (x0 x1 x2:Fg) (W:List ByteArray) (h:jdn 3 [x0,x1,x2] W (nx1 ([x0,x1,x2],W))):jgm pgL (jgn (Nat.beq 3 0) 3 ([x0,x1,x2],W)) (jkq 3 ([x0,x1,x2],W)) :=
 Eq.mp (by kernel_rfl:jdn 3 [x0,x1,x2] W (nx1 ([x0,x1,x2],W))=_) h
theorem jyb (x0 x1 x2 x3:Fg) (W:List ByteArray) (h:jdn 4 [x0,x1,x2,x3] W (nx1 ([x0,x1,x2,x3],W))):jgm pgL (jgn (Nat.beq 4 0) 4 ([x0,x1,x2,x3],W)) (jkq 4 ([x0,x1,x2,x3],W)) :=
 Eq.mp (by kernel_rfl:jdn 4 [x0,x1,x2,x3] W (nx1 ([x0,x1,x2,x3],W))=_) h
theorem jyc (x0 x1 x2 x3 x4:Fg) (W:List ByteArray) (h:jdn 5 [x0,x1,x2,x3,x4] W (nx1 ([x0,x1,x2,x3,x4],W))):jgm pgL (jgn (Nat.beq 5 0) 5 ([x0,x1,x2,x3,x4],W)) (jkq 5 ([x0,x1,x2,x3,x4],W)) :=
 Eq.mp (by kernel_rfl:jdn 5 [x0,x1,x2,x3,x4] W (nx1 ([x0,x1,x2,x3,x4],W))=_) h
end Go.Sh
end

section
namespace Go.Sh
open Go Go.Proofs Go.RowKit Go.Sx Go.Sx06 Go.Lib
theorem jzD (s:ByteArray) (h:ok (strings_Split s ⟨#[32]⟩)):jgm (jjO 3 pgB) ⟨[(0,.w (.c (.d (.s s))))],[],0⟩ (fun e st=>match e with | .normal=>jgm pgR3 st (fun e st'=>match e with | .normal=>Le 0 st' (jgn true 0 ([],val (strings_Split s ⟨#[32]⟩)))|_=>False)|_=>False):=by
 refine Eq.mp (by kernel_rfl:(Ob (ok (strings_Split s ⟨#[32]⟩))∧Ob ((0:Int)=((0:Nat):Int))∧Ob ((0:Nat)=0)∧Ob ((0:Int)=0)∧Ob ((0:Nat)=0)∧Ob (val (strings_Split s ⟨#[32]⟩)=val (strings_Split s ⟨#[32]⟩))∧CE [] [] (CE [] [] True))=_) ?_
 exact⟨⟨h⟩,⟨rfl⟩,⟨rfl⟩,⟨rfl⟩,⟨rfl⟩,⟨rfl⟩,jeV rfl (jeV rfl trivial)⟩
theorem jzE (L:List Fg) (W:List ByteArray):jgm pgL (jgn false 6 (L,W)) (fun e st'=>match e with | .exit j=>j=0∧Le 0 st' (jva (L,W))|_=>False):=by
 refine Eq.mp (by kernel_rfl:((0:Nat)=0∧Ob ((0:Nat)=0)∧Ob ((0:Int)=0)∧Ob ((0:Nat)=0)∧Ob (W=W)∧CE L L (CE [] [] True))=_) ?_
 exact⟨rfl,⟨rfl⟩,⟨rfl⟩,⟨rfl⟩,⟨rfl⟩,jeV rfl (jeV rfl trivial)⟩
def jec (L:List Fg):List (List Int):=[[(L.getD 0 zf).2.1,(L.getD 0 zf).2.2],[(L.getD 1 zf).2.1,(L.getD 1 zf).2.2],[(L.getD 2 zf).2.1,(L.getD 2 zf).2.2],[(L.getD 3 zf).2.1,(L.getD 3 zf).2.2],[(L.getD 4 zf).2.1,(L.getD 4 zf).2.2],[(L.getD 5 zf).2.1,(L.getD 5 zf).2.2]]
theorem jzF (L:List Fg) (W:List ByteArray) (r:List Fg × Int) (h0:ok (y14 (jec L))) (h1:0<W.length→r=([],7)) (h2:¬0<W.length→val (y14 (jec L))=true→r=([],9)) (h3:¬0<W.length→val (y14 (jec L))=false→r=(L,0)) :
  jgm pgT (jva (L,W)) (fun e st'=>match e with | .ret=>jvb r st' | _=>False):=by
 refine Eq.mp (by kernel_rfl:(Br (decide ((W.length:Int)>(0:Int))) (Ob True∧Ob True∧CE [] r.1 (Ob ((7:Int)=r.2)∧True)) (Ob True∧Ob (ok (y14 (jec L)))∧Br (val (y14 (jec L)))
  (Ob True∧Ob True∧CE [] r.1 (Ob ((9:Int)=r.2)∧True)) (Ob True∧Ob True∧CE L r.1 (Ob ((0:Int)=r.2)∧True))))=_) ?_
 refine jmw (fun h=>?_) (fun h=>⟨⟨trivial⟩,⟨h0⟩,jmw (fun h'=>?_) (fun h'=>?_)⟩)
 ·have h:=of_decide_eq_true h
  rw[h1 (by omega)]
  exact⟨⟨trivial⟩,⟨trivial⟩,jeV rfl ⟨⟨rfl⟩,trivial⟩⟩
 ·have h:=of_decide_eq_false h
  rw[h2 (by omega) h']
  exact⟨⟨trivial⟩,⟨trivial⟩,jeV rfl ⟨⟨rfl⟩,trivial⟩⟩
 ·have h:=of_decide_eq_false h
  rw[h3 (by omega) h']
  exact⟨⟨trivial⟩,⟨trivial⟩,jeV rfl ⟨⟨rfl⟩,trivial⟩⟩
theorem jtu (L:List Fg):y14 (jec L)=some (jkp L):=by
 have hp:∀a b:Int,y80 a b=some (decide (a>b)):=fun a b=>rfl
 have hi:=jdm (jec L) [] (fun r=>decide (r.getD 0 0>r.getD 1 0)) (body:=y18 (jec L)) (fun i=>.inl (i:Int)) (.inr ()) (by simp[jec])
  (fun i hi hp'=>by
   unfold y18
   rw[if_pos (by omega),if_pos (by omega),if_pos (by omega),Int.toNat_natCast,hp,jaa,if_pos hp'])
  (fun i hi hp'=>by
   have:(jec L).length=6:=rfl
   unfold y18
   rw[if_pos (by omega),if_pos (by omega),if_pos (by omega),Int.toNat_natCast,hp,jaa,if_neg (by rw[hp']; simp),jap (by omega)])
  (by unfold y18; rw[if_neg (by omega)])
 have hb:jkp L=(jec L).any (fun r=>decide (r.getD 0 0>r.getD 1 0)):=rfl
 unfold y14 y33
 rw[hi,jaa,hb]
 cases hf:(jec L).findIdx? (fun r=>decide (r.getD 0 0>r.getD 1 0))with
 |none =>
  rw[List.findIdx?_eq_none_iff]at hf
  have:(jec L).any (fun r=>decide (r.getD 0 0>r.getD 1 0))=false:=List.any_eq_false.2 fun x hx=>by rw[hf x hx]; simp
  rw[this]
  rfl
 |some k =>
  rw[List.findIdx?_eq_some_iff_getElem]at hf
  obtain⟨hk,hp',_⟩:=hf
  have:(jec L).any (fun r=>decide (r.getD 0 0>r.getD 1 0))=true:=List.any_eq_true.2 ⟨_,List.getElem_mem hk,hp'⟩
  rw[this]
  show Option.bind (some (k:Int)) _=_
  rw[jaa,decide_eq_true (by omega)]
theorem jmx (c:UInt8):∀(l pre:List UInt8),∀x∈jbq c pre l,x.length≤pre.length+l.length
 |[],pre,x,hx=>by
  simp only[jbq,List.mem_singleton]at hx
  subst hx
  simp
 |y::r,pre,x,hx=>by
  unfold jbq at hx
  split at hx
  ·rcases List.mem_cons.1 hx with rfl|hx
   ·simp
   ·have:=jmx c r [] x hx
    simp at this ⊢
    omega
  ·have:=jmx c r (pre++[y]) x hx
   simp at this ⊢
   omega
theorem jwv {d:Dp} {m:Nat} (h:∀k,(d.2.getD k ByteArray.empty).size≤m):∀k,((nx1 d).2.getD k ByteArray.empty).size≤m:=by
 intro k
 have hd:∀j,((d.2.drop j).getD k ByteArray.empty).size≤m:=fun j=>by
  have:=h (j+k)
  simpa [List.getD,List.getElem?_drop]using this
 unfold nx1 pf1
 split
 ·rename_i x W he
  split at he
  ·cases he; exact hd 1
  ·split at he
   ·cases he
   ·split at he
    ·cases he; exact hd 2
    ·cases he
 ·exact h k
def jsm (W0:List ByteArray) (i:Nat) (d:Dp):Prop:=pfS i W0=some d∧d.1.length=i∧∀k,(d.2.getD k ByteArray.empty).size≤1000000
theorem jzG {d:Dp} (h:(pf1 d.2).isSome=true):(nx1 d).1.length=d.1.length+1:=by
 unfold nx1
 obtain⟨⟨x,W⟩,hx⟩:=Option.isSome_iff_exists.1 h
 rw[hx]
 simp
theorem jww {W0:List ByteArray} {i:Nat} {d:Dp} (h:jsm W0 i d) (hs:(pf1 d.2).isSome=true):jsm W0 (i+1) (nx1 d):=by
 refine⟨?_,by rw[jzG hs,h.2.1],jwv h.2.2⟩
 show(pfS i W0).bind _=_
 rw[h.1]
 show(if(pf1 d.2).isSome=true then some (nx1 d)else none)=_
 rw[if_pos hs]
theorem jsn {W0:List ByteArray}:∀{j i:Nat},pfS i W0=none→pfS (i+j) W0=none
 |0,_,h=>h
 |j+1,i,h=>by
  show(pfS (i+j) W0).bind _=none
  rw[jsn h]
  rfl
theorem jwx {W0:List ByteArray} {i:Nat} {d:Dp} (hi:i<6) (h:jsm W0 i d) (hs:pf1 d.2=none):pfR W0=([],7):=by
 have h1:pfS (i+1) W0=none:=by
  show(pfS i W0).bind _=_
  rw[h.1]
  show(if(pf1 d.2).isSome=true then some (nx1 d)else none)=_
  rw[hs]
  rfl
 have h6:pfS 6 W0=none:=by
  have:=jsn (j:=5-i) h1
  rw[show i+1+(5-i)=6 by omega]at this
  exact this
 unfold pfR
 rw[h6]
theorem jzH {W0:List ByteArray} {i:Nat} {d:Dp} (hi:i<6) (h:jsm W0 i d):jgm pgL (jgn (Nat.beq i 0) i d) (jkq i d):=by
 obtain⟨L,W⟩:=d
 have hl:L.length=i:=h.2.1
 have hp:=jvd (L:=L) (n:=nx1 (L,W)) hi rfl h.2.2
 have hc:i=0∨i=1∨i=2∨i=3∨i=4∨i=5:=by omega
 rcases hc with rfl|rfl|rfl|rfl|rfl|rfl
 ·obtain rfl:=List.eq_nil_of_length_eq_zero hl
  exact jx7 W hp
 ·obtain⟨x0,rfl⟩:∃x0,L=[x0]:=by
   match L,hl with
   |[x0],_=>exact⟨x0,rfl⟩
  exact jx8 x0 W hp
 ·obtain⟨x0,x1,rfl⟩:∃x0 x1,L=[x0,x1]:=by
   match L,hl with
   |[x0,x1],_=>exact⟨x0,x1,rfl⟩
  exact jx9 x0 x1 W hp
 ·obtain⟨x0,x1,x2,rfl⟩:∃x0 x1 x2,L=[x0,x1,x2]:=by
   match L,hl with
   |[x0,x1,x2],_=>exact⟨x0,x1,x2,rfl⟩
  exact jya x0 x1 x2 W hp
 ·obtain⟨x0,x1,x2,x3,rfl⟩:∃x0 x1 x2 x3,L=[x0,x1,x2,x3]:=by
   match L,hl with
   |[x0,x1,x2,x3],_=>exact⟨x0,x1,x2,x3,rfl⟩
  exact jyb x0 x1 x2 x3 W hp
 ·obtain⟨x0,x1,x2,x3,x4,rfl⟩:∃x0 x1 x2 x3 x4,L=[x0,x1,x2,x3,x4]:=by
   match L,hl with
   |[x0,x1,x2,x3,x4],_=>exact⟨x0,x1,x2,x3,x4,rfl⟩
  exact jyc x0 x1 x2 x3 x4 W hp
theorem jyd (s:ByteArray) (hs:s.size≤1000000) {B:Bd} (ρ0:Env) (w:World) (hh:HRel ρ0 B [] 0 w) (hB:Old B w) :
  Calls Tryz.prog 61 #[.string s] w (EndR ρ0 B 0 w fun v hp _=>jjR 0 (rsF (pfR ((jbq 32 [] s.data.toList).map mkB))) v hp):=by
 have hsp:strings_Split s ⟨#[32]⟩=some ((jbq 32 [] s.data.toList).map mkB):=jwu s 32 hs
 have hv:val (strings_Split s ⟨#[32]⟩)=(jbq 32 [] s.data.toList).map mkB:=by rw[hsp]; rfl
 have hsmall:∀k,(((jbq 32 [] s.data.toList).map mkB).getD k ByteArray.empty).size≤1000000:=fun k=>by
  by_cases hk:k<((jbq 32 [] s.data.toList).map mkB).length
  ·rw[List.getD_eq_getElem?_getD,List.getElem?_eq_getElem hk]
   obtain⟨x,hx,he⟩:=List.mem_map.1 (List.getElem_mem hk)
   show(((jbq 32 [] s.data.toList).map mkB)[k]).size≤_
   rw[←he,jcr]
   have h1:=jmx 32 s.data.toList [] x hx
   have h2:=size_eq s
   simp only[List.length_nil,Nat.zero_add]at h1
   omega
  ·rw[List.getD_eq_getElem?_getD,List.getElem?_eq_none (by omega)]
   exact Nat.zero_le _
 generalize hW:(jbq 32 [] s.data.toList).map mkB=W0 at *
 refine calls_of_wp (c:=pgB) Tryz.func61 (by kernel_rfl) ?_
 have jfc:=jjH (n0:=0) (N:=73) (args:=[.w (.c (.d (.s s)))]) (Nat.le_of_ble_eq_true rfl) (fun x hx=>by simp only[List.mem_singleton]at hx; subst hx; trivial) (Nat.le_refl _) ρ0 w hh hB
 refine joB jdU (jc6 mixed jdU) (cur:=0) (gs:=[]) 3 pgB _ ρ0 _ w (by kernel_rfl) (jzD s (by rw[hsp]; rfl)) jfc (jan.refl _ _) (Bel.refl _ _) ?_ ?_
 ·intro ρ1 st1 a1 w1 hk1 hr1 hag1 hbl1
  have hT:jjP 3 pgB=.seq (.seq pgR3 (.block 0 (.loop pgL))) pgT:=by kernel_rfl
  rw[hT]
  refine wp_seq (wp_seq (wp_mono (jbA jdU (jc6 mixed jdU) pgR3 0 [] st1 _ ρ1 a1 w1 hk1 hr1 hag1 hbl1) ?_))
  rintro x a2 w2 ⟨ex,ρ2,st2,rfl,hle,hr2,hag2,hbl2⟩
  cases ex with
  |normal =>
   obtain⟨ρ3,hr3,hag3⟩:=Le.rel hle hr2
   rw[hv]at hr3
   refine jz9 (ti:=13) jdU (jc6 mixed jdU) 6 (fun i d=>jgn (Nat.beq i 0) i d) (jsm W0) (fun st=>pfR W0=([],7)∧jvb ([],7) st) jva jkq (fun i d=>rfl)
    (fun i d hi h=>jzH hi h) (fun i d st' hi h hk=>⟨nx1 d,jww h hk.1,hk.2⟩) (fun i d st' hi h hk=>⟨jwx hi h hk.1,hk.2⟩) (fun i d j st' hk=>hk) (fun d _=>jzE d.1 d.2)
    ([],W0) ⟨rfl,rfl,hsmall⟩ hr3 (fun x hx=>(hag3 x hx).trans (hag2 x hx)) hbl2 ?_ ?_
   ·rintro ρ4 st4 a4 w4 ⟨h7,hk4⟩ hr4 hag4 hbl4
    rw[h7]
    exact jtV hr4 hag4 hbl4 hk4
   ·intro ρ4 d a4 w4 hd hr4 hag4 hbl4
    have hc:=jtu d.1
    have hr:pfR W0=if d.2≠[]then([],7)else if jkp d.1=true then([],9)else(d.1,0):=by
     unfold pfR
     rw[hd.1]
    have hlen:0<d.2.length↔d.2≠[]:=List.length_pos_iff
    refine wp_mono (jbA jdU (jc6 mixed jdU) pgT 0 [] _ _ ρ4 a4 w4 (jzF d.1 d.2 (pfR W0) (by rw[hc]; rfl) (fun h=>by rw[hr,if_pos (hlen.1 h)]) (fun h h'=>by
     rw[hc]at h'
     have h':jkp d.1=true:=h'
     rw[hr,if_neg (fun e=>h (hlen.2 e)),if_pos h']) (fun h h'=>by
     rw[hc]at h'
     have h':jkp d.1=false:=h'
     rw[hr,if_neg (fun e=>h (hlen.2 e)),h']
     rfl)) hr4 hag4 hbl4) ?_
    rintro e a5 w5 ⟨ex,ρ5,st5,rfl,hk5,hr5,hag5,hbl5⟩
    cases ex with
    |normal=>exact hk5.elim
    |exit j=>exact hk5.elim
    |ret=>exact jtV hr5 hag5 hbl5 hk5
  |exit j=>exact hle.elim
  |ret=>exact hle.elim
 ·intro ex ρ1 st1 a1 w1 hne hk1 hr1 hag1 hbl1
  cases ex with
  |normal=>exact absurd rfl hne
  |exit j=>exact hk1.elim
  |ret=>exact hk1.elim
end Go.Sh
end

section
namespace Go.Sh
open Go Go.Proofs Go.RowKit Go.Sx Go.Sx06 Go.Lib
end Go.Sh
end

section
namespace Go.Sh
open Go Go.Proofs Go.RowKit Go.Sx Go.Sx06 Go.Lib
end Go.Sh
end

section
namespace Go.Sh
open Go Go.Proofs Go.RowKit Go.Sx Go.Sx06 Go.Lib
def jbk (s:ByteArray):Option (List Fg × Int):=if s.size≤100000 then some (pfR ((jbq 32 [] s.data.toList).map mkB))else none
def jgo:List SV:=[.c (.d)]
def jdJ:List Lf→Option GT
 |[.d (.s s)]=>some (.leaf (ok (jbk s)) (rsF (val (jbk s))))
 |_=>none
abbrev sp_61:jab→jab:=jas 61 true (jal jgo jdJ)
theorem jlu:jah Tryz.prog 61 true (jal jgo jdJ):=by
 refine jdQ (body:=jai Tryz.f61) Tryz.func61 (by kernel_rfl) (by kernel_rfl) ?_
 intro ls t hg ho b hb ρ0 w hlt hh
 unfold jdJ at hg
 split at hg
 ·rename_i s
  cases hg
  obtain rfl:=jaD hb
  have hk:ok (jbk s):=ho
  unfold jbk at hk
  have hn:s.size≤100000:=by
   by_cases h:s.size≤100000
   ·exact h
   ·rw[if_neg h]at hk; cases hk
  have hv:val (jbk s)=pfR ((jbq 32 [] s.data.toList).map mkB):=by
   unfold jbk
   rw[if_pos hn]
   rfl
  refine(jyd s (by omega) (B:=fun k=>k<w.heap.size) ρ0 w hh (fun k hk=>hk)).mono ?_
  rintro e w' ⟨ρ',v,hp',nx',rfl,h1,h2,h3,h4,h5⟩
  refine⟨ρ',v,hp',nx',rfl,h1,h2,h3,h4,?_⟩
  rw[←hv]at h5
  exact h5
 ·cases hg
theorem sp_61_ok {sp:jab} (h:jac Tryz.prog sp):jac Tryz.prog (sp_61 sp):=jag jlu h
end Go.Sh
end

section
namespace Go.Sh
open Go Go.Proofs Go.RowKit Go.Sx
open Go.IntKind (wrap)
def jfy:List (Option Cont):=[none]
def y38 (u42 u43 u44 u45 u46 u47:Bool) (u48 u49 u50 u51 u52 u53 u54 u55 u56 u57 u58 u59:Int) (x0:(Int × List ByteArray)):Option ((Int × List ByteArray) ⊕ (List ByteArray)) :=
 if x0.1<6 then
  if(0≤x0.1∧x0.1<(↑(6:Nat):Int))∧List.getD [true,true,true,true,true,true] (Int.toNat x0.1*1) false=true then
  if(!List.getD [u42,u43,u44,u45,u46,u47] (Int.toNat x0.1*1) false)=true then
   if(List.length x0.2+List.length [ByteArray.mk #[(45:UInt8)]])*16≤140737488355328∧List.length x0.2+List.length [ByteArray.mk #[(45:UInt8)]]≤9223372036854775807 then
   some (.inl ((wrap .i64 (x0.1+1),x0.2++[ByteArray.mk #[(45:UInt8)]])))
   else none
  else
   if 0≤x0.1∧x0.1<(↑(6:Nat):Int)then
   if List.getD [false,false,false,false,false,false,true,true,true,true,true,true,true,true,true,true,true,true] (6+Int.toNat x0.1*2+Field.offset (Field.mk "Lo" (3:Nat) (0:Nat) false "" "" (0:Nat))) false=true then
    Option.bind (strconv_Itoa (List.getD [(0:Int),0,0,0,0,0,u48,u49,u50,u51,u52,u53,u54,u55,u56,u57,u58,u59] (6+Int.toNat x0.1*2+Field.offset (Field.mk "Lo" (3:Nat) (0:Nat) false "" "" (0:Nat))) (0:Int))) fun r0 =>
    if 0≤x0.1∧x0.1<(↑(6:Nat):Int)then
    if List.getD [false,false,false,false,false,false,true,true,true,true,true,true,true,true,true,true,true,true] (6+Int.toNat x0.1*2+Field.offset (Field.mk "Hi" (3:Nat) (1:Nat) false "" "" (8:Nat))) false=true then
     Option.bind (strconv_Itoa (List.getD [(0:Int),0,0,0,0,0,u48,u49,u50,u51,u52,u53,u54,u55,u56,u57,u58,u59] (6+Int.toNat x0.1*2+Field.offset (Field.mk "Hi" (3:Nat) (1:Nat) false "" "" (8:Nat))) (0:Int))) fun r1 =>
     if(List.length x0.2+List.length [r0,r1])*16≤140737488355328∧List.length x0.2+List.length [r0,r1]≤9223372036854775807 then
     some (.inl ((wrap .i64 (x0.1+1),x0.2++[r0,r1])))
     else none
    else none
    else none
   else none
   else none
  else none
 else
  some (.inr x0.2)
def y66 (u10:List ByteArray):Option ByteArray :=
 Option.bind (strings_Join u10 (ByteArray.mk #[(32:UInt8)])) fun r2 =>
 some r2
def y55 (u42 u43 u44 u45 u46 u47:Bool) (u48 u49 u50 u51 u52 u53 u54 u55 u56 u57 u58 u59:Int):Option ByteArray :=
 Option.bind (jae (y38 u42 u43 u44 u45 u46 u47 u48 u49 u50 u51 u52 u53 u54 u55 u56 u57 u58 u59) big (((0:Int),[]))) (y66)
def y167:List A→Option (Prop × List RV)
 |[.s [.b u42,.b u43,.b u44,.b u45,.b u46,.b u47,.i .i64 u48,.i .i64 u49,.i .i64 u50,.i .i64 u51,.i .i64 u52,.i .i64 u53,.i .i64 u54,.i .i64 u55,.i .i64 u56,.i .i64 u57,.i .i64 u58,.i .i64 u59]]=>some (ok (y55 u42 u43 u44 u45 u46 u47 u48 u49 u50 u51 u52 u53 u54 u55 u56 u57 u58 u59),[.d (.s ((val (y55 u42 u43 u44 u45 u46 u47 u48 u49 u50 u51 u52 u53 u54 u55 u56 u57 u58 u59))))])
 |_=>none
abbrev sp_62:jab→jab:=jas 62 true (jaq jfy y167)
abbrev jnV (v0:(Int × List ByteArray) × Nat):=(6+Int.toNat v0.1.1*2+Field.offset (Field.mk "Lo" (3:Nat) (0:Nat) false "" "" (0:Nat)))
abbrev jnW (v0:(Int × List ByteArray) × Nat):=(6+Int.toNat v0.1.1*2+Field.offset (Field.mk "Hi" (3:Nat) (1:Nat) false "" "" (8:Nat)))
theorem jkr (u42 u43 u44 u45 u46 u47:Bool) (u48 u49 u50 u51 u52 u53 u54 u55 u56 u57 u58 u59:Int) (r:ByteArray) (h:Option.bind (y55 u42 u43 u44 u45 u46 u47 u48 u49 u50 u51 u52 u53 u54 u55 u56 u57 u58 u59) some=some r):ja6 Tryz.f62 ((sp_109 (sp_110 sp0))) (fun gs id _=>match id with
 |0=>some ⟨(Int × List ByteArray) × Nat,fun z=>⟨[(1,.w (.c (.p 1 0 1 0))),(3,.w (.c (.o 2))),(7,.w (.a [.d (.b u42),.d (.b u43),.d (.b u44),.d (.b u45),.d (.b u46),.d (.b u47)])),(8,.w (.c (.d (.i .i64 (Prod.fst (Prod.fst z))))))],[(1,.box 95 [.d (.b u42),.d (.b u43),.d (.b u44),.d (.b u45),.d (.b u46),.d (.b u47),.d (.i .i64 u48),.d (.i .i64 u49),.d (.i .i64 u50),.d (.i .i64 u51),.d (.i .i64 u52),.d (.i .i64 u53),.d (.i .i64 u54),.d (.i .i64 u55),.d (.i .i64 u56),.d (.i .i64 u57),.d (.i .i64 u58),.d (.i .i64 u59)]),(2,.row 9 (.strs (Prod.snd (Prod.fst z))))],3⟩,fun z=>Option.bind (jae (y38 u42 u43 u44 u45 u46 u47 u48 u49 u50 u51 u52 u53 u54 u55 u56 u57 u58 u59) (Prod.snd z) (Prod.fst z)) (fun y0=>Option.bind (y66 y0) some)=some r,fun z=>Prod.snd z⟩
 |_=>none) [.s [.b u42,.b u43,.b u44,.b u45,.b u46,.b u47,.i .i64 u48,.i .i64 u49,.i .i64 u50,.i .i64 u51,.i .i64 u52,.i .i64 u53,.i .i64 u54,.i .i64 u55,.i .i64 u56,.i .i64 u57,.i .i64 u58,.i .i64 u59]] [.d (.s r)]:=by
 refine Eq.mp (by kernel_rfl:(
 ((∃(v0:(Int × List ByteArray) × Nat),(Ob ((Option.bind (jae (y38 u42 u43 u44 u45 u46 u47 u48 u49 u50 u51 u52 u53 u54 u55 u56 u57 u58 u59) v0.2 v0.1) fun y0=>Option.bind (y66 y0) some)=some r) ∧
 (Ob (0=0) ∧
 (Ob (u42=u42) ∧
 (Ob (u43=u43) ∧
 (Ob (u44=u44) ∧
 (Ob (u45=u45) ∧
 (Ob (u46=u46) ∧
 (Ob (u47=u47) ∧
 (Ob ((0:Int)=v0.1.1) ∧
 (Ob (u42=u42) ∧
 (Ob (u43=u43) ∧
 (Ob (u44=u44) ∧
 (Ob (u45=u45) ∧
 (Ob (u46=u46) ∧
 (Ob (u47=u47) ∧
 (Ob (u48=u48) ∧
 (Ob (u49=u49) ∧
 (Ob (u50=u50) ∧
 (Ob (u51=u51) ∧
 (Ob (u52=u52) ∧
 (Ob (u53=u53) ∧
 (Ob (u54=u54) ∧
 (Ob (u55=u55) ∧
 (Ob (u56=u56) ∧
 (Ob (u57=u57) ∧
 (Ob (u58=u58) ∧
 (Ob (u59=u59) ∧
 (Ob (List.length v0.1.2=(0:Nat)) ∧
 True))))))))))))))))))))))))))))) ∧
  (∀(v0:(Int × List ByteArray) × Nat),((Option.bind (jae (y38 u42 u43 u44 u45 u46 u47 u48 u49 u50 u51 u52 u53 u54 u55 u56 u57 u58 u59) v0.2 v0.1) fun y0=>Option.bind (y66 y0) some)=some r →
 Br (decide (v0.1.1<6))
  ((Ob ((0≤v0.1.1∧v0.1.1<(↑(6:Nat):Int))∧List.getD [true,true,true,true,true,true] (Int.toNat v0.1.1*1) false=true) ∧
 Br (!List.getD [u42,u43,u44,u45,u46,u47] (Int.toNat v0.1.1*1) false)
  ((Ob ((List.length v0.1.2+List.length [ByteArray.mk #[(45:UInt8)]])*16≤140737488355328∧List.length v0.1.2+List.length [ByteArray.mk #[(45:UInt8)]]≤9223372036854775807) ∧
  (∃(v1:(Int × List ByteArray) × Nat),(Ob ((Option.bind (jae (y38 u42 u43 u44 u45 u46 u47 u48 u49 u50 u51 u52 u53 u54 u55 u56 u57 u58 u59) v1.2 v1.1) fun y0=>Option.bind (y66 y0) some)=some r) ∧
 (Ob (v1.2<v0.2) ∧
 (Ob (0=0) ∧
 (Ob (u42=u42) ∧
 (Ob (u43=u43) ∧
 (Ob (u44=u44) ∧
 (Ob (u45=u45) ∧
 (Ob (u46=u46) ∧
 (Ob (u47=u47) ∧
 (Ob (wrap .i64 (v0.1.1+1)=v1.1.1) ∧
 (Ob (u42=u42) ∧
 (Ob (u43=u43) ∧
 (Ob (u44=u44) ∧
 (Ob (u45=u45) ∧
 (Ob (u46=u46) ∧
 (Ob (u47=u47) ∧
 (Ob (u48=u48) ∧
 (Ob (u49=u49) ∧
 (Ob (u50=u50) ∧
 (Ob (u51=u51) ∧
 (Ob (u52=u52) ∧
 (Ob (u53=u53) ∧
 (Ob (u54=u54) ∧
 (Ob (u55=u55) ∧
 (Ob (u56=u56) ∧
 (Ob (u57=u57) ∧
 (Ob (u58=u58) ∧
 (Ob (u59=u59) ∧
 (Ob (v0.1.2++[ByteArray.mk #[(45:UInt8)]]=v1.1.2) ∧
 True))))))))))))))))))))))))))))))))
  ((Ob (0≤v0.1.1∧v0.1.1<(↑(6:Nat):Int)) ∧
 (Ob (List.getD [false,false,false,false,false,false,true,true,true,true,true,true,true,true,true,true,true,true] (jnV v0) false=true) ∧
 (Ob (ok (strconv_Itoa (List.getD [(0:Int),0,0,0,0,0,u48,u49,u50,u51,u52,u53,u54,u55,u56,u57,u58,u59] (jnV v0) (0:Int)))) ∧
 (Ob (0≤v0.1.1∧v0.1.1<(↑(6:Nat):Int)) ∧
 (Ob (List.getD [false,false,false,false,false,false,true,true,true,true,true,true,true,true,true,true,true,true] (jnW v0) false=true) ∧
 (Ob (ok (strconv_Itoa (List.getD [(0:Int),0,0,0,0,0,u48,u49,u50,u51,u52,u53,u54,u55,u56,u57,u58,u59] (jnW v0) (0:Int)))) ∧
 (Ob ((List.length v0.1.2+List.length [val (strconv_Itoa (List.getD [(0:Int),0,0,0,0,0,u48,u49,u50,u51,u52,u53,u54,u55,u56,u57,u58,u59] (jnV v0) (0:Int))),val (strconv_Itoa (List.getD [(0:Int),0,0,0,0,0,u48,u49,u50,u51,u52,u53,u54,u55,u56,u57,u58,u59] (jnW v0) (0:Int)))])*16≤140737488355328∧List.length v0.1.2+List.length [val (strconv_Itoa (List.getD [(0:Int),0,0,0,0,0,u48,u49,u50,u51,u52,u53,u54,u55,u56,u57,u58,u59] (jnV v0) (0:Int))),val (strconv_Itoa (List.getD [(0:Int),0,0,0,0,0,u48,u49,u50,u51,u52,u53,u54,u55,u56,u57,u58,u59] (jnW v0) (0:Int)))]≤9223372036854775807) ∧
  (∃(v1:(Int × List ByteArray) × Nat),(Ob ((Option.bind (jae (y38 u42 u43 u44 u45 u46 u47 u48 u49 u50 u51 u52 u53 u54 u55 u56 u57 u58 u59) v1.2 v1.1) fun y0=>Option.bind (y66 y0) some)=some r) ∧
 (Ob (v1.2<v0.2) ∧
 (Ob (0=0) ∧
 (Ob (u42=u42) ∧
 (Ob (u43=u43) ∧
 (Ob (u44=u44) ∧
 (Ob (u45=u45) ∧
 (Ob (u46=u46) ∧
 (Ob (u47=u47) ∧
 (Ob (wrap .i64 (v0.1.1+1)=v1.1.1) ∧
 (Ob (u42=u42) ∧
 (Ob (u43=u43) ∧
 (Ob (u44=u44) ∧
 (Ob (u45=u45) ∧
 (Ob (u46=u46) ∧
 (Ob (u47=u47) ∧
 (Ob (u48=u48) ∧
 (Ob (u49=u49) ∧
 (Ob (u50=u50) ∧
 (Ob (u51=u51) ∧
 (Ob (u52=u52) ∧
 (Ob (u53=u53) ∧
 (Ob (u54=u54) ∧
 (Ob (u55=u55) ∧
 (Ob (u56=u56) ∧
 (Ob (u57=u57) ∧
 (Ob (u58=u58) ∧
 (Ob (u59=u59) ∧
 (Ob (v0.1.2++[val (strconv_Itoa (List.getD [(0:Int),0,0,0,0,0,u48,u49,u50,u51,u52,u53,u54,u55,u56,u57,u58,u59] (jnV v0) (0:Int))),val (strconv_Itoa (List.getD [(0:Int),0,0,0,0,0,u48,u49,u50,u51,u52,u53,u54,u55,u56,u57,u58,u59] (jnW v0) (0:Int)))]=v1.1.2) ∧
 True))))))))))))))))))))))))))))))))))))))))
  ((Ob (ok (strings_Join v0.1.2 (ByteArray.mk #[(32:UInt8)]))) ∧
 (Ob True ∧
 (Ob (val (strings_Join v0.1.2 (ByteArray.mk #[(32:UInt8)]))=r) ∧
 True))))))))=_) ?_
 refine⟨⟨(((0:Int),[]),big),⟨jbe h⟩,(by repeat' constructor)⟩,fun z3 hz3=>?_⟩
 obtain⟨k3,hm3,h⟩:=jaU hz3
 refine jaT h (fun h=>?_) (fun h=>?_)
 ·refine jat h fun h=>?_
  refine jaV h (fun h=>?_) (fun h=>?_)
  ·refine jat h fun h=>?_
   exact⟨((wrap .i64 ((Prod.fst z3).1+1),(Prod.fst z3).2++[ByteArray.mk #[(45:UInt8)]]),k3),⟨jaQ h⟩,⟨ja0 hm3.symm⟩,(by repeat' constructor)⟩
  ·refine jat h fun h=>?_
   refine jat h fun h=>?_
   refine jav h fun h=>?_
   refine jat h fun h=>?_
   refine jat h fun h=>?_
   refine jav h fun h=>?_
   refine jat h fun h=>?_
   exact⟨((wrap .i64 ((Prod.fst z3).1+1),(Prod.fst z3).2++[val (strconv_Itoa (List.getD [(0:Int),0,0,0,0,0,u48,u49,u50,u51,u52,u53,u54,u55,u56,u57,u58,u59] (6+Int.toNat (Prod.fst z3).1*2+Field.offset (Field.mk "Lo" (3:Nat) (0:Nat) false "" "" (0:Nat))) (0:Int))),val (strconv_Itoa (List.getD [(0:Int),0,0,0,0,0,u48,u49,u50,u51,u52,u53,u54,u55,u56,u57,u58,u59] (6+Int.toNat (Prod.fst z3).1*2+Field.offset (Field.mk "Hi" (3:Nat) (1:Nat) false "" "" (8:Nat))) (0:Int)))]),k3),⟨jaQ h⟩,⟨ja0 hm3.symm⟩,(by repeat' constructor)⟩
 ·have h:=jaC h
  refine jav h fun h=>?_
  refine jad ?_
  exact rcs h
theorem jks:jah Tryz.prog 62 true (jaq jfy y167):=by
 refine jaw (sp:=(sp_109 (sp_110 sp0))) (fn:=Tryz.f62) (body:=jai Tryz.f62) mixed (sp_109_ok (sp_110_ok jak)) Tryz.func62 (by kernel_rfl) (by kernel_rfl) fun as_ ob rs h ho=>?_
 unfold y167 at h
 split at h
 ·rename_i u42 u43 u44 u45 u46 u47 u48 u49 u50 u51 u52 u53 u54 u55 u56 u57 u58 u59
  cases h
  exact⟨Nat.le_of_ble_eq_true rfl,_,_,jkr u42 u43 u44 u45 u46 u47 u48 u49 u50 u51 u52 u53 u54 u55 u56 u57 u58 u59 _ (jaj ho)⟩
 ·cases h
theorem sp_62_ok {sp:jab} (h:jac Tryz.prog sp):jac Tryz.prog (sp_62 sp):=jag jks h
end Go.Sh
end

section
namespace Go.Sh
open Go Go.Proofs Go.RowKit Go.Sx
open Go.IntKind (wrap)
def jiI:List SV:=[.a [.d,.r (.floats .f32 []),.d,.d]]
def jhi (u4:Int) (u0:List Nat) (u6 u5:Int):Option (Int × List Nat × Int × Int) :=
 Option.bind (y81 u4 u0) fun r0 =>
 some (r0.1,r0.2,u6,u5)
def jiJ:List Lf→Option GT
 |[.d (.i .i64 u4),.r (.floats .f32 u0),.d (.i .i64 u6),.d (.i .i64 u5)]=>some (.leaf (ok (jhi u4 u0 u6 u5)) [.s [.d (.i .i64 ((val (jhi u4 u0 u6 u5)).1)),.row 151 (.floats .f32 ((val (jhi u4 u0 u6 u5)).2.1)),.d (.i .i64 ((val (jhi u4 u0 u6 u5)).2.2.1)),.d (.i .i64 ((val (jhi u4 u0 u6 u5)).2.2.2))]])
 |_=>none
abbrev sp_20:jab→jab:=jas 20 true (jal jiI jiJ)
def jve (u4:Int) (u0:List Nat) (u6 u5:Int):T (Int × List Nat × Int × Int) :=
 .call (y81 u4 u0) fun r0 =>
 .obT
 (.ret ((r0.1,r0.2,u6,u5)) (fun r=>(Ob (r0.1=r.1) ∧
 (Ob (r0.2=r.2.1) ∧
 (Ob (u6=r.2.2.1) ∧
 (Ob (u5=r.2.2.2) ∧
 True))))) ⟨⟨rfl⟩,⟨⟨rfl⟩,⟨⟨rfl⟩,⟨⟨rfl⟩,trivial⟩⟩⟩⟩)
theorem jtv (u4:Int) (u0:List Nat) (u6 u5:Int) (r:Int × List Nat × Int × Int) (h:Option.bind (jhi u4 u0 u6 u5) some=some r):jaY Tryz.f20 ((sp_18 sp0)) (fun _ _ _=>none) (jaO jiI [.d (.i .i64 u4),.r (.floats .f32 u0),.d (.i .i64 u6),.d (.i .i64 u5)]) [.s [.d (.i .i64 r.1),.row 151 (.floats .f32 r.2.1),.d (.i .i64 r.2.2.1),.d (.i .i64 r.2.2.2)]] :=
 T.vc (t:=jve u4 u0 u6 u5) (by kernel_rfl) (by kernel_rfl) h
theorem jtw:jah Tryz.prog 20 true (jal jiI jiJ):=by
 refine jau (sp:=(sp_18 sp0)) (fn:=Tryz.f20) (body:=jai Tryz.f20) mixed (sp_18_ok jak) Tryz.func20 (by kernel_rfl) (by kernel_rfl) fun ls t h ho b hb=>?_
 unfold jiJ at h
 split at h
 ·rename_i u4 u0 u6 u5
  cases h
  obtain rfl:=jaD hb
  exact⟨Nat.le_of_ble_eq_true (by kernel_rfl),_,_,jtv u4 u0 u6 u5 _ (jaj ho)⟩
 ·cases h
theorem sp_20_ok {sp:jab} (h:jac Tryz.prog sp):jac Tryz.prog (sp_20 sp):=jag jtw h
def jkt:List (Option Cont):=[none]
def jhj (n:Int):Option Bool :=
 Option.bind (y56 n (8000:Int) (192000:Int)) fun r0 =>
 some r0
def jgp:List A→Option (Prop × List RV)
 |[.d (.i .i64 n)]=>some (ok (jhj n),[.d (.b ((val (jhj n))))])
 |_=>none
abbrev sp_120:jab→jab:=jas 120 true (jaq jkt jgp)
def jso (n:Int):T (Bool) :=
 .call (y56 n (8000:Int) (192000:Int)) fun r0 =>
 .obT
 (.ret (r0) (fun r=>(Ob (r0=r) ∧
 True)) ⟨⟨rfl⟩,trivial⟩)
theorem jqt (n:Int) (r:Bool) (h:Option.bind (jhj n) some=some r):ja6 Tryz.f120 ((sp_35 sp0)) (fun _ _ _=>none) [.d (.i .i64 n)] [.d (.b r)] :=
 T.vc (t:=jso n) (by kernel_rfl) (by kernel_rfl) h
theorem jqu:jah Tryz.prog 120 true (jaq jkt jgp):=by
 refine jaw (sp:=(sp_35 sp0)) (fn:=Tryz.f120) (body:=jai Tryz.f120) mixed (sp_35_ok jak) Tryz.func120 (by kernel_rfl) (by kernel_rfl) fun as_ ob rs h ho=>?_
 unfold jgp at h
 split at h
 ·rename_i n
  cases h
  exact⟨Nat.le_of_ble_eq_true rfl,_,_,jqt n _ (jaj ho)⟩
 ·cases h
theorem sp_120_ok {sp:jab} (h:jac Tryz.prog sp):jac Tryz.prog (sp_120 sp):=jag jqu h
def y147:List SV:=[.a [.d,.r (.floats .f32 [])]]
def y36 (u16:List Nat) (x0:Int):Option (Int ⊕ ((Int × Int) ⊕ Unit)) :=
 if x0<(↑(List.length u16):Int)then
  if 0≤x0∧x0<(↑(List.length u16):Int)then
  if Int.toNat x0<List.length u16 then
   if(jfO (List.getD u16 (Int.toNat x0) (0:Nat)))=true then
   some (.inr ((.inl ((x0,27)))))
   else
   Option.bind (jgh (jcm (List.getD u16 (Int.toNat x0) (0:Nat)))) fun r1 =>
   if(!r1)=true then
    some (.inr ((.inl ((x0,27)))))
   else
    if(Ieee.Format.order (FloatKind.format .f64) (jcm (List.getD u16 (Int.toNat x0) (0:Nat))) (4674736138332667904:Nat)==some Ordering.gt)=true then
    some (.inr ((.inl ((x0,2)))))
    else
    if(Ieee.Format.order (FloatKind.format .f64) (jcm (List.getD u16 (Int.toNat x0) (0:Nat))) (13898108175187443712:Nat)==some Ordering.lt)=true then
     some (.inr ((.inl ((x0,2)))))
    else
     some (.inl (wrap .i64 (x0+1)))
  else none
  else none
 else
  some (.inr ((.inr ())))
def jhk (u10:Int × Int):Option (Int × Int) :=
 some (u10.1,u10.2)
def jhl (u27:Unit):Option (Int × Int) :=
 some (((0:Int),0))
def y88:((Int × Int) ⊕ Unit)→Option (Int × Int) :=
 (Sum.elim (jhk) (jhl))
def y60 (u17:Int) (u16:List Nat):Option (Int × Int) :=
 Option.bind (jhj u17) fun r0 =>
 if(!r0)=true then
  some (((0:Int),2))
 else
  if((↑(List.length u16):Int)==0)=true then
  some (((0:Int),10))
  else
  if(↑(List.length u16):Int)>1024 then
   some (((0:Int),8))
  else
   Option.bind (jae (y36 u16) big (0:Int)) (y88)
def y148:List Lf→Option GT
 |[.d (.i .i64 u17),.r (.floats .f32 u16)]=>some (.leaf (ok (y60 u17 u16)) [.c (.d (.i .i64 ((val (y60 u17 u16)).1))),.c (.d (.i .i64 ((val (y60 u17 u16)).2)))])
 |_=>none
abbrev sp_70:jab→jab:=jas 70 true (jal y147 y148)
theorem jiK (u17:Int) (u16:List Nat) (r:Int × Int) (h:Option.bind (y60 u17 u16) some=some r):jaY Tryz.f70 ((sp_120 (sp_121 sp0))) (fun gs id _=>match id with
 |0=>some ⟨Int × Nat,fun z=>⟨[(1,.w (.c (.p 1 0 1 0))),(4,.w (.c (.d (.i .i64 (Prod.fst z)))))],[(1,.box 24 [.d (.i .i64 u17),.o 0]),(0,.ext (.floats .f32 u16))],2⟩,fun z=>Option.bind (jae (y36 u16) (Prod.snd z) (Prod.fst z)) (fun y0=>Option.bind (y88 y0) some)=some r,fun z=>Prod.snd z⟩
 |_=>none) (jaO y147 [.d (.i .i64 u17),.r (.floats .f32 u16)]) [.c (.d (.i .i64 r.1)),.c (.d (.i .i64 r.2))]:=by
 refine Eq.mp (by kernel_rfl:(
 (Ob (ok (jhj u17)) ∧
 Br (!val (jhj u17))
  ((Ob True ∧
 (Ob True ∧
 (Ob ((0:Int)=r.1) ∧
 (Ob ((2:Int)=r.2) ∧
 True)))))
 (Br ((↑(List.length u16):Int)==0)
  ((Ob True ∧
 (Ob True ∧
 (Ob ((0:Int)=r.1) ∧
 (Ob ((10:Int)=r.2) ∧
 True)))))
 (Br (decide ((↑(List.length u16):Int)>1024))
  ((Ob True ∧
 (Ob True ∧
 (Ob ((0:Int)=r.1) ∧
 (Ob ((8:Int)=r.2) ∧
 True)))))
  (((∃(v0:Int × Nat),(Ob ((Option.bind (jae (y36 u16) v0.2 v0.1) fun y0=>Option.bind (y88 y0) some)=some r) ∧
 (Ob (0=0) ∧
 (Ob ((0:Int)=v0.1) ∧
 (Ob (u17=u17) ∧
 (Ob (u16=u16) ∧
 True)))))) ∧
  (∀(v0:Int × Nat),((Option.bind (jae (y36 u16) v0.2 v0.1) fun y0=>Option.bind (y88 y0) some)=some r →
 Br (decide (v0.1<(↑(List.length u16):Int)))
  ((Ob (0≤v0.1∧v0.1<(↑(List.length u16):Int)) ∧
 (Ob (Int.toNat v0.1<List.length u16) ∧
 Br (jfO (List.getD u16 (Int.toNat v0.1) (0:Nat)))
  ((Ob True ∧
 (Ob (ok jr9) ∧
 (Ob True ∧
 (Ob True ∧
 (Ob (v0.1=r.1) ∧
 (Ob ((27:Int)=r.2) ∧
 True)))))))
  ((Ob True ∧
 (Ob (ok (jgh (jcm (List.getD u16 (Int.toNat v0.1) (0:Nat))))) ∧
 Br (!val (jgh (jcm (List.getD u16 (Int.toNat v0.1) (0:Nat)))))
  ((Ob True ∧
 (Ob True ∧
 (Ob (v0.1=r.1) ∧
 (Ob ((27:Int)=r.2) ∧
 True)))))
 (Br (Ieee.Format.order (FloatKind.format .f64) (jcm (List.getD u16 (Int.toNat v0.1) (0:Nat))) (4674736138332667904:Nat)==some Ordering.gt)
  ((Ob True ∧
 (Ob True ∧
 (Ob (v0.1=r.1) ∧
 (Ob ((2:Int)=r.2) ∧
 True)))))
 (Br (Ieee.Format.order (FloatKind.format .f64) (jcm (List.getD u16 (Int.toNat v0.1) (0:Nat))) (13898108175187443712:Nat)==some Ordering.lt)
  ((Ob True ∧
 (Ob True ∧
 (Ob (v0.1=r.1) ∧
 (Ob ((2:Int)=r.2) ∧
 True)))))
  ((∃(v1:Int × Nat),(Ob ((Option.bind (jae (y36 u16) v1.2 v1.1) fun y0=>Option.bind (y88 y0) some)=some r) ∧
 (Ob (v1.2<v0.2) ∧
 (Ob (0=0) ∧
 (Ob (wrap .i64 (v0.1+1)=v1.1) ∧
 (Ob (u17=u17) ∧
 (Ob (u16=u16) ∧
 True))))))))))))))))
  ((Ob True ∧
 (Ob True ∧
 (Ob ((0:Int)=r.1) ∧
 (Ob ((0:Int)=r.2) ∧
 True)))))))))))))=_) ?_
 refine jav h fun h=>?_
 refine jaV h (fun h=>?_) (fun h=>?_)
 ·refine jad ?_
  refine jad ?_
  exact rcs h
 ·refine jaV h (fun h=>?_) (fun h=>?_)
  ·refine jad ?_
   refine jad ?_
   exact rcs h
  ·refine jaT h (fun h=>?_) (fun h=>?_)
   ·refine jad ?_
    refine jad ?_
    exact rcs h
   ·refine⟨⟨((0:Int),big),⟨jbe h⟩,(by repeat' constructor)⟩,fun z2 hz2=>?_⟩
    obtain⟨k2,hm2,h⟩:=jaU hz2
    refine jaT h (fun h=>?_) (fun h=>?_)
    ·refine jat h fun h=>?_
     refine jat h fun h=>?_
     refine jaV h (fun h=>?_) (fun h=>?_)
     ·refine jad ?_
      refine jf9 (p:=ok jr9) (by decide) ?_
      have h:=jaC h
      refine jad ?_
      refine jad ?_
      exact rcs h
     ·refine jad ?_
      refine jav h fun h=>?_
      refine jaV h (fun h=>?_) (fun h=>?_)
      ·have h:=jaC h
       refine jad ?_
       refine jad ?_
       exact rcs h
      ·refine jaV h (fun h=>?_) (fun h=>?_)
       ·have h:=jaC h
        refine jad ?_
        refine jad ?_
        exact rcs h
       ·refine jaV h (fun h=>?_) (fun h=>?_)
        ·have h:=jaC h
         refine jad ?_
         refine jad ?_
         exact rcs h
        ·exact⟨(_,k2),⟨jaQ h⟩,⟨ja0 hm2.symm⟩,(by repeat' constructor)⟩
    ·have h:=jaC h
     refine jad ?_
     refine jad ?_
     exact rcs h
theorem jiL:jah Tryz.prog 70 true (jal y147 y148):=by
 refine jau (sp:=(sp_120 (sp_121 sp0))) (fn:=Tryz.f70) (body:=jai Tryz.f70) mixed (sp_120_ok (sp_121_ok jak)) Tryz.func70 (by kernel_rfl) (by kernel_rfl) fun ls t h ho b hb=>?_
 unfold y148 at h
 split at h
 ·rename_i u17 u16
  cases h
  obtain rfl:=jaD hb
  exact⟨Nat.le_of_ble_eq_true (by kernel_rfl),_,_,jiK u17 u16 _ (jaj ho)⟩
 ·cases h
theorem sp_70_ok {sp:jab} (h:jac Tryz.prog sp):jac Tryz.prog (sp_70 sp):=jag jiL h
def jeC:List SV:=[.a [.d,.r (.floats .f32 []),.d,.d]]
def jku (u4:Int) (u0:List Nat) (u6 u5:Int):Option (Int × Int) :=
 Option.bind (y60 u4 u0) fun r0 =>
 if(r0.2 != 0)=true then
  some (r0.1,r0.2)
 else
  Option.bind (y56 u6 (0:Int) (32767:Int)) fun r1 =>
  if(!r1)=true then
  some (((0:Int),2))
  else
  Option.bind (y56 u5 (0:Int) (1000000000000:Int)) fun r2 =>
  if(!r2)=true then
   some (((0:Int),2))
  else
   some (((0:Int),0))
def jeD:List Lf→Option GT
 |[.d (.i .i64 u4),.r (.floats .f32 u0),.d (.i .i64 u6),.d (.i .i64 u5)]=>some (.leaf (ok (jku u4 u0 u6 u5)) [.c (.d (.i .i64 ((val (jku u4 u0 u6 u5)).1))),.c (.d (.i .i64 ((val (jku u4 u0 u6 u5)).2)))])
 |_=>none
abbrev sp_71:jab→jab:=jas 71 true (jal jeC jeD)
def jo0 (u4:Int) (u0:List Nat) (u6 u5:Int):T (Int × Int) :=
 .call (y60 u4 u0) fun r0 =>
 .brB (r0.2 != 0)
 (.obT
 (.obT
 (.ret ((r0.1,r0.2)) (fun r=>(Ob (r0.1=r.1) ∧
 (Ob (r0.2=r.2) ∧
 True))) ⟨⟨rfl⟩,⟨⟨rfl⟩,trivial⟩⟩)))
 (.call (y56 u6 (0:Int) (32767:Int)) fun r1 =>
 .brB (!r1)
 (.obT
 (.obT
 (.ret ((((0:Int),2))) (fun r=>(Ob ((0:Int)=r.1) ∧
 (Ob ((2:Int)=r.2) ∧
 True))) ⟨⟨rfl⟩,⟨⟨rfl⟩,trivial⟩⟩)))
 (.call (y56 u5 (0:Int) (1000000000000:Int)) fun r2 =>
 .brB (!r2)
 (.obT
 (.obT
 (.ret ((((0:Int),2))) (fun r=>(Ob ((0:Int)=r.1) ∧
 (Ob ((2:Int)=r.2) ∧
 True))) ⟨⟨rfl⟩,⟨⟨rfl⟩,trivial⟩⟩)))
 (.obT
 (.obT
 (.ret ((((0:Int),0))) (fun r=>(Ob ((0:Int)=r.1) ∧
 (Ob ((0:Int)=r.2) ∧
 True))) ⟨⟨rfl⟩,⟨⟨rfl⟩,trivial⟩⟩)))))
theorem jnX (u4:Int) (u0:List Nat) (u6 u5:Int) (r:Int × Int) (h:Option.bind (jku u4 u0 u6 u5) some=some r):jaY Tryz.f71 ((sp_70 (sp_35 sp0))) (fun _ _ _=>none) (jaO jeC [.d (.i .i64 u4),.r (.floats .f32 u0),.d (.i .i64 u6),.d (.i .i64 u5)]) [.c (.d (.i .i64 r.1)),.c (.d (.i .i64 r.2))] :=
 T.vc (t:=jo0 u4 u0 u6 u5) (by kernel_rfl) (by kernel_rfl) h
theorem jnY:jah Tryz.prog 71 true (jal jeC jeD):=by
 refine jau (sp:=(sp_70 (sp_35 sp0))) (fn:=Tryz.f71) (body:=jai Tryz.f71) mixed (sp_70_ok (sp_35_ok jak)) Tryz.func71 (by kernel_rfl) (by kernel_rfl) fun ls t h ho b hb=>?_
 unfold jeD at h
 split at h
 ·rename_i u4 u0 u6 u5
  cases h
  obtain rfl:=jaD hb
  exact⟨Nat.le_of_ble_eq_true (by kernel_rfl),_,_,jnX u4 u0 u6 u5 _ (jaj ho)⟩
 ·cases h
theorem sp_71_ok {sp:jab} (h:jac Tryz.prog sp):jac Tryz.prog (sp_71 sp):=jag jnY h
def jgq:List SV:=[.a [.d,.r (.floats .f32 []),.d,.d]]
def jmy (u4:Int) (u0:List Nat) (u6 u5:Int):Option Int :=
 Option.bind (jku u4 u0 u6 u5) fun r0 =>
 some r0.2
def jgr:List Lf→Option GT
 |[.d (.i .i64 u4),.r (.floats .f32 u0),.d (.i .i64 u6),.d (.i .i64 u5)]=>some (.leaf (ok (jmy u4 u0 u6 u5)) [.c (.d (.i .i64 ((val (jmy u4 u0 u6 u5)))))])
 |_=>none
abbrev sp_22:jab→jab:=jas 22 true (jal jgq jgr)
def jsp (u4:Int) (u0:List Nat) (u6 u5:Int):T (Int) :=
 .call (jku u4 u0 u6 u5) fun r0 =>
 .obT
 (.ret (r0.2) (fun r=>(Ob (r0.2=r) ∧
 True)) ⟨⟨rfl⟩,trivial⟩)
theorem jqv (u4:Int) (u0:List Nat) (u6 u5 r:Int) (h:Option.bind (jmy u4 u0 u6 u5) some=some r):jaY Tryz.f22 ((sp_71 sp0)) (fun _ _ _=>none) (jaO jgq [.d (.i .i64 u4),.r (.floats .f32 u0),.d (.i .i64 u6),.d (.i .i64 u5)]) [.c (.d (.i .i64 r))] :=
 T.vc (t:=jsp u4 u0 u6 u5) (by kernel_rfl) (by kernel_rfl) h
theorem jqw:jah Tryz.prog 22 true (jal jgq jgr):=by
 refine jau (sp:=(sp_71 sp0)) (fn:=Tryz.f22) (body:=jai Tryz.f22) mixed (sp_71_ok jak) Tryz.func22 (by kernel_rfl) (by kernel_rfl) fun ls t h ho b hb=>?_
 unfold jgr at h
 split at h
 ·rename_i u4 u0 u6 u5
  cases h
  obtain rfl:=jaD hb
  exact⟨Nat.le_of_ble_eq_true (by kernel_rfl),_,_,jqv u4 u0 u6 u5 _ (jaj ho)⟩
 ·cases h
theorem sp_22_ok {sp:jab} (h:jac Tryz.prog sp):jac Tryz.prog (sp_22 sp):=jag jqw h
def jgs:List SV:=[.a [.d,.r (.floats .f32 []),.d,.d],.c (.d)]
def y62 (u4:Int) (u0:List Nat) (u6 u5 t:Int):Option (Int × Int) :=
 if 0≤t∧t<(↑(List.length u0):Int)then
  if Int.toNat t<List.length u0 then
  if jca .f32 .i64 (List.getD u0 (Int.toNat t) (0:Nat))=true then
   Option.bind (je5 (f2i .f32 (List.getD u0 (Int.toNat t) (0:Nat)))) fun r0 =>
   some ((wrap .i64 ((if wrap .i64 (r0-u6)>0 then wrap .i64 (r0-u6)else 0)*if wrap .i64 (r0-u6)>0 then wrap .i64 (r0-u6)else 0),wrap .i64 (wrap .i64 (r0+u6)*wrap .i64 (r0+u6))))
  else none
  else none
 else none
def jgt:List Lf→Option GT
 |[.d (.i .i64 u4),.r (.floats .f32 u0),.d (.i .i64 u6),.d (.i .i64 u5),.d (.i .i64 t)]=>some (.leaf (ok (y62 u4 u0 u6 u5 t)) [.s [.d (.i .i64 ((val (y62 u4 u0 u6 u5 t)).1)),.d (.i .i64 ((val (y62 u4 u0 u6 u5 t)).2))]])
 |_=>none
abbrev sp_83:jab→jab:=jas 83 true (jal jgs jgt)
def jsq (u4:Int) (u0:List Nat) (u6 u5 t:Int):T (Int × Int) :=
 .obP (0≤t∧t<(↑(List.length u0):Int))
 (.obP (Int.toNat t<List.length u0)
 (.obP (jca .f32 .i64 (List.getD u0 (Int.toNat t) (0:Nat))=true)
 (.call (je5 (f2i .f32 (List.getD u0 (Int.toNat t) (0:Nat)))) fun r0 =>
 .obT
 (.ret (((wrap .i64 ((if wrap .i64 (r0-u6)>0 then wrap .i64 (r0-u6)else(0:Int))*if wrap .i64 (r0-u6)>0 then wrap .i64 (r0-u6)else(0:Int)),wrap .i64 (wrap .i64 (r0+u6)*wrap .i64 (r0+u6))))) (fun r=>(Ob (wrap .i64 ((if wrap .i64 (r0-u6)>0 then wrap .i64 (r0-u6)else(0:Int))*if wrap .i64 (r0-u6)>0 then wrap .i64 (r0-u6)else(0:Int))=r.1) ∧
 (Ob (wrap .i64 (wrap .i64 (r0+u6)*wrap .i64 (r0+u6))=r.2) ∧
 True))) ⟨⟨rfl⟩,⟨⟨rfl⟩,trivial⟩⟩))))
theorem jqx (u4:Int) (u0:List Nat) (u6 u5 t:Int) (r:Int × Int) (h:Option.bind (y62 u4 u0 u6 u5 t) some=some r):jaY Tryz.f83 ((sp_128 sp0)) (fun _ _ _=>none) (jaO jgs [.d (.i .i64 u4),.r (.floats .f32 u0),.d (.i .i64 u6),.d (.i .i64 u5),.d (.i .i64 t)]) [.s [.d (.i .i64 r.1),.d (.i .i64 r.2)]] :=
 T.vc (t:=jsq u4 u0 u6 u5 t) (by kernel_rfl) (by kernel_rfl) h
theorem jqy:jah Tryz.prog 83 true (jal jgs jgt):=by
 refine jau (sp:=(sp_128 sp0)) (fn:=Tryz.f83) (body:=jai Tryz.f83) mixed (sp_128_ok jak) Tryz.func83 (by kernel_rfl) (by kernel_rfl) fun ls t h ho b hb=>?_
 unfold jgt at h
 split at h
 ·rename_i u4 u0 u6 u5 t
  cases h
  obtain rfl:=jaD hb
  exact⟨Nat.le_of_ble_eq_true (by kernel_rfl),_,_,jqx u4 u0 u6 u5 t _ (jaj ho)⟩
 ·cases h
theorem sp_83_ok {sp:jab} (h:jac Tryz.prog sp):jac Tryz.prog (sp_83 sp):=jag jqy h
def y152:List SV:=[.a [.d,.r (.floats .f32 []),.d,.d],.a [.d,.d]]
def y39 (u4:Int) (u0:List Nat) (u6 u5 wTo:Int) (x0:(Int × Int × Int)):Option ((Int × Int × Int) ⊕ (Int × Int)) :=
 if x0.1<wTo then
  Option.bind (y62 u4 u0 u6 u5 x0.1) fun r0 =>
  some (.inl ((wrap .i64 (x0.1+1),wrap .i64 (x0.2.1+r0.1),wrap .i64 (x0.2.2+r0.2))))
 else
  some (.inr (x0.2.1,x0.2.2))
def y73 (u0:List Nat) (u5 wTo:Int) (u10:Int × Int):Option (Int × Int) :=
 if(wTo==(↑(List.length u0):Int))=true then
  some ((u10.1,wrap .i64 (u10.2+u5)))
 else
  some (u10.1,u10.2)
def y24 (u4:Int) (u0:List Nat) (u6 u5 u41 wTo:Int):Option (Int × Int) :=
 Option.bind (jae (y39 u4 u0 u6 u5 wTo) big ((u41,0,0))) (y73 u0 u5 wTo)
def y153:List Lf→Option GT
 |[.d (.i .i64 u4),.r (.floats .f32 u0),.d (.i .i64 u6),.d (.i .i64 u5),.d (.i .i64 u41),.d (.i .i64 wTo)]=>some (.leaf (ok (y24 u4 u0 u6 u5 u41 wTo)) [.s [.d (.i .i64 ((val (y24 u4 u0 u6 u5 u41 wTo)).1)),.d (.i .i64 ((val (y24 u4 u0 u6 u5 u41 wTo)).2))]])
 |_=>none
abbrev sp_52:jab→jab:=jas 52 true (jal y152 y153)
theorem jjh (u4:Int) (u0:List Nat) (u6 u5 u41 wTo:Int) (r:Int × Int) (h:Option.bind (y24 u4 u0 u6 u5 u41 wTo) some=some r):jaY Tryz.f52 ((sp_83 sp0)) (fun gs id _=>match id with
 |0=>some ⟨(Int × Int × Int) × Nat,fun z=>⟨[(2,.w (.c (.p 1 0 1 0))),(3,.w (.c (.p 2 0 1 0))),(4,.w (.c (.p 3 0 1 0))),(5,.w (.c (.p 4 0 1 0))),(6,.w (.c (.d (.i .i64 (Prod.fst (Prod.fst z))))))],[(1,.box 26 [.d (.i .i64 u4),.o 0,.d (.i .i64 u6),.d (.i .i64 u5)]),(2,.box 73 [.d (.i .i64 u41),.d (.i .i64 wTo)]),(3,.box 30 [.d (.i .i64 0),.d (.i .i64 0)]),(4,.box 30 [.d (.i .i64 (Prod.fst (Prod.snd (Prod.fst z)))),.d (.i .i64 (Prod.snd (Prod.snd (Prod.fst z))))]),(0,.ext (.floats .f32 u0))],5⟩,fun z=>Option.bind (jae (y39 u4 u0 u6 u5 wTo) (Prod.snd z) (Prod.fst z)) (fun y0=>Option.bind (y73 u0 u5 wTo y0) some)=some r,fun z=>Prod.snd z⟩
 |_=>none) (jaO y152 [.d (.i .i64 u4),.r (.floats .f32 u0),.d (.i .i64 u6),.d (.i .i64 u5),.d (.i .i64 u41),.d (.i .i64 wTo)]) [.s [.d (.i .i64 r.1),.d (.i .i64 r.2)]]:=by
 refine Eq.mp (by kernel_rfl:(
 ((∃(v0:(Int × Int × Int) × Nat),(Ob ((Option.bind (jae (y39 u4 u0 u6 u5 wTo) v0.2 v0.1) fun y0=>Option.bind (y73 u0 u5 wTo y0) some)=some r) ∧
 (Ob (0=0) ∧
 (Ob (0=0) ∧
 (Ob (0=0) ∧
 (Ob (0=0) ∧
 (Ob (u41=v0.1.1) ∧
 (Ob (u4=u4) ∧
 (Ob (u6=u6) ∧
 (Ob (u5=u5) ∧
 (Ob (u41=u41) ∧
 (Ob (wTo=wTo) ∧
 (Ob ((0:Int)=(0:Int)) ∧
 (Ob ((0:Int)=(0:Int)) ∧
 (Ob ((0:Int)=v0.1.2.1) ∧
 (Ob ((0:Int)=v0.1.2.2) ∧
 (Ob (u0=u0) ∧
 True))))))))))))))))) ∧
  (∀(v0:(Int × Int × Int) × Nat),((Option.bind (jae (y39 u4 u0 u6 u5 wTo) v0.2 v0.1) fun y0=>Option.bind (y73 u0 u5 wTo y0) some)=some r →
 Br (decide (v0.1.1<wTo))
  ((Ob (ok (y62 u4 u0 u6 u5 v0.1.1)) ∧
  (∃(v1:(Int × Int × Int) × Nat),(Ob ((Option.bind (jae (y39 u4 u0 u6 u5 wTo) v1.2 v1.1) fun y0=>Option.bind (y73 u0 u5 wTo y0) some)=some r) ∧
 (Ob (v1.2<v0.2) ∧
 (Ob (0=0) ∧
 (Ob (0=0) ∧
 (Ob (0=0) ∧
 (Ob (0=0) ∧
 (Ob (wrap .i64 (v0.1.1+1)=v1.1.1) ∧
 (Ob (u4=u4) ∧
 (Ob (u6=u6) ∧
 (Ob (u5=u5) ∧
 (Ob (u41=u41) ∧
 (Ob (wTo=wTo) ∧
 (Ob ((0:Int)=(0:Int)) ∧
 (Ob ((0:Int)=(0:Int)) ∧
 (Ob (wrap .i64 (v0.1.2.1+(val (y62 u4 u0 u6 u5 v0.1.1)).1)=v1.1.2.1) ∧
 (Ob (wrap .i64 (v0.1.2.2+(val (y62 u4 u0 u6 u5 v0.1.1)).2)=v1.1.2.2) ∧
 (Ob (u0=u0) ∧
 True))))))))))))))))))))
 (Br (wTo==(↑(List.length u0):Int))
  ((Ob True ∧
 (Ob (v0.1.2.1=r.1) ∧
 (Ob (wrap .i64 (v0.1.2.2+u5)=r.2) ∧
 True))))
  ((Ob True ∧
 (Ob (v0.1.2.1=r.1) ∧
 (Ob (v0.1.2.2=r.2) ∧
 True)))))))))=_) ?_
 refine⟨⟨((u41,0,0),big),⟨jbe h⟩,(by repeat' constructor)⟩,fun z1 hz1=>?_⟩
 obtain⟨k1,hm1,h⟩:=jaU hz1
 refine jaT h (fun h=>?_) (fun h=>?_)
 ·refine jav h fun h=>?_
  exact⟨(_,k1),⟨jaQ h⟩,⟨ja0 hm1.symm⟩,(by repeat' constructor)⟩
 ·have h:=jaC h
  refine jaV h (fun h=>?_) (fun h=>?_)
  ·refine jad ?_
   exact rcs h
  ·refine jad ?_
   exact rcs h
theorem jji:jah Tryz.prog 52 true (jal y152 y153):=by
 refine jau (sp:=(sp_83 sp0)) (fn:=Tryz.f52) (body:=jai Tryz.f52) mixed (sp_83_ok jak) Tryz.func52 (by kernel_rfl) (by kernel_rfl) fun ls t h ho b hb=>?_
 unfold y153 at h
 split at h
 ·rename_i u4 u0 u6 u5 u41 wTo
  cases h
  obtain rfl:=jaD hb
  exact⟨Nat.le_of_ble_eq_true (by kernel_rfl),_,_,jjh u4 u0 u6 u5 u41 wTo _ (jaj ho)⟩
 ·cases h
theorem sp_52_ok {sp:jab} (h:jac Tryz.prog sp):jac Tryz.prog (sp_52 sp):=jag jji h
def jkv:List SV:=[.a [.d,.r (.floats .f32 []),.d,.d],.c (.d)]
def y35 (u4:Int) (u0:List Nat) (u6 u5 t:Int):Option (Int × Int) :=
 Option.bind (y24 u4 u0 u6 u5 t (↑(List.length u0):Int)) fun r0 =>
 some (r0.1,r0.2)
def jkw:List Lf→Option GT
 |[.d (.i .i64 u4),.r (.floats .f32 u0),.d (.i .i64 u6),.d (.i .i64 u5),.d (.i .i64 t)]=>some (.leaf (ok (y35 u4 u0 u6 u5 t)) [.s [.d (.i .i64 ((val (y35 u4 u0 u6 u5 t)).1)),.d (.i .i64 ((val (y35 u4 u0 u6 u5 t)).2))]])
 |_=>none
abbrev sp_72:jab→jab:=jas 72 true (jal jkv jkw)
def jwy (u4:Int) (u0:List Nat) (u6 u5 t:Int):T (Int × Int) :=
 .call (y24 u4 u0 u6 u5 t (↑(List.length u0):Int)) fun r0 =>
 .obT
 (.ret ((r0.1,r0.2)) (fun r=>(Ob (r0.1=r.1) ∧
 (Ob (r0.2=r.2) ∧
 True))) ⟨⟨rfl⟩,⟨⟨rfl⟩,trivial⟩⟩)
theorem jvf (u4:Int) (u0:List Nat) (u6 u5 t:Int) (r:Int × Int) (h:Option.bind (y35 u4 u0 u6 u5 t) some=some r):jaY Tryz.f72 ((sp_52 sp0)) (fun _ _ _=>none) (jaO jkv [.d (.i .i64 u4),.r (.floats .f32 u0),.d (.i .i64 u6),.d (.i .i64 u5),.d (.i .i64 t)]) [.s [.d (.i .i64 r.1),.d (.i .i64 r.2)]] :=
 T.vc (t:=jwy u4 u0 u6 u5 t) (by kernel_rfl) (by kernel_rfl) h
theorem jvg:jah Tryz.prog 72 true (jal jkv jkw):=by
 refine jau (sp:=(sp_52 sp0)) (fn:=Tryz.f72) (body:=jai Tryz.f72) mixed (sp_52_ok jak) Tryz.func72 (by kernel_rfl) (by kernel_rfl) fun ls t h ho b hb=>?_
 unfold jkw at h
 split at h
 ·rename_i u4 u0 u6 u5 t
  cases h
  obtain rfl:=jaD hb
  exact⟨Nat.le_of_ble_eq_true (by kernel_rfl),_,_,jvf u4 u0 u6 u5 t _ (jaj ho)⟩
 ·cases h
theorem sp_72_ok {sp:jab} (h:jac Tryz.prog sp):jac Tryz.prog (sp_72 sp):=jag jvg h
end Go.Sh
end

section
namespace Go.Sh
open Go Go.Proofs Go.RowKit Go.Sx
open Go.IntKind (wrap)
def jpR:List (Option Cont):=[none]
def jed (n:Int) (x0:(Int × Int)):Option ((Int × Int) ⊕ Int) :=
 if x0.2<n then
  some (.inl ((wrap .i64 (10*x0.1),wrap .i64 (x0.2+1))))
 else
  some (.inr x0.1)
def jee (u10:Int):Option Int :=
 some u10
def jef (n:Int):Option Int :=
 Option.bind (jae (jed n) big (((1:Int),0))) (jee)
def jkx:List A→Option (Prop × List RV)
 |[.d (.i .i64 n)]=>some (ok (jef n),[.d (.i .i64 ((val (jef n))))])
 |_=>none
abbrev sp_132:jab→jab:=jas 132 true (jaq jpR jkx)
theorem jvh (n r:Int) (h:Option.bind (jef n) some=some r):ja6 Tryz.f132 (sp0) (fun gs id _=>match id with
 |0=>some ⟨(Int × Int) × Nat,fun z=>⟨[(0,.w (.c (.d (.i .i64 n)))),(3,.w (.c (.d (.i .i64 (Prod.fst (Prod.fst z)))))),(4,.w (.c (.d (.i .i64 (Prod.snd (Prod.fst z))))))],[],1⟩,fun z=>Option.bind (jae (jed n) (Prod.snd z) (Prod.fst z)) (fun y0=>Option.bind (jee y0) some)=some r,fun z=>Prod.snd z⟩
 |_=>none) [.d (.i .i64 n)] [.d (.i .i64 r)]:=by
 refine Eq.mp (by kernel_rfl:(
 ((∃(v0:(Int × Int) × Nat),(Ob ((Option.bind (jae (jed n) v0.2 v0.1) fun y0=>Option.bind (jee y0) some)=some r) ∧
 (Ob (n=n) ∧
 (Ob ((1:Int)=v0.1.1) ∧
 (Ob ((0:Int)=v0.1.2) ∧
 True))))) ∧
  (∀(v0:(Int × Int) × Nat),((Option.bind (jae (jed n) v0.2 v0.1) fun y0=>Option.bind (jee y0) some)=some r →
 Br (decide (v0.1.2<n))
  ((∃(v1:(Int × Int) × Nat),(Ob ((Option.bind (jae (jed n) v1.2 v1.1) fun y0=>Option.bind (jee y0) some)=some r) ∧
 (Ob (v1.2<v0.2) ∧
 (Ob (n=n) ∧
 (Ob (wrap .i64 (10*v0.1.1)=v1.1.1) ∧
 (Ob (wrap .i64 (v0.1.2+1)=v1.1.2) ∧
 True)))))))
  ((Ob True ∧
 (Ob (v0.1.1=r) ∧
 True)))))))=_) ?_
 refine⟨⟨(((1:Int),0),big),⟨jbe h⟩,(by repeat' constructor)⟩,fun z0 hz0=>?_⟩
 obtain⟨k0,hm0,h⟩:=jaU hz0
 refine jaT h (fun h=>?_) (fun h=>?_)
 ·exact⟨(_,k0),⟨jaQ h⟩,⟨ja0 hm0.symm⟩,(by repeat' constructor)⟩
 ·have h:=jaC h
  refine jad ?_
  exact rcs h
theorem jvi:jah Tryz.prog 132 true (jaq jpR jkx):=by
 refine jaw (sp:=sp0) (fn:=Tryz.f132) (body:=jai Tryz.f132) mixed jak Tryz.func132 (by kernel_rfl) (by kernel_rfl) fun as_ ob rs h ho=>?_
 unfold jkx at h
 split at h
 ·rename_i n
  cases h
  exact⟨Nat.le_of_ble_eq_true rfl,_,_,jvh n _ (jaj ho)⟩
 ·cases h
theorem sp_132_ok {sp:jab} (h:jac Tryz.prog sp):jac Tryz.prog (sp_132 sp):=jag jvi h
def jky:List (Option Cont):=[none,none,none]
def y63 (n u38 u25:Int):Option Bool :=
 Option.bind (jef (wrap .i64 (Int.tdiv u25 (2:Int)))) fun r0 =>
 if(Int.tmod u25 (2:Int)==0)=true then
  some (decide (wrap .i64 (n*r0)≤u38))
 else
  if wrap .i64 (n*r0)>u38 then
  some (decide (wrap .i64 (n*r0)≤u38))
  else
  Option.bind (y37 (wrap .i64 (10*wrap .i64 (n*r0))) u38 u38 (if wrap .i64 (n*r0)>1 then wrap .i64 (n*r0)else(1:Int))) fun r1 =>
  some (decide (r1≤0))
def jgu:List A→Option (Prop × List RV)
 |[.d (.i .i64 n),.d (.i .i64 u38),.d (.i .i64 u25)]=>some (ok (y63 n u38 u25),[.d (.b ((val (y63 n u38 u25))))])
 |_=>none
abbrev sp_97:jab→jab:=jas 97 true (jaq jky jgu)
def jsr (n u38 u25:Int):T (Bool) :=
 .obC ((2:Int)≠(0:Int)) (by decide)
 (.call (jef (wrap .i64 (Int.tdiv u25 (2:Int)))) fun r0 =>
 .obC ((2:Int)≠(0:Int)) (by decide)
 (.brB (Int.tmod u25 (2:Int)==0)
 (.obT
 (.rc ((decide (wrap .i64 (n*r0)≤u38)))))
 (.brP (wrap .i64 (n*r0)>u38)
 (.obT
 (.rc ((decide (wrap .i64 (n*r0)≤u38)))))
 (.call (y37 (wrap .i64 (10*wrap .i64 (n*r0))) u38 u38 (if wrap .i64 (n*r0)>1 then wrap .i64 (n*r0)else(1:Int))) fun r1 =>
 .obT
 (.rc ((decide (r1≤0))))))))
theorem jqz (n u38 u25:Int) (r:Bool) (h:Option.bind (y63 n u38 u25) some=some r):ja6 Tryz.f97 ((sp_132 (sp_47 sp0))) (fun _ _ _=>none) [.d (.i .i64 n),.d (.i .i64 u38),.d (.i .i64 u25)] [.d (.b r)] :=
 T.vc (t:=jsr n u38 u25) (by kernel_rfl) (by kernel_rfl) h
theorem jqA:jah Tryz.prog 97 true (jaq jky jgu):=by
 refine jaw (sp:=(sp_132 (sp_47 sp0))) (fn:=Tryz.f97) (body:=jai Tryz.f97) mixed (sp_132_ok (sp_47_ok jak)) Tryz.func97 (by kernel_rfl) (by kernel_rfl) fun as_ ob rs h ho=>?_
 unfold jgu at h
 split at h
 ·rename_i n u38 u25
  cases h
  exact⟨Nat.le_of_ble_eq_true rfl,_,_,jqz n u38 u25 _ (jaj ho)⟩
 ·cases h
theorem sp_97_ok {sp:jab} (h:jac Tryz.prog sp):jac Tryz.prog (sp_97 sp):=jag jqA h
def jfm:List SV:=[.a [.d,.r (.floats .f32 []),.d,.d],.c (.d)]
def y28 (u4:Int) (u0:List Nat) (u6 u5 u25:Int) (r0:Int × Int) (x0:(Int × Int)):Option ((Int × Int) ⊕ ((Int × Int) ⊕ Unit)) :=
 if x0.1<(↑(List.length u0):Int)then
  Option.bind (y35 u4 u0 u6 u5 x0.1) fun r1 =>
  if x0.2<0 then
  Option.bind (y63 r1.1 r0.2 u25) fun r2 =>
  if(r2)=true then
   Option.bind (y63 r1.2 r0.1 u25) fun r3 =>
   if(r3)=true then
   some (.inr ((.inl ((if wrap .i64 (x0.1-1)>0 then wrap .i64 (x0.1-1)else(0:Int),x0.1)))))
   else
   some (.inl ((wrap .i64 (x0.1+1),x0.1)))
  else
   Option.bind (y63 r1.2 r0.1 u25) fun r3 =>
   if(r3)=true then
   some (.inr ((.inl ((if wrap .i64 (x0.2-1)>0 then wrap .i64 (x0.2-1)else(0:Int),x0.1)))))
   else
   some (.inl ((wrap .i64 (x0.1+1),x0.2)))
  else
  Option.bind (y63 r1.2 r0.1 u25) fun r3 =>
  if(r3)=true then
   some (.inr ((.inl ((if wrap .i64 (x0.2-1)>0 then wrap .i64 (x0.2-1)else(0:Int),x0.1)))))
  else
   some (.inl ((wrap .i64 (x0.1+1),x0.2)))
 else
  some (.inr ((.inr ())))
def jmz (u10:Int × Int):Option (Int × Int × Bool) :=
 some (u10.1,u10.2,true)
def jmA (u27:Unit):Option (Int × Int × Bool) :=
 some (((0:Int),0,false))
def y98:((Int × Int) ⊕ Unit)→Option (Int × Int × Bool) :=
 (Sum.elim (jmz) (jmA))
def y30 (u4:Int) (u0:List Nat) (u6 u5 u25:Int):Option (Int × Int × Bool) :=
 Option.bind (y35 u4 u0 u6 u5 (0:Int)) fun r0 =>
 Option.bind (jae (y28 u4 u0 u6 u5 u25 r0) big (((0:Int),(-1:Int)))) (y98)
def jfn:List Lf→Option GT
 |[.d (.i .i64 u4),.r (.floats .f32 u0),.d (.i .i64 u6),.d (.i .i64 u5),.d (.i .i64 u25)]=>some (.leaf (ok (y30 u4 u0 u6 u5 u25)) [.s [.d (.i .i64 ((val (y30 u4 u0 u6 u5 u25)).1)),.d (.i .i64 ((val (y30 u4 u0 u6 u5 u25)).2.1))],.c (.d (.b ((val (y30 u4 u0 u6 u5 u25)).2.2)))])
 |_=>none
abbrev sp_73:jab→jab:=jas 73 true (jal jfm jfn)
abbrev jbC (u4:Int) (u0:List Nat) (u6 u5:Int):=(val (y35 u4 u0 u6 u5 (0:Int)))
abbrev jk9 (u4:Int) (u0:List Nat) (u6 u5 u25:Int) (v0:(Int × Int) × Nat):=(y63 (val (y35 u4 u0 u6 u5 v0.1.1)).2 (jbC u4 u0 u6 u5).1 u25)
theorem jo1 (u4:Int) (u0:List Nat) (u6 u5 u25:Int) (r:Int × Int × Bool) (h:Option.bind (y30 u4 u0 u6 u5 u25) some=some r):jaY Tryz.f73 ((sp_72 (sp_97 sp0))) (fun gs id _=>match id with
 |0=>some ⟨(Int × Int) × Nat,fun z=>⟨[(1,.w (.c (.d (.i .i64 u25)))),(2,.w (.c (.p 1 0 1 0))),(4,.w (.c (.p 2 0 1 0))),(6,.w (.c (.p 3 0 1 0))),(7,.w (.c (.p 4 0 1 0))),(8,.w (.c (.d (.i .i64 (Prod.fst (Prod.fst z))))))],[(1,.box 26 [.d (.i .i64 u4),.o 0,.d (.i .i64 u6),.d (.i .i64 u5)]),(2,.box 30 [.d (.i .i64 0),.d (.i .i64 0)]),(3,.box 30 [.d (.i .i64 ((val (y35 u4 u0 u6 u5 (0:Int))).1)),.d (.i .i64 ((val (y35 u4 u0 u6 u5 (0:Int))).2))]),(4,.box 30 [.d (.i .i64 (Prod.snd (Prod.fst z))),.d (.i .i64 0)]),(0,.ext (.floats .f32 u0))],5⟩,fun z=>Option.bind (jae (y28 u4 u0 u6 u5 u25 (val (y35 u4 u0 u6 u5 (0:Int)))) (Prod.snd z) (Prod.fst z)) (fun y0=>Option.bind (y98 y0) some)=some r,fun z=>Prod.snd z⟩
 |_=>none) (jaO jfm [.d (.i .i64 u4),.r (.floats .f32 u0),.d (.i .i64 u6),.d (.i .i64 u5),.d (.i .i64 u25)]) [.s [.d (.i .i64 r.1),.d (.i .i64 r.2.1)],.c (.d (.b r.2.2))]:=by
 refine Eq.mp (by kernel_rfl:(
 (Ob (ok (y35 u4 u0 u6 u5 (0:Int))) ∧
  ((∃(v0:(Int × Int) × Nat),(Ob ((Option.bind (jae (y28 u4 u0 u6 u5 u25 (jbC u4 u0 u6 u5)) v0.2 v0.1) fun y0=>Option.bind (y98 y0) some)=some r) ∧
 (Ob (u25=u25) ∧
 (Ob (0=0) ∧
 (Ob (0=0) ∧
 (Ob (0=0) ∧
 (Ob (0=0) ∧
 (Ob ((0:Int)=v0.1.1) ∧
 (Ob (u4=u4) ∧
 (Ob (u6=u6) ∧
 (Ob (u5=u5) ∧
 (Ob ((0:Int)=(0:Int)) ∧
 (Ob ((0:Int)=(0:Int)) ∧
 (Ob ((jbC u4 u0 u6 u5).1=(jbC u4 u0 u6 u5).1) ∧
 (Ob ((jbC u4 u0 u6 u5).2=(jbC u4 u0 u6 u5).2) ∧
 (Ob ((-1:Int)=v0.1.2) ∧
 (Ob ((0:Int)=(0:Int)) ∧
 (Ob (u0=u0) ∧
 True)))))))))))))))))) ∧
  (∀(v0:(Int × Int) × Nat),((Option.bind (jae (y28 u4 u0 u6 u5 u25 (jbC u4 u0 u6 u5)) v0.2 v0.1) fun y0=>Option.bind (y98 y0) some)=some r →
 Br (decide (v0.1.1<(↑(List.length u0):Int)))
  ((Ob (ok (y35 u4 u0 u6 u5 v0.1.1)) ∧
 Br (decide (v0.1.2<0))
  ((Ob (ok (y63 (val (y35 u4 u0 u6 u5 v0.1.1)).1 (jbC u4 u0 u6 u5).2 u25)) ∧
 Br (val (y63 (val (y35 u4 u0 u6 u5 v0.1.1)).1 (jbC u4 u0 u6 u5).2 u25))
  ((Ob (ok (jk9 u4 u0 u6 u5 u25 v0)) ∧
 Br (val (jk9 u4 u0 u6 u5 u25 v0))
  ((Ob True ∧
 (Ob True ∧
 (Ob ((if wrap .i64 (v0.1.1-1)>0 then wrap .i64 (v0.1.1-1)else(0:Int))=r.1) ∧
 (Ob (v0.1.1=r.2.1) ∧
 (Ob (true=r.2.2) ∧
 True))))))
  ((∃(v1:(Int × Int) × Nat),(Ob ((Option.bind (jae (y28 u4 u0 u6 u5 u25 (jbC u4 u0 u6 u5)) v1.2 v1.1) fun y0=>Option.bind (y98 y0) some)=some r) ∧
 (Ob (v1.2<v0.2) ∧
 (Ob (u25=u25) ∧
 (Ob (0=0) ∧
 (Ob (0=0) ∧
 (Ob (0=0) ∧
 (Ob (0=0) ∧
 (Ob (wrap .i64 (v0.1.1+1)=v1.1.1) ∧
 (Ob (u4=u4) ∧
 (Ob (u6=u6) ∧
 (Ob (u5=u5) ∧
 (Ob ((0:Int)=(0:Int)) ∧
 (Ob ((0:Int)=(0:Int)) ∧
 (Ob ((jbC u4 u0 u6 u5).1=(jbC u4 u0 u6 u5).1) ∧
 (Ob ((jbC u4 u0 u6 u5).2=(jbC u4 u0 u6 u5).2) ∧
 (Ob (v0.1.1=v1.1.2) ∧
 (Ob ((0:Int)=(0:Int)) ∧
 (Ob (u0=u0) ∧
 True))))))))))))))))))))))
  ((Ob (ok (jk9 u4 u0 u6 u5 u25 v0)) ∧
 Br (val (jk9 u4 u0 u6 u5 u25 v0))
  ((Ob True ∧
 (Ob True ∧
 (Ob ((if wrap .i64 (v0.1.2-1)>0 then wrap .i64 (v0.1.2-1)else(0:Int))=r.1) ∧
 (Ob (v0.1.1=r.2.1) ∧
 (Ob (true=r.2.2) ∧
 True))))))
  ((∃(v1:(Int × Int) × Nat),(Ob ((Option.bind (jae (y28 u4 u0 u6 u5 u25 (jbC u4 u0 u6 u5)) v1.2 v1.1) fun y0=>Option.bind (y98 y0) some)=some r) ∧
 (Ob (v1.2<v0.2) ∧
 (Ob (u25=u25) ∧
 (Ob (0=0) ∧
 (Ob (0=0) ∧
 (Ob (0=0) ∧
 (Ob (0=0) ∧
 (Ob (wrap .i64 (v0.1.1+1)=v1.1.1) ∧
 (Ob (u4=u4) ∧
 (Ob (u6=u6) ∧
 (Ob (u5=u5) ∧
 (Ob ((0:Int)=(0:Int)) ∧
 (Ob ((0:Int)=(0:Int)) ∧
 (Ob ((jbC u4 u0 u6 u5).1=(jbC u4 u0 u6 u5).1) ∧
 (Ob ((jbC u4 u0 u6 u5).2=(jbC u4 u0 u6 u5).2) ∧
 (Ob (v0.1.2=v1.1.2) ∧
 (Ob ((0:Int)=(0:Int)) ∧
 (Ob (u0=u0) ∧
 True))))))))))))))))))))))))
  ((Ob (ok (jk9 u4 u0 u6 u5 u25 v0)) ∧
 Br (val (jk9 u4 u0 u6 u5 u25 v0))
  ((Ob True ∧
 (Ob True ∧
 (Ob ((if wrap .i64 (v0.1.2-1)>0 then wrap .i64 (v0.1.2-1)else(0:Int))=r.1) ∧
 (Ob (v0.1.1=r.2.1) ∧
 (Ob (true=r.2.2) ∧
 True))))))
  ((∃(v1:(Int × Int) × Nat),(Ob ((Option.bind (jae (y28 u4 u0 u6 u5 u25 (jbC u4 u0 u6 u5)) v1.2 v1.1) fun y0=>Option.bind (y98 y0) some)=some r) ∧
 (Ob (v1.2<v0.2) ∧
 (Ob (u25=u25) ∧
 (Ob (0=0) ∧
 (Ob (0=0) ∧
 (Ob (0=0) ∧
 (Ob (0=0) ∧
 (Ob (wrap .i64 (v0.1.1+1)=v1.1.1) ∧
 (Ob (u4=u4) ∧
 (Ob (u6=u6) ∧
 (Ob (u5=u5) ∧
 (Ob ((0:Int)=(0:Int)) ∧
 (Ob ((0:Int)=(0:Int)) ∧
 (Ob ((jbC u4 u0 u6 u5).1=(jbC u4 u0 u6 u5).1) ∧
 (Ob ((jbC u4 u0 u6 u5).2=(jbC u4 u0 u6 u5).2) ∧
 (Ob (v0.1.2=v1.1.2) ∧
 (Ob ((0:Int)=(0:Int)) ∧
 (Ob (u0=u0) ∧
 True))))))))))))))))))))))))
  ((Ob True ∧
 (Ob True ∧
 (Ob ((0:Int)=r.1) ∧
 (Ob ((0:Int)=r.2.1) ∧
 (Ob (false=r.2.2) ∧
 True)))))))))))=_) ?_
 refine jav h fun h=>?_
 refine⟨⟨(((0:Int),(-1:Int)),big),⟨jbe h⟩,(by repeat' constructor)⟩,fun z4 hz4=>?_⟩
 obtain⟨k4,hm4,h⟩:=jaU hz4
 refine jaT h (fun h=>?_) (fun h=>?_)
 ·refine jav h fun h=>?_
  refine jaT h (fun h=>?_) (fun h=>?_)
  ·refine jav h fun h=>?_
   refine jaV h (fun h=>?_) (fun h=>?_)
   ·refine jav h fun h=>?_
    refine jaV h (fun h=>?_) (fun h=>?_)
    ·have h:=jaC h
     refine jad ?_
     refine jad ?_
     exact rcs h
    ·exact⟨(_,k4),⟨jaQ h⟩,⟨ja0 hm4.symm⟩,(by repeat' constructor)⟩
   ·refine jav h fun h=>?_
    refine jaV h (fun h=>?_) (fun h=>?_)
    ·have h:=jaC h
     refine jad ?_
     refine jad ?_
     exact rcs h
    ·exact⟨(_,k4),⟨jaQ h⟩,⟨ja0 hm4.symm⟩,(by repeat' constructor)⟩
  ·refine jav h fun h=>?_
   refine jaV h (fun h=>?_) (fun h=>?_)
   ·have h:=jaC h
    refine jad ?_
    refine jad ?_
    exact rcs h
   ·exact⟨(_,k4),⟨jaQ h⟩,⟨ja0 hm4.symm⟩,(by repeat' constructor)⟩
 ·have h:=jaC h
  refine jad ?_
  refine jad ?_
  exact rcs h
theorem jo2:jah Tryz.prog 73 true (jal jfm jfn):=by
 refine jau (sp:=(sp_72 (sp_97 sp0))) (fn:=Tryz.f73) (body:=jai Tryz.f73) mixed (sp_72_ok (sp_97_ok jak)) Tryz.func73 (by kernel_rfl) (by kernel_rfl) fun ls t h ho b hb=>?_
 unfold jfn at h
 split at h
 ·rename_i u4 u0 u6 u5 u25
  cases h
  obtain rfl:=jaD hb
  exact⟨Nat.le_of_ble_eq_true (by kernel_rfl),_,_,jo1 u4 u0 u6 u5 u25 _ (jaj ho)⟩
 ·cases h
theorem sp_73_ok {sp:jab} (h:jac Tryz.prog sp):jac Tryz.prog (sp_73 sp):=jag jo2 h
def y168:List SV:=[.a [.d,.r (.floats .f32 []),.d,.d],.c (.d)]
def y11 (u4:Int) (u0:List Nat) (u6 u5 u26:Int):Option (Int × Int × Int) :=
 Option.bind (y35 u4 u0 u6 u5 (0:Int)) fun r0 =>
 if(r0.1==0)=true then
  some (((0:Int),0,11))
 else
  if(u26==0)=true then
  Option.bind (y30 u4 u0 u6 u5 (2:Int)) fun r1 =>
  if(!r1.2.2)=true then
   some (((0:Int),0,12))
  else
   Option.bind (y27 (wrap .i64 (wrap .i64 (6*r1.1)*1000000)) u4) fun r2 =>
   Option.bind (jbi (wrap .i64 (wrap .i64 (6*r1.2.1)*1000000)) u4) fun r3 =>
   some ((r2,r3,0))
  else
  if(u26==2)=true then
   Option.bind (y30 u4 u0 u6 u5 (1:Int)) fun r4 =>
   Option.bind (y30 u4 u0 u6 u5 (7:Int)) fun r5 =>
   if(!r4.2.2)=true then
   some (((0:Int),0,12))
   else
   if(!r5.2.2)=true then
    some (((0:Int),0,12))
   else
    Option.bind (y27 (wrap .i64 (wrap .i64 (2*if wrap .i64 (r5.1-r4.2.1)>0 then wrap .i64 (r5.1-r4.2.1)else(0:Int))*1000000)) u4) fun r6 =>
    Option.bind (jbi (wrap .i64 (wrap .i64 (2*wrap .i64 (r5.2.1-r4.1))*1000000)) u4) fun r7 =>
    some ((r6,r7,0))
  else
   Option.bind (y30 u4 u0 u6 u5 (1:Int)) fun r4 =>
   Option.bind (y30 u4 u0 u6 u5 (5:Int)) fun r8 =>
   if(!r4.2.2)=true then
   some (((0:Int),0,12))
   else
   if(!r8.2.2)=true then
    some (((0:Int),0,12))
   else
    Option.bind (y27 (wrap .i64 (wrap .i64 (3*if wrap .i64 (r8.1-r4.2.1)>0 then wrap .i64 (r8.1-r4.2.1)else(0:Int))*1000000)) u4) fun r9 =>
    Option.bind (jbi (wrap .i64 (wrap .i64 (3*wrap .i64 (r8.2.1-r4.1))*1000000)) u4) fun r10 =>
    some ((r9,r10,0))
def y169:List Lf→Option GT
 |[.d (.i .i64 u4),.r (.floats .f32 u0),.d (.i .i64 u6),.d (.i .i64 u5),.d (.i .i64 u26)]=>some (.leaf (ok (y11 u4 u0 u6 u5 u26)) [.s [.d (.i .i64 ((val (y11 u4 u0 u6 u5 u26)).1)),.d (.i .i64 ((val (y11 u4 u0 u6 u5 u26)).2.1))],.c (.d (.i .i64 ((val (y11 u4 u0 u6 u5 u26)).2.2)))])
 |_=>none
abbrev sp_24:jab→jab:=jas 24 true (jal y168 y169)
def jlv (u4:Int) (u0:List Nat) (u6 u5 u26:Int):T (Int × Int × Int) :=
 .call (y35 u4 u0 u6 u5 (0:Int)) fun r0 =>
 .brB (r0.1==0)
 (.obT
 (.obT
 (.rc ((((0:Int),0,11))))))
 (.brB (u26==0)
 (.call (y30 u4 u0 u6 u5 (2:Int)) fun r1 =>
 .brB (!r1.2.2)
 (.obT
 (.obT
 (.rc ((((0:Int),0,12))))))
 (.call (y27 (wrap .i64 (wrap .i64 (6*r1.1)*1000000)) u4) fun r2 =>
 .call (jbi (wrap .i64 (wrap .i64 (6*r1.2.1)*1000000)) u4) fun r3 =>
 .obT
 (.obT
 (.rc (((r2,r3,0)))))))
 (.brB (u26==2)
 (.call (y30 u4 u0 u6 u5 (1:Int)) fun r4 =>
 .call (y30 u4 u0 u6 u5 (7:Int)) fun r5 =>
 .brB (!r4.2.2)
 (.obT
 (.obT
 (.rc ((((0:Int),0,12))))))
 (.brB (!r5.2.2)
 (.obT
 (.obT
 (.rc ((((0:Int),0,12))))))
 (.call (y27 (wrap .i64 (wrap .i64 (2*if wrap .i64 (r5.1-r4.2.1)>0 then wrap .i64 (r5.1-r4.2.1)else(0:Int))*1000000)) u4) fun r6 =>
 .call (jbi (wrap .i64 (wrap .i64 (2*wrap .i64 (r5.2.1-r4.1))*1000000)) u4) fun r7 =>
 .obT
 (.obT
 (.rc (((r6,r7,0))))))))
 (.call (y30 u4 u0 u6 u5 (1:Int)) fun r4 =>
 .call (y30 u4 u0 u6 u5 (5:Int)) fun r8 =>
 .brB (!r4.2.2)
 (.obT
 (.obT
 (.rc ((((0:Int),0,12))))))
 (.brB (!r8.2.2)
 (.obT
 (.obT
 (.rc ((((0:Int),0,12))))))
 (.call (y27 (wrap .i64 (wrap .i64 (3*if wrap .i64 (r8.1-r4.2.1)>0 then wrap .i64 (r8.1-r4.2.1)else(0:Int))*1000000)) u4) fun r9 =>
 .call (jbi (wrap .i64 (wrap .i64 (3*wrap .i64 (r8.2.1-r4.1))*1000000)) u4) fun r10 =>
 .obT
 (.obT
 (.rc (((r9,r10,0))))))))))
theorem jkz (u4:Int) (u0:List Nat) (u6 u5 u26:Int) (r:Int × Int × Int) (h:Option.bind (y11 u4 u0 u6 u5 u26) some=some r):jaY Tryz.f24 ((sp_72 (sp_73 (sp_74 (sp_75 sp0))))) (fun _ _ _=>none) (jaO y168 [.d (.i .i64 u4),.r (.floats .f32 u0),.d (.i .i64 u6),.d (.i .i64 u5),.d (.i .i64 u26)]) [.s [.d (.i .i64 r.1),.d (.i .i64 r.2.1)],.c (.d (.i .i64 r.2.2))] :=
 T.vc (t:=jlv u4 u0 u6 u5 u26) (by kernel_rfl) (by kernel_rfl) h
theorem jkA:jah Tryz.prog 24 true (jal y168 y169):=by
 refine jau (sp:=(sp_72 (sp_73 (sp_74 (sp_75 sp0))))) (fn:=Tryz.f24) (body:=jai Tryz.f24) mixed (sp_72_ok (sp_73_ok (sp_74_ok (sp_75_ok jak)))) Tryz.func24 (by kernel_rfl) (by kernel_rfl) fun ls t h ho b hb=>?_
 unfold y169 at h
 split at h
 ·rename_i u4 u0 u6 u5 u26
  cases h
  obtain rfl:=jaD hb
  exact⟨Nat.le_of_ble_eq_true (by kernel_rfl),_,_,jkz u4 u0 u6 u5 u26 _ (jaj ho)⟩
 ·cases h
theorem sp_24_ok {sp:jab} (h:jac Tryz.prog sp):jac Tryz.prog (sp_24 sp):=jag jkA h
def ji7:List (Option Cont):=[none]
def jmB (u7:Int):Option Int :=
 Option.bind (y56 u7 (0:Int) (1000000:Int)) fun r0 =>
 if(!r0)=true then
  some (2:Int)
 else
  some (0:Int)
def jfo:List A→Option (Prop × List RV)
 |[.d (.i .i64 u7)]=>some (ok (jmB u7),[.d (.i .i64 ((val (jmB u7))))])
 |_=>none
abbrev sp_27:jab→jab:=jas 27 true (jaq ji7 jfo)
def jqB (u7:Int):T (Int) :=
 .call (y56 u7 (0:Int) (1000000:Int)) fun r0 =>
 .brB (!r0)
 (.obT
 (.rc ((2:Int))))
 (.obT
 (.rc ((0:Int))))
theorem jo3 (u7 r:Int) (h:Option.bind (jmB u7) some=some r):ja6 Tryz.f27 ((sp_35 sp0)) (fun _ _ _=>none) [.d (.i .i64 u7)] [.d (.i .i64 r)] :=
 T.vc (t:=jqB u7) (by kernel_rfl) (by kernel_rfl) h
theorem jo4:jah Tryz.prog 27 true (jaq ji7 jfo):=by
 refine jaw (sp:=(sp_35 sp0)) (fn:=Tryz.f27) (body:=jai Tryz.f27) mixed (sp_35_ok jak) Tryz.func27 (by kernel_rfl) (by kernel_rfl) fun as_ ob rs h ho=>?_
 unfold jfo at h
 split at h
 ·rename_i u7
  cases h
  exact⟨Nat.le_of_ble_eq_true rfl,_,_,jo3 u7 _ (jaj ho)⟩
 ·cases h
theorem sp_27_ok {sp:jab} (h:jac Tryz.prog sp):jac Tryz.prog (sp_27 sp):=jag jo4 h
def jhL:List (Option Cont):=[none,none]
def y77 (u36 u7:Int):Option (Int × Int) :=
 Option.bind (jhj u36) fun r0 =>
 if(!r0)=true then
  some (((0:Int),2))
 else
  Option.bind (jmB u7) fun r1 =>
  if(r1 != 0)=true then
  some (((0:Int),r1))
  else
  Option.bind (jbi (wrap .i64 (u7*u36)) (1000000:Int)) fun r2 =>
  some ((r2,0))
def jeE:List A→Option (Prop × List RV)
 |[.d (.i .i64 u36),.d (.i .i64 u7)]=>some (ok (y77 u36 u7),[.d (.i .i64 ((val (y77 u36 u7)).1)),.d (.i .i64 ((val (y77 u36 u7)).2))])
 |_=>none
abbrev sp_79:jab→jab:=jas 79 true (jaq jhL jeE)
def jo5 (u36 u7:Int):T (Int × Int) :=
 .call (jhj u36) fun r0 =>
 .brB (!r0)
 (.obT
 (.obT
 (.rc ((((0:Int),2))))))
 (.call (jmB u7) fun r1 =>
 .brB (r1 != 0)
 (.obT
 (.obT
 (.rc ((((0:Int),r1))))))
 (.call (jbi (wrap .i64 (u7*u36)) (1000000:Int)) fun r2 =>
 .obT
 (.obT
 (.rc (((r2,0)))))))
theorem jnZ (u36 u7:Int) (r:Int × Int) (h:Option.bind (y77 u36 u7) some=some r):ja6 Tryz.f79 ((sp_120 (sp_27 (sp_75 sp0)))) (fun _ _ _=>none) [.d (.i .i64 u36),.d (.i .i64 u7)] [.d (.i .i64 r.1),.d (.i .i64 r.2)] :=
 T.vc (t:=jo5 u36 u7) (by kernel_rfl) (by kernel_rfl) h
theorem jn0:jah Tryz.prog 79 true (jaq jhL jeE):=by
 refine jaw (sp:=(sp_120 (sp_27 (sp_75 sp0)))) (fn:=Tryz.f79) (body:=jai Tryz.f79) mixed (sp_120_ok (sp_27_ok (sp_75_ok jak))) Tryz.func79 (by kernel_rfl) (by kernel_rfl) fun as_ ob rs h ho=>?_
 unfold jeE at h
 split at h
 ·rename_i u36 u7
  cases h
  exact⟨Nat.le_of_ble_eq_true rfl,_,_,jnZ u36 u7 _ (jaj ho)⟩
 ·cases h
theorem sp_79_ok {sp:jab} (h:jac Tryz.prog sp):jac Tryz.prog (sp_79 sp):=jag jn0 h
def jhm:List SV:=[.a [.d,.r (.floats .f32 []),.d,.d],.c (.d)]
def y91 (u4:Int) (u0:List Nat) (u6 u5 u7:Int):Option (Int × Int × Int × Int) :=
 Option.bind (y77 u4 u7) fun r0 =>
 Option.bind (y24 u4 u0 u6 u5 (0:Int) (if(↑(List.length u0):Int)<r0.1 then(↑(List.length u0):Int)else r0.1)) fun r1 =>
 if((if(↑(List.length u0):Int)<r0.1 then(↑(List.length u0):Int)else r0.1)==(↑(List.length u0):Int))=true then
  Option.bind (y24 u4 u0 u6 u5 (if(↑(List.length u0):Int)<r0.1 then(↑(List.length u0):Int)else r0.1) (↑(List.length u0):Int)) fun r2 =>
  some ((r1.1,wrap .i64 (r1.2-u5),r2.1,r2.2))
 else
  Option.bind (y24 u4 u0 u6 u5 (if(↑(List.length u0):Int)<r0.1 then(↑(List.length u0):Int)else r0.1) (↑(List.length u0):Int)) fun r2 =>
  some (r1.1,r1.2,r2.1,r2.2)
def jhn:List Lf→Option GT
 |[.d (.i .i64 u4),.r (.floats .f32 u0),.d (.i .i64 u6),.d (.i .i64 u5),.d (.i .i64 u7)]=>some (.leaf (ok (y91 u4 u0 u6 u5 u7)) [.s [.d (.i .i64 ((val (y91 u4 u0 u6 u5 u7)).1)),.d (.i .i64 ((val (y91 u4 u0 u6 u5 u7)).2.1))],.s [.d (.i .i64 ((val (y91 u4 u0 u6 u5 u7)).2.2.1)),.d (.i .i64 ((val (y91 u4 u0 u6 u5 u7)).2.2.2))]])
 |_=>none
abbrev sp_80:jab→jab:=jas 80 true (jal jhm jhn)
def jtx (u4:Int) (u0:List Nat) (u6 u5 u7:Int):T (Int × Int × Int × Int) :=
 .call (y77 u4 u7) fun r0 =>
 .call (y24 u4 u0 u6 u5 (0:Int) (if(↑(List.length u0):Int)<r0.1 then(↑(List.length u0):Int)else r0.1)) fun r1 =>
 .brB ((if(↑(List.length u0):Int)<r0.1 then(↑(List.length u0):Int)else r0.1)==(↑(List.length u0):Int))
 (.call (y24 u4 u0 u6 u5 (if(↑(List.length u0):Int)<r0.1 then(↑(List.length u0):Int)else r0.1) (↑(List.length u0):Int)) fun r2 =>
 .obT
 (.obT
 (.rc (((r1.1,wrap .i64 (r1.2-u5),r2.1,r2.2))))))
 (.call (y24 u4 u0 u6 u5 (if(↑(List.length u0):Int)<r0.1 then(↑(List.length u0):Int)else r0.1) (↑(List.length u0):Int)) fun r2 =>
 .obT
 (.obT
 (.rc ((r1.1,r1.2,r2.1,r2.2)))))
theorem jss (u4:Int) (u0:List Nat) (u6 u5 u7:Int) (r:Int × Int × Int × Int) (h:Option.bind (y91 u4 u0 u6 u5 u7) some=some r):jaY Tryz.f80 ((sp_79 (sp_52 sp0))) (fun _ _ _=>none) (jaO jhm [.d (.i .i64 u4),.r (.floats .f32 u0),.d (.i .i64 u6),.d (.i .i64 u5),.d (.i .i64 u7)]) [.s [.d (.i .i64 r.1),.d (.i .i64 r.2.1)],.s [.d (.i .i64 r.2.2.1),.d (.i .i64 r.2.2.2)]] :=
 T.vc (t:=jtx u4 u0 u6 u5 u7) (by kernel_rfl) (by kernel_rfl) h
theorem jst:jah Tryz.prog 80 true (jal jhm jhn):=by
 refine jau (sp:=(sp_79 (sp_52 sp0))) (fn:=Tryz.f80) (body:=jai Tryz.f80) mixed (sp_79_ok (sp_52_ok jak)) Tryz.func80 (by kernel_rfl) (by kernel_rfl) fun ls t h ho b hb=>?_
 unfold jhn at h
 split at h
 ·rename_i u4 u0 u6 u5 u7
  cases h
  obtain rfl:=jaD hb
  exact⟨Nat.le_of_ble_eq_true (by kernel_rfl),_,_,jss u4 u0 u6 u5 u7 _ (jaj ho)⟩
 ·cases h
theorem sp_80_ok {sp:jab} (h:jac Tryz.prog sp):jac Tryz.prog (sp_80 sp):=jag jst h
end Go.Sh
end

section
namespace Go.Sh
open Go Go.Proofs Go.RowKit Go.Sx
open Go.IntKind (wrap)
def jkB:List (Option Cont):=[none]
def jo6 (k:Int):Option Int :=
 if(0≤k∧k<(↑(10:Nat):Int))∧List.getD [true,true,true,true,true,true,true,true,true,true] (Int.toNat k*1) false=true then
  some (List.getD [(1000000000:Int),1258925411,1584893192,1995262314,2511886431,3162277660,3981071705,5011872336,6309573444,7943282347] (Int.toNat k*1) (0:Int))
 else none
def jgv:List A→Option (Prop × List RV)
 |[.d (.i .i64 k)]=>some (ok (jo6 k),[.d (.i .i64 ((val (jo6 k))))])
 |_=>none
abbrev sp_149:jab→jab:=jas 149 true (jaq jkB jgv)
def jsu (k:Int):T (Int) :=
 .obP ((0≤k∧k<(↑(10:Nat):Int))∧List.getD [true,true,true,true,true,true,true,true,true,true] (Int.toNat k*1) false=true)
 (.obT
 (.rc ((List.getD [(1000000000:Int),1258925411,1584893192,1995262314,2511886431,3162277660,3981071705,5011872336,6309573444,7943282347] (Int.toNat k*1) (0:Int)))))
theorem jqC (k r:Int) (h:Option.bind (jo6 k) some=some r):ja6 Tryz.f149 (sp0) (fun _ _ _=>none) [.d (.i .i64 k)] [.d (.i .i64 r)] :=
 T.vc (t:=jsu k) (by kernel_rfl) (by kernel_rfl) h
theorem jqD:jah Tryz.prog 149 true (jaq jkB jgv):=by
 refine jaw (sp:=sp0) (fn:=Tryz.f149) (body:=jai Tryz.f149) mixed jak Tryz.func149 (by kernel_rfl) (by kernel_rfl) fun as_ ob rs h ho=>?_
 unfold jgv at h
 split at h
 ·rename_i k
  cases h
  exact⟨Nat.le_of_ble_eq_true rfl,_,_,jqC k _ (jaj ho)⟩
 ·cases h
theorem sp_149_ok {sp:jab} (h:jac Tryz.prog sp):jac Tryz.prog (sp_149 sp):=jag jqD h
def ji8:List (Option Cont):=[none,none,none,none]
def y78 (num den u24 up:Int):Option Int :=
 Option.bind (jiC u24 (10:Int)) fun r0 =>
 Option.bind (y27 u24 (10:Int)) fun r1 =>
 Option.bind (jo6 r0) fun r2 =>
 if r0>0 then
  if r1≥0 then
  Option.bind (jef r1) fun r3 =>
  Option.bind (y37 num den (wrap .i64 (wrap .i64 (r2+up)*r3)) (1000000000:Int)) fun r4 =>
  some r4
  else
  Option.bind (jef (wrap .i64 (9-r1))) fun r5 =>
  Option.bind (y37 num den (wrap .i64 (r2+up)) r5) fun r6 =>
  some r6
 else
  if r1≥0 then
  Option.bind (jef r1) fun r3 =>
  Option.bind (y37 num den (wrap .i64 (r2*r3)) (1000000000:Int)) fun r7 =>
  some r7
  else
  Option.bind (jef (wrap .i64 (9-r1))) fun r5 =>
  Option.bind (y37 num den r2 r5) fun r8 =>
  some r8
def jfp:List A→Option (Prop × List RV)
 |[.d (.i .i64 num),.d (.i .i64 den),.d (.i .i64 u24),.d (.i .i64 up)]=>some (ok (y78 num den u24 up),[.d (.i .i64 ((val (y78 num den u24 up))))])
 |_=>none
abbrev sp_124:jab→jab:=jas 124 true (jaq ji8 jfp)
def jqE (num den u24 up:Int):T (Int) :=
 .call (jiC u24 (10:Int)) fun r0 =>
 .call (y27 u24 (10:Int)) fun r1 =>
 .call (jo6 r0) fun r2 =>
 .brP (r0>0)
 (.brP (r1≥0)
 (.call (jef r1) fun r3 =>
 .call (y37 num den (wrap .i64 (wrap .i64 (r2+up)*r3)) (1000000000:Int)) fun r4 =>
 .obT
 (.rc (r4)))
 (.call (jef (wrap .i64 (9-r1))) fun r5 =>
 .call (y37 num den (wrap .i64 (r2+up)) r5) fun r6 =>
 .obT
 (.rc (r6))))
 (.brP (r1≥0)
 (.call (jef r1) fun r3 =>
 .call (y37 num den (wrap .i64 (r2*r3)) (1000000000:Int)) fun r7 =>
 .obT
 (.rc (r7)))
 (.call (jef (wrap .i64 (9-r1))) fun r5 =>
 .call (y37 num den r2 r5) fun r8 =>
 .obT
 (.rc (r8))))
theorem jo7 (num den u24 up r:Int) (h:Option.bind (y78 num den u24 up) some=some r):ja6 Tryz.f124 ((sp_148 (sp_74 (sp_149 (sp_132 (sp_47 sp0)))))) (fun _ _ _=>none) [.d (.i .i64 num),.d (.i .i64 den),.d (.i .i64 u24),.d (.i .i64 up)] [.d (.i .i64 r)] :=
 T.vc (t:=jqE num den u24 up) (by kernel_rfl) (by kernel_rfl) h
theorem jo8:jah Tryz.prog 124 true (jaq ji8 jfp):=by
 refine jaw (sp:=(sp_148 (sp_74 (sp_149 (sp_132 (sp_47 sp0)))))) (fn:=Tryz.f124) (body:=jai Tryz.f124) mixed (sp_148_ok (sp_74_ok (sp_149_ok (sp_132_ok (sp_47_ok jak))))) Tryz.func124 (by kernel_rfl) (by kernel_rfl) fun as_ ob rs h ho=>?_
 unfold jfp at h
 split at h
 ·rename_i num den u24 up
  cases h
  exact⟨Nat.le_of_ble_eq_true rfl,_,_,jo7 num den u24 up _ (jaj ho)⟩
 ·cases h
theorem sp_124_ok {sp:jab} (h:jac Tryz.prog sp):jac Tryz.prog (sp_124 sp):=jag jo8 h
def ji9:List (Option Cont):=[none,none]
def y82 (num den x0:Int):Option (Int ⊕ Int) :=
 Option.bind (y78 num den x0 (1:Int)) fun r4 =>
 if r4<0 then
  some (.inl (wrap .i64 (x0-1)))
 else
  some (.inr x0)
def y83 (num den x1:Int):Option (Int ⊕ Int) :=
 Option.bind (y78 num den x1 (0:Int)) fun r5 =>
 if r5>0 then
  some (.inl (wrap .i64 (x1+1)))
 else
  some (.inr x1)
def jsv (u10 u62:Int):Option (Int × Int × Int) :=
 some ((u10,u62,0))
def jo9 (num den u10:Int):Option (Int × Int × Int) :=
 Option.bind (jae (y83 num den) big (-90:Int)) (jsv u10)
def y79 (num den:Int):Option (Int × Int × Int) :=
 Option.bind (y56 num (1:Int) (10000000000000:Int)) fun r0 =>
 if(!r0)=true then
  some (((0:Int),0,2))
 else
  Option.bind (y56 den (1:Int) (10000000000000:Int)) fun r1 =>
  if(!r1)=true then
  some (((0:Int),0,2))
  else
  Option.bind (y37 num den (1000000000:Int) (1:Int)) fun r2 =>
  if r2>0 then
   some (((0:Int),0,8))
  else
   Option.bind (y37 num den (1:Int) (1000000000:Int)) fun r3 =>
   if r3<0 then
   some (((0:Int),0,8))
   else
   Option.bind (jae (y82 num den) big (90:Int)) (jo9 num den)
def jfq:List A→Option (Prop × List RV)
 |[.d (.i .i64 num),.d (.i .i64 den)]=>some (ok (y79 num den),[.s [.i .i64 ((val (y79 num den)).1),.i .i64 ((val (y79 num den)).2.1)],.d (.i .i64 ((val (y79 num den)).2.2))])
 |_=>none
abbrev sp_81:jab→jab:=jas 81 true (jaq ji9 jfq)
theorem jpa (num den:Int) (r:Int × Int × Int) (h:Option.bind (y79 num den) some=some r):ja6 Tryz.f81 ((sp_35 (sp_47 (sp_124 sp0)))) (fun gs id _=>match id with
 |0=>some ⟨Int × Nat,fun z=>⟨[(0,.w (.c (.d (.i .i64 num)))),(1,.w (.c (.d (.i .i64 den)))),(4,.w (.c (.p 2 0 1 0))),(6,.w (.c (.p 3 0 1 0)))],[(2,.box 30 [.d (.i .i64 0),.d (.i .i64 0)]),(3,.box 30 [.d (.i .i64 (Prod.fst z)),.d (.i .i64 (-90:Int))])],4⟩,fun z=>Option.bind (jae (y82 num den) (Prod.snd z) (Prod.fst z)) (fun y0=>Option.bind (jo9 num den y0) some)=some r,fun z=>Prod.snd z⟩
 |2=>some ⟨Int × Int × Nat,fun z=>⟨[(0,.w (.c (.d (.i .i64 num)))),(1,.w (.c (.d (.i .i64 den)))),(4,.w (.c (.p 2 0 1 0))),(6,.w (.c (.p 3 0 1 0)))],[(2,.box 30 [.d (.i .i64 0),.d (.i .i64 0)]),(3,.box 30 [.d (.i .i64 (Prod.fst z)),.d (.i .i64 (Prod.fst (Prod.snd z)))])],4⟩,fun z=>Option.bind (jae (y83 num den) (Prod.snd (Prod.snd z)) (Prod.fst (Prod.snd z))) (fun y0=>Option.bind (jsv (Prod.fst z) y0) some)=some r,fun z=>Prod.snd (Prod.snd z)⟩
 |_=>none) [.d (.i .i64 num),.d (.i .i64 den)] [.s [.i .i64 r.1,.i .i64 r.2.1],.d (.i .i64 r.2.2)]:=by
 refine Eq.mp (by kernel_rfl:(
 (Ob (ok (y56 num (1:Int) (10000000000000:Int))) ∧
 Br (!val (y56 num (1:Int) (10000000000000:Int)))
  ((Ob True ∧
 (Ob True ∧
 (Ob ((0:Int)=r.1) ∧
 (Ob ((0:Int)=r.2.1) ∧
 (Ob ((2:Int)=r.2.2) ∧
 True))))))
  ((Ob (ok (y56 den (1:Int) (10000000000000:Int))) ∧
 Br (!val (y56 den (1:Int) (10000000000000:Int)))
  ((Ob True ∧
 (Ob True ∧
 (Ob ((0:Int)=r.1) ∧
 (Ob ((0:Int)=r.2.1) ∧
 (Ob ((2:Int)=r.2.2) ∧
 True))))))
  ((Ob (ok (y37 num den (1000000000:Int) (1:Int))) ∧
 Br (decide (val (y37 num den (1000000000:Int) (1:Int))>0))
  ((Ob True ∧
 (Ob True ∧
 (Ob ((0:Int)=r.1) ∧
 (Ob ((0:Int)=r.2.1) ∧
 (Ob ((8:Int)=r.2.2) ∧
 True))))))
  ((Ob (ok (y37 num den (1:Int) (1000000000:Int))) ∧
 Br (decide (val (y37 num den (1:Int) (1000000000:Int))<0))
  ((Ob True ∧
 (Ob True ∧
 (Ob ((0:Int)=r.1) ∧
 (Ob ((0:Int)=r.2.1) ∧
 (Ob ((8:Int)=r.2.2) ∧
 True))))))
  (((∃(v0:Int × Nat),(Ob ((Option.bind (jae (y82 num den) v0.2 v0.1) fun y0=>Option.bind (jo9 num den y0) some)=some r) ∧
 (Ob (num=num) ∧
 (Ob (den=den) ∧
 (Ob (0=0) ∧
 (Ob (0=0) ∧
 (Ob ((0:Int)=(0:Int)) ∧
 (Ob ((0:Int)=(0:Int)) ∧
 (Ob ((90:Int)=v0.1) ∧
 (Ob ((-90:Int)=(-90:Int)) ∧
 True)))))))))) ∧
  (∀(v0:Int × Nat),((Option.bind (jae (y82 num den) v0.2 v0.1) fun y0=>Option.bind (jo9 num den y0) some)=some r →
 (Ob (ok (y78 num den v0.1 (1:Int))) ∧
 Br (decide (val (y78 num den v0.1 (1:Int))<0))
  ((∃(v1:Int × Nat),(Ob ((Option.bind (jae (y82 num den) v1.2 v1.1) fun y0=>Option.bind (jo9 num den y0) some)=some r) ∧
 (Ob (v1.2<v0.2) ∧
 (Ob (num=num) ∧
 (Ob (den=den) ∧
 (Ob (0=0) ∧
 (Ob (0=0) ∧
 (Ob ((0:Int)=(0:Int)) ∧
 (Ob ((0:Int)=(0:Int)) ∧
 (Ob (wrap .i64 (v0.1-1)=v1.1) ∧
 (Ob ((-90:Int)=(-90:Int)) ∧
 True))))))))))))
  (((∃(v1a:Int × Int × Nat),(Ob ((Option.bind (jae (y83 num den) v1a.2.2 v1a.2.1) fun y0=>Option.bind (jsv v1a.1 y0) some)=some r) ∧
 (Ob (num=num) ∧
 (Ob (den=den) ∧
 (Ob (0=0) ∧
 (Ob (0=0) ∧
 (Ob ((0:Int)=(0:Int)) ∧
 (Ob ((0:Int)=(0:Int)) ∧
 (Ob (v0.1=v1a.1) ∧
 (Ob ((-90:Int)=v1a.2.1) ∧
 True)))))))))) ∧
  (∀(v1a:Int × Int × Nat),((Option.bind (jae (y83 num den) v1a.2.2 v1a.2.1) fun y0=>Option.bind (jsv v1a.1 y0) some)=some r →
 (Ob (ok (y78 num den v1a.2.1 (0:Int))) ∧
 Br (decide (val (y78 num den v1a.2.1 (0:Int))>0))
  ((∃(v2:Int × Int × Nat),(Ob ((Option.bind (jae (y83 num den) v2.2.2 v2.2.1) fun y0=>Option.bind (jsv v2.1 y0) some)=some r) ∧
 (Ob (v2.2.2<v1a.2.2) ∧
 (Ob (num=num) ∧
 (Ob (den=den) ∧
 (Ob (0=0) ∧
 (Ob (0=0) ∧
 (Ob ((0:Int)=(0:Int)) ∧
 (Ob ((0:Int)=(0:Int)) ∧
 (Ob (v1a.1=v2.1) ∧
 (Ob (wrap .i64 (v1a.2.1+1)=v2.2.1) ∧
 True))))))))))))
  ((Ob True ∧
 (Ob True ∧
 (Ob (v1a.1=r.1) ∧
 (Ob (v1a.2.1=r.2.1) ∧
 (Ob ((0:Int)=r.2.2) ∧
 True))))))))))))))))))))))))=_) ?_
 refine jav h fun h=>?_
 refine jaV h (fun h=>?_) (fun h=>?_)
 ·refine jad ?_
  refine jad ?_
  exact rcs h
 ·refine jav h fun h=>?_
  refine jaV h (fun h=>?_) (fun h=>?_)
  ·refine jad ?_
   refine jad ?_
   exact rcs h
  ·refine jav h fun h=>?_
   refine jaT h (fun h=>?_) (fun h=>?_)
   ·refine jad ?_
    refine jad ?_
    exact rcs h
   ·refine jav h fun h=>?_
    refine jaT h (fun h=>?_) (fun h=>?_)
    ·refine jad ?_
     refine jad ?_
     exact rcs h
    ·refine⟨⟨((90:Int),big),⟨jbe h⟩,(by repeat' constructor)⟩,fun z6 hz6=>?_⟩
     obtain⟨k6,hm6,h⟩:=jaU hz6
     refine jav h fun h=>?_
     refine jaT h (fun h=>?_) (fun h=>?_)
     ·exact⟨(_,k6),⟨jaQ h⟩,⟨ja0 hm6.symm⟩,(by repeat' constructor)⟩
     ·have h:=jaC h
      refine⟨⟨(Prod.fst z6,(-90:Int),big),⟨jbe h⟩,(by repeat' constructor)⟩,fun z7 hz7=>?_⟩
      obtain⟨k7,hm7,h⟩:=jaU hz7
      refine jav h fun h=>?_
      refine jaT h (fun h=>?_) (fun h=>?_)
      ·exact⟨(Prod.fst z7,_,k7),⟨jaQ h⟩,⟨ja0 hm7.symm⟩,(by repeat' constructor)⟩
      ·have h:=jaC h
       refine jad ?_
       refine jad ?_
       exact rcs h
theorem jpb:jah Tryz.prog 81 true (jaq ji9 jfq):=by
 refine jaw (sp:=(sp_35 (sp_47 (sp_124 sp0)))) (fn:=Tryz.f81) (body:=jai Tryz.f81) mixed (sp_35_ok (sp_47_ok (sp_124_ok jak))) Tryz.func81 (by kernel_rfl) (by kernel_rfl) fun as_ ob rs h ho=>?_
 unfold jfq at h
 split at h
 ·rename_i num den
  cases h
  exact⟨Nat.le_of_ble_eq_true rfl,_,_,jpa num den _ (jaj ho)⟩
 ·cases h
theorem sp_81_ok {sp:jab} (h:jac Tryz.prog sp):jac Tryz.prog (sp_81 sp):=jag jpb h
def jfr:List SV:=[.a [.d,.r (.floats .f32 []),.d,.d],.c (.d)]
def y23 (u4:Int) (u0:List Nat) (u6 u5 u7:Int):Option (Int × Int × Int) :=
 Option.bind (y77 u4 u7) fun r0 =>
 if r0.1≥(↑(List.length u0):Int)then
  some (((0:Int),0,12))
 else
  Option.bind (y91 u4 u0 u6 u5 u7) fun r1 =>
  if(r1.1==0)=true then
  some (((0:Int),0,11))
  else
  if(r1.2.2.1==0)=true then
   some (((0:Int),0,11))
  else
   Option.bind (y79 r1.1 r1.2.2.2) fun r2 =>
   if(r2.2.2 != 0)=true then
   some (((0:Int),0,r2.2.2))
   else
   Option.bind (y79 r1.2.1 r1.2.2.1) fun r3 =>
   if(r3.2.2 != 0)=true then
    some (((0:Int),0,r3.2.2))
   else
    some ((r2.1,r3.2.1,0))
def jfs:List Lf→Option GT
 |[.d (.i .i64 u4),.r (.floats .f32 u0),.d (.i .i64 u6),.d (.i .i64 u5),.d (.i .i64 u7)]=>some (.leaf (ok (y23 u4 u0 u6 u5 u7)) [.s [.d (.i .i64 ((val (y23 u4 u0 u6 u5 u7)).1)),.d (.i .i64 ((val (y23 u4 u0 u6 u5 u7)).2.1))],.c (.d (.i .i64 ((val (y23 u4 u0 u6 u5 u7)).2.2)))])
 |_=>none
abbrev sp_28:jab→jab:=jas 28 true (jal jfr jfs)
def jqF (u4:Int) (u0:List Nat) (u6 u5 u7:Int):T (Int × Int × Int) :=
 .call (y77 u4 u7) fun r0 =>
 .brP (r0.1≥(↑(List.length u0):Int))
 (.obT
 (.obT
 (.rc ((((0:Int),0,12))))))
 (.call (y91 u4 u0 u6 u5 u7) fun r1 =>
 .brB (r1.1==0)
 (.obT
 (.obT
 (.rc ((((0:Int),0,11))))))
 (.brB (r1.2.2.1==0)
 (.obT
 (.obT
 (.rc ((((0:Int),0,11))))))
 (.call (y79 r1.1 r1.2.2.2) fun r2 =>
 .brB (r2.2.2 != 0)
 (.obT
 (.obT
 (.rc ((((0:Int),0,r2.2.2))))))
 (.call (y79 r1.2.1 r1.2.2.1) fun r3 =>
 .brB (r3.2.2 != 0)
 (.obT
 (.obT
 (.rc ((((0:Int),0,r3.2.2))))))
 (.obT
 (.obT
 (.rc (((r2.1,r3.2.1,0))))))))))
theorem jpc (u4:Int) (u0:List Nat) (u6 u5 u7:Int) (r:Int × Int × Int) (h:Option.bind (y23 u4 u0 u6 u5 u7) some=some r):jaY Tryz.f28 ((sp_79 (sp_80 (sp_81 sp0)))) (fun _ _ _=>none) (jaO jfr [.d (.i .i64 u4),.r (.floats .f32 u0),.d (.i .i64 u6),.d (.i .i64 u5),.d (.i .i64 u7)]) [.s [.d (.i .i64 r.1),.d (.i .i64 r.2.1)],.c (.d (.i .i64 r.2.2))] :=
 T.vc (t:=jqF u4 u0 u6 u5 u7) (by kernel_rfl) (by kernel_rfl) h
theorem jpd:jah Tryz.prog 28 true (jal jfr jfs):=by
 refine jau (sp:=(sp_79 (sp_80 (sp_81 sp0)))) (fn:=Tryz.f28) (body:=jai Tryz.f28) mixed (sp_79_ok (sp_80_ok (sp_81_ok jak))) Tryz.func28 (by kernel_rfl) (by kernel_rfl) fun ls t h ho b hb=>?_
 unfold jfs at h
 split at h
 ·rename_i u4 u0 u6 u5 u7
  cases h
  obtain rfl:=jaD hb
  exact⟨Nat.le_of_ble_eq_true (by kernel_rfl),_,_,jpc u4 u0 u6 u5 u7 _ (jaj ho)⟩
 ·cases h
theorem sp_28_ok {sp:jab} (h:jac Tryz.prog sp):jac Tryz.prog (sp_28 sp):=jag jpd h
def jgw:List SV:=[.a [.d,.r (.floats .f32 []),.d,.d]]
def y92 (u4:Int) (u0:List Nat) (u6 u5:Int) (x0:(Int × Int × Int)):Option ((Int × Int × Int) ⊕ (Int × Int)) :=
 if x0.1<(↑(List.length u0):Int)then
  Option.bind (y62 u4 u0 u6 u5 x0.1) fun r1 =>
  some (.inl ((wrap .i64 (x0.1+1),wrap .i64 (x0.2.1+wrap .i64 (x0.1*r1.1)),wrap .i64 (x0.2.2+wrap .i64 (x0.1*r1.2)))))
 else
  some (.inr (x0.2.1,x0.2.2))
def jpe (u4:Int) (u0:List Nat) (r0 u10:Int × Int):Option (Int × Int × Int) :=
 if r0.2≠(0:Int)then
  if r0.2≠(0:Int)then
  Option.bind (y27 (wrap .i64 (Int.tmod u10.1 r0.2*1000000)) r0.2) fun r2 =>
  Option.bind (y27 (wrap .i64 (wrap .i64 (wrap .i64 (Int.tdiv u10.1 r0.2)*1000000)+r2)) u4) fun r3 =>
  Option.bind (jbi (wrap .i64 (wrap .i64 ((↑(List.length u0):Int)-1)*1000000)) u4) fun r4 =>
  if r0.1≠(0:Int)then
   if wrap .i64 (Int.tdiv u10.2 r0.1)<(↑(List.length u0):Int)then
   if r0.1≠(0:Int)then
    if r0.1≠(0:Int)then
    Option.bind (jbi (wrap .i64 (Int.tmod u10.2 r0.1*1000000)) r0.1) fun r5 =>
    Option.bind (jbi (wrap .i64 (wrap .i64 (wrap .i64 (Int.tdiv u10.2 r0.1)*1000000)+r5)) u4) fun r6 =>
    some ((r3,if r6<r4 then r6 else r4,0))
    else none
   else none
   else
   some ((r3,r4,0))
  else none
  else none
 else none
def y3 (u4:Int) (u0:List Nat) (u6 u5:Int):Option (Int × Int × Int) :=
 if(u5 != 0)=true then
  some (((0:Int),0,23))
 else
  Option.bind (y35 u4 u0 u6 u5 (0:Int)) fun r0 =>
  if(r0.1==0)=true then
  some (((0:Int),0,11))
  else
  Option.bind (jae (y92 u4 u0 u6 u5) big (((0:Int),0,0))) (jpe u4 u0 r0)
def jgx:List Lf→Option GT
 |[.d (.i .i64 u4),.r (.floats .f32 u0),.d (.i .i64 u6),.d (.i .i64 u5)]=>some (.leaf (ok (y3 u4 u0 u6 u5)) [.s [.d (.i .i64 ((val (y3 u4 u0 u6 u5)).1)),.d (.i .i64 ((val (y3 u4 u0 u6 u5)).2.1))],.c (.d (.i .i64 ((val (y3 u4 u0 u6 u5)).2.2)))])
 |_=>none
abbrev sp_30:jab→jab:=jas 30 true (jal jgw jgx)
abbrev jbn (u4:Int) (u0:List Nat) (u6 u5:Int):=(val (y35 u4 u0 u6 u5 (0:Int)))
abbrev jvj (u4:Int) (u0:List Nat) (u6 u5:Int) (v0:(Int × Int × Int) × Nat):=(y27 (wrap .i64 (wrap .i64 (wrap .i64 (Int.tdiv v0.1.2.1 (jbn u4 u0 u6 u5).2)*1000000)+val (y27 (wrap .i64 (Int.tmod v0.1.2.1 (jbn u4 u0 u6 u5).2*1000000)) (jbn u4 u0 u6 u5).2))) u4)
abbrev jvk (u4:Int) (u0:List Nat) (u6 u5:Int) (v0:(Int × Int × Int) × Nat):=(jbi (wrap .i64 (wrap .i64 (wrap .i64 (Int.tdiv v0.1.2.2 (jbn u4 u0 u6 u5).1)*1000000)+val (jbi (wrap .i64 (Int.tmod v0.1.2.2 (jbn u4 u0 u6 u5).1*1000000)) (jbn u4 u0 u6 u5).1))) u4)
abbrev jqU (u0:List Nat):=(wrap .i64 (wrap .i64 ((↑(List.length u0):Int)-1)*1000000))
theorem jqG (u4:Int) (u0:List Nat) (u6 u5:Int) (r:Int × Int × Int) (h:Option.bind (y3 u4 u0 u6 u5) some=some r):jaY Tryz.f30 ((sp_72 (sp_83 (sp_74 (sp_75 sp0))))) (fun gs id _=>match id with
 |0=>some ⟨(Int × Int × Int) × Nat,fun z=>⟨[(1,.w (.c (.p 1 0 1 0))),(2,.w (.c (.p 2 0 1 0))),(4,.w (.c (.p 3 0 1 0))),(5,.w (.c (.p 4 0 1 0))),(6,.w (.c (.d (.i .i64 ((↑(List.length u0):Int)))))),(7,.w (.c (.d (.i .i64 (Prod.fst (Prod.fst z))))))],[(1,.box 26 [.d (.i .i64 u4),.o 0,.d (.i .i64 u6),.d (.i .i64 u5)]),(2,.box 30 [.d (.i .i64 0),.d (.i .i64 0)]),(3,.box 30 [.d (.i .i64 ((val (y35 u4 u0 u6 u5 (0:Int))).1)),.d (.i .i64 ((val (y35 u4 u0 u6 u5 (0:Int))).2))]),(4,.box 30 [.d (.i .i64 (Prod.fst (Prod.snd (Prod.fst z)))),.d (.i .i64 (Prod.snd (Prod.snd (Prod.fst z))))]),(0,.ext (.floats .f32 u0))],5⟩,fun z=>Option.bind (jae (y92 u4 u0 u6 u5) (Prod.snd z) (Prod.fst z)) (fun y0=>Option.bind (jpe u4 u0 (val (y35 u4 u0 u6 u5 (0:Int))) y0) some)=some r,fun z=>Prod.snd z⟩
 |_=>none) (jaO jgw [.d (.i .i64 u4),.r (.floats .f32 u0),.d (.i .i64 u6),.d (.i .i64 u5)]) [.s [.d (.i .i64 r.1),.d (.i .i64 r.2.1)],.c (.d (.i .i64 r.2.2))]:=by
 refine Eq.mp (by kernel_rfl:(
 Br (u5 != 0)
  ((Ob True ∧
 (Ob True ∧
 (Ob ((0:Int)=r.1) ∧
 (Ob ((0:Int)=r.2.1) ∧
 (Ob ((23:Int)=r.2.2) ∧
 True))))))
  ((Ob (ok (y35 u4 u0 u6 u5 (0:Int))) ∧
 Br ((jbn u4 u0 u6 u5).1==0)
  ((Ob True ∧
 (Ob True ∧
 (Ob ((0:Int)=r.1) ∧
 (Ob ((0:Int)=r.2.1) ∧
 (Ob ((11:Int)=r.2.2) ∧
 True))))))
  (((∃(v0:(Int × Int × Int) × Nat),(Ob ((Option.bind (jae (y92 u4 u0 u6 u5) v0.2 v0.1) fun y0=>Option.bind (jpe u4 u0 (jbn u4 u0 u6 u5) y0) some)=some r) ∧
 (Ob (0=0) ∧
 (Ob (0=0) ∧
 (Ob (0=0) ∧
 (Ob (0=0) ∧
 (Ob ((↑(List.length u0):Int)=(↑(List.length u0):Int)) ∧
 (Ob ((0:Int)=v0.1.1) ∧
 (Ob (u4=u4) ∧
 (Ob (u6=u6) ∧
 (Ob (u5=u5) ∧
 (Ob ((0:Int)=(0:Int)) ∧
 (Ob ((0:Int)=(0:Int)) ∧
 (Ob ((jbn u4 u0 u6 u5).1=(jbn u4 u0 u6 u5).1) ∧
 (Ob ((jbn u4 u0 u6 u5).2=(jbn u4 u0 u6 u5).2) ∧
 (Ob ((0:Int)=v0.1.2.1) ∧
 (Ob ((0:Int)=v0.1.2.2) ∧
 (Ob (u0=u0) ∧
 True)))))))))))))))))) ∧
  (∀(v0:(Int × Int × Int) × Nat),((Option.bind (jae (y92 u4 u0 u6 u5) v0.2 v0.1) fun y0=>Option.bind (jpe u4 u0 (jbn u4 u0 u6 u5) y0) some)=some r →
 Br (decide (v0.1.1<(↑(List.length u0):Int)))
  ((Ob (ok (y62 u4 u0 u6 u5 v0.1.1)) ∧
  (∃(v1:(Int × Int × Int) × Nat),(Ob ((Option.bind (jae (y92 u4 u0 u6 u5) v1.2 v1.1) fun y0=>Option.bind (jpe u4 u0 (jbn u4 u0 u6 u5) y0) some)=some r) ∧
 (Ob (v1.2<v0.2) ∧
 (Ob (0=0) ∧
 (Ob (0=0) ∧
 (Ob (0=0) ∧
 (Ob (0=0) ∧
 (Ob ((↑(List.length u0):Int)=(↑(List.length u0):Int)) ∧
 (Ob (wrap .i64 (v0.1.1+1)=v1.1.1) ∧
 (Ob (u4=u4) ∧
 (Ob (u6=u6) ∧
 (Ob (u5=u5) ∧
 (Ob ((0:Int)=(0:Int)) ∧
 (Ob ((0:Int)=(0:Int)) ∧
 (Ob ((jbn u4 u0 u6 u5).1=(jbn u4 u0 u6 u5).1) ∧
 (Ob ((jbn u4 u0 u6 u5).2=(jbn u4 u0 u6 u5).2) ∧
 (Ob (wrap .i64 (v0.1.2.1+wrap .i64 (v0.1.1*(val (y62 u4 u0 u6 u5 v0.1.1)).1))=v1.1.2.1) ∧
 (Ob (wrap .i64 (v0.1.2.2+wrap .i64 (v0.1.1*(val (y62 u4 u0 u6 u5 v0.1.1)).2))=v1.1.2.2) ∧
 (Ob (u0=u0) ∧
 True)))))))))))))))))))))
  ((Ob ((jbn u4 u0 u6 u5).2≠(0:Int)) ∧
 (Ob ((jbn u4 u0 u6 u5).2≠(0:Int)) ∧
 (Ob (ok (y27 (wrap .i64 (Int.tmod v0.1.2.1 (jbn u4 u0 u6 u5).2*1000000)) (jbn u4 u0 u6 u5).2)) ∧
 (Ob (ok (jvj u4 u0 u6 u5 v0)) ∧
 (Ob (ok (jbi (jqU u0) u4)) ∧
 (Ob ((jbn u4 u0 u6 u5).1≠(0:Int)) ∧
 Br (decide (wrap .i64 (Int.tdiv v0.1.2.2 (jbn u4 u0 u6 u5).1)<(↑(List.length u0):Int)))
  ((Ob ((jbn u4 u0 u6 u5).1≠(0:Int)) ∧
 (Ob ((jbn u4 u0 u6 u5).1≠(0:Int)) ∧
 (Ob (ok (jbi (wrap .i64 (Int.tmod v0.1.2.2 (jbn u4 u0 u6 u5).1*1000000)) (jbn u4 u0 u6 u5).1)) ∧
 (Ob (ok (jvk u4 u0 u6 u5 v0)) ∧
 (Ob True ∧
 (Ob True ∧
 (Ob (val (jvj u4 u0 u6 u5 v0)=r.1) ∧
 (Ob ((if val (jvk u4 u0 u6 u5 v0)<val (jbi (jqU u0) u4)then val (jvk u4 u0 u6 u5 v0)else val (jbi (jqU u0) u4))=r.2.1) ∧
 (Ob ((0:Int)=r.2.2) ∧
 True))))))))))
  ((Ob True ∧
 (Ob True ∧
 (Ob (val (jvj u4 u0 u6 u5 v0)=r.1) ∧
 (Ob (val (jbi (jqU u0) u4)=r.2.1) ∧
 (Ob ((0:Int)=r.2.2) ∧
 True))))))))))))))))))))=_) ?_
 refine jaV h (fun h=>?_) (fun h=>?_)
 ·refine jad ?_
  refine jad ?_
  exact rcs h
 ·refine jav h fun h=>?_
  refine jaV h (fun h=>?_) (fun h=>?_)
  ·refine jad ?_
   refine jad ?_
   exact rcs h
  ·refine⟨⟨(((0:Int),0,0),big),⟨jbe h⟩,(by repeat' constructor)⟩,fun z7 hz7=>?_⟩
   obtain⟨k7,hm7,h⟩:=jaU hz7
   refine jaT h (fun h=>?_) (fun h=>?_)
   ·refine jav h fun h=>?_
    exact⟨(_,k7),⟨jaQ h⟩,⟨ja0 hm7.symm⟩,(by repeat' constructor)⟩
   ·have h:=jaC h
    refine jat h fun h=>?_
    refine jat h fun h=>?_
    refine jav h fun h=>?_
    refine jav h fun h=>?_
    refine jav h fun h=>?_
    refine jat h fun h=>?_
    refine jaT h (fun h=>?_) (fun h=>?_)
    ·refine jat h fun h=>?_
     refine jat h fun h=>?_
     refine jav h fun h=>?_
     refine jav h fun h=>?_
     refine jad ?_
     refine jad ?_
     exact rcs h
    ·refine jad ?_
     refine jad ?_
     exact rcs h
theorem jqH:jah Tryz.prog 30 true (jal jgw jgx):=by
 refine jau (sp:=(sp_72 (sp_83 (sp_74 (sp_75 sp0))))) (fn:=Tryz.f30) (body:=jai Tryz.f30) mixed (sp_72_ok (sp_83_ok (sp_74_ok (sp_75_ok jak)))) Tryz.func30 (by kernel_rfl) (by kernel_rfl) fun ls t h ho b hb=>?_
 unfold jgx at h
 split at h
 ·rename_i u4 u0 u6 u5
  cases h
  obtain rfl:=jaD hb
  exact⟨Nat.le_of_ble_eq_true (by kernel_rfl),_,_,jqG u4 u0 u6 u5 _ (jaj ho)⟩
 ·cases h
theorem sp_30_ok {sp:jab} (h:jac Tryz.prog sp):jac Tryz.prog (sp_30 sp):=jag jqH h
end Go.Sh
end

section
namespace Go.Sh
open Go Go.Proofs Go.RowKit Go.Sx
open Go.IntKind (wrap)
def y127:List SV:=[.a [.d,.r (.floats .f32 []),.d,.d],.c (.d)]
def y5 (u4:Int) (u0:List Nat) (u6 u5 u7:Int):Option (Int × Int × Int) :=
 Option.bind (y91 u4 u0 u6 u5 u7) fun r0 =>
 if(wrap .i64 (r0.1+r0.2.2.1)==0)=true then
  some (((0:Int),0,11))
 else
  Option.bind (y27 (wrap .i64 (1000*r0.1)) (wrap .i64 (r0.1+r0.2.2.2))) fun r1 =>
  Option.bind (jbi (wrap .i64 (1000*r0.2.1)) (wrap .i64 (r0.2.1+r0.2.2.1))) fun r2 =>
  some ((r1,r2,0))
def y128:List Lf→Option GT
 |[.d (.i .i64 u4),.r (.floats .f32 u0),.d (.i .i64 u6),.d (.i .i64 u5),.d (.i .i64 u7)]=>some (.leaf (ok (y5 u4 u0 u6 u5 u7)) [.s [.d (.i .i64 ((val (y5 u4 u0 u6 u5 u7)).1)),.d (.i .i64 ((val (y5 u4 u0 u6 u5 u7)).2.1))],.c (.d (.i .i64 ((val (y5 u4 u0 u6 u5 u7)).2.2)))])
 |_=>none
abbrev sp_46:jab→jab:=jas 46 true (jal y127 y128)
def jho (u4:Int) (u0:List Nat) (u6 u5 u7:Int):T (Int × Int × Int) :=
 .call (y91 u4 u0 u6 u5 u7) fun r0 =>
 .brB (wrap .i64 (r0.1+r0.2.2.1)==0)
 (.obT
 (.obT
 (.rc ((((0:Int),0,11))))))
 (.call (y27 (wrap .i64 (1000*r0.1)) (wrap .i64 (r0.1+r0.2.2.2))) fun r1 =>
 .call (jbi (wrap .i64 (1000*r0.2.1)) (wrap .i64 (r0.2.1+r0.2.2.1))) fun r2 =>
 .obT
 (.obT
 (.rc (((r1,r2,0))))))
theorem jgB (u4:Int) (u0:List Nat) (u6 u5 u7:Int) (r:Int × Int × Int) (h:Option.bind (y5 u4 u0 u6 u5 u7) some=some r):jaY Tryz.f46 ((sp_80 (sp_74 (sp_75 sp0)))) (fun _ _ _=>none) (jaO y127 [.d (.i .i64 u4),.r (.floats .f32 u0),.d (.i .i64 u6),.d (.i .i64 u5),.d (.i .i64 u7)]) [.s [.d (.i .i64 r.1),.d (.i .i64 r.2.1)],.c (.d (.i .i64 r.2.2))] :=
 T.vc (t:=jho u4 u0 u6 u5 u7) (by kernel_rfl) (by kernel_rfl) h
theorem jgC:jah Tryz.prog 46 true (jal y127 y128):=by
 refine jau (sp:=(sp_80 (sp_74 (sp_75 sp0)))) (fn:=Tryz.f46) (body:=jai Tryz.f46) mixed (sp_80_ok (sp_74_ok (sp_75_ok jak))) Tryz.func46 (by kernel_rfl) (by kernel_rfl) fun ls t h ho b hb=>?_
 unfold y128 at h
 split at h
 ·rename_i u4 u0 u6 u5 u7
  cases h
  obtain rfl:=jaD hb
  exact⟨Nat.le_of_ble_eq_true (by kernel_rfl),_,_,jgB u4 u0 u6 u5 u7 _ (jaj ho)⟩
 ·cases h
theorem sp_46_ok {sp:jab} (h:jac Tryz.prog sp):jac Tryz.prog (sp_46 sp):=jag jgC h
def jiM:List SV:=[]
def jyn:Option (Int × List Nat) :=
 some (((8000:Int),[(1090519040:Nat),(1082130432:Nat),(1073741824:Nat),(1065353216:Nat),(0:Nat)]))
def jvl:T (Int × List Nat) :=
 .obT
 (.rc ((((8000:Int),[(1090519040:Nat),(1082130432:Nat),(1073741824:Nat),(1065353216:Nat),(0:Nat)]))))
theorem jty (r:Int × List Nat) (h:Option.bind (jyn) some=some r):jaY Tryz.f66 (sp0) (fun _ _ _=>none) (jaO jiM []) [.s [.d (.i .i64 r.1),.row 151 (.floats .f32 r.2)]] :=
 T.vc (t:=jvl) (by kernel_rfl) (by kernel_rfl) h
def jkC:List SV:=[.a [.d,.r (.floats .f32 [])]]
def jeF (u17:Int) (u16:List Nat):Option Bool :=
 if(↑(List.length u16):Int)≤700 then
  some true
 else
  if(↑(List.length u16):Int)>1024 then
  some (decide ((↑(List.length u16):Int)≤1026))
  else
  some false
def jkD:List Lf→Option GT
 |[.d (.i .i64 u17),.r (.floats .f32 u16)]=>some (.leaf (ok (jeF u17 u16)) [.c (.d (.b ((val (jeF u17 u16)))))])
 |_=>none
abbrev sp_16:jab→jab:=jas 16 true (jal jkC jkD)
def jwz (u17:Int) (u16:List Nat):T (Bool) :=
 .brP ((↑(List.length u16):Int)≤700)
 (.obT
 (.rc (true)))
 (.brP ((↑(List.length u16):Int)>1024)
 (.obT
 (.rc ((decide ((↑(List.length u16):Int)≤1026)))))
 (.obT
 (.rc (false))))
theorem jvm (u17:Int) (u16:List Nat) (r:Bool) (h:Option.bind (jeF u17 u16) some=some r):jaY Tryz.f16 (sp0) (fun _ _ _=>none) (jaO jkC [.d (.i .i64 u17),.r (.floats .f32 u16)]) [.c (.d (.b r))] :=
 T.vc (t:=jwz u17 u16) (by kernel_rfl) (by kernel_rfl) h
theorem jvn:jah Tryz.prog 16 true (jal jkC jkD):=by
 refine jau (sp:=sp0) (fn:=Tryz.f16) (body:=jai Tryz.f16) mixed jak Tryz.func16 (by kernel_rfl) (by kernel_rfl) fun ls t h ho b hb=>?_
 unfold jkD at h
 split at h
 ·rename_i u17 u16
  cases h
  obtain rfl:=jaD hb
  exact⟨Nat.le_of_ble_eq_true (by kernel_rfl),_,_,jvm u17 u16 _ (jaj ho)⟩
 ·cases h
theorem sp_16_ok {sp:jab} (h:jac Tryz.prog sp):jac Tryz.prog (sp_16 sp):=jag jvn h
end Go.Sh
end

section
namespace Go.Sh
open Go Go.Proofs Go.RowKit Go.Sx
theorem jax:(true=true):=by decide
theorem jay:(true=true∧true=true):=by decide
theorem jwA:((0:Int)≤1∧(1:Int)<6):=by decide
theorem jn1:((0:Int)≤2∧(2:Int)<6):=by decide
theorem je6:((0:Int)≤3∧(3:Int)<6):=by decide
theorem jbV:((0:Int)≤4∧(4:Int)<6):=by decide
theorem ja4:((0:Int)≤5∧(5:Int)<6):=by decide
def y199:List SV:=[.a [.d,.r (.floats .f32 []),.d,.d]]
def y13 (u4:Int) (u0:List Nat) (u6 u5:Int):Option (Bool × Bool × Bool × Bool × Bool × Bool × Int × Int × Int × Int × Int × Int × Int × Int × Int × Int × Int × Int) :=
 Option.bind (y11 u4 u0 u6 u5 (0:Int)) fun r0 =>
 if(r0.2.2==0)=true then
  Option.bind (y11 u4 u0 u6 u5 (1:Int)) fun r1 =>
  if(r1.2.2==0)=true then
  Option.bind (y11 u4 u0 u6 u5 (2:Int)) fun r2 =>
  if(r2.2.2==0)=true then
   Option.bind (y23 u4 u0 u6 u5 (80000:Int)) fun r3 =>
   if(r3.2.2==0)=true then
   Option.bind (y5 u4 u0 u6 u5 (50000:Int)) fun r4 =>
   if(r4.2.2==0)=true then
    Option.bind (y3 u4 u0 u6 u5) fun r5 =>
    if(r5.2.2==0)=true then
    some ((r0.2.2==0,r1.2.2==0,r2.2.2==0,r3.2.2==0,r4.2.2==0,r5.2.2==0,r0.1,r0.2.1,r1.1,r1.2.1,r2.1,r2.2.1,r3.1,r3.2.1,r4.1,r4.2.1,r5.1,r5.2.1))
    else
    some ((r0.2.2==0,r1.2.2==0,r2.2.2==0,r3.2.2==0,r4.2.2==0,r5.2.2==0,r0.1,r0.2.1,r1.1,r1.2.1,r2.1,r2.2.1,r3.1,r3.2.1,r4.1,r4.2.1,0,0))
   else
    Option.bind (y3 u4 u0 u6 u5) fun r5 =>
    if(r5.2.2==0)=true then
    some ((r0.2.2==0,r1.2.2==0,r2.2.2==0,r3.2.2==0,r4.2.2==0,r5.2.2==0,r0.1,r0.2.1,r1.1,r1.2.1,r2.1,r2.2.1,r3.1,r3.2.1,0,0,r5.1,r5.2.1))
    else
    some ((r0.2.2==0,r1.2.2==0,r2.2.2==0,r3.2.2==0,r4.2.2==0,r5.2.2==0,r0.1,r0.2.1,r1.1,r1.2.1,r2.1,r2.2.1,r3.1,r3.2.1,0,0,0,0))
   else
   Option.bind (y5 u4 u0 u6 u5 (50000:Int)) fun r4 =>
   if(r4.2.2==0)=true then
    Option.bind (y3 u4 u0 u6 u5) fun r5 =>
    if(r5.2.2==0)=true then
    some ((r0.2.2==0,r1.2.2==0,r2.2.2==0,r3.2.2==0,r4.2.2==0,r5.2.2==0,r0.1,r0.2.1,r1.1,r1.2.1,r2.1,r2.2.1,0,0,r4.1,r4.2.1,r5.1,r5.2.1))
    else
    some ((r0.2.2==0,r1.2.2==0,r2.2.2==0,r3.2.2==0,r4.2.2==0,r5.2.2==0,r0.1,r0.2.1,r1.1,r1.2.1,r2.1,r2.2.1,0,0,r4.1,r4.2.1,0,0))
   else
    Option.bind (y3 u4 u0 u6 u5) fun r5 =>
    if(r5.2.2==0)=true then
    some ((r0.2.2==0,r1.2.2==0,r2.2.2==0,r3.2.2==0,r4.2.2==0,r5.2.2==0,r0.1,r0.2.1,r1.1,r1.2.1,r2.1,r2.2.1,0,0,0,0,r5.1,r5.2.1))
    else
    some ((r0.2.2==0,r1.2.2==0,r2.2.2==0,r3.2.2==0,r4.2.2==0,r5.2.2==0,r0.1,r0.2.1,r1.1,r1.2.1,r2.1,r2.2.1,0,0,0,0,0,0))
  else
   Option.bind (y23 u4 u0 u6 u5 (80000:Int)) fun r3 =>
   if(r3.2.2==0)=true then
   Option.bind (y5 u4 u0 u6 u5 (50000:Int)) fun r4 =>
   if(r4.2.2==0)=true then
    Option.bind (y3 u4 u0 u6 u5) fun r5 =>
    if(r5.2.2==0)=true then
    some ((r0.2.2==0,r1.2.2==0,r2.2.2==0,r3.2.2==0,r4.2.2==0,r5.2.2==0,r0.1,r0.2.1,r1.1,r1.2.1,0,0,r3.1,r3.2.1,r4.1,r4.2.1,r5.1,r5.2.1))
    else
    some ((r0.2.2==0,r1.2.2==0,r2.2.2==0,r3.2.2==0,r4.2.2==0,r5.2.2==0,r0.1,r0.2.1,r1.1,r1.2.1,0,0,r3.1,r3.2.1,r4.1,r4.2.1,0,0))
   else
    Option.bind (y3 u4 u0 u6 u5) fun r5 =>
    if(r5.2.2==0)=true then
    some ((r0.2.2==0,r1.2.2==0,r2.2.2==0,r3.2.2==0,r4.2.2==0,r5.2.2==0,r0.1,r0.2.1,r1.1,r1.2.1,0,0,r3.1,r3.2.1,0,0,r5.1,r5.2.1))
    else
    some ((r0.2.2==0,r1.2.2==0,r2.2.2==0,r3.2.2==0,r4.2.2==0,r5.2.2==0,r0.1,r0.2.1,r1.1,r1.2.1,0,0,r3.1,r3.2.1,0,0,0,0))
   else
   Option.bind (y5 u4 u0 u6 u5 (50000:Int)) fun r4 =>
   if(r4.2.2==0)=true then
    Option.bind (y3 u4 u0 u6 u5) fun r5 =>
    if(r5.2.2==0)=true then
    some ((r0.2.2==0,r1.2.2==0,r2.2.2==0,r3.2.2==0,r4.2.2==0,r5.2.2==0,r0.1,r0.2.1,r1.1,r1.2.1,0,0,0,0,r4.1,r4.2.1,r5.1,r5.2.1))
    else
    some ((r0.2.2==0,r1.2.2==0,r2.2.2==0,r3.2.2==0,r4.2.2==0,r5.2.2==0,r0.1,r0.2.1,r1.1,r1.2.1,0,0,0,0,r4.1,r4.2.1,0,0))
   else
    Option.bind (y3 u4 u0 u6 u5) fun r5 =>
    if(r5.2.2==0)=true then
    some ((r0.2.2==0,r1.2.2==0,r2.2.2==0,r3.2.2==0,r4.2.2==0,r5.2.2==0,r0.1,r0.2.1,r1.1,r1.2.1,0,0,0,0,0,0,r5.1,r5.2.1))
    else
    some ((r0.2.2==0,r1.2.2==0,r2.2.2==0,r3.2.2==0,r4.2.2==0,r5.2.2==0,r0.1,r0.2.1,r1.1,r1.2.1,0,0,0,0,0,0,0,0))
  else
  Option.bind (y11 u4 u0 u6 u5 (2:Int)) fun r2 =>
  if(r2.2.2==0)=true then
   Option.bind (y23 u4 u0 u6 u5 (80000:Int)) fun r3 =>
   if(r3.2.2==0)=true then
   Option.bind (y5 u4 u0 u6 u5 (50000:Int)) fun r4 =>
   if(r4.2.2==0)=true then
    Option.bind (y3 u4 u0 u6 u5) fun r5 =>
    if(r5.2.2==0)=true then
    some ((r0.2.2==0,r1.2.2==0,r2.2.2==0,r3.2.2==0,r4.2.2==0,r5.2.2==0,r0.1,r0.2.1,0,0,r2.1,r2.2.1,r3.1,r3.2.1,r4.1,r4.2.1,r5.1,r5.2.1))
    else
    some ((r0.2.2==0,r1.2.2==0,r2.2.2==0,r3.2.2==0,r4.2.2==0,r5.2.2==0,r0.1,r0.2.1,0,0,r2.1,r2.2.1,r3.1,r3.2.1,r4.1,r4.2.1,0,0))
   else
    Option.bind (y3 u4 u0 u6 u5) fun r5 =>
    if(r5.2.2==0)=true then
    some ((r0.2.2==0,r1.2.2==0,r2.2.2==0,r3.2.2==0,r4.2.2==0,r5.2.2==0,r0.1,r0.2.1,0,0,r2.1,r2.2.1,r3.1,r3.2.1,0,0,r5.1,r5.2.1))
    else
    some ((r0.2.2==0,r1.2.2==0,r2.2.2==0,r3.2.2==0,r4.2.2==0,r5.2.2==0,r0.1,r0.2.1,0,0,r2.1,r2.2.1,r3.1,r3.2.1,0,0,0,0))
   else
   Option.bind (y5 u4 u0 u6 u5 (50000:Int)) fun r4 =>
   if(r4.2.2==0)=true then
    Option.bind (y3 u4 u0 u6 u5) fun r5 =>
    if(r5.2.2==0)=true then
    some ((r0.2.2==0,r1.2.2==0,r2.2.2==0,r3.2.2==0,r4.2.2==0,r5.2.2==0,r0.1,r0.2.1,0,0,r2.1,r2.2.1,0,0,r4.1,r4.2.1,r5.1,r5.2.1))
    else
    some ((r0.2.2==0,r1.2.2==0,r2.2.2==0,r3.2.2==0,r4.2.2==0,r5.2.2==0,r0.1,r0.2.1,0,0,r2.1,r2.2.1,0,0,r4.1,r4.2.1,0,0))
   else
    Option.bind (y3 u4 u0 u6 u5) fun r5 =>
    if(r5.2.2==0)=true then
    some ((r0.2.2==0,r1.2.2==0,r2.2.2==0,r3.2.2==0,r4.2.2==0,r5.2.2==0,r0.1,r0.2.1,0,0,r2.1,r2.2.1,0,0,0,0,r5.1,r5.2.1))
    else
    some ((r0.2.2==0,r1.2.2==0,r2.2.2==0,r3.2.2==0,r4.2.2==0,r5.2.2==0,r0.1,r0.2.1,0,0,r2.1,r2.2.1,0,0,0,0,0,0))
  else
   Option.bind (y23 u4 u0 u6 u5 (80000:Int)) fun r3 =>
   if(r3.2.2==0)=true then
   Option.bind (y5 u4 u0 u6 u5 (50000:Int)) fun r4 =>
   if(r4.2.2==0)=true then
    Option.bind (y3 u4 u0 u6 u5) fun r5 =>
    if(r5.2.2==0)=true then
    some ((r0.2.2==0,r1.2.2==0,r2.2.2==0,r3.2.2==0,r4.2.2==0,r5.2.2==0,r0.1,r0.2.1,0,0,0,0,r3.1,r3.2.1,r4.1,r4.2.1,r5.1,r5.2.1))
    else
    some ((r0.2.2==0,r1.2.2==0,r2.2.2==0,r3.2.2==0,r4.2.2==0,r5.2.2==0,r0.1,r0.2.1,0,0,0,0,r3.1,r3.2.1,r4.1,r4.2.1,0,0))
   else
    Option.bind (y3 u4 u0 u6 u5) fun r5 =>
    if(r5.2.2==0)=true then
    some ((r0.2.2==0,r1.2.2==0,r2.2.2==0,r3.2.2==0,r4.2.2==0,r5.2.2==0,r0.1,r0.2.1,0,0,0,0,r3.1,r3.2.1,0,0,r5.1,r5.2.1))
    else
    some ((r0.2.2==0,r1.2.2==0,r2.2.2==0,r3.2.2==0,r4.2.2==0,r5.2.2==0,r0.1,r0.2.1,0,0,0,0,r3.1,r3.2.1,0,0,0,0))
   else
   Option.bind (y5 u4 u0 u6 u5 (50000:Int)) fun r4 =>
   if(r4.2.2==0)=true then
    Option.bind (y3 u4 u0 u6 u5) fun r5 =>
    if(r5.2.2==0)=true then
    some ((r0.2.2==0,r1.2.2==0,r2.2.2==0,r3.2.2==0,r4.2.2==0,r5.2.2==0,r0.1,r0.2.1,0,0,0,0,0,0,r4.1,r4.2.1,r5.1,r5.2.1))
    else
    some ((r0.2.2==0,r1.2.2==0,r2.2.2==0,r3.2.2==0,r4.2.2==0,r5.2.2==0,r0.1,r0.2.1,0,0,0,0,0,0,r4.1,r4.2.1,0,0))
   else
    Option.bind (y3 u4 u0 u6 u5) fun r5 =>
    if(r5.2.2==0)=true then
    some ((r0.2.2==0,r1.2.2==0,r2.2.2==0,r3.2.2==0,r4.2.2==0,r5.2.2==0,r0.1,r0.2.1,0,0,0,0,0,0,0,0,r5.1,r5.2.1))
    else
    some ((r0.2.2==0,r1.2.2==0,r2.2.2==0,r3.2.2==0,r4.2.2==0,r5.2.2==0,r0.1,r0.2.1,0,0,0,0,0,0,0,0,0,0))
 else
  Option.bind (y11 u4 u0 u6 u5 (1:Int)) fun r1 =>
  if(r1.2.2==0)=true then
  Option.bind (y11 u4 u0 u6 u5 (2:Int)) fun r2 =>
  if(r2.2.2==0)=true then
   Option.bind (y23 u4 u0 u6 u5 (80000:Int)) fun r3 =>
   if(r3.2.2==0)=true then
   Option.bind (y5 u4 u0 u6 u5 (50000:Int)) fun r4 =>
   if(r4.2.2==0)=true then
    Option.bind (y3 u4 u0 u6 u5) fun r5 =>
    if(r5.2.2==0)=true then
    some ((r0.2.2==0,r1.2.2==0,r2.2.2==0,r3.2.2==0,r4.2.2==0,r5.2.2==0,0,0,r1.1,r1.2.1,r2.1,r2.2.1,r3.1,r3.2.1,r4.1,r4.2.1,r5.1,r5.2.1))
    else
    some ((r0.2.2==0,r1.2.2==0,r2.2.2==0,r3.2.2==0,r4.2.2==0,r5.2.2==0,0,0,r1.1,r1.2.1,r2.1,r2.2.1,r3.1,r3.2.1,r4.1,r4.2.1,0,0))
   else
    Option.bind (y3 u4 u0 u6 u5) fun r5 =>
    if(r5.2.2==0)=true then
    some ((r0.2.2==0,r1.2.2==0,r2.2.2==0,r3.2.2==0,r4.2.2==0,r5.2.2==0,0,0,r1.1,r1.2.1,r2.1,r2.2.1,r3.1,r3.2.1,0,0,r5.1,r5.2.1))
    else
    some ((r0.2.2==0,r1.2.2==0,r2.2.2==0,r3.2.2==0,r4.2.2==0,r5.2.2==0,0,0,r1.1,r1.2.1,r2.1,r2.2.1,r3.1,r3.2.1,0,0,0,0))
   else
   Option.bind (y5 u4 u0 u6 u5 (50000:Int)) fun r4 =>
   if(r4.2.2==0)=true then
    Option.bind (y3 u4 u0 u6 u5) fun r5 =>
    if(r5.2.2==0)=true then
    some ((r0.2.2==0,r1.2.2==0,r2.2.2==0,r3.2.2==0,r4.2.2==0,r5.2.2==0,0,0,r1.1,r1.2.1,r2.1,r2.2.1,0,0,r4.1,r4.2.1,r5.1,r5.2.1))
    else
    some ((r0.2.2==0,r1.2.2==0,r2.2.2==0,r3.2.2==0,r4.2.2==0,r5.2.2==0,0,0,r1.1,r1.2.1,r2.1,r2.2.1,0,0,r4.1,r4.2.1,0,0))
   else
    Option.bind (y3 u4 u0 u6 u5) fun r5 =>
    if(r5.2.2==0)=true then
    some ((r0.2.2==0,r1.2.2==0,r2.2.2==0,r3.2.2==0,r4.2.2==0,r5.2.2==0,0,0,r1.1,r1.2.1,r2.1,r2.2.1,0,0,0,0,r5.1,r5.2.1))
    else
    some ((r0.2.2==0,r1.2.2==0,r2.2.2==0,r3.2.2==0,r4.2.2==0,r5.2.2==0,0,0,r1.1,r1.2.1,r2.1,r2.2.1,0,0,0,0,0,0))
  else
   Option.bind (y23 u4 u0 u6 u5 (80000:Int)) fun r3 =>
   if(r3.2.2==0)=true then
   Option.bind (y5 u4 u0 u6 u5 (50000:Int)) fun r4 =>
   if(r4.2.2==0)=true then
    Option.bind (y3 u4 u0 u6 u5) fun r5 =>
    if(r5.2.2==0)=true then
    some ((r0.2.2==0,r1.2.2==0,r2.2.2==0,r3.2.2==0,r4.2.2==0,r5.2.2==0,0,0,r1.1,r1.2.1,0,0,r3.1,r3.2.1,r4.1,r4.2.1,r5.1,r5.2.1))
    else
    some ((r0.2.2==0,r1.2.2==0,r2.2.2==0,r3.2.2==0,r4.2.2==0,r5.2.2==0,0,0,r1.1,r1.2.1,0,0,r3.1,r3.2.1,r4.1,r4.2.1,0,0))
   else
    Option.bind (y3 u4 u0 u6 u5) fun r5 =>
    if(r5.2.2==0)=true then
    some ((r0.2.2==0,r1.2.2==0,r2.2.2==0,r3.2.2==0,r4.2.2==0,r5.2.2==0,0,0,r1.1,r1.2.1,0,0,r3.1,r3.2.1,0,0,r5.1,r5.2.1))
    else
    some ((r0.2.2==0,r1.2.2==0,r2.2.2==0,r3.2.2==0,r4.2.2==0,r5.2.2==0,0,0,r1.1,r1.2.1,0,0,r3.1,r3.2.1,0,0,0,0))
   else
   Option.bind (y5 u4 u0 u6 u5 (50000:Int)) fun r4 =>
   if(r4.2.2==0)=true then
    Option.bind (y3 u4 u0 u6 u5) fun r5 =>
    if(r5.2.2==0)=true then
    some ((r0.2.2==0,r1.2.2==0,r2.2.2==0,r3.2.2==0,r4.2.2==0,r5.2.2==0,0,0,r1.1,r1.2.1,0,0,0,0,r4.1,r4.2.1,r5.1,r5.2.1))
    else
    some ((r0.2.2==0,r1.2.2==0,r2.2.2==0,r3.2.2==0,r4.2.2==0,r5.2.2==0,0,0,r1.1,r1.2.1,0,0,0,0,r4.1,r4.2.1,0,0))
   else
    Option.bind (y3 u4 u0 u6 u5) fun r5 =>
    if(r5.2.2==0)=true then
    some ((r0.2.2==0,r1.2.2==0,r2.2.2==0,r3.2.2==0,r4.2.2==0,r5.2.2==0,0,0,r1.1,r1.2.1,0,0,0,0,0,0,r5.1,r5.2.1))
    else
    some ((r0.2.2==0,r1.2.2==0,r2.2.2==0,r3.2.2==0,r4.2.2==0,r5.2.2==0,0,0,r1.1,r1.2.1,0,0,0,0,0,0,0,0))
  else
  Option.bind (y11 u4 u0 u6 u5 (2:Int)) fun r2 =>
  if(r2.2.2==0)=true then
   Option.bind (y23 u4 u0 u6 u5 (80000:Int)) fun r3 =>
   if(r3.2.2==0)=true then
   Option.bind (y5 u4 u0 u6 u5 (50000:Int)) fun r4 =>
   if(r4.2.2==0)=true then
    Option.bind (y3 u4 u0 u6 u5) fun r5 =>
    if(r5.2.2==0)=true then
    some ((r0.2.2==0,r1.2.2==0,r2.2.2==0,r3.2.2==0,r4.2.2==0,r5.2.2==0,0,0,0,0,r2.1,r2.2.1,r3.1,r3.2.1,r4.1,r4.2.1,r5.1,r5.2.1))
    else
    some ((r0.2.2==0,r1.2.2==0,r2.2.2==0,r3.2.2==0,r4.2.2==0,r5.2.2==0,0,0,0,0,r2.1,r2.2.1,r3.1,r3.2.1,r4.1,r4.2.1,0,0))
   else
    Option.bind (y3 u4 u0 u6 u5) fun r5 =>
    if(r5.2.2==0)=true then
    some ((r0.2.2==0,r1.2.2==0,r2.2.2==0,r3.2.2==0,r4.2.2==0,r5.2.2==0,0,0,0,0,r2.1,r2.2.1,r3.1,r3.2.1,0,0,r5.1,r5.2.1))
    else
    some ((r0.2.2==0,r1.2.2==0,r2.2.2==0,r3.2.2==0,r4.2.2==0,r5.2.2==0,0,0,0,0,r2.1,r2.2.1,r3.1,r3.2.1,0,0,0,0))
   else
   Option.bind (y5 u4 u0 u6 u5 (50000:Int)) fun r4 =>
   if(r4.2.2==0)=true then
    Option.bind (y3 u4 u0 u6 u5) fun r5 =>
    if(r5.2.2==0)=true then
    some ((r0.2.2==0,r1.2.2==0,r2.2.2==0,r3.2.2==0,r4.2.2==0,r5.2.2==0,0,0,0,0,r2.1,r2.2.1,0,0,r4.1,r4.2.1,r5.1,r5.2.1))
    else
    some ((r0.2.2==0,r1.2.2==0,r2.2.2==0,r3.2.2==0,r4.2.2==0,r5.2.2==0,0,0,0,0,r2.1,r2.2.1,0,0,r4.1,r4.2.1,0,0))
   else
    Option.bind (y3 u4 u0 u6 u5) fun r5 =>
    if(r5.2.2==0)=true then
    some ((r0.2.2==0,r1.2.2==0,r2.2.2==0,r3.2.2==0,r4.2.2==0,r5.2.2==0,0,0,0,0,r2.1,r2.2.1,0,0,0,0,r5.1,r5.2.1))
    else
    some ((r0.2.2==0,r1.2.2==0,r2.2.2==0,r3.2.2==0,r4.2.2==0,r5.2.2==0,0,0,0,0,r2.1,r2.2.1,0,0,0,0,0,0))
  else
   Option.bind (y23 u4 u0 u6 u5 (80000:Int)) fun r3 =>
   if(r3.2.2==0)=true then
   Option.bind (y5 u4 u0 u6 u5 (50000:Int)) fun r4 =>
   if(r4.2.2==0)=true then
    Option.bind (y3 u4 u0 u6 u5) fun r5 =>
    if(r5.2.2==0)=true then
    some ((r0.2.2==0,r1.2.2==0,r2.2.2==0,r3.2.2==0,r4.2.2==0,r5.2.2==0,0,0,0,0,0,0,r3.1,r3.2.1,r4.1,r4.2.1,r5.1,r5.2.1))
    else
    some ((r0.2.2==0,r1.2.2==0,r2.2.2==0,r3.2.2==0,r4.2.2==0,r5.2.2==0,0,0,0,0,0,0,r3.1,r3.2.1,r4.1,r4.2.1,0,0))
   else
    Option.bind (y3 u4 u0 u6 u5) fun r5 =>
    if(r5.2.2==0)=true then
    some ((r0.2.2==0,r1.2.2==0,r2.2.2==0,r3.2.2==0,r4.2.2==0,r5.2.2==0,0,0,0,0,0,0,r3.1,r3.2.1,0,0,r5.1,r5.2.1))
    else
    some ((r0.2.2==0,r1.2.2==0,r2.2.2==0,r3.2.2==0,r4.2.2==0,r5.2.2==0,0,0,0,0,0,0,r3.1,r3.2.1,0,0,0,0))
   else
   Option.bind (y5 u4 u0 u6 u5 (50000:Int)) fun r4 =>
   if(r4.2.2==0)=true then
    Option.bind (y3 u4 u0 u6 u5) fun r5 =>
    if(r5.2.2==0)=true then
    some ((r0.2.2==0,r1.2.2==0,r2.2.2==0,r3.2.2==0,r4.2.2==0,r5.2.2==0,0,0,0,0,0,0,0,0,r4.1,r4.2.1,r5.1,r5.2.1))
    else
    some ((r0.2.2==0,r1.2.2==0,r2.2.2==0,r3.2.2==0,r4.2.2==0,r5.2.2==0,0,0,0,0,0,0,0,0,r4.1,r4.2.1,0,0))
   else
    Option.bind (y3 u4 u0 u6 u5) fun r5 =>
    if(r5.2.2==0)=true then
    some ((r0.2.2==0,r1.2.2==0,r2.2.2==0,r3.2.2==0,r4.2.2==0,r5.2.2==0,0,0,0,0,0,0,0,0,0,0,r5.1,r5.2.1))
    else
    some ((r0.2.2==0,r1.2.2==0,r2.2.2==0,r3.2.2==0,r4.2.2==0,r5.2.2==0,0,0,0,0,0,0,0,0,0,0,0,0))
def y200:List Lf→Option GT
 |[.d (.i .i64 u4),.r (.floats .f32 u0),.d (.i .i64 u6),.d (.i .i64 u5)]=>some (.leaf (ok (y13 u4 u0 u6 u5)) [.s [.d (.b ((val (y13 u4 u0 u6 u5)).1)),.d (.b ((val (y13 u4 u0 u6 u5)).2.1)),.d (.b ((val (y13 u4 u0 u6 u5)).2.2.1)),.d (.b ((val (y13 u4 u0 u6 u5)).2.2.2.1)),.d (.b ((val (y13 u4 u0 u6 u5)).2.2.2.2.1)),.d (.b ((val (y13 u4 u0 u6 u5)).2.2.2.2.2.1)),.d (.i .i64 ((val (y13 u4 u0 u6 u5)).2.2.2.2.2.2.1)),.d (.i .i64 ((val (y13 u4 u0 u6 u5)).2.2.2.2.2.2.2.1)),.d (.i .i64 ((val (y13 u4 u0 u6 u5)).2.2.2.2.2.2.2.2.1)),.d (.i .i64 ((val (y13 u4 u0 u6 u5)).2.2.2.2.2.2.2.2.2.1)),.d (.i .i64 ((val (y13 u4 u0 u6 u5)).2.2.2.2.2.2.2.2.2.2.1)),.d (.i .i64 ((val (y13 u4 u0 u6 u5)).2.2.2.2.2.2.2.2.2.2.2.1)),.d (.i .i64 ((val (y13 u4 u0 u6 u5)).2.2.2.2.2.2.2.2.2.2.2.2.1)),.d (.i .i64 ((val (y13 u4 u0 u6 u5)).2.2.2.2.2.2.2.2.2.2.2.2.2.1)),.d (.i .i64 ((val (y13 u4 u0 u6 u5)).2.2.2.2.2.2.2.2.2.2.2.2.2.2.1)),.d (.i .i64 ((val (y13 u4 u0 u6 u5)).2.2.2.2.2.2.2.2.2.2.2.2.2.2.2.1)),.d (.i .i64 ((val (y13 u4 u0 u6 u5)).2.2.2.2.2.2.2.2.2.2.2.2.2.2.2.2.1)),.d (.i .i64 ((val (y13 u4 u0 u6 u5)).2.2.2.2.2.2.2.2.2.2.2.2.2.2.2.2.2))]])
 |_=>none
abbrev sp_63:jab→jab:=jas 63 true (jal y199 y200)
abbrev ja5  := ((0:Int)≤5∧(5:Int)<6)
abbrev jbW  := ((0:Int)≤4∧(4:Int)<6)
abbrev je7  := ((0:Int)≤3∧(3:Int)<6)
abbrev jbX (u4:Int) (u0:List Nat) (u6 u5:Int):=(y5 u4 u0 u6 u5 (50000:Int))
def jn2 (u4:Int) (u0:List Nat) (u6 u5:Int):T (Bool × Bool × Bool × Bool × Bool × Bool × Int × Int × Int × Int × Int × Int × Int × Int × Int × Int × Int × Int) :=
 .call (y11 u4 u0 u6 u5 (0:Int)) fun r0 =>
 .obC ((0:Int)≤0∧(0:Int)<6) (by decide)
 (.obC _ jax
 (.brB (r0.2.2==0)
 (.obC ((0:Int)≤0∧(0:Int)<6) (by decide)
 (.obC _ jay
 (.call (y11 u4 u0 u6 u5 (1:Int)) fun r1 =>
 .obC ((0:Int)≤1∧(1:Int)<6) (by decide)
 (.obC _ jax
 (.brB (r1.2.2==0)
 (.obC _ jwA
 (.obC _ jay
 (.call (y11 u4 u0 u6 u5 (2:Int)) fun r2 =>
 .obC ((0:Int)≤2∧(2:Int)<6) (by decide)
 (.obC _ jax
 (.brB (r2.2.2==0)
 (.obC _ jn1
 (.obC _ jay
 (.call (y23 u4 u0 u6 u5 (80000:Int)) fun r3 =>
 .obC (je7) (by decide)
 (.obC _ jax
 (.brB (r3.2.2==0)
 (.obC _ je6
 (.obC _ jay
 (.call (jbX u4 u0 u6 u5) fun r4 =>
 .obC (jbW) (by decide)
 (.obC _ jax
 (.brB (r4.2.2==0)
 (.obC _ jbV
 (.obC _ jay
 (.call (y3 u4 u0 u6 u5) fun r5 =>
 .obC (ja5) (by decide)
 (.obC _ jax
 (.brB (r5.2.2==0)
 (.obC _ ja4
 (.obC _ jay
 (.obT
 (.rc (((r0.2.2==0,r1.2.2==0,r2.2.2==0,r3.2.2==0,r4.2.2==0,r5.2.2==0,r0.1,r0.2.1,r1.1,r1.2.1,r2.1,r2.2.1,r3.1,r3.2.1,r4.1,r4.2.1,r5.1,r5.2.1)))))))
 (.obT
 (.rc (((r0.2.2==0,r1.2.2==0,r2.2.2==0,r3.2.2==0,r4.2.2==0,r5.2.2==0,r0.1,r0.2.1,r1.1,r1.2.1,r2.1,r2.2.1,r3.1,r3.2.1,r4.1,r4.2.1,0,0))))))))))
 (.call (y3 u4 u0 u6 u5) fun r5 =>
 .obC (ja5) (by decide)
 (.obC _ jax
 (.brB (r5.2.2==0)
 (.obC _ ja4
 (.obC _ jay
 (.obT
 (.rc (((r0.2.2==0,r1.2.2==0,r2.2.2==0,r3.2.2==0,r4.2.2==0,r5.2.2==0,r0.1,r0.2.1,r1.1,r1.2.1,r2.1,r2.2.1,r3.1,r3.2.1,0,0,r5.1,r5.2.1)))))))
 (.obT
 (.rc (((r0.2.2==0,r1.2.2==0,r2.2.2==0,r3.2.2==0,r4.2.2==0,r5.2.2==0,r0.1,r0.2.1,r1.1,r1.2.1,r2.1,r2.2.1,r3.1,r3.2.1,0,0,0,0)))))))))))))
 (.call (jbX u4 u0 u6 u5) fun r4 =>
 .obC (jbW) (by decide)
 (.obC _ jax
 (.brB (r4.2.2==0)
 (.obC _ jbV
 (.obC _ jay
 (.call (y3 u4 u0 u6 u5) fun r5 =>
 .obC (ja5) (by decide)
 (.obC _ jax
 (.brB (r5.2.2==0)
 (.obC _ ja4
 (.obC _ jay
 (.obT
 (.rc (((r0.2.2==0,r1.2.2==0,r2.2.2==0,r3.2.2==0,r4.2.2==0,r5.2.2==0,r0.1,r0.2.1,r1.1,r1.2.1,r2.1,r2.2.1,0,0,r4.1,r4.2.1,r5.1,r5.2.1)))))))
 (.obT
 (.rc (((r0.2.2==0,r1.2.2==0,r2.2.2==0,r3.2.2==0,r4.2.2==0,r5.2.2==0,r0.1,r0.2.1,r1.1,r1.2.1,r2.1,r2.2.1,0,0,r4.1,r4.2.1,0,0))))))))))
 (.call (y3 u4 u0 u6 u5) fun r5 =>
 .obC (ja5) (by decide)
 (.obC _ jax
 (.brB (r5.2.2==0)
 (.obC _ ja4
 (.obC _ jay
 (.obT
 (.rc (((r0.2.2==0,r1.2.2==0,r2.2.2==0,r3.2.2==0,r4.2.2==0,r5.2.2==0,r0.1,r0.2.1,r1.1,r1.2.1,r2.1,r2.2.1,0,0,0,0,r5.1,r5.2.1)))))))
 (.obT
 (.rc (((r0.2.2==0,r1.2.2==0,r2.2.2==0,r3.2.2==0,r4.2.2==0,r5.2.2==0,r0.1,r0.2.1,r1.1,r1.2.1,r2.1,r2.2.1,0,0,0,0,0,0))))))))))))))))
 (.call (y23 u4 u0 u6 u5 (80000:Int)) fun r3 =>
 .obC (je7) (by decide)
 (.obC _ jax
 (.brB (r3.2.2==0)
 (.obC _ je6
 (.obC _ jay
 (.call (jbX u4 u0 u6 u5) fun r4 =>
 .obC (jbW) (by decide)
 (.obC _ jax
 (.brB (r4.2.2==0)
 (.obC _ jbV
 (.obC _ jay
 (.call (y3 u4 u0 u6 u5) fun r5 =>
 .obC (ja5) (by decide)
 (.obC _ jax
 (.brB (r5.2.2==0)
 (.obC _ ja4
 (.obC _ jay
 (.obT
 (.rc (((r0.2.2==0,r1.2.2==0,r2.2.2==0,r3.2.2==0,r4.2.2==0,r5.2.2==0,r0.1,r0.2.1,r1.1,r1.2.1,0,0,r3.1,r3.2.1,r4.1,r4.2.1,r5.1,r5.2.1)))))))
 (.obT
 (.rc (((r0.2.2==0,r1.2.2==0,r2.2.2==0,r3.2.2==0,r4.2.2==0,r5.2.2==0,r0.1,r0.2.1,r1.1,r1.2.1,0,0,r3.1,r3.2.1,r4.1,r4.2.1,0,0))))))))))
 (.call (y3 u4 u0 u6 u5) fun r5 =>
 .obC (ja5) (by decide)
 (.obC _ jax
 (.brB (r5.2.2==0)
 (.obC _ ja4
 (.obC _ jay
 (.obT
 (.rc (((r0.2.2==0,r1.2.2==0,r2.2.2==0,r3.2.2==0,r4.2.2==0,r5.2.2==0,r0.1,r0.2.1,r1.1,r1.2.1,0,0,r3.1,r3.2.1,0,0,r5.1,r5.2.1)))))))
 (.obT
 (.rc (((r0.2.2==0,r1.2.2==0,r2.2.2==0,r3.2.2==0,r4.2.2==0,r5.2.2==0,r0.1,r0.2.1,r1.1,r1.2.1,0,0,r3.1,r3.2.1,0,0,0,0)))))))))))))
 (.call (jbX u4 u0 u6 u5) fun r4 =>
 .obC (jbW) (by decide)
 (.obC _ jax
 (.brB (r4.2.2==0)
 (.obC _ jbV
 (.obC _ jay
 (.call (y3 u4 u0 u6 u5) fun r5 =>
 .obC (ja5) (by decide)
 (.obC _ jax
 (.brB (r5.2.2==0)
 (.obC _ ja4
 (.obC _ jay
 (.obT
 (.rc (((r0.2.2==0,r1.2.2==0,r2.2.2==0,r3.2.2==0,r4.2.2==0,r5.2.2==0,r0.1,r0.2.1,r1.1,r1.2.1,0,0,0,0,r4.1,r4.2.1,r5.1,r5.2.1)))))))
 (.obT
 (.rc (((r0.2.2==0,r1.2.2==0,r2.2.2==0,r3.2.2==0,r4.2.2==0,r5.2.2==0,r0.1,r0.2.1,r1.1,r1.2.1,0,0,0,0,r4.1,r4.2.1,0,0))))))))))
 (.call (y3 u4 u0 u6 u5) fun r5 =>
 .obC (ja5) (by decide)
 (.obC _ jax
 (.brB (r5.2.2==0)
 (.obC _ ja4
 (.obC _ jay
 (.obT
 (.rc (((r0.2.2==0,r1.2.2==0,r2.2.2==0,r3.2.2==0,r4.2.2==0,r5.2.2==0,r0.1,r0.2.1,r1.1,r1.2.1,0,0,0,0,0,0,r5.1,r5.2.1)))))))
 (.obT
 (.rc (((r0.2.2==0,r1.2.2==0,r2.2.2==0,r3.2.2==0,r4.2.2==0,r5.2.2==0,r0.1,r0.2.1,r1.1,r1.2.1,0,0,0,0,0,0,0,0)))))))))))))))))))
 (.call (y11 u4 u0 u6 u5 (2:Int)) fun r2 =>
 .obC ((0:Int)≤2∧(2:Int)<6) (by decide)
 (.obC _ jax
 (.brB (r2.2.2==0)
 (.obC _ jn1
 (.obC _ jay
 (.call (y23 u4 u0 u6 u5 (80000:Int)) fun r3 =>
 .obC (je7) (by decide)
 (.obC _ jax
 (.brB (r3.2.2==0)
 (.obC _ je6
 (.obC _ jay
 (.call (jbX u4 u0 u6 u5) fun r4 =>
 .obC (jbW) (by decide)
 (.obC _ jax
 (.brB (r4.2.2==0)
 (.obC _ jbV
 (.obC _ jay
 (.call (y3 u4 u0 u6 u5) fun r5 =>
 .obC (ja5) (by decide)
 (.obC _ jax
 (.brB (r5.2.2==0)
 (.obC _ ja4
 (.obC _ jay
 (.obT
 (.rc (((r0.2.2==0,r1.2.2==0,r2.2.2==0,r3.2.2==0,r4.2.2==0,r5.2.2==0,r0.1,r0.2.1,0,0,r2.1,r2.2.1,r3.1,r3.2.1,r4.1,r4.2.1,r5.1,r5.2.1)))))))
 (.obT
 (.rc (((r0.2.2==0,r1.2.2==0,r2.2.2==0,r3.2.2==0,r4.2.2==0,r5.2.2==0,r0.1,r0.2.1,0,0,r2.1,r2.2.1,r3.1,r3.2.1,r4.1,r4.2.1,0,0))))))))))
 (.call (y3 u4 u0 u6 u5) fun r5 =>
 .obC (ja5) (by decide)
 (.obC _ jax
 (.brB (r5.2.2==0)
 (.obC _ ja4
 (.obC _ jay
 (.obT
 (.rc (((r0.2.2==0,r1.2.2==0,r2.2.2==0,r3.2.2==0,r4.2.2==0,r5.2.2==0,r0.1,r0.2.1,0,0,r2.1,r2.2.1,r3.1,r3.2.1,0,0,r5.1,r5.2.1)))))))
 (.obT
 (.rc (((r0.2.2==0,r1.2.2==0,r2.2.2==0,r3.2.2==0,r4.2.2==0,r5.2.2==0,r0.1,r0.2.1,0,0,r2.1,r2.2.1,r3.1,r3.2.1,0,0,0,0)))))))))))))
 (.call (jbX u4 u0 u6 u5) fun r4 =>
 .obC (jbW) (by decide)
 (.obC _ jax
 (.brB (r4.2.2==0)
 (.obC _ jbV
 (.obC _ jay
 (.call (y3 u4 u0 u6 u5) fun r5 =>
 .obC (ja5) (by decide)
 (.obC _ jax
 (.brB (r5.2.2==0)
 (.obC _ ja4
 (.obC _ jay
 (.obT
 (.rc (((r0.2.2==0,r1.2.2==0,r2.2.2==0,r3.2.2==0,r4.2.2==0,r5.2.2==0,r0.1,r0.2.1,0,0,r2.1,r2.2.1,0,0,r4.1,r4.2.1,r5.1,r5.2.1)))))))
 (.obT
 (.rc (((r0.2.2==0,r1.2.2==0,r2.2.2==0,r3.2.2==0,r4.2.2==0,r5.2.2==0,r0.1,r0.2.1,0,0,r2.1,r2.2.1,0,0,r4.1,r4.2.1,0,0))))))))))
 (.call (y3 u4 u0 u6 u5) fun r5 =>
 .obC (ja5) (by decide)
 (.obC _ jax
 (.brB (r5.2.2==0)
 (.obC _ ja4
 (.obC _ jay
 (.obT
 (.rc (((r0.2.2==0,r1.2.2==0,r2.2.2==0,r3.2.2==0,r4.2.2==0,r5.2.2==0,r0.1,r0.2.1,0,0,r2.1,r2.2.1,0,0,0,0,r5.1,r5.2.1)))))))
 (.obT
 (.rc (((r0.2.2==0,r1.2.2==0,r2.2.2==0,r3.2.2==0,r4.2.2==0,r5.2.2==0,r0.1,r0.2.1,0,0,r2.1,r2.2.1,0,0,0,0,0,0))))))))))))))))
 (.call (y23 u4 u0 u6 u5 (80000:Int)) fun r3 =>
 .obC (je7) (by decide)
 (.obC _ jax
 (.brB (r3.2.2==0)
 (.obC _ je6
 (.obC _ jay
 (.call (jbX u4 u0 u6 u5) fun r4 =>
 .obC (jbW) (by decide)
 (.obC _ jax
 (.brB (r4.2.2==0)
 (.obC _ jbV
 (.obC _ jay
 (.call (y3 u4 u0 u6 u5) fun r5 =>
 .obC (ja5) (by decide)
 (.obC _ jax
 (.brB (r5.2.2==0)
 (.obC _ ja4
 (.obC _ jay
 (.obT
 (.rc (((r0.2.2==0,r1.2.2==0,r2.2.2==0,r3.2.2==0,r4.2.2==0,r5.2.2==0,r0.1,r0.2.1,0,0,0,0,r3.1,r3.2.1,r4.1,r4.2.1,r5.1,r5.2.1)))))))
 (.obT
 (.rc (((r0.2.2==0,r1.2.2==0,r2.2.2==0,r3.2.2==0,r4.2.2==0,r5.2.2==0,r0.1,r0.2.1,0,0,0,0,r3.1,r3.2.1,r4.1,r4.2.1,0,0))))))))))
 (.call (y3 u4 u0 u6 u5) fun r5 =>
 .obC (ja5) (by decide)
 (.obC _ jax
 (.brB (r5.2.2==0)
 (.obC _ ja4
 (.obC _ jay
 (.obT
 (.rc (((r0.2.2==0,r1.2.2==0,r2.2.2==0,r3.2.2==0,r4.2.2==0,r5.2.2==0,r0.1,r0.2.1,0,0,0,0,r3.1,r3.2.1,0,0,r5.1,r5.2.1)))))))
 (.obT
 (.rc (((r0.2.2==0,r1.2.2==0,r2.2.2==0,r3.2.2==0,r4.2.2==0,r5.2.2==0,r0.1,r0.2.1,0,0,0,0,r3.1,r3.2.1,0,0,0,0)))))))))))))
 (.call (jbX u4 u0 u6 u5) fun r4 =>
 .obC (jbW) (by decide)
 (.obC _ jax
 (.brB (r4.2.2==0)
 (.obC _ jbV
 (.obC _ jay
 (.call (y3 u4 u0 u6 u5) fun r5 =>
 .obC (ja5) (by decide)
 (.obC _ jax
 (.brB (r5.2.2==0)
 (.obC _ ja4
 (.obC _ jay
 (.obT
 (.rc (((r0.2.2==0,r1.2.2==0,r2.2.2==0,r3.2.2==0,r4.2.2==0,r5.2.2==0,r0.1,r0.2.1,0,0,0,0,0,0,r4.1,r4.2.1,r5.1,r5.2.1)))))))
 (.obT
 (.rc (((r0.2.2==0,r1.2.2==0,r2.2.2==0,r3.2.2==0,r4.2.2==0,r5.2.2==0,r0.1,r0.2.1,0,0,0,0,0,0,r4.1,r4.2.1,0,0))))))))))
 (.call (y3 u4 u0 u6 u5) fun r5 =>
 .obC (ja5) (by decide)
 (.obC _ jax
 (.brB (r5.2.2==0)
 (.obC _ ja4
 (.obC _ jay
 (.obT
 (.rc (((r0.2.2==0,r1.2.2==0,r2.2.2==0,r3.2.2==0,r4.2.2==0,r5.2.2==0,r0.1,r0.2.1,0,0,0,0,0,0,0,0,r5.1,r5.2.1)))))))
 (.obT
 (.rc (((r0.2.2==0,r1.2.2==0,r2.2.2==0,r3.2.2==0,r4.2.2==0,r5.2.2==0,r0.1,r0.2.1,0,0,0,0,0,0,0,0,0,0))))))))))))))))))))))
 (.call (y11 u4 u0 u6 u5 (1:Int)) fun r1 =>
 .obC ((0:Int)≤1∧(1:Int)<6) (by decide)
 (.obC _ jax
 (.brB (r1.2.2==0)
 (.obC _ jwA
 (.obC _ jay
 (.call (y11 u4 u0 u6 u5 (2:Int)) fun r2 =>
 .obC ((0:Int)≤2∧(2:Int)<6) (by decide)
 (.obC _ jax
 (.brB (r2.2.2==0)
 (.obC _ jn1
 (.obC _ jay
 (.call (y23 u4 u0 u6 u5 (80000:Int)) fun r3 =>
 .obC (je7) (by decide)
 (.obC _ jax
 (.brB (r3.2.2==0)
 (.obC _ je6
 (.obC _ jay
 (.call (jbX u4 u0 u6 u5) fun r4 =>
 .obC (jbW) (by decide)
 (.obC _ jax
 (.brB (r4.2.2==0)
 (.obC _ jbV
 (.obC _ jay
 (.call (y3 u4 u0 u6 u5) fun r5 =>
 .obC (ja5) (by decide)
 (.obC _ jax
 (.brB (r5.2.2==0)
 (.obC _ ja4
 (.obC _ jay
 (.obT
 (.rc (((r0.2.2==0,r1.2.2==0,r2.2.2==0,r3.2.2==0,r4.2.2==0,r5.2.2==0,0,0,r1.1,r1.2.1,r2.1,r2.2.1,r3.1,r3.2.1,r4.1,r4.2.1,r5.1,r5.2.1)))))))
 (.obT
 (.rc (((r0.2.2==0,r1.2.2==0,r2.2.2==0,r3.2.2==0,r4.2.2==0,r5.2.2==0,0,0,r1.1,r1.2.1,r2.1,r2.2.1,r3.1,r3.2.1,r4.1,r4.2.1,0,0))))))))))
 (.call (y3 u4 u0 u6 u5) fun r5 =>
 .obC (ja5) (by decide)
 (.obC _ jax
 (.brB (r5.2.2==0)
 (.obC _ ja4
 (.obC _ jay
 (.obT
 (.rc (((r0.2.2==0,r1.2.2==0,r2.2.2==0,r3.2.2==0,r4.2.2==0,r5.2.2==0,0,0,r1.1,r1.2.1,r2.1,r2.2.1,r3.1,r3.2.1,0,0,r5.1,r5.2.1)))))))
 (.obT
 (.rc (((r0.2.2==0,r1.2.2==0,r2.2.2==0,r3.2.2==0,r4.2.2==0,r5.2.2==0,0,0,r1.1,r1.2.1,r2.1,r2.2.1,r3.1,r3.2.1,0,0,0,0)))))))))))))
 (.call (jbX u4 u0 u6 u5) fun r4 =>
 .obC (jbW) (by decide)
 (.obC _ jax
 (.brB (r4.2.2==0)
 (.obC _ jbV
 (.obC _ jay
 (.call (y3 u4 u0 u6 u5) fun r5 =>
 .obC (ja5) (by decide)
 (.obC _ jax
 (.brB (r5.2.2==0)
 (.obC _ ja4
 (.obC _ jay
 (.obT
 (.rc (((r0.2.2==0,r1.2.2==0,r2.2.2==0,r3.2.2==0,r4.2.2==0,r5.2.2==0,0,0,r1.1,r1.2.1,r2.1,r2.2.1,0,0,r4.1,r4.2.1,r5.1,r5.2.1)))))))
 (.obT
 (.rc (((r0.2.2==0,r1.2.2==0,r2.2.2==0,r3.2.2==0,r4.2.2==0,r5.2.2==0,0,0,r1.1,r1.2.1,r2.1,r2.2.1,0,0,r4.1,r4.2.1,0,0))))))))))
 (.call (y3 u4 u0 u6 u5) fun r5 =>
 .obC (ja5) (by decide)
 (.obC _ jax
 (.brB (r5.2.2==0)
 (.obC _ ja4
 (.obC _ jay
 (.obT
 (.rc (((r0.2.2==0,r1.2.2==0,r2.2.2==0,r3.2.2==0,r4.2.2==0,r5.2.2==0,0,0,r1.1,r1.2.1,r2.1,r2.2.1,0,0,0,0,r5.1,r5.2.1)))))))
 (.obT
 (.rc (((r0.2.2==0,r1.2.2==0,r2.2.2==0,r3.2.2==0,r4.2.2==0,r5.2.2==0,0,0,r1.1,r1.2.1,r2.1,r2.2.1,0,0,0,0,0,0))))))))))))))))
 (.call (y23 u4 u0 u6 u5 (80000:Int)) fun r3 =>
 .obC (je7) (by decide)
 (.obC _ jax
 (.brB (r3.2.2==0)
 (.obC _ je6
 (.obC _ jay
 (.call (jbX u4 u0 u6 u5) fun r4 =>
 .obC (jbW) (by decide)
 (.obC _ jax
 (.brB (r4.2.2==0)
 (.obC _ jbV
 (.obC _ jay
 (.call (y3 u4 u0 u6 u5) fun r5 =>
 .obC (ja5) (by decide)
 (.obC _ jax
 (.brB (r5.2.2==0)
 (.obC _ ja4
 (.obC _ jay
 (.obT
 (.rc (((r0.2.2==0,r1.2.2==0,r2.2.2==0,r3.2.2==0,r4.2.2==0,r5.2.2==0,0,0,r1.1,r1.2.1,0,0,r3.1,r3.2.1,r4.1,r4.2.1,r5.1,r5.2.1)))))))
 (.obT
 (.rc (((r0.2.2==0,r1.2.2==0,r2.2.2==0,r3.2.2==0,r4.2.2==0,r5.2.2==0,0,0,r1.1,r1.2.1,0,0,r3.1,r3.2.1,r4.1,r4.2.1,0,0))))))))))
 (.call (y3 u4 u0 u6 u5) fun r5 =>
 .obC (ja5) (by decide)
 (.obC _ jax
 (.brB (r5.2.2==0)
 (.obC _ ja4
 (.obC _ jay
 (.obT
 (.rc (((r0.2.2==0,r1.2.2==0,r2.2.2==0,r3.2.2==0,r4.2.2==0,r5.2.2==0,0,0,r1.1,r1.2.1,0,0,r3.1,r3.2.1,0,0,r5.1,r5.2.1)))))))
 (.obT
 (.rc (((r0.2.2==0,r1.2.2==0,r2.2.2==0,r3.2.2==0,r4.2.2==0,r5.2.2==0,0,0,r1.1,r1.2.1,0,0,r3.1,r3.2.1,0,0,0,0)))))))))))))
 (.call (jbX u4 u0 u6 u5) fun r4 =>
 .obC (jbW) (by decide)
 (.obC _ jax
 (.brB (r4.2.2==0)
 (.obC _ jbV
 (.obC _ jay
 (.call (y3 u4 u0 u6 u5) fun r5 =>
 .obC (ja5) (by decide)
 (.obC _ jax
 (.brB (r5.2.2==0)
 (.obC _ ja4
 (.obC _ jay
 (.obT
 (.rc (((r0.2.2==0,r1.2.2==0,r2.2.2==0,r3.2.2==0,r4.2.2==0,r5.2.2==0,0,0,r1.1,r1.2.1,0,0,0,0,r4.1,r4.2.1,r5.1,r5.2.1)))))))
 (.obT
 (.rc (((r0.2.2==0,r1.2.2==0,r2.2.2==0,r3.2.2==0,r4.2.2==0,r5.2.2==0,0,0,r1.1,r1.2.1,0,0,0,0,r4.1,r4.2.1,0,0))))))))))
 (.call (y3 u4 u0 u6 u5) fun r5 =>
 .obC (ja5) (by decide)
 (.obC _ jax
 (.brB (r5.2.2==0)
 (.obC _ ja4
 (.obC _ jay
 (.obT
 (.rc (((r0.2.2==0,r1.2.2==0,r2.2.2==0,r3.2.2==0,r4.2.2==0,r5.2.2==0,0,0,r1.1,r1.2.1,0,0,0,0,0,0,r5.1,r5.2.1)))))))
 (.obT
 (.rc (((r0.2.2==0,r1.2.2==0,r2.2.2==0,r3.2.2==0,r4.2.2==0,r5.2.2==0,0,0,r1.1,r1.2.1,0,0,0,0,0,0,0,0)))))))))))))))))))
 (.call (y11 u4 u0 u6 u5 (2:Int)) fun r2 =>
 .obC ((0:Int)≤2∧(2:Int)<6) (by decide)
 (.obC _ jax
 (.brB (r2.2.2==0)
 (.obC _ jn1
 (.obC _ jay
 (.call (y23 u4 u0 u6 u5 (80000:Int)) fun r3 =>
 .obC (je7) (by decide)
 (.obC _ jax
 (.brB (r3.2.2==0)
 (.obC _ je6
 (.obC _ jay
 (.call (jbX u4 u0 u6 u5) fun r4 =>
 .obC (jbW) (by decide)
 (.obC _ jax
 (.brB (r4.2.2==0)
 (.obC _ jbV
 (.obC _ jay
 (.call (y3 u4 u0 u6 u5) fun r5 =>
 .obC (ja5) (by decide)
 (.obC _ jax
 (.brB (r5.2.2==0)
 (.obC _ ja4
 (.obC _ jay
 (.obT
 (.rc (((r0.2.2==0,r1.2.2==0,r2.2.2==0,r3.2.2==0,r4.2.2==0,r5.2.2==0,0,0,0,0,r2.1,r2.2.1,r3.1,r3.2.1,r4.1,r4.2.1,r5.1,r5.2.1)))))))
 (.obT
 (.rc (((r0.2.2==0,r1.2.2==0,r2.2.2==0,r3.2.2==0,r4.2.2==0,r5.2.2==0,0,0,0,0,r2.1,r2.2.1,r3.1,r3.2.1,r4.1,r4.2.1,0,0))))))))))
 (.call (y3 u4 u0 u6 u5) fun r5 =>
 .obC (ja5) (by decide)
 (.obC _ jax
 (.brB (r5.2.2==0)
 (.obC _ ja4
 (.obC _ jay
 (.obT
 (.rc (((r0.2.2==0,r1.2.2==0,r2.2.2==0,r3.2.2==0,r4.2.2==0,r5.2.2==0,0,0,0,0,r2.1,r2.2.1,r3.1,r3.2.1,0,0,r5.1,r5.2.1)))))))
 (.obT
 (.rc (((r0.2.2==0,r1.2.2==0,r2.2.2==0,r3.2.2==0,r4.2.2==0,r5.2.2==0,0,0,0,0,r2.1,r2.2.1,r3.1,r3.2.1,0,0,0,0)))))))))))))
 (.call (jbX u4 u0 u6 u5) fun r4 =>
 .obC (jbW) (by decide)
 (.obC _ jax
 (.brB (r4.2.2==0)
 (.obC _ jbV
 (.obC _ jay
 (.call (y3 u4 u0 u6 u5) fun r5 =>
 .obC (ja5) (by decide)
 (.obC _ jax
 (.brB (r5.2.2==0)
 (.obC _ ja4
 (.obC _ jay
 (.obT
 (.rc (((r0.2.2==0,r1.2.2==0,r2.2.2==0,r3.2.2==0,r4.2.2==0,r5.2.2==0,0,0,0,0,r2.1,r2.2.1,0,0,r4.1,r4.2.1,r5.1,r5.2.1)))))))
 (.obT
 (.rc (((r0.2.2==0,r1.2.2==0,r2.2.2==0,r3.2.2==0,r4.2.2==0,r5.2.2==0,0,0,0,0,r2.1,r2.2.1,0,0,r4.1,r4.2.1,0,0))))))))))
 (.call (y3 u4 u0 u6 u5) fun r5 =>
 .obC (ja5) (by decide)
 (.obC _ jax
 (.brB (r5.2.2==0)
 (.obC _ ja4
 (.obC _ jay
 (.obT
 (.rc (((r0.2.2==0,r1.2.2==0,r2.2.2==0,r3.2.2==0,r4.2.2==0,r5.2.2==0,0,0,0,0,r2.1,r2.2.1,0,0,0,0,r5.1,r5.2.1)))))))
 (.obT
 (.rc (((r0.2.2==0,r1.2.2==0,r2.2.2==0,r3.2.2==0,r4.2.2==0,r5.2.2==0,0,0,0,0,r2.1,r2.2.1,0,0,0,0,0,0))))))))))))))))
 (.call (y23 u4 u0 u6 u5 (80000:Int)) fun r3 =>
 .obC (je7) (by decide)
 (.obC _ jax
 (.brB (r3.2.2==0)
 (.obC _ je6
 (.obC _ jay
 (.call (jbX u4 u0 u6 u5) fun r4 =>
 .obC (jbW) (by decide)
 (.obC _ jax
 (.brB (r4.2.2==0)
 (.obC _ jbV
 (.obC _ jay
 (.call (y3 u4 u0 u6 u5) fun r5 =>
 .obC (ja5) (by decide)
 (.obC _ jax
 (.brB (r5.2.2==0)
 (.obC _ ja4
 (.obC _ jay
 (.obT
 (.rc (((r0.2.2==0,r1.2.2==0,r2.2.2==0,r3.2.2==0,r4.2.2==0,r5.2.2==0,0,0,0,0,0,0,r3.1,r3.2.1,r4.1,r4.2.1,r5.1,r5.2.1)))))))
 (.obT
 (.rc (((r0.2.2==0,r1.2.2==0,r2.2.2==0,r3.2.2==0,r4.2.2==0,r5.2.2==0,0,0,0,0,0,0,r3.1,r3.2.1,r4.1,r4.2.1,0,0))))))))))
 (.call (y3 u4 u0 u6 u5) fun r5 =>
 .obC (ja5) (by decide)
 (.obC _ jax
 (.brB (r5.2.2==0)
 (.obC _ ja4
 (.obC _ jay
 (.obT
 (.rc (((r0.2.2==0,r1.2.2==0,r2.2.2==0,r3.2.2==0,r4.2.2==0,r5.2.2==0,0,0,0,0,0,0,r3.1,r3.2.1,0,0,r5.1,r5.2.1)))))))
 (.obT
 (.rc (((r0.2.2==0,r1.2.2==0,r2.2.2==0,r3.2.2==0,r4.2.2==0,r5.2.2==0,0,0,0,0,0,0,r3.1,r3.2.1,0,0,0,0)))))))))))))
 (.call (jbX u4 u0 u6 u5) fun r4 =>
 .obC (jbW) (by decide)
 (.obC _ jax
 (.brB (r4.2.2==0)
 (.obC _ jbV
 (.obC _ jay
 (.call (y3 u4 u0 u6 u5) fun r5 =>
 .obC (ja5) (by decide)
 (.obC _ jax
 (.brB (r5.2.2==0)
 (.obC _ ja4
 (.obC _ jay
 (.obT
 (.rc (((r0.2.2==0,r1.2.2==0,r2.2.2==0,r3.2.2==0,r4.2.2==0,r5.2.2==0,0,0,0,0,0,0,0,0,r4.1,r4.2.1,r5.1,r5.2.1)))))))
 (.obT
 (.rc (((r0.2.2==0,r1.2.2==0,r2.2.2==0,r3.2.2==0,r4.2.2==0,r5.2.2==0,0,0,0,0,0,0,0,0,r4.1,r4.2.1,0,0))))))))))
 (.call (y3 u4 u0 u6 u5) fun r5 =>
 .obC (ja5) (by decide)
 (.obC _ jax
 (.brB (r5.2.2==0)
 (.obC _ ja4
 (.obC _ jay
 (.obT
 (.rc (((r0.2.2==0,r1.2.2==0,r2.2.2==0,r3.2.2==0,r4.2.2==0,r5.2.2==0,0,0,0,0,0,0,0,0,0,0,r5.1,r5.2.1)))))))
 (.obT
 (.rc (((r0.2.2==0,r1.2.2==0,r2.2.2==0,r3.2.2==0,r4.2.2==0,r5.2.2==0,0,0,0,0,0,0,0,0,0,0,0,0))))))))))))))))))))))
theorem jmC (u4:Int) (u0:List Nat) (u6 u5:Int) (r:Bool × Bool × Bool × Bool × Bool × Bool × Int × Int × Int × Int × Int × Int × Int × Int × Int × Int × Int × Int) (h:Option.bind (y13 u4 u0 u6 u5) some=some r):jaY Tryz.f63 ((sp_24 (sp_28 (sp_46 (sp_30 sp0))))) (fun _ _ _=>none) (jaO y199 [.d (.i .i64 u4),.r (.floats .f32 u0),.d (.i .i64 u6),.d (.i .i64 u5)]) [.s [.d (.b r.1),.d (.b r.2.1),.d (.b r.2.2.1),.d (.b r.2.2.2.1),.d (.b r.2.2.2.2.1),.d (.b r.2.2.2.2.2.1),.d (.i .i64 r.2.2.2.2.2.2.1),.d (.i .i64 r.2.2.2.2.2.2.2.1),.d (.i .i64 r.2.2.2.2.2.2.2.2.1),.d (.i .i64 r.2.2.2.2.2.2.2.2.2.1),.d (.i .i64 r.2.2.2.2.2.2.2.2.2.2.1),.d (.i .i64 r.2.2.2.2.2.2.2.2.2.2.2.1),.d (.i .i64 r.2.2.2.2.2.2.2.2.2.2.2.2.1),.d (.i .i64 r.2.2.2.2.2.2.2.2.2.2.2.2.2.1),.d (.i .i64 r.2.2.2.2.2.2.2.2.2.2.2.2.2.2.1),.d (.i .i64 r.2.2.2.2.2.2.2.2.2.2.2.2.2.2.2.1),.d (.i .i64 r.2.2.2.2.2.2.2.2.2.2.2.2.2.2.2.2.1),.d (.i .i64 r.2.2.2.2.2.2.2.2.2.2.2.2.2.2.2.2.2)]] :=
 T.vc (t:=jn2 u4 u0 u6 u5) (by kernel_rfl) (by kernel_rfl) h
theorem jmD:jah Tryz.prog 63 true (jal y199 y200):=by
 refine jau (sp:=(sp_24 (sp_28 (sp_46 (sp_30 sp0))))) (fn:=Tryz.f63) (body:=jai Tryz.f63) mixed (sp_24_ok (sp_28_ok (sp_46_ok (sp_30_ok jak)))) Tryz.func63 (by kernel_rfl) (by kernel_rfl) fun ls t h ho b hb=>?_
 unfold y200 at h
 split at h
 ·rename_i u4 u0 u6 u5
  cases h
  obtain rfl:=jaD hb
  exact⟨Nat.le_of_ble_eq_true (by kernel_rfl),_,_,jmC u4 u0 u6 u5 _ (jaj ho)⟩
 ·cases h
theorem sp_63_ok {sp:jab} (h:jac Tryz.prog sp):jac Tryz.prog (sp_63 sp):=jag jmD h
end Go.Sh
end
