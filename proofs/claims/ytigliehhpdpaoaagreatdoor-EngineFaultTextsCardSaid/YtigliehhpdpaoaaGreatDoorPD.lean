/- Part 4 of the proof of EngineFaultTextsCard: the executor, the mirrors of the functions, the plain facts. -/
import Derived.Test.YtigliehhpdpaoaaGreatDoorPC
import Derived.Test.YtigliehhpdpaoaaGreatDoorProg
import Derived.RangeFuncNested
import Derived.RangeFuncBound
import Derived.RangeFuncCalls
import Derived.RangeFuncLeaves
import Derived.Shelf.Abstract
import Derived.Shelf.RegionOpen
import Derived.WalkKit
import Derived.OwnWalkIn
import Derived.TacticsInMore
import Derived.LoopNIn
import Derived.LoopIn
set_option maxRecDepth 100000
set_option linter.unusedSectionVars false
set_option linter.unusedSimpArgs false
set_option linter.unusedVariables false
section
open Go.RowKit
namespace Go.Sx
inductive Sh where
 |d
 |r (c0:Cont)
 |x (x0:XC)
 |p (l:List Sh)
 |f (g:Nat) (l:List Sh)
inductive SV where
 |c (x:Sh)
 |a (l:List Sh)
 |b (k:FloatKind) (e:Nat)
inductive Lf where
 |d (x:D)
 |n (k:FloatKind)
 |r (c:Cont)
 |x (x:XC)
 |b (k:FloatKind) (e:Nat) (r:List Nat)
def nilC:C→Bool
 | .d (.v (.slice none 0 0))=>true
 |_=>false
def jfc (hp:Hp) (h:Nat):Option (List C):=match find hp h with
 |some (.box _ cs)=>some cs
 |some (.ebox cs)=>some cs
 |_=>none
def isP:Sh→Bool
 | .p _=>true
 |_=>false
def jdC (f:Sh→C→Option (List Lf × List C)):List Sh→List C→Option (List Lf × List C)
 |[],[]=>some ([],[])
 |s::l,c::cs=>match f s c,jdC f l cs with
  |some (a,x),some (b,y)=>some (a++b,x++y)
  |_,_=>none
 |_,_=>none
def toC (hp:Hp):Nat→Sh→C→Option (List Lf × List C)
 |0,_,_=>none
 |n+1,s,c =>
  match s with
  | .d=>match c with
   | .d x=>some ([.d x],[])
   | .o h=>match find hp h with
    |some (.nan k)=>some ([.n k],[c])
    |_=>none
   |_=>none
  | .r c0=>match nilC c with
   |true=>match c0.n,c0.e with
    |0,_+1=>some ([.r c0],[c])
    |_,_=>none
   |false=>match c with
    | .o h=>match(find hp h).bind O.cont with
     |some x=>match x.e with
      |0=>none
      |_+1=>some ([.r x],[c])
     |none=>none
    |_=>none
  | .x x0=>match nilC c with
   |true=>match x0.n with
    |0=>some ([.x x0],[c])
    |_=>none
   |false=>match c with
    | .o h=>match(find hp h).bind O.xc with
     |some X=>match X.e with
      |0=>none
      |_+1=>some ([.x X],[c])
     |_=>none
    |_=>none
  | .p l=>match c with
   | .p h 0 _ 0=>match jfc hp h with
    |some cs=>(jdC (toC hp n) l cs).map fun(a,x)=>(a,x++[c])
    |none=>none
   | .o h=>match jfc hp h with
    |some cs=>(jdC (toC hp n) l cs).map fun(a,x)=>(a,x++[c])
    |none=>none
   |_=>none
  | .f g l=>match c with
   | .fn g' hs=>match Nat.beq g g',l.all isP with
    |true,true=>jdC (toC hp n) l (hs.map C.o)
    |_,_=>none
   |_=>none
def toV (hp:Hp) (s:SV) (v:V):Option (List Lf × List C) :=
 match s,v with
 | .c s,.w (.c c)=>toC hp 8 s c
 | .a l,.w (.a cs)=>jdC (toC hp 8) l cs
 | .b k e,.w (.b k' e' r)=>match jbm k k',Nat.beq e e' with
  |true,true=>some ([.b k e r],[])
  |_,_=>none
 | .b k e,.w (.a cs)=>match jda k cs with
  |some r=>match Nat.beq e r.length with
   |true=>some ([.b k e r],[])
   |false=>none
  |none=>none
 |_,_=>none
def jh6 (hp:Hp):List SV→List V→Option (List Lf × List C)
 |[],[]=>some ([],[])
 |s::l,v::vs=>match toV hp s v,jh6 hp l vs with
  |some (a,x),some (b,y)=>some (a++b,x++y)
  |_,_=>none
 |_,_=>none
structure Bt where
 cs:List C
 hp:Hp
 n:Nat
 ls:List Lf
def jg3 (f:Sh→Nat→List Lf→Option Bt):List Sh→Nat→List Lf→Option Bt
 |[],n,ls=>some ⟨[],[],n,ls⟩
 |s::l,n,ls=>match f s n ls with
  |some a=>match jg3 f l a.n a.ls with
   |some b=>some ⟨a.cs++b.cs,b.hp++a.hp,b.n,b.ls⟩
   |none=>none
  |none=>none
def hOf:C→Nat
 | .p h _ _ _=>h
 | .o h=>h
 |_=>0
def jdD:Nat→Sh→Nat→List Lf→Option Bt
 |0,_,_,_=>none
 |m+1,s,n,ls =>
  match s with
  | .d=>match ls with
   | .d x::r=>some ⟨[.d x],[],n,r⟩
   | .n k::r=>some ⟨[.o n],[(n,.nan k)],n+1,r⟩
   |_=>none
  | .r _=>match ls with
   | .r c::r=>some ⟨[.o n],[(n,.ext c)],n+1,r⟩
   |_=>none
  | .x _=>match ls with
   | .x X::r=>some ⟨[.o n],[(n,.xext X)],n+1,r⟩
   |_=>none
  | .p l=>match jg3 (jdD m) l n ls with
   |some b=>some ⟨[.p b.n 0 1 0],(b.n,.ebox b.cs)::b.hp,b.n+1,b.ls⟩
   |none=>none
  | .f g l=>match jg3 (jdD m) l n ls with
   |some b=>some ⟨[.fn g (b.cs.map hOf)],b.hp,b.n,b.ls⟩
   |none=>none
structure Bv where
 vs:List V
 hp:Hp
 n:Nat
 ls:List Lf
def jiJ:List C→C
 |c::_=>c
 |[]=>.d (.v undef)
def jnj (s:SV) (n:Nat) (ls:List Lf):Option Bv :=
 match s with
 | .c s=>(jdD 8 s n ls).map fun b=>⟨[.w (.c (jiJ b.cs))],b.hp,b.n,b.ls⟩
 | .a l=>(jg3 (jdD 8) l n ls).map fun b=>⟨[.w (.a b.cs)],b.hp,b.n,b.ls⟩
 | .b _ _=>match ls with
  | .b k e r::q=>some ⟨[.w (.b k e r)],[],n,q⟩
  |_=>none
def jdE:List SV→Nat→List Lf→Option Bv
 |[],n,ls=>some ⟨[],[],n,ls⟩
 |s::l,n,ls=>match jnj s n ls with
  |some a=>match jdE l a.n a.ls with
   |some b=>some ⟨a.vs++b.vs,b.hp++a.hp,b.n,b.ls⟩
   |none=>none
  |none=>none
inductive RC where
 |d (x:D)
 |g (i:Nat)
 |row (ty:Nat) (c:Cont)
 |box (ty:Nat) (l:List RC)
 |rrow (c:Cont)
 |fe (c:Cont)
 |x (ty:Nat) (x:XC)
 |m (ty:Nat) (ts:List Nat) (x:XC)
inductive RR where
 |c (x:RC)
 |s (l:List RC)
 |b (k:FloatKind) (e:Nat) (r:List Nat)
inductive GT where
 |leaf (ob:Prop) (rs:List RR)
 |br (b:Bool) (x y:GT)
def GT.sel:GT→Prop × List RR
 | .leaf ob rs=>(ob,rs)
 | .br b x y=>match b with
  |true=>x.sel
  |false=>y.sel
structure Rt where
 cs:List C
 hp:Hp
 n:Nat
def rvL (f:RC→Nat→Rt):List RC→Nat→Rt
 |[],n=>⟨[],[],n⟩
 |r::l,n =>
  let a:=f r n
  let b:=rvL f l a.n
  ⟨a.cs++b.cs,b.hp++a.hp,b.n⟩
def rvC (am:List C):Nat→RC→Nat→Rt
 |0,_,n=>⟨[.d (.v undef)],[],n⟩
 |m+1,r,n =>
  match r with
  | .d x=>⟨[.d x],[],n⟩
  | .g i=>⟨[am.getD i (.d (.v undef))],[],n⟩
  | .row ty c=>⟨[.o n],[(n,.row ty c)],n+1⟩
  | .rrow c=>⟨[.o n],[(n,.rrow c)],n+1⟩
  | .fe c=>⟨[.o n],[(n,.fext c)],n+1⟩
  | .x ty X=>⟨[.o n],[(n,.xrow ty X)],n+1⟩
  | .m ty ts X=>⟨[.o n],[(n,.mrow ty ts X none)],n+1⟩
  | .box ty l =>
   let b:=rvL (rvC am m) l n
   ⟨[.p b.n 0 1 0],(b.n,.box ty b.cs)::b.hp,b.n+1⟩
structure Rw where
 ws:List W
 hp:Hp
 n:Nat
def rvR (am:List C) (r:RR) (n:Nat):Rw :=
 match r with
 | .c x=>let b:=rvC am 8 x n; ⟨[.c (jiJ b.cs)],b.hp,b.n⟩
 | .s l=>let b:=rvL (rvC am 8) l n; ⟨[.a b.cs],b.hp,b.n⟩
 | .b k e r=>⟨[.b k e r],[],n⟩
def jbM (am:List C):List RR→Nat→Rw
 |[],n=>⟨[],[],n⟩
 |r::l,n =>
  let a:=rvR am r n
  let b:=jbM am l a.n
  ⟨a.ws++b.ws,b.hp++a.hp,b.n⟩
def GT.toRT (am:List C) (hp:Hp) (nx:Nat):GT→RT
 | .leaf ob rs=>let b:=jbM am rs nx; .leaf ⟨ob,jaK b.ws,b.hp++hp,b.n⟩
 | .br b x y=>.br b (x.toRT am hp nx) (y.toRT am hp nx)
def jaO (shs:List SV) (g:List Lf→Option GT):Spec:=fun vs hp nx =>
 match jh6 hp shs vs with
 |some (ls,am)=>match g ls with
  |some t=>some (t.toRT am hp nx)
  |none=>none
 |none=>none
def fitL (f:RC→C→List Nat→(List Nat→Prop)→Prop):List RC→List C→List Nat→(List Nat→Prop)→Prop
 |[],[],us,k=>k us
 |r::l,c::cs,us,k=>f r c us fun us=>fitL f l cs us k
 |_,_,_,_=>False
def jnk (n0:Nat) (hp:Hp):Nat→RC→C→List Nat→(List Nat→Prop)→Prop
 |0,_,_,_,_=>False
 |m+1,r,c,us,k =>
  match r,c with
  | .d x,.d y=>mD x y∧k us
  | .g i,.o h=>match Nat.beq i h,Nat.blt i n0 with
   |true,true=>k us
   |_,_=>False
  | .row ty c,.o h=>match us.contains h with
   |true=>False
   |false=>match find hp h with
    |some (.row ty' c')=>match Nat.beq ty' ty with
     |true=>jc6 c c'∧k (h::us)
     |false=>False
    |_=>False
  | .row _ c,.d (.v (.slice none 0 0))=>Ob (c.n=0)∧k us
  | .rrow c,.o h=>match us.contains h with
   |true=>False
   |false=>match find hp h with
    |some (.rrow c')=>jc6 c c'∧k (h::us)
    |_=>False
  | .rrow c,.d (.v (.slice none 0 0))=>Ob (c.n=0)∧k us
  | .fe c,.o h=>match us.contains h with
   |true=>False
   |false=>match find hp h with
    |some (.fext c')=>jc6 c c'∧k (h::us)
    |_=>False
  | .fe c,.d (.v (.slice none 0 0))=>Ob (c.n=0)∧k us
  | .x ty X,.o h=>match us.contains h with
   |true=>False
   |false=>match find hp h with
    |some (.xrow ty' X')=>match Nat.beq ty' ty with
     |true=>mX X X'∧k (h::us)
     |false=>False
    |_=>False
  | .x _ X,.d (.v (.slice none 0 0))=>Ob (X.n=0)∧k us
  | .m ty ts X,.o h=>match us.contains h with
   |true=>False
   |false=>match find hp h with
    |some (.mrow ty' ts' X' none)=>match Nat.beq ty' ty,decide (ts'=ts)with
     |true,true=>mX X X'∧k (h::us)
     |_,_=>False
    |_=>False
  | .m _ _ X,.d (.v (.slice none 0 0))=>Ob (X.n=0)∧k us
  | .box ty l,.p h 0 _ 0=>match find hp h with
   |some (.box ty' cs)=>match Nat.beq ty' ty with
    |true=>fitL (jnk n0 hp m) l cs us fun us=>match us.contains h with
     |true=>False
     |false=>k (h::us)
    |false=>False
   |_=>False
  |_,_=>False
def fitR (n0:Nat) (hp:Hp) (r:RR) (w:W) (us:List Nat) (k:List Nat→Prop):Prop :=
 match r,w with
 | .c x,.c c=>jnk n0 hp 8 x c us k
 | .s l,.a cs=>fitL (jnk n0 hp 8) l cs us k
 | .b q e r,.b q' e' r'=>match jbm q q',Nat.beq e e' with
  |true,true=>Ob (r=r')∧k us
  |_,_=>False
 |_,_=>False
def jiK (n0:Nat) (hp:Hp):List RR→List W→List Nat→Prop
 |[],[],_=>True
 |r::l,w::ws,us=>fitR n0 hp r w us fun us=>jiK n0 hp l ws us
 |_,_,_=>False
def jjI (n0:Nat) (rs:List RR) (v:V) (hp:Hp):Prop:=match v with
 | .w u=>jiK n0 hp rs [u] []
 | .t [_]=>False
 | .t l=>jiK n0 hp rs l []
section
variable [Globs] {P:Program} {sp:jab} {ρ:Env} {B:Kd} {nx:Nat} {hp:Hp} {w w':World}
theorem C.p_val {ρ:Env} {h i e j:Nat}:(C.p h i e j).val ρ=.pointer (some ⟨(base (ρ h)).block,(base (ρ h)).off+(i*e+j),none⟩):=rfl
structure BOK (ρ:Env) (w:World) (nx n:Nat) (ρ1 ρ2:Env) (rest:List Lf) (cs x:List C) (b:Bt):Prop where
 ls:b.ls=rest
 nn:b.n=n+x.length
 agree:jac n ρ1 ρ2
 val:b.cs.map (C.val ρ2)=cs.map (C.val ρ)
 lt:∀c∈b.cs,C.lt b.n c
 heap:∀h o,find b.hp h=some o→n≤h∧h<b.n∧o.lt b.n∧o.ok ρ2 (kd fun k=>k<w.heap.size) w h∧∀v,o.blk v=none
 own:∀i,i<x.length→ρ2 (n+i)=(x.getD i (.d (.v undef))).val ρ
 xlt:∀y∈x,C.lt nx y
 hnd:∀c∈b.cs,(∃m i e j,c=.p m i e j)→ρ2 (hOf c)=c.val ρ2∧hOf c<b.n
theorem BOK.append {n:Nat} {ρ1 ρ2 ρ3:Env} {r1 rest:List Lf} {c1 c2 x1 x2:List C} {b1 b2:Bt} (h1:BOK ρ w nx n ρ1 ρ2 r1 c1 x1 b1) (h2:BOK ρ w nx b1.n ρ2 ρ3 rest c2 x2 b2) :
  BOK ρ w nx n ρ1 ρ3 rest (c1++c2) (x1++x2) ⟨b1.cs++b2.cs,b2.hp++b1.hp,b2.n,b2.ls⟩:=by
 have hle:b1.n≤b2.n:=by rw[h2.nn]; omega
 have hn1:n≤b1.n:=by rw[h1.nn]; omega
 refine⟨h2.ls,?_,h1.agree.trans h2.agree hn1,?_,?_,?_,?_,?_,?_⟩
 ·show b2.n=_
  rw[h2.nn,h1.nn,List.length_append]; omega
 ·simp only[List.map_append,h2.val]
  congr 1
  rw[←h1.val]
  exact List.map_congr_left fun c hc=>C.val_agree h2.agree (h1.lt c hc)
 ·intro c hc
  rcases List.mem_append.1 hc with hc|hc
  ·exact C.lt_mono hle (h1.lt c hc)
  ·exact h2.lt c hc
 ·intro h o hf
  have hf:find (b2.hp++b1.hp) h=some o:=hf
  rw[jam]at hf
  cases hg:find b2.hp h with
  |some o2 =>
   rw[hg]at hf
   cases hf
   obtain⟨a1,a2,a3,a4,a5⟩:=h2.heap h o hg
   exact⟨Nat.le_trans hn1 a1,a2,a3,a4,a5⟩
  |none =>
   rw[hg]at hf
   obtain⟨a1,a2,a3,a4,a5⟩:=h1.heap h o hf
   exact⟨a1,Nat.lt_of_lt_of_le a2 hle,O.lt_mono hle a3,O.ok_agree h2.agree a2 a3 a4,a5⟩
 ·intro i hi
  by_cases hlt:i<x1.length
  ·rw[h2.agree (n+i) (by rw[h1.nn]; omega),h1.own i hlt]
   simp[List.getD,List.getElem?_append_left hlt]
  ·have e1:n+i=b1.n+(i-x1.length):=by rw[h1.nn]; omega
   rw[e1,h2.own (i-x1.length) (by simp at hi; omega)]
   simp[List.getD,List.getElem?_append_right (Nat.le_of_not_lt hlt)]
 ·intro y hy
  rcases List.mem_append.1 hy with hy|hy
  ·exact h1.xlt y hy
  ·exact h2.xlt y hy
 ·intro c hc hp
  rcases List.mem_append.1 hc with hc|hc
  ·obtain⟨a1,a2⟩:=h1.hnd c hc hp
   exact⟨by rw[h2.agree _ a2,a1]; exact(C.val_agree h2.agree (h1.lt c hc)).symm,Nat.lt_of_lt_of_le a2 hle⟩
  ·exact h2.hnd c hc hp
theorem BOK.nil {n:Nat} {ρ1:Env} {rest:List Lf}:BOK ρ w nx n ρ1 ρ1 rest [] [] ⟨[],[],n,rest⟩ :=
 ⟨rfl,rfl,jac.refl _ _,rfl,(fun _ h=>by cases h),(fun _ _ h=>by cases h),(fun _ h=>by cases h),(fun _ h=>by cases h),fun _ h=>by cases h⟩
def ToOK (ρ:Env) (w:World) (nx:Nat) (s:Sh) (c:C) (a:List Lf) (x:List C) (g:Sh→Nat→List Lf→Option Bt):Prop :=
 ∀(n:Nat) (ρ1:Env) (rest:List Lf),∃b ρ2,g s n (a++rest)=some b∧BOK ρ w nx n ρ1 ρ2 rest [c] x b
theorem jh7 {f:Sh→C→Option (List Lf × List C)} {g:Sh→Nat→List Lf→Option Bt} (hf:∀s c a x,f s c=some (a,x)→C.lt nx c→ToOK ρ w nx s c a x g) :
  ∀(l:List Sh) (cs:List C) (a:List Lf) (x:List C),jdC f l cs=some (a,x)→(∀c∈cs,C.lt nx c)→∀(n:Nat) (ρ1:Env) (rest:List Lf),∃b ρ2,jg3 g l n (a++rest)=some b∧BOK ρ w nx n ρ1 ρ2 rest cs x b
 |[],[],a,x,h,_,n,ρ1,rest=>by
  simp only[jdC,Option.some.injEq,Prod.mk.injEq]at h
  obtain⟨rfl,rfl⟩:=h
  exact⟨_,ρ1,rfl,BOK.nil⟩
 |s::l,c::cs,a,x,h,hlt,n,ρ1,rest=>by
  simp only[jdC]at h
  split at h
  ·rename_i a1 x1 a2 x2 h1 h2
   cases h
   obtain⟨b1,ρ2,e1,k1⟩:=hf s c a1 x1 h1 (hlt c List.mem_cons_self) n ρ1 (a2++rest)
   obtain⟨b2,ρ3,e2,k2⟩:=jh7 hf l cs a2 x2 h2 (fun c hc=>hlt c (List.mem_cons_of_mem _ hc)) b1.n ρ2 rest
   refine⟨_,ρ3,?_,k1.append k2⟩
   rw[List.append_assoc]
   simp only[jg3,e1,k1.ls,e2]
  ·cases h
 |[],_::_,_,_,h,_,_,_,_=>by simp[jdC]at h
 |_::_,[],_,_,h,_,_,_,_=>by simp[jdC]at h
theorem jlW {c:C} (h:nilC c=true):c=.d (.v (.slice none 0 0)):=by
 unfold nilC at h
 split at h
 ·rfl
 ·cases h
theorem jhr (hh:HRel ρ B hp nx w) (hB:Old B w) {h:Nat} {cs:List C} (hc:jfc hp h=some cs) :
  h<nx∧(∀c∈cs,C.lt nx c)∧∃k o,ρ h=.pointer (some ⟨k,o,none⟩)∧k<w.heap.size∧∀j c,cs[j]?=some c→w.cell? ⟨k,o+j,none⟩=some (c.val ρ):=by
 unfold jfc at hc
 split at hc
 ·rename_i ty cs' hf
  cases hc
  obtain⟨h1,h2,g,h3,h4,h5⟩:=hh.ok h _ hf
  refine⟨h1,h2,g,0,h3,(Array.getElem?_eq_some_iff.1 h5).1,fun j c hj=>?_⟩
  rw[Nat.zero_add,cell_of_row w g _ _ ty (0,0) h5]
  simp[hj]
 ·rename_i cs' hf
  cases hc
  obtain⟨h1,h2,g,o,h3,h4,h5⟩:=hh.ok h _ hf
  exact⟨h1,h2,g,o,h3,hB g (.inl h4),h5⟩
 ·cases hc
theorem BOK.one {n:Nat} {ρ1:Env} {rest:List Lf} {c:C} {o:O} (hc:C.lt nx c) (hl:o.lt (n+1)) (hb:∀v,o.blk v=none) (ho:o.ok (upd ρ1 n (c.val ρ)) (kd fun k=>k<w.heap.size) w n) :
  BOK ρ w nx n ρ1 (upd ρ1 n (c.val ρ)) rest [c] [c] ⟨[.o n],[(n,o)],n+1,rest⟩:=by
 refine⟨rfl,rfl,jag _ _ _,by simp[C.val],?_,?_,?_,?_,?_⟩
 ·intro c' hc'
  simp only[List.mem_singleton]at hc'
  subst hc'
  exact Nat.lt_succ_self n
 ·intro h o' hf
  simp only[find]at hf
  split at hf
  ·rename_i e
   subst e
   cases hf
   exact⟨Nat.le_refl _,Nat.lt_succ_self _,hl,ho,hb⟩
  ·cases hf
 ·intro i hi
  simp at hi
  subst hi
  simp
 ·intro y hy
  simp only[List.mem_singleton]at hy
  subst hy
  exact hc
 ·rintro c' hc' ⟨m,i,e,j,rfl⟩
  simp at hc'
theorem jqN {m:Nat}:∀(l:List Sh) (n:Nat) (ls:List Lf) (b:Bt),l.all isP=true→jg3 (jdD m) l n ls=some b→∀c∈b.cs,∃q i e j,c=C.p q i e j
 |[],n,ls,b,_,h=>by simp only[jg3,Option.some.injEq]at h; subst h; exact fun _ h=>by cases h
 |s::l,n,ls,b,hp,h=>by
  simp only[List.all_cons,Bool.and_eq_true]at hp
  simp only[jg3]at h
  split at h
  ·rename_i a ha
   split at h
   ·rename_i b2 hb2
    cases h
    intro c hc
    rcases List.mem_append.1 hc with hc|hc
    ·cases m with
     |zero=>simp[jdD]at ha
     |succ m =>
      cases s with
      |p l2 =>
       simp only[jdD]at ha
       split at ha
       ·cases ha
        simp only[List.mem_singleton]at hc
        exact⟨_,_,_,_,hc⟩
       ·cases ha
      |_=>simp[isP]at hp
    ·exact jqN l _ _ b2 hp.2 hb2 c hc
   ·cases h
  ·cases h
theorem jjJ (hh:HRel ρ B hp nx w) (hB:Old B w):∀(m:Nat) (s:Sh) (c:C) (a:List Lf) (x:List C),toC hp m s c=some (a,x)→C.lt nx c→ToOK ρ w nx s c a x (jdD m)
 |0,_,_,_,_,h,_=>by simp[toC]at h
 |m+1,s,c,a,x,h,hc=>by
  intro n ρ1 rest
  have ih:=jh7 (f:=toC hp m) (g:=jdD m) (fun s c a x h hc=>jjJ hh hB m s c a x h hc)
  cases s with
  |d =>
   simp only[toC]at h
   split at h
   ·cases h
    refine⟨_,ρ1,rfl,rfl,rfl,jac.refl _ _,rfl,?_,(fun _ _ h=>by cases h),(fun _ h=>by cases h),(fun _ h=>by cases h),?_⟩
    ·intro c hc; simp only[List.mem_singleton]at hc; subst hc; trivial
    ·rintro c hc ⟨_,_,_,_,rfl⟩; simp at hc
   ·rename_i h0
    split at h
    ·rename_i k hf
     cases h
     have hok:=(hh.ok h0 _ hf).2.2
     exact⟨_,_,rfl,BOK.one hc trivial (fun _=>rfl) (by unfold O.ok; rw[upd_same]; exact hok)⟩
    ·cases h
   ·cases h
  |r c0 =>
   simp only[toC]at h
   split at h
   ·rename_i hn
    have hn:=jlW hn
    subst hn
    split at h
    ·rename_i e hn0 he
     cases h
     refine⟨_,_,rfl,BOK.one (c:=.d (.v (.slice none 0 0))) hc trivial (fun _=>rfl) ?_⟩
     refine⟨⟨none,0,by rw[upd_same,hn0]; rfl,⟨by omega,fun _=>rfl⟩,fun hp=>by omega⟩,fun a' n' cap hv=>?_⟩
     rw[upd_same]at hv
     cases hv
    ·cases h
   ·split at h
    ·rename_i h0 _
     split at h
     ·rename_i x hx
      split at h
      ·cases h
      ·rename_i e he
       cases h
       cases hf:find hp h0 with
       |none=>simp[hf]at hx
       |some o =>
        simp only[hf,Option.bind_some]at hx
        have hrow:=jaM (hh.ok h0 o hf).2.2 hx
        exact⟨_,_,rfl,BOK.one hc trivial (fun _=>rfl) ⟨by rw[upd_same]; exact hrow,by rw[upd_same]; exact hrow.lt (by omega)⟩⟩
     ·cases h
    ·cases h
  |x x0 =>
   simp only[toC]at h
   split at h
   ·rename_i hn
    have hn:=jlW hn
    subst hn
    split at h
    ·rename_i hn0
     cases h
     refine⟨_,_,rfl,BOK.one (c:=.d (.v (.slice none 0 0))) hc trivial (fun _=>rfl) ?_⟩
     exact⟨none,0,by rw[upd_same,hn0]; rfl,⟨by omega,fun _=>rfl⟩,fun hp=>by omega⟩
    ·cases h
   ·split at h
    ·rename_i h0 _
     split at h
     ·rename_i X hf
      obtain⟨ox,hf,hxc⟩:=Option.bind_eq_some_iff.1 hf
      split at h
      ·cases h
      rename_i e he
      cases h
      obtain⟨a1,cap,hv1,hc1,hx1⟩:=jdL (hh.ok h0 _ hf).2.2 hxc
      refine⟨_,_,rfl,BOK.one (o:=.xext X) hc trivial (fun _=>rfl) ?_⟩
      refine⟨a1,cap,by rw[upd_same]; exact hv1,hc1,fun hn=>?_⟩
      obtain⟨b,off,rfl,hcell⟩:=hx1 hn
      ·obtain⟨u,hu,_⟩:=hcell 0 0 hn (by omega)
       exact⟨b,off,rfl,World.block_lt_of_cell? w _ hu,fun i j hi hj=>let ⟨u,hu,hux⟩:=hcell i j hi hj; ⟨u,hu,NC.at_mono (fun k hk=>hB k hk) hux⟩⟩
     ·cases h
    ·cases h
  |p l =>
   have key:∀(h0:Nat) (cs:List C),jfc hp h0=some cs→c.val ρ=ρ h0→(jdC (toC hp m) l cs).map (fun(a,x)=>(a,x++[c]))=some (a,x) →
     ∃b ρ2,jdD (m+1) (.p l) n (a++rest)=some b∧BOK ρ w nx n ρ1 ρ2 rest [c] x b:=by
    intro h0 cs hbc hcv ht
    obtain⟨⟨a',x'⟩,ht',he⟩:=Option.map_eq_some_iff.1 ht
    cases he
    obtain⟨hlt0,hcl,k,o,hk,hks,hcell⟩:=jhr hh hB hbc
    obtain⟨b,ρ2,e,q⟩:=ih l cs a x' ht' hcl n ρ1 rest
    have hag:jac b.n ρ2 (upd ρ2 b.n (c.val ρ)):=jag _ _ _
    have hnb:n≤b.n:=by rw[q.nn]; omega
    refine⟨⟨[.p b.n 0 1 0],(b.n,.ebox b.cs)::b.hp,b.n+1,b.ls⟩,upd ρ2 b.n (c.val ρ),by simp only[jdD,e],q.ls,?_,q.agree.trans hag hnb,?_,?_,?_,?_,?_,?_⟩
    ·show b.n+1=_
     rw[q.nn]; simp; omega
    ·simp only[List.map_cons,List.map_nil,C.p_val,upd_same]
     rw[hcv,hk]
     simp[base]
    ·intro c' hc'
     simp only[List.mem_singleton]at hc'
     subst hc'
     exact Nat.lt_succ_self _
    ·intro h' o' hf
     simp only[find]at hf
     split at hf
     ·rename_i e2
      subst e2
      cases hf
      refine⟨hnb,Nat.lt_succ_self _,fun y hy=>C.lt_mono (Nat.le_succ _) (q.lt y hy),⟨k,o,by rw[upd_same,hcv]; exact hk,hks,fun j y hj=>?_⟩,fun _=>rfl⟩
      rw[C.val_agree hag (q.lt y (List.mem_of_getElem? hj))]
      have h1:(b.cs.map (C.val ρ2))[j]?=some (y.val ρ2):=by rw[List.getElem?_map,hj]; rfl
      rw[q.val,List.getElem?_map]at h1
      obtain⟨y',hy',he'⟩:=Option.map_eq_some_iff.1 h1
      rw[←he']
      exact hcell j y' hy'
     ·obtain⟨a1,a2,a3,a4,a5⟩:=q.heap h' o' hf
      exact⟨a1,Nat.lt_succ_of_lt a2,O.lt_mono (Nat.le_succ _) a3,O.ok_agree hag a2 a3 a4,a5⟩
    ·intro i hi
     by_cases hlt:i<x'.length
     ·rw[hag (n+i) (by rw[q.nn]; omega),q.own i hlt]
      simp[List.getD,List.getElem?_append_left hlt]
     ·have e3:i=x'.length:=by simp at hi; omega
      subst e3
      rw[←q.nn,upd_same]
      simp[List.getD]
    ·intro y hy
     rcases List.mem_append.1 hy with hy|hy
     ·exact q.xlt y hy
     ·simp only[List.mem_singleton]at hy
      subst hy
      exact hc
    ·intro c' hc' _
     simp only[List.mem_singleton]at hc'
     subst hc'
     refine⟨?_,Nat.lt_succ_self _⟩
     simp only[hOf,C.p_val,upd_same]
     rw[hcv,hk]
     simp[base]
   simp only[toC]at h
   split at h
   ·rename_i h0 e0
    split at h
    ·rename_i cs hbc
     refine key h0 cs hbc ?_ h
     obtain⟨_,_,k,o,hk,_⟩:=jhr hh hB hbc
     simp[C.val,hk,base]
    ·cases h
   ·rename_i h0
    split at h
    ·rename_i cs hbc
     exact key h0 cs hbc rfl h
    ·cases h
   ·cases h
  |f g l =>
   simp only[toC]at h
   split at h
   ·rename_i g' hs
    split at h
    ·rename_i hg hip
     have hg:=Nat.eq_of_beq_eq_true hg
     subst hg
     have hcl:∀y∈hs.map C.o,C.lt nx y:=fun y hy=>by
      obtain⟨z,hz,rfl⟩:=List.mem_map.1 hy
      exact hc z hz
     obtain⟨b,ρ2,e,q⟩:=ih l _ a x h hcl n ρ1 rest
     have hbp:=jqN l n (a++rest) b hip e
     refine⟨⟨[.fn g (b.cs.map hOf)],b.hp,b.n,b.ls⟩,ρ2,by simp only[jdD,e],q.ls,q.nn,q.agree,?_,?_,q.heap,q.own,q.xlt,?_⟩
     ·simp only[List.map_cons,List.map_nil,C.val]
      have:(b.cs.map hOf).map ρ2=hs.map ρ:=by
       have h1:=q.val
       rw[List.map_map]at h1 ⊢
       have h2:b.cs.map (ρ2 ∘ hOf)=b.cs.map (C.val ρ2):=List.map_congr_left fun y hy=>(q.hnd y hy (hbp y hy)).1
       rw[h2,h1]
       exact List.map_congr_left fun y hy=>rfl
      rw[this]
     ·intro y hy
      simp only[List.mem_singleton]at hy
      subst hy
      intro z hz
      obtain⟨y,hy,rfl⟩:=List.mem_map.1 hz
      exact(q.hnd y hy (hbp y hy)).2
     ·rintro y hy ⟨_,_,_,_,rfl⟩
      simp at hy
    ·cases h
   ·cases h
structure BVOK (ρ:Env) (w:World) (nx n:Nat) (ρ1 ρ2:Env) (rest:List Lf) (vs:List V) (x:List C) (b:Bv):Prop where
 ls:b.ls=rest
 nn:b.n=n+x.length
 agree:jac n ρ1 ρ2
 val:b.vs.map (V.val ρ2)=vs.map (V.val ρ)
 lt:∀c∈b.vs,V.lt b.n c
 heap:∀h o,find b.hp h=some o→n≤h∧h<b.n∧o.lt b.n∧o.ok ρ2 (kd fun k=>k<w.heap.size) w h∧∀v,o.blk v=none
 own:∀i,i<x.length→ρ2 (n+i)=(x.getD i (.d (.v undef))).val ρ
 xlt:∀y∈x,C.lt nx y
theorem BVOK.append {n:Nat} {ρ1 ρ2 ρ3:Env} {r1 rest:List Lf} {c1 c2:List V} {x1 x2:List C} {b1 b2:Bv} (h1:BVOK ρ w nx n ρ1 ρ2 r1 c1 x1 b1) (h2:BVOK ρ w nx b1.n ρ2 ρ3 rest c2 x2 b2) :
  BVOK ρ w nx n ρ1 ρ3 rest (c1++c2) (x1++x2) ⟨b1.vs++b2.vs,b2.hp++b1.hp,b2.n,b2.ls⟩:=by
 have hle:b1.n≤b2.n:=by rw[h2.nn]; omega
 have hn1:n≤b1.n:=by rw[h1.nn]; omega
 refine⟨h2.ls,?_,h1.agree.trans h2.agree hn1,?_,?_,?_,?_,?_⟩
 ·show b2.n=_
  rw[h2.nn,h1.nn,List.length_append]; omega
 ·simp only[List.map_append,h2.val]
  congr 1
  rw[←h1.val]
  exact List.map_congr_left fun c hc=>V.val_agree h2.agree (h1.lt c hc)
 ·intro c hc
  rcases List.mem_append.1 hc with hc|hc
  ·exact V.lt_mono hle (h1.lt c hc)
  ·exact h2.lt c hc
 ·intro h o hf
  have hf:find (b2.hp++b1.hp) h=some o:=hf
  rw[jam]at hf
  cases hg:find b2.hp h with
  |some o2 =>
   rw[hg]at hf
   cases hf
   obtain⟨a1,a2,a3,a4,a5⟩:=h2.heap h o hg
   exact⟨Nat.le_trans hn1 a1,a2,a3,a4,a5⟩
  |none =>
   rw[hg]at hf
   obtain⟨a1,a2,a3,a4,a5⟩:=h1.heap h o hf
   exact⟨a1,Nat.lt_of_lt_of_le a2 hle,O.lt_mono hle a3,O.ok_agree h2.agree a2 a3 a4,a5⟩
 ·intro i hi
  by_cases hlt:i<x1.length
  ·rw[h2.agree (n+i) (by rw[h1.nn]; omega),h1.own i hlt]
   simp[List.getD,List.getElem?_append_left hlt]
  ·have e1:n+i=b1.n+(i-x1.length):=by rw[h1.nn]; omega
   rw[e1,h2.own (i-x1.length) (by simp at hi; omega)]
   simp[List.getD,List.getElem?_append_right (Nat.le_of_not_lt hlt)]
 ·intro y hy
  rcases List.mem_append.1 hy with hy|hy
  ·exact h1.xlt y hy
  ·exact h2.xlt y hy
theorem jrV (hh:HRel ρ B hp nx w) (hB:Old B w) {s:SV} {v:V} {a:List Lf} {x:List C} (h:toV hp s v=some (a,x)) (hv:V.lt nx v) (n:Nat) (ρ1:Env) (rest:List Lf) :
  ∃b ρ2,jnj s n (a++rest)=some b∧BVOK ρ w nx n ρ1 ρ2 rest [v] x b:=by
 unfold toV at h
 split at h
 ·rename_i s c
  obtain⟨b,ρ2,e,q⟩:=jjJ hh hB 8 s c a x h hv n ρ1 rest
  have hlen:b.cs.length=1:=by have:=congrArg List.length q.val; simpa using this
  obtain⟨c',hc'⟩:∃c',b.cs=[c']:=by
   match hb:b.cs,hlen with
   |[c'],_=>exact⟨c',rfl⟩
  have hval:=q.val
  have hlt:=q.lt
  rw[hc']at hval hlt
  refine⟨⟨[.w (.c (jiJ b.cs))],b.hp,b.n,b.ls⟩,ρ2,by simp only[jnj,e,Option.map_some],q.ls,q.nn,q.agree,?_,?_,q.heap,q.own,q.xlt⟩
  ·simp only[hc',jiJ,List.map_cons,List.map_nil,V.val,W.val]
   simpa using hval
  ·intro y hy
   simp only[List.mem_singleton]at hy
   subst hy
   rw[hc']
   exact hlt c' List.mem_cons_self
 ·rename_i l cs
  obtain⟨b,ρ2,e,q⟩:=jh7 (f:=toC hp 8) (g:=jdD 8) (fun s c a x h hc=>jjJ hh hB 8 s c a x h hc) l cs a x h hv n ρ1 rest
  refine⟨⟨[.w (.a b.cs)],b.hp,b.n,b.ls⟩,ρ2,by simp only[jnj,e,Option.map_some],q.ls,q.nn,q.agree,?_,?_,q.heap,q.own,q.xlt⟩
  ·simp only[List.map_cons,List.map_nil,V.val,W.val,q.val]
  ·intro y hy
   simp only[List.mem_singleton]at hy
   subst hy
   exact q.lt
 ·rename_i k e k' e' r
  split at h
  ·rename_i hk he
   have hk:=jbc hk
   have he:=Nat.eq_of_beq_eq_true he
   subst hk
   subst he
   cases h
   refine⟨_,ρ1,rfl,rfl,rfl,jac.refl _ _,rfl,?_,(fun _ _ h=>by cases h),(fun _ h=>by cases h),fun _ h=>by cases h⟩
   intro y hy
   simp only[List.mem_singleton]at hy
   subst hy
   trivial
  ·cases h
 ·rename_i k e cs
  split at h
  ·rename_i r hr
   split at h
   ·rename_i he
    have he:=Nat.eq_of_beq_eq_true he
    subst he
    cases h
    refine⟨_,ρ1,rfl,rfl,rfl,jac.refl _ _,?_,?_,(fun _ _ h=>by cases h),(fun _ h=>by cases h),fun _ h=>by cases h⟩
    ·simp only[List.map_cons,List.map_nil,V.val,W.val,joG,jhG hr]
    ·intro y hy
     simp only[List.mem_singleton]at hy
     subst hy
     trivial
   ·cases h
  ·cases h
 ·cases h
theorem jep (hh:HRel ρ B hp nx w) (hB:Old B w):∀(l:List SV) (vs:List V) (a:List Lf) (x:List C),jh6 hp l vs=some (a,x)→(∀v∈vs,V.lt nx v)→∀(n:Nat) (ρ1:Env) (rest:List Lf),
  ∃b ρ2,jdE l n (a++rest)=some b∧BVOK ρ w nx n ρ1 ρ2 rest vs x b
 |[],[],a,x,h,_,n,ρ1,rest=>by
  simp only[jh6,Option.some.injEq,Prod.mk.injEq]at h
  obtain⟨rfl,rfl⟩:=h
  exact⟨_,ρ1,rfl,rfl,rfl,jac.refl _ _,rfl,(fun _ h=>by cases h),(fun _ _ h=>by cases h),(fun _ h=>by cases h),fun _ h=>by cases h⟩
 |s::l,v::vs,a,x,h,hlt,n,ρ1,rest=>by
  simp only[jh6]at h
  split at h
  ·rename_i a1 x1 a2 x2 h1 h2
   cases h
   obtain⟨b1,ρ2,e1,k1⟩:=jrV hh hB h1 (hlt v List.mem_cons_self) n ρ1 (a2++rest)
   obtain⟨b2,ρ3,e2,k2⟩:=jep hh hB l vs a2 x2 h2 (fun c hc=>hlt c (List.mem_cons_of_mem _ hc)) b1.n ρ2 rest
   refine⟨_,ρ3,?_,k1.append k2⟩
   rw[List.append_assoc]
   simp only[jdE,e1,k1.ls,e2]
  ·cases h
 |[],_::_,_,_,h,_,_,_,_=>by simp[jh6]at h
 |_::_,[],_,_,h,_,_,_,_=>by simp[jh6]at h
theorem jfK {k h:Nat} {o:O} {hp:Hp}:find ((k,o)::hp) h=if k=h then some o else find hp h:=rfl
structure CIn (ρ ρ':Env) (B:Kd) (hp hp':Hp) (n m n0:Nat) (am:List C) (w':World) (us:List Nat):Prop where
 heap:HRel ρ B hp n w'
 ap:∀k o b,find hp k=some o→o.blk (ρ k)=some b→b<m∨∃u∈us,∃ou,find hp' u=some ou∧ou.blk (ρ' u)=some b
 am:∀i,i<n0→C.lt n (am.getD i (.d (.v undef)))∧(am.getD i (.d (.v undef))).val ρ=ρ' i
structure COut (ρ ρ2 ρ':Env) (B:Kd) (hp hp':Hp) (n m:Nat) (w':World) (us us2:List Nat) (vals:List Value) (r:Rt):Prop where
 agree:jac n ρ ρ2
 heap:HRel ρ2 B (r.hp++hp) r.n w'
 le:n≤r.n
 val:r.cs.map (C.val ρ2)=vals
 lt:∀c∈r.cs,C.lt r.n c
 ap:∀k o b,find (r.hp++hp) k=some o→o.blk (ρ2 k)=some b→b<m∨∃u∈us2,∃ou,find hp' u=some ou∧ou.blk (ρ' u)=some b
 fresh:∀h o b,find r.hp h=some o→o.blk (ρ2 h)=some b→m≤b
 keys:∀h o,find r.hp h=some o→n≤h
 sub:∀u∈us,u∈us2
variable {ρ':Env} {hp':Hp} {m n0:Nat} {am:List C}
theorem CIn.next {ρ2:Env} {n:Nat} {us us2:List Nat} {vals:List Value} {r:Rt} (h:CIn ρ ρ' B hp hp' n m n0 am w' us) (k:COut ρ ρ2 ρ' B hp hp' n m w' us us2 vals r):CIn ρ2 ρ' B (r.hp++hp) hp' r.n m n0 am w' us2 :=
 ⟨k.heap,k.ap,fun i hi=>⟨C.lt_mono k.le (h.am i hi).1,by rw[C.val_agree k.agree (h.am i hi).1]; exact(h.am i hi).2⟩⟩
theorem COut.append {ρ2 ρ3:Env} {n:Nat} {us us2 us3:List Nat} {v1 v2:List Value} {r1 r2:Rt} (h:COut ρ ρ2 ρ' B hp hp' n m w' us us2 v1 r1) (k:COut ρ2 ρ3 ρ' B (r1.hp++hp) hp' r1.n m w' us2 us3 v2 r2) :
  COut ρ ρ3 ρ' B hp hp' n m w' us us3 (v1++v2) ⟨r1.cs++r2.cs,r2.hp++r1.hp,r2.n⟩:=by
 refine⟨h.agree.trans k.agree h.le,by rw[List.append_assoc]; exact k.heap,Nat.le_trans h.le k.le,?_,?_,?_,?_,?_,fun u hu=>k.sub u (h.sub u hu)⟩
 ·simp only[List.map_append,k.val]
  congr 1
  rw[←h.val]
  exact List.map_congr_left fun c hc=>C.val_agree k.agree (h.lt c hc)
 ·intro c hc
  rcases List.mem_append.1 hc with hc|hc
  ·exact C.lt_mono k.le (h.lt c hc)
  ·exact k.lt c hc
 ·intro q o b hf hb
  have hf:find (r2.hp++r1.hp++hp) q=some o:=hf
  rw[List.append_assoc]at hf
  exact k.ap q o b hf hb
 ·intro q o b hf hb
  have hf:find (r2.hp++r1.hp) q=some o:=hf
  rw[jam]at hf
  cases hg:find r2.hp q with
  |some o2=>rw[hg]at hf; cases hf; exact k.fresh q o b hg hb
  |none =>
   rw[hg]at hf
   have hf:find r1.hp q=some o:=hf
   have hq:q<r1.n:=by
    have:find (r1.hp++hp) q=some o:=by rw[jam,hf]; rfl
    exact(h.heap.ok q o this).1
   rw[k.agree q hq]at hb
   exact h.fresh q o b hf hb
 ·intro q o hf
  have hf:find (r2.hp++r1.hp) q=some o:=hf
  rw[jam]at hf
  cases hg:find r2.hp q with
  |some o2=>rw[hg]at hf; cases hf; exact Nat.le_trans h.le (k.keys q o hg)
  |none=>rw[hg]at hf; exact h.keys q o hf
theorem COut.data {n:Nat} {us:List Nat} {c:C} {v:Value} (h:CIn ρ ρ' B hp hp' n m n0 am w' us) (hc:C.lt n c) (hv:c.val ρ=v):COut ρ ρ ρ' B hp hp' n m w' us us [v] ⟨[c],[],n⟩:=by
 refine⟨jac.refl _ _,h.heap,Nat.le_refl _,by simp[hv],?_,h.ap,(fun _ _ _ h=>by cases h),(fun _ _ h=>by cases h),fun u hu=>hu⟩
 intro y hy
 simp only[List.mem_singleton]at hy
 subst hy
 exact hc
theorem COut.obj {Bc:Kd} {n q:Nat} {us:List Nat} {o oq:O} {c:C} {v:Value} (hm:∀k,k<m→Bc.kp k) (hB:∀k,B.all k→Bc.all k) (hF:∀k,Bc.fr k→B.fr k) (hM:Bc.LeM B) (hh':HRel ρ' Bc hp' nx w') (h:CIn ρ ρ' B hp hp' n m n0 am w' us)
  (hq:find hp' q=some oq) (hus:us.contains q=false) (hl:o.lt (n+1)) (ho:(∀k,o.blk (ρ' q)=some k→¬B.all k)→o.ok (upd ρ n (ρ' q)) B w' n) (hb:∀k,o.blk (ρ' q)=some k→oq.blk (ρ' q)=some k)
  (hc:C.lt (n+1) c) (hcv:c.val (upd ρ n (ρ' q))=v):COut ρ (upd ρ n (ρ' q)) ρ' B hp hp' n m w' us (q::us) [v] ⟨[c],[(n,o)],n+1⟩:=by
 have hge:∀k,o.blk (ρ' q)=some k→m≤k:=fun k hk=>by
  have:=(O.blk_lt (hh'.ok q oq hq).2.2 (hb k hk)).2
  exact Nat.le_of_not_lt fun hlt=>this (.inl (hm k hlt))
 have hnB:∀k,o.blk (ρ' q)=some k→¬B.all k:=fun k hk hBk=>(O.blk_lt (hh'.ok q oq hq).2.2 (hb k hk)).2 (hB k hBk)
 refine⟨jag _ _ _,?_,Nat.le_succ n,by simp[hcv],?_,?_,?_,?_,fun u hu=>List.mem_cons_of_mem _ hu⟩
 ·refine h.heap.add1 hl (ho hnB) fun k o' b hk hbk he=>?_
  rcases h.ap k o' b hk hbk with hlt|⟨u,hu,ou,hou,hbu⟩
  ·have:=hge b he
   omega
  ·have hne:u≠q:=fun e=>by
    subst e
    have:us.contains u=true:=by simpa using hu
    rw[this]at hus
    cases hus
   exact hh'.apart u ou q oq b hou hq hne hbu (hb b he)
 ·intro y hy
  simp only[List.mem_singleton]at hy
  subst hy
  exact hc
 ·intro k o' b hf hbk
  have hf2:find ((n,o)::hp) k=some o':=hf
  clear hf
  have hf:=hf2
  clear hf2
  rw[jfK]at hf
  split at hf
  ·rename_i e
   subst e
   cases hf
   rw[upd_same]at hbk
   exact .inr ⟨q,List.mem_cons_self,oq,hq,hb b hbk⟩
  ·have hk:=(h.heap.ok k o' hf).1
   rw[jag ρ n (ρ' q) k hk]at hbk
   rcases h.ap k o' b hf hbk with hlt|⟨u,hu,ou,hou,hbu⟩
   ·exact .inl hlt
   ·exact .inr ⟨u,List.mem_cons_of_mem _ hu,ou,hou,hbu⟩
 ·intro k o' b hf hbk
  simp only[find]at hf
  split at hf
  ·rename_i e
   subst e
   cases hf
   rw[upd_same]at hbk
   exact hge b hbk
  ·cases hf
 ·intro k o' hf
  simp only[find]at hf
  split at hf
  ·rename_i e; omega
  ·cases hf
theorem COut.nilO {n:Nat} {us:List Nat} {o:O} (hin:CIn ρ ρ' B hp hp' n m n0 am w' us) (hl:o.lt (n+1)) (ho:o.ok (upd ρ n (.slice none 0 0)) B w' n) (hb:o.blk (.slice none 0 0)=none) :
  COut ρ (upd ρ n (.slice none 0 0)) ρ' B hp hp' n m w' us us [.slice none 0 0] ⟨[.o n],[(n,o)],n+1⟩:=by
 refine⟨jag _ _ _,?_,Nat.le_succ n,by simp[C.val],?_,?_,?_,?_,fun u hu=>hu⟩
 ·exact hin.heap.add1 hl ho (fun _ _ _ _ _ he=>by rw[hb]at he; cases he)
 ·intro y hy
  simp only[List.mem_singleton]at hy
  subst hy
  exact Nat.lt_succ_self n
 ·intro k' o' b hf hbk
  have hf2:find ((n,o)::hp) k'=some o':=hf
  clear hf
  have hf:=hf2
  clear hf2
  rw[jfK]at hf
  split at hf
  ·rename_i e
   subst e
   cases hf
   rw[upd_same,hb]at hbk
   cases hbk
  ·have hk':=(hin.heap.ok k' o' hf).1
   rw[jag ρ n _ k' hk']at hbk
   exact hin.ap k' o' b hf hbk
 ·intro k' o' b hf hbk
  simp only[find]at hf
  split at hf
  ·rename_i e
   subst e
   cases hf
   rw[upd_same,hb]at hbk
   cases hbk
  ·cases hf
 ·intro k' o' hf
  simp only[find]at hf
  split at hf
  ·omega
  ·cases hf
def jsE (ρ':Env) (B:Kd) (hp':Hp) (m n0:Nat) (am:List C) (w':World) (f:RC→C→List Nat→(List Nat→Prop)→Prop) (g:RC→Nat→Rt):Prop :=
 ∀(r:RC) (c:C) (us:List Nat) (k:List Nat→Prop),f r c us k→∀(n:Nat) (hp:Hp) (ρ:Env),CIn ρ ρ' B hp hp' n m n0 am w' us →
  ∃us2 ρ2,k us2∧COut ρ ρ2 ρ' B hp hp' n m w' us us2 [c.val ρ'] (g r n)
theorem jh8 {f:RC→C→List Nat→(List Nat→Prop)→Prop} {g:RC→Nat→Rt} (hf:jsE ρ' B hp' m n0 am w' f g):∀(l:List RC) (cs:List C) (us:List Nat) (k:List Nat→Prop),fitL f l cs us k→∀(n:Nat) (hp:Hp) (ρ:Env),CIn ρ ρ' B hp hp' n m n0 am w' us →
  ∃us2 ρ2,k us2∧COut ρ ρ2 ρ' B hp hp' n m w' us us2 (cs.map (C.val ρ')) (rvL g l n)
 |[],[],us,k,h,n,hp,ρ,hin=>⟨us,ρ,h,jac.refl _ _,hin.heap,Nat.le_refl _,rfl,(fun _ h=>by cases h),hin.ap,(fun _ _ _ h=>by cases h),(fun _ _ h=>by cases h),fun u hu=>hu⟩
 |r::l,c::cs,us,k,h,n,hp,ρ,hin=>by
  obtain⟨us2,ρ2,h2,k2⟩:=hf r c us _ h n hp ρ hin
  obtain⟨us3,ρ3,h3,k3⟩:=jh8 hf l cs us2 k h2 (g r n).n _ ρ2 (hin.next k2)
  exact⟨us3,ρ3,h3,k2.append k3⟩
 |[],_::_,_,_,h,_,_,_,_=>h.elim
 |_::_,[],_,_,h,_,_,_,_=>h.elim
theorem jh9 {Bc:Kd} (hm:∀k,k<m→Bc.kp k) (hB:∀k,B.all k→Bc.all k) (hF:∀k,Bc.fr k→B.fr k) (hM:Bc.LeM B) (hh':HRel ρ' Bc hp' nx w'):∀(q:Nat),jsE ρ' B hp' m n0 am w' (jnk n0 hp' q) (rvC am q)
 |0=>fun _ _ _ _ h=>h.elim
 |q+1=>by
  intro r c us k h n hp ρ hin
  unfold jnk at h
  split at h
  ·rename_i x y
   have e:=jiF h.1
   subst e
   exact⟨us,ρ,h.2,COut.data hin trivial rfl⟩
  ·rename_i i h0
   split at h
   ·rename_i e1 e2
    have e1:=Nat.eq_of_beq_eq_true e1
    subst e1
    have hi:i<n0:=by simpa [Nat.blt_eq]using e2
    exact⟨us,ρ,h,COut.data hin (hin.am i hi).1 (hin.am i hi).2⟩
   ·exact h.elim
  ·rename_i ty c0 h0
   split at h
   ·exact h.elim
   ·rename_i hus
    split at h
    ·rename_i ty' c' hf
     split at h
     ·rename_i hty
      have hty:=Nat.eq_of_beq_eq_true hty
      subst hty
      have hc:=jbq h.1
      subst hc
      refine⟨_,_,h.2,COut.obj (q:=h0) (o:=.row ty' c0) hm hB hF hM hh' hin hf hus trivial (fun hnB=>?_) (fun k hk=>hk) (show C.lt (n+1) (.o n)from Nat.lt_succ_self n) (by simp[C.val])⟩
      have hok:=(hh'.ok h0 _ hf).2.2
      exact⟨by rw[upd_same]; exact hok.1,fun k hk=>by rw[upd_same]at hk; exact hnB k hk⟩
     ·exact h.elim
    ·exact h.elim
  ·rename_i ty c0
   obtain⟨⟨hn0⟩,hk⟩:=h
   refine⟨us,upd ρ n (.slice none 0 0),hk,?_⟩
   refine⟨jag _ _ _,?_,Nat.le_succ n,by simp[C.val,D.val,rvC],?_,?_,?_,?_,fun u hu=>hu⟩
   ·refine hin.heap.add1 (o:=.row ty c0) trivial ?_ (fun _ _ _ _ _ he=>by simp[O.blk,Value.ownBlock]at he)
    refine⟨⟨by simp[Cont.flat_length,hn0],.inl ⟨by rw[upd_same],hn0⟩⟩,fun k hk=>by rw[upd_same]at hk; simp[Value.ownBlock]at hk⟩
   ·intro y hy
    simp only[rvC,List.mem_singleton]at hy
    subst hy
    exact Nat.lt_succ_self n
   ·intro k' o' b hf hbk
    have hf2:find ((n,O.row ty c0)::hp) k'=some o':=hf
    clear hf
    have hf:=hf2
    clear hf2
    rw[jfK]at hf
    split at hf
    ·rename_i e
     subst e
     cases hf
     rw[upd_same]at hbk
     simp[O.blk,Value.ownBlock]at hbk
    ·have hk':=(hin.heap.ok k' o' hf).1
     rw[jag ρ n _ k' hk']at hbk
     exact hin.ap k' o' b hf hbk
   ·intro k' o' b hf hbk
    simp only[rvC,find]at hf
    split at hf
    ·rename_i e
     subst e
     cases hf
     rw[upd_same]at hbk
     simp[O.blk,Value.ownBlock]at hbk
    ·cases hf
   ·intro k' o' hf
    simp only[rvC,find]at hf
    split at hf
    ·omega
    ·cases hf
  ·rename_i c0 h0
   split at h
   ·exact h.elim
   ·rename_i hus
    split at h
    ·rename_i c' hf
     have hc:=jbq h.1
     subst hc
     refine⟨_,_,h.2,COut.obj (q:=h0) (o:=.rrow c0) hm hB hF hM hh' hin hf hus trivial (fun hnB=>?_) (fun k hk=>hk) (show C.lt (n+1) (.o n)from Nat.lt_succ_self n) (by simp[C.val])⟩
     have hok:=(hh'.ok h0 _ hf).2.2
     exact⟨by rw[upd_same]; exact hok.1,fun k hk=>by rw[upd_same]at hk; exact⟨hnB k hk,(hok.2 k hk).2⟩⟩
    ·exact h.elim
  ·rename_i c0
   obtain⟨⟨hn0⟩,hk⟩:=h
   refine⟨us,upd ρ n (.slice none 0 0),hk,?_⟩
   refine⟨jag _ _ _,?_,Nat.le_succ n,by simp[C.val,D.val,rvC],?_,?_,?_,?_,fun u hu=>hu⟩
   ·refine hin.heap.add1 (o:=.rrow c0) trivial ?_ (fun _ _ _ _ _ he=>by simp[O.blk,Value.ownBlock]at he)
    refine⟨⟨none,0,by rw[upd_same,hn0],⟨by omega,fun _=>rfl⟩,fun h=>by omega⟩,fun k hk=>by rw[upd_same]at hk; simp[Value.ownBlock]at hk⟩
   ·intro y hy
    simp only[rvC,List.mem_singleton]at hy
    subst hy
    exact Nat.lt_succ_self n
   ·intro k' o' b hf hbk
    have hf2:find ((n,O.rrow c0)::hp) k'=some o':=hf
    clear hf
    have hf:=hf2
    clear hf2
    rw[jfK]at hf
    split at hf
    ·rename_i e
     subst e
     cases hf
     rw[upd_same]at hbk
     simp[O.blk,Value.ownBlock]at hbk
    ·have hk':=(hin.heap.ok k' o' hf).1
     rw[jag ρ n _ k' hk']at hbk
     exact hin.ap k' o' b hf hbk
   ·intro k' o' b hf hbk
    simp only[rvC,find]at hf
    split at hf
    ·rename_i e
     subst e
     cases hf
     rw[upd_same]at hbk
     simp[O.blk,Value.ownBlock]at hbk
    ·cases hf
   ·intro k' o' hf
    simp only[rvC,find]at hf
    split at hf
    ·omega
    ·cases hf
  ·rename_i c0 h0
   split at h
   ·exact h.elim
   ·rename_i hus
    split at h
    ·rename_i c' hf
     have hc:=jbq h.1
     subst hc
     refine⟨_,_,h.2,COut.obj (q:=h0) (o:=.fext c0) hm hB hF hM hh' hin hf hus trivial (fun hnB=>?_) (fun k hk=>by cases hk) (show C.lt (n+1) (.o n)from Nat.lt_succ_self n) (by simp[C.val])⟩
     have hok:=(hh'.ok h0 _ hf).2.2
     exact⟨by rw[upd_same]; exact hok.1,by rw[upd_same]; exact jaC hF hok.2⟩
    ·exact h.elim
  ·rename_i c0
   obtain⟨⟨hn0⟩,hk⟩:=h
   exact⟨us,upd ρ n (.slice none 0 0),hk,COut.nilO hin trivial ⟨⟨none,0,by rw[upd_same,hn0],⟨by omega,fun _=>rfl⟩,fun h=>by omega⟩,fun a n' cap hv _=>by rw[upd_same]at hv; cases hv⟩ rfl⟩
  ·rename_i ty X h0
   split at h
   ·exact h.elim
   ·rename_i hus
    split at h
    ·rename_i ty' X' hf
     split at h
     ·rename_i hty
      have hty:=Nat.eq_of_beq_eq_true hty
      subst hty
      have hc:=jgi h.1
      subst hc
      refine⟨_,_,h.2,COut.obj (q:=h0) (o:=.xrow ty' X) hm hB hF hM hh' hin hf hus trivial (fun hnB=>?_) (fun k hk=>hk) (show C.lt (n+1) (.o n)from Nat.lt_succ_self n) (by simp[C.val])⟩
      obtain⟨us1,q1,q2,q3⟩:=(hh'.ok h0 _ hf).2.2
      exact⟨us1,by rw[upd_same]; exact q1,fun i j hi hj=>let ⟨u,hu,hux⟩:=q2 i j hi hj; ⟨u,hu,NC.at_mono hF hux⟩,fun k hk=>by rw[upd_same]at hk; exact hnB k hk⟩
     ·exact h.elim
    ·exact h.elim
  ·rename_i ty X
   obtain⟨⟨hn0⟩,hk⟩:=h
   exact⟨us,upd ρ n (.slice none 0 0),hk,COut.nilO hin trivial ⟨[],by rw[upd_same,hn0]; exact World.ownsRow_nil w' 0 ty X.e,(fun i j hi=>by omega),fun k hk=>by rw[upd_same]at hk; cases hk⟩ rfl⟩
  ·rename_i ty ts X h0
   split at h
   ·exact h.elim
   ·rename_i hus
    split at h
    ·rename_i ty' ts' X' hf
     split at h
     ·rename_i hty hts
      have hty:=Nat.eq_of_beq_eq_true hty
      subst hty
      have hts:=of_decide_eq_true hts
      subst hts
      have hc:=jgi h.1
      subst hc
      refine⟨_,_,h.2,COut.obj (q:=h0) (o:=.mrow ty' ts' X none) hm hB hF hM hh' hin hf hus trivial (fun hnB=>?_) (fun k hk=>hk) (show C.lt (n+1) (.o n)from Nat.lt_succ_self n) (by simp[C.val])⟩
      obtain⟨us1,q1,q2,q3,q4⟩:=(hh'.ok h0 _ hf).2.2
      exact⟨us1,by rw[upd_same]; exact q1,fun i j hi hj hn=>let ⟨u,hu,hux⟩:=q2 i j hi hj hn; ⟨u,hu,by rw[upd_same]; exact NC.own_mono hM hux⟩,q3,fun k hk=>by rw[upd_same]at hk; exact hnB k hk⟩
     ·exact h.elim
    ·exact h.elim
  ·rename_i ty ts X
   obtain⟨⟨hn0⟩,hk⟩:=h
   exact⟨us,upd ρ n (.slice none 0 0),hk,COut.nilO hin trivial ⟨[],by rw[upd_same,hn0]; exact World.ownsRow_nil w' 0 ty X.e,(fun i j hi=>by omega),(fun i j i' j' u v k hi=>by omega),fun k hk=>by rw[upd_same]at hk; cases hk⟩ rfl⟩
  ·rename_i ty l h0 e0
   split at h
   ·rename_i ty' cs hf
    split at h
    ·rename_i hty
     have hty:=Nat.eq_of_beq_eq_true hty
     subst hty
     obtain⟨us2,ρ2,h2,k2⟩:=jh8 (jh9 hm hB hF hM hh' q) l cs us _ h n hp ρ hin
     have hin2:=hin.next k2
     split at h2
     ·exact h2.elim
     ·rename_i hus
      have hok:=(hh'.ok h0 _ hf).2.2
      obtain⟨g,h3,h4,h5⟩:=hok
      have hobj:=COut.obj (q:=h0) (o:=.box ty' (rvL (rvC am q) l n).cs) (c:=.p (rvL (rvC am q) l n).n 0 1 0) (v:=ρ' h0) hm hB hF hM hh' hin2 hf hus (fun y hy=>C.lt_mono (Nat.le_succ _) (k2.lt y hy)) (fun hnB=>?_) (fun k hk=>hk)
       (show C.lt ((rvL (rvC am q) l n).n+1) (.p (rvL (rvC am q) l n).n 0 1 0)from Nat.lt_succ_self _) (by simp[C.val,h3,base])
      ·refine⟨h0::us2,upd ρ2 (rvL (rvC am q) l n).n (ρ' h0),h2,?_⟩
       have hap:=k2.append hobj
       refine⟨hap.agree,hap.heap,hap.le,?_,?_,hap.ap,hap.fresh,hap.keys,hap.sub⟩
       ·have hv:=hobj.val
        simp only[List.map_cons,List.map_nil]at hv
        simp only[rvC,List.map_cons,List.map_nil]
        rw[hv]
        simp[C.val,h3,base]
       ·intro y hy
        simp only[rvC,List.mem_singleton]at hy
        subst hy
        exact Nat.lt_succ_self _
      ·refine⟨g,by rw[upd_same]; exact h3,?_,?_⟩
       ·exact hnB g (by simp[O.blk,h3,base])
       ·rw[h5]
        congr 3
        have hv:=k2.val
        rw[←hv]
        exact List.map_congr_left fun y hy=>(C.val_agree (jag ρ2 _ _) (k2.lt y hy)).symm
    ·exact h.elim
   ·exact h.elim
  ·exact h.elim
structure WOut (ρ ρ2 ρ':Env) (B:Kd) (hp hp':Hp) (n m:Nat) (w':World) (us us2:List Nat) (vals:List Value) (r:Rw):Prop where
 agree:jac n ρ ρ2
 heap:HRel ρ2 B (r.hp++hp) r.n w'
 le:n≤r.n
 val:r.ws.map (W.val ρ2)=vals
 lt:∀c∈r.ws,W.lt r.n c
 ap:∀k o b,find (r.hp++hp) k=some o→o.blk (ρ2 k)=some b→b<m∨∃u∈us2,∃ou,find hp' u=some ou∧ou.blk (ρ' u)=some b
 fresh:∀h o b,find r.hp h=some o→o.blk (ρ2 h)=some b→m≤b
 keys:∀h o,find r.hp h=some o→n≤h
theorem jqO {Bc:Kd} (hm:∀k,k<m→Bc.kp k) (hB:∀k,B.all k→Bc.all k) (hF:∀k,Bc.fr k→B.fr k) (hM:Bc.LeM B) (hh':HRel ρ' Bc hp' nx w') {r:RR} {x:W} {us:List Nat} {k:List Nat→Prop} (h:fitR n0 hp' r x us k) {n:Nat} {hp:Hp} {ρ:Env} (hin:CIn ρ ρ' B hp hp' n m n0 am w' us) :
  ∃us2 ρ2,k us2∧WOut ρ ρ2 ρ' B hp hp' n m w' us us2 [x.val ρ'] (rvR am r n):=by
 unfold fitR at h
 split at h
 ·rename_i rc c
  obtain⟨us2,ρ2,h2,k2⟩:=jh9 hm hB hF hM hh' 8 rc c us k h n hp ρ hin
  have hlen:(rvC am 8 rc n).cs.length=1:=by have:=congrArg List.length k2.val; simpa using this
  obtain⟨c',hc'⟩:∃c',(rvC am 8 rc n).cs=[c']:=by
   match hb:(rvC am 8 rc n).cs,hlen with
   |[c'],_=>exact⟨c',rfl⟩
  have hval:=k2.val
  have hlt:=k2.lt
  rw[hc']at hval hlt
  refine⟨us2,ρ2,h2,k2.agree,k2.heap,k2.le,?_,?_,k2.ap,k2.fresh,k2.keys⟩
  ·simp only[rvR,hc',jiJ,List.map_cons,List.map_nil,W.val]
   simpa using hval
  ·intro y hy
   simp only[rvR,List.mem_singleton]at hy
   subst hy
   rw[hc']
   exact hlt c' List.mem_cons_self
 ·rename_i l cs
  obtain⟨us2,ρ2,h2,k2⟩:=jh8 (jh9 hm hB hF hM hh' 8) l cs us k h n hp ρ hin
  refine⟨us2,ρ2,h2,k2.agree,k2.heap,k2.le,?_,?_,k2.ap,k2.fresh,k2.keys⟩
  ·simp only[rvR,List.map_cons,List.map_nil,W.val,k2.val]
  ·intro y hy
   simp only[rvR,List.mem_singleton]at hy
   subst hy
   exact k2.lt
 ·rename_i q e r' q' e' r''
  split at h
  ·rename_i hk he
   have hk:=jbc hk
   have he:=Nat.eq_of_beq_eq_true he
   subst hk
   subst he
   obtain⟨⟨rfl⟩,hk⟩:=h
   refine⟨us,ρ,hk,jac.refl _ _,hin.heap,Nat.le_refl _,rfl,?_,hin.ap,(fun _ _ _ h=>by cases h),fun _ _ h=>by cases h⟩
   intro y hy
   simp only[rvR,List.mem_singleton]at hy
   subst hy
   trivial
  ·exact h.elim
 ·exact h.elim
theorem jg4 {Bc:Kd} (hm:∀k,k<m→Bc.kp k) (hB:∀k,B.all k→Bc.all k) (hF:∀k,Bc.fr k→B.fr k) (hM:Bc.LeM B) (hh':HRel ρ' Bc hp' nx w'):∀(l:List RR) (ws:List W) (us:List Nat),jiK n0 hp' l ws us→∀(n:Nat) (hp:Hp) (ρ:Env),CIn ρ ρ' B hp hp' n m n0 am w' us →
  ∃us2 ρ2,WOut ρ ρ2 ρ' B hp hp' n m w' us us2 (ws.map (W.val ρ')) (jbM am l n)
 |[],[],us,h,n,hp,ρ,hin=>⟨us,ρ,jac.refl _ _,hin.heap,Nat.le_refl _,rfl,(fun _ h=>by cases h),hin.ap,(fun _ _ _ h=>by cases h),fun _ _ h=>by cases h⟩
 |r::l,x::ws,us,h,n,hp,ρ,hin=>by
  obtain⟨us2,ρ2,h2,k2⟩:=jqO hm hB hF hM hh' h hin
  have hin2:CIn ρ2 ρ' B ((rvR am r n).hp++hp) hp' (rvR am r n).n m n0 am w' us2:=⟨k2.heap,k2.ap,fun i hi=>⟨C.lt_mono k2.le (hin.am i hi).1,by rw[C.val_agree k2.agree (hin.am i hi).1]; exact(hin.am i hi).2⟩⟩
  obtain⟨us3,ρ3,k3⟩:=jg4 hm hB hF hM hh' l ws us2 h2 (rvR am r n).n _ ρ2 hin2
  refine⟨us3,ρ3,k2.agree.trans k3.agree k2.le,by simp only[jbM]; rw[List.append_assoc]; exact k3.heap,Nat.le_trans k2.le k3.le,?_,?_,?_,?_,?_⟩
  ·simp only[jbM,List.map_append,k3.val,List.map_cons]
   have:(rvR am r n).ws.map (W.val ρ3)=[x.val ρ']:=by
    rw[←k2.val]
    exact List.map_congr_left fun c hc=>W.val_agree k3.agree (k2.lt c hc)
   rw[this]
   rfl
  ·intro c hc
   simp only[jbM]at hc
   rcases List.mem_append.1 hc with hc|hc
   ·exact W.lt_mono k3.le (k2.lt c hc)
   ·exact k3.lt c hc
  ·intro q o b hf hb
   simp only[jbM]at hf
   rw[List.append_assoc]at hf
   exact k3.ap q o b hf hb
  ·intro q o b hf hb
   simp only[jbM]at hf
   rw[jam]at hf
   cases hg:find (jbM am l (rvR am r n).n).hp q with
   |some o2=>rw[hg]at hf; cases hf; exact k3.fresh q o b hg hb
   |none =>
    rw[hg]at hf
    have hf:find (rvR am r n).hp q=some o:=hf
    have hq:q<(rvR am r n).n:=by
     have:find ((rvR am r n).hp++hp) q=some o:=by rw[jam,hf]; rfl
     exact(k2.heap.ok q o this).1
    rw[k3.agree q hq]at hb
    exact k2.fresh q o b hf hb
  ·intro q o hf
   simp only[jbM]at hf
   rw[jam]at hf
   cases hg:find (jbM am l (rvR am r n).n).hp q with
   |some o2=>rw[hg]at hf; cases hf; exact Nat.le_trans k2.le (k3.keys q o hg)
   |none=>rw[hg]at hf; exact k2.keys q o hf
 |[],_::_,_,h,_,_,_,_=>h.elim
 |_::_,[],_,h,_,_,_,_=>h.elim
theorem jaX {am:List C} {hp:Hp} {nx:Nat}:∀t:GT,(t.toRT am hp nx).sel=⟨t.sel.1,jaK (jbM am t.sel.2 nx).ws,(jbM am t.sel.2 nx).hp++hp,(jbM am t.sel.2 nx).n⟩
 | .leaf ob rs=>rfl
 | .br b x y=>by
  cases b
  ·exact jaX y
  ·exact jaX x
theorem jg5 {f:Nat} {fn:Func} {body:Code} {shs:List SV} {g:List Lf→Option GT} (hm:P.follows .mixedOrders=true) (hsp:jad P sp) (hf:P.funcs[f]?=some fn) (hb:fn.body=some body) (hn:(fn.name == "runtime.NumGoroutine")=false)
  (h:∀ls t,g ls=some t→t.sel.1→∀b:Bv,jdE shs 0 ls=some b→b.vs.length≤fn.ntmps∧∃fuel loops,sx P sp fn.ntmps b.n fuel loops (jcz P sp fn.ntmps) body 0 [] ⟨jbV 0 b.vs,b.hp,b.n⟩ (jdy P fn.results.toList fun v hp _=>jjI b.n t.sel.2 v hp)) :
  jan P f true (jaO shs g):=by
 refine .inl ⟨jbY hf hb hn,fun ρ B w args hp nx t hS hob hlt hh hB=>?_⟩
 unfold jaO at hS
 split at hS
 ·rename_i ls am hto
  split at hS
  ·rename_i t' hg
   cases hS
   rw[jaX]at hob ⊢
   have hob:t'.sel.1:=hob
   obtain⟨b,ρ0,hbl,q⟩:=jep hh hB shs args ls am hto hlt 0 (fun _=>undef) []
   rw[List.append_nil]at hbl
   obtain⟨hlen,fuel,loops,hx⟩:=h ls t' hg hob b hbl
   have hbn:b.n=am.length:=by have:=q.nn; omega
   have hh0:HRel ρ0 (kd fun k=>k<w.heap.size) b.hp b.n w:=by
    refine⟨fun x o hf=>?_,fun x o x' o' k hf hf' _ hb=>?_,jfb hh.glob hB⟩
    ·obtain⟨_,a2,a3,a4,_⟩:=q.heap x o hf
     exact⟨a2,a3,a4⟩
    ·obtain⟨_,_,_,_,a5⟩:=q.heap x o hf
     rw[a5]at hb
     cases hb
   have hcalls:=jm9 (n0:=b.n) (B:=kd fun k=>k<w.heap.size) hsp (fun ρ w=>jcg hm hsp) hf hb hlen hx q.lt (Nat.le_refl _) ρ0 w hh0 (fun k hk=>jcj.1 hk)
   rw[q.val]at hcalls
   refine hcalls.mono ?_
   rintro e w' ⟨ρ',v,hp',nx',rfl,hvlt,hag,⟨Bc,gB,hh'⟩,hbel,hold,hfit⟩
   have hbw:Below w.heap.size w w':=hbel.below
   have hBc:Old Bc w':=gB.old hold
   have hfr:∀k,Bc.fr k→w.heap.size≤k:=fun k hk=>by
    rcases gB.out k hk with h1|h1
    ·exact h1.elim
    ·exact Nat.le_of_not_lt h1
   have hmu:∀k,Bc.mu k≠none→w.heap.size≤k:=fun k hk=>Nat.le_of_not_lt fun hlt=>hk (Bc.dis k (gB.le.kp k hlt))
   let Bn:Kd:=⟨fun k=>B.kp k∨Bc.fr k,fun k=>B.fr k∨Bc.fr k,fun k=>match B.mu k with|some g=>some g|none=>Bc.mu k,fun k hk=>hk.imp (B.sub k) id,fun k hk=>by
    have h1:B.mu k=none:=by
     rcases hk with hk|hk
     ·exact B.dis k hk
     ·have h2:=hfr k hk
      cases hm2:B.mu k with
      |none=>rfl
      |some g=>exact absurd (hB k (.inr (by rw[hm2]; simp))) (Nat.not_lt_of_le h2)
    have h2:Bc.mu k=none:=by
     rcases hk with hk|hk
     ·exact Bc.dis k (gB.le.kp k (hB k (.inl hk)))
     ·exact Bc.dis k (Bc.sub k hk)
    show(match B.mu k with|some g=>some g|none=>Bc.mu k)=none
    rw[h1,h2]⟩
   have hmn:∀k,Bn.mu k=match B.mu k with|some g=>some g|none=>Bc.mu k:=fun _=>rfl
   have hBn:B.Le Bn:=⟨fun k hk=>.inl hk,fun k hk=>.inl hk⟩
   have hBm:B.LeM Bn:=fun k g hk=>by rw[hmn,hk]
   have hna:∀k,Bn.all k→B.all k∨(w.heap.size≤k∧Bc.all k):=fun k hk=>by
    rcases hk with (hk|hk)|hk
    ·exact .inl (.inl hk)
    ·exact .inr ⟨hfr k hk,.inl (Bc.sub k hk)⟩
    ·rw[hmn]at hk
     cases hm2:B.mu k with
     |none=>rw[hm2]at hk; exact .inr ⟨hmu k hk,.inr hk⟩
     |some g=>exact .inl (.inr (by rw[hm2]; simp))
   have gn:Grow B Bn true w w':=⟨hBn,fun k hk=>(hna k hk).imp id fun h=>hBc k h.2,fun k hk=>hk.imp id fun h hb=>absurd (hB k (.inl hb)) (Nat.not_lt_of_le (hfr k h)),fun _=>⟨fun k hk=>(hna k hk).imp id fun h=>h.1,hBm⟩⟩
   have hh1:HRel ρ Bn hp nx w':=(hh.below hbw hB).moreB hBn hBm fun h o k hf hk hb=>by
    have h1:=O.blk_lt (hh.ok h o hf).2.2 hk
    rcases hna k hb with hb|hb
    ·exact h1.2 hb
    ·exact absurd h1.1 (Nat.not_lt_of_le hb.1)
   obtain⟨ws,hws,hfw⟩:∃ws,(jaK ws).val ρ'=v.val ρ'∧jiK b.n hp' t'.sel.2 ws []:=by
    match v,hfit with
    | .w u,hfit=>exact⟨[u],rfl,hfit⟩
    | .t [],hfit=>exact⟨[],rfl,hfit⟩
    | .t (x::y::l),hfit=>exact⟨x::y::l,rfl,hfit⟩
   have hin:CIn ρ ρ' Bn hp hp' nx w.heap.size b.n am w' []:=by
    refine⟨hh1,fun k o b hk hbk=>.inl (O.blk_lt (hh.ok k o hk).2.2 hbk).1,fun i hi=>?_⟩
    have hi2:i<am.length:=by omega
    have h1:=q.own i hi2
    rw[Nat.zero_add]at h1
    refine⟨?_,by rw[hag i hi]; exact h1.symm⟩
    have:am.getD i (.d (.v undef))=am[i]:=by simp[List.getD,hi2]
    rw[this]
    exact q.xlt _ (List.getElem_mem hi2)
   obtain⟨us2,ρ2,k⟩:=jg4 (B:=Bn) (m:=w.heap.size) (fun k hk=>gB.le.kp k hk) (fun k hk=>(hna k hk).elim (fun h=>.inl (gB.le.kp k (hB k h))) (fun h=>h.2)) (fun k hk=>.inr hk) (fun k g hk=>by
    rw[hmn]
    cases hm2:B.mu k with
    |none=>exact hk
    |some g'=>exact absurd (hB k (.inr (by rw[hm2]; simp))) (Nat.not_lt_of_le (hmu k (by rw[hk]; simp)))) hh' t'.sel.2 ws [] hfw nx hp ρ hin
   refine⟨ρ2,?_,k.agree,jeR k.lt,k.le,⟨Bn,gn,k.heap⟩,jbA hbw hB,fun _=>hbw,fun _ h o b hle hf hbk=>?_⟩
   ·show Ending.returned _=Ending.returned ((jaK (jbM am t'.sel.2 nx).ws).val ρ2)
    rw[←hws,jcd,jcd]
    simp only[k.val]
   ·have hf:find ((jbM am t'.sel.2 nx).hp++hp) h=some o:=hf
    rw[jam]at hf
    cases hg2:find (jbM am t'.sel.2 nx).hp h with
    |some o2=>rw[hg2]at hf; cases hf; exact k.fresh h o b hg2 hbk
    |none =>
     rw[hg2]at hf
     have:=(hh.ok h o hf).1
     omega
  ·cases hS
 ·cases hS
end
end Go.Sx
end

section
open Go.RowKit
namespace Go.Sx
end Go.Sx
end

section
namespace Go.Sx
def jaB {X Y:Type} (body:X→Option (X ⊕ Y)):Nat→X→Option Y
 |0,_=>none
 |n+1,x=>match body x with
  |none=>none
  |some (.inl x')=>jaB body n x'
  |some (.inr y)=>some y
def big:Nat:=18446744073709551616
def jpF {X Y R:Type} (body:X→Option (X ⊕ Y)) (n:Nat) (K:Y→Option R):X ⊕ Y→Option R
 | .inl x=>(jaB body n x).bind K
 | .inr y=>K y
def ok {α:Type} (o:Option α):Prop:=o.isSome=true
instance {α : Type} (o : Option α) : Decidable (ok o) := inferInstanceAs (Decidable (o.isSome = true))
def val {α:Type} [Inhabited α] (o:Option α):α:=o.getD default
theorem jbp {α:Type} [Inhabited α] {o:Option α} (h:ok o):o.bind some=some (val o):=by
 cases o with
 |none=>cases h
 |some x=>rfl
theorem jfL {α:Type} {o:Option α} {x:α} (h:o=some x):ok o:=by subst h; rfl
theorem jtw {α:Type} [Inhabited α] {o:Option α} {x:α} (h:o=some x):val o=x:=by subst h; rfl
variable {X Y R S A:Type} {g:S→Option R} {r:R} {p q:Prop}
theorem br_d {c:Prop} [Decidable c] {x y:Option S} (h:(if c then x else y).bind g=some r) (hx:x.bind g=some r→p) (hy:y.bind g=some r→q):Br (decide c) p q:=by
 by_cases hc:c
 ·rw[if_pos hc]at h; rw[decide_eq_true hc]; exact hx h
 ·rw[if_neg hc]at h; rw[decide_eq_false hc]; exact hy h
theorem br_b {b:Bool} {x y:Option S} (h:(if b=true then x else y).bind g=some r) (hx:x.bind g=some r→p) (hy:y.bind g=some r→q):Br b p q:=by
 cases b
 ·exact hy h
 ·exact hx h
theorem ob_s {c:Prop} [Decidable c] {x:Option S} (h:(if c then x else none).bind g=some r) (hx:x.bind g=some r→p):Ob c∧p:=by
 by_cases hc:c
 ·rw[if_pos hc]at h; exact⟨⟨hc⟩,hx h⟩
 ·rw[if_neg hc]at h; cases h
theorem jtx [Inhabited A] {e:Option A} {f:A→Option S} (h:(e.bind f).bind g=some r) (hx:(f (val e)).bind g=some r→p):Ob (ok e)∧p:=by
 cases e with
 |none=>cases h
 |some a=>exact⟨⟨rfl⟩,hx h⟩
theorem jty {body:X→Option (X ⊕ Y)} {n:Nat} {x:X} {rest:Y→Option S} (h:((jaB body n x).bind rest).bind g=some r):(jaB body n x).bind (fun y=>(rest y).bind g)=some r:=by
 rw[←h]
 cases jaB body n x<;>rfl
theorem jrW {body:X→Option (X ⊕ Y)} {n:Nat} {x:X} {K:Y→Option R} (h:(jaB body n x).bind K=some r):∃m,n=m+1∧(body x).bind (jpF body m K)=some r:=by
 cases n with
 |zero=>cases h
 |succ m =>
  refine⟨m,rfl,?_⟩
  rw[←h]
  unfold jaB
  cases body x with
  |none=>rfl
  |some z=>cases z<;>rfl
theorem jqP {body:X→Option (X ⊕ Y)} {n:Nat} {x:X} {K:Y→Option R} (h:(some (Sum.inl x)).bind (jpF body n K)=some r):(jaB body n x).bind K=some r:=h
theorem jsF {n m:Nat} (h:n+1=m):n<m:=by omega
end Go.Sx
end

section
namespace Go.Sx
class TC (R:Type) where
 c:R→R→Prop
 refl:∀a,c a a
instance (priority := low) instTC {α : Type} : TC α := ⟨fun a r => Ob (a = r) ∧ True, fun _ => ⟨⟨rfl⟩, trivial⟩⟩
instance instTCProd {α β : Type} [i : TC β] : TC (α × β) := ⟨fun a r => Ob (a.1 = r.1) ∧ i.c a.2 r.2, fun a => ⟨⟨rfl⟩, i.refl a.2⟩⟩
inductive T (R:Type):Type 1 where
 |brP (c:Prop) [d:Decidable c] (x y:T R)
 |brB (b:Bool) (x y:T R)
 |obP (c:Prop) [d:Decidable c] (x:T R)
 |obT (x:T R)
 |obC (c:Prop) (h:c) (x:T R)
 |call {A:Type} [i:Inhabited A] (e:Option A) (x:A→T R)
 |ret (a:R) (P:R→Prop) (h:P a)
 |rc [i:TC R] (a:R)
 |bad (Q:R→Prop)
def T.run {R:Type}:T R→Option R
 | @T.brP _ c d x y=>@ite _ c d x.run y.run
 | .brB b x y=>if b=true then x.run else y.run
 | @T.obP _ c d x=>@ite _ c d x.run none
 | .obT x=>x.run
 | .obC _ _ x=>x.run
 | @T.call _ _ _ e x=>Option.bind e fun a=>(x a).run
 | .ret a _ _=>some a
 | @T.rc _ _ a=>some a
 | .bad _=>none
def T.cond {R:Type}:T R→R→Prop
 | @T.brP _ c d x y,r=>Br (@decide c d) (x.cond r) (y.cond r)
 | .brB b x y,r=>Br b (x.cond r) (y.cond r)
 | @T.obP _ c _ x,r=>Ob c∧x.cond r
 | .obT x,r=>Ob True∧x.cond r
 | .obC c _ x,r=>Ob c∧x.cond r
 | @T.call _ _ i e x,r=>Ob (ok e)∧(x (@val _ i e)).cond r
 | .ret _ P _,r=>P r
 | @T.rc _ i a,r=>i.c a r
 | .bad Q,r=>Q r
theorem T.sound {R:Type}:∀(t:T R) {r:R},t.run=some r→t.cond r
 | @T.brP _ c d x y,r,h=>by
  simp only[T.run]at h
  simp only[T.cond]
  by_cases hc:c
  ·rw[if_pos hc]at h; rw[decide_eq_true hc]; exact T.sound x h
  ·rw[if_neg hc]at h; rw[decide_eq_false hc]; exact T.sound y h
 | .brB b x y,r,h=>by
  simp only[T.run]at h
  simp only[T.cond]
  cases b
  ·exact T.sound y h
  ·exact T.sound x h
 | @T.obP _ c d x,r,h=>by
  simp only[T.run]at h
  by_cases hc:c
  ·rw[if_pos hc]at h; exact⟨⟨hc⟩,T.sound x h⟩
  ·rw[if_neg hc]at h; cases h
 | .obT x,r,h=>⟨⟨trivial⟩,T.sound x h⟩
 | .obC c hc x,r,h=>⟨⟨hc⟩,T.sound x h⟩
 | @T.call _ _ i e x,r,h=>by
  simp only[T.run]at h
  cases e with
  |none=>cases h
  |some a=>exact⟨⟨rfl⟩,T.sound (x a) h⟩
 | .ret a P hP,r,h=>by
  cases h
  exact hP
 | @T.rc _ i a,r,h=>by
  cases h
  exact i.refl a
 | .bad _,r,h=>by cases h
theorem T.vc {R:Type} {t:T R} {m:Option R} {r:R} {p:Prop} (hm:t.run=m) (hp:t.cond r=p) (h:Option.bind m some=some r):p:=by
 have h1:m=some r:=by cases m with
  |none=>cases h
  |some a=>exact h
 rw[←hp]
 exact T.sound t (hm.trans h1)
theorem rcs {R:Type} [i:TC R] {a r:R} (h:Option.bind (some a) some=some r):i.c a r:=by
 obtain rfl:=Option.some.inj h
 exact i.refl a
end Go.Sx
end

section
namespace Go.Sx
variable {X Y A R B Z:Type}
structure Cx (A R:Type) where
 G:Nat→Prop
 κ:Nat→A→Option R
 r:R
structure Sk (C:Cx A R) (e:Option A) where
 c:Prop
 ok:∀k,C.G k→e.bind (C.κ k)=some C.r→c
def top (r:R):Cx R R:=⟨fun _=>True,fun _=>some,r⟩
inductive Cl (Z:Type):Type 1 where
 |c {A:Type} (f:Z→A)
 |p (P:Z→Prop)
def jdX:List (Cl Z)→Z→Z→Prop
 |[],_,_=>True
 | .c f::l,v,w=>Ob (f v=f w)∧jdX l v w
 | .p P::l,v,w=>Ob (P w)∧jdX l v w
def okQ:List (Cl Z)→Z→Prop
 |[],_=>True
 | .c _::l,v=>okQ l v
 | .p P::l,v=>P v∧okQ l v
theorem jfM:∀(l:List (Cl Z)) (v:Z),okQ l v→jdX l v v
 |[],_,_=>trivial
 | .c _::l,v,h=>⟨⟨rfl⟩,jfM l v h⟩
 | .p _::l,v,h=>⟨⟨h.1⟩,jfM l v h.2⟩
structure Lp (Z X Y A R:Type) where
 x:Z→X
 n:Z→Nat
 nx:Z→X→Nat→Z
 b:Z→X→Option (X ⊕ Y)
 ρ:Z→Y→Option A
 C:Z→Cx A R
 k:Z→Nat
 Q:List (Cl Z)
def Lp.K (L:Lp Z X Y A R) (z:Z):Y→Option R:=fun y=>(L.ρ z y).bind ((L.C z).κ (L.k z))
def Lp.inv (L:Lp Z X Y A R) (z:Z):Prop:=(L.C z).G (L.k z)∧(jaB (L.b z) (L.n z) (L.x z)).bind (L.K z)=some (L.C z).r
def Lp.cx (L:Lp Z X Y A R) (z:Z):Cx (X ⊕ Y) R:=⟨fun k=>k+1=L.n z∧(L.C z).G (L.k z),fun k=>jpF (L.b z) k (L.K z),(L.C z).r⟩
variable {C:Cx A R}
def Sk.br {c:Prop} [d:Decidable c] {x y:Option A} (p:Sk C x) (q:Sk C y):Sk C (if c then x else y) :=
 ⟨Br (decide c) p.c q.c,fun k g h=>br_d h (p.ok k g) (q.ok k g)⟩
def Sk.brB {b:Bool} {x y:Option A} (p:Sk C x) (q:Sk C y):Sk C (if b=true then x else y) :=
 ⟨Br b p.c q.c,fun k g h=>br_b h (p.ok k g) (q.ok k g)⟩
def Sk.brT {c:Prop} [d:Decidable c] {x y:Option A} (hc:c) (p:Sk C x):Sk C (if c then x else y) :=
 ⟨p.c,fun k g h=>p.ok k g (by rw[if_pos hc]at h; exact h)⟩
def Sk.brF {c:Prop} [d:Decidable c] {x y:Option A} (hc:¬c) (q:Sk C y):Sk C (if c then x else y) :=
 ⟨q.c,fun k g h=>q.ok k g (by rw[if_neg hc]at h; exact h)⟩
def Sk.ob {c:Prop} [d:Decidable c] {x:Option A} (p:Sk C x):Sk C (if c then x else none) :=
 ⟨Ob c∧p.c,fun k g h=>ob_s h (p.ok k g)⟩
def Sk.obT {e:Option A} (p:Sk C e):Sk C e:=⟨Ob True∧p.c,fun k g h=>⟨⟨trivial⟩,p.ok k g h⟩⟩
def Sk.obC {e:Option A} (c:Prop) (hc:c) (p:Sk C e):Sk C e:=⟨Ob c∧p.c,fun k g h=>⟨⟨hc⟩,p.ok k g h⟩⟩
def Sk.call [Inhabited B] {e:Option B} {f:B→Option A} (p:Sk C (f (val e))):Sk C (e.bind f) :=
 ⟨Ob (Go.Sx.ok e)∧p.c,fun k g h=>jtx h (p.ok k g)⟩
def Sk.rc [i:TC R] {r a:R}:Sk (top r) (some a):=⟨i.c a r,fun _ _ h=>rcs h⟩
def Sk.ret {r a:R} (P:R→Prop) (h:P a):Sk (top r) (some a):=⟨P r,fun _ _ e=>by cases e; exact h⟩
def Sk.bad (c:Prop):Sk C none:=⟨c,fun _ _ h=>nomatch h⟩
def Sk.loopQ {b:X→Option (X ⊕ Y)} {x:X} {ρ:Y→Option A} (L:Lp Z X Y A R) (Q:List (Cl Z)) (w:Nat→Z) (p:∀z,Sk (L.cx z) (L.b z (L.x z)))
  (hw:∀k,okQ Q (w k))
  (h:∀k,C.G k→((jaB b big x).bind fun y=>(ρ y).bind (C.κ k))=some C.r→L.inv (w k):=by exact fun _ g h=>⟨g,h⟩)
  (hq:∀k,jdX Q (w k) (w k)→jdX Q (w 0) (w k):=by exact fun _ h=>h):Sk C ((jaB b big x).bind ρ) :=
 ⟨(
  ∃v,Ob (L.inv v)∧jdX Q (w 0) v)∧∀v,L.inv v→(p v).c,fun k g e=>⟨⟨w k,⟨h k g (jty e)⟩,hq k (jfM Q _ (hw k))⟩,fun v hv=>by
  obtain⟨m,hm,e⟩:=jrW hv.2
  exact(p v).ok m ⟨hm.symm,hv.1⟩ e⟩⟩
def Sk.loop {b:X→Option (X ⊕ Y)} {x:X} {ρ:Y→Option A} (L:Lp Z X Y A R) (w:Nat→Z) (p:∀z,Sk (L.cx z) (L.b z (L.x z)))
  (hw:∀k,okQ L.Q (w k):=by exact fun _=>trivial)
  (h:∀k,C.G k→((jaB b big x).bind fun y=>(ρ y).bind (C.κ k))=some C.r→L.inv (w k):=by exact fun _ g h=>⟨g,h⟩)
  (hq:∀k,jdX L.Q (w k) (w k)→jdX L.Q (w 0) (w k):=by exact fun _ h=>h):Sk C ((jaB b big x).bind ρ):=Sk.loopQ L L.Q w p hw h hq
def Sk.nextQ {L:Lp Z X Y A R} {z:Z} {x:X} (Q:List (Cl Z)) (hw:∀k,okQ Q (L.nx z x k))
  (h:∀k,k+1=L.n z∧(L.C z).G (L.k z)→(jaB (L.b z) k x).bind (L.K z)=some (L.C z).r→L.inv (L.nx z x k)∧L.n (L.nx z x k)<L.n z:=by exact fun _ g h=>⟨⟨g.2,h⟩,jsF g.1⟩)
  (hq:∀k,jdX Q (L.nx z x k) (L.nx z x k)→jdX Q (L.nx z x 0) (L.nx z x k):=by exact fun _ h=>h):Sk (L.cx z) (some (.inl x)) :=
 ⟨∃v,Ob (L.inv v)∧(Ob (L.n v<L.n z)∧jdX Q (L.nx z x 0) v),fun k g e=>⟨L.nx z x k,⟨(h k g (jqP e)).1⟩,⟨(h k g (jqP e)).2⟩,hq k (jfM Q _ (hw k))⟩⟩
def Sk.next {L:Lp Z X Y A R} {z:Z} {x:X} (hw:∀k,okQ L.Q (L.nx z x k):=by exact fun _=>trivial)
  (h:∀k,k+1=L.n z∧(L.C z).G (L.k z)→(jaB (L.b z) k x).bind (L.K z)=some (L.C z).r→L.inv (L.nx z x k)∧L.n (L.nx z x k)<L.n z:=by exact fun _ g h=>⟨⟨g.2,h⟩,jsF g.1⟩)
  (hq:∀k,jdX L.Q (L.nx z x k) (L.nx z x k)→jdX L.Q (L.nx z x 0) (L.nx z x k):=by exact fun _ h=>h):Sk (L.cx z) (some (.inl x)):=Sk.nextQ L.Q hw h hq
def Sk.exit {L:Lp Z X Y A R} {z:Z} {y:Y} (p:Sk (L.C z) (L.ρ z y)):Sk (L.cx z) (some (.inr y)) :=
 ⟨p.c,fun _ g e=>p.ok (L.k z) g.2 e⟩
theorem Sk.vc {e:Option R} {r:R} {p:Prop} (t:Sk (top r) e) (hp:t.c=p) (h:Option.bind e some=some r):p:=hp ▸ t.ok 0 trivial h
def isI (st:St) (t:Nat) (n:Int):Bool:=match jay st.tm t with
 |some (.w (.c (.d (.i _ m))))=>m==n
 |_=>false
end Go.Sx
end

section
namespace Go.Sx
def nI (l:List (List NC)) (i j:Nat):Int:=NC.toI ((l.getD i []).getD j (NC.d (D.v undef)))
def nS (l:List (List NC)) (i j:Nat):ByteArray:=NC.toS ((l.getD i []).getD j (NC.d (D.v undef)))
def nL (l:List (List NC)) (i j:Nat):List Int:=NC.toInts ((l.getD i []).getD j (NC.d (D.v undef)))
def nR (l:List (List NC)) (i j:Nat):List (List Int):=NC.toRecs ((l.getD i []).getD j (NC.d (D.v undef)))
section
variable {S R:Type} {g:S→Option R} {r:R}
end
end Go.Sx
end

section
namespace Go.Sx
def jsG:Nat→Bool
 |36|42|71|108|109=>true
 |_=>false
def jqQ:Nat→Bool
 |42=>true
 |_=>false
instance globs : Globs := { tab := fun _ => none, nestT := jsG, nestM := jqQ }
end Go.Sx
end

section
namespace Go.Sh
open Go Go.Proofs Go.RowKit Go.Sx
def bodyOf (f:Func):Code:=f.body.getD .skip
theorem mixed:Tryz.prog.follows .mixedOrders=true:=by kernel_rfl
def jlv (shs:List SV) (ls:List Lf):Bv:=(jdE shs 0 ls).getD ⟨[],[],0,[]⟩
theorem jfd {shs:List SV} {ls:List Lf} {b:Bv} (h:jdE shs 0 ls=some b):b=jlv shs ls:=by
 unfold jlv
 rw[h]
 rfl
abbrev runT (fn:Func) (sp:jab) (loops:jiE) (b:Bv) (rs:List RR):Prop :=
 sx Tryz.prog sp fn.ntmps b.n 40 loops (jcz Tryz.prog sp fn.ntmps) (bodyOf fn) 0 [] ⟨jbV 0 b.vs,b.hp,b.n⟩ (jdy Tryz.prog fn.results.toList fun v hp _=>jjI b.n rs v hp)
def sp0:jab:=fun _=>none
theorem jfe:jad Tryz.prog sp0:=fun _ _ _ h=>by cases h
def jbZ (f:Nat) (M:Bool) (S:Sx.Spec) (sp:jab):jab:=fun k=>match Nat.beq k f with
 |true=>some (M,S)
 |false=>sp k
theorem js6 {f:Nat} {M:Bool} {S:Sx.Spec} {sp:jab} (h:jan Tryz.prog f M S) (hs:jad Tryz.prog sp):jad Tryz.prog (jbZ f M S sp):=by
 intro k M' S' hk
 unfold jbZ at hk
 split at hk
 ·rename_i e
  have:=Nat.eq_of_beq_eq_true e
  subst this
  cases hk
  exact h
 ·exact hs k M' S' hk
end Go.Sh
end

section
namespace Go.Sh
open Go Go.Proofs Go.RowKit Go.Sx
open Go.IntKind (wrap)
def jfY:List SV:=[.a [.d,.d,.d,.d,.d,.d,.d,.d,.d,.d,.d,.d,.d,.d,.d,.d,.d,.d,.d,.d,.d,.d,.d,.d,.d,.d,.d,.d,.d,.d,.d,.d]]
def jff (l0 l1 l2 l3 l4 l5 l6 l7 l8 l9 l10 l11 l12 l13 l14 l15 l16 l17 l18 l19 l20 l21 l22 l23 l24 l25 l26 l27 l28 l29 l30 l31:Int) (x0:(Int × List Nat)):Option ((Int × List Nat) ⊕ (List Nat)) :=
 if x0.1<32 then
  if(0≤x0.1∧x0.1<(↑(32:Nat):Int))∧List.getD [true,true,true,true,true,true,true,true,true,true,true,true,true,true,true,true,true,true,true,true,true,true,true,true,true,true,true,true,true,true,true,true] (Int.toNat x0.1*1) false=true then
  if 0≤x0.1∧x0.1<(↑(32:Nat):Int)then
   if 0+(0+Int.toNat x0.1*1)<32 then
   some (.inl ((wrap .i64 (x0.1+1),jgC (32:Nat) x0.2 (0+(0+Int.toNat x0.1*1)) (FloatKind.nearest .f32 (List.getD [l0,l1,l2,l3,l4,l5,l6,l7,l8,l9,l10,l11,l12,l13,l14,l15,l16,l17,l18,l19,l20,l21,l22,l23,l24,l25,l26,l27,l28,l29,l30,l31] (Int.toNat x0.1*1) (0:Int))))))
   else none
  else none
  else none
 else
  some (.inr x0.2)
def jfg (u15:List Nat):Option (List Nat) :=
 some u15
def jeq (l0 l1 l2 l3 l4 l5 l6 l7 l8 l9 l10 l11 l12 l13 l14 l15 l16 l17 l18 l19 l20 l21 l22 l23 l24 l25 l26 l27 l28 l29 l30 l31:Int):Option (List Nat) :=
 Option.bind (jaB (jff l0 l1 l2 l3 l4 l5 l6 l7 l8 l9 l10 l11 l12 l13 l14 l15 l16 l17 l18 l19 l20 l21 l22 l23 l24 l25 l26 l27 l28 l29 l30 l31) big (((0:Int),[(0:Nat),(0:Nat),(0:Nat),(0:Nat),(0:Nat),(0:Nat),(0:Nat),(0:Nat),(0:Nat),(0:Nat),(0:Nat),(0:Nat),(0:Nat),(0:Nat),(0:Nat),(0:Nat),(0:Nat),(0:Nat),(0:Nat),(0:Nat),(0:Nat),(0:Nat),(0:Nat),(0:Nat),(0:Nat),(0:Nat),(0:Nat),(0:Nat),(0:Nat),(0:Nat),(0:Nat),(0:Nat)]))) (jfg)
def jfZ:List Lf→Option GT
 |[.d (.i .i64 l0),.d (.i .i64 l1),.d (.i .i64 l2),.d (.i .i64 l3),.d (.i .i64 l4),.d (.i .i64 l5),.d (.i .i64 l6),.d (.i .i64 l7),.d (.i .i64 l8),.d (.i .i64 l9),.d (.i .i64 l10),.d (.i .i64 l11),.d (.i .i64 l12),.d (.i .i64 l13),.d (.i .i64 l14),.d (.i .i64 l15),.d (.i .i64 l16),.d (.i .i64 l17),.d (.i .i64 l18),.d (.i .i64 l19),.d (.i .i64 l20),.d (.i .i64 l21),.d (.i .i64 l22),.d (.i .i64 l23),.d (.i .i64 l24),.d (.i .i64 l25),.d (.i .i64 l26),.d (.i .i64 l27),.d (.i .i64 l28),.d (.i .i64 l29),.d (.i .i64 l30),.d (.i .i64 l31)]=>some (.leaf (ok (jeq l0 l1 l2 l3 l4 l5 l6 l7 l8 l9 l10 l11 l12 l13 l14 l15 l16 l17 l18 l19 l20 l21 l22 l23 l24 l25 l26 l27 l28 l29 l30 l31)) [.b .f32 32 ((val (jeq l0 l1 l2 l3 l4 l5 l6 l7 l8 l9 l10 l11 l12 l13 l14 l15 l16 l17 l18 l19 l20 l21 l22 l23 l24 l25 l26 l27 l28 l29 l30 l31)))])
 |_=>none
abbrev jia (l0 l1 l2 l3 l4 l5 l6 l7 l8 l9 l10 l11 l12 l13 l14 l15 l16 l17 l18 l19 l20 l21 l22 l23 l24 l25 l26 l27 l28 l29 l30 l31:Int) (r:List Nat):Lp ((Int × List Nat) × Nat) (Int × List Nat) (List Nat) (List Nat) (List Nat) :=
 ⟨fun z=>z.1,fun z=>z.2,fun z x n=>(x,n),fun z=>jff l0 l1 l2 l3 l4 l5 l6 l7 l8 l9 l10 l11 l12 l13 l14 l15 l16 l17 l18 l19 l20 l21 l22 l23 l24 l25 l26 l27 l28 l29 l30 l31,fun z=>jfg,fun z=>top r,fun z=>0,[.c fun _=>0,.c fun _=>0,.c fun _=>l0,.c fun _=>l1,.c fun _=>l2,.c fun _=>l3,.c fun _=>l4,.c fun _=>l5,.c fun _=>l6,.c fun _=>l7,.c fun _=>l8,.c fun _=>l9,.c fun _=>l10,.c fun _=>l11,.c fun _=>l12,.c fun _=>l13,.c fun _=>l14,.c fun _=>l15,.c fun _=>l16,.c fun _=>l17,.c fun _=>l18,.c fun _=>l19,.c fun _=>l20,.c fun _=>l21,.c fun _=>l22,.c fun _=>l23,.c fun _=>l24,.c fun _=>l25,.c fun _=>l26,.c fun _=>l27,.c fun _=>l28,.c fun _=>l29,.c fun _=>l30,.c fun _=>l31,.c fun vv=>vv.1.1,.c fun _=>[(0:Nat),(0:Nat),(0:Nat),(0:Nat),(0:Nat),(0:Nat),(0:Nat),(0:Nat),(0:Nat),(0:Nat),(0:Nat),(0:Nat),(0:Nat),(0:Nat),(0:Nat),(0:Nat),(0:Nat),(0:Nat),(0:Nat),(0:Nat),(0:Nat),(0:Nat),(0:Nat),(0:Nat),(0:Nat),(0:Nat),(0:Nat),(0:Nat),(0:Nat),(0:Nat),(0:Nat),(0:Nat)],.c fun vv=>vv.1.2]⟩
def jnl (l0 l1 l2 l3 l4 l5 l6 l7 l8 l9 l10 l11 l12 l13 l14 l15 l16 l17 l18 l19 l20 l21 l22 l23 l24 l25 l26 l27 l28 l29 l30 l31:Int) (r:List Nat):Sk (top r) (Option.bind (jaB (jff l0 l1 l2 l3 l4 l5 l6 l7 l8 l9 l10 l11 l12 l13 l14 l15 l16 l17 l18 l19 l20 l21 l22 l23 l24 l25 l26 l27 l28 l29 l30 l31) big (((0:Int),[(0:Nat),(0:Nat),(0:Nat),(0:Nat),(0:Nat),(0:Nat),(0:Nat),(0:Nat),(0:Nat),(0:Nat),(0:Nat),(0:Nat),(0:Nat),(0:Nat),(0:Nat),(0:Nat),(0:Nat),(0:Nat),(0:Nat),(0:Nat),(0:Nat),(0:Nat),(0:Nat),(0:Nat),(0:Nat),(0:Nat),(0:Nat),(0:Nat),(0:Nat),(0:Nat),(0:Nat),(0:Nat)]))) (jfg)) :=
 .loop (jia l0 l1 l2 l3 l4 l5 l6 l7 l8 l9 l10 l11 l12 l13 l14 l15 l16 l17 l18 l19 l20 l21 l22 l23 l24 l25 l26 l27 l28 l29 l30 l31 r) (fun kk=>(((0:Int),[(0:Nat),(0:Nat),(0:Nat),(0:Nat),(0:Nat),(0:Nat),(0:Nat),(0:Nat),(0:Nat),(0:Nat),(0:Nat),(0:Nat),(0:Nat),(0:Nat),(0:Nat),(0:Nat),(0:Nat),(0:Nat),(0:Nat),(0:Nat),(0:Nat),(0:Nat),(0:Nat),(0:Nat),(0:Nat),(0:Nat),(0:Nat),(0:Nat),(0:Nat),(0:Nat),(0:Nat),(0:Nat)]),big)) fun z0 =>
 .br
 (.ob (.obT (.ob (.ob (.next)))))
 (.exit (.obT (.obT (.obT (.ret (fun r=>(Ob (r=z0.1.2) ∧
 True)) ⟨⟨rfl⟩,trivial⟩)))))
def jon (l0 l1 l2 l3 l4 l5 l6 l7 l8 l9 l10 l11 l12 l13 l14 l15 l16 l17 l18 l19 l20 l21 l22 l23 l24 l25 l26 l27 l28 l29 l30 l31:Int) (r:List Nat):Sk (top r) (jeq l0 l1 l2 l3 l4 l5 l6 l7 l8 l9 l10 l11 l12 l13 l14 l15 l16 l17 l18 l19 l20 l21 l22 l23 l24 l25 l26 l27 l28 l29 l30 l31) :=
 jnl l0 l1 l2 l3 l4 l5 l6 l7 l8 l9 l10 l11 l12 l13 l14 l15 l16 l17 l18 l19 l20 l21 l22 l23 l24 l25 l26 l27 l28 l29 l30 l31 r
theorem jnm (l0 l1 l2 l3 l4 l5 l6 l7 l8 l9 l10 l11 l12 l13 l14 l15 l16 l17 l18 l19 l20 l21 l22 l23 l24 l25 l26 l27 l28 l29 l30 l31:Int) (r:List Nat) (h:Option.bind (jeq l0 l1 l2 l3 l4 l5 l6 l7 l8 l9 l10 l11 l12 l13 l14 l15 l16 l17 l18 l19 l20 l21 l22 l23 l24 l25 l26 l27 l28 l29 l30 l31) some=some r):runT Tryz.f57 (sp0) (fun gs id st=>match id with
 |0=>some ⟨(Int × List Nat) × Nat,fun z=>⟨[(2,.w (.c (.p 0 0 1 0))),(3,.w (.c (.p 1 0 1 0))),(6,.w (.a [.d (.i .i64 l0),.d (.i .i64 l1),.d (.i .i64 l2),.d (.i .i64 l3),.d (.i .i64 l4),.d (.i .i64 l5),.d (.i .i64 l6),.d (.i .i64 l7),.d (.i .i64 l8),.d (.i .i64 l9),.d (.i .i64 l10),.d (.i .i64 l11),.d (.i .i64 l12),.d (.i .i64 l13),.d (.i .i64 l14),.d (.i .i64 l15),.d (.i .i64 l16),.d (.i .i64 l17),.d (.i .i64 l18),.d (.i .i64 l19),.d (.i .i64 l20),.d (.i .i64 l21),.d (.i .i64 l22),.d (.i .i64 l23),.d (.i .i64 l24),.d (.i .i64 l25),.d (.i .i64 l26),.d (.i .i64 l27),.d (.i .i64 l28),.d (.i .i64 l29),.d (.i .i64 l30),.d (.i .i64 l31)])),(7,.w (.c (.d (.i .i64 z.1.1))))],[(0,.arr 47 .f32 32 ([(0:Nat),(0:Nat),(0:Nat),(0:Nat),(0:Nat),(0:Nat),(0:Nat),(0:Nat),(0:Nat),(0:Nat),(0:Nat),(0:Nat),(0:Nat),(0:Nat),(0:Nat),(0:Nat),(0:Nat),(0:Nat),(0:Nat),(0:Nat),(0:Nat),(0:Nat),(0:Nat),(0:Nat),(0:Nat),(0:Nat),(0:Nat),(0:Nat),(0:Nat),(0:Nat),(0:Nat),(0:Nat)])),(1,.arr 47 .f32 32 z.1.2)],2⟩,fun z=>(jia l0 l1 l2 l3 l4 l5 l6 l7 l8 l9 l10 l11 l12 l13 l14 l15 l16 l17 l18 l19 l20 l21 l22 l23 l24 l25 l26 l27 l28 l29 l30 l31 r).inv z,fun z=>z.2⟩
 |_=>none) (jlv jfY [.d (.i .i64 l0),.d (.i .i64 l1),.d (.i .i64 l2),.d (.i .i64 l3),.d (.i .i64 l4),.d (.i .i64 l5),.d (.i .i64 l6),.d (.i .i64 l7),.d (.i .i64 l8),.d (.i .i64 l9),.d (.i .i64 l10),.d (.i .i64 l11),.d (.i .i64 l12),.d (.i .i64 l13),.d (.i .i64 l14),.d (.i .i64 l15),.d (.i .i64 l16),.d (.i .i64 l17),.d (.i .i64 l18),.d (.i .i64 l19),.d (.i .i64 l20),.d (.i .i64 l21),.d (.i .i64 l22),.d (.i .i64 l23),.d (.i .i64 l24),.d (.i .i64 l25),.d (.i .i64 l26),.d (.i .i64 l27),.d (.i .i64 l28),.d (.i .i64 l29),.d (.i .i64 l30),.d (.i .i64 l31)]) [.b .f32 32 r] :=
 Sk.vc (jon l0 l1 l2 l3 l4 l5 l6 l7 l8 l9 l10 l11 l12 l13 l14 l15 l16 l17 l18 l19 l20 l21 l22 l23 l24 l25 l26 l27 l28 l29 l30 l31 r) (by kernel_rfl) h
theorem jnn:jan Tryz.prog 57 true (jaO jfY jfZ):=by
 refine jg5 (sp:=sp0) (fn:=Tryz.f57) (body:=bodyOf Tryz.f57) mixed jfe Tryz.func57 (by kernel_rfl) (by kernel_rfl) fun ls t h ho b hb=>?_
 unfold jfZ at h
 split at h
 ·rename_i l0 l1 l2 l3 l4 l5 l6 l7 l8 l9 l10 l11 l12 l13 l14 l15 l16 l17 l18 l19 l20 l21 l22 l23 l24 l25 l26 l27 l28 l29 l30 l31
  cases h
  obtain rfl:=jfd hb
  exact⟨Nat.le_of_ble_eq_true (by kernel_rfl),_,_,jnm l0 l1 l2 l3 l4 l5 l6 l7 l8 l9 l10 l11 l12 l13 l14 l15 l16 l17 l18 l19 l20 l21 l22 l23 l24 l25 l26 l27 l28 l29 l30 l31 _ (jbp ho)⟩
 ·cases h
def jfh:List SV:=[.c (.p [.p [.d,.x (.st [.s,.i .i64,.ints .i64,.ints .i64,.ints .i64,.i .i64,.recs 5,.i .i64] []),.r (.ints .i64 [])],.d,.x (.ff .f32 []),.x (.rr 4 []),.r (.frs .f32 32 []),.r (.ints .i64 []),.r (.frs .f32 32 []),.x (.rr 4 []),.r (.ints .i64 [])]),.c (.d),.c (.d)]
def y15 (u1:ByteArray) (u3:List (List NC)) (u4:List Int) (u0:Int) (u5:List (List Nat)) (u6:List (List (List Int))) (u7:List (List Nat)) (u9:List Int) (u10:List (List Nat)) (u11:List (List (List Int))) (u12:List Int) (u27:Int) (k:Int):Option Int :=
 if k<0 then
  if 0≤u27∧u27<(↑u5.length:Int)then
  if Int.toNat u27<List.length u5 then
   if 0≤wrap .i64 (128+k)∧wrap .i64 (128+k)<(↑(List.length (List.getD u5 u27.toNat [])):Int)then
   if Int.toNat (wrap .i64 (128+k))<List.length (List.getD u5 u27.toNat [])then
    if jkc .f32 .i64 (List.getD (List.getD u5 u27.toNat []) (Int.toNat (wrap .i64 (128+k))) (0:Nat))=true then
    some (f2i .f32 (List.getD (List.getD u5 u27.toNat []) (Int.toNat (wrap .i64 (128+k))) (0:Nat)))
    else none
   else none
   else none
  else none
  else none
 else
  if 0≤u27∧u27<(↑u10.length:Int)then
  if 0≤k∧k<(↑(32:Nat):Int)then
   if Int.toNat u27<List.length u10∧0+Int.toNat k*1<32 then
   if jkc .f32 .i64 (List.getD (List.getD u10 u27.toNat []) (0+Int.toNat k*1) (0:Nat))=true then
    some (f2i .f32 (List.getD (List.getD u10 u27.toNat []) (0+Int.toNat k*1) (0:Nat)))
   else none
   else none
  else none
  else none
def jfi:List Lf→Option GT
 |[.d (.s u1),.x (.st [.s,.i .i64,.ints .i64,.ints .i64,.ints .i64,.i .i64,.recs 5,.i .i64] u3),.r (.ints .i64 u4),.d (.i .i64 u0),.x (.ff .f32 u5),.x (.rr 4 u6),.r (.frs .f32 32 u7),.r (.ints .i64 u9),.r (.frs .f32 32 u10),.x (.rr 4 u11),.r (.ints .i64 u12),.d (.i .i64 u27),.d (.i .i64 k)]=>some (.leaf (ok (y15 u1 u3 u4 u0 u5 u6 u7 u9 u10 u11 u12 u27 k)) [.c (.d (.i .i64 ((val (y15 u1 u3 u4 u0 u5 u6 u7 u9 u10 u11 u12 u27 k)))))])
 |_=>none
abbrev sp_77:jab→jab:=jbZ 77 true (jaO jfh jfi)
def jno (u1:ByteArray) (u3:List (List NC)) (u4:List Int) (u0:Int) (u5:List (List Nat)) (u6:List (List (List Int))) (u7:List (List Nat)) (u9:List Int) (u10:List (List Nat)) (u11:List (List (List Int))) (u12:List Int) (u27:Int) (k:Int) (r:Int):Sk (top r) (y15 u1 u3 u4 u0 u5 u6 u7 u9 u10 u11 u12 u27 k) :=
 .br
 (.obT (.ob (.ob (.ob (.ob (.ob (.obT (.rc))))))))
 (.obT (.ob (.ob (.ob (.ob (.obT (.rc)))))))
theorem jmg (u1:ByteArray) (u3:List (List NC)) (u4:List Int) (u0:Int) (u5:List (List Nat)) (u6:List (List (List Int))) (u7:List (List Nat)) (u9:List Int) (u10:List (List Nat)) (u11:List (List (List Int))) (u12:List Int) (u27:Int) (k:Int) (r:Int) (h:Option.bind (y15 u1 u3 u4 u0 u5 u6 u7 u9 u10 u11 u12 u27 k) some=some r):runT Tryz.f77 (sp0) (fun _ _ _=>none) (jlv jfh [.d (.s u1),.x (.st [.s,.i .i64,.ints .i64,.ints .i64,.ints .i64,.i .i64,.recs 5,.i .i64] u3),.r (.ints .i64 u4),.d (.i .i64 u0),.x (.ff .f32 u5),.x (.rr 4 u6),.r (.frs .f32 32 u7),.r (.ints .i64 u9),.r (.frs .f32 32 u10),.x (.rr 4 u11),.r (.ints .i64 u12),.d (.i .i64 u27),.d (.i .i64 k)]) [.c (.d (.i .i64 r))] :=
 Sk.vc (jno u1 u3 u4 u0 u5 u6 u7 u9 u10 u11 u12 u27 k r) (by kernel_rfl) h
theorem jmh:jan Tryz.prog 77 true (jaO jfh jfi):=by
 refine jg5 (sp:=sp0) (fn:=Tryz.f77) (body:=bodyOf Tryz.f77) mixed jfe Tryz.func77 (by kernel_rfl) (by kernel_rfl) fun ls t h ho b hb=>?_
 unfold jfi at h
 split at h
 ·rename_i u1 u3 u4 u0 u5 u6 u7 u9 u10 u11 u12 u27 k
  cases h
  obtain rfl:=jfd hb
  exact⟨Nat.le_of_ble_eq_true (by kernel_rfl),_,_,jmg u1 u3 u4 u0 u5 u6 u7 u9 u10 u11 u12 u27 k _ (jbp ho)⟩
 ·cases h
theorem sp_77_ok {sp:jab} (h:jad Tryz.prog sp):jad Tryz.prog (sp_77 sp):=js6 jmh h
def y25:List SV:=[.c (.p [.p [.d,.x (.st [.s,.i .i64,.ints .i64,.ints .i64,.ints .i64,.i .i64,.recs 5,.i .i64] []),.r (.ints .i64 [])],.d,.x (.ff .f32 []),.x (.rr 4 []),.r (.frs .f32 32 []),.r (.ints .i64 []),.r (.frs .f32 32 []),.x (.rr 4 []),.r (.ints .i64 [])]),.a [.d,.d,.r (.ints .i64 []),.r (.ints .i64 []),.r (.ints .i64 []),.d,.r (.recs 5 []),.d],.c (.d),.c (.d)]
def y19 (u1:ByteArray) (u3:List (List NC)) (u4:List Int) (u0:Int) (u5:List (List Nat)) (u6:List (List (List Int))) (u7:List (List Nat)) (u9:List Int) (u10:List (List Nat)) (u11:List (List (List Int))) (u12:List Int) (u16:List Int) (u17:List Int) (u18:Int) (u19:Int) (x0:(Int × Int × Int × Int × Int × Int × Int × Int × Int × Int × Int × Int × Int × Int × Int × Int × Int × Int × Int × Int × Int × Int × Int × Int × Int × Int × Int × Int × Int × Int × Int × Int × Int)):Option ((Int × Int × Int × Int × Int × Int × Int × Int × Int × Int × Int × Int × Int × Int × Int × Int × Int × Int × Int × Int × Int × Int × Int × Int × Int × Int × Int × Int × Int × Int × Int × Int × Int) ⊕ (Int × Int × Int × Int × Int × Int × Int × Int × Int × Int × Int × Int × Int × Int × Int × Int × Int × Int × Int × Int × Int × Int × Int × Int × Int × Int × Int × Int × Int × Int × Int × Int)) :=
 if x0.1<32 then
  if 0≤u18∧u18<(↑u16.length:Int)then
  if Int.toNat u18<List.length u16 then
   if 0≤u18∧u18<(↑u17.length:Int)then
   if Int.toNat u18<List.length u17 then
    Option.bind (y15 u1 u3 u4 u0 u5 u6 u7 u9 u10 u11 u12 (List.getD u16 u18.toNat (0:Int)) (wrap .i64 (wrap .i64 (x0.1-List.getD u17 u18.toNat (0:Int))-u19))) fun r0 =>
    if 0≤x0.1∧x0.1<(↑(32:Nat):Int)then
    if List.getD [true,true,true,true,true,true,true,true,true,true,true,true,true,true,true,true,true,true,true,true,true,true,true,true,true,true,true,true,true,true,true,true] (0+Int.toNat x0.1*1) false=true then
     some (.inl ((wrap .i64 (x0.1+1),bif Nat.beq (0+Int.toNat x0.1*1) 0 then r0 else x0.2.1,bif Nat.beq (0+Int.toNat x0.1*1) 1 then r0 else x0.2.2.1,bif Nat.beq (0+Int.toNat x0.1*1) 2 then r0 else x0.2.2.2.1,bif Nat.beq (0+Int.toNat x0.1*1) 3 then r0 else x0.2.2.2.2.1,bif Nat.beq (0+Int.toNat x0.1*1) 4 then r0 else x0.2.2.2.2.2.1,bif Nat.beq (0+Int.toNat x0.1*1) 5 then r0 else x0.2.2.2.2.2.2.1,bif Nat.beq (0+Int.toNat x0.1*1) 6 then r0 else x0.2.2.2.2.2.2.2.1,bif Nat.beq (0+Int.toNat x0.1*1) 7 then r0 else x0.2.2.2.2.2.2.2.2.1,bif Nat.beq (0+Int.toNat x0.1*1) 8 then r0 else x0.2.2.2.2.2.2.2.2.2.1,bif Nat.beq (0+Int.toNat x0.1*1) 9 then r0 else x0.2.2.2.2.2.2.2.2.2.2.1,bif Nat.beq (0+Int.toNat x0.1*1) 10 then r0 else x0.2.2.2.2.2.2.2.2.2.2.2.1,bif Nat.beq (0+Int.toNat x0.1*1) 11 then r0 else x0.2.2.2.2.2.2.2.2.2.2.2.2.1,bif Nat.beq (0+Int.toNat x0.1*1) 12 then r0 else x0.2.2.2.2.2.2.2.2.2.2.2.2.2.1,bif Nat.beq (0+Int.toNat x0.1*1) 13 then r0 else x0.2.2.2.2.2.2.2.2.2.2.2.2.2.2.1,bif Nat.beq (0+Int.toNat x0.1*1) 14 then r0 else x0.2.2.2.2.2.2.2.2.2.2.2.2.2.2.2.1,bif Nat.beq (0+Int.toNat x0.1*1) 15 then r0 else x0.2.2.2.2.2.2.2.2.2.2.2.2.2.2.2.2.1,bif Nat.beq (0+Int.toNat x0.1*1) 16 then r0 else x0.2.2.2.2.2.2.2.2.2.2.2.2.2.2.2.2.2.1,bif Nat.beq (0+Int.toNat x0.1*1) 17 then r0 else x0.2.2.2.2.2.2.2.2.2.2.2.2.2.2.2.2.2.2.1,bif Nat.beq (0+Int.toNat x0.1*1) 18 then r0 else x0.2.2.2.2.2.2.2.2.2.2.2.2.2.2.2.2.2.2.2.1,bif Nat.beq (0+Int.toNat x0.1*1) 19 then r0 else x0.2.2.2.2.2.2.2.2.2.2.2.2.2.2.2.2.2.2.2.2.1,bif Nat.beq (0+Int.toNat x0.1*1) 20 then r0 else x0.2.2.2.2.2.2.2.2.2.2.2.2.2.2.2.2.2.2.2.2.2.1,bif Nat.beq (0+Int.toNat x0.1*1) 21 then r0 else x0.2.2.2.2.2.2.2.2.2.2.2.2.2.2.2.2.2.2.2.2.2.2.1,bif Nat.beq (0+Int.toNat x0.1*1) 22 then r0 else x0.2.2.2.2.2.2.2.2.2.2.2.2.2.2.2.2.2.2.2.2.2.2.2.1,bif Nat.beq (0+Int.toNat x0.1*1) 23 then r0 else x0.2.2.2.2.2.2.2.2.2.2.2.2.2.2.2.2.2.2.2.2.2.2.2.2.1,bif Nat.beq (0+Int.toNat x0.1*1) 24 then r0 else x0.2.2.2.2.2.2.2.2.2.2.2.2.2.2.2.2.2.2.2.2.2.2.2.2.2.1,bif Nat.beq (0+Int.toNat x0.1*1) 25 then r0 else x0.2.2.2.2.2.2.2.2.2.2.2.2.2.2.2.2.2.2.2.2.2.2.2.2.2.2.1,bif Nat.beq (0+Int.toNat x0.1*1) 26 then r0 else x0.2.2.2.2.2.2.2.2.2.2.2.2.2.2.2.2.2.2.2.2.2.2.2.2.2.2.2.1,bif Nat.beq (0+Int.toNat x0.1*1) 27 then r0 else x0.2.2.2.2.2.2.2.2.2.2.2.2.2.2.2.2.2.2.2.2.2.2.2.2.2.2.2.2.1,bif Nat.beq (0+Int.toNat x0.1*1) 28 then r0 else x0.2.2.2.2.2.2.2.2.2.2.2.2.2.2.2.2.2.2.2.2.2.2.2.2.2.2.2.2.2.1,bif Nat.beq (0+Int.toNat x0.1*1) 29 then r0 else x0.2.2.2.2.2.2.2.2.2.2.2.2.2.2.2.2.2.2.2.2.2.2.2.2.2.2.2.2.2.2.1,bif Nat.beq (0+Int.toNat x0.1*1) 30 then r0 else x0.2.2.2.2.2.2.2.2.2.2.2.2.2.2.2.2.2.2.2.2.2.2.2.2.2.2.2.2.2.2.2.1,bif Nat.beq (0+Int.toNat x0.1*1) 31 then r0 else x0.2.2.2.2.2.2.2.2.2.2.2.2.2.2.2.2.2.2.2.2.2.2.2.2.2.2.2.2.2.2.2.2)))
    else none
    else none
   else none
   else none
  else none
  else none
 else
  some (.inr (x0.2.1,x0.2.2.1,x0.2.2.2.1,x0.2.2.2.2.1,x0.2.2.2.2.2.1,x0.2.2.2.2.2.2.1,x0.2.2.2.2.2.2.2.1,x0.2.2.2.2.2.2.2.2.1,x0.2.2.2.2.2.2.2.2.2.1,x0.2.2.2.2.2.2.2.2.2.2.1,x0.2.2.2.2.2.2.2.2.2.2.2.1,x0.2.2.2.2.2.2.2.2.2.2.2.2.1,x0.2.2.2.2.2.2.2.2.2.2.2.2.2.1,x0.2.2.2.2.2.2.2.2.2.2.2.2.2.2.1,x0.2.2.2.2.2.2.2.2.2.2.2.2.2.2.2.1,x0.2.2.2.2.2.2.2.2.2.2.2.2.2.2.2.2.1,x0.2.2.2.2.2.2.2.2.2.2.2.2.2.2.2.2.2.1,x0.2.2.2.2.2.2.2.2.2.2.2.2.2.2.2.2.2.2.1,x0.2.2.2.2.2.2.2.2.2.2.2.2.2.2.2.2.2.2.2.1,x0.2.2.2.2.2.2.2.2.2.2.2.2.2.2.2.2.2.2.2.2.1,x0.2.2.2.2.2.2.2.2.2.2.2.2.2.2.2.2.2.2.2.2.2.1,x0.2.2.2.2.2.2.2.2.2.2.2.2.2.2.2.2.2.2.2.2.2.2.1,x0.2.2.2.2.2.2.2.2.2.2.2.2.2.2.2.2.2.2.2.2.2.2.2.1,x0.2.2.2.2.2.2.2.2.2.2.2.2.2.2.2.2.2.2.2.2.2.2.2.2.1,x0.2.2.2.2.2.2.2.2.2.2.2.2.2.2.2.2.2.2.2.2.2.2.2.2.2.1,x0.2.2.2.2.2.2.2.2.2.2.2.2.2.2.2.2.2.2.2.2.2.2.2.2.2.2.1,x0.2.2.2.2.2.2.2.2.2.2.2.2.2.2.2.2.2.2.2.2.2.2.2.2.2.2.2.1,x0.2.2.2.2.2.2.2.2.2.2.2.2.2.2.2.2.2.2.2.2.2.2.2.2.2.2.2.2.1,x0.2.2.2.2.2.2.2.2.2.2.2.2.2.2.2.2.2.2.2.2.2.2.2.2.2.2.2.2.2.1,x0.2.2.2.2.2.2.2.2.2.2.2.2.2.2.2.2.2.2.2.2.2.2.2.2.2.2.2.2.2.2.1,x0.2.2.2.2.2.2.2.2.2.2.2.2.2.2.2.2.2.2.2.2.2.2.2.2.2.2.2.2.2.2.2.1,x0.2.2.2.2.2.2.2.2.2.2.2.2.2.2.2.2.2.2.2.2.2.2.2.2.2.2.2.2.2.2.2.2))
def y20 (u15:Int × Int × Int × Int × Int × Int × Int × Int × Int × Int × Int × Int × Int × Int × Int × Int × Int × Int × Int × Int × Int × Int × Int × Int × Int × Int × Int × Int × Int × Int × Int × Int):Option (Int × Int × Int × Int × Int × Int × Int × Int × Int × Int × Int × Int × Int × Int × Int × Int × Int × Int × Int × Int × Int × Int × Int × Int × Int × Int × Int × Int × Int × Int × Int × Int) :=
 some (u15.1,u15.2.1,u15.2.2.1,u15.2.2.2.1,u15.2.2.2.2.1,u15.2.2.2.2.2.1,u15.2.2.2.2.2.2.1,u15.2.2.2.2.2.2.2.1,u15.2.2.2.2.2.2.2.2.1,u15.2.2.2.2.2.2.2.2.2.1,u15.2.2.2.2.2.2.2.2.2.2.1,u15.2.2.2.2.2.2.2.2.2.2.2.1,u15.2.2.2.2.2.2.2.2.2.2.2.2.1,u15.2.2.2.2.2.2.2.2.2.2.2.2.2.1,u15.2.2.2.2.2.2.2.2.2.2.2.2.2.2.1,u15.2.2.2.2.2.2.2.2.2.2.2.2.2.2.2.1,u15.2.2.2.2.2.2.2.2.2.2.2.2.2.2.2.2.1,u15.2.2.2.2.2.2.2.2.2.2.2.2.2.2.2.2.2.1,u15.2.2.2.2.2.2.2.2.2.2.2.2.2.2.2.2.2.2.1,u15.2.2.2.2.2.2.2.2.2.2.2.2.2.2.2.2.2.2.2.1,u15.2.2.2.2.2.2.2.2.2.2.2.2.2.2.2.2.2.2.2.2.1,u15.2.2.2.2.2.2.2.2.2.2.2.2.2.2.2.2.2.2.2.2.2.1,u15.2.2.2.2.2.2.2.2.2.2.2.2.2.2.2.2.2.2.2.2.2.2.1,u15.2.2.2.2.2.2.2.2.2.2.2.2.2.2.2.2.2.2.2.2.2.2.2.1,u15.2.2.2.2.2.2.2.2.2.2.2.2.2.2.2.2.2.2.2.2.2.2.2.2.1,u15.2.2.2.2.2.2.2.2.2.2.2.2.2.2.2.2.2.2.2.2.2.2.2.2.2.1,u15.2.2.2.2.2.2.2.2.2.2.2.2.2.2.2.2.2.2.2.2.2.2.2.2.2.2.1,u15.2.2.2.2.2.2.2.2.2.2.2.2.2.2.2.2.2.2.2.2.2.2.2.2.2.2.2.1,u15.2.2.2.2.2.2.2.2.2.2.2.2.2.2.2.2.2.2.2.2.2.2.2.2.2.2.2.2.1,u15.2.2.2.2.2.2.2.2.2.2.2.2.2.2.2.2.2.2.2.2.2.2.2.2.2.2.2.2.2.1,u15.2.2.2.2.2.2.2.2.2.2.2.2.2.2.2.2.2.2.2.2.2.2.2.2.2.2.2.2.2.2.1,u15.2.2.2.2.2.2.2.2.2.2.2.2.2.2.2.2.2.2.2.2.2.2.2.2.2.2.2.2.2.2.2)
def y0 (u1:ByteArray) (u3:List (List NC)) (u4:List Int) (u0:Int) (u5:List (List Nat)) (u6:List (List (List Int))) (u7:List (List Nat)) (u9:List Int) (u10:List (List Nat)) (u11:List (List (List Int))) (u12:List Int) (u21:ByteArray) (u22:Int) (u16:List Int) (u17:List Int) (u23:List Int) (u24:Int) (u25:List (List Int)) (u26:Int) (u18:Int) (u19:Int):Option (Int × Int × Int × Int × Int × Int × Int × Int × Int × Int × Int × Int × Int × Int × Int × Int × Int × Int × Int × Int × Int × Int × Int × Int × Int × Int × Int × Int × Int × Int × Int × Int) :=
 Option.bind (jaB (y19 u1 u3 u4 u0 u5 u6 u7 u9 u10 u11 u12 u16 u17 u18 u19) big (((0:Int),0,0,0,0,0,0,0,0,0,0,0,0,0,0,0,0,0,0,0,0,0,0,0,0,0,0,0,0,0,0,0,0))) (y20)
def y26:List Lf→Option GT
 |[.d (.s u1),.x (.st [.s,.i .i64,.ints .i64,.ints .i64,.ints .i64,.i .i64,.recs 5,.i .i64] u3),.r (.ints .i64 u4),.d (.i .i64 u0),.x (.ff .f32 u5),.x (.rr 4 u6),.r (.frs .f32 32 u7),.r (.ints .i64 u9),.r (.frs .f32 32 u10),.x (.rr 4 u11),.r (.ints .i64 u12),.d (.s u21),.d (.i .i64 u22),.r (.ints .i64 u16),.r (.ints .i64 u17),.r (.ints .i64 u23),.d (.i .i64 u24),.r (.recs 5 u25),.d (.i .i64 u26),.d (.i .i64 u18),.d (.i .i64 u19)]=>some (.leaf (ok (y0 u1 u3 u4 u0 u5 u6 u7 u9 u10 u11 u12 u21 u22 u16 u17 u23 u24 u25 u26 u18 u19)) [.s [.d (.i .i64 ((val (y0 u1 u3 u4 u0 u5 u6 u7 u9 u10 u11 u12 u21 u22 u16 u17 u23 u24 u25 u26 u18 u19)).1)),.d (.i .i64 ((val (y0 u1 u3 u4 u0 u5 u6 u7 u9 u10 u11 u12 u21 u22 u16 u17 u23 u24 u25 u26 u18 u19)).2.1)),.d (.i .i64 ((val (y0 u1 u3 u4 u0 u5 u6 u7 u9 u10 u11 u12 u21 u22 u16 u17 u23 u24 u25 u26 u18 u19)).2.2.1)),.d (.i .i64 ((val (y0 u1 u3 u4 u0 u5 u6 u7 u9 u10 u11 u12 u21 u22 u16 u17 u23 u24 u25 u26 u18 u19)).2.2.2.1)),.d (.i .i64 ((val (y0 u1 u3 u4 u0 u5 u6 u7 u9 u10 u11 u12 u21 u22 u16 u17 u23 u24 u25 u26 u18 u19)).2.2.2.2.1)),.d (.i .i64 ((val (y0 u1 u3 u4 u0 u5 u6 u7 u9 u10 u11 u12 u21 u22 u16 u17 u23 u24 u25 u26 u18 u19)).2.2.2.2.2.1)),.d (.i .i64 ((val (y0 u1 u3 u4 u0 u5 u6 u7 u9 u10 u11 u12 u21 u22 u16 u17 u23 u24 u25 u26 u18 u19)).2.2.2.2.2.2.1)),.d (.i .i64 ((val (y0 u1 u3 u4 u0 u5 u6 u7 u9 u10 u11 u12 u21 u22 u16 u17 u23 u24 u25 u26 u18 u19)).2.2.2.2.2.2.2.1)),.d (.i .i64 ((val (y0 u1 u3 u4 u0 u5 u6 u7 u9 u10 u11 u12 u21 u22 u16 u17 u23 u24 u25 u26 u18 u19)).2.2.2.2.2.2.2.2.1)),.d (.i .i64 ((val (y0 u1 u3 u4 u0 u5 u6 u7 u9 u10 u11 u12 u21 u22 u16 u17 u23 u24 u25 u26 u18 u19)).2.2.2.2.2.2.2.2.2.1)),.d (.i .i64 ((val (y0 u1 u3 u4 u0 u5 u6 u7 u9 u10 u11 u12 u21 u22 u16 u17 u23 u24 u25 u26 u18 u19)).2.2.2.2.2.2.2.2.2.2.1)),.d (.i .i64 ((val (y0 u1 u3 u4 u0 u5 u6 u7 u9 u10 u11 u12 u21 u22 u16 u17 u23 u24 u25 u26 u18 u19)).2.2.2.2.2.2.2.2.2.2.2.1)),.d (.i .i64 ((val (y0 u1 u3 u4 u0 u5 u6 u7 u9 u10 u11 u12 u21 u22 u16 u17 u23 u24 u25 u26 u18 u19)).2.2.2.2.2.2.2.2.2.2.2.2.1)),.d (.i .i64 ((val (y0 u1 u3 u4 u0 u5 u6 u7 u9 u10 u11 u12 u21 u22 u16 u17 u23 u24 u25 u26 u18 u19)).2.2.2.2.2.2.2.2.2.2.2.2.2.1)),.d (.i .i64 ((val (y0 u1 u3 u4 u0 u5 u6 u7 u9 u10 u11 u12 u21 u22 u16 u17 u23 u24 u25 u26 u18 u19)).2.2.2.2.2.2.2.2.2.2.2.2.2.2.1)),.d (.i .i64 ((val (y0 u1 u3 u4 u0 u5 u6 u7 u9 u10 u11 u12 u21 u22 u16 u17 u23 u24 u25 u26 u18 u19)).2.2.2.2.2.2.2.2.2.2.2.2.2.2.2.1)),.d (.i .i64 ((val (y0 u1 u3 u4 u0 u5 u6 u7 u9 u10 u11 u12 u21 u22 u16 u17 u23 u24 u25 u26 u18 u19)).2.2.2.2.2.2.2.2.2.2.2.2.2.2.2.2.1)),.d (.i .i64 ((val (y0 u1 u3 u4 u0 u5 u6 u7 u9 u10 u11 u12 u21 u22 u16 u17 u23 u24 u25 u26 u18 u19)).2.2.2.2.2.2.2.2.2.2.2.2.2.2.2.2.2.1)),.d (.i .i64 ((val (y0 u1 u3 u4 u0 u5 u6 u7 u9 u10 u11 u12 u21 u22 u16 u17 u23 u24 u25 u26 u18 u19)).2.2.2.2.2.2.2.2.2.2.2.2.2.2.2.2.2.2.1)),.d (.i .i64 ((val (y0 u1 u3 u4 u0 u5 u6 u7 u9 u10 u11 u12 u21 u22 u16 u17 u23 u24 u25 u26 u18 u19)).2.2.2.2.2.2.2.2.2.2.2.2.2.2.2.2.2.2.2.1)),.d (.i .i64 ((val (y0 u1 u3 u4 u0 u5 u6 u7 u9 u10 u11 u12 u21 u22 u16 u17 u23 u24 u25 u26 u18 u19)).2.2.2.2.2.2.2.2.2.2.2.2.2.2.2.2.2.2.2.2.1)),.d (.i .i64 ((val (y0 u1 u3 u4 u0 u5 u6 u7 u9 u10 u11 u12 u21 u22 u16 u17 u23 u24 u25 u26 u18 u19)).2.2.2.2.2.2.2.2.2.2.2.2.2.2.2.2.2.2.2.2.2.1)),.d (.i .i64 ((val (y0 u1 u3 u4 u0 u5 u6 u7 u9 u10 u11 u12 u21 u22 u16 u17 u23 u24 u25 u26 u18 u19)).2.2.2.2.2.2.2.2.2.2.2.2.2.2.2.2.2.2.2.2.2.2.1)),.d (.i .i64 ((val (y0 u1 u3 u4 u0 u5 u6 u7 u9 u10 u11 u12 u21 u22 u16 u17 u23 u24 u25 u26 u18 u19)).2.2.2.2.2.2.2.2.2.2.2.2.2.2.2.2.2.2.2.2.2.2.2.1)),.d (.i .i64 ((val (y0 u1 u3 u4 u0 u5 u6 u7 u9 u10 u11 u12 u21 u22 u16 u17 u23 u24 u25 u26 u18 u19)).2.2.2.2.2.2.2.2.2.2.2.2.2.2.2.2.2.2.2.2.2.2.2.2.1)),.d (.i .i64 ((val (y0 u1 u3 u4 u0 u5 u6 u7 u9 u10 u11 u12 u21 u22 u16 u17 u23 u24 u25 u26 u18 u19)).2.2.2.2.2.2.2.2.2.2.2.2.2.2.2.2.2.2.2.2.2.2.2.2.2.1)),.d (.i .i64 ((val (y0 u1 u3 u4 u0 u5 u6 u7 u9 u10 u11 u12 u21 u22 u16 u17 u23 u24 u25 u26 u18 u19)).2.2.2.2.2.2.2.2.2.2.2.2.2.2.2.2.2.2.2.2.2.2.2.2.2.2.1)),.d (.i .i64 ((val (y0 u1 u3 u4 u0 u5 u6 u7 u9 u10 u11 u12 u21 u22 u16 u17 u23 u24 u25 u26 u18 u19)).2.2.2.2.2.2.2.2.2.2.2.2.2.2.2.2.2.2.2.2.2.2.2.2.2.2.2.1)),.d (.i .i64 ((val (y0 u1 u3 u4 u0 u5 u6 u7 u9 u10 u11 u12 u21 u22 u16 u17 u23 u24 u25 u26 u18 u19)).2.2.2.2.2.2.2.2.2.2.2.2.2.2.2.2.2.2.2.2.2.2.2.2.2.2.2.2.1)),.d (.i .i64 ((val (y0 u1 u3 u4 u0 u5 u6 u7 u9 u10 u11 u12 u21 u22 u16 u17 u23 u24 u25 u26 u18 u19)).2.2.2.2.2.2.2.2.2.2.2.2.2.2.2.2.2.2.2.2.2.2.2.2.2.2.2.2.2.1)),.d (.i .i64 ((val (y0 u1 u3 u4 u0 u5 u6 u7 u9 u10 u11 u12 u21 u22 u16 u17 u23 u24 u25 u26 u18 u19)).2.2.2.2.2.2.2.2.2.2.2.2.2.2.2.2.2.2.2.2.2.2.2.2.2.2.2.2.2.2.1)),.d (.i .i64 ((val (y0 u1 u3 u4 u0 u5 u6 u7 u9 u10 u11 u12 u21 u22 u16 u17 u23 u24 u25 u26 u18 u19)).2.2.2.2.2.2.2.2.2.2.2.2.2.2.2.2.2.2.2.2.2.2.2.2.2.2.2.2.2.2.2))]])
 |_=>none
abbrev jfj (u1:ByteArray) (u3:List (List NC)) (u4:List Int) (u0:Int) (u5:List (List Nat)) (u6:List (List (List Int))) (u7:List (List Nat)) (u9:List Int) (u10:List (List Nat)) (u11:List (List (List Int))) (u12:List Int) (u21:ByteArray) (u22:Int) (u16:List Int) (u17:List Int) (u23:List Int) (u24:Int) (u25:List (List Int)) (u26:Int) (u18:Int) (u19:Int) (r:Int × Int × Int × Int × Int × Int × Int × Int × Int × Int × Int × Int × Int × Int × Int × Int × Int × Int × Int × Int × Int × Int × Int × Int × Int × Int × Int × Int × Int × Int × Int × Int):Lp ((Int × Int × Int × Int × Int × Int × Int × Int × Int × Int × Int × Int × Int × Int × Int × Int × Int × Int × Int × Int × Int × Int × Int × Int × Int × Int × Int × Int × Int × Int × Int × Int × Int) × Nat) (Int × Int × Int × Int × Int × Int × Int × Int × Int × Int × Int × Int × Int × Int × Int × Int × Int × Int × Int × Int × Int × Int × Int × Int × Int × Int × Int × Int × Int × Int × Int × Int × Int) (Int × Int × Int × Int × Int × Int × Int × Int × Int × Int × Int × Int × Int × Int × Int × Int × Int × Int × Int × Int × Int × Int × Int × Int × Int × Int × Int × Int × Int × Int × Int × Int) (Int × Int × Int × Int × Int × Int × Int × Int × Int × Int × Int × Int × Int × Int × Int × Int × Int × Int × Int × Int × Int × Int × Int × Int × Int × Int × Int × Int × Int × Int × Int × Int) (Int × Int × Int × Int × Int × Int × Int × Int × Int × Int × Int × Int × Int × Int × Int × Int × Int × Int × Int × Int × Int × Int × Int × Int × Int × Int × Int × Int × Int × Int × Int × Int) :=
 ⟨fun z=>z.1,fun z=>z.2,fun z x n=>(x,n),fun z=>y19 u1 u3 u4 u0 u5 u6 u7 u9 u10 u11 u12 u16 u17 u18 u19,fun z=>y20,fun z=>top r,fun z=>0,[.c fun _=>0,.c fun _=>u18,.c fun _=>u19,.c fun _=>0,.c fun _=>0,.c fun _=>0,.c fun vv=>vv.1.1,.c fun _=>0,.c fun _=>u0,.c fun _=>u21,.c fun _=>u22,.c fun _=>u24,.c fun _=>u26,.c fun _=>(0:Int),.c fun _=>(0:Int),.c fun _=>(0:Int),.c fun _=>(0:Int),.c fun _=>(0:Int),.c fun _=>(0:Int),.c fun _=>(0:Int),.c fun _=>(0:Int),.c fun _=>(0:Int),.c fun _=>(0:Int),.c fun _=>(0:Int),.c fun _=>(0:Int),.c fun _=>(0:Int),.c fun _=>(0:Int),.c fun _=>(0:Int),.c fun _=>(0:Int),.c fun _=>(0:Int),.c fun _=>(0:Int),.c fun _=>(0:Int),.c fun _=>(0:Int),.c fun _=>(0:Int),.c fun _=>(0:Int),.c fun _=>(0:Int),.c fun _=>(0:Int),.c fun _=>(0:Int),.c fun _=>(0:Int),.c fun _=>(0:Int),.c fun _=>(0:Int),.c fun _=>(0:Int),.c fun _=>(0:Int),.c fun _=>(0:Int),.c fun _=>(0:Int),.c fun vv=>vv.1.2.1,.c fun vv=>vv.1.2.2.1,.c fun vv=>vv.1.2.2.2.1,.c fun vv=>vv.1.2.2.2.2.1,.c fun vv=>vv.1.2.2.2.2.2.1,.c fun vv=>vv.1.2.2.2.2.2.2.1,.c fun vv=>vv.1.2.2.2.2.2.2.2.1,.c fun vv=>vv.1.2.2.2.2.2.2.2.2.1,.c fun vv=>vv.1.2.2.2.2.2.2.2.2.2.1,.c fun vv=>vv.1.2.2.2.2.2.2.2.2.2.2.1,.c fun vv=>vv.1.2.2.2.2.2.2.2.2.2.2.2.1,.c fun vv=>vv.1.2.2.2.2.2.2.2.2.2.2.2.2.1,.c fun vv=>vv.1.2.2.2.2.2.2.2.2.2.2.2.2.2.1,.c fun vv=>vv.1.2.2.2.2.2.2.2.2.2.2.2.2.2.2.1,.c fun vv=>vv.1.2.2.2.2.2.2.2.2.2.2.2.2.2.2.2.1,.c fun vv=>vv.1.2.2.2.2.2.2.2.2.2.2.2.2.2.2.2.2.1,.c fun vv=>vv.1.2.2.2.2.2.2.2.2.2.2.2.2.2.2.2.2.2.1,.c fun vv=>vv.1.2.2.2.2.2.2.2.2.2.2.2.2.2.2.2.2.2.2.1,.c fun vv=>vv.1.2.2.2.2.2.2.2.2.2.2.2.2.2.2.2.2.2.2.2.1,.c fun vv=>vv.1.2.2.2.2.2.2.2.2.2.2.2.2.2.2.2.2.2.2.2.2.1,.c fun vv=>vv.1.2.2.2.2.2.2.2.2.2.2.2.2.2.2.2.2.2.2.2.2.2.1,.c fun vv=>vv.1.2.2.2.2.2.2.2.2.2.2.2.2.2.2.2.2.2.2.2.2.2.2.1,.c fun vv=>vv.1.2.2.2.2.2.2.2.2.2.2.2.2.2.2.2.2.2.2.2.2.2.2.2.1,.c fun vv=>vv.1.2.2.2.2.2.2.2.2.2.2.2.2.2.2.2.2.2.2.2.2.2.2.2.2.1,.c fun vv=>vv.1.2.2.2.2.2.2.2.2.2.2.2.2.2.2.2.2.2.2.2.2.2.2.2.2.2.1,.c fun vv=>vv.1.2.2.2.2.2.2.2.2.2.2.2.2.2.2.2.2.2.2.2.2.2.2.2.2.2.2.1,.c fun vv=>vv.1.2.2.2.2.2.2.2.2.2.2.2.2.2.2.2.2.2.2.2.2.2.2.2.2.2.2.2.1,.c fun vv=>vv.1.2.2.2.2.2.2.2.2.2.2.2.2.2.2.2.2.2.2.2.2.2.2.2.2.2.2.2.2.1,.c fun vv=>vv.1.2.2.2.2.2.2.2.2.2.2.2.2.2.2.2.2.2.2.2.2.2.2.2.2.2.2.2.2.2.1,.c fun vv=>vv.1.2.2.2.2.2.2.2.2.2.2.2.2.2.2.2.2.2.2.2.2.2.2.2.2.2.2.2.2.2.2.1,.c fun vv=>vv.1.2.2.2.2.2.2.2.2.2.2.2.2.2.2.2.2.2.2.2.2.2.2.2.2.2.2.2.2.2.2.2.1,.c fun vv=>vv.1.2.2.2.2.2.2.2.2.2.2.2.2.2.2.2.2.2.2.2.2.2.2.2.2.2.2.2.2.2.2.2.2,.c fun _=>u1,.c fun _=>u5,.c fun _=>u6,.c fun _=>u7,.c fun _=>u9,.c fun _=>u10,.c fun _=>u11,.c fun _=>u12,.c fun _=>u16,.c fun _=>u17,.c fun _=>u23,.c fun _=>u25,.c fun _=>u3,.c fun _=>u4]⟩
def jjK (u1:ByteArray) (u3:List (List NC)) (u4:List Int) (u0:Int) (u5:List (List Nat)) (u6:List (List (List Int))) (u7:List (List Nat)) (u9:List Int) (u10:List (List Nat)) (u11:List (List (List Int))) (u12:List Int) (u21:ByteArray) (u22:Int) (u16:List Int) (u17:List Int) (u23:List Int) (u24:Int) (u25:List (List Int)) (u26:Int) (u18:Int) (u19:Int) (r:Int × Int × Int × Int × Int × Int × Int × Int × Int × Int × Int × Int × Int × Int × Int × Int × Int × Int × Int × Int × Int × Int × Int × Int × Int × Int × Int × Int × Int × Int × Int × Int):Sk (top r) (Option.bind (jaB (y19 u1 u3 u4 u0 u5 u6 u7 u9 u10 u11 u12 u16 u17 u18 u19) big (((0:Int),0,0,0,0,0,0,0,0,0,0,0,0,0,0,0,0,0,0,0,0,0,0,0,0,0,0,0,0,0,0,0,0))) (y20)) :=
 .loop (jfj u1 u3 u4 u0 u5 u6 u7 u9 u10 u11 u12 u21 u22 u16 u17 u23 u24 u25 u26 u18 u19 r) (fun kk=>(((0:Int),0,0,0,0,0,0,0,0,0,0,0,0,0,0,0,0,0,0,0,0,0,0,0,0,0,0,0,0,0,0,0,0),big)) fun z0 =>
 .br
 (.ob (.ob (.ob (.ob (.call (.ob (.ob (.next))))))))
 (.exit (.obT (.rc)))
def jkI (u1:ByteArray) (u3:List (List NC)) (u4:List Int) (u0:Int) (u5:List (List Nat)) (u6:List (List (List Int))) (u7:List (List Nat)) (u9:List Int) (u10:List (List Nat)) (u11:List (List (List Int))) (u12:List Int) (u21:ByteArray) (u22:Int) (u16:List Int) (u17:List Int) (u23:List Int) (u24:Int) (u25:List (List Int)) (u26:Int) (u18:Int) (u19:Int) (r:Int × Int × Int × Int × Int × Int × Int × Int × Int × Int × Int × Int × Int × Int × Int × Int × Int × Int × Int × Int × Int × Int × Int × Int × Int × Int × Int × Int × Int × Int × Int × Int):Sk (top r) (y0 u1 u3 u4 u0 u5 u6 u7 u9 u10 u11 u12 u21 u22 u16 u17 u23 u24 u25 u26 u18 u19) :=
 jjK u1 u3 u4 u0 u5 u6 u7 u9 u10 u11 u12 u21 u22 u16 u17 u23 u24 u25 u26 u18 u19 r
theorem jjL (u1:ByteArray) (u3:List (List NC)) (u4:List Int) (u0:Int) (u5:List (List Nat)) (u6:List (List (List Int))) (u7:List (List Nat)) (u9:List Int) (u10:List (List Nat)) (u11:List (List (List Int))) (u12:List Int) (u21:ByteArray) (u22:Int) (u16:List Int) (u17:List Int) (u23:List Int) (u24:Int) (u25:List (List Int)) (u26:Int) (u18:Int) (u19:Int) (r:Int × Int × Int × Int × Int × Int × Int × Int × Int × Int × Int × Int × Int × Int × Int × Int × Int × Int × Int × Int × Int × Int × Int × Int × Int × Int × Int × Int × Int × Int × Int × Int) (h:Option.bind (y0 u1 u3 u4 u0 u5 u6 u7 u9 u10 u11 u12 u21 u22 u16 u17 u23 u24 u25 u26 u18 u19) some=some r):runT Tryz.f60 ((sp_77 sp0)) (fun gs id st=>match id with
 |0=>some ⟨(Int × Int × Int × Int × Int × Int × Int × Int × Int × Int × Int × Int × Int × Int × Int × Int × Int × Int × Int × Int × Int × Int × Int × Int × Int × Int × Int × Int × Int × Int × Int × Int × Int) × Nat,fun z=>⟨[(0,.w (.c (.p 10 0 1 0))),(2,.w (.c (.d (.i .i64 u18)))),(3,.w (.c (.d (.i .i64 u19)))),(5,.w (.c (.p 15 0 1 0))),(8,.w (.c (.p 16 0 1 0))),(9,.w (.c (.p 17 0 1 0))),(11,.w (.c (.d (.i .i64 z.1.1))))],[(10,.ebox [.p 2 0 1 0,.d (.i .i64 u0),.o 3,.o 4,.o 5,.o 6,.o 7,.o 8,.o 9]),(15,.box 66 [.d (.s u21),.d (.i .i64 u22),.o 11,.o 12,.o 13,.d (.i .i64 u24),.o 14,.d (.i .i64 u26)]),(16,.box 123 [.d (.i .i64 0),.d (.i .i64 0),.d (.i .i64 0),.d (.i .i64 0),.d (.i .i64 0),.d (.i .i64 0),.d (.i .i64 0),.d (.i .i64 0),.d (.i .i64 0),.d (.i .i64 0),.d (.i .i64 0),.d (.i .i64 0),.d (.i .i64 0),.d (.i .i64 0),.d (.i .i64 0),.d (.i .i64 0),.d (.i .i64 0),.d (.i .i64 0),.d (.i .i64 0),.d (.i .i64 0),.d (.i .i64 0),.d (.i .i64 0),.d (.i .i64 0),.d (.i .i64 0),.d (.i .i64 0),.d (.i .i64 0),.d (.i .i64 0),.d (.i .i64 0),.d (.i .i64 0),.d (.i .i64 0),.d (.i .i64 0),.d (.i .i64 0)]),(17,.box 123 [.d (.i .i64 z.1.2.1),.d (.i .i64 z.1.2.2.1),.d (.i .i64 z.1.2.2.2.1),.d (.i .i64 z.1.2.2.2.2.1),.d (.i .i64 z.1.2.2.2.2.2.1),.d (.i .i64 z.1.2.2.2.2.2.2.1),.d (.i .i64 z.1.2.2.2.2.2.2.2.1),.d (.i .i64 z.1.2.2.2.2.2.2.2.2.1),.d (.i .i64 z.1.2.2.2.2.2.2.2.2.2.1),.d (.i .i64 z.1.2.2.2.2.2.2.2.2.2.2.1),.d (.i .i64 z.1.2.2.2.2.2.2.2.2.2.2.2.1),.d (.i .i64 z.1.2.2.2.2.2.2.2.2.2.2.2.2.1),.d (.i .i64 z.1.2.2.2.2.2.2.2.2.2.2.2.2.2.1),.d (.i .i64 z.1.2.2.2.2.2.2.2.2.2.2.2.2.2.2.1),.d (.i .i64 z.1.2.2.2.2.2.2.2.2.2.2.2.2.2.2.2.1),.d (.i .i64 z.1.2.2.2.2.2.2.2.2.2.2.2.2.2.2.2.2.1),.d (.i .i64 z.1.2.2.2.2.2.2.2.2.2.2.2.2.2.2.2.2.2.1),.d (.i .i64 z.1.2.2.2.2.2.2.2.2.2.2.2.2.2.2.2.2.2.2.1),.d (.i .i64 z.1.2.2.2.2.2.2.2.2.2.2.2.2.2.2.2.2.2.2.2.1),.d (.i .i64 z.1.2.2.2.2.2.2.2.2.2.2.2.2.2.2.2.2.2.2.2.2.1),.d (.i .i64 z.1.2.2.2.2.2.2.2.2.2.2.2.2.2.2.2.2.2.2.2.2.2.1),.d (.i .i64 z.1.2.2.2.2.2.2.2.2.2.2.2.2.2.2.2.2.2.2.2.2.2.2.1),.d (.i .i64 z.1.2.2.2.2.2.2.2.2.2.2.2.2.2.2.2.2.2.2.2.2.2.2.2.1),.d (.i .i64 z.1.2.2.2.2.2.2.2.2.2.2.2.2.2.2.2.2.2.2.2.2.2.2.2.2.1),.d (.i .i64 z.1.2.2.2.2.2.2.2.2.2.2.2.2.2.2.2.2.2.2.2.2.2.2.2.2.2.1),.d (.i .i64 z.1.2.2.2.2.2.2.2.2.2.2.2.2.2.2.2.2.2.2.2.2.2.2.2.2.2.2.1),.d (.i .i64 z.1.2.2.2.2.2.2.2.2.2.2.2.2.2.2.2.2.2.2.2.2.2.2.2.2.2.2.2.1),.d (.i .i64 z.1.2.2.2.2.2.2.2.2.2.2.2.2.2.2.2.2.2.2.2.2.2.2.2.2.2.2.2.2.1),.d (.i .i64 z.1.2.2.2.2.2.2.2.2.2.2.2.2.2.2.2.2.2.2.2.2.2.2.2.2.2.2.2.2.2.1),.d (.i .i64 z.1.2.2.2.2.2.2.2.2.2.2.2.2.2.2.2.2.2.2.2.2.2.2.2.2.2.2.2.2.2.2.1),.d (.i .i64 z.1.2.2.2.2.2.2.2.2.2.2.2.2.2.2.2.2.2.2.2.2.2.2.2.2.2.2.2.2.2.2.2.1),.d (.i .i64 z.1.2.2.2.2.2.2.2.2.2.2.2.2.2.2.2.2.2.2.2.2.2.2.2.2.2.2.2.2.2.2.2.2)]),(2,.ebox [.d (.s u1),.o 0,.o 1]),(3,.xext (XC.ff .f32 u5)),(4,.xext (XC.rr (4:Nat) u6)),(5,.ext (.frs .f32 32 u7)),(6,.ext (.ints .i64 u9)),(7,.ext (.frs .f32 32 u10)),(8,.xext (XC.rr (4:Nat) u11)),(9,.ext (.ints .i64 u12)),(11,.ext (.ints .i64 u16)),(12,.ext (.ints .i64 u17)),(13,.ext (.ints .i64 u23)),(14,.ext (.recs 5 u25)),(0,.xext (XC.st [NK.s,NK.i .i64,NK.ints .i64,NK.ints .i64,NK.ints .i64,NK.i .i64,NK.recs (5:Nat),NK.i .i64] u3)),(1,.ext (.ints .i64 u4))],18⟩,fun z=>(jfj u1 u3 u4 u0 u5 u6 u7 u9 u10 u11 u12 u21 u22 u16 u17 u23 u24 u25 u26 u18 u19 r).inv z,fun z=>z.2⟩
 |_=>none) (jlv y25 [.d (.s u1),.x (.st [.s,.i .i64,.ints .i64,.ints .i64,.ints .i64,.i .i64,.recs 5,.i .i64] u3),.r (.ints .i64 u4),.d (.i .i64 u0),.x (.ff .f32 u5),.x (.rr 4 u6),.r (.frs .f32 32 u7),.r (.ints .i64 u9),.r (.frs .f32 32 u10),.x (.rr 4 u11),.r (.ints .i64 u12),.d (.s u21),.d (.i .i64 u22),.r (.ints .i64 u16),.r (.ints .i64 u17),.r (.ints .i64 u23),.d (.i .i64 u24),.r (.recs 5 u25),.d (.i .i64 u26),.d (.i .i64 u18),.d (.i .i64 u19)]) [.s [.d (.i .i64 r.1),.d (.i .i64 r.2.1),.d (.i .i64 r.2.2.1),.d (.i .i64 r.2.2.2.1),.d (.i .i64 r.2.2.2.2.1),.d (.i .i64 r.2.2.2.2.2.1),.d (.i .i64 r.2.2.2.2.2.2.1),.d (.i .i64 r.2.2.2.2.2.2.2.1),.d (.i .i64 r.2.2.2.2.2.2.2.2.1),.d (.i .i64 r.2.2.2.2.2.2.2.2.2.1),.d (.i .i64 r.2.2.2.2.2.2.2.2.2.2.1),.d (.i .i64 r.2.2.2.2.2.2.2.2.2.2.2.1),.d (.i .i64 r.2.2.2.2.2.2.2.2.2.2.2.2.1),.d (.i .i64 r.2.2.2.2.2.2.2.2.2.2.2.2.2.1),.d (.i .i64 r.2.2.2.2.2.2.2.2.2.2.2.2.2.2.1),.d (.i .i64 r.2.2.2.2.2.2.2.2.2.2.2.2.2.2.2.1),.d (.i .i64 r.2.2.2.2.2.2.2.2.2.2.2.2.2.2.2.2.1),.d (.i .i64 r.2.2.2.2.2.2.2.2.2.2.2.2.2.2.2.2.2.1),.d (.i .i64 r.2.2.2.2.2.2.2.2.2.2.2.2.2.2.2.2.2.2.1),.d (.i .i64 r.2.2.2.2.2.2.2.2.2.2.2.2.2.2.2.2.2.2.2.1),.d (.i .i64 r.2.2.2.2.2.2.2.2.2.2.2.2.2.2.2.2.2.2.2.2.1),.d (.i .i64 r.2.2.2.2.2.2.2.2.2.2.2.2.2.2.2.2.2.2.2.2.2.1),.d (.i .i64 r.2.2.2.2.2.2.2.2.2.2.2.2.2.2.2.2.2.2.2.2.2.2.1),.d (.i .i64 r.2.2.2.2.2.2.2.2.2.2.2.2.2.2.2.2.2.2.2.2.2.2.2.1),.d (.i .i64 r.2.2.2.2.2.2.2.2.2.2.2.2.2.2.2.2.2.2.2.2.2.2.2.2.1),.d (.i .i64 r.2.2.2.2.2.2.2.2.2.2.2.2.2.2.2.2.2.2.2.2.2.2.2.2.2.1),.d (.i .i64 r.2.2.2.2.2.2.2.2.2.2.2.2.2.2.2.2.2.2.2.2.2.2.2.2.2.2.1),.d (.i .i64 r.2.2.2.2.2.2.2.2.2.2.2.2.2.2.2.2.2.2.2.2.2.2.2.2.2.2.2.1),.d (.i .i64 r.2.2.2.2.2.2.2.2.2.2.2.2.2.2.2.2.2.2.2.2.2.2.2.2.2.2.2.2.1),.d (.i .i64 r.2.2.2.2.2.2.2.2.2.2.2.2.2.2.2.2.2.2.2.2.2.2.2.2.2.2.2.2.2.1),.d (.i .i64 r.2.2.2.2.2.2.2.2.2.2.2.2.2.2.2.2.2.2.2.2.2.2.2.2.2.2.2.2.2.2.1),.d (.i .i64 r.2.2.2.2.2.2.2.2.2.2.2.2.2.2.2.2.2.2.2.2.2.2.2.2.2.2.2.2.2.2.2)]] :=
 Sk.vc (jkI u1 u3 u4 u0 u5 u6 u7 u9 u10 u11 u12 u21 u22 u16 u17 u23 u24 u25 u26 u18 u19 r) (by kernel_rfl) h
theorem jjM:jan Tryz.prog 60 true (jaO y25 y26):=by
 refine jg5 (sp:=(sp_77 sp0)) (fn:=Tryz.f60) (body:=bodyOf Tryz.f60) mixed (sp_77_ok jfe) Tryz.func60 (by kernel_rfl) (by kernel_rfl) fun ls t h ho b hb=>?_
 unfold y26 at h
 split at h
 ·rename_i u1 u3 u4 u0 u5 u6 u7 u9 u10 u11 u12 u21 u22 u16 u17 u23 u24 u25 u26 u18 u19
  cases h
  obtain rfl:=jfd hb
  exact⟨Nat.le_of_ble_eq_true (by kernel_rfl),_,_,jjL u1 u3 u4 u0 u5 u6 u7 u9 u10 u11 u12 u21 u22 u16 u17 u23 u24 u25 u26 u18 u19 _ (jbp ho)⟩
 ·cases h
def y27:List SV:=[.c (.p [.p [.d,.x (.st [.s,.i .i64,.ints .i64,.ints .i64,.ints .i64,.i .i64,.recs 5,.i .i64] []),.r (.ints .i64 [])],.d,.x (.ff .f32 []),.x (.rr 4 []),.r (.frs .f32 32 []),.r (.ints .i64 []),.r (.frs .f32 32 []),.x (.rr 4 []),.r (.ints .i64 [])])]
def jfk (u1:ByteArray) (u3:List (List NC)) (u4:List Int) (u0:Int) (u5:List (List Nat)) (u6:List (List (List Int))) (u7:List (List Nat)) (u9:List Int) (u10:List (List Nat)) (u11:List (List (List Int))) (u12:List Int) (x0:Int × List (List Nat)) (x1:(Int × List Nat)):Option ((Int × List Nat) ⊕ (List Nat)) :=
 if x1.1<32 then
  Option.bind (y15 u1 u3 u4 u0 u5 u6 u7 u9 u10 u11 u12 x0.1 x1.1) fun r0 =>
  if(List.length x1.2+List.length [FloatKind.nearest .f32 r0])*4≤140737488355328∧List.length x1.2+List.length [FloatKind.nearest .f32 r0]≤9223372036854775807 then
  some (.inl ((wrap .i64 (x1.1+1),x1.2++[FloatKind.nearest .f32 r0])))
  else none
 else
  some (.inr x1.2)
def jfl (x0:Int × List (List Nat)) (u28:List Nat):Option ((Int × List (List Nat)) ⊕ (List (List Nat))) :=
 if(List.length x0.2+List.length (List.map (fun r=>NC.toFlts (List.headD r (NC.d (D.v undef)))) [[NC.r (Cont.floats .f32 u28)]]))*24≤140737488355328∧List.length x0.2+List.length (List.map (fun r=>NC.toFlts (List.headD r (NC.d (D.v undef)))) [[NC.r (Cont.floats .f32 u28)]])≤9223372036854775807 then
  some (.inl ((wrap .i64 (x0.1+1),x0.2++List.map (fun r=>NC.toFlts (List.headD r (NC.d (D.v undef)))) [[NC.r (Cont.floats .f32 u28)]])))
 else none
def y21 (u1:ByteArray) (u3:List (List NC)) (u4:List Int) (u0:Int) (u5:List (List Nat)) (u6:List (List (List Int))) (u7:List (List Nat)) (u9:List Int) (u10:List (List Nat)) (u11:List (List (List Int))) (u12:List Int) (x0:(Int × List (List Nat))):Option ((Int × List (List Nat)) ⊕ (List (List Nat))) :=
 if x0.1<(↑u3.length:Int)then
  Option.bind (jaB (jfk u1 u3 u4 u0 u5 u6 u7 u9 u10 u11 u12 x0) big (((-96:Int),[]))) (jfl x0)
 else
  some (.inr x0.2)
def y22 (u0:Int) (u15:List (List Nat)):Option (Int × List (List Nat)) :=
 some ((wrap .i64 (u0+1),u15))
def y11 (u1:ByteArray) (u3:List (List NC)) (u4:List Int) (u0:Int) (u5:List (List Nat)) (u6:List (List (List Int))) (u7:List (List Nat)) (u9:List Int) (u10:List (List Nat)) (u11:List (List (List Int))) (u12:List Int):Option (Int × List (List Nat)) :=
 Option.bind (jaB (y21 u1 u3 u4 u0 u5 u6 u7 u9 u10 u11 u12) big (((0:Int),[]))) (y22 u0)
def y28:List Lf→Option GT
 |[.d (.s u1),.x (.st [.s,.i .i64,.ints .i64,.ints .i64,.ints .i64,.i .i64,.recs 5,.i .i64] u3),.r (.ints .i64 u4),.d (.i .i64 u0),.x (.ff .f32 u5),.x (.rr 4 u6),.r (.frs .f32 32 u7),.r (.ints .i64 u9),.r (.frs .f32 32 u10),.x (.rr 4 u11),.r (.ints .i64 u12)]=>some (.leaf (ok (y11 u1 u3 u4 u0 u5 u6 u7 u9 u10 u11 u12)) [.s [.d (.i .i64 ((val (y11 u1 u3 u4 u0 u5 u6 u7 u9 u10 u11 u12)).1)),.x 141 (.ff .f32 ((val (y11 u1 u3 u4 u0 u5 u6 u7 u9 u10 u11 u12)).2)),.g 8]])
 |_=>none
abbrev y23 (u1:ByteArray) (u3:List (List NC)) (u4:List Int) (u0:Int) (u5:List (List Nat)) (u6:List (List (List Int))) (u7:List (List Nat)) (u9:List Int) (u10:List (List Nat)) (u11:List (List (List Int))) (u12:List Int) (r:Int × List (List Nat)):Lp ((Int × List (List Nat)) × Nat) ((Int × List (List Nat))) ((List (List Nat))) ((Int × List (List Nat))) (Int × List (List Nat)) :=
 ⟨fun z=>z.1,fun z=>z.2,fun z x n=>(x,n),fun z=>y21 u1 u3 u4 u0 u5 u6 u7 u9 u10 u11 u12,fun z=>y22 u0,fun z=>top r,fun z=>0,[.c fun _=>0,.c fun _=>0,.c fun _=>0,.c fun _=>(↑u3.length:Int),.c fun vv=>vv.1.1,.c fun _=>0,.c fun _=>u0,.c fun _=>(0:Int),.c fun _=>Value.slice none (0:Nat) (0:Nat),.c fun _=>Value.slice none (0:Nat) (0:Nat),.c fun _=>wrap .i64 (u0+1),.c fun _=>u1,.c fun _=>u5,.c fun _=>u6,.c fun _=>u7,.c fun _=>u9,.c fun _=>u10,.c fun _=>u11,.c fun _=>u12,.c fun vv=>vv.1.2,.c fun _=>u3,.c fun _=>u4]⟩
abbrev jfm (u1:ByteArray) (u3:List (List NC)) (u4:List Int) (u0:Int) (u5:List (List Nat)) (u6:List (List (List Int))) (u7:List (List Nat)) (u9:List Int) (u10:List (List Nat)) (u11:List (List (List Int))) (u12:List Int) (r:Int × List (List Nat)) (m1:Nat):Lp ((Int × List (List Nat)) × Nat × (Int × List Nat) × Nat) (Int × List Nat) (List Nat) (((Int × List (List Nat)) ⊕ (List (List Nat)))) (Int × List (List Nat)) :=
 ⟨fun z=>z.2.2.1,fun z=>z.2.2.2,fun z x n=>(z.1,z.2.1,x,n),fun z=>jfk u1 u3 u4 u0 u5 u6 u7 u9 u10 u11 u12 z.1,fun z=>jfl z.1,fun z=>(y23 u1 u3 u4 u0 u5 u6 u7 u9 u10 u11 u12 r).cx (z.1,m1),fun z=>z.2.1,[.c fun _=>0,.c fun _=>0,.c fun _=>0,.c fun vv=>vv.1.1,.c fun vv=>vv.2.2.1.1,.c fun _=>(↑u3.length:Int),.c fun vv=>vv.1.1,.c fun _=>0,.c fun _=>u0,.c fun _=>(0:Int),.c fun _=>Value.slice none (0:Nat) (0:Nat),.c fun _=>Value.slice none (0:Nat) (0:Nat),.c fun _=>wrap .i64 (u0+1),.c fun vv=>vv.2.2.1.2,.c fun _=>u1,.c fun _=>u5,.c fun _=>u6,.c fun _=>u7,.c fun _=>u9,.c fun _=>u10,.c fun _=>u11,.c fun _=>u12,.c fun vv=>vv.1.2,.c fun _=>u3,.c fun _=>u4]⟩
def jjN (u1:ByteArray) (u3:List (List NC)) (u4:List Int) (u0:Int) (u5:List (List Nat)) (u6:List (List (List Int))) (u7:List (List Nat)) (u9:List Int) (u10:List (List Nat)) (u11:List (List (List Int))) (u12:List Int) (r:Int × List (List Nat)):Sk (top r) (Option.bind (jaB (y21 u1 u3 u4 u0 u5 u6 u7 u9 u10 u11 u12) big (((0:Int),[]))) (y22 u0)) :=
 .loopQ (y23 u1 u3 u4 u0 u5 u6 u7 u9 u10 u11 u12 r) [.c fun _=>0,.c fun _=>0,.c fun _=>0,.c fun _=>(↑u3.length:Int),.c fun vv=>vv.1.1,.c fun _=>0,.c fun _=>u0,.c fun _=>(0:Int),.c fun _=>Value.slice none (0:Nat) (0:Nat),.c fun _=>Value.slice none (0:Nat) (0:Nat),.c fun _=>wrap .i64 (u0+1),.c fun _=>u1,.c fun _=>u5,.c fun _=>u6,.c fun _=>u7,.c fun _=>u9,.c fun _=>u10,.c fun _=>u11,.c fun _=>u12,.p fun vv=>List.length vv.1.2=(0:Nat),.c fun _=>u3,.c fun _=>u4] (fun kk=>(((0:Int),[]),big)) (fun z0 =>
 .br
 (.loopQ (jfm u1 u3 u4 u0 u5 u6 u7 u9 u10 u11 u12 r z0.2) [.c fun _=>0,.c fun _=>0,.c fun _=>0,.c fun vv=>vv.1.1,.c fun vv=>vv.2.2.1.1,.c fun _=>(↑u3.length:Int),.c fun vv=>vv.1.1,.c fun _=>0,.c fun _=>u0,.c fun _=>(0:Int),.c fun _=>Value.slice none (0:Nat) (0:Nat),.c fun _=>Value.slice none (0:Nat) (0:Nat),.c fun _=>wrap .i64 (u0+1),.p fun vv=>List.length vv.2.2.1.2=(0:Nat),.c fun _=>u1,.c fun _=>u5,.c fun _=>u6,.c fun _=>u7,.c fun _=>u9,.c fun _=>u10,.c fun _=>u11,.c fun _=>u12,.c fun vv=>vv.1.2,.c fun _=>u3,.c fun _=>u4] (fun kk=>(z0.1,kk,((-96:Int),[]),big)) (fun z1 =>
 .br
 (.call (.obT (.ob (.next))))
 (.exit (.ob (.next)))) (fun _=>⟨rfl,trivial⟩))
 (.exit (.obT (.rc)))) (fun _=>⟨rfl,trivial⟩)
def jkJ (u1:ByteArray) (u3:List (List NC)) (u4:List Int) (u0:Int) (u5:List (List Nat)) (u6:List (List (List Int))) (u7:List (List Nat)) (u9:List Int) (u10:List (List Nat)) (u11:List (List (List Int))) (u12:List Int) (r:Int × List (List Nat)):Sk (top r) (y11 u1 u3 u4 u0 u5 u6 u7 u9 u10 u11 u12) :=
 .obT (.obT (.obT (.obT (jjN u1 u3 u4 u0 u5 u6 u7 u9 u10 u11 u12 r))))
theorem jjO (u1:ByteArray) (u3:List (List NC)) (u4:List Int) (u0:Int) (u5:List (List Nat)) (u6:List (List (List Int))) (u7:List (List Nat)) (u9:List Int) (u10:List (List Nat)) (u11:List (List (List Int))) (u12:List Int) (r:Int × List (List Nat)) (h:Option.bind (y11 u1 u3 u4 u0 u5 u6 u7 u9 u10 u11 u12) some=some r):runT Tryz.f54 ((sp_77 sp0)) (fun gs id st=>match id with
 |0=>some ⟨(Int × List (List Nat)) × Nat,fun z=>⟨[(0,.w (.c (.p 10 0 1 0))),(2,.w (.c (.p 11 0 1 0))),(3,.w (.c (.p 12 0 1 0))),(26,.w (.c (.d (.i .i64 ((↑u3.length:Int)))))),(27,.w (.c (.d (.i .i64 z.1.1))))],[(10,.ebox [.p 2 0 1 0,.d (.i .i64 u0),.o 3,.o 4,.o 5,.o 6,.o 7,.o 8,.o 9]),(11,.box 111 [.d (.i .i64 0),.d (.v (Value.slice none (0:Nat) (0:Nat))),.d (.v (Value.slice none (0:Nat) (0:Nat)))]),(12,.box 111 [.d (.i .i64 (wrap .i64 (u0+1))),.o 13,.o 8]),(2,.ebox [.d (.s u1),.o 0,.o 1]),(3,.xext (XC.ff .f32 u5)),(4,.xext (XC.rr (4:Nat) u6)),(5,.ext (.frs .f32 32 u7)),(6,.ext (.ints .i64 u9)),(7,.ext (.frs .f32 32 u10)),(8,.xext (XC.rr (4:Nat) u11)),(9,.ext (.ints .i64 u12)),(13,.xrow 141 (XC.ff .f32 z.1.2)),(0,.xext (XC.st [NK.s,NK.i .i64,NK.ints .i64,NK.ints .i64,NK.ints .i64,NK.i .i64,NK.recs (5:Nat),NK.i .i64] u3)),(1,.ext (.ints .i64 u4))],14⟩,fun z=>(y23 u1 u3 u4 u0 u5 u6 u7 u9 u10 u11 u12 r).inv z,fun z=>z.2⟩
 |2=>some ⟨(Int × List (List Nat)) × Nat × (Int × List Nat) × Nat,fun z=>⟨[(0,.w (.c (.p 10 0 1 0))),(2,.w (.c (.p 11 0 1 0))),(3,.w (.c (.p 12 0 1 0))),(4,.w (.c (.d (.i .i64 (z.1.1))))),(5,.w (.c (.o 13))),(6,.w (.c (.d (.i .i64 z.2.2.1.1)))),(26,.w (.c (.d (.i .i64 ((↑u3.length:Int)))))),(27,.w (.c (.d (.i .i64 (z.1.1)))))],[(10,.ebox [.p 2 0 1 0,.d (.i .i64 u0),.o 3,.o 4,.o 5,.o 6,.o 7,.o 8,.o 9]),(11,.box 111 [.d (.i .i64 0),.d (.v (Value.slice none (0:Nat) (0:Nat))),.d (.v (Value.slice none (0:Nat) (0:Nat)))]),(12,.box 111 [.d (.i .i64 (wrap .i64 (u0+1))),.o 14,.o 8]),(13,.row 45 (.floats .f32 z.2.2.1.2)),(2,.ebox [.d (.s u1),.o 0,.o 1]),(3,.xext (XC.ff .f32 u5)),(4,.xext (XC.rr (4:Nat) u6)),(5,.ext (.frs .f32 32 u7)),(6,.ext (.ints .i64 u9)),(7,.ext (.frs .f32 32 u10)),(8,.xext (XC.rr (4:Nat) u11)),(9,.ext (.ints .i64 u12)),(14,.xrow 141 (XC.ff .f32 z.1.2)),(0,.xext (XC.st [NK.s,NK.i .i64,NK.ints .i64,NK.ints .i64,NK.ints .i64,NK.i .i64,NK.recs (5:Nat),NK.i .i64] u3)),(1,.ext (.ints .i64 u4))],15⟩,fun z=>(jfm u1 u3 u4 u0 u5 u6 u7 u9 u10 u11 u12 r (gs.getD 0 0)).inv z,fun z=>z.2.2.2⟩
 |_=>none) (jlv y27 [.d (.s u1),.x (.st [.s,.i .i64,.ints .i64,.ints .i64,.ints .i64,.i .i64,.recs 5,.i .i64] u3),.r (.ints .i64 u4),.d (.i .i64 u0),.x (.ff .f32 u5),.x (.rr 4 u6),.r (.frs .f32 32 u7),.r (.ints .i64 u9),.r (.frs .f32 32 u10),.x (.rr 4 u11),.r (.ints .i64 u12)]) [.s [.d (.i .i64 r.1),.x 141 (.ff .f32 r.2),.g 8]] :=
 Sk.vc (jkJ u1 u3 u4 u0 u5 u6 u7 u9 u10 u11 u12 r) (by kernel_rfl) h
theorem jjP:jan Tryz.prog 54 true (jaO y27 y28):=by
 refine jg5 (sp:=(sp_77 sp0)) (fn:=Tryz.f54) (body:=bodyOf Tryz.f54) mixed (sp_77_ok jfe) Tryz.func54 (by kernel_rfl) (by kernel_rfl) fun ls t h ho b hb=>?_
 unfold y28 at h
 split at h
 ·rename_i u1 u3 u4 u0 u5 u6 u7 u9 u10 u11 u12
  cases h
  obtain rfl:=jfd hb
  exact⟨Nat.le_of_ble_eq_true (by kernel_rfl),_,_,jjO u1 u3 u4 u0 u5 u6 u7 u9 u10 u11 u12 _ (jbp ho)⟩
 ·cases h
end Go.Sh
end

section
namespace Go.Sx09
open Go Go.Proofs Go.RowKit Go.Shelf Go.Sx
attribute [local go_sem] Oper.semAt_some
theorem jpH {B:Kd} {w:World}:ja8 B w:=⟨fun _ _ h=>(by cases h),jlH (fun _=>rfl) B w⟩
theorem jmr {c:Code} {N n0:Nat} {st st2:St} {ρ:Env} {a:Act} {w:World} (hr:Rel ρ (kd fun x=>x<w.heap.size) N n0 st a w)
  (h:sx Tryz.prog (fun _=>none) N n0 0 (fun _ _ _=>none) (fun _ _ _=>False) c 0 [] st (fun e st'=>match e with | .normal=>Le n0 st' st2|_=>False)) :
  c.wp Tryz.prog (fun e a' w'=>e=.normal∧w.grownBy w' none∧∃ρ',Rel ρ' (kd fun x=>x<w.heap.size) N n0 st2 a' w'∧jac n0 ρ ρ') a w:=by
 refine wp_mono (jbo (fun _ _ _ h=>by cases h) (fun _ _ _ _ _ _ _ _ _ h=>h.elim) c 0 [] st _ ρ a w h hr (jac.refl _ _) (Bel.refl _ _)) ?_
 rintro e a' w' ⟨ex,ρ',st',rfl,hk,hr',hag,hbl⟩
 cases ex with
 |normal =>
  obtain⟨ρ2,hr2,hag2⟩:=Le.rel hk hr'
  exact⟨rfl,⟨hbl.os,hbl.tape,hbl.output,hbl.size,fun k hk _=>hbl.block k hk⟩,ρ2,hr2,fun x hx=>(hag2 x hx).trans (hag x hx)⟩
 |exit j=>exact hk.elim
 |ret=>exact hk.elim
def prs (L:List Int) (k:Nat):List (Nat × Int):=(List.range k).map fun j=>(j,L.getD j 0)
def sub:List Nat→Code→Code
 |[],c=>c
 |0::p,.seq x _=>sub p x
 |_::p,.seq _ y=>sub p y
 |0::p,.cond _ x _=>sub p x
 |_::p,.cond _ _ y=>sub p y
 |_::p,.block _ c=>sub p c
 |_::p,.loop c=>sub p c
 |_,c=>c
def bodyOf (f:Func):Code:=f.body.getD .skip
abbrev pc (c:Code) (st st2:St):Prop:=sx Tryz.prog (fun _=>none) 22 1 0 (fun _ _ _=>none) (fun _ _ _=>False) c 0 [] st (fun e st'=>match e with | .normal=>Le 1 st' st2|_=>False)
end Go.Sx09
end

section
namespace Go.Sx09
open Go Go.Proofs Go.RowKit Go.Shelf Go.Sx
attribute [local go_sem] Oper.semAt_some
structure KpS (K:Nat→Prop) (A C:World):Prop where
 size:A.heap.size≤C.heap.size
 same:∀k o,K k→A.heap[k]?=some o→o.isCells=true→C.heap[k]?=some o
theorem kps_t {K:Nat→Prop} {A B C:World} (h:KpS K A B) (k:KpS K B C):KpS K A C:=⟨Nat.le_trans h.size k.size,fun x o hx ho hc=>k.same x o hx (h.same x o hx ho hc) hc⟩
theorem kps_b {K:Nat→Prop} {w:World} (W:World) (l:Nat) (o o':Obj) (_:w.heap.size≤l) (h:W.heap[l]?=some o) (hc:o.isCells=false) (_:o.isWalk=false):KpS K W (W.putObj l o') :=
 ⟨by simp,fun k u _ hk hu=>by
  have hne:l≠k:=fun e=>by subst e; rw[h]at hk; cases hk; rw[hc]at hu; cases hu
  exact(World.putObj_heap_other (fun e=>hne e.symm)).trans hk⟩
theorem jqR {K:Nat→Prop} {A B:World} (h:Below A.heap.size A B):KpS K A B:=⟨h.size,fun k o _ hk _=>(h.block k (Array.getElem?_eq_some_iff.1 hk).1).trans hk⟩
def needL (L:List Int) (st:Int):List Int:=if st=-1 then L else L++[st]
def stN (y:Value) (L:List Int) (v:List Value) (st:Int) (k:Nat):St :=
 ⟨[(18,vi .i64 k),(17,vi .i64 L.length),(16,.w (.c (.o 0))),(4,.w (.c (.p 1 0 1 0))),(0,.w (.c (.d (.v y))))],[(0,.ext (.ints .i64 L)),(1,.ebox (v.map (fun x=>C.d (.v x))++[.d (.i .i64 st)]))],2⟩
def stNc (y:Value) (L:List Int) (v:List Value) (st:Int) (k:Nat):St:=⟨(19,vb (decide ((k:Int)<L.length)))::(stN y L v st k).tm,(stN y L v st k).hp,2⟩
def stNd (y:Value) (L:List Int) (v:List Value) (st:Int) (k:Nat):St:=⟨(6,vi .i64 (L.getD k 0))::(stN y L v st k).tm,(stN y L v st k).hp,2⟩
def stNe (y:Value) (L:List Int) (v:List Value) (st:Int) (k:Nat):St:=⟨(29,vb (st != -1))::(stN y L v st k).tm,(stN y L v st k).hp,2⟩
abbrev pn (c:Code) (st st2:St):Prop:=sx Tryz.prog (fun _=>none) 34 2 0 (fun _ _ _=>none) (fun _ _ _=>False) c 0 [] st (fun e st'=>match e with | .normal=>Le 2 st' st2|_=>False)
section
variable (y:Value) (L:List Int) (v0 v1 v2 v3 v4 v5 v6:Value) (st:Int) (k:Nat)
theorem pn1:pn (sub [1,0,1,0,0,0] (bodyOf Tryz.f109)) (stN y L [v0,v1,v2,v3,v4,v5,v6] st k) (stNc y L [v0,v1,v2,v3,v4,v5,v6] st k):=by
 refine Eq.mp (by kernel_rfl:(Ob ((decide ((k:Int)<L.length))=decide ((k:Int)<L.length))∧Ob ((k:Int)=k)∧Ob ((L.length:Int)=L.length)∧Ob ((0:Nat)=0)∧Ob (y=y)∧Ob (L=L)∧Ob (v0=v0)∧Ob (v1=v1)∧Ob (v2=v2)∧Ob (v3=v3)∧Ob (v4=v4)∧Ob (v5=v5)∧Ob (v6=v6)∧Ob (st=st)∧True)=_) ?_
 exact⟨⟨rfl⟩,⟨rfl⟩,⟨rfl⟩,⟨rfl⟩,⟨rfl⟩,⟨rfl⟩,⟨rfl⟩,⟨rfl⟩,⟨rfl⟩,⟨rfl⟩,⟨rfl⟩,⟨rfl⟩,⟨rfl⟩,⟨rfl⟩,trivial⟩
theorem pn2 (hk:k<L.length):pn (sub [1,0,1,0,0,1,1,0,0,0] (bodyOf Tryz.f109)) (stNc y L [v0,v1,v2,v3,v4,v5,v6] st k) (stNd y L [v0,v1,v2,v3,v4,v5,v6] st k):=by
 refine Eq.mp (by kernel_rfl:(Ob (0≤(k:Int)∧(k:Int)<(L.length:Int))∧Ob ((k:Int).toNat<L.length)∧Ob (L.getD (k:Int).toNat 0=L.getD k 0)∧Ob ((k:Int)=k)∧Ob ((L.length:Int)=L.length)∧Ob ((0:Nat)=0)∧Ob (y=y)∧Ob (L=L)∧Ob (v0=v0)∧Ob (v1=v1)∧Ob (v2=v2)∧Ob (v3=v3)∧Ob (v4=v4)∧Ob (v5=v5)∧Ob (v6=v6)∧Ob (st=st)∧True)=_) ?_
 exact⟨⟨by omega⟩,⟨by omega⟩,⟨rfl⟩,⟨rfl⟩,⟨rfl⟩,⟨rfl⟩,⟨rfl⟩,⟨rfl⟩,⟨rfl⟩,⟨rfl⟩,⟨rfl⟩,⟨rfl⟩,⟨rfl⟩,⟨rfl⟩,⟨rfl⟩,⟨rfl⟩,trivial⟩
theorem pn3 (hk:(k:Int)+1≤9223372036854775807):pn (sub [1,0,1,0,0,1,1,1] (bodyOf Tryz.f109)) (stN y L [v0,v1,v2,v3,v4,v5,v6] st k) (stN y L [v0,v1,v2,v3,v4,v5,v6] st (k+1)):=by
 refine Eq.mp (by kernel_rfl:(Ob (IntKind.i64.wrap ((k:Int)+1)=((k+1:Nat):Int))∧Ob ((L.length:Int)=L.length)∧Ob ((0:Nat)=0)∧Ob (y=y)∧Ob (L=L)∧Ob (v0=v0)∧Ob (v1=v1)∧Ob (v2=v2)∧Ob (v3=v3)∧Ob (v4=v4)∧Ob (v5=v5)∧Ob (v6=v6)∧Ob (st=st)∧True)=_) ?_
 refine⟨⟨?_⟩,⟨rfl⟩,⟨rfl⟩,⟨rfl⟩,⟨rfl⟩,⟨rfl⟩,⟨rfl⟩,⟨rfl⟩,⟨rfl⟩,⟨rfl⟩,⟨rfl⟩,⟨rfl⟩,⟨rfl⟩,trivial⟩
 rw[IntWalk.i64_in _ (by omega)]
 omega
theorem pn4:pn (sub [1,1,0] (bodyOf Tryz.f109)) (stN y L [v0,v1,v2,v3,v4,v5,v6] st k) (stNe y L [v0,v1,v2,v3,v4,v5,v6] st k):=by
 refine Eq.mp (by kernel_rfl:(Ob True∧Ob ((st != (-1:Int))=(st != (-1:Int)))∧Ob ((k:Int)=k)∧Ob ((L.length:Int)=L.length)∧Ob ((0:Nat)=0)∧Ob (y=y)∧Ob (L=L)∧Ob (v0=v0)∧Ob (v1=v1)∧Ob (v2=v2)∧Ob (v3=v3)∧Ob (v4=v4)∧Ob (v5=v5)∧Ob (v6=v6)∧Ob (st=st)∧True)=_) ?_
 exact⟨⟨trivial⟩,⟨rfl⟩,⟨rfl⟩,⟨rfl⟩,⟨rfl⟩,⟨rfl⟩,⟨rfl⟩,⟨rfl⟩,⟨rfl⟩,⟨rfl⟩,⟨rfl⟩,⟨rfl⟩,⟨rfl⟩,⟨rfl⟩,⟨rfl⟩,trivial⟩
end
theorem jeS {ρ:Env} {B:Kd} {N n0:Nat} {st:St} {a:Act} {w:World} {t:Nat} {v:V} (h:Rel ρ B N n0 st a w) (hv:v.lt st.nx) (hlt:t<N):Rel ρ B N n0 ⟨(t,v)::st.tm,st.hp,st.nx⟩ (a.put (some t) (v.val ρ)) w:=by
 refine⟨fun x u hx=>?_,by rw[jdT]; exact h.size,by rw[jcS]; exact h.defers,h.heap,h.le,h.n0⟩
 simp only[jay]at hx
 rw[jlp (fun y hy=>by cases hy; rw[h.size]; exact hlt)]
 split at hx
 ·rename_i e
  subst e
  cases hx
  exact⟨hv,by rw[if_pos rfl]⟩
 ·rename_i e
  rw[if_neg (fun e'=>e (Option.some.inj e'))]
  exact h.tm x u hx
theorem jnp {o:Oper} {v:Value} {n:Nat} {a:Act} {w:World} {K:Act→World→Prop} {Q:Exit→Act→World→Prop} (h:(execOp a.eval o).run Tryz.prog w=.ok (.value v) w) (hK:K (a.put o.dst v) w):o.wpIn Fence.wide n Tryz.prog a w K Q:=by
 refine⟨fun _ _=>trivial,?_⟩
 rw[Fence.wide_round,Oper.semAt_none,h]
 exact hK
theorem jcV {o:Oper} {t n N n0:Nat} {ob:Prop} {v:V} {ρ:Env} {B:Kd} {st:St} {a:Act} {w:World} {K:Act→World→Prop} {Q:Exit→Act→World→Prop} (hr:Rel ρ B N n0 st a w) (hs:jaR Tryz.prog o.op (jbL st) st.hp=some (ob,v)) (hob:ob) (hd:o.dst=some t) (ht:t<N)
  (hK:∀a',Rel ρ B N n0 ⟨(t,v)::st.tm,st.hp,st.nx⟩ a' w→K a' w):o.wpIn Fence.wide n Tryz.prog a w K Q:=by
 obtain⟨B',_,hh⟩:=hr.heap
 have h1:=jeg hh hr.reads hs hob
 refine jnp h1.1 ?_
 rw[hd]
 exact hK _ (jeS hr h1.2 ht)
theorem jo0 {ρ:Env} {B:Kd} {N n0:Nat} {s s0:St} {a:Act} {w:World} (h:Rel ρ B N n0 s0 a w) (ht:∀t v,jay s.tm t=some v→jay s0.tm t=some v) (hh:s.hp=s0.hp) (hn:s.nx=s0.nx):Rel ρ B N n0 s a w :=
 ⟨fun t v hv=>by rw[hn]; exact h.tm t v (ht t v hv),h.size,h.defers,by rw[hh,hn]; exact h.heap,h.le,by rw[hn]; exact h.n0⟩
structure BetN (K:Nat→Prop) (y:Value) (L:List Int) (v:List Value) (st:Int) (k:Nat) (a:Act) (w:World):Prop where
 rel:∃ρ,Rel ρ (kd fun x=>x<w.heap.size) 34 2 (stN y L v st k) a w∧(∀ad n cap,ρ 0=.slice (some ad) n cap→0<n→K ad.block)∧∀b o,ρ 1=.pointer (some ⟨b,o,none⟩)→K b
theorem jiL {K:Nat→Prop} {ρ:Env} {B:Kd} {L:List Int} {v:List Value} {st:Int} {a:Act} {w w':World} {s:St} (h:Rel ρ B 34 2 s a w) (hs:s.hp=[(0,.ext (.ints .i64 L)),(1,.ebox (v.map (fun x=>C.d (.v x))++[.d (.i .i64 st)]))]) (h0:∀ad n cap,ρ 0=.slice (some ad) n cap→0<n→K ad.block) (h1:∀b o,ρ 1=.pointer (some ⟨b,o,none⟩)→K b) (hk:KpS K w w') :
  Rel ρ (kd fun x=>x<w'.heap.size) 34 2 s a w':=by
 obtain⟨B',_,hh⟩:=h.heap
 have keep:∀{b:Nat} {off:Nat} {u:Value},K b→w.cell? ⟨b,off,none⟩=some u→w'.cell? ⟨b,off,none⟩=some u:=fun {b off u} hK hc=>by
  obtain⟨o,ho,hoc⟩:=cells_of_cell hc
  have h2:=hk.same _ o hK ho hoc
  exact(World.cell?_of_block (w:=w) (w':=w') (a:=⟨b,off,none⟩) (h2.trans (show w.heap[b]?=some o from ho).symm)).trans hc
 refine⟨h.tm,h.size,h.defers,⟨kd fun x=>x<w'.heap.size,Grow.refl _ _ _ _,⟨fun x o hf=>?_,fun x o x' o' b hf hf' hne hb=>?_,jpH⟩⟩,fun k hk=>jcj.1 hk,h.n0⟩
 ·have hx:=hh.ok x o hf
  refine⟨hx.1,hx.2.1,?_⟩
  simp only[hs,find]at hf
  split at hf
  ·rename_i e; subst e; cases hf
   obtain⟨⟨ad,cap,hv,hc,hcells⟩,ho⟩:=hx.2.2
   have hrow:jaE w' (ρ 0) (.ints .i64 L):=by
    refine⟨ad,cap,hv,hc,fun hn=>?_⟩
    obtain⟨b,off,hab,hxc⟩:=hcells hn
    subst hab
    exact⟨b,off,rfl,fun j z hj=>keep (h0 _ _ _ hv hn) (hxc j z hj)⟩
   exact⟨hrow,hrow.lt (Nat.lt_succ_self 0)⟩
  ·split at hf
   ·rename_i e; subst e; cases hf
    obtain⟨b,off,hv,hB,hcells⟩:=hx.2.2
    have hK:=h1 b off hv
    refine⟨b,off,hv,?_,fun j c hj=>keep hK (hcells j c hj)⟩
    have hc0:=keep hK (hcells v.length (.d (.i .i64 st)) (by rw[List.getElem?_append_right (by simp)]; simp))
    exact World.block_lt_of_cell? w' _ hc0
   ·cases hf
 ·simp only[hs,find]at hf
  split at hf
  ·cases hf; cases hb
  ·split at hf
   ·cases hf; cases hb
   ·cases hf
theorem jib {K:Nat→Prop} {A B:World} (h:A.grownBy B none):KpS K A B:=⟨h.size,fun k o _ hk _=>(h.block k (Array.getElem?_eq_some_iff.1 hk).1 (fun e=>by cases e)).trans hk⟩
theorem jlX {l:Nat} {fn tmps assign body:_} {x:Value} {W:World} {a:Act} {s q ty:Nat} (hs:a.eval (.tmp s)=.func (.yield l) #[] #[]) (hq:a.eval (.tmp q)=x)
  (hy:(Instr.yield l #[x]).run Tryz.prog W=.ok (.round l fn tmps assign body) W) (o:Oper) (ho:o.op=.call { callee:=.value (.tmp s),args:=#[.tmp q],argTypes:=#[ty] }) :
  ((o.semAt Fence.wide.round a.eval).run Tryz.prog W)=.ok (.round l fn tmps assign body) W:=by
 rw[Fence.wide_round,Oper.semAt_none]
 unfold execOp
 simp only[ho,resolve,hs,Deferred.ofValue,Sem.run_bind,Sem.run_pure,Result.andThen_ok,invoke,List.map_toArray,List.map_cons,List.map_nil,hq]
 exact hy
theorem jqS {α:Type} {enc:α→Int} {A:List α} {L:List Int} {st:Int} (hA:A.map enc=needL L st) {k:Nat} (hk:k<L.length):∃h:k<A.length,enc A[k]=L.getD k 0:=by
 have hlen:A.length=(needL L st).length:=by rw[←hA]; simp
 have h1:k<(needL L st).length:=by
  unfold needL
  split
  ·exact hk
  ·simp; omega
 refine⟨by omega,?_⟩
 have h2:(A.map enc)[k]?=(needL L st)[k]?:=by rw[hA]
 rw[List.getElem?_map,List.getElem?_eq_getElem (by omega)]at h2
 have h3:(needL L st)[k]?=L[k]?:=by
  unfold needL
  split
  ·rfl
  ·rw[List.getElem?_append_left hk]
 rw[h3,List.getElem?_eq_getElem hk]at h2
 simp only[Option.map_some,Option.some.injEq]at h2
 rw[h2]
 simp[List.getD,List.getElem?_eq_getElem hk]
set_option maxHeartbeats 2000000 in
theorem jpJ (n l:Nat) (K:Nat→Prop) (L:List Int) (v0 v1 v2 v3 v4 v5 v6:Value) (st:Int) (hL:(L.length:Int)<9223372036854775807) {α:Type} (enc:α→Int) (A:List α) (hA:A.map enc=needL L st) (J Jx:List α→World→Prop)
  (hY:∀(k:Nat) (h:k<A.length) W,J (A.take k) W→YieldAt Fence.wide (n-1) Tryz.prog l #[.int .i64 (enc A[k])] W fun e W' =>
   (e=.returned (.bool true)∧J (A.take (k+1)) W'∧KpS K W W')∨(e=.returned (.bool false)∧Jx (A.take (k+1)) W'))
  (hJ:∀A B pre,J pre A→A.grownBy B none→J pre B) (a:Act) (w:World) (hb:BetN K (.func (.yield l) #[] #[]) L [v0,v1,v2,v3,v4,v5,v6] st 0 a w) (hj0:J [] w)
  (R:World→Prop) (hR:∀k W,k≤A.length→Jx (A.take k) W→R W) (Q:Act→World→Prop) (hQ:∀a w,BetN K (.func (.yield l) #[] #[]) L [v0,v1,v2,v3,v4,v5,v6] st L.length a w→J (A.take L.length) w→Q a w) :
  (sub [1,0,1] (bodyOf Tryz.f109)).wpIn Fence.wide n Tryz.prog (Exit.then Q (bodyPost Tryz.prog Tryz.f109 fun e W'=>(∃v,e=.returned v)∧R W')) a w:=by
 refine wpIn_block (wpIn_loop (fun a w=>∃k,k≤L.length∧BetN K (.func (.yield l) #[] #[]) L [v0,v1,v2,v3,v4,v5,v6] st k a w∧J (A.take k) w) (fun a _=>L.length-(intOf (a.tmps.getD 18 undef)).toNat) ⟨0,by omega,hb,hj0⟩ ?_)
 rintro a w ⟨k,hk,⟨ρ,hr,hg0,hg1⟩,hj⟩
 have hmu:(intOf (a.tmps.getD 18 undef)).toNat=k:=by
  rw[(hr.tm 18 _ rfl).2]
  simp[intOf]
 rw[hmu]
 refine wpIn_seq (wpIn_wide.2 (wp_mono (jmr hr (pn1 _ L v0 v1 v2 v3 v4 v5 v6 st k)) ?_))
 rintro e a1 w1 ⟨rfl,hw1,ρ1,hr1,hag1⟩
 have hj1:=hJ _ _ _ hj hw1
 have hc:a1.eval (.tmp 19)=.bool (decide ((k:Int)<L.length)):=(hr1.tm 19 _ rfl).2
 by_cases hlt:k<L.length
 ·refine wpIn_seq (wpIn_cond_true (by rw[hc,decide_eq_true (by omega)]) (wpIn_skip ?_))
  have hg0a:∀ad n cap,ρ1 0=.slice (some ad) n cap→0<n→K ad.block:=fun ad n cap h=>hg0 ad n cap (by rw[←hag1 0 (by decide)]; exact h)
  have hg1a:∀b o,ρ1 1=.pointer (some ⟨b,o,none⟩)→K b:=fun b o h=>hg1 b o (by rw[←hag1 1 (by decide)]; exact h)
  have hr1b:Rel ρ1 (kd fun x=>x<w1.heap.size) 34 2 (stNc (.func (.yield l) #[] #[]) L [v0,v1,v2,v3,v4,v5,v6] st k) a1 w1:=jiL hr1 rfl hg0a hg1a (jib (World.grownBy.refl w1 none))
  refine wpIn_seq (wpIn_block (wpIn_seq (wpIn_wide.2 (wp_mono (jmr hr1b (pn2 _ L v0 v1 v2 v3 v4 v5 v6 st k hlt)) ?_))))
  rintro e a2 w2 ⟨rfl,hw2,ρ2,hr2,hag2⟩
  have hj2:=hJ _ _ _ hj1 hw2
  obtain⟨hkA,henc⟩:=jqS hA hlt
  obtain⟨fn,tmps,assign,body,hy,hRd⟩:=hY k hkA w2 hj2
  rw[henc]at hy
  refine wpIn_seq (wpIn_region_list ?_)
  refine wpListIn_plain rfl fun K2 hK2=>jcV (t:=22) hr2 rfl trivial rfl (by decide) fun a3 hr3=>hK2 _ _ ?_
  refine wpListIn_plain rfl fun K2 hK2=>jcV (t:=23) hr3 rfl trivial rfl (by decide) fun a4 hr4=>hK2 _ _ ?_
  have g22:a4.eval (.tmp 22)=.func (.yield l) #[] #[]:=(hr4.tm 22 _ rfl).2
  have g23:a4.eval (.tmp 23)=.int .i64 (L.getD k 0):=(hr4.tm 23 _ rfl).2
  refine wpListIn_plain rfl fun K2 hK2=>⟨fun _ _=>trivial,?_⟩
  rw[jlX (ty:=3) g22 g23 hy _ rfl]
  refine⟨(fun h=>by cases h),hRd.mono ?_⟩
  have hg0b:∀ad n cap,ρ2 0=.slice (some ad) n cap→0<n→K ad.block:=fun ad n cap h=>hg0a ad n cap (by rw[←hag2 0 (by decide)]; exact h)
  have hg1b:∀b o,ρ2 1=.pointer (some ⟨b,o,none⟩)→K b:=fun b o h=>hg1a b o (by rw[←hag2 1 (by decide)]; exact h)
  have hr5:∀(b:Bool) (w3:World),KpS K w2 w3→Rel ρ2 (kd fun x=>x<w3.heap.size) 34 2 _ (a4.put (some 24) (.bool b)) w3:=fun b w3 hk3=>jiL (jeS (v:=vb b) hr4 trivial (by decide)) rfl hg0b hg1b hk3
  rintro e w3 (⟨rfl,hj3,hk3⟩|⟨rfl,hj3⟩)
  ·refine hK2 _ _ (wpListIn_plain rfl fun K3 hK3=>jcV (t:=25) (hr5 true w3 hk3) rfl trivial rfl (by decide) fun a5 hr6=>hK3 _ _ (wpListIn_nil ?_))
   have g25:a5.eval (.tmp 25)=.bool false:=(hr6.tm 25 _ rfl).2
   refine wpIn_cond_false g25 (wpIn_skip ?_)
   have hr7:Rel ρ2 (kd fun x=>x<w3.heap.size) 34 2 (stN (.func (.yield l) #[] #[]) L [v0,v1,v2,v3,v4,v5,v6] st k) a5 w3:=jo0 hr6 (fun t v hv=>by
    simp only[stN,jay]at hv
    simp only[stNd,stN,jay]
    repeat' split at hv
    all_goals first
     |(cases hv; done)
     |(subst_vars; simp only[hv]; rfl)
     |(subst_vars; exact hv)) rfl rfl
   refine wpIn_wide.2 (wp_mono (jmr hr7 (pn3 _ L v0 v1 v2 v3 v4 v5 v6 st k (by omega))) ?_)
   rintro e a7 w7 ⟨rfl,hw7,ρ7,hr8,hag7⟩
   refine⟨⟨k+1,by omega,⟨ρ7,jiL hr8 rfl (fun ad n cap h=>hg0b ad n cap (by rw[←hag7 0 (by decide)]; exact h)) (fun b o h=>hg1b b o (by rw[←hag7 1 (by decide)]; exact h)) (jib (World.grownBy.refl w7 none)),fun ad n cap h=>hg0b ad n cap (by rw[←hag7 0 (by decide)]; exact h),fun b o h=>hg1b b o (by rw[←hag7 1 (by decide)]; exact h)⟩,hJ _ _ _ hj3 hw7⟩,?_⟩
   rw[(hr8.tm 18 _ rfl).2]
   simp[intOf]
   omega
  ·have hr4b:=jeS (v:=vb false) (t:=24) hr4 trivial (by decide)
   have g24:(a4.put (some 24) (.bool false)).eval (.tmp 24)=.bool false:=(hr4b.tm 24 _ rfl).2
   refine hK2 _ _ (wpListIn_plain rfl fun K3 hK3=>jnp (v:=.bool true) ?_ (hK3 _ _ (wpListIn_nil ?_)))
   ·unfold execOp
    dsimp only
    rw[g24]
    rfl
   have hr5:=jeS (v:=vb true) (t:=25) hr4b trivial (by decide)
   have g25:((a4.put (some 24) (.bool false)).put (some 25) (.bool true)).eval (.tmp 25)=.bool true:=(hr5.tm 25 _ rfl).2
   refine wpIn_cond_true g25 (wpIn_ret ?_)
   exact⟨hr5.defers,.tuple #[],results_none rfl _ _ _,⟨_,rfl⟩,hR (k+1) _ (by omega) hj3⟩
 ·have hk5:k=L.length:=by omega
  subst hk5
  refine wpIn_seq (wpIn_cond_false (by rw[hc,decide_eq_false (by omega)]) (wpIn_exit ?_))
  refine hQ _ _ ⟨ρ1,jo0 (jiL hr1 rfl (fun ad n cap h=>hg0 ad n cap (by rw[←hag1 0 (by decide)]; exact h)) (fun b o h=>hg1 b o (by rw[←hag1 1 (by decide)]; exact h)) (jib (World.grownBy.refl w1 none))) (fun t v hv=>?_) rfl rfl,fun ad n cap h=>hg0 ad n cap (by rw[←hag1 0 (by decide)]; exact h),fun b o h=>hg1 b o (by rw[←hag1 1 (by decide)]; exact h)⟩ hj1
  have hne:t≠19:=fun e=>by subst e; simp[stN,jay]at hv
  simp only[stNc,jay]
  rw[if_neg (Ne.symm hne)]
  exact hv
abbrev shU:List NK:=[.s,.i .i64,.ints .i64,.ints .i64,.ints .i64,.i .i64,.recs 5,.i .i64]
def stI (y:Value) (nm:ByteArray) (l:List (List NC)) (i:Int) (co:Value):St:=⟨[(0,.w (.c (.d (.v y)))),(1,.w (.c (.p 1 0 1 0))),(2,.w (.c (.p 2 0 1 0)))],[(0,.box 4 [.d (.b false)]),(1,.ebox [.p 3 0 1 0]),(2,.ebox [.d (.i .i64 i)]),(3,.ebox [.d (.s nm),.o 4,.d (.v co)]),(4,.xext (.st shU l))],5⟩
def hpJ (l:List (List NC)) (i:Nat):Hp:=[(0,.box 4 [.d (.b false)]),(1,.box 66 [.d (.s (nS l i 0)),.d (.i .i64 (nI l i 1)),.o 2,.o 3,.o 4,.d (.i .i64 (nI l i 5)),.o 5,.d (.i .i64 (nI l i 7))]),(2,.ext (.ints .i64 (nL l i 2))),(3,.ext (.ints .i64 (nL l i 3))),(4,.ext (.ints .i64 (nL l i 4))),(5,.ext (.recs 5 (nR l i 6)))]
def stJ (y:Value) (l:List (List NC)) (i:Nat):St:=⟨[(4,.w (.c (.p 1 0 1 0))),(0,.w (.c (.d (.v y))))],hpJ l i,6⟩
def stJ2 (y:Value) (l:List (List NC)) (i:Nat):St:=⟨[(18,vi .i64 0),(17,vi .i64 (nL l i 2).length),(16,.w (.c (.o 2))),(4,.w (.c (.p 1 0 1 0))),(0,.w (.c (.d (.v y))))],hpJ l i,6⟩
theorem pnJ (y:Value) (l:List (List NC)) (i:Nat):sx Tryz.prog (fun _=>none) 34 1 0 (fun _ _ _=>none) (fun _ _ _=>False) (sub [1,0,0] (bodyOf Tryz.f109)) 0 [] (stJ y l i) (fun e st'=>match e with | .normal=>Le 1 st' (stJ2 y l i)|_=>False):=by
 refine Eq.mp (by kernel_rfl:(Ob ((0:Int)=0)∧Ob (((nL l i 2).length:Int)=(nL l i 2).length)∧Ob ((0:Nat)=0)∧Ob (y=y)∧Ob (false=false)∧Ob (nS l i 0=nS l i 0)∧Ob (nI l i 1=nI l i 1)∧Ob (nI l i 5=nI l i 5)∧Ob (nI l i 7=nI l i 7)∧Ob (nL l i 2=nL l i 2)∧Ob (nL l i 3=nL l i 3)∧Ob (nL l i 4=nL l i 4)∧Ob (nR l i 6=nR l i 6)∧True)=_) ?_
 exact⟨⟨rfl⟩,⟨rfl⟩,⟨rfl⟩,⟨rfl⟩,⟨rfl⟩,⟨rfl⟩,⟨rfl⟩,⟨rfl⟩,⟨rfl⟩,⟨rfl⟩,⟨rfl⟩,⟨rfl⟩,⟨rfl⟩,trivial⟩
theorem jcO {w:World} {k j t:Nat} {vs:Array Value} {f:_} (h:w.heap[k]?=some (.cells vs t f)) {v:Value} (hv:vs[j]?=some v):w.cell? ⟨k,j,none⟩=some v:=by
 unfold World.cell?
 dsimp only
 rw[h]
 simp[hv]
theorem jpK {α:Type} {enc:α→Int} {A:List α} {L:List Int} {st:Int} (hA:A.map enc=needL L st) (hst:st≠-1):∃h:L.length<A.length,enc A[L.length]=st∧A.length=L.length+1:=by
 have e:needL L st=L++[st]:=if_neg hst
 have hlen:A.length=L.length+1:=by
  have:(A.map enc).length=(L++[st]).length:=by rw[hA,e]
  simpa using this
 refine⟨by omega,?_,hlen⟩
 have h2:(A.map enc)[L.length]?=(L++[st])[L.length]?:=by rw[hA,e]
 rw[List.getElem?_map,List.getElem?_eq_getElem (by omega)]at h2
 simpa using h2
set_option maxHeartbeats 4000000 in
theorem jqT (n l r:Nat) (nm:ByteArray) (gU:List (List NC)) (i:Int) (co:Value) (ρ0:Env) (W:World)
  (hh:HRel ρ0 (kd fun k=>k<W.heap.size∧k≠r) (stI (.func (.yield l) #[] #[]) nm gU i co).hp 5 W) (hr0:ρ0 0=.pointer (some ⟨r,0,none⟩))
  (hi:0≤i∧i<gU.length) (hL:((nL gU i.toNat 2).length:Int)<9223372036854775807) {α:Type} (enc:α→Int) (A:List α) (hA:A.map enc=needL (nL gU i.toNat 2) (nI gU i.toNat 7)) (J Jx:List α→World→Prop)
  (hY:∀(k:Nat) (h:k<A.length) W,J (A.take k) W→YieldAt Fence.wide (n-1) Tryz.prog l #[.int .i64 (enc A[k])] W fun e W' =>
   (e=.returned (.bool true)∧J (A.take (k+1)) W'∧KpS (fun k=>k≠r) W W')∨(e=.returned (.bool false)∧Jx (A.take (k+1)) W'))
  (hJ:AbidesFrom W.heap.size J) (h0:J [] W) :
  CallsIn Fence.wide n Tryz.prog 109 #[.func (.yield l) #[] #[],(C.p 1 0 1 0).val ρ0,(C.p 2 0 1 0).val ρ0] W fun e W'=>(∃v,e=.returned v) ∧
   ((∃ys,ys=A∧J ys W')∨(∃pre,(∃k,k≤A.length∧pre=A.take k)∧Jx pre W')):=by
 refine callsIn_of_wp Tryz.func109 rfl trivial ?_ rfl
 refine wpIn_seq (wpIn_wide.2 ?_)
 have hsp:jad Tryz.prog (fun _=>none):=fun _ _ _ h=>by cases h
 obtain⟨y,hy⟩:∃y:Value,y=.func (.yield l) #[] #[]:=⟨_,rfl⟩
 rw[←hy]at hh ⊢
 refine jcg (N:=34) (n0:=1) (B:=kd fun k=>k<W.heap.size∧k≠r) (ρ0:=ρ0) (w0:=W) (st:=stI y nm gU i co)
  (k:=fun st=>Le 1 st (stJ y gU i.toNat)) (by kernel_rfl) hsp (ds:=[]) _ _ ρ0 _ _ _ ?vc ?rel (jac.refl _ _) (Bel.refl _ _) ?next
 case vc =>
  refine Eq.mp (by kernel_rfl:(Ob True∧Ob True∧Ob True∧Ob ((0:Int)≤i∧i<((XC.st shU gU).n:Int))∧Ob (i.toNat<(XC.st shU gU).n)∧Ob ((0:Nat)=0)∧Ob (y=y)∧Ob (false=false)∧Ob (nS gU i.toNat 0=nS gU i.toNat 0)∧Ob (nI gU i.toNat 1=nI gU i.toNat 1)∧Ob (nI gU i.toNat 5=nI gU i.toNat 5)∧Ob (nI gU i.toNat 7=nI gU i.toNat 7)∧Ob (nL gU i.toNat 2=nL gU i.toNat 2)∧Ob (nL gU i.toNat 3=nL gU i.toNat 3)∧Ob (nL gU i.toNat 4=nL gU i.toNat 4)∧Ob (nR gU i.toNat 6=nR gU i.toNat 6)∧True)=_) ?_
  exact⟨⟨trivial⟩,⟨trivial⟩,⟨trivial⟩,⟨hi⟩,⟨by show i.toNat<gU.length; omega⟩,⟨rfl⟩,⟨rfl⟩,⟨rfl⟩,⟨rfl⟩,⟨rfl⟩,⟨rfl⟩,⟨rfl⟩,⟨rfl⟩,⟨rfl⟩,⟨rfl⟩,⟨rfl⟩,trivial⟩
 case rel =>
  refine jfE (N:=34) (n0:=1) (args:=[.w (.c (.d (.v y))),.w (.c (.p 1 0 1 0)),.w (.c (.p 2 0 1 0))]) (Nat.le_of_ble_eq_true rfl) (fun x hx=>?_) (by decide) ρ0 W hh (fun k hk=>(jcj.1 hk).1)
  simp only[List.mem_cons,List.not_mem_nil,or_false]at hx
  rcases hx with rfl|rfl|rfl
  ·trivial
  ·exact(by decide:1<5)
  ·exact(by decide:2<5)
 case next =>
  rintro ρ1 st1 a1 w1 hr1 hag1 hbl1 hle
  obtain⟨ρ2,hr2,hag2⟩:=hle.rel hr1
  refine wpIn_seq (wpIn_seq (wpIn_wide.2 (wp_mono (jbo hsp (fun _ _ _ _ _ _ _ _ _ h=>h.elim) (sub [1,0,0] (bodyOf Tryz.f109)) 0 [] (stJ y gU i.toNat) _ ρ2 a1 w1 (pnJ y gU i.toNat) hr2 (jac.refl _ _) (Bel.refl _ _)) ?_)))
  rintro e a2 w2 ⟨ex,ρ3,st3,rfl,hk3,hr3',hag3,hbl3⟩
  cases ex with
  |exit j=>exact hk3.elim
  |ret=>exact hk3.elim
  |normal =>
   obtain⟨ρ4,hr4,hag4⟩:=hk3.rel hr3'
   have hρ0:ρ4 0=.pointer (some ⟨r,0,none⟩):=(hag4 0 (by decide)).trans ((hag3 0 (by decide)).trans ((hag2 0 (by decide)).trans ((hag1 0 (by decide)).trans hr0)))
   have hbW:Bel (kd fun k=>k<W.heap.size∧k≠r).kp W w2:=hbl1.trans hbl3
   obtain⟨B',gB,hh4⟩:=hr4.heap
   have o0:=(hh4.ok 0 _ rfl).2.2
   have o1:=(hh4.ok 1 _ rfl).2.2
   have o2:=(hh4.ok 2 _ rfl).2.2
   obtain⟨r',hr',hB0,hheap0⟩:=o0
   have err:r'=r:=by
    rw[hρ0]at hr'
    cases hr'
    rfl
   subst err
   obtain⟨k1,hk1,hB1,hheap1⟩:=o1
   obtain⟨q0,hq0,hBq,hheapW⟩:=(hh.ok 0 _ rfl).2.2
   have eq0:q0=r':=by
    rw[hr0]at hq0
    cases hq0
    rfl
   subst eq0
   have hgr:W.grownBy w2 none:=by
    refine⟨hbW.os,hbW.tape,hbW.output,hbW.size,fun k hk _=>?_⟩
    by_cases e:k=q0
    ·subst e
     rw[hheap0,hheapW]
     rfl
    ·exact hbW.block k ⟨hk,e⟩
   have hj2:J [] w2:=hJ [] W w2 none h0 hgr (fun r e=>by cases e)
   have hne1:k1≠q0:=fun e=>hh4.apart 1 _ 0 _ k1 rfl rfl (by decide) (by rw[hk1]; rfl) (by rw[hρ0,e]; rfl)
   have hb:BetN (fun k=>k≠q0) y (nL gU i.toNat 2) [.string (nS gU i.toNat 0),.int .i64 (nI gU i.toNat 1),ρ4 2,ρ4 3,ρ4 4,.int .i64 (nI gU i.toNat 5),ρ4 5] (nI gU i.toNat 7) 0 a2 w2:=by
    refine⟨fun h=>if h=0 then ρ4 2 else ρ4 1,⟨fun t v hv=>?_,hr4.size,hr4.defers,⟨kd fun x=>x<w2.heap.size,Grow.refl _ _ _ _,⟨fun x o hf=>?_,fun x o x' o' b hf hf' hne hb=>?_,jpH⟩⟩,fun k hk=>jcj.1 hk,Nat.le_refl _⟩,fun ad m cap hv hm=>?_,fun b o hv=>?_⟩
    ·simp only[stN,jay]at hv
     split at hv
     ·rename_i e; subst e; cases hv; exact⟨trivial,(hr4.tm 18 _ rfl).2⟩
     ·split at hv
      ·rename_i e; subst e; cases hv; exact⟨trivial,(hr4.tm 17 _ rfl).2⟩
      ·split at hv
       ·rename_i e; subst e; cases hv; exact⟨(by decide:0<2),(hr4.tm 16 _ rfl).2⟩
       ·split at hv
        ·rename_i e; subst e; cases hv; exact⟨(by decide:1<2),(hr4.tm 4 _ rfl).2⟩
        ·split at hv
         ·rename_i e; subst e; cases hv; exact⟨trivial,(hr4.tm 0 _ rfl).2⟩
         ·cases hv
    ·simp only[stN,find]at hf
     split at hf
     ·rename_i e; subst e; cases hf
      exact⟨(by decide:0<2),trivial,o2.1,o2.1.lt (Nat.lt_succ_self 0)⟩
     ·split at hf
      ·rename_i e; subst e; cases hf
       refine⟨(by decide:1<2),?_,k1,0,by simpa using hk1,(Array.getElem?_eq_some_iff.1 hheap1).1,fun j c hj=>?_⟩
       ·intro c hc
        simp only[List.map_cons,List.map_nil,List.cons_append,List.nil_append,List.mem_cons,List.not_mem_nil,or_false]at hc
        rcases hc with rfl|rfl|rfl|rfl|rfl|rfl|rfl|rfl<;>trivial
       ·rw[Nat.zero_add]
        refine jcO hheap1 ?_
        match j,hj with
        |0,hj=>cases hj; rfl
        |1,hj=>cases hj; rfl
        |2,hj=>cases hj; rfl
        |3,hj=>cases hj; rfl
        |4,hj=>cases hj; rfl
        |5,hj=>cases hj; rfl
        |6,hj=>cases hj; rfl
        |7,hj=>cases hj; rfl
        |j+8,hj=>cases hj
      ·cases hf
    ·simp only[stN,find]at hf
     split at hf
     ·cases hf; cases hb
     ·split at hf
      ·cases hf; cases hb
      ·cases hf
    ·intro e
     have h2:=o2.2 ad m cap (by simpa using hv) hm
     exact hB0 (.inl (e ▸ h2))
    ·intro e
     have hv':ρ4 1=.pointer (some ⟨b,o,none⟩):=by simpa using hv
     rw[hk1]at hv'
     cases hv'
     exact hne1 e
   subst hy
   refine jpJ n l (fun k=>k≠q0) _ _ _ _ _ _ _ _ _ hL enc A hA J Jx hY (fun A B pre hj hg=>hJ pre A B none hj hg (fun r e=>by cases e)) a2 w2 hb hj2
    (fun W'=>(∃ys,ys=A∧J ys W')∨(∃pre,(∃k,k≤A.length∧pre=A.take k)∧Jx pre W')) (fun k W hk hx=>.inr ⟨_,⟨k,hk,rfl⟩,hx⟩) _ ?_
   rintro a5 w5 ⟨ρ5,hr5,hg0,hg1⟩ hj5
   refine wpIn_seq (wpIn_wide.2 (wp_mono (jmr hr5 (pn4 _ _ _ _ _ _ _ _ _ _ _)) ?_))
   rintro e a6 w6 ⟨rfl,hw6,ρ6,hr6,hag6⟩
   have hj6:=hJ _ _ _ none hj5 hw6 (fun r e=>by cases e)
   have hc:a6.eval (.tmp 29)=.bool (nI gU i.toNat 7 != -1):=(hr6.tm 29 _ rfl).2
   by_cases hst:nI gU i.toNat 7=-1
   ·refine wpIn_cond_false (by rw[hc,hst]; rfl) (wpIn_skip ?_)
    refine⟨hr6.defers,.tuple #[],results_none rfl _ _ _,⟨_,rfl⟩,.inl ⟨_,rfl,?_⟩⟩
    have hlen:A.length=(nL gU i.toNat 2).length:=by
     have:(A.map enc).length=(needL (nL gU i.toNat 2) (nI gU i.toNat 7)).length:=by rw[hA]
     rw[needL,if_pos hst]at this
     simpa using this
    rw[←hlen,List.take_length]at hj6
    exact hj6
   ·refine wpIn_cond_true (by rw[hc]; simp[hst]) (wpIn_region_list ?_)
    obtain⟨hkA,henc,hlen⟩:=jpK hA hst
    obtain⟨fn,tmps,assign,body,hy,hRd⟩:=hY _ hkA w6 hj6
    rw[henc]at hy
    refine wpListIn_plain rfl fun K2 hK2=>jcV (t:=30) hr6 rfl trivial rfl (by decide) fun a7 hr7=>hK2 _ _ ?_
    refine wpListIn_plain rfl fun K2 hK2=>jcV (t:=31) hr7 rfl trivial rfl (by decide) fun a8 hr8=>hK2 _ _ ?_
    refine wpListIn_plain rfl fun K2 hK2=>jcV (t:=32) hr8 rfl trivial rfl (by decide) fun a9 hr9=>hK2 _ _ ?_
    have g30:a9.eval (.tmp 30)=.func (.yield l) #[] #[]:=(hr9.tm 30 _ rfl).2
    have g32:a9.eval (.tmp 32)=.int .i64 (nI gU i.toNat 7):=(hr9.tm 32 _ rfl).2
    refine wpListIn_plain rfl fun K2 hK2=>⟨fun _ _=>trivial,?_⟩
    rw[jlX (ty:=3) g30 g32 hy _ rfl]
    refine⟨(fun h=>by cases h),hRd.mono ?_⟩
    rintro e w7 (⟨rfl,hj7,hk7⟩|⟨rfl,hj7⟩)
    ·refine hK2 _ _ (wpListIn_nil ?_)
     refine⟨(jeS (t:=33) (v:=vb true) hr9 trivial (by decide)).defers,.tuple #[],results_none rfl _ _ _,⟨_,rfl⟩,.inl ⟨_,rfl,?_⟩⟩
     rw[←hlen,List.take_length]at hj7
     exact hj7
    ·refine hK2 _ _ (wpListIn_nil ?_)
     exact⟨(jeS (t:=33) (v:=vb false) hr9 trivial (by decide)).defers,.tuple #[],results_none rfl _ _ _,⟨_,rfl⟩,.inr ⟨_,⟨_,by omega,rfl⟩,hj7⟩⟩
end Go.Sx09
end

section
namespace Go.Sx09
open Go Go.Proofs Go.RowKit Go.Shelf Go.Sx
attribute [local go_sem] Oper.semAt_some
set_option maxHeartbeats 2000000 in
theorem jrX (n:Nat) (p:Option Addr) (i:Int) (w:World) :
  CallsIn Fence.wide n Tryz.prog 70 #[.pointer p,.int .i64 i] w fun e w'=>e=.returned (.func (.func 109) #[] #[.pointer (some ⟨w.heap.size,0,none⟩),.pointer (some ⟨w.heap.size+1,0,none⟩)])∧w'=(w.alloc (.cells #[.pointer p] 59)).alloc (.cells #[.int .i64 i] 3):=by
 refine callsIn_of_wp Tryz.func70 rfl trivial ?_ rfl
 simp only[Tryz.ntmps70,List.size_toArray,List.length_cons,List.length_nil,Nat.reduceAdd,Nat.reduceSub,Array.replicate_succ,Array.replicate_zero,List.push_toArray,List.append_toArray,List.nil_append,List.cons_append]
 gi_wp2
 go_ret
 exact⟨rfl,rfl⟩
theorem jrY (w:World) (c0 c1 c2 c3:Array Value) (t0 t1 t2 t3:TypeId):∃w2,w2.heap.size=w.heap.size+4∧Below w.heap.size w w2∧w2.heap[w.heap.size]?=some (.cells c0 t0 (0,0))∧w2.heap[w.heap.size+1]?=some (.cells c1 t1 (0,0)) ∧
  w2.heap[w.heap.size+1+1]?=some (.cells c2 t2 (0,0))∧w2.heap[w.heap.size+1+1+1]?=some (.cells c3 t3 (0,0))∧(((w.alloc (.cells c0 t0)).alloc (.cells c1 t1)).alloc (.cells c2 t2)).alloc (.cells c3 t3)=w2:=by
 have new:∀(w:World) (c:Array Value) (t:TypeId) (m:Nat),w.heap.size=m→(w.alloc (.cells c t)).heap[m]?=some (.cells c t (0,0)):=fun w c t m e=>by subst e; exact World.alloc_heap_new w (.cells c t)
 have old:∀(w:World) (o o':Obj) (k:Nat),w.heap[k]?=some o→(w.alloc o').heap[k]?=some o:=fun w o o' k h=>(Below.heap_alloc w o' k (Array.getElem?_eq_some_iff.1 h).1).trans h
 refine⟨_,by simp,(((Below.refl _ w).alloc (Nat.le_refl _) _).alloc (by simp) _).alloc (by simp; omega) _ |>.alloc (by simp; omega) _,?_,?_,?_,?_,rfl⟩
 ·exact old _ _ _ _ (old _ _ _ _ (old _ _ _ _ (new w c0 t0 _ rfl)))
 ·exact old _ _ _ _ (old _ _ _ _ (new _ c1 t1 _ (by simp)))
 ·exact old _ _ _ _ (new _ c2 t2 _ (by simp))
 ·exact new _ c3 t3 _ (by simp)
def readyB (pl:List Bool) (L:List Int):Bool:=L.all fun x=>pl.getD x.toNat false
set_option maxHeartbeats 4000000 in
theorem ready_in (nm:ByteArray) (gU:List (List NC)) (od:List Int) (i:Int) (pl:List Bool) (ρ:Env) (w:World)
  (hh:HRel ρ (kd fun k=>k<w.heap.size) [(3,.ext (.bools pl)),(2,.ebox [.d (.s nm),.o 0,.o 1]),(1,.ext (.ints .i64 od)),(0,.xext (.st shU gU))] 4 w)
  (hi:0≤i∧i<gU.length) (hL:((nL gU i.toNat 2).length:Int)<9223372036854775807) (hx:∀x∈needL (nL gU i.toNat 2) (nI gU i.toNat 7),0≤x∧x<pl.length) :
  CallsIn Fence.wide 9 Tryz.prog 38 #[(C.p 2 0 1 0).val ρ,.int .i64 i,ρ 3] w fun e w'=>e=.returned (.bool (readyB pl (needL (nL gU i.toNat 2) (nI gU i.toNat 7))))∧Below w.heap.size w w':=by
 have h1:1≤9:=by omega
 have hro:Fence.wide.round=none:=rfl
 obtain⟨gb,go,hgp,hgB,hgc⟩:=(hh.ok 2 _ rfl).2.2
 have hrow:=(hh.ok 3 _ rfl).2.2
 obtain⟨⟨pa,pc,hpv,hpc,hpcells⟩,hpo⟩:=hrow
 have hP:(C.p 2 0 1 0).val ρ=.pointer (some ⟨gb,go,none⟩):=by
  simp only[C.val,hgp,base]
  rfl
 rw[hP,hpv]
 refine callsIn_of_wp_marks Tryz.func38 rfl trivial ?_ hro
 simp only[Tryz.ntmps38,List.size_toArray,List.length_cons,List.length_nil,Nat.reduceAdd,Nat.reduceSub,Array.replicate_succ,Array.replicate_zero,List.push_toArray,List.append_toArray,List.nil_append,List.cons_append]
 gi_wp2_with (refine⟨trivial,?_⟩; gi_at_call 70; refine(jrX _ _ i _).mono ?_; rintro e w' ⟨rfl,rfl⟩)
 obtain⟨w2,hs2,hB0,k0,k1,k2,k3,hw2⟩:=jrY w #[.slice pa (Cont.bools pl).n pc] #[.bool false] #[.pointer (some ⟨gb,go,none⟩)] #[.int .i64 i] 67 4 59 3
 rw[hw2]
 have hne:∀(A:List {x:Int // 0≤x∧x<pl.length}),A.map (fun x=>x.1)=needL (nL gU i.toNat 2) (nI gU i.toNat 7)→readyB pl (needL (nL gU i.toNat 2) (nI gU i.toNat 7))=A.all fun x=>pl.getD x.1.toNat false:=fun A hA=>by
  rw[←hA]
  simp[readyB]
 obtain⟨A,hA⟩:∃A:List {x:Int // 0≤x∧x<pl.length},A.map (fun x=>x.1)=needL (nL gU i.toNat 2) (nI gU i.toNat 7) :=
  ⟨(needL (nL gU i.toNat 2) (nI gU i.toNat 7)).attachWith _ hx,by simp⟩
 have hready:=hne A hA
 refine wpIn_rangeFunc_ownF hro h1 (gf:=109) (lb:=#[.pointer (some ⟨w.heap.size+1+1,0,none⟩),.pointer (some ⟨w.heap.size+1+1+1,0,none⟩)]) rfl trivial (enters_of Tryz.func109 (by kernel_rfl) rfl)
  (α:={x:Int // 0≤x∧x<pl.length}) (encs:=fun x=>#[.int .i64 x.1]) (Kp:=KpS fun k=>k≠w.heap.size+1) (S:=fun ys=>ys=A) (Sp:=fun pre=>∃k,k≤A.length∧pre=A.take k) (N:=A.length) (w0:=w2)
  ?seq kps_t kps_b (Below.refl _ _) (fun _=>rfl)
  (fun pre W=>((∀y∈pre,pl.getD y.1.toNat false=true)∧W.cell? ⟨w.heap.size,0,none⟩=some (.slice pa (Cont.bools pl).n pc)∧W.cell? ⟨w.heap.size+1,0,none⟩=some (.bool false)∧W.frozen? ⟨w.heap.size+1,0,none⟩=false)∧Below w.heap.size w W)
  (fun c pre W=>(c=.ret∧(∃y∈pre,pl.getD y.1.toNat false=false)∧W.cell? ⟨w.heap.size+1,0,none⟩=some (.bool false))∧Below w.heap.size w W)
  (OwnFrom.and (Own.from (fun s A B row hs hg hr=>⟨hs.1,cell_kept hs.2.1 hg hr,cell_kept hs.2.2.1 hg hr,(frozen_kept hs.2.2.1 hg hr).trans hs.2.2.2⟩) _) (ownFrom_below (Nat.le_refl _) (by omega)))
  (fun c=>OwnFrom.and (Own.from (fun s A B row hs hg hr=>⟨hs.1,hs.2.1,cell_kept hs.2.2 hg hr⟩) _) (ownFrom_below (Nat.le_refl _) (by omega)))
  ⟨⟨by simp,jcO k0 rfl,jcO k1 rfl,?frozen⟩,hB0⟩
  (fun x=>{ tmps:=#[Value.pointer (some { block:=gb,off:=go }),Value.int IntKind.i64 i,Value.slice pa (Cont.bools pl).n pc,undef,undef,Value.pointer (some { block:=w.heap.size,off:=0 }),Value.pointer (some { block:=w.heap.size+1,off:=0 }),.int .i64 x.1,Value.pointer (some { block:=gb,off:=go }),Value.int IntKind.i64 i,Value.func (Fn.func 109) #[] #[Value.pointer (some { block:=w.heap.size+1+1,off:=0 }),Value.pointer (some { block:=w.heap.size+1+1+1,off:=0 })],.int .i64 x.1,undef,undef,undef,undef,undef],defers:=[] }) ?assign ?body ?done ?stop
 case frozen =>
  unfold World.frozen?
  dsimp only
  rw[k1]
  rfl
 case seq =>
  intro l J Jx W hW hJ hJx hY h0
  have hBW:Below w.heap.size w W:=hB0.trans (hW.mono (by omega))
  have hsz:=hW.size
  have at2:∀k o,k<w2.heap.size→w2.heap[k]?=some o→W.heap[k]?=some o:=fun k o hk ho=>(hW.block k hk).trans ho
  have hmono:∀k,(kd fun k=>k<w.heap.size).kp k→(kd fun k=>k<W.heap.size∧k≠w.heap.size+1).kp k:=fun k hk=>by
   have hk:k<w.heap.size:=hk
   exact⟨by omega,by omega⟩
  have hbw:Bel (kd fun k=>k<w.heap.size).kp w W:=⟨hBW.os,hBW.tape,hBW.output,hBW.size,hBW.block⟩
  let ρ':Env:=fun h=>match h with
   |0=>.pointer (some ⟨w.heap.size+1,0,none⟩)
   |1=>.pointer (some ⟨w.heap.size+1+1,0,none⟩)
   |2=>.pointer (some ⟨w.heap.size+1+1+1,0,none⟩)
   |3=>ρ 2
   |_=>ρ 0
  have hx0:=(hh.ok 0 _ rfl).2.2
  have hrel:HRel ρ' (kd fun k=>k<W.heap.size∧k≠w.heap.size+1) (stI (.func (.yield l) #[] #[]) nm gU i (ρ 1)).hp 5 W:=by
   refine⟨fun x o hf=>?_,fun x o x' o' b hf hf' hne hb=>?_,jpH⟩
   ·simp only[stI,find]at hf
    split at hf
    ·rename_i e; subst e; cases hf
     exact⟨by decide,(fun c hc=>by simp at hc; subst hc; trivial),w.heap.size+1,rfl,fun h=>(jcj.1 h).2 rfl,at2 _ _ (by omega) k1⟩
    ·split at hf
     ·rename_i e; subst e; cases hf
      refine⟨by decide,(fun c hc=>by simp at hc; subst hc; exact(by decide:3<5)),w.heap.size+1+1,0,rfl,⟨by omega,by omega⟩,fun j c hj=>?_⟩
      refine(jcO (at2 _ _ (by omega) k2) (j:=0+j) (v:=c.val ρ') ?_)
      match j,hj with
      |0,hj=>cases hj; exact congrArg some hP.symm
      |j+1,hj=>cases hj
     ·split at hf
      ·rename_i e; subst e; cases hf
       refine⟨by decide,(fun c hc=>by simp at hc; subst hc; trivial),w.heap.size+1+1+1,0,rfl,⟨by omega,by omega⟩,fun j c hj=>?_⟩
       refine(jcO (at2 _ _ (by omega) k3) (j:=0+j) (v:=c.val ρ') ?_)
       match j,hj with
       |0,hj=>cases hj; rfl
       |j+1,hj=>cases hj
      ·split at hf
       ·rename_i e; subst e; cases hf
        refine⟨by decide,(fun c hc=>by simp at hc; rcases hc with rfl|rfl|rfl<;>first|exact True.intro|exact(by decide:4<5)),gb,go,hgp,hmono _ hgB,fun j c hj=>?_⟩
        refine(hbw.cell (p:=⟨gb,go+j,none⟩) hgB).trans ?_
        match j,hj with
        |0,hj=>cases hj; exact hgc 0 _ rfl
        |1,hj=>cases hj; exact hgc 1 _ rfl
        |2,hj=>cases hj; exact hgc 2 _ rfl
        |j+3,hj=>cases hj
       ·split at hf
        ·rename_i e; subst e; cases hf
         exact⟨by decide,trivial,(IsX.bel hx0 hbw).mono hmono⟩
        ·cases hf
   ·simp only[stI,find]at hf hf'
    have hz:∀y oy,find (stI (.func (.yield l) #[] #[]) nm gU i (ρ 1)).hp y=some oy→y≠0→oy.blk (ρ' y)=none:=fun y oy hy hy0=>by
     simp only[stI,find]at hy
     rw[if_neg (Ne.symm hy0)]at hy
     repeat' split at hy
     all_goals (cases hy; try rfl)
    by_cases e:x=0
    ·rw[hz x' o' hf' (by omega)]
     intro h; cases h
    ·rw[hz x o hf e]at hb
     cases hb
  refine(jqT _ l (w.heap.size+1) nm gU i (ρ 1) ρ' W hrel rfl hi hL (fun x=>x.1) A hA J Jx (fun k hk W1 hj=>?_) hJ h0)
  have e1:A.take (k+1)=A.take k++[A[k]]:=by rw[List.take_succ_eq_append_getElem hk]
  rw[e1]
  exact hY (A.take k) A[k] W1 hj (by rw[List.length_take]; omega)
 case assign =>
  intro l x W K hK
  gi_wp2
  exact hK
 case body =>
  rintro l pre x W ⟨⟨hp,hv5,hcr,hfr⟩,hB⟩ _
  have hlt:w.heap.size+1<W.heap.size:=World.block_lt_of_cell? W ⟨w.heap.size+1,0,none⟩ hcr
  have hx1:=x.2.1
  have hx2:=x.2.2
  obtain⟨b,off,hab,hcells⟩:=hpcells (by show 0<pl.length; omega)
  subst hab
  have hcell:W.cell? ⟨b,off+x.1.toNat,none⟩=some (.bool (pl.getD x.1.toNat false)):=by
   have hc:=hcells x.1.toNat (.b (pl.getD x.1.toNat false)) (by
    have:=(Cont.bools pl).flat_get (i:=x.1.toNat) (j:=0) (by show x.1.toNat<pl.length; omega) Nat.one_pos
    simpa [Cont.e,Cont.cell]using this)
   have hbl:b<w.heap.size:=World.block_lt_of_cell? w ⟨b,off+x.1.toNat,none⟩ hc
   exact(hB.cell (p:=⟨b,off+x.1.toNat,none⟩) hbl).trans hc
  have hx3:x.1<((Cont.bools pl).n:Int):=hx2
  clear hcells hready hA hne hpcells hpc hpo hgc hgB hgp hP hx hL hi hh hpv k0 k1 k2 k3 hs2 hB0 hw2
  have hgd:pl.getD x.1.toNat false=pl[x.1.toNat]'(by omega):=by simp[List.getD,List.getElem?_eq_getElem (show x.1.toNat<pl.length by omega)]
  gi_wp2
  ·rename_i hxx
   exact⟨KeepsOthers.setCell _ _ _,⟨rfl,⟨x,List.mem_append.2 (.inr (by simp)),by rw[hgd]; simpa using hxx⟩,World.cell?_setCell_same' _ _ _ (by rw[hcr]; rfl)⟩,hB.setCell (p:=⟨w.heap.size+1,0,none⟩) (by simp) _⟩
  ·rename_i hxx
   exact⟨KeepsOthers.refl _,jqR (Below.refl _ _),⟨fun y hy=>(List.mem_append.1 hy).elim (hp y) (fun e=>by simp at e; subst e; rw[hgd]; simpa using hxx),hv5,hcr,hfr⟩,hB⟩
 case done =>
  rintro D ys W hD rfl ⟨⟨hne,hv5,hcr,hfr⟩,hB⟩ hK
  clear hpcells hpc hpo hgc hgB hgp hP hx hL hi hh hpv k0 k1 k2 k3 hB0 hw2
  gi_wp2
  have hK':=(KeepsOthers.setCell W ⟨w.heap.size+1,0,none⟩ (.bool true)).same D _ hK rfl
  refine⟨by simp,.inl ⟨_,_,rfl,run_takeDeferred hK',?_⟩⟩
  have hc5:=cell_kept (World.cell?_setCell_same' W ⟨w.heap.size+1,0,none⟩ (.bool true) (by rw[hcr]; rfl)) (grownBy_putObj' _ D (.deferred none)) (fun r e=>by cases e; exact⟨_,hK',rfl⟩)
  have hall:readyB pl (needL (nL gU i.toNat 2) (nI gU i.toNat 7))=true:=by
   rw[hready]
   exact List.all_eq_true.2 fun y hy=>hne y hy
  refine⟨.bool true,?_,by rw[hall],(hB.setCell (p:=⟨w.heap.size+1,0,none⟩) (by simp) _).trans (belowK_b (w:=w) (Nat.le_refl _) _ D _ _ (by omega) hK' rfl rfl)⟩
  simp[results,Tryz.f38,go_sem,hc5]
 case stop =>
  rintro D c pre W hD ⟨k,hk,rfl⟩ ⟨⟨rfl,⟨y,hy,hpy⟩,hcr⟩,hB⟩ hK
  clear hpcells hpc hpo hgc hgB hgp hP hx hL hi hh hpv k0 k1 k2 k3 hB0 hw2
  gi_wp2
  refine⟨by simp,.inl ⟨_,_,rfl,run_takeDeferred hK,?_⟩⟩
  have hc5:=cell_kept hcr (grownBy_putObj' _ D (.deferred none)) (fun r e=>by cases e; exact⟨_,hK,rfl⟩)
  have hall:readyB pl (needL (nL gU i.toNat 2) (nI gU i.toNat 7))=false:=by
   rw[hready,Bool.eq_false_iff]
   intro h
   have:=List.all_eq_true.1 h y (List.mem_of_mem_take hy)
   rw[hpy]at this
   cases this
  refine⟨.bool false,?_,by rw[hall],hB.trans (belowK_b (w:=w) (Nat.le_refl _) W D _ _ (by omega) hK rfl rfl)⟩
  simp[results,Tryz.f38,go_sem,hc5]
end Go.Sx09
end

section
open Go.RowKit
namespace Go.Sx
section
variable [Globs] {P:Program}
theorem jg6 {f:Nat} {fn:Func} {body:Code} {shs:List SV} {g:List Lf→Option GT} (hf:P.funcs[f]?=some fn) (hb:fn.body=some body) (hn:(fn.name == "runtime.NumGoroutine")=false)
  (h:∀ls t,g ls=some t→∃ob x,t=.leaf ob [.c (.d x)]∧(ob→∀b:Bv,jdE shs 0 ls=some b→∀ρ w,HRel ρ (kd fun k=>k<w.heap.size) b.hp b.n w→Calls P f (b.vs.map (V.val ρ)).toArray w fun e w'=>e=.returned x.val∧Below w.heap.size w w')) :
  jan P f true (jaO shs g):=by
 refine .inl ⟨jbY hf hb hn,fun ρ B w args hp nx t hS hob hlt hh hB=>?_⟩
 unfold jaO at hS
 split at hS
 ·rename_i ls am hto
  split at hS
  ·rename_i t' hg
   cases hS
   obtain⟨ob,x,rfl,hc⟩:=h ls t' hg
   rw[jaX]at hob
   have hob:ob:=hob
   obtain⟨b,ρ0,hbl,q⟩:=jep hh hB shs args ls am hto hlt 0 (fun _=>undef) []
   rw[List.append_nil]at hbl
   have hh0:HRel ρ0 (kd fun k=>k<w.heap.size) b.hp b.n w:=by
    refine⟨fun x o hf=>?_,fun x o x' o' k hf hf' _ hb=>?_,jfb hh.glob hB⟩
    ·obtain⟨_,a2,a3,a4,_⟩:=q.heap x o hf
     exact⟨a2,a3,a4⟩
    ·obtain⟨_,_,_,_,a5⟩:=q.heap x o hf
     rw[a5]at hb
     cases hb
   have hcalls:=hc hob b hbl ρ0 w hh0
   rw[q.val]at hcalls
   refine hcalls.mono ?_
   rintro e w' ⟨rfl,hbw⟩
   refine⟨ρ,?_,jac.refl _ _,?_,?_,⟨B,Grow.refl _ _ _ _,?_⟩,jbA hbw hB,fun _=>hbw,fun _ h o k hle hf _=>?_⟩
   ·rw[jaX]; rfl
   ·rw[jaX]; trivial
   ·rw[jaX]; exact Nat.le_refl _
   ·rw[jaX]; exact hh.below hbw hB
   ·rw[jaX]at hf
    have:=(hh.ok h o hf).1
    omega
  ·cases hS
 ·cases hS
end
end Go.Sx
end

section
namespace Go.Sh
open Go Go.Proofs Go.RowKit Go.Sx
def jlY:List SV:=[.c (.p [.d,.x (.st [.s,.i .i64,.ints .i64,.ints .i64,.ints .i64,.i .i64,.recs 5,.i .i64] []),.r (.ints .i64 [])]),.c .d,.c (.r (.bools []))]
def jeT (gUnits:List (List NC)) (i:Int) (placed:List Bool):Option Bool :=
 if 0≤i∧i<gUnits.length then
  if((nL gUnits i.toNat 2).length:Int)<9223372036854775807∧(Sx09.needL (nL gUnits i.toNat 2) (nI gUnits i.toNat 7)).all (fun x=>decide (0≤x∧x<placed.length))=true then
   some (Sx09.readyB placed (Sx09.needL (nL gUnits i.toNat 2) (nI gUnits i.toNat 7)))
  else none
 else none
def jic:List Lf→Option GT
 |[.d (.s gName),.x (.st [.s,.i .i64,.ints .i64,.ints .i64,.ints .i64,.i .i64,.recs 5,.i .i64] gUnits),.r (.ints .i64 order),.d (.i .i64 i),.r (.bools placed)]=>some (.leaf (ok (jeT gUnits i placed)) [.c (.d (.b (val (jeT gUnits i placed))))])
 |_=>none
theorem jpL:jan Tryz.prog 38 true (jaO jlY jic):=by
 refine jg6 (fn:=Tryz.f38) (body:=bodyOf Tryz.f38) Tryz.func38 (by kernel_rfl) (by kernel_rfl) fun ls t h=>?_
 unfold jic at h
 split at h
 ·rename_i gName gUnits order i placed
  cases h
  refine⟨_,_,rfl,fun hok b hb ρ w hh=>?_⟩
  have hbe:b=⟨[.w (.c (.p 2 0 1 0)),.w (.c (.d (.i .i64 i))),.w (.c (.o 3))],[(3,.ext (.bools placed)),(2,.ebox [.d (.s gName),.o 0,.o 1]),(1,.ext (.ints .i64 order)),(0,.xext (.st Sx09.shU gUnits))],4,[]⟩ :=
   Option.some.inj (hb.symm.trans (by kernel_rfl))
  subst hbe
  unfold ok jeT at hok
  split at hok
  ·rename_i hi
   split at hok
   ·rename_i hL
    have hv:val (jeT gUnits i placed)=Sx09.readyB placed (Sx09.needL (nL gUnits i.toNat 2) (nI gUnits i.toNat 7)):=by
     unfold jeT
     rw[if_pos hi,if_pos hL]
     rfl
    rw[hv]
    exact(callsIn_wide (n:=9)).1 (Sx09.ready_in gName gUnits order i placed ρ w hh hi hL.1 fun x hx=>by simpa using List.all_eq_true.1 hL.2 x hx)
   ·cases hok
  ·cases hok
 ·cases h
end Go.Sh
end

section
open Go.RowKit
namespace Go.Sx
def jiM (z:C) (cs:List C) (j:Nat):Bool :=
 match z with
 | .d (.i k _)=>(iks k cs).getD j false
 | .d (.b _)=>(bks cs).getD j false
 | .d (.s _)=>(sks cs).getD j false
 |_=>false
def jid (cs:List C):List C→Nat→Bool
 |[],_=>true
 |z::r,j=>match jiM z cs j with
  |true=>jid cs r (j+1)
  |false=>false
def jms (P:Program) (t:TypeId) (cs:List C) (j:Nat):Bool :=
 match jas P t with
 |some z=>jid cs z j
 |none=>false
def jkK (cs:List C) (j:Nat):List C→Bool
 |[]=>true
 |c::r=>match jiM c cs j,jlf cs j c with
  |true,some (_,cs')=>jkK cs' (j+1) r
  |_,_=>false
theorem jqU {z c:C} {cs:List C} {j:Nat} {p:Prop} (h:jlb z cs j=some (p,c)) (hb:jiM z cs j=true):p:=by
 unfold jlb at h
 unfold jiM at hb
 split at h<;>cases h<;>exact hb
theorem jo1 {cs:List C}:∀{zs l:List C} {j:Nat} {p:Prop},jfA cs zs j=some (p,l)→jid cs zs j=true→p
 |[],l,j,p,h,_=>by
  simp only[jfA,Option.some.injEq,Prod.mk.injEq]at h
  exact h.1 ▸ trivial
 |z::r,l,j,p,h,hb=>by
  unfold jfA at h
  unfold jid at hb
  split at h
  ·rename_i q c hq
   split at hb
   ·rename_i hz
    have h1:=jqU hq hz
    split at h
    ·cases h
     exact h1
    ·split at h
     ·rename_i q2 l2 h2
      cases h
      exact⟨h1,jo1 h2 hb⟩
     ·cases h
   ·cases hb
  ·cases h
theorem jqV {P:Program} {t:TypeId} {cs:List C} {j:Nat} {p:Prop} {v:V} (h:jhy P t cs j=some (p,v)) (hb:jms P t cs j=true):p:=by
 unfold jhy at h
 unfold jms at hb
 split at h
 ·rename_i z _ _ hz
  rw[hz]at hb
  split at h
  ·rename_i q c hq
   cases h
   dsimp only[jid]at hb
   split at hb
   ·rename_i h1
    exact jqU hq h1
   ·cases hb
  ·cases h
 ·rename_i sz z _ _ hz
  rw[hz]at hb
  split at h
  ·split at h
   ·rename_i q l hq
    cases h
    exact jo1 hq hb
   ·cases h
  ·cases h
 ·cases h
theorem jtA {c:C} {cs cs':List C} {j:Nat} {p:Prop} (h:jlf cs j c=some (p,cs')) (hb:jiM c cs j=true):p:=by
 unfold jlf at h
 unfold jiM at hb
 split at h<;>cases h<;>exact hb
theorem jo2:∀{ds cs l:List C} {j:Nat} {p:Prop},jiy cs j ds=some (p,l)→jkK cs j ds=true→p
 |[],_,_,_,_,h,_=>by cases h
 |c::r,cs,l,j,p,h,hb=>by
  unfold jiy at h
  unfold jkK at hb
  split at h
  ·rename_i q cs' hq
   split at hb
   ·rename_i cs2 hz hq2
    rw[hq]at hq2
    cases hq2
    have h1:=jtA hq hz
    split at h
    ·cases h
     exact h1
    ·split at h
     ·rename_i q2 l2 h2
      cases h
      exact⟨h1,jo2 h2 hb⟩
     ·cases h
   ·cases hb
  ·cases h
def jnq (P:Program) (t:TypeId) (cs:List C) (e j:Nat):Bool :=
 match e with
 |0=>match jhy P t cs j with
  |none=>true
  |some _=>jms P t cs j
 |_+1=>true
def jpM (P:Program) (t:TypeId) (c:Cont) (i j:Nat):Bool :=
 match c with
 | .frs _ E l=>Nat.blt i l.length&&Nat.blt j E
 | .floats _ l=>match jba P t,szT P t with
  |some true,some sz=>Nat.ble (i+sz) l.length
  |_,_=>Nat.blt i l.length
 |c=>Nat.blt i c.n
def jpN (P:Program) (t:TypeId) (o:O) (i e j:Nat):Bool :=
 match o with
 | .box _ cs=>jnq P t cs e j
 | .ebox cs=>jnq P t cs e j
 | .arr _ _ E _=>Nat.blt (i*e+j) E
 | .xext X=>Nat.blt i X.n
 | .xrow _ X=>Nat.blt i X.n
 | .mrow _ _ X _=>Nat.blt i X.n
 | .lbox _ _ _ _=>true
 | .lview _ _ _ _=>true
 | .elist _ _ _=>true
 |o=>match o.cont with
  |some c=>jpM P t c i j
  |none=>false
theorem js7 {P:Program} {t:TypeId} {cs:List C} {e j:Nat} {p:Prop} {v:V} (h:jdp P t cs e j=some (p,v)) (hb:jnq P t cs e j=true):p:=by
 unfold jdp at h
 split at h
 ·split at h
  ·rename_i x hx
   cases h
   unfold jnq at hb
   dsimp only at hb
   rw[hx]at hb
   exact jqV hx hb
  ·cases h
 ·cases h
theorem jaY {a b:Nat} (h:Nat.blt a b=true):a<b:=by simpa using h
theorem jo3 {P:Program} {t:TypeId} {o:O} {i e j:Nat} {p:Prop} {v:V} (h:jct P t o i e j=some (p,v)) (hb:jpN P t o i e j=true):p:=by
 unfold jct at h
 split at h
 ·rename_i ag sz hag hsz
  have xs:∀(sh:List NK) (l:List (List NC)),Nat.blt i l.length=true→((match(generalizing:=false) ag with
   |true=>none
   |false=>match Nat.beq e sh.length,sh[j]? with
    |true,some (.i k)=>some (i<l.length,vi k (((l.getD i []).getD j (.d (.v undef))).toI))
    |true,some .b=>some (i<l.length,vb (((l.getD i []).getD j (.d (.v undef))).toB))
    |true,some (.f k)=>some (i<l.length,vf k (((l.getD i []).getD j (.d (.v undef))).toF))
    |true,some .s=>some (i<l.length,vs (((l.getD i []).getD j (.d (.v undef))).toS))
    |_,_=>none):Option (Prop × V))=some (p,v)→p:=by
   intro sh l hl h
   split at h
   ·cases h
   ·split at h<;>cases h<;>exact jaY hl
  have bx:∀cs:List C,jnq P t cs e j=true→((match jdp P t cs e j with
   |some x=>some x
   |none=>match(generalizing:=false) ag with
    |true=>if i*e+j+sz≤cs.length then some (True,V.w (.a ((cs.drop (i*e+j)).take sz)))else none
    |false=>(cs[i*e+j]?).map fun c=>(True,V.w (.c c))):Option (Prop × V))=some (p,v)→p:=by
   intro cs hb h
   split at h
   ·rename_i x hx
    cases h
    exact js7 hx hb
   ·split at h
    ·split at h
     ·cases h; trivial
     ·cases h
    ·cases hc:cs[i*e+j]? with
     |none=>simp[hc]at h
     |some c=>simp[hc]at h; exact h.1
  have ct:∀c:Cont,jpM P t c i j=true→((match some c with
   |some (.frs k E l) =>
    match(generalizing:=false) ag with
    |true=>match Nat.beq e E,Nat.beq j 0,Nat.beq sz E with
     |true,true,true=>some (i<l.length,jk9 k E (l.getD i []))
     |_,_,_=>none
    |false=>match Nat.beq e E with
     |true=>some (i<l.length∧j<E,vf k ((l.getD i []).getD j 0))
     |false=>none
   |some (.floats k l) =>
    match Nat.beq e 1,Nat.beq j 0 with
    |true,true=>match(generalizing:=false) ag with
     |true=>some (i+sz≤l.length,jk9 k sz ((l.drop i).take sz))
     |false=>some (i<l.length,vf k (l.getD i 0))
    |_,_=>none
   |some c =>
    match(generalizing:=false) ag with
    |true=>if e=c.e∧j+sz≤e then some (i<c.n,V.w (.a ((List.range sz).map fun m=>C.d (c.cell i (j+m)))))else none
    |false=>if e=c.e∧j<e then some (i<c.n,V.w (.c (.d (c.cell i j))))else none
   |none=>none):Option (Prop × V))=some (p,v)→p:=by
   intro c hb h
   unfold jpM at hb
   cases c with
   |frs k E l =>
    simp only[Bool.and_eq_true]at hb
    dsimp only at h
    split at h
    ·split at h
     ·cases h; exact jaY hb.1
     ·cases h
    ·split at h
     ·cases h; exact⟨jaY hb.1,jaY hb.2⟩
     ·cases h
   |floats k l =>
    dsimp only at h hb
    rw[hag,hsz]at hb
    split at h
    ·cases ag with
     |true=>cases h; exact Nat.le_of_ble_eq_true hb
     |false=>cases h; exact jaY hb
    ·cases h
   |_ =>
    dsimp only at h hb
    split at h
    ·split at h
     ·cases h; exact jaY hb
     ·cases h
    ·split at h
     ·cases h; exact jaY hb
     ·cases h
  cases o with
  |box ty cs=>exact bx cs hb h
  |ebox cs=>exact bx cs hb h
  |arr ty k E r =>
   dsimp only at h
   split at h
   ·split at h
    ·cases h; trivial
    ·cases h
   ·cases h; exact jaY hb
  |xext X =>
   cases X with
   |st sh l=>exact xs sh l hb h
   |_=>cases h
  |xrow ty X =>
   cases X with
   |st sh l=>exact xs sh l hb h
   |_=>cases h
  |mrow ty ts X ho =>
   cases ho with
   |none =>
    cases X with
    |st sh l=>exact xs sh l hb h
    |_=>cases h
   |some x=>cases X<;>cases h
  |lbox ty E n cs =>
   dsimp only at h
   split at h
   ·split at h
    ·split at h
     ·cases h; trivial
     ·cases h
    ·cases hc:cs[i*e+j]? with
     |none=>simp[hc]at h
     |some c=>simp[hc]at h; exact h.1
   ·cases h
  |lview r E n cs =>
   dsimp only at h
   split at h
   ·split at h
    ·split at h
     ·cases h; trivial
     ·cases h
    ·cases hc:cs[i*e+j]? with
     |none=>simp[hc]at h
     |some c=>simp[hc]at h; exact h.1
   ·cases h
  |elist E n cs =>
   dsimp only at h
   split at h
   ·split at h
    ·split at h
     ·cases h; trivial
     ·cases h
    ·cases hc:cs[i*e+j]? with
     |none=>simp[hc]at h
     |some c=>simp[hc]at h; exact h.1
   ·cases h
  |row ty c=>exact ct c hb h
  |ext c=>exact ct c hb h
  |view r c fl=>exact ct c hb h
  |rrow c=>exact ct c hb h
  |fext c=>exact ct c hb h
  |sub r i0 e0 j0 t0 c=>exact ct c hb h
  |_=>cases h
 ·cases h
end Go.Sx
end

section
open Go.RowKit
namespace Go.Sx
def jg7 (l m:Option Int) (n:Int):Bool:=decide (0≤l.getD 0∧l.getD 0≤m.getD n∧m.getD n≤n)
def jgm (o:O) (y:Option V) (i e j:Nat):Bool :=
 match o with
 | .box _ cs=>match e with
  |0=>match y with
   |some (.w u)=>jkK cs j u.cells
   |_=>false
  |_+1=>true
 | .arr _ _ E _=>Nat.blt (i*e+j) E
 | .row _ (.frs _ E l)=>Nat.blt i l.length&&Nat.blt j E
 | .row _ c=>Nat.blt i c.n
 | .xrow _ X=>Nat.blt i X.n
 | .mrow _ _ X ho=>match ho with
  |none=>Nat.blt i X.n
  |some (i0,_)=>Nat.beq i i0&&Nat.blt i X.n
 | .sub _ _ _ _ _ c=>Nat.blt i c.n
 | .lbox _ _ _ _=>true
 |_=>false
def jcs (hp:Hp) (v:Option V):Option Nat :=
 match v with
 |some (.w (.c (.o h)))=>match find hp h with
  |some o=>match o.cont with
   |some c=>some c.n
   |none=>match o.xc with
    |some X=>some X.n
    |none=>match o.lst with
     |some (_,n,_)=>some n
     |none=>none
  |none=>none
 |some (.w (.c (.d (.v (.slice none 0 0)))))=>some 0
 |_=>none
def obB (P:Program) (op:Op) (rd:Operand→Option V) (hp:Hp):Bool :=
 match op with
 | .binOp op _ x y _=>match(rd x).bind V.int?,(rd y).bind V.int? with
  |some _,some (_,b)=>(match op with
   | .quo=>!(decide (b=0))
   | .rem=>!(decide (b=0))
   | .shl=>decide (0≤b)
   | .shr=>decide (0≤b)
   |_=>true)
  |_,_=>false
 | .convert _ dst x=>match(rd x).bind V.flt? with
  |some (s,b)=>match P.underlying dst with
   |some (.int k)=>jkc s k b
   |_=>false
  |none=>match(rd x).bind V.int? with
   |some _=>true
   |none=>false
 | .index t x i=>match rd x,(rd i).bind V.int? with
  |some v,some (_,n)=>match v.str?,P.underlying t with
   |some s,_=>decide (0≤n∧n<(s.size:Int))
   |none,some (.array len elem)=>decide (0≤n∧n<(len:Int))&&(match v.agg?,szT P elem with
    |some cs,some size=>isK i||(match jhy P elem cs (n.toNat*size)with
     |none=>true
     |some _=>jms P elem cs (n.toNat*size))
    |_,_=>true)
   |none,_=>false
  |_,_=>false
 | .indexAddr t x ix=>match(rd ix).bind V.int? with
  |some (_,n)=>match P.underlying t with
   |some (.array len _)=>decide (0≤n∧n<(len:Int))
   |some (.slice _)=>match jcs hp (rd x)with
    |some m=>decide (0≤n∧n<(m:Int))
    |none=>false
   |_=>false
  |none=>false
 | .load t x=>match rd x with
  |some (.w (.c (.p h i e j)))=>match find hp h with
   |some o=>jpN P t o i e j
   |none=>false
  |_=>false
 | .store _ x y=>match rd x with
  |some (.w (.c (.p h i e j)))=>match find hp h with
   |some o=>jgm o (rd y) i e j
   |none=>false
  |_=>false
 | .slice t x lo hi none=>match jax rd lo,jax rd hi with
  |some l,some m=>match P.underlying t with
   |some .string=>match(rd x).bind V.str? with
    |some s=>jg7 l m (s.size:Int)
    |none=>false
   |some (.array n _)=>match rd x with
    |some (.w (.c (.p h _ _ _)))=>match find hp h with
     |some (.arr _ _ _ r)=>Nat.beq r.length n&&jg7 l m (n:Int)
     |some (.box _ _)=>true
     |_=>false
    |_=>false
   |some (.slice _)=>match jcs hp (rd x)with
    |some n=>jg7 l m (n:Int)
    |none=>false
   |_=>false
  |_,_=>false
 | .slice _ x lo (some hi) (some mx)=>match jax rd lo,(rd hi).bind V.int?,(rd mx).bind V.int?,jcs hp (rd x)with
  |some l,some (_,m),some (_,q),some n=>decide (0≤l.getD 0∧l.getD 0≤m∧m≤q∧q≤(n:Int))
  |_,_,_,_=>false
 | .makeSlice t l c=>match P.underlying t,(rd l).bind V.int?,(rd c).bind V.int? with
  |some (.slice elem),some (_,n),some (_,m)=>match jaD P elem with
   |some b=>decide (0≤n∧n=m∧(b:Int)*n≤281474976710656∧n≤9223372036854775807)
   |none=>false
  |_,_,_=>false
 | .call c=>match c.callee,c.args.toList,c.argTypes.toList with
  | .builtin .append,[s,x],[t,_]=>match P.underlying t,jcs hp (rd s),jcs hp (rd x)with
   |some (.slice elem),some n,some m=>match jaD P elem with
    |some b=>Nat.ble ((n+m)*b) 140737488355328&&Nat.ble (n+m) 9223372036854775807&&(match jgF hp (rd s)with
     |some c1=>Nat.blt 0 c1.n&&Nat.blt 0 m
     |none=>true)
    |none=>false
   |_,_,_=>false
  |_,_,_=>false
 |_=>false
section
variable [Globs] {P:Program} {rd:Operand→Option V} {hp:Hp} {nx:Nat}
theorem js8 {v:V} {x y} (h:v.int?=some x) (k:v.str?=some y):False:=by
 unfold V.int? at h
 split at h
 ·cases k
 ·cases h
theorem jer {h:Nat} {c:Cont} {n:Nat} {v:Option V} (hv:v=some (.w (.c (.o h)))) (hc:(find hp h).bind O.cont=some c) (hn:jcs hp v=some n):n=c.n:=by
 subst hv
 unfold jcs at hn
 cases ho:find hp h with
 |none=>simp[ho]at hc
 |some o =>
  simp only[ho,Option.bind_some]at hc
  simp only[ho,hc,Option.some.injEq]at hn
  exact hn.symm
theorem jiN {h:Nat} {X:XC} {n:Nat} {v:Option V} (hv:v=some (.w (.c (.o h)))) (hc:(find hp h).bind O.xc=some X) (hn:jcs hp v=some n):n=X.n:=by
 subst hv
 unfold jcs at hn
 cases ho:find hp h with
 |none=>simp[ho]at hc
 |some o =>
  simp only[ho,Option.bind_some]at hc
  have hcn:o.cont=none:=by cases o<;>simp[O.xc]at hc<;>rfl
  simp only[ho,hcn,hc,Option.some.injEq]at hn
  exact hn.symm
theorem jg8 {h:Nat} {e m:Nat} {cs:List C} {n:Nat} {v:Option V} (hv:v=some (.w (.c (.o h)))) (hc:(find hp h).bind O.lst=some (e,m,cs)) (hn:jcs hp v=some n):n=m:=by
 subst hv
 unfold jcs at hn
 cases ho:find hp h with
 |none=>simp[ho]at hc
 |some o =>
  simp only[ho,Option.bind_some]at hc
  have hcn:o.cont=none∧o.xc=none:=by cases o<;>simp[O.lst]at hc<;>exact⟨rfl,rfl⟩
  simp only[ho,hcn,hc,Option.some.injEq]at hn
  exact hn.symm
theorem jrZ {op:BinOp} {k k':IntKind} {m n:Int} {ob:Prop} {v:V} (ht:(match op with
   | .quo=>!(decide (n=0))
   | .rem=>!(decide (n=0))
   | .shl=>decide (0≤n)
   | .shr=>decide (0≤n)
   |_=>true)=true) (h:jee op k m k' n=some (ob,v)):ob:=by
 unfold jee at h
 split at h
 ·cases h; simpa using ht
 ·cases h; simpa using ht
 ·split at h
  ·split at h<;>first|(cases h; trivial)|(cases h; simpa using ht)|cases h
  ·cases h
theorem jqW {op:Op} {ob:Prop} {v:V} (ht:obB P op rd hp=true) (h:jaL P op rd hp=some (ob,v)):ob:=by
 unfold obB at ht
 unfold jaL at h
 cases op with
 |binOp op t x y yt =>
  dsimp only at h ht
  split at ht
  ·rename_i ka k' b hx hy
   split at h
   ·rename_i u v' hu hv
    simp only[hu,hv,Option.bind_some]at hx hy
    rw[hx,hy]at h
    obtain⟨k,a⟩:=ka
    exact jrZ ht h
   ·cases h
  ·cases ht
 |convert s d x =>
  dsimp only at h ht
  cases hx:rd x with
  |none=>simp[hx]at h
  |some u =>
   simp only[hx,Option.bind_some]at h ht
   unfold jmn at h
   split at h
   ·cases h; trivial
   ·cases h; trivial
   ·rename_i s' b hu hd hf
    cases h
    rw[hf]at ht
    dsimp only at ht
    rw[hd]at ht
    exact ht
   ·cases h
 |index t x i =>
  dsimp only at h ht
  split at ht
  ·rename_i u k n hx hi
   simp only[hx,Option.bind_some]at h
   split at ht
   ·rename_i s hs
    rw[hs,hi]at h
    split at h
    ·rename_i s2 k2 n2 h1 h2 h3
     cases h1; cases h3
     cases h
     simpa using ht
    ·cases h
    ·rename_i h0; cases h0
   ·rename_i len elem hs hut
    rw[hs,hut,hi]at h
    simp only[Bool.and_eq_true,decide_eq_true_eq]at ht
    split at h
    ·rename_i h0 _ _; cases h0
    ·cases h
    ·split at h
     ·rename_i len' elem' cs k' n' h1 h2 h3
      cases h1; cases h3
      rw[h2]at ht
      split at h
      ·rename_i size hsz
       rw[hsz]at ht
       simp only[Bool.or_eq_true]at ht
       split at h
       ·rename_i p v' hk hsel
        cases h
        rw[hk,hsel]at ht
        exact⟨ht.1,jqV hsel (by simpa using ht.2)⟩
       ·generalize jbt P elem cs _=q at h
        cases q with
        |none=>simp at h
        |some v'=>simp at h; rw[←h.1]; exact ht.1
      ·cases h
     ·cases h
   ·cases ht
  ·cases ht
 |indexAddr t x ix =>
  dsimp only at h ht
  split at ht
  ·rename_i k n hi
   rw[hi]at h
   split at h
   ·rename_i len elem h' i e j k2 n2 hut hx hn
    cases hn
    rw[hut]at ht
    simp only[decide_eq_true_eq]at ht
    split at h
    ·split at h<;>(cases h; exact ht)
    ·cases h
   ·rename_i elem h' k2 n2 hut hx hn
    cases hn
    rw[hut]at ht
    dsimp only at ht
    split at h
    ·rename_i c size hc hsz
     split at h
     ·cases h
      split at ht
      ·rename_i m hm
       rw[jer hx hc hm]at ht
       simpa using ht
      ·cases ht
     ·cases h
    ·cases h
   ·cases h
  ·cases ht
 |load t x =>
  dsimp only at h ht
  split at h
  ·rename_i h' i e j hx
   rw[hx]at ht
   dsimp only at ht
   split at h
   ·rename_i o ho
    rw[ho]at ht
    exact jo3 h ht
   ·cases h
  ·cases h
 |call c =>
  dsimp only at h ht
  split at ht
  ·rename_i hc ha hat
   rw[hc]at h
   simp at h
  ·cases ht
 |slice t x lo hi mx=>cases h
 |store t x y=>cases h
 |makeSlice t l c=>cases h
 |_=>cases ht
end
end Go.Sx
end

section
open Go.RowKit
namespace Go.Sx
section
variable [Globs] {P:Program} {rd:Operand→Option V} {hp:Hp} {nx:Nat} {sp:jab}
theorem jsH {op:Op} {ob:Prop} {v:V} (ht:obB P op rd hp=true) (h:jd3 P op rd hp=some (ob,v)):ob:=by
 unfold obB at ht
 unfold jd3 at h
 cases op with
 |binOp op t x y yt =>
  dsimp only at h ht
  split at ht
  ·rename_i ka k' b hx hy
   split at h
   ·rename_i u u' hu hu'
    simp only[hu,hu',Option.bind_some]at hx hy
    split at h
    ·rename_i a b hs hs'
     exact(js8 hx hs).elim
    ·split at h
     ·unfold jkd at h
      cases op<;>simp at h<;>exact h.1
     ·split at h
      ·unfold jef at h
       cases op<;>simp at h<;>exact h.1
      ·cases h
   ·cases h
  ·cases ht
 |slice t x lo hi mx =>
  cases mx with
  |some mx=>simp at h
  |none =>
   dsimp only at h ht
   split at h
   ·rename_i s l m hut hx hl hm
    cases h
    rw[hl,hm,hut,hx]at ht
    simpa [jg7]using ht
   ·cases h
 |convert s d x =>
  dsimp only at h
  split at h
  ·split at h
   ·cases h; trivial
   ·cases h
  ·cases h
 |index t x i =>
  dsimp only at h ht
  split at h
  ·rename_i k E r hx
   split at h
   ·rename_i len elem k2 n hut hi
    rw[hx,hi,hut]at ht
    simp only[V.str?,Bool.and_eq_true,decide_eq_true_eq]at ht
    split at h
    ·cases h; exact ht.1
    ·cases h
   ·cases h
  ·cases h
 |sliceToArrayPointer t x=>cases ht
 |nilCheck x=>cases ht
 |fieldAddr s x f=>cases ht
 |indexAddr t x ix =>
  dsimp only at h ht
  split at ht
  ·rename_i k n hi
   rw[hi]at h
   split at h
   ·rename_i len elem h' e k2 n2 hut hx hn
    cases hn
    rw[hut]at ht
    simp only[decide_eq_true_eq]at ht
    split at h
    ·split at h
     ·cases h; exact ht
     ·cases h
    ·cases h
   ·rename_i elem h' k2 n2 hut hx hn
    cases hn
    rw[hut]at ht
    dsimp only at ht
    split at h
    ·rename_i X size hc hsz
     split at h
     ·cases h
      split at ht
      ·rename_i m hm
       rw[jiN hx hc hm]at ht
       simpa using ht
      ·cases ht
     ·cases h
    ·rename_i size hc hsz
     split at h
     ·rename_i e m cs hl
      split at h
      ·cases h
       split at ht
       ·rename_i m' hm
        rw[jg8 hx hl hm]at ht
        simpa using ht
       ·cases ht
      ·cases h
     ·cases h
    ·cases h
   ·cases h
  ·cases ht
 |load t x =>
  dsimp only at h ht
  split at h
  ·rename_i hx
   rw[hx]at ht
   cases ht
  ·cases h
 |call c =>
  dsimp only at h ht
  split at ht
  ·rename_i hc ha hat
   rw[hc]at h
   simp at h
  ·cases ht
 |_=>simp at h
theorem bR_ob {op:Op} {r:Res} (ht:obB P op rd hp=true) (h:jcv P op rd hp nx=some r):r.ob:=by
 unfold obB at ht
 unfold jcv at h
 cases op with
 |slice t x lo hi mx =>
  split at h
  ·rename_i t2 x2 hi2 mx2 he
   cases he
   dsimp only at ht
   split at h
   ·split at h
    ·rename_i elem h' k m k' q hut hx hm hq
     split at h
     ·rename_i c e hf hs
      split at h
      ·cases h
       split at ht
       ·rename_i l m' k1 q' k2 n hl hm' hq' hn
        rw[hm]at hm'; rw[hq]at hq'
        cases hm'; cases hq'
        simp only[jax,Option.some.injEq]at hl
        subst hl
        rw[jer (c:=c) hx (by rw[hf]; rfl) hn]at ht
        simp only[Option.getD_none,decide_eq_true_eq]at ht
        exact⟨ht.2.1,ht.2.2⟩
       ·cases ht
      ·cases h
     ·cases h
    ·cases h
   ·cases h
  ·rename_i t2 x2 lo2 he
   cases he
   dsimp only at ht
   split at h
   ·split at h
    ·rename_i elem h' k l hut hx hl
     split at h
     ·rename_i c e hf hs
      split at h
      ·cases h
       split at ht
       ·rename_i l' m hl' hm
        rw[hut]at ht
        dsimp only at ht
        split at ht
        ·rename_i n hn
         have hcn:(find hp h').bind O.cont=some c:=by
          cases ho:find hp h' with
          |none=>simp[ho]at hf
          |some o =>
           simp only[ho,Option.bind_some]at hf ⊢
           cases o<;>simp[jdQ]at hf<;>simpa [O.cont]using hf
         rw[jer hx hcn hn]at ht
         simp only[jax]at hl' hm
         rw[hl]at hl'
         cases hl'; cases hm
         simp only[jg7,Option.getD_some,Option.getD_none,decide_eq_true_eq]at ht
         exact⟨ht.1,ht.2.1⟩
        ·cases ht
       ·cases ht
      ·cases h
     ·cases h
    ·cases h
   ·cases h
  ·cases h
 |_=>simp at h
theorem bN_ob {op:Op} {r:Res} (ht:obB P op rd hp=true) (h:jc4 P op rd hp nx=some r):r.ob:=by
 unfold obB at ht
 unfold jc4 at h
 cases op with
 |makeSlice t l c =>
  dsimp only at h ht
  split at h
  ·rename_i elem k n k' m hut hn hm
   rw[hut,hn,hm]at ht
   dsimp only at ht
   split at h
   ·rename_i X0 z b e h1 h2 h3 h4
    rw[h3]at ht
    split at h
    ·cases h; simpa using ht
    ·cases h
   ·cases h
  ·cases h
 |buildSlice t n ps=>cases ht
 |store t x y =>
  dsimp only at h ht
  split at h
  ·rename_i k i e j u hx hy
   rw[hx]at ht
   dsimp only at ht
   split at h
   ·rename_i ty X sz hf hs
    rw[hf]at ht
    have ht:=jaY (show Nat.blt i X.n=true from ht)
    split at h
    ·split at h
     ·split at h
      ·cases h; exact ht
      ·cases h
     ·split at h
      ·split at h
       ·cases h; exact ht
       ·cases h
      ·cases h
    ·cases h
   ·cases h
  ·cases h
 |call c =>
  dsimp only at h ht
  split at h
  ·rename_i s x t t' hc ha hat
   rw[hc,ha,hat]at ht
   dsimp only at ht
   split at h
   ·rename_i elem hb hut
    rw[hut]at ht
    split at h
    ·rename_i X0 z e b h1 h2 h3 h4
     split at h
     ·rename_i hs ty X1 hx ty' X2 g1 g2
      split at ht
      ·rename_i elem' n m he hn hm
       cases he
       rw[h4]at ht
       simp only[Bool.and_eq_true]at ht
       have len:∀{v:Option V} {hs:Option Nat} {ty n:Nat} {X:XC},v.bind (xOf hp X0)=some (hs,ty,X)→jcs hp v=some n→n=X.n∨X=X0:=by
        intro v hs ty n X hv hn
        cases v with
        |none=>cases hv
        |some v =>
         simp only[Option.bind_some]at hv
         unfold xOf at hv
         split at hv
         ·split at hv
          ·rename_i ty2 X2 hf
           cases hv
           exact .inl (jiN (X:=X) rfl (by rw[hf]; rfl) hn)
          ·cases hv
         ·cases hv; exact .inr rfl
         ·cases hv
       have h0:X0.n=0:=by
        unfold xcT at h1
        split at h1
        ·split at h1
         ·split at h1<;>cases h1; rfl
         ·split at h1<;>cases h1<;>rfl
         ·cases h1
        ·cases h1
       have l1:X1.n≤n:=(len g1 hn).elim (fun e=>Nat.le_of_eq e.symm) fun e=>by rw[e,h0]; exact Nat.zero_le _
       have l2:X2.n≤m:=(len g2 hm).elim (fun e=>Nat.le_of_eq e.symm) fun e=>by rw[e,h0]; exact Nat.zero_le _
       split at h
       ·cases h
        have a1:=Nat.le_of_ble_eq_true ht.1.1
        have a2:=Nat.le_of_ble_eq_true ht.1.2
        exact⟨Nat.le_trans (Nat.mul_le_mul_right b (Nat.add_le_add l1 l2)) a1,Nat.le_trans (Nat.add_le_add l1 l2) a2⟩
       ·cases h
      ·cases ht
     ·cases h
    ·cases h
   ·cases h
  ·cases h
 |_=>simp at h
end
end Go.Sx
end

section
open Go.RowKit
namespace Go.Sx
section
variable [Globs] {P:Program} {rd:Operand→Option V} {hp:Hp} {nx:Nat} {sp:jab}
theorem jgn {h:Nat} {o:O} {n:Nat} {v:Option V} (hv:v=some (.w (.c (.o h)))) (hf:find hp h=some o) (hn:jcs hp v=some n):(∀c,o.cont=some c→n=c.n)∧(∀X,o.xc=some X→n=X.n) :=
 ⟨fun c hc=>jer hv (by rw[hf]; exact hc) hn,fun X hX=>jiN hv (by rw[hf]; exact hX) hn⟩
theorem jg9 {z:List D} {v:Option V} {hx:Option Nat} {cx:Option Cont} {c2:Cont} {m:Nat} (g:v.bind (jbF hp)=some (hx,cx)) (hc:jbR z cx=some c2) (hm:jcs hp v=some m):c2.n=m:=by
 cases v with
 |none=>cases g
 |some v =>
  simp only[Option.bind_some]at g
  unfold jbF at g
  split at g
  ·rename_i h2
   cases hc':(find hp h2).bind O.cont with
   |none=>simp[hc']at g
   |some c' =>
    simp[hc']at g
    obtain⟨_,rfl⟩:=g
    simp only[jbR,Option.some.injEq]at hc
    subst hc
    exact(jer rfl hc' hm).symm
  ·cases g
   simp only[jcs,Option.some.injEq]at hm
   rw[(jcn (show jc1 z []=some c2 from hc)).2.1,←hm]
   rfl
  ·cases g
theorem bX_ob {op:Op} {r:Res} (ht:obB P op rd hp=true) (h:jc3 P op rd hp nx=some r):r.ob:=by
 unfold obB at ht
 unfold jc3 at h
 cases op with
 |box elem x=>cases ht
 |alloc elem=>cases ht
 |buildSlice t n ps=>cases ht
 |slice t x lo hi mx =>
  cases mx with
  |none =>
   dsimp only at h ht
   split at h
   ·rename_i n elem h' l m hut hx hl hm
    rw[hl,hm,hut]at ht
    dsimp only at ht
    rw[hx]at ht
    dsimp only at ht
    split at h
    ·rename_i ty k E r' hf hs
     rw[hf]at ht
     split at h
     ·cases h
      simp only[Bool.and_eq_true,jg7,decide_eq_true_eq]at ht
      exact⟨Nat.eq_of_beq_eq_true ht.1,ht.2⟩
     ·cases h
    ·cases h
   ·rename_i elem h' l m hut hx hl hm
    rw[hl,hm,hut]at ht
    dsimp only at ht
    split at h
    ·rename_i X sz hf hs
     split at ht
     ·rename_i n hn
      rw[(jgn hx hf hn).2 X rfl]at ht
      split at h
      ·cases h
       simpa [jg7]using ht
      ·cases h
     ·cases ht
    ·cases h
   ·cases h
  |some mx =>
   cases hi with
   |none=>cases h
   |some hi =>
    dsimp only at h ht
    split at h
    ·rename_i elem h' l k m k' q hut hx hl hm hq
     split at h
     ·rename_i o e hf hs
      split at h
      ·rename_i c hc
       split at h
       ·cases h
        split at ht
        ·rename_i l' k1 m' k2 q' n hl' hm' hq' hn
         rw[hl]at hl'; rw[hm]at hm'; rw[hq]at hq'
         cases hl'; cases hm'; cases hq'
         rw[(jgn hx hf hn).1 c hc]at ht
         simpa using ht
        ·cases ht
       ·cases h
      ·cases h
     ·cases h
    ·cases h
 |load t x =>
  dsimp only at h ht
  split at h
  ·rename_i h' i e j hx
   rw[hx]at ht
   dsimp only at ht
   split at h
   ·rename_i b X hb
    cases hf:find hp h' with
    |none=>simp[hf]at hb
    |some o =>
     rw[hf]at ht
     simp only[hf,Option.bind_some]at hb
     have ht:i<X.n:=by
      cases o<;>simp[O.xk]at hb<;>(obtain⟨_,rfl⟩:=hb; exact jaY ht)
     split at h
     ·split at h
      ·cases h; exact ht
      ·cases h
     ·split at h
      ·split at h
       ·cases h; exact ht
       ·cases h
      ·cases h
     ·cases h
   ·cases h
  ·cases h
 |store t x y =>
  dsimp only at h ht
  split at h
  ·rename_i h' i e j k v hx hy
   rw[hx]at ht
   dsimp only at ht
   split at h
   ·rename_i ty k' E r' _ _ hf
    rw[hf]at ht
    split at h
    ·cases h; exact jaY ht
    ·cases h
   ·rename_i ty k' E l _ _ hf
    rw[hf]at ht
    simp only[jgm,Bool.and_eq_true]at ht
    split at h
    ·cases h; exact⟨jaY ht.1,jaY ht.2⟩
    ·cases h
   ·cases h
  ·rename_i h' i e k E' v hx hy
   rw[hx]at ht
   dsimp only at ht
   split at h
   ·split at h
    ·cases h; trivial
    ·cases h
   ·rename_i ty k' E l _ _ hf
    rw[hf]at ht
    simp only[jgm,Bool.and_eq_true]at ht
    split at h
    ·cases h; exact jaY ht.1
    ·cases h
   ·cases h
  ·split at h
   ·split at h
    ·split at h
     ·cases h; trivial
     ·cases h
    ·cases h
   ·cases h
  ·cases h
 |makeMap t r=>cases r<;>cases ht
 |lookup t x i ok=>cases ht
 |mapUpdate t m i y=>cases ht
 |_=>simp at h
theorem bM_ob {op:Op} {r:Res} (ht:obB P op rd hp=true) (h:jc5 P op rd hp nx=some r):r.ob:=by
 unfold obB at ht
 unfold jc5 at h
 cases op with
 |makeSlice t l c =>
  dsimp only at h ht
  split at h
  ·rename_i elem k n k' m _ hut hn hm
   rw[hut,hn,hm]at ht
   dsimp only at ht
   split at h
   ·rename_i X0 z b e ts h1 h2 h3 h4 h5
    rw[h3]at ht
    split at h
    ·cases h; simpa using ht
    ·cases h
   ·cases h
  ·cases h
 |buildSlice t n ps=>cases ht
 |load t x =>
  dsimp only at h ht
  split at h
  ·rename_i h' i e j hx
   rw[hx]at ht
   dsimp only at ht
   split at h
   ·rename_i ty ts X hf
    rw[hf]at ht
    have ht:i<X.n:=jaY ht
    split at h
    ·split at h
     ·cases h; exact ht
     ·cases h
    ·split at h
     ·split at h
      ·cases h; exact ht
      ·cases h
     ·cases h
    ·cases h
   ·cases h
  ·cases h
 |store t x y =>
  dsimp only at h ht
  split at h
  ·rename_i h' i e j u hx hy
   rw[hx]at ht
   dsimp only at ht
   split at h
   ·rename_i ty ts X ho sz hf hs
    rw[hf]at ht
    split at h
    ·split at h
     ·split at h
      ·split at h
       ·cases h; exact jaY ht
       ·cases h
      ·cases h
     ·split at h
      ·split at h
       ·split at h
        ·cases h; exact jaY ht
        ·rename_i i0 j0
         split at h
         ·cases h
          simp only[jgm,Bool.and_eq_true]at ht
          exact⟨Nat.eq_of_beq_eq_true ht.1,jaY ht.2⟩
         ·cases h
       ·cases h
      ·cases h
    ·cases h
   ·rename_i r0 i0 e0 j0 t0 c sz hf hs
    rw[hf]at ht
    have ht:i<c.n:=jaY ht
    split at h
    ·split at h
     ·split at h
      ·split at h
       ·cases h; exact ht
       ·cases h
      ·cases h
     ·cases h
    ·cases h
   ·cases h
  ·cases h
 |call c =>
  dsimp only at h ht
  split at h
  ·rename_i s x t t' hc ha hat
   rw[hc,ha,hat]at ht
   dsimp only at ht
   split at h
   ·rename_i elem hb hut
    rw[hut]at ht
    split at ht
    ·rename_i elem' n m he hn hm
     cases he
     split at ht
     ·rename_i b h4
      simp only[Bool.and_eq_true]at ht
      have a1:=Nat.le_of_ble_eq_true ht.1.1
      have a2:=Nat.le_of_ble_eq_true ht.1.2
      have fin:∀{x y:Nat},x≤n→y≤m→(x+y)*b≤140737488355328∧x+y≤9223372036854775807:=fun l1 l2 =>
       ⟨Nat.le_trans (Nat.mul_le_mul_right b (Nat.add_le_add l1 l2)) a1,Nat.le_trans (Nat.add_le_add l1 l2) a2⟩
      have MA:∀{r},jei P t elem (rd s) (rd x) hp nx=some r→r.ob:=by
       intro r h
       unfold jei at h
       split at h
       ·rename_i X0 z e b' ts h0 h1 h2 h3 h4' h5
        rw[h4]at h4'
        cases h4'
        have h0:X0.n=0:=by
         unfold xcT at h1
         split at h1
         ·split at h1
          ·split at h1<;>cases h1; rfl
          ·split at h1<;>cases h1<;>rfl
          ·cases h1
         ·cases h1
        have len:∀{v:Option V} {hs:Option Nat} {ty n:Nat} {ts:List Nat} {X:XC},v.bind (mOf hp X0)=some (hs,ty,ts,X)→jcs hp v=some n→X.n≤n:=by
         intro v hs ty n ts X hv hn
         cases v with
         |none=>cases hv
         |some v =>
          simp only[Option.bind_some]at hv
          unfold mOf at hv
          split at hv
          ·split at hv
           ·rename_i ty2 ts2 X2 hf
            cases hv
            exact Nat.le_of_eq (jiN (X:=X) rfl (by rw[hf]; rfl) hn).symm
           ·cases hv
          ·cases hv; rw[h0]; exact Nat.zero_le _
          ·cases hv
        split at h
        ·rename_i hs ty t1 X1 hx ty' t2 X2 g1 g2
         split at h
         ·cases h
          exact fin (len g1 hn) (len g2 hm)
         ·cases h
        ·cases h
       ·cases h
      split at h
      ·rename_i hs0 hobj
       split at h
       ·rename_i r0 i0 e0 j0 t0 c1 hf
        split at h
        ·rename_i hx cx z e b' ty ts X g1 g2 g3 g4 g5
         rw[h4]at g4
         cases g4
         split at h
         ·rename_i c2 hc2
          split at h
          ·split at h
           ·cases h
            have hs':rd s=some (.w (.c (.o hs0))):=by
             cases hrs:rd s with
             |none=>simp[hrs]at hobj
             |some v =>
              simp only[hrs,Option.bind_some]at hobj
              unfold V.obj? at hobj
              split at hobj
              ·cases hobj; rfl
              ·cases hobj
            have l1:c1.n≤n:=Nat.le_of_eq ((jgn hs' hf hn).1 c1 rfl).symm
            have l2:c2.n≤m:=Nat.le_of_eq (jg9 g1 hc2 hm)
            exact fin l1 l2
           ·cases h
          ·cases h
         ·cases h
        ·cases h
       ·exact MA h
      ·exact MA h
     ·cases ht
    ·cases ht
   ·cases h
  ·cases h
 |_=>simp at h
theorem bL_ob {op:Op} {r:Res} (ht:obB P op rd hp=true) (h:jds P op rd hp nx=some r):r.ob:=by
 unfold obB at ht
 unfold jds at h
 cases op with
 |makeSlice t l c =>
  dsimp only at h ht
  split at h
  ·rename_i elem k n k' m _ hut hn hm
   rw[hut,hn,hm]at ht
   dsimp only at ht
   split at h
   ·rename_i z e b h1 h2 h3
    rw[h3]at ht
    split at h
    ·cases h; simpa using ht
    ·cases h
   ·cases h
  ·cases h
 |buildSlice t n ps=>cases ht
 |slice t x lo hi mx =>
  cases mx with
  |some mx=>cases h
  |none =>
   dsimp only at h ht
   split at h
   ·rename_i elem h' l m hut hx hl hm
    rw[hl,hm,hut]at ht
    dsimp only at ht
    split at h
    ·rename_i e n cs sz hf hs
     split at ht
     ·rename_i n' hn
      rw[jg8 hx hf hn]at ht
      split at h
      ·cases h
       simpa [jg7]using ht
      ·cases h
     ·cases ht
    ·cases h
   ·cases h
 |store t x y =>
  dsimp only at h
  split at h
  ·split at h
   ·split at h
    ·cases h; trivial
    ·cases h
   ·cases h
  ·cases h
 |call c =>
  dsimp only at h ht
  split at h
  ·rename_i s x t t' hc ha hat
   rw[hc,ha,hat]at ht
   dsimp only at ht
   split at h
   ·rename_i elem _ hb hut
    rw[hut]at ht
    split at h
    ·rename_i z e b h1 h2 h3
     split at h
     ·rename_i hs ty e1 n1 cs1 n2 cs2 g1 g2
      split at ht
      ·rename_i elem' n m he hn hm
       cases he
       rw[h3]at ht
       simp only[Bool.and_eq_true]at ht
       have l1:n1=n:=by
        cases hrs:rd s with
        |none=>simp[hrs]at g1
        |some v =>
         simp only[hrs,Option.bind_some]at g1
         rw[hrs]at hn
         unfold lOf at g1
         split at g1
         ·rename_i k
          split at g1
          ·rename_i hf
           cases g1
           exact(jg8 rfl (by rw[hf]; rfl) hn).symm
          ·cases g1
         ·cases g1; simpa [jcs]using hn
         ·cases g1
       have l2:n2=m:=by
        cases hrs:rd x with
        |none=>simp[hrs]at g2
        |some v =>
         simp only[hrs,Option.bind_some]at g2
         rw[hrs]at hm
         unfold lRd at g2
         split at g2
         ·rename_i k
          split at g2
          ·rename_i hf
           cases g2
           exact(jg8 rfl hf hm).symm
          ·cases g2
         ·cases g2; simpa [jcs]using hm
         ·cases g2
       split at h
       ·cases h
        rw[←l1,←l2]at ht
        exact⟨Nat.le_of_ble_eq_true ht.1.1,Nat.le_of_ble_eq_true ht.1.2⟩
       ·cases h
      ·cases ht
     ·cases h
    ·cases h
   ·cases h
  ·cases h
 |_=>simp at h
theorem bH_ob {op:Op} {r:Res} (ht:obB P op rd hp=true) (hcall:∀c,op=.call c→c.callee=.builtin .append) (h:jfD P sp op rd hp nx=some r):r.ob:=by
 unfold obB at ht
 unfold jfD at h
 cases op with
 |box elem x=>cases ht
 |alloc elem=>cases ht
 |buildSlice t n ps=>cases ht
 |makeSlice t l c =>
  dsimp only at h ht
  split at h
  ·rename_i elem k n k' m hut hn hm
   rw[hut,hn,hm]at ht
   dsimp only at ht
   split at h
   ·rename_i z e b h1 h2 h3
    rw[h3]at ht
    split at h
    ·split at h
     ·cases h; simpa using ht
     ·cases h
    ·cases h
   ·cases h
  ·cases h
 |slice t x lo hi mx =>
  cases mx with
  |some mx=>cases h
  |none =>
   dsimp only at h ht
   split at h
   ·split at h
    ·split at h
     ·split at h
      ·split at h
       ·cases h; trivial
       ·cases h
      ·cases h
     ·cases h
    ·cases h
   ·rename_i elem h' l m hut hx hl hm
    rw[hl,hm,hut]at ht
    dsimp only at ht
    split at h
    ·rename_i o e hf hs
     split at h
     ·rename_i c hc
      split at ht
      ·rename_i n hn
       rw[(jgn hx hf hn).1 c hc]at ht
       split at h
       ·cases h
        simpa [jg7]using ht
       ·cases h
      ·cases ht
     ·cases h
    ·cases h
   ·cases h
 |store t x y =>
  dsimp only at h ht
  split at h
  ·rename_i h' i e j u hx hy
   rw[hx]at ht
   dsimp only at ht
   split at h
   ·split at h
    ·rename_i ty cs hf
     rw[hf,hy]at ht
     split at h
     ·rename_i p cs' hst
      cases h
      unfold jkj at hst
      split at hst
      ·split at hst
       ·cases hst
       ·rename_i c0 r0 hu
        dsimp only[jgm]at ht
        exact jo2 hst ht
      ·cases hst
     ·split at h
      ·cases h; trivial
      ·cases h
    ·rename_i ty c hf
     rw[hf]at ht
     have ht:i<c.n:=by
      cases c with
      |frs k E l =>
       simp only[jgm,Bool.and_eq_true]at ht
       exact jaY ht.1
      |_=>exact jaY ht
     split at h
     ·split at h
      ·split at h
       ·cases h; exact ht
       ·cases h
      ·cases h
     ·cases h
    ·cases h
   ·cases h
  ·cases h
 |call c =>
  dsimp only at h ht
  have hcc:=hcall c rfl
  rw[hcc]at h ht
  split at h
  ·rename_i s x t t' _ ha hat
   rw[ha,hat]at ht
   dsimp only at ht
   split at h
   ·rename_i hte
    split at ht
    ·rename_i elem n m hut hn hm
     split at ht
     ·rename_i b hb
      simp only[Bool.and_eq_true]at ht
      have a1:=Nat.le_of_ble_eq_true ht.1.1
      have a2:=Nat.le_of_ble_eq_true ht.1.2
      have fin:∀{x y:Nat},x≤n→y≤m→(x+y)*b≤140737488355328∧x+y≤9223372036854775807:=fun l1 l2 =>
       ⟨Nat.le_trans (Nat.mul_le_mul_right b (Nat.add_le_add l1 l2)) a1,Nat.le_trans (Nat.add_le_add l1 l2) a2⟩
      split at h
      ·rename_i c1 hfv
       rw[hfv]at ht
       simp only[Bool.and_eq_true]at ht
       unfold jd5 at h
       split at h
       ·rename_i elem' hx cx hut' g1
        rw[hut]at hut'
        cases hut'
        split at h
        ·rename_i z e b' h1 h2 h3
         rw[hb]at h3
         cases h3
         split at h
         ·rename_i c2 hc2
          split at h
          ·split at h
           ·cases h
            have l1:c1.n≤n:=by
             unfold jgF at hfv
             split at hfv
             ·rename_i hh hrs
              split at hfv
              ·rename_i rr cc hf
               cases hfv
               exact Nat.le_of_eq ((jgn hrs hf hn).1 c1 rfl).symm
              ·cases hfv
             ·cases hfv
            have l2:=jg9 g1 hc2 hm
            exact⟨jaY ht.2.1,by rw[l2]; exact jaY ht.2.2,fin l1 (Nat.le_of_eq l2)⟩
           ·cases h
          ·cases h
         ·cases h
        ·cases h
       ·cases h
      ·split at h
       ·rename_i elem' hs cs hx cx hut' g1 g2
        rw[hut]at hut'
        cases hut'
        split at h
        ·rename_i z e b' h1 h2 h3
         rw[hb]at h3
         cases h3
         split at h
         ·rename_i c1 c2 _ hc1 hc2
          split at h
          ·split at h
           ·cases h
            exact fin (Nat.le_of_eq (jg9 g1 hc1 hn)) (Nat.le_of_eq (jg9 g2 hc2 hm))
           ·cases h
          ·cases h
         ·cases h
        ·cases h
       ·cases h
     ·cases ht
    ·cases ht
   ·cases h
  ·rename_i hc; cases hc
  ·cases h
 |_=>simp at h
theorem b_ob {op:Op} {r:Res} (ht:obB P op rd hp=true) (h:ja5 P sp op rd hp nx=some r):r.ob:=by
 unfold ja5 at h
 split at h
 ·rename_i ob v hv
  cases h
  unfold jaR at hv
  split at hv
  ·rename_i p hp0
   cases hv
   exact jqW ht hp0
  ·exact jsH ht hv
 ·split at h
  ·rename_i r' hr
   cases h
   exact bR_ob ht hr
  ·split at h
   ·rename_i r' hr
    cases h
    exact bX_ob ht hr
   ·split at h
    ·rename_i r' hr
     cases h
     exact bL_ob ht hr
    ·split at h
     ·rename_i r' hr
      cases h
      exact bM_ob ht hr
     ·split at h
      ·rename_i r' hr
       cases h
       exact bN_ob ht hr
      ·refine bH_ob ht ?_ h
       intro c hc
       subst hc
       unfold obB at ht
       dsimp only at ht
       split at ht
       ·assumption
       ·cases ht
end
end Go.Sx
end

section
open Go.RowKit
namespace Go.Sx
section force
variable {α:Type}
def fN (n:Nat) (k:Nat→α):α :=
 match n with
 |0=>k 0
 |m+1=>k (m+1)
def fI (n:Int) (k:Int→α):α :=
 match n with
 | .ofNat m=>fN m fun m=>k (.ofNat m)
 | .negSucc m=>fN m fun m=>k (.negSucc m)
def fB (b:Bool) (k:Bool→α):α :=
 match b with
 |true=>k true
 |false=>k false
noncomputable def fL {β:Type} (f:β→(β→α)→α) (l:List β):(List β→α)→α :=
 List.rec (motive:=fun _=>(List β→α)→α) (fun k=>k []) (fun x _ ih k=>f x fun x=>ih fun r=>k (x::r)) l
def fD (x:D) (k:D→α):α :=
 match x with
 | .i q n=>fI n fun n=>k (.i q n)
 | .b b=>fB b fun b=>k (.b b)
 | .f q n=>fN n fun n=>k (.f q n)
 | .s x=>k (.s x)
 | .v x=>k (.v x)
 | .z q p=>k (.z q p)
noncomputable def fC (x:C) (k:C→α):α :=
 match x with
 | .d x=>fD x fun x=>k (.d x)
 | .p h i e j=>fN h fun h=>fN i fun i=>fN e fun e=>fN j fun j=>k (.p h i e j)
 | .o h=>fN h fun h=>k (.o h)
 | .fn f hs=>fL fN hs fun hs=>k (.fn f hs)
 | .g n i e j=>fN i fun i=>fN j fun j=>k (.g n i e j)
 | .fb f hs=>fL fN hs fun hs=>k (.fb f hs)
noncomputable def fW (x:W) (k:W→α):α :=
 match x with
 | .c x=>fC x fun x=>k (.c x)
 | .a l=>fL fC l fun l=>k (.a l)
 | .b q e r=>fL fN r fun r=>k (.b q e r)
noncomputable def fV (x:V) (k:V→α):α :=
 match x with
 | .w x=>fW x fun x=>k (.w x)
 | .t l=>fL fW l fun l=>k (.t l)
noncomputable def jeL (c:Cont) (k:Cont→α):α :=
 match c with
 | .ints q l=>fL fI l fun l=>k (.ints q l)
 | .recs e l=>fL (fL fI) l fun l=>k (.recs e l)
 | .floats q l=>fL fN l fun l=>k (.floats q l)
 | .strs l=>fL (fun x k=>k x) l fun l=>k (.strs l)
 | .bools l=>fL fB l fun l=>k (.bools l)
 | .lits e l=>fL (fL fD) l fun l=>k (.lits e l)
 | .frs q e l=>fL (fL fN) l fun l=>k (.frs q e l)
noncomputable def fNC (x:NC) (k:NC→α):α :=
 match x with
 | .d x=>fD x fun x=>k (.d x)
 | .r c=>jeL c fun c=>k (.r c)
noncomputable def fXC (x:XC) (k:XC→α):α :=
 match x with
 | .st sh l=>fL (fL fNC) l fun l=>k (.st sh l)
 | .ii q l=>fL (fL fI) l fun l=>k (.ii q l)
 | .ff q l=>fL (fL fN) l fun l=>k (.ff q l)
 | .bb q e l=>fL (fL (fL fN)) l fun l=>k (.bb q e l)
 | .rr e l=>fL (fL (fL fI)) l fun l=>k (.rr e l)
noncomputable def fO (o:O) (k:O→α):α :=
 match o with
 | .box ty cs=>fL fC cs fun cs=>k (.box ty cs)
 | .row ty c=>jeL c fun c=>k (.row ty c)
 | .ext c=>jeL c fun c=>k (.ext c)
 | .view r c f=>fN r fun r=>jeL c fun c=>fB f fun f=>k (.view r c f)
 | .dead=>k .dead
 | .nan q=>k (.nan q)
 | .ebox cs=>fL fC cs fun cs=>k (.ebox cs)
 | .arr ty q e r=>fL fN r fun r=>k (.arr ty q e r)
 | .xext x=>fXC x fun x=>k (.xext x)
 | .map es=>k (.map es)
 | .rrow c=>jeL c fun c=>k (.rrow c)
 | .fext c=>jeL c fun c=>k (.fext c)
 | .xrow ty x=>fXC x fun x=>k (.xrow ty x)
 | .mrow ty ts x ho=>fXC x fun x=>match ho with
  |none=>k (.mrow ty ts x none)
  |some p=>k (.mrow ty ts x (some p))
 | .sub r i e j ty c=>fN r fun r=>fN i fun i=>fN e fun e=>fN j fun j=>jeL c fun c=>k (.sub r i e j ty c)
 | .lbox ty e n cs=>fL fC cs fun cs=>k (.lbox ty e n cs)
 | .lview r e n cs=>fN r fun r=>fL fC cs fun cs=>k (.lview r e n cs)
 | .elist e n cs=>fL fC cs fun cs=>k (.elist e n cs)
 | .err=>k .err
 | .atom=>k .atom
def fS (o:O) (k:O→α):α :=
 match o with
 | .box ty cs=>k (.box ty cs)
 | .row ty c=>k (.row ty c)
 | .ext c=>k (.ext c)
 | .view r c f=>k (.view r c f)
 | .dead=>k .dead
 | .nan q=>k (.nan q)
 | .ebox cs=>k (.ebox cs)
 | .arr ty q e r=>k (.arr ty q e r)
 | .xext x=>k (.xext x)
 | .map es=>k (.map es)
 | .rrow c=>k (.rrow c)
 | .fext c=>k (.fext c)
 | .xrow ty x=>k (.xrow ty x)
 | .mrow ty ts x ho=>k (.mrow ty ts x ho)
 | .sub r i e j ty c=>k (.sub r i e j ty c)
 | .lbox ty e n cs=>k (.lbox ty e n cs)
 | .lview r e n cs=>k (.lview r e n cs)
 | .elist e n cs=>k (.elist e n cs)
 | .err=>k .err
 | .atom=>k .atom
theorem jbf (n:Nat) (k:Nat→α):fN n k=k n:=by cases n<;>rfl
theorem jkL (n:Int) (k:Int→α):fI n k=k n:=by cases n<;>simp only[fI,jbf]
theorem jpO (b:Bool) (k:Bool→α):fB b k=k b:=by cases b<;>rfl
theorem jaS {β:Type} {f:β→(β→α)→α} (hf:∀x k,f x k=k x):∀(l:List β) (k:List β→α),fL f l k=k l
 |[],_=>rfl
 |x::r,k=>by
  show f x (fun x=>fL f r fun r=>k (x::r))=_
  rw[hf,jaS hf r]
theorem jpP (x:D) (k:D→α):fD x k=k x:=by cases x<;>simp only[fD,jkL,jpO,jbf]
theorem jpQ (x:C) (k:C→α):fC x k=k x:=by cases x<;>simp only[fC,jpP,jbf,jaS jbf]
theorem jsI (x:W) (k:W→α):fW x k=k x:=by cases x<;>simp only[fW,jpQ,jaS jpQ,jaS jbf]
theorem jcB (x:V) (k:V→α):fV x k=k x:=by cases x<;>simp only[fV,jsI,jaS jsI]
theorem jnr (x:Cont) (k:Cont→α):jeL x k=k x:=by
 cases x<;>simp only[jeL,jaS jkL,jaS (jaS jkL),jaS jbf,jaS (fun(x:ByteArray) (k:ByteArray→α)=>rfl),jaS jpO,jaS (jaS jpP),jaS (jaS jbf)]
theorem jtC (x:NC) (k:NC→α):fNC x k=k x:=by cases x<;>simp only[fNC,jpP,jnr]
theorem jqX (x:XC) (k:XC→α):fXC x k=k x:=by
 cases x<;>simp only[fXC,jaS (jaS jtC),jaS (jaS jkL),jaS (jaS jbf),jaS (jaS (jaS jbf)),jaS (jaS (jaS jkL))]
theorem jpR (x:O) (k:O→α):fO x k=k x:=by
 cases x with
 |mrow ty ts x ho=>cases ho<;>simp only[fO,jqX]
 |_=>simp only[fO,jaS jpQ,jnr,jbf,jpO,jaS jbf,jqX]
theorem fS_eq (x:O) (k:O→α):fS x k=k x:=by cases x<;>rfl
def jgo:O→Bool
 | .dead=>true
 |_=>false
noncomputable def hpF (live:Nat→Bool) (j seen:Nat) (hp:Hp) (k:Hp→α):α :=
 List.rec (motive:=fun _=>Nat→Nat→(Hp→α)→α) (fun _ _ k=>k []) (fun x _ ih j seen k=>fN x.1 fun h=>match Nat.testBit seen h with
  |true=>ih j.pred seen k
  |false=>fN (seen ||| 1 <<< h) fun seen=>match live h with
   |false=>ih j.pred seen k
   |true=>match j with
    |0=>fS x.2 fun o=>match jgo o with
     |true=>ih 0 seen k
     |false=>ih 0 seen fun r=>k ((h,o)::r)
    |j+1=>fO x.2 fun o=>match jgo o with
     |true=>ih j seen k
     |false=>ih j seen fun r=>k ((h,o)::r)) hp j seen k
theorem js9 {live:Nat→Bool} {j seen:Nat} {k:Hp→α}:hpF live j seen [] k=k []:=rfl
theorem jr0 {live:Nat→Bool} {j seen h:Nat} {o:O} {r:Hp} {k:Hp→α}:hpF live j seen ((h,o)::r) k=fN h fun h=>match Nat.testBit seen h with
  |true=>hpF live j.pred seen r k
  |false=>fN (seen ||| 1 <<< h) fun seen=>match live h with
   |false=>hpF live j.pred seen r k
   |true=>match j with
    |0=>fS o fun o=>match jgo o with
     |true=>hpF live 0 seen r k
     |false=>hpF live 0 seen r fun r=>k ((h,o)::r)
    |j+1=>fO o fun o=>match jgo o with
     |true=>hpF live j seen r k
     |false=>hpF live j seen r fun r=>k ((h,o)::r):=rfl
theorem jo4 (seen h t:Nat):Nat.testBit (seen ||| 1 <<< h) t=false↔Nat.testBit seen t=false∧t≠h:=by
 rw[Nat.testBit_or,Nat.one_shiftLeft,Nat.testBit_two_pow]
 simp only[Bool.or_eq_false_iff,decide_eq_false_iff_not]
 exact⟨fun h=>⟨h.1,fun e=>h.2 e.symm⟩,fun h=>⟨h.1,fun e=>h.2 e.symm⟩⟩
theorem jfn {live:Nat→Bool}:∀(hp:Hp) (j seen:Nat) (k:Hp→α),∃hp',hpF live j seen hp k=k hp'∧∀h o,find hp' h=some o→find hp h=some o∧Nat.testBit seen h=false∧live h=true
 |[],j,seen,k=>⟨[],js9,fun h o hf=>by cases hf⟩
 |(h0,o0)::r,j,seen,k=>by
  rw[jr0,jbf]
  have skip:∀(j seen':Nat) (k:Hp→α),(∀t,Nat.testBit seen' t=false→Nat.testBit seen t=false∧t≠h0)→∃hp',hpF live j seen' r k=k hp'∧∀h o,find hp' h=some o→find ((h0,o0)::r) h=some o∧Nat.testBit seen h=false∧live h=true:=by
   intro j seen' k hs
   obtain⟨hp',h1,h2⟩:=jfn r j seen' k
   refine⟨hp',h1,fun h o hf=>?_⟩
   obtain⟨h3,h4,h9⟩:=h2 h o hf
   obtain⟨h5,h6⟩:=hs h h4
   exact⟨by rw[find,if_neg (fun e=>h6 e.symm)]; exact h3,h5,h9⟩
  have keep:∀(j seen':Nat),(∀t,Nat.testBit seen' t=false→Nat.testBit seen t=false∧t≠h0)→Nat.testBit seen h0=false→live h0=true→∃hp',hpF live j seen' r (fun r=>k ((h0,o0)::r))=k hp'∧∀h o,find hp' h=some o→find ((h0,o0)::r) h=some o∧Nat.testBit seen h=false∧live h=true:=by
   intro j seen' hs h0s hl0
   obtain⟨hp',h1,h2⟩:=jfn r j seen' (fun r=>k ((h0,o0)::r))
   refine⟨(h0,o0)::hp',h1,fun h o hf=>?_⟩
   rw[find]at hf
   split at hf
   ·rename_i e
    subst e
    cases hf
    exact⟨by rw[find,if_pos rfl],h0s,hl0⟩
   ·rename_i e
    obtain⟨h3,h4,h9⟩:=h2 h o hf
    exact⟨by rw[find,if_neg e]; exact h3,(hs h h4).1,h9⟩
  cases hs:Nat.testBit seen h0 with
  |true =>
   refine skip _ _ _ fun t ht=>⟨ht,fun e=>?_⟩
   subst e
   rw[ht]at hs
   cases hs
  |false =>
   dsimp only
   rw[jbf]
   have hn:=fun t=>(jo4 seen h0 t).1
   cases hl0:live h0 with
   |false=>exact skip _ _ _ hn
   |true =>
    cases j with
    |zero =>
     dsimp only
     rw[fS_eq]
     cases jgo o0 with
     |true=>exact skip _ _ _ hn
     |false=>exact keep _ _ hn hs hl0
    |succ j =>
     dsimp only
     rw[jpR]
     cases jgo o0 with
     |true=>exact skip _ _ _ hn
     |false=>exact keep _ _ hn hs hl0
noncomputable def tmF (seen:Nat) (tm:List (Nat × V)) (k:List (Nat × V)→α):α :=
 List.rec (motive:=fun _=>Nat→(List (Nat × V)→α)→α) (fun _ k=>k []) (fun x _ ih seen k=>match Nat.testBit seen x.1 with
  |true=>ih seen k
  |false=>fV x.2 fun v=>fN (seen ||| 1 <<< x.1) fun seen=>ih seen fun r=>k ((x.1,v)::r)) tm seen k
theorem jta {seen:Nat} {k:List (Nat × V)→α}:tmF seen [] k=k []:=rfl
theorem jr1 {seen t:Nat} {v:V} {r:List (Nat × V)} {k:List (Nat × V)→α}:tmF seen ((t,v)::r) k=match Nat.testBit seen t with
  |true=>tmF seen r k
  |false=>fV v fun v=>fN (seen ||| 1 <<< t) fun seen=>tmF seen r fun r=>k ((t,v)::r):=rfl
theorem jjQ:∀(tm:List (Nat × V)) (seen:Nat) (k:List (Nat × V)→α),∃tm',tmF seen tm k=k tm'∧∀t v,jay tm' t=some v→jay tm t=some v∧Nat.testBit seen t=false
 |[],seen,k=>⟨[],jta,fun h o hf=>by cases hf⟩
 |(t0,v0)::r,seen,k=>by
  rw[jr1]
  cases hs:Nat.testBit seen t0 with
  |true =>
   obtain⟨tm',h1,h2⟩:=jjQ r seen k
   refine⟨tm',h1,fun t v hf=>?_⟩
   obtain⟨h3,h4⟩:=h2 t v hf
   refine⟨?_,h4⟩
   rw[jay,if_neg (fun e=>by subst e; rw[h4]at hs; cases hs)]
   exact h3
  |false =>
   dsimp only
   rw[jcB,jbf]
   obtain⟨tm',h1,h2⟩:=jjQ r (seen ||| 1 <<< t0) (fun r=>k ((t0,v0)::r))
   refine⟨(t0,v0)::tm',h1,fun t v hf=>?_⟩
   rw[jay]at hf
   split at hf
   ·rename_i e
    subst e
    cases hf
    exact⟨by rw[jay,if_pos rfl],hs⟩
   ·rename_i e
    obtain⟨h3,h4⟩:=h2 t v hf
    exact⟨by rw[jay,if_neg e]; exact h3,((jo4 seen t0 t).1 h4).1⟩
end force
noncomputable def jlw (l:List (Nat × V)) (t:Nat):Option V :=
 List.rec (motive:=fun _=>Option V) none (fun x _ ih=>Bool.rec (motive:=fun _=>Option V) ih (some x.2) (Nat.beq x.1 t)) l
theorem jgp:∀(l:List (Nat × V)) (t:Nat),jlw l t=jay l t
 |[],_=>rfl
 |(k,v)::r,t=>by
  have ih:=jgp r t
  rw[jay,←ih]
  show Bool.rec (motive:=fun _=>Option V) (jlw r t) (some v) (Nat.beq k t)=_
  cases h:Nat.beq k t with
  |true=>rw[if_pos (Nat.eq_of_beq_eq_true h)]
  |false=>rw[if_neg (fun e=>by subst e; rw[Nat.beq_refl]at h; cases h)]
noncomputable def jiO (l:Hp) (t:Nat):Option O :=
 List.rec (motive:=fun _=>Option O) none (fun x _ ih=>Bool.rec (motive:=fun _=>Option O) ih (some x.2) (Nat.beq x.1 t)) l
theorem jcP:∀(l:Hp) (t:Nat),jiO l t=find l t
 |[],_=>rfl
 |(k,v)::r,t=>by
  have ih:=jcP r t
  rw[find,←ih]
  show Bool.rec (motive:=fun _=>Option O) (jiO r t) (some v) (Nat.beq k t)=_
  cases h:Nat.beq k t with
  |true=>rw[if_pos (Nat.eq_of_beq_eq_true h)]
  |false=>rw[if_neg (fun e=>by subst e; rw[Nat.beq_refl]at h; cases h)]
noncomputable def jie {α:Type} (l:List α) (n:Nat):Option α :=
 List.rec (motive:=fun _=>Nat→Option α) (fun _=>none) (fun x _ ih n=>match n with|0=>some x|n+1=>ih n) l n
theorem jdo {α:Type}:∀(l:List α) (n:Nat),jie l n=l[n]?
 |[],_=>rfl
 |x::r,0=>rfl
 |x::r,n+1=>by
  have:=jdo r n
  show jie r n=_
  rw[this]
  simp
noncomputable def rdQ [Globs] (st:St):Operand→Option V
 | .tmp t=>jlw st.tm t
 | .const v=>some (.w (ofValue v))
 | .global g=>jbL st (.global g)
 | .func f=>some (.w (.c (.fn f [])))
theorem jqY [Globs] (st:St):rdQ st=jbL st:=by
 funext x
 cases x<;>first|exact jgp _ _|rfl
def jns:List Nat→Nat
 |[]=>0
 |h::r=>1 <<< h ||| jns r
def jsJ:C→Nat
 | .p h _ _ _=>1 <<< h
 | .o h=>1 <<< h
 | .fn _ hs=>jns hs
 | .fb _ hs=>jns hs
 |_=>0
def jes:List C→Nat→Nat
 |[],m=>m
 | .d _::r,m=>jes r m
 |c::r,m=>jes r (jsJ c ||| m)
def jsK:W→Nat→Nat
 | .c c,m=>jsJ c ||| m
 | .a l,m=>jes l m
 | .b _ _ _,m=>m
def jmt:V→Nat→Nat
 | .w u,m=>jsK u m
 | .t l,m=>l.foldl (fun m u=>jsK u m) m
def jsL:O→Nat→Nat
 | .box _ cs,m=>jes cs m
 | .ebox cs,m=>jes cs m
 | .lbox _ _ _ cs,m=>jes cs m
 | .lview r _ _ cs,m=>jes cs (1 <<< r ||| m)
 | .elist _ _ cs,m=>jes cs m
 | .view r _ _,m=>1 <<< r ||| m
 | .sub r _ _ _ _ _,m=>1 <<< r ||| m
 |_,m=>m
noncomputable def jkM {α:Type} (n0:Nat) (hp:Hp) (m:Nat) (k:Nat→α):α :=
 List.rec (motive:=fun _=>Nat→(Nat→α)→α) (fun m k=>k m) (fun x _ ih m k=>match Nat.blt x.1 n0||Nat.testBit m x.1 with
  |true=>fN (jsL x.2 m) fun m=>ih m k
  |false=>ih m k) hp m k
theorem jpS {α:Type} {n0 h:Nat} {o:O} {r:Hp} {m:Nat} {k:Nat→α}:jkM n0 ((h,o)::r) m k=match Nat.blt h n0||Nat.testBit m h with
  |true=>fN (jsL o m) fun m=>jkM n0 r m k
  |false=>jkM n0 r m k:=rfl
noncomputable def jgq {α:Type} (n0:Nat) (hp:Hp):Nat→Nat→(Nat→α)→α
 |0,m,k=>k m
 |n+1,m,k=>jkM n0 hp m fun m'=>match Nat.beq m m' with
  |true=>k m'
  |false=>jgq n0 hp n m' k
theorem jha {α:Type} {n0:Nat}:∀(hp:Hp) (m:Nat) (k:Nat→α),∃m',jkM n0 hp m k=k m'
 |[],m,k=>⟨m,rfl⟩
 |(h,o)::r,m,k=>by
  rw[jpS]
  split
  ·rw[jbf]; exact jha r _ k
  ·exact jha r _ k
theorem jf0 {α:Type} {n0:Nat} {hp:Hp}:∀(n m:Nat) (k:Nat→α),∃m',jgq n0 hp n m k=k m'
 |0,m,k=>⟨m,rfl⟩
 |n+1,m,k=>by
  unfold jgq
  obtain⟨m',h⟩:=jha (n0:=n0) hp m (fun m'=>match Nat.beq m m' with|true=>k m' | false=>jgq n0 hp n m' k)
  rw[h]
  split
  ·exact⟨_,rfl⟩
  ·exact jf0 n m' k
end Go.Sx
end

section
open Go.RowKit
namespace Go.Sx
section
variable [Globs]
def qInt (op:BinOp) (k:IntKind) (a b:Int):Option V :=
 match op with
 | .add=>some (vi k (k.wrap (a+b)))
 | .sub=>some (vi k (k.wrap (a-b)))
 | .mul=>some (vi k (k.wrap (a*b)))
 | .eql=>some (vb (a==b))
 | .neq=>some (vb (a != b))
 | .lss=>some (vb (a<b))
 | .leq=>some (vb (a≤b))
 | .gtr=>some (vb (a>b))
 | .geq=>some (vb (a≥b))
 |_=>none
noncomputable def qBin (op:BinOp) (u v:Option V):Option V :=
 match u,v with
 |some (.w (.c (.d (.i k a)))),some (.w (.c (.d (.i k' b))))=>match decide (k=k')with
  |true=>qInt op k a b
  |false=>none
 |_,_=>none
noncomputable def jqZ (P:Program) (s:TypeId) (f:Nat) (u:Option V):Option V :=
 match u with
 |some (.w (.c (.p h i e j)))=>match P.underlying s with
  |some (.struct fs)=>match jie fs.toList f with
   |some g=>match szT P g.type with
    |some (_+1)=>some (.w (.c (.p h i e (j+g.offset))))
    |_=>none
   |none=>none
  |_=>none
 |_=>none
noncomputable def qNil (u:Option V):Option V :=
 match u with
 |some (.w (.c (.p h i e j)))=>some (.w (.c (.p h i e j)))
 |_=>none
noncomputable def qNot (u:Option V):Option V :=
 match u with
 |some (.w (.c (.d (.b b))))=>some (vb (!b))
 |_=>none
noncomputable def jsM (P:Program) (t:TypeId) (hp:Hp) (u:Option V):Option V :=
 match u with
 |some (.w (.c (.p h i e j)))=>match e with
  |0=>none
  |e' + 1=>match jba P t with
   |some false=>match szT P t with
    |some _=>match jiO hp h with
     |some (.box _ cs)=>match jie cs (i*(e' + 1)+j)with
      |some c=>some (.w (.c c))
      |none=>none
     |some (.ebox cs)=>match jie cs (i*(e' + 1)+j)with
      |some c=>some (.w (.c c))
      |none=>none
     |some (.row _ (.ints k l))=>match Nat.beq (e' + 1) 1,Nat.beq j 0,Nat.blt i l.length with
      |true,true,true=>some (vi k (l.getD i 0))
      |_,_,_=>none
     |some (.ext (.ints k l))=>match Nat.beq (e' + 1) 1,Nat.beq j 0,Nat.blt i l.length with
      |true,true,true=>some (vi k (l.getD i 0))
      |_,_,_=>none
     |some (.row _ (.bools l))=>match Nat.beq (e' + 1) 1,Nat.beq j 0,Nat.blt i l.length with
      |true,true,true=>some (vb (l.getD i false))
      |_,_,_=>none
     |some (.ext (.bools l))=>match Nat.beq (e' + 1) 1,Nat.beq j 0,Nat.blt i l.length with
      |true,true,true=>some (vb (l.getD i false))
      |_,_,_=>none
     |_=>none
    |none=>none
   |_=>none
 |_=>none
noncomputable def jsN (c a b:Option V):Option V :=
 match c with
 |some (.w (.c (.d (.b true))))=>a
 |some (.w (.c (.d (.b false))))=>b
 |_=>none
noncomputable def qExt (u:Option V) (i:Nat):Option V :=
 match u with
 |some (.t l)=>match jie l i with
  |some x=>some (.w x)
  |none=>none
 |_=>none
noncomputable def qFld (P:Program) (t:TypeId) (f:Nat) (u:Option V):Option V :=
 match u with
 |some (.w (.a cs))=>match P.underlying t with
  |some (.struct fs)=>match jie fs.toList f with
   |some g=>jbt P g.type cs g.offset
   |none=>none
  |_=>none
 |_=>none
noncomputable def qIdx (P:Program) (t:TypeId) (hp:Hp) (u i:Option V):Option V :=
 match i with
 |some (.w (.c (.d (.i _ n))))=>match u with
  |some (.w (.c (.o h)))=>match P.underlying t with
   |some (.slice elem)=>match(jiO hp h).bind O.cont with
    |some c=>match szT P elem with
     |some size=>match decide (size=c.e),decide (0≤n∧n<(c.n:Int))with
      |true,true=>some (.w (.c (.p h n.toNat c.e 0)))
      |_,_=>none
     |none=>none
    |none=>none
   |_=>none
  |_=>none
 |_=>none
noncomputable def qStr (P:Program) (t:TypeId) (u i:Option V):Option V :=
 match u with
 |some (.w (.c (.d (.s s))))=>match i with
  |some (.w (.c (.d (.i _ n))))=>match P.underlying t with
   |some .string=>match decide (0≤n∧n<(s.size:Int))with
    |true=>some (vi .u8 ((s.data.getD n.toNat 0).toNat:Int))
    |false=>none
   |_=>none
  |_=>none
 |_=>none
noncomputable def qLen (P:Program) (t:TypeId) (hp:Hp) (u:Option V):Option V :=
 match P.underlying t with
 |some (.slice _)=>match u with
  |some (.w (.c (.o h)))=>match(jiO hp h).bind O.cont with
   |some c=>some (vi .i64 (c.n:Int))
   |none=>none
  |some (.w (.c (.d (.v (.slice none 0 0)))))=>some (vi .i64 0)
  |_=>none
 |some .string=>match u with
  |some (.w (.c (.d (.s s))))=>some (vi .i64 (s.size:Int))
  |_=>none
 |_=>none
noncomputable def jsO (P:Program) (c:Call) (rd:Operand→Option V) (hp:Hp):Option V :=
 match c.callee with
 | .builtin .len=>match c.args.toList with
  |[x]=>match c.argTypes.toList with
   |[t]=>qLen P t hp (rd x)
   |_=>none
  |_=>none
 |_=>none
noncomputable def qV (P:Program) (op:Op) (rd:Operand→Option V) (hp:Hp):Option V :=
 match op with
 | .move x=>rd x
 | .assign x=>rd x
 | .binOp o _ x y _=>qBin o (rd x) (rd y)
 | .fieldAddr s x f=>jqZ P s f (rd x)
 | .nilCheck x=>qNil (rd x)
 | .unOp .not _ x=>qNot (rd x)
 | .load t x=>jsM P t hp (rd x)
 | .pick c a b=>jsN (rd c) (rd a) (rd b)
 | .extract t i=>qExt (rd t) i
 | .field t x f=>qFld P t f (rd x)
 | .indexAddr t x ix=>qIdx P t hp (rd x) (rd ix)
 | .index t x i=>qStr P t (rd x) (rd i)
 | .call c=>jsO P c rd hp
 |_=>none
theorem jlx {P:Program} {sp:jab} {op:Op} {rd:Operand→Option V} {hp:Hp} {nx:Nat} {v:V} (h:qV P op rd hp=some v) :
  jeF P sp op rd hp nx=none∧∃ob,jaR P op rd hp=some (ob,v)∧ob:=by
 have lift:(∃ob,jaL P op rd hp=some (ob,v)∧ob)→∃ob,jaR P op rd hp=some (ob,v)∧ob:=by
  rintro ⟨ob,h1,h2⟩
  exact⟨ob,by unfold jaR; rw[h1],h2⟩
 unfold qV at h
 split at h
 ·rename_i x
  exact⟨rfl,lift ⟨True,by simp[jaL,h],trivial⟩⟩
 ·rename_i x
  exact⟨rfl,lift ⟨True,by simp[jaL,h],trivial⟩⟩
 ·rename_i o t x y yt
  unfold qBin at h
  split at h
  ·rename_i k a k' b hx hy
   split at h
   ·rename_i hk
    have hk:=of_decide_eq_true hk
    subst hk
    refine⟨by simp[jeF,hx,hy],lift ?_⟩
    unfold qInt at h
    simp only[jaL,hx,hy,V.int?,jee]
    split at h<;>cases h<;>exact⟨_,rfl,trivial⟩
   ·cases h
  ·cases h
 ·rename_i s x f
  unfold jqZ at h
  try simp only[jcP,jdo]at h
  split at h
  ·rename_i k i e j hx
   split at h
   ·rename_i fs hu
    split at h
    ·rename_i g hg
     split at h
     ·rename_i sz hs
      cases h
      exact⟨rfl,lift ⟨True,by simp only[jaL,hu,hx,hg,hs],trivial⟩⟩
     ·cases h
    ·cases h
   ·cases h
  ·cases h
 ·rename_i x
  unfold qNil at h
  split at h
  ·rename_i hx
   cases h
   exact⟨rfl,lift ⟨True,by simp only[jaL,hx],trivial⟩⟩
  ·cases h
 ·rename_i t x
  unfold qNot at h
  split at h
  ·rename_i b hx
   cases h
   exact⟨rfl,lift ⟨True,by simp[jaL,hx,V.bool?],trivial⟩⟩
  ·cases h
 ·rename_i t x
  unfold jsM at h
  try simp only[jcP,jdo]at h
  split at h
  ·rename_i k i e j hx
   split at h
   ·cases h
   ·rename_i e'
    split at h
    ·rename_i hag
     split at h
     ·rename_i sz hs
      split at h
      ·rename_i ty cs hf
       split at h
       ·rename_i c hc
        cases h
        exact⟨rfl,lift ⟨True,by simp[jaL,hx,hf,jct,hag,hs,jdp,hc],trivial⟩⟩
       ·cases h
      ·rename_i cs hf
       split at h
       ·rename_i c hc
        cases h
        exact⟨rfl,lift ⟨True,by simp[jaL,hx,hf,jct,hag,hs,jdp,hc],trivial⟩⟩
       ·cases h
      all_goals first
       |(cases h; done)
       |(
         rename_i hf
         split at h
         ·rename_i e1 e2 e3
          have e1:=Nat.eq_of_beq_eq_true e1
          have e2:=Nat.eq_of_beq_eq_true e2
          have e3:=of_decide_eq_true (show decide _=true from by simpa using e3)
          cases h
          obtain rfl:e'=0:=by omega
          subst e2
          exact⟨rfl,lift ⟨_,by simp[jaL,hx,hf,jct,hag,hs,O.cont,Cont.e,Cont.n,Cont.cell,vi,vb],e3⟩⟩
         ·cases h)
     ·cases h
    ·cases h
  ·cases h
 ·rename_i c x y
  unfold jsN at h
  split at h
  ·rename_i hc
   exact⟨rfl,lift ⟨True,by simp[jaL,hc,V.bool?,h],trivial⟩⟩
  ·rename_i hc
   exact⟨rfl,lift ⟨True,by simp[jaL,hc,V.bool?,h],trivial⟩⟩
  ·cases h
 ·rename_i t i
  unfold qExt at h
  try simp only[jcP,jdo]at h
  split at h
  ·rename_i l ht
   split at h
   ·rename_i x hx
    cases h
    exact⟨rfl,lift ⟨True,by simp[jaL,ht,hx],trivial⟩⟩
   ·cases h
  ·cases h
 ·rename_i t x f
  unfold qFld at h
  try simp only[jcP,jdo]at h
  split at h
  ·rename_i cs hx
   split at h
   ·rename_i fs hu
    split at h
    ·rename_i g hg
     exact⟨rfl,lift ⟨True,by simp[jaL,hx,hu,hg,V.agg?,h],trivial⟩⟩
    ·cases h
   ·cases h
  ·cases h
 ·rename_i t x ix
  unfold qIdx at h
  try simp only[jcP,jdo]at h
  split at h
  ·rename_i k n hi
   split at h
   ·rename_i h' hx
    split at h
    ·rename_i elem hu
     split at h
     ·rename_i c hc
      split at h
      ·rename_i size hs
       split at h
       ·rename_i e1 e2
        have e1:=of_decide_eq_true e1
        have e2:=of_decide_eq_true e2
        cases h
        exact⟨rfl,lift ⟨_,by simp[jaL,hx,hi,hu,hc,hs,V.int?,e1],e2⟩⟩
       ·cases h
      ·cases h
     ·cases h
    ·cases h
   ·cases h
  ·cases h
 ·rename_i t x i
  unfold qStr at h
  split at h
  ·rename_i s hx
   split at h
   ·rename_i k n hi
    split at h
    ·rename_i hu
     split at h
     ·rename_i e2
      have e2:=of_decide_eq_true e2
      cases h
      exact⟨rfl,lift ⟨_,by simp[jaL,hx,hi,hu,V.int?,V.str?],e2⟩⟩
     ·cases h
    ·cases h
   ·cases h
  ·cases h
 ·rename_i c
  unfold jsO at h
  split at h
  ·rename_i hc
   split at h
   ·rename_i x ha
    split at h
    ·rename_i t hat
     refine⟨by simp[jeF,hc],lift ?_⟩
     unfold qLen at h
     try simp only[jcP,jdo]at h
     simp only[jaL,hc,ha,hat]
     split at h
     ·rename_i el hu
      split at h
      ·rename_i h' hx
       split at h
       ·rename_i c' hcc
        cases h
        exact⟨True,by simp[hu,hx,hcc],trivial⟩
       ·cases h
      ·rename_i hx
       cases h
       exact⟨True,by simp[hu,hx,V.nils?],trivial⟩
      ·cases h
     ·rename_i hu
      split at h
      ·rename_i s hx
       cases h
       exact⟨True,by simp[hu,hx,V.str?],trivial⟩
      ·cases h
     ·cases h
    ·cases h
   ·cases h
  ·cases h
 ·cases h
end
end Go.Sx
end

section
open Go.RowKit
namespace Go.Sx
noncomputable def stF {α:Type} (j:Nat) (st:St) (k:St→α):α :=
 hpF (fun _=>true) j 0 st.hp fun hp=>fN st.nx fun nx=>k ⟨st.tm,hp,nx⟩
noncomputable def stG {α:Type} (st:St) (k:St→α):α :=
 tmF 0 st.tm fun tm=>fN st.nx fun nx=>k ⟨tm,st.hp,nx⟩
noncomputable def jjR {α:Type} (tm:List (Nat × V)) (hp:Hp) (nx:Nat) (k:St→α):α :=
 match hp with
 |(h,o)::r=>fO o fun o=>fN nx fun nx=>k ⟨tm,(h,o)::r,nx⟩
 |[]=>fN nx fun nx=>k ⟨tm,[],nx⟩
noncomputable def jly {α:Type} (o:Oper) (r:Res) (st:St) (k:St→α):α :=
 fV r.v fun v=>putG o.op (st.put o.dst ⟨True,v,r.hp,r.nx⟩) k
where
 putG (op:Op) (st:St) (k:St→α):α :=
  match op with
  | .store _ _ _=>stF 1 st k
  | .call c=>match c.callee with
   | .value _=>fN st.nx fun nx=>k ⟨st.tm,st.hp,nx⟩
   | .builtin .append=>stF 2 st k
   |_=>k st
  | .box _ _=>jjR st.tm st.hp st.nx k
  | .alloc _=>jjR st.tm st.hp st.nx k
  | .makeSlice _ _ _=>jjR st.tm st.hp st.nx k
  | .buildSlice _ _ _=>jjR st.tm st.hp st.nx k
  | .slice _ _ _ _ _=>jjR st.tm st.hp st.nx k
  |_=>k st
noncomputable def cOp [Globs] (P:Program) (sp:jab) (N:Nat) (o:Oper) (st:St):Option St :=
 match jbK N o.dst with
 |false=>none
 |true =>
  match qV P o.op (rdQ st) st.hp with
  |some v=>fV v fun v=>some (st.put o.dst ⟨True,v,st.hp,st.nx⟩)
  |none=>match jeF P sp o.op (rdQ st) st.hp st.nx with
   |some t=>jly o t.sel st some
   |none=>match ja5 P sp o.op (rdQ st) st.hp st.nx with
    |some r=>match jaV o.op (rdQ st) st.hp,obB P o.op (rdQ st) st.hp with
     |true,_=>jly o r st some
     |false,true=>jly o r st some
     |false,false=>none
    |none=>none
noncomputable def jkN (N:Nat) (o:Oper) (st:St):Option St :=
 match jbK N o.dst with
 |true=>some (st.put o.dst ⟨True,vu,st.hp,st.nx⟩)
 |false=>none
noncomputable def cOne [Globs] (P:Program) (sp:jab) (N:Nat) (all:List Oper) (o:Oper) (st:St):Option St :=
 match o.guard with
 |none=>cOp P sp N o st
 |some (j,want) =>
  match(jie all j).bind (·.dst)with
  |none=>none
  |some t=>match jlw st.tm t with
   |some (.w (.c (.d (.b b))))=>match b,want with
    |true,true=>cOp P sp N o st
    |false,false=>cOp P sp N o st
    |true,false=>jkN N o st
    |false,true=>jkN N o st
   |some (.w (.c (.d (.v (.tuple _)))))=>jkN N o st
   |_=>none
noncomputable def cOps [Globs] (P:Program) (sp:jab) (N:Nat) (all:List Oper) (l:List Oper) (st:St):Option St :=
 List.rec (motive:=fun _=>St→Option St) (fun st=>some st) (fun o _ ih st=>Option.rec (motive:=fun _=>Option St) none (fun st'=>ih st') (cOne P sp N all o st)) l st
noncomputable def obC [Globs] (P:Program) (op:Op) (rd:Operand→Option V) (hp:Hp) (r:Rec):Option Rec :=
 match jaV op rd hp,obB P op rd hp with
 |true,_=>fV r.v fun v=>some { r with v:=v }
 |false,true=>fV r.v fun v=>some { r with v:=v }
 |false,false=>none
noncomputable def jd9 (q:Nat→Bool) (st0:St) (tr:List Rec) (h:Nat):Bool :=
 List.rec (motive:=fun _=>Bool) true (fun _ tr ih=>Bool.rec (motive:=fun _=>Bool) ih (q tr.length) (Nat.ble (jaa st0 tr) h)) tr
theorem jfo (q:Nat→Bool) (st0:St):∀(tr:List Rec) (h:Nat),jd9 q st0 tr h=jal q st0 tr h
 |[],_=>rfl
 |_::tr,h=>by
  have ih:=jfo q st0 tr h
  simp only[jal,←ih]
  show Bool.rec (motive:=fun _=>Bool) (jd9 q st0 tr h) (q tr.length) (Nat.ble (jaa st0 tr) h)=_
  cases Nat.ble (jaa st0 tr) h<;>rfl
noncomputable def jc2 (bef:List Nat) (st0:St) (tr:List Rec) (v:V) (hp:Hp) (nx:Nat):Bool :=
 Nat.ble (jaa st0 tr) nx&&v.allB (fun h=>Nat.blt h nx&&(Nat.ble (jaa st0 tr) h||jd9 (fun j=>bef.contains j) st0 tr h)) &&
  hp.all (fun x=>Nat.blt x.1 nx&&x.2.allB fun h=>Nat.blt h nx&&(Nat.ble (jaa st0 tr) h||jd9 (fun j=>bef.contains j) st0 tr h))
theorem jif (bef:List Nat) (st0:St) (tr:List Rec) (v:V) (hp:Hp) (nx:Nat):jc2 bef st0 tr v hp nx=jaN bef st0 tr v hp nx:=by
 unfold jc2 jaN
 rw[show jd9 (fun j=>bef.contains j) st0 tr=jal (fun j=>bef.contains j) st0 tr from funext (jfo _ _ tr)]
noncomputable def jiP (bef:List Nat) (st0:St) (tr:List Rec):Hp :=
 match jcx bef tr with
 |true=>(jah st0 tr).filter fun x=>jd9 (fun j=>bef.contains j) st0 tr x.1
 |false=>(jah st0 tr).filter fun x=>jd9 (fun j=>bef.contains j) st0 tr x.1&&jbd st0 bef x.1 tr
theorem jr2 (bef:List Nat) (st0:St) (tr:List Rec):jiP bef st0 tr=jcL bef st0 tr:=by
 unfold jiP jcL
 rw[show jd9 (fun j=>bef.contains j) st0 tr=jal (fun j=>bef.contains j) st0 tr from funext (jfo _ _ tr)]
 cases jcx bef tr<;>rfl
def jmu (L:List Oper) (t:Nat):Nat→Option Nat
 |0=>none
 |i+1=>match jbr L i with
  |some d=>if d=t then some i else jmu L t i
  |none=>jmu L t i
def jdF (L:List Oper) (bef:List Nat) (i t:Nat):Bool :=
 match jmu L t i with
 |some j=>bef.contains j
 |none=>true
def jgr (L:List Oper) (tab:List (List Nat)):Nat→List Oper→Bool
 |_,[]=>true
 |i,o::r=>(jak L o).all (fun t=>jdF L (tab.getD i []) i t)&&jgr L tab (i+1) r
noncomputable def rdF [Globs] (st0:St) (nm:List Nat) (tm:List (Nat × V)):Operand→Option V
 | .tmp t=>match nm.contains t with
  |true=>jlw tm t
  |false=>none
 |x=>jbL st0 x
def mkF [Globs] (L:List Oper) (tab:List (List Nat)) (st0:St) (o:Oper) (n:Nat) (tr:List Rec):Option Bool :=
 match jaT tab n false false 0 L with
 |true=>some false
 |false=>jlr L tab st0 o tr
noncomputable def jpV (P:Program) (op:Op) (rd:Operand→Option V) (bef:List Nat) (st0:St) (tr:List Rec):Option Rec :=
 match qLoadOp op with
 |true=>match loadAt op rd with
  |none=>none
  |some h=>match jiO (jah st0 tr) h with
   |none=>none
   |some x=>match jd9 (fun j=>bef.contains j) st0 tr h&&jbd st0 bef h tr with
    |false=>none
    |true=>match qV P op rd [(h,x)]with
     |some v=>fV v fun v=>match jc2 bef st0 tr v [] (jaa st0 tr)with
      |true=>some ⟨v,jah st0 tr,jaa st0 tr,0,[],none⟩
      |false=>none
     |none=>none
 |false=>none
where
 qLoadOp:Op→Bool
  | .load _ _=>true
  | .indexAddr _ _ _=>true
  | .call c=>match c.callee with
   | .builtin .len=>true
   |_=>false
  |_=>false
noncomputable def qdop (P:Program) (op:Op) (rd:Operand→Option V) (hp:Hp) (bef:List Nat) (st0:St) (tr:List Rec):Option Rec :=
 match qV P op rd hp with
 |some v=>fV v fun v=>match jc2 bef st0 tr v [] (jaa st0 tr)with
  |true=>some ⟨v,jah st0 tr,jaa st0 tr,0,[],none⟩
  |false=>none
 |none=>none
noncomputable def jjS [Globs] (P:Program) (sp:jab) (N:Nat) (L:List Oper) (tab:List (List Nat)) (st0:St) (o:Oper) (n:Nat) (bef:List Nat) (rd:Operand→Option V) (tr:List Rec):Option Rec :=
 match jbK N o.dst with
 |false=>none
 |true =>
  match qdop P o.op rd [] bef st0 tr with
  |some r=>some r
  |none =>
  match jaR P o.op rd []with
  |some (_,v)=>match jc2 bef st0 tr v [] (jaa st0 tr)with
   |true=>obC P o.op rd [] ⟨v,jah st0 tr,jaa st0 tr,0,[],none⟩
   |false=>none
  |none =>
   match jap o.op with
   |true=>match jhW o.op with
    |true=>match jaR P o.op rd (jem bef st0 tr)with
     |some (_,v)=>match jc2 bef st0 tr v [] (jaa st0 tr)with
      |true=>obC P o.op rd (jem bef st0 tr) ⟨v,jah st0 tr,jaa st0 tr,0,[],none⟩
      |false=>none
     |none=>none
    |false=>none
   |false =>
    match jav o.op with
    |true=>match jpV P o.op rd bef st0 tr with
     |some r=>some r
     |none=>match loadAt o.op rd with
     |none=>none
     |some h=>match find (jah st0 tr) h with
      |none=>none
      |some x=>match jd9 (fun j=>bef.contains j) st0 tr h&&jbd st0 bef h tr with
       |false=>none
       |true=>match jaR P o.op rd [(h,x)]with
        |none=>match jd6 tab n 0 L&&jcx bef tr&&jaj sp o.op rd with
         |false=>none
         |true=>match ja5 P sp o.op rd (jiP bef st0 tr) (jaa st0 tr)with
          |some res=>match jc2 bef st0 tr res.v (jaH (jaa st0 tr) res.hp) res.nx with
           |true=>obCall P sp o.op rd (jiP bef st0 tr) ⟨res.v,jaH (jaa st0 tr) res.hp++jah st0 tr,res.nx,1,jaH (jaa st0 tr) res.hp,none⟩
           |false=>none
          |none=>none
        |some (_,v)=>match jc2 bef st0 tr v [] (jaa st0 tr)with
         |true=>obC P o.op rd [(h,x)] ⟨v,jah st0 tr,jaa st0 tr,0,[],none⟩
         |false=>none
    |false =>
    match jaj sp o.op rd with
    |true=>match ja5 P sp o.op rd (jiP bef st0 tr) (jaa st0 tr)with
     |some res=>match jc2 bef st0 tr res.v (jaH (jaa st0 tr) res.hp) res.nx&&jkz bef tr (jaH (jaa st0 tr) res.hp)with
      |true=>obCall P sp o.op rd (jiP bef st0 tr) ⟨res.v,jaH (jaa st0 tr) res.hp++jah st0 tr,res.nx,1,jaH (jaa st0 tr) res.hp,none⟩
      |false=>none
     |none=>none
    |false=>match mkF L tab st0 o n tr with
     |none=>none
     |some mk=>match ja5 P sp o.op rd (jah st0 tr) (jaa st0 tr)with
      |some res=>match jc2 bef st0 tr res.v res.hp res.nx&&jls L tab st0 o tr mk res.hp with
       |true=>obCall P sp o.op rd (jah st0 tr) ⟨res.v,res.hp,res.nx,2,[],jbi L tab st0 o tr⟩
       |false=>none
      |none=>none
where
 obCall [Globs] (P:Program) (sp:jab) (op:Op) (rd:Operand→Option V) (hp:Hp) (r:Rec):Option Rec :=
  match op with
  | .call c=>match c.callee with
   | .value _=>fV r.v fun v=>some { r with v:=v }
   |_=>obC P op rd hp r
  |op=>obC P op rd hp r
noncomputable def jig (N:Nat) (st0:St) (o:Oper) (tr:List Rec):Option Rec :=
 match jbK N o.dst with
 |false=>none
 |true=>some ⟨vu,jah st0 tr,jaa st0 tr,0,[],none⟩
def jhb (o:Oper) (r:Rec) (tm:List (Nat × V)):List (Nat × V) :=
 match o.dst with
 |some d=>(d,r.v)::tm
 |none=>tm
noncomputable def jdG [Globs] (P:Program) (sp:jab) (N:Nat) (L:List Oper) (tab:List (List Nat)) (st0:St):List Oper→Nat→List (Nat × V)→List Rec→Option (List (Nat × V) × List Rec)
 |[],_,tm,tr=>some (tm,tr)
 |o::rest,n,tm,tr =>
  match o.guard with
  |none=>match jjS P sp N L tab st0 o n (tab.getD n []) (rdF st0 (jak L o) tm) tr with
   |some r=>jdG P sp N L tab st0 rest (n+1) (jhb o r tm) (r::tr)
   |none=>none
  |some (g,want) =>
   match jbr L g with
   |none=>none
   |some t =>
    match jlw tm t with
    |some (.w (.c (.d (.b b)))) =>
     match b,want with
     |true,true=>match jjS P sp N L tab st0 o n (tab.getD n []) (rdF st0 (jak L o) tm) tr with
      |some r=>jdG P sp N L tab st0 rest (n+1) (jhb o r tm) (r::tr)
      |none=>none
     |true,false=>match jig N st0 o tr with
      |some r=>jdG P sp N L tab st0 rest (n+1) (jhb o r tm) (r::tr)
      |none=>none
     |false,true=>match jig N st0 o tr with
      |some r=>jdG P sp N L tab st0 rest (n+1) (jhb o r tm) (r::tr)
      |none=>none
     |false,false=>match jjS P sp N L tab st0 o n (tab.getD n []) (rdF st0 (jak L o) tm) tr with
      |some r=>jdG P sp N L tab st0 rest (n+1) (jhb o r tm) (r::tr)
      |none=>none
    |some (.w (.c (.d (.v (.tuple _)))))=>match jig N st0 o tr with
     |some r=>jdG P sp N L tab st0 rest (n+1) (jhb o r tm) (r::tr)
     |none=>none
    |_=>none
noncomputable def jq0 [Globs] (P:Program) (sp:jab) (N:Nat) (ops:Array Oper) (st:St):Option St :=
 match jbP ops.toList (je8 ops.toList []) 0 ops.toList&&jcU 0 ops.toList&&jgr ops.toList (je8 ops.toList []) 0 ops.toList with
 |true=>match jdG P sp N ops.toList (je8 ops.toList []) st ops.toList 0 st.tm []with
  |some (tm,tr)=>some ⟨tm,jah st tr,jaa st tr⟩
  |none=>none
 |false=>none
noncomputable def jpW [Globs] (P:Program) (sp:jab) (N:Nat) (ops:Array Oper) (st:St):Option St :=
 match jnf ops.toList with
 |[]=>jq0 P sp N ops st
 |_::_=>none
noncomputable def jkO (body:St→Option (Ex × St)) (n:Nat) (st:St):Option (Ex × St) :=
 Nat.rec (motive:=fun _=>St→Option (Ex × St)) (fun _=>none) (fun _ ih st=>match body st with
  |some (.normal,st')=>stG st' fun st'=>ih st'
  |x=>x) n st
noncomputable def jpX [Globs] (P:Program) (sp:jab) (N:Nat) (ops:Array Oper) (draw:Bool) (st:St):Option (Ex × St) :=
 match draw with
 |false=>match cOps P sp N ops.toList ops.toList st with
  |some st'=>some (.normal,st')
  |none=>none
 |true=>match jpW P sp N ops st with
  |some st'=>stF 3 st' fun st'=>some (.normal,st')
  |none=>none
noncomputable def jch (r:Option (Ex × St)) (y:St→Option (Ex × St)):Option (Ex × St) :=
 match r with
 |some (.normal,st')=>y st'
 |x=>x
noncomputable def jnt [Globs] (c:Operand) (x y:St→Option (Ex × St)) (st:St):Option (Ex × St) :=
 match rdQ st c with
 |some (.w (.c (.d (.b true))))=>x st
 |some (.w (.c (.d (.b false))))=>y st
 |_=>none
noncomputable def jlz (id:Nat) (r:Option (Ex × St)):Option (Ex × St) :=
 match r with
 |some (.exit j,st')=>match Nat.beq j id with
  |true=>some (.normal,st')
  |false=>some (.exit j,st')
 |x=>x
noncomputable def cx [Globs] (P:Program) (sp:jab) (N fuel:Nat) (c:Code):St→Option (Ex × St) :=
 Code.rec (motive:=fun _=>St→Option (Ex × St)) (fun st=>some (.normal,st)) (fun _ ops draw st=>jpX P sp N ops draw st)
  (fun _ _ x y st=>jch (x st) y) (fun c _ _ x y st=>jnt c x y st) (fun id _ x st=>jlz id (x st)) (fun _ x st=>jkO x fuel st)
  (fun _ _ _ _ _ _ _=>none) (fun id st=>some (.exit id,st)) (fun _ _ _=>none) (fun _ st=>some (.normal,st)) (fun _ _=>none) (fun st=>some (.ret,st)) (fun _ _=>none) c
def jlA (P:Program) (st:St):ResultVar→Option W
 | .tmp t=>match jay st.tm t with
  |some (.w u)=>some u
  |_=>none
 | .cell t ty=>match jay st.tm t with
  |some (.w (.c (.p h i e j)))=>match find st.hp h with
   |some o=>match jct P ty o i e j,jpN P ty o i e j with
    |some (_,.w u),true=>some u
    |_,_=>none
   |none=>none
  |_=>none
def jcW (P:Program) (st:St):List ResultVar→Option (List W)
 |[]=>some []
 |r::rs=>match jlA P st r,jcW P st rs with
  |some x,some l=>some (x::l)
  |_,_=>none
noncomputable def outF {α:Type} (n0:Nat) (v:V) (st:St) (k:Hp→α):α :=
 jgq n0 st.hp 6 (jmt v 0) fun m=>hpF (fun h=>Nat.blt h n0||Nat.testBit m h) 0 0 st.hp k
def jfp (hp:Hp) (v:V):V :=
 match v with
 | .w (.c (.o h))=>match find hp h with
  |some (.box _ _)=>.w (.c (.p h 0 1 0))
  |some (.ebox _)=>.w (.c (.p h 0 1 0))
  |some (.arr _ _ _ _)=>.w (.c (.p h 0 1 0))
  |_=>.w (.c (.o h))
 |v=>v
noncomputable def inl [Globs] (P:Program) (sp:jab) (fn:Func) (body:Code) (fuel:Nat):Spec:=fun args hp nx =>
 match Nat.ble args.length fn.ntmps with
 |false=>none
 |true=>match cx P sp fn.ntmps fuel body ⟨jbV 0 (args.map (jfp hp)),hp,nx⟩with
  |some (e,st)=>match e with
   | .exit _=>none
   |_=>match jcW P st fn.results.toList,Nat.ble nx st.nx with
    |some l,true=>fV (jaK l) fun v=>outF nx v st fun hp'=>some (.leaf ⟨True,v,hp',st.nx⟩)
    |_,_=>none
  |none=>none
def roO:O→O
 | .row _ c=>extR c
 | .ext c=>extR c
 | .view _ c _=>extR c
 | .rrow c=>extR c
 | .fext c=>extR c
 | .sub _ _ _ _ _ c=>extR c
 | .box _ cs=>.ebox cs
 | .ebox cs=>.ebox cs
 | .lbox _ e n cs=>lstR e n cs
 | .lview _ e n cs=>lstR e n cs
 | .elist e n cs=>.elist e n cs
 | .xext x=>.xext x
 |_=>.dead
where
 extR (c:Cont):O:=match c.e with
  |0=>.dead
  |_+1=>.ext c
 lstR (e n:Nat) (cs:List C):O:=match e with
  |0=>.dead
  |e+1=>.elist (e+1) n cs
def jex (hp:Hp):Hp:=hp.map fun x=>(x.1,roO x.2)
noncomputable def outN {α:Type} (n0:Nat) (v:V) (st:St) (k:Hp→α):α :=
 jgq n0 st.hp 6 (jmt v 0) fun m=>hpF (fun h=>Nat.ble n0 h&&Nat.testBit m h) 0 0 st.hp k
def jnu (v:V) (hp:Hp) (nx:Nat) (hp':Hp):Option RT :=
 match hp'.all (fun x=>jdU x.2)with
 |true=>some (.leaf ⟨True,v,hp' ++ hp,nx⟩)
 |false=>none
noncomputable def jnv [Globs] (P:Program) (sp:jab) (fn:Func) (body:Code) (fuel:Nat):Spec:=fun args hp nx =>
 match Nat.ble args.length fn.ntmps with
 |false=>none
 |true=>match cx P sp fn.ntmps fuel body ⟨jbV 0 (args.map (jfp hp)),jex hp,nx⟩with
  |some (e,st)=>match e with
   | .exit _=>none
   |_=>match jcW P st fn.results.toList,Nat.ble nx st.nx with
    |some l,true=>fV (jaK l) fun v=>outN nx v st (jnu v hp st.nx)
    |_,_=>none
  |none=>none
noncomputable def jjT [Globs] (P:Program) (ov:jab) (ro:Nat→Bool) (fuel:Nat):Nat→jab
 |0=>fun _=>none
 |n+1=>fun f=>match ov f with
  |some x=>some x
  |none=>match P.funcs[f]? with
   |some fn=>match fn.body,fn.name == "runtime.NumGoroutine" with
    |some body,false=>match ro f with
     |true=>some (true,jnv P (jjT P ov ro fuel n) fn body fuel)
     |false=>some (false,inl P (jjT P ov ro fuel n) fn body fuel)
    |_,_=>none
   |none=>none
end Go.Sx
end

section
open Go.RowKit
namespace Go.Sx
structure SubSt (s s0:St):Prop where
 tm:∀t v,jay s.tm t=some v→jay s0.tm t=some v
 hp:∀h o,find s.hp h=some o→find s0.hp h=some o
 nx:s.nx=s0.nx
theorem SubSt.refl (s:St):SubSt s s:=⟨fun _ _ h=>h,fun _ _ h=>h,rfl⟩
theorem SubSt.trans {a b c:St} (h:SubSt a b) (k:SubSt b c):SubSt a c:=⟨fun t v x=>k.tm t v (h.tm t v x),fun t v x=>k.hp t v (h.hp t v x),h.nx.trans k.nx⟩
theorem jjU {α:Type} (j:Nat) (st:St) (k:St→α):∃s,stF j st k=k s∧SubSt s st:=by
 unfold stF
 obtain⟨hp',h1,h2⟩:=jfn (live:=fun _=>true) st.hp j 0 (fun hp=>fN st.nx fun nx=>k ⟨st.tm,hp,nx⟩)
 exact⟨⟨st.tm,hp',st.nx⟩,by rw[h1,jbf],fun _ _ h=>h,fun h o hf=>(h2 h o hf).1,rfl⟩
theorem jr5 {α:Type} (st:St) (k:St→α):∃s,stG st k=k s∧SubSt s st:=by
 unfold stG
 obtain⟨tm',h1,h2⟩:=jjQ st.tm 0 (fun tm=>fN st.nx fun nx=>k ⟨tm,st.hp,nx⟩)
 exact⟨⟨tm',st.hp,st.nx⟩,by rw[h1,jbf],fun t v hf=>(h2 t v hf).1,fun _ _ h=>h,rfl⟩
theorem jet {α:Type} (tm:List (Nat × V)) (hp:Hp) (nx:Nat) (k:St→α):jjR tm hp nx k=k ⟨tm,hp,nx⟩:=by
 unfold jjR
 cases hp with
 |nil=>exact jbf _ _
 |cons x r =>
  obtain⟨h,o⟩:=x
  show fO o _=_
  rw[jpR,jbf]
theorem jlZ {α:Type} (o:Oper) (r:Res) (st:St) (k:St→α):∃s,jly o r st k=k s∧SubSt s (st.put o.dst r):=by
 have e:st.put o.dst ⟨True,r.v,r.hp,r.nx⟩=st.put o.dst r:=by cases o.dst<;>rfl
 unfold jly
 rw[jcB,e]
 unfold jly.putG
 split
 ·exact jjU _ _ _
 ·split
  ·rw[jbf]; exact⟨_,rfl,SubSt.refl _⟩
  ·exact jjU _ _ _
  ·exact⟨_,rfl,SubSt.refl _⟩
 ·exact⟨_,jet _ _ _ _,SubSt.refl _⟩
 ·exact⟨_,jet _ _ _ _,SubSt.refl _⟩
 ·exact⟨_,jet _ _ _ _,SubSt.refl _⟩
 ·exact⟨_,jet _ _ _ _,SubSt.refl _⟩
 ·exact⟨_,jet _ _ _ _,SubSt.refl _⟩
 ·exact⟨_,rfl,SubSt.refl _⟩
def jbs (sp:jab):Prop:=∀f M S args hp nx t,sp f=some (M,S)→S args hp nx=some t→t.sel.ob
section
variable [Globs] {P:Program} {B:Kd} {N n0:Nat} {sp:jab} {ρ ρ0:Env} {w w0:World} {a:Act} {st:St} {ds:List Deferred}
theorem RelD.subSt {s:St} (h:RelD ds ρ B N n0 st a w) (hs:SubSt s st):RelD ds ρ B N n0 s a w:=by
 obtain⟨B1,g,hh⟩:=h.heap
 refine⟨fun t v hv=>?_,h.size,h.defers,⟨B1,g,?_⟩,h.le,by rw[hs.nx]; exact h.n0⟩
 ·rw[hs.nx]; exact h.tm t v (hs.tm t v hv)
 ·rw[hs.nx]; exact hh.sub fun k o hf=>hs.hp k o hf
theorem jpZ {op:Op} {rd:Operand→Option V} {hp:Hp} {nx:Nat} {t:RT} (hfr:jbs sp) (h:jeF P sp op rd hp nx=some t):t.sel.ob:=by
 unfold jeF at h
 split at h
 ·split at h
  ·split at h
   ·rename_i r _ _
    cases h
    cases r.isSome<;>trivial
   ·cases h
  ·cases h
 ·split at h
  ·rename_i b _ _ _
   cases h
   cases jli b<;>trivial
  ·cases h
 ·split at h
  ·split at h
   ·split at h
    ·rename_i hsg
     exact hfr _ _ _ _ _ _ _ hsg h
    ·cases h
   ·split at h
    ·rename_i hsg
     exact hfr _ _ _ _ _ _ _ hsg h
    ·cases h
   ·cases h
  ·cases h
 ·cases h
theorem RT.sel_run:∀{t:RT} {k:Res→Prop},k t.sel→t.run k
 | .leaf _,_,h=>h
 | .br b x y,k,h=>by
  cases b
  ·exact RT.sel_run (t:=y) h
  ·exact RT.sel_run (t:=x) h
theorem jr6 {o:Oper} {st':St} (hfr:jbs sp) (h:cOp P sp N o st=some st'):∃s0,SubSt st' s0∧je6 P sp N o st fun s=>s=s0:=by
 unfold cOp at h
 rw[jqY]at h
 split at h
 ·cases h
 ·rename_i hd
  split at h
  ·rename_i v hq
   rw[jcB]at h
   cases h
   obtain⟨hT,ob,hV,hob⟩:=jlx (P:=P) (sp:=sp) (nx:=st.nx) hq
   refine⟨_,SubSt.refl _,?_⟩
   unfold je6
   rw[hT]
   have hs:ja5 P sp o.op (jbL st) st.hp st.nx=some ⟨ob,v,st.hp,st.nx⟩:=by unfold ja5; rw[hV]
   simp only[hs,hd]
   have e:st.put o.dst ⟨ob,v,st.hp,st.nx⟩=st.put o.dst ⟨True,v,st.hp,st.nx⟩:=by cases o.dst<;>rfl
   split
   ·exact e
   ·exact⟨⟨hob⟩,e⟩
  ·split at h
   ·rename_i t ht
    obtain⟨s,h1,h2⟩:=jlZ o t.sel st some
    rw[h1]at h
    cases h
    refine⟨_,h2,?_⟩
    unfold je6
    simp only[ht,hd]
    exact RT.sel_run ⟨⟨jpZ hfr ht⟩,rfl⟩
   ·rename_i hT
    split at h
    ·rename_i r hr
     obtain⟨s,h1,h2⟩:=jlZ o r st some
     split at h
     ·rename_i ht
      rw[h1]at h
      cases h
      refine⟨_,h2,?_⟩
      unfold je6
      simp only[hT,hr,hd,ht]
     ·rename_i ht hb
      rw[h1]at h
      cases h
      refine⟨_,h2,?_⟩
      unfold je6
      simp only[hT,hr,hd,ht]
      exact⟨⟨b_ob hb hr⟩,trivial⟩
     ·cases h
    ·cases h
theorem jih {o:Oper} {st':St} {K:Act→World→Prop} {Q:Exit→Act→World→Prop} (hsp:jad P sp) (hfr:jbs sp) (hr:RelD ds ρ B N n0 st a w) (hag:jac n0 ρ0 ρ) (hbl:Bel B w0 w) (h:cOp P sp N o st=some st')
  (hK:∀ρ' a' w',RelD ds ρ' B N n0 st' a' w'→jac n0 ρ0 ρ'→Bel B w0 w'→K a' w'):o.wp P a w K Q:=by
 obtain⟨s0,h1,h2⟩:=jr6 hfr h
 refine jdv hsp hr hag hbl h2 fun ρ' s a' w' q1 q2 q3 q4=>?_
 subst q4
 exact hK ρ' a' w' (q1.subSt h1) q2 q3
theorem jf1 {o:Oper} {st':St} {K:Act→World→Prop} (hr:RelD ds ρ B N n0 st a w) (hag:jac n0 ρ0 ρ) (hbl:Bel B w0 w) (h:jkN N o st=some st')
  (hK:∀ρ' a' w',RelD ds ρ' B N n0 st' a' w'→jac n0 ρ0 ρ'→Bel B w0 w'→K a' w'):K (a.put o.dst undef) w:=by
 unfold jkN at h
 split at h
 ·rename_i hd
  cases h
  exact hK ρ _ w (hr.skip hd) hag hbl
 ·cases h
theorem jkP {all:List Oper} {st':St} {Q:Exit→Act→World→Prop} (hsp:jad P sp) (hfr:jbs sp)
  (hQ:∀ρ' a' w',RelD ds ρ' B N n0 st' a' w'→jac n0 ρ0 ρ'→Bel B w0 w'→Q .normal a' w') :
  ∀(l:List Oper) (ρ:Env) (st:St) (a:Act) (w:World),RelD ds ρ B N n0 st a w→jac n0 ρ0 ρ→Bel B w0 w→cOps P sp N all l st=some st'→wpList P all.toArray Q l a w
 |[],ρ,st,a,w,hr,hag,hbl,h=>by
  cases (show some st=some st' from h)
  exact hQ ρ a w hr hag hbl
 |o::r,ρ,st,a,w,hr,hag,hbl,h=>by
  have h:Option.rec (motive:=fun _=>Option St) none (fun st1=>cOps P sp N all r st1) (cOne P sp N all o st)=some st':=h
  cases h1:cOne P sp N all o st with
  |none=>rw[h1]at h; cases h
  |some st1 =>
   rw[h1]at h
   have h:cOps P sp N all r st1=some st':=h
   have ih:=fun ρ' a' w' (h1:RelD ds ρ' B N n0 st1 a' w') h2 h3=>jkP (all:=all) hsp hfr hQ r ρ' st1 a' w' h1 h2 h3 h
   unfold wpList
   unfold cOne at h1
   split at h1
   ·rename_i hg
    have hw:Region.wanted o (yielded all.toArray a.tmps)=true:=by simp[Region.wanted,hg]
    rw[if_pos hw]
    exact .inl (jih hsp hfr hr hag hbl h1 ih)
   ·rename_i j want hg
    have hwanted:∀ob,yielded all.toArray a.tmps j=ob→Region.wanted o (yielded all.toArray a.tmps)=(ob==some want):=fun ob hob=>by simp[Region.wanted,hg,hob]
    rw[jdo]at h1
    split at h1
    ·cases h1
    ·rename_i t ht
     rw[jgp]at h1
     split at h1
     ·rename_i b hget
      have hgo:jdS all j st=some (t,.w (.c (.d (.b b)))):=by unfold jdS; rw[ht]; simp[hget]
      obtain⟨hy,_⟩:=jc7 hr hgo (.inr rfl)
      have hw:=hwanted _ hy
      have hval:(V.w (.c (.d (.b b)))).val ρ=.bool b:=rfl
      rw[hval]at hw
      cases b<;>cases want<;>dsimp only at h1
      ·rw[if_pos (by rw[hw]; rfl)]
       exact .inl (jih hsp hfr hr hag hbl h1 ih)
      ·rw[if_neg (by rw[hw]; simp)]
       exact jf1 hr hag hbl h1 ih
      ·rw[if_neg (by rw[hw]; simp)]
       exact jf1 hr hag hbl h1 ih
      ·rw[if_pos (by rw[hw]; rfl)]
       exact .inl (jih hsp hfr hr hag hbl h1 ih)
     ·rename_i vs hget
      have hgo:jdS all j st=some (t,.w (.c (.d (.v (.tuple vs))))):=by unfold jdS; rw[ht]; simp[hget]
      obtain⟨hy,_⟩:=jc7 hr hgo (.inr rfl)
      have hw:=hwanted _ hy
      have hval:(V.w (.c (.d (.v (.tuple vs))))).val ρ=.tuple vs:=rfl
      rw[hval]at hw
      rw[if_neg (by rw[hw]; simp)]
      exact jf1 hr hag hbl h1 ih
     ·cases h1
end
end Go.Sx
end

section
open Go.RowKit
namespace Go.Sx
section
variable [Globs] {P:Program} {B:Kd} {N n0:Nat} {sp:jab} {ρ ρ0:Env} {w w0:World} {a:Act} {st:St} {ds:List Deferred}
theorem jeu {t:Bool} {ob k:Prop} (h:t=true∨ob) (hk:k):obT t ob k:=by
 cases t with
 |true=>exact hk
 |false=>exact⟨⟨h.elim (fun h=>by cases h) id⟩,hk⟩
theorem jhc {op:Op} {rd:Operand→Option V} {hp:Hp} {r r':Rec} (h:obC P op rd hp r=some r'):r'=r∧(jaV op rd hp=true∨obB P op rd hp=true):=by
 unfold obC at h
 split at h
 ·rename_i ht
  rw[jcB]at h
  cases h
  exact⟨rfl,.inl ht⟩
 ·rename_i ht hb
  rw[jcB]at h
  cases h
  exact⟨rfl,.inr hb⟩
 ·cases h
theorem jp0 {op:Op} {rd:Operand→Option V} {hp:Hp} {ob:Prop} {v:V} (ht:obB P op rd hp=true) (h:jaR P op rd hp=some (ob,v)):ob:=by
 unfold jaR at h
 split at h
 ·rename_i p hp0
  cases h
  exact jqW ht hp0
 ·exact jsH ht h
theorem jf2 {op:Op} {rd:Operand→Option V} {hp:Hp} {nx:Nat} {r r':Rec} {res:Res} (hfr:jbs sp) (hs:ja5 P sp op rd hp nx=some res) (h:jjS.obCall P sp op rd hp r=some r'):r'=r∧(jaV op rd hp=true∨res.ob):=by
 unfold jjS.obCall at h
 have gen:obC P op rd hp r=some r'→r'=r∧(jaV op rd hp=true∨res.ob):=fun h=>by
  obtain⟨h1,h2⟩:=jhc h
  exact⟨h1,h2.imp id fun hb=>b_ob hb hs⟩
 split at h
 ·rename_i c
  split at h
  ·rename_i f hc
   rw[jcB]at h
   cases h
   refine⟨rfl,.inr ?_⟩
   have h1:jaR P (.call c) rd hp=none:=by simp[jaR,jaL,jd3,hc]
   have h2:jcv P (.call c) rd hp nx=none:=by simp[jcv]
   have h3:jc3 P (.call c) rd hp nx=none:=by simp[jc3]
   have h4:jds P (.call c) rd hp nx=none:=by simp[jds,hc]
   have h5:jc5 P (.call c) rd hp nx=none:=by simp[jc5,hc]
   have h6:jc4 P (.call c) rd hp nx=none:=by simp[jc4,hc]
   unfold ja5 at hs
   simp only[h1,h2,h3,h4,h5,h6]at hs
   unfold jfD at hs
   dsimp only at hs
   simp only[hc]at hs
   split at hs
   ·split at hs
    ·rename_i M S hsg
     obtain⟨t,ht,hl⟩:=Option.bind_eq_some_iff.1 hs
     have:=hfr _ _ _ _ _ _ _ hsg ht
     cases t with
     |leaf r0=>cases hl; exact this
     |br=>cases hl
    ·cases hs
   ·split at hs
    ·rename_i M S hsg
     obtain⟨t,ht,hl⟩:=Option.bind_eq_some_iff.1 hs
     have:=hfr _ _ _ _ _ _ _ hsg ht
     cases t with
     |leaf r0=>cases hl; exact this
     |br=>cases hl
    ·cases hs
   ·cases hs
  ·exact gen h
 ·exact gen h
theorem jq1 {op:Op} {rd:Operand→Option V} {hp:Hp} {bef:List Nat} {st0:St} {tr:List Rec} {r:Rec} (h:qdop P op rd hp bef st0 tr=some r) :
  ∃v ob,jaR P op rd hp=some (ob,v)∧ob∧jaN bef st0 tr v [] (jaa st0 tr)=true∧r=⟨v,jah st0 tr,jaa st0 tr,0,[],none⟩:=by
 unfold qdop at h
 split at h
 ·rename_i v hq
  rw[jcB]at h
  split at h
  ·rename_i ho
   cases h
   rw[jif]at ho
   obtain⟨_,ob,h1,h2⟩:=jlx (P:=P) (sp:=fun _=>none) (nx:=0) hq
   exact⟨v,ob,h1,h2,ho,rfl⟩
  ·cases h
 ·cases h
theorem jp1 {op:Op} {rd:Operand→Option V} {bef:List Nat} {st0:St} {tr:List Rec} {r:Rec} (h:jpV P op rd bef st0 tr=some r) :
  ∃h x v ob,loadAt op rd=some h∧find (jah st0 tr) h=some x∧(jal (fun j=>bef.contains j) st0 tr h&&jbd st0 bef h tr)=true∧jaR P op rd [(h,x)]=some (ob,v)∧ob∧jaN bef st0 tr v [] (jaa st0 tr)=true∧r=⟨v,jah st0 tr,jaa st0 tr,0,[],none⟩:=by
 unfold jpV at h
 split at h
 ·split at h
  ·cases h
  ·rename_i k hk
   split at h
   ·cases h
   ·rename_i x hx
    rw[jcP]at hx
    split at h
    ·cases h
    ·rename_i hb
     rw[jfo]at hb
     split at h
     ·rename_i v hq
      rw[jcB]at h
      split at h
      ·rename_i ho
       cases h
       rw[jif]at ho
       obtain⟨_,ob,h1,h2⟩:=jlx (P:=P) (sp:=fun _=>none) (nx:=0) hq
       exact⟨k,x,v,ob,hk,hx,hb,h1,h2,ho,rfl⟩
      ·cases h
     ·cases h
 ·cases h
theorem jkQ {tab:List (List Nat)} {i:Nat} {lf:Bool}:∀{l:List Oper} {k:Nat},jaT tab i false false k l=true→jaT tab i lf false k l=true
 |[],_,_=>rfl
 |o::r,k,h=>by
  simp only[jaT,Bool.and_eq_true,Bool.or_eq_true]at h ⊢
  refine⟨?_,jkQ h.2⟩
  rcases h.1 with ((((h1|h1)|h1)|h1)|h1)|h1
  ·exact .inl (.inl (.inl (.inl (.inl h1))))
  ·exact .inl (.inl (.inl (.inl (.inr h1))))
  ·exact .inl (.inl (.inl (.inr h1)))
  ·exact .inl (.inl (.inr h1))
  ·cases h1.1
  ·cases h1.1.1
theorem jtM {L:List Oper} {tab:List (List Nat)} {st0:St} {o:Oper} {tr:List Rec}:mkF L tab st0 o tr.length tr=jlr L tab st0 o tr:=by
 unfold mkF
 split
 ·rename_i h
  unfold jlr
  rw[jkQ h]
 ·rfl
theorem jiQ {L:List Oper} {bef:List Nat} {st0:St} {t:Nat}:∀{tr:List Rec},jdF L bef tr.length t=true→jbH L bef st0 t tr=jay (jdc L st0 tr) t
 |[],_=>rfl
 |r::tr,h=>by
  unfold jdF at h
  simp only[List.length_cons,jmu]at h
  simp only[jbH,jdc]
  cases hd:jbr L tr.length with
  |none =>
   rw[hd]at h
   dsimp only at h ⊢
   exact jiQ (by unfold jdF; exact h)
  |some d =>
   rw[hd]at h
   dsimp only at h ⊢
   by_cases e:d=t
   ·rw[if_pos e]at h ⊢
    dsimp only at h
    rw[h]
    simp only[jay,if_pos e]
   ·rw[if_neg e]at h ⊢
    simp only[jay,if_neg e]
    exact jiQ (by unfold jdF; exact h)
theorem jii {L:List Oper} {tab:List (List Nat)}:∀{l:List Oper} {k:Nat},jgr L tab k l=true→∀m o,l[m]?=some o→∀t∈jak L o,jdF L (tab.getD (k+m) []) (k+m) t=true
 |[],_,_,_,_,h=>by simp at h
 |o' :: r,k,hs,m,o,h=>by
  simp only[jgr,Bool.and_eq_true]at hs
  cases m with
  |zero =>
   simp at h
   subst h
   exact fun t ht=>List.all_eq_true.1 hs.1 t ht
  |succ m =>
   intro t ht
   have:=jii hs.2 m o (by simpa using h) t ht
   rw[show k+(m+1)=k+1+m by omega]
   exact this
theorem jtN {L:List Oper} {tab:List (List Nat)} {st0:St} {o:Oper} {tr:List Rec} (h:∀t∈jak L o,jdF L (tab.getD tr.length []) tr.length t=true) :
  rdF st0 (jak L o) (jdc L st0 tr)=jaU L (jak L o) (tab.getD tr.length []) st0 tr:=by
 funext x
 cases x with
 |tmp t =>
  simp only[rdF,jaU]
  cases hc:(jak L o).contains t with
  |false=>rfl
  |true =>
   dsimp only
   rw[jgp,jiQ (h t (by simpa using hc))]
 |_=>rfl
theorem jl0 {L:List Oper} {tab:List (List Nat)} {st0:St} {o:Oper} {tr:List Rec} {r:Rec} {k:Rec→Prop} (hfr:jbs sp) (hrd:∀t∈jak L o,jdF L (tab.getD tr.length []) tr.length t=true) (h:jjS P sp N L tab st0 o tr.length (tab.getD tr.length []) (rdF st0 (jak L o) (jdc L st0 tr)) tr=some r) (hk:k r):dop P sp N L tab st0 o tr k:=by
 rw[jtN hrd]at h
 unfold jjS at h
 simp only[jif,jfo,jr2,jtM]at h
 unfold dop
 split at h
 ·cases h
 ·rename_i hd
  rw[hd]
  dsimp only
  split at h
  ·rename_i r' hq
   cases h
   obtain⟨v,ob,h1,h2,h3,rfl⟩:=jq1 hq
   rw[h1]
   dsimp only
   rw[h3]
   exact jeu (.inr h2) hk
  ·split at h
   ·rename_i ob v hv
    split at h
    ·rename_i ho
     rw[hv]
     dsimp only
     rw[ho]
     obtain⟨rfl,h2⟩:=jhc h
     exact jeu (h2.imp id fun hb=>jp0 hb hv) hk
    ·cases h
   ·rename_i hv
    rw[hv]
    dsimp only
    split at h
    ·rename_i hsp
     rw[hsp]
     dsimp only
     split at h
     ·rename_i hb
      rw[hb]
      dsimp only
      split at h
      ·rename_i ob v hv2
       rw[hv2]
       dsimp only
       split at h
       ·rename_i ho
        rw[ho]
        obtain⟨rfl,h2⟩:=jhc h
        exact jeu (h2.imp id fun hb=>jp0 hb hv2) hk
       ·cases h
      ·cases h
     ·cases h
    ·rename_i hsp
     rw[hsp]
     dsimp only
     split at h
     ·rename_i hl
      rw[hl]
      dsimp only
      split at h
      ·rename_i r' hq
       cases h
       obtain⟨k',x,v,ob,q1,q2,q3,q4,q5,q6,rfl⟩:=jp1 hq
       rw[q1]
       dsimp only
       rw[q2]
       dsimp only
       rw[q3]
       dsimp only
       rw[q4]
       dsimp only
       rw[q6]
       exact jeu (.inr q5) hk
      ·split at h
       ·cases h
       rename_i h' hla
       rw[hla]
       dsimp only
       split at h
       ·cases h
       ·rename_i x hx
        rw[hx]
        dsimp only
        split at h
        ·cases h
        ·rename_i hb
         rw[hb]
         dsimp only
         split at h
         ·rename_i hv2
          rw[hv2]
          dsimp only
          split at h
          ·cases h
          ·rename_i hmk
           rw[hmk]
           dsimp only
           split at h
           ·rename_i res hs
            rw[hs]
            dsimp only
            split at h
            ·rename_i ho
             rw[ho]
             obtain⟨rfl,h2⟩:=jf2 hfr hs h
             exact jeu h2 hk
            ·cases h
           ·cases h
         ·rename_i ob v hv2
          rw[hv2]
          dsimp only
          split at h
          ·rename_i ho
           rw[ho]
           obtain⟨rfl,h2⟩:=jhc h
           exact jeu (h2.imp id fun hb=>jp0 hb hv2) hk
          ·cases h
     ·rename_i hl
      rw[hl]
      dsimp only
      split at h
      ·rename_i hm
       rw[hm]
       dsimp only
       split at h
       ·rename_i res hs
        rw[hs]
        dsimp only
        split at h
        ·rename_i ho
         rw[ho]
         obtain⟨rfl,h2⟩:=jf2 hfr hs h
         exact jeu h2 hk
        ·cases h
       ·cases h
      ·rename_i hm
       rw[hm]
       dsimp only
       split at h
       ·cases h
       ·rename_i hf
        rw[hf]
        dsimp only
        split at h
        ·rename_i res hs
         rw[hs]
         dsimp only
         split at h
         ·rename_i ho
          rw[ho]
          obtain⟨rfl,h2⟩:=jf2 hfr hs h
          exact jeu h2 hk
         ·cases h
        ·cases h
theorem jji {st0:St} {o:Oper} {tr:List Rec} {r:Rec} {k:Rec→Prop} (h:jig N st0 o tr=some r) (hk:k r):jgS N st0 o tr k:=by
 unfold jig at h
 unfold jgS
 split at h
 ·cases h
 ·rename_i hd
  cases h
  rw[hd]
  exact hk
theorem jtb {L:List Oper} {st0:St} {o:Oper} {r:Rec} {tr:List Rec} (h:L[tr.length]?=some o):jhb o r (jdc L st0 tr)=jdc L st0 (r::tr):=by
 simp only[jhb,jdc,jbr,h,Option.bind_some]
 cases o.dst<;>rfl
theorem jkR {L:List Oper} {tab:List (List Nat)} {st0:St} (hfr:jbs sp) (hrd:jgr L tab 0 L=true):∀(l:List Oper) (tr:List Rec) (tm':List (Nat × V)) (tr':List Rec) (k:List Rec→Prop),L=L.take tr.length++l→tr.length+l.length=L.length →
  jdG P sp N L tab st0 l tr.length (jdc L st0 tr) tr=some (tm',tr')→(tm'=jdc L st0 tr'→k tr')→jdV P sp N L tab st0 l tr k
 |[],tr,tm',tr',k,_,_,h,hk=>by
  unfold jdG at h
  cases h
  exact hk rfl
 |o::r,tr,tm',tr',k,hL,hlen,h,hk=>by
  have hlt:tr.length<L.length:=by simp at hlen; omega
  have ho:L[tr.length]?=some o:=by
   rw[hL,List.getElem?_append_right (by simp; omega)]
   simp[Nat.min_eq_left (Nat.le_of_lt hlt)]
  have hro:∀t∈jak L o,jdF L (tab.getD tr.length []) tr.length t=true:=fun t ht=>by
   have:=jii hrd tr.length o ho t ht
   simpa using this
  have next:∀rc,jdG P sp N L tab st0 r (tr.length+1) (jhb o rc (jdc L st0 tr)) (rc::tr)=some (tm',tr')→jdV P sp N L tab st0 r (rc::tr) k:=fun rc hrc=>by
   refine jkR hfr hrd r (rc::tr) tm' tr' k ?_ (by simp at hlen ⊢; omega) (by rw[←jtb ho]; exact hrc) hk
   have h1:L.take (tr.length+1)=L.take tr.length++[o]:=by
    rw[List.take_succ_eq_append_getElem hlt]
    congr 2
    have:=List.getElem?_eq_getElem hlt
    rw[this]at ho
    exact Option.some.inj ho
   simp only[List.length_cons,h1,List.append_assoc,List.singleton_append]
   exact hL
  unfold jdG at h
  unfold jdV
  split at h
  ·rename_i hg
   rw[hg]
   dsimp only
   split at h
   ·rename_i rc hc
    exact jl0 hfr hro hc (next rc h)
   ·cases h
  ·rename_i g want hg
   rw[hg]
   dsimp only
   split at h
   ·cases h
   ·rename_i t ht
    rw[ht]
    dsimp only
    have hnm:t∈jak L o:=by
     unfold jak
     rw[hg]
     simp[ht]
    rw[jgp,←jiQ (hro t hnm)]at h
    split at h
    ·rename_i b hs
     have hset:jcy L t (vb b) tr=tr:=jeI hs
     rw[hs]
     dsimp only
     cases b<;>cases want<;>dsimp only[Br]at h ⊢ <;> split at h<;>rw[hset]<;>first
      |(rename_i rc hc; exact jl0 hfr hro hc (next rc h))
      |(rename_i rc hc; exact jji hc (next rc h))
      |cases h
    ·rename_i vs hs
     rw[hs]
     dsimp only
     split at h
     ·rename_i rc hc
      exact jji hc (next rc h)
     ·cases h
    ·cases h
theorem jp2 {ops:Array Oper} {s0:St} (hfr:jbs sp) (h:jpW P sp N ops st=some s0):jcz P sp N ops st fun s=>s=s0:=by
 unfold jpW at h
 unfold jcz
 split at h
 ·rename_i hf
  rw[hf]
  dsimp only
  unfold jq0 at h
  unfold jhX
  split at h
  ·rename_i hs
   rw[Bool.and_eq_true]at hs
   rw[hs.1]
   dsimp only
   split at h
   ·rename_i tm tr htr
    cases h
    exact jkR hfr hs.2 ops.toList [] tm tr _ (by simp) (by simp) htr fun e=>by rw[e]; rfl
   ·cases h
  ·cases h
 ·cases h
theorem jb0 {fuel:Nat} (hsp:jad P sp) (hfr:jbs sp) (hdr:jeQ P B N n0 ρ0 w0 (jcz P sp N)) :
  ∀(c:Code) (st:St) (ρ:Env) (a:Act) (w:World) (e:Ex) (st':St),cx P sp N fuel c st=some (e,st')→RelD ds ρ B N n0 st a w→jac n0 ρ0 ρ→Bel B w0 w →
   c.wp P (Qx ds ρ0 B N n0 w0 fun e' s=>e'=e∧s=st') a w
 | .skip,st,ρ,a,w,e,st',h,hr,hag,hbl=>by
  cases (show some (Ex.normal,st)=some (e,st')from h)
  exact wp_skip ⟨.normal,ρ,st,rfl,⟨rfl,rfl⟩,hr,hag,hbl⟩
 | .label l,st,ρ,a,w,e,st',h,hr,hag,hbl=>by
  cases (show some (Ex.normal,st)=some (e,st')from h)
  exact wp_label ⟨.normal,ρ,st,rfl,⟨rfl,rfl⟩,hr,hag,hbl⟩
 | .region id ops draw,st,ρ,a,w,e,st',h,hr,hag,hbl=>by
  have h:jpX P sp N ops draw st=some (e,st'):=h
  unfold jpX at h
  cases draw with
  |false =>
   dsimp only at h
   split at h
   ·rename_i s1 hs
    cases h
    refine wp_region_list ?_
    have:=jkP (P:=P) (Q:=Qx ds ρ0 B N n0 w0 fun e' s=>e'=.normal∧s=st') (all:=ops.toList) hsp hfr (fun ρ' a' w' h1 h2 h3=>⟨.normal,ρ',st',rfl,⟨rfl,rfl⟩,h1,h2,h3⟩) ops.toList ρ st a w hr hag hbl hs
    simpa using this
   ·cases h
  |true =>
   dsimp only at h
   split at h
   ·rename_i s1 hs
    obtain⟨s2,h1,h2⟩:=jjU 3 s1 (fun s=>some (Ex.normal,s))
    rw[h1]at h
    cases h
    exact hdr id ops st _ ρ a w _ (jp2 hfr hs) hr hag hbl (fun ρ' s a' w' q1 q2 q3 q4=>by
     subst q4
     exact⟨.normal,ρ',st',rfl,⟨rfl,rfl⟩,q1.subSt h2,q2,q3⟩)
   ·cases h
 | .seq x y,st,ρ,a,w,e,st',h,hr,hag,hbl=>by
  have h:jch (cx P sp N fuel x st) (cx P sp N fuel y)=some (e,st'):=h
  unfold jch at h
  refine wp_seq ?_
  split at h
  ·rename_i s1 hs
   refine wp_mono (jb0 hsp hfr hdr x st ρ a w _ _ hs hr hag hbl) ?_
   rintro e1 a1 w1 ⟨ex,ρ1,s2,rfl,⟨rfl,rfl⟩,hr1,hag1,hbl1⟩
   exact jb0 hsp hfr hdr y s2 ρ1 a1 w1 _ _ h hr1 hag1 hbl1
  ·rename_i hne
   refine wp_mono (jb0 hsp hfr hdr x st ρ a w _ _ h hr hag hbl) ?_
   rintro e1 a1 w1 ⟨ex,ρ1,s2,rfl,⟨rfl,rfl⟩,hr1,hag1,hbl1⟩
   cases ex with
   |normal=>exact(hne _ h).elim
   |exit j=>exact⟨.exit j,ρ1,_,rfl,⟨rfl,rfl⟩,hr1,hag1,hbl1⟩
   |ret=>exact⟨.ret,ρ1,_,rfl,⟨rfl,rfl⟩,hr1,hag1,hbl1⟩
 | .cond c x y,st,ρ,a,w,e,st',h,hr,hag,hbl=>by
  have h:jnt c (cx P sp N fuel x) (cx P sp N fuel y) st=some (e,st'):=h
  unfold jnt at h
  rw[jqY]at h
  split at h
  ·rename_i hc
   exact wp_cond_true (jhS hr (b:=true) (by rw[hc]; rfl)) (jb0 hsp hfr hdr x st ρ a w _ _ h hr hag hbl)
  ·rename_i hc
   exact wp_cond_false (jhS hr (b:=false) (by rw[hc]; rfl)) (jb0 hsp hfr hdr y st ρ a w _ _ h hr hag hbl)
  ·cases h
 | .block id c,st,ρ,a,w,e,st',h,hr,hag,hbl=>by
  have h:jlz id (cx P sp N fuel c st)=some (e,st'):=h
  unfold jlz at h
  refine wp_block ?_
  split at h
  ·rename_i j s1 hs
   refine wp_mono (jb0 hsp hfr hdr c st ρ a w _ _ hs hr hag hbl) ?_
   rintro e1 a1 w1 ⟨ex,ρ1,s2,rfl,⟨rfl,rfl⟩,hr1,hag1,hbl1⟩
   simp only[Ex.toExit,Exit.inBlock]
   split at h
   ·rename_i hj
    cases h
    rw[if_pos (Nat.eq_of_beq_eq_true hj)]
    exact⟨.normal,ρ1,_,rfl,⟨rfl,rfl⟩,hr1,hag1,hbl1⟩
   ·rename_i hj
    cases h
    rw[if_neg (fun e=>by subst e; rw[Nat.beq_refl]at hj; cases hj)]
    exact⟨.exit j,ρ1,_,rfl,⟨rfl,rfl⟩,hr1,hag1,hbl1⟩
  ·rename_i hne
   refine wp_mono (jb0 hsp hfr hdr c st ρ a w _ _ h hr hag hbl) ?_
   rintro e1 a1 w1 ⟨ex,ρ1,s2,rfl,⟨rfl,rfl⟩,hr1,hag1,hbl1⟩
   cases ex with
   |normal=>exact⟨.normal,ρ1,_,rfl,⟨rfl,rfl⟩,hr1,hag1,hbl1⟩
   |exit j=>exact(hne _ _ h).elim
   |ret=>exact⟨.ret,ρ1,_,rfl,⟨rfl,rfl⟩,hr1,hag1,hbl1⟩
 | .loop c,st,ρ,a,w,e,st',h,hr,hag,hbl=>by
  have h:jkO (cx P sp N fuel c) fuel st=some (e,st'):=h
  refine wp_loop_rounds fuel ?_
  have key:∀(n:Nat) (st:St) (ρ:Env) (a:Act) (w:World),jkO (cx P sp N fuel c) n st=some (e,st')→RelD ds ρ B N n0 st a w→jac n0 ρ0 ρ→Bel B w0 w→Code.rounds P c (Qx ds ρ0 B N n0 w0 fun e' s=>e'=e∧s=st') n a w:=by
   intro n
   induction n with
   |zero=>intro st ρ a w h; cases (show none=some (e,st')from h)
   |succ n ih =>
    intro st ρ a w h hr hag hbl
    have h:(match cx P sp N fuel c st with
     |some (.normal,st1)=>stG st1 fun st1=>jkO (cx P sp N fuel c) n st1
     |x=>x)=some (e,st'):=h
    rw[rounds_succ]
    split at h
    ·rename_i s1 hs
     obtain⟨s2,h1,h2⟩:=jr5 s1 (fun s=>jkO (cx P sp N fuel c) n s)
     rw[h1]at h
     refine wp_mono (jb0 hsp hfr hdr c st ρ a w _ _ hs hr hag hbl) ?_
     rintro e1 a1 w1 ⟨ex,ρ1,s3,rfl,⟨rfl,rfl⟩,hr1,hag1,hbl1⟩
     exact ih s2 ρ1 a1 w1 h (hr1.subSt h2) hag1 hbl1
    ·rename_i hne
     refine wp_mono (jb0 hsp hfr hdr c st ρ a w _ _ h hr hag hbl) ?_
     rintro e1 a1 w1 ⟨ex,ρ1,s2,rfl,⟨rfl,rfl⟩,hr1,hag1,hbl1⟩
     cases ex with
     |normal=>exact(hne _ h).elim
     |exit j=>exact⟨.exit j,ρ1,_,rfl,⟨rfl,rfl⟩,hr1,hag1,hbl1⟩
     |ret=>exact⟨.ret,ρ1,_,rfl,⟨rfl,rfl⟩,hr1,hag1,hbl1⟩
  exact key fuel st ρ a w h hr hag hbl
 | .exit id,st,ρ,a,w,e,st',h,hr,hag,hbl=>by
  cases (show some (Ex.exit id,st)=some (e,st')from h)
  exact wp_exit ⟨.exit id,ρ,st,rfl,⟨rfl,rfl⟩,hr,hag,hbl⟩
 | .ret,st,ρ,a,w,e,st',h,hr,hag,hbl=>by
  cases (show some (Ex.ret,st)=some (e,st')from h)
  exact wp_ret ⟨.ret,ρ,st,rfl,⟨rfl,rfl⟩,hr,hag,hbl⟩
 | .scope c,st,ρ,a,w,e,st',h,_,_,_=>by cases (show none=some (e,st')from h)
 | .goto l,st,ρ,a,w,e,st',h,_,_,_=>by cases (show none=some (e,st')from h)
 | .rangeFunc f ps x y,st,ρ,a,w,e,st',h,_,_,_=>by cases (show none=some (e,st')from h)
 | .refuse s,st,ρ,a,w,e,st',h,_,_,_=>by cases (show none=some (e,st')from h)
end
end Go.Sx
end
