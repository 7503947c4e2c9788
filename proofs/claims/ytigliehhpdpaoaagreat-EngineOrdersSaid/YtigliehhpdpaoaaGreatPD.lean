/- Part 4 of the proof of EngineOrders: the executor, the mirrors of the functions, the plain facts. -/
import Derived.Test.YtigliehhpdpaoaaGreatPC
import Derived.IntWalk
import Derived.Test.YtigliehhpdpaoaaGreatProg
import Derived.RangeFuncNested
import Derived.RangeFuncBound
import Derived.RangeFuncCalls
import Derived.RangeFuncLeaves
import Derived.Shelf.Abstract
import Derived.Shelf.RegionOpen
import Derived.WalkKit
import Derived.OwnWalkIn
import Derived.TacticsInMore
import Derived.LoopNIn
import Derived.LoopIn
set_option maxRecDepth 100000
set_option linter.unusedSectionVars false
set_option linter.unusedSimpArgs false
set_option linter.unusedVariables false
section
open Go.RowKit
namespace Go.Sx
inductive Sh where
 |d
 |r (c0:Cont)
 |x (x0:XC)
 |p (l:List Sh)
 |f (g:Nat) (l:List Sh)
inductive SV where
 |c (x:Sh)
 |a (l:List Sh)
 |b (k:FloatKind) (e:Nat)
inductive Lf where
 |d (x:D)
 |n (k:FloatKind)
 |r (c:Cont)
 |x (x:XC)
 |b (k:FloatKind) (e:Nat) (r:List Nat)
def nilC:C→Bool
 | .d (.v (.slice none 0 0))=>true
 |_=>false
def jgR (hp:Hp) (h:Nat):Option (List C):=match find hp h with
 |some (.box _ cs)=>some cs
 |some (.ebox cs)=>some cs
 |_=>none
def isP:Sh→Bool
 | .p _=>true
 |_=>false
def jer (f:Sh→C→Option (List Lf × List C)):List Sh→List C→Option (List Lf × List C)
 |[],[]=>some ([],[])
 |s::l,c::cs=>match f s c,jer f l cs with
  |some (a,x),some (b,y)=>some (a++b,x++y)
  |_,_=>none
 |_,_=>none
def toC (hp:Hp):Nat→Sh→C→Option (List Lf × List C)
 |0,_,_=>none
 |n+1,s,c =>
  match s with
  | .d=>match c with
   | .d x=>some ([.d x],[])
   | .o h=>match find hp h with
    |some (.nan k)=>some ([.n k],[c])
    |_=>none
   |_=>none
  | .r c0=>match nilC c with
   |true=>match c0.n,c0.e with
    |0,_+1=>some ([.r c0],[c])
    |_,_=>none
   |false=>match c with
    | .o h=>match(find hp h).bind O.cont with
     |some x=>match x.e with
      |0=>none
      |_+1=>some ([.r x],[c])
     |none=>none
    |_=>none
  | .x x0=>match nilC c with
   |true=>match x0.n with
    |0=>some ([.x x0],[c])
    |_=>none
   |false=>match c with
    | .o h=>match(find hp h).bind O.xc with
     |some X=>match X.e with
      |0=>none
      |_+1=>some ([.x X],[c])
     |_=>none
    |_=>none
  | .p l=>match c with
   | .p h 0 _ 0=>match jgR hp h with
    |some cs=>(jer (toC hp n) l cs).map fun(a,x)=>(a,x++[c])
    |none=>none
   | .o h=>match jgR hp h with
    |some cs=>(jer (toC hp n) l cs).map fun(a,x)=>(a,x++[c])
    |none=>none
   |_=>none
  | .f g l=>match c with
   | .fn g' hs=>match Nat.beq g g',l.all isP with
    |true,true=>jer (toC hp n) l (hs.map C.o)
    |_,_=>none
   |_=>none
def toV (hp:Hp) (s:SV) (v:V):Option (List Lf × List C) :=
 match s,v with
 | .c s,.w (.c c)=>toC hp 8 s c
 | .a l,.w (.a cs)=>jer (toC hp 8) l cs
 | .b k e,.w (.b k' e' r)=>match jbE k k',Nat.beq e e' with
  |true,true=>some ([.b k e r],[])
  |_,_=>none
 | .b k e,.w (.a cs)=>match jdN k cs with
  |some r=>match Nat.beq e r.length with
   |true=>some ([.b k e r],[])
   |false=>none
  |none=>none
 |_,_=>none
def jjq (hp:Hp):List SV→List V→Option (List Lf × List C)
 |[],[]=>some ([],[])
 |s::l,v::vs=>match toV hp s v,jjq hp l vs with
  |some (a,x),some (b,y)=>some (a++b,x++y)
  |_,_=>none
 |_,_=>none
structure Bt where
 cs:List C
 hp:Hp
 n:Nat
 ls:List Lf
def jjr (f:Sh→Nat→List Lf→Option Bt):List Sh→Nat→List Lf→Option Bt
 |[],n,ls=>some ⟨[],[],n,ls⟩
 |s::l,n,ls=>match f s n ls with
  |some a=>match jjr f l a.n a.ls with
   |some b=>some ⟨a.cs++b.cs,b.hp++a.hp,b.n,b.ls⟩
   |none=>none
  |none=>none
def hOf:C→Nat
 | .p h _ _ _=>h
 | .o h=>h
 |_=>0
def jes:Nat→Sh→Nat→List Lf→Option Bt
 |0,_,_,_=>none
 |m+1,s,n,ls =>
  match s with
  | .d=>match ls with
   | .d x::r=>some ⟨[.d x],[],n,r⟩
   | .n k::r=>some ⟨[.o n],[(n,.nan k)],n+1,r⟩
   |_=>none
  | .r _=>match ls with
   | .r c::r=>some ⟨[.o n],[(n,.ext c)],n+1,r⟩
   |_=>none
  | .x _=>match ls with
   | .x X::r=>some ⟨[.o n],[(n,.xext X)],n+1,r⟩
   |_=>none
  | .p l=>match jjr (jes m) l n ls with
   |some b=>some ⟨[.p b.n 0 1 0],(b.n,.ebox b.cs)::b.hp,b.n+1,b.ls⟩
   |none=>none
  | .f g l=>match jjr (jes m) l n ls with
   |some b=>some ⟨[.fn g (b.cs.map hOf)],b.hp,b.n,b.ls⟩
   |none=>none
structure Bv where
 vs:List V
 hp:Hp
 n:Nat
 ls:List Lf
def jgn:List C→C
 |c::_=>c
 |[]=>.d (.v undef)
def jsu (s:SV) (n:Nat) (ls:List Lf):Option Bv :=
 match s with
 | .c s=>(jes 8 s n ls).map fun b=>⟨[.w (.c (jgn b.cs))],b.hp,b.n,b.ls⟩
 | .a l=>(jjr (jes 8) l n ls).map fun b=>⟨[.w (.a b.cs)],b.hp,b.n,b.ls⟩
 | .b _ _=>match ls with
  | .b k e r::q=>some ⟨[.w (.b k e r)],[],n,q⟩
  |_=>none
def jet:List SV→Nat→List Lf→Option Bv
 |[],n,ls=>some ⟨[],[],n,ls⟩
 |s::l,n,ls=>match jsu s n ls with
  |some a=>match jet l a.n a.ls with
   |some b=>some ⟨a.vs++b.vs,b.hp++a.hp,b.n,b.ls⟩
   |none=>none
  |none=>none
inductive RC where
 |d (x:D)
 |g (i:Nat)
 |row (ty:Nat) (c:Cont)
 |box (ty:Nat) (l:List RC)
 |rrow (c:Cont)
 |fe (c:Cont)
 |x (ty:Nat) (x:XC)
 |m (ty:Nat) (ts:List Nat) (x:XC)
inductive RR where
 |c (x:RC)
 |s (l:List RC)
 |b (k:FloatKind) (e:Nat) (r:List Nat)
inductive GT where
 |leaf (ob:Prop) (rs:List RR)
 |br (b:Bool) (x y:GT)
def GT.sel:GT→Prop × List RR
 | .leaf ob rs=>(ob,rs)
 | .br b x y=>match b with
  |true=>x.sel
  |false=>y.sel
structure Rt where
 cs:List C
 hp:Hp
 n:Nat
def rvL (f:RC→Nat→Rt):List RC→Nat→Rt
 |[],n=>⟨[],[],n⟩
 |r::l,n =>
  let a:=f r n
  let b:=rvL f l a.n
  ⟨a.cs++b.cs,b.hp++a.hp,b.n⟩
def rvC (am:List C):Nat→RC→Nat→Rt
 |0,_,n=>⟨[.d (.v undef)],[],n⟩
 |m+1,r,n =>
  match r with
  | .d x=>⟨[.d x],[],n⟩
  | .g i=>⟨[am.getD i (.d (.v undef))],[],n⟩
  | .row ty c=>⟨[.o n],[(n,.row ty c)],n+1⟩
  | .rrow c=>⟨[.o n],[(n,.rrow c)],n+1⟩
  | .fe c=>⟨[.o n],[(n,.fext c)],n+1⟩
  | .x ty X=>⟨[.o n],[(n,.xrow ty X)],n+1⟩
  | .m ty ts X=>⟨[.o n],[(n,.mrow ty ts X none)],n+1⟩
  | .box ty l =>
   let b:=rvL (rvC am m) l n
   ⟨[.p b.n 0 1 0],(b.n,.box ty b.cs)::b.hp,b.n+1⟩
structure Rw where
 ws:List W
 hp:Hp
 n:Nat
def rvR (am:List C) (r:RR) (n:Nat):Rw :=
 match r with
 | .c x=>let b:=rvC am 8 x n; ⟨[.c (jgn b.cs)],b.hp,b.n⟩
 | .s l=>let b:=rvL (rvC am 8) l n; ⟨[.a b.cs],b.hp,b.n⟩
 | .b k e r=>⟨[.b k e r],[],n⟩
def jcf (am:List C):List RR→Nat→Rw
 |[],n=>⟨[],[],n⟩
 |r::l,n =>
  let a:=rvR am r n
  let b:=jcf am l a.n
  ⟨a.ws++b.ws,b.hp++a.hp,b.n⟩
def GT.toRT (am:List C) (hp:Hp) (nx:Nat):GT→RT
 | .leaf ob rs=>let b:=jcf am rs nx; .leaf ⟨ob,jaU b.ws,b.hp++hp,b.n⟩
 | .br b x y=>.br b (x.toRT am hp nx) (y.toRT am hp nx)
def jal (shs:List SV) (g:List Lf→Option GT):Spec:=fun vs hp nx =>
 match jjq hp shs vs with
 |some (ls,am)=>match g ls with
  |some t=>some (t.toRT am hp nx)
  |none=>none
 |none=>none
def fitL (f:RC→C→List Nat→(List Nat→Prop)→Prop):List RC→List C→List Nat→(List Nat→Prop)→Prop
 |[],[],us,k=>k us
 |r::l,c::cs,us,k=>f r c us fun us=>fitL f l cs us k
 |_,_,_,_=>False
def jsv (n0:Nat) (hp:Hp):Nat→RC→C→List Nat→(List Nat→Prop)→Prop
 |0,_,_,_,_=>False
 |m+1,r,c,us,k =>
  match r,c with
  | .d x,.d y=>mD x y∧k us
  | .g i,.o h=>match Nat.beq i h,Nat.blt i n0 with
   |true,true=>k us
   |_,_=>False
  | .row ty c,.o h=>match us.contains h with
   |true=>False
   |false=>match find hp h with
    |some (.row ty' c')=>match Nat.beq ty' ty with
     |true=>jdH c c'∧k (h::us)
     |false=>False
    |_=>False
  | .row _ c,.d (.v (.slice none 0 0))=>Ob (c.n=0)∧k us
  | .rrow c,.o h=>match us.contains h with
   |true=>False
   |false=>match find hp h with
    |some (.rrow c')=>jdH c c'∧k (h::us)
    |_=>False
  | .rrow c,.d (.v (.slice none 0 0))=>Ob (c.n=0)∧k us
  | .fe c,.o h=>match us.contains h with
   |true=>False
   |false=>match find hp h with
    |some (.fext c')=>jdH c c'∧k (h::us)
    |_=>False
  | .fe c,.d (.v (.slice none 0 0))=>Ob (c.n=0)∧k us
  | .x ty X,.o h=>match us.contains h with
   |true=>False
   |false=>match find hp h with
    |some (.xrow ty' X')=>match Nat.beq ty' ty with
     |true=>mX X X'∧k (h::us)
     |false=>False
    |_=>False
  | .x _ X,.d (.v (.slice none 0 0))=>Ob (X.n=0)∧k us
  | .m ty ts X,.o h=>match us.contains h with
   |true=>False
   |false=>match find hp h with
    |some (.mrow ty' ts' X' none)=>match Nat.beq ty' ty,decide (ts'=ts)with
     |true,true=>mX X X'∧k (h::us)
     |_,_=>False
    |_=>False
  | .m _ _ X,.d (.v (.slice none 0 0))=>Ob (X.n=0)∧k us
  | .box ty l,.p h 0 _ 0=>match find hp h with
   |some (.box ty' cs)=>match Nat.beq ty' ty with
    |true=>fitL (jsv n0 hp m) l cs us fun us=>match us.contains h with
     |true=>False
     |false=>k (h::us)
    |false=>False
   |_=>False
  |_,_=>False
def fitR (n0:Nat) (hp:Hp) (r:RR) (w:W) (us:List Nat) (k:List Nat→Prop):Prop :=
 match r,w with
 | .c x,.c c=>jsv n0 hp 8 x c us k
 | .s l,.a cs=>fitL (jsv n0 hp 8) l cs us k
 | .b q e r,.b q' e' r'=>match jbE q q',Nat.beq e e' with
  |true,true=>Ob (r=r')∧k us
  |_,_=>False
 |_,_=>False
def jlZ (n0:Nat) (hp:Hp):List RR→List W→List Nat→Prop
 |[],[],_=>True
 |r::l,w::ws,us=>fitR n0 hp r w us fun us=>jlZ n0 hp l ws us
 |_,_,_=>False
def jfS (n0:Nat) (rs:List RR) (v:V) (hp:Hp):Prop:=match v with
 | .w u=>jlZ n0 hp rs [u] []
 | .t [_]=>False
 | .t l=>jlZ n0 hp rs l []
section
variable [Globs] {P:Program} {sp:jaa} {ρ:Env} {B:Kd} {nx:Nat} {hp:Hp} {w w':World}
theorem C.p_val {ρ:Env} {h i e j:Nat}:(C.p h i e j).val ρ=.pointer (some ⟨(base (ρ h)).block,(base (ρ h)).off+(i*e+j),none⟩):=rfl
structure BOK (ρ:Env) (w:World) (nx n:Nat) (ρ1 ρ2:Env) (rest:List Lf) (cs x:List C) (b:Bt):Prop where
 ls:b.ls=rest
 nn:b.n=n+x.length
 agree:jae n ρ1 ρ2
 val:b.cs.map (C.val ρ2)=cs.map (C.val ρ)
 lt:∀c∈b.cs,C.lt b.n c
 heap:∀h o,find b.hp h=some o→n≤h∧h<b.n∧o.lt b.n∧o.ok ρ2 (kd fun k=>k<w.heap.size) w h∧∀v,o.blk v=none
 own:∀i,i<x.length→ρ2 (n+i)=(x.getD i (.d (.v undef))).val ρ
 xlt:∀y∈x,C.lt nx y
 hnd:∀c∈b.cs,(∃m i e j,c=.p m i e j)→ρ2 (hOf c)=c.val ρ2∧hOf c<b.n
theorem BOK.append {n:Nat} {ρ1 ρ2 ρ3:Env} {r1 rest:List Lf} {c1 c2 x1 x2:List C} {b1 b2:Bt} (h1:BOK ρ w nx n ρ1 ρ2 r1 c1 x1 b1) (h2:BOK ρ w nx b1.n ρ2 ρ3 rest c2 x2 b2) :
  BOK ρ w nx n ρ1 ρ3 rest (c1++c2) (x1++x2) ⟨b1.cs++b2.cs,b2.hp++b1.hp,b2.n,b2.ls⟩:=by
 have hle:b1.n≤b2.n:=by rw[h2.nn];omega
 have hn1:n≤b1.n:=by rw[h1.nn];omega
 refine⟨h2.ls,?_,h1.agree.trans h2.agree hn1,?_,?_,?_,?_,?_,?_⟩
 ·show b2.n=_
  rw[h2.nn,h1.nn,List.length_append];omega
 ·simp only[List.map_append,h2.val]
  congr 1
  rw[←h1.val];exact List.map_congr_left fun c hc=>C.val_agree h2.agree (h1.lt c hc)
 ·intro c hc;rcases List.mem_append.1 hc with hc|hc
  ·exact C.lt_mono hle (h1.lt c hc)
  ·exact h2.lt c hc
 ·intro h o hf;have hf:find (b2.hp++b1.hp) h=some o:=hf;rw[jat]at hf;cases hg:find b2.hp h with
  |some o2 =>
   rw[hg]at hf;cases hf;obtain⟨a1,a2,a3,a4,a5⟩:=h2.heap h o hg;exact⟨Nat.le_trans hn1 a1,a2,a3,a4,a5⟩
  |none =>
   rw[hg]at hf;obtain⟨a1,a2,a3,a4,a5⟩:=h1.heap h o hf;exact⟨a1,Nat.lt_of_lt_of_le a2 hle,O.lt_mono hle a3,O.ok_agree h2.agree a2 a3 a4,a5⟩
 ·intro i hi
  by_cases hlt:i<x1.length
  ·rw[h2.agree (n+i) (by rw[h1.nn];omega),h1.own i hlt];simp[List.getD,List.getElem?_append_left hlt]
  ·have e1:n+i=b1.n+(i-x1.length):=by rw[h1.nn];omega
   rw[e1,h2.own (i-x1.length) (by simp at hi;omega)];simp[List.getD,List.getElem?_append_right (Nat.le_of_not_lt hlt)]
 ·intro y hy;rcases List.mem_append.1 hy with hy|hy
  ·exact h1.xlt y hy
  ·exact h2.xlt y hy
 ·intro c hc hp;rcases List.mem_append.1 hc with hc|hc
  ·obtain⟨a1,a2⟩:=h1.hnd c hc hp;exact⟨by rw[h2.agree _ a2,a1];exact(C.val_agree h2.agree (h1.lt c hc)).symm,Nat.lt_of_lt_of_le a2 hle⟩
  ·exact h2.hnd c hc hp
theorem BOK.nil {n:Nat} {ρ1:Env} {rest:List Lf}:BOK ρ w nx n ρ1 ρ1 rest [] [] ⟨[],[],n,rest⟩ :=
 ⟨rfl,rfl,jae.refl _ _,rfl,(fun _ h=>by cases h),(fun _ _ h=>by cases h),(fun _ h=>by cases h),(fun _ h=>by cases h),fun _ h=>by cases h⟩
def ToOK (ρ:Env) (w:World) (nx:Nat) (s:Sh) (c:C) (a:List Lf) (x:List C) (g:Sh→Nat→List Lf→Option Bt):Prop :=
 ∀(n:Nat) (ρ1:Env) (rest:List Lf),∃b ρ2,g s n (a++rest)=some b∧BOK ρ w nx n ρ1 ρ2 rest [c] x b
theorem jkT {f:Sh→C→Option (List Lf × List C)} {g:Sh→Nat→List Lf→Option Bt} (hf:∀s c a x,f s c=some (a,x)→C.lt nx c→ToOK ρ w nx s c a x g) :
  ∀(l:List Sh) (cs:List C) (a:List Lf) (x:List C),jer f l cs=some (a,x)→(∀c∈cs,C.lt nx c)→∀(n:Nat) (ρ1:Env) (rest:List Lf),∃b ρ2,jjr g l n (a++rest)=some b∧BOK ρ w nx n ρ1 ρ2 rest cs x b
 |[],[],a,x,h,_,n,ρ1,rest=>by
  simp only[jer,Option.some.injEq,Prod.mk.injEq]at h;obtain⟨rfl,rfl⟩:=h;exact⟨_,ρ1,rfl,BOK.nil⟩
 |s::l,c::cs,a,x,h,hlt,n,ρ1,rest=>by
  simp only[jer]at h;split at h
  ·rename_i a1 x1 a2 x2 h1 h2;cases h;obtain⟨b1,ρ2,e1,k1⟩:=hf s c a1 x1 h1 (hlt c List.mem_cons_self) n ρ1 (a2++rest);obtain⟨b2,ρ3,e2,k2⟩:=jkT hf l cs a2 x2 h2 (fun c hc=>hlt c (List.mem_cons_of_mem _ hc)) b1.n ρ2 rest;refine⟨_,ρ3,?_,k1.append k2⟩;rw[List.append_assoc];simp only[jjr,e1,k1.ls,e2]
  ·cases h
 |[],_::_,_,_,h,_,_,_,_=>by simp[jer]at h
 |_::_,[],_,_,h,_,_,_,_=>by simp[jer]at h
theorem jqu {c:C} (h:nilC c=true):c=.d (.v (.slice none 0 0)):=by
 unfold nilC at h;split at h
 ·rfl
 ·cases h
theorem jjX (hh:HRel ρ B hp nx w) (hB:Old B w) {h:Nat} {cs:List C} (hc:jgR hp h=some cs) :
  h<nx∧(∀c∈cs,C.lt nx c)∧∃k o,ρ h=.pointer (some ⟨k,o,none⟩)∧k<w.heap.size∧∀j c,cs[j]?=some c→w.cell? ⟨k,o+j,none⟩=some (c.val ρ):=by
 unfold jgR at hc;split at hc
 ·rename_i ty cs' hf;cases hc;obtain⟨h1,h2,g,h3,h4,h5⟩:=hh.ok h _ hf;refine⟨h1,h2,g,0,h3,(Array.getElem?_eq_some_iff.1 h5).1,fun j c hj=>?_⟩;rw[Nat.zero_add,cell_of_row w g _ _ ty (0,0) h5];simp[hj]
 ·rename_i cs' hf;cases hc;obtain⟨h1,h2,g,o,h3,h4,h5⟩:=hh.ok h _ hf;exact⟨h1,h2,g,o,h3,hB g (.inl h4),h5⟩
 ·cases hc
theorem BOK.one {n:Nat} {ρ1:Env} {rest:List Lf} {c:C} {o:O} (hc:C.lt nx c) (hl:o.lt (n+1)) (hb:∀v,o.blk v=none) (ho:o.ok (upd ρ1 n (c.val ρ)) (kd fun k=>k<w.heap.size) w n) :
  BOK ρ w nx n ρ1 (upd ρ1 n (c.val ρ)) rest [c] [c] ⟨[.o n],[(n,o)],n+1,rest⟩:=by
 refine⟨rfl,rfl,jah _ _ _,by simp[C.val],?_,?_,?_,?_,?_⟩
 ·intro c' hc';simp only[List.mem_singleton]at hc';subst hc';exact Nat.lt_succ_self n
 ·intro h o' hf;simp only[find]at hf;split at hf
  ·rename_i e;subst e;cases hf;exact⟨Nat.le_refl _,Nat.lt_succ_self _,hl,ho,hb⟩
  ·cases hf
 ·intro i hi;simp at hi;subst hi;simp
 ·intro y hy;simp only[List.mem_singleton]at hy;subst hy;exact hc
 ·rintro c' hc' ⟨m,i,e,j,rfl⟩;simp at hc'
theorem jxW {m:Nat}:∀(l:List Sh) (n:Nat) (ls:List Lf) (b:Bt),l.all isP=true→jjr (jes m) l n ls=some b→∀c∈b.cs,∃q i e j,c=C.p q i e j
 |[],n,ls,b,_,h=>by simp only[jjr,Option.some.injEq]at h;subst h;exact fun _ h=>by cases h
 |s::l,n,ls,b,hp,h=>by
  simp only[List.all_cons,Bool.and_eq_true]at hp;simp only[jjr]at h;split at h
  ·rename_i a ha;split at h
   ·rename_i b2 hb2;cases h;intro c hc;rcases List.mem_append.1 hc with hc|hc
    ·cases m with
     |zero=>simp[jes]at ha
     |succ m =>
      cases s with
      |p l2 =>
       simp only[jes]at ha;split at ha
       ·cases ha;simp only[List.mem_singleton]at hc;exact⟨_,_,_,_,hc⟩
       ·cases ha
      |_=>simp[isP]at hp
    ·exact jxW l _ _ b2 hp.2 hb2 c hc
   ·cases h
  ·cases h
theorem jnj (hh:HRel ρ B hp nx w) (hB:Old B w):∀(m:Nat) (s:Sh) (c:C) (a:List Lf) (x:List C),toC hp m s c=some (a,x)→C.lt nx c→ToOK ρ w nx s c a x (jes m)
 |0,_,_,_,_,h,_=>by simp[toC]at h
 |m+1,s,c,a,x,h,hc=>by
  intro n ρ1 rest;have ih:=jkT (f:=toC hp m) (g:=jes m) (fun s c a x h hc=>jnj hh hB m s c a x h hc);cases s with
  |d =>
   simp only[toC]at h;split at h
   ·cases h;refine⟨_,ρ1,rfl,rfl,rfl,jae.refl _ _,rfl,?_,(fun _ _ h=>by cases h),(fun _ h=>by cases h),(fun _ h=>by cases h),?_⟩
    ·intro c hc;simp only[List.mem_singleton]at hc;subst hc;trivial
    ·rintro c hc ⟨_,_,_,_,rfl⟩;simp at hc
   ·rename_i h0;split at h
    ·rename_i k hf;cases h;have hok:=(hh.ok h0 _ hf).2.2;exact⟨_,_,rfl,BOK.one hc trivial (fun _=>rfl) (by unfold O.ok;rw[upd_same];exact hok)⟩
    ·cases h
   ·cases h
  |r c0 =>
   simp only[toC]at h;split at h
   ·rename_i hn;have hn:=jqu hn;subst hn;split at h
    ·rename_i e hn0 he;cases h;refine⟨_,_,rfl,BOK.one (c:=.d (.v (.slice none 0 0))) hc trivial (fun _=>rfl) ?_⟩;refine⟨⟨none,0,by rw[upd_same,hn0];rfl,⟨by omega,fun _=>rfl⟩,fun hp=>by omega⟩,fun a' n' cap hv=>?_⟩;rw[upd_same]at hv;cases hv
    ·cases h
   ·split at h
    ·rename_i h0 _;split at h
     ·rename_i x hx;split at h
      ·cases h
      ·rename_i e he;cases h;cases hf:find hp h0 with
       |none=>simp[hf]at hx
       |some o =>
        simp only[hf,Option.bind_some]at hx;have hrow:=jaR (hh.ok h0 o hf).2.2 hx;exact⟨_,_,rfl,BOK.one hc trivial (fun _=>rfl) ⟨by rw[upd_same];exact hrow,by rw[upd_same];exact hrow.lt (by omega)⟩⟩
     ·cases h
    ·cases h
  |x x0 =>
   simp only[toC]at h;split at h
   ·rename_i hn;have hn:=jqu hn;subst hn;split at h
    ·rename_i hn0;cases h;refine⟨_,_,rfl,BOK.one (c:=.d (.v (.slice none 0 0))) hc trivial (fun _=>rfl) ?_⟩;exact⟨none,0,by rw[upd_same,hn0];rfl,⟨by omega,fun _=>rfl⟩,fun hp=>by omega⟩
    ·cases h
   ·split at h
    ·rename_i h0 _;split at h
     ·rename_i X hf;obtain⟨ox,hf,hxc⟩:=Option.bind_eq_some_iff.1 hf;split at h
      ·cases h
      rename_i e he;cases h;obtain⟨a1,cap,hv1,hc1,hx1⟩:=jeI (hh.ok h0 _ hf).2.2 hxc;refine⟨_,_,rfl,BOK.one (o:=.xext X) hc trivial (fun _=>rfl) ?_⟩;refine⟨a1,cap,by rw[upd_same];exact hv1,hc1,fun hn=>?_⟩;obtain⟨b,off,rfl,hcell⟩:=hx1 hn
      ·obtain⟨u,hu,_⟩:=hcell 0 0 hn (by omega);exact⟨b,off,rfl,World.block_lt_of_cell? w _ hu,fun i j hi hj=>let ⟨u,hu,hux⟩:=hcell i j hi hj; ⟨u,hu,NC.at_mono (fun k hk=>hB k hk) hux⟩⟩
     ·cases h
    ·cases h
  |p l =>
   have key:∀(h0:Nat) (cs:List C),jgR hp h0=some cs→c.val ρ=ρ h0→(jer (toC hp m) l cs).map (fun(a,x)=>(a,x++[c]))=some (a,x) →
     ∃b ρ2,jes (m+1) (.p l) n (a++rest)=some b∧BOK ρ w nx n ρ1 ρ2 rest [c] x b:=by
    intro h0 cs hbc hcv ht;obtain⟨⟨a',x'⟩,ht',he⟩:=Option.map_eq_some_iff.1 ht;cases he;obtain⟨hlt0,hcl,k,o,hk,hks,hcell⟩:=jjX hh hB hbc;obtain⟨b,ρ2,e,q⟩:=ih l cs a x' ht' hcl n ρ1 rest;have hag:jae b.n ρ2 (upd ρ2 b.n (c.val ρ)):=jah _ _ _;have hnb:n≤b.n:=by rw[q.nn];omega
    refine⟨⟨[.p b.n 0 1 0],(b.n,.ebox b.cs)::b.hp,b.n+1,b.ls⟩,upd ρ2 b.n (c.val ρ),by simp only[jes,e],q.ls,?_,q.agree.trans hag hnb,?_,?_,?_,?_,?_,?_⟩
    ·show b.n+1=_
     rw[q.nn];simp;omega
    ·simp only[List.map_cons,List.map_nil,C.p_val,upd_same];rw[hcv,hk];simp[base]
    ·intro c' hc';simp only[List.mem_singleton]at hc';subst hc';exact Nat.lt_succ_self _
    ·intro h' o' hf;simp only[find]at hf;split at hf
     ·rename_i e2;subst e2;cases hf;refine⟨hnb,Nat.lt_succ_self _,fun y hy=>C.lt_mono (Nat.le_succ _) (q.lt y hy),⟨k,o,by rw[upd_same,hcv];exact hk,hks,fun j y hj=>?_⟩,fun _=>rfl⟩;rw[C.val_agree hag (q.lt y (List.mem_of_getElem? hj))];have h1:(b.cs.map (C.val ρ2))[j]?=some (y.val ρ2):=by rw[List.getElem?_map,hj];rfl
      rw[q.val,List.getElem?_map]at h1;obtain⟨y',hy',he'⟩:=Option.map_eq_some_iff.1 h1;rw[←he'];exact hcell j y' hy'
     ·obtain⟨a1,a2,a3,a4,a5⟩:=q.heap h' o' hf;exact⟨a1,Nat.lt_succ_of_lt a2,O.lt_mono (Nat.le_succ _) a3,O.ok_agree hag a2 a3 a4,a5⟩
    ·intro i hi
     by_cases hlt:i<x'.length
     ·rw[hag (n+i) (by rw[q.nn];omega),q.own i hlt];simp[List.getD,List.getElem?_append_left hlt]
     ·have e3:i=x'.length:=by simp at hi;omega
      subst e3;rw[←q.nn,upd_same];simp[List.getD]
    ·intro y hy;rcases List.mem_append.1 hy with hy|hy
     ·exact q.xlt y hy
     ·simp only[List.mem_singleton]at hy;subst hy;exact hc
    ·intro c' hc' _;simp only[List.mem_singleton]at hc';subst hc';refine⟨?_,Nat.lt_succ_self _⟩;simp only[hOf,C.p_val,upd_same];rw[hcv,hk];simp[base]
   simp only[toC]at h;split at h
   ·rename_i h0 e0;split at h
    ·rename_i cs hbc;refine key h0 cs hbc ?_ h;obtain⟨_,_,k,o,hk,_⟩:=jjX hh hB hbc;simp[C.val,hk,base]
    ·cases h
   ·rename_i h0;split at h
    ·rename_i cs hbc;exact key h0 cs hbc rfl h
    ·cases h
   ·cases h
  |f g l =>
   simp only[toC]at h;split at h
   ·rename_i g' hs;split at h
    ·rename_i hg hip;have hg:=Nat.eq_of_beq_eq_true hg;subst hg
     have hcl:∀y∈hs.map C.o,C.lt nx y:=fun y hy=>by
      obtain⟨z,hz,rfl⟩:=List.mem_map.1 hy;exact hc z hz
     obtain⟨b,ρ2,e,q⟩:=ih l _ a x h hcl n ρ1 rest;have hbp:=jxW l n (a++rest) b hip e;refine⟨⟨[.fn g (b.cs.map hOf)],b.hp,b.n,b.ls⟩,ρ2,by simp only[jes,e],q.ls,q.nn,q.agree,?_,?_,q.heap,q.own,q.xlt,?_⟩
     ·simp only[List.map_cons,List.map_nil,C.val]
      have:(b.cs.map hOf).map ρ2=hs.map ρ:=by
       have h1:=q.val;rw[List.map_map]at h1 ⊢;have h2:b.cs.map (ρ2 ∘ hOf)=b.cs.map (C.val ρ2):=List.map_congr_left fun y hy=>(q.hnd y hy (hbp y hy)).1;rw[h2,h1];exact List.map_congr_left fun y hy=>rfl
      rw[this]
     ·intro y hy;simp only[List.mem_singleton]at hy;subst hy;intro z hz;obtain⟨y,hy,rfl⟩:=List.mem_map.1 hz;exact(q.hnd y hy (hbp y hy)).2
     ·rintro y hy ⟨_,_,_,_,rfl⟩;simp at hy
    ·cases h
   ·cases h
structure BVOK (ρ:Env) (w:World) (nx n:Nat) (ρ1 ρ2:Env) (rest:List Lf) (vs:List V) (x:List C) (b:Bv):Prop where
 ls:b.ls=rest
 nn:b.n=n+x.length
 agree:jae n ρ1 ρ2
 val:b.vs.map (V.val ρ2)=vs.map (V.val ρ)
 lt:∀c∈b.vs,V.lt b.n c
 heap:∀h o,find b.hp h=some o→n≤h∧h<b.n∧o.lt b.n∧o.ok ρ2 (kd fun k=>k<w.heap.size) w h∧∀v,o.blk v=none
 own:∀i,i<x.length→ρ2 (n+i)=(x.getD i (.d (.v undef))).val ρ
 xlt:∀y∈x,C.lt nx y
theorem BVOK.append {n:Nat} {ρ1 ρ2 ρ3:Env} {r1 rest:List Lf} {c1 c2:List V} {x1 x2:List C} {b1 b2:Bv} (h1:BVOK ρ w nx n ρ1 ρ2 r1 c1 x1 b1) (h2:BVOK ρ w nx b1.n ρ2 ρ3 rest c2 x2 b2) :
  BVOK ρ w nx n ρ1 ρ3 rest (c1++c2) (x1++x2) ⟨b1.vs++b2.vs,b2.hp++b1.hp,b2.n,b2.ls⟩:=by
 have hle:b1.n≤b2.n:=by rw[h2.nn];omega
 have hn1:n≤b1.n:=by rw[h1.nn];omega
 refine⟨h2.ls,?_,h1.agree.trans h2.agree hn1,?_,?_,?_,?_,?_⟩
 ·show b2.n=_
  rw[h2.nn,h1.nn,List.length_append];omega
 ·simp only[List.map_append,h2.val]
  congr 1
  rw[←h1.val];exact List.map_congr_left fun c hc=>V.val_agree h2.agree (h1.lt c hc)
 ·intro c hc;rcases List.mem_append.1 hc with hc|hc
  ·exact V.lt_mono hle (h1.lt c hc)
  ·exact h2.lt c hc
 ·intro h o hf;have hf:find (b2.hp++b1.hp) h=some o:=hf;rw[jat]at hf;cases hg:find b2.hp h with
  |some o2 =>
   rw[hg]at hf;cases hf;obtain⟨a1,a2,a3,a4,a5⟩:=h2.heap h o hg;exact⟨Nat.le_trans hn1 a1,a2,a3,a4,a5⟩
  |none =>
   rw[hg]at hf;obtain⟨a1,a2,a3,a4,a5⟩:=h1.heap h o hf;exact⟨a1,Nat.lt_of_lt_of_le a2 hle,O.lt_mono hle a3,O.ok_agree h2.agree a2 a3 a4,a5⟩
 ·intro i hi
  by_cases hlt:i<x1.length
  ·rw[h2.agree (n+i) (by rw[h1.nn];omega),h1.own i hlt];simp[List.getD,List.getElem?_append_left hlt]
  ·have e1:n+i=b1.n+(i-x1.length):=by rw[h1.nn];omega
   rw[e1,h2.own (i-x1.length) (by simp at hi;omega)];simp[List.getD,List.getElem?_append_right (Nat.le_of_not_lt hlt)]
 ·intro y hy;rcases List.mem_append.1 hy with hy|hy
  ·exact h1.xlt y hy
  ·exact h2.xlt y hy
theorem jzA (hh:HRel ρ B hp nx w) (hB:Old B w) {s:SV} {v:V} {a:List Lf} {x:List C} (h:toV hp s v=some (a,x)) (hv:V.lt nx v) (n:Nat) (ρ1:Env) (rest:List Lf) :
  ∃b ρ2,jsu s n (a++rest)=some b∧BVOK ρ w nx n ρ1 ρ2 rest [v] x b:=by
 unfold toV at h;split at h
 ·rename_i s c;obtain⟨b,ρ2,e,q⟩:=jnj hh hB 8 s c a x h hv n ρ1 rest;have hlen:b.cs.length=1:=by have:=congrArg List.length q.val;simpa using this
  obtain⟨c',hc'⟩:∃c',b.cs=[c']:=by
   match hb:b.cs,hlen with
   |[c'],_=>exact⟨c',rfl⟩
  have hval:=q.val;have hlt:=q.lt;rw[hc']at hval hlt;refine⟨⟨[.w (.c (jgn b.cs))],b.hp,b.n,b.ls⟩,ρ2,by simp only[jsu,e,Option.map_some],q.ls,q.nn,q.agree,?_,?_,q.heap,q.own,q.xlt⟩
  ·simp only[hc',jgn,List.map_cons,List.map_nil,V.val,W.val];simpa using hval
  ·intro y hy;simp only[List.mem_singleton]at hy;subst hy;rw[hc'];exact hlt c' List.mem_cons_self
 ·rename_i l cs;obtain⟨b,ρ2,e,q⟩:=jkT (f:=toC hp 8) (g:=jes 8) (fun s c a x h hc=>jnj hh hB 8 s c a x h hc) l cs a x h hv n ρ1 rest;refine⟨⟨[.w (.a b.cs)],b.hp,b.n,b.ls⟩,ρ2,by simp only[jsu,e,Option.map_some],q.ls,q.nn,q.agree,?_,?_,q.heap,q.own,q.xlt⟩
  ·simp only[List.map_cons,List.map_nil,V.val,W.val,q.val]
  ·intro y hy;simp only[List.mem_singleton]at hy;subst hy;exact q.lt
 ·rename_i k e k' e' r;split at h
  ·rename_i hk he;have hk:=jbr hk;have he:=Nat.eq_of_beq_eq_true he;subst hk;subst he;cases h;refine⟨_,ρ1,rfl,rfl,rfl,jae.refl _ _,rfl,?_,(fun _ _ h=>by cases h),(fun _ h=>by cases h),fun _ h=>by cases h⟩;intro y hy;simp only[List.mem_singleton]at hy;subst hy;trivial
  ·cases h
 ·rename_i k e cs;split at h
  ·rename_i r hr;split at h
   ·rename_i he;have he:=Nat.eq_of_beq_eq_true he;subst he;cases h;refine⟨_,ρ1,rfl,rfl,rfl,jae.refl _ _,?_,?_,(fun _ _ h=>by cases h),(fun _ h=>by cases h),fun _ h=>by cases h⟩
    ·simp only[List.map_cons,List.map_nil,V.val,W.val,ju2,jkv hr]
    ·intro y hy;simp only[List.mem_singleton]at hy;subst hy;trivial
   ·cases h
  ·cases h
 ·cases h
theorem jhw (hh:HRel ρ B hp nx w) (hB:Old B w):∀(l:List SV) (vs:List V) (a:List Lf) (x:List C),jjq hp l vs=some (a,x)→(∀v∈vs,V.lt nx v)→∀(n:Nat) (ρ1:Env) (rest:List Lf),
  ∃b ρ2,jet l n (a++rest)=some b∧BVOK ρ w nx n ρ1 ρ2 rest vs x b
 |[],[],a,x,h,_,n,ρ1,rest=>by
  simp only[jjq,Option.some.injEq,Prod.mk.injEq]at h;obtain⟨rfl,rfl⟩:=h;exact⟨_,ρ1,rfl,rfl,rfl,jae.refl _ _,rfl,(fun _ h=>by cases h),(fun _ _ h=>by cases h),(fun _ h=>by cases h),fun _ h=>by cases h⟩
 |s::l,v::vs,a,x,h,hlt,n,ρ1,rest=>by
  simp only[jjq]at h;split at h
  ·rename_i a1 x1 a2 x2 h1 h2;cases h;obtain⟨b1,ρ2,e1,k1⟩:=jzA hh hB h1 (hlt v List.mem_cons_self) n ρ1 (a2++rest);obtain⟨b2,ρ3,e2,k2⟩:=jhw hh hB l vs a2 x2 h2 (fun c hc=>hlt c (List.mem_cons_of_mem _ hc)) b1.n ρ2 rest;refine⟨_,ρ3,?_,k1.append k2⟩;rw[List.append_assoc];simp only[jet,e1,k1.ls,e2]
  ·cases h
 |[],_::_,_,_,h,_,_,_,_=>by simp[jjq]at h
 |_::_,[],_,_,h,_,_,_,_=>by simp[jjq]at h
theorem jhx {k h:Nat} {o:O} {hp:Hp}:find ((k,o)::hp) h=if k=h then some o else find hp h:=rfl
structure CIn (ρ ρ':Env) (B:Kd) (hp hp':Hp) (n m n0:Nat) (am:List C) (w':World) (us:List Nat):Prop where
 heap:HRel ρ B hp n w'
 ap:∀k o b,find hp k=some o→o.blk (ρ k)=some b→b<m∨∃u∈us,∃ou,find hp' u=some ou∧ou.blk (ρ' u)=some b
 am:∀i,i<n0→C.lt n (am.getD i (.d (.v undef)))∧(am.getD i (.d (.v undef))).val ρ=ρ' i
structure COut (ρ ρ2 ρ':Env) (B:Kd) (hp hp':Hp) (n m:Nat) (w':World) (us us2:List Nat) (vals:List Value) (r:Rt):Prop where
 agree:jae n ρ ρ2
 heap:HRel ρ2 B (r.hp++hp) r.n w'
 le:n≤r.n
 val:r.cs.map (C.val ρ2)=vals
 lt:∀c∈r.cs,C.lt r.n c
 ap:∀k o b,find (r.hp++hp) k=some o→o.blk (ρ2 k)=some b→b<m∨∃u∈us2,∃ou,find hp' u=some ou∧ou.blk (ρ' u)=some b
 fresh:∀h o b,find r.hp h=some o→o.blk (ρ2 h)=some b→m≤b
 keys:∀h o,find r.hp h=some o→n≤h
 sub:∀u∈us,u∈us2
variable {ρ':Env} {hp':Hp} {m n0:Nat} {am:List C}
theorem CIn.next {ρ2:Env} {n:Nat} {us us2:List Nat} {vals:List Value} {r:Rt} (h:CIn ρ ρ' B hp hp' n m n0 am w' us) (k:COut ρ ρ2 ρ' B hp hp' n m w' us us2 vals r):CIn ρ2 ρ' B (r.hp++hp) hp' r.n m n0 am w' us2 :=
 ⟨k.heap,k.ap,fun i hi=>⟨C.lt_mono k.le (h.am i hi).1,by rw[C.val_agree k.agree (h.am i hi).1];exact(h.am i hi).2⟩⟩
theorem COut.append {ρ2 ρ3:Env} {n:Nat} {us us2 us3:List Nat} {v1 v2:List Value} {r1 r2:Rt} (h:COut ρ ρ2 ρ' B hp hp' n m w' us us2 v1 r1) (k:COut ρ2 ρ3 ρ' B (r1.hp++hp) hp' r1.n m w' us2 us3 v2 r2) :
  COut ρ ρ3 ρ' B hp hp' n m w' us us3 (v1++v2) ⟨r1.cs++r2.cs,r2.hp++r1.hp,r2.n⟩:=by
 refine⟨h.agree.trans k.agree h.le,by rw[List.append_assoc];exact k.heap,Nat.le_trans h.le k.le,?_,?_,?_,?_,?_,fun u hu=>k.sub u (h.sub u hu)⟩
 ·simp only[List.map_append,k.val]
  congr 1
  rw[←h.val];exact List.map_congr_left fun c hc=>C.val_agree k.agree (h.lt c hc)
 ·intro c hc;rcases List.mem_append.1 hc with hc|hc
  ·exact C.lt_mono k.le (h.lt c hc)
  ·exact k.lt c hc
 ·intro q o b hf hb;have hf:find (r2.hp++r1.hp++hp) q=some o:=hf;rw[List.append_assoc]at hf;exact k.ap q o b hf hb
 ·intro q o b hf hb;have hf:find (r2.hp++r1.hp) q=some o:=hf;rw[jat]at hf;cases hg:find r2.hp q with
  |some o2=>rw[hg]at hf;cases hf;exact k.fresh q o b hg hb
  |none =>
   rw[hg]at hf;have hf:find r1.hp q=some o:=hf
   have hq:q<r1.n:=by
    have:find (r1.hp++hp) q=some o:=by rw[jat,hf];rfl
    exact(h.heap.ok q o this).1
   rw[k.agree q hq]at hb;exact h.fresh q o b hf hb
 ·intro q o hf;have hf:find (r2.hp++r1.hp) q=some o:=hf;rw[jat]at hf;cases hg:find r2.hp q with
  |some o2=>rw[hg]at hf;cases hf;exact Nat.le_trans h.le (k.keys q o hg)
  |none=>rw[hg]at hf;exact h.keys q o hf
theorem COut.data {n:Nat} {us:List Nat} {c:C} {v:Value} (h:CIn ρ ρ' B hp hp' n m n0 am w' us) (hc:C.lt n c) (hv:c.val ρ=v):COut ρ ρ ρ' B hp hp' n m w' us us [v] ⟨[c],[],n⟩:=by
 refine⟨jae.refl _ _,h.heap,Nat.le_refl _,by simp[hv],?_,h.ap,(fun _ _ _ h=>by cases h),(fun _ _ h=>by cases h),fun u hu=>hu⟩;intro y hy;simp only[List.mem_singleton]at hy;subst hy;exact hc
theorem COut.obj {Bc:Kd} {n q:Nat} {us:List Nat} {o oq:O} {c:C} {v:Value} (hm:∀k,k<m→Bc.kp k) (hB:∀k,B.all k→Bc.all k) (hF:∀k,Bc.fr k→B.fr k) (hM:Bc.LeM B) (hh':HRel ρ' Bc hp' nx w') (h:CIn ρ ρ' B hp hp' n m n0 am w' us)
  (hq:find hp' q=some oq) (hus:us.contains q=false) (hl:o.lt (n+1)) (ho:(∀k,o.blk (ρ' q)=some k→¬B.all k)→o.ok (upd ρ n (ρ' q)) B w' n) (hb:∀k,o.blk (ρ' q)=some k→oq.blk (ρ' q)=some k)
  (hc:C.lt (n+1) c) (hcv:c.val (upd ρ n (ρ' q))=v):COut ρ (upd ρ n (ρ' q)) ρ' B hp hp' n m w' us (q::us) [v] ⟨[c],[(n,o)],n+1⟩:=by
 have hge:∀k,o.blk (ρ' q)=some k→m≤k:=fun k hk=>by
  have:=(O.blk_lt (hh'.ok q oq hq).2.2 (hb k hk)).2;exact Nat.le_of_not_lt fun hlt=>this (.inl (hm k hlt))
 have hnB:∀k,o.blk (ρ' q)=some k→¬B.all k:=fun k hk hBk=>(O.blk_lt (hh'.ok q oq hq).2.2 (hb k hk)).2 (hB k hBk);refine⟨jah _ _ _,?_,Nat.le_succ n,by simp[hcv],?_,?_,?_,?_,fun u hu=>List.mem_cons_of_mem _ hu⟩
 ·refine h.heap.add1 hl (ho hnB) fun k o' b hk hbk he=>?_;rcases h.ap k o' b hk hbk with hlt|⟨u,hu,ou,hou,hbu⟩
  ·have:=hge b he;omega
  ·have hne:u≠q:=fun e=>by
    subst e;have:us.contains u=true:=by simpa using hu
    rw[this]at hus;cases hus
   exact hh'.apart u ou q oq b hou hq hne hbu (hb b he)
 ·intro y hy;simp only[List.mem_singleton]at hy;subst hy;exact hc
 ·intro k o' b hf hbk;have hf2:find ((n,o)::hp) k=some o':=hf;clear hf;have hf:=hf2;clear hf2;rw[jhx]at hf;split at hf
  ·rename_i e;subst e;cases hf;rw[upd_same]at hbk;exact .inr ⟨q,List.mem_cons_self,oq,hq,hb b hbk⟩
  ·have hk:=(h.heap.ok k o' hf).1;rw[jah ρ n (ρ' q) k hk]at hbk;rcases h.ap k o' b hf hbk with hlt|⟨u,hu,ou,hou,hbu⟩
   ·exact .inl hlt
   ·exact .inr ⟨u,List.mem_cons_of_mem _ hu,ou,hou,hbu⟩
 ·intro k o' b hf hbk;simp only[find]at hf;split at hf
  ·rename_i e;subst e;cases hf;rw[upd_same]at hbk;exact hge b hbk
  ·cases hf
 ·intro k o' hf;simp only[find]at hf;split at hf
  ·rename_i e;omega
  ·cases hf
theorem COut.nilO {n:Nat} {us:List Nat} {o:O} (hin:CIn ρ ρ' B hp hp' n m n0 am w' us) (hl:o.lt (n+1)) (ho:o.ok (upd ρ n (.slice none 0 0)) B w' n) (hb:o.blk (.slice none 0 0)=none) :
  COut ρ (upd ρ n (.slice none 0 0)) ρ' B hp hp' n m w' us us [.slice none 0 0] ⟨[.o n],[(n,o)],n+1⟩:=by
 refine⟨jah _ _ _,?_,Nat.le_succ n,by simp[C.val],?_,?_,?_,?_,fun u hu=>hu⟩
 ·exact hin.heap.add1 hl ho (fun _ _ _ _ _ he=>by rw[hb]at he;cases he)
 ·intro y hy;simp only[List.mem_singleton]at hy;subst hy;exact Nat.lt_succ_self n
 ·intro k' o' b hf hbk;have hf2:find ((n,o)::hp) k'=some o':=hf;clear hf;have hf:=hf2;clear hf2;rw[jhx]at hf;split at hf
  ·rename_i e;subst e;cases hf;rw[upd_same,hb]at hbk;cases hbk
  ·have hk':=(hin.heap.ok k' o' hf).1;rw[jah ρ n _ k' hk']at hbk;exact hin.ap k' o' b hf hbk
 ·intro k' o' b hf hbk;simp only[find]at hf;split at hf
  ·rename_i e;subst e;cases hf;rw[upd_same,hb]at hbk;cases hbk
  ·cases hf
 ·intro k' o' hf;simp only[find]at hf;split at hf
  ·omega
  ·cases hf
def jAN (ρ':Env) (B:Kd) (hp':Hp) (m n0:Nat) (am:List C) (w':World) (f:RC→C→List Nat→(List Nat→Prop)→Prop) (g:RC→Nat→Rt):Prop :=
 ∀(r:RC) (c:C) (us:List Nat) (k:List Nat→Prop),f r c us k→∀(n:Nat) (hp:Hp) (ρ:Env),CIn ρ ρ' B hp hp' n m n0 am w' us →
  ∃us2 ρ2,k us2∧COut ρ ρ2 ρ' B hp hp' n m w' us us2 [c.val ρ'] (g r n)
theorem jkU {f:RC→C→List Nat→(List Nat→Prop)→Prop} {g:RC→Nat→Rt} (hf:jAN ρ' B hp' m n0 am w' f g):∀(l:List RC) (cs:List C) (us:List Nat) (k:List Nat→Prop),fitL f l cs us k→∀(n:Nat) (hp:Hp) (ρ:Env),CIn ρ ρ' B hp hp' n m n0 am w' us →
  ∃us2 ρ2,k us2∧COut ρ ρ2 ρ' B hp hp' n m w' us us2 (cs.map (C.val ρ')) (rvL g l n)
 |[],[],us,k,h,n,hp,ρ,hin=>⟨us,ρ,h,jae.refl _ _,hin.heap,Nat.le_refl _,rfl,(fun _ h=>by cases h),hin.ap,(fun _ _ _ h=>by cases h),(fun _ _ h=>by cases h),fun u hu=>hu⟩
 |r::l,c::cs,us,k,h,n,hp,ρ,hin=>by
  obtain⟨us2,ρ2,h2,k2⟩:=hf r c us _ h n hp ρ hin;obtain⟨us3,ρ3,h3,k3⟩:=jkU hf l cs us2 k h2 (g r n).n _ ρ2 (hin.next k2);exact⟨us3,ρ3,h3,k2.append k3⟩
 |[],_::_,_,_,h,_,_,_,_=>h.elim
 |_::_,[],_,_,h,_,_,_,_=>h.elim
theorem jkV {Bc:Kd} (hm:∀k,k<m→Bc.kp k) (hB:∀k,B.all k→Bc.all k) (hF:∀k,Bc.fr k→B.fr k) (hM:Bc.LeM B) (hh':HRel ρ' Bc hp' nx w'):∀(q:Nat),jAN ρ' B hp' m n0 am w' (jsv n0 hp' q) (rvC am q)
 |0=>fun _ _ _ _ h=>h.elim
 |q+1=>by
  intro r c us k h n hp ρ hin;unfold jsv at h;split at h
  ·rename_i x y;have e:=jlW h.1;subst e;exact⟨us,ρ,h.2,COut.data hin trivial rfl⟩
  ·rename_i i h0;split at h
   ·rename_i e1 e2;have e1:=Nat.eq_of_beq_eq_true e1;subst e1;have hi:i<n0:=by simpa [Nat.blt_eq]using e2
    exact⟨us,ρ,h,COut.data hin (hin.am i hi).1 (hin.am i hi).2⟩
   ·exact h.elim
  ·rename_i ty c0 h0;split at h
   ·exact h.elim
   ·rename_i hus;split at h
    ·rename_i ty' c' hf;split at h
     ·rename_i hty;have hty:=Nat.eq_of_beq_eq_true hty;subst hty;have hc:=jbI h.1;subst hc;refine⟨_,_,h.2,COut.obj (q:=h0) (o:=.row ty' c0) hm hB hF hM hh' hin hf hus trivial (fun hnB=>?_) (fun k hk=>hk) (show C.lt (n+1) (.o n)from Nat.lt_succ_self n) (by simp[C.val])⟩;have hok:=(hh'.ok h0 _ hf).2.2;exact⟨by rw[upd_same];exact hok.1,fun k hk=>by rw[upd_same]at hk;exact hnB k hk⟩
     ·exact h.elim
    ·exact h.elim
  ·rename_i ty c0;obtain⟨⟨hn0⟩,hk⟩:=h;refine⟨us,upd ρ n (.slice none 0 0),hk,?_⟩;refine⟨jah _ _ _,?_,Nat.le_succ n,by simp[C.val,D.val,rvC],?_,?_,?_,?_,fun u hu=>hu⟩
   ·refine hin.heap.add1 (o:=.row ty c0) trivial ?_ (fun _ _ _ _ _ he=>by simp[O.blk,Value.ownBlock]at he);refine⟨⟨by simp[Cont.flat_length,hn0],.inl ⟨by rw[upd_same],hn0⟩⟩,fun k hk=>by rw[upd_same]at hk;simp[Value.ownBlock]at hk⟩
   ·intro y hy;simp only[rvC,List.mem_singleton]at hy;subst hy;exact Nat.lt_succ_self n
   ·intro k' o' b hf hbk;have hf2:find ((n,O.row ty c0)::hp) k'=some o':=hf;clear hf;have hf:=hf2;clear hf2;rw[jhx]at hf;split at hf
    ·rename_i e;subst e;cases hf;rw[upd_same]at hbk;simp[O.blk,Value.ownBlock]at hbk
    ·have hk':=(hin.heap.ok k' o' hf).1;rw[jah ρ n _ k' hk']at hbk;exact hin.ap k' o' b hf hbk
   ·intro k' o' b hf hbk;simp only[rvC,find]at hf;split at hf
    ·rename_i e;subst e;cases hf;rw[upd_same]at hbk;simp[O.blk,Value.ownBlock]at hbk
    ·cases hf
   ·intro k' o' hf;simp only[rvC,find]at hf;split at hf
    ·omega
    ·cases hf
  ·rename_i c0 h0;split at h
   ·exact h.elim
   ·rename_i hus;split at h
    ·rename_i c' hf;have hc:=jbI h.1;subst hc;refine⟨_,_,h.2,COut.obj (q:=h0) (o:=.rrow c0) hm hB hF hM hh' hin hf hus trivial (fun hnB=>?_) (fun k hk=>hk) (show C.lt (n+1) (.o n)from Nat.lt_succ_self n) (by simp[C.val])⟩;have hok:=(hh'.ok h0 _ hf).2.2;exact⟨by rw[upd_same];exact hok.1,fun k hk=>by rw[upd_same]at hk;exact⟨hnB k hk,(hok.2 k hk).2⟩⟩
    ·exact h.elim
  ·rename_i c0;obtain⟨⟨hn0⟩,hk⟩:=h;refine⟨us,upd ρ n (.slice none 0 0),hk,?_⟩;refine⟨jah _ _ _,?_,Nat.le_succ n,by simp[C.val,D.val,rvC],?_,?_,?_,?_,fun u hu=>hu⟩
   ·refine hin.heap.add1 (o:=.rrow c0) trivial ?_ (fun _ _ _ _ _ he=>by simp[O.blk,Value.ownBlock]at he);refine⟨⟨none,0,by rw[upd_same,hn0],⟨by omega,fun _=>rfl⟩,fun h=>by omega⟩,fun k hk=>by rw[upd_same]at hk;simp[Value.ownBlock]at hk⟩
   ·intro y hy;simp only[rvC,List.mem_singleton]at hy;subst hy;exact Nat.lt_succ_self n
   ·intro k' o' b hf hbk;have hf2:find ((n,O.rrow c0)::hp) k'=some o':=hf;clear hf;have hf:=hf2;clear hf2;rw[jhx]at hf;split at hf
    ·rename_i e;subst e;cases hf;rw[upd_same]at hbk;simp[O.blk,Value.ownBlock]at hbk
    ·have hk':=(hin.heap.ok k' o' hf).1;rw[jah ρ n _ k' hk']at hbk;exact hin.ap k' o' b hf hbk
   ·intro k' o' b hf hbk;simp only[rvC,find]at hf;split at hf
    ·rename_i e;subst e;cases hf;rw[upd_same]at hbk;simp[O.blk,Value.ownBlock]at hbk
    ·cases hf
   ·intro k' o' hf;simp only[rvC,find]at hf;split at hf
    ·omega
    ·cases hf
  ·rename_i c0 h0;split at h
   ·exact h.elim
   ·rename_i hus;split at h
    ·rename_i c' hf;have hc:=jbI h.1;subst hc;refine⟨_,_,h.2,COut.obj (q:=h0) (o:=.fext c0) hm hB hF hM hh' hin hf hus trivial (fun hnB=>?_) (fun k hk=>by cases hk) (show C.lt (n+1) (.o n)from Nat.lt_succ_self n) (by simp[C.val])⟩;have hok:=(hh'.ok h0 _ hf).2.2;exact⟨by rw[upd_same];exact hok.1,by rw[upd_same];exact jaO hF hok.2⟩
    ·exact h.elim
  ·rename_i c0;obtain⟨⟨hn0⟩,hk⟩:=h;exact⟨us,upd ρ n (.slice none 0 0),hk,COut.nilO hin trivial ⟨⟨none,0,by rw[upd_same,hn0],⟨by omega,fun _=>rfl⟩,fun h=>by omega⟩,fun a n' cap hv _=>by rw[upd_same]at hv;cases hv⟩ rfl⟩
  ·rename_i ty X h0;split at h
   ·exact h.elim
   ·rename_i hus;split at h
    ·rename_i ty' X' hf;split at h
     ·rename_i hty;have hty:=Nat.eq_of_beq_eq_true hty;subst hty;have hc:=jis h.1;subst hc;refine⟨_,_,h.2,COut.obj (q:=h0) (o:=.xrow ty' X) hm hB hF hM hh' hin hf hus trivial (fun hnB=>?_) (fun k hk=>hk) (show C.lt (n+1) (.o n)from Nat.lt_succ_self n) (by simp[C.val])⟩;obtain⟨us1,q1,q2,q3⟩:=(hh'.ok h0 _ hf).2.2;exact⟨us1,by rw[upd_same];exact q1,fun i j hi hj=>let ⟨u,hu,hux⟩:=q2 i j hi hj; ⟨u,hu,NC.at_mono hF hux⟩,fun k hk=>by rw[upd_same]at hk;exact hnB k hk⟩
     ·exact h.elim
    ·exact h.elim
  ·rename_i ty X;obtain⟨⟨hn0⟩,hk⟩:=h;exact⟨us,upd ρ n (.slice none 0 0),hk,COut.nilO hin trivial ⟨[],by rw[upd_same,hn0];exact World.ownsRow_nil w' 0 ty X.e,(fun i j hi=>by omega),fun k hk=>by rw[upd_same]at hk;cases hk⟩ rfl⟩
  ·rename_i ty ts X h0;split at h
   ·exact h.elim
   ·rename_i hus;split at h
    ·rename_i ty' ts' X' hf;split at h
     ·rename_i hty hts;have hty:=Nat.eq_of_beq_eq_true hty;subst hty;have hts:=of_decide_eq_true hts;subst hts;have hc:=jis h.1;subst hc;refine⟨_,_,h.2,COut.obj (q:=h0) (o:=.mrow ty' ts' X none) hm hB hF hM hh' hin hf hus trivial (fun hnB=>?_) (fun k hk=>hk) (show C.lt (n+1) (.o n)from Nat.lt_succ_self n) (by simp[C.val])⟩;obtain⟨us1,q1,q2,q3,q4⟩:=(hh'.ok h0 _ hf).2.2;exact⟨us1,by rw[upd_same];exact q1,fun i j hi hj hn=>let ⟨u,hu,hux⟩:=q2 i j hi hj hn; ⟨u,hu,by rw[upd_same];exact NC.own_mono hM hux⟩,q3,fun k hk=>by rw[upd_same]at hk;exact hnB k hk⟩
     ·exact h.elim
    ·exact h.elim
  ·rename_i ty ts X;obtain⟨⟨hn0⟩,hk⟩:=h;exact⟨us,upd ρ n (.slice none 0 0),hk,COut.nilO hin trivial ⟨[],by rw[upd_same,hn0];exact World.ownsRow_nil w' 0 ty X.e,(fun i j hi=>by omega),(fun i j i' j' u v k hi=>by omega),fun k hk=>by rw[upd_same]at hk;cases hk⟩ rfl⟩
  ·rename_i ty l h0 e0;split at h
   ·rename_i ty' cs hf;split at h
    ·rename_i hty;have hty:=Nat.eq_of_beq_eq_true hty;subst hty;obtain⟨us2,ρ2,h2,k2⟩:=jkU (jkV hm hB hF hM hh' q) l cs us _ h n hp ρ hin;have hin2:=hin.next k2;split at h2
     ·exact h2.elim
     ·rename_i hus;have hok:=(hh'.ok h0 _ hf).2.2;obtain⟨g,h3,h4,h5⟩:=hok
      have hobj:=COut.obj (q:=h0) (o:=.box ty' (rvL (rvC am q) l n).cs) (c:=.p (rvL (rvC am q) l n).n 0 1 0) (v:=ρ' h0) hm hB hF hM hh' hin2 hf hus (fun y hy=>C.lt_mono (Nat.le_succ _) (k2.lt y hy)) (fun hnB=>?_) (fun k hk=>hk)
       (show C.lt ((rvL (rvC am q) l n).n+1) (.p (rvL (rvC am q) l n).n 0 1 0)from Nat.lt_succ_self _) (by simp[C.val,h3,base])
      ·refine⟨h0::us2,upd ρ2 (rvL (rvC am q) l n).n (ρ' h0),h2,?_⟩;have hap:=k2.append hobj;refine⟨hap.agree,hap.heap,hap.le,?_,?_,hap.ap,hap.fresh,hap.keys,hap.sub⟩
       ·have hv:=hobj.val;simp only[List.map_cons,List.map_nil]at hv;simp only[rvC,List.map_cons,List.map_nil];rw[hv];simp[C.val,h3,base]
       ·intro y hy;simp only[rvC,List.mem_singleton]at hy;subst hy;exact Nat.lt_succ_self _
      ·refine⟨g,by rw[upd_same];exact h3,?_,?_⟩
       ·exact hnB g (by simp[O.blk,h3,base])
       ·rw[h5]
        congr 3
        have hv:=k2.val;rw[←hv];exact List.map_congr_left fun y hy=>(C.val_agree (jah ρ2 _ _) (k2.lt y hy)).symm
    ·exact h.elim
   ·exact h.elim
  ·exact h.elim
structure WOut (ρ ρ2 ρ':Env) (B:Kd) (hp hp':Hp) (n m:Nat) (w':World) (us us2:List Nat) (vals:List Value) (r:Rw):Prop where
 agree:jae n ρ ρ2
 heap:HRel ρ2 B (r.hp++hp) r.n w'
 le:n≤r.n
 val:r.ws.map (W.val ρ2)=vals
 lt:∀c∈r.ws,W.lt r.n c
 ap:∀k o b,find (r.hp++hp) k=some o→o.blk (ρ2 k)=some b→b<m∨∃u∈us2,∃ou,find hp' u=some ou∧ou.blk (ρ' u)=some b
 fresh:∀h o b,find r.hp h=some o→o.blk (ρ2 h)=some b→m≤b
 keys:∀h o,find r.hp h=some o→n≤h
theorem jxX {Bc:Kd} (hm:∀k,k<m→Bc.kp k) (hB:∀k,B.all k→Bc.all k) (hF:∀k,Bc.fr k→B.fr k) (hM:Bc.LeM B) (hh':HRel ρ' Bc hp' nx w') {r:RR} {x:W} {us:List Nat} {k:List Nat→Prop} (h:fitR n0 hp' r x us k) {n:Nat} {hp:Hp} {ρ:Env} (hin:CIn ρ ρ' B hp hp' n m n0 am w' us) :
  ∃us2 ρ2,k us2∧WOut ρ ρ2 ρ' B hp hp' n m w' us us2 [x.val ρ'] (rvR am r n):=by
 unfold fitR at h;split at h
 ·rename_i rc c;obtain⟨us2,ρ2,h2,k2⟩:=jkV hm hB hF hM hh' 8 rc c us k h n hp ρ hin;have hlen:(rvC am 8 rc n).cs.length=1:=by have:=congrArg List.length k2.val;simpa using this
  obtain⟨c',hc'⟩:∃c',(rvC am 8 rc n).cs=[c']:=by
   match hb:(rvC am 8 rc n).cs,hlen with
   |[c'],_=>exact⟨c',rfl⟩
  have hval:=k2.val;have hlt:=k2.lt;rw[hc']at hval hlt;refine⟨us2,ρ2,h2,k2.agree,k2.heap,k2.le,?_,?_,k2.ap,k2.fresh,k2.keys⟩
  ·simp only[rvR,hc',jgn,List.map_cons,List.map_nil,W.val];simpa using hval
  ·intro y hy;simp only[rvR,List.mem_singleton]at hy;subst hy;rw[hc'];exact hlt c' List.mem_cons_self
 ·rename_i l cs;obtain⟨us2,ρ2,h2,k2⟩:=jkU (jkV hm hB hF hM hh' 8) l cs us k h n hp ρ hin;refine⟨us2,ρ2,h2,k2.agree,k2.heap,k2.le,?_,?_,k2.ap,k2.fresh,k2.keys⟩
  ·simp only[rvR,List.map_cons,List.map_nil,W.val,k2.val]
  ·intro y hy;simp only[rvR,List.mem_singleton]at hy;subst hy;exact k2.lt
 ·rename_i q e r' q' e' r'';split at h
  ·rename_i hk he;have hk:=jbr hk;have he:=Nat.eq_of_beq_eq_true he;subst hk;subst he;obtain⟨⟨rfl⟩,hk⟩:=h;refine⟨us,ρ,hk,jae.refl _ _,hin.heap,Nat.le_refl _,rfl,?_,hin.ap,(fun _ _ _ h=>by cases h),fun _ _ h=>by cases h⟩;intro y hy;simp only[rvR,List.mem_singleton]at hy;subst hy;trivial
  ·exact h.elim
 ·exact h.elim
theorem jjs {Bc:Kd} (hm:∀k,k<m→Bc.kp k) (hB:∀k,B.all k→Bc.all k) (hF:∀k,Bc.fr k→B.fr k) (hM:Bc.LeM B) (hh':HRel ρ' Bc hp' nx w'):∀(l:List RR) (ws:List W) (us:List Nat),jlZ n0 hp' l ws us→∀(n:Nat) (hp:Hp) (ρ:Env),CIn ρ ρ' B hp hp' n m n0 am w' us →
  ∃us2 ρ2,WOut ρ ρ2 ρ' B hp hp' n m w' us us2 (ws.map (W.val ρ')) (jcf am l n)
 |[],[],us,h,n,hp,ρ,hin=>⟨us,ρ,jae.refl _ _,hin.heap,Nat.le_refl _,rfl,(fun _ h=>by cases h),hin.ap,(fun _ _ _ h=>by cases h),fun _ _ h=>by cases h⟩
 |r::l,x::ws,us,h,n,hp,ρ,hin=>by
  obtain⟨us2,ρ2,h2,k2⟩:=jxX hm hB hF hM hh' h hin;have hin2:CIn ρ2 ρ' B ((rvR am r n).hp++hp) hp' (rvR am r n).n m n0 am w' us2:=⟨k2.heap,k2.ap,fun i hi=>⟨C.lt_mono k2.le (hin.am i hi).1,by rw[C.val_agree k2.agree (hin.am i hi).1];exact(hin.am i hi).2⟩⟩
  obtain⟨us3,ρ3,k3⟩:=jjs hm hB hF hM hh' l ws us2 h2 (rvR am r n).n _ ρ2 hin2;refine⟨us3,ρ3,k2.agree.trans k3.agree k2.le,by simp only[jcf];rw[List.append_assoc];exact k3.heap,Nat.le_trans k2.le k3.le,?_,?_,?_,?_,?_⟩
  ·simp only[jcf,List.map_append,k3.val,List.map_cons]
   have:(rvR am r n).ws.map (W.val ρ3)=[x.val ρ']:=by
    rw[←k2.val];exact List.map_congr_left fun c hc=>W.val_agree k3.agree (k2.lt c hc)
   rw[this];rfl
  ·intro c hc;simp only[jcf]at hc;rcases List.mem_append.1 hc with hc|hc
   ·exact W.lt_mono k3.le (k2.lt c hc)
   ·exact k3.lt c hc
  ·intro q o b hf hb;simp only[jcf]at hf;rw[List.append_assoc]at hf;exact k3.ap q o b hf hb
  ·intro q o b hf hb;simp only[jcf]at hf;rw[jat]at hf;cases hg:find (jcf am l (rvR am r n).n).hp q with
   |some o2=>rw[hg]at hf;cases hf;exact k3.fresh q o b hg hb
   |none =>
    rw[hg]at hf;have hf:find (rvR am r n).hp q=some o:=hf
    have hq:q<(rvR am r n).n:=by
     have:find ((rvR am r n).hp++hp) q=some o:=by rw[jat,hf];rfl
     exact(k2.heap.ok q o this).1
    rw[k3.agree q hq]at hb;exact k2.fresh q o b hf hb
  ·intro q o hf;simp only[jcf]at hf;rw[jat]at hf;cases hg:find (jcf am l (rvR am r n).n).hp q with
   |some o2=>rw[hg]at hf;cases hf;exact Nat.le_trans k2.le (k3.keys q o hg)
   |none=>rw[hg]at hf;exact k2.keys q o hf
 |[],_::_,_,h,_,_,_,_=>h.elim
 |_::_,[],_,h,_,_,_,_=>h.elim
theorem jby {am:List C} {hp:Hp} {nx:Nat}:∀t:GT,(t.toRT am hp nx).sel=⟨t.sel.1,jaU (jcf am t.sel.2 nx).ws,(jcf am t.sel.2 nx).hp++hp,(jcf am t.sel.2 nx).n⟩
 | .leaf ob rs=>rfl
 | .br b x y=>by
  cases b
  ·exact jby y
  ·exact jby x
theorem jqv {f:Nat} {fn:Func} {body:Code} {shs:List SV} {g:List Lf→Option GT} (hf:P.funcs[f]?=some fn) (hb:fn.body=some body) (hn:(fn.name == "runtime.NumGoroutine")=false)
  (h:∀ls t,g ls=some t→t.sel.1→∀b:Bv,jet shs 0 ls=some b→∀(ρ0:Env) (w:World),(∀x∈b.vs,V.lt b.n x)→HRel ρ0 (kd fun k=>k<w.heap.size) b.hp b.n w →
   Calls P f (b.vs.map (V.val ρ0)).toArray w fun e w'=>∃ρ' v hp' nx',e=.returned (v.val ρ')∧v.lt nx'∧jae b.n ρ0 ρ'∧(∃B',Grow (kd fun k=>k<w.heap.size) B' false w' w'∧HRel ρ' B' hp' nx' w')∧Bel (kd fun k=>k<w.heap.size) w w'∧Old (kd fun k=>k<w.heap.size) w'∧jfS b.n t.sel.2 v hp') :
  jaf P f true (jal shs g):=by
 refine .inl ⟨jcu hf hb hn,fun ρ B w args hp nx t hS hob hlt hh hB=>?_⟩;unfold jal at hS;split at hS
 ·rename_i ls am hto;split at hS
  ·rename_i t' hg;cases hS;rw[jby]at hob ⊢;have hob:t'.sel.1:=hob;obtain⟨b,ρ0,hbl,q⟩:=jhw hh hB shs args ls am hto hlt 0 (fun _=>undef) [];rw[List.append_nil]at hbl;have hbn:b.n=am.length:=by have:=q.nn;omega
   have hh0:HRel ρ0 (kd fun k=>k<w.heap.size) b.hp b.n w:=by
    refine⟨fun x o hf=>?_,fun x o x' o' k hf hf' _ hb=>?_,jjp hh.glob hB⟩
    ·obtain⟨_,a2,a3,a4,_⟩:=q.heap x o hf;exact⟨a2,a3,a4⟩
    ·obtain⟨_,_,_,_,a5⟩:=q.heap x o hf;rw[a5]at hb;cases hb
   have hcalls:=h ls t' hg hob b hbl ρ0 w q.lt hh0;rw[q.val]at hcalls;refine hcalls.mono ?_;rintro e w' ⟨ρ',v,hp',nx',rfl,hvlt,hag,⟨Bc,gB,hh'⟩,hbel,hold,hfit⟩;have hbw:Below w.heap.size w w':=hbel.below;have hBc:Old Bc w':=gB.old hold
   have hfr:∀k,Bc.fr k→w.heap.size≤k:=fun k hk=>by
    rcases gB.out k hk with h1|h1
    ·exact h1.elim
    ·exact Nat.le_of_not_lt h1
   have hmu:∀k,Bc.mu k≠none→w.heap.size≤k:=fun k hk=>Nat.le_of_not_lt fun hlt=>hk (Bc.dis k (gB.le.kp k hlt))
   let Bn:Kd:=⟨fun k=>B.kp k∨Bc.fr k,fun k=>B.fr k∨Bc.fr k,fun k=>match B.mu k with|some g=>some g|none=>Bc.mu k,fun k hk=>hk.imp (B.sub k) id,fun k hk=>by
    have h1:B.mu k=none:=by
     rcases hk with hk|hk
     ·exact B.dis k hk
     ·have h2:=hfr k hk;cases hm2:B.mu k with
      |none=>rfl
      |some g=>exact absurd (hB k (.inr (by rw[hm2];simp))) (Nat.not_lt_of_le h2)
    have h2:Bc.mu k=none:=by
     rcases hk with hk|hk
     ·exact Bc.dis k (gB.le.kp k (hB k (.inl hk)))
     ·exact Bc.dis k (Bc.sub k hk)
    show(match B.mu k with|some g=>some g|none=>Bc.mu k)=none
    rw[h1,h2]⟩
   have hmn:∀k,Bn.mu k=match B.mu k with|some g=>some g|none=>Bc.mu k:=fun _=>rfl
   have hBn:B.Le Bn:=⟨fun k hk=>.inl hk,fun k hk=>.inl hk⟩
   have hBm:B.LeM Bn:=fun k g hk=>by rw[hmn,hk]
   have hna:∀k,Bn.all k→B.all k∨(w.heap.size≤k∧Bc.all k):=fun k hk=>by
    rcases hk with (hk|hk)|hk
    ·exact .inl (.inl hk)
    ·exact .inr ⟨hfr k hk,.inl (Bc.sub k hk)⟩
    ·rw[hmn]at hk;cases hm2:B.mu k with
     |none=>rw[hm2]at hk;exact .inr ⟨hmu k hk,.inr hk⟩
     |some g=>exact .inl (.inr (by rw[hm2];simp))
   have gn:Grow B Bn true w w':=⟨hBn,fun k hk=>(hna k hk).imp id fun h=>hBc k h.2,fun k hk=>hk.imp id fun h hb=>absurd (hB k (.inl hb)) (Nat.not_lt_of_le (hfr k h)),fun _=>⟨fun k hk=>(hna k hk).imp id fun h=>h.1,hBm⟩⟩
   have hh1:HRel ρ Bn hp nx w':=(hh.below hbw hB).moreB hBn hBm fun h o k hf hk hb=>by
    have h1:=O.blk_lt (hh.ok h o hf).2.2 hk;rcases hna k hb with hb|hb
    ·exact h1.2 hb
    ·exact absurd h1.1 (Nat.not_lt_of_le hb.1)
   obtain⟨ws,hws,hfw⟩:∃ws,(jaU ws).val ρ'=v.val ρ'∧jlZ b.n hp' t'.sel.2 ws []:=by
    match v,hfit with
    | .w u,hfit=>exact⟨[u],rfl,hfit⟩
    | .t [],hfit=>exact⟨[],rfl,hfit⟩
    | .t (x::y::l),hfit=>exact⟨x::y::l,rfl,hfit⟩
   have hin:CIn ρ ρ' Bn hp hp' nx w.heap.size b.n am w' []:=by
    refine⟨hh1,fun k o b hk hbk=>.inl (O.blk_lt (hh.ok k o hk).2.2 hbk).1,fun i hi=>?_⟩;have hi2:i<am.length:=by omega
    have h1:=q.own i hi2;rw[Nat.zero_add]at h1;refine⟨?_,by rw[hag i hi];exact h1.symm⟩;have:am.getD i (.d (.v undef))=am[i]:=by simp[List.getD,hi2]
    rw[this];exact q.xlt _ (List.getElem_mem hi2)
   obtain⟨us2,ρ2,k⟩:=jjs (B:=Bn) (m:=w.heap.size) (fun k hk=>gB.le.kp k hk) (fun k hk=>(hna k hk).elim (fun h=>.inl (gB.le.kp k (hB k h))) (fun h=>h.2)) (fun k hk=>.inr hk) (fun k g hk=>by
    rw[hmn];cases hm2:B.mu k with
    |none=>exact hk
    |some g'=>exact absurd (hB k (.inr (by rw[hm2];simp))) (Nat.not_lt_of_le (hmu k (by rw[hk];simp)))) hh' t'.sel.2 ws [] hfw nx hp ρ hin
   refine⟨ρ2,?_,k.agree,jeR k.lt,k.le,⟨Bn,gn,k.heap⟩,jb9 hbw hB,fun _=>hbw,fun _ h o b hle hf hbk=>?_⟩
   ·show Ending.returned _=Ending.returned ((jaU (jcf am t'.sel.2 nx).ws).val ρ2)
    rw[←hws,jcN,jcN];simp only[k.val]
   ·have hf:find ((jcf am t'.sel.2 nx).hp++hp) h=some o:=hf;rw[jat]at hf;cases hg2:find (jcf am t'.sel.2 nx).hp h with
    |some o2=>rw[hg2]at hf;cases hf;exact k.fresh h o b hg2 hbk
    |none =>
     rw[hg2]at hf;have:=(hh.ok h o hf).1;omega
  ·cases hS
 ·cases hS
theorem jaA {f:Nat} {fn:Func} {body:Code} {shs:List SV} {g:List Lf→Option GT} (hm:P.follows .mixedOrders=true) (hsp:jac P sp) (hf:P.funcs[f]?=some fn) (hb:fn.body=some body) (hn:(fn.name == "runtime.NumGoroutine")=false)
  (h:∀ls t,g ls=some t→t.sel.1→∀b:Bv,jet shs 0 ls=some b→b.vs.length≤fn.ntmps∧∃fuel loops,sx P sp fn.ntmps b.n fuel loops (jb1 P sp fn.ntmps) body 0 [] ⟨jbZ 0 b.vs,b.hp,b.n⟩ (jcb P fn.results.toList fun v hp _=>jfS b.n t.sel.2 v hp)) :
  jaf P f true (jal shs g) :=
 jqv hf hb hn fun ls t hg ho b hbl ρ0 w hlt hh=>by
  obtain⟨hlen,fuel,loops,hx⟩:=h ls t hg ho b hbl;exact jsk (n0:=b.n) (B:=kd fun k=>k<w.heap.size) hsp (fun ρ w=>jbx hm hsp) hf hb hlen hx hlt (Nat.le_refl _) ρ0 w hh (fun k hk=>jaW.1 hk)
end
end Go.Sx
end

section
open Go.RowKit
namespace Go.Sx
end Go.Sx
end

section
namespace Go.Sx
def jak {X Y:Type} (body:X→Option (X ⊕ Y)):Nat→X→Option Y
 |0,_=>none
 |n+1,x=>match body x with
  |none=>none
  |some (.inl x')=>jak body n x'
  |some (.inr y)=>some y
def big:Nat:=18446744073709551616
def jwc {X Y R:Type} (body:X→Option (X ⊕ Y)) (n:Nat) (K:Y→Option R):X ⊕ Y→Option R
 | .inl x=>(jak body n x).bind K
 | .inr y=>K y
def ok {α:Type} (o:Option α):Prop:=o.isSome=true
instance {α : Type} (o : Option α) : Decidable (ok o) := inferInstanceAs (Decidable (o.isSome = true))
def val {α:Type} [Inhabited α] (o:Option α):α:=o.getD default
theorem jaq {α:Type} [Inhabited α] {o:Option α} (h:ok o):o.bind some=some (val o):=by
 cases o with
 |none=>cases h
 |some x=>rfl
theorem jgo {α:Type} {o:Option α} {x:α} (h:o=some x):ok o:=by subst h;rfl
theorem joy {α:Type} [Inhabited α] {o:Option α} {x:α} (h:o=some x):val o=x:=by subst h;rfl
variable {X Y R S A:Type} {g:S→Option R} {r:R} {p q:Prop}
theorem br_d {c:Prop} [Decidable c] {x y:Option S} (h:(if c then x else y).bind g=some r) (hx:x.bind g=some r→p) (hy:y.bind g=some r→q):Br (decide c) p q:=by
 by_cases hc:c
 ·rw[if_pos hc]at h;rw[decide_eq_true hc];exact hx h
 ·rw[if_neg hc]at h;rw[decide_eq_false hc];exact hy h
theorem br_b {b:Bool} {x y:Option S} (h:(if b=true then x else y).bind g=some r) (hx:x.bind g=some r→p) (hy:y.bind g=some r→q):Br b p q:=by
 cases b
 ·exact hy h
 ·exact hx h
theorem ob_s {c:Prop} [Decidable c] {x:Option S} (h:(if c then x else none).bind g=some r) (hx:x.bind g=some r→p):Ob c∧p:=by
 by_cases hc:c
 ·rw[if_pos hc]at h;exact⟨⟨hc⟩,hx h⟩
 ·rw[if_neg hc]at h;cases h
theorem jBM [Inhabited A] {e:Option A} {f:A→Option S} (h:(e.bind f).bind g=some r) (hx:(f (val e)).bind g=some r→p):Ob (ok e)∧p:=by
 cases e with
 |none=>cases h
 |some a=>exact⟨⟨rfl⟩,hx h⟩
theorem jBN {body:X→Option (X ⊕ Y)} {n:Nat} {x:X} {rest:Y→Option S} (h:((jak body n x).bind rest).bind g=some r):(jak body n x).bind (fun y=>(rest y).bind g)=some r:=by
 rw[←h];cases jak body n x<;>rfl
theorem jzB {body:X→Option (X ⊕ Y)} {n:Nat} {x:X} {K:Y→Option R} (h:(jak body n x).bind K=some r):∃m,n=m+1∧(body x).bind (jwc body m K)=some r:=by
 cases n with
 |zero=>cases h
 |succ m =>
  refine⟨m,rfl,?_⟩;rw[←h];unfold jak;cases body x with
  |none=>rfl
  |some z=>cases z<;>rfl
theorem jxY {body:X→Option (X ⊕ Y)} {n:Nat} {x:X} {K:Y→Option R} (h:(some (Sum.inl x)).bind (jwc body n K)=some r):(jak body n x).bind K=some r:=h
theorem jAO {n m:Nat} (h:n+1=m):n<m:=by omega
end Go.Sx
end

section
namespace Go.Sx
theorem jaL {x:Int} (h:-9223372036854775808≤x∧x≤9223372036854775807):IntKind.i64.wrap x=x:=IntWalk.i64_in _ (by omega)
theorem jsw {X Y:Type} {body:X→Option (X ⊕ Y)} (f:Nat→X) {y:Y}:∀(k:Nat) (s:Nat) (N:Nat),(∀i,s≤i→i<s+k→body (f i)=some (.inl (f (i+1))))→body (f (s+k))=some (.inr y)→k<N→jak body N (f s)=some y
 |0,s,0,_,_,h=>absurd h (by omega)
 |0,s,N+1,_,hy,_=>by
  unfold jak;rw[Nat.add_zero]at hy;rw[hy]
 |k+1,s,0,_,_,h=>absurd h (by omega)
 |k+1,s,N+1,h,hy,hN=>by
  unfold jak;rw[h s (Nat.le_refl _) (by omega)];exact jsw f k (s+1) N (fun i h1 h2=>h i (by omega) (by omega)) (by rw[show s+1+k=s+(k+1) by omega];exact hy) (by omega)
theorem jcL {X Y:Type} {body:X→Option (X ⊕ Y)} (f:Nat→X) {y:Y} {k:Nat} (h:∀i,i<k→body (f i)=some (.inl (f (i+1)))) (hy:body (f k)=some (.inr y)) (hk:k<18446744073709551616):jak body big (f 0)=some y :=
 jsw f k 0 big (fun i _ h2=>h i (by omega)) (by rw[Nat.zero_add];exact hy) hk
theorem jbK {α Y:Type} (l:List α) (d:α) (P:α→Bool) {body:Int→Option (Int ⊕ Y)} (hit:Nat→Y) (miss:Y) (hlen:l.length<9223372036854775807)
  (h1:∀i,i<l.length→P (l.getD i d)=true→body (i:Int)=some (.inr (hit i)))
  (h2:∀i,i<l.length→P (l.getD i d)=false→body (i:Int)=some (.inl ((i:Int)+1))) (h3:body (l.length:Int)=some (.inr miss)) :
  jak body big 0=some (match l.findIdx? P with|some i=>hit i|none=>miss):=by
 cases hf:l.findIdx? P with
 |none =>
  rw[List.findIdx?_eq_none_iff]at hf;refine jcL (fun i=>(i:Int)) (k:=l.length) (fun i hi=>?_) h3 (by omega);have:=h2 i hi (by simpa [List.getD,hi]using hf l[i] (List.getElem_mem _));rw[this];rfl
 |some k =>
  rw[List.findIdx?_eq_some_iff_getElem]at hf;obtain⟨hk,hp,hbef⟩:=hf;refine jcL (fun i=>(i:Int)) (k:=k) (fun i hi=>?_) (h1 k hk (by simpa [List.getD,hk]using hp)) (by omega);have hil:i<l.length:=by omega
  have:=h2 i hil (by simpa [List.getD,hil]using hbef i hi);rw[this];rfl
def inI (n:Int):Prop:=-9223372036854775808≤n∧n≤9223372036854775807
theorem jad {α β:Type} (x:α) (f:α→Option β):(some x).bind f=f x:=rfl
theorem jcv {α Y:Type} (l:List α) (d:α) (P:α→Bool) {body:Int→Option (Int ⊕ Y)} (hit miss:Y) (hlen:l.length<9223372036854775807)
  (h1:∀i,i<l.length→P (l.getD i d)=true→body (i:Int)=some (.inr hit))
  (h2:∀i,i<l.length→P (l.getD i d)=false→body (i:Int)=some (.inl ((i:Int)+1))) (h3:body (l.length:Int)=some (.inr miss)) :
  jak body big 0=some (if l.any P=true then hit else miss):=by
 rw[jbK l d P (fun _=>hit) miss hlen h1 h2 h3];cases hf:l.findIdx? P with
 |none =>
  have:l.any P=false:=by
   rw[List.findIdx?_eq_none_iff]at hf;rw[List.any_eq_false];intro x hx;simp[hf x hx]
  rw[this];rfl
 |some i =>
  have:l.any P=true:=by
   rw[List.findIdx?_eq_some_iff_getElem]at hf;obtain⟨h,hp,_⟩:=hf;exact List.any_eq_true.2 ⟨_,List.getElem_mem h,hp⟩
  rw[this];rfl
theorem jdu {Y:Type} (n:Nat) (P:Nat→Bool) {body:Int→Option (Int ⊕ Y)} (hit miss:Y) (hlen:n<9223372036854775807)
  (h1:∀i,i<n→P i=true→body (i:Int)=some (.inr hit))
  (h2:∀i,i<n→P i=false→body (i:Int)=some (.inl ((i:Int)+1))) (h3:body (n:Int)=some (.inr miss)) :
  jak body big 0=some (if(List.range n).any P=true then hit else miss):=by
 refine jcv (List.range n) 0 P hit miss (by simpa using hlen) (fun i hi hp=>?_) (fun i hi hp=>?_) (by simpa using h3)
 ·have hi:i<n:=by simpa using hi
  have e:(List.range n).getD i 0=i:=by simp[List.getD,hi]
  rw[e]at hp;exact h1 i hi hp
 ·have hi:i<n:=by simpa using hi
  have e:(List.range n).getD i 0=i:=by simp[List.getD,hi]
  rw[e]at hp;exact h2 i hi hp
end Go.Sx
end

section
namespace Go.Sx
class TC (R:Type) where
 c:R→R→Prop
 refl:∀a,c a a
instance (priority := low) instTC {α : Type} : TC α := ⟨fun a r => Ob (a = r) ∧ True, fun _ => ⟨⟨rfl⟩, trivial⟩⟩
instance instTCProd {α β : Type} [i : TC β] : TC (α × β) := ⟨fun a r => Ob (a.1 = r.1) ∧ i.c a.2 r.2, fun a => ⟨⟨rfl⟩, i.refl a.2⟩⟩
inductive T (R:Type):Type 1 where
 |brP (c:Prop) [d:Decidable c] (x y:T R)
 |brB (b:Bool) (x y:T R)
 |obP (c:Prop) [d:Decidable c] (x:T R)
 |obT (x:T R)
 |obC (c:Prop) (h:c) (x:T R)
 |call {A:Type} [i:Inhabited A] (e:Option A) (x:A→T R)
 |ret (a:R) (P:R→Prop) (h:P a)
 |rc [i:TC R] (a:R)
 |bad (Q:R→Prop)
def T.run {R:Type}:T R→Option R
 | @T.brP _ c d x y=>@ite _ c d x.run y.run
 | .brB b x y=>if b=true then x.run else y.run
 | @T.obP _ c d x=>@ite _ c d x.run none
 | .obT x=>x.run
 | .obC _ _ x=>x.run
 | @T.call _ _ _ e x=>Option.bind e fun a=>(x a).run
 | .ret a _ _=>some a
 | @T.rc _ _ a=>some a
 | .bad _=>none
def T.cond {R:Type}:T R→R→Prop
 | @T.brP _ c d x y,r=>Br (@decide c d) (x.cond r) (y.cond r)
 | .brB b x y,r=>Br b (x.cond r) (y.cond r)
 | @T.obP _ c _ x,r=>Ob c∧x.cond r
 | .obT x,r=>Ob True∧x.cond r
 | .obC c _ x,r=>Ob c∧x.cond r
 | @T.call _ _ i e x,r=>Ob (ok e)∧(x (@val _ i e)).cond r
 | .ret _ P _,r=>P r
 | @T.rc _ i a,r=>i.c a r
 | .bad Q,r=>Q r
theorem T.sound {R:Type}:∀(t:T R) {r:R},t.run=some r→t.cond r
 | @T.brP _ c d x y,r,h=>by
  simp only[T.run]at h;simp only[T.cond]
  by_cases hc:c
  ·rw[if_pos hc]at h;rw[decide_eq_true hc];exact T.sound x h
  ·rw[if_neg hc]at h;rw[decide_eq_false hc];exact T.sound y h
 | .brB b x y,r,h=>by
  simp only[T.run]at h;simp only[T.cond];cases b
  ·exact T.sound y h
  ·exact T.sound x h
 | @T.obP _ c d x,r,h=>by
  simp only[T.run]at h
  by_cases hc:c
  ·rw[if_pos hc]at h;exact⟨⟨hc⟩,T.sound x h⟩
  ·rw[if_neg hc]at h;cases h
 | .obT x,r,h=>⟨⟨trivial⟩,T.sound x h⟩
 | .obC c hc x,r,h=>⟨⟨hc⟩,T.sound x h⟩
 | @T.call _ _ i e x,r,h=>by
  simp only[T.run]at h;cases e with
  |none=>cases h
  |some a=>exact⟨⟨rfl⟩,T.sound (x a) h⟩
 | .ret a P hP,r,h=>by
  cases h;exact hP
 | @T.rc _ i a,r,h=>by
  cases h;exact i.refl a
 | .bad _,r,h=>by cases h
theorem T.vc {R:Type} {t:T R} {m:Option R} {r:R} {p:Prop} (hm:t.run=m) (hp:t.cond r=p) (h:Option.bind m some=some r):p:=by
 have h1:m=some r:=by cases m with
  |none=>cases h
  |some a=>exact h
 rw[←hp];exact T.sound t (hm.trans h1)
theorem rcs {R:Type} [i:TC R] {a r:R} (h:Option.bind (some a) some=some r):i.c a r:=by
 obtain rfl:=Option.some.inj h;exact i.refl a
end Go.Sx
end

section
namespace Go.Sx
variable {X Y A R B Z:Type}
structure Cx (A R:Type) where
 G:Nat→Prop
 κ:Nat→A→Option R
 r:R
structure Sk (C:Cx A R) (e:Option A) where
 c:Prop
 ok:∀k,C.G k→e.bind (C.κ k)=some C.r→c
def top (r:R):Cx R R:=⟨fun _=>True,fun _=>some,r⟩
inductive Cl (Z:Type):Type 1 where
 |c {A:Type} (f:Z→A)
 |p (P:Z→Prop)
def jeV:List (Cl Z)→Z→Z→Prop
 |[],_,_=>True
 | .c f::l,v,w=>Ob (f v=f w)∧jeV l v w
 | .p P::l,v,w=>Ob (P w)∧jeV l v w
def okQ:List (Cl Z)→Z→Prop
 |[],_=>True
 | .c _::l,v=>okQ l v
 | .p P::l,v=>P v∧okQ l v
theorem jhy:∀(l:List (Cl Z)) (v:Z),okQ l v→jeV l v v
 |[],_,_=>trivial
 | .c _::l,v,h=>⟨⟨rfl⟩,jhy l v h⟩
 | .p _::l,v,h=>⟨⟨h.1⟩,jhy l v h.2⟩
structure Lp (Z X Y A R:Type) where
 x:Z→X
 n:Z→Nat
 nx:Z→X→Nat→Z
 b:Z→X→Option (X ⊕ Y)
 ρ:Z→Y→Option A
 C:Z→Cx A R
 k:Z→Nat
 Q:List (Cl Z)
def Lp.K (L:Lp Z X Y A R) (z:Z):Y→Option R:=fun y=>(L.ρ z y).bind ((L.C z).κ (L.k z))
def Lp.inv (L:Lp Z X Y A R) (z:Z):Prop:=(L.C z).G (L.k z)∧(jak (L.b z) (L.n z) (L.x z)).bind (L.K z)=some (L.C z).r
def Lp.cx (L:Lp Z X Y A R) (z:Z):Cx (X ⊕ Y) R:=⟨fun k=>k+1=L.n z∧(L.C z).G (L.k z),fun k=>jwc (L.b z) k (L.K z),(L.C z).r⟩
variable {C:Cx A R}
def Sk.br {c:Prop} [d:Decidable c] {x y:Option A} (p:Sk C x) (q:Sk C y):Sk C (if c then x else y) :=
 ⟨Br (decide c) p.c q.c,fun k g h=>br_d h (p.ok k g) (q.ok k g)⟩
def Sk.brB {b:Bool} {x y:Option A} (p:Sk C x) (q:Sk C y):Sk C (if b=true then x else y) :=
 ⟨Br b p.c q.c,fun k g h=>br_b h (p.ok k g) (q.ok k g)⟩
def Sk.brT {c:Prop} [d:Decidable c] {x y:Option A} (hc:c) (p:Sk C x):Sk C (if c then x else y) :=
 ⟨p.c,fun k g h=>p.ok k g (by rw[if_pos hc]at h;exact h)⟩
def Sk.brF {c:Prop} [d:Decidable c] {x y:Option A} (hc:¬c) (q:Sk C y):Sk C (if c then x else y) :=
 ⟨q.c,fun k g h=>q.ok k g (by rw[if_neg hc]at h;exact h)⟩
def Sk.ob {c:Prop} [d:Decidable c] {x:Option A} (p:Sk C x):Sk C (if c then x else none) :=
 ⟨Ob c∧p.c,fun k g h=>ob_s h (p.ok k g)⟩
def Sk.obT {e:Option A} (p:Sk C e):Sk C e:=⟨Ob True∧p.c,fun k g h=>⟨⟨trivial⟩,p.ok k g h⟩⟩
def Sk.obC {e:Option A} (c:Prop) (hc:c) (p:Sk C e):Sk C e:=⟨Ob c∧p.c,fun k g h=>⟨⟨hc⟩,p.ok k g h⟩⟩
def Sk.call [Inhabited B] {e:Option B} {f:B→Option A} (p:Sk C (f (val e))):Sk C (e.bind f) :=
 ⟨Ob (Go.Sx.ok e)∧p.c,fun k g h=>jBM h (p.ok k g)⟩
def Sk.rc [i:TC R] {r a:R}:Sk (top r) (some a):=⟨i.c a r,fun _ _ h=>rcs h⟩
def Sk.ret {r a:R} (P:R→Prop) (h:P a):Sk (top r) (some a):=⟨P r,fun _ _ e=>by cases e;exact h⟩
def Sk.bad (c:Prop):Sk C none:=⟨c,fun _ _ h=>nomatch h⟩
def Sk.loopQ {b:X→Option (X ⊕ Y)} {x:X} {ρ:Y→Option A} (L:Lp Z X Y A R) (Q:List (Cl Z)) (w:Nat→Z) (p:∀z,Sk (L.cx z) (L.b z (L.x z)))
  (hw:∀k,okQ Q (w k))
  (h:∀k,C.G k→((jak b big x).bind fun y=>(ρ y).bind (C.κ k))=some C.r→L.inv (w k):=by exact fun _ g h=>⟨g,h⟩)
  (hq:∀k,jeV Q (w k) (w k)→jeV Q (w 0) (w k):=by exact fun _ h=>h):Sk C ((jak b big x).bind ρ) :=
 ⟨(
  ∃v,Ob (L.inv v)∧jeV Q (w 0) v)∧∀v,L.inv v→(p v).c,fun k g e=>⟨⟨w k,⟨h k g (jBN e)⟩,hq k (jhy Q _ (hw k))⟩,fun v hv=>by
  obtain⟨m,hm,e⟩:=jzB hv.2;exact(p v).ok m ⟨hm.symm,hv.1⟩ e⟩⟩
def Sk.loop {b:X→Option (X ⊕ Y)} {x:X} {ρ:Y→Option A} (L:Lp Z X Y A R) (w:Nat→Z) (p:∀z,Sk (L.cx z) (L.b z (L.x z)))
  (hw:∀k,okQ L.Q (w k):=by exact fun _=>trivial)
  (h:∀k,C.G k→((jak b big x).bind fun y=>(ρ y).bind (C.κ k))=some C.r→L.inv (w k):=by exact fun _ g h=>⟨g,h⟩)
  (hq:∀k,jeV L.Q (w k) (w k)→jeV L.Q (w 0) (w k):=by exact fun _ h=>h):Sk C ((jak b big x).bind ρ):=Sk.loopQ L L.Q w p hw h hq
def Sk.nextQ {L:Lp Z X Y A R} {z:Z} {x:X} (Q:List (Cl Z)) (hw:∀k,okQ Q (L.nx z x k))
  (h:∀k,k+1=L.n z∧(L.C z).G (L.k z)→(jak (L.b z) k x).bind (L.K z)=some (L.C z).r→L.inv (L.nx z x k)∧L.n (L.nx z x k)<L.n z:=by exact fun _ g h=>⟨⟨g.2,h⟩,jAO g.1⟩)
  (hq:∀k,jeV Q (L.nx z x k) (L.nx z x k)→jeV Q (L.nx z x 0) (L.nx z x k):=by exact fun _ h=>h):Sk (L.cx z) (some (.inl x)) :=
 ⟨∃v,Ob (L.inv v)∧(Ob (L.n v<L.n z)∧jeV Q (L.nx z x 0) v),fun k g e=>⟨L.nx z x k,⟨(h k g (jxY e)).1⟩,⟨(h k g (jxY e)).2⟩,hq k (jhy Q _ (hw k))⟩⟩
def Sk.next {L:Lp Z X Y A R} {z:Z} {x:X} (hw:∀k,okQ L.Q (L.nx z x k):=by exact fun _=>trivial)
  (h:∀k,k+1=L.n z∧(L.C z).G (L.k z)→(jak (L.b z) k x).bind (L.K z)=some (L.C z).r→L.inv (L.nx z x k)∧L.n (L.nx z x k)<L.n z:=by exact fun _ g h=>⟨⟨g.2,h⟩,jAO g.1⟩)
  (hq:∀k,jeV L.Q (L.nx z x k) (L.nx z x k)→jeV L.Q (L.nx z x 0) (L.nx z x k):=by exact fun _ h=>h):Sk (L.cx z) (some (.inl x)):=Sk.nextQ L.Q hw h hq
def Sk.exit {L:Lp Z X Y A R} {z:Z} {y:Y} (p:Sk (L.C z) (L.ρ z y)):Sk (L.cx z) (some (.inr y)) :=
 ⟨p.c,fun _ g e=>p.ok (L.k z) g.2 e⟩
theorem Sk.vc {e:Option R} {r:R} {p:Prop} (t:Sk (top r) e) (hp:t.c=p) (h:Option.bind e some=some r):p:=hp ▸ t.ok 0 trivial h
def isI (st:St) (t:Nat) (n:Int):Bool:=match jav st.tm t with
 |some (.w (.c (.d (.i _ m))))=>m==n
 |_=>false
end Go.Sx
end

section
namespace Go.Sx
def nI (l:List (List NC)) (i j:Nat):Int:=NC.toI ((l.getD i []).getD j (NC.d (D.v undef)))
def nS (l:List (List NC)) (i j:Nat):ByteArray:=NC.toS ((l.getD i []).getD j (NC.d (D.v undef)))
def nL (l:List (List NC)) (i j:Nat):List Int:=NC.toInts ((l.getD i []).getD j (NC.d (D.v undef)))
def nR (l:List (List NC)) (i j:Nat):List (List Int):=NC.toRecs ((l.getD i []).getD j (NC.d (D.v undef)))
section
variable {S R:Type} {g:S→Option R} {r:R}
end
theorem jBO {b:Bool} {x y:GT} {Q:List RR→Prop} (hx:b=true→x.sel.1→Q x.sel.2) (hy:b=false→y.sel.1→Q y.sel.2) (h:(GT.br b x y).sel.1):Q (GT.br b x y).sel.2:=by
 cases b with
 |true=>exact hx rfl h
 |false=>exact hy rfl h
end Go.Sx
end

section
namespace Go.Sx
def nestE:Nat→Bool
 |22|42|75|76|98|138=>true
 |_=>false
def jBP:Nat→Bool
 |42|98=>true
 |_=>false
instance globs : Globs := { tab := fun _ => none, nestT := nestE, nestM := jBP }
end Go.Sx
end

section
namespace Go.Sh
open Go Go.Proofs Go.RowKit Go.Sx
def bodyOf (f:Func):Code:=f.body.getD .skip
theorem mixed:Tryz.prog.follows .mixedOrders=true:=by kernel_rfl
abbrev jcg (fn:Func) (sp:jaa) (loops:jgh) (as_:List A) (rs:List RV):Prop :=
 sx Tryz.prog sp fn.ntmps as_.length 40 loops (jb1 Tryz.prog sp fn.ntmps) (bodyOf fn) 0 [] ⟨jbZ 0 (jdt 0 as_),jgm 0 as_,as_.length⟩ (jcb Tryz.prog fn.results.toList fun v hp _=>jAM rs v hp)
def ja8 (shs:List SV) (ls:List Lf):Bv:=(jet shs 0 ls).getD ⟨[],[],0,[]⟩
theorem jaM {shs:List SV} {ls:List Lf} {b:Bv} (h:jet shs 0 ls=some b):b=ja8 shs ls:=by
 unfold ja8;rw[h];rfl
abbrev jbg (fn:Func) (sp:jaa) (loops:jgh) (b:Bv) (rs:List RR):Prop :=
 sx Tryz.prog sp fn.ntmps b.n 40 loops (jb1 Tryz.prog sp fn.ntmps) (bodyOf fn) 0 [] ⟨jbZ 0 b.vs,b.hp,b.n⟩ (jcb Tryz.prog fn.results.toList fun v hp _=>jfS b.n rs v hp)
def sp0:jaa:=fun _=>none
theorem jau:jac Tryz.prog sp0:=fun _ _ _ h=>by cases h
def jaH (f:Nat) (M:Bool) (S:Sx.Spec) (sp:jaa):jaa:=fun k=>match Nat.beq k f with
 |true=>some (M,S)
 |false=>sp k
theorem jas {f:Nat} {M:Bool} {S:Sx.Spec} {sp:jaa} (h:jaf Tryz.prog f M S) (hs:jac Tryz.prog sp):jac Tryz.prog (jaH f M S sp):=by
 intro k M' S' hk;unfold jaH at hk;split at hk
 ·rename_i e;have:=Nat.eq_of_beq_eq_true e;subst this;cases hk;exact h
 ·exact hs k M' S' hk
open Go.IntKind (wrap)
def joz:List (Option Cont):=[none,none,none]
def y16 (n lo hi:Int):Option Bool :=
 if lo≤n then
  some (decide (n≤hi))
 else
  some false
def jjt:List A→Option (Prop × List RV)
 |[.d (.i .i64 n),.d (.i .i64 lo),.d (.i .i64 hi)]=>some (ok (y16 n lo hi),[.d (.b ((val (y16 n lo hi))))])
 |_=>none
abbrev sp_84:jaa→jaa:=jaH 84 true (jaF joz jjt)
def jwd (n lo hi:Int) (r:Bool):Sk (top r) (y16 n lo hi) :=
 .br
 (.obT (.rc))
 (.obT (.rc))
theorem jud (n lo hi:Int) (r:Bool) (h:Option.bind (y16 n lo hi) some=some r):jcg Tryz.f84 (sp0) (fun _ _ _=>none) [.d (.i .i64 n),.d (.i .i64 lo),.d (.i .i64 hi)] [.d (.b r)] :=
 Sk.vc (jwd n lo hi r) (by kernel_rfl) h
theorem jue:jaf Tryz.prog 84 true (jaF joz jjt):=by
 refine jaQ (sp:=sp0) (fn:=Tryz.f84) (body:=bodyOf Tryz.f84) mixed jau Tryz.func84 (by kernel_rfl) (by kernel_rfl) fun as_ ob rs h ho=>?_;unfold jjt at h;split at h
 ·rename_i n lo hi;cases h;exact⟨Nat.le_of_ble_eq_true rfl,_,_,jud n lo hi _ (jaq ho)⟩
 ·cases h
theorem sp_84_ok {sp:jaa} (h:jac Tryz.prog sp):jac Tryz.prog (sp_84 sp):=jas jue h
def joA:List (Option Cont):=[none,none,none]
def y5 (n lo hi:Int):Option Bool :=
 if lo≤n then
  some (decide (n≤hi))
 else
  some false
def jju:List A→Option (Prop × List RV)
 |[.d (.i .i64 n),.d (.i .i64 lo),.d (.i .i64 hi)]=>some (ok (y5 n lo hi),[.d (.b ((val (y5 n lo hi))))])
 |_=>none
abbrev sp_45:jaa→jaa:=jaH 45 true (jaF joA jju)
def jwe (n lo hi:Int) (r:Bool):Sk (top r) (y5 n lo hi) :=
 .br
 (.obT (.rc))
 (.obT (.rc))
theorem juf (n lo hi:Int) (r:Bool) (h:Option.bind (y5 n lo hi) some=some r):jcg Tryz.f45 (sp0) (fun _ _ _=>none) [.d (.i .i64 n),.d (.i .i64 lo),.d (.i .i64 hi)] [.d (.b r)] :=
 Sk.vc (jwe n lo hi r) (by kernel_rfl) h
theorem jug:jaf Tryz.prog 45 true (jaF joA jju):=by
 refine jaQ (sp:=sp0) (fn:=Tryz.f45) (body:=bodyOf Tryz.f45) mixed jau Tryz.func45 (by kernel_rfl) (by kernel_rfl) fun as_ ob rs h ho=>?_;unfold jju at h;split at h
 ·rename_i n lo hi;cases h;exact⟨Nat.le_of_ble_eq_true rfl,_,_,juf n lo hi _ (jaq ho)⟩
 ·cases h
theorem sp_45_ok {sp:jaa} (h:jac Tryz.prog sp):jac Tryz.prog (sp_45 sp):=jas jug h
def jqw:List (Option Cont):=[none,none]
def jeW (n u39:Int):Option Bool :=
 Option.bind (y16 n (wrap .i64 (0-u39)) u39) fun r0 =>
 some r0
def jkW:List A→Option (Prop × List RV)
 |[.d (.i .i64 n),.d (.i .i64 u39)]=>some (ok (jeW n u39),[.d (.b ((val (jeW n u39))))])
 |_=>none
abbrev sp_160:jaa→jaa:=jaH 160 true (jaF jqw jkW)
def jxZ (n u39:Int) (r:Bool):Sk (top r) (jeW n u39) :=
 .call (.obT (.rc))
theorem jwf (n u39:Int) (r:Bool) (h:Option.bind (jeW n u39) some=some r):jcg Tryz.f160 ((sp_84 sp0)) (fun _ _ _=>none) [.d (.i .i64 n),.d (.i .i64 u39)] [.d (.b r)] :=
 Sk.vc (jxZ n u39 r) (by kernel_rfl) h
theorem jwg:jaf Tryz.prog 160 true (jaF jqw jkW):=by
 refine jaQ (sp:=(sp_84 sp0)) (fn:=Tryz.f160) (body:=bodyOf Tryz.f160) mixed (sp_84_ok jau) Tryz.func160 (by kernel_rfl) (by kernel_rfl) fun as_ ob rs h ho=>?_;unfold jkW at h;split at h
 ·rename_i n u39;cases h;exact⟨Nat.le_of_ble_eq_true rfl,_,_,jwf n u39 _ (jaq ho)⟩
 ·cases h
theorem sp_160_ok {sp:jaa} (h:jac Tryz.prog sp):jac Tryz.prog (sp_160 sp):=jas jwg h
def jvm:List (Option Cont):=[some (.ints .i64 []),none]
def jgS (l:List Int) (n x0:Int):Option (Int ⊕ (Unit ⊕ Unit)) :=
 if x0<(↑l.length:Int)then
  if 0≤x0∧x0<(↑l.length:Int)then
  if Int.toNat x0<List.length l then
   if(List.getD l x0.toNat (0:Int)==n)=true then
   some (.inr ((.inl ())))
   else
   some (.inl (wrap .i64 (x0+1)))
  else none
  else none
 else
  some (.inr ((.inr ())))
def jwh (u5:Unit):Option Bool :=
 some true
def jwi (u6:Unit):Option Bool :=
 some false
def jsx:(Unit ⊕ Unit)→Option Bool :=
 (Sum.elim (jwh) (jwi))
def jeu (l:List Int) (n:Int):Option Bool :=
 Option.bind (jak (jgS l n) big (0:Int)) (jsx)
def jpK:List A→Option (Prop × List RV)
 |[.r (.ints .i64 l),.d (.i .i64 n)]=>some (ok (jeu l n),[.d (.b ((val (jeu l n))))])
 |_=>none
abbrev sp_48:jaa→jaa:=jaH 48 true (jaF jvm jpK)
abbrev jsy (l:List Int) (n:Int) (r:Bool):Lp (Int × Nat) Int (Unit ⊕ Unit) Bool Bool :=
 ⟨fun z=>z.1,fun z=>z.2,fun z x n=>(x,n),fun z=>jgS l n,fun z=>jsx,fun z=>top r,fun z=>0,[.c fun _=>n,.c fun vv=>vv.1,.c fun _=>l]⟩
def jBg (l:List Int) (n:Int) (r:Bool):Sk (top r) (jeu l n) :=
 .loop (jsy l n r) (fun kk=>((0:Int),big)) fun z0 =>
 .br
 (.ob (.ob (.brB
 (.exit (.obT (.rc)))
 (.next))))
 (.exit (.obT (.rc)))
theorem jzC (l:List Int) (n:Int) (r:Bool) (h:Option.bind (jeu l n) some=some r):jcg Tryz.f48 (sp0) (fun gs id _=>match id with
 |0=>some ⟨Int × Nat,fun z=>⟨[(0,.w (.c (.o 0))),(1,.w (.c (.d (.i .i64 n)))),(5,.w (.c (.d (.i .i64 z.1))))],[(0,.ext (.ints .i64 l))],2⟩,fun z=>(jsy l n r).inv z,fun z=>z.2⟩
 |_=>none) [.r (.ints .i64 l),.d (.i .i64 n)] [.d (.b r)] :=
 Sk.vc (jBg l n r) (by kernel_rfl) h
theorem jzD:jaf Tryz.prog 48 true (jaF jvm jpK):=by
 refine jaQ (sp:=sp0) (fn:=Tryz.f48) (body:=bodyOf Tryz.f48) mixed jau Tryz.func48 (by kernel_rfl) (by kernel_rfl) fun as_ ob rs h ho=>?_;unfold jpK at h;split at h
 ·rename_i l n;cases h;exact⟨Nat.le_of_ble_eq_true rfl,_,_,jzC l n _ (jaq ho)⟩
 ·cases h
theorem sp_48_ok {sp:jaa} (h:jac Tryz.prog sp):jac Tryz.prog (sp_48 sp):=jas jzD h
def jsz:List (Option Cont):=[some (.ints .i64 []),some (.ints .i64 [])]
def jhz (a b:List Int) (x0:Int):Option (Int ⊕ (Unit ⊕ Unit)) :=
 if x0<(↑a.length:Int)then
  if 0≤x0∧x0<(↑a.length:Int)then
  if Int.toNat x0<List.length a then
   if 0≤x0∧x0<(↑b.length:Int)then
   if Int.toNat x0<List.length b then
    if(List.getD a x0.toNat (0:Int)!=List.getD b x0.toNat (0:Int))=true then
    some (.inr ((.inl ())))
    else
    some (.inl (wrap .i64 (x0+1)))
   else none
   else none
  else none
  else none
 else
  some (.inr ((.inr ())))
def juh (u5:Unit):Option Bool :=
 some false
def jui (u6:Unit):Option Bool :=
 some true
def jqx:(Unit ⊕ Unit)→Option Bool :=
 (Sum.elim (juh) (jui))
def jgT (a b:List Int):Option Bool :=
 if((↑a.length:Int)!=(↑b.length:Int))=true then
  some false
 else
  Option.bind (jak (jhz a b) big (0:Int)) (jqx)
def jnk:List A→Option (Prop × List RV)
 |[.r (.ints .i64 a),.r (.ints .i64 b)]=>some (ok (jgT a b),[.d (.b ((val (jgT a b))))])
 |_=>none
abbrev sp_24:jaa→jaa:=jaH 24 true (jaF jsz jnk)
abbrev jqy (a b:List Int) (r:Bool):Lp (Int × Nat) Int (Unit ⊕ Unit) Bool Bool :=
 ⟨fun z=>z.1,fun z=>z.2,fun z x n=>(x,n),fun z=>jhz a b,fun z=>jqx,fun z=>top r,fun z=>0,[.c fun vv=>vv.1,.c fun _=>a,.c fun _=>b]⟩
def jzE (a b:List Int) (r:Bool):Sk (top r) (jgT a b) :=
 .brB
 (.obT (.rc))
 (.loop (jqy a b r) (fun kk=>((0:Int),big)) fun z0 =>
 .br
 (.ob (.ob (.ob (.ob (.brB
 (.exit (.obT (.rc)))
 (.next))))))
 (.exit (.obT (.rc))))
theorem jx0 (a b:List Int) (r:Bool) (h:Option.bind (jgT a b) some=some r):jcg Tryz.f24 (sp0) (fun gs id _=>match id with
 |0=>some ⟨Int × Nat,fun z=>⟨[(0,.w (.c (.o 0))),(1,.w (.c (.o 1))),(5,.w (.c (.d (.i .i64 z.1))))],[(0,.ext (.ints .i64 a)),(1,.ext (.ints .i64 b))],2⟩,fun z=>(jqy a b r).inv z,fun z=>z.2⟩
 |_=>none) [.r (.ints .i64 a),.r (.ints .i64 b)] [.d (.b r)] :=
 Sk.vc (jzE a b r) (by kernel_rfl) h
theorem jx1:jaf Tryz.prog 24 true (jaF jsz jnk):=by
 refine jaQ (sp:=sp0) (fn:=Tryz.f24) (body:=bodyOf Tryz.f24) mixed jau Tryz.func24 (by kernel_rfl) (by kernel_rfl) fun as_ ob rs h ho=>?_;unfold jnk at h;split at h
 ·rename_i a b;cases h;exact⟨Nat.le_of_ble_eq_true rfl,_,_,jx0 a b _ (jaq ho)⟩
 ·cases h
theorem sp_24_ok {sp:jaa} (h:jac Tryz.prog sp):jac Tryz.prog (sp_24 sp):=jas jx1 h
def jkX:List (Option Cont):=[some (.ints .i64 [])]
def y42 (l:List Int):Option (List Int) :=
 if(0+List.length l)*8≤140737488355328∧0+List.length l≤9223372036854775807 then
  some ([]++l)
 else none
def jgU:List A→Option (Prop × List RV)
 |[.r (.ints .i64 l)]=>some (ok (y42 l),[.row 3 (.ints .i64 ((val (y42 l))))])
 |_=>none
abbrev sp_26:jaa→jaa:=jaH 26 true (jaF jkX jgU)
def jsA (l r:List Int):Sk (top r) (y42 l) :=
 .ob (.obT (.rc))
theorem jq3 (l r:List Int) (h:Option.bind (y42 l) some=some r):jcg Tryz.f26 (sp0) (fun _ _ _=>none) [.r (.ints .i64 l)] [.row 3 (.ints .i64 r)] :=
 Sk.vc (jsA l r) (by kernel_rfl) h
theorem jq4:jaf Tryz.prog 26 true (jaF jkX jgU):=by
 refine jaQ (sp:=sp0) (fn:=Tryz.f26) (body:=bodyOf Tryz.f26) mixed jau Tryz.func26 (by kernel_rfl) (by kernel_rfl) fun as_ ob rs h ho=>?_;unfold jgU at h;split at h
 ·rename_i l;cases h;exact⟨Nat.le_of_ble_eq_true rfl,_,_,jq3 l _ (jaq ho)⟩
 ·cases h
theorem sp_26_ok {sp:jaa} (h:jac Tryz.prog sp):jac Tryz.prog (sp_26 sp):=jas jq4 h
def joB:List (Option Cont):=[none,none]
def y60 (is:Bool) (e:Int):Option Int :=
 if(is)=true then
  some (0:Int)
 else
  some e
def jjv:List A→Option (Prop × List RV)
 |[.d (.b is),.d (.i .i64 e)]=>some (ok (y60 is e),[.d (.i .i64 ((val (y60 is e))))])
 |_=>none
abbrev sp_77:jaa→jaa:=jaH 77 true (jaF joB jjv)
def jwj (is:Bool) (e r:Int):Sk (top r) (y60 is e) :=
 .brB
 (.obT (.rc))
 (.obT (.rc))
theorem juj (is:Bool) (e r:Int) (h:Option.bind (y60 is e) some=some r):jcg Tryz.f77 (sp0) (fun _ _ _=>none) [.d (.b is),.d (.i .i64 e)] [.d (.i .i64 r)] :=
 Sk.vc (jwj is e r) (by kernel_rfl) h
theorem juk:jaf Tryz.prog 77 true (jaF joB jjv):=by
 refine jaQ (sp:=sp0) (fn:=Tryz.f77) (body:=bodyOf Tryz.f77) mixed jau Tryz.func77 (by kernel_rfl) (by kernel_rfl) fun as_ ob rs h ho=>?_;unfold jjv at h;split at h
 ·rename_i is e;cases h;exact⟨Nat.le_of_ble_eq_true rfl,_,_,juj is e _ (jaq ho)⟩
 ·cases h
theorem sp_77_ok {sp:jaa} (h:jac Tryz.prog sp):jac Tryz.prog (sp_77 sp):=jas juk h
def jhR:List SV:=[.a [.d,.d,.d,.d,.d,.d,.d,.d,.d,.d,.d,.d,.d,.d,.d,.d,.d,.d,.d,.d,.d,.d,.d,.d,.d,.d,.d,.d,.d,.d,.d,.d]]
def jkY (l0 l1 l2 l3 l4 l5 l6 l7 l8 l9 l10 l11 l12 l13 l14 l15 l16 l17 l18 l19 l20 l21 l22 l23 l24 l25 l26 l27 l28 l29 l30 l31:Int) (x0:(Int × List Nat)):Option ((Int × List Nat) ⊕ (List Nat)) :=
 if x0.1<32 then
  if(0≤x0.1∧x0.1<(↑(32:Nat):Int))∧List.getD [true,true,true,true,true,true,true,true,true,true,true,true,true,true,true,true,true,true,true,true,true,true,true,true,true,true,true,true,true,true,true,true] (Int.toNat x0.1*1) false=true then
  if 0≤x0.1∧x0.1<(↑(32:Nat):Int)then
   if 0+(0+Int.toNat x0.1*1)<32 then
   some (.inl ((wrap .i64 (x0.1+1),jiW (32:Nat) x0.2 (0+(0+Int.toNat x0.1*1)) (FloatKind.nearest .f32 (List.getD [l0,l1,l2,l3,l4,l5,l6,l7,l8,l9,l10,l11,l12,l13,l14,l15,l16,l17,l18,l19,l20,l21,l22,l23,l24,l25,l26,l27,l28,l29,l30,l31] (Int.toNat x0.1*1) (0:Int))))))
   else none
  else none
  else none
 else
  some (.inr x0.2)
def jkZ (u5:List Nat):Option (List Nat) :=
 some u5
def jfH (l0 l1 l2 l3 l4 l5 l6 l7 l8 l9 l10 l11 l12 l13 l14 l15 l16 l17 l18 l19 l20 l21 l22 l23 l24 l25 l26 l27 l28 l29 l30 l31:Int):Option (List Nat) :=
 Option.bind (jak (jkY l0 l1 l2 l3 l4 l5 l6 l7 l8 l9 l10 l11 l12 l13 l14 l15 l16 l17 l18 l19 l20 l21 l22 l23 l24 l25 l26 l27 l28 l29 l30 l31) big (((0:Int),[(0:Nat),(0:Nat),(0:Nat),(0:Nat),(0:Nat),(0:Nat),(0:Nat),(0:Nat),(0:Nat),(0:Nat),(0:Nat),(0:Nat),(0:Nat),(0:Nat),(0:Nat),(0:Nat),(0:Nat),(0:Nat),(0:Nat),(0:Nat),(0:Nat),(0:Nat),(0:Nat),(0:Nat),(0:Nat),(0:Nat),(0:Nat),(0:Nat),(0:Nat),(0:Nat),(0:Nat),(0:Nat)]))) (jkZ)
def jhS:List Lf→Option GT
 |[.d (.i .i64 l0),.d (.i .i64 l1),.d (.i .i64 l2),.d (.i .i64 l3),.d (.i .i64 l4),.d (.i .i64 l5),.d (.i .i64 l6),.d (.i .i64 l7),.d (.i .i64 l8),.d (.i .i64 l9),.d (.i .i64 l10),.d (.i .i64 l11),.d (.i .i64 l12),.d (.i .i64 l13),.d (.i .i64 l14),.d (.i .i64 l15),.d (.i .i64 l16),.d (.i .i64 l17),.d (.i .i64 l18),.d (.i .i64 l19),.d (.i .i64 l20),.d (.i .i64 l21),.d (.i .i64 l22),.d (.i .i64 l23),.d (.i .i64 l24),.d (.i .i64 l25),.d (.i .i64 l26),.d (.i .i64 l27),.d (.i .i64 l28),.d (.i .i64 l29),.d (.i .i64 l30),.d (.i .i64 l31)]=>some (.leaf (ok (jfH l0 l1 l2 l3 l4 l5 l6 l7 l8 l9 l10 l11 l12 l13 l14 l15 l16 l17 l18 l19 l20 l21 l22 l23 l24 l25 l26 l27 l28 l29 l30 l31)) [.b .f32 32 ((val (jfH l0 l1 l2 l3 l4 l5 l6 l7 l8 l9 l10 l11 l12 l13 l14 l15 l16 l17 l18 l19 l20 l21 l22 l23 l24 l25 l26 l27 l28 l29 l30 l31)))])
 |_=>none
abbrev jk0 (l0 l1 l2 l3 l4 l5 l6 l7 l8 l9 l10 l11 l12 l13 l14 l15 l16 l17 l18 l19 l20 l21 l22 l23 l24 l25 l26 l27 l28 l29 l30 l31:Int) (r:List Nat):Lp ((Int × List Nat) × Nat) (Int × List Nat) (List Nat) (List Nat) (List Nat) :=
 ⟨fun z=>z.1,fun z=>z.2,fun z x n=>(x,n),fun z=>jkY l0 l1 l2 l3 l4 l5 l6 l7 l8 l9 l10 l11 l12 l13 l14 l15 l16 l17 l18 l19 l20 l21 l22 l23 l24 l25 l26 l27 l28 l29 l30 l31,fun z=>jkZ,fun z=>top r,fun z=>0,[.c fun _=>0,.c fun _=>0,.c fun _=>l0,.c fun _=>l1,.c fun _=>l2,.c fun _=>l3,.c fun _=>l4,.c fun _=>l5,.c fun _=>l6,.c fun _=>l7,.c fun _=>l8,.c fun _=>l9,.c fun _=>l10,.c fun _=>l11,.c fun _=>l12,.c fun _=>l13,.c fun _=>l14,.c fun _=>l15,.c fun _=>l16,.c fun _=>l17,.c fun _=>l18,.c fun _=>l19,.c fun _=>l20,.c fun _=>l21,.c fun _=>l22,.c fun _=>l23,.c fun _=>l24,.c fun _=>l25,.c fun _=>l26,.c fun _=>l27,.c fun _=>l28,.c fun _=>l29,.c fun _=>l30,.c fun _=>l31,.c fun vv=>vv.1.1,.c fun _=>[(0:Nat),(0:Nat),(0:Nat),(0:Nat),(0:Nat),(0:Nat),(0:Nat),(0:Nat),(0:Nat),(0:Nat),(0:Nat),(0:Nat),(0:Nat),(0:Nat),(0:Nat),(0:Nat),(0:Nat),(0:Nat),(0:Nat),(0:Nat),(0:Nat),(0:Nat),(0:Nat),(0:Nat),(0:Nat),(0:Nat),(0:Nat),(0:Nat),(0:Nat),(0:Nat),(0:Nat),(0:Nat)],.c fun vv=>vv.1.2]⟩
def jul (l0 l1 l2 l3 l4 l5 l6 l7 l8 l9 l10 l11 l12 l13 l14 l15 l16 l17 l18 l19 l20 l21 l22 l23 l24 l25 l26 l27 l28 l29 l30 l31:Int) (r:List Nat):Sk (top r) (jfH l0 l1 l2 l3 l4 l5 l6 l7 l8 l9 l10 l11 l12 l13 l14 l15 l16 l17 l18 l19 l20 l21 l22 l23 l24 l25 l26 l27 l28 l29 l30 l31) :=
 .loop (jk0 l0 l1 l2 l3 l4 l5 l6 l7 l8 l9 l10 l11 l12 l13 l14 l15 l16 l17 l18 l19 l20 l21 l22 l23 l24 l25 l26 l27 l28 l29 l30 l31 r) (fun kk=>(((0:Int),[(0:Nat),(0:Nat),(0:Nat),(0:Nat),(0:Nat),(0:Nat),(0:Nat),(0:Nat),(0:Nat),(0:Nat),(0:Nat),(0:Nat),(0:Nat),(0:Nat),(0:Nat),(0:Nat),(0:Nat),(0:Nat),(0:Nat),(0:Nat),(0:Nat),(0:Nat),(0:Nat),(0:Nat),(0:Nat),(0:Nat),(0:Nat),(0:Nat),(0:Nat),(0:Nat),(0:Nat),(0:Nat)]),big)) fun z0 =>
 .br
 (.ob (.obT (.ob (.ob (.next)))))
 (.exit (.obT (.obT (.obT (.ret (fun r=>(Ob (r=z0.1.2) ∧
 True)) ⟨⟨rfl⟩,trivial⟩)))))
theorem jsB (l0 l1 l2 l3 l4 l5 l6 l7 l8 l9 l10 l11 l12 l13 l14 l15 l16 l17 l18 l19 l20 l21 l22 l23 l24 l25 l26 l27 l28 l29 l30 l31:Int) (r:List Nat) (h:Option.bind (jfH l0 l1 l2 l3 l4 l5 l6 l7 l8 l9 l10 l11 l12 l13 l14 l15 l16 l17 l18 l19 l20 l21 l22 l23 l24 l25 l26 l27 l28 l29 l30 l31) some=some r):jbg Tryz.f146 (sp0) (fun gs id _=>match id with
 |0=>some ⟨(Int × List Nat) × Nat,fun z=>⟨[(2,.w (.c (.p 0 0 1 0))),(3,.w (.c (.p 1 0 1 0))),(6,.w (.a [.d (.i .i64 l0),.d (.i .i64 l1),.d (.i .i64 l2),.d (.i .i64 l3),.d (.i .i64 l4),.d (.i .i64 l5),.d (.i .i64 l6),.d (.i .i64 l7),.d (.i .i64 l8),.d (.i .i64 l9),.d (.i .i64 l10),.d (.i .i64 l11),.d (.i .i64 l12),.d (.i .i64 l13),.d (.i .i64 l14),.d (.i .i64 l15),.d (.i .i64 l16),.d (.i .i64 l17),.d (.i .i64 l18),.d (.i .i64 l19),.d (.i .i64 l20),.d (.i .i64 l21),.d (.i .i64 l22),.d (.i .i64 l23),.d (.i .i64 l24),.d (.i .i64 l25),.d (.i .i64 l26),.d (.i .i64 l27),.d (.i .i64 l28),.d (.i .i64 l29),.d (.i .i64 l30),.d (.i .i64 l31)])),(7,.w (.c (.d (.i .i64 z.1.1))))],[(0,.arr 110 .f32 32 ([(0:Nat),(0:Nat),(0:Nat),(0:Nat),(0:Nat),(0:Nat),(0:Nat),(0:Nat),(0:Nat),(0:Nat),(0:Nat),(0:Nat),(0:Nat),(0:Nat),(0:Nat),(0:Nat),(0:Nat),(0:Nat),(0:Nat),(0:Nat),(0:Nat),(0:Nat),(0:Nat),(0:Nat),(0:Nat),(0:Nat),(0:Nat),(0:Nat),(0:Nat),(0:Nat),(0:Nat),(0:Nat)])),(1,.arr 110 .f32 32 z.1.2)],2⟩,fun z=>(jk0 l0 l1 l2 l3 l4 l5 l6 l7 l8 l9 l10 l11 l12 l13 l14 l15 l16 l17 l18 l19 l20 l21 l22 l23 l24 l25 l26 l27 l28 l29 l30 l31 r).inv z,fun z=>z.2⟩
 |_=>none) (ja8 jhR [.d (.i .i64 l0),.d (.i .i64 l1),.d (.i .i64 l2),.d (.i .i64 l3),.d (.i .i64 l4),.d (.i .i64 l5),.d (.i .i64 l6),.d (.i .i64 l7),.d (.i .i64 l8),.d (.i .i64 l9),.d (.i .i64 l10),.d (.i .i64 l11),.d (.i .i64 l12),.d (.i .i64 l13),.d (.i .i64 l14),.d (.i .i64 l15),.d (.i .i64 l16),.d (.i .i64 l17),.d (.i .i64 l18),.d (.i .i64 l19),.d (.i .i64 l20),.d (.i .i64 l21),.d (.i .i64 l22),.d (.i .i64 l23),.d (.i .i64 l24),.d (.i .i64 l25),.d (.i .i64 l26),.d (.i .i64 l27),.d (.i .i64 l28),.d (.i .i64 l29),.d (.i .i64 l30),.d (.i .i64 l31)]) [.b .f32 32 r] :=
 Sk.vc (jul l0 l1 l2 l3 l4 l5 l6 l7 l8 l9 l10 l11 l12 l13 l14 l15 l16 l17 l18 l19 l20 l21 l22 l23 l24 l25 l26 l27 l28 l29 l30 l31 r) (by kernel_rfl) h
theorem jsC:jaf Tryz.prog 146 true (jal jhR jhS):=by
 refine jaA (sp:=sp0) (fn:=Tryz.f146) (body:=bodyOf Tryz.f146) mixed jau Tryz.func146 (by kernel_rfl) (by kernel_rfl) fun ls t h ho b hb=>?_;unfold jhS at h;split at h
 ·rename_i l0 l1 l2 l3 l4 l5 l6 l7 l8 l9 l10 l11 l12 l13 l14 l15 l16 l17 l18 l19 l20 l21 l22 l23 l24 l25 l26 l27 l28 l29 l30 l31;cases h;obtain rfl:=jaM hb;exact⟨Nat.le_of_ble_eq_true (by kernel_rfl),_,_,jsB l0 l1 l2 l3 l4 l5 l6 l7 l8 l9 l10 l11 l12 l13 l14 l15 l16 l17 l18 l19 l20 l21 l22 l23 l24 l25 l26 l27 l28 l29 l30 l31 _ (jaq ho)⟩
 ·cases h
end Go.Sh
end

section
namespace Go.Sh
open Go Go.Proofs Go.RowKit Go.Sx
open Go.IntKind (wrap)
def jjw:List SV:=[.a [.d,.x (.st [.s,.i .i64,.ints .i64,.ints .i64,.ints .i64,.i .i64,.recs 5,.i .i64] [])]]
def y88 (u1:List (List NC)) (x0:(Int × List (List NC))):Option ((Int × List (List NC)) ⊕ (List (List NC))) :=
 if x0.1<(↑u1.length:Int)then
  if 0≤x0.1∧x0.1<(↑u1.length:Int)then
  if Int.toNat x0.1<List.length u1 then
   Option.bind (y42 (nL u1 x0.1.toNat (2:Nat))) fun r0 =>
   Option.bind (y42 (nL u1 x0.1.toNat (3:Nat))) fun r1 =>
   Option.bind (y42 (nL u1 x0.1.toNat (4:Nat))) fun r2 =>
   if(0+List.length (nR u1 x0.1.toNat (6:Nat)))*40≤140737488355328∧0+List.length (nR u1 x0.1.toNat (6:Nat))≤9223372036854775807 then
   if(List.length x0.2+List.length [[NC.d (D.s (nS u1 x0.1.toNat (0:Nat))),NC.d (D.i .i64 (nI u1 x0.1.toNat (1:Nat))),NC.r (Cont.ints .i64 r0),NC.r (Cont.ints .i64 r1),NC.r (Cont.ints .i64 r2),NC.d (D.i .i64 (nI u1 x0.1.toNat (5:Nat))),NC.r (Cont.recs (5:Nat) ([]++nR u1 x0.1.toNat (6:Nat))),NC.d (D.i .i64 (nI u1 x0.1.toNat (7:Nat)))]])*136≤140737488355328∧List.length x0.2+List.length [[NC.d (D.s (nS u1 x0.1.toNat (0:Nat))),NC.d (D.i .i64 (nI u1 x0.1.toNat (1:Nat))),NC.r (Cont.ints .i64 r0),NC.r (Cont.ints .i64 r1),NC.r (Cont.ints .i64 r2),NC.d (D.i .i64 (nI u1 x0.1.toNat (5:Nat))),NC.r (Cont.recs (5:Nat) ([]++nR u1 x0.1.toNat (6:Nat))),NC.d (D.i .i64 (nI u1 x0.1.toNat (7:Nat)))]]≤9223372036854775807 then
    some (.inl ((wrap .i64 (x0.1+1),x0.2++[[NC.d (D.s (nS u1 x0.1.toNat (0:Nat))),NC.d (D.i .i64 (nI u1 x0.1.toNat (1:Nat))),NC.r (Cont.ints .i64 r0),NC.r (Cont.ints .i64 r1),NC.r (Cont.ints .i64 r2),NC.d (D.i .i64 (nI u1 x0.1.toNat (5:Nat))),NC.r (Cont.recs (5:Nat) ([]++nR u1 x0.1.toNat (6:Nat))),NC.d (D.i .i64 (nI u1 x0.1.toNat (7:Nat)))]])))
   else none
   else none
  else none
  else none
 else
  some (.inr x0.2)
def jmG (u4:ByteArray) (u5:List (List NC)):Option (ByteArray × List (List NC)) :=
 some (u4,u5)
def y80 (u4:ByteArray) (u1:List (List NC)):Option (ByteArray × List (List NC)) :=
 Option.bind (jak (y88 u1) big (((0:Int),[]))) (jmG u4)
def jjx:List Lf→Option GT
 |[.d (.s u4),.x (.st [.s,.i .i64,.ints .i64,.ints .i64,.ints .i64,.i .i64,.recs 5,.i .i64] u1)]=>some (.leaf (ok (y80 u4 u1)) [.s [.d (.s ((val (y80 u4 u1)).1)),.x 118 (.st ([NK.s,NK.i .i64,NK.ints .i64,NK.ints .i64,NK.ints .i64,NK.i .i64,NK.recs (5:Nat),NK.i .i64]) ((val (y80 u4 u1)).2))]])
 |_=>none
abbrev sp_19:jaa→jaa:=jaH 19 true (jal jjw jjx)
abbrev jmH (u4:ByteArray) (u1:List (List NC)) (r:ByteArray × List (List NC)):Lp ((Int × List (List NC)) × Nat) ((Int × List (List NC))) ((List (List NC))) ((ByteArray × List (List NC))) (ByteArray × List (List NC)) :=
 ⟨fun z=>z.1,fun z=>z.2,fun z x n=>(x,n),fun z=>y88 u1,fun z=>jmG u4,fun z=>top r,fun z=>0,[.c fun _=>0,.c fun _=>0,.c fun _=>0,.c fun vv=>vv.1.1,.c fun _=>u4,.c fun _=>ByteArray.mk #[],.c fun _=>Value.slice none (0:Nat) (0:Nat),.c fun _=>u4,.c fun _=>u1,.c fun vv=>vv.1.2]⟩
def jwk (u4:ByteArray) (u1:List (List NC)) (r:ByteArray × List (List NC)):Sk (top r) (y80 u4 u1) :=
 .loopQ (jmH u4 u1 r) [.c fun _=>0,.c fun _=>0,.c fun _=>0,.c fun vv=>vv.1.1,.c fun _=>u4,.c fun _=>ByteArray.mk #[],.c fun _=>Value.slice none (0:Nat) (0:Nat),.c fun _=>u4,.c fun _=>u1,.p fun vv=>List.length vv.1.2=(0:Nat)] (fun kk=>(((0:Int),[]),big)) (fun z0 =>
 .br
 (.ob (.ob (.call (.call (.call (.ob (.ob (.next))))))))
 (.exit (.obT (.rc)))) (fun _=>⟨rfl,trivial⟩)
theorem jum (u4:ByteArray) (u1:List (List NC)) (r:ByteArray × List (List NC)) (h:Option.bind (y80 u4 u1) some=some r):jbg Tryz.f19 ((sp_26 sp0)) (fun gs id _=>match id with
 |0=>some ⟨(Int × List (List NC)) × Nat,fun z=>⟨[(1,.w (.c (.p 1 0 1 0))),(2,.w (.c (.p 2 0 1 0))),(3,.w (.c (.p 3 0 1 0))),(4,.w (.c (.d (.i .i64 z.1.1))))],[(1,.box 24 [.d (.s u4),.o 0]),(2,.box 24 [.d (.s (ByteArray.mk #[])),.d (.v (Value.slice none (0:Nat) (0:Nat)))]),(3,.box 24 [.d (.s u4),.o 4]),(0,.xext (XC.st [NK.s,NK.i .i64,NK.ints .i64,NK.ints .i64,NK.ints .i64,NK.i .i64,NK.recs (5:Nat),NK.i .i64] u1)),(4,.xrow 118 (XC.st [NK.s,NK.i .i64,NK.ints .i64,NK.ints .i64,NK.ints .i64,NK.i .i64,NK.recs (5:Nat),NK.i .i64] z.1.2))],5⟩,fun z=>(jmH u4 u1 r).inv z,fun z=>z.2⟩
 |_=>none) (ja8 jjw [.d (.s u4),.x (.st [.s,.i .i64,.ints .i64,.ints .i64,.ints .i64,.i .i64,.recs 5,.i .i64] u1)]) [.s [.d (.s r.1),.x 118 (.st ([NK.s,NK.i .i64,NK.ints .i64,NK.ints .i64,NK.ints .i64,NK.i .i64,NK.recs (5:Nat),NK.i .i64]) r.2)]] :=
 Sk.vc (jwk u4 u1 r) (by kernel_rfl) h
theorem jun:jaf Tryz.prog 19 true (jal jjw jjx):=by
 refine jaA (sp:=(sp_26 sp0)) (fn:=Tryz.f19) (body:=bodyOf Tryz.f19) mixed (sp_26_ok jau) Tryz.func19 (by kernel_rfl) (by kernel_rfl) fun ls t h ho b hb=>?_;unfold jjx at h;split at h
 ·rename_i u4 u1;cases h;obtain rfl:=jaM hb;exact⟨Nat.le_of_ble_eq_true (by kernel_rfl),_,_,jum u4 u1 _ (jaq ho)⟩
 ·cases h
theorem sp_19_ok {sp:jaa} (h:jac Tryz.prog sp):jac Tryz.prog (sp_19 sp):=jas jun h
end Go.Sh
end

section
namespace Go.Sh
open Go Go.Proofs Go.RowKit Go.Sx
open Go.IntKind (wrap)
def jk1:List SV:=[.a [.d,.x (.st [.s,.i .i64,.ints .i64,.ints .i64,.ints .i64,.i .i64,.recs 5,.i .i64] [])]]
def y51 (u1:List (List NC)) (x0:Int):Option (Int ⊕ (Unit ⊕ Unit)) :=
 if x0<(↑u1.length:Int)then
  if 0≤x0∧x0<(↑u1.length:Int)then
  if Int.toNat x0<List.length u1 then
   if(↑(ByteArray.size (nS u1 x0.toNat (0:Nat))):Int)>20 then
   some (.inr ((.inl ())))
   else
   if(↑(List.length (nL u1 x0.toNat (2:Nat))):Int)>8 then
    some (.inr ((.inl ())))
   else
    if(↑(List.length (nL u1 x0.toNat (3:Nat))):Int)>8 then
    some (.inr ((.inl ())))
    else
    if(↑(List.length (nL u1 x0.toNat (4:Nat))):Int)>8 then
     some (.inr ((.inl ())))
    else
     if(↑(List.length (nR u1 x0.toNat (6:Nat))):Int)>8 then
     some (.inr ((.inl ())))
     else
     some (.inl (wrap .i64 (x0+1)))
  else none
  else none
 else
  some (.inr ((.inr ())))
def jsD (u5:Unit):Option Bool :=
 some false
def jsE (u6:Unit):Option Bool :=
 some true
def jev:(Unit ⊕ Unit)→Option Bool :=
 (Sum.elim (jsD) (jsE))
def jeb (u4:ByteArray) (u1:List (List NC)):Option Bool :=
 if(↑(ByteArray.size u4):Int)>20 then
  some false
 else
  if(↑u1.length:Int)>8 then
  if(↑u1.length:Int)≤24 then
   some false
  else
   if(↑u1.length:Int)>26 then
   some false
   else
   Option.bind (jak (y51 u1) big (0:Int)) (jev)
  else
  if(↑u1.length:Int)>26 then
   some false
  else
   Option.bind (jak (y51 u1) big (0:Int)) (jev)
def jk2:List Lf→Option GT
 |[.d (.s u4),.x (.st [.s,.i .i64,.ints .i64,.ints .i64,.ints .i64,.i .i64,.recs 5,.i .i64] u1)]=>some (.leaf (ok (jeb u4 u1)) [.c (.d (.b ((val (jeb u4 u1)))))])
 |_=>none
abbrev sp_17:jaa→jaa:=jaH 17 true (jal jk1 jk2)
abbrev jjy (u4:ByteArray) (u1:List (List NC)) (r:Bool):Lp (Int × Nat) Int (Unit ⊕ Unit) Bool Bool :=
 ⟨fun z=>z.1,fun z=>z.2,fun z x n=>(x,n),fun z=>y51 u1,fun z=>jev,fun z=>top r,fun z=>0,[.c fun _=>0,.c fun vv=>vv.1,.c fun _=>u4,.c fun _=>u1]⟩
def jx2 (u4:ByteArray) (u1:List (List NC)) (r:Bool):Sk (top r) (jeb u4 u1) :=
 .br
 (.obT (.rc))
 (.br
 (.br
 (.obT (.rc))
 (.br
 (.obT (.rc))
 (.loop (jjy u4 u1 r) (fun kk=>((0:Int),big)) fun z0 =>
 .br
 (.ob (.ob (.br
 (.exit (.obT (.rc)))
 (.br
 (.exit (.obT (.rc)))
 (.br
 (.exit (.obT (.rc)))
 (.br
 (.exit (.obT (.rc)))
 (.br
 (.exit (.obT (.rc)))
 (.next))))))))
 (.exit (.obT (.rc))))))
 (.br
 (.obT (.rc))
 (.loop (jjy u4 u1 r) (fun kk=>((0:Int),big)) fun z1 =>
 .br
 (.ob (.ob (.br
 (.exit (.obT (.rc)))
 (.br
 (.exit (.obT (.rc)))
 (.br
 (.exit (.obT (.rc)))
 (.br
 (.exit (.obT (.rc)))
 (.br
 (.exit (.obT (.rc)))
 (.next))))))))
 (.exit (.obT (.rc))))))
theorem jwl (u4:ByteArray) (u1:List (List NC)) (r:Bool) (h:Option.bind (jeb u4 u1) some=some r):jbg Tryz.f17 (sp0) (fun gs id _=>match id with
 |0=>some ⟨Int × Nat,fun z=>⟨[(1,.w (.c (.p 1 0 1 0))),(3,.w (.c (.d (.i .i64 z.1))))],[(1,.box 24 [.d (.s u4),.o 0]),(0,.xext (XC.st [NK.s,NK.i .i64,NK.ints .i64,NK.ints .i64,NK.ints .i64,NK.i .i64,NK.recs (5:Nat),NK.i .i64] u1))],2⟩,fun z=>(jjy u4 u1 r).inv z,fun z=>z.2⟩
 |_=>none) (ja8 jk1 [.d (.s u4),.x (.st [.s,.i .i64,.ints .i64,.ints .i64,.ints .i64,.i .i64,.recs 5,.i .i64] u1)]) [.c (.d (.b r))] :=
 Sk.vc (jx2 u4 u1 r) (by kernel_rfl) h
theorem jwm:jaf Tryz.prog 17 true (jal jk1 jk2):=by
 refine jaA (sp:=sp0) (fn:=Tryz.f17) (body:=bodyOf Tryz.f17) mixed jau Tryz.func17 (by kernel_rfl) (by kernel_rfl) fun ls t h ho b hb=>?_;unfold jk2 at h;split at h
 ·rename_i u4 u1;cases h;obtain rfl:=jaM hb;exact⟨Nat.le_of_ble_eq_true (by kernel_rfl),_,_,jwl u4 u1 _ (jaq ho)⟩
 ·cases h
theorem sp_17_ok {sp:jaa} (h:jac Tryz.prog sp):jac Tryz.prog (sp_17 sp):=jas jwm h
def joC:List (Option Cont):=[none]
def jhT (s:ByteArray) (x0:Int):Option (Int ⊕ (Unit ⊕ Unit)) :=
 if x0<(↑(ByteArray.size s):Int)then
  if 0≤x0∧x0<(↑(ByteArray.size s):Int)then
  if(↑(UInt8.toNat (Array.getD (ByteArray.data s) x0.toNat (0:UInt8))):Int)≥97 then
   if(↑(UInt8.toNat (Array.getD (ByteArray.data s) x0.toNat (0:UInt8))):Int)≤122 then
   some (.inl (wrap .i64 (x0+1)))
   else
   if(↑(UInt8.toNat (Array.getD (ByteArray.data s) x0.toNat (0:UInt8))):Int)≥65 then
    if(!decide ((↑(UInt8.toNat (Array.getD (ByteArray.data s) x0.toNat (0:UInt8))):Int)≤90))=true then
    if(x0==0)=true then
     some (.inr ((.inl ())))
    else
     if((↑(UInt8.toNat (Array.getD (ByteArray.data s) x0.toNat (0:UInt8))):Int)!=45)=true then
     if(↑(UInt8.toNat (Array.getD (ByteArray.data s) x0.toNat (0:UInt8))):Int)<48 then
      some (.inr ((.inl ())))
     else
      if(↑(UInt8.toNat (Array.getD (ByteArray.data s) x0.toNat (0:UInt8))):Int)>57 then
      some (.inr ((.inl ())))
      else
      some (.inl (wrap .i64 (x0+1)))
     else
     some (.inl (wrap .i64 (x0+1)))
    else
    some (.inl (wrap .i64 (x0+1)))
   else
    if(x0==0)=true then
    some (.inr ((.inl ())))
    else
    if((↑(UInt8.toNat (Array.getD (ByteArray.data s) x0.toNat (0:UInt8))):Int)!=45)=true then
     if(↑(UInt8.toNat (Array.getD (ByteArray.data s) x0.toNat (0:UInt8))):Int)<48 then
     some (.inr ((.inl ())))
     else
     if(↑(UInt8.toNat (Array.getD (ByteArray.data s) x0.toNat (0:UInt8))):Int)>57 then
      some (.inr ((.inl ())))
     else
      some (.inl (wrap .i64 (x0+1)))
    else
     some (.inl (wrap .i64 (x0+1)))
  else
   if(↑(UInt8.toNat (Array.getD (ByteArray.data s) x0.toNat (0:UInt8))):Int)≥65 then
   if(!decide ((↑(UInt8.toNat (Array.getD (ByteArray.data s) x0.toNat (0:UInt8))):Int)≤90))=true then
    if(x0==0)=true then
    some (.inr ((.inl ())))
    else
    if((↑(UInt8.toNat (Array.getD (ByteArray.data s) x0.toNat (0:UInt8))):Int)!=45)=true then
     if(↑(UInt8.toNat (Array.getD (ByteArray.data s) x0.toNat (0:UInt8))):Int)<48 then
     some (.inr ((.inl ())))
     else
     if(↑(UInt8.toNat (Array.getD (ByteArray.data s) x0.toNat (0:UInt8))):Int)>57 then
      some (.inr ((.inl ())))
     else
      some (.inl (wrap .i64 (x0+1)))
    else
     some (.inl (wrap .i64 (x0+1)))
   else
    some (.inl (wrap .i64 (x0+1)))
   else
   if(x0==0)=true then
    some (.inr ((.inl ())))
   else
    if((↑(UInt8.toNat (Array.getD (ByteArray.data s) x0.toNat (0:UInt8))):Int)!=45)=true then
    if(↑(UInt8.toNat (Array.getD (ByteArray.data s) x0.toNat (0:UInt8))):Int)<48 then
     some (.inr ((.inl ())))
    else
     if(↑(UInt8.toNat (Array.getD (ByteArray.data s) x0.toNat (0:UInt8))):Int)>57 then
     some (.inr ((.inl ())))
     else
     some (.inl (wrap .i64 (x0+1)))
    else
    some (.inl (wrap .i64 (x0+1)))
  else none
 else
  some (.inr ((.inr ())))
def jq5 (u5:Unit):Option Bool :=
 some false
def jq6 (u6:Unit):Option Bool :=
 some true
def jmI:(Unit ⊕ Unit)→Option Bool :=
 (Sum.elim (jq5) (jq6))
def y61 (s:ByteArray):Option Bool :=
 if(↑(ByteArray.size s):Int)<1 then
  some false
 else
  if(↑(ByteArray.size s):Int)>12 then
  some false
  else
  Option.bind (jak (jhT s) big (0:Int)) (jmI)
def jjz:List A→Option (Prop × List RV)
 |[.d (.s s)]=>some (ok (y61 s),[.d (.b ((val (y61 s))))])
 |_=>none
abbrev sp_81:jaa→jaa:=jaH 81 true (jaF joC jjz)
abbrev jmJ (s:ByteArray) (r:Bool):Lp (Int × Nat) Int (Unit ⊕ Unit) Bool Bool :=
 ⟨fun z=>z.1,fun z=>z.2,fun z x n=>(x,n),fun z=>jhT s,fun z=>jmI,fun z=>top r,fun z=>0,[.c fun _=>s,.c fun vv=>vv.1]⟩
def jwn (s:ByteArray) (r:Bool):Sk (top r) (y61 s) :=
 .br
 (.obT (.rc))
 (.br
 (.obT (.rc))
 (.loop (jmJ s r) (fun kk=>((0:Int),big)) fun z0 =>
 .br
 (.ob (.br
 (.br
 (.next)
 (.br
 (.brB
 (.brB
 (.exit (.obT (.rc)))
 (.brB
 (.br
 (.exit (.obT (.rc)))
 (.br
 (.exit (.obT (.rc)))
 (.next)))
 (.next)))
 (.next))
 (.brB
 (.exit (.obT (.rc)))
 (.brB
 (.br
 (.exit (.obT (.rc)))
 (.br
 (.exit (.obT (.rc)))
 (.next)))
 (.next)))))
 (.br
 (.brB
 (.brB
 (.exit (.obT (.rc)))
 (.brB
 (.br
 (.exit (.obT (.rc)))
 (.br
 (.exit (.obT (.rc)))
 (.next)))
 (.next)))
 (.next))
 (.brB
 (.exit (.obT (.rc)))
 (.brB
 (.br
 (.exit (.obT (.rc)))
 (.br
 (.exit (.obT (.rc)))
 (.next)))
 (.next))))))
 (.exit (.obT (.rc)))))
theorem juo (s:ByteArray) (r:Bool) (h:Option.bind (y61 s) some=some r):jcg Tryz.f81 (sp0) (fun gs id _=>match id with
 |0=>some ⟨Int × Nat,fun z=>⟨[(0,.w (.c (.d (.s s)))),(3,.w (.c (.d (.i .i64 z.1))))],[],1⟩,fun z=>(jmJ s r).inv z,fun z=>z.2⟩
 |_=>none) [.d (.s s)] [.d (.b r)] :=
 Sk.vc (jwn s r) (by kernel_rfl) h
theorem jup:jaf Tryz.prog 81 true (jaF joC jjz):=by
 refine jaQ (sp:=sp0) (fn:=Tryz.f81) (body:=bodyOf Tryz.f81) mixed jau Tryz.func81 (by kernel_rfl) (by kernel_rfl) fun as_ ob rs h ho=>?_;unfold jjz at h;split at h
 ·rename_i s;cases h;exact⟨Nat.le_of_ble_eq_true rfl,_,_,juo s _ (jaq ho)⟩
 ·cases h
theorem sp_81_ok {sp:jaa} (h:jac Tryz.prog sp):jac Tryz.prog (sp_81 sp):=jas jup h
def y137:List (Option Cont):=[none]
def y20 (sB0 sB1 sB2 sA0 sA1 x0:Int):Option (Int ⊕ (Unit ⊕ Unit)) :=
 if x0<(↑(List.length [sB0,sB1,sB2,sA0,sA1]):Int)then
  if 0≤x0∧x0<(↑(List.length [sB0,sB1,sB2,sA0,sA1]):Int)then
  if Int.toNat x0<List.length [sB0,sB1,sB2,sA0,sA1]then
   Option.bind (y5 (List.getD [sB0,sB1,sB2,sA0,sA1] x0.toNat (0:Int)) (-32768:Int) (32768:Int)) fun r0 =>
   if(!r0)=true then
   some (.inr ((.inl ())))
   else
   some (.inl (wrap .i64 (x0+1)))
  else none
  else none
 else
  some (.inr ((.inr ())))
def jiw (u5:Unit):Option Int :=
 some (2:Int)
def jix (u6:Unit):Option Int :=
 some (0:Int)
def y131:(Unit ⊕ Unit)→Option Int :=
 (Sum.elim (jiw) (jix))
def y25 (sB0 sB1 sB2 sA0 sA1:Int):Option Int :=
 Option.bind (jak (y20 sB0 sB1 sB2 sA0 sA1) big (0:Int)) (y131)
def y92:List A→Option (Prop × List RV)
 |[.s [.i .i64 sB0,.i .i64 sB1,.i .i64 sB2,.i .i64 sA0,.i .i64 sA1]]=>some (ok (y25 sB0 sB1 sB2 sA0 sA1),[.d (.i .i64 ((val (y25 sB0 sB1 sB2 sA0 sA1))))])
 |_=>none
abbrev sp_162:jaa→jaa:=jaH 162 true (jaF y137 y92)
abbrev y132 (sB0 sB1 sB2 sA0 sA1 r:Int):Lp (Int × Nat) Int (Unit ⊕ Unit) Int Int :=
 ⟨fun z=>z.1,fun z=>z.2,fun z x n=>(x,n),fun z=>y20 sB0 sB1 sB2 sA0 sA1,fun z=>y131,fun z=>top r,fun z=>0,[.c fun vv=>vv.1,.c fun _=>[sB0,sB1,sB2,sA0,sA1]]⟩
def jk3 (sB0 sB1 sB2 sA0 sA1 r:Int):Sk (top r) (y25 sB0 sB1 sB2 sA0 sA1) :=
 .obC ((0:Int)≤0∧(0:Int)<3) (by decide) (.obC ((0:Int)≤1∧(1:Int)<3) (by decide) (.obC ((0:Int)≤2∧(2:Int)<3) (by decide) (.obC ((0:Int)≤0∧(0:Int)<2) (by decide) (.obC ((0:Int)≤1∧(1:Int)<2) (by decide) (.loop (y132 sB0 sB1 sB2 sA0 sA1 r) (fun kk=>((0:Int),big)) fun z0 =>
 .br
 (.ob (.ob (.call (.brB
 (.exit (.obT (.rc)))
 (.next)))))
 (.exit (.obT (.rc))))))))
theorem jj3 (sB0 sB1 sB2 sA0 sA1 r:Int) (h:Option.bind (y25 sB0 sB1 sB2 sA0 sA1) some=some r):jcg Tryz.f162 ((sp_45 sp0)) (fun gs id _=>match id with
 |0=>some ⟨Int × Nat,fun z=>⟨[(3,.w (.c (.o 1))),(4,.w (.c (.d (.i .i64 z.1))))],[(1,.row 3 (.ints .i64 ([sB0,sB1,sB2,sA0,sA1])))],2⟩,fun z=>(y132 sB0 sB1 sB2 sA0 sA1 r).inv z,fun z=>z.2⟩
 |_=>none) [.s [.i .i64 sB0,.i .i64 sB1,.i .i64 sB2,.i .i64 sA0,.i .i64 sA1]] [.d (.i .i64 r)] :=
 Sk.vc (jk3 sB0 sB1 sB2 sA0 sA1 r) (by kernel_rfl) h
theorem jj4:jaf Tryz.prog 162 true (jaF y137 y92):=by
 refine jaQ (sp:=(sp_45 sp0)) (fn:=Tryz.f162) (body:=bodyOf Tryz.f162) mixed (sp_45_ok jau) Tryz.func162 (by kernel_rfl) (by kernel_rfl) fun as_ ob rs h ho=>?_;unfold y92 at h;split at h
 ·rename_i sB0 sB1 sB2 sA0 sA1;cases h;exact⟨Nat.le_of_ble_eq_true rfl,_,_,jj3 sB0 sB1 sB2 sA0 sA1 _ (jaq ho)⟩
 ·cases h
theorem sp_162_ok {sp:jaa} (h:jac Tryz.prog sp):jac Tryz.prog (sp_162 sp):=jas jj4 h
def y138:List (Option Cont):=[some (.recs 5 [])]
def y21 (c:List (List Int)) (x0:Int):Option (Int ⊕ ((Int × Int) ⊕ Unit)) :=
 if x0<(↑c.length:Int)then
  if 0≤x0∧x0<(↑c.length:Int)then
  if Int.toNat x0<List.length c then
   Option.bind (y25 (List.getD (List.getD c x0.toNat []) 0 (0:Int)) (List.getD (List.getD c x0.toNat []) 1 (0:Int)) (List.getD (List.getD c x0.toNat []) 2 (0:Int)) (List.getD (List.getD c x0.toNat []) 3 (0:Int)) (List.getD (List.getD c x0.toNat []) 4 (0:Int))) fun r0 =>
   if(r0 != 0)=true then
   some (.inr ((.inl (x0,r0))))
   else
   some (.inl (wrap .i64 (x0+1)))
  else none
  else none
 else
  some (.inr ((.inr ())))
def jiy (u5:Int × Int):Option (Int × Int) :=
 some (u5.1,u5.2)
def jiz (u6:Unit):Option (Int × Int) :=
 some (((0:Int),0))
def y133:((Int × Int) ⊕ Unit)→Option (Int × Int) :=
 (Sum.elim (jiy) (jiz))
def y10 (c:List (List Int)):Option (Int × Int) :=
 if(↑c.length:Int)>6 then
  some (((0:Int),8))
 else
  Option.bind (jak (y21 c) big (0:Int)) (y133)
def y93:List A→Option (Prop × List RV)
 |[.r (.recs 5 c)]=>some (ok (y10 c),[.d (.i .i64 ((val (y10 c)).1)),.d (.i .i64 ((val (y10 c)).2))])
 |_=>none
abbrev sp_131:jaa→jaa:=jaH 131 true (jaF y138 y93)
abbrev y134 (c:List (List Int)) (r:Int × Int):Lp (Int × Nat) Int (((Int × Int) ⊕ Unit)) (Int × Int) (Int × Int) :=
 ⟨fun z=>z.1,fun z=>z.2,fun z x n=>(x,n),fun z=>y21 c,fun z=>y133,fun z=>top r,fun z=>0,[.c fun vv=>vv.1,.c fun _=>c]⟩
def jk4 (c:List (List Int)) (r:Int × Int):Sk (top r) (y10 c) :=
 .br
 (.obT (.obT (.rc)))
 (.loop (y134 c r) (fun kk=>((0:Int),big)) fun z0 =>
 .br
 (.ob (.ob (.call (.brB
 (.exit (.obT (.obT (.rc))))
 (.next)))))
 (.exit (.obT (.obT (.rc)))))
theorem jj5 (c:List (List Int)) (r:Int × Int) (h:Option.bind (y10 c) some=some r):jcg Tryz.f131 ((sp_162 sp0)) (fun gs id _=>match id with
 |0=>some ⟨Int × Nat,fun z=>⟨[(0,.w (.c (.o 0))),(4,.w (.c (.d (.i .i64 z.1))))],[(0,.ext (.recs 5 c))],1⟩,fun z=>(y134 c r).inv z,fun z=>z.2⟩
 |_=>none) [.r (.recs 5 c)] [.d (.i .i64 r.1),.d (.i .i64 r.2)] :=
 Sk.vc (jk4 c r) (by kernel_rfl) h
theorem jj6:jaf Tryz.prog 131 true (jaF y138 y93):=by
 refine jaQ (sp:=(sp_162 sp0)) (fn:=Tryz.f131) (body:=bodyOf Tryz.f131) mixed (sp_162_ok jau) Tryz.func131 (by kernel_rfl) (by kernel_rfl) fun as_ ob rs h ho=>?_;unfold y93 at h;split at h
 ·rename_i c;cases h;exact⟨Nat.le_of_ble_eq_true rfl,_,_,jj5 c _ (jaq ho)⟩
 ·cases h
theorem sp_131_ok {sp:jaa} (h:jac Tryz.prog sp):jac Tryz.prog (sp_131 sp):=jas jj6 h
end Go.Sh
end

section
namespace Go.Sh
open Go Go.Proofs Go.RowKit Go.Sx
open Go.IntKind (wrap)
def jfT:List SV:=[.a [.d,.x (.st [.s,.i .i64,.ints .i64,.ints .i64,.ints .i64,.i .i64,.recs 5,.i .i64] [])],.c (.d)]
def y55 (u1:List (List NC)) (i x0:Int):Option (Int ⊕ (Unit ⊕ Unit)) :=
 if x0<i then
  if 0≤x0∧x0<(↑u1.length:Int)then
  if Int.toNat x0<List.length u1 then
   if(nS u1 x0.toNat (0:Nat)==nS u1 i.toNat (0:Nat))=true then
   some (.inr ((.inl ())))
   else
   some (.inl (wrap .i64 (x0+1)))
  else none
  else none
 else
  some (.inr ((.inr ())))
def jnl (u1:List (List NC)) (i:Int) (u5:Unit):Option Int :=
 some (5:Int)
def y3 (u1:List (List NC)) (i x1:Int):Option (Int ⊕ (Unit ⊕ Unit)) :=
 if x1<(↑(List.length (nL u1 i.toNat (2:Nat))):Int)then
  if 0≤x1∧x1<(↑(List.length (nL u1 i.toNat (2:Nat))):Int)then
  if Int.toNat x1<List.length (nL u1 i.toNat (2:Nat))then
   Option.bind (y5 (List.getD (nL u1 i.toNat (2:Nat)) x1.toNat (0:Int)) (0:Int) (wrap .i64 ((↑u1.length:Int)-1))) fun r3 =>
   if(!r3)=true then
   some (.inr ((.inl ())))
   else
   some (.inl (wrap .i64 (x1+1)))
  else none
  else none
 else
  some (.inr ((.inr ())))
def jnm (u1:List (List NC)) (i:Int) (u35:Unit):Option Int :=
 some (6:Int)
def y37 (u1:List (List NC)) (i x2:Int):Option (Int ⊕ (Unit ⊕ Unit)) :=
 if x2<(↑(List.length (nL u1 i.toNat (2:Nat))):Int)then
  if 0≤Option.getD none (0:Int)∧Option.getD none 0≤Option.getD (some x2) (↑(List.length (nL u1 i.toNat (2:Nat))):Int)∧Option.getD (some x2) (↑(List.length (nL u1 i.toNat (2:Nat))):Int)≤(↑(List.length (nL u1 i.toNat (2:Nat))):Int)then
  if 0≤x2∧x2<(↑(List.length (nL u1 i.toNat (2:Nat))):Int)then
   if Int.toNat x2<List.length (nL u1 i.toNat (2:Nat))then
   Option.bind (jeu (List.take (Int.toNat (Option.getD (some x2) (↑(List.length (nL u1 i.toNat (2:Nat))):Int))-0) (List.drop (0:Nat) (nL u1 i.toNat (2:Nat)))) (List.getD (nL u1 i.toNat (2:Nat)) x2.toNat (0:Int))) fun r5 =>
   if(r5)=true then
    some (.inr ((.inl ())))
   else
    some (.inl (wrap .i64 (x2+1)))
   else none
  else none
  else none
 else
  some (.inr ((.inr ())))
def jnn (u1:List (List NC)) (i:Int) (u63:Unit):Option Int :=
 some (26:Int)
def y56 (u1:List (List NC)) (i x3:Int):Option (Int ⊕ (Unit ⊕ Unit)) :=
 if x3<(↑(List.length (nL u1 i.toNat (3:Nat))):Int)then
  if 0≤x3∧x3<(↑(List.length (nL u1 i.toNat (3:Nat))):Int)then
  if Int.toNat x3<List.length (nL u1 i.toNat (3:Nat))then
   Option.bind (y5 (List.getD (nL u1 i.toNat (3:Nat)) x3.toNat (0:Int)) (0:Int) (64:Int)) fun r6 =>
   if(!r6)=true then
   some (.inr ((.inl ())))
   else
   some (.inl (wrap .i64 (x3+1)))
  else none
  else none
 else
  some (.inr ((.inr ())))
def jno (u1:List (List NC)) (i:Int) (u64:Unit):Option Int :=
 some (2:Int)
def y38 (u1:List (List NC)) (i x4:Int):Option (Int ⊕ (Unit ⊕ Unit)) :=
 if x4<(↑(List.length (nL u1 i.toNat (4:Nat))):Int)then
  if 0≤x4∧x4<(↑(List.length (nL u1 i.toNat (4:Nat))):Int)then
  if Int.toNat x4<List.length (nL u1 i.toNat (4:Nat))then
   Option.bind (y5 (List.getD (nL u1 i.toNat (4:Nat)) x4.toNat (0:Int)) (-4000:Int) (4000:Int)) fun r7 =>
   if(!r7)=true then
   some (.inr ((.inl ())))
   else
   some (.inl (wrap .i64 (x4+1)))
  else none
  else none
 else
  some (.inr ((.inr ())))
def jnp (u1:List (List NC)) (i:Int) (u66:Unit):Option Int :=
 some (2:Int)
def y108 (u1:List (List NC)) (i:Int) (u67:Unit):Option Int :=
 Option.bind (y5 (nI u1 i.toNat (5:Nat)) (0:Int) (64:Int)) fun r8 =>
 if(!r8)=true then
  some (2:Int)
 else
  if(nI u1 i.toNat (1:Nat)!=2)=true then
  if(nI u1 i.toNat (5:Nat)!=0)=true then
   some (2:Int)
  else
   if(nI u1 i.toNat (1:Nat)!=3)=true then
   if(↑(List.length (nR u1 i.toNat (6:Nat))):Int)>0 then
    some (10:Int)
   else
    some (0:Int)
   else
   Option.bind (y10 (nR u1 i.toNat (6:Nat))) fun r9 =>
   some r9.2
  else
  if(nI u1 i.toNat (1:Nat)!=3)=true then
   if(↑(List.length (nR u1 i.toNat (6:Nat))):Int)>0 then
   some (10:Int)
   else
   some (0:Int)
  else
   Option.bind (y10 (nR u1 i.toNat (6:Nat))) fun r9 =>
   some r9.2
def jeX (u1:List (List NC)) (i:Int):(Unit ⊕ Unit)→Option Int :=
 (Sum.elim (jnp u1 i) (y108 u1 i))
def y109 (u1:List (List NC)) (i:Int) (u68:Unit):Option Int :=
 Option.bind (jak (y38 u1 i) big (0:Int)) (jeX u1 i)
def jiA (u1:List (List NC)) (i:Int):(Unit ⊕ Unit)→Option Int :=
 (Sum.elim (jno u1 i) (y109 u1 i))
def y110 (u1:List (List NC)) (i:Int) (u69:Unit):Option Int :=
 Option.bind (jak (y56 u1 i) big (0:Int)) (jiA u1 i)
def y100 (u1:List (List NC)) (i:Int):(Unit ⊕ Unit)→Option Int :=
 (Sum.elim (jnn u1 i) (y110 u1 i))
def y111 (u1:List (List NC)) (i:Int) (u65:Unit):Option Int :=
 Option.bind (y5 (nI u1 i.toNat (7:Nat)) (-1:Int) (wrap .i64 ((↑u1.length:Int)-1))) fun r4 =>
 if(!r4)=true then
  some (6:Int)
 else
  Option.bind (jak (y37 u1 i) big (0:Int)) (y100 u1 i)
def y7 (u1:List (List NC)) (i:Int):(Unit ⊕ Unit)→Option Int :=
 (Sum.elim (jnm u1 i) (y111 u1 i))
def y81 (u1:List (List NC)) (i:Int) (u6:Unit):Option Int :=
 Option.bind (y5 (nI u1 i.toNat (1:Nat)) (0:Int) (4:Int)) fun r1 =>
 if(!r1)=true then
  some (15:Int)
 else
  if(nI u1 i.toNat (1:Nat)==0)=true then
  if(nI u1 i.toNat (1:Nat)==1)=true then
   if(nI u1 i.toNat (1:Nat)==1)=true then
   Option.bind (y5 (↑(List.length (nL u1 i.toNat (2:Nat))):Int) (0:Int) (6:Int)) fun r2 =>
   if(!r2)=true then
    some (10:Int)
   else
    if((↑(List.length (nL u1 i.toNat (3:Nat))):Int)!=(↑(List.length (nL u1 i.toNat (2:Nat))):Int))=true then
    some (10:Int)
    else
    if((↑(List.length (nL u1 i.toNat (4:Nat))):Int)!=(↑(List.length (nL u1 i.toNat (2:Nat))):Int))=true then
     some (10:Int)
    else
     Option.bind (jak (y3 u1 i) big (0:Int)) (y7 u1 i)
   else
   Option.bind (y5 (↑(List.length (nL u1 i.toNat (2:Nat))):Int) (0:Int) (6:Int)) fun r2 =>
   if(!r2)=true then
    some (10:Int)
   else
    if((↑(List.length (nL u1 i.toNat (3:Nat))):Int)!=(↑(List.length (nL u1 i.toNat (2:Nat))):Int))=true then
    some (10:Int)
    else
    if((↑(List.length (nL u1 i.toNat (4:Nat))):Int)!=0)=true then
     some (10:Int)
    else
     Option.bind (jak (y3 u1 i) big (0:Int)) (y7 u1 i)
  else
   if(nI u1 i.toNat (1:Nat)==1)=true then
   Option.bind (y5 (↑(List.length (nL u1 i.toNat (2:Nat))):Int) (0:Int) (0:Int)) fun r10 =>
   if(!r10)=true then
    some (10:Int)
   else
    if((↑(List.length (nL u1 i.toNat (3:Nat))):Int)!=(↑(List.length (nL u1 i.toNat (2:Nat))):Int))=true then
    some (10:Int)
    else
    if((↑(List.length (nL u1 i.toNat (4:Nat))):Int)!=(↑(List.length (nL u1 i.toNat (2:Nat))):Int))=true then
     some (10:Int)
    else
     Option.bind (jak (y3 u1 i) big (0:Int)) (y7 u1 i)
   else
   Option.bind (y5 (↑(List.length (nL u1 i.toNat (2:Nat))):Int) (0:Int) (0:Int)) fun r10 =>
   if(!r10)=true then
    some (10:Int)
   else
    if((↑(List.length (nL u1 i.toNat (3:Nat))):Int)!=(↑(List.length (nL u1 i.toNat (2:Nat))):Int))=true then
    some (10:Int)
    else
    if((↑(List.length (nL u1 i.toNat (4:Nat))):Int)!=0)=true then
     some (10:Int)
    else
     Option.bind (jak (y3 u1 i) big (0:Int)) (y7 u1 i)
  else
  if(nI u1 i.toNat (1:Nat)==1)=true then
   if(nI u1 i.toNat (1:Nat)==1)=true then
   Option.bind (y5 (↑(List.length (nL u1 i.toNat (2:Nat))):Int) (1:Int) (6:Int)) fun r11 =>
   if(!r11)=true then
    some (10:Int)
   else
    if((↑(List.length (nL u1 i.toNat (3:Nat))):Int)!=(↑(List.length (nL u1 i.toNat (2:Nat))):Int))=true then
    some (10:Int)
    else
    if((↑(List.length (nL u1 i.toNat (4:Nat))):Int)!=(↑(List.length (nL u1 i.toNat (2:Nat))):Int))=true then
     some (10:Int)
    else
     Option.bind (jak (y3 u1 i) big (0:Int)) (y7 u1 i)
   else
   Option.bind (y5 (↑(List.length (nL u1 i.toNat (2:Nat))):Int) (1:Int) (6:Int)) fun r11 =>
   if(!r11)=true then
    some (10:Int)
   else
    if((↑(List.length (nL u1 i.toNat (3:Nat))):Int)!=(↑(List.length (nL u1 i.toNat (2:Nat))):Int))=true then
    some (10:Int)
    else
    if((↑(List.length (nL u1 i.toNat (4:Nat))):Int)!=0)=true then
     some (10:Int)
    else
     Option.bind (jak (y3 u1 i) big (0:Int)) (y7 u1 i)
  else
   if(nI u1 i.toNat (1:Nat)==1)=true then
   Option.bind (y5 (↑(List.length (nL u1 i.toNat (2:Nat))):Int) (1:Int) (1:Int)) fun r12 =>
   if(!r12)=true then
    some (10:Int)
   else
    if((↑(List.length (nL u1 i.toNat (3:Nat))):Int)!=(↑(List.length (nL u1 i.toNat (2:Nat))):Int))=true then
    some (10:Int)
    else
    if((↑(List.length (nL u1 i.toNat (4:Nat))):Int)!=(↑(List.length (nL u1 i.toNat (2:Nat))):Int))=true then
     some (10:Int)
    else
     Option.bind (jak (y3 u1 i) big (0:Int)) (y7 u1 i)
   else
   Option.bind (y5 (↑(List.length (nL u1 i.toNat (2:Nat))):Int) (1:Int) (1:Int)) fun r12 =>
   if(!r12)=true then
    some (10:Int)
   else
    if((↑(List.length (nL u1 i.toNat (3:Nat))):Int)!=(↑(List.length (nL u1 i.toNat (2:Nat))):Int))=true then
    some (10:Int)
    else
    if((↑(List.length (nL u1 i.toNat (4:Nat))):Int)!=0)=true then
     some (10:Int)
    else
     Option.bind (jak (y3 u1 i) big (0:Int)) (y7 u1 i)
def jeY (u1:List (List NC)) (i:Int):(Unit ⊕ Unit)→Option Int :=
 (Sum.elim (jnl u1 i) (y81 u1 i))
def y62 (u4:ByteArray) (u1:List (List NC)) (i:Int):Option Int :=
 if 0≤i∧i<(↑u1.length:Int)then
  if Int.toNat i<List.length u1 then
  Option.bind (y61 (nS u1 i.toNat (0:Nat))) fun r0 =>
  if(!r0)=true then
   some (4:Int)
  else
   if(nS u1 i.toNat (0:Nat)==ByteArray.mk #[(115:UInt8),(116:UInt8),(97:UInt8),(110:UInt8),(100:UInt8)])=true then
   some (4:Int)
   else
   Option.bind (jak (y55 u1 i) big (0:Int)) (jeY u1 i)
  else none
 else none
def jfU:List Lf→Option GT
 |[.d (.s u4),.x (.st [.s,.i .i64,.ints .i64,.ints .i64,.ints .i64,.i .i64,.recs 5,.i .i64] u1),.d (.i .i64 i)]=>some (.leaf (ok (y62 u4 u1 i)) [.c (.d (.i .i64 ((val (y62 u4 u1 i)))))])
 |_=>none
abbrev sp_82:jaa→jaa:=jaH 82 true (jal jfT jfU)
abbrev jiB (u4:ByteArray) (u1:List (List NC)) (i r:Int):Lp (Int × Nat) Int (Unit ⊕ Unit) Int Int :=
 ⟨fun z=>z.1,fun z=>z.2,fun z x n=>(x,n),fun z=>y55 u1 i,fun z=>jeY u1 i,fun z=>top r,fun z=>0,[.c fun _=>i,.c fun _=>0,.c fun _=>0,.c fun vv=>vv.1,.c fun _=>u4,.c fun _=>nS u1 i.toNat (0:Nat),.c fun _=>nI u1 i.toNat (1:Nat),.c fun _=>nI u1 i.toNat (5:Nat),.c fun _=>nI u1 i.toNat (7:Nat),.c fun _=>u1,.c fun _=>nL u1 i.toNat (2:Nat),.c fun _=>nL u1 i.toNat (3:Nat),.c fun _=>nL u1 i.toNat (4:Nat),.c fun _=>nR u1 i.toNat (6:Nat)]⟩
abbrev jiC (u4:ByteArray) (u1:List (List NC)) (i r:Int):Lp (Unit × Int × Nat) Int (Unit ⊕ Unit) Int Int :=
 ⟨fun z=>z.2.1,fun z=>z.2.2,fun z x n=>((),x,n),fun z=>y3 u1 i,fun z=>y7 u1 i,fun z=>top r,fun z=>0,[.c fun _=>0,.c fun _=>0,.c fun vv=>vv.2.1,.c fun _=>u4,.c fun _=>nS u1 i.toNat (0:Nat),.c fun _=>nI u1 i.toNat (1:Nat),.c fun _=>nI u1 i.toNat (5:Nat),.c fun _=>nI u1 i.toNat (7:Nat),.c fun _=>u1,.c fun _=>nL u1 i.toNat (2:Nat),.c fun _=>nL u1 i.toNat (3:Nat),.c fun _=>nL u1 i.toNat (4:Nat),.c fun _=>nR u1 i.toNat (6:Nat)]⟩
abbrev jiD (u4:ByteArray) (u1:List (List NC)) (i r:Int):Lp (Unit × Unit × Int × Nat) Int (Unit ⊕ Unit) Int Int :=
 ⟨fun z=>z.2.2.1,fun z=>z.2.2.2,fun z x n=>((),(),x,n),fun z=>y37 u1 i,fun z=>y100 u1 i,fun z=>top r,fun z=>0,[.c fun _=>0,.c fun vv=>vv.2.2.1,.c fun _=>nS u1 i.toNat (0:Nat),.c fun _=>nI u1 i.toNat (1:Nat),.c fun _=>nI u1 i.toNat (5:Nat),.c fun _=>nI u1 i.toNat (7:Nat),.c fun _=>nL u1 i.toNat (2:Nat),.c fun _=>nL u1 i.toNat (3:Nat),.c fun _=>nL u1 i.toNat (4:Nat),.c fun _=>nR u1 i.toNat (6:Nat)]⟩
abbrev jiE (u4:ByteArray) (u1:List (List NC)) (i r:Int):Lp (Unit × Unit × Unit × Int × Nat) Int (Unit ⊕ Unit) Int Int :=
 ⟨fun z=>z.2.2.2.1,fun z=>z.2.2.2.2,fun z x n=>((),(),(),x,n),fun z=>y56 u1 i,fun z=>jiA u1 i,fun z=>top r,fun z=>0,[.c fun _=>0,.c fun vv=>vv.2.2.2.1,.c fun _=>nS u1 i.toNat (0:Nat),.c fun _=>nI u1 i.toNat (1:Nat),.c fun _=>nI u1 i.toNat (5:Nat),.c fun _=>nI u1 i.toNat (7:Nat),.c fun _=>nL u1 i.toNat (2:Nat),.c fun _=>nL u1 i.toNat (3:Nat),.c fun _=>nL u1 i.toNat (4:Nat),.c fun _=>nR u1 i.toNat (6:Nat)]⟩
abbrev jiF (u4:ByteArray) (u1:List (List NC)) (i r:Int):Lp (Unit × Unit × Unit × Unit × Int × Nat) Int (Unit ⊕ Unit) Int Int :=
 ⟨fun z=>z.2.2.2.2.1,fun z=>z.2.2.2.2.2,fun z x n=>((),(),(),(),x,n),fun z=>y38 u1 i,fun z=>jeX u1 i,fun z=>top r,fun z=>0,[.c fun _=>0,.c fun vv=>vv.2.2.2.2.1,.c fun _=>nS u1 i.toNat (0:Nat),.c fun _=>nI u1 i.toNat (1:Nat),.c fun _=>nI u1 i.toNat (5:Nat),.c fun _=>nI u1 i.toNat (7:Nat),.c fun _=>nL u1 i.toNat (2:Nat),.c fun _=>nL u1 i.toNat (3:Nat),.c fun _=>nL u1 i.toNat (4:Nat),.c fun _=>nR u1 i.toNat (6:Nat)]⟩
def jpL (u4:ByteArray) (u1:List (List NC)) (i r:Int):Sk (top r) (Option.bind (jak (y38 u1 i) big (0:Int)) (jeX u1 i)) :=
 .loop (jiF u4 u1 i r) (fun kk=>((),(),(),(),0,big)) fun z0 =>
 .br
 (.ob (.ob (.call (.brB
 (.exit (.obT (.rc)))
 (.next)))))
 (.exit (.call (.brB
 (.obT (.rc))
 (.brB
 (.brB
 (.obT (.rc))
 (.brB
 (.br
 (.obT (.rc))
 (.obT (.rc)))
 (.call (.obT (.rc)))))
 (.brB
 (.br
 (.obT (.rc))
 (.obT (.rc)))
 (.call (.obT (.rc))))))))
def jpM (u4:ByteArray) (u1:List (List NC)) (i r:Int):Sk (top r) (Option.bind (jak (y37 u1 i) big (0:Int)) (y100 u1 i)) :=
 .loop (jiD u4 u1 i r) (fun kk=>((),(),0,big)) fun z0 =>
 .br
 (.ob (.ob (.ob (.call (.brB
 (.exit (.obT (.rc)))
 (.next))))))
 (.exit (.loop (jiE u4 u1 i r) (fun kk=>((),(),(),0,big)) fun z0 =>
 .br
 (.ob (.ob (.call (.brB
 (.exit (.obT (.rc)))
 (.next)))))
 (.exit (jpL u4 u1 i r))))
def y26 (u4:ByteArray) (u1:List (List NC)) (i r:Int):Sk (top r) (Option.bind (jak (y3 u1 i) big (0:Int)) (y7 u1 i)) :=
 .loop (jiC u4 u1 i r) (fun kk=>((),0,big)) fun z0 =>
 .br
 (.ob (.ob (.call (.brB
 (.exit (.obT (.rc)))
 (.next)))))
 (.exit (.call (.brB
 (.obT (.rc))
 (jpM u4 u1 i r))))
def jpN (u4:ByteArray) (u1:List (List NC)) (i r:Int):Sk (top r) (y81 u1 i ()) :=
 .call (.brB
 (.obT (.rc))
 (.brB
 (.brB
 (.brB
 (.call (.brB
 (.obT (.rc))
 (.brB
 (.obT (.rc))
 (.brB
 (.obT (.rc))
 (y26 u4 u1 i r)))))
 (.call (.brB
 (.obT (.rc))
 (.brB
 (.obT (.rc))
 (.brB
 (.obT (.rc))
 (y26 u4 u1 i r))))))
 (.brB
 (.call (.brB
 (.obT (.rc))
 (.brB
 (.obT (.rc))
 (.brB
 (.obT (.rc))
 (y26 u4 u1 i r)))))
 (.call (.brB
 (.obT (.rc))
 (.brB
 (.obT (.rc))
 (.brB
 (.obT (.rc))
 (y26 u4 u1 i r)))))))
 (.brB
 (.brB
 (.call (.brB
 (.obT (.rc))
 (.brB
 (.obT (.rc))
 (.brB
 (.obT (.rc))
 (y26 u4 u1 i r)))))
 (.call (.brB
 (.obT (.rc))
 (.brB
 (.obT (.rc))
 (.brB
 (.obT (.rc))
 (y26 u4 u1 i r))))))
 (.brB
 (.call (.brB
 (.obT (.rc))
 (.brB
 (.obT (.rc))
 (.brB
 (.obT (.rc))
 (y26 u4 u1 i r)))))
 (.call (.brB
 (.obT (.rc))
 (.brB
 (.obT (.rc))
 (.brB
 (.obT (.rc))
 (y26 u4 u1 i r)))))))))
def jq7 (u4:ByteArray) (u1:List (List NC)) (i r:Int):Sk (top r) (y62 u4 u1 i) :=
 .ob (.ob (.call (.brB
 (.obT (.rc))
 (.brB
 (.obT (.rc))
 (.loop (jiB u4 u1 i r) (fun kk=>((0:Int),big)) fun z0 =>
 .br
 (.ob (.ob (.brB
 (.exit (.obT (.rc)))
 (.next))))
 (.exit (jpN u4 u1 i r)))))))
theorem jpO (u4:ByteArray) (u1:List (List NC)) (i r:Int) (h:Option.bind (y62 u4 u1 i) some=some r):jbg Tryz.f82 ((sp_81 (sp_48 (sp_45 (sp_131 sp0))))) (fun gs id _=>match id with
 |0=>some ⟨Int × Nat,fun z=>⟨[(1,.w (.c (.d (.i .i64 i)))),(2,.w (.c (.p 1 0 1 0))),(5,.w (.c (.p 2 0 1 0))),(6,.w (.c (.d (.i .i64 z.1))))],[(1,.box 24 [.d (.s u4),.o 0]),(2,.box 118 [.d (.s (nS u1 i.toNat (0:Nat))),.d (.i .i64 (nI u1 i.toNat (1:Nat))),.o 3,.o 4,.o 5,.d (.i .i64 (nI u1 i.toNat (5:Nat))),.o 6,.d (.i .i64 (nI u1 i.toNat (7:Nat)))]),(0,.xext (XC.st [NK.s,NK.i .i64,NK.ints .i64,NK.ints .i64,NK.ints .i64,NK.i .i64,NK.recs (5:Nat),NK.i .i64] u1)),(3,.ext (.ints .i64 (nL u1 i.toNat (2:Nat)))),(4,.ext (.ints .i64 (nL u1 i.toNat (3:Nat)))),(5,.ext (.ints .i64 (nL u1 i.toNat (4:Nat)))),(6,.ext (.recs 5 (nR u1 i.toNat (6:Nat))))],7⟩,fun z=>(jiB u4 u1 i r).inv z,fun z=>z.2⟩
 |2=>some ⟨Unit × Int × Nat,fun z=>⟨[(2,.w (.c (.p 1 0 1 0))),(5,.w (.c (.p 2 0 1 0))),(10,.w (.c (.d (.i .i64 z.2.1))))],[(1,.box 24 [.d (.s u4),.o 0]),(2,.box 118 [.d (.s (nS u1 i.toNat (0:Nat))),.d (.i .i64 (nI u1 i.toNat (1:Nat))),.o 3,.o 4,.o 5,.d (.i .i64 (nI u1 i.toNat (5:Nat))),.o 6,.d (.i .i64 (nI u1 i.toNat (7:Nat)))]),(0,.xext (XC.st [NK.s,NK.i .i64,NK.ints .i64,NK.ints .i64,NK.ints .i64,NK.i .i64,NK.recs (5:Nat),NK.i .i64] u1)),(3,.ext (.ints .i64 (nL u1 i.toNat (2:Nat)))),(4,.ext (.ints .i64 (nL u1 i.toNat (3:Nat)))),(5,.ext (.ints .i64 (nL u1 i.toNat (4:Nat)))),(6,.ext (.recs 5 (nR u1 i.toNat (6:Nat))))],7⟩,fun z=>(jiC u4 u1 i r).inv z,fun z=>z.2.2⟩
 |4=>some ⟨Unit × Unit × Int × Nat,fun z=>⟨[(5,.w (.c (.p 1 0 1 0))),(11,.w (.c (.d (.i .i64 z.2.2.1))))],[(1,.box 118 [.d (.s (nS u1 i.toNat (0:Nat))),.d (.i .i64 (nI u1 i.toNat (1:Nat))),.o 2,.o 3,.o 4,.d (.i .i64 (nI u1 i.toNat (5:Nat))),.o 5,.d (.i .i64 (nI u1 i.toNat (7:Nat)))]),(2,.ext (.ints .i64 (nL u1 i.toNat (2:Nat)))),(3,.ext (.ints .i64 (nL u1 i.toNat (3:Nat)))),(4,.ext (.ints .i64 (nL u1 i.toNat (4:Nat)))),(5,.ext (.recs 5 (nR u1 i.toNat (6:Nat))))],6⟩,fun z=>(jiD u4 u1 i r).inv z,fun z=>z.2.2.2⟩
 |6=>some ⟨Unit × Unit × Unit × Int × Nat,fun z=>⟨[(5,.w (.c (.p 1 0 1 0))),(12,.w (.c (.d (.i .i64 z.2.2.2.1))))],[(1,.box 118 [.d (.s (nS u1 i.toNat (0:Nat))),.d (.i .i64 (nI u1 i.toNat (1:Nat))),.o 2,.o 3,.o 4,.d (.i .i64 (nI u1 i.toNat (5:Nat))),.o 5,.d (.i .i64 (nI u1 i.toNat (7:Nat)))]),(2,.ext (.ints .i64 (nL u1 i.toNat (2:Nat)))),(3,.ext (.ints .i64 (nL u1 i.toNat (3:Nat)))),(4,.ext (.ints .i64 (nL u1 i.toNat (4:Nat)))),(5,.ext (.recs 5 (nR u1 i.toNat (6:Nat))))],6⟩,fun z=>(jiE u4 u1 i r).inv z,fun z=>z.2.2.2.2⟩
 |8=>some ⟨Unit × Unit × Unit × Unit × Int × Nat,fun z=>⟨[(5,.w (.c (.p 1 0 1 0))),(13,.w (.c (.d (.i .i64 z.2.2.2.2.1))))],[(1,.box 118 [.d (.s (nS u1 i.toNat (0:Nat))),.d (.i .i64 (nI u1 i.toNat (1:Nat))),.o 2,.o 3,.o 4,.d (.i .i64 (nI u1 i.toNat (5:Nat))),.o 5,.d (.i .i64 (nI u1 i.toNat (7:Nat)))]),(2,.ext (.ints .i64 (nL u1 i.toNat (2:Nat)))),(3,.ext (.ints .i64 (nL u1 i.toNat (3:Nat)))),(4,.ext (.ints .i64 (nL u1 i.toNat (4:Nat)))),(5,.ext (.recs 5 (nR u1 i.toNat (6:Nat))))],6⟩,fun z=>(jiF u4 u1 i r).inv z,fun z=>z.2.2.2.2.2⟩
 |_=>none) (ja8 jfT [.d (.s u4),.x (.st [.s,.i .i64,.ints .i64,.ints .i64,.ints .i64,.i .i64,.recs 5,.i .i64] u1),.d (.i .i64 i)]) [.c (.d (.i .i64 r))] :=
 Sk.vc (jq7 u4 u1 i r) (by kernel_rfl) h
theorem jpP:jaf Tryz.prog 82 true (jal jfT jfU):=by
 refine jaA (sp:=(sp_81 (sp_48 (sp_45 (sp_131 sp0))))) (fn:=Tryz.f82) (body:=bodyOf Tryz.f82) mixed (sp_81_ok (sp_48_ok (sp_45_ok (sp_131_ok jau)))) Tryz.func82 (by kernel_rfl) (by kernel_rfl) fun ls t h ho b hb=>?_;unfold jfU at h;split at h
 ·rename_i u4 u1 i;cases h;obtain rfl:=jaM hb;exact⟨Nat.le_of_ble_eq_true (by kernel_rfl),_,_,jpO u4 u1 i _ (jaq ho)⟩
 ·cases h
theorem sp_82_ok {sp:jaa} (h:jac Tryz.prog sp):jac Tryz.prog (sp_82 sp):=jas jpP h
end Go.Sh
end

section
namespace Go.Sh
open Go Go.Proofs Go.RowKit Go.Sx
open Go.IntKind (wrap)
def y112:List SV:=[.a [.d,.x (.st [.s,.i .i64,.ints .i64,.ints .i64,.ints .i64,.i .i64,.recs 5,.i .i64] [])]]
def y30 (u4:ByteArray) (u1:List (List NC)) (x0:Int):Option (Int ⊕ ((Int × Int) ⊕ Unit)) :=
 if x0<(↑u1.length:Int)then
  Option.bind (y62 u4 u1 x0) fun r1 =>
  if(r1 != 0)=true then
  some (.inr ((.inl (x0,r1))))
  else
  some (.inl (wrap .i64 (x0+1)))
 else
  some (.inr ((.inr ())))
def jj7 (u5:Int × Int):Option (Int × Int) :=
 some (u5.1,u5.2)
def jj8 (u6:Unit):Option (Int × Int) :=
 some (((0:Int),0))
def jga:((Int × Int) ⊕ Unit)→Option (Int × Int) :=
 (Sum.elim (jj7) (jj8))
def y27 (u4:ByteArray) (u1:List (List NC)):Option (Int × Int) :=
 Option.bind (y61 u4) fun r0 =>
 if(!r0)=true then
  some (((0:Int),4))
 else
  if(↑u1.length:Int)>24 then
  some (((0:Int),8))
  else
  Option.bind (jak (y30 u4 u1) big (0:Int)) (jga)
def y113:List Lf→Option GT
 |[.d (.s u4),.x (.st [.s,.i .i64,.ints .i64,.ints .i64,.ints .i64,.i .i64,.recs 5,.i .i64] u1)]=>some (.leaf (ok (y27 u4 u1)) [.c (.d (.i .i64 ((val (y27 u4 u1)).1))),.c (.d (.i .i64 ((val (y27 u4 u1)).2)))])
 |_=>none
abbrev sp_21:jaa→jaa:=jaH 21 true (jal y112 y113)
abbrev jgb (u4:ByteArray) (u1:List (List NC)) (r:Int × Int):Lp (Int × Nat) Int (((Int × Int) ⊕ Unit)) (Int × Int) (Int × Int) :=
 ⟨fun z=>z.1,fun z=>z.2,fun z x n=>(x,n),fun z=>y30 u4 u1,fun z=>jga,fun z=>top r,fun z=>0,[.c fun _=>0,.c fun vv=>vv.1,.c fun _=>u4,.c fun _=>u1]⟩
def jnq (u4:ByteArray) (u1:List (List NC)) (r:Int × Int):Sk (top r) (y27 u4 u1) :=
 .call (.brB
 (.obT (.obT (.rc)))
 (.br
 (.obT (.obT (.rc)))
 (.loop (jgb u4 u1 r) (fun kk=>((0:Int),big)) fun z0 =>
 .br
 (.call (.brB
 (.exit (.obT (.obT (.rc))))
 (.next)))
 (.exit (.obT (.obT (.rc)))))))
theorem jmc (u4:ByteArray) (u1:List (List NC)) (r:Int × Int) (h:Option.bind (y27 u4 u1) some=some r):jbg Tryz.f21 ((sp_81 (sp_82 sp0))) (fun gs id _=>match id with
 |0=>some ⟨Int × Nat,fun z=>⟨[(1,.w (.c (.p 1 0 1 0))),(4,.w (.c (.d (.i .i64 z.1))))],[(1,.box 24 [.d (.s u4),.o 0]),(0,.xext (XC.st [NK.s,NK.i .i64,NK.ints .i64,NK.ints .i64,NK.ints .i64,NK.i .i64,NK.recs (5:Nat),NK.i .i64] u1))],2⟩,fun z=>(jgb u4 u1 r).inv z,fun z=>z.2⟩
 |_=>none) (ja8 y112 [.d (.s u4),.x (.st [.s,.i .i64,.ints .i64,.ints .i64,.ints .i64,.i .i64,.recs 5,.i .i64] u1)]) [.c (.d (.i .i64 r.1)),.c (.d (.i .i64 r.2))] :=
 Sk.vc (jnq u4 u1 r) (by kernel_rfl) h
theorem jmd:jaf Tryz.prog 21 true (jal y112 y113):=by
 refine jaA (sp:=(sp_81 (sp_82 sp0))) (fn:=Tryz.f21) (body:=bodyOf Tryz.f21) mixed (sp_81_ok (sp_82_ok jau)) Tryz.func21 (by kernel_rfl) (by kernel_rfl) fun ls t h ho b hb=>?_;unfold y113 at h;split at h
 ·rename_i u4 u1;cases h;obtain rfl:=jaM hb;exact⟨Nat.le_of_ble_eq_true (by kernel_rfl),_,_,jmc u4 u1 _ (jaq ho)⟩
 ·cases h
theorem sp_21_ok {sp:jaa} (h:jac Tryz.prog sp):jac Tryz.prog (sp_21 sp):=jas jmd h
def jhU:List SV:=[.a [.d,.d,.r (.ints .i64 []),.r (.ints .i64 []),.r (.ints .i64 []),.d,.r (.recs 5 []),.d],.c (.d)]
def y72 (u13:ByteArray) (u7:Int) (u12 u11 u10:List Int) (u9:Int) (u14:List (List Int)) (u15 u44:Int):Option Bool :=
 Option.bind (jeu u12 u44) fun r0 =>
 if(r0)=true then
  some true
 else
  some (u15==u44)
def jhV:List Lf→Option GT
 |[.d (.s u13),.d (.i .i64 u7),.r (.ints .i64 u12),.r (.ints .i64 u11),.r (.ints .i64 u10),.d (.i .i64 u9),.r (.recs 5 u14),.d (.i .i64 u15),.d (.i .i64 u44)]=>some (.leaf (ok (y72 u13 u7 u12 u11 u10 u9 u14 u15 u44)) [.c (.d (.b ((val (y72 u13 u7 u12 u11 u10 u9 u14 u15 u44)))))])
 |_=>none
abbrev sp_87:jaa→jaa:=jaH 87 true (jal jhU jhV)
def juq (u13:ByteArray) (u7:Int) (u12 u11 u10:List Int) (u9:Int) (u14:List (List Int)) (u15 u44:Int) (r:Bool):Sk (top r) (y72 u13 u7 u12 u11 u10 u9 u14 u15 u44) :=
 .call (.brB
 (.obT (.rc))
 (.obT (.rc)))
theorem jsF (u13:ByteArray) (u7:Int) (u12 u11 u10:List Int) (u9:Int) (u14:List (List Int)) (u15 u44:Int) (r:Bool) (h:Option.bind (y72 u13 u7 u12 u11 u10 u9 u14 u15 u44) some=some r):jbg Tryz.f87 ((sp_48 sp0)) (fun _ _ _=>none) (ja8 jhU [.d (.s u13),.d (.i .i64 u7),.r (.ints .i64 u12),.r (.ints .i64 u11),.r (.ints .i64 u10),.d (.i .i64 u9),.r (.recs 5 u14),.d (.i .i64 u15),.d (.i .i64 u44)]) [.c (.d (.b r))] :=
 Sk.vc (juq u13 u7 u12 u11 u10 u9 u14 u15 u44 r) (by kernel_rfl) h
theorem jsG:jaf Tryz.prog 87 true (jal jhU jhV):=by
 refine jaA (sp:=(sp_48 sp0)) (fn:=Tryz.f87) (body:=bodyOf Tryz.f87) mixed (sp_48_ok jau) Tryz.func87 (by kernel_rfl) (by kernel_rfl) fun ls t h ho b hb=>?_;unfold jhV at h;split at h
 ·rename_i u13 u7 u12 u11 u10 u9 u14 u15 u44;cases h;obtain rfl:=jaM hb;exact⟨Nat.le_of_ble_eq_true (by kernel_rfl),_,_,jsF u13 u7 u12 u11 u10 u9 u14 u15 u44 _ (jaq ho)⟩
 ·cases h
theorem sp_87_ok {sp:jaa} (h:jac Tryz.prog sp):jac Tryz.prog (sp_87 sp):=jas jsG h
def jhW:List SV:=[.a [.d,.x (.st [.s,.i .i64,.ints .i64,.ints .i64,.ints .i64,.i .i64,.recs 5,.i .i64] [])],.c (.r (.ints .i64 [])),.c (.d)]
def y68 (u1:List (List NC)) (u43:List Int) (u36 x0:Int):Option (Int ⊕ (Unit ⊕ Unit)) :=
 if x0<(↑u1.length:Int)then
  if 0≤u36∧u36<(↑u1.length:Int)then
  if Int.toNat u36<List.length u1 then
   Option.bind (y72 (nS u1 u36.toNat (0:Nat)) (nI u1 u36.toNat (1:Nat)) (nL u1 u36.toNat (2:Nat)) (nL u1 u36.toNat (3:Nat)) (nL u1 u36.toNat (4:Nat)) (nI u1 u36.toNat (5:Nat)) (nR u1 u36.toNat (6:Nat)) (nI u1 u36.toNat (7:Nat)) x0) fun r0 =>
   if(r0)=true then
   Option.bind (jeu u43 x0) fun r1 =>
   if(!r1)=true then
    some (.inr ((.inl ())))
   else
    some (.inl (wrap .i64 (x0+1)))
   else
   some (.inl (wrap .i64 (x0+1)))
  else none
  else none
 else
  some (.inr ((.inr ())))
def jpQ (u5:Unit):Option Bool :=
 some false
def jpR (u6:Unit):Option Bool :=
 some true
def jk5:(Unit ⊕ Unit)→Option Bool :=
 (Sum.elim (jpQ) (jpR))
def y73 (u4:ByteArray) (u1:List (List NC)) (u43:List Int) (u36:Int):Option Bool :=
 Option.bind (jak (y68 u1 u43 u36) big (0:Int)) (jk5)
def jhX:List Lf→Option GT
 |[.d (.s u4),.x (.st [.s,.i .i64,.ints .i64,.ints .i64,.ints .i64,.i .i64,.recs 5,.i .i64] u1),.r (.ints .i64 u43),.d (.i .i64 u36)]=>some (.leaf (ok (y73 u4 u1 u43 u36)) [.c (.d (.b ((val (y73 u4 u1 u43 u36)))))])
 |_=>none
abbrev sp_83:jaa→jaa:=jaH 83 true (jal jhW jhX)
abbrev jk6 (u4:ByteArray) (u1:List (List NC)) (u43:List Int) (u36:Int) (r:Bool):Lp (Int × Nat) Int (Unit ⊕ Unit) Bool Bool :=
 ⟨fun z=>z.1,fun z=>z.2,fun z x n=>(x,n),fun z=>y68 u1 u43 u36,fun z=>jk5,fun z=>top r,fun z=>0,[.c fun _=>u36,.c fun _=>0,.c fun vv=>vv.1,.c fun _=>u43,.c fun _=>u4,.c fun _=>u1]⟩
def jur (u4:ByteArray) (u1:List (List NC)) (u43:List Int) (u36:Int) (r:Bool):Sk (top r) (y73 u4 u1 u43 u36) :=
 .loop (jk6 u4 u1 u43 u36 r) (fun kk=>((0:Int),big)) fun z0 =>
 .br
 (.ob (.ob (.call (.brB
 (.call (.brB
 (.exit (.obT (.rc)))
 (.next)))
 (.next)))))
 (.exit (.obT (.rc)))
theorem jsH (u4:ByteArray) (u1:List (List NC)) (u43:List Int) (u36:Int) (r:Bool) (h:Option.bind (y73 u4 u1 u43 u36) some=some r):jbg Tryz.f83 ((sp_87 (sp_48 sp0))) (fun gs id _=>match id with
 |0=>some ⟨Int × Nat,fun z=>⟨[(1,.w (.c (.o 1))),(2,.w (.c (.d (.i .i64 u36)))),(3,.w (.c (.p 2 0 1 0))),(7,.w (.c (.d (.i .i64 z.1))))],[(1,.ext (.ints .i64 u43)),(2,.box 24 [.d (.s u4),.o 0]),(0,.xext (XC.st [NK.s,NK.i .i64,NK.ints .i64,NK.ints .i64,NK.ints .i64,NK.i .i64,NK.recs (5:Nat),NK.i .i64] u1))],3⟩,fun z=>(jk6 u4 u1 u43 u36 r).inv z,fun z=>z.2⟩
 |_=>none) (ja8 jhW [.d (.s u4),.x (.st [.s,.i .i64,.ints .i64,.ints .i64,.ints .i64,.i .i64,.recs 5,.i .i64] u1),.r (.ints .i64 u43),.d (.i .i64 u36)]) [.c (.d (.b r))] :=
 Sk.vc (jur u4 u1 u43 u36 r) (by kernel_rfl) h
theorem jsI:jaf Tryz.prog 83 true (jal jhW jhX):=by
 refine jaA (sp:=(sp_87 (sp_48 sp0))) (fn:=Tryz.f83) (body:=bodyOf Tryz.f83) mixed (sp_87_ok (sp_48_ok jau)) Tryz.func83 (by kernel_rfl) (by kernel_rfl) fun ls t h ho b hb=>?_;unfold jhX at h;split at h
 ·rename_i u4 u1 u43 u36;cases h;obtain rfl:=jaM hb;exact⟨Nat.le_of_ble_eq_true (by kernel_rfl),_,_,jsH u4 u1 u43 u36 _ (jaq ho)⟩
 ·cases h
theorem sp_83_ok {sp:jaa} (h:jac Tryz.prog sp):jac Tryz.prog (sp_83 sp):=jas jsI h
def jhY:List SV:=[.a [.d,.x (.st [.s,.i .i64,.ints .i64,.ints .i64,.ints .i64,.i .i64,.recs 5,.i .i64] [])]]
def y57 (u4:ByteArray) (u1:List (List NC)) (x0:List Int) (x1:(Int × Int)):Option ((Int × Int) ⊕ Int) :=
 if x1.2≥0 then
  Option.bind (jeu x0 x1.2) fun r0 =>
  if(!r0)=true then
  Option.bind (y73 u4 u1 x0 x1.2) fun r1 =>
  if(r1)=true then
   some (.inl ((x1.2,wrap .i64 (x1.2-1))))
  else
   some (.inl ((x1.1,wrap .i64 (x1.2-1))))
  else
  some (.inl ((x1.1,wrap .i64 (x1.2-1))))
 else
  some (.inr x1.1)
def jgV (x0:List Int) (u35:Int):Option ((List Int) ⊕ (Unit ⊕ (List Int))) :=
 if u35<0 then
  some (.inr ((.inl ())))
 else
  if(List.length x0+List.length [u35])*8≤140737488355328∧List.length x0+List.length [u35]≤9223372036854775807 then
  some (.inl (x0++[u35]))
  else none
def y69 (u4:ByteArray) (u1:List (List NC)) (x0:(List Int)):Option ((List Int) ⊕ (Unit ⊕ (List Int))) :=
 if(↑x0.length:Int)<(↑u1.length:Int)then
  Option.bind (jak (y57 u4 u1 x0) big (((-1:Int),wrap .i64 ((↑u1.length:Int)-1)))) (jgV x0)
 else
  some (.inr (.inr x0))
def jpS (u5:Unit):Option (List Int × Bool) :=
 some ([],false)
def jpT (u6:List Int):Option (List Int × Bool) :=
 some (u6,true)
def jgW:(Unit ⊕ (List Int))→Option (List Int × Bool) :=
 (Sum.elim (jpS) (jpT))
def y6 (u4:ByteArray) (u1:List (List NC)):Option (List Int × Bool) :=
 Option.bind (jak (y69 u4 u1) big []) (jgW)
def jhZ:List Lf→Option GT
 |[.d (.s u4),.x (.st [.s,.i .i64,.ints .i64,.ints .i64,.ints .i64,.i .i64,.recs 5,.i .i64] u1)]=>some (.leaf (ok (y6 u4 u1)) [.c (.row 3 (.ints .i64 ((val (y6 u4 u1)).1))),.c (.d (.b ((val (y6 u4 u1)).2)))])
 |_=>none
abbrev sp_23:jaa→jaa:=jaH 23 true (jal jhY jhZ)
abbrev jgX (u4:ByteArray) (u1:List (List NC)) (r:List Int × Bool):Lp (List Int × Nat) (List Int) ((Unit ⊕ (List Int))) (List Int × Bool) (List Int × Bool) :=
 ⟨fun z=>z.1,fun z=>z.2,fun z x n=>(x,n),fun z=>y69 u4 u1,fun z=>jgW,fun z=>top r,fun z=>0,[.c fun _=>0,.c fun _=>u4,.c fun vv=>vv.1,.c fun _=>u1]⟩
abbrev jk7 (u4:ByteArray) (u1:List (List NC)) (r:List Int × Bool) (m1:Nat):Lp (List Int × Nat × (Int × Int) × Nat) (Int × Int) Int (((List Int) ⊕ (Unit ⊕ (List Int)))) (List Int × Bool) :=
 ⟨fun z=>z.2.2.1,fun z=>z.2.2.2,fun z x n=>(z.1,z.2.1,x,n),fun z=>y57 u4 u1 z.1,fun z=>jgV z.1,fun z=>(jgX u4 u1 r).cx (z.1,m1),fun z=>z.2.1,[.c fun _=>0,.c fun vv=>vv.2.2.1.1,.c fun vv=>vv.2.2.1.2,.c fun _=>u4,.c fun vv=>vv.1,.c fun _=>u1]⟩
def jsJ (u4:ByteArray) (u1:List (List NC)) (r:List Int × Bool):Sk (top r) (Option.bind (jak (y69 u4 u1) big []) (jgW)) :=
 .loopQ (jgX u4 u1 r) [.c fun _=>0,.c fun _=>u4,.p fun vv=>List.length vv.1=(0:Nat),.c fun _=>u1] (fun kk=>([],big)) (fun z0 =>
 .br
 (.loop (jk7 u4 u1 r z0.2) (fun kk=>(z0.1,kk,((-1:Int),wrap .i64 ((↑u1.length:Int)-1)),big)) fun z1 =>
 .br
 (.call (.brB
 (.call (.brB
 (.next)
 (.next)))
 (.next)))
 (.exit (.br
 (.exit (.obT (.obT (.ret (fun r=>(Ob (List.length r.1=(0:Nat)) ∧
 (Ob (false=r.2) ∧
 True))) ⟨⟨rfl⟩,⟨⟨rfl⟩,trivial⟩⟩))))
 (.ob (.next)))))
 (.exit (.obT (.obT (.rc))))) (fun _=>⟨rfl,trivial⟩)
def jus (u4:ByteArray) (u1:List (List NC)) (r:List Int × Bool):Sk (top r) (y6 u4 u1) :=
 jsJ u4 u1 r
theorem jsK (u4:ByteArray) (u1:List (List NC)) (r:List Int × Bool) (h:Option.bind (y6 u4 u1) some=some r):jbg Tryz.f23 ((sp_48 (sp_83 sp0))) (fun gs id _=>match id with
 |0=>some ⟨List Int × Nat,fun z=>⟨[(1,.w (.c (.p 1 0 1 0))),(4,.w (.c (.o 2)))],[(1,.box 24 [.d (.s u4),.o 0]),(2,.row 3 (.ints .i64 z.1)),(0,.xext (XC.st [NK.s,NK.i .i64,NK.ints .i64,NK.ints .i64,NK.ints .i64,NK.i .i64,NK.recs (5:Nat),NK.i .i64] u1))],3⟩,fun z=>(jgX u4 u1 r).inv z,fun z=>z.2⟩
 |2=>some ⟨List Int × Nat × (Int × Int) × Nat,fun z=>⟨[(1,.w (.c (.p 1 0 1 0))),(4,.w (.c (.o 2))),(5,.w (.c (.d (.i .i64 z.2.2.1.1)))),(6,.w (.c (.d (.i .i64 z.2.2.1.2))))],[(1,.box 24 [.d (.s u4),.o 0]),(2,.row 3 (.ints .i64 z.1)),(0,.xext (XC.st [NK.s,NK.i .i64,NK.ints .i64,NK.ints .i64,NK.ints .i64,NK.i .i64,NK.recs (5:Nat),NK.i .i64] u1))],3⟩,fun z=>(jk7 u4 u1 r (gs.getD 0 0)).inv z,fun z=>z.2.2.2⟩
 |_=>none) (ja8 jhY [.d (.s u4),.x (.st [.s,.i .i64,.ints .i64,.ints .i64,.ints .i64,.i .i64,.recs 5,.i .i64] u1)]) [.c (.row 3 (.ints .i64 r.1)),.c (.d (.b r.2))] :=
 Sk.vc (jus u4 u1 r) (by kernel_rfl) h
theorem jsL:jaf Tryz.prog 23 true (jal jhY jhZ):=by
 refine jaA (sp:=(sp_48 (sp_83 sp0))) (fn:=Tryz.f23) (body:=bodyOf Tryz.f23) mixed (sp_48_ok (sp_83_ok jau)) Tryz.func23 (by kernel_rfl) (by kernel_rfl) fun ls t h ho b hb=>?_;unfold jhZ at h;split at h
 ·rename_i u4 u1;cases h;obtain rfl:=jaM hb;exact⟨Nat.le_of_ble_eq_true (by kernel_rfl),_,_,jsK u4 u1 _ (jaq ho)⟩
 ·cases h
theorem sp_23_ok {sp:jaa} (h:jac Tryz.prog sp):jac Tryz.prog (sp_23 sp):=jas jsL h
def jeZ:List SV:=[.a [.d,.x (.st [.s,.i .i64,.ints .i64,.ints .i64,.ints .i64,.i .i64,.recs 5,.i .i64] [])]]
def y58 (u4:ByteArray) (u1:List (List NC)):Option Int :=
 Option.bind (y27 u4 u1) fun r0 =>
 if(r0.2 != 0)=true then
  some r0.2
 else
  Option.bind (y6 u4 u1) fun r1 =>
  if(!r1.2)=true then
  some (19:Int)
  else
  some (0:Int)
def je0:List Lf→Option GT
 |[.d (.s u4),.x (.st [.s,.i .i64,.ints .i64,.ints .i64,.ints .i64,.i .i64,.recs 5,.i .i64] u1)]=>some (.leaf (ok (y58 u4 u1)) [.c (.d (.i .i64 ((val (y58 u4 u1)))))])
 |_=>none
abbrev sp_22:jaa→jaa:=jaH 22 true (jal jeZ je0)
def jpU (u4:ByteArray) (u1:List (List NC)) (r:Int):Sk (top r) (y58 u4 u1) :=
 .call (.brB
 (.obT (.rc))
 (.call (.brB
 (.obT (.rc))
 (.obT (.rc)))))
theorem joD (u4:ByteArray) (u1:List (List NC)) (r:Int) (h:Option.bind (y58 u4 u1) some=some r):jbg Tryz.f22 ((sp_21 (sp_23 sp0))) (fun _ _ _=>none) (ja8 jeZ [.d (.s u4),.x (.st [.s,.i .i64,.ints .i64,.ints .i64,.ints .i64,.i .i64,.recs 5,.i .i64] u1)]) [.c (.d (.i .i64 r))] :=
 Sk.vc (jpU u4 u1 r) (by kernel_rfl) h
theorem joE:jaf Tryz.prog 22 true (jal jeZ je0):=by
 refine jaA (sp:=(sp_21 (sp_23 sp0))) (fn:=Tryz.f22) (body:=bodyOf Tryz.f22) mixed (sp_21_ok (sp_23_ok jau)) Tryz.func22 (by kernel_rfl) (by kernel_rfl) fun ls t h ho b hb=>?_;unfold je0 at h;split at h
 ·rename_i u4 u1;cases h;obtain rfl:=jaM hb;exact⟨Nat.le_of_ble_eq_true (by kernel_rfl),_,_,joD u4 u1 _ (jaq ho)⟩
 ·cases h
theorem sp_22_ok {sp:jaa} (h:jac Tryz.prog sp):jac Tryz.prog (sp_22 sp):=jas joE h
end Go.Sh
end

section
namespace Go.Sh
open Go Go.Proofs Go.RowKit Go.Sx
open Go.IntKind (wrap)
def jqz:List (Option Cont):=[some (.ints .i64 [])]
def jpV (l:List Int) (x0:Int):Option (Int ⊕ (Int ⊕ Unit)) :=
 if x0<(↑l.length:Int)then
  if 0≤x0∧x0<(↑l.length:Int)then
  if Int.toNat x0<List.length l then
   if(List.getD l x0.toNat (0:Int)!=0)=true then
   some (.inr ((.inl (List.getD l x0.toNat (0:Int)))))
   else
   some (.inl (wrap .i64 (x0+1)))
  else none
  else none
 else
  some (.inr ((.inr ())))
def jsM (u5:Int):Option Int :=
 some u5
def jsN (u6:Unit):Option Int :=
 some (0:Int)
def joF:(Int ⊕ Unit)→Option Int :=
 (Sum.elim (jsM) (jsN))
def je1 (l:List Int):Option Int :=
 Option.bind (jak (jpV l) big (0:Int)) (joF)
def jk8:List A→Option (Prop × List RV)
 |[.r (.ints .i64 l)]=>some (ok (je1 l),[.d (.i .i64 ((val (je1 l))))])
 |_=>none
abbrev sp_76:jaa→jaa:=jaH 76 true (jaF jqz jk8)
abbrev joG (l:List Int) (r:Int):Lp (Int × Nat) Int (Int ⊕ Unit) Int Int :=
 ⟨fun z=>z.1,fun z=>z.2,fun z x n=>(x,n),fun z=>jpV l,fun z=>joF,fun z=>top r,fun z=>0,[.c fun _=>(↑l.length:Int),.c fun vv=>vv.1,.c fun _=>l]⟩
def jx3 (l:List Int) (r:Int):Sk (top r) (je1 l) :=
 .loop (joG l r) (fun kk=>((0:Int),big)) fun z0 =>
 .br
 (.ob (.ob (.brB
 (.exit (.obT (.rc)))
 (.next))))
 (.exit (.obT (.rc)))
theorem jwp (l:List Int) (r:Int) (h:Option.bind (je1 l) some=some r):jcg Tryz.f76 (sp0) (fun gs id _=>match id with
 |0=>some ⟨Int × Nat,fun z=>⟨[(5,.w (.c (.o 0))),(6,.w (.c (.d (.i .i64 ((↑l.length:Int)))))),(7,.w (.c (.d (.i .i64 z.1))))],[(0,.ext (.ints .i64 l))],1⟩,fun z=>(joG l r).inv z,fun z=>z.2⟩
 |_=>none) [.r (.ints .i64 l)] [.d (.i .i64 r)] :=
 Sk.vc (jx3 l r) (by kernel_rfl) h
theorem jwq:jaf Tryz.prog 76 true (jaF jqz jk8):=by
 refine jaQ (sp:=sp0) (fn:=Tryz.f76) (body:=bodyOf Tryz.f76) mixed jau Tryz.func76 (by kernel_rfl) (by kernel_rfl) fun as_ ob rs h ho=>?_;unfold jk8 at h;split at h
 ·rename_i l;cases h;exact⟨Nat.le_of_ble_eq_true rfl,_,_,jwp l _ (jaq ho)⟩
 ·cases h
theorem sp_76_ok {sp:jaa} (h:jac Tryz.prog sp):jac Tryz.prog (sp_76 sp):=jas jwq h
def joH:List (Option Cont):=[none]
def y63 (s:ByteArray) (x0:Int):Option (Int ⊕ (Unit ⊕ Unit)) :=
 if x0<(↑(ByteArray.size s):Int)then
  if 0≤x0∧x0<(↑(ByteArray.size s):Int)then
  if(↑(UInt8.toNat (Array.getD (ByteArray.data s) x0.toNat (0:UInt8))):Int)≥97 then
   if(↑(UInt8.toNat (Array.getD (ByteArray.data s) x0.toNat (0:UInt8))):Int)≤122 then
   some (.inl (wrap .i64 (x0+1)))
   else
   if(↑(UInt8.toNat (Array.getD (ByteArray.data s) x0.toNat (0:UInt8))):Int)≥65 then
    if(!decide ((↑(UInt8.toNat (Array.getD (ByteArray.data s) x0.toNat (0:UInt8))):Int)≤90))=true then
    if(x0==0)=true then
     some (.inr ((.inl ())))
    else
     if((↑(UInt8.toNat (Array.getD (ByteArray.data s) x0.toNat (0:UInt8))):Int)!=45)=true then
     if(↑(UInt8.toNat (Array.getD (ByteArray.data s) x0.toNat (0:UInt8))):Int)<48 then
      some (.inr ((.inl ())))
     else
      if(↑(UInt8.toNat (Array.getD (ByteArray.data s) x0.toNat (0:UInt8))):Int)>57 then
      some (.inr ((.inl ())))
      else
      some (.inl (wrap .i64 (x0+1)))
     else
     some (.inl (wrap .i64 (x0+1)))
    else
    some (.inl (wrap .i64 (x0+1)))
   else
    if(x0==0)=true then
    some (.inr ((.inl ())))
    else
    if((↑(UInt8.toNat (Array.getD (ByteArray.data s) x0.toNat (0:UInt8))):Int)!=45)=true then
     if(↑(UInt8.toNat (Array.getD (ByteArray.data s) x0.toNat (0:UInt8))):Int)<48 then
     some (.inr ((.inl ())))
     else
     if(↑(UInt8.toNat (Array.getD (ByteArray.data s) x0.toNat (0:UInt8))):Int)>57 then
      some (.inr ((.inl ())))
     else
      some (.inl (wrap .i64 (x0+1)))
    else
     some (.inl (wrap .i64 (x0+1)))
  else
   if(↑(UInt8.toNat (Array.getD (ByteArray.data s) x0.toNat (0:UInt8))):Int)≥65 then
   if(!decide ((↑(UInt8.toNat (Array.getD (ByteArray.data s) x0.toNat (0:UInt8))):Int)≤90))=true then
    if(x0==0)=true then
    some (.inr ((.inl ())))
    else
    if((↑(UInt8.toNat (Array.getD (ByteArray.data s) x0.toNat (0:UInt8))):Int)!=45)=true then
     if(↑(UInt8.toNat (Array.getD (ByteArray.data s) x0.toNat (0:UInt8))):Int)<48 then
     some (.inr ((.inl ())))
     else
     if(↑(UInt8.toNat (Array.getD (ByteArray.data s) x0.toNat (0:UInt8))):Int)>57 then
      some (.inr ((.inl ())))
     else
      some (.inl (wrap .i64 (x0+1)))
    else
     some (.inl (wrap .i64 (x0+1)))
   else
    some (.inl (wrap .i64 (x0+1)))
   else
   if(x0==0)=true then
    some (.inr ((.inl ())))
   else
    if((↑(UInt8.toNat (Array.getD (ByteArray.data s) x0.toNat (0:UInt8))):Int)!=45)=true then
    if(↑(UInt8.toNat (Array.getD (ByteArray.data s) x0.toNat (0:UInt8))):Int)<48 then
     some (.inr ((.inl ())))
    else
     if(↑(UInt8.toNat (Array.getD (ByteArray.data s) x0.toNat (0:UInt8))):Int)>57 then
     some (.inr ((.inl ())))
     else
     some (.inl (wrap .i64 (x0+1)))
    else
    some (.inl (wrap .i64 (x0+1)))
  else none
 else
  some (.inr ((.inr ())))
def jq8 (s:ByteArray) (u5:Unit):Option Bool :=
 some false
def jq9 (s:ByteArray) (u6:Unit):Option Bool :=
 if(s != ByteArray.mk #[])=true then
  some (decide ((↑(ByteArray.size s):Int)≤12))
 else
  some false
def jh0 (s:ByteArray):(Unit ⊕ Unit)→Option Bool :=
 (Sum.elim (jq8 s) (jq9 s))
def y59 (s:ByteArray):Option Bool :=
 Option.bind (jak (y63 s) big (0:Int)) (jh0 s)
def jjA:List A→Option (Prop × List RV)
 |[.d (.s s)]=>some (ok (y59 s),[.d (.b ((val (y59 s))))])
 |_=>none
abbrev sp_78:jaa→jaa:=jaH 78 true (jaF joH jjA)
abbrev jmK (s:ByteArray) (r:Bool):Lp (Int × Nat) Int (Unit ⊕ Unit) Bool Bool :=
 ⟨fun z=>z.1,fun z=>z.2,fun z x n=>(x,n),fun z=>y63 s,fun z=>jh0 s,fun z=>top r,fun z=>0,[.c fun _=>s,.c fun _=>(↑(ByteArray.size s):Int),.c fun vv=>vv.1]⟩
def jut (s:ByteArray) (r:Bool):Sk (top r) (Option.bind (jak (y63 s) big (0:Int)) (jh0 s)) :=
 .loop (jmK s r) (fun kk=>((0:Int),big)) fun z0 =>
 .br
 (.ob (.br
 (.br
 (.next)
 (.br
 (.brB
 (.brB
 (.exit (.obT (.rc)))
 (.brB
 (.br
 (.exit (.obT (.rc)))
 (.br
 (.exit (.obT (.rc)))
 (.next)))
 (.next)))
 (.next))
 (.brB
 (.exit (.obT (.rc)))
 (.brB
 (.br
 (.exit (.obT (.rc)))
 (.br
 (.exit (.obT (.rc)))
 (.next)))
 (.next)))))
 (.br
 (.brB
 (.brB
 (.exit (.obT (.rc)))
 (.brB
 (.br
 (.exit (.obT (.rc)))
 (.br
 (.exit (.obT (.rc)))
 (.next)))
 (.next)))
 (.next))
 (.brB
 (.exit (.obT (.rc)))
 (.brB
 (.br
 (.exit (.obT (.rc)))
 (.br
 (.exit (.obT (.rc)))
 (.next)))
 (.next))))))
 (.exit (.brB
 (.obT (.rc))
 (.obT (.rc))))
def jwr (s:ByteArray) (r:Bool):Sk (top r) (y59 s) :=
 jut s r
theorem juu (s:ByteArray) (r:Bool) (h:Option.bind (y59 s) some=some r):jcg Tryz.f78 (sp0) (fun gs id _=>match id with
 |0=>some ⟨Int × Nat,fun z=>⟨[(0,.w (.c (.d (.s s)))),(7,.w (.c (.d (.i .i64 ((↑(ByteArray.size s):Int)))))),(8,.w (.c (.d (.i .i64 z.1))))],[],1⟩,fun z=>(jmK s r).inv z,fun z=>z.2⟩
 |_=>none) [.d (.s s)] [.d (.b r)] :=
 Sk.vc (jwr s r) (by kernel_rfl) h
theorem juv:jaf Tryz.prog 78 true (jaF joH jjA):=by
 refine jaQ (sp:=sp0) (fn:=Tryz.f78) (body:=bodyOf Tryz.f78) mixed jau Tryz.func78 (by kernel_rfl) (by kernel_rfl) fun as_ ob rs h ho=>?_;unfold jjA at h;split at h
 ·rename_i s;cases h;exact⟨Nat.le_of_ble_eq_true rfl,_,_,juu s _ (jaq ho)⟩
 ·cases h
theorem sp_78_ok {sp:jaa} (h:jac Tryz.prog sp):jac Tryz.prog (sp_78 sp):=jas juv h
def jfV:List SV:=[.c (.d),.c (.p [.d,.x (.st [.s,.i .i64,.ints .i64,.ints .i64,.ints .i64,.i .i64,.recs 5,.i .i64] [])])]
def y43 (n:Int) (u40:ByteArray) (u45:List (List NC)):Option Bool :=
 Option.bind (y16 n (0:Int) (wrap .i64 ((↑u45.length:Int)-1))) fun r0 =>
 some r0
def jfW:List Lf→Option GT
 |[.d (.i .i64 n),.d (.s u40),.x (.st [.s,.i .i64,.ints .i64,.ints .i64,.ints .i64,.i .i64,.recs 5,.i .i64] u45)]=>some (.leaf (ok (y43 n u40 u45)) [.c (.d (.b ((val (y43 n u40 u45)))))])
 |_=>none
abbrev sp_122:jaa→jaa:=jaH 122 true (jal jfV jfW)
def jra (n:Int) (u40:ByteArray) (u45:List (List NC)) (r:Bool):Sk (top r) (y43 n u40 u45) :=
 .obT (.call (.obT (.rc)))
theorem jpW (n:Int) (u40:ByteArray) (u45:List (List NC)) (r:Bool) (h:Option.bind (y43 n u40 u45) some=some r):jbg Tryz.f122 ((sp_84 sp0)) (fun _ _ _=>none) (ja8 jfV [.d (.i .i64 n),.d (.s u40),.x (.st [.s,.i .i64,.ints .i64,.ints .i64,.ints .i64,.i .i64,.recs 5,.i .i64] u45)]) [.c (.d (.b r))] :=
 Sk.vc (jra n u40 u45 r) (by kernel_rfl) h
theorem jpX:jaf Tryz.prog 122 true (jal jfV jfW):=by
 refine jaA (sp:=(sp_84 sp0)) (fn:=Tryz.f122) (body:=bodyOf Tryz.f122) mixed (sp_84_ok jau) Tryz.func122 (by kernel_rfl) (by kernel_rfl) fun ls t h ho b hb=>?_;unfold jfW at h;split at h
 ·rename_i n u40 u45;cases h;obtain rfl:=jaM hb;exact⟨Nat.le_of_ble_eq_true (by kernel_rfl),_,_,jpW n u40 u45 _ (jaq ho)⟩
 ·cases h
theorem sp_122_ok {sp:jaa} (h:jac Tryz.prog sp):jac Tryz.prog (sp_122 sp):=jas jpX h
def jfX:List SV:=[.c (.d),.c (.p [.f 122 [.p [.d,.x (.st [.s,.i .i64,.ints .i64,.ints .i64,.ints .i64,.i .i64,.recs 5,.i .i64] [])]]])]
def y64 (n:Int) (u46:ByteArray) (u47:List (List NC)):Option Bool :=
 Option.bind (y43 n u46 u47) fun r0 =>
 some !r0
def jfY:List Lf→Option GT
 |[.d (.i .i64 n),.d (.s u46),.x (.st [.s,.i .i64,.ints .i64,.ints .i64,.ints .i64,.i .i64,.recs 5,.i .i64] u47)]=>some (.leaf (ok (y64 n u46 u47)) [.c (.d (.b ((val (y64 n u46 u47)))))])
 |_=>none
abbrev sp_124:jaa→jaa:=jaH 124 true (jal jfX jfY)
def jrb (n:Int) (u46:ByteArray) (u47:List (List NC)) (r:Bool):Sk (top r) (y64 n u46 u47) :=
 .obT (.call (.obT (.rc)))
theorem jpY (n:Int) (u46:ByteArray) (u47:List (List NC)) (r:Bool) (h:Option.bind (y64 n u46 u47) some=some r):jbg Tryz.f124 ((sp_122 sp0)) (fun _ _ _=>none) (ja8 jfX [.d (.i .i64 n),.d (.s u46),.x (.st [.s,.i .i64,.ints .i64,.ints .i64,.ints .i64,.i .i64,.recs 5,.i .i64] u47)]) [.c (.d (.b r))] :=
 Sk.vc (jrb n u46 u47 r) (by kernel_rfl) h
theorem jpZ:jaf Tryz.prog 124 true (jal jfX jfY):=by
 refine jaA (sp:=(sp_122 sp0)) (fn:=Tryz.f124) (body:=bodyOf Tryz.f124) mixed (sp_122_ok jau) Tryz.func124 (by kernel_rfl) (by kernel_rfl) fun ls t h ho b hb=>?_;unfold jfY at h;split at h
 ·rename_i n u46 u47;cases h;obtain rfl:=jaM hb;exact⟨Nat.le_of_ble_eq_true (by kernel_rfl),_,_,jpY n u46 u47 _ (jaq ho)⟩
 ·cases h
theorem sp_124_ok {sp:jaa} (h:jac Tryz.prog sp):jac Tryz.prog (sp_124 sp):=jas jpZ h
def y45:List SV:=[.c (.r (.ints .i64 [])),.c (.f 124 [.p [.f 122 [.p [.d,.x (.st [.s,.i .i64,.ints .i64,.ints .i64,.ints .i64,.i .i64,.recs 5,.i .i64] [])]]]])]
def y9 (s:List Int) (u37:ByteArray) (u38:List (List NC)) (x0:Int):Option (Int ⊕ (Int ⊕ Unit)) :=
 if x0<(↑s.length:Int)then
  if 0≤x0∧x0<(↑s.length:Int)then
  if Int.toNat x0<List.length s then
   Option.bind (y64 (List.getD s x0.toNat (0:Int)) u37 u38) fun r0 =>
   if(r0)=true then
   some (.inr (.inl x0))
   else
   some (.inl (wrap .i64 (x0+1)))
  else none
  else none
 else
  some (.inr ((.inr ())))
def y125 (u5:Int):Option Int :=
 some u5
def y126 (u6:Unit):Option Int :=
 some (-1:Int)
def y74:(Int ⊕ Unit)→Option Int :=
 (Sum.elim (y125) (y126))
def y8 (s:List Int) (u37:ByteArray) (u38:List (List NC)):Option Int :=
 Option.bind (jak (y9 s u37 u38) big (0:Int)) (y74)
def y46:List Lf→Option GT
 |[.r (.ints .i64 s),.d (.s u37),.x (.st [.s,.i .i64,.ints .i64,.ints .i64,.ints .i64,.i .i64,.recs 5,.i .i64] u38)]=>some (.leaf (ok (y8 s u37 u38)) [.c (.d (.i .i64 ((val (y8 s u37 u38)))))])
 |_=>none
abbrev sp_156_124:jaa→jaa:=jaH 156 true (jal y45 y46)
abbrev y75 (s:List Int) (u37:ByteArray) (u38:List (List NC)) (r:Int):Lp (Int × Nat) Int (Int ⊕ Unit) Int Int :=
 ⟨fun z=>z.1,fun z=>z.2,fun z x n=>(x,n),fun z=>y9 s u37 u38,fun z=>y74,fun z=>top r,fun z=>0,[.c fun _=>(↑s.length:Int),.c fun vv=>vv.1,.c fun _=>s,.c fun _=>u37,.c fun _=>u38]⟩
def y144 (s:List Int) (u37:ByteArray) (u38:List (List NC)) (r:Int):Sk (top r) (y8 s u37 u38) :=
 .loop (y75 s u37 u38 r) (fun kk=>((0:Int),big)) fun z0 =>
 .br
 (.ob (.ob (.call (.brB
 (.exit (.obT (.rc)))
 (.next)))))
 (.exit (.obT (.rc)))
theorem y139 (s:List Int) (u37:ByteArray) (u38:List (List NC)) (r:Int) (h:Option.bind (y8 s u37 u38) some=some r):jbg Tryz.f156 ((sp_124 (sp_122 sp0))) (fun gs id _=>match id with
 |0=>some ⟨Int × Nat,fun z=>⟨[(0,.w (.c (.o 0))),(1,.w (.c (.fn 124 [3]))),(7,.w (.c (.d (.i .i64 ((↑s.length:Int)))))),(8,.w (.c (.d (.i .i64 z.1))))],[(0,.ext (.ints .i64 s)),(3,.ebox [.fn 122 [2]]),(2,.ebox [.d (.s u37),.o 1]),(1,.xext (XC.st [NK.s,NK.i .i64,NK.ints .i64,NK.ints .i64,NK.ints .i64,NK.i .i64,NK.recs (5:Nat),NK.i .i64] u38))],4⟩,fun z=>(y75 s u37 u38 r).inv z,fun z=>z.2⟩
 |_=>none) (ja8 y45 [.r (.ints .i64 s),.d (.s u37),.x (.st [.s,.i .i64,.ints .i64,.ints .i64,.ints .i64,.i .i64,.recs 5,.i .i64] u38)]) [.c (.d (.i .i64 r))] :=
 Sk.vc (y144 s u37 u38 r) (by kernel_rfl) h
theorem y140:jaf Tryz.prog 156 true (jal y45 y46):=by
 refine jaA (sp:=(sp_124 (sp_122 sp0))) (fn:=Tryz.f156) (body:=bodyOf Tryz.f156) mixed (sp_124_ok (sp_122_ok jau)) Tryz.func156 (by kernel_rfl) (by kernel_rfl) fun ls t h ho b hb=>?_;unfold y46 at h;split at h
 ·rename_i s u37 u38;cases h;obtain rfl:=jaM hb;exact⟨Nat.le_of_ble_eq_true (by kernel_rfl),_,_,y139 s u37 u38 _ (jaq ho)⟩
 ·cases h
theorem sp_156_124_ok {sp:jaa} (h:jac Tryz.prog sp):jac Tryz.prog (sp_156_124 sp):=jas y140 h
def y32:List SV:=[.c (.r (.ints .i64 [])),.c (.f 124 [.p [.f 122 [.p [.d,.x (.st [.s,.i .i64,.ints .i64,.ints .i64,.ints .i64,.i .i64,.recs 5,.i .i64] [])]]]])]
def y2 (s:List Int) (u37:ByteArray) (u38:List (List NC)):Option Bool :=
 Option.bind (y8 s u37 u38) fun r0 =>
 some (decide (r0≥0))
def y33:List Lf→Option GT
 |[.r (.ints .i64 s),.d (.s u37),.x (.st [.s,.i .i64,.ints .i64,.ints .i64,.ints .i64,.i .i64,.recs 5,.i .i64] u38)]=>some (.leaf (ok (y2 s u37 u38)) [.c (.d (.b ((val (y2 s u37 u38)))))])
 |_=>none
abbrev sp_123_124:jaa→jaa:=jaH 123 true (jal y32 y33)
def y127 (s:List Int) (u37:ByteArray) (u38:List (List NC)) (r:Bool):Sk (top r) (y2 s u37 u38) :=
 .call (.obT (.rc))
theorem y118 (s:List Int) (u37:ByteArray) (u38:List (List NC)) (r:Bool) (h:Option.bind (y2 s u37 u38) some=some r):jbg Tryz.f123 ((sp_156_124 (sp_124 (sp_122 sp0)))) (fun _ _ _=>none) (ja8 y32 [.r (.ints .i64 s),.d (.s u37),.x (.st [.s,.i .i64,.ints .i64,.ints .i64,.ints .i64,.i .i64,.recs 5,.i .i64] u38)]) [.c (.d (.b r))] :=
 Sk.vc (y127 s u37 u38 r) (by kernel_rfl) h
theorem y119:jaf Tryz.prog 123 true (jal y32 y33):=by
 refine jaA (sp:=(sp_156_124 (sp_124 (sp_122 sp0)))) (fn:=Tryz.f123) (body:=bodyOf Tryz.f123) mixed (sp_156_124_ok (sp_124_ok (sp_122_ok jau))) Tryz.func123 (by kernel_rfl) (by kernel_rfl) fun ls t h ho b hb=>?_;unfold y33 at h;split at h
 ·rename_i s u37 u38;cases h;obtain rfl:=jaM hb;exact⟨Nat.le_of_ble_eq_true (by kernel_rfl),_,_,y118 s u37 u38 _ (jaq ho)⟩
 ·cases h
theorem sp_123_124_ok {sp:jaa} (h:jac Tryz.prog sp):jac Tryz.prog (sp_123_124 sp):=jas y119 h
def jfZ:List SV:=[.a [.d,.d,.r (.ints .i64 []),.r (.ints .i64 []),.r (.ints .i64 []),.d,.r (.recs 5 []),.d],.c (.p [.d,.d,.r (.ints .i64 []),.r (.ints .i64 []),.r (.ints .i64 []),.d,.r (.recs 5 []),.d])]
def y65 (u48:ByteArray) (u49:Int) (u50 u51 u52:List Int) (u53:Int) (u54:List (List Int)) (u55:Int) (u40:ByteArray) (u56:Int) (u57 u58 u59:List Int) (u60:Int) (u61:List (List Int)) (u62:Int):Option Bool :=
 some (u48==u40)
def jf0:List Lf→Option GT
 |[.d (.s u48),.d (.i .i64 u49),.r (.ints .i64 u50),.r (.ints .i64 u51),.r (.ints .i64 u52),.d (.i .i64 u53),.r (.recs 5 u54),.d (.i .i64 u55),.d (.s u40),.d (.i .i64 u56),.r (.ints .i64 u57),.r (.ints .i64 u58),.r (.ints .i64 u59),.d (.i .i64 u60),.r (.recs 5 u61),.d (.i .i64 u62)]=>some (.leaf (ok (y65 u48 u49 u50 u51 u52 u53 u54 u55 u40 u56 u57 u58 u59 u60 u61 u62)) [.c (.d (.b ((val (y65 u48 u49 u50 u51 u52 u53 u54 u55 u40 u56 u57 u58 u59 u60 u61 u62)))))])
 |_=>none
abbrev sp_126:jaa→jaa:=jaH 126 true (jal jfZ jf0)
def jrc (u48:ByteArray) (u49:Int) (u50 u51 u52:List Int) (u53:Int) (u54:List (List Int)) (u55:Int) (u40:ByteArray) (u56:Int) (u57 u58 u59:List Int) (u60:Int) (u61:List (List Int)) (u62:Int) (r:Bool):Sk (top r) (y65 u48 u49 u50 u51 u52 u53 u54 u55 u40 u56 u57 u58 u59 u60 u61 u62) :=
 .obT (.obT (.rc))
theorem jp0 (u48:ByteArray) (u49:Int) (u50 u51 u52:List Int) (u53:Int) (u54:List (List Int)) (u55:Int) (u40:ByteArray) (u56:Int) (u57 u58 u59:List Int) (u60:Int) (u61:List (List Int)) (u62:Int) (r:Bool) (h:Option.bind (y65 u48 u49 u50 u51 u52 u53 u54 u55 u40 u56 u57 u58 u59 u60 u61 u62) some=some r):jbg Tryz.f126 (sp0) (fun _ _ _=>none) (ja8 jfZ [.d (.s u48),.d (.i .i64 u49),.r (.ints .i64 u50),.r (.ints .i64 u51),.r (.ints .i64 u52),.d (.i .i64 u53),.r (.recs 5 u54),.d (.i .i64 u55),.d (.s u40),.d (.i .i64 u56),.r (.ints .i64 u57),.r (.ints .i64 u58),.r (.ints .i64 u59),.d (.i .i64 u60),.r (.recs 5 u61),.d (.i .i64 u62)]) [.c (.d (.b r))] :=
 Sk.vc (jrc u48 u49 u50 u51 u52 u53 u54 u55 u40 u56 u57 u58 u59 u60 u61 u62 r) (by kernel_rfl) h
theorem jp1:jaf Tryz.prog 126 true (jal jfZ jf0):=by
 refine jaA (sp:=sp0) (fn:=Tryz.f126) (body:=bodyOf Tryz.f126) mixed jau Tryz.func126 (by kernel_rfl) (by kernel_rfl) fun ls t h ho b hb=>?_;unfold jf0 at h;split at h
 ·rename_i u48 u49 u50 u51 u52 u53 u54 u55 u40 u56 u57 u58 u59 u60 u61 u62;cases h;obtain rfl:=jaM hb;exact⟨Nat.le_of_ble_eq_true (by kernel_rfl),_,_,jp0 u48 u49 u50 u51 u52 u53 u54 u55 u40 u56 u57 u58 u59 u60 u61 u62 _ (jaq ho)⟩
 ·cases h
theorem sp_126_ok {sp:jaa} (h:jac Tryz.prog sp):jac Tryz.prog (sp_126 sp):=jas jp1 h
def y22:List SV:=[.c (.x (.st [.s,.i .i64,.ints .i64,.ints .i64,.ints .i64,.i .i64,.recs 5,.i .i64] [])),.c (.f 126 [.p [.d,.d,.r (.ints .i64 []),.r (.ints .i64 []),.r (.ints .i64 []),.d,.r (.recs 5 []),.d]])]
def y1 (s:List (List NC)) (u27:ByteArray) (u28:Int) (u29 u30 u31:List Int) (u32:Int) (u33:List (List Int)) (u34 x0:Int):Option (Int ⊕ (Int ⊕ Unit)) :=
 if x0<(↑s.length:Int)then
  if 0≤x0∧x0<(↑s.length:Int)then
  if Int.toNat x0<List.length s then
   Option.bind (y65 (nS s x0.toNat (0:Nat)) (nI s x0.toNat (1:Nat)) (nL s x0.toNat (2:Nat)) (nL s x0.toNat (3:Nat)) (nL s x0.toNat (4:Nat)) (nI s x0.toNat (5:Nat)) (nR s x0.toNat (6:Nat)) (nI s x0.toNat (7:Nat)) u27 u28 u29 u30 u31 u32 u33 u34) fun r0 =>
   if(r0)=true then
   some (.inr (.inl x0))
   else
   some (.inl (wrap .i64 (x0+1)))
  else none
  else none
 else
  some (.inr ((.inr ())))
def y94 (u5:Int):Option Int :=
 some u5
def y95 (u6:Unit):Option Int :=
 some (-1:Int)
def y17:(Int ⊕ Unit)→Option Int :=
 (Sum.elim (y94) (y95))
def y4 (s:List (List NC)) (u27:ByteArray) (u28:Int) (u29 u30 u31:List Int) (u32:Int) (u33:List (List Int)) (u34:Int):Option Int :=
 Option.bind (jak (y1 s u27 u28 u29 u30 u31 u32 u33 u34) big (0:Int)) (y17)
def y23:List Lf→Option GT
 |[.x (.st [.s,.i .i64,.ints .i64,.ints .i64,.ints .i64,.i .i64,.recs 5,.i .i64] s),.d (.s u27),.d (.i .i64 u28),.r (.ints .i64 u29),.r (.ints .i64 u30),.r (.ints .i64 u31),.d (.i .i64 u32),.r (.recs 5 u33),.d (.i .i64 u34)]=>some (.leaf (ok (y4 s u27 u28 u29 u30 u31 u32 u33 u34)) [.c (.d (.i .i64 ((val (y4 s u27 u28 u29 u30 u31 u32 u33 u34)))))])
 |_=>none
abbrev sp_157_126:jaa→jaa:=jaH 157 true (jal y22 y23)
abbrev y50 (s:List (List NC)) (u27:ByteArray) (u28:Int) (u29 u30 u31:List Int) (u32:Int) (u33:List (List Int)) (u34 r:Int):Lp (Int × Nat) Int (Int ⊕ Unit) Int Int :=
 ⟨fun z=>z.1,fun z=>z.2,fun z x n=>(x,n),fun z=>y1 s u27 u28 u29 u30 u31 u32 u33 u34,fun z=>y17,fun z=>top r,fun z=>0,[.c fun _=>(↑s.length:Int),.c fun vv=>vv.1,.c fun _=>s,.c fun _=>u27,.c fun _=>u28,.c fun _=>u32,.c fun _=>u34,.c fun _=>u29,.c fun _=>u30,.c fun _=>u31,.c fun _=>u33]⟩
def y103 (s:List (List NC)) (u27:ByteArray) (u28:Int) (u29 u30 u31:List Int) (u32:Int) (u33:List (List Int)) (u34 r:Int):Sk (top r) (Option.bind (jak (y1 s u27 u28 u29 u30 u31 u32 u33 u34) big (0:Int)) (y17)) :=
 .loop (y50 s u27 u28 u29 u30 u31 u32 u33 u34 r) (fun kk=>((0:Int),big)) fun z0 =>
 .br
 (.ob (.ob (.call (.brB
 (.exit (.obT (.rc)))
 (.next)))))
 (.exit (.obT (.rc)))
def y106 (s:List (List NC)) (u27:ByteArray) (u28:Int) (u29 u30 u31:List Int) (u32:Int) (u33:List (List Int)) (u34 r:Int):Sk (top r) (y4 s u27 u28 u29 u30 u31 u32 u33 u34) :=
 y103 s u27 u28 u29 u30 u31 u32 u33 u34 r
theorem y104 (s:List (List NC)) (u27:ByteArray) (u28:Int) (u29 u30 u31:List Int) (u32:Int) (u33:List (List Int)) (u34 r:Int) (h:Option.bind (y4 s u27 u28 u29 u30 u31 u32 u33 u34) some=some r):jbg Tryz.f157 ((sp_126 sp0)) (fun gs id _=>match id with
 |0=>some ⟨Int × Nat,fun z=>⟨[(0,.w (.c (.o 0))),(1,.w (.c (.fn 126 [5]))),(7,.w (.c (.d (.i .i64 ((↑s.length:Int)))))),(8,.w (.c (.d (.i .i64 z.1))))],[(0,.xext (XC.st [NK.s,NK.i .i64,NK.ints .i64,NK.ints .i64,NK.ints .i64,NK.i .i64,NK.recs (5:Nat),NK.i .i64] s)),(5,.ebox [.d (.s u27),.d (.i .i64 u28),.o 1,.o 2,.o 3,.d (.i .i64 u32),.o 4,.d (.i .i64 u34)]),(1,.ext (.ints .i64 u29)),(2,.ext (.ints .i64 u30)),(3,.ext (.ints .i64 u31)),(4,.ext (.recs 5 u33))],6⟩,fun z=>(y50 s u27 u28 u29 u30 u31 u32 u33 u34 r).inv z,fun z=>z.2⟩
 |_=>none) (ja8 y22 [.x (.st [.s,.i .i64,.ints .i64,.ints .i64,.ints .i64,.i .i64,.recs 5,.i .i64] s),.d (.s u27),.d (.i .i64 u28),.r (.ints .i64 u29),.r (.ints .i64 u30),.r (.ints .i64 u31),.d (.i .i64 u32),.r (.recs 5 u33),.d (.i .i64 u34)]) [.c (.d (.i .i64 r))] :=
 Sk.vc (y106 s u27 u28 u29 u30 u31 u32 u33 u34 r) (by kernel_rfl) h
theorem y105:jaf Tryz.prog 157 true (jal y22 y23):=by
 refine jaA (sp:=(sp_126 sp0)) (fn:=Tryz.f157) (body:=bodyOf Tryz.f157) mixed (sp_126_ok jau) Tryz.func157 (by kernel_rfl) (by kernel_rfl) fun ls t h ho b hb=>?_;unfold y23 at h;split at h
 ·rename_i s u27 u28 u29 u30 u31 u32 u33 u34;cases h;obtain rfl:=jaM hb;exact⟨Nat.le_of_ble_eq_true (by kernel_rfl),_,_,y104 s u27 u28 u29 u30 u31 u32 u33 u34 _ (jaq ho)⟩
 ·cases h
theorem sp_157_126_ok {sp:jaa} (h:jac Tryz.prog sp):jac Tryz.prog (sp_157_126 sp):=jas y105 h
def y13:List SV:=[.c (.x (.st [.s,.i .i64,.ints .i64,.ints .i64,.ints .i64,.i .i64,.recs 5,.i .i64] [])),.c (.f 126 [.p [.d,.d,.r (.ints .i64 []),.r (.ints .i64 []),.r (.ints .i64 []),.d,.r (.recs 5 []),.d]])]
def y0 (s:List (List NC)) (u27:ByteArray) (u28:Int) (u29 u30 u31:List Int) (u32:Int) (u33:List (List Int)) (u34:Int):Option Bool :=
 Option.bind (y4 s u27 u28 u29 u30 u31 u32 u33 u34) fun r0 =>
 some (decide (r0≥0))
def y14:List Lf→Option GT
 |[.x (.st [.s,.i .i64,.ints .i64,.ints .i64,.ints .i64,.i .i64,.recs 5,.i .i64] s),.d (.s u27),.d (.i .i64 u28),.r (.ints .i64 u29),.r (.ints .i64 u30),.r (.ints .i64 u31),.d (.i .i64 u32),.r (.recs 5 u33),.d (.i .i64 u34)]=>some (.leaf (ok (y0 s u27 u28 u29 u30 u31 u32 u33 u34)) [.c (.d (.b ((val (y0 s u27 u28 u29 u30 u31 u32 u33 u34)))))])
 |_=>none
abbrev sp_125_126:jaa→jaa:=jaH 125 true (jal y13 y14)
def y96 (s:List (List NC)) (u27:ByteArray) (u28:Int) (u29 u30 u31:List Int) (u32:Int) (u33:List (List Int)) (u34:Int) (r:Bool):Sk (top r) (y0 s u27 u28 u29 u30 u31 u32 u33 u34) :=
 .call (.obT (.rc))
theorem y90 (s:List (List NC)) (u27:ByteArray) (u28:Int) (u29 u30 u31:List Int) (u32:Int) (u33:List (List Int)) (u34:Int) (r:Bool) (h:Option.bind (y0 s u27 u28 u29 u30 u31 u32 u33 u34) some=some r):jbg Tryz.f125 ((sp_157_126 (sp_126 sp0))) (fun _ _ _=>none) (ja8 y13 [.x (.st [.s,.i .i64,.ints .i64,.ints .i64,.ints .i64,.i .i64,.recs 5,.i .i64] s),.d (.s u27),.d (.i .i64 u28),.r (.ints .i64 u29),.r (.ints .i64 u30),.r (.ints .i64 u31),.d (.i .i64 u32),.r (.recs 5 u33),.d (.i .i64 u34)]) [.c (.d (.b r))] :=
 Sk.vc (y96 s u27 u28 u29 u30 u31 u32 u33 u34 r) (by kernel_rfl) h
theorem y91:jaf Tryz.prog 125 true (jal y13 y14):=by
 refine jaA (sp:=(sp_157_126 (sp_126 sp0))) (fn:=Tryz.f125) (body:=bodyOf Tryz.f125) mixed (sp_157_126_ok (sp_126_ok jau)) Tryz.func125 (by kernel_rfl) (by kernel_rfl) fun ls t h ho b hb=>?_;unfold y14 at h;split at h
 ·rename_i s u27 u28 u29 u30 u31 u32 u33 u34;cases h;obtain rfl:=jaM hb;exact⟨Nat.le_of_ble_eq_true (by kernel_rfl),_,_,y90 s u27 u28 u29 u30 u31 u32 u33 u34 _ (jaq ho)⟩
 ·cases h
theorem sp_125_126_ok {sp:jaa} (h:jac Tryz.prog sp):jac Tryz.prog (sp_125_126 sp):=jas y91 h
def y141:List (Option Cont):=[some (.ints .i64 []),none]
def y36 (s:List Int) (v x0:Int):Option (Int ⊕ (Int ⊕ Unit)) :=
 if x0<(↑s.length:Int)then
  if 0≤x0∧x0<(↑s.length:Int)then
  if Int.toNat x0<List.length s then
   if(v==List.getD s x0.toNat (0:Int))=true then
   some (.inr (.inl x0))
   else
   some (.inl (wrap .i64 (x0+1)))
  else none
  else none
 else
  some (.inr ((.inr ())))
def jiG (u5:Int):Option Int :=
 some u5
def jiH (u6:Unit):Option Int :=
 some (-1:Int)
def y135:(Int ⊕ Unit)→Option Int :=
 (Sum.elim (jiG) (jiH))
def y39 (s:List Int) (v:Int):Option Int :=
 Option.bind (jak (y36 s v) big (0:Int)) (y135)
def y97:List A→Option (Prop × List RV)
 |[.r (.ints .i64 s),.d (.i .i64 v)]=>some (ok (y39 s v),[.d (.i .i64 ((val (y39 s v))))])
 |_=>none
abbrev sp_134:jaa→jaa:=jaH 134 true (jaF y141 y97)
abbrev y136 (s:List Int) (v r:Int):Lp (Int × Nat) Int (Int ⊕ Unit) Int Int :=
 ⟨fun z=>z.1,fun z=>z.2,fun z x n=>(x,n),fun z=>y36 s v,fun z=>y135,fun z=>top r,fun z=>0,[.c fun _=>v,.c fun _=>(↑s.length:Int),.c fun vv=>vv.1,.c fun _=>s]⟩
def jk9 (s:List Int) (v r:Int):Sk (top r) (y39 s v) :=
 .loop (y136 s v r) (fun kk=>((0:Int),big)) fun z0 =>
 .br
 (.ob (.ob (.brB
 (.exit (.obT (.rc)))
 (.next))))
 (.exit (.obT (.rc)))
theorem jj9 (s:List Int) (v r:Int) (h:Option.bind (y39 s v) some=some r):jcg Tryz.f134 (sp0) (fun gs id _=>match id with
 |0=>some ⟨Int × Nat,fun z=>⟨[(0,.w (.c (.o 0))),(1,.w (.c (.d (.i .i64 v)))),(7,.w (.c (.d (.i .i64 ((↑s.length:Int)))))),(8,.w (.c (.d (.i .i64 z.1))))],[(0,.ext (.ints .i64 s))],2⟩,fun z=>(y136 s v r).inv z,fun z=>z.2⟩
 |_=>none) [.r (.ints .i64 s),.d (.i .i64 v)] [.d (.i .i64 r)] :=
 Sk.vc (jk9 s v r) (by kernel_rfl) h
theorem jka:jaf Tryz.prog 134 true (jaF y141 y97):=by
 refine jaQ (sp:=sp0) (fn:=Tryz.f134) (body:=bodyOf Tryz.f134) mixed jau Tryz.func134 (by kernel_rfl) (by kernel_rfl) fun as_ ob rs h ho=>?_;unfold y97 at h;split at h
 ·rename_i s v;cases h;exact⟨Nat.le_of_ble_eq_true rfl,_,_,jj9 s v _ (jaq ho)⟩
 ·cases h
theorem sp_134_ok {sp:jaa} (h:jac Tryz.prog sp):jac Tryz.prog (sp_134 sp):=jas jka h
def y117:List (Option Cont):=[some (.ints .i64 []),none]
def y12 (s:List Int) (v:Int):Option Bool :=
 Option.bind (y39 s v) fun r0 =>
 some (decide (r0≥0))
def y70:List A→Option (Prop × List RV)
 |[.r (.ints .i64 s),.d (.i .i64 v)]=>some (ok (y12 s v),[.d (.b ((val (y12 s v))))])
 |_=>none
abbrev sp_158:jaa→jaa:=jaH 158 true (jaF y117 y70)
def jiI (s:List Int) (v:Int) (r:Bool):Sk (top r) (y12 s v) :=
 .call (.obT (.rc))
theorem jh1 (s:List Int) (v:Int) (r:Bool) (h:Option.bind (y12 s v) some=some r):jcg Tryz.f158 ((sp_134 sp0)) (fun _ _ _=>none) [.r (.ints .i64 s),.d (.i .i64 v)] [.d (.b r)] :=
 Sk.vc (jiI s v r) (by kernel_rfl) h
theorem jh2:jaf Tryz.prog 158 true (jaF y117 y70):=by
 refine jaQ (sp:=(sp_134 sp0)) (fn:=Tryz.f158) (body:=bodyOf Tryz.f158) mixed (sp_134_ok jau) Tryz.func158 (by kernel_rfl) (by kernel_rfl) fun as_ ob rs h ho=>?_;unfold y70 at h;split at h
 ·rename_i s v;cases h;exact⟨Nat.le_of_ble_eq_true rfl,_,_,jh1 s v _ (jaq ho)⟩
 ·cases h
theorem sp_158_ok {sp:jaa} (h:jac Tryz.prog sp):jac Tryz.prog (sp_158 sp):=jas jh2 h
def jmL:List (Option Cont):=[some (.ints .i64 [])]
def y71 (l:List Int) (x0:Int):Option (Int ⊕ (Unit ⊕ Unit)) :=
 if x0<(↑l.length:Int)then
  if 0≤x0∧x0<(↑l.length:Int)then
  if Int.toNat x0<List.length l then
   if 0≤Option.getD none (0:Int)∧Option.getD none 0≤Option.getD (some x0) (↑l.length:Int)∧Option.getD (some x0) (↑l.length:Int)≤(↑l.length:Int)then
   Option.bind (y12 (List.take (Int.toNat (Option.getD (some x0) (↑l.length:Int))-0) (List.drop (0:Nat) l)) (List.getD l x0.toNat (0:Int))) fun r0 =>
   if(r0)=true then
    some (.inr ((.inl ())))
   else
    some (.inl (wrap .i64 (x0+1)))
   else none
  else none
  else none
 else
  some (.inr ((.inr ())))
def jp2 (u5:Unit):Option Bool :=
 some true
def jp3 (u6:Unit):Option Bool :=
 some false
def jla:(Unit ⊕ Unit)→Option Bool :=
 (Sum.elim (jp2) (jp3))
def y76 (l:List Int):Option Bool :=
 Option.bind (jak (y71 l) big (0:Int)) (jla)
def jh3:List A→Option (Prop × List RV)
 |[.r (.ints .i64 l)]=>some (ok (y76 l),[.d (.b ((val (y76 l))))])
 |_=>none
abbrev sp_128:jaa→jaa:=jaH 128 true (jaF jmL jh3)
abbrev jlb (l:List Int) (r:Bool):Lp (Int × Nat) Int (Unit ⊕ Unit) Bool Bool :=
 ⟨fun z=>z.1,fun z=>z.2,fun z x n=>(x,n),fun z=>y71 l,fun z=>jla,fun z=>top r,fun z=>0,[.c fun _=>(↑l.length:Int),.c fun vv=>vv.1,.c fun _=>l]⟩
def juw (l:List Int) (r:Bool):Sk (top r) (y76 l) :=
 .loop (jlb l r) (fun kk=>((0:Int),big)) fun z0 =>
 .br
 (.ob (.ob (.ob (.call (.brB
 (.exit (.obT (.rc)))
 (.next))))))
 (.exit (.obT (.rc)))
theorem jsO (l:List Int) (r:Bool) (h:Option.bind (y76 l) some=some r):jcg Tryz.f128 ((sp_158 sp0)) (fun gs id _=>match id with
 |0=>some ⟨Int × Nat,fun z=>⟨[(0,.w (.c (.o 0))),(5,.w (.c (.o 0))),(6,.w (.c (.d (.i .i64 ((↑l.length:Int)))))),(7,.w (.c (.d (.i .i64 z.1))))],[(0,.ext (.ints .i64 l))],1⟩,fun z=>(jlb l r).inv z,fun z=>z.2⟩
 |_=>none) [.r (.ints .i64 l)] [.d (.b r)] :=
 Sk.vc (juw l r) (by kernel_rfl) h
theorem jsP:jaf Tryz.prog 128 true (jaF jmL jh3):=by
 refine jaQ (sp:=(sp_158 sp0)) (fn:=Tryz.f128) (body:=bodyOf Tryz.f128) mixed (sp_158_ok jau) Tryz.func128 (by kernel_rfl) (by kernel_rfl) fun as_ ob rs h ho=>?_;unfold jh3 at h;split at h
 ·rename_i l;cases h;exact⟨Nat.le_of_ble_eq_true rfl,_,_,jsO l _ (jaq ho)⟩
 ·cases h
theorem sp_128_ok {sp:jaa} (h:jac Tryz.prog sp):jac Tryz.prog (sp_128 sp):=jas jsP h
def jlc:List (Option Cont):=[none]
def y52 (n:Int):Option Bool :=
 Option.bind (y16 n (0:Int) (64:Int)) fun r0 =>
 some r0
def jgY:List A→Option (Prop × List RV)
 |[.d (.i .i64 n)]=>some (ok (y52 n),[.d (.b ((val (y52 n))))])
 |_=>none
abbrev sp_159:jaa→jaa:=jaH 159 true (jaF jlc jgY)
def jsQ (n:Int) (r:Bool):Sk (top r) (y52 n) :=
 .call (.obT (.rc))
theorem jrd (n:Int) (r:Bool) (h:Option.bind (y52 n) some=some r):jcg Tryz.f159 ((sp_84 sp0)) (fun _ _ _=>none) [.d (.i .i64 n)] [.d (.b r)] :=
 Sk.vc (jsQ n r) (by kernel_rfl) h
theorem jre:jaf Tryz.prog 159 true (jaF jlc jgY):=by
 refine jaQ (sp:=(sp_84 sp0)) (fn:=Tryz.f159) (body:=bodyOf Tryz.f159) mixed (sp_84_ok jau) Tryz.func159 (by kernel_rfl) (by kernel_rfl) fun as_ ob rs h ho=>?_;unfold jgY at h;split at h
 ·rename_i n;cases h;exact⟨Nat.le_of_ble_eq_true rfl,_,_,jrd n _ (jaq ho)⟩
 ·cases h
theorem sp_159_ok {sp:jaa} (h:jac Tryz.prog sp):jac Tryz.prog (sp_159 sp):=jas jre h
def jjB:List SV:=[.a [.d,.d,.r (.ints .i64 []),.r (.ints .i64 []),.r (.ints .i64 []),.d,.r (.recs 5 []),.d]]
def y66 (u11:List Int) (x0:Int):Option (Int ⊕ (Unit ⊕ Unit)) :=
 if x0<(↑u11.length:Int)then
  if 0≤x0∧x0<(↑u11.length:Int)then
  if Int.toNat x0<List.length u11 then
   Option.bind (y52 (List.getD u11 x0.toNat (0:Int))) fun r0 =>
   if(!r0)=true then
   some (.inr ((.inl ())))
   else
   some (.inl (wrap .i64 (x0+1)))
  else none
  else none
 else
  some (.inr ((.inr ())))
def jrf (u7:Int) (u10:List Int) (u9:Int) (u5:Unit):Option Bool :=
 some false
def y54 (u10:List Int) (x1:Int):Option (Int ⊕ (Unit ⊕ Unit)) :=
 if x1<(↑u10.length:Int)then
  if 0≤x1∧x1<(↑u10.length:Int)then
  if Int.toNat x1<List.length u10 then
   Option.bind (jeW (List.getD u10 x1.toNat (0:Int)) (4000:Int)) fun r1 =>
   if(!r1)=true then
   some (.inr ((.inl ())))
   else
   some (.inl (wrap .i64 (x1+1)))
  else none
  else none
 else
  some (.inr ((.inr ())))
def jrg (u7 u9:Int) (u35:Unit):Option Bool :=
 some false
def jrh (u7 u9:Int) (u65:Unit):Option Bool :=
 Option.bind (y52 u9) fun r2 =>
 if(r2)=true then
  if(u7==2)=true then
  some true
  else
  some (u9==0)
 else
  some false
def jfo (u7 u9:Int):(Unit ⊕ Unit)→Option Bool :=
 (Sum.elim (jrg u7 u9) (jrh u7 u9))
def jri (u7:Int) (u10:List Int) (u9:Int) (u6:Unit):Option Bool :=
 Option.bind (jak (y54 u10) big (0:Int)) (jfo u7 u9)
def jh4 (u7:Int) (u10:List Int) (u9:Int):(Unit ⊕ Unit)→Option Bool :=
 (Sum.elim (jrf u7 u10 u9) (jri u7 u10 u9))
def y98 (u13:ByteArray) (u7:Int) (u12 u11 u10:List Int) (u9:Int) (u14:List (List Int)) (u15:Int):Option Bool :=
 Option.bind (jak (y66 u11) big (0:Int)) (jh4 u7 u10 u9)
def jjC:List Lf→Option GT
 |[.d (.s u13),.d (.i .i64 u7),.r (.ints .i64 u12),.r (.ints .i64 u11),.r (.ints .i64 u10),.d (.i .i64 u9),.r (.recs 5 u14),.d (.i .i64 u15)]=>some (.leaf (ok (y98 u13 u7 u12 u11 u10 u9 u14 u15)) [.c (.d (.b ((val (y98 u13 u7 u12 u11 u10 u9 u14 u15)))))])
 |_=>none
abbrev sp_129:jaa→jaa:=jaH 129 true (jal jjB jjC)
abbrev jmM (u13:ByteArray) (u7:Int) (u12 u11 u10:List Int) (u9:Int) (u14:List (List Int)) (u15:Int) (r:Bool):Lp (Int × Nat) Int (Unit ⊕ Unit) Bool Bool :=
 ⟨fun z=>z.1,fun z=>z.2,fun z x n=>(x,n),fun z=>y66 u11,fun z=>jh4 u7 u10 u9,fun z=>top r,fun z=>0,[.c fun _=>0,.c fun _=>(↑u11.length:Int),.c fun vv=>vv.1,.c fun _=>u13,.c fun _=>u7,.c fun _=>u9,.c fun _=>u15,.c fun _=>u11,.c fun _=>u12,.c fun _=>u10,.c fun _=>u14]⟩
abbrev jmN (u13:ByteArray) (u7:Int) (u12 u11 u10:List Int) (u9:Int) (u14:List (List Int)) (u15:Int) (r:Bool):Lp (Unit × Int × Nat) Int (Unit ⊕ Unit) Bool Bool :=
 ⟨fun z=>z.2.1,fun z=>z.2.2,fun z x n=>((),x,n),fun z=>y54 u10,fun z=>jfo u7 u9,fun z=>top r,fun z=>0,[.c fun _=>0,.c fun _=>(↑u10.length:Int),.c fun vv=>vv.2.1,.c fun _=>u13,.c fun _=>u7,.c fun _=>u9,.c fun _=>u15,.c fun _=>u10,.c fun _=>u12,.c fun _=>u11,.c fun _=>u14]⟩
def jux (u13:ByteArray) (u7:Int) (u12 u11 u10:List Int) (u9:Int) (u14:List (List Int)) (u15:Int) (r:Bool):Sk (top r) (Option.bind (jak (y54 u10) big (0:Int)) (jfo u7 u9)) :=
 .loop (jmN u13 u7 u12 u11 u10 u9 u14 u15 r) (fun kk=>((),0,big)) fun z0 =>
 .br
 (.ob (.ob (.call (.brB
 (.exit (.obT (.rc)))
 (.next)))))
 (.exit (.call (.brB
 (.brB
 (.obT (.rc))
 (.obT (.rc)))
 (.obT (.rc)))))
def juy (u13:ByteArray) (u7:Int) (u12 u11 u10:List Int) (u9:Int) (u14:List (List Int)) (u15:Int) (r:Bool):Sk (top r) (Option.bind (jak (y66 u11) big (0:Int)) (jh4 u7 u10 u9)) :=
 .loop (jmM u13 u7 u12 u11 u10 u9 u14 u15 r) (fun kk=>((0:Int),big)) fun z0 =>
 .br
 (.ob (.ob (.call (.brB
 (.exit (.obT (.rc)))
 (.next)))))
 (.exit (jux u13 u7 u12 u11 u10 u9 u14 u15 r))
def jws (u13:ByteArray) (u7:Int) (u12 u11 u10:List Int) (u9:Int) (u14:List (List Int)) (u15:Int) (r:Bool):Sk (top r) (y98 u13 u7 u12 u11 u10 u9 u14 u15) :=
 juy u13 u7 u12 u11 u10 u9 u14 u15 r
theorem juz (u13:ByteArray) (u7:Int) (u12 u11 u10:List Int) (u9:Int) (u14:List (List Int)) (u15:Int) (r:Bool) (h:Option.bind (y98 u13 u7 u12 u11 u10 u9 u14 u15) some=some r):jbg Tryz.f129 ((sp_159 (sp_160 sp0))) (fun gs id _=>match id with
 |0=>some ⟨Int × Nat,fun z=>⟨[(1,.w (.c (.p 4 0 1 0))),(3,.w (.c (.fn 159 []))),(9,.w (.c (.o 1))),(10,.w (.c (.d (.i .i64 ((↑u11.length:Int)))))),(11,.w (.c (.d (.i .i64 z.1))))],[(4,.box 118 [.d (.s u13),.d (.i .i64 u7),.o 0,.o 1,.o 2,.d (.i .i64 u9),.o 3,.d (.i .i64 u15)]),(1,.ext (.ints .i64 u11)),(0,.ext (.ints .i64 u12)),(2,.ext (.ints .i64 u10)),(3,.ext (.recs 5 u14))],5⟩,fun z=>(jmM u13 u7 u12 u11 u10 u9 u14 u15 r).inv z,fun z=>z.2⟩
 |2=>some ⟨Unit × Int × Nat,fun z=>⟨[(1,.w (.c (.p 4 0 1 0))),(3,.w (.c (.fn 159 []))),(21,.w (.c (.o 2))),(22,.w (.c (.d (.i .i64 ((↑u10.length:Int)))))),(23,.w (.c (.d (.i .i64 z.2.1))))],[(4,.box 118 [.d (.s u13),.d (.i .i64 u7),.o 0,.o 1,.o 2,.d (.i .i64 u9),.o 3,.d (.i .i64 u15)]),(2,.ext (.ints .i64 u10)),(0,.ext (.ints .i64 u12)),(1,.ext (.ints .i64 u11)),(3,.ext (.recs 5 u14))],5⟩,fun z=>(jmN u13 u7 u12 u11 u10 u9 u14 u15 r).inv z,fun z=>z.2.2⟩
 |_=>none) (ja8 jjB [.d (.s u13),.d (.i .i64 u7),.r (.ints .i64 u12),.r (.ints .i64 u11),.r (.ints .i64 u10),.d (.i .i64 u9),.r (.recs 5 u14),.d (.i .i64 u15)]) [.c (.d (.b r))] :=
 Sk.vc (jws u13 u7 u12 u11 u10 u9 u14 u15 r) (by kernel_rfl) h
theorem juA:jaf Tryz.prog 129 true (jal jjB jjC):=by
 refine jaA (sp:=(sp_159 (sp_160 sp0))) (fn:=Tryz.f129) (body:=bodyOf Tryz.f129) mixed (sp_159_ok (sp_160_ok jau)) Tryz.func129 (by kernel_rfl) (by kernel_rfl) fun ls t h ho b hb=>?_;unfold jjC at h;split at h
 ·rename_i u13 u7 u12 u11 u10 u9 u14 u15;cases h;obtain rfl:=jaM hb;exact⟨Nat.le_of_ble_eq_true (by kernel_rfl),_,_,juz u13 u7 u12 u11 u10 u9 u14 u15 _ (jaq ho)⟩
 ·cases h
theorem sp_129_ok {sp:jaa} (h:jac Tryz.prog sp):jac Tryz.prog (sp_129 sp):=jas juA h
def jjD:List SV:=[.a [.d,.d,.r (.ints .i64 []),.r (.ints .i64 []),.r (.ints .i64 []),.d,.r (.recs 5 []),.d]]
def y82 (u13:ByteArray) (u7:Int) (u12 u11 u10:List Int) (u9:Int) (u14:List (List Int)) (u15:Int):Option Bool :=
 if(u7==0)=true then
  Option.bind (y16 (↑u12.length:Int) (0:Int) (0:Int)) fun r0 =>
  if(r0)=true then
  if((↑u11.length:Int)==(↑u12.length:Int))=true then
   some ((↑u10.length:Int)==0)
  else
   some false
  else
  some false
 else
  if(u7==1)=true then
  Option.bind (y16 (↑u12.length:Int) (1:Int) (6:Int)) fun r1 =>
  if(r1)=true then
   if((↑u11.length:Int)==(↑u12.length:Int))=true then
   some ((↑u10.length:Int)==(↑u12.length:Int))
   else
   some false
  else
   some false
  else
  Option.bind (y16 (↑u12.length:Int) (1:Int) (1:Int)) fun r2 =>
  if(r2)=true then
   if((↑u11.length:Int)==(↑u12.length:Int))=true then
   some ((↑u10.length:Int)==0)
   else
   some false
  else
   some false
def jjE:List Lf→Option GT
 |[.d (.s u13),.d (.i .i64 u7),.r (.ints .i64 u12),.r (.ints .i64 u11),.r (.ints .i64 u10),.d (.i .i64 u9),.r (.recs 5 u14),.d (.i .i64 u15)]=>some (.leaf (ok (y82 u13 u7 u12 u11 u10 u9 u14 u15)) [.c (.d (.b ((val (y82 u13 u7 u12 u11 u10 u9 u14 u15)))))])
 |_=>none
abbrev sp_127:jaa→jaa:=jaH 127 true (jal jjD jjE)
def jwt (u13:ByteArray) (u7:Int) (u12 u11 u10:List Int) (u9:Int) (u14:List (List Int)) (u15:Int) (r:Bool):Sk (top r) (y82 u13 u7 u12 u11 u10 u9 u14 u15) :=
 .brB
 (.call (.brB
 (.brB
 (.obT (.rc))
 (.obT (.rc)))
 (.obT (.rc))))
 (.brB
 (.call (.brB
 (.brB
 (.obT (.rc))
 (.obT (.rc)))
 (.obT (.rc))))
 (.call (.brB
 (.brB
 (.obT (.rc))
 (.obT (.rc)))
 (.obT (.rc)))))
theorem juB (u13:ByteArray) (u7:Int) (u12 u11 u10:List Int) (u9:Int) (u14:List (List Int)) (u15:Int) (r:Bool) (h:Option.bind (y82 u13 u7 u12 u11 u10 u9 u14 u15) some=some r):jbg Tryz.f127 ((sp_84 sp0)) (fun _ _ _=>none) (ja8 jjD [.d (.s u13),.d (.i .i64 u7),.r (.ints .i64 u12),.r (.ints .i64 u11),.r (.ints .i64 u10),.d (.i .i64 u9),.r (.recs 5 u14),.d (.i .i64 u15)]) [.c (.d (.b r))] :=
 Sk.vc (jwt u13 u7 u12 u11 u10 u9 u14 u15 r) (by kernel_rfl) h
theorem juC:jaf Tryz.prog 127 true (jal jjD jjE):=by
 refine jaA (sp:=(sp_84 sp0)) (fn:=Tryz.f127) (body:=bodyOf Tryz.f127) mixed (sp_84_ok jau) Tryz.func127 (by kernel_rfl) (by kernel_rfl) fun ls t h ho b hb=>?_;unfold jjE at h;split at h
 ·rename_i u13 u7 u12 u11 u10 u9 u14 u15;cases h;obtain rfl:=jaM hb;exact⟨Nat.le_of_ble_eq_true (by kernel_rfl),_,_,juB u13 u7 u12 u11 u10 u9 u14 u15 _ (jaq ho)⟩
 ·cases h
theorem sp_127_ok {sp:jaa} (h:jac Tryz.prog sp):jac Tryz.prog (sp_127 sp):=jas juC h
end Go.Sh
end

section
namespace Go.Sh
open Go Go.Proofs Go.RowKit Go.Sx
open Go.IntKind (wrap)
def joI:List (Option Cont):=[none,none,none]
def je2 (n lo hi:Int):Option Bool :=
 if lo≤n then
  some (decide (n≤hi))
 else
  some false
def jjF:List A→Option (Prop × List RV)
 |[.d (.i .i64 n),.d (.i .i64 lo),.d (.i .i64 hi)]=>some (ok (je2 n lo hi),[.d (.b ((val (je2 n lo hi))))])
 |_=>none
abbrev sp_180:jaa→jaa:=jaH 180 true (jaF joI jjF)
def jwu (n lo hi:Int) (r:Bool):Sk (top r) (je2 n lo hi) :=
 .br
 (.obT (.rc))
 (.obT (.rc))
theorem juD (n lo hi:Int) (r:Bool) (h:Option.bind (je2 n lo hi) some=some r):jcg Tryz.f180 (sp0) (fun _ _ _=>none) [.d (.i .i64 n),.d (.i .i64 lo),.d (.i .i64 hi)] [.d (.b r)] :=
 Sk.vc (jwu n lo hi r) (by kernel_rfl) h
theorem juE:jaf Tryz.prog 180 true (jaF joI jjF):=by
 refine jaQ (sp:=sp0) (fn:=Tryz.f180) (body:=bodyOf Tryz.f180) mixed jau Tryz.func180 (by kernel_rfl) (by kernel_rfl) fun as_ ob rs h ho=>?_;unfold jjF at h;split at h
 ·rename_i n lo hi;cases h;exact⟨Nat.le_of_ble_eq_true rfl,_,_,juD n lo hi _ (jaq ho)⟩
 ·cases h
theorem sp_180_ok {sp:jaa} (h:jac Tryz.prog sp):jac Tryz.prog (sp_180 sp):=jas juE h
def jqA:List (Option Cont):=[none,none]
def jgy (n u39:Int):Option Bool :=
 Option.bind (je2 n (wrap .i64 (0-u39)) u39) fun r0 =>
 some r0
def jld:List A→Option (Prop × List RV)
 |[.d (.i .i64 n),.d (.i .i64 u39)]=>some (ok (jgy n u39),[.d (.b ((val (jgy n u39))))])
 |_=>none
abbrev sp_177:jaa→jaa:=jaH 177 true (jaF jqA jld)
def jx4 (n u39:Int) (r:Bool):Sk (top r) (jgy n u39) :=
 .call (.obT (.rc))
theorem jwv (n u39:Int) (r:Bool) (h:Option.bind (jgy n u39) some=some r):jcg Tryz.f177 ((sp_180 sp0)) (fun _ _ _=>none) [.d (.i .i64 n),.d (.i .i64 u39)] [.d (.b r)] :=
 Sk.vc (jx4 n u39 r) (by kernel_rfl) h
theorem jww:jaf Tryz.prog 177 true (jaF jqA jld):=by
 refine jaQ (sp:=(sp_180 sp0)) (fn:=Tryz.f177) (body:=bodyOf Tryz.f177) mixed (sp_180_ok jau) Tryz.func177 (by kernel_rfl) (by kernel_rfl) fun as_ ob rs h ho=>?_;unfold jld at h;split at h
 ·rename_i n u39;cases h;exact⟨Nat.le_of_ble_eq_true rfl,_,_,jwv n u39 _ (jaq ho)⟩
 ·cases h
theorem sp_177_ok {sp:jaa} (h:jac Tryz.prog sp):jac Tryz.prog (sp_177 sp):=jas jww h
def jwx:List (Option Cont):=[none]
def jdS (n:Int):Option Bool :=
 Option.bind (jgy n (32768:Int)) fun r0 =>
 some r0
def joJ:List A→Option (Prop × List RV)
 |[.d (.i .i64 n)]=>some (ok (jdS n),[.d (.b ((val (jdS n))))])
 |_=>none
def jwy (n:Int) (r:Bool):Sk (top r) (jdS n) :=
 .call (.obT (.rc))
theorem juF (n:Int) (r:Bool) (h:Option.bind (jdS n) some=some r):jcg Tryz.f183 ((sp_177 sp0)) (fun _ _ _=>none) [.d (.i .i64 n)] [.d (.b r)] :=
 Sk.vc (jwy n r) (by kernel_rfl) h
theorem juG:jaf Tryz.prog 183 true (jaF jwx joJ):=by
 refine jaQ (sp:=(sp_177 sp0)) (fn:=Tryz.f183) (body:=bodyOf Tryz.f183) mixed (sp_177_ok jau) Tryz.func183 (by kernel_rfl) (by kernel_rfl) fun as_ ob rs h ho=>?_;unfold joJ at h;split at h
 ·rename_i n;cases h;exact⟨Nat.le_of_ble_eq_true rfl,_,_,juF n _ (jaq ho)⟩
 ·cases h
end Go.Sh
end

section
namespace Go.Sx09
open Go Go.Proofs Go.RowKit Go.Shelf Go.Sx
attribute [local go_sem] Oper.semAt_some
theorem glob0 {B:Kd} {w:World}:jb8 B w:=⟨fun _ _ h=>(by cases h),jqg (fun _=>rfl) B w⟩
theorem jfI {ρ:Env} {B:Kd} {N n0:Nat} {st:St} {a:Act} {w:World} {t:Nat} {v:Value} (h:Rel ρ B N n0 st a w) (ht:jav st.tm t=none) (hlt:t<N):Rel ρ B N n0 st (a.put (some t) v) w:=by
 refine⟨fun x u hx=>?_,by rw[jbu];exact h.size,by rw[jcM];exact h.defers,h.heap,h.le,h.n0⟩;have hne:x≠t:=fun e=>by subst e;rw[ht]at hx;cases hx
 rw[jbH (fun y hy=>by cases hy;rw[h.size];exact hlt),if_neg (fun e=>hne (Option.some.inj e).symm)];exact h.tm x u hx
structure KpC (n1:Nat) (A C:World):Prop where
 size:A.heap.size≤C.heap.size
 same:∀k o,n1≤k→A.heap[k]?=some o→o.isCells=true→C.heap[k]?=some o
def stL (y:Value) (L:List Int) (k:Nat):St :=
 ⟨[(11,vi .i64 k),(10,vi .i64 5),(9,.w (.c (.o 0))),(0,.w (.c (.d (.v y))))],[(0,.ext (.ints .i64 L))],1⟩
def stB (y:Value) (b0 b1 b2 a0 a1:Int):St :=
 ⟨[(11,vi .i64 0),(10,vi .i64 5),(9,.w (.c (.o 1))),(0,.w (.c (.d (.v y))))],[(1,.row 3 (.ints .i64 [b0,b1,b2,a0,a1])),(0,.box 148 [.d (.i .i64 b0),.d (.i .i64 b1),.d (.i .i64 b2),.d (.i .i64 a0),.d (.i .i64 a1)])],2⟩
structure Bet (Far:World→Nat→Prop) (y:Value) (L:List Int) (k:Nat) (a:Act) (w:World):Prop where
 rel:∃ρ,Rel ρ (kd fun x=>x<w.heap.size) 22 1 (stL y L k) a w∧∀ad n cap,ρ 0=.slice (some ad) n cap→Far w ad.block
theorem jwz {v:Value} {c:Cont} {A C:World} (h:jaD A v c) (he:0<c.e) (hv:∀ad n cap,v=.slice (some ad) n cap→∀o,A.heap[ad.block]?=some o→o.isCells=true→C.heap[ad.block]?=some o):jaD C v c:=by
 obtain⟨a,cap,rfl,hc,hcells⟩:=h;refine⟨a,cap,rfl,hc,fun hn=>?_⟩;obtain⟨b,off,rfl,hx⟩:=hcells hn;refine⟨b,off,rfl,fun j x hj=>?_⟩;have h1:=hx j x hj;obtain⟨o,ho,hoc⟩:=cells_of_cell h1;have h2:=hv _ _ _ rfl o ho hoc;have ho':A.heap[b]?=some o:=ho;exact(World.cell?_of_block (w:=A) (w':=C) (a:=⟨b,off+j,none⟩) (h2.trans ho'.symm)).trans h1
theorem piece {c:Code} {N n0:Nat} {st st2:St} {ρ:Env} {a:Act} {w:World} (hr:Rel ρ (kd fun x=>x<w.heap.size) N n0 st a w)
  (h:sx Tryz.prog (fun _=>none) N n0 0 (fun _ _ _=>none) (fun _ _ _=>False) c 0 [] st (fun e st'=>match e with | .normal=>Le n0 st' st2|_=>False)) :
  c.wp Tryz.prog (fun e a' w'=>e=.normal∧w.grownBy w' none∧∃ρ',Rel ρ' (kd fun x=>x<w.heap.size) N n0 st2 a' w'∧jae n0 ρ ρ') a w:=by
 refine wp_mono (ja6 (fun _ _ _ h=>by cases h) (fun _ _ _ _ _ _ _ _ _ h=>h.elim) c 0 [] st _ ρ a w h hr (jae.refl _ _) (Bel.refl _ _)) ?_;rintro e a' w' ⟨ex,ρ',st',rfl,hk,hr',hag,hbl⟩;cases ex with
 |normal =>
  obtain⟨ρ2,hr2,hag2⟩:=Le.rel hk hr';exact⟨rfl,⟨hbl.os,hbl.tape,hbl.output,hbl.size,fun k hk _=>hbl.block k hk⟩,ρ2,hr2,fun x hx=>(hag2 x hx).trans (hag x hx)⟩
 |exit j=>exact hk.elim
 |ret=>exact hk.elim
def prs (L:List Int) (k:Nat):List (Nat × Int):=(List.range k).map fun j=>(j,L.getD j 0)
theorem jsR (L:List Int) (k:Nat):prs L (k+1)=prs L k++[(k,L.getD k 0)]:=by simp[prs,List.range_succ]
theorem joK (L:List Int) (k:Nat):(prs L k).length=k:=by simp[prs]
def sub:List Nat→Code→Code
 |[],c=>c
 |0::p,.seq x _=>sub p x
 |_::p,.seq _ y=>sub p y
 |0::p,.cond _ x _=>sub p x
 |_::p,.cond _ _ y=>sub p y
 |_::p,.block _ c=>sub p c
 |_::p,.loop c=>sub p c
 |_,c=>c
def bodyOf (f:Func):Code:=f.body.getD .skip
abbrev pc (c:Code) (st st2:St):Prop:=sx Tryz.prog (fun _=>none) 22 1 0 (fun _ _ _=>none) (fun _ _ _=>False) c 0 [] st (fun e st'=>match e with | .normal=>Le 1 st' st2|_=>False)
def stC (y:Value) (L:List Int) (k:Nat):St:=⟨(12,vb (decide ((k:Int)<5)))::(stL y L k).tm,(stL y L k).hp,1⟩
def stD (y:Value) (L:List Int) (k:Nat):St:=⟨(4,vi .i64 (L.getD k 0))::(3,vi .i64 k)::(stL y L k).tm,(stL y L k).hp,1⟩
theorem pc1 (y:Value) (L:List Int) (k:Nat):pc (sub [1,0,0,0] (bodyOf Tryz.f185)) (stL y L k) (stC y L k):=by
 refine Eq.mp (by kernel_rfl:(Ob ((decide ((k:Int)<5))=decide ((k:Int)<5))∧Ob ((k:Int)=k)∧Ob ((5:Int)=5)∧Ob (y=y)∧Ob (L=L)∧True)=_) ?_;exact⟨⟨rfl⟩,⟨rfl⟩,⟨rfl⟩,⟨rfl⟩,⟨rfl⟩,trivial⟩
theorem pc2 (y:Value) (L:List Int) (k:Nat) (hk:k<L.length):pc (sub [1,0,0,1,1,0,0,0] (bodyOf Tryz.f185)) (stC y L k) (stD y L k):=by
 refine Eq.mp (by kernel_rfl:(Ob (0≤(k:Int)∧(k:Int)<(L.length:Int))∧Ob ((k:Int).toNat<L.length)∧Ob (L.getD (k:Int).toNat 0=L.getD k 0)∧Ob ((k:Int)=k)∧Ob ((k:Int)=k)∧Ob ((5:Int)=5)∧Ob (y=y)∧Ob (L=L)∧True)=_) ?_;exact⟨⟨by omega⟩,⟨by omega⟩,⟨rfl⟩,⟨rfl⟩,⟨rfl⟩,⟨rfl⟩,⟨rfl⟩,⟨rfl⟩,trivial⟩
theorem pc3 (y:Value) (L:List Int) (k:Nat) (hk:k<5):pc (sub [1,0,0,1,1,1] (bodyOf Tryz.f185)) (stL y L k) (stL y L (k+1)):=by
 refine Eq.mp (by kernel_rfl:(Ob (IntKind.i64.wrap ((k:Int)+1)=((k+1:Nat):Int))∧Ob ((5:Int)=5)∧Ob (y=y)∧Ob (L=L)∧True)=_) ?_;refine⟨⟨?_⟩,⟨rfl⟩,⟨rfl⟩,⟨rfl⟩,trivial⟩;rw[IntWalk.i64_in _ (by omega)];omega
theorem jsS {ρ:Env} {B:Kd} {N n0:Nat} {st:St} {a:Act} {w:World} {c:Cont} (h:Rel ρ B N n0 st a w) (hs:st.hp=[(0,.ext c)]) (he:0<c.e):Rel ρ (kd fun x=>x<w.heap.size) N n0 st a w:=by
 obtain⟨B',_,hh⟩:=h.heap;refine⟨h.tm,h.size,h.defers,⟨kd fun x=>x<w.heap.size,Grow.refl _ _ _ _,⟨fun x o hf=>?_,fun x o x' o' b hf hf' hne hb=>?_,glob0⟩⟩,fun k hk=>jaW.1 hk,h.n0⟩
 ·have h1:=hh.ok x o hf;refine⟨h1.1,h1.2.1,?_⟩;rw[hs]at hf;simp only[find]at hf;split at hf
  ·cases hf;exact⟨h1.2.2.1,h1.2.2.1.lt he⟩
  ·cases hf
 ·rw[hs]at hf;simp only[find]at hf;split at hf
  ·cases hf;cases hb
  ·cases hf
theorem jle {o:Oper} {x:Operand} {n:Nat} {a:Act} {w:World} {K:Act→World→Prop} {Q:Exit→Act→World→Prop} (ho:o.op=.move x) (h:K (a.put o.dst (a.eval x)) w):o.wpIn Fence.wide n Tryz.prog a w K Q:=by
 refine⟨fun _ _=>trivial,?_⟩
 have:((o.semAt Fence.wide.round a.eval).run Tryz.prog w)=.ok (.value (a.eval x)) w:=by
  rw[Fence.wide_round,Oper.semAt_none];unfold execOp;simp only[ho,Sem.run_pure]
 rw[this];exact h
theorem jdT {y:Value} {L:List Int} {k t:Nat} (h:t≠11∧t≠10∧t≠9∧t≠0):jav (stL y L k).tm t=none:=by
 simp only[stL,jav];rw[if_neg (Ne.symm h.1),if_neg (Ne.symm h.2.1),if_neg (Ne.symm h.2.2.1),if_neg (Ne.symm h.2.2.2)]
set_option maxHeartbeats 2000000 in
theorem jx5 (n l:Nat) (Kp:World→World→Prop) (Far:World→Nat→Prop)
  (hKF:∀{A C:World} {k:Nat},Kp A C→Far A k→Far C k∧∀o,A.heap[k]?=some o→o.isCells=true→C.heap[k]?=some o)
  (hFg:∀{A B:World} {k:Nat},A.grownBy B none→Far A k→Far B k) (L:List Int) (hL:L.length=5) (J Jx:List (Nat × Int)→World→Prop)
  (hY:∀pre x W,J pre W→pre.length<5→x=(pre.length,L.getD pre.length 0)→YieldAt Fence.wide (n-1) Tryz.prog l #[.int .i64 (x.1:Int),.int .i64 x.2] W fun e W' =>
   (e=.returned (.bool true)∧J (pre++[x]) W'∧Kp W W')∨(e=.returned (.bool false)∧Jx (pre++[x]) W'))
  (hJ:∀A B pre,J pre A→A.grownBy B none→J pre B) (a:Act) (w:World) (hb:Bet Far (.func (.yield l) #[] #[]) L 0 a w) (hj0:J (prs L 0) w) :
  (sub [1] (bodyOf Tryz.f185)).wpIn Fence.wide n Tryz.prog (bodyPost Tryz.prog Tryz.f185 fun e W'=>(∃v,e=.returned v) ∧
   ((∃ys,ys=prs L 5∧J ys W')∨(∃pre,(∃k,k≤5∧pre=prs L k)∧Jx pre W'))) a w:=by
 refine wpIn_block (wpIn_loop (fun a w=>∃k,k≤5∧Bet Far (.func (.yield l) #[] #[]) L k a w∧J (prs L k) w) (fun a _=>5-(intOf (a.tmps.getD 11 undef)).toNat) ⟨0,by omega,hb,hj0⟩ ?_);rintro a w ⟨k,hk,⟨ρ,hr,hge⟩,hj⟩
 have hmu:(intOf (a.tmps.getD 11 undef)).toNat=k:=by
  rw[(hr.tm 11 _ rfl).2];simp[intOf]
 rw[hmu];refine wpIn_seq (wpIn_wide.2 (wp_mono (piece hr (pc1 _ L k)) ?_));rintro e a1 w1 ⟨rfl,hg1,ρ1,hr1,hag1⟩;have hj1:=hJ _ _ _ hj hg1;have hc:a1.eval (.tmp 12)=.bool (decide ((k:Int)<5)):=(hr1.tm 12 _ rfl).2
 by_cases hlt:k<5
 ·refine wpIn_seq (wpIn_cond_true (by rw[hc,decide_eq_true (by omega)]) (wpIn_skip ?_));refine wpIn_seq (wpIn_block (wpIn_seq (wpIn_wide.2 (wp_mono (piece (jsS hr1 rfl (Nat.lt_succ_self 0)) (pc2 _ L k (by omega))) ?_))));rintro e a2 w2 ⟨rfl,hg2,ρ2,hr2,hag2⟩;have hj2:=hJ _ _ _ hj1 hg2;obtain⟨fn,tmps,assign,body,hy,hR⟩:=hY (prs L k) (k,L.getD k 0) w2 hj2 (by rw[joK];exact hlt) (by rw[joK])
  have hr2L:Rel ρ2 (kd fun x=>x<w2.heap.size) 22 1 (stL (.func (.yield l) #[] #[]) L k) a2 w2:=by
   have:=jsS hr2 (c:=.ints .i64 L) rfl (Nat.lt_succ_self 0);refine⟨fun t v hv=>this.tm t v ?_,this.size,this.defers,this.heap,this.le,this.n0⟩;have hne:t≠4∧t≠3:=⟨(fun e=>by subst e;rw[jdT (by decide)]at hv;cases hv),(fun e=>by subst e;rw[jdT (by decide)]at hv;cases hv)⟩
   show jav ((4,_)::(3,_)::_) t=some v
   simp only[jav];rw[if_neg (Ne.symm hne.1),if_neg (Ne.symm hne.2)];exact hv
  have e3:a2.tmps.getD 3 undef=.int .i64 k:=(hr2.tm 3 _ rfl).2;have e4:a2.tmps.getD 4 undef=.int .i64 (L.getD k 0):=(hr2.tm 4 _ rfl).2;have e0:a2.tmps.getD 0 undef=.func (.yield l) #[] #[]:=(hr2.tm 0 _ rfl).2;have hge2:∀ad n cap,ρ2 0=.slice (some ad) n cap→Far w2 ad.block:=fun ad n cap h=>hFg hg2 (hFg hg1 (hge ad n cap (by rw[←hag1 0 (Nat.lt_succ_self 0),←hag2 0 (Nat.lt_succ_self 0)];exact h)));refine wpIn_seq (wpIn_region_list ?_);refine wpListIn_plain rfl fun K hK=>jle rfl (hK _ _ ?_);refine wpListIn_plain rfl fun K hK=>jle rfl (hK _ _ ?_);refine wpListIn_plain rfl fun K hK=>jle rfl (hK _ _ ?_);have hsz:a2.tmps.size=22:=hr2L.size;obtain⟨a3,ha3⟩:∃a3,a3=((a2.put (some 16) (a2.eval (.tmp 0))).put (some 17) ((a2.put (some 16) (a2.eval (.tmp 0))).eval (.tmp 3))).put (some 18) (((a2.put (some 16) (a2.eval (.tmp 0))).put (some 17) ((a2.put (some 16) (a2.eval (.tmp 0))).eval (.tmp 3))).eval (.tmp 4)):=⟨_,rfl⟩
  have hr3:Rel ρ2 (kd fun x=>x<w2.heap.size) 22 1 (stL (.func (.yield l) #[] #[]) L k) a3 w2:=by
   rw[ha3];exact jfI (jfI (jfI hr2L (jdT (by decide)) (by decide)) (jdT (by decide)) (by decide)) (jdT (by decide)) (by decide)
  have g16:a3.eval (.tmp 16)=.func (.yield l) #[] #[]:=by
   rw[ha3]
   show(Act.put _ (some 18) _).tmps.getD 16 undef=_
   rw[jbH (fun x hx=>by cases hx;simp[jbu,hsz]),if_neg (by decide),jbH (fun x hx=>by cases hx;simp[jbu,hsz]),if_neg (by decide),jbH (fun x hx=>by cases hx;simp[hsz]),if_pos rfl];exact e0
  have g17:a3.eval (.tmp 17)=.int .i64 k:=by
   rw[ha3]
   show(Act.put _ (some 18) _).tmps.getD 17 undef=_
   rw[jbH (fun x hx=>by cases hx;simp[jbu,hsz]),if_neg (by decide),jbH (fun x hx=>by cases hx;simp[jbu,hsz]),if_pos rfl]
   show(Act.put _ (some 16) _).tmps.getD 3 undef=_
   rw[jbH (fun x hx=>by cases hx;simp[hsz]),if_neg (by decide)];exact e3
  have g18:a3.eval (.tmp 18)=.int .i64 (L.getD k 0):=by
   rw[ha3]
   show(Act.put _ (some 18) _).tmps.getD 18 undef=_
   rw[jbH (fun x hx=>by cases hx;simp[jbu,hsz]),if_pos rfl]
   show(Act.put _ (some 17) _).tmps.getD 4 undef=_
   rw[jbH (fun x hx=>by cases hx;simp[jbu,hsz]),if_neg (by decide),jbH (fun x hx=>by cases hx;simp[hsz]),if_neg (by decide)];exact e4
  have hsz3:a3.tmps.size=22:=hr3.size;rw[←ha3];clear ha3;refine wpListIn_plain rfl fun K hK=>⟨fun _ _=>trivial,?_⟩
  have hcall:∀o:Oper,o.op=.call { callee:=.value (.tmp 16),args:=#[.tmp 17,.tmp 18],argTypes:=#[3,3] }→((o.semAt Fence.wide.round a3.eval).run Tryz.prog w2)=.ok (.round l fn tmps assign body) w2:=by
   intro o ho;rw[Fence.wide_round,Oper.semAt_none];unfold execOp;simp only[ho,resolve,g16,Deferred.ofValue,Sem.run_bind,Sem.run_pure,Result.andThen_ok,invoke,List.map_toArray,List.map_cons,List.map_nil,g17,g18];exact hy
  rw[hcall _ rfl];refine⟨(fun h=>by cases h),hR.mono ?_⟩
  have hnot:∀(o:Oper) (b:Bool) (w3:World),o.op=.unOp .not 4 (.tmp 19)→((o.semAt Fence.wide.round (a3.put (some 19) (.bool b)).eval).run Tryz.prog w3)=.ok (.value (.bool !b)) w3:=by
   intro o b w3 ho
   have h19:(a3.put (some 19) (.bool b)).eval (.tmp 19)=.bool b:=by
    show(Act.put _ (some 19) _).tmps.getD 19 undef=_
    rw[jbH (fun x hx=>by cases hx;simp[hsz3]),if_pos rfl]
   rw[Fence.wide_round,Oper.semAt_none];unfold execOp;simp only[ho,h19];rfl
  have h20:∀b,((a3.put (some 19) (.bool b)).put (some 20) (.bool !b)).eval (.tmp 20)=.bool !b:=fun b=>by
   show(Act.put _ (some 20) _).tmps.getD 20 undef=_
   rw[jbH (fun x hx=>by cases hx;simp[jbu,hsz3]),if_pos rfl]
  have hr5:∀b,Rel ρ2 (kd fun x=>x<w2.heap.size) 22 1 (stL (.func (.yield l) #[] #[]) L k) ((a3.put (some 19) (.bool b)).put (some 20) (.bool !b)) w2:=fun b =>
   jfI (jfI hr3 (jdT (by decide)) (by decide)) (jdT (by decide)) (by decide)
  rintro e w3 (⟨rfl,hj3,hk3⟩|⟨rfl,hj3⟩)
  ·refine hK _ _ (wpListIn_plain rfl fun K hK=>⟨fun _ _=>trivial,?_⟩);rw[hnot _ true w3 rfl];refine hK _ _ (wpListIn_nil ?_);refine wpIn_cond_false (h20 true) (wpIn_skip ?_);have h5:=hr5 true;obtain⟨B2,_,hh2⟩:=hr2L.heap;have hrow3:jaD w3 (ρ2 0) (.ints .i64 L):=jwz (hh2.ok 0 _ rfl).2.2.1 (Nat.lt_succ_self 0) fun ad n cap h=>(hKF hk3 (hge2 ad n cap h)).2
   have h6:Rel ρ2 (kd fun x=>x<w3.heap.size) 22 1 (stL (.func (.yield l) #[] #[]) L k) ((a3.put (some 19) (.bool true)).put (some 20) (.bool !true)) w3:=by
    refine⟨h5.tm,h5.size,h5.defers,⟨kd fun x=>x<w3.heap.size,Grow.refl _ _ _ _,⟨fun x o hf=>?_,fun x o x' o' b hf hf' hne hb=>?_,glob0⟩⟩,fun k hk=>jaW.1 hk,h5.n0⟩
    ·simp only[stL,find]at hf;split at hf
     ·rename_i e;subst e;cases hf;exact⟨Nat.lt_succ_self 0,trivial,hrow3,hrow3.lt (Nat.lt_succ_self 0)⟩
     ·cases hf
    ·simp only[stL,find]at hf;split at hf
     ·cases hf;cases hb
     ·cases hf
   refine wpIn_wide.2 (wp_mono (piece h6 (pc3 _ L k hlt)) ?_);rintro e a7 w7 ⟨rfl,hg7,ρ7,hr7,hag7⟩;refine⟨⟨k+1,by omega,⟨ρ7,jsS hr7 (c:=.ints .i64 L) rfl (Nat.lt_succ_self 0),fun ad n cap h=>hFg hg7 (hKF hk3 (hge2 ad n cap (by rw[←hag7 0 (Nat.lt_succ_self 0)];exact h))).1⟩,?_⟩,?_⟩
   ·rw[jsR];exact hJ _ _ _ hj3 hg7
   ·rw[(hr7.tm 11 _ rfl).2];simp[intOf];omega
  ·refine hK _ _ (wpListIn_plain rfl fun K hK=>⟨fun _ _=>trivial,?_⟩);rw[hnot _ false w3 rfl];refine hK _ _ (wpListIn_nil ?_);refine wpIn_cond_true (h20 false) (wpIn_ret ?_);refine⟨(hr5 false).defers,.tuple #[],results_none rfl _ _ _,⟨_,rfl⟩,.inr ⟨_,⟨k+1,by omega,rfl⟩,?_⟩⟩;rw[jsR];exact hj3
 ·have hk5:k=5:=by omega
  subst hk5;refine wpIn_seq (wpIn_cond_false (by rw[hc,decide_eq_false (by omega)]) (wpIn_exit ?_));refine⟨hr1.defers,.tuple #[],?_,⟨_,rfl⟩,.inl ⟨_,rfl,hj1⟩⟩;exact results_none rfl _ _ _
set_option maxHeartbeats 2000000 in
theorem jzL (n l Bs:Nat) (Kp:World→World→Prop) (Far:World→Nat→Prop)
  (hKF:∀{A C:World} {k:Nat},Kp A C→Far A k→Far C k∧∀o,A.heap[k]?=some o→o.isCells=true→C.heap[k]?=some o)
  (hFg:∀{A B:World} {k:Nat},A.grownBy B none→Far A k→Far B k) (b0 b1 b2 a0 a1:Int) (J Jx:List (Nat × Int)→World→Prop)
  (hY:∀pre x W,J pre W→pre.length<5→x=(pre.length,[b0,b1,b2,a0,a1].getD pre.length 0)→YieldAt Fence.wide (n-1) Tryz.prog l #[.int .i64 (x.1:Int),.int .i64 x.2] W fun e W' =>
   (e=.returned (.bool true)∧J (pre++[x]) W'∧Kp W W')∨(e=.returned (.bool false)∧Jx (pre++[x]) W'))
  (W:World) (hF0:∀B g,W.grownBy B none→W.heap.size≤g→g<B.heap.size→Far B g) (hJ:AbidesFrom W.heap.size J) (hBs:W.heap[Bs]?=some (.cells #[.int .i64 b0,.int .i64 b1,.int .i64 b2,.int .i64 a0,.int .i64 a1] 148 (0,0))) (h0:J [] W) :
  CallsIn Fence.wide n Tryz.prog 185 #[.func (.yield l) #[] #[],.pointer (some ⟨Bs,0,none⟩)] W fun e W'=>(∃v,e=.returned v) ∧
   ((∃ys,ys=prs [b0,b1,b2,a0,a1] 5∧J ys W')∨(∃pre,(∃k,k≤5∧pre=prs [b0,b1,b2,a0,a1] k)∧Jx pre W')):=by
 refine callsIn_of_wp Tryz.func185 rfl trivial ?_ rfl;refine wpIn_seq (wpIn_wide.2 ?_);have hBlt:Bs<W.heap.size:=(Array.getElem?_eq_some_iff.1 hBs).1
 let ρ:Env:=fun _=>.pointer (some ⟨Bs,0,none⟩)
 let y:Value:=.func (.yield l) #[] #[]
 have hsp:jac Tryz.prog (fun _=>none):=fun _ _ _ h=>by cases h
 refine jbx (N:=22) (n0:=1) (B:=kd fun k=>k<W.heap.size∧k≠Bs) (ρ0:=ρ) (w0:=W) (st:=⟨[(0,.w (.c (.d (.v y)))),(1,.w (.c (.p 0 0 1 0)))],[(0,.box 148 [.d (.i .i64 b0),.d (.i .i64 b1),.d (.i .i64 b2),.d (.i .i64 a0),.d (.i .i64 a1)])],1⟩)
  (k:=fun st=>Le 1 st (stB y b0 b1 b2 a0 a1)) (by kernel_rfl) hsp (ds:=[]) _ _ ρ _ _ _ ?vc ?rel (jae.refl _ _) (Bel.refl _ _) ?next
 case vc =>
  refine Eq.mp (by kernel_rfl:(Ob True∧Ob True∧Ob (0<3∧0<2∧(3+2)*8≤140737488355328∧3+2≤9223372036854775807) ∧
   Le 1 ⟨[(11,vi .i64 0),(10,vi .i64 5),(9,.w (.c (.o 3))),(8,.w (.c (.o 2))),(7,.w (.c (.p 0 0 1 3))),(6,.w (.c (.o 1))),(5,.w (.c (.p 0 0 1 0))),(0,.w (.c (.d (.v y)))),(1,.w (.c (.p 0 0 1 0)))],
    [(3,.row 3 (.ints .i64 [b0,b1,b2,a0,a1])),(2,.view 0 (.ints .i64 [a0,a1]) true),(1,.view 0 (.ints .i64 [b0,b1,b2]) true),(0,.box 148 [.d (.i .i64 b0),.d (.i .i64 b1),.d (.i .i64 b2),.d (.i .i64 a0),.d (.i .i64 a1)])],4⟩ (stB y b0 b1 b2 a0 a1))=_) ?_
  refine⟨⟨trivial⟩,⟨trivial⟩,⟨by decide⟩,?_⟩;refine Eq.mp (by kernel_rfl:((Ob ((0:Int)=0)∧Ob ((5:Int)=5)∧Ob (y=y)∧Ob ([b0,b1,b2,a0,a1]=[b0,b1,b2,a0,a1])∧Ob (b0=b0)∧Ob (b1=b1)∧Ob (b2=b2)∧Ob (a0=a0)∧Ob (a1=a1)∧True))=_) ?_;exact⟨⟨rfl⟩,⟨rfl⟩,⟨rfl⟩,⟨rfl⟩,⟨rfl⟩,⟨rfl⟩,⟨rfl⟩,⟨rfl⟩,⟨rfl⟩,trivial⟩
 case rel =>
  refine jdj (N:=22) (n0:=1) (args:=[.w (.c (.d (.v y))),.w (.c (.p 0 0 1 0))]) (Nat.le_of_ble_eq_true rfl) (fun x hx=>?_) (Nat.le_refl _) ρ W ⟨fun x o hf=>?_,fun x o x' o' b hf hf' hne hb=>?_,glob0⟩ (fun k hk=>(jaW.1 hk).1)
  ·simp only[List.mem_cons,List.not_mem_nil,or_false]at hx;rcases hx with rfl|rfl
   ·trivial
   ·exact Nat.lt_succ_self 0
  ·simp only[find]at hf;split at hf
   ·rename_i e;subst e;cases hf;exact⟨Nat.lt_succ_self 0,(fun c hc=>by simp at hc;rcases hc with rfl|rfl|rfl|rfl|rfl<;>trivial),Bs,rfl,fun h=>(jaW.1 h).2 rfl,hBs⟩
   ·cases hf
  ·simp only[find]at hf hf';split at hf
   ·rename_i e;subst e;rw[if_neg hne]at hf';cases hf'
   ·cases hf
 case next =>
  rintro ρ1 st1 a1' w1 hr1 hag1 hbl1 hle;obtain⟨ρ2,hr2,hag2⟩:=hle.rel hr1;obtain⟨B',g',hh2⟩:=hr2.heap;have hbk:ρ2 0=.pointer (some ⟨Bs,0,none⟩):=(hag2 0 (Nat.lt_succ_self 0)).trans (hag1 0 (Nat.lt_succ_self 0))
  have hgr:W.grownBy w1 none:=by
   refine⟨hbl1.os,hbl1.tape,hbl1.output,hbl1.size,fun k hk _=>?_⟩
   by_cases e:k=Bs
   ·subst e;obtain⟨_,_,g,hg,_,hheap⟩:=hh2.ok 0 _ rfl;rw[hbk]at hg
    have e:g=k:=by
     have:some (⟨k,0,none⟩:Addr)=some ⟨g,0,none⟩:=Value.pointer.inj hg;cases this;rfl
    subst e;rw[hheap,hBs];rfl
   ·exact hbl1.block k ⟨hk,e⟩
  have hJ1:J (prs [b0,b1,b2,a0,a1] 0) w1:=hJ [] W w1 none h0 hgr (fun r e=>by cases e)
  have hge:∀g,(ρ2 1).ownBlock=some g→Far w1 g:=fun g hg=>by
   refine hF0 _ _ hgr ?_ (O.blk_lt (hh2.ok 1 _ rfl).2.2 hg).1;have h3:=(hh2.ok 1 _ rfl).2.2.2 g hg;have hne:g≠Bs:=fun e=>hh2.apart 1 _ 0 _ g rfl rfl (by decide) hg (by rw[hbk,e];rfl);have:¬g<W.heap.size:=fun hl=>h3 (.inl (g'.le.kp g ⟨hl,hne⟩));omega
  have hrow:jaD w1 (ρ2 1) (.ints .i64 [b0,b1,b2,a0,a1]):=jaR (hh2.ok 1 _ rfl).2.2 rfl
  have hbet:Bet Far y [b0,b1,b2,a0,a1] 0 a1' w1:=by
   refine⟨fun _=>ρ2 1,⟨fun t v hv=>?_,hr2.size,hr2.defers,⟨kd fun x=>x<w1.heap.size,Grow.refl _ _ _ _,⟨fun x o hf=>?_,fun x o x' o' b hf hf' hne hb=>?_,glob0⟩⟩,fun k hk=>jaW.1 hk,Nat.le_refl _⟩,fun ad n cap hv=>hge _ (by have hv':ρ2 1=_:=hv;rw[hv'];rfl)⟩
   ·simp only[stL,jav]at hv;split at hv
    ·rename_i e;subst e;cases hv;exact⟨trivial,(hr2.tm 11 _ rfl).2⟩
    ·split at hv
     ·rename_i e;subst e;cases hv;exact⟨trivial,(hr2.tm 10 _ rfl).2⟩
     ·split at hv
      ·rename_i e;subst e;cases hv;exact⟨Nat.lt_succ_self 0,(hr2.tm 9 _ rfl).2⟩
      ·split at hv
       ·rename_i e;subst e;cases hv;exact⟨trivial,(hr2.tm 0 _ rfl).2⟩
       ·cases hv
   ·simp only[stL,find]at hf;split at hf
    ·rename_i e;subst e;cases hf;exact⟨Nat.lt_succ_self 0,trivial,hrow,hrow.lt (Nat.lt_succ_self 0)⟩
    ·cases hf
   ·simp only[stL,find]at hf;split at hf
    ·cases hf;cases hb
    ·cases hf
  clear hr2 hr1 hbk hge hrow;have hge1:1≤1:=Nat.le_refl 1;exact jx5 n l Kp Far hKF hFg [b0,b1,b2,a0,a1] rfl J Jx hY (fun A B pre hj hg=>hJ pre A B none hj hg (fun r e=>by cases e)) a1' w1 hbet hJ1
end Go.Sx09
end

section
namespace Go.Sx09
open Go Go.Proofs Go.RowKit Go.Shelf Go.Sx Go.Sh
open Go.IntKind (wrap)
attribute [local go_sem] Oper.semAt_some
def partB (n:Int):Bool:=decide (-32768≤n)&&decide (n≤32768)
def chkS (b0 b1 b2 a0 a1:Int):Int:=if[b0,b1,b2,a0,a1].all partB=true then 0 else 2
abbrev jdU (b0 b1 b2 a0 a1:Int):Array Value:=#[.int .i64 b0,.int .i64 b1,.int .i64 b2,.int .i64 a0,.int .i64 a1]
set_option maxHeartbeats 2000000 in
theorem jzM (n:Nat) (b0 b1 b2 a0 a1:Int) (w:World) :
  CallsIn Fence.wide n Tryz.prog 182 #[.agg (jdU b0 b1 b2 a0 a1)] w fun e w'=>e=.returned (.func (.func 185) #[] #[.pointer (some ⟨w.heap.size,0,none⟩)])∧w'=w.alloc (.cells (jdU b0 b1 b2 a0 a1) 148):=by
 refine callsIn_of_wp Tryz.func182 rfl trivial ?_ rfl;simp only[Tryz.ntmps182,List.size_toArray,List.length_cons,List.length_nil,Nat.reduceAdd,Nat.reduceSub,Array.replicate_succ,Array.replicate_zero,List.push_toArray,List.append_toArray,List.nil_append,List.cons_append]
 gi_wp2
 go_ret
 exact⟨rfl,rfl⟩
theorem jqB (n:Int):jdS n=some (partB n):=by
 have e:wrap IntKind.i64 ((0:Int)-32768)=-32768:=by decide
 unfold jdS jgy je2 partB;simp only[e]
 by_cases h:-32768≤n
 ·simp[h]
 ·simp[h]
theorem jsT (n:Int) (w:World):Calls Tryz.prog 183 #[.int .i64 n] w fun e w'=>e=.returned (.bool (partB n))∧Below w.heap.size w w':=by
 have h:=(juG.sound Tryz.func183 (rfl:Tryz.f183.body=some (Tryz.f183.body.getD .skip)) (by kernel_rfl)).sound (fun _=>undef) (kd fun k=>k<w.heap.size) w [.w (.c (.d (.i .i64 n)))] [] 0 _ rfl (jgo (jqB n)) (fun x hx=>by
  simp only[List.mem_singleton]at hx;subst hx;trivial) ⟨(fun _ _ h=>by cases h),(fun _ _ _ _ _ h=>by cases h),glob0⟩ (fun _ h=>jaW.1 h)
 refine h.mono ?_;rintro e w' ⟨ρ',rfl,hl⟩;refine⟨?_,hl.mono rfl⟩
 show Ending.returned (.bool (val (jdS n)))=_
 rw[jqB];rfl
theorem jx6 (W:World) (v:Value) (t:TypeId):(W.alloc (.cells #[v] t)).cell? ⟨W.heap.size,0,none⟩=some v∧(W.alloc (.cells #[v] t)).frozen? ⟨W.heap.size,0,none⟩=false:=by
 have h:(W.alloc (.cells #[v] t)).heap[W.heap.size]?=some (.cells #[v] t (0,0)):=World.alloc_heap_new W (.cells #[v] t);constructor
 ·unfold World.cell?;dsimp only;rw[h];rfl
 ·unfold World.frozen?;dsimp only;rw[h];rfl
theorem juH {W:World} {a:Addr} {v:Value} (o:Obj) (h:W.cell? a=some v):(W.alloc o).cell? a=some v:=cell_kept h (World.grownBy_alloc W o none) (fun r e=>by cases e)
theorem jrj {W:World} {a:Addr} {v:Value} (o:Obj) (h:W.cell? a=some v) (hf:W.frozen? a=false):(W.alloc o).frozen? a=false:=(frozen_kept h (World.grownBy_alloc W o none) (fun r e=>by cases e)).trans hf
theorem kpc_t {n1:Nat} {A B C:World} (h:KpC n1 A B) (k:KpC n1 B C):KpC n1 A C:=⟨Nat.le_trans h.size k.size,fun x o hx ho hc=>k.same x o hx (h.same x o hx ho hc) hc⟩
theorem kpc_b {n1:Nat} {w:World} (W:World) (l:Nat) (o o':Obj) (_:w.heap.size≤l) (h:W.heap[l]?=some o) (hc:o.isCells=false) (_:o.isWalk=false):KpC n1 W (W.putObj l o') :=
 ⟨by simp,fun k u _ hk hu=>by
  have hne:l≠k:=fun e=>by subst e;rw[h]at hk;cases hk;rw[hc]at hu;cases hu
  exact(World.putObj_heap_other (fun e=>hne e.symm)).trans hk⟩
theorem jx7 {n1:Nat} {A B:World} (h:Below A.heap.size A B):KpC n1 A B:=⟨h.size,fun k o _ hk _=>(h.block k (Array.getElem?_eq_some_iff.1 hk).1).trans hk⟩
theorem jmO {A B:World} (h:Below A.heap.size A B):KeepsOthers A B:=⟨h.size,fun k o hk _=>(h.block k (Array.getElem?_eq_some_iff.1 hk).1).trans hk⟩
theorem jvn {b0 b1 b2 a0 a1:Int}:(prs [b0,b1,b2,a0,a1] 5).map (·.2)=[b0,b1,b2,a0,a1]:=rfl
theorem jBh {b0 b1 b2 a0 a1:Int} {k:Nat} (hk:k≤5) {x:Nat × Int} (hx:x∈prs [b0,b1,b2,a0,a1] k):x.2∈[b0,b1,b2,a0,a1]:=by
 have h1:x∈prs [b0,b1,b2,a0,a1] 5:=by
  simp only[prs,List.mem_map,List.mem_range]at hx ⊢;obtain⟨j,hj,e⟩:=hx;exact⟨j,by omega,e⟩
 rw[←jvn];exact List.mem_map_of_mem h1
set_option maxHeartbeats 4000000 in
theorem jB0 (b0 b1 b2 a0 a1:Int) (w:World) :
  CallsIn Fence.wide 9 Tryz.prog 179 #[.agg (jdU b0 b1 b2 a0 a1)] w fun e w'=>e=.returned (.int .i64 (chkS b0 b1 b2 a0 a1))∧Below w.heap.size w w':=by
 have h1:1≤9:=by omega
 have hro:Fence.wide.round=none:=rfl;refine callsIn_of_wp_marks Tryz.func179 rfl trivial ?_ hro;simp only[Tryz.ntmps179,List.size_toArray,List.length_cons,List.length_nil,Nat.reduceAdd,Nat.reduceSub,Array.replicate_succ,Array.replicate_zero,List.push_toArray,List.append_toArray,List.nil_append,List.cons_append]
 gi_wp2_with (refine⟨trivial,?_⟩;gi_at_call 182;refine(jzM _ b0 b1 b2 a0 a1 _).mono ?_;rintro e w' ⟨rfl,rfl⟩)
 have c0:(w.alloc (.cells (jdU b0 b1 b2 a0 a1) 148)).heap.size=w.heap.size+1:=World.size_alloc _ _;have c1:=jx6 (w.alloc (.cells (jdU b0 b1 b2 a0 a1) 148)) (.int .i64 0) 27;rw[c0]at c1;have hB0:Below w.heap.size w (((w.alloc (.cells (jdU b0 b1 b2 a0 a1) 148)).alloc (.cells #[.int .i64 0] 27)).alloc (.cells (jdU b0 b1 b2 a0 a1) 148)):=(((Below.refl _ w).alloc (Nat.le_refl _) _).alloc (by simp) _).alloc (by simp;omega) _;obtain⟨w2,hw2⟩:∃w2,((w.alloc (.cells (jdU b0 b1 b2 a0 a1) 148)).alloc (.cells #[.int .i64 0] 27)).alloc (.cells (jdU b0 b1 b2 a0 a1) 148)=w2:=⟨_,rfl⟩
 have hs2:w2.heap.size=w.heap.size+3:=by rw[←hw2];simp
 have hc2:w2.cell? ⟨w.heap.size+1,0,none⟩=some (.int .i64 0):=by rw[←hw2];exact juH _ c1.1
 have hf2:w2.frozen? ⟨w.heap.size+1,0,none⟩=false:=by rw[←hw2];exact jrj _ c1.1 c1.2
 have hh2:w2.heap[w.heap.size+1+1]?=some (.cells (jdU b0 b1 b2 a0 a1) 148 (0,0)):=by
  rw[←hw2];have:=World.alloc_heap_new ((w.alloc (.cells (jdU b0 b1 b2 a0 a1) 148)).alloc (.cells #[.int .i64 0] 27)) (.cells (jdU b0 b1 b2 a0 a1) 148);rw[World.size_alloc,c0]at this;exact this
 rw[hw2]at hB0 ⊢
 refine wpIn_rangeFunc_ownF hro h1 (gf:=185) (lb:=#[.pointer (some ⟨w.heap.size+1+1,0,none⟩)]) rfl trivial (enters_of Tryz.func185 (by kernel_rfl) rfl)
  (α:=Nat × Int) (encs:=fun x=>#[.int .i64 (x.1:Int),.int .i64 x.2]) (Kp:=KpC w2.heap.size) (S:=fun ys=>ys=prs [b0,b1,b2,a0,a1] 5) (Sp:=fun pre=>∃k,k≤5∧pre=prs [b0,b1,b2,a0,a1] k) (N:=5) (w0:=w2)
  (fun l J Jx W hW hJ hJx hY h0=>jzL _ l (w.heap.size+1+1) (KpC w2.heap.size) (fun _ k=>w2.heap.size≤k) (fun h hk=>⟨hk,fun o ho hc=>h.same _ o hk ho hc⟩) (fun _ h=>h) b0 b1 b2 a0 a1 J Jx (fun pre x W hp hl _=>hY pre x W hp hl) W (fun _ g _ hg _=>Nat.le_trans hW.size hg) hJ ((hW.block _ (by omega)).trans hh2) h0) kpc_t kpc_b (Below.refl _ _) (fun _=>rfl)
  (fun pre W=>((∀y∈pre,partB y.2=true)∧W.cell? ⟨w.heap.size+1,0,none⟩=some (.int .i64 0)∧W.frozen? ⟨w.heap.size+1,0,none⟩=false)∧Below w.heap.size w W)
  (fun c pre W=>(c=.ret∧(∃y∈pre,partB y.2=false)∧W.cell? ⟨w.heap.size+1,0,none⟩=some (.int .i64 2))∧Below w.heap.size w W)
  (OwnFrom.and (Own.from (fun s A B row hs hg hr=>⟨hs.1,cell_kept hs.2.1 hg hr,(frozen_kept hs.2.1 hg hr).trans hs.2.2⟩) _) (ownFrom_below (Nat.le_refl _) (by omega)))
  (fun c=>OwnFrom.and (Own.from (fun s A B row hs hg hr=>⟨hs.1,hs.2.1,cell_kept hs.2.2 hg hr⟩) _) (ownFrom_below (Nat.le_refl _) (by omega)))
  ⟨⟨by simp,hc2,hf2⟩,hB0⟩
  (fun x=>{ tmps:=#[Value.agg (jdU b0 b1 b2 a0 a1),Value.pointer (some { block:=w.heap.size,off:=0 }),Value.pointer (some { block:=w.heap.size+1,off:=0 }),undef,.int .i64 x.2,Value.agg (jdU b0 b1 b2 a0 a1),.func (.func 185) #[] #[.pointer (some ⟨w.heap.size+1+1,0,none⟩)],.int .i64 (x.1:Int),.int .i64 x.2,undef,undef,undef],defers:=[] }) ?assign ?body ?done ?stop
 case assign =>
  intro l x W K hK
  gi_wp2
  exact hK
 case body =>
  rintro l pre x W ⟨⟨hp,hcr,hfr⟩,hB⟩ _;have hlt:w.heap.size+1<W.heap.size:=World.block_lt_of_cell? W ⟨w.heap.size+1,0,none⟩ hcr
  gi_wp2_with (refine⟨trivial,?_⟩;gi_at_call 183;refine(CallsIn.inRound l (callsIn_wide.2 (jsT x.2 W))).mono ?_;rintro e w' ⟨rfl,hBw⟩;have hcw:=(hBw.cell (p:=⟨w.heap.size+1,0,none⟩) hlt).trans hcr;have hfw:=(hBw.frozen (p:=⟨w.heap.size+1,0,none⟩) hlt).trans hfr)
  ·rename_i hx;have hB':Below w.heap.size w w':=hB.trans (hBw.mono (by omega));exact⟨(jmO hBw).trans (KeepsOthers.setCell _ _ _),⟨rfl,⟨x,List.mem_append.2 (.inr (by simp)),by simpa using hx⟩,World.cell?_setCell_same' _ _ _ (by rw[hcw];rfl)⟩,hB'.setCell (p:=⟨w.heap.size+1,0,none⟩) (by simp) _⟩
  ·rename_i hx;have hB':Below w.heap.size w w':=hB.trans (hBw.mono (by omega));exact⟨jmO hBw,jx7 hBw,⟨fun y hy=>(List.mem_append.1 hy).elim (hp y) (fun e=>by simp at e;subst e;simpa using hx),hcw,hfw⟩,hB'⟩
 case done =>
  rintro D ys W hD rfl ⟨⟨hne,hcr,hfr⟩,hB⟩ hK
  gi_wp2
  have hK':=(KeepsOthers.setCell W ⟨w.heap.size+1,0,none⟩ (.int .i64 0)).same D _ hK rfl;refine⟨by simp,.inl ⟨_,_,rfl,run_takeDeferred hK',?_⟩⟩;have hc5:=cell_kept (World.cell?_setCell_same' W ⟨w.heap.size+1,0,none⟩ (.int .i64 0) (by rw[hcr];rfl)) (grownBy_putObj' _ D (.deferred none)) (fun r e=>by cases e;exact⟨_,hK',rfl⟩)
  have hall:chkS b0 b1 b2 a0 a1=0:=by
   unfold chkS;rw[if_pos];rw[←jvn,List.all_map];exact List.all_eq_true.2 fun y hy=>hne y hy
  refine⟨.int .i64 0,?_,by rw[hall],(hB.setCell (p:=⟨w.heap.size+1,0,none⟩) (by simp) _).trans (belowK_b (w:=w) (Nat.le_refl _) _ D _ _ (by omega) hK' rfl rfl)⟩;simp[results,Tryz.f179,go_sem,hc5]
 case stop =>
  rintro D c pre W hD ⟨k,hk,rfl⟩ ⟨⟨rfl,⟨y,hy,hpy⟩,hcr⟩,hB⟩ hK
  gi_wp2
  refine⟨by simp,.inl ⟨_,_,rfl,run_takeDeferred hK,?_⟩⟩;have hc5:=cell_kept hcr (grownBy_putObj' _ D (.deferred none)) (fun r e=>by cases e;exact⟨_,hK,rfl⟩)
  have hall:chkS b0 b1 b2 a0 a1=2:=by
   unfold chkS;rw[if_neg];intro h;have:=List.all_eq_true.1 h y.2 (jBh hk hy);rw[hpy]at this;cases this
  refine⟨.int .i64 2,?_,by rw[hall],hB.trans (belowK_b (w:=w) (Nat.le_refl _) W D _ _ (by omega) hK rfl rfl)⟩;simp[results,Tryz.f179,go_sem,hc5]
theorem toAs0 {ρ:Env} (w:World) {args:List V} {as_:List A} (has:jhP [] args=some as_):(jdt 0 as_).map (V.val fun i=>(args[i]?.map (V.val ρ)).getD undef)=args.map (V.val ρ) :=
 (jqt (ρ:=ρ) (B:=kd fun _=>False) (nx:=0) (hp:=[]) (w:=w) ⟨(fun _ _ h=>by cases h),(fun _ _ _ _ _ h=>by cases h),glob0⟩ args _ 0 (fun i=>(args[i]?.map (V.val ρ)).getD undef) has (fun i v hv=>by simp[hv])).1
def gCheckSection:List A→Option (Prop × List RV)
 |[.s [.i .i64 b0,.i .i64 b1,.i .i64 b2,.i .i64 a0,.i .i64 a1]]=>some (True,[.d (.i .i64 (chkS b0 b1 b2 a0 a1))])
 |_=>none
theorem jrk {f:Nat} {fn:Func} {body:Code} {g:List A→Option (Prop × List RV)} (hf:Tryz.prog.funcs[f]?=some fn) (hb:fn.body=some body) (hn:(fn.name == "runtime.NumGoroutine")=false)
  (h:∀(args:List V) (as_:List A) ob rs (ρ:Env) (w:World),jhP [] args=some as_→g as_=some (ob,rs)→ob→Calls Tryz.prog f (args.map (V.val ρ)).toArray w fun e w'=>e=.returned ((jaU (rvW 0 rs)).val ρ)∧Below w.heap.size w w')
  (hd:∀as_ ob rs,g as_=some (ob,rs)→(∀a∈as_,∀c,a≠.r c)∧∀r∈rs,∀t c,r≠.row t c):jaf Tryz.prog f true (jrE g):=by
 refine .inl ⟨jcu hf hb hn,fun ρ B w args hp nx r hS hob hlt hh hB=>?_⟩;unfold jrE at hS;split at hS
 ·rename_i as_ has;split at hS
  ·rename_i ob rs hg;cases hS;obtain⟨h1,h2⟩:=hd as_ ob rs hg
   have has':∀(args:List V) (as_:List A),jhP hp args=some as_→(∀a∈as_,∀c,a≠.r c)→jhP [] args=some as_:=by
    intro args
    induction args with
    |nil=>intro as_ h _;exact h
    |cons v vs ih =>
     intro as_ h hno;simp only[jhP]at h ⊢;split at h
     ·rename_i a r ha hr;cases h
      have e1:toA [] v=some a:=by
       unfold toA at ha ⊢;split at ha
       ·exact ha
       ·exact ha
       ·exact ha
       ·split at ha
        ·split at ha
         ·cases ha
         ·cases ha;exact absurd rfl (hno _ List.mem_cons_self _)
        ·cases ha
       ·cases ha
      rw[e1,ih r hr (fun a ha=>hno a (List.mem_cons_of_mem _ ha))]
     ·cases h
   have hrv:∀(rs:List RV) (n m:Nat) (hp:Hp),(∀r∈rs,∀t c,r≠.row t c)→rvW n rs=rvW m rs∧jhQ n rs hp=hp∧jep n rs=n∧∀x∈rvW n rs,W.lt n x:=by
    intro rs
    induction rs with
    |nil=>exact fun n m hp _=>⟨rfl,rfl,rfl,fun _ h=>by cases h⟩
    |cons r rs ih =>
     intro n m hp hno;have ih:=ih n m hp (fun r hr=>hno r (List.mem_cons_of_mem _ hr));cases r with
     |d x=>exact⟨by simp only[rvW,ih.1],ih.2.1,ih.2.2.1,fun u hu=>by
       rcases List.mem_cons.1 hu with rfl|hu
       ·trivial
       ·exact ih.2.2.2 u hu⟩
     |s l=>exact⟨by simp only[rvW,ih.1],ih.2.1,ih.2.2.1,fun u hu=>by
       rcases List.mem_cons.1 hu with rfl|hu
       ·intro y hy;obtain⟨z,_,rfl⟩:=List.mem_map.1 hy;trivial
       ·exact ih.2.2.2 u hu⟩
     |row t c=>exact absurd rfl (hno _ List.mem_cons_self t c)
   refine(h args as_ ob rs ρ w (has' args as_ has h1) hg hob).mono ?_;rintro e w' ⟨rfl,hbl⟩;obtain⟨e1,e2,e3,e4⟩:=hrv rs nx 0 hp h2;refine⟨ρ,by rw[←e1];rfl,jae.refl _ _,(?_:V.lt (jep nx rs) (jaU (rvW nx rs))),(?_:nx≤jep nx rs),⟨B,Grow.refl _ _ _ _,(?_:HRel ρ B (jhQ nx rs hp) (jep nx rs) w')⟩,jb9 hbl hB,fun _=>hbl,fun _ h o k hle hf _=>?_⟩
   ·rw[e3];exact jeR e4
   ·rw[e3];exact Nat.le_refl _
   ·rw[e2,e3];exact hh.below hbl hB
   ·have hf:find (jhQ nx rs hp) h=some o:=hf;rw[e2]at hf;have:=(hh.ok h o hf).1;omega
  ·cases hS
 ·cases hS
theorem checkSection_ok:jaf Tryz.prog 179 true (jrE gCheckSection):=by
 refine jrk (fn:=Tryz.f179) (body:=bodyOf Tryz.f179) Tryz.func179 (by kernel_rfl) (by kernel_rfl) ?_ ?_
 ·intro args as_ ob rs ρ w has hg ho;unfold gCheckSection at hg;split at hg
  ·rename_i b0 b1 b2 a0 a1;cases hg
   have e:(args.map (V.val ρ)).toArray=#[.agg (jdU b0 b1 b2 a0 a1)]:=by
    have hto:=toAs0 (ρ:=ρ) w has;rw[←hto];rfl
   rw[e];refine(callsIn_wide.1 (jB0 b0 b1 b2 a0 a1 w)).mono ?_;rintro e w' ⟨rfl,h⟩;exact⟨rfl,h⟩
  ·cases hg
 ·intro as_ ob rs hg;unfold gCheckSection at hg;split at hg
  ·cases hg;refine⟨fun a ha c=>?_,fun r hr t c=>?_⟩
   ·simp only[List.mem_singleton]at ha;subst ha;exact fun h=>by cases h
   ·simp only[List.mem_singleton]at hr;subst hr;exact fun h=>by cases h
  ·cases hg
end Go.Sx09
namespace Go.Sh
open Go Go.Proofs Go.RowKit Go.Sx
abbrev sp_179:jaa→jaa:=jaH 179 true (jrE Sx09.gCheckSection)
theorem sp_179_ok {sp:jaa} (h:jac Tryz.prog sp):jac Tryz.prog (sp_179 sp):=jas Sx09.checkSection_ok h
end Go.Sh
end

section
namespace Go.Sh
open Go Go.Proofs Go.RowKit Go.Sx
abbrev sp_123:jaa→jaa:=sp_123_124
theorem sp_123_ok {sp:jaa} (h:jac Tryz.prog sp):jac Tryz.prog (sp_123 sp):=sp_123_124_ok h
abbrev sp_125:jaa→jaa:=sp_125_126
theorem sp_125_ok {sp:jaa} (h:jac Tryz.prog sp):jac Tryz.prog (sp_125 sp):=sp_125_126_ok h
open Go.IntKind (wrap)
def jgZ:List (Option Cont):=[some (.recs 5 [])]
def y31 (c:List (List Int)) (x0:Int):Option (Int ⊕ ((Int × Int) ⊕ Unit)) :=
 if x0<(↑c.length:Int)then
  if 0≤x0∧x0<(↑c.length:Int)then
  if Int.toNat x0<List.length c then
   if(Sx09.chkS (List.getD (List.getD c x0.toNat []) 0 (0:Int)) (List.getD (List.getD c x0.toNat []) 1 (0:Int)) (List.getD (List.getD c x0.toNat []) 2 (0:Int)) (List.getD (List.getD c x0.toNat []) 3 (0:Int)) (List.getD (List.getD c x0.toNat []) 4 (0:Int))!=0)=true then
   some (.inr ((.inl ((x0,Sx09.chkS (List.getD (List.getD c x0.toNat []) 0 (0:Int)) (List.getD (List.getD c x0.toNat []) 1 (0:Int)) (List.getD (List.getD c x0.toNat []) 2 (0:Int)) (List.getD (List.getD c x0.toNat []) 3 (0:Int)) (List.getD (List.getD c x0.toNat []) 4 (0:Int)))))))
   else
   some (.inl (wrap .i64 (x0+1)))
  else none
  else none
 else
  some (.inr ((.inr ())))
def jkb (u5:Int × Int):Option (Int × Int) :=
 some (u5.1,u5.2)
def jkc (u6:Unit):Option (Int × Int) :=
 some (((0:Int),0))
def jgc:((Int × Int) ⊕ Unit)→Option (Int × Int) :=
 (Sum.elim (jkb) (jkc))
def y40 (c:List (List Int)):Option (Int × Int) :=
 if(↑c.length:Int)>6 then
  some (((0:Int),8))
 else
  Option.bind (jak (y31 c) big (0:Int)) (jgc)
def y114:List A→Option (Prop × List RV)
 |[.r (.recs 5 c)]=>some (ok (y40 c),[.d (.i .i64 ((val (y40 c)).1)),.d (.i .i64 ((val (y40 c)).2))])
 |_=>none
abbrev sp_174:jaa→jaa:=jaH 174 true (jaF jgZ y114)
abbrev jgd (c:List (List Int)) (r:Int × Int):Lp (Int × Nat) Int (((Int × Int) ⊕ Unit)) (Int × Int) (Int × Int) :=
 ⟨fun z=>z.1,fun z=>z.2,fun z x n=>(x,n),fun z=>y31 c,fun z=>jgc,fun z=>top r,fun z=>0,[.c fun _=>(↑c.length:Int),.c fun vv=>vv.1,.c fun _=>c]⟩
def jnr (c:List (List Int)) (r:Int × Int):Sk (top r) (y40 c) :=
 .br
 (.obT (.obT (.rc)))
 (.loop (jgd c r) (fun kk=>((0:Int),big)) fun z0 =>
 .br
 (.ob (.ob (.obT (.brB
 (.exit (.obT (.obT (.rc))))
 (.next)))))
 (.exit (.obT (.obT (.rc)))))
theorem jme (c:List (List Int)) (r:Int × Int) (h:Option.bind (y40 c) some=some r):jcg Tryz.f174 ((sp_179 sp0)) (fun gs id _=>match id with
 |0=>some ⟨Int × Nat,fun z=>⟨[(10,.w (.c (.o 0))),(11,.w (.c (.d (.i .i64 ((↑c.length:Int)))))),(12,.w (.c (.d (.i .i64 z.1))))],[(0,.ext (.recs 5 c))],1⟩,fun z=>(jgd c r).inv z,fun z=>z.2⟩
 |_=>none) [.r (.recs 5 c)] [.d (.i .i64 r.1),.d (.i .i64 r.2)] :=
 Sk.vc (jnr c r) (by kernel_rfl) h
theorem jmf:jaf Tryz.prog 174 true (jaF jgZ y114):=by
 refine jaQ (sp:=(sp_179 sp0)) (fn:=Tryz.f174) (body:=bodyOf Tryz.f174) mixed (sp_179_ok jau) Tryz.func174 (by kernel_rfl) (by kernel_rfl) fun as_ ob rs h ho=>?_;unfold y114 at h;split at h
 ·rename_i c;cases h;exact⟨Nat.le_of_ble_eq_true rfl,_,_,jme c _ (jaq ho)⟩
 ·cases h
theorem sp_174_ok {sp:jaa} (h:jac Tryz.prog sp):jac Tryz.prog (sp_174 sp):=jas jmf h
def jiJ:List (Option Cont):=[some (.recs 5 [])]
def y44 (c:List (List Int)):Option Int :=
 Option.bind (y40 c) fun r0 =>
 some r0.2
def je3:List A→Option (Prop × List RV)
 |[.r (.recs 5 c)]=>some (ok (y44 c),[.d (.i .i64 ((val (y44 c))))])
 |_=>none
abbrev sp_161:jaa→jaa:=jaH 161 true (jaF jiJ je3)
def jp4 (c:List (List Int)) (r:Int):Sk (top r) (y44 c) :=
 .call (.obT (.rc))
theorem joL (c:List (List Int)) (r:Int) (h:Option.bind (y44 c) some=some r):jcg Tryz.f161 ((sp_174 sp0)) (fun _ _ _=>none) [.r (.recs 5 c)] [.d (.i .i64 r)] :=
 Sk.vc (jp4 c r) (by kernel_rfl) h
theorem joM:jaf Tryz.prog 161 true (jaF jiJ je3):=by
 refine jaQ (sp:=(sp_174 sp0)) (fn:=Tryz.f161) (body:=bodyOf Tryz.f161) mixed (sp_174_ok jau) Tryz.func161 (by kernel_rfl) (by kernel_rfl) fun as_ ob rs h ho=>?_;unfold je3 at h;split at h
 ·rename_i c;cases h;exact⟨Nat.le_of_ble_eq_true rfl,_,_,joL c _ (jaq ho)⟩
 ·cases h
theorem sp_161_ok {sp:jaa} (h:jac Tryz.prog sp):jac Tryz.prog (sp_161 sp):=jas joM h
def jlf:List (Option Cont):=[some (.recs 5 [])]
def y53 (c:List (List Int)):Option (List (List Int) × Int) :=
 Option.bind (y44 c) fun r0 =>
 if(r0 != 0)=true then
  some ([],r0)
 else
  if 0≤(↑c.length:Int)∧(↑c.length:Int)=(↑c.length:Int)∧(↑(32:Nat):Int)*(↑c.length:Int)≤281474976710656∧(↑c.length:Int)≤9223372036854775807 then
  some ((List.replicate (Int.toNat (↑c.length:Int)) [(0:Int),0,0,0],0))
  else none
def jg0:List A→Option (Prop × List RV)
 |[.r (.recs 5 c)]=>some (ok (y53 c),[.row 174 (.recs 4 ((val (y53 c)).1)),.d (.i .i64 ((val (y53 c)).2))])
 |_=>none
abbrev sp_130:jaa→jaa:=jaH 130 true (jaF jlf jg0)
def jsU (c:List (List Int)) (r:List (List Int) × Int):Sk (top r) (y53 c) :=
 .call (.brB
 (.obT (.obT (.ret (fun r=>(Ob (List.length r.1=(0:Nat)) ∧
 (Ob (val (y44 c)=r.2) ∧
 True))) ⟨⟨rfl⟩,⟨⟨rfl⟩,trivial⟩⟩)))
 (.ob (.obT (.obT (.rc)))))
theorem jrl (c:List (List Int)) (r:List (List Int) × Int) (h:Option.bind (y53 c) some=some r):jcg Tryz.f130 ((sp_161 sp0)) (fun _ _ _=>none) [.r (.recs 5 c)] [.row 174 (.recs 4 r.1),.d (.i .i64 r.2)] :=
 Sk.vc (jsU c r) (by kernel_rfl) h
theorem jrm:jaf Tryz.prog 130 true (jaF jlf jg0):=by
 refine jaQ (sp:=(sp_161 sp0)) (fn:=Tryz.f130) (body:=bodyOf Tryz.f130) mixed (sp_161_ok jau) Tryz.func130 (by kernel_rfl) (by kernel_rfl) fun as_ ob rs h ho=>?_;unfold jg0 at h;split at h
 ·rename_i c;cases h;exact⟨Nat.le_of_ble_eq_true rfl,_,_,jrl c _ (jaq ho)⟩
 ·cases h
theorem sp_130_ok {sp:jaa} (h:jac Tryz.prog sp):jac Tryz.prog (sp_130 sp):=jas jrm h
def jh5:List SV:=[.a [.d,.x (.st [.s,.i .i64,.ints .i64,.ints .i64,.ints .i64,.i .i64,.recs 5,.i .i64] [])],.c (.d)]
def y99 (u4:ByteArray) (u1:List (List NC)) (i:Int):Option Int :=
 if 0≤i∧i<(↑u1.length:Int)then
  if Int.toNat i<List.length u1 then
  Option.bind (y43 (nI u1 i.toNat (7:Nat)) u4 u1) fun r0 =>
  if(!r0)=true then
   if(nI u1 i.toNat (7:Nat)!=(-1:Int))=true then
   Option.bind (y59 (nS u1 i.toNat (0:Nat))) fun r1 =>
   if(!r1)=true then
    some (4:Int)
   else
    if(nS u1 i.toNat (0:Nat)==ByteArray.mk #[(115:UInt8),(116:UInt8),(97:UInt8),(110:UInt8),(100:UInt8)])=true then
    some (4:Int)
    else
    if 0≤Option.getD none (0:Int)∧Option.getD none 0≤Option.getD (some i) (↑u1.length:Int)∧Option.getD (some i) (↑u1.length:Int)≤(↑u1.length:Int)then
     Option.bind (y0 (List.take (Int.toNat (Option.getD (some i) (↑u1.length:Int))-0) (List.drop (0:Nat) u1)) (nS u1 i.toNat (0:Nat)) (nI u1 i.toNat (1:Nat)) (nL u1 i.toNat (2:Nat)) (nL u1 i.toNat (3:Nat)) (nL u1 i.toNat (4:Nat)) (nI u1 i.toNat (5:Nat)) (nR u1 i.toNat (6:Nat)) (nI u1 i.toNat (7:Nat))) fun r2 =>
     if(r2)=true then
     some (5:Int)
     else
     Option.bind (y16 (nI u1 i.toNat (1:Nat)) (0:Int) (4:Int)) fun r3 =>
     if(!r3)=true then
      some (15:Int)
     else
      Option.bind (y82 (nS u1 i.toNat (0:Nat)) (nI u1 i.toNat (1:Nat)) (nL u1 i.toNat (2:Nat)) (nL u1 i.toNat (3:Nat)) (nL u1 i.toNat (4:Nat)) (nI u1 i.toNat (5:Nat)) (nR u1 i.toNat (6:Nat)) (nI u1 i.toNat (7:Nat))) fun r4 =>
      if(!r4)=true then
      some (10:Int)
      else
      some (6:Int)
    else none
   else
   Option.bind (y2 (nL u1 i.toNat (2:Nat)) u4 u1) fun r5 =>
   Option.bind (y59 (nS u1 i.toNat (0:Nat))) fun r1 =>
   if(!r1)=true then
    some (4:Int)
   else
    if(nS u1 i.toNat (0:Nat)==ByteArray.mk #[(115:UInt8),(116:UInt8),(97:UInt8),(110:UInt8),(100:UInt8)])=true then
    some (4:Int)
    else
    if 0≤Option.getD none (0:Int)∧Option.getD none 0≤Option.getD (some i) (↑u1.length:Int)∧Option.getD (some i) (↑u1.length:Int)≤(↑u1.length:Int)then
     Option.bind (y0 (List.take (Int.toNat (Option.getD (some i) (↑u1.length:Int))-0) (List.drop (0:Nat) u1)) (nS u1 i.toNat (0:Nat)) (nI u1 i.toNat (1:Nat)) (nL u1 i.toNat (2:Nat)) (nL u1 i.toNat (3:Nat)) (nL u1 i.toNat (4:Nat)) (nI u1 i.toNat (5:Nat)) (nR u1 i.toNat (6:Nat)) (nI u1 i.toNat (7:Nat))) fun r2 =>
     if(r2)=true then
     some (5:Int)
     else
     Option.bind (y16 (nI u1 i.toNat (1:Nat)) (0:Int) (4:Int)) fun r3 =>
     if(!r3)=true then
      some (15:Int)
     else
      Option.bind (y82 (nS u1 i.toNat (0:Nat)) (nI u1 i.toNat (1:Nat)) (nL u1 i.toNat (2:Nat)) (nL u1 i.toNat (3:Nat)) (nL u1 i.toNat (4:Nat)) (nI u1 i.toNat (5:Nat)) (nR u1 i.toNat (6:Nat)) (nI u1 i.toNat (7:Nat))) fun r4 =>
      if(!r4)=true then
      some (10:Int)
      else
      if(r5)=true then
       some (6:Int)
      else
       Option.bind (y76 (nL u1 i.toNat (2:Nat))) fun r6 =>
       if(r6)=true then
       some (26:Int)
       else
       Option.bind (y98 (nS u1 i.toNat (0:Nat)) (nI u1 i.toNat (1:Nat)) (nL u1 i.toNat (2:Nat)) (nL u1 i.toNat (3:Nat)) (nL u1 i.toNat (4:Nat)) (nI u1 i.toNat (5:Nat)) (nR u1 i.toNat (6:Nat)) (nI u1 i.toNat (7:Nat))) fun r7 =>
       if(!r7)=true then
        some (2:Int)
       else
        if(nI u1 i.toNat (1:Nat)!=3)=true then
        Option.bind (y60 ((↑(List.length (nR u1 i.toNat (6:Nat))):Int)==0) (10:Int)) fun r8 =>
        some r8
        else
        Option.bind (y53 (nR u1 i.toNat (6:Nat))) fun r9 =>
        some r9.2
    else none
  else
   Option.bind (y2 (nL u1 i.toNat (2:Nat)) u4 u1) fun r5 =>
   Option.bind (y59 (nS u1 i.toNat (0:Nat))) fun r1 =>
   if(!r1)=true then
   some (4:Int)
   else
   if(nS u1 i.toNat (0:Nat)==ByteArray.mk #[(115:UInt8),(116:UInt8),(97:UInt8),(110:UInt8),(100:UInt8)])=true then
    some (4:Int)
   else
    if 0≤Option.getD none (0:Int)∧Option.getD none 0≤Option.getD (some i) (↑u1.length:Int)∧Option.getD (some i) (↑u1.length:Int)≤(↑u1.length:Int)then
    Option.bind (y0 (List.take (Int.toNat (Option.getD (some i) (↑u1.length:Int))-0) (List.drop (0:Nat) u1)) (nS u1 i.toNat (0:Nat)) (nI u1 i.toNat (1:Nat)) (nL u1 i.toNat (2:Nat)) (nL u1 i.toNat (3:Nat)) (nL u1 i.toNat (4:Nat)) (nI u1 i.toNat (5:Nat)) (nR u1 i.toNat (6:Nat)) (nI u1 i.toNat (7:Nat))) fun r2 =>
    if(r2)=true then
     some (5:Int)
    else
     Option.bind (y16 (nI u1 i.toNat (1:Nat)) (0:Int) (4:Int)) fun r3 =>
     if(!r3)=true then
     some (15:Int)
     else
     Option.bind (y82 (nS u1 i.toNat (0:Nat)) (nI u1 i.toNat (1:Nat)) (nL u1 i.toNat (2:Nat)) (nL u1 i.toNat (3:Nat)) (nL u1 i.toNat (4:Nat)) (nI u1 i.toNat (5:Nat)) (nR u1 i.toNat (6:Nat)) (nI u1 i.toNat (7:Nat))) fun r4 =>
     if(!r4)=true then
      some (10:Int)
     else
      if(r5)=true then
      some (6:Int)
      else
      Option.bind (y76 (nL u1 i.toNat (2:Nat))) fun r6 =>
      if(r6)=true then
       some (26:Int)
      else
       Option.bind (y98 (nS u1 i.toNat (0:Nat)) (nI u1 i.toNat (1:Nat)) (nL u1 i.toNat (2:Nat)) (nL u1 i.toNat (3:Nat)) (nL u1 i.toNat (4:Nat)) (nI u1 i.toNat (5:Nat)) (nR u1 i.toNat (6:Nat)) (nI u1 i.toNat (7:Nat))) fun r7 =>
       if(!r7)=true then
       some (2:Int)
       else
       if(nI u1 i.toNat (1:Nat)!=3)=true then
        Option.bind (y60 ((↑(List.length (nR u1 i.toNat (6:Nat))):Int)==0) (10:Int)) fun r8 =>
        some r8
       else
        Option.bind (y53 (nR u1 i.toNat (6:Nat))) fun r9 =>
        some r9.2
    else none
  else none
 else none
def jh6:List Lf→Option GT
 |[.d (.s u4),.x (.st [.s,.i .i64,.ints .i64,.ints .i64,.ints .i64,.i .i64,.recs 5,.i .i64] u1),.d (.i .i64 i)]=>some (.leaf (ok (y99 u4 u1 i)) [.c (.d (.i .i64 ((val (y99 u4 u1 i)))))])
 |_=>none
abbrev sp_79:jaa→jaa:=jaH 79 true (jal jh5 jh6)
def juI (u4:ByteArray) (u1:List (List NC)) (i r:Int):Sk (top r) (y99 u4 u1 i) :=
 .ob (.ob (.call (.brB
 (.brB
 (.call (.brB
 (.obT (.rc))
 (.brB
 (.obT (.rc))
 (.ob (.call (.brB
 (.obT (.rc))
 (.call (.brB
 (.obT (.rc))
 (.call (.brB
 (.obT (.rc))
 (.obT (.rc))))))))))))
 (.call (.call (.brB
 (.obT (.rc))
 (.brB
 (.obT (.rc))
 (.ob (.call (.brB
 (.obT (.rc))
 (.call (.brB
 (.obT (.rc))
 (.call (.brB
 (.obT (.rc))
 (.brB
 (.obT (.rc))
 (.call (.brB
 (.obT (.rc))
 (.call (.brB
 (.obT (.rc))
 (.brB
 (.call (.obT (.rc)))
 (.call (.obT (.rc)))))))))))))))))))))
 (.call (.call (.brB
 (.obT (.rc))
 (.brB
 (.obT (.rc))
 (.ob (.call (.brB
 (.obT (.rc))
 (.call (.brB
 (.obT (.rc))
 (.call (.brB
 (.obT (.rc))
 (.brB
 (.obT (.rc))
 (.call (.brB
 (.obT (.rc))
 (.call (.brB
 (.obT (.rc))
 (.brB
 (.call (.obT (.rc)))
 (.call (.obT (.rc)))))))))))))))))))))))
theorem jsV (u4:ByteArray) (u1:List (List NC)) (i r:Int) (h:Option.bind (y99 u4 u1 i) some=some r):jbg Tryz.f79 ((sp_122 (sp_124 (sp_123 (sp_78 (sp_126 (sp_125 (sp_84 (sp_127 (sp_128 (sp_129 (sp_77 (sp_130 sp0))))))))))))) (fun _ _ _=>none) (ja8 jh5 [.d (.s u4),.x (.st [.s,.i .i64,.ints .i64,.ints .i64,.ints .i64,.i .i64,.recs 5,.i .i64] u1),.d (.i .i64 i)]) [.c (.d (.i .i64 r))] :=
 Sk.vc (juI u4 u1 i r) (by kernel_rfl) h
theorem jsW:jaf Tryz.prog 79 true (jal jh5 jh6):=by
 refine jaA (sp:=(sp_122 (sp_124 (sp_123 (sp_78 (sp_126 (sp_125 (sp_84 (sp_127 (sp_128 (sp_129 (sp_77 (sp_130 sp0))))))))))))) (fn:=Tryz.f79) (body:=bodyOf Tryz.f79) mixed (sp_122_ok (sp_124_ok (sp_123_ok (sp_78_ok (sp_126_ok (sp_125_ok (sp_84_ok (sp_127_ok (sp_128_ok (sp_129_ok (sp_77_ok (sp_130_ok jau)))))))))))) Tryz.func79 (by kernel_rfl) (by kernel_rfl) fun ls t h ho b hb=>?_;unfold jh6 at h;split at h
 ·rename_i u4 u1 i;cases h;obtain rfl:=jaM hb;exact⟨Nat.le_of_ble_eq_true (by kernel_rfl),_,_,jsV u4 u1 i _ (jaq ho)⟩
 ·cases h
theorem sp_79_ok {sp:jaa} (h:jac Tryz.prog sp):jac Tryz.prog (sp_79 sp):=jas jsW h
def je4:List SV:=[.a [.d,.x (.st [.s,.i .i64,.ints .i64,.ints .i64,.ints .i64,.i .i64,.recs 5,.i .i64] [])]]
def y28 (u4:ByteArray) (u1:List (List NC)) (x0:Int):Option (Int ⊕ ((Int × Int) ⊕ Unit)) :=
 if x0<(↑u1.length:Int)then
  Option.bind (y99 u4 u1 x0) fun r4 =>
  if(r4 != 0)=true then
  some (.inr ((.inl (x0,r4))))
  else
  some (.inl (wrap .i64 (x0+1)))
 else
  some (.inr ((.inr ())))
def jmg (u5:Int × Int):Option (Int × Int) :=
 some (u5.1,u5.2)
def jmh (u6:Unit):Option (Int × Int) :=
 some (((0:Int),0))
def y120:((Int × Int) ⊕ Unit)→Option (Int × Int) :=
 (Sum.elim (jmg) (jmh))
def y24 (u4:ByteArray) (u1:List (List NC)):Option (Int × Int) :=
 Option.bind (y59 u4) fun r0 =>
 Option.bind (y60 r0 (4:Int)) fun r1 =>
 Option.bind (y60 (decide ((↑u1.length:Int)≤24)) (8:Int)) fun r2 =>
 Option.bind (je1 [r1,r2]) fun r3 =>
 if(r3 != 0)=true then
  some (((0:Int),r3))
 else
  Option.bind (jak (y28 u4 u1) big (0:Int)) (y120)
def je5:List Lf→Option GT
 |[.d (.s u4),.x (.st [.s,.i .i64,.ints .i64,.ints .i64,.ints .i64,.i .i64,.recs 5,.i .i64] u1)]=>some (.leaf (ok (y24 u4 u1)) [.c (.d (.i .i64 ((val (y24 u4 u1)).1))),.c (.d (.i .i64 ((val (y24 u4 u1)).2)))])
 |_=>none
abbrev sp_18:jaa→jaa:=jaH 18 true (jal je4 je5)
abbrev jhA (u4:ByteArray) (u1:List (List NC)) (r:Int × Int):Lp (Int × Nat) Int (((Int × Int) ⊕ Unit)) (Int × Int) (Int × Int) :=
 ⟨fun z=>z.1,fun z=>z.2,fun z x n=>(x,n),fun z=>y28 u4 u1,fun z=>y120,fun z=>top r,fun z=>0,[.c fun _=>0,.c fun _=>(↑u1.length:Int),.c fun vv=>vv.1,.c fun _=>u4,.c fun _=>u1]⟩
def jp5 (u4:ByteArray) (u1:List (List NC)) (r:Int × Int):Sk (top r) (y24 u4 u1) :=
 .call (.call (.call (.call (.brB
 (.obT (.obT (.rc)))
 (.loop (jhA u4 u1 r) (fun kk=>((0:Int),big)) fun z0 =>
 .br
 (.call (.brB
 (.exit (.obT (.obT (.rc))))
 (.next)))
 (.exit (.obT (.obT (.rc)))))))))
theorem joN (u4:ByteArray) (u1:List (List NC)) (r:Int × Int) (h:Option.bind (y24 u4 u1) some=some r):jbg Tryz.f18 ((sp_78 (sp_77 (sp_76 (sp_79 sp0))))) (fun gs id _=>match id with
 |0=>some ⟨Int × Nat,fun z=>⟨[(1,.w (.c (.p 1 0 1 0))),(23,.w (.c (.d (.i .i64 ((↑u1.length:Int)))))),(24,.w (.c (.d (.i .i64 z.1))))],[(1,.box 24 [.d (.s u4),.o 0]),(0,.xext (XC.st [NK.s,NK.i .i64,NK.ints .i64,NK.ints .i64,NK.ints .i64,NK.i .i64,NK.recs (5:Nat),NK.i .i64] u1))],2⟩,fun z=>(jhA u4 u1 r).inv z,fun z=>z.2⟩
 |_=>none) (ja8 je4 [.d (.s u4),.x (.st [.s,.i .i64,.ints .i64,.ints .i64,.ints .i64,.i .i64,.recs 5,.i .i64] u1)]) [.c (.d (.i .i64 r.1)),.c (.d (.i .i64 r.2))] :=
 Sk.vc (jp5 u4 u1 r) (by kernel_rfl) h
theorem joO:jaf Tryz.prog 18 true (jal je4 je5):=by
 refine jaA (sp:=(sp_78 (sp_77 (sp_76 (sp_79 sp0))))) (fn:=Tryz.f18) (body:=bodyOf Tryz.f18) mixed (sp_78_ok (sp_77_ok (sp_76_ok (sp_79_ok jau)))) Tryz.func18 (by kernel_rfl) (by kernel_rfl) fun ls t h ho b hb=>?_;unfold je5 at h;split at h
 ·rename_i u4 u1;cases h;obtain rfl:=jaM hb;exact⟨Nat.le_of_ble_eq_true (by kernel_rfl),_,_,joN u4 u1 _ (jaq ho)⟩
 ·cases h
theorem sp_18_ok {sp:jaa} (h:jac Tryz.prog sp):jac Tryz.prog (sp_18 sp):=jas joO h
end Go.Sh
end

section
namespace Go.Sh
open Go Go.Proofs Go.RowKit Go.Sx
open Go.IntKind (wrap)
theorem jzP {body:Int→Option (Int ⊕ (Unit ⊕ Unit))} (n:Nat) (hlen:n<9223372036854775807)
  (h:∀i,i<n→body (i:Int)=some (.inl ((i:Int)+1))∨body (i:Int)=some (.inr (.inl ()))) (h3:body (n:Int)=some (.inr (.inr ()))) :
  ∃b:Bool,jak body big 0=some (if b=true then .inl ()else .inr ()):=by
 classical
 refine⟨(List.range n).any fun i=>decide (body (i:Int)=some (.inr (.inl ()))),?_⟩;exact jdu n (fun i=>decide (body (i:Int)=some (.inr (.inl ())))) (.inl ()) (.inr ()) hlen (fun i hi hp=>of_decide_eq_true hp) (fun i hi hp=>(h i hi).resolve_right (of_decide_eq_false hp)) h3
def inB (n lo hi:Int):Bool:=decide (lo≤n)&&decide (n≤hi)
theorem jbc (n lo hi:Int):y5 n lo hi=some (inB n lo hi):=by
 unfold y5 inB;split
 ·rename_i h;simp[h]
 ·rename_i h;simp[h]
theorem jcw (n lo hi:Int):y16 n lo hi=some (inB n lo hi):=by
 unfold y16 inB;split
 ·rename_i h;simp[h]
 ·rename_i h;simp[h]
theorem joP (n:Int):jeW n 4000=some (inB n (-4000) 4000):=by
 unfold jeW;rw[show wrap IntKind.i64 ((0:Int)-4000)=-4000 from by rw[jaL (by omega)];rfl,jcw];rfl
theorem jmP (b:Bool) (e:Int):y60 b e=some (if b=true then 0 else e):=by
 unfold y60;cases b<;>rfl
theorem jdV (l:List Int) (n:Int) (hl:l.length<9223372036854775807):jeu l n=some (l.any (·== n)):=by
 unfold jeu;rw[jcv l 0 (·== n) (.inl ()) (.inr ()) hl (fun i hi hp=>?_) (fun i hi hp=>?_) ?_]
 ·cases l.any (·== n)<;>rfl
 ·unfold jgS;simp only[Int.toNat_natCast];rw[if_neg (by omega)]
 ·unfold jgS;simp only[Int.toNat_natCast];rw[if_pos (by omega),if_pos (by omega),if_pos hi,if_pos hp]
 ·unfold jgS;simp only[Int.toNat_natCast];rw[if_pos (by omega),if_pos (by omega),if_pos hi,if_neg (by rw[hp];exact Bool.false_ne_true),jaL (by omega)]
theorem jdK (l:List Int) (hl:l.length≤100):y42 l=some l:=by
 unfold y42;rw[if_pos (by omega)];rfl
theorem jx8 (a:List Int) (hl:a.length<9223372036854775807):jgT a a=some true:=by
 unfold jgT;rw[if_neg (by simp)];rw[jcv a 0 (fun _=>false) (.inl ()) (.inr ()) hl (fun i hi hp=>by cases hp) (fun i hi hp=>?_) ?_]
 ·have:a.any (fun _=>false)=false:=by simp
  rw[this];rfl
 ·unfold jhz;simp only[Int.toNat_natCast];rw[if_neg (by omega)]
 ·unfold jhz;simp only[Int.toNat_natCast];rw[if_pos (by omega),if_pos (by omega),if_pos hi,if_pos (by omega),if_pos hi,if_neg (by simp),jaL (by omega)]
theorem jBi:jhT=y63:=rfl
set_option maxHeartbeats 4000000 in
theorem jzQ (s:ByteArray) (hs:s.size<1000):∃b:Bool,jak (y63 s) big 0=some (if b=true then .inl ()else .inr ()):=by
 refine jzP s.size (by omega) (fun i hi=>?_) ?_
 ·unfold y63;rw[if_pos (by omega),if_pos (by omega),jaL (by omega)]
  repeat' (first|exact .inl rfl|exact .inr rfl|split)
 ·unfold y63;rw[if_neg (by omega)]
theorem jvo (s:ByteArray) (hs:s.size<1000):∃b:Bool,y59 s=some b∧y61 s=some b:=by
 obtain⟨b,hb⟩:=jzQ s hs;unfold y59 y61;rw[jBi,hb]
 have hne:(s != ByteArray.mk #[])=true↔1≤s.size:=by
  constructor
  ·intro h;refine Nat.pos_of_ne_zero fun h0=>?_
   have:s=ByteArray.mk #[]:=by
    cases s with
    |mk d =>
     have:d.size=0:=h0;rw[Array.eq_empty_of_size_eq_zero this]
   rw[this]at h;exact absurd h (by decide)
  ·intro h;cases hb:(s != ByteArray.mk #[])
   ·exfalso;have:(s==ByteArray.mk #[])=true:=by simpa [bne]using hb
    cases s with
    |mk d =>
     have h2:(d == #[])=true:=this;have e:d=#[]:=eq_of_beq h2;subst e;exact absurd h (by decide)
   ·rfl
 cases b with
 |true =>
  refine⟨false,rfl,?_⟩;split
  ·rfl
  ·split<;>rfl
 |false =>
  show ∃b,(if(s != ByteArray.mk #[])=true then some (decide ((s.size:Int)≤12))else some false)=some b∧_
  by_cases h1:1≤s.size
  ·rw[if_pos (hne.2 h1),if_neg (by omega)]
   by_cases h2:(s.size:Int)>12
   ·rw[if_pos h2];exact⟨false,by simp;omega,rfl⟩
   ·rw[if_neg h2];exact⟨true,by simp;omega,rfl⟩
  ·rw[if_neg (fun h=>h1 (hne.1 h)),if_pos (by omega)];exact⟨false,rfl,rfl⟩
end Go.Sh
end

section
namespace Go.Sh
open Go Go.Proofs Go.RowKit Go.Sx
def jdL (n:Nat) (l:List Int):Bool:=l.any fun x=>!inB x 0 ((n:Int)-1)
def jg1 (l:List Int):Bool:=(List.range l.length).any fun i=>(l.take i).any (·== l.getD i 0)
def jdW (r:List Int):Bool:=[r.getD 0 0,r.getD 1 0,r.getD 2 0,r.getD 3 0,r.getD 4 0].all Sx09.partB
def jcQ (c:List (List Int)):Int:=if(c.length:Int)>6 then 8 else if c.any (fun r=>!jdW r)=true then 2 else 0
def exB (g:List (List NC)) (i:Nat):Bool:=(List.range i).any fun k=>nS g k 0==nS g i 0
theorem jzR (l:List Int) (nm:ByteArray) (g:List (List NC)) (hl:l.length<1000) (hg:g.length<1000):y2 l nm g=some (jdL g.length l):=by
 have hb:∀x:Int,y64 x nm g=some (!inB x 0 ((g.length:Int)-1)):=fun x=>by
  unfold y64 y43;rw[jaL (by omega),jcw];rfl
 unfold y2 y8;rw[jbK l 0 (fun x=>!inB x 0 ((g.length:Int)-1)) (fun i=>.inl (i:Int)) (.inr ()) (by omega) (fun i hi hp=>?_) (fun i hi hp=>?_) ?_]
 ·unfold jdL;cases hf:l.findIdx? (fun x=>!inB x 0 ((g.length:Int)-1))with
  |none =>
   have:l.any (fun x=>!inB x 0 ((g.length:Int)-1))=false:=by
    rw[List.findIdx?_eq_none_iff]at hf;rw[List.any_eq_false];intro x hx;simp[hf x hx]
   rw[this];rfl
  |some i =>
   have:l.any (fun x=>!inB x 0 ((g.length:Int)-1))=true:=by
    rw[List.findIdx?_eq_some_iff_getElem]at hf;obtain⟨h,hp,_⟩:=hf;exact List.any_eq_true.2 ⟨_,List.getElem_mem h,hp⟩
   rw[this]
   show some (decide ((i:Int)≥0))=some true
   simp
 ·unfold y9;simp only[Int.toNat_natCast];rw[if_neg (by omega)]
 ·unfold y9;simp only[Int.toNat_natCast];rw[if_pos (by omega),if_pos (by omega),if_pos hi,hb,jad,if_pos hp]
 ·unfold y9;simp only[Int.toNat_natCast];rw[if_pos (by omega),if_pos (by omega),if_pos hi,hb,jad,if_neg (by rw[hp];exact Bool.false_ne_true),jaL (by omega)]
theorem jvp (g:List (List NC)) {i k:Nat} (h:k<i) (j:Nat):nS (g.take i) k j=nS g k j:=by
 unfold nS;simp[List.getD,List.getElem?_take,h]
theorem jwA (g:List (List NC)) (i:Nat) (hi0:i<g.length) (hg:g.length<1000) (a:Int) (b c d:List Int) (e:Int) (f:List (List Int)) (s:Int) :
  y0 (g.take i) (nS g i 0) a b c d e f s=some (exB g i):=by
 have hlen:(g.take i).length=i:=by simp;omega
 unfold y0 y4
 have key:=jbK (body:=y1 (g.take i) (nS g i 0) a b c d e f s) (List.range i) 0 (fun k=>nS g k 0==nS g i 0) (fun i=>.inl (i:Int)) (.inr ()) (by simp;omega) (fun k hk hp=>by
   have hk:k<i:=by simpa using hk
   have hr:(List.range i).getD k 0=k:=by simp[List.getD,hk]
   rw[hr]at hp;unfold y1;simp only[Int.toNat_natCast];rw[hlen,if_pos (by omega),if_pos (by omega),if_pos hk];unfold y65;rw[jad,jvp g hk,if_pos hp]) (fun k hk hp=>by
   have hk:k<i:=by simpa using hk
   have hr:(List.range i).getD k 0=k:=by simp[List.getD,hk]
   rw[hr]at hp;unfold y1;simp only[Int.toNat_natCast];rw[hlen,if_pos (by omega),if_pos (by omega),if_pos hk];unfold y65;rw[jad,jvp g hk,if_neg (by rw[hp];exact Bool.false_ne_true),jaL (by omega)]) (by
   unfold y1;simp only[Int.toNat_natCast];rw[hlen,if_neg (by simp)])
 rw[key];unfold exB;cases hf:(List.range i).findIdx? (fun k=>nS g k 0==nS g i 0)with
 |none =>
  have:(List.range i).any (fun k=>nS g k 0==nS g i 0)=false:=by
   rw[List.findIdx?_eq_none_iff]at hf;rw[List.any_eq_false];intro x hx;simp[hf x hx]
  rw[this];rfl
 |some m =>
  have:(List.range i).any (fun k=>nS g k 0==nS g i 0)=true:=by
   rw[List.findIdx?_eq_some_iff_getElem]at hf;obtain⟨h,hp,_⟩:=hf;exact List.any_eq_true.2 ⟨_,List.getElem_mem h,hp⟩
  rw[this]
  show some (decide ((m:Int)≥0))=some true
  simp
theorem jlg (l:List Int) (v:Int) (hl:l.length<1000):y12 l v=some (l.any (·== v)):=by
 unfold y12 y39;rw[jbK l 0 (fun x=>v==x) (fun i=>.inl (i:Int)) (.inr ()) (by omega) (fun i hi hp=>?_) (fun i hi hp=>?_) ?_]
 ·have hsym:l.any (·== v)=l.any (fun x=>v==x):=by
   congr 1
   funext x;exact Bool.beq_comm
  rw[hsym];cases hf:l.findIdx? (fun x=>v==x)with
  |none =>
   have:l.any (fun x=>v==x)=false:=by
    rw[List.findIdx?_eq_none_iff]at hf;rw[List.any_eq_false];intro x hx;simp[hf x hx]
   rw[this];rfl
  |some i =>
   have:l.any (fun x=>v==x)=true:=by
    rw[List.findIdx?_eq_some_iff_getElem]at hf;obtain⟨h,hp,_⟩:=hf;exact List.any_eq_true.2 ⟨_,List.getElem_mem h,hp⟩
   rw[this]
   show some (decide ((i:Int)≥0))=some true
   simp
 ·unfold y36;simp only[Int.toNat_natCast];rw[if_neg (by omega)]
 ·unfold y36;simp only[Int.toNat_natCast];rw[if_pos (by omega),if_pos (by omega),if_pos hi,if_pos hp]
 ·unfold y36;simp only[Int.toNat_natCast];rw[if_pos (by omega),if_pos (by omega),if_pos hi,if_neg (by rw[hp];exact Bool.false_ne_true),jaL (by omega)]
theorem juJ (l:List Int) (hl:l.length<1000):y76 l=some (jg1 l):=by
 unfold y76
 have key:=jdu (body:=y71 l) l.length (fun i=>(l.take i).any (·== l.getD i 0)) (.inl ()) (.inr ()) (by omega) (fun i hi hp=>by
   unfold y71;simp only[Int.toNat_natCast];rw[if_pos (by omega),if_pos (by omega),if_pos hi,if_pos (by simp only[Option.getD];omega)];simp only[Option.getD_some,Int.toNat_natCast,Nat.sub_zero,List.drop_zero];rw[jlg _ _ (by simp;omega),jad,if_pos hp]) (fun i hi hp=>by
   unfold y71;simp only[Int.toNat_natCast];rw[if_pos (by omega),if_pos (by omega),if_pos hi,if_pos (by simp only[Option.getD];omega)];simp only[Option.getD_some,Int.toNat_natCast,Nat.sub_zero,List.drop_zero];rw[jlg _ _ (by simp;omega),jad,if_neg (by rw[hp];exact Bool.false_ne_true),jaL (by omega)]) (by
   unfold y71;simp only[Int.toNat_natCast];rw[if_neg (by omega)])
 rw[key];unfold jg1;cases (List.range l.length).any (fun i=>(l.take i).any (·== l.getD i 0))<;>rfl
def jcV (kd:Int) (al ga:List Int) (de:Int):Bool:=!(al.any fun x=>!inB x 0 64) && !(ga.any fun x=>!inB x (-4000) 4000)&&inB de 0 64&&(kd==2||de==0)
theorem jwB (nm:ByteArray) (kd:Int) (fr al ga:List Int) (de:Int) (ca:List (List Int)) (sd:Int) (ha:al.length<1000) (hg:ga.length<1000):y98 nm kd fr al ga de ca sd=some (jcV kd al ga de):=by
 have hr1:∀x:Int,y52 x=some (inB x 0 64):=fun x=>by unfold y52;rw[jcw];rfl
 have kg:=jcv (body:=y54 ga) ga 0 (fun x=>!inB x (-4000) 4000) (.inl ()) (.inr ()) (by omega) (fun i hi hp=>by
   unfold y54;simp only[Int.toNat_natCast];rw[if_pos (by omega),if_pos (by omega),if_pos hi,joP,jad,if_pos hp]) (fun i hi hp=>by
   unfold y54;simp only[Int.toNat_natCast];rw[if_pos (by omega),if_pos (by omega),if_pos hi,joP,jad,if_neg (by rw[hp];exact Bool.false_ne_true),jaL (by omega)]) (by
   unfold y54;simp only[Int.toNat_natCast];rw[if_neg (by omega)])
 have ka:=jcv (body:=y66 al) al 0 (fun x=>!inB x 0 64) (.inl ()) (.inr ()) (by omega) (fun i hi hp=>by
   unfold y66;simp only[Int.toNat_natCast];rw[if_pos (by omega),if_pos (by omega),if_pos hi,hr1,jad,if_pos hp]) (fun i hi hp=>by
   unfold y66;simp only[Int.toNat_natCast];rw[if_pos (by omega),if_pos (by omega),if_pos hi,hr1,jad,if_neg (by rw[hp];exact Bool.false_ne_true),jaL (by omega)]) (by
   unfold y66;simp only[Int.toNat_natCast];rw[if_neg (by omega)])
 unfold y98 jcV;rw[ka];cases al.any (fun x=>!inB x 0 64)with
 |true=>rfl
 |false =>
  show(jak (y54 ga) big 0).bind (jfo kd de)=_
  rw[kg];cases ga.any (fun x=>!inB x (-4000) 4000)with
  |true=>rfl
  |false =>
   show(y52 de).bind _=_
   rw[hr1,jad];cases inB de 0 64 with
   |false=>rfl
   |true=>cases hk:(kd==2)<;>simp
theorem jmQ {α:Type} (l:List α) (P:α→Bool):(l.findIdx? P).isSome=l.any P:=by
 induction l with
 |nil=>rfl
 |cons x r ih =>
  rw[List.findIdx?_cons,List.any_cons];cases P x with
  |true=>rfl
  |false=>simp[ih]
theorem jvq (r:List Int):y25 (r.getD 0 0) (r.getD 1 0) (r.getD 2 0) (r.getD 3 0) (r.getD 4 0)=some (if jdW r=true then 0 else 2):=by
 unfold y25
 have key:=jcv (body:=y20 (r.getD 0 0) (r.getD 1 0) (r.getD 2 0) (r.getD 3 0) (r.getD 4 0)) [r.getD 0 0,r.getD 1 0,r.getD 2 0,r.getD 3 0,r.getD 4 0] 0 (fun x=>!inB x (-32768) 32768) (.inl ()) (.inr ()) (by simp) (fun i hi hp=>by
   unfold y20;simp only[Int.toNat_natCast];rw[if_pos (by omega),if_pos (by omega),if_pos hi,jbc,jad,if_pos hp]) (fun i hi hp=>by
   unfold y20;simp only[Int.toNat_natCast];have hi5:i<5:=hi;rw[if_pos (by omega),if_pos (by omega),if_pos hi,jbc,jad,if_neg (by rw[hp];exact Bool.false_ne_true),jaL (by omega)]) (by
   unfold y20;simp only[Int.toNat_natCast];rw[if_neg (by omega)])
 rw[key]
 have e:([r.getD 0 0,r.getD 1 0,r.getD 2 0,r.getD 3 0,r.getD 4 0].any fun x=>!inB x (-32768) 32768)=!jdW r:=by
  unfold jdW;rw[List.all_eq_not_any_not];simp only[Bool.not_not];rfl
 rw[e];cases jdW r<;>rfl
theorem jzS (c:List (List Int)) (hc:c.length<1000):(y10 c).bind (fun r=>some r.2)=some (jcQ c):=by
 unfold y10 jcQ;split
 ·rfl
 ·have key:=jbK (body:=y21 c) c [] (fun r=>!jdW r) (fun i=>.inl ((i:Int),2)) (.inr ()) (by omega) (fun i hi hp=>by
    unfold y21;simp only[Int.toNat_natCast];have hp:jdW (c.getD i [])=false:=by simpa using hp
    rw[if_pos (by omega),if_pos (by omega),if_pos hi,jvq,hp,jad];rfl) (fun i hi hp=>by
    unfold y21;simp only[Int.toNat_natCast];have hp:jdW (c.getD i [])=true:=by simpa using hp
    rw[if_pos (by omega),if_pos (by omega),if_pos hi,jvq,hp,jad,jaL (by omega)];rfl) (by
    unfold y21;simp only[Int.toNat_natCast];rw[if_neg (by omega)])
  rw[key,←jmQ];cases c.findIdx? (fun r=>!jdW r)<;>rfl
theorem jzT (c:List (List Int)) (hc:c.length<1000):(y53 c).bind (fun r=>some r.2)=some (jcQ c):=by
 have h1:y44 c=some (jcQ c):=by
  unfold y44 y40 jcQ;split
  ·rfl
  ·have key:=jbK (body:=y31 c) c [] (fun r=>!jdW r) (fun i=>.inl ((i:Int),2)) (.inr ()) (by omega) (fun i hi hp=>by
     unfold y31;simp only[Int.toNat_natCast];have hp:jdW (c.getD i [])=false:=by simpa using hp
     have hs:Sx09.chkS ((c.getD i []).getD 0 0) ((c.getD i []).getD 1 0) ((c.getD i []).getD 2 0) ((c.getD i []).getD 3 0) ((c.getD i []).getD 4 0)=2:=by
      unfold Sx09.chkS;unfold jdW at hp;rw[if_neg (by rw[hp];exact Bool.false_ne_true)]
     rw[if_pos (by omega),if_pos (by omega),if_pos hi,hs];rfl) (fun i hi hp=>by
     unfold y31;simp only[Int.toNat_natCast];have hp:jdW (c.getD i [])=true:=by simpa using hp
     have hs:Sx09.chkS ((c.getD i []).getD 0 0) ((c.getD i []).getD 1 0) ((c.getD i []).getD 2 0) ((c.getD i []).getD 3 0) ((c.getD i []).getD 4 0)=0:=by
      unfold Sx09.chkS;unfold jdW at hp;rw[if_pos hp]
     rw[if_pos (by omega),if_pos (by omega),if_pos hi,hs,jaL (by omega)];rfl) (by
     unfold y31;simp only[Int.toNat_natCast];rw[if_neg (by omega)])
   rw[key,←jmQ];cases c.findIdx? (fun r=>!jdW r)<;>rfl
 unfold y53;rw[h1,jad];cases hz:(jcQ c != 0)with
 |true=>rfl
 |false =>
  have h0:jcQ c=0:=by simpa using hz
  rw[if_neg (by simp),if_pos (by omega),h0];rfl
def jew (s:ByteArray):Bool:=(y61 s).getD false
theorem jsX {s:ByteArray} (hs:s.size<1000):y61 s=some (jew s):=by
 obtain⟨b,_,h2⟩:=jvo s hs;unfold jew;rw[h2];rfl
theorem jsY {s:ByteArray} (hs:s.size<1000):y59 s=some (jew s):=by
 obtain⟨b,h1,h2⟩:=jvo s hs;unfold jew;rw[h1,h2];rfl
def je6 (kd:Int) (f a g:Nat):Bool :=
 if(kd==0)=true then inB (f:Int) 0 0&&((a:Int)==(f:Int))&&((g:Int)==0)
 else if(kd==1)=true then inB (f:Int) 1 6&&((a:Int)==(f:Int))&&((g:Int)==(f:Int))
 else inB (f:Int) 1 1&&((a:Int)==(f:Int))&&((g:Int)==0)
theorem jwC (nm:ByteArray) (kd:Int) (fr al ga:List Int) (de:Int) (ca:List (List Int)) (sd:Int):y82 nm kd fr al ga de ca sd=some (je6 kd fr.length al.length ga.length):=by
 unfold y82 je6;simp only[jcw,jad]
 generalize (kd==0)=k0
 generalize (kd==1)=k1
 generalize inB (fr.length:Int) 0 0=c1
 generalize inB (fr.length:Int) 1 6=c2
 generalize inB (fr.length:Int) 1 1=c3
 generalize ((al.length:Int)==(fr.length:Int))=c4
 cases k0<;>cases k1<;>cases c1<;>cases c2<;>cases c3<;>cases c4<;>rfl
def jlh:ByteArray:=ByteArray.mk #[115,116,97,110,100]
def sdB (n:Nat) (s:Int):Bool:=s == -1||inB s 0 ((n:Int)-1)
def jbe (g:List (List NC)) (i:Nat):Int :=
 if(!jew (nS g i 0))=true then 4
 else if(nS g i 0==jlh)=true then 4
 else if exB g i=true then 5
 else if(!inB (nI g i 1) 0 4)=true then 15
 else if(!je6 (nI g i 1) (nL g i 2).length (nL g i 3).length (nL g i 4).length)=true then 10
 else if jdL g.length (nL g i 2)=true then 6
 else if(!sdB g.length (nI g i 7))=true then 6
 else if jg1 (nL g i 2)=true then 26
 else if(!jcV (nI g i 1) (nL g i 3) (nL g i 4) (nI g i 5))=true then 2
 else if(nI g i 1==3)=true then jcQ (nR g i 6)
 else if(((nR g i 6).length:Int)==0)=true then 0 else 10
structure Fw (g:List (List NC)):Prop where
 n:g.length<1000
 nm:∀i,i<g.length→(nS g i 0).size<1000
 fr:∀i,i<g.length→(nL g i 2).length<100
 al:∀i,i<g.length→(nL g i 3).length<100
 ga:∀i,i<g.length→(nL g i 4).length<100
 ca:∀i,i<g.length→(nR g i 6).length<100
set_option maxHeartbeats 2000000 in
theorem jsZ {g:List (List NC)} (hw:Fw g) (nm:ByteArray) {i:Nat} (hi:i<g.length):y99 nm g (i:Int)=some (jbe g i):=by
 have hn:=hw.n;have h1:=hw.nm i hi;have h2:=hw.fr i hi;have h3:=hw.al i hi;have h4:=hw.ga i hi;have h5:=hw.ca i hi
 have hst:y43 (nI g i 7) nm g=some (inB (nI g i 7) 0 ((g.length:Int)-1)):=by
  unfold y43;rw[jaL (by omega),jcw];rfl
 unfold y99;rw[if_pos (by omega),if_pos (by simpa using hi)];simp only[Int.toNat_natCast,Option.getD_some,Option.getD_none,Nat.sub_zero,List.drop_zero];rw[hst,jzR _ nm g (by omega) hn,jsY h1];simp only[jad,jcw,jwC,jmP];rw[jwA g i hi hn,juJ _ (by omega),jwB _ _ _ _ _ _ _ _ (by omega) (by omega),jzT _ (by omega)];simp only[jad];have hb:(0:Int)≤0∧(0:Int)≤(i:Int)∧(i:Int)≤(g.length:Int):=by omega
 simp only[if_pos hb];unfold jbe sdB;rw[show(ByteArray.mk #[115,116,97,110,100])=jlh from rfl];rw[show(nI g i 1 != 3)=!(nI g i 1==3)from rfl,show(nI g i 7 != -1)=!(nI g i 7 == -1)from rfl]
 generalize jew (nS g i 0)=b1
 generalize (nS g i 0==jlh)=b2
 generalize exB g i=b3
 generalize inB (nI g i 1) 0 4=b4
 generalize je6 (nI g i 1) (nL g i 2).length (nL g i 3).length (nL g i 4).length=b5
 generalize jdL g.length (nL g i 2)=b6
 generalize inB (nI g i 7) 0 ((g.length:Int)-1)=b7
 generalize (nI g i 7 == -1)=b8
 generalize jg1 (nL g i 2)=b9
 generalize jcV (nI g i 1) (nL g i 3) (nL g i 4) (nI g i 5)=b10
 generalize (nI g i 1==3)=b11
 generalize (((nR g i 6).length:Int)==0)=b12
 generalize jcQ (nR g i 6)=ce
 cases b7<;>cases b8<;>(cases b1;rfl;cases b2<;>try rfl)<;>(cases b3<;>try rfl)<;>(cases b4;rfl;cases b5;rfl;cases b6<;>try rfl)<;>(cases b9<;>try rfl)<;>(cases b10;rfl;cases b11<;>cases b12<;>rfl)
theorem jwD (x y z:Bool) (r:Int):(if(!x)=true then some (10:Int)else if(!y)=true then some 10 else if(!z)=true then some 10 else some r)=some (if(!(x&&y&&z))=true then 10 else r):=by
 cases x<;>cases y<;>cases z<;>rfl
set_option maxHeartbeats 4000000 in
theorem js0 {g:List (List NC)} (hw:Fw g) (nm:ByteArray) {i:Nat} (hi:i<g.length):y62 nm g (i:Int)=some (jbe g i):=by
 have hn:=hw.n;have h1:=hw.nm i hi;have h2:=hw.fr i hi;have h3:=hw.al i hi;have h4:=hw.ga i hi;have h5:=hw.ca i hi
 have k0:=jdu (body:=y55 g (i:Int)) i (fun k=>nS g k 0==nS g i 0) (.inl ()) (.inr ()) (by omega) (fun k hk hp=>by
   unfold y55;simp only[Int.toNat_natCast];rw[if_pos (by omega),if_pos (by omega),if_pos (by omega),if_pos hp]) (fun k hk hp=>by
   unfold y55;simp only[Int.toNat_natCast];rw[if_pos (by omega),if_pos (by omega),if_pos (by omega),if_neg (by rw[hp];exact Bool.false_ne_true),jaL (by omega)]) (by
   unfold y55;simp only[Int.toNat_natCast];rw[if_neg (by omega)])
 have k1:=jcv (body:=y3 g (i:Int)) (nL g i 2) 0 (fun x=>!inB x 0 ((g.length:Int)-1)) (.inl ()) (.inr ()) (by omega) (fun k hk hp=>by
   unfold y3;simp only[Int.toNat_natCast];rw[if_pos (by omega),if_pos (by omega),if_pos hk,jaL (by omega),jbc,jad,if_pos hp]) (fun k hk hp=>by
   unfold y3;simp only[Int.toNat_natCast];rw[if_pos (by omega),if_pos (by omega),if_pos hk,jaL (x:=(g.length:Int)-1) (by omega),jbc,jad,if_neg (by rw[hp];exact Bool.false_ne_true),jaL (by omega)]) (by
   unfold y3;simp only[Int.toNat_natCast];rw[if_neg (by omega)])
 have k2:=jdu (body:=y37 g (i:Int)) (nL g i 2).length (fun k=>((nL g i 2).take k).any (·== (nL g i 2).getD k 0)) (.inl ()) (.inr ()) (by omega) (fun k hk hp=>by
   unfold y37;simp only[Int.toNat_natCast];rw[if_pos (by omega),if_pos (by simp only[Option.getD];omega),if_pos (by omega),if_pos hk];simp only[Option.getD_some,Int.toNat_natCast,Nat.sub_zero,List.drop_zero];rw[jdV _ _ (by simp;omega),jad,if_pos hp]) (fun k hk hp=>by
   unfold y37;simp only[Int.toNat_natCast];rw[if_pos (by omega),if_pos (by simp only[Option.getD];omega),if_pos (by omega),if_pos hk];simp only[Option.getD_some,Int.toNat_natCast,Nat.sub_zero,List.drop_zero];rw[jdV _ _ (by simp;omega),jad,if_neg (by rw[hp];exact Bool.false_ne_true),jaL (by omega)]) (by
   unfold y37;simp only[Int.toNat_natCast];rw[if_neg (by omega)])
 have k3:=jcv (body:=y56 g (i:Int)) (nL g i 3) 0 (fun x=>!inB x 0 64) (.inl ()) (.inr ()) (by omega) (fun k hk hp=>by
   unfold y56;simp only[Int.toNat_natCast];rw[if_pos (by omega),if_pos (by omega),if_pos hk,jbc,jad,if_pos hp]) (fun k hk hp=>by
   unfold y56;simp only[Int.toNat_natCast];rw[if_pos (by omega),if_pos (by omega),if_pos hk,jbc,jad,if_neg (by rw[hp];exact Bool.false_ne_true),jaL (by omega)]) (by
   unfold y56;simp only[Int.toNat_natCast];rw[if_neg (by omega)])
 have k4:=jcv (body:=y38 g (i:Int)) (nL g i 4) 0 (fun x=>!inB x (-4000) 4000) (.inl ()) (.inr ()) (by omega) (fun k hk hp=>by
   unfold y38;simp only[Int.toNat_natCast];rw[if_pos (by omega),if_pos (by omega),if_pos hk,jbc,jad,if_pos hp]) (fun k hk hp=>by
   unfold y38;simp only[Int.toNat_natCast];rw[if_pos (by omega),if_pos (by omega),if_pos hk,jbc,jad,if_neg (by rw[hp];exact Bool.false_ne_true),jaL (by omega)]) (by
   unfold y38;simp only[Int.toNat_natCast];rw[if_neg (by omega)])
 have t4:y108 g (i:Int) ()=some (if(!inB (nI g i 5) 0 64)=true then 2 else if(!(nI g i 1==2||nI g i 5==0))=true then 2 else if(nI g i 1==3)=true then jcQ (nR g i 6)else if(((nR g i 6).length:Int)==0)=true then 0 else 10):=by
  unfold y108;simp only[Int.toNat_natCast];rw[jzS _ (by omega),jbc,jad,show(nI g i 1 != 3)=!(nI g i 1==3)from rfl,show(nI g i 1 != 2)=!(nI g i 1==2)from rfl,show(nI g i 5 != 0)=!(nI g i 5==0)from rfl]
  have hz:(if((nR g i 6).length:Int)>0 then some (10:Int)else some 0)=some (if(((nR g i 6).length:Int)==0)=true then 0 else 10):=by
   by_cases h:(nR g i 6).length=0
   ·rw[if_neg (by omega),if_pos (by simp[h])]
   ·rw[if_pos (by omega),if_neg (by simpa using h)]
  rw[hz]
  generalize inB (nI g i 5) 0 64=c1
  generalize (nI g i 1==2)=c2
  generalize (nI g i 5==0)=c3
  generalize (nI g i 1==3)=c4
  cases c1<;>cases c2<;>cases c3<;>cases c4<;>rfl
 have t3:y109 g (i:Int) ()=some (if((nL g i 4).any fun x=>!inB x (-4000) 4000)=true then 2 else if(!inB (nI g i 5) 0 64)=true then 2 else if(!(nI g i 1==2||nI g i 5==0))=true then 2 else if(nI g i 1==3)=true then jcQ (nR g i 6)else if(((nR g i 6).length:Int)==0)=true then 0 else 10):=by
  unfold y109;rw[k4,jad];cases (nL g i 4).any (fun x=>!inB x (-4000) 4000)with
  |true=>rfl
  |false=>exact t4
 have t2:y110 g (i:Int) ()=some (if(!jcV (nI g i 1) (nL g i 3) (nL g i 4) (nI g i 5))=true then 2 else if(nI g i 1==3)=true then jcQ (nR g i 6)else if(((nR g i 6).length:Int)==0)=true then 0 else 10):=by
  unfold y110 jcV;rw[k3,jad]
  generalize hA:(nL g i 3).any (fun x=>!inB x 0 64)=bA
  cases bA with
  |true=>rfl
  |false =>
   refine t3.trans ?_
   generalize (nL g i 4).any (fun x=>!inB x (-4000) 4000)=bG
   generalize inB (nI g i 5) 0 64=c1
   generalize (nI g i 1==2||nI g i 5==0)=c2
   cases bG<;>cases c1<;>cases c2<;>rfl
 have t1:y111 g (i:Int) ()=some (if(!inB (nI g i 7) (-1) ((g.length:Int)-1))=true then 6 else if jg1 (nL g i 2)=true then 26 else if(!jcV (nI g i 1) (nL g i 3) (nL g i 4) (nI g i 5))=true then 2 else if(nI g i 1==3)=true then jcQ (nR g i 6)else if(((nR g i 6).length:Int)==0)=true then 0 else 10):=by
  unfold y111;simp only[Int.toNat_natCast];rw[jaL (by omega),jbc,jad,k2,jad];cases inB (nI g i 7) (-1) ((g.length:Int)-1)with
  |false=>rfl
  |true =>
   show y100 g (i:Int) (if jg1 (nL g i 2)=true then .inl ()else .inr ())=_
   cases jg1 (nL g i 2)with
   |true=>rfl
   |false=>exact t2
 have hsd:inB (nI g i 7) (-1) ((g.length:Int)-1)=sdB g.length (nI g i 7):=by
  unfold sdB inB;have:((nI g i 7)==(-1:Int))=decide (nI g i 7=-1):=rfl;rw[this]
  by_cases h:nI g i 7=-1
  ·simp[h];omega
  ·have e:decide ((-1:Int)≤nI g i 7)=decide ((0:Int)≤nI g i 7):=by
    congr 1
    exact propext ⟨fun _=>by omega,fun _=>by omega⟩
   rw[e];simp[h]
 rw[hsd]at t1
 have t1':((some (if jdL g.length (nL g i 2)=true then Sum.inl ()else Sum.inr ()):Option (Unit ⊕ Unit)).bind (y7 g (i:Int)))=some (if jdL g.length (nL g i 2)=true then 6 else if(!sdB g.length (nI g i 7))=true then 6 else if jg1 (nL g i 2)=true then 26 else if(!jcV (nI g i 1) (nL g i 3) (nL g i 4) (nI g i 5))=true then 2 else if(nI g i 1==3)=true then jcQ (nR g i 6)else if(((nR g i 6).length:Int)==0)=true then 0 else 10):=by
  rw[jad];cases jdL g.length (nL g i 2)with
  |true=>rfl
  |false=>exact t1
 have k1:jak (y3 g (i:Int)) big 0=some (if jdL g.length (nL g i 2)=true then .inl ()else .inr ()):=k1
 have t0:y81 g (i:Int) ()=some (if(!inB (nI g i 1) 0 4)=true then 15 else if(!je6 (nI g i 1) (nL g i 2).length (nL g i 3).length (nL g i 4).length)=true then 10 else if jdL g.length (nL g i 2)=true then 6 else if(!sdB g.length (nI g i 7))=true then 6 else if jg1 (nL g i 2)=true then 26 else if(!jcV (nI g i 1) (nL g i 3) (nL g i 4) (nI g i 5))=true then 2 else if(nI g i 1==3)=true then jcQ (nR g i 6)else if(((nR g i 6).length:Int)==0)=true then 0 else 10):=by
  unfold y81;simp only[Int.toNat_natCast];rw[k1,t1'];simp only[jbc,jad]
  generalize (if jdL g.length (nL g i 2)=true then(6:Int)else if(!sdB g.length (nI g i 7))=true then 6 else if jg1 (nL g i 2)=true then 26 else if(!jcV (nI g i 1) (nL g i 3) (nL g i 4) (nI g i 5))=true then 2 else if(nI g i 1==3)=true then jcQ (nR g i 6)else if(((nR g i 6).length:Int)==0)=true then 0 else 10)=rest
  by_cases h0:(!inB (nI g i 1) 0 4)=true
  ·rw[if_pos h0,if_pos h0]
  ·rw[if_neg h0,if_neg h0]
   by_cases hk:nI g i 1=0
   ·have e0:(nI g i 1==0)=true:=by simp[hk]
    have e1:¬(nI g i 1==1)=true:=by simp[hk]
    rw[if_pos e0,if_neg e1,if_neg e1]
    have hs:je6 (nI g i 1) (nL g i 2).length (nL g i 3).length (nL g i 4).length=(inB ((nL g i 2).length:Int) 0 0&&(((nL g i 3).length:Int)==((nL g i 2).length:Int))&&(((nL g i 4).length:Int)==0)):=by
     unfold je6;rw[if_pos e0]
    rw[hs];exact jwD _ _ _ _
   ·have e0:¬(nI g i 1==0)=true:=by simpa using hk
    rw[if_neg e0]
    by_cases hk1:(nI g i 1==1)=true
    ·rw[if_pos hk1,if_pos hk1]
     have hs:je6 (nI g i 1) (nL g i 2).length (nL g i 3).length (nL g i 4).length=(inB ((nL g i 2).length:Int) 1 6&&(((nL g i 3).length:Int)==((nL g i 2).length:Int))&&(((nL g i 4).length:Int)==((nL g i 2).length:Int))):=by
      unfold je6;rw[if_neg e0,if_pos hk1]
     rw[hs];exact jwD _ _ _ _
    ·rw[if_neg hk1,if_neg hk1]
     have hs:je6 (nI g i 1) (nL g i 2).length (nL g i 3).length (nL g i 4).length=(inB ((nL g i 2).length:Int) 1 1&&(((nL g i 3).length:Int)==((nL g i 2).length:Int))&&(((nL g i 4).length:Int)==0)):=by
      unfold je6;rw[if_neg e0,if_neg hk1]
     rw[hs];exact jwD _ _ _ _
 unfold y62;rw[if_pos (by omega),if_pos (by simpa using hi)];simp only[Int.toNat_natCast];rw[jsX h1,jad,k0,jad];unfold jbe;rw[show(ByteArray.mk #[115,116,97,110,100])=jlh from rfl];cases jew (nS g i 0)with
 |false=>rfl
 |true =>
  have ht:¬((!true)=true):=by simp
  by_cases hs:(nS g i 0==jlh)=true
  ·rw[if_neg ht,if_pos hs,if_neg ht,if_pos hs]
  ·rw[if_neg ht,if_neg hs,if_neg ht,if_neg hs]
   show jeY g (i:Int) (if exB g i=true then .inl ()else .inr ())=_
   cases exB g i with
   |true=>rfl
   |false=>exact t0
def cg (nm:ByteArray) (g:List (List NC)):Int × Int :=
 if(!jew nm)=true then(0,4)
 else if(g.length:Int)>24 then(0,8)
 else match(List.range g.length).findIdx? (fun i=>jbe g i != 0)with
  |some i=>((i:Int),jbe g i)
  |none=>(0,0)
theorem jx9 (a b:Int):je1 [a,b]=some (if(a != 0)=true then a else b):=by
 unfold je1
 have key:=jbK (body:=jpV [a,b]) [a,b] 0 (fun x=>x != 0) (fun i=>.inl ([a,b].getD i 0)) (.inr ()) (by simp) (fun i hi hp=>by
   unfold jpV;simp only[Int.toNat_natCast];rw[if_pos (by omega),if_pos (by omega),if_pos hi,if_pos hp]) (fun i hi hp=>by
   unfold jpV;simp only[Int.toNat_natCast];have hi2:i<2:=hi;rw[if_pos (by omega),if_pos (by omega),if_pos hi,if_neg (by rw[hp];exact Bool.false_ne_true),jaL (by omega)]) (by
   unfold jpV;simp only[Int.toNat_natCast];rw[if_neg (by omega)])
 rw[key];cases ha:(a != 0)with
 |true=>simp[List.findIdx?_cons,ha];rfl
 |false =>
  cases hb:(b != 0)with
  |true=>simp[List.findIdx?_cons,ha,hb];rfl
  |false =>
   have:b=0:=by simpa using hb
   simp[List.findIdx?_cons,ha,hb,this];rfl
theorem joQ {n:Nat} {P:Nat→Bool} {i:Nat} (h:(List.range n).findIdx? P=some i):i<n:=by
 rw[List.findIdx?_eq_some_iff_getElem]at h;obtain⟨h,_⟩:=h;simpa using h
theorem jli {g:List (List NC)} (hw:Fw g) {nm:ByteArray} (hs:nm.size<1000):y24 nm g=some (cg nm g):=by
 have hn:=hw.n;unfold y24 cg;rw[jsY hs];simp only[jad,jmP];rw[jx9,jad];cases jew nm with
 |false=>rfl
 |true =>
  by_cases h24:(g.length:Int)>24
  ·rw[if_neg (by simp:¬(!true)=true),if_pos h24];have e:decide ((g.length:Int)≤24)=false:=by simp;omega
   rw[e];rfl
  ·rw[if_neg (by simp:¬(!true)=true),if_neg h24];have e:decide ((g.length:Int)≤24)=true:=by simp;omega
   rw[e]
   show Option.bind (jak (y28 nm g) big 0) y120=_
   have key:=jbK (body:=y28 nm g) (List.range g.length) 0 (fun i=>jbe g i != 0) (fun i=>.inl ((i:Int),jbe g i)) (.inr ()) (by simp;omega) (fun i hi hp=>by
     have hi:i<g.length:=by simpa using hi
     have hr:(List.range g.length).getD i 0=i:=by simp[List.getD,hi]
     rw[hr]at hp;unfold y28;rw[if_pos (by omega),jsZ hw nm hi,jad,if_pos hp]) (fun i hi hp=>by
     have hi:i<g.length:=by simpa using hi
     have hr:(List.range g.length).getD i 0=i:=by simp[List.getD,hi]
     rw[hr]at hp;unfold y28;rw[if_pos (by omega),jsZ hw nm hi,jad,if_neg (by rw[hp];exact Bool.false_ne_true),jaL (by omega)]) (by
     unfold y28;rw[if_neg (by simp)])
   rw[key];cases (List.range g.length).findIdx? (fun i=>jbe g i != 0)<;>rfl
theorem jya {g:List (List NC)} (hw:Fw g) {nm:ByteArray} (hs:nm.size<1000):y27 nm g=some (cg nm g):=by
 have hn:=hw.n;unfold y27 cg;rw[jsX hs,jad];cases jew nm with
 |false=>rfl
 |true =>
  have ht:¬((!true)=true):=by simp
  rw[if_neg ht,if_neg ht]
  by_cases h24:(g.length:Int)>24
  ·rw[if_pos h24,if_pos h24]
  ·rw[if_neg h24,if_neg h24]
   have key:=jbK (body:=y30 nm g) (List.range g.length) 0 (fun i=>jbe g i != 0) (fun i=>.inl ((i:Int),jbe g i)) (.inr ()) (by simp;omega) (fun i hi hp=>by
     have hi:i<g.length:=by simpa using hi
     have hr:(List.range g.length).getD i 0=i:=by simp[List.getD,hi]
     rw[hr]at hp;unfold y30;rw[if_pos (by omega),js0 hw nm hi,jad,if_pos hp]) (fun i hi hp=>by
     have hi:i<g.length:=by simpa using hi
     have hr:(List.range g.length).getD i 0=i:=by simp[List.getD,hi]
     rw[hr]at hp;unfold y30;rw[if_pos (by omega),js0 hw nm hi,jad,if_neg (by rw[hp];exact Bool.false_ne_true),jaL (by omega)]) (by
     unfold y30;rw[if_neg (by simp)])
   rw[key];cases (List.range g.length).findIdx? (fun i=>jbe g i != 0)<;>rfl
def rowU (g:List (List NC)) (i:Nat):List NC:=[.d (.s (nS g i 0)),.d (.i .i64 (nI g i 1)),.r (.ints .i64 (nL g i 2)),.r (.ints .i64 (nL g i 3)),.r (.ints .i64 (nL g i 4)),.d (.i .i64 (nI g i 5)),.r (.recs 5 (nR g i 6)),.d (.i .i64 (nI g i 7))]
def cpU (g:List (List NC)):List (List NC):=(List.range g.length).map (rowU g)
theorem jBj {g:List (List NC)} (hw:Fw g) (nm:ByteArray):y80 nm g=some (nm,cpU g):=by
 have hn:=hw.n;unfold y80
 have key:=jcL (body:=y88 g) (fun k=>((k:Int),(List.range k).map (rowU g))) (y:=cpU g) (k:=g.length) (fun i hi=>by
   have h2:=hw.fr i hi;have h3:=hw.al i hi;have h4:=hw.ga i hi;have h5:=hw.ca i hi;unfold y88;simp only[Int.toNat_natCast];rw[if_pos (by omega),if_pos (by omega),if_pos hi,jdK _ (by omega),jdK _ (by omega),jdK _ (by omega)];simp only[jad];rw[if_pos (by omega),if_pos (by simp only[List.length_map,List.length_range,List.length_cons,List.length_nil];omega),jaL (by omega),List.range_succ,List.map_append];rfl) (by
   unfold y88;rw[if_neg (by simp)];rfl) (by omega)
 have key:jak (y88 g) big ((0:Int),[])=some (cpU g):=key;rw[key];rfl
theorem jbz (g:List (List NC)):(cpU g).length=g.length:=by simp[cpU]
theorem jfJ {g:List (List NC)} {i:Nat} (hi:i<g.length):(cpU g).getD i []=rowU g i:=by simp[cpU,List.getD,hi]
theorem cp_S {g:List (List NC)} {i:Nat} (hi:i<g.length):nS (cpU g) i 0=nS g i 0:=by
 show NC.toS (((cpU g).getD i []).getD 0 _)=_
 rw[jfJ hi];rfl
theorem cp_I {g:List (List NC)} {i:Nat} (hi:i<g.length):nI (cpU g) i 1=nI g i 1∧nI (cpU g) i 5=nI g i 5∧nI (cpU g) i 7=nI g i 7:=by
 refine⟨?_,?_,?_⟩
 ·show NC.toI (((cpU g).getD i []).getD 1 _)=_
  rw[jfJ hi];rfl
 ·show NC.toI (((cpU g).getD i []).getD 5 _)=_
  rw[jfJ hi];rfl
 ·show NC.toI (((cpU g).getD i []).getD 7 _)=_
  rw[jfJ hi];rfl
theorem jns {g:List (List NC)} {i:Nat} (hi:i<g.length):nL (cpU g) i 2=nL g i 2∧nL (cpU g) i 3=nL g i 3∧nL (cpU g) i 4=nL g i 4:=by
 refine⟨?_,?_,?_⟩
 ·show NC.toInts (((cpU g).getD i []).getD 2 _)=_
  rw[jfJ hi];rfl
 ·show NC.toInts (((cpU g).getD i []).getD 3 _)=_
  rw[jfJ hi];rfl
 ·show NC.toInts (((cpU g).getD i []).getD 4 _)=_
  rw[jfJ hi];rfl
theorem cp_R {g:List (List NC)} {i:Nat} (hi:i<g.length):nR (cpU g) i 6=nR g i 6:=by
 show NC.toRecs (((cpU g).getD i []).getD 6 _)=_
 rw[jfJ hi];rfl
theorem jAP {g:List (List NC)} (hw:Fw g):Fw (cpU g):=by
 constructor
 ·rw[jbz];exact hw.n
 all_goals intro i hi;rw[jbz]at hi
 ·rw[cp_S hi];exact hw.nm i hi
 ·rw[(jns hi).1];exact hw.fr i hi
 ·rw[(jns hi).2.1];exact hw.al i hi
 ·rw[(jns hi).2.2];exact hw.ga i hi
 ·rw[cp_R hi];exact hw.ca i hi
theorem jyb {g:List (List NC)} {i:Nat} (hi:i<g.length):jbe (cpU g) i=jbe g i:=by
 have hex:exB (cpU g) i=exB g i:=by
  unfold exB;rw[cp_S hi]
  have:∀l:List Nat,(∀k∈l,k<i)→(l.any fun k=>nS (cpU g) k 0==nS g i 0)=l.any fun k=>nS g k 0==nS g i 0:=by
   intro l
   induction l with
   |nil=>intro _;rfl
   |cons x r ih =>
    intro h;have hx:=h x List.mem_cons_self;rw[List.any_cons,List.any_cons,cp_S (by omega),ih fun k hk=>h k (List.mem_cons_of_mem _ hk)]
  exact this _ fun k hk=>List.mem_range.1 hk
 unfold jbe;rw[cp_S hi,hex,(cp_I hi).1,(cp_I hi).2.1,(cp_I hi).2.2,(jns hi).1,(jns hi).2.1,(jns hi).2.2,cp_R hi,jbz]
def cgM (e:Nat→Int) (o:Option Nat):Int × Int:=match o with
 |some i=>((i:Int),e i)
 |none=>(0,0)
def cgF (b:Bool) (n:Nat) (e:Nat→Int):Int × Int:=if(!b)=true then(0,4)else if(n:Int)>24 then(0,8)else cgM e ((List.range n).findIdx? fun i=>e i != 0)
theorem jwG (e e':Nat→Int) (n:Nat) (hn:∀i,i<n→e i=e' i) (l:List Nat):(∀i∈l,i<n)→l.findIdx? (fun i=>e i != 0)=l.findIdx? (fun i=>e' i != 0):=by
 induction l with
 |nil=>intro _;rfl
 |cons x r ih =>
  intro h;rw[List.findIdx?_cons,List.findIdx?_cons,hn x (h x List.mem_cons_self),ih fun i hi=>h i (List.mem_cons_of_mem _ hi)]
theorem jyc (b:Bool) (n:Nat) (e e':Nat→Int) (hn:∀i,i<n→e i=e' i):cgF b n e=cgF b n e':=by
 unfold cgF;rw[jwG e e' n hn _ fun i hi=>List.mem_range.1 hi]
 have hm:cgM e ((List.range n).findIdx? fun i=>e' i != 0)=cgM e' ((List.range n).findIdx? fun i=>e' i != 0):=by
  cases h:(List.range n).findIdx? (fun i=>e' i != 0)with
  |none=>rfl
  |some i =>
   show((i:Int),e i)=((i:Int),e' i)
   rw[hn i (joQ h)]
 rw[hm]
theorem joR (nm:ByteArray) (g:List (List NC)):cg nm g=cgF (jew nm) g.length (jbe g):=by
 unfold cg cgF cgM;rfl
theorem joS (nm:ByteArray) (g:List (List NC)):cg nm (cpU g)=cg nm g:=by
 rw[joR,joR,jbz];exact jyc _ _ _ _ fun i hi=>jyb hi
theorem jyd (nm:ByteArray) (g:List (List NC)):jeb nm g=some false∨(jeb nm g=some true∧Fw g∧nm.size<1000):=by
 unfold jeb
 by_cases h0:((nm.size:Nat):Int)>20
 ·rw[if_pos h0];exact .inl rfl
 rw[if_neg h0]
 have loop:g.length≤26→(Option.bind (jak (y51 g) big 0) jev=some false∨(Option.bind (jak (y51 g) big 0) jev=some true∧Fw g∧nm.size<1000)):=by
  intro h26
  let P:Nat→Bool:=fun i=>decide ((((nS g i 0).size:Nat):Int)>20)||decide (((nL g i 2).length:Int)>8)||decide (((nL g i 3).length:Int)>8)||decide (((nL g i 4).length:Int)>8)||decide (((nR g i 6).length:Int)>8)
  have key:=jdu (body:=y51 g) g.length P (.inl ()) (.inr ()) (by omega) (fun i hi hp=>by
    unfold y51;simp only[Int.toNat_natCast];rw[if_pos (by omega),if_pos (by omega),if_pos hi];simp only[P,Bool.or_eq_true,decide_eq_true_eq]at hp
    repeat' split
    all_goals first|rfl|(exfalso;omega)) (fun i hi hp=>by
    unfold y51;simp only[Int.toNat_natCast];rw[if_pos (by omega),if_pos (by omega),if_pos hi];simp only[P,Bool.or_eq_false_iff,decide_eq_false_iff_not]at hp;rw[if_neg hp.1.1.1.1,if_neg hp.1.1.1.2,if_neg hp.1.1.2,if_neg hp.1.2,if_neg hp.2,jaL (by omega)]) (by
    unfold y51;simp only[Int.toNat_natCast];rw[if_neg (by omega)])
  rw[key];cases hP:(List.range g.length).any P with
  |true=>exact .inl rfl
  |false =>
   refine .inr ⟨rfl,?_,by omega⟩
   have hall:∀i,i<g.length→P i=false:=fun i hi=>by
    have:=List.any_eq_false.1 hP i (by simpa using hi);simpa using this
   have hq:∀i,i<g.length→(nS g i 0).size≤20∧(nL g i 2).length≤8∧(nL g i 3).length≤8∧(nL g i 4).length≤8∧(nR g i 6).length≤8:=fun i hi=>by
    have hp:=hall i hi;simp only[P,Bool.or_eq_false_iff,decide_eq_false_iff_not]at hp;omega
   exact⟨by omega,fun i hi=>by have:=hq i hi;omega,fun i hi=>by have:=hq i hi;omega,fun i hi=>by have:=hq i hi;omega,fun i hi=>by have:=hq i hi;omega,fun i hi=>by have:=hq i hi;omega⟩
 split
 ·split
  ·exact .inl rfl
  ·split
   ·exact .inl rfl
   ·exact loop (by omega)
 ·split
  ·exact .inl rfl
  ·exact loop (by omega)
end Go.Sh
end
