/- Part 3 of the proof of FigureSheetsCard: the executor, the mirrors of the functions, the plain facts. -/
import Derived.Test.YtcklfboglnfepaaGreatDoorPB
import Derived.Test.YtcklfboglnfepaaGreatDoorProg
import Derived.Shelf.Abstract
import Derived.WalkKit
import Derived.LoopNIn
import Derived.LoopIn
import Derived.Lib.AtoiAllCases
import Derived.Lib.ItoaNum
import Derived.Lib.Strings
import Derived.Lib.Split
import Derived.Lib.Join
import Derived.IntWalk
set_option maxRecDepth 100000
set_option linter.unusedSectionVars false
set_option linter.unusedSimpArgs false
set_option linter.unusedVariables false
section
open Go.RowKit
namespace Go.Sx
inductive Sh where
 |d
 |r (c0:Cont)
 |x (x0:XC)
 |p (l:List Sh)
 |f (g:Nat) (l:List Sh)
inductive SV where
 |c (x:Sh)
 |a (l:List Sh)
 |b (k:FloatKind) (e:Nat)
inductive Lf where
 |d (x:D)
 |n (k:FloatKind)
 |r (c:Cont)
 |x (x:XC)
 |b (k:FloatKind) (e:Nat) (r:List Nat)
def nilC:C→Bool
 | .d (.v (.slice none 0 0))=>true
 |_=>false
def jf8 (hp:Hp) (h:Nat):Option (List C):=match find hp h with
 |some (.box _ cs)=>some cs
 |some (.ebox cs)=>some cs
 |_=>none
def isP:Sh→Bool
 | .p _=>true
 |_=>false
def jd4 (f:Sh→C→Option (List Lf × List C)):List Sh→List C→Option (List Lf × List C)
 |[],[]=>some ([],[])
 |s::l,c::cs=>match f s c,jd4 f l cs with
  |some (a,x),some (b,y)=>some (a++b,x++y)
  |_,_=>none
 |_,_=>none
def toC (hp:Hp):Nat→Sh→C→Option (List Lf × List C)
 |0,_,_=>none
 |n+1,s,c =>
  match s with
  | .d=>match c with
   | .d x=>some ([.d x],[])
   | .o h=>match find hp h with
    |some (.nan k)=>some ([.n k],[c])
    |_=>none
   |_=>none
  | .r c0=>match nilC c with
   |true=>match c0.n,c0.e with
    |0,_+1=>some ([.r c0],[c])
    |_,_=>none
   |false=>match c with
    | .o h=>match(find hp h).bind O.cont with
     |some x=>match x.e with
      |0=>none
      |_+1=>some ([.r x],[c])
     |none=>none
    |_=>none
  | .x x0=>match nilC c with
   |true=>match x0.n with
    |0=>some ([.x x0],[c])
    |_=>none
   |false=>match c with
    | .o h=>match find hp h with
     |some (.xext X)=>some ([.x X],[c])
     |_=>none
    |_=>none
  | .p l=>match c with
   | .p h 0 _ 0=>match jf8 hp h with
    |some cs=>(jd4 (toC hp n) l cs).map fun(a,x)=>(a,x++[c])
    |none=>none
   | .o h=>match jf8 hp h with
    |some cs=>(jd4 (toC hp n) l cs).map fun(a,x)=>(a,x++[c])
    |none=>none
   |_=>none
  | .f g l=>match c with
   | .fn g' hs=>match Nat.beq g g',l.all isP with
    |true,true=>jd4 (toC hp n) l (hs.map C.o)
    |_,_=>none
   |_=>none
def toV (hp:Hp) (s:SV) (v:V):Option (List Lf × List C) :=
 match s,v with
 | .c s,.w (.c c)=>toC hp 8 s c
 | .a l,.w (.a cs)=>jd4 (toC hp 8) l cs
 | .b k e,.w (.b k' e' r)=>match jcd k k',Nat.beq e e' with
  |true,true=>some ([.b k e r],[])
  |_,_=>none
 | .b k e,.w (.a cs)=>match jdC k cs with
  |some r=>match Nat.beq e r.length with
   |true=>some ([.b k e r],[])
   |false=>none
  |none=>none
 |_,_=>none
def jjQ (hp:Hp):List SV→List V→Option (List Lf × List C)
 |[],[]=>some ([],[])
 |s::l,v::vs=>match toV hp s v,jjQ hp l vs with
  |some (a,x),some (b,y)=>some (a++b,x++y)
  |_,_=>none
 |_,_=>none
structure Bt where
 cs:List C
 hp:Hp
 n:Nat
 ls:List Lf
def jik (f:Sh→Nat→List Lf→Option Bt):List Sh→Nat→List Lf→Option Bt
 |[],n,ls=>some ⟨[],[],n,ls⟩
 |s::l,n,ls=>match f s n ls with
  |some a=>match jik f l a.n a.ls with
   |some b=>some ⟨a.cs++b.cs,b.hp++a.hp,b.n,b.ls⟩
   |none=>none
  |none=>none
def hOf:C→Nat
 | .p h _ _ _=>h
 | .o h=>h
 |_=>0
def jeq:Nat→Sh→Nat→List Lf→Option Bt
 |0,_,_,_=>none
 |m+1,s,n,ls =>
  match s with
  | .d=>match ls with
   | .d x::r=>some ⟨[.d x],[],n,r⟩
   | .n k::r=>some ⟨[.o n],[(n,.nan k)],n+1,r⟩
   |_=>none
  | .r _=>match ls with
   | .r c::r=>some ⟨[.o n],[(n,.ext c)],n+1,r⟩
   |_=>none
  | .x _=>match ls with
   | .x X::r=>some ⟨[.o n],[(n,.xext X)],n+1,r⟩
   |_=>none
  | .p l=>match jik (jeq m) l n ls with
   |some b=>some ⟨[.p b.n 0 1 0],(b.n,.ebox b.cs)::b.hp,b.n+1,b.ls⟩
   |none=>none
  | .f g l=>match jik (jeq m) l n ls with
   |some b=>some ⟨[.fn g (b.cs.map hOf)],b.hp,b.n,b.ls⟩
   |none=>none
structure Bv where
 vs:List V
 hp:Hp
 n:Nat
 ls:List Lf
def jgN:List C→C
 |c::_=>c
 |[]=>.d (.v undef)
def bldV (s:SV) (n:Nat) (ls:List Lf):Option Bv :=
 match s with
 | .c s=>(jeq 8 s n ls).map fun b=>⟨[.w (.c (jgN b.cs))],b.hp,b.n,b.ls⟩
 | .a l=>(jik (jeq 8) l n ls).map fun b=>⟨[.w (.a b.cs)],b.hp,b.n,b.ls⟩
 | .b _ _=>match ls with
  | .b k e r::q=>some ⟨[.w (.b k e r)],[],n,q⟩
  |_=>none
def jil:List SV→Nat→List Lf→Option Bv
 |[],n,ls=>some ⟨[],[],n,ls⟩
 |s::l,n,ls=>match bldV s n ls with
  |some a=>match jil l a.n a.ls with
   |some b=>some ⟨a.vs++b.vs,b.hp++a.hp,b.n,b.ls⟩
   |none=>none
  |none=>none
inductive RC where
 |d (x:D)
 |g (i:Nat)
 |row (ty:Nat) (c:Cont)
 |box (ty:Nat) (l:List RC)
 |rrow (c:Cont)
inductive RR where
 |c (x:RC)
 |s (l:List RC)
 |b (k:FloatKind) (e:Nat) (r:List Nat)
inductive GT where
 |leaf (ob:Prop) (rs:List RR)
 |br (b:Bool) (x y:GT)
def GT.sel:GT→Prop × List RR
 | .leaf ob rs=>(ob,rs)
 | .br b x y=>match b with
  |true=>x.sel
  |false=>y.sel
structure Rt where
 cs:List C
 hp:Hp
 n:Nat
def rvL (f:RC→Nat→Rt):List RC→Nat→Rt
 |[],n=>⟨[],[],n⟩
 |r::l,n =>
  let a:=f r n
  let b:=rvL f l a.n
  ⟨a.cs++b.cs,b.hp++a.hp,b.n⟩
def rvC (am:List C):Nat→RC→Nat→Rt
 |0,_,n=>⟨[.d (.v undef)],[],n⟩
 |m+1,r,n =>
  match r with
  | .d x=>⟨[.d x],[],n⟩
  | .g i=>⟨[am.getD i (.d (.v undef))],[],n⟩
  | .row ty c=>⟨[.o n],[(n,.row ty c)],n+1⟩
  | .rrow c=>⟨[.o n],[(n,.rrow c)],n+1⟩
  | .box ty l =>
   let b:=rvL (rvC am m) l n
   ⟨[.p b.n 0 1 0],(b.n,.box ty b.cs)::b.hp,b.n+1⟩
structure Rw where
 ws:List W
 hp:Hp
 n:Nat
def rvR (am:List C) (r:RR) (n:Nat):Rw :=
 match r with
 | .c x=>let b:=rvC am 8 x n; ⟨[.c (jgN b.cs)],b.hp,b.n⟩
 | .s l=>let b:=rvL (rvC am 8) l n; ⟨[.a b.cs],b.hp,b.n⟩
 | .b k e r=>⟨[.b k e r],[],n⟩
def jcC (am:List C):List RR→Nat→Rw
 |[],n=>⟨[],[],n⟩
 |r::l,n =>
  let a:=rvR am r n
  let b:=jcC am l a.n
  ⟨a.ws++b.ws,b.hp++a.hp,b.n⟩
def GT.toRT (am:List C) (hp:Hp) (nx:Nat):GT→RT
 | .leaf ob rs=>let b:=jcC am rs nx; .leaf ⟨ob,jcy b.ws,b.hp++hp,b.n⟩
 | .br b x y=>.br b (x.toRT am hp nx) (y.toRT am hp nx)
def jal (shs:List SV) (g:List Lf→Option GT):Spec:=fun vs hp nx =>
 match jjQ hp shs vs with
 |some (ls,am)=>match g ls with
  |some t=>some (t.toRT am hp nx)
  |none=>none
 |none=>none
def fitL (f:RC→C→List Nat→(List Nat→Prop)→Prop):List RC→List C→List Nat→(List Nat→Prop)→Prop
 |[],[],us,k=>k us
 |r::l,c::cs,us,k=>f r c us fun us=>fitL f l cs us k
 |_,_,_,_=>False
def jrG (n0:Nat) (hp:Hp):Nat→RC→C→List Nat→(List Nat→Prop)→Prop
 |0,_,_,_,_=>False
 |m+1,r,c,us,k =>
  match r,c with
  | .d x,.d y=>mD x y∧k us
  | .g i,.o h=>match Nat.beq i h,Nat.blt i n0 with
   |true,true=>k us
   |_,_=>False
  | .row ty c,.o h=>match us.contains h with
   |true=>False
   |false=>match find hp h with
    |some (.row ty' c')=>match Nat.beq ty' ty with
     |true=>jd1 c c'∧k (h::us)
     |false=>False
    |_=>False
  | .row _ c,.d (.v (.slice none 0 0))=>Ob (c.n=0)∧k us
  | .rrow c,.o h=>match us.contains h with
   |true=>False
   |false=>match find hp h with
    |some (.rrow c')=>jd1 c c'∧k (h::us)
    |_=>False
  | .rrow c,.d (.v (.slice none 0 0))=>Ob (c.n=0)∧k us
  | .box ty l,.p h 0 _ 0=>match find hp h with
   |some (.box ty' cs)=>match Nat.beq ty' ty with
    |true=>fitL (jrG n0 hp m) l cs us fun us=>match us.contains h with
     |true=>False
     |false=>k (h::us)
    |false=>False
   |_=>False
  |_,_=>False
def fitR (n0:Nat) (hp:Hp) (r:RR) (w:W) (us:List Nat) (k:List Nat→Prop):Prop :=
 match r,w with
 | .c x,.c c=>jrG n0 hp 8 x c us k
 | .s l,.a cs=>fitL (jrG n0 hp 8) l cs us k
 | .b q e r,.b q' e' r'=>match jcd q q',Nat.beq e e' with
  |true,true=>Ob (r=r')∧k us
  |_,_=>False
 |_,_=>False
def jk5 (n0:Nat) (hp:Hp):List RR→List W→List Nat→Prop
 |[],[],_=>True
 |r::l,w::ws,us=>fitR n0 hp r w us fun us=>jk5 n0 hp l ws us
 |_,_,_=>False
def jjR (n0:Nat) (rs:List RR) (v:V) (hp:Hp):Prop:=match v with
 | .w u=>jk5 n0 hp rs [u] []
 | .t [_]=>False
 | .t l=>jk5 n0 hp rs l []
section
variable [Globs] {P:Program} {sp:jab} {ρ:Env} {B:Bd} {nx:Nat} {hp:Hp} {w w':World}
theorem C.p_val {ρ:Env} {h i e j:Nat}:(C.p h i e j).val ρ=.pointer (some ⟨(base (ρ h)).block,(base (ρ h)).off+(i*e+j),none⟩):=rfl
structure BOK (ρ:Env) (w:World) (nx n:Nat) (ρ1 ρ2:Env) (rest:List Lf) (cs x:List C) (b:Bt):Prop where
 ls:b.ls=rest
 nn:b.n=n+x.length
 agree:jan n ρ1 ρ2
 val:b.cs.map (C.val ρ2)=cs.map (C.val ρ)
 lt:∀c∈b.cs,C.lt b.n c
 heap:∀h o,find b.hp h=some o→n≤h∧h<b.n∧o.lt b.n∧o.ok ρ2 (fun k=>k<w.heap.size) w h∧∀v,o.blk v=none
 own:∀i,i<x.length→ρ2 (n+i)=(x.getD i (.d (.v undef))).val ρ
 xlt:∀y∈x,C.lt nx y
 hnd:∀c∈b.cs,(∃m i e j,c=.p m i e j)→ρ2 (hOf c)=c.val ρ2∧hOf c<b.n
theorem BOK.append {n:Nat} {ρ1 ρ2 ρ3:Env} {r1 rest:List Lf} {c1 c2 x1 x2:List C} {b1 b2:Bt} (h1:BOK ρ w nx n ρ1 ρ2 r1 c1 x1 b1) (h2:BOK ρ w nx b1.n ρ2 ρ3 rest c2 x2 b2) :
  BOK ρ w nx n ρ1 ρ3 rest (c1++c2) (x1++x2) ⟨b1.cs++b2.cs,b2.hp++b1.hp,b2.n,b2.ls⟩:=by
 have hle:b1.n≤b2.n:=by rw[h2.nn]; omega
 have hn1:n≤b1.n:=by rw[h1.nn]; omega
 refine⟨h2.ls,?_,h1.agree.trans h2.agree hn1,?_,?_,?_,?_,?_,?_⟩
 ·show b2.n=_
  rw[h2.nn,h1.nn,List.length_append]; omega
 ·simp only[List.map_append,h2.val]
  congr 1
  rw[←h1.val]
  exact List.map_congr_left fun c hc=>C.val_agree h2.agree (h1.lt c hc)
 ·intro c hc
  rcases List.mem_append.1 hc with hc|hc
  ·exact C.lt_mono hle (h1.lt c hc)
  ·exact h2.lt c hc
 ·intro h o hf
  have hf:find (b2.hp++b1.hp) h=some o:=hf
  rw[jaI]at hf
  cases hg:find b2.hp h with
  |some o2 =>
   rw[hg]at hf
   cases hf
   obtain⟨a1,a2,a3,a4,a5⟩:=h2.heap h o hg
   exact⟨Nat.le_trans hn1 a1,a2,a3,a4,a5⟩
  |none =>
   rw[hg]at hf
   obtain⟨a1,a2,a3,a4,a5⟩:=h1.heap h o hf
   exact⟨a1,Nat.lt_of_lt_of_le a2 hle,O.lt_mono hle a3,O.ok_agree h2.agree a2 a3 a4,a5⟩
 ·intro i hi
  by_cases hlt:i<x1.length
  ·rw[h2.agree (n+i) (by rw[h1.nn]; omega),h1.own i hlt]
   simp[List.getD,List.getElem?_append_left hlt]
  ·have e1:n+i=b1.n+(i-x1.length):=by rw[h1.nn]; omega
   rw[e1,h2.own (i-x1.length) (by simp at hi; omega)]
   simp[List.getD,List.getElem?_append_right (Nat.le_of_not_lt hlt)]
 ·intro y hy
  rcases List.mem_append.1 hy with hy|hy
  ·exact h1.xlt y hy
  ·exact h2.xlt y hy
 ·intro c hc hp
  rcases List.mem_append.1 hc with hc|hc
  ·obtain⟨a1,a2⟩:=h1.hnd c hc hp
   exact⟨by rw[h2.agree _ a2,a1]; exact(C.val_agree h2.agree (h1.lt c hc)).symm,Nat.lt_of_lt_of_le a2 hle⟩
  ·exact h2.hnd c hc hp
theorem BOK.nil {n:Nat} {ρ1:Env} {rest:List Lf}:BOK ρ w nx n ρ1 ρ1 rest [] [] ⟨[],[],n,rest⟩ :=
 ⟨rfl,rfl,jan.refl _ _,rfl,(fun _ h=>by cases h),(fun _ _ h=>by cases h),(fun _ h=>by cases h),(fun _ h=>by cases h),fun _ h=>by cases h⟩
def ToOK (ρ:Env) (w:World) (nx:Nat) (s:Sh) (c:C) (a:List Lf) (x:List C) (g:Sh→Nat→List Lf→Option Bt):Prop :=
 ∀(n:Nat) (ρ1:Env) (rest:List Lf),∃b ρ2,g s n (a++rest)=some b∧BOK ρ w nx n ρ1 ρ2 rest [c] x b
theorem jjS {f:Sh→C→Option (List Lf × List C)} {g:Sh→Nat→List Lf→Option Bt} (hf:∀s c a x,f s c=some (a,x)→C.lt nx c→ToOK ρ w nx s c a x g) :
  ∀(l:List Sh) (cs:List C) (a:List Lf) (x:List C),jd4 f l cs=some (a,x)→(∀c∈cs,C.lt nx c)→∀(n:Nat) (ρ1:Env) (rest:List Lf),∃b ρ2,jik g l n (a++rest)=some b∧BOK ρ w nx n ρ1 ρ2 rest cs x b
 |[],[],a,x,h,_,n,ρ1,rest=>by
  simp only[jd4,Option.some.injEq,Prod.mk.injEq]at h
  obtain⟨rfl,rfl⟩:=h
  exact⟨_,ρ1,rfl,BOK.nil⟩
 |s::l,c::cs,a,x,h,hlt,n,ρ1,rest=>by
  simp only[jd4]at h
  split at h
  ·rename_i a1 x1 a2 x2 h1 h2
   cases h
   obtain⟨b1,ρ2,e1,k1⟩:=hf s c a1 x1 h1 (hlt c List.mem_cons_self) n ρ1 (a2++rest)
   obtain⟨b2,ρ3,e2,k2⟩:=jjS hf l cs a2 x2 h2 (fun c hc=>hlt c (List.mem_cons_of_mem _ hc)) b1.n ρ2 rest
   refine⟨_,ρ3,?_,k1.append k2⟩
   rw[List.append_assoc]
   simp only[jik,e1,k1.ls,e2]
  ·cases h
 |[],_::_,_,_,h,_,_,_,_=>by simp[jd4]at h
 |_::_,[],_,_,h,_,_,_,_=>by simp[jd4]at h
theorem jpJ {c:C} (h:nilC c=true):c=.d (.v (.slice none 0 0)):=by
 unfold nilC at h
 split at h
 ·rfl
 ·cases h
theorem ji3 (hh:HRel ρ B hp nx w) (hB:Old B w) {h:Nat} {cs:List C} (hc:jf8 hp h=some cs) :
  h<nx∧(∀c∈cs,C.lt nx c)∧∃k o,ρ h=.pointer (some ⟨k,o,none⟩)∧k<w.heap.size∧∀j c,cs[j]?=some c→w.cell? ⟨k,o+j,none⟩=some (c.val ρ):=by
 unfold jf8 at hc
 split at hc
 ·rename_i ty cs' hf
  cases hc
  obtain⟨h1,h2,g,h3,h4,h5⟩:=hh.ok h _ hf
  refine⟨h1,h2,g,0,h3,(Array.getElem?_eq_some_iff.1 h5).1,fun j c hj=>?_⟩
  rw[Nat.zero_add,cell_of_row w g _ _ ty (0,0) h5]
  simp[hj]
 ·rename_i cs' hf
  cases hc
  obtain⟨h1,h2,g,o,h3,h4,h5⟩:=hh.ok h _ hf
  exact⟨h1,h2,g,o,h3,hB g h4,h5⟩
 ·cases hc
theorem BOK.one {n:Nat} {ρ1:Env} {rest:List Lf} {c:C} {o:O} (hc:C.lt nx c) (hl:o.lt (n+1)) (hb:∀v,o.blk v=none) (ho:o.ok (upd ρ1 n (c.val ρ)) (fun k=>k<w.heap.size) w n) :
  BOK ρ w nx n ρ1 (upd ρ1 n (c.val ρ)) rest [c] [c] ⟨[.o n],[(n,o)],n+1,rest⟩:=by
 refine⟨rfl,rfl,jaB _ _ _,by simp[C.val],?_,?_,?_,?_,?_⟩
 ·intro c' hc'
  simp only[List.mem_singleton]at hc'
  subst hc'
  exact Nat.lt_succ_self n
 ·intro h o' hf
  simp only[find]at hf
  split at hf
  ·rename_i e
   subst e
   cases hf
   exact⟨Nat.le_refl _,Nat.lt_succ_self _,hl,ho,hb⟩
  ·cases hf
 ·intro i hi
  simp at hi
  subst hi
  simp
 ·intro y hy
  simp only[List.mem_singleton]at hy
  subst hy
  exact hc
 ·rintro c' hc' ⟨m,i,e,j,rfl⟩
  simp at hc'
theorem jvV {m:Nat}:∀(l:List Sh) (n:Nat) (ls:List Lf) (b:Bt),l.all isP=true→jik (jeq m) l n ls=some b→∀c∈b.cs,∃q i e j,c=C.p q i e j
 |[],n,ls,b,_,h=>by simp only[jik,Option.some.injEq]at h; subst h; exact fun _ h=>by cases h
 |s::l,n,ls,b,hp,h=>by
  simp only[List.all_cons,Bool.and_eq_true]at hp
  simp only[jik]at h
  split at h
  ·rename_i a ha
   split at h
   ·rename_i b2 hb2
    cases h
    intro c hc
    rcases List.mem_append.1 hc with hc|hc
    ·cases m with
     |zero=>simp[jeq]at ha
     |succ m =>
      cases s with
      |p l2 =>
       simp only[jeq]at ha
       split at ha
       ·cases ha
        simp only[List.mem_singleton]at hc
        exact⟨_,_,_,_,hc⟩
       ·cases ha
      |_=>simp[isP]at hp
    ·exact jvV l _ _ b2 hp.2 hb2 c hc
   ·cases h
  ·cases h
theorem jmd (hh:HRel ρ B hp nx w) (hB:Old B w):∀(m:Nat) (s:Sh) (c:C) (a:List Lf) (x:List C),toC hp m s c=some (a,x)→C.lt nx c→ToOK ρ w nx s c a x (jeq m)
 |0,_,_,_,_,h,_=>by simp[toC]at h
 |m+1,s,c,a,x,h,hc=>by
  intro n ρ1 rest
  have ih:=jjS (f:=toC hp m) (g:=jeq m) (fun s c a x h hc=>jmd hh hB m s c a x h hc)
  cases s with
  |d =>
   simp only[toC]at h
   split at h
   ·cases h
    refine⟨_,ρ1,rfl,rfl,rfl,jan.refl _ _,rfl,?_,(fun _ _ h=>by cases h),(fun _ h=>by cases h),(fun _ h=>by cases h),?_⟩
    ·intro c hc; simp only[List.mem_singleton]at hc; subst hc; trivial
    ·rintro c hc ⟨_,_,_,_,rfl⟩; simp at hc
   ·rename_i h0
    split at h
    ·rename_i k hf
     cases h
     have hok:=(hh.ok h0 _ hf).2.2
     exact⟨_,_,rfl,BOK.one hc trivial (fun _=>rfl) (by unfold O.ok; rw[upd_same]; exact hok)⟩
    ·cases h
   ·cases h
  |r c0 =>
   simp only[toC]at h
   split at h
   ·rename_i hn
    have hn:=jpJ hn
    subst hn
    split at h
    ·rename_i e hn0 he
     cases h
     refine⟨_,_,rfl,BOK.one (c:=.d (.v (.slice none 0 0))) hc trivial (fun _=>rfl) ?_⟩
     refine⟨⟨none,0,by rw[upd_same,hn0]; rfl,⟨by omega,fun _=>rfl⟩,fun hp=>by omega⟩,fun a' n' cap hv=>?_⟩
     rw[upd_same]at hv
     cases hv
    ·cases h
   ·split at h
    ·rename_i h0 _
     split at h
     ·rename_i x hx
      split at h
      ·cases h
      ·rename_i e he
       cases h
       cases hf:find hp h0 with
       |none=>simp[hf]at hx
       |some o =>
        simp only[hf,Option.bind_some]at hx
        have hrow:=jbo (hh.ok h0 o hf).2.2 hx
        exact⟨_,_,rfl,BOK.one hc trivial (fun _=>rfl) ⟨by rw[upd_same]; exact hrow,by rw[upd_same]; exact hrow.lt (by omega)⟩⟩
     ·cases h
    ·cases h
  |x x0 =>
   simp only[toC]at h
   split at h
   ·rename_i hn
    have hn:=jpJ hn
    subst hn
    split at h
    ·rename_i hn0
     cases h
     refine⟨_,_,rfl,BOK.one (c:=.d (.v (.slice none 0 0))) hc trivial (fun _=>rfl) ?_⟩
     exact⟨none,0,by rw[upd_same,hn0]; rfl,⟨by omega,fun _=>rfl⟩,fun hp=>by omega⟩
    ·cases h
   ·split at h
    ·rename_i h0 _
     split at h
     ·rename_i X hf
      cases h
      have hok:=(hh.ok h0 _ hf).2.2
      refine⟨_,_,rfl,BOK.one hc trivial (fun _=>rfl) ?_⟩
      unfold O.ok
      rw[upd_same]
      exact jre (fun k hk=>hB k hk) hok
     ·cases h
    ·cases h
  |p l =>
   have key:∀(h0:Nat) (cs:List C),jf8 hp h0=some cs→c.val ρ=ρ h0→(jd4 (toC hp m) l cs).map (fun(a,x)=>(a,x++[c]))=some (a,x) →
     ∃b ρ2,jeq (m+1) (.p l) n (a++rest)=some b∧BOK ρ w nx n ρ1 ρ2 rest [c] x b:=by
    intro h0 cs hbc hcv ht
    obtain⟨⟨a',x'⟩,ht',he⟩:=Option.map_eq_some_iff.1 ht
    cases he
    obtain⟨hlt0,hcl,k,o,hk,hks,hcell⟩:=ji3 hh hB hbc
    obtain⟨b,ρ2,e,q⟩:=ih l cs a x' ht' hcl n ρ1 rest
    have hag:jan b.n ρ2 (upd ρ2 b.n (c.val ρ)):=jaB _ _ _
    have hnb:n≤b.n:=by rw[q.nn]; omega
    refine⟨⟨[.p b.n 0 1 0],(b.n,.ebox b.cs)::b.hp,b.n+1,b.ls⟩,upd ρ2 b.n (c.val ρ),by simp only[jeq,e],q.ls,?_,q.agree.trans hag hnb,?_,?_,?_,?_,?_,?_⟩
    ·show b.n+1=_
     rw[q.nn]; simp; omega
    ·simp only[List.map_cons,List.map_nil,C.p_val,upd_same]
     rw[hcv,hk]
     simp[base]
    ·intro c' hc'
     simp only[List.mem_singleton]at hc'
     subst hc'
     exact Nat.lt_succ_self _
    ·intro h' o' hf
     simp only[find]at hf
     split at hf
     ·rename_i e2
      subst e2
      cases hf
      refine⟨hnb,Nat.lt_succ_self _,fun y hy=>C.lt_mono (Nat.le_succ _) (q.lt y hy),⟨k,o,by rw[upd_same,hcv]; exact hk,hks,fun j y hj=>?_⟩,fun _=>rfl⟩
      rw[C.val_agree hag (q.lt y (List.mem_of_getElem? hj))]
      have h1:(b.cs.map (C.val ρ2))[j]?=some (y.val ρ2):=by rw[List.getElem?_map,hj]; rfl
      rw[q.val,List.getElem?_map]at h1
      obtain⟨y',hy',he'⟩:=Option.map_eq_some_iff.1 h1
      rw[←he']
      exact hcell j y' hy'
     ·obtain⟨a1,a2,a3,a4,a5⟩:=q.heap h' o' hf
      exact⟨a1,Nat.lt_succ_of_lt a2,O.lt_mono (Nat.le_succ _) a3,O.ok_agree hag a2 a3 a4,a5⟩
    ·intro i hi
     by_cases hlt:i<x'.length
     ·rw[hag (n+i) (by rw[q.nn]; omega),q.own i hlt]
      simp[List.getD,List.getElem?_append_left hlt]
     ·have e3:i=x'.length:=by simp at hi; omega
      subst e3
      rw[←q.nn,upd_same]
      simp[List.getD]
    ·intro y hy
     rcases List.mem_append.1 hy with hy|hy
     ·exact q.xlt y hy
     ·simp only[List.mem_singleton]at hy
      subst hy
      exact hc
    ·intro c' hc' _
     simp only[List.mem_singleton]at hc'
     subst hc'
     refine⟨?_,Nat.lt_succ_self _⟩
     simp only[hOf,C.p_val,upd_same]
     rw[hcv,hk]
     simp[base]
   simp only[toC]at h
   split at h
   ·rename_i h0 e0
    split at h
    ·rename_i cs hbc
     refine key h0 cs hbc ?_ h
     obtain⟨_,_,k,o,hk,_⟩:=ji3 hh hB hbc
     simp[C.val,hk,base]
    ·cases h
   ·rename_i h0
    split at h
    ·rename_i cs hbc
     exact key h0 cs hbc rfl h
    ·cases h
   ·cases h
  |f g l =>
   simp only[toC]at h
   split at h
   ·rename_i g' hs
    split at h
    ·rename_i hg hip
     have hg:=Nat.eq_of_beq_eq_true hg
     subst hg
     have hcl:∀y∈hs.map C.o,C.lt nx y:=fun y hy=>by
      obtain⟨z,hz,rfl⟩:=List.mem_map.1 hy
      exact hc z hz
     obtain⟨b,ρ2,e,q⟩:=ih l _ a x h hcl n ρ1 rest
     have hbp:=jvV l n (a++rest) b hip e
     refine⟨⟨[.fn g (b.cs.map hOf)],b.hp,b.n,b.ls⟩,ρ2,by simp only[jeq,e],q.ls,q.nn,q.agree,?_,?_,q.heap,q.own,q.xlt,?_⟩
     ·simp only[List.map_cons,List.map_nil,C.val]
      have:(b.cs.map hOf).map ρ2=hs.map ρ:=by
       have h1:=q.val
       rw[List.map_map]at h1 ⊢
       have h2:b.cs.map (ρ2 ∘ hOf)=b.cs.map (C.val ρ2):=List.map_congr_left fun y hy=>(q.hnd y hy (hbp y hy)).1
       rw[h2,h1]
       exact List.map_congr_left fun y hy=>rfl
      rw[this]
     ·intro y hy
      simp only[List.mem_singleton]at hy
      subst hy
      intro z hz
      obtain⟨y,hy,rfl⟩:=List.mem_map.1 hz
      exact(q.hnd y hy (hbp y hy)).2
     ·rintro y hy ⟨_,_,_,_,rfl⟩
      simp at hy
    ·cases h
   ·cases h
structure BVOK (ρ:Env) (w:World) (nx n:Nat) (ρ1 ρ2:Env) (rest:List Lf) (vs:List V) (x:List C) (b:Bv):Prop where
 ls:b.ls=rest
 nn:b.n=n+x.length
 agree:jan n ρ1 ρ2
 val:b.vs.map (V.val ρ2)=vs.map (V.val ρ)
 lt:∀c∈b.vs,V.lt b.n c
 heap:∀h o,find b.hp h=some o→n≤h∧h<b.n∧o.lt b.n∧o.ok ρ2 (fun k=>k<w.heap.size) w h∧∀v,o.blk v=none
 own:∀i,i<x.length→ρ2 (n+i)=(x.getD i (.d (.v undef))).val ρ
 xlt:∀y∈x,C.lt nx y
theorem BVOK.append {n:Nat} {ρ1 ρ2 ρ3:Env} {r1 rest:List Lf} {c1 c2:List V} {x1 x2:List C} {b1 b2:Bv} (h1:BVOK ρ w nx n ρ1 ρ2 r1 c1 x1 b1) (h2:BVOK ρ w nx b1.n ρ2 ρ3 rest c2 x2 b2) :
  BVOK ρ w nx n ρ1 ρ3 rest (c1++c2) (x1++x2) ⟨b1.vs++b2.vs,b2.hp++b1.hp,b2.n,b2.ls⟩:=by
 have hle:b1.n≤b2.n:=by rw[h2.nn]; omega
 have hn1:n≤b1.n:=by rw[h1.nn]; omega
 refine⟨h2.ls,?_,h1.agree.trans h2.agree hn1,?_,?_,?_,?_,?_⟩
 ·show b2.n=_
  rw[h2.nn,h1.nn,List.length_append]; omega
 ·simp only[List.map_append,h2.val]
  congr 1
  rw[←h1.val]
  exact List.map_congr_left fun c hc=>V.val_agree h2.agree (h1.lt c hc)
 ·intro c hc
  rcases List.mem_append.1 hc with hc|hc
  ·exact V.lt_mono hle (h1.lt c hc)
  ·exact h2.lt c hc
 ·intro h o hf
  have hf:find (b2.hp++b1.hp) h=some o:=hf
  rw[jaI]at hf
  cases hg:find b2.hp h with
  |some o2 =>
   rw[hg]at hf
   cases hf
   obtain⟨a1,a2,a3,a4,a5⟩:=h2.heap h o hg
   exact⟨Nat.le_trans hn1 a1,a2,a3,a4,a5⟩
  |none =>
   rw[hg]at hf
   obtain⟨a1,a2,a3,a4,a5⟩:=h1.heap h o hf
   exact⟨a1,Nat.lt_of_lt_of_le a2 hle,O.lt_mono hle a3,O.ok_agree h2.agree a2 a3 a4,a5⟩
 ·intro i hi
  by_cases hlt:i<x1.length
  ·rw[h2.agree (n+i) (by rw[h1.nn]; omega),h1.own i hlt]
   simp[List.getD,List.getElem?_append_left hlt]
  ·have e1:n+i=b1.n+(i-x1.length):=by rw[h1.nn]; omega
   rw[e1,h2.own (i-x1.length) (by simp at hi; omega)]
   simp[List.getD,List.getElem?_append_right (Nat.le_of_not_lt hlt)]
 ·intro y hy
  rcases List.mem_append.1 hy with hy|hy
  ·exact h1.xlt y hy
  ·exact h2.xlt y hy
theorem jxg (hh:HRel ρ B hp nx w) (hB:Old B w) {s:SV} {v:V} {a:List Lf} {x:List C} (h:toV hp s v=some (a,x)) (hv:V.lt nx v) (n:Nat) (ρ1:Env) (rest:List Lf) :
  ∃b ρ2,bldV s n (a++rest)=some b∧BVOK ρ w nx n ρ1 ρ2 rest [v] x b:=by
 unfold toV at h
 split at h
 ·rename_i s c
  obtain⟨b,ρ2,e,q⟩:=jmd hh hB 8 s c a x h hv n ρ1 rest
  have hlen:b.cs.length=1:=by have:=congrArg List.length q.val; simpa using this
  obtain⟨c',hc'⟩:∃c',b.cs=[c']:=by
   match hb:b.cs,hlen with
   |[c'],_=>exact⟨c',rfl⟩
  have hval:=q.val
  have hlt:=q.lt
  rw[hc']at hval hlt
  refine⟨⟨[.w (.c (jgN b.cs))],b.hp,b.n,b.ls⟩,ρ2,by simp only[bldV,e,Option.map_some],q.ls,q.nn,q.agree,?_,?_,q.heap,q.own,q.xlt⟩
  ·simp only[hc',jgN,List.map_cons,List.map_nil,V.val,W.val]
   simpa using hval
  ·intro y hy
   simp only[List.mem_singleton]at hy
   subst hy
   rw[hc']
   exact hlt c' List.mem_cons_self
 ·rename_i l cs
  obtain⟨b,ρ2,e,q⟩:=jjS (f:=toC hp 8) (g:=jeq 8) (fun s c a x h hc=>jmd hh hB 8 s c a x h hc) l cs a x h hv n ρ1 rest
  refine⟨⟨[.w (.a b.cs)],b.hp,b.n,b.ls⟩,ρ2,by simp only[bldV,e,Option.map_some],q.ls,q.nn,q.agree,?_,?_,q.heap,q.own,q.xlt⟩
  ·simp only[List.map_cons,List.map_nil,V.val,W.val,q.val]
  ·intro y hy
   simp only[List.mem_singleton]at hy
   subst hy
   exact q.lt
 ·rename_i k e k' e' r
  split at h
  ·rename_i hk he
   have hk:=jby hk
   have he:=Nat.eq_of_beq_eq_true he
   subst hk
   subst he
   cases h
   refine⟨_,ρ1,rfl,rfl,rfl,jan.refl _ _,rfl,?_,(fun _ _ h=>by cases h),(fun _ h=>by cases h),fun _ h=>by cases h⟩
   intro y hy
   simp only[List.mem_singleton]at hy
   subst hy
   trivial
  ·cases h
 ·rename_i k e cs
  split at h
  ·rename_i r hr
   split at h
   ·rename_i he
    have he:=Nat.eq_of_beq_eq_true he
    subst he
    cases h
    refine⟨_,ρ1,rfl,rfl,rfl,jan.refl _ _,?_,?_,(fun _ _ h=>by cases h),(fun _ h=>by cases h),fun _ h=>by cases h⟩
    ·simp only[List.map_cons,List.map_nil,V.val,W.val,jtK,jjD hr]
    ·intro y hy
     simp only[List.mem_singleton]at hy
     subst hy
     trivial
   ·cases h
  ·cases h
 ·cases h
theorem jjT (hh:HRel ρ B hp nx w) (hB:Old B w):∀(l:List SV) (vs:List V) (a:List Lf) (x:List C),jjQ hp l vs=some (a,x)→(∀v∈vs,V.lt nx v)→∀(n:Nat) (ρ1:Env) (rest:List Lf),
  ∃b ρ2,jil l n (a++rest)=some b∧BVOK ρ w nx n ρ1 ρ2 rest vs x b
 |[],[],a,x,h,_,n,ρ1,rest=>by
  simp only[jjQ,Option.some.injEq,Prod.mk.injEq]at h
  obtain⟨rfl,rfl⟩:=h
  exact⟨_,ρ1,rfl,rfl,rfl,jan.refl _ _,rfl,(fun _ h=>by cases h),(fun _ _ h=>by cases h),(fun _ h=>by cases h),fun _ h=>by cases h⟩
 |s::l,v::vs,a,x,h,hlt,n,ρ1,rest=>by
  simp only[jjQ]at h
  split at h
  ·rename_i a1 x1 a2 x2 h1 h2
   cases h
   obtain⟨b1,ρ2,e1,k1⟩:=jxg hh hB h1 (hlt v List.mem_cons_self) n ρ1 (a2++rest)
   obtain⟨b2,ρ3,e2,k2⟩:=jjT hh hB l vs a2 x2 h2 (fun c hc=>hlt c (List.mem_cons_of_mem _ hc)) b1.n ρ2 rest
   refine⟨_,ρ3,?_,k1.append k2⟩
   rw[List.append_assoc]
   simp only[jil,e1,k1.ls,e2]
  ·cases h
 |[],_::_,_,_,h,_,_,_,_=>by simp[jjQ]at h
 |_::_,[],_,_,h,_,_,_,_=>by simp[jjQ]at h
theorem jjU {k h:Nat} {o:O} {hp:Hp}:find ((k,o)::hp) h=if k=h then some o else find hp h:=rfl
structure CIn (ρ ρ':Env) (B:Bd) (hp hp':Hp) (n m n0:Nat) (am:List C) (w':World) (us:List Nat):Prop where
 heap:HRel ρ B hp n w'
 ap:∀k o b,find hp k=some o→o.blk (ρ k)=some b→b<m∨∃u∈us,∃ou,find hp' u=some ou∧ou.blk (ρ' u)=some b
 am:∀i,i<n0→C.lt n (am.getD i (.d (.v undef)))∧(am.getD i (.d (.v undef))).val ρ=ρ' i
structure COut (ρ ρ2 ρ':Env) (B:Bd) (hp hp':Hp) (n m:Nat) (w':World) (us us2:List Nat) (vals:List Value) (r:Rt):Prop where
 agree:jan n ρ ρ2
 heap:HRel ρ2 B (r.hp++hp) r.n w'
 le:n≤r.n
 val:r.cs.map (C.val ρ2)=vals
 lt:∀c∈r.cs,C.lt r.n c
 ap:∀k o b,find (r.hp++hp) k=some o→o.blk (ρ2 k)=some b→b<m∨∃u∈us2,∃ou,find hp' u=some ou∧ou.blk (ρ' u)=some b
 fresh:∀h o b,find r.hp h=some o→o.blk (ρ2 h)=some b→m≤b
 keys:∀h o,find r.hp h=some o→n≤h
 sub:∀u∈us,u∈us2
variable {ρ':Env} {hp':Hp} {m n0:Nat} {am:List C}
theorem CIn.next {ρ2:Env} {n:Nat} {us us2:List Nat} {vals:List Value} {r:Rt} (h:CIn ρ ρ' B hp hp' n m n0 am w' us) (k:COut ρ ρ2 ρ' B hp hp' n m w' us us2 vals r):CIn ρ2 ρ' B (r.hp++hp) hp' r.n m n0 am w' us2 :=
 ⟨k.heap,k.ap,fun i hi=>⟨C.lt_mono k.le (h.am i hi).1,by rw[C.val_agree k.agree (h.am i hi).1]; exact(h.am i hi).2⟩⟩
theorem COut.append {ρ2 ρ3:Env} {n:Nat} {us us2 us3:List Nat} {v1 v2:List Value} {r1 r2:Rt} (h:COut ρ ρ2 ρ' B hp hp' n m w' us us2 v1 r1) (k:COut ρ2 ρ3 ρ' B (r1.hp++hp) hp' r1.n m w' us2 us3 v2 r2) :
  COut ρ ρ3 ρ' B hp hp' n m w' us us3 (v1++v2) ⟨r1.cs++r2.cs,r2.hp++r1.hp,r2.n⟩:=by
 refine⟨h.agree.trans k.agree h.le,by rw[List.append_assoc]; exact k.heap,Nat.le_trans h.le k.le,?_,?_,?_,?_,?_,fun u hu=>k.sub u (h.sub u hu)⟩
 ·simp only[List.map_append,k.val]
  congr 1
  rw[←h.val]
  exact List.map_congr_left fun c hc=>C.val_agree k.agree (h.lt c hc)
 ·intro c hc
  rcases List.mem_append.1 hc with hc|hc
  ·exact C.lt_mono k.le (h.lt c hc)
  ·exact k.lt c hc
 ·intro q o b hf hb
  have hf:find (r2.hp++r1.hp++hp) q=some o:=hf
  rw[List.append_assoc]at hf
  exact k.ap q o b hf hb
 ·intro q o b hf hb
  have hf:find (r2.hp++r1.hp) q=some o:=hf
  rw[jaI]at hf
  cases hg:find r2.hp q with
  |some o2=>rw[hg]at hf; cases hf; exact k.fresh q o b hg hb
  |none =>
   rw[hg]at hf
   have hf:find r1.hp q=some o:=hf
   have hq:q<r1.n:=by
    have:find (r1.hp++hp) q=some o:=by rw[jaI,hf]; rfl
    exact(h.heap.ok q o this).1
   rw[k.agree q hq]at hb
   exact h.fresh q o b hf hb
 ·intro q o hf
  have hf:find (r2.hp++r1.hp) q=some o:=hf
  rw[jaI]at hf
  cases hg:find r2.hp q with
  |some o2=>rw[hg]at hf; cases hf; exact Nat.le_trans h.le (k.keys q o hg)
  |none=>rw[hg]at hf; exact h.keys q o hf
theorem COut.data {n:Nat} {us:List Nat} {c:C} {v:Value} (h:CIn ρ ρ' B hp hp' n m n0 am w' us) (hc:C.lt n c) (hv:c.val ρ=v):COut ρ ρ ρ' B hp hp' n m w' us us [v] ⟨[c],[],n⟩:=by
 refine⟨jan.refl _ _,h.heap,Nat.le_refl _,by simp[hv],?_,h.ap,(fun _ _ _ h=>by cases h),(fun _ _ h=>by cases h),fun u hu=>hu⟩
 intro y hy
 simp only[List.mem_singleton]at hy
 subst hy
 exact hc
theorem COut.obj {n q:Nat} {us:List Nat} {o oq:O} {c:C} {v:Value} (hB:∀k,B k→k<m) (hh':HRel ρ' (fun k=>k<m) hp' nx w') (h:CIn ρ ρ' B hp hp' n m n0 am w' us)
  (hq:find hp' q=some oq) (hus:us.contains q=false) (hl:o.lt (n+1)) (ho:(∀k,o.blk (ρ' q)=some k→¬B k)→o.ok (upd ρ n (ρ' q)) B w' n) (hb:∀k,o.blk (ρ' q)=some k→oq.blk (ρ' q)=some k)
  (hc:C.lt (n+1) c) (hcv:c.val (upd ρ n (ρ' q))=v):COut ρ (upd ρ n (ρ' q)) ρ' B hp hp' n m w' us (q::us) [v] ⟨[c],[(n,o)],n+1⟩:=by
 have hge:∀k,o.blk (ρ' q)=some k→m≤k:=fun k hk=>by
  have:=(O.blk_lt (hh'.ok q oq hq).2.2 (hb k hk)).2
  omega
 have hnB:∀k,o.blk (ρ' q)=some k→¬B k:=fun k hk hBk=>by
  have:=hge k hk
  have:=hB k hBk
  omega
 refine⟨jaB _ _ _,?_,Nat.le_succ n,by simp[hcv],?_,?_,?_,?_,fun u hu=>List.mem_cons_of_mem _ hu⟩
 ·refine h.heap.add1 hl (ho hnB) fun k o' b hk hbk he=>?_
  rcases h.ap k o' b hk hbk with hlt|⟨u,hu,ou,hou,hbu⟩
  ·have:=hge b he
   omega
  ·have hne:u≠q:=fun e=>by
    subst e
    have:us.contains u=true:=by simpa using hu
    rw[this]at hus
    cases hus
   exact hh'.apart u ou q oq b hou hq hne hbu (hb b he)
 ·intro y hy
  simp only[List.mem_singleton]at hy
  subst hy
  exact hc
 ·intro k o' b hf hbk
  have hf2:find ((n,o)::hp) k=some o':=hf
  clear hf
  have hf:=hf2
  clear hf2
  rw[jjU]at hf
  split at hf
  ·rename_i e
   subst e
   cases hf
   rw[upd_same]at hbk
   exact .inr ⟨q,List.mem_cons_self,oq,hq,hb b hbk⟩
  ·have hk:=(h.heap.ok k o' hf).1
   rw[jaB ρ n (ρ' q) k hk]at hbk
   rcases h.ap k o' b hf hbk with hlt|⟨u,hu,ou,hou,hbu⟩
   ·exact .inl hlt
   ·exact .inr ⟨u,List.mem_cons_of_mem _ hu,ou,hou,hbu⟩
 ·intro k o' b hf hbk
  simp only[find]at hf
  split at hf
  ·rename_i e
   subst e
   cases hf
   rw[upd_same]at hbk
   exact hge b hbk
  ·cases hf
 ·intro k o' hf
  simp only[find]at hf
  split at hf
  ·rename_i e; omega
  ·cases hf
def jza (ρ':Env) (B:Bd) (hp':Hp) (m n0:Nat) (am:List C) (w':World) (f:RC→C→List Nat→(List Nat→Prop)→Prop) (g:RC→Nat→Rt):Prop :=
 ∀(r:RC) (c:C) (us:List Nat) (k:List Nat→Prop),f r c us k→∀(n:Nat) (hp:Hp) (ρ:Env),CIn ρ ρ' B hp hp' n m n0 am w' us →
  ∃us2 ρ2,k us2∧COut ρ ρ2 ρ' B hp hp' n m w' us us2 [c.val ρ'] (g r n)
theorem jjV {f:RC→C→List Nat→(List Nat→Prop)→Prop} {g:RC→Nat→Rt} (hf:jza ρ' B hp' m n0 am w' f g):∀(l:List RC) (cs:List C) (us:List Nat) (k:List Nat→Prop),fitL f l cs us k→∀(n:Nat) (hp:Hp) (ρ:Env),CIn ρ ρ' B hp hp' n m n0 am w' us →
  ∃us2 ρ2,k us2∧COut ρ ρ2 ρ' B hp hp' n m w' us us2 (cs.map (C.val ρ')) (rvL g l n)
 |[],[],us,k,h,n,hp,ρ,hin=>⟨us,ρ,h,jan.refl _ _,hin.heap,Nat.le_refl _,rfl,(fun _ h=>by cases h),hin.ap,(fun _ _ _ h=>by cases h),(fun _ _ h=>by cases h),fun u hu=>hu⟩
 |r::l,c::cs,us,k,h,n,hp,ρ,hin=>by
  obtain⟨us2,ρ2,h2,k2⟩:=hf r c us _ h n hp ρ hin
  obtain⟨us3,ρ3,h3,k3⟩:=jjV hf l cs us2 k h2 (g r n).n _ ρ2 (hin.next k2)
  exact⟨us3,ρ3,h3,k2.append k3⟩
 |[],_::_,_,_,h,_,_,_,_=>h.elim
 |_::_,[],_,_,h,_,_,_,_=>h.elim
theorem jjW (hB:∀k,B k→k<m) (hh':HRel ρ' (fun k=>k<m) hp' nx w'):∀(q:Nat),jza ρ' B hp' m n0 am w' (jrG n0 hp' q) (rvC am q)
 |0=>fun _ _ _ _ h=>h.elim
 |q+1=>by
  intro r c us k h n hp ρ hin
  unfold jrG at h
  split at h
  ·rename_i x y
   have e:=jk3 h.1
   subst e
   exact⟨us,ρ,h.2,COut.data hin trivial rfl⟩
  ·rename_i i h0
   split at h
   ·rename_i e1 e2
    have e1:=Nat.eq_of_beq_eq_true e1
    subst e1
    have hi:i<n0:=by simpa [Nat.blt_eq]using e2
    exact⟨us,ρ,h,COut.data hin (hin.am i hi).1 (hin.am i hi).2⟩
   ·exact h.elim
  ·rename_i ty c0 h0
   split at h
   ·exact h.elim
   ·rename_i hus
    split at h
    ·rename_i ty' c' hf
     split at h
     ·rename_i hty
      have hty:=Nat.eq_of_beq_eq_true hty
      subst hty
      have hc:=jcH h.1
      subst hc
      refine⟨_,_,h.2,COut.obj (q:=h0) (o:=.row ty' c0) hB hh' hin hf hus trivial (fun hnB=>?_) (fun k hk=>hk) (show C.lt (n+1) (.o n)from Nat.lt_succ_self n) (by simp[C.val])⟩
      have hok:=(hh'.ok h0 _ hf).2.2
      exact⟨by rw[upd_same]; exact hok.1,fun k hk=>by rw[upd_same]at hk; exact hnB k hk⟩
     ·exact h.elim
    ·exact h.elim
  ·rename_i ty c0
   obtain⟨⟨hn0⟩,hk⟩:=h
   refine⟨us,upd ρ n (.slice none 0 0),hk,?_⟩
   refine⟨jaB _ _ _,?_,Nat.le_succ n,by simp[C.val,D.val,rvC],?_,?_,?_,?_,fun u hu=>hu⟩
   ·refine hin.heap.add1 (o:=.row ty c0) trivial ?_ (fun _ _ _ _ _ he=>by simp[O.blk,Value.ownBlock]at he)
    refine⟨⟨by simp[Cont.flat_length,hn0],.inl ⟨by rw[upd_same],hn0⟩⟩,fun k hk=>by rw[upd_same]at hk; simp[Value.ownBlock]at hk⟩
   ·intro y hy
    simp only[rvC,List.mem_singleton]at hy
    subst hy
    exact Nat.lt_succ_self n
   ·intro k' o' b hf hbk
    have hf2:find ((n,O.row ty c0)::hp) k'=some o':=hf
    clear hf
    have hf:=hf2
    clear hf2
    rw[jjU]at hf
    split at hf
    ·rename_i e
     subst e
     cases hf
     rw[upd_same]at hbk
     simp[O.blk,Value.ownBlock]at hbk
    ·have hk':=(hin.heap.ok k' o' hf).1
     rw[jaB ρ n _ k' hk']at hbk
     exact hin.ap k' o' b hf hbk
   ·intro k' o' b hf hbk
    simp only[rvC,find]at hf
    split at hf
    ·rename_i e
     subst e
     cases hf
     rw[upd_same]at hbk
     simp[O.blk,Value.ownBlock]at hbk
    ·cases hf
   ·intro k' o' hf
    simp only[rvC,find]at hf
    split at hf
    ·omega
    ·cases hf
  ·rename_i c0 h0
   split at h
   ·exact h.elim
   ·rename_i hus
    split at h
    ·rename_i c' hf
     have hc:=jcH h.1
     subst hc
     refine⟨_,_,h.2,COut.obj (q:=h0) (o:=.rrow c0) hB hh' hin hf hus trivial (fun hnB=>?_) (fun k hk=>hk) (show C.lt (n+1) (.o n)from Nat.lt_succ_self n) (by simp[C.val])⟩
     have hok:=(hh'.ok h0 _ hf).2.2
     exact⟨by rw[upd_same]; exact hok.1,fun k hk=>by rw[upd_same]at hk; exact⟨hnB k hk,(hok.2 k hk).2⟩⟩
    ·exact h.elim
  ·rename_i c0
   obtain⟨⟨hn0⟩,hk⟩:=h
   refine⟨us,upd ρ n (.slice none 0 0),hk,?_⟩
   refine⟨jaB _ _ _,?_,Nat.le_succ n,by simp[C.val,D.val,rvC],?_,?_,?_,?_,fun u hu=>hu⟩
   ·refine hin.heap.add1 (o:=.rrow c0) trivial ?_ (fun _ _ _ _ _ he=>by simp[O.blk,Value.ownBlock]at he)
    refine⟨⟨none,0,by rw[upd_same,hn0],⟨by omega,fun _=>rfl⟩,fun h=>by omega⟩,fun k hk=>by rw[upd_same]at hk; simp[Value.ownBlock]at hk⟩
   ·intro y hy
    simp only[rvC,List.mem_singleton]at hy
    subst hy
    exact Nat.lt_succ_self n
   ·intro k' o' b hf hbk
    have hf2:find ((n,O.rrow c0)::hp) k'=some o':=hf
    clear hf
    have hf:=hf2
    clear hf2
    rw[jjU]at hf
    split at hf
    ·rename_i e
     subst e
     cases hf
     rw[upd_same]at hbk
     simp[O.blk,Value.ownBlock]at hbk
    ·have hk':=(hin.heap.ok k' o' hf).1
     rw[jaB ρ n _ k' hk']at hbk
     exact hin.ap k' o' b hf hbk
   ·intro k' o' b hf hbk
    simp only[rvC,find]at hf
    split at hf
    ·rename_i e
     subst e
     cases hf
     rw[upd_same]at hbk
     simp[O.blk,Value.ownBlock]at hbk
    ·cases hf
   ·intro k' o' hf
    simp only[rvC,find]at hf
    split at hf
    ·omega
    ·cases hf
  ·rename_i ty l h0 e0
   split at h
   ·rename_i ty' cs hf
    split at h
    ·rename_i hty
     have hty:=Nat.eq_of_beq_eq_true hty
     subst hty
     obtain⟨us2,ρ2,h2,k2⟩:=jjV (jjW hB hh' q) l cs us _ h n hp ρ hin
     have hin2:=hin.next k2
     split at h2
     ·exact h2.elim
     ·rename_i hus
      have hok:=(hh'.ok h0 _ hf).2.2
      obtain⟨g,h3,h4,h5⟩:=hok
      have hobj:=COut.obj (q:=h0) (o:=.box ty' (rvL (rvC am q) l n).cs) (c:=.p (rvL (rvC am q) l n).n 0 1 0) (v:=ρ' h0) hB hh' hin2 hf hus (fun y hy=>C.lt_mono (Nat.le_succ _) (k2.lt y hy)) (fun hnB=>?_) (fun k hk=>hk)
       (show C.lt ((rvL (rvC am q) l n).n+1) (.p (rvL (rvC am q) l n).n 0 1 0)from Nat.lt_succ_self _) (by simp[C.val,h3,base])
      ·refine⟨h0::us2,upd ρ2 (rvL (rvC am q) l n).n (ρ' h0),h2,?_⟩
       have hap:=k2.append hobj
       refine⟨hap.agree,hap.heap,hap.le,?_,?_,hap.ap,hap.fresh,hap.keys,hap.sub⟩
       ·have hv:=hobj.val
        simp only[List.map_cons,List.map_nil]at hv
        simp only[rvC,List.map_cons,List.map_nil]
        rw[hv]
        simp[C.val,h3,base]
       ·intro y hy
        simp only[rvC,List.mem_singleton]at hy
        subst hy
        exact Nat.lt_succ_self _
      ·refine⟨g,by rw[upd_same]; exact h3,?_,?_⟩
       ·exact hnB g (by simp[O.blk,h3,base])
       ·rw[h5]
        congr 3
        have hv:=k2.val
        rw[←hv]
        exact List.map_congr_left fun y hy=>(C.val_agree (jaB ρ2 _ _) (k2.lt y hy)).symm
    ·exact h.elim
   ·exact h.elim
  ·exact h.elim
structure WOut (ρ ρ2 ρ':Env) (B:Bd) (hp hp':Hp) (n m:Nat) (w':World) (us us2:List Nat) (vals:List Value) (r:Rw):Prop where
 agree:jan n ρ ρ2
 heap:HRel ρ2 B (r.hp++hp) r.n w'
 le:n≤r.n
 val:r.ws.map (W.val ρ2)=vals
 lt:∀c∈r.ws,W.lt r.n c
 ap:∀k o b,find (r.hp++hp) k=some o→o.blk (ρ2 k)=some b→b<m∨∃u∈us2,∃ou,find hp' u=some ou∧ou.blk (ρ' u)=some b
 fresh:∀h o b,find r.hp h=some o→o.blk (ρ2 h)=some b→m≤b
 keys:∀h o,find r.hp h=some o→n≤h
theorem jvW (hB:∀k,B k→k<m) (hh':HRel ρ' (fun k=>k<m) hp' nx w') {r:RR} {x:W} {us:List Nat} {k:List Nat→Prop} (h:fitR n0 hp' r x us k) {n:Nat} {hp:Hp} {ρ:Env} (hin:CIn ρ ρ' B hp hp' n m n0 am w' us) :
  ∃us2 ρ2,k us2∧WOut ρ ρ2 ρ' B hp hp' n m w' us us2 [x.val ρ'] (rvR am r n):=by
 unfold fitR at h
 split at h
 ·rename_i rc c
  obtain⟨us2,ρ2,h2,k2⟩:=jjW hB hh' 8 rc c us k h n hp ρ hin
  have hlen:(rvC am 8 rc n).cs.length=1:=by have:=congrArg List.length k2.val; simpa using this
  obtain⟨c',hc'⟩:∃c',(rvC am 8 rc n).cs=[c']:=by
   match hb:(rvC am 8 rc n).cs,hlen with
   |[c'],_=>exact⟨c',rfl⟩
  have hval:=k2.val
  have hlt:=k2.lt
  rw[hc']at hval hlt
  refine⟨us2,ρ2,h2,k2.agree,k2.heap,k2.le,?_,?_,k2.ap,k2.fresh,k2.keys⟩
  ·simp only[rvR,hc',jgN,List.map_cons,List.map_nil,W.val]
   simpa using hval
  ·intro y hy
   simp only[rvR,List.mem_singleton]at hy
   subst hy
   rw[hc']
   exact hlt c' List.mem_cons_self
 ·rename_i l cs
  obtain⟨us2,ρ2,h2,k2⟩:=jjV (jjW hB hh' 8) l cs us k h n hp ρ hin
  refine⟨us2,ρ2,h2,k2.agree,k2.heap,k2.le,?_,?_,k2.ap,k2.fresh,k2.keys⟩
  ·simp only[rvR,List.map_cons,List.map_nil,W.val,k2.val]
  ·intro y hy
   simp only[rvR,List.mem_singleton]at hy
   subst hy
   exact k2.lt
 ·rename_i q e r' q' e' r''
  split at h
  ·rename_i hk he
   have hk:=jby hk
   have he:=Nat.eq_of_beq_eq_true he
   subst hk
   subst he
   obtain⟨⟨rfl⟩,hk⟩:=h
   refine⟨us,ρ,hk,jan.refl _ _,hin.heap,Nat.le_refl _,rfl,?_,hin.ap,(fun _ _ _ h=>by cases h),fun _ _ h=>by cases h⟩
   intro y hy
   simp only[rvR,List.mem_singleton]at hy
   subst hy
   trivial
  ·exact h.elim
 ·exact h.elim
theorem jim (hB:∀k,B k→k<m) (hh':HRel ρ' (fun k=>k<m) hp' nx w'):∀(l:List RR) (ws:List W) (us:List Nat),jk5 n0 hp' l ws us→∀(n:Nat) (hp:Hp) (ρ:Env),CIn ρ ρ' B hp hp' n m n0 am w' us →
  ∃us2 ρ2,WOut ρ ρ2 ρ' B hp hp' n m w' us us2 (ws.map (W.val ρ')) (jcC am l n)
 |[],[],us,h,n,hp,ρ,hin=>⟨us,ρ,jan.refl _ _,hin.heap,Nat.le_refl _,rfl,(fun _ h=>by cases h),hin.ap,(fun _ _ _ h=>by cases h),fun _ _ h=>by cases h⟩
 |r::l,x::ws,us,h,n,hp,ρ,hin=>by
  obtain⟨us2,ρ2,h2,k2⟩:=jvW hB hh' h hin
  have hin2:CIn ρ2 ρ' B ((rvR am r n).hp++hp) hp' (rvR am r n).n m n0 am w' us2:=⟨k2.heap,k2.ap,fun i hi=>⟨C.lt_mono k2.le (hin.am i hi).1,by rw[C.val_agree k2.agree (hin.am i hi).1]; exact(hin.am i hi).2⟩⟩
  obtain⟨us3,ρ3,k3⟩:=jim hB hh' l ws us2 h2 (rvR am r n).n _ ρ2 hin2
  refine⟨us3,ρ3,k2.agree.trans k3.agree k2.le,by simp only[jcC]; rw[List.append_assoc]; exact k3.heap,Nat.le_trans k2.le k3.le,?_,?_,?_,?_,?_⟩
  ·simp only[jcC,List.map_append,k3.val,List.map_cons]
   have:(rvR am r n).ws.map (W.val ρ3)=[x.val ρ']:=by
    rw[←k2.val]
    exact List.map_congr_left fun c hc=>W.val_agree k3.agree (k2.lt c hc)
   rw[this]
   rfl
  ·intro c hc
   simp only[jcC]at hc
   rcases List.mem_append.1 hc with hc|hc
   ·exact W.lt_mono k3.le (k2.lt c hc)
   ·exact k3.lt c hc
  ·intro q o b hf hb
   simp only[jcC]at hf
   rw[List.append_assoc]at hf
   exact k3.ap q o b hf hb
  ·intro q o b hf hb
   simp only[jcC]at hf
   rw[jaI]at hf
   cases hg:find (jcC am l (rvR am r n).n).hp q with
   |some o2=>rw[hg]at hf; cases hf; exact k3.fresh q o b hg hb
   |none =>
    rw[hg]at hf
    have hf:find (rvR am r n).hp q=some o:=hf
    have hq:q<(rvR am r n).n:=by
     have:find ((rvR am r n).hp++hp) q=some o:=by rw[jaI,hf]; rfl
     exact(k2.heap.ok q o this).1
    rw[k3.agree q hq]at hb
    exact k2.fresh q o b hf hb
  ·intro q o hf
   simp only[jcC]at hf
   rw[jaI]at hf
   cases hg:find (jcC am l (rvR am r n).n).hp q with
   |some o2=>rw[hg]at hf; cases hf; exact Nat.le_trans k2.le (k3.keys q o hg)
   |none=>rw[hg]at hf; exact k2.keys q o hf
 |[],_::_,_,h,_,_,_,_=>h.elim
 |_::_,[],_,h,_,_,_,_=>h.elim
theorem jin {am:List C} {hp:Hp} {nx:Nat}:∀t:GT,(t.toRT am hp nx).sel=⟨t.sel.1,jcy (jcC am t.sel.2 nx).ws,(jcC am t.sel.2 nx).hp++hp,(jcC am t.sel.2 nx).n⟩
 | .leaf ob rs=>rfl
 | .br b x y=>by
  cases b
  ·exact jin y
  ·exact jin x
theorem jau {f:Nat} {fn:Func} {body:Code} {shs:List SV} {g:List Lf→Option GT} (hm:P.follows .mixedOrders=true) (hsp:jac P sp) (hf:P.funcs[f]?=some fn) (hb:fn.body=some body) (hn:(fn.name == "runtime.NumGoroutine")=false)
  (h:∀ls t,g ls=some t→t.sel.1→∀b:Bv,jil shs 0 ls=some b→b.vs.length≤fn.ntmps∧∃fuel loops,sx P sp fn.ntmps b.n fuel loops (jcl P sp fn.ntmps) body 0 [] ⟨jc5 0 b.vs,b.hp,b.n⟩ (jeo P fn.results.toList fun v hp _=>jjR b.n t.sel.2 v hp)) :
  jah P f true (jal shs g):=by
 refine .inl ⟨jdG hf hb hn,fun ρ B w args hp nx t hS hob hlt hh hB=>?_⟩
 unfold jal at hS
 split at hS
 ·rename_i ls am hto
  split at hS
  ·rename_i t' hg
   cases hS
   rw[jin]at hob ⊢
   have hob:t'.sel.1:=hob
   obtain⟨b,ρ0,hbl,q⟩:=jjT hh hB shs args ls am hto hlt 0 (fun _=>undef) []
   rw[List.append_nil]at hbl
   obtain⟨hlen,fuel,loops,hx⟩:=h ls t' hg hob b hbl
   have hbn:b.n=am.length:=by have:=q.nn; omega
   have hh0:HRel ρ0 (fun k=>k<w.heap.size) b.hp b.n w:=by
    refine⟨fun x o hf=>?_,fun x o x' o' k hf hf' _ hb=>?_,jij hh.glob hB⟩
    ·obtain⟨_,a2,a3,a4,_⟩:=q.heap x o hf
     exact⟨a2,a3,a4⟩
    ·obtain⟨_,_,_,_,a5⟩:=q.heap x o hf
     rw[a5]at hb
     cases hb
   have hcalls:=jry (n0:=b.n) (B:=fun k=>k<w.heap.size) hsp (fun ρ w=>jc6 hm hsp) hf hb hlen hx q.lt (Nat.le_refl _) ρ0 w hh0 (fun k hk=>hk)
   rw[q.val]at hcalls
   refine hcalls.mono ?_
   rintro e w' ⟨ρ',v,hp',nx',rfl,hvlt,hag,hh',hbel,_,hfit⟩
   have hbw:Below w.heap.size w w':=hbel.below
   have hh1:=hh.below hbw hB
   obtain⟨ws,hws,hfw⟩:∃ws,(jcy ws).val ρ'=v.val ρ'∧jk5 b.n hp' t'.sel.2 ws []:=by
    match v,hfit with
    | .w u,hfit=>exact⟨[u],rfl,hfit⟩
    | .t [],hfit=>exact⟨[],rfl,hfit⟩
    | .t (x::y::l),hfit=>exact⟨x::y::l,rfl,hfit⟩
   have hin:CIn ρ ρ' B hp hp' nx w.heap.size b.n am w' []:=by
    refine⟨hh1,fun k o b hk hbk=>.inl (O.blk_lt (hh.ok k o hk).2.2 hbk).1,fun i hi=>?_⟩
    have hi2:i<am.length:=by omega
    have h1:=q.own i hi2
    rw[Nat.zero_add]at h1
    refine⟨?_,by rw[hag i hi]; exact h1.symm⟩
    have:am.getD i (.d (.v undef))=am[i]:=by simp[List.getD,hi2]
    rw[this]
    exact q.xlt _ (List.getElem_mem hi2)
   obtain⟨us2,ρ2,k⟩:=jim (m:=w.heap.size) (fun k hk=>hB k hk) hh' t'.sel.2 ws [] hfw nx hp ρ hin
   refine⟨ρ2,?_,k.agree,jfQ k.lt,k.le,k.heap,jb7 hbw hB,fun _=>hbw,fun _ h o b hle hf hbk=>?_⟩
   ·show Ending.returned _=Ending.returned ((jcy (jcC am t'.sel.2 nx).ws).val ρ2)
    rw[←hws,jcI,jcI]
    simp only[k.val]
   ·have hf:find ((jcC am t'.sel.2 nx).hp++hp) h=some o:=hf
    rw[jaI]at hf
    cases hg2:find (jcC am t'.sel.2 nx).hp h with
    |some o2=>rw[hg2]at hf; cases hf; exact k.fresh h o b hg2 hbk
    |none =>
     rw[hg2]at hf
     have:=(hh.ok h o hf).1
     omega
  ·cases hS
 ·cases hS
end
end Go.Sx
end

section
namespace Go.Sx
open Go Go.RowKit
section
variable [Globs] {P:Program} {sp:jab} {B:Bd} {N n0:Nat} {ρ0:Env} {w0:World}
def EndR (ρ0:Env) (B:Bd) (n0:Nat) (w0:World) (post:V→Hp→Nat→Prop):Ending→World→Prop:=fun e w' =>
 ∃ρ' v hp' nx',e=.returned (v.val ρ')∧v.lt nx'∧jan n0 ρ0 ρ'∧HRel ρ' B hp' nx' w'∧Bel B w0 w'∧post v hp' nx'
theorem jtV {fn:Func} {post:V→Hp→Nat→Prop} {ρ:Env} {st:St} {a:Act} {w:World} (hr:Rel ρ B N n0 st a w) (hag:jan n0 ρ0 ρ) (hbl:Bel B w0 w) (h:jeo P fn.results.toList post .ret st) :
  bodyPost P fn (EndR ρ0 B n0 w0 post) .ret a w:=by
 simp only[jeo]at h
 split at h
 ·rename_i l hl
  have hra:=jfH hr _ l _ hl h
  refine⟨hr.defers,(jcy (l.map (·.2))).val ρ,?_,ρ,jcy (l.map (·.2)),st.hp,st.nx,rfl,jfQ (fun y hy=>?_),hag,hr.heap,hbl,hra.2.2⟩
  ·rw[jcI]
   simp only[jh7,Array.mapM_eq_mapM_toList,Sem.run_bind,Sem.run_map,hra.1,Result.andThen_ok,Sem.run_pure,List.map_map]
   rfl
  ·obtain⟨z,hz,rfl⟩:=List.mem_map.1 hy
   exact hra.2.1 z hz
 ·exact h.elim
theorem jz9 {L:Code} {id ti:Nat} {Q:Exit→Act→World→Prop} (hsp:jac P sp) (hdr:jhz P B N n0 ρ0 w0 (jcl P sp N)) (n:Nat) {D:Type} (st:Nat→D→St) (inv:Nat→D→Prop) (K:St→Prop) (stE:D→St) (kk:Nat→D→Ex→St→Prop)
  (hti:∀i d,jbg (st i d).tm ti=some (vi .i64 (i:Int)))
  (jcX:∀i d,i<n→inv i d→sx P sp N n0 0 (fun _ _ _=>none) (jcl P sp N) L 0 [] (st i d) (kk i d))
  (kn:∀i d st',i<n→inv i d→kk i d .normal st'→∃d',inv (i+1) d'∧Le n0 st' (st (i+1) d')) (kr:∀i d st',i<n→inv i d→kk i d .ret st'→K st') (ke:∀i d j st',¬kk i d (.exit j) st')
  (last:∀d,inv n d→sx P sp N n0 0 (fun _ _ _=>none) (jcl P sp N) L 0 [] (st n d) (fun e st'=>match e with | .exit j=>j=id∧Le n0 st' (stE d)|_=>False))
  {a:Act} {w:World} {ρ:Env} (d0:D) (h0:inv 0 d0) (hr:Rel ρ B N n0 (st 0 d0) a w) (hag:jan n0 ρ0 ρ) (hbl:Bel B w0 w)
  (hret:∀ρ' st' a' w',K st'→Rel ρ' B N n0 st' a' w'→jan n0 ρ0 ρ'→Bel B w0 w'→Q .ret a' w')
  (hexit:∀ρ' d a' w',inv n d→Rel ρ' B N n0 (stE d) a' w'→jan n0 ρ0 ρ'→Bel B w0 w'→Q .normal a' w') :
  (Code.block id (.loop L)).wp P Q a w:=by
 refine(wpIn_wide (n:=9)).1 (wpIn_block (wpIn_loop (fun a w=>∃i d ρ,i≤n∧inv i d∧Rel ρ B N n0 (st i d) a w∧jan n0 ρ0 ρ∧Bel B w0 w) (fun a _=>n-(intOf (a.tmps.getD ti undef)).toNat) ⟨0,d0,ρ,Nat.zero_le _,h0,hr,hag,hbl⟩ ?_))
 rintro a w ⟨i,d,ρ,hi,hd,hr,hag,hbl⟩
 have hmu:∀{i:Nat} {d:D} {ρ:Env} {a:Act} {w:World},Rel ρ B N n0 (st i d) a w→(intOf (a.tmps.getD ti undef)).toNat=i:=by
  intro i d ρ a w hr
  rw[(hr.tm ti _ (hti i d)).2]
  simp[intOf]
 rw[hmu hr]
 refine wpIn_wide.2 ?_
 by_cases hlt:i<n
 ·refine wp_mono (jbA hsp hdr L 0 [] _ _ ρ a w (jcX i d hlt hd) hr hag hbl) ?_
  rintro e a' w' ⟨ex,ρ',st',rfl,hk,hr',hag',hbl'⟩
  cases ex with
  |normal =>
   obtain⟨d',hd',hle⟩:=kn i d st' hlt hd hk
   obtain⟨ρ2,hr2,hag2⟩:=Le.rel hle hr'
   exact⟨⟨i+1,d',ρ2,hlt,hd',hr2,fun x hx=>(hag2 x hx).trans (hag' x hx),hbl'⟩,by rw[hmu hr2]; omega⟩
  |exit j=>exact(ke i d j st' hk).elim
  |ret=>exact hret ρ' st' a' w' (kr i d st' hlt hd hk) hr' hag' hbl'
 ·have e:i=n:=by omega
  subst e
  refine wp_mono (jbA hsp hdr L 0 [] _ _ ρ a w (last d hd) hr hag hbl) ?_
  rintro e a' w' ⟨ex,ρ',st',rfl,hk,hr',hag',hbl'⟩
  cases ex with
  |normal=>exact hk.elim
  |exit j =>
   obtain⟨rfl,hle⟩:=hk
   obtain⟨ρ2,hr2,hag2⟩:=Le.rel hle hr'
   have:=hexit ρ2 d a' w' hd hr2 (fun x hx=>(hag2 x hx).trans (hag' x hx)) hbl'
   simpa [Ex.toExit,Exit.then,Exit.inBlock]using this
  |ret=>exact hk.elim
end
end Go.Sx
end

section
open Go.RowKit
namespace Go.Sx
def juH (k:FloatKind) (u:IntKind):Spec:=fun vs hp nx=>match vs with
 |[.w (.c (.d (.f k' b)))]=>match jcd k' k with
  |true=>some (.leaf ⟨True,vi u (b:Int),hp,nx⟩)
  |false=>none
 |_=>none
theorem jzx [Globs] {P:Program} {f:Nat} {fn:Func} {k:FloatKind} {u:IntKind} {M:Bool} {g:Array Value→Sem Value} (hf:P.funcs[f]?=some fn) (hb:fn.body=none) (hn:(fn.name == "runtime.NumGoroutine")=false)
  (h1:Extern.findNext fn=none) (h2:Extern.find fn=some g) (hg:∀b,g #[.float k b]=pure (.int u b)):jah P f M (juH k u):=by
 refine .inr fun ρ B w args hp nx t hS hob hlt hh hB=>?_
 unfold juH at hS
 split at hS
 ·rename_i k' b
  split at hS
  ·rename_i hk
   have hk:=jby hk
   subst hk
   cases hS
   refine⟨_,_,rfl,trivial,?_⟩
   have e1:(List.map (V.val ρ) [V.w (.c (.d (.f k' b)))]).toArray=#[.float k' b]:=rfl
   rw[e1]
   unfold callFunc
   simp only[Sem.run_bind,run_program,Result.andThen_ok,hf,hn,Bool.false_eq_true,if_false,hb,Option.isNone_none,if_true,run_mark,h1,h2,hg]
   rfl
  ·cases hS
 ·cases hS
end Go.Sx
end

section
namespace Go.Sx
def jae {X Y:Type} (body:X→Option (X ⊕ Y)):Nat→X→Option Y
 |0,_=>none
 |n+1,x=>match body x with
  |none=>none
  |some (.inl x')=>jae body n x'
  |some (.inr y)=>some y
def big:Nat:=18446744073709551616
def juI {X Y R:Type} (body:X→Option (X ⊕ Y)) (n:Nat) (K:Y→Option R):X ⊕ Y→Option R
 | .inl x=>(jae body n x).bind K
 | .inr y=>K y
def ok {α:Type} (o:Option α):Prop:=o.isSome=true
instance {α : Type} (o : Option α) : Decidable (ok o) := inferInstanceAs (Decidable (o.isSome = true))
def val {α:Type} [Inhabited α] (o:Option α):α:=o.getD default
theorem jaj {α:Type} [Inhabited α] {o:Option α} (h:ok o):o.bind some=some (val o):=by
 cases o with
 |none=>cases h
 |some x=>rfl
theorem ok_of {α:Type} {o:Option α} {x:α} (h:o=some x):ok o:=by subst h; rfl
theorem jAa {α:Type} [Inhabited α] {o:Option α} {x:α} (h:o=some x):val o=x:=by subst h; rfl
variable {X Y R S A:Type} {g:S→Option R} {r:R} {p q:Prop}
theorem jaT {c:Prop} [Decidable c] {x y:Option S} (h:(if c then x else y).bind g=some r) (hx:x.bind g=some r→p) (hy:y.bind g=some r→q):Br (decide c) p q:=by
 by_cases hc:c
 ·rw[if_pos hc]at h; rw[decide_eq_true hc]; exact hx h
 ·rw[if_neg hc]at h; rw[decide_eq_false hc]; exact hy h
theorem jaV {b:Bool} {x y:Option S} (h:(if b=true then x else y).bind g=some r) (hx:x.bind g=some r→p) (hy:y.bind g=some r→q):Br b p q:=by
 cases b
 ·exact hy h
 ·exact hx h
theorem jat {c:Prop} [Decidable c] {x:Option S} (h:(if c then x else none).bind g=some r) (hx:x.bind g=some r→p):Ob c∧p:=by
 by_cases hc:c
 ·rw[if_pos hc]at h; exact⟨⟨hc⟩,hx h⟩
 ·rw[if_neg hc]at h; cases h
theorem jad (h:p):Ob True∧p:=⟨⟨trivial⟩,h⟩
theorem jf9 {p q:Prop} (hp:p) (h:q):Ob p∧q:=⟨⟨hp⟩,h⟩
theorem jav [Inhabited A] {e:Option A} {f:A→Option S} (h:(e.bind f).bind g=some r) (hx:(f (val e)).bind g=some r→p):Ob (ok e)∧p:=by
 cases e with
 |none=>cases h
 |some a=>exact⟨⟨rfl⟩,hx h⟩
theorem jbe {body:X→Option (X ⊕ Y)} {n:Nat} {x:X} {rest:Y→Option S} (h:((jae body n x).bind rest).bind g=some r):(jae body n x).bind (fun y=>(rest y).bind g)=some r:=by
 rw[←h]
 cases jae body n x<;>rfl
theorem jaU {body:X→Option (X ⊕ Y)} {n:Nat} {x:X} {K:Y→Option R} (h:(jae body n x).bind K=some r):∃m,n=m+1∧(body x).bind (juI body m K)=some r:=by
 cases n with
 |zero=>cases h
 |succ m =>
  refine⟨m,rfl,?_⟩
  rw[←h]
  unfold jae
  cases body x with
  |none=>rfl
  |some z=>cases z<;>rfl
theorem jaQ {body:X→Option (X ⊕ Y)} {n:Nat} {x:X} {K:Y→Option R} (h:(some (Sum.inl x)).bind (juI body n K)=some r):(jae body n x).bind K=some r:=h
theorem jaC {body:X→Option (X ⊕ Y)} {n:Nat} {y:Y} {K:Y→Option R} (h:(some (Sum.inr y)).bind (juI body n K)=some r):K y=some r:=h
theorem jam {a:R} {P:Prop} (h:(some a).bind some=some r) (hp:a=r→P):P:=hp (Option.some.inj h)
theorem ja0 {n m:Nat} (h:n+1=m):n<m:=by omega
end Go.Sx
end

section
namespace Go.Sx
class TC (R:Type) where
 c:R→R→Prop
 refl:∀a,c a a
instance (priority := low) instTC {α : Type} : TC α := ⟨fun a r => Ob (a = r) ∧ True, fun _ => ⟨⟨rfl⟩, trivial⟩⟩
instance instTCProd {α β : Type} [i : TC β] : TC (α × β) := ⟨fun a r => Ob (a.1 = r.1) ∧ i.c a.2 r.2, fun a => ⟨⟨rfl⟩, i.refl a.2⟩⟩
inductive T (R:Type):Type 1 where
 |brP (c:Prop) [d:Decidable c] (x y:T R)
 |brB (b:Bool) (x y:T R)
 |obP (c:Prop) [d:Decidable c] (x:T R)
 |obT (x:T R)
 |obC (c:Prop) (h:c) (x:T R)
 |call {A:Type} [i:Inhabited A] (e:Option A) (x:A→T R)
 |ret (a:R) (P:R→Prop) (h:P a)
 |rc [i:TC R] (a:R)
 |bad (Q:R→Prop)
def T.run {R:Type}:T R→Option R
 | @T.brP _ c d x y=>@ite _ c d x.run y.run
 | .brB b x y=>if b=true then x.run else y.run
 | @T.obP _ c d x=>@ite _ c d x.run none
 | .obT x=>x.run
 | .obC _ _ x=>x.run
 | @T.call _ _ _ e x=>Option.bind e fun a=>(x a).run
 | .ret a _ _=>some a
 | @T.rc _ _ a=>some a
 | .bad _=>none
def T.cond {R:Type}:T R→R→Prop
 | @T.brP _ c d x y,r=>Br (@decide c d) (x.cond r) (y.cond r)
 | .brB b x y,r=>Br b (x.cond r) (y.cond r)
 | @T.obP _ c _ x,r=>Ob c∧x.cond r
 | .obT x,r=>Ob True∧x.cond r
 | .obC c _ x,r=>Ob c∧x.cond r
 | @T.call _ _ i e x,r=>Ob (ok e)∧(x (@val _ i e)).cond r
 | .ret _ P _,r=>P r
 | @T.rc _ i a,r=>i.c a r
 | .bad Q,r=>Q r
theorem T.sound {R:Type}:∀(t:T R) {r:R},t.run=some r→t.cond r
 | @T.brP _ c d x y,r,h=>by
  simp only[T.run]at h
  simp only[T.cond]
  by_cases hc:c
  ·rw[if_pos hc]at h; rw[decide_eq_true hc]; exact T.sound x h
  ·rw[if_neg hc]at h; rw[decide_eq_false hc]; exact T.sound y h
 | .brB b x y,r,h=>by
  simp only[T.run]at h
  simp only[T.cond]
  cases b
  ·exact T.sound y h
  ·exact T.sound x h
 | @T.obP _ c d x,r,h=>by
  simp only[T.run]at h
  by_cases hc:c
  ·rw[if_pos hc]at h; exact⟨⟨hc⟩,T.sound x h⟩
  ·rw[if_neg hc]at h; cases h
 | .obT x,r,h=>⟨⟨trivial⟩,T.sound x h⟩
 | .obC c hc x,r,h=>⟨⟨hc⟩,T.sound x h⟩
 | @T.call _ _ i e x,r,h=>by
  simp only[T.run]at h
  cases e with
  |none=>cases h
  |some a=>exact⟨⟨rfl⟩,T.sound (x a) h⟩
 | .ret a P hP,r,h=>by
  cases h
  exact hP
 | @T.rc _ i a,r,h=>by
  cases h
  exact i.refl a
 | .bad _,r,h=>by cases h
theorem T.vc {R:Type} {t:T R} {m:Option R} {r:R} {p:Prop} (hm:t.run=m) (hp:t.cond r=p) (h:Option.bind m some=some r):p:=by
 have h1:m=some r:=by cases m with
  |none=>cases h
  |some a=>exact h
 rw[←hp]
 exact T.sound t (hm.trans h1)
theorem rcs {R:Type} [i:TC R] {a r:R} (h:Option.bind (some a) some=some r):i.c a r:=by
 obtain rfl:=Option.some.inj h
 exact i.refl a
end Go.Sx
end

section
namespace Go.Sx
def jaz:List Int:=[1,10,100,1000,10000,100000,1000000,10000000,100000000,1000000000,10000000000,100000000000,1000000000000]
def ja3:List Int:=[1000000000,1258925411,1584893192,1995262314,2511886431,3162277660,3981071705,5011872336,6309573444,7943282347]
def jaW:List (List Int):=[[0,2,6],[1,5,3],[1,7,2]]
def jvX:List Int:=[0,1,2]
def jvY:List Int:=[1,10,100,1000,10000,100000,1000000,10000000,100000000,1000000000,10000000000,100000000000,1000000000000,10000000000000,100000000000000,1000000000000000,10000000000000000,100000000000000000,1000000000000000000,10000000000000000000]
def tabZ:Nat→Option Cont
 |0=>some (.ints .i64 jvX)
 |1=>some (.recs 3 jaW)
 |3=>some (.ints .u64 jaz)
 |7=>some (.ints .u64 ja3)
 |11=>some (.ints .u64 jvY)
 |_=>none
def juJ:Nat→Option (Value→Prop)
 |8=>some fun v=>∃m,v=.int .i64 m
 |9=>some fun v=>v=.nilIface∨∃te pe,v=.iface te pe
 |10=>some fun v=>v=.nilIface∨∃te pe,v=.iface te pe
 |_=>none
instance globs : Globs := { mv := true, tab := tabZ, held := juJ, cutT := fun t => Nat.beq t 142 }
end Go.Sx
end

section
namespace Go.Sh
open Go Go.Proofs Go.RowKit Go.Sx
def jai (f:Func):Code:=f.body.getD .skip
theorem mixed:Tryz.prog.follows .mixedOrders=true:=by kernel_rfl
abbrev ja6 (fn:Func) (sp:jab) (loops:jgI) (as_:List A) (rs:List RV):Prop :=
 sx Tryz.prog sp fn.ntmps as_.length 40 loops (jcl Tryz.prog sp fn.ntmps) (jai fn) 0 [] ⟨jc5 0 (jeR 0 as_),jih 0 as_,as_.length⟩ (jeo Tryz.prog fn.results.toList fun v hp _=>jy9 rs v hp)
abbrev runE (fn:Func) (sp:jab) (loops:jgI) (c0:C) (ob:O) (as_:List A) (ob':O) (rs:List RV):Prop :=
 sx Tryz.prog sp fn.ntmps 1 40 loops (jcl Tryz.prog sp fn.ntmps) (jai fn) 0 [] ⟨jc5 0 (.w (.c c0)::jeR 1 as_),[(0,ob)],1⟩ (jeo Tryz.prog fn.results.toList fun v hp _=>fitsE ob' rs v hp)
def jaO (shs:List SV) (ls:List Lf):Bv:=(jil shs 0 ls).getD ⟨[],[],0,[]⟩
theorem jaD {shs:List SV} {ls:List Lf} {b:Bv} (h:jil shs 0 ls=some b):b=jaO shs ls:=by
 unfold jaO
 rw[h]
 rfl
abbrev jaY (fn:Func) (sp:jab) (loops:jgI) (b:Bv) (rs:List RR):Prop :=
 sx Tryz.prog sp fn.ntmps b.n 40 loops (jcl Tryz.prog sp fn.ntmps) (jai fn) 0 [] ⟨jc5 0 b.vs,b.hp,b.n⟩ (jeo Tryz.prog fn.results.toList fun v hp _=>jjR b.n rs v hp)
def sp0:jab:=fun _=>none
theorem jak:jac Tryz.prog sp0:=fun _ _ _ h=>by cases h
def jas (f:Nat) (M:Bool) (S:Sx.Spec) (sp:jab):jab:=fun k=>match Nat.beq k f with
 |true=>some (M,S)
 |false=>sp k
theorem jag {f:Nat} {M:Bool} {S:Sx.Spec} {sp:jab} (h:jah Tryz.prog f M S) (hs:jac Tryz.prog sp):jac Tryz.prog (jas f M S sp):=by
 intro k M' S' hk
 unfold jas at hk
 split at hk
 ·rename_i e
  have:=Nat.eq_of_beq_eq_true e
  subst this
  cases hk
  exact h
 ·exact hs k M' S' hk
def jba:ByteArray:=⟨(([0,1,2,2]++List.replicate 4 3++List.replicate 8 4++List.replicate 16 5++List.replicate 32 6++List.replicate 64 7++List.replicate 128 8):List UInt8).toArray⟩
end Go.Sh
end

section
namespace Go.Sh
open Go Go.Proofs Go.RowKit Go.Sx
open Go.IntKind (wrap)
theorem jqP:((0:Int)≤32):=by decide
def jnx:List (Option Cont):=[none,none,none]
def y7 (n lo hi:Int):Option Bool :=
 if lo≤n then
  some (decide (n≤hi))
 else
  some false
def jio:List A→Option (Prop × List RV)
 |[.d (.i .i64 n),.d (.i .i64 lo),.d (.i .i64 hi)]=>some (ok (y7 n lo hi),[.d (.b ((val (y7 n lo hi))))])
 |_=>none
abbrev sp_68:jab→jab:=jas 68 true (jaq jnx jio)
def juK (n lo hi:Int):T (Bool) :=
 .brP (lo≤n)
 (.obT
 (.ret ((decide (n≤hi))) (fun r=>(Ob (decide (n≤hi)=r) ∧
 True)) ⟨⟨rfl⟩,trivial⟩))
 (.obT
 (.ret (false) (fun r=>(Ob (false=r) ∧
 True)) ⟨⟨rfl⟩,trivial⟩))
theorem jta (n lo hi:Int) (r:Bool) (h:Option.bind (y7 n lo hi) some=some r):ja6 Tryz.f68 (sp0) (fun _ _ _=>none) [.d (.i .i64 n),.d (.i .i64 lo),.d (.i .i64 hi)] [.d (.b r)] :=
 T.vc (t:=juK n lo hi) (by kernel_rfl) (by kernel_rfl) h
theorem jtb:jah Tryz.prog 68 true (jaq jnx jio):=by
 refine jaw (sp:=sp0) (fn:=Tryz.f68) (body:=jai Tryz.f68) mixed jak Tryz.func68 (by kernel_rfl) (by kernel_rfl) fun as_ ob rs h ho=>?_
 unfold jio at h
 split at h
 ·rename_i n lo hi
  cases h
  exact⟨Nat.le_of_ble_eq_true rfl,_,_,jta n lo hi _ (jaj ho)⟩
 ·cases h
theorem sp_68_ok {sp:jab} (h:jac Tryz.prog sp):jac Tryz.prog (sp_68 sp):=jag jtb h
def jny:List (Option Cont):=[none]
def jc8 (n:Int):Option Bool :=
 Option.bind (y7 n (8000:Int) (192000:Int)) fun r0 =>
 some r0
def jip:List A→Option (Prop × List RV)
 |[.d (.i .i64 n)]=>some (ok (jc8 n),[.d (.b ((val (jc8 n))))])
 |_=>none
abbrev sp_162:jab→jab:=jas 162 true (jaq jny jip)
def juL (n:Int):T (Bool) :=
 .call (y7 n (8000:Int) (192000:Int)) fun r0 =>
 .obT
 (.ret (r0) (fun r=>(Ob (r0=r) ∧
 True)) ⟨⟨rfl⟩,trivial⟩)
theorem jtc (n:Int) (r:Bool) (h:Option.bind (jc8 n) some=some r):ja6 Tryz.f162 ((sp_68 sp0)) (fun _ _ _=>none) [.d (.i .i64 n)] [.d (.b r)] :=
 T.vc (t:=juL n) (by kernel_rfl) (by kernel_rfl) h
theorem jtd:jah Tryz.prog 162 true (jaq jny jip):=by
 refine jaw (sp:=(sp_68 sp0)) (fn:=Tryz.f162) (body:=jai Tryz.f162) mixed (sp_68_ok jak) Tryz.func162 (by kernel_rfl) (by kernel_rfl) fun as_ ob rs h ho=>?_
 unfold jip at h
 split at h
 ·rename_i n
  cases h
  exact⟨Nat.le_of_ble_eq_true rfl,_,_,jtc n _ (jaj ho)⟩
 ·cases h
theorem sp_162_ok {sp:jab} (h:jac Tryz.prog sp):jac Tryz.prog (sp_162 sp):=jag jtd h
def jnz:List (Option Cont):=[none,none]
def y9 (is:Bool) (e:Int):Option Int :=
 if(is)=true then
  some (0:Int)
 else
  some e
def jiq:List A→Option (Prop × List RV)
 |[.d (.b is),.d (.i .i64 e)]=>some (ok (y9 is e),[.d (.i .i64 ((val (y9 is e))))])
 |_=>none
abbrev sp_85:jab→jab:=jas 85 true (jaq jnz jiq)
def juM (is:Bool) (e:Int):T (Int) :=
 .brB (is)
 (.obT
 (.ret ((0:Int)) (fun r=>(Ob ((0:Int)=r) ∧
 True)) ⟨⟨rfl⟩,trivial⟩))
 (.obT
 (.ret (e) (fun r=>(Ob (e=r) ∧
 True)) ⟨⟨rfl⟩,trivial⟩))
theorem jte (is:Bool) (e r:Int) (h:Option.bind (y9 is e) some=some r):ja6 Tryz.f85 (sp0) (fun _ _ _=>none) [.d (.b is),.d (.i .i64 e)] [.d (.i .i64 r)] :=
 T.vc (t:=juM is e) (by kernel_rfl) (by kernel_rfl) h
theorem jtf:jah Tryz.prog 85 true (jaq jnz jiq):=by
 refine jaw (sp:=sp0) (fn:=Tryz.f85) (body:=jai Tryz.f85) mixed jak Tryz.func85 (by kernel_rfl) (by kernel_rfl) fun as_ ob rs h ho=>?_
 unfold jiq at h
 split at h
 ·rename_i is e
  cases h
  exact⟨Nat.le_of_ble_eq_true rfl,_,_,jte is e _ (jaj ho)⟩
 ·cases h
theorem sp_85_ok {sp:jab} (h:jac Tryz.prog sp):jac Tryz.prog (sp_85 sp):=jag jtf h
def jpK:List (Option Cont):=[some (.ints .i64 [])]
def jir (l:List Int) (x0:Int):Option (Int ⊕ (Int ⊕ Unit)) :=
 if x0<(↑(List.length l):Int)then
  if 0≤x0∧x0<(↑(List.length l):Int)then
  if Int.toNat x0<List.length l then
   if(List.getD l (Int.toNat x0) (0:Int)!=0)=true then
   some (.inr ((.inl (List.getD l (Int.toNat x0) (0:Int)))))
   else
   some (.inl (wrap .i64 (x0+1)))
  else none
  else none
 else
  some (.inr ((.inr ())))
def jjX (u10:Int):Option Int :=
 some u10
def jrH (u27:Unit):Option Int :=
 some (0:Int)
def joE:(Int ⊕ Unit)→Option Int :=
 (Sum.elim (jjX) (jrH))
def y40 (l:List Int):Option Int :=
 Option.bind (jae (jir l) big (0:Int)) (joE)
def jjY:List A→Option (Prop × List RV)
 |[.r (.ints .i64 l)]=>some (ok (y40 l),[.d (.i .i64 ((val (y40 l))))])
 |_=>none
abbrev sp_76:jab→jab:=jas 76 true (jaq jpK jjY)
theorem juN (l:List Int) (r:Int) (h:Option.bind (y40 l) some=some r):ja6 Tryz.f76 (sp0) (fun gs id _=>match id with
 |0=>some ⟨Int × Nat,fun z=>⟨[(5,.w (.c (.o 0))),(6,.w (.c (.d (.i .i64 ((↑(List.length l):Int)))))),(7,.w (.c (.d (.i .i64 (Prod.fst z)))))],[(0,.ext (.ints .i64 l))],1⟩,fun z=>Option.bind (jae (jir l) (Prod.snd z) (Prod.fst z)) (fun y0=>Option.bind (joE y0) some)=some r,fun z=>Prod.snd z⟩
 |_=>none) [.r (.ints .i64 l)] [.d (.i .i64 r)]:=by
 refine Eq.mp (by kernel_rfl:(
 ((∃(v0:Int × Nat),(Ob ((Option.bind (jae (jir l) v0.2 v0.1) fun y0=>Option.bind (joE y0) some)=some r) ∧
 (Ob ((↑(List.length l):Int)=(↑(List.length l):Int)) ∧
 (Ob ((0:Int)=v0.1) ∧
 (Ob (l=l) ∧
 True))))) ∧
  (∀(v0:Int × Nat),((Option.bind (jae (jir l) v0.2 v0.1) fun y0=>Option.bind (joE y0) some)=some r →
 Br (decide (v0.1<(↑(List.length l):Int)))
  ((Ob (0≤v0.1∧v0.1<(↑(List.length l):Int)) ∧
 (Ob (Int.toNat v0.1<List.length l) ∧
 Br (List.getD l (Int.toNat v0.1) (0:Int)!=0)
  ((Ob True ∧
 (Ob (List.getD l (Int.toNat v0.1) (0:Int)=r) ∧
 True)))
  ((∃(v1:Int × Nat),(Ob ((Option.bind (jae (jir l) v1.2 v1.1) fun y0=>Option.bind (joE y0) some)=some r) ∧
 (Ob (v1.2<v0.2) ∧
 (Ob ((↑(List.length l):Int)=(↑(List.length l):Int)) ∧
 (Ob (wrap .i64 (v0.1+1)=v1.1) ∧
 (Ob (l=l) ∧
 True))))))))))
  ((Ob True ∧
 (Ob ((0:Int)=r) ∧
 True)))))))=_) ?_
 refine⟨⟨((0:Int),big),⟨jbe h⟩,(by repeat' constructor)⟩,fun z0 hz0=>?_⟩
 obtain⟨k0,hm0,h⟩:=jaU hz0
 refine jaT h (fun h=>?_) (fun h=>?_)
 ·refine jat h fun h=>?_
  refine jat h fun h=>?_
  refine jaV h (fun h=>?_) (fun h=>?_)
  ·have h:=jaC h
   refine jad ?_
   exact rcs h
  ·exact⟨(_,k0),⟨jaQ h⟩,⟨ja0 hm0.symm⟩,(by repeat' constructor)⟩
 ·have h:=jaC h
  refine jad ?_
  exact rcs h
theorem juO:jah Tryz.prog 76 true (jaq jpK jjY):=by
 refine jaw (sp:=sp0) (fn:=Tryz.f76) (body:=jai Tryz.f76) mixed jak Tryz.func76 (by kernel_rfl) (by kernel_rfl) fun as_ ob rs h ho=>?_
 unfold jjY at h
 split at h
 ·rename_i l
  cases h
  exact⟨Nat.le_of_ble_eq_true rfl,_,_,juN l _ (jaj ho)⟩
 ·cases h
theorem sp_76_ok {sp:jab} (h:jac Tryz.prog sp):jac Tryz.prog (sp_76 sp):=jag juO h
def jrI:List (Option Cont):=[none]
def ja1 (n:Int):Option Int :=
 some (if wrap .i64 (0-n)>n then wrap .i64 (0-n)else n)
def jme:List A→Option (Prop × List RV)
 |[.d (.i .i64 n)]=>some (ok (ja1 n),[.d (.i .i64 ((val (ja1 n))))])
 |_=>none
abbrev sp_115:jab→jab:=jas 115 true (jaq jrI jme)
def jxi (n:Int):T (Int) :=
 .obT
 (.ret ((if wrap .i64 (0-n)>n then wrap .i64 (0-n)else n)) (fun r=>(Ob ((if wrap .i64 (0-n)>n then wrap .i64 (0-n)else n)=r) ∧
 True)) ⟨⟨rfl⟩,trivial⟩)
theorem jvZ (n r:Int) (h:Option.bind (ja1 n) some=some r):ja6 Tryz.f115 (sp0) (fun _ _ _=>none) [.d (.i .i64 n)] [.d (.i .i64 r)] :=
 T.vc (t:=jxi n) (by kernel_rfl) (by kernel_rfl) h
theorem jv0:jah Tryz.prog 115 true (jaq jrI jme):=by
 refine jaw (sp:=sp0) (fn:=Tryz.f115) (body:=jai Tryz.f115) mixed jak Tryz.func115 (by kernel_rfl) (by kernel_rfl) fun as_ ob rs h ho=>?_
 unfold jme at h
 split at h
 ·rename_i n
  cases h
  exact⟨Nat.le_of_ble_eq_true rfl,_,_,jvZ n _ (jaj ho)⟩
 ·cases h
theorem sp_115_ok {sp:jab} (h:jac Tryz.prog sp):jac Tryz.prog (sp_115 sp):=jag jv0 h
def ji4:List (Option Cont):=[none]
def y99 (x_:Nat):Option Int :=
 if(Ieee.Format.order (FloatKind.format .f32) x_ x_ != some Ordering.eq)=true then
  some (27:Int)
 else
  if(Option.isSome (Ieee.Format.sub (FloatKind.format .f32) x_ x_))=true then
  if(Ieee.Format.order (FloatKind.format .f32) (Option.getD (Ieee.Format.sub (FloatKind.format .f32) x_ x_) (0:Nat)) (0:Nat)!=some Ordering.eq)=true then
   some (27:Int)
  else
   if(Ieee.Format.order (FloatKind.format .f32) x_ (1266679808:Nat)==some Ordering.gt||Ieee.Format.order (FloatKind.format .f32) x_ (1266679808:Nat)==some Ordering.eq)=true then
   some (2:Int)
   else
   if(Ieee.Format.order (FloatKind.format .f32) x_ (3414163456:Nat)==some Ordering.lt||Ieee.Format.order (FloatKind.format .f32) x_ (3414163456:Nat)==some Ordering.eq)=true then
    some (2:Int)
   else
    if jca .f32 .i64 x_=true then
    if(Ieee.Format.order (FloatKind.format .f32) (FloatKind.nearest .f32 (f2i .f32 x_)) x_ != some Ordering.eq)=true then
     some (27:Int)
    else
     if jca .f32 .i64 x_=true then
     Option.bind (ja1 (f2i .f32 x_)) fun r0 =>
     Option.bind (y9 (decide (r0≤32767)) (2:Int)) fun r1 =>
     some r1
     else none
    else none
  else
  some (27:Int)
def jfe:List A→Option (Prop × List RV)
 |[.d (.f .f32 x_)]=>some (ok (y99 x_),[.d (.i .i64 ((val (y99 x_))))])
 |_=>none
abbrev sp_163:jab→jab:=jas 163 true (jaq ji4 jfe)
def jqh (x_:Nat):T (Int) :=
 .brB (Ieee.Format.order (FloatKind.format .f32) x_ x_ != some Ordering.eq)
 (.obT
 (.ret ((27:Int)) (fun r=>(Ob ((27:Int)=r) ∧
 True)) ⟨⟨rfl⟩,trivial⟩))
 (.brB (Option.isSome (Ieee.Format.sub (FloatKind.format .f32) x_ x_))
 (.obT
 (.brB (Ieee.Format.order (FloatKind.format .f32) (Option.getD (Ieee.Format.sub (FloatKind.format .f32) x_ x_) (0:Nat)) (0:Nat)!=some Ordering.eq)
 (.obT
 (.ret ((27:Int)) (fun r=>(Ob ((27:Int)=r) ∧
 True)) ⟨⟨rfl⟩,trivial⟩))
 (.brB (Ieee.Format.order (FloatKind.format .f32) x_ (1266679808:Nat)==some Ordering.gt||Ieee.Format.order (FloatKind.format .f32) x_ (1266679808:Nat)==some Ordering.eq)
 (.obT
 (.ret ((2:Int)) (fun r=>(Ob ((2:Int)=r) ∧
 True)) ⟨⟨rfl⟩,trivial⟩))
 (.brB (Ieee.Format.order (FloatKind.format .f32) x_ (3414163456:Nat)==some Ordering.lt||Ieee.Format.order (FloatKind.format .f32) x_ (3414163456:Nat)==some Ordering.eq)
 (.obT
 (.ret ((2:Int)) (fun r=>(Ob ((2:Int)=r) ∧
 True)) ⟨⟨rfl⟩,trivial⟩))
 (.obP (jca .f32 .i64 x_=true)
 (.obT
 (.brB (Ieee.Format.order (FloatKind.format .f32) (FloatKind.nearest .f32 (f2i .f32 x_)) x_ != some Ordering.eq)
 (.obT
 (.ret ((27:Int)) (fun r=>(Ob ((27:Int)=r) ∧
 True)) ⟨⟨rfl⟩,trivial⟩))
 (.obP (jca .f32 .i64 x_=true)
 (.call (ja1 (f2i .f32 x_)) fun r0 =>
 .call (y9 (decide (r0≤32767)) (2:Int)) fun r1 =>
 .obT
 (.ret (r1) (fun r=>(Ob (r1=r) ∧
 True)) ⟨⟨rfl⟩,trivial⟩))))))))))
 (.obT
 (.obT
 (.ret ((27:Int)) (fun r=>(Ob ((27:Int)=r) ∧
 True)) ⟨⟨rfl⟩,trivial⟩))))
theorem joF (x_:Nat) (r:Int) (h:Option.bind (y99 x_) some=some r):ja6 Tryz.f163 ((sp_115 (sp_85 sp0))) (fun _ _ _=>none) [.d (.f .f32 x_)] [.d (.i .i64 r)] :=
 T.vc (t:=jqh x_) (by kernel_rfl) (by kernel_rfl) h
theorem joG:jah Tryz.prog 163 true (jaq ji4 jfe):=by
 refine jaw (sp:=(sp_115 (sp_85 sp0))) (fn:=Tryz.f163) (body:=jai Tryz.f163) mixed (sp_115_ok (sp_85_ok jak)) Tryz.func163 (by kernel_rfl) (by kernel_rfl) fun as_ ob rs h ho=>?_
 unfold jfe at h
 split at h
 ·rename_i x_
  cases h
  exact⟨Nat.le_of_ble_eq_true rfl,_,_,joF x_ _ (jaj ho)⟩
 ·cases h
theorem sp_163_ok {sp:jab} (h:jac Tryz.prog sp):jac Tryz.prog (sp_163 sp):=jag joG h
def y159:List SV:=[.a [.d,.r (.floats .f32 [])]]
def y41 (u16:List Nat) (x0:Int):Option (Int ⊕ ((Int × Int) ⊕ Unit)) :=
 if x0<(↑(List.length u16):Int)then
  if 0≤x0∧x0<(↑(List.length u16):Int)then
  if Int.toNat x0<List.length u16 then
   Option.bind (y99 (List.getD u16 (Int.toNat x0) (0:Nat))) fun r5 =>
   if(r5 != 0)=true then
   some (.inr ((.inl (x0,r5))))
   else
   some (.inl (wrap .i64 (x0+1)))
  else none
  else none
 else
  some (.inr ((.inr ())))
def jis (u10:Int × Int):Option (Int × Int) :=
 some (u10.1,u10.2)
def jit (u27:Unit):Option (Int × Int) :=
 some (((0:Int),0))
def jrJ:((Int × Int) ⊕ Unit)→Option (Int × Int) :=
 (Sum.elim (jis) (jit))
def y70 (u17:Int) (u16:List Nat):Option (Int × Int) :=
 Option.bind (jc8 u17) fun r0 =>
 Option.bind (y9 r0 (2:Int)) fun r1 =>
 Option.bind (y9 (decide ((↑(List.length u16):Int)>0)) (10:Int)) fun r2 =>
 Option.bind (y9 (decide ((↑(List.length u16):Int)≤1024)) (8:Int)) fun r3 =>
 Option.bind (y40 [r1,r2,r3]) fun r4 =>
 if(r4 != 0)=true then
  some (((0:Int),r4))
 else
  Option.bind (jae (y41 u16) big (0:Int)) (jrJ)
def y160:List Lf→Option GT
 |[.d (.i .i64 u17),.r (.floats .f32 u16)]=>some (.leaf (ok (y70 u17 u16)) [.c (.d (.i .i64 ((val (y70 u17 u16)).1))),.c (.d (.i .i64 ((val (y70 u17 u16)).2)))])
 |_=>none
abbrev sp_140:jab→jab:=jas 140 true (jal y159 y160)
private abbrev v0q0 (u17:Int) (u16:List Nat):=(y40 [val (y9 (val (jc8 u17)) (2:Int)),val (y9 (decide ((↑(List.length u16):Int)>0)) (10:Int)),val (y9 (decide ((↑(List.length u16):Int)≤1024)) (8:Int))])
theorem jjZ (u17:Int) (u16:List Nat) (r:Int × Int) (h:Option.bind (y70 u17 u16) some=some r):jaY Tryz.f140 ((sp_162 (sp_85 (sp_76 (sp_163 sp0))))) (fun gs id _=>match id with
 |0=>some ⟨Int × Nat,fun z=>⟨[(28,.w (.c (.o 0))),(29,.w (.c (.d (.i .i64 ((↑(List.length u16):Int)))))),(30,.w (.c (.d (.i .i64 (Prod.fst z)))))],[(0,.ext (.floats .f32 u16))],1⟩,fun z=>Option.bind (jae (y41 u16) (Prod.snd z) (Prod.fst z)) (fun y0=>Option.bind (jrJ y0) some)=some r,fun z=>Prod.snd z⟩
 |_=>none) (jaO y159 [.d (.i .i64 u17),.r (.floats .f32 u16)]) [.c (.d (.i .i64 r.1)),.c (.d (.i .i64 r.2))]:=by
 refine Eq.mp (by kernel_rfl:(
 (Ob (ok (jc8 u17)) ∧
 (Ob (ok (y9 (val (jc8 u17)) (2:Int))) ∧
 (Ob (ok (y9 (decide ((↑(List.length u16):Int)>0)) (10:Int))) ∧
 (Ob (ok (y9 (decide ((↑(List.length u16):Int)≤1024)) (8:Int))) ∧
 (Ob (ok (v0q0 u17 u16)) ∧
 Br (val (v0q0 u17 u16)!=0)
  ((Ob True ∧
 (Ob True ∧
 (Ob ((0:Int)=r.1) ∧
 (Ob (val (v0q0 u17 u16)=r.2) ∧
 True)))))
  (((∃(v0:Int × Nat),(Ob ((Option.bind (jae (y41 u16) v0.2 v0.1) fun y0=>Option.bind (jrJ y0) some)=some r) ∧
 (Ob ((↑(List.length u16):Int)=(↑(List.length u16):Int)) ∧
 (Ob ((0:Int)=v0.1) ∧
 (Ob (u16=u16) ∧
 True))))) ∧
  (∀(v0:Int × Nat),((Option.bind (jae (y41 u16) v0.2 v0.1) fun y0=>Option.bind (jrJ y0) some)=some r →
 Br (decide (v0.1<(↑(List.length u16):Int)))
  ((Ob (0≤v0.1∧v0.1<(↑(List.length u16):Int)) ∧
 (Ob (Int.toNat v0.1<List.length u16) ∧
 (Ob (ok (y99 (List.getD u16 (Int.toNat v0.1) (0:Nat)))) ∧
 Br (val (y99 (List.getD u16 (Int.toNat v0.1) (0:Nat)))!=0)
  ((Ob True ∧
 (Ob True ∧
 (Ob (v0.1=r.1) ∧
 (Ob (val (y99 (List.getD u16 (Int.toNat v0.1) (0:Nat)))=r.2) ∧
 True)))))
  ((∃(v1:Int × Nat),(Ob ((Option.bind (jae (y41 u16) v1.2 v1.1) fun y0=>Option.bind (jrJ y0) some)=some r) ∧
 (Ob (v1.2<v0.2) ∧
 (Ob ((↑(List.length u16):Int)=(↑(List.length u16):Int)) ∧
 (Ob (wrap .i64 (v0.1+1)=v1.1) ∧
 (Ob (u16=u16) ∧
 True)))))))))))
  ((Ob True ∧
 (Ob True ∧
 (Ob ((0:Int)=r.1) ∧
 (Ob ((0:Int)=r.2) ∧
 True)))))))))))))))=_) ?_
 refine jav h fun h=>?_
 refine jav h fun h=>?_
 refine jav h fun h=>?_
 refine jav h fun h=>?_
 refine jav h fun h=>?_
 refine jaV h (fun h=>?_) (fun h=>?_)
 ·refine jad ?_
  refine jad ?_
  exact rcs h
 ·refine⟨⟨((0:Int),big),⟨jbe h⟩,(by repeat' constructor)⟩,fun z6 hz6=>?_⟩
  obtain⟨k6,hm6,h⟩:=jaU hz6
  refine jaT h (fun h=>?_) (fun h=>?_)
  ·refine jat h fun h=>?_
   refine jat h fun h=>?_
   refine jav h fun h=>?_
   refine jaV h (fun h=>?_) (fun h=>?_)
   ·have h:=jaC h
    refine jad ?_
    refine jad ?_
    exact rcs h
   ·exact⟨(_,k6),⟨jaQ h⟩,⟨ja0 hm6.symm⟩,(by repeat' constructor)⟩
  ·have h:=jaC h
   refine jad ?_
   refine jad ?_
   exact rcs h
theorem jj0:jah Tryz.prog 140 true (jal y159 y160):=by
 refine jau (sp:=(sp_162 (sp_85 (sp_76 (sp_163 sp0))))) (fn:=Tryz.f140) (body:=jai Tryz.f140) mixed (sp_162_ok (sp_85_ok (sp_76_ok (sp_163_ok jak)))) Tryz.func140 (by kernel_rfl) (by kernel_rfl) fun ls t h ho b hb=>?_
 unfold y160 at h
 split at h
 ·rename_i u17 u16
  cases h
  obtain rfl:=jaD hb
  exact⟨Nat.le_of_ble_eq_true (by kernel_rfl),_,_,jjZ u17 u16 _ (jaj ho)⟩
 ·cases h
theorem sp_140_ok {sp:jab} (h:jac Tryz.prog sp):jac Tryz.prog (sp_140 sp):=jag jj0 h
def jga:List SV:=[.a [.d,.r (.floats .f32 []),.d,.d]]
def y26 (u4:Int) (u0:List Nat) (u6 u5:Int):Option (Int × Int) :=
 Option.bind (y70 u4 u0) fun r0 =>
 if(r0.2 != 0)=true then
  some (r0.1,r0.2)
 else
  Option.bind (y7 u6 (0:Int) (32767:Int)) fun r1 =>
  if(r1)=true then
  Option.bind (y7 u5 (0:Int) (1000000000000:Int)) fun r2 =>
  Option.bind (y9 r2 (2:Int)) fun r3 =>
  some (((0:Int),r3))
  else
  some (((0:Int),val (y9 false (2:Int))))
def jgb:List Lf→Option GT
 |[.d (.i .i64 u4),.r (.floats .f32 u0),.d (.i .i64 u6),.d (.i .i64 u5)]=>some (.leaf (ok (y26 u4 u0 u6 u5)) [.c (.d (.i .i64 ((val (y26 u4 u0 u6 u5)).1))),.c (.d (.i .i64 ((val (y26 u4 u0 u6 u5)).2)))])
 |_=>none
abbrev sp_114:jab→jab:=jas 114 true (jal jga jgb)
def jrK (u4:Int) (u0:List Nat) (u6 u5:Int):T (Int × Int) :=
 .call (y70 u4 u0) fun r0 =>
 .brB (r0.2 != 0)
 (.obT
 (.obT
 (.ret ((r0.1,r0.2)) (fun r=>(Ob (r0.1=r.1) ∧
 (Ob (r0.2=r.2) ∧
 True))) ⟨⟨rfl⟩,⟨⟨rfl⟩,trivial⟩⟩)))
 (.call (y7 u6 (0:Int) (32767:Int)) fun r1 =>
 .brB (r1)
 (.call (y7 u5 (0:Int) (1000000000000:Int)) fun r2 =>
 .call (y9 r2 (2:Int)) fun r3 =>
 .obT
 (.obT
 (.ret ((((0:Int),r3))) (fun r=>(Ob ((0:Int)=r.1) ∧
 (Ob (r3=r.2) ∧
 True))) ⟨⟨rfl⟩,⟨⟨rfl⟩,trivial⟩⟩)))
 (.obC (ok (y9 false (2:Int))) (by decide)
 (.obT
 (.obT
 (.ret ((((0:Int),val (y9 false (2:Int))))) (fun r=>(Ob ((0:Int)=r.1) ∧
 (Ob (val (y9 false (2:Int))=r.2) ∧
 True))) ⟨⟨rfl⟩,⟨⟨rfl⟩,trivial⟩⟩)))))
theorem jqi (u4:Int) (u0:List Nat) (u6 u5:Int) (r:Int × Int) (h:Option.bind (y26 u4 u0 u6 u5) some=some r):jaY Tryz.f114 ((sp_140 (sp_68 (sp_85 sp0)))) (fun _ _ _=>none) (jaO jga [.d (.i .i64 u4),.r (.floats .f32 u0),.d (.i .i64 u6),.d (.i .i64 u5)]) [.c (.d (.i .i64 r.1)),.c (.d (.i .i64 r.2))] :=
 T.vc (t:=jrK u4 u0 u6 u5) (by kernel_rfl) (by kernel_rfl) h
theorem jqj:jah Tryz.prog 114 true (jal jga jgb):=by
 refine jau (sp:=(sp_140 (sp_68 (sp_85 sp0)))) (fn:=Tryz.f114) (body:=jai Tryz.f114) mixed (sp_140_ok (sp_68_ok (sp_85_ok jak))) Tryz.func114 (by kernel_rfl) (by kernel_rfl) fun ls t h ho b hb=>?_
 unfold jgb at h
 split at h
 ·rename_i u4 u0 u6 u5
  cases h
  obtain rfl:=jaD hb
  exact⟨Nat.le_of_ble_eq_true (by kernel_rfl),_,_,jqi u4 u0 u6 u5 _ (jaj ho)⟩
 ·cases h
theorem sp_114_ok {sp:jab} (h:jac Tryz.prog sp):jac Tryz.prog (sp_114 sp):=jag jqj h
def jrL:List (Option Cont):=[none,none]
def jc9 (aLo aHi bLo bHi:Int):Option (Int × Int) :=
 some ((wrap .i64 (aLo+bLo),wrap .i64 (aHi+bHi)))
def jmf:List A→Option (Prop × List RV)
 |[.s [.i .i64 aLo,.i .i64 aHi],.s [.i .i64 bLo,.i .i64 bHi]]=>some (ok (jc9 aLo aHi bLo bHi),[.s [.i .i64 ((val (jc9 aLo aHi bLo bHi)).1),.i .i64 ((val (jc9 aLo aHi bLo bHi)).2)]])
 |_=>none
abbrev sp_117:jab→jab:=jas 117 true (jaq jrL jmf)
def jxm (aLo aHi bLo bHi:Int):T (Int × Int) :=
 .obT
 (.ret (((wrap .i64 (aLo+bLo),wrap .i64 (aHi+bHi)))) (fun r=>(Ob (wrap .i64 (aLo+bLo)=r.1) ∧
 (Ob (wrap .i64 (aHi+bHi)=r.2) ∧
 True))) ⟨⟨rfl⟩,⟨⟨rfl⟩,trivial⟩⟩)
theorem jv1 (aLo aHi bLo bHi:Int) (r:Int × Int) (h:Option.bind (jc9 aLo aHi bLo bHi) some=some r):ja6 Tryz.f117 (sp0) (fun _ _ _=>none) [.s [.i .i64 aLo,.i .i64 aHi],.s [.i .i64 bLo,.i .i64 bHi]] [.s [.i .i64 r.1,.i .i64 r.2]] :=
 T.vc (t:=jxm aLo aHi bLo bHi) (by kernel_rfl) (by kernel_rfl) h
theorem jv2:jah Tryz.prog 117 true (jaq jrL jmf):=by
 refine jaw (sp:=sp0) (fn:=Tryz.f117) (body:=jai Tryz.f117) mixed jak Tryz.func117 (by kernel_rfl) (by kernel_rfl) fun as_ ob rs h ho=>?_
 unfold jmf at h
 split at h
 ·rename_i aLo aHi bLo bHi
  cases h
  exact⟨Nat.le_of_ble_eq_true rfl,_,_,jv1 aLo aHi bLo bHi _ (jaj ho)⟩
 ·cases h
theorem sp_117_ok {sp:jab} (h:jac Tryz.prog sp):jac Tryz.prog (sp_117 sp):=jag jv2 h
def jrM:List (Option Cont):=[none,none]
def jbh (n by_:Int):Option Int :=
 if by_≠(0:Int)then
  some (wrap .i64 (Int.tdiv (wrap .i64 (wrap .i64 (n+by_)-1)) by_))
 else none
def jmg:List A→Option (Prop × List RV)
 |[.d (.i .i64 n),.d (.i .i64 by_)]=>some (ok (jbh n by_),[.d (.i .i64 ((val (jbh n by_))))])
 |_=>none
abbrev sp_119:jab→jab:=jas 119 true (jaq jrM jmg)
def jxn (n by_:Int):T (Int) :=
 .obP (by_≠(0:Int))
 (.obT
 (.ret ((wrap .i64 (Int.tdiv (wrap .i64 (wrap .i64 (n+by_)-1)) by_))) (fun r=>(Ob (wrap .i64 (Int.tdiv (wrap .i64 (wrap .i64 (n+by_)-1)) by_)=r) ∧
 True)) ⟨⟨rfl⟩,trivial⟩))
theorem jv3 (n by_ r:Int) (h:Option.bind (jbh n by_) some=some r):ja6 Tryz.f119 (sp0) (fun _ _ _=>none) [.d (.i .i64 n),.d (.i .i64 by_)] [.d (.i .i64 r)] :=
 T.vc (t:=jxn n by_) (by kernel_rfl) (by kernel_rfl) h
theorem jv4:jah Tryz.prog 119 true (jaq jrM jmg):=by
 refine jaw (sp:=sp0) (fn:=Tryz.f119) (body:=jai Tryz.f119) mixed jak Tryz.func119 (by kernel_rfl) (by kernel_rfl) fun as_ ob rs h ho=>?_
 unfold jmg at h
 split at h
 ·rename_i n by_
  cases h
  exact⟨Nat.le_of_ble_eq_true rfl,_,_,jv3 n by_ _ (jaj ho)⟩
 ·cases h
theorem sp_119_ok {sp:jab} (h:jac Tryz.prog sp):jac Tryz.prog (sp_119 sp):=jag jv4 h
def jlR:List (Option Cont):=[none]
def jda (n:Int):Option Int :=
 Option.bind (y7 n (0:Int) (1000000:Int)) fun r0 =>
 Option.bind (y9 r0 (2:Int)) fun r1 =>
 some r1
def jha:List A→Option (Prop × List RV)
 |[.d (.i .i64 n)]=>some (ok (jda n),[.d (.i .i64 ((val (jda n))))])
 |_=>none
abbrev sp_77:jab→jab:=jas 77 true (jaq jlR jha)
def jtg (n:Int):T (Int) :=
 .call (y7 n (0:Int) (1000000:Int)) fun r0 =>
 .call (y9 r0 (2:Int)) fun r1 =>
 .obT
 (.ret (r1) (fun r=>(Ob (r1=r) ∧
 True)) ⟨⟨rfl⟩,trivial⟩)
theorem jrN (n r:Int) (h:Option.bind (jda n) some=some r):ja6 Tryz.f77 ((sp_68 (sp_85 sp0))) (fun _ _ _=>none) [.d (.i .i64 n)] [.d (.i .i64 r)] :=
 T.vc (t:=jtg n) (by kernel_rfl) (by kernel_rfl) h
theorem jrO:jah Tryz.prog 77 true (jaq jlR jha):=by
 refine jaw (sp:=(sp_68 (sp_85 sp0))) (fn:=Tryz.f77) (body:=jai Tryz.f77) mixed (sp_68_ok (sp_85_ok jak)) Tryz.func77 (by kernel_rfl) (by kernel_rfl) fun as_ ob rs h ho=>?_
 unfold jha at h
 split at h
 ·rename_i n
  cases h
  exact⟨Nat.le_of_ble_eq_true rfl,_,_,jrN n _ (jaj ho)⟩
 ·cases h
theorem sp_77_ok {sp:jab} (h:jac Tryz.prog sp):jac Tryz.prog (sp_77 sp):=jag jrO h
def jpL:List (Option Cont):=[none,none]
def jd5 (x0:(Int × Int)):Option ((Int × Int) ⊕ Int) :=
 if(x0.2 != 0)=true then
  if x0.2≠(0:Int)then
  some (.inl (x0.2,Int.tmod x0.1 x0.2))
  else none
 else
  some (.inr x0.1)
def jd6 (num den u10:Int):Option (Int × Int × Int) :=
 if u10≠(0:Int)then
  if u10≠(0:Int)then
  if wrap .i64 (Int.tdiv num u10)>1000000000 then
   some (((0:Int),0,8))
  else
   if wrap .i64 (Int.tdiv den u10)>1000000000 then
   some (((0:Int),0,8))
   else
   some ((wrap .i64 (Int.tdiv num u10),wrap .i64 (Int.tdiv den u10),0))
  else none
 else none
def jer (num den:Int):Option (Int × Int × Int) :=
 if(den==0)=true then
  some (((0:Int),0,11))
 else
  Option.bind (jae (jd5) big (num,den)) (jd6 num den)
def jj1:List A→Option (Prop × List RV)
 |[.d (.i .i64 num),.d (.i .i64 den)]=>some (ok (jer num den),[.s [.i .i64 ((val (jer num den)).1),.i .i64 ((val (jer num den)).2.1)],.d (.i .i64 ((val (jer num den)).2.2))])
 |_=>none
abbrev sp_86:jab→jab:=jas 86 true (jaq jpL jj1)
theorem juP (num den:Int) (r:Int × Int × Int) (h:Option.bind (jer num den) some=some r):ja6 Tryz.f86 (sp0) (fun gs id _=>match id with
 |0=>some ⟨(Int × Int) × Nat,fun z=>⟨[(0,.w (.c (.d (.i .i64 num)))),(1,.w (.c (.d (.i .i64 den)))),(4,.w (.c (.p 2 0 1 0))),(6,.w (.c (.d (.i .i64 (Prod.fst (Prod.fst z)))))),(7,.w (.c (.d (.i .i64 (Prod.snd (Prod.fst z))))))],[(2,.box 49 [.d (.i .i64 0),.d (.i .i64 0)])],3⟩,fun z=>Option.bind (jae (jd5) (Prod.snd z) (Prod.fst z)) (fun y0=>Option.bind (jd6 num den y0) some)=some r,fun z=>Prod.snd z⟩
 |_=>none) [.d (.i .i64 num),.d (.i .i64 den)] [.s [.i .i64 r.1,.i .i64 r.2.1],.d (.i .i64 r.2.2)]:=by
 refine Eq.mp (by kernel_rfl:(
 Br (den==0)
  ((Ob True ∧
 (Ob True ∧
 (Ob ((0:Int)=r.1) ∧
 (Ob ((0:Int)=r.2.1) ∧
 (Ob ((11:Int)=r.2.2) ∧
 True))))))
  (((∃(v0:(Int × Int) × Nat),(Ob ((Option.bind (jae jd5 v0.2 v0.1) fun y0=>Option.bind (jd6 num den y0) some)=some r) ∧
 (Ob (num=num) ∧
 (Ob (den=den) ∧
 (Ob (0=0) ∧
 (Ob (num=v0.1.1) ∧
 (Ob (den=v0.1.2) ∧
 (Ob ((0:Int)=(0:Int)) ∧
 (Ob ((0:Int)=(0:Int)) ∧
 True))))))))) ∧
  (∀(v0:(Int × Int) × Nat),((Option.bind (jae jd5 v0.2 v0.1) fun y0=>Option.bind (jd6 num den y0) some)=some r →
 Br (v0.1.2 != 0)
  ((Ob (v0.1.2≠(0:Int)) ∧
  (∃(v1:(Int × Int) × Nat),(Ob ((Option.bind (jae jd5 v1.2 v1.1) fun y0=>Option.bind (jd6 num den y0) some)=some r) ∧
 (Ob (v1.2<v0.2) ∧
 (Ob (num=num) ∧
 (Ob (den=den) ∧
 (Ob (0=0) ∧
 (Ob (v0.1.2=v1.1.1) ∧
 (Ob (Int.tmod v0.1.1 v0.1.2=v1.1.2) ∧
 (Ob ((0:Int)=(0:Int)) ∧
 (Ob ((0:Int)=(0:Int)) ∧
 True))))))))))))
  ((Ob (v0.1.1≠(0:Int)) ∧
 (Ob (v0.1.1≠(0:Int)) ∧
 Br (decide (wrap .i64 (Int.tdiv num v0.1.1)>1000000000))
  ((Ob True ∧
 (Ob True ∧
 (Ob ((0:Int)=r.1) ∧
 (Ob ((0:Int)=r.2.1) ∧
 (Ob ((8:Int)=r.2.2) ∧
 True))))))
 (Br (decide (wrap .i64 (Int.tdiv den v0.1.1)>1000000000))
  ((Ob True ∧
 (Ob True ∧
 (Ob ((0:Int)=r.1) ∧
 (Ob ((0:Int)=r.2.1) ∧
 (Ob ((8:Int)=r.2.2) ∧
 True))))))
  ((Ob True ∧
 (Ob True ∧
 (Ob (wrap .i64 (Int.tdiv num v0.1.1)=r.1) ∧
 (Ob (wrap .i64 (Int.tdiv den v0.1.1)=r.2.1) ∧
 (Ob ((0:Int)=r.2.2) ∧
 True)))))))))))))))=_) ?_
 refine jaV h (fun h=>?_) (fun h=>?_)
 ·refine jad ?_
  refine jad ?_
  exact rcs h
 ·refine⟨⟨((num,den),big),⟨jbe h⟩,(by repeat' constructor)⟩,fun z0 hz0=>?_⟩
  obtain⟨k0,hm0,h⟩:=jaU hz0
  refine jaV h (fun h=>?_) (fun h=>?_)
  ·refine jat h fun h=>?_
   exact⟨(_,k0),⟨jaQ h⟩,⟨ja0 hm0.symm⟩,(by repeat' constructor)⟩
  ·have h:=jaC h
   refine jat h fun h=>?_
   refine jat h fun h=>?_
   refine jaT h (fun h=>?_) (fun h=>?_)
   ·refine jad ?_
    refine jad ?_
    exact rcs h
   ·refine jaT h (fun h=>?_) (fun h=>?_)
    ·refine jad ?_
     refine jad ?_
     exact rcs h
    ·refine jad ?_
     refine jad ?_
     exact rcs h
theorem juQ:jah Tryz.prog 86 true (jaq jpL jj1):=by
 refine jaw (sp:=sp0) (fn:=Tryz.f86) (body:=jai Tryz.f86) mixed jak Tryz.func86 (by kernel_rfl) (by kernel_rfl) fun as_ ob rs h ho=>?_
 unfold jj1 at h
 split at h
 ·rename_i num den
  cases h
  exact⟨Nat.le_of_ble_eq_true rfl,_,_,juP num den _ (jaj ho)⟩
 ·cases h
theorem sp_86_ok {sp:jab} (h:jac Tryz.prog sp):jac Tryz.prog (sp_86 sp):=jag juQ h
def jfw:List (Option Cont):=[none,none]
def y6 (x_ y_:Int):Option (Int × Int) :=
 some ((wrap .u64 (wrap .u64 (wrap .u64 (Int.fdiv x_ ((2:Int)^min (32:Nat) (IntKind.bits .u64))*Int.fdiv y_ ((2:Int)^min (32:Nat) (IntKind.bits .u64)))+Int.fdiv (wrap .u64 (wrap .u64 (Int.fdiv x_ ((2:Int)^min (32:Nat) (IntKind.bits .u64))*wrap .u64 (↑(BitVec.toNat (BitVec.ofInt (IntKind.bits .u64) y_ &&& BitVec.ofInt (IntKind.bits .u64) (4294967295:Int))):Int))+Int.fdiv (wrap .u64 (wrap .u64 (↑(BitVec.toNat (BitVec.ofInt (IntKind.bits .u64) x_ &&& BitVec.ofInt (IntKind.bits .u64) (4294967295:Int))):Int)*wrap .u64 (↑(BitVec.toNat (BitVec.ofInt (IntKind.bits .u64) y_ &&& BitVec.ofInt (IntKind.bits .u64) (4294967295:Int))):Int))) ((2:Int)^min (32:Nat) (IntKind.bits .u64)))) ((2:Int)^min (32:Nat) (IntKind.bits .u64)))+Int.fdiv (wrap .u64 (wrap .u64 (↑(BitVec.toNat (BitVec.ofInt (IntKind.bits .u64) (wrap .u64 (wrap .u64 (Int.fdiv x_ ((2:Int)^min (32:Nat) (IntKind.bits .u64))*wrap .u64 (↑(BitVec.toNat (BitVec.ofInt (IntKind.bits .u64) y_ &&& BitVec.ofInt (IntKind.bits .u64) (4294967295:Int))):Int))+Int.fdiv (wrap .u64 (wrap .u64 (↑(BitVec.toNat (BitVec.ofInt (IntKind.bits .u64) x_ &&& BitVec.ofInt (IntKind.bits .u64) (4294967295:Int))):Int)*wrap .u64 (↑(BitVec.toNat (BitVec.ofInt (IntKind.bits .u64) y_ &&& BitVec.ofInt (IntKind.bits .u64) (4294967295:Int))):Int))) ((2:Int)^min (32:Nat) (IntKind.bits .u64)))) &&& BitVec.ofInt (IntKind.bits .u64) (4294967295:Int))):Int)+wrap .u64 (wrap .u64 (↑(BitVec.toNat (BitVec.ofInt (IntKind.bits .u64) x_ &&& BitVec.ofInt (IntKind.bits .u64) (4294967295:Int))):Int)*Int.fdiv y_ ((2:Int)^min (32:Nat) (IntKind.bits .u64))))) ((2:Int)^min (32:Nat) (IntKind.bits .u64))),wrap .u64 (x_*y_)))
def y161:List A→Option (Prop × List RV)
 |[.d (.i .u64 x_),.d (.i .u64 y_)]=>some (ok (y6 x_ y_),[.d (.i .u64 ((val (y6 x_ y_)).1)),.d (.i .u64 ((val (y6 x_ y_)).2))])
 |_=>none
abbrev sp_126:jab→jab:=jas 126 true (jaq jfw y161)
def jli (x_ y_:Int):T (Int × Int) :=
 .obC ((0:Int)≤32) (by decide)
 (.obC _ jqP
 (.obC _ jqP
 (.obC _ jqP
 (.obC _ jqP
 (.obT
 (.obT
 (.ret (((wrap .u64 (wrap .u64 (wrap .u64 (Int.fdiv x_ ((2:Int)^min (32:Nat) (IntKind.bits .u64))*Int.fdiv y_ ((2:Int)^min (32:Nat) (IntKind.bits .u64)))+Int.fdiv (wrap .u64 (wrap .u64 (Int.fdiv x_ ((2:Int)^min (32:Nat) (IntKind.bits .u64))*wrap .u64 (↑(BitVec.toNat (BitVec.ofInt (IntKind.bits .u64) y_ &&& BitVec.ofInt (IntKind.bits .u64) (4294967295:Int))):Int))+Int.fdiv (wrap .u64 (wrap .u64 (↑(BitVec.toNat (BitVec.ofInt (IntKind.bits .u64) x_ &&& BitVec.ofInt (IntKind.bits .u64) (4294967295:Int))):Int)*wrap .u64 (↑(BitVec.toNat (BitVec.ofInt (IntKind.bits .u64) y_ &&& BitVec.ofInt (IntKind.bits .u64) (4294967295:Int))):Int))) ((2:Int)^min (32:Nat) (IntKind.bits .u64)))) ((2:Int)^min (32:Nat) (IntKind.bits .u64)))+Int.fdiv (wrap .u64 (wrap .u64 (↑(BitVec.toNat (BitVec.ofInt (IntKind.bits .u64) (wrap .u64 (wrap .u64 (Int.fdiv x_ ((2:Int)^min (32:Nat) (IntKind.bits .u64))*wrap .u64 (↑(BitVec.toNat (BitVec.ofInt (IntKind.bits .u64) y_ &&& BitVec.ofInt (IntKind.bits .u64) (4294967295:Int))):Int))+Int.fdiv (wrap .u64 (wrap .u64 (↑(BitVec.toNat (BitVec.ofInt (IntKind.bits .u64) x_ &&& BitVec.ofInt (IntKind.bits .u64) (4294967295:Int))):Int)*wrap .u64 (↑(BitVec.toNat (BitVec.ofInt (IntKind.bits .u64) y_ &&& BitVec.ofInt (IntKind.bits .u64) (4294967295:Int))):Int))) ((2:Int)^min (32:Nat) (IntKind.bits .u64)))) &&& BitVec.ofInt (IntKind.bits .u64) (4294967295:Int))):Int)+wrap .u64 (wrap .u64 (↑(BitVec.toNat (BitVec.ofInt (IntKind.bits .u64) x_ &&& BitVec.ofInt (IntKind.bits .u64) (4294967295:Int))):Int)*Int.fdiv y_ ((2:Int)^min (32:Nat) (IntKind.bits .u64))))) ((2:Int)^min (32:Nat) (IntKind.bits .u64))),wrap .u64 (x_*y_)))) (fun r=>(Ob (wrap .u64 (wrap .u64 (wrap .u64 (Int.fdiv x_ ((2:Int)^min (32:Nat) (IntKind.bits .u64))*Int.fdiv y_ ((2:Int)^min (32:Nat) (IntKind.bits .u64)))+Int.fdiv (wrap .u64 (wrap .u64 (Int.fdiv x_ ((2:Int)^min (32:Nat) (IntKind.bits .u64))*wrap .u64 (↑(BitVec.toNat (BitVec.ofInt (IntKind.bits .u64) y_ &&& BitVec.ofInt (IntKind.bits .u64) (4294967295:Int))):Int))+Int.fdiv (wrap .u64 (wrap .u64 (↑(BitVec.toNat (BitVec.ofInt (IntKind.bits .u64) x_ &&& BitVec.ofInt (IntKind.bits .u64) (4294967295:Int))):Int)*wrap .u64 (↑(BitVec.toNat (BitVec.ofInt (IntKind.bits .u64) y_ &&& BitVec.ofInt (IntKind.bits .u64) (4294967295:Int))):Int))) ((2:Int)^min (32:Nat) (IntKind.bits .u64)))) ((2:Int)^min (32:Nat) (IntKind.bits .u64)))+Int.fdiv (wrap .u64 (wrap .u64 (↑(BitVec.toNat (BitVec.ofInt (IntKind.bits .u64) (wrap .u64 (wrap .u64 (Int.fdiv x_ ((2:Int)^min (32:Nat) (IntKind.bits .u64))*wrap .u64 (↑(BitVec.toNat (BitVec.ofInt (IntKind.bits .u64) y_ &&& BitVec.ofInt (IntKind.bits .u64) (4294967295:Int))):Int))+Int.fdiv (wrap .u64 (wrap .u64 (↑(BitVec.toNat (BitVec.ofInt (IntKind.bits .u64) x_ &&& BitVec.ofInt (IntKind.bits .u64) (4294967295:Int))):Int)*wrap .u64 (↑(BitVec.toNat (BitVec.ofInt (IntKind.bits .u64) y_ &&& BitVec.ofInt (IntKind.bits .u64) (4294967295:Int))):Int))) ((2:Int)^min (32:Nat) (IntKind.bits .u64)))) &&& BitVec.ofInt (IntKind.bits .u64) (4294967295:Int))):Int)+wrap .u64 (wrap .u64 (↑(BitVec.toNat (BitVec.ofInt (IntKind.bits .u64) x_ &&& BitVec.ofInt (IntKind.bits .u64) (4294967295:Int))):Int)*Int.fdiv y_ ((2:Int)^min (32:Nat) (IntKind.bits .u64))))) ((2:Int)^min (32:Nat) (IntKind.bits .u64)))=r.1) ∧
 (Ob (wrap .u64 (x_*y_)=r.2) ∧
 True))) ⟨⟨rfl⟩,⟨⟨rfl⟩,trivial⟩⟩)))))))
theorem jj2 (x_ y_:Int) (r:Int × Int) (h:Option.bind (y6 x_ y_) some=some r):ja6 Tryz.f126 (sp0) (fun _ _ _=>none) [.d (.i .u64 x_),.d (.i .u64 y_)] [.d (.i .u64 r.1),.d (.i .u64 r.2)] :=
 T.vc (t:=jli x_ y_) (by kernel_rfl) (by kernel_rfl) h
theorem jj3:jah Tryz.prog 126 true (jaq jfw y161):=by
 refine jaw (sp:=sp0) (fn:=Tryz.f126) (body:=jai Tryz.f126) mixed jak Tryz.func126 (by kernel_rfl) (by kernel_rfl) fun as_ ob rs h ho=>?_
 unfold y161 at h
 split at h
 ·rename_i x_ y_
  cases h
  exact⟨Nat.le_of_ble_eq_true rfl,_,_,jj2 x_ y_ _ (jaj ho)⟩
 ·cases h
theorem sp_126_ok {sp:jab} (h:jac Tryz.prog sp):jac Tryz.prog (sp_126 sp):=jag jj3 h
def y215:List (Option Cont):=[none]
def y64 (x_:Int):Option Bool :=
 some (x_ != x_)
def y149:List A→Option (Prop × List RV)
 |[.d (.i .u64 x_)]=>some (ok (y64 x_),[.d (.b ((val (y64 x_))))])
 |_=>none
abbrev sp_167:jab→jab:=jas 167 true (jaq y215 y149)
def jj4 (x_:Int):T (Bool) :=
 .obT
 (.ret ((x_ != x_)) (fun r=>(Ob ((x_ != x_)=r) ∧
 True)) ⟨⟨rfl⟩,trivial⟩)
theorem jjc (x_:Int) (r:Bool) (h:Option.bind (y64 x_) some=some r):ja6 Tryz.f167 (sp0) (fun _ _ _=>none) [.d (.i .u64 x_)] [.d (.b r)] :=
 T.vc (t:=jj4 x_) (by kernel_rfl) (by kernel_rfl) h
theorem jjd:jah Tryz.prog 167 true (jaq y215 y149):=by
 refine jaw (sp:=sp0) (fn:=Tryz.f167) (body:=jai Tryz.f167) mixed jak Tryz.func167 (by kernel_rfl) (by kernel_rfl) fun as_ ob rs h ho=>?_
 unfold y149 at h
 split at h
 ·rename_i x_
  cases h
  exact⟨Nat.le_of_ble_eq_true rfl,_,_,jjc x_ _ (jaj ho)⟩
 ·cases h
theorem sp_167_ok {sp:jab} (h:jac Tryz.prog sp):jac Tryz.prog (sp_167 sp):=jag jjd h
def y191:List (Option Cont):=[none,none]
def y42 (x_ y_:Int):Option Int :=
 Option.bind (y64 x_) fun r0 =>
 Option.bind (y64 y_) fun r1 =>
 if(r0)=true then
  if(r1)=true then
  some (0:Int)
  else
  some (-1:Int)
 else
  if(r1)=true then
  some (1:Int)
  else
  if x_<y_ then
   some (-1:Int)
  else
   if x_>y_ then
   some (1:Int)
   else
   some (0:Int)
def y134:List A→Option (Prop × List RV)
 |[.d (.i .u64 x_),.d (.i .u64 y_)]=>some (ok (y42 x_ y_),[.d (.i .i64 ((val (y42 x_ y_))))])
 |_=>none
abbrev sp_152:jab→jab:=jas 152 true (jaq y191 y134)
def jiu (x_ y_:Int):T (Int) :=
 .call (y64 x_) fun r0 =>
 .call (y64 y_) fun r1 =>
 .brB (r0)
 (.brB (r1)
 (.obT
 (.ret ((0:Int)) (fun r=>(Ob ((0:Int)=r) ∧
 True)) ⟨⟨rfl⟩,trivial⟩))
 (.obT
 (.ret ((-1:Int)) (fun r=>(Ob ((-1:Int)=r) ∧
 True)) ⟨⟨rfl⟩,trivial⟩)))
 (.brB (r1)
 (.obT
 (.ret ((1:Int)) (fun r=>(Ob ((1:Int)=r) ∧
 True)) ⟨⟨rfl⟩,trivial⟩))
 (.brP (x_<y_)
 (.obT
 (.ret ((-1:Int)) (fun r=>(Ob ((-1:Int)=r) ∧
 True)) ⟨⟨rfl⟩,trivial⟩))
 (.brP (x_>y_)
 (.obT
 (.ret ((1:Int)) (fun r=>(Ob ((1:Int)=r) ∧
 True)) ⟨⟨rfl⟩,trivial⟩))
 (.obT
 (.ret ((0:Int)) (fun r=>(Ob ((0:Int)=r) ∧
 True)) ⟨⟨rfl⟩,trivial⟩)))))
theorem jhE (x_ y_ r:Int) (h:Option.bind (y42 x_ y_) some=some r):ja6 Tryz.f152 ((sp_167 sp0)) (fun _ _ _=>none) [.d (.i .u64 x_),.d (.i .u64 y_)] [.d (.i .i64 r)] :=
 T.vc (t:=jiu x_ y_) (by kernel_rfl) (by kernel_rfl) h
theorem jhF:jah Tryz.prog 152 true (jaq y191 y134):=by
 refine jaw (sp:=(sp_167 sp0)) (fn:=Tryz.f152) (body:=jai Tryz.f152) mixed (sp_167_ok jak) Tryz.func152 (by kernel_rfl) (by kernel_rfl) fun as_ ob rs h ho=>?_
 unfold y134 at h
 split at h
 ·rename_i x_ y_
  cases h
  exact⟨Nat.le_of_ble_eq_true rfl,_,_,jhE x_ y_ _ (jaj ho)⟩
 ·cases h
theorem sp_152_ok {sp:jab} (h:jac Tryz.prog sp):jac Tryz.prog (sp_152 sp):=jag jhF h
def y158:List (Option Cont):=[some (.ints .u64 []),some (.ints .u64 [])]
def y19 (s1 s2:List Int) (x0:Int):Option (Int ⊕ (Int ⊕ Unit)) :=
 if x0<(↑(List.length s1):Int)then
  if 0≤x0∧x0<(↑(List.length s1):Int)then
  if Int.toNat x0<List.length s1 then
   if x0≥(↑(List.length s2):Int)then
   some (.inr ((.inl (1:Int))))
   else
   if 0≤x0∧x0<(↑(List.length s2):Int)then
    if Int.toNat x0<List.length s2 then
    Option.bind (y42 (List.getD s1 (Int.toNat x0) (0:Int)) (List.getD s2 (Int.toNat x0) (0:Int))) fun r0 =>
    if(r0 != 0)=true then
     some (.inr (.inl r0))
    else
     some (.inl (wrap .i64 (x0+1)))
    else none
   else none
  else none
  else none
 else
  some (.inr ((.inr ())))
def y219 (s1 s2:List Int) (u10:Int):Option Int :=
 some u10
def y220 (s1 s2:List Int) (u27:Unit):Option Int :=
 if(↑(List.length s1):Int)<(↑(List.length s2):Int)then
  some (-1:Int)
 else
  some (0:Int)
def y65 (s1 s2:List Int):(Int ⊕ Unit)→Option Int :=
 (Sum.elim (y219 s1 s2) (y220 s1 s2))
def y25 (s1 s2:List Int):Option Int :=
 Option.bind (jae (y19 s1 s2) big (0:Int)) (y65 s1 s2)
def y123:List A→Option (Prop × List RV)
 |[.r (.ints .u64 s1),.r (.ints .u64 s2)]=>some (ok (y25 s1 s2),[.d (.i .i64 ((val (y25 s1 s2))))])
 |_=>none
abbrev sp_131:jab→jab:=jas 131 true (jaq y158 y123)
theorem jgc (s1 s2:List Int) (r:Int) (h:Option.bind (y25 s1 s2) some=some r):ja6 Tryz.f131 ((sp_152 sp0)) (fun gs id _=>match id with
 |0=>some ⟨Int × Nat,fun z=>⟨[(0,.w (.c (.o 0))),(1,.w (.c (.o 1))),(9,.w (.c (.o 0))),(10,.w (.c (.d (.i .i64 ((↑(List.length s1):Int)))))),(11,.w (.c (.d (.i .i64 (Prod.fst z)))))],[(0,.ext (.ints .u64 s1)),(1,.ext (.ints .u64 s2))],2⟩,fun z=>Option.bind (jae (y19 s1 s2) (Prod.snd z) (Prod.fst z)) (fun y0=>Option.bind (y65 s1 s2 y0) some)=some r,fun z=>Prod.snd z⟩
 |_=>none) [.r (.ints .u64 s1),.r (.ints .u64 s2)] [.d (.i .i64 r)]:=by
 refine Eq.mp (by kernel_rfl:(
 ((∃(v0:Int × Nat),(Ob ((Option.bind (jae (y19 s1 s2) v0.2 v0.1) fun y0=>Option.bind (y65 s1 s2 y0) some)=some r) ∧
 (Ob ((↑(List.length s1):Int)=(↑(List.length s1):Int)) ∧
 (Ob ((0:Int)=v0.1) ∧
 (Ob (s1=s1) ∧
 (Ob (s2=s2) ∧
 True)))))) ∧
  (∀(v0:Int × Nat),((Option.bind (jae (y19 s1 s2) v0.2 v0.1) fun y0=>Option.bind (y65 s1 s2 y0) some)=some r →
 Br (decide (v0.1<(↑(List.length s1):Int)))
  ((Ob (0≤v0.1∧v0.1<(↑(List.length s1):Int)) ∧
 (Ob (Int.toNat v0.1<List.length s1) ∧
 Br (decide (v0.1≥(↑(List.length s2):Int)))
  ((Ob True ∧
 (Ob ((1:Int)=r) ∧
 True)))
  ((Ob (0≤v0.1∧v0.1<(↑(List.length s2):Int)) ∧
 (Ob (Int.toNat v0.1<List.length s2) ∧
 (Ob (ok (y42 (List.getD s1 (Int.toNat v0.1) (0:Int)) (List.getD s2 (Int.toNat v0.1) (0:Int)))) ∧
 Br (val (y42 (List.getD s1 (Int.toNat v0.1) (0:Int)) (List.getD s2 (Int.toNat v0.1) (0:Int)))!=0)
  ((Ob True ∧
 (Ob (val (y42 (List.getD s1 (Int.toNat v0.1) (0:Int)) (List.getD s2 (Int.toNat v0.1) (0:Int)))=r) ∧
 True)))
  ((∃(v1:Int × Nat),(Ob ((Option.bind (jae (y19 s1 s2) v1.2 v1.1) fun y0=>Option.bind (y65 s1 s2 y0) some)=some r) ∧
 (Ob (v1.2<v0.2) ∧
 (Ob ((↑(List.length s1):Int)=(↑(List.length s1):Int)) ∧
 (Ob (wrap .i64 (v0.1+1)=v1.1) ∧
 (Ob (s1=s1) ∧
 (Ob (s2=s2) ∧
 True)))))))))))))))
 (Br (decide ((↑(List.length s1):Int)<(↑(List.length s2):Int)))
  ((Ob True ∧
 (Ob ((-1:Int)=r) ∧
 True)))
  ((Ob True ∧
 (Ob ((0:Int)=r) ∧
 True))))))))=_) ?_
 refine⟨⟨((0:Int),big),⟨jbe h⟩,(by repeat' constructor)⟩,fun z1 hz1=>?_⟩
 obtain⟨k1,hm1,h⟩:=jaU hz1
 refine jaT h (fun h=>?_) (fun h=>?_)
 ·refine jat h fun h=>?_
  refine jat h fun h=>?_
  refine jaT h (fun h=>?_) (fun h=>?_)
  ·have h:=jaC h
   refine jad ?_
   exact rcs h
  ·refine jat h fun h=>?_
   refine jat h fun h=>?_
   refine jav h fun h=>?_
   refine jaV h (fun h=>?_) (fun h=>?_)
   ·have h:=jaC h
    refine jad ?_
    exact rcs h
   ·exact⟨(_,k1),⟨jaQ h⟩,⟨ja0 hm1.symm⟩,(by repeat' constructor)⟩
 ·have h:=jaC h
  refine jaT h (fun h=>?_) (fun h=>?_)
  ·refine jad ?_
   exact rcs h
  ·refine jad ?_
   exact rcs h
theorem jgd:jah Tryz.prog 131 true (jaq y158 y123):=by
 refine jaw (sp:=(sp_152 sp0)) (fn:=Tryz.f131) (body:=jai Tryz.f131) mixed (sp_152_ok jak) Tryz.func131 (by kernel_rfl) (by kernel_rfl) fun as_ ob rs h ho=>?_
 unfold y123 at h
 split at h
 ·rename_i s1 s2
  cases h
  exact⟨Nat.le_of_ble_eq_true rfl,_,_,jgc s1 s2 _ (jaj ho)⟩
 ·cases h
theorem sp_131_ok {sp:jab} (h:jac Tryz.prog sp):jac Tryz.prog (sp_131 sp):=jag jgd h
def jpM:List (Option Cont):=[none]
def jcW (u24:Int):Option (Int × Int) :=
 some ((wrap .i64 (wrap .i64 (Int.tdiv (wrap .i64 (u24+900)) (10:Int))-90),Int.tmod (wrap .i64 (u24+900)) (10:Int)))
def jj5:List A→Option (Prop × List RV)
 |[.d (.i .i64 u24)]=>some (ok (jcW u24),[.d (.i .i64 ((val (jcW u24)).1)),.d (.i .i64 ((val (jcW u24)).2))])
 |_=>none
abbrev sp_164:jab→jab:=jas 164 true (jaq jpM jj5)
def jv5 (u24:Int):T (Int × Int) :=
 .obC ((10:Int)≠(0:Int)) (by decide)
 (.obC ((10:Int)≠(0:Int)) (by decide)
 (.obT
 (.obT
 (.ret (((wrap .i64 (wrap .i64 (Int.tdiv (wrap .i64 (u24+900)) (10:Int))-90),Int.tmod (wrap .i64 (u24+900)) (10:Int)))) (fun r=>(Ob (wrap .i64 (wrap .i64 (Int.tdiv (wrap .i64 (u24+900)) (10:Int))-90)=r.1) ∧
 (Ob (Int.tmod (wrap .i64 (u24+900)) (10:Int)=r.2) ∧
 True))) ⟨⟨rfl⟩,⟨⟨rfl⟩,trivial⟩⟩))))
theorem juR (u24:Int) (r:Int × Int) (h:Option.bind (jcW u24) some=some r):ja6 Tryz.f164 (sp0) (fun _ _ _=>none) [.d (.i .i64 u24)] [.d (.i .i64 r.1),.d (.i .i64 r.2)] :=
 T.vc (t:=jv5 u24) (by kernel_rfl) (by kernel_rfl) h
theorem juS:jah Tryz.prog 164 true (jaq jpM jj5):=by
 refine jaw (sp:=sp0) (fn:=Tryz.f164) (body:=jai Tryz.f164) mixed jak Tryz.func164 (by kernel_rfl) (by kernel_rfl) fun as_ ob rs h ho=>?_
 unfold jj5 at h
 split at h
 ·rename_i u24
  cases h
  exact⟨Nat.le_of_ble_eq_true rfl,_,_,juR u24 _ (jaj ho)⟩
 ·cases h
theorem sp_164_ok {sp:jab} (h:jac Tryz.prog sp):jac Tryz.prog (sp_164 sp):=jag juS h
end Go.Sh
end

section
namespace Go.Sh
open Go Go.Proofs Go.RowKit Go.Sx
open Go.IntKind (wrap)
def y173:List SV:=[.c (.p [.d,.r (.floats .f32 []),.d,.d,.r (.recs 2 []),.r (.recs 2 [])]),.a [.d,.d]]
def y50 (u9:List (List Int)) (u41 wTo:Int) (x0:(Int × Int × Int)):Option ((Int × Int × Int) ⊕ (Int × Int)) :=
 if x0.1<(↑(List.length (List.take (Int.toNat (Option.getD (some wTo) (↑(List.length u9):Int))-Int.toNat (Option.getD (some u41) (0:Int))) (List.drop (Int.toNat (Option.getD (some u41) (0:Int))) u9))):Int)then
  if 0≤x0.1∧x0.1<(↑(List.length (List.take (Int.toNat (Option.getD (some wTo) (↑(List.length u9):Int))-Int.toNat (Option.getD (some u41) (0:Int))) (List.drop (Int.toNat (Option.getD (some u41) (0:Int))) u9))):Int)then
  if Int.toNat x0.1<List.length (List.take (Int.toNat (Option.getD (some wTo) (↑(List.length u9):Int))-Int.toNat (Option.getD (some u41) (0:Int))) (List.drop (Int.toNat (Option.getD (some u41) (0:Int))) u9))then
   Option.bind (jc9 x0.2.1 x0.2.2 (List.getD (List.getD (List.take (Int.toNat (Option.getD (some wTo) (↑(List.length u9):Int))-Int.toNat (Option.getD (some u41) (0:Int))) (List.drop (Int.toNat (Option.getD (some u41) (0:Int))) u9)) (Int.toNat x0.1) []) (0:Nat) (0:Int)) (List.getD (List.getD (List.take (Int.toNat (Option.getD (some wTo) (↑(List.length u9):Int))-Int.toNat (Option.getD (some u41) (0:Int))) (List.drop (Int.toNat (Option.getD (some u41) (0:Int))) u9)) (Int.toNat x0.1) []) (1:Nat) (0:Int))) fun r0 =>
   some (.inl ((wrap .i64 (x0.1+1),wrap .i64 (x0.2.1+List.getD (List.getD (List.take (Int.toNat (Option.getD (some wTo) (↑(List.length u9):Int))-Int.toNat (Option.getD (some u41) (0:Int))) (List.drop (Int.toNat (Option.getD (some u41) (0:Int))) u9)) (Int.toNat x0.1) []) (0:Nat) (0:Int)),wrap .i64 (x0.2.2+List.getD (List.getD (List.take (Int.toNat (Option.getD (some wTo) (↑(List.length u9):Int))-Int.toNat (Option.getD (some u41) (0:Int))) (List.drop (Int.toNat (Option.getD (some u41) (0:Int))) u9)) (Int.toNat x0.1) []) (1:Nat) (0:Int)))))
  else none
  else none
 else
  some (.inr (x0.2.1,x0.2.2))
def jrP (u10:Int × Int):Option (Int × Int) :=
 some (u10.1,u10.2)
def y69 (u11:Int) (u12:List Nat) (u13 u14:Int) (u9 u15:List (List Int)) (u41 wTo:Int):Option (Int × Int) :=
 if 0≤Option.getD (some u41) (0:Int)∧Option.getD (some u41) 0≤Option.getD (some wTo) (↑(List.length u9):Int)∧Option.getD (some wTo) (↑(List.length u9):Int)≤(↑(List.length u9):Int)then
  Option.bind (jae (y50 u9 u41 wTo) big (((0:Int),0,0))) (jrP)
 else none
def y174:List Lf→Option GT
 |[.d (.i .i64 u11),.r (.floats .f32 u12),.d (.i .i64 u13),.d (.i .i64 u14),.r (.recs 2 u9),.r (.recs 2 u15),.d (.i .i64 u41),.d (.i .i64 wTo)]=>some (.leaf (ok (y69 u11 u12 u13 u14 u9 u15 u41 wTo)) [.s [.d (.i .i64 ((val (y69 u11 u12 u13 u14 u9 u15 u41 wTo)).1)),.d (.i .i64 ((val (y69 u11 u12 u13 u14 u9 u15 u41 wTo)).2))]])
 |_=>none
abbrev sp_87:jab→jab:=jas 87 true (jal y173 y174)
abbrev jge (u9:List (List Int)) (u41 wTo:Int):=(List.take (Int.toNat (Option.getD (some wTo) (↑(List.length u9):Int))-Int.toNat (Option.getD (some u41) (0:Int))) (List.drop (Int.toNat (Option.getD (some u41) (0:Int))) u9))
private abbrev v3q1 (u9:List (List Int)) (u41 wTo:Int):=(List.take (Int.toNat (Option.getD (some wTo) (↑(List.length u9):Int))-Int.toNat (Option.getD (some u41) (0:Int))) (List.drop (Int.toNat (Option.getD (some u41) (0:Int))) u9)=List.take (Int.toNat (Option.getD (some wTo) (↑(List.length u9):Int))-Int.toNat (Option.getD (some u41) (0:Int))) (List.drop (Int.toNat (Option.getD (some u41) (0:Int))) u9))
theorem jlj (u11:Int) (u12:List Nat) (u13 u14:Int) (u9 u15:List (List Int)) (u41 wTo:Int) (r:Int × Int) (h:Option.bind (y69 u11 u12 u13 u14 u9 u15 u41 wTo) some=some r):jaY Tryz.f87 ((sp_117 sp0)) (fun gs id _=>match id with
 |0=>some ⟨(Int × Int × Int) × Nat,fun z=>⟨[(4,.w (.c (.p 4 0 1 0))),(15,.w (.c (.o 5))),(16,.w (.c (.d (.i .i64 ((↑(List.length (List.take (Int.toNat (Option.getD (some wTo) (↑(List.length u9):Int))-Int.toNat (Option.getD (some u41) (0:Int))) (List.drop (Int.toNat (Option.getD (some u41) (0:Int))) u9))):Int)))))),(17,.w (.c (.d (.i .i64 (Prod.fst (Prod.fst z))))))],[(4,.box 30 [.d (.i .i64 (Prod.fst (Prod.snd (Prod.fst z)))),.d (.i .i64 (Prod.snd (Prod.snd (Prod.fst z))))]),(5,.ext (.recs 2 (List.take (Int.toNat (Option.getD (some wTo) (↑(List.length u9):Int))-Int.toNat (Option.getD (some u41) (0:Int))) (List.drop (Int.toNat (Option.getD (some u41) (0:Int))) u9))))],6⟩,fun z=>Option.bind (jae (y50 u9 u41 wTo) (Prod.snd z) (Prod.fst z)) (fun y0=>Option.bind (jrP y0) some)=some r,fun z=>Prod.snd z⟩
 |_=>none) (jaO y173 [.d (.i .i64 u11),.r (.floats .f32 u12),.d (.i .i64 u13),.d (.i .i64 u14),.r (.recs 2 u9),.r (.recs 2 u15),.d (.i .i64 u41),.d (.i .i64 wTo)]) [.s [.d (.i .i64 r.1),.d (.i .i64 r.2)]]:=by
 refine Eq.mp (by kernel_rfl:(
 (Ob True ∧
 (Ob (0≤Option.getD (some u41) (0:Int)∧Option.getD (some u41) 0≤Option.getD (some wTo) (↑(List.length u9):Int)∧Option.getD (some wTo) (↑(List.length u9):Int)≤(↑(List.length u9):Int)) ∧
  ((∃(v0:(Int × Int × Int) × Nat),(Ob ((Option.bind (jae (y50 u9 u41 wTo) v0.2 v0.1) fun y0=>Option.bind (jrP y0) some)=some r) ∧
 (Ob (0=0) ∧
 (Ob ((↑(List.length (jge u9 u41 wTo)):Int)=(↑(List.length (jge u9 u41 wTo)):Int)) ∧
 (Ob ((0:Int)=v0.1.1) ∧
 (Ob ((0:Int)=v0.1.2.1) ∧
 (Ob ((0:Int)=v0.1.2.2) ∧
 (Ob (v3q1 u9 u41 wTo) ∧
 True)))))))) ∧
  (∀(v0:(Int × Int × Int) × Nat),((Option.bind (jae (y50 u9 u41 wTo) v0.2 v0.1) fun y0=>Option.bind (jrP y0) some)=some r →
 Br (decide (v0.1.1<(↑(List.length (jge u9 u41 wTo)):Int)))
  ((Ob (0≤v0.1.1∧v0.1.1<(↑(List.length (jge u9 u41 wTo)):Int)) ∧
 (Ob (Int.toNat v0.1.1<List.length (jge u9 u41 wTo)) ∧
 (Ob (ok (jc9 v0.1.2.1 v0.1.2.2 (List.getD (List.getD (jge u9 u41 wTo) (Int.toNat v0.1.1) []) 0 (0:Int)) (List.getD (List.getD (jge u9 u41 wTo) (Int.toNat v0.1.1) []) 1 (0:Int)))) ∧
  (∃(v1:(Int × Int × Int) × Nat),(Ob ((Option.bind (jae (y50 u9 u41 wTo) v1.2 v1.1) fun y0=>Option.bind (jrP y0) some)=some r) ∧
 (Ob (v1.2<v0.2) ∧
 (Ob (0=0) ∧
 (Ob ((↑(List.length (jge u9 u41 wTo)):Int)=(↑(List.length (jge u9 u41 wTo)):Int)) ∧
 (Ob (wrap .i64 (v0.1.1+1)=v1.1.1) ∧
 (Ob (wrap .i64 (v0.1.2.1+List.getD (List.getD (jge u9 u41 wTo) (Int.toNat v0.1.1) []) 0 (0:Int))=v1.1.2.1) ∧
 (Ob (wrap .i64 (v0.1.2.2+List.getD (List.getD (jge u9 u41 wTo) (Int.toNat v0.1.1) []) 1 (0:Int))=v1.1.2.2) ∧
 (Ob (v3q1 u9 u41 wTo) ∧
 True)))))))))))))
  ((Ob True ∧
 (Ob (v0.1.2.1=r.1) ∧
 (Ob (v0.1.2.2=r.2) ∧
 True))))))))))=_) ?_
 refine jad ?_
 refine jat h fun h=>?_
 refine⟨⟨(((0:Int),0,0),big),⟨jbe h⟩,(by repeat' constructor)⟩,fun z1 hz1=>?_⟩
 obtain⟨k1,hm1,h⟩:=jaU hz1
 refine jaT h (fun h=>?_) (fun h=>?_)
 ·refine jat h fun h=>?_
  refine jat h fun h=>?_
  refine jav h fun h=>?_
  exact⟨(_,k1),⟨jaQ h⟩,⟨ja0 hm1.symm⟩,(by repeat' constructor)⟩
 ·have h:=jaC h
  refine jad ?_
  exact rcs h
theorem jlk:jah Tryz.prog 87 true (jal y173 y174):=by
 refine jau (sp:=(sp_117 sp0)) (fn:=Tryz.f87) (body:=jai Tryz.f87) mixed (sp_117_ok jak) Tryz.func87 (by kernel_rfl) (by kernel_rfl) fun ls t h ho b hb=>?_
 unfold y174 at h
 split at h
 ·rename_i u11 u12 u13 u14 u9 u15 u41 wTo
  cases h
  obtain rfl:=jaD hb
  exact⟨Nat.le_of_ble_eq_true (by kernel_rfl),_,_,jlj u11 u12 u13 u14 u9 u15 u41 wTo _ (jaj ho)⟩
 ·cases h
theorem sp_87_ok {sp:jab} (h:jac Tryz.prog sp):jac Tryz.prog (sp_87 sp):=jag jlk h
def jj6:List (Option Cont):=[none,none]
def jmh (u36 u7:Int):Option Int :=
 Option.bind (jbh (wrap .i64 (u7*u36)) (1000000:Int)) fun r0 =>
 some r0
def jgf:List A→Option (Prop × List RV)
 |[.d (.i .i64 u36),.d (.i .i64 u7)]=>some (ok (jmh u36 u7),[.d (.i .i64 ((val (jmh u36 u7))))])
 |_=>none
abbrev sp_129:jab→jab:=jas 129 true (jaq jj6 jgf)
def jrQ (u36 u7:Int):T (Int) :=
 .call (jbh (wrap .i64 (u7*u36)) (1000000:Int)) fun r0 =>
 .obT
 (.ret (r0) (fun r=>(Ob (r0=r) ∧
 True)) ⟨⟨rfl⟩,trivial⟩)
theorem jqk (u36 u7 r:Int) (h:Option.bind (jmh u36 u7) some=some r):ja6 Tryz.f129 ((sp_119 sp0)) (fun _ _ _=>none) [.d (.i .i64 u36),.d (.i .i64 u7)] [.d (.i .i64 r)] :=
 T.vc (t:=jrQ u36 u7) (by kernel_rfl) (by kernel_rfl) h
theorem jql:jah Tryz.prog 129 true (jaq jj6 jgf):=by
 refine jaw (sp:=(sp_119 sp0)) (fn:=Tryz.f129) (body:=jai Tryz.f129) mixed (sp_119_ok jak) Tryz.func129 (by kernel_rfl) (by kernel_rfl) fun as_ ob rs h ho=>?_
 unfold jgf at h
 split at h
 ·rename_i u36 u7
  cases h
  exact⟨Nat.le_of_ble_eq_true rfl,_,_,jqk u36 u7 _ (jaj ho)⟩
 ·cases h
theorem sp_129_ok {sp:jab} (h:jac Tryz.prog sp):jac Tryz.prog (sp_129 sp):=jag jql h
def jff:List SV:=[.c (.p [.d,.r (.floats .f32 []),.d,.d,.r (.recs 2 []),.r (.recs 2 [])]),.c (.d)]
def y74 (u11:Int) (u12:List Nat) (u13 u14:Int) (u9 u15:List (List Int)) (u7:Int):Option Int :=
 Option.bind (jmh u11 u7) fun r0 =>
 some (if r0<(↑(List.length u9):Int)then r0 else(↑(List.length u9):Int))
def jfg:List Lf→Option GT
 |[.d (.i .i64 u11),.r (.floats .f32 u12),.d (.i .i64 u13),.d (.i .i64 u14),.r (.recs 2 u9),.r (.recs 2 u15),.d (.i .i64 u7)]=>some (.leaf (ok (y74 u11 u12 u13 u14 u9 u15 u7)) [.c (.d (.i .i64 ((val (y74 u11 u12 u13 u14 u9 u15 u7)))))])
 |_=>none
abbrev sp_88:jab→jab:=jas 88 true (jal jff jfg)
def jqm (u11:Int) (u12:List Nat) (u13 u14:Int) (u9 u15:List (List Int)) (u7:Int):T (Int) :=
 .obT
 (.obT
 (.call (jmh u11 u7) fun r0 =>
 .obT
 (.ret ((if r0<(↑(List.length u9):Int)then r0 else(↑(List.length u9):Int))) (fun r=>(Ob ((if r0<(↑(List.length u9):Int)then r0 else(↑(List.length u9):Int))=r) ∧
 True)) ⟨⟨rfl⟩,trivial⟩)))
theorem joH (u11:Int) (u12:List Nat) (u13 u14:Int) (u9 u15:List (List Int)) (u7 r:Int) (h:Option.bind (y74 u11 u12 u13 u14 u9 u15 u7) some=some r):jaY Tryz.f88 ((sp_129 sp0)) (fun _ _ _=>none) (jaO jff [.d (.i .i64 u11),.r (.floats .f32 u12),.d (.i .i64 u13),.d (.i .i64 u14),.r (.recs 2 u9),.r (.recs 2 u15),.d (.i .i64 u7)]) [.c (.d (.i .i64 r))] :=
 T.vc (t:=jqm u11 u12 u13 u14 u9 u15 u7) (by kernel_rfl) (by kernel_rfl) h
theorem joI:jah Tryz.prog 88 true (jal jff jfg):=by
 refine jau (sp:=(sp_129 sp0)) (fn:=Tryz.f88) (body:=jai Tryz.f88) mixed (sp_129_ok jak) Tryz.func88 (by kernel_rfl) (by kernel_rfl) fun ls t h ho b hb=>?_
 unfold jfg at h
 split at h
 ·rename_i u11 u12 u13 u14 u9 u15 u7
  cases h
  obtain rfl:=jaD hb
  exact⟨Nat.le_of_ble_eq_true (by kernel_rfl),_,_,joH u11 u12 u13 u14 u9 u15 u7 _ (jaj ho)⟩
 ·cases h
theorem sp_88_ok {sp:jab} (h:jac Tryz.prog sp):jac Tryz.prog (sp_88 sp):=jag joI h
def y175:List SV:=[.c (.p [.d,.r (.floats .f32 []),.d,.d,.r (.recs 2 []),.r (.recs 2 [])]),.c (.d)]
def y51 (u9:List (List Int)) (u37:Int) (x0:(Int × Int × Int)):Option ((Int × Int × Int) ⊕ (Int × Int)) :=
 if x0.2.2<(↑(List.length u9):Int)then
  if 0≤x0.2.2∧x0.2.2<(↑(List.length u9):Int)then
  if Int.toNat x0.2.2<List.length u9 then
   if u37≠(0:Int)then
   if(Int.tmod (wrap .i64 (Int.tdiv x0.2.2 u37)) (4:Int)==0)=true then
    some (.inl ((wrap .i64 (x0.1+List.getD (List.getD u9 (Int.toNat x0.2.2) []) 0 (0:Int)),x0.2.1,wrap .i64 (x0.2.2+1))))
   else
    if(Int.tmod (wrap .i64 (Int.tdiv x0.2.2 u37)) (4:Int)==1)=true then
    some (.inl ((x0.1,wrap .i64 (x0.2.1-List.getD (List.getD u9 (Int.toNat x0.2.2) []) 0 (0:Int)),wrap .i64 (x0.2.2+1))))
    else
    if(Int.tmod (wrap .i64 (Int.tdiv x0.2.2 u37)) (4:Int)==2)=true then
     some (.inl ((wrap .i64 (x0.1-List.getD (List.getD u9 (Int.toNat x0.2.2) []) 0 (0:Int)),x0.2.1,wrap .i64 (x0.2.2+1))))
    else
     if(Int.tmod (wrap .i64 (Int.tdiv x0.2.2 u37)) (4:Int)==3)=true then
     some (.inl ((x0.1,wrap .i64 (x0.2.1+List.getD (List.getD u9 (Int.toNat x0.2.2) []) 0 (0:Int)),wrap .i64 (x0.2.2+1))))
     else
     some (.inl ((x0.1,x0.2.1,wrap .i64 (x0.2.2+1))))
   else none
  else none
  else none
 else
  some (.inr (x0.1,x0.2.1))
def y52 (u10:Int × Int):Option (Int × Int) :=
 some (u10.1,u10.2)
def joJ (u11:Int) (u12:List Nat) (u13 u14:Int) (u9 u15:List (List Int)) (u37:Int):Option (Int × Int) :=
 Option.bind (jae (y51 u9 u37) big (((0:Int),0,0))) (y52)
def y176:List Lf→Option GT
 |[.d (.i .i64 u11),.r (.floats .f32 u12),.d (.i .i64 u13),.d (.i .i64 u14),.r (.recs 2 u9),.r (.recs 2 u15),.d (.i .i64 u37)]=>some (.leaf (ok (joJ u11 u12 u13 u14 u9 u15 u37)) [.c (.d (.i .i64 ((val (joJ u11 u12 u13 u14 u9 u15 u37)).1))),.c (.d (.i .i64 ((val (joJ u11 u12 u13 u14 u9 u15 u37)).2)))])
 |_=>none
abbrev sp_92:jab→jab:=jas 92 true (jal y175 y176)
abbrev joK (u9:List (List Int)):=((↑(List.length u9):Int)=(↑(List.length u9):Int))
theorem jll (u11:Int) (u12:List Nat) (u13 u14:Int) (u9 u15:List (List Int)) (u37:Int) (r:Int × Int) (h:Option.bind (joJ u11 u12 u13 u14 u9 u15 u37) some=some r):jaY Tryz.f92 (sp0) (fun gs id _=>match id with
 |0=>some ⟨(Int × Int × Int) × Nat,fun z=>⟨[(1,.w (.c (.d (.i .i64 u37)))),(4,.w (.c (.d (.i .i64 (Prod.fst (Prod.fst z)))))),(5,.w (.c (.d (.i .i64 (Prod.fst (Prod.snd (Prod.fst z))))))),(11,.w (.c (.o 1))),(12,.w (.c (.d (.i .i64 ((↑(List.length u9):Int)))))),(13,.w (.c (.d (.i .i64 (Prod.snd (Prod.snd (Prod.fst z)))))))],[(1,.ext (.recs 2 u9))],4⟩,fun z=>Option.bind (jae (y51 u9 u37) (Prod.snd z) (Prod.fst z)) (fun y0=>Option.bind (y52 y0) some)=some r,fun z=>Prod.snd z⟩
 |_=>none) (jaO y175 [.d (.i .i64 u11),.r (.floats .f32 u12),.d (.i .i64 u13),.d (.i .i64 u14),.r (.recs 2 u9),.r (.recs 2 u15),.d (.i .i64 u37)]) [.c (.d (.i .i64 r.1)),.c (.d (.i .i64 r.2))]:=by
 refine Eq.mp (by kernel_rfl:(
 (Ob True ∧
  ((∃(v0:(Int × Int × Int) × Nat),(Ob ((Option.bind (jae (y51 u9 u37) v0.2 v0.1) fun y0=>Option.bind (y52 y0) some)=some r) ∧
 (Ob (u37=u37) ∧
 (Ob ((0:Int)=v0.1.1) ∧
 (Ob ((0:Int)=v0.1.2.1) ∧
 (Ob (joK u9) ∧
 (Ob ((0:Int)=v0.1.2.2) ∧
 (Ob (u9=u9) ∧
 True)))))))) ∧
  (∀(v0:(Int × Int × Int) × Nat),((Option.bind (jae (y51 u9 u37) v0.2 v0.1) fun y0=>Option.bind (y52 y0) some)=some r →
 Br (decide (v0.1.2.2<(↑(List.length u9):Int)))
  ((Ob (0≤v0.1.2.2∧v0.1.2.2<(↑(List.length u9):Int)) ∧
 (Ob (Int.toNat v0.1.2.2<List.length u9) ∧
 (Ob (u37≠(0:Int)) ∧
 (Ob ((4:Int)≠(0:Int)) ∧
 Br (Int.tmod (wrap .i64 (Int.tdiv v0.1.2.2 u37)) (4:Int)==0)
  ((∃(v1:(Int × Int × Int) × Nat),(Ob ((Option.bind (jae (y51 u9 u37) v1.2 v1.1) fun y0=>Option.bind (y52 y0) some)=some r) ∧
 (Ob (v1.2<v0.2) ∧
 (Ob (u37=u37) ∧
 (Ob (wrap .i64 (v0.1.1+List.getD (List.getD u9 (Int.toNat v0.1.2.2) []) 0 (0:Int))=v1.1.1) ∧
 (Ob (v0.1.2.1=v1.1.2.1) ∧
 (Ob (joK u9) ∧
 (Ob (wrap .i64 (v0.1.2.2+1)=v1.1.2.2) ∧
 (Ob (u9=u9) ∧
 True))))))))))
 (Br (Int.tmod (wrap .i64 (Int.tdiv v0.1.2.2 u37)) (4:Int)==1)
  ((∃(v1:(Int × Int × Int) × Nat),(Ob ((Option.bind (jae (y51 u9 u37) v1.2 v1.1) fun y0=>Option.bind (y52 y0) some)=some r) ∧
 (Ob (v1.2<v0.2) ∧
 (Ob (u37=u37) ∧
 (Ob (v0.1.1=v1.1.1) ∧
 (Ob (wrap .i64 (v0.1.2.1-List.getD (List.getD u9 (Int.toNat v0.1.2.2) []) 0 (0:Int))=v1.1.2.1) ∧
 (Ob (joK u9) ∧
 (Ob (wrap .i64 (v0.1.2.2+1)=v1.1.2.2) ∧
 (Ob (u9=u9) ∧
 True))))))))))
 (Br (Int.tmod (wrap .i64 (Int.tdiv v0.1.2.2 u37)) (4:Int)==2)
  ((∃(v1:(Int × Int × Int) × Nat),(Ob ((Option.bind (jae (y51 u9 u37) v1.2 v1.1) fun y0=>Option.bind (y52 y0) some)=some r) ∧
 (Ob (v1.2<v0.2) ∧
 (Ob (u37=u37) ∧
 (Ob (wrap .i64 (v0.1.1-List.getD (List.getD u9 (Int.toNat v0.1.2.2) []) 0 (0:Int))=v1.1.1) ∧
 (Ob (v0.1.2.1=v1.1.2.1) ∧
 (Ob (joK u9) ∧
 (Ob (wrap .i64 (v0.1.2.2+1)=v1.1.2.2) ∧
 (Ob (u9=u9) ∧
 True))))))))))
 (Br (Int.tmod (wrap .i64 (Int.tdiv v0.1.2.2 u37)) (4:Int)==3)
  ((∃(v1:(Int × Int × Int) × Nat),(Ob ((Option.bind (jae (y51 u9 u37) v1.2 v1.1) fun y0=>Option.bind (y52 y0) some)=some r) ∧
 (Ob (v1.2<v0.2) ∧
 (Ob (u37=u37) ∧
 (Ob (v0.1.1=v1.1.1) ∧
 (Ob (wrap .i64 (v0.1.2.1+List.getD (List.getD u9 (Int.toNat v0.1.2.2) []) 0 (0:Int))=v1.1.2.1) ∧
 (Ob (joK u9) ∧
 (Ob (wrap .i64 (v0.1.2.2+1)=v1.1.2.2) ∧
 (Ob (u9=u9) ∧
 True))))))))))
  ((∃(v1:(Int × Int × Int) × Nat),(Ob ((Option.bind (jae (y51 u9 u37) v1.2 v1.1) fun y0=>Option.bind (y52 y0) some)=some r) ∧
 (Ob (v1.2<v0.2) ∧
 (Ob (u37=u37) ∧
 (Ob (v0.1.1=v1.1.1) ∧
 (Ob (v0.1.2.1=v1.1.2.1) ∧
 (Ob (joK u9) ∧
 (Ob (wrap .i64 (v0.1.2.2+1)=v1.1.2.2) ∧
 (Ob (u9=u9) ∧
 True))))))))))))))))))
  ((Ob True ∧
 (Ob True ∧
 (Ob (v0.1.1=r.1) ∧
 (Ob (v0.1.2.1=r.2) ∧
 True))))))))))=_) ?_
 refine jad ?_
 refine⟨⟨(((0:Int),0,0),big),⟨jbe h⟩,(by repeat' constructor)⟩,fun z0 hz0=>?_⟩
 obtain⟨k0,hm0,h⟩:=jaU hz0
 refine jaT h (fun h=>?_) (fun h=>?_)
 ·refine jat h fun h=>?_
  refine jat h fun h=>?_
  refine jat h fun h=>?_
  refine jf9 (p:=(4:Int)≠(0:Int)) (by decide) ?_
  refine jaV h (fun h=>?_) (fun h=>?_)
  ·exact⟨(_,k0),⟨jaQ h⟩,⟨ja0 hm0.symm⟩,(by repeat' constructor)⟩
  ·refine jaV h (fun h=>?_) (fun h=>?_)
   ·exact⟨(_,k0),⟨jaQ h⟩,⟨ja0 hm0.symm⟩,(by repeat' constructor)⟩
   ·refine jaV h (fun h=>?_) (fun h=>?_)
    ·exact⟨(_,k0),⟨jaQ h⟩,⟨ja0 hm0.symm⟩,(by repeat' constructor)⟩
    ·refine jaV h (fun h=>?_) (fun h=>?_)
     ·exact⟨(_,k0),⟨jaQ h⟩,⟨ja0 hm0.symm⟩,(by repeat' constructor)⟩
     ·exact⟨(_,k0),⟨jaQ h⟩,⟨ja0 hm0.symm⟩,(by repeat' constructor)⟩
 ·have h:=jaC h
  refine jad ?_
  refine jad ?_
  exact rcs h
theorem jlm:jah Tryz.prog 92 true (jal y175 y176):=by
 refine jau (sp:=sp0) (fn:=Tryz.f92) (body:=jai Tryz.f92) mixed jak Tryz.func92 (by kernel_rfl) (by kernel_rfl) fun ls t h ho b hb=>?_
 unfold y176 at h
 split at h
 ·rename_i u11 u12 u13 u14 u9 u15 u37
  cases h
  obtain rfl:=jaD hb
  exact⟨Nat.le_of_ble_eq_true (by kernel_rfl),_,_,jll u11 u12 u13 u14 u9 u15 u37 _ (jaj ho)⟩
 ·cases h
theorem sp_92_ok {sp:jab} (h:jac Tryz.prog sp):jac Tryz.prog (sp_92 sp):=jag jlm h
def ji5:List (Option Cont):=[none]
def y86 (n:Int):Option Bool :=
 Option.bind (y7 n (1:Int) (10000000000000:Int)) fun r0 =>
 some r0
def jfh:List A→Option (Prop × List RV)
 |[.d (.i .i64 n)]=>some (ok (y86 n),[.d (.b ((val (y86 n))))])
 |_=>none
abbrev sp_144:jab→jab:=jas 144 true (jaq ji5 jfh)
def jqn (n:Int):T (Bool) :=
 .call (y7 n (1:Int) (10000000000000:Int)) fun r0 =>
 .obT
 (.ret (r0) (fun r=>(Ob (r0=r) ∧
 True)) ⟨⟨rfl⟩,trivial⟩)
theorem joL (n:Int) (r:Bool) (h:Option.bind (y86 n) some=some r):ja6 Tryz.f144 ((sp_68 sp0)) (fun _ _ _=>none) [.d (.i .i64 n)] [.d (.b r)] :=
 T.vc (t:=jqn n) (by kernel_rfl) (by kernel_rfl) h
theorem joM:jah Tryz.prog 144 true (jaq ji5 jfh):=by
 refine jaw (sp:=(sp_68 sp0)) (fn:=Tryz.f144) (body:=jai Tryz.f144) mixed (sp_68_ok jak) Tryz.func144 (by kernel_rfl) (by kernel_rfl) fun as_ ob rs h ho=>?_
 unfold jfh at h
 split at h
 ·rename_i n
  cases h
  exact⟨Nat.le_of_ble_eq_true rfl,_,_,joL n _ (jaj ho)⟩
 ·cases h
theorem sp_144_ok {sp:jab} (h:jac Tryz.prog sp):jac Tryz.prog (sp_144 sp):=jag joM h
def ji6:List (Option Cont):=[none,none]
def y75 (a b:Int):Option Bool :=
 if b≤10000 then
  some (decide (a>wrap .i64 (b*1000000000)))
 else
  some false
def jfi:List A→Option (Prop × List RV)
 |[.d (.i .i64 a),.d (.i .i64 b)]=>some (ok (y75 a b),[.d (.b ((val (y75 a b))))])
 |_=>none
abbrev sp_145:jab→jab:=jas 145 true (jaq ji6 jfi)
def jqo (a b:Int):T (Bool) :=
 .brP (b≤10000)
 (.obT
 (.ret ((decide (a>wrap .i64 (b*1000000000)))) (fun r=>(Ob (decide (a>wrap .i64 (b*1000000000))=r) ∧
 True)) ⟨⟨rfl⟩,trivial⟩))
 (.obT
 (.ret (false) (fun r=>(Ob (false=r) ∧
 True)) ⟨⟨rfl⟩,trivial⟩))
theorem joN (a b:Int) (r:Bool) (h:Option.bind (y75 a b) some=some r):ja6 Tryz.f145 (sp0) (fun _ _ _=>none) [.d (.i .i64 a),.d (.i .i64 b)] [.d (.b r)] :=
 T.vc (t:=jqo a b) (by kernel_rfl) (by kernel_rfl) h
theorem joO:jah Tryz.prog 145 true (jaq ji6 jfi):=by
 refine jaw (sp:=sp0) (fn:=Tryz.f145) (body:=jai Tryz.f145) mixed jak Tryz.func145 (by kernel_rfl) (by kernel_rfl) fun as_ ob rs h ho=>?_
 unfold jfi at h
 split at h
 ·rename_i a b
  cases h
  exact⟨Nat.le_of_ble_eq_true rfl,_,_,joN a b _ (jaj ho)⟩
 ·cases h
theorem sp_145_ok {sp:jab} (h:jac Tryz.prog sp):jac Tryz.prog (sp_145 sp):=jag joO h
def jfx:List (Option Cont):=[none,none,none]
def y43 (u28 u29 u60 u61:Int):Option Int :=
 if u61≥0 then
  if 0≤u61∧u61<(↑(13:Nat):Int)then
  if Int.toNat u61<List.length jaz then
   Option.bind (y6 (wrap .u64 (u60*List.getD jaz (Int.toNat u61) (0:Int))) u29) fun r0 =>
   Option.bind (y6 (1000000000:Int) u28) fun r1 =>
   Option.bind (y25 [wrap .u64 (wrap .u64 (wrap .u64 (Int.fdiv (wrap .u64 (u60*List.getD jaz (Int.toNat u61) (0:Int))) ((2:Int)^min (32:Nat) (IntKind.bits .u64))*Int.fdiv u29 ((2:Int)^min (32:Nat) (IntKind.bits .u64)))+Int.fdiv (wrap .u64 (wrap .u64 (Int.fdiv (wrap .u64 (u60*List.getD jaz (Int.toNat u61) (0:Int))) ((2:Int)^min (32:Nat) (IntKind.bits .u64))*wrap .u64 (↑(BitVec.toNat (BitVec.ofInt (IntKind.bits .u64) u29 &&& BitVec.ofInt (IntKind.bits .u64) (4294967295:Int))):Int))+Int.fdiv (wrap .u64 (wrap .u64 (↑(BitVec.toNat (BitVec.ofInt (IntKind.bits .u64) (wrap .u64 (u60*List.getD jaz (Int.toNat u61) (0:Int))) &&& BitVec.ofInt (IntKind.bits .u64) (4294967295:Int))):Int)*wrap .u64 (↑(BitVec.toNat (BitVec.ofInt (IntKind.bits .u64) u29 &&& BitVec.ofInt (IntKind.bits .u64) (4294967295:Int))):Int))) ((2:Int)^min (32:Nat) (IntKind.bits .u64)))) ((2:Int)^min (32:Nat) (IntKind.bits .u64)))+Int.fdiv (wrap .u64 (wrap .u64 (↑(BitVec.toNat (BitVec.ofInt (IntKind.bits .u64) (wrap .u64 (wrap .u64 (Int.fdiv (wrap .u64 (u60*List.getD jaz (Int.toNat u61) (0:Int))) ((2:Int)^min (32:Nat) (IntKind.bits .u64))*wrap .u64 (↑(BitVec.toNat (BitVec.ofInt (IntKind.bits .u64) u29 &&& BitVec.ofInt (IntKind.bits .u64) (4294967295:Int))):Int))+Int.fdiv (wrap .u64 (wrap .u64 (↑(BitVec.toNat (BitVec.ofInt (IntKind.bits .u64) (wrap .u64 (u60*List.getD jaz (Int.toNat u61) (0:Int))) &&& BitVec.ofInt (IntKind.bits .u64) (4294967295:Int))):Int)*wrap .u64 (↑(BitVec.toNat (BitVec.ofInt (IntKind.bits .u64) u29 &&& BitVec.ofInt (IntKind.bits .u64) (4294967295:Int))):Int))) ((2:Int)^min (32:Nat) (IntKind.bits .u64)))) &&& BitVec.ofInt (IntKind.bits .u64) (4294967295:Int))):Int)+wrap .u64 (wrap .u64 (↑(BitVec.toNat (BitVec.ofInt (IntKind.bits .u64) (wrap .u64 (u60*List.getD jaz (Int.toNat u61) (0:Int))) &&& BitVec.ofInt (IntKind.bits .u64) (4294967295:Int))):Int)*Int.fdiv u29 ((2:Int)^min (32:Nat) (IntKind.bits .u64))))) ((2:Int)^min (32:Nat) (IntKind.bits .u64))),wrap .u64 (wrap .u64 (u60*List.getD jaz (Int.toNat u61) (0:Int))*u29)] [wrap .u64 (wrap .u64 (wrap .u64 (Int.fdiv (1000000000:Int) ((2:Int)^min (32:Nat) (IntKind.bits .u64))*Int.fdiv u28 ((2:Int)^min (32:Nat) (IntKind.bits .u64)))+Int.fdiv (wrap .u64 (wrap .u64 (Int.fdiv (1000000000:Int) ((2:Int)^min (32:Nat) (IntKind.bits .u64))*wrap .u64 (↑(BitVec.toNat (BitVec.ofInt (IntKind.bits .u64) u28 &&& BitVec.ofInt (IntKind.bits .u64) (4294967295:Int))):Int))+Int.fdiv (wrap .u64 (1000000000*wrap .u64 (↑(BitVec.toNat (BitVec.ofInt (IntKind.bits .u64) u28 &&& BitVec.ofInt (IntKind.bits .u64) (4294967295:Int))):Int))) ((2:Int)^min (32:Nat) (IntKind.bits .u64)))) ((2:Int)^min (32:Nat) (IntKind.bits .u64)))+Int.fdiv (wrap .u64 (wrap .u64 (↑(BitVec.toNat (BitVec.ofInt (IntKind.bits .u64) (wrap .u64 (wrap .u64 (Int.fdiv (1000000000:Int) ((2:Int)^min (32:Nat) (IntKind.bits .u64))*wrap .u64 (↑(BitVec.toNat (BitVec.ofInt (IntKind.bits .u64) u28 &&& BitVec.ofInt (IntKind.bits .u64) (4294967295:Int))):Int))+Int.fdiv (wrap .u64 (1000000000*wrap .u64 (↑(BitVec.toNat (BitVec.ofInt (IntKind.bits .u64) u28 &&& BitVec.ofInt (IntKind.bits .u64) (4294967295:Int))):Int))) ((2:Int)^min (32:Nat) (IntKind.bits .u64)))) &&& BitVec.ofInt (IntKind.bits .u64) (4294967295:Int))):Int)+wrap .u64 (1000000000*Int.fdiv u28 ((2:Int)^min (32:Nat) (IntKind.bits .u64))))) ((2:Int)^min (32:Nat) (IntKind.bits .u64))),wrap .u64 (1000000000*u28)]) fun r2 =>
   some r2
  else none
  else none
 else
  if 0≤wrap .i64 (0-u61)∧wrap .i64 (0-u61)<(↑(13:Nat):Int)then
  if Int.toNat (wrap .i64 (0-u61))<List.length jaz then
   Option.bind (y6 u60 u29) fun r3 =>
   Option.bind (y6 (wrap .u64 (1000000000*List.getD jaz (Int.toNat (wrap .i64 (0-u61))) (0:Int))) u28) fun r4 =>
   Option.bind (y25 [wrap .u64 (wrap .u64 (wrap .u64 (Int.fdiv u60 ((2:Int)^min (32:Nat) (IntKind.bits .u64))*Int.fdiv u29 ((2:Int)^min (32:Nat) (IntKind.bits .u64)))+Int.fdiv (wrap .u64 (wrap .u64 (Int.fdiv u60 ((2:Int)^min (32:Nat) (IntKind.bits .u64))*wrap .u64 (↑(BitVec.toNat (BitVec.ofInt (IntKind.bits .u64) u29 &&& BitVec.ofInt (IntKind.bits .u64) (4294967295:Int))):Int))+Int.fdiv (wrap .u64 (wrap .u64 (↑(BitVec.toNat (BitVec.ofInt (IntKind.bits .u64) u60 &&& BitVec.ofInt (IntKind.bits .u64) (4294967295:Int))):Int)*wrap .u64 (↑(BitVec.toNat (BitVec.ofInt (IntKind.bits .u64) u29 &&& BitVec.ofInt (IntKind.bits .u64) (4294967295:Int))):Int))) ((2:Int)^min (32:Nat) (IntKind.bits .u64)))) ((2:Int)^min (32:Nat) (IntKind.bits .u64)))+Int.fdiv (wrap .u64 (wrap .u64 (↑(BitVec.toNat (BitVec.ofInt (IntKind.bits .u64) (wrap .u64 (wrap .u64 (Int.fdiv u60 ((2:Int)^min (32:Nat) (IntKind.bits .u64))*wrap .u64 (↑(BitVec.toNat (BitVec.ofInt (IntKind.bits .u64) u29 &&& BitVec.ofInt (IntKind.bits .u64) (4294967295:Int))):Int))+Int.fdiv (wrap .u64 (wrap .u64 (↑(BitVec.toNat (BitVec.ofInt (IntKind.bits .u64) u60 &&& BitVec.ofInt (IntKind.bits .u64) (4294967295:Int))):Int)*wrap .u64 (↑(BitVec.toNat (BitVec.ofInt (IntKind.bits .u64) u29 &&& BitVec.ofInt (IntKind.bits .u64) (4294967295:Int))):Int))) ((2:Int)^min (32:Nat) (IntKind.bits .u64)))) &&& BitVec.ofInt (IntKind.bits .u64) (4294967295:Int))):Int)+wrap .u64 (wrap .u64 (↑(BitVec.toNat (BitVec.ofInt (IntKind.bits .u64) u60 &&& BitVec.ofInt (IntKind.bits .u64) (4294967295:Int))):Int)*Int.fdiv u29 ((2:Int)^min (32:Nat) (IntKind.bits .u64))))) ((2:Int)^min (32:Nat) (IntKind.bits .u64))),wrap .u64 (u60*u29)] [wrap .u64 (wrap .u64 (wrap .u64 (Int.fdiv (wrap .u64 (1000000000*List.getD jaz (Int.toNat (wrap .i64 (0-u61))) (0:Int))) ((2:Int)^min (32:Nat) (IntKind.bits .u64))*Int.fdiv u28 ((2:Int)^min (32:Nat) (IntKind.bits .u64)))+Int.fdiv (wrap .u64 (wrap .u64 (Int.fdiv (wrap .u64 (1000000000*List.getD jaz (Int.toNat (wrap .i64 (0-u61))) (0:Int))) ((2:Int)^min (32:Nat) (IntKind.bits .u64))*wrap .u64 (↑(BitVec.toNat (BitVec.ofInt (IntKind.bits .u64) u28 &&& BitVec.ofInt (IntKind.bits .u64) (4294967295:Int))):Int))+Int.fdiv (wrap .u64 (wrap .u64 (↑(BitVec.toNat (BitVec.ofInt (IntKind.bits .u64) (wrap .u64 (1000000000*List.getD jaz (Int.toNat (wrap .i64 (0-u61))) (0:Int))) &&& BitVec.ofInt (IntKind.bits .u64) (4294967295:Int))):Int)*wrap .u64 (↑(BitVec.toNat (BitVec.ofInt (IntKind.bits .u64) u28 &&& BitVec.ofInt (IntKind.bits .u64) (4294967295:Int))):Int))) ((2:Int)^min (32:Nat) (IntKind.bits .u64)))) ((2:Int)^min (32:Nat) (IntKind.bits .u64)))+Int.fdiv (wrap .u64 (wrap .u64 (↑(BitVec.toNat (BitVec.ofInt (IntKind.bits .u64) (wrap .u64 (wrap .u64 (Int.fdiv (wrap .u64 (1000000000*List.getD jaz (Int.toNat (wrap .i64 (0-u61))) (0:Int))) ((2:Int)^min (32:Nat) (IntKind.bits .u64))*wrap .u64 (↑(BitVec.toNat (BitVec.ofInt (IntKind.bits .u64) u28 &&& BitVec.ofInt (IntKind.bits .u64) (4294967295:Int))):Int))+Int.fdiv (wrap .u64 (wrap .u64 (↑(BitVec.toNat (BitVec.ofInt (IntKind.bits .u64) (wrap .u64 (1000000000*List.getD jaz (Int.toNat (wrap .i64 (0-u61))) (0:Int))) &&& BitVec.ofInt (IntKind.bits .u64) (4294967295:Int))):Int)*wrap .u64 (↑(BitVec.toNat (BitVec.ofInt (IntKind.bits .u64) u28 &&& BitVec.ofInt (IntKind.bits .u64) (4294967295:Int))):Int))) ((2:Int)^min (32:Nat) (IntKind.bits .u64)))) &&& BitVec.ofInt (IntKind.bits .u64) (4294967295:Int))):Int)+wrap .u64 (wrap .u64 (↑(BitVec.toNat (BitVec.ofInt (IntKind.bits .u64) (wrap .u64 (1000000000*List.getD jaz (Int.toNat (wrap .i64 (0-u61))) (0:Int))) &&& BitVec.ofInt (IntKind.bits .u64) (4294967295:Int))):Int)*Int.fdiv u28 ((2:Int)^min (32:Nat) (IntKind.bits .u64))))) ((2:Int)^min (32:Nat) (IntKind.bits .u64))),wrap .u64 (wrap .u64 (1000000000*List.getD jaz (Int.toNat (wrap .i64 (0-u61))) (0:Int))*u28)]) fun r5 =>
   some r5
  else none
  else none
def y162:List A→Option (Prop × List RV)
 |[.s [.i .u64 u28,.i .u64 u29],.d (.i .u64 u60),.d (.i .i64 u61)]=>some (ok (y43 u28 u29 u60 u61),[.d (.i .i64 ((val (y43 u28 u29 u60 u61))))])
 |_=>none
abbrev sp_165:jab→jab:=jas 165 true (jaq jfx y162)
abbrev jbj  := ((2:Int)^min (32:Nat) (IntKind.bits .u64))
abbrev jqQ (u29:Int):=(↑(BitVec.toNat (BitVec.ofInt (IntKind.bits .u64) u29 &&& BitVec.ofInt (IntKind.bits .u64) (4294967295:Int))):Int)
abbrev jk6 (u28:Int):=(↑(BitVec.toNat (BitVec.ofInt (IntKind.bits .u64) u28 &&& BitVec.ofInt (IntKind.bits .u64) (4294967295:Int))):Int)
abbrev jnA (u61:Int):=(wrap .u64 (1000000000*List.getD jaz (Int.toNat (wrap .i64 (0-u61))) (0:Int)))
abbrev jzb (u29 u60 u61:Int):=(wrap .u64 (wrap .u64 (Int.fdiv (wrap .u64 (u60*List.getD jaz (Int.toNat u61) (0:Int))) (jbj)*wrap .u64 (jqQ u29))+Int.fdiv (wrap .u64 (wrap .u64 (↑(BitVec.toNat (BitVec.ofInt (IntKind.bits .u64) (wrap .u64 (u60*List.getD jaz (Int.toNat u61) (0:Int))) &&& BitVec.ofInt (IntKind.bits .u64) (4294967295:Int))):Int)*wrap .u64 (jqQ u29))) (jbj)))
abbrev jzc (u28 u61:Int):=(wrap .u64 (wrap .u64 (Int.fdiv (jnA u61) (jbj)*wrap .u64 (jk6 u28))+Int.fdiv (wrap .u64 (wrap .u64 (↑(BitVec.toNat (BitVec.ofInt (IntKind.bits .u64) (jnA u61) &&& BitVec.ofInt (IntKind.bits .u64) (4294967295:Int))):Int)*wrap .u64 (jk6 u28))) (jbj)))
abbrev jzd (u29 u60:Int):=(wrap .u64 (wrap .u64 (Int.fdiv u60 (jbj)*wrap .u64 (jqQ u29))+Int.fdiv (wrap .u64 (wrap .u64 (↑(BitVec.toNat (BitVec.ofInt (IntKind.bits .u64) u60 &&& BitVec.ofInt (IntKind.bits .u64) (4294967295:Int))):Int)*wrap .u64 (jqQ u29))) (jbj)))
def jln (u28 u29 u60 u61:Int):T (Int) :=
 .brP (u61≥0)
 (.obP (0≤u61∧u61<(↑(13:Nat):Int))
 (.obP (Int.toNat u61<List.length jaz)
 (.call (y6 (wrap .u64 (u60*List.getD jaz (Int.toNat u61) (0:Int))) u29) fun r0 =>
 .call (y6 (1000000000:Int) u28) fun r1 =>
 .call (y25 [wrap .u64 (wrap .u64 (wrap .u64 (Int.fdiv (wrap .u64 (u60*List.getD jaz (Int.toNat u61) (0:Int))) (jbj)*Int.fdiv u29 (jbj))+Int.fdiv (jzb u29 u60 u61) (jbj))+Int.fdiv (wrap .u64 (wrap .u64 (↑(BitVec.toNat (BitVec.ofInt (IntKind.bits .u64) (jzb u29 u60 u61) &&& BitVec.ofInt (IntKind.bits .u64) (4294967295:Int))):Int)+wrap .u64 (wrap .u64 (↑(BitVec.toNat (BitVec.ofInt (IntKind.bits .u64) (wrap .u64 (u60*List.getD jaz (Int.toNat u61) (0:Int))) &&& BitVec.ofInt (IntKind.bits .u64) (4294967295:Int))):Int)*Int.fdiv u29 (jbj)))) (jbj)),wrap .u64 (wrap .u64 (u60*List.getD jaz (Int.toNat u61) (0:Int))*u29)] [wrap .u64 (wrap .u64 (wrap .u64 (Int.fdiv (1000000000:Int) (jbj)*Int.fdiv u28 (jbj))+Int.fdiv (wrap .u64 (wrap .u64 (Int.fdiv (1000000000:Int) (jbj)*wrap .u64 (jk6 u28))+Int.fdiv (wrap .u64 (1000000000*wrap .u64 (jk6 u28))) (jbj))) (jbj))+Int.fdiv (wrap .u64 (wrap .u64 (↑(BitVec.toNat (BitVec.ofInt (IntKind.bits .u64) (wrap .u64 (wrap .u64 (Int.fdiv (1000000000:Int) (jbj)*wrap .u64 (jk6 u28))+Int.fdiv (wrap .u64 (1000000000*wrap .u64 (jk6 u28))) (jbj))) &&& BitVec.ofInt (IntKind.bits .u64) (4294967295:Int))):Int)+wrap .u64 (1000000000*Int.fdiv u28 (jbj)))) (jbj)),wrap .u64 (1000000000*u28)]) fun r2 =>
 .obT
 (.ret (r2) (fun r=>(Ob (r2=r) ∧
 True)) ⟨⟨rfl⟩,trivial⟩))))
 (.obP (0≤wrap .i64 (0-u61)∧wrap .i64 (0-u61)<(↑(13:Nat):Int))
 (.obP (Int.toNat (wrap .i64 (0-u61))<List.length jaz)
 (.call (y6 u60 u29) fun r3 =>
 .call (y6 (jnA u61) u28) fun r4 =>
 .call (y25 [wrap .u64 (wrap .u64 (wrap .u64 (Int.fdiv u60 (jbj)*Int.fdiv u29 (jbj))+Int.fdiv (jzd u29 u60) (jbj))+Int.fdiv (wrap .u64 (wrap .u64 (↑(BitVec.toNat (BitVec.ofInt (IntKind.bits .u64) (jzd u29 u60) &&& BitVec.ofInt (IntKind.bits .u64) (4294967295:Int))):Int)+wrap .u64 (wrap .u64 (↑(BitVec.toNat (BitVec.ofInt (IntKind.bits .u64) u60 &&& BitVec.ofInt (IntKind.bits .u64) (4294967295:Int))):Int)*Int.fdiv u29 (jbj)))) (jbj)),wrap .u64 (u60*u29)] [wrap .u64 (wrap .u64 (wrap .u64 (Int.fdiv (jnA u61) (jbj)*Int.fdiv u28 (jbj))+Int.fdiv (jzc u28 u61) (jbj))+Int.fdiv (wrap .u64 (wrap .u64 (↑(BitVec.toNat (BitVec.ofInt (IntKind.bits .u64) (jzc u28 u61) &&& BitVec.ofInt (IntKind.bits .u64) (4294967295:Int))):Int)+wrap .u64 (wrap .u64 (↑(BitVec.toNat (BitVec.ofInt (IntKind.bits .u64) (jnA u61) &&& BitVec.ofInt (IntKind.bits .u64) (4294967295:Int))):Int)*Int.fdiv u28 (jbj)))) (jbj)),wrap .u64 (wrap .u64 (1000000000*List.getD jaz (Int.toNat (wrap .i64 (0-u61))) (0:Int))*u28)]) fun r5 =>
 .obT
 (.ret (r5) (fun r=>(Ob (r5=r) ∧
 True)) ⟨⟨rfl⟩,trivial⟩))))
theorem jj7 (u28 u29 u60 u61 r:Int) (h:Option.bind (y43 u28 u29 u60 u61) some=some r):ja6 Tryz.f165 ((sp_126 (sp_131 sp0))) (fun _ _ _=>none) [.s [.i .u64 u28,.i .u64 u29],.d (.i .u64 u60),.d (.i .i64 u61)] [.d (.i .i64 r)] :=
 T.vc (t:=jln u28 u29 u60 u61) (by kernel_rfl) (by kernel_rfl) h
theorem jj8:jah Tryz.prog 165 true (jaq jfx y162):=by
 refine jaw (sp:=(sp_126 (sp_131 sp0))) (fn:=Tryz.f165) (body:=jai Tryz.f165) mixed (sp_126_ok (sp_131_ok jak)) Tryz.func165 (by kernel_rfl) (by kernel_rfl) fun as_ ob rs h ho=>?_
 unfold y162 at h
 split at h
 ·rename_i u28 u29 u60 u61
  cases h
  exact⟨Nat.le_of_ble_eq_true rfl,_,_,jj7 u28 u29 u60 u61 _ (jaj ho)⟩
 ·cases h
theorem sp_165_ok {sp:jab} (h:jac Tryz.prog sp):jac Tryz.prog (sp_165 sp):=jag jj8 h
def jgO:List (Option Cont):=[none,none]
def y90 (u28 u29 u24:Int):Option Bool :=
 Option.bind (jcW u24) fun r0 =>
 if 0≤Int.tmod (wrap .i64 (u24+900)) (10:Int)∧Int.tmod (wrap .i64 (u24+900)) 10<(↑(10:Nat):Int)then
  if Int.toNat (Int.tmod (wrap .i64 (u24+900)) (10:Int))<List.length ja3 then
  if Int.tmod (wrap .i64 (u24+900)) (10:Int)>0 then
   Option.bind (y43 u28 u29 (wrap .u64 (List.getD ja3 (Int.toNat (Int.tmod (wrap .i64 (u24+900)) (10:Int))) (0:Int)+1)) (wrap .i64 (wrap .i64 (Int.tdiv (wrap .i64 (u24+900)) (10:Int))-90))) fun r1 =>
   some (decide (r1≤0))
  else
   Option.bind (y43 u28 u29 (List.getD ja3 (Int.toNat (Int.tmod (wrap .i64 (u24+900)) (10:Int))) (0:Int)) (wrap .i64 (wrap .i64 (Int.tdiv (wrap .i64 (u24+900)) (10:Int))-90))) fun r2 =>
   some (decide (r2≤0))
  else none
 else none
def y192:List A→Option (Prop × List RV)
 |[.s [.i .u64 u28,.i .u64 u29],.d (.i .i64 u24)]=>some (ok (y90 u28 u29 u24),[.d (.b ((val (y90 u28 u29 u24))))])
 |_=>none
abbrev sp_146:jab→jab:=jas 146 true (jaq jgO y192)
def jnB (u28 u29 u24:Int):T (Bool) :=
 .call (jcW u24) fun r0 =>
 .obP (0≤Int.tmod (wrap .i64 (u24+900)) (10:Int)∧Int.tmod (wrap .i64 (u24+900)) 10<(↑(10:Nat):Int))
 (.obP (Int.toNat (Int.tmod (wrap .i64 (u24+900)) (10:Int))<List.length ja3)
 (.brP (Int.tmod (wrap .i64 (u24+900)) (10:Int)>0)
 (.call (y43 u28 u29 (wrap .u64 (List.getD ja3 (Int.toNat (Int.tmod (wrap .i64 (u24+900)) (10:Int))) (0:Int)+1)) (wrap .i64 (wrap .i64 (Int.tdiv (wrap .i64 (u24+900)) (10:Int))-90))) fun r1 =>
 .obT
 (.ret ((decide (r1≤0))) (fun r=>(Ob (decide (r1≤0)=r) ∧
 True)) ⟨⟨rfl⟩,trivial⟩))
 (.call (y43 u28 u29 (List.getD ja3 (Int.toNat (Int.tmod (wrap .i64 (u24+900)) (10:Int))) (0:Int)) (wrap .i64 (wrap .i64 (Int.tdiv (wrap .i64 (u24+900)) (10:Int))-90))) fun r2 =>
 .obT
 (.ret ((decide (r2≤0))) (fun r=>(Ob (decide (r2≤0)=r) ∧
 True)) ⟨⟨rfl⟩,trivial⟩))))
theorem jmi (u28 u29 u24:Int) (r:Bool) (h:Option.bind (y90 u28 u29 u24) some=some r):ja6 Tryz.f146 ((sp_164 (sp_165 sp0))) (fun _ _ _=>none) [.s [.i .u64 u28,.i .u64 u29],.d (.i .i64 u24)] [.d (.b r)] :=
 T.vc (t:=jnB u28 u29 u24) (by kernel_rfl) (by kernel_rfl) h
theorem jmj:jah Tryz.prog 146 true (jaq jgO y192):=by
 refine jaw (sp:=(sp_164 (sp_165 sp0))) (fn:=Tryz.f146) (body:=jai Tryz.f146) mixed (sp_164_ok (sp_165_ok jak)) Tryz.func146 (by kernel_rfl) (by kernel_rfl) fun as_ ob rs h ho=>?_
 unfold y192 at h
 split at h
 ·rename_i u28 u29 u24
  cases h
  exact⟨Nat.le_of_ble_eq_true rfl,_,_,jmi u28 u29 u24 _ (jaj ho)⟩
 ·cases h
theorem sp_146_ok {sp:jab} (h:jac Tryz.prog sp):jac Tryz.prog (sp_146 sp):=jag jmj h
def jhG:List (Option Cont):=[none,none]
def jj9 (u28 u29 u24:Int):Option Bool :=
 Option.bind (jcW u24) fun r0 =>
 if 0≤Int.tmod (wrap .i64 (u24+900)) (10:Int)∧Int.tmod (wrap .i64 (u24+900)) 10<(↑(10:Nat):Int)then
  if Int.toNat (Int.tmod (wrap .i64 (u24+900)) (10:Int))<List.length ja3 then
  Option.bind (y43 u28 u29 (List.getD ja3 (Int.toNat (Int.tmod (wrap .i64 (u24+900)) (10:Int))) (0:Int)) (wrap .i64 (wrap .i64 (Int.tdiv (wrap .i64 (u24+900)) (10:Int))-90))) fun r1 =>
  some (decide (r1≥0))
  else none
 else none
def jes:List A→Option (Prop × List RV)
 |[.s [.i .u64 u28,.i .u64 u29],.d (.i .i64 u24)]=>some (ok (jj9 u28 u29 u24),[.d (.b ((val (jj9 u28 u29 u24))))])
 |_=>none
abbrev sp_147:jab→jab:=jas 147 true (jaq jhG jes)
def joP (u28 u29 u24:Int):T (Bool) :=
 .call (jcW u24) fun r0 =>
 .obP (0≤Int.tmod (wrap .i64 (u24+900)) (10:Int)∧Int.tmod (wrap .i64 (u24+900)) 10<(↑(10:Nat):Int))
 (.obP (Int.toNat (Int.tmod (wrap .i64 (u24+900)) (10:Int))<List.length ja3)
 (.call (y43 u28 u29 (List.getD ja3 (Int.toNat (Int.tmod (wrap .i64 (u24+900)) (10:Int))) (0:Int)) (wrap .i64 (wrap .i64 (Int.tdiv (wrap .i64 (u24+900)) (10:Int))-90))) fun r1 =>
 .obT
 (.ret ((decide (r1≥0))) (fun r=>(Ob (decide (r1≥0)=r) ∧
 True)) ⟨⟨rfl⟩,trivial⟩)))
theorem jnC (u28 u29 u24:Int) (r:Bool) (h:Option.bind (jj9 u28 u29 u24) some=some r):ja6 Tryz.f147 ((sp_164 (sp_165 sp0))) (fun _ _ _=>none) [.s [.i .u64 u28,.i .u64 u29],.d (.i .i64 u24)] [.d (.b r)] :=
 T.vc (t:=joP u28 u29 u24) (by kernel_rfl) (by kernel_rfl) h
theorem jnD:jah Tryz.prog 147 true (jaq jhG jes):=by
 refine jaw (sp:=(sp_164 (sp_165 sp0))) (fn:=Tryz.f147) (body:=jai Tryz.f147) mixed (sp_164_ok (sp_165_ok jak)) Tryz.func147 (by kernel_rfl) (by kernel_rfl) fun as_ ob rs h ho=>?_
 unfold jes at h
 split at h
 ·rename_i u28 u29 u24
  cases h
  exact⟨Nat.le_of_ble_eq_true rfl,_,_,jnC u28 u29 u24 _ (jaj ho)⟩
 ·cases h
theorem sp_147_ok {sp:jab} (h:jac Tryz.prog sp):jac Tryz.prog (sp_147 sp):=jag jnD h
def jlS:List (Option Cont):=[none,none]
def jka (num den x0:Int):Option (Int ⊕ Int) :=
 Option.bind (y90 (wrap .u64 num) (wrap .u64 den) x0) fun r4 =>
 if(!r4)=true then
  some (.inl (wrap .i64 (x0-1)))
 else
  some (.inr x0)
def jkb (num den x1:Int):Option (Int ⊕ Int) :=
 Option.bind (jj9 (wrap .u64 num) (wrap .u64 den) x1) fun r5 =>
 if(!r5)=true then
  some (.inl (wrap .i64 (x1+1)))
 else
  some (.inr x1)
def jrR (u10 u62:Int):Option (Int × Int × Int) :=
 some ((u10,u62,0))
def joQ (num den u10:Int):Option (Int × Int × Int) :=
 Option.bind (jae (jkb num den) big (-90:Int)) (jrR u10)
def jgg (num den:Int):Option (Int × Int × Int) :=
 Option.bind (y86 num) fun r0 =>
 if(!r0)=true then
  some (((0:Int),0,2))
 else
  Option.bind (y86 den) fun r1 =>
  if(!r1)=true then
  some (((0:Int),0,2))
  else
  Option.bind (y75 num den) fun r2 =>
  if(r2)=true then
   some (((0:Int),0,8))
  else
   Option.bind (y75 den num) fun r3 =>
   if(r3)=true then
   some (((0:Int),0,8))
   else
   Option.bind (jae (jka num den) big (90:Int)) (joQ num den)
def jhb:List A→Option (Prop × List RV)
 |[.d (.i .i64 num),.d (.i .i64 den)]=>some (ok (jgg num den),[.s [.i .i64 ((val (jgg num den)).1),.i .i64 ((val (jgg num den)).2.1)],.d (.i .i64 ((val (jgg num den)).2.2))])
 |_=>none
abbrev sp_123:jab→jab:=jas 123 true (jaq jlS jhb)
theorem jrS (num den:Int) (r:Int × Int × Int) (h:Option.bind (jgg num den) some=some r):ja6 Tryz.f123 ((sp_144 (sp_145 (sp_146 (sp_147 sp0))))) (fun gs id _=>match id with
 |1=>some ⟨Int × Nat,fun z=>⟨[(4,.w (.c (.p 2 0 1 0))),(8,.w (.c (.p 3 0 1 0))),(9,.w (.c (.p 4 0 1 0)))],[(2,.box 30 [.d (.i .i64 0),.d (.i .i64 0)]),(3,.box 188 [.d (.i .u64 (wrap .u64 num)),.d (.i .u64 (wrap .u64 den))]),(4,.box 30 [.d (.i .i64 (Prod.fst z)),.d (.i .i64 (-90:Int))])],5⟩,fun z=>Option.bind (jae (jka num den) (Prod.snd z) (Prod.fst z)) (fun y0=>Option.bind (joQ num den y0) some)=some r,fun z=>Prod.snd z⟩
 |3=>some ⟨Int × Int × Nat,fun z=>⟨[(4,.w (.c (.p 2 0 1 0))),(8,.w (.c (.p 3 0 1 0))),(9,.w (.c (.p 4 0 1 0)))],[(2,.box 30 [.d (.i .i64 0),.d (.i .i64 0)]),(3,.box 188 [.d (.i .u64 (wrap .u64 num)),.d (.i .u64 (wrap .u64 den))]),(4,.box 30 [.d (.i .i64 (Prod.fst z)),.d (.i .i64 (Prod.fst (Prod.snd z)))])],5⟩,fun z=>Option.bind (jae (jkb num den) (Prod.snd (Prod.snd z)) (Prod.fst (Prod.snd z))) (fun y0=>Option.bind (jrR (Prod.fst z) y0) some)=some r,fun z=>Prod.snd (Prod.snd z)⟩
 |_=>none) [.d (.i .i64 num),.d (.i .i64 den)] [.s [.i .i64 r.1,.i .i64 r.2.1],.d (.i .i64 r.2.2)]:=by
 refine Eq.mp (by kernel_rfl:(
 (Ob (ok (y86 num)) ∧
 Br (!val (y86 num))
  ((Ob True ∧
 (Ob True ∧
 (Ob ((0:Int)=r.1) ∧
 (Ob ((0:Int)=r.2.1) ∧
 (Ob ((2:Int)=r.2.2) ∧
 True))))))
  ((Ob (ok (y86 den)) ∧
 Br (!val (y86 den))
  ((Ob True ∧
 (Ob True ∧
 (Ob ((0:Int)=r.1) ∧
 (Ob ((0:Int)=r.2.1) ∧
 (Ob ((2:Int)=r.2.2) ∧
 True))))))
  ((Ob (ok (y75 num den)) ∧
 Br (val (y75 num den))
  ((Ob True ∧
 (Ob True ∧
 (Ob ((0:Int)=r.1) ∧
 (Ob ((0:Int)=r.2.1) ∧
 (Ob ((8:Int)=r.2.2) ∧
 True))))))
  ((Ob (ok (y75 den num)) ∧
 Br (val (y75 den num))
  ((Ob True ∧
 (Ob True ∧
 (Ob ((0:Int)=r.1) ∧
 (Ob ((0:Int)=r.2.1) ∧
 (Ob ((8:Int)=r.2.2) ∧
 True))))))
  ((Ob True ∧
 (Ob True ∧
  ((∃(v0:Int × Nat),(Ob ((Option.bind (jae (jka num den) v0.2 v0.1) fun y0=>Option.bind (joQ num den y0) some)=some r) ∧
 (Ob (0=0) ∧
 (Ob (0=0) ∧
 (Ob (0=0) ∧
 (Ob ((0:Int)=(0:Int)) ∧
 (Ob ((0:Int)=(0:Int)) ∧
 (Ob (wrap .u64 num=wrap .u64 num) ∧
 (Ob (wrap .u64 den=wrap .u64 den) ∧
 (Ob ((90:Int)=v0.1) ∧
 (Ob ((-90:Int)=(-90:Int)) ∧
 True))))))))))) ∧
  (∀(v0:Int × Nat),((Option.bind (jae (jka num den) v0.2 v0.1) fun y0=>Option.bind (joQ num den y0) some)=some r →
 (Ob (ok (y90 (wrap .u64 num) (wrap .u64 den) v0.1)) ∧
 Br (!val (y90 (wrap .u64 num) (wrap .u64 den) v0.1))
  ((∃(v1:Int × Nat),(Ob ((Option.bind (jae (jka num den) v1.2 v1.1) fun y0=>Option.bind (joQ num den y0) some)=some r) ∧
 (Ob (v1.2<v0.2) ∧
 (Ob (0=0) ∧
 (Ob (0=0) ∧
 (Ob (0=0) ∧
 (Ob ((0:Int)=(0:Int)) ∧
 (Ob ((0:Int)=(0:Int)) ∧
 (Ob (wrap .u64 num=wrap .u64 num) ∧
 (Ob (wrap .u64 den=wrap .u64 den) ∧
 (Ob (wrap .i64 (v0.1-1)=v1.1) ∧
 (Ob ((-90:Int)=(-90:Int)) ∧
 True)))))))))))))
  (((∃(v1a:Int × Int × Nat),(Ob ((Option.bind (jae (jkb num den) v1a.2.2 v1a.2.1) fun y0=>Option.bind (jrR v1a.1 y0) some)=some r) ∧
 (Ob (0=0) ∧
 (Ob (0=0) ∧
 (Ob (0=0) ∧
 (Ob ((0:Int)=(0:Int)) ∧
 (Ob ((0:Int)=(0:Int)) ∧
 (Ob (wrap .u64 num=wrap .u64 num) ∧
 (Ob (wrap .u64 den=wrap .u64 den) ∧
 (Ob (v0.1=v1a.1) ∧
 (Ob ((-90:Int)=v1a.2.1) ∧
 True))))))))))) ∧
  (∀(v1a:Int × Int × Nat),((Option.bind (jae (jkb num den) v1a.2.2 v1a.2.1) fun y0=>Option.bind (jrR v1a.1 y0) some)=some r →
 (Ob (ok (jj9 (wrap .u64 num) (wrap .u64 den) v1a.2.1)) ∧
 Br (!val (jj9 (wrap .u64 num) (wrap .u64 den) v1a.2.1))
  ((∃(v2:Int × Int × Nat),(Ob ((Option.bind (jae (jkb num den) v2.2.2 v2.2.1) fun y0=>Option.bind (jrR v2.1 y0) some)=some r) ∧
 (Ob (v2.2.2<v1a.2.2) ∧
 (Ob (0=0) ∧
 (Ob (0=0) ∧
 (Ob (0=0) ∧
 (Ob ((0:Int)=(0:Int)) ∧
 (Ob ((0:Int)=(0:Int)) ∧
 (Ob (wrap .u64 num=wrap .u64 num) ∧
 (Ob (wrap .u64 den=wrap .u64 den) ∧
 (Ob (v1a.1=v2.1) ∧
 (Ob (wrap .i64 (v1a.2.1+1)=v2.2.1) ∧
 True)))))))))))))
  ((Ob True ∧
 (Ob True ∧
 (Ob (v1a.1=r.1) ∧
 (Ob (v1a.2.1=r.2.1) ∧
 (Ob ((0:Int)=r.2.2) ∧
 True))))))))))))))))))))))))))=_) ?_
 refine jav h fun h=>?_
 refine jaV h (fun h=>?_) (fun h=>?_)
 ·refine jad ?_
  refine jad ?_
  exact rcs h
 ·refine jav h fun h=>?_
  refine jaV h (fun h=>?_) (fun h=>?_)
  ·refine jad ?_
   refine jad ?_
   exact rcs h
  ·refine jav h fun h=>?_
   refine jaV h (fun h=>?_) (fun h=>?_)
   ·refine jad ?_
    refine jad ?_
    exact rcs h
   ·refine jav h fun h=>?_
    refine jaV h (fun h=>?_) (fun h=>?_)
    ·refine jad ?_
     refine jad ?_
     exact rcs h
    ·refine jad ?_
     refine jad ?_
     refine⟨⟨((90:Int),big),⟨jbe h⟩,(by repeat' constructor)⟩,fun z6 hz6=>?_⟩
     obtain⟨k6,hm6,h⟩:=jaU hz6
     refine jav h fun h=>?_
     refine jaV h (fun h=>?_) (fun h=>?_)
     ·exact⟨(_,k6),⟨jaQ h⟩,⟨ja0 hm6.symm⟩,(by repeat' constructor)⟩
     ·have h:=jaC h
      refine⟨⟨(Prod.fst z6,(-90:Int),big),⟨jbe h⟩,(by repeat' constructor)⟩,fun z7 hz7=>?_⟩
      obtain⟨k7,hm7,h⟩:=jaU hz7
      refine jav h fun h=>?_
      refine jaV h (fun h=>?_) (fun h=>?_)
      ·exact⟨(Prod.fst z7,_,k7),⟨jaQ h⟩,⟨ja0 hm7.symm⟩,(by repeat' constructor)⟩
      ·have h:=jaC h
       refine jad ?_
       refine jad ?_
       exact rcs h
theorem jrT:jah Tryz.prog 123 true (jaq jlS jhb):=by
 refine jaw (sp:=(sp_144 (sp_145 (sp_146 (sp_147 sp0))))) (fn:=Tryz.f123) (body:=jai Tryz.f123) mixed (sp_144_ok (sp_145_ok (sp_146_ok (sp_147_ok jak)))) Tryz.func123 (by kernel_rfl) (by kernel_rfl) fun as_ ob rs h ho=>?_
 unfold jhb at h
 split at h
 ·rename_i num den
  cases h
  exact⟨Nat.le_of_ble_eq_true rfl,_,_,jrS num den _ (jaj ho)⟩
 ·cases h
theorem sp_123_ok {sp:jab} (h:jac Tryz.prog sp):jac Tryz.prog (sp_123 sp):=jag jrT h
def jnE:List (Option Cont):=[none,none,none]
def y87 (sum u38 u25:Int):Option Bool :=
 Option.bind (y6 (wrap .u64 sum) (wrap .u64 sum)) fun r0 =>
 if 0≤u25∧u25<(↑(13:Nat):Int)then
  if Int.toNat u25<List.length jaz then
  Option.bind (y6 (wrap .u64 (wrap .u64 sum*wrap .u64 sum)) (List.getD jaz (Int.toNat u25) (0:Int))) fun r1 =>
  Option.bind (y6 (wrap .u64 u38) (wrap .u64 u38)) fun r2 =>
  if 0≤u25∧u25<(↑(13:Nat):Int)then
   if Int.toNat u25<List.length jaz then
   Option.bind (y25 [wrap .u64 (wrap .u64 (wrap .u64 (wrap .u64 (wrap .u64 (Int.fdiv (wrap .u64 sum) ((2:Int)^min (32:Nat) (IntKind.bits .u64))*Int.fdiv (wrap .u64 sum) ((2:Int)^min (32:Nat) (IntKind.bits .u64)))+Int.fdiv (wrap .u64 (wrap .u64 (Int.fdiv (wrap .u64 sum) ((2:Int)^min (32:Nat) (IntKind.bits .u64))*wrap .u64 (↑(BitVec.toNat (BitVec.ofInt (IntKind.bits .u64) (wrap .u64 sum) &&& BitVec.ofInt (IntKind.bits .u64) (4294967295:Int))):Int))+Int.fdiv (wrap .u64 (wrap .u64 (↑(BitVec.toNat (BitVec.ofInt (IntKind.bits .u64) (wrap .u64 sum) &&& BitVec.ofInt (IntKind.bits .u64) (4294967295:Int))):Int)*wrap .u64 (↑(BitVec.toNat (BitVec.ofInt (IntKind.bits .u64) (wrap .u64 sum) &&& BitVec.ofInt (IntKind.bits .u64) (4294967295:Int))):Int))) ((2:Int)^min (32:Nat) (IntKind.bits .u64)))) ((2:Int)^min (32:Nat) (IntKind.bits .u64)))+Int.fdiv (wrap .u64 (wrap .u64 (↑(BitVec.toNat (BitVec.ofInt (IntKind.bits .u64) (wrap .u64 (wrap .u64 (Int.fdiv (wrap .u64 sum) ((2:Int)^min (32:Nat) (IntKind.bits .u64))*wrap .u64 (↑(BitVec.toNat (BitVec.ofInt (IntKind.bits .u64) (wrap .u64 sum) &&& BitVec.ofInt (IntKind.bits .u64) (4294967295:Int))):Int))+Int.fdiv (wrap .u64 (wrap .u64 (↑(BitVec.toNat (BitVec.ofInt (IntKind.bits .u64) (wrap .u64 sum) &&& BitVec.ofInt (IntKind.bits .u64) (4294967295:Int))):Int)*wrap .u64 (↑(BitVec.toNat (BitVec.ofInt (IntKind.bits .u64) (wrap .u64 sum) &&& BitVec.ofInt (IntKind.bits .u64) (4294967295:Int))):Int))) ((2:Int)^min (32:Nat) (IntKind.bits .u64)))) &&& BitVec.ofInt (IntKind.bits .u64) (4294967295:Int))):Int)+wrap .u64 (wrap .u64 (↑(BitVec.toNat (BitVec.ofInt (IntKind.bits .u64) (wrap .u64 sum) &&& BitVec.ofInt (IntKind.bits .u64) (4294967295:Int))):Int)*Int.fdiv (wrap .u64 sum) ((2:Int)^min (32:Nat) (IntKind.bits .u64))))) ((2:Int)^min (32:Nat) (IntKind.bits .u64)))*List.getD jaz (Int.toNat u25) (0:Int))+wrap .u64 (wrap .u64 (wrap .u64 (Int.fdiv (wrap .u64 (wrap .u64 sum*wrap .u64 sum)) ((2:Int)^min (32:Nat) (IntKind.bits .u64))*Int.fdiv (List.getD jaz (Int.toNat u25) (0:Int)) ((2:Int)^min (32:Nat) (IntKind.bits .u64)))+Int.fdiv (wrap .u64 (wrap .u64 (Int.fdiv (wrap .u64 (wrap .u64 sum*wrap .u64 sum)) ((2:Int)^min (32:Nat) (IntKind.bits .u64))*wrap .u64 (↑(BitVec.toNat (BitVec.ofInt (IntKind.bits .u64) (List.getD jaz (Int.toNat u25) (0:Int)) &&& BitVec.ofInt (IntKind.bits .u64) (4294967295:Int))):Int))+Int.fdiv (wrap .u64 (wrap .u64 (↑(BitVec.toNat (BitVec.ofInt (IntKind.bits .u64) (wrap .u64 (wrap .u64 sum*wrap .u64 sum)) &&& BitVec.ofInt (IntKind.bits .u64) (4294967295:Int))):Int)*wrap .u64 (↑(BitVec.toNat (BitVec.ofInt (IntKind.bits .u64) (List.getD jaz (Int.toNat u25) (0:Int)) &&& BitVec.ofInt (IntKind.bits .u64) (4294967295:Int))):Int))) ((2:Int)^min (32:Nat) (IntKind.bits .u64)))) ((2:Int)^min (32:Nat) (IntKind.bits .u64)))+Int.fdiv (wrap .u64 (wrap .u64 (↑(BitVec.toNat (BitVec.ofInt (IntKind.bits .u64) (wrap .u64 (wrap .u64 (Int.fdiv (wrap .u64 (wrap .u64 sum*wrap .u64 sum)) ((2:Int)^min (32:Nat) (IntKind.bits .u64))*wrap .u64 (↑(BitVec.toNat (BitVec.ofInt (IntKind.bits .u64) (List.getD jaz (Int.toNat u25) (0:Int)) &&& BitVec.ofInt (IntKind.bits .u64) (4294967295:Int))):Int))+Int.fdiv (wrap .u64 (wrap .u64 (↑(BitVec.toNat (BitVec.ofInt (IntKind.bits .u64) (wrap .u64 (wrap .u64 sum*wrap .u64 sum)) &&& BitVec.ofInt (IntKind.bits .u64) (4294967295:Int))):Int)*wrap .u64 (↑(BitVec.toNat (BitVec.ofInt (IntKind.bits .u64) (List.getD jaz (Int.toNat u25) (0:Int)) &&& BitVec.ofInt (IntKind.bits .u64) (4294967295:Int))):Int))) ((2:Int)^min (32:Nat) (IntKind.bits .u64)))) &&& BitVec.ofInt (IntKind.bits .u64) (4294967295:Int))):Int)+wrap .u64 (wrap .u64 (↑(BitVec.toNat (BitVec.ofInt (IntKind.bits .u64) (wrap .u64 (wrap .u64 sum*wrap .u64 sum)) &&& BitVec.ofInt (IntKind.bits .u64) (4294967295:Int))):Int)*Int.fdiv (List.getD jaz (Int.toNat u25) (0:Int)) ((2:Int)^min (32:Nat) (IntKind.bits .u64))))) ((2:Int)^min (32:Nat) (IntKind.bits .u64)))),wrap .u64 (wrap .u64 (wrap .u64 sum*wrap .u64 sum)*List.getD jaz (Int.toNat u25) (0:Int))] [wrap .u64 (wrap .u64 (wrap .u64 (Int.fdiv (wrap .u64 u38) ((2:Int)^min (32:Nat) (IntKind.bits .u64))*Int.fdiv (wrap .u64 u38) ((2:Int)^min (32:Nat) (IntKind.bits .u64)))+Int.fdiv (wrap .u64 (wrap .u64 (Int.fdiv (wrap .u64 u38) ((2:Int)^min (32:Nat) (IntKind.bits .u64))*wrap .u64 (↑(BitVec.toNat (BitVec.ofInt (IntKind.bits .u64) (wrap .u64 u38) &&& BitVec.ofInt (IntKind.bits .u64) (4294967295:Int))):Int))+Int.fdiv (wrap .u64 (wrap .u64 (↑(BitVec.toNat (BitVec.ofInt (IntKind.bits .u64) (wrap .u64 u38) &&& BitVec.ofInt (IntKind.bits .u64) (4294967295:Int))):Int)*wrap .u64 (↑(BitVec.toNat (BitVec.ofInt (IntKind.bits .u64) (wrap .u64 u38) &&& BitVec.ofInt (IntKind.bits .u64) (4294967295:Int))):Int))) ((2:Int)^min (32:Nat) (IntKind.bits .u64)))) ((2:Int)^min (32:Nat) (IntKind.bits .u64)))+Int.fdiv (wrap .u64 (wrap .u64 (↑(BitVec.toNat (BitVec.ofInt (IntKind.bits .u64) (wrap .u64 (wrap .u64 (Int.fdiv (wrap .u64 u38) ((2:Int)^min (32:Nat) (IntKind.bits .u64))*wrap .u64 (↑(BitVec.toNat (BitVec.ofInt (IntKind.bits .u64) (wrap .u64 u38) &&& BitVec.ofInt (IntKind.bits .u64) (4294967295:Int))):Int))+Int.fdiv (wrap .u64 (wrap .u64 (↑(BitVec.toNat (BitVec.ofInt (IntKind.bits .u64) (wrap .u64 u38) &&& BitVec.ofInt (IntKind.bits .u64) (4294967295:Int))):Int)*wrap .u64 (↑(BitVec.toNat (BitVec.ofInt (IntKind.bits .u64) (wrap .u64 u38) &&& BitVec.ofInt (IntKind.bits .u64) (4294967295:Int))):Int))) ((2:Int)^min (32:Nat) (IntKind.bits .u64)))) &&& BitVec.ofInt (IntKind.bits .u64) (4294967295:Int))):Int)+wrap .u64 (wrap .u64 (↑(BitVec.toNat (BitVec.ofInt (IntKind.bits .u64) (wrap .u64 u38) &&& BitVec.ofInt (IntKind.bits .u64) (4294967295:Int))):Int)*Int.fdiv (wrap .u64 u38) ((2:Int)^min (32:Nat) (IntKind.bits .u64))))) ((2:Int)^min (32:Nat) (IntKind.bits .u64))),wrap .u64 (wrap .u64 u38*wrap .u64 u38)]) fun r3 =>
   some (decide (r3≤0))
   else none
  else none
  else none
 else none
def jiv:List A→Option (Prop × List RV)
 |[.d (.i .i64 sum),.d (.i .i64 u38),.d (.i .i64 u25)]=>some (ok (y87 sum u38 u25),[.d (.b ((val (y87 sum u38 u25))))])
 |_=>none
abbrev sp_96:jab→jab:=jas 96 true (jaq jnE jiv)
abbrev jbO  := ((2:Int)^min (32:Nat) (IntKind.bits .u64))
abbrev jqR (sum:Int):=(↑(BitVec.toNat (BitVec.ofInt (IntKind.bits .u64) (wrap .u64 sum) &&& BitVec.ofInt (IntKind.bits .u64) (4294967295:Int))):Int)
abbrev jqS (u38:Int):=(↑(BitVec.toNat (BitVec.ofInt (IntKind.bits .u64) (wrap .u64 u38) &&& BitVec.ofInt (IntKind.bits .u64) (4294967295:Int))):Int)
abbrev jv6 (sum u25:Int):=(wrap .u64 (wrap .u64 (Int.fdiv (wrap .u64 (wrap .u64 sum*wrap .u64 sum)) (jbO)*wrap .u64 (↑(BitVec.toNat (BitVec.ofInt (IntKind.bits .u64) (List.getD jaz (Int.toNat u25) (0:Int)) &&& BitVec.ofInt (IntKind.bits .u64) (4294967295:Int))):Int))+Int.fdiv (wrap .u64 (wrap .u64 (↑(BitVec.toNat (BitVec.ofInt (IntKind.bits .u64) (wrap .u64 (wrap .u64 sum*wrap .u64 sum)) &&& BitVec.ofInt (IntKind.bits .u64) (4294967295:Int))):Int)*wrap .u64 (↑(BitVec.toNat (BitVec.ofInt (IntKind.bits .u64) (List.getD jaz (Int.toNat u25) (0:Int)) &&& BitVec.ofInt (IntKind.bits .u64) (4294967295:Int))):Int))) (jbO)))
abbrev jv7 (u38:Int):=(wrap .u64 (wrap .u64 (Int.fdiv (wrap .u64 u38) (jbO)*wrap .u64 (jqS u38))+Int.fdiv (wrap .u64 (wrap .u64 (jqS u38)*wrap .u64 (jqS u38))) (jbO)))
abbrev jv8 (sum:Int):=(wrap .u64 (wrap .u64 (Int.fdiv (wrap .u64 sum) (jbO)*wrap .u64 (jqR sum))+Int.fdiv (wrap .u64 (wrap .u64 (jqR sum)*wrap .u64 (jqR sum))) (jbO)))
def juT (sum u38 u25:Int):T (Bool) :=
 .obT
 (.obT
 (.call (y6 (wrap .u64 sum) (wrap .u64 sum)) fun r0 =>
 .obP (0≤u25∧u25<(↑(13:Nat):Int))
 (.obP (Int.toNat u25<List.length jaz)
 (.call (y6 (wrap .u64 (wrap .u64 sum*wrap .u64 sum)) (List.getD jaz (Int.toNat u25) (0:Int))) fun r1 =>
 .obT
 (.obT
 (.call (y6 (wrap .u64 u38) (wrap .u64 u38)) fun r2 =>
 .obP (0≤u25∧u25<(↑(13:Nat):Int))
 (.obP (Int.toNat u25<List.length jaz)
 (.call (y25 [wrap .u64 (wrap .u64 (wrap .u64 (wrap .u64 (wrap .u64 (Int.fdiv (wrap .u64 sum) (jbO)*Int.fdiv (wrap .u64 sum) (jbO))+Int.fdiv (jv8 sum) (jbO))+Int.fdiv (wrap .u64 (wrap .u64 (↑(BitVec.toNat (BitVec.ofInt (IntKind.bits .u64) (jv8 sum) &&& BitVec.ofInt (IntKind.bits .u64) (4294967295:Int))):Int)+wrap .u64 (wrap .u64 (jqR sum)*Int.fdiv (wrap .u64 sum) (jbO)))) (jbO))*List.getD jaz (Int.toNat u25) (0:Int))+wrap .u64 (wrap .u64 (wrap .u64 (Int.fdiv (wrap .u64 (wrap .u64 sum*wrap .u64 sum)) (jbO)*Int.fdiv (List.getD jaz (Int.toNat u25) (0:Int)) (jbO))+Int.fdiv (jv6 sum u25) (jbO))+Int.fdiv (wrap .u64 (wrap .u64 (↑(BitVec.toNat (BitVec.ofInt (IntKind.bits .u64) (jv6 sum u25) &&& BitVec.ofInt (IntKind.bits .u64) (4294967295:Int))):Int)+wrap .u64 (wrap .u64 (↑(BitVec.toNat (BitVec.ofInt (IntKind.bits .u64) (wrap .u64 (wrap .u64 sum*wrap .u64 sum)) &&& BitVec.ofInt (IntKind.bits .u64) (4294967295:Int))):Int)*Int.fdiv (List.getD jaz (Int.toNat u25) (0:Int)) (jbO)))) (jbO))),wrap .u64 (wrap .u64 (wrap .u64 sum*wrap .u64 sum)*List.getD jaz (Int.toNat u25) (0:Int))] [wrap .u64 (wrap .u64 (wrap .u64 (Int.fdiv (wrap .u64 u38) (jbO)*Int.fdiv (wrap .u64 u38) (jbO))+Int.fdiv (jv7 u38) (jbO))+Int.fdiv (wrap .u64 (wrap .u64 (↑(BitVec.toNat (BitVec.ofInt (IntKind.bits .u64) (jv7 u38) &&& BitVec.ofInt (IntKind.bits .u64) (4294967295:Int))):Int)+wrap .u64 (wrap .u64 (jqS u38)*Int.fdiv (wrap .u64 u38) (jbO)))) (jbO)),wrap .u64 (wrap .u64 u38*wrap .u64 u38)]) fun r3 =>
 .obT
 (.ret ((decide (r3≤0))) (fun r=>(Ob (decide (r3≤0)=r) ∧
 True)) ⟨⟨rfl⟩,trivial⟩)))))))))
theorem jth (sum u38 u25:Int) (r:Bool) (h:Option.bind (y87 sum u38 u25) some=some r):ja6 Tryz.f96 ((sp_126 (sp_131 sp0))) (fun _ _ _=>none) [.d (.i .i64 sum),.d (.i .i64 u38),.d (.i .i64 u25)] [.d (.b r)] :=
 T.vc (t:=juT sum u38 u25) (by kernel_rfl) (by kernel_rfl) h
theorem jti:jah Tryz.prog 96 true (jaq jnE jiv):=by
 refine jaw (sp:=(sp_126 (sp_131 sp0))) (fn:=Tryz.f96) (body:=jai Tryz.f96) mixed (sp_126_ok (sp_131_ok jak)) Tryz.func96 (by kernel_rfl) (by kernel_rfl) fun as_ ob rs h ho=>?_
 unfold jiv at h
 split at h
 ·rename_i sum u38 u25
  cases h
  exact⟨Nat.le_of_ble_eq_true rfl,_,_,jth sum u38 u25 _ (jaj ho)⟩
 ·cases h
theorem sp_96_ok {sp:jab} (h:jac Tryz.prog sp):jac Tryz.prog (sp_96 sp):=jag jti h
end Go.Sh
end

section
namespace Go.Sh
open Go Go.Proofs Go.RowKit Go.Sx
open Go.IntKind (wrap)
def y141:List SV:=[.a [.d,.d],.c (.p [.p [.d,.r (.floats .f32 []),.d,.d,.r (.recs 2 []),.r (.recs 2 [])]]),.c (.p [.d])]
def y58 (u39 u40 u18:Int) (u19:List Nat) (u20 u21:Int) (u22 u23:List (List Int)) (v1_:Int):Option Bool :=
 if(0:Int)≤0∧0<(↑(List.length u23):Int)then
  if 0<List.length u23 then
  Option.bind (y87 u39 (List.getD (List.getD u23 (0:Nat) []) 1 (0:Int)) v1_) fun r0 =>
  some r0
  else none
 else none
def y142:List Lf→Option GT
 |[.d (.i .i64 u39),.d (.i .i64 u40),.d (.i .i64 u18),.r (.floats .f32 u19),.d (.i .i64 u20),.d (.i .i64 u21),.r (.recs 2 u22),.r (.recs 2 u23),.d (.i .i64 v1_)]=>some (.leaf (ok (y58 u39 u40 u18 u19 u20 u21 u22 u23 v1_)) [.c (.d (.b ((val (y58 u39 u40 u18 u19 u20 u21 u22 u23 v1_)))))])
 |_=>none
abbrev sp_142:jab→jab:=jas 142 true (jal y141 y142)
theorem jiw (u39 u40 u18:Int) (u19:List Nat) (u20 u21:Int) (u22 u23:List (List Int)) (v1_:Int) (r:Bool) (h:Option.bind (y58 u39 u40 u18 u19 u20 u21 u22 u23 v1_) some=some r):jaY Tryz.f142 ((sp_96 sp0)) (fun _ _ _=>none) (jaO y141 [.d (.i .i64 u39),.d (.i .i64 u40),.d (.i .i64 u18),.r (.floats .f32 u19),.d (.i .i64 u20),.d (.i .i64 u21),.r (.recs 2 u22),.r (.recs 2 u23),.d (.i .i64 v1_)]) [.c (.d (.b r))]:=by
 refine Eq.mp (by kernel_rfl:(
 (Ob True ∧
 (Ob True ∧
 (Ob ((0:Int)≤0∧0<(↑(List.length u23):Int)) ∧
 (Ob (0<List.length u23) ∧
 (Ob True ∧
 (Ob (ok (y87 u39 (List.getD (List.getD u23 (0:Nat) []) 1 (0:Int)) v1_)) ∧
 (Ob True ∧
 (Ob (val (y87 u39 (List.getD (List.getD u23 (0:Nat) []) 1 (0:Int)) v1_)=r) ∧
 True)))))))))=_) ?_
 refine jad ?_
 refine jad ?_
 refine jat h fun h=>?_
 refine jat h fun h=>?_
 refine jad ?_
 refine jav h fun h=>?_
 refine jad ?_
 exact rcs h
theorem jix:jah Tryz.prog 142 true (jal y141 y142):=by
 refine jau (sp:=(sp_96 sp0)) (fn:=Tryz.f142) (body:=jai Tryz.f142) mixed (sp_96_ok jak) Tryz.func142 (by kernel_rfl) (by kernel_rfl) fun ls t h ho b hb=>?_
 unfold y142 at h
 split at h
 ·rename_i u39 u40 u18 u19 u20 u21 u22 u23 v1_
  cases h
  obtain rfl:=jaD hb
  exact⟨Nat.le_of_ble_eq_true (by kernel_rfl),_,_,jiw u39 u40 u18 u19 u20 u21 u22 u23 v1_ _ (jaj ho)⟩
 ·cases h
theorem sp_142_ok {sp:jab} (h:jac Tryz.prog sp):jac Tryz.prog (sp_142 sp):=jag jix h
def y143:List SV:=[.a [.d,.d],.c (.p [.p [.d,.r (.floats .f32 []),.d,.d,.r (.recs 2 []),.r (.recs 2 [])]]),.c (.p [.d])]
def y59 (u39 u40 u18:Int) (u19:List Nat) (u20 u21:Int) (u22 u23:List (List Int)) (v1_:Int):Option Bool :=
 if(0:Int)≤0∧0<(↑(List.length u23):Int)then
  if 0<List.length u23 then
  Option.bind (y87 u40 (List.getD (List.getD u23 (0:Nat) []) 0 (0:Int)) v1_) fun r0 =>
  some r0
  else none
 else none
def y144:List Lf→Option GT
 |[.d (.i .i64 u39),.d (.i .i64 u40),.d (.i .i64 u18),.r (.floats .f32 u19),.d (.i .i64 u20),.d (.i .i64 u21),.r (.recs 2 u22),.r (.recs 2 u23),.d (.i .i64 v1_)]=>some (.leaf (ok (y59 u39 u40 u18 u19 u20 u21 u22 u23 v1_)) [.c (.d (.b ((val (y59 u39 u40 u18 u19 u20 u21 u22 u23 v1_)))))])
 |_=>none
abbrev sp_143:jab→jab:=jas 143 true (jal y143 y144)
theorem jiy (u39 u40 u18:Int) (u19:List Nat) (u20 u21:Int) (u22 u23:List (List Int)) (v1_:Int) (r:Bool) (h:Option.bind (y59 u39 u40 u18 u19 u20 u21 u22 u23 v1_) some=some r):jaY Tryz.f143 ((sp_96 sp0)) (fun _ _ _=>none) (jaO y143 [.d (.i .i64 u39),.d (.i .i64 u40),.d (.i .i64 u18),.r (.floats .f32 u19),.d (.i .i64 u20),.d (.i .i64 u21),.r (.recs 2 u22),.r (.recs 2 u23),.d (.i .i64 v1_)]) [.c (.d (.b r))]:=by
 refine Eq.mp (by kernel_rfl:(
 (Ob True ∧
 (Ob True ∧
 (Ob ((0:Int)≤0∧0<(↑(List.length u23):Int)) ∧
 (Ob (0<List.length u23) ∧
 (Ob True ∧
 (Ob (ok (y87 u40 (List.getD (List.getD u23 (0:Nat) []) 0 (0:Int)) v1_)) ∧
 (Ob True ∧
 (Ob (val (y87 u40 (List.getD (List.getD u23 (0:Nat) []) 0 (0:Int)) v1_)=r) ∧
 True)))))))))=_) ?_
 refine jad ?_
 refine jad ?_
 refine jat h fun h=>?_
 refine jat h fun h=>?_
 refine jad ?_
 refine jav h fun h=>?_
 refine jad ?_
 exact rcs h
theorem jiz:jah Tryz.prog 143 true (jal y143 y144):=by
 refine jau (sp:=(sp_96 sp0)) (fn:=Tryz.f143) (body:=jai Tryz.f143) mixed (sp_96_ok jak) Tryz.func143 (by kernel_rfl) (by kernel_rfl) fun ls t h ho b hb=>?_
 unfold y144 at h
 split at h
 ·rename_i u39 u40 u18 u19 u20 u21 u22 u23 v1_
  cases h
  obtain rfl:=jaD hb
  exact⟨Nat.le_of_ble_eq_true (by kernel_rfl),_,_,jiy u39 u40 u18 u19 u20 u21 u22 u23 v1_ _ (jaj ho)⟩
 ·cases h
theorem sp_143_ok {sp:jab} (h:jac Tryz.prog sp):jac Tryz.prog (sp_143 sp):=jag jiz h
def y177:List SV:=[.a [.d,.d],.c (.p [.p [.d,.r (.floats .f32 []),.d,.d,.r (.recs 2 []),.r (.recs 2 [])]]),.c (.p [.d])]
def joR (u63 u65 u18:Int) (u19:List Nat) (u20 u21:Int) (u22 u23:List (List Int)) (v1_:Int):Option Bool :=
 if(0:Int)≤0∧0<(↑(List.length u23):Int)then
  if 0<List.length u23 then
  Option.bind (y87 u63 (List.getD (List.getD u23 (0:Nat) []) 0 (0:Int)) v1_) fun r0 =>
  some r0
  else none
 else none
def y178:List Lf→Option GT
 |[.d (.i .i64 u63),.d (.i .i64 u65),.d (.i .i64 u18),.r (.floats .f32 u19),.d (.i .i64 u20),.d (.i .i64 u21),.r (.recs 2 u22),.r (.recs 2 u23),.d (.i .i64 v1_)]=>some (.leaf (ok (joR u63 u65 u18 u19 u20 u21 u22 u23 v1_)) [.c (.d (.b ((val (joR u63 u65 u18 u19 u20 u21 u22 u23 v1_)))))])
 |_=>none
abbrev sp_95:jab→jab:=jas 95 true (jal y177 y178)
theorem jlo (u63 u65 u18:Int) (u19:List Nat) (u20 u21:Int) (u22 u23:List (List Int)) (v1_:Int) (r:Bool) (h:Option.bind (joR u63 u65 u18 u19 u20 u21 u22 u23 v1_) some=some r):jaY Tryz.f95 ((sp_96 sp0)) (fun _ _ _=>none) (jaO y177 [.d (.i .i64 u63),.d (.i .i64 u65),.d (.i .i64 u18),.r (.floats .f32 u19),.d (.i .i64 u20),.d (.i .i64 u21),.r (.recs 2 u22),.r (.recs 2 u23),.d (.i .i64 v1_)]) [.c (.d (.b r))]:=by
 refine Eq.mp (by kernel_rfl:(
 (Ob True ∧
 (Ob True ∧
 (Ob ((0:Int)≤0∧0<(↑(List.length u23):Int)) ∧
 (Ob (0<List.length u23) ∧
 (Ob True ∧
 (Ob (ok (y87 u63 (List.getD (List.getD u23 (0:Nat) []) 0 (0:Int)) v1_)) ∧
 (Ob True ∧
 (Ob (val (y87 u63 (List.getD (List.getD u23 (0:Nat) []) 0 (0:Int)) v1_)=r) ∧
 True)))))))))=_) ?_
 refine jad ?_
 refine jad ?_
 refine jat h fun h=>?_
 refine jat h fun h=>?_
 refine jad ?_
 refine jav h fun h=>?_
 refine jad ?_
 exact rcs h
theorem jlp:jah Tryz.prog 95 true (jal y177 y178):=by
 refine jau (sp:=(sp_96 sp0)) (fn:=Tryz.f95) (body:=jai Tryz.f95) mixed (sp_96_ok jak) Tryz.func95 (by kernel_rfl) (by kernel_rfl) fun ls t h ho b hb=>?_
 unfold y178 at h
 split at h
 ·rename_i u63 u65 u18 u19 u20 u21 u22 u23 v1_
  cases h
  obtain rfl:=jaD hb
  exact⟨Nat.le_of_ble_eq_true (by kernel_rfl),_,_,jlo u63 u65 u18 u19 u20 u21 u22 u23 v1_ _ (jaj ho)⟩
 ·cases h
theorem sp_95_ok {sp:jab} (h:jac Tryz.prog sp):jac Tryz.prog (sp_95 sp):=jag jlp h
def y93:List SV:=[.c (.r (.recs 2 [])),.c (.f 142 [.p [.p [.d,.r (.floats .f32 []),.d,.d,.r (.recs 2 []),.r (.recs 2 [])]],.p [.d]])]
def y16 (s:List (List Int)) (u30:Int) (u31:List Nat) (u32 u33:Int) (u34 u35:List (List Int)) (f1_ x0:Int):Option (Int ⊕ (Int ⊕ Unit)) :=
 if x0<(↑(List.length s):Int)then
  if 0≤x0∧x0<(↑(List.length s):Int)then
  if Int.toNat x0<List.length s then
   Option.bind (y58 (List.getD (List.getD s (Int.toNat x0) []) 0 (0:Int)) (List.getD (List.getD s (Int.toNat x0) []) 1 (0:Int)) u30 u31 u32 u33 u34 u35 f1_) fun r0 =>
   if(r0)=true then
   some (.inr (.inl x0))
   else
   some (.inl (wrap .i64 (x0+1)))
  else none
  else none
 else
  some (.inr ((.inr ())))
def y185 (u10:Int):Option Int :=
 some u10
def y186 (u27:Unit):Option Int :=
 some (-1:Int)
def y47:(Int ⊕ Unit)→Option Int :=
 (Sum.elim (y185) (y186))
def y31 (s:List (List Int)) (u30:Int) (u31:List Nat) (u32 u33:Int) (u34 u35:List (List Int)) (f1_:Int):Option Int :=
 Option.bind (jae (y16 s u30 u31 u32 u33 u34 u35 f1_) big (0:Int)) (y47)
def y94:List Lf→Option GT
 |[.r (.recs 2 s),.d (.i .i64 u30),.r (.floats .f32 u31),.d (.i .i64 u32),.d (.i .i64 u33),.r (.recs 2 u34),.r (.recs 2 u35),.d (.i .i64 f1_)]=>some (.leaf (ok (y31 s u30 u31 u32 u33 u34 u35 f1_)) [.c (.d (.i .i64 ((val (y31 s u30 u31 u32 u33 u34 u35 f1_)))))])
 |_=>none
theorem y207 (s:List (List Int)) (u30:Int) (u31:List Nat) (u32 u33:Int) (u34 u35:List (List Int)) (f1_ r:Int) (h:Option.bind (y31 s u30 u31 u32 u33 u34 u35 f1_) some=some r):jaY Tryz.f94 ((sp_142 sp0)) (fun gs id _=>match id with
 |0=>some ⟨Int × Nat,fun z=>⟨[(0,.w (.c (.o 0))),(1,.w (.c (.fn 142 [5,6]))),(7,.w (.c (.d (.i .i64 ((↑(List.length s):Int)))))),(8,.w (.c (.d (.i .i64 (Prod.fst z)))))],[(0,.ext (.recs 2 s)),(5,.ebox [.p 4 0 1 0]),(6,.ebox [.d (.i .i64 f1_)]),(4,.ebox [.d (.i .i64 u30),.o 1,.d (.i .i64 u32),.d (.i .i64 u33),.o 2,.o 3]),(1,.ext (.floats .f32 u31)),(2,.ext (.recs 2 u34)),(3,.ext (.recs 2 u35))],7⟩,fun z=>Option.bind (jae (y16 s u30 u31 u32 u33 u34 u35 f1_) (Prod.snd z) (Prod.fst z)) (fun y0=>Option.bind (y47 y0) some)=some r,fun z=>Prod.snd z⟩
 |_=>none) (jaO y93 [.r (.recs 2 s),.d (.i .i64 u30),.r (.floats .f32 u31),.d (.i .i64 u32),.d (.i .i64 u33),.r (.recs 2 u34),.r (.recs 2 u35),.d (.i .i64 f1_)]) [.c (.d (.i .i64 r))]:=by
 refine Eq.mp (by kernel_rfl:(
 ((∃(v0:Int × Nat),(Ob ((Option.bind (jae (y16 s u30 u31 u32 u33 u34 u35 f1_) v0.2 v0.1) fun y0=>Option.bind (y47 y0) some)=some r) ∧
 (Ob ((↑(List.length s):Int)=(↑(List.length s):Int)) ∧
 (Ob ((0:Int)=v0.1) ∧
 (Ob (s=s) ∧
 (Ob (0=0) ∧
 (Ob (f1_=f1_) ∧
 (Ob (u30=u30) ∧
 (Ob (u32=u32) ∧
 (Ob (u33=u33) ∧
 (Ob (u31=u31) ∧
 (Ob (u34=u34) ∧
 (Ob (u35=u35) ∧
 True))))))))))))) ∧
  (∀(v0:Int × Nat),((Option.bind (jae (y16 s u30 u31 u32 u33 u34 u35 f1_) v0.2 v0.1) fun y0=>Option.bind (y47 y0) some)=some r →
 Br (decide (v0.1<(↑(List.length s):Int)))
  ((Ob (0≤v0.1∧v0.1<(↑(List.length s):Int)) ∧
 (Ob (Int.toNat v0.1<List.length s) ∧
 (Ob (ok (y58 (List.getD (List.getD s (Int.toNat v0.1) []) 0 (0:Int)) (List.getD (List.getD s (Int.toNat v0.1) []) 1 (0:Int)) u30 u31 u32 u33 u34 u35 f1_)) ∧
 Br (val (y58 (List.getD (List.getD s (Int.toNat v0.1) []) 0 (0:Int)) (List.getD (List.getD s (Int.toNat v0.1) []) 1 (0:Int)) u30 u31 u32 u33 u34 u35 f1_))
  ((Ob True ∧
 (Ob (v0.1=r) ∧
 True)))
  ((∃(v1:Int × Nat),(Ob ((Option.bind (jae (y16 s u30 u31 u32 u33 u34 u35 f1_) v1.2 v1.1) fun y0=>Option.bind (y47 y0) some)=some r) ∧
 (Ob (v1.2<v0.2) ∧
 (Ob ((↑(List.length s):Int)=(↑(List.length s):Int)) ∧
 (Ob (wrap .i64 (v0.1+1)=v1.1) ∧
 (Ob (s=s) ∧
 (Ob (0=0) ∧
 (Ob (f1_=f1_) ∧
 (Ob (u30=u30) ∧
 (Ob (u32=u32) ∧
 (Ob (u33=u33) ∧
 (Ob (u31=u31) ∧
 (Ob (u34=u34) ∧
 (Ob (u35=u35) ∧
 True)))))))))))))))))))
  ((Ob True ∧
 (Ob ((-1:Int)=r) ∧
 True)))))))=_) ?_
 refine⟨⟨((0:Int),big),⟨jbe h⟩,(by repeat' constructor)⟩,fun z1 hz1=>?_⟩
 obtain⟨k1,hm1,h⟩:=jaU hz1
 refine jaT h (fun h=>?_) (fun h=>?_)
 ·refine jat h fun h=>?_
  refine jat h fun h=>?_
  refine jav h fun h=>?_
  refine jaV h (fun h=>?_) (fun h=>?_)
  ·have h:=jaC h
   refine jad ?_
   exact rcs h
  ·exact⟨(_,k1),⟨jaQ h⟩,⟨ja0 hm1.symm⟩,(by repeat' constructor)⟩
 ·have h:=jaC h
  refine jad ?_
  exact rcs h
theorem y208:jah Tryz.prog 94 true (jal y93 y94):=by
 refine jau (sp:=(sp_142 sp0)) (fn:=Tryz.f94) (body:=jai Tryz.f94) mixed (sp_142_ok jak) Tryz.func94 (by kernel_rfl) (by kernel_rfl) fun ls t h ho b hb=>?_
 unfold y94 at h
 split at h
 ·rename_i s u30 u31 u32 u33 u34 u35 f1_
  cases h
  obtain rfl:=jaD hb
  exact⟨Nat.le_of_ble_eq_true (by kernel_rfl),_,_,y207 s u30 u31 u32 u33 u34 u35 f1_ _ (jaj ho)⟩
 ·cases h
def y95:List SV:=[.c (.r (.recs 2 [])),.c (.f 143 [.p [.p [.d,.r (.floats .f32 []),.d,.d,.r (.recs 2 []),.r (.recs 2 [])]],.p [.d]])]
def y17 (s:List (List Int)) (u30:Int) (u31:List Nat) (u32 u33:Int) (u34 u35:List (List Int)) (f1_ x0:Int):Option (Int ⊕ (Int ⊕ Unit)) :=
 if x0<(↑(List.length s):Int)then
  if 0≤x0∧x0<(↑(List.length s):Int)then
  if Int.toNat x0<List.length s then
   Option.bind (y59 (List.getD (List.getD s (Int.toNat x0) []) 0 (0:Int)) (List.getD (List.getD s (Int.toNat x0) []) 1 (0:Int)) u30 u31 u32 u33 u34 u35 f1_) fun r0 =>
   if(r0)=true then
   some (.inr (.inl x0))
   else
   some (.inl (wrap .i64 (x0+1)))
  else none
  else none
 else
  some (.inr ((.inr ())))
def y187 (u10:Int):Option Int :=
 some u10
def y188 (u27:Unit):Option Int :=
 some (-1:Int)
def y48:(Int ⊕ Unit)→Option Int :=
 (Sum.elim (y187) (y188))
def y32 (s:List (List Int)) (u30:Int) (u31:List Nat) (u32 u33:Int) (u34 u35:List (List Int)) (f1_:Int):Option Int :=
 Option.bind (jae (y17 s u30 u31 u32 u33 u34 u35 f1_) big (0:Int)) (y48)
def y96:List Lf→Option GT
 |[.r (.recs 2 s),.d (.i .i64 u30),.r (.floats .f32 u31),.d (.i .i64 u32),.d (.i .i64 u33),.r (.recs 2 u34),.r (.recs 2 u35),.d (.i .i64 f1_)]=>some (.leaf (ok (y32 s u30 u31 u32 u33 u34 u35 f1_)) [.c (.d (.i .i64 ((val (y32 s u30 u31 u32 u33 u34 u35 f1_)))))])
 |_=>none
theorem y209 (s:List (List Int)) (u30:Int) (u31:List Nat) (u32 u33:Int) (u34 u35:List (List Int)) (f1_ r:Int) (h:Option.bind (y32 s u30 u31 u32 u33 u34 u35 f1_) some=some r):jaY Tryz.f94 ((sp_143 sp0)) (fun gs id _=>match id with
 |0=>some ⟨Int × Nat,fun z=>⟨[(0,.w (.c (.o 0))),(1,.w (.c (.fn 143 [5,6]))),(7,.w (.c (.d (.i .i64 ((↑(List.length s):Int)))))),(8,.w (.c (.d (.i .i64 (Prod.fst z)))))],[(0,.ext (.recs 2 s)),(5,.ebox [.p 4 0 1 0]),(6,.ebox [.d (.i .i64 f1_)]),(4,.ebox [.d (.i .i64 u30),.o 1,.d (.i .i64 u32),.d (.i .i64 u33),.o 2,.o 3]),(1,.ext (.floats .f32 u31)),(2,.ext (.recs 2 u34)),(3,.ext (.recs 2 u35))],7⟩,fun z=>Option.bind (jae (y17 s u30 u31 u32 u33 u34 u35 f1_) (Prod.snd z) (Prod.fst z)) (fun y0=>Option.bind (y48 y0) some)=some r,fun z=>Prod.snd z⟩
 |_=>none) (jaO y95 [.r (.recs 2 s),.d (.i .i64 u30),.r (.floats .f32 u31),.d (.i .i64 u32),.d (.i .i64 u33),.r (.recs 2 u34),.r (.recs 2 u35),.d (.i .i64 f1_)]) [.c (.d (.i .i64 r))]:=by
 refine Eq.mp (by kernel_rfl:(
 ((∃(v0:Int × Nat),(Ob ((Option.bind (jae (y17 s u30 u31 u32 u33 u34 u35 f1_) v0.2 v0.1) fun y0=>Option.bind (y48 y0) some)=some r) ∧
 (Ob ((↑(List.length s):Int)=(↑(List.length s):Int)) ∧
 (Ob ((0:Int)=v0.1) ∧
 (Ob (s=s) ∧
 (Ob (0=0) ∧
 (Ob (f1_=f1_) ∧
 (Ob (u30=u30) ∧
 (Ob (u32=u32) ∧
 (Ob (u33=u33) ∧
 (Ob (u31=u31) ∧
 (Ob (u34=u34) ∧
 (Ob (u35=u35) ∧
 True))))))))))))) ∧
  (∀(v0:Int × Nat),((Option.bind (jae (y17 s u30 u31 u32 u33 u34 u35 f1_) v0.2 v0.1) fun y0=>Option.bind (y48 y0) some)=some r →
 Br (decide (v0.1<(↑(List.length s):Int)))
  ((Ob (0≤v0.1∧v0.1<(↑(List.length s):Int)) ∧
 (Ob (Int.toNat v0.1<List.length s) ∧
 (Ob (ok (y59 (List.getD (List.getD s (Int.toNat v0.1) []) 0 (0:Int)) (List.getD (List.getD s (Int.toNat v0.1) []) 1 (0:Int)) u30 u31 u32 u33 u34 u35 f1_)) ∧
 Br (val (y59 (List.getD (List.getD s (Int.toNat v0.1) []) 0 (0:Int)) (List.getD (List.getD s (Int.toNat v0.1) []) 1 (0:Int)) u30 u31 u32 u33 u34 u35 f1_))
  ((Ob True ∧
 (Ob (v0.1=r) ∧
 True)))
  ((∃(v1:Int × Nat),(Ob ((Option.bind (jae (y17 s u30 u31 u32 u33 u34 u35 f1_) v1.2 v1.1) fun y0=>Option.bind (y48 y0) some)=some r) ∧
 (Ob (v1.2<v0.2) ∧
 (Ob ((↑(List.length s):Int)=(↑(List.length s):Int)) ∧
 (Ob (wrap .i64 (v0.1+1)=v1.1) ∧
 (Ob (s=s) ∧
 (Ob (0=0) ∧
 (Ob (f1_=f1_) ∧
 (Ob (u30=u30) ∧
 (Ob (u32=u32) ∧
 (Ob (u33=u33) ∧
 (Ob (u31=u31) ∧
 (Ob (u34=u34) ∧
 (Ob (u35=u35) ∧
 True)))))))))))))))))))
  ((Ob True ∧
 (Ob ((-1:Int)=r) ∧
 True)))))))=_) ?_
 refine⟨⟨((0:Int),big),⟨jbe h⟩,(by repeat' constructor)⟩,fun z1 hz1=>?_⟩
 obtain⟨k1,hm1,h⟩:=jaU hz1
 refine jaT h (fun h=>?_) (fun h=>?_)
 ·refine jat h fun h=>?_
  refine jat h fun h=>?_
  refine jav h fun h=>?_
  refine jaV h (fun h=>?_) (fun h=>?_)
  ·have h:=jaC h
   refine jad ?_
   exact rcs h
  ·exact⟨(_,k1),⟨jaQ h⟩,⟨ja0 hm1.symm⟩,(by repeat' constructor)⟩
 ·have h:=jaC h
  refine jad ?_
  exact rcs h
theorem y210:jah Tryz.prog 94 true (jal y95 y96):=by
 refine jau (sp:=(sp_143 sp0)) (fn:=Tryz.f94) (body:=jai Tryz.f94) mixed (sp_143_ok jak) Tryz.func94 (by kernel_rfl) (by kernel_rfl) fun ls t h ho b hb=>?_
 unfold y96 at h
 split at h
 ·rename_i s u30 u31 u32 u33 u34 u35 f1_
  cases h
  obtain rfl:=jaD hb
  exact⟨Nat.le_of_ble_eq_true (by kernel_rfl),_,_,y209 s u30 u31 u32 u33 u34 u35 f1_ _ (jaj ho)⟩
 ·cases h
def y106:List SV:=[.c (.r (.recs 2 [])),.c (.f 95 [.p [.p [.d,.r (.floats .f32 []),.d,.d,.r (.recs 2 []),.r (.recs 2 [])]],.p [.d]])]
def y53 (s:List (List Int)) (u30:Int) (u31:List Nat) (u32 u33:Int) (u34 u35:List (List Int)) (f1_ x0:Int):Option (Int ⊕ (Int ⊕ Unit)) :=
 if x0<(↑(List.length s):Int)then
  if 0≤x0∧x0<(↑(List.length s):Int)then
  if Int.toNat x0<List.length s then
   Option.bind (joR (List.getD (List.getD s (Int.toNat x0) []) 0 (0:Int)) (List.getD (List.getD s (Int.toNat x0) []) 1 (0:Int)) u30 u31 u32 u33 u34 u35 f1_) fun r0 =>
   if(r0)=true then
   some (.inr (.inl x0))
   else
   some (.inl (wrap .i64 (x0+1)))
  else none
  else none
 else
  some (.inr ((.inr ())))
def y193 (u10:Int):Option Int :=
 some u10
def y194 (u27:Unit):Option Int :=
 some (-1:Int)
def y54:(Int ⊕ Unit)→Option Int :=
 (Sum.elim (y193) (y194))
def y118 (s:List (List Int)) (u30:Int) (u31:List Nat) (u32 u33:Int) (u34 u35:List (List Int)) (f1_:Int):Option Int :=
 Option.bind (jae (y53 s u30 u31 u32 u33 u34 u35 f1_) big (0:Int)) (y54)
def y107:List Lf→Option GT
 |[.r (.recs 2 s),.d (.i .i64 u30),.r (.floats .f32 u31),.d (.i .i64 u32),.d (.i .i64 u33),.r (.recs 2 u34),.r (.recs 2 u35),.d (.i .i64 f1_)]=>some (.leaf (ok (y118 s u30 u31 u32 u33 u34 u35 f1_)) [.c (.d (.i .i64 ((val (y118 s u30 u31 u32 u33 u34 u35 f1_)))))])
 |_=>none
theorem y213 (s:List (List Int)) (u30:Int) (u31:List Nat) (u32 u33:Int) (u34 u35:List (List Int)) (f1_ r:Int) (h:Option.bind (y118 s u30 u31 u32 u33 u34 u35 f1_) some=some r):jaY Tryz.f94 ((sp_95 sp0)) (fun gs id _=>match id with
 |0=>some ⟨Int × Nat,fun z=>⟨[(0,.w (.c (.o 0))),(1,.w (.c (.fn 95 [5,6]))),(7,.w (.c (.d (.i .i64 ((↑(List.length s):Int)))))),(8,.w (.c (.d (.i .i64 (Prod.fst z)))))],[(0,.ext (.recs 2 s)),(5,.ebox [.p 4 0 1 0]),(6,.ebox [.d (.i .i64 f1_)]),(4,.ebox [.d (.i .i64 u30),.o 1,.d (.i .i64 u32),.d (.i .i64 u33),.o 2,.o 3]),(1,.ext (.floats .f32 u31)),(2,.ext (.recs 2 u34)),(3,.ext (.recs 2 u35))],7⟩,fun z=>Option.bind (jae (y53 s u30 u31 u32 u33 u34 u35 f1_) (Prod.snd z) (Prod.fst z)) (fun y0=>Option.bind (y54 y0) some)=some r,fun z=>Prod.snd z⟩
 |_=>none) (jaO y106 [.r (.recs 2 s),.d (.i .i64 u30),.r (.floats .f32 u31),.d (.i .i64 u32),.d (.i .i64 u33),.r (.recs 2 u34),.r (.recs 2 u35),.d (.i .i64 f1_)]) [.c (.d (.i .i64 r))]:=by
 refine Eq.mp (by kernel_rfl:(
 ((∃(v0:Int × Nat),(Ob ((Option.bind (jae (y53 s u30 u31 u32 u33 u34 u35 f1_) v0.2 v0.1) fun y0=>Option.bind (y54 y0) some)=some r) ∧
 (Ob ((↑(List.length s):Int)=(↑(List.length s):Int)) ∧
 (Ob ((0:Int)=v0.1) ∧
 (Ob (s=s) ∧
 (Ob (0=0) ∧
 (Ob (f1_=f1_) ∧
 (Ob (u30=u30) ∧
 (Ob (u32=u32) ∧
 (Ob (u33=u33) ∧
 (Ob (u31=u31) ∧
 (Ob (u34=u34) ∧
 (Ob (u35=u35) ∧
 True))))))))))))) ∧
  (∀(v0:Int × Nat),((Option.bind (jae (y53 s u30 u31 u32 u33 u34 u35 f1_) v0.2 v0.1) fun y0=>Option.bind (y54 y0) some)=some r →
 Br (decide (v0.1<(↑(List.length s):Int)))
  ((Ob (0≤v0.1∧v0.1<(↑(List.length s):Int)) ∧
 (Ob (Int.toNat v0.1<List.length s) ∧
 (Ob (ok (joR (List.getD (List.getD s (Int.toNat v0.1) []) 0 (0:Int)) (List.getD (List.getD s (Int.toNat v0.1) []) 1 (0:Int)) u30 u31 u32 u33 u34 u35 f1_)) ∧
 Br (val (joR (List.getD (List.getD s (Int.toNat v0.1) []) 0 (0:Int)) (List.getD (List.getD s (Int.toNat v0.1) []) 1 (0:Int)) u30 u31 u32 u33 u34 u35 f1_))
  ((Ob True ∧
 (Ob (v0.1=r) ∧
 True)))
  ((∃(v1:Int × Nat),(Ob ((Option.bind (jae (y53 s u30 u31 u32 u33 u34 u35 f1_) v1.2 v1.1) fun y0=>Option.bind (y54 y0) some)=some r) ∧
 (Ob (v1.2<v0.2) ∧
 (Ob ((↑(List.length s):Int)=(↑(List.length s):Int)) ∧
 (Ob (wrap .i64 (v0.1+1)=v1.1) ∧
 (Ob (s=s) ∧
 (Ob (0=0) ∧
 (Ob (f1_=f1_) ∧
 (Ob (u30=u30) ∧
 (Ob (u32=u32) ∧
 (Ob (u33=u33) ∧
 (Ob (u31=u31) ∧
 (Ob (u34=u34) ∧
 (Ob (u35=u35) ∧
 True)))))))))))))))))))
  ((Ob True ∧
 (Ob ((-1:Int)=r) ∧
 True)))))))=_) ?_
 refine⟨⟨((0:Int),big),⟨jbe h⟩,(by repeat' constructor)⟩,fun z1 hz1=>?_⟩
 obtain⟨k1,hm1,h⟩:=jaU hz1
 refine jaT h (fun h=>?_) (fun h=>?_)
 ·refine jat h fun h=>?_
  refine jat h fun h=>?_
  refine jav h fun h=>?_
  refine jaV h (fun h=>?_) (fun h=>?_)
  ·have h:=jaC h
   refine jad ?_
   exact rcs h
  ·exact⟨(_,k1),⟨jaQ h⟩,⟨ja0 hm1.symm⟩,(by repeat' constructor)⟩
 ·have h:=jaC h
  refine jad ?_
  exact rcs h
theorem y214:jah Tryz.prog 94 true (jal y106 y107):=by
 refine jau (sp:=(sp_95 sp0)) (fn:=Tryz.f94) (body:=jai Tryz.f94) mixed (sp_95_ok jak) Tryz.func94 (by kernel_rfl) (by kernel_rfl) fun ls t h ho b hb=>?_
 unfold y107 at h
 split at h
 ·rename_i s u30 u31 u32 u33 u34 u35 f1_
  cases h
  obtain rfl:=jaD hb
  exact⟨Nat.le_of_ble_eq_true (by kernel_rfl),_,_,y213 s u30 u31 u32 u33 u34 u35 f1_ _ (jaj ho)⟩
 ·cases h
end Go.Sh
end

section
namespace Go.Sh
open Go Go.Proofs Go.RowKit Go.Sx
attribute [local go_sem] Oper.semAt_some
def orS (S T:Sx.Spec):Sx.Spec:=fun vs hp nx=>match S vs hp nx with
 |some t=>some t
 |none=>T vs hp nx
theorem jv9 {P:Program} {f:Nat} {M:Bool} {S T:Sx.Spec} (hs:jah P f M S) (ht:jah P f M T):jah P f M (orS S T):=by
 have no:∀{S T:Sx.Spec},RunOK P f M S→jy7 P f T→∀ρ B w args hp nx t,T args hp nx=some t→t.sel.ob→(∀x∈args,V.lt nx x)→HRel ρ B hp nx w→Old B w→False:=by
  intro S T h1 h2 ρ B w args hp nx t ht ho hl hh hB
  obtain⟨ob,v,_,_,hr⟩:=h2 ρ B w args hp nx t ht ho hl hh hB
  rw[h1.enter]at hr
  cases hr
 rcases hs with h1|h1<;>rcases ht with h2|h2
 ·refine .inl ⟨h1.enter,fun ρ B w args hp nx t h ho hl hh hB=>?_⟩
  unfold orS at h
  split at h
  ·rename_i t' h'
   cases h
   exact h1.sound ρ B w args hp nx _ h' ho hl hh hB
  ·exact h2.sound ρ B w args hp nx _ h ho hl hh hB
 ·refine .inl ⟨h1.enter,fun ρ B w args hp nx t h ho hl hh hB=>?_⟩
  unfold orS at h
  split at h
  ·rename_i t' h'
   cases h
   exact h1.sound ρ B w args hp nx _ h' ho hl hh hB
  ·exact(no h1 h2 ρ B w args hp nx t h ho hl hh hB).elim
 ·refine .inl ⟨h2.enter,fun ρ B w args hp nx t h ho hl hh hB=>?_⟩
  unfold orS at h
  split at h
  ·rename_i t' h'
   cases h
   exact(no h2 h1 ρ B w args hp nx _ h' ho hl hh hB).elim
  ·exact h2.sound ρ B w args hp nx _ h ho hl hh hB
 ·refine .inr fun ρ B w args hp nx t h ho hl hh hB=>?_
  unfold orS at h
  split at h
  ·rename_i t' h'
   cases h
   exact h1 ρ B w args hp nx _ h' ho hl hh hB
  ·exact h2 ρ B w args hp nx _ h ho hl hh hB
def juU:Sx.Spec:=orS (jal y93 y94) (orS (jal y95 y96) (jal y106 y107))
abbrev sp_94:jab→jab:=jas 94 true juU
theorem sp_94_ok {sp:jab} (h:jac Tryz.prog sp):jac Tryz.prog (sp_94 sp) :=
 jag (jv9 y208 (jv9 y210 y214)) h
theorem joS (a:Option Addr) (len cap:Nat) (w:World):Calls Tryz.prog 116 #[.slice a len cap] w fun e w'=>e=.returned (.func (.func 141) #[] #[.pointer (some ⟨w.heap.size,0,none⟩)])∧w'=w.alloc (.cells #[.slice a len cap] 81):=by
 refine callsIn_wide.1 (callsIn_of_wp (n:=3) Tryz.func116 rfl trivial ?_ rfl)
 simp only[Tryz.ntmps116,List.size_toArray,List.length_cons,List.length_nil,Nat.reduceAdd,Nat.reduceSub,Array.replicate_succ,Array.replicate_zero,List.push_toArray,List.append_toArray,List.nil_append,List.cons_append]
 gi_wp2
 go_ret
 exact⟨rfl,rfl⟩
def jkc:Sx.Spec:=fun vs hp nx=>match vs with
 |[.w (.c (.o h))]=>match(find hp h).bind O.cont with
  |some _=>some (.leaf ⟨True,.w (.c (.fn 141 [nx])),(nx,.box 81 [.o h])::hp,nx+1⟩)
  |none=>none
 |_=>none
theorem jtj:jah Tryz.prog 116 true jkc:=by
 refine .inl ⟨jdG (body:=jai Tryz.f116) Tryz.func116 (by kernel_rfl) (by kernel_rfl),fun ρ B w args hp nx t h ho hl hh hB=>?_⟩
 unfold jkc at h
 split at h
 ·rename_i k
  split at h
  ·rename_i c hc
   cases h
   cases hf:find hp k with
   |none=>simp[hf]at hc
   |some o =>
    simp only[hf,Option.bind_some]at hc
    obtain⟨hlt,a,cap,hv,_⟩:=jm3 hh hf hc
    have hargs:([V.w (.c (.o k))].map (V.val ρ)).toArray=#[.slice a c.n cap]:=by
     simp[V.val,W.val,C.val,hv]
    rw[hargs]
    refine(joS a c.n cap w).mono ?_
    rintro e w' ⟨rfl,rfl⟩
    refine⟨upd ρ nx (.pointer (some ⟨w.heap.size,0,none⟩)),?_,?_⟩
    ·simp[RT.sel,V.val,W.val,C.val]
    ·refine jcg hh hB _ _ _ (.box 81 [.o k]) rfl rfl (show V.lt (nx+1) (.w (.c (.fn 141 [nx])))from fun x hx=>?_) true (fun x hx=>?_) ⟨w.heap.size,upd_same _ _ _,fun hb=>absurd (hB _ hb) (Nat.lt_irrefl _),?_⟩ (by simp[O.blk,base])
     ·simp only[List.mem_singleton]at hx
      subst hx
      exact Nat.lt_succ_self _
     ·simp only[List.mem_singleton]at hx
      subst hx
      exact Nat.lt_succ_of_lt hlt
     ·rw[heap_alloc_new]
      have:upd ρ nx (.pointer (some ⟨w.heap.size,0,none⟩)) k=ρ k:=jaB ρ nx _ k hlt
      simp[C.val,this,hv]
  ·cases h
 ·cases h
abbrev sp_116:jab→jab:=jas 116 true jkc
theorem sp_116_ok {sp:jab} (h:jac Tryz.prog sp):jac Tryz.prog (sp_116 sp):=jag jtj h
end Go.Sh
end

section
namespace Go.Sh.Bk
open Go Go.Proofs Go.RowKit Go.Sx
open Go.IntKind (wrap)
@[reducible] def tg:Globs:={ tab:=fun _=>none }
attribute [local instance] tg
def sub:List Nat→Code→Code
 |[],c=>c
 |0::p,.seq x _=>sub p x
 |_::p,.seq _ y=>sub p y
 |0::p,.cond _ x _=>sub p x
 |_::p,.cond _ _ y=>sub p y
 |_::p,.block _ c=>sub p c
 |_::p,.loop c=>sub p c
 |_,c=>c
noncomputable def body:Code:=(Tryz.f141.body).getD .skip
structure Rd (kb:Nat) (sv:Value) (zs:List (List Int)) (W:World):Prop where
 box:W.cell? ⟨kb,0,none⟩=some sv
 row:ja9 W sv (.recs 2 zs)
def Kp (kb:Nat) (sv:Value) (zs:List (List Int)) (W W':World):Prop:=Rd kb sv zs W→Rd kb sv zs W'
def encs (zs:List (List Int)) (x:Fin zs.length):Array Value:=#[.int .i64 (x.1:Int),.agg #[.int .i64 ((zs.getD x.1 []).getD 0 0),.int .i64 ((zs.getD x.1 []).getD 1 0)]]
def bk (n k:Nat):List (Fin n):=(List.finRange n).reverse.take k
theorem jAf {n k:Nat} (h:k≤n):(bk n k).length=k:=by simp[bk,h]
theorem bk_succ {n k:Nat} (h:k<n):bk n (k+1)=bk n k++[⟨n-1-k,by omega⟩]:=by
 unfold bk
 rw[List.take_succ_eq_append_getElem (by simpa using h)]
 congr 2
 simp
structure ActOK (y:Value) (kb:Nat) (i:Int) (a:Act):Prop where
 size:a.tmps.size=19
 defers:a.defers=[]
 t0:a.tmps.getD 0 undef=y
 t1:a.tmps.getD 1 undef=.pointer (some ⟨kb,0,none⟩)
 t3:a.tmps.getD 3 undef=.int .i64 i
def stA (y:Value) (zs:List (List Int)):St:=⟨[(0,.w (.c (.d (.v y)))),(1,.w (.c (.p 0 0 1 0)))],[(0,.ebox [.o 1]),(1,.ext (.recs 2 zs))],2⟩
def stK (y:Value) (zs:List (List Int)) (i:Int):St:=⟨(3,vi .i64 i)::(stA y zs).tm,(stA y zs).hp,2⟩
def stC (y:Value) (zs:List (List Int)) (i:Int):St:=⟨(8,vb (decide (i≥0)))::(stK y zs i).tm,(stA y zs).hp,2⟩
def stD (y:Value) (zs:List (List Int)) (i:Int):St:=⟨(16,.w (.a [.d (.i .i64 ((zs.getD i.toNat []).getD 0 0)),.d (.i .i64 ((zs.getD i.toNat []).getD 1 0))]))::(12,vi .i64 i)::(11,.w (.c (.d (.v y))))::(stK y zs i).tm,(stA y zs).hp,2⟩
def rho (kb:Nat) (sv:Value):Env:=fun h=>if h=0 then .pointer (some ⟨kb,0,none⟩)else sv
theorem jfc {kb:Nat} {sv:Value} {zs:List (List Int)} {W:World} (h:Rd kb sv zs W) (y:Value):HRel (rho kb sv) (fun k=>k<W.heap.size) (stA y zs).hp 2 W:=by
 refine⟨fun x o hf=>?_,fun x o x' o' b hf hf' hne hb=>?_,⟨(fun _ _ h=>nomatch h),(fun _ _ h=>nomatch h)⟩⟩
 ·simp only[stA,find]at hf
  split at hf
  ·rename_i e
   subst e
   cases hf
   refine⟨by omega,(fun c hc=>by simp only[List.mem_singleton]at hc; subst hc; exact(by decide:(1:Nat)<2)),kb,0,rfl,World.block_lt_of_cell? W _ h.box,fun j c hj=>?_⟩
   match j,hj with
   |0,hj =>
    cases hj
    exact h.box
  ·split at hf
   ·rename_i e
    subst e
    cases hf
    exact⟨by omega,trivial,h.row,h.row.lt (Nat.succ_pos 1)⟩
   ·cases hf
 ·simp only[stA,find]at hf
  split at hf
  ·cases hf; cases hb
  ·split at hf
   ·cases hf; cases hb
   ·cases hf
theorem jrU {kb:Nat} {sv y:Value} {zs:List (List Int)} {i:Int} {a:Act} {W:World} (h:Rd kb sv zs W) (ha:ActOK y kb i a):Rel (rho kb sv) (fun k=>k<W.heap.size) 19 2 (stK y zs i) a W:=by
 refine⟨fun t v hv=>?_,ha.size,ha.defers,jfc h y,fun k hk=>hk,Nat.le_refl _⟩
 simp only[stK,stA,jbg]at hv
 split at hv
 ·rename_i e; subst e; cases hv; exact⟨trivial,ha.t3⟩
 ·split at hv
  ·rename_i e; subst e; cases hv; exact⟨trivial,ha.t0⟩
  ·split at hv
   ·rename_i e; subst e; cases hv; exact⟨(by decide:(0:Nat)<2),ha.t1⟩
   ·cases hv
theorem back {kb:Nat} {sv y:Value} {zs:List (List Int)} {i:Int} {ρ:Env} {B:Bd} {a:Act} {W:World} (hag:jan 2 (rho kb sv) ρ) (hr:Rel ρ B 19 2 (stK y zs i) a W):Rd kb sv zs W∧ActOK y kb i a:=by
 have h0:ρ 0=.pointer (some ⟨kb,0,none⟩):=hag 0 (by decide)
 have h1:ρ 1=sv:=hag 1 (by decide)
 refine⟨⟨?_,?_⟩,hr.size,hr.defers,(hr.tm 0 _ rfl).2,?_,(hr.tm 3 _ rfl).2⟩
 ·obtain⟨_,_,k,o,hk,_,hc⟩:=hr.heap.ok 0 _ rfl
  have:=hc 0 _ rfl
  rw[h0]at hk
  have e:(⟨kb,0,none⟩:Addr)=⟨k,o,none⟩:=Option.some.inj (Value.pointer.inj hk)
  cases e
  rw[←h1]
  exact this
 ·rw[←h1]
  exact(hr.heap.ok 1 _ rfl).2.2.1
 ·have:=(hr.tm 1 _ rfl).2
  rw[this]
  show Value.pointer (some ⟨(base (ρ 0)).block,(base (ρ 0)).off+0,none⟩)=_
  rw[h0]
  rfl
theorem juW {c:Code} {st st2:St} {ρ:Env} {a:Act} {w:World} (hr:Rel ρ (fun x=>x<w.heap.size) 19 2 st a w)
  (h:sx Tryz.prog (fun _=>none) 19 2 0 (fun _ _ _=>none) (fun _ _ _=>False) c 0 [] st (fun e st'=>match e with | .normal=>Le 2 st' st2|_=>False)) :
  c.wp Tryz.prog (fun e a' w'=>e=.normal∧w.grownBy w' none∧∃ρ',Rel ρ' (fun x=>x<w.heap.size) 19 2 st2 a' w'∧jan 2 ρ ρ') a w:=by
 refine wp_mono (jbA (fun _ _ _ h=>by cases h) (fun _ _ _ _ _ _ _ _ _ h=>h.elim) c 0 [] st _ ρ a w h hr (jan.refl _ _) (Bel.refl _ _)) ?_
 rintro e a' w' ⟨ex,ρ',st',rfl,hk,hr',hag,hbl⟩
 cases ex with
 |normal =>
  obtain⟨ρ2,hr2,hag2⟩:=Le.rel hk hr'
  exact⟨rfl,⟨hbl.os,hbl.tape,hbl.output,hbl.size,fun k hk _=>hbl.block k hk⟩,ρ2,hr2,fun x hx=>(hag2 x hx).trans (hag x hx)⟩
 |exit j=>exact hk.elim
 |ret=>exact hk.elim
abbrev pc (c:Code) (st st2:St):Prop:=sx Tryz.prog (fun _=>none) 19 2 0 (fun _ _ _=>none) (fun _ _ _=>False) c 0 [] st (fun e st'=>match e with | .normal=>Le 2 st' st2|_=>False)
def opsOf:Code→List Oper
 | .region _ ops _=>ops.toList
 |_=>[]
noncomputable def jfR:List Oper:=opsOf (sub [1,0,0,1,0,0,0] body)
theorem pc0 (y:Value) (zs:List (List Int)) (hl:zs.length≤17592186044416):pc (sub [0] body) (stA y zs) (stK y zs ((zs.length:Int)-1)):=by
 refine Eq.mp (by kernel_rfl:(Ob True∧(Ob (wrap IntKind.i64 ((↑(List.length zs):Int)-(1:Int))=(zs.length:Int)-1)∧(Ob (y=y)∧(Ob ((0:Nat)=(0:Nat))∧(Ob (zs=zs)∧True)))))=_) ?_
 exact⟨⟨trivial⟩,⟨IntWalk.i64_in _ (by omega)⟩,⟨rfl⟩,⟨rfl⟩,⟨rfl⟩,trivial⟩
theorem pc1 (y:Value) (zs:List (List Int)) (i:Int):pc (sub [1,0,0,0,0] body) (stK y zs i) (stC y zs i):=by
 refine Eq.mp (by kernel_rfl:(Ob (decide (i≥(0:Int))=decide (i≥(0:Int)))∧(Ob (i=i)∧(Ob (y=y)∧(Ob ((0:Nat)=(0:Nat))∧(Ob (zs=zs)∧True)))))=_) ?_
 exact⟨⟨rfl⟩,⟨rfl⟩,⟨rfl⟩,⟨rfl⟩,⟨rfl⟩,trivial⟩
theorem pc3 (y:Value) (zs:List (List Int)) (i:Int) (hi:0≤i∧i≤17592186044416):pc (sub [1,0,0,1,1] body) (stK y zs i) (stK y zs (i-1)):=by
 refine Eq.mp (by kernel_rfl:(Ob (wrap IntKind.i64 (i-(1:Int))=i-1)∧(Ob (y=y)∧(Ob ((0:Nat)=(0:Nat))∧(Ob (zs=zs)∧True))))=_) ?_
 exact⟨⟨IntWalk.i64_in _ (by omega)⟩,⟨rfl⟩,⟨rfl⟩,⟨rfl⟩,trivial⟩
theorem pc2 (y:Value) (zs:List (List Int)) (i:Int) (hi:0≤i∧i<(zs.length:Int)):jg3 Tryz.prog (fun _=>none) 19 jfR (jfR.take 6) (stK y zs i) (fun st'=>Le 2 st' (stD y zs i)):=by
 refine Eq.mp (by kernel_rfl:(Ob True∧(Ob ((0:Int)≤i∧i<(↑(List.length zs):Int))∧(Ob (Int.toNat i<List.length zs) ∧
  (Ob (List.getD (List.getD zs (Int.toNat i) []) (0:Nat) (0:Int)=List.getD (List.getD zs (Int.toNat i) []) (0:Nat) (0:Int)) ∧
  (Ob (List.getD (List.getD zs (Int.toNat i) []) (1:Nat) (0:Int)=List.getD (List.getD zs (Int.toNat i) []) (1:Nat) (0:Int)) ∧
  (Ob (i=i)∧(Ob (y=y)∧(Ob (i=i)∧(Ob (y=y)∧(Ob ((0:Nat)=(0:Nat))∧(Ob (zs=zs)∧True)))))))))))=_) ?_
 exact⟨⟨trivial⟩,⟨hi⟩,⟨by omega⟩,⟨rfl⟩,⟨rfl⟩,⟨rfl⟩,⟨rfl⟩,⟨rfl⟩,⟨rfl⟩,⟨rfl⟩,⟨rfl⟩,trivial⟩
theorem jgP {y:Value} {zs:List (List Int)} {i:Int} {t:Nat} (h:t≠3∧t≠0∧t≠1):jbg (stK y zs i).tm t=none:=by
 simp only[stK,stA,jbg]
 rw[if_neg (Ne.symm h.1),if_neg (Ne.symm h.2.1),if_neg (Ne.symm h.2.2)]
theorem relC {y:Value} {zs:List (List Int)} {i:Int} {ρ:Env} {B:Bd} {a:Act} {W:World} (h:Rel ρ B 19 2 (stC y zs i) a W):Rel ρ B 19 2 (stK y zs i) a W:=by
 refine⟨fun t v hv=>h.tm t v ?_,h.size,h.defers,h.heap,h.le,h.n0⟩
 have hne:t≠8:=fun e=>by subst e; rw[jgP (by decide)]at hv; cases hv
 show jbg ((8,_)::_) t=some v
 simp only[jbg]
 rw[if_neg (Ne.symm hne)]
 exact hv
theorem relD {y:Value} {zs:List (List Int)} {i:Int} {ρ:Env} {B:Bd} {a:Act} {W:World} (h:Rel ρ B 19 2 (stD y zs i) a W):Rel ρ B 19 2 (stK y zs i) a W:=by
 refine⟨fun t v hv=>h.tm t v ?_,h.size,h.defers,h.heap,h.le,h.n0⟩
 have h1:t≠16:=fun e=>by subst e; rw[jgP (by decide)]at hv; cases hv
 have h2:t≠12:=fun e=>by subst e; rw[jgP (by decide)]at hv; cases hv
 have h3:t≠11:=fun e=>by subst e; rw[jgP (by decide)]at hv; cases hv
 show jbg ((16,_)::(12,_)::(11,_)::_) t=some v
 simp only[jbg]
 rw[if_neg (Ne.symm h1),if_neg (Ne.symm h2),if_neg (Ne.symm h3)]
 exact hv
theorem ActOK.put {y:Value} {kb:Nat} {i:Int} {a:Act} (h:ActOK y kb i a) {t:Nat} {v:Value} (ht:t≠3∧t≠0∧t≠1) (hlt:t<19):ActOK y kb i (a.put (some t) v):=by
 have hg:∀x,x≠t→(a.put (some t) v).tmps.getD x undef=a.tmps.getD x undef:=fun x hx=>by
  rw[jcU (fun y hy=>by cases hy; rw[h.size]; exact hlt),if_neg (fun e=>hx (Option.some.inj e).symm)]
 exact⟨by rw[jcG]; exact h.size,by rw[jch]; exact h.defers,(hg 0 (Ne.symm ht.2.1)).trans h.t0,(hg 1 (Ne.symm ht.2.2)).trans h.t1,(hg 3 (Ne.symm ht.1)).trans h.t3⟩
set_option maxHeartbeats 2000000 in
theorem jwa (n l kb:Nat) (sv:Value) (zs:List (List Int)) (hl:zs.length≤17592186044416) (J Jx:List (Fin zs.length)→World→Prop)
  (hY:∀pre x W,J pre W→pre.length<zs.length→YieldAt Fence.wide (n-1) Tryz.prog l (encs zs x) W fun e W' =>
   (e=.returned (.bool true)∧J (pre++[x]) W'∧Kp kb sv zs W W')∨(e=.returned (.bool false)∧Jx (pre++[x]) W'))
  (hJ:∀A B pre,J pre A→A.grownBy B none→J pre B) (a:Act) (w:World) (hr:Rd kb sv zs w) (ha:ActOK (.func (.yield l) #[] #[]) kb ((zs.length:Int)-1) a) (hj:J [] w) :
  (sub [1] body).wpIn Fence.wide n Tryz.prog (bodyPost Tryz.prog Tryz.f141 fun e W'=>(∃v,e=.returned v) ∧
   ((∃ys,ys=bk zs.length zs.length∧J ys W')∨(∃pre,True∧Jx pre W'))) a w:=by
 refine wpIn_block (wpIn_loop (fun a w=>∃k:Nat,k≤zs.length∧Rd kb sv zs w∧ActOK (.func (.yield l) #[] #[]) kb ((zs.length:Int)-1-k) a∧J (bk zs.length k) w) (fun a _=>(intOf (a.tmps.getD 3 undef)+1).toNat)
  ⟨0,Nat.zero_le _,hr,by simpa using ha,hj⟩ ?_)
 rintro a w ⟨k,hk,hr,ha,hj⟩
 have hmu:(intOf (a.tmps.getD 3 undef)+1).toNat=zs.length-k:=by
  rw[ha.t3]
  simp[intOf]
  omega
 rw[hmu]
 refine wpIn_seq (wpIn_seq (wpIn_wide.2 (wp_mono (juW (jrU hr ha) (pc1 _ zs _)) ?_)))
 rintro e a1 w1 ⟨rfl,hg1,ρ1,hr1,hag1⟩
 have hj1:=hJ _ _ _ hj hg1
 obtain⟨hrd1,hact1⟩:=back hag1 (relC hr1)
 have hc:a1.eval (.tmp 8)=.bool (decide ((zs.length:Int)-1-k≥0)):=(hr1.tm 8 _ rfl).2
 by_cases hlt:k<zs.length
 ·refine wpIn_cond_true (by rw[hc,decide_eq_true (by omega)]) (wpIn_skip ?_)
  refine wpIn_seq (wpIn_block (wpIn_seq (wpIn_region_list ?_)))
  have hi:0≤(zs.length:Int)-1-k∧(zs.length:Int)-1-k<(zs.length:Int):=by omega
  have hx:((zs.length-1-k:Nat):Int)=(zs.length:Int)-1-k:=by omega
  have hxn:((zs.length:Int)-1-k).toNat=zs.length-1-k:=by omega
  refine Eq.mp (congrArg (fun L=>wpListIn Fence.wide n Tryz.prog _ _ L a1 w1) (List.take_append_drop 6 jfR)) ?_
  refine jf7 (by rintro ⟨_,_,⟨_,hv⟩,_⟩; cases hv) (jfR.take 6) a1 w1 (jfF (all:=jfR) (n0:=2) (N:=19) (ρ0:=rho kb sv) (w0:=w1) (B:=fun x=>x<w1.heap.size) (sp:=fun _=>none) (k:=fun st'=>Le 2 st' (stD (.func (.yield l) #[] #[]) zs ((zs.length:Int)-1-k)))
   (fun _ _ _ h=>by cases h) ?_ (jfR.take 6) (rho kb sv) _ a1 w1 (jrU hrd1 hact1) (jan.refl _ _) (Bel.refl _ _) (pc2 _ zs _ hi))
  intro ρ2 st2 a2 w2 hr2 hag2 hbl2 hle2
  obtain⟨ρ3,hr3,hag3⟩:=hle2.rel hr2
  have hag23:jan 2 (rho kb sv) ρ3:=fun x hx=>(hag3 x hx).trans (hag2 x hx)
  obtain⟨hrd2,hact2⟩:=back hag23 (relD hr3)
  have hj2:=hJ _ _ _ hj1 ⟨hbl2.os,hbl2.tape,hbl2.output,hbl2.size,fun k hk _=>hbl2.block k hk⟩
  have g11:a2.eval (.tmp 11)=.func (.yield l) #[] #[]:=(hr3.tm 11 _ rfl).2
  have g12:a2.eval (.tmp 12)=.int .i64 ((zs.length-1-k:Nat):Int):=by rw[hx]; exact(hr3.tm 12 _ rfl).2
  have g16:a2.eval (.tmp 16)=.agg #[.int .i64 ((zs.getD (zs.length-1-k) []).getD 0 0),.int .i64 ((zs.getD (zs.length-1-k) []).getD 1 0)]:=by
   rw[←hxn]
   exact(hr3.tm 16 _ rfl).2
  obtain⟨fn,tmps,assign,bd,hy,hR⟩:=hY (bk zs.length k) ⟨zs.length-1-k,by omega⟩ w2 hj2 (by rw[jAf hk]; exact hlt)
  show wpListIn _ _ _ _ _ _ _ _
  refine wpListIn_plain rfl fun K hK=>⟨fun _ _=>trivial,?_⟩
  have hcall:∀o:Oper,o.op=.call { callee:=.value (.tmp 11),args:=#[.tmp 12,.tmp 16],argTypes:=#[3,30] }→((o.semAt Fence.wide.round a2.eval).run Tryz.prog w2)=.ok (.round l fn tmps assign bd) w2:=by
   intro o ho
   rw[Fence.wide_round,Oper.semAt_none]
   unfold execOp
   simp only[ho,resolve,g11,Deferred.ofValue,Sem.run_bind,Sem.run_pure,Result.andThen_ok,invoke,List.map_toArray,List.map_cons,List.map_nil,g12,g16]
   exact hy
  rw[hcall _ rfl]
  refine⟨(fun h=>by cases h),hR.mono ?_⟩
  have hact3:∀b,ActOK (.func (.yield l) #[] #[]) kb ((zs.length:Int)-1-k) ((a2.put (some 17) (.bool b)).put (some 18) (.bool !b)):=fun b=>(hact2.put (by decide) (by decide)).put (by decide) (by decide)
  have hnot:∀(o:Oper) (b:Bool) (w3:World),o.op=.unOp .not 4 (.tmp 17)→((o.semAt Fence.wide.round (a2.put (some 17) (.bool b)).eval).run Tryz.prog w3)=.ok (.value (.bool !b)) w3:=by
   intro o b w3 ho
   have h17:(a2.put (some 17) (.bool b)).eval (.tmp 17)=.bool b:=by
    show(Act.put _ (some 17) _).tmps.getD 17 undef=_
    rw[jcU (fun x hx=>by cases hx; rw[hact2.size]; decide),if_pos rfl]
   rw[Fence.wide_round,Oper.semAt_none]
   unfold execOp
   simp only[ho,h17]
   rfl
  have h18:∀b,((a2.put (some 17) (.bool b)).put (some 18) (.bool !b)).eval (.tmp 18)=.bool !b:=fun b=>by
   show(Act.put _ (some 18) _).tmps.getD 18 undef=_
   rw[jcU (fun x hx=>by cases hx; rw[jcG,hact2.size]; decide),if_pos rfl]
  rintro e w3 (⟨rfl,hj3,hk3⟩|⟨rfl,hj3⟩)
  ·refine hK _ _ (wpListIn_plain rfl fun K hK=>⟨fun _ _=>trivial,?_⟩)
   rw[hnot _ true w3 rfl]
   refine hK _ _ (wpListIn_nil ?_)
   refine wpIn_cond_false (h18 true) (wpIn_skip ?_)
   refine wpIn_wide.2 (wp_mono (juW (jrU (hk3 hrd2) (hact3 true)) (pc3 _ zs _ (by omega))) ?_)
   rintro e a7 w7 ⟨rfl,hg7,ρ7,hr7,hag7⟩
   obtain⟨hrd7,hact7⟩:=back hag7 hr7
   refine⟨⟨k+1,hlt,hrd7,?_,?_⟩,?_⟩
   ·have e:(zs.length:Int)-1-((k+1:Nat):Int)=(zs.length:Int)-1-k-1:=by omega
    rw[e]
    exact hact7
   ·rw[bk_succ hlt]
    exact hJ _ _ _ hj3 hg7
   ·rw[hact7.t3]
    simp[intOf]
    omega
  ·refine hK _ _ (wpListIn_plain rfl fun K hK=>⟨fun _ _=>trivial,?_⟩)
   rw[hnot _ false w3 rfl]
   refine hK _ _ (wpListIn_nil ?_)
   refine wpIn_cond_true (h18 false) (wpIn_ret ?_)
   exact⟨(hact3 false).defers,.tuple #[],results_none rfl _ _ _,⟨_,rfl⟩,.inr ⟨_,trivial,hj3⟩⟩
 ·obtain rfl:k=zs.length:=by omega
  refine wpIn_cond_false (by rw[hc,decide_eq_false (by omega)]) (wpIn_exit ?_)
  exact⟨hact1.defers,.tuple #[],results_none rfl _ _ _,⟨_,rfl⟩,.inl ⟨_,rfl,hj1⟩⟩
theorem jtk {v:Value} {c:Cont} {A C:World} (h:ja9 A v c) (hb:Below A.heap.size A C):ja9 C v c:=by
 obtain⟨a,cap,hv,hc,hcells⟩:=h
 refine⟨a,cap,hv,hc,fun hn=>?_⟩
 obtain⟨b,off,hab,hx⟩:=hcells hn
 refine⟨b,off,hab,fun j x hj=>?_⟩
 have:=hx j x hj
 exact(hb.cell (p:=⟨b,off+j,none⟩) (World.block_lt_of_cell? A _ this)).trans this
theorem Rd.below {kb:Nat} {sv:Value} {zs:List (List Int)} {A C:World} (h:Rd kb sv zs A) (hb:Below A.heap.size A C):Rd kb sv zs C :=
 ⟨(hb.cell (p:=⟨kb,0,none⟩) (World.block_lt_of_cell? A _ h.box)).trans h.box,jtk h.row hb⟩
theorem back_stops (n kb:Nat) (sv:Value) (zs:List (List Int)) (hl:zs.length≤17592186044416) (w:World) (hw:Rd kb sv zs w) :
  SeqStopsK Fence.wide n Tryz.prog 141 #[.pointer (some ⟨kb,0,none⟩)] (encs zs) (Kp kb sv zs) (fun ys=>ys=bk zs.length zs.length) (fun _=>True) zs.length w:=by
 intro l J Jx W hW hJ hJx hY h0
 have hr:=hw.below hW
 have hb:Tryz.f141.body=some (.seq (sub [0] body) (sub [1] body)):=by kernel_rfl
 refine callsIn_of_wp Tryz.func141 hb trivial ?_ rfl
 generalize ha0:({ tmps:=(#[Value.func (.yield l) #[] #[]] ++ #[Value.pointer (some ⟨kb,0,none⟩)])++Array.replicate (Tryz.f141.ntmps-(#[Value.func (.yield l) #[] #[]] ++ #[Value.pointer (some ⟨kb,0,none⟩)]).size) undef,defers:=[] }:Act)=a0
 have s0:a0.tmps.size=19:=by rw[←ha0]; kernel_rfl
 have d0:a0.defers=[]:=by rw[←ha0]
 have t0:a0.tmps.getD 0 undef=.func (.yield l) #[] #[]:=by rw[←ha0]; kernel_rfl
 have t1:a0.tmps.getD 1 undef=.pointer (some ⟨kb,0,none⟩):=by rw[←ha0]; kernel_rfl
 clear ha0
 have hrel0:Rel (rho kb sv) (fun x=>x<W.heap.size) 19 2 (stA (.func (.yield l) #[] #[]) zs) a0 W:=by
  refine⟨fun t v hv=>?_,s0,d0,jfc hr _,fun k hk=>hk,Nat.le_refl _⟩
  simp only[stA,jbg]at hv
  split at hv
  ·rename_i e; subst e; cases hv; exact⟨trivial,t0⟩
  ·split at hv
   ·rename_i e; subst e; cases hv; exact⟨(by decide:(0:Nat)<2),t1⟩
   ·cases hv
 refine wpIn_seq (wpIn_wide.2 (wp_mono (juW hrel0 (pc0 _ zs hl)) ?_))
 rintro e a1 w1 ⟨rfl,hg1,ρ1,hr1,hag1⟩
 obtain⟨hrd1,hact1⟩:=back hag1 hr1
 exact jwa n l kb sv zs hl J Jx hY (fun A B pre hj hg=>hJ pre A B none hj hg (fun r e=>by cases e)) a1 w1 hrd1 hact1 (hJ [] W w1 none h0 hg1 (fun r e=>by cases e))
end Go.Sh.Bk
end

section
open Go.RowKit
namespace Go.Sx
variable [Globs] {P:Program} {sp:jab}
theorem jdQ {f:Nat} {fn:Func} {body:Code} {shs:List SV} {g:List Lf→Option GT} (hf:P.funcs[f]?=some fn) (hb:fn.body=some body) (hn:(fn.name == "runtime.NumGoroutine")=false)
  (h:∀ls t,g ls=some t→t.sel.1→∀b:Bv,jil shs 0 ls=some b→∀(ρ0:Env) (w:World),(∀x∈b.vs,V.lt b.n x)→HRel ρ0 (fun k=>k<w.heap.size) b.hp b.n w →
   Calls P f (b.vs.map (V.val ρ0)).toArray w fun e w'=>∃ρ' v hp' nx',e=.returned (V.val ρ' v)∧v.lt nx'∧jan b.n ρ0 ρ'∧HRel ρ' (fun k=>k<w.heap.size) hp' nx' w'∧Bel (fun k=>k<w.heap.size) w w'∧jjR b.n t.sel.2 v hp') :
  jah P f true (jal shs g):=by
 refine .inl ⟨jdG hf hb hn,fun ρ B w args hp nx t hS hob hlt hh hB=>?_⟩
 unfold jal at hS
 split at hS
 ·rename_i ls am hto
  split at hS
  ·rename_i t' hg
   cases hS
   rw[jin]at hob ⊢
   have hob:t'.sel.1:=hob
   obtain⟨b,ρ0,hbl,q⟩:=jjT hh hB shs args ls am hto hlt 0 (fun _=>undef) []
   rw[List.append_nil]at hbl
   have hbn:b.n=am.length:=by have:=q.nn; omega
   have hh0:HRel ρ0 (fun k=>k<w.heap.size) b.hp b.n w:=by
    refine⟨fun x o hf=>?_,fun x o x' o' k hf hf' _ hb=>?_,jij hh.glob hB⟩
    ·obtain⟨_,a2,a3,a4,_⟩:=q.heap x o hf
     exact⟨a2,a3,a4⟩
    ·obtain⟨_,_,_,_,a5⟩:=q.heap x o hf
     rw[a5]at hb
     cases hb
   have hcalls:=h ls t' hg hob b hbl ρ0 w q.lt hh0
   rw[q.val]at hcalls
   refine hcalls.mono ?_
   rintro e w' ⟨ρ',v,hp',nx',rfl,hvlt,hag,hh',hbel,hfit⟩
   have hbw:Below w.heap.size w w':=hbel.below
   have hh1:=hh.below hbw hB
   obtain⟨ws,hws,hfw⟩:∃ws,(jcy ws).val ρ'=v.val ρ'∧jk5 b.n hp' t'.sel.2 ws []:=by
    match v,hfit with
    | .w u,hfit=>exact⟨[u],rfl,hfit⟩
    | .t [],hfit=>exact⟨[],rfl,hfit⟩
    | .t (x::y::l),hfit=>exact⟨x::y::l,rfl,hfit⟩
   have hin:CIn ρ ρ' B hp hp' nx w.heap.size b.n am w' []:=by
    refine⟨hh1,fun k o b hk hbk=>.inl (O.blk_lt (hh.ok k o hk).2.2 hbk).1,fun i hi=>?_⟩
    have hi2:i<am.length:=by omega
    have h1:=q.own i hi2
    rw[Nat.zero_add]at h1
    refine⟨?_,by rw[hag i hi]; exact h1.symm⟩
    have:am.getD i (.d (.v undef))=am[i]:=by simp[List.getD,hi2]
    rw[this]
    exact q.xlt _ (List.getElem_mem hi2)
   obtain⟨us2,ρ2,k⟩:=jim (m:=w.heap.size) (fun k hk=>hB k hk) hh' t'.sel.2 ws [] hfw nx hp ρ hin
   refine⟨ρ2,?_,k.agree,jfQ k.lt,k.le,k.heap,jb7 hbw hB,fun _=>hbw,fun _ h o b hle hf hbk=>?_⟩
   ·show Ending.returned _=Ending.returned ((jcy (jcC am t'.sel.2 nx).ws).val ρ2)
    rw[←hws,jcI,jcI]
    simp only[k.val]
   ·have hf:find ((jcC am t'.sel.2 nx).hp++hp) h=some o:=hf
    rw[jaI]at hf
    cases hg2:find (jcC am t'.sel.2 nx).hp h with
    |some o2=>rw[hg2]at hf; cases hf; exact k.fresh h o b hg2 hbk
    |none =>
     rw[hg2]at hf
     have:=(hh.ok h o hf).1
     omega
  ·cases hS
 ·cases hS
end Go.Sx
namespace Go.Sh
open Go Go.Proofs Go.RowKit Go.Sx
open Go.IntKind (wrap)
attribute [local go_sem] Oper.semAt_some
def jdH:List SV:=[.a [.d,.r (.floats .f32 []),.d,.d]]
def jb3 (aResponseSamples:List Nat) (aNoise:Int) (x0:(Int × List (List Int))):Option ((Int × List (List Int)) ⊕ (List (List Int))) :=
 if x0.1<(↑(List.length aResponseSamples):Int)then
  if(0:Int)≤x0.1∧x0.1<(↑(List.length aResponseSamples):Int)then
  if Int.toNat x0.1<List.length aResponseSamples then
   if jca FloatKind.f32 IntKind.i64 (List.getD aResponseSamples (Int.toNat x0.1) (0:Nat))=true then
   Option.bind (ja1 (f2i FloatKind.f32 (List.getD aResponseSamples (Int.toNat x0.1) (0:Nat)))) fun r1 =>
   if(List.length x0.2+List.length [[wrap IntKind.i64 ((if wrap IntKind.i64 (r1-aNoise)>(0:Int)then wrap IntKind.i64 (r1-aNoise)else(0:Int))*if wrap IntKind.i64 (r1-aNoise)>(0:Int)then wrap IntKind.i64 (r1-aNoise)else(0:Int)),wrap IntKind.i64 (wrap IntKind.i64 (r1+aNoise)*wrap IntKind.i64 (r1+aNoise))]])*(16:Nat)≤(140737488355328:Nat)∧List.length x0.2+List.length [[wrap IntKind.i64 ((if wrap IntKind.i64 (r1-aNoise)>(0:Int)then wrap IntKind.i64 (r1-aNoise)else(0:Int))*if wrap IntKind.i64 (r1-aNoise)>(0:Int)then wrap IntKind.i64 (r1-aNoise)else(0:Int)),wrap IntKind.i64 (wrap IntKind.i64 (r1+aNoise)*wrap IntKind.i64 (r1+aNoise))]]≤(9223372036854775807:Nat)then
    some (.inl ((wrap IntKind.i64 (x0.1+(1:Int)),x0.2++[[wrap IntKind.i64 ((if wrap IntKind.i64 (r1-aNoise)>(0:Int)then wrap IntKind.i64 (r1-aNoise)else(0:Int))*if wrap IntKind.i64 (r1-aNoise)>(0:Int)then wrap IntKind.i64 (r1-aNoise)else(0:Int)),wrap IntKind.i64 (wrap IntKind.i64 (r1+aNoise)*wrap IntKind.i64 (r1+aNoise))]])))
   else none
   else none
  else none
  else none
 else
  some (.inr x0.2)
def jbI (y0_0:List (List Int)):Option Unit :=
 if(0:Int)≤wrap IntKind.i64 ((↑(List.length y0_0):Int)+(1:Int))∧wrap IntKind.i64 ((↑(List.length y0_0):Int)+(1:Int))=wrap IntKind.i64 ((↑(List.length y0_0):Int)+(1:Int))∧(↑(16:Nat):Int)*wrap IntKind.i64 ((↑(List.length y0_0):Int)+(1:Int))≤(281474976710656:Int)∧wrap IntKind.i64 ((↑(List.length y0_0):Int)+(1:Int))≤(9223372036854775807:Int)then
  if(0:Int)≤(↑(List.length y0_0):Int)∧(↑(List.length y0_0):Int)<(↑(List.length (List.replicate (Int.toNat (wrap IntKind.i64 ((↑(List.length y0_0):Int)+(1:Int)))) [(0:Int),(0:Int)])):Int)then
  if Int.toNat (↑(List.length y0_0):Int)<List.length (List.replicate (Int.toNat (wrap IntKind.i64 ((↑(List.length y0_0):Int)+(1:Int)))) [(0:Int),(0:Int)])then
   some ()
  else none
  else none
 else none
def jhc (zs:List (List Int)) (tail:Int):List (List Int) :=
 List.set (List.replicate (Int.toNat (wrap IntKind.i64 ((↑(List.length zs):Int)+(1:Int)))) [(0:Int),(0:Int)]) (Int.toNat (↑(List.length zs):Int)) (wr (List.length [D.i IntKind.i64 (0:Int),D.i IntKind.i64 (0:Int)]) (List.getD (List.replicate (Int.toNat (wrap IntKind.i64 ((↑(List.length zs):Int)+(1:Int)))) [(0:Int),(0:Int)]) (Int.toNat (↑(List.length zs):Int)) []) (0:Nat) [(0:Int),tail])
def upS (ss:List (List Int)) (i lo hi:Int):List (List Int) :=
 List.set ss (Int.toNat i) (wr (2:Nat) (List.getD ss (Int.toNat i) []) (0:Nat) [wrap IntKind.i64 (lo+List.getD (List.getD ss (Int.toNat (wrap IntKind.i64 (i+(1:Int)))) []) (0:Nat) (0:Int)),wrap IntKind.i64 (hi+List.getD (List.getD ss (Int.toNat (wrap IntKind.i64 (i+(1:Int)))) []) (1:Nat) (0:Int))])
def jb8 (zs:List (List Int)) (tail:Int) (pre:List (Fin zs.length)):List (List Int) :=
 pre.foldl (fun ss x=>upS ss (x.1:Int) ((zs.getD x.1 []).getD 0 0) ((zs.getD x.1 []).getD 1 0)) (jhc zs tail)
def jao (aResponseRate:Int) (aResponseSamples:List Nat) (aNoise aTail:Int):Option (Int × List (List Int) × List (List Int)) :=
 Option.bind (y26 aResponseRate aResponseSamples aNoise aTail) fun r0 =>
 if(r0.2 != (0:Int))=true then
  some (r0.2,[],[])
 else
  Option.bind (jae (jb3 aResponseSamples aNoise) big (((0:Int),[]))) fun y0 =>
  Option.bind (jbI y0) fun _=>some (0,y0,jb8 y0 aTail (Bk.bk y0.length y0.length))
def jmk:List Lf→Option GT
 |[.d (.i .i64 aResponseRate),.r (.floats .f32 aResponseSamples),.d (.i .i64 aNoise),.d (.i .i64 aTail)]=>some (.br ((val (jao aResponseRate aResponseSamples aNoise aTail)).1 != (0:Int))
  (.leaf (ok (jao aResponseRate aResponseSamples aNoise aTail)) [.c (.d (.v (Value.pointer none))),.c (.d (.i .i64 ((val (jao aResponseRate aResponseSamples aNoise aTail)).1)))])
  (.leaf (ok (jao aResponseRate aResponseSamples aNoise aTail)) [.c (.box 133 [.d (.i .i64 aResponseRate),.g 0,.d (.i .i64 aNoise),.d (.i .i64 aTail),.row 30 (.recs 2 ((val (jao aResponseRate aResponseSamples aNoise aTail)).2.1)),.row 30 (.recs 2 ((val (jao aResponseRate aResponseSamples aNoise aTail)).2.2))]),.c (.d (.i .i64 (0:Int)))]))
 |_=>none
abbrev sp_67:jab→jab:=jas 67 true (jal jdH jmk)
def hpT (rate:Int) (samples:List Nat) (noise tail:Int) (zs ss:List (List Int)):Hp:=[(1,.box 26 [.d (.i .i64 rate),.o 0,.d (.i .i64 noise),.d (.i .i64 tail)]),(2,.box 105 [.p 3 (0:Nat) 1 (0:Nat)]),(0,.ext (.floats .f32 samples)),(3,.box 133 [.d (.i .i64 rate),.o 0,.d (.i .i64 noise),.d (.i .i64 tail),.o 4,.o 5]),(4,.row 30 (.recs 2 zs)),(5,.row 30 (.recs 2 ss)),(6,.box 81 [.o 4])]
def stT (rate:Int) (samples:List Nat) (noise tail:Int) (zs ss:List (List Int)):St:=⟨[(6,.w (.c (.p 2 (0:Nat) 1 (0:Nat)))),(89,.w (.c (.fn 141 [6])))],hpT rate samples noise tail zs ss,7⟩
def jfj:List Nat→Code→Code
 |[],c=>c
 |0::p,.seq x _=>jfj p x
 |_::p,.seq _ y=>jfj p y
 |_::p,.block _ c=>jfj p c
 |_,c=>c
def jtW:Code→Code
 | .rangeFunc _ _ _ b=>b
 | .block _ c=>jtW c
 |_=>.skip
def jwb:Code→Code
 | .rangeFunc _ _ a _=>a
 | .block _ c=>jwb c
 |_=>.skip
noncomputable def jfK:Code:=jjP 6 (jai Tryz.f67)
noncomputable def jrV:Code:=jfj [0,0] jfK
noncomputable def jnF:Code:=jtW (jfj [0,1] jfK)
noncomputable def jqT:Code:=jwb (jfj [0,1] jfK)
def stA (y:Value) (i lo hi:Int):St:=⟨[(6,.w (.c (.d (.v y)))),(90,vi .i64 i),(91,.w (.a [.d (.i .i64 lo),.d (.i .i64 hi)]))],[],0⟩
def stA' (y:Value) (i lo hi:Int):St:=⟨[(6,.w (.c (.d (.v y)))),(12,vi .i64 i),(13,.w (.c (.p 0 0 1 0)))],[(0,.box 30 [.d (.i .i64 lo),.d (.i .i64 hi)])],1⟩
def stB (rate:Int) (samples:List Nat) (noise tail:Int) (zs ss:List (List Int)) (i lo hi:Int):St:=⟨[(6,.w (.c (.p 2 (0:Nat) 1 (0:Nat)))),(12,vi .i64 i),(13,.w (.c (.p 7 0 1 0)))],(7,.box 30 [.d (.i .i64 lo),.d (.i .i64 hi)])::hpT rate samples noise tail zs ss,8⟩
theorem jxH (y:Value) (i lo hi:Int):sx Tryz.prog sp0 109 0 0 (fun _ _ _=>none) (jcl Tryz.prog sp0 109) jqT 0 [] (stA y i lo hi) (fun e st=>match e with | .normal=>Le 0 st (stA' y i lo hi)|_=>False):=by
 refine Eq.mp (by kernel_rfl:(
 (
  Ob (y=y) ∧
  (Ob (i=i) ∧
  (Ob ((0:Nat)=(0:Nat)) ∧
  (Ob (lo=lo) ∧
  (Ob (hi=hi) ∧
  True))))))=_) ?_
 exact(by repeat' (first|exact trivial|exact⟨rfl⟩|refine And.intro ?_ ?_))
theorem jxI (rate:Int) (samples:List Nat) (noise tail:Int) (zs ss:List (List Int)) (i lo hi:Int) (hi0:0≤i) (hi1:i+1<(ss.length:Int)) (hi2:(ss.length:Int)≤17592186044417) :
  sx Tryz.prog (sp_117 sp0) 109 8 0 (fun _ _ _=>none) (jcl Tryz.prog (sp_117 sp0) 109) jnF 0 [] (stB rate samples noise tail zs ss i lo hi) (fun e st=>match e with | .normal=>Le 8 st (stB rate samples noise tail zs (upS ss i lo hi) i lo hi)|_=>False):=by
 have hw:wrap IntKind.i64 (i+(1:Int))=i+1:=IntWalk.i64_in _ (by omega)
 refine Eq.mp (by kernel_rfl:(
 (
  Ob ((0:Int)≤wrap IntKind.i64 (i+(1:Int))∧wrap IntKind.i64 (i+(1:Int))<(↑(List.length ss):Int)) ∧
  (Ob (Int.toNat (wrap IntKind.i64 (i+(1:Int)))<List.length ss) ∧
  (Ob (ok (jc9 lo hi (List.getD (List.getD ss (Int.toNat (wrap IntKind.i64 (i+(1:Int)))) []) (0:Nat) (0:Int)) (List.getD (List.getD ss (Int.toNat (wrap IntKind.i64 (i+(1:Int)))) []) (1:Nat) (0:Int)))) ∧
  (Ob ((0:Int)≤i∧i<(↑(List.length ss):Int)) ∧
  (Ob (Int.toNat i<List.length ss) ∧
  (Ob ((0:Nat)=(0:Nat)) ∧
  (Ob (i=i) ∧
  (Ob ((0:Nat)=(0:Nat)) ∧
  (Ob (lo=lo) ∧
  (Ob (hi=hi) ∧
  (Ob (rate=rate) ∧
  (Ob (noise=noise) ∧
  (Ob (tail=tail) ∧
  (Ob ((0:Nat)=(0:Nat)) ∧
  (Ob (samples=samples) ∧
  (Ob (rate=rate) ∧
  (Ob (noise=noise) ∧
  (Ob (tail=tail) ∧
  (Ob (zs=zs) ∧
  (Ob (List.set ss (Int.toNat i) (wr (2:Nat) (List.getD ss (Int.toNat i) []) (0:Nat) [wrap IntKind.i64 (lo+List.getD (List.getD ss (Int.toNat (wrap IntKind.i64 (i+(1:Int)))) []) (0:Nat) (0:Int)),wrap IntKind.i64 (hi+List.getD (List.getD ss (Int.toNat (wrap IntKind.i64 (i+(1:Int)))) []) (1:Nat) (0:Int))])=upS ss i lo hi) ∧
  True)))))))))))))))))))))=_) ?_
 refine⟨⟨by rw[hw]; omega⟩,⟨by rw[hw]; omega⟩,⟨rfl⟩,⟨by omega⟩,⟨by omega⟩,?_⟩
 exact(by repeat' (first|exact trivial|exact⟨rfl⟩|refine And.intro ?_ ?_))
theorem jrW {b:Bool} {X Y:Prop} (h1:b=true→X) (h2:b=false→Y):Br b X Y:=by
 cases b
 ·exact h2 rfl
 ·exact h1 rfl
set_option maxHeartbeats 4000000 in
theorem jzy (aResponseRate:Int) (aResponseSamples:List Nat) (aNoise aTail:Int) (r:List (List Int)) (err:Int) (ha:ok (y26 aResponseRate aResponseSamples aNoise aTail))
  (he:((val (y26 aResponseRate aResponseSamples aNoise aTail)).2 != (0:Int))=true→(val (y26 aResponseRate aResponseSamples aNoise aTail)).2=err)
  (hn:((val (y26 aResponseRate aResponseSamples aNoise aTail)).2 != (0:Int))=false→Option.bind (jae (jb3 aResponseSamples aNoise) big (((0:Int),[]))) (fun y0=>Option.bind (jbI y0) (fun _=>some y0))=some r) :
  sx Tryz.prog (sp_114 (sp_115 (sp_116 (sp_117 sp0)))) 109 1 40 ((fun gs id _=>match id with
 |0=>some ⟨(Int × List (List Int)) × Nat,fun z=>⟨[(1,.w (.c (.p 1 (0:Nat) 1 (0:Nat)))),(6,.w (.c (.p 2 (0:Nat) 1 (0:Nat)))),(27,.w (.c (.o 0))),(28,.w (.c (.d (.i .i64 ((↑(List.length aResponseSamples):Int)))))),(29,.w (.c (.d (.i .i64 (Prod.fst (Prod.fst z))))))],[(1,.box 26 [.d (.i .i64 aResponseRate),.o 0,.d (.i .i64 aNoise),.d (.i .i64 aTail)]),(2,.box 105 [.p 3 (0:Nat) 1 (0:Nat)]),(0,.ext (.floats .f32 aResponseSamples)),(3,.box 133 [.d (.i .i64 aResponseRate),.o 0,.d (.i .i64 aNoise),.d (.i .i64 aTail),.o 4,.d (.v (Value.slice none (0:Nat) (0:Nat)))]),(4,.row 30 (.recs 2 (Prod.snd (Prod.fst z))))],5⟩,fun z=>Option.bind (jae (jb3 aResponseSamples aNoise) (Prod.snd z) (Prod.fst z)) (fun y0=>Option.bind (jbI y0) (fun _=>some y0))=some r,fun z=>Prod.snd z⟩
 |_=>none)) (jcl Tryz.prog (sp_114 (sp_115 (sp_116 (sp_117 sp0)))) 109) (jjO 6 (jai Tryz.f67)) 0 [] ⟨jc5 0 (jaO jdH [.d (.i .i64 aResponseRate),.r (.floats .f32 aResponseSamples),.d (.i .i64 aNoise),.d (.i .i64 aTail)]).vs,(jaO jdH [.d (.i .i64 aResponseRate),.r (.floats .f32 aResponseSamples),.d (.i .i64 aNoise),.d (.i .i64 aTail)]).hp,1⟩
   (fun e st=>match e with
    | .ret=>Ob (((val (y26 aResponseRate aResponseSamples aNoise aTail)).2 != (0:Int))=true)∧jeo Tryz.prog Tryz.f67.results.toList (fun v hp _=>jjR 1 [.c (.d (.v (Value.pointer none))),.c (.d (.i .i64 err))] v hp) .ret st
    | .normal=>Ob (((val (y26 aResponseRate aResponseSamples aNoise aTail)).2 != (0:Int))=false)∧sx Tryz.prog (sp_114 (sp_115 (sp_116 (sp_117 sp0)))) 109 1 40 (fun _ _ _=>none) (jcl Tryz.prog (sp_114 (sp_115 (sp_116 (sp_117 sp0)))) 109) jrV 0 [] st (fun e st=>match e with | .normal=>Le 1 st (stT aResponseRate aResponseSamples aNoise aTail r (jhc r aTail))|_=>False)
    |_=>False):=by
 refine Eq.mp (by kernel_rfl:(
 (
  Ob (ok (y26 aResponseRate aResponseSamples aNoise aTail)) ∧
  Br ((val (y26 aResponseRate aResponseSamples aNoise aTail)).2 != (0:Int))
  ((Ob (((val (y26 aResponseRate aResponseSamples aNoise aTail)).2 != (0:Int))=true) ∧
  (Ob True ∧
  (Ob True ∧
  (Ob (Value.pointer none=Value.pointer none) ∧
  (Ob ((val (y26 aResponseRate aResponseSamples aNoise aTail)).2=err) ∧
  True))))))
  (((∃(v0:(Int × List (List Int)) × Nat),(Ob ((Option.bind (jae (jb3 aResponseSamples aNoise) v0.2 v0.1) fun y0=>Option.bind (jbI y0) fun x=>some y0)=some r) ∧
  (Ob ((0:Nat)=(0:Nat)) ∧
  (Ob ((0:Nat)=(0:Nat)) ∧
  (Ob ((↑(List.length aResponseSamples):Int)=(↑(List.length aResponseSamples):Int)) ∧
  (Ob ((0:Int)=v0.1.1) ∧
  (Ob (aResponseRate=aResponseRate) ∧
  (Ob (aNoise=aNoise) ∧
  (Ob (aTail=aTail) ∧
  (Ob ((0:Nat)=(0:Nat)) ∧
  (Ob (aResponseSamples=aResponseSamples) ∧
  (Ob (aResponseRate=aResponseRate) ∧
  (Ob (aNoise=aNoise) ∧
  (Ob (aTail=aTail) ∧
  (Ob (Value.slice none (0:Nat) (0:Nat)=Value.slice none (0:Nat) (0:Nat)) ∧
  (Ob (List.length v0.1.2=(0:Nat)) ∧
  True)))))))))))))))) ∧
  (∀(v0:(Int × List (List Int)) × Nat),((Option.bind (jae (jb3 aResponseSamples aNoise) v0.2 v0.1) fun y0=>Option.bind (jbI y0) fun x=>some y0)=some r →
  Br (decide (v0.1.1<(↑(List.length aResponseSamples):Int)))
  ((Ob ((0:Int)≤v0.1.1∧v0.1.1<(↑(List.length aResponseSamples):Int)) ∧
  (Ob (Int.toNat v0.1.1<List.length aResponseSamples) ∧
  (Ob (jca FloatKind.f32 IntKind.i64 (List.getD aResponseSamples (Int.toNat v0.1.1) (0:Nat))=true) ∧
  (Ob (ok (ja1 (f2i FloatKind.f32 (List.getD aResponseSamples (Int.toNat v0.1.1) (0:Nat))))) ∧
  (Ob ((List.length v0.1.2+List.length [[wrap IntKind.i64 ((if wrap IntKind.i64 (val (ja1 (f2i FloatKind.f32 (List.getD aResponseSamples (Int.toNat v0.1.1) (0:Nat))))-aNoise)>(0:Int)then wrap IntKind.i64 (val (ja1 (f2i FloatKind.f32 (List.getD aResponseSamples (Int.toNat v0.1.1) (0:Nat))))-aNoise)else(0:Int))*if wrap IntKind.i64 (val (ja1 (f2i FloatKind.f32 (List.getD aResponseSamples (Int.toNat v0.1.1) (0:Nat))))-aNoise)>(0:Int)then wrap IntKind.i64 (val (ja1 (f2i FloatKind.f32 (List.getD aResponseSamples (Int.toNat v0.1.1) (0:Nat))))-aNoise)else(0:Int)),wrap IntKind.i64 (wrap IntKind.i64 (val (ja1 (f2i FloatKind.f32 (List.getD aResponseSamples (Int.toNat v0.1.1) (0:Nat))))+aNoise)*wrap IntKind.i64 (val (ja1 (f2i FloatKind.f32 (List.getD aResponseSamples (Int.toNat v0.1.1) (0:Nat))))+aNoise))]])*(16:Nat)≤(140737488355328:Nat)∧List.length v0.1.2+List.length [[wrap IntKind.i64 ((if wrap IntKind.i64 (val (ja1 (f2i FloatKind.f32 (List.getD aResponseSamples (Int.toNat v0.1.1) (0:Nat))))-aNoise)>(0:Int)then wrap IntKind.i64 (val (ja1 (f2i FloatKind.f32 (List.getD aResponseSamples (Int.toNat v0.1.1) (0:Nat))))-aNoise)else(0:Int))*if wrap IntKind.i64 (val (ja1 (f2i FloatKind.f32 (List.getD aResponseSamples (Int.toNat v0.1.1) (0:Nat))))-aNoise)>(0:Int)then wrap IntKind.i64 (val (ja1 (f2i FloatKind.f32 (List.getD aResponseSamples (Int.toNat v0.1.1) (0:Nat))))-aNoise)else(0:Int)),wrap IntKind.i64 (wrap IntKind.i64 (val (ja1 (f2i FloatKind.f32 (List.getD aResponseSamples (Int.toNat v0.1.1) (0:Nat))))+aNoise)*wrap IntKind.i64 (val (ja1 (f2i FloatKind.f32 (List.getD aResponseSamples (Int.toNat v0.1.1) (0:Nat))))+aNoise))]]≤(9223372036854775807:Nat)) ∧
  (∃(v1:(Int × List (List Int)) × Nat),(Ob ((Option.bind (jae (jb3 aResponseSamples aNoise) v1.2 v1.1) fun y0=>Option.bind (jbI y0) fun x=>some y0)=some r) ∧
  (Ob (v1.2<v0.2) ∧
  (Ob ((0:Nat)=(0:Nat)) ∧
  (Ob ((0:Nat)=(0:Nat)) ∧
  (Ob ((↑(List.length aResponseSamples):Int)=(↑(List.length aResponseSamples):Int)) ∧
  (Ob (wrap IntKind.i64 (v0.1.1+(1:Int))=v1.1.1) ∧
  (Ob (aResponseRate=aResponseRate) ∧
  (Ob (aNoise=aNoise) ∧
  (Ob (aTail=aTail) ∧
  (Ob ((0:Nat)=(0:Nat)) ∧
  (Ob (aResponseSamples=aResponseSamples) ∧
  (Ob (aResponseRate=aResponseRate) ∧
  (Ob (aNoise=aNoise) ∧
  (Ob (aTail=aTail) ∧
  (Ob (Value.slice none (0:Nat) (0:Nat)=Value.slice none (0:Nat) (0:Nat)) ∧
  (Ob (v0.1.2++[[wrap IntKind.i64 ((if wrap IntKind.i64 (val (ja1 (f2i FloatKind.f32 (List.getD aResponseSamples (Int.toNat v0.1.1) (0:Nat))))-aNoise)>(0:Int)then wrap IntKind.i64 (val (ja1 (f2i FloatKind.f32 (List.getD aResponseSamples (Int.toNat v0.1.1) (0:Nat))))-aNoise)else(0:Int))*if wrap IntKind.i64 (val (ja1 (f2i FloatKind.f32 (List.getD aResponseSamples (Int.toNat v0.1.1) (0:Nat))))-aNoise)>(0:Int)then wrap IntKind.i64 (val (ja1 (f2i FloatKind.f32 (List.getD aResponseSamples (Int.toNat v0.1.1) (0:Nat))))-aNoise)else(0:Int)),wrap IntKind.i64 (wrap IntKind.i64 (val (ja1 (f2i FloatKind.f32 (List.getD aResponseSamples (Int.toNat v0.1.1) (0:Nat))))+aNoise)*wrap IntKind.i64 (val (ja1 (f2i FloatKind.f32 (List.getD aResponseSamples (Int.toNat v0.1.1) (0:Nat))))+aNoise))]]=v1.1.2) ∧
  True)))))))))))))))))))))))
  ((Ob ((0:Int)≤wrap IntKind.i64 ((↑(List.length v0.1.2):Int)+(1:Int))∧wrap IntKind.i64 ((↑(List.length v0.1.2):Int)+(1:Int))=wrap IntKind.i64 ((↑(List.length v0.1.2):Int)+(1:Int))∧(↑(16:Nat):Int)*wrap IntKind.i64 ((↑(List.length v0.1.2):Int)+(1:Int))≤(281474976710656:Int)∧wrap IntKind.i64 ((↑(List.length v0.1.2):Int)+(1:Int))≤(9223372036854775807:Int)) ∧
  (Ob ((0:Int)≤(↑(List.length v0.1.2):Int)∧(↑(List.length v0.1.2):Int)<(↑(List.length (List.replicate (Int.toNat (wrap IntKind.i64 ((↑(List.length v0.1.2):Int)+(1:Int)))) [(0:Int),(0:Int)])):Int)) ∧
  (Ob (Int.toNat (↑(List.length v0.1.2):Int)<List.length (List.replicate (Int.toNat (wrap IntKind.i64 ((↑(List.length v0.1.2):Int)+(1:Int)))) [(0:Int),(0:Int)])) ∧
  (Ob (((val (y26 aResponseRate aResponseSamples aNoise aTail)).2 != (0:Int))=false) ∧
  (Ob True ∧
  (Ob ((0:Nat)=(0:Nat)) ∧
  (Ob (aResponseRate=aResponseRate) ∧
  (Ob (aNoise=aNoise) ∧
  (Ob (aTail=aTail) ∧
  (Ob ((0:Nat)=(0:Nat)) ∧
  (Ob (aResponseSamples=aResponseSamples) ∧
  (Ob (aResponseRate=aResponseRate) ∧
  (Ob (aNoise=aNoise) ∧
  (Ob (aTail=aTail) ∧
  (Ob (v0.1.2=r) ∧
  (Ob (List.set (List.replicate (Int.toNat (wrap IntKind.i64 ((↑(List.length v0.1.2):Int)+(1:Int)))) [(0:Int),(0:Int)]) (Int.toNat (↑(List.length v0.1.2):Int)) (wr (List.length [D.i IntKind.i64 (0:Int),D.i IntKind.i64 (0:Int)]) (List.getD (List.replicate (Int.toNat (wrap IntKind.i64 ((↑(List.length v0.1.2):Int)+(1:Int)))) [(0:Int),(0:Int)]) (Int.toNat (↑(List.length v0.1.2):Int)) []) (0:Nat) [(0:Int),aTail])=jhc r aTail) ∧
  True)))))))))))))))))))))))=_) ?_
 refine⟨⟨ha⟩,jrW (fun hb=>?_) (fun hb=>?_)⟩
 ·exact⟨⟨hb⟩,⟨trivial⟩,⟨trivial⟩,⟨rfl⟩,⟨he hb⟩,trivial⟩
 ·have h:=hn hb
  refine⟨⟨(((0:Int),[]),big),⟨h⟩,(by repeat' (first|exact trivial|exact⟨rfl⟩|refine And.intro ?_ ?_))⟩,fun z2 hz2=>?_⟩
  obtain⟨k2,hm2,h⟩:=jaU hz2
  refine jaT h (fun h=>?_) (fun h=>?_)
  ·refine jat h fun h=>?_
   refine jat h fun h=>?_
   refine jat h fun h=>?_
   refine jav h fun h=>?_
   refine jat h fun h=>?_
   exact⟨((wrap IntKind.i64 ((Prod.fst z2).1+(1:Int)),(Prod.fst z2).2++[[wrap IntKind.i64 ((if wrap IntKind.i64 (val (ja1 (f2i FloatKind.f32 (List.getD aResponseSamples (Int.toNat (Prod.fst z2).1) (0:Nat))))-aNoise)>(0:Int)then wrap IntKind.i64 (val (ja1 (f2i FloatKind.f32 (List.getD aResponseSamples (Int.toNat (Prod.fst z2).1) (0:Nat))))-aNoise)else(0:Int))*if wrap IntKind.i64 (val (ja1 (f2i FloatKind.f32 (List.getD aResponseSamples (Int.toNat (Prod.fst z2).1) (0:Nat))))-aNoise)>(0:Int)then wrap IntKind.i64 (val (ja1 (f2i FloatKind.f32 (List.getD aResponseSamples (Int.toNat (Prod.fst z2).1) (0:Nat))))-aNoise)else(0:Int)),wrap IntKind.i64 (wrap IntKind.i64 (val (ja1 (f2i FloatKind.f32 (List.getD aResponseSamples (Int.toNat (Prod.fst z2).1) (0:Nat))))+aNoise)*wrap IntKind.i64 (val (ja1 (f2i FloatKind.f32 (List.getD aResponseSamples (Int.toNat (Prod.fst z2).1) (0:Nat))))+aNoise))]]),k2),⟨jaQ h⟩,⟨ja0 hm2.symm⟩,(by repeat' (first|exact trivial|exact⟨rfl⟩|refine And.intro ?_ ?_))⟩
  ·have h:=jaC h
   refine jat h fun h=>?_
   refine jat h fun h=>?_
   refine jat h fun h=>?_
   obtain rfl:=Option.some.inj h
   have hb':=hb
   exact(by repeat' (first|exact trivial|exact⟨rfl⟩|exact⟨trivial⟩|exact⟨hb⟩|refine And.intro ?_ ?_))
end Go.Sh
end

section
open Go.RowKit
namespace Go.Sh
open Go Go.Proofs Go.RowKit Go.Sx
open Go.IntKind (wrap)
theorem jrX {zs:List (List Int)} (tail:Int) (h:zs.length≤17592186044416):(jhc zs tail).length=zs.length+1:=by
 unfold jhc
 rw[List.length_set,List.length_replicate,show wrap IntKind.i64 ((zs.length:Int)+1)=(zs.length:Int)+1 from IntWalk.i64_in _ (by omega)]
 omega
theorem jzz (ss:List (List Int)) (i lo hi:Int):(upS ss i lo hi).length=ss.length:=by
 unfold upS
 rw[List.length_set]
theorem jlT (zs:List (List Int)) (tail:Int) (pre:List (Fin zs.length)) (x:Fin zs.length):jb8 zs tail (pre++[x])=upS (jb8 zs tail pre) (x.1:Int) ((zs.getD x.1 []).getD 0 0) ((zs.getD x.1 []).getD 1 0):=by
 unfold jb8
 rw[List.foldl_append]
 rfl
theorem juX {zs:List (List Int)} (tail:Int) (h:zs.length≤17592186044416) (pre:List (Fin zs.length)):(jb8 zs tail pre).length=zs.length+1:=by
 unfold jb8
 have:∀(pre:List (Fin zs.length)) (ss:List (List Int)),ss.length=zs.length+1→(pre.foldl (fun ss x=>upS ss (x.1:Int) ((zs.getD x.1 []).getD 0 0) ((zs.getD x.1 []).getD 1 0)) ss).length=zs.length+1:=by
  intro pre
  induction pre with
  |nil=>exact fun ss h=>h
  |cons x l ih=>exact fun ss h=>ih _ ((jzz _ _ _ _).trans h)
 exact this pre _ (jrX tail h)
section
variable {rate:Int} {samples:List Nat} {noise tail:Int} {zs ss:List (List Int)}
theorem jiA {h:Nat} {o:O} (hf:find (hpT rate samples noise tail zs ss) h=some o) :
  (h=1∧o=.box 26 [.d (.i .i64 rate),.o 0,.d (.i .i64 noise),.d (.i .i64 tail)])∨(h=2∧o=.box 105 [.p 3 (0:Nat) 1 (0:Nat)])∨(h=0∧o=.ext (.floats .f32 samples)) ∨
  (h=3∧o=.box 133 [.d (.i .i64 rate),.o 0,.d (.i .i64 noise),.d (.i .i64 tail),.o 4,.o 5])∨(h=4∧o=.row 30 (.recs 2 zs))∨(h=5∧o=.row 30 (.recs 2 ss))∨(h=6∧o=.box 81 [.o 4]):=by
 simp only[hpT,find]at hf
 split at hf
 ·rename_i e; cases hf; exact .inl ⟨e.symm,rfl⟩
 split at hf
 ·rename_i e; cases hf; exact .inr (.inl ⟨e.symm,rfl⟩)
 split at hf
 ·rename_i e; cases hf; exact .inr (.inr (.inl ⟨e.symm,rfl⟩))
 split at hf
 ·rename_i e; cases hf; exact .inr (.inr (.inr (.inl ⟨e.symm,rfl⟩)))
 split at hf
 ·rename_i e; cases hf; exact .inr (.inr (.inr (.inr (.inl ⟨e.symm,rfl⟩))))
 split at hf
 ·rename_i e; cases hf; exact .inr (.inr (.inr (.inr (.inr (.inl ⟨e.symm,rfl⟩)))))
 split at hf
 ·rename_i e; cases hf; exact .inr (.inr (.inr (.inr (.inr (.inr ⟨e.symm,rfl⟩)))))
 ·cases hf
theorem jtX {h:Nat} {o:O} (hf:find (hpT rate samples noise tail zs ss) h=some o):rngO o=true:=by
 rcases jiA hf with ⟨_,rfl⟩|⟨_,rfl⟩|⟨_,rfl⟩|⟨_,rfl⟩|⟨_,rfl⟩|⟨_,rfl⟩|⟨_,rfl⟩<;>rfl
theorem jrY {h:Nat} {o:O} (hf:find (hpT rate samples noise tail zs ss) h=some o):h<7∧o.lt 7:=by
 have L:∀(l:List C),l.all (fun c=>match c with | .d _=>true | .o h=>h<7 | .p h _ _ _=>h<7|_=>false)=true→∀c∈l,C.lt 7 c:=by
  intro l hl c hc
  have:=List.all_eq_true.1 hl c hc
  cases c with
  |d x=>trivial
  |o h=>exact(show h<7 from of_decide_eq_true this)
  |p h i e j=>exact(show h<7 from of_decide_eq_true this)
  |_=>cases this
 rcases jiA hf with ⟨rfl,rfl⟩|⟨rfl,rfl⟩|⟨rfl,rfl⟩|⟨rfl,rfl⟩|⟨rfl,rfl⟩|⟨rfl,rfl⟩|⟨rfl,rfl⟩
 ·exact⟨by decide,L _ rfl⟩
 ·exact⟨by decide,L _ rfl⟩
 ·exact⟨by decide,trivial⟩
 ·exact⟨by decide,L _ rfl⟩
 ·exact⟨by decide,trivial⟩
 ·exact⟨by decide,trivial⟩
 ·exact⟨by decide,L _ rfl⟩
theorem jzA {ρ:Env} {h k:Nat} {o:O} (s2:List (List Int)) (hf:find (hpT rate samples noise tail zs ss) h=some o) (hb:o.blk (ρ h)=some k):∃o',find (hpT rate samples noise tail zs s2) h=some o'∧o'.blk (ρ h)=some k:=by
 rcases jiA hf with ⟨rfl,rfl⟩|⟨rfl,rfl⟩|⟨rfl,rfl⟩|⟨rfl,rfl⟩|⟨rfl,rfl⟩|⟨rfl,rfl⟩|⟨rfl,rfl⟩
 all_goals exact⟨_,rfl,hb⟩
end
theorem jAg {ρ:Env} {B:Bd} {hp hp':Hp} {n n':Nat} {w:World} (h:HRel ρ B hp n w) (hs:∀k o,find hp' k=some o→find hp k=some o∧k<n'∧o.lt n'):HRel ρ B hp' n' w :=
 ⟨fun k o hf=>⟨(hs k o hf).2.1,(hs k o hf).2.2,(h.ok k o (hs k o hf).1).2.2⟩,fun k o k' o' b hf hf'=>h.apart k o k' o' b (hs k o hf).1 (hs k' o' hf').1,h.glob⟩
theorem jzB {ρ:Env} {B:Bd} {w w':World} {h:Nat} {c:Cont} (hb:Bel B w w') (ho:(O.ext c).ok ρ B w h):(O.ext c).ok ρ B w' h:=by
 obtain⟨⟨a,cap,h1,h2,h3⟩,h4⟩:=ho
 refine⟨⟨a,cap,h1,h2,fun hn=>?_⟩,h4⟩
 obtain⟨b,off,rfl,hx⟩:=h3 hn
 exact⟨b,off,rfl,fun j x hj=>(hb.cell (p:=⟨b,off+j,none⟩) (h4 ⟨b,off,none⟩ _ _ h1 hn)).trans (hx j x hj)⟩
theorem juY {W:World} {k:Nat} {v:Value} {t:Nat} {f:Nat × Nat} (h:W.heap[k]?=some (.cells #[v] t f)):W.cell? ⟨k,0,none⟩=some v:=by
 simp[World.cell?,h]
theorem jrZ {W:World} {p:Addr} {v:Value} {l:Nat} {o o':Obj} (h:W.cell? p=some v) (hl:W.heap[l]?=some o) (ho:o.isCells=false):(W.putObj l o').cell? p=some v:=by
 have hlt:=World.block_lt_of_cell? W p h
 have hne:p.block≠l:=by
  intro e
  subst e
  have:W.cell? p=none:=by
   unfold World.cell?
   rw[hl]
   cases o<;>first|rfl|cases ho
  rw[this]at h
  cases h
 have hb:(W.putObj l o').heap[p.block]?=W.heap[p.block]?:=(grownBy_putObj' W l o').block p.block hlt (fun e=>hne (Option.some.inj e))
 exact(World.cell?_of_block (w:=W) hb).trans h
theorem jAh {kb:Nat} {sv:Value} {zs:List (List Int)} {W:World} {l:Nat} {o o':Obj} (h:Bk.Rd kb sv zs W) (hl:W.heap[l]?=some o) (ho:o.isCells=false):Bk.Rd kb sv zs (W.putObj l o'):=by
 refine⟨jrZ h.box hl ho,?_⟩
 obtain⟨a,cap,h1,h2,h3⟩:=h.row
 refine⟨a,cap,h1,h2,fun hn=>?_⟩
 obtain⟨b,off,hab,hx⟩:=h3 hn
 exact⟨b,off,hab,fun j x hj=>jrZ (hx j x hj) hl ho⟩
structure OI (ρ:Env) (B:Bd) (rate:Int) (samples:List Nat) (noise tail:Int) (zs:List (List Int)) (w0:World) (pre:List (Fin zs.length)) (W:World):Prop where
 heap:HRel ρ B (hpT rate samples noise tail zs (jb8 zs tail pre)) 7 W
 bel:Bel B w0 W
 old:Old B W
section
variable {ρ:Env} {B:Bd} {rate:Int} {samples:List Nat} {noise tail:Int} {zs:List (List Int)} {w0:World}
theorem OI.own (h0:Old B w0):OwnFrom w0.heap.size (OI ρ B rate samples noise tail zs w0):=by
 intro pre W W' row hs hg hr
 have hnB:∀k,B k→row≠some k:=fun k hk e=>by
  have h1:=(hr k e).1
  have h2:=h0 k hk
  omega
 refine⟨hs.heap.grown hg hs.old (fun r e=>⟨fun hb=>hnB r hb e,(hr r e).2⟩) (fun h o hf=>jtX hf),hs.bel.trans ⟨hg.os,hg.tape,hg.output,hg.size,fun k hk=>hg.block k (hs.old k hk) (fun e=>hnB k hk e.symm)⟩,fun k hk=>Nat.lt_of_lt_of_le (hs.old k hk) hg.size⟩
theorem OI.rd {pre:List (Fin zs.length)} {W:World} (h:OI ρ B rate samples noise tail zs w0 pre W) {kb:Nat} (hk:ρ 6=.pointer (some ⟨kb,0,none⟩)):Bk.Rd kb (ρ 4) zs W:=by
 obtain⟨_,_,k,h1,_,h3⟩:=h.heap.ok 6 _ rfl
 rw[hk]at h1
 cases h1
 exact⟨juY h3,jbo (h.heap.ok 4 _ rfl).2.2 rfl⟩
end
def OA (y:Value) (zs:List (List Int)) (w0:World) (x:Fin zs.length) (a:Act) (W:World):Prop :=
 a.tmps.size=109∧a.defers=[]∧a.tmps.getD 6 undef=y∧a.tmps.getD 12 undef=.int .i64 (x.1:Int) ∧
 ∃b,w0.heap.size≤b∧a.tmps.getD 13 undef=.pointer (some ⟨b,0,none⟩)∧W.heap[b]?=some (.cells #[.int .i64 ((zs.getD x.1 []).getD 0 0),.int .i64 ((zs.getD x.1 []).getD 1 0)] 30 (0,0))
theorem OA.own {y:Value} {zs:List (List Int)} {w0:World} (x:Fin zs.length) (a:Act):OwnFrom w0.heap.size (fun(_:Unit) W=>OA y zs w0 x a W):=by
 rintro _ W W' row ⟨h1,h2,h3,h4,b,h5,h6,h7⟩ hg hr
 refine⟨h1,h2,h3,h4,b,h5,h6,(hg.block b (Array.getElem?_eq_some_iff.1 h7).1 (fun e=>?_)).trans h7⟩
 obtain⟨_,o,ho,hc⟩:=hr b e.symm
 rw[h7]at ho
 cases ho
 cases hc
theorem tms {a:Act} {y:Value} {i lo hi:Int} (hs:a.tmps.size=109) (hy:a.tmps.getD 6 undef=y) {t:Nat} {v:V} {ρ:Env} (hv:jbg (stA y i lo hi).tm t=some v) :
  V.lt 0 v∧(((#[90,91]:Array Tmp).zip #[.int .i64 i,.agg #[.int .i64 lo,.int .i64 hi]]).foldl (fun t (p,v)=>t.setIfInBounds p v) a.tmps).getD t undef=v.val ρ:=by
 have e:((#[90,91]:Array Tmp).zip #[Value.int .i64 i,.agg #[.int .i64 lo,.int .i64 hi]]).foldl (fun t (p,v)=>t.setIfInBounds p v) a.tmps=(a.tmps.setIfInBounds 90 (.int .i64 i)).setIfInBounds 91 (.agg #[.int .i64 lo,.int .i64 hi]):=by simp
 rw[e]
 simp only[stA,jbg]at hv
 split at hv
 ·rename_i e; subst e; cases hv
  refine⟨trivial,?_⟩
  rw[←hy]
  simp[Array.getD,hs,V.val,W.val,C.val,D.val,Array.getElem_setIfInBounds]
 split at hv
 ·rename_i e; subst e; cases hv
  exact⟨trivial,by simp[Array.getD,hs,V.val,W.val,C.val,D.val,vi,Array.getElem_setIfInBounds]⟩
 split at hv
 ·rename_i e; subst e; cases hv
  refine⟨fun c hc=>?_,by simp[Array.getD,hs,V.val,W.val,C.val,D.val,Array.getElem_setIfInBounds]⟩
  simp only[List.mem_cons,List.not_mem_nil,or_false]at hc
  rcases hc with rfl|rfl<;>trivial
 ·cases hv
end Go.Sh
end

section
open Go.RowKit
namespace Go.Sh
open Go Go.Proofs Go.RowKit Go.Sx
section
variable {ρ:Env} {B:Bd} {rate:Int} {samples:List Nat} {noise tail:Int} {zs:List (List Int)}
set_option maxHeartbeats 2000000 in
theorem jwc {w0:World} {n l:Nat} (h0:Old B w0) (hz:zs.length≤17592186044416) (hblk:∀s h o k,find (hpT rate samples noise tail zs s) h=some o→o.blk (ρ h)=some k→k<w0.heap.size)
  {pre:List (Fin zs.length)} {x:Fin zs.length} {a:Act} {W:World} {y:Value} (hy:y=(C.p 2 0 1 0).val ρ) (hI:OI ρ B rate samples noise tail zs w0 pre W) (hA:OA y zs w0 x a W) :
  jnF.wpIn (Fence.wide.inRound l) n Tryz.prog (fun e a' W'=>e=.normal∧KeepsFrom w0.heap.size W W'∧OI ρ B rate samples noise tail zs w0 (pre++[x]) W') a W:=by
 obtain⟨h1,h2,h3,h4,b,h5,h6,h7⟩:=hA
 generalize hlo:(zs.getD x.1 []).getD 0 0=lo at *
 generalize hhi:(zs.getD x.1 []).getD 1 0=hi at *
 have hnB:¬B b:=fun hb=>by have:=h0 b hb; omega
 have hh0:=hI.heap.addAt (b:=b) (ty:=30) (cs:=[.d (.i .i64 lo),.d (.i .i64 hi)]) h7 (fun c hc=>by
  simp only[List.mem_cons,List.not_mem_nil,or_false]at hc
  rcases hc with rfl|rfl<;>trivial) hnB (fun h o k hf hk e=>by have:=hblk _ h o k hf hk; omega)
 have hrng:∀h o,find ((7,O.box 30 [.d (.i .i64 lo),.d (.i .i64 hi)])::hpT rate samples noise tail zs (jb8 zs tail pre)) h=some o→rngO o=true:=fun h o hf=>by
  simp only[find]at hf
  split at hf
  ·cases hf; rfl
  ·exact jtX hf
 have hh1:=hh0.moreB (B2:=fun k=>B k∨∃o:Obj,W.heap[k]?=some o∧o.isCells=false) (fun k h=>.inl h) (fun h o k hf hk=>by
  rintro (hb|⟨o',ho',hc⟩)
  ·exact(O.blk_lt (hh0.ok h o hf).2.2 hk).2 hb
  ·obtain⟨c,t,f,hcells⟩:=jpI (hh0.ok h o hf).2.2 (hrng h o hf) hk
   rw[hcells]at ho'
   cases ho'
   cases hc)
 have hag0:=jaB ρ 7 (.pointer (some ⟨b,0,none⟩))
 have jfc:Rel (upd ρ 7 (.pointer (some ⟨b,0,none⟩))) (fun k=>B k∨∃o:Obj,W.heap[k]?=some o∧o.isCells=false) 109 8 (stB rate samples noise tail zs (jb8 zs tail pre) (x.1:Int) lo hi) a W:=by
  refine⟨fun t v hv=>?_,h1,h2,hh1,?_,Nat.le_refl _⟩
  ·simp only[stB,jbg]at hv
   split at hv
   ·rename_i e; subst e; cases hv
    exact⟨show 2<8 by decide,by rw[h3,hy]; rfl⟩
   split at hv
   ·rename_i e; subst e; cases hv; exact⟨trivial,h4⟩
   split at hv
   ·rename_i e; subst e; cases hv
    exact⟨show 7<8 by decide,by rw[h6]; rfl⟩
   ·cases hv
  ·rintro k (hk|⟨o,ho,_⟩)
   ·exact hI.old k hk
   ·exact(Array.getElem?_eq_some_iff.1 ho).1
 have hlen:=juX tail hz pre
 have hx:=x.2
 refine wpIn_mono (jcJ mixed (sp_117_ok jak) jnF 0 [] _ _ _ a W (by kernel_rfl) (jxI rate samples noise tail zs (jb8 zs tail pre) (x.1:Int) lo hi (by omega) (by omega) (by omega)) jfc (jan.refl _ _) (Bel.refl _ _)) ?_
 rintro e a' W' ⟨ex,ρ',st',rfl,hk,hr',hag',hbl'⟩
 cases ex with
 |normal =>
  obtain⟨ρ2,hr2,hag2⟩:=Le.rel hk hr'
  have hbB:Bel B W W':=⟨hbl'.os,hbl'.tape,hbl'.output,hbl'.size,fun k hk=>hbl'.block k (.inl hk)⟩
  have hag:∀h,h<7→ρ2 h=ρ h:=fun h hh=>by
   have e1:=hag2 h (by omega)
   have e2:=hag' h (by omega)
   rw[e1,e2]
   exact hag0 h hh
  refine⟨rfl,⟨hbl'.size,fun k o _ hk ho=>(hbl'.block k (.inr ⟨o,hk,ho⟩)).trans hk⟩,?_,hI.bel.trans hbB,fun k hk=>Nat.lt_of_lt_of_le (hI.old k hk) hbl'.size⟩
  rw[jlT,hlo,hhi]
  have hl:=hr2.heap.lessB (B:=B) (fun k h=>.inl h) (hI.heap.glob.bel hbB) (fun h o hf he=>by
   simp only[stB,find]at hf
   split at hf
   ·cases hf; cases he
   ·rcases jiA hf with ⟨rfl,rfl⟩|⟨rfl,rfl⟩|⟨rfl,rfl⟩|⟨rfl,rfl⟩|⟨rfl,rfl⟩|⟨rfl,rfl⟩|⟨rfl,rfl⟩
    ·cases he
    ·cases he
    ·have:=jzB hbB (hI.heap.ok 0 _ rfl).2.2
     unfold O.ok at this ⊢
     rw[hag 0 (by decide)]
     exact this
    all_goals cases he)
  refine(jAg (n':=7) hl (fun k o hf=>⟨?_,(jrY hf).1,(jrY hf).2⟩)).agree (fun h hh=>(hag h hh).symm)
  show find (_::_) k=some o
  simp only[find]
  rw[if_neg (by have:=(jrY hf).1; omega)]
  exact hf
 |exit j=>exact hk.elim
 |ret=>exact hk.elim
set_option maxHeartbeats 2000000 in
theorem juZ {n:Nat} {Q:Exit→Act→World→Prop} {a:Act} {w:World} (h1:1≤n) (hz:zs.length≤17592186044416) (hr:Rel ρ B 109 1 (stT rate samples noise tail zs (jhc zs tail)) a w)
  (hdone:∀(D:Nat) (W:World),w.heap.size≤D→OI ρ B rate samples noise tail zs w (Bk.bk zs.length zs.length) W→W.heap[D]?=some (.deferred (some []))→Q .normal { a with defers:={ target:=.collected D,args:=#[] } :: a.defers } W) :
  (Code.rangeFunc (.tmp 89) #[90,91] jqT jnF).wpIn Fence.wide n Tryz.prog Q a w:=by
 obtain⟨_,_,kb,hkb,_,hkc⟩:=hr.heap.ok 6 _ rfl
 have hI0:OI ρ B rate samples noise tail zs w [] w:=⟨hr.heap,Bel.refl _ _,hr.le⟩
 have hblk:∀s h o k,find (hpT rate samples noise tail zs s) h=some o→o.blk (ρ h)=some k→k<w.heap.size:=fun s h o k hf hk=>by
  obtain⟨o',hf',hk'⟩:=jzA (jhc zs tail) hf hk
  exact(O.blk_lt (hr.heap.ok h o' hf').2.2 hk').1
 have hg:a.eval (.tmp 89)=.func (.func 141) #[] #[.pointer (some ⟨kb,0,none⟩)]:=by
  have:=(hr.tm 89 _ rfl).2
  show a.tmps.getD 89 undef=_
  rw[this]
  show Value.func (.func 141) #[] #[ρ 6]=_
  rw[hkb]
 have hy:a.tmps.getD 6 undef=(C.p 2 0 1 0).val ρ:=(hr.tm 6 _ rfl).2
 refine wpIn_rangeFunc_ownH (F:=Fence.wide) (n:=n) rfl h1 (gf:=141) (lb:=#[.pointer (some ⟨kb,0,none⟩)]) hg trivial (enters_of Tryz.func141 (by kernel_rfl) rfl)
  (Bk.back_stops (n-1) kb (ρ 4) zs hz w (hI0.rd hkb)) (fun h k r=>k (h r)) (fun W l o o' _ hl ho _ r=>jAh r hl ho) (Below.refl _ _) (fun _=>rfl)
  (OI ρ B rate samples noise tail zs w) (fun _ _ _=>False) (OI.own hr.le) (fun _ _ _ _ _ h _ _=>h.elim) hI0 (OA ((C.p 2 0 1 0).val ρ) zs w) (fun x a'=>OA.own x a') ?assign ?body ?done ?stop
 case assign =>
  intro l pre x W K hI hK
  have jfc:Rel ρ (fun k=>k<W.heap.size) 109 0 (stA ((C.p 2 0 1 0).val ρ) (x.1:Int) ((zs.getD x.1 []).getD 0 0) ((zs.getD x.1 []).getD 1 0)) { tmps:=((#[90,91]:Array Tmp).zip (Bk.encs zs x)).foldl (fun t (p,v)=>t.setIfInBounds p v) a.tmps,defers:=[] } W:=by
   refine⟨fun t v hv=>tms hr.size hy hv,?_,rfl,⟨fun h o hf=>(by cases hf),fun h o h' o' k hf=>(by cases hf),jij hI.heap.glob hI.old⟩,fun k hk=>hk,Nat.le_refl _⟩
   have:((#[90,91]:Array Tmp).zip (Bk.encs zs x)).foldl (fun t (p,v)=>t.setIfInBounds p v) a.tmps=(a.tmps.setIfInBounds 90 (.int .i64 (x.1:Int))).setIfInBounds 91 (.agg #[.int .i64 ((zs.getD x.1 []).getD 0 0),.int .i64 ((zs.getD x.1 []).getD 1 0)]):=by simp[Bk.encs]
   show Array.size (Array.foldl _ _ _)=_
   rw[this]
   simp[hr.size]
  refine wpIn_mono (jcJ mixed jak jqT 0 [] _ _ ρ _ W (by kernel_rfl) (jxH _ _ _ _) jfc (jan.refl _ _) (Bel.refl _ _)) ?_
  rintro e a' W' ⟨ex,ρ',st',rfl,hk,hr',hag',hbl'⟩
  cases ex with
  |normal =>
   obtain⟨ρ2,hr2,hag2⟩:=Le.rel hk hr'
   obtain⟨_,_,b,hb,hnb,hcb⟩:=hr2.heap.ok 0 _ rfl
   have hI':OI ρ B rate samples noise tail zs w pre W':=OI.own hr.le pre W W' none hI ⟨hbl'.os,hbl'.tape,hbl'.output,hbl'.size,fun k hk _=>hbl'.block k hk⟩ (fun r e=>by cases e)
   refine hK a' W' ⟨hbl'.size,fun k o _ hk ho=>(hbl'.block k (Array.getElem?_eq_some_iff.1 hk).1).trans hk⟩ (fun _=>hI'.rd hkb) hI' ⟨hr2.size,hr2.defers,(hr2.tm 6 _ rfl).2,(hr2.tm 12 _ rfl).2,b,Nat.le_trans hI.bel.size (Nat.le_of_not_lt hnb),?_,?_⟩
   ·have:=(hr2.tm 13 _ rfl).2
    rw[this]
    show Value.pointer (some ⟨(base (ρ2 0)).block,(base (ρ2 0)).off+0,none⟩)=_
    rw[hb]
    rfl
   ·exact hcb
  |exit j=>exact hk.elim
  |ret=>exact hk.elim
 case body =>
  intro l pre x a' W hl _ hI hA hlt
  refine wpIn_mono (jwc hr.le hz hblk rfl hI hA) ?_
  rintro e a2 W' ⟨rfl,hkf,hI'⟩
  exact⟨hkf,fun _=>hI'.rd hkb,hI'⟩
 case done =>
  intro D xs W hD hS hI hd
  subst hS
  exact hdone D W hD hI hd
 case stop =>
  intro D c pre W _ _ h
  exact h.elim
end
end Go.Sh
end

section
open Go.RowKit
namespace Go.Sh
open Go Go.Proofs Go.RowKit Go.Sx
open Go.IntKind (wrap)
def idOf:Code→Nat
 | .region i _ _=>i
 |_=>0
noncomputable def oT (i:Nat):Oper:=((Bk.opsOf (jfj [1,0] jfK))[i]?).getD default
def rd1 (t:Nat) (v:V):Operand→Option V
 | .tmp u=>match Nat.beq u t with
  |true=>some v
  |false=>none
 |_=>none
theorem jpN {ρ:Env} {nx t:Nat} {v:V} {a:Act} (h1:v.lt nx) (h2:a.tmps.getD t undef=v.val ρ):jaZ ρ nx (rd1 t v) a:=by
 intro x u hx
 unfold rd1 at hx
 split at hx
 ·split at hx
  ·rename_i e
   cases hx
   have:=Nat.eq_of_beq_eq_true e
   subst this
   exact⟨h1,h2⟩
  ·cases hx
 ·cases hx
theorem jml {n:Nat} {ops:Array Oper} {Q:Exit→Act→World→Prop} {o:Oper} {rest:List Oper} {a:Act} {w:World} {v:Value} (hg:o.guard=none) (h:(execOp a.eval o).run Tryz.prog w=.ok (.value v) w)
  (hK:wpListIn Fence.wide n Tryz.prog ops Q rest (a.put o.dst v) w):wpListIn Fence.wide n Tryz.prog ops Q (o::rest) a w:=by
 refine wpListIn_plain hg fun K hK'=>⟨fun _ _=>trivial,?_⟩
 have hs:o.semAt Fence.wide.round a.eval=execOp a.eval o:=Oper.semAt_none a.eval o
 rw[hs,h]
 exact hK' _ _ hK
abbrev spO:jab:=sp_114 (sp_115 (sp_116 (sp_117 sp0)))
theorem jnG:jac Tryz.prog spO:=sp_114_ok (sp_115_ok (sp_116_ok (sp_117_ok jak)))
theorem jAi {zs:List (List Int)} (h:jbI zs=some ()):zs.length≤17592186044416:=by
 unfold jbI at h
 split at h
 ·rename_i h1
  obtain⟨h1,_,h2,h3⟩:=h1
  by_cases hc:zs.length+1≤9223372036854775807
  ·rw[show wrap IntKind.i64 ((zs.length:Int)+1)=(zs.length:Int)+1 from IntWalk.i64_in _ (by omega)]at h2
   omega
  ·exfalso
   split at h
   ·rename_i h4
    have hw:wrap IntKind.i64 ((zs.length:Int)+1)≤9223372036854775807:=h3
    obtain⟨_,h5⟩:=h4
    rw[List.length_replicate]at h5
    omega
   ·cases h
 ·cases h
set_option maxHeartbeats 4000000 in
theorem ju0 (rate:Int) (samples:List Nat) (noise tail e:Int) (zs ss:List (List Int)) (hG:jao rate samples noise tail=some (e,zs,ss)) (ρ0:Env) (w:World)
  (hlt:∀x∈(jaO jdH [.d (.i .i64 rate),.r (.floats .f32 samples),.d (.i .i64 noise),.d (.i .i64 tail)]).vs,V.lt 1 x)
  (hh:HRel ρ0 (fun k=>k<w.heap.size) (jaO jdH [.d (.i .i64 rate),.r (.floats .f32 samples),.d (.i .i64 noise),.d (.i .i64 tail)]).hp 1 w) :
  Calls Tryz.prog 67 ((jaO jdH [.d (.i .i64 rate),.r (.floats .f32 samples),.d (.i .i64 noise),.d (.i .i64 tail)]).vs.map (V.val ρ0)).toArray w fun x w'=>∃ρ' v hp' nx',x=.returned (V.val ρ' v)∧v.lt nx'∧jan 1 ρ0 ρ'∧HRel ρ' (fun k=>k<w.heap.size) hp' nx' w'∧Bel (fun k=>k<w.heap.size) w w' ∧
   ((e≠0∧jjR 1 [.c (.d (.v (Value.pointer none))),.c (.d (.i .i64 e))] v hp')∨(e=0∧v=.t [.c (.p 3 0 1 0),.c (.d (.i .i64 0))]∧hp'=hpT rate samples noise tail zs ss)):=by
 unfold jao at hG
 obtain⟨r0,hr0,hG⟩:=Option.bind_eq_some_iff.1 hG
 have hv:val (y26 rate samples noise tail)=r0:=by rw[hr0]; rfl
 have ha:ok (y26 rate samples noise tail):=by rw[hr0]; rfl
 have hn:((val (y26 rate samples noise tail)).2 != (0:Int))=false→e=0∧ss=jb8 zs tail (Bk.bk zs.length zs.length)∧jbI zs=some ()∧Option.bind (jae (jb3 samples noise) big (((0:Int),[]))) (fun y0=>Option.bind (jbI y0) (fun _=>some y0))=some zs:=by
  intro hb
  rw[hv]at hb
  rw[if_neg (by rw[hb]; decide)]at hG
  obtain⟨y0,hy0,hG⟩:=Option.bind_eq_some_iff.1 hG
  obtain⟨_,hr,hG⟩:=Option.bind_eq_some_iff.1 hG
  cases hG
  refine⟨rfl,rfl,hr,?_⟩
  rw[hy0]
  simp[hr]
 have he:((val (y26 rate samples noise tail)).2 != (0:Int))=true→(val (y26 rate samples noise tail)).2=e:=by
  intro hb
  rw[hv]at hb ⊢
  rw[if_pos hb]at hG
  cases hG
  rfl
 refine callsIn_wide.1 (callsIn_of_wp_marks (n:=3) (c:=jai Tryz.f67) Tryz.func67 (by kernel_rfl) trivial (wpIn_wide.2 ?_) rfl)
 have jfc:=jjH (n0:=1) (N:=109) (Nat.le_of_ble_eq_true (by kernel_rfl)) hlt (Nat.le_refl _) ρ0 w hh (fun k hk=>hk)
 refine joB jnG (jc6 mixed jnG) (cur:=0) (gs:=[]) 6 (jai Tryz.f67) _ ρ0 _ w (by kernel_rfl) (jzy rate samples noise tail zs e ha he (fun hb=>(hn hb).2.2.2)) jfc (jan.refl _ _) (Bel.refl _ _) ?_ ?_
 ·rintro ρ1 st1 a1 w1 ⟨⟨hb⟩,hk⟩ hr1 hag1 hbl1
  have hT:jjP 6 (jai Tryz.f67)=.seq (.seq jrV (.block 2 (.rangeFunc (.tmp 89) #[90,91] jqT jnF))) (.seq (jfj [1,0] jfK) (jfj [1,1] jfK)):=by kernel_rfl
  rw[hT]
  refine(wpIn_wide (n:=3)).1 (wpIn_seq (wpIn_seq (wpIn_mono (wpIn_wide.2 (jbA jnG (jc6 mixed jnG) jrV 0 [] st1 _ ρ1 a1 w1 hk hr1 (jan.refl _ _) (Bel.refl _ _))) ?_)))
  rintro x a2 w2 ⟨ex,ρ2,st2,rfl,hle,hr2,hag2,hbl2⟩
  cases ex with
  |normal =>
   obtain⟨ρ3,hr3,hag3⟩:=Le.rel hle hr2
   obtain⟨he0,hss,hr0',_⟩:=hn hb
   refine wpIn_block (juZ (by decide) (jAi hr0') hr3 ?_)
   intro D W hD hI hd
   have hR:jfj [1,0] jfK=.region (idOf (jfj [1,0] jfK)) #[oT 0,oT 1,oT 2] false:=by kernel_rfl
   have hRet:jfj [1,1] jfK=.ret:=by kernel_rfl
   rw[hRet,hR]
   have t6:=(hr3.tm 6 _ rfl)
   have s2:=hr3.size
   generalize hat:({ a2 with defers:={ target:=.collected D,args:=#[] } :: a2.defers }:Act)=at2
   have hat6:at2.tmps.getD 6 undef=V.val ρ3 (.w (.c (.p 2 0 1 0))):=by rw[←hat]; exact t6.2
   have hats:at2.tmps.size=109:=by rw[←hat]; exact s2
   have hatd:at2.defers=[{ target:=.collected D,args:=#[] }]:=by rw[←hat,hr3.defers]
   have g1:=jc2 (P:=Tryz.prog) (o:=oT 0) hI.heap (jpN (show V.lt 7 (.w (.c (.p 2 0 1 0)))from (by decide:2<7)) hat6) (show jbY Tryz.prog (oT 0).op _ _=some (True,.w (.c (.p 3 0 1 0)))from by kernel_rfl) trivial
   have l1:∀v x,x≠108→(at2.put (some 108) v).tmps.getD x undef=at2.tmps.getD x undef:=fun v x hx=>by
    rw[jcU (fun y hy=>by cases hy; rw[hats]; decide),if_neg (fun e=>hx (Option.some.inj e).symm)]
   have p108:∀v,(at2.put (some 108) v).tmps.getD 108 undef=v:=fun v=>by
    rw[jcU (fun y hy=>by cases hy; rw[hats]; decide),if_pos rfl]
   refine wpIn_seq (wpIn_region_list (jml (o:=oT 0) (rest:=[oT 1,oT 2]) (by kernel_rfl) g1.1 ?_))
   rw[show(oT 0).dst=some 108 from by kernel_rfl]
   have g2:=jc2 (P:=Tryz.prog) (o:=oT 1) hI.heap (jpN g1.2 (p108 _)) (show jbY Tryz.prog (oT 1).op _ _=some (True,.w (.c (.p 3 0 1 0)))from by kernel_rfl) trivial
   refine jml (o:=oT 1) (by kernel_rfl) g2.1 ?_
   rw[show(oT 1).dst=some 2 from by kernel_rfl]
   generalize hb1:((at2.put (some 108) (V.val ρ3 (.w (.c (.p 3 0 1 0))))).put (some 2) (V.val ρ3 (.w (.c (.p 3 0 1 0)))))=b1
   have b1s:b1.tmps.size=109:=by rw[←hb1,jcG,jcG,hats]
   have b12:b1.tmps.getD 2 undef=V.val ρ3 (.w (.c (.p 3 0 1 0))):=by
    rw[←hb1,jcU (fun y hy=>by cases hy; rw[jcG,hats]; decide),if_pos rfl]
   have b1d:b1.defers=[{ target:=.collected D,args:=#[] }]:=by rw[←hb1,jch,jch,hatd]
   have g3:=jc2 (P:=Tryz.prog) (o:=oT 2) (a:=b1) (rd:=fun x=>match x with | .const v=>some (.w (ofValue v))|_=>none) hI.heap (fun x u hx=>by
    cases x with
    |const v =>
     cases hx
     exact⟨jhV _ v,(jgX _ v).symm⟩
    |_=>cases hx) (show jbY Tryz.prog (oT 2).op _ _=some (True,.w (.c (.d (.i .i64 0))))from by kernel_rfl) trivial
   refine jml (o:=oT 2) (by kernel_rfl) g3.1 (wpListIn_nil (wpIn_ret ?_))
   rw[show(oT 2).dst=some 3 from by kernel_rfl]
   show LeavesInM _ _ _ _ _ _ _ _ _
   rw[jch,b1d]
   have hI2:=OwnFrom.putObj (OI.own hr3.le) (.deferred none) hI hD hd rfl
   refine⟨by simp,.inl ⟨D,_,rfl,run_takeDeferred hd,_,results_tmp2 (t:=2) (u:=3) (by kernel_rfl) _ _ _,ρ3,.t [.c (.p 3 0 1 0),.c (.d (.i .i64 0))],_,7,?_,?_,?_,hI2.heap,(hbl1.trans hbl2).trans hI2.bel,.inr ⟨he0,rfl,by rw[hss]⟩⟩⟩
   ·rw[jcU (fun y hy=>by cases hy; rw[b1s]; decide),jcU (fun y hy=>by cases hy; rw[b1s]; decide),if_pos rfl,if_neg (by decide),b12]
    rfl
   ·intro x hx
    simp only[List.mem_cons,List.not_mem_nil,or_false]at hx
    rcases hx with rfl|rfl
    ·exact(by decide:3<7)
    ·trivial
   ·exact fun h hh=>((hag3 h hh).trans (hag2 h hh)).trans (hag1 h hh)
  |exit j=>exact hle.elim
  |ret=>exact hle.elim
 ·intro ex ρ1 st1 a1 w1 hne hk hr1 hag1 hbl1
  cases ex with
  |normal=>exact absurd rfl hne
  |exit j=>exact hk.elim
  |ret =>
   show LeavesInM _ _ _ _ _ _ _ _ _
   rw[hr1.defers]
   obtain⟨⟨hb⟩,hk⟩:=hk
   simp only[jeo]at hk
   split at hk
   ·rename_i l hl
    have hra:=jfH hr1 _ l _ hl hk
    refine⟨(jcy (l.map (·.2))).val ρ1,?_,ρ1,jcy (l.map (·.2)),st1.hp,st1.nx,rfl,jfQ (fun y hy=>?_),hag1,hr1.heap,hbl1,.inl ⟨?_,hra.2.2⟩⟩
    ·rw[jcI]
     simp only[jh7,Array.mapM_eq_mapM_toList,Sem.run_bind,Sem.run_map,hra.1,Result.andThen_ok,Sem.run_pure,List.map_map]
     rfl
    ·obtain⟨z,hz,rfl⟩:=List.mem_map.1 hy
     exact hra.2.1 z hz
    ·have h1:=he hb
     intro h0
     rw[h1,h0]at hb
     cases hb
   ·exact hk.elim
theorem jwd:jah Tryz.prog 67 true (jal jdH jmk):=by
 refine jdQ (body:=jai Tryz.f67) Tryz.func67 (by kernel_rfl) (by kernel_rfl) ?_
 intro ls t hg ho b hb ρ0 w hlt hh
 unfold jmk at hg
 split at hg
 ·rename_i rate samples noise tail
  cases hg
  obtain rfl:=jaD hb
  obtain⟨⟨e,zs,ss⟩,hr⟩:∃r,jao rate samples noise tail=some r:=by
   have hk:ok (jao rate samples noise tail):=by
    revert ho
    unfold GT.sel
    split<;>exact fun h=>h
   exact Option.isSome_iff_exists.1 hk
  refine(ju0 rate samples noise tail e zs ss hr ρ0 w hlt hh).mono ?_
  rintro x w' ⟨ρ',v,hp',nx',h1,h2,h3,h4,h5,h6⟩
  refine⟨ρ',v,hp',nx',h1,h2,h3,h4,h5,?_⟩
  have hv:val (jao rate samples noise tail)=(e,zs,ss):=by rw[hr]; rfl
  rw[hv]
  rcases h6 with ⟨h6,h7⟩|⟨rfl,rfl,rfl⟩
  ·rw[show((e,zs,ss):Int × List (List Int) × List (List Int)).1=e from rfl,show(e != 0)=true from by simpa using h6]
   exact h7
  ·refine Eq.mp (by kernel_rfl:(
    (Ob (rate=rate)∧(Ob (noise=noise)∧(Ob (tail=tail)∧(Ob (zs=zs)∧(Ob (ss=ss)∧(Ob ((0:Int)=(0:Int))∧True)))))) )=_) ?_
   exact⟨⟨rfl⟩,⟨rfl⟩,⟨rfl⟩,⟨rfl⟩,⟨rfl⟩,⟨rfl⟩,trivial⟩
 ·cases hg
theorem sp_67_ok {sp:jab} (h:jac Tryz.prog sp):jac Tryz.prog (sp_67 sp):=jag jwd h
end Go.Sh
end

section
namespace Go.Sh
open Go.Lib
def jbL:Nat→List UInt8→Nat
 |a,[]=>a
 |a,c::r=>jbL (a*10+(c.toNat-48)) r
def jet (c:UInt8):Bool:=decide (48≤c.toNat)&&decide (c.toNat≤57)
def jcZ (l:List UInt8):Bool:=l.all jet
theorem jdb {c:UInt8}:jet c=true↔48≤c.toNat∧c.toNat≤57:=by simp[jet]
theorem jhd:∀(l:List UInt8) (a:Nat) (c:UInt8),jbL a (l++[c])=jbL a l*10+(c.toNat-48)
 |[],_,_=>rfl
 |x::l,a,c=>jhd l (a*10+(x.toNat-48)) c
theorem jtY:∀(l:List UInt8) (a:Nat),jcZ l=true→jbL a l<(a+1)*10^l.length
 |[],a,_=>by
  rw[List.length_nil,Nat.pow_zero,Nat.mul_one]
  exact Nat.lt_succ_self a
 |x::l,a,h=>by
  have hx:jet x=true∧jcZ l=true:=by simpa [jcZ]using h
  have h1:=jdb.1 hx.1
  have ih:=jtY l (a*10+(x.toNat-48)) hx.2
  have h2:(a*10+(x.toNat-48)+1)*10^l.length≤(a+1)*10*10^l.length:=Nat.mul_le_mul_right _ (by omega)
  have e:(a+1)*10^(l.length+1)=(a+1)*10*10^l.length:=by rw[Nat.pow_succ',Nat.mul_assoc]
  show jbL (a*10+(x.toNat-48)) l<(a+1)*10^(l.length+1)
  rw[e]
  exact Nat.lt_of_lt_of_le ih h2
theorem jnH {d:Nat} (h:d<10):(UInt8.ofNat (48+d)).toNat=48+d:=by
 rw[UInt8.toNat_ofNat']
 exact Nat.mod_eq_of_lt (by omega)
theorem jtZ {c:UInt8} (h:jet c=true):UInt8.ofNat (48+(c.toNat-48))=c:=by
 have:=jdb.1 h
 rw[show 48+(c.toNat-48)=c.toNat by omega]
 exact UInt8.ofNat_toNat
theorem jbT {u:Nat} (h:u<10):decDigits u=[UInt8.ofNat (48+u)]:=by rw[decDigits,dif_pos h]
theorem je2 {u:Nat} (h:¬u<10):decDigits u=decDigits (u/10)++[UInt8.ofNat (48+u%10)]:=by rw[decDigits,dif_neg h]
theorem jnI (u:Nat):decDigits u≠[]:=by
 by_cases h:u<10
 ·rw[jbT h]; simp
 ·rw[je2 h]; simp
theorem jwe (u:Nat):jbL 0 (decDigits u)=u:=by
 induction u using Nat.strongRecOn with
 |_ u ih =>
  by_cases h:u<10
  ·rw[jbT h]
   show 0*10+((UInt8.ofNat (48+u)).toNat-48)=u
   rw[jnH h]; omega
  ·rw[je2 h,jhd,ih (u/10) (by omega),jnH (by omega)]; omega
theorem jk7 (u:Nat):jcZ (decDigits u)=true:=by
 induction u using Nat.strongRecOn with
 |_ u ih =>
  have one:∀d,d<10→jet (UInt8.ofNat (48+d))=true:=fun d hd=>jdb.2 (by rw[jnH hd]; omega)
  by_cases h:u<10
  ·rw[jbT h]
   show(jet (UInt8.ofNat (48+u))&&true)=true
   rw[one u h]; rfl
  ·rw[je2 h]
   have:=ih (u/10) (by omega)
   unfold jcZ at this ⊢
   rw[List.all_append,this]
   show(true&&(jet (UInt8.ofNat (48+u%10))&&true))=true
   rw[one (u%10) (by omega)]; rfl
theorem jr0 {e x:List UInt8} (he:e≠[]):(e++x).head?=e.head?:=by
 cases e with
 |nil=>exact absurd rfl he
 |cons a b=>rfl
theorem jt0 {u:Nat} (h0:u≠0):(decDigits u).head?≠some 48:=by
 induction u using Nat.strongRecOn with
 |_ u ih =>
  by_cases h:u<10
  ·rw[jbT h]
   intro hh
   have:=congrArg UInt8.toNat (Option.some.inj hh)
   rw[jnH h]at this
   have e:(48:UInt8).toNat=48:=rfl
   omega
  ·rw[je2 h,jr0 (jnI _)]
   exact ih (u/10) (by omega) (by omega)
theorem ju1:∀(n:Nat) (d:List UInt8),d.length=n→jcZ d=true→d≠[]→(d.head?=some 48→d.length=1)→decDigits (jbL 0 d)=d
 |0,d,hl,_,hn,_=>absurd (List.eq_nil_of_length_eq_zero hl) hn
 |n+1,d,hl,hd,hn,hh=>by
  obtain⟨e,c,rfl⟩:∃e c,d=e++[c]:=⟨d.dropLast,d.getLast hn,(List.dropLast_concat_getLast hn).symm⟩
  have hel:e.length=n:=by simpa using hl
  have hd2:jcZ e=true∧jet c=true:=by simpa [jcZ,List.all_append]using hd
  have hc:=jdb.1 hd2.2
  rw[jhd]
  by_cases he:e=[]
  ·subst he
   show decDigits (0*10+(c.toNat-48))=[c]
   rw[jbT (by omega),Nat.zero_mul,Nat.zero_add,jtZ hd2.2]
  ·have hne:e.head?≠some 48:=by
    intro hx
    have h1:=hh (by rw[jr0 he]; exact hx)
    have h2:e.length≠0:=fun h=>he (List.eq_nil_of_length_eq_zero h)
    rw[List.length_append,List.length_singleton]at h1
    omega
   have ih:=ju1 n e hel hd2.1 he (fun h=>absurd h hne)
   have hpos:jbL 0 e≠0:=by
    intro h0
    rw[h0,jbT (by omega)]at ih
    rw[←ih]at hne
    exact hne rfl
   rw[je2 (by omega),show(jbL 0 e*10+(c.toNat-48))/10=jbL 0 e by omega,show(jbL 0 e*10+(c.toNat-48))%10=c.toNat-48 by omega,ih,jtZ hd2.2]
theorem jr1:∀(l:List UInt8) (a:Nat),jcZ l=true→(a+1)*10^l.length≤10^18→parseUint10 a l=.ok (jbL a l)
 |[],_,_,_=>rfl
 |x::l,a,h,hb=>by
  have hx:jet x=true∧jcZ l=true:=by simpa [jcZ]using h
  have h1:=jdb.1 hx.1
  have hp:1≤10^l.length:=Nat.one_le_pow _ _ (by decide)
  have e:(a+1)*10^(l.length+1)=(a+1)*10*10^l.length:=by rw[Nat.pow_succ',Nat.mul_assoc]
  rw[List.length_cons,e]at hb
  have h2:(a+1)*10≤10^18:=Nat.le_trans (Nat.le_mul_of_pos_right _ hp) hb
  have h3:(10:Nat)^18=1000000000000000000:=by decide
  rw[h3]at h2
  unfold parseUint10
  rw[if_pos h1,if_neg (by omega),if_neg (by omega)]
  refine jr1 l _ hx.2 (Nat.le_trans (Nat.mul_le_mul_right _ ?_) hb)
  omega
def behind (l:List UInt8):List UInt8:=if l.head?=some 45 then l.tail else l
def jcK (k:Nat) (l:List UInt8):Option Int :=
 if behind l=[]∨k<(behind l).length∨((behind l).head?=some 48∧1<l.length)∨jcZ (behind l)=false then none else some (if l.head?=some 45 then -(jbL 0 (behind l):Int)else(jbL 0 (behind l):Int))
theorem jk8 (l:List UInt8):trimPrefix l [45]=behind l:=by
 cases l with
 |nil=>rfl
 |cons x r =>
  unfold trimPrefix hasPrefix behind
  by_cases h:x=45
  ·subst h; simp[List.isPrefixOf]
  ·simp[List.isPrefixOf,h,Ne.symm h]
theorem jwf {k:Nat} {l:List UInt8} {v:Int} (h:jcK k l=some v):behind l≠[]∧(behind l).length≤k∧((behind l).head?=some 48→l.length=1)∧jcZ (behind l)=true∧v=(if l.head?=some 45 then -(jbL 0 (behind l):Int)else(jbL 0 (behind l):Int)):=by
 unfold jcK at h
 split at h
 ·cases h
 ·rename_i hc
  have hc1:behind l≠[]:=fun h=>hc (.inl h)
  have hl:l≠[]:=by intro hx; subst hx; exact hc1 rfl
  have hl2:l.length≠0:=fun h=>hl (List.eq_nil_of_length_eq_zero h)
  refine⟨hc1,Nat.not_lt.1 fun h=>hc (.inr (.inl h)),fun hh=>?_,?_,(Option.some.inj h).symm⟩
  ·have:¬1<l.length:=fun h2=>hc (.inr (.inr (.inl ⟨hh,h2⟩)))
   omega
  ·cases hd:jcZ (behind l)with
   |true=>rfl
   |false=>exact absurd (.inr (.inr (.inr hd))) hc
theorem jze {k:Nat} {l:List UInt8} {v:Int} (hk:k≤17) (h:jcK k l=some v):itoa v=l∧atoiAll l=.ok v∧(trimPrefix l [45]).length≤k∧v.natAbs<10^k:=by
 obtain⟨h1,h2,h3,h4,rfl⟩:=jwf h
 have hlt:=jtY (behind l) 0 h4
 rw[Nat.zero_add,Nat.one_mul]at hlt
 have hp:=Nat.pow_le_pow_right (show 0<10 by omega) h2
 have hp2:=Nat.pow_le_pow_right (show 0<10 by omega) hk
 have h17:(10:Nat)^17=100000000000000000:=by decide
 have hpm:parseMag (behind l)=.ok (jbL 0 (behind l)):=by
  unfold parseMag
  rw[if_neg h1]
  refine jr1 _ 0 h4 ?_
  have h18:(10:Nat)^18=1000000000000000000:=by decide
  omega
 refine⟨?_,?_,by rw[jk8]; exact h2,?_⟩
 ·by_cases hs:l.head?=some 45
  ·rw[if_pos hs]
   have hb:behind l=l.tail:=by unfold behind; rw[if_pos hs]
   obtain⟨r,rfl⟩:∃r,l=45::r:=by
    cases l with
    |nil=>cases hs
    |cons x r=>exact⟨r,by rw[Option.some.inj hs]⟩
   have hb:behind (45::r)=r:=hb
   rw[hb]at h1 h2 h3 h4 hlt ⊢
   have h3':r.head?≠some 48:=fun hh=>by
    have h5:=h3 hh
    have h6:r.length≠0:=fun h=>h1 (List.eq_nil_of_length_eq_zero h)
    rw[List.length_cons]at h5
    omega
   have dd:=ju1 r.length r rfl h4 h1 (fun h=>absurd h h3')
   have hpos:jbL 0 r≠0:=by
    intro h0
    rw[h0,jbT (by omega)]at dd
    rw[←dd]at h3'
    exact h3' rfl
   unfold itoa
   rw[if_pos (by omega),show(-(jbL 0 r:Int)).natAbs=jbL 0 r by omega,dd]
  ·rw[if_neg hs]
   have hb:behind l=l:=by unfold behind; rw[if_neg hs]
   rw[hb]at h1 h3 h4 ⊢
   have dd:=ju1 l.length l rfl h4 h1 h3
   unfold itoa
   rw[if_neg (by omega),Int.toNat_natCast,dd]
 ·cases l with
  |nil=>exact absurd rfl h1
  |cons x r =>
   by_cases hs:x=45
   ·subst hs
    have hb:behind (45::r)=r:=rfl
    rw[hb]at hpm hlt hp h4 ⊢
    rw[show(if(45::r).head?=some 45 then -(jbL 0 r:Int)else(jbL 0 r:Int))=-(jbL 0 r:Int)from if_pos rfl,atoiAll_minus,hpm]
    show(if 9223372036854775808<jbL 0 r then NumEnd.range else NumEnd.ok (-(jbL 0 r:Int)))=_
    rw[if_neg (by omega)]
   ·have hh:¬(x::r).head?=some 45:=fun h=>hs (Option.some.inj h)
    have hb:behind (x::r)=x::r:=by unfold behind; rw[if_neg hh]
    rw[hb]at hpm hlt hp h4 ⊢
    have hx:jet x=true:=by
     have:jet x=true∧jcZ r=true:=by simpa [jcZ]using h4
     exact this.1
    have hx:=jdb.1 hx
    rw[if_neg hh,atoiAll_plain x r (by omega) (by omega),hpm]
    show(if 9223372036854775808≤jbL 0 (x::r)then NumEnd.range else NumEnd.ok (jbL 0 (x::r):Int))=_
    rw[if_neg (by omega)]
 ·split<;>omega
theorem jzf {k:Nat} {n:Int} (h:(trimPrefix (itoa n) [45]).length≤k):jcK k (itoa n)=some n:=by
 rw[jk8]at h
 by_cases hn:n<0
 ·have e:itoa n=45::decDigits n.natAbs:=by unfold itoa; rw[if_pos hn]
  have hb:behind (itoa n)=decDigits n.natAbs:=by rw[e]; rfl
  have hh:(itoa n).head?=some 45:=by rw[e]; rfl
  unfold jcK
  rw[hb]at h ⊢
  rw[if_neg,if_pos hh,jwe]
  ·congr 1; omega
  ·rintro (h1|h1|h1|h1)
   ·exact jnI _ h1
   ·omega
   ·exact jt0 (by omega) h1.1
   ·rw[jk7]at h1; cases h1
 ·have e:itoa n=decDigits n.toNat:=by unfold itoa; rw[if_neg hn]
  have hd:=jk7 n.toNat
  have hh:¬(itoa n).head?=some 45:=by
   rw[e]
   cases hx:decDigits n.toNat with
   |nil=>exact absurd hx (jnI _)
   |cons x r =>
    rw[hx]at hd
    have:jet x=true∧jcZ r=true:=by simpa [jcZ]using hd
    intro hh
    have h1:=jdb.1 this.1
    have h2:x=45:=Option.some.inj hh
    rw[h2]at h1
    exact absurd h1 (by decide)
  have hb:behind (itoa n)=decDigits n.toNat:=by unfold behind; rw[if_neg hh,e]
  unfold jcK
  rw[hb]at h ⊢
  rw[if_neg,if_neg hh,jwe]
  ·congr 1; omega
  ·rintro (h1|h1|h1|h1)
   ·exact jnI _ h1
   ·omega
   ·by_cases h0:n.toNat=0
    ·rw[e,h0,jbT (by omega)]at h1
     exact absurd h1.2 (by simp)
    ·exact jt0 h0 h1.1
   ·rw[jk7]at h1; cases h1
def jbq (c:UInt8):List UInt8→List UInt8→List (List UInt8)
 |p,[]=>[p]
 |p,x::r=>if x=c then p::jbq c [] r else jbq c (p++[x]) r
theorem jr2 (c:UInt8):∀l:List UInt8,∃h t,jbq c [] l=h::t∧∀p,jbq c p l=(p++h)::t
 |[]=>⟨[],[],rfl,fun p=>by simp[jbq]⟩
 |x::r=>by
  obtain⟨h,t,e,f⟩:=jr2 c r
  by_cases hx:x=c
  ·exact⟨[],jbq c [] r,by simp[jbq,hx],fun p=>by simp[jbq,hx]⟩
  ·refine⟨x::h,t,?_,fun p=>?_⟩
   ·unfold jbq; rw[if_neg hx,f]; rfl
   ·unfold jbq; rw[if_neg hx,f]; simp
theorem jwg (c x:UInt8) (r:List UInt8):index (x::r) [c]=if x=c then 0 else if index r [c]=-1 then -1 else index r [c]+1:=by
 conv=>lhs; unfold index
 by_cases h:x=c
 ·rw[if_pos h,if_pos (by simp[List.isPrefixOf,h])]
 ·rw[if_neg h,if_neg (by simp[List.isPrefixOf,Ne.symm h])]
  by_cases h2:index r [c]=-1
  ·rw[if_pos h2,if_pos (by simp[h2])]
  ·rw[if_neg h2,if_neg (by simp[h2])]
theorem jpO (c:UInt8):∀l:List UInt8,splitK [c] 0 (count l [c]) l=jbq c [] l
 |[]=>by
  have:count [] [c]=0:=count_miss rfl
  rw[this]; rfl
 |x::r=>by
  have ih:=jpO c r
  have hi:=jwg c x r
  by_cases hx:x=c
  ·rw[if_pos hx]at hi
   have hc:=count_hit (s:=x::r) (sub:=[c]) (i:=0) (by simp) hi
   rw[hc,Nat.add_comm 1]
   unfold splitK jbq
   rw[hi,if_neg (by decide),if_pos hx]
   show[]::splitK [c] 0 (count r [c]) r=_
   rw[ih]
  ·rw[if_neg hx]at hi
   obtain⟨h,t,e,f⟩:=jr2 c r
   have e2:jbq c [] (x::r)=(x::h)::t:=by unfold jbq; rw[if_neg hx,f]; rfl
   rw[e2]
   rw[e]at ih
   by_cases h2:index r [c]=-1
   ·rw[if_pos h2]at hi
    rw[count_miss hi]
    rw[count_miss h2]at ih
    have ih:[r]=h::t:=ih
    injection ih with q1 q2
    rw[←q1,←q2]
    rfl
   ·rw[if_neg h2]at hi
    obtain⟨i,hi0⟩:∃i:Nat,index r [c]=i:=⟨(index r [c]).toNat,by have:=index_ge r [c]; omega⟩
    rw[hi0]at hi h2
    have c1:=count_hit (s:=x::r) (sub:=[c]) (i:=i+1) (by simp) (by rw[hi]; rfl)
    have c2:=count_hit (s:=r) (sub:=[c]) (i:=i) (by simp) hi0
    have c3:count (x::r) [c]=count r [c]:=by rw[c1,c2]; rfl
    rw[c3]
    rw[c2,Nat.add_comm 1]at ih ⊢
    unfold splitK at ih ⊢
    rw[hi0,if_neg (by simp)]at ih
    rw[hi,if_neg (by simp; omega)]
    have q0:((i:Int)+1).toNat=i+1:=by omega
    rw[q0]
    simp only[Int.toNat_natCast,Nat.add_zero]at ih
    injection ih with q1 q2
    rw[←q1,←q2]
    simp[List.take_succ_cons]
end Go.Sh
end

section
namespace Go.Sx
theorem jap {x:Int} (h:-9223372036854775808≤x∧x≤9223372036854775807):IntKind.i64.wrap x=x:=IntWalk.i64_in _ (by omega)
theorem jr3 {X Y:Type} {body:X→Option (X ⊕ Y)} (f:Nat→X) {y:Y}:∀(k:Nat) (s:Nat) (N:Nat),(∀i,s≤i→i<s+k→body (f i)=some (.inl (f (i+1))))→body (f (s+k))=some (.inr y)→k<N→jae body N (f s)=some y
 |0,s,0,_,_,h=>absurd h (by omega)
 |0,s,N+1,_,hy,_=>by
  unfold jae
  rw[Nat.add_zero]at hy
  rw[hy]
 |k+1,s,0,_,_,h=>absurd h (by omega)
 |k+1,s,N+1,h,hy,hN=>by
  unfold jae
  rw[h s (Nat.le_refl _) (by omega)]
  exact jr3 f k (s+1) N (fun i h1 h2=>h i (by omega) (by omega)) (by rw[show s+1+k=s+(k+1) by omega]; exact hy) (by omega)
theorem jbp {X Y:Type} {body:X→Option (X ⊕ Y)} (f:Nat→X) {y:Y} {k:Nat} (h:∀i,i<k→body (f i)=some (.inl (f (i+1)))) (hy:body (f k)=some (.inr y)) (hk:k<18446744073709551616):jae body big (f 0)=some y :=
 jr3 f k 0 big (fun i _ h2=>h i (by omega)) (by rw[Nat.zero_add]; exact hy) hk
theorem jdm {α Y:Type} (l:List α) (d:α) (P:α→Bool) {body:Int→Option (Int ⊕ Y)} (hit:Nat→Y) (miss:Y) (hlen:l.length<9223372036854775807)
  (h1:∀i,i<l.length→P (l.getD i d)=true→body (i:Int)=some (.inr (hit i)))
  (h2:∀i,i<l.length→P (l.getD i d)=false→body (i:Int)=some (.inl ((i:Int)+1))) (h3:body (l.length:Int)=some (.inr miss)) :
  jae body big 0=some (match l.findIdx? P with|some i=>hit i|none=>miss):=by
 cases hf:l.findIdx? P with
 |none =>
  rw[List.findIdx?_eq_none_iff]at hf
  refine jbp (fun i=>(i:Int)) (k:=l.length) (fun i hi=>?_) h3 (by omega)
  have:=h2 i hi (by simpa [List.getD,hi]using hf l[i] (List.getElem_mem _))
  rw[this]
  rfl
 |some k =>
  rw[List.findIdx?_eq_some_iff_getElem]at hf
  obtain⟨hk,hp,hbef⟩:=hf
  refine jbp (fun i=>(i:Int)) (k:=k) (fun i hi=>?_) (h1 k hk (by simpa [List.getD,hk]using hp)) (by omega)
  have hil:i<l.length:=by omega
  have:=h2 i hil (by simpa [List.getD,hil]using hbef i hi)
  rw[this]
  rfl
def inI (n:Int):Prop:=-9223372036854775808≤n∧n≤9223372036854775807
def inJ (n:Int):Prop:=-9223372036854775807≤n∧n≤9223372036854775807
theorem jaa {α β:Type} (x:α) (f:α→Option β):(some x).bind f=f x:=rfl
end Go.Sx
end

section
namespace Go.Sx06
theorem jtl {n b:Int} (hb:0<b):(0≤n→0≤n.tdiv b∧n.tdiv b≤n)∧(n≤0→n≤n.tdiv b∧n.tdiv b≤0):=by
 constructor
 ·intro hn
  rw[Int.tdiv_eq_ediv_of_nonneg hn]
  exact⟨Int.ediv_nonneg hn (by omega),Int.ediv_le_self b hn⟩
 ·intro hn
  have h1:n=-(-n):=by omega
  rw[h1,Int.neg_tdiv,Int.tdiv_eq_ediv_of_nonneg (by omega:0≤-n)]
  have h2:=Int.ediv_nonneg (by omega:0≤-n) (by omega:0≤b)
  have h3:=Int.ediv_le_self b (by omega:0≤-n)
  omega
theorem jlU {n b:Int} (hb:0<b):-b<n.tmod b∧n.tmod b<b:=by
 refine⟨?_,Int.tmod_lt_of_pos n hb⟩
 have h:=Int.tmod_lt_of_pos (-n) hb
 rw[Int.neg_tmod]at h
 omega
theorem jwh {n b:Int} (hb:0<b) (h:n.tmod b<0):n.tdiv b-1=n/b:=by
 have h1:=Int.tmod_add_mul_tdiv n b
 have h2:=jlU (n:=n) hb
 have h3:n/b=(n.tdiv b-1):=by
  apply (Int.ediv_eq_iff_of_pos hb).2
  rw[Int.mul_comm]at h1
  constructor<;>rw[Int.sub_mul]<;>omega
 exact h3.symm
theorem jwi {n b:Int} (hb:0<b) (h:¬n.tmod b<0):n.tdiv b=n/b:=by
 have h1:=Int.tmod_add_mul_tdiv n b
 have h2:=jlU (n:=n) hb
 have h3:n/b=n.tdiv b:=by
  apply (Int.ediv_eq_iff_of_pos hb).2
  rw[Int.mul_comm]at h1
  constructor<;>omega
 exact h3.symm
theorem jlV {n b:Int} (hb:0<b):(0≤n→0≤n/b∧n/b≤n)∧(n≤0→n≤n/b∧n/b≤0):=by
 constructor
 ·intro hn
  exact⟨Int.ediv_nonneg hn (by omega),Int.ediv_le_self b hn⟩
 ·intro hn
  have h1:n*b≤n:=by
   have h2:=Int.mul_le_mul_of_nonneg_right (show(1:Int)≤b by omega) (show 0≤-n by omega)
   rw[Int.one_mul,Int.mul_neg,Int.mul_comm]at h2
   omega
  refine⟨Int.le_ediv_of_mul_le hb h1,?_⟩
  have:=Int.ediv_le_ediv hb hn
  simpa using this
end Go.Sx06
end

section
namespace Go.Sh
open Go Go.Proofs Go.RowKit Go.Sx
abbrev sp_93:jab→jab:=jas 93 true (juH .f64 .u64)
theorem sp_93_ok {sp:jab} (h:jac Tryz.prog sp):jac Tryz.prog (sp_93 sp) :=
 jag (jzx (fn:=Tryz.f93) (g:=Extern.MathFloatBits.float64bits) Tryz.func93 (by kernel_rfl) (by kernel_rfl) (by kernel_rfl) (by kernel_rfl) fun _=>rfl) h
end Go.Sh
end

section
namespace Go.Sh
open Go Go.Proofs Go.RowKit Go.Sx
def y179:List SV:=[.a [.d,.r (.floats .f32 [])]]
def y81 (u17:Int) (u16:List Nat):Option (Int × List Nat) :=
 if(0+List.length u16)*4≤140737488355328∧0+List.length u16≤9223372036854775807 then
  some (u17,[]++u16)
 else none
def y180:List Lf→Option GT
 |[.d (.i .i64 u17),.r (.floats .f32 u16)]=>some (.leaf (ok (y81 u17 u16)) [.s [.d (.i .i64 ((val (y81 u17 u16)).1)),.row 151 (.floats .f32 ((val (y81 u17 u16)).2))]])
 |_=>none
abbrev sp_18:jab→jab:=jas 18 true (jal y179 y180)
theorem jlq (u17:Int) (u16:List Nat) (r:Int × List Nat) (h:Option.bind (y81 u17 u16) some=some r):jaY Tryz.f18 (sp0) (fun _ _ _=>none) (jaO y179 [.d (.i .i64 u17),.r (.floats .f32 u16)]) [.s [.d (.i .i64 r.1),.row 151 (.floats .f32 r.2)]]:=by
 refine Eq.mp (by kernel_rfl:(
 (Ob ((0+List.length u16)*4≤140737488355328∧0+List.length u16≤9223372036854775807) ∧
 (Ob True ∧
 (Ob (u17=r.1) ∧
 (Ob ([]++u16=r.2) ∧
 True)))))=_) ?_
 refine jat h fun h=>?_
 refine jad ?_
 exact jam h (fun e=>by subst e; exact(by repeat' constructor))
theorem jlr:jah Tryz.prog 18 true (jal y179 y180):=by
 refine jau (sp:=sp0) (fn:=Tryz.f18) (body:=jai Tryz.f18) mixed jak Tryz.func18 (by kernel_rfl) (by kernel_rfl) fun ls t h ho b hb=>?_
 unfold y180 at h
 split at h
 ·rename_i u17 u16
  cases h
  obtain rfl:=jaD hb
  exact⟨Nat.le_of_ble_eq_true (by kernel_rfl),_,_,jlq u17 u16 _ (jaj ho)⟩
 ·cases h
theorem sp_18_ok {sp:jab} (h:jac Tryz.prog sp):jac Tryz.prog (sp_18 sp):=jag jlr h
end Go.Sh
end
