/- Part 4 of the proof of EngineChecks: the executor, the mirrors of the functions, the plain facts. -/
import Derived.Test.YtigliehhpdpaoaaGreatPC
import Derived.IntWalk
import Derived.Test.YtigliehhpdpaoaaGreatProg
import Derived.RangeFuncNested
import Derived.RangeFuncBound
import Derived.RangeFuncCalls
import Derived.RangeFuncLeaves
import Derived.Shelf.Abstract
import Derived.Shelf.RegionOpen
import Derived.WalkKit
import Derived.OwnWalkIn
import Derived.TacticsInMore
import Derived.LoopNIn
import Derived.LoopIn
set_option maxRecDepth 100000
set_option linter.unusedSectionVars false
set_option linter.unusedSimpArgs false
set_option linter.unusedVariables false
section
open Go.RowKit
namespace Go.Sx
inductive Sh where
 |d
 |r (c0:Cont)
 |x (x0:XC)
 |p (l:List Sh)
 |f (g:Nat) (l:List Sh)
inductive SV where
 |c (x:Sh)
 |a (l:List Sh)
 |b (k:FloatKind) (e:Nat)
inductive Lf where
 |d (x:D)
 |n (k:FloatKind)
 |r (c:Cont)
 |x (x:XC)
 |b (k:FloatKind) (e:Nat) (r:List Nat)
def nilC:C→Bool
 | .d (.v (.slice none 0 0))=>true
 |_=>false
def jgJ (hp:Hp) (h:Nat):Option (List C):=match find hp h with
 |some (.box _ cs)=>some cs
 |some (.ebox cs)=>some cs
 |_=>none
def isP:Sh→Bool
 | .p _=>true
 |_=>false
def jeC (f:Sh→C→Option (List Lf × List C)):List Sh→List C→Option (List Lf × List C)
 |[],[]=>some ([],[])
 |s::l,c::cs=>match f s c,jeC f l cs with
  |some (a,x),some (b,y)=>some (a++b,x++y)
  |_,_=>none
 |_,_=>none
def toC (hp:Hp):Nat→Sh→C→Option (List Lf × List C)
 |0,_,_=>none
 |n+1,s,c =>
  match s with
  | .d=>match c with
   | .d x=>some ([.d x],[])
   | .o h=>match find hp h with
    |some (.nan k)=>some ([.n k],[c])
    |_=>none
   |_=>none
  | .r c0=>match nilC c with
   |true=>match c0.n,c0.e with
    |0,_+1=>some ([.r c0],[c])
    |_,_=>none
   |false=>match c with
    | .o h=>match(find hp h).bind O.cont with
     |some x=>match x.e with
      |0=>none
      |_+1=>some ([.r x],[c])
     |none=>none
    |_=>none
  | .x x0=>match nilC c with
   |true=>match x0.n with
    |0=>some ([.x x0],[c])
    |_=>none
   |false=>match c with
    | .o h=>match(find hp h).bind O.xc with
     |some X=>match X.e with
      |0=>none
      |_+1=>some ([.x X],[c])
     |_=>none
    |_=>none
  | .p l=>match c with
   | .p h 0 _ 0=>match jgJ hp h with
    |some cs=>(jeC (toC hp n) l cs).map fun(a,x)=>(a,x++[c])
    |none=>none
   | .o h=>match jgJ hp h with
    |some cs=>(jeC (toC hp n) l cs).map fun(a,x)=>(a,x++[c])
    |none=>none
   |_=>none
  | .f g l=>match c with
   | .fn g' hs=>match Nat.beq g g',l.all isP with
    |true,true=>jeC (toC hp n) l (hs.map C.o)
    |_,_=>none
   |_=>none
def toV (hp:Hp) (s:SV) (v:V):Option (List Lf × List C) :=
 match s,v with
 | .c s,.w (.c c)=>toC hp 8 s c
 | .a l,.w (.a cs)=>jeC (toC hp 8) l cs
 | .b k e,.w (.b k' e' r)=>match jbR k k',Nat.beq e e' with
  |true,true=>some ([.b k e r],[])
  |_,_=>none
 | .b k e,.w (.a cs)=>match jd4 k cs with
  |some r=>match Nat.beq e r.length with
   |true=>some ([.b k e r],[])
   |false=>none
  |none=>none
 |_,_=>none
def jiR (hp:Hp):List SV→List V→Option (List Lf × List C)
 |[],[]=>some ([],[])
 |s::l,v::vs=>match toV hp s v,jiR hp l vs with
  |some (a,x),some (b,y)=>some (a++b,x++y)
  |_,_=>none
 |_,_=>none
structure Bt where
 cs:List C
 hp:Hp
 n:Nat
 ls:List Lf
def jiS (f:Sh→Nat→List Lf→Option Bt):List Sh→Nat→List Lf→Option Bt
 |[],n,ls=>some ⟨[],[],n,ls⟩
 |s::l,n,ls=>match f s n ls with
  |some a=>match jiS f l a.n a.ls with
   |some b=>some ⟨a.cs++b.cs,b.hp++a.hp,b.n,b.ls⟩
   |none=>none
  |none=>none
def hOf:C→Nat
 | .p h _ _ _=>h
 | .o h=>h
 |_=>0
def jeD:Nat→Sh→Nat→List Lf→Option Bt
 |0,_,_,_=>none
 |m+1,s,n,ls =>
  match s with
  | .d=>match ls with
   | .d x::r=>some ⟨[.d x],[],n,r⟩
   | .n k::r=>some ⟨[.o n],[(n,.nan k)],n+1,r⟩
   |_=>none
  | .r _=>match ls with
   | .r c::r=>some ⟨[.o n],[(n,.ext c)],n+1,r⟩
   |_=>none
  | .x _=>match ls with
   | .x X::r=>some ⟨[.o n],[(n,.xext X)],n+1,r⟩
   |_=>none
  | .p l=>match jiS (jeD m) l n ls with
   |some b=>some ⟨[.p b.n 0 1 0],(b.n,.ebox b.cs)::b.hp,b.n+1,b.ls⟩
   |none=>none
  | .f g l=>match jiS (jeD m) l n ls with
   |some b=>some ⟨[.fn g (b.cs.map hOf)],b.hp,b.n,b.ls⟩
   |none=>none
structure Bv where
 vs:List V
 hp:Hp
 n:Nat
 ls:List Lf
def jgf:List C→C
 |c::_=>c
 |[]=>.d (.v undef)
def jqr (s:SV) (n:Nat) (ls:List Lf):Option Bv :=
 match s with
 | .c s=>(jeD 8 s n ls).map fun b=>⟨[.w (.c (jgf b.cs))],b.hp,b.n,b.ls⟩
 | .a l=>(jiS (jeD 8) l n ls).map fun b=>⟨[.w (.a b.cs)],b.hp,b.n,b.ls⟩
 | .b _ _=>match ls with
  | .b k e r::q=>some ⟨[.w (.b k e r)],[],n,q⟩
  |_=>none
def jfq:List SV→Nat→List Lf→Option Bv
 |[],n,ls=>some ⟨[],[],n,ls⟩
 |s::l,n,ls=>match jqr s n ls with
  |some a=>match jfq l a.n a.ls with
   |some b=>some ⟨a.vs++b.vs,b.hp++a.hp,b.n,b.ls⟩
   |none=>none
  |none=>none
inductive RC where
 |d (x:D)
 |g (i:Nat)
 |row (ty:Nat) (c:Cont)
 |box (ty:Nat) (l:List RC)
 |rrow (c:Cont)
 |fe (c:Cont)
 |x (ty:Nat) (x:XC)
 |m (ty:Nat) (ts:List Nat) (x:XC)
inductive RR where
 |c (x:RC)
 |s (l:List RC)
 |b (k:FloatKind) (e:Nat) (r:List Nat)
inductive GT where
 |leaf (ob:Prop) (rs:List RR)
 |br (b:Bool) (x y:GT)
def GT.sel:GT→Prop × List RR
 | .leaf ob rs=>(ob,rs)
 | .br b x y=>match b with
  |true=>x.sel
  |false=>y.sel
structure Rt where
 cs:List C
 hp:Hp
 n:Nat
def rvL (f:RC→Nat→Rt):List RC→Nat→Rt
 |[],n=>⟨[],[],n⟩
 |r::l,n =>
  let a:=f r n
  let b:=rvL f l a.n
  ⟨a.cs++b.cs,b.hp++a.hp,b.n⟩
def rvC (am:List C):Nat→RC→Nat→Rt
 |0,_,n=>⟨[.d (.v undef)],[],n⟩
 |m+1,r,n =>
  match r with
  | .d x=>⟨[.d x],[],n⟩
  | .g i=>⟨[am.getD i (.d (.v undef))],[],n⟩
  | .row ty c=>⟨[.o n],[(n,.row ty c)],n+1⟩
  | .rrow c=>⟨[.o n],[(n,.rrow c)],n+1⟩
  | .fe c=>⟨[.o n],[(n,.fext c)],n+1⟩
  | .x ty X=>⟨[.o n],[(n,.xrow ty X)],n+1⟩
  | .m ty ts X=>⟨[.o n],[(n,.mrow ty ts X none)],n+1⟩
  | .box ty l =>
   let b:=rvL (rvC am m) l n
   ⟨[.p b.n 0 1 0],(b.n,.box ty b.cs)::b.hp,b.n+1⟩
structure Rw where
 ws:List W
 hp:Hp
 n:Nat
def rvR (am:List C) (r:RR) (n:Nat):Rw :=
 match r with
 | .c x=>let b:=rvC am 8 x n; ⟨[.c (jgf b.cs)],b.hp,b.n⟩
 | .s l=>let b:=rvL (rvC am 8) l n; ⟨[.a b.cs],b.hp,b.n⟩
 | .b k e r=>⟨[.b k e r],[],n⟩
def jcs (am:List C):List RR→Nat→Rw
 |[],n=>⟨[],[],n⟩
 |r::l,n =>
  let a:=rvR am r n
  let b:=jcs am l a.n
  ⟨a.ws++b.ws,b.hp++a.hp,b.n⟩
def GT.toRT (am:List C) (hp:Hp) (nx:Nat):GT→RT
 | .leaf ob rs=>let b:=jcs am rs nx; .leaf ⟨ob,ja6 b.ws,b.hp++hp,b.n⟩
 | .br b x y=>.br b (x.toRT am hp nx) (y.toRT am hp nx)
def jat (shs:List SV) (g:List Lf→Option GT):Spec:=fun vs hp nx =>
 match jiR hp shs vs with
 |some (ls,am)=>match g ls with
  |some t=>some (t.toRT am hp nx)
  |none=>none
 |none=>none
def fitL (f:RC→C→List Nat→(List Nat→Prop)→Prop):List RC→List C→List Nat→(List Nat→Prop)→Prop
 |[],[],us,k=>k us
 |r::l,c::cs,us,k=>f r c us fun us=>fitL f l cs us k
 |_,_,_,_=>False
def jqs (n0:Nat) (hp:Hp):Nat→RC→C→List Nat→(List Nat→Prop)→Prop
 |0,_,_,_,_=>False
 |m+1,r,c,us,k =>
  match r,c with
  | .d x,.d y=>mD x y∧k us
  | .g i,.o h=>match Nat.beq i h,Nat.blt i n0 with
   |true,true=>k us
   |_,_=>False
  | .row ty c,.o h=>match us.contains h with
   |true=>False
   |false=>match find hp h with
    |some (.row ty' c')=>match Nat.beq ty' ty with
     |true=>jdX c c'∧k (h::us)
     |false=>False
    |_=>False
  | .row _ c,.d (.v (.slice none 0 0))=>Ob (c.n=0)∧k us
  | .rrow c,.o h=>match us.contains h with
   |true=>False
   |false=>match find hp h with
    |some (.rrow c')=>jdX c c'∧k (h::us)
    |_=>False
  | .rrow c,.d (.v (.slice none 0 0))=>Ob (c.n=0)∧k us
  | .fe c,.o h=>match us.contains h with
   |true=>False
   |false=>match find hp h with
    |some (.fext c')=>jdX c c'∧k (h::us)
    |_=>False
  | .fe c,.d (.v (.slice none 0 0))=>Ob (c.n=0)∧k us
  | .x ty X,.o h=>match us.contains h with
   |true=>False
   |false=>match find hp h with
    |some (.xrow ty' X')=>match Nat.beq ty' ty with
     |true=>mX X X'∧k (h::us)
     |false=>False
    |_=>False
  | .x _ X,.d (.v (.slice none 0 0))=>Ob (X.n=0)∧k us
  | .m ty ts X,.o h=>match us.contains h with
   |true=>False
   |false=>match find hp h with
    |some (.mrow ty' ts' X' none)=>match Nat.beq ty' ty,decide (ts'=ts)with
     |true,true=>mX X X'∧k (h::us)
     |_,_=>False
    |_=>False
  | .m _ _ X,.d (.v (.slice none 0 0))=>Ob (X.n=0)∧k us
  | .box ty l,.p h 0 _ 0=>match find hp h with
   |some (.box ty' cs)=>match Nat.beq ty' ty with
    |true=>fitL (jqs n0 hp m) l cs us fun us=>match us.contains h with
     |true=>False
     |false=>k (h::us)
    |false=>False
   |_=>False
  |_,_=>False
def fitR (n0:Nat) (hp:Hp) (r:RR) (w:W) (us:List Nat) (k:List Nat→Prop):Prop :=
 match r,w with
 | .c x,.c c=>jqs n0 hp 8 x c us k
 | .s l,.a cs=>fitL (jqs n0 hp 8) l cs us k
 | .b q e r,.b q' e' r'=>match jbR q q',Nat.beq e e' with
  |true,true=>Ob (r=r')∧k us
  |_,_=>False
 |_,_=>False
def jk3 (n0:Nat) (hp:Hp):List RR→List W→List Nat→Prop
 |[],[],_=>True
 |r::l,w::ws,us=>fitR n0 hp r w us fun us=>jk3 n0 hp l ws us
 |_,_,_=>False
def jkd (n0:Nat) (rs:List RR) (v:V) (hp:Hp):Prop:=match v with
 | .w u=>jk3 n0 hp rs [u] []
 | .t [_]=>False
 | .t l=>jk3 n0 hp rs l []
section
variable [Globs] {P:Program} {sp:jab} {ρ:Env} {B:Kd} {nx:Nat} {hp:Hp} {w w':World}
theorem C.p_val {ρ:Env} {h i e j:Nat}:(C.p h i e j).val ρ=.pointer (some ⟨(base (ρ h)).block,(base (ρ h)).off+(i*e+j),none⟩):=rfl
structure BOK (ρ:Env) (w:World) (nx n:Nat) (ρ1 ρ2:Env) (rest:List Lf) (cs x:List C) (b:Bt):Prop where
 ls:b.ls=rest
 nn:b.n=n+x.length
 agree:jai n ρ1 ρ2
 val:b.cs.map (C.val ρ2)=cs.map (C.val ρ)
 lt:∀c∈b.cs,C.lt b.n c
 heap:∀h o,find b.hp h=some o→n≤h∧h<b.n∧o.lt b.n∧o.ok ρ2 (kd fun k=>k<w.heap.size) w h∧∀v,o.blk v=none
 own:∀i,i<x.length→ρ2 (n+i)=(x.getD i (.d (.v undef))).val ρ
 xlt:∀y∈x,C.lt nx y
 hnd:∀c∈b.cs,(∃m i e j,c=.p m i e j)→ρ2 (hOf c)=c.val ρ2∧hOf c<b.n
theorem BOK.append {n:Nat} {ρ1 ρ2 ρ3:Env} {r1 rest:List Lf} {c1 c2 x1 x2:List C} {b1 b2:Bt} (h1:BOK ρ w nx n ρ1 ρ2 r1 c1 x1 b1) (h2:BOK ρ w nx b1.n ρ2 ρ3 rest c2 x2 b2) :
  BOK ρ w nx n ρ1 ρ3 rest (c1++c2) (x1++x2) ⟨b1.cs++b2.cs,b2.hp++b1.hp,b2.n,b2.ls⟩:=by
 have hle:b1.n≤b2.n:=by rw[h2.nn]; omega
 have hn1:n≤b1.n:=by rw[h1.nn]; omega
 refine⟨h2.ls,?_,h1.agree.trans h2.agree hn1,?_,?_,?_,?_,?_,?_⟩
 ·show b2.n=_
  rw[h2.nn,h1.nn,List.length_append]; omega
 ·simp only[List.map_append,h2.val]
  congr 1
  rw[←h1.val]
  exact List.map_congr_left fun c hc=>C.val_agree h2.agree (h1.lt c hc)
 ·intro c hc
  rcases List.mem_append.1 hc with hc|hc
  ·exact C.lt_mono hle (h1.lt c hc)
  ·exact h2.lt c hc
 ·intro h o hf
  have hf:find (b2.hp++b1.hp) h=some o:=hf
  rw[jau]at hf
  cases hg:find b2.hp h with
  |some o2 =>
   rw[hg]at hf
   cases hf
   obtain⟨a1,a2,a3,a4,a5⟩:=h2.heap h o hg
   exact⟨Nat.le_trans hn1 a1,a2,a3,a4,a5⟩
  |none =>
   rw[hg]at hf
   obtain⟨a1,a2,a3,a4,a5⟩:=h1.heap h o hf
   exact⟨a1,Nat.lt_of_lt_of_le a2 hle,O.lt_mono hle a3,O.ok_agree h2.agree a2 a3 a4,a5⟩
 ·intro i hi
  by_cases hlt:i<x1.length
  ·rw[h2.agree (n+i) (by rw[h1.nn]; omega),h1.own i hlt]
   simp[List.getD,List.getElem?_append_left hlt]
  ·have e1:n+i=b1.n+(i-x1.length):=by rw[h1.nn]; omega
   rw[e1,h2.own (i-x1.length) (by simp at hi; omega)]
   simp[List.getD,List.getElem?_append_right (Nat.le_of_not_lt hlt)]
 ·intro y hy
  rcases List.mem_append.1 hy with hy|hy
  ·exact h1.xlt y hy
  ·exact h2.xlt y hy
 ·intro c hc hp
  rcases List.mem_append.1 hc with hc|hc
  ·obtain⟨a1,a2⟩:=h1.hnd c hc hp
   exact⟨by rw[h2.agree _ a2,a1]; exact(C.val_agree h2.agree (h1.lt c hc)).symm,Nat.lt_of_lt_of_le a2 hle⟩
  ·exact h2.hnd c hc hp
theorem BOK.nil {n:Nat} {ρ1:Env} {rest:List Lf}:BOK ρ w nx n ρ1 ρ1 rest [] [] ⟨[],[],n,rest⟩ :=
 ⟨rfl,rfl,jai.refl _ _,rfl,(fun _ h=>by cases h),(fun _ _ h=>by cases h),(fun _ h=>by cases h),(fun _ h=>by cases h),fun _ h=>by cases h⟩
def ToOK (ρ:Env) (w:World) (nx:Nat) (s:Sh) (c:C) (a:List Lf) (x:List C) (g:Sh→Nat→List Lf→Option Bt):Prop :=
 ∀(n:Nat) (ρ1:Env) (rest:List Lf),∃b ρ2,g s n (a++rest)=some b∧BOK ρ w nx n ρ1 ρ2 rest [c] x b
theorem jke {f:Sh→C→Option (List Lf × List C)} {g:Sh→Nat→List Lf→Option Bt} (hf:∀s c a x,f s c=some (a,x)→C.lt nx c→ToOK ρ w nx s c a x g) :
  ∀(l:List Sh) (cs:List C) (a:List Lf) (x:List C),jeC f l cs=some (a,x)→(∀c∈cs,C.lt nx c)→∀(n:Nat) (ρ1:Env) (rest:List Lf),∃b ρ2,jiS g l n (a++rest)=some b∧BOK ρ w nx n ρ1 ρ2 rest cs x b
 |[],[],a,x,h,_,n,ρ1,rest=>by
  simp only[jeC,Option.some.injEq,Prod.mk.injEq]at h
  obtain⟨rfl,rfl⟩:=h
  exact⟨_,ρ1,rfl,BOK.nil⟩
 |s::l,c::cs,a,x,h,hlt,n,ρ1,rest=>by
  simp only[jeC]at h
  split at h
  ·rename_i a1 x1 a2 x2 h1 h2
   cases h
   obtain⟨b1,ρ2,e1,k1⟩:=hf s c a1 x1 h1 (hlt c List.mem_cons_self) n ρ1 (a2++rest)
   obtain⟨b2,ρ3,e2,k2⟩:=jke hf l cs a2 x2 h2 (fun c hc=>hlt c (List.mem_cons_of_mem _ hc)) b1.n ρ2 rest
   refine⟨_,ρ3,?_,k1.append k2⟩
   rw[List.append_assoc]
   simp only[jiS,e1,k1.ls,e2]
  ·cases h
 |[],_::_,_,_,h,_,_,_,_=>by simp[jeC]at h
 |_::_,[],_,_,h,_,_,_,_=>by simp[jeC]at h
theorem joE {c:C} (h:nilC c=true):c=.d (.v (.slice none 0 0)):=by
 unfold nilC at h
 split at h
 ·rfl
 ·cases h
theorem jjk (hh:HRel ρ B hp nx w) (hB:Old B w) {h:Nat} {cs:List C} (hc:jgJ hp h=some cs) :
  h<nx∧(∀c∈cs,C.lt nx c)∧∃k o,ρ h=.pointer (some ⟨k,o,none⟩)∧k<w.heap.size∧∀j c,cs[j]?=some c→w.cell? ⟨k,o+j,none⟩=some (c.val ρ):=by
 unfold jgJ at hc
 split at hc
 ·rename_i ty cs' hf
  cases hc
  obtain⟨h1,h2,g,h3,h4,h5⟩:=hh.ok h _ hf
  refine⟨h1,h2,g,0,h3,(Array.getElem?_eq_some_iff.1 h5).1,fun j c hj=>?_⟩
  rw[Nat.zero_add,cell_of_row w g _ _ ty (0,0) h5]
  simp[hj]
 ·rename_i cs' hf
  cases hc
  obtain⟨h1,h2,g,o,h3,h4,h5⟩:=hh.ok h _ hf
  exact⟨h1,h2,g,o,h3,hB g (.inl h4),h5⟩
 ·cases hc
theorem BOK.one {n:Nat} {ρ1:Env} {rest:List Lf} {c:C} {o:O} (hc:C.lt nx c) (hl:o.lt (n+1)) (hb:∀v,o.blk v=none) (ho:o.ok (upd ρ1 n (c.val ρ)) (kd fun k=>k<w.heap.size) w n) :
  BOK ρ w nx n ρ1 (upd ρ1 n (c.val ρ)) rest [c] [c] ⟨[.o n],[(n,o)],n+1,rest⟩:=by
 refine⟨rfl,rfl,jan _ _ _,by simp[C.val],?_,?_,?_,?_,?_⟩
 ·intro c' hc'
  simp only[List.mem_singleton]at hc'
  subst hc'
  exact Nat.lt_succ_self n
 ·intro h o' hf
  simp only[find]at hf
  split at hf
  ·rename_i e
   subst e
   cases hf
   exact⟨Nat.le_refl _,Nat.lt_succ_self _,hl,ho,hb⟩
  ·cases hf
 ·intro i hi
  simp at hi
  subst hi
  simp
 ·intro y hy
  simp only[List.mem_singleton]at hy
  subst hy
  exact hc
 ·rintro c' hc' ⟨m,i,e,j,rfl⟩
  simp at hc'
theorem jvd {m:Nat}:∀(l:List Sh) (n:Nat) (ls:List Lf) (b:Bt),l.all isP=true→jiS (jeD m) l n ls=some b→∀c∈b.cs,∃q i e j,c=C.p q i e j
 |[],n,ls,b,_,h=>by simp only[jiS,Option.some.injEq]at h; subst h; exact fun _ h=>by cases h
 |s::l,n,ls,b,hp,h=>by
  simp only[List.all_cons,Bool.and_eq_true]at hp
  simp only[jiS]at h
  split at h
  ·rename_i a ha
   split at h
   ·rename_i b2 hb2
    cases h
    intro c hc
    rcases List.mem_append.1 hc with hc|hc
    ·cases m with
     |zero=>simp[jeD]at ha
     |succ m =>
      cases s with
      |p l2 =>
       simp only[jeD]at ha
       split at ha
       ·cases ha
        simp only[List.mem_singleton]at hc
        exact⟨_,_,_,_,hc⟩
       ·cases ha
      |_=>simp[isP]at hp
    ·exact jvd l _ _ b2 hp.2 hb2 c hc
   ·cases h
  ·cases h
theorem jl4 (hh:HRel ρ B hp nx w) (hB:Old B w):∀(m:Nat) (s:Sh) (c:C) (a:List Lf) (x:List C),toC hp m s c=some (a,x)→C.lt nx c→ToOK ρ w nx s c a x (jeD m)
 |0,_,_,_,_,h,_=>by simp[toC]at h
 |m+1,s,c,a,x,h,hc=>by
  intro n ρ1 rest
  have ih:=jke (f:=toC hp m) (g:=jeD m) (fun s c a x h hc=>jl4 hh hB m s c a x h hc)
  cases s with
  |d =>
   simp only[toC]at h
   split at h
   ·cases h
    refine⟨_,ρ1,rfl,rfl,rfl,jai.refl _ _,rfl,?_,(fun _ _ h=>by cases h),(fun _ h=>by cases h),(fun _ h=>by cases h),?_⟩
    ·intro c hc; simp only[List.mem_singleton]at hc; subst hc; trivial
    ·rintro c hc ⟨_,_,_,_,rfl⟩; simp at hc
   ·rename_i h0
    split at h
    ·rename_i k hf
     cases h
     have hok:=(hh.ok h0 _ hf).2.2
     exact⟨_,_,rfl,BOK.one hc trivial (fun _=>rfl) (by unfold O.ok; rw[upd_same]; exact hok)⟩
    ·cases h
   ·cases h
  |r c0 =>
   simp only[toC]at h
   split at h
   ·rename_i hn
    have hn:=joE hn
    subst hn
    split at h
    ·rename_i e hn0 he
     cases h
     refine⟨_,_,rfl,BOK.one (c:=.d (.v (.slice none 0 0))) hc trivial (fun _=>rfl) ?_⟩
     refine⟨⟨none,0,by rw[upd_same,hn0]; rfl,⟨by omega,fun _=>rfl⟩,fun hp=>by omega⟩,fun a' n' cap hv=>?_⟩
     rw[upd_same]at hv
     cases hv
    ·cases h
   ·split at h
    ·rename_i h0 _
     split at h
     ·rename_i x hx
      split at h
      ·cases h
      ·rename_i e he
       cases h
       cases hf:find hp h0 with
       |none=>simp[hf]at hx
       |some o =>
        simp only[hf,Option.bind_some]at hx
        have hrow:=ja2 (hh.ok h0 o hf).2.2 hx
        exact⟨_,_,rfl,BOK.one hc trivial (fun _=>rfl) ⟨by rw[upd_same]; exact hrow,by rw[upd_same]; exact hrow.lt (by omega)⟩⟩
     ·cases h
    ·cases h
  |x x0 =>
   simp only[toC]at h
   split at h
   ·rename_i hn
    have hn:=joE hn
    subst hn
    split at h
    ·rename_i hn0
     cases h
     refine⟨_,_,rfl,BOK.one (c:=.d (.v (.slice none 0 0))) hc trivial (fun _=>rfl) ?_⟩
     exact⟨none,0,by rw[upd_same,hn0]; rfl,⟨by omega,fun _=>rfl⟩,fun hp=>by omega⟩
    ·cases h
   ·split at h
    ·rename_i h0 _
     split at h
     ·rename_i X hf
      obtain⟨ox,hf,hxc⟩:=Option.bind_eq_some_iff.1 hf
      split at h
      ·cases h
      rename_i e he
      cases h
      obtain⟨a1,cap,hv1,hc1,hx1⟩:=jeS (hh.ok h0 _ hf).2.2 hxc
      refine⟨_,_,rfl,BOK.one (o:=.xext X) hc trivial (fun _=>rfl) ?_⟩
      refine⟨a1,cap,by rw[upd_same]; exact hv1,hc1,fun hn=>?_⟩
      obtain⟨b,off,rfl,hcell⟩:=hx1 hn
      ·obtain⟨u,hu,_⟩:=hcell 0 0 hn (by omega)
       exact⟨b,off,rfl,World.block_lt_of_cell? w _ hu,fun i j hi hj=>let ⟨u,hu,hux⟩:=hcell i j hi hj; ⟨u,hu,NC.at_mono (fun k hk=>hB k hk) hux⟩⟩
     ·cases h
    ·cases h
  |p l =>
   have key:∀(h0:Nat) (cs:List C),jgJ hp h0=some cs→c.val ρ=ρ h0→(jeC (toC hp m) l cs).map (fun(a,x)=>(a,x++[c]))=some (a,x) →
     ∃b ρ2,jeD (m+1) (.p l) n (a++rest)=some b∧BOK ρ w nx n ρ1 ρ2 rest [c] x b:=by
    intro h0 cs hbc hcv ht
    obtain⟨⟨a',x'⟩,ht',he⟩:=Option.map_eq_some_iff.1 ht
    cases he
    obtain⟨hlt0,hcl,k,o,hk,hks,hcell⟩:=jjk hh hB hbc
    obtain⟨b,ρ2,e,q⟩:=ih l cs a x' ht' hcl n ρ1 rest
    have hag:jai b.n ρ2 (upd ρ2 b.n (c.val ρ)):=jan _ _ _
    have hnb:n≤b.n:=by rw[q.nn]; omega
    refine⟨⟨[.p b.n 0 1 0],(b.n,.ebox b.cs)::b.hp,b.n+1,b.ls⟩,upd ρ2 b.n (c.val ρ),by simp only[jeD,e],q.ls,?_,q.agree.trans hag hnb,?_,?_,?_,?_,?_,?_⟩
    ·show b.n+1=_
     rw[q.nn]; simp; omega
    ·simp only[List.map_cons,List.map_nil,C.p_val,upd_same]
     rw[hcv,hk]
     simp[base]
    ·intro c' hc'
     simp only[List.mem_singleton]at hc'
     subst hc'
     exact Nat.lt_succ_self _
    ·intro h' o' hf
     simp only[find]at hf
     split at hf
     ·rename_i e2
      subst e2
      cases hf
      refine⟨hnb,Nat.lt_succ_self _,fun y hy=>C.lt_mono (Nat.le_succ _) (q.lt y hy),⟨k,o,by rw[upd_same,hcv]; exact hk,hks,fun j y hj=>?_⟩,fun _=>rfl⟩
      rw[C.val_agree hag (q.lt y (List.mem_of_getElem? hj))]
      have h1:(b.cs.map (C.val ρ2))[j]?=some (y.val ρ2):=by rw[List.getElem?_map,hj]; rfl
      rw[q.val,List.getElem?_map]at h1
      obtain⟨y',hy',he'⟩:=Option.map_eq_some_iff.1 h1
      rw[←he']
      exact hcell j y' hy'
     ·obtain⟨a1,a2,a3,a4,a5⟩:=q.heap h' o' hf
      exact⟨a1,Nat.lt_succ_of_lt a2,O.lt_mono (Nat.le_succ _) a3,O.ok_agree hag a2 a3 a4,a5⟩
    ·intro i hi
     by_cases hlt:i<x'.length
     ·rw[hag (n+i) (by rw[q.nn]; omega),q.own i hlt]
      simp[List.getD,List.getElem?_append_left hlt]
     ·have e3:i=x'.length:=by simp at hi; omega
      subst e3
      rw[←q.nn,upd_same]
      simp[List.getD]
    ·intro y hy
     rcases List.mem_append.1 hy with hy|hy
     ·exact q.xlt y hy
     ·simp only[List.mem_singleton]at hy
      subst hy
      exact hc
    ·intro c' hc' _
     simp only[List.mem_singleton]at hc'
     subst hc'
     refine⟨?_,Nat.lt_succ_self _⟩
     simp only[hOf,C.p_val,upd_same]
     rw[hcv,hk]
     simp[base]
   simp only[toC]at h
   split at h
   ·rename_i h0 e0
    split at h
    ·rename_i cs hbc
     refine key h0 cs hbc ?_ h
     obtain⟨_,_,k,o,hk,_⟩:=jjk hh hB hbc
     simp[C.val,hk,base]
    ·cases h
   ·rename_i h0
    split at h
    ·rename_i cs hbc
     exact key h0 cs hbc rfl h
    ·cases h
   ·cases h
  |f g l =>
   simp only[toC]at h
   split at h
   ·rename_i g' hs
    split at h
    ·rename_i hg hip
     have hg:=Nat.eq_of_beq_eq_true hg
     subst hg
     have hcl:∀y∈hs.map C.o,C.lt nx y:=fun y hy=>by
      obtain⟨z,hz,rfl⟩:=List.mem_map.1 hy
      exact hc z hz
     obtain⟨b,ρ2,e,q⟩:=ih l _ a x h hcl n ρ1 rest
     have hbp:=jvd l n (a++rest) b hip e
     refine⟨⟨[.fn g (b.cs.map hOf)],b.hp,b.n,b.ls⟩,ρ2,by simp only[jeD,e],q.ls,q.nn,q.agree,?_,?_,q.heap,q.own,q.xlt,?_⟩
     ·simp only[List.map_cons,List.map_nil,C.val]
      have:(b.cs.map hOf).map ρ2=hs.map ρ:=by
       have h1:=q.val
       rw[List.map_map]at h1 ⊢
       have h2:b.cs.map (ρ2 ∘ hOf)=b.cs.map (C.val ρ2):=List.map_congr_left fun y hy=>(q.hnd y hy (hbp y hy)).1
       rw[h2,h1]
       exact List.map_congr_left fun y hy=>rfl
      rw[this]
     ·intro y hy
      simp only[List.mem_singleton]at hy
      subst hy
      intro z hz
      obtain⟨y,hy,rfl⟩:=List.mem_map.1 hz
      exact(q.hnd y hy (hbp y hy)).2
     ·rintro y hy ⟨_,_,_,_,rfl⟩
      simp at hy
    ·cases h
   ·cases h
structure BVOK (ρ:Env) (w:World) (nx n:Nat) (ρ1 ρ2:Env) (rest:List Lf) (vs:List V) (x:List C) (b:Bv):Prop where
 ls:b.ls=rest
 nn:b.n=n+x.length
 agree:jai n ρ1 ρ2
 val:b.vs.map (V.val ρ2)=vs.map (V.val ρ)
 lt:∀c∈b.vs,V.lt b.n c
 heap:∀h o,find b.hp h=some o→n≤h∧h<b.n∧o.lt b.n∧o.ok ρ2 (kd fun k=>k<w.heap.size) w h∧∀v,o.blk v=none
 own:∀i,i<x.length→ρ2 (n+i)=(x.getD i (.d (.v undef))).val ρ
 xlt:∀y∈x,C.lt nx y
theorem BVOK.append {n:Nat} {ρ1 ρ2 ρ3:Env} {r1 rest:List Lf} {c1 c2:List V} {x1 x2:List C} {b1 b2:Bv} (h1:BVOK ρ w nx n ρ1 ρ2 r1 c1 x1 b1) (h2:BVOK ρ w nx b1.n ρ2 ρ3 rest c2 x2 b2) :
  BVOK ρ w nx n ρ1 ρ3 rest (c1++c2) (x1++x2) ⟨b1.vs++b2.vs,b2.hp++b1.hp,b2.n,b2.ls⟩:=by
 have hle:b1.n≤b2.n:=by rw[h2.nn]; omega
 have hn1:n≤b1.n:=by rw[h1.nn]; omega
 refine⟨h2.ls,?_,h1.agree.trans h2.agree hn1,?_,?_,?_,?_,?_⟩
 ·show b2.n=_
  rw[h2.nn,h1.nn,List.length_append]; omega
 ·simp only[List.map_append,h2.val]
  congr 1
  rw[←h1.val]
  exact List.map_congr_left fun c hc=>V.val_agree h2.agree (h1.lt c hc)
 ·intro c hc
  rcases List.mem_append.1 hc with hc|hc
  ·exact V.lt_mono hle (h1.lt c hc)
  ·exact h2.lt c hc
 ·intro h o hf
  have hf:find (b2.hp++b1.hp) h=some o:=hf
  rw[jau]at hf
  cases hg:find b2.hp h with
  |some o2 =>
   rw[hg]at hf
   cases hf
   obtain⟨a1,a2,a3,a4,a5⟩:=h2.heap h o hg
   exact⟨Nat.le_trans hn1 a1,a2,a3,a4,a5⟩
  |none =>
   rw[hg]at hf
   obtain⟨a1,a2,a3,a4,a5⟩:=h1.heap h o hf
   exact⟨a1,Nat.lt_of_lt_of_le a2 hle,O.lt_mono hle a3,O.ok_agree h2.agree a2 a3 a4,a5⟩
 ·intro i hi
  by_cases hlt:i<x1.length
  ·rw[h2.agree (n+i) (by rw[h1.nn]; omega),h1.own i hlt]
   simp[List.getD,List.getElem?_append_left hlt]
  ·have e1:n+i=b1.n+(i-x1.length):=by rw[h1.nn]; omega
   rw[e1,h2.own (i-x1.length) (by simp at hi; omega)]
   simp[List.getD,List.getElem?_append_right (Nat.le_of_not_lt hlt)]
 ·intro y hy
  rcases List.mem_append.1 hy with hy|hy
  ·exact h1.xlt y hy
  ·exact h2.xlt y hy
theorem jwG (hh:HRel ρ B hp nx w) (hB:Old B w) {s:SV} {v:V} {a:List Lf} {x:List C} (h:toV hp s v=some (a,x)) (hv:V.lt nx v) (n:Nat) (ρ1:Env) (rest:List Lf) :
  ∃b ρ2,jqr s n (a++rest)=some b∧BVOK ρ w nx n ρ1 ρ2 rest [v] x b:=by
 unfold toV at h
 split at h
 ·rename_i s c
  obtain⟨b,ρ2,e,q⟩:=jl4 hh hB 8 s c a x h hv n ρ1 rest
  have hlen:b.cs.length=1:=by have:=congrArg List.length q.val; simpa using this
  obtain⟨c',hc'⟩:∃c',b.cs=[c']:=by
   match hb:b.cs,hlen with
   |[c'],_=>exact⟨c',rfl⟩
  have hval:=q.val
  have hlt:=q.lt
  rw[hc']at hval hlt
  refine⟨⟨[.w (.c (jgf b.cs))],b.hp,b.n,b.ls⟩,ρ2,by simp only[jqr,e,Option.map_some],q.ls,q.nn,q.agree,?_,?_,q.heap,q.own,q.xlt⟩
  ·simp only[hc',jgf,List.map_cons,List.map_nil,V.val,W.val]
   simpa using hval
  ·intro y hy
   simp only[List.mem_singleton]at hy
   subst hy
   rw[hc']
   exact hlt c' List.mem_cons_self
 ·rename_i l cs
  obtain⟨b,ρ2,e,q⟩:=jke (f:=toC hp 8) (g:=jeD 8) (fun s c a x h hc=>jl4 hh hB 8 s c a x h hc) l cs a x h hv n ρ1 rest
  refine⟨⟨[.w (.a b.cs)],b.hp,b.n,b.ls⟩,ρ2,by simp only[jqr,e,Option.map_some],q.ls,q.nn,q.agree,?_,?_,q.heap,q.own,q.xlt⟩
  ·simp only[List.map_cons,List.map_nil,V.val,W.val,q.val]
  ·intro y hy
   simp only[List.mem_singleton]at hy
   subst hy
   exact q.lt
 ·rename_i k e k' e' r
  split at h
  ·rename_i hk he
   have hk:=jbD hk
   have he:=Nat.eq_of_beq_eq_true he
   subst hk
   subst he
   cases h
   refine⟨_,ρ1,rfl,rfl,rfl,jai.refl _ _,rfl,?_,(fun _ _ h=>by cases h),(fun _ h=>by cases h),fun _ h=>by cases h⟩
   intro y hy
   simp only[List.mem_singleton]at hy
   subst hy
   trivial
  ·cases h
 ·rename_i k e cs
  split at h
  ·rename_i r hr
   split at h
   ·rename_i he
    have he:=Nat.eq_of_beq_eq_true he
    subst he
    cases h
    refine⟨_,ρ1,rfl,rfl,rfl,jai.refl _ _,?_,?_,(fun _ _ h=>by cases h),(fun _ h=>by cases h),fun _ h=>by cases h⟩
    ·simp only[List.map_cons,List.map_nil,V.val,W.val,jsD,jjN hr]
    ·intro y hy
     simp only[List.mem_singleton]at hy
     subst hy
     trivial
   ·cases h
  ·cases h
 ·cases h
theorem jhc (hh:HRel ρ B hp nx w) (hB:Old B w):∀(l:List SV) (vs:List V) (a:List Lf) (x:List C),jiR hp l vs=some (a,x)→(∀v∈vs,V.lt nx v)→∀(n:Nat) (ρ1:Env) (rest:List Lf),
  ∃b ρ2,jfq l n (a++rest)=some b∧BVOK ρ w nx n ρ1 ρ2 rest vs x b
 |[],[],a,x,h,_,n,ρ1,rest=>by
  simp only[jiR,Option.some.injEq,Prod.mk.injEq]at h
  obtain⟨rfl,rfl⟩:=h
  exact⟨_,ρ1,rfl,rfl,rfl,jai.refl _ _,rfl,(fun _ h=>by cases h),(fun _ _ h=>by cases h),(fun _ h=>by cases h),fun _ h=>by cases h⟩
 |s::l,v::vs,a,x,h,hlt,n,ρ1,rest=>by
  simp only[jiR]at h
  split at h
  ·rename_i a1 x1 a2 x2 h1 h2
   cases h
   obtain⟨b1,ρ2,e1,k1⟩:=jwG hh hB h1 (hlt v List.mem_cons_self) n ρ1 (a2++rest)
   obtain⟨b2,ρ3,e2,k2⟩:=jhc hh hB l vs a2 x2 h2 (fun c hc=>hlt c (List.mem_cons_of_mem _ hc)) b1.n ρ2 rest
   refine⟨_,ρ3,?_,k1.append k2⟩
   rw[List.append_assoc]
   simp only[jfq,e1,k1.ls,e2]
  ·cases h
 |[],_::_,_,_,h,_,_,_,_=>by simp[jiR]at h
 |_::_,[],_,_,h,_,_,_,_=>by simp[jiR]at h
theorem jhd {k h:Nat} {o:O} {hp:Hp}:find ((k,o)::hp) h=if k=h then some o else find hp h:=rfl
structure CIn (ρ ρ':Env) (B:Kd) (hp hp':Hp) (n m n0:Nat) (am:List C) (w':World) (us:List Nat):Prop where
 heap:HRel ρ B hp n w'
 ap:∀k o b,find hp k=some o→o.blk (ρ k)=some b→b<m∨∃u∈us,∃ou,find hp' u=some ou∧ou.blk (ρ' u)=some b
 am:∀i,i<n0→C.lt n (am.getD i (.d (.v undef)))∧(am.getD i (.d (.v undef))).val ρ=ρ' i
structure COut (ρ ρ2 ρ':Env) (B:Kd) (hp hp':Hp) (n m:Nat) (w':World) (us us2:List Nat) (vals:List Value) (r:Rt):Prop where
 agree:jai n ρ ρ2
 heap:HRel ρ2 B (r.hp++hp) r.n w'
 le:n≤r.n
 val:r.cs.map (C.val ρ2)=vals
 lt:∀c∈r.cs,C.lt r.n c
 ap:∀k o b,find (r.hp++hp) k=some o→o.blk (ρ2 k)=some b→b<m∨∃u∈us2,∃ou,find hp' u=some ou∧ou.blk (ρ' u)=some b
 fresh:∀h o b,find r.hp h=some o→o.blk (ρ2 h)=some b→m≤b
 keys:∀h o,find r.hp h=some o→n≤h
 sub:∀u∈us,u∈us2
variable {ρ':Env} {hp':Hp} {m n0:Nat} {am:List C}
theorem CIn.next {ρ2:Env} {n:Nat} {us us2:List Nat} {vals:List Value} {r:Rt} (h:CIn ρ ρ' B hp hp' n m n0 am w' us) (k:COut ρ ρ2 ρ' B hp hp' n m w' us us2 vals r):CIn ρ2 ρ' B (r.hp++hp) hp' r.n m n0 am w' us2 :=
 ⟨k.heap,k.ap,fun i hi=>⟨C.lt_mono k.le (h.am i hi).1,by rw[C.val_agree k.agree (h.am i hi).1]; exact(h.am i hi).2⟩⟩
theorem COut.append {ρ2 ρ3:Env} {n:Nat} {us us2 us3:List Nat} {v1 v2:List Value} {r1 r2:Rt} (h:COut ρ ρ2 ρ' B hp hp' n m w' us us2 v1 r1) (k:COut ρ2 ρ3 ρ' B (r1.hp++hp) hp' r1.n m w' us2 us3 v2 r2) :
  COut ρ ρ3 ρ' B hp hp' n m w' us us3 (v1++v2) ⟨r1.cs++r2.cs,r2.hp++r1.hp,r2.n⟩:=by
 refine⟨h.agree.trans k.agree h.le,by rw[List.append_assoc]; exact k.heap,Nat.le_trans h.le k.le,?_,?_,?_,?_,?_,fun u hu=>k.sub u (h.sub u hu)⟩
 ·simp only[List.map_append,k.val]
  congr 1
  rw[←h.val]
  exact List.map_congr_left fun c hc=>C.val_agree k.agree (h.lt c hc)
 ·intro c hc
  rcases List.mem_append.1 hc with hc|hc
  ·exact C.lt_mono k.le (h.lt c hc)
  ·exact k.lt c hc
 ·intro q o b hf hb
  have hf:find (r2.hp++r1.hp++hp) q=some o:=hf
  rw[List.append_assoc]at hf
  exact k.ap q o b hf hb
 ·intro q o b hf hb
  have hf:find (r2.hp++r1.hp) q=some o:=hf
  rw[jau]at hf
  cases hg:find r2.hp q with
  |some o2=>rw[hg]at hf; cases hf; exact k.fresh q o b hg hb
  |none =>
   rw[hg]at hf
   have hf:find r1.hp q=some o:=hf
   have hq:q<r1.n:=by
    have:find (r1.hp++hp) q=some o:=by rw[jau,hf]; rfl
    exact(h.heap.ok q o this).1
   rw[k.agree q hq]at hb
   exact h.fresh q o b hf hb
 ·intro q o hf
  have hf:find (r2.hp++r1.hp) q=some o:=hf
  rw[jau]at hf
  cases hg:find r2.hp q with
  |some o2=>rw[hg]at hf; cases hf; exact Nat.le_trans h.le (k.keys q o hg)
  |none=>rw[hg]at hf; exact h.keys q o hf
theorem COut.data {n:Nat} {us:List Nat} {c:C} {v:Value} (h:CIn ρ ρ' B hp hp' n m n0 am w' us) (hc:C.lt n c) (hv:c.val ρ=v):COut ρ ρ ρ' B hp hp' n m w' us us [v] ⟨[c],[],n⟩:=by
 refine⟨jai.refl _ _,h.heap,Nat.le_refl _,by simp[hv],?_,h.ap,(fun _ _ _ h=>by cases h),(fun _ _ h=>by cases h),fun u hu=>hu⟩
 intro y hy
 simp only[List.mem_singleton]at hy
 subst hy
 exact hc
theorem COut.obj {Bc:Kd} {n q:Nat} {us:List Nat} {o oq:O} {c:C} {v:Value} (hm:∀k,k<m→Bc.kp k) (hB:∀k,B.all k→Bc.all k) (hF:∀k,Bc.fr k→B.fr k) (hM:Bc.LeM B) (hh':HRel ρ' Bc hp' nx w') (h:CIn ρ ρ' B hp hp' n m n0 am w' us)
  (hq:find hp' q=some oq) (hus:us.contains q=false) (hl:o.lt (n+1)) (ho:(∀k,o.blk (ρ' q)=some k→¬B.all k)→o.ok (upd ρ n (ρ' q)) B w' n) (hb:∀k,o.blk (ρ' q)=some k→oq.blk (ρ' q)=some k)
  (hc:C.lt (n+1) c) (hcv:c.val (upd ρ n (ρ' q))=v):COut ρ (upd ρ n (ρ' q)) ρ' B hp hp' n m w' us (q::us) [v] ⟨[c],[(n,o)],n+1⟩:=by
 have hge:∀k,o.blk (ρ' q)=some k→m≤k:=fun k hk=>by
  have:=(O.blk_lt (hh'.ok q oq hq).2.2 (hb k hk)).2
  exact Nat.le_of_not_lt fun hlt=>this (.inl (hm k hlt))
 have hnB:∀k,o.blk (ρ' q)=some k→¬B.all k:=fun k hk hBk=>(O.blk_lt (hh'.ok q oq hq).2.2 (hb k hk)).2 (hB k hBk)
 refine⟨jan _ _ _,?_,Nat.le_succ n,by simp[hcv],?_,?_,?_,?_,fun u hu=>List.mem_cons_of_mem _ hu⟩
 ·refine h.heap.add1 hl (ho hnB) fun k o' b hk hbk he=>?_
  rcases h.ap k o' b hk hbk with hlt|⟨u,hu,ou,hou,hbu⟩
  ·have:=hge b he
   omega
  ·have hne:u≠q:=fun e=>by
    subst e
    have:us.contains u=true:=by simpa using hu
    rw[this]at hus
    cases hus
   exact hh'.apart u ou q oq b hou hq hne hbu (hb b he)
 ·intro y hy
  simp only[List.mem_singleton]at hy
  subst hy
  exact hc
 ·intro k o' b hf hbk
  have hf2:find ((n,o)::hp) k=some o':=hf
  clear hf
  have hf:=hf2
  clear hf2
  rw[jhd]at hf
  split at hf
  ·rename_i e
   subst e
   cases hf
   rw[upd_same]at hbk
   exact .inr ⟨q,List.mem_cons_self,oq,hq,hb b hbk⟩
  ·have hk:=(h.heap.ok k o' hf).1
   rw[jan ρ n (ρ' q) k hk]at hbk
   rcases h.ap k o' b hf hbk with hlt|⟨u,hu,ou,hou,hbu⟩
   ·exact .inl hlt
   ·exact .inr ⟨u,List.mem_cons_of_mem _ hu,ou,hou,hbu⟩
 ·intro k o' b hf hbk
  simp only[find]at hf
  split at hf
  ·rename_i e
   subst e
   cases hf
   rw[upd_same]at hbk
   exact hge b hbk
  ·cases hf
 ·intro k o' hf
  simp only[find]at hf
  split at hf
  ·rename_i e; omega
  ·cases hf
theorem COut.nilO {n:Nat} {us:List Nat} {o:O} (hin:CIn ρ ρ' B hp hp' n m n0 am w' us) (hl:o.lt (n+1)) (ho:o.ok (upd ρ n (.slice none 0 0)) B w' n) (hb:o.blk (.slice none 0 0)=none) :
  COut ρ (upd ρ n (.slice none 0 0)) ρ' B hp hp' n m w' us us [.slice none 0 0] ⟨[.o n],[(n,o)],n+1⟩:=by
 refine⟨jan _ _ _,?_,Nat.le_succ n,by simp[C.val],?_,?_,?_,?_,fun u hu=>hu⟩
 ·exact hin.heap.add1 hl ho (fun _ _ _ _ _ he=>by rw[hb]at he; cases he)
 ·intro y hy
  simp only[List.mem_singleton]at hy
  subst hy
  exact Nat.lt_succ_self n
 ·intro k' o' b hf hbk
  have hf2:find ((n,o)::hp) k'=some o':=hf
  clear hf
  have hf:=hf2
  clear hf2
  rw[jhd]at hf
  split at hf
  ·rename_i e
   subst e
   cases hf
   rw[upd_same,hb]at hbk
   cases hbk
  ·have hk':=(hin.heap.ok k' o' hf).1
   rw[jan ρ n _ k' hk']at hbk
   exact hin.ap k' o' b hf hbk
 ·intro k' o' b hf hbk
  simp only[find]at hf
  split at hf
  ·rename_i e
   subst e
   cases hf
   rw[upd_same,hb]at hbk
   cases hbk
  ·cases hf
 ·intro k' o' hf
  simp only[find]at hf
  split at hf
  ·omega
  ·cases hf
def jxE (ρ':Env) (B:Kd) (hp':Hp) (m n0:Nat) (am:List C) (w':World) (f:RC→C→List Nat→(List Nat→Prop)→Prop) (g:RC→Nat→Rt):Prop :=
 ∀(r:RC) (c:C) (us:List Nat) (k:List Nat→Prop),f r c us k→∀(n:Nat) (hp:Hp) (ρ:Env),CIn ρ ρ' B hp hp' n m n0 am w' us →
  ∃us2 ρ2,k us2∧COut ρ ρ2 ρ' B hp hp' n m w' us us2 [c.val ρ'] (g r n)
theorem jkf {f:RC→C→List Nat→(List Nat→Prop)→Prop} {g:RC→Nat→Rt} (hf:jxE ρ' B hp' m n0 am w' f g):∀(l:List RC) (cs:List C) (us:List Nat) (k:List Nat→Prop),fitL f l cs us k→∀(n:Nat) (hp:Hp) (ρ:Env),CIn ρ ρ' B hp hp' n m n0 am w' us →
  ∃us2 ρ2,k us2∧COut ρ ρ2 ρ' B hp hp' n m w' us us2 (cs.map (C.val ρ')) (rvL g l n)
 |[],[],us,k,h,n,hp,ρ,hin=>⟨us,ρ,h,jai.refl _ _,hin.heap,Nat.le_refl _,rfl,(fun _ h=>by cases h),hin.ap,(fun _ _ _ h=>by cases h),(fun _ _ h=>by cases h),fun u hu=>hu⟩
 |r::l,c::cs,us,k,h,n,hp,ρ,hin=>by
  obtain⟨us2,ρ2,h2,k2⟩:=hf r c us _ h n hp ρ hin
  obtain⟨us3,ρ3,h3,k3⟩:=jkf hf l cs us2 k h2 (g r n).n _ ρ2 (hin.next k2)
  exact⟨us3,ρ3,h3,k2.append k3⟩
 |[],_::_,_,_,h,_,_,_,_=>h.elim
 |_::_,[],_,_,h,_,_,_,_=>h.elim
theorem jkg {Bc:Kd} (hm:∀k,k<m→Bc.kp k) (hB:∀k,B.all k→Bc.all k) (hF:∀k,Bc.fr k→B.fr k) (hM:Bc.LeM B) (hh':HRel ρ' Bc hp' nx w'):∀(q:Nat),jxE ρ' B hp' m n0 am w' (jqs n0 hp' q) (rvC am q)
 |0=>fun _ _ _ _ h=>h.elim
 |q+1=>by
  intro r c us k h n hp ρ hin
  unfold jqs at h
  split at h
  ·rename_i x y
   have e:=jk0 h.1
   subst e
   exact⟨us,ρ,h.2,COut.data hin trivial rfl⟩
  ·rename_i i h0
   split at h
   ·rename_i e1 e2
    have e1:=Nat.eq_of_beq_eq_true e1
    subst e1
    have hi:i<n0:=by simpa [Nat.blt_eq]using e2
    exact⟨us,ρ,h,COut.data hin (hin.am i hi).1 (hin.am i hi).2⟩
   ·exact h.elim
  ·rename_i ty c0 h0
   split at h
   ·exact h.elim
   ·rename_i hus
    split at h
    ·rename_i ty' c' hf
     split at h
     ·rename_i hty
      have hty:=Nat.eq_of_beq_eq_true hty
      subst hty
      have hc:=jbX h.1
      subst hc
      refine⟨_,_,h.2,COut.obj (q:=h0) (o:=.row ty' c0) hm hB hF hM hh' hin hf hus trivial (fun hnB=>?_) (fun k hk=>hk) (show C.lt (n+1) (.o n)from Nat.lt_succ_self n) (by simp[C.val])⟩
      have hok:=(hh'.ok h0 _ hf).2.2
      exact⟨by rw[upd_same]; exact hok.1,fun k hk=>by rw[upd_same]at hk; exact hnB k hk⟩
     ·exact h.elim
    ·exact h.elim
  ·rename_i ty c0
   obtain⟨⟨hn0⟩,hk⟩:=h
   refine⟨us,upd ρ n (.slice none 0 0),hk,?_⟩
   refine⟨jan _ _ _,?_,Nat.le_succ n,by simp[C.val,D.val,rvC],?_,?_,?_,?_,fun u hu=>hu⟩
   ·refine hin.heap.add1 (o:=.row ty c0) trivial ?_ (fun _ _ _ _ _ he=>by simp[O.blk,Value.ownBlock]at he)
    refine⟨⟨by simp[Cont.flat_length,hn0],.inl ⟨by rw[upd_same],hn0⟩⟩,fun k hk=>by rw[upd_same]at hk; simp[Value.ownBlock]at hk⟩
   ·intro y hy
    simp only[rvC,List.mem_singleton]at hy
    subst hy
    exact Nat.lt_succ_self n
   ·intro k' o' b hf hbk
    have hf2:find ((n,O.row ty c0)::hp) k'=some o':=hf
    clear hf
    have hf:=hf2
    clear hf2
    rw[jhd]at hf
    split at hf
    ·rename_i e
     subst e
     cases hf
     rw[upd_same]at hbk
     simp[O.blk,Value.ownBlock]at hbk
    ·have hk':=(hin.heap.ok k' o' hf).1
     rw[jan ρ n _ k' hk']at hbk
     exact hin.ap k' o' b hf hbk
   ·intro k' o' b hf hbk
    simp only[rvC,find]at hf
    split at hf
    ·rename_i e
     subst e
     cases hf
     rw[upd_same]at hbk
     simp[O.blk,Value.ownBlock]at hbk
    ·cases hf
   ·intro k' o' hf
    simp only[rvC,find]at hf
    split at hf
    ·omega
    ·cases hf
  ·rename_i c0 h0
   split at h
   ·exact h.elim
   ·rename_i hus
    split at h
    ·rename_i c' hf
     have hc:=jbX h.1
     subst hc
     refine⟨_,_,h.2,COut.obj (q:=h0) (o:=.rrow c0) hm hB hF hM hh' hin hf hus trivial (fun hnB=>?_) (fun k hk=>hk) (show C.lt (n+1) (.o n)from Nat.lt_succ_self n) (by simp[C.val])⟩
     have hok:=(hh'.ok h0 _ hf).2.2
     exact⟨by rw[upd_same]; exact hok.1,fun k hk=>by rw[upd_same]at hk; exact⟨hnB k hk,(hok.2 k hk).2⟩⟩
    ·exact h.elim
  ·rename_i c0
   obtain⟨⟨hn0⟩,hk⟩:=h
   refine⟨us,upd ρ n (.slice none 0 0),hk,?_⟩
   refine⟨jan _ _ _,?_,Nat.le_succ n,by simp[C.val,D.val,rvC],?_,?_,?_,?_,fun u hu=>hu⟩
   ·refine hin.heap.add1 (o:=.rrow c0) trivial ?_ (fun _ _ _ _ _ he=>by simp[O.blk,Value.ownBlock]at he)
    refine⟨⟨none,0,by rw[upd_same,hn0],⟨by omega,fun _=>rfl⟩,fun h=>by omega⟩,fun k hk=>by rw[upd_same]at hk; simp[Value.ownBlock]at hk⟩
   ·intro y hy
    simp only[rvC,List.mem_singleton]at hy
    subst hy
    exact Nat.lt_succ_self n
   ·intro k' o' b hf hbk
    have hf2:find ((n,O.rrow c0)::hp) k'=some o':=hf
    clear hf
    have hf:=hf2
    clear hf2
    rw[jhd]at hf
    split at hf
    ·rename_i e
     subst e
     cases hf
     rw[upd_same]at hbk
     simp[O.blk,Value.ownBlock]at hbk
    ·have hk':=(hin.heap.ok k' o' hf).1
     rw[jan ρ n _ k' hk']at hbk
     exact hin.ap k' o' b hf hbk
   ·intro k' o' b hf hbk
    simp only[rvC,find]at hf
    split at hf
    ·rename_i e
     subst e
     cases hf
     rw[upd_same]at hbk
     simp[O.blk,Value.ownBlock]at hbk
    ·cases hf
   ·intro k' o' hf
    simp only[rvC,find]at hf
    split at hf
    ·omega
    ·cases hf
  ·rename_i c0 h0
   split at h
   ·exact h.elim
   ·rename_i hus
    split at h
    ·rename_i c' hf
     have hc:=jbX h.1
     subst hc
     refine⟨_,_,h.2,COut.obj (q:=h0) (o:=.fext c0) hm hB hF hM hh' hin hf hus trivial (fun hnB=>?_) (fun k hk=>by cases hk) (show C.lt (n+1) (.o n)from Nat.lt_succ_self n) (by simp[C.val])⟩
     have hok:=(hh'.ok h0 _ hf).2.2
     exact⟨by rw[upd_same]; exact hok.1,by rw[upd_same]; exact jaY hF hok.2⟩
    ·exact h.elim
  ·rename_i c0
   obtain⟨⟨hn0⟩,hk⟩:=h
   exact⟨us,upd ρ n (.slice none 0 0),hk,COut.nilO hin trivial ⟨⟨none,0,by rw[upd_same,hn0],⟨by omega,fun _=>rfl⟩,fun h=>by omega⟩,fun a n' cap hv _=>by rw[upd_same]at hv; cases hv⟩ rfl⟩
  ·rename_i ty X h0
   split at h
   ·exact h.elim
   ·rename_i hus
    split at h
    ·rename_i ty' X' hf
     split at h
     ·rename_i hty
      have hty:=Nat.eq_of_beq_eq_true hty
      subst hty
      have hc:=jhZ h.1
      subst hc
      refine⟨_,_,h.2,COut.obj (q:=h0) (o:=.xrow ty' X) hm hB hF hM hh' hin hf hus trivial (fun hnB=>?_) (fun k hk=>hk) (show C.lt (n+1) (.o n)from Nat.lt_succ_self n) (by simp[C.val])⟩
      obtain⟨us1,q1,q2,q3⟩:=(hh'.ok h0 _ hf).2.2
      exact⟨us1,by rw[upd_same]; exact q1,fun i j hi hj=>let ⟨u,hu,hux⟩:=q2 i j hi hj; ⟨u,hu,NC.at_mono hF hux⟩,fun k hk=>by rw[upd_same]at hk; exact hnB k hk⟩
     ·exact h.elim
    ·exact h.elim
  ·rename_i ty X
   obtain⟨⟨hn0⟩,hk⟩:=h
   exact⟨us,upd ρ n (.slice none 0 0),hk,COut.nilO hin trivial ⟨[],by rw[upd_same,hn0]; exact World.ownsRow_nil w' 0 ty X.e,(fun i j hi=>by omega),fun k hk=>by rw[upd_same]at hk; cases hk⟩ rfl⟩
  ·rename_i ty ts X h0
   split at h
   ·exact h.elim
   ·rename_i hus
    split at h
    ·rename_i ty' ts' X' hf
     split at h
     ·rename_i hty hts
      have hty:=Nat.eq_of_beq_eq_true hty
      subst hty
      have hts:=of_decide_eq_true hts
      subst hts
      have hc:=jhZ h.1
      subst hc
      refine⟨_,_,h.2,COut.obj (q:=h0) (o:=.mrow ty' ts' X none) hm hB hF hM hh' hin hf hus trivial (fun hnB=>?_) (fun k hk=>hk) (show C.lt (n+1) (.o n)from Nat.lt_succ_self n) (by simp[C.val])⟩
      obtain⟨us1,q1,q2,q3,q4⟩:=(hh'.ok h0 _ hf).2.2
      exact⟨us1,by rw[upd_same]; exact q1,fun i j hi hj hn=>let ⟨u,hu,hux⟩:=q2 i j hi hj hn; ⟨u,hu,by rw[upd_same]; exact NC.own_mono hM hux⟩,q3,fun k hk=>by rw[upd_same]at hk; exact hnB k hk⟩
     ·exact h.elim
    ·exact h.elim
  ·rename_i ty ts X
   obtain⟨⟨hn0⟩,hk⟩:=h
   exact⟨us,upd ρ n (.slice none 0 0),hk,COut.nilO hin trivial ⟨[],by rw[upd_same,hn0]; exact World.ownsRow_nil w' 0 ty X.e,(fun i j hi=>by omega),(fun i j i' j' u v k hi=>by omega),fun k hk=>by rw[upd_same]at hk; cases hk⟩ rfl⟩
  ·rename_i ty l h0 e0
   split at h
   ·rename_i ty' cs hf
    split at h
    ·rename_i hty
     have hty:=Nat.eq_of_beq_eq_true hty
     subst hty
     obtain⟨us2,ρ2,h2,k2⟩:=jkf (jkg hm hB hF hM hh' q) l cs us _ h n hp ρ hin
     have hin2:=hin.next k2
     split at h2
     ·exact h2.elim
     ·rename_i hus
      have hok:=(hh'.ok h0 _ hf).2.2
      obtain⟨g,h3,h4,h5⟩:=hok
      have hobj:=COut.obj (q:=h0) (o:=.box ty' (rvL (rvC am q) l n).cs) (c:=.p (rvL (rvC am q) l n).n 0 1 0) (v:=ρ' h0) hm hB hF hM hh' hin2 hf hus (fun y hy=>C.lt_mono (Nat.le_succ _) (k2.lt y hy)) (fun hnB=>?_) (fun k hk=>hk)
       (show C.lt ((rvL (rvC am q) l n).n+1) (.p (rvL (rvC am q) l n).n 0 1 0)from Nat.lt_succ_self _) (by simp[C.val,h3,base])
      ·refine⟨h0::us2,upd ρ2 (rvL (rvC am q) l n).n (ρ' h0),h2,?_⟩
       have hap:=k2.append hobj
       refine⟨hap.agree,hap.heap,hap.le,?_,?_,hap.ap,hap.fresh,hap.keys,hap.sub⟩
       ·have hv:=hobj.val
        simp only[List.map_cons,List.map_nil]at hv
        simp only[rvC,List.map_cons,List.map_nil]
        rw[hv]
        simp[C.val,h3,base]
       ·intro y hy
        simp only[rvC,List.mem_singleton]at hy
        subst hy
        exact Nat.lt_succ_self _
      ·refine⟨g,by rw[upd_same]; exact h3,?_,?_⟩
       ·exact hnB g (by simp[O.blk,h3,base])
       ·rw[h5]
        congr 3
        have hv:=k2.val
        rw[←hv]
        exact List.map_congr_left fun y hy=>(C.val_agree (jan ρ2 _ _) (k2.lt y hy)).symm
    ·exact h.elim
   ·exact h.elim
  ·exact h.elim
structure WOut (ρ ρ2 ρ':Env) (B:Kd) (hp hp':Hp) (n m:Nat) (w':World) (us us2:List Nat) (vals:List Value) (r:Rw):Prop where
 agree:jai n ρ ρ2
 heap:HRel ρ2 B (r.hp++hp) r.n w'
 le:n≤r.n
 val:r.ws.map (W.val ρ2)=vals
 lt:∀c∈r.ws,W.lt r.n c
 ap:∀k o b,find (r.hp++hp) k=some o→o.blk (ρ2 k)=some b→b<m∨∃u∈us2,∃ou,find hp' u=some ou∧ou.blk (ρ' u)=some b
 fresh:∀h o b,find r.hp h=some o→o.blk (ρ2 h)=some b→m≤b
 keys:∀h o,find r.hp h=some o→n≤h
theorem jve {Bc:Kd} (hm:∀k,k<m→Bc.kp k) (hB:∀k,B.all k→Bc.all k) (hF:∀k,Bc.fr k→B.fr k) (hM:Bc.LeM B) (hh':HRel ρ' Bc hp' nx w') {r:RR} {x:W} {us:List Nat} {k:List Nat→Prop} (h:fitR n0 hp' r x us k) {n:Nat} {hp:Hp} {ρ:Env} (hin:CIn ρ ρ' B hp hp' n m n0 am w' us) :
  ∃us2 ρ2,k us2∧WOut ρ ρ2 ρ' B hp hp' n m w' us us2 [x.val ρ'] (rvR am r n):=by
 unfold fitR at h
 split at h
 ·rename_i rc c
  obtain⟨us2,ρ2,h2,k2⟩:=jkg hm hB hF hM hh' 8 rc c us k h n hp ρ hin
  have hlen:(rvC am 8 rc n).cs.length=1:=by have:=congrArg List.length k2.val; simpa using this
  obtain⟨c',hc'⟩:∃c',(rvC am 8 rc n).cs=[c']:=by
   match hb:(rvC am 8 rc n).cs,hlen with
   |[c'],_=>exact⟨c',rfl⟩
  have hval:=k2.val
  have hlt:=k2.lt
  rw[hc']at hval hlt
  refine⟨us2,ρ2,h2,k2.agree,k2.heap,k2.le,?_,?_,k2.ap,k2.fresh,k2.keys⟩
  ·simp only[rvR,hc',jgf,List.map_cons,List.map_nil,W.val]
   simpa using hval
  ·intro y hy
   simp only[rvR,List.mem_singleton]at hy
   subst hy
   rw[hc']
   exact hlt c' List.mem_cons_self
 ·rename_i l cs
  obtain⟨us2,ρ2,h2,k2⟩:=jkf (jkg hm hB hF hM hh' 8) l cs us k h n hp ρ hin
  refine⟨us2,ρ2,h2,k2.agree,k2.heap,k2.le,?_,?_,k2.ap,k2.fresh,k2.keys⟩
  ·simp only[rvR,List.map_cons,List.map_nil,W.val,k2.val]
  ·intro y hy
   simp only[rvR,List.mem_singleton]at hy
   subst hy
   exact k2.lt
 ·rename_i q e r' q' e' r''
  split at h
  ·rename_i hk he
   have hk:=jbD hk
   have he:=Nat.eq_of_beq_eq_true he
   subst hk
   subst he
   obtain⟨⟨rfl⟩,hk⟩:=h
   refine⟨us,ρ,hk,jai.refl _ _,hin.heap,Nat.le_refl _,rfl,?_,hin.ap,(fun _ _ _ h=>by cases h),fun _ _ h=>by cases h⟩
   intro y hy
   simp only[rvR,List.mem_singleton]at hy
   subst hy
   trivial
  ·exact h.elim
 ·exact h.elim
theorem jiT {Bc:Kd} (hm:∀k,k<m→Bc.kp k) (hB:∀k,B.all k→Bc.all k) (hF:∀k,Bc.fr k→B.fr k) (hM:Bc.LeM B) (hh':HRel ρ' Bc hp' nx w'):∀(l:List RR) (ws:List W) (us:List Nat),jk3 n0 hp' l ws us→∀(n:Nat) (hp:Hp) (ρ:Env),CIn ρ ρ' B hp hp' n m n0 am w' us →
  ∃us2 ρ2,WOut ρ ρ2 ρ' B hp hp' n m w' us us2 (ws.map (W.val ρ')) (jcs am l n)
 |[],[],us,h,n,hp,ρ,hin=>⟨us,ρ,jai.refl _ _,hin.heap,Nat.le_refl _,rfl,(fun _ h=>by cases h),hin.ap,(fun _ _ _ h=>by cases h),fun _ _ h=>by cases h⟩
 |r::l,x::ws,us,h,n,hp,ρ,hin=>by
  obtain⟨us2,ρ2,h2,k2⟩:=jve hm hB hF hM hh' h hin
  have hin2:CIn ρ2 ρ' B ((rvR am r n).hp++hp) hp' (rvR am r n).n m n0 am w' us2:=⟨k2.heap,k2.ap,fun i hi=>⟨C.lt_mono k2.le (hin.am i hi).1,by rw[C.val_agree k2.agree (hin.am i hi).1]; exact(hin.am i hi).2⟩⟩
  obtain⟨us3,ρ3,k3⟩:=jiT hm hB hF hM hh' l ws us2 h2 (rvR am r n).n _ ρ2 hin2
  refine⟨us3,ρ3,k2.agree.trans k3.agree k2.le,by simp only[jcs]; rw[List.append_assoc]; exact k3.heap,Nat.le_trans k2.le k3.le,?_,?_,?_,?_,?_⟩
  ·simp only[jcs,List.map_append,k3.val,List.map_cons]
   have:(rvR am r n).ws.map (W.val ρ3)=[x.val ρ']:=by
    rw[←k2.val]
    exact List.map_congr_left fun c hc=>W.val_agree k3.agree (k2.lt c hc)
   rw[this]
   rfl
  ·intro c hc
   simp only[jcs]at hc
   rcases List.mem_append.1 hc with hc|hc
   ·exact W.lt_mono k3.le (k2.lt c hc)
   ·exact k3.lt c hc
  ·intro q o b hf hb
   simp only[jcs]at hf
   rw[List.append_assoc]at hf
   exact k3.ap q o b hf hb
  ·intro q o b hf hb
   simp only[jcs]at hf
   rw[jau]at hf
   cases hg:find (jcs am l (rvR am r n).n).hp q with
   |some o2=>rw[hg]at hf; cases hf; exact k3.fresh q o b hg hb
   |none =>
    rw[hg]at hf
    have hf:find (rvR am r n).hp q=some o:=hf
    have hq:q<(rvR am r n).n:=by
     have:find ((rvR am r n).hp++hp) q=some o:=by rw[jau,hf]; rfl
     exact(k2.heap.ok q o this).1
    rw[k3.agree q hq]at hb
    exact k2.fresh q o b hf hb
  ·intro q o hf
   simp only[jcs]at hf
   rw[jau]at hf
   cases hg:find (jcs am l (rvR am r n).n).hp q with
   |some o2=>rw[hg]at hf; cases hf; exact Nat.le_trans k2.le (k3.keys q o hg)
   |none=>rw[hg]at hf; exact k2.keys q o hf
 |[],_::_,_,h,_,_,_,_=>h.elim
 |_::_,[],_,h,_,_,_,_=>h.elim
theorem jbI {am:List C} {hp:Hp} {nx:Nat}:∀t:GT,(t.toRT am hp nx).sel=⟨t.sel.1,ja6 (jcs am t.sel.2 nx).ws,(jcs am t.sel.2 nx).hp++hp,(jcs am t.sel.2 nx).n⟩
 | .leaf ob rs=>rfl
 | .br b x y=>by
  cases b
  ·exact jbI y
  ·exact jbI x
theorem jaS {f:Nat} {fn:Func} {body:Code} {shs:List SV} {g:List Lf→Option GT} (hm:P.follows .mixedOrders=true) (hsp:jac P sp) (hf:P.funcs[f]?=some fn) (hb:fn.body=some body) (hn:(fn.name == "runtime.NumGoroutine")=false)
  (h:∀ls t,g ls=some t→t.sel.1→∀b:Bv,jfq shs 0 ls=some b→b.vs.length≤fn.ntmps∧∃fuel loops,sx P sp fn.ntmps b.n fuel loops (jdk P sp fn.ntmps) body 0 [] ⟨jcC 0 b.vs,b.hp,b.n⟩ (jd6 P fn.results.toList fun v hp _=>jkd b.n t.sel.2 v hp)) :
  jaj P f true (jat shs g):=by
 refine .inl ⟨jcX hf hb hn,fun ρ B w args hp nx t hS hob hlt hh hB=>?_⟩
 unfold jat at hS
 split at hS
 ·rename_i ls am hto
  split at hS
  ·rename_i t' hg
   cases hS
   rw[jbI]at hob ⊢
   have hob:t'.sel.1:=hob
   obtain⟨b,ρ0,hbl,q⟩:=jhc hh hB shs args ls am hto hlt 0 (fun _=>undef) []
   rw[List.append_nil]at hbl
   obtain⟨hlen,fuel,loops,hx⟩:=h ls t' hg hob b hbl
   have hbn:b.n=am.length:=by have:=q.nn; omega
   have hh0:HRel ρ0 (kd fun k=>k<w.heap.size) b.hp b.n w:=by
    refine⟨fun x o hf=>?_,fun x o x' o' k hf hf' _ hb=>?_,jiQ hh.glob hB⟩
    ·obtain⟨_,a2,a3,a4,_⟩:=q.heap x o hf
     exact⟨a2,a3,a4⟩
    ·obtain⟨_,_,_,_,a5⟩:=q.heap x o hf
     rw[a5]at hb
     cases hb
   have hcalls:=jqh (n0:=b.n) (B:=kd fun k=>k<w.heap.size) hsp (fun ρ w=>jcF hm hsp) hf hb hlen hx q.lt (Nat.le_refl _) ρ0 w hh0 (fun k hk=>jbS.1 hk)
   rw[q.val]at hcalls
   refine hcalls.mono ?_
   rintro e w' ⟨ρ',v,hp',nx',rfl,hvlt,hag,⟨Bc,gB,hh'⟩,hbel,hold,hfit⟩
   have hbw:Below w.heap.size w w':=hbel.below
   have hBc:Old Bc w':=gB.old hold
   have hfr:∀k,Bc.fr k→w.heap.size≤k:=fun k hk=>by
    rcases gB.out k hk with h1|h1
    ·exact h1.elim
    ·exact Nat.le_of_not_lt h1
   have hmu:∀k,Bc.mu k≠none→w.heap.size≤k:=fun k hk=>Nat.le_of_not_lt fun hlt=>hk (Bc.dis k (gB.le.kp k hlt))
   let Bn:Kd:=⟨fun k=>B.kp k∨Bc.fr k,fun k=>B.fr k∨Bc.fr k,fun k=>match B.mu k with|some g=>some g|none=>Bc.mu k,fun k hk=>hk.imp (B.sub k) id,fun k hk=>by
    have h1:B.mu k=none:=by
     rcases hk with hk|hk
     ·exact B.dis k hk
     ·have h2:=hfr k hk
      cases hm2:B.mu k with
      |none=>rfl
      |some g=>exact absurd (hB k (.inr (by rw[hm2]; simp))) (Nat.not_lt_of_le h2)
    have h2:Bc.mu k=none:=by
     rcases hk with hk|hk
     ·exact Bc.dis k (gB.le.kp k (hB k (.inl hk)))
     ·exact Bc.dis k (Bc.sub k hk)
    show(match B.mu k with|some g=>some g|none=>Bc.mu k)=none
    rw[h1,h2]⟩
   have hmn:∀k,Bn.mu k=match B.mu k with|some g=>some g|none=>Bc.mu k:=fun _=>rfl
   have hBn:B.Le Bn:=⟨fun k hk=>.inl hk,fun k hk=>.inl hk⟩
   have hBm:B.LeM Bn:=fun k g hk=>by rw[hmn,hk]
   have hna:∀k,Bn.all k→B.all k∨(w.heap.size≤k∧Bc.all k):=fun k hk=>by
    rcases hk with (hk|hk)|hk
    ·exact .inl (.inl hk)
    ·exact .inr ⟨hfr k hk,.inl (Bc.sub k hk)⟩
    ·rw[hmn]at hk
     cases hm2:B.mu k with
     |none=>rw[hm2]at hk; exact .inr ⟨hmu k hk,.inr hk⟩
     |some g=>exact .inl (.inr (by rw[hm2]; simp))
   have gn:Grow B Bn true w w':=⟨hBn,fun k hk=>(hna k hk).imp id fun h=>hBc k h.2,fun k hk=>hk.imp id fun h hb=>absurd (hB k (.inl hb)) (Nat.not_lt_of_le (hfr k h)),fun _=>⟨fun k hk=>(hna k hk).imp id fun h=>h.1,hBm⟩⟩
   have hh1:HRel ρ Bn hp nx w':=(hh.below hbw hB).moreB hBn hBm fun h o k hf hk hb=>by
    have h1:=O.blk_lt (hh.ok h o hf).2.2 hk
    rcases hna k hb with hb|hb
    ·exact h1.2 hb
    ·exact absurd h1.1 (Nat.not_lt_of_le hb.1)
   obtain⟨ws,hws,hfw⟩:∃ws,(ja6 ws).val ρ'=v.val ρ'∧jk3 b.n hp' t'.sel.2 ws []:=by
    match v,hfit with
    | .w u,hfit=>exact⟨[u],rfl,hfit⟩
    | .t [],hfit=>exact⟨[],rfl,hfit⟩
    | .t (x::y::l),hfit=>exact⟨x::y::l,rfl,hfit⟩
   have hin:CIn ρ ρ' Bn hp hp' nx w.heap.size b.n am w' []:=by
    refine⟨hh1,fun k o b hk hbk=>.inl (O.blk_lt (hh.ok k o hk).2.2 hbk).1,fun i hi=>?_⟩
    have hi2:i<am.length:=by omega
    have h1:=q.own i hi2
    rw[Nat.zero_add]at h1
    refine⟨?_,by rw[hag i hi]; exact h1.symm⟩
    have:am.getD i (.d (.v undef))=am[i]:=by simp[List.getD,hi2]
    rw[this]
    exact q.xlt _ (List.getElem_mem hi2)
   obtain⟨us2,ρ2,k⟩:=jiT (B:=Bn) (m:=w.heap.size) (fun k hk=>gB.le.kp k hk) (fun k hk=>(hna k hk).elim (fun h=>.inl (gB.le.kp k (hB k h))) (fun h=>h.2)) (fun k hk=>.inr hk) (fun k g hk=>by
    rw[hmn]
    cases hm2:B.mu k with
    |none=>exact hk
    |some g'=>exact absurd (hB k (.inr (by rw[hm2]; simp))) (Nat.not_lt_of_le (hmu k (by rw[hk]; simp)))) hh' t'.sel.2 ws [] hfw nx hp ρ hin
   refine⟨ρ2,?_,k.agree,je0 k.lt,k.le,⟨Bn,gn,k.heap⟩,jcw hbw hB,fun _=>hbw,fun _ h o b hle hf hbk=>?_⟩
   ·show Ending.returned _=Ending.returned ((ja6 (jcs am t'.sel.2 nx).ws).val ρ2)
    rw[←hws,jcU,jcU]
    simp only[k.val]
   ·have hf:find ((jcs am t'.sel.2 nx).hp++hp) h=some o:=hf
    rw[jau]at hf
    cases hg2:find (jcs am t'.sel.2 nx).hp h with
    |some o2=>rw[hg2]at hf; cases hf; exact k.fresh h o b hg2 hbk
    |none =>
     rw[hg2]at hf
     have:=(hh.ok h o hf).1
     omega
  ·cases hS
 ·cases hS
end
end Go.Sx
end

section
open Go.RowKit
namespace Go.Sx
end Go.Sx
end

section
namespace Go.Sx
def jad {X Y:Type} (body:X→Option (X ⊕ Y)):Nat→X→Option Y
 |0,_=>none
 |n+1,x=>match body x with
  |none=>none
  |some (.inl x')=>jad body n x'
  |some (.inr y)=>some y
def big:Nat:=18446744073709551616
def jbJ {X Y R:Type} (body:X→Option (X ⊕ Y)) (n:Nat) (K:Y→Option R):X ⊕ Y→Option R
 | .inl x=>(jad body n x).bind K
 | .inr y=>K y
def ok {α:Type} (o:Option α):Prop:=o.isSome=true
instance {α : Type} (o : Option α) : Decidable (ok o) := inferInstanceAs (Decidable (o.isSome = true))
def val {α:Type} [Inhabited α] (o:Option α):α:=o.getD default
theorem jax {α:Type} [Inhabited α] {o:Option α} (h:ok o):o.bind some=some (val o):=by
 cases o with
 |none=>cases h
 |some x=>rfl
theorem jgg {α:Type} {o:Option α} {x:α} (h:o=some x):ok o:=by subst h; rfl
theorem jm4 {α:Type} [Inhabited α] {o:Option α} {x:α} (h:o=some x):val o=x:=by subst h; rfl
variable {X Y R S A:Type} {g:S→Option R} {r:R} {p q:Prop}
theorem jay {c:Prop} [Decidable c] {x y:Option S} (h:(if c then x else y).bind g=some r) (hx:x.bind g=some r→p) (hy:y.bind g=some r→q):Br (decide c) p q:=by
 by_cases hc:c
 ·rw[if_pos hc]at h; rw[decide_eq_true hc]; exact hx h
 ·rw[if_neg hc]at h; rw[decide_eq_false hc]; exact hy h
theorem jaw {b:Bool} {x y:Option S} (h:(if b=true then x else y).bind g=some r) (hx:x.bind g=some r→p) (hy:y.bind g=some r→q):Br b p q:=by
 cases b
 ·exact hy h
 ·exact hx h
theorem jaz {c:Prop} [Decidable c] {x:Option S} (h:(if c then x else none).bind g=some r) (hx:x.bind g=some r→p):Ob c∧p:=by
 by_cases hc:c
 ·rw[if_pos hc]at h; exact⟨⟨hc⟩,hx h⟩
 ·rw[if_neg hc]at h; cases h
theorem jaf (h:p):Ob True∧p:=⟨⟨trivial⟩,h⟩
theorem jqt {p q:Prop} (hp:p) (h:q):Ob p∧q:=⟨⟨hp⟩,h⟩
theorem jaE [Inhabited A] {e:Option A} {f:A→Option S} (h:(e.bind f).bind g=some r) (hx:(f (val e)).bind g=some r→p):Ob (ok e)∧p:=by
 cases e with
 |none=>cases h
 |some a=>exact⟨⟨rfl⟩,hx h⟩
theorem jaT {body:X→Option (X ⊕ Y)} {n:Nat} {x:X} {rest:Y→Option S} (h:((jad body n x).bind rest).bind g=some r):(jad body n x).bind (fun y=>(rest y).bind g)=some r:=by
 rw[←h]
 cases jad body n x<;>rfl
theorem jaD {body:X→Option (X ⊕ Y)} {n:Nat} {x:X} {K:Y→Option R} (h:(jad body n x).bind K=some r):∃m,n=m+1∧(body x).bind (jbJ body m K)=some r:=by
 cases n with
 |zero=>cases h
 |succ m =>
  refine⟨m,rfl,?_⟩
  rw[←h]
  unfold jad
  cases body x with
  |none=>rfl
  |some z=>cases z<;>rfl
theorem jav {body:X→Option (X ⊕ Y)} {n:Nat} {x:X} {K:Y→Option R} (h:(some (Sum.inl x)).bind (jbJ body n K)=some r):(jad body n x).bind K=some r:=h
theorem jah {body:X→Option (X ⊕ Y)} {n:Nat} {y:Y} {K:Y→Option R} (h:(some (Sum.inr y)).bind (jbJ body n K)=some r):K y=some r:=h
theorem jag {a:R} {P:Prop} (h:(some a).bind some=some r) (hp:a=r→P):P:=hp (Option.some.inj h)
theorem jaC {n m:Nat} (h:n+1=m):n<m:=by omega
end Go.Sx
end

section
namespace Go.Sx
theorem jbk {x:Int} (h:-9223372036854775808≤x∧x≤9223372036854775807):IntKind.i64.wrap x=x:=IntWalk.i64_in _ (by omega)
theorem jqu {X Y:Type} {body:X→Option (X ⊕ Y)} (f:Nat→X) {y:Y}:∀(k:Nat) (s:Nat) (N:Nat),(∀i,s≤i→i<s+k→body (f i)=some (.inl (f (i+1))))→body (f (s+k))=some (.inr y)→k<N→jad body N (f s)=some y
 |0,s,0,_,_,h=>absurd h (by omega)
 |0,s,N+1,_,hy,_=>by
  unfold jad
  rw[Nat.add_zero]at hy
  rw[hy]
 |k+1,s,0,_,_,h=>absurd h (by omega)
 |k+1,s,N+1,h,hy,hN=>by
  unfold jad
  rw[h s (Nat.le_refl _) (by omega)]
  exact jqu f k (s+1) N (fun i h1 h2=>h i (by omega) (by omega)) (by rw[show s+1+k=s+(k+1) by omega]; exact hy) (by omega)
theorem jfH {X Y:Type} {body:X→Option (X ⊕ Y)} (f:Nat→X) {y:Y} {k:Nat} (h:∀i,i<k→body (f i)=some (.inl (f (i+1)))) (hy:body (f k)=some (.inr y)) (hk:k<18446744073709551616):jad body big (f 0)=some y :=
 jqu f k 0 big (fun i _ h2=>h i (by omega)) (by rw[Nat.zero_add]; exact hy) hk
theorem jbZ {α Y:Type} (l:List α) (d:α) (P:α→Bool) {body:Int→Option (Int ⊕ Y)} (hit:Nat→Y) (miss:Y) (hlen:l.length<9223372036854775807)
  (h1:∀i,i<l.length→P (l.getD i d)=true→body (i:Int)=some (.inr (hit i)))
  (h2:∀i,i<l.length→P (l.getD i d)=false→body (i:Int)=some (.inl ((i:Int)+1))) (h3:body (l.length:Int)=some (.inr miss)) :
  jad body big 0=some (match l.findIdx? P with|some i=>hit i|none=>miss):=by
 cases hf:l.findIdx? P with
 |none =>
  rw[List.findIdx?_eq_none_iff]at hf
  refine jfH (fun i=>(i:Int)) (k:=l.length) (fun i hi=>?_) h3 (by omega)
  have:=h2 i hi (by simpa [List.getD,hi]using hf l[i] (List.getElem_mem _))
  rw[this]
  rfl
 |some k =>
  rw[List.findIdx?_eq_some_iff_getElem]at hf
  obtain⟨hk,hp,hbef⟩:=hf
  refine jfH (fun i=>(i:Int)) (k:=k) (fun i hi=>?_) (h1 k hk (by simpa [List.getD,hk]using hp)) (by omega)
  have hil:i<l.length:=by omega
  have:=h2 i hil (by simpa [List.getD,hil]using hbef i hi)
  rw[this]
  rfl
def inI (n:Int):Prop:=-9223372036854775808≤n∧n≤9223372036854775807
theorem jae {α β:Type} (x:α) (f:α→Option β):(some x).bind f=f x:=rfl
theorem jcY {α Y:Type} (l:List α) (d:α) (P:α→Bool) {body:Int→Option (Int ⊕ Y)} (hit miss:Y) (hlen:l.length<9223372036854775807)
  (h1:∀i,i<l.length→P (l.getD i d)=true→body (i:Int)=some (.inr hit))
  (h2:∀i,i<l.length→P (l.getD i d)=false→body (i:Int)=some (.inl ((i:Int)+1))) (h3:body (l.length:Int)=some (.inr miss)) :
  jad body big 0=some (if l.any P=true then hit else miss):=by
 rw[jbZ l d P (fun _=>hit) miss hlen h1 h2 h3]
 cases hf:l.findIdx? P with
 |none =>
  have:l.any P=false:=by
   rw[List.findIdx?_eq_none_iff]at hf
   rw[List.any_eq_false]
   intro x hx
   simp[hf x hx]
  rw[this]; rfl
 |some i =>
  have:l.any P=true:=by
   rw[List.findIdx?_eq_some_iff_getElem]at hf
   obtain⟨h,hp,_⟩:=hf
   exact List.any_eq_true.2 ⟨_,List.getElem_mem h,hp⟩
  rw[this]; rfl
theorem jdH {Y:Type} (n:Nat) (P:Nat→Bool) {body:Int→Option (Int ⊕ Y)} (hit miss:Y) (hlen:n<9223372036854775807)
  (h1:∀i,i<n→P i=true→body (i:Int)=some (.inr hit))
  (h2:∀i,i<n→P i=false→body (i:Int)=some (.inl ((i:Int)+1))) (h3:body (n:Int)=some (.inr miss)) :
  jad body big 0=some (if(List.range n).any P=true then hit else miss):=by
 refine jcY (List.range n) 0 P hit miss (by simpa using hlen) (fun i hi hp=>?_) (fun i hi hp=>?_) (by simpa using h3)
 ·have hi:i<n:=by simpa using hi
  have e:(List.range n).getD i 0=i:=by simp[List.getD,hi]
  rw[e]at hp
  exact h1 i hi hp
 ·have hi:i<n:=by simpa using hi
  have e:(List.range n).getD i 0=i:=by simp[List.getD,hi]
  rw[e]at hp
  exact h2 i hi hp
end Go.Sx
end

section
namespace Go.Sx
class TC (R:Type) where
 c:R→R→Prop
 refl:∀a,c a a
instance (priority := low) instTC {α : Type} : TC α := ⟨fun a r => Ob (a = r) ∧ True, fun _ => ⟨⟨rfl⟩, trivial⟩⟩
instance instTCProd {α β : Type} [i : TC β] : TC (α × β) := ⟨fun a r => Ob (a.1 = r.1) ∧ i.c a.2 r.2, fun a => ⟨⟨rfl⟩, i.refl a.2⟩⟩
inductive T (R:Type):Type 1 where
 |brP (c:Prop) [d:Decidable c] (x y:T R)
 |brB (b:Bool) (x y:T R)
 |obP (c:Prop) [d:Decidable c] (x:T R)
 |obT (x:T R)
 |obC (c:Prop) (h:c) (x:T R)
 |call {A:Type} [i:Inhabited A] (e:Option A) (x:A→T R)
 |ret (a:R) (P:R→Prop) (h:P a)
 |rc [i:TC R] (a:R)
 |bad (Q:R→Prop)
def T.run {R:Type}:T R→Option R
 | @T.brP _ c d x y=>@ite _ c d x.run y.run
 | .brB b x y=>if b=true then x.run else y.run
 | @T.obP _ c d x=>@ite _ c d x.run none
 | .obT x=>x.run
 | .obC _ _ x=>x.run
 | @T.call _ _ _ e x=>Option.bind e fun a=>(x a).run
 | .ret a _ _=>some a
 | @T.rc _ _ a=>some a
 | .bad _=>none
def T.cond {R:Type}:T R→R→Prop
 | @T.brP _ c d x y,r=>Br (@decide c d) (x.cond r) (y.cond r)
 | .brB b x y,r=>Br b (x.cond r) (y.cond r)
 | @T.obP _ c _ x,r=>Ob c∧x.cond r
 | .obT x,r=>Ob True∧x.cond r
 | .obC c _ x,r=>Ob c∧x.cond r
 | @T.call _ _ i e x,r=>Ob (ok e)∧(x (@val _ i e)).cond r
 | .ret _ P _,r=>P r
 | @T.rc _ i a,r=>i.c a r
 | .bad Q,r=>Q r
theorem T.sound {R:Type}:∀(t:T R) {r:R},t.run=some r→t.cond r
 | @T.brP _ c d x y,r,h=>by
  simp only[T.run]at h
  simp only[T.cond]
  by_cases hc:c
  ·rw[if_pos hc]at h; rw[decide_eq_true hc]; exact T.sound x h
  ·rw[if_neg hc]at h; rw[decide_eq_false hc]; exact T.sound y h
 | .brB b x y,r,h=>by
  simp only[T.run]at h
  simp only[T.cond]
  cases b
  ·exact T.sound y h
  ·exact T.sound x h
 | @T.obP _ c d x,r,h=>by
  simp only[T.run]at h
  by_cases hc:c
  ·rw[if_pos hc]at h; exact⟨⟨hc⟩,T.sound x h⟩
  ·rw[if_neg hc]at h; cases h
 | .obT x,r,h=>⟨⟨trivial⟩,T.sound x h⟩
 | .obC c hc x,r,h=>⟨⟨hc⟩,T.sound x h⟩
 | @T.call _ _ i e x,r,h=>by
  simp only[T.run]at h
  cases e with
  |none=>cases h
  |some a=>exact⟨⟨rfl⟩,T.sound (x a) h⟩
 | .ret a P hP,r,h=>by
  cases h
  exact hP
 | @T.rc _ i a,r,h=>by
  cases h
  exact i.refl a
 | .bad _,r,h=>by cases h
theorem T.vc {R:Type} {t:T R} {m:Option R} {r:R} {p:Prop} (hm:t.run=m) (hp:t.cond r=p) (h:Option.bind m some=some r):p:=by
 have h1:m=some r:=by cases m with
  |none=>cases h
  |some a=>exact h
 rw[←hp]
 exact T.sound t (hm.trans h1)
theorem rcs {R:Type} [i:TC R] {a r:R} (h:Option.bind (some a) some=some r):i.c a r:=by
 obtain rfl:=Option.some.inj h
 exact i.refl a
end Go.Sx
end

section
namespace Go.Sx
def nI (l:List (List NC)) (i j:Nat):Int:=NC.toI ((l.getD i []).getD j (NC.d (D.v undef)))
def nS (l:List (List NC)) (i j:Nat):ByteArray:=NC.toS ((l.getD i []).getD j (NC.d (D.v undef)))
def nL (l:List (List NC)) (i j:Nat):List Int:=NC.toInts ((l.getD i []).getD j (NC.d (D.v undef)))
def nR (l:List (List NC)) (i j:Nat):List (List Int):=NC.toRecs ((l.getD i []).getD j (NC.d (D.v undef)))
section
variable {S R:Type} {g:S→Option R} {r:R}
theorem jxF {b:Bool} {x y:Option S} (hb:b=true) (h:(if b=true then x else y).bind g=some r):x.bind g=some r:=by rw[if_pos hb]at h; exact h
end
theorem jyF {b:Bool} {x y:GT} {Q:List RR→Prop} (hx:b=true→x.sel.1→Q x.sel.2) (hy:b=false→y.sel.1→Q y.sel.2) (h:(GT.br b x y).sel.1):Q (GT.br b x y).sel.2:=by
 cases b with
 |true=>exact hx rfl h
 |false=>exact hy rfl h
end Go.Sx
end

section
namespace Go.Sx
def nestE:Nat→Bool
 |22|42|75|76|98|138=>true
 |_=>false
def jyG:Nat→Bool
 |42|98=>true
 |_=>false
instance globs : Globs := { tab := fun _ => none, nestT := nestE, nestM := jyG }
end Go.Sx
end

section
namespace Go.Sh
open Go Go.Proofs Go.RowKit Go.Sx
def bodyOf (f:Func):Code:=f.body.getD .skip
theorem mixed:Tryz.prog.follows .mixedOrders=true:=by kernel_rfl
abbrev jct (fn:Func) (sp:jab) (loops:jkZ) (as_:List A) (rs:List RV):Prop :=
 sx Tryz.prog sp fn.ntmps as_.length 40 loops (jdk Tryz.prog sp fn.ntmps) (bodyOf fn) 0 [] ⟨jcC 0 (jdG 0 as_),jge 0 as_,as_.length⟩ (jd6 Tryz.prog fn.results.toList fun v hp _=>jxD rs v hp)
def jbA (shs:List SV) (ls:List Lf):Bv:=(jfq shs 0 ls).getD ⟨[],[],0,[]⟩
theorem ja9 {shs:List SV} {ls:List Lf} {b:Bv} (h:jfq shs 0 ls=some b):b=jbA shs ls:=by
 unfold jbA
 rw[h]
 rfl
abbrev jbQ (fn:Func) (sp:jab) (loops:jkZ) (b:Bv) (rs:List RR):Prop :=
 sx Tryz.prog sp fn.ntmps b.n 40 loops (jdk Tryz.prog sp fn.ntmps) (bodyOf fn) 0 [] ⟨jcC 0 b.vs,b.hp,b.n⟩ (jd6 Tryz.prog fn.results.toList fun v hp _=>jkd b.n rs v hp)
def sp0:jab:=fun _=>none
theorem jaB:jac Tryz.prog sp0:=fun _ _ _ h=>by cases h
def jaX (f:Nat) (M:Bool) (S:Sx.Spec) (sp:jab):jab:=fun k=>match Nat.beq k f with
 |true=>some (M,S)
 |false=>sp k
theorem jaA {f:Nat} {M:Bool} {S:Sx.Spec} {sp:jab} (h:jaj Tryz.prog f M S) (hs:jac Tryz.prog sp):jac Tryz.prog (jaX f M S sp):=by
 intro k M' S' hk
 unfold jaX at hk
 split at hk
 ·rename_i e
  have:=Nat.eq_of_beq_eq_true e
  subst this
  cases hk
  exact h
 ·exact hs k M' S' hk
end Go.Sh
end

section
namespace Go.Sh
open Go Go.Proofs Go.RowKit Go.Sx
open Go.IntKind (wrap)
def jm5:List (Option Cont):=[none,none,none]
def y9 (n lo hi:Int):Option Bool :=
 if lo≤n then
  some (decide (n≤hi))
 else
  some false
def jiU:List A→Option (Prop × List RV)
 |[.d (.i .i64 n),.d (.i .i64 lo),.d (.i .i64 hi)]=>some (ok (y9 n lo hi),[.d (.b ((val (y9 n lo hi))))])
 |_=>none
abbrev sp_84:jab→jab:=jaX 84 true (jaP jm5 jiU)
def jtF (n lo hi:Int):T (Bool) :=
 .brP (lo≤n)
 (.obT
 (.rc ((decide (n≤hi)))))
 (.obT
 (.rc (false)))
theorem jrY (n lo hi:Int) (r:Bool) (h:Option.bind (y9 n lo hi) some=some r):jct Tryz.f84 (sp0) (fun _ _ _=>none) [.d (.i .i64 n),.d (.i .i64 lo),.d (.i .i64 hi)] [.d (.b r)] :=
 T.vc (t:=jtF n lo hi) (by kernel_rfl) (by kernel_rfl) h
theorem jrZ:jaj Tryz.prog 84 true (jaP jm5 jiU):=by
 refine ja1 (sp:=sp0) (fn:=Tryz.f84) (body:=bodyOf Tryz.f84) mixed jaB Tryz.func84 (by kernel_rfl) (by kernel_rfl) fun as_ ob rs h ho=>?_
 unfold jiU at h
 split at h
 ·rename_i n lo hi
  cases h
  exact⟨Nat.le_of_ble_eq_true rfl,_,_,jrY n lo hi _ (jax ho)⟩
 ·cases h
theorem sp_84_ok {sp:jab} (h:jac Tryz.prog sp):jac Tryz.prog (sp_84 sp):=jaA jrZ h
def jm6:List (Option Cont):=[none,none,none]
def y4 (n lo hi:Int):Option Bool :=
 if lo≤n then
  some (decide (n≤hi))
 else
  some false
def jiV:List A→Option (Prop × List RV)
 |[.d (.i .i64 n),.d (.i .i64 lo),.d (.i .i64 hi)]=>some (ok (y4 n lo hi),[.d (.b ((val (y4 n lo hi))))])
 |_=>none
abbrev sp_45:jab→jab:=jaX 45 true (jaP jm6 jiV)
def jtG (n lo hi:Int):T (Bool) :=
 .brP (lo≤n)
 (.obT
 (.rc ((decide (n≤hi)))))
 (.obT
 (.rc (false)))
theorem jr0 (n lo hi:Int) (r:Bool) (h:Option.bind (y4 n lo hi) some=some r):jct Tryz.f45 (sp0) (fun _ _ _=>none) [.d (.i .i64 n),.d (.i .i64 lo),.d (.i .i64 hi)] [.d (.b r)] :=
 T.vc (t:=jtG n lo hi) (by kernel_rfl) (by kernel_rfl) h
theorem jr1:jaj Tryz.prog 45 true (jaP jm6 jiV):=by
 refine ja1 (sp:=sp0) (fn:=Tryz.f45) (body:=bodyOf Tryz.f45) mixed jaB Tryz.func45 (by kernel_rfl) (by kernel_rfl) fun as_ ob rs h ho=>?_
 unfold jiV at h
 split at h
 ·rename_i n lo hi
  cases h
  exact⟨Nat.le_of_ble_eq_true rfl,_,_,jr0 n lo hi _ (jax ho)⟩
 ·cases h
theorem sp_45_ok {sp:jab} (h:jac Tryz.prog sp):jac Tryz.prog (sp_45 sp):=jaA jr1 h
def joF:List (Option Cont):=[none,none]
def jel (n u25:Int):Option Bool :=
 Option.bind (y9 n (wrap .i64 (0-u25)) u25) fun r0 =>
 some r0
def jkh:List A→Option (Prop × List RV)
 |[.d (.i .i64 n),.d (.i .i64 u25)]=>some (ok (jel n u25),[.d (.b ((val (jel n u25))))])
 |_=>none
abbrev sp_160:jab→jab:=jaX 160 true (jaP joF jkh)
def jvf (n u25:Int):T (Bool) :=
 .call (y9 n (wrap .i64 (0-u25)) u25) fun r0 =>
 .obT
 (.rc (r0))
theorem jtH (n u25:Int) (r:Bool) (h:Option.bind (jel n u25) some=some r):jct Tryz.f160 ((sp_84 sp0)) (fun _ _ _=>none) [.d (.i .i64 n),.d (.i .i64 u25)] [.d (.b r)] :=
 T.vc (t:=jvf n u25) (by kernel_rfl) (by kernel_rfl) h
theorem jtI:jaj Tryz.prog 160 true (jaP joF jkh):=by
 refine ja1 (sp:=(sp_84 sp0)) (fn:=Tryz.f160) (body:=bodyOf Tryz.f160) mixed (sp_84_ok jaB) Tryz.func160 (by kernel_rfl) (by kernel_rfl) fun as_ ob rs h ho=>?_
 unfold jkh at h
 split at h
 ·rename_i n u25
  cases h
  exact⟨Nat.le_of_ble_eq_true rfl,_,_,jtH n u25 _ (jax ho)⟩
 ·cases h
theorem sp_160_ok {sp:jab} (h:jac Tryz.prog sp):jac Tryz.prog (sp_160 sp):=jaA jtI h
def jsX:List (Option Cont):=[some (.ints .i64 []),none]
def y92 (l:List Int) (n x0:Int):Option (Int ⊕ (Unit ⊕ Unit)) :=
 if x0<(↑(List.length l):Int)then
  if 0≤x0∧x0<(↑(List.length l):Int)then
  if Int.toNat x0<List.length l then
   if(List.getD l (Int.toNat x0) (0:Int)==n)=true then
   some (.inr ((.inl ())))
   else
   some (.inl (wrap .i64 (x0+1)))
  else none
  else none
 else
  some (.inr ((.inr ())))
def jtJ (u3:Unit):Option Bool :=
 some true
def jtK (u4:Unit):Option Bool :=
 some false
def jgK:(Unit ⊕ Unit)→Option Bool :=
 (Sum.elim (jtJ) (jtK))
def jcZ (l:List Int) (n:Int):Option Bool :=
 Option.bind (jad (y92 l n) big (0:Int)) (jgK)
def jn1:List A→Option (Prop × List RV)
 |[.r (.ints .i64 l),.d (.i .i64 n)]=>some (ok (jcZ l n),[.d (.b ((val (jcZ l n))))])
 |_=>none
abbrev sp_48:jab→jab:=jaX 48 true (jaP jsX jn1)
theorem jwH (l:List Int) (n:Int) (r:Bool) (h:Option.bind (jcZ l n) some=some r):jct Tryz.f48 (sp0) (fun gs id _=>match id with
 |0=>some ⟨Int × Nat,fun z=>⟨[(0,.w (.c (.o 0))),(1,.w (.c (.d (.i .i64 n)))),(5,.w (.c (.d (.i .i64 (Prod.fst z)))))],[(0,.ext (.ints .i64 l))],2⟩,fun z=>Option.bind (jad (y92 l n) (Prod.snd z) (Prod.fst z)) (fun y0=>Option.bind (jgK y0) some)=some r,fun z=>Prod.snd z⟩
 |_=>none) [.r (.ints .i64 l),.d (.i .i64 n)] [.d (.b r)]:=by
 refine Eq.mp (by kernel_rfl:(
 ((∃(v0:Int × Nat),(Ob ((Option.bind (jad (y92 l n) v0.2 v0.1) fun y0=>Option.bind (jgK y0) some)=some r) ∧
 (Ob (n=n) ∧
 (Ob ((0:Int)=v0.1) ∧
 (Ob (l=l) ∧
 True))))) ∧
  (∀(v0:Int × Nat),((Option.bind (jad (y92 l n) v0.2 v0.1) fun y0=>Option.bind (jgK y0) some)=some r →
 Br (decide (v0.1<(↑(List.length l):Int)))
  ((Ob (0≤v0.1∧v0.1<(↑(List.length l):Int)) ∧
 (Ob (Int.toNat v0.1<List.length l) ∧
 Br (List.getD l (Int.toNat v0.1) (0:Int)==n)
  ((Ob True ∧
 (Ob (true=r) ∧
 True)))
  ((∃(v1:Int × Nat),(Ob ((Option.bind (jad (y92 l n) v1.2 v1.1) fun y0=>Option.bind (jgK y0) some)=some r) ∧
 (Ob (v1.2<v0.2) ∧
 (Ob (n=n) ∧
 (Ob (wrap .i64 (v0.1+1)=v1.1) ∧
 (Ob (l=l) ∧
 True))))))))))
  ((Ob True ∧
 (Ob (false=r) ∧
 True)))))))=_) ?_
 refine⟨⟨((0:Int),big),⟨jaT h⟩,(by repeat' constructor)⟩,fun z0 hz0=>?_⟩
 obtain⟨k0,hm0,h⟩:=jaD hz0
 refine jay h (fun h=>?_) (fun h=>?_)
 ·refine jaz h fun h=>?_
  refine jaz h fun h=>?_
  refine jaw h (fun h=>?_) (fun h=>?_)
  ·have h:=jah h
   refine jaf ?_
   exact rcs h
  ·exact⟨(_,k0),⟨jav h⟩,⟨jaC hm0.symm⟩,(by repeat' constructor)⟩
 ·have h:=jah h
  refine jaf ?_
  exact rcs h
theorem jwI:jaj Tryz.prog 48 true (jaP jsX jn1):=by
 refine ja1 (sp:=sp0) (fn:=Tryz.f48) (body:=bodyOf Tryz.f48) mixed jaB Tryz.func48 (by kernel_rfl) (by kernel_rfl) fun as_ ob rs h ho=>?_
 unfold jn1 at h
 split at h
 ·rename_i l n
  cases h
  exact⟨Nat.le_of_ble_eq_true rfl,_,_,jwH l n _ (jax ho)⟩
 ·cases h
theorem sp_48_ok {sp:jab} (h:jac Tryz.prog sp):jac Tryz.prog (sp_48 sp):=jaA jwI h
def jqv:List (Option Cont):=[some (.ints .i64 []),some (.ints .i64 [])]
def y93 (a b:List Int) (x0:Int):Option (Int ⊕ (Unit ⊕ Unit)) :=
 if x0<(↑(List.length a):Int)then
  if 0≤x0∧x0<(↑(List.length a):Int)then
  if Int.toNat x0<List.length a then
   if 0≤x0∧x0<(↑(List.length b):Int)then
   if Int.toNat x0<List.length b then
    if(List.getD a (Int.toNat x0) (0:Int)!=List.getD b (Int.toNat x0) (0:Int))=true then
    some (.inr ((.inl ())))
    else
    some (.inl (wrap .i64 (x0+1)))
   else none
   else none
  else none
  else none
 else
  some (.inr ((.inr ())))
def jr2 (u3:Unit):Option Bool :=
 some false
def jr3 (u4:Unit):Option Bool :=
 some true
def jfI:(Unit ⊕ Unit)→Option Bool :=
 (Sum.elim (jr2) (jr3))
def jfJ (a b:List Int):Option Bool :=
 if((↑(List.length a):Int)!=(↑(List.length b):Int))=true then
  some false
 else
  Option.bind (jad (y93 a b) big (0:Int)) (jfI)
def jl5:List A→Option (Prop × List RV)
 |[.r (.ints .i64 a),.r (.ints .i64 b)]=>some (ok (jfJ a b),[.d (.b ((val (jfJ a b))))])
 |_=>none
abbrev sp_24:jab→jab:=jaX 24 true (jaP jqv jl5)
theorem jvg (a b:List Int) (r:Bool) (h:Option.bind (jfJ a b) some=some r):jct Tryz.f24 (sp0) (fun gs id _=>match id with
 |0=>some ⟨Int × Nat,fun z=>⟨[(0,.w (.c (.o 0))),(1,.w (.c (.o 1))),(5,.w (.c (.d (.i .i64 (Prod.fst z)))))],[(0,.ext (.ints .i64 a)),(1,.ext (.ints .i64 b))],2⟩,fun z=>Option.bind (jad (y93 a b) (Prod.snd z) (Prod.fst z)) (fun y0=>Option.bind (jfI y0) some)=some r,fun z=>Prod.snd z⟩
 |_=>none) [.r (.ints .i64 a),.r (.ints .i64 b)] [.d (.b r)]:=by
 refine Eq.mp (by kernel_rfl:(
 Br ((↑(List.length a):Int)!=(↑(List.length b):Int))
  ((Ob True ∧
 (Ob (false=r) ∧
 True)))
  (((∃(v0:Int × Nat),(Ob ((Option.bind (jad (y93 a b) v0.2 v0.1) fun y0=>Option.bind (jfI y0) some)=some r) ∧
 (Ob ((0:Int)=v0.1) ∧
 (Ob (a=a) ∧
 (Ob (b=b) ∧
 True))))) ∧
  (∀(v0:Int × Nat),((Option.bind (jad (y93 a b) v0.2 v0.1) fun y0=>Option.bind (jfI y0) some)=some r →
 Br (decide (v0.1<(↑(List.length a):Int)))
  ((Ob (0≤v0.1∧v0.1<(↑(List.length a):Int)) ∧
 (Ob (Int.toNat v0.1<List.length a) ∧
 (Ob (0≤v0.1∧v0.1<(↑(List.length b):Int)) ∧
 (Ob (Int.toNat v0.1<List.length b) ∧
 Br (List.getD a (Int.toNat v0.1) (0:Int)!=List.getD b (Int.toNat v0.1) (0:Int))
  ((Ob True ∧
 (Ob (false=r) ∧
 True)))
  ((∃(v1:Int × Nat),(Ob ((Option.bind (jad (y93 a b) v1.2 v1.1) fun y0=>Option.bind (jfI y0) some)=some r) ∧
 (Ob (v1.2<v0.2) ∧
 (Ob (wrap .i64 (v0.1+1)=v1.1) ∧
 (Ob (a=a) ∧
 (Ob (b=b) ∧
 True))))))))))))
  ((Ob True ∧
 (Ob (true=r) ∧
 True))))))))=_) ?_
 refine jaw h (fun h=>?_) (fun h=>?_)
 ·refine jaf ?_
  exact rcs h
 ·refine⟨⟨((0:Int),big),⟨jaT h⟩,(by repeat' constructor)⟩,fun z0 hz0=>?_⟩
  obtain⟨k0,hm0,h⟩:=jaD hz0
  refine jay h (fun h=>?_) (fun h=>?_)
  ·refine jaz h fun h=>?_
   refine jaz h fun h=>?_
   refine jaz h fun h=>?_
   refine jaz h fun h=>?_
   refine jaw h (fun h=>?_) (fun h=>?_)
   ·have h:=jah h
    refine jaf ?_
    exact rcs h
   ·exact⟨(_,k0),⟨jav h⟩,⟨jaC hm0.symm⟩,(by repeat' constructor)⟩
  ·have h:=jah h
   refine jaf ?_
   exact rcs h
theorem jvh:jaj Tryz.prog 24 true (jaP jqv jl5):=by
 refine ja1 (sp:=sp0) (fn:=Tryz.f24) (body:=bodyOf Tryz.f24) mixed jaB Tryz.func24 (by kernel_rfl) (by kernel_rfl) fun as_ ob rs h ho=>?_
 unfold jl5 at h
 split at h
 ·rename_i a b
  cases h
  exact⟨Nat.le_of_ble_eq_true rfl,_,_,jvg a b _ (jax ho)⟩
 ·cases h
theorem sp_24_ok {sp:jab} (h:jac Tryz.prog sp):jac Tryz.prog (sp_24 sp):=jaA jvh h
def jki:List (Option Cont):=[some (.ints .i64 [])]
def y6 (l:List Int):Option (List Int) :=
 if(0+List.length l)*8≤140737488355328∧0+List.length l≤9223372036854775807 then
  some ([]++l)
 else none
def jgL:List A→Option (Prop × List RV)
 |[.r (.ints .i64 l)]=>some (ok (y6 l),[.row 3 (.ints .i64 ((val (y6 l))))])
 |_=>none
abbrev sp_26:jab→jab:=jaX 26 true (jaP jki jgL)
def jqw (l:List Int):T (List Int) :=
 .obP ((0+List.length l)*8≤140737488355328∧0+List.length l≤9223372036854775807)
 (.obT
 (.rc (([]++l))))
theorem jo3 (l r:List Int) (h:Option.bind (y6 l) some=some r):jct Tryz.f26 (sp0) (fun _ _ _=>none) [.r (.ints .i64 l)] [.row 3 (.ints .i64 r)] :=
 T.vc (t:=jqw l) (by kernel_rfl) (by kernel_rfl) h
theorem jo4:jaj Tryz.prog 26 true (jaP jki jgL):=by
 refine ja1 (sp:=sp0) (fn:=Tryz.f26) (body:=bodyOf Tryz.f26) mixed jaB Tryz.func26 (by kernel_rfl) (by kernel_rfl) fun as_ ob rs h ho=>?_
 unfold jgL at h
 split at h
 ·rename_i l
  cases h
  exact⟨Nat.le_of_ble_eq_true rfl,_,_,jo3 l _ (jax ho)⟩
 ·cases h
theorem sp_26_ok {sp:jab} (h:jac Tryz.prog sp):jac Tryz.prog (sp_26 sp):=jaA jo4 h
def jm7:List (Option Cont):=[none,none]
def y40 (is:Bool) (e:Int):Option Int :=
 if(is)=true then
  some (0:Int)
 else
  some e
def jiW:List A→Option (Prop × List RV)
 |[.d (.b is),.d (.i .i64 e)]=>some (ok (y40 is e),[.d (.i .i64 ((val (y40 is e))))])
 |_=>none
abbrev sp_77:jab→jab:=jaX 77 true (jaP jm7 jiW)
def jtL (is:Bool) (e:Int):T (Int) :=
 .brB (is)
 (.obT
 (.rc ((0:Int))))
 (.obT
 (.rc (e)))
theorem jr4 (is:Bool) (e r:Int) (h:Option.bind (y40 is e) some=some r):jct Tryz.f77 (sp0) (fun _ _ _=>none) [.d (.b is),.d (.i .i64 e)] [.d (.i .i64 r)] :=
 T.vc (t:=jtL is e) (by kernel_rfl) (by kernel_rfl) h
theorem jr5:jaj Tryz.prog 77 true (jaP jm7 jiW):=by
 refine ja1 (sp:=sp0) (fn:=Tryz.f77) (body:=bodyOf Tryz.f77) mixed jaB Tryz.func77 (by kernel_rfl) (by kernel_rfl) fun as_ ob rs h ho=>?_
 unfold jiW at h
 split at h
 ·rename_i is e
  cases h
  exact⟨Nat.le_of_ble_eq_true rfl,_,_,jr4 is e _ (jax ho)⟩
 ·cases h
theorem sp_77_ok {sp:jab} (h:jac Tryz.prog sp):jac Tryz.prog (sp_77 sp):=jaA jr5 h
def jhv:List SV:=[.a [.d,.d,.d,.d,.d,.d,.d,.d,.d,.d,.d,.d,.d,.d,.d,.d,.d,.d,.d,.d,.d,.d,.d,.d,.d,.d,.d,.d,.d,.d,.d,.d]]
def y94 (l0 l1 l2 l3 l4 l5 l6 l7 l8 l9 l10 l11 l12 l13 l14 l15 l16 l17 l18 l19 l20 l21 l22 l23 l24 l25 l26 l27 l28 l29 l30 l31:Int) (x0:(Int × List Nat)):Option ((Int × List Nat) ⊕ (List Nat)) :=
 if x0.1<32 then
  if(0≤x0.1∧x0.1<(↑(32:Nat):Int))∧List.getD [true,true,true,true,true,true,true,true,true,true,true,true,true,true,true,true,true,true,true,true,true,true,true,true,true,true,true,true,true,true,true,true] (Int.toNat x0.1*1) false=true then
  if 0≤x0.1∧x0.1<(↑(32:Nat):Int)then
   if 0+(0+Int.toNat x0.1*1)<32 then
   some (.inl ((wrap .i64 (x0.1+1),jhm (32:Nat) x0.2 (0+(0+Int.toNat x0.1*1)) (FloatKind.nearest .f32 (List.getD [l0,l1,l2,l3,l4,l5,l6,l7,l8,l9,l10,l11,l12,l13,l14,l15,l16,l17,l18,l19,l20,l21,l22,l23,l24,l25,l26,l27,l28,l29,l30,l31] (Int.toNat x0.1*1) (0:Int))))))
   else none
  else none
  else none
 else
  some (.inr x0.2)
def y95 (u3:List Nat):Option (List Nat) :=
 some u3
def jhe (l0 l1 l2 l3 l4 l5 l6 l7 l8 l9 l10 l11 l12 l13 l14 l15 l16 l17 l18 l19 l20 l21 l22 l23 l24 l25 l26 l27 l28 l29 l30 l31:Int):Option (List Nat) :=
 Option.bind (jad (y94 l0 l1 l2 l3 l4 l5 l6 l7 l8 l9 l10 l11 l12 l13 l14 l15 l16 l17 l18 l19 l20 l21 l22 l23 l24 l25 l26 l27 l28 l29 l30 l31) big (((0:Int),[(0:Nat),(0:Nat),(0:Nat),(0:Nat),(0:Nat),(0:Nat),(0:Nat),(0:Nat),(0:Nat),(0:Nat),(0:Nat),(0:Nat),(0:Nat),(0:Nat),(0:Nat),(0:Nat),(0:Nat),(0:Nat),(0:Nat),(0:Nat),(0:Nat),(0:Nat),(0:Nat),(0:Nat),(0:Nat),(0:Nat),(0:Nat),(0:Nat),(0:Nat),(0:Nat),(0:Nat),(0:Nat)]))) (y95)
def jhw:List Lf→Option GT
 |[.d (.i .i64 l0),.d (.i .i64 l1),.d (.i .i64 l2),.d (.i .i64 l3),.d (.i .i64 l4),.d (.i .i64 l5),.d (.i .i64 l6),.d (.i .i64 l7),.d (.i .i64 l8),.d (.i .i64 l9),.d (.i .i64 l10),.d (.i .i64 l11),.d (.i .i64 l12),.d (.i .i64 l13),.d (.i .i64 l14),.d (.i .i64 l15),.d (.i .i64 l16),.d (.i .i64 l17),.d (.i .i64 l18),.d (.i .i64 l19),.d (.i .i64 l20),.d (.i .i64 l21),.d (.i .i64 l22),.d (.i .i64 l23),.d (.i .i64 l24),.d (.i .i64 l25),.d (.i .i64 l26),.d (.i .i64 l27),.d (.i .i64 l28),.d (.i .i64 l29),.d (.i .i64 l30),.d (.i .i64 l31)]=>some (.leaf (ok (jhe l0 l1 l2 l3 l4 l5 l6 l7 l8 l9 l10 l11 l12 l13 l14 l15 l16 l17 l18 l19 l20 l21 l22 l23 l24 l25 l26 l27 l28 l29 l30 l31)) [.b .f32 32 ((val (jhe l0 l1 l2 l3 l4 l5 l6 l7 l8 l9 l10 l11 l12 l13 l14 l15 l16 l17 l18 l19 l20 l21 l22 l23 l24 l25 l26 l27 l28 l29 l30 l31)))])
 |_=>none
abbrev jxG  := ([(0:Nat),(0:Nat),(0:Nat),(0:Nat),(0:Nat),(0:Nat),(0:Nat),(0:Nat),(0:Nat),(0:Nat),(0:Nat),(0:Nat),(0:Nat),(0:Nat),(0:Nat),(0:Nat),(0:Nat),(0:Nat),(0:Nat),(0:Nat),(0:Nat),(0:Nat),(0:Nat),(0:Nat),(0:Nat),(0:Nat),(0:Nat),(0:Nat),(0:Nat),(0:Nat),(0:Nat),(0:Nat)]=[(0:Nat),(0:Nat),(0:Nat),(0:Nat),(0:Nat),(0:Nat),(0:Nat),(0:Nat),(0:Nat),(0:Nat),(0:Nat),(0:Nat),(0:Nat),(0:Nat),(0:Nat),(0:Nat),(0:Nat),(0:Nat),(0:Nat),(0:Nat),(0:Nat),(0:Nat),(0:Nat),(0:Nat),(0:Nat),(0:Nat),(0:Nat),(0:Nat),(0:Nat),(0:Nat),(0:Nat),(0:Nat)])
abbrev jsY (l0 l1 l2 l3 l4 l5 l6 l7 l8 l9 l10 l11 l12 l13 l14 l15 l16 l17 l18 l19 l20 l21 l22 l23 l24 l25 l26 l27 l28 l29 l30 l31:Int) (k:Prop):Prop :=
 (Ob (0=0) ∧
 (Ob (0=0) ∧
 (Ob (l0=l0) ∧
 (Ob (l1=l1) ∧
 (Ob (l2=l2) ∧
 (Ob (l3=l3) ∧
 (Ob (l4=l4) ∧
 (Ob (l5=l5) ∧
 (Ob (l6=l6) ∧
 (Ob (l7=l7) ∧
 (Ob (l8=l8) ∧
 (Ob (l9=l9) ∧
 (Ob (l10=l10) ∧
 (Ob (l11=l11) ∧
 (Ob (l12=l12) ∧
 (Ob (l13=l13) ∧
 (Ob (l14=l14) ∧
 (Ob (l15=l15) ∧
 (Ob (l16=l16) ∧
 (Ob (l17=l17) ∧
 (Ob (l18=l18) ∧
 (Ob (l19=l19) ∧
 (Ob (l20=l20) ∧
 (Ob (l21=l21) ∧
 (Ob (l22=l22) ∧
 (Ob (l23=l23) ∧
 (Ob (l24=l24) ∧
 (Ob (l25=l25) ∧
 (Ob (l26=l26) ∧
 (Ob (l27=l27) ∧
 (Ob (l28=l28) ∧
 (Ob (l29=l29) ∧
 (Ob (l30=l30) ∧
 (Ob (l31=l31) ∧
 k))))))))))))))))))))))))))))))))))
theorem jqx (l0 l1 l2 l3 l4 l5 l6 l7 l8 l9 l10 l11 l12 l13 l14 l15 l16 l17 l18 l19 l20 l21 l22 l23 l24 l25 l26 l27 l28 l29 l30 l31:Int) (r:List Nat) (h:Option.bind (jhe l0 l1 l2 l3 l4 l5 l6 l7 l8 l9 l10 l11 l12 l13 l14 l15 l16 l17 l18 l19 l20 l21 l22 l23 l24 l25 l26 l27 l28 l29 l30 l31) some=some r):jbQ Tryz.f146 (sp0) (fun gs id _=>match id with
 |0=>some ⟨(Int × List Nat) × Nat,fun z=>⟨[(2,.w (.c (.p 0 0 1 0))),(3,.w (.c (.p 1 0 1 0))),(6,.w (.a [.d (.i .i64 l0),.d (.i .i64 l1),.d (.i .i64 l2),.d (.i .i64 l3),.d (.i .i64 l4),.d (.i .i64 l5),.d (.i .i64 l6),.d (.i .i64 l7),.d (.i .i64 l8),.d (.i .i64 l9),.d (.i .i64 l10),.d (.i .i64 l11),.d (.i .i64 l12),.d (.i .i64 l13),.d (.i .i64 l14),.d (.i .i64 l15),.d (.i .i64 l16),.d (.i .i64 l17),.d (.i .i64 l18),.d (.i .i64 l19),.d (.i .i64 l20),.d (.i .i64 l21),.d (.i .i64 l22),.d (.i .i64 l23),.d (.i .i64 l24),.d (.i .i64 l25),.d (.i .i64 l26),.d (.i .i64 l27),.d (.i .i64 l28),.d (.i .i64 l29),.d (.i .i64 l30),.d (.i .i64 l31)])),(7,.w (.c (.d (.i .i64 (Prod.fst (Prod.fst z))))))],[(0,.arr 110 .f32 32 ([(0:Nat),(0:Nat),(0:Nat),(0:Nat),(0:Nat),(0:Nat),(0:Nat),(0:Nat),(0:Nat),(0:Nat),(0:Nat),(0:Nat),(0:Nat),(0:Nat),(0:Nat),(0:Nat),(0:Nat),(0:Nat),(0:Nat),(0:Nat),(0:Nat),(0:Nat),(0:Nat),(0:Nat),(0:Nat),(0:Nat),(0:Nat),(0:Nat),(0:Nat),(0:Nat),(0:Nat),(0:Nat)])),(1,.arr 110 .f32 32 (Prod.snd (Prod.fst z)))],2⟩,fun z=>Option.bind (jad (y94 l0 l1 l2 l3 l4 l5 l6 l7 l8 l9 l10 l11 l12 l13 l14 l15 l16 l17 l18 l19 l20 l21 l22 l23 l24 l25 l26 l27 l28 l29 l30 l31) (Prod.snd z) (Prod.fst z)) (fun y0=>Option.bind (y95 y0) some)=some r,fun z=>Prod.snd z⟩
 |_=>none) (jbA jhv [.d (.i .i64 l0),.d (.i .i64 l1),.d (.i .i64 l2),.d (.i .i64 l3),.d (.i .i64 l4),.d (.i .i64 l5),.d (.i .i64 l6),.d (.i .i64 l7),.d (.i .i64 l8),.d (.i .i64 l9),.d (.i .i64 l10),.d (.i .i64 l11),.d (.i .i64 l12),.d (.i .i64 l13),.d (.i .i64 l14),.d (.i .i64 l15),.d (.i .i64 l16),.d (.i .i64 l17),.d (.i .i64 l18),.d (.i .i64 l19),.d (.i .i64 l20),.d (.i .i64 l21),.d (.i .i64 l22),.d (.i .i64 l23),.d (.i .i64 l24),.d (.i .i64 l25),.d (.i .i64 l26),.d (.i .i64 l27),.d (.i .i64 l28),.d (.i .i64 l29),.d (.i .i64 l30),.d (.i .i64 l31)]) [.b .f32 32 r]:=by
 refine Eq.mp (by kernel_rfl:(
 (
  (∃(v0:(Int × List Nat) × Nat),(Ob ((Option.bind (jad (y94 l0 l1 l2 l3 l4 l5 l6 l7 l8 l9 l10 l11 l12 l13 l14 l15 l16 l17 l18 l19 l20 l21 l22 l23 l24 l25 l26 l27 l28 l29 l30 l31) v0.2 v0.1) fun y0=>Option.bind (y95 y0) some)=some r) ∧
  (jsY l0 l1 l2 l3 l4 l5 l6 l7 l8 l9 l10 l11 l12 l13 l14 l15 l16 l17 l18 l19 l20 l21 l22 l23 l24 l25 l26 l27 l28 l29 l30 l31 (
 (Ob ((0:Int)=v0.1.1) ∧
 (Ob (jxG) ∧
 (Ob ([(0:Nat),(0:Nat),(0:Nat),(0:Nat),(0:Nat),(0:Nat),(0:Nat),(0:Nat),(0:Nat),(0:Nat),(0:Nat),(0:Nat),(0:Nat),(0:Nat),(0:Nat),(0:Nat),(0:Nat),(0:Nat),(0:Nat),(0:Nat),(0:Nat),(0:Nat),(0:Nat),(0:Nat),(0:Nat),(0:Nat),(0:Nat),(0:Nat),(0:Nat),(0:Nat),(0:Nat),(0:Nat)]=v0.1.2) ∧
 True))))))) ∧
  (∀(v0:(Int × List Nat) × Nat),((Option.bind (jad (y94 l0 l1 l2 l3 l4 l5 l6 l7 l8 l9 l10 l11 l12 l13 l14 l15 l16 l17 l18 l19 l20 l21 l22 l23 l24 l25 l26 l27 l28 l29 l30 l31) v0.2 v0.1) fun y0=>Option.bind (y95 y0) some)=some r →
 Br (decide (v0.1.1<32))
  ((Ob ((0≤v0.1.1∧v0.1.1<(↑(32:Nat):Int))∧List.getD [true,true,true,true,true,true,true,true,true,true,true,true,true,true,true,true,true,true,true,true,true,true,true,true,true,true,true,true,true,true,true,true] (Int.toNat v0.1.1*1) false=true) ∧
 (Ob True ∧
 (Ob (0≤v0.1.1∧v0.1.1<(↑(32:Nat):Int)) ∧
 (Ob (0+(0+Int.toNat v0.1.1*1)<32) ∧
  (∃(v1:(Int × List Nat) × Nat),(Ob ((Option.bind (jad (y94 l0 l1 l2 l3 l4 l5 l6 l7 l8 l9 l10 l11 l12 l13 l14 l15 l16 l17 l18 l19 l20 l21 l22 l23 l24 l25 l26 l27 l28 l29 l30 l31) v1.2 v1.1) fun y0=>Option.bind (y95 y0) some)=some r) ∧
 (Ob (v1.2<v0.2) ∧
  (jsY l0 l1 l2 l3 l4 l5 l6 l7 l8 l9 l10 l11 l12 l13 l14 l15 l16 l17 l18 l19 l20 l21 l22 l23 l24 l25 l26 l27 l28 l29 l30 l31 (
 (Ob (wrap .i64 (v0.1.1+1)=v1.1.1) ∧
 (Ob (jxG) ∧
 (Ob (jhm (32:Nat) v0.1.2 (0+(0+Int.toNat v0.1.1*1)) (FloatKind.nearest .f32 (List.getD [l0,l1,l2,l3,l4,l5,l6,l7,l8,l9,l10,l11,l12,l13,l14,l15,l16,l17,l18,l19,l20,l21,l22,l23,l24,l25,l26,l27,l28,l29,l30,l31] (Int.toNat v0.1.1*1) (0:Int)))=v1.1.2) ∧
 True)))))))))))))
  ((Ob True ∧
 (Ob True ∧
 (Ob True ∧
 (Ob (r=v0.1.2) ∧
 True)))))))))=_) ?_
 refine⟨⟨(((0:Int),[(0:Nat),(0:Nat),(0:Nat),(0:Nat),(0:Nat),(0:Nat),(0:Nat),(0:Nat),(0:Nat),(0:Nat),(0:Nat),(0:Nat),(0:Nat),(0:Nat),(0:Nat),(0:Nat),(0:Nat),(0:Nat),(0:Nat),(0:Nat),(0:Nat),(0:Nat),(0:Nat),(0:Nat),(0:Nat),(0:Nat),(0:Nat),(0:Nat),(0:Nat),(0:Nat),(0:Nat),(0:Nat)]),big),⟨jaT h⟩,(by repeat' constructor)⟩,fun z0 hz0=>?_⟩
 obtain⟨k0,hm0,h⟩:=jaD hz0
 refine jay h (fun h=>?_) (fun h=>?_)
 ·refine jaz h fun h=>?_
  refine jaf ?_
  refine jaz h fun h=>?_
  refine jaz h fun h=>?_
  exact⟨(_,k0),⟨jav h⟩,⟨jaC hm0.symm⟩,(by repeat' constructor)⟩
 ·have h:=jah h
  refine jaf ?_
  refine jaf ?_
  refine jaf ?_
  exact jag h (fun e=>by subst e; exact(by repeat' constructor))
theorem jqy:jaj Tryz.prog 146 true (jat jhv jhw):=by
 refine jaS (sp:=sp0) (fn:=Tryz.f146) (body:=bodyOf Tryz.f146) mixed jaB Tryz.func146 (by kernel_rfl) (by kernel_rfl) fun ls t h ho b hb=>?_
 unfold jhw at h
 split at h
 ·rename_i l0 l1 l2 l3 l4 l5 l6 l7 l8 l9 l10 l11 l12 l13 l14 l15 l16 l17 l18 l19 l20 l21 l22 l23 l24 l25 l26 l27 l28 l29 l30 l31
  cases h
  obtain rfl:=ja9 hb
  exact⟨Nat.le_of_ble_eq_true (by kernel_rfl),_,_,jqx l0 l1 l2 l3 l4 l5 l6 l7 l8 l9 l10 l11 l12 l13 l14 l15 l16 l17 l18 l19 l20 l21 l22 l23 l24 l25 l26 l27 l28 l29 l30 l31 _ (jax ho)⟩
 ·cases h
end Go.Sh
end

section
namespace Go.Sh
open Go Go.Proofs Go.RowKit Go.Sx
open Go.IntKind (wrap)
def jiX:List SV:=[.a [.d,.x (.st [.s,.i .i64,.ints .i64,.ints .i64,.ints .i64,.i .i64,.recs 5,.i .i64] [])]]
def y58 (u0:List (List NC)) (x0:(Int × List (List NC))):Option ((Int × List (List NC)) ⊕ (List (List NC))) :=
 if x0.1<(↑(List.length u0):Int)then
  if 0≤x0.1∧x0.1<(↑(List.length u0):Int)then
  if Int.toNat x0.1<List.length u0 then
   Option.bind (y6 (nL u0 (Int.toNat x0.1) (2:Nat))) fun r0 =>
   Option.bind (y6 (nL u0 (Int.toNat x0.1) (3:Nat))) fun r1 =>
   Option.bind (y6 (nL u0 (Int.toNat x0.1) (4:Nat))) fun r2 =>
   if(0+List.length (nR u0 (Int.toNat x0.1) (6:Nat)))*40≤140737488355328∧0+List.length (nR u0 (Int.toNat x0.1) (6:Nat))≤9223372036854775807 then
   if(List.length x0.2+List.length [[NC.d (D.s (nS u0 (Int.toNat x0.1) (0:Nat))),NC.d (D.i .i64 (nI u0 (Int.toNat x0.1) (1:Nat))),NC.r (Cont.ints .i64 r0),NC.r (Cont.ints .i64 r1),NC.r (Cont.ints .i64 r2),NC.d (D.i .i64 (nI u0 (Int.toNat x0.1) (5:Nat))),NC.r (Cont.recs (5:Nat) ([]++nR u0 (Int.toNat x0.1) (6:Nat))),NC.d (D.i .i64 (nI u0 (Int.toNat x0.1) (7:Nat)))]])*136≤140737488355328∧List.length x0.2+List.length [[NC.d (D.s (nS u0 (Int.toNat x0.1) (0:Nat))),NC.d (D.i .i64 (nI u0 (Int.toNat x0.1) (1:Nat))),NC.r (Cont.ints .i64 r0),NC.r (Cont.ints .i64 r1),NC.r (Cont.ints .i64 r2),NC.d (D.i .i64 (nI u0 (Int.toNat x0.1) (5:Nat))),NC.r (Cont.recs (5:Nat) ([]++nR u0 (Int.toNat x0.1) (6:Nat))),NC.d (D.i .i64 (nI u0 (Int.toNat x0.1) (7:Nat)))]]≤9223372036854775807 then
    some (.inl ((wrap .i64 (x0.1+1),x0.2++[[NC.d (D.s (nS u0 (Int.toNat x0.1) (0:Nat))),NC.d (D.i .i64 (nI u0 (Int.toNat x0.1) (1:Nat))),NC.r (Cont.ints .i64 r0),NC.r (Cont.ints .i64 r1),NC.r (Cont.ints .i64 r2),NC.d (D.i .i64 (nI u0 (Int.toNat x0.1) (5:Nat))),NC.r (Cont.recs (5:Nat) ([]++nR u0 (Int.toNat x0.1) (6:Nat))),NC.d (D.i .i64 (nI u0 (Int.toNat x0.1) (7:Nat)))]])))
   else none
   else none
  else none
  else none
 else
  some (.inr x0.2)
def jqz (u1:ByteArray) (u3:List (List NC)):Option (ByteArray × List (List NC)) :=
 some (u1,u3)
def y66 (u1:ByteArray) (u0:List (List NC)):Option (ByteArray × List (List NC)) :=
 Option.bind (jad (y58 u0) big (((0:Int),[]))) (jqz u1)
def jiY:List Lf→Option GT
 |[.d (.s u1),.x (.st [.s,.i .i64,.ints .i64,.ints .i64,.ints .i64,.i .i64,.recs 5,.i .i64] u0)]=>some (.leaf (ok (y66 u1 u0)) [.s [.d (.s ((val (y66 u1 u0)).1)),.x 118 (.st ([NK.s,NK.i .i64,NK.ints .i64,NK.ints .i64,NK.ints .i64,NK.i .i64,NK.recs (5:Nat),NK.i .i64]) ((val (y66 u1 u0)).2))]])
 |_=>none
abbrev sp_19:jab→jab:=jaX 19 true (jat jiX jiY)
theorem jr6 (u1:ByteArray) (u0:List (List NC)) (r:ByteArray × List (List NC)) (h:Option.bind (y66 u1 u0) some=some r):jbQ Tryz.f19 ((sp_26 sp0)) (fun gs id _=>match id with
 |0=>some ⟨(Int × List (List NC)) × Nat,fun z=>⟨[(1,.w (.c (.p 1 0 1 0))),(2,.w (.c (.p 2 0 1 0))),(3,.w (.c (.p 3 0 1 0))),(4,.w (.c (.d (.i .i64 (Prod.fst (Prod.fst z))))))],[(1,.box 24 [.d (.s u1),.o 0]),(2,.box 24 [.d (.s (ByteArray.mk #[])),.d (.v (Value.slice none (0:Nat) (0:Nat)))]),(3,.box 24 [.d (.s u1),.o 4]),(0,.xext (XC.st [NK.s,NK.i .i64,NK.ints .i64,NK.ints .i64,NK.ints .i64,NK.i .i64,NK.recs (5:Nat),NK.i .i64] u0)),(4,.xrow 118 (XC.st [NK.s,NK.i .i64,NK.ints .i64,NK.ints .i64,NK.ints .i64,NK.i .i64,NK.recs (5:Nat),NK.i .i64] (Prod.snd (Prod.fst z))))],5⟩,fun z=>Option.bind (jad (y58 u0) (Prod.snd z) (Prod.fst z)) (fun y0=>Option.bind (jqz u1 y0) some)=some r,fun z=>Prod.snd z⟩
 |_=>none) (jbA jiX [.d (.s u1),.x (.st [.s,.i .i64,.ints .i64,.ints .i64,.ints .i64,.i .i64,.recs 5,.i .i64] u0)]) [.s [.d (.s r.1),.x 118 (.st ([NK.s,NK.i .i64,NK.ints .i64,NK.ints .i64,NK.ints .i64,NK.i .i64,NK.recs (5:Nat),NK.i .i64]) r.2)]]:=by
 refine Eq.mp (by kernel_rfl:(
 ((∃(v0:(Int × List (List NC)) × Nat),(Ob ((Option.bind (jad (y58 u0) v0.2 v0.1) fun y0=>Option.bind (jqz u1 y0) some)=some r) ∧
 (Ob (0=0) ∧
 (Ob (0=0) ∧
 (Ob (0=0) ∧
 (Ob ((0:Int)=v0.1.1) ∧
 (Ob (u1=u1) ∧
 (Ob (ByteArray.mk #[]=ByteArray.mk #[]) ∧
 (Ob (Value.slice none (0:Nat) (0:Nat)=Value.slice none (0:Nat) (0:Nat)) ∧
 (Ob (u1=u1) ∧
 (Ob (u0=u0) ∧
 (Ob (List.length v0.1.2=(0:Nat)) ∧
 True)))))))))))) ∧
  (∀(v0:(Int × List (List NC)) × Nat),((Option.bind (jad (y58 u0) v0.2 v0.1) fun y0=>Option.bind (jqz u1 y0) some)=some r →
 Br (decide (v0.1.1<(↑(List.length u0):Int)))
  ((Ob (0≤v0.1.1∧v0.1.1<(↑(List.length u0):Int)) ∧
 (Ob (Int.toNat v0.1.1<List.length u0) ∧
 (Ob (ok (y6 (nL u0 (Int.toNat v0.1.1) (2:Nat)))) ∧
 (Ob (ok (y6 (nL u0 (Int.toNat v0.1.1) (3:Nat)))) ∧
 (Ob (ok (y6 (nL u0 (Int.toNat v0.1.1) (4:Nat)))) ∧
 (Ob ((0+List.length (nR u0 (Int.toNat v0.1.1) (6:Nat)))*40≤140737488355328∧0+List.length (nR u0 (Int.toNat v0.1.1) (6:Nat))≤9223372036854775807) ∧
 (Ob ((List.length v0.1.2+List.length [[NC.d (D.s (nS u0 (Int.toNat v0.1.1) (0:Nat))),NC.d (D.i .i64 (nI u0 (Int.toNat v0.1.1) (1:Nat))),NC.r (Cont.ints .i64 (val (y6 (nL u0 (Int.toNat v0.1.1) (2:Nat))))),NC.r (Cont.ints .i64 (val (y6 (nL u0 (Int.toNat v0.1.1) (3:Nat))))),NC.r (Cont.ints .i64 (val (y6 (nL u0 (Int.toNat v0.1.1) (4:Nat))))),NC.d (D.i .i64 (nI u0 (Int.toNat v0.1.1) (5:Nat))),NC.r (Cont.recs (List.length [D.i .i64 0,D.i .i64 0,D.i .i64 0,D.i .i64 0,D.i .i64 0]) ([]++nR u0 (Int.toNat v0.1.1) (6:Nat))),NC.d (D.i .i64 (nI u0 (Int.toNat v0.1.1) (7:Nat)))]])*136≤140737488355328∧List.length v0.1.2+List.length [[NC.d (D.s (nS u0 (Int.toNat v0.1.1) (0:Nat))),NC.d (D.i .i64 (nI u0 (Int.toNat v0.1.1) (1:Nat))),NC.r (Cont.ints .i64 (val (y6 (nL u0 (Int.toNat v0.1.1) (2:Nat))))),NC.r (Cont.ints .i64 (val (y6 (nL u0 (Int.toNat v0.1.1) (3:Nat))))),NC.r (Cont.ints .i64 (val (y6 (nL u0 (Int.toNat v0.1.1) (4:Nat))))),NC.d (D.i .i64 (nI u0 (Int.toNat v0.1.1) (5:Nat))),NC.r (Cont.recs (List.length [D.i .i64 0,D.i .i64 0,D.i .i64 0,D.i .i64 0,D.i .i64 0]) ([]++nR u0 (Int.toNat v0.1.1) (6:Nat))),NC.d (D.i .i64 (nI u0 (Int.toNat v0.1.1) (7:Nat)))]]≤9223372036854775807) ∧
  (∃(v1:(Int × List (List NC)) × Nat),(Ob ((Option.bind (jad (y58 u0) v1.2 v1.1) fun y0=>Option.bind (jqz u1 y0) some)=some r) ∧
 (Ob (v1.2<v0.2) ∧
 (Ob (0=0) ∧
 (Ob (0=0) ∧
 (Ob (0=0) ∧
 (Ob (wrap .i64 (v0.1.1+1)=v1.1.1) ∧
 (Ob (u1=u1) ∧
 (Ob (ByteArray.mk #[]=ByteArray.mk #[]) ∧
 (Ob (Value.slice none (0:Nat) (0:Nat)=Value.slice none (0:Nat) (0:Nat)) ∧
 (Ob (u1=u1) ∧
 (Ob (u0=u0) ∧
 (Ob (v0.1.2++[[NC.d (D.s (nS u0 (Int.toNat v0.1.1) (0:Nat))),NC.d (D.i .i64 (nI u0 (Int.toNat v0.1.1) (1:Nat))),NC.r (Cont.ints .i64 (val (y6 (nL u0 (Int.toNat v0.1.1) (2:Nat))))),NC.r (Cont.ints .i64 (val (y6 (nL u0 (Int.toNat v0.1.1) (3:Nat))))),NC.r (Cont.ints .i64 (val (y6 (nL u0 (Int.toNat v0.1.1) (4:Nat))))),NC.d (D.i .i64 (nI u0 (Int.toNat v0.1.1) (5:Nat))),NC.r (Cont.recs (List.length [D.i .i64 0,D.i .i64 0,D.i .i64 0,D.i .i64 0,D.i .i64 0]) ([]++nR u0 (Int.toNat v0.1.1) (6:Nat))),NC.d (D.i .i64 (nI u0 (Int.toNat v0.1.1) (7:Nat)))]]=v1.1.2) ∧
 True)))))))))))))))))))))
  ((Ob True ∧
 (Ob (u1=r.1) ∧
 (Ob (v0.1.2=r.2) ∧
 True))))))))=_) ?_
 refine⟨⟨(((0:Int),[]),big),⟨jaT h⟩,(by repeat' (first|exact trivial|exact⟨rfl⟩|refine And.intro ?_ ?_))⟩,fun z3 hz3=>?_⟩
 obtain⟨k3,hm3,h⟩:=jaD hz3
 refine jay h (fun h=>?_) (fun h=>?_)
 ·refine jaz h fun h=>?_
  refine jaz h fun h=>?_
  refine jaE h fun h=>?_
  refine jaE h fun h=>?_
  refine jaE h fun h=>?_
  refine jaz h fun h=>?_
  refine jaz h fun h=>?_
  exact⟨((wrap .i64 ((Prod.fst z3).1+1),(Prod.fst z3).2++[[NC.d (D.s (nS u0 (Int.toNat (Prod.fst z3).1) (0:Nat))),NC.d (D.i .i64 (nI u0 (Int.toNat (Prod.fst z3).1) (1:Nat))),NC.r (Cont.ints .i64 (val (y6 (nL u0 (Int.toNat (Prod.fst z3).1) (2:Nat))))),NC.r (Cont.ints .i64 (val (y6 (nL u0 (Int.toNat (Prod.fst z3).1) (3:Nat))))),NC.r (Cont.ints .i64 (val (y6 (nL u0 (Int.toNat (Prod.fst z3).1) (4:Nat))))),NC.d (D.i .i64 (nI u0 (Int.toNat (Prod.fst z3).1) (5:Nat))),NC.r (Cont.recs (5:Nat) ([]++nR u0 (Int.toNat (Prod.fst z3).1) (6:Nat))),NC.d (D.i .i64 (nI u0 (Int.toNat (Prod.fst z3).1) (7:Nat)))]]),k3),⟨jav h⟩,⟨jaC hm3.symm⟩,(by repeat' (first|exact trivial|exact⟨rfl⟩|refine And.intro ?_ ?_))⟩
 ·have h:=jah h
  refine jaf ?_
  exact jag h (fun e=>by subst e; exact(by repeat' (first|exact trivial|exact⟨rfl⟩|refine And.intro ?_ ?_)))
theorem jr7:jaj Tryz.prog 19 true (jat jiX jiY):=by
 refine jaS (sp:=(sp_26 sp0)) (fn:=Tryz.f19) (body:=bodyOf Tryz.f19) mixed (sp_26_ok jaB) Tryz.func19 (by kernel_rfl) (by kernel_rfl) fun ls t h ho b hb=>?_
 unfold jiY at h
 split at h
 ·rename_i u1 u0
  cases h
  obtain rfl:=ja9 hb
  exact⟨Nat.le_of_ble_eq_true (by kernel_rfl),_,_,jr6 u1 u0 _ (jax ho)⟩
 ·cases h
theorem sp_19_ok {sp:jab} (h:jac Tryz.prog sp):jac Tryz.prog (sp_19 sp):=jaA jr7 h
end Go.Sh
end

section
namespace Go.Sh
open Go Go.Proofs Go.RowKit Go.Sx
open Go.IntKind (wrap)
def jkj:List SV:=[.a [.d,.x (.st [.s,.i .i64,.ints .i64,.ints .i64,.ints .i64,.i .i64,.recs 5,.i .i64] [])]]
def y26 (u0:List (List NC)) (x0:Int):Option (Int ⊕ (Unit ⊕ Unit)) :=
 if x0<(↑(List.length u0):Int)then
  if 0≤x0∧x0<(↑(List.length u0):Int)then
  if Int.toNat x0<List.length u0 then
   if(↑(ByteArray.size (nS u0 (Int.toNat x0) (0:Nat))):Int)>20 then
   some (.inr ((.inl ())))
   else
   if(↑(List.length (nL u0 (Int.toNat x0) (2:Nat))):Int)>8 then
    some (.inr ((.inl ())))
   else
    if(↑(List.length (nL u0 (Int.toNat x0) (3:Nat))):Int)>8 then
    some (.inr ((.inl ())))
    else
    if(↑(List.length (nL u0 (Int.toNat x0) (4:Nat))):Int)>8 then
     some (.inr ((.inl ())))
    else
     if(↑(List.length (nR u0 (Int.toNat x0) (6:Nat))):Int)>8 then
     some (.inr ((.inl ())))
     else
     some (.inl (wrap .i64 (x0+1)))
  else none
  else none
 else
  some (.inr ((.inr ())))
def jqA (u3:Unit):Option Bool :=
 some false
def jqB (u4:Unit):Option Bool :=
 some true
def y47:(Unit ⊕ Unit)→Option Bool :=
 (Sum.elim (jqA) (jqB))
def jem (u1:ByteArray) (u0:List (List NC)):Option Bool :=
 if(↑(ByteArray.size u1):Int)>20 then
  some false
 else
  if(↑(List.length u0):Int)>8 then
  if(↑(List.length u0):Int)≤24 then
   some false
  else
   if(↑(List.length u0):Int)>26 then
   some false
   else
   Option.bind (jad (y26 u0) big (0:Int)) (y47)
  else
  if(↑(List.length u0):Int)>26 then
   some false
  else
   Option.bind (jad (y26 u0) big (0:Int)) (y47)
def jkk:List Lf→Option GT
 |[.d (.s u1),.x (.st [.s,.i .i64,.ints .i64,.ints .i64,.ints .i64,.i .i64,.recs 5,.i .i64] u0)]=>some (.leaf (ok (jem u1 u0)) [.c (.d (.b ((val (jem u1 u0)))))])
 |_=>none
abbrev sp_17:jab→jab:=jaX 17 true (jat jkj jkk)
theorem jtM (u1:ByteArray) (u0:List (List NC)) (r:Bool) (h:Option.bind (jem u1 u0) some=some r):jbQ Tryz.f17 (sp0) (fun gs id _=>match id with
 |0=>some ⟨Int × Nat,fun z=>⟨[(1,.w (.c (.p 1 0 1 0))),(3,.w (.c (.d (.i .i64 (Prod.fst z)))))],[(1,.box 24 [.d (.s u1),.o 0]),(0,.xext (XC.st [NK.s,NK.i .i64,NK.ints .i64,NK.ints .i64,NK.ints .i64,NK.i .i64,NK.recs (5:Nat),NK.i .i64] u0))],2⟩,fun z=>Option.bind (jad (y26 u0) (Prod.snd z) (Prod.fst z)) (fun y0=>Option.bind (y47 y0) some)=some r,fun z=>Prod.snd z⟩
 |_=>none) (jbA jkj [.d (.s u1),.x (.st [.s,.i .i64,.ints .i64,.ints .i64,.ints .i64,.i .i64,.recs 5,.i .i64] u0)]) [.c (.d (.b r))]:=by
 refine Eq.mp (by kernel_rfl:(
 Br (decide ((↑(ByteArray.size u1):Int)>20))
  ((Ob True ∧
 (Ob (false=r) ∧
 True)))
 (Br (decide ((↑(List.length u0):Int)>8))
 (Br (decide ((↑(List.length u0):Int)≤24))
  ((Ob True ∧
 (Ob (false=r) ∧
 True)))
 (Br (decide ((↑(List.length u0):Int)>26))
  ((Ob True ∧
 (Ob (false=r) ∧
 True)))
  (((∃(v0:Int × Nat),(Ob ((Option.bind (jad (y26 u0) v0.2 v0.1) fun y0=>Option.bind (y47 y0) some)=some r) ∧
 (Ob (0=0) ∧
 (Ob ((0:Int)=v0.1) ∧
 (Ob (u1=u1) ∧
 (Ob (u0=u0) ∧
 True)))))) ∧
  (∀(v0:Int × Nat),((Option.bind (jad (y26 u0) v0.2 v0.1) fun y0=>Option.bind (y47 y0) some)=some r →
 Br (decide (v0.1<(↑(List.length u0):Int)))
  ((Ob (0≤v0.1∧v0.1<(↑(List.length u0):Int)) ∧
 (Ob (Int.toNat v0.1<List.length u0) ∧
 Br (decide ((↑(ByteArray.size (nS u0 (Int.toNat v0.1) (0:Nat))):Int)>20))
  ((Ob True ∧
 (Ob (false=r) ∧
 True)))
 (Br (decide ((↑(List.length (nL u0 (Int.toNat v0.1) (2:Nat))):Int)>8))
  ((Ob True ∧
 (Ob (false=r) ∧
 True)))
 (Br (decide ((↑(List.length (nL u0 (Int.toNat v0.1) (3:Nat))):Int)>8))
  ((Ob True ∧
 (Ob (false=r) ∧
 True)))
 (Br (decide ((↑(List.length (nL u0 (Int.toNat v0.1) (4:Nat))):Int)>8))
  ((Ob True ∧
 (Ob (false=r) ∧
 True)))
 (Br (decide ((↑(List.length (nR u0 (Int.toNat v0.1) (6:Nat))):Int)>8))
  ((Ob True ∧
 (Ob (false=r) ∧
 True)))
  ((∃(v1:Int × Nat),(Ob ((Option.bind (jad (y26 u0) v1.2 v1.1) fun y0=>Option.bind (y47 y0) some)=some r) ∧
 (Ob (v1.2<v0.2) ∧
 (Ob (0=0) ∧
 (Ob (wrap .i64 (v0.1+1)=v1.1) ∧
 (Ob (u1=u1) ∧
 (Ob (u0=u0) ∧
 True)))))))))))))))
  ((Ob True ∧
 (Ob (true=r) ∧
 True)))))))))
 (Br (decide ((↑(List.length u0):Int)>26))
  ((Ob True ∧
 (Ob (false=r) ∧
 True)))
  (((∃(v0:Int × Nat),(Ob ((Option.bind (jad (y26 u0) v0.2 v0.1) fun y0=>Option.bind (y47 y0) some)=some r) ∧
 (Ob (0=0) ∧
 (Ob ((0:Int)=v0.1) ∧
 (Ob (u1=u1) ∧
 (Ob (u0=u0) ∧
 True)))))) ∧
  (∀(v0:Int × Nat),((Option.bind (jad (y26 u0) v0.2 v0.1) fun y0=>Option.bind (y47 y0) some)=some r →
 Br (decide (v0.1<(↑(List.length u0):Int)))
  ((Ob (0≤v0.1∧v0.1<(↑(List.length u0):Int)) ∧
 (Ob (Int.toNat v0.1<List.length u0) ∧
 Br (decide ((↑(ByteArray.size (nS u0 (Int.toNat v0.1) (0:Nat))):Int)>20))
  ((Ob True ∧
 (Ob (false=r) ∧
 True)))
 (Br (decide ((↑(List.length (nL u0 (Int.toNat v0.1) (2:Nat))):Int)>8))
  ((Ob True ∧
 (Ob (false=r) ∧
 True)))
 (Br (decide ((↑(List.length (nL u0 (Int.toNat v0.1) (3:Nat))):Int)>8))
  ((Ob True ∧
 (Ob (false=r) ∧
 True)))
 (Br (decide ((↑(List.length (nL u0 (Int.toNat v0.1) (4:Nat))):Int)>8))
  ((Ob True ∧
 (Ob (false=r) ∧
 True)))
 (Br (decide ((↑(List.length (nR u0 (Int.toNat v0.1) (6:Nat))):Int)>8))
  ((Ob True ∧
 (Ob (false=r) ∧
 True)))
  ((∃(v1:Int × Nat),(Ob ((Option.bind (jad (y26 u0) v1.2 v1.1) fun y0=>Option.bind (y47 y0) some)=some r) ∧
 (Ob (v1.2<v0.2) ∧
 (Ob (0=0) ∧
 (Ob (wrap .i64 (v0.1+1)=v1.1) ∧
 (Ob (u1=u1) ∧
 (Ob (u0=u0) ∧
 True)))))))))))))))
  ((Ob True ∧
 (Ob (true=r) ∧
 True))))))))))=_) ?_
 refine jay h (fun h=>?_) (fun h=>?_)
 ·refine jaf ?_
  exact rcs h
 ·refine jay h (fun h=>?_) (fun h=>?_)
  ·refine jay h (fun h=>?_) (fun h=>?_)
   ·refine jaf ?_
    exact rcs h
   ·refine jay h (fun h=>?_) (fun h=>?_)
    ·refine jaf ?_
     exact rcs h
    ·refine⟨⟨((0:Int),big),⟨jaT h⟩,(by repeat' constructor)⟩,fun z0 hz0=>?_⟩
     obtain⟨k0,hm0,h⟩:=jaD hz0
     refine jay h (fun h=>?_) (fun h=>?_)
     ·refine jaz h fun h=>?_
      refine jaz h fun h=>?_
      refine jay h (fun h=>?_) (fun h=>?_)
      ·have h:=jah h
       refine jaf ?_
       exact rcs h
      ·refine jay h (fun h=>?_) (fun h=>?_)
       ·have h:=jah h
        refine jaf ?_
        exact rcs h
       ·refine jay h (fun h=>?_) (fun h=>?_)
        ·have h:=jah h
         refine jaf ?_
         exact rcs h
        ·refine jay h (fun h=>?_) (fun h=>?_)
         ·have h:=jah h
          refine jaf ?_
          exact rcs h
         ·refine jay h (fun h=>?_) (fun h=>?_)
          ·have h:=jah h
           refine jaf ?_
           exact rcs h
          ·exact⟨(_,k0),⟨jav h⟩,⟨jaC hm0.symm⟩,(by repeat' constructor)⟩
     ·have h:=jah h
      refine jaf ?_
      exact rcs h
  ·refine jay h (fun h=>?_) (fun h=>?_)
   ·refine jaf ?_
    exact rcs h
   ·refine⟨⟨((0:Int),big),⟨jaT h⟩,(by repeat' constructor)⟩,fun z1 hz1=>?_⟩
    obtain⟨k1,hm1,h⟩:=jaD hz1
    refine jay h (fun h=>?_) (fun h=>?_)
    ·refine jaz h fun h=>?_
     refine jaz h fun h=>?_
     refine jay h (fun h=>?_) (fun h=>?_)
     ·have h:=jah h
      refine jaf ?_
      exact rcs h
     ·refine jay h (fun h=>?_) (fun h=>?_)
      ·have h:=jah h
       refine jaf ?_
       exact rcs h
      ·refine jay h (fun h=>?_) (fun h=>?_)
       ·have h:=jah h
        refine jaf ?_
        exact rcs h
       ·refine jay h (fun h=>?_) (fun h=>?_)
        ·have h:=jah h
         refine jaf ?_
         exact rcs h
        ·refine jay h (fun h=>?_) (fun h=>?_)
         ·have h:=jah h
          refine jaf ?_
          exact rcs h
         ·exact⟨(_,k1),⟨jav h⟩,⟨jaC hm1.symm⟩,(by repeat' constructor)⟩
    ·have h:=jah h
     refine jaf ?_
     exact rcs h
theorem jtN:jaj Tryz.prog 17 true (jat jkj jkk):=by
 refine jaS (sp:=sp0) (fn:=Tryz.f17) (body:=bodyOf Tryz.f17) mixed jaB Tryz.func17 (by kernel_rfl) (by kernel_rfl) fun ls t h ho b hb=>?_
 unfold jkk at h
 split at h
 ·rename_i u1 u0
  cases h
  obtain rfl:=ja9 hb
  exact⟨Nat.le_of_ble_eq_true (by kernel_rfl),_,_,jtM u1 u0 _ (jax ho)⟩
 ·cases h
theorem sp_17_ok {sp:jab} (h:jac Tryz.prog sp):jac Tryz.prog (sp_17 sp):=jaA jtN h
def jm8:List (Option Cont):=[none]
def y88 (s:ByteArray) (x0:Int):Option (Int ⊕ (Unit ⊕ Unit)) :=
 if x0<(↑(ByteArray.size s):Int)then
  if 0≤x0∧x0<(↑(ByteArray.size s):Int)then
  if(↑(UInt8.toNat (Array.getD (ByteArray.data s) (Int.toNat x0) (0:UInt8))):Int)≥97 then
   if(↑(UInt8.toNat (Array.getD (ByteArray.data s) (Int.toNat x0) (0:UInt8))):Int)≤122 then
   some (.inl (wrap .i64 (x0+1)))
   else
   if(↑(UInt8.toNat (Array.getD (ByteArray.data s) (Int.toNat x0) (0:UInt8))):Int)≥65 then
    if(!decide ((↑(UInt8.toNat (Array.getD (ByteArray.data s) (Int.toNat x0) (0:UInt8))):Int)≤90))=true then
    if(x0==0)=true then
     some (.inr ((.inl ())))
    else
     if((↑(UInt8.toNat (Array.getD (ByteArray.data s) (Int.toNat x0) (0:UInt8))):Int)!=45)=true then
     if(↑(UInt8.toNat (Array.getD (ByteArray.data s) (Int.toNat x0) (0:UInt8))):Int)<48 then
      some (.inr ((.inl ())))
     else
      if(↑(UInt8.toNat (Array.getD (ByteArray.data s) (Int.toNat x0) (0:UInt8))):Int)>57 then
      some (.inr ((.inl ())))
      else
      some (.inl (wrap .i64 (x0+1)))
     else
     some (.inl (wrap .i64 (x0+1)))
    else
    some (.inl (wrap .i64 (x0+1)))
   else
    if(x0==0)=true then
    some (.inr ((.inl ())))
    else
    if((↑(UInt8.toNat (Array.getD (ByteArray.data s) (Int.toNat x0) (0:UInt8))):Int)!=45)=true then
     if(↑(UInt8.toNat (Array.getD (ByteArray.data s) (Int.toNat x0) (0:UInt8))):Int)<48 then
     some (.inr ((.inl ())))
     else
     if(↑(UInt8.toNat (Array.getD (ByteArray.data s) (Int.toNat x0) (0:UInt8))):Int)>57 then
      some (.inr ((.inl ())))
     else
      some (.inl (wrap .i64 (x0+1)))
    else
     some (.inl (wrap .i64 (x0+1)))
  else
   if(↑(UInt8.toNat (Array.getD (ByteArray.data s) (Int.toNat x0) (0:UInt8))):Int)≥65 then
   if(!decide ((↑(UInt8.toNat (Array.getD (ByteArray.data s) (Int.toNat x0) (0:UInt8))):Int)≤90))=true then
    if(x0==0)=true then
    some (.inr ((.inl ())))
    else
    if((↑(UInt8.toNat (Array.getD (ByteArray.data s) (Int.toNat x0) (0:UInt8))):Int)!=45)=true then
     if(↑(UInt8.toNat (Array.getD (ByteArray.data s) (Int.toNat x0) (0:UInt8))):Int)<48 then
     some (.inr ((.inl ())))
     else
     if(↑(UInt8.toNat (Array.getD (ByteArray.data s) (Int.toNat x0) (0:UInt8))):Int)>57 then
      some (.inr ((.inl ())))
     else
      some (.inl (wrap .i64 (x0+1)))
    else
     some (.inl (wrap .i64 (x0+1)))
   else
    some (.inl (wrap .i64 (x0+1)))
   else
   if(x0==0)=true then
    some (.inr ((.inl ())))
   else
    if((↑(UInt8.toNat (Array.getD (ByteArray.data s) (Int.toNat x0) (0:UInt8))):Int)!=45)=true then
    if(↑(UInt8.toNat (Array.getD (ByteArray.data s) (Int.toNat x0) (0:UInt8))):Int)<48 then
     some (.inr ((.inl ())))
    else
     if(↑(UInt8.toNat (Array.getD (ByteArray.data s) (Int.toNat x0) (0:UInt8))):Int)>57 then
     some (.inr ((.inl ())))
     else
     some (.inl (wrap .i64 (x0+1)))
    else
    some (.inl (wrap .i64 (x0+1)))
  else none
 else
  some (.inr ((.inr ())))
def jo5 (u3:Unit):Option Bool :=
 some false
def jo6 (u4:Unit):Option Bool :=
 some true
def y16:(Unit ⊕ Unit)→Option Bool :=
 (Sum.elim (jo5) (jo6))
def y55 (s:ByteArray):Option Bool :=
 if(↑(ByteArray.size s):Int)<1 then
  some false
 else
  if(↑(ByteArray.size s):Int)>12 then
  some false
  else
  Option.bind (jad (y88 s) big (0:Int)) (y16)
def jiZ:List A→Option (Prop × List RV)
 |[.d (.s s)]=>some (ok (y55 s),[.d (.b ((val (y55 s))))])
 |_=>none
abbrev sp_81:jab→jab:=jaX 81 true (jaP jm8 jiZ)
abbrev jco (s:ByteArray) (v0:Int × Nat):=(↑(UInt8.toNat (Array.getD (ByteArray.data s) (Int.toNat v0.1) (0:UInt8))):Int)
abbrev jeE (v0 v1:Int × Nat):=(wrap .i64 (v0.1+1)=v1.1)
private abbrev qb0 (s:ByteArray) (v1:Int × Nat):=(jad (y88 s) v1.2 v1.1)
theorem jr8 (s:ByteArray) (r:Bool) (h:Option.bind (y55 s) some=some r):jct Tryz.f81 (sp0) (fun gs id _=>match id with
 |0=>some ⟨Int × Nat,fun z=>⟨[(0,.w (.c (.d (.s s)))),(3,.w (.c (.d (.i .i64 (Prod.fst z)))))],[],1⟩,fun z=>Option.bind (jad (y88 s) (Prod.snd z) (Prod.fst z)) (fun y0=>Option.bind (y16 y0) some)=some r,fun z=>Prod.snd z⟩
 |_=>none) [.d (.s s)] [.d (.b r)]:=by
 refine Eq.mp (by kernel_rfl:(
 Br (decide ((↑(ByteArray.size s):Int)<1))
  ((Ob True ∧
 (Ob (false=r) ∧
 True)))
 (Br (decide ((↑(ByteArray.size s):Int)>12))
  ((Ob True ∧
 (Ob (false=r) ∧
 True)))
  (((∃(v0:Int × Nat),(Ob ((Option.bind (jad (y88 s) v0.2 v0.1) fun y0=>Option.bind (y16 y0) some)=some r) ∧
 (Ob (s=s) ∧
 (Ob ((0:Int)=v0.1) ∧
 True)))) ∧
  (∀(v0:Int × Nat),((Option.bind (jad (y88 s) v0.2 v0.1) fun y0=>Option.bind (y16 y0) some)=some r →
 Br (decide (v0.1<(↑(ByteArray.size s):Int)))
  ((Ob (0≤v0.1∧v0.1<(↑(ByteArray.size s):Int)) ∧
 Br (decide ((jco s v0)≥97))
 (Br (decide ((jco s v0)≤122))
  ((∃(v1:Int × Nat),(Ob ((Option.bind (qb0 s v1) fun y0=>Option.bind (y16 y0) some)=some r) ∧
 (Ob (v1.2<v0.2) ∧
 (Ob (s=s) ∧
 (Ob (jeE v0 v1) ∧
 True))))))
 (Br (decide ((jco s v0)≥65))
 (Br (!decide ((jco s v0)≤90))
 (Br (v0.1==0)
  ((Ob True ∧
 (Ob (false=r) ∧
 True)))
 (Br ((jco s v0)!=45)
 (Br (decide ((jco s v0)<48))
  ((Ob True ∧
 (Ob (false=r) ∧
 True)))
 (Br (decide ((jco s v0)>57))
  ((Ob True ∧
 (Ob (false=r) ∧
 True)))
  ((∃(v1:Int × Nat),(Ob ((Option.bind (qb0 s v1) fun y0=>Option.bind (y16 y0) some)=some r) ∧
 (Ob (v1.2<v0.2) ∧
 (Ob (s=s) ∧
 (Ob (jeE v0 v1) ∧
 True))))))))
  ((∃(v1:Int × Nat),(Ob ((Option.bind (qb0 s v1) fun y0=>Option.bind (y16 y0) some)=some r) ∧
 (Ob (v1.2<v0.2) ∧
 (Ob (s=s) ∧
 (Ob (jeE v0 v1) ∧
 True))))))))
  ((∃(v1:Int × Nat),(Ob ((Option.bind (qb0 s v1) fun y0=>Option.bind (y16 y0) some)=some r) ∧
 (Ob (v1.2<v0.2) ∧
 (Ob (s=s) ∧
 (Ob (jeE v0 v1) ∧
 True)))))))
 (Br (v0.1==0)
  ((Ob True ∧
 (Ob (false=r) ∧
 True)))
 (Br ((jco s v0)!=45)
 (Br (decide ((jco s v0)<48))
  ((Ob True ∧
 (Ob (false=r) ∧
 True)))
 (Br (decide ((jco s v0)>57))
  ((Ob True ∧
 (Ob (false=r) ∧
 True)))
  ((∃(v1:Int × Nat),(Ob ((Option.bind (qb0 s v1) fun y0=>Option.bind (y16 y0) some)=some r) ∧
 (Ob (v1.2<v0.2) ∧
 (Ob (s=s) ∧
 (Ob (jeE v0 v1) ∧
 True))))))))
  ((∃(v1:Int × Nat),(Ob ((Option.bind (qb0 s v1) fun y0=>Option.bind (y16 y0) some)=some r) ∧
 (Ob (v1.2<v0.2) ∧
 (Ob (s=s) ∧
 (Ob (jeE v0 v1) ∧
 True))))))))))
 (Br (decide ((jco s v0)≥65))
 (Br (!decide ((jco s v0)≤90))
 (Br (v0.1==0)
  ((Ob True ∧
 (Ob (false=r) ∧
 True)))
 (Br ((jco s v0)!=45)
 (Br (decide ((jco s v0)<48))
  ((Ob True ∧
 (Ob (false=r) ∧
 True)))
 (Br (decide ((jco s v0)>57))
  ((Ob True ∧
 (Ob (false=r) ∧
 True)))
  ((∃(v1:Int × Nat),(Ob ((Option.bind (qb0 s v1) fun y0=>Option.bind (y16 y0) some)=some r) ∧
 (Ob (v1.2<v0.2) ∧
 (Ob (s=s) ∧
 (Ob (jeE v0 v1) ∧
 True))))))))
  ((∃(v1:Int × Nat),(Ob ((Option.bind (qb0 s v1) fun y0=>Option.bind (y16 y0) some)=some r) ∧
 (Ob (v1.2<v0.2) ∧
 (Ob (s=s) ∧
 (Ob (jeE v0 v1) ∧
 True))))))))
  ((∃(v1:Int × Nat),(Ob ((Option.bind (qb0 s v1) fun y0=>Option.bind (y16 y0) some)=some r) ∧
 (Ob (v1.2<v0.2) ∧
 (Ob (s=s) ∧
 (Ob (jeE v0 v1) ∧
 True)))))))
 (Br (v0.1==0)
  ((Ob True ∧
 (Ob (false=r) ∧
 True)))
 (Br ((jco s v0)!=45)
 (Br (decide ((jco s v0)<48))
  ((Ob True ∧
 (Ob (false=r) ∧
 True)))
 (Br (decide ((jco s v0)>57))
  ((Ob True ∧
 (Ob (false=r) ∧
 True)))
  ((∃(v1:Int × Nat),(Ob ((Option.bind (qb0 s v1) fun y0=>Option.bind (y16 y0) some)=some r) ∧
 (Ob (v1.2<v0.2) ∧
 (Ob (s=s) ∧
 (Ob (jeE v0 v1) ∧
 True))))))))
  ((∃(v1:Int × Nat),(Ob ((Option.bind (qb0 s v1) fun y0=>Option.bind (y16 y0) some)=some r) ∧
 (Ob (v1.2<v0.2) ∧
 (Ob (s=s) ∧
 (Ob (jeE v0 v1) ∧
 True)))))))))))
  ((Ob True ∧
 (Ob (true=r) ∧
 True)))))))))=_) ?_
 refine jay h (fun h=>?_) (fun h=>?_)
 ·refine jaf ?_
  exact rcs h
 ·refine jay h (fun h=>?_) (fun h=>?_)
  ·refine jaf ?_
   exact rcs h
  ·refine⟨⟨((0:Int),big),⟨jaT h⟩,(by repeat' constructor)⟩,fun z0 hz0=>?_⟩
   obtain⟨k0,hm0,h⟩:=jaD hz0
   refine jay h (fun h=>?_) (fun h=>?_)
   ·refine jaz h fun h=>?_
    refine jay h (fun h=>?_) (fun h=>?_)
    ·refine jay h (fun h=>?_) (fun h=>?_)
     ·exact⟨(_,k0),⟨jav h⟩,⟨jaC hm0.symm⟩,(by repeat' constructor)⟩
     ·refine jay h (fun h=>?_) (fun h=>?_)
      ·refine jaw h (fun h=>?_) (fun h=>?_)
       ·refine jaw h (fun h=>?_) (fun h=>?_)
        ·have h:=jah h
         refine jaf ?_
         exact rcs h
        ·refine jaw h (fun h=>?_) (fun h=>?_)
         ·refine jay h (fun h=>?_) (fun h=>?_)
          ·have h:=jah h
           refine jaf ?_
           exact rcs h
          ·refine jay h (fun h=>?_) (fun h=>?_)
           ·have h:=jah h
            refine jaf ?_
            exact rcs h
           ·exact⟨(_,k0),⟨jav h⟩,⟨jaC hm0.symm⟩,(by repeat' constructor)⟩
         ·exact⟨(_,k0),⟨jav h⟩,⟨jaC hm0.symm⟩,(by repeat' constructor)⟩
       ·exact⟨(_,k0),⟨jav h⟩,⟨jaC hm0.symm⟩,(by repeat' constructor)⟩
      ·refine jaw h (fun h=>?_) (fun h=>?_)
       ·have h:=jah h
        refine jaf ?_
        exact rcs h
       ·refine jaw h (fun h=>?_) (fun h=>?_)
        ·refine jay h (fun h=>?_) (fun h=>?_)
         ·have h:=jah h
          refine jaf ?_
          exact rcs h
         ·refine jay h (fun h=>?_) (fun h=>?_)
          ·have h:=jah h
           refine jaf ?_
           exact rcs h
          ·exact⟨(_,k0),⟨jav h⟩,⟨jaC hm0.symm⟩,(by repeat' constructor)⟩
        ·exact⟨(_,k0),⟨jav h⟩,⟨jaC hm0.symm⟩,(by repeat' constructor)⟩
    ·refine jay h (fun h=>?_) (fun h=>?_)
     ·refine jaw h (fun h=>?_) (fun h=>?_)
      ·refine jaw h (fun h=>?_) (fun h=>?_)
       ·have h:=jah h
        refine jaf ?_
        exact rcs h
       ·refine jaw h (fun h=>?_) (fun h=>?_)
        ·refine jay h (fun h=>?_) (fun h=>?_)
         ·have h:=jah h
          refine jaf ?_
          exact rcs h
         ·refine jay h (fun h=>?_) (fun h=>?_)
          ·have h:=jah h
           refine jaf ?_
           exact rcs h
          ·exact⟨(_,k0),⟨jav h⟩,⟨jaC hm0.symm⟩,(by repeat' constructor)⟩
        ·exact⟨(_,k0),⟨jav h⟩,⟨jaC hm0.symm⟩,(by repeat' constructor)⟩
      ·exact⟨(_,k0),⟨jav h⟩,⟨jaC hm0.symm⟩,(by repeat' constructor)⟩
     ·refine jaw h (fun h=>?_) (fun h=>?_)
      ·have h:=jah h
       refine jaf ?_
       exact rcs h
      ·refine jaw h (fun h=>?_) (fun h=>?_)
       ·refine jay h (fun h=>?_) (fun h=>?_)
        ·have h:=jah h
         refine jaf ?_
         exact rcs h
        ·refine jay h (fun h=>?_) (fun h=>?_)
         ·have h:=jah h
          refine jaf ?_
          exact rcs h
         ·exact⟨(_,k0),⟨jav h⟩,⟨jaC hm0.symm⟩,(by repeat' constructor)⟩
       ·exact⟨(_,k0),⟨jav h⟩,⟨jaC hm0.symm⟩,(by repeat' constructor)⟩
   ·have h:=jah h
    refine jaf ?_
    exact rcs h
theorem jr9:jaj Tryz.prog 81 true (jaP jm8 jiZ):=by
 refine ja1 (sp:=sp0) (fn:=Tryz.f81) (body:=bodyOf Tryz.f81) mixed jaB Tryz.func81 (by kernel_rfl) (by kernel_rfl) fun as_ ob rs h ho=>?_
 unfold jiZ at h
 split at h
 ·rename_i s
  cases h
  exact⟨Nat.le_of_ble_eq_true rfl,_,_,jr8 s _ (jax ho)⟩
 ·cases h
theorem sp_81_ok {sp:jab} (h:jac Tryz.prog sp):jac Tryz.prog (sp_81 sp):=jaA jr9 h
def y122:List (Option Cont):=[none]
def y13 (sB0 sB1 sB2 sA0 sA1 x0:Int):Option (Int ⊕ (Unit ⊕ Unit)) :=
 if x0<(↑(List.length [sB0,sB1,sB2,sA0,sA1]):Int)then
  if 0≤x0∧x0<(↑(List.length [sB0,sB1,sB2,sA0,sA1]):Int)then
  if Int.toNat x0<List.length [sB0,sB1,sB2,sA0,sA1]then
   Option.bind (y4 (List.getD [sB0,sB1,sB2,sA0,sA1] (Int.toNat x0) (0:Int)) (-32768:Int) (32768:Int)) fun r0 =>
   if(!r0)=true then
   some (.inr ((.inl ())))
   else
   some (.inl (wrap .i64 (x0+1)))
  else none
  else none
 else
  some (.inr ((.inr ())))
def jh3 (u3:Unit):Option Int :=
 some (2:Int)
def jh4 (u4:Unit):Option Int :=
 some (0:Int)
def y52:(Unit ⊕ Unit)→Option Int :=
 (Sum.elim (jh3) (jh4))
def y41 (sB0 sB1 sB2 sA0 sA1:Int):Option Int :=
 Option.bind (jad (y13 sB0 sB1 sB2 sA0 sA1) big (0:Int)) (y52)
def y96:List A→Option (Prop × List RV)
 |[.s [.i .i64 sB0,.i .i64 sB1,.i .i64 sB2,.i .i64 sA0,.i .i64 sA1]]=>some (ok (y41 sB0 sB1 sB2 sA0 sA1),[.d (.i .i64 ((val (y41 sB0 sB1 sB2 sA0 sA1))))])
 |_=>none
abbrev sp_162:jab→jab:=jaX 162 true (jaP y122 y96)
theorem jjn (sB0 sB1 sB2 sA0 sA1 r:Int) (h:Option.bind (y41 sB0 sB1 sB2 sA0 sA1) some=some r):jct Tryz.f162 ((sp_45 sp0)) (fun gs id _=>match id with
 |0=>some ⟨Int × Nat,fun z=>⟨[(3,.w (.c (.o 1))),(4,.w (.c (.d (.i .i64 (Prod.fst z)))))],[(1,.row 3 (.ints .i64 ([sB0,sB1,sB2,sA0,sA1])))],2⟩,fun z=>Option.bind (jad (y13 sB0 sB1 sB2 sA0 sA1) (Prod.snd z) (Prod.fst z)) (fun y0=>Option.bind (y52 y0) some)=some r,fun z=>Prod.snd z⟩
 |_=>none) [.s [.i .i64 sB0,.i .i64 sB1,.i .i64 sB2,.i .i64 sA0,.i .i64 sA1]] [.d (.i .i64 r)]:=by
 refine Eq.mp (by kernel_rfl:(
 (Ob ((0:Int)≤0∧0<(↑(3:Nat):Int)) ∧
 (Ob ((0:Int)≤1∧1<(↑(3:Nat):Int)) ∧
 (Ob ((0:Int)≤2∧2<(↑(3:Nat):Int)) ∧
 (Ob ((0:Int)≤0∧0<(↑(2:Nat):Int)) ∧
 (Ob ((0:Int)≤1∧1<(↑(2:Nat):Int)) ∧
  ((∃(v0:Int × Nat),(Ob ((Option.bind (jad (y13 sB0 sB1 sB2 sA0 sA1) v0.2 v0.1) fun y0=>Option.bind (y52 y0) some)=some r) ∧
 (Ob ((0:Int)=v0.1) ∧
 (Ob ([sB0,sB1,sB2,sA0,sA1]=[sB0,sB1,sB2,sA0,sA1]) ∧
 True)))) ∧
  (∀(v0:Int × Nat),((Option.bind (jad (y13 sB0 sB1 sB2 sA0 sA1) v0.2 v0.1) fun y0=>Option.bind (y52 y0) some)=some r →
 Br (decide (v0.1<(↑(List.length [sB0,sB1,sB2,sA0,sA1]):Int)))
  ((Ob (0≤v0.1∧v0.1<(↑(List.length [sB0,sB1,sB2,sA0,sA1]):Int)) ∧
 (Ob (Int.toNat v0.1<List.length [sB0,sB1,sB2,sA0,sA1]) ∧
 (Ob (ok (y4 (List.getD [sB0,sB1,sB2,sA0,sA1] (Int.toNat v0.1) (0:Int)) (-32768:Int) (32768:Int))) ∧
 Br (!val (y4 (List.getD [sB0,sB1,sB2,sA0,sA1] (Int.toNat v0.1) (0:Int)) (-32768:Int) (32768:Int)))
  ((Ob True ∧
 (Ob ((2:Int)=r) ∧
 True)))
  ((∃(v1:Int × Nat),(Ob ((Option.bind (jad (y13 sB0 sB1 sB2 sA0 sA1) v1.2 v1.1) fun y0=>Option.bind (y52 y0) some)=some r) ∧
 (Ob (v1.2<v0.2) ∧
 (Ob (wrap .i64 (v0.1+1)=v1.1) ∧
 (Ob ([sB0,sB1,sB2,sA0,sA1]=[sB0,sB1,sB2,sA0,sA1]) ∧
 True))))))))))
  ((Ob True ∧
 (Ob ((0:Int)=r) ∧
 True))))))))))))=_) ?_
 refine jqt (p:=(0:Int)≤0∧0<(↑(3:Nat):Int)) (by decide) ?_
 refine jqt (p:=(0:Int)≤1∧1<(↑(3:Nat):Int)) (by decide) ?_
 refine jqt (p:=(0:Int)≤2∧2<(↑(3:Nat):Int)) (by decide) ?_
 refine jqt (p:=(0:Int)≤0∧0<(↑(2:Nat):Int)) (by decide) ?_
 refine jqt (p:=(0:Int)≤1∧1<(↑(2:Nat):Int)) (by decide) ?_
 refine⟨⟨((0:Int),big),⟨jaT h⟩,(by repeat' constructor)⟩,fun z1 hz1=>?_⟩
 obtain⟨k1,hm1,h⟩:=jaD hz1
 refine jay h (fun h=>?_) (fun h=>?_)
 ·refine jaz h fun h=>?_
  refine jaz h fun h=>?_
  refine jaE h fun h=>?_
  refine jaw h (fun h=>?_) (fun h=>?_)
  ·have h:=jah h
   refine jaf ?_
   exact rcs h
  ·exact⟨(_,k1),⟨jav h⟩,⟨jaC hm1.symm⟩,(by repeat' constructor)⟩
 ·have h:=jah h
  refine jaf ?_
  exact rcs h
theorem jjo:jaj Tryz.prog 162 true (jaP y122 y96):=by
 refine ja1 (sp:=(sp_45 sp0)) (fn:=Tryz.f162) (body:=bodyOf Tryz.f162) mixed (sp_45_ok jaB) Tryz.func162 (by kernel_rfl) (by kernel_rfl) fun as_ ob rs h ho=>?_
 unfold y96 at h
 split at h
 ·rename_i sB0 sB1 sB2 sA0 sA1
  cases h
  exact⟨Nat.le_of_ble_eq_true rfl,_,_,jjn sB0 sB1 sB2 sA0 sA1 _ (jax ho)⟩
 ·cases h
theorem sp_162_ok {sp:jab} (h:jac Tryz.prog sp):jac Tryz.prog (sp_162 sp):=jaA jjo h
def y123:List (Option Cont):=[some (.recs 5 [])]
def y14 (c:List (List Int)) (x0:Int):Option (Int ⊕ ((Int × Int) ⊕ Unit)) :=
 if x0<(↑(List.length c):Int)then
  if 0≤x0∧x0<(↑(List.length c):Int)then
  if Int.toNat x0<List.length c then
   Option.bind (y41 (List.getD (List.getD c (Int.toNat x0) []) 0 (0:Int)) (List.getD (List.getD c (Int.toNat x0) []) 1 (0:Int)) (List.getD (List.getD c (Int.toNat x0) []) 2 (0:Int)) (List.getD (List.getD c (Int.toNat x0) []) 3 (0:Int)) (List.getD (List.getD c (Int.toNat x0) []) 4 (0:Int))) fun r0 =>
   if(r0 != 0)=true then
   some (.inr ((.inl (x0,r0))))
   else
   some (.inl (wrap .i64 (x0+1)))
  else none
  else none
 else
  some (.inr ((.inr ())))
def jh5 (u3:Int × Int):Option (Int × Int) :=
 some (u3.1,u3.2)
def jh6 (u4:Unit):Option (Int × Int) :=
 some (((0:Int),0))
def y53:((Int × Int) ⊕ Unit)→Option (Int × Int) :=
 (Sum.elim (jh5) (jh6))
def y27 (c:List (List Int)):Option (Int × Int) :=
 if(↑(List.length c):Int)>6 then
  some (((0:Int),8))
 else
  Option.bind (jad (y14 c) big (0:Int)) (y53)
def y97:List A→Option (Prop × List RV)
 |[.r (.recs 5 c)]=>some (ok (y27 c),[.d (.i .i64 ((val (y27 c)).1)),.d (.i .i64 ((val (y27 c)).2))])
 |_=>none
abbrev sp_131:jab→jab:=jaX 131 true (jaP y123 y97)
abbrev jtO (c:List (List Int)) (v0:Int × Nat):=(y41 (List.getD (List.getD c (Int.toNat v0.1) []) 0 (0:Int)) (List.getD (List.getD c (Int.toNat v0.1) []) 1 (0:Int)) (List.getD (List.getD c (Int.toNat v0.1) []) 2 (0:Int)) (List.getD (List.getD c (Int.toNat v0.1) []) 3 (0:Int)) (List.getD (List.getD c (Int.toNat v0.1) []) 4 (0:Int)))
theorem jjp (c:List (List Int)) (r:Int × Int) (h:Option.bind (y27 c) some=some r):jct Tryz.f131 ((sp_162 sp0)) (fun gs id _=>match id with
 |0=>some ⟨Int × Nat,fun z=>⟨[(0,.w (.c (.o 0))),(4,.w (.c (.d (.i .i64 (Prod.fst z)))))],[(0,.ext (.recs 5 c))],1⟩,fun z=>Option.bind (jad (y14 c) (Prod.snd z) (Prod.fst z)) (fun y0=>Option.bind (y53 y0) some)=some r,fun z=>Prod.snd z⟩
 |_=>none) [.r (.recs 5 c)] [.d (.i .i64 r.1),.d (.i .i64 r.2)]:=by
 refine Eq.mp (by kernel_rfl:(
 Br (decide ((↑(List.length c):Int)>6))
  ((Ob True ∧
 (Ob True ∧
 (Ob ((0:Int)=r.1) ∧
 (Ob ((8:Int)=r.2) ∧
 True)))))
  (((∃(v0:Int × Nat),(Ob ((Option.bind (jad (y14 c) v0.2 v0.1) fun y0=>Option.bind (y53 y0) some)=some r) ∧
 (Ob ((0:Int)=v0.1) ∧
 (Ob (c=c) ∧
 True)))) ∧
  (∀(v0:Int × Nat),((Option.bind (jad (y14 c) v0.2 v0.1) fun y0=>Option.bind (y53 y0) some)=some r →
 Br (decide (v0.1<(↑(List.length c):Int)))
  ((Ob (0≤v0.1∧v0.1<(↑(List.length c):Int)) ∧
 (Ob (Int.toNat v0.1<List.length c) ∧
 (Ob (ok (jtO c v0)) ∧
 Br (val (jtO c v0)!=0)
  ((Ob True ∧
 (Ob True ∧
 (Ob (v0.1=r.1) ∧
 (Ob (val (jtO c v0)=r.2) ∧
 True)))))
  ((∃(v1:Int × Nat),(Ob ((Option.bind (jad (y14 c) v1.2 v1.1) fun y0=>Option.bind (y53 y0) some)=some r) ∧
 (Ob (v1.2<v0.2) ∧
 (Ob (wrap .i64 (v0.1+1)=v1.1) ∧
 (Ob (c=c) ∧
 True))))))))))
  ((Ob True ∧
 (Ob True ∧
 (Ob ((0:Int)=r.1) ∧
 (Ob ((0:Int)=r.2) ∧
 True))))))))))=_) ?_
 refine jay h (fun h=>?_) (fun h=>?_)
 ·refine jaf ?_
  refine jaf ?_
  exact rcs h
 ·refine⟨⟨((0:Int),big),⟨jaT h⟩,(by repeat' constructor)⟩,fun z1 hz1=>?_⟩
  obtain⟨k1,hm1,h⟩:=jaD hz1
  refine jay h (fun h=>?_) (fun h=>?_)
  ·refine jaz h fun h=>?_
   refine jaz h fun h=>?_
   refine jaE h fun h=>?_
   refine jaw h (fun h=>?_) (fun h=>?_)
   ·have h:=jah h
    refine jaf ?_
    refine jaf ?_
    exact rcs h
   ·exact⟨(_,k1),⟨jav h⟩,⟨jaC hm1.symm⟩,(by repeat' constructor)⟩
  ·have h:=jah h
   refine jaf ?_
   refine jaf ?_
   exact rcs h
theorem jjq:jaj Tryz.prog 131 true (jaP y123 y97):=by
 refine ja1 (sp:=(sp_162 sp0)) (fn:=Tryz.f131) (body:=bodyOf Tryz.f131) mixed (sp_162_ok jaB) Tryz.func131 (by kernel_rfl) (by kernel_rfl) fun as_ ob rs h ho=>?_
 unfold y97 at h
 split at h
 ·rename_i c
  cases h
  exact⟨Nat.le_of_ble_eq_true rfl,_,_,jjp c _ (jax ho)⟩
 ·cases h
theorem sp_131_ok {sp:jab} (h:jac Tryz.prog sp):jac Tryz.prog (sp_131 sp):=jaA jjq h
def jfW:List SV:=[.a [.d,.x (.st [.s,.i .i64,.ints .i64,.ints .i64,.ints .i64,.i .i64,.recs 5,.i .i64] [])],.c (.d)]
def y34 (u0:List (List NC)) (i x0:Int):Option (Int ⊕ (Unit ⊕ Unit)) :=
 if x0<i then
  if 0≤x0∧x0<(↑(List.length u0):Int)then
  if Int.toNat x0<List.length u0 then
   if(nS u0 (Int.toNat x0) (0:Nat)==nS u0 (Int.toNat i) (0:Nat))=true then
   some (.inr ((.inl ())))
   else
   some (.inl (wrap .i64 (x0+1)))
  else none
  else none
 else
  some (.inr ((.inr ())))
def jl6 (u0:List (List NC)) (i:Int) (u3:Unit):Option Int :=
 some (5:Int)
def y11 (u0:List (List NC)) (i x1:Int):Option (Int ⊕ (Unit ⊕ Unit)) :=
 if x1<(↑(List.length (nL u0 (Int.toNat i) (2:Nat))):Int)then
  if 0≤x1∧x1<(↑(List.length (nL u0 (Int.toNat i) (2:Nat))):Int)then
  if Int.toNat x1<List.length (nL u0 (Int.toNat i) (2:Nat))then
   Option.bind (y4 (List.getD (nL u0 (Int.toNat i) (2:Nat)) (Int.toNat x1) (0:Int)) (0:Int) (wrap .i64 ((↑(List.length u0):Int)-1))) fun r3 =>
   if(!r3)=true then
   some (.inr ((.inl ())))
   else
   some (.inl (wrap .i64 (x1+1)))
  else none
  else none
 else
  some (.inr ((.inr ())))
def jl7 (u0:List (List NC)) (i:Int) (u26:Unit):Option Int :=
 some (6:Int)
def y42 (u0:List (List NC)) (i x2:Int):Option (Int ⊕ (Unit ⊕ Unit)) :=
 if x2<(↑(List.length (nL u0 (Int.toNat i) (2:Nat))):Int)then
  if 0≤Option.getD none (0:Int)∧Option.getD none 0≤Option.getD (some x2) (↑(List.length (nL u0 (Int.toNat i) (2:Nat))):Int)∧Option.getD (some x2) (↑(List.length (nL u0 (Int.toNat i) (2:Nat))):Int)≤(↑(List.length (nL u0 (Int.toNat i) (2:Nat))):Int)then
  if 0≤x2∧x2<(↑(List.length (nL u0 (Int.toNat i) (2:Nat))):Int)then
   if Int.toNat x2<List.length (nL u0 (Int.toNat i) (2:Nat))then
   Option.bind (jcZ (List.take (Int.toNat (Option.getD (some x2) (↑(List.length (nL u0 (Int.toNat i) (2:Nat))):Int))-0) (List.drop (0:Nat) (nL u0 (Int.toNat i) (2:Nat)))) (List.getD (nL u0 (Int.toNat i) (2:Nat)) (Int.toNat x2) (0:Int))) fun r5 =>
   if(r5)=true then
    some (.inr ((.inl ())))
   else
    some (.inl (wrap .i64 (x2+1)))
   else none
  else none
  else none
 else
  some (.inr ((.inr ())))
def jl8 (u0:List (List NC)) (i:Int) (u62:Unit):Option Int :=
 some (26:Int)
def y43 (u0:List (List NC)) (i x3:Int):Option (Int ⊕ (Unit ⊕ Unit)) :=
 if x3<(↑(List.length (nL u0 (Int.toNat i) (3:Nat))):Int)then
  if 0≤x3∧x3<(↑(List.length (nL u0 (Int.toNat i) (3:Nat))):Int)then
  if Int.toNat x3<List.length (nL u0 (Int.toNat i) (3:Nat))then
   Option.bind (y4 (List.getD (nL u0 (Int.toNat i) (3:Nat)) (Int.toNat x3) (0:Int)) (0:Int) (64:Int)) fun r6 =>
   if(!r6)=true then
   some (.inr ((.inl ())))
   else
   some (.inl (wrap .i64 (x3+1)))
  else none
  else none
 else
  some (.inr ((.inr ())))
def jl9 (u0:List (List NC)) (i:Int) (u63:Unit):Option Int :=
 some (2:Int)
def y44 (u0:List (List NC)) (i x4:Int):Option (Int ⊕ (Unit ⊕ Unit)) :=
 if x4<(↑(List.length (nL u0 (Int.toNat i) (4:Nat))):Int)then
  if 0≤x4∧x4<(↑(List.length (nL u0 (Int.toNat i) (4:Nat))):Int)then
  if Int.toNat x4<List.length (nL u0 (Int.toNat i) (4:Nat))then
   Option.bind (y4 (List.getD (nL u0 (Int.toNat i) (4:Nat)) (Int.toNat x4) (0:Int)) (-4000:Int) (4000:Int)) fun r7 =>
   if(!r7)=true then
   some (.inr ((.inl ())))
   else
   some (.inl (wrap .i64 (x4+1)))
  else none
  else none
 else
  some (.inr ((.inr ())))
def jma (u0:List (List NC)) (i:Int) (u64:Unit):Option Int :=
 some (2:Int)
def y108 (u0:List (List NC)) (i:Int) (u65:Unit):Option Int :=
 Option.bind (y4 (nI u0 (Int.toNat i) (5:Nat)) (0:Int) (64:Int)) fun r8 =>
 if(!r8)=true then
  some (2:Int)
 else
  if(nI u0 (Int.toNat i) (1:Nat)!=2)=true then
  if(nI u0 (Int.toNat i) (5:Nat)!=0)=true then
   some (2:Int)
  else
   if(nI u0 (Int.toNat i) (1:Nat)!=3)=true then
   if(↑(List.length (nR u0 (Int.toNat i) (6:Nat))):Int)>0 then
    some (10:Int)
   else
    some (0:Int)
   else
   Option.bind (y27 (nR u0 (Int.toNat i) (6:Nat))) fun r9 =>
   some r9.2
  else
  if(nI u0 (Int.toNat i) (1:Nat)!=3)=true then
   if(↑(List.length (nR u0 (Int.toNat i) (6:Nat))):Int)>0 then
   some (10:Int)
   else
   some (0:Int)
  else
   Option.bind (y27 (nR u0 (Int.toNat i) (6:Nat))) fun r9 =>
   some r9.2
def y82 (u0:List (List NC)) (i:Int):(Unit ⊕ Unit)→Option Int :=
 (Sum.elim (jma u0 i) (y108 u0 i))
def y109 (u0:List (List NC)) (i:Int) (u66:Unit):Option Int :=
 Option.bind (jad (y44 u0 i) big (0:Int)) (y82 u0 i)
def y83 (u0:List (List NC)) (i:Int):(Unit ⊕ Unit)→Option Int :=
 (Sum.elim (jl9 u0 i) (y109 u0 i))
def y110 (u0:List (List NC)) (i:Int) (u67:Unit):Option Int :=
 Option.bind (jad (y43 u0 i) big (0:Int)) (y83 u0 i)
def y74 (u0:List (List NC)) (i:Int):(Unit ⊕ Unit)→Option Int :=
 (Sum.elim (jl8 u0 i) (y110 u0 i))
def y111 (u0:List (List NC)) (i:Int) (u61:Unit):Option Int :=
 Option.bind (y4 (nI u0 (Int.toNat i) (7:Nat)) (-1:Int) (wrap .i64 ((↑(List.length u0):Int)-1))) fun r4 =>
 if(!r4)=true then
  some (6:Int)
 else
  Option.bind (jad (y42 u0 i) big (0:Int)) (y74 u0 i)
def y29 (u0:List (List NC)) (i:Int):(Unit ⊕ Unit)→Option Int :=
 (Sum.elim (jl7 u0 i) (y111 u0 i))
def y112 (u0:List (List NC)) (i:Int) (u4:Unit):Option Int :=
 Option.bind (y4 (nI u0 (Int.toNat i) (1:Nat)) (0:Int) (4:Int)) fun r1 =>
 if(!r1)=true then
  some (15:Int)
 else
  if(nI u0 (Int.toNat i) (1:Nat)==0)=true then
  if(nI u0 (Int.toNat i) (1:Nat)==1)=true then
   if(nI u0 (Int.toNat i) (1:Nat)==1)=true then
   Option.bind (y4 (↑(List.length (nL u0 (Int.toNat i) (2:Nat))):Int) (0:Int) (6:Int)) fun r2 =>
   if(!r2)=true then
    some (10:Int)
   else
    if((↑(List.length (nL u0 (Int.toNat i) (3:Nat))):Int)!=(↑(List.length (nL u0 (Int.toNat i) (2:Nat))):Int))=true then
    some (10:Int)
    else
    if((↑(List.length (nL u0 (Int.toNat i) (4:Nat))):Int)!=(↑(List.length (nL u0 (Int.toNat i) (2:Nat))):Int))=true then
     some (10:Int)
    else
     Option.bind (jad (y11 u0 i) big (0:Int)) (y29 u0 i)
   else
   none
  else
   if(nI u0 (Int.toNat i) (1:Nat)==1)=true then
   none
   else
   Option.bind (y4 (↑(List.length (nL u0 (Int.toNat i) (2:Nat))):Int) (0:Int) (0:Int)) fun r10 =>
   if(!r10)=true then
    some (10:Int)
   else
    if((↑(List.length (nL u0 (Int.toNat i) (3:Nat))):Int)!=(↑(List.length (nL u0 (Int.toNat i) (2:Nat))):Int))=true then
    some (10:Int)
    else
    if((↑(List.length (nL u0 (Int.toNat i) (4:Nat))):Int)!=0)=true then
     some (10:Int)
    else
     Option.bind (jad (y11 u0 i) big (0:Int)) (y29 u0 i)
  else
  if(nI u0 (Int.toNat i) (1:Nat)==1)=true then
   if(nI u0 (Int.toNat i) (1:Nat)==1)=true then
   Option.bind (y4 (↑(List.length (nL u0 (Int.toNat i) (2:Nat))):Int) (1:Int) (6:Int)) fun r11 =>
   if(!r11)=true then
    some (10:Int)
   else
    if((↑(List.length (nL u0 (Int.toNat i) (3:Nat))):Int)!=(↑(List.length (nL u0 (Int.toNat i) (2:Nat))):Int))=true then
    some (10:Int)
    else
    if((↑(List.length (nL u0 (Int.toNat i) (4:Nat))):Int)!=(↑(List.length (nL u0 (Int.toNat i) (2:Nat))):Int))=true then
     some (10:Int)
    else
     Option.bind (jad (y11 u0 i) big (0:Int)) (y29 u0 i)
   else
   none
  else
   if(nI u0 (Int.toNat i) (1:Nat)==1)=true then
   none
   else
   Option.bind (y4 (↑(List.length (nL u0 (Int.toNat i) (2:Nat))):Int) (1:Int) (1:Int)) fun r12 =>
   if(!r12)=true then
    some (10:Int)
   else
    if((↑(List.length (nL u0 (Int.toNat i) (3:Nat))):Int)!=(↑(List.length (nL u0 (Int.toNat i) (2:Nat))):Int))=true then
    some (10:Int)
    else
    if((↑(List.length (nL u0 (Int.toNat i) (4:Nat))):Int)!=0)=true then
     some (10:Int)
    else
     Option.bind (jad (y11 u0 i) big (0:Int)) (y29 u0 i)
def y75 (u0:List (List NC)) (i:Int):(Unit ⊕ Unit)→Option Int :=
 (Sum.elim (jl6 u0 i) (y112 u0 i))
def y59 (u1:ByteArray) (u0:List (List NC)) (i:Int):Option Int :=
 if 0≤i∧i<(↑(List.length u0):Int)then
  if Int.toNat i<List.length u0 then
  Option.bind (y55 (nS u0 (Int.toNat i) (0:Nat))) fun r0 =>
  if(!r0)=true then
   some (4:Int)
  else
   if(nS u0 (Int.toNat i) (0:Nat)==ByteArray.mk #[(115:UInt8),(116:UInt8),(97:UInt8),(110:UInt8),(100:UInt8)])=true then
   some (4:Int)
   else
   Option.bind (jad (y34 u0 i) big (0:Int)) (y75 u0 i)
  else none
 else none
def jfX:List Lf→Option GT
 |[.d (.s u1),.x (.st [.s,.i .i64,.ints .i64,.ints .i64,.ints .i64,.i .i64,.recs 5,.i .i64] u0),.d (.i .i64 i)]=>some (.leaf (ok (y59 u1 u0 i)) [.c (.d (.i .i64 ((val (y59 u1 u0 i)))))])
 |_=>none
abbrev sp_82:jab→jab:=jaX 82 true (jat jfW jfX)
abbrev ja0 (u0:List (List NC)) (i:Int):=(↑(List.length (nL u0 (Int.toNat i) (2:Nat))):Int)
abbrev jxH (u0:List (List NC)) (i:Int):=(nS u0 (Int.toNat i) (0:Nat)=nS u0 (Int.toNat i) (0:Nat))
abbrev jxI (u0:List (List NC)) (i:Int):=(nI u0 (Int.toNat i) (1:Nat)=nI u0 (Int.toNat i) (1:Nat))
abbrev jxJ (u0:List (List NC)) (i:Int):=(nI u0 (Int.toNat i) (5:Nat)=nI u0 (Int.toNat i) (5:Nat))
abbrev jxK (u0:List (List NC)) (i:Int):=(nI u0 (Int.toNat i) (7:Nat)=nI u0 (Int.toNat i) (7:Nat))
abbrev jxL (u0:List (List NC)) (i:Int):=(nL u0 (Int.toNat i) (2:Nat)=nL u0 (Int.toNat i) (2:Nat))
abbrev jxM (u0:List (List NC)) (i:Int):=(nL u0 (Int.toNat i) (3:Nat)=nL u0 (Int.toNat i) (3:Nat))
abbrev jxN (u0:List (List NC)) (i:Int):=(nL u0 (Int.toNat i) (4:Nat)=nL u0 (Int.toNat i) (4:Nat))
abbrev jxO (u0:List (List NC)) (i:Int):=(nR u0 (Int.toNat i) (6:Nat)=nR u0 (Int.toNat i) (6:Nat))
abbrev jxP (u0:List (List NC)) (i:Int) (v2a:Unit × Unit × Int × Nat):=(jcZ (List.take (Int.toNat (Option.getD (some v2a.2.2.1) (ja0 u0 i))-0) (List.drop (0:Nat) (nL u0 (Int.toNat i) (2:Nat)))) (List.getD (nL u0 (Int.toNat i) (2:Nat)) (Int.toNat v2a.2.2.1) (0:Int)))
abbrev jvi (u0:List (List NC)) (i:Int) (v1a:Unit × Int × Nat):=(y4 (List.getD (nL u0 (Int.toNat i) (2:Nat)) (Int.toNat v1a.2.1) (0:Int)) (0:Int) (wrap .i64 ((↑(List.length u0):Int)-1)))
abbrev jvj (u0:List (List NC)) (i:Int):=(y4 (nI u0 (Int.toNat i) (7:Nat)) (-1:Int) (wrap .i64 ((↑(List.length u0):Int)-1)))
abbrev jvk (u0:List (List NC)) (i:Int) (v4a:Unit × Unit × Unit × Unit × Int × Nat):=(y4 (List.getD (nL u0 (Int.toNat i) (4:Nat)) (Int.toNat v4a.2.2.2.2.1) (0:Int)) (-4000:Int) (4000:Int))
abbrev jvl (u0:List (List NC)) (i:Int) (v3a:Unit × Unit × Unit × Int × Nat):=(y4 (List.getD (nL u0 (Int.toNat i) (3:Nat)) (Int.toNat v3a.2.2.2.1) (0:Int)) (0:Int) (64:Int))
abbrev jyJ (u0:List (List NC)) (i:Int) (v2a:Unit × Unit × Int × Nat):=(0≤Option.getD none (0:Int)∧Option.getD none 0≤Option.getD (some v2a.2.2.1) (ja0 u0 i)∧Option.getD (some v2a.2.2.1) (ja0 u0 i)≤(ja0 u0 i))
abbrev jm9 (u0:List (List NC)) (i:Int):=(y27 (nR u0 (Int.toNat i) (6:Nat)))
abbrev jvm (u0:List (List NC)) (i:Int):=(decide ((↑(List.length (nR u0 (Int.toNat i) (6:Nat))):Int)>0))
abbrev jdQ (u0:List (List NC)) (i:Int):=(↑(List.length (nL u0 (Int.toNat i) (3:Nat))):Int)
abbrev jdR (u0:List (List NC)) (i:Int):=(↑(List.length (nL u0 (Int.toNat i) (4:Nat))):Int)
abbrev jvn (u0:List (List NC)) (i:Int):=(y4 (nI u0 (Int.toNat i) (5:Nat)) (0:Int) (64:Int))
abbrev jvo (u0:List (List NC)) (i:Int) (v4a:Unit × Unit × Unit × Unit × Int × Nat):=(jad (y44 u0 i) v4a.2.2.2.2.2 v4a.2.2.2.2.1)
abbrev jvp (u0:List (List NC)) (i:Int) (v3a:Unit × Unit × Unit × Int × Nat):=(jad (y43 u0 i) v3a.2.2.2.2 v3a.2.2.2.1)
abbrev jvq (u0:List (List NC)) (i:Int):=(nI u0 (Int.toNat i) (1:Nat)!=3)
abbrev jvr (u0:List (List NC)) (i:Int) (v2a:Unit × Unit × Int × Nat):=(jad (y42 u0 i) v2a.2.2.2 v2a.2.2.1)
abbrev jvs (u0:List (List NC)) (i:Int) (v1a:Unit × Int × Nat):=(jad (y11 u0 i) v1a.2.2 v1a.2.1)
abbrev jyK (u0:List (List NC)) (i:Int) (v4a:Unit × Unit × Unit × Unit × Int × Nat):=(Int.toNat v4a.2.2.2.2.1<List.length (nL u0 (Int.toNat i) (4:Nat)))
abbrev jyL (u0:List (List NC)) (i:Int) (v3a:Unit × Unit × Unit × Int × Nat):=(Int.toNat v3a.2.2.2.1<List.length (nL u0 (Int.toNat i) (3:Nat)))
abbrev jyM (u0:List (List NC)) (i:Int) (v2a:Unit × Unit × Int × Nat):=(Int.toNat v2a.2.2.1<List.length (nL u0 (Int.toNat i) (2:Nat)))
abbrev jyN (u0:List (List NC)) (i:Int) (v1a:Unit × Int × Nat):=(Int.toNat v1a.2.1<List.length (nL u0 (Int.toNat i) (2:Nat)))
abbrev jyO (u0:List (List NC)) (i:Int) (v4a:Unit × Unit × Unit × Unit × Int × Nat):=(0≤v4a.2.2.2.2.1∧v4a.2.2.2.2.1<(jdR u0 i))
abbrev jyP (v4a v5:Unit × Unit × Unit × Unit × Int × Nat):=(wrap .i64 (v4a.2.2.2.2.1+1)=v5.2.2.2.2.1)
abbrev jyQ (v3a v4:Unit × Unit × Unit × Int × Nat):=(wrap .i64 (v3a.2.2.2.1+1)=v4.2.2.2.1)
abbrev jyR (u0:List (List NC)) (i:Int) (v3a:Unit × Unit × Unit × Int × Nat):=(0≤v3a.2.2.2.1∧v3a.2.2.2.1<(jdQ u0 i))
abbrev jyS (v2a v3:Unit × Unit × Int × Nat):=(wrap .i64 (v2a.2.2.1+1)=v3.2.2.1)
abbrev jyT (v1a v2:Unit × Int × Nat):=(wrap .i64 (v1a.2.1+1)=v2.2.1)
private abbrev qe0 (u0:List (List NC)) (i:Int) (k:Prop):Prop :=
 (Ob (jxH u0 i) ∧
 (Ob (jxI u0 i) ∧
 (Ob (jxJ u0 i) ∧
 (Ob (jxK u0 i) ∧
 (Ob (jxL u0 i) ∧
 (Ob (jxM u0 i) ∧
 (Ob (jxN u0 i) ∧
 (Ob (jxO u0 i) ∧
 k))))))))
private abbrev qe1 (u1:ByteArray) (u0:List (List NC)) (i:Int) (k:Prop):Prop :=
 (Ob (u1=u1) ∧
 (Ob (jxH u0 i) ∧
 (Ob (jxI u0 i) ∧
 (Ob (jxJ u0 i) ∧
 (Ob (jxK u0 i) ∧
 (Ob (u0=u0) ∧
 (Ob (jxL u0 i) ∧
 (Ob (jxM u0 i) ∧
 (Ob (jxN u0 i) ∧
 (Ob (jxO u0 i) ∧
 k))))))))))
private abbrev qz0 (u0:List (List NC)) (i:Int) (v2a:Unit × Unit × Int × Nat):=(0≤v2a.2.2.1∧v2a.2.2.1<(ja0 u0 i))
private abbrev qz1 (u0:List (List NC)) (i:Int):=(nI u0 (Int.toNat i) (1:Nat)!=2)
private abbrev qz2 (u0:List (List NC)) (i:Int):=(nI u0 (Int.toNat i) (5:Nat)!=0)
private abbrev qz3 (u0:List (List NC)) (i:Int) (v5:Unit × Unit × Unit × Unit × Int × Nat):=(jad (y44 u0 i) v5.2.2.2.2.2 v5.2.2.2.2.1)
private abbrev UB0 (u1:ByteArray) (u0:List (List NC)) (i r:Int):Prop :=
 ((∃(v1a:Unit × Int × Nat),(Ob ((Option.bind (jvs u0 i v1a) fun y0=>Option.bind (y29 u0 i y0) some)=some r) ∧
 (Ob (0=0) ∧
 (Ob (0=0) ∧
 (Ob ((0:Int)=v1a.2.1) ∧
  (qe1 u1 u0 i (
 True))))))) ∧
  (∀(v1a:Unit × Int × Nat),((Option.bind (jvs u0 i v1a) fun y0=>Option.bind (y29 u0 i y0) some)=some r →
 Br (decide (v1a.2.1<(ja0 u0 i)))
  ((Ob (0≤v1a.2.1∧v1a.2.1<(ja0 u0 i)) ∧
 (Ob (jyN u0 i v1a) ∧
 (Ob (ok (jvi u0 i v1a)) ∧
 Br (!val (jvi u0 i v1a))
  ((Ob True ∧
 (Ob ((6:Int)=r) ∧
 True)))
  ((∃(v2:Unit × Int × Nat),(Ob ((Option.bind (jad (y11 u0 i) v2.2.2 v2.2.1) fun y0=>Option.bind (y29 u0 i y0) some)=some r) ∧
 (Ob (v2.2.2<v1a.2.2) ∧
 (Ob (0=0) ∧
 (Ob (0=0) ∧
 (Ob (jyT v1a v2) ∧
  (qe1 u1 u0 i (
 True)))))))))))))
  ((Ob (ok (jvj u0 i)) ∧
 Br (!val (jvj u0 i))
  ((Ob True ∧
 (Ob ((6:Int)=r) ∧
 True)))
  (((∃(v2a:Unit × Unit × Int × Nat),(Ob ((Option.bind (jvr u0 i v2a) fun y0=>Option.bind (y74 u0 i y0) some)=some r) ∧
 (Ob (0=0) ∧
 (Ob ((0:Int)=v2a.2.2.1) ∧
  (qe0 u0 i (
 True)))))) ∧
  (∀(v2a:Unit × Unit × Int × Nat),((Option.bind (jvr u0 i v2a) fun y0=>Option.bind (y74 u0 i y0) some)=some r →
 Br (decide (v2a.2.2.1<(ja0 u0 i)))
  ((Ob (jyJ u0 i v2a) ∧
 (Ob (qz0 u0 i v2a) ∧
 (Ob (jyM u0 i v2a) ∧
 (Ob (ok (jxP u0 i v2a)) ∧
 Br (val (jxP u0 i v2a))
  ((Ob True ∧
 (Ob ((26:Int)=r) ∧
 True)))
  ((∃(v3:Unit × Unit × Int × Nat),(Ob ((Option.bind (jad (y42 u0 i) v3.2.2.2 v3.2.2.1) fun y0=>Option.bind (y74 u0 i y0) some)=some r) ∧
 (Ob (v3.2.2.2<v2a.2.2.2) ∧
 (Ob (0=0) ∧
 (Ob (jyS v2a v3) ∧
  (qe0 u0 i (
 True)))))))))))))
  (((∃(v3a:Unit × Unit × Unit × Int × Nat),(Ob ((Option.bind (jvp u0 i v3a) fun y0=>Option.bind (y83 u0 i y0) some)=some r) ∧
 (Ob (0=0) ∧
 (Ob ((0:Int)=v3a.2.2.2.1) ∧
  (qe0 u0 i (
 True)))))) ∧
  (∀(v3a:Unit × Unit × Unit × Int × Nat),((Option.bind (jvp u0 i v3a) fun y0=>Option.bind (y83 u0 i y0) some)=some r →
 Br (decide (v3a.2.2.2.1<(jdQ u0 i)))
  ((Ob (jyR u0 i v3a) ∧
 (Ob (jyL u0 i v3a) ∧
 (Ob (ok (jvl u0 i v3a)) ∧
 Br (!val (jvl u0 i v3a))
  ((Ob True ∧
 (Ob ((2:Int)=r) ∧
 True)))
  ((∃(v4:Unit × Unit × Unit × Int × Nat),(Ob ((Option.bind (jad (y43 u0 i) v4.2.2.2.2 v4.2.2.2.1) fun y0=>Option.bind (y83 u0 i y0) some)=some r) ∧
 (Ob (v4.2.2.2.2<v3a.2.2.2.2) ∧
 (Ob (0=0) ∧
 (Ob (jyQ v3a v4) ∧
  (qe0 u0 i (
 True))))))))))))
  (((∃(v4a:Unit × Unit × Unit × Unit × Int × Nat),(Ob ((Option.bind (jvo u0 i v4a) fun y0=>Option.bind (y82 u0 i y0) some)=some r) ∧
 (Ob (0=0) ∧
 (Ob ((0:Int)=v4a.2.2.2.2.1) ∧
  (qe0 u0 i (
 True)))))) ∧
  (∀(v4a:Unit × Unit × Unit × Unit × Int × Nat),((Option.bind (jvo u0 i v4a) fun y0=>Option.bind (y82 u0 i y0) some)=some r →
 Br (decide (v4a.2.2.2.2.1<(jdR u0 i)))
  ((Ob (jyO u0 i v4a) ∧
 (Ob (jyK u0 i v4a) ∧
 (Ob (ok (jvk u0 i v4a)) ∧
 Br (!val (jvk u0 i v4a))
  ((Ob True ∧
 (Ob ((2:Int)=r) ∧
 True)))
  ((∃(v5:Unit × Unit × Unit × Unit × Int × Nat),(Ob ((Option.bind (qz3 u0 i v5) fun y0=>Option.bind (y82 u0 i y0) some)=some r) ∧
 (Ob (v5.2.2.2.2.2<v4a.2.2.2.2.2) ∧
 (Ob (0=0) ∧
 (Ob (jyP v4a v5) ∧
  (qe0 u0 i (
 True))))))))))))
  ((Ob (ok (jvn u0 i)) ∧
 Br (!val (jvn u0 i))
  ((Ob True ∧
 (Ob ((2:Int)=r) ∧
 True)))
 (Br (qz1 u0 i)
 (Br (qz2 u0 i)
  ((Ob True ∧
 (Ob ((2:Int)=r) ∧
 True)))
 (Br (jvq u0 i)
 (Br (jvm u0 i)
  ((Ob True ∧
 (Ob ((10:Int)=r) ∧
 True)))
  ((Ob True ∧
 (Ob ((0:Int)=r) ∧
 True))))
  ((Ob (ok (jm9 u0 i)) ∧
 (Ob True ∧
 (Ob ((val (jm9 u0 i)).2=r) ∧
 True))))))
 (Br (jvq u0 i)
 (Br (jvm u0 i)
  ((Ob True ∧
 (Ob ((10:Int)=r) ∧
 True)))
  ((Ob True ∧
 (Ob ((0:Int)=r) ∧
 True))))
  ((Ob (ok (jm9 u0 i)) ∧
 (Ob True ∧
 (Ob ((val (jm9 u0 i)).2=r) ∧
 True)))))))))))))))))))))))))
theorem jna (u1:ByteArray) (u0:List (List NC)) (i r:Int) (h:Option.bind (Option.bind (jad (y11 u0 i) big (0:Int)) (y29 u0 i)) some=some r):UB0 u1 u0 i r:=by
 refine⟨⟨((),0,big),⟨jaT h⟩,(by repeat' constructor)⟩,fun z0 hz0=>?_⟩
 obtain⟨k0,hm0,h⟩:=jaD hz0
 refine jay h (fun h=>?_) (fun h=>?_)
 ·refine jaz h fun h=>?_
  refine jaz h fun h=>?_
  refine jaE h fun h=>?_
  refine jaw h (fun h=>?_) (fun h=>?_)
  ·have h:=jah h
   refine jaf ?_
   exact jag h (fun e=>by subst e; exact(by repeat' constructor))
  ·exact⟨(Prod.fst z0,_,k0),⟨jav h⟩,⟨jaC hm0.symm⟩,(by repeat' constructor)⟩
 ·have h:=jah h
  refine jaE h fun h=>?_
  refine jaw h (fun h=>?_) (fun h=>?_)
  ·refine jaf ?_
   exact jag h (fun e=>by subst e; exact(by repeat' constructor))
  ·refine⟨⟨(Prod.fst z0,(),0,big),⟨jaT h⟩,(by repeat' constructor)⟩,fun z1 hz1=>?_⟩
   obtain⟨k1,hm1,h⟩:=jaD hz1
   refine jay h (fun h=>?_) (fun h=>?_)
   ·refine jaz h fun h=>?_
    refine jaz h fun h=>?_
    refine jaz h fun h=>?_
    refine jaE h fun h=>?_
    refine jaw h (fun h=>?_) (fun h=>?_)
    ·have h:=jah h
     refine jaf ?_
     exact jag h (fun e=>by subst e; exact(by repeat' constructor))
    ·exact⟨(Prod.fst z1,Prod.fst (Prod.snd z1),_,k1),⟨jav h⟩,⟨jaC hm1.symm⟩,(by repeat' constructor)⟩
   ·have h:=jah h
    refine⟨⟨(Prod.fst z1,Prod.fst (Prod.snd z1),(),0,big),⟨jaT h⟩,(by repeat' constructor)⟩,fun z2 hz2=>?_⟩
    obtain⟨k2,hm2,h⟩:=jaD hz2
    refine jay h (fun h=>?_) (fun h=>?_)
    ·refine jaz h fun h=>?_
     refine jaz h fun h=>?_
     refine jaE h fun h=>?_
     refine jaw h (fun h=>?_) (fun h=>?_)
     ·have h:=jah h
      refine jaf ?_
      exact jag h (fun e=>by subst e; exact(by repeat' constructor))
     ·exact⟨(Prod.fst z2,Prod.fst (Prod.snd z2),Prod.fst (Prod.snd (Prod.snd z2)),_,k2),⟨jav h⟩,⟨jaC hm2.symm⟩,(by repeat' constructor)⟩
    ·have h:=jah h
     refine⟨⟨(Prod.fst z2,Prod.fst (Prod.snd z2),Prod.fst (Prod.snd (Prod.snd z2)),(),0,big),⟨jaT h⟩,(by repeat' constructor)⟩,fun z3 hz3=>?_⟩
     obtain⟨k3,hm3,h⟩:=jaD hz3
     refine jay h (fun h=>?_) (fun h=>?_)
     ·refine jaz h fun h=>?_
      refine jaz h fun h=>?_
      refine jaE h fun h=>?_
      refine jaw h (fun h=>?_) (fun h=>?_)
      ·have h:=jah h
       refine jaf ?_
       exact jag h (fun e=>by subst e; exact(by repeat' constructor))
      ·exact⟨(Prod.fst z3,Prod.fst (Prod.snd z3),Prod.fst (Prod.snd (Prod.snd z3)),Prod.fst (Prod.snd (Prod.snd (Prod.snd z3))),_,k3),⟨jav h⟩,⟨jaC hm3.symm⟩,(by repeat' constructor)⟩
     ·have h:=jah h
      refine jaE h fun h=>?_
      refine jaw h (fun h=>?_) (fun h=>?_)
      ·refine jaf ?_
       exact jag h (fun e=>by subst e; exact(by repeat' constructor))
      ·refine jaw h (fun h=>?_) (fun h=>?_)
       ·refine jaw h (fun h=>?_) (fun h=>?_)
        ·refine jaf ?_
         exact jag h (fun e=>by subst e; exact(by repeat' constructor))
        ·refine jaw h (fun h=>?_) (fun h=>?_)
         ·refine jay h (fun h=>?_) (fun h=>?_)
          ·refine jaf ?_
           exact jag h (fun e=>by subst e; exact(by repeat' constructor))
          ·refine jaf ?_
           exact jag h (fun e=>by subst e; exact(by repeat' constructor))
         ·refine jaE h fun h=>?_
          refine jaf ?_
          exact jag h (fun e=>by subst e; exact(by repeat' constructor))
       ·refine jaw h (fun h=>?_) (fun h=>?_)
        ·refine jay h (fun h=>?_) (fun h=>?_)
         ·refine jaf ?_
          exact jag h (fun e=>by subst e; exact(by repeat' constructor))
         ·refine jaf ?_
          exact jag h (fun e=>by subst e; exact(by repeat' constructor))
        ·refine jaE h fun h=>?_
         refine jaf ?_
         exact jag h (fun e=>by subst e; exact(by repeat' constructor))
theorem jn2 (u1:ByteArray) (u0:List (List NC)) (i r:Int) (h:Option.bind (y59 u1 u0 i) some=some r):jbQ Tryz.f82 ((sp_81 (sp_48 (sp_45 (sp_131 sp0))))) (fun gs id _=>match id with
 |0=>some ⟨Int × Nat,fun z=>⟨[(1,.w (.c (.d (.i .i64 i)))),(2,.w (.c (.p 1 0 1 0))),(5,.w (.c (.p 2 0 1 0))),(6,.w (.c (.d (.i .i64 (Prod.fst z)))))],[(1,.box 24 [.d (.s u1),.o 0]),(2,.box 118 [.d (.s (nS u0 (Int.toNat i) (0:Nat))),.d (.i .i64 (nI u0 (Int.toNat i) (1:Nat))),.o 3,.o 4,.o 5,.d (.i .i64 (nI u0 (Int.toNat i) (5:Nat))),.o 6,.d (.i .i64 (nI u0 (Int.toNat i) (7:Nat)))]),(0,.xext (XC.st [NK.s,NK.i .i64,NK.ints .i64,NK.ints .i64,NK.ints .i64,NK.i .i64,NK.recs (5:Nat),NK.i .i64] u0)),(3,.ext (.ints .i64 (nL u0 (Int.toNat i) (2:Nat)))),(4,.ext (.ints .i64 (nL u0 (Int.toNat i) (3:Nat)))),(5,.ext (.ints .i64 (nL u0 (Int.toNat i) (4:Nat)))),(6,.ext (.recs 5 (nR u0 (Int.toNat i) (6:Nat))))],7⟩,fun z=>Option.bind (jad (y34 u0 i) (Prod.snd z) (Prod.fst z)) (fun y0=>Option.bind (y75 u0 i y0) some)=some r,fun z=>Prod.snd z⟩
 |2=>some ⟨Unit × Int × Nat,fun z=>⟨[(2,.w (.c (.p 1 0 1 0))),(5,.w (.c (.p 2 0 1 0))),(10,.w (.c (.d (.i .i64 (Prod.fst (Prod.snd z))))))],[(1,.box 24 [.d (.s u1),.o 0]),(2,.box 118 [.d (.s (nS u0 (Int.toNat i) (0:Nat))),.d (.i .i64 (nI u0 (Int.toNat i) (1:Nat))),.o 3,.o 4,.o 5,.d (.i .i64 (nI u0 (Int.toNat i) (5:Nat))),.o 6,.d (.i .i64 (nI u0 (Int.toNat i) (7:Nat)))]),(0,.xext (XC.st [NK.s,NK.i .i64,NK.ints .i64,NK.ints .i64,NK.ints .i64,NK.i .i64,NK.recs (5:Nat),NK.i .i64] u0)),(3,.ext (.ints .i64 (nL u0 (Int.toNat i) (2:Nat)))),(4,.ext (.ints .i64 (nL u0 (Int.toNat i) (3:Nat)))),(5,.ext (.ints .i64 (nL u0 (Int.toNat i) (4:Nat)))),(6,.ext (.recs 5 (nR u0 (Int.toNat i) (6:Nat))))],7⟩,fun z=>Option.bind (jad (y11 u0 i) (Prod.snd (Prod.snd z)) (Prod.fst (Prod.snd z))) (fun y0=>Option.bind (y29 u0 i y0) some)=some r,fun z=>Prod.snd (Prod.snd z)⟩
 |4=>some ⟨Unit × Unit × Int × Nat,fun z=>⟨[(5,.w (.c (.p 1 0 1 0))),(11,.w (.c (.d (.i .i64 (Prod.fst (Prod.snd (Prod.snd z)))))))],[(1,.box 118 [.d (.s (nS u0 (Int.toNat i) (0:Nat))),.d (.i .i64 (nI u0 (Int.toNat i) (1:Nat))),.o 2,.o 3,.o 4,.d (.i .i64 (nI u0 (Int.toNat i) (5:Nat))),.o 5,.d (.i .i64 (nI u0 (Int.toNat i) (7:Nat)))]),(2,.ext (.ints .i64 (nL u0 (Int.toNat i) (2:Nat)))),(3,.ext (.ints .i64 (nL u0 (Int.toNat i) (3:Nat)))),(4,.ext (.ints .i64 (nL u0 (Int.toNat i) (4:Nat)))),(5,.ext (.recs 5 (nR u0 (Int.toNat i) (6:Nat))))],6⟩,fun z=>Option.bind (jad (y42 u0 i) (Prod.snd (Prod.snd (Prod.snd z))) (Prod.fst (Prod.snd (Prod.snd z)))) (fun y0=>Option.bind (y74 u0 i y0) some)=some r,fun z=>Prod.snd (Prod.snd (Prod.snd z))⟩
 |6=>some ⟨Unit × Unit × Unit × Int × Nat,fun z=>⟨[(5,.w (.c (.p 1 0 1 0))),(12,.w (.c (.d (.i .i64 (Prod.fst (Prod.snd (Prod.snd (Prod.snd z))))))))],[(1,.box 118 [.d (.s (nS u0 (Int.toNat i) (0:Nat))),.d (.i .i64 (nI u0 (Int.toNat i) (1:Nat))),.o 2,.o 3,.o 4,.d (.i .i64 (nI u0 (Int.toNat i) (5:Nat))),.o 5,.d (.i .i64 (nI u0 (Int.toNat i) (7:Nat)))]),(2,.ext (.ints .i64 (nL u0 (Int.toNat i) (2:Nat)))),(3,.ext (.ints .i64 (nL u0 (Int.toNat i) (3:Nat)))),(4,.ext (.ints .i64 (nL u0 (Int.toNat i) (4:Nat)))),(5,.ext (.recs 5 (nR u0 (Int.toNat i) (6:Nat))))],6⟩,fun z=>Option.bind (jad (y43 u0 i) (Prod.snd (Prod.snd (Prod.snd (Prod.snd z)))) (Prod.fst (Prod.snd (Prod.snd (Prod.snd z))))) (fun y0=>Option.bind (y83 u0 i y0) some)=some r,fun z=>Prod.snd (Prod.snd (Prod.snd (Prod.snd z)))⟩
 |8=>some ⟨Unit × Unit × Unit × Unit × Int × Nat,fun z=>⟨[(5,.w (.c (.p 1 0 1 0))),(13,.w (.c (.d (.i .i64 (Prod.fst (Prod.snd (Prod.snd (Prod.snd (Prod.snd z)))))))))],[(1,.box 118 [.d (.s (nS u0 (Int.toNat i) (0:Nat))),.d (.i .i64 (nI u0 (Int.toNat i) (1:Nat))),.o 2,.o 3,.o 4,.d (.i .i64 (nI u0 (Int.toNat i) (5:Nat))),.o 5,.d (.i .i64 (nI u0 (Int.toNat i) (7:Nat)))]),(2,.ext (.ints .i64 (nL u0 (Int.toNat i) (2:Nat)))),(3,.ext (.ints .i64 (nL u0 (Int.toNat i) (3:Nat)))),(4,.ext (.ints .i64 (nL u0 (Int.toNat i) (4:Nat)))),(5,.ext (.recs 5 (nR u0 (Int.toNat i) (6:Nat))))],6⟩,fun z=>Option.bind (jad (y44 u0 i) (Prod.snd (Prod.snd (Prod.snd (Prod.snd (Prod.snd z))))) (Prod.fst (Prod.snd (Prod.snd (Prod.snd (Prod.snd z)))))) (fun y0=>Option.bind (y82 u0 i y0) some)=some r,fun z=>Prod.snd (Prod.snd (Prod.snd (Prod.snd (Prod.snd z))))⟩
 |_=>none) (jbA jfW [.d (.s u1),.x (.st [.s,.i .i64,.ints .i64,.ints .i64,.ints .i64,.i .i64,.recs 5,.i .i64] u0),.d (.i .i64 i)]) [.c (.d (.i .i64 r))]:=by
 refine Eq.mp (by kernel_rfl:(
 (Ob (0≤i∧i<(↑(List.length u0):Int)) ∧
 (Ob (Int.toNat i<List.length u0) ∧
 (Ob (ok (y55 (nS u0 (Int.toNat i) (0:Nat)))) ∧
 Br (!val (y55 (nS u0 (Int.toNat i) (0:Nat))))
  ((Ob True ∧
 (Ob ((4:Int)=r) ∧
 True)))
 (Br (nS u0 (Int.toNat i) (0:Nat)==ByteArray.mk #[(115:UInt8),(116:UInt8),(97:UInt8),(110:UInt8),(100:UInt8)])
  ((Ob True ∧
 (Ob ((4:Int)=r) ∧
 True)))
  (((∃(v0:Int × Nat),(Ob ((Option.bind (jad (y34 u0 i) v0.2 v0.1) fun y0=>Option.bind (y75 u0 i y0) some)=some r) ∧
 (Ob (i=i) ∧
 (Ob (0=0) ∧
 (Ob (0=0) ∧
 (Ob ((0:Int)=v0.1) ∧
  (qe1 u1 u0 i (
 True)))))))) ∧
  (∀(v0:Int × Nat),((Option.bind (jad (y34 u0 i) v0.2 v0.1) fun y0=>Option.bind (y75 u0 i y0) some)=some r →
 Br (decide (v0.1<i))
  ((Ob (0≤v0.1∧v0.1<(↑(List.length u0):Int)) ∧
 (Ob (Int.toNat v0.1<List.length u0) ∧
 Br (nS u0 (Int.toNat v0.1) (0:Nat)==nS u0 (Int.toNat i) (0:Nat))
  ((Ob True ∧
 (Ob ((5:Int)=r) ∧
 True)))
  ((∃(v1:Int × Nat),(Ob ((Option.bind (jad (y34 u0 i) v1.2 v1.1) fun y0=>Option.bind (y75 u0 i y0) some)=some r) ∧
 (Ob (v1.2<v0.2) ∧
 (Ob (i=i) ∧
 (Ob (0=0) ∧
 (Ob (0=0) ∧
 (Ob (wrap .i64 (v0.1+1)=v1.1) ∧
  (qe1 u1 u0 i (
 True)))))))))))))
  ((Ob (ok (y4 (nI u0 (Int.toNat i) (1:Nat)) (0:Int) (4:Int))) ∧
 Br (!val (y4 (nI u0 (Int.toNat i) (1:Nat)) (0:Int) (4:Int)))
  ((Ob True ∧
 (Ob ((15:Int)=r) ∧
 True)))
 (Br (nI u0 (Int.toNat i) (1:Nat)==0)
 (Br (nI u0 (Int.toNat i) (1:Nat)==1)
 (Br (nI u0 (Int.toNat i) (1:Nat)==1)
  ((Ob (ok (y4 (ja0 u0 i) (0:Int) (6:Int))) ∧
 Br (!val (y4 (ja0 u0 i) (0:Int) (6:Int)))
  ((Ob True ∧
 (Ob ((10:Int)=r) ∧
 True)))
 (Br ((jdQ u0 i)!=(ja0 u0 i))
  ((Ob True ∧
 (Ob ((10:Int)=r) ∧
 True)))
 (Br ((jdR u0 i)!=(ja0 u0 i))
  ((Ob True ∧
 (Ob ((10:Int)=r) ∧
 True)))
  ((UB0 u1 u0 i r))))))
  ((Ob (ok (y4 (ja0 u0 i) (0:Int) (6:Int))) ∧
 Br (!val (y4 (ja0 u0 i) (0:Int) (6:Int)))
  ((Ob True ∧
 (Ob ((10:Int)=r) ∧
 True)))
 (Br ((jdQ u0 i)!=(ja0 u0 i))
  ((Ob True ∧
 (Ob ((10:Int)=r) ∧
 True)))
 (Br ((jdR u0 i)!=0)
  ((Ob True ∧
 (Ob ((10:Int)=r) ∧
 True)))
  ((UB0 u1 u0 i r)))))))
 (Br (nI u0 (Int.toNat i) (1:Nat)==1)
  ((Ob (ok (y4 (ja0 u0 i) (0:Int) (0:Int))) ∧
 Br (!val (y4 (ja0 u0 i) (0:Int) (0:Int)))
  ((Ob True ∧
 (Ob ((10:Int)=r) ∧
 True)))
 (Br ((jdQ u0 i)!=(ja0 u0 i))
  ((Ob True ∧
 (Ob ((10:Int)=r) ∧
 True)))
 (Br ((jdR u0 i)!=(ja0 u0 i))
  ((Ob True ∧
 (Ob ((10:Int)=r) ∧
 True)))
  ((UB0 u1 u0 i r))))))
  ((Ob (ok (y4 (ja0 u0 i) (0:Int) (0:Int))) ∧
 Br (!val (y4 (ja0 u0 i) (0:Int) (0:Int)))
  ((Ob True ∧
 (Ob ((10:Int)=r) ∧
 True)))
 (Br ((jdQ u0 i)!=(ja0 u0 i))
  ((Ob True ∧
 (Ob ((10:Int)=r) ∧
 True)))
 (Br ((jdR u0 i)!=0)
  ((Ob True ∧
 (Ob ((10:Int)=r) ∧
 True)))
  ((UB0 u1 u0 i r))))))))
 (Br (nI u0 (Int.toNat i) (1:Nat)==1)
 (Br (nI u0 (Int.toNat i) (1:Nat)==1)
  ((Ob (ok (y4 (ja0 u0 i) (1:Int) (6:Int))) ∧
 Br (!val (y4 (ja0 u0 i) (1:Int) (6:Int)))
  ((Ob True ∧
 (Ob ((10:Int)=r) ∧
 True)))
 (Br ((jdQ u0 i)!=(ja0 u0 i))
  ((Ob True ∧
 (Ob ((10:Int)=r) ∧
 True)))
 (Br ((jdR u0 i)!=(ja0 u0 i))
  ((Ob True ∧
 (Ob ((10:Int)=r) ∧
 True)))
  ((UB0 u1 u0 i r))))))
  ((Ob (ok (y4 (ja0 u0 i) (1:Int) (6:Int))) ∧
 Br (!val (y4 (ja0 u0 i) (1:Int) (6:Int)))
  ((Ob True ∧
 (Ob ((10:Int)=r) ∧
 True)))
 (Br ((jdQ u0 i)!=(ja0 u0 i))
  ((Ob True ∧
 (Ob ((10:Int)=r) ∧
 True)))
 (Br ((jdR u0 i)!=0)
  ((Ob True ∧
 (Ob ((10:Int)=r) ∧
 True)))
  ((UB0 u1 u0 i r)))))))
 (Br (nI u0 (Int.toNat i) (1:Nat)==1)
  ((Ob (ok (y4 (ja0 u0 i) (1:Int) (1:Int))) ∧
 Br (!val (y4 (ja0 u0 i) (1:Int) (1:Int)))
  ((Ob True ∧
 (Ob ((10:Int)=r) ∧
 True)))
 (Br ((jdQ u0 i)!=(ja0 u0 i))
  ((Ob True ∧
 (Ob ((10:Int)=r) ∧
 True)))
 (Br ((jdR u0 i)!=(ja0 u0 i))
  ((Ob True ∧
 (Ob ((10:Int)=r) ∧
 True)))
  ((UB0 u1 u0 i r))))))
  ((Ob (ok (y4 (ja0 u0 i) (1:Int) (1:Int))) ∧
 Br (!val (y4 (ja0 u0 i) (1:Int) (1:Int)))
  ((Ob True ∧
 (Ob ((10:Int)=r) ∧
 True)))
 (Br ((jdQ u0 i)!=(ja0 u0 i))
  ((Ob True ∧
 (Ob ((10:Int)=r) ∧
 True)))
 (Br ((jdR u0 i)!=0)
  ((Ob True ∧
 (Ob ((10:Int)=r) ∧
 True)))
  ((UB0 u1 u0 i r))))))))))))))))))))=_) ?_
 refine jaz h fun h=>?_
 refine jaz h fun h=>?_
 refine jaE h fun h=>?_
 refine jaw h (fun h=>?_) (fun h=>?_)
 ·refine jaf ?_
  exact rcs h
 ·refine jaw h (fun h=>?_) (fun h=>?_)
  ·refine jaf ?_
   exact rcs h
  ·refine⟨⟨((0:Int),big),⟨jaT h⟩,(by repeat' constructor)⟩,fun z13 hz13=>?_⟩
   obtain⟨k13,hm13,h⟩:=jaD hz13
   refine jay h (fun h=>?_) (fun h=>?_)
   ·refine jaz h fun h=>?_
    refine jaz h fun h=>?_
    refine jaw h (fun h=>?_) (fun h=>?_)
    ·have h:=jah h
     refine jaf ?_
     exact rcs h
    ·exact⟨(_,k13),⟨jav h⟩,⟨jaC hm13.symm⟩,(by repeat' constructor)⟩
   ·have h:=jah h
    refine jaE h fun h=>?_
    refine jaw h (fun h=>?_) (fun h=>?_)
    ·refine jaf ?_
     exact rcs h
    ·refine jaw h (fun h=>?_) (fun h=>?_)
     ·refine jaw h (fun h=>?_) (fun h=>?_)
      ·refine jaw h (fun h=>?_) (fun h=>?_)
       ·refine jaE h fun h=>?_
        refine jaw h (fun h=>?_) (fun h=>?_)
        ·refine jaf ?_
         exact rcs h
        ·refine jaw h (fun h=>?_) (fun h=>?_)
         ·refine jaf ?_
          exact rcs h
         ·refine jaw h (fun h=>?_) (fun h=>?_)
          ·refine jaf ?_
           exact rcs h
          ·exact jna u1 u0 i r h
       ·exact nomatch h
      ·refine jaw h (fun h=>?_) (fun h=>?_)
       ·exact nomatch h
       ·refine jaE h fun h=>?_
        refine jaw h (fun h=>?_) (fun h=>?_)
        ·refine jaf ?_
         exact rcs h
        ·refine jaw h (fun h=>?_) (fun h=>?_)
         ·refine jaf ?_
          exact rcs h
         ·refine jaw h (fun h=>?_) (fun h=>?_)
          ·refine jaf ?_
           exact rcs h
          ·exact jna u1 u0 i r h
     ·refine jaw h (fun h=>?_) (fun h=>?_)
      ·refine jaw h (fun h=>?_) (fun h=>?_)
       ·refine jaE h fun h=>?_
        refine jaw h (fun h=>?_) (fun h=>?_)
        ·refine jaf ?_
         exact rcs h
        ·refine jaw h (fun h=>?_) (fun h=>?_)
         ·refine jaf ?_
          exact rcs h
         ·refine jaw h (fun h=>?_) (fun h=>?_)
          ·refine jaf ?_
           exact rcs h
          ·exact jna u1 u0 i r h
       ·exact nomatch h
      ·refine jaw h (fun h=>?_) (fun h=>?_)
       ·exact nomatch h
       ·refine jaE h fun h=>?_
        refine jaw h (fun h=>?_) (fun h=>?_)
        ·refine jaf ?_
         exact rcs h
        ·refine jaw h (fun h=>?_) (fun h=>?_)
         ·refine jaf ?_
          exact rcs h
         ·refine jaw h (fun h=>?_) (fun h=>?_)
          ·refine jaf ?_
           exact rcs h
          ·exact jna u1 u0 i r h
theorem jn3:jaj Tryz.prog 82 true (jat jfW jfX):=by
 refine jaS (sp:=(sp_81 (sp_48 (sp_45 (sp_131 sp0))))) (fn:=Tryz.f82) (body:=bodyOf Tryz.f82) mixed (sp_81_ok (sp_48_ok (sp_45_ok (sp_131_ok jaB)))) Tryz.func82 (by kernel_rfl) (by kernel_rfl) fun ls t h ho b hb=>?_
 unfold jfX at h
 split at h
 ·rename_i u1 u0 i
  cases h
  obtain rfl:=ja9 hb
  exact⟨Nat.le_of_ble_eq_true (by kernel_rfl),_,_,jn2 u1 u0 i _ (jax ho)⟩
 ·cases h
theorem sp_82_ok {sp:jab} (h:jac Tryz.prog sp):jac Tryz.prog (sp_82 sp):=jaA jn3 h
def y113:List SV:=[.a [.d,.x (.st [.s,.i .i64,.ints .i64,.ints .i64,.ints .i64,.i .i64,.recs 5,.i .i64] [])]]
def y20 (u1:ByteArray) (u0:List (List NC)) (x0:Int):Option (Int ⊕ ((Int × Int) ⊕ Unit)) :=
 if x0<(↑(List.length u0):Int)then
  Option.bind (y59 u1 u0 x0) fun r1 =>
  if(r1 != 0)=true then
  some (.inr ((.inl (x0,r1))))
  else
  some (.inl (wrap .i64 (x0+1)))
 else
  some (.inr ((.inr ())))
def jjr (u3:Int × Int):Option (Int × Int) :=
 some (u3.1,u3.2)
def jjs (u4:Unit):Option (Int × Int) :=
 some (((0:Int),0))
def y69:((Int × Int) ⊕ Unit)→Option (Int × Int) :=
 (Sum.elim (jjr) (jjs))
def y30 (u1:ByteArray) (u0:List (List NC)):Option (Int × Int) :=
 Option.bind (y55 u1) fun r0 =>
 if(!r0)=true then
  some (((0:Int),4))
 else
  if(↑(List.length u0):Int)>24 then
  some (((0:Int),8))
  else
  Option.bind (jad (y20 u1 u0) big (0:Int)) (y69)
def y114:List Lf→Option GT
 |[.d (.s u1),.x (.st [.s,.i .i64,.ints .i64,.ints .i64,.ints .i64,.i .i64,.recs 5,.i .i64] u0)]=>some (.leaf (ok (y30 u1 u0)) [.c (.d (.i .i64 ((val (y30 u1 u0)).1))),.c (.d (.i .i64 ((val (y30 u1 u0)).2)))])
 |_=>none
abbrev sp_21:jab→jab:=jaX 21 true (jat y113 y114)
theorem jld (u1:ByteArray) (u0:List (List NC)) (r:Int × Int) (h:Option.bind (y30 u1 u0) some=some r):jbQ Tryz.f21 ((sp_81 (sp_82 sp0))) (fun gs id _=>match id with
 |0=>some ⟨Int × Nat,fun z=>⟨[(1,.w (.c (.p 1 0 1 0))),(4,.w (.c (.d (.i .i64 (Prod.fst z)))))],[(1,.box 24 [.d (.s u1),.o 0]),(0,.xext (XC.st [NK.s,NK.i .i64,NK.ints .i64,NK.ints .i64,NK.ints .i64,NK.i .i64,NK.recs (5:Nat),NK.i .i64] u0))],2⟩,fun z=>Option.bind (jad (y20 u1 u0) (Prod.snd z) (Prod.fst z)) (fun y0=>Option.bind (y69 y0) some)=some r,fun z=>Prod.snd z⟩
 |_=>none) (jbA y113 [.d (.s u1),.x (.st [.s,.i .i64,.ints .i64,.ints .i64,.ints .i64,.i .i64,.recs 5,.i .i64] u0)]) [.c (.d (.i .i64 r.1)),.c (.d (.i .i64 r.2))]:=by
 refine Eq.mp (by kernel_rfl:(
 (Ob (ok (y55 u1)) ∧
 Br (!val (y55 u1))
  ((Ob True ∧
 (Ob True ∧
 (Ob ((0:Int)=r.1) ∧
 (Ob ((4:Int)=r.2) ∧
 True)))))
 (Br (decide ((↑(List.length u0):Int)>24))
  ((Ob True ∧
 (Ob True ∧
 (Ob ((0:Int)=r.1) ∧
 (Ob ((8:Int)=r.2) ∧
 True)))))
  (((∃(v0:Int × Nat),(Ob ((Option.bind (jad (y20 u1 u0) v0.2 v0.1) fun y0=>Option.bind (y69 y0) some)=some r) ∧
 (Ob (0=0) ∧
 (Ob ((0:Int)=v0.1) ∧
 (Ob (u1=u1) ∧
 (Ob (u0=u0) ∧
 True)))))) ∧
  (∀(v0:Int × Nat),((Option.bind (jad (y20 u1 u0) v0.2 v0.1) fun y0=>Option.bind (y69 y0) some)=some r →
 Br (decide (v0.1<(↑(List.length u0):Int)))
  ((Ob (ok (y59 u1 u0 v0.1)) ∧
 Br (val (y59 u1 u0 v0.1)!=0)
  ((Ob True ∧
 (Ob True ∧
 (Ob (v0.1=r.1) ∧
 (Ob (val (y59 u1 u0 v0.1)=r.2) ∧
 True)))))
  ((∃(v1:Int × Nat),(Ob ((Option.bind (jad (y20 u1 u0) v1.2 v1.1) fun y0=>Option.bind (y69 y0) some)=some r) ∧
 (Ob (v1.2<v0.2) ∧
 (Ob (0=0) ∧
 (Ob (wrap .i64 (v0.1+1)=v1.1) ∧
 (Ob (u1=u1) ∧
 (Ob (u0=u0) ∧
 True))))))))))
  ((Ob True ∧
 (Ob True ∧
 (Ob ((0:Int)=r.1) ∧
 (Ob ((0:Int)=r.2) ∧
 True))))))))))))=_) ?_
 refine jaE h fun h=>?_
 refine jaw h (fun h=>?_) (fun h=>?_)
 ·refine jaf ?_
  refine jaf ?_
  exact rcs h
 ·refine jay h (fun h=>?_) (fun h=>?_)
  ·refine jaf ?_
   refine jaf ?_
   exact rcs h
  ·refine⟨⟨((0:Int),big),⟨jaT h⟩,(by repeat' constructor)⟩,fun z2 hz2=>?_⟩
   obtain⟨k2,hm2,h⟩:=jaD hz2
   refine jay h (fun h=>?_) (fun h=>?_)
   ·refine jaE h fun h=>?_
    refine jaw h (fun h=>?_) (fun h=>?_)
    ·have h:=jah h
     refine jaf ?_
     refine jaf ?_
     exact rcs h
    ·exact⟨(_,k2),⟨jav h⟩,⟨jaC hm2.symm⟩,(by repeat' constructor)⟩
   ·have h:=jah h
    refine jaf ?_
    refine jaf ?_
    exact rcs h
theorem jle:jaj Tryz.prog 21 true (jat y113 y114):=by
 refine jaS (sp:=(sp_81 (sp_82 sp0))) (fn:=Tryz.f21) (body:=bodyOf Tryz.f21) mixed (sp_81_ok (sp_82_ok jaB)) Tryz.func21 (by kernel_rfl) (by kernel_rfl) fun ls t h ho b hb=>?_
 unfold y114 at h
 split at h
 ·rename_i u1 u0
  cases h
  obtain rfl:=ja9 hb
  exact⟨Nat.le_of_ble_eq_true (by kernel_rfl),_,_,jld u1 u0 _ (jax ho)⟩
 ·cases h
theorem sp_21_ok {sp:jab} (h:jac Tryz.prog sp):jac Tryz.prog (sp_21 sp):=jaA jle h
def jhx:List SV:=[.a [.d,.d,.r (.ints .i64 []),.r (.ints .i64 []),.r (.ints .i64 []),.d,.r (.recs 5 []),.d],.c (.d)]
def y98 (u12:ByteArray) (u5:Int) (u10 u9 u7:List Int) (u6:Int) (u13:List (List Int)) (u14 u39:Int):Option Bool :=
 Option.bind (jcZ u10 u39) fun r0 =>
 if(r0)=true then
  some true
 else
  some (u14==u39)
def jhy:List Lf→Option GT
 |[.d (.s u12),.d (.i .i64 u5),.r (.ints .i64 u10),.r (.ints .i64 u9),.r (.ints .i64 u7),.d (.i .i64 u6),.r (.recs 5 u13),.d (.i .i64 u14),.d (.i .i64 u39)]=>some (.leaf (ok (y98 u12 u5 u10 u9 u7 u6 u13 u14 u39)) [.c (.d (.b ((val (y98 u12 u5 u10 u9 u7 u6 u13 u14 u39)))))])
 |_=>none
abbrev sp_87:jab→jab:=jaX 87 true (jat jhx jhy)
def jsa (u12:ByteArray) (u5:Int) (u10 u9 u7:List Int) (u6:Int) (u13:List (List Int)) (u14 u39:Int):T (Bool) :=
 .call (jcZ u10 u39) fun r0 =>
 .brB (r0)
 (.obT
 (.rc (true)))
 (.obT
 (.rc ((u14==u39))))
theorem jqC (u12:ByteArray) (u5:Int) (u10 u9 u7:List Int) (u6:Int) (u13:List (List Int)) (u14 u39:Int) (r:Bool) (h:Option.bind (y98 u12 u5 u10 u9 u7 u6 u13 u14 u39) some=some r):jbQ Tryz.f87 ((sp_48 sp0)) (fun _ _ _=>none) (jbA jhx [.d (.s u12),.d (.i .i64 u5),.r (.ints .i64 u10),.r (.ints .i64 u9),.r (.ints .i64 u7),.d (.i .i64 u6),.r (.recs 5 u13),.d (.i .i64 u14),.d (.i .i64 u39)]) [.c (.d (.b r))] :=
 T.vc (t:=jsa u12 u5 u10 u9 u7 u6 u13 u14 u39) (by kernel_rfl) (by kernel_rfl) h
theorem jqD:jaj Tryz.prog 87 true (jat jhx jhy):=by
 refine jaS (sp:=(sp_48 sp0)) (fn:=Tryz.f87) (body:=bodyOf Tryz.f87) mixed (sp_48_ok jaB) Tryz.func87 (by kernel_rfl) (by kernel_rfl) fun ls t h ho b hb=>?_
 unfold jhy at h
 split at h
 ·rename_i u12 u5 u10 u9 u7 u6 u13 u14 u39
  cases h
  obtain rfl:=ja9 hb
  exact⟨Nat.le_of_ble_eq_true (by kernel_rfl),_,_,jqC u12 u5 u10 u9 u7 u6 u13 u14 u39 _ (jax ho)⟩
 ·cases h
theorem sp_87_ok {sp:jab} (h:jac Tryz.prog sp):jac Tryz.prog (sp_87 sp):=jaA jqD h
def jhz:List SV:=[.a [.d,.x (.st [.s,.i .i64,.ints .i64,.ints .i64,.ints .i64,.i .i64,.recs 5,.i .i64] [])],.c (.r (.ints .i64 [])),.c (.d)]
def y36 (u0:List (List NC)) (u40:List Int) (u27 x0:Int):Option (Int ⊕ (Unit ⊕ Unit)) :=
 if x0<(↑(List.length u0):Int)then
  if 0≤u27∧u27<(↑(List.length u0):Int)then
  if Int.toNat u27<List.length u0 then
   Option.bind (y98 (nS u0 (Int.toNat u27) (0:Nat)) (nI u0 (Int.toNat u27) (1:Nat)) (nL u0 (Int.toNat u27) (2:Nat)) (nL u0 (Int.toNat u27) (3:Nat)) (nL u0 (Int.toNat u27) (4:Nat)) (nI u0 (Int.toNat u27) (5:Nat)) (nR u0 (Int.toNat u27) (6:Nat)) (nI u0 (Int.toNat u27) (7:Nat)) x0) fun r0 =>
   if(r0)=true then
   Option.bind (jcZ u40 x0) fun r1 =>
   if(!r1)=true then
    some (.inr ((.inl ())))
   else
    some (.inl (wrap .i64 (x0+1)))
   else
   some (.inl (wrap .i64 (x0+1)))
  else none
  else none
 else
  some (.inr ((.inr ())))
def jn4 (u3:Unit):Option Bool :=
 some false
def jn5 (u4:Unit):Option Bool :=
 some true
def y84:(Unit ⊕ Unit)→Option Bool :=
 (Sum.elim (jn4) (jn5))
def y86 (u1:ByteArray) (u0:List (List NC)) (u40:List Int) (u27:Int):Option Bool :=
 Option.bind (jad (y36 u0 u40 u27) big (0:Int)) (y84)
def jhA:List Lf→Option GT
 |[.d (.s u1),.x (.st [.s,.i .i64,.ints .i64,.ints .i64,.ints .i64,.i .i64,.recs 5,.i .i64] u0),.r (.ints .i64 u40),.d (.i .i64 u27)]=>some (.leaf (ok (y86 u1 u0 u40 u27)) [.c (.d (.b ((val (y86 u1 u0 u40 u27)))))])
 |_=>none
abbrev sp_83:jab→jab:=jaX 83 true (jat jhz jhA)
abbrev jxQ (u0:List (List NC)) (u27:Int) (v0:Int × Nat):=(y98 (nS u0 (Int.toNat u27) (0:Nat)) (nI u0 (Int.toNat u27) (1:Nat)) (nL u0 (Int.toNat u27) (2:Nat)) (nL u0 (Int.toNat u27) (3:Nat)) (nL u0 (Int.toNat u27) (4:Nat)) (nI u0 (Int.toNat u27) (5:Nat)) (nR u0 (Int.toNat u27) (6:Nat)) (nI u0 (Int.toNat u27) (7:Nat)) v0.1)
theorem jqE (u1:ByteArray) (u0:List (List NC)) (u40:List Int) (u27:Int) (r:Bool) (h:Option.bind (y86 u1 u0 u40 u27) some=some r):jbQ Tryz.f83 ((sp_87 (sp_48 sp0))) (fun gs id _=>match id with
 |0=>some ⟨Int × Nat,fun z=>⟨[(1,.w (.c (.o 1))),(2,.w (.c (.d (.i .i64 u27)))),(3,.w (.c (.p 2 0 1 0))),(7,.w (.c (.d (.i .i64 (Prod.fst z)))))],[(1,.ext (.ints .i64 u40)),(2,.box 24 [.d (.s u1),.o 0]),(0,.xext (XC.st [NK.s,NK.i .i64,NK.ints .i64,NK.ints .i64,NK.ints .i64,NK.i .i64,NK.recs (5:Nat),NK.i .i64] u0))],3⟩,fun z=>Option.bind (jad (y36 u0 u40 u27) (Prod.snd z) (Prod.fst z)) (fun y0=>Option.bind (y84 y0) some)=some r,fun z=>Prod.snd z⟩
 |_=>none) (jbA jhz [.d (.s u1),.x (.st [.s,.i .i64,.ints .i64,.ints .i64,.ints .i64,.i .i64,.recs 5,.i .i64] u0),.r (.ints .i64 u40),.d (.i .i64 u27)]) [.c (.d (.b r))]:=by
 refine Eq.mp (by kernel_rfl:(
 ((∃(v0:Int × Nat),(Ob ((Option.bind (jad (y36 u0 u40 u27) v0.2 v0.1) fun y0=>Option.bind (y84 y0) some)=some r) ∧
 (Ob (u27=u27) ∧
 (Ob (0=0) ∧
 (Ob ((0:Int)=v0.1) ∧
 (Ob (u40=u40) ∧
 (Ob (u1=u1) ∧
 (Ob (u0=u0) ∧
 True)))))))) ∧
  (∀(v0:Int × Nat),((Option.bind (jad (y36 u0 u40 u27) v0.2 v0.1) fun y0=>Option.bind (y84 y0) some)=some r →
 Br (decide (v0.1<(↑(List.length u0):Int)))
  ((Ob (0≤u27∧u27<(↑(List.length u0):Int)) ∧
 (Ob (Int.toNat u27<List.length u0) ∧
 (Ob (ok (jxQ u0 u27 v0)) ∧
 Br (val (jxQ u0 u27 v0))
  ((Ob (ok (jcZ u40 v0.1)) ∧
 Br (!val (jcZ u40 v0.1))
  ((Ob True ∧
 (Ob (false=r) ∧
 True)))
  ((∃(v1:Int × Nat),(Ob ((Option.bind (jad (y36 u0 u40 u27) v1.2 v1.1) fun y0=>Option.bind (y84 y0) some)=some r) ∧
 (Ob (v1.2<v0.2) ∧
 (Ob (u27=u27) ∧
 (Ob (0=0) ∧
 (Ob (wrap .i64 (v0.1+1)=v1.1) ∧
 (Ob (u40=u40) ∧
 (Ob (u1=u1) ∧
 (Ob (u0=u0) ∧
 True))))))))))))
  ((∃(v1:Int × Nat),(Ob ((Option.bind (jad (y36 u0 u40 u27) v1.2 v1.1) fun y0=>Option.bind (y84 y0) some)=some r) ∧
 (Ob (v1.2<v0.2) ∧
 (Ob (u27=u27) ∧
 (Ob (0=0) ∧
 (Ob (wrap .i64 (v0.1+1)=v1.1) ∧
 (Ob (u40=u40) ∧
 (Ob (u1=u1) ∧
 (Ob (u0=u0) ∧
 True))))))))))))))
  ((Ob True ∧
 (Ob (true=r) ∧
 True)))))))=_) ?_
 refine⟨⟨((0:Int),big),⟨jaT h⟩,(by repeat' constructor)⟩,fun z2 hz2=>?_⟩
 obtain⟨k2,hm2,h⟩:=jaD hz2
 refine jay h (fun h=>?_) (fun h=>?_)
 ·refine jaz h fun h=>?_
  refine jaz h fun h=>?_
  refine jaE h fun h=>?_
  refine jaw h (fun h=>?_) (fun h=>?_)
  ·refine jaE h fun h=>?_
   refine jaw h (fun h=>?_) (fun h=>?_)
   ·have h:=jah h
    refine jaf ?_
    exact rcs h
   ·exact⟨(_,k2),⟨jav h⟩,⟨jaC hm2.symm⟩,(by repeat' constructor)⟩
  ·exact⟨(_,k2),⟨jav h⟩,⟨jaC hm2.symm⟩,(by repeat' constructor)⟩
 ·have h:=jah h
  refine jaf ?_
  exact rcs h
theorem jqF:jaj Tryz.prog 83 true (jat jhz jhA):=by
 refine jaS (sp:=(sp_87 (sp_48 sp0))) (fn:=Tryz.f83) (body:=bodyOf Tryz.f83) mixed (sp_87_ok (sp_48_ok jaB)) Tryz.func83 (by kernel_rfl) (by kernel_rfl) fun ls t h ho b hb=>?_
 unfold jhA at h
 split at h
 ·rename_i u1 u0 u40 u27
  cases h
  obtain rfl:=ja9 hb
  exact⟨Nat.le_of_ble_eq_true (by kernel_rfl),_,_,jqE u1 u0 u40 u27 _ (jax ho)⟩
 ·cases h
theorem sp_83_ok {sp:jab} (h:jac Tryz.prog sp):jac Tryz.prog (sp_83 sp):=jaA jqF h
def jhB:List SV:=[.a [.d,.x (.st [.s,.i .i64,.ints .i64,.ints .i64,.ints .i64,.i .i64,.recs 5,.i .i64] [])]]
def y28 (u1:ByteArray) (u0:List (List NC)) (x0:List Int) (x1:(Int × Int)):Option ((Int × Int) ⊕ Int) :=
 if x1.2≥0 then
  Option.bind (jcZ x0 x1.2) fun r0 =>
  if(!r0)=true then
  Option.bind (y86 u1 u0 x0 x1.2) fun r1 =>
  if(r1)=true then
   some (.inl ((x1.2,wrap .i64 (x1.2-1))))
  else
   some (.inl ((x1.1,wrap .i64 (x1.2-1))))
  else
  some (.inl ((x1.1,wrap .i64 (x1.2-1))))
 else
  some (.inr x1.1)
def y63 (x0:List Int) (u26:Int):Option ((List Int) ⊕ (Unit ⊕ (List Int))) :=
 if u26<0 then
  some (.inr ((.inl ())))
 else
  if(List.length x0+List.length [u26])*8≤140737488355328∧List.length x0+List.length [u26]≤9223372036854775807 then
  some (.inl (x0++[u26]))
  else none
def y15 (u1:ByteArray) (u0:List (List NC)) (x0:(List Int)):Option ((List Int) ⊕ (Unit ⊕ (List Int))) :=
 if(↑(List.length x0):Int)<(↑(List.length u0):Int)then
  Option.bind (jad (y28 u1 u0 x0) big (((-1:Int),wrap .i64 ((↑(List.length u0):Int)-1)))) (y63 x0)
 else
  some (.inr (.inr x0))
def jn6 (u3:Unit):Option (List Int × Bool) :=
 some ([],false)
def jn7 (u4:List Int):Option (List Int × Bool) :=
 some (u4,true)
def y31:(Unit ⊕ (List Int))→Option (List Int × Bool) :=
 (Sum.elim (jn6) (jn7))
def y64 (u1:ByteArray) (u0:List (List NC)):Option (List Int × Bool) :=
 Option.bind (jad (y15 u1 u0) big []) (y31)
def jhC:List Lf→Option GT
 |[.d (.s u1),.x (.st [.s,.i .i64,.ints .i64,.ints .i64,.ints .i64,.i .i64,.recs 5,.i .i64] u0)]=>some (.leaf (ok (y64 u1 u0)) [.c (.row 3 (.ints .i64 ((val (y64 u1 u0)).1))),.c (.d (.b ((val (y64 u1 u0)).2)))])
 |_=>none
abbrev sp_23:jab→jab:=jaX 23 true (jat jhB jhC)
theorem jqG (u1:ByteArray) (u0:List (List NC)) (r:List Int × Bool) (h:Option.bind (y64 u1 u0) some=some r):jbQ Tryz.f23 ((sp_48 (sp_83 sp0))) (fun gs id _=>match id with
 |0=>some ⟨List Int × Nat,fun z=>⟨[(1,.w (.c (.p 1 0 1 0))),(4,.w (.c (.o 2)))],[(1,.box 24 [.d (.s u1),.o 0]),(2,.row 3 (.ints .i64 (Prod.fst z))),(0,.xext (XC.st [NK.s,NK.i .i64,NK.ints .i64,NK.ints .i64,NK.ints .i64,NK.i .i64,NK.recs (5:Nat),NK.i .i64] u0))],3⟩,fun z=>Option.bind (jad (y15 u1 u0) (Prod.snd z) (Prod.fst z)) (fun y0=>Option.bind (y31 y0) some)=some r,fun z=>Prod.snd z⟩
 |2=>some ⟨List Int × Nat × (Int × Int) × Nat,fun z=>⟨[(1,.w (.c (.p 1 0 1 0))),(4,.w (.c (.o 2))),(5,.w (.c (.d (.i .i64 (Prod.fst (Prod.fst (Prod.snd (Prod.snd z)))))))),(6,.w (.c (.d (.i .i64 (Prod.snd (Prod.fst (Prod.snd (Prod.snd z))))))))],[(1,.box 24 [.d (.s u1),.o 0]),(2,.row 3 (.ints .i64 (Prod.fst z))),(0,.xext (XC.st [NK.s,NK.i .i64,NK.ints .i64,NK.ints .i64,NK.ints .i64,NK.i .i64,NK.recs (5:Nat),NK.i .i64] u0))],3⟩,fun z=>Prod.fst (Prod.snd z)+1=gs.getD 0 0∧Option.bind (jad (y28 u1 u0 (Prod.fst z)) (Prod.snd (Prod.snd (Prod.snd z))) (Prod.fst (Prod.snd (Prod.snd z)))) (fun y0=>Option.bind (y63 (Prod.fst z) y0) (jbJ (y15 u1 u0) (Prod.fst (Prod.snd z)) (fun y1=>Option.bind (y31 y1) some)))=some r,fun z=>Prod.snd (Prod.snd (Prod.snd z))⟩
 |_=>none) (jbA jhB [.d (.s u1),.x (.st [.s,.i .i64,.ints .i64,.ints .i64,.ints .i64,.i .i64,.recs 5,.i .i64] u0)]) [.c (.row 3 (.ints .i64 r.1)),.c (.d (.b r.2))]:=by
 refine Eq.mp (by kernel_rfl:(
 ((∃(v0:List Int × Nat),(Ob ((Option.bind (jad (y15 u1 u0) v0.2 v0.1) fun y0=>Option.bind (y31 y0) some)=some r) ∧
 (Ob (0=0) ∧
 (Ob (u1=u1) ∧
 (Ob (List.length v0.1=(0:Nat)) ∧
 (Ob (u0=u0) ∧
 True)))))) ∧
  (∀(v0:List Int × Nat),((Option.bind (jad (y15 u1 u0) v0.2 v0.1) fun y0=>Option.bind (y31 y0) some)=some r →
 Br (decide ((↑(List.length v0.1):Int)<(↑(List.length u0):Int)))
  (((∃(v1:List Int × Nat × (Int × Int) × Nat),(Ob (v1.2.1+1=v0.2∧(Option.bind (jad (y28 u1 u0 v1.1) v1.2.2.2 v1.2.2.1) fun y0=>Option.bind (y63 v1.1 y0) (jbJ (y15 u1 u0) v1.2.1 fun y1=>Option.bind (y31 y1) some))=some r) ∧
 (Ob (0=0) ∧
 (Ob ((-1:Int)=v1.2.2.1.1) ∧
 (Ob (wrap .i64 ((↑(List.length u0):Int)-1)=v1.2.2.1.2) ∧
 (Ob (u1=u1) ∧
 (Ob (v0.1=v1.1) ∧
 (Ob (u0=u0) ∧
 True)))))))) ∧
  (∀(v1:List Int × Nat × (Int × Int) × Nat),(v1.2.1+1=v0.2∧(Option.bind (jad (y28 u1 u0 v1.1) v1.2.2.2 v1.2.2.1) fun y0=>Option.bind (y63 v1.1 y0) (jbJ (y15 u1 u0) v1.2.1 fun y1=>Option.bind (y31 y1) some))=some r →
 Br (decide (v1.2.2.1.2≥0))
  ((Ob (ok (jcZ v1.1 v1.2.2.1.2)) ∧
 Br (!val (jcZ v1.1 v1.2.2.1.2))
  ((Ob (ok (y86 u1 u0 v1.1 v1.2.2.1.2)) ∧
 Br (val (y86 u1 u0 v1.1 v1.2.2.1.2))
  ((∃(v2:List Int × Nat × (Int × Int) × Nat),(Ob (v2.2.1+1=v0.2∧(Option.bind (jad (y28 u1 u0 v2.1) v2.2.2.2 v2.2.2.1) fun y0=>Option.bind (y63 v2.1 y0) (jbJ (y15 u1 u0) v2.2.1 fun y1=>Option.bind (y31 y1) some))=some r) ∧
 (Ob (v2.2.2.2<v1.2.2.2) ∧
 (Ob (0=0) ∧
 (Ob (v1.2.2.1.2=v2.2.2.1.1) ∧
 (Ob (wrap .i64 (v1.2.2.1.2-1)=v2.2.2.1.2) ∧
 (Ob (u1=u1) ∧
 (Ob (v1.1=v2.1) ∧
 (Ob (u0=u0) ∧
 True))))))))))
  ((∃(v2:List Int × Nat × (Int × Int) × Nat),(Ob (v2.2.1+1=v0.2∧(Option.bind (jad (y28 u1 u0 v2.1) v2.2.2.2 v2.2.2.1) fun y0=>Option.bind (y63 v2.1 y0) (jbJ (y15 u1 u0) v2.2.1 fun y1=>Option.bind (y31 y1) some))=some r) ∧
 (Ob (v2.2.2.2<v1.2.2.2) ∧
 (Ob (0=0) ∧
 (Ob (v1.2.2.1.1=v2.2.2.1.1) ∧
 (Ob (wrap .i64 (v1.2.2.1.2-1)=v2.2.2.1.2) ∧
 (Ob (u1=u1) ∧
 (Ob (v1.1=v2.1) ∧
 (Ob (u0=u0) ∧
 True))))))))))))
  ((∃(v2:List Int × Nat × (Int × Int) × Nat),(Ob (v2.2.1+1=v0.2∧(Option.bind (jad (y28 u1 u0 v2.1) v2.2.2.2 v2.2.2.1) fun y0=>Option.bind (y63 v2.1 y0) (jbJ (y15 u1 u0) v2.2.1 fun y1=>Option.bind (y31 y1) some))=some r) ∧
 (Ob (v2.2.2.2<v1.2.2.2) ∧
 (Ob (0=0) ∧
 (Ob (v1.2.2.1.1=v2.2.2.1.1) ∧
 (Ob (wrap .i64 (v1.2.2.1.2-1)=v2.2.2.1.2) ∧
 (Ob (u1=u1) ∧
 (Ob (v1.1=v2.1) ∧
 (Ob (u0=u0) ∧
 True))))))))))))
 (Br (decide (v1.2.2.1.1<0))
  ((Ob True ∧
 (Ob True ∧
 (Ob (List.length r.1=(0:Nat)) ∧
 (Ob (false=r.2) ∧
 True)))))
  ((Ob ((List.length v1.1+List.length [v1.2.2.1.1])*8≤140737488355328∧List.length v1.1+List.length [v1.2.2.1.1]≤9223372036854775807) ∧
  (∃(v2a:List Int × Nat),(Ob ((Option.bind (jad (y15 u1 u0) v2a.2 v2a.1) fun y0=>Option.bind (y31 y0) some)=some r) ∧
 (Ob (v2a.2<v0.2) ∧
 (Ob (0=0) ∧
 (Ob (u1=u1) ∧
 (Ob (v1.1++[v1.2.2.1.1]=v2a.1) ∧
 (Ob (u0=u0) ∧
 True))))))))))))))
  ((Ob True ∧
 (Ob True ∧
 (Ob (v0.1=r.1) ∧
 (Ob (true=r.2) ∧
 True)))))))))=_) ?_
 refine⟨⟨([],big),⟨jaT h⟩,(by repeat' constructor)⟩,fun z2 hz2=>?_⟩
 obtain⟨k2,hm2,h⟩:=jaD hz2
 refine jay h (fun h=>?_) (fun h=>?_)
 ·refine⟨⟨(Prod.fst z2,k2,((-1:Int),wrap .i64 ((↑(List.length u0):Int)-1)),big),⟨⟨hm2.symm,jaT h⟩⟩,(by repeat' constructor)⟩,fun z3 hz3=>?_⟩
  obtain⟨k3,hm3,h⟩:=jaD hz3.2
  refine jay h (fun h=>?_) (fun h=>?_)
  ·refine jaE h fun h=>?_
   refine jaw h (fun h=>?_) (fun h=>?_)
   ·refine jaE h fun h=>?_
    refine jaw h (fun h=>?_) (fun h=>?_)
    ·exact⟨(Prod.fst z3,Prod.fst (Prod.snd z3),((Prod.fst (Prod.snd (Prod.snd z3))).2,wrap .i64 ((Prod.fst (Prod.snd (Prod.snd z3))).2-1)),k3),⟨⟨hz3.1,jav h⟩⟩,⟨jaC hm3.symm⟩,(by repeat' constructor)⟩
    ·exact⟨(Prod.fst z3,Prod.fst (Prod.snd z3),((Prod.fst (Prod.snd (Prod.snd z3))).1,wrap .i64 ((Prod.fst (Prod.snd (Prod.snd z3))).2-1)),k3),⟨⟨hz3.1,jav h⟩⟩,⟨jaC hm3.symm⟩,(by repeat' constructor)⟩
   ·exact⟨(Prod.fst z3,Prod.fst (Prod.snd z3),((Prod.fst (Prod.snd (Prod.snd z3))).1,wrap .i64 ((Prod.fst (Prod.snd (Prod.snd z3))).2-1)),k3),⟨⟨hz3.1,jav h⟩⟩,⟨jaC hm3.symm⟩,(by repeat' constructor)⟩
  ·have h:=jah h
   refine jay h (fun h=>?_) (fun h=>?_)
   ·have h:=jah h
    refine jaf ?_
    refine jaf ?_
    exact jag h (fun e=>by subst e; exact(by repeat' constructor))
   ·refine jaz h fun h=>?_
    exact⟨(_,Prod.fst (Prod.snd z3)),⟨jav h⟩,⟨jaC hz3.1⟩,(by repeat' constructor)⟩
 ·have h:=jah h
  refine jaf ?_
  refine jaf ?_
  exact jag h (fun e=>by subst e; exact(by repeat' constructor))
theorem jqH:jaj Tryz.prog 23 true (jat jhB jhC):=by
 refine jaS (sp:=(sp_48 (sp_83 sp0))) (fn:=Tryz.f23) (body:=bodyOf Tryz.f23) mixed (sp_48_ok (sp_83_ok jaB)) Tryz.func23 (by kernel_rfl) (by kernel_rfl) fun ls t h ho b hb=>?_
 unfold jhC at h
 split at h
 ·rename_i u1 u0
  cases h
  obtain rfl:=ja9 hb
  exact⟨Nat.le_of_ble_eq_true (by kernel_rfl),_,_,jqG u1 u0 _ (jax ho)⟩
 ·cases h
theorem sp_23_ok {sp:jab} (h:jac Tryz.prog sp):jac Tryz.prog (sp_23 sp):=jaA jqH h
def je4:List SV:=[.a [.d,.x (.st [.s,.i .i64,.ints .i64,.ints .i64,.ints .i64,.i .i64,.recs 5,.i .i64] [])]]
def y76 (u1:ByteArray) (u0:List (List NC)):Option Int :=
 Option.bind (y30 u1 u0) fun r0 =>
 if(r0.2 != 0)=true then
  some r0.2
 else
  Option.bind (y64 u1 u0) fun r1 =>
  if(!r1.2)=true then
  some (19:Int)
  else
  some (0:Int)
def je5:List Lf→Option GT
 |[.d (.s u1),.x (.st [.s,.i .i64,.ints .i64,.ints .i64,.ints .i64,.i .i64,.recs 5,.i .i64] u0)]=>some (.leaf (ok (y76 u1 u0)) [.c (.d (.i .i64 ((val (y76 u1 u0)))))])
 |_=>none
abbrev sp_22:jab→jab:=jaX 22 true (jat je4 je5)
def jn8 (u1:ByteArray) (u0:List (List NC)):T (Int) :=
 .call (y30 u1 u0) fun r0 =>
 .brB (r0.2 != 0)
 (.obT
 (.rc (r0.2)))
 (.call (y64 u1 u0) fun r1 =>
 .brB (!r1.2)
 (.obT
 (.rc ((19:Int))))
 (.obT
 (.rc ((0:Int)))))
theorem jnb (u1:ByteArray) (u0:List (List NC)) (r:Int) (h:Option.bind (y76 u1 u0) some=some r):jbQ Tryz.f22 ((sp_21 (sp_23 sp0))) (fun _ _ _=>none) (jbA je4 [.d (.s u1),.x (.st [.s,.i .i64,.ints .i64,.ints .i64,.ints .i64,.i .i64,.recs 5,.i .i64] u0)]) [.c (.d (.i .i64 r))] :=
 T.vc (t:=jn8 u1 u0) (by kernel_rfl) (by kernel_rfl) h
theorem jnc:jaj Tryz.prog 22 true (jat je4 je5):=by
 refine jaS (sp:=(sp_21 (sp_23 sp0))) (fn:=Tryz.f22) (body:=bodyOf Tryz.f22) mixed (sp_21_ok (sp_23_ok jaB)) Tryz.func22 (by kernel_rfl) (by kernel_rfl) fun ls t h ho b hb=>?_
 unfold je5 at h
 split at h
 ·rename_i u1 u0
  cases h
  obtain rfl:=ja9 hb
  exact⟨Nat.le_of_ble_eq_true (by kernel_rfl),_,_,jnb u1 u0 _ (jax ho)⟩
 ·cases h
theorem sp_22_ok {sp:jab} (h:jac Tryz.prog sp):jac Tryz.prog (sp_22 sp):=jaA jnc h
end Go.Sh
end

section
namespace Go.Sh
open Go Go.Proofs Go.RowKit Go.Sx
open Go.IntKind (wrap)
def joG:List (Option Cont):=[some (.ints .i64 [])]
def y71 (l:List Int) (x0:Int):Option (Int ⊕ (Int ⊕ Unit)) :=
 if x0<(↑(List.length l):Int)then
  if 0≤x0∧x0<(↑(List.length l):Int)then
  if Int.toNat x0<List.length l then
   if(List.getD l (Int.toNat x0) (0:Int)!=0)=true then
   some (.inr ((.inl (List.getD l (Int.toNat x0) (0:Int)))))
   else
   some (.inl (wrap .i64 (x0+1)))
  else none
  else none
 else
  some (.inr ((.inr ())))
def jqI (u3:Int):Option Int :=
 some u3
def jqJ (u4:Unit):Option Int :=
 some (0:Int)
def jeF:(Int ⊕ Unit)→Option Int :=
 (Sum.elim (jqI) (jqJ))
def je6 (l:List Int):Option Int :=
 Option.bind (jad (y71 l) big (0:Int)) (jeF)
def jkl:List A→Option (Prop × List RV)
 |[.r (.ints .i64 l)]=>some (ok (je6 l),[.d (.i .i64 ((val (je6 l))))])
 |_=>none
abbrev sp_76:jab→jab:=jaX 76 true (jaP joG jkl)
theorem jtP (l:List Int) (r:Int) (h:Option.bind (je6 l) some=some r):jct Tryz.f76 (sp0) (fun gs id _=>match id with
 |0=>some ⟨Int × Nat,fun z=>⟨[(5,.w (.c (.o 0))),(6,.w (.c (.d (.i .i64 ((↑(List.length l):Int)))))),(7,.w (.c (.d (.i .i64 (Prod.fst z)))))],[(0,.ext (.ints .i64 l))],1⟩,fun z=>Option.bind (jad (y71 l) (Prod.snd z) (Prod.fst z)) (fun y0=>Option.bind (jeF y0) some)=some r,fun z=>Prod.snd z⟩
 |_=>none) [.r (.ints .i64 l)] [.d (.i .i64 r)]:=by
 refine Eq.mp (by kernel_rfl:(
 ((∃(v0:Int × Nat),(Ob ((Option.bind (jad (y71 l) v0.2 v0.1) fun y0=>Option.bind (jeF y0) some)=some r) ∧
 (Ob ((↑(List.length l):Int)=(↑(List.length l):Int)) ∧
 (Ob ((0:Int)=v0.1) ∧
 (Ob (l=l) ∧
 True))))) ∧
  (∀(v0:Int × Nat),((Option.bind (jad (y71 l) v0.2 v0.1) fun y0=>Option.bind (jeF y0) some)=some r →
 Br (decide (v0.1<(↑(List.length l):Int)))
  ((Ob (0≤v0.1∧v0.1<(↑(List.length l):Int)) ∧
 (Ob (Int.toNat v0.1<List.length l) ∧
 Br (List.getD l (Int.toNat v0.1) (0:Int)!=0)
  ((Ob True ∧
 (Ob (List.getD l (Int.toNat v0.1) (0:Int)=r) ∧
 True)))
  ((∃(v1:Int × Nat),(Ob ((Option.bind (jad (y71 l) v1.2 v1.1) fun y0=>Option.bind (jeF y0) some)=some r) ∧
 (Ob (v1.2<v0.2) ∧
 (Ob ((↑(List.length l):Int)=(↑(List.length l):Int)) ∧
 (Ob (wrap .i64 (v0.1+1)=v1.1) ∧
 (Ob (l=l) ∧
 True))))))))))
  ((Ob True ∧
 (Ob ((0:Int)=r) ∧
 True)))))))=_) ?_
 refine⟨⟨((0:Int),big),⟨jaT h⟩,(by repeat' constructor)⟩,fun z0 hz0=>?_⟩
 obtain⟨k0,hm0,h⟩:=jaD hz0
 refine jay h (fun h=>?_) (fun h=>?_)
 ·refine jaz h fun h=>?_
  refine jaz h fun h=>?_
  refine jaw h (fun h=>?_) (fun h=>?_)
  ·have h:=jah h
   refine jaf ?_
   exact rcs h
  ·exact⟨(_,k0),⟨jav h⟩,⟨jaC hm0.symm⟩,(by repeat' constructor)⟩
 ·have h:=jah h
  refine jaf ?_
  exact rcs h
theorem jtQ:jaj Tryz.prog 76 true (jaP joG jkl):=by
 refine ja1 (sp:=sp0) (fn:=Tryz.f76) (body:=bodyOf Tryz.f76) mixed jaB Tryz.func76 (by kernel_rfl) (by kernel_rfl) fun as_ ob rs h ho=>?_
 unfold jkl at h
 split at h
 ·rename_i l
  cases h
  exact⟨Nat.le_of_ble_eq_true rfl,_,_,jtP l _ (jax ho)⟩
 ·cases h
theorem sp_76_ok {sp:jab} (h:jac Tryz.prog sp):jac Tryz.prog (sp_76 sp):=jaA jtQ h
def jnd:List (Option Cont):=[none]
def y60 (s:ByteArray) (x0:Int):Option (Int ⊕ (Unit ⊕ Unit)) :=
 if x0<(↑(ByteArray.size s):Int)then
  if 0≤x0∧x0<(↑(ByteArray.size s):Int)then
  if(↑(UInt8.toNat (Array.getD (ByteArray.data s) (Int.toNat x0) (0:UInt8))):Int)≥97 then
   if(↑(UInt8.toNat (Array.getD (ByteArray.data s) (Int.toNat x0) (0:UInt8))):Int)≤122 then
   some (.inl (wrap .i64 (x0+1)))
   else
   if(↑(UInt8.toNat (Array.getD (ByteArray.data s) (Int.toNat x0) (0:UInt8))):Int)≥65 then
    if(!decide ((↑(UInt8.toNat (Array.getD (ByteArray.data s) (Int.toNat x0) (0:UInt8))):Int)≤90))=true then
    if(x0==0)=true then
     some (.inr ((.inl ())))
    else
     if((↑(UInt8.toNat (Array.getD (ByteArray.data s) (Int.toNat x0) (0:UInt8))):Int)!=45)=true then
     if(↑(UInt8.toNat (Array.getD (ByteArray.data s) (Int.toNat x0) (0:UInt8))):Int)<48 then
      some (.inr ((.inl ())))
     else
      if(↑(UInt8.toNat (Array.getD (ByteArray.data s) (Int.toNat x0) (0:UInt8))):Int)>57 then
      some (.inr ((.inl ())))
      else
      some (.inl (wrap .i64 (x0+1)))
     else
     some (.inl (wrap .i64 (x0+1)))
    else
    some (.inl (wrap .i64 (x0+1)))
   else
    if(x0==0)=true then
    some (.inr ((.inl ())))
    else
    if((↑(UInt8.toNat (Array.getD (ByteArray.data s) (Int.toNat x0) (0:UInt8))):Int)!=45)=true then
     if(↑(UInt8.toNat (Array.getD (ByteArray.data s) (Int.toNat x0) (0:UInt8))):Int)<48 then
     some (.inr ((.inl ())))
     else
     if(↑(UInt8.toNat (Array.getD (ByteArray.data s) (Int.toNat x0) (0:UInt8))):Int)>57 then
      some (.inr ((.inl ())))
     else
      some (.inl (wrap .i64 (x0+1)))
    else
     some (.inl (wrap .i64 (x0+1)))
  else
   if(↑(UInt8.toNat (Array.getD (ByteArray.data s) (Int.toNat x0) (0:UInt8))):Int)≥65 then
   if(!decide ((↑(UInt8.toNat (Array.getD (ByteArray.data s) (Int.toNat x0) (0:UInt8))):Int)≤90))=true then
    if(x0==0)=true then
    some (.inr ((.inl ())))
    else
    if((↑(UInt8.toNat (Array.getD (ByteArray.data s) (Int.toNat x0) (0:UInt8))):Int)!=45)=true then
     if(↑(UInt8.toNat (Array.getD (ByteArray.data s) (Int.toNat x0) (0:UInt8))):Int)<48 then
     some (.inr ((.inl ())))
     else
     if(↑(UInt8.toNat (Array.getD (ByteArray.data s) (Int.toNat x0) (0:UInt8))):Int)>57 then
      some (.inr ((.inl ())))
     else
      some (.inl (wrap .i64 (x0+1)))
    else
     some (.inl (wrap .i64 (x0+1)))
   else
    some (.inl (wrap .i64 (x0+1)))
   else
   if(x0==0)=true then
    some (.inr ((.inl ())))
   else
    if((↑(UInt8.toNat (Array.getD (ByteArray.data s) (Int.toNat x0) (0:UInt8))):Int)!=45)=true then
    if(↑(UInt8.toNat (Array.getD (ByteArray.data s) (Int.toNat x0) (0:UInt8))):Int)<48 then
     some (.inr ((.inl ())))
    else
     if(↑(UInt8.toNat (Array.getD (ByteArray.data s) (Int.toNat x0) (0:UInt8))):Int)>57 then
     some (.inr ((.inl ())))
     else
     some (.inl (wrap .i64 (x0+1)))
    else
    some (.inl (wrap .i64 (x0+1)))
  else none
 else
  some (.inr ((.inr ())))
def jo7 (s:ByteArray) (u3:Unit):Option Bool :=
 some false
def jo8 (s:ByteArray) (u4:Unit):Option Bool :=
 if(s != ByteArray.mk #[])=true then
  some (decide ((↑(ByteArray.size s):Int)≤12))
 else
  some false
def y17 (s:ByteArray):(Unit ⊕ Unit)→Option Bool :=
 (Sum.elim (jo7 s) (jo8 s))
def y35 (s:ByteArray):Option Bool :=
 Option.bind (jad (y60 s) big (0:Int)) (y17 s)
def ji0:List A→Option (Prop × List RV)
 |[.d (.s s)]=>some (ok (y35 s),[.d (.b ((val (y35 s))))])
 |_=>none
abbrev sp_78:jab→jab:=jaX 78 true (jaP jnd ji0)
abbrev jcp (s:ByteArray) (v0:Int × Nat):=(↑(UInt8.toNat (Array.getD (ByteArray.data s) (Int.toNat v0.1) (0:UInt8))):Int)
abbrev jd0 (s:ByteArray):=((↑(ByteArray.size s):Int)=(↑(ByteArray.size s):Int))
abbrev jeG (v0 v1:Int × Nat):=(wrap .i64 (v0.1+1)=v1.1)
private abbrev qi0 (s:ByteArray) (v1:Int × Nat):=(jad (y60 s) v1.2 v1.1)
theorem jsb (s:ByteArray) (r:Bool) (h:Option.bind (y35 s) some=some r):jct Tryz.f78 (sp0) (fun gs id _=>match id with
 |0=>some ⟨Int × Nat,fun z=>⟨[(0,.w (.c (.d (.s s)))),(7,.w (.c (.d (.i .i64 ((↑(ByteArray.size s):Int)))))),(8,.w (.c (.d (.i .i64 (Prod.fst z)))))],[],1⟩,fun z=>Option.bind (jad (y60 s) (Prod.snd z) (Prod.fst z)) (fun y0=>Option.bind (y17 s y0) some)=some r,fun z=>Prod.snd z⟩
 |_=>none) [.d (.s s)] [.d (.b r)]:=by
 refine Eq.mp (by kernel_rfl:(
 ((∃(v0:Int × Nat),(Ob ((Option.bind (jad (y60 s) v0.2 v0.1) fun y0=>Option.bind (y17 s y0) some)=some r) ∧
 (Ob (s=s) ∧
 (Ob (jd0 s) ∧
 (Ob ((0:Int)=v0.1) ∧
 True))))) ∧
  (∀(v0:Int × Nat),((Option.bind (jad (y60 s) v0.2 v0.1) fun y0=>Option.bind (y17 s y0) some)=some r →
 Br (decide (v0.1<(↑(ByteArray.size s):Int)))
  ((Ob (0≤v0.1∧v0.1<(↑(ByteArray.size s):Int)) ∧
 Br (decide ((jcp s v0)≥97))
 (Br (decide ((jcp s v0)≤122))
  ((∃(v1:Int × Nat),(Ob ((Option.bind (qi0 s v1) fun y0=>Option.bind (y17 s y0) some)=some r) ∧
 (Ob (v1.2<v0.2) ∧
 (Ob (s=s) ∧
 (Ob (jd0 s) ∧
 (Ob (jeG v0 v1) ∧
 True)))))))
 (Br (decide ((jcp s v0)≥65))
 (Br (!decide ((jcp s v0)≤90))
 (Br (v0.1==0)
  ((Ob True ∧
 (Ob (false=r) ∧
 True)))
 (Br ((jcp s v0)!=45)
 (Br (decide ((jcp s v0)<48))
  ((Ob True ∧
 (Ob (false=r) ∧
 True)))
 (Br (decide ((jcp s v0)>57))
  ((Ob True ∧
 (Ob (false=r) ∧
 True)))
  ((∃(v1:Int × Nat),(Ob ((Option.bind (qi0 s v1) fun y0=>Option.bind (y17 s y0) some)=some r) ∧
 (Ob (v1.2<v0.2) ∧
 (Ob (s=s) ∧
 (Ob (jd0 s) ∧
 (Ob (jeG v0 v1) ∧
 True)))))))))
  ((∃(v1:Int × Nat),(Ob ((Option.bind (qi0 s v1) fun y0=>Option.bind (y17 s y0) some)=some r) ∧
 (Ob (v1.2<v0.2) ∧
 (Ob (s=s) ∧
 (Ob (jd0 s) ∧
 (Ob (jeG v0 v1) ∧
 True)))))))))
  ((∃(v1:Int × Nat),(Ob ((Option.bind (qi0 s v1) fun y0=>Option.bind (y17 s y0) some)=some r) ∧
 (Ob (v1.2<v0.2) ∧
 (Ob (s=s) ∧
 (Ob (jd0 s) ∧
 (Ob (jeG v0 v1) ∧
 True))))))))
 (Br (v0.1==0)
  ((Ob True ∧
 (Ob (false=r) ∧
 True)))
 (Br ((jcp s v0)!=45)
 (Br (decide ((jcp s v0)<48))
  ((Ob True ∧
 (Ob (false=r) ∧
 True)))
 (Br (decide ((jcp s v0)>57))
  ((Ob True ∧
 (Ob (false=r) ∧
 True)))
  ((∃(v1:Int × Nat),(Ob ((Option.bind (qi0 s v1) fun y0=>Option.bind (y17 s y0) some)=some r) ∧
 (Ob (v1.2<v0.2) ∧
 (Ob (s=s) ∧
 (Ob (jd0 s) ∧
 (Ob (jeG v0 v1) ∧
 True)))))))))
  ((∃(v1:Int × Nat),(Ob ((Option.bind (qi0 s v1) fun y0=>Option.bind (y17 s y0) some)=some r) ∧
 (Ob (v1.2<v0.2) ∧
 (Ob (s=s) ∧
 (Ob (jd0 s) ∧
 (Ob (jeG v0 v1) ∧
 True)))))))))))
 (Br (decide ((jcp s v0)≥65))
 (Br (!decide ((jcp s v0)≤90))
 (Br (v0.1==0)
  ((Ob True ∧
 (Ob (false=r) ∧
 True)))
 (Br ((jcp s v0)!=45)
 (Br (decide ((jcp s v0)<48))
  ((Ob True ∧
 (Ob (false=r) ∧
 True)))
 (Br (decide ((jcp s v0)>57))
  ((Ob True ∧
 (Ob (false=r) ∧
 True)))
  ((∃(v1:Int × Nat),(Ob ((Option.bind (qi0 s v1) fun y0=>Option.bind (y17 s y0) some)=some r) ∧
 (Ob (v1.2<v0.2) ∧
 (Ob (s=s) ∧
 (Ob (jd0 s) ∧
 (Ob (jeG v0 v1) ∧
 True)))))))))
  ((∃(v1:Int × Nat),(Ob ((Option.bind (qi0 s v1) fun y0=>Option.bind (y17 s y0) some)=some r) ∧
 (Ob (v1.2<v0.2) ∧
 (Ob (s=s) ∧
 (Ob (jd0 s) ∧
 (Ob (jeG v0 v1) ∧
 True)))))))))
  ((∃(v1:Int × Nat),(Ob ((Option.bind (qi0 s v1) fun y0=>Option.bind (y17 s y0) some)=some r) ∧
 (Ob (v1.2<v0.2) ∧
 (Ob (s=s) ∧
 (Ob (jd0 s) ∧
 (Ob (jeG v0 v1) ∧
 True))))))))
 (Br (v0.1==0)
  ((Ob True ∧
 (Ob (false=r) ∧
 True)))
 (Br ((jcp s v0)!=45)
 (Br (decide ((jcp s v0)<48))
  ((Ob True ∧
 (Ob (false=r) ∧
 True)))
 (Br (decide ((jcp s v0)>57))
  ((Ob True ∧
 (Ob (false=r) ∧
 True)))
  ((∃(v1:Int × Nat),(Ob ((Option.bind (qi0 s v1) fun y0=>Option.bind (y17 s y0) some)=some r) ∧
 (Ob (v1.2<v0.2) ∧
 (Ob (s=s) ∧
 (Ob (jd0 s) ∧
 (Ob (jeG v0 v1) ∧
 True)))))))))
  ((∃(v1:Int × Nat),(Ob ((Option.bind (qi0 s v1) fun y0=>Option.bind (y17 s y0) some)=some r) ∧
 (Ob (v1.2<v0.2) ∧
 (Ob (s=s) ∧
 (Ob (jd0 s) ∧
 (Ob (jeG v0 v1) ∧
 True))))))))))))
 (Br (s != ByteArray.mk #[])
  ((Ob True ∧
 (Ob (decide ((↑(ByteArray.size s):Int)≤12)=r) ∧
 True)))
  ((Ob True ∧
 (Ob (false=r) ∧
 True))))))))=_) ?_
 refine⟨⟨((0:Int),big),⟨jaT h⟩,(by repeat' constructor)⟩,fun z0 hz0=>?_⟩
 obtain⟨k0,hm0,h⟩:=jaD hz0
 refine jay h (fun h=>?_) (fun h=>?_)
 ·refine jaz h fun h=>?_
  refine jay h (fun h=>?_) (fun h=>?_)
  ·refine jay h (fun h=>?_) (fun h=>?_)
   ·exact⟨(_,k0),⟨jav h⟩,⟨jaC hm0.symm⟩,(by repeat' constructor)⟩
   ·refine jay h (fun h=>?_) (fun h=>?_)
    ·refine jaw h (fun h=>?_) (fun h=>?_)
     ·refine jaw h (fun h=>?_) (fun h=>?_)
      ·have h:=jah h
       refine jaf ?_
       exact rcs h
      ·refine jaw h (fun h=>?_) (fun h=>?_)
       ·refine jay h (fun h=>?_) (fun h=>?_)
        ·have h:=jah h
         refine jaf ?_
         exact rcs h
        ·refine jay h (fun h=>?_) (fun h=>?_)
         ·have h:=jah h
          refine jaf ?_
          exact rcs h
         ·exact⟨(_,k0),⟨jav h⟩,⟨jaC hm0.symm⟩,(by repeat' constructor)⟩
       ·exact⟨(_,k0),⟨jav h⟩,⟨jaC hm0.symm⟩,(by repeat' constructor)⟩
     ·exact⟨(_,k0),⟨jav h⟩,⟨jaC hm0.symm⟩,(by repeat' constructor)⟩
    ·refine jaw h (fun h=>?_) (fun h=>?_)
     ·have h:=jah h
      refine jaf ?_
      exact rcs h
     ·refine jaw h (fun h=>?_) (fun h=>?_)
      ·refine jay h (fun h=>?_) (fun h=>?_)
       ·have h:=jah h
        refine jaf ?_
        exact rcs h
       ·refine jay h (fun h=>?_) (fun h=>?_)
        ·have h:=jah h
         refine jaf ?_
         exact rcs h
        ·exact⟨(_,k0),⟨jav h⟩,⟨jaC hm0.symm⟩,(by repeat' constructor)⟩
      ·exact⟨(_,k0),⟨jav h⟩,⟨jaC hm0.symm⟩,(by repeat' constructor)⟩
  ·refine jay h (fun h=>?_) (fun h=>?_)
   ·refine jaw h (fun h=>?_) (fun h=>?_)
    ·refine jaw h (fun h=>?_) (fun h=>?_)
     ·have h:=jah h
      refine jaf ?_
      exact rcs h
     ·refine jaw h (fun h=>?_) (fun h=>?_)
      ·refine jay h (fun h=>?_) (fun h=>?_)
       ·have h:=jah h
        refine jaf ?_
        exact rcs h
       ·refine jay h (fun h=>?_) (fun h=>?_)
        ·have h:=jah h
         refine jaf ?_
         exact rcs h
        ·exact⟨(_,k0),⟨jav h⟩,⟨jaC hm0.symm⟩,(by repeat' constructor)⟩
      ·exact⟨(_,k0),⟨jav h⟩,⟨jaC hm0.symm⟩,(by repeat' constructor)⟩
    ·exact⟨(_,k0),⟨jav h⟩,⟨jaC hm0.symm⟩,(by repeat' constructor)⟩
   ·refine jaw h (fun h=>?_) (fun h=>?_)
    ·have h:=jah h
     refine jaf ?_
     exact rcs h
    ·refine jaw h (fun h=>?_) (fun h=>?_)
     ·refine jay h (fun h=>?_) (fun h=>?_)
      ·have h:=jah h
       refine jaf ?_
       exact rcs h
      ·refine jay h (fun h=>?_) (fun h=>?_)
       ·have h:=jah h
        refine jaf ?_
        exact rcs h
       ·exact⟨(_,k0),⟨jav h⟩,⟨jaC hm0.symm⟩,(by repeat' constructor)⟩
     ·exact⟨(_,k0),⟨jav h⟩,⟨jaC hm0.symm⟩,(by repeat' constructor)⟩
 ·have h:=jah h
  refine jaw h (fun h=>?_) (fun h=>?_)
  ·refine jaf ?_
   exact rcs h
  ·refine jaf ?_
   exact rcs h
theorem jsc:jaj Tryz.prog 78 true (jaP jnd ji0):=by
 refine ja1 (sp:=sp0) (fn:=Tryz.f78) (body:=bodyOf Tryz.f78) mixed jaB Tryz.func78 (by kernel_rfl) (by kernel_rfl) fun as_ ob rs h ho=>?_
 unfold ji0 at h
 split at h
 ·rename_i s
  cases h
  exact⟨Nat.le_of_ble_eq_true rfl,_,_,jsb s _ (jax ho)⟩
 ·cases h
theorem sp_78_ok {sp:jab} (h:jac Tryz.prog sp):jac Tryz.prog (sp_78 sp):=jaA jsc h
def jfY:List SV:=[.c (.d),.c (.p [.d,.x (.st [.s,.i .i64,.ints .i64,.ints .i64,.ints .i64,.i .i64,.recs 5,.i .i64] [])])]
def y45 (n:Int) (u28:ByteArray) (u41:List (List NC)):Option Bool :=
 Option.bind (y9 n (0:Int) (wrap .i64 ((↑(List.length u41):Int)-1))) fun r0 =>
 some r0
def jfZ:List Lf→Option GT
 |[.d (.i .i64 n),.d (.s u28),.x (.st [.s,.i .i64,.ints .i64,.ints .i64,.ints .i64,.i .i64,.recs 5,.i .i64] u41)]=>some (.leaf (ok (y45 n u28 u41)) [.c (.d (.b ((val (y45 n u28 u41)))))])
 |_=>none
abbrev sp_122:jab→jab:=jaX 122 true (jat jfY jfZ)
def jo9 (n:Int) (u28:ByteArray) (u41:List (List NC)):T (Bool) :=
 .obT
 (.call (y9 n (0:Int) (wrap .i64 ((↑(List.length u41):Int)-1))) fun r0 =>
 .obT
 (.rc (r0)))
theorem jn9 (n:Int) (u28:ByteArray) (u41:List (List NC)) (r:Bool) (h:Option.bind (y45 n u28 u41) some=some r):jbQ Tryz.f122 ((sp_84 sp0)) (fun _ _ _=>none) (jbA jfY [.d (.i .i64 n),.d (.s u28),.x (.st [.s,.i .i64,.ints .i64,.ints .i64,.ints .i64,.i .i64,.recs 5,.i .i64] u41)]) [.c (.d (.b r))] :=
 T.vc (t:=jo9 n u28 u41) (by kernel_rfl) (by kernel_rfl) h
theorem joa:jaj Tryz.prog 122 true (jat jfY jfZ):=by
 refine jaS (sp:=(sp_84 sp0)) (fn:=Tryz.f122) (body:=bodyOf Tryz.f122) mixed (sp_84_ok jaB) Tryz.func122 (by kernel_rfl) (by kernel_rfl) fun ls t h ho b hb=>?_
 unfold jfZ at h
 split at h
 ·rename_i n u28 u41
  cases h
  obtain rfl:=ja9 hb
  exact⟨Nat.le_of_ble_eq_true (by kernel_rfl),_,_,jn9 n u28 u41 _ (jax ho)⟩
 ·cases h
theorem sp_122_ok {sp:jab} (h:jac Tryz.prog sp):jac Tryz.prog (sp_122 sp):=jaA joa h
def jf0:List SV:=[.c (.d),.c (.p [.f 122 [.p [.d,.x (.st [.s,.i .i64,.ints .i64,.ints .i64,.ints .i64,.i .i64,.recs 5,.i .i64] [])]]])]
def y72 (n:Int) (u42:ByteArray) (u43:List (List NC)):Option Bool :=
 Option.bind (y45 n u42 u43) fun r0 =>
 some !r0
def jf1:List Lf→Option GT
 |[.d (.i .i64 n),.d (.s u42),.x (.st [.s,.i .i64,.ints .i64,.ints .i64,.ints .i64,.i .i64,.recs 5,.i .i64] u43)]=>some (.leaf (ok (y72 n u42 u43)) [.c (.d (.b ((val (y72 n u42 u43)))))])
 |_=>none
abbrev sp_124:jab→jab:=jaX 124 true (jat jf0 jf1)
def jpa (n:Int) (u42:ByteArray) (u43:List (List NC)):T (Bool) :=
 .obT
 (.call (y45 n u42 u43) fun r0 =>
 .obT
 (.rc (!r0)))
theorem job (n:Int) (u42:ByteArray) (u43:List (List NC)) (r:Bool) (h:Option.bind (y72 n u42 u43) some=some r):jbQ Tryz.f124 ((sp_122 sp0)) (fun _ _ _=>none) (jbA jf0 [.d (.i .i64 n),.d (.s u42),.x (.st [.s,.i .i64,.ints .i64,.ints .i64,.ints .i64,.i .i64,.recs 5,.i .i64] u43)]) [.c (.d (.b r))] :=
 T.vc (t:=jpa n u42 u43) (by kernel_rfl) (by kernel_rfl) h
theorem joc:jaj Tryz.prog 124 true (jat jf0 jf1):=by
 refine jaS (sp:=(sp_122 sp0)) (fn:=Tryz.f124) (body:=bodyOf Tryz.f124) mixed (sp_122_ok jaB) Tryz.func124 (by kernel_rfl) (by kernel_rfl) fun ls t h ho b hb=>?_
 unfold jf1 at h
 split at h
 ·rename_i n u42 u43
  cases h
  obtain rfl:=ja9 hb
  exact⟨Nat.le_of_ble_eq_true (by kernel_rfl),_,_,job n u42 u43 _ (jax ho)⟩
 ·cases h
theorem sp_124_ok {sp:jab} (h:jac Tryz.prog sp):jac Tryz.prog (sp_124 sp):=jaA joc h
def y67:List SV:=[.c (.r (.ints .i64 [])),.c (.f 124 [.p [.f 122 [.p [.d,.x (.st [.s,.i .i64,.ints .i64,.ints .i64,.ints .i64,.i .i64,.recs 5,.i .i64] [])]]]])]
def y7 (s:List Int) (u29:ByteArray) (u30:List (List NC)) (x0:Int):Option (Int ⊕ (Int ⊕ Unit)) :=
 if x0<(↑(List.length s):Int)then
  if 0≤x0∧x0<(↑(List.length s):Int)then
  if Int.toNat x0<List.length s then
   Option.bind (y72 (List.getD s (Int.toNat x0) (0:Int)) u29 u30) fun r0 =>
   if(r0)=true then
   some (.inr (.inl x0))
   else
   some (.inl (wrap .i64 (x0+1)))
  else none
  else none
 else
  some (.inr ((.inr ())))
def y119 (u3:Int):Option Int :=
 some u3
def y120 (u4:Unit):Option Int :=
 some (-1:Int)
def y25:(Int ⊕ Unit)→Option Int :=
 (Sum.elim (y119) (y120))
def y22 (s:List Int) (u29:ByteArray) (u30:List (List NC)):Option Int :=
 Option.bind (jad (y7 s u29 u30) big (0:Int)) (y25)
def y68:List Lf→Option GT
 |[.r (.ints .i64 s),.d (.s u29),.x (.st [.s,.i .i64,.ints .i64,.ints .i64,.ints .i64,.i .i64,.recs 5,.i .i64] u30)]=>some (.leaf (ok (y22 s u29 u30)) [.c (.d (.i .i64 ((val (y22 s u29 u30)))))])
 |_=>none
abbrev sp_156_124:jab→jab:=jaX 156 true (jat y67 y68)
theorem y124 (s:List Int) (u29:ByteArray) (u30:List (List NC)) (r:Int) (h:Option.bind (y22 s u29 u30) some=some r):jbQ Tryz.f156 ((sp_124 (sp_122 sp0))) (fun gs id _=>match id with
 |0=>some ⟨Int × Nat,fun z=>⟨[(0,.w (.c (.o 0))),(1,.w (.c (.fn 124 [3]))),(7,.w (.c (.d (.i .i64 ((↑(List.length s):Int)))))),(8,.w (.c (.d (.i .i64 (Prod.fst z)))))],[(0,.ext (.ints .i64 s)),(3,.ebox [.fn 122 [2]]),(2,.ebox [.d (.s u29),.o 1]),(1,.xext (XC.st [NK.s,NK.i .i64,NK.ints .i64,NK.ints .i64,NK.ints .i64,NK.i .i64,NK.recs (5:Nat),NK.i .i64] u30))],4⟩,fun z=>Option.bind (jad (y7 s u29 u30) (Prod.snd z) (Prod.fst z)) (fun y0=>Option.bind (y25 y0) some)=some r,fun z=>Prod.snd z⟩
 |_=>none) (jbA y67 [.r (.ints .i64 s),.d (.s u29),.x (.st [.s,.i .i64,.ints .i64,.ints .i64,.ints .i64,.i .i64,.recs 5,.i .i64] u30)]) [.c (.d (.i .i64 r))]:=by
 refine Eq.mp (by kernel_rfl:(
 ((∃(v0:Int × Nat),(Ob ((Option.bind (jad (y7 s u29 u30) v0.2 v0.1) fun y0=>Option.bind (y25 y0) some)=some r) ∧
 (Ob ((↑(List.length s):Int)=(↑(List.length s):Int)) ∧
 (Ob ((0:Int)=v0.1) ∧
 (Ob (s=s) ∧
 (Ob (u29=u29) ∧
 (Ob (u30=u30) ∧
 True))))))) ∧
  (∀(v0:Int × Nat),((Option.bind (jad (y7 s u29 u30) v0.2 v0.1) fun y0=>Option.bind (y25 y0) some)=some r →
 Br (decide (v0.1<(↑(List.length s):Int)))
  ((Ob (0≤v0.1∧v0.1<(↑(List.length s):Int)) ∧
 (Ob (Int.toNat v0.1<List.length s) ∧
 (Ob (ok (y72 (List.getD s (Int.toNat v0.1) (0:Int)) u29 u30)) ∧
 Br (val (y72 (List.getD s (Int.toNat v0.1) (0:Int)) u29 u30))
  ((Ob True ∧
 (Ob (v0.1=r) ∧
 True)))
  ((∃(v1:Int × Nat),(Ob ((Option.bind (jad (y7 s u29 u30) v1.2 v1.1) fun y0=>Option.bind (y25 y0) some)=some r) ∧
 (Ob (v1.2<v0.2) ∧
 (Ob ((↑(List.length s):Int)=(↑(List.length s):Int)) ∧
 (Ob (wrap .i64 (v0.1+1)=v1.1) ∧
 (Ob (s=s) ∧
 (Ob (u29=u29) ∧
 (Ob (u30=u30) ∧
 True)))))))))))))
  ((Ob True ∧
 (Ob ((-1:Int)=r) ∧
 True)))))))=_) ?_
 refine⟨⟨((0:Int),big),⟨jaT h⟩,(by repeat' constructor)⟩,fun z1 hz1=>?_⟩
 obtain⟨k1,hm1,h⟩:=jaD hz1
 refine jay h (fun h=>?_) (fun h=>?_)
 ·refine jaz h fun h=>?_
  refine jaz h fun h=>?_
  refine jaE h fun h=>?_
  refine jaw h (fun h=>?_) (fun h=>?_)
  ·have h:=jah h
   refine jaf ?_
   exact rcs h
  ·exact⟨(_,k1),⟨jav h⟩,⟨jaC hm1.symm⟩,(by repeat' constructor)⟩
 ·have h:=jah h
  refine jaf ?_
  exact rcs h
theorem y125:jaj Tryz.prog 156 true (jat y67 y68):=by
 refine jaS (sp:=(sp_124 (sp_122 sp0))) (fn:=Tryz.f156) (body:=bodyOf Tryz.f156) mixed (sp_124_ok (sp_122_ok jaB)) Tryz.func156 (by kernel_rfl) (by kernel_rfl) fun ls t h ho b hb=>?_
 unfold y68 at h
 split at h
 ·rename_i s u29 u30
  cases h
  obtain rfl:=ja9 hb
  exact⟨Nat.le_of_ble_eq_true (by kernel_rfl),_,_,y124 s u29 u30 _ (jax ho)⟩
 ·cases h
theorem sp_156_124_ok {sp:jab} (h:jac Tryz.prog sp):jac Tryz.prog (sp_156_124 sp):=jaA y125 h
def y50:List SV:=[.c (.r (.ints .i64 [])),.c (.f 124 [.p [.f 122 [.p [.d,.x (.st [.s,.i .i64,.ints .i64,.ints .i64,.ints .i64,.i .i64,.recs 5,.i .i64] [])]]]])]
def y5 (s:List Int) (u29:ByteArray) (u30:List (List NC)):Option Bool :=
 Option.bind (y22 s u29 u30) fun r0 =>
 some (decide (r0≥0))
def y51:List Lf→Option GT
 |[.r (.ints .i64 s),.d (.s u29),.x (.st [.s,.i .i64,.ints .i64,.ints .i64,.ints .i64,.i .i64,.recs 5,.i .i64] u30)]=>some (.leaf (ok (y5 s u29 u30)) [.c (.d (.b ((val (y5 s u29 u30)))))])
 |_=>none
abbrev sp_123_124:jab→jab:=jaX 123 true (jat y50 y51)
def y121 (s:List Int) (u29:ByteArray) (u30:List (List NC)):T (Bool) :=
 .call (y22 s u29 u30) fun r0 =>
 .obT
 (.rc ((decide (r0≥0))))
theorem y117 (s:List Int) (u29:ByteArray) (u30:List (List NC)) (r:Bool) (h:Option.bind (y5 s u29 u30) some=some r):jbQ Tryz.f123 ((sp_156_124 (sp_124 (sp_122 sp0)))) (fun _ _ _=>none) (jbA y50 [.r (.ints .i64 s),.d (.s u29),.x (.st [.s,.i .i64,.ints .i64,.ints .i64,.ints .i64,.i .i64,.recs 5,.i .i64] u30)]) [.c (.d (.b r))] :=
 T.vc (t:=y121 s u29 u30) (by kernel_rfl) (by kernel_rfl) h
theorem y118:jaj Tryz.prog 123 true (jat y50 y51):=by
 refine jaS (sp:=(sp_156_124 (sp_124 (sp_122 sp0)))) (fn:=Tryz.f123) (body:=bodyOf Tryz.f123) mixed (sp_156_124_ok (sp_124_ok (sp_122_ok jaB))) Tryz.func123 (by kernel_rfl) (by kernel_rfl) fun ls t h ho b hb=>?_
 unfold y51 at h
 split at h
 ·rename_i s u29 u30
  cases h
  obtain rfl:=ja9 hb
  exact⟨Nat.le_of_ble_eq_true (by kernel_rfl),_,_,y117 s u29 u30 _ (jax ho)⟩
 ·cases h
theorem sp_123_124_ok {sp:jab} (h:jac Tryz.prog sp):jac Tryz.prog (sp_123_124 sp):=jaA y118 h
def jf2:List SV:=[.a [.d,.d,.r (.ints .i64 []),.r (.ints .i64 []),.r (.ints .i64 []),.d,.r (.recs 5 []),.d],.c (.p [.d,.d,.r (.ints .i64 []),.r (.ints .i64 []),.r (.ints .i64 []),.d,.r (.recs 5 []),.d])]
def y73 (u44:ByteArray) (u45:Int) (u46 u47 u48:List Int) (u49:Int) (u50:List (List Int)) (u51:Int) (u28:ByteArray) (u52:Int) (u53 u54 u55:List Int) (u56:Int) (u57:List (List Int)) (u58:Int):Option Bool :=
 some (u44==u28)
def jf3:List Lf→Option GT
 |[.d (.s u44),.d (.i .i64 u45),.r (.ints .i64 u46),.r (.ints .i64 u47),.r (.ints .i64 u48),.d (.i .i64 u49),.r (.recs 5 u50),.d (.i .i64 u51),.d (.s u28),.d (.i .i64 u52),.r (.ints .i64 u53),.r (.ints .i64 u54),.r (.ints .i64 u55),.d (.i .i64 u56),.r (.recs 5 u57),.d (.i .i64 u58)]=>some (.leaf (ok (y73 u44 u45 u46 u47 u48 u49 u50 u51 u28 u52 u53 u54 u55 u56 u57 u58)) [.c (.d (.b ((val (y73 u44 u45 u46 u47 u48 u49 u50 u51 u28 u52 u53 u54 u55 u56 u57 u58)))))])
 |_=>none
abbrev sp_126:jab→jab:=jaX 126 true (jat jf2 jf3)
def jpb (u44:ByteArray) (u45:Int) (u46 u47 u48:List Int) (u49:Int) (u50:List (List Int)) (u51:Int) (u28:ByteArray) (u52:Int) (u53 u54 u55:List Int) (u56:Int) (u57:List (List Int)) (u58:Int):T (Bool) :=
 .obT
 (.obT
 (.rc ((u44==u28))))
theorem jod (u44:ByteArray) (u45:Int) (u46 u47 u48:List Int) (u49:Int) (u50:List (List Int)) (u51:Int) (u28:ByteArray) (u52:Int) (u53 u54 u55:List Int) (u56:Int) (u57:List (List Int)) (u58:Int) (r:Bool) (h:Option.bind (y73 u44 u45 u46 u47 u48 u49 u50 u51 u28 u52 u53 u54 u55 u56 u57 u58) some=some r):jbQ Tryz.f126 (sp0) (fun _ _ _=>none) (jbA jf2 [.d (.s u44),.d (.i .i64 u45),.r (.ints .i64 u46),.r (.ints .i64 u47),.r (.ints .i64 u48),.d (.i .i64 u49),.r (.recs 5 u50),.d (.i .i64 u51),.d (.s u28),.d (.i .i64 u52),.r (.ints .i64 u53),.r (.ints .i64 u54),.r (.ints .i64 u55),.d (.i .i64 u56),.r (.recs 5 u57),.d (.i .i64 u58)]) [.c (.d (.b r))] :=
 T.vc (t:=jpb u44 u45 u46 u47 u48 u49 u50 u51 u28 u52 u53 u54 u55 u56 u57 u58) (by kernel_rfl) (by kernel_rfl) h
theorem joe:jaj Tryz.prog 126 true (jat jf2 jf3):=by
 refine jaS (sp:=sp0) (fn:=Tryz.f126) (body:=bodyOf Tryz.f126) mixed jaB Tryz.func126 (by kernel_rfl) (by kernel_rfl) fun ls t h ho b hb=>?_
 unfold jf3 at h
 split at h
 ·rename_i u44 u45 u46 u47 u48 u49 u50 u51 u28 u52 u53 u54 u55 u56 u57 u58
  cases h
  obtain rfl:=ja9 hb
  exact⟨Nat.le_of_ble_eq_true (by kernel_rfl),_,_,jod u44 u45 u46 u47 u48 u49 u50 u51 u28 u52 u53 u54 u55 u56 u57 u58 _ (jax ho)⟩
 ·cases h
theorem sp_126_ok {sp:jab} (h:jac Tryz.prog sp):jac Tryz.prog (sp_126 sp):=jaA joe h
def y37:List SV:=[.c (.x (.st [.s,.i .i64,.ints .i64,.ints .i64,.ints .i64,.i .i64,.recs 5,.i .i64] [])),.c (.f 126 [.p [.d,.d,.r (.ints .i64 []),.r (.ints .i64 []),.r (.ints .i64 []),.d,.r (.recs 5 []),.d]])]
def y2 (s:List (List NC)) (u31:ByteArray) (u32:Int) (u33 u34 u35:List Int) (u36:Int) (u37:List (List Int)) (u38 x0:Int):Option (Int ⊕ (Int ⊕ Unit)) :=
 if x0<(↑(List.length s):Int)then
  if 0≤x0∧x0<(↑(List.length s):Int)then
  if Int.toNat x0<List.length s then
   Option.bind (y73 (nS s (Int.toNat x0) (0:Nat)) (nI s (Int.toNat x0) (1:Nat)) (nL s (Int.toNat x0) (2:Nat)) (nL s (Int.toNat x0) (3:Nat)) (nL s (Int.toNat x0) (4:Nat)) (nI s (Int.toNat x0) (5:Nat)) (nR s (Int.toNat x0) (6:Nat)) (nI s (Int.toNat x0) (7:Nat)) u31 u32 u33 u34 u35 u36 u37 u38) fun r0 =>
   if(r0)=true then
   some (.inr (.inl x0))
   else
   some (.inl (wrap .i64 (x0+1)))
  else none
  else none
 else
  some (.inr ((.inr ())))
def y99 (u3:Int):Option Int :=
 some u3
def y100 (u4:Unit):Option Int :=
 some (-1:Int)
def y10:(Int ⊕ Unit)→Option Int :=
 (Sum.elim (y99) (y100))
def y8 (s:List (List NC)) (u31:ByteArray) (u32:Int) (u33 u34 u35:List Int) (u36:Int) (u37:List (List Int)) (u38:Int):Option Int :=
 Option.bind (jad (y2 s u31 u32 u33 u34 u35 u36 u37 u38) big (0:Int)) (y10)
def y38:List Lf→Option GT
 |[.x (.st [.s,.i .i64,.ints .i64,.ints .i64,.ints .i64,.i .i64,.recs 5,.i .i64] s),.d (.s u31),.d (.i .i64 u32),.r (.ints .i64 u33),.r (.ints .i64 u34),.r (.ints .i64 u35),.d (.i .i64 u36),.r (.recs 5 u37),.d (.i .i64 u38)]=>some (.leaf (ok (y8 s u31 u32 u33 u34 u35 u36 u37 u38)) [.c (.d (.i .i64 ((val (y8 s u31 u32 u33 u34 u35 u36 u37 u38)))))])
 |_=>none
abbrev sp_157_126:jab→jab:=jaX 157 true (jat y37 y38)
theorem y104 (s:List (List NC)) (u31:ByteArray) (u32:Int) (u33 u34 u35:List Int) (u36:Int) (u37:List (List Int)) (u38 r:Int) (h:Option.bind (y8 s u31 u32 u33 u34 u35 u36 u37 u38) some=some r):jbQ Tryz.f157 ((sp_126 sp0)) (fun gs id _=>match id with
 |0=>some ⟨Int × Nat,fun z=>⟨[(0,.w (.c (.o 0))),(1,.w (.c (.fn 126 [5]))),(7,.w (.c (.d (.i .i64 ((↑(List.length s):Int)))))),(8,.w (.c (.d (.i .i64 (Prod.fst z)))))],[(0,.xext (XC.st [NK.s,NK.i .i64,NK.ints .i64,NK.ints .i64,NK.ints .i64,NK.i .i64,NK.recs (5:Nat),NK.i .i64] s)),(5,.ebox [.d (.s u31),.d (.i .i64 u32),.o 1,.o 2,.o 3,.d (.i .i64 u36),.o 4,.d (.i .i64 u38)]),(1,.ext (.ints .i64 u33)),(2,.ext (.ints .i64 u34)),(3,.ext (.ints .i64 u35)),(4,.ext (.recs 5 u37))],6⟩,fun z=>Option.bind (jad (y2 s u31 u32 u33 u34 u35 u36 u37 u38) (Prod.snd z) (Prod.fst z)) (fun y0=>Option.bind (y10 y0) some)=some r,fun z=>Prod.snd z⟩
 |_=>none) (jbA y37 [.x (.st [.s,.i .i64,.ints .i64,.ints .i64,.ints .i64,.i .i64,.recs 5,.i .i64] s),.d (.s u31),.d (.i .i64 u32),.r (.ints .i64 u33),.r (.ints .i64 u34),.r (.ints .i64 u35),.d (.i .i64 u36),.r (.recs 5 u37),.d (.i .i64 u38)]) [.c (.d (.i .i64 r))]:=by
 refine Eq.mp (by kernel_rfl:(
 ((∃(v0:Int × Nat),(Ob ((Option.bind (jad (y2 s u31 u32 u33 u34 u35 u36 u37 u38) v0.2 v0.1) fun y0=>Option.bind (y10 y0) some)=some r) ∧
 (Ob ((↑(List.length s):Int)=(↑(List.length s):Int)) ∧
 (Ob ((0:Int)=v0.1) ∧
 (Ob (s=s) ∧
 (Ob (u31=u31) ∧
 (Ob (u32=u32) ∧
 (Ob (u36=u36) ∧
 (Ob (u38=u38) ∧
 (Ob (u33=u33) ∧
 (Ob (u34=u34) ∧
 (Ob (u35=u35) ∧
 (Ob (u37=u37) ∧
 True))))))))))))) ∧
  (∀(v0:Int × Nat),((Option.bind (jad (y2 s u31 u32 u33 u34 u35 u36 u37 u38) v0.2 v0.1) fun y0=>Option.bind (y10 y0) some)=some r →
 Br (decide (v0.1<(↑(List.length s):Int)))
  ((Ob (0≤v0.1∧v0.1<(↑(List.length s):Int)) ∧
 (Ob (Int.toNat v0.1<List.length s) ∧
 (Ob (ok (y73 (nS s (Int.toNat v0.1) (0:Nat)) (nI s (Int.toNat v0.1) (1:Nat)) (nL s (Int.toNat v0.1) (2:Nat)) (nL s (Int.toNat v0.1) (3:Nat)) (nL s (Int.toNat v0.1) (4:Nat)) (nI s (Int.toNat v0.1) (5:Nat)) (nR s (Int.toNat v0.1) (6:Nat)) (nI s (Int.toNat v0.1) (7:Nat)) u31 u32 u33 u34 u35 u36 u37 u38)) ∧
 Br (val (y73 (nS s (Int.toNat v0.1) (0:Nat)) (nI s (Int.toNat v0.1) (1:Nat)) (nL s (Int.toNat v0.1) (2:Nat)) (nL s (Int.toNat v0.1) (3:Nat)) (nL s (Int.toNat v0.1) (4:Nat)) (nI s (Int.toNat v0.1) (5:Nat)) (nR s (Int.toNat v0.1) (6:Nat)) (nI s (Int.toNat v0.1) (7:Nat)) u31 u32 u33 u34 u35 u36 u37 u38))
  ((Ob True ∧
 (Ob (v0.1=r) ∧
 True)))
  ((∃(v1:Int × Nat),(Ob ((Option.bind (jad (y2 s u31 u32 u33 u34 u35 u36 u37 u38) v1.2 v1.1) fun y0=>Option.bind (y10 y0) some)=some r) ∧
 (Ob (v1.2<v0.2) ∧
 (Ob ((↑(List.length s):Int)=(↑(List.length s):Int)) ∧
 (Ob (wrap .i64 (v0.1+1)=v1.1) ∧
 (Ob (s=s) ∧
 (Ob (u31=u31) ∧
 (Ob (u32=u32) ∧
 (Ob (u36=u36) ∧
 (Ob (u38=u38) ∧
 (Ob (u33=u33) ∧
 (Ob (u34=u34) ∧
 (Ob (u35=u35) ∧
 (Ob (u37=u37) ∧
 True)))))))))))))))))))
  ((Ob True ∧
 (Ob ((-1:Int)=r) ∧
 True)))))))=_) ?_
 refine⟨⟨((0:Int),big),⟨jaT h⟩,(by repeat' constructor)⟩,fun z1 hz1=>?_⟩
 obtain⟨k1,hm1,h⟩:=jaD hz1
 refine jay h (fun h=>?_) (fun h=>?_)
 ·refine jaz h fun h=>?_
  refine jaz h fun h=>?_
  refine jaE h fun h=>?_
  refine jaw h (fun h=>?_) (fun h=>?_)
  ·have h:=jah h
   refine jaf ?_
   exact rcs h
  ·exact⟨(_,k1),⟨jav h⟩,⟨jaC hm1.symm⟩,(by repeat' constructor)⟩
 ·have h:=jah h
  refine jaf ?_
  exact rcs h
theorem y105:jaj Tryz.prog 157 true (jat y37 y38):=by
 refine jaS (sp:=(sp_126 sp0)) (fn:=Tryz.f157) (body:=bodyOf Tryz.f157) mixed (sp_126_ok jaB) Tryz.func157 (by kernel_rfl) (by kernel_rfl) fun ls t h ho b hb=>?_
 unfold y38 at h
 split at h
 ·rename_i s u31 u32 u33 u34 u35 u36 u37 u38
  cases h
  obtain rfl:=ja9 hb
  exact⟨Nat.le_of_ble_eq_true (by kernel_rfl),_,_,y104 s u31 u32 u33 u34 u35 u36 u37 u38 _ (jax ho)⟩
 ·cases h
theorem sp_157_126_ok {sp:jab} (h:jac Tryz.prog sp):jac Tryz.prog (sp_157_126 sp):=jaA y105 h
def y32:List SV:=[.c (.x (.st [.s,.i .i64,.ints .i64,.ints .i64,.ints .i64,.i .i64,.recs 5,.i .i64] [])),.c (.f 126 [.p [.d,.d,.r (.ints .i64 []),.r (.ints .i64 []),.r (.ints .i64 []),.d,.r (.recs 5 []),.d]])]
def y3 (s:List (List NC)) (u31:ByteArray) (u32:Int) (u33 u34 u35:List Int) (u36:Int) (u37:List (List Int)) (u38:Int):Option Bool :=
 Option.bind (y8 s u31 u32 u33 u34 u35 u36 u37 u38) fun r0 =>
 some (decide (r0≥0))
def y33:List Lf→Option GT
 |[.x (.st [.s,.i .i64,.ints .i64,.ints .i64,.ints .i64,.i .i64,.recs 5,.i .i64] s),.d (.s u31),.d (.i .i64 u32),.r (.ints .i64 u33),.r (.ints .i64 u34),.r (.ints .i64 u35),.d (.i .i64 u36),.r (.recs 5 u37),.d (.i .i64 u38)]=>some (.leaf (ok (y3 s u31 u32 u33 u34 u35 u36 u37 u38)) [.c (.d (.b ((val (y3 s u31 u32 u33 u34 u35 u36 u37 u38)))))])
 |_=>none
abbrev sp_125_126:jab→jab:=jaX 125 true (jat y32 y33)
def y101 (s:List (List NC)) (u31:ByteArray) (u32:Int) (u33 u34 u35:List Int) (u36:Int) (u37:List (List Int)) (u38:Int):T (Bool) :=
 .call (y8 s u31 u32 u33 u34 u35 u36 u37 u38) fun r0 =>
 .obT
 (.rc ((decide (r0≥0))))
theorem y90 (s:List (List NC)) (u31:ByteArray) (u32:Int) (u33 u34 u35:List Int) (u36:Int) (u37:List (List Int)) (u38:Int) (r:Bool) (h:Option.bind (y3 s u31 u32 u33 u34 u35 u36 u37 u38) some=some r):jbQ Tryz.f125 ((sp_157_126 (sp_126 sp0))) (fun _ _ _=>none) (jbA y32 [.x (.st [.s,.i .i64,.ints .i64,.ints .i64,.ints .i64,.i .i64,.recs 5,.i .i64] s),.d (.s u31),.d (.i .i64 u32),.r (.ints .i64 u33),.r (.ints .i64 u34),.r (.ints .i64 u35),.d (.i .i64 u36),.r (.recs 5 u37),.d (.i .i64 u38)]) [.c (.d (.b r))] :=
 T.vc (t:=y101 s u31 u32 u33 u34 u35 u36 u37 u38) (by kernel_rfl) (by kernel_rfl) h
theorem y91:jaj Tryz.prog 125 true (jat y32 y33):=by
 refine jaS (sp:=(sp_157_126 (sp_126 sp0))) (fn:=Tryz.f125) (body:=bodyOf Tryz.f125) mixed (sp_157_126_ok (sp_126_ok jaB)) Tryz.func125 (by kernel_rfl) (by kernel_rfl) fun ls t h ho b hb=>?_
 unfold y33 at h
 split at h
 ·rename_i s u31 u32 u33 u34 u35 u36 u37 u38
  cases h
  obtain rfl:=ja9 hb
  exact⟨Nat.le_of_ble_eq_true (by kernel_rfl),_,_,y90 s u31 u32 u33 u34 u35 u36 u37 u38 _ (jax ho)⟩
 ·cases h
theorem sp_125_126_ok {sp:jab} (h:jac Tryz.prog sp):jac Tryz.prog (sp_125_126 sp):=jaA y91 h
def y126:List (Option Cont):=[some (.ints .i64 []),none]
def y18 (s:List Int) (v x0:Int):Option (Int ⊕ (Int ⊕ Unit)) :=
 if x0<(↑(List.length s):Int)then
  if 0≤x0∧x0<(↑(List.length s):Int)then
  if Int.toNat x0<List.length s then
   if(v==List.getD s (Int.toNat x0) (0:Int))=true then
   some (.inr (.inl x0))
   else
   some (.inl (wrap .i64 (x0+1)))
  else none
  else none
 else
  some (.inr ((.inr ())))
def jh7 (u3:Int):Option Int :=
 some u3
def jh8 (u4:Unit):Option Int :=
 some (-1:Int)
def y54:(Int ⊕ Unit)→Option Int :=
 (Sum.elim (jh7) (jh8))
def y56 (s:List Int) (v:Int):Option Int :=
 Option.bind (jad (y18 s v) big (0:Int)) (y54)
def y102:List A→Option (Prop × List RV)
 |[.r (.ints .i64 s),.d (.i .i64 v)]=>some (ok (y56 s v),[.d (.i .i64 ((val (y56 s v))))])
 |_=>none
abbrev sp_134:jab→jab:=jaX 134 true (jaP y126 y102)
theorem jjt (s:List Int) (v r:Int) (h:Option.bind (y56 s v) some=some r):jct Tryz.f134 (sp0) (fun gs id _=>match id with
 |0=>some ⟨Int × Nat,fun z=>⟨[(0,.w (.c (.o 0))),(1,.w (.c (.d (.i .i64 v)))),(7,.w (.c (.d (.i .i64 ((↑(List.length s):Int)))))),(8,.w (.c (.d (.i .i64 (Prod.fst z)))))],[(0,.ext (.ints .i64 s))],2⟩,fun z=>Option.bind (jad (y18 s v) (Prod.snd z) (Prod.fst z)) (fun y0=>Option.bind (y54 y0) some)=some r,fun z=>Prod.snd z⟩
 |_=>none) [.r (.ints .i64 s),.d (.i .i64 v)] [.d (.i .i64 r)]:=by
 refine Eq.mp (by kernel_rfl:(
 ((∃(v0:Int × Nat),(Ob ((Option.bind (jad (y18 s v) v0.2 v0.1) fun y0=>Option.bind (y54 y0) some)=some r) ∧
 (Ob (v=v) ∧
 (Ob ((↑(List.length s):Int)=(↑(List.length s):Int)) ∧
 (Ob ((0:Int)=v0.1) ∧
 (Ob (s=s) ∧
 True)))))) ∧
  (∀(v0:Int × Nat),((Option.bind (jad (y18 s v) v0.2 v0.1) fun y0=>Option.bind (y54 y0) some)=some r →
 Br (decide (v0.1<(↑(List.length s):Int)))
  ((Ob (0≤v0.1∧v0.1<(↑(List.length s):Int)) ∧
 (Ob (Int.toNat v0.1<List.length s) ∧
 Br (v==List.getD s (Int.toNat v0.1) (0:Int))
  ((Ob True ∧
 (Ob (v0.1=r) ∧
 True)))
  ((∃(v1:Int × Nat),(Ob ((Option.bind (jad (y18 s v) v1.2 v1.1) fun y0=>Option.bind (y54 y0) some)=some r) ∧
 (Ob (v1.2<v0.2) ∧
 (Ob (v=v) ∧
 (Ob ((↑(List.length s):Int)=(↑(List.length s):Int)) ∧
 (Ob (wrap .i64 (v0.1+1)=v1.1) ∧
 (Ob (s=s) ∧
 True)))))))))))
  ((Ob True ∧
 (Ob ((-1:Int)=r) ∧
 True)))))))=_) ?_
 refine⟨⟨((0:Int),big),⟨jaT h⟩,(by repeat' constructor)⟩,fun z0 hz0=>?_⟩
 obtain⟨k0,hm0,h⟩:=jaD hz0
 refine jay h (fun h=>?_) (fun h=>?_)
 ·refine jaz h fun h=>?_
  refine jaz h fun h=>?_
  refine jaw h (fun h=>?_) (fun h=>?_)
  ·have h:=jah h
   refine jaf ?_
   exact rcs h
  ·exact⟨(_,k0),⟨jav h⟩,⟨jaC hm0.symm⟩,(by repeat' constructor)⟩
 ·have h:=jah h
  refine jaf ?_
  exact rcs h
theorem jju:jaj Tryz.prog 134 true (jaP y126 y102):=by
 refine ja1 (sp:=sp0) (fn:=Tryz.f134) (body:=bodyOf Tryz.f134) mixed jaB Tryz.func134 (by kernel_rfl) (by kernel_rfl) fun as_ ob rs h ho=>?_
 unfold y102 at h
 split at h
 ·rename_i s v
  cases h
  exact⟨Nat.le_of_ble_eq_true rfl,_,_,jjt s v _ (jax ho)⟩
 ·cases h
theorem sp_134_ok {sp:jab} (h:jac Tryz.prog sp):jac Tryz.prog (sp_134 sp):=jaA jju h
def y116:List (Option Cont):=[some (.ints .i64 []),none]
def y19 (s:List Int) (v:Int):Option Bool :=
 Option.bind (y56 s v) fun r0 =>
 some (decide (r0≥0))
def y85:List A→Option (Prop × List RV)
 |[.r (.ints .i64 s),.d (.i .i64 v)]=>some (ok (y19 s v),[.d (.b ((val (y19 s v))))])
 |_=>none
abbrev sp_158:jab→jab:=jaX 158 true (jaP y116 y85)
def jh9 (s:List Int) (v:Int):T (Bool) :=
 .call (y56 s v) fun r0 =>
 .obT
 (.rc ((decide (r0≥0))))
theorem jhD (s:List Int) (v:Int) (r:Bool) (h:Option.bind (y19 s v) some=some r):jct Tryz.f158 ((sp_134 sp0)) (fun _ _ _=>none) [.r (.ints .i64 s),.d (.i .i64 v)] [.d (.b r)] :=
 T.vc (t:=jh9 s v) (by kernel_rfl) (by kernel_rfl) h
theorem jhE:jaj Tryz.prog 158 true (jaP y116 y85):=by
 refine ja1 (sp:=(sp_134 sp0)) (fn:=Tryz.f158) (body:=bodyOf Tryz.f158) mixed (sp_134_ok jaB) Tryz.func158 (by kernel_rfl) (by kernel_rfl) fun as_ ob rs h ho=>?_
 unfold y85 at h
 split at h
 ·rename_i s v
  cases h
  exact⟨Nat.le_of_ble_eq_true rfl,_,_,jhD s v _ (jax ho)⟩
 ·cases h
theorem sp_158_ok {sp:jab} (h:jac Tryz.prog sp):jac Tryz.prog (sp_158 sp):=jaA jhE h
def jlE:List (Option Cont):=[some (.ints .i64 [])]
def y48 (l:List Int) (x0:Int):Option (Int ⊕ (Unit ⊕ Unit)) :=
 if x0<(↑(List.length l):Int)then
  if 0≤x0∧x0<(↑(List.length l):Int)then
  if Int.toNat x0<List.length l then
   if 0≤Option.getD none (0:Int)∧Option.getD none 0≤Option.getD (some x0) (↑(List.length l):Int)∧Option.getD (some x0) (↑(List.length l):Int)≤(↑(List.length l):Int)then
   Option.bind (y19 (List.take (Int.toNat (Option.getD (some x0) (↑(List.length l):Int))-0) (List.drop (0:Nat) l)) (List.getD l (Int.toNat x0) (0:Int))) fun r0 =>
   if(r0)=true then
    some (.inr ((.inl ())))
   else
    some (.inl (wrap .i64 (x0+1)))
   else none
  else none
  else none
 else
  some (.inr ((.inr ())))
def jof (u3:Unit):Option Bool :=
 some true
def jog (u4:Unit):Option Bool :=
 some false
def jqK:(Unit ⊕ Unit)→Option Bool :=
 (Sum.elim (jof) (jog))
def y79 (l:List Int):Option Bool :=
 Option.bind (jad (y48 l) big (0:Int)) (jqK)
def jhF:List A→Option (Prop × List RV)
 |[.r (.ints .i64 l)]=>some (ok (y79 l),[.d (.b ((val (y79 l))))])
 |_=>none
abbrev sp_128:jab→jab:=jaX 128 true (jaP jlE jhF)
theorem jqL (l:List Int) (r:Bool) (h:Option.bind (y79 l) some=some r):jct Tryz.f128 ((sp_158 sp0)) (fun gs id _=>match id with
 |0=>some ⟨Int × Nat,fun z=>⟨[(0,.w (.c (.o 0))),(5,.w (.c (.o 0))),(6,.w (.c (.d (.i .i64 ((↑(List.length l):Int)))))),(7,.w (.c (.d (.i .i64 (Prod.fst z)))))],[(0,.ext (.ints .i64 l))],1⟩,fun z=>Option.bind (jad (y48 l) (Prod.snd z) (Prod.fst z)) (fun y0=>Option.bind (jqK y0) some)=some r,fun z=>Prod.snd z⟩
 |_=>none) [.r (.ints .i64 l)] [.d (.b r)]:=by
 refine Eq.mp (by kernel_rfl:(
 ((∃(v0:Int × Nat),(Ob ((Option.bind (jad (y48 l) v0.2 v0.1) fun y0=>Option.bind (jqK y0) some)=some r) ∧
 (Ob ((↑(List.length l):Int)=(↑(List.length l):Int)) ∧
 (Ob ((0:Int)=v0.1) ∧
 (Ob (l=l) ∧
 True))))) ∧
  (∀(v0:Int × Nat),((Option.bind (jad (y48 l) v0.2 v0.1) fun y0=>Option.bind (jqK y0) some)=some r →
 Br (decide (v0.1<(↑(List.length l):Int)))
  ((Ob (0≤v0.1∧v0.1<(↑(List.length l):Int)) ∧
 (Ob (Int.toNat v0.1<List.length l) ∧
 (Ob (0≤Option.getD none (0:Int)∧Option.getD none 0≤Option.getD (some v0.1) (↑(List.length l):Int)∧Option.getD (some v0.1) (↑(List.length l):Int)≤(↑(List.length l):Int)) ∧
 (Ob (ok (y19 (List.take (Int.toNat (Option.getD (some v0.1) (↑(List.length l):Int))-0) (List.drop (0:Nat) l)) (List.getD l (Int.toNat v0.1) (0:Int)))) ∧
 Br (val (y19 (List.take (Int.toNat (Option.getD (some v0.1) (↑(List.length l):Int))-0) (List.drop (0:Nat) l)) (List.getD l (Int.toNat v0.1) (0:Int))))
  ((Ob True ∧
 (Ob (true=r) ∧
 True)))
  ((∃(v1:Int × Nat),(Ob ((Option.bind (jad (y48 l) v1.2 v1.1) fun y0=>Option.bind (jqK y0) some)=some r) ∧
 (Ob (v1.2<v0.2) ∧
 (Ob ((↑(List.length l):Int)=(↑(List.length l):Int)) ∧
 (Ob (wrap .i64 (v0.1+1)=v1.1) ∧
 (Ob (l=l) ∧
 True))))))))))))
  ((Ob True ∧
 (Ob (false=r) ∧
 True)))))))=_) ?_
 refine⟨⟨((0:Int),big),⟨jaT h⟩,(by repeat' constructor)⟩,fun z1 hz1=>?_⟩
 obtain⟨k1,hm1,h⟩:=jaD hz1
 refine jay h (fun h=>?_) (fun h=>?_)
 ·refine jaz h fun h=>?_
  refine jaz h fun h=>?_
  refine jaz h fun h=>?_
  refine jaE h fun h=>?_
  refine jaw h (fun h=>?_) (fun h=>?_)
  ·have h:=jah h
   refine jaf ?_
   exact rcs h
  ·exact⟨(_,k1),⟨jav h⟩,⟨jaC hm1.symm⟩,(by repeat' constructor)⟩
 ·have h:=jah h
  refine jaf ?_
  exact rcs h
theorem jqM:jaj Tryz.prog 128 true (jaP jlE jhF):=by
 refine ja1 (sp:=(sp_158 sp0)) (fn:=Tryz.f128) (body:=bodyOf Tryz.f128) mixed (sp_158_ok jaB) Tryz.func128 (by kernel_rfl) (by kernel_rfl) fun as_ ob rs h ho=>?_
 unfold jhF at h
 split at h
 ·rename_i l
  cases h
  exact⟨Nat.le_of_ble_eq_true rfl,_,_,jqL l _ (jax ho)⟩
 ·cases h
theorem sp_128_ok {sp:jab} (h:jac Tryz.prog sp):jac Tryz.prog (sp_128 sp):=jaA jqM h
def jkm:List (Option Cont):=[none]
def y39 (n:Int):Option Bool :=
 Option.bind (y9 n (0:Int) (64:Int)) fun r0 =>
 some r0
def jgM:List A→Option (Prop × List RV)
 |[.d (.i .i64 n)]=>some (ok (y39 n),[.d (.b ((val (y39 n))))])
 |_=>none
abbrev sp_159:jab→jab:=jaX 159 true (jaP jkm jgM)
def jqN (n:Int):T (Bool) :=
 .call (y9 n (0:Int) (64:Int)) fun r0 =>
 .obT
 (.rc (r0))
theorem jpc (n:Int) (r:Bool) (h:Option.bind (y39 n) some=some r):jct Tryz.f159 ((sp_84 sp0)) (fun _ _ _=>none) [.d (.i .i64 n)] [.d (.b r)] :=
 T.vc (t:=jqN n) (by kernel_rfl) (by kernel_rfl) h
theorem jpd:jaj Tryz.prog 159 true (jaP jkm jgM):=by
 refine ja1 (sp:=(sp_84 sp0)) (fn:=Tryz.f159) (body:=bodyOf Tryz.f159) mixed (sp_84_ok jaB) Tryz.func159 (by kernel_rfl) (by kernel_rfl) fun as_ ob rs h ho=>?_
 unfold jgM at h
 split at h
 ·rename_i n
  cases h
  exact⟨Nat.le_of_ble_eq_true rfl,_,_,jpc n _ (jax ho)⟩
 ·cases h
theorem sp_159_ok {sp:jab} (h:jac Tryz.prog sp):jac Tryz.prog (sp_159 sp):=jaA jpd h
def ji1:List SV:=[.a [.d,.d,.r (.ints .i64 []),.r (.ints .i64 []),.r (.ints .i64 []),.d,.r (.recs 5 []),.d]]
def y61 (u9:List Int) (x0:Int):Option (Int ⊕ (Unit ⊕ Unit)) :=
 if x0<(↑(List.length u9):Int)then
  if 0≤x0∧x0<(↑(List.length u9):Int)then
  if Int.toNat x0<List.length u9 then
   Option.bind (y39 (List.getD u9 (Int.toNat x0) (0:Int))) fun r0 =>
   if(!r0)=true then
   some (.inr ((.inl ())))
   else
   some (.inl (wrap .i64 (x0+1)))
  else none
  else none
 else
  some (.inr ((.inr ())))
def jpe (u5:Int) (u7:List Int) (u6:Int) (u3:Unit):Option Bool :=
 some false
def y46 (u7:List Int) (x1:Int):Option (Int ⊕ (Unit ⊕ Unit)) :=
 if x1<(↑(List.length u7):Int)then
  if 0≤x1∧x1<(↑(List.length u7):Int)then
  if Int.toNat x1<List.length u7 then
   Option.bind (jel (List.getD u7 (Int.toNat x1) (0:Int)) (4000:Int)) fun r1 =>
   if(!r1)=true then
   some (.inr ((.inl ())))
   else
   some (.inl (wrap .i64 (x1+1)))
  else none
  else none
 else
  some (.inr ((.inr ())))
def jpf (u5 u6:Int) (u26:Unit):Option Bool :=
 some false
def jpg (u5 u6:Int) (u61:Unit):Option Bool :=
 Option.bind (y39 u6) fun r2 =>
 if(r2)=true then
  if(u5==2)=true then
  some true
  else
  some (u6==0)
 else
  some false
def y89 (u5 u6:Int):(Unit ⊕ Unit)→Option Bool :=
 (Sum.elim (jpf u5 u6) (jpg u5 u6))
def jph (u5:Int) (u7:List Int) (u6:Int) (u4:Unit):Option Bool :=
 Option.bind (jad (y46 u7) big (0:Int)) (y89 u5 u6)
def jqO (u5:Int) (u7:List Int) (u6:Int):(Unit ⊕ Unit)→Option Bool :=
 (Sum.elim (jpe u5 u7 u6) (jph u5 u7 u6))
def jdy (u12:ByteArray) (u5:Int) (u10 u9 u7:List Int) (u6:Int) (u13:List (List Int)) (u14:Int):Option Bool :=
 Option.bind (jad (y61 u9) big (0:Int)) (jqO u5 u7 u6)
def ji2:List Lf→Option GT
 |[.d (.s u12),.d (.i .i64 u5),.r (.ints .i64 u10),.r (.ints .i64 u9),.r (.ints .i64 u7),.d (.i .i64 u6),.r (.recs 5 u13),.d (.i .i64 u14)]=>some (.leaf (ok (jdy u12 u5 u10 u9 u7 u6 u13 u14)) [.c (.d (.b ((val (jdy u12 u5 u10 u9 u7 u6 u13 u14)))))])
 |_=>none
abbrev sp_129:jab→jab:=jaX 129 true (jat ji1 ji2)
theorem jsd (u12:ByteArray) (u5:Int) (u10 u9 u7:List Int) (u6:Int) (u13:List (List Int)) (u14:Int) (r:Bool) (h:Option.bind (jdy u12 u5 u10 u9 u7 u6 u13 u14) some=some r):jbQ Tryz.f129 ((sp_159 (sp_160 sp0))) (fun gs id _=>match id with
 |0=>some ⟨Int × Nat,fun z=>⟨[(1,.w (.c (.p 4 0 1 0))),(3,.w (.c (.fn 159 []))),(9,.w (.c (.o 1))),(10,.w (.c (.d (.i .i64 ((↑(List.length u9):Int)))))),(11,.w (.c (.d (.i .i64 (Prod.fst z)))))],[(4,.box 118 [.d (.s u12),.d (.i .i64 u5),.o 0,.o 1,.o 2,.d (.i .i64 u6),.o 3,.d (.i .i64 u14)]),(1,.ext (.ints .i64 u9)),(0,.ext (.ints .i64 u10)),(2,.ext (.ints .i64 u7)),(3,.ext (.recs 5 u13))],5⟩,fun z=>Option.bind (jad (y61 u9) (Prod.snd z) (Prod.fst z)) (fun y0=>Option.bind (jqO u5 u7 u6 y0) some)=some r,fun z=>Prod.snd z⟩
 |2=>some ⟨Unit × Int × Nat,fun z=>⟨[(1,.w (.c (.p 4 0 1 0))),(3,.w (.c (.fn 159 []))),(21,.w (.c (.o 2))),(22,.w (.c (.d (.i .i64 ((↑(List.length u7):Int)))))),(23,.w (.c (.d (.i .i64 (Prod.fst (Prod.snd z))))))],[(4,.box 118 [.d (.s u12),.d (.i .i64 u5),.o 0,.o 1,.o 2,.d (.i .i64 u6),.o 3,.d (.i .i64 u14)]),(2,.ext (.ints .i64 u7)),(0,.ext (.ints .i64 u10)),(1,.ext (.ints .i64 u9)),(3,.ext (.recs 5 u13))],5⟩,fun z=>Option.bind (jad (y46 u7) (Prod.snd (Prod.snd z)) (Prod.fst (Prod.snd z))) (fun y0=>Option.bind (y89 u5 u6 y0) some)=some r,fun z=>Prod.snd (Prod.snd z)⟩
 |_=>none) (jbA ji1 [.d (.s u12),.d (.i .i64 u5),.r (.ints .i64 u10),.r (.ints .i64 u9),.r (.ints .i64 u7),.d (.i .i64 u6),.r (.recs 5 u13),.d (.i .i64 u14)]) [.c (.d (.b r))]:=by
 refine Eq.mp (by kernel_rfl:(
 ((∃(v0:Int × Nat),(Ob ((Option.bind (jad (y61 u9) v0.2 v0.1) fun y0=>Option.bind (jqO u5 u7 u6 y0) some)=some r) ∧
 (Ob (0=0) ∧
 (Ob ((↑(List.length u9):Int)=(↑(List.length u9):Int)) ∧
 (Ob ((0:Int)=v0.1) ∧
 (Ob (u12=u12) ∧
 (Ob (u5=u5) ∧
 (Ob (u6=u6) ∧
 (Ob (u14=u14) ∧
 (Ob (u9=u9) ∧
 (Ob (u10=u10) ∧
 (Ob (u7=u7) ∧
 (Ob (u13=u13) ∧
 True))))))))))))) ∧
  (∀(v0:Int × Nat),((Option.bind (jad (y61 u9) v0.2 v0.1) fun y0=>Option.bind (jqO u5 u7 u6 y0) some)=some r →
 Br (decide (v0.1<(↑(List.length u9):Int)))
  ((Ob (0≤v0.1∧v0.1<(↑(List.length u9):Int)) ∧
 (Ob (Int.toNat v0.1<List.length u9) ∧
 (Ob (ok (y39 (List.getD u9 (Int.toNat v0.1) (0:Int)))) ∧
 Br (!val (y39 (List.getD u9 (Int.toNat v0.1) (0:Int))))
  ((Ob True ∧
 (Ob (false=r) ∧
 True)))
  ((∃(v1:Int × Nat),(Ob ((Option.bind (jad (y61 u9) v1.2 v1.1) fun y0=>Option.bind (jqO u5 u7 u6 y0) some)=some r) ∧
 (Ob (v1.2<v0.2) ∧
 (Ob (0=0) ∧
 (Ob ((↑(List.length u9):Int)=(↑(List.length u9):Int)) ∧
 (Ob (wrap .i64 (v0.1+1)=v1.1) ∧
 (Ob (u12=u12) ∧
 (Ob (u5=u5) ∧
 (Ob (u6=u6) ∧
 (Ob (u14=u14) ∧
 (Ob (u9=u9) ∧
 (Ob (u10=u10) ∧
 (Ob (u7=u7) ∧
 (Ob (u13=u13) ∧
 True)))))))))))))))))))
  (((∃(v1a:Unit × Int × Nat),(Ob ((Option.bind (jad (y46 u7) v1a.2.2 v1a.2.1) fun y0=>Option.bind (y89 u5 u6 y0) some)=some r) ∧
 (Ob (0=0) ∧
 (Ob ((↑(List.length u7):Int)=(↑(List.length u7):Int)) ∧
 (Ob ((0:Int)=v1a.2.1) ∧
 (Ob (u12=u12) ∧
 (Ob (u5=u5) ∧
 (Ob (u6=u6) ∧
 (Ob (u14=u14) ∧
 (Ob (u7=u7) ∧
 (Ob (u10=u10) ∧
 (Ob (u9=u9) ∧
 (Ob (u13=u13) ∧
 True))))))))))))) ∧
  (∀(v1a:Unit × Int × Nat),((Option.bind (jad (y46 u7) v1a.2.2 v1a.2.1) fun y0=>Option.bind (y89 u5 u6 y0) some)=some r →
 Br (decide (v1a.2.1<(↑(List.length u7):Int)))
  ((Ob (0≤v1a.2.1∧v1a.2.1<(↑(List.length u7):Int)) ∧
 (Ob (Int.toNat v1a.2.1<List.length u7) ∧
 (Ob (ok (jel (List.getD u7 (Int.toNat v1a.2.1) (0:Int)) (4000:Int))) ∧
 Br (!val (jel (List.getD u7 (Int.toNat v1a.2.1) (0:Int)) (4000:Int)))
  ((Ob True ∧
 (Ob (false=r) ∧
 True)))
  ((∃(v2:Unit × Int × Nat),(Ob ((Option.bind (jad (y46 u7) v2.2.2 v2.2.1) fun y0=>Option.bind (y89 u5 u6 y0) some)=some r) ∧
 (Ob (v2.2.2<v1a.2.2) ∧
 (Ob (0=0) ∧
 (Ob ((↑(List.length u7):Int)=(↑(List.length u7):Int)) ∧
 (Ob (wrap .i64 (v1a.2.1+1)=v2.2.1) ∧
 (Ob (u12=u12) ∧
 (Ob (u5=u5) ∧
 (Ob (u6=u6) ∧
 (Ob (u14=u14) ∧
 (Ob (u7=u7) ∧
 (Ob (u10=u10) ∧
 (Ob (u9=u9) ∧
 (Ob (u13=u13) ∧
 True)))))))))))))))))))
  ((Ob (ok (y39 u6)) ∧
 Br (val (y39 u6))
 (Br (u5==2)
  ((Ob True ∧
 (Ob (true=r) ∧
 True)))
  ((Ob True ∧
 (Ob ((u6==0)=r) ∧
 True))))
  ((Ob True ∧
 (Ob (false=r) ∧
 True)))))))))))))=_) ?_
 refine⟨⟨((0:Int),big),⟨jaT h⟩,(by repeat' constructor)⟩,fun z3 hz3=>?_⟩
 obtain⟨k3,hm3,h⟩:=jaD hz3
 refine jay h (fun h=>?_) (fun h=>?_)
 ·refine jaz h fun h=>?_
  refine jaz h fun h=>?_
  refine jaE h fun h=>?_
  refine jaw h (fun h=>?_) (fun h=>?_)
  ·have h:=jah h
   refine jaf ?_
   exact rcs h
  ·exact⟨(_,k3),⟨jav h⟩,⟨jaC hm3.symm⟩,(by repeat' constructor)⟩
 ·have h:=jah h
  refine⟨⟨((),0,big),⟨jaT h⟩,(by repeat' constructor)⟩,fun z4 hz4=>?_⟩
  obtain⟨k4,hm4,h⟩:=jaD hz4
  refine jay h (fun h=>?_) (fun h=>?_)
  ·refine jaz h fun h=>?_
   refine jaz h fun h=>?_
   refine jaE h fun h=>?_
   refine jaw h (fun h=>?_) (fun h=>?_)
   ·have h:=jah h
    refine jaf ?_
    exact rcs h
   ·exact⟨(Prod.fst z4,_,k4),⟨jav h⟩,⟨jaC hm4.symm⟩,(by repeat' constructor)⟩
  ·have h:=jah h
   refine jaE h fun h=>?_
   refine jaw h (fun h=>?_) (fun h=>?_)
   ·refine jaw h (fun h=>?_) (fun h=>?_)
    ·refine jaf ?_
     exact rcs h
    ·refine jaf ?_
     exact rcs h
   ·refine jaf ?_
    exact rcs h
theorem jse:jaj Tryz.prog 129 true (jat ji1 ji2):=by
 refine jaS (sp:=(sp_159 (sp_160 sp0))) (fn:=Tryz.f129) (body:=bodyOf Tryz.f129) mixed (sp_159_ok (sp_160_ok jaB)) Tryz.func129 (by kernel_rfl) (by kernel_rfl) fun ls t h ho b hb=>?_
 unfold ji2 at h
 split at h
 ·rename_i u12 u5 u10 u9 u7 u6 u13 u14
  cases h
  obtain rfl:=ja9 hb
  exact⟨Nat.le_of_ble_eq_true (by kernel_rfl),_,_,jsd u12 u5 u10 u9 u7 u6 u13 u14 _ (jax ho)⟩
 ·cases h
theorem sp_129_ok {sp:jab} (h:jac Tryz.prog sp):jac Tryz.prog (sp_129 sp):=jaA jse h
def ji3:List SV:=[.a [.d,.d,.r (.ints .i64 []),.r (.ints .i64 []),.r (.ints .i64 []),.d,.r (.recs 5 []),.d]]
def y87 (u12:ByteArray) (u5:Int) (u10 u9 u7:List Int) (u6:Int) (u13:List (List Int)) (u14:Int):Option Bool :=
 if(u5==0)=true then
  Option.bind (y9 (↑(List.length u10):Int) (0:Int) (0:Int)) fun r0 =>
  if(r0)=true then
  if((↑(List.length u9):Int)==(↑(List.length u10):Int))=true then
   some ((↑(List.length u7):Int)==0)
  else
   some false
  else
  some false
 else
  if(u5==1)=true then
  Option.bind (y9 (↑(List.length u10):Int) (1:Int) (6:Int)) fun r1 =>
  if(r1)=true then
   if((↑(List.length u9):Int)==(↑(List.length u10):Int))=true then
   some ((↑(List.length u7):Int)==(↑(List.length u10):Int))
   else
   some false
  else
   some false
  else
  Option.bind (y9 (↑(List.length u10):Int) (1:Int) (1:Int)) fun r2 =>
  if(r2)=true then
   if((↑(List.length u9):Int)==(↑(List.length u10):Int))=true then
   some ((↑(List.length u7):Int)==0)
   else
   some false
  else
   some false
def ji4:List Lf→Option GT
 |[.d (.s u12),.d (.i .i64 u5),.r (.ints .i64 u10),.r (.ints .i64 u9),.r (.ints .i64 u7),.d (.i .i64 u6),.r (.recs 5 u13),.d (.i .i64 u14)]=>some (.leaf (ok (y87 u12 u5 u10 u9 u7 u6 u13 u14)) [.c (.d (.b ((val (y87 u12 u5 u10 u9 u7 u6 u13 u14)))))])
 |_=>none
abbrev sp_127:jab→jab:=jaX 127 true (jat ji3 ji4)
def jtR (u12:ByteArray) (u5:Int) (u10 u9 u7:List Int) (u6:Int) (u13:List (List Int)) (u14:Int):T (Bool) :=
 .brB (u5==0)
 (.call (y9 (↑(List.length u10):Int) (0:Int) (0:Int)) fun r0 =>
 .brB (r0)
 (.brB ((↑(List.length u9):Int)==(↑(List.length u10):Int))
 (.obT
 (.rc (((↑(List.length u7):Int)==0))))
 (.obT
 (.rc (false))))
 (.obT
 (.rc (false))))
 (.brB (u5==1)
 (.call (y9 (↑(List.length u10):Int) (1:Int) (6:Int)) fun r1 =>
 .brB (r1)
 (.brB ((↑(List.length u9):Int)==(↑(List.length u10):Int))
 (.obT
 (.rc (((↑(List.length u7):Int)==(↑(List.length u10):Int)))))
 (.obT
 (.rc (false))))
 (.obT
 (.rc (false))))
 (.call (y9 (↑(List.length u10):Int) (1:Int) (1:Int)) fun r2 =>
 .brB (r2)
 (.brB ((↑(List.length u9):Int)==(↑(List.length u10):Int))
 (.obT
 (.rc (((↑(List.length u7):Int)==0))))
 (.obT
 (.rc (false))))
 (.obT
 (.rc (false)))))
theorem jsf (u12:ByteArray) (u5:Int) (u10 u9 u7:List Int) (u6:Int) (u13:List (List Int)) (u14:Int) (r:Bool) (h:Option.bind (y87 u12 u5 u10 u9 u7 u6 u13 u14) some=some r):jbQ Tryz.f127 ((sp_84 sp0)) (fun _ _ _=>none) (jbA ji3 [.d (.s u12),.d (.i .i64 u5),.r (.ints .i64 u10),.r (.ints .i64 u9),.r (.ints .i64 u7),.d (.i .i64 u6),.r (.recs 5 u13),.d (.i .i64 u14)]) [.c (.d (.b r))] :=
 T.vc (t:=jtR u12 u5 u10 u9 u7 u6 u13 u14) (by kernel_rfl) (by kernel_rfl) h
theorem jsg:jaj Tryz.prog 127 true (jat ji3 ji4):=by
 refine jaS (sp:=(sp_84 sp0)) (fn:=Tryz.f127) (body:=bodyOf Tryz.f127) mixed (sp_84_ok jaB) Tryz.func127 (by kernel_rfl) (by kernel_rfl) fun ls t h ho b hb=>?_
 unfold ji4 at h
 split at h
 ·rename_i u12 u5 u10 u9 u7 u6 u13 u14
  cases h
  obtain rfl:=ja9 hb
  exact⟨Nat.le_of_ble_eq_true (by kernel_rfl),_,_,jsf u12 u5 u10 u9 u7 u6 u13 u14 _ (jax ho)⟩
 ·cases h
theorem sp_127_ok {sp:jab} (h:jac Tryz.prog sp):jac Tryz.prog (sp_127 sp):=jaA jsg h
end Go.Sh
end

section
namespace Go.Sh
open Go Go.Proofs Go.RowKit Go.Sx
open Go.IntKind (wrap)
def jne:List (Option Cont):=[none,none,none]
def je7 (n lo hi:Int):Option Bool :=
 if lo≤n then
  some (decide (n≤hi))
 else
  some false
def ji5:List A→Option (Prop × List RV)
 |[.d (.i .i64 n),.d (.i .i64 lo),.d (.i .i64 hi)]=>some (ok (je7 n lo hi),[.d (.b ((val (je7 n lo hi))))])
 |_=>none
abbrev sp_180:jab→jab:=jaX 180 true (jaP jne ji5)
def jtS (n lo hi:Int):T (Bool) :=
 .brP (lo≤n)
 (.obT
 (.rc ((decide (n≤hi)))))
 (.obT
 (.rc (false)))
theorem jsh (n lo hi:Int) (r:Bool) (h:Option.bind (je7 n lo hi) some=some r):jct Tryz.f180 (sp0) (fun _ _ _=>none) [.d (.i .i64 n),.d (.i .i64 lo),.d (.i .i64 hi)] [.d (.b r)] :=
 T.vc (t:=jtS n lo hi) (by kernel_rfl) (by kernel_rfl) h
theorem jsi:jaj Tryz.prog 180 true (jaP jne ji5):=by
 refine ja1 (sp:=sp0) (fn:=Tryz.f180) (body:=bodyOf Tryz.f180) mixed jaB Tryz.func180 (by kernel_rfl) (by kernel_rfl) fun as_ ob rs h ho=>?_
 unfold ji5 at h
 split at h
 ·rename_i n lo hi
  cases h
  exact⟨Nat.le_of_ble_eq_true rfl,_,_,jsh n lo hi _ (jax ho)⟩
 ·cases h
theorem sp_180_ok {sp:jab} (h:jac Tryz.prog sp):jac Tryz.prog (sp_180 sp):=jaA jsi h
def joH:List (Option Cont):=[none,none]
def jgq (n u25:Int):Option Bool :=
 Option.bind (je7 n (wrap .i64 (0-u25)) u25) fun r0 =>
 some r0
def jkn:List A→Option (Prop × List RV)
 |[.d (.i .i64 n),.d (.i .i64 u25)]=>some (ok (jgq n u25),[.d (.b ((val (jgq n u25))))])
 |_=>none
abbrev sp_177:jab→jab:=jaX 177 true (jaP joH jkn)
def jvt (n u25:Int):T (Bool) :=
 .call (je7 n (wrap .i64 (0-u25)) u25) fun r0 =>
 .obT
 (.rc (r0))
theorem jtT (n u25:Int) (r:Bool) (h:Option.bind (jgq n u25) some=some r):jct Tryz.f177 ((sp_180 sp0)) (fun _ _ _=>none) [.d (.i .i64 n),.d (.i .i64 u25)] [.d (.b r)] :=
 T.vc (t:=jvt n u25) (by kernel_rfl) (by kernel_rfl) h
theorem jtU:jaj Tryz.prog 177 true (jaP joH jkn):=by
 refine ja1 (sp:=(sp_180 sp0)) (fn:=Tryz.f177) (body:=bodyOf Tryz.f177) mixed (sp_180_ok jaB) Tryz.func177 (by kernel_rfl) (by kernel_rfl) fun as_ ob rs h ho=>?_
 unfold jkn at h
 split at h
 ·rename_i n u25
  cases h
  exact⟨Nat.le_of_ble_eq_true rfl,_,_,jtT n u25 _ (jax ho)⟩
 ·cases h
theorem sp_177_ok {sp:jab} (h:jac Tryz.prog sp):jac Tryz.prog (sp_177 sp):=jaA jtU h
def jtV:List (Option Cont):=[none]
def je8 (n:Int):Option Bool :=
 Option.bind (jgq n (32768:Int)) fun r0 =>
 some r0
def jnf:List A→Option (Prop × List RV)
 |[.d (.i .i64 n)]=>some (ok (je8 n),[.d (.b ((val (je8 n))))])
 |_=>none
def jtW (n:Int):T (Bool) :=
 .call (jgq n (32768:Int)) fun r0 =>
 .obT
 (.rc (r0))
theorem jsj (n:Int) (r:Bool) (h:Option.bind (je8 n) some=some r):jct Tryz.f183 ((sp_177 sp0)) (fun _ _ _=>none) [.d (.i .i64 n)] [.d (.b r)] :=
 T.vc (t:=jtW n) (by kernel_rfl) (by kernel_rfl) h
theorem jsk:jaj Tryz.prog 183 true (jaP jtV jnf):=by
 refine ja1 (sp:=(sp_177 sp0)) (fn:=Tryz.f183) (body:=bodyOf Tryz.f183) mixed (sp_177_ok jaB) Tryz.func183 (by kernel_rfl) (by kernel_rfl) fun as_ ob rs h ho=>?_
 unfold jnf at h
 split at h
 ·rename_i n
  cases h
  exact⟨Nat.le_of_ble_eq_true rfl,_,_,jsj n _ (jax ho)⟩
 ·cases h
end Go.Sh
end

section
namespace Go.Sx09
open Go Go.Proofs Go.RowKit Go.Shelf Go.Sx
attribute [local go_sem] Oper.semAt_some
theorem jgh {B:Kd} {w:World}:jcg B w:=⟨fun _ _ h=>(by cases h),joq (fun _=>rfl) B w⟩
theorem jfK {ρ:Env} {B:Kd} {N n0:Nat} {st:St} {a:Act} {w:World} {t:Nat} {v:Value} (h:Rel ρ B N n0 st a w) (ht:jaN st.tm t=none) (hlt:t<N):Rel ρ B N n0 st (a.put (some t) v) w:=by
 refine⟨fun x u hx=>?_,by rw[jbF]; exact h.size,by rw[jcT]; exact h.defers,h.heap,h.le,h.n0⟩
 have hne:x≠t:=fun e=>by subst e; rw[ht]at hx; cases hx
 rw[jbU (fun y hy=>by cases hy; rw[h.size]; exact hlt),if_neg (fun e=>hne (Option.some.inj e).symm)]
 exact h.tm x u hx
structure KpC (n1:Nat) (A C:World):Prop where
 size:A.heap.size≤C.heap.size
 same:∀k o,n1≤k→A.heap[k]?=some o→o.isCells=true→C.heap[k]?=some o
def stL (y:Value) (L:List Int) (k:Nat):St :=
 ⟨[(11,vi .i64 k),(10,vi .i64 5),(9,.w (.c (.o 0))),(0,.w (.c (.d (.v y))))],[(0,.ext (.ints .i64 L))],1⟩
def stB (y:Value) (b0 b1 b2 a0 a1:Int):St :=
 ⟨[(11,vi .i64 0),(10,vi .i64 5),(9,.w (.c (.o 1))),(0,.w (.c (.d (.v y))))],[(1,.row 3 (.ints .i64 [b0,b1,b2,a0,a1])),(0,.box 148 [.d (.i .i64 b0),.d (.i .i64 b1),.d (.i .i64 b2),.d (.i .i64 a0),.d (.i .i64 a1)])],2⟩
structure Bet (Far:World→Nat→Prop) (y:Value) (L:List Int) (k:Nat) (a:Act) (w:World):Prop where
 rel:∃ρ,Rel ρ (kd fun x=>x<w.heap.size) 22 1 (stL y L k) a w∧∀ad n cap,ρ 0=.slice (some ad) n cap→Far w ad.block
theorem jtX {v:Value} {c:Cont} {A C:World} (h:jaO A v c) (he:0<c.e) (hv:∀ad n cap,v=.slice (some ad) n cap→∀o,A.heap[ad.block]?=some o→o.isCells=true→C.heap[ad.block]?=some o):jaO C v c:=by
 obtain⟨a,cap,rfl,hc,hcells⟩:=h
 refine⟨a,cap,rfl,hc,fun hn=>?_⟩
 obtain⟨b,off,rfl,hx⟩:=hcells hn
 refine⟨b,off,rfl,fun j x hj=>?_⟩
 have h1:=hx j x hj
 obtain⟨o,ho,hoc⟩:=cells_of_cell h1
 have h2:=hv _ _ _ rfl o ho hoc
 have ho':A.heap[b]?=some o:=ho
 exact(World.cell?_of_block (w:=A) (w':=C) (a:=⟨b,off+j,none⟩) (h2.trans ho'.symm)).trans h1
theorem ji6 {c:Code} {N n0:Nat} {st st2:St} {ρ:Env} {a:Act} {w:World} (hr:Rel ρ (kd fun x=>x<w.heap.size) N n0 st a w)
  (h:sx Tryz.prog (fun _=>none) N n0 0 (fun _ _ _=>none) (fun _ _ _=>False) c 0 [] st (fun e st'=>match e with | .normal=>Le n0 st' st2|_=>False)) :
  c.wp Tryz.prog (fun e a' w'=>e=.normal∧w.grownBy w' none∧∃ρ',Rel ρ' (kd fun x=>x<w.heap.size) N n0 st2 a' w'∧jai n0 ρ ρ') a w:=by
 refine wp_mono (jbV (fun _ _ _ h=>by cases h) (fun _ _ _ _ _ _ _ _ _ h=>h.elim) c 0 [] st _ ρ a w h hr (jai.refl _ _) (Bel.refl _ _)) ?_
 rintro e a' w' ⟨ex,ρ',st',rfl,hk,hr',hag,hbl⟩
 cases ex with
 |normal =>
  obtain⟨ρ2,hr2,hag2⟩:=Le.rel hk hr'
  exact⟨rfl,⟨hbl.os,hbl.tape,hbl.output,hbl.size,fun k hk _=>hbl.block k hk⟩,ρ2,hr2,fun x hx=>(hag2 x hx).trans (hag x hx)⟩
 |exit j=>exact hk.elim
 |ret=>exact hk.elim
def prs (L:List Int) (k:Nat):List (Nat × Int):=(List.range k).map fun j=>(j,L.getD j 0)
theorem jqP (L:List Int) (k:Nat):prs L (k+1)=prs L k++[(k,L.getD k 0)]:=by simp[prs,List.range_succ]
theorem jng (L:List Int) (k:Nat):(prs L k).length=k:=by simp[prs]
def sub:List Nat→Code→Code
 |[],c=>c
 |0::p,.seq x _=>sub p x
 |_::p,.seq _ y=>sub p y
 |0::p,.cond _ x _=>sub p x
 |_::p,.cond _ _ y=>sub p y
 |_::p,.block _ c=>sub p c
 |_::p,.loop c=>sub p c
 |_,c=>c
def bodyOf (f:Func):Code:=f.body.getD .skip
abbrev pc (c:Code) (st st2:St):Prop:=sx Tryz.prog (fun _=>none) 22 1 0 (fun _ _ _=>none) (fun _ _ _=>False) c 0 [] st (fun e st'=>match e with | .normal=>Le 1 st' st2|_=>False)
def stC (y:Value) (L:List Int) (k:Nat):St:=⟨(12,vb (decide ((k:Int)<5)))::(stL y L k).tm,(stL y L k).hp,1⟩
def stD (y:Value) (L:List Int) (k:Nat):St:=⟨(4,vi .i64 (L.getD k 0))::(3,vi .i64 k)::(stL y L k).tm,(stL y L k).hp,1⟩
theorem pc1 (y:Value) (L:List Int) (k:Nat):pc (sub [1,0,0,0] (bodyOf Tryz.f185)) (stL y L k) (stC y L k):=by
 refine Eq.mp (by kernel_rfl:(Ob ((decide ((k:Int)<5))=decide ((k:Int)<5))∧Ob ((k:Int)=k)∧Ob ((5:Int)=5)∧Ob (y=y)∧Ob (L=L)∧True)=_) ?_
 exact⟨⟨rfl⟩,⟨rfl⟩,⟨rfl⟩,⟨rfl⟩,⟨rfl⟩,trivial⟩
theorem pc2 (y:Value) (L:List Int) (k:Nat) (hk:k<L.length):pc (sub [1,0,0,1,1,0,0,0] (bodyOf Tryz.f185)) (stC y L k) (stD y L k):=by
 refine Eq.mp (by kernel_rfl:(Ob (0≤(k:Int)∧(k:Int)<(L.length:Int))∧Ob ((k:Int).toNat<L.length)∧Ob (L.getD (k:Int).toNat 0=L.getD k 0)∧Ob ((k:Int)=k)∧Ob ((k:Int)=k)∧Ob ((5:Int)=5)∧Ob (y=y)∧Ob (L=L)∧True)=_) ?_
 exact⟨⟨by omega⟩,⟨by omega⟩,⟨rfl⟩,⟨rfl⟩,⟨rfl⟩,⟨rfl⟩,⟨rfl⟩,⟨rfl⟩,trivial⟩
theorem pc3 (y:Value) (L:List Int) (k:Nat) (hk:k<5):pc (sub [1,0,0,1,1,1] (bodyOf Tryz.f185)) (stL y L k) (stL y L (k+1)):=by
 refine Eq.mp (by kernel_rfl:(Ob (IntKind.i64.wrap ((k:Int)+1)=((k+1:Nat):Int))∧Ob ((5:Int)=5)∧Ob (y=y)∧Ob (L=L)∧True)=_) ?_
 refine⟨⟨?_⟩,⟨rfl⟩,⟨rfl⟩,⟨rfl⟩,trivial⟩
 rw[IntWalk.i64_in _ (by omega)]
 omega
theorem jqQ {ρ:Env} {B:Kd} {N n0:Nat} {st:St} {a:Act} {w:World} {c:Cont} (h:Rel ρ B N n0 st a w) (hs:st.hp=[(0,.ext c)]) (he:0<c.e):Rel ρ (kd fun x=>x<w.heap.size) N n0 st a w:=by
 obtain⟨B',_,hh⟩:=h.heap
 refine⟨h.tm,h.size,h.defers,⟨kd fun x=>x<w.heap.size,Grow.refl _ _ _ _,⟨fun x o hf=>?_,fun x o x' o' b hf hf' hne hb=>?_,jgh⟩⟩,fun k hk=>jbS.1 hk,h.n0⟩
 ·have h1:=hh.ok x o hf
  refine⟨h1.1,h1.2.1,?_⟩
  rw[hs]at hf
  simp only[find]at hf
  split at hf
  ·cases hf
   exact⟨h1.2.2.1,h1.2.2.1.lt he⟩
  ·cases hf
 ·rw[hs]at hf
  simp only[find]at hf
  split at hf
  ·cases hf; cases hb
  ·cases hf
theorem jko {o:Oper} {x:Operand} {n:Nat} {a:Act} {w:World} {K:Act→World→Prop} {Q:Exit→Act→World→Prop} (ho:o.op=.move x) (h:K (a.put o.dst (a.eval x)) w):o.wpIn Fence.wide n Tryz.prog a w K Q:=by
 refine⟨fun _ _=>trivial,?_⟩
 have:((o.semAt Fence.wide.round a.eval).run Tryz.prog w)=.ok (.value (a.eval x)) w:=by
  rw[Fence.wide_round,Oper.semAt_none]
  unfold execOp
  simp only[ho,Sem.run_pure]
 rw[this]
 exact h
theorem jea {y:Value} {L:List Int} {k t:Nat} (h:t≠11∧t≠10∧t≠9∧t≠0):jaN (stL y L k).tm t=none:=by
 simp only[stL,jaN]
 rw[if_neg (Ne.symm h.1),if_neg (Ne.symm h.2.1),if_neg (Ne.symm h.2.2.1),if_neg (Ne.symm h.2.2.2)]
set_option maxHeartbeats 2000000 in
theorem jvu (n l:Nat) (Kp:World→World→Prop) (Far:World→Nat→Prop)
  (hKF:∀{A C:World} {k:Nat},Kp A C→Far A k→Far C k∧∀o,A.heap[k]?=some o→o.isCells=true→C.heap[k]?=some o)
  (hFg:∀{A B:World} {k:Nat},A.grownBy B none→Far A k→Far B k) (L:List Int) (hL:L.length=5) (J Jx:List (Nat × Int)→World→Prop)
  (hY:∀pre x W,J pre W→pre.length<5→x=(pre.length,L.getD pre.length 0)→YieldAt Fence.wide (n-1) Tryz.prog l #[.int .i64 (x.1:Int),.int .i64 x.2] W fun e W' =>
   (e=.returned (.bool true)∧J (pre++[x]) W'∧Kp W W')∨(e=.returned (.bool false)∧Jx (pre++[x]) W'))
  (hJ:∀A B pre,J pre A→A.grownBy B none→J pre B) (a:Act) (w:World) (hb:Bet Far (.func (.yield l) #[] #[]) L 0 a w) (hj0:J (prs L 0) w) :
  (sub [1] (bodyOf Tryz.f185)).wpIn Fence.wide n Tryz.prog (bodyPost Tryz.prog Tryz.f185 fun e W'=>(∃v,e=.returned v) ∧
   ((∃ys,ys=prs L 5∧J ys W')∨(∃pre,(∃k,k≤5∧pre=prs L k)∧Jx pre W'))) a w:=by
 refine wpIn_block (wpIn_loop (fun a w=>∃k,k≤5∧Bet Far (.func (.yield l) #[] #[]) L k a w∧J (prs L k) w) (fun a _=>5-(intOf (a.tmps.getD 11 undef)).toNat) ⟨0,by omega,hb,hj0⟩ ?_)
 rintro a w ⟨k,hk,⟨ρ,hr,hge⟩,hj⟩
 have hmu:(intOf (a.tmps.getD 11 undef)).toNat=k:=by
  rw[(hr.tm 11 _ rfl).2]
  simp[intOf]
 rw[hmu]
 refine wpIn_seq (wpIn_wide.2 (wp_mono (ji6 hr (pc1 _ L k)) ?_))
 rintro e a1 w1 ⟨rfl,hg1,ρ1,hr1,hag1⟩
 have hj1:=hJ _ _ _ hj hg1
 have hc:a1.eval (.tmp 12)=.bool (decide ((k:Int)<5)):=(hr1.tm 12 _ rfl).2
 by_cases hlt:k<5
 ·refine wpIn_seq (wpIn_cond_true (by rw[hc,decide_eq_true (by omega)]) (wpIn_skip ?_))
  refine wpIn_seq (wpIn_block (wpIn_seq (wpIn_wide.2 (wp_mono (ji6 (jqQ hr1 rfl (Nat.lt_succ_self 0)) (pc2 _ L k (by omega))) ?_))))
  rintro e a2 w2 ⟨rfl,hg2,ρ2,hr2,hag2⟩
  have hj2:=hJ _ _ _ hj1 hg2
  obtain⟨fn,tmps,assign,body,hy,hR⟩:=hY (prs L k) (k,L.getD k 0) w2 hj2 (by rw[jng]; exact hlt) (by rw[jng])
  have hr2L:Rel ρ2 (kd fun x=>x<w2.heap.size) 22 1 (stL (.func (.yield l) #[] #[]) L k) a2 w2:=by
   have:=jqQ hr2 (c:=.ints .i64 L) rfl (Nat.lt_succ_self 0)
   refine⟨fun t v hv=>this.tm t v ?_,this.size,this.defers,this.heap,this.le,this.n0⟩
   have hne:t≠4∧t≠3:=⟨(fun e=>by subst e; rw[jea (by decide)]at hv; cases hv),(fun e=>by subst e; rw[jea (by decide)]at hv; cases hv)⟩
   show jaN ((4,_)::(3,_)::_) t=some v
   simp only[jaN]
   rw[if_neg (Ne.symm hne.1),if_neg (Ne.symm hne.2)]
   exact hv
  have e3:a2.tmps.getD 3 undef=.int .i64 k:=(hr2.tm 3 _ rfl).2
  have e4:a2.tmps.getD 4 undef=.int .i64 (L.getD k 0):=(hr2.tm 4 _ rfl).2
  have e0:a2.tmps.getD 0 undef=.func (.yield l) #[] #[]:=(hr2.tm 0 _ rfl).2
  have hge2:∀ad n cap,ρ2 0=.slice (some ad) n cap→Far w2 ad.block:=fun ad n cap h=>hFg hg2 (hFg hg1 (hge ad n cap (by rw[←hag1 0 (Nat.lt_succ_self 0),←hag2 0 (Nat.lt_succ_self 0)]; exact h)))
  refine wpIn_seq (wpIn_region_list ?_)
  refine wpListIn_plain rfl fun K hK=>jko rfl (hK _ _ ?_)
  refine wpListIn_plain rfl fun K hK=>jko rfl (hK _ _ ?_)
  refine wpListIn_plain rfl fun K hK=>jko rfl (hK _ _ ?_)
  have hsz:a2.tmps.size=22:=hr2L.size
  obtain⟨a3,ha3⟩:∃a3,a3=((a2.put (some 16) (a2.eval (.tmp 0))).put (some 17) ((a2.put (some 16) (a2.eval (.tmp 0))).eval (.tmp 3))).put (some 18) (((a2.put (some 16) (a2.eval (.tmp 0))).put (some 17) ((a2.put (some 16) (a2.eval (.tmp 0))).eval (.tmp 3))).eval (.tmp 4)):=⟨_,rfl⟩
  have hr3:Rel ρ2 (kd fun x=>x<w2.heap.size) 22 1 (stL (.func (.yield l) #[] #[]) L k) a3 w2:=by
   rw[ha3]
   exact jfK (jfK (jfK hr2L (jea (by decide)) (by decide)) (jea (by decide)) (by decide)) (jea (by decide)) (by decide)
  have g16:a3.eval (.tmp 16)=.func (.yield l) #[] #[]:=by
   rw[ha3]
   show(Act.put _ (some 18) _).tmps.getD 16 undef=_
   rw[jbU (fun x hx=>by cases hx; simp[jbF,hsz]),if_neg (by decide),jbU (fun x hx=>by cases hx; simp[jbF,hsz]),if_neg (by decide),jbU (fun x hx=>by cases hx; simp[hsz]),if_pos rfl]
   exact e0
  have g17:a3.eval (.tmp 17)=.int .i64 k:=by
   rw[ha3]
   show(Act.put _ (some 18) _).tmps.getD 17 undef=_
   rw[jbU (fun x hx=>by cases hx; simp[jbF,hsz]),if_neg (by decide),jbU (fun x hx=>by cases hx; simp[jbF,hsz]),if_pos rfl]
   show(Act.put _ (some 16) _).tmps.getD 3 undef=_
   rw[jbU (fun x hx=>by cases hx; simp[hsz]),if_neg (by decide)]
   exact e3
  have g18:a3.eval (.tmp 18)=.int .i64 (L.getD k 0):=by
   rw[ha3]
   show(Act.put _ (some 18) _).tmps.getD 18 undef=_
   rw[jbU (fun x hx=>by cases hx; simp[jbF,hsz]),if_pos rfl]
   show(Act.put _ (some 17) _).tmps.getD 4 undef=_
   rw[jbU (fun x hx=>by cases hx; simp[jbF,hsz]),if_neg (by decide),jbU (fun x hx=>by cases hx; simp[hsz]),if_neg (by decide)]
   exact e4
  have hsz3:a3.tmps.size=22:=hr3.size
  rw[←ha3]
  clear ha3
  refine wpListIn_plain rfl fun K hK=>⟨fun _ _=>trivial,?_⟩
  have hcall:∀o:Oper,o.op=.call { callee:=.value (.tmp 16),args:=#[.tmp 17,.tmp 18],argTypes:=#[3,3] }→((o.semAt Fence.wide.round a3.eval).run Tryz.prog w2)=.ok (.round l fn tmps assign body) w2:=by
   intro o ho
   rw[Fence.wide_round,Oper.semAt_none]
   unfold execOp
   simp only[ho,resolve,g16,Deferred.ofValue,Sem.run_bind,Sem.run_pure,Result.andThen_ok,invoke,List.map_toArray,List.map_cons,List.map_nil,g17,g18]
   exact hy
  rw[hcall _ rfl]
  refine⟨(fun h=>by cases h),hR.mono ?_⟩
  have hnot:∀(o:Oper) (b:Bool) (w3:World),o.op=.unOp .not 4 (.tmp 19)→((o.semAt Fence.wide.round (a3.put (some 19) (.bool b)).eval).run Tryz.prog w3)=.ok (.value (.bool !b)) w3:=by
   intro o b w3 ho
   have h19:(a3.put (some 19) (.bool b)).eval (.tmp 19)=.bool b:=by
    show(Act.put _ (some 19) _).tmps.getD 19 undef=_
    rw[jbU (fun x hx=>by cases hx; simp[hsz3]),if_pos rfl]
   rw[Fence.wide_round,Oper.semAt_none]
   unfold execOp
   simp only[ho,h19]
   rfl
  have h20:∀b,((a3.put (some 19) (.bool b)).put (some 20) (.bool !b)).eval (.tmp 20)=.bool !b:=fun b=>by
   show(Act.put _ (some 20) _).tmps.getD 20 undef=_
   rw[jbU (fun x hx=>by cases hx; simp[jbF,hsz3]),if_pos rfl]
  have hr5:∀b,Rel ρ2 (kd fun x=>x<w2.heap.size) 22 1 (stL (.func (.yield l) #[] #[]) L k) ((a3.put (some 19) (.bool b)).put (some 20) (.bool !b)) w2:=fun b =>
   jfK (jfK hr3 (jea (by decide)) (by decide)) (jea (by decide)) (by decide)
  rintro e w3 (⟨rfl,hj3,hk3⟩|⟨rfl,hj3⟩)
  ·refine hK _ _ (wpListIn_plain rfl fun K hK=>⟨fun _ _=>trivial,?_⟩)
   rw[hnot _ true w3 rfl]
   refine hK _ _ (wpListIn_nil ?_)
   refine wpIn_cond_false (h20 true) (wpIn_skip ?_)
   have h5:=hr5 true
   obtain⟨B2,_,hh2⟩:=hr2L.heap
   have hrow3:jaO w3 (ρ2 0) (.ints .i64 L):=jtX (hh2.ok 0 _ rfl).2.2.1 (Nat.lt_succ_self 0) fun ad n cap h=>(hKF hk3 (hge2 ad n cap h)).2
   have h6:Rel ρ2 (kd fun x=>x<w3.heap.size) 22 1 (stL (.func (.yield l) #[] #[]) L k) ((a3.put (some 19) (.bool true)).put (some 20) (.bool !true)) w3:=by
    refine⟨h5.tm,h5.size,h5.defers,⟨kd fun x=>x<w3.heap.size,Grow.refl _ _ _ _,⟨fun x o hf=>?_,fun x o x' o' b hf hf' hne hb=>?_,jgh⟩⟩,fun k hk=>jbS.1 hk,h5.n0⟩
    ·simp only[stL,find]at hf
     split at hf
     ·rename_i e; subst e; cases hf
      exact⟨Nat.lt_succ_self 0,trivial,hrow3,hrow3.lt (Nat.lt_succ_self 0)⟩
     ·cases hf
    ·simp only[stL,find]at hf
     split at hf
     ·cases hf; cases hb
     ·cases hf
   refine wpIn_wide.2 (wp_mono (ji6 h6 (pc3 _ L k hlt)) ?_)
   rintro e a7 w7 ⟨rfl,hg7,ρ7,hr7,hag7⟩
   refine⟨⟨k+1,by omega,⟨ρ7,jqQ hr7 (c:=.ints .i64 L) rfl (Nat.lt_succ_self 0),fun ad n cap h=>hFg hg7 (hKF hk3 (hge2 ad n cap (by rw[←hag7 0 (Nat.lt_succ_self 0)]; exact h))).1⟩,?_⟩,?_⟩
   ·rw[jqP]
    exact hJ _ _ _ hj3 hg7
   ·rw[(hr7.tm 11 _ rfl).2]
    simp[intOf]
    omega
  ·refine hK _ _ (wpListIn_plain rfl fun K hK=>⟨fun _ _=>trivial,?_⟩)
   rw[hnot _ false w3 rfl]
   refine hK _ _ (wpListIn_nil ?_)
   refine wpIn_cond_true (h20 false) (wpIn_ret ?_)
   refine⟨(hr5 false).defers,.tuple #[],results_none rfl _ _ _,⟨_,rfl⟩,.inr ⟨_,⟨k+1,by omega,rfl⟩,?_⟩⟩
   rw[jqP]
   exact hj3
 ·have hk5:k=5:=by omega
  subst hk5
  refine wpIn_seq (wpIn_cond_false (by rw[hc,decide_eq_false (by omega)]) (wpIn_exit ?_))
  refine⟨hr1.defers,.tuple #[],?_,⟨_,rfl⟩,.inl ⟨_,rfl,hj1⟩⟩
  exact results_none rfl _ _ _
set_option maxHeartbeats 2000000 in
theorem jwR (n l Bs:Nat) (Kp:World→World→Prop) (Far:World→Nat→Prop)
  (hKF:∀{A C:World} {k:Nat},Kp A C→Far A k→Far C k∧∀o,A.heap[k]?=some o→o.isCells=true→C.heap[k]?=some o)
  (hFg:∀{A B:World} {k:Nat},A.grownBy B none→Far A k→Far B k) (b0 b1 b2 a0 a1:Int) (J Jx:List (Nat × Int)→World→Prop)
  (hY:∀pre x W,J pre W→pre.length<5→x=(pre.length,[b0,b1,b2,a0,a1].getD pre.length 0)→YieldAt Fence.wide (n-1) Tryz.prog l #[.int .i64 (x.1:Int),.int .i64 x.2] W fun e W' =>
   (e=.returned (.bool true)∧J (pre++[x]) W'∧Kp W W')∨(e=.returned (.bool false)∧Jx (pre++[x]) W'))
  (W:World) (hF0:∀B g,W.grownBy B none→W.heap.size≤g→g<B.heap.size→Far B g) (hJ:AbidesFrom W.heap.size J) (hBs:W.heap[Bs]?=some (.cells #[.int .i64 b0,.int .i64 b1,.int .i64 b2,.int .i64 a0,.int .i64 a1] 148 (0,0))) (h0:J [] W) :
  CallsIn Fence.wide n Tryz.prog 185 #[.func (.yield l) #[] #[],.pointer (some ⟨Bs,0,none⟩)] W fun e W'=>(∃v,e=.returned v) ∧
   ((∃ys,ys=prs [b0,b1,b2,a0,a1] 5∧J ys W')∨(∃pre,(∃k,k≤5∧pre=prs [b0,b1,b2,a0,a1] k)∧Jx pre W')):=by
 refine callsIn_of_wp Tryz.func185 rfl trivial ?_ rfl
 refine wpIn_seq (wpIn_wide.2 ?_)
 have hBlt:Bs<W.heap.size:=(Array.getElem?_eq_some_iff.1 hBs).1
 let ρ:Env:=fun _=>.pointer (some ⟨Bs,0,none⟩)
 let y:Value:=.func (.yield l) #[] #[]
 have hsp:jac Tryz.prog (fun _=>none):=fun _ _ _ h=>by cases h
 refine jcF (N:=22) (n0:=1) (B:=kd fun k=>k<W.heap.size∧k≠Bs) (ρ0:=ρ) (w0:=W) (st:=⟨[(0,.w (.c (.d (.v y)))),(1,.w (.c (.p 0 0 1 0)))],[(0,.box 148 [.d (.i .i64 b0),.d (.i .i64 b1),.d (.i .i64 b2),.d (.i .i64 a0),.d (.i .i64 a1)])],1⟩)
  (k:=fun st=>Le 1 st (stB y b0 b1 b2 a0 a1)) (by kernel_rfl) hsp (ds:=[]) _ _ ρ _ _ _ ?vc ?rel (jai.refl _ _) (Bel.refl _ _) ?next
 case vc =>
  refine Eq.mp (by kernel_rfl:(Ob True∧Ob True∧Ob (0<3∧0<2∧(3+2)*8≤140737488355328∧3+2≤9223372036854775807) ∧
   Le 1 ⟨[(11,vi .i64 0),(10,vi .i64 5),(9,.w (.c (.o 3))),(8,.w (.c (.o 2))),(7,.w (.c (.p 0 0 1 3))),(6,.w (.c (.o 1))),(5,.w (.c (.p 0 0 1 0))),(0,.w (.c (.d (.v y)))),(1,.w (.c (.p 0 0 1 0)))],
    [(3,.row 3 (.ints .i64 [b0,b1,b2,a0,a1])),(2,.view 0 (.ints .i64 [a0,a1]) true),(1,.view 0 (.ints .i64 [b0,b1,b2]) true),(0,.box 148 [.d (.i .i64 b0),.d (.i .i64 b1),.d (.i .i64 b2),.d (.i .i64 a0),.d (.i .i64 a1)])],4⟩ (stB y b0 b1 b2 a0 a1))=_) ?_
  refine⟨⟨trivial⟩,⟨trivial⟩,⟨by decide⟩,?_⟩
  refine Eq.mp (by kernel_rfl:((Ob ((0:Int)=0)∧Ob ((5:Int)=5)∧Ob (y=y)∧Ob ([b0,b1,b2,a0,a1]=[b0,b1,b2,a0,a1])∧Ob (b0=b0)∧Ob (b1=b1)∧Ob (b2=b2)∧Ob (a0=a0)∧Ob (a1=a1)∧True))=_) ?_
  exact⟨⟨rfl⟩,⟨rfl⟩,⟨rfl⟩,⟨rfl⟩,⟨rfl⟩,⟨rfl⟩,⟨rfl⟩,⟨rfl⟩,⟨rfl⟩,trivial⟩
 case rel =>
  refine jfD (N:=22) (n0:=1) (args:=[.w (.c (.d (.v y))),.w (.c (.p 0 0 1 0))]) (Nat.le_of_ble_eq_true rfl) (fun x hx=>?_) (Nat.le_refl _) ρ W ⟨fun x o hf=>?_,fun x o x' o' b hf hf' hne hb=>?_,jgh⟩ (fun k hk=>(jbS.1 hk).1)
  ·simp only[List.mem_cons,List.not_mem_nil,or_false]at hx
   rcases hx with rfl|rfl
   ·trivial
   ·exact Nat.lt_succ_self 0
  ·simp only[find]at hf
   split at hf
   ·rename_i e; subst e; cases hf
    exact⟨Nat.lt_succ_self 0,(fun c hc=>by simp at hc; rcases hc with rfl|rfl|rfl|rfl|rfl<;>trivial),Bs,rfl,fun h=>(jbS.1 h).2 rfl,hBs⟩
   ·cases hf
  ·simp only[find]at hf hf'
   split at hf
   ·rename_i e; subst e
    rw[if_neg hne]at hf'
    cases hf'
   ·cases hf
 case next =>
  rintro ρ1 st1 a1' w1 hr1 hag1 hbl1 hle
  obtain⟨ρ2,hr2,hag2⟩:=hle.rel hr1
  obtain⟨B',g',hh2⟩:=hr2.heap
  have hbk:ρ2 0=.pointer (some ⟨Bs,0,none⟩):=(hag2 0 (Nat.lt_succ_self 0)).trans (hag1 0 (Nat.lt_succ_self 0))
  have hgr:W.grownBy w1 none:=by
   refine⟨hbl1.os,hbl1.tape,hbl1.output,hbl1.size,fun k hk _=>?_⟩
   by_cases e:k=Bs
   ·subst e
    obtain⟨_,_,g,hg,_,hheap⟩:=hh2.ok 0 _ rfl
    rw[hbk]at hg
    have e:g=k:=by
     have:some (⟨k,0,none⟩:Addr)=some ⟨g,0,none⟩:=Value.pointer.inj hg
     cases this
     rfl
    subst e
    rw[hheap,hBs]
    rfl
   ·exact hbl1.block k ⟨hk,e⟩
  have hJ1:J (prs [b0,b1,b2,a0,a1] 0) w1:=hJ [] W w1 none h0 hgr (fun r e=>by cases e)
  have hge:∀g,(ρ2 1).ownBlock=some g→Far w1 g:=fun g hg=>by
   refine hF0 _ _ hgr ?_ (O.blk_lt (hh2.ok 1 _ rfl).2.2 hg).1
   have h3:=(hh2.ok 1 _ rfl).2.2.2 g hg
   have hne:g≠Bs:=fun e=>hh2.apart 1 _ 0 _ g rfl rfl (by decide) hg (by rw[hbk,e]; rfl)
   have:¬g<W.heap.size:=fun hl=>h3 (.inl (g'.le.kp g ⟨hl,hne⟩))
   omega
  have hrow:jaO w1 (ρ2 1) (.ints .i64 [b0,b1,b2,a0,a1]):=ja2 (hh2.ok 1 _ rfl).2.2 rfl
  have hbet:Bet Far y [b0,b1,b2,a0,a1] 0 a1' w1:=by
   refine⟨fun _=>ρ2 1,⟨fun t v hv=>?_,hr2.size,hr2.defers,⟨kd fun x=>x<w1.heap.size,Grow.refl _ _ _ _,⟨fun x o hf=>?_,fun x o x' o' b hf hf' hne hb=>?_,jgh⟩⟩,fun k hk=>jbS.1 hk,Nat.le_refl _⟩,fun ad n cap hv=>hge _ (by have hv':ρ2 1=_:=hv; rw[hv']; rfl)⟩
   ·simp only[stL,jaN]at hv
    split at hv
    ·rename_i e; subst e; cases hv; exact⟨trivial,(hr2.tm 11 _ rfl).2⟩
    ·split at hv
     ·rename_i e; subst e; cases hv; exact⟨trivial,(hr2.tm 10 _ rfl).2⟩
     ·split at hv
      ·rename_i e; subst e; cases hv; exact⟨Nat.lt_succ_self 0,(hr2.tm 9 _ rfl).2⟩
      ·split at hv
       ·rename_i e; subst e; cases hv; exact⟨trivial,(hr2.tm 0 _ rfl).2⟩
       ·cases hv
   ·simp only[stL,find]at hf
    split at hf
    ·rename_i e; subst e; cases hf
     exact⟨Nat.lt_succ_self 0,trivial,hrow,hrow.lt (Nat.lt_succ_self 0)⟩
    ·cases hf
   ·simp only[stL,find]at hf
    split at hf
    ·cases hf; cases hb
    ·cases hf
  clear hr2 hr1 hbk hge hrow
  have hge1:1≤1:=Nat.le_refl 1
  exact jvu n l Kp Far hKF hFg [b0,b1,b2,a0,a1] rfl J Jx hY (fun A B pre hj hg=>hJ pre A B none hj hg (fun r e=>by cases e)) a1' w1 hbet hJ1
end Go.Sx09
end

section
namespace Go.Sx09
open Go Go.Proofs Go.RowKit Go.Shelf Go.Sx Go.Sh
open Go.IntKind (wrap)
attribute [local go_sem] Oper.semAt_some
def partB (n:Int):Bool:=decide (-32768≤n)&&decide (n≤32768)
def chkS (b0 b1 b2 a0 a1:Int):Int:=if[b0,b1,b2,a0,a1].all partB=true then 0 else 2
abbrev jeb (b0 b1 b2 a0 a1:Int):Array Value:=#[.int .i64 b0,.int .i64 b1,.int .i64 b2,.int .i64 a0,.int .i64 a1]
set_option maxHeartbeats 2000000 in
theorem jwS (n:Nat) (b0 b1 b2 a0 a1:Int) (w:World) :
  CallsIn Fence.wide n Tryz.prog 182 #[.agg (jeb b0 b1 b2 a0 a1)] w fun e w'=>e=.returned (.func (.func 185) #[] #[.pointer (some ⟨w.heap.size,0,none⟩)])∧w'=w.alloc (.cells (jeb b0 b1 b2 a0 a1) 148):=by
 refine callsIn_of_wp Tryz.func182 rfl trivial ?_ rfl
 simp only[Tryz.ntmps182,List.size_toArray,List.length_cons,List.length_nil,Nat.reduceAdd,Nat.reduceSub,Array.replicate_succ,Array.replicate_zero,List.push_toArray,List.append_toArray,List.nil_append,List.cons_append]
 gi_wp2
 go_ret
 exact⟨rfl,rfl⟩
theorem joI (n:Int):je8 n=some (partB n):=by
 have e:wrap IntKind.i64 ((0:Int)-32768)=-32768:=by decide
 unfold je8 jgq je7 partB
 simp only[e]
 by_cases h:-32768≤n
 ·simp[h]
 ·simp[h]
theorem jqR (n:Int) (w:World):Calls Tryz.prog 183 #[.int .i64 n] w fun e w'=>e=.returned (.bool (partB n))∧Below w.heap.size w w':=by
 have h:=(jsk.sound Tryz.func183 (rfl:Tryz.f183.body=some (Tryz.f183.body.getD .skip)) (by kernel_rfl)).sound (fun _=>undef) (kd fun k=>k<w.heap.size) w [.w (.c (.d (.i .i64 n)))] [] 0 _ rfl (jgg (joI n)) (fun x hx=>by
  simp only[List.mem_singleton]at hx; subst hx; trivial) ⟨(fun _ _ h=>by cases h),(fun _ _ _ _ _ h=>by cases h),jgh⟩ (fun _ h=>jbS.1 h)
 refine h.mono ?_
 rintro e w' ⟨ρ',rfl,hl⟩
 refine⟨?_,hl.mono rfl⟩
 show Ending.returned (.bool (val (je8 n)))=_
 rw[joI]
 rfl
theorem jvv (W:World) (v:Value) (t:TypeId):(W.alloc (.cells #[v] t)).cell? ⟨W.heap.size,0,none⟩=some v∧(W.alloc (.cells #[v] t)).frozen? ⟨W.heap.size,0,none⟩=false:=by
 have h:(W.alloc (.cells #[v] t)).heap[W.heap.size]?=some (.cells #[v] t (0,0)):=World.alloc_heap_new W (.cells #[v] t)
 constructor
 ·unfold World.cell?
  dsimp only
  rw[h]
  rfl
 ·unfold World.frozen?
  dsimp only
  rw[h]
  rfl
theorem jsl {W:World} {a:Addr} {v:Value} (o:Obj) (h:W.cell? a=some v):(W.alloc o).cell? a=some v:=cell_kept h (World.grownBy_alloc W o none) (fun r e=>by cases e)
theorem jpi {W:World} {a:Addr} {v:Value} (o:Obj) (h:W.cell? a=some v) (hf:W.frozen? a=false):(W.alloc o).frozen? a=false:=(frozen_kept h (World.grownBy_alloc W o none) (fun r e=>by cases e)).trans hf
theorem kpc_t {n1:Nat} {A B C:World} (h:KpC n1 A B) (k:KpC n1 B C):KpC n1 A C:=⟨Nat.le_trans h.size k.size,fun x o hx ho hc=>k.same x o hx (h.same x o hx ho hc) hc⟩
theorem kpc_b {n1:Nat} {w:World} (W:World) (l:Nat) (o o':Obj) (_:w.heap.size≤l) (h:W.heap[l]?=some o) (hc:o.isCells=false) (_:o.isWalk=false):KpC n1 W (W.putObj l o') :=
 ⟨by simp,fun k u _ hk hu=>by
  have hne:l≠k:=fun e=>by subst e; rw[h]at hk; cases hk; rw[hc]at hu; cases hu
  exact(World.putObj_heap_other (fun e=>hne e.symm)).trans hk⟩
theorem jvw {n1:Nat} {A B:World} (h:Below A.heap.size A B):KpC n1 A B:=⟨h.size,fun k o _ hk _=>(h.block k (Array.getElem?_eq_some_iff.1 hk).1).trans hk⟩
theorem jlF {A B:World} (h:Below A.heap.size A B):KeepsOthers A B:=⟨h.size,fun k o hk _=>(h.block k (Array.getElem?_eq_some_iff.1 hk).1).trans hk⟩
theorem jsZ {b0 b1 b2 a0 a1:Int}:(prs [b0,b1,b2,a0,a1] 5).map (·.2)=[b0,b1,b2,a0,a1]:=rfl
theorem jyh {b0 b1 b2 a0 a1:Int} {k:Nat} (hk:k≤5) {x:Nat × Int} (hx:x∈prs [b0,b1,b2,a0,a1] k):x.2∈[b0,b1,b2,a0,a1]:=by
 have h1:x∈prs [b0,b1,b2,a0,a1] 5:=by
  simp only[prs,List.mem_map,List.mem_range]at hx ⊢
  obtain⟨j,hj,e⟩:=hx
  exact⟨j,by omega,e⟩
 rw[←jsZ]
 exact List.mem_map_of_mem h1
set_option maxHeartbeats 4000000 in
theorem jyW (b0 b1 b2 a0 a1:Int) (w:World) :
  CallsIn Fence.wide 9 Tryz.prog 179 #[.agg (jeb b0 b1 b2 a0 a1)] w fun e w'=>e=.returned (.int .i64 (chkS b0 b1 b2 a0 a1))∧Below w.heap.size w w':=by
 have h1:1≤9:=by omega
 have hro:Fence.wide.round=none:=rfl
 refine callsIn_of_wp_marks Tryz.func179 rfl trivial ?_ hro
 simp only[Tryz.ntmps179,List.size_toArray,List.length_cons,List.length_nil,Nat.reduceAdd,Nat.reduceSub,Array.replicate_succ,Array.replicate_zero,List.push_toArray,List.append_toArray,List.nil_append,List.cons_append]
 gi_wp2_with (refine⟨trivial,?_⟩; gi_at_call 182; refine(jwS _ b0 b1 b2 a0 a1 _).mono ?_; rintro e w' ⟨rfl,rfl⟩)
 have c0:(w.alloc (.cells (jeb b0 b1 b2 a0 a1) 148)).heap.size=w.heap.size+1:=World.size_alloc _ _
 have c1:=jvv (w.alloc (.cells (jeb b0 b1 b2 a0 a1) 148)) (.int .i64 0) 27
 rw[c0]at c1
 have hB0:Below w.heap.size w (((w.alloc (.cells (jeb b0 b1 b2 a0 a1) 148)).alloc (.cells #[.int .i64 0] 27)).alloc (.cells (jeb b0 b1 b2 a0 a1) 148)):=(((Below.refl _ w).alloc (Nat.le_refl _) _).alloc (by simp) _).alloc (by simp; omega) _
 obtain⟨w2,hw2⟩:∃w2,((w.alloc (.cells (jeb b0 b1 b2 a0 a1) 148)).alloc (.cells #[.int .i64 0] 27)).alloc (.cells (jeb b0 b1 b2 a0 a1) 148)=w2:=⟨_,rfl⟩
 have hs2:w2.heap.size=w.heap.size+3:=by rw[←hw2]; simp
 have hc2:w2.cell? ⟨w.heap.size+1,0,none⟩=some (.int .i64 0):=by rw[←hw2]; exact jsl _ c1.1
 have hf2:w2.frozen? ⟨w.heap.size+1,0,none⟩=false:=by rw[←hw2]; exact jpi _ c1.1 c1.2
 have hh2:w2.heap[w.heap.size+1+1]?=some (.cells (jeb b0 b1 b2 a0 a1) 148 (0,0)):=by
  rw[←hw2]
  have:=World.alloc_heap_new ((w.alloc (.cells (jeb b0 b1 b2 a0 a1) 148)).alloc (.cells #[.int .i64 0] 27)) (.cells (jeb b0 b1 b2 a0 a1) 148)
  rw[World.size_alloc,c0]at this
  exact this
 rw[hw2]at hB0 ⊢
 refine wpIn_rangeFunc_ownF hro h1 (gf:=185) (lb:=#[.pointer (some ⟨w.heap.size+1+1,0,none⟩)]) rfl trivial (enters_of Tryz.func185 (by kernel_rfl) rfl)
  (α:=Nat × Int) (encs:=fun x=>#[.int .i64 (x.1:Int),.int .i64 x.2]) (Kp:=KpC w2.heap.size) (S:=fun ys=>ys=prs [b0,b1,b2,a0,a1] 5) (Sp:=fun pre=>∃k,k≤5∧pre=prs [b0,b1,b2,a0,a1] k) (N:=5) (w0:=w2)
  (fun l J Jx W hW hJ hJx hY h0=>jwR _ l (w.heap.size+1+1) (KpC w2.heap.size) (fun _ k=>w2.heap.size≤k) (fun h hk=>⟨hk,fun o ho hc=>h.same _ o hk ho hc⟩) (fun _ h=>h) b0 b1 b2 a0 a1 J Jx (fun pre x W hp hl _=>hY pre x W hp hl) W (fun _ g _ hg _=>Nat.le_trans hW.size hg) hJ ((hW.block _ (by omega)).trans hh2) h0) kpc_t kpc_b (Below.refl _ _) (fun _=>rfl)
  (fun pre W=>((∀y∈pre,partB y.2=true)∧W.cell? ⟨w.heap.size+1,0,none⟩=some (.int .i64 0)∧W.frozen? ⟨w.heap.size+1,0,none⟩=false)∧Below w.heap.size w W)
  (fun c pre W=>(c=.ret∧(∃y∈pre,partB y.2=false)∧W.cell? ⟨w.heap.size+1,0,none⟩=some (.int .i64 2))∧Below w.heap.size w W)
  (OwnFrom.and (Own.from (fun s A B row hs hg hr=>⟨hs.1,cell_kept hs.2.1 hg hr,(frozen_kept hs.2.1 hg hr).trans hs.2.2⟩) _) (ownFrom_below (Nat.le_refl _) (by omega)))
  (fun c=>OwnFrom.and (Own.from (fun s A B row hs hg hr=>⟨hs.1,hs.2.1,cell_kept hs.2.2 hg hr⟩) _) (ownFrom_below (Nat.le_refl _) (by omega)))
  ⟨⟨by simp,hc2,hf2⟩,hB0⟩
  (fun x=>{ tmps:=#[Value.agg (jeb b0 b1 b2 a0 a1),Value.pointer (some { block:=w.heap.size,off:=0 }),Value.pointer (some { block:=w.heap.size+1,off:=0 }),undef,.int .i64 x.2,Value.agg (jeb b0 b1 b2 a0 a1),.func (.func 185) #[] #[.pointer (some ⟨w.heap.size+1+1,0,none⟩)],.int .i64 (x.1:Int),.int .i64 x.2,undef,undef,undef],defers:=[] }) ?assign ?body ?done ?stop
 case assign =>
  intro l x W K hK
  gi_wp2
  exact hK
 case body =>
  rintro l pre x W ⟨⟨hp,hcr,hfr⟩,hB⟩ _
  have hlt:w.heap.size+1<W.heap.size:=World.block_lt_of_cell? W ⟨w.heap.size+1,0,none⟩ hcr
  gi_wp2_with (refine⟨trivial,?_⟩; gi_at_call 183; refine(CallsIn.inRound l (callsIn_wide.2 (jqR x.2 W))).mono ?_; rintro e w' ⟨rfl,hBw⟩; have hcw:=(hBw.cell (p:=⟨w.heap.size+1,0,none⟩) hlt).trans hcr; have hfw:=(hBw.frozen (p:=⟨w.heap.size+1,0,none⟩) hlt).trans hfr)
  ·rename_i hx
   have hB':Below w.heap.size w w':=hB.trans (hBw.mono (by omega))
   exact⟨(jlF hBw).trans (KeepsOthers.setCell _ _ _),⟨rfl,⟨x,List.mem_append.2 (.inr (by simp)),by simpa using hx⟩,World.cell?_setCell_same' _ _ _ (by rw[hcw]; rfl)⟩,hB'.setCell (p:=⟨w.heap.size+1,0,none⟩) (by simp) _⟩
  ·rename_i hx
   have hB':Below w.heap.size w w':=hB.trans (hBw.mono (by omega))
   exact⟨jlF hBw,jvw hBw,⟨fun y hy=>(List.mem_append.1 hy).elim (hp y) (fun e=>by simp at e; subst e; simpa using hx),hcw,hfw⟩,hB'⟩
 case done =>
  rintro D ys W hD rfl ⟨⟨hne,hcr,hfr⟩,hB⟩ hK
  gi_wp2
  have hK':=(KeepsOthers.setCell W ⟨w.heap.size+1,0,none⟩ (.int .i64 0)).same D _ hK rfl
  refine⟨by simp,.inl ⟨_,_,rfl,run_takeDeferred hK',?_⟩⟩
  have hc5:=cell_kept (World.cell?_setCell_same' W ⟨w.heap.size+1,0,none⟩ (.int .i64 0) (by rw[hcr]; rfl)) (grownBy_putObj' _ D (.deferred none)) (fun r e=>by cases e; exact⟨_,hK',rfl⟩)
  have hall:chkS b0 b1 b2 a0 a1=0:=by
   unfold chkS
   rw[if_pos]
   rw[←jsZ,List.all_map]
   exact List.all_eq_true.2 fun y hy=>hne y hy
  refine⟨.int .i64 0,?_,by rw[hall],(hB.setCell (p:=⟨w.heap.size+1,0,none⟩) (by simp) _).trans (belowK_b (w:=w) (Nat.le_refl _) _ D _ _ (by omega) hK' rfl rfl)⟩
  simp[results,Tryz.f179,go_sem,hc5]
 case stop =>
  rintro D c pre W hD ⟨k,hk,rfl⟩ ⟨⟨rfl,⟨y,hy,hpy⟩,hcr⟩,hB⟩ hK
  gi_wp2
  refine⟨by simp,.inl ⟨_,_,rfl,run_takeDeferred hK,?_⟩⟩
  have hc5:=cell_kept hcr (grownBy_putObj' _ D (.deferred none)) (fun r e=>by cases e; exact⟨_,hK,rfl⟩)
  have hall:chkS b0 b1 b2 a0 a1=2:=by
   unfold chkS
   rw[if_neg]
   intro h
   have:=List.all_eq_true.1 h y.2 (jyh hk hy)
   rw[hpy]at this
   cases this
  refine⟨.int .i64 2,?_,by rw[hall],hB.trans (belowK_b (w:=w) (Nat.le_refl _) W D _ _ (by omega) hK rfl rfl)⟩
  simp[results,Tryz.f179,go_sem,hc5]
theorem toAs0 {ρ:Env} (w:World) {args:List V} {as_:List A} (has:jht [] args=some as_):(jdG 0 as_).map (V.val fun i=>(args[i]?.map (V.val ρ)).getD undef)=args.map (V.val ρ) :=
 (joD (ρ:=ρ) (B:=kd fun _=>False) (nx:=0) (hp:=[]) (w:=w) ⟨(fun _ _ h=>by cases h),(fun _ _ _ _ _ h=>by cases h),jgh⟩ args _ 0 (fun i=>(args[i]?.map (V.val ρ)).getD undef) has (fun i v hv=>by simp[hv])).1
def gCheckSection:List A→Option (Prop × List RV)
 |[.s [.i .i64 b0,.i .i64 b1,.i .i64 b2,.i .i64 a0,.i .i64 a1]]=>some (True,[.d (.i .i64 (chkS b0 b1 b2 a0 a1))])
 |_=>none
theorem jpj {f:Nat} {fn:Func} {body:Code} {g:List A→Option (Prop × List RV)} (hf:Tryz.prog.funcs[f]?=some fn) (hb:fn.body=some body) (hn:(fn.name == "runtime.NumGoroutine")=false)
  (h:∀(args:List V) (as_:List A) ob rs (ρ:Env) (w:World),jht [] args=some as_→g as_=some (ob,rs)→ob→Calls Tryz.prog f (args.map (V.val ρ)).toArray w fun e w'=>e=.returned ((ja6 (rvW 0 rs)).val ρ)∧Below w.heap.size w w')
  (hd:∀as_ ob rs,g as_=some (ob,rs)→(∀a∈as_,∀c,a≠.r c)∧∀r∈rs,∀t c,r≠.row t c):jaj Tryz.prog f true (jpB g):=by
 refine .inl ⟨jcX hf hb hn,fun ρ B w args hp nx r hS hob hlt hh hB=>?_⟩
 unfold jpB at hS
 split at hS
 ·rename_i as_ has
  split at hS
  ·rename_i ob rs hg
   cases hS
   obtain⟨h1,h2⟩:=hd as_ ob rs hg
   have has':∀(args:List V) (as_:List A),jht hp args=some as_→(∀a∈as_,∀c,a≠.r c)→jht [] args=some as_:=by
    intro args
    induction args with
    |nil=>intro as_ h _; exact h
    |cons v vs ih =>
     intro as_ h hno
     simp only[jht]at h ⊢
     split at h
     ·rename_i a r ha hr
      cases h
      have e1:toA [] v=some a:=by
       unfold toA at ha ⊢
       split at ha
       ·exact ha
       ·exact ha
       ·exact ha
       ·split at ha
        ·split at ha
         ·cases ha
         ·cases ha
          exact absurd rfl (hno _ List.mem_cons_self _)
        ·cases ha
       ·cases ha
      rw[e1,ih r hr (fun a ha=>hno a (List.mem_cons_of_mem _ ha))]
     ·cases h
   have hrv:∀(rs:List RV) (n m:Nat) (hp:Hp),(∀r∈rs,∀t c,r≠.row t c)→rvW n rs=rvW m rs∧jhu n rs hp=hp∧jeA n rs=n∧∀x∈rvW n rs,W.lt n x:=by
    intro rs
    induction rs with
    |nil=>exact fun n m hp _=>⟨rfl,rfl,rfl,fun _ h=>by cases h⟩
    |cons r rs ih =>
     intro n m hp hno
     have ih:=ih n m hp (fun r hr=>hno r (List.mem_cons_of_mem _ hr))
     cases r with
     |d x=>exact⟨by simp only[rvW,ih.1],ih.2.1,ih.2.2.1,fun u hu=>by
       rcases List.mem_cons.1 hu with rfl|hu
       ·trivial
       ·exact ih.2.2.2 u hu⟩
     |s l=>exact⟨by simp only[rvW,ih.1],ih.2.1,ih.2.2.1,fun u hu=>by
       rcases List.mem_cons.1 hu with rfl|hu
       ·intro y hy
        obtain⟨z,_,rfl⟩:=List.mem_map.1 hy
        trivial
       ·exact ih.2.2.2 u hu⟩
     |row t c=>exact absurd rfl (hno _ List.mem_cons_self t c)
   refine(h args as_ ob rs ρ w (has' args as_ has h1) hg hob).mono ?_
   rintro e w' ⟨rfl,hbl⟩
   obtain⟨e1,e2,e3,e4⟩:=hrv rs nx 0 hp h2
   refine⟨ρ,by rw[←e1]; rfl,jai.refl _ _,(?_:V.lt (jeA nx rs) (ja6 (rvW nx rs))),(?_:nx≤jeA nx rs),⟨B,Grow.refl _ _ _ _,(?_:HRel ρ B (jhu nx rs hp) (jeA nx rs) w')⟩,jcw hbl hB,fun _=>hbl,fun _ h o k hle hf _=>?_⟩
   ·rw[e3]
    exact je0 e4
   ·rw[e3]
    exact Nat.le_refl _
   ·rw[e2,e3]
    exact hh.below hbl hB
   ·have hf:find (jhu nx rs hp) h=some o:=hf
    rw[e2]at hf
    have:=(hh.ok h o hf).1
    omega
  ·cases hS
 ·cases hS
theorem checkSection_ok:jaj Tryz.prog 179 true (jpB gCheckSection):=by
 refine jpj (fn:=Tryz.f179) (body:=bodyOf Tryz.f179) Tryz.func179 (by kernel_rfl) (by kernel_rfl) ?_ ?_
 ·intro args as_ ob rs ρ w has hg ho
  unfold gCheckSection at hg
  split at hg
  ·rename_i b0 b1 b2 a0 a1
   cases hg
   have e:(args.map (V.val ρ)).toArray=#[.agg (jeb b0 b1 b2 a0 a1)]:=by
    have hto:=toAs0 (ρ:=ρ) w has
    rw[←hto]
    rfl
   rw[e]
   refine(callsIn_wide.1 (jyW b0 b1 b2 a0 a1 w)).mono ?_
   rintro e w' ⟨rfl,h⟩
   exact⟨rfl,h⟩
  ·cases hg
 ·intro as_ ob rs hg
  unfold gCheckSection at hg
  split at hg
  ·cases hg
   refine⟨fun a ha c=>?_,fun r hr t c=>?_⟩
   ·simp only[List.mem_singleton]at ha; subst ha; exact fun h=>by cases h
   ·simp only[List.mem_singleton]at hr; subst hr; exact fun h=>by cases h
  ·cases hg
end Go.Sx09
namespace Go.Sh
open Go Go.Proofs Go.RowKit Go.Sx
abbrev sp_179:jab→jab:=jaX 179 true (jpB Sx09.gCheckSection)
theorem sp_179_ok {sp:jab} (h:jac Tryz.prog sp):jac Tryz.prog (sp_179 sp):=jaA Sx09.checkSection_ok h
end Go.Sh
end
