/- Part 6 of the proof of EngineFaults: the executor, the mirrors of the functions, the plain facts. -/
import Derived.Test.YtigliehhpdpaoaaGreatPE
import Derived.Carry
import Derived.ChangeArms
import Derived.OpenShut
import Derived.ChangeShapes
import Derived.ChangeSame
import Derived.SizedLaws
import Derived.WideShapes
set_option maxRecDepth 100000
set_option linter.unusedSectionVars false
set_option linter.unusedSimpArgs false
set_option linter.unusedVariables false
section
open Go.RowKit
namespace Go.Sx
section force
variable {α:Type}
def fN (n:Nat) (k:Nat→α):α :=
 match n with
 |0=>k 0
 |m+1=>k (m+1)
def fI (n:Int) (k:Int→α):α :=
 match n with
 | .ofNat m=>fN m fun m=>k (.ofNat m)
 | .negSucc m=>fN m fun m=>k (.negSucc m)
def fB (b:Bool) (k:Bool→α):α :=
 match b with
 |true=>k true
 |false=>k false
noncomputable def fL {β:Type} (f:β→(β→α)→α) (l:List β):(List β→α)→α :=
 List.rec (motive:=fun _=>(List β→α)→α) (fun k=>k []) (fun x _ ih k=>f x fun x=>ih fun r=>k (x::r)) l
def fD (x:D) (k:D→α):α :=
 match x with
 | .i q n=>fI n fun n=>k (.i q n)
 | .b b=>fB b fun b=>k (.b b)
 | .f q n=>fN n fun n=>k (.f q n)
 | .s x=>k (.s x)
 | .v x=>k (.v x)
 | .z q p=>k (.z q p)
noncomputable def fC (x:C) (k:C→α):α :=
 match x with
 | .d x=>fD x fun x=>k (.d x)
 | .p h i e j=>fN h fun h=>fN i fun i=>fN e fun e=>fN j fun j=>k (.p h i e j)
 | .o h=>fN h fun h=>k (.o h)
 | .fn f hs=>fL fN hs fun hs=>k (.fn f hs)
 | .g n i e j=>fN i fun i=>fN j fun j=>k (.g n i e j)
 | .fb f hs=>fL fN hs fun hs=>k (.fb f hs)
noncomputable def fW (x:W) (k:W→α):α :=
 match x with
 | .c x=>fC x fun x=>k (.c x)
 | .a l=>fL fC l fun l=>k (.a l)
 | .b q e r=>fL fN r fun r=>k (.b q e r)
noncomputable def fV (x:V) (k:V→α):α :=
 match x with
 | .w x=>fW x fun x=>k (.w x)
 | .t l=>fL fW l fun l=>k (.t l)
noncomputable def jgc (c:Cont) (k:Cont→α):α :=
 match c with
 | .ints q l=>fL fI l fun l=>k (.ints q l)
 | .recs e l=>fL (fL fI) l fun l=>k (.recs e l)
 | .floats q l=>fL fN l fun l=>k (.floats q l)
 | .strs l=>fL (fun x k=>k x) l fun l=>k (.strs l)
 | .bools l=>fL fB l fun l=>k (.bools l)
 | .lits e l=>fL (fL fD) l fun l=>k (.lits e l)
 | .frs q e l=>fL (fL fN) l fun l=>k (.frs q e l)
noncomputable def fNC (x:NC) (k:NC→α):α :=
 match x with
 | .d x=>fD x fun x=>k (.d x)
 | .r c=>jgc c fun c=>k (.r c)
noncomputable def fXC (x:XC) (k:XC→α):α :=
 match x with
 | .st sh l=>fL (fL fNC) l fun l=>k (.st sh l)
 | .ii q l=>fL (fL fI) l fun l=>k (.ii q l)
 | .ff q l=>fL (fL fN) l fun l=>k (.ff q l)
 | .bb q e l=>fL (fL (fL fN)) l fun l=>k (.bb q e l)
 | .rr e l=>fL (fL (fL fI)) l fun l=>k (.rr e l)
noncomputable def fO (o:O) (k:O→α):α :=
 match o with
 | .box ty cs=>fL fC cs fun cs=>k (.box ty cs)
 | .row ty c=>jgc c fun c=>k (.row ty c)
 | .ext c=>jgc c fun c=>k (.ext c)
 | .view r c f=>fN r fun r=>jgc c fun c=>fB f fun f=>k (.view r c f)
 | .dead=>k .dead
 | .nan q=>k (.nan q)
 | .ebox cs=>fL fC cs fun cs=>k (.ebox cs)
 | .arr ty q e r=>fL fN r fun r=>k (.arr ty q e r)
 | .xext x=>fXC x fun x=>k (.xext x)
 | .map es=>k (.map es)
 | .rrow c=>jgc c fun c=>k (.rrow c)
 | .fext c=>jgc c fun c=>k (.fext c)
 | .xrow ty x=>fXC x fun x=>k (.xrow ty x)
 | .mrow ty ts x ho=>fXC x fun x=>match ho with
  |none=>k (.mrow ty ts x none)
  |some p=>k (.mrow ty ts x (some p))
 | .sub r i e j ty c=>fN r fun r=>fN i fun i=>fN e fun e=>fN j fun j=>jgc c fun c=>k (.sub r i e j ty c)
 | .lbox ty e n cs=>fL fC cs fun cs=>k (.lbox ty e n cs)
 | .lview r e n cs=>fN r fun r=>fL fC cs fun cs=>k (.lview r e n cs)
 | .elist e n cs=>fL fC cs fun cs=>k (.elist e n cs)
 | .err=>k .err
 | .atom=>k .atom
def fS (o:O) (k:O→α):α :=
 match o with
 | .box ty cs=>k (.box ty cs)
 | .row ty c=>k (.row ty c)
 | .ext c=>k (.ext c)
 | .view r c f=>k (.view r c f)
 | .dead=>k .dead
 | .nan q=>k (.nan q)
 | .ebox cs=>k (.ebox cs)
 | .arr ty q e r=>k (.arr ty q e r)
 | .xext x=>k (.xext x)
 | .map es=>k (.map es)
 | .rrow c=>k (.rrow c)
 | .fext c=>k (.fext c)
 | .xrow ty x=>k (.xrow ty x)
 | .mrow ty ts x ho=>k (.mrow ty ts x ho)
 | .sub r i e j ty c=>k (.sub r i e j ty c)
 | .lbox ty e n cs=>k (.lbox ty e n cs)
 | .lview r e n cs=>k (.lview r e n cs)
 | .elist e n cs=>k (.elist e n cs)
 | .err=>k .err
 | .atom=>k .atom
theorem jbx (n:Nat) (k:Nat→α):fN n k=k n:=by cases n<;>rfl
theorem joZ (n:Int) (k:Int→α):fI n k=k n:=by cases n<;>simp only[fI,jbx]
theorem jwD (b:Bool) (k:Bool→α):fB b k=k b:=by cases b<;>rfl
theorem ja6 {β:Type} {f:β→(β→α)→α} (hf:∀x k,f x k=k x):∀(l:List β) (k:List β→α),fL f l k=k l
 |[],_=>rfl
 |x::r,k=>by
  show f x (fun x=>fL f r fun r=>k (x::r))=_
  rw[hf,ja6 hf r]
theorem jwE (x:D) (k:D→α):fD x k=k x:=by cases x<;>simp only[fD,joZ,jwD,jbx]
theorem jwF (x:C) (k:C→α):fC x k=k x:=by cases x<;>simp only[fC,jwE,jbx,ja6 jbx]
theorem jAw (x:W) (k:W→α):fW x k=k x:=by cases x<;>simp only[fW,jwF,ja6 jwF,ja6 jbx]
theorem jc1 (x:V) (k:V→α):fV x k=k x:=by cases x<;>simp only[fV,jAw,ja6 jAw]
theorem jta (x:Cont) (k:Cont→α):jgc x k=k x:=by
 cases x<;>simp only[jgc,ja6 joZ,ja6 (ja6 joZ),ja6 jbx,ja6 (fun(x:ByteArray) (k:ByteArray→α)=>rfl),ja6 jwD,ja6 (ja6 jwE),ja6 (ja6 jbx)]
theorem jBQ (x:NC) (k:NC→α):fNC x k=k x:=by cases x<;>simp only[fNC,jwE,jta]
theorem jye (x:XC) (k:XC→α):fXC x k=k x:=by
 cases x<;>simp only[fXC,ja6 (ja6 jBQ),ja6 (ja6 joZ),ja6 (ja6 jbx),ja6 (ja6 (ja6 jbx)),ja6 (ja6 (ja6 joZ))]
theorem jwG (x:O) (k:O→α):fO x k=k x:=by
 cases x with
 |mrow ty ts x ho=>cases ho<;>simp only[fO,jye]
 |_=>simp only[fO,ja6 jwF,jta,jbx,jwD,ja6 jbx,jye]
theorem fS_eq (x:O) (k:O→α):fS x k=k x:=by cases x<;>rfl
def jiD:O→Bool
 | .dead=>true
 |_=>false
noncomputable def hpF (live:Nat→Bool) (j seen:Nat) (hp:Hp) (k:Hp→α):α :=
 List.rec (motive:=fun _=>Nat→Nat→(Hp→α)→α) (fun _ _ k=>k []) (fun x _ ih j seen k=>fN x.1 fun h=>match Nat.testBit seen h with
  |true=>ih j.pred seen k
  |false=>fN (seen ||| 1 <<< h) fun seen=>match live h with
   |false=>ih j.pred seen k
   |true=>match j with
    |0=>fS x.2 fun o=>match jiD o with
     |true=>ih 0 seen k
     |false=>ih 0 seen fun r=>k ((h,o)::r)
    |j+1=>fO x.2 fun o=>match jiD o with
     |true=>ih j seen k
     |false=>ih j seen fun r=>k ((h,o)::r)) hp j seen k
theorem jA0 {live:Nat→Bool} {j seen:Nat} {k:Hp→α}:hpF live j seen [] k=k []:=rfl
theorem jzR {live:Nat→Bool} {j seen h:Nat} {o:O} {r:Hp} {k:Hp→α}:hpF live j seen ((h,o)::r) k=fN h fun h=>match Nat.testBit seen h with
  |true=>hpF live j.pred seen r k
  |false=>fN (seen ||| 1 <<< h) fun seen=>match live h with
   |false=>hpF live j.pred seen r k
   |true=>match j with
    |0=>fS o fun o=>match jiD o with
     |true=>hpF live 0 seen r k
     |false=>hpF live 0 seen r fun r=>k ((h,o)::r)
    |j+1=>fO o fun o=>match jiD o with
     |true=>hpF live j seen r k
     |false=>hpF live j seen r fun r=>k ((h,o)::r):=rfl
theorem jvm (seen h t:Nat):Nat.testBit (seen ||| 1 <<< h) t=false↔Nat.testBit seen t=false∧t≠h:=by
 rw[Nat.testBit_or,Nat.one_shiftLeft,Nat.testBit_two_pow]
 simp only[Bool.or_eq_false_iff,decide_eq_false_iff_not]
 exact⟨fun h=>⟨h.1,fun e=>h.2 e.symm⟩,fun h=>⟨h.1,fun e=>h.2 e.symm⟩⟩
theorem jgV {live:Nat→Bool}:∀(hp:Hp) (j seen:Nat) (k:Hp→α),∃hp',hpF live j seen hp k=k hp'∧∀h o,find hp' h=some o→find hp h=some o∧Nat.testBit seen h=false∧live h=true
 |[],j,seen,k=>⟨[],jA0,fun h o hf=>by cases hf⟩
 |(h0,o0)::r,j,seen,k=>by
  rw[jzR,jbx]
  have skip:∀(j seen':Nat) (k:Hp→α),(∀t,Nat.testBit seen' t=false→Nat.testBit seen t=false∧t≠h0)→∃hp',hpF live j seen' r k=k hp'∧∀h o,find hp' h=some o→find ((h0,o0)::r) h=some o∧Nat.testBit seen h=false∧live h=true:=by
   intro j seen' k hs
   obtain⟨hp',h1,h2⟩:=jgV r j seen' k
   refine⟨hp',h1,fun h o hf=>?_⟩
   obtain⟨h3,h4,h9⟩:=h2 h o hf
   obtain⟨h5,h6⟩:=hs h h4
   exact⟨by rw[find,if_neg (fun e=>h6 e.symm)]; exact h3,h5,h9⟩
  have keep:∀(j seen':Nat),(∀t,Nat.testBit seen' t=false→Nat.testBit seen t=false∧t≠h0)→Nat.testBit seen h0=false→live h0=true→∃hp',hpF live j seen' r (fun r=>k ((h0,o0)::r))=k hp'∧∀h o,find hp' h=some o→find ((h0,o0)::r) h=some o∧Nat.testBit seen h=false∧live h=true:=by
   intro j seen' hs h0s hl0
   obtain⟨hp',h1,h2⟩:=jgV r j seen' (fun r=>k ((h0,o0)::r))
   refine⟨(h0,o0)::hp',h1,fun h o hf=>?_⟩
   rw[find]at hf
   split at hf
   ·rename_i e
    subst e
    cases hf
    exact⟨by rw[find,if_pos rfl],h0s,hl0⟩
   ·rename_i e
    obtain⟨h3,h4,h9⟩:=h2 h o hf
    exact⟨by rw[find,if_neg e]; exact h3,(hs h h4).1,h9⟩
  cases hs:Nat.testBit seen h0 with
  |true =>
   refine skip _ _ _ fun t ht=>⟨ht,fun e=>?_⟩
   subst e
   rw[ht]at hs
   cases hs
  |false =>
   dsimp only
   rw[jbx]
   have hn:=fun t=>(jvm seen h0 t).1
   cases hl0:live h0 with
   |false=>exact skip _ _ _ hn
   |true =>
    cases j with
    |zero =>
     dsimp only
     rw[fS_eq]
     cases jiD o0 with
     |true=>exact skip _ _ _ hn
     |false=>exact keep _ _ hn hs hl0
    |succ j =>
     dsimp only
     rw[jwG]
     cases jiD o0 with
     |true=>exact skip _ _ _ hn
     |false=>exact keep _ _ hn hs hl0
noncomputable def tmF (seen:Nat) (tm:List (Nat × V)) (k:List (Nat × V)→α):α :=
 List.rec (motive:=fun _=>Nat→(List (Nat × V)→α)→α) (fun _ k=>k []) (fun x _ ih seen k=>match Nat.testBit seen x.1 with
  |true=>ih seen k
  |false=>fV x.2 fun v=>fN (seen ||| 1 <<< x.1) fun seen=>ih seen fun r=>k ((x.1,v)::r)) tm seen k
theorem jA1 {seen:Nat} {k:List (Nat × V)→α}:tmF seen [] k=k []:=rfl
theorem jzS {seen t:Nat} {v:V} {r:List (Nat × V)} {k:List (Nat × V)→α}:tmF seen ((t,v)::r) k=match Nat.testBit seen t with
  |true=>tmF seen r k
  |false=>fV v fun v=>fN (seen ||| 1 <<< t) fun seen=>tmF seen r fun r=>k ((t,v)::r):=rfl
theorem jnE:∀(tm:List (Nat × V)) (seen:Nat) (k:List (Nat × V)→α),∃tm',tmF seen tm k=k tm'∧∀t v,jaH tm' t=some v→jaH tm t=some v∧Nat.testBit seen t=false
 |[],seen,k=>⟨[],jA1,fun h o hf=>by cases hf⟩
 |(t0,v0)::r,seen,k=>by
  rw[jzS]
  cases hs:Nat.testBit seen t0 with
  |true =>
   obtain⟨tm',h1,h2⟩:=jnE r seen k
   refine⟨tm',h1,fun t v hf=>?_⟩
   obtain⟨h3,h4⟩:=h2 t v hf
   refine⟨?_,h4⟩
   rw[jaH,if_neg (fun e=>by subst e; rw[h4]at hs; cases hs)]
   exact h3
  |false =>
   dsimp only
   rw[jc1,jbx]
   obtain⟨tm',h1,h2⟩:=jnE r (seen ||| 1 <<< t0) (fun r=>k ((t0,v0)::r))
   refine⟨(t0,v0)::tm',h1,fun t v hf=>?_⟩
   rw[jaH]at hf
   split at hf
   ·rename_i e
    subst e
    cases hf
    exact⟨by rw[jaH,if_pos rfl],hs⟩
   ·rename_i e
    obtain⟨h3,h4⟩:=h2 t v hf
    exact⟨by rw[jaH,if_neg e]; exact h3,((jvm seen t0 t).1 h4).1⟩
end force
noncomputable def jp1 (l:List (Nat × V)) (t:Nat):Option V :=
 List.rec (motive:=fun _=>Option V) none (fun x _ ih=>Bool.rec (motive:=fun _=>Option V) ih (some x.2) (Nat.beq x.1 t)) l
theorem jiE:∀(l:List (Nat × V)) (t:Nat),jp1 l t=jaH l t
 |[],_=>rfl
 |(k,v)::r,t=>by
  have ih:=jiE r t
  rw[jaH,←ih]
  show Bool.rec (motive:=fun _=>Option V) (jp1 r t) (some v) (Nat.beq k t)=_
  cases h:Nat.beq k t with
  |true=>rw[if_pos (Nat.eq_of_beq_eq_true h)]
  |false=>rw[if_neg (fun e=>by subst e; rw[Nat.beq_refl]at h; cases h)]
noncomputable def jma (l:Hp) (t:Nat):Option O :=
 List.rec (motive:=fun _=>Option O) none (fun x _ ih=>Bool.rec (motive:=fun _=>Option O) ih (some x.2) (Nat.beq x.1 t)) l
theorem jdm:∀(l:Hp) (t:Nat),jma l t=find l t
 |[],_=>rfl
 |(k,v)::r,t=>by
  have ih:=jdm r t
  rw[find,←ih]
  show Bool.rec (motive:=fun _=>Option O) (jma r t) (some v) (Nat.beq k t)=_
  cases h:Nat.beq k t with
  |true=>rw[if_pos (Nat.eq_of_beq_eq_true h)]
  |false=>rw[if_neg (fun e=>by subst e; rw[Nat.beq_refl]at h; cases h)]
noncomputable def jlC {α:Type} (l:List α) (n:Nat):Option α :=
 List.rec (motive:=fun _=>Nat→Option α) (fun _=>none) (fun x _ ih n=>match n with|0=>some x|n+1=>ih n) l n
theorem jee {α:Type}:∀(l:List α) (n:Nat),jlC l n=l[n]?
 |[],_=>rfl
 |x::r,0=>rfl
 |x::r,n+1=>by
  have:=jee r n
  show jlC r n=_
  rw[this]
  simp
noncomputable def rdQ [Globs] (st:St):Operand→Option V
 | .tmp t=>jp1 st.tm t
 | .const v=>some (.w (ofValue v))
 | .global g=>jb6 st (.global g)
 | .func f=>some (.w (.c (.fn f [])))
theorem jyf [Globs] (st:St):rdQ st=jb6 st:=by
 funext x
 cases x<;>first|exact jiE _ _|rfl
def jtb:List Nat→Nat
 |[]=>0
 |h::r=>1 <<< h ||| jtb r
def jAx:C→Nat
 | .p h _ _ _=>1 <<< h
 | .o h=>1 <<< h
 | .fn _ hs=>jtb hs
 | .fb _ hs=>jtb hs
 |_=>0
def jfD:List C→Nat→Nat
 |[],m=>m
 | .d _::r,m=>jfD r m
 |c::r,m=>jfD r (jAx c ||| m)
def jAy:W→Nat→Nat
 | .c c,m=>jAx c ||| m
 | .a l,m=>jfD l m
 | .b _ _ _,m=>m
def jry:V→Nat→Nat
 | .w u,m=>jAy u m
 | .t l,m=>l.foldl (fun m u=>jAy u m) m
def jAz:O→Nat→Nat
 | .box _ cs,m=>jfD cs m
 | .ebox cs,m=>jfD cs m
 | .lbox _ _ _ cs,m=>jfD cs m
 | .lview r _ _ cs,m=>jfD cs (1 <<< r ||| m)
 | .elist _ _ cs,m=>jfD cs m
 | .view r _ _,m=>1 <<< r ||| m
 | .sub r _ _ _ _ _,m=>1 <<< r ||| m
 |_,m=>m
noncomputable def jo0 {α:Type} (n0:Nat) (hp:Hp) (m:Nat) (k:Nat→α):α :=
 List.rec (motive:=fun _=>Nat→(Nat→α)→α) (fun m k=>k m) (fun x _ ih m k=>match Nat.blt x.1 n0||Nat.testBit m x.1 with
  |true=>fN (jAz x.2 m) fun m=>ih m k
  |false=>ih m k) hp m k
theorem jwH {α:Type} {n0 h:Nat} {o:O} {r:Hp} {m:Nat} {k:Nat→α}:jo0 n0 ((h,o)::r) m k=match Nat.blt h n0||Nat.testBit m h with
  |true=>fN (jAz o m) fun m=>jo0 n0 r m k
  |false=>jo0 n0 r m k:=rfl
noncomputable def jiF {α:Type} (n0:Nat) (hp:Hp):Nat→Nat→(Nat→α)→α
 |0,m,k=>k m
 |n+1,m,k=>jo0 n0 hp m fun m'=>match Nat.beq m m' with
  |true=>k m'
  |false=>jiF n0 hp n m' k
theorem jjI {α:Type} {n0:Nat}:∀(hp:Hp) (m:Nat) (k:Nat→α),∃m',jo0 n0 hp m k=k m'
 |[],m,k=>⟨m,rfl⟩
 |(h,o)::r,m,k=>by
  rw[jwH]
  split
  ·rw[jbx]; exact jjI r _ k
  ·exact jjI r _ k
theorem jh3 {α:Type} {n0:Nat} {hp:Hp}:∀(n m:Nat) (k:Nat→α),∃m',jiF n0 hp n m k=k m'
 |0,m,k=>⟨m,rfl⟩
 |n+1,m,k=>by
  unfold jiF
  obtain⟨m',h⟩:=jjI (n0:=n0) hp m (fun m'=>match Nat.beq m m' with|true=>k m' | false=>jiF n0 hp n m' k)
  rw[h]
  split
  ·exact⟨_,rfl⟩
  ·exact jh3 n m' k
end Go.Sx
end

section
open Go.RowKit
namespace Go.Sx
section
variable [Globs]
def qInt (op:BinOp) (k:IntKind) (a b:Int):Option V :=
 match op with
 | .add=>some (vi k (k.wrap (a+b)))
 | .sub=>some (vi k (k.wrap (a-b)))
 | .mul=>some (vi k (k.wrap (a*b)))
 | .eql=>some (vb (a==b))
 | .neq=>some (vb (a != b))
 | .lss=>some (vb (a<b))
 | .leq=>some (vb (a≤b))
 | .gtr=>some (vb (a>b))
 | .geq=>some (vb (a≥b))
 |_=>none
noncomputable def qBin (op:BinOp) (u v:Option V):Option V :=
 match u,v with
 |some (.w (.c (.d (.i k a)))),some (.w (.c (.d (.i k' b))))=>match decide (k=k')with
  |true=>qInt op k a b
  |false=>none
 |_,_=>none
noncomputable def jyg (P:Program) (s:TypeId) (f:Nat) (u:Option V):Option V :=
 match u with
 |some (.w (.c (.p h i e j)))=>match P.underlying s with
  |some (.struct fs)=>match jlC fs.toList f with
   |some g=>match szT P g.type with
    |some (_+1)=>some (.w (.c (.p h i e (j+g.offset))))
    |_=>none
   |none=>none
  |_=>none
 |_=>none
noncomputable def qNil (u:Option V):Option V :=
 match u with
 |some (.w (.c (.p h i e j)))=>some (.w (.c (.p h i e j)))
 |_=>none
noncomputable def qNot (u:Option V):Option V :=
 match u with
 |some (.w (.c (.d (.b b))))=>some (vb (!b))
 |_=>none
noncomputable def jAA (P:Program) (t:TypeId) (hp:Hp) (u:Option V):Option V :=
 match u with
 |some (.w (.c (.p h i e j)))=>match e with
  |0=>none
  |e' + 1=>match jbm P t with
   |some false=>match szT P t with
    |some _=>match jma hp h with
     |some (.box _ cs)=>match jlC cs (i*(e' + 1)+j)with
      |some c=>some (.w (.c c))
      |none=>none
     |some (.ebox cs)=>match jlC cs (i*(e' + 1)+j)with
      |some c=>some (.w (.c c))
      |none=>none
     |some (.row _ (.ints k l))=>match Nat.beq (e' + 1) 1,Nat.beq j 0,Nat.blt i l.length with
      |true,true,true=>some (vi k (l.getD i 0))
      |_,_,_=>none
     |some (.ext (.ints k l))=>match Nat.beq (e' + 1) 1,Nat.beq j 0,Nat.blt i l.length with
      |true,true,true=>some (vi k (l.getD i 0))
      |_,_,_=>none
     |some (.row _ (.bools l))=>match Nat.beq (e' + 1) 1,Nat.beq j 0,Nat.blt i l.length with
      |true,true,true=>some (vb (l.getD i false))
      |_,_,_=>none
     |some (.ext (.bools l))=>match Nat.beq (e' + 1) 1,Nat.beq j 0,Nat.blt i l.length with
      |true,true,true=>some (vb (l.getD i false))
      |_,_,_=>none
     |_=>none
    |none=>none
   |_=>none
 |_=>none
noncomputable def jAB (c a b:Option V):Option V :=
 match c with
 |some (.w (.c (.d (.b true))))=>a
 |some (.w (.c (.d (.b false))))=>b
 |_=>none
noncomputable def qExt (u:Option V) (i:Nat):Option V :=
 match u with
 |some (.t l)=>match jlC l i with
  |some x=>some (.w x)
  |none=>none
 |_=>none
noncomputable def qFld (P:Program) (t:TypeId) (f:Nat) (u:Option V):Option V :=
 match u with
 |some (.w (.a cs))=>match P.underlying t with
  |some (.struct fs)=>match jlC fs.toList f with
   |some g=>jbO P g.type cs g.offset
   |none=>none
  |_=>none
 |_=>none
noncomputable def qIdx (P:Program) (t:TypeId) (hp:Hp) (u i:Option V):Option V :=
 match i with
 |some (.w (.c (.d (.i _ n))))=>match u with
  |some (.w (.c (.o h)))=>match P.underlying t with
   |some (.slice elem)=>match(jma hp h).bind O.cont with
    |some c=>match szT P elem with
     |some size=>match decide (size=c.e),decide (0≤n∧n<(c.n:Int))with
      |true,true=>some (.w (.c (.p h n.toNat c.e 0)))
      |_,_=>none
     |none=>none
    |none=>none
   |_=>none
  |_=>none
 |_=>none
noncomputable def qStr (P:Program) (t:TypeId) (u i:Option V):Option V :=
 match u with
 |some (.w (.c (.d (.s s))))=>match i with
  |some (.w (.c (.d (.i _ n))))=>match P.underlying t with
   |some .string=>match decide (0≤n∧n<(s.size:Int))with
    |true=>some (vi .u8 ((s.data.getD n.toNat 0).toNat:Int))
    |false=>none
   |_=>none
  |_=>none
 |_=>none
noncomputable def qLen (P:Program) (t:TypeId) (hp:Hp) (u:Option V):Option V :=
 match P.underlying t with
 |some (.slice _)=>match u with
  |some (.w (.c (.o h)))=>match(jma hp h).bind O.cont with
   |some c=>some (vi .i64 (c.n:Int))
   |none=>none
  |some (.w (.c (.d (.v (.slice none 0 0)))))=>some (vi .i64 0)
  |_=>none
 |some .string=>match u with
  |some (.w (.c (.d (.s s))))=>some (vi .i64 (s.size:Int))
  |_=>none
 |_=>none
noncomputable def jAC (P:Program) (c:Call) (rd:Operand→Option V) (hp:Hp):Option V :=
 match c.callee with
 | .builtin .len=>match c.args.toList with
  |[x]=>match c.argTypes.toList with
   |[t]=>qLen P t hp (rd x)
   |_=>none
  |_=>none
 |_=>none
noncomputable def qV (P:Program) (op:Op) (rd:Operand→Option V) (hp:Hp):Option V :=
 match op with
 | .move x=>rd x
 | .assign x=>rd x
 | .binOp o _ x y _=>qBin o (rd x) (rd y)
 | .fieldAddr s x f=>jyg P s f (rd x)
 | .nilCheck x=>qNil (rd x)
 | .unOp .not _ x=>qNot (rd x)
 | .load t x=>jAA P t hp (rd x)
 | .pick c a b=>jAB (rd c) (rd a) (rd b)
 | .extract t i=>qExt (rd t) i
 | .field t x f=>qFld P t f (rd x)
 | .indexAddr t x ix=>qIdx P t hp (rd x) (rd ix)
 | .index t x i=>qStr P t (rd x) (rd i)
 | .call c=>jAC P c rd hp
 |_=>none
theorem jp2 {P:Program} {sp:jaa} {op:Op} {rd:Operand→Option V} {hp:Hp} {nx:Nat} {v:V} (h:qV P op rd hp=some v) :
  jf0 P sp op rd hp nx=none∧∃ob,ja5 P op rd hp=some (ob,v)∧ob:=by
 have lift:(∃ob,ja3 P op rd hp=some (ob,v)∧ob)→∃ob,ja5 P op rd hp=some (ob,v)∧ob:=by
  rintro ⟨ob,h1,h2⟩
  exact⟨ob,by unfold ja5; rw[h1],h2⟩
 unfold qV at h
 split at h
 ·rename_i x
  exact⟨rfl,lift ⟨True,by simp[ja3,h],trivial⟩⟩
 ·rename_i x
  exact⟨rfl,lift ⟨True,by simp[ja3,h],trivial⟩⟩
 ·rename_i o t x y yt
  unfold qBin at h
  split at h
  ·rename_i k a k' b hx hy
   split at h
   ·rename_i hk
    have hk:=of_decide_eq_true hk
    subst hk
    refine⟨by simp[jf0,hx,hy],lift ?_⟩
    unfold qInt at h
    simp only[ja3,hx,hy,V.int?,jfn]
    split at h<;>cases h<;>exact⟨_,rfl,trivial⟩
   ·cases h
  ·cases h
 ·rename_i s x f
  unfold jyg at h
  try simp only[jdm,jee]at h
  split at h
  ·rename_i k i e j hx
   split at h
   ·rename_i fs hu
    split at h
    ·rename_i g hg
     split at h
     ·rename_i sz hs
      cases h
      exact⟨rfl,lift ⟨True,by simp only[ja3,hu,hx,hg,hs],trivial⟩⟩
     ·cases h
    ·cases h
   ·cases h
  ·cases h
 ·rename_i x
  unfold qNil at h
  split at h
  ·rename_i hx
   cases h
   exact⟨rfl,lift ⟨True,by simp only[ja3,hx],trivial⟩⟩
  ·cases h
 ·rename_i t x
  unfold qNot at h
  split at h
  ·rename_i b hx
   cases h
   exact⟨rfl,lift ⟨True,by simp[ja3,hx,V.bool?],trivial⟩⟩
  ·cases h
 ·rename_i t x
  unfold jAA at h
  try simp only[jdm,jee]at h
  split at h
  ·rename_i k i e j hx
   split at h
   ·cases h
   ·rename_i e'
    split at h
    ·rename_i hag
     split at h
     ·rename_i sz hs
      split at h
      ·rename_i ty cs hf
       split at h
       ·rename_i c hc
        cases h
        exact⟨rfl,lift ⟨True,by simp[ja3,hx,hf,jcV,hag,hs,jef,hc],trivial⟩⟩
       ·cases h
      ·rename_i cs hf
       split at h
       ·rename_i c hc
        cases h
        exact⟨rfl,lift ⟨True,by simp[ja3,hx,hf,jcV,hag,hs,jef,hc],trivial⟩⟩
       ·cases h
      all_goals first
       |(cases h; done)
       |(
         rename_i hf
         split at h
         ·rename_i e1 e2 e3
          have e1:=Nat.eq_of_beq_eq_true e1
          have e2:=Nat.eq_of_beq_eq_true e2
          have e3:=of_decide_eq_true (show decide _=true from by simpa using e3)
          cases h
          obtain rfl:e'=0:=by omega
          subst e2
          exact⟨rfl,lift ⟨_,by simp[ja3,hx,hf,jcV,hag,hs,O.cont,Cont.e,Cont.n,Cont.cell,vi,vb],e3⟩⟩
         ·cases h)
     ·cases h
    ·cases h
  ·cases h
 ·rename_i c x y
  unfold jAB at h
  split at h
  ·rename_i hc
   exact⟨rfl,lift ⟨True,by simp[ja3,hc,V.bool?,h],trivial⟩⟩
  ·rename_i hc
   exact⟨rfl,lift ⟨True,by simp[ja3,hc,V.bool?,h],trivial⟩⟩
  ·cases h
 ·rename_i t i
  unfold qExt at h
  try simp only[jdm,jee]at h
  split at h
  ·rename_i l ht
   split at h
   ·rename_i x hx
    cases h
    exact⟨rfl,lift ⟨True,by simp[ja3,ht,hx],trivial⟩⟩
   ·cases h
  ·cases h
 ·rename_i t x f
  unfold qFld at h
  try simp only[jdm,jee]at h
  split at h
  ·rename_i cs hx
   split at h
   ·rename_i fs hu
    split at h
    ·rename_i g hg
     exact⟨rfl,lift ⟨True,by simp[ja3,hx,hu,hg,V.agg?,h],trivial⟩⟩
    ·cases h
   ·cases h
  ·cases h
 ·rename_i t x ix
  unfold qIdx at h
  try simp only[jdm,jee]at h
  split at h
  ·rename_i k n hi
   split at h
   ·rename_i h' hx
    split at h
    ·rename_i elem hu
     split at h
     ·rename_i c hc
      split at h
      ·rename_i size hs
       split at h
       ·rename_i e1 e2
        have e1:=of_decide_eq_true e1
        have e2:=of_decide_eq_true e2
        cases h
        exact⟨rfl,lift ⟨_,by simp[ja3,hx,hi,hu,hc,hs,V.int?,e1],e2⟩⟩
       ·cases h
      ·cases h
     ·cases h
    ·cases h
   ·cases h
  ·cases h
 ·rename_i t x i
  unfold qStr at h
  split at h
  ·rename_i s hx
   split at h
   ·rename_i k n hi
    split at h
    ·rename_i hu
     split at h
     ·rename_i e2
      have e2:=of_decide_eq_true e2
      cases h
      exact⟨rfl,lift ⟨_,by simp[ja3,hx,hi,hu,V.int?,V.str?],e2⟩⟩
     ·cases h
    ·cases h
   ·cases h
  ·cases h
 ·rename_i c
  unfold jAC at h
  split at h
  ·rename_i hc
   split at h
   ·rename_i x ha
    split at h
    ·rename_i t hat
     refine⟨by simp[jf0,hc],lift ?_⟩
     unfold qLen at h
     try simp only[jdm,jee]at h
     simp only[ja3,hc,ha,hat]
     split at h
     ·rename_i el hu
      split at h
      ·rename_i h' hx
       split at h
       ·rename_i c' hcc
        cases h
        exact⟨True,by simp[hu,hx,hcc],trivial⟩
       ·cases h
      ·rename_i hx
       cases h
       exact⟨True,by simp[hu,hx,V.nils?],trivial⟩
      ·cases h
     ·rename_i hu
      split at h
      ·rename_i s hx
       cases h
       exact⟨True,by simp[hu,hx,V.str?],trivial⟩
      ·cases h
     ·cases h
    ·cases h
   ·cases h
  ·cases h
 ·cases h
end
end Go.Sx
end

section
open Go.RowKit
namespace Go.Sx
noncomputable def stF {α:Type} (j:Nat) (st:St) (k:St→α):α :=
 hpF (fun _=>true) j 0 st.hp fun hp=>fN st.nx fun nx=>k ⟨st.tm,hp,nx⟩
noncomputable def stG {α:Type} (st:St) (k:St→α):α :=
 tmF 0 st.tm fun tm=>fN st.nx fun nx=>k ⟨tm,st.hp,nx⟩
noncomputable def jnF {α:Type} (tm:List (Nat × V)) (hp:Hp) (nx:Nat) (k:St→α):α :=
 match hp with
 |(h,o)::r=>fO o fun o=>fN nx fun nx=>k ⟨tm,(h,o)::r,nx⟩
 |[]=>fN nx fun nx=>k ⟨tm,[],nx⟩
noncomputable def jp3 {α:Type} (o:Oper) (r:Res) (st:St) (k:St→α):α :=
 fV r.v fun v=>putG o.op (st.put o.dst ⟨True,v,r.hp,r.nx⟩) k
where
 putG (op:Op) (st:St) (k:St→α):α :=
  match op with
  | .store _ _ _=>stF 1 st k
  | .call c=>match c.callee with
   | .value _=>fN st.nx fun nx=>k ⟨st.tm,st.hp,nx⟩
   | .builtin .append=>stF 2 st k
   |_=>k st
  | .box _ _=>jnF st.tm st.hp st.nx k
  | .alloc _=>jnF st.tm st.hp st.nx k
  | .makeSlice _ _ _=>jnF st.tm st.hp st.nx k
  | .buildSlice _ _ _=>jnF st.tm st.hp st.nx k
  | .slice _ _ _ _ _=>jnF st.tm st.hp st.nx k
  |_=>k st
noncomputable def cOp [Globs] (P:Program) (sp:jaa) (N:Nat) (o:Oper) (st:St):Option St :=
 match jb5 N o.dst with
 |false=>none
 |true =>
  match qV P o.op (rdQ st) st.hp with
  |some v=>fV v fun v=>some (st.put o.dst ⟨True,v,st.hp,st.nx⟩)
  |none=>match jf0 P sp o.op (rdQ st) st.hp st.nx with
   |some t=>jp3 o t.sel st some
   |none=>match jbM P sp o.op (rdQ st) st.hp st.nx with
    |some r=>match jba o.op (rdQ st) st.hp,obB P o.op (rdQ st) st.hp with
     |true,_=>jp3 o r st some
     |false,true=>jp3 o r st some
     |false,false=>none
    |none=>none
noncomputable def jo1 (N:Nat) (o:Oper) (st:St):Option St :=
 match jb5 N o.dst with
 |true=>some (st.put o.dst ⟨True,vu,st.hp,st.nx⟩)
 |false=>none
noncomputable def cOne [Globs] (P:Program) (sp:jaa) (N:Nat) (all:List Oper) (o:Oper) (st:St):Option St :=
 match o.guard with
 |none=>cOp P sp N o st
 |some (j,want) =>
  match(jlC all j).bind (·.dst)with
  |none=>none
  |some t=>match jp1 st.tm t with
   |some (.w (.c (.d (.b b))))=>match b,want with
    |true,true=>cOp P sp N o st
    |false,false=>cOp P sp N o st
    |true,false=>jo1 N o st
    |false,true=>jo1 N o st
   |some (.w (.c (.d (.v (.tuple _)))))=>jo1 N o st
   |_=>none
noncomputable def cOps [Globs] (P:Program) (sp:jaa) (N:Nat) (all:List Oper) (l:List Oper) (st:St):Option St :=
 List.rec (motive:=fun _=>St→Option St) (fun st=>some st) (fun o _ ih st=>Option.rec (motive:=fun _=>Option St) none (fun st'=>ih st') (cOne P sp N all o st)) l st
noncomputable def obC [Globs] (P:Program) (op:Op) (rd:Operand→Option V) (hp:Hp) (r:Rec):Option Rec :=
 match jba op rd hp,obB P op rd hp with
 |true,_=>fV r.v fun v=>some { r with v:=v }
 |false,true=>fV r.v fun v=>some { r with v:=v }
 |false,false=>none
noncomputable def jfi (q:Nat→Bool) (st0:St) (tr:List Rec) (h:Nat):Bool :=
 List.rec (motive:=fun _=>Bool) true (fun _ tr ih=>Bool.rec (motive:=fun _=>Bool) ih (q tr.length) (Nat.ble (jab st0 tr) h)) tr
theorem jgW (q:Nat→Bool) (st0:St):∀(tr:List Rec) (h:Nat),jfi q st0 tr h=jat q st0 tr h
 |[],_=>rfl
 |_::tr,h=>by
  have ih:=jgW q st0 tr h
  simp only[jat,←ih]
  show Bool.rec (motive:=fun _=>Bool) (jfi q st0 tr h) (q tr.length) (Nat.ble (jab st0 tr) h)=_
  cases Nat.ble (jab st0 tr) h<;>rfl
noncomputable def jdE (bef:List Nat) (st0:St) (tr:List Rec) (v:V) (hp:Hp) (nx:Nat):Bool :=
 Nat.ble (jab st0 tr) nx&&v.allB (fun h=>Nat.blt h nx&&(Nat.ble (jab st0 tr) h||jfi (fun j=>bef.contains j) st0 tr h)) &&
  hp.all (fun x=>Nat.blt x.1 nx&&x.2.allB fun h=>Nat.blt h nx&&(Nat.ble (jab st0 tr) h||jfi (fun j=>bef.contains j) st0 tr h))
theorem jlD (bef:List Nat) (st0:St) (tr:List Rec) (v:V) (hp:Hp) (nx:Nat):jdE bef st0 tr v hp nx=ja4 bef st0 tr v hp nx:=by
 unfold jdE ja4
 rw[show jfi (fun j=>bef.contains j) st0 tr=jat (fun j=>bef.contains j) st0 tr from funext (jgW _ _ tr)]
noncomputable def jmb (bef:List Nat) (st0:St) (tr:List Rec):Hp :=
 match jcY bef tr with
 |true=>(jao st0 tr).filter fun x=>jfi (fun j=>bef.contains j) st0 tr x.1
 |false=>(jao st0 tr).filter fun x=>jfi (fun j=>bef.contains j) st0 tr x.1&&jbs st0 bef x.1 tr
theorem jzT (bef:List Nat) (st0:St) (tr:List Rec):jmb bef st0 tr=jda bef st0 tr:=by
 unfold jmb jda
 rw[show jfi (fun j=>bef.contains j) st0 tr=jat (fun j=>bef.contains j) st0 tr from funext (jgW _ _ tr)]
 cases jcY bef tr<;>rfl
def jrz (L:List Oper) (t:Nat):Nat→Option Nat
 |0=>none
 |i+1=>match jbK L i with
  |some d=>if d=t then some i else jrz L t i
  |none=>jrz L t i
def jeA (L:List Oper) (bef:List Nat) (i t:Nat):Bool :=
 match jrz L t i with
 |some j=>bef.contains j
 |none=>true
def jiG (L:List Oper) (tab:List (List Nat)):Nat→List Oper→Bool
 |_,[]=>true
 |i,o::r=>(jas L o).all (fun t=>jeA L (tab.getD i []) i t)&&jiG L tab (i+1) r
noncomputable def rdF [Globs] (st0:St) (nm:List Nat) (tm:List (Nat × V)):Operand→Option V
 | .tmp t=>match nm.contains t with
  |true=>jp1 tm t
  |false=>none
 |x=>jb6 st0 x
def mkF [Globs] (L:List Oper) (tab:List (List Nat)) (st0:St) (o:Oper) (n:Nat) (tr:List Rec):Option Bool :=
 match ja7 tab n false false 0 L with
 |true=>some false
 |false=>jpv L tab st0 o tr
noncomputable def jwK (P:Program) (op:Op) (rd:Operand→Option V) (bef:List Nat) (st0:St) (tr:List Rec):Option Rec :=
 match qLoadOp op with
 |true=>match loadAt op rd with
  |none=>none
  |some h=>match jma (jao st0 tr) h with
   |none=>none
   |some x=>match jfi (fun j=>bef.contains j) st0 tr h&&jbs st0 bef h tr with
    |false=>none
    |true=>match qV P op rd [(h,x)]with
     |some v=>fV v fun v=>match jdE bef st0 tr v [] (jab st0 tr)with
      |true=>some ⟨v,jao st0 tr,jab st0 tr,0,[],none⟩
      |false=>none
     |none=>none
 |false=>none
where
 qLoadOp:Op→Bool
  | .load _ _=>true
  | .indexAddr _ _ _=>true
  | .call c=>match c.callee with
   | .builtin .len=>true
   |_=>false
  |_=>false
noncomputable def qdop (P:Program) (op:Op) (rd:Operand→Option V) (hp:Hp) (bef:List Nat) (st0:St) (tr:List Rec):Option Rec :=
 match qV P op rd hp with
 |some v=>fV v fun v=>match jdE bef st0 tr v [] (jab st0 tr)with
  |true=>some ⟨v,jao st0 tr,jab st0 tr,0,[],none⟩
  |false=>none
 |none=>none
noncomputable def jnG [Globs] (P:Program) (sp:jaa) (N:Nat) (L:List Oper) (tab:List (List Nat)) (st0:St) (o:Oper) (n:Nat) (bef:List Nat) (rd:Operand→Option V) (tr:List Rec):Option Rec :=
 match jb5 N o.dst with
 |false=>none
 |true =>
  match qdop P o.op rd [] bef st0 tr with
  |some r=>some r
  |none =>
  match ja5 P o.op rd []with
  |some (_,v)=>match jdE bef st0 tr v [] (jab st0 tr)with
   |true=>obC P o.op rd [] ⟨v,jao st0 tr,jab st0 tr,0,[],none⟩
   |false=>none
  |none =>
   match jaw o.op with
   |true=>match jkI o.op with
    |true=>match ja5 P o.op rd (jfw bef st0 tr)with
     |some (_,v)=>match jdE bef st0 tr v [] (jab st0 tr)with
      |true=>obC P o.op rd (jfw bef st0 tr) ⟨v,jao st0 tr,jab st0 tr,0,[],none⟩
      |false=>none
     |none=>none
    |false=>none
   |false =>
    match jaG o.op with
    |true=>match jwK P o.op rd bef st0 tr with
     |some r=>some r
     |none=>match loadAt o.op rd with
     |none=>none
     |some h=>match find (jao st0 tr) h with
      |none=>none
      |some x=>match jfi (fun j=>bef.contains j) st0 tr h&&jbs st0 bef h tr with
       |false=>none
       |true=>match ja5 P o.op rd [(h,x)]with
        |none=>match jfb tab n 0 L&&jcY bef tr&&jaq sp o.op rd with
         |false=>none
         |true=>match jbM P sp o.op rd (jmb bef st0 tr) (jab st0 tr)with
          |some res=>match jdE bef st0 tr res.v (jaW (jab st0 tr) res.hp) res.nx with
           |true=>obCall P sp o.op rd (jmb bef st0 tr) ⟨res.v,jaW (jab st0 tr) res.hp++jao st0 tr,res.nx,1,jaW (jab st0 tr) res.hp,none⟩
           |false=>none
          |none=>none
        |some (_,v)=>match jdE bef st0 tr v [] (jab st0 tr)with
         |true=>obC P o.op rd [(h,x)] ⟨v,jao st0 tr,jab st0 tr,0,[],none⟩
         |false=>none
    |false =>
    match jaq sp o.op rd with
    |true=>match jbM P sp o.op rd (jmb bef st0 tr) (jab st0 tr)with
     |some res=>match jdE bef st0 tr res.v (jaW (jab st0 tr) res.hp) res.nx&&joj bef tr (jaW (jab st0 tr) res.hp)with
      |true=>obCall P sp o.op rd (jmb bef st0 tr) ⟨res.v,jaW (jab st0 tr) res.hp++jao st0 tr,res.nx,1,jaW (jab st0 tr) res.hp,none⟩
      |false=>none
     |none=>none
    |false=>match mkF L tab st0 o n tr with
     |none=>none
     |some mk=>match jbM P sp o.op rd (jao st0 tr) (jab st0 tr)with
      |some res=>match jdE bef st0 tr res.v res.hp res.nx&&jpw L tab st0 o tr mk res.hp with
       |true=>obCall P sp o.op rd (jao st0 tr) ⟨res.v,res.hp,res.nx,2,[],jby L tab st0 o tr⟩
       |false=>none
      |none=>none
where
 obCall [Globs] (P:Program) (sp:jaa) (op:Op) (rd:Operand→Option V) (hp:Hp) (r:Rec):Option Rec :=
  match op with
  | .call c=>match c.callee with
   | .value _=>fV r.v fun v=>some { r with v:=v }
   |_=>obC P op rd hp r
  |op=>obC P op rd hp r
noncomputable def jlE (N:Nat) (st0:St) (o:Oper) (tr:List Rec):Option Rec :=
 match jb5 N o.dst with
 |false=>none
 |true=>some ⟨vu,jao st0 tr,jab st0 tr,0,[],none⟩
def jjJ (o:Oper) (r:Rec) (tm:List (Nat × V)):List (Nat × V) :=
 match o.dst with
 |some d=>(d,r.v)::tm
 |none=>tm
noncomputable def jeB [Globs] (P:Program) (sp:jaa) (N:Nat) (L:List Oper) (tab:List (List Nat)) (st0:St):List Oper→Nat→List (Nat × V)→List Rec→Option (List (Nat × V) × List Rec)
 |[],_,tm,tr=>some (tm,tr)
 |o::rest,n,tm,tr =>
  match o.guard with
  |none=>match jnG P sp N L tab st0 o n (tab.getD n []) (rdF st0 (jas L o) tm) tr with
   |some r=>jeB P sp N L tab st0 rest (n+1) (jjJ o r tm) (r::tr)
   |none=>none
  |some (g,want) =>
   match jbK L g with
   |none=>none
   |some t =>
    match jp1 tm t with
    |some (.w (.c (.d (.b b)))) =>
     match b,want with
     |true,true=>match jnG P sp N L tab st0 o n (tab.getD n []) (rdF st0 (jas L o) tm) tr with
      |some r=>jeB P sp N L tab st0 rest (n+1) (jjJ o r tm) (r::tr)
      |none=>none
     |true,false=>match jlE N st0 o tr with
      |some r=>jeB P sp N L tab st0 rest (n+1) (jjJ o r tm) (r::tr)
      |none=>none
     |false,true=>match jlE N st0 o tr with
      |some r=>jeB P sp N L tab st0 rest (n+1) (jjJ o r tm) (r::tr)
      |none=>none
     |false,false=>match jnG P sp N L tab st0 o n (tab.getD n []) (rdF st0 (jas L o) tm) tr with
      |some r=>jeB P sp N L tab st0 rest (n+1) (jjJ o r tm) (r::tr)
      |none=>none
    |some (.w (.c (.d (.v (.tuple _)))))=>match jlE N st0 o tr with
     |some r=>jeB P sp N L tab st0 rest (n+1) (jjJ o r tm) (r::tr)
     |none=>none
    |_=>none
noncomputable def jyh [Globs] (P:Program) (sp:jaa) (N:Nat) (ops:Array Oper) (st:St):Option St :=
 match jca ops.toList (jgy ops.toList []) 0 ops.toList&&jdq 0 ops.toList&&jiG ops.toList (jgy ops.toList []) 0 ops.toList with
 |true=>match jeB P sp N ops.toList (jgy ops.toList []) st ops.toList 0 st.tm []with
  |some (tm,tr)=>some ⟨tm,jao st tr,jab st tr⟩
  |none=>none
 |false=>none
noncomputable def jwL [Globs] (P:Program) (sp:jaa) (N:Nat) (ops:Array Oper) (st:St):Option St :=
 match jsi ops.toList with
 |[]=>jyh P sp N ops st
 |_::_=>none
noncomputable def jo2 (body:St→Option (Ex × St)) (n:Nat) (st:St):Option (Ex × St) :=
 Nat.rec (motive:=fun _=>St→Option (Ex × St)) (fun _=>none) (fun _ ih st=>match body st with
  |some (.normal,st')=>stG st' fun st'=>ih st'
  |x=>x) n st
noncomputable def jwM [Globs] (P:Program) (sp:jaa) (N:Nat) (ops:Array Oper) (draw:Bool) (st:St):Option (Ex × St) :=
 match draw with
 |false=>match cOps P sp N ops.toList ops.toList st with
  |some st'=>some (.normal,st')
  |none=>none
 |true=>match jwL P sp N ops st with
  |some st'=>stF 3 st' fun st'=>some (.normal,st')
  |none=>none
noncomputable def jcJ (r:Option (Ex × St)) (y:St→Option (Ex × St)):Option (Ex × St) :=
 match r with
 |some (.normal,st')=>y st'
 |x=>x
noncomputable def jtc [Globs] (c:Operand) (x y:St→Option (Ex × St)) (st:St):Option (Ex × St) :=
 match rdQ st c with
 |some (.w (.c (.d (.b true))))=>x st
 |some (.w (.c (.d (.b false))))=>y st
 |_=>none
noncomputable def jp4 (id:Nat) (r:Option (Ex × St)):Option (Ex × St) :=
 match r with
 |some (.exit j,st')=>match Nat.beq j id with
  |true=>some (.normal,st')
  |false=>some (.exit j,st')
 |x=>x
noncomputable def cx [Globs] (P:Program) (sp:jaa) (N fuel:Nat) (c:Code):St→Option (Ex × St) :=
 Code.rec (motive:=fun _=>St→Option (Ex × St)) (fun st=>some (.normal,st)) (fun _ ops draw st=>jwM P sp N ops draw st)
  (fun _ _ x y st=>jcJ (x st) y) (fun c _ _ x y st=>jtc c x y st) (fun id _ x st=>jp4 id (x st)) (fun _ x st=>jo2 x fuel st)
  (fun _ _ _ _ _ _ _=>none) (fun id st=>some (.exit id,st)) (fun _ _ _=>none) (fun _ st=>some (.normal,st)) (fun _ _=>none) (fun st=>some (.ret,st)) (fun _ _=>none) c
def jp5 (P:Program) (st:St):ResultVar→Option W
 | .tmp t=>match jaH st.tm t with
  |some (.w u)=>some u
  |_=>none
 | .cell t ty=>match jaH st.tm t with
  |some (.w (.c (.p h i e j)))=>match find st.hp h with
   |some o=>match jcV P ty o i e j,jwC P ty o i e j with
    |some (_,.w u),true=>some u
    |_,_=>none
   |none=>none
  |_=>none
def jdv (P:Program) (st:St):List ResultVar→Option (List W)
 |[]=>some []
 |r::rs=>match jp5 P st r,jdv P st rs with
  |some x,some l=>some (x::l)
  |_,_=>none
noncomputable def outF {α:Type} (n0:Nat) (v:V) (st:St) (k:Hp→α):α :=
 jiF n0 st.hp 6 (jry v 0) fun m=>hpF (fun h=>Nat.blt h n0||Nat.testBit m h) 0 0 st.hp k
def jgX (hp:Hp) (v:V):V :=
 match v with
 | .w (.c (.o h))=>match find hp h with
  |some (.box _ _)=>.w (.c (.p h 0 1 0))
  |some (.ebox _)=>.w (.c (.p h 0 1 0))
  |some (.arr _ _ _ _)=>.w (.c (.p h 0 1 0))
  |_=>.w (.c (.o h))
 |v=>v
noncomputable def inl [Globs] (P:Program) (sp:jaa) (fn:Func) (body:Code) (fuel:Nat):Spec:=fun args hp nx =>
 match Nat.ble args.length fn.ntmps with
 |false=>none
 |true=>match cx P sp fn.ntmps fuel body ⟨jci 0 (args.map (jgX hp)),hp,nx⟩with
  |some (e,st)=>match e with
   | .exit _=>none
   |_=>match jdv P st fn.results.toList,Nat.ble nx st.nx with
    |some l,true=>fV (jaX l) fun v=>outF nx v st fun hp'=>some (.leaf ⟨True,v,hp',st.nx⟩)
    |_,_=>none
  |none=>none
def roO:O→O
 | .row _ c=>extR c
 | .ext c=>extR c
 | .view _ c _=>extR c
 | .rrow c=>extR c
 | .fext c=>extR c
 | .sub _ _ _ _ _ c=>extR c
 | .box _ cs=>.ebox cs
 | .ebox cs=>.ebox cs
 | .lbox _ e n cs=>lstR e n cs
 | .lview _ e n cs=>lstR e n cs
 | .elist e n cs=>.elist e n cs
 | .xext x=>.xext x
 |_=>.dead
where
 extR (c:Cont):O:=match c.e with
  |0=>.dead
  |_+1=>.ext c
 lstR (e n:Nat) (cs:List C):O:=match e with
  |0=>.dead
  |e+1=>.elist (e+1) n cs
def jfR (hp:Hp):Hp:=hp.map fun x=>(x.1,roO x.2)
noncomputable def outN {α:Type} (n0:Nat) (v:V) (st:St) (k:Hp→α):α :=
 jiF n0 st.hp 6 (jry v 0) fun m=>hpF (fun h=>Nat.ble n0 h&&Nat.testBit m h) 0 0 st.hp k
def jtd (v:V) (hp:Hp) (nx:Nat) (hp':Hp):Option RT :=
 match hp'.all (fun x=>jeM x.2)with
 |true=>some (.leaf ⟨True,v,hp' ++ hp,nx⟩)
 |false=>none
noncomputable def jte [Globs] (P:Program) (sp:jaa) (fn:Func) (body:Code) (fuel:Nat):Spec:=fun args hp nx =>
 match Nat.ble args.length fn.ntmps with
 |false=>none
 |true=>match cx P sp fn.ntmps fuel body ⟨jci 0 (args.map (jgX hp)),jfR hp,nx⟩with
  |some (e,st)=>match e with
   | .exit _=>none
   |_=>match jdv P st fn.results.toList,Nat.ble nx st.nx with
    |some l,true=>fV (jaX l) fun v=>outN nx v st (jtd v hp st.nx)
    |_,_=>none
  |none=>none
noncomputable def jnH [Globs] (P:Program) (ov:jaa) (ro:Nat→Bool) (fuel:Nat):Nat→jaa
 |0=>fun _=>none
 |n+1=>fun f=>match ov f with
  |some x=>some x
  |none=>match P.funcs[f]? with
   |some fn=>match fn.body,fn.name == "runtime.NumGoroutine" with
    |some body,false=>match ro f with
     |true=>some (true,jte P (jnH P ov ro fuel n) fn body fuel)
     |false=>some (false,inl P (jnH P ov ro fuel n) fn body fuel)
    |_,_=>none
   |none=>none
end Go.Sx
end

section
open Go.RowKit
namespace Go.Sx
structure SubSt (s s0:St):Prop where
 tm:∀t v,jaH s.tm t=some v→jaH s0.tm t=some v
 hp:∀h o,find s.hp h=some o→find s0.hp h=some o
 nx:s.nx=s0.nx
theorem SubSt.refl (s:St):SubSt s s:=⟨fun _ _ h=>h,fun _ _ h=>h,rfl⟩
theorem SubSt.trans {a b c:St} (h:SubSt a b) (k:SubSt b c):SubSt a c:=⟨fun t v x=>k.tm t v (h.tm t v x),fun t v x=>k.hp t v (h.hp t v x),h.nx.trans k.nx⟩
theorem jnI {α:Type} (j:Nat) (st:St) (k:St→α):∃s,stF j st k=k s∧SubSt s st:=by
 unfold stF
 obtain⟨hp',h1,h2⟩:=jgV (live:=fun _=>true) st.hp j 0 (fun hp=>fN st.nx fun nx=>k ⟨st.tm,hp,nx⟩)
 exact⟨⟨st.tm,hp',st.nx⟩,by rw[h1,jbx],fun _ _ h=>h,fun h o hf=>(h2 h o hf).1,rfl⟩
theorem jzW {α:Type} (st:St) (k:St→α):∃s,stG st k=k s∧SubSt s st:=by
 unfold stG
 obtain⟨tm',h1,h2⟩:=jnE st.tm 0 (fun tm=>fN st.nx fun nx=>k ⟨tm,st.hp,nx⟩)
 exact⟨⟨tm',st.hp,st.nx⟩,by rw[h1,jbx],fun t v hf=>(h2 t v hf).1,fun _ _ h=>h,rfl⟩
theorem jfE {α:Type} (tm:List (Nat × V)) (hp:Hp) (nx:Nat) (k:St→α):jnF tm hp nx k=k ⟨tm,hp,nx⟩:=by
 unfold jnF
 cases hp with
 |nil=>exact jbx _ _
 |cons x r =>
  obtain⟨h,o⟩:=x
  show fO o _=_
  rw[jwG,jbx]
theorem jqA {α:Type} (o:Oper) (r:Res) (st:St) (k:St→α):∃s,jp3 o r st k=k s∧SubSt s (st.put o.dst r):=by
 have e:st.put o.dst ⟨True,r.v,r.hp,r.nx⟩=st.put o.dst r:=by cases o.dst<;>rfl
 unfold jp3
 rw[jc1,e]
 unfold jp3.putG
 split
 ·exact jnI _ _ _
 ·split
  ·rw[jbx]; exact⟨_,rfl,SubSt.refl _⟩
  ·exact jnI _ _ _
  ·exact⟨_,rfl,SubSt.refl _⟩
 ·exact⟨_,jfE _ _ _ _,SubSt.refl _⟩
 ·exact⟨_,jfE _ _ _ _,SubSt.refl _⟩
 ·exact⟨_,jfE _ _ _ _,SubSt.refl _⟩
 ·exact⟨_,jfE _ _ _ _,SubSt.refl _⟩
 ·exact⟨_,jfE _ _ _ _,SubSt.refl _⟩
 ·exact⟨_,rfl,SubSt.refl _⟩
def jbN (sp:jaa):Prop:=∀f M S args hp nx t,sp f=some (M,S)→S args hp nx=some t→t.sel.ob
section
variable [Globs] {P:Program} {B:Kd} {N n0:Nat} {sp:jaa} {ρ ρ0:Env} {w w0:World} {a:Act} {st:St} {ds:List Deferred}
theorem RelD.subSt {s:St} (h:RelD ds ρ B N n0 st a w) (hs:SubSt s st):RelD ds ρ B N n0 s a w:=by
 obtain⟨B1,g,hh⟩:=h.heap
 refine⟨fun t v hv=>?_,h.size,h.defers,⟨B1,g,?_⟩,h.le,by rw[hs.nx]; exact h.n0⟩
 ·rw[hs.nx]; exact h.tm t v (hs.tm t v hv)
 ·rw[hs.nx]; exact hh.sub fun k o hf=>hs.hp k o hf
theorem jwO {op:Op} {rd:Operand→Option V} {hp:Hp} {nx:Nat} {t:RT} (hfr:jbN sp) (h:jf0 P sp op rd hp nx=some t):t.sel.ob:=by
 unfold jf0 at h
 split at h
 ·split at h
  ·split at h
   ·rename_i r _ _
    cases h
    cases r.isSome<;>trivial
   ·cases h
  ·cases h
 ·split at h
  ·rename_i b _ _ _
   cases h
   cases jpn b<;>trivial
  ·cases h
 ·split at h
  ·split at h
   ·split at h
    ·rename_i hsg
     exact hfr _ _ _ _ _ _ _ hsg h
    ·cases h
   ·split at h
    ·rename_i hsg
     exact hfr _ _ _ _ _ _ _ hsg h
    ·cases h
   ·cases h
  ·cases h
 ·cases h
theorem RT.sel_run:∀{t:RT} {k:Res→Prop},k t.sel→t.run k
 | .leaf _,_,h=>h
 | .br b x y,k,h=>by
  cases b
  ·exact RT.sel_run (t:=y) h
  ·exact RT.sel_run (t:=x) h
theorem jzX {o:Oper} {st':St} (hfr:jbN sp) (h:cOp P sp N o st=some st'):∃s0,SubSt st' s0∧jgw P sp N o st fun s=>s=s0:=by
 unfold cOp at h
 rw[jyf]at h
 split at h
 ·cases h
 ·rename_i hd
  split at h
  ·rename_i v hq
   rw[jc1]at h
   cases h
   obtain⟨hT,ob,hV,hob⟩:=jp2 (P:=P) (sp:=sp) (nx:=st.nx) hq
   refine⟨_,SubSt.refl _,?_⟩
   unfold jgw
   rw[hT]
   have hs:jbM P sp o.op (jb6 st) st.hp st.nx=some ⟨ob,v,st.hp,st.nx⟩:=by unfold jbM; rw[hV]
   simp only[hs,hd]
   have e:st.put o.dst ⟨ob,v,st.hp,st.nx⟩=st.put o.dst ⟨True,v,st.hp,st.nx⟩:=by cases o.dst<;>rfl
   split
   ·exact e
   ·exact⟨⟨hob⟩,e⟩
  ·split at h
   ·rename_i t ht
    obtain⟨s,h1,h2⟩:=jqA o t.sel st some
    rw[h1]at h
    cases h
    refine⟨_,h2,?_⟩
    unfold jgw
    simp only[ht,hd]
    exact RT.sel_run ⟨⟨jwO hfr ht⟩,rfl⟩
   ·rename_i hT
    split at h
    ·rename_i r hr
     obtain⟨s,h1,h2⟩:=jqA o r st some
     split at h
     ·rename_i ht
      rw[h1]at h
      cases h
      refine⟨_,h2,?_⟩
      unfold jgw
      simp only[hT,hr,hd,ht]
     ·rename_i ht hb
      rw[h1]at h
      cases h
      refine⟨_,h2,?_⟩
      unfold jgw
      simp only[hT,hr,hd,ht]
      exact⟨⟨b_ob hb hr⟩,trivial⟩
     ·cases h
    ·cases h
theorem jlF {o:Oper} {st':St} {K:Act→World→Prop} {Q:Exit→Act→World→Prop} (hsp:jac P sp) (hfr:jbN sp) (hr:RelD ds ρ B N n0 st a w) (hag:jae n0 ρ0 ρ) (hbl:Bel B w0 w) (h:cOp P sp N o st=some st')
  (hK:∀ρ' a' w',RelD ds ρ' B N n0 st' a' w'→jae n0 ρ0 ρ'→Bel B w0 w'→K a' w'):o.wp P a w K Q:=by
 obtain⟨s0,h1,h2⟩:=jzX hfr h
 refine jel hsp hr hag hbl h2 fun ρ' s a' w' q1 q2 q3 q4=>?_
 subst q4
 exact hK ρ' a' w' (q1.subSt h1) q2 q3
theorem jh4 {o:Oper} {st':St} {K:Act→World→Prop} (hr:RelD ds ρ B N n0 st a w) (hag:jae n0 ρ0 ρ) (hbl:Bel B w0 w) (h:jo1 N o st=some st')
  (hK:∀ρ' a' w',RelD ds ρ' B N n0 st' a' w'→jae n0 ρ0 ρ'→Bel B w0 w'→K a' w'):K (a.put o.dst undef) w:=by
 unfold jo1 at h
 split at h
 ·rename_i hd
  cases h
  exact hK ρ _ w (hr.skip hd) hag hbl
 ·cases h
theorem jo3 {all:List Oper} {st':St} {Q:Exit→Act→World→Prop} (hsp:jac P sp) (hfr:jbN sp)
  (hQ:∀ρ' a' w',RelD ds ρ' B N n0 st' a' w'→jae n0 ρ0 ρ'→Bel B w0 w'→Q .normal a' w') :
  ∀(l:List Oper) (ρ:Env) (st:St) (a:Act) (w:World),RelD ds ρ B N n0 st a w→jae n0 ρ0 ρ→Bel B w0 w→cOps P sp N all l st=some st'→wpList P all.toArray Q l a w
 |[],ρ,st,a,w,hr,hag,hbl,h=>by
  cases (show some st=some st' from h)
  exact hQ ρ a w hr hag hbl
 |o::r,ρ,st,a,w,hr,hag,hbl,h=>by
  have h:Option.rec (motive:=fun _=>Option St) none (fun st1=>cOps P sp N all r st1) (cOne P sp N all o st)=some st':=h
  cases h1:cOne P sp N all o st with
  |none=>rw[h1]at h; cases h
  |some st1 =>
   rw[h1]at h
   have h:cOps P sp N all r st1=some st':=h
   have ih:=fun ρ' a' w' (h1:RelD ds ρ' B N n0 st1 a' w') h2 h3=>jo3 (all:=all) hsp hfr hQ r ρ' st1 a' w' h1 h2 h3 h
   unfold wpList
   unfold cOne at h1
   split at h1
   ·rename_i hg
    have hw:Region.wanted o (yielded all.toArray a.tmps)=true:=by simp[Region.wanted,hg]
    rw[if_pos hw]
    exact .inl (jlF hsp hfr hr hag hbl h1 ih)
   ·rename_i j want hg
    have hwanted:∀ob,yielded all.toArray a.tmps j=ob→Region.wanted o (yielded all.toArray a.tmps)=(ob==some want):=fun ob hob=>by simp[Region.wanted,hg,hob]
    rw[jee]at h1
    split at h1
    ·cases h1
    ·rename_i t ht
     rw[jiE]at h1
     split at h1
     ·rename_i b hget
      have hgo:jeK all j st=some (t,.w (.c (.d (.b b)))):=by unfold jeK; rw[ht]; simp[hget]
      obtain⟨hy,_⟩:=jdJ hr hgo (.inr rfl)
      have hw:=hwanted _ hy
      have hval:(V.w (.c (.d (.b b)))).val ρ=.bool b:=rfl
      rw[hval]at hw
      cases b<;>cases want<;>dsimp only at h1
      ·rw[if_pos (by rw[hw]; rfl)]
       exact .inl (jlF hsp hfr hr hag hbl h1 ih)
      ·rw[if_neg (by rw[hw]; simp)]
       exact jh4 hr hag hbl h1 ih
      ·rw[if_neg (by rw[hw]; simp)]
       exact jh4 hr hag hbl h1 ih
      ·rw[if_pos (by rw[hw]; rfl)]
       exact .inl (jlF hsp hfr hr hag hbl h1 ih)
     ·rename_i vs hget
      have hgo:jeK all j st=some (t,.w (.c (.d (.v (.tuple vs))))):=by unfold jeK; rw[ht]; simp[hget]
      obtain⟨hy,_⟩:=jdJ hr hgo (.inr rfl)
      have hw:=hwanted _ hy
      have hval:(V.w (.c (.d (.v (.tuple vs))))).val ρ=.tuple vs:=rfl
      rw[hval]at hw
      rw[if_neg (by rw[hw]; simp)]
      exact jh4 hr hag hbl h1 ih
     ·cases h1
end
end Go.Sx
end

section
open Go.RowKit
namespace Go.Sx
section
variable [Globs] {P:Program} {B:Kd} {N n0:Nat} {sp:jaa} {ρ ρ0:Env} {w w0:World} {a:Act} {st:St} {ds:List Deferred}
theorem jfF {t:Bool} {ob k:Prop} (h:t=true∨ob) (hk:k):obT t ob k:=by
 cases t with
 |true=>exact hk
 |false=>exact⟨⟨h.elim (fun h=>by cases h) id⟩,hk⟩
theorem jjK {op:Op} {rd:Operand→Option V} {hp:Hp} {r r':Rec} (h:obC P op rd hp r=some r'):r'=r∧(jba op rd hp=true∨obB P op rd hp=true):=by
 unfold obC at h
 split at h
 ·rename_i ht
  rw[jc1]at h
  cases h
  exact⟨rfl,.inl ht⟩
 ·rename_i ht hb
  rw[jc1]at h
  cases h
  exact⟨rfl,.inr hb⟩
 ·cases h
theorem jwP {op:Op} {rd:Operand→Option V} {hp:Hp} {ob:Prop} {v:V} (ht:obB P op rd hp=true) (h:ja5 P op rd hp=some (ob,v)):ob:=by
 unfold ja5 at h
 split at h
 ·rename_i p hp0
  cases h
  exact jyd ht hp0
 ·exact jAv ht h
theorem jh5 {op:Op} {rd:Operand→Option V} {hp:Hp} {nx:Nat} {r r':Rec} {res:Res} (hfr:jbN sp) (hs:jbM P sp op rd hp nx=some res) (h:jnG.obCall P sp op rd hp r=some r'):r'=r∧(jba op rd hp=true∨res.ob):=by
 unfold jnG.obCall at h
 have gen:obC P op rd hp r=some r'→r'=r∧(jba op rd hp=true∨res.ob):=fun h=>by
  obtain⟨h1,h2⟩:=jjK h
  exact⟨h1,h2.imp id fun hb=>b_ob hb hs⟩
 split at h
 ·rename_i c
  split at h
  ·rename_i f hc
   rw[jc1]at h
   cases h
   refine⟨rfl,.inr ?_⟩
   have h1:ja5 P (.call c) rd hp=none:=by simp[ja5,ja3,je8,hc]
   have h2:jcX P (.call c) rd hp nx=none:=by simp[jcX]
   have h3:jdF P (.call c) rd hp nx=none:=by simp[jdF]
   have h4:jei P (.call c) rd hp nx=none:=by simp[jei,hc]
   have h5:jdH P (.call c) rd hp nx=none:=by simp[jdH,hc]
   have h6:jdG P (.call c) rd hp nx=none:=by simp[jdG,hc]
   unfold jbM at hs
   simp only[h1,h2,h3,h4,h5,h6]at hs
   unfold jg8 at hs
   dsimp only at hs
   simp only[hc]at hs
   split at hs
   ·split at hs
    ·rename_i M S hsg
     obtain⟨t,ht,hl⟩:=Option.bind_eq_some_iff.1 hs
     have:=hfr _ _ _ _ _ _ _ hsg ht
     cases t with
     |leaf r0=>cases hl; exact this
     |br=>cases hl
    ·cases hs
   ·split at hs
    ·rename_i M S hsg
     obtain⟨t,ht,hl⟩:=Option.bind_eq_some_iff.1 hs
     have:=hfr _ _ _ _ _ _ _ hsg ht
     cases t with
     |leaf r0=>cases hl; exact this
     |br=>cases hl
    ·cases hs
   ·cases hs
  ·exact gen h
 ·exact gen h
theorem jyi {op:Op} {rd:Operand→Option V} {hp:Hp} {bef:List Nat} {st0:St} {tr:List Rec} {r:Rec} (h:qdop P op rd hp bef st0 tr=some r) :
  ∃v ob,ja5 P op rd hp=some (ob,v)∧ob∧ja4 bef st0 tr v [] (jab st0 tr)=true∧r=⟨v,jao st0 tr,jab st0 tr,0,[],none⟩:=by
 unfold qdop at h
 split at h
 ·rename_i v hq
  rw[jc1]at h
  split at h
  ·rename_i ho
   cases h
   rw[jlD]at ho
   obtain⟨_,ob,h1,h2⟩:=jp2 (P:=P) (sp:=fun _=>none) (nx:=0) hq
   exact⟨v,ob,h1,h2,ho,rfl⟩
  ·cases h
 ·cases h
theorem jwQ {op:Op} {rd:Operand→Option V} {bef:List Nat} {st0:St} {tr:List Rec} {r:Rec} (h:jwK P op rd bef st0 tr=some r) :
  ∃h x v ob,loadAt op rd=some h∧find (jao st0 tr) h=some x∧(jat (fun j=>bef.contains j) st0 tr h&&jbs st0 bef h tr)=true∧ja5 P op rd [(h,x)]=some (ob,v)∧ob∧ja4 bef st0 tr v [] (jab st0 tr)=true∧r=⟨v,jao st0 tr,jab st0 tr,0,[],none⟩:=by
 unfold jwK at h
 split at h
 ·split at h
  ·cases h
  ·rename_i k hk
   split at h
   ·cases h
   ·rename_i x hx
    rw[jdm]at hx
    split at h
    ·cases h
    ·rename_i hb
     rw[jgW]at hb
     split at h
     ·rename_i v hq
      rw[jc1]at h
      split at h
      ·rename_i ho
       cases h
       rw[jlD]at ho
       obtain⟨_,ob,h1,h2⟩:=jp2 (P:=P) (sp:=fun _=>none) (nx:=0) hq
       exact⟨k,x,v,ob,hk,hx,hb,h1,h2,ho,rfl⟩
      ·cases h
     ·cases h
 ·cases h
theorem jo4 {tab:List (List Nat)} {i:Nat} {lf:Bool}:∀{l:List Oper} {k:Nat},ja7 tab i false false k l=true→ja7 tab i lf false k l=true
 |[],_,_=>rfl
 |o::r,k,h=>by
  simp only[ja7,Bool.and_eq_true,Bool.or_eq_true]at h ⊢
  refine⟨?_,jo4 h.2⟩
  rcases h.1 with ((((h1|h1)|h1)|h1)|h1)|h1
  ·exact .inl (.inl (.inl (.inl (.inl h1))))
  ·exact .inl (.inl (.inl (.inl (.inr h1))))
  ·exact .inl (.inl (.inl (.inr h1)))
  ·exact .inl (.inl (.inr h1))
  ·cases h1.1
  ·cases h1.1.1
theorem jB0 {L:List Oper} {tab:List (List Nat)} {st0:St} {o:Oper} {tr:List Rec}:mkF L tab st0 o tr.length tr=jpv L tab st0 o tr:=by
 unfold mkF
 split
 ·rename_i h
  unfold jpv
  rw[jo4 h]
 ·rfl
theorem jmc {L:List Oper} {bef:List Nat} {st0:St} {t:Nat}:∀{tr:List Rec},jeA L bef tr.length t=true→jb4 L bef st0 t tr=jaH (jdS L st0 tr) t
 |[],_=>rfl
 |r::tr,h=>by
  unfold jeA at h
  simp only[List.length_cons,jrz]at h
  simp only[jb4,jdS]
  cases hd:jbK L tr.length with
  |none =>
   rw[hd]at h
   dsimp only at h ⊢
   exact jmc (by unfold jeA; exact h)
  |some d =>
   rw[hd]at h
   dsimp only at h ⊢
   by_cases e:d=t
   ·rw[if_pos e]at h ⊢
    dsimp only at h
    rw[h]
    simp only[jaH,if_pos e]
   ·rw[if_neg e]at h ⊢
    simp only[jaH,if_neg e]
    exact jmc (by unfold jeA; exact h)
theorem jlG {L:List Oper} {tab:List (List Nat)}:∀{l:List Oper} {k:Nat},jiG L tab k l=true→∀m o,l[m]?=some o→∀t∈jas L o,jeA L (tab.getD (k+m) []) (k+m) t=true
 |[],_,_,_,_,h=>by simp at h
 |o' :: r,k,hs,m,o,h=>by
  simp only[jiG,Bool.and_eq_true]at hs
  cases m with
  |zero =>
   simp at h
   subst h
   exact fun t ht=>List.all_eq_true.1 hs.1 t ht
  |succ m =>
   intro t ht
   have:=jlG hs.2 m o (by simpa using h) t ht
   rw[show k+(m+1)=k+1+m by omega]
   exact this
theorem jB1 {L:List Oper} {tab:List (List Nat)} {st0:St} {o:Oper} {tr:List Rec} (h:∀t∈jas L o,jeA L (tab.getD tr.length []) tr.length t=true) :
  rdF st0 (jas L o) (jdS L st0 tr)=ja8 L (jas L o) (tab.getD tr.length []) st0 tr:=by
 funext x
 cases x with
 |tmp t =>
  simp only[rdF,ja8]
  cases hc:(jas L o).contains t with
  |false=>rfl
  |true =>
   dsimp only
   rw[jiE,jmc (h t (by simpa using hc))]
 |_=>rfl
theorem jqB {L:List Oper} {tab:List (List Nat)} {st0:St} {o:Oper} {tr:List Rec} {r:Rec} {k:Rec→Prop} (hfr:jbN sp) (hrd:∀t∈jas L o,jeA L (tab.getD tr.length []) tr.length t=true) (h:jnG P sp N L tab st0 o tr.length (tab.getD tr.length []) (rdF st0 (jas L o) (jdS L st0 tr)) tr=some r) (hk:k r):dop P sp N L tab st0 o tr k:=by
 rw[jB1 hrd]at h
 unfold jnG at h
 simp only[jlD,jgW,jzT,jB0]at h
 unfold dop
 split at h
 ·cases h
 ·rename_i hd
  rw[hd]
  dsimp only
  split at h
  ·rename_i r' hq
   cases h
   obtain⟨v,ob,h1,h2,h3,rfl⟩:=jyi hq
   rw[h1]
   dsimp only
   rw[h3]
   exact jfF (.inr h2) hk
  ·split at h
   ·rename_i ob v hv
    split at h
    ·rename_i ho
     rw[hv]
     dsimp only
     rw[ho]
     obtain⟨rfl,h2⟩:=jjK h
     exact jfF (h2.imp id fun hb=>jwP hb hv) hk
    ·cases h
   ·rename_i hv
    rw[hv]
    dsimp only
    split at h
    ·rename_i hsp
     rw[hsp]
     dsimp only
     split at h
     ·rename_i hb
      rw[hb]
      dsimp only
      split at h
      ·rename_i ob v hv2
       rw[hv2]
       dsimp only
       split at h
       ·rename_i ho
        rw[ho]
        obtain⟨rfl,h2⟩:=jjK h
        exact jfF (h2.imp id fun hb=>jwP hb hv2) hk
       ·cases h
      ·cases h
     ·cases h
    ·rename_i hsp
     rw[hsp]
     dsimp only
     split at h
     ·rename_i hl
      rw[hl]
      dsimp only
      split at h
      ·rename_i r' hq
       cases h
       obtain⟨k',x,v,ob,q1,q2,q3,q4,q5,q6,rfl⟩:=jwQ hq
       rw[q1]
       dsimp only
       rw[q2]
       dsimp only
       rw[q3]
       dsimp only
       rw[q4]
       dsimp only
       rw[q6]
       exact jfF (.inr q5) hk
      ·split at h
       ·cases h
       rename_i h' hla
       rw[hla]
       dsimp only
       split at h
       ·cases h
       ·rename_i x hx
        rw[hx]
        dsimp only
        split at h
        ·cases h
        ·rename_i hb
         rw[hb]
         dsimp only
         split at h
         ·rename_i hv2
          rw[hv2]
          dsimp only
          split at h
          ·cases h
          ·rename_i hmk
           rw[hmk]
           dsimp only
           split at h
           ·rename_i res hs
            rw[hs]
            dsimp only
            split at h
            ·rename_i ho
             rw[ho]
             obtain⟨rfl,h2⟩:=jh5 hfr hs h
             exact jfF h2 hk
            ·cases h
           ·cases h
         ·rename_i ob v hv2
          rw[hv2]
          dsimp only
          split at h
          ·rename_i ho
           rw[ho]
           obtain⟨rfl,h2⟩:=jjK h
           exact jfF (h2.imp id fun hb=>jwP hb hv2) hk
          ·cases h
     ·rename_i hl
      rw[hl]
      dsimp only
      split at h
      ·rename_i hm
       rw[hm]
       dsimp only
       split at h
       ·rename_i res hs
        rw[hs]
        dsimp only
        split at h
        ·rename_i ho
         rw[ho]
         obtain⟨rfl,h2⟩:=jh5 hfr hs h
         exact jfF h2 hk
        ·cases h
       ·cases h
      ·rename_i hm
       rw[hm]
       dsimp only
       split at h
       ·cases h
       ·rename_i hf
        rw[hf]
        dsimp only
        split at h
        ·rename_i res hs
         rw[hs]
         dsimp only
         split at h
         ·rename_i ho
          rw[ho]
          obtain⟨rfl,h2⟩:=jh5 hfr hs h
          exact jfF h2 hk
         ·cases h
        ·cases h
theorem jmU {st0:St} {o:Oper} {tr:List Rec} {r:Rec} {k:Rec→Prop} (h:jlE N st0 o tr=some r) (hk:k r):ji6 N st0 o tr k:=by
 unfold jlE at h
 unfold ji6
 split at h
 ·cases h
 ·rename_i hd
  cases h
  rw[hd]
  exact hk
theorem jA2 {L:List Oper} {st0:St} {o:Oper} {r:Rec} {tr:List Rec} (h:L[tr.length]?=some o):jjJ o r (jdS L st0 tr)=jdS L st0 (r::tr):=by
 simp only[jjJ,jdS,jbK,h,Option.bind_some]
 cases o.dst<;>rfl
theorem jo5 {L:List Oper} {tab:List (List Nat)} {st0:St} (hfr:jbN sp) (hrd:jiG L tab 0 L=true):∀(l:List Oper) (tr:List Rec) (tm':List (Nat × V)) (tr':List Rec) (k:List Rec→Prop),L=L.take tr.length++l→tr.length+l.length=L.length →
  jeB P sp N L tab st0 l tr.length (jdS L st0 tr) tr=some (tm',tr')→(tm'=jdS L st0 tr'→k tr')→jeN P sp N L tab st0 l tr k
 |[],tr,tm',tr',k,_,_,h,hk=>by
  unfold jeB at h
  cases h
  exact hk rfl
 |o::r,tr,tm',tr',k,hL,hlen,h,hk=>by
  have hlt:tr.length<L.length:=by simp at hlen; omega
  have ho:L[tr.length]?=some o:=by
   rw[hL,List.getElem?_append_right (by simp; omega)]
   simp[Nat.min_eq_left (Nat.le_of_lt hlt)]
  have hro:∀t∈jas L o,jeA L (tab.getD tr.length []) tr.length t=true:=fun t ht=>by
   have:=jlG hrd tr.length o ho t ht
   simpa using this
  have next:∀rc,jeB P sp N L tab st0 r (tr.length+1) (jjJ o rc (jdS L st0 tr)) (rc::tr)=some (tm',tr')→jeN P sp N L tab st0 r (rc::tr) k:=fun rc hrc=>by
   refine jo5 hfr hrd r (rc::tr) tm' tr' k ?_ (by simp at hlen ⊢; omega) (by rw[←jA2 ho]; exact hrc) hk
   have h1:L.take (tr.length+1)=L.take tr.length++[o]:=by
    rw[List.take_succ_eq_append_getElem hlt]
    congr 2
    have:=List.getElem?_eq_getElem hlt
    rw[this]at ho
    exact Option.some.inj ho
   simp only[List.length_cons,h1,List.append_assoc,List.singleton_append]
   exact hL
  unfold jeB at h
  unfold jeN
  split at h
  ·rename_i hg
   rw[hg]
   dsimp only
   split at h
   ·rename_i rc hc
    exact jqB hfr hro hc (next rc h)
   ·cases h
  ·rename_i g want hg
   rw[hg]
   dsimp only
   split at h
   ·cases h
   ·rename_i t ht
    rw[ht]
    dsimp only
    have hnm:t∈jas L o:=by
     unfold jas
     rw[hg]
     simp[ht]
    rw[jiE,←jmc (hro t hnm)]at h
    split at h
    ·rename_i b hs
     have hset:jcZ L t (vb b) tr=tr:=jf3 hs
     rw[hs]
     dsimp only
     cases b<;>cases want<;>dsimp only[Br]at h ⊢ <;> split at h<;>rw[hset]<;>first
      |(rename_i rc hc; exact jqB hfr hro hc (next rc h))
      |(rename_i rc hc; exact jmU hc (next rc h))
      |cases h
    ·rename_i vs hs
     rw[hs]
     dsimp only
     split at h
     ·rename_i rc hc
      exact jmU hc (next rc h)
     ·cases h
    ·cases h
theorem jwR {ops:Array Oper} {s0:St} (hfr:jbN sp) (h:jwL P sp N ops st=some s0):jc0 P sp N ops st fun s=>s=s0:=by
 unfold jwL at h
 unfold jc0
 split at h
 ·rename_i hf
  rw[hf]
  dsimp only
  unfold jyh at h
  unfold jkJ
  split at h
  ·rename_i hs
   rw[Bool.and_eq_true]at hs
   rw[hs.1]
   dsimp only
   split at h
   ·rename_i tm tr htr
    cases h
    exact jo5 hfr hs.2 ops.toList [] tm tr _ (by simp) (by simp) htr fun e=>by rw[e]; rfl
   ·cases h
  ·cases h
 ·cases h
theorem jco {fuel:Nat} (hsp:jac P sp) (hfr:jbN sp) (hdr:jgh P B N n0 ρ0 w0 (jc0 P sp N)) :
  ∀(c:Code) (st:St) (ρ:Env) (a:Act) (w:World) (e:Ex) (st':St),cx P sp N fuel c st=some (e,st')→RelD ds ρ B N n0 st a w→jae n0 ρ0 ρ→Bel B w0 w →
   c.wp P (Qx ds ρ0 B N n0 w0 fun e' s=>e'=e∧s=st') a w
 | .skip,st,ρ,a,w,e,st',h,hr,hag,hbl=>by
  cases (show some (Ex.normal,st)=some (e,st')from h)
  exact wp_skip ⟨.normal,ρ,st,rfl,⟨rfl,rfl⟩,hr,hag,hbl⟩
 | .label l,st,ρ,a,w,e,st',h,hr,hag,hbl=>by
  cases (show some (Ex.normal,st)=some (e,st')from h)
  exact wp_label ⟨.normal,ρ,st,rfl,⟨rfl,rfl⟩,hr,hag,hbl⟩
 | .region id ops draw,st,ρ,a,w,e,st',h,hr,hag,hbl=>by
  have h:jwM P sp N ops draw st=some (e,st'):=h
  unfold jwM at h
  cases draw with
  |false =>
   dsimp only at h
   split at h
   ·rename_i s1 hs
    cases h
    refine wp_region_list ?_
    have:=jo3 (P:=P) (Q:=Qx ds ρ0 B N n0 w0 fun e' s=>e'=.normal∧s=st') (all:=ops.toList) hsp hfr (fun ρ' a' w' h1 h2 h3=>⟨.normal,ρ',st',rfl,⟨rfl,rfl⟩,h1,h2,h3⟩) ops.toList ρ st a w hr hag hbl hs
    simpa using this
   ·cases h
  |true =>
   dsimp only at h
   split at h
   ·rename_i s1 hs
    obtain⟨s2,h1,h2⟩:=jnI 3 s1 (fun s=>some (Ex.normal,s))
    rw[h1]at h
    cases h
    exact hdr id ops st _ ρ a w _ (jwR hfr hs) hr hag hbl (fun ρ' s a' w' q1 q2 q3 q4=>by
     subst q4
     exact⟨.normal,ρ',st',rfl,⟨rfl,rfl⟩,q1.subSt h2,q2,q3⟩)
   ·cases h
 | .seq x y,st,ρ,a,w,e,st',h,hr,hag,hbl=>by
  have h:jcJ (cx P sp N fuel x st) (cx P sp N fuel y)=some (e,st'):=h
  unfold jcJ at h
  refine wp_seq ?_
  split at h
  ·rename_i s1 hs
   refine wp_mono (jco hsp hfr hdr x st ρ a w _ _ hs hr hag hbl) ?_
   rintro e1 a1 w1 ⟨ex,ρ1,s2,rfl,⟨rfl,rfl⟩,hr1,hag1,hbl1⟩
   exact jco hsp hfr hdr y s2 ρ1 a1 w1 _ _ h hr1 hag1 hbl1
  ·rename_i hne
   refine wp_mono (jco hsp hfr hdr x st ρ a w _ _ h hr hag hbl) ?_
   rintro e1 a1 w1 ⟨ex,ρ1,s2,rfl,⟨rfl,rfl⟩,hr1,hag1,hbl1⟩
   cases ex with
   |normal=>exact(hne _ h).elim
   |exit j=>exact⟨.exit j,ρ1,_,rfl,⟨rfl,rfl⟩,hr1,hag1,hbl1⟩
   |ret=>exact⟨.ret,ρ1,_,rfl,⟨rfl,rfl⟩,hr1,hag1,hbl1⟩
 | .cond c x y,st,ρ,a,w,e,st',h,hr,hag,hbl=>by
  have h:jtc c (cx P sp N fuel x) (cx P sp N fuel y) st=some (e,st'):=h
  unfold jtc at h
  rw[jyf]at h
  split at h
  ·rename_i hc
   exact wp_cond_true (jkE hr (b:=true) (by rw[hc]; rfl)) (jco hsp hfr hdr x st ρ a w _ _ h hr hag hbl)
  ·rename_i hc
   exact wp_cond_false (jkE hr (b:=false) (by rw[hc]; rfl)) (jco hsp hfr hdr y st ρ a w _ _ h hr hag hbl)
  ·cases h
 | .block id c,st,ρ,a,w,e,st',h,hr,hag,hbl=>by
  have h:jp4 id (cx P sp N fuel c st)=some (e,st'):=h
  unfold jp4 at h
  refine wp_block ?_
  split at h
  ·rename_i j s1 hs
   refine wp_mono (jco hsp hfr hdr c st ρ a w _ _ hs hr hag hbl) ?_
   rintro e1 a1 w1 ⟨ex,ρ1,s2,rfl,⟨rfl,rfl⟩,hr1,hag1,hbl1⟩
   simp only[Ex.toExit,Exit.inBlock]
   split at h
   ·rename_i hj
    cases h
    rw[if_pos (Nat.eq_of_beq_eq_true hj)]
    exact⟨.normal,ρ1,_,rfl,⟨rfl,rfl⟩,hr1,hag1,hbl1⟩
   ·rename_i hj
    cases h
    rw[if_neg (fun e=>by subst e; rw[Nat.beq_refl]at hj; cases hj)]
    exact⟨.exit j,ρ1,_,rfl,⟨rfl,rfl⟩,hr1,hag1,hbl1⟩
  ·rename_i hne
   refine wp_mono (jco hsp hfr hdr c st ρ a w _ _ h hr hag hbl) ?_
   rintro e1 a1 w1 ⟨ex,ρ1,s2,rfl,⟨rfl,rfl⟩,hr1,hag1,hbl1⟩
   cases ex with
   |normal=>exact⟨.normal,ρ1,_,rfl,⟨rfl,rfl⟩,hr1,hag1,hbl1⟩
   |exit j=>exact(hne _ _ h).elim
   |ret=>exact⟨.ret,ρ1,_,rfl,⟨rfl,rfl⟩,hr1,hag1,hbl1⟩
 | .loop c,st,ρ,a,w,e,st',h,hr,hag,hbl=>by
  have h:jo2 (cx P sp N fuel c) fuel st=some (e,st'):=h
  refine wp_loop_rounds fuel ?_
  have key:∀(n:Nat) (st:St) (ρ:Env) (a:Act) (w:World),jo2 (cx P sp N fuel c) n st=some (e,st')→RelD ds ρ B N n0 st a w→jae n0 ρ0 ρ→Bel B w0 w→Code.rounds P c (Qx ds ρ0 B N n0 w0 fun e' s=>e'=e∧s=st') n a w:=by
   intro n
   induction n with
   |zero=>intro st ρ a w h; cases (show none=some (e,st')from h)
   |succ n ih =>
    intro st ρ a w h hr hag hbl
    have h:(match cx P sp N fuel c st with
     |some (.normal,st1)=>stG st1 fun st1=>jo2 (cx P sp N fuel c) n st1
     |x=>x)=some (e,st'):=h
    rw[rounds_succ]
    split at h
    ·rename_i s1 hs
     obtain⟨s2,h1,h2⟩:=jzW s1 (fun s=>jo2 (cx P sp N fuel c) n s)
     rw[h1]at h
     refine wp_mono (jco hsp hfr hdr c st ρ a w _ _ hs hr hag hbl) ?_
     rintro e1 a1 w1 ⟨ex,ρ1,s3,rfl,⟨rfl,rfl⟩,hr1,hag1,hbl1⟩
     exact ih s2 ρ1 a1 w1 h (hr1.subSt h2) hag1 hbl1
    ·rename_i hne
     refine wp_mono (jco hsp hfr hdr c st ρ a w _ _ h hr hag hbl) ?_
     rintro e1 a1 w1 ⟨ex,ρ1,s2,rfl,⟨rfl,rfl⟩,hr1,hag1,hbl1⟩
     cases ex with
     |normal=>exact(hne _ h).elim
     |exit j=>exact⟨.exit j,ρ1,_,rfl,⟨rfl,rfl⟩,hr1,hag1,hbl1⟩
     |ret=>exact⟨.ret,ρ1,_,rfl,⟨rfl,rfl⟩,hr1,hag1,hbl1⟩
  exact key fuel st ρ a w h hr hag hbl
 | .exit id,st,ρ,a,w,e,st',h,hr,hag,hbl=>by
  cases (show some (Ex.exit id,st)=some (e,st')from h)
  exact wp_exit ⟨.exit id,ρ,st,rfl,⟨rfl,rfl⟩,hr,hag,hbl⟩
 | .ret,st,ρ,a,w,e,st',h,hr,hag,hbl=>by
  cases (show some (Ex.ret,st)=some (e,st')from h)
  exact wp_ret ⟨.ret,ρ,st,rfl,⟨rfl,rfl⟩,hr,hag,hbl⟩
 | .scope c,st,ρ,a,w,e,st',h,_,_,_=>by cases (show none=some (e,st')from h)
 | .goto l,st,ρ,a,w,e,st',h,_,_,_=>by cases (show none=some (e,st')from h)
 | .rangeFunc f ps x y,st,ρ,a,w,e,st',h,_,_,_=>by cases (show none=some (e,st')from h)
 | .refuse s,st,ρ,a,w,e,st',h,_,_,_=>by cases (show none=some (e,st')from h)
end
end Go.Sx
end

section
open Go.RowKit
namespace Go.Sx
section
variable [Globs] {P:Program} {B:Kd} {sp:jaa} {ρ:Env} {w:World} {hp:Hp} {nx:Nat}
theorem jtf {st:St} {r:ResultVar} {u:W} (h:jp5 P st r=some u):∃ob,jkG P st r=some (ob,u)∧ob:=by
 unfold jp5 at h
 unfold jkG
 split at h
 ·split at h
  ·rename_i u' hg
   cases h
   exact⟨True,by simp only[hg],trivial⟩
  ·cases h
 ·split at h
  ·rename_i k i e j hg
   split at h
   ·rename_i o hf
    split at h
    ·rename_i ob u' hr hb
     cases h
     exact⟨ob,by simp only[hg,hf,hr],jvl hr hb⟩
    ·cases h
   ·cases h
  ·cases h
theorem jlH {st:St}:∀{rs:List ResultVar} {l:List W},jdv P st rs=some l→∃l',jen P st rs=some l'∧l'.map (·.2)=l∧∀k:Prop,k→jij l' k
 |[],l,h=>by
  simp only[jdv,Option.some.injEq]at h
  subst h
  exact⟨[],rfl,rfl,fun _ h=>h⟩
 |r::rs,l,h=>by
  simp only[jdv]at h
  split at h
  ·rename_i x l1 h1 h2
   cases h
   obtain⟨ob,q1,q2⟩:=jtf h1
   obtain⟨l',q3,q4,q5⟩:=jlH h2
   refine⟨(ob,x)::l',by simp only[jen,q1,q3],by simp[q4],fun k hk=>⟨⟨q2⟩,q5 k hk⟩⟩
  ·cases h
theorem jqC (hh:HRel ρ B hp nx w) {v:V} (hv:v.lt nx):(jgX hp v).val ρ=v.val ρ∧(jgX hp v).lt nx:=by
 unfold jgX
 split
 ·rename_i h
  split
  ·rename_i ty cs hf
   obtain⟨q1,_,k,q3,_⟩:=hh.ok h _ hf
   exact⟨by simp[V.val,W.val,C.val,q3,base],q1⟩
  ·rename_i cs hf
   obtain⟨q1,_,k,o,q3,_⟩:=hh.ok h _ hf
   exact⟨by simp[V.val,W.val,C.val,q3,base],q1⟩
  ·rename_i ty k e r hf
   obtain⟨q1,_,k,q3,_⟩:=hh.ok h _ hf
   exact⟨by simp[V.val,W.val,C.val,q3,base],q1⟩
  ·exact⟨rfl,hv⟩
 ·exact⟨rfl,hv⟩
theorem jgd (hh:HRel ρ B hp nx w) {args:List V} (hlt:∀x∈args,V.lt nx x):(args.map (jgX hp)).map (V.val ρ)=args.map (V.val ρ)∧∀x∈args.map (jgX hp),V.lt nx x:=by
 refine⟨?_,fun x hx=>?_⟩
 ·rw[List.map_map]
  exact List.map_congr_left fun v hv=>(jqC hh (hlt v hv)).1
 ·obtain⟨v,hv,rfl⟩:=List.mem_map.1 hx
  exact(jqC hh (hlt v hv)).2
theorem jnJ {f fuel:Nat} {fn:Func} {body:Code} {args:List V} {e:Ex} {st:St} {l:List W} (hsp:jac P sp) (hfr:jbN sp) (hdr:∀ρ w,jgh P B fn.ntmps nx ρ w (jc0 P sp fn.ntmps))
  (hf:P.funcs[f]?=some fn) (hb:fn.body=some body) (hlen:args.length≤fn.ntmps) (hcx:cx P sp fn.ntmps fuel body ⟨jci 0 args,hp,nx⟩=some (e,st)) (he:∀j,e≠.exit j) (hl:jdv P st fn.results.toList=some l)
  (hlt:∀x∈args,V.lt nx x) (hh:HRel ρ B hp nx w) (hB:Old B w) :
  Calls P f (args.map (V.val ρ)).toArray w fun e w'=>∃ρ',e=.returned ((jaX l).val ρ')∧(jaX l).lt st.nx∧jae nx ρ ρ'∧(∃B',Grow B B' false w' w'∧HRel ρ' B' st.hp st.nx w')∧Bel B w w':=by
 refine calls_of_wp hf hb ?_
 have hrel:=jfv (n0:=nx) hlen hlt (Nat.le_refl _) ρ w hh hB
 refine wp_mono (jco hsp hfr (hdr ρ w) body _ ρ _ w e st hcx hrel (jae.refl _ _) (Bel.refl _ _)) ?_
 rintro e1 a1 w1 ⟨ex,ρ1,s,rfl,⟨rfl,rfl⟩,hr1,hag1,hbl1⟩
 obtain⟨l',q1,q2,q3⟩:=jlH hl
 have fin:a1.defers=[]∧∃v,(results fn a1.tmps).run P w1=.ok v w1∧∃ρ',Ending.returned v=.returned ((jaX l).val ρ')∧(jaX l).lt s.nx∧jae nx ρ ρ'∧(∃B',Grow B B' false w1 w1∧HRel ρ' B' s.hp s.nx w1)∧Bel B w w1:=by
  have hra:=jf1 hr1 _ l' True q1 (q3 True trivial)
  refine⟨hr1.defers,(jaX l).val ρ1,?_,ρ1,rfl,jeL (fun y hy=>?_),hag1,hr1.heap,hbl1⟩
  ·rw[jcC]
   simp only[ji2,Array.mapM_eq_mapM_toList,Sem.run_bind,Sem.run_map,hra.1,Result.andThen_ok,Sem.run_pure,←q2,List.map_map]
   rfl
  ·rw[←q2]at hy
   obtain⟨z,hz,rfl⟩:=List.mem_map.1 hy
   exact hra.2.1 z hz
 cases ex with
 |normal=>exact fin
 |exit j=>exact(he j rfl).elim
 |ret=>exact fin
theorem jqD {α:Type} (n0:Nat) (v:V) (st:St) (k:Hp→α):∃hp',outF n0 v st k=k hp'∧∀h o,find hp' h=some o→find st.hp h=some o:=by
 unfold outF
 obtain⟨m,h1⟩:=jh3 (n0:=n0) (hp:=st.hp) 6 (jry v 0) (fun m=>hpF (fun h=>Nat.blt h n0||Nat.testBit m h) 0 0 st.hp k)
 rw[h1]
 obtain⟨hp',h2,h3⟩:=jgV (live:=fun h=>Nat.blt h n0||Nat.testBit m h) st.hp 0 0 k
 exact⟨hp',h2,fun h o hf=>(h3 h o hf).1⟩
theorem jqE {α:Type} (n0:Nat) (v:V) (st:St) (k:Hp→α):∃hp',outN n0 v st k=k hp'∧∀h o,find hp' h=some o→find st.hp h=some o∧n0≤h:=by
 unfold outN
 obtain⟨m,h1⟩:=jh3 (n0:=n0) (hp:=st.hp) 6 (jry v 0) (fun m=>hpF (fun h=>Nat.ble n0 h&&Nat.testBit m h) 0 0 st.hp k)
 rw[h1]
 obtain⟨hp',h2,h3⟩:=jgV (live:=fun h=>Nat.ble n0 h&&Nat.testBit m h) st.hp 0 0 k
 refine⟨hp',h2,fun h o hf=>⟨(h3 h o hf).1,?_⟩⟩
 have:=(h3 h o hf).2.2
 simp only[Bool.and_eq_true]at this
 exact Nat.le_of_ble_eq_true this.1
theorem jzY {fn:Func} {body:Code} {fuel:Nat} {args:List V} {t:RT} (h:inl P sp fn body fuel args hp nx=some t):t.sel.ob:=by
 unfold inl at h
 split at h
 ·cases h
 ·split at h
  ·rename_i e st hcx
   split at h
   ·cases h
   ·split at h
    ·rename_i l hl hle
     rw[jc1]at h
     obtain⟨hp',h1,_⟩:=jqD nx (jaX l) st (fun hp'=>some (RT.leaf ⟨True,jaX l,hp',st.nx⟩))
     rw[h1]at h
     cases h
     trivial
    ·cases h
  ·cases h
theorem jB2 {f fuel:Nat} {fn:Func} {body:Code} (hm:P.follows .mixedOrders=true) (hsp:jac P sp) (hfr:jbN sp) (hf:P.funcs[f]?=some fn) (hb:fn.body=some body) (hn:(fn.name == "runtime.NumGoroutine")=false) :
  jaf P f false (inl P sp fn body fuel):=by
 refine .inl ⟨jcF hf hb hn,fun ρ B w args hp nx t hS hob hlt hh hB=>?_⟩
 unfold inl at hS
 split at hS
 ·cases hS
 ·rename_i hlen
  have hlen:=Nat.le_of_ble_eq_true hlen
  split at hS
  ·rename_i e st hcx
   have go:∀l,(∀j,e≠.exit j)→jdv P st fn.results.toList=some l→Nat.ble nx st.nx=true→(fV (jaX l) fun v=>outF nx v st fun hp'=>some (RT.leaf ⟨True,v,hp',st.nx⟩))=some t →
     Calls P f (args.map (V.val ρ)).toArray w fun e w'=>∃ρ',e=.returned (t.sel.v.val ρ')∧Left ρ B nx w t.sel false ρ' w':=by
    intro l he hl hle hS
    rw[jc1]at hS
    obtain⟨hp',h1,h2⟩:=jqD nx (jaX l) st (fun hp'=>some (RT.leaf ⟨True,jaX l,hp',st.nx⟩))
    rw[h1]at hS
    cases hS
    obtain⟨ha1,ha2⟩:=jgd hh hlt
    have hc:=jnJ (f:=f) (args:=args.map (jgX hp)) hsp hfr (fun ρ w=>jcm hm hsp) hf hb (by simpa using hlen) hcx he hl ha2 hh hB
    rw[ha1]at hc
    refine hc.mono ?_
    rintro e' w' ⟨ρ',rfl,q2,q3,⟨B',g,q4⟩,q5⟩
    exact⟨ρ',rfl,q3,q2,Nat.le_of_ble_eq_true hle,⟨B',g.weak,q4.sub h2⟩,q5,(fun h=>by cases h),fun h=>by cases h⟩
   split at hS
   ·cases hS
   ·rename_i hne
    split at hS
    ·rename_i l hl hle
     exact go l (fun j e=>hne j e) hl hle hS
    ·cases hS
  ·cases hS
theorem jp6 (hp:Hp) (h:Nat):find (jfR hp) h=(find hp h).map roO:=by
 induction hp with
 |nil=>rfl
 |cons x r ih =>
  obtain⟨k,o⟩:=x
  simp only[jfR,List.map_cons,find]at *
  split
  ·rfl
  ·exact ih
theorem jvn (v:Value) (o:O):(roO o).blk v=none:=by
 cases o<;>simp only[roO]<;>first
  |rfl
  |(unfold roO.extR; split<;>rfl)
  |(unfold roO.lstR; split<;>rfl)
theorem jyj (hh:HRel ρ B hp nx w) (hB:Old B w):HRel ρ (kd fun k=>k<w.heap.size) (jfR hp) nx w:=by
 have row:∀h o c,find hp h=some o→o.cont=some c→h<nx∧(roO.extR c).lt nx∧(roO.extR c).ok ρ (kd fun k=>k<w.heap.size) w h:=by
  intro h o c hf hc
  obtain⟨q1,q2,q3⟩:=hh.ok h o hf
  have hr:=jaS q3 hc
  unfold roO.extR
  split
  ·exact⟨q1,trivial,trivial⟩
  ·rename_i e he
   exact⟨q1,trivial,hr,jaF.lt hr (by omega)⟩
 have lst:∀h o e n cs,find hp h=some o→o.lst=some (e,n,cs)→(∀c∈cs,C.lt nx c)→h<nx∧(roO.lstR e n cs).lt nx∧(roO.lstR e n cs).ok ρ (kd fun k=>k<w.heap.size) w h:=by
  intro h o e n cs hf hl hlt
  obtain⟨q1,q2,q3⟩:=hh.ok h o hf
  obtain⟨h1,h2,h3⟩:=jbR q3 hl
  unfold roO.lstR
  split
  ·exact⟨q1,trivial,trivial⟩
  ·rename_i e'
   refine⟨q1,hlt,h1,fun a n' cap heq hn=>?_,h2,h3⟩
   obtain⟨a',cap',hv,_,hadr⟩:=h1
   rw[hv]at heq
   cases heq
   obtain⟨b,off,e9⟩:=hadr hn
   cases e9
   have hlen:0<cs.length:=by rw[h2]; exact Nat.mul_pos hn (Nat.succ_pos _)
   have:=h3 0 cs[0] (List.getElem?_eq_getElem hlen)
   rw[hv]at this
   exact World.block_lt_of_cell? w _ this
 refine⟨fun h o' hf=>?_,fun h o k o' b _ hf' _ _ hb'=>?_,hh.glob.sub fun g hg=>hB g (.inl hg)⟩
 ·rw[jp6]at hf
  obtain⟨o,ho,rfl⟩:=Option.map_eq_some_iff.1 hf
  obtain⟨q1,q2,q3⟩:=hh.ok h o ho
  cases o with
  |row ty c=>exact row h _ c ho rfl
  |ext c=>exact row h _ c ho rfl
  |view r c fl=>exact row h _ c ho rfl
  |rrow c=>exact row h _ c ho rfl
  |fext c=>exact row h _ c ho rfl
  |sub r i e j ty c=>exact row h _ c ho rfl
  |box ty cs =>
   obtain⟨k,h1,h2,h3⟩:=q3
   refine⟨q1,q2,k,0,h1,(Array.getElem?_eq_some_iff.1 h3).1,fun j c hj=>?_⟩
   rw[Nat.zero_add,cell_of_row w k _ _ ty (0,0) h3]
   simp[hj]
  |ebox cs =>
   obtain⟨k,o,h1,h2,h3⟩:=q3
   exact⟨q1,q2,k,o,h1,hB k (.inl h2),h3⟩
  |lbox ty e n cs=>exact lst h _ e n cs ho rfl q2
  |lview r e n cs=>exact lst h _ e n cs ho rfl q2.2
  |elist e n cs=>exact⟨q1,q2,q3.1,jaQ (fun k hk=>hB k (.inl hk)) q3.2.1,q3.2.2⟩
  |xext X=>exact⟨q1,trivial,IsX.mono (fun k hk=>hB k (.inl hk)) q3⟩
  |_=>exact⟨q1,trivial,trivial⟩
 ·rw[jp6]at hf'
  obtain⟨o1,_,rfl⟩:=Option.map_eq_some_iff.1 hf'
  rw[jvn]at hb'
  cases hb'
theorem jnK (l r:Hp) (h:Nat):find (l++r) h=match find l h with|some o=>some o|none=>find r h:=by
 induction l with
 |nil=>rfl
 |cons x l ih =>
  obtain⟨k,o⟩:=x
  simp only[List.cons_append,find]
  split
  ·rfl
  ·exact ih
theorem jvo {B1:Kd} {o:O} {h:Nat} (ho:jeM o=true) (hok:o.ok ρ B1 w h) (hB:∀k,¬B1.all k→¬B.all k):o.ok ρ B w h:=by
 cases o with
 |row ty c=>exact⟨hok.1,fun k hk=>hB k (hok.2 k hk)⟩
 |box ty cs=>obtain⟨k,h1,h2,h3⟩:=hok; exact⟨k,h1,hB k h2,h3⟩
 |lbox ty e n cs=>exact⟨hok.1,fun k hk=>hB k (hok.2 k hk)⟩
 |arr ty k e r=>obtain⟨g,h1,h2,h3⟩:=hok; exact⟨g,h1,hB g h2,h3⟩
 |_=>cases ho
theorem jzZ {w':World} {ρ':Env} {B1:Kd} {hp1 hp':Hp} {nx1:Nat} (hh:HRel ρ B hp nx w) (hB:Old B w) (hbel:Below w.heap.size w w') (hag:jae nx ρ ρ') (hle:nx≤nx1) (h1:HRel ρ' B1 hp1 nx1 w') (hB1:∀k,¬B1.all k→w.heap.size≤k)
  (hs:∀h o,find hp' h=some o→find hp1 h=some o∧nx≤h) (hk:hp'.all (fun x=>jeM x.2)=true) :
  HRel ρ' B (hp' ++ hp) nx1 w'∧∀h o k,nx≤h→find (hp' ++ hp) h=some o→o.blk (ρ' h)=some k→w.heap.size≤k:=by
 have hold:=(hh.below hbel hB).agree hag
 have hBn:∀k,¬B1.all k→¬B.all k:=fun k hk hc=>by have:=hB k hc; have:=hB1 k hk; omega
 have own:∀h o,find hp' h=some o→jeM o=true:=fun h o hf=>List.all_eq_true.1 hk _ (ji1 hf)
 have new:∀h o k,find hp' h=some o→o.blk (ρ' h)=some k→w.heap.size≤k:=fun h o k hf hb=>hB1 k (O.blk_lt (h1.ok h o (hs h o hf).1).2.2 hb).2
 have oldlt:∀h o k,find hp h=some o→o.blk (ρ' h)=some k→k<w.heap.size:=fun h o k hf hb=>by
  have q:=hh.ok h o hf
  rw[hag h q.1]at hb
  exact(O.blk_lt q.2.2 hb).1
 have part:∀h o,find (hp' ++ hp) h=some o→find hp' h=some o∨find hp h=some o:=fun h o hf=>by
  rw[jnK]at hf
  cases hq:find hp' h with
  |some o1=>simp only[hq]at hf; exact .inl hf
  |none=>simp only[hq]at hf; exact .inr hf
 refine⟨⟨fun h o hf=>?_,fun h o h' o' k hf hf' hne hb hb'=>?_,hold.glob⟩,fun h o k hn hf hb=>?_⟩
 ·rcases part h o hf with hq|hq
  ·have q:=h1.ok h o (hs h o hq).1
   exact⟨q.1,q.2.1,jvo (own h o hq) q.2.2 hBn⟩
  ·have q:=hold.ok h o hq
   exact⟨Nat.lt_of_lt_of_le q.1 hle,O.lt_mono hle q.2.1,q.2.2⟩
 ·rcases part h o hf with hq|hq<;>rcases part h' o' hf' with hq' | hq'
  ·exact h1.apart h o h' o' k (hs h o hq).1 (hs h' o' hq').1 hne hb hb'
  ·have:=new h o k hq hb
   have:=oldlt h' o' k hq' hb'
   omega
  ·have:=oldlt h o k hq hb
   have:=new h' o' k hq' hb'
   omega
  ·exact hold.apart h o h' o' k hq hq' hne hb hb'
 ·rcases part h o hf with hq|hq
  ·exact new h o k hq hb
  ·have:=(hh.ok h o hq).1
   omega
theorem jA3 {f fuel:Nat} {fn:Func} {body:Code} (hm:P.follows .mixedOrders=true) (hsp:jac P sp) (hfr:jbN sp) (hf:P.funcs[f]?=some fn) (hb:fn.body=some body) (hn:(fn.name == "runtime.NumGoroutine")=false) :
  jaf P f true (jte P sp fn body fuel):=by
 refine .inl ⟨jcF hf hb hn,fun ρ B w args hp nx t hS hob hlt hh hB=>?_⟩
 unfold jte at hS
 split at hS
 ·cases hS
 ·rename_i hlen
  have hlen:=Nat.le_of_ble_eq_true hlen
  split at hS
  ·rename_i e st hcx
   split at hS
   ·cases hS
   ·rename_i hne
    split at hS
    ·rename_i l hl hle
     have hle:=Nat.le_of_ble_eq_true hle
     rw[jc1]at hS
     obtain⟨hp',h1,h2⟩:=jqE nx (jaX l) st (jtd (jaX l) hp st.nx)
     rw[h1]at hS
     unfold jtd at hS
     split at hS
     ·rename_i hk
      cases hS
      obtain⟨ha1,ha2⟩:=jgd hh hlt
      have hro:=jyj hh hB
      have hc:=jnJ (f:=f) (args:=args.map (jgX hp)) (B:=kd fun k=>k<w.heap.size) hsp hfr (fun ρ w=>jcm hm hsp) hf hb (by simpa using hlen) hcx (fun j e=>hne j e) hl ha2 hro (fun k hk=>(jbD.1 hk))
      rw[ha1]at hc
      refine hc.mono ?_
      rintro e' w' ⟨ρ',rfl,q2,q3,⟨B1,g,q4⟩,q5⟩
      have hbel:Below w.heap.size w w':=Bel.below q5
      have hB1:∀k,¬B1.all k→w.heap.size≤k:=fun k hk=>Nat.le_of_not_lt fun hlt=>hk (.inl (g.le.kp k hlt))
      obtain⟨r1,r2⟩:=jzZ hh hB hbel q3 hle q4 hB1 h2 hk
      exact⟨ρ',rfl,q3,q2,hle,HRel.gr r1,jcc hbel hB,fun _=>hbel,fun _=>r2⟩
     ·cases hS
    ·cases hS
  ·cases hS
theorem jyk {fn:Func} {body:Code} {fuel:Nat} {args:List V} {t:RT} (h:jte P sp fn body fuel args hp nx=some t):t.sel.ob:=by
 unfold jte at h
 split at h
 ·cases h
 ·split at h
  ·rename_i e st hcx
   split at h
   ·cases h
   ·split at h
    ·rename_i l hl hle
     rw[jc1]at h
     obtain⟨hp',h1,_⟩:=jqE nx (jaX l) st (jtd (jaX l) hp st.nx)
     rw[h1]at h
     unfold jtd at h
     split at h
     ·cases h; trivial
     ·cases h
    ·cases h
  ·cases h
theorem jp7 {ov:jaa} {ro:Nat→Bool} {fuel:Nat} (hm:P.follows .mixedOrders=true) (hov:jac P ov) (hfo:jbN ov):∀n,jac P (jnH P ov ro fuel n)∧jbN (jnH P ov ro fuel n)
 |0=>⟨(fun f M S h=>by cases h),(fun f M S args hp nx t h=>by cases h)⟩
 |n+1=>by
  obtain⟨ih1,ih2⟩:=jp7 hm hov hfo (ro:=ro) (fuel:=fuel) n
  refine⟨fun f M S h=>?_,fun f M S args hp nx t h hS=>?_⟩
  ·unfold jnH at h
   split at h
   ·rename_i x hx
    cases h
    exact hov f M S hx
   ·split at h
    ·rename_i fn hf
     split at h
     ·rename_i body hb hn
      split at h
      ·cases h
       exact jA3 hm ih1 ih2 hf hb hn
      ·cases h
       exact jB2 hm ih1 ih2 hf hb hn
     ·cases h
    ·cases h
  ·unfold jnH at h
   split at h
   ·rename_i x hx
    cases h
    exact hfo f M S args hp nx t hx hS
   ·split at h
    ·split at h
     ·split at h
      ·cases h
       exact jyk hS
      ·cases h
       exact jzY hS
     ·cases h
    ·cases h
end
end Go.Sx
end

section
open Go.RowKit
namespace Go.Sx
section
variable {P:Program} {ρ:Env} {B:Kd} {nx:Nat} {hp:Hp} {w:World}
theorem jyl (I J:Globs) (ht:I.tab=J.tab) (hh:I.held=J.held) {B:Bd} {w:World} (h:@jb1 I B w):@jb1 J B w:=by
 cases I; cases J
 cases ht; cases hh
 exact h
theorem jlI (I J:Globs) (ht:I.tab=J.tab) (hd:I.held=J.held) (h:@HRel I ρ B hp nx w):@HRel J ρ B hp nx w :=
 @HRel.mk J _ _ _ _ _ (@HRel.ok I _ _ _ _ _ h) (@HRel.apart I _ _ _ _ _ h) (jyl I J ht hd (@HRel.glob I _ _ _ _ _ h))
theorem jqF (I J:Globs) (ht:I.tab=J.tab) (hd:I.held=J.held) {f:Nat} {M:Bool} {S:Spec} (h:@jaf I P f M S):@jaf J P f M S:=by
 rcases h with h|h
 ·refine .inl (@RunOK.mk J _ _ _ _ (@RunOK.enter I _ _ _ _ h) fun ρ B w args hp nx t hS ho hl hh hB=>?_)
  refine(@RunOK.sound I _ _ _ _ h ρ B w args hp nx t hS ho hl (jlI J I ht.symm hd.symm hh) hB).mono ?_
  rintro e w' ⟨ρ',e1,hL⟩
  obtain⟨B',g,q⟩:=@Left.heap I _ _ _ _ _ _ _ _ hL
  exact⟨ρ',e1,@Left.mk J _ _ _ _ _ _ _ _ (@Left.agree I _ _ _ _ _ _ _ _ hL) (@Left.lt I _ _ _ _ _ _ _ _ hL) (@Left.le I _ _ _ _ _ _ _ _ hL) ⟨B',g,jlI I J ht hd q⟩ (@Left.below I _ _ _ _ _ _ _ _ hL) (@Left.mono I _ _ _ _ _ _ _ _ hL) (@Left.fresh I _ _ _ _ _ _ _ _ hL)⟩
 ·exact .inr fun ρ B w args hp nx t hS ho hl hh hB=>h ρ B w args hp nx t hS ho hl (jlI J I ht.symm hd.symm hh) hB
end
def jwS (hp:Hp) (k:NK) (c:C):Option NC :=
 match c with
 | .d (.v (.slice none 0 0))=>jlZ k
 | .d x=>match jbn k (.d x)with
  |true=>some (.d x)
  |false=>none
 | .o h=>match find hp h with
  |some (.ext c)=>match jbn k (.r c)with
   |true=>some (.r c)
   |false=>none
  |_=>none
 |_=>none
def jgY (hp:Hp):List NK→List C→Option (List NC)
 |[],[]=>some []
 |k::ks,c::cs=>match jwS hp k c,jgY hp ks cs with
  |some x,some l=>some (x::l)
  |_,_=>none
 |_,_=>none
def jmd (hp:Hp) (sh:List NK):Nat→List C→Option (List (List NC))
 |0,cs=>match cs with
  |[]=>some []
  |_=>none
 |n+1,cs=>match jgY hp sh (cs.take sh.length),jmd hp sh n (cs.drop sh.length)with
  |some r,some l=>some (r::l)
  |_,_=>none
def jo6 (hp:Hp) (e n:Nat) (cs:List C):List XC→Option XC
 |[]=>none
 |x::l=>match Nat.beq x.e e,Nat.beq e x.sh.length,Nat.blt 0 e with
  |true,true,true=>match jmd hp x.sh n cs with
   |some rs=>some (x.mk rs)
   |none=>jo6 hp e n cs l
  |_,_,_=>jo6 hp e n cs l
def jme (hp:Hp) (xs:List XC) (o:O):O :=
 match o with
 | .elist e n cs=>match jo6 hp e n cs xs with
  |some X=>.xext X
  |none=>o
 |_=>o
def hpQ (xs:List XC) (hp:Hp):Hp:=hp.map fun x=>(x.1,jme hp xs x.2)
noncomputable def fHp {α:Type} (hp:Hp):(Hp→α)→α:=fL (fun x k=>fN x.1 fun n=>fO x.2 fun o=>k (n,o)) hp
def jAD (o:O):O:=match jeM o with
 |true=>o
 |false=>match o with
  | .dead=>.dead
  |_=>.atom
def jlJ (hp:Hp):Hp:=hp.map fun x=>(x.1,jAD x.2)
noncomputable def je3 (xs:List XC) (shs:List SV) (g:List Lf→Option (List RR)):Spec:=fun args hp nx =>
 match jjj (hpQ xs (jfR hp)) shs (args.map (jgX hp))with
 |some (ls,am)=>match g ls with
  |some rs=>match jb7 am rs nx with
   |b=>fV (jaX b.ws) fun v=>fHp (jlJ b.hp) fun hp'=>fN b.n fun n=>match hp'.all (fun x=>Nat.ble nx x.1)with
    |true=>some (.leaf ⟨True,v,hp' ++ hp,n⟩)
    |false=>none
  |none=>none
 |none=>none
section
variable [Globs] {P:Program} {ρ:Env} {B:Kd} {nx:Nat} {hp:Hp} {w:World}
theorem jwT (hh:HRel ρ B hp nx w) {k:NK} {c:C} {x:NC} (h:jwS hp k c=some x):jbn k x=true∧x.at B.kp w (c.val ρ):=by
 unfold jwS at h
 split at h
 ·have:=jiW h
  exact⟨this.1,this.2 _ _⟩
 ·split at h
  ·rename_i hk
   cases h
   exact⟨hk,rfl⟩
  ·cases h
 ·rename_i h0
  split at h
  ·rename_i c0 hf
   split at h
   ·rename_i hk
    cases h
    exact⟨hk,(hh.ok _ _ hf).2.2⟩
   ·cases h
  ·cases h
 ·cases h
theorem jmV (hh:HRel ρ B hp nx w):∀{sh:List NK} {cs:List C} {r:List NC},jgY hp sh cs=some r →
  jcg sh r∧cs.length=sh.length∧∀(j:Nat) (x:NC) (c:C),r[j]?=some x→cs[j]?=some c→x.at B.kp w (c.val ρ)
 |[],[],r,h=>by
  simp only[jgY,Option.some.injEq]at h
  subst h
  exact⟨⟨rfl,fun j k x h=>by simp at h⟩,rfl,fun j x c h=>by simp at h⟩
 |[],c::cs,r,h=>by simp[jgY]at h
 |k::sh,[],r,h=>by simp[jgY]at h
 |k::sh,c::cs,r,h=>by
  simp only[jgY]at h
  split at h
  ·rename_i x l hx hl
   simp only[Option.some.injEq]at h
   subst h
   obtain⟨a1,a3⟩:=jwT hh hx
   obtain⟨b1,b2,b4⟩:=jmV hh hl
   refine⟨⟨by simp[b1.1],fun j k' x' hj hx'=>?_⟩,by simp[b2],fun j x' c' hj hc=>?_⟩
   ·cases j with
    |zero=>simp at hj hx'; subst hj; subst hx'; exact a1
    |succ j=>exact b1.2 j k' x' (by simpa using hj) (by simpa using hx')
   ·cases j with
    |zero =>
     simp at hj hc; subst hj; subst hc
     exact a3
    |succ j=>exact b4 j x' c' (by simpa using hj) (by simpa using hc)
  ·cases h
theorem jo7 (hh:HRel ρ B hp nx w) {sh:List NK}:∀{n:Nat} {cs:List C} {rs:List (List NC)},jmd hp sh n cs=some rs →
  rs.length=n∧(∀r∈rs,jcg sh r)∧∀(i j:Nat) (c:C),i<n→j<sh.length→cs[i*sh.length+j]?=some c→((rs.getD i []).getD j (.d (.v undef))).at B.kp w (c.val ρ)
 |0,cs,rs,h=>by
  cases cs with
  |nil =>
   simp only[jmd,Option.some.injEq]at h
   subst h
   exact⟨rfl,(fun _ h=>by cases h),fun i j c hi=>by omega⟩
  |cons c cs=>simp[jmd]at h
 |n+1,cs,rs,h=>by
  simp only[jmd]at h
  split at h
  ·rename_i r l hr hl
   simp only[Option.some.injEq]at h
   subst h
   obtain⟨a1,a2,a3⟩:=jmV hh hr
   obtain⟨b1,b2,b3⟩:=jo7 hh hl
   refine⟨by simp[b1],fun r' hr'=>?_,fun i j c hi hj hc=>?_⟩
   ·rcases List.mem_cons.1 hr' with e|e
    ·subst e; exact a1
    ·exact b2 r' e
   ·cases i with
    |zero =>
     rw[Nat.zero_mul,Nat.zero_add]at hc
     have hjr:j<r.length:=by rw[a1.1]; exact hj
     have e1:(r.getD j (.d (.v undef)))=r[j]:=by simp[List.getD,hjr]
     show(r.getD j _).at _ _ _
     rw[e1]
     exact a3 j _ c (List.getElem?_eq_getElem hjr) (by rw[List.getElem?_take_of_lt hj]; exact hc)
    |succ i =>
     show((l.getD i []).getD j _).at _ _ _
     refine b3 i j c (by omega) hj ?_
     rw[List.getElem?_drop]
     rw[←hc]
     congr 1
     rw[Nat.add_mul]; omega
  ·cases h
theorem jjL (hh:HRel ρ B hp nx w) {h e n:Nat} {cs:List C} (hok:(O.elist e n cs).ok ρ B w h):∀{xs:List XC} {X:XC},jo6 hp e n cs xs=some X→IsX B.kp w (ρ h) X
 |[],X,hp=>by cases hp
 |x::l,X,hq=>by
  unfold jo6 at hq
  split at hq
  ·rename_i h1 h2 h3
   have h1:=Nat.eq_of_beq_eq_true h1
   have h2:=Nat.eq_of_beq_eq_true h2
   split at hq
   ·rename_i rs hrs
    cases hq
    obtain⟨q1,q2,q3,q4⟩:=hok
    obtain⟨a,cap,hv,hc,hadr⟩:=q1
    obtain⟨r1,r2,r3⟩:=jo7 hh hrs
    obtain⟨m1,m2,m3⟩:=x.cell_mk r2
    refine⟨a,cap,by rw[m1,r1]; exact hv,by rw[m1,r1]; exact hc,fun hn=>?_⟩
    rw[m1,r1]at hn
    obtain⟨b,off,rfl⟩:=hadr hn
    refine⟨b,off,rfl,?_,fun i j hi hj=>?_⟩
    ·exact q2 _ n cap hv hn
    ·rw[m1]at hi
     rw[m2]at hj ⊢
     have hi':i<n:=by rw[←r1]; exact hi
     have hlt:i*x.e+j<cs.length:=by
      rw[q3,←h1]
      calc i*x.e+j<i*x.e+x.e:=by omega
       _=(i+1)*x.e:=by rw[Nat.add_mul]; omega
       _≤n*x.e:=Nat.mul_le_mul_right _ hi'
     have hget:=List.getElem?_eq_getElem hlt
     have:=q4 _ _ hget
     rw[hv]at this
     refine⟨_,this,?_⟩
     rw[m3 i j hi hj]
     exact r3 i j _ hi' (by rw[←h2,←h1]; exact hj) (by rw[←h2,←h1]; exact hget)
   ·exact jjL hh hok hq
  ·exact jjL hh hok hq
theorem jz0 (xs:List XC) (hp0 hp:Hp) (h:Nat):find (hp.map fun x=>(x.1,jme hp0 xs x.2)) h=(find hp h).map (jme hp0 xs):=by
 induction hp with
 |nil=>rfl
 |cons x r ih =>
  obtain⟨k,o⟩:=x
  simp only[List.map_cons,find]at *
  split
  ·rfl
  ·exact ih
theorem jym {xs:List XC} (hh:HRel ρ B hp nx w) (hn:∀h o,find hp h=some o→o.blk (ρ h)=none):HRel ρ B (hpQ xs hp) nx w:=by
 have key:∀h o',find (hpQ xs hp) h=some o'→∃o,find hp h=some o∧o'=jme hp xs o:=fun h o' hf=>by
  unfold hpQ at hf
  rw[jz0]at hf
  obtain⟨o,ho,rfl⟩:=Option.map_eq_some_iff.1 hf
  exact⟨o,ho,rfl⟩
 have nob:∀h o',find (hpQ xs hp) h=some o'→o'.blk (ρ h)=none:=fun h o' hf=>by
  obtain⟨o,ho,rfl⟩:=key h o' hf
  have:=hn h o ho
  unfold jme
  split
  ·split
   ·rfl
   ·exact this
  ·exact this
 refine⟨fun h o' hf=>?_,fun h o k o' b hf hf' _ hb=>?_,hh.glob⟩
 ·obtain⟨o,ho,rfl⟩:=key h o' hf
  obtain⟨q1,q2,q3⟩:=hh.ok h o ho
  unfold jme
  split
  ·split
   ·rename_i X hX
    exact⟨q1,trivial,jjL hh q3 hX⟩
   ·exact⟨q1,q2,q3⟩
  ·exact⟨q1,q2,q3⟩
 ·rw[nob h o hf]at hb
  cases hb
theorem jyn {α:Type} (hp:Hp) (k:Hp→α):fHp hp k=k hp:=by
 unfold fHp
 rw[ja6 fun x k=>by rw[jbx,jwG]]
theorem jB3 {h:Nat} {o:O} (hf:find (jfR hp) h=some o) (v:Value):o.blk v=none:=by
 rw[jp6]at hf
 obtain⟨o1,_,rfl⟩:=Option.map_eq_some_iff.1 hf
 exact jvn v o1
theorem jz1 (f:O→O) (hp:Hp) (h:Nat):find (hp.map fun x=>(x.1,f x.2)) h=(find hp h).map f:=by
 induction hp with
 |nil=>rfl
 |cons x r ih =>
  obtain⟨k,o⟩:=x
  simp only[List.map_cons,find]at *
  split
  ·rfl
  ·exact ih
theorem jyo {w':World} {ρ':Env} {B1:Kd} {hp1 hp':Hp} {nx1:Nat} (hh:HRel ρ B hp nx w) (hB:Old B w) (hbel:Below w.heap.size w w') (hag:jae nx ρ ρ') (hle:nx≤nx1) (h1:HRel ρ' B1 hp1 nx1 w') (hB1:∀k,¬B1.all k→w.heap.size≤k)
  (hs:∀h o,find hp' h=some o→((h<nx1∧o.ok ρ' B w' h∧o.lt nx1∧∀v,o.blk v=none)∨(find hp1 h=some o∧jeM o=true))∧nx≤h) :
  HRel ρ' B (hp' ++ hp) nx1 w'∧∀h o k,nx≤h→find (hp' ++ hp) h=some o→o.blk (ρ' h)=some k→w.heap.size≤k:=by
 have hold:=(hh.below hbel hB).agree hag
 have hBn:∀k,¬B1.all k→¬B.all k:=fun k hk hc=>by have:=hB k hc; have:=hB1 k hk; omega
 have new:∀h o k,find hp' h=some o→o.blk (ρ' h)=some k→w.heap.size≤k:=fun h o k hf hb=>by
  rcases(hs h o hf).1 with ⟨_,_,_,hn⟩|⟨hf1,_⟩
  ·rw[hn]at hb; cases hb
  ·exact hB1 k (O.blk_lt (h1.ok h o hf1).2.2 hb).2
 have oldlt:∀h o k,find hp h=some o→o.blk (ρ' h)=some k→k<w.heap.size:=fun h o k hf hb=>by
  have q:=hh.ok h o hf
  rw[hag h q.1]at hb
  exact(O.blk_lt q.2.2 hb).1
 have part:∀h o,find (hp' ++ hp) h=some o→find hp' h=some o∨find hp h=some o:=fun h o hf=>by
  rw[jnK]at hf
  cases hq:find hp' h with
  |some o1=>simp only[hq]at hf; exact .inl hf
  |none=>simp only[hq]at hf; exact .inr hf
 refine⟨⟨fun h o hf=>?_,fun h o h' o' k hf hf' hne hb hb'=>?_,hold.glob⟩,fun h o k hn hf hb=>?_⟩
 ·rcases part h o hf with hq|hq
  ·rcases(hs h o hq).1 with ⟨hlt,q1,q2,_⟩|⟨hf1,hk⟩
   ·exact⟨hlt,q2,q1⟩
   ·have q:=h1.ok h o hf1
    exact⟨q.1,q.2.1,jvo hk q.2.2 hBn⟩
  ·have q:=hold.ok h o hq
   exact⟨Nat.lt_of_lt_of_le q.1 hle,O.lt_mono hle q.2.1,q.2.2⟩
 ·rcases part h o hf with hq|hq<;>rcases part h' o' hf' with hq' | hq'
  ·rcases(hs h o hq).1 with ⟨_,_,_,hn⟩|⟨hf1,_⟩
   ·rw[hn]at hb; cases hb
   rcases(hs h' o' hq').1 with ⟨_,_,_,hn⟩|⟨hf1',_⟩
   ·rw[hn]at hb'; cases hb'
   exact h1.apart h o h' o' k hf1 hf1' hne hb hb'
  ·have:=new h o k hq hb
   have:=oldlt h' o' k hq' hb'
   omega
  ·have:=oldlt h o k hq hb
   have:=new h' o' k hq' hb'
   omega
  ·exact hold.apart h o h' o' k hq hq' hne hb hb'
 ·rcases part h o hf with hq|hq
  ·exact new h o k hq hb
  ·have:=(hh.ok h o hq).1
   omega
theorem juC {α:Type} {a b:List α} (h:a++b=b):a=[]:=by
 have:=congrArg List.length h
 rw[List.length_append]at this
 exact List.length_eq_zero_iff.1 (by omega)
theorem jA4 {f:Nat} {xs:List XC} {shs:List SV} {g0:List Lf→Option GT} {g:List Lf→Option (List RR)} (hs:jaf P f true (jag shs g0))
  (hg:∀ls rs,g ls=some rs→∃t,g0 ls=some t∧t.sel.2=rs∧t.sel.1):jaf P f true (je3 xs shs g):=by
 have key:∀args hp nx t,je3 xs shs g args hp nx=some t→∃(t0:RT) (b:Rw),jag shs g0 (args.map (jgX hp)) (hpQ xs (jfR hp)) nx=some t0∧t0.sel.ob∧t0.sel.v=jaX b.ws∧t0.sel.hp=b.hp++hpQ xs (jfR hp)∧t0.sel.nx=b.n ∧
   t=.leaf ⟨True,jaX b.ws,jlJ b.hp++hp,b.n⟩∧(jlJ b.hp).all (fun x=>Nat.ble nx x.1)=true:=by
  intro args hp nx t h
  unfold je3 at h
  split at h
  ·rename_i ls am hto
   split at h
   ·rename_i rs hrs
    obtain⟨t0,h0,h1,h2⟩:=hg ls rs hrs
    rw[jc1,jyn,jbx]at h
    split at h
    ·rename_i hall
     cases h
     refine⟨t0.toRT am (hpQ xs (jfR hp)) nx,jb7 am rs nx,?_,?_,?_,?_,?_,rfl,hall⟩
     ·unfold jag
      rw[hto]
      simp only[h0]
     all_goals rw[jbu]
     ·exact h2
     all_goals rw[←h1]
    ·cases h
   ·cases h
  ·cases h
 have rel:∀{ρ:Env} {B:Kd} {w:World} {hp:Hp} {nx:Nat},HRel ρ B hp nx w→Old B w→HRel ρ (kd fun k=>k<w.heap.size) (hpQ xs (jfR hp)) nx w:=fun hh hB =>
  jym (jyj hh hB) fun h o hf=>jB3 hf _
 rcases hs with hs|hs
 ·refine .inl ⟨hs.enter,fun ρ B w args hp nx t hS hob hlt hh hB=>?_⟩
  obtain⟨t0,b,h0,h1,h2,h3,h4,rfl,h5⟩:=key args hp nx t hS
  obtain⟨ha1,ha2⟩:=jgd hh hlt
  have hc:=hs.sound ρ (kd fun k=>k<w.heap.size) w _ _ nx t0 h0 h1 ha2 (rel hh hB) (fun k hk=>jbD.1 hk)
  rw[ha1]at hc
  refine hc.mono ?_
  rintro e w' ⟨ρ',rfl,hL⟩
  obtain⟨B1,gB,q4⟩:=hL.heap
  have hbel:Below w.heap.size w w':=hL.mono rfl
  have hB1:∀k,¬B1.all k→w.heap.size≤k:=fun k hk=>Nat.le_of_not_lt fun hlt=>hk (.inl (gB.le.kp k hlt))
  have hall:=List.all_eq_true.1 h5
  rw[h3,h4]at q4
  obtain⟨r1,r2⟩:=jyo (hp':=jlJ b.hp) hh hB hbel hL.agree (by have:=hL.le; rw[h4]at this; exact this) q4 hB1 fun h o hf=>by
   have hn:=Nat.le_of_ble_eq_true (hall _ (ji1 hf))
   unfold jlJ at hf
   rw[jz1]at hf
   obtain⟨o1,ho1,rfl⟩:=Option.map_eq_some_iff.1 hf
   have hfa:find (b.hp++hpQ xs (jfR hp)) h=some o1:=by rw[jnK,ho1]
   refine⟨?_,hn⟩
   unfold jAD
   split
   ·rename_i hk; exact .inr ⟨hfa,hk⟩
   ·refine .inl ⟨(q4.ok h o1 hfa).1,?_⟩
    split
    ·exact⟨trivial,trivial,fun _=>rfl⟩
    ·rename_i hnd
     refine⟨?_,trivial,fun _=>rfl⟩
     have h1:C.one (b.hp++hpQ xs (jfR hp)) (.o h)=true:=by
      unfold C.one
      simp only[hfa]
     exact C.one_val q4 h1
  refine⟨ρ',by rw[h2]; rfl,hL.agree,?_,?_,HRel.gr r1,jcc hbel hB,fun _=>hbel,fun _=>r2⟩
  ·have:=hL.lt
   rw[h2,h4]at this
   exact this
  ·have:=hL.le
   rw[h4]at this
   exact this
 ·refine .inr fun ρ B w args hp nx t hS hob hlt hh hB=>?_
  obtain⟨t0,b,h0,h1,h2,h3,h4,rfl,h5⟩:=key args hp nx t hS
  obtain⟨ha1,ha2⟩:=jgd hh hlt
  obtain⟨ob,v,e1,e2,e3⟩:=hs ρ (kd fun k=>k<w.heap.size) w _ _ nx t0 h0 h1 ha2 (rel hh hB) (fun k hk=>jbD.1 hk)
  rw[e1]at h2 h3 h4
  have hb:=juC h3.symm
  rw[hb]
  have hv:v=jaX b.ws:=h2
  refine⟨True,v,?_,e2,by rw[←ha1]; exact e3⟩
  show Res.mk _ _ _ _=_
  rw[hv,←h4]
  rfl
theorem jyp {xs:List XC} {shs:List SV} {g:List Lf→Option (List RR)} {args:List V} {t:RT} (h:je3 xs shs g args hp nx=some t):t.sel.ob:=by
 unfold je3 at h
 split at h
 ·split at h
  ·rw[jc1,jyn,jbx]at h
   split at h
   ·cases h; trivial
   ·cases h
  ·cases h
 ·cases h
end
end Go.Sx
end

section
open Go.RowKit
namespace Go.Sx
def jho:Code→List Code
 | .seq a b=>jho a++jho b
 |c=>[c]
section
variable [Globs] {P:Program} {sp:jaa}
noncomputable def cxL (P:Program) (sp:jaa) (N fuel:Nat):List Code→St→Option (Ex × St)
 |[],st=>some (.normal,st)
 |c::l,st=>jcJ (cx P sp N fuel c st) (cxL P sp N fuel l)
theorem jz2 (r:Option (Ex × St)):jcJ r (fun st=>some (.normal,st))=r:=by
 unfold jcJ
 split<;>rfl
theorem juD (r:Option (Ex × St)) (f g:St→Option (Ex × St)):jcJ (jcJ r f) g=jcJ r fun st=>jcJ (f st) g:=by
 unfold jcJ
 cases r with
 |none=>rfl
 |some x =>
  obtain⟨e,st⟩:=x
  cases e<;>rfl
theorem jo8 {N fuel:Nat}:∀(l l2:List Code) (st:St),cxL P sp N fuel (l++l2) st=jcJ (cxL P sp N fuel l st) (cxL P sp N fuel l2)
 |[],l2,st=>rfl
 |c::l,l2,st=>by
  simp only[List.cons_append,cxL]
  rw[juD]
  congr 1
  funext s
  exact jo8 l l2 s
theorem jvp {N fuel:Nat} (c:Code) (st:St):cxL P sp N fuel [c] st=cx P sp N fuel c st:=jz2 _
theorem jA5 {N fuel:Nat} (c:Code):∀st:St,cxL P sp N fuel (jho c) st=cx P sp N fuel c st:=by
 induction c with
 |seq a b iha ihb =>
  intro st
  simp only[jho]
  rw[jo8,iha]
  show jcJ (cx P sp N fuel a st) _=jcJ (cx P sp N fuel a st) (cx P sp N fuel b)
  congr 1
  funext s
  exact ihb s
 |_=>exact fun st=>jvp _ st
theorem jd5 {N fuel:Nat} {c:Code} {l:List Code} {st st':St} {r:Option (Ex × St)} (h:cx P sp N fuel c st=some (.normal,st')) (hl:cxL P sp N fuel l st'=r):cxL P sp N fuel (c::l) st=r:=by
 simp only[cxL,h,jcJ]
 exact hl
theorem jyq {f fuel:Nat} {fn:Func} {body:Code} {x:D} {e:Ex} {st:St} {g:List Lf→Option GT} (hm:P.follows .mixedOrders=true) (hsp:jac P sp) (hfr:jbN sp) (hf:P.funcs[f]?=some fn) (hb:fn.body=some body) (hn:(fn.name == "runtime.NumGoroutine")=false)
  (hcx:cxL P sp fn.ntmps fuel (jho body) ⟨[],[],0⟩=some (e,st)) (he:∀j,e≠.exit j) (hl:jdv P st fn.results.toList=some [.c (.d x)])
  (hg:∀ls t,g ls=some t→ls=[]∧∃ob,t=.leaf ob [.c (.d x)]):jaf P f true (jag [] g):=by
 refine jsU hf hb hn fun ls t h=>?_
 obtain⟨rfl,ob,rfl⟩:=hg ls t h
 refine⟨ob,x,rfl,fun _ b hbl ρ w hh=>?_⟩
 simp only[jfe,Option.some.injEq]at hbl
 subst hbl
 rw[jA5]at hcx
 have hc:=jnJ (f:=f) (args:=[]) (B:=kd fun k=>k<w.heap.size) (ρ:=ρ) (w:=w) hsp hfr (fun ρ w=>jcm hm hsp) hf hb (Nat.zero_le _) hcx he hl (fun _ h=>by cases h) hh (fun k hk=>jbD.1 hk)
 refine hc.mono ?_
 rintro e' w' ⟨ρ',rfl,q2,q3,q4,q5⟩
 exact⟨rfl,Bel.below q5⟩
end
end Go.Sx
end

section
open Go Go.RowKit
namespace Go.Sx
section
variable [Globs] {P:Program} {sp:jaa} {ρ ρ0:Env} {B:Kd} {nx N n0:Nat} {hp:Hp} {w w0:World} {st:St} {a:Act} {ds:List Deferred}
theorem jB4 {o:Oper} {t yt:TypeId} {x:Operand} {u:V} {aa:Option Addr} {n cap:Nat} {K:Act→World→Prop} {Q:Exit→Act→World→Prop} (hop:o.op=.binOp .eql t x (.const (.slice none 0 0)) yt) (hd:jb5 N o.dst=true) (hit:jlW P t=true)
  (hx:jb6 st x=some u) (hv:u.val ρ=.slice aa n cap) (hr:RelD ds ρ B N n0 st a w)
  (hK:RelD ds ρ B N n0 (st.put o.dst ⟨True,vb aa.isNone,st.hp,st.nx⟩) (a.put o.dst (.bool aa.isNone)) w→K (a.put o.dst (.bool aa.isNone)) w):o.wp P a w K Q:=by
 obtain⟨ms,hms⟩:∃ms,P.underlying t=some (.slice ms):=by
  unfold jlW at hit
  split at hit
  ·rename_i ms h'; exact⟨ms,h'⟩
  ·cases hit
 have h1:=hr.reads _ _ hx
 have e1:a.eval x=.slice aa n cap:=by rw[h1.2,hv]
 have e2:a.eval (.const (.slice none 0 0))=.slice none 0 0:=rfl
 have heq:(Op.equal t (.slice aa n cap) (.slice none 0 0)).run P w=.ok aa.isNone w:=by
  unfold Op.equal
  rw[show Op.maxDepth=9999+1 from rfl,Op.equalIn]
  cases aa<;>simp only[Sem.run_bind,run_underlying hms,Result.andThen_ok,Sem.run_pure]<;>rfl
 have hg:(eqGuard .eql t x (.const (.slice none 0 0)) (.slice aa n cap) (.slice none 0 0)).run P w=.ok () w:=by
  cases x<;>rfl
 have hb:(binOp .eql t (.slice aa n cap) (.slice none 0 0)).run P w=.ok (.bool aa.isNone) w:=by
  simp only[binOp,Sem.run_bind,heq,Result.andThen_ok,Sem.run_pure]
 have hrun:(execOp a.eval o).run P w=.ok (.value (.bool aa.isNone)) w:=by
  unfold execOp
  simp only[hop,e1,e2,Sem.run_bind,hg,hb,Result.andThen_ok,Sem.run_pure]
 obtain⟨B1,g,hh⟩:=hr.heap
 have hl:Left ρ B1 st.nx w ⟨True,vb aa.isNone,st.hp,st.nx⟩ false ρ w:=⟨jae.refl _ _,trivial,Nat.le_refl _,⟨B1,Grow.refl _ _ _ _,hh⟩,Bel.refl _ _,(fun h=>by cases h),fun h=>by cases h⟩
 have:=hr.put1 (o:=o) g hd hl
 unfold Oper.wp
 rw[hrun]
 exact hK this
theorem juE {f:Nat} {fn:Func} {body:Code} {args:List V} {hp0:Hp} {nx0:Nat} {post:V→Hp→Nat→Prop}
  (hf:P.funcs[f]?=some fn) (hb:fn.body=some body) (hlen:args.length≤fn.ntmps)
  (hlt:∀x∈args,V.lt nx0 x) (hn0:n0≤nx0) (ρ:Env) (w:World) (hh:HRel ρ B hp0 nx0 w) (hB:Old B w)
  (h:∀a:Act,Rel ρ B fn.ntmps n0 ⟨jci 0 args,hp0,nx0⟩ a w→body.wp P (Qx [] ρ B fn.ntmps n0 w (jdR P fn.results.toList post)) a w) :
  Calls P f (args.map (V.val ρ)).toArray w fun e w'=>∃ρ' v hp' nx',e=.returned (v.val ρ')∧v.lt nx'∧jae n0 ρ ρ'∧(∃B',Grow B B' false w' w'∧HRel ρ' B' hp' nx' w')∧Bel B w w'∧Old B w'∧post v hp' nx':=by
 refine calls_of_wp hf hb ?_
 have hrel:=jfv (n0:=n0) hlen hlt hn0 ρ w hh hB
 refine wp_mono (h _ hrel) ?_
 rintro e a' w' ⟨x,ρ',st',rfl,hk,hr',hag',hbl'⟩
 have fin:∀l:List (Prop × W),jen P st' fn.results.toList=some l→jij l (post (jaX (l.map (·.2))) st'.hp st'.nx) →
   a'.defers=[]∧∃v,(results fn a'.tmps).run P w'=.ok v w'∧∃ρ' v' hp' nx',Ending.returned v=.returned (v'.val ρ')∧v'.lt nx'∧jae n0 ρ ρ'∧(∃B',Grow B B' false w' w'∧HRel ρ' B' hp' nx' w')∧Bel B w w'∧Old B w'∧post v' hp' nx':=by
  intro l hl ho
  have hra:=jf1 hr' _ l _ hl ho
  refine⟨hr'.defers,(jaX (l.map (·.2))).val ρ',?_,ρ',jaX (l.map (·.2)),st'.hp,st'.nx,rfl,jeL (fun y hy=>?_),hag',hr'.heap,hbl',hr'.le,hra.2.2⟩
  ·rw[jcC]
   simp only[ji2,Array.mapM_eq_mapM_toList,Sem.run_bind,Sem.run_map,hra.1,Result.andThen_ok,Sem.run_pure,List.map_map]
   rfl
  ·obtain⟨z,hz,rfl⟩:=List.mem_map.1 hy
   exact hra.2.1 z hz
 cases x with
 |normal =>
  simp only[jdR]at hk
  split at hk
  ·rename_i l hl
   exact fin l hl hk
  ·exact hk.elim
 |exit j=>exact hk.elim
 |ret =>
  simp only[jdR]at hk
  split at hk
  ·rename_i l hl
   exact fin l hl hk
  ·exact hk.elim
theorem jyr {f:Nat} {fn:Func} {body:Code} {shs:List SV} {g:List Lf→Option GT} (hf:P.funcs[f]?=some fn) (hb:fn.body=some body) (hn:(fn.name == "runtime.NumGoroutine")=false)
  (h:∀ls t,g ls=some t→t.sel.1→∀b:Bv,jfe shs 0 ls=some b→(∀x∈b.vs,V.lt b.n x)→∀ρ w,HRel ρ (kd fun k=>k<w.heap.size) b.hp b.n w→Old (kd fun k=>k<w.heap.size) w →
   Calls P f (b.vs.map (V.val ρ)).toArray w fun e w'=>∃ρ' v hp' nx',e=.returned (v.val ρ')∧v.lt nx'∧jae b.n ρ ρ'∧(∃B',Grow (kd fun k=>k<w.heap.size) B' false w' w'∧HRel ρ' B' hp' nx' w')∧Bel (kd fun k=>k<w.heap.size) w w'∧Old (kd fun k=>k<w.heap.size) w'∧jkS b.n t.sel.2 v hp') :
  jaf P f true (jag shs g):=by
 refine .inl ⟨jcF hf hb hn,fun ρ B w args hp nx t hS hob hlt hh hB=>?_⟩
 unfold jag at hS
 split at hS
 ·rename_i ls am hto
  split at hS
  ·rename_i t' hg
   cases hS
   rw[jbu]at hob ⊢
   have hob:t'.sel.1:=hob
   obtain⟨b,ρ0,hbl,q⟩:=jhe hh hB shs args ls am hto hlt 0 (fun _=>undef) []
   rw[List.append_nil]at hbl
   have hbn:b.n=am.length:=by have:=q.nn; omega
   have hh0:HRel ρ0 (kd fun k=>k<w.heap.size) b.hp b.n w:=by
    refine⟨fun x o hf=>?_,fun x o x' o' k hf hf' _ hb=>?_,jji hh.glob hB⟩
    ·obtain⟨_,a2,a3,a4,_⟩:=q.heap x o hf
     exact⟨a2,a3,a4⟩
    ·obtain⟨_,_,_,_,a5⟩:=q.heap x o hf
     rw[a5]at hb
     cases hb
   have hcalls:=h ls t' hg hob b hbl q.lt ρ0 w hh0 (fun k hk=>jbD.1 hk)
   rw[q.val]at hcalls
   refine hcalls.mono ?_
   rintro e w' ⟨ρ',v,hp',nx',rfl,hvlt,hag,⟨Bc,gB,hh'⟩,hbel,hold,hfit⟩
   have hbw:Below w.heap.size w w':=hbel.below
   have hBc:Old Bc w':=gB.old hold
   have hfr:∀k,Bc.fr k→w.heap.size≤k:=fun k hk=>by
    rcases gB.out k hk with h1|h1
    ·exact h1.elim
    ·exact Nat.le_of_not_lt h1
   have hmu:∀k,Bc.mu k≠none→w.heap.size≤k:=fun k hk=>Nat.le_of_not_lt fun hlt=>hk (Bc.dis k (gB.le.kp k hlt))
   let Bn:Kd:=⟨fun k=>B.kp k∨Bc.fr k,fun k=>B.fr k∨Bc.fr k,fun k=>match B.mu k with|some g=>some g|none=>Bc.mu k,fun k hk=>hk.imp (B.sub k) id,fun k hk=>by
    have h1:B.mu k=none:=by
     rcases hk with hk|hk
     ·exact B.dis k hk
     ·have h2:=hfr k hk
      cases hm2:B.mu k with
      |none=>rfl
      |some g=>exact absurd (hB k (.inr (by rw[hm2]; simp))) (Nat.not_lt_of_le h2)
    have h2:Bc.mu k=none:=by
     rcases hk with hk|hk
     ·exact Bc.dis k (gB.le.kp k (hB k (.inl hk)))
     ·exact Bc.dis k (Bc.sub k hk)
    show(match B.mu k with|some g=>some g|none=>Bc.mu k)=none
    rw[h1,h2]⟩
   have hmn:∀k,Bn.mu k=match B.mu k with|some g=>some g|none=>Bc.mu k:=fun _=>rfl
   have hBn:B.Le Bn:=⟨fun k hk=>.inl hk,fun k hk=>.inl hk⟩
   have hBm:B.LeM Bn:=fun k g hk=>by rw[hmn,hk]
   have hna:∀k,Bn.all k→B.all k∨(w.heap.size≤k∧Bc.all k):=fun k hk=>by
    rcases hk with (hk|hk)|hk
    ·exact .inl (.inl hk)
    ·exact .inr ⟨hfr k hk,.inl (Bc.sub k hk)⟩
    ·rw[hmn]at hk
     cases hm2:B.mu k with
     |none=>rw[hm2]at hk; exact .inr ⟨hmu k hk,.inr hk⟩
     |some g=>exact .inl (.inr (by rw[hm2]; simp))
   have gn:Grow B Bn true w w':=⟨hBn,fun k hk=>(hna k hk).imp id fun h=>hBc k h.2,fun k hk=>hk.imp id fun h hb=>absurd (hB k (.inl hb)) (Nat.not_lt_of_le (hfr k h)),fun _=>⟨fun k hk=>(hna k hk).imp id fun h=>h.1,hBm⟩⟩
   have hh1:HRel ρ Bn hp nx w':=(hh.below hbw hB).moreB hBn hBm fun h o k hf hk hb=>by
    have h1:=O.blk_lt (hh.ok h o hf).2.2 hk
    rcases hna k hb with hb|hb
    ·exact h1.2 hb
    ·exact absurd h1.1 (Nat.not_lt_of_le hb.1)
   obtain⟨ws,hws,hfw⟩:∃ws,(jaX ws).val ρ'=v.val ρ'∧jl5 b.n hp' t'.sel.2 ws []:=by
    match v,hfit with
    | .w u,hfit=>exact⟨[u],rfl,hfit⟩
    | .t [],hfit=>exact⟨[],rfl,hfit⟩
    | .t (x::y::l),hfit=>exact⟨x::y::l,rfl,hfit⟩
   have hin:CIn ρ ρ' Bn hp hp' nx w.heap.size b.n am w' []:=by
    refine⟨hh1,fun k o b hk hbk=>.inl (O.blk_lt (hh.ok k o hk).2.2 hbk).1,fun i hi=>?_⟩
    have hi2:i<am.length:=by omega
    have h1:=q.own i hi2
    rw[Nat.zero_add]at h1
    refine⟨?_,by rw[hag i hi]; exact h1.symm⟩
    have:am.getD i (.d (.v undef))=am[i]:=by simp[List.getD,hi2]
    rw[this]
    exact q.xlt _ (List.getElem_mem hi2)
   obtain⟨us2,ρ2,k⟩:=jjl (B:=Bn) (m:=w.heap.size) (fun k hk=>gB.le.kp k hk) (fun k hk=>(hna k hk).elim (fun h=>.inl (gB.le.kp k (hB k h))) (fun h=>h.2)) (fun k hk=>.inr hk) (fun k g hk=>by
    rw[hmn]
    cases hm2:B.mu k with
    |none=>exact hk
    |some g'=>exact absurd (hB k (.inr (by rw[hm2]; simp))) (Nat.not_lt_of_le (hmu k (by rw[hk]; simp)))) hh' t'.sel.2 ws [] hfw nx hp ρ hin
   refine⟨ρ2,?_,k.agree,jeL k.lt,k.le,⟨Bn,gn,k.heap⟩,jcc hbw hB,fun _=>hbw,fun _ h o b hle hf hbk=>?_⟩
   ·show Ending.returned _=Ending.returned ((jaX (jb7 am t'.sel.2 nx).ws).val ρ2)
    rw[←hws,jcC,jcC]
    simp only[k.val]
   ·have hf:find ((jb7 am t'.sel.2 nx).hp++hp) h=some o:=hf
    rw[jau]at hf
    cases hg2:find (jb7 am t'.sel.2 nx).hp h with
    |some o2=>rw[hg2]at hf; cases hf; exact k.fresh h o b hg2 hbk
    |none =>
     rw[hg2]at hf
     have:=(hh.ok h o hf).1
     omega
  ·cases hS
 ·cases hS
theorem jqG {o:Oper} {r:List Oper} {all:Array Oper} {Q:Exit→Act→World→Prop} (hg:o.guard=none) (h:o.wp P a w (fun a' w'=>wpList P all Q r a' w') Q):wpList P all Q (o::r) a w:=by
 unfold wpList
 rw[if_pos (by simp[Region.wanted,hg])]
 exact .inl h
def jo9:Code→Option (List Oper)
 | .region _ ops false=>some ops.toList
 |_=>none
theorem jz3 {c:Code} {l:List Oper} {Q:Exit→Act→World→Prop} (hc:jo9 c=some l) (h:wpList P l.toArray Q l a w):c.wp P Q a w:=by
 unfold jo9 at hc
 split at hc
 ·cases hc
  refine wp_region_list ?_
  simpa using h
 ·cases hc
theorem jys {fuel:Nat} {loops:jl1} {drawn:Array Oper→St→(St→Prop)→Prop} (hsp:jac P sp) (hdr:jgh P B N n0 ρ0 w0 drawn) {x y:Code} {cur:Nat} {gs:List Nat} {k:Ex→St→Prop}
  (h:sx P sp N n0 fuel loops drawn (.seq x y) cur gs st k) (hr:RelD ds ρ B N n0 st a w) (hag:jae n0 ρ0 ρ) (hbl:Bel B w0 w):x.wp P (Exit.then (y.wp P (Qx ds ρ0 B N n0 w0 k)) (Qx ds ρ0 B N n0 w0 k)) a w:=by
 unfold sx at h
 refine wp_mono (jbH hsp hdr x cur gs st _ ρ a w h hr hag hbl) ?_
 rintro e a' w' ⟨ex,ρ',st',rfl,hk,hr',hag',hbl'⟩
 cases ex with
 |normal=>exact jbH hsp hdr y cur gs st' k ρ' a' w' hk hr' hag' hbl'
 |exit j=>exact⟨.exit j,ρ',st',rfl,hk,hr',hag',hbl'⟩
 |ret=>exact⟨.ret,ρ',st',rfl,hk,hr',hag',hbl'⟩
def jB5 (P:Program) (sp:jaa) (N:Nat) (R1 CD:Code) (o1 o2:Oper) (x:Operand) (rs:List ResultVar) (c:Cont) (post:List RR):Prop :=
 sx P sp N 1 1 (fun _ _ _=>none) (jc0 P sp N) R1 0 [] ⟨jci 0 [.w (.c (.o 0))],[(0,.ext c)],1⟩ fun ex st=>ex=.normal∧jgw P sp N o1 st fun st=>jb6 st x=some (.w (.c (.o 0))) ∧
  (Ob (c.n=0)→sx P sp N 1 1 (fun _ _ _=>none) (jc0 P sp N) CD 0 [] (st.put o2.dst ⟨True,vb true,st.hp,st.nx⟩) (jdR P rs fun v hp _=>jkS 1 post v hp)) ∧
  sx P sp N 1 1 (fun _ _ _=>none) (jc0 P sp N) CD 0 [] (st.put o2.dst ⟨True,vb false,st.hp,st.nx⟩) (jdR P rs fun v hp _=>jkS 1 post v hp)
theorem jnL {f:Nat} {fn:Func} {R1 R2 C D:Code} {o1 o2:Oper} {t yt:TypeId} {x:Operand} {c0:Cont} {g:List Lf→Option GT} (hm:P.follows .mixedOrders=true) (hsp:jac P sp) (hf:P.funcs[f]?=some fn) (hb:fn.body=some (.seq R1 (.seq (.seq R2 C) D))) (hn:(fn.name == "runtime.NumGoroutine")=false)
  (hlen:1≤fn.ntmps) (hR2:jo9 R2=some [o1,o2]) (hg1:o1.guard=none) (hg2:o2.guard=none) (hop:o2.op=.binOp .eql t x (.const (.slice none 0 0)) yt) (hd:jb5 fn.ntmps o2.dst=true) (hit:jlW P t=true)
  (hg:∀ls t,g ls=some t→∃c ob post,ls=[.r c]∧t=.leaf ob post∧(ob→jB5 P sp fn.ntmps R1 (.seq C D) o1 o2 x fn.results.toList c post)):jaf P f true (jag [.c (.r c0)] g):=by
 refine jyr hf hb hn fun ls t ht ho b hbl hlt ρ w hh hB=>?_
 obtain⟨c,ob,post,rfl,rfl,hv⟩:=hg ls t ht
 have hv:=hv ho
 simp only[jfe,jsm,jet,Option.map_some,jf6,Option.some.injEq]at hbl
 subst hbl
 have hh:HRel ρ (kd fun k=>k<w.heap.size) [(0,.ext c)] 1 w:=hh
 refine juE (args:=[.w (.c (.o 0))]) hf hb hlen hlt (Nat.le_refl _) ρ w hh hB fun a hr=>?_
 obtain⟨aa,cap,hval,hcap,hcell⟩:=(hh.ok 0 _ rfl).2.2.1
 refine wp_seq (wp_mono (jbH hsp (jcm hm hsp) R1 0 [] _ _ ρ a w hv hr (jae.refl _ _) (Bel.refl _ _)) ?_)
 rintro e a1 w1 ⟨ex,ρ1,st1,rfl,⟨rfl,hdo⟩,hr1,hag1,hbl1⟩
 refine wp_seq (wp_seq (jz3 hR2 (jqG hg1 (jel hsp hr1 hag1 hbl1 hdo fun ρ2 st2 a2 w2 hr2 hag2 hbl2 hk=>?_))))
 obtain⟨hx,hk1,hk2⟩:=hk
 have hval2:(V.w (.c (.o 0))).val ρ2=.slice aa c.n cap:=by
  show ρ2 0=_
  rw[hag2 0 (by omega)]
  exact hval
 refine jqG hg2 (jB4 (u:=.w (.c (.o 0))) hop hd hit hx hval2 hr2 fun hr3=>?_)
 have fin:C.wp P (Exit.then (D.wp P (Qx [] ρ (kd fun k=>k<w.heap.size) fn.ntmps 1 w (jdR P fn.results.toList fun v hp _=>jkS 1 post v hp))) (Qx [] ρ (kd fun k=>k<w.heap.size) fn.ntmps 1 w (jdR P fn.results.toList fun v hp _=>jkS 1 post v hp))) (a2.put o2.dst (.bool aa.isNone)) w2:=by
  cases aa with
  |none =>
   refine jys hsp (jcm hm hsp) (hk1 ⟨?_⟩) hr3 hag2 hbl2
   refine Nat.eq_zero_of_not_pos fun hn=>?_
   obtain⟨b,off,e,_⟩:=hcell hn
   cases e
  |some p=>exact jys hsp (jcm hm hsp) hk2 hr3 hag2 hbl2
 unfold wpList
 exact fin
end
end Go.Sx
end

section
namespace Go.Sh
open Go Go.Proofs Go.RowKit Go.Sx Go.Sx09
def cl1 (f:Func):Oper:=((jo9 (Sx09.sub [1,0,0] (Sx09.bodyOf f))).getD []).getD 0 default
def cl2 (f:Func):Oper:=((jo9 (Sx09.sub [1,0,0] (Sx09.bodyOf f))).getD []).getD 1 default
def jlK:List SV:=[.c (.r (.ints .i64 []))]
def jdw (l:List (Int)):Option (List (Int)):=if l.length*8≤140737488355328 then some l else none
def jgZ:List Lf→Option GT
 |[.r (.ints .i64 l)]=>some (.leaf (ok (jdw l)) [.c (.row 3 (.ints .i64 (val (jdw l))))])
 |_=>none
theorem jrn:jaf Tryz.prog 136 true (jag jlK jgZ):=by
 refine jnL (sp:=sp0) (fn:=Tryz.f136) (R1:=Sx09.sub [0] (Sx09.bodyOf Tryz.f136)) (R2:=Sx09.sub [1,0,0] (Sx09.bodyOf Tryz.f136)) (C:=Sx09.sub [1,0,1] (Sx09.bodyOf Tryz.f136)) (D:=Sx09.sub [1,1] (Sx09.bodyOf Tryz.f136)) (o1:=cl1 Tryz.f136) (o2:=cl2 Tryz.f136) (t:=31) (yt:=31) (x:=.tmp 3)
  mixed jar Tryz.func136 (by kernel_rfl) (by kernel_rfl) (Nat.le_of_ble_eq_true (by kernel_rfl)) (by kernel_rfl) (by kernel_rfl) (by kernel_rfl) (by kernel_rfl) (by kernel_rfl) (by kernel_rfl) fun ls t h=>?_
 unfold jgZ at h
 split at h
 ·rename_i l
  cases h
  refine⟨_,_,_,rfl,rfl,fun ho=>?_⟩
  have hl:l.length*8≤140737488355328:=by
   unfold ok jdw at ho
   split at ho
   ·assumption
   ·cases ho
  have hv:val (jdw l)=l:=by
   unfold jdw
   rw[if_pos hl]
   rfl
  rw[hv]
  refine Eq.mp (by kernel_rfl:(Ex.normal=Ex.normal∧some (V.w (W.c (Sx.C.o 0)))=some (V.w (W.c (Sx.C.o 0)))∧(Ob (l.length=0)→Ob True∧Ob (l.length=0)∧True)∧Ob ((([]:List (Int)).length+l.length)*8≤140737488355328∧([]:List (Int)).length+l.length≤9223372036854775807)∧Ob True∧Ob (([]:List (Int))++l=l)∧True)=_) ?_
  exact⟨rfl,rfl,fun h=>⟨⟨trivial⟩,h,trivial⟩,⟨by simp only[List.length_nil]; omega⟩,⟨trivial⟩,⟨rfl⟩,trivial⟩
 ·cases h
def jlL:List SV:=[.c (.r (.recs 5 []))]
def jdx (l:List (List Int)):Option (List (List Int)):=if l.length*40≤140737488355328 then some l else none
def jg0:List Lf→Option GT
 |[.r (.recs 5 l)]=>some (.leaf (ok (jdx l)) [.c (.row 148 (.recs 5 (val (jdx l))))])
 |_=>none
theorem jro:jaf Tryz.prog 137 true (jag jlL jg0):=by
 refine jnL (sp:=sp0) (fn:=Tryz.f137) (R1:=Sx09.sub [0] (Sx09.bodyOf Tryz.f137)) (R2:=Sx09.sub [1,0,0] (Sx09.bodyOf Tryz.f137)) (C:=Sx09.sub [1,0,1] (Sx09.bodyOf Tryz.f137)) (D:=Sx09.sub [1,1] (Sx09.bodyOf Tryz.f137)) (o1:=cl1 Tryz.f137) (o2:=cl2 Tryz.f137) (t:=116) (yt:=116) (x:=.tmp 3)
  mixed jar Tryz.func137 (by kernel_rfl) (by kernel_rfl) (Nat.le_of_ble_eq_true (by kernel_rfl)) (by kernel_rfl) (by kernel_rfl) (by kernel_rfl) (by kernel_rfl) (by kernel_rfl) (by kernel_rfl) fun ls t h=>?_
 unfold jg0 at h
 split at h
 ·rename_i l
  cases h
  refine⟨_,_,_,rfl,rfl,fun ho=>?_⟩
  have hl:l.length*40≤140737488355328:=by
   unfold ok jdx at ho
   split at ho
   ·assumption
   ·cases ho
  have hv:val (jdx l)=l:=by
   unfold jdx
   rw[if_pos hl]
   rfl
  rw[hv]
  refine Eq.mp (by kernel_rfl:(Ex.normal=Ex.normal∧some (V.w (W.c (Sx.C.o 0)))=some (V.w (W.c (Sx.C.o 0)))∧(Ob (l.length=0)→Ob True∧Ob (l.length=0)∧True)∧Ob ((([]:List (List Int)).length+l.length)*40≤140737488355328∧([]:List (List Int)).length+l.length≤9223372036854775807)∧Ob True∧Ob (([]:List (List Int))++l=l)∧True)=_) ?_
  exact⟨rfl,rfl,fun h=>⟨⟨trivial⟩,h,trivial⟩,⟨by simp only[List.length_nil]; omega⟩,⟨trivial⟩,⟨rfl⟩,trivial⟩
 ·cases h
def jlM:List SV:=[.c (.r (.recs 4 []))]
def jdy (l:List (List Int)):Option (List (List Int)):=if l.length*32≤140737488355328 then some l else none
def jg1:List Lf→Option GT
 |[.r (.recs 4 l)]=>some (.leaf (ok (jdy l)) [.c (.row 174 (.recs 4 (val (jdy l))))])
 |_=>none
theorem jrp:jaf Tryz.prog 144 true (jag jlM jg1):=by
 refine jnL (sp:=sp0) (fn:=Tryz.f144) (R1:=Sx09.sub [0] (Sx09.bodyOf Tryz.f144)) (R2:=Sx09.sub [1,0,0] (Sx09.bodyOf Tryz.f144)) (C:=Sx09.sub [1,0,1] (Sx09.bodyOf Tryz.f144)) (D:=Sx09.sub [1,1] (Sx09.bodyOf Tryz.f144)) (o1:=cl1 Tryz.f144) (o2:=cl2 Tryz.f144) (t:=158) (yt:=158) (x:=.tmp 3)
  mixed jar Tryz.func144 (by kernel_rfl) (by kernel_rfl) (Nat.le_of_ble_eq_true (by kernel_rfl)) (by kernel_rfl) (by kernel_rfl) (by kernel_rfl) (by kernel_rfl) (by kernel_rfl) (by kernel_rfl) fun ls t h=>?_
 unfold jg1 at h
 split at h
 ·rename_i l
  cases h
  refine⟨_,_,_,rfl,rfl,fun ho=>?_⟩
  have hl:l.length*32≤140737488355328:=by
   unfold ok jdy at ho
   split at ho
   ·assumption
   ·cases ho
  have hv:val (jdy l)=l:=by
   unfold jdy
   rw[if_pos hl]
   rfl
  rw[hv]
  refine Eq.mp (by kernel_rfl:(Ex.normal=Ex.normal∧some (V.w (W.c (Sx.C.o 0)))=some (V.w (W.c (Sx.C.o 0)))∧(Ob (l.length=0)→Ob True∧Ob (l.length=0)∧True)∧Ob ((([]:List (List Int)).length+l.length)*32≤140737488355328∧([]:List (List Int)).length+l.length≤9223372036854775807)∧Ob True∧Ob (([]:List (List Int))++l=l)∧True)=_) ?_
  exact⟨rfl,rfl,fun h=>⟨⟨trivial⟩,h,trivial⟩,⟨by simp only[List.length_nil]; omega⟩,⟨trivial⟩,⟨rfl⟩,trivial⟩
 ·cases h
end Go.Sh
end

section
namespace Go.Sh
open Go Go.Proofs Go.RowKit Go.Sx
def jg2:List Lf→Option (List RR)
 |[.d (.i .i64 l0),.d (.i .i64 l1),.d (.i .i64 l2),.d (.i .i64 l3),.d (.i .i64 l4),.d (.i .i64 l5),.d (.i .i64 l6),.d (.i .i64 l7),.d (.i .i64 l8),.d (.i .i64 l9),.d (.i .i64 l10),.d (.i .i64 l11),.d (.i .i64 l12),.d (.i .i64 l13),.d (.i .i64 l14),.d (.i .i64 l15),.d (.i .i64 l16),.d (.i .i64 l17),.d (.i .i64 l18),.d (.i .i64 l19),.d (.i .i64 l20),.d (.i .i64 l21),.d (.i .i64 l22),.d (.i .i64 l23),.d (.i .i64 l24),.d (.i .i64 l25),.d (.i .i64 l26),.d (.i .i64 l27),.d (.i .i64 l28),.d (.i .i64 l29),.d (.i .i64 l30),.d (.i .i64 l31)]=>match jfz l0 l1 l2 l3 l4 l5 l6 l7 l8 l9 l10 l11 l12 l13 l14 l15 l16 l17 l18 l19 l20 l21 l22 l23 l24 l25 l26 l27 l28 l29 l30 l31 with
  |some v=>some [.b .f32 32 (v)]
  |none=>none
 |_=>none
theorem jpa:∀ls rs,jg2 ls=some rs→∃t,jhA ls=some t∧t.sel.2=rs∧t.sel.1:=by
 intro ls rs h
 unfold jg2 at h
 split at h
 ·split at h
  ·rename_i v hv
   cases h
   exact⟨_,rfl,by simp only[GT.sel,hv]; rfl,jf7 hv⟩
  ·cases h
 ·cases h
def jd6:List Lf→Option (List RR)
 |[.d (.s r_graphEngineGraphName),.x (.st [.s,.i .i64,.ints .i64,.ints .i64,.ints .i64,.i .i64,.recs 5,.i .i64] r_graphEngineGraphUnits),.r (.ints .i64 r_graphorder),.d (.i .i64 r_beforeBlocks),.x (.ff .f32 r_beforePast),.x (.rr 4 r_beforeFilters),.r (.frs .f32 32 r_in),.r (.ints .i64 r_who),.r (.frs .f32 32 r_given),.x (.rr 4 r_after),.r (.ints .i64 r_cuts),.d (.s uName),.d (.i .i64 uKind),.r (.ints .i64 uFrom),.r (.ints .i64 uAlign),.r (.ints .i64 uGains),.d (.i .i64 uDelay),.r (.recs 5 uCascade),.d (.i .i64 uStand),.d (.i .i64 from_),.d (.i .i64 later)]=>match jai r_graphEngineGraphName r_graphEngineGraphUnits r_graphorder r_beforeBlocks r_beforePast r_beforeFilters r_in r_who r_given r_after r_cuts uName uKind uFrom uAlign uGains uDelay uCascade uStand from_ later with
  |some v=>some [.s [.d (.i .i64 (v.1)),.d (.i .i64 (v.2.1)),.d (.i .i64 (v.2.2.1)),.d (.i .i64 (v.2.2.2.1)),.d (.i .i64 (v.2.2.2.2.1)),.d (.i .i64 (v.2.2.2.2.2.1)),.d (.i .i64 (v.2.2.2.2.2.2.1)),.d (.i .i64 (v.2.2.2.2.2.2.2.1)),.d (.i .i64 (v.2.2.2.2.2.2.2.2.1)),.d (.i .i64 (v.2.2.2.2.2.2.2.2.2.1)),.d (.i .i64 (v.2.2.2.2.2.2.2.2.2.2.1)),.d (.i .i64 (v.2.2.2.2.2.2.2.2.2.2.2.1)),.d (.i .i64 (v.2.2.2.2.2.2.2.2.2.2.2.2.1)),.d (.i .i64 (v.2.2.2.2.2.2.2.2.2.2.2.2.2.1)),.d (.i .i64 (v.2.2.2.2.2.2.2.2.2.2.2.2.2.2.1)),.d (.i .i64 (v.2.2.2.2.2.2.2.2.2.2.2.2.2.2.2.1)),.d (.i .i64 (v.2.2.2.2.2.2.2.2.2.2.2.2.2.2.2.2.1)),.d (.i .i64 (v.2.2.2.2.2.2.2.2.2.2.2.2.2.2.2.2.2.1)),.d (.i .i64 (v.2.2.2.2.2.2.2.2.2.2.2.2.2.2.2.2.2.2.1)),.d (.i .i64 (v.2.2.2.2.2.2.2.2.2.2.2.2.2.2.2.2.2.2.2.1)),.d (.i .i64 (v.2.2.2.2.2.2.2.2.2.2.2.2.2.2.2.2.2.2.2.2.1)),.d (.i .i64 (v.2.2.2.2.2.2.2.2.2.2.2.2.2.2.2.2.2.2.2.2.2.1)),.d (.i .i64 (v.2.2.2.2.2.2.2.2.2.2.2.2.2.2.2.2.2.2.2.2.2.2.1)),.d (.i .i64 (v.2.2.2.2.2.2.2.2.2.2.2.2.2.2.2.2.2.2.2.2.2.2.2.1)),.d (.i .i64 (v.2.2.2.2.2.2.2.2.2.2.2.2.2.2.2.2.2.2.2.2.2.2.2.2.1)),.d (.i .i64 (v.2.2.2.2.2.2.2.2.2.2.2.2.2.2.2.2.2.2.2.2.2.2.2.2.2.1)),.d (.i .i64 (v.2.2.2.2.2.2.2.2.2.2.2.2.2.2.2.2.2.2.2.2.2.2.2.2.2.2.1)),.d (.i .i64 (v.2.2.2.2.2.2.2.2.2.2.2.2.2.2.2.2.2.2.2.2.2.2.2.2.2.2.2.1)),.d (.i .i64 (v.2.2.2.2.2.2.2.2.2.2.2.2.2.2.2.2.2.2.2.2.2.2.2.2.2.2.2.2.1)),.d (.i .i64 (v.2.2.2.2.2.2.2.2.2.2.2.2.2.2.2.2.2.2.2.2.2.2.2.2.2.2.2.2.2.1)),.d (.i .i64 (v.2.2.2.2.2.2.2.2.2.2.2.2.2.2.2.2.2.2.2.2.2.2.2.2.2.2.2.2.2.2.1)),.d (.i .i64 (v.2.2.2.2.2.2.2.2.2.2.2.2.2.2.2.2.2.2.2.2.2.2.2.2.2.2.2.2.2.2.2))]]
  |none=>none
 |_=>none
theorem jkc:∀ls rs,jd6 ls=some rs→∃t,jex ls=some t∧t.sel.2=rs∧t.sel.1:=by
 intro ls rs h
 unfold jd6 at h
 split at h
 ·split at h
  ·rename_i v hv
   cases h
   exact⟨_,rfl,by simp only[GT.sel,hv]; rfl,jf7 hv⟩
  ·cases h
 ·cases h
def jjM:List Lf→Option (List RR)
 |[.d (.s gName),.x (.st [.s,.i .i64,.ints .i64,.ints .i64,.ints .i64,.i .i64,.recs 5,.i .i64] gUnits),.r (.ints .i64 order),.d (.i .i64 i),.r (.bools placed)]=>match jcS gUnits i placed with
  |some v=>some [.c (.d (.b v))]
  |none=>none
 |_=>none
theorem jrq:∀ls rs,jjM ls=some rs→∃t,jhj ls=some t∧t.sel.2=rs∧t.sel.1:=by
 intro ls rs h
 unfold jjM at h
 split at h
 ·split at h
  ·rename_i v hv
   cases h
   exact⟨_,rfl,by simp only[GT.sel,hv]; rfl,jf7 hv⟩
  ·cases h
 ·cases h
def jd7:List Lf→Option (List RR)
 |[.d (.s r_graphEngineGraphName),.x (.st [.s,.i .i64,.ints .i64,.ints .i64,.ints .i64,.i .i64,.recs 5,.i .i64] r_graphEngineGraphUnits),.r (.ints .i64 r_graphorder),.d (.i .i64 r_beforeBlocks),.x (.ff .f32 r_beforePast),.x (.rr 4 r_beforeFilters),.r (.frs .f32 32 r_in),.r (.ints .i64 r_who),.r (.frs .f32 32 r_given),.x (.rr 4 r_after),.r (.ints .i64 r_cuts)]=>match jcb r_graphEngineGraphName r_graphEngineGraphUnits r_graphorder r_beforeBlocks r_beforePast r_beforeFilters r_in r_who r_given r_after r_cuts with
  |some v=>some [.s [.d (.i .i64 (v.1)),.x 157 (.ff .f32 (v.2)),.g 8]]
  |none=>none
 |_=>none
theorem jkd:∀ls rs,jd7 ls=some rs→∃t,jez ls=some t∧t.sel.2=rs∧t.sel.1:=by
 intro ls rs h
 unfold jd7 at h
 split at h
 ·split at h
  ·rename_i v hv
   cases h
   exact⟨_,rfl,by simp only[GT.sel,hv]; rfl,jf7 hv⟩
  ·cases h
 ·cases h
def jfS:List Lf→Option (List RR)
 |[.r (.ints .i64 l)]=>match jdw l with
  |some v=>some [.c (.row 3 (.ints .i64 v))]
  |none=>none
 |_=>none
theorem jnM:∀ls rs,jfS ls=some rs→∃t,jgZ ls=some t∧t.sel.2=rs∧t.sel.1:=by
 intro ls rs h
 unfold jfS at h
 split at h
 ·split at h
  ·rename_i v hv
   cases h
   exact⟨_,rfl,by simp only[GT.sel,hv]; rfl,jf7 hv⟩
  ·cases h
 ·cases h
def jfT:List Lf→Option (List RR)
 |[.r (.recs 5 l)]=>match jdx l with
  |some v=>some [.c (.row 148 (.recs 5 v))]
  |none=>none
 |_=>none
theorem jnN:∀ls rs,jfT ls=some rs→∃t,jg0 ls=some t∧t.sel.2=rs∧t.sel.1:=by
 intro ls rs h
 unfold jfT at h
 split at h
 ·split at h
  ·rename_i v hv
   cases h
   exact⟨_,rfl,by simp only[GT.sel,hv]; rfl,jf7 hv⟩
  ·cases h
 ·cases h
def jfU:List Lf→Option (List RR)
 |[.r (.recs 4 l)]=>match jdy l with
  |some v=>some [.c (.row 174 (.recs 4 v))]
  |none=>none
 |_=>none
theorem jnO:∀ls rs,jfU ls=some rs→∃t,jg1 ls=some t∧t.sel.2=rs∧t.sel.1:=by
 intro ls rs h
 unfold jfU at h
 split at h
 ·split at h
  ·rename_i v hv
   cases h
   exact⟨_,rfl,by simp only[GT.sel,hv]; rfl,jf7 hv⟩
  ·cases h
 ·cases h
end Go.Sh
end

section
namespace Go.Sh
open Go Go.Proofs Go.RowKit Go.Sx
def jB6:Nat→Bool
 |22|42|75|76|98|138=>true
 |_=>false
abbrev jbl:Globs:={ tab:=fun _=>none,nestL:=jB6 }
def xsR:List XC:=[.st [.s,.i .i64,.ints .i64,.ints .i64,.ints .i64,.i .i64,.recs 5,.i .i64] [],.rr 4 [],.ff .f32 []]
noncomputable def ovE:jaa:=fun f=>match f with
 |146=>some (true,je3 [] jhz jg2)
 |148=>some (true,je3 xsR jew jd6)
 |106=>some (true,je3 xsR jey jd7)
 |136=>some (true,je3 [] jlK jfS)
 |137=>some (true,je3 [] jlL jfT)
 |144=>some (true,je3 [] jlM jfU)
 |85=>some (true,je3 xsR jlo jjM)
 |_=>none
def roE:Nat→Bool
 |76|77|78|84|160|165|176|177|180|164|175|172|149|122|123|124|125|126|127|128|129|134|140|156|157|158|159|89|24|133|93|94|99|145|146|147|148|104|105|135|136|137|144=>true
 |_=>false
theorem jg3 {f:Nat} {xs:List XC} {shs:List SV} {g0:List Lf→Option GT} {g:List Lf→Option (List RR)} (hs:jaf Tryz.prog f true (jag shs g0))
  (hg:∀ls rs,g ls=some rs→∃t,g0 ls=some t∧t.sel.2=rs∧t.sel.1):@jaf jbl Tryz.prog f true (je3 xs shs g) :=
 @jA4 jbl _ _ _ _ _ _ (jqF globs jbl rfl rfl hs) hg
theorem jyt:@jac jbl Tryz.prog ovE:=fun f M S h=>by
 unfold ovE at h
 split at h<;>cases h
 ·exact jg3 jsu jpa
 ·exact jg3 jnA jkc
 ·exact jg3 jnD jkd
 ·exact jg3 jrn jnM
 ·exact jg3 jro jnN
 ·exact jg3 jrp jnO
 ·exact jg3 joM jrq
theorem jtg:jbN ovE:=fun f M S args hp nx t h hS=>by
 unfold ovE at h
 split at h<;>cases h<;>exact jyp hS
noncomputable def dpE:jaa:=@jnH jbl Tryz.prog ovE roE 200 20
theorem jB7:@jac jbl Tryz.prog dpE:=(@jp7 jbl _ _ _ _ mixed jyt jtg 20).1
theorem jz4:jbN dpE:=(@jp7 jbl _ _ _ _ mixed jyt jtg 20).2
noncomputable def jhp (c:Code) (st:St):Option (Ex × St):=@cx jbl Tryz.prog dpE Tryz.f16.ntmps 200 c st
noncomputable def pcE (n:Nat):Code:=(jho (Tryz.f16.body.getD .skip)).getD n .skip
abbrev aO (h:Nat):V:=.w (.c (.o h))
abbrev aN:C:=.d (.v (.slice none 0 0))
abbrev aI (n:Int):C:=.d (.i .i64 n)
abbrev aR (l:List Int):O:=.row 3 (.ints .i64 l)
abbrev aH0:Nat × O:=(56,aR [0,1,2,3])
abbrev aH1:Nat × O:=(8,(.lbox 118 8 4 [(.d (.s ⟨#[109,105,99]⟩)),(aI 0),aN,aN,aN,(aI 0),aN,(aI (-1)),(.d (.s ⟨#[100]⟩)),(aI 2),(.o 1),(.o 2),aN,(aI 3),aN,(aI (-1)),(.d (.s ⟨#[109,105,120]⟩)),(aI 1),(.o 3),(.o 4),(.o 5),(aI 0),aN,(aI (-1)),(.d (.s ⟨#[111,117,116]⟩)),(aI 4),(.o 6),(.o 7),aN,(aI 0),aN,(aI (-1))]))
abbrev aH2:Nat × O:=(5,aR [500,1000])
abbrev aH3:Nat × O:=(4,aR [0,0])
abbrev aH4:Nat × O:=(3,aR [0,1])
abbrev aH5:Nat × O:=(165,aR [0,2])
abbrev aH6:Nat × O:=(65,(.lbox 118 8 4 [(.d (.s ⟨#[109,105,99]⟩)),(aI 0),aN,aN,aN,(aI 0),aN,(aI (-1)),(.d (.s ⟨#[100]⟩)),(aI 2),(.o 58),(.o 59),aN,(aI 3),aN,(aI (-1)),(.d (.s ⟨#[109,105,120]⟩)),(aI 1),(.o 60),(.o 61),(.o 62),(aI 0),aN,(aI (-1)),(.d (.s ⟨#[111,117,116]⟩)),(aI 4),(.o 63),(.o 64),aN,(aI 0),aN,(aI (-1))]))
abbrev aH7:Nat × O:=(62,aR [500,1000])
abbrev aH8:Nat × O:=(61,aR [0,0])
abbrev aH9:Nat × O:=(60,aR [0,1])
abbrev jth:Nat × O:=(259,(.box 24 [(.d (.s ⟨#[112]⟩)),(.o 240)]))
abbrev jti:Nat × O:=(254,aR [0])
abbrev jtj:Nat × O:=(250,aR [3,0])
abbrev jtk:Nat × O:=(246,aR [0])
abbrev jtl:Nat × O:=(240,(.lbox 118 8 4 [(.d (.s ⟨#[109,105,99]⟩)),(aI 0),(.o 241),(.o 242),(.o 243),(aI 0),(.o 244),(aI (-1)),(.d (.s ⟨#[100]⟩)),(aI 2),(.o 245),(.o 246),(.o 247),(aI 3),(.o 248),(aI (-1)),(.d (.s ⟨#[109,105,120]⟩)),(aI 1),(.o 249),(.o 250),(.o 251),(aI 0),(.o 252),(aI (-1)),(.d (.s ⟨#[111,117,116]⟩)),(aI 4),(.o 253),(.o 254),(.o 255),(aI 0),(.o 256),(aI (-1))]))
abbrev jtm:Nat × O:=(256,(.row 148 (.recs 5 [])))
abbrev jtn:Nat × O:=(253,aR [2])
abbrev jto:Nat × O:=(252,(.row 148 (.recs 5 [])))
abbrev jtp:Nat × O:=(251,aR [500,1000])
abbrev jtq:Nat × O:=(249,aR [0,1])
abbrev jtr:Nat × O:=(248,(.row 148 (.recs 5 [])))
abbrev jts:Nat × O:=(245,aR [0])
abbrev jtt:Nat × O:=(244,(.row 148 (.recs 5 [])))
abbrev jtu:Nat × O:=(187,(.lbox 118 8 4 [(.d (.s ⟨#[109,105,99]⟩)),(aI 0),aN,aN,aN,(aI 0),aN,(aI (-1)),(.d (.s ⟨#[100]⟩)),(aI 2),(.o 180),(.o 181),aN,(aI 3),aN,(aI (-1)),(.d (.s ⟨#[109,105,120]⟩)),(aI 1),(.o 182),(.o 183),(.o 184),(aI 0),aN,(aI (-1)),(.d (.s ⟨#[111,117,116]⟩)),(aI 4),(.o 185),(.o 186),aN,(aI 0),aN,(aI (-1))]))
abbrev jtv:Nat × O:=(186,aR [0])
abbrev jtw:Nat × O:=(185,aR [2])
abbrev jtx:Nat × O:=(184,aR [500,1000])
abbrev jty:Nat × O:=(183,aR [0,0])
abbrev jtz:Nat × O:=(182,aR [0,1])
abbrev jtA:Nat × O:=(181,aR [0])
abbrev jtB:Nat × O:=(180,aR [0])
abbrev aH31:Nat × O:=(351,aR [0,3,3,3])
abbrev aH32:Nat × O:=(428,(.lbox 79 1 1 [(.o 497)]))
abbrev aH33:Nat × O:=(497,(.row 110 (.frs .f32 32 [[1112276992,0,0,1120534528,0,0,0,0,0,0,0,0,0,0,0,0,0,0,0,0,0,0,0,0,0,0,0,0,0,0,0,0]])))
abbrev aH34:Nat × O:=(364,(.lbox 79 1 1 [(.o 363)]))
abbrev aH35:Nat × O:=(363,(.row 110 (.frs .f32 32 [[1120534528,0,0,0,0,0,0,0,0,0,0,0,0,0,0,0,0,0,0,0,0,0,0,0,0,0,0,0,0,0,0,0]])))
abbrev aH36:Nat × O:=(360,(.lbox 118 8 4 [(.d (.s ⟨#[109,105,99]⟩)),(aI 0),aN,aN,aN,(aI 0),aN,(aI (-1)),(.d (.s ⟨#[100]⟩)),(aI 2),(.o 353),(.o 354),aN,(aI 3),aN,(aI (-1)),(.d (.s ⟨#[109,105,120]⟩)),(aI 1),(.o 355),(.o 356),(.o 357),(aI 0),aN,(aI (-1)),(.d (.s ⟨#[111,117,116]⟩)),(aI 4),(.o 358),(.o 359),aN,(aI 0),aN,(aI (-1))]))
abbrev aH37:Nat × O:=(359,aR [0])
abbrev aH38:Nat × O:=(358,aR [2])
abbrev aH39:Nat × O:=(357,aR [500,1000])
abbrev aH40:Nat × O:=(356,aR [0,0])
abbrev aH41:Nat × O:=(355,aR [0,1])
abbrev aH42:Nat × O:=(354,aR [0])
abbrev aH43:Nat × O:=(353,aR [0])
abbrev aH44:Nat × O:=(501,aR [0,3,3,3])
abbrev aH45:Nat × O:=(500,aR [0,2])
abbrev aH46:Nat × O:=(499,aR [0,1,2,3])
abbrev awT0:List (Nat × V):=[]
def awS0:St:=⟨awT0,[],0⟩
abbrev awT1:List (Nat × V):=(0,(vb false))::[]
def awS1:St:=⟨awT1,[],0⟩
abbrev awT2:List (Nat × V):=(2,(vi .i64 0))::(1,(aO 56))::(16,(vi .i64 0))::(15,(aO 56))::(12,(.t [(.c (.o 56)),(.c (aI 0))]))::(14,(.t [(.c (.o 56)),(.c (aI 0))]))::(13,(.w (.a [(.d (.s ⟨#[112]⟩)),(.o 8)])))::awT1
def awS2:St:=⟨awT2,[aH0,aH1,(7,aR [0]),(6,aR [2]),aH2,aH3,aH4,(2,aR [0]),(1,aR [0])],57⟩
abbrev awT3:List (Nat × V):=(4,(vi .i64 0))::(3,(aO 165))::(21,(vi .i64 0))::(20,(aO 165))::(17,(.t [(.c (.o 165)),(.c (aI 0))]))::(19,(.t [(.c (.o 165)),(.c (aI 0))]))::(18,(.w (.a [(.d (.s ⟨#[112]⟩)),(.o 65)])))::awT2
def awS3:St:=⟨awT3,[aH5,aH6,(64,aR [0]),(63,aR [2]),aH7,aH8,aH9,(59,aR [0]),(58,aR [0]),aH0,aH1,(7,aR [0]),(6,aR [2]),aH2,aH3,aH4,(2,aR [0]),(1,aR [0])],179⟩
abbrev awT4:List (Nat × V):=(6,(vi .i64 0))::(5,(.w (.c (.p 259 0 1 0))))::(26,(vi .i64 0))::(25,(.w (.a [(.d (.s ⟨#[112]⟩)),(.o 240)])))::(22,(.t [(.a [(.d (.s ⟨#[112]⟩)),(.o 240)]),(.c (aI 0))]))::(24,(.t [(.a [(.d (.s ⟨#[112]⟩)),(.o 240)]),(.c (aI 0))]))::(23,(.w (.a [(.d (.s ⟨#[112]⟩)),(.o 187)])))::awT3
def awS4:St:=⟨awT4,[jth,jti,jtj,jtk,jtl,jtm,(255,aR []),jtn,jto,jtp,jtq,jtr,(247,aR []),jts,jtt,(243,aR []),(242,aR []),(241,aR []),jtu,jtv,jtw,jtx,jty,jtz,jtA,jtB,aH5,aH6,(64,aR [0]),(63,aR [2]),aH7,aH8,aH9,(59,aR [0]),(58,aR [0]),aH0,aH1,(7,aR [0]),(6,aR [2]),aH2,aH3,aH4,(2,aR [0]),(1,aR [0])],260⟩
abbrev awT5:List (Nat × V):=(8,(vi .i64 0))::(7,(aO 351))::(31,(vi .i64 0))::(30,(aO 351))::(27,(.t [(.c (.o 351)),(.c (aI 0))]))::(29,(.t [(.c (.o 351)),(.c (aI 0))]))::(28,(.w (.a [(.d (.s ⟨#[112]⟩)),(.o 240)])))::awT4
def awS5:St:=⟨awT5,[aH31,jth,jti,jtj,jtk,jtl,jtm,(255,aR []),jtn,jto,jtp,jtq,jtr,(247,aR []),jts,jtt,(243,aR []),(242,aR []),(241,aR []),jtu,jtv,jtw,jtx,jty,jtz,jtA,jtB,aH5,aH6,(64,aR [0]),(63,aR [2]),aH7,aH8,aH9,(59,aR [0]),(58,aR [0]),aH0,aH1,(7,aR [0]),(6,aR [2]),aH2,aH3,aH4,(2,aR [0]),(1,aR [0])],352⟩
abbrev awT6:List (Nat × V):=(11,(vi .i64 0))::(10,(vi .i64 0))::(9,(aO 428))::(40,(vi .i64 0))::(39,(vi .i64 0))::(38,(aO 428))::(32,(.t [(.c (.o 428)),(.c (aI 0)),(.c (aI 0))]))::(37,(.t [(.c (.o 428)),(.c (aI 0)),(.c (aI 0))]))::(36,(aO 364))::(35,(aO 363))::(34,(.w (.b .f32 32 [1120534528,0,0,0,0,0,0,0,0,0,0,0,0,0,0,0,0,0,0,0,0,0,0,0,0,0,0,0,0,0,0,0])))::(33,(.w (.a [(.d (.s ⟨#[112]⟩)),(.o 360)])))::awT5
def awS6:St:=⟨awT6,[aH32,aH33,aH34,aH35,aH36,aH37,aH38,aH39,aH40,aH41,aH42,aH43,aH31,jth,jti,jtj,jtk,jtl,jtm,(255,aR []),jtn,jto,jtp,jtq,jtr,(247,aR []),jts,jtt,(243,aR []),(242,aR []),(241,aR []),jtu,jtv,jtw,jtx,jty,jtz,jtA,jtB,aH5,aH6,(64,aR [0]),(63,aR [2]),aH7,aH8,aH9,(59,aR [0]),(58,aR [0]),aH0,aH1,(7,aR [0]),(6,aR [2]),aH2,aH3,aH4,(2,aR [0]),(1,aR [0])],499⟩
abbrev awT7:List (Nat × V):=(0,(vb true))::(107,(vb true))::(106,(vb true))::(105,(.w (.c (.d (.f .f32 1120534528)))))::(104,(.w (.c (.p 497 0 32 3))))::(103,(.w (.c (.p 497 0 32 0))))::(102,(aO 497))::(101,(.w (.c (.p 428 0 1 0))))::(100,(aO 428))::(99,(vb true))::(98,(vb true))::(97,(vb true))::(96,(.w (.c (.d (.f .f32 1112276992)))))::(95,(.w (.c (.p 497 0 32 0))))::(94,(.w (.c (.p 497 0 32 0))))::(93,(aO 497))::(92,(.w (.c (.p 428 0 1 0))))::(91,(aO 428))::(90,(vb true))::(89,(vb true))::(88,(vb true))::(87,(vi .i64 1))::(86,(aO 497))::(85,(.w (.c (.p 428 0 1 0))))::(84,(aO 428))::(83,(vb true))::(82,(vb true))::(81,(vb true))::(80,(vi .i64 1))::(79,(aO 428))::(78,(vb true))::(77,(vb true))::(76,(vb true))::(75,(vi .i64 0))::(74,(vb true))::(73,(vb true))::(72,(vb true))::(71,(vi .i64 0))::(70,(vb true))::(69,(vb true))::(68,(vb true))::(67,(aO 501))::(66,(aO 351))::(65,(vb true))::(64,(vb true))::(63,(vb true))::(62,(vi .i64 0))::(61,(vb true))::(60,(vb true))::(59,(vb true))::(58,(vi .i64 0))::(57,(vb true))::(56,(vb true))::(55,(vb true))::(54,(aO 500))::(53,(aO 165))::(52,(vb true))::(51,(vb true))::(50,(vb true))::(49,(vi .i64 0))::(48,(vb true))::(47,(vb true))::(46,(vb true))::(45,(aO 499))::(44,(aO 56))::(43,(vb true))::(42,(vb true))::(41,(vi .i64 0))::awT6
def awS7:St:=⟨awT7,[aH44,aH45,aH46,aH32,aH33,aH34,aH35,aH36,aH37,aH38,aH39,aH40,aH41,aH42,aH43,aH31,jth,jti,jtj,jtk,jtl,jtm,(255,aR []),jtn,jto,jtp,jtq,jtr,(247,aR []),jts,jtt,(243,aR []),(242,aR []),(241,aR []),jtu,jtv,jtw,jtx,jty,jtz,jtA,jtB,aH5,aH6,(64,aR [0]),(63,aR [2]),aH7,aH8,aH9,(59,aR [0]),(58,aR [0]),aH0,aH1,(7,aR [0]),(6,aR [2]),aH2,aH3,aH4,(2,aR [0]),(1,aR [0])],502⟩
abbrev awT8:List (Nat × V):=awT7
def awS8:St:=⟨awT8,[aH44,aH45,aH46,aH32,aH33,aH34,aH35,aH36,aH37,aH38,aH39,aH40,aH41,aH42,aH43,aH31,jth,jti,jtj,jtk,jtl,jtm,(255,aR []),jtn,jto,jtp,jtq,jtr,(247,aR []),jts,jtt,(243,aR []),(242,aR []),(241,aR []),jtu,jtv,jtw,jtx,jty,jtz,jtA,jtB,aH5,aH6,(64,aR [0]),(63,aR [2]),aH7,aH8,aH9,(59,aR [0]),(58,aR [0]),aH0,aH1,(7,aR [0]),(6,aR [2]),aH2,aH3,aH4,(2,aR [0]),(1,aR [0])],502⟩
end Go.Sh
end

section
namespace Go.Sh
open Go Go.Proofs Go.RowKit Go.Sx
set_option maxRecDepth 1000000 in
theorem aw_0:jhp (pcE 0) awS0=some (.normal,awS1):=by kernel_rfl
set_option maxRecDepth 1000000 in
theorem aw_1:jhp (pcE 1) awS1=some (.normal,awS2):=by kernel_rfl
set_option maxRecDepth 1000000 in
theorem aw_2:jhp (pcE 2) awS2=some (.normal,awS3):=by kernel_rfl
end Go.Sh
end

section
namespace Go.Sh
open Go Go.Proofs Go.RowKit Go.Sx
set_option maxRecDepth 1000000 in
theorem aw_3:jhp (pcE 3) awS3=some (.normal,awS4):=by kernel_rfl
end Go.Sh
end

section
namespace Go.Sh
open Go Go.Proofs Go.RowKit Go.Sx
set_option maxRecDepth 1000000 in
theorem aw_4:jhp (pcE 4) awS4=some (.normal,awS5):=by kernel_rfl
end Go.Sh
end

section
namespace Go.Sh
open Go Go.Proofs Go.RowKit Go.Sx
set_option maxRecDepth 1000000 in
theorem aw_5:jhp (pcE 5) awS5=some (.normal,awS6):=by kernel_rfl
end Go.Sh
end

section
namespace Go.Sh
open Go Go.Proofs Go.RowKit Go.Sx
set_option maxRecDepth 1000000 in
theorem aw_6:jhp (pcE 6) awS6=some (.normal,awS7):=by kernel_rfl
set_option maxRecDepth 1000000 in
theorem aw_7:jhp (pcE 7) awS7=some (.ret,awS8):=by kernel_rfl
end Go.Sh
end

section
namespace Go.Sh
open Go Go.Proofs Go.RowKit Go.Sx
def jmW:List SV:=[]
def jlN:Option Bool:=some true
def jfj:List Lf→Option GT
 |[]=>some (.leaf (ok (jlN)) [.c (.d (.b (val (jlN))))])
 |_=>none
abbrev sp_16:jaa→jaa:=jaB 16 true (jag jmW jfj)
set_option maxRecDepth 1000000 in
theorem jA6:jho (Tryz.f16.body.getD .skip)=[pcE 0,pcE 1,pcE 2,pcE 3,pcE 4,pcE 5,pcE 6,pcE 7]:=by kernel_rfl
theorem jCp:@cxL jbl Tryz.prog dpE Tryz.f16.ntmps 200 (jho (Tryz.f16.body.getD .skip)) ⟨[],[],0⟩=some (.ret,awS8):=by
 rw[jA6]
 exact @jd5 jbl _ _ _ _ _ _ _ _ _ aw_0 (@jd5 jbl _ _ _ _ _ _ _ _ _ aw_1 (@jd5 jbl _ _ _ _ _ _ _ _ _ aw_2 (@jd5 jbl _ _ _ _ _ _ _ _ _ aw_3 (@jd5 jbl _ _ _ _ _ _ _ _ _ aw_4 (@jd5 jbl _ _ _ _ _ _ _ _ _ aw_5 (@jd5 jbl _ _ _ _ _ _ _ _ _ aw_6 ((@jvp jbl _ _ _ _ _ _).trans aw_7)))))))
set_option maxRecDepth 1000000 in
theorem jtC:jaf Tryz.prog 16 true (jag jmW jfj) :=
 jqF jbl globs rfl rfl (@jyq jbl Tryz.prog dpE 16 200 Tryz.f16 (Tryz.f16.body.getD .skip) (.b true) .ret awS8 jfj mixed jB7 jz4 Tryz.func16 (by kernel_rfl) (by kernel_rfl) jCp (fun j h=>by cases h) (by kernel_rfl) fun ls t h=>by
  unfold jfj at h
  split at h
  ·cases h
   exact⟨rfl,_,rfl⟩
  ·cases h)
theorem sp_16_ok {sp:jaa} (h:jac Tryz.prog sp):jac Tryz.prog (sp_16 sp):=jan jtC h
end Go.Sh
end

section
namespace Go.Sh
open Go Go.Proofs Go.RowKit Go.Sx
open Go.IntKind (wrap)
def jfG:List SV:=[.a [.d,.x (.st [.s,.i .i64,.ints .i64,.ints .i64,.ints .i64,.i .i64,.recs 5,.i .i64] [])],.c (.r (.recs 2 [])),.c (.d)]
def jaP (r7:List Int × Int) (r11:List Int) (x0:Int):Option (Int ⊕ (Unit ⊕ Unit)) :=
 if x0<(↑(List.length r7.1):Int)then
  if 0≤x0∧x0<(↑(List.length r7.1):Int)then
  if Int.toNat x0<List.length r7.1 then
   Option.bind (jds r11 (List.getD r7.1 (Int.toNat x0) (0:Int))) fun r14 =>
   if(r14)=true then
   some (.inr ((.inl ())))
   else
   some (.inl (wrap .i64 (x0+1)))
  else none
  else none
 else
  some (.inr ((.inr ())))
def jiH (u4:Unit):Option Bool :=
 some false
def jiI (u5:Unit):Option Bool :=
 some true
def jbh:(Unit ⊕ Unit)→Option Bool :=
 (Sum.elim (jiH) (jiI))
def jbk (u3:ByteArray) (u1:List (List NC)) (l:List (List Int)) (u11:Int):Option Bool :=
 Option.bind (jed u3 u1) fun r0 =>
 if(!r0)=true then
  some true
 else
  Option.bind (y54 l) fun r1 =>
  if(!r1)=true then
  some true
  else
  Option.bind (y41 u3 u1) fun r2 =>
  Option.bind (y15 l) fun r3 =>
  Option.bind (y27 r2.1 r2.2 r3) fun r4 =>
  Option.bind (y41 u3 u1) fun r5 =>
  Option.bind (y15 l) fun r6 =>
  Option.bind (y29 r2.1 r2.2 r3 u11) fun r7 =>
  Option.bind (y82 u3 u1) fun r8 =>
  if(r8==0)=true then
   Option.bind (y34 u3 u1 l) fun r9 =>
   if(r4.2 != r9.2)=true then
   some false
   else
   if(r4.1 != r9.1)=true then
    some false
   else
    if(r9.2==0)=true then
    Option.bind (y9 u11 (0:Int) (16:Int)) fun r10 =>
    if(!r10)=true then
     if(r7.2==2)=true then
     some ((↑(List.length r7.1):Int)==0)
     else
     some false
    else
     if(r9.2 != 0)=true then
     if(r7.2==r9.2)=true then
      some ((↑(List.length r7.1):Int)==0)
     else
      some false
     else
     Option.bind (y16 u3 u1 l u11) fun r11 =>
     if(r7.2 != 0)=true then
      some false
     else
      Option.bind (y40 u3 u1 r11) fun r12 =>
      Option.bind (jde r7.1 r12) fun r13 =>
      if(!r13)=true then
      some false
      else
      Option.bind (jah (jaP r7 r11) big (0:Int)) (jbh)
    else
    if(r9.2 != 0)=true then
     if(r7.2==r9.2)=true then
     some ((↑(List.length r7.1):Int)==0)
     else
     some false
    else
     Option.bind (y16 u3 u1 l u11) fun r11 =>
     if(r7.2 != 0)=true then
     some false
     else
     Option.bind (y40 u3 u1 r11) fun r12 =>
     Option.bind (jde r7.1 r12) fun r13 =>
     if(!r13)=true then
      some false
     else
      Option.bind (jah (jaP r7 r11) big (0:Int)) (jbh)
  else
   if(r4.2 != r8)=true then
   some false
   else
   if(r4.1 != 0)=true then
    some false
   else
    if(r8==0)=true then
    Option.bind (y9 u11 (0:Int) (16:Int)) fun r10 =>
    if(!r10)=true then
     if(r7.2==2)=true then
     some ((↑(List.length r7.1):Int)==0)
     else
     some false
    else
     if(r8 != 0)=true then
     if(r7.2==r8)=true then
      some ((↑(List.length r7.1):Int)==0)
     else
      some false
     else
     Option.bind (y16 u3 u1 l u11) fun r11 =>
     if(r7.2 != 0)=true then
      some false
     else
      Option.bind (y40 u3 u1 r11) fun r12 =>
      Option.bind (jde r7.1 r12) fun r13 =>
      if(!r13)=true then
      some false
      else
      Option.bind (jah (jaP r7 r11) big (0:Int)) (jbh)
    else
    if(r8 != 0)=true then
     if(r7.2==r8)=true then
     some ((↑(List.length r7.1):Int)==0)
     else
     some false
    else
     Option.bind (y16 u3 u1 l u11) fun r11 =>
     if(r7.2 != 0)=true then
     some false
     else
     Option.bind (y40 u3 u1 r11) fun r12 =>
     Option.bind (jde r7.1 r12) fun r13 =>
     if(!r13)=true then
      some false
     else
      Option.bind (jah (jaP r7 r11) big (0:Int)) (jbh)
def jfH:List Lf→Option GT
 |[.d (.s u3),.x (.st [.s,.i .i64,.ints .i64,.ints .i64,.ints .i64,.i .i64,.recs 5,.i .i64] u1),.r (.recs 2 l),.d (.i .i64 u11)]=>some (.leaf (ok (jbk u3 u1 l u11)) [.c (.d (.b ((val (jbk u3 u1 l u11)))))])
 |_=>none
abbrev jbE (u3:ByteArray) (u1:List (List NC)) (l:List (List Int)) (u11:Int) (r:Bool):Lp (Int × Nat) Int (Unit ⊕ Unit) Bool Bool :=
 ⟨fun z=>Prod.fst z,fun z=>Prod.snd z,fun z x n=>(x,n),fun z=>jaP (val (y29 (val (y41 u3 u1)).1 (val (y41 u3 u1)).2 (val (y15 l)) u11)) (val (y16 u3 u1 l u11)),fun z=>jbh,fun z=>top r,fun z=>0,[.c fun vv=>vv.1,.c fun _=>(val (y29 (val (y41 u3 u1)).1 (val (y41 u3 u1)).2 (val (y15 l)) u11)).1,.c fun _=>val (y16 u3 u1 l u11)]⟩
def jlO (u3:ByteArray) (u1:List (List NC)) (l:List (List Int)) (u11:Int) (r:Bool):Sk (top r) (jbk u3 u1 l u11) :=
 .obC (ok jlN) (by decide) (.call (.brB
 (.obT (.rc))
 (.call (.brB
 (.obT (.rc))
 (.call (.call (.call (.call (.call (.call (.call (.brB
 (.call (.brB
 (.obT (.rc))
 (.brB
 (.obT (.rc))
 (.brB
 (.call (.brB
 (.brB
 (.obT (.rc))
 (.obT (.rc)))
 (.brB
 (.brB
 (.obT (.rc))
 (.obT (.rc)))
 (.call (.brB
 (.obT (.rc))
 (.call (.call (.brB
 (.obT (.rc))
 (.loop (jbE u3 u1 l u11 r) (fun kk=>((0:Int),big)) fun z0 =>
 .br
 (.ob (.ob (.call (.brB
 (.exit (.obT (.rc)))
 (.next)))))
 (.exit (.obT (.rc))))))))))))
 (.brB
 (.brB
 (.obT (.rc))
 (.obT (.rc)))
 (.call (.brB
 (.obT (.rc))
 (.call (.call (.brB
 (.obT (.rc))
 (.loop (jbE u3 u1 l u11 r) (fun kk=>((0:Int),big)) fun z0 =>
 .br
 (.ob (.ob (.call (.brB
 (.exit (.obT (.rc)))
 (.next)))))
 (.exit (.obT (.rc))))))))))))))
 (.brB
 (.obT (.rc))
 (.brB
 (.obT (.rc))
 (.brB
 (.call (.brB
 (.brB
 (.obT (.rc))
 (.obT (.rc)))
 (.brB
 (.brB
 (.obT (.rc))
 (.obT (.rc)))
 (.call (.brB
 (.obT (.rc))
 (.call (.call (.brB
 (.obT (.rc))
 (.loop (jbE u3 u1 l u11 r) (fun kk=>((0:Int),big)) fun z0 =>
 .br
 (.ob (.ob (.call (.brB
 (.exit (.obT (.rc)))
 (.next)))))
 (.exit (.obT (.rc))))))))))))
 (.brB
 (.brB
 (.obT (.rc))
 (.obT (.rc)))
 (.call (.brB
 (.obT (.rc))
 (.call (.call (.brB
 (.obT (.rc))
 (.loop (jbE u3 u1 l u11 r) (fun kk=>((0:Int),big)) fun z0 =>
 .br
 (.ob (.ob (.call (.brB
 (.exit (.obT (.rc)))
 (.next)))))
 (.exit (.obT (.rc)))))))))))))))))))))))))
theorem jke (u3:ByteArray) (u1:List (List NC)) (l:List (List Int)) (u11:Int) (r:Bool) (h:Option.bind (jbk u3 u1 l u11) some=some r):ja0 Tryz.f9 ((sp_16 (sp_17 (sp_40 (sp_41 (sp_19 (sp_42 (sp_43 (sp_22 (sp_44 (sp_45 (sp_46 (sp_47 (sp_24 (sp_48 sp0))))))))))))))) (fun gs id _=>match id with
 |0=>some ⟨Int × Nat,fun z=>⟨[(9,.w (.c (.o 2))),(13,.w (.c (.o 3))),(14,.w (.c (.d (.i .i64 (Prod.fst z)))))],[(2,.row 3 (.ints .i64 ((val (y29 (val (y41 u3 u1)).1 (val (y41 u3 u1)).2 (val (y15 l)) u11)).1))),(3,.row 3 (.ints .i64 (val (y16 u3 u1 l u11))))],4⟩,fun z=>(jbE u3 u1 l u11 r).inv z,fun z=>Prod.snd z⟩
 |_=>none) (jaV jfG [.d (.s u3),.x (.st [.s,.i .i64,.ints .i64,.ints .i64,.ints .i64,.i .i64,.recs 5,.i .i64] u1),.r (.recs 2 l),.d (.i .i64 u11)]) [.c (.d (.b r))] :=
 Sk.vc (jlO u3 u1 l u11 r) (by kernel_rfl) h
theorem jkf:jaf Tryz.prog 9 true (jag jfG jfH):=by
 refine jav (sp:=(sp_16 (sp_17 (sp_40 (sp_41 (sp_19 (sp_42 (sp_43 (sp_22 (sp_44 (sp_45 (sp_46 (sp_47 (sp_24 (sp_48 sp0))))))))))))))) (fn:=Tryz.f9) (body:=bodyOf Tryz.f9) mixed (sp_16_ok (sp_17_ok (sp_40_ok (sp_41_ok (sp_19_ok (sp_42_ok (sp_43_ok (sp_22_ok (sp_44_ok (sp_45_ok (sp_46_ok (sp_47_ok (sp_24_ok (sp_48_ok jar)))))))))))))) Tryz.func9 (by kernel_rfl) (by kernel_rfl) fun ls t h ho b hb=>?_
 unfold jfH at h
 split at h
 ·rename_i u3 u1 l u11
  cases h
  obtain rfl:=jaE hb
  exact⟨Nat.le_of_ble_eq_true (by kernel_rfl),_,_,jke u3 u1 l u11 _ (jal ho)⟩
 ·cases h
end Go.Sh
end

section
namespace Go.Sh
open Go Go.Proofs Go.RowKit Go.Sx
variable {g:List (List NC)} {l:List Int}
theorem jpb (hw:Fw g) {nm:ByteArray} (f:List (List Int)) {e:Int} (he:0<e) (h:ja9 nm g=some e):y27 nm g f=some (0,e):=by
 unfold y27 jhk jdu
 rw[h]
 show Option.bind (Option.bind (some e) _) _=_
 simp only[jad]
 rw[if_pos he,jad,jve he]
theorem jlP (hw:Fw g) {nm:ByteArray} (f:List (List Int)) (block:Int) {e:Int} (he:0<e) (h:ja9 nm g=some e):y29 nm g f block=some ([],e):=by
 unfold y29 jhk jdu
 rw[h]
 show Option.bind (Option.bind (some e) _) _=_
 simp only[jad]
 rw[if_pos he,jad,jve he,jbo,jad,jfg,jad,jlk,jad,if_pos (by simp; omega)]
theorem jqH (h:Rg g l) {nm:ByteArray} (hs:nm.size<1000) (h0:(cg nm g).2=0):ja9 nm g=none∧jbI nm g=some (nm,l,0) :=
 ⟨by rw[jsX h.fw hs h0,h.ord],jzq h.fw hs h0 h.ord⟩
theorem jyu (h:Rg g l) {nm:ByteArray} (hs:nm.size<1000) (h0:(cg nm g).2=0) (f:List (List Int)):y27 nm g f=some (cf g.length f):=by
 obtain⟨h1,h2⟩:=jqH h hs h0
 unfold y27 jhk jdu jdN
 rw[h1,h2]
 show Option.bind (y7 nm g l f) _=_
 rw[jx8 nm l f h.n]
 rfl
theorem juF (h:Rg g l) {nm:ByteArray} (hs:nm.size<1000) (h0:(cg nm g).2=0) (f:List (List Int)) (block:Int) :
  y29 nm g f block=some (if(cf g.length f).2≠0 then([],(cf g.length f).2)else if inB block 0 16=true then(jb8 g (jaU (jaZ f block g.length)),0)else([],2)):=by
 obtain⟨h1,h2⟩:=jqH h hs h0
 unfold y29 jhk jdu jdN
 rw[h1,h2]
 show Option.bind (y7 nm g l f) _=_
 rw[jx8 nm l f h.n,jad,jbo,jad,jfg,jad,jlk,jad]
 by_cases hz:(cf g.length f).2=0
 ·simp only[hz]
  rw[if_neg (by simp:¬((0:Int)!=0)=true),if_neg (by simp:¬((0:Int)≠0))]
  cases hb:inB block 0 16 with
  |false=>rfl
  |true =>
   obtain⟨_,h24,hzz⟩:=jvi hz
   obtain⟨y,hy,hl,hp⟩:=js6 nm l f block h.n h24 hzz
   rw[if_pos rfl,if_neg (by simp:¬((0:Int)!=0)=true),hy,jad]
   show Option.bind (y25 nm g l y) _=_
   rw[js4 h nm y hl,hp]
   rfl
 ·rw[if_pos (bne_iff_ne.2 hz:((cf g.length f).2 != 0)=true),if_pos (bne_iff_ne.2 hz:((cf g.length f).2 != 0)=true),if_pos hz]
theorem n24 {nm:ByteArray} (h0:(cg nm g).2=0):g.length≤24:=by
 have:¬((g.length:Int)>24):=fun h24=>by
  rw[jlm]at h0
  unfold cgF at h0
  split at h0
  ·exact absurd (show(4:Int)=0 from h0) (by omega)
  ·exact absurd (show(8:Int)=0 from h0) (by omega)
 omega
theorem jCq (h:Rg g l) (failed:List Int) (hpos:∀k:Int,k<0→failed.any (·== k)=false) {i:Nat} (hi:i<g.length):failed.any (·== (jb8 g (jaU failed)).getD i 0)=false:=by
 rw[jvg _ _ hi]
 obtain⟨j,hj,e⟩:=h.surj hi
 have hr:=jAX h (jaU failed) j hj
 rw[e]at hr
 rcases hr with h1|⟨_,i2,_,_,_,h2,h3⟩
 ·rw[h1]; exact hpos _ (by omega)
 ·rw[h2]; exact h3
theorem jqI (f:List (List Int)) (block k:Int) (hk:k<0):∀n,(jaZ f block n).any (·== k)=false
 |0=>rfl
 |n+1=>by
  unfold jaZ
  rw[List.any_append,jqI f block k hk n,Bool.false_or,List.any_eq_false]
  intro x hx
  unfold jcq at hx
  obtain⟨_,_,rfl⟩:=List.mem_map.1 hx
  simp
  omega
theorem jmo (nm:ByteArray) (g:List (List NC)) (f:List (List Int)) (block:Int) (hf:f.length≤1000000000000000):jbk nm g f block=some true:=by
 unfold jbk
 rcases jxO nm g with h|⟨h,hw,hs⟩
 ·rw[h]; rfl
 ·rw[h,jad,if_neg (by simp)]
  have hff:y54 f=some false∨(y54 f=some true∧f.length<1000):=by
   unfold y54
   by_cases h1:(f.length:Int)≤10
   ·rw[if_pos h1]; exact .inr ⟨rfl,by omega⟩
   ·rw[if_neg h1]
    by_cases h2:(f.length:Int)>24
    ·rw[if_pos h2]
     by_cases h3:(f.length:Int)≤26
     ·exact .inr ⟨by simp; omega,by omega⟩
     ·exact .inl (by simp; omega)
    ·rw[if_neg h2]; exact .inl rfl
  rcases hff with h1|⟨h1,hfl⟩
  ·rw[h1]; rfl
  ·have hc:=jAu hw
   have hcf:y15 f=some f:=by
    unfold y15
    rw[if_pos (by omega)]
    rfl
   rw[h1,jad,if_neg (by simp),jAW hw,hcf]
   simp only[jad]
   rw[juA hw hs]
   by_cases h0:(cg nm g).2=0
   ·have hne:¬((cg nm g).2≠0):=fun hn=>hn h0
    rw[if_neg hne]
    cases hl:jdz (jbC g) g.length []with
    |none =>
     have ho:ja9 nm (cpU g)=some 19:=by rw[jsX hc hs (by rw[jrw]; exact h0),jqx,jcx,hl]
     rw[jpb hc f (by omega) ho,jlP hc f block (by omega) ho]
     rfl
    |some l =>
     have hr:=rg_of hw h0 hl
     have hn:=hr.n
     have hn24:=n24 h0
     have h0c:(cg nm (cpU g)).2=0:=by rw[jrw]; exact h0
     rw[jyu hr.cp hs h0c,juF hr.cp hs h0c,jcx,jBG]
     simp only[jad]
     rw[if_pos (by simp),jBM nm f hn,jad,if_neg (by simp),if_neg (by simp)]
     by_cases hz:(cf g.length f).2=0
     ·obtain⟨hz0,h24,hzz⟩:=jvi hz
      rw[hz0]
      rw[if_pos (by rfl),ja2,jad]
      cases hb:inB block 0 16 with
      |false=>rw[if_pos (by rfl)]; rfl
      |true =>
       have hfL:=jlA f block g.length
       have hmul:g.length*f.length≤24*24:=Nat.mul_le_mul hn24 h24
       rw[if_neg (by simp),if_neg (by simp),jwA nm f block hn h24,jad,if_neg (by simp),js7 hr nm _ (by omega),jad]
       show Option.bind (jde (jb8 g (jaU (jaZ f block g.length))) (jb8 g (jaU (jaZ f block g.length)))) _=_
       have hwl:=jvf g (jaU (jaZ f block g.length))
       rw[jxK _ (by omega),jad,if_neg (by simp)]
       show Option.bind (jah (jaP (jb8 g (jaU (jaZ f block g.length)),0) (jaZ f block g.length)) big 0) jbh=_
       rw[jcj (body:=jaP (jb8 g (jaU (jaZ f block g.length)),0) (jaZ f block g.length)) g.length (fun _=>false) (.inl ()) (.inr ()) (by omega) (fun i hi hp=>by cases hp) (fun i hi _=>by
        unfold jaP
        simp only[Int.toNat_natCast]
        rw[if_pos (by show(i:Int)<((jb8 g _).length:Int); omega),if_pos (by show 0≤(i:Int)∧(i:Int)<((jb8 g _).length:Int); omega),if_pos (by show i<(jb8 g _).length; omega),jdj _ _ (by omega),jad,jCq hr (jaZ f block g.length) (fun k hk=>jqI f block k hk _) hi,if_neg (by simp),jaO (by omega)]) (by
        unfold jaP
        rw[if_neg (by show ¬(g.length:Int)<((jb8 g _).length:Int); omega)])]
       have:(List.range g.length).any (fun _=>false)=false:=by simp
       rw[this]
       rfl
     ·rw[if_neg (by simpa using hz),if_pos (bne_iff_ne.2 hz),if_pos hz,if_pos (by simp)]
      rfl
   ·have hp:0<(cg nm g).2:=by have:=jx1 nm g; omega
    have ho:ja9 nm (cpU g)=some (cg nm g).2:=by rw[jx3 hc hs (by rw[jrw]; exact h0),jrw]
    rw[jpb hc f hp ho,jlP hc f block hp ho]
    simp only[jad]
    rw[if_pos h0,if_neg (by simpa using h0),if_neg (by simp),if_neg (by simp),if_neg (by simpa using h0),if_pos (bne_iff_ne.2 h0),if_pos (by simp)]
    rfl
end Go.Sh
end

section
namespace Go.Sx
open Go.RowKit Go.ChangeShapes Go.WideShapes
inductive K where
 |i (k:IntKind)|b|f (k:FloatKind)|s
def K.fits:K→D→Prop
 | .i k,.i k' n=>k'=k∧(Lit.int k n).wf=true
 | .b,.b _=>True
 | .f k,.f k' n=>k'=k∧(Lit.float k n).wf=true
 | .s,.s x=>x.size≤maxLen
 |_,_=>False
def jbi:List K→List D→Prop
 |[],[]=>True
 |k::ks,d::ds=>k.fits d∧jbi ks ds
 |_,_=>False
theorem je4:∀{ks:List K} {ds:List D} {ks':List K} {ds':List D},jbi ks ds→jbi ks' ds'→jbi (ks++ks') (ds++ds')
 |[],[],_,_,_,h=>h
 |_::_,_::_,_,_,h,h'=>⟨h.1,je4 h.2 h'⟩
 |[],_::_,_,_,h,_=>h.elim
 |_::_,[],_,_,h,_=>h.elim
theorem je5:∀{ks:List K} {ds:List D},jbi ks ds→ds.length=ks.length
 |[],[],_=>rfl
 |_::_,_::_,h=>by simp[je5 h.2]
 |[],_::_,h=>h.elim
 |_::_,[],h=>h.elim
def jgk (g:TypeId→Option (List K)) (P:Program):Nat→List Field→Option (List K)
 |_,[]=>some []
 |n,f::fs=>match g f.type with
  |none=>none
  |some ks=>if f.offset=n∧P.cellsOf f.type=ks.length then(jgk g P (n+ks.length) fs).map (ks ++ ·)else none
def jfk (P:Program):Nat→TypeId→Option (List K)
 |0,_=>none
 |d+1,t=>match P.underlying t with
  |some .bool=>some [.b]
  |some (.int k)=>some [.i k]
  |some (.float k)=>some [.f k]
  |some .string=>some [.s]
  |some (.struct fs)=>match jgk (jfk P d) P 0 fs.toList with
   |some ks=>if P.cellsOf t=ks.length then some ks else none
   |none=>none
  |some (.array n e)=>match jfk P d e with
   |some ks=>if P.cellsOf t=n*ks.length∧P.cellsOf e=ks.length then some (List.replicate n ks).flatten else none
   |none=>none
  |_=>none
section
variable {H:Type} {enc:TypeId × Value→H} {P:Program} {w:World} {base:Nat} {spare:Nat→Bool} {held:Bool}
theorem jmX {ks:List K} {e:TypeId} {m:Nat} (ih:∀cs x,DataW.trod enc P w base spare held m e cs=some x→∃ds:List D,cs=ds.map D.val∧jbi ks ds) :
  ∀(n:Nat) (cs:List Value),cs.length=n*ks.length→(∀i,i<n→∃x,DataW.trod enc P w base spare held m e ((cs.drop (i*ks.length)).take ks.length)=some x)→∃ds:List D,cs=ds.map D.val∧jbi (List.replicate n ks).flatten ds
 |0,cs,hl,_=>⟨[],by simpa using hl,trivial⟩
 |n+1,cs,hl,h=>by
  obtain⟨x,hx⟩:=h 0 (by omega)
  obtain⟨ds0,h0,h1⟩:=ih _ x hx
  obtain⟨ds1,h2,h3⟩:=jmX ih n (cs.drop ks.length) (by rw[List.length_drop,hl,Nat.add_mul]; omega) (fun i hi=>by
   obtain⟨y,hy⟩:=h (i+1) (by omega)
   refine⟨y,?_⟩
   rw[List.drop_drop]
   rw[show ks.length+i*ks.length=(i+1)*ks.length by rw[Nat.add_mul]; omega]
   exact hy)
  refine⟨ds0++ds1,?_,je4 h1 h3⟩
  rw[List.map_append,←h0,←h2]
  simp
theorem jlQ {g:TypeId→Option (List K)} {m:Nat} (ih:∀t ks cs x,g t=some ks→DataW.trod enc P w base spare held m t cs=some x→∃ds:List D,cs=ds.map D.val∧jbi ks ds) :
  ∀(fs:List Field) (n:Nat) (ks:List K) (cs:List Value),jgk g P n fs=some ks→cs.length=n+ks.length→(∀f∈fs,∃x,DataW.trod enc P w base spare held m f.type ((cs.drop f.offset).take (P.cellsOf f.type))=some x) →
   ∃ds:List D,cs.drop n=ds.map D.val∧jbi ks ds
 |[],n,ks,cs,hk,hl,_=>by
  simp only[jgk,Option.some.injEq]at hk
  subst hk
  refine⟨[],?_,trivial⟩
  simp at hl
  simp[hl]
 |f::fs,n,ks,cs,hk,hl,h=>by
  simp only[jgk]at hk
  split at hk
  ·cases hk
  ·rename_i kf hg
   split at hk
   ·rename_i hc
    cases hr:jgk g P (n+kf.length) fs with
    |none=>simp[hr]at hk
    |some kr =>
     simp only[hr,Option.map_some,Option.some.injEq]at hk
     subst hk
     obtain⟨x,hx⟩:=h f List.mem_cons_self
     rw[hc.1,hc.2]at hx
     obtain⟨ds0,h0,h1⟩:=ih f.type kf _ x hg hx
     obtain⟨ds1,h2,h3⟩:=jlQ ih fs (n+kf.length) kr cs hr (by rw[hl,List.length_append]; omega) (fun f' hf'=>h f' (List.mem_cons_of_mem _ hf'))
     refine⟨ds0++ds1,?_,je4 h1 h3⟩
     rw[List.map_append,←h0,←h2,←List.drop_drop]
     exact(List.take_append_drop _ _).symm
   ·cases hk
theorem jge:∀(d:Nat) (t:TypeId) (ks:List K) (fuel:Nat) (cs:List Value) (x:DataW H × List MemPlace),jfk P d t=some ks→DataW.trod enc P w base spare held fuel t cs=some x →
  ∃ds:List D,cs=ds.map D.val∧jbi ks ds
 |0,_,_,_,_,_,h,_=>by cases h
 |d+1,t,ks,fuel,cs,x,hk,hx=>by
  unfold jfk at hk
  split at hk
  ·rename_i ht
   cases hk
   obtain⟨b,rfl,_⟩:=DataW.trod_bool ht hx
   exact⟨[.b b],rfl,trivial,trivial⟩
  ·rename_i k ht
   cases hk
   obtain⟨n,rfl,_,hw⟩:=DataW.trod_int ht hx
   exact⟨[.i k n],rfl,⟨rfl,hw⟩,trivial⟩
  ·rename_i k ht
   cases hk
   cases fuel with
   |zero=>simp[DataW.trod]at hx
   |succ n =>
    rcases cs with _|⟨v,_|⟨v',r⟩⟩
    ·simp[DataW.trod,ht]at hx
    ·cases v with
     |float k2 n2 =>
      simp only[DataW.trod,ht]at hx
      split at hx
      ·rename_i hh
       exact⟨[.f k2 n2],rfl,⟨hh.1,hh.2⟩,trivial⟩
      ·cases hx
     |_=>simp[DataW.trod,ht]at hx
    ·simp[DataW.trod,ht]at hx
  ·rename_i ht
   cases hk
   obtain⟨z,rfl,_,hw⟩:=DataW.trod_string ht hx
   exact⟨[.s z],rfl,hw,trivial⟩
  ·rename_i fs ht
   split at hk
   ·rename_i ks' hks
    split at hk
    ·rename_i hc
     cases hk
     obtain⟨xs,n,rfl,_,hl,hxl,hf⟩:=DataW.trod_struct ht hx
     have:=jlQ (enc:=enc) (w:=w) (base:=base) (spare:=spare) (held:=held) (g:=jfk P d) (m:=n) (fun t ks cs x h1 h2=>jge d t ks n cs x h1 h2) fs.toList 0 ks cs hks (by rw[hl,hc]; omega) (fun f hfm=>by
      obtain⟨i,hi,hfi⟩:=List.mem_iff_getElem.1 hfm
      have hi':i<fs.size:=by simpa using hi
      have h1:=hf i f (by rw[Array.getElem?_eq_getElem hi']; simpa using hfi)
      exact⟨xs[i]'(by omega),by rw[h1,List.getElem?_eq_getElem]⟩)
     simpa using this
    ·cases hk
   ·cases hk
  ·rename_i n e ht
   split at hk
   ·rename_i ks' hks
    split at hk
    ·rename_i hc
     cases hk
     obtain⟨xs,m,rfl,_,hl,hxl,hf⟩:=DataW.trod_array ht hx
     exact jmX (fun cs x h=>jge d e ks' m cs x hks h) n cs (by rw[hl,hc.1]) (fun i hi=>by
      have h1:=hf i hi
      rw[hc.2]at h1
      exact⟨xs[i]'(by omega),by rw[h1,List.getElem?_eq_getElem]⟩)
    ·cases hk
   ·cases hk
  ·cases hk
theorem jqJ {t e:TypeId} {ks:List K} {d fuel:Nat} {cs:List Value} {x:DataW H × List MemPlace} (ht:P.underlying t=some (.slice e)) (hk:jfk P d e=some ks) (hc:P.cellsOf e=ks.length) (h0:0<ks.length)
  (hx:DataW.trod enc P w base spare held fuel t cs=some x) :
  ∃(v:Value) (rows:List (List D)),cs=[v]∧(∀r∈rows,jbi ks r)∧jaF w v (.lits ks.length rows)∧(x.1=.nil∧rows=[]∨∃el sp,x.1=.slice el sp∧el.length=rows.length):=by
 rcases DataW.trod_slice ht hx with ⟨rfl,rfl⟩|⟨a,len,cap,elems,rest,n,rfl,rfl,rfl,hb,hl,hm,hel,hi,_,_⟩
 ·exact⟨_,[],rfl,(fun _ h=>by cases h),⟨none,0,rfl,⟨by simp[Cont.n],fun _=>rfl⟩,fun h=>absurd h (by simp[Cont.n])⟩,.inl ⟨rfl,rfl⟩⟩
 ·-- each element's cells
  have hget:∀i,i<len→∃ds:List D,jbi ks ds∧∀j,j<ks.length→w.cell? ((a.add (i*ks.length)).add j)=(ds[j]?).map D.val:=fun i hil=>by
   have h1:=hi i hil
   rw[hc]at h1
   have h2:elems[i]?=some (elems[i]'(by omega)):=List.getElem?_eq_getElem (by omega)
   rw[h2]at h1
   obtain⟨cs',hcs,htr⟩:=Option.bind_eq_some_iff.1 h1
   obtain⟨ds,hds,hfit⟩:=jge d e ks n cs' _ hk htr
   obtain⟨_,hcl,hat⟩:=World.cells?_some hcs
   refine⟨ds,hfit,fun j hj=>?_⟩
   rw[hat j hj,hds,List.getElem?_map]
  let R:Nat→List D:=fun i=>if h:i<len then Classical.choose (hget i h)else[]
  have hR:∀i (h:i<len),jbi ks (R i)∧∀j,j<ks.length→w.cell? ((a.add (i*ks.length)).add j)=((R i)[j]?).map D.val:=fun i h=>by
   show jbi ks (if h:i<len then _ else _)∧_
   simp only[R,dif_pos h]
   exact Classical.choose_spec (hget i h)
  refine⟨_,(List.range len).map R,rfl,fun r hr=>?_,?_,.inr ⟨_,_,rfl,by simp[hel]⟩⟩
  ·obtain⟨i,hi',rfl⟩:=List.mem_map.1 hr
   exact(hR i (by simpa using hi')).1
  ·refine⟨some a,cap,by simp[Cont.n],⟨by simpa [Cont.n]using hl,fun h=>by cases h⟩,fun hn=>?_⟩
   have hn:0<len:=by simpa [Cont.n]using hn
   have hsp:a.spot=none:=by
    have h1:=(hR 0 hn).2 0 h0
    have hfl:=je5 (hR 0 hn).1
    rw[List.getElem?_eq_getElem (by omega)]at h1
    simp[Addr.add]at h1
    cases hs:a.spot with
    |none=>rfl
    |some s =>
     exfalso
     unfold World.cell? at h1
     simp only[hs]at h1
     split at h1
     ·simp at h1
     ·cases h1
   obtain⟨b,off,sp⟩:=a
   simp only at hsp
   subst hsp
   refine⟨b,off,rfl,fun j y hj=>?_⟩
   have hne:0<ks.length:=h0
   have hjl:j<(Cont.lits ks.length ((List.range len).map R)).flat.length:=(List.getElem?_eq_some_iff.1 hj).1
   rw[Cont.flat_length]at hjl
   simp only[Cont.n,Cont.e,List.length_map,List.length_range]at hjl
   have hq:j/ks.length<len:=Nat.div_lt_of_lt_mul (by rw[Nat.mul_comm]; exact hjl)
   have hr:j%ks.length<ks.length:=Nat.mod_lt _ hne
   have hg:=Cont.flat_get (.lits ks.length ((List.range len).map R)) (i:=j/ks.length) (j:=j%ks.length) (by simpa [Cont.n]using hq) hr
   have ej:j/ks.length*ks.length+j%ks.length=j:=by rw[Nat.mul_comm]; exact Nat.div_add_mod j _
   simp only[Cont.e]at hg
   rw[ej,hj]at hg
   have hcell:=(hR (j/ks.length) hq).2 (j%ks.length) hr
   have hfl:=je5 (hR (j/ks.length) hq).1
   rw[jaK,jaK,Nat.add_assoc,ej,List.getElem?_eq_getElem (by omega)]at hcell
   rw[hcell]
   simp only[Option.some.injEq]at hg
   simp[hg,Cont.cell,List.getD,hq,List.getElem?_eq_getElem (show j%ks.length<(R (j/ks.length)).length by omega)]
theorem jnP {v:Value} {c c':Cont} (h:jaF w v c) (hn:c'.n=c.n) (hf:c'.flat=c.flat):jaF w v c':=by
 obtain⟨a,cap,hv,hc,hcell⟩:=h
 exact⟨a,cap,by rw[hn]; exact hv,by rw[hn]; exact hc,fun h=>by
  obtain⟨b,off,e,hx⟩:=hcell (by rw[←hn]; exact h)
  exact⟨b,off,e,by rw[hf]; exact hx⟩⟩
theorem jvq:∀{n:Nat} {r:List D},jbi (List.replicate n (.i .i64)) r→∃l:List Int,r=l.map (D.i .i64)∧l.length=n∧∀x∈l,inI x
 |0,[],_=>⟨[],rfl,rfl,fun _ h=>by cases h⟩
 |n+1,.i k x::r,h=>by
  obtain⟨l,h1,h2,h3⟩:=jvq (n:=n) h.2
  obtain⟨rfl,hw⟩:=h.1
  refine⟨x::l,by rw[h1]; rfl,by simp[h2],fun y hy=>?_⟩
  rcases List.mem_cons.1 hy with rfl|hy
  ·unfold inI
   simpa [Lit.wf,IntKind.min,IntKind.max,IntKind.signed,IntKind.bits]using hw
  ·exact h3 y hy
 |0,_::_,h=>h.elim
 |_+1,[],h=>h.elim
 |_+1,.b _::_,h=>h.1.elim
 |_+1,.f _ _::_,h=>h.1.elim
 |_+1,.s _::_,h=>h.1.elim
 |_+1,.v _::_,h=>h.1.elim
theorem jqK {n:Nat} {rows:List (List D)} (h:∀r∈rows,jbi (List.replicate n (.i .i64)) r):∃l:List (List Int),rows=l.map (fun r=>r.map (D.i .i64))∧l.length=rows.length∧∀r∈l,r.length=n∧∀x∈r,inI x:=by
 induction rows with
 |nil=>exact⟨[],rfl,rfl,fun _ h=>by cases h⟩
 |cons r rows ih =>
  obtain⟨l,h1,h2,h3⟩:=ih fun r hr=>h r (List.mem_cons_of_mem _ hr)
  obtain⟨x,h4,h5,h6⟩:=jvq (h r List.mem_cons_self)
  refine⟨x::l,by rw[h1,h4]; rfl,by simp[h2],fun y hy=>?_⟩
  rcases List.mem_cons.1 hy with rfl|hy
  ·exact⟨h5,h6⟩
  ·exact h3 y hy
theorem jqL {n:Nat} {l:List (List Int)} (h:∀r∈l,r.length=n):(Cont.recs n l).flat=(Cont.lits n (l.map fun r=>r.map (D.i .i64))).flat:=by
 simp only[Cont.flat]
 induction l with
 |nil=>rfl
 |cons r l ih =>
  rw[List.flatMap_cons,List.map_cons,List.flatMap_cons,ih fun r hr=>h r (List.mem_cons_of_mem _ hr)]
  congr 1
  have hr:=h r List.mem_cons_self
  subst hr
  rw[jko]
  exact(litD_self' (r.map (D.i .i64)) (by simp)).symm
 where
 litD_self' {n:Nat} (r:List D) (h:r.length=n):jiK n r=r:=by subst h; exact jkp r
theorem jyv {t e:TypeId} {d n fuel:Nat} {cs:List Value} {x:DataW H × List MemPlace} (ht:P.underlying t=some (.slice e)) (hk:jfk P d e=some (List.replicate n (.i .i64))) (hc:P.cellsOf e=n) (h0:0<n)
  (hx:DataW.trod enc P w base spare held fuel t cs=some x) :
  ∃(v:Value) (l:List (List Int)),cs=[v]∧jaF w v (.recs n l)∧(∀r∈l,r.length=n∧∀x∈r,inI x)∧(x.1=.nil∧l=[]∨∃el sp,x.1=.slice el sp∧el.length=l.length):=by
 obtain⟨v,rows,h1,h2,h3,h4⟩:=jqJ ht hk (by simpa using hc) (by simpa using h0) hx
 obtain⟨l,h5,h6,h7⟩:=jqK h2
 subst h5
 refine⟨v,l,h1,jnP h3 (by simp[Cont.n]) ?_,h7,?_⟩
 ·rw[List.length_replicate]; exact jqL fun r hr=>(h7 r hr).1
 ·rcases h4 with h4|⟨el,sp,h4,h8⟩
  ·exact .inl ⟨h4.1,by simpa using h4.2⟩
  ·exact .inr ⟨el,sp,h4,by simpa using h8⟩
end
inductive ArgIs (w:World):Value→A→Prop where
 |d (x:D):ArgIs w x.val (.d x)
 |s (l:List D):ArgIs w (.agg (l.map D.val).toArray) (.s l)
 |r (v:Value) (c:Cont) (he:0<c.e) (h:jaF w v c):ArgIs w v (.r c)
section
variable [Globs] {P:Program} {w:World}
end
section
variable {H:Type} {enc:TypeId × Value→H} {P:Program}
theorem jtD {sp:Nat→Bool} (hl:laidOutB P=true) {W W':World} (hb:Below W.heap.size W W'):∀(ts:List TypeId) (vs:List Value) (ds:List (DataW H)) (ps:List MemPlace),(∀t∈ts,P.readableRec t=true∧t<P.types.size) →
  DataW.TrodAll enc P W 0 (fun _=>true) true ts vs ds ps→(∀p∈ps,p.block<W.heap.size)→(∀p∈ps,sp p.block=true)→DataW.TrodAll enc P W' 0 sp true ts vs ds ps
 |[],[],[],_,_,h,_,_=>h
 |t::ts,v::vs,d::ds,ps,ht,h,hlt,hs=>by
  obtain⟨p,q,h1,h2,rfl⟩:=h
  have htt:=ht t List.mem_cons_self
  exact⟨p,q,WideElems.Trod_stays hl htt.1 htt.2 h1 (fun x hx=>hb.same (hlt x (List.mem_append_left _ hx))) (fun x hx=>hs x (List.mem_append_left _ hx)),
   jtD hl hb ts vs ds q (fun t ht'=>ht t (List.mem_cons_of_mem _ ht')) h2 (fun x hx=>hlt x (List.mem_append_right _ hx)) (fun x hx=>hs x (List.mem_append_right _ hx)),rfl⟩
 |[],_::_,_,_,_,h,_,_=>h.elim
 |_::_,[],_,_,_,h,_,_=>h.elim
 |[],[],_::_,_,_,h,_,_=>h.elim
 |_::_,_::_,[],_,_,h,_,_=>h.elim
theorem jAi {f:Func} {s:ChangeSpec} {apart fresh handsOn again:Bool} {W W':World} {args:Array Value} {ds gs:List (DataW H)} {before:List MemPlace} {tb:TypeId} (hvars:s.vars=[]) (hrt:f.resultTypes=#[tb]) (htb:P.underlying tb=some .bool)
  (hres:(s.fn H (ds++gs)).results=[.lit (.bool true)]) (hargs:(s.fn H (ds++gs)).args=ds) (hsv:(s.fn H (ds++gs)).vars=[]) (hl:laidOutB P=true) (hread:∀t∈f.params.toList,P.readableRec t=true∧t<P.types.size)
  (hW:DataW.Whole enc P f.params.toList s.vars apart W args.toList ds gs before) (hb:Below W.heap.size W W'):s.post enc P f apart fresh handsOn again W args (.bool true) W':=by
 have hlt:∀p∈before,p.block<W.heap.size:=fun p hp=>hW.lt p hp
 have hW':=hW
 obtain⟨p,q,h1,h2,rfl,hfz,hnd⟩:=hW'
 rw[hvars]at h2
 have hq:q=[]:=by
  cases gs with
  |nil=>exact h2
  |cons _ _=>exact h2.elim
 subst hq
 rw[List.append_nil]at hlt hfz hnd
 have hA:∀sp:Nat→Bool,(∀x∈p,sp x.block=true)→DataW.TrodAll enc P W' 0 sp true f.params.toList args.toList ds p:=fun sp hs=>jtD hl hb _ _ _ _ hread h1 hlt hs
 have hR:∀(b:Nat) (sp:Nat→Bool) (hd:Bool),DataW.TrodAll enc P W' b sp hd [tb] [.bool true] [.lit (.bool true)] []:=fun b sp hd=>⟨[],[],⟨1,by simp[DataW.trod,htb,Value.cells]⟩,rfl,rfl⟩
 have hrl:(Value.bool true).resultList f.resultTypes.size=[.bool true]:=by rw[hrt]; rfl
 have hrt':f.resultTypes.toList=[tb]:=by rw[hrt]
 refine⟨ds,gs,p++[],[],p,[],hW,?_,?_,?_,World.keptBut_mono (fun x hx=>⟨hx,.inr (.inl (by simpa using hx))⟩) (hb.frame (·∈ p++[])),fun _=>⟨fun j t r hj hr=>?_,?_⟩⟩
 ·rw[hrl,hrt',hres]; exact hR _ _ _
 ·rw[hargs]; exact hA _ (fun x hx=>by simpa using hlt x hx)
 ·rw[hvars,hsv]; rfl
 ·rw[hrt]at hj
  rw[hrl]at hr
  cases j with
  |zero =>
   simp at hj hr
   subst hj; subst hr
   exact okWide_bool_mk htb _
  |succ j=>simp at hj
 ·refine⟨[.lit (.bool true)]++ds,[],p,⟨p,[],?_,by rw[hvars]; rfl,by simp,?_,?_⟩,fun x hx _=>by simpa using hx⟩
  ·rw[hrl,hrt']
   exact⟨[],p,⟨1,by simp[DataW.trod,htb,Value.cells]⟩,hA _ (fun _ _=>rfl),rfl⟩
  ·intro b off hp
   rw[hb.frozen (hlt _ hp)]
   exact hfz b off hp
  ·exact hnd
end
section
variable {H:Type} {enc:TypeId × Value→H} {P:Program} {w:World} {base:Nat} {spare:Nat→Bool} {held:Bool} {r:Reach} {b0:Nat}
theorem jAj {t e:TypeId} {v v':Value} (ht:P.underlying t=some (.slice e)) (hval:Value.okWide P w r b0 t v) (h:v.cells.toList=[v']):v=v':=by
 obtain⟨a,len,cap,rfl⟩:=okWide_slice ht hval
 simpa [Value.cells]using h
theorem jAk {t e:TypeId} {d n:Nat} {v:Value} {x:DataW H} {p:List MemPlace} (ht:P.underlying t=some (.slice e)) (hk:jfk P d e=some (List.replicate n (.i .i64))) (hc:P.cellsOf e=n) (h0:0<n)
  (hval:Value.okWide P w r b0 t v) (h:DataW.Trod enc P w base spare held t v x p) :
  ∃l:List (List Int),ArgIs w v (.r (.recs n l))∧(∀r∈l,r.length=n∧∀x∈r,inI x)∧(x=.nil∧l=[]∨∃el sp,x=.slice el sp∧el.length=l.length):=by
 obtain⟨fuel,hx⟩:=h
 obtain⟨v',l,h1,h2,h3,h4⟩:=jyv ht hk hc h0 hx
 have:=jAj ht hval h1
 subst this
 exact⟨l,.r _ _ h0 h2,h3,h4⟩
theorem jA7 {t:TypeId} {v:Value} {x:DataW H} {p:List MemPlace} (ht:P.underlying t=some (.int .i64)) (hval:Value.okWide P w r b0 t v) (h:DataW.Trod enc P w base spare held t v x p) :
  ∃n:Int,ArgIs w v (.d (.i .i64 n))∧inI n:=by
 obtain⟨n,rfl,_,_,hw⟩:=open_int ht hval h
 refine⟨n,.d (.i .i64 n),?_⟩
 unfold inI
 simpa [Lit.wf,IntKind.min,IntKind.max,IntKind.signed,IntKind.bits]using hw
theorem jCr {α:Type} {ts:List TypeId} {ds:List (DataW H)} (h:(DataW.weightsEach P ts ds).all (·≤ reachBytes)=true) {j:Nat} {t e:TypeId} {x:DataW H} {l:List α} (ht:ts[j]?=some t) (hd:ds[j]?=some x) (hu:P.underlying t=some (.slice e)) (hb:0<P.bytesOf e)
  (hx:x=.nil∧l=[]∨∃el sp,x=.slice el sp∧el.length=l.length):l.length*P.bytesOf e≤140737488355328:=by
 rcases hx with ⟨_,rfl⟩|⟨el,sp,rfl,he⟩
 ·simp
 ·have h1:=sized_slice h ht hd hu
  have h2:=reachBytes_lt
  have h3:l.length*P.bytesOf e≤(el.length+sp.length)*P.bytesOf e:=Nat.mul_le_mul_right _ (by omega)
  omega
end
end Go.Sx
end

section
namespace Go.Sx
open Go.RowKit Go.ChangeShapes Go.WideShapes
inductive K2 where
 |d (k:K)
 |s (ks:List K)
inductive T1 where
 |d (x:D)
 |r (c:Cont)
 |xl (X:XC)
inductive Cell2 (w:World):K2→Value→T1→Prop where
 |d (k:K) (x:D) (h:k.fits x):Cell2 w (.d k) x.val (.d x)
 |s (ks:List K) (v:Value) (rows:List (List D)) (h0:0<ks.length) (h:∀r∈rows,jbi ks r) (hr:jaF w v (.lits ks.length rows)):Cell2 w (.s ks) v (.r (.lits ks.length rows))
inductive Cells2 (w:World):List K2→List Value→List T1→Prop where
 |nil:Cells2 w [] [] []
 |cons {k:K2} {v:Value} {t:T1} {ks:List K2} {vs:List Value} {ts:List T1} (h:Cell2 w k v t) (r:Cells2 w ks vs ts):Cells2 w (k::ks) (v::vs) (t::ts)
theorem Cells2.append {w:World} {ks ks':List K2} {vs vs':List Value} {ts ts':List T1} (h:Cells2 w ks vs ts) (h':Cells2 w ks' vs' ts'):Cells2 w (ks++ks') (vs++vs') (ts++ts'):=by
 induction h with
 |nil=>exact h'
 |cons h r ih=>exact .cons h ih
def je6 (g:TypeId→Option (List K2)) (P:Program):Nat→List Field→Option (List K2)
 |_,[]=>some []
 |n,f::fs=>match g f.type with
  |none=>none
  |some ks=>if f.offset=n∧P.cellsOf f.type=ks.length then(je6 g P (n+ks.length) fs).map (ks ++ ·)else none
def jg4 (P:Program):Nat→TypeId→Option (List K2)
 |0,_=>none
 |d+1,t=>match jfk P d t with
  |some ks=>some (ks.map .d)
  |none=>match P.underlying t with
   |some (.slice e)=>match jfk P d e with
    |some (k::ks)=>if P.cellsOf e=ks.length+1 then some [.s (k::ks)]else none
    |_=>none
   |some (.struct fs)=>match je6 (jg4 P d) P 0 fs.toList with
    |some ks=>if P.cellsOf t=ks.length then some ks else none
    |none=>none
   |_=>none
section
variable {H:Type} {enc:TypeId × Value→H} {P:Program} {w:World} {base:Nat} {spare:Nat→Bool} {held:Bool}
theorem jAl {ks:List K} {ds:List D} (h:jbi ks ds):Cells2 w (ks.map .d) (ds.map D.val) (ds.map .d):=by
 induction ks generalizing ds with
 |nil=>cases ds with
  |nil=>exact .nil
  |cons _ _=>exact h.elim
 |cons k ks ih=>cases ds with
  |nil=>exact h.elim
  |cons d ds=>exact .cons (.d k d h.1) (ih h.2)
theorem jjT {g:TypeId→Option (List K2)} {m:Nat} (ih:∀t ks cs x,g t=some ks→DataW.trod enc P w base spare held m t cs=some x→∃ts,Cells2 w ks cs ts) :
  ∀(fs:List Field) (n:Nat) (ks:List K2) (cs:List Value),je6 g P n fs=some ks→cs.length=n+ks.length→(∀f∈fs,∃x,DataW.trod enc P w base spare held m f.type ((cs.drop f.offset).take (P.cellsOf f.type))=some x) →
   ∃ts,Cells2 w ks (cs.drop n) ts
 |[],n,ks,cs,hk,hl,_=>by
  simp only[je6,Option.some.injEq]at hk
  subst hk
  refine⟨[],?_⟩
  simp at hl
  rw[List.drop_eq_nil_of_le (by omega)]
  exact .nil
 |f::fs,n,ks,cs,hk,hl,h=>by
  simp only[je6]at hk
  split at hk
  ·cases hk
  ·rename_i kf hg
   split at hk
   ·rename_i hc
    cases hr:je6 g P (n+kf.length) fs with
    |none=>simp[hr]at hk
    |some kr =>
     simp only[hr,Option.map_some,Option.some.injEq]at hk
     subst hk
     obtain⟨x,hx⟩:=h f List.mem_cons_self
     rw[hc.1,hc.2]at hx
     obtain⟨ts0,h0⟩:=ih f.type kf _ x hg hx
     obtain⟨ts1,h1⟩:=jjT ih fs (n+kf.length) kr cs hr (by rw[hl,List.length_append]; omega) (fun f' hf'=>h f' (List.mem_cons_of_mem _ hf'))
     refine⟨ts0++ts1,?_⟩
     have e:cs.drop n=(cs.drop n).take kf.length++cs.drop (n+kf.length):=by rw[←List.drop_drop]; exact(List.take_append_drop _ _).symm
     rw[e]
     exact h0.append h1
   ·cases hk
theorem jh6:∀(d:Nat) (t:TypeId) (ks:List K2) (fuel:Nat) (cs:List Value) (x:DataW H × List MemPlace),jg4 P d t=some ks→DataW.trod enc P w base spare held fuel t cs=some x→∃ts,Cells2 w ks cs ts
 |0,_,_,_,_,_,h,_=>by cases h
 |d+1,t,ks,fuel,cs,x,hk,hx=>by
  unfold jg4 at hk
  split at hk
  ·rename_i ks' hks
   cases hk
   obtain⟨ds,rfl,h2⟩:=jge d t ks' fuel cs x hks hx
   exact⟨_,jAl h2⟩
  ·split at hk
   ·rename_i e ht
    split at hk
    ·rename_i k ks' hks
     split at hk
     ·rename_i hc
      cases hk
      obtain⟨v,rows,rfl,h2,h3,_⟩:=jqJ ht hks (by simpa using hc) (by simp) hx
      exact⟨_,.cons (.s _ v rows (by simp) h2 h3) .nil⟩
     ·cases hk
    ·cases hk
   ·rename_i fs ht
    split at hk
    ·rename_i ks' hks
     split at hk
     ·rename_i hc
      cases hk
      obtain⟨xs,n,rfl,_,hl,hxl,hf⟩:=DataW.trod_struct ht hx
      have:=jjT (enc:=enc) (w:=w) (base:=base) (spare:=spare) (held:=held) (g:=jg4 P d) (m:=n) (fun t ks cs x h1 h2=>jh6 d t ks n cs x h1 h2) fs.toList 0 ks cs hks (by rw[hl,hc]; omega) (fun f hfm=>by
       obtain⟨i,hi,hfi⟩:=List.mem_iff_getElem.1 hfm
       have hi':i<fs.size:=by simpa using hi
       have h1:=hf i f (by rw[Array.getElem?_eq_getElem hi']; simpa using hfi)
       exact⟨xs[i]'(by omega),by rw[h1,List.getElem?_eq_getElem]⟩)
      simpa using this
     ·cases hk
    ·cases hk
   ·cases hk
end
inductive T1Is (w:World):Value→T1→Prop where
 |d (x:D):T1Is w x.val (.d x)
 |r (v:Value) (c:Cont) (he:0<c.e) (h:jaF w v c):T1Is w v (.r c)
 |xl (v:Value) (X:XC) (h:IsX (fun k=>k<w.heap.size) w v X):T1Is w v (.xl X)
theorem jnQ {w:World} {v:Value} {t:T1} (h:Cell2 w (.d (.i .i64)) v t):∃n:Int,T1Is w v (.d (.i .i64 n))∧inI n:=by
 cases h with
 |d k x h =>
  cases x with
  |i k n =>
   obtain⟨rfl,hw⟩:=h
   exact⟨n,.d _,by unfold inI; simpa [Lit.wf,IntKind.min,IntKind.max,IntKind.signed,IntKind.bits]using hw⟩
  |_=>exact h.elim
theorem jtE {w:World} {v:Value} {t:T1} (h:Cell2 w (.d .s) v t):∃n:ByteArray,T1Is w v (.d (.s n))∧n.size≤maxLen:=by
 cases h with
 |d k x h =>
  cases x with
  |s n=>exact⟨n,.d _,h⟩
  |_=>exact h.elim
theorem jqM {w:World} {n:Nat} {v:Value} {t:T1} (h:Cell2 w (.s (List.replicate n (.i .i64))) v t):∃l:List (List Int),T1Is w v (.r (.recs n l))∧∀r∈l,r.length=n∧∀x∈r,inI x:=by
 cases h with
 |s ks v rows h0 h2 h3 =>
  obtain⟨l,h5,h6,h7⟩:=jqK h2
  subst h5
  rw[List.length_replicate]at h0 h3
  exact⟨l,.r v _ h0 (jnP h3 (by simp[Cont.n]) (jqL fun r hr=>(h7 r hr).1)),h7⟩
theorem jlR {w:World} {v:Value} {t:T1} (h:Cell2 w (.s [.i .i64]) v t):∃l:List Int,T1Is w v (.r (.ints .i64 l))∧∀x∈l,inI x:=by
 obtain⟨l,h2,h3⟩:=jqM (n:=1) h
 cases h2 with
 |r _ _ _ h2 =>
  refine⟨l.map (fun r=>r.getD 0 0),.r v _ (Nat.succ_pos 0) (jnP h2 (by simp[Cont.n]) ?_),fun x hx=>?_⟩
  ·simp only[Cont.flat]
   rename_i he
   clear h2 he
   induction l with
   |nil=>rfl
   |cons r l ih =>
    rw[List.map_cons,List.flatMap_cons,List.flatMap_cons,ih (fun r hr=>h3 r (List.mem_cons_of_mem _ hr))]
    rfl
  ·obtain⟨r,hr,rfl⟩:=List.mem_map.1 hx
   have:=h3 r hr
   match r,this with
   |[y],this=>exact this.2 y (by simp)
theorem t1_of {w:World} {v:Value} {c:Cont} (h:ArgIs w v (.r c)):T1Is w v (.r c):=by
 cases h with
 |r _ _ he h=>exact .r _ _ he h
theorem t1_d {w:World} {v:Value} {x:D} (h:ArgIs w v (.d x)):T1Is w v (.d x):=by
 cases h with
 |d x=>exact .d x
section
variable [Globs]
inductive T2 where
 |c (t:T1)
 |a (l:List T1)
inductive T1sAre (w:World):List Value→List T1→Prop where
 |nil:T1sAre w [] []
 |cons {v:Value} {t:T1} {vs:List Value} {ts:List T1} (h:T1Is w v t) (r:T1sAre w vs ts):T1sAre w (v::vs) (t::ts)
inductive T2Is (w:World):Value→T2→Prop where
 |c {v:Value} {t:T1} (h:T1Is w v t):T2Is w v (.c t)
 |a {vs:List Value} {ts:List T1} (h:T1sAre w vs ts):T2Is w (.agg vs.toArray) (.a ts)
inductive T2sAre (w:World):List Value→List T2→Prop where
 |nil:T2sAre w [] []
 |cons {v:Value} {t:T2} {vs:List Value} {ts:List T2} (h:T2Is w v t) (r:T2sAre w vs ts):T2sAre w (v::vs) (t::ts)
structure TB where
 cs:List C
 hp:Hp
 n:Nat
def T1.bld (n:Nat):T1→TB
 | .d x=>⟨[.d x],[],n⟩
 | .r c=>⟨[.o n],[(n,.ext c)],n+1⟩
 | .xl X=>⟨[.o n],[(n,.xext X)],n+1⟩
def jpc:Nat→List T1→TB
 |n,[]=>⟨[],[],n⟩
 |n,t::l=>let a:=t.bld n; let b:=jpc a.n l; ⟨a.cs++b.cs,b.hp++a.hp,b.n⟩
structure TV where
 vs:List V
 hp:Hp
 n:Nat
def T2.bld (n:Nat):T2→TV
 | .c t=>let a:=t.bld n; ⟨[.w (.c (jf6 a.cs))],a.hp,a.n⟩
 | .a l=>let a:=jpc n l; ⟨[.w (.a a.cs)],a.hp,a.n⟩
def jcr:Nat→List T2→TV
 |n,[]=>⟨[],[],n⟩
 |n,t::l=>let a:=t.bld n; let b:=jcr a.n l; ⟨a.vs++b.vs,b.hp++a.hp,b.n⟩
def Hk (w:World) (v:Value):O→Prop
 | .ext c=>jaF w v c∧0<c.e
 | .xext X=>IsX (fun k=>k<w.heap.size) w v X
 |_=>False
structure TOK (w:World) (n:Nat) (ρ ρ':Env) (vals:List Value) (cs:List C) (hp:Hp) (n':Nat):Prop where
 agree:jae n ρ ρ'
 le:n≤n'
 val:cs.map (C.val ρ')=vals
 lt:∀c∈cs,C.lt n' c
 heap:∀k o,find hp k=some o→n≤k∧k<n'∧Hk w (ρ' k) o
theorem T1.bld_ok {w:World} {v:Value} {t:T1} (h:T1Is w v t) (n:Nat) (ρ:Env):∃ρ',TOK w n ρ ρ' [v] (t.bld n).cs (t.bld n).hp (t.bld n).n:=by
 cases h with
 |d x=>exact⟨ρ,jae.refl _ _,Nat.le_refl _,rfl,(fun c hc=>by simp only[T1.bld,List.mem_singleton]at hc; subst hc; trivial),fun _ _ h=>by cases h⟩
 |r v c he h =>
  refine⟨upd ρ n v,jam _ _ _,Nat.le_succ _,by simp[T1.bld,C.val],(fun c hc=>by simp only[T1.bld,List.mem_singleton]at hc; subst hc; exact Nat.lt_succ_self n),fun k o hf=>?_⟩
  simp only[T1.bld,find]at hf
  split at hf
  ·rename_i e
   subst e
   cases hf
   exact⟨Nat.le_refl _,Nat.lt_succ_self _,by rw[upd_same]; exact⟨h,he⟩⟩
  ·cases hf
 |xl v X h =>
  refine⟨upd ρ n v,jam _ _ _,Nat.le_succ _,by simp[T1.bld,C.val],(fun c hc=>by simp only[T1.bld,List.mem_singleton]at hc; subst hc; exact Nat.lt_succ_self n),fun k o hf=>?_⟩
  simp only[T1.bld,find]at hf
  split at hf
  ·rename_i e
   subst e
   cases hf
   exact⟨Nat.le_refl _,Nat.lt_succ_self _,by rw[upd_same]; exact h⟩
  ·cases hf
theorem TOK.append {w:World} {n n1 n2:Nat} {ρ ρ1 ρ2:Env} {a b:List Value} {ca cb:List C} {ha hb:Hp} (h1:TOK w n ρ ρ1 a ca ha n1) (h2:TOK w n1 ρ1 ρ2 b cb hb n2):TOK w n ρ ρ2 (a++b) (ca++cb) (hb++ha) n2:=by
 refine⟨h1.agree.trans h2.agree h1.le,Nat.le_trans h1.le h2.le,?_,?_,?_⟩
 ·rw[List.map_append,h2.val,←h1.val]
  congr 1
  exact List.map_congr_left fun c hc=>C.val_agree h2.agree (h1.lt c hc)
 ·intro c hc
  rcases List.mem_append.1 hc with hc|hc
  ·exact C.lt_mono h2.le (h1.lt c hc)
  ·exact h2.lt c hc
 ·intro k o hf
  rw[jau]at hf
  cases hg:find hb k with
  |some o2 =>
   rw[hg]at hf
   cases hf
   obtain⟨q1,q2,q3⟩:=h2.heap k o hg
   exact⟨Nat.le_trans h1.le q1,q2,q3⟩
  |none =>
   rw[hg]at hf
   obtain⟨q1,q2,q3⟩:=h1.heap k o hf
   exact⟨q1,Nat.lt_of_lt_of_le q2 h2.le,by rw[h2.agree k q2]; exact q3⟩
theorem jAm {w:World} {vs:List Value} {ts:List T1} (h:T1sAre w vs ts):∀(n:Nat) (ρ:Env),∃ρ',TOK w n ρ ρ' vs (jpc n ts).cs (jpc n ts).hp (jpc n ts).n:=by
 induction h with
 |nil=>exact fun n ρ=>⟨ρ,jae.refl _ _,Nat.le_refl _,rfl,(fun _ h=>by cases h),fun _ _ h=>by cases h⟩
 |cons h r ih =>
  intro n ρ
  obtain⟨ρ1,k1⟩:=T1.bld_ok h n ρ
  obtain⟨ρ2,k2⟩:=ih _ ρ1
  exact⟨ρ2,k1.append k2⟩
structure TVOK (w:World) (n:Nat) (ρ ρ':Env) (vals:List Value) (vs:List V) (hp:Hp) (n':Nat):Prop where
 agree:jae n ρ ρ'
 le:n≤n'
 val:vs.map (V.val ρ')=vals
 lt:∀c∈vs,V.lt n' c
 heap:∀k o,find hp k=some o→n≤k∧k<n'∧Hk w (ρ' k) o
theorem T2.bld_ok {w:World} {v:Value} {t:T2} (h:T2Is w v t) (n:Nat) (ρ:Env):∃ρ',TVOK w n ρ ρ' [v] (t.bld n).vs (t.bld n).hp (t.bld n).n:=by
 cases h with
 | @c v t h =>
  obtain⟨ρ',k⟩:=T1.bld_ok h n ρ
  have hone:∃c,(t.bld n).cs=[c]:=by cases t<;>exact⟨_,rfl⟩
  obtain⟨c,hc⟩:=hone
  have hval:=k.val
  have hlt:=k.lt
  rw[hc]at hval hlt
  refine⟨ρ',k.agree,k.le,?_,?_,k.heap⟩
  ·simp only[T2.bld,hc,jf6,List.map_cons,List.map_nil,V.val,W.val]
   simpa using hval
  ·intro y hy
   simp only[T2.bld,hc,jf6,List.mem_singleton]at hy
   subst hy
   exact hlt c List.mem_cons_self
 | @a vs ts h =>
  obtain⟨ρ',k⟩:=jAm h n ρ
  refine⟨ρ',k.agree,k.le,?_,?_,k.heap⟩
  ·simp only[T2.bld,List.map_cons,List.map_nil,V.val,W.val,k.val]
  ·intro y hy
   simp only[T2.bld,List.mem_singleton]at hy
   subst hy
   exact k.lt
theorem jAn {w:World} {vs:List Value} {ts:List T2} (h:T2sAre w vs ts):∀(n:Nat) (ρ:Env),∃ρ',TVOK w n ρ ρ' vs (jcr n ts).vs (jcr n ts).hp (jcr n ts).n:=by
 induction h with
 |nil=>exact fun n ρ=>⟨ρ,jae.refl _ _,Nat.le_refl _,rfl,(fun _ h=>by cases h),fun _ _ h=>by cases h⟩
 | @cons v t vs ts h r ih =>
  intro n ρ
  obtain⟨ρ1,k1⟩:=T2.bld_ok h n ρ
  obtain⟨ρ2,k2⟩:=ih (t.bld n).n ρ1
  refine⟨ρ2,k1.agree.trans k2.agree k1.le,Nat.le_trans k1.le k2.le,?_,?_,?_⟩
  ·simp only[jcr,List.map_append,k2.val]
   have:(t.bld n).vs.map (V.val ρ2)=[v]:=by
    rw[←k1.val]
    exact List.map_congr_left fun c hc=>V.val_agree k2.agree (k1.lt c hc)
   rw[this]
   rfl
  ·intro c hc
   rcases List.mem_append.1 hc with hc|hc
   ·exact V.lt_mono k2.le (k1.lt c hc)
   ·exact k2.lt c hc
  ·intro k o hf
   have hf:find ((jcr (t.bld n).n ts).hp++(t.bld n).hp) k=some o:=hf
   rw[jau]at hf
   cases hg:find (jcr (t.bld n).n ts).hp k with
   |some o2 =>
    rw[hg]at hf
    cases hf
    obtain⟨q1,q2,q3⟩:=k2.heap k o hg
    exact⟨Nat.le_trans k1.le q1,q2,q3⟩
   |none =>
    rw[hg]at hf
    obtain⟨q1,q2,q3⟩:=k1.heap k o hf
    exact⟨q1,Nat.lt_of_lt_of_le q2 k2.le,by rw[k2.agree k q2]; exact q3⟩
theorem jwV {P:Program} {w:World} {f:Nat} {shs:List SV} {g:List Lf→Option GT} {vs:List Value} {ts:List T2} {ls:List Lf} {am:List C} {ob:Prop} {b:Bool} {fn:Func} (hok:jaf P f true (jag shs g)) (hargs:T2sAre w vs ts)
  (hto:jjj (jcr 0 ts).hp shs (jcr 0 ts).vs=some (ls,am)) (hg:g ls=some (.leaf ob [.c (.d (.b b))])) (ho:ob) (hb:b=true)
  (hfn:P.funcs[f]?=some fn) (hbody:fn.body=some (fn.body.getD .skip)) (hn:(fn.name == "runtime.NumGoroutine")=false) (hgl:jb1 (fun k=>k<w.heap.size) w) :
  Calls P f vs.toArray w fun e w'=>e=.returned (.bool true)∧Below w.heap.size w w':=by
 subst hb
 obtain⟨ρ,k⟩:=jAn hargs 0 (fun _=>undef)
 have hh:HRel ρ (kd fun k=>k<w.heap.size) (jcr 0 ts).hp (jcr 0 ts).n w:=by
  refine⟨fun x o hf=>?_,fun x o x' o' q hf hf' _ hb=>?_,hgl⟩
  ·obtain⟨_,q2,q3⟩:=k.heap x o hf
   cases o with
   |ext c=>exact⟨q2,trivial,q3.1,jaF.lt q3.1 q3.2⟩
   |xext X=>exact⟨q2,trivial,q3⟩
   |_=>exact q3.elim
  ·obtain⟨_,_,q3⟩:=k.heap x o hf
   cases o with
   |ext c=>cases hb
   |xext X=>cases hb
   |_=>exact q3.elim
 have:=(hok.sound hfn hbody hn).sound ρ (kd fun k=>k<w.heap.size) w (jcr 0 ts).vs (jcr 0 ts).hp (jcr 0 ts).n ((GT.leaf ob [.c (.d (.b true))]).toRT am (jcr 0 ts).hp (jcr 0 ts).n) (by
  unfold jag
  rw[hto]
  dsimp only
  rw[hg]) ho k.lt hh (fun k hk=>jbD.1 hk)
 rw[k.val]at this
 refine this.mono ?_
 rintro e w' ⟨ρ',rfl,hl⟩
 exact⟨rfl,hl.mono rfl⟩
end
end Go.Sx
end

section
namespace Go.Sx
open Go.RowKit Go.ChangeShapes Go.WideShapes
def jAE (w:World) (ks:List K2) (v:Value):Prop :=
 ∃(n:Nat) (us:Nat→List Value) (ts:Nat→List T1) (a:Option Addr) (cap:Nat),(∀i,i<n→Cells2 w ks (us i) (ts i))∧v=.slice a n cap∧(n≤cap∧(a=none→cap=0)) ∧
  (0<n→∃b off,a=some ⟨b,off,none⟩∧b<w.heap.size∧∀i j,i<n→j<ks.length→w.cell? ⟨b,off+(i*ks.length+j),none⟩=(us i)[j]?)
inductive K3 where
 |k (k:K2)
 |x (ks:List K2)
inductive Cell3 (w:World):K3→Value→Prop where
 |k (k:K2) (v:Value) (t:T1) (h:Cell2 w k v t):Cell3 w (.k k) v
 |x (ks:List K2) (v:Value) (h0:0<ks.length) (h:jAE w ks v):Cell3 w (.x ks) v
inductive Cells3 (w:World):List K3→List Value→Prop where
 |nil:Cells3 w [] []
 |cons {k:K3} {v:Value} {ks:List K3} {vs:List Value} (h:Cell3 w k v) (r:Cells3 w ks vs):Cells3 w (k::ks) (v::vs)
theorem Cells3.append {w:World} {ks ks':List K3} {vs vs':List Value} (h:Cells3 w ks vs) (h':Cells3 w ks' vs'):Cells3 w (ks++ks') (vs++vs'):=by
 induction h with
 |nil=>exact h'
 |cons h r ih=>exact .cons h ih
theorem jAo {w:World} {ks:List K2} {vs:List Value} {ts:List T1} (h:Cells2 w ks vs ts):Cells3 w (ks.map .k) vs:=by
 induction h with
 |nil=>exact .nil
 |cons h r ih=>exact .cons (.k _ _ _ h) ih
def je7 (g:TypeId→Option (List K3)) (P:Program):Nat→List Field→Option (List K3)
 |_,[]=>some []
 |n,f::fs=>match g f.type with
  |none=>none
  |some ks=>if f.offset=n∧P.cellsOf f.type=ks.length then(je7 g P (n+ks.length) fs).map (ks ++ ·)else none
def jlS (P:Program):Nat→TypeId→Option (List K3)
 |0,_=>none
 |d+1,t=>match jg4 P d t with
  |some ks=>some (ks.map .k)
  |none=>match P.underlying t with
   |some (.slice e)=>match jg4 P d e with
    |some (k::ks)=>if P.cellsOf e=ks.length+1 then some [.x (k::ks)]else none
    |_=>none
   |some (.struct fs)=>match je7 (jlS P d) P 0 fs.toList with
    |some ks=>if P.cellsOf t=ks.length then some ks else none
    |none=>none
   |_=>none
theorem Cells2.len {w:World} {ks:List K2} {vs:List Value} {ts:List T1} (h:Cells2 w ks vs ts):vs.length=ks.length∧ts.length=ks.length:=by
 induction h with
 |nil=>exact⟨rfl,rfl⟩
 |cons h r ih=>exact⟨by simp[ih.1],by simp[ih.2]⟩
section
variable {H:Type} {enc:TypeId × Value→H} {P:Program} {w:World} {base:Nat} {spare:Nat→Bool} {held:Bool}
theorem jwW {t e:TypeId} {ks:List K2} {d fuel:Nat} {cs:List Value} {x:DataW H × List MemPlace} (ht:P.underlying t=some (.slice e)) (hk:jg4 P d e=some ks) (hc:P.cellsOf e=ks.length) (h0:0<ks.length)
  (hx:DataW.trod enc P w base spare held fuel t cs=some x):∃v,cs=[v]∧jAE w ks v:=by
 rcases DataW.trod_slice ht hx with ⟨rfl,rfl⟩|⟨a,len,cap,elems,rest,n,rfl,rfl,rfl,hb,hl,hm,hel,hi,_,_⟩
 ·exact⟨_,rfl,0,fun _=>[],fun _=>[],none,0,fun i hi=>by omega,rfl,⟨Nat.le_refl _,fun _=>rfl⟩,fun h=>by omega⟩
 ·have hget:∀i,i<len→∃p:List Value × List T1,Cells2 w ks p.1 p.2∧∀j,j<ks.length→w.cell? ((a.add (i*ks.length)).add j)=p.1[j]?:=fun i hil=>by
   have h1:=hi i hil
   rw[hc]at h1
   have h2:elems[i]?=some (elems[i]'(by omega)):=List.getElem?_eq_getElem (by omega)
   rw[h2]at h1
   obtain⟨cs',hcs,htr⟩:=Option.bind_eq_some_iff.1 h1
   obtain⟨ts,hts⟩:=jh6 d e ks n cs' _ hk htr
   obtain⟨_,hcl,hat⟩:=World.cells?_some hcs
   exact⟨(cs',ts),hts,fun j hj=>hat j hj⟩
  let R:Nat→List Value × List T1:=fun i=>if h:i<len then Classical.choose (hget i h)else([],[])
  have hR:∀i (h:i<len),Cells2 w ks (R i).1 (R i).2∧∀j,j<ks.length→w.cell? ((a.add (i*ks.length)).add j)=(R i).1[j]?:=fun i h=>by
   have e:R i=Classical.choose (hget i h):=dif_pos h
   rw[e]
   exact Classical.choose_spec (hget i h)
  refine⟨_,rfl,len,fun i=>(R i).1,fun i=>(R i).2,some a,cap,fun i h=>(hR i h).1,rfl,⟨hl,fun h=>by cases h⟩,fun hn=>?_⟩
  have hlen:=(hR 0 hn).1.len.1
  have hcell0:w.cell? ((a.add (0*ks.length)).add 0)=some ((R 0).1[0]'(by omega)):=by
   rw[(hR 0 hn).2 0 h0,List.getElem?_eq_getElem]
  have hsp:a.spot=none:=by
   have h1:=hcell0
   simp[Addr.add]at h1
   cases hs:a.spot with
   |none=>rfl
   |some s =>
    exfalso
    unfold World.cell? at h1
    simp only[hs]at h1
    split at h1
    ·simp at h1
    ·cases h1
  obtain⟨b,off,sp⟩:=a
  simp only at hsp
  subst hsp
  refine⟨b,off,rfl,?_,fun i j hi hj=>?_⟩
  ·have h1:=hcell0
   rw[jaK,jaK]at h1
   exact World.block_lt_of_cell? w _ h1
  ·have:=(hR i hi).2 j hj
   rw[jaK,jaK,Nat.add_assoc]at this
   exact this
theorem jjU {g:TypeId→Option (List K3)} {m:Nat} (ih:∀t ks cs x,g t=some ks→DataW.trod enc P w base spare held m t cs=some x→Cells3 w ks cs) :
  ∀(fs:List Field) (n:Nat) (ks:List K3) (cs:List Value),je7 g P n fs=some ks→cs.length=n+ks.length→(∀f∈fs,∃x,DataW.trod enc P w base spare held m f.type ((cs.drop f.offset).take (P.cellsOf f.type))=some x) →
   Cells3 w ks (cs.drop n)
 |[],n,ks,cs,hk,hl,_=>by
  simp only[je7,Option.some.injEq]at hk
  subst hk
  simp at hl
  rw[List.drop_eq_nil_of_le (by omega)]
  exact .nil
 |f::fs,n,ks,cs,hk,hl,h=>by
  simp only[je7]at hk
  split at hk
  ·cases hk
  ·rename_i kf hg
   split at hk
   ·rename_i hc
    cases hr:je7 g P (n+kf.length) fs with
    |none=>simp[hr]at hk
    |some kr =>
     simp only[hr,Option.map_some,Option.some.injEq]at hk
     subst hk
     obtain⟨x,hx⟩:=h f List.mem_cons_self
     rw[hc.1,hc.2]at hx
     have h0:=ih f.type kf _ x hg hx
     have h1:=jjU ih fs (n+kf.length) kr cs hr (by rw[hl,List.length_append]; omega) (fun f' hf'=>h f' (List.mem_cons_of_mem _ hf'))
     have e:cs.drop n=(cs.drop n).take kf.length++cs.drop (n+kf.length):=by rw[←List.drop_drop]; exact(List.take_append_drop _ _).symm
     rw[e]
     exact h0.append h1
   ·cases hk
theorem jmY:∀(d:Nat) (t:TypeId) (ks:List K3) (fuel:Nat) (cs:List Value) (x:DataW H × List MemPlace),jlS P d t=some ks→DataW.trod enc P w base spare held fuel t cs=some x→Cells3 w ks cs
 |0,_,_,_,_,_,h,_=>by cases h
 |d+1,t,ks,fuel,cs,x,hk,hx=>by
  unfold jlS at hk
  split at hk
  ·rename_i ks' hks
   cases hk
   obtain⟨ts,h2⟩:=jh6 d t ks' fuel cs x hks hx
   exact jAo h2
  ·split at hk
   ·rename_i e ht
    split at hk
    ·rename_i k ks' hks
     split at hk
     ·rename_i hc
      cases hk
      obtain⟨v,rfl,h2⟩:=jwW ht hks (by simpa using hc) (by simp) hx
      exact .cons (.x _ v (by simp) h2) .nil
     ·cases hk
    ·cases hk
   ·rename_i fs ht
    split at hk
    ·rename_i ks' hks
     split at hk
     ·rename_i hc
      cases hk
      obtain⟨xs,n,rfl,_,hl,hxl,hf⟩:=DataW.trod_struct ht hx
      have:=jjU (enc:=enc) (w:=w) (base:=base) (spare:=spare) (held:=held) (g:=jlS P d) (m:=n) (fun t ks cs x h1 h2=>jmY d t ks n cs x h1 h2) fs.toList 0 ks cs hks (by rw[hl,hc]; omega) (fun f hfm=>by
       obtain⟨i,hi,hfi⟩:=List.mem_iff_getElem.1 hfm
       have hi':i<fs.size:=by simpa using hi
       have h1:=hf i f (by rw[Array.getElem?_eq_getElem hi']; simpa using hfi)
       exact⟨xs[i]'(by omega),by rw[h1,List.getElem?_eq_getElem]⟩)
      simpa using this
     ·cases hk
    ·cases hk
   ·cases hk
theorem jwX {r:Reach} {b0:Nat} {t:TypeId} {d:Nat} {ks:List K3} {v:Value} {x:DataW H} {p:List MemPlace} (ht:jbm P t=some true) (hk:jlS P d t=some ks)
  (hval:Value.okWide P w r b0 t v) (h:DataW.Trod enc P w base spare held t v x p):∃vs,v=.agg (List.toArray vs)∧Cells3 w ks vs:=by
 obtain⟨fuel,hx⟩:=h
 have h1:=jmY d t ks fuel _ _ hk hx
 have hv:∃cs,v=.agg cs:=by
  unfold Value.okWide at hval
  cases hU:P.underlying t with
  |none=>simp[jbm,hU]at ht
  |some u =>
   rw[hU]at hval
   cases u with
   |struct fs=>obtain⟨cs,h,_⟩:=hval; exact⟨cs,h⟩
   |array n e=>obtain⟨cs,h,_⟩:=hval; exact⟨cs,h⟩
   |_=>simp[jbm,hU]at ht
 obtain⟨cs,rfl⟩:=hv
 exact⟨cs.toList,by simp,h1⟩
end
def T1.nc:T1→NC
 | .d x=>.d x
 | .r c=>.r c
 | .xl _=>.d (.v undef)
section
variable [Globs]
theorem jhq {w:World} {v:Value} {t:T1} (h:T1Is w v t) (hx:∀X,t≠.xl X):t.nc.at (fun k=>k<w.heap.size) w v:=by
 cases h with
 |d x=>exact rfl
 |r v c he h=>exact⟨h,jaF.lt h he⟩
 |xl v X h=>exact(hx X rfl).elim
abbrev jwY:List K2:=[.d .s,.d (.i .i64),.s [.i .i64],.s [.i .i64],.s [.i .i64],.d (.i .i64),.s (List.replicate 5 (.i .i64)),.d (.i .i64)]
abbrev jfl:List NK:=[.s,.i .i64,.ints .i64,.ints .i64,.ints .i64,.i .i64,.recs 5,.i .i64]
theorem jnR {w:World} {vs:List Value} {ts:List T1} (h:Cells2 w jwY vs ts):∃r:List NC,jcg jfl r∧r.length=8∧vs.length=8∧∀j u,vs[j]?=some u→(r.getD j (.d (.v undef))).at (fun k=>k<w.heap.size) w u:=by
 rcases h with _|⟨k0,r0⟩
 rcases r0 with _|⟨k1,r1⟩
 rcases r1 with _|⟨k2,r2⟩
 rcases r2 with _|⟨k3,r3⟩
 rcases r3 with _|⟨k4,r4⟩
 rcases r4 with _|⟨k5,r5⟩
 rcases r5 with _|⟨k6,r6⟩
 rcases r6 with _|⟨k7,r7⟩
 cases r7
 obtain⟨a0,e0,_⟩:=jtE k0
 obtain⟨a1,e1,_⟩:=jnQ k1
 obtain⟨a2,e2,_⟩:=jlR k2
 obtain⟨a3,e3,_⟩:=jlR k3
 obtain⟨a4,e4,_⟩:=jlR k4
 obtain⟨a5,e5,_⟩:=jnQ k5
 obtain⟨a6,e6,_⟩:=jqM k6
 obtain⟨a7,e7,_⟩:=jnQ k7
 refine⟨[.d (.s a0),.d (.i .i64 a1),.r (.ints .i64 a2),.r (.ints .i64 a3),.r (.ints .i64 a4),.d (.i .i64 a5),.r (.recs 5 a6),.d (.i .i64 a7)],⟨rfl,fun j k x hk hx=>?_⟩,rfl,rfl,fun j u hu=>?_⟩
 ·match j,hk,hx with
  |0,hk,hx=>cases hk; cases hx; rfl
  |1,hk,hx=>cases hk; cases hx; rfl
  |2,hk,hx=>cases hk; cases hx; rfl
  |3,hk,hx=>cases hk; cases hx; rfl
  |4,hk,hx=>cases hk; cases hx; rfl
  |5,hk,hx=>cases hk; cases hx; rfl
  |6,hk,hx=>cases hk; cases hx; rfl
  |7,hk,hx=>cases hk; cases hx; rfl
  |j+8,hk,hx=>simp at hk
 ·match j,hu with
  |0,hu=>cases hu; exact jhq e0 (fun X h=>by cases h)
  |1,hu=>cases hu; exact jhq e1 (fun X h=>by cases h)
  |2,hu=>cases hu; exact jhq e2 (fun X h=>by cases h)
  |3,hu=>cases hu; exact jhq e3 (fun X h=>by cases h)
  |4,hu=>cases hu; exact jhq e4 (fun X h=>by cases h)
  |5,hu=>cases hu; exact jhq e5 (fun X h=>by cases h)
  |6,hu=>cases hu; exact jhq e6 (fun X h=>by cases h)
  |7,hu=>cases hu; exact jhq e7 (fun X h=>by cases h)
  |j+8,hu=>simp at hu
theorem jwZ {w:World} {v:Value} (h:Cell3 w (.x jwY) v):∃l:List (List NC),T1Is w v (.xl (.st jfl l)):=by
 cases h with
 |x ks v h0 h =>
  obtain⟨n,us,ts,a,cap,h1,rfl,h3,h4⟩:=h
  let R:Nat→List NC:=fun i=>if h:i<n then Classical.choose (jnR (h1 i h))else[]
  have hR:∀i (h:i<n),jcg jfl (R i)∧(R i).length=8∧(us i).length=8∧∀j u,(us i)[j]?=some u→((R i).getD j (.d (.v undef))).at (fun k=>k<w.heap.size) w u:=fun i h=>by
   have e:R i=Classical.choose (jnR (h1 i h)):=dif_pos h
   rw[e]
   exact Classical.choose_spec (jnR (h1 i h))
  have hrows:∀r∈(List.range n).map R,jcg jfl r:=fun r hr=>by
   obtain⟨i,hi,rfl⟩:=List.mem_map.1 hr
   exact(hR i (List.mem_range.1 hi)).1
  obtain⟨m1,m2,m3⟩:=(XC.st jfl []).cell_mk hrows
  have m1:(XC.st jfl ((List.range n).map R)).n=((List.range n).map R).length:=m1
  have m3:∀i j,i<((List.range n).map R).length→j<8→(XC.st jfl ((List.range n).map R)).cell i j=(((List.range n).map R).getD i []).getD j (.d (.v undef)):=m3
  have hn:(XC.st jfl ((List.range n).map R)).n=n:=by rw[m1]; simp
  refine⟨(List.range n).map R,.xl _ _ ⟨a,cap,by rw[hn],by rw[hn]; exact h3,fun h=>?_⟩⟩
  rw[hn]at h
  obtain⟨b,off,rfl,hb,hc⟩:=h4 h
  refine⟨b,off,rfl,hb,fun i j hi hj=>?_⟩
  rw[hn]at hi
  have hj:j<8:=hj
  obtain⟨_,q2,q3,q4⟩:=hR i hi
  have hu:(us i)[j]?=some ((us i)[j]'(by omega)):=List.getElem?_eq_getElem (by omega)
  refine⟨_,(hc i j hi hj).trans hu,?_⟩
  rw[m3 i j (by simpa using hi) hj]
  have:((List.range n).map R).getD i []=R i:=by simp[List.getD,hi]
  rw[this]
  exact q4 j _ hu
end
end Go.Sx
end
