/- Part 5 of the proof of EngineOrders: the executor, the mirrors of the functions, the plain facts. -/
import Derived.Test.YtigliehhpdpaoaaGreatPD
import Derived.RangeFuncNested
import Derived.RangeFuncBound
import Derived.RangeFuncCalls
import Derived.RangeFuncLeaves
import Derived.OwnWalkIn
import Derived.TacticsInMore
import Derived.OrdersIn
set_option maxRecDepth 100000
set_option linter.unusedSectionVars false
set_option linter.unusedSimpArgs false
set_option linter.unusedVariables false
section
namespace Go.Sx09
open Go Go.Proofs Go.RowKit Go.Shelf Go.Sx
attribute [local go_sem] Oper.semAt_some
structure KpS (K:Nat→Prop) (A C:World):Prop where
 size:A.heap.size≤C.heap.size
 same:∀k o,K k→A.heap[k]?=some o→o.isCells=true→C.heap[k]?=some o
theorem jwH {K:Nat→Prop} {A B C:World} (h:KpS K A B) (k:KpS K B C):KpS K A C:=⟨Nat.le_trans h.size k.size,fun x o hx ho hc=>k.same x o hx (h.same x o hx ho hc) hc⟩
theorem jwI {K:Nat→Prop} {w:World} (W:World) (l:Nat) (o o':Obj) (_:w.heap.size≤l) (h:W.heap[l]?=some o) (hc:o.isCells=false) (_:o.isWalk=false):KpS K W (W.putObj l o') :=
 ⟨by simp,fun k u _ hk hu=>by
  have hne:l≠k:=fun e=>by subst e;rw[h]at hk;cases hk;rw[hc]at hu;cases hu
  exact(World.putObj_heap_other (fun e=>hne e.symm)).trans hk⟩
theorem jye {K:Nat→Prop} {A B:World} (h:Below A.heap.size A B):KpS K A B:=⟨h.size,fun k o _ hk _=>(h.block k (Array.getElem?_eq_some_iff.1 hk).1).trans hk⟩
def needL (L:List Int) (st:Int):List Int:=if st=-1 then L else L++[st]
def stN (y:Value) (L:List Int) (v:List Value) (st:Int) (k:Nat):St :=
 ⟨[(18,vi .i64 k),(17,vi .i64 L.length),(16,.w (.c (.o 0))),(4,.w (.c (.p 1 0 1 0))),(0,.w (.c (.d (.v y))))],[(0,.ext (.ints .i64 L)),(1,.ebox (v.map (fun x=>C.d (.v x))++[.d (.i .i64 st)]))],2⟩
def stNc (y:Value) (L:List Int) (v:List Value) (st:Int) (k:Nat):St:=⟨(19,vb (decide ((k:Int)<L.length)))::(stN y L v st k).tm,(stN y L v st k).hp,2⟩
def stNd (y:Value) (L:List Int) (v:List Value) (st:Int) (k:Nat):St:=⟨(6,vi .i64 (L.getD k 0))::(stN y L v st k).tm,(stN y L v st k).hp,2⟩
def stNe (y:Value) (L:List Int) (v:List Value) (st:Int) (k:Nat):St:=⟨(29,vb (st != -1))::(stN y L v st k).tm,(stN y L v st k).hp,2⟩
abbrev pn (c:Code) (st st2:St):Prop:=sx Tryz.prog (fun _=>none) 34 2 0 (fun _ _ _=>none) (fun _ _ _=>False) c 0 [] st (fun e st'=>match e with | .normal=>Le 2 st' st2|_=>False)
section
variable (y:Value) (L:List Int) (v0 v1 v2 v3 v4 v5 v6:Value) (st:Int) (k:Nat)
theorem pn1:pn (sub [1,0,1,0,0,0] (bodyOf Tryz.f132)) (stN y L [v0,v1,v2,v3,v4,v5,v6] st k) (stNc y L [v0,v1,v2,v3,v4,v5,v6] st k):=by
 refine Eq.mp (by kernel_rfl:(Ob ((decide ((k:Int)<L.length))=decide ((k:Int)<L.length))∧Ob ((k:Int)=k)∧Ob ((L.length:Int)=L.length)∧Ob ((0:Nat)=0)∧Ob (y=y)∧Ob (L=L)∧Ob (v0=v0)∧Ob (v1=v1)∧Ob (v2=v2)∧Ob (v3=v3)∧Ob (v4=v4)∧Ob (v5=v5)∧Ob (v6=v6)∧Ob (st=st)∧True)=_) ?_;exact⟨⟨rfl⟩,⟨rfl⟩,⟨rfl⟩,⟨rfl⟩,⟨rfl⟩,⟨rfl⟩,⟨rfl⟩,⟨rfl⟩,⟨rfl⟩,⟨rfl⟩,⟨rfl⟩,⟨rfl⟩,⟨rfl⟩,⟨rfl⟩,trivial⟩
theorem pn2 (hk:k<L.length):pn (sub [1,0,1,0,0,1,1,0,0,0] (bodyOf Tryz.f132)) (stNc y L [v0,v1,v2,v3,v4,v5,v6] st k) (stNd y L [v0,v1,v2,v3,v4,v5,v6] st k):=by
 refine Eq.mp (by kernel_rfl:(Ob (0≤(k:Int)∧(k:Int)<(L.length:Int))∧Ob ((k:Int).toNat<L.length)∧Ob (L.getD (k:Int).toNat 0=L.getD k 0)∧Ob ((k:Int)=k)∧Ob ((L.length:Int)=L.length)∧Ob ((0:Nat)=0)∧Ob (y=y)∧Ob (L=L)∧Ob (v0=v0)∧Ob (v1=v1)∧Ob (v2=v2)∧Ob (v3=v3)∧Ob (v4=v4)∧Ob (v5=v5)∧Ob (v6=v6)∧Ob (st=st)∧True)=_) ?_;exact⟨⟨by omega⟩,⟨by omega⟩,⟨rfl⟩,⟨rfl⟩,⟨rfl⟩,⟨rfl⟩,⟨rfl⟩,⟨rfl⟩,⟨rfl⟩,⟨rfl⟩,⟨rfl⟩,⟨rfl⟩,⟨rfl⟩,⟨rfl⟩,⟨rfl⟩,⟨rfl⟩,trivial⟩
theorem pn3 (hk:(k:Int)+1≤9223372036854775807):pn (sub [1,0,1,0,0,1,1,1] (bodyOf Tryz.f132)) (stN y L [v0,v1,v2,v3,v4,v5,v6] st k) (stN y L [v0,v1,v2,v3,v4,v5,v6] st (k+1)):=by
 refine Eq.mp (by kernel_rfl:(Ob (IntKind.i64.wrap ((k:Int)+1)=((k+1:Nat):Int))∧Ob ((L.length:Int)=L.length)∧Ob ((0:Nat)=0)∧Ob (y=y)∧Ob (L=L)∧Ob (v0=v0)∧Ob (v1=v1)∧Ob (v2=v2)∧Ob (v3=v3)∧Ob (v4=v4)∧Ob (v5=v5)∧Ob (v6=v6)∧Ob (st=st)∧True)=_) ?_;refine⟨⟨?_⟩,⟨rfl⟩,⟨rfl⟩,⟨rfl⟩,⟨rfl⟩,⟨rfl⟩,⟨rfl⟩,⟨rfl⟩,⟨rfl⟩,⟨rfl⟩,⟨rfl⟩,⟨rfl⟩,⟨rfl⟩,trivial⟩;rw[IntWalk.i64_in _ (by omega)];omega
theorem pn4:pn (sub [1,1,0] (bodyOf Tryz.f132)) (stN y L [v0,v1,v2,v3,v4,v5,v6] st k) (stNe y L [v0,v1,v2,v3,v4,v5,v6] st k):=by
 refine Eq.mp (by kernel_rfl:(Ob True∧Ob ((st != (-1:Int))=(st != (-1:Int)))∧Ob ((k:Int)=k)∧Ob ((L.length:Int)=L.length)∧Ob ((0:Nat)=0)∧Ob (y=y)∧Ob (L=L)∧Ob (v0=v0)∧Ob (v1=v1)∧Ob (v2=v2)∧Ob (v3=v3)∧Ob (v4=v4)∧Ob (v5=v5)∧Ob (v6=v6)∧Ob (st=st)∧True)=_) ?_;exact⟨⟨trivial⟩,⟨rfl⟩,⟨rfl⟩,⟨rfl⟩,⟨rfl⟩,⟨rfl⟩,⟨rfl⟩,⟨rfl⟩,⟨rfl⟩,⟨rfl⟩,⟨rfl⟩,⟨rfl⟩,⟨rfl⟩,⟨rfl⟩,⟨rfl⟩,trivial⟩
end
theorem jec {ρ:Env} {B:Kd} {N n0:Nat} {st:St} {a:Act} {w:World} {t:Nat} {v:V} (h:Rel ρ B N n0 st a w) (hv:v.lt st.nx) (hlt:t<N):Rel ρ B N n0 ⟨(t,v)::st.tm,st.hp,st.nx⟩ (a.put (some t) (v.val ρ)) w:=by
 refine⟨fun x u hx=>?_,by rw[jbu];exact h.size,by rw[jcM];exact h.defers,h.heap,h.le,h.n0⟩;simp only[jav]at hx;rw[jbH (fun y hy=>by cases hy;rw[h.size];exact hlt)];split at hx
 ·rename_i e;subst e;cases hx;exact⟨hv,by rw[if_pos rfl]⟩
 ·rename_i e;rw[if_neg (fun e'=>e (Option.some.inj e'))];exact h.tm x u hx
theorem js1 {o:Oper} {v:Value} {n:Nat} {a:Act} {w:World} {K:Act→World→Prop} {Q:Exit→Act→World→Prop} (h:(execOp a.eval o).run Tryz.prog w=.ok (.value v) w) (hK:K (a.put o.dst v) w):o.wpIn Fence.wide n Tryz.prog a w K Q:=by
 refine⟨fun _ _=>trivial,?_⟩;rw[Fence.wide_round,Oper.semAt_none,h];exact hK
theorem jb2 {o:Oper} {t n N n0:Nat} {ob:Prop} {v:V} {ρ:Env} {B:Kd} {st:St} {a:Act} {w:World} {K:Act→World→Prop} {Q:Exit→Act→World→Prop} (hr:Rel ρ B N n0 st a w) (hs:ja1 Tryz.prog o.op (jce st) st.hp=some (ob,v)) (hob:ob) (hd:o.dst=some t) (ht:t<N)
  (hK:∀a',Rel ρ B N n0 ⟨(t,v)::st.tm,st.hp,st.nx⟩ a' w→K a' w):o.wpIn Fence.wide n Tryz.prog a w K Q:=by
 obtain⟨B',_,hh⟩:=hr.heap;have h1:=jfx hh hr.reads hs hob;refine js1 h1.1 ?_;rw[hd];exact hK _ (jec hr h1.2 ht)
theorem jvr {ρ:Env} {B:Kd} {N n0:Nat} {s s0:St} {a:Act} {w:World} (h:Rel ρ B N n0 s0 a w) (ht:∀t v,jav s.tm t=some v→jav s0.tm t=some v) (hh:s.hp=s0.hp) (hn:s.nx=s0.nx):Rel ρ B N n0 s a w :=
 ⟨fun t v hv=>by rw[hn];exact h.tm t v (ht t v hv),h.size,h.defers,by rw[hh,hn];exact h.heap,h.le,by rw[hn];exact h.n0⟩
structure BetN (K:Nat→Prop) (y:Value) (L:List Int) (v:List Value) (st:Int) (k:Nat) (a:Act) (w:World):Prop where
 rel:∃ρ,Rel ρ (kd fun x=>x<w.heap.size) 34 2 (stN y L v st k) a w∧(∀ad n cap,ρ 0=.slice (some ad) n cap→0<n→K ad.block)∧∀b o,ρ 1=.pointer (some ⟨b,o,none⟩)→K b
theorem jl0 {K:Nat→Prop} {ρ:Env} {B:Kd} {L:List Int} {v:List Value} {st:Int} {a:Act} {w w':World} {s:St} (h:Rel ρ B 34 2 s a w) (hs:s.hp=[(0,.ext (.ints .i64 L)),(1,.ebox (v.map (fun x=>C.d (.v x))++[.d (.i .i64 st)]))]) (h0:∀ad n cap,ρ 0=.slice (some ad) n cap→0<n→K ad.block) (h1:∀b o,ρ 1=.pointer (some ⟨b,o,none⟩)→K b) (hk:KpS K w w') :
  Rel ρ (kd fun x=>x<w'.heap.size) 34 2 s a w':=by
 obtain⟨B',_,hh⟩:=h.heap
 have keep:∀{b:Nat} {off:Nat} {u:Value},K b→w.cell? ⟨b,off,none⟩=some u→w'.cell? ⟨b,off,none⟩=some u:=fun {b off u} hK hc=>by
  obtain⟨o,ho,hoc⟩:=cells_of_cell hc;have h2:=hk.same _ o hK ho hoc;exact(World.cell?_of_block (w:=w) (w':=w') (a:=⟨b,off,none⟩) (h2.trans (show w.heap[b]?=some o from ho).symm)).trans hc
 refine⟨h.tm,h.size,h.defers,⟨kd fun x=>x<w'.heap.size,Grow.refl _ _ _ _,⟨fun x o hf=>?_,fun x o x' o' b hf hf' hne hb=>?_,glob0⟩⟩,fun k hk=>jaW.1 hk,h.n0⟩
 ·have hx:=hh.ok x o hf;refine⟨hx.1,hx.2.1,?_⟩;simp only[hs,find]at hf;split at hf
  ·rename_i e;subst e;cases hf;obtain⟨⟨ad,cap,hv,hc,hcells⟩,ho⟩:=hx.2.2
   have hrow:jaD w' (ρ 0) (.ints .i64 L):=by
    refine⟨ad,cap,hv,hc,fun hn=>?_⟩;obtain⟨b,off,hab,hxc⟩:=hcells hn;subst hab;exact⟨b,off,rfl,fun j z hj=>keep (h0 _ _ _ hv hn) (hxc j z hj)⟩
   exact⟨hrow,hrow.lt (Nat.lt_succ_self 0)⟩
  ·split at hf
   ·rename_i e;subst e;cases hf;obtain⟨b,off,hv,hB,hcells⟩:=hx.2.2;have hK:=h1 b off hv;refine⟨b,off,hv,?_,fun j c hj=>keep hK (hcells j c hj)⟩;have hc0:=keep hK (hcells v.length (.d (.i .i64 st)) (by rw[List.getElem?_append_right (by simp)];simp));exact World.block_lt_of_cell? w' _ hc0
   ·cases hf
 ·simp only[hs,find]at hf;split at hf
  ·cases hf;cases hb
  ·split at hf
   ·cases hf;cases hb
   ·cases hf
theorem jlj {K:Nat→Prop} {A B:World} (h:A.grownBy B none):KpS K A B:=⟨h.size,fun k o _ hk _=>(h.block k (Array.getElem?_eq_some_iff.1 hk).1 (fun e=>by cases e)).trans hk⟩
theorem jlk {l:Nat} {fn tmps assign body:_} {x:Value} {W:World} {a:Act} {s q ty:Nat} (hs:a.eval (.tmp s)=.func (.yield l) #[] #[]) (hq:a.eval (.tmp q)=x)
  (hy:(Instr.yield l #[x]).run Tryz.prog W=.ok (.round l fn tmps assign body) W) (o:Oper) (ho:o.op=.call { callee:=.value (.tmp s),args:=#[.tmp q],argTypes:=#[ty] }) :
  ((o.semAt Fence.wide.round a.eval).run Tryz.prog W)=.ok (.round l fn tmps assign body) W:=by
 rw[Fence.wide_round,Oper.semAt_none];unfold execOp;simp only[ho,resolve,hs,Deferred.ofValue,Sem.run_bind,Sem.run_pure,Result.andThen_ok,invoke,List.map_toArray,List.map_cons,List.map_nil,hq];exact hy
theorem jyf {α:Type} {enc:α→Int} {A:List α} {L:List Int} {st:Int} (hA:A.map enc=needL L st) {k:Nat} (hk:k<L.length):∃h:k<A.length,enc A[k]=L.getD k 0:=by
 have hlen:A.length=(needL L st).length:=by rw[←hA];simp
 have h1:k<(needL L st).length:=by
  unfold needL;split
  ·exact hk
  ·simp;omega
 refine⟨by omega,?_⟩;have h2:(A.map enc)[k]?=(needL L st)[k]?:=by rw[hA]
 rw[List.getElem?_map,List.getElem?_eq_getElem (by omega)]at h2
 have h3:(needL L st)[k]?=L[k]?:=by
  unfold needL;split
  ·rfl
  ·rw[List.getElem?_append_left hk]
 rw[h3,List.getElem?_eq_getElem hk]at h2;simp only[Option.map_some,Option.some.injEq]at h2;rw[h2];simp[List.getD,List.getElem?_eq_getElem hk]
set_option maxHeartbeats 2000000 in
theorem joT (n l:Nat) (K:Nat→Prop) (L:List Int) (v0 v1 v2 v3 v4 v5 v6:Value) (st:Int) (hL:(L.length:Int)<9223372036854775807) {α:Type} (enc:α→Int) (A:List α) (hA:A.map enc=needL L st) (J Jx:List α→World→Prop)
  (hY:∀(k:Nat) (h:k<A.length) W,J (A.take k) W→YieldAt Fence.wide (n-1) Tryz.prog l #[.int .i64 (enc A[k])] W fun e W' =>
   (e=.returned (.bool true)∧J (A.take (k+1)) W'∧KpS K W W')∨(e=.returned (.bool false)∧Jx (A.take (k+1)) W'))
  (hJ:∀A B pre,J pre A→A.grownBy B none→J pre B) (a:Act) (w:World) (hb:BetN K (.func (.yield l) #[] #[]) L [v0,v1,v2,v3,v4,v5,v6] st 0 a w) (hj0:J [] w)
  (R:World→Prop) (hR:∀k W,k≤A.length→Jx (A.take k) W→R W) (Q:Act→World→Prop) (hQ:∀a w,BetN K (.func (.yield l) #[] #[]) L [v0,v1,v2,v3,v4,v5,v6] st L.length a w→J (A.take L.length) w→Q a w) :
  (sub [1,0,1] (bodyOf Tryz.f132)).wpIn Fence.wide n Tryz.prog (Exit.then Q (bodyPost Tryz.prog Tryz.f132 fun e W'=>(∃v,e=.returned v)∧R W')) a w:=by
 refine wpIn_block (wpIn_loop (fun a w=>∃k,k≤L.length∧BetN K (.func (.yield l) #[] #[]) L [v0,v1,v2,v3,v4,v5,v6] st k a w∧J (A.take k) w) (fun a _=>L.length-(intOf (a.tmps.getD 18 undef)).toNat) ⟨0,by omega,hb,hj0⟩ ?_);rintro a w ⟨k,hk,⟨ρ,hr,hg0,hg1⟩,hj⟩
 have hmu:(intOf (a.tmps.getD 18 undef)).toNat=k:=by
  rw[(hr.tm 18 _ rfl).2];simp[intOf]
 rw[hmu];refine wpIn_seq (wpIn_wide.2 (wp_mono (piece hr (pn1 _ L v0 v1 v2 v3 v4 v5 v6 st k)) ?_));rintro e a1 w1 ⟨rfl,hw1,ρ1,hr1,hag1⟩;have hj1:=hJ _ _ _ hj hw1;have hc:a1.eval (.tmp 19)=.bool (decide ((k:Int)<L.length)):=(hr1.tm 19 _ rfl).2
 by_cases hlt:k<L.length
 ·refine wpIn_seq (wpIn_cond_true (by rw[hc,decide_eq_true (by omega)]) (wpIn_skip ?_));have hg0a:∀ad n cap,ρ1 0=.slice (some ad) n cap→0<n→K ad.block:=fun ad n cap h=>hg0 ad n cap (by rw[←hag1 0 (by decide)];exact h);have hg1a:∀b o,ρ1 1=.pointer (some ⟨b,o,none⟩)→K b:=fun b o h=>hg1 b o (by rw[←hag1 1 (by decide)];exact h);have hr1b:Rel ρ1 (kd fun x=>x<w1.heap.size) 34 2 (stNc (.func (.yield l) #[] #[]) L [v0,v1,v2,v3,v4,v5,v6] st k) a1 w1:=jl0 hr1 rfl hg0a hg1a (jlj (World.grownBy.refl w1 none));refine wpIn_seq (wpIn_block (wpIn_seq (wpIn_wide.2 (wp_mono (piece hr1b (pn2 _ L v0 v1 v2 v3 v4 v5 v6 st k hlt)) ?_))));rintro e a2 w2 ⟨rfl,hw2,ρ2,hr2,hag2⟩;have hj2:=hJ _ _ _ hj1 hw2;obtain⟨hkA,henc⟩:=jyf hA hlt;obtain⟨fn,tmps,assign,body,hy,hRd⟩:=hY k hkA w2 hj2;rw[henc]at hy;refine wpIn_seq (wpIn_region_list ?_);refine wpListIn_plain rfl fun K2 hK2=>jb2 (t:=22) hr2 rfl trivial rfl (by decide) fun a3 hr3=>hK2 _ _ ?_;refine wpListIn_plain rfl fun K2 hK2=>jb2 (t:=23) hr3 rfl trivial rfl (by decide) fun a4 hr4=>hK2 _ _ ?_;have g22:a4.eval (.tmp 22)=.func (.yield l) #[] #[]:=(hr4.tm 22 _ rfl).2;have g23:a4.eval (.tmp 23)=.int .i64 (L.getD k 0):=(hr4.tm 23 _ rfl).2;refine wpListIn_plain rfl fun K2 hK2=>⟨fun _ _=>trivial,?_⟩
  rw[jlk (ty:=3) g22 g23 hy _ rfl];refine⟨(fun h=>by cases h),hRd.mono ?_⟩;have hg0b:∀ad n cap,ρ2 0=.slice (some ad) n cap→0<n→K ad.block:=fun ad n cap h=>hg0a ad n cap (by rw[←hag2 0 (by decide)];exact h);have hg1b:∀b o,ρ2 1=.pointer (some ⟨b,o,none⟩)→K b:=fun b o h=>hg1a b o (by rw[←hag2 1 (by decide)];exact h);have hr5:∀(b:Bool) (w3:World),KpS K w2 w3→Rel ρ2 (kd fun x=>x<w3.heap.size) 34 2 _ (a4.put (some 24) (.bool b)) w3:=fun b w3 hk3=>jl0 (jec (v:=vb b) hr4 trivial (by decide)) rfl hg0b hg1b hk3;rintro e w3 (⟨rfl,hj3,hk3⟩|⟨rfl,hj3⟩)
  ·refine hK2 _ _ (wpListIn_plain rfl fun K3 hK3=>jb2 (t:=25) (hr5 true w3 hk3) rfl trivial rfl (by decide) fun a5 hr6=>hK3 _ _ (wpListIn_nil ?_));have g25:a5.eval (.tmp 25)=.bool false:=(hr6.tm 25 _ rfl).2;refine wpIn_cond_false g25 (wpIn_skip ?_)
   have hr7:Rel ρ2 (kd fun x=>x<w3.heap.size) 34 2 (stN (.func (.yield l) #[] #[]) L [v0,v1,v2,v3,v4,v5,v6] st k) a5 w3:=jvr hr6 (fun t v hv=>by
    simp only[stN,jav]at hv;simp only[stNd,stN,jav]
    repeat' split at hv
    all_goals first
     |(cases hv;done)
     |(subst_vars;simp only[hv];rfl)
     |(subst_vars;exact hv)) rfl rfl
   refine wpIn_wide.2 (wp_mono (piece hr7 (pn3 _ L v0 v1 v2 v3 v4 v5 v6 st k (by omega))) ?_);rintro e a7 w7 ⟨rfl,hw7,ρ7,hr8,hag7⟩;refine⟨⟨k+1,by omega,⟨ρ7,jl0 hr8 rfl (fun ad n cap h=>hg0b ad n cap (by rw[←hag7 0 (by decide)];exact h)) (fun b o h=>hg1b b o (by rw[←hag7 1 (by decide)];exact h)) (jlj (World.grownBy.refl w7 none)),fun ad n cap h=>hg0b ad n cap (by rw[←hag7 0 (by decide)];exact h),fun b o h=>hg1b b o (by rw[←hag7 1 (by decide)];exact h)⟩,hJ _ _ _ hj3 hw7⟩,?_⟩;rw[(hr8.tm 18 _ rfl).2];simp[intOf];omega
  ·have hr4b:=jec (v:=vb false) (t:=24) hr4 trivial (by decide);have g24:(a4.put (some 24) (.bool false)).eval (.tmp 24)=.bool false:=(hr4b.tm 24 _ rfl).2;refine hK2 _ _ (wpListIn_plain rfl fun K3 hK3=>js1 (v:=.bool true) ?_ (hK3 _ _ (wpListIn_nil ?_)))
   ·unfold execOp;dsimp only;rw[g24];rfl
   have hr5:=jec (v:=vb true) (t:=25) hr4b trivial (by decide);have g25:((a4.put (some 24) (.bool false)).put (some 25) (.bool true)).eval (.tmp 25)=.bool true:=(hr5.tm 25 _ rfl).2;refine wpIn_cond_true g25 (wpIn_ret ?_);exact⟨hr5.defers,.tuple #[],results_none rfl _ _ _,⟨_,rfl⟩,hR (k+1) _ (by omega) hj3⟩
 ·have hk5:k=L.length:=by omega
  subst hk5;refine wpIn_seq (wpIn_cond_false (by rw[hc,decide_eq_false (by omega)]) (wpIn_exit ?_));refine hQ _ _ ⟨ρ1,jvr (jl0 hr1 rfl (fun ad n cap h=>hg0 ad n cap (by rw[←hag1 0 (by decide)];exact h)) (fun b o h=>hg1 b o (by rw[←hag1 1 (by decide)];exact h)) (jlj (World.grownBy.refl w1 none))) (fun t v hv=>?_) rfl rfl,fun ad n cap h=>hg0 ad n cap (by rw[←hag1 0 (by decide)];exact h),fun b o h=>hg1 b o (by rw[←hag1 1 (by decide)];exact h)⟩ hj1;have hne:t≠19:=fun e=>by subst e;simp[stN,jav]at hv
  simp only[stNc,jav];rw[if_neg (Ne.symm hne)];exact hv
abbrev shU:List NK:=[.s,.i .i64,.ints .i64,.ints .i64,.ints .i64,.i .i64,.recs 5,.i .i64]
def stI (y:Value) (nm:ByteArray) (l:List (List NC)) (i:Int) (co:Value):St:=⟨[(0,.w (.c (.d (.v y)))),(1,.w (.c (.p 1 0 1 0))),(2,.w (.c (.p 2 0 1 0)))],[(0,.box 4 [.d (.b false)]),(1,.ebox [.p 3 0 1 0]),(2,.ebox [.d (.i .i64 i)]),(3,.ebox [.d (.s nm),.o 4,.d (.v co)]),(4,.xext (.st shU l))],5⟩
def hpJ (l:List (List NC)) (i:Nat):Hp:=[(0,.box 4 [.d (.b false)]),(1,.box 118 [.d (.s (nS l i 0)),.d (.i .i64 (nI l i 1)),.o 2,.o 3,.o 4,.d (.i .i64 (nI l i 5)),.o 5,.d (.i .i64 (nI l i 7))]),(2,.ext (.ints .i64 (nL l i 2))),(3,.ext (.ints .i64 (nL l i 3))),(4,.ext (.ints .i64 (nL l i 4))),(5,.ext (.recs 5 (nR l i 6)))]
def stJ (y:Value) (l:List (List NC)) (i:Nat):St:=⟨[(4,.w (.c (.p 1 0 1 0))),(0,.w (.c (.d (.v y))))],hpJ l i,6⟩
def stJ2 (y:Value) (l:List (List NC)) (i:Nat):St:=⟨[(18,vi .i64 0),(17,vi .i64 (nL l i 2).length),(16,.w (.c (.o 2))),(4,.w (.c (.p 1 0 1 0))),(0,.w (.c (.d (.v y))))],hpJ l i,6⟩
theorem pnJ (y:Value) (l:List (List NC)) (i:Nat):sx Tryz.prog (fun _=>none) 34 1 0 (fun _ _ _=>none) (fun _ _ _=>False) (sub [1,0,0] (bodyOf Tryz.f132)) 0 [] (stJ y l i) (fun e st'=>match e with | .normal=>Le 1 st' (stJ2 y l i)|_=>False):=by
 refine Eq.mp (by kernel_rfl:(Ob ((0:Int)=0)∧Ob (((nL l i 2).length:Int)=(nL l i 2).length)∧Ob ((0:Nat)=0)∧Ob (y=y)∧Ob (false=false)∧Ob (nS l i 0=nS l i 0)∧Ob (nI l i 1=nI l i 1)∧Ob (nI l i 5=nI l i 5)∧Ob (nI l i 7=nI l i 7)∧Ob (nL l i 2=nL l i 2)∧Ob (nL l i 3=nL l i 3)∧Ob (nL l i 4=nL l i 4)∧Ob (nR l i 6=nR l i 6)∧True)=_) ?_;exact⟨⟨rfl⟩,⟨rfl⟩,⟨rfl⟩,⟨rfl⟩,⟨rfl⟩,⟨rfl⟩,⟨rfl⟩,⟨rfl⟩,⟨rfl⟩,⟨rfl⟩,⟨rfl⟩,⟨rfl⟩,⟨rfl⟩,trivial⟩
theorem ja9 {w:World} {k j t:Nat} {vs:Array Value} {f:_} (h:w.heap[k]?=some (.cells vs t f)) {v:Value} (hv:vs[j]?=some v):w.cell? ⟨k,j,none⟩=some v:=by
 unfold World.cell?;dsimp only;rw[h];simp[hv]
theorem joU {α:Type} {enc:α→Int} {A:List α} {L:List Int} {st:Int} (hA:A.map enc=needL L st) (hst:st≠-1):∃h:L.length<A.length,enc A[L.length]=st∧A.length=L.length+1:=by
 have e:needL L st=L++[st]:=if_neg hst
 have hlen:A.length=L.length+1:=by
  have:(A.map enc).length=(L++[st]).length:=by rw[hA,e]
  simpa using this
 refine⟨by omega,?_,hlen⟩;have h2:(A.map enc)[L.length]?=(L++[st])[L.length]?:=by rw[hA,e]
 rw[List.getElem?_map,List.getElem?_eq_getElem (by omega)]at h2;simpa using h2
set_option maxHeartbeats 4000000 in
theorem jyg (n l r:Nat) (nm:ByteArray) (gU:List (List NC)) (i:Int) (co:Value) (ρ0:Env) (W:World)
  (hh:HRel ρ0 (kd fun k=>k<W.heap.size∧k≠r) (stI (.func (.yield l) #[] #[]) nm gU i co).hp 5 W) (hr0:ρ0 0=.pointer (some ⟨r,0,none⟩))
  (hi:0≤i∧i<gU.length) (hL:((nL gU i.toNat 2).length:Int)<9223372036854775807) {α:Type} (enc:α→Int) (A:List α) (hA:A.map enc=needL (nL gU i.toNat 2) (nI gU i.toNat 7)) (J Jx:List α→World→Prop)
  (hY:∀(k:Nat) (h:k<A.length) W,J (A.take k) W→YieldAt Fence.wide (n-1) Tryz.prog l #[.int .i64 (enc A[k])] W fun e W' =>
   (e=.returned (.bool true)∧J (A.take (k+1)) W'∧KpS (fun k=>k≠r) W W')∨(e=.returned (.bool false)∧Jx (A.take (k+1)) W'))
  (hJ:AbidesFrom W.heap.size J) (h0:J [] W) :
  CallsIn Fence.wide n Tryz.prog 132 #[.func (.yield l) #[] #[],(C.p 1 0 1 0).val ρ0,(C.p 2 0 1 0).val ρ0] W fun e W'=>(∃v,e=.returned v) ∧
   ((∃ys,ys=A∧J ys W')∨(∃pre,(∃k,k≤A.length∧pre=A.take k)∧Jx pre W')):=by
 refine callsIn_of_wp Tryz.func132 rfl trivial ?_ rfl;refine wpIn_seq (wpIn_wide.2 ?_);have hsp:jac Tryz.prog (fun _=>none):=fun _ _ _ h=>by cases h
 obtain⟨y,hy⟩:∃y:Value,y=.func (.yield l) #[] #[]:=⟨_,rfl⟩
 rw[←hy]at hh ⊢
 refine jbx (N:=34) (n0:=1) (B:=kd fun k=>k<W.heap.size∧k≠r) (ρ0:=ρ0) (w0:=W) (st:=stI y nm gU i co)
  (k:=fun st=>Le 1 st (stJ y gU i.toNat)) (by kernel_rfl) hsp (ds:=[]) _ _ ρ0 _ _ _ ?vc ?rel (jae.refl _ _) (Bel.refl _ _) ?next
 case vc =>
  refine Eq.mp (by kernel_rfl:(Ob True∧Ob True∧Ob True∧Ob ((0:Int)≤i∧i<((XC.st shU gU).n:Int))∧Ob (i.toNat<(XC.st shU gU).n)∧Ob ((0:Nat)=0)∧Ob (y=y)∧Ob (false=false)∧Ob (nS gU i.toNat 0=nS gU i.toNat 0)∧Ob (nI gU i.toNat 1=nI gU i.toNat 1)∧Ob (nI gU i.toNat 5=nI gU i.toNat 5)∧Ob (nI gU i.toNat 7=nI gU i.toNat 7)∧Ob (nL gU i.toNat 2=nL gU i.toNat 2)∧Ob (nL gU i.toNat 3=nL gU i.toNat 3)∧Ob (nL gU i.toNat 4=nL gU i.toNat 4)∧Ob (nR gU i.toNat 6=nR gU i.toNat 6)∧True)=_) ?_;exact⟨⟨trivial⟩,⟨trivial⟩,⟨trivial⟩,⟨hi⟩,⟨by show i.toNat<gU.length;omega⟩,⟨rfl⟩,⟨rfl⟩,⟨rfl⟩,⟨rfl⟩,⟨rfl⟩,⟨rfl⟩,⟨rfl⟩,⟨rfl⟩,⟨rfl⟩,⟨rfl⟩,⟨rfl⟩,trivial⟩
 case rel =>
  refine jdj (N:=34) (n0:=1) (args:=[.w (.c (.d (.v y))),.w (.c (.p 1 0 1 0)),.w (.c (.p 2 0 1 0))]) (Nat.le_of_ble_eq_true rfl) (fun x hx=>?_) (by decide) ρ0 W hh (fun k hk=>(jaW.1 hk).1);simp only[List.mem_cons,List.not_mem_nil,or_false]at hx;rcases hx with rfl|rfl|rfl
  ·trivial
  ·exact(by decide:1<5)
  ·exact(by decide:2<5)
 case next =>
  rintro ρ1 st1 a1 w1 hr1 hag1 hbl1 hle;obtain⟨ρ2,hr2,hag2⟩:=hle.rel hr1;refine wpIn_seq (wpIn_seq (wpIn_wide.2 (wp_mono (ja6 hsp (fun _ _ _ _ _ _ _ _ _ h=>h.elim) (sub [1,0,0] (bodyOf Tryz.f132)) 0 [] (stJ y gU i.toNat) _ ρ2 a1 w1 (pnJ y gU i.toNat) hr2 (jae.refl _ _) (Bel.refl _ _)) ?_)));rintro e a2 w2 ⟨ex,ρ3,st3,rfl,hk3,hr3',hag3,hbl3⟩;cases ex with
  |exit j=>exact hk3.elim
  |ret=>exact hk3.elim
  |normal =>
   obtain⟨ρ4,hr4,hag4⟩:=hk3.rel hr3';have hρ0:ρ4 0=.pointer (some ⟨r,0,none⟩):=(hag4 0 (by decide)).trans ((hag3 0 (by decide)).trans ((hag2 0 (by decide)).trans ((hag1 0 (by decide)).trans hr0)));have hbW:Bel (kd fun k=>k<W.heap.size∧k≠r).kp W w2:=hbl1.trans hbl3;obtain⟨B',gB,hh4⟩:=hr4.heap;have o0:=(hh4.ok 0 _ rfl).2.2;have o1:=(hh4.ok 1 _ rfl).2.2;have o2:=(hh4.ok 2 _ rfl).2.2;obtain⟨r',hr',hB0,hheap0⟩:=o0
   have err:r'=r:=by
    rw[hρ0]at hr';cases hr';rfl
   subst err;obtain⟨k1,hk1,hB1,hheap1⟩:=o1;obtain⟨q0,hq0,hBq,hheapW⟩:=(hh.ok 0 _ rfl).2.2
   have eq0:q0=r':=by
    rw[hr0]at hq0;cases hq0;rfl
   subst eq0
   have hgr:W.grownBy w2 none:=by
    refine⟨hbW.os,hbW.tape,hbW.output,hbW.size,fun k hk _=>?_⟩
    by_cases e:k=q0
    ·subst e;rw[hheap0,hheapW];rfl
    ·exact hbW.block k ⟨hk,e⟩
   have hj2:J [] w2:=hJ [] W w2 none h0 hgr (fun r e=>by cases e);have hne1:k1≠q0:=fun e=>hh4.apart 1 _ 0 _ k1 rfl rfl (by decide) (by rw[hk1];rfl) (by rw[hρ0,e];rfl)
   have hb:BetN (fun k=>k≠q0) y (nL gU i.toNat 2) [.string (nS gU i.toNat 0),.int .i64 (nI gU i.toNat 1),ρ4 2,ρ4 3,ρ4 4,.int .i64 (nI gU i.toNat 5),ρ4 5] (nI gU i.toNat 7) 0 a2 w2:=by
    refine⟨fun h=>if h=0 then ρ4 2 else ρ4 1,⟨fun t v hv=>?_,hr4.size,hr4.defers,⟨kd fun x=>x<w2.heap.size,Grow.refl _ _ _ _,⟨fun x o hf=>?_,fun x o x' o' b hf hf' hne hb=>?_,glob0⟩⟩,fun k hk=>jaW.1 hk,Nat.le_refl _⟩,fun ad m cap hv hm=>?_,fun b o hv=>?_⟩
    ·simp only[stN,jav]at hv;split at hv
     ·rename_i e;subst e;cases hv;exact⟨trivial,(hr4.tm 18 _ rfl).2⟩
     ·split at hv
      ·rename_i e;subst e;cases hv;exact⟨trivial,(hr4.tm 17 _ rfl).2⟩
      ·split at hv
       ·rename_i e;subst e;cases hv;exact⟨(by decide:0<2),(hr4.tm 16 _ rfl).2⟩
       ·split at hv
        ·rename_i e;subst e;cases hv;exact⟨(by decide:1<2),(hr4.tm 4 _ rfl).2⟩
        ·split at hv
         ·rename_i e;subst e;cases hv;exact⟨trivial,(hr4.tm 0 _ rfl).2⟩
         ·cases hv
    ·simp only[stN,find]at hf;split at hf
     ·rename_i e;subst e;cases hf;exact⟨(by decide:0<2),trivial,o2.1,o2.1.lt (Nat.lt_succ_self 0)⟩
     ·split at hf
      ·rename_i e;subst e;cases hf;refine⟨(by decide:1<2),?_,k1,0,by simpa using hk1,(Array.getElem?_eq_some_iff.1 hheap1).1,fun j c hj=>?_⟩
       ·intro c hc;simp only[List.map_cons,List.map_nil,List.cons_append,List.nil_append,List.mem_cons,List.not_mem_nil,or_false]at hc;rcases hc with rfl|rfl|rfl|rfl|rfl|rfl|rfl|rfl<;>trivial
       ·rw[Nat.zero_add];refine ja9 hheap1 ?_
        match j,hj with
        |0,hj=>cases hj;rfl
        |1,hj=>cases hj;rfl
        |2,hj=>cases hj;rfl
        |3,hj=>cases hj;rfl
        |4,hj=>cases hj;rfl
        |5,hj=>cases hj;rfl
        |6,hj=>cases hj;rfl
        |7,hj=>cases hj;rfl
        |j+8,hj=>cases hj
      ·cases hf
    ·simp only[stN,find]at hf;split at hf
     ·cases hf;cases hb
     ·split at hf
      ·cases hf;cases hb
      ·cases hf
    ·intro e;have h2:=o2.2 ad m cap (by simpa using hv) hm;exact hB0 (.inl (e ▸ h2))
    ·intro e;have hv':ρ4 1=.pointer (some ⟨b,o,none⟩):=by simpa using hv
     rw[hk1]at hv';cases hv';exact hne1 e
   subst hy
   refine joT n l (fun k=>k≠q0) _ _ _ _ _ _ _ _ _ hL enc A hA J Jx hY (fun A B pre hj hg=>hJ pre A B none hj hg (fun r e=>by cases e)) a2 w2 hb hj2
    (fun W'=>(∃ys,ys=A∧J ys W')∨(∃pre,(∃k,k≤A.length∧pre=A.take k)∧Jx pre W')) (fun k W hk hx=>.inr ⟨_,⟨k,hk,rfl⟩,hx⟩) _ ?_
   rintro a5 w5 ⟨ρ5,hr5,hg0,hg1⟩ hj5;refine wpIn_seq (wpIn_wide.2 (wp_mono (piece hr5 (pn4 _ _ _ _ _ _ _ _ _ _ _)) ?_));rintro e a6 w6 ⟨rfl,hw6,ρ6,hr6,hag6⟩;have hj6:=hJ _ _ _ none hj5 hw6 (fun r e=>by cases e);have hc:a6.eval (.tmp 29)=.bool (nI gU i.toNat 7 != -1):=(hr6.tm 29 _ rfl).2
   by_cases hst:nI gU i.toNat 7=-1
   ·refine wpIn_cond_false (by rw[hc,hst];rfl) (wpIn_skip ?_);refine⟨hr6.defers,.tuple #[],results_none rfl _ _ _,⟨_,rfl⟩,.inl ⟨_,rfl,?_⟩⟩
    have hlen:A.length=(nL gU i.toNat 2).length:=by
     have:(A.map enc).length=(needL (nL gU i.toNat 2) (nI gU i.toNat 7)).length:=by rw[hA]
     rw[needL,if_pos hst]at this;simpa using this
    rw[←hlen,List.take_length]at hj6;exact hj6
   ·refine wpIn_cond_true (by rw[hc];simp[hst]) (wpIn_region_list ?_);obtain⟨hkA,henc,hlen⟩:=joU hA hst;obtain⟨fn,tmps,assign,body,hy,hRd⟩:=hY _ hkA w6 hj6;rw[henc]at hy;refine wpListIn_plain rfl fun K2 hK2=>jb2 (t:=30) hr6 rfl trivial rfl (by decide) fun a7 hr7=>hK2 _ _ ?_;refine wpListIn_plain rfl fun K2 hK2=>jb2 (t:=31) hr7 rfl trivial rfl (by decide) fun a8 hr8=>hK2 _ _ ?_;refine wpListIn_plain rfl fun K2 hK2=>jb2 (t:=32) hr8 rfl trivial rfl (by decide) fun a9 hr9=>hK2 _ _ ?_;have g30:a9.eval (.tmp 30)=.func (.yield l) #[] #[]:=(hr9.tm 30 _ rfl).2;have g32:a9.eval (.tmp 32)=.int .i64 (nI gU i.toNat 7):=(hr9.tm 32 _ rfl).2;refine wpListIn_plain rfl fun K2 hK2=>⟨fun _ _=>trivial,?_⟩
    rw[jlk (ty:=3) g30 g32 hy _ rfl];refine⟨(fun h=>by cases h),hRd.mono ?_⟩;rintro e w7 (⟨rfl,hj7,hk7⟩|⟨rfl,hj7⟩)
    ·refine hK2 _ _ (wpListIn_nil ?_);refine⟨(jec (t:=33) (v:=vb true) hr9 trivial (by decide)).defers,.tuple #[],results_none rfl _ _ _,⟨_,rfl⟩,.inl ⟨_,rfl,?_⟩⟩;rw[←hlen,List.take_length]at hj7;exact hj7
    ·refine hK2 _ _ (wpListIn_nil ?_);exact⟨(jec (t:=33) (v:=vb false) hr9 trivial (by decide)).defers,.tuple #[],results_none rfl _ _ _,⟨_,rfl⟩,.inr ⟨_,⟨_,by omega,rfl⟩,hj7⟩⟩
end Go.Sx09
end

section
namespace Go.Sx09
open Go Go.Proofs Go.RowKit Go.Shelf Go.Sx
attribute [local go_sem] Oper.semAt_some
set_option maxHeartbeats 2000000 in
theorem jnt (n:Nat) (p:Option Addr) (i:Int) (w:World) :
  CallsIn Fence.wide n Tryz.prog 86 #[.pointer p,.int .i64 i] w fun e w'=>e=.returned (.func (.func 132) #[] #[.pointer (some ⟨w.heap.size,0,none⟩),.pointer (some ⟨w.heap.size+1,0,none⟩)])∧w'=(w.alloc (.cells #[.pointer p] 126)).alloc (.cells #[.int .i64 i] 3):=by
 refine callsIn_of_wp Tryz.func86 rfl trivial ?_ rfl;simp only[Tryz.ntmps86,List.size_toArray,List.length_cons,List.length_nil,Nat.reduceAdd,Nat.reduceSub,Array.replicate_succ,Array.replicate_zero,List.push_toArray,List.append_toArray,List.nil_append,List.cons_append]
 gi_wp2
 go_ret
 exact⟨rfl,rfl⟩
theorem jzV (w:World) (c0 c1 c2 c3:Array Value) (t0 t1 t2 t3:TypeId):∃w2,w2.heap.size=w.heap.size+4∧Below w.heap.size w w2∧w2.heap[w.heap.size]?=some (.cells c0 t0 (0,0))∧w2.heap[w.heap.size+1]?=some (.cells c1 t1 (0,0)) ∧
  w2.heap[w.heap.size+1+1]?=some (.cells c2 t2 (0,0))∧w2.heap[w.heap.size+1+1+1]?=some (.cells c3 t3 (0,0))∧(((w.alloc (.cells c0 t0)).alloc (.cells c1 t1)).alloc (.cells c2 t2)).alloc (.cells c3 t3)=w2:=by
 have new:∀(w:World) (c:Array Value) (t:TypeId) (m:Nat),w.heap.size=m→(w.alloc (.cells c t)).heap[m]?=some (.cells c t (0,0)):=fun w c t m e=>by subst e;exact World.alloc_heap_new w (.cells c t)
 have old:∀(w:World) (o o':Obj) (k:Nat),w.heap[k]?=some o→(w.alloc o').heap[k]?=some o:=fun w o o' k h=>(Below.heap_alloc w o' k (Array.getElem?_eq_some_iff.1 h).1).trans h;refine⟨_,by simp,(((Below.refl _ w).alloc (Nat.le_refl _) _).alloc (by simp) _).alloc (by simp;omega) _ |>.alloc (by simp;omega) _,?_,?_,?_,?_,rfl⟩
 ·exact old _ _ _ _ (old _ _ _ _ (old _ _ _ _ (new w c0 t0 _ rfl)))
 ·exact old _ _ _ _ (old _ _ _ _ (new _ c1 t1 _ (by simp)))
 ·exact old _ _ _ _ (new _ c2 t2 _ (by simp))
 ·exact new _ c3 t3 _ (by simp)
def readyB (pl:List Bool) (L:List Int):Bool:=L.all fun x=>pl.getD x.toNat false
set_option maxHeartbeats 4000000 in
theorem ready_in (nm:ByteArray) (gU:List (List NC)) (od:List Int) (i:Int) (pl:List Bool) (ρ:Env) (w:World)
  (hh:HRel ρ (kd fun k=>k<w.heap.size) [(3,.ext (.bools pl)),(2,.ebox [.d (.s nm),.o 0,.o 1]),(1,.ext (.ints .i64 od)),(0,.xext (.st shU gU))] 4 w)
  (hi:0≤i∧i<gU.length) (hL:((nL gU i.toNat 2).length:Int)<9223372036854775807) (hx:∀x∈needL (nL gU i.toNat 2) (nI gU i.toNat 7),0≤x∧x<pl.length) :
  CallsIn Fence.wide 9 Tryz.prog 85 #[(C.p 2 0 1 0).val ρ,.int .i64 i,ρ 3] w fun e w'=>e=.returned (.bool (readyB pl (needL (nL gU i.toNat 2) (nI gU i.toNat 7))))∧Below w.heap.size w w':=by
 have h1:1≤9:=by omega
 have hro:Fence.wide.round=none:=rfl;obtain⟨gb,go,hgp,hgB,hgc⟩:=(hh.ok 2 _ rfl).2.2;have hrow:=(hh.ok 3 _ rfl).2.2;obtain⟨⟨pa,pc,hpv,hpc,hpcells⟩,hpo⟩:=hrow
 have hP:(C.p 2 0 1 0).val ρ=.pointer (some ⟨gb,go,none⟩):=by
  simp only[C.val,hgp,base];rfl
 rw[hP,hpv];refine callsIn_of_wp_marks Tryz.func85 rfl trivial ?_ hro;simp only[Tryz.ntmps85,List.size_toArray,List.length_cons,List.length_nil,Nat.reduceAdd,Nat.reduceSub,Array.replicate_succ,Array.replicate_zero,List.push_toArray,List.append_toArray,List.nil_append,List.cons_append]
 gi_wp2_with (refine⟨trivial,?_⟩;gi_at_call 86;refine(jnt _ _ i _).mono ?_;rintro e w' ⟨rfl,rfl⟩)
 obtain⟨w2,hs2,hB0,k0,k1,k2,k3,hw2⟩:=jzV w #[.slice pa (Cont.bools pl).n pc] #[.bool false] #[.pointer (some ⟨gb,go,none⟩)] #[.int .i64 i] 133 4 126 3;rw[hw2]
 have hne:∀(A:List {x:Int // 0≤x∧x<pl.length}),A.map (fun x=>x.1)=needL (nL gU i.toNat 2) (nI gU i.toNat 7)→readyB pl (needL (nL gU i.toNat 2) (nI gU i.toNat 7))=A.all fun x=>pl.getD x.1.toNat false:=fun A hA=>by
  rw[←hA];simp[readyB]
 obtain⟨A,hA⟩:∃A:List {x:Int // 0≤x∧x<pl.length},A.map (fun x=>x.1)=needL (nL gU i.toNat 2) (nI gU i.toNat 7) :=
  ⟨(needL (nL gU i.toNat 2) (nI gU i.toNat 7)).attachWith _ hx,by simp⟩
 have hready:=hne A hA
 refine wpIn_rangeFunc_ownF hro h1 (gf:=132) (lb:=#[.pointer (some ⟨w.heap.size+1+1,0,none⟩),.pointer (some ⟨w.heap.size+1+1+1,0,none⟩)]) rfl trivial (enters_of Tryz.func132 (by kernel_rfl) rfl)
  (α:={x:Int // 0≤x∧x<pl.length}) (encs:=fun x=>#[.int .i64 x.1]) (Kp:=KpS fun k=>k≠w.heap.size+1) (S:=fun ys=>ys=A) (Sp:=fun pre=>∃k,k≤A.length∧pre=A.take k) (N:=A.length) (w0:=w2)
  ?seq jwH jwI (Below.refl _ _) (fun _=>rfl)
  (fun pre W=>((∀y∈pre,pl.getD y.1.toNat false=true)∧W.cell? ⟨w.heap.size,0,none⟩=some (.slice pa (Cont.bools pl).n pc)∧W.cell? ⟨w.heap.size+1,0,none⟩=some (.bool false)∧W.frozen? ⟨w.heap.size+1,0,none⟩=false)∧Below w.heap.size w W)
  (fun c pre W=>(c=.ret∧(∃y∈pre,pl.getD y.1.toNat false=false)∧W.cell? ⟨w.heap.size+1,0,none⟩=some (.bool false))∧Below w.heap.size w W)
  (OwnFrom.and (Own.from (fun s A B row hs hg hr=>⟨hs.1,cell_kept hs.2.1 hg hr,cell_kept hs.2.2.1 hg hr,(frozen_kept hs.2.2.1 hg hr).trans hs.2.2.2⟩) _) (ownFrom_below (Nat.le_refl _) (by omega)))
  (fun c=>OwnFrom.and (Own.from (fun s A B row hs hg hr=>⟨hs.1,hs.2.1,cell_kept hs.2.2 hg hr⟩) _) (ownFrom_below (Nat.le_refl _) (by omega)))
  ⟨⟨by simp,ja9 k0 rfl,ja9 k1 rfl,?frozen⟩,hB0⟩
  (fun x=>{ tmps:=#[Value.pointer (some { block:=gb,off:=go }),Value.int IntKind.i64 i,Value.slice pa (Cont.bools pl).n pc,undef,undef,Value.pointer (some { block:=w.heap.size,off:=0 }),Value.pointer (some { block:=w.heap.size+1,off:=0 }),.int .i64 x.1,Value.pointer (some { block:=gb,off:=go }),Value.int IntKind.i64 i,Value.func (Fn.func 132) #[] #[Value.pointer (some { block:=w.heap.size+1+1,off:=0 }),Value.pointer (some { block:=w.heap.size+1+1+1,off:=0 })],.int .i64 x.1,undef,undef,undef,undef,undef],defers:=[] }) ?assign ?body ?done ?stop
 case frozen =>
  unfold World.frozen?;dsimp only;rw[k1];rfl
 case seq =>
  intro l J Jx W hW hJ hJx hY h0;have hBW:Below w.heap.size w W:=hB0.trans (hW.mono (by omega));have hsz:=hW.size;have at2:∀k o,k<w2.heap.size→w2.heap[k]?=some o→W.heap[k]?=some o:=fun k o hk ho=>(hW.block k hk).trans ho
  have hmono:∀k,(kd fun k=>k<w.heap.size).kp k→(kd fun k=>k<W.heap.size∧k≠w.heap.size+1).kp k:=fun k hk=>by
   have hk:k<w.heap.size:=hk;exact⟨by omega,by omega⟩
  have hbw:Bel (kd fun k=>k<w.heap.size).kp w W:=⟨hBW.os,hBW.tape,hBW.output,hBW.size,hBW.block⟩
  let ρ':Env:=fun h=>match h with
   |0=>.pointer (some ⟨w.heap.size+1,0,none⟩)
   |1=>.pointer (some ⟨w.heap.size+1+1,0,none⟩)
   |2=>.pointer (some ⟨w.heap.size+1+1+1,0,none⟩)
   |3=>ρ 2
   |_=>ρ 0
  have hx0:=(hh.ok 0 _ rfl).2.2
  have hrel:HRel ρ' (kd fun k=>k<W.heap.size∧k≠w.heap.size+1) (stI (.func (.yield l) #[] #[]) nm gU i (ρ 1)).hp 5 W:=by
   refine⟨fun x o hf=>?_,fun x o x' o' b hf hf' hne hb=>?_,glob0⟩
   ·simp only[stI,find]at hf;split at hf
    ·rename_i e;subst e;cases hf;exact⟨by decide,(fun c hc=>by simp at hc;subst hc;trivial),w.heap.size+1,rfl,fun h=>(jaW.1 h).2 rfl,at2 _ _ (by omega) k1⟩
    ·split at hf
     ·rename_i e;subst e;cases hf;refine⟨by decide,(fun c hc=>by simp at hc;subst hc;exact(by decide:3<5)),w.heap.size+1+1,0,rfl,⟨by omega,by omega⟩,fun j c hj=>?_⟩;refine(ja9 (at2 _ _ (by omega) k2) (j:=0+j) (v:=c.val ρ') ?_)
      match j,hj with
      |0,hj=>cases hj;exact congrArg some hP.symm
      |j+1,hj=>cases hj
     ·split at hf
      ·rename_i e;subst e;cases hf;refine⟨by decide,(fun c hc=>by simp at hc;subst hc;trivial),w.heap.size+1+1+1,0,rfl,⟨by omega,by omega⟩,fun j c hj=>?_⟩;refine(ja9 (at2 _ _ (by omega) k3) (j:=0+j) (v:=c.val ρ') ?_)
       match j,hj with
       |0,hj=>cases hj;rfl
       |j+1,hj=>cases hj
      ·split at hf
       ·rename_i e;subst e;cases hf;refine⟨by decide,(fun c hc=>by simp at hc;rcases hc with rfl|rfl|rfl<;>first|exact True.intro|exact(by decide:4<5)),gb,go,hgp,hmono _ hgB,fun j c hj=>?_⟩;refine(hbw.cell (p:=⟨gb,go+j,none⟩) hgB).trans ?_
        match j,hj with
        |0,hj=>cases hj;exact hgc 0 _ rfl
        |1,hj=>cases hj;exact hgc 1 _ rfl
        |2,hj=>cases hj;exact hgc 2 _ rfl
        |j+3,hj=>cases hj
       ·split at hf
        ·rename_i e;subst e;cases hf;exact⟨by decide,trivial,(IsX.bel hx0 hbw).mono hmono⟩
        ·cases hf
   ·simp only[stI,find]at hf hf'
    have hz:∀y oy,find (stI (.func (.yield l) #[] #[]) nm gU i (ρ 1)).hp y=some oy→y≠0→oy.blk (ρ' y)=none:=fun y oy hy hy0=>by
     simp only[stI,find]at hy;rw[if_neg (Ne.symm hy0)]at hy
     repeat' split at hy
     all_goals (cases hy;try rfl)
    by_cases e:x=0
    ·rw[hz x' o' hf' (by omega)];intro h;cases h
    ·rw[hz x o hf e]at hb;cases hb
  refine(jyg _ l (w.heap.size+1) nm gU i (ρ 1) ρ' W hrel rfl hi hL (fun x=>x.1) A hA J Jx (fun k hk W1 hj=>?_) hJ h0);have e1:A.take (k+1)=A.take k++[A[k]]:=by rw[List.take_succ_eq_append_getElem hk]
  rw[e1];exact hY (A.take k) A[k] W1 hj (by rw[List.length_take];omega)
 case assign =>
  intro l x W K hK
  gi_wp2
  exact hK
 case body =>
  rintro l pre x W ⟨⟨hp,hv5,hcr,hfr⟩,hB⟩ _;have hlt:w.heap.size+1<W.heap.size:=World.block_lt_of_cell? W ⟨w.heap.size+1,0,none⟩ hcr;have hx1:=x.2.1;have hx2:=x.2.2;obtain⟨b,off,hab,hcells⟩:=hpcells (by show 0<pl.length;omega);subst hab
  have hcell:W.cell? ⟨b,off+x.1.toNat,none⟩=some (.bool (pl.getD x.1.toNat false)):=by
   have hc:=hcells x.1.toNat (.b (pl.getD x.1.toNat false)) (by
    have:=(Cont.bools pl).flat_get (i:=x.1.toNat) (j:=0) (by show x.1.toNat<pl.length;omega) Nat.one_pos;simpa [Cont.e,Cont.cell]using this)
   have hbl:b<w.heap.size:=World.block_lt_of_cell? w ⟨b,off+x.1.toNat,none⟩ hc;exact(hB.cell (p:=⟨b,off+x.1.toNat,none⟩) hbl).trans hc
  have hx3:x.1<((Cont.bools pl).n:Int):=hx2;clear hcells hready hA hne hpcells hpc hpo hgc hgB hgp hP hx hL hi hh hpv k0 k1 k2 k3 hs2 hB0 hw2;have hgd:pl.getD x.1.toNat false=pl[x.1.toNat]'(by omega):=by simp[List.getD,List.getElem?_eq_getElem (show x.1.toNat<pl.length by omega)]
  gi_wp2
  ·rename_i hxx;exact⟨KeepsOthers.setCell _ _ _,⟨rfl,⟨x,List.mem_append.2 (.inr (by simp)),by rw[hgd];simpa using hxx⟩,World.cell?_setCell_same' _ _ _ (by rw[hcr];rfl)⟩,hB.setCell (p:=⟨w.heap.size+1,0,none⟩) (by simp) _⟩
  ·rename_i hxx;exact⟨KeepsOthers.refl _,jye (Below.refl _ _),⟨fun y hy=>(List.mem_append.1 hy).elim (hp y) (fun e=>by simp at e;subst e;rw[hgd];simpa using hxx),hv5,hcr,hfr⟩,hB⟩
 case done =>
  rintro D ys W hD rfl ⟨⟨hne,hv5,hcr,hfr⟩,hB⟩ hK;clear hpcells hpc hpo hgc hgB hgp hP hx hL hi hh hpv k0 k1 k2 k3 hB0 hw2
  gi_wp2
  have hK':=(KeepsOthers.setCell W ⟨w.heap.size+1,0,none⟩ (.bool true)).same D _ hK rfl;refine⟨by simp,.inl ⟨_,_,rfl,run_takeDeferred hK',?_⟩⟩;have hc5:=cell_kept (World.cell?_setCell_same' W ⟨w.heap.size+1,0,none⟩ (.bool true) (by rw[hcr];rfl)) (grownBy_putObj' _ D (.deferred none)) (fun r e=>by cases e;exact⟨_,hK',rfl⟩)
  have hall:readyB pl (needL (nL gU i.toNat 2) (nI gU i.toNat 7))=true:=by
   rw[hready];exact List.all_eq_true.2 fun y hy=>hne y hy
  refine⟨.bool true,?_,by rw[hall],(hB.setCell (p:=⟨w.heap.size+1,0,none⟩) (by simp) _).trans (belowK_b (w:=w) (Nat.le_refl _) _ D _ _ (by omega) hK' rfl rfl)⟩;simp[results,Tryz.f85,go_sem,hc5]
 case stop =>
  rintro D c pre W hD ⟨k,hk,rfl⟩ ⟨⟨rfl,⟨y,hy,hpy⟩,hcr⟩,hB⟩ hK;clear hpcells hpc hpo hgc hgB hgp hP hx hL hi hh hpv k0 k1 k2 k3 hB0 hw2
  gi_wp2
  refine⟨by simp,.inl ⟨_,_,rfl,run_takeDeferred hK,?_⟩⟩;have hc5:=cell_kept hcr (grownBy_putObj' _ D (.deferred none)) (fun r e=>by cases e;exact⟨_,hK,rfl⟩)
  have hall:readyB pl (needL (nL gU i.toNat 2) (nI gU i.toNat 7))=false:=by
   rw[hready,Bool.eq_false_iff];intro h;have:=List.all_eq_true.1 h y (List.mem_of_mem_take hy);rw[hpy]at this;cases this
  refine⟨.bool false,?_,by rw[hall],hB.trans (belowK_b (w:=w) (Nat.le_refl _) W D _ _ (by omega) hK rfl rfl)⟩;simp[results,Tryz.f85,go_sem,hc5]
end Go.Sx09
end

section
open Go.RowKit
namespace Go.Sx
section
variable [Globs] {P:Program}
theorem js2 {f:Nat} {fn:Func} {body:Code} {shs:List SV} {g:List Lf→Option GT} (hf:P.funcs[f]?=some fn) (hb:fn.body=some body) (hn:(fn.name == "runtime.NumGoroutine")=false)
  (h:∀ls t,g ls=some t→∃ob x,t=.leaf ob [.c (.d x)]∧(ob→∀b:Bv,jet shs 0 ls=some b→∀ρ w,HRel ρ (kd fun k=>k<w.heap.size) b.hp b.n w→Calls P f (b.vs.map (V.val ρ)).toArray w fun e w'=>e=.returned x.val∧Below w.heap.size w w')) :
  jaf P f true (jal shs g):=by
 refine .inl ⟨jcu hf hb hn,fun ρ B w args hp nx t hS hob hlt hh hB=>?_⟩;unfold jal at hS;split at hS
 ·rename_i ls am hto;split at hS
  ·rename_i t' hg;cases hS;obtain⟨ob,x,rfl,hc⟩:=h ls t' hg;rw[jby]at hob;have hob:ob:=hob;obtain⟨b,ρ0,hbl,q⟩:=jhw hh hB shs args ls am hto hlt 0 (fun _=>undef) [];rw[List.append_nil]at hbl
   have hh0:HRel ρ0 (kd fun k=>k<w.heap.size) b.hp b.n w:=by
    refine⟨fun x o hf=>?_,fun x o x' o' k hf hf' _ hb=>?_,jjp hh.glob hB⟩
    ·obtain⟨_,a2,a3,a4,_⟩:=q.heap x o hf;exact⟨a2,a3,a4⟩
    ·obtain⟨_,_,_,_,a5⟩:=q.heap x o hf;rw[a5]at hb;cases hb
   have hcalls:=hc hob b hbl ρ0 w hh0;rw[q.val]at hcalls;refine hcalls.mono ?_;rintro e w' ⟨rfl,hbw⟩;refine⟨ρ,?_,jae.refl _ _,?_,?_,⟨B,Grow.refl _ _ _ _,?_⟩,jb9 hbw hB,fun _=>hbw,fun _ h o k hle hf _=>?_⟩
   ·rw[jby];rfl
   ·rw[jby];trivial
   ·rw[jby];exact Nat.le_refl _
   ·rw[jby];exact hh.below hbw hB
   ·rw[jby]at hf;have:=(hh.ok h o hf).1;omega
  ·cases hS
 ·cases hS
end
end Go.Sx
end

section
namespace Go.Sh
open Go Go.Proofs Go.RowKit Go.Sx
def jll:List SV:=[.c (.p [.d,.x (.st [.s,.i .i64,.ints .i64,.ints .i64,.ints .i64,.i .i64,.recs 5,.i .i64] []),.r (.ints .i64 [])]),.c .d,.c (.r (.bools []))]
def jcG (gUnits:List (List NC)) (i:Int) (placed:List Bool):Option Bool :=
 if 0≤i∧i<gUnits.length then
  if((nL gUnits i.toNat 2).length:Int)<9223372036854775807∧(Sx09.needL (nL gUnits i.toNat 2) (nI gUnits i.toNat 7)).all (fun x=>decide (0≤x∧x<placed.length))=true then
   some (Sx09.readyB placed (Sx09.needL (nL gUnits i.toNat 2) (nI gUnits i.toNat 7)))
  else none
 else none
def jhB:List Lf→Option GT
 |[.d (.s gName),.x (.st [.s,.i .i64,.ints .i64,.ints .i64,.ints .i64,.i .i64,.recs 5,.i .i64] gUnits),.r (.ints .i64 order),.d (.i .i64 i),.r (.bools placed)]=>some (.leaf (ok (jcG gUnits i placed)) [.c (.d (.b (val (jcG gUnits i placed))))])
 |_=>none
abbrev sp_85:jaa→jaa:=jaH 85 true (jal jll jhB)
theorem joV:jaf Tryz.prog 85 true (jal jll jhB):=by
 refine js2 (fn:=Tryz.f85) (body:=bodyOf Tryz.f85) Tryz.func85 (by kernel_rfl) (by kernel_rfl) fun ls t h=>?_;unfold jhB at h;split at h
 ·rename_i gName gUnits order i placed;cases h;refine⟨_,_,rfl,fun hok b hb ρ w hh=>?_⟩
  have hbe:b=⟨[.w (.c (.p 2 0 1 0)),.w (.c (.d (.i .i64 i))),.w (.c (.o 3))],[(3,.ext (.bools placed)),(2,.ebox [.d (.s gName),.o 0,.o 1]),(1,.ext (.ints .i64 order)),(0,.xext (.st Sx09.shU gUnits))],4,[]⟩ :=
   Option.some.inj (hb.symm.trans (by kernel_rfl))
  subst hbe;unfold ok jcG at hok;split at hok
  ·rename_i hi;split at hok
   ·rename_i hL
    have hv:val (jcG gUnits i placed)=Sx09.readyB placed (Sx09.needL (nL gUnits i.toNat 2) (nI gUnits i.toNat 7)):=by
     unfold jcG;rw[if_pos hi,if_pos hL];rfl
    rw[hv];exact(callsIn_wide (n:=9)).1 (Sx09.ready_in gName gUnits order i placed ρ w hh hi hL.1 fun x hx=>by simpa using List.all_eq_true.1 hL.2 x hx)
   ·cases hok
  ·cases hok
 ·cases h
theorem sp_85_ok {sp:jaa} (h:jac Tryz.prog sp):jac Tryz.prog (sp_85 sp):=jas joV h
open Go.IntKind (wrap)
def jg2:List SV:=[.a [.d,.x (.st [.s,.i .i64,.ints .i64,.ints .i64,.ints .i64,.i .i64,.recs 5,.i .i64] [])]]
def jcx (u1:List (List NC)) (x0:Int × List Bool × List Int) (x1:Int):Option (Int ⊕ Int) :=
 if x1<(↑u1.length:Int)then
  if 0≤x1∧x1<(↑x0.2.1.length:Int)then
  if Int.toNat x1<List.length x0.2.1 then
   if(!List.getD x0.2.1 x1.toNat false)=true then
   Option.bind (jcG u1 x1 x0.2.1) fun r1 =>
   if(r1)=true then
    some (.inr x1)
   else
    some (.inl (wrap .i64 (x1+1)))
   else
   some (.inl (wrap .i64 (x1+1)))
  else none
  else none
 else
  some (.inr (-1:Int))
def jh7 (x0:Int × List Bool × List Int) (u35:Int):Option ((Int × List Bool × List Int) ⊕ (Unit ⊕ (List Int))) :=
 if(u35==(-1:Int))=true then
  some (.inr ((.inl ())))
 else
  if 0≤u35∧u35<(↑x0.2.1.length:Int)then
  if Int.toNat u35<List.length x0.2.1 then
   if(List.length x0.2.2+List.length [u35])*8≤140737488355328∧List.length x0.2.2+List.length [u35]≤9223372036854775807 then
   some (.inl ((wrap .i64 (x0.1+1),List.set x0.2.1 u35.toNat true,x0.2.2++[u35])))
   else none
  else none
  else none
def jb5 (u1:List (List NC)) (x0:(Int × List Bool × List Int)):Option ((Int × List Bool × List Int) ⊕ (Unit ⊕ (List Int))) :=
 if x0.1<(↑u1.length:Int)then
  Option.bind (jak (jcx u1 x0) big (0:Int)) (jh7 x0)
 else
  some (.inr (.inr x0.2.2))
def jrn (u5:Unit):Option Int :=
 some (19:Int)
def jro (u6:List Int):Option Int :=
 none
def jh8:(Unit ⊕ (List Int))→Option Int :=
 (Sum.elim (jrn) (jro))
def jbh (u4:ByteArray) (u1:List (List NC)):Option Int :=
 Option.bind (y24 u4 u1) fun r0 =>
 if(r0.2 != 0)=true then
  some r0.2
 else
  if 0≤(↑u1.length:Int)∧(↑u1.length:Int)=(↑u1.length:Int)∧(↑(1:Nat):Int)*(↑u1.length:Int)≤281474976710656∧(↑u1.length:Int)≤9223372036854775807 then
  Option.bind (jak (jb5 u1) big (((0:Int),List.replicate (Int.toNat (↑u1.length:Int)) false,[]))) (jh8)
  else none
def jmR (u1:List (List NC)) (x0:Int × List Bool × List Int) (x1:Int):Option (Int ⊕ Int) :=
 if x1<(↑u1.length:Int)then
  if 0≤x1∧x1<(↑x0.2.1.length:Int)then
  if Int.toNat x1<List.length x0.2.1 then
   if(!List.getD x0.2.1 x1.toNat false)=true then
   Option.bind (jcG u1 x1 x0.2.1) fun r1 =>
   if(r1)=true then
    some (.inr x1)
   else
    some (.inl (wrap .i64 (x1+1)))
   else
   some (.inl (wrap .i64 (x1+1)))
  else none
  else none
 else
  some (.inr (-1:Int))
def jmS (x0:Int × List Bool × List Int) (u35:Int):Option ((Int × List Bool × List Int) ⊕ (Unit ⊕ (List Int))) :=
 if(u35==(-1:Int))=true then
  some (.inr ((.inl ())))
 else
  if 0≤u35∧u35<(↑x0.2.1.length:Int)then
  if Int.toNat u35<List.length x0.2.1 then
   if(List.length x0.2.2+List.length [u35])*8≤140737488355328∧List.length x0.2.2+List.length [u35]≤9223372036854775807 then
   some (.inl ((wrap .i64 (x0.1+1),List.set x0.2.1 u35.toNat true,x0.2.2++[u35])))
   else none
  else none
  else none
def jfp (u1:List (List NC)) (x0:(Int × List Bool × List Int)):Option ((Int × List Bool × List Int) ⊕ (Unit ⊕ (List Int))) :=
 if x0.1<(↑u1.length:Int)then
  Option.bind (jak (jmR u1 x0) big (0:Int)) (jmS x0)
 else
  some (.inr (.inr x0.2.2))
def jrp (u4:ByteArray) (u5:Unit):Option (ByteArray × List Int × Int) :=
 none
def jrq (u4:ByteArray) (u6:List Int):Option (ByteArray × List Int × Int) :=
 some ((u4,u6,0))
def jh9 (u4:ByteArray):(Unit ⊕ (List Int))→Option (ByteArray × List Int × Int) :=
 (Sum.elim (jrp u4) (jrq u4))
def jbY (u4:ByteArray) (u1:List (List NC)):Option (ByteArray × List Int × Int) :=
 Option.bind (y24 u4 u1) fun r0 =>
 if(r0.2 != 0)=true then
  none
 else
  if 0≤(↑u1.length:Int)∧(↑u1.length:Int)=(↑u1.length:Int)∧(↑(1:Nat):Int)*(↑u1.length:Int)≤281474976710656∧(↑u1.length:Int)≤9223372036854775807 then
  Option.bind (jak (jfp u1) big (((0:Int),List.replicate (Int.toNat (↑u1.length:Int)) false,[]))) (jh9 u4)
  else none
def js3:List Lf→Option GT
 |[.d (.s u4),.x (.st [.s,.i .i64,.ints .i64,.ints .i64,.ints .i64,.i .i64,.recs 5,.i .i64] u1)]=>some (.br (Option.isSome (jbh u4 u1)) (.leaf (ok (jbh u4 u1)) [.c (.d (.v (Value.pointer none))),.c (.d (.i .i64 ((val (jbh u4 u1)))))]) (.leaf (ok (jbY u4 u1)) [.c (.box 130 [.d (.s ((val (jbY u4 u1)).1)),.g 0,.row 3 (.ints .i64 ((val (jbY u4 u1)).2.1))]),.c (.d (.i .i64 ((val (jbY u4 u1)).2.2)))]))
 |_=>none
abbrev jia (u4:ByteArray) (u1:List (List NC)) (r:Int):Lp ((Int × List Bool × List Int) × Nat) (Int × List Bool × List Int) ((Unit ⊕ (List Int))) Int Int :=
 ⟨fun z=>z.1,fun z=>z.2,fun z x n=>(x,n),fun z=>jb5 u1,fun z=>jh8,fun z=>top r,fun z=>0,[.c fun _=>0,.c fun _=>0,.c fun _=>(↑u1.length:Int),.c fun vv=>vv.1.1,.c fun _=>u4,.c fun _=>u4,.c fun vv=>vv.1.2.1,.c fun _=>u1,.c fun vv=>vv.1.2.2]⟩
abbrev jmT (u4:ByteArray) (u1:List (List NC)) (r:Int) (m1:Nat):Lp ((Int × List Bool × List Int) × Nat × Int × Nat) Int Int (((Int × List Bool × List Int) ⊕ (Unit ⊕ (List Int)))) Int :=
 ⟨fun z=>z.2.2.1,fun z=>z.2.2.2,fun z x n=>(z.1,z.2.1,x,n),fun z=>jcx u1 z.1,fun z=>jh7 z.1,fun z=>(jia u4 u1 r).cx (z.1,m1),fun z=>z.2.1,[.c fun _=>0,.c fun _=>0,.c fun _=>(-1:Int),.c fun _=>(↑u1.length:Int),.c fun vv=>vv.1.1,.c fun _=>(↑u1.length:Int),.c fun vv=>vv.2.2.1,.c fun _=>u4,.c fun _=>u4,.c fun vv=>vv.1.2.1,.c fun _=>u1,.c fun vv=>vv.1.2.2]⟩
def juK (u4:ByteArray) (u1:List (List NC)) (r:Int):Sk (top r) (Option.bind (jak (jb5 u1) big (((0:Int),List.replicate (Int.toNat (↑u1.length:Int)) false,[]))) (jh8)) :=
 .loopQ (jia u4 u1 r) [.c fun _=>0,.c fun _=>0,.c fun _=>(↑u1.length:Int),.c fun vv=>vv.1.1,.c fun _=>u4,.c fun _=>u4,.c fun vv=>vv.1.2.1,.c fun _=>u1,.p fun vv=>List.length vv.1.2.2=(0:Nat)] (fun kk=>(((0:Int),List.replicate (Int.toNat (↑u1.length:Int)) false,[]),big)) (fun z0 =>
 .br
 (.loop (jmT u4 u1 r z0.2) (fun kk=>(z0.1,kk,0,big)) fun z1 =>
 .br
 (.ob (.ob (.brB
 (.call (.brB
 (.exit (.brB
 (.exit (.obT (.obT (.ret (fun r=>(Ob (Value.pointer none=Value.pointer none) ∧
 (Ob ((19:Int)=r) ∧
 True))) ⟨⟨rfl⟩,⟨⟨rfl⟩,trivial⟩⟩))))
 (.ob (.ob (.ob (.next))))))
 (.next)))
 (.next))))
 (.exit (.exit (.obT (.obT (.ret (fun r=>(Ob (Value.pointer none=Value.pointer none) ∧
 (Ob ((19:Int)=r) ∧
 True))) ⟨⟨rfl⟩,⟨⟨rfl⟩,trivial⟩⟩))))))
 (.exit (.obT (.obT (.bad (False)))))) (fun _=>⟨rfl,trivial⟩)
def jwK (u4:ByteArray) (u1:List (List NC)) (r:Int):Sk (top r) (jbh u4 u1) :=
 .call (.brB
 (.obT (.obT (.ret (fun r=>(Ob (Value.pointer none=Value.pointer none) ∧
 (Ob ((val (y24 u4 u1)).2=r) ∧
 True))) ⟨⟨rfl⟩,⟨⟨rfl⟩,trivial⟩⟩)))
 (.ob (juK u4 u1 r)))
theorem juL (u4:ByteArray) (u1:List (List NC)) (r:Int) (h:Option.bind (jbh u4 u1) some=some r):jbg Tryz.f80 ((sp_18 (sp_85 sp0))) (fun gs id _=>match id with
 |0=>some ⟨(Int × List Bool × List Int) × Nat,fun z=>⟨[(1,.w (.c (.p 1 0 1 0))),(6,.w (.c (.p 2 0 1 0))),(7,.w (.c (.o 3))),(27,.w (.c (.d (.i .i64 ((↑u1.length:Int)))))),(28,.w (.c (.d (.i .i64 z.1.1))))],[(1,.box 24 [.d (.s u4),.o 0]),(2,.box 130 [.d (.s u4),.o 0,.o 4]),(3,.row 4 (.bools z.1.2.1)),(0,.xext (XC.st [NK.s,NK.i .i64,NK.ints .i64,NK.ints .i64,NK.ints .i64,NK.i .i64,NK.recs (5:Nat),NK.i .i64] u1)),(4,.row 3 (.ints .i64 z.1.2.2))],5⟩,fun z=>(jia u4 u1 r).inv z,fun z=>z.2⟩
 |2=>some ⟨(Int × List Bool × List Int) × Nat × Int × Nat,fun z=>⟨[(1,.w (.c (.p 1 0 1 0))),(6,.w (.c (.p 2 0 1 0))),(7,.w (.c (.o 3))),(8,.w (.c (.d (.i .i64 (-1:Int))))),(27,.w (.c (.d (.i .i64 ((↑u1.length:Int)))))),(28,.w (.c (.d (.i .i64 (z.1.1))))),(32,.w (.c (.d (.i .i64 ((↑u1.length:Int)))))),(33,.w (.c (.d (.i .i64 z.2.2.1))))],[(1,.box 24 [.d (.s u4),.o 0]),(2,.box 130 [.d (.s u4),.o 0,.o 4]),(3,.row 4 (.bools (z.1.2.1))),(0,.xext (XC.st [NK.s,NK.i .i64,NK.ints .i64,NK.ints .i64,NK.ints .i64,NK.i .i64,NK.recs (5:Nat),NK.i .i64] u1)),(4,.row 3 (.ints .i64 (z.1.2.2)))],5⟩,fun z=>(jmT u4 u1 r (gs.getD 0 0)).inv z,fun z=>z.2.2.2⟩
 |_=>none) (ja8 jg2 [.d (.s u4),.x (.st [.s,.i .i64,.ints .i64,.ints .i64,.ints .i64,.i .i64,.recs 5,.i .i64] u1)]) [.c (.d (.v (Value.pointer none))),.c (.d (.i .i64 r))] :=
 Sk.vc (jwK u4 u1 r) (by kernel_rfl) h
abbrev jib (u4:ByteArray) (u1:List (List NC)) (r:ByteArray × List Int × Int):Lp ((Int × List Bool × List Int) × Nat) (Int × List Bool × List Int) ((Unit ⊕ (List Int))) (ByteArray × List Int × Int) (ByteArray × List Int × Int) :=
 ⟨fun z=>z.1,fun z=>z.2,fun z x n=>(x,n),fun z=>jfp u1,fun z=>jh9 u4,fun z=>top r,fun z=>0,[.c fun _=>0,.c fun _=>0,.c fun _=>(↑u1.length:Int),.c fun vv=>vv.1.1,.c fun _=>u4,.c fun _=>u4,.c fun vv=>vv.1.2.1,.c fun _=>u1,.c fun vv=>vv.1.2.2]⟩
abbrev jmU (u4:ByteArray) (u1:List (List NC)) (r:ByteArray × List Int × Int) (m1:Nat):Lp ((Int × List Bool × List Int) × Nat × Int × Nat) Int Int (((Int × List Bool × List Int) ⊕ (Unit ⊕ (List Int)))) (ByteArray × List Int × Int) :=
 ⟨fun z=>z.2.2.1,fun z=>z.2.2.2,fun z x n=>(z.1,z.2.1,x,n),fun z=>jmR u1 z.1,fun z=>jmS z.1,fun z=>(jib u4 u1 r).cx (z.1,m1),fun z=>z.2.1,[.c fun _=>0,.c fun _=>0,.c fun _=>(-1:Int),.c fun _=>(↑u1.length:Int),.c fun vv=>vv.1.1,.c fun _=>(↑u1.length:Int),.c fun vv=>vv.2.2.1,.c fun _=>u4,.c fun _=>u4,.c fun vv=>vv.1.2.1,.c fun _=>u1,.c fun vv=>vv.1.2.2]⟩
def juM (u4:ByteArray) (u1:List (List NC)) (r:ByteArray × List Int × Int):Sk (top r) (Option.bind (jak (jfp u1) big (((0:Int),List.replicate (Int.toNat (↑u1.length:Int)) false,[]))) (jh9 u4)) :=
 .loopQ (jib u4 u1 r) [.c fun _=>0,.c fun _=>0,.c fun _=>(↑u1.length:Int),.c fun vv=>vv.1.1,.c fun _=>u4,.c fun _=>u4,.c fun vv=>vv.1.2.1,.c fun _=>u1,.p fun vv=>List.length vv.1.2.2=(0:Nat)] (fun kk=>(((0:Int),List.replicate (Int.toNat (↑u1.length:Int)) false,[]),big)) (fun z0 =>
 .br
 (.loop (jmU u4 u1 r z0.2) (fun kk=>(z0.1,kk,0,big)) fun z1 =>
 .br
 (.ob (.ob (.brB
 (.call (.brB
 (.exit (.brB
 (.exit (.obT (.obT (.bad (False)))))
 (.ob (.ob (.ob (.next))))))
 (.next)))
 (.next))))
 (.exit (.exit (.obT (.obT (.bad (False)))))))
 (.exit (.obT (.obT (.rc))))) (fun _=>⟨rfl,trivial⟩)
def jwL (u4:ByteArray) (u1:List (List NC)) (r:ByteArray × List Int × Int):Sk (top r) (jbY u4 u1) :=
 .call (.brB
 (.obT (.obT (.bad (False))))
 (.ob (juM u4 u1 r)))
theorem juN (u4:ByteArray) (u1:List (List NC)) (r:ByteArray × List Int × Int) (h:Option.bind (jbY u4 u1) some=some r):jbg Tryz.f80 ((sp_18 (sp_85 sp0))) (fun gs id _=>match id with
 |0=>some ⟨(Int × List Bool × List Int) × Nat,fun z=>⟨[(1,.w (.c (.p 1 0 1 0))),(6,.w (.c (.p 2 0 1 0))),(7,.w (.c (.o 3))),(27,.w (.c (.d (.i .i64 ((↑u1.length:Int)))))),(28,.w (.c (.d (.i .i64 z.1.1))))],[(1,.box 24 [.d (.s u4),.o 0]),(2,.box 130 [.d (.s u4),.o 0,.o 4]),(3,.row 4 (.bools z.1.2.1)),(0,.xext (XC.st [NK.s,NK.i .i64,NK.ints .i64,NK.ints .i64,NK.ints .i64,NK.i .i64,NK.recs (5:Nat),NK.i .i64] u1)),(4,.row 3 (.ints .i64 z.1.2.2))],5⟩,fun z=>(jib u4 u1 r).inv z,fun z=>z.2⟩
 |2=>some ⟨(Int × List Bool × List Int) × Nat × Int × Nat,fun z=>⟨[(1,.w (.c (.p 1 0 1 0))),(6,.w (.c (.p 2 0 1 0))),(7,.w (.c (.o 3))),(8,.w (.c (.d (.i .i64 (-1:Int))))),(27,.w (.c (.d (.i .i64 ((↑u1.length:Int)))))),(28,.w (.c (.d (.i .i64 (z.1.1))))),(32,.w (.c (.d (.i .i64 ((↑u1.length:Int)))))),(33,.w (.c (.d (.i .i64 z.2.2.1))))],[(1,.box 24 [.d (.s u4),.o 0]),(2,.box 130 [.d (.s u4),.o 0,.o 4]),(3,.row 4 (.bools (z.1.2.1))),(0,.xext (XC.st [NK.s,NK.i .i64,NK.ints .i64,NK.ints .i64,NK.ints .i64,NK.i .i64,NK.recs (5:Nat),NK.i .i64] u1)),(4,.row 3 (.ints .i64 (z.1.2.2)))],5⟩,fun z=>(jmU u4 u1 r (gs.getD 0 0)).inv z,fun z=>z.2.2.2⟩
 |_=>none) (ja8 jg2 [.d (.s u4),.x (.st [.s,.i .i64,.ints .i64,.ints .i64,.ints .i64,.i .i64,.recs 5,.i .i64] u1)]) [.c (.box 130 [.d (.s r.1),.g 0,.row 3 (.ints .i64 r.2.1)]),.c (.d (.i .i64 r.2.2))] :=
 Sk.vc (jwL u4 u1 r) (by kernel_rfl) h
theorem jyh:jaf Tryz.prog 80 true (jal jg2 js3):=by
 refine jaA (sp:=(sp_18 (sp_85 sp0))) (fn:=Tryz.f80) (body:=bodyOf Tryz.f80) mixed (sp_18_ok (sp_85_ok jau)) Tryz.func80 (by kernel_rfl) (by kernel_rfl) fun ls t h ho b hb=>?_;unfold js3 at h;split at h
 ·rename_i u4 u1;cases h;obtain rfl:=jaM hb;refine jBO (Q:=fun rs=>_∧∃fuel loops,sx _ _ _ _ fuel loops _ _ _ _ _ (jcb _ _ fun v hp _=>jfS _ rs v hp)) (fun _ ho=>⟨Nat.le_of_ble_eq_true (by kernel_rfl),_,_,juL u4 u1 _ (jaq ho)⟩) (fun _ ho=>?_) ho;exact⟨Nat.le_of_ble_eq_true (by kernel_rfl),_,_,juN u4 u1 _ (jaq ho)⟩
 ·cases h
end Go.Sh
end

section
namespace Go.Sh
open Go Go.Proofs Go.RowKit Go.Sx
theorem jl1 {g:List (List NC)} {i:Nat} (h:jbe g i=0):(∀x∈nL g i 2,0≤x∧x<(g.length:Int))∧(nI g i 7=-1∨(0≤nI g i 7∧nI g i 7<(g.length:Int))):=by
 have hm:jdL g.length (nL g i 2)=false:=by
  cases hb:jdL g.length (nL g i 2)with
  |false=>rfl
  |true =>
   exfalso;unfold jbe at h;rw[if_pos hb]at h
   repeat' split at h
   all_goals exact absurd h (by decide)
 have hs:sdB g.length (nI g i 7)=true:=by
  cases hb:sdB g.length (nI g i 7)with
  |true=>rfl
  |false =>
   exfalso;unfold jbe at h;rw[hm,if_neg (by simp:¬(false=true)),hb,if_pos (by simp:(!false)=true)]at h
   repeat' split at h
   all_goals exact absurd h (by decide)
 refine⟨fun x hx=>?_,?_⟩
 ·have:=List.any_eq_false.1 hm x hx;simp only[inB,Bool.not_eq_true,Bool.not_eq_false',Bool.and_eq_true,decide_eq_true_eq]at this;omega
 ·unfold sdB inB at hs;simp only[Bool.or_eq_true,beq_iff_eq,Bool.and_eq_true,decide_eq_true_eq]at hs;omega
def jc2 (out:List Int) (k:Nat):Bool:=out.any (·== (k:Int))
def jbo (g:List (List NC)) (i k:Nat):Bool:=(nL g i 2).any (·== (k:Int))||nI g i 7==(k:Int)
def jbO (g:List (List NC)) (out:List Int) (i:Nat):Bool:=!(List.range g.length).any fun k=>jbo g i k && !jc2 out k
def jdX (g:List (List NC)) (out:List Int) (i:Nat):Bool:=!jc2 out i&&jbO g out i
def jbF (g:List (List NC)) (out:List Int):Option Nat:=(List.range g.length).find? (jdX g out)
def jaX (n:Nat) (out:List Int):List Bool:=(List.range n).map (jc2 out)
theorem jlm {g:List (List NC)} (hw:Fw g) {i:Nat} (hi:i<g.length) (k:Nat) (nm:ByteArray) (a:Int) (b c:List Int) (d:Int) (e:List (List Int)):y72 nm a (nL g i 2) b c d e (nI g i 7) (k:Int)=some (jbo g i k):=by
 have h2:=hw.fr i hi;unfold y72 jbo;rw[jdV _ _ (by omega),jad];cases (nL g i 2).any (·== (k:Int))<;>rfl
theorem jqC {g:List (List NC)} (hw:Fw g) (nm:ByteArray) {i:Nat} (hi:i<g.length) (out:List Int) (ho:out.length<1000):y73 nm g out (i:Int)=some (jbO g out i):=by
 have hn:=hw.n;unfold y73
 have key:=jdu (body:=y68 g out (i:Int)) g.length (fun k=>jbo g i k && !jc2 out k) (.inl ()) (.inr ()) (by omega) (fun k hk hp=>by
   simp only[Bool.and_eq_true,Bool.not_eq_true']at hp;unfold y68;simp only[Int.toNat_natCast];rw[if_pos (by omega),if_pos (by omega),if_pos hi,jlm hw hi,jad,if_pos hp.1,jdV _ _ (by omega),jad];have h2:(out.any (·== (k:Int)))=false:=hp.2;rw[h2];rfl) (fun k hk hp=>by
   unfold y68;simp only[Int.toNat_natCast];rw[if_pos (by omega),if_pos (by omega),if_pos hi,jlm hw hi,jad];cases h1:jbo g i k with
   |false=>rw[if_neg (by simp),jaL (by omega)]
   |true =>
    rw[h1]at hp;have h2:jc2 out k=true:=by simpa using hp
    have h2:(out.any (·== (k:Int)))=true:=h2;rw[if_pos rfl,jdV _ _ (by omega),jad,h2,jaL (by omega)];rfl) (by
   unfold y68;rw[if_neg (by omega)])
 rw[key];unfold jbO;cases (List.range g.length).any (fun k=>jbo g i k && !jc2 out k)<;>rfl
theorem jex (n:Nat) (out:List Int):(jaX n out).length=n:=by simp[jaX]
theorem jey {n k:Nat} (hk:k<n) (out:List Int):(jaX n out).getD k false=jc2 out k:=by simp[jaX,List.getD,hk]
theorem joW {n i:Nat} (hi:i<n) (out:List Int):(jaX n out).set i true=jaX n (out++[(i:Int)]):=by
 refine List.ext_getElem (by simp[jaX]) fun k h1 h2=>?_;have hk:k<n:=by simpa [jaX]using h2
 rw[List.getElem_set];simp only[jaX,List.getElem_map,List.getElem_range,jc2,List.any_append,List.any_cons,List.any_nil,Bool.or_false]
 by_cases h:i=k
 ·subst h;simp
 ·rw[if_neg h];have:((i:Int)==(k:Int))=false:=by simp;omega
  rw[this,Bool.or_false]
theorem jln {g:List (List NC)} (hw:Fw g) {i:Nat} (hi:i<g.length) (hr:jbe g i=0) (out:List Int):jcG g (i:Int) (jaX g.length out)=some (jbO g out i):=by
 have h2:=hw.fr i hi;obtain⟨r1,r2⟩:=jl1 hr
 have hmem:∀x,x∈Sx09.needL (nL g i 2) (nI g i 7)↔(x∈nL g i 2∨(nI g i 7≠-1∧x=nI g i 7)):=fun x=>by
  unfold Sx09.needL;split
  ·rename_i h;simp[h]
  ·rename_i h;simp[h]
 have hrg:∀x∈Sx09.needL (nL g i 2) (nI g i 7),0≤x∧x<(g.length:Int):=fun x hx=>by
  rcases(hmem x).1 hx with h|⟨h,rfl⟩
  ·exact r1 x h
  ·exact r2.resolve_left h
 unfold jcG;simp only[Int.toNat_natCast]
 rw[if_pos (by omega),if_pos ⟨by omega,by
  rw[List.all_eq_true];intro x hx;rw[jex];simpa using hrg x hx⟩]
 congr 1
 rw[Bool.eq_iff_iff];unfold Sx09.readyB jbO;rw[List.all_eq_true,Bool.not_eq_true',List.any_eq_false];constructor
 ·intro h k hk;have hk:k<g.length:=List.mem_range.1 hk;simp only[Bool.and_eq_true,Bool.not_eq_true',not_and,Bool.not_eq_false];intro hn
  have hx:(k:Int)∈Sx09.needL (nL g i 2) (nI g i 7):=by
   rw[hmem];unfold jbo at hn;rw[Bool.or_eq_true,List.any_eq_true]at hn;rcases hn with ⟨x,hx,e⟩|e
   ·have:x=(k:Int):=by simpa using e
    subst this;exact .inl hx
   ·have:nI g i 7=(k:Int):=by simpa using e
    exact .inr ⟨by omega,this.symm⟩
  have:=h _ hx
  rwa [Int.toNat_natCast,jey hk]at this
 ·intro h x hx;obtain⟨h0,h1⟩:=hrg x hx;obtain⟨k,rfl⟩:∃k:Nat,x=(k:Int):=⟨x.toNat,by omega⟩
  have hk:k<g.length:=by omega
  rw[Int.toNat_natCast,jey hk];have:=h k (List.mem_range.2 hk);simp only[Bool.and_eq_true,Bool.not_eq_true',not_and,Bool.not_eq_false]at this;refine this ?_;unfold jbo;rw[Bool.or_eq_true,List.any_eq_true];rcases(hmem _).1 hx with h|⟨h,e⟩
  ·exact .inl ⟨_,h,by simp⟩
  ·exact .inr (by simp[←e])
theorem jzW (P:Nat→Bool) (l:List Nat):(l.findIdx? P).map (fun i=>l.getD i 0)=l.find? P:=by
 induction l with
 |nil=>rfl
 |cons x r ih =>
  rw[List.findIdx?_cons,List.find?_cons];cases P x with
  |true=>rfl
  |false =>
   rw[←ih];cases r.findIdx? P<;>rfl
theorem jyi {Y:Type} (n:Nat) (P:Nat→Bool) {body:Int→Option (Int ⊕ Y)} (hit:Nat→Y) (miss:Y) (hlen:n<9223372036854775807)
  (h1:∀i,i<n→P i=true→body (i:Int)=some (.inr (hit i)))
  (h2:∀i,i<n→P i=false→body (i:Int)=some (.inl ((i:Int)+1))) (h3:body (n:Int)=some (.inr miss)) :
  jak body big 0=some (match(List.range n).find? P with|some i=>hit i|none=>miss):=by
 have hg:∀i,i<n→(List.range n).getD i 0=i:=fun i hi=>by simp[List.getD,hi]
 have key:=jbK (body:=body) (List.range n) 0 P hit miss (by simpa using hlen) (fun i hi hp=>by
   have hi:i<n:=by simpa using hi
   rw[hg i hi]at hp;exact h1 i hi hp) (fun i hi hp=>by
   have hi:i<n:=by simpa using hi
   rw[hg i hi]at hp;exact h2 i hi hp) (by simpa using h3)
 rw[key,←jzW];cases h:(List.range n).findIdx? P with
 |none=>rfl
 |some i =>
  show some (hit i)=some (hit ((List.range n).getD i 0))
  rw[hg i (joQ h)]
def jdz (next:List Int→Option Nat):Nat→List Int→Option (List Int)
 |0,out=>some out
 |k+1,out=>match next out with
  |some i=>jdz next k (out++[(i:Int)])
  |none=>none
theorem jnu {X Y:Type} {body:X→Option (X ⊕ Y)} (F:List Int→X) (next:List Int→Option Nat) (good:List Int→Y) (bad:Y) (n:Nat)
  (h1:∀out,out.length<n→body (F out)=some (match next out with|some i=>.inl (F (out++[(i:Int)]))|none=>.inr bad)) (h2:∀out,out.length=n→body (F out)=some (.inr (good out))) :
  ∀(k:Nat) (out:List Int) (N:Nat),out.length+k=n→k<N→jak body N (F out)=some (match jdz next k out with|some l=>good l|none=>bad)
 |0,out,0,_,h=>by omega
 |0,out,N+1,ho,_=>by
  unfold jak;rw[h2 out (by omega)];rfl
 |k+1,out,0,_,h=>by omega
 |k+1,out,N+1,ho,hN=>by
  unfold jak;rw[h1 out (by omega)];unfold jdz;cases hx:next out with
  |none=>rfl
  |some i=>exact jnu F next good bad n h1 h2 k (out++[(i:Int)]) N (by simp;omega) (by omega)
end Go.Sh
end

section
open Go.RowKit
namespace Go.Sx
def nzI (e:Int):Int:=Int.ofNat (e.toNat-1+1)
theorem jB3 {e:Int} (h:0<e):nzI e=e:=by
 unfold nzI;rw[Int.ofNat_eq_natCast];omega
theorem jyj [Globs] {P:Program} {f:Nat} {shs:List SV} {g g':List Lf→Option GT} (h:∀ls t',g' ls=some t'→∃t,g ls=some t∧(t'.sel.1→t.sel.1∧t.sel.2=t'.sel.2)) (hS:jaf P f true (jal shs g)):jaf P f true (jal shs g'):=by
 have key:∀args hp nx t',jal shs g' args hp nx=some t'→t'.sel.ob→∃t,jal shs g args hp nx=some t∧t.sel.ob∧t.sel.v=t'.sel.v∧t.sel.hp=t'.sel.hp∧t.sel.nx=t'.sel.nx:=by
  intro args hp nx t' ht hob;unfold jal at ht ⊢;split at ht
  ·rename_i ls am hto;split at ht
   ·rename_i q' hg;cases ht;obtain⟨q,hq,himp⟩:=h ls q' hg;rw[jby]at hob ⊢;obtain⟨h1,h2⟩:=himp hob;refine⟨q.toRT am hp nx,by simp only[hq],?_,?_,?_,?_⟩
    ·rw[jby];exact h1
    all_goals rw[jby];simp only[h2]
   ·cases ht
  ·cases ht
 rcases hS with hR|hV
 ·refine .inl ⟨hR.enter,fun ρ B w args hp nx t' ht hob hlt hh hB=>?_⟩;obtain⟨t,q1,q2,q3,q4,q5⟩:=key args hp nx t' ht hob;refine(hR.sound ρ B w args hp nx t q1 q2 hlt hh hB).mono ?_;rintro e w' ⟨ρ',he,hl⟩;refine⟨ρ',by rw[he,q3],hl.agree,by rw[←q3,←q5];exact hl.lt,by rw[←q5];exact hl.le,by rw[←q4,←q5];exact hl.heap,hl.below,hl.mono,by rw[←q4];exact hl.fresh⟩
 ·refine .inr fun ρ B w args hp nx t' ht hob hlt hh hB=>?_;obtain⟨t,q1,q2,q3,q4,q5⟩:=key args hp nx t' ht hob;obtain⟨ob,v,e1,e2,e3⟩:=hV ρ B w args hp nx t q1 q2 hlt hh hB;rw[e1]at q3 q4 q5;refine⟨t'.sel.ob,v,?_,e2,e3⟩;cases hs:t'.sel with
  |mk ob' v' hp' nx' =>
   rw[hs]at q3 q4 q5;simp only at q3 q4 q5;rw[←q3,←q4,←q5]
end Go.Sx
namespace Go.Sh
open Go Go.Proofs Go.RowKit Go.Sx
def jbU (gName:ByteArray) (gUnits:List (List NC)):Option Int:=(jbh gName gUnits).bind fun e=>if 0<e then some e else none
def jbL (gName:ByteArray) (gUnits:List (List NC)):Option (List Int):=(jbY gName gUnits).map fun r=>r.2.1
def jda (gName:ByteArray) (gUnits:List (List NC)):Bool:=(jbh gName gUnits).isSome
def jlo:List Lf→Option GT
 |[.d (.s gName),.x (.st [.s,.i .i64,.ints .i64,.ints .i64,.ints .i64,.i .i64,.recs 5,.i .i64] gUnits)]=>some (.br (jda gName gUnits) (.leaf (ok (jbU gName gUnits)) [.c (.d (.v (Value.pointer none))),.c (.d (.i .i64 (nzI (val (jbU gName gUnits)))))]) (.leaf (ok (jbL gName gUnits)) [.c (.box 130 [.d (.s gName),.g 0,.row 3 (.ints .i64 (val (jbL gName gUnits)))]),.c (.d (.i .i64 0))]))
 |_=>none
theorem jyk {gName:ByteArray} {gUnits:List (List NC)} {r:ByteArray × List Int × Int} (h:jbY gName gUnits=some r):r.1=gName∧r.2.2=0:=by
 unfold jbY at h;obtain⟨c,_,h⟩:=Option.bind_eq_some_iff.1 h;split at h
 ·cases h
 ·split at h
  ·obtain⟨y,_,h⟩:=Option.bind_eq_some_iff.1 h;cases y with
   |inl u=>cases h
   |inr l=>cases h;exact⟨rfl,rfl⟩
  ·cases h
theorem jwM:jaf Tryz.prog 80 true (jal jg2 jlo):=by
 refine jyj (fun ls t' h=>?_) jyh;unfold jlo at h;split at h
 ·rename_i gName gUnits;cases h;refine⟨_,rfl,fun hob=>?_⟩;unfold jda at hob ⊢;cases hq:(jbh gName gUnits).isSome with
  |true =>
   rw[hq]at hob;have hob:ok (jbU gName gUnits):=hob;obtain⟨e,he⟩:=Option.isSome_iff_exists.1 hq;have hF:jbU gName gUnits=if 0<e then some e else none:=by unfold jbU;rw[he];rfl
   have hpos:0<e:=by
    rw[hF]at hob
    by_cases h0:0<e
    ·exact h0
    ·rw[if_neg h0]at hob;cases hob
   rw[if_pos hpos]at hF;refine⟨hq,?_⟩
   show[RR.c (.d (.v (Value.pointer none))),RR.c (.d (.i .i64 (val (jbh gName gUnits))))]=[RR.c (.d (.v (Value.pointer none))),RR.c (.d (.i .i64 (nzI (val (jbU gName gUnits)))))]
   rw[joy he,joy hF,jB3 hpos]
  |false =>
   rw[hq]at hob;have hob:ok (jbL gName gUnits):=hob;cases he:jbY gName gUnits with
   |none=>unfold jbL at hob;rw[he]at hob;cases hob
   |some r =>
    have hS:jbL gName gUnits=some r.2.1:=by unfold jbL;rw[he];rfl
    obtain⟨q1,q2⟩:=jyk he;refine⟨rfl,?_⟩
    show[RR.c (.box 130 [.d (.s r.1),.g 0,.row 3 (.ints .i64 r.2.1)]),RR.c (.d (.i .i64 r.2.2))]=[RR.c (.box 130 [.d (.s gName),.g 0,.row 3 (.ints .i64 (val (jbL gName gUnits)))]),RR.c (.d (.i .i64 0))]
    rw[joy hS,q1,q2]
 ·cases h
abbrev sp_80:jaa→jaa:=jaH 80 true (jal jg2 jlo)
theorem sp_80_ok {sp:jaa} (h:jac Tryz.prog sp):jac Tryz.prog (sp_80 sp):=jas jwM h
end Go.Sh
end

section
namespace Go.Sh
open Go Go.Proofs Go.RowKit Go.Sx
open Go.IntKind (wrap)
def je7:List SV:=[.a [.d,.x (.st [.s,.i .i64,.ints .i64,.ints .i64,.ints .i64,.i .i64,.recs 5,.i .i64] [])],.c (.r (.ints .i64 []))]
def y18 (u1:List (List NC)) (l:List Int) (x0:(Int × List Bool)):Option ((Int × List Bool) ⊕ (Int ⊕ Unit)) :=
 if x0.1<(↑l.length:Int)then
  if 0≤x0.1∧x0.1<(↑l.length:Int)then
  if Int.toNat x0.1<List.length l then
   Option.bind (y16 (List.getD l x0.1.toNat (0:Int)) (0:Int) (wrap .i64 ((↑l.length:Int)-1))) fun r2 =>
   if(!r2)=true then
   some (.inr ((.inl (6:Int))))
   else
   if 0≤List.getD l x0.1.toNat (0:Int)∧List.getD l x0.1.toNat 0<(↑x0.2.length:Int)then
    if Int.toNat (List.getD l x0.1.toNat (0:Int))<List.length x0.2 then
    if(List.getD x0.2 (Int.toNat (List.getD l x0.1.toNat (0:Int))) false)=true then
     some (.inr ((.inl (26:Int))))
    else
     Option.bind (jcG u1 (List.getD l x0.1.toNat (0:Int)) x0.2) fun r3 =>
     if(!r3)=true then
     some (.inr ((.inl (9:Int))))
     else
     if 0≤List.getD l x0.1.toNat (0:Int)∧List.getD l x0.1.toNat 0<(↑x0.2.length:Int)then
      if Int.toNat (List.getD l x0.1.toNat (0:Int))<List.length x0.2 then
      some (.inl ((wrap .i64 (x0.1+1),List.set x0.2 (Int.toNat (List.getD l x0.1.toNat (0:Int))) true)))
      else none
     else none
    else none
   else none
  else none
  else none
 else
  some (.inr ((.inr ())))
def jmi (u5:Int):Option Int :=
 some u5
def jmj (u6:Unit):Option Int :=
 some (0:Int)
def y89:(Int ⊕ Unit)→Option Int :=
 (Sum.elim (jmi) (jmj))
def y29 (u4:ByteArray) (u1:List (List NC)) (l:List Int):Option Int :=
 if(jda u4 u1)=true then
  Option.bind (jbU u4 u1) fun r0 =>
  some (nzI r0)
 else
  Option.bind (jbL u4 u1) fun r1 =>
  if((↑l.length:Int)!=(↑u1.length:Int))=true then
  some (10:Int)
  else
  if 0≤(↑l.length:Int)∧(↑l.length:Int)=(↑l.length:Int)∧(↑(1:Nat):Int)*(↑l.length:Int)≤281474976710656∧(↑l.length:Int)≤9223372036854775807 then
   Option.bind (jak (y18 u1 l) big (((0:Int),List.replicate (Int.toNat (↑l.length:Int)) false))) (y89)
  else none
def je8:List Lf→Option GT
 |[.d (.s u4),.x (.st [.s,.i .i64,.ints .i64,.ints .i64,.ints .i64,.i .i64,.recs 5,.i .i64] u1),.r (.ints .i64 l)]=>some (.leaf (ok (y29 u4 u1 l)) [.c (.d (.i .i64 ((val (y29 u4 u1 l)))))])
 |_=>none
abbrev sp_25:jaa→jaa:=jaH 25 true (jal je7 je8)
abbrev jhC (u4:ByteArray) (u1:List (List NC)) (l:List Int) (r:Int):Lp ((Int × List Bool) × Nat) (Int × List Bool) (Int ⊕ Unit) Int Int :=
 ⟨fun z=>z.1,fun z=>z.2,fun z x n=>(x,n),fun z=>y18 u1 l,fun z=>y89,fun z=>top r,fun z=>0,[.c fun _=>0,.c fun _=>(↑l.length:Int),.c fun vv=>vv.1.1,.c fun _=>l,.c fun _=>u4,.c fun vv=>vv.1.2,.c fun _=>u1,.c fun _=>val (jbL u4 u1)]⟩
def joX (u4:ByteArray) (u1:List (List NC)) (l:List Int) (r:Int):Sk (top r) (Option.bind (jak (y18 u1 l) big (((0:Int),List.replicate (Int.toNat (↑l.length:Int)) false))) (y89)) :=
 .loop (jhC u4 u1 l r) (fun kk=>(((0:Int),List.replicate (Int.toNat (↑l.length:Int)) false),big)) fun z0 =>
 .br
 (.ob (.ob (.call (.brB
 (.exit (.obT (.rc)))
 (.ob (.ob (.brB
 (.exit (.obT (.rc)))
 (.call (.brB
 (.exit (.obT (.rc)))
 (.ob (.ob (.next))))))))))))
 (.exit (.obT (.rc)))
def jp6 (u4:ByteArray) (u1:List (List NC)) (l:List Int) (r:Int):Sk (top r) (y29 u4 u1 l) :=
 .brB
 (.call (.obT (.rc)))
 (.call (.brB
 (.obT (.rc))
 (.ob (joX u4 u1 l r))))
theorem joY (u4:ByteArray) (u1:List (List NC)) (l:List Int) (r:Int) (h:Option.bind (y29 u4 u1 l) some=some r):jbg Tryz.f25 ((sp_80 (sp_84 (sp_85 sp0)))) (fun gs id _=>match id with
 |0=>some ⟨(Int × List Bool) × Nat,fun z=>⟨[(1,.w (.c (.o 1))),(5,.w (.c (.p 2 0 1 0))),(7,.w (.c (.o 3))),(27,.w (.c (.o 1))),(28,.w (.c (.d (.i .i64 ((↑l.length:Int)))))),(29,.w (.c (.d (.i .i64 z.1.1))))],[(1,.ext (.ints .i64 l)),(2,.box 130 [.d (.s u4),.o 0,.o 4]),(3,.row 4 (.bools z.1.2)),(0,.xext (XC.st [NK.s,NK.i .i64,NK.ints .i64,NK.ints .i64,NK.ints .i64,NK.i .i64,NK.recs (5:Nat),NK.i .i64] u1)),(4,.row 3 (.ints .i64 (val (jbL u4 u1))))],5⟩,fun z=>(jhC u4 u1 l r).inv z,fun z=>z.2⟩
 |_=>none) (ja8 je7 [.d (.s u4),.x (.st [.s,.i .i64,.ints .i64,.ints .i64,.ints .i64,.i .i64,.recs 5,.i .i64] u1),.r (.ints .i64 l)]) [.c (.d (.i .i64 r))] :=
 Sk.vc (jp6 u4 u1 l r) (by kernel_rfl) h
theorem joZ:jaf Tryz.prog 25 true (jal je7 je8):=by
 refine jaA (sp:=(sp_80 (sp_84 (sp_85 sp0)))) (fn:=Tryz.f25) (body:=bodyOf Tryz.f25) mixed (sp_80_ok (sp_84_ok (sp_85_ok jau))) Tryz.func25 (by kernel_rfl) (by kernel_rfl) fun ls t h ho b hb=>?_;unfold je8 at h;split at h
 ·rename_i u4 u1 l;cases h;obtain rfl:=jaM hb;exact⟨Nat.le_of_ble_eq_true (by kernel_rfl),_,_,joY u4 u1 l _ (jaq ho)⟩
 ·cases h
theorem sp_25_ok {sp:jaa} (h:jac Tryz.prog sp):jac Tryz.prog (sp_25 sp):=jas joZ h
end Go.Sh
end

section
namespace Go.Sh
open Go Go.Proofs Go.RowKit Go.Sx
open Go.IntKind (wrap)
theorem jvs {g:List (List NC)} {out:List Int} {i:Nat} (h:jbF g out=some i):i<g.length∧jdX g out i=true :=
 ⟨List.mem_range.1 (List.mem_of_find?_eq_some h),List.find?_some h⟩
def jgp (P:Nat→Bool) (n k:Nat):Int:=match(List.range' (n-k) k).find? P with
 |some i=>(i:Int)
 |none=>-1
theorem jwN (P:Nat→Bool) {n k:Nat} (hk:k<n):jgp P n (k+1)=if P (n-1-k)=true then((n-1-k:Nat):Int)else jgp P n k:=by
 unfold jgp;have e:n-(k+1)=n-1-k:=by omega
 rw[List.range'_succ,e,List.find?_cons];have e2:n-1-k+1=n-k:=by omega
 rw[e2];cases P (n-1-k)<;>rfl
theorem jyl (P:Nat→Bool) (n:Nat):jgp P n n=match(List.range n).find? P with|some i=>(i:Int)|none=>-1:=by
 unfold jgp;rw[Nat.sub_self,←List.range_eq_range']
def jl2 (g:List (List NC)) (out:List Int):Int:=match jbF g out with
 |some i=>(i:Int)
 |none=>-1
theorem jym {g:List (List NC)} (hw:Fw g) (nm:ByteArray) (out:List Int) (ho:out.length<1000):jak (y57 nm g out) big (-1,wrap IntKind.i64 ((g.length:Int)-1))=some (jl2 g out):=by
 have hn:=hw.n
 have key:=jcL (body:=y57 nm g out) (fun k=>(jgp (jdX g out) g.length k,(g.length:Int)-1-(k:Int))) (y:=jl2 g out) (k:=g.length) (fun k hk=>by
   unfold y57;obtain⟨j,hj⟩:∃j:Nat,(g.length:Int)-1-(k:Int)=(j:Int):=⟨g.length-1-k,by omega⟩
   have hjn:j=g.length-1-k:=by omega
   have hjl:j<g.length:=by omega
   rw[hj,if_pos (by omega),jdV _ _ (by omega),jad,jqC hw nm hjl out ho];have hs:=jwN (jdX g out) hk;rw[←hjn]at hs;have he:(g.length:Int)-1-((k+1:Nat):Int)=(j:Int)-1:=by omega
   rw[he,hs,jaL (by omega)];have hc:jdX g out j=(!(out.any (·== (j:Int)))&&jbO g out j):=rfl;rw[hc];cases out.any (·== (j:Int))with
   |true=>rfl
   |false =>
    cases jbO g out j<;>rfl) (by
   unfold y57;rw[if_neg (by show ¬((g.length:Int)-1-(g.length:Int)≥0);omega)]
   show some (Sum.inr (jgp (jdX g out) g.length g.length))=_
   rw[jyl];rfl) (by omega)
 have e0:jgp (jdX g out) g.length 0=-1:=rfl;have key:jak (y57 nm g out) big (jgp (jdX g out) g.length 0,(g.length:Int)-1-((0:Nat):Int))=some (jl2 g out):=key;rw[e0]at key;rw[jaL (by omega)];have e1:(g.length:Int)-1-((0:Nat):Int)=(g.length:Int)-1:=by omega
 rw[e1]at key;exact key
theorem jqD {g:List (List NC)} (hw:Fw g) (nm:ByteArray):y6 nm g=some (match jdz (jbF g) g.length []with|some l=>(l,true)|none=>([],false)):=by
 have hn:=hw.n;unfold y6
 have key:=jnu (body:=y69 nm g) (fun out=>out) (jbF g) (fun l=>.inr l) (.inl ()) g.length (fun out ho=>by
   unfold y69;rw[if_pos (by omega),jym hw nm out (by omega),jad];unfold jgV jl2;cases hx:jbF g out with
   |none=>rfl
   |some i =>
    show(if(i:Int)<0 then _ else _)=_
    rw[if_neg (by omega),if_pos (by simp only[List.length_cons,List.length_nil];omega)]) (fun out ho=>by
   unfold y69;rw[if_neg (by omega)]) g.length [] big (by simp) (by have:big=18446744073709551616:=rfl;omega)
 rw[key];cases jdz (jbF g) g.length []<;>rfl
theorem jo0 (n:Nat):jaX n []=List.replicate n false:=by
 refine List.ext_getElem (by simp[jaX]) fun k h1 h2=>?_;simp[jaX,jc2]
theorem jyn {g:List (List NC)} (hw:Fw g) (hall:∀i,i<g.length→jbe g i=0) (out:List Int) (k:Int):jak (jcx g (k,jaX g.length out,out)) big 0=some (jl2 g out):=by
 have hn:=hw.n
 have key:=jyi (body:=jcx g (k,jaX g.length out,out)) g.length (jdX g out) (fun i=>(i:Int)) (-1) (by omega) (fun i hi hp=>by
   unfold jcx;simp only[Int.toNat_natCast,jex];unfold jdX at hp;rw[Bool.and_eq_true]at hp;rw[if_pos (by omega),if_pos (by omega),if_pos hi,jey hi,if_pos hp.1,jln hw hi (hall i hi),jad,if_pos hp.2]) (fun i hi hp=>by
   unfold jcx;simp only[Int.toNat_natCast,jex];unfold jdX at hp;rw[if_pos (by omega),if_pos (by omega),if_pos hi,jey hi];cases hh:jc2 out i with
   |true=>rw[if_neg (by simp),jaL (by omega)]
   |false =>
    rw[hh]at hp;have hr:jbO g out i=false:=by simpa using hp
    rw[if_pos (by rfl),jln hw hi (hall i hi),jad,hr,if_neg (by simp),jaL (by omega)]) (by
   unfold jcx;rw[if_neg (by omega)])
 exact key
theorem js4 {g:List (List NC)} (hw:Fw g) (hall:∀i,i<g.length→jbe g i=0):jak (jb5 g) big ((0:Int),List.replicate g.length false,[])=some (match jdz (jbF g) g.length []with|some l=>.inr l|none=>.inl ()):=by
 have hn:=hw.n
 have key:=jnu (body:=jb5 g) (fun out=>((out.length:Int),jaX g.length out,out)) (jbF g) (fun l=>.inr l) (.inl ()) g.length (fun out ho=>by
   unfold jb5;rw[if_pos (by show(out.length:Int)<_;omega),jyn hw hall,jad];unfold jh7 jl2;cases hx:jbF g out with
   |none=>rfl
   |some i =>
    have hi:=(jvs hx).1
    have hne:((i:Int) == -1)=false:=by
     rw[beq_eq_false_iff_ne];omega
    simp only[jex];rw[hne,if_neg (by simp),if_pos (by omega),if_pos (by omega),if_pos (by simp only[List.length_cons,List.length_nil];omega),jaL (by omega),Int.toNat_natCast,joW hi];simp) (fun out ho=>by
   unfold jb5;rw[if_neg (by show ¬(out.length:Int)<_;omega)]) g.length [] big (by simp) (by have:big=18446744073709551616:=rfl;omega)
 rw[jo0]at key;exact key
theorem jlp (next:List Int→Option Nat):∀(k:Nat) (out l:List Int),jdz next k out=some l→out.length+k=l.length∧l.take out.length=out∧∀j,out.length≤j→j<l.length→∃i,next (l.take j)=some i∧l.getD j 0=((i:Nat):Int)
 |0,out,l,h=>by
  cases h;exact⟨rfl,List.take_length,fun j h1 h2=>by omega⟩
 |k+1,out,l,h=>by
  unfold jdz at h;cases hx:next out with
  |none=>rw[hx]at h;cases h
  |some i =>
   rw[hx]at h;obtain⟨h1,h2,h3⟩:=jlp next k (out++[(i:Int)]) l h
   simp only[List.length_append,List.length_cons,List.length_nil]at h1 h2 h3
   have ht:l.take out.length=out:=by
    have:(l.take (out.length+1)).take out.length=out:=by rw[h2];simp
    rwa [List.take_take,Nat.min_eq_left (by omega)]at this
   refine⟨by omega,ht,fun j hj1 hj2=>?_⟩
   by_cases hj:j=out.length
   ·subst hj;refine⟨i,by rw[ht];exact hx,?_⟩;have hg:(l.take (out.length+1))[out.length]?=some (i:Int):=by rw[h2];simp
    rw[List.getElem?_take_of_lt (by omega)]at hg;simp[List.getD,hg]
   ·exact h3 j (by omega) hj2
theorem juO (c:List (List Int)):0≤jcQ c:=by
 unfold jcQ
 repeat' split
 all_goals omega
theorem juP (g:List (List NC)) (i:Nat):0≤jbe g i:=by
 unfold jbe;have:=juO (nR g i 6)
 generalize jcQ (nR g i 6)=c at *
 repeat' split
 all_goals omega
theorem jyo (nm:ByteArray) (g:List (List NC)):0≤(cg nm g).2:=by
 rw[joR];unfold cgF;split
 ·show(0:Int)≤4;omega
 ·split
  ·show(0:Int)≤8;omega
  ·cases (List.range g.length).findIdx? (fun i=>jbe g i != 0)with
   |none=>exact Int.le_refl _
   |some i=>exact juP g i
theorem jp7 {nm:ByteArray} {g:List (List NC)} (h:(cg nm g).2=0):∀i,i<g.length→jbe g i=0:=by
 rw[joR]at h;unfold cgF at h;split at h
 ·exact absurd (show(4:Int)=0 from h) (by omega)
 ·split at h
  ·exact absurd (show(8:Int)=0 from h) (by omega)
  ·cases hf:(List.range g.length).findIdx? (fun i=>jbe g i != 0)with
   |none =>
    intro i hi;rw[List.findIdx?_eq_none_iff]at hf;simpa using hf i (List.mem_range.2 hi)
   |some i =>
    rw[hf]at h;have h:jbe g i=0:=h;rw[List.findIdx?_eq_some_iff_getElem]at hf;obtain⟨hlt,hp,_⟩:=hf;simp only[List.getElem_range]at hp;rw[h]at hp;exact absurd hp (by decide)
theorem js5 {n:Nat} (h:n<1000):(0:Int)≤(n:Int)∧(n:Int)=(n:Int)∧((1:Nat):Int)*(n:Int)≤281474976710656∧(n:Int)≤9223372036854775807:=by
 omega
theorem jyp {g:List (List NC)} (hw:Fw g) {nm:ByteArray} (hs:nm.size<1000) (h:(cg nm g).2≠0):jbh nm g=some (cg nm g).2:=by
 unfold jbh;rw[jli hw hs,jad,if_pos (bne_iff_ne.2 h)]
theorem jnv {g:List (List NC)} (hw:Fw g) {nm:ByteArray} (hs:nm.size<1000) (h:(cg nm g).2=0):jbh nm g=match jdz (jbF g) g.length []with|some _=>none|none=>some 19:=by
 unfold jbh;rw[jli hw hs,jad,if_neg (by rw[h];simp),if_pos (js5 hw.n),Int.toNat_natCast,js4 hw (jp7 h),jad];cases jdz (jbF g) g.length []<;>rfl
theorem js6 {g:List (List NC)} (hw:Fw g) {nm:ByteArray} (hs:nm.size<1000) (h:(cg nm g).2=0) {l:List Int} (hl:jdz (jbF g) g.length []=some l):jbY nm g=some (nm,l,0):=by
 unfold jbY;rw[show jfp=jb5 from rfl];rw[jli hw hs,jad,if_neg (by rw[h];simp),if_pos (js5 hw.n),Int.toNat_natCast,js4 hw (jp7 h),jad,hl];rfl
theorem jvt {e:Int} (h:0<e):nzI e=e:=by
 unfold nzI
 show((e.toNat-1+1:Nat):Int)=e
 omega
theorem juQ {g:List (List NC)} (hw:Fw g) {nm:ByteArray} (hs:nm.size<1000):y58 nm g=some (if(cg nm g).2≠0 then(cg nm g).2 else match jdz (jbF g) g.length []with|some _=>0|none=>19):=by
 unfold y58;rw[jya hw hs,jad]
 by_cases h:(cg nm g).2=0
 ·rw[if_neg (by rw[h];simp),if_neg (fun hn=>hn h),jqD hw,jad];cases jdz (jbF g) g.length []<;>rfl
 ·rw[if_pos (bne_iff_ne.2 h),if_pos h]
end Go.Sh
end

section
namespace Go.Sh
open Go Go.Proofs Go.RowKit Go.Sx
structure Rg (g:List (List NC)) (l:List Int):Prop where
 fw:Fw g
 ok:∀i,i<g.length→jbe g i=0
 ord:jdz (jbF g) g.length []=some l
variable {g:List (List NC)} {l:List Int}
theorem Rg.n (h:Rg g l):g.length<1000:=h.fw.n
theorem Rg.len (h:Rg g l):l.length=g.length:=by
 have:=(jlp (jbF g) g.length [] l h.ord).1;simp at this;omega
theorem Rg.at (h:Rg g l) {j:Nat} (hj:j<g.length):∃i:Nat,i<g.length∧l.getD j 0=(i:Int)∧jc2 (l.take j) i=false∧jbO g (l.take j) i=true:=by
 obtain⟨_,_,h3⟩:=jlp (jbF g) g.length [] l h.ord;obtain⟨i,hx,hi⟩:=h3 j (Nat.zero_le _) (by rw[h.len];exact hj);obtain⟨h1,h2⟩:=jvs hx;unfold jdX at h2;rw[Bool.and_eq_true,Bool.not_eq_true']at h2;exact⟨i,h1,hi,h2.1,h2.2⟩
theorem js7 {out:List Int} {k:Nat}:jc2 out k=true↔∃j,j<out.length∧out.getD j 0=(k:Int):=by
 unfold jc2;rw[List.any_eq_true];constructor
 ·rintro ⟨x,hx,he⟩;obtain⟨j,hj,e⟩:=List.mem_iff_getElem.1 hx;exact⟨j,hj,by simp only[List.getD,List.getElem?_eq_getElem hj,Option.getD_some,e];simpa using he⟩
 ·rintro ⟨j,hj,e⟩;refine⟨out[j],List.getElem_mem hj,?_⟩;simp only[List.getD,List.getElem?_eq_getElem hj,Option.getD_some]at e;simpa using e
theorem jqE {α:Type} (l:List α) (d:α) {j k:Nat} (h:j<k):(l.take k).getD j d=l.getD j d:=by
 simp only[List.getD,List.getElem?_take_of_lt h]
theorem Rg.before (h:Rg g l) {j i u:Nat} (hj:j<g.length) (hi:l.getD j 0=(i:Int)) (hu:u<g.length) (hn:jbo g i u=true):∃j',j'<j∧l.getD j' 0=(u:Int):=by
 obtain⟨i',_,h2,_,h4⟩:=h.at hj;rw[hi]at h2;obtain rfl:i=i':=by omega
 unfold jbO at h4;rw[Bool.not_eq_true',List.any_eq_false]at h4;have:=h4 u (List.mem_range.2 hu);rw[hn,Bool.true_and,Bool.not_eq_true,Bool.not_eq_false',js7]at this;obtain⟨j',h5,h6⟩:=this;have hlt:j'<j:=by simp at h5;omega
 exact⟨j',hlt,by rw[jqE _ _ hlt]at h6;exact h6⟩
theorem Rg.lt_ne (h:Rg g l) {j j':Nat} (hj:j<g.length) (hl:j'<j):l.getD j' 0≠l.getD j 0:=fun e=>by
 obtain⟨i,_,h2,h3,_⟩:=h.at hj;have:jc2 (l.take j) i=true:=js7.2 ⟨j',by have:=h.len;simp;omega,by rw[jqE _ _ hl,e,h2]⟩;rw[h3]at this;cases this
theorem pig:∀(n:Nat) (l:List Nat),l.Nodup→(∀x∈l,x<n)→l.length≤n
 |0,[],_,_=>Nat.le_refl _
 |0,x::l,_,h=>absurd (h x List.mem_cons_self) (by omega)
 |n+1,l,hd,h=>by
  have h1:=pig n (l.erase n) (hd.erase n) (fun x hx=>by
   rw[hd.mem_erase_iff]at hx;have:=h x hx.2;omega)
  rw[List.length_erase]at h1;split at h1<;>omega
theorem Rg.surj (h:Rg g l) {i:Nat} (hi:i<g.length):∃j,j<g.length∧l.getD j 0=(i:Int):=by
 apply Classical.byContradiction;intro hno;have hL:=h.len;have hget:∀j (hj:j<l.length),l[j]=l.getD j 0:=fun j hj=>by simp[List.getD,hj]
 have hnd:(l.map Int.toNat).Nodup:=by
  unfold List.Nodup;rw[List.pairwise_map,List.pairwise_iff_getElem];intro a b ha hb hab e;obtain⟨x,_,hx,_⟩:=h.at (j:=a) (by omega);obtain⟨y,_,hy,_⟩:=h.at (j:=b) (by omega);rw[hget a ha,hget b hb,hx,hy]at e;refine h.lt_ne (j:=b) (by omega) hab ?_;rw[hx,hy];simp only[Int.toNat_natCast]at e;rw[e]
 have hm:∀x∈l.map Int.toNat,∃j,j<g.length∧l.getD j 0=(x:Int)∧x<g.length:=by
  intro x hx;obtain⟨y,hy,rfl⟩:=List.mem_map.1 hx;obtain⟨j,hj,e⟩:=List.mem_iff_getElem.1 hy;obtain⟨z,hz,hz2,_⟩:=h.at (j:=j) (by omega);rw[hget j hj,hz2]at e;subst e;exact⟨j,by omega,by rw[hz2];simp,by simpa using hz⟩
 have:=pig g.length (i::l.map Int.toNat) (List.nodup_cons.2 ⟨fun hx=>by
  obtain⟨j,h1,h2,_⟩:=hm i hx
  exact hno ⟨j,h1,h2⟩,hnd⟩) (fun x hx=>by
   rcases List.mem_cons.1 hx with rfl|hx
   ·exact hi
   ·exact(hm x hx).choose_spec.2.2)
 simp at this;omega
theorem Rg.stand (h:Rg g l) {j i:Nat} (hj:j<g.length) (hi:l.getD j 0=(i:Int)) (hi2:i<g.length):nI g i 7=-1∨∃j' u:Nat,j'<j∧u<g.length∧nI g i 7=(u:Int)∧l.getD j' 0=(u:Int):=by
 rcases(jl1 (h.ok i hi2)).2 with h1|⟨h1,h2⟩
 ·exact .inl h1
 ·refine .inr ?_;obtain⟨u,hu⟩:∃u:Nat,nI g i 7=(u:Int):=⟨(nI g i 7).toNat,by omega⟩
  obtain⟨j',h3,h4⟩:=h.before (u:=u) hj hi (by omega) (by unfold jbo;simp[hu]);exact⟨j',u,h3,by omega,hu,h4⟩
theorem Rg.from (h:Rg g l) {j i k:Nat} (hj:j<g.length) (hi:l.getD j 0=(i:Int)) (hi2:i<g.length) (hk:k<(nL g i 2).length):∃j' u:Nat,j'<j∧u<g.length∧(nL g i 2).getD k 0=(u:Int)∧l.getD j' 0=(u:Int):=by
 have hm:(nL g i 2).getD k 0∈nL g i 2:=by simp[List.getD,hk]
 obtain⟨h1,h2⟩:=(jl1 (h.ok i hi2)).1 _ hm;obtain⟨u,hu⟩:∃u:Nat,(nL g i 2).getD k 0=(u:Int):=⟨((nL g i 2).getD k 0).toNat,by omega⟩
 obtain⟨j',h3,h4⟩:=h.before (u:=u) hj hi (by omega) (by
  unfold jbo;rw[Bool.or_eq_true];exact .inl (List.any_eq_true.2 ⟨_,hm,by rw[hu];simp⟩))
 exact⟨j',u,h3,by omega,hu,h4⟩
def stF (st:Nat→Int) (fb:Nat→Bool):Nat→Int→Int
 |0,u=>u
 |k+1,u=>if 0≤u∧fb u.toNat=true then stF st fb k (st u.toNat)else u
theorem jbs {α:Type} (l:List α) (i j:Nat) (x d:α) (hi:i<l.length):(l.set i x).getD j d=if i=j then x else l.getD j d:=by
 simp only[List.getD,List.getElem?_set,hi,if_true];split<;>rfl
theorem jhD {α:Type} {l:List α} (d:α) {i:Nat} (h:i<l.length):l.getD i d=l[i]:=by simp[List.getD,h]
end Go.Sh
end

section
namespace Go.Sh
open Go Go.Proofs Go.RowKit Go.Sx
open Go.IntKind (wrap)
def y121:List SV:=[.c (.d),.c (.p [.r (.ints .i64 [])]),.c (.p [.r (.bools [])])]
def y84 (n:Int) (v0_:List Int) (v1_:List Bool):Option Bool :=
 if 0≤n∧n<(↑v0_.length:Int)then
  if Int.toNat n<List.length v0_ then
  if(List.getD v0_ n.toNat (0:Int)!=(-1:Int))=true then
   if 0≤n∧n<(↑v0_.length:Int)then
   if Int.toNat n<List.length v0_ then
    if 0≤List.getD v0_ n.toNat (0:Int)∧List.getD v0_ n.toNat 0<(↑v1_.length:Int)then
    if Int.toNat (List.getD v0_ n.toNat (0:Int))<List.length v1_ then
     some (List.getD v1_ (Int.toNat (List.getD v0_ n.toNat (0:Int))) false)
    else none
    else none
   else none
   else none
  else
   some false
  else none
 else none
def y122:List Lf→Option GT
 |[.d (.i .i64 n),.r (.ints .i64 v0_),.r (.bools v1_)]=>some (.leaf (ok (y84 n v0_ v1_)) [.c (.d (.b ((val (y84 n v0_ v1_)))))])
 |_=>none
abbrev sp_140:jaa→jaa:=jaH 140 true (jal y121 y122)
def jo1 (n:Int) (v0_:List Int) (v1_:List Bool) (r:Bool):Sk (top r) (y84 n v0_ v1_) :=
 .obT (.ob (.ob (.brB
 (.obT (.obT (.ob (.ob (.ob (.ob (.obT (.rc))))))))
 (.obT (.rc)))))
theorem jnw (n:Int) (v0_:List Int) (v1_:List Bool) (r:Bool) (h:Option.bind (y84 n v0_ v1_) some=some r):jbg Tryz.f140 (sp0) (fun _ _ _=>none) (ja8 y121 [.d (.i .i64 n),.r (.ints .i64 v0_),.r (.bools v1_)]) [.c (.d (.b r))] :=
 Sk.vc (jo1 n v0_ v1_ r) (by kernel_rfl) h
theorem jnx:jaf Tryz.prog 140 true (jal y121 y122):=by
 refine jaA (sp:=sp0) (fn:=Tryz.f140) (body:=bodyOf Tryz.f140) mixed jau Tryz.func140 (by kernel_rfl) (by kernel_rfl) fun ls t h ho b hb=>?_;unfold y122 at h;split at h
 ·rename_i n v0_ v1_;cases h;obtain rfl:=jaM hb;exact⟨Nat.le_of_ble_eq_true (by kernel_rfl),_,_,jnw n v0_ v1_ _ (jaq ho)⟩
 ·cases h
theorem sp_140_ok {sp:jaa} (h:jac Tryz.prog sp):jac Tryz.prog (sp_140 sp):=jas jnx h
def y47:List SV:=[.c (.r (.ints .i64 [])),.c (.f 140 [.p [.r (.ints .i64 [])],.p [.r (.bools [])]])]
def y77 (s f0_:List Int) (f1_:List Bool) (x0:Int):Option (Int ⊕ (Int ⊕ Unit)) :=
 if x0<(↑s.length:Int)then
  if 0≤x0∧x0<(↑s.length:Int)then
  if Int.toNat x0<List.length s then
   Option.bind (y84 (List.getD s x0.toNat (0:Int)) f0_ f1_) fun r0 =>
   if(r0)=true then
   some (.inr (.inl x0))
   else
   some (.inl (wrap .i64 (x0+1)))
  else none
  else none
 else
  some (.inr ((.inr ())))
def y128 (u5:Int):Option Int :=
 some u5
def y129 (u6:Unit):Option Int :=
 some (-1:Int)
def y78:(Int ⊕ Unit)→Option Int :=
 (Sum.elim (y128) (y129))
def y15 (s f0_:List Int) (f1_:List Bool):Option Int :=
 Option.bind (jak (y77 s f0_ f1_) big (0:Int)) (y78)
def y48:List Lf→Option GT
 |[.r (.ints .i64 s),.r (.ints .i64 f0_),.r (.bools f1_)]=>some (.leaf (ok (y15 s f0_ f1_)) [.c (.d (.i .i64 ((val (y15 s f0_ f1_)))))])
 |_=>none
abbrev sp_156_140:jaa→jaa:=jaH 156 true (jal y47 y48)
abbrev y79 (s f0_:List Int) (f1_:List Bool) (r:Int):Lp (Int × Nat) Int (Int ⊕ Unit) Int Int :=
 ⟨fun z=>z.1,fun z=>z.2,fun z x n=>(x,n),fun z=>y77 s f0_ f1_,fun z=>y78,fun z=>top r,fun z=>0,[.c fun _=>(↑s.length:Int),.c fun vv=>vv.1,.c fun _=>s,.c fun _=>f0_,.c fun _=>f1_]⟩
def y145 (s f0_:List Int) (f1_:List Bool) (r:Int):Sk (top r) (y15 s f0_ f1_) :=
 .loop (y79 s f0_ f1_ r) (fun kk=>((0:Int),big)) fun z0 =>
 .br
 (.ob (.ob (.call (.brB
 (.exit (.obT (.rc)))
 (.next)))))
 (.exit (.obT (.rc)))
theorem y142 (s f0_:List Int) (f1_:List Bool) (r:Int) (h:Option.bind (y15 s f0_ f1_) some=some r):jbg Tryz.f156 ((sp_140 sp0)) (fun gs id _=>match id with
 |0=>some ⟨Int × Nat,fun z=>⟨[(0,.w (.c (.o 0))),(1,.w (.c (.fn 140 [2,4]))),(7,.w (.c (.d (.i .i64 ((↑s.length:Int)))))),(8,.w (.c (.d (.i .i64 z.1))))],[(0,.ext (.ints .i64 s)),(2,.ebox [.o 1]),(4,.ebox [.o 3]),(1,.ext (.ints .i64 f0_)),(3,.ext (.bools f1_))],5⟩,fun z=>(y79 s f0_ f1_ r).inv z,fun z=>z.2⟩
 |_=>none) (ja8 y47 [.r (.ints .i64 s),.r (.ints .i64 f0_),.r (.bools f1_)]) [.c (.d (.i .i64 r))] :=
 Sk.vc (y145 s f0_ f1_ r) (by kernel_rfl) h
theorem y143:jaf Tryz.prog 156 true (jal y47 y48):=by
 refine jaA (sp:=(sp_140 sp0)) (fn:=Tryz.f156) (body:=bodyOf Tryz.f156) mixed (sp_140_ok jau) Tryz.func156 (by kernel_rfl) (by kernel_rfl) fun ls t h ho b hb=>?_;unfold y48 at h;split at h
 ·rename_i s f0_ f1_;cases h;obtain rfl:=jaM hb;exact⟨Nat.le_of_ble_eq_true (by kernel_rfl),_,_,y142 s f0_ f1_ _ (jaq ho)⟩
 ·cases h
theorem sp_156_140_ok {sp:jaa} (h:jac Tryz.prog sp):jac Tryz.prog (sp_156_140 sp):=jas y143 h
def y34:List SV:=[.c (.r (.ints .i64 [])),.c (.f 140 [.p [.r (.ints .i64 [])],.p [.r (.bools [])]])]
def y19 (s f0_:List Int) (f1_:List Bool):Option Bool :=
 Option.bind (y15 s f0_ f1_) fun r0 =>
 some (decide (r0≥0))
def y35:List Lf→Option GT
 |[.r (.ints .i64 s),.r (.ints .i64 f0_),.r (.bools f1_)]=>some (.leaf (ok (y19 s f0_ f1_)) [.c (.d (.b ((val (y19 s f0_ f1_)))))])
 |_=>none
abbrev sp_123_140:jaa→jaa:=jaH 123 true (jal y34 y35)
def y130 (s f0_:List Int) (f1_:List Bool) (r:Bool):Sk (top r) (y19 s f0_ f1_) :=
 .call (.obT (.rc))
theorem y123 (s f0_:List Int) (f1_:List Bool) (r:Bool) (h:Option.bind (y19 s f0_ f1_) some=some r):jbg Tryz.f123 ((sp_156_140 (sp_140 sp0))) (fun _ _ _=>none) (ja8 y34 [.r (.ints .i64 s),.r (.ints .i64 f0_),.r (.bools f1_)]) [.c (.d (.b r))] :=
 Sk.vc (y130 s f0_ f1_ r) (by kernel_rfl) h
theorem y124:jaf Tryz.prog 123 true (jal y34 y35):=by
 refine jaA (sp:=(sp_156_140 (sp_140 sp0))) (fn:=Tryz.f123) (body:=bodyOf Tryz.f123) mixed (sp_156_140_ok (sp_140_ok jau)) Tryz.func123 (by kernel_rfl) (by kernel_rfl) fun ls t h ho b hb=>?_;unfold y35 at h;split at h
 ·rename_i s f0_ f1_;cases h;obtain rfl:=jaM hb;exact⟨Nat.le_of_ble_eq_true (by kernel_rfl),_,_,y123 s f0_ f1_ _ (jaq ho)⟩
 ·cases h
theorem sp_123_140_ok {sp:jaa} (h:jac Tryz.prog sp):jac Tryz.prog (sp_123_140 sp):=jas y124 h
end Go.Sh
end

section
namespace Go.Sh
open Go Go.Proofs Go.RowKit Go.Sx
variable {g:List (List NC)} {l:List Int}
end Go.Sh
end

section
namespace Go.Sh
open Go Go.Proofs Go.RowKit Go.Sx
abbrev sp_123b:jaa→jaa:=sp_123_140
theorem sp_123b_ok {sp:jaa} (h:jac Tryz.prog sp):jac Tryz.prog (sp_123b sp):=sp_123_140_ok h
variable {g:List (List NC)} {l:List Int}
end Go.Sh
end

section
namespace Go.Sh
open Go Go.Proofs Go.RowKit Go.Sx
variable {g:List (List NC)} {l:List Int}
theorem jvu {i:Nat} (hi:¬i<g.length):(cpU g).getD i []=g.getD i []:=by
 simp only[List.getD];rw[List.getElem?_eq_none (by rw[jbz];omega),List.getElem?_eq_none (by omega)]
theorem cpI (i:Nat):nI (cpU g) i 1=nI g i 1∧nI (cpU g) i 5=nI g i 5∧nI (cpU g) i 7=nI g i 7:=by
 by_cases hi:i<g.length
 ·exact cp_I hi
 ·unfold nI;rw[jvu hi];exact⟨rfl,rfl,rfl⟩
theorem cpL (i:Nat):nL (cpU g) i 2=nL g i 2∧nL (cpU g) i 3=nL g i 3∧nL (cpU g) i 4=nL g i 4:=by
 by_cases hi:i<g.length
 ·exact jns hi
 ·unfold nL;rw[jvu hi];exact⟨rfl,rfl,rfl⟩
theorem jqF (g:List (List NC)):jbF (cpU g)=jbF g:=by
 funext out;unfold jbF
 have:jdX (cpU g) out=jdX g out:=by
  funext i;unfold jdX jbO jbo;rw[jbz,(cpL i).1,(cpI i).2.2]
 rw[jbz,this]
theorem Rg.cp (h:Rg g l):Rg (cpU g) l:=⟨jAP h.fw,fun i hi=>by rw[jbz]at hi;rw[jyb hi];exact h.ok i hi,by rw[jqF,jbz];exact h.ord⟩
theorem rg_of {nm:ByteArray} (hw:Fw g) (h:(cg nm g).2=0) (ho:jdz (jbF g) g.length []=some l):Rg g l:=⟨hw,jp7 h,ho⟩
end Go.Sh
end

section
namespace Go.Sx09
open Go Go.Proofs Go.RowKit Go.Shelf Go.Sx
attribute [local go_sem] Oper.semAt_some
theorem jo2 {ρ:Env} {B:Kd} {w:World} {r:Nat} {ls:List (List D)} (h:O.ok ρ B w 0 (.row 3 (.lits 1 ls))) (hr:ρ 0=.slice (some ⟨r,0,none⟩) ls.length ls.length) (h0:0<ls.length) :
  w.heap[r]?=some (.cells ((Cont.lits 1 ls).flat.map D.val).toArray 3 (0,0))∧¬B.all r:=by
 obtain⟨⟨hlen,hrow⟩,hb⟩:=h;have hb:=hb r (by rw[hr];rfl);rcases hrow with ⟨e,_⟩|⟨g,cap,cur,e,_,hc,_,_,hs,ht⟩
 ·rw[hr]at e;cases e
 ·rw[hr]at e;cases e;refine⟨?_,hb⟩;have hn:(Cont.lits 1 ls).n*(Cont.lits 1 ls).e=cur.size:=by rw[hs];rfl
  rw[hn]at ht
  have e2:cur.toList=(Cont.lits 1 ls).flat.map D.val:=by
   rw[←ht,←Array.length_toList,List.take_length]
  rw[hc,←e2]
def jlq (ls:List (List D)) (y:Value) (nm:ByteArray) (l:List (List NC)) (i:Int) (co:Value):St:=⟨[(0,.w (.c (.d (.v y)))),(1,.w (.c (.p 1 0 1 0))),(2,.w (.c (.p 2 0 1 0)))],[(0,.row 3 (.lits 1 ls)),(1,.ebox [.p 3 0 1 0]),(2,.ebox [.d (.i .i64 i)]),(3,.ebox [.d (.s nm),.o 4,.d (.v co)]),(4,.xext (.st shU l))],5⟩
def hpJs (ls:List (List D)) (l:List (List NC)) (i:Nat):Hp:=[(0,.row 3 (.lits 1 ls)),(1,.box 118 [.d (.s (nS l i 0)),.d (.i .i64 (nI l i 1)),.o 2,.o 3,.o 4,.d (.i .i64 (nI l i 5)),.o 5,.d (.i .i64 (nI l i 7))]),(2,.ext (.ints .i64 (nL l i 2))),(3,.ext (.ints .i64 (nL l i 3))),(4,.ext (.ints .i64 (nL l i 4))),(5,.ext (.recs 5 (nR l i 6)))]
def stJs (ls:List (List D)) (y:Value) (l:List (List NC)) (i:Nat):St:=⟨[(4,.w (.c (.p 1 0 1 0))),(0,.w (.c (.d (.v y))))],hpJs ls l i,6⟩
def stJ2s (ls:List (List D)) (y:Value) (l:List (List NC)) (i:Nat):St:=⟨[(18,vi .i64 0),(17,vi .i64 (nL l i 2).length),(16,.w (.c (.o 2))),(4,.w (.c (.p 1 0 1 0))),(0,.w (.c (.d (.v y))))],hpJs ls l i,6⟩
theorem pnJs (ls:List (List D)) (y:Value) (l:List (List NC)) (i:Nat):sx Tryz.prog (fun _=>none) 34 1 0 (fun _ _ _=>none) (fun _ _ _=>False) (sub [1,0,0] (bodyOf Tryz.f132)) 0 [] (stJs ls y l i) (fun e st'=>match e with | .normal=>Le 1 st' (stJ2s ls y l i)|_=>False):=by
 refine Eq.mp (by kernel_rfl:(Ob ((0:Int)=0)∧Ob (((nL l i 2).length:Int)=(nL l i 2).length)∧Ob ((0:Nat)=0)∧Ob (y=y)∧Ob (ls=ls)∧Ob (nS l i 0=nS l i 0)∧Ob (nI l i 1=nI l i 1)∧Ob (nI l i 5=nI l i 5)∧Ob (nI l i 7=nI l i 7)∧Ob (nL l i 2=nL l i 2)∧Ob (nL l i 3=nL l i 3)∧Ob (nL l i 4=nL l i 4)∧Ob (nR l i 6=nR l i 6)∧True)=_) ?_;exact⟨⟨rfl⟩,⟨rfl⟩,⟨rfl⟩,⟨rfl⟩,⟨rfl⟩,⟨rfl⟩,⟨rfl⟩,⟨rfl⟩,⟨rfl⟩,⟨rfl⟩,⟨rfl⟩,⟨rfl⟩,⟨rfl⟩,trivial⟩
set_option maxHeartbeats 4000000 in
theorem jqG (n l r:Nat) (ls:List (List D)) (nm:ByteArray) (gU:List (List NC)) (i:Int) (co:Value) (ρ0:Env) (W:World)
  (hh:HRel ρ0 (kd fun k=>k<W.heap.size∧k≠r) (jlq ls (.func (.yield l) #[] #[]) nm gU i co).hp 5 W) (hr0:ρ0 0=.slice (some ⟨r,0,none⟩) ls.length ls.length) (hl0:0<ls.length)
  (hi:0≤i∧i<gU.length) (hL:((nL gU i.toNat 2).length:Int)<9223372036854775807) {α:Type} (enc:α→Int) (A:List α) (hA:A.map enc=needL (nL gU i.toNat 2) (nI gU i.toNat 7)) (J Jx:List α→World→Prop)
  (hY:∀(k:Nat) (h:k<A.length) W,J (A.take k) W→YieldAt Fence.wide (n-1) Tryz.prog l #[.int .i64 (enc A[k])] W fun e W' =>
   (e=.returned (.bool true)∧J (A.take (k+1)) W'∧KpS (fun k=>k≠r) W W')∨(e=.returned (.bool false)∧Jx (A.take (k+1)) W'))
  (hJ:AbidesFrom W.heap.size J) (h0:J [] W) :
  CallsIn Fence.wide n Tryz.prog 132 #[.func (.yield l) #[] #[],(C.p 1 0 1 0).val ρ0,(C.p 2 0 1 0).val ρ0] W fun e W'=>(∃v,e=.returned v) ∧
   ((∃ys,ys=A∧J ys W')∨(∃pre,(∃k,k≤A.length∧pre=A.take k)∧Jx pre W')):=by
 refine callsIn_of_wp Tryz.func132 rfl trivial ?_ rfl;refine wpIn_seq (wpIn_wide.2 ?_);have hsp:jac Tryz.prog (fun _=>none):=fun _ _ _ h=>by cases h
 obtain⟨y,hy⟩:∃y:Value,y=.func (.yield l) #[] #[]:=⟨_,rfl⟩
 rw[←hy]at hh ⊢
 refine jbx (N:=34) (n0:=1) (B:=kd fun k=>k<W.heap.size∧k≠r) (ρ0:=ρ0) (w0:=W) (st:=jlq ls y nm gU i co)
  (k:=fun st=>Le 1 st (stJs ls y gU i.toNat)) (by kernel_rfl) hsp (ds:=[]) _ _ ρ0 _ _ _ ?vc ?rel (jae.refl _ _) (Bel.refl _ _) ?next
 case vc =>
  refine Eq.mp (by kernel_rfl:(Ob True∧Ob True∧Ob True∧Ob ((0:Int)≤i∧i<((XC.st shU gU).n:Int))∧Ob (i.toNat<(XC.st shU gU).n)∧Ob ((0:Nat)=0)∧Ob (y=y)∧Ob (ls=ls)∧Ob (nS gU i.toNat 0=nS gU i.toNat 0)∧Ob (nI gU i.toNat 1=nI gU i.toNat 1)∧Ob (nI gU i.toNat 5=nI gU i.toNat 5)∧Ob (nI gU i.toNat 7=nI gU i.toNat 7)∧Ob (nL gU i.toNat 2=nL gU i.toNat 2)∧Ob (nL gU i.toNat 3=nL gU i.toNat 3)∧Ob (nL gU i.toNat 4=nL gU i.toNat 4)∧Ob (nR gU i.toNat 6=nR gU i.toNat 6)∧True)=_) ?_;exact⟨⟨trivial⟩,⟨trivial⟩,⟨trivial⟩,⟨hi⟩,⟨by show i.toNat<gU.length;omega⟩,⟨rfl⟩,⟨rfl⟩,⟨rfl⟩,⟨rfl⟩,⟨rfl⟩,⟨rfl⟩,⟨rfl⟩,⟨rfl⟩,⟨rfl⟩,⟨rfl⟩,⟨rfl⟩,trivial⟩
 case rel =>
  refine jdj (N:=34) (n0:=1) (args:=[.w (.c (.d (.v y))),.w (.c (.p 1 0 1 0)),.w (.c (.p 2 0 1 0))]) (Nat.le_of_ble_eq_true rfl) (fun x hx=>?_) (by decide) ρ0 W hh (fun k hk=>(jaW.1 hk).1);simp only[List.mem_cons,List.not_mem_nil,or_false]at hx;rcases hx with rfl|rfl|rfl
  ·trivial
  ·exact(by decide:1<5)
  ·exact(by decide:2<5)
 case next =>
  rintro ρ1 st1 a1 w1 hr1 hag1 hbl1 hle;obtain⟨ρ2,hr2,hag2⟩:=hle.rel hr1;refine wpIn_seq (wpIn_seq (wpIn_wide.2 (wp_mono (ja6 hsp (fun _ _ _ _ _ _ _ _ _ h=>h.elim) (sub [1,0,0] (bodyOf Tryz.f132)) 0 [] (stJs ls y gU i.toNat) _ ρ2 a1 w1 (pnJs ls y gU i.toNat) hr2 (jae.refl _ _) (Bel.refl _ _)) ?_)));rintro e a2 w2 ⟨ex,ρ3,st3,rfl,hk3,hr3',hag3,hbl3⟩;cases ex with
  |exit j=>exact hk3.elim
  |ret=>exact hk3.elim
  |normal =>
   obtain⟨ρ4,hr4,hag4⟩:=hk3.rel hr3';have hρ0:ρ4 0=.slice (some ⟨r,0,none⟩) ls.length ls.length:=(hag4 0 (by decide)).trans ((hag3 0 (by decide)).trans ((hag2 0 (by decide)).trans ((hag1 0 (by decide)).trans hr0)));have hbW:Bel (kd fun k=>k<W.heap.size∧k≠r).kp W w2:=hbl1.trans hbl3;obtain⟨B',gB,hh4⟩:=hr4.heap;have o0:=(hh4.ok 0 _ rfl).2.2;have o1:=(hh4.ok 1 _ rfl).2.2;have o2:=(hh4.ok 2 _ rfl).2.2;obtain⟨hcur,hB0⟩:=jo2 o0 hρ0 hl0;obtain⟨k1,hk1,hB1,hheap1⟩:=o1;obtain⟨hcur',_⟩:=jo2 (hh.ok 0 _ rfl).2.2 hr0 hl0
   have hgr:W.grownBy w2 none:=by
    refine⟨hbW.os,hbW.tape,hbW.output,hbW.size,fun k hk _=>?_⟩
    by_cases e:k=r
    ·subst e;rw[hcur,hcur']
    ·exact hbW.block k ⟨hk,e⟩
   have hj2:J [] w2:=hJ [] W w2 none h0 hgr (fun r e=>by cases e);have hne1:k1≠r:=fun e=>hh4.apart 1 _ 0 _ k1 rfl rfl (by decide) (by rw[hk1];rfl) (by rw[hρ0,e];rfl)
   have hb:BetN (fun k=>k≠r) y (nL gU i.toNat 2) [.string (nS gU i.toNat 0),.int .i64 (nI gU i.toNat 1),ρ4 2,ρ4 3,ρ4 4,.int .i64 (nI gU i.toNat 5),ρ4 5] (nI gU i.toNat 7) 0 a2 w2:=by
    refine⟨fun h=>if h=0 then ρ4 2 else ρ4 1,⟨fun t v hv=>?_,hr4.size,hr4.defers,⟨kd fun x=>x<w2.heap.size,Grow.refl _ _ _ _,⟨fun x o hf=>?_,fun x o x' o' b hf hf' hne hb=>?_,glob0⟩⟩,fun k hk=>jaW.1 hk,Nat.le_refl _⟩,fun ad m cap hv hm=>?_,fun b o hv=>?_⟩
    ·simp only[stN,jav]at hv;split at hv
     ·rename_i e;subst e;cases hv;exact⟨trivial,(hr4.tm 18 _ rfl).2⟩
     ·split at hv
      ·rename_i e;subst e;cases hv;exact⟨trivial,(hr4.tm 17 _ rfl).2⟩
      ·split at hv
       ·rename_i e;subst e;cases hv;exact⟨(by decide:0<2),(hr4.tm 16 _ rfl).2⟩
       ·split at hv
        ·rename_i e;subst e;cases hv;exact⟨(by decide:1<2),(hr4.tm 4 _ rfl).2⟩
        ·split at hv
         ·rename_i e;subst e;cases hv;exact⟨trivial,(hr4.tm 0 _ rfl).2⟩
         ·cases hv
    ·simp only[stN,find]at hf;split at hf
     ·rename_i e;subst e;cases hf;exact⟨(by decide:0<2),trivial,o2.1,o2.1.lt (Nat.lt_succ_self 0)⟩
     ·split at hf
      ·rename_i e;subst e;cases hf;refine⟨(by decide:1<2),?_,k1,0,by simpa using hk1,(Array.getElem?_eq_some_iff.1 hheap1).1,fun j c hj=>?_⟩
       ·intro c hc;simp only[List.map_cons,List.map_nil,List.cons_append,List.nil_append,List.mem_cons,List.not_mem_nil,or_false]at hc;rcases hc with rfl|rfl|rfl|rfl|rfl|rfl|rfl|rfl<;>trivial
       ·rw[Nat.zero_add];refine ja9 hheap1 ?_
        match j,hj with
        |0,hj=>cases hj;rfl
        |1,hj=>cases hj;rfl
        |2,hj=>cases hj;rfl
        |3,hj=>cases hj;rfl
        |4,hj=>cases hj;rfl
        |5,hj=>cases hj;rfl
        |6,hj=>cases hj;rfl
        |7,hj=>cases hj;rfl
        |j+8,hj=>cases hj
      ·cases hf
    ·simp only[stN,find]at hf;split at hf
     ·cases hf;cases hb
     ·split at hf
      ·cases hf;cases hb
      ·cases hf
    ·intro e;have h2:=o2.2 ad m cap (by simpa using hv) hm;exact hB0 (.inl (e ▸ h2))
    ·intro e;have hv':ρ4 1=.pointer (some ⟨b,o,none⟩):=by simpa using hv
     rw[hk1]at hv';cases hv';exact hne1 e
   subst hy
   refine joT n l (fun k=>k≠r) _ _ _ _ _ _ _ _ _ hL enc A hA J Jx hY (fun A B pre hj hg=>hJ pre A B none hj hg (fun r e=>by cases e)) a2 w2 hb hj2
    (fun W'=>(∃ys,ys=A∧J ys W')∨(∃pre,(∃k,k≤A.length∧pre=A.take k)∧Jx pre W')) (fun k W hk hx=>.inr ⟨_,⟨k,hk,rfl⟩,hx⟩) _ ?_
   rintro a5 w5 ⟨ρ5,hr5,hg0,hg1⟩ hj5;refine wpIn_seq (wpIn_wide.2 (wp_mono (piece hr5 (pn4 _ _ _ _ _ _ _ _ _ _ _)) ?_));rintro e a6 w6 ⟨rfl,hw6,ρ6,hr6,hag6⟩;have hj6:=hJ _ _ _ none hj5 hw6 (fun r e=>by cases e);have hc:a6.eval (.tmp 29)=.bool (nI gU i.toNat 7 != -1):=(hr6.tm 29 _ rfl).2
   by_cases hst:nI gU i.toNat 7=-1
   ·refine wpIn_cond_false (by rw[hc,hst];rfl) (wpIn_skip ?_);refine⟨hr6.defers,.tuple #[],results_none rfl _ _ _,⟨_,rfl⟩,.inl ⟨_,rfl,?_⟩⟩
    have hlen:A.length=(nL gU i.toNat 2).length:=by
     have:(A.map enc).length=(needL (nL gU i.toNat 2) (nI gU i.toNat 7)).length:=by rw[hA]
     rw[needL,if_pos hst]at this;simpa using this
    rw[←hlen,List.take_length]at hj6;exact hj6
   ·refine wpIn_cond_true (by rw[hc];simp[hst]) (wpIn_region_list ?_);obtain⟨hkA,henc,hlen⟩:=joU hA hst;obtain⟨fn,tmps,assign,body,hy,hRd⟩:=hY _ hkA w6 hj6;rw[henc]at hy;refine wpListIn_plain rfl fun K2 hK2=>jb2 (t:=30) hr6 rfl trivial rfl (by decide) fun a7 hr7=>hK2 _ _ ?_;refine wpListIn_plain rfl fun K2 hK2=>jb2 (t:=31) hr7 rfl trivial rfl (by decide) fun a8 hr8=>hK2 _ _ ?_;refine wpListIn_plain rfl fun K2 hK2=>jb2 (t:=32) hr8 rfl trivial rfl (by decide) fun a9 hr9=>hK2 _ _ ?_;have g30:a9.eval (.tmp 30)=.func (.yield l) #[] #[]:=(hr9.tm 30 _ rfl).2;have g32:a9.eval (.tmp 32)=.int .i64 (nI gU i.toNat 7):=(hr9.tm 32 _ rfl).2;refine wpListIn_plain rfl fun K2 hK2=>⟨fun _ _=>trivial,?_⟩
    rw[jlk (ty:=3) g30 g32 hy _ rfl];refine⟨(fun h=>by cases h),hRd.mono ?_⟩;rintro e w7 (⟨rfl,hj7,hk7⟩|⟨rfl,hj7⟩)
    ·refine hK2 _ _ (wpListIn_nil ?_);refine⟨(jec (t:=33) (v:=vb true) hr9 trivial (by decide)).defers,.tuple #[],results_none rfl _ _ _,⟨_,rfl⟩,.inl ⟨_,rfl,?_⟩⟩;rw[←hlen,List.take_length]at hj7;exact hj7
    ·refine hK2 _ _ (wpListIn_nil ?_);exact⟨(jec (t:=33) (v:=vb false) hr9 trivial (by decide)).defers,.tuple #[],results_none rfl _ _ _,⟨_,rfl⟩,.inr ⟨_,⟨_,by omega,rfl⟩,hj7⟩⟩
end Go.Sx09
end

section
open Go.RowKit
namespace Go.Sh
open Go Go.Proofs Go.RowKit Go.Sx
open Go.Sx09 (jnt)
def js8:Sx.Spec:=fun vs hp nx=>match vs with
 |[.w (.c (.p x a b c)),.w (.c (.d (.i .i64 i)))]=>some (.leaf ⟨True,.w (.c (.fn 132 [nx,nx+1])),(nx+1,.box 3 [.d (.i .i64 i)])::(nx,.box 126 [.p x a b c])::hp,nx+2⟩)
 |_=>none
theorem jz0:jaf Tryz.prog 86 true js8:=by
 refine .inl ⟨jcu (body:=bodyOf Tryz.f86) Tryz.func86 (by kernel_rfl) (by kernel_rfl),fun ρ B w args hp nx t h ho hl hh hB=>?_⟩;unfold js8 at h;split at h
 ·rename_i x a b c i;cases h;obtain⟨q,hq⟩:∃q,(C.p x a b c).val ρ=.pointer q:=⟨_,rfl⟩
  have hx:x<nx:=hl _ (List.mem_cons_self);have hargs:([V.w (.c (.p x a b c)),V.w (.c (.d (.i .i64 i)))].map (V.val ρ)).toArray=#[.pointer q,.int .i64 i]:=by rw[←hq];rfl
  rw[hargs];refine(callsIn_wide.1 (jnt 9 q i w)).mono ?_;rintro e w' ⟨rfl,rfl⟩;have hb1:Below w.heap.size w (w.alloc (.cells #[.pointer q] 126)):=(Below.refl _ w).alloc (Nat.le_refl _) _;have hs1:(w.alloc (.cells #[.pointer q] 126)).heap.size=w.heap.size+1:=World.size_alloc _ _;have hB1:Old B (w.alloc (.cells #[.pointer q] 126)):=fun k hk=>by have:=hB k hk;omega
  have h1:=hh.add (o:=.box 126 [.p x a b c]) (ρ':=upd ρ nx (.pointer (some ⟨w.heap.size,0,none⟩))) hb1 hB (jah _ _ _)
   (fun y hy=>by simp only[List.mem_singleton]at hy;subst hy;exact Nat.lt_succ_of_lt hx)
   ⟨w.heap.size,upd_same _ _ _,fun hb=>absurd (hB _ hb) (Nat.lt_irrefl _),by
    have:(C.p x a b c).val (upd ρ nx (.pointer (some ⟨w.heap.size,0,none⟩)))=.pointer q:=by
     rw[←hq];exact C.val_agree (jah ρ nx _) hx
    rw[World.alloc_heap_new];simp[this]⟩ (fun k hk=>by
    rw[upd_same]at hk;simp[O.blk,base]at hk;omega)
  have hb2:Below (w.heap.size+1) (w.alloc (.cells #[.pointer q] 126)) ((w.alloc (.cells #[.pointer q] 126)).alloc (.cells #[.int .i64 i] 3)):=by
   have:=(Below.refl (w.alloc (.cells #[.pointer q] 126)).heap.size (w.alloc (.cells #[.pointer q] 126))).alloc (Nat.le_refl _) (.cells #[.int .i64 i] 3);rw[hs1]at this;exact this
  have h2:=h1.add (o:=.box 3 [.d (.i .i64 i)]) (ρ':=upd (upd ρ nx (.pointer (some ⟨w.heap.size,0,none⟩))) (nx+1) (.pointer (some ⟨w.heap.size+1,0,none⟩))) (w':=(w.alloc (.cells #[.pointer q] 126)).alloc (.cells #[.int .i64 i] 3)) (by rw[hs1];exact hb2) hB1 (jah _ _ _)
   (fun y hy=>by simp only[List.mem_singleton]at hy;subst hy;trivial)
   ⟨w.heap.size+1,upd_same _ _ _,fun hb=>absurd (hB _ hb) (by omega),by
    have:=World.alloc_heap_new (w.alloc (.cells #[.pointer q] 126)) (.cells #[.int .i64 i] 3);rw[hs1]at this;rw[this];rfl⟩ (fun k hk=>by
    rw[upd_same]at hk;simp[O.blk,base]at hk;omega)
  have hbb:Below w.heap.size w ((w.alloc (.cells #[.pointer q] 126)).alloc (.cells #[.int .i64 i] 3)):=hb1.trans (hb2.mono (by omega));refine⟨upd (upd ρ nx (.pointer (some ⟨w.heap.size,0,none⟩))) (nx+1) (.pointer (some ⟨w.heap.size+1,0,none⟩)),?_,fun h hh=>?_,fun y hy=>?_,Nat.le_add_right _ _,⟨B,Grow.refl _ _ _ _,h2⟩,jb9 hbb hB,fun _=>hbb,fun _ h o k hn hf hk=>?_⟩
  ·simp[RT.sel,V.val,W.val,C.val,upd]
  ·simp[upd,show h≠nx by omega,show h≠nx+1 by omega]
  ·simp only[List.mem_cons,List.not_mem_nil,or_false]at hy
   show y<nx+2
   rcases hy with rfl|rfl<;>omega
  ·have hf:find ((nx+1,O.box 3 [.d (.i .i64 i)])::(nx,.box 126 [.p x a b c])::hp) h=some o:=hf
   by_cases e1:h=nx+1
   ·subst e1
    have:o=O.box 3 [.d (.i .i64 i)]:=by
     have:=hf;simp only[find,if_pos]at this;exact(Option.some.inj this).symm
    subst this;rw[upd_same]at hk;simp[O.blk,base]at hk;omega
   ·by_cases e2:h=nx
    ·subst e2
     have:o=O.box 126 [.p x a b c]:=by
      have:=hf;simp only[find,if_neg (show ¬h+1=h by omega),if_pos]at this;exact(Option.some.inj this).symm
     subst this;simp[upd,O.blk,base]at hk;omega
    ·simp only[find,if_neg (Ne.symm e1),if_neg (Ne.symm e2)]at hf;have:=(hh.ok h o hf).1;omega
 ·cases h
abbrev sp_86:jaa→jaa:=jaH 86 true js8
theorem sp_86_ok {sp:jaa} (h:jac Tryz.prog sp):jac Tryz.prog (sp_86 sp):=jas jz0 h
end Go.Sh
end

section
open Go.RowKit
namespace Go.Sh
open Go Go.Proofs Go.RowKit Go.Sx
def jc3:List Nat→Code→Code
 |[],c=>c
 |0::p,.seq x _=>jc3 p x
 |_::p,.seq _ y=>jc3 p y
 |0::p,.cond _ x _=>jc3 p x
 |_::p,.cond _ _ y=>jc3 p y
 |_::p,.block _ c=>jc3 p c
 |_::p,.loop c=>jc3 p c
 |0::p,.rangeFunc _ _ a _=>jc3 p a
 |_::p,.rangeFunc _ _ _ b=>jc3 p b
 |_,c=>c
noncomputable def sgB:Code:=bodyOf Tryz.f27
noncomputable def sgL:Code:=jc3 [1,1,1,1,1,0,1,0,0] sgB
noncomputable def sgR1:Code:=jc3 [0] sgL
noncomputable def jny:Code:=jc3 [1,1,0] sgL
noncomputable def sgH0:Code:=jc3 [0,0] jny
noncomputable def sgH1:Code:=jc3 [0,1,0] jny
noncomputable def sgA:Code:=jc3 [0,1,1,0,0] jny
noncomputable def sgY:Code:=jc3 [0,1,1,0,1] jny
noncomputable def sgR2:Code:=jc3 [1,1,1] sgL
noncomputable def sgT:Code:=jc3 [1,1,1,1,1,1] sgB
abbrev shG:List NK:=[.s,.i .i64,.ints .i64,.ints .i64,.ints .i64,.i .i64,.recs 5,.i .i64]
def hpO (nm:ByteArray) (gU:List (List NC)) (od sg:List Int):Hp:=[(5,.box 31 [.o 4]),(4,.row 3 (.ints .i64 sg)),(3,.box 130 [.d (.s nm),.o 0,.o 2]),(2,.row 3 (.ints .i64 od)),(0,.xext (.st shG gU))]
def tmO (od:List Int) (k:Nat):List (Nat × V):=[(30,vi .i64 k),(29,vi .i64 (od.length:Int)),(28,.w (.c (.o 2))),(7,.w (.c (.d (.v (.slice none 0 0))))),(6,.w (.c (.p 5 0 1 0))),(4,.w (.c (.p 3 0 1 0)))]
def je9 (nm:ByteArray) (gU:List (List NC)) (od sg:List Int) (k:Nat):St:=⟨tmO od k,hpO nm gU od sg,6⟩
def hpR (nm:ByteArray) (gU:List (List NC)) (od sg:List Int) (i:Int):Hp:=[(8,.box 3 [.d (.i .i64 i)]),(7,.box 126 [.p 3 0 1 0]),(6,.box 3 [.d (.i .i64 i)])]++hpO nm gU od sg
def stSR (nm:ByteArray) (gU:List (List NC)) (od sg:List Int) (k:Nat) (i:Int):St:=⟨(36,.w (.c (.fn 132 [7,8])))::(9,.w (.c (.p 6 0 1 0)))::tmO od k,hpR nm gU od sg i,9⟩
def hpY (sg:List Int) (i:Int):Hp:=[(6,.ebox [.d (.i .i64 i)]),(5,.ebox [.o 4]),(4,.row 3 (.ints .i64 sg))]
def stSY (sg:List Int) (i n:Int):St:=⟨[(10,vi .i64 n),(9,.w (.c (.p 6 0 1 0))),(6,.w (.c (.p 5 0 1 0)))],hpY sg i,9⟩
abbrev spS:jaa:=sp_80 (sp_86 sp0)
theorem jfK:jac Tryz.prog spS:=sp_80_ok (sp_86_ok jau)
abbrev pcS (n0:Nat) (c:Code) (st:St) (k:St→Prop):Prop:=sx Tryz.prog spS 78 n0 0 (fun _ _ _=>none) (jb1 Tryz.prog spS 78) c 0 [] st (fun e st'=>match e with | .normal=>k st' | _=>False)
end Go.Sh
end

section
open Go.RowKit
namespace Go.Sh
open Go Go.Proofs Go.RowKit Go.Sx
def jf1 (sg:List Int) (i n:Int):List Int:=sg.set i.toNat (if IntKind.i64.wrap (1+sg.getD n.toNat 0)>sg.getD i.toNat 0 then IntKind.i64.wrap (1+sg.getD n.toNat 0)else sg.getD i.toNat 0)
section
variable (nm:ByteArray) (gU:List (List NC)) (od sg:List Int) (k:Nat)
theorem s1_vc:pcS 1 sgR1 (je9 nm gU od sg k) fun st'=>Le 1 st' ⟨(31,vb (decide ((k:Int)<od.length)))::tmO od k,hpO nm gU od sg,6⟩:=by
 refine Eq.mp (by kernel_rfl:(Ob (decide ((k:Int)<od.length)=decide ((k:Int)<od.length))∧Ob ((k:Int)=k)∧Ob ((od.length:Int)=od.length)∧Ob (Value.slice none 0 0=Value.slice none 0 0)∧Ob ((0:Nat)=0)∧Ob ((0:Nat)=0)∧Ob (sg=sg)∧Ob (nm=nm)∧Ob (od=od)∧Ob (gU=gU)∧True)=_) ?_;exact⟨⟨rfl⟩,⟨rfl⟩,⟨rfl⟩,⟨rfl⟩,⟨rfl⟩,⟨rfl⟩,⟨rfl⟩,⟨rfl⟩,⟨rfl⟩,⟨rfl⟩,trivial⟩
theorem s3_vc (hk:(k:Int)+1≤9223372036854775807):pcS 1 sgR2 (je9 nm gU od sg k) fun st'=>Le 1 st' (je9 nm gU od sg (k+1)):=by
 refine Eq.mp (by kernel_rfl:(Ob (IntKind.i64.wrap ((k:Int)+1)=((k+1:Nat):Int))∧Ob ((od.length:Int)=od.length)∧Ob (Value.slice none 0 0=Value.slice none 0 0)∧Ob ((0:Nat)=0)∧Ob ((0:Nat)=0)∧Ob (sg=sg)∧Ob (nm=nm)∧Ob (od=od)∧Ob (gU=gU)∧True)=_) ?_;exact⟨⟨by rw[jaL (by omega)];rfl⟩,⟨rfl⟩,⟨rfl⟩,⟨rfl⟩,⟨rfl⟩,⟨rfl⟩,⟨rfl⟩,⟨rfl⟩,⟨rfl⟩,trivial⟩
theorem sY_vc (i n:Int) (hi:0≤i∧i<(sg.length:Int)) (hn:0≤n∧n<(sg.length:Int)):pcS 9 sgY (stSY sg i n) fun st'=>Le 9 st' ⟨[(6,.w (.c (.p 5 0 1 0)))],[(5,.ebox [.o 4]),(4,.row 3 (.ints .i64 (jf1 sg i n)))],9⟩:=by
 refine Eq.mp (by kernel_rfl:(Ob True∧Ob True∧Ob True∧Ob True∧Ob (0≤i∧i<(sg.length:Int))∧Ob (i.toNat<sg.length)∧Ob True∧Ob (0≤n∧n<(sg.length:Int))∧Ob (n.toNat<sg.length)∧Ob (0≤i∧i<(sg.length:Int))∧Ob (i.toNat<sg.length)∧Ob ((0:Nat)=0)∧Ob (jf1 sg i n=jf1 sg i n)∧True)=_) ?_;exact⟨⟨trivial⟩,⟨trivial⟩,⟨trivial⟩,⟨trivial⟩,⟨hi⟩,⟨by omega⟩,⟨trivial⟩,⟨hn⟩,⟨by omega⟩,⟨hi⟩,⟨by omega⟩,⟨rfl⟩,⟨rfl⟩,trivial⟩
end
end Go.Sh
end

section
open Go.RowKit
namespace Go.Sx
def jhE (o:Oper):Bool:=match o.op with
 | .defer _=>false
 |_=>true
theorem jwP {o:Oper} (h:jhE o=true):∀c,o.op≠.defer c:=fun c e=>by
 unfold jhE at h;rw[e]at h;cases h
section
variable {P:Program} {l n:Nat} {a:Act} {w:World} {Q:Exit→Act→World→Prop}
theorem Oper.wpIn_of_wp {o:Oper} {K K':Act→World→Prop} (hd:jhE o=true) (hK:∀a w,K a w→K' a w) (h:o.wp P a w K Q):o.wpIn (Fence.wide.inRound l) n P a w K' Q:=by
 refine⟨fun _ _=>trivial,?_⟩;have hs:o.semAt (some l) a.eval=execOp a.eval o:=Oper.semAt_some l a.eval o (jwP hd)
 show o.uponIn (Fence.wide.inRound l) n P a K' Q ((o.semAt (some l) a.eval).run P w)
 rw[hs];unfold Oper.wp at h
 generalize (execOp a.eval o).run P w=r at *
 cases r with
 |ok x w' =>
  cases x with
  |value v=>exact hK _ _ h
  |skip=>exact hK _ _ h
  |defer d=>exact hK _ _ h
  |enter f args =>
   refine⟨fun h=>(by cases h),CallsIn.inRound l (callsIn_wide.2 (Calls.mono (show Calls P f args w' _ from h) ?_))⟩;intro e w'' he;cases e with
   |returned v=>exact hK _ _ he
   |panicked ch=>exact he
   |outgrown=>exact he
  |row r args =>
   refine⟨fun h=>(by cases h),?_⟩;intro c cs _;obtain⟨v,w'',hr,hst⟩:=h c cs;exact⟨v,w'',hK _ _ hr,(stepsIn_wide (P:=P)).2 hst⟩
  |_=>exact h.elim
 |halt x w' =>
  cases x with
  |panic v=>exact h
  |_=>exact h.elim
theorem jic {ops:Array Oper} (hlo:¬LetsOut Q):∀(os:List Oper) (a:Act) (w:World),os.all jhE=true→wpList P ops Q os a w→wpListIn (Fence.wide.inRound l) n P ops Q os a w
 |[],_,_,_,h=>h
 |o::r,a,w,hd,h=>by
  simp only[List.all_cons,Bool.and_eq_true]at hd;unfold wpList at h;unfold wpListIn;split at h
  ·rename_i hw;rw[if_pos hw];rcases h with h|h
   ·exact Oper.wpIn_of_wp hd.1 (fun a w=>jic hlo r a w hd.2) h
   ·exact absurd h.2 hlo
  ·rename_i hw;rw[if_neg hw];exact⟨fun _ _=>trivial,jic hlo r _ _ hd.2 h⟩
theorem jgq {ops:Array Oper} (hlo:¬LetsOut Q) (hd:ops.toList.all jhE=true):∀(f:Nat) (b:Array Bool) (a:Act) (w:World),wpAny P .any ops Q f b a w→wpAnyIn (Fence.wide.inRound l) n P .any ops Q f b a w
 |0,_,_,_,h=>h
 |f+1,b,a,w,h=>by
  refine⟨h.1,fun i hi=>?_⟩;have h2:=h.2 i hi;unfold wpOp at h2;unfold wpOpIn;cases ho:ops[i]? with
  |none =>
   rw[ho]at h2;exact jgq hlo hd f _ a w h2
  |some o =>
   rw[ho]at h2;dsimp only at h2 ⊢
   have hod:jhE o=true:=List.all_eq_true.1 hd o (by
    have:=List.mem_of_getElem? (l:=ops.toList) (i:=i) (a:=o) (by simpa using ho);exact this)
   split at h2
   ·rename_i hw;rw[if_pos hw];rcases h2 with h2|h2
    ·exact Oper.wpIn_of_wp hod (fun a w=>jgq hlo hd f _ a w) h2
    ·exact absurd h2.2 hlo
   ·rename_i hw;rw[if_neg hw];exact⟨fun _ _=>trivial,jgq hlo hd f _ _ _ h2⟩
end
def jdn:Code→Bool
 | .skip=>true
 | .label _=>true
 | .region _ ops _=>ops.toList.all jhE
 | .seq x y=>jdn x&&jdn y
 | .cond _ x y=>jdn x&&jdn y
 | .block _ c=>jdn c
 | .exit _=>true
 | .ret=>true
 |_=>false
section
variable [Globs] {P:Program} {sp:jaa} {B:Kd} {N n0:Nat} {ρ0:Env} {w0:World} {ds:List Deferred}
theorem jvv {k:Ex→St→Prop}:¬LetsOut (Qx ds ρ0 B N n0 w0 k):=by
 rintro ⟨a,w,x,ρ',st',he,_⟩;cases x<;>cases he
theorem jcR {l n fuel:Nat} {loops:jgh} (hm:P.follows .mixedOrders=true) (hsp:jac P sp) :
  ∀(c:Code) (cur:Nat) (gs:List Nat) (st:St) (k:Ex→St→Prop) (ρ:Env) (a:Act) (w:World),jdn c=true→sx P sp N n0 fuel loops (jb1 P sp N) c cur gs st k→RelD ds ρ B N n0 st a w→jae n0 ρ0 ρ→Bel B w0 w →
   c.wpIn (Fence.wide.inRound l) n P (Qx ds ρ0 B N n0 w0 k) a w
 | .skip,_,_,st,k,ρ,a,w,_,h,hr,hag,hbl=>wpIn_skip ⟨.normal,ρ,st,rfl,h,hr,hag,hbl⟩
 | .label _,_,_,st,k,ρ,a,w,_,h,hr,hag,hbl=>wpIn_label ⟨.normal,ρ,st,rfl,h,hr,hag,hbl⟩
 | .region id ops draw,_,_,st,k,ρ,a,w,hst,h,hr,hag,hbl=>by
  unfold sx at h;have hd:ops.toList.all jhE=true:=hst;cases draw with
  |false =>
   refine wpIn_region_list (jic jvv ops.toList a w hd ?_);have:=ji5 (P:=P) (Q:=Qx ds ρ0 B N n0 w0 k) (k:=fun st'=>k .normal st') (all:=ops.toList) hsp (fun ρ' st' a' w' h1 h2 h3 h4=>⟨.normal,ρ',st',rfl,h4,h1,h2,h3⟩) ops.toList ρ st a w hr hag hbl h;simpa using this
  |true=>exact wpIn_region_any hm (jgq jvv hd _ _ _ _ (jov (Q:=Qx ds ρ0 B N n0 w0 k) hm hsp (fun c a w ⟨x,_,_,he,_⟩=>by cases x<;>cases he) h hr hag hbl (fun ρ' st' a' w' h1 h2 h3 h4=>⟨.normal,ρ',st',rfl,h4,h1,h2,h3⟩)))
 | .seq x y,cur,gs,st,k,ρ,a,w,hst,h,hr,hag,hbl=>by
  unfold sx at h;simp only[jdn,Bool.and_eq_true]at hst;refine wpIn_seq (wpIn_mono (jcR hm hsp x cur gs st _ ρ a w hst.1 h hr hag hbl) ?_);rintro e a' w' ⟨ex,ρ',st',rfl,hk,hr',hag',hbl'⟩;cases ex with
  |normal=>exact jcR hm hsp y cur gs st' k ρ' a' w' hst.2 hk hr' hag' hbl'
  |exit j=>exact⟨.exit j,ρ',st',rfl,hk,hr',hag',hbl'⟩
  |ret=>exact⟨.ret,ρ',st',rfl,hk,hr',hag',hbl'⟩
 | .cond c x y,cur,gs,st,k,ρ,a,w,hst,h,hr,hag,hbl=>by
  unfold sx at h;simp only[jdn,Bool.and_eq_true]at hst;split at h
  ·rename_i b hb;have he:=jhq hr hb;cases b with
   |true=>exact wpIn_cond_true he (jcR hm hsp x cur gs st k ρ a w hst.1 h hr hag hbl)
   |false=>exact wpIn_cond_false he (jcR hm hsp y cur gs st k ρ a w hst.2 h hr hag hbl)
  ·exact h.elim
 | .block id c,_,gs,st,k,ρ,a,w,hst,h,hr,hag,hbl=>by
  unfold sx at h;refine wpIn_block (wpIn_mono (jcR hm hsp c id gs st _ ρ a w hst h hr hag hbl) ?_);rintro e a' w' ⟨ex,ρ',st',rfl,hk,hr',hag',hbl'⟩;cases ex with
  |normal=>exact⟨.normal,ρ',st',rfl,hk,hr',hag',hbl'⟩
  |exit j =>
   simp only[Ex.toExit,Exit.inBlock];dsimp only at hk;split
   ·rename_i e;rw[if_pos e]at hk;exact⟨.normal,ρ',st',rfl,hk,hr',hag',hbl'⟩
   ·rename_i e;rw[if_neg e]at hk;exact⟨.exit j,ρ',st',rfl,hk,hr',hag',hbl'⟩
  |ret=>exact⟨.ret,ρ',st',rfl,hk,hr',hag',hbl'⟩
 | .exit j,_,_,st,k,ρ,a,w,_,h,hr,hag,hbl=>wpIn_exit ⟨.exit j,ρ,st,rfl,h,hr,hag,hbl⟩
 | .ret,_,_,st,k,ρ,a,w,_,h,hr,hag,hbl=>wpIn_ret ⟨.ret,ρ,st,rfl,h,hr,hag,hbl⟩
 | .loop _,_,_,_,_,_,_,_,hst,_,_,_,_=>by cases hst
 | .goto _,_,_,_,_,_,_,_,hst,_,_,_,_=>by cases hst
 | .rangeFunc _ _ _ _,_,_,_,_,_,_,_,hst,_,_,_,_=>by cases hst
end
def jlr:Nat→Code→Code
 |0,_=>.skip
 |n+1,.seq x y=>.seq x (jlr n y)
 |_+1,c=>c
def js9:Nat→Code→Code
 |0,c=>c
 |n+1,.seq _ y=>js9 n y
 |_+1,_=>.skip
def jyq:Nat→Code→Bool
 |0,_=>true
 |n+1,.seq _ y=>jyq n y
 |_+1,_=>false
section
variable [Globs] {P:Program} {sp:jaa} {B:Kd} {N n0:Nat} {ρ0:Env} {w0:World} {ds:List Deferred}
theorem jvw {fuel:Nat} {loops:jgh} {drawn:Array Oper→St→(St→Prop)→Prop} (hsp:jac P sp) (hdr:jeQ P B N n0 ρ0 w0 drawn) {Q:Exit→Act→World→Prop} {k:Ex→St→Prop} :
  ∀(m:Nat) (c:Code) (cur:Nat) (gs:List Nat) (st:St) (ρ:Env) (a:Act) (w:World),jyq m c=true→sx P sp N n0 fuel loops drawn (jlr m c) cur gs st k→RelD ds ρ B N n0 st a w→jae n0 ρ0 ρ→Bel B w0 w →
   (∀ρ' st' a' w',k .normal st'→RelD ds ρ' B N n0 st' a' w'→jae n0 ρ0 ρ'→Bel B w0 w'→(js9 m c).wp P Q a' w') →
   (∀ex ρ' st' a' w',ex≠.normal→k ex st'→RelD ds ρ' B N n0 st' a' w'→jae n0 ρ0 ρ'→Bel B w0 w'→Q ex.toExit a' w')→c.wp P Q a w
 |0,c,_,_,st,ρ,a,w,_,h,hr,hag,hbl,hn,_=>hn ρ st a w h hr hag hbl
 |m+1,.seq x y,cur,gs,st,ρ,a,w,hs,h,hr,hag,hbl,hn,he=>by
  simp only[jlr]at h;unfold sx at h;refine wp_seq (wp_mono (ja6 hsp hdr x cur gs st _ ρ a w h hr hag hbl) ?_);rintro e a' w' ⟨ex,ρ',st',rfl,hk,hr',hag',hbl'⟩;cases ex with
  |normal=>exact jvw hsp hdr m y cur gs st' ρ' a' w' hs hk hr' hag' hbl' hn he
  |exit j=>exact he (.exit j) ρ' st' a' w' (by simp) hk hr' hag' hbl'
  |ret=>exact he .ret ρ' st' a' w' (by simp) hk hr' hag' hbl'
end
end Go.Sx
end

section
open Go.RowKit
namespace Go.Sh
open Go Go.Proofs Go.RowKit Go.Sx
section
variable {ρ:Env} {B:Kd} {nm:ByteArray} {gU:List (List NC)} {od sg sg':List Int} {i:Int} {W W':World} {r:Nat}
theorem jBk (hh:HRel ρ B (hpR nm gU od sg i) 9 W) (hold:Old B W) {n cap:Nat} (hr:ρ 4=.slice (some ⟨r,0,none⟩) n cap) (hb:Bel (fun k=>k<W.heap.size∧k≠r) W W')
  (h4:O.ok ρ B W' 4 (.row 3 (.ints .i64 sg'))):HRel ρ B (hpR nm gU od sg' i) 9 W':=by
 have hrB:¬B.all r:=(hh.ok 4 _ rfl).2.2.2 r (by rw[hr];rfl);have hbB:Bel B W W':=⟨hb.os,hb.tape,hb.output,hb.size,fun k hk=>hb.block k ⟨hold k (.inl hk),fun e=>hrB (.inl (e ▸ hk))⟩⟩
 have keep:∀x o k,find (hpR nm gU od sg i) x=some o→x≠4→o.blk (ρ x)=some k→W'.heap[k]?=W.heap[k]?:=fun x o k hf hx hk =>
  hb.block k ⟨(O.blk_lt (hh.ok x o hf).2.2 hk).1,fun e=>hh.apart x o 4 _ k hf rfl hx hk (by rw[hr,e];rfl)⟩
 have box:∀x ty cs,find (hpR nm gU od sg i) x=some (.box ty cs)→x≠4→O.ok ρ B W' x (.box ty cs):=fun x ty cs hf hx=>by
  obtain⟨k,h1,h2,h3⟩:=(hh.ok x _ hf).2.2;exact⟨k,h1,h2,(keep x _ k hf hx (by rw[h1];rfl)).trans h3⟩
 have fd:∀x o,find (hpR nm gU od sg' i) x=some o→x≠4→find (hpR nm gU od sg i) x=some o:=fun x o hf hx=>by
  simp only[hpR,hpO,List.cons_append,List.nil_append,find,if_neg (Ne.symm hx)]at hf ⊢;exact hf
 refine⟨fun x o hf=>?_,fun x o x' o' k hf hf' hne hk hk'=>?_,hh.glob.bel hbB⟩
 ·by_cases hx:x=4
  ·subst hx;cases hf;exact⟨by decide,trivial,h4⟩
  ·have hf0:=fd x o hf hx;obtain⟨a1,a2,a3⟩:=hh.ok x o hf0;refine⟨a1,a2,?_⟩;simp only[hpR,hpO,List.cons_append,List.nil_append,find]at hf
   repeat' split at hf
   all_goals first
    |(cases hf;rename_i e;subst e;exact box _ _ _ hf0 hx)
    |skip
   ·cases hf;rename_i e;exact absurd e.symm hx
   ·cases hf;rename_i e;subst e;obtain⟨⟨hl,hrow⟩,hbk⟩:=a3;refine⟨⟨hl,?_⟩,hbk⟩;rcases hrow with h|⟨g,cp,cur,q1,q2,q3,q4⟩
    ·exact .inl h
    ·exact .inr ⟨g,cp,cur,q1,q2,(keep 2 _ g hf0 hx (by rw[q1];rfl)).trans q3,q4⟩
   ·cases hf;rename_i e;subst e;exact IsX.bel a3 hbB
   ·cases hf
 ·have h5:∀x o k,find (hpR nm gU od sg' i) x=some o→o.blk (ρ x)=some k→∃o0,find (hpR nm gU od sg i) x=some o0∧o0.blk (ρ x)=some k:=fun x o k hf hk=>by
   by_cases hx:x=4
   ·subst hx;cases hf;exact⟨_,rfl,hk⟩
   ·exact⟨o,fd x o hf hx,hk⟩
  obtain⟨o0,f0,k0⟩:=h5 x o k hf hk;obtain⟨o1,f1,k1⟩:=h5 x' o' k hf' hk';exact hh.apart x o0 x' o1 k f0 f1 hne k0 k1
theorem jz1 {n l:Nat} {x:Int} (hh:HRel ρ B (hpR nm gU od sg i) 9 W) (hold:Old B W) {m cap:Nat} (hr:ρ 4=.slice (some ⟨r,0,none⟩) m cap) (hi:0≤i∧i<(sg.length:Int)) (hx:0≤x∧x<(sg.length:Int)) {a:Act}
  (hs:a.tmps.size=78) (hd:a.defers=[]) (h10:a.tmps.getD 10 undef=.int .i64 x) (h9:a.tmps.getD 9 undef=V.val ρ (.w (.c (.p 6 (0:Nat) 1 (0:Nat))))) (h6:a.tmps.getD 6 undef=V.val ρ (.w (.c (.p 5 (0:Nat) 1 (0:Nat))))) :
  sgY.wpIn (Fence.wide.inRound l) n Tryz.prog (fun e a' W'=>e=.normal∧Bel (fun k=>k<W.heap.size∧k≠r) W W'∧HRel ρ B (hpR nm gU od (jf1 sg i x) i) 9 W') a W:=by
 have hrB:¬B.all r:=(hh.ok 4 _ rfl).2.2.2 r (by rw[hr];rfl)
 have hb:∀y ty cs,find (hpR nm gU od sg i) y=some (.box ty cs)→y≠4→O.ok ρ (kd fun k=>k<W.heap.size∧k≠r) W y (.ebox cs):=fun y ty cs hf hy=>by
  obtain⟨k,h1,h2,h3⟩:=(hh.ok y _ hf).2.2;refine⟨k,0,h1,⟨(Array.getElem?_eq_some_iff.1 h3).1,fun e=>hh.apart y _ 4 _ k hf rfl hy (by rw[h1];rfl) (by rw[hr,e];rfl)⟩,fun j c hj=>?_⟩;rw[Nat.zero_add];simp only[World.cell?,h3];simp[hj]
 have h4:O.ok ρ (kd fun k=>k<W.heap.size∧k≠r) W 4 (.row 3 (.ints .i64 sg)):=⟨(hh.ok 4 _ rfl).2.2.1,fun k hk hB=>by
  rw[hr]at hk;cases hk;exact(jaW.1 hB).2 rfl⟩
 have hrel:Rel ρ (kd fun k=>k<W.heap.size∧k≠r) 78 9 (stSY sg i x) a W:=by
  refine⟨fun t v hv=>?_,hs,hd,⟨_,Grow.refl _ _ _ _,⟨fun y o hf=>?_,fun y o y' o' k hf hf' hne hk hk'=>?_,hh.glob.sub fun g hg=>?_⟩⟩,fun k hk=>(jaW.1 hk).1,Nat.le_refl _⟩
  ·simp only[stSY,jav]at hv;split at hv
   ·rename_i e;subst e;cases hv;exact⟨trivial,h10⟩
   split at hv
   ·rename_i e;subst e;cases hv;exact⟨show 6<9 by decide,h9⟩
   split at hv
   ·rename_i e;subst e;cases hv;exact⟨show 5<9 by decide,h6⟩
   ·cases hv
  ·simp only[stSY,hpY,find]at hf;split at hf
   ·rename_i e;subst e;cases hf;exact⟨(by decide:6<9),(fun c hc=>by simp only[List.mem_singleton]at hc;subst hc;trivial),hb 6 _ _ rfl (by decide)⟩
   split at hf
   ·rename_i e;subst e;cases hf;exact⟨(by decide:5<9),(fun c hc=>by simp only[List.mem_singleton]at hc;subst hc;exact(by decide:4<9)),hb 5 _ _ rfl (by decide)⟩
   split at hf
   ·rename_i e;subst e;cases hf;exact⟨(by decide:4<9),trivial,h4⟩
   ·cases hf
  ·have hz:∀y o k,find (hpY sg i) y=some o→o.blk (ρ y)=some k→y=4:=fun y o k hf hk=>by
    simp only[hpY,find]at hf;split at hf
    ·cases hf;cases hk
    split at hf
    ·cases hf;cases hk
    split at hf
    ·rename_i e;exact e.symm
    ·cases hf
   exact hne ((hz y o k hf hk).trans (hz y' o' k hf' hk').symm)
  ·exact⟨hold g (.inl hg),fun e=>hrB (.inl (e ▸ hg))⟩
 have hv:=sY_vc sg i x hi hx;refine wpIn_mono (jcR mixed jfK sgY 0 [] _ _ ρ a W (by kernel_rfl) hv hrel (jae.refl _ _) (Bel.refl _ _)) ?_;rintro e a' W' ⟨ex,ρ1,st',rfl,hk,hr',hag',hbl'⟩;cases ex with
 |normal =>
  obtain⟨ρ2,hr2,hag2⟩:=Le.rel hk hr';have hag:∀h,h<9→ρ2 h=ρ h:=fun h hh=>(hag2 h hh).trans (hag' h hh);refine⟨rfl,hbl',jBk hh hold hr hbl' ?_⟩;obtain⟨B',gB,h2⟩:=hr2.heap;have:=(h2.ok 4 _ rfl).2.2;refine⟨?_,fun k hk hB=>?_⟩
  ·have h5:=this.1;rw[hag 4 (by decide)]at h5;exact h5
  ·rw[hr]at hk;cases hk;exact hrB hB
 |exit j=>exact hk.elim
 |ret=>exact hk.elim
end
end Go.Sh
end

section
open Go.RowKit
namespace Go.Sh
open Go Go.Proofs Go.RowKit Go.Sx
open Go.Sx09 (KpS needL jlq jqG ja9)
section
variable {ρ:Env} {B:Kd} {nm:ByteArray} {gU:List (List NC)} {od sg:List Int} {i:Int} {w:World} {r:Nat}
theorem jyr (l:List Value):((Cont.lits 1 (l.map fun v=>[D.v v])).flat.map D.val)=l:=by
 show(((l.map fun v=>[D.v v]).flatMap (jhI 1)).map D.val)=l
 induction l with
 |nil=>rfl
 |cons v l ih =>
  rw[List.map_cons,List.flatMap_cons,List.map_append,ih];rfl
set_option maxHeartbeats 2000000 in
theorem jBl (n:Nat) (hh:HRel ρ B (hpR nm gU od sg i) 9 w) (hold:Old B w) {m cap:Nat} (hr:ρ 4=.slice (some ⟨r,0,none⟩) m cap) (hi:0≤i∧i<gU.length) (hsg:0<sg.length)
  (hL:((nL gU i.toNat 2).length:Int)<9223372036854775807) (A:List {x:Int // 0≤x∧x<(sg.length:Int)}) (hA:A.map (fun x=>x.1)=needL (nL gU i.toNat 2) (nI gU i.toNat 7)) :
  SeqStopsK Fence.wide n Tryz.prog 132 #[(C.o 7).val ρ,(C.o 8).val ρ] (fun x:{x:Int // 0≤x∧x<(sg.length:Int)}=>#[.int .i64 x.1]) (KpS fun k=>k≠r) (fun ys=>ys=A) (fun pre=>∃k,k≤A.length∧pre=A.take k) A.length w:=by
 intro l J Jx W hW hJ hJx hY h0;have hrB:¬B.all r:=(hh.ok 4 _ rfl).2.2.2 r (by rw[hr];rfl);obtain⟨k7,p7,q7,h7⟩:=(hh.ok 7 _ rfl).2.2;obtain⟨k8,p8,q8,h8⟩:=(hh.ok 8 _ rfl).2.2;obtain⟨k3,p3,q3,h3⟩:=(hh.ok 3 _ rfl).2.2;have hx0:=(hh.ok 0 _ rfl).2.2;obtain⟨⟨hlen,hrow⟩,_⟩:=(hh.ok 4 _ rfl).2.2;have ne:∀x o k,find (hpR nm gU od sg i) x=some o→x≠4→o.blk (ρ x)=some k→k≠r:=fun x o k hf hx hk e=>hh.apart x o 4 _ k hf rfl hx hk (by rw[hr,e];rfl);have n7:=ne 7 _ k7 rfl (by decide) (by rw[p7];rfl);have n8:=ne 8 _ k8 rfl (by decide) (by rw[p8];rfl);have n3:=ne 3 _ k3 rfl (by decide) (by rw[p3];rfl)
 obtain⟨cur,hcur,hcs,hsz⟩:∃cur:Array Value,w.heap[r]?=some (.cells cur 3 (0,0))∧0<cur.size∧cur.size≤maxLen:=by
  rcases hrow with ⟨e,_⟩|⟨g,cp,cur,e,_,hc,h1,h2,hs,_⟩
  ·rw[hr]at e;cases e
  ·rw[hr]at e;cases e;refine⟨cur,hc,?_,?_⟩
   ·have:0<(Cont.ints .i64 sg).n:=hsg;rw[hs]
    show 0<cap*1
    omega
   ·rw[hs]
    show cap*1≤_
    omega
 have at2:∀k o,w.heap[k]?=some o→W.heap[k]?=some o:=fun k o ho=>(hW.block k (Array.getElem?_eq_some_iff.1 ho).1).trans ho;have lt2:∀k o,w.heap[k]?=some o→k<W.heap.size:=fun k o ho=>(Array.getElem?_eq_some_iff.1 (at2 k o ho)).1;have hbw:Bel B.kp w W:=⟨hW.os,hW.tape,hW.output,hW.size,fun k hk=>hW.block k (hold k (.inl hk))⟩
 obtain⟨ls,hls⟩:∃ls:List (List D),ls=cur.toList.map fun v=>[D.v v]:=⟨_,rfl⟩
 have hll:ls.length=cur.size:=by rw[hls];simp
 let ρ':Env:=fun h=>match h with
  |0=>.slice (some ⟨r,0,none⟩) ls.length ls.length
  |1=>ρ 7
  |2=>ρ 8
  |3=>ρ 3
  |_=>ρ 0
 have hP3:(C.p 3 0 1 0).val ρ=(C.p 3 0 1 0).val ρ':=rfl
 have hrel:HRel ρ' (kd fun k=>k<W.heap.size∧k≠r) (jlq ls (.func (.yield l) #[] #[]) nm gU i (ρ 2)).hp 5 W:=by
  refine⟨fun x o hf=>?_,fun x o x' o' b hf hf' hne hb=>?_,Go.Sx09.glob0⟩
  ·simp only[jlq,find]at hf;split at hf
   ·rename_i e;subst e;cases hf;refine⟨(by decide:0<5),trivial,⟨?_,.inr ⟨r,ls.length,cur,rfl,Nat.zero_le _,at2 _ _ hcur,Nat.le_refl _,by rw[hll];exact hsz,by rw[hll];show cur.size=cur.size*1;omega,?_⟩⟩,fun k hk hB=>?_⟩
    ·rw[hls,jyr]
     show cur.toList.length=(cur.toList.map _).length*1
     simp
    ·rw[hls,jyr]
     show cur.toList.take ((cur.toList.map _).length*1)=_
     rw[List.length_map,Nat.mul_one,List.take_length]
    ·cases hk;exact(jaW.1 hB).2 rfl
   ·split at hf
    ·rename_i e;subst e;cases hf;refine⟨(by decide:1<5),(fun c hc=>by simp at hc;subst hc;exact(by decide:3<5)),k7,0,p7,⟨lt2 _ _ h7,n7⟩,fun j c hj=>?_⟩;refine(ja9 (at2 _ _ h7) (j:=0+j) (v:=c.val ρ') ?_)
     match j,hj with
     |0,hj=>cases hj;exact congrArg some hP3
     |j+1,hj=>cases hj
    ·split at hf
     ·rename_i e;subst e;cases hf;refine⟨(by decide:2<5),(fun c hc=>by simp at hc;subst hc;trivial),k8,0,p8,⟨lt2 _ _ h8,n8⟩,fun j c hj=>?_⟩;refine(ja9 (at2 _ _ h8) (j:=0+j) (v:=c.val ρ') ?_)
      match j,hj with
      |0,hj=>cases hj;rfl
      |j+1,hj=>cases hj
     ·split at hf
      ·rename_i e;subst e;cases hf;refine⟨(by decide:3<5),(fun c hc=>by simp at hc;rcases hc with rfl|rfl|rfl<;>first|exact True.intro|exact(by decide:4<5)),k3,0,p3,⟨lt2 _ _ h3,n3⟩,fun j c hj=>?_⟩;refine(ja9 (at2 _ _ h3) (j:=0+j) (v:=c.val ρ') ?_)
       match j,hj with
       |0,hj=>cases hj;rfl
       |1,hj=>cases hj;rfl
       |2,hj=>cases hj;rfl
       |j+3,hj=>cases hj
      ·split at hf
       ·rename_i e;subst e;cases hf;exact⟨(by decide:4<5),trivial,(IsX.bel hx0 hbw).mono fun k hk=>⟨Nat.lt_of_lt_of_le (hold k (.inl hk)) hW.size,fun e=>hrB (.inl (e ▸ hk))⟩⟩
       ·cases hf
  ·have hz:∀y oy,find (jlq ls (.func (.yield l) #[] #[]) nm gU i (ρ 2)).hp y=some oy→y≠0→oy.blk (ρ' y)=none:=fun y oy hy hy0=>by
    simp only[jlq,find]at hy;rw[if_neg (Ne.symm hy0)]at hy
    repeat' split at hy
    all_goals (cases hy;try rfl)
   by_cases e:x=0
   ·rw[hz x' o' hf' (by omega)];intro h;cases h
   ·rw[hz x o hf e]at hb;cases hb
 have key:=jqG n l r ls nm gU i (ρ 2) ρ' W hrel rfl (by rw[hll];exact hcs) hi hL (fun x=>x.1) A hA J Jx (fun k hk W1 hj=>?_) hJ h0
 ·have e7:(C.p 1 0 1 0).val ρ'=(C.o 7).val ρ:=by
   show Value.pointer (some ⟨(base (ρ 7)).block,(base (ρ 7)).off+0,none⟩)=ρ 7
   rw[p7];rfl
  have e8:(C.p 2 0 1 0).val ρ'=(C.o 8).val ρ:=by
   show Value.pointer (some ⟨(base (ρ 8)).block,(base (ρ 8)).off+0,none⟩)=ρ 8
   rw[p8];rfl
  rw[e7,e8]at key;exact key
 ·have e1:A.take (k+1)=A.take k++[A[k]]:=by rw[List.take_succ_eq_append_getElem hk]
  rw[e1];exact hY (A.take k) A[k] W1 hj (by rw[List.length_take];omega)
end
end Go.Sh
end

section
open Go.RowKit
namespace Go.Sh
open Go Go.Proofs Go.RowKit Go.Sx
open Go.Sx09 (KpS needL jlq ja9)
section
variable {ρ:Env} {B:Kd} {nm:ByteArray} {gU:List (List NC)} {od sg:List Int} {i:Int} {w W W':World} {r:Nat}
theorem jls (hh:HRel ρ B (hpR nm gU od sg i) 9 W) {x k:Nat} {o:O} (hf:find (hpR nm gU od sg i) x=some o) (hk:o.blk (ρ x)=some k):∃c t f,W.heap[k]?=some (.cells c t f):=by
 have h:=(hh.ok x o hf).2.2
 have row:∀ty c,O.ok ρ B W x (.row ty c)→(O.row ty c).blk (ρ x)=some k→∃c t f,W.heap[k]?=some (.cells c t f):=fun ty c h hk=>by
  obtain⟨⟨_,hrow⟩,_⟩:=h;rcases hrow with ⟨e,_⟩|⟨g,cp,cur,e,_,hc,_⟩
  ·simp only[O.blk,e,Value.ownBlock]at hk;cases hk
  ·simp only[O.blk,e,Value.ownBlock]at hk;cases hk;exact⟨_,_,_,hc⟩
 have box:∀ty cs,O.ok ρ B W x (.box ty cs)→(O.box ty cs).blk (ρ x)=some k→∃c t f,W.heap[k]?=some (.cells c t f):=fun ty cs h hk=>by
  obtain⟨q,h1,_,h3⟩:=h;simp only[O.blk,h1,base]at hk;cases hk;exact⟨_,_,_,h3⟩
 simp only[hpR,hpO,List.cons_append,List.nil_append,find]at hf
 repeat' split at hf
 all_goals first
  |(cases hf;exact box _ _ h hk)
  |(cases hf;exact row _ _ h hk)
  |(cases hf;cases hk;done)
  |(cases hf;done)
theorem jz2 (hh:HRel ρ B (hpR nm gU od sg i) 9 W) (hbB:Bel B W W') (keep:∀x o k,find (hpR nm gU od sg i) x=some o→o.blk (ρ x)=some k→W'.heap[k]?=W.heap[k]?):HRel ρ B (hpR nm gU od sg i) 9 W':=by
 refine⟨fun x o hf=>?_,hh.apart,hh.glob.bel hbB⟩;obtain⟨a1,a2,a3⟩:=hh.ok x o hf;refine⟨a1,a2,?_⟩
 have box:∀ty cs,find (hpR nm gU od sg i) x=some (.box ty cs)→O.ok ρ B W x (.box ty cs)→O.ok ρ B W' x (.box ty cs):=fun ty cs hf h=>by
  obtain⟨k,h1,h2,h3⟩:=h;exact⟨k,h1,h2,(keep x _ k hf (by rw[h1];rfl)).trans h3⟩
 have row:∀ty c,find (hpR nm gU od sg i) x=some (.row ty c)→O.ok ρ B W x (.row ty c)→O.ok ρ B W' x (.row ty c):=fun ty c hf h=>by
  obtain⟨⟨hl,hrow⟩,hbk⟩:=h;refine⟨⟨hl,?_⟩,hbk⟩;rcases hrow with h|⟨g,cp,cur,q1,q2,q3,q4⟩
  ·exact .inl h
  ·exact .inr ⟨g,cp,cur,q1,q2,(keep x _ g hf (by rw[q1];rfl)).trans q3,q4⟩
 have hf0:=hf;simp only[hpR,hpO,List.cons_append,List.nil_append,find]at hf
 repeat' split at hf
 all_goals first
  |(cases hf;exact box _ _ hf0 a3)
  |(cases hf;exact row _ _ hf0 a3)
  |(cases hf;exact IsX.bel a3 hbB)
  |(cases hf;done)
structure SI (ρ:Env) (B:Kd) (nm:ByteArray) (gU:List (List NC)) (od:List Int) (i:Int) (w:World) (sg:List Int) (W:World):Prop where
 env:HRel ρ B (hpR nm gU od sg i) 9 W
 bel:Bel B w W
 old:Old B W
theorem SI.grown (h:SI ρ B nm gU od i w sg W) (h0:Old B w) {row:Option Nat} (hg:W.grownBy W' row) (hr:∀r,row=some r→w.heap.size≤r∧∃o:Obj,W.heap[r]?=some o∧o.isCells=false):SI ρ B nm gU od i w sg W':=by
 have hb:Bel B W W':=⟨hg.os,hg.tape,hg.output,hg.size,fun k hk=>hg.block k (h.old k (.inl hk)) (fun e=>by
  have h1:=(hr k e.symm).1;have h2:=h0 k (.inl hk);omega)⟩
 refine⟨jz2 h.env hb fun x o k hf hk=>?_,h.bel.trans hb,fun k hk=>Nat.lt_of_lt_of_le (h.old k hk) hg.size⟩;obtain⟨c,t,f,hc⟩:=jls h.env hf hk;refine hg.block k (Array.getElem?_eq_some_iff.1 hc).1 (fun e=>?_);obtain⟨o,ho,hn⟩:=(hr k e.symm).2;rw[hc]at ho;cases ho;cases hn
end
end Go.Sh
end

section
open Go.RowKit
namespace Go.Sh
open Go Go.Proofs Go.RowKit Go.Sx
open Go.Sx09 (KpS needL jwH jwI)
theorem sA_vc (v9 v6:Value) (x:Int):pcS 0 sgA ⟨[(9,.w (.c (.d (.v v9)))),(6,.w (.c (.d (.v v6)))),(37,vi .i64 x)],[],0⟩ fun st'=>Le 0 st' ⟨[(10,vi .i64 x),(9,.w (.c (.d (.v v9)))),(6,.w (.c (.d (.v v6))))],[],0⟩:=by
 refine Eq.mp (by kernel_rfl:(Ob (x=x)∧Ob (v9=v9)∧Ob (v6=v6)∧True)=_) ?_;exact⟨⟨rfl⟩,⟨rfl⟩,⟨rfl⟩,trivial⟩
def SA (v9 v6:Value) (x:Int) (a:Act) (_:World):Prop :=
 a.tmps.size=78∧a.defers=[]∧a.tmps.getD 10 undef=.int .i64 x∧a.tmps.getD 9 undef=v9∧a.tmps.getD 6 undef=v6
def jcr (sg:List Int) (i:Int) (l:List Int):List Int:=l.foldl (fun s x=>jf1 s i x) sg
theorem jz3 (sg:List Int) (i x:Int):(jf1 sg i x).length=sg.length:=by simp[jf1]
theorem jlt (i:Int):∀(l:List Int) (sg:List Int),(jcr sg i l).length=sg.length
 |[],_=>rfl
 |x::l,sg=>by
  show(jcr (jf1 sg i x) i l).length=_
  rw[jlt i l,jz3]
theorem jwQ (sg:List Int) (i:Int) (l:List Int) (x:Int):jcr sg i (l++[x])=jf1 (jcr sg i l) i x:=by simp[jcr]
section
variable {ρ:Env} {B:Kd} {nm:ByteArray} {gU:List (List NC)} {od sg:List Int} {i:Int} {w:World} {r:Nat}
set_option maxHeartbeats 2000000 in
theorem jys {n:Nat} {Q:Exit→Act→World→Prop} {a:Act} (h1:1≤n) (hh:HRel ρ B (hpR nm gU od sg i) 9 w) (hold:Old B w) {m cap:Nat} (hr:ρ 4=.slice (some ⟨r,0,none⟩) m cap) (hi:0≤i∧i<gU.length) (hil:i<(sg.length:Int))
  (hL:((nL gU i.toNat 2).length:Int)<9223372036854775807) (hx:∀x∈needL (nL gU i.toNat 2) (nI gU i.toNat 7),0≤x∧x<(sg.length:Int))
  (hs:a.tmps.size=78) (h36:a.eval (.tmp 36)=.func (.func 132) #[] #[(C.o 7).val ρ,(C.o 8).val ρ]) (h9:a.tmps.getD 9 undef=V.val ρ (.w (.c (.p 6 (0:Nat) 1 (0:Nat))))) (h6:a.tmps.getD 6 undef=V.val ρ (.w (.c (.p 5 (0:Nat) 1 (0:Nat)))))
  (hdone:∀(D:Nat) (W:World),w.heap.size≤D→W.heap[D]?=some (.deferred (some []))→SI ρ B nm gU od i w (jcr sg i (needL (nL gU i.toNat 2) (nI gU i.toNat 7))) W→Q .normal { a with defers:={ target:=.collected D,args:=#[] } :: a.defers } W) :
  (Code.rangeFunc (.tmp 36) #[37] sgA sgY).wpIn Fence.wide n Tryz.prog Q a w:=by
 obtain⟨A,hA⟩:∃A:List {x:Int // 0≤x∧x<(sg.length:Int)},A.map (fun x=>x.1)=needL (nL gU i.toNat 2) (nI gU i.toNat 7) :=
  ⟨(needL (nL gU i.toNat 2) (nI gU i.toNat 7)).attachWith _ hx,by simp⟩
 have hsg:0<sg.length:=by omega
 refine wpIn_rangeFunc_ownH (F:=Fence.wide) (n:=n) rfl h1 (gf:=132) (lb:=#[(C.o 7).val ρ,(C.o 8).val ρ]) h36 trivial (enters_of Tryz.func132 (by kernel_rfl) rfl)
  (jBl (n-1) hh hold hr hi hsg hL A hA) jwH jwI (Below.refl _ _) (fun _=>rfl)
  (fun(pre:List {x:Int // 0≤x∧x<(sg.length:Int)}) W=>SI ρ B nm gU od i w (jcr sg i (pre.map Subtype.val)) W) (fun _ _ _=>False) (fun pre W W' row h hg hr=>SI.grown h hold hg hr) (fun _ _ _ _ _ h _ _=>h.elim) ⟨hh,Bel.refl _ _,hold⟩
  (fun x=>SA (V.val ρ (.w (.c (.p 6 (0:Nat) 1 (0:Nat))))) (V.val ρ (.w (.c (.p 5 (0:Nat) 1 (0:Nat))))) x.1) (fun x a' _ _ _ _ h _ _=>h) ?assign ?body ?done ?stop
 case assign =>
  intro l pre x W K hI hK
  have hrel:Rel ρ (kd fun k=>k<W.heap.size) 78 0 ⟨[(9,.w (.c (.d (.v (V.val ρ (.w (.c (.p 6 (0:Nat) 1 (0:Nat))))))))),(6,.w (.c (.d (.v (V.val ρ (.w (.c (.p 5 (0:Nat) 1 (0:Nat))))))))),(37,vi .i64 x.1)],[],0⟩ { tmps:=((#[37]:Array Tmp).zip #[.int .i64 x.1]).foldl (fun t (p,v)=>t.setIfInBounds p v) a.tmps,defers:=[] } W:=by
   have e:((#[37]:Array Tmp).zip #[Value.int .i64 x.1]).foldl (fun t (p,v)=>t.setIfInBounds p v) a.tmps=a.tmps.setIfInBounds 37 (.int .i64 x.1):=by simp
   refine⟨fun t v hv=>?_,?_,rfl,⟨_,Grow.refl _ _ _ _,⟨fun h o hf=>(by cases hf),fun h o h' o' k hf=>(by cases hf),Go.Sx09.glob0⟩⟩,fun k hk=>jaW.1 hk,Nat.le_refl _⟩
   ·dsimp only;rw[e];simp only[jav]at hv;split at hv
    ·rename_i e;subst e;cases hv;refine⟨trivial,?_⟩
     show _=V.val ρ (.w (.c (.p 6 (0:Nat) 1 (0:Nat))))
     rw[←h9];simp[Array.getD,hs,Array.getElem_setIfInBounds]
    split at hv
    ·rename_i e;subst e;cases hv;refine⟨trivial,?_⟩
     show _=V.val ρ (.w (.c (.p 5 (0:Nat) 1 (0:Nat))))
     rw[←h6];simp[Array.getD,hs,Array.getElem_setIfInBounds]
    split at hv
    ·rename_i e;subst e;cases hv;exact⟨trivial,by simp[Array.getD,hs,V.val,Sx.W.val,C.val,D.val,vi,Array.getElem_setIfInBounds]⟩
    ·cases hv
   ·dsimp only;rw[e];simp[hs]
  refine wpIn_mono (jcR mixed jfK sgA 0 [] _ _ ρ _ W (by kernel_rfl) (sA_vc _ _ _) hrel (jae.refl _ _) (Bel.refl _ _)) ?_;rintro e a' W' ⟨ex,ρ1,st',rfl,hk,hr',hag',hbl'⟩;cases ex with
  |normal =>
   obtain⟨ρ2,hr2,hag2⟩:=Le.rel hk hr';have hgr:W.grownBy W' none:=⟨hbl'.os,hbl'.tape,hbl'.output,hbl'.size,fun k hk _=>hbl'.block k hk⟩
   exact hK a' W' ⟨hbl'.size,fun k o _ hk ho=>(hbl'.block k (Array.getElem?_eq_some_iff.1 hk).1).trans hk⟩
    ⟨hbl'.size,fun k o _ ho _=>(hbl'.block k (Array.getElem?_eq_some_iff.1 ho).1).trans ho⟩ (hI.grown hold hgr (fun r e=>by cases e)) ⟨hr2.size,hr2.defers,(hr2.tm 10 _ rfl).2,(hr2.tm 9 _ rfl).2,(hr2.tm 6 _ rfl).2⟩
  |exit j=>exact hk.elim
  |ret=>exact hk.elim
 case body =>
  intro l pre x a' W hl _ hI hA' hlt;obtain⟨q1,q2,q3,q4,q5⟩:=hA';have hlen:=jlt i (pre.map Subtype.val) sg;refine wpIn_mono (jz1 hI.env hI.old hr ⟨hi.1,by omega⟩ (x:=x.1) ⟨x.2.1,by have:=x.2.2;omega⟩ q1 q2 q3 q4 q5) ?_;rintro e a2 W' ⟨rfl,hb,hh'⟩;obtain⟨c,t,f,hc⟩:=jls hI.env (x:=4) (k:=r) rfl (by rw[hr];rfl);have hrB:¬B.all r:=(hh.ok 4 _ rfl).2.2.2 r (by rw[hr];rfl);refine⟨⟨hb.size,fun k o _ hk ho=>(hb.block k ⟨(Array.getElem?_eq_some_iff.1 hk).1,fun e=>?_⟩).trans hk⟩,⟨hb.size,fun k o hk ho _=>(hb.block k ⟨(Array.getElem?_eq_some_iff.1 ho).1,hk⟩).trans ho⟩,⟨?_,hI.bel.trans ⟨hb.os,hb.tape,hb.output,hb.size,fun k hk=>hb.block k ⟨hI.old k (.inl hk),fun e=>hrB (.inl (e ▸ hk))⟩⟩,fun k hk=>Nat.lt_of_lt_of_le (hI.old k hk) hb.size⟩⟩
  ·subst e;rw[hc]at hk;cases hk;cases ho
  ·rw[List.map_append]
   show HRel ρ B (hpR nm gU od (jcr sg i (_++[x.1])) i) 9 W'
   rw[jwQ];exact hh'
 case done =>
  intro D xs W hD hS hI hd;subst hS;have hA2:xs.map Subtype.val=needL (nL gU i.toNat 2) (nI gU i.toNat 7):=hA;rw[hA2]at hI;exact hdone D W hD hd hI
 case stop =>
  intro D c pre W _ _ h;exact h.elim
end
end Go.Sh
end

section
open Go.RowKit
namespace Go.Sh
open Go Go.Proofs Go.RowKit Go.Sx
open Go.Sx09 (needL)
def mk1 (D:Nat):Deferred:={ target:=.collected D,args:=#[] }
def mB (w0:World) (l:List Nat):Kd:=kd fun x=>x<w0.heap.size∨x∈l
def jo3 (w0:World) (l:List Nat) (w:World):Prop:=l.Nodup∧∀D∈l,w.heap[D]?=some (.deferred (some []))∧¬D<w0.heap.size
theorem jo3.bel {w0:World} {l:List Nat} {w w':World} (h:jo3 w0 l w) (hb:Bel (mB w0 l) w w'):jo3 w0 l w' :=
 ⟨h.1,fun D hD=>⟨(hb.block D (.inr hD)).trans (h.2 D hD).1,(h.2 D hD).2⟩⟩
theorem jta {w0:World} {l:List Nat} {w w':World} (hb:Bel (mB w0 l) w w'):Bel (fun k=>k<w0.heap.size) w w':=⟨hb.os,hb.tape,hb.output,hb.size,fun k hk=>hb.block k (.inl hk)⟩
theorem jCa {c:Code} {st st2:St} {ds:List Deferred} {ρ:Env} {B:Kd} {a:Act} {w:World} {n0:Nat} (hr:RelD ds ρ B 78 n0 st a w) (h:pcS n0 c st fun st'=>Le n0 st' st2) :
  c.wp Tryz.prog (fun e a' w'=>e=.normal∧Bel B w w'∧∃ρ',RelD ds ρ' B 78 n0 st2 a' w'∧jae n0 ρ ρ') a w:=by
 refine wp_mono (ja6 jfK (jbx mixed jfK) c 0 [] st _ ρ a w h hr (jae.refl _ _) (Bel.refl _ _)) ?_;rintro e a' w' ⟨ex,ρ',st',rfl,hk,hr',hag,hbl⟩;cases ex with
 |normal =>
  obtain⟨ρ2,hr2,hag2⟩:=Le.rel hk hr';exact⟨rfl,hbl,ρ2,hr2,fun x hx=>(hag2 x hx).trans (hag x hx)⟩
 |exit j=>exact hk.elim
 |ret=>exact hk.elim
def jfa (ρ0:Env) (w0:World) (st:St) (a:Act) (w:World):Prop :=
 ∃ρ l,RelD (l.map mk1) ρ (mB w0 l) 78 1 st a w∧jo3 w0 l w∧jae 1 ρ0 ρ∧Bel (fun k=>k<w0.heap.size) w0 w
theorem jfa.piece {ρ0:Env} {w0:World} {st st2:St} {c:Code} {a:Act} {w:World} (h:jfa ρ0 w0 st a w) (hc:pcS 1 c st fun st'=>Le 1 st' st2):c.wp Tryz.prog (fun e a' w'=>e=.normal∧jfa ρ0 w0 st2 a' w') a w:=by
 obtain⟨ρ,l,hr,hm,hag,hbl⟩:=h;refine wp_mono (jCa hr hc) ?_;rintro e a' w' ⟨rfl,hb,ρ',hr',hag'⟩;exact⟨rfl,ρ',l,hr',hm.bel hb,fun x hx=>(hag' x hx).trans (hag x hx),hbl.trans (jta hb)⟩
theorem jfa.t31 {ρ0:Env} {w0:World} {st:St} {b:Bool} {a:Act} {w:World} (h:jfa ρ0 w0 st a w) (hg:jav st.tm 31=some (vb b)):a.eval (.tmp 31)=.bool b:=by
 obtain⟨ρ,l,hr,_⟩:=h;exact(hr.tm 31 _ hg).2
def addB (B:Kd) (D:Nat) (h:B.mu D=none):Kd:=⟨fun k=>B.kp k∨k=D,B.fr,B.mu,fun k hk=>.inl (B.sub k hk),fun k hk=>hk.elim (B.dis k) fun e=>e ▸ h⟩
end Go.Sh
end

section
open Go.RowKit
namespace Go.Sh
open Go Go.Proofs Go.RowKit Go.Sx
open Go.Sx09 (needL)
theorem le_vc (nm:ByteArray) (gU:List (List NC)) (od sg:List Int) (k:Nat) (i:Int):Le 1 ⟨tmO od k,hpR nm gU od sg i,9⟩ (je9 nm gU od sg k):=by
 refine Eq.mp (by kernel_rfl:(Ob ((k:Int)=k)∧Ob ((od.length:Int)=od.length)∧Ob (Value.slice none 0 0=Value.slice none 0 0)∧Ob ((0:Nat)=0)∧Ob ((0:Nat)=0)∧Ob (sg=sg)∧Ob (nm=nm)∧Ob (od=od)∧Ob (gU=gU)∧True)=_) ?_;exact⟨⟨rfl⟩,⟨rfl⟩,⟨rfl⟩,⟨rfl⟩,⟨rfl⟩,⟨rfl⟩,⟨rfl⟩,⟨rfl⟩,⟨rfl⟩,trivial⟩
def stSM (nm:ByteArray) (gU:List (List NC)) (od sg:List Int) (k:Nat) (i:Int):St:=⟨(9,.w (.c (.p 6 0 1 0)))::tmO od k,(6,.box 3 [.d (.i .i64 i)])::hpO nm gU od sg,7⟩
theorem jCd (nm:ByteArray) (gU:List (List NC)) (od sg:List Int) (k:Nat) (hk:k<od.length):pcS 1 sgH0 (je9 nm gU od sg k) fun st'=>Le 1 st' (stSM nm gU od sg k (od.getD k 0)):=by
 refine Eq.mp (by kernel_rfl:(Ob ((0:Int)≤k∧(k:Int)<od.length)∧Ob ((k:Int).toNat<od.length)∧Ob ((0:Nat)=0)∧Ob ((k:Int)=k)∧Ob ((od.length:Int)=od.length)∧Ob (Value.slice none 0 0=Value.slice none 0 0)∧Ob ((0:Nat)=0)∧Ob ((0:Nat)=0)∧Ob (od.getD (k:Int).toNat 0=od.getD k 0)∧Ob (sg=sg)∧Ob (nm=nm)∧Ob (od=od)∧Ob (gU=gU)∧True)=_) ?_;exact⟨⟨by omega⟩,⟨by omega⟩,⟨rfl⟩,⟨rfl⟩,⟨rfl⟩,⟨rfl⟩,⟨rfl⟩,⟨rfl⟩,⟨rfl⟩,⟨rfl⟩,⟨rfl⟩,⟨rfl⟩,⟨rfl⟩,trivial⟩
theorem jCe (nm:ByteArray) (gU:List (List NC)) (od sg:List Int) (k:Nat) (i:Int):pcS 1 sgH1 (stSM nm gU od sg k i) fun st'=>Le 1 st' (stSR nm gU od sg k i):=by
 refine Eq.mp (by kernel_rfl:(Ob True∧Ob ((0:Nat)=0)∧Ob ((k:Int)=k)∧Ob ((od.length:Int)=od.length)∧Ob (Value.slice none 0 0=Value.slice none 0 0)∧Ob ((0:Nat)=0)∧Ob ((0:Nat)=0)∧Ob (i=i)∧Ob ((0:Nat)=0)∧Ob (i=i)∧Ob (sg=sg)∧Ob (nm=nm)∧Ob (od=od)∧Ob (gU=gU)∧True)=_) ?_;exact⟨⟨trivial⟩,⟨rfl⟩,⟨rfl⟩,⟨rfl⟩,⟨rfl⟩,⟨rfl⟩,⟨rfl⟩,⟨rfl⟩,⟨rfl⟩,⟨rfl⟩,⟨rfl⟩,⟨rfl⟩,⟨rfl⟩,⟨rfl⟩,trivial⟩
section
variable {ρ0:Env} {w0:World} {nm:ByteArray} {gU:List (List NC)} {od sg:List Int} {k:Nat} {a:Act} {w:World}
set_option maxHeartbeats 2000000 in
theorem jyt {i:Int} (hk:k<od.length) (hod:od.getD k 0=i) (hi:0≤i∧i<gU.length) (hil:i<(sg.length:Int)) (hL:((nL gU i.toNat 2).length:Int)<9223372036854775807)
  (hx:∀x∈needL (nL gU i.toNat 2) (nI gU i.toNat 7),0≤x∧x<(sg.length:Int)) (h:jfa ρ0 w0 (je9 nm gU od sg k) a w) :
  jny.wpIn Fence.wide 9 Tryz.prog (fun e a' w'=>e=.normal∧jfa ρ0 w0 (je9 nm gU od (jcr sg i (needL (nL gU i.toNat 2) (nI gU i.toNat 7))) k) a' w') a w:=by
 have hB:jny=.block 1 (.seq sgH0 (.seq sgH1 (.block 2 (.rangeFunc (.tmp 36) #[37] sgA sgY)))):=by kernel_rfl
 rw[hB];have hp:=h.piece (jCd nm gU od sg k hk);rw[hod]at hp;refine wpIn_block (wpIn_seq (wpIn_mono (wpIn_wide.2 hp) ?_));rintro e1 a1 w1 ⟨rfl,h1⟩
 ·refine wpIn_seq (wpIn_mono (wpIn_wide.2 (h1.piece (jCe nm gU od sg k i))) ?_);rintro e2 a2 w2 ⟨rfl,ρ,l,hr,hm,hag,hbl⟩;obtain⟨B',gB,hh⟩:=hr.heap;have hold:Old B' w2:=fun k hk=>(gB.new k hk).elim (fun h=>hr.le k h) id
  obtain⟨r,m,cap,hr4⟩:∃r m cap,ρ 4=.slice (some ⟨r,0,none⟩) m cap:=by
   obtain⟨⟨_,hrow⟩,_⟩:=(hh.ok 4 _ rfl).2.2;rcases hrow with ⟨_,e⟩|⟨g,cp,cur,e,_⟩
   ·have:sg.length=0:=e;omega
   ·exact⟨_,_,_,e⟩
  refine wpIn_block (jys (by decide) hh hold hr4 hi hil hL hx hr.size (hr.tm 36 _ rfl).2 (hr.tm 9 _ rfl).2 (hr.tm 6 _ rfl).2 ?_);intro D W hD hd hS;have hlt:∀x,x∈l→x<w2.heap.size:=fun x hx=>hr.le x (.inl (.inr hx));have hDl:D∉l:=fun h=>by have:=hlt D h;omega
  have hbel:Bel (mB w0 l) w2 W:=⟨hS.bel.os,hS.bel.tape,hS.bel.output,hS.bel.size,fun k hk=>hS.bel.block k (gB.le.kp k hk)⟩
  have hm2:=hm.bel hbel;have hDW:D<W.heap.size:=(Array.getElem?_eq_some_iff.1 hd).1;have hw0:w0.heap.size≤w2.heap.size:=hbl.size
  have hmu:B'.mu D=none:=by
   cases e:B'.mu D with
   |none=>rfl
   |some g=>have:=hold D (.inr (by rw[e];simp));omega
  have hhD:HRel ρ (addB B' D hmu) (hpR nm gU od (jcr sg i (needL (nL gU i.toNat 2) (nI gU i.toNat 7))) i) 9 W:=hS.env.moreB ⟨fun _ h=>.inl h,fun _ h=>h⟩ (fun _ _ h=>h) (fun x o k hf hk hb=>by
   rcases hb with (hb|rfl)|hb
   ·exact(O.blk_lt (hS.env.ok x o hf).2.2 hk).2 (.inl hb)
   ·obtain⟨c,t,f,hc⟩:=jls hS.env hf hk;rw[hc]at hd;cases hd
   ·exact(O.blk_lt (hS.env.ok x o hf).2.2 hk).2 (.inr hb))
  have hr9:RelD ((D::l).map mk1) ρ (mB w0 (D::l)) 78 1 ⟨tmO od k,hpR nm gU od (jcr sg i (needL (nL gU i.toNat 2) (nI gU i.toNat 7))) i,9⟩ { a2 with defers:={ target:=.collected D,args:=#[] } :: a2.defers } W:=by
   refine⟨fun t v hv=>?_,hr.size,by rw[hr.defers];rfl,⟨addB B' D hmu,⟨⟨fun x hx=>?_,fun x hx=>hx.elim⟩,fun x hx=>?_,fun x hx=>?_,fun h=>by cases h⟩,hhD⟩,fun x hx=>?_,(by decide:1≤9)⟩
   ·have hv2:jav (stSR nm gU od sg k i).tm t=some v:=by
     have h36:t≠36:=fun e=>by subst e;simp[tmO,jav]at hv
     have h9:t≠9:=fun e=>by subst e;simp[tmO,jav]at hv
     show jav ((36,_)::(9,_)::tmO od k) t=some v
     simp only[jav,if_neg (Ne.symm h36),if_neg (Ne.symm h9)];exact hv
    exact hr.tm t v hv2
   ·rcases hx with hx|hx
    ·exact .inl (gB.le.kp x (.inl hx))
    ·rcases List.mem_cons.1 hx with rfl|hx
     ·exact .inr rfl
     ·exact .inl (gB.le.kp x (.inr hx))
   ·rcases hx with (hx|rfl)|hx
    ·exact .inr (hS.old x (.inl hx))
    ·exact .inr hDW
    ·exact .inr (hS.old x (.inr hx))
   ·rcases gB.out x hx with h|h
    ·exact h.elim
    ·refine .inr fun h2=>?_;rcases h2 with h2|h2
     ·exact h (.inl h2)
     ·rcases List.mem_cons.1 h2 with rfl|h2
      ·have:=hold x (.inl (B'.sub x hx));omega
      ·exact h (.inr h2)
   ·rcases jaW.1 hx with hx|hx
    ·have:=hS.bel.size;omega
    ·rcases List.mem_cons.1 hx with rfl|hx
     ·exact hDW
     ·have:=hlt x hx;have:=hS.bel.size;omega
  obtain⟨ρ3,hr3,hag3⟩:=Le.rel (le_vc nm gU od _ k i) hr9
  exact⟨rfl,ρ3,D::l,hr3,⟨List.nodup_cons.2 ⟨hDl,hm2.1⟩,fun E hE=>by
   rcases List.mem_cons.1 hE with rfl|hE
   ·exact⟨hd,by omega⟩
   ·exact hm2.2 E hE⟩,fun x hx=>(hag3 x hx).trans (hag x hx),hbl.trans (jta hbel)⟩
end
end Go.Sh
end

section
open Go.RowKit
namespace Go.Sh
open Go Go.Proofs Go.RowKit Go.Sx
open Go.Sx09 (needL)
def jjG (gU:List (List NC)) (od sg:List Int):Nat→List Int
 |0=>sg
 |k+1=>jcr (jjG gU od sg k) (od.getD k 0) (needL (nL gU (od.getD k 0).toNat 2) (nI gU (od.getD k 0).toNat 7))
theorem jnz (gU:List (List NC)) (od sg:List Int):∀k,(jjG gU od sg k).length=sg.length
 |0=>rfl
 |k+1=>by unfold jjG;rw[jlt,jnz]
section
variable {ρ0:Env} {w0:World} {nm:ByteArray} {gU:List (List NC)} {od sg:List Int} {a:Act} {w:World}
theorem jz4 {Q:Exit→Act→World→Prop} (hlen:(od.length:Int)≤9223372036854775807) (hsl:sg.length=gU.length) (hod:∀x∈od,0≤x∧x<(gU.length:Int))
  (hL:∀i:Nat,i<gU.length→((nL gU i 2).length:Int)<9223372036854775807) (hx:∀i:Nat,i<gU.length→∀x∈needL (nL gU i 2) (nI gU i 7),0≤x∧x<(gU.length:Int)) (h:jfa ρ0 w0 (je9 nm gU od sg 0) a w)
  (hQ:∀a' w',jfa ρ0 w0 ⟨(31,vb false)::tmO od od.length,hpO nm gU od (jjG gU od sg od.length),6⟩ a' w'→Q .normal a' w') :
  (Code.block 0 (.loop sgL)).wpIn Fence.wide 9 Tryz.prog Q a w:=by
 refine wpIn_block (wpIn_loop (fun a w=>∃k,k≤od.length∧jfa ρ0 w0 (je9 nm gU od (jjG gU od sg k) k) a w) (fun a _=>od.length-(intOf (a.tmps.getD 30 undef)).toNat) ⟨0,Nat.zero_le _,h⟩ ?_);rintro a w ⟨k,hk,ho⟩
 have hmu:∀{sg':List Int} {k':Nat} {a':Act} {w':World},jfa ρ0 w0 (je9 nm gU od sg' k') a' w'→(intOf (a'.tmps.getD 30 undef)).toNat=k':=by
  rintro sg' k' a' w' ⟨ρ,l,hr,_⟩;rw[(hr.tm 30 _ rfl).2];simp[intOf]
 rw[hmu ho];have hLc:sgL=.seq sgR1 (.seq (.cond (.tmp 31) .skip (.exit 0)) (.seq jny sgR2)):=by kernel_rfl
 rw[hLc];refine wpIn_seq (wpIn_mono (wpIn_wide.2 (ho.piece (s1_vc nm gU od _ k))) ?_);rintro e a1 w1 ⟨rfl,ho1⟩;have hc:=ho1.t31 rfl
 by_cases hlt:k<od.length
 ·rw[decide_eq_true (show(k:Int)<(od.length:Int) by omega)]at hc
  have hm:od.getD k 0∈od:=by
   rw[List.getD_eq_getElem?_getD,List.getElem?_eq_getElem hlt];exact List.getElem_mem hlt
  have hb:=hod _ hm;have hle:=jnz gU od sg k;obtain⟨ρ,l,hr,r1,r2,r3⟩:=ho1
  have ho2:jfa ρ0 w0 (je9 nm gU od (jjG gU od sg k) k) a1 w1:=⟨ρ,l,⟨fun t v hv=>hr.tm t v (by
   have h31:t≠31:=fun e=>by subst e;simp[je9,tmO,jav]at hv
   simp only[jav,if_neg (Ne.symm h31)];exact hv),hr.size,hr.defers,hr.heap,hr.le,hr.n0⟩,r1,r2,r3⟩
  refine wpIn_seq (wpIn_cond_true hc (wpIn_skip (wpIn_seq (wpIn_mono (jyt hlt rfl hb (by omega) (hL _ (by omega)) (fun x hx'=>by have:=hx _ (by omega) x hx';omega) ho2) ?_))));rintro e a2 w2 ⟨rfl,ho3⟩;refine wpIn_mono (wpIn_wide.2 (ho3.piece (s3_vc nm gU od _ k (by omega)))) ?_;rintro e a3 w3 ⟨rfl,ho4⟩;exact⟨⟨k+1,hlt,ho4⟩,by rw[hmu ho4];omega⟩
 ·have hk5:k=od.length:=by omega
  subst hk5;rw[decide_eq_false (by omega)]at hc ho1;exact wpIn_seq (wpIn_cond_false hc (wpIn_exit (hQ _ _ ho1)))
end
end Go.Sh
end

section
namespace Go.Sh
open Go Go.Proofs Go.RowKit Go.Sx
open Go.Sx09 (needL)
def mxf (f:Int→Int) (z:Int) (l:List Int):Int:=l.foldl (fun m x=>if 1+f x>m then 1+f x else m) z
theorem jg3 (f:Int→Int) (c:Int):∀(l:List Int) (z:Int),mxf f z l≤c↔z≤c∧∀x∈l,1+f x≤c
 |[],z=>by simp[mxf]
 |x::l,z=>by
  show mxf f (if 1+f x>z then 1+f x else z) l≤c↔_
  rw[jg3 f c l];simp only[List.forall_mem_cons];constructor
  ·rintro ⟨h1,h2⟩;split at h1<;>exact⟨by omega,by omega,h2⟩
  ·rintro ⟨h1,h2,h3⟩;refine⟨?_,h3⟩;split<;>omega
theorem jqH (f:Int→Int):∀(l:List Int) (z:Int),mxf f z l=z∨∃x∈l,mxf f z l=1+f x
 |[],z=>.inl rfl
 |x::l,z=>by
  show mxf f (if 1+f x>z then 1+f x else z) l=z∨∃y∈x::l,mxf f (if 1+f x>z then 1+f x else z) l=1+f y
  rcases jqH f l (if 1+f x>z then 1+f x else z)with h|⟨y,hy,h⟩
  ·rw[h];split
   ·exact .inr ⟨x,List.mem_cons_self,rfl⟩
   ·exact .inl rfl
  ·exact .inr ⟨y,List.mem_cons_of_mem _ hy,h⟩
theorem jyu (f:Int→Int) {a b:List Int} (h:∀x,x∈a↔x∈b) (z:Int):mxf f z a=mxf f z b:=by
 have h1:=(jg3 f (mxf f z b) b z).1 (Int.le_refl _);have h2:=(jg3 f (mxf f z a) a z).1 (Int.le_refl _);exact Int.le_antisymm ((jg3 f _ a z).2 ⟨h1.1,fun x hx=>h1.2 x ((h x).1 hx)⟩) ((jg3 f _ b z).2 ⟨h2.1,fun x hx=>h2.2 x ((h x).2 hx)⟩)
theorem jz5 (f:Int→Int) (z:Int) (l:List Int) (x:Int):mxf f z (l++[x])=if 1+f x>mxf f z l then 1+f x else mxf f z l:=by
 simp[mxf]
theorem jqI {α:Type} (l:List α) (i:Nat) (d:α):l.set i (l.getD i d)=l:=by
 refine List.ext_getElem (by simp) fun k h1 h2=>?_;rw[List.getElem_set];split
 ·rename_i e;subst e;simp[List.getD,h2]
 ·rfl
theorem jtb {α:Type} (l:List α) (i:Nat) (a b:α):(l.set i a).set i b=l.set i b:=by simp
theorem jtc {s:List Int} {i:Int} (hi:i.toNat<s.length):∀(L:List Int) (v:Int),(∀x∈L,x.toNat≠i.toNat∧-1000000≤s.getD x.toNat 0∧s.getD x.toNat 0≤1000000)→jcr (s.set i.toNat v) i L=s.set i.toNat (mxf (fun x=>s.getD x.toNat 0) v L)
 |[],v,_=>rfl
 |x::L,v,h=>by
  obtain⟨h1,h2,h3⟩:=h x List.mem_cons_self
  show jcr (jf1 (s.set i.toNat v) i x) i L=_
  have e:jf1 (s.set i.toNat v) i x=s.set i.toNat (if 1+s.getD x.toNat 0>v then 1+s.getD x.toNat 0 else v):=by
   have a1:(s.set i.toNat v).getD x.toNat 0=s.getD x.toNat 0:=by rw[jbs _ _ _ _ _ hi,if_neg (fun e=>h1 e.symm)]
   have a2:(s.set i.toNat v).getD i.toNat 0=v:=by rw[jbs _ _ _ _ _ hi,if_pos rfl]
   unfold jf1;rw[a1,a2,jaL (by omega),jtb]
  rw[e,jtc hi L _ fun y hy=>h y (List.mem_cons_of_mem _ hy)];rfl
def nbL (g:List (List NC)) (i m:Nat):List Int:=((List.range m).filter (jbo g i)).map fun(k:Nat)=>(k:Int)
theorem jtd (g:List (List NC)) (i m:Nat):nbL g i (m+1)=nbL g i m++if jbo g i m=true then[(m:Int)]else[]:=by
 unfold nbL;rw[List.range_succ,List.filter_append,List.map_append]
 congr 1
 cases h:jbo g i m<;>simp[h]
theorem jl3 {g:List (List NC)} {i m:Nat} {x:Int}:x∈nbL g i m↔∃k:Nat,k<m∧jbo g i k=true∧x=(k:Int):=by
 unfold nbL;simp only[List.mem_map,List.mem_filter,List.mem_range];constructor
 ·rintro ⟨k,⟨h1,h2⟩,rfl⟩;exact⟨k,h1,h2,rfl⟩
 ·rintro ⟨k,h1,h2,rfl⟩;exact⟨k,⟨h1,h2⟩,rfl⟩
variable {g:List (List NC)} {l:List Int}
theorem jnA (h:Rg g l) {i:Nat} (hi:i<g.length) (x:Int):x∈needL (nL g i 2) (nI g i 7)↔x∈nbL g i g.length:=by
 obtain⟨e1,e2⟩:=jl1 (h.ok i hi);rw[jl3];unfold needL;constructor
 ·intro hx
  have:x∈nL g i 2∨(nI g i 7≠-1∧x=nI g i 7):=by
   split at hx
   ·exact .inl hx
   ·rename_i hne;rcases List.mem_append.1 hx with hx|hx
    ·exact .inl hx
    ·exact .inr ⟨hne,by simpa using hx⟩
  rcases this with hx|⟨hne,rfl⟩
  ·obtain⟨h0,h1⟩:=e1 x hx;refine⟨x.toNat,by omega,?_,by omega⟩;unfold jbo;rw[Bool.or_eq_true];left;rw[List.any_eq_true];exact⟨x,hx,by rw[beq_iff_eq];omega⟩
  ·rcases e2 with e2|⟨h0,h1⟩
   ·exact absurd e2 hne
   ·refine⟨(nI g i 7).toNat,by omega,?_,by omega⟩;unfold jbo;rw[Bool.or_eq_true];right;rw[beq_iff_eq];omega
 ·rintro ⟨k,hk,hn,rfl⟩;unfold jbo at hn;rw[Bool.or_eq_true,List.any_eq_true]at hn;rcases hn with ⟨y,hy,e⟩|e
  ·rw[beq_iff_eq]at e;subst e;split
   ·exact hy
   ·exact List.mem_append_left _ hy
  ·rw[beq_iff_eq]at e;rw[if_neg (by omega),e];simp
def stg (g:List (List NC)) (l:List Int):Nat→List Int
 |0=>List.replicate g.length 0
 |k+1=>(stg g l k).set (l.getD k 0).toNat (mxf (fun x=>(stg g l k).getD x.toNat 0) 0 (nbL g (l.getD k 0).toNat g.length))
theorem jfb (g:List (List NC)) (l:List Int) (k:Nat):stg g l (k+1)=(stg g l k).set (l.getD k 0).toNat (mxf (fun x=>(stg g l k).getD x.toNat 0) 0 (nbL g (l.getD k 0).toNat g.length)):=rfl
structure SInv (g:List (List NC)) (l:List Int) (k:Nat) (s:List Int):Prop where
 len:s.length=g.length
 done:∀j,j<k→j<g.length→0≤s.getD (l.getD j 0).toNat 0∧s.getD (l.getD j 0).toNat 0≤j∧(s.getD (l.getD j 0).toNat 0=0∨∃j',j'<j∧s.getD (l.getD j 0).toNat 0=1+s.getD (l.getD j' 0).toNat 0)
 rest:∀j,k≤j→j<g.length→s.getD (l.getD j 0).toNat 0=0
theorem SInv.rng {k:Nat} {s:List Int} (h:SInv g l k s) (hr:Rg g l) {u:Nat} (hu:u<g.length):0≤s.getD u 0∧s.getD u 0<g.length∧s.getD u 0<1000000:=by
 have hn:=hr.n;obtain⟨j,hj,e⟩:=hr.surj hu
 by_cases hk:j<k
 ·have:=h.done j hk hj;rw[e,Int.toNat_natCast]at this;omega
 ·have:=h.rest j (by omega) hj;rw[e,Int.toNat_natCast]at this;omega
theorem jid (h:Rg g l) {k i:Nat} (hk:k<g.length) (hi:l.getD k 0=(i:Int)) {x:Int} (hx:x∈nbL g i g.length):∃j' u:Nat,j'<k∧u<g.length∧x=(u:Int)∧l.getD j' 0=(u:Int):=by
 obtain⟨u,hu,hn,rfl⟩:=jl3.1 hx;obtain⟨j',h1,h2⟩:=h.before hk hi hu hn;exact⟨j',u,h1,hu,rfl,h2⟩
theorem jvx (h:Rg g l) {k i:Nat} (hk:k<g.length) (hi:l.getD k 0=(i:Int)) {x:Int} (hx:x∈nbL g i g.length):x.toNat≠i:=by
 obtain⟨j',u,h1,h2,rfl,h4⟩:=jid h hk hi hx;have:=h.lt_ne hk h1;rw[hi,h4]at this;rw[Int.toNat_natCast];omega
theorem jl4 (h:Rg g l):∀k,k≤g.length→SInv g l k (stg g l k)
 |0,_=>⟨by simp[stg],fun j hj=>by omega,fun j _ hj=>by
  obtain⟨i,hi,e,_⟩:=h.at hj;rw[e];simp[stg,List.getD,hi]⟩
 |k+1,hk=>by
  have ih:=jl4 h k (by omega);obtain⟨i,hi,e,_⟩:=h.at (j:=k) (by omega);have hil:i<(stg g l k).length:=by rw[ih.len];exact hi
  have hat:∀j,j<g.length→(stg g l (k+1)).getD (l.getD j 0).toNat 0=if j=k then mxf (fun x=>(stg g l k).getD x.toNat 0) 0 (nbL g i g.length)else(stg g l k).getD (l.getD j 0).toNat 0:=fun j hj=>by
   rw[jfb,e,Int.toNat_natCast,jbs _ _ _ _ _ hil];obtain⟨u,hu,eu,_⟩:=h.at hj
   by_cases hjk:j=k
   ·subst hjk;rw[if_pos rfl,e,Int.toNat_natCast,if_pos rfl]
   ·rw[if_neg hjk,if_neg];rw[eu,Int.toNat_natCast];rintro rfl;rcases Nat.lt_or_gt_of_ne hjk with hlt|hlt
    ·exact h.lt_ne (by omega) hlt (by rw[e,eu])
    ·exact h.lt_ne hj hlt (by rw[e,eu])
  refine⟨by simp[jfb,ih.len],fun j hj hjg=>?_,fun j hj hjg=>?_⟩
  ·rw[hat j hjg]
   by_cases hjk:j=k
   ·subst hjk;rw[if_pos rfl]
    have key:∀x∈nbL g i g.length,∃j',j'<j∧(stg g l j).getD x.toNat 0=(stg g l (j+1)).getD (l.getD j' 0).toNat 0∧0≤(stg g l j).getD x.toNat 0∧(stg g l j).getD x.toNat 0≤(j':Int):=fun x hx=>by
     obtain⟨j',u,h1,h2,rfl,h4⟩:=jid h hjg e hx;have h5:=ih.done j' h1 (by omega);refine⟨j',h1,?_,?_,?_⟩
     ·rw[hat j' (by omega),if_neg (by omega),h4]
     ·rw[h4]at h5;exact h5.1
     ·rw[h4]at h5;exact h5.2.1
    refine⟨((jg3 _ _ _ _).1 (Int.le_refl _)).1,(jg3 _ _ _ _).2 ⟨by omega,fun x hx=>?_⟩,?_⟩
    ·obtain⟨j',h1,_,_,h4⟩:=key x hx;omega
    ·rcases jqH (fun x=>(stg g l j).getD x.toNat 0) (nbL g i g.length) 0 with h0|⟨x,hx,h0⟩
     ·exact .inl h0
     ·obtain⟨j',h1,h2,_⟩:=key x hx;exact .inr ⟨j',h1,by rw[h0,h2]⟩
   ·rw[if_neg hjk];obtain⟨h1,h2,h3⟩:=ih.done j (by omega) hjg;refine⟨h1,h2,h3.imp id ?_⟩;rintro ⟨j',h4,h5⟩;exact⟨j',h4,by rw[hat j' (by omega),if_neg (by omega)];exact h5⟩
  ·rw[hat j hjg,if_neg (by omega)];exact ih.rest j (by omega) hjg
theorem jvy (h:Rg g l):∀k,k≤g.length→jjG g l (List.replicate g.length 0) k=stg g l k
 |0,_=>rfl
 |k+1,hk=>by
  have ih:=jvy h k (by omega);have hI:=jl4 h k (by omega);obtain⟨i,hi,e,_⟩:=h.at (j:=k) (by omega)
  have hz:(stg g l k).getD i 0=0:=by
   have:=hI.rest k (Nat.le_refl _) (by omega)
   rwa [e,Int.toNat_natCast]at this
  show jcr (jjG g l (List.replicate g.length 0) k) (l.getD k 0) (needL (nL g (l.getD k 0).toNat 2) (nI g (l.getD k 0).toNat 7))=_
  rw[jfb,ih,e,Int.toNat_natCast]
  have hs:jcr (stg g l k) (i:Int) (needL (nL g i 2) (nI g i 7))=jcr ((stg g l k).set (i:Int).toNat 0) (i:Int) (needL (nL g i 2) (nI g i 7)):=by
   congr 1
   rw[Int.toNat_natCast];have:=jqI (stg g l k) i 0;rw[hz]at this;exact this.symm
  rw[hs,jtc (by rw[Int.toNat_natCast,hI.len];exact hi) _ _ (fun x hx=>?_),Int.toNat_natCast,jyu _ (jnA h hi)];have hx2:=(jnA h hi x).1 hx;obtain⟨j',u,h1,h2,rfl,h4⟩:=jid h (by omega) e hx2;refine⟨by rw[Int.toNat_natCast];exact jvx h (by omega) e hx2,?_⟩;have:=hI.rng h h2;rw[Int.toNat_natCast];omega
end Go.Sh
end

section
namespace Go.Sh
open Go Go.Proofs Go.RowKit Go.Sx
def grp (s:List Int) (k n:Nat):List Int:=((List.range k).filter fun i=>s.getD i 0==(n:Int)).map fun(i:Nat)=>(i:Int)
theorem jte (s:List Int) (k n:Nat):grp s (k+1) n=grp s k n++if(s.getD k 0==(n:Int))=true then[(k:Int)]else[]:=by
 unfold grp;rw[List.range_succ,List.filter_append,List.map_append]
 congr 1
 rw[List.filter_cons];cases h:s.getD k 0==(n:Int)<;>rfl
def mxS (s:List Int):Nat→Nat
 |0=>0
 |k+1=>max (mxS s k) ((s.getD k 0).toNat+1)
theorem jyv (s:List Int):∀k i,i<k→(s.getD i 0).toNat<mxS s k
 |0,i,h=>absurd h (by omega)
 |k+1,i,h=>by
  unfold mxS
  by_cases e:i=k
  ·subst e;omega
  ·have:=jyv s k i (by omega);omega
theorem jo4 (s:List Int) (N:Nat):∀k,(∀i,i<k→(s.getD i 0).toNat<N)→mxS s k≤N
 |0,_=>Nat.zero_le _
 |k+1,h=>by
  unfold mxS;have:=jo4 s N k fun i hi=>h i (by omega);have:=h k (by omega);omega
theorem jyw (s:List Int) (n:Nat):∀k,n<mxS s k→∃i,i<k∧n≤(s.getD i 0).toNat
 |0,h=>absurd h (by simp[mxS])
 |k+1,h=>by
  unfold mxS at h
  by_cases e:n<mxS s k
  ·obtain⟨i,h1,h2⟩:=jyw s n k e;exact⟨i,by omega,h2⟩
  ·exact⟨k,by omega,by omega⟩
theorem jvz {s:List Int} {k n:Nat} (h0:∀i,i<k→0≤s.getD i 0) (h:mxS s k≤n):grp s k n=[]:=by
 unfold grp;rw[List.map_eq_nil_iff,List.filter_eq_nil_iff];intro i hi;have hi:=List.mem_range.1 hi;have h1:=jyv s k i hi;have h2:=h0 i hi;rw[beq_iff_eq];omega
theorem jCf {s:List Int} {N n:Nat} (h0:∀i,i<N→0≤s.getD i 0) (hc:∀i,i<N→s.getD i 0=0∨∃u,u<N∧s.getD i 0=1+s.getD u 0) (h:n<mxS s N):0<(grp s N n).length:=by
 have key:∀m i,i<N→s.getD i 0=(n:Int)+(m:Nat)→∃u,u<N∧s.getD u 0=(n:Int):=by
  intro m
  induction m with
  |zero=>intro i hi e;exact⟨i,hi,by omega⟩
  |succ m ih =>
   intro i hi e;rcases hc i hi with h|⟨u,hu,h⟩
   ·omega
   ·exact ih u hu (by omega)
 obtain⟨i,hi,hn⟩:=jyw s n N h;have:=h0 i hi;obtain⟨u,hu,e⟩:=key ((s.getD i 0).toNat-n) i hi (by omega);refine List.length_pos_of_mem (a:=(u:Int)) ?_;unfold grp;exact List.mem_map.2 ⟨u,List.mem_filter.2 ⟨List.mem_range.2 hu,by rw[e];exact beq_self_eq_true _⟩,rfl⟩
def jbP (s:List Int) (k:Nat):List (List Int):=(List.range (mxS s k)).map (grp s k)
theorem jg4 (s:List Int) (k:Nat):(jbP s k).length=mxS s k:=by simp[jbP]
def jbl (s:List Int) (k m:Nat):List (List Int):=jbP s k++List.replicate (m-mxS s k) []
theorem jnB (s:List Int) (k m:Nat):(jbl s k m).length=max (mxS s k) m:=by simp[jbl,jbP];omega
theorem jtf {s:List Int} {k m j:Nat} (h0:∀i,i<k→0≤s.getD i 0) (hj:j<(jbl s k m).length):(jbl s k m).getD j []=grp s k j:=by
 rw[jnB]at hj;unfold jbl
 by_cases h:j<mxS s k
 ·simp[List.getD,jbP,List.getElem?_append_left,h]
 ·rw[jvz h0 (by omega)];rw[List.getD,List.getElem?_append_right (by rw[jg4];omega),jg4,List.getElem?_replicate];split<;>rfl
theorem jz6 {s:List Int} {k:Nat} (h0:∀i,i≤k→0≤s.getD i 0):(jbl s k ((s.getD k 0).toNat+1)).set (s.getD k 0).toNat ((jbl s k ((s.getD k 0).toNat+1)).getD (s.getD k 0).toNat []++[(k:Int)])=jbP s (k+1):=by
 have hk:=h0 k (Nat.le_refl _);refine List.ext_getElem (by rw[List.length_set,jnB,jg4];rfl) fun j h1 h2=>?_;rw[List.length_set]at h1;have hp:=jtf (fun i hi=>h0 i (by omega)) h1;rw[jhD [] h1]at hp;have hs:(jbP s (k+1))[j]=grp s (k+1) j:=by simp[jbP]
 rw[hs,jte,List.getElem_set];split
 ·rename_i e;subst e;rw[jhD [] h1,hp,if_pos];rw[beq_iff_eq];omega
 ·rename_i e;rw[hp,if_neg,List.append_nil];rw[beq_iff_eq];omega
theorem jyx {s:List Int} {k m:Nat} (h:mxS s k≤m):jbl s k m++[[]]=jbl s k (m+1):=by
 unfold jbl;rw[List.append_assoc,show m+1-mxS s k=(m-mxS s k)+1 by omega,List.replicate_succ']
theorem jyy (s:List Int) (k:Nat):jbl s k (mxS s k)=jbP s k:=by simp[jbl]
def neO (s:List Int) (N m:Nat):List (List Int):=((List.range m).map (grp s N)).filter fun l=>decide (0<l.length)
theorem jnC (s:List Int) (N m:Nat):neO s N (m+1)=neO s N m++if 0<(grp s N m).length then[grp s N m]else[]:=by
 unfold neO;rw[List.range_succ,List.map_append,List.filter_append]
 congr 1
 by_cases h:0<(grp s N m).length
 ·simp[h]
 ·simp[h]
theorem jvA {s:List Int} {N:Nat} (h0:∀i,i<N→0≤s.getD i 0) (hc:∀i,i<N→s.getD i 0=0∨∃u,u<N∧s.getD i 0=1+s.getD u 0):∀m,m≤mxS s N→neO s N m=(List.range m).map (grp s N)
 |0,_=>rfl
 |m+1,h=>by rw[jnC,jvA h0 hc m (by omega),if_pos (jCf h0 hc (by omega)),List.range_succ,List.map_append];rfl
theorem jtg {s:List Int} {N:Nat} (h0:∀i,i<N→0≤s.getD i 0):∀d,neO s N (mxS s N+d)=neO s N (mxS s N)
 |0=>rfl
 |d+1=>by rw[←Nat.add_assoc,jnC,jtg h0 d,jvz h0 (by omega),if_neg (by simp),List.append_nil]
theorem jBm {s:List Int} {N:Nat} (h0:∀i,i<N→0≤s.getD i 0) (h1:∀i,i<N→(s.getD i 0).toNat<N) (hc:∀i,i<N→s.getD i 0=0∨∃u,u<N∧s.getD i 0=1+s.getD u 0):neO s N N=jbP s N:=by
 have hm:=jo4 s N N h1;have:=jtg h0 (N-mxS s N);rw[show mxS s N+(N-mxS s N)=N by omega]at this;rw[this,jvA h0 hc _ (Nat.le_refl _)];rfl
def jc4 (g:List (List NC)) (l:List Int):List Int:=stg g l g.length
theorem jgr {g:List (List NC)} {l:List Int} (h:Rg g l):(jc4 g l).length=g.length∧(∀i,i<g.length→0≤(jc4 g l).getD i 0)∧(∀i,i<g.length→((jc4 g l).getD i 0).toNat<g.length)∧∀i,i<g.length→(jc4 g l).getD i 0=0∨∃u,u<g.length∧(jc4 g l).getD i 0=1+(jc4 g l).getD u 0:=by
 have hI:=jl4 h g.length (Nat.le_refl _);refine⟨hI.len,fun i hi=>(hI.rng h hi).1,fun i hi=>?_,fun i hi=>?_⟩
 ·have:=hI.rng h hi
  show((stg g l g.length).getD i 0).toNat<_
  omega
 ·obtain⟨j,hj,e⟩:=h.surj hi;obtain⟨_,_,h3⟩:=hI.done j hj hj;rw[e,Int.toNat_natCast]at h3;refine h3.imp id ?_;rintro ⟨j',h4,h5⟩;obtain⟨u,hu,eu,_⟩:=h.at (j:=j') (by omega);exact⟨u,hu,by rw[eu,Int.toNat_natCast]at h5;exact h5⟩
open Go.IntKind (wrap)
def y115:List SV:=[.a [.d,.x (.st [.s,.i .i64,.ints .i64,.ints .i64,.ints .i64,.i .i64,.recs 5,.i .i64] [])],.c (.r (.ints .i64 []))]
def y11 (u4:ByteArray) (u1:List (List NC)) (l:List Int) (x0:Int):Option (Int ⊕ (Int ⊕ Unit)) :=
 if x0<(↑l.length:Int)then
  if 0≤x0∧x0<(↑l.length:Int)then
  if Int.toNat x0<List.length l then
   Option.bind (y5 (List.getD l x0.toNat (0:Int)) (0:Int) (wrap .i64 ((↑u1.length:Int)-1))) fun r0 =>
   if(!r0)=true then
   some (.inr ((.inl (6:Int))))
   else
   if 0≤Option.getD none (0:Int)∧Option.getD none 0≤Option.getD (some x0) (↑l.length:Int)∧Option.getD (some x0) (↑l.length:Int)≤(↑l.length:Int)then
    if 0≤x0∧x0<(↑l.length:Int)then
    if Int.toNat x0<List.length l then
     Option.bind (jeu (List.take (Int.toNat (Option.getD (some x0) (↑l.length:Int))-0) (List.drop (0:Nat) l)) (List.getD l x0.toNat (0:Int))) fun r1 =>
     if(r1)=true then
     some (.inr ((.inl (26:Int))))
     else
     if 0≤Option.getD none (0:Int)∧Option.getD none 0≤Option.getD (some x0) (↑l.length:Int)∧Option.getD (some x0) (↑l.length:Int)≤(↑l.length:Int)then
      if 0≤x0∧x0<(↑l.length:Int)then
      if Int.toNat x0<List.length l then
       Option.bind (y73 u4 u1 (List.take (Int.toNat (Option.getD (some x0) (↑l.length:Int))-0) (List.drop (0:Nat) l)) (List.getD l x0.toNat (0:Int))) fun r2 =>
       if(!r2)=true then
       some (.inr ((.inl (9:Int))))
       else
       some (.inl (wrap .i64 (x0+1)))
      else none
      else none
     else none
    else none
    else none
   else none
  else none
  else none
 else
  some (.inr ((.inr ())))
def jkd (u5:Int):Option Int :=
 some u5
def jke (u6:Unit):Option Int :=
 some (0:Int)
def y67:(Int ⊕ Unit)→Option Int :=
 (Sum.elim (jkd) (jke))
def y41 (u4:ByteArray) (u1:List (List NC)) (l:List Int):Option Int :=
 if((↑l.length:Int)!=(↑u1.length:Int))=true then
  some (10:Int)
 else
  Option.bind (jak (y11 u4 u1 l) big (0:Int)) (y67)
def y116:List Lf→Option GT
 |[.d (.s u4),.x (.st [.s,.i .i64,.ints .i64,.ints .i64,.ints .i64,.i .i64,.recs 5,.i .i64] u1),.r (.ints .i64 l)]=>some (.leaf (ok (y41 u4 u1 l)) [.c (.d (.i .i64 ((val (y41 u4 u1 l)))))])
 |_=>none
abbrev sp_28:jaa→jaa:=jaH 28 true (jal y115 y116)
abbrev jge (u4:ByteArray) (u1:List (List NC)) (l:List Int) (r:Int):Lp (Int × Nat) Int (Int ⊕ Unit) Int Int :=
 ⟨fun z=>z.1,fun z=>z.2,fun z x n=>(x,n),fun z=>y11 u4 u1 l,fun z=>y67,fun z=>top r,fun z=>0,[.c fun _=>0,.c fun vv=>vv.1,.c fun _=>l,.c fun _=>u4,.c fun _=>u1]⟩
def jmk (u4:ByteArray) (u1:List (List NC)) (l:List Int) (r:Int):Sk (top r) (Option.bind (jak (y11 u4 u1 l) big (0:Int)) (y67)) :=
 .loop (jge u4 u1 l r) (fun kk=>((0:Int),big)) fun z0 =>
 .br
 (.ob (.ob (.call (.brB
 (.exit (.obT (.rc)))
 (.ob (.ob (.ob (.call (.brB
 (.exit (.obT (.rc)))
 (.ob (.ob (.ob (.call (.brB
 (.exit (.obT (.rc)))
 (.next)))))))))))))))
 (.exit (.obT (.rc)))
def jnD (u4:ByteArray) (u1:List (List NC)) (l:List Int) (r:Int):Sk (top r) (y41 u4 u1 l) :=
 .brB
 (.obT (.rc))
 (jmk u4 u1 l r)
theorem jml (u4:ByteArray) (u1:List (List NC)) (l:List Int) (r:Int) (h:Option.bind (y41 u4 u1 l) some=some r):jbg Tryz.f28 ((sp_45 (sp_48 (sp_83 sp0)))) (fun gs id _=>match id with
 |0=>some ⟨Int × Nat,fun z=>⟨[(1,.w (.c (.o 1))),(2,.w (.c (.p 2 0 1 0))),(5,.w (.c (.d (.i .i64 z.1))))],[(1,.ext (.ints .i64 l)),(2,.box 24 [.d (.s u4),.o 0]),(0,.xext (XC.st [NK.s,NK.i .i64,NK.ints .i64,NK.ints .i64,NK.ints .i64,NK.i .i64,NK.recs (5:Nat),NK.i .i64] u1))],3⟩,fun z=>(jge u4 u1 l r).inv z,fun z=>z.2⟩
 |_=>none) (ja8 y115 [.d (.s u4),.x (.st [.s,.i .i64,.ints .i64,.ints .i64,.ints .i64,.i .i64,.recs 5,.i .i64] u1),.r (.ints .i64 l)]) [.c (.d (.i .i64 r))] :=
 Sk.vc (jnD u4 u1 l r) (by kernel_rfl) h
theorem jmm:jaf Tryz.prog 28 true (jal y115 y116):=by
 refine jaA (sp:=(sp_45 (sp_48 (sp_83 sp0)))) (fn:=Tryz.f28) (body:=bodyOf Tryz.f28) mixed (sp_45_ok (sp_48_ok (sp_83_ok jau))) Tryz.func28 (by kernel_rfl) (by kernel_rfl) fun ls t h ho b hb=>?_;unfold y116 at h;split at h
 ·rename_i u4 u1 l;cases h;obtain rfl:=jaM hb;exact⟨Nat.le_of_ble_eq_true (by kernel_rfl),_,_,jml u4 u1 l _ (jaq ho)⟩
 ·cases h
theorem sp_28_ok {sp:jaa} (h:jac Tryz.prog sp):jac Tryz.prog (sp_28 sp):=jas jmm h
def jlu:List SV:=[.c (.x (.ii .i64 [])),.c (.x (.ii .i64 []))]
def jgs (a b:List (List Int)) (x0:Int):Option (Int ⊕ (Unit ⊕ Unit)) :=
 if x0<(↑a.length:Int)then
  if 0≤x0∧x0<(↑a.length:Int)then
  if Int.toNat x0<List.length a then
   if 0≤x0∧x0<(↑b.length:Int)then
   if Int.toNat x0<List.length b then
    Option.bind (jgT (List.getD a x0.toNat []) (List.getD b x0.toNat [])) fun r0 =>
    if(!r0)=true then
    some (.inr ((.inl ())))
    else
    some (.inl (wrap .i64 (x0+1)))
   else none
   else none
  else none
  else none
 else
  some (.inr ((.inr ())))
def jth (u5:Unit):Option Bool :=
 some false
def jti (u6:Unit):Option Bool :=
 some true
def jo5:(Unit ⊕ Unit)→Option Bool :=
 (Sum.elim (jth) (jti))
def jfc (a b:List (List Int)):Option Bool :=
 if((↑a.length:Int)!=(↑b.length:Int))=true then
  some false
 else
  Option.bind (jak (jgs a b) big (0:Int)) (jo5)
def jlv:List Lf→Option GT
 |[.x (.ii .i64 a),.x (.ii .i64 b)]=>some (.leaf (ok (jfc a b)) [.c (.d (.b ((val (jfc a b)))))])
 |_=>none
abbrev sp_29:jaa→jaa:=jaH 29 true (jal jlu jlv)
abbrev jo6 (a b:List (List Int)) (r:Bool):Lp (Int × Nat) Int (Unit ⊕ Unit) Bool Bool :=
 ⟨fun z=>z.1,fun z=>z.2,fun z x n=>(x,n),fun z=>jgs a b,fun z=>jo5,fun z=>top r,fun z=>0,[.c fun vv=>vv.1,.c fun _=>a,.c fun _=>b]⟩
def jyz (a b:List (List Int)) (r:Bool):Sk (top r) (jfc a b) :=
 .brB
 (.obT (.rc))
 (.loop (jo6 a b r) (fun kk=>((0:Int),big)) fun z0 =>
 .br
 (.ob (.ob (.ob (.ob (.call (.brB
 (.exit (.obT (.rc)))
 (.next)))))))
 (.exit (.obT (.rc))))
theorem jwR (a b:List (List Int)) (r:Bool) (h:Option.bind (jfc a b) some=some r):jbg Tryz.f29 ((sp_24 sp0)) (fun gs id _=>match id with
 |0=>some ⟨Int × Nat,fun z=>⟨[(0,.w (.c (.o 0))),(1,.w (.c (.o 1))),(5,.w (.c (.d (.i .i64 z.1))))],[(0,.xext (XC.ii .i64 a)),(1,.xext (XC.ii .i64 b))],2⟩,fun z=>(jo6 a b r).inv z,fun z=>z.2⟩
 |_=>none) (ja8 jlu [.x (.ii .i64 a),.x (.ii .i64 b)]) [.c (.d (.b r))] :=
 Sk.vc (jyz a b r) (by kernel_rfl) h
theorem jwS:jaf Tryz.prog 29 true (jal jlu jlv):=by
 refine jaA (sp:=(sp_24 sp0)) (fn:=Tryz.f29) (body:=bodyOf Tryz.f29) mixed (sp_24_ok jau) Tryz.func29 (by kernel_rfl) (by kernel_rfl) fun ls t h ho b hb=>?_;unfold jlv at h;split at h
 ·rename_i a b;cases h;obtain rfl:=jaM hb;exact⟨Nat.le_of_ble_eq_true (by kernel_rfl),_,_,jwR a b _ (jaq ho)⟩
 ·cases h
theorem sp_29_ok {sp:jaa} (h:jac Tryz.prog sp):jac Tryz.prog (sp_29 sp):=jas jwS h
def jg5:List SV:=[.a [.d,.x (.st [.s,.i .i64,.ints .i64,.ints .i64,.ints .i64,.i .i64,.recs 5,.i .i64] [])]]
def y85 (u1:List (List NC)) (x0:Int × List Int) (r0:List Int × Bool) (x1:(Int × List Int)):Option ((Int × List Int) ⊕ (List Int)) :=
 if x1.1<(↑u1.length:Int)then
  if 0≤List.getD r0.1 x0.1.toNat (0:Int)∧List.getD r0.1 x0.1.toNat 0<(↑u1.length:Int)then
  if Int.toNat (List.getD r0.1 x0.1.toNat (0:Int))<List.length u1 then
   Option.bind (y72 (nS u1 (Int.toNat (List.getD r0.1 x0.1.toNat (0:Int))) (0:Nat)) (nI u1 (Int.toNat (List.getD r0.1 x0.1.toNat (0:Int))) (1:Nat)) (nL u1 (Int.toNat (List.getD r0.1 x0.1.toNat (0:Int))) (2:Nat)) (nL u1 (Int.toNat (List.getD r0.1 x0.1.toNat (0:Int))) (3:Nat)) (nL u1 (Int.toNat (List.getD r0.1 x0.1.toNat (0:Int))) (4:Nat)) (nI u1 (Int.toNat (List.getD r0.1 x0.1.toNat (0:Int))) (5:Nat)) (nR u1 (Int.toNat (List.getD r0.1 x0.1.toNat (0:Int))) (6:Nat)) (nI u1 (Int.toNat (List.getD r0.1 x0.1.toNat (0:Int))) (7:Nat)) x1.1) fun r1 =>
   if(r1)=true then
   if 0≤List.getD r0.1 x0.1.toNat (0:Int)∧List.getD r0.1 x0.1.toNat 0<(↑x1.2.length:Int)then
    if Int.toNat (List.getD r0.1 x0.1.toNat (0:Int))<List.length x1.2 then
    if 0≤x1.1∧x1.1<(↑x1.2.length:Int)then
     if Int.toNat x1.1<List.length x1.2 then
     if 0≤List.getD r0.1 x0.1.toNat (0:Int)∧List.getD r0.1 x0.1.toNat 0<(↑x1.2.length:Int)then
      if Int.toNat (List.getD r0.1 x0.1.toNat (0:Int))<List.length x1.2 then
      some (.inl ((wrap .i64 (x1.1+1),List.set x1.2 (Int.toNat (List.getD r0.1 x0.1.toNat (0:Int))) (if wrap .i64 (List.getD x1.2 x1.1.toNat (0:Int)+1)>List.getD x1.2 (Int.toNat (List.getD r0.1 x0.1.toNat (0:Int))) (0:Int)then wrap .i64 (List.getD x1.2 x1.1.toNat (0:Int)+1)else List.getD x1.2 (Int.toNat (List.getD r0.1 x0.1.toNat (0:Int))) (0:Int)))))
      else none
     else none
     else none
    else none
    else none
   else none
   else
   some (.inl ((wrap .i64 (x1.1+1),x1.2)))
  else none
  else none
 else
  some (.inr x1.2)
def jf2 (x0:Int × List Int) (u35:List Int):Option ((Int × List Int) ⊕ (List Int)) :=
 some (.inl ((wrap .i64 (x0.1+1),u35)))
def y49 (u1:List (List NC)) (r0:List Int × Bool) (x0:(Int × List Int)):Option ((Int × List Int) ⊕ (List Int)) :=
 if x0.1<(↑r0.1.length:Int)then
  if 0≤x0.1∧x0.1<(↑r0.1.length:Int)then
  if Int.toNat x0.1<List.length r0.1 then
   Option.bind (jak (y85 u1 x0 r0) big (((0:Int),x0.2))) (jf2 x0)
  else none
  else none
 else
  some (.inr x0.2)
def y86 (u1:List (List NC)) (u5:List Int) (x2:Int × List (List Int)) (x3:(Int × List Int)):Option ((Int × List Int) ⊕ (List Int)) :=
 if x3.1<(↑u1.length:Int)then
  if 0≤x3.1∧x3.1<(↑u5.length:Int)then
  if Int.toNat x3.1<List.length u5 then
   if(List.getD u5 x3.1.toNat (0:Int)==x2.1)=true then
   if(List.length x3.2+List.length [x3.1])*8≤140737488355328∧List.length x3.2+List.length [x3.1]≤9223372036854775807 then
    some (.inl ((wrap .i64 (x3.1+1),x3.2++[x3.1])))
   else none
   else
   some (.inl ((wrap .i64 (x3.1+1),x3.2)))
  else none
  else none
 else
  some (.inr x3.2)
def jf3 (x2:Int × List (List Int)) (u64:List Int):Option ((Int × List (List Int)) ⊕ (List (List Int))) :=
 if(↑u64.length:Int)>0 then
  if(List.length x2.2+List.length (List.map (fun r=>NC.toInts (List.headD r (NC.d (D.v undef)))) [[NC.r (Cont.ints .i64 u64)]]))*24≤140737488355328∧List.length x2.2+List.length (List.map (fun r=>NC.toInts (List.headD r (NC.d (D.v undef)))) [[NC.r (Cont.ints .i64 u64)]])≤9223372036854775807 then
  some (.inl ((wrap .i64 (x2.1+1),x2.2++List.map (fun r=>NC.toInts (List.headD r (NC.d (D.v undef)))) [[NC.r (Cont.ints .i64 u64)]])))
  else none
 else
  some (.inl ((wrap .i64 (x2.1+1),x2.2)))
def y87 (u1:List (List NC)) (u5:List Int) (x2:(Int × List (List Int))):Option ((Int × List (List Int)) ⊕ (List (List Int))) :=
 if x2.1<(↑u1.length:Int)then
  Option.bind (jak (y86 u1 u5 x2) big (((0:Int),[]))) (jf3 x2)
 else
  some (.inr x2.2)
def jjY (u63:List (List Int)):Option (List (List Int)) :=
 some u63
def y107 (u1:List (List NC)) (u5:List Int):Option (List (List Int)) :=
 Option.bind (jak (y87 u1 u5) big (((0:Int),[]))) (jjY)
def y83 (u4:ByteArray) (u1:List (List NC)):Option (List (List Int)) :=
 Option.bind (y6 u4 u1) fun r0 =>
 if 0≤(↑u1.length:Int)∧(↑u1.length:Int)=(↑u1.length:Int)∧(↑(8:Nat):Int)*(↑u1.length:Int)≤281474976710656∧(↑u1.length:Int)≤9223372036854775807 then
  Option.bind (jak (y49 u1 r0) big (((0:Int),List.replicate (Int.toNat (↑u1.length:Int)) (0:Int)))) (y107 u1)
 else none
def jg6:List Lf→Option GT
 |[.d (.s u4),.x (.st [.s,.i .i64,.ints .i64,.ints .i64,.ints .i64,.i .i64,.recs 5,.i .i64] u1)]=>some (.leaf (ok (y83 u4 u1)) [.c (.m 31 [(3:Nat)] (.ii .i64 ((val (y83 u4 u1)))))])
 |_=>none
abbrev sp_30:jaa→jaa:=jaH 30 true (jal jg5 jg6)
abbrev jf4 (u4:ByteArray) (u1:List (List NC)) (r:List (List Int)):Lp ((Int × List Int) × Nat) (Int × List Int) (List Int) ((List (List Int))) (List (List Int)) :=
 ⟨fun z=>z.1,fun z=>z.2,fun z x n=>(x,n),fun z=>y49 u1 (val (y6 u4 u1)),fun z=>y107 u1,fun z=>top r,fun z=>0,[.c fun _=>0,.c fun _=>Value.slice none (0:Nat) (0:Nat),.c fun vv=>vv.1.1,.c fun _=>u4,.c fun _=>(val (y6 u4 u1)).1,.c fun vv=>vv.1.2,.c fun _=>u1]⟩
abbrev jjZ (u4:ByteArray) (u1:List (List NC)) (r:List (List Int)) (m1:Nat):Lp ((Int × List Int) × Nat × (Int × List Int) × Nat) (Int × List Int) (List Int) (((Int × List Int) ⊕ (List Int))) (List (List Int)) :=
 ⟨fun z=>z.2.2.1,fun z=>z.2.2.2,fun z x n=>(z.1,z.2.1,x,n),fun z=>y85 u1 z.1 (val (y6 u4 u1)),fun z=>jf2 z.1,fun z=>(jf4 u4 u1 r).cx (z.1,m1),fun z=>z.2.1,[.c fun _=>0,.c fun _=>Value.slice none (0:Nat) (0:Nat),.c fun vv=>vv.1.1,.c fun vv=>List.getD (val (y6 u4 u1)).1 vv.1.1.toNat (0:Int),.c fun vv=>vv.2.2.1.1,.c fun _=>u4,.c fun _=>(val (y6 u4 u1)).1,.c fun vv=>vv.2.2.1.2,.c fun _=>u1]⟩
abbrev jf5 (u4:ByteArray) (u1:List (List NC)) (r:List (List Int)):Lp (List Int × (Int × List (List Int)) × Nat) ((Int × List (List Int))) ((List (List Int))) ((List (List Int))) (List (List Int)) :=
 ⟨fun z=>z.2.1,fun z=>z.2.2,fun z x n=>(z.1,x,n),fun z=>y87 u1 z.1,fun z=>jjY,fun z=>top r,fun z=>0,[.c fun _=>0,.c fun vv=>vv.2.1.1,.c fun _=>u4,.c fun vv=>vv.1,.c fun vv=>vv.2.1.2,.c fun _=>u1]⟩
abbrev jj0 (u4:ByteArray) (u1:List (List NC)) (r:List (List Int)) (m1:Nat):Lp (List Int × (Int × List (List Int)) × Nat × (Int × List Int) × Nat) (Int × List Int) (List Int) (((Int × List (List Int)) ⊕ (List (List Int)))) (List (List Int)) :=
 ⟨fun z=>z.2.2.2.1,fun z=>z.2.2.2.2,fun z x n=>(z.1,z.2.1,z.2.2.1,x,n),fun z=>y86 u1 z.1 z.2.1,fun z=>jf3 z.2.1,fun z=>(jf5 u4 u1 r).cx ((z.1,z.2.1,m1)),fun z=>z.2.2.1,[.c fun _=>0,.c fun vv=>vv.2.1.1,.c fun vv=>vv.2.2.2.1.1,.c fun _=>u4,.c fun vv=>vv.1,.c fun vv=>vv.2.1.2,.c fun vv=>vv.2.2.2.1.2,.c fun _=>u1]⟩
def jrr (u4:ByteArray) (u1:List (List NC)) (r:List (List Int)):Sk (top r) (Option.bind (jak (y49 u1 (val (y6 u4 u1))) big (((0:Int),List.replicate (Int.toNat (↑u1.length:Int)) (0:Int)))) (y107 u1)) :=
 .loop (jf4 u4 u1 r) (fun kk=>(((0:Int),List.replicate (Int.toNat (↑u1.length:Int)) (0:Int)),big)) fun z0 =>
 .br
 (.ob (.ob (.loop (jjZ u4 u1 r z0.2) (fun kk=>(z0.1,kk,((0:Int),z0.1.2),big)) fun z1 =>
 .br
 (.ob (.ob (.call (.brB
 (.ob (.ob (.ob (.ob (.ob (.ob (.next)))))))
 (.next)))))
 (.exit (.next)))))
 (.exit (.loopQ (jf5 u4 u1 r) [.c fun _=>0,.c fun vv=>vv.2.1.1,.c fun _=>u4,.c fun vv=>vv.1,.p fun vv=>List.length vv.2.1.2=(0:Nat),.c fun _=>u1] (fun kk=>(z0.1.2,((0:Int),[]),big)) (fun z0 =>
 .br
 (.loopQ (jj0 u4 u1 r z0.2.2) [.c fun _=>0,.c fun vv=>vv.2.1.1,.c fun vv=>vv.2.2.2.1.1,.c fun _=>u4,.c fun vv=>vv.1,.c fun vv=>vv.2.1.2,.p fun vv=>List.length vv.2.2.2.1.2=(0:Nat),.c fun _=>u1] (fun kk=>(z0.1,z0.2.1,kk,((0:Int),[]),big)) (fun z1 =>
 .br
 (.ob (.ob (.brB
 (.ob (.next))
 (.next))))
 (.exit (.br
 (.ob (.next))
 (.next)))) (fun _=>⟨rfl,trivial⟩))
 (.exit (.obT (.rc)))) (fun _=>⟨rfl,trivial⟩)))
def jtj (u4:ByteArray) (u1:List (List NC)) (r:List (List Int)):Sk (top r) (y83 u4 u1) :=
 .call (.ob (jrr u4 u1 r))
theorem jrs (u4:ByteArray) (u1:List (List NC)) (r:List (List Int)) (h:Option.bind (y83 u4 u1) some=some r):jbg Tryz.f30 ((sp_23 (sp_87 sp0))) (fun gs id _=>match id with
 |0=>some ⟨(Int × List Int) × Nat,fun z=>⟨[(1,.w (.c (.p 1 0 1 0))),(3,.w (.c (.o 2))),(5,.w (.c (.o 3))),(6,.w (.c (.d (.v (Value.slice none (0:Nat) (0:Nat)))))),(7,.w (.c (.d (.i .i64 z.1.1))))],[(1,.box 24 [.d (.s u4),.o 0]),(2,.row 3 (.ints .i64 ((val (y6 u4 u1)).1))),(3,.row 3 (.ints .i64 z.1.2)),(0,.xext (XC.st [NK.s,NK.i .i64,NK.ints .i64,NK.ints .i64,NK.ints .i64,NK.i .i64,NK.recs (5:Nat),NK.i .i64] u1))],4⟩,fun z=>(jf4 u4 u1 r).inv z,fun z=>z.2⟩
 |2=>some ⟨(Int × List Int) × Nat × (Int × List Int) × Nat,fun z=>⟨[(1,.w (.c (.p 1 0 1 0))),(3,.w (.c (.o 2))),(5,.w (.c (.o 3))),(6,.w (.c (.d (.v (Value.slice none (0:Nat) (0:Nat)))))),(7,.w (.c (.d (.i .i64 (z.1.1))))),(8,.w (.c (.d (.i .i64 (List.getD (val (y6 u4 u1)).1 z.1.1.toNat (0:Int)))))),(9,.w (.c (.d (.i .i64 z.2.2.1.1))))],[(1,.box 24 [.d (.s u4),.o 0]),(2,.row 3 (.ints .i64 ((val (y6 u4 u1)).1))),(3,.row 3 (.ints .i64 z.2.2.1.2)),(0,.xext (XC.st [NK.s,NK.i .i64,NK.ints .i64,NK.ints .i64,NK.ints .i64,NK.i .i64,NK.recs (5:Nat),NK.i .i64] u1))],4⟩,fun z=>(jjZ u4 u1 r (gs.getD 0 0)).inv z,fun z=>z.2.2.2⟩
 |4=>some ⟨List Int × (Int × List (List Int)) × Nat,fun z=>⟨[(1,.w (.c (.p 1 0 1 0))),(5,.w (.c (.o 2))),(6,.w (.c (.o 3))),(10,.w (.c (.d (.i .i64 z.2.1.1))))],[(1,.box 24 [.d (.s u4),.o 0]),(2,.row 3 (.ints .i64 z.1)),(3,.mrow 31 [(3:Nat)] (XC.ii .i64 z.2.1.2) none),(0,.xext (XC.st [NK.s,NK.i .i64,NK.ints .i64,NK.ints .i64,NK.ints .i64,NK.i .i64,NK.recs (5:Nat),NK.i .i64] u1))],4⟩,fun z=>(jf5 u4 u1 r).inv z,fun z=>z.2.2⟩
 |6=>some ⟨List Int × (Int × List (List Int)) × Nat × (Int × List Int) × Nat,fun z=>⟨[(1,.w (.c (.p 1 0 1 0))),(5,.w (.c (.o 2))),(6,.w (.c (.o 3))),(10,.w (.c (.d (.i .i64 (z.2.1.1))))),(11,.w (.c (.o 4))),(12,.w (.c (.d (.i .i64 z.2.2.2.1.1))))],[(1,.box 24 [.d (.s u4),.o 0]),(2,.row 3 (.ints .i64 z.1)),(3,.mrow 31 [(3:Nat)] (XC.ii .i64 z.2.1.2) none),(4,.row 3 (.ints .i64 z.2.2.2.1.2)),(0,.xext (XC.st [NK.s,NK.i .i64,NK.ints .i64,NK.ints .i64,NK.ints .i64,NK.i .i64,NK.recs (5:Nat),NK.i .i64] u1))],5⟩,fun z=>(jj0 u4 u1 r (gs.getD 0 0)).inv z,fun z=>z.2.2.2.2⟩
 |_=>none) (ja8 jg5 [.d (.s u4),.x (.st [.s,.i .i64,.ints .i64,.ints .i64,.ints .i64,.i .i64,.recs 5,.i .i64] u1)]) [.c (.m 31 [(3:Nat)] (.ii .i64 r))] :=
 Sk.vc (jtj u4 u1 r) (by kernel_rfl) h
theorem jrt:jaf Tryz.prog 30 true (jal jg5 jg6):=by
 refine jaA (sp:=(sp_23 (sp_87 sp0))) (fn:=Tryz.f30) (body:=bodyOf Tryz.f30) mixed (sp_23_ok (sp_87_ok jau)) Tryz.func30 (by kernel_rfl) (by kernel_rfl) fun ls t h ho b hb=>?_;unfold jg6 at h;split at h
 ·rename_i u4 u1;cases h;obtain rfl:=jaM hb;exact⟨Nat.le_of_ble_eq_true (by kernel_rfl),_,_,jrs u4 u1 _ (jaq ho)⟩
 ·cases h
theorem sp_30_ok {sp:jaa} (h:jac Tryz.prog sp):jac Tryz.prog (sp_30 sp):=jas jrt h
end Go.Sh
end

section
open Go.RowKit
namespace Go.Sx
def jl5 (z:C) (cs:List C) (j:Nat):Bool :=
 match z with
 | .d (.i k _)=>(iks k cs).getD j false
 | .d (.b _)=>(bks cs).getD j false
 | .d (.s _)=>(sks cs).getD j false
 |_=>false
def jlw (cs:List C):List C→Nat→Bool
 |[],_=>true
 |z::r,j=>match jl5 z cs j with
  |true=>jlw cs r (j+1)
  |false=>false
def jrF (P:Program) (t:TypeId) (cs:List C) (j:Nat):Bool :=
 match jaz P t with
 |some z=>jlw cs z j
 |none=>false
def jo7 (cs:List C) (j:Nat):List C→Bool
 |[]=>true
 |c::r=>match jl5 c cs j,jpw cs j c with
  |true,some (_,cs')=>jo7 cs' (j+1) r
  |_,_=>false
theorem jyA {z c:C} {cs:List C} {j:Nat} {p:Prop} (h:jps z cs j=some (p,c)) (hb:jl5 z cs j=true):p:=by
 unfold jps at h;unfold jl5 at hb;split at h<;>cases h<;>exact hb
theorem jvB {cs:List C}:∀{zs l:List C} {j:Nat} {p:Prop},jhm cs zs j=some (p,l)→jlw cs zs j=true→p
 |[],l,j,p,h,_=>by
  simp only[jhm,Option.some.injEq,Prod.mk.injEq]at h;exact h.1 ▸ trivial
 |z::r,l,j,p,h,hb=>by
  unfold jhm at h;unfold jlw at hb;split at h
  ·rename_i q c hq;split at hb
   ·rename_i hz;have h1:=jyA hq hz;split at h
    ·cases h;exact h1
    ·split at h
     ·rename_i q2 l2 h2;cases h;exact⟨h1,jvB h2 hb⟩
     ·cases h
   ·cases hb
  ·cases h
theorem jyB {P:Program} {t:TypeId} {cs:List C} {j:Nat} {p:Prop} {v:V} (h:jkl P t cs j=some (p,v)) (hb:jrF P t cs j=true):p:=by
 unfold jkl at h;unfold jrF at hb;split at h
 ·rename_i z _ _ hz;rw[hz]at hb;split at h
  ·rename_i q c hq;cases h;dsimp only[jlw]at hb;split at hb
   ·rename_i h1;exact jyA hq h1
   ·cases hb
  ·cases h
 ·rename_i sz z _ _ hz;rw[hz]at hb;split at h
  ·split at h
   ·rename_i q l hq;cases h;exact jvB hq hb
   ·cases h
  ·cases h
 ·cases h
theorem jCg {c:C} {cs cs':List C} {j:Nat} {p:Prop} (h:jpw cs j c=some (p,cs')) (hb:jl5 c cs j=true):p:=by
 unfold jpw at h;unfold jl5 at hb;split at h<;>cases h<;>exact hb
theorem jvC:∀{ds cs l:List C} {j:Nat} {p:Prop},jlQ cs j ds=some (p,l)→jo7 cs j ds=true→p
 |[],_,_,_,_,h,_=>by cases h
 |c::r,cs,l,j,p,h,hb=>by
  unfold jlQ at h;unfold jo7 at hb;split at h
  ·rename_i q cs' hq;split at hb
   ·rename_i cs2 hz hq2;rw[hq]at hq2;cases hq2;have h1:=jCg hq hz;split at h
    ·cases h;exact h1
    ·split at h
     ·rename_i q2 l2 h2;cases h;exact⟨h1,jvC h2 hb⟩
     ·cases h
   ·cases hb
  ·cases h
def jtk (P:Program) (t:TypeId) (cs:List C) (e j:Nat):Bool :=
 match e with
 |0=>match jkl P t cs j with
  |none=>true
  |some _=>jrF P t cs j
 |_+1=>true
def jwU (P:Program) (t:TypeId) (c:Cont) (i j:Nat):Bool :=
 match c with
 | .frs _ E l=>Nat.blt i l.length&&Nat.blt j E
 | .floats _ l=>match jbp P t,szT P t with
  |some true,some sz=>Nat.ble (i+sz) l.length
  |_,_=>Nat.blt i l.length
 |c=>Nat.blt i c.n
def jwV (P:Program) (t:TypeId) (o:O) (i e j:Nat):Bool :=
 match o with
 | .box _ cs=>jtk P t cs e j
 | .ebox cs=>jtk P t cs e j
 | .arr _ _ E _=>Nat.blt (i*e+j) E
 | .xext X=>Nat.blt i X.n
 | .xrow _ X=>Nat.blt i X.n
 | .mrow _ _ X _=>Nat.blt i X.n
 | .lbox _ _ _ _=>true
 | .lview _ _ _ _=>true
 | .elist _ _ _=>true
 |o=>match o.cont with
  |some c=>jwU P t c i j
  |none=>false
theorem jBn {P:Program} {t:TypeId} {cs:List C} {e j:Nat} {p:Prop} {v:V} (h:jef P t cs e j=some (p,v)) (hb:jtk P t cs e j=true):p:=by
 unfold jef at h;split at h
 ·split at h
  ·rename_i x hx;cases h;unfold jtk at hb;dsimp only at hb;rw[hx]at hb;exact jyB hx hb
  ·cases h
 ·cases h
theorem jba {a b:Nat} (h:Nat.blt a b=true):a<b:=by simpa using h
theorem jvD {P:Program} {t:TypeId} {o:O} {i e j:Nat} {p:Prop} {v:V} (h:jc5 P t o i e j=some (p,v)) (hb:jwV P t o i e j=true):p:=by
 unfold jc5 at h;split at h
 ·rename_i ag sz hag hsz
  have xs:∀(sh:List NK) (l:List (List NC)),Nat.blt i l.length=true→((match(generalizing:=false) ag with
   |true=>none
   |false=>match Nat.beq e sh.length,sh[j]? with
    |true,some (.i k)=>some (i<l.length,vi k (((l.getD i []).getD j (.d (.v undef))).toI))
    |true,some .b=>some (i<l.length,vb (((l.getD i []).getD j (.d (.v undef))).toB))
    |true,some (.f k)=>some (i<l.length,vf k (((l.getD i []).getD j (.d (.v undef))).toF))
    |true,some .s=>some (i<l.length,vs (((l.getD i []).getD j (.d (.v undef))).toS))
    |_,_=>none):Option (Prop × V))=some (p,v)→p:=by
   intro sh l hl h;split at h
   ·cases h
   ·split at h<;>cases h<;>exact jba hl
  have bx:∀cs:List C,jtk P t cs e j=true→((match jef P t cs e j with
   |some x=>some x
   |none=>match(generalizing:=false) ag with
    |true=>if i*e+j+sz≤cs.length then some (True,V.w (.a ((cs.drop (i*e+j)).take sz)))else none
    |false=>(cs[i*e+j]?).map fun c=>(True,V.w (.c c))):Option (Prop × V))=some (p,v)→p:=by
   intro cs hb h;split at h
   ·rename_i x hx;cases h;exact jBn hx hb
   ·split at h
    ·split at h
     ·cases h;trivial
     ·cases h
    ·cases hc:cs[i*e+j]? with
     |none=>simp[hc]at h
     |some c=>simp[hc]at h;exact h.1
  have ct:∀c:Cont,jwU P t c i j=true→((match some c with
   |some (.frs k E l) =>
    match(generalizing:=false) ag with
    |true=>match Nat.beq e E,Nat.beq j 0,Nat.beq sz E with
     |true,true,true=>some (i<l.length,jpq k E (l.getD i []))
     |_,_,_=>none
    |false=>match Nat.beq e E with
     |true=>some (i<l.length∧j<E,vf k ((l.getD i []).getD j 0))
     |false=>none
   |some (.floats k l) =>
    match Nat.beq e 1,Nat.beq j 0 with
    |true,true=>match(generalizing:=false) ag with
     |true=>some (i+sz≤l.length,jpq k sz ((l.drop i).take sz))
     |false=>some (i<l.length,vf k (l.getD i 0))
    |_,_=>none
   |some c =>
    match(generalizing:=false) ag with
    |true=>if e=c.e∧j+sz≤e then some (i<c.n,V.w (.a ((List.range sz).map fun m=>C.d (c.cell i (j+m)))))else none
    |false=>if e=c.e∧j<e then some (i<c.n,V.w (.c (.d (c.cell i j))))else none
   |none=>none):Option (Prop × V))=some (p,v)→p:=by
   intro c hb h;unfold jwU at hb;cases c with
   |frs k E l =>
    simp only[Bool.and_eq_true]at hb;dsimp only at h;split at h
    ·split at h
     ·cases h;exact jba hb.1
     ·cases h
    ·split at h
     ·cases h;exact⟨jba hb.1,jba hb.2⟩
     ·cases h
   |floats k l =>
    dsimp only at h hb;rw[hag,hsz]at hb;split at h
    ·cases ag with
     |true=>cases h;exact Nat.le_of_ble_eq_true hb
     |false=>cases h;exact jba hb
    ·cases h
   |_ =>
    dsimp only at h hb;split at h
    ·split at h
     ·cases h;exact jba hb
     ·cases h
    ·split at h
     ·cases h;exact jba hb
     ·cases h
  cases o with
  |box ty cs=>exact bx cs hb h
  |ebox cs=>exact bx cs hb h
  |arr ty k E r =>
   dsimp only at h;split at h
   ·split at h
    ·cases h;trivial
    ·cases h
   ·cases h;exact jba hb
  |xext X =>
   cases X with
   |st sh l=>exact xs sh l hb h
   |_=>cases h
  |xrow ty X =>
   cases X with
   |st sh l=>exact xs sh l hb h
   |_=>cases h
  |mrow ty ts X ho =>
   cases ho with
   |none =>
    cases X with
    |st sh l=>exact xs sh l hb h
    |_=>cases h
   |some x=>cases X<;>cases h
  |lbox ty E n cs =>
   dsimp only at h;split at h
   ·split at h
    ·split at h
     ·cases h;trivial
     ·cases h
    ·cases hc:cs[i*e+j]? with
     |none=>simp[hc]at h
     |some c=>simp[hc]at h;exact h.1
   ·cases h
  |lview r E n cs =>
   dsimp only at h;split at h
   ·split at h
    ·split at h
     ·cases h;trivial
     ·cases h
    ·cases hc:cs[i*e+j]? with
     |none=>simp[hc]at h
     |some c=>simp[hc]at h;exact h.1
   ·cases h
  |elist E n cs =>
   dsimp only at h;split at h
   ·split at h
    ·split at h
     ·cases h;trivial
     ·cases h
    ·cases hc:cs[i*e+j]? with
     |none=>simp[hc]at h
     |some c=>simp[hc]at h;exact h.1
   ·cases h
  |row ty c=>exact ct c hb h
  |ext c=>exact ct c hb h
  |view r c fl=>exact ct c hb h
  |rrow c=>exact ct c hb h
  |fext c=>exact ct c hb h
  |sub r i0 e0 j0 t0 c=>exact ct c hb h
  |_=>cases h
 ·cases h
end Go.Sx
end

section
open Go.RowKit
namespace Go.Sx
def jjH (l m:Option Int) (n:Int):Bool:=decide (0≤l.getD 0∧l.getD 0≤m.getD n∧m.getD n≤n)
def jiK (o:O) (y:Option V) (i e j:Nat):Bool :=
 match o with
 | .box _ cs=>match e with
  |0=>match y with
   |some (.w u)=>jo7 cs j u.cells
   |_=>false
  |_+1=>true
 | .arr _ _ E _=>Nat.blt (i*e+j) E
 | .row _ (.frs _ E l)=>Nat.blt i l.length&&Nat.blt j E
 | .row _ c=>Nat.blt i c.n
 | .xrow _ X=>Nat.blt i X.n
 | .mrow _ _ X ho=>match ho with
  |none=>Nat.blt i X.n
  |some (i0,_)=>Nat.beq i i0&&Nat.blt i X.n
 | .sub _ _ _ _ _ c=>Nat.blt i c.n
 | .lbox _ _ _ _=>true
 |_=>false
def jcH (hp:Hp) (v:Option V):Option Nat :=
 match v with
 |some (.w (.c (.o h)))=>match find hp h with
  |some o=>match o.cont with
   |some c=>some c.n
   |none=>match o.xc with
    |some X=>some X.n
    |none=>match o.lst with
     |some (_,n,_)=>some n
     |none=>none
  |none=>none
 |some (.w (.c (.d (.v (.slice none 0 0)))))=>some 0
 |_=>none
def obB (P:Program) (op:Op) (rd:Operand→Option V) (hp:Hp):Bool :=
 match op with
 | .binOp op _ x y _=>match(rd x).bind V.int?,(rd y).bind V.int? with
  |some _,some (_,b)=>(match op with
   | .quo=>!(decide (b=0))
   | .rem=>!(decide (b=0))
   | .shl=>decide (0≤b)
   | .shr=>decide (0≤b)
   |_=>true)
  |_,_=>false
 | .convert _ dst x=>match(rd x).bind V.flt? with
  |some (s,b)=>match P.underlying dst with
   |some (.int k)=>jn1 s k b
   |_=>false
  |none=>match(rd x).bind V.int? with
   |some _=>true
   |none=>false
 | .index t x i=>match rd x,(rd i).bind V.int? with
  |some v,some (_,n)=>match v.str?,P.underlying t with
   |some s,_=>decide (0≤n∧n<(s.size:Int))
   |none,some (.array len elem)=>decide (0≤n∧n<(len:Int))&&(match v.agg?,szT P elem with
    |some cs,some size=>isK i||(match jkl P elem cs (n.toNat*size)with
     |none=>true
     |some _=>jrF P elem cs (n.toNat*size))
    |_,_=>true)
   |none,_=>false
  |_,_=>false
 | .indexAddr t x ix=>match(rd ix).bind V.int? with
  |some (_,n)=>match P.underlying t with
   |some (.array len _)=>decide (0≤n∧n<(len:Int))
   |some (.slice _)=>match jcH hp (rd x)with
    |some m=>decide (0≤n∧n<(m:Int))
    |none=>false
   |_=>false
  |none=>false
 | .load t x=>match rd x with
  |some (.w (.c (.p h i e j)))=>match find hp h with
   |some o=>jwV P t o i e j
   |none=>false
  |_=>false
 | .store _ x y=>match rd x with
  |some (.w (.c (.p h i e j)))=>match find hp h with
   |some o=>jiK o (rd y) i e j
   |none=>false
  |_=>false
 | .slice t x lo hi none=>match jaI rd lo,jaI rd hi with
  |some l,some m=>match P.underlying t with
   |some .string=>match(rd x).bind V.str? with
    |some s=>jjH l m (s.size:Int)
    |none=>false
   |some (.array n _)=>match rd x with
    |some (.w (.c (.p h _ _ _)))=>match find hp h with
     |some (.arr _ _ _ r)=>Nat.beq r.length n&&jjH l m (n:Int)
     |some (.box _ _)=>true
     |_=>false
    |_=>false
   |some (.slice _)=>match jcH hp (rd x)with
    |some n=>jjH l m (n:Int)
    |none=>false
   |_=>false
  |_,_=>false
 | .slice _ x lo (some hi) (some mx)=>match jaI rd lo,(rd hi).bind V.int?,(rd mx).bind V.int?,jcH hp (rd x)with
  |some l,some (_,m),some (_,q),some n=>decide (0≤l.getD 0∧l.getD 0≤m∧m≤q∧q≤(n:Int))
  |_,_,_,_=>false
 | .makeSlice t l c=>match P.underlying t,(rd l).bind V.int?,(rd c).bind V.int? with
  |some (.slice elem),some (_,n),some (_,m)=>match jaP P elem with
   |some b=>decide (0≤n∧n=m∧(b:Int)*n≤281474976710656∧n≤9223372036854775807)
   |none=>false
  |_,_,_=>false
 | .call c=>match c.callee,c.args.toList,c.argTypes.toList with
  | .builtin .append,[s,x],[t,_]=>match P.underlying t,jcH hp (rd s),jcH hp (rd x)with
   |some (.slice elem),some n,some m=>match jaP P elem with
    |some b=>Nat.ble ((n+m)*b) 140737488355328&&Nat.ble (n+m) 9223372036854775807&&(match jiZ hp (rd s)with
     |some c1=>Nat.blt 0 c1.n&&Nat.blt 0 m
     |none=>true)
    |none=>false
   |_,_,_=>false
  |_,_,_=>false
 |_=>false
section
variable [Globs] {P:Program} {rd:Operand→Option V} {hp:Hp} {nx:Nat}
theorem jBo {v:V} {x y} (h:v.int?=some x) (k:v.str?=some y):False:=by
 unfold V.int? at h;split at h
 ·cases k
 ·cases h
theorem jfL {h:Nat} {c:Cont} {n:Nat} {v:Option V} (hv:v=some (.w (.c (.o h)))) (hc:(find hp h).bind O.cont=some c) (hn:jcH hp v=some n):n=c.n:=by
 subst hv;unfold jcH at hn;cases ho:find hp h with
 |none=>simp[ho]at hc
 |some o =>
  simp only[ho,Option.bind_some]at hc;simp only[ho,hc,Option.some.injEq]at hn;exact hn.symm
theorem jl6 {h:Nat} {X:XC} {n:Nat} {v:Option V} (hv:v=some (.w (.c (.o h)))) (hc:(find hp h).bind O.xc=some X) (hn:jcH hp v=some n):n=X.n:=by
 subst hv;unfold jcH at hn;cases ho:find hp h with
 |none=>simp[ho]at hc
 |some o =>
  simp only[ho,Option.bind_some]at hc;have hcn:o.cont=none:=by cases o<;>simp[O.xc]at hc<;>rfl
  simp only[ho,hcn,hc,Option.some.injEq]at hn;exact hn.symm
theorem jjI {h:Nat} {e m:Nat} {cs:List C} {n:Nat} {v:Option V} (hv:v=some (.w (.c (.o h)))) (hc:(find hp h).bind O.lst=some (e,m,cs)) (hn:jcH hp v=some n):n=m:=by
 subst hv;unfold jcH at hn;cases ho:find hp h with
 |none=>simp[ho]at hc
 |some o =>
  simp only[ho,Option.bind_some]at hc;have hcn:o.cont=none∧o.xc=none:=by cases o<;>simp[O.lst]at hc<;>exact⟨rfl,rfl⟩
  simp only[ho,hcn,hc,Option.some.injEq]at hn;exact hn.symm
theorem jyC {h:Nat} {X:XC} {v:Option V} (hv:v=some (.w (.c (.o h)))) (hc:(find hp h).bind O.hole=some X):jcH hp v=none:=by
 subst hv;unfold jcH;cases hf:find hp h with
 |none=>simp[hf]at hc
 |some o =>
  simp only[hf,Option.bind_some]at hc
  have hcn:o.cont=none∧o.xc=none∧o.lst=none:=by
   cases o with
   |mrow ty ts X q=>cases q with
    |none=>cases hc
    |some _=>exact⟨rfl,rfl,rfl⟩
   |_=>cases hc
  simp only[hf,hcn.1,hcn.2.1,hcn.2.2]
theorem jz9 {op:BinOp} {k k':IntKind} {m n:Int} {ob:Prop} {v:V} (ht:(match op with
   | .quo=>!(decide (n=0))
   | .rem=>!(decide (n=0))
   | .shl=>decide (0≤n)
   | .shr=>decide (0≤n)
   |_=>true)=true) (h:jfv op k m k' n=some (ob,v)):ob:=by
 unfold jfv at h;split at h
 ·cases h;simpa using ht
 ·cases h;simpa using ht
 ·split at h
  ·split at h<;>first|(cases h;trivial)|(cases h;simpa using ht)|cases h
  ·cases h
theorem jyD {op:Op} {ob:Prop} {v:V} (ht:obB P op rd hp=true) (h:jaZ P op rd hp=some (ob,v)):ob:=by
 unfold obB at ht;unfold jaZ at h;cases op with
 |binOp op t x y yt =>
  dsimp only at h ht;split at ht
  ·rename_i ka k' b hx hy;split at h
   ·rename_i u v' hu hv;simp only[hu,hv,Option.bind_some]at hx hy;rw[hx,hy]at h;obtain⟨k,a⟩:=ka;exact jz9 ht h
   ·cases h
  ·cases ht
 |convert s d x =>
  dsimp only at h ht;cases hx:rd x with
  |none=>simp[hx]at h
  |some u =>
   simp only[hx,Option.bind_some]at h ht;unfold jrA at h;split at h
   ·cases h;trivial
   ·cases h;trivial
   ·rename_i s' b hu hd hf;cases h;rw[hf]at ht;dsimp only at ht;rw[hd]at ht;exact ht
   ·cases h
 |index t x i =>
  dsimp only at h ht;split at ht
  ·rename_i u k n hx hi;simp only[hx,Option.bind_some]at h;split at ht
   ·rename_i s hs;rw[hs,hi]at h;split at h
    ·rename_i s2 k2 n2 h1 h2 h3;cases h1;cases h3;cases h;simpa using ht
    ·cases h
    ·rename_i h0;cases h0
   ·rename_i len elem hs hut;rw[hs,hut,hi]at h;simp only[Bool.and_eq_true,decide_eq_true_eq]at ht;split at h
    ·rename_i h0 _ _;cases h0
    ·cases h
    ·split at h
     ·rename_i len' elem' cs k' n' h1 h2 h3;cases h1;cases h3;rw[h2]at ht;split at h
      ·rename_i size hsz;rw[hsz]at ht;simp only[Bool.or_eq_true]at ht;split at h
       ·rename_i p v' hk hsel;cases h;rw[hk,hsel]at ht;exact⟨ht.1,jyB hsel (by simpa using ht.2)⟩
       ·generalize jbR P elem cs _=q at h
        cases q with
        |none=>simp at h
        |some v'=>simp at h;rw[←h.1];exact ht.1
      ·cases h
     ·cases h
   ·cases ht
  ·cases ht
 |indexAddr t x ix =>
  dsimp only at h ht;split at ht
  ·rename_i k n hi;rw[hi]at h;split at h
   ·rename_i len elem h' i e j k2 n2 hut hx hn;cases hn;rw[hut]at ht;simp only[decide_eq_true_eq]at ht;split at h
    ·split at h<;>(cases h;exact ht)
    ·cases h
   ·rename_i elem h' k2 n2 hut hx hn;cases hn;rw[hut]at ht;dsimp only at ht;split at h
    ·rename_i c size hc hsz;split at h
     ·cases h;split at ht
      ·rename_i m hm;rw[jfL hx hc hm]at ht;simpa using ht
      ·cases ht
     ·cases h
    ·cases h
   ·cases h
  ·cases ht
 |load t x =>
  dsimp only at h ht;split at h
  ·rename_i h' i e j hx;rw[hx]at ht;dsimp only at ht;split at h
   ·rename_i o ho;rw[ho]at ht;exact jvD h ht
   ·cases h
  ·cases h
 |call c =>
  dsimp only at h ht;split at ht
  ·rename_i hc ha hat;rw[hc]at h;simp at h
  ·cases ht
 |slice t x lo hi mx=>cases h
 |store t x y=>cases h
 |makeSlice t l c=>cases h
 |_=>cases ht
end
end Go.Sx
end

section
open Go.RowKit
namespace Go.Sx
section
variable [Globs] {P:Program} {rd:Operand→Option V} {hp:Hp} {nx:Nat} {sp:jaa}
theorem jAQ {op:Op} {ob:Prop} {v:V} (ht:obB P op rd hp=true) (h:jfi P op rd hp=some (ob,v)):ob:=by
 unfold obB at ht;unfold jfi at h;cases op with
 |binOp op t x y yt =>
  dsimp only at h ht;split at ht
  ·rename_i ka k' b hx hy;split at h
   ·rename_i u u' hu hu';simp only[hu,hu',Option.bind_some]at hx hy;split at h
    ·rename_i a b hs hs';exact(jBo hx hs).elim
    ·split at h
     ·unfold jn2 at h;cases op<;>simp at h<;>exact h.1
     ·split at h
      ·unfold jfw at h;cases op<;>simp at h<;>exact h.1
      ·cases h
   ·cases h
  ·cases ht
 |slice t x lo hi mx =>
  cases mx with
  |some mx=>simp at h
  |none =>
   dsimp only at h ht;split at h
   ·rename_i s l m hut hx hl hm;cases h;rw[hl,hm,hut,hx]at ht;simpa [jjH]using ht
   ·cases h
 |convert s d x =>
  dsimp only at h;split at h
  ·split at h
   ·cases h;trivial
   ·cases h
  ·cases h
 |index t x i =>
  dsimp only at h ht;split at h
  ·rename_i k E r hx;split at h
   ·rename_i len elem k2 n hut hi;rw[hx,hi,hut]at ht;simp only[V.str?,Bool.and_eq_true,decide_eq_true_eq]at ht;split at h
    ·cases h;exact ht.1
    ·cases h
   ·cases h
  ·cases h
 |sliceToArrayPointer t x=>cases ht
 |nilCheck x=>cases ht
 |fieldAddr s x f=>cases ht
 |indexAddr t x ix =>
  dsimp only at h ht;split at ht
  ·rename_i k n hi;rw[hi]at h;split at h
   ·rename_i len elem h' e k2 n2 hut hx hn;cases hn;rw[hut]at ht;simp only[decide_eq_true_eq]at ht;split at h
    ·split at h
     ·cases h;exact ht
     ·cases h
    ·cases h
   ·rename_i elem h' k2 n2 hut hx hn;cases hn;rw[hut]at ht;dsimp only at ht;split at h
    ·rename_i X size hc hsz;split at h
     ·cases h;split at ht
      ·rename_i m hm;rw[jl6 hx hc hm]at ht;simpa using ht
      ·cases ht
     ·cases h
    ·rename_i size hc hsz;split at h
     ·rename_i e m cs hl;split at h
      ·cases h;split at ht
       ·rename_i m' hm;rw[jjI hx hl hm]at ht;simpa using ht
       ·cases ht
      ·cases h
     ·split at h
      ·rename_i X hX;rw[jyC hx hX]at ht;cases ht
      ·cases h
    ·cases h
   ·cases h
  ·cases ht
 |load t x =>
  dsimp only at h ht;split at h
  ·rename_i hx;rw[hx]at ht;cases ht
  ·cases h
 |call c =>
  dsimp only at h ht;split at ht
  ·rename_i hc ha hat;rw[hc]at h;simp at h
  ·cases ht
 |_=>simp at h
theorem bR_ob {op:Op} {r:Res} (ht:obB P op rd hp=true) (h:jc7 P op rd hp nx=some r):r.ob:=by
 unfold obB at ht;unfold jc7 at h;cases op with
 |slice t x lo hi mx =>
  split at h
  ·rename_i t2 x2 hi2 mx2 he;cases he;dsimp only at ht;split at h
   ·split at h
    ·rename_i elem h' k m k' q hut hx hm hq;split at h
     ·rename_i c e hf hs;split at h
      ·cases h;split at ht
       ·rename_i l m' k1 q' k2 n hl hm' hq' hn;rw[hm]at hm';rw[hq]at hq';cases hm';cases hq';simp only[jaI,Option.some.injEq]at hl;subst hl;rw[jfL (c:=c) hx (by rw[hf];rfl) hn]at ht;simp only[Option.getD_none,decide_eq_true_eq]at ht;exact⟨ht.2.1,ht.2.2⟩
       ·cases ht
      ·cases h
     ·cases h
    ·cases h
   ·cases h
  ·rename_i t2 x2 lo2 he;cases he;dsimp only at ht;split at h
   ·split at h
    ·rename_i elem h' k l hut hx hl;split at h
     ·rename_i c e hf hs;split at h
      ·cases h;split at ht
       ·rename_i l' m hl' hm;rw[hut]at ht;dsimp only at ht;split at ht
        ·rename_i n hn
         have hcn:(find hp h').bind O.cont=some c:=by
          cases ho:find hp h' with
          |none=>simp[ho]at hf
          |some o =>
           simp only[ho,Option.bind_some]at hf ⊢;cases o<;>simp[jeN]at hf<;>simpa [O.cont]using hf
         rw[jfL hx hcn hn]at ht;simp only[jaI]at hl' hm;rw[hl]at hl';cases hl';cases hm;simp only[jjH,Option.getD_some,Option.getD_none,decide_eq_true_eq]at ht;exact⟨ht.1,ht.2.1⟩
        ·cases ht
       ·cases ht
      ·cases h
     ·cases h
    ·cases h
   ·cases h
  ·cases h
 |_=>simp at h
theorem bN_ob {op:Op} {r:Res} (ht:obB P op rd hp=true) (h:jdF P op rd hp nx=some r):r.ob:=by
 unfold obB at ht;unfold jdF at h;cases op with
 |makeSlice t l c =>
  dsimp only at h ht;split at h
  ·rename_i elem k n k' m hut hn hm;rw[hut,hn,hm]at ht;dsimp only at ht;split at h
   ·rename_i X0 z b e h1 h2 h3 h4;rw[h3]at ht;split at h
    ·cases h;simpa using ht
    ·cases h
   ·cases h
  ·cases h
 |buildSlice t n ps=>cases ht
 |store t x y =>
  dsimp only at h ht;split at h
  ·rename_i k i e j u hx hy;rw[hx]at ht;dsimp only at ht;split at h
   ·rename_i ty X sz hf hs;rw[hf]at ht;have ht:=jba (show Nat.blt i X.n=true from ht);split at h
    ·split at h
     ·split at h
      ·cases h;exact ht
      ·cases h
     ·split at h
      ·split at h
       ·cases h;exact ht
       ·cases h
      ·cases h
    ·cases h
   ·cases h
  ·cases h
 |call c =>
  dsimp only at h ht;split at h
  ·rename_i s x t t' hc ha hat;rw[hc,ha,hat]at ht;dsimp only at ht;split at h
   ·rename_i elem hb hut;rw[hut]at ht;split at h
    ·rename_i X0 z e b h1 h2 h3 h4;split at h
     ·rename_i hs ty X1 hx ty' X2 g1 g2;split at ht
      ·rename_i elem' n m he hn hm;cases he;rw[h4]at ht;simp only[Bool.and_eq_true]at ht
       have len:∀{v:Option V} {hs:Option Nat} {ty n:Nat} {X:XC},v.bind (xOf hp X0)=some (hs,ty,X)→jcH hp v=some n→n=X.n∨X=X0:=by
        intro v hs ty n X hv hn;cases v with
        |none=>cases hv
        |some v =>
         simp only[Option.bind_some]at hv;unfold xOf at hv;split at hv
         ·split at hv
          ·rename_i ty2 X2 hf;cases hv;exact .inl (jl6 (X:=X) rfl (by rw[hf];rfl) hn)
          ·cases hv
         ·cases hv;exact .inr rfl
         ·cases hv
       have h0:X0.n=0:=by
        unfold xcT at h1;split at h1
        ·split at h1
         ·split at h1<;>cases h1;rfl
         ·split at h1<;>cases h1<;>rfl
         ·cases h1
        ·cases h1
       have l1:X1.n≤n:=(len g1 hn).elim (fun e=>Nat.le_of_eq e.symm) fun e=>by rw[e,h0];exact Nat.zero_le _
       have l2:X2.n≤m:=(len g2 hm).elim (fun e=>Nat.le_of_eq e.symm) fun e=>by rw[e,h0];exact Nat.zero_le _
       split at h
       ·cases h;have a1:=Nat.le_of_ble_eq_true ht.1.1;have a2:=Nat.le_of_ble_eq_true ht.1.2;exact⟨Nat.le_trans (Nat.mul_le_mul_right b (Nat.add_le_add l1 l2)) a1,Nat.le_trans (Nat.add_le_add l1 l2) a2⟩
       ·cases h
      ·cases ht
     ·cases h
    ·cases h
   ·cases h
  ·cases h
 |_=>simp at h
end
end Go.Sx
end

section
open Go.RowKit
namespace Go.Sx
section
variable [Globs] {P:Program} {rd:Operand→Option V} {hp:Hp} {nx:Nat} {sp:jaa}
theorem jiL {h:Nat} {o:O} {n:Nat} {v:Option V} (hv:v=some (.w (.c (.o h)))) (hf:find hp h=some o) (hn:jcH hp v=some n):(∀c,o.cont=some c→n=c.n)∧(∀X,o.xc=some X→n=X.n) :=
 ⟨fun c hc=>jfL hv (by rw[hf];exact hc) hn,fun X hX=>jl6 hv (by rw[hf];exact hX) hn⟩
theorem jjJ {z:List D} {v:Option V} {hx:Option Nat} {cx:Option Cont} {c2:Cont} {m:Nat} (g:v.bind (jb7 hp)=some (hx,cx)) (hc:jcl z cx=some c2) (hm:jcH hp v=some m):c2.n=m:=by
 cases v with
 |none=>cases g
 |some v =>
  simp only[Option.bind_some]at g;unfold jb7 at g;split at g
  ·rename_i h2;cases hc':(find hp h2).bind O.cont with
   |none=>simp[hc']at g
   |some c' =>
    simp[hc']at g;obtain⟨_,rfl⟩:=g;simp only[jcl,Option.some.injEq]at hc;subst hc;exact(jfL rfl hc' hm).symm
  ·cases g;simp only[jcH,Option.some.injEq]at hm;rw[(jcX (show jdB z []=some c2 from hc)).2.1,←hm];rfl
  ·cases g
theorem bX_ob {op:Op} {r:Res} (ht:obB P op rd hp=true) (h:jdE P op rd hp nx=some r):r.ob:=by
 unfold obB at ht;unfold jdE at h;cases op with
 |box elem x=>cases ht
 |alloc elem=>cases ht
 |buildSlice t n ps=>cases ht
 |slice t x lo hi mx =>
  cases mx with
  |none =>
   dsimp only at h ht;split at h
   ·rename_i n elem h' l m hut hx hl hm;rw[hl,hm,hut]at ht;dsimp only at ht;rw[hx]at ht;dsimp only at ht;split at h
    ·rename_i ty k E r' hf hs;rw[hf]at ht;split at h
     ·cases h;simp only[Bool.and_eq_true,jjH,decide_eq_true_eq]at ht;exact⟨Nat.eq_of_beq_eq_true ht.1,ht.2⟩
     ·cases h
    ·cases h
   ·rename_i elem h' l m hut hx hl hm;rw[hl,hm,hut]at ht;dsimp only at ht;split at h
    ·rename_i X sz hf hs;split at ht
     ·rename_i n hn;rw[(jiL hx hf hn).2 X rfl]at ht;split at h
      ·cases h;simpa [jjH]using ht
      ·cases h
     ·cases ht
    ·cases h
   ·cases h
  |some mx =>
   cases hi with
   |none=>cases h
   |some hi =>
    dsimp only at h ht;split at h
    ·rename_i elem h' l k m k' q hut hx hl hm hq;split at h
     ·rename_i o e hf hs;split at h
      ·rename_i c hc;split at h
       ·cases h;split at ht
        ·rename_i l' k1 m' k2 q' n hl' hm' hq' hn;rw[hl]at hl';rw[hm]at hm';rw[hq]at hq';cases hl';cases hm';cases hq';rw[(jiL hx hf hn).1 c hc]at ht;simpa using ht
        ·cases ht
       ·cases h
      ·cases h
     ·cases h
    ·cases h
 |load t x =>
  dsimp only at h ht;split at h
  ·rename_i h' i e j hx;rw[hx]at ht;dsimp only at ht;split at h
   ·rename_i b X hb;cases hf:find hp h' with
    |none=>simp[hf]at hb
    |some o =>
     rw[hf]at ht;simp only[hf,Option.bind_some]at hb
     have ht:i<X.n:=by
      cases o<;>simp[O.xk]at hb<;>(obtain⟨_,rfl⟩:=hb;exact jba ht)
     split at h
     ·split at h
      ·cases h;exact ht
      ·cases h
     ·split at h
      ·split at h
       ·cases h;exact ht
       ·cases h
      ·cases h
     ·cases h
   ·cases h
  ·cases h
 |store t x y =>
  dsimp only at h ht;split at h
  ·rename_i h' i e j k v hx hy;rw[hx]at ht;dsimp only at ht;split at h
   ·rename_i ty k' E r' _ _ hf;rw[hf]at ht;split at h
    ·cases h;exact jba ht
    ·cases h
   ·rename_i ty k' E l _ _ hf;rw[hf]at ht;simp only[jiK,Bool.and_eq_true]at ht;split at h
    ·cases h;exact⟨jba ht.1,jba ht.2⟩
    ·cases h
   ·cases h
  ·rename_i h' i e k E' v hx hy;rw[hx]at ht;dsimp only at ht;split at h
   ·split at h
    ·cases h;trivial
    ·cases h
   ·rename_i ty k' E l _ _ hf;rw[hf]at ht;simp only[jiK,Bool.and_eq_true]at ht;split at h
    ·cases h;exact jba ht.1
    ·cases h
   ·cases h
  ·split at h
   ·split at h
    ·split at h
     ·cases h;trivial
     ·cases h
    ·cases h
   ·cases h
  ·cases h
 |makeMap t r=>cases r<;>cases ht
 |lookup t x i ok=>cases ht
 |mapUpdate t m i y=>cases ht
 |_=>simp at h
theorem bM_ob {op:Op} {r:Res} (ht:obB P op rd hp=true) (h:jdG P op rd hp nx=some r):r.ob:=by
 unfold obB at ht;unfold jdG at h;cases op with
 |makeSlice t l c =>
  dsimp only at h ht;split at h
  ·rename_i elem k n k' m _ hut hn hm;rw[hut,hn,hm]at ht;dsimp only at ht;split at h
   ·rename_i X0 z b e ts h1 h2 h3 h4 h5;rw[h3]at ht;split at h
    ·cases h;simpa using ht
    ·cases h
   ·cases h
  ·cases h
 |buildSlice t n ps=>cases ht
 |load t x =>
  dsimp only at h ht;split at h
  ·rename_i h' i e j hx;rw[hx]at ht;dsimp only at ht;split at h
   ·rename_i ty ts X hf;rw[hf]at ht;have ht:i<X.n:=jba ht;split at h
    ·split at h
     ·cases h;exact ht
     ·cases h
    ·split at h
     ·split at h
      ·cases h;exact ht
      ·cases h
     ·cases h
    ·cases h
   ·cases h
  ·cases h
 |store t x y =>
  dsimp only at h ht;split at h
  ·rename_i h' i e j u hx hy;rw[hx]at ht;dsimp only at ht;split at h
   ·rename_i ty ts X ho sz hf hs;rw[hf]at ht;split at h
    ·split at h
     ·split at h
      ·split at h
       ·cases h;exact jba ht
       ·cases h
      ·cases h
     ·split at h
      ·split at h
       ·split at h
        ·cases h;exact jba ht
        ·rename_i i0 j0;split at h
         ·cases h;simp only[jiK,Bool.and_eq_true]at ht;exact⟨Nat.eq_of_beq_eq_true ht.1,jba ht.2⟩
         ·cases h
       ·cases h
      ·cases h
    ·cases h
   ·rename_i r0 i0 e0 j0 t0 c sz hf hs;rw[hf]at ht;have ht:i<c.n:=jba ht;split at h
    ·split at h
     ·split at h
      ·split at h
       ·cases h;exact ht
       ·cases h
      ·cases h
     ·cases h
    ·cases h
   ·cases h
  ·cases h
 |call c =>
  dsimp only at h ht;split at h
  ·rename_i s x t t' hc ha hat;rw[hc,ha,hat]at ht;dsimp only at ht;split at h
   ·rename_i elem hb hut;rw[hut]at ht;split at ht
    ·rename_i elem' n m he hn hm;cases he;split at ht
     ·rename_i b h4;simp only[Bool.and_eq_true]at ht;have a1:=Nat.le_of_ble_eq_true ht.1.1;have a2:=Nat.le_of_ble_eq_true ht.1.2
      have fin:∀{x y:Nat},x≤n→y≤m→(x+y)*b≤140737488355328∧x+y≤9223372036854775807:=fun l1 l2 =>
       ⟨Nat.le_trans (Nat.mul_le_mul_right b (Nat.add_le_add l1 l2)) a1,Nat.le_trans (Nat.add_le_add l1 l2) a2⟩
      have MA:∀{r},jfz P t elem (rd s) (rd x) hp nx=some r→r.ob:=by
       intro r h;unfold jfz at h;split at h
       ·rename_i X0 z e b' ts h0 h1 h2 h3 h4' h5;rw[h4]at h4';cases h4'
        have h0:X0.n=0:=by
         unfold xcT at h1;split at h1
         ·split at h1
          ·split at h1<;>cases h1;rfl
          ·split at h1<;>cases h1<;>rfl
          ·cases h1
         ·cases h1
        have len:∀{v:Option V} {hs:Option Nat} {ty n:Nat} {ts:List Nat} {X:XC},v.bind (mOf hp X0)=some (hs,ty,ts,X)→jcH hp v=some n→X.n≤n:=by
         intro v hs ty n ts X hv hn;cases v with
         |none=>cases hv
         |some v =>
          simp only[Option.bind_some]at hv;unfold mOf at hv;split at hv
          ·split at hv
           ·rename_i ty2 ts2 X2 hf;cases hv;exact Nat.le_of_eq (jl6 (X:=X) rfl (by rw[hf];rfl) hn).symm
           ·cases hv
          ·cases hv;rw[h0];exact Nat.zero_le _
          ·cases hv
        split at h
        ·rename_i hs ty t1 X1 hx ty' t2 X2 g1 g2;split at h
         ·cases h;exact fin (len g1 hn) (len g2 hm)
         ·cases h
        ·cases h
       ·cases h
      split at h
      ·rename_i hs0 hobj;split at h
       ·rename_i r0 i0 e0 j0 t0 c1 hf;split at h
        ·rename_i hx cx z e b' ty ts X g1 g2 g3 g4 g5;rw[h4]at g4;cases g4;split at h
         ·rename_i c2 hc2;split at h
          ·split at h
           ·cases h
            have hs':rd s=some (.w (.c (.o hs0))):=by
             cases hrs:rd s with
             |none=>simp[hrs]at hobj
             |some v =>
              simp only[hrs,Option.bind_some]at hobj;unfold V.obj? at hobj;split at hobj
              ·cases hobj;rfl
              ·cases hobj
            have l1:c1.n≤n:=Nat.le_of_eq ((jiL hs' hf hn).1 c1 rfl).symm;have l2:c2.n≤m:=Nat.le_of_eq (jjJ g1 hc2 hm);exact fin l1 l2
           ·cases h
          ·cases h
         ·cases h
        ·cases h
       ·exact MA h
      ·exact MA h
     ·cases ht
    ·cases ht
   ·cases h
  ·cases h
 |_=>simp at h
theorem bL_ob {op:Op} {r:Res} (ht:obB P op rd hp=true) (h:jei P op rd hp nx=some r):r.ob:=by
 unfold obB at ht;unfold jei at h;cases op with
 |makeSlice t l c =>
  dsimp only at h ht;split at h
  ·rename_i elem k n k' m _ hut hn hm;rw[hut,hn,hm]at ht;dsimp only at ht;split at h
   ·rename_i z e b h1 h2 h3;rw[h3]at ht;split at h
    ·cases h;simpa using ht
    ·cases h
   ·cases h
  ·cases h
 |buildSlice t n ps=>cases ht
 |slice t x lo hi mx =>
  cases mx with
  |some mx=>cases h
  |none =>
   dsimp only at h ht;split at h
   ·rename_i elem h' l m hut hx hl hm;rw[hl,hm,hut]at ht;dsimp only at ht;split at h
    ·rename_i e n cs sz hf hs;split at ht
     ·rename_i n' hn;rw[jjI hx hf hn]at ht;split at h
      ·cases h;simpa [jjH]using ht
      ·cases h
     ·cases ht
    ·cases h
   ·cases h
 |store t x y =>
  dsimp only at h;split at h
  ·split at h
   ·split at h
    ·cases h;trivial
    ·cases h
   ·cases h
  ·cases h
 |call c =>
  dsimp only at h ht;split at h
  ·rename_i s x t t' hc ha hat;rw[hc,ha,hat]at ht;dsimp only at ht;split at h
   ·rename_i elem _ hb hut;rw[hut]at ht;split at h
    ·rename_i z e b h1 h2 h3;split at h
     ·rename_i hs ty e1 n1 cs1 n2 cs2 g1 g2;split at ht
      ·rename_i elem' n m he hn hm;cases he;rw[h3]at ht;simp only[Bool.and_eq_true]at ht
       have l1:n1=n:=by
        cases hrs:rd s with
        |none=>simp[hrs]at g1
        |some v =>
         simp only[hrs,Option.bind_some]at g1;rw[hrs]at hn;unfold lOf at g1;split at g1
         ·rename_i k;split at g1
          ·rename_i hf;cases g1;exact(jjI rfl (by rw[hf];rfl) hn).symm
          ·cases g1
         ·cases g1;simpa [jcH]using hn
         ·cases g1
       have l2:n2=m:=by
        cases hrs:rd x with
        |none=>simp[hrs]at g2
        |some v =>
         simp only[hrs,Option.bind_some]at g2;rw[hrs]at hm;unfold lRd at g2;split at g2
         ·rename_i k;split at g2
          ·rename_i hf;cases g2;exact(jjI rfl hf hm).symm
          ·cases g2
         ·cases g2;simpa [jcH]using hm
         ·cases g2
       split at h
       ·cases h;rw[←l1,←l2]at ht;exact⟨Nat.le_of_ble_eq_true ht.1.1,Nat.le_of_ble_eq_true ht.1.2⟩
       ·cases h
      ·cases ht
     ·cases h
    ·cases h
   ·cases h
  ·cases h
 |_=>simp at h
theorem bH_ob {op:Op} {r:Res} (ht:obB P op rd hp=true) (hcall:∀c,op=.call c→c.callee=.builtin .append) (h:jhp P sp op rd hp nx=some r):r.ob:=by
 unfold obB at ht;unfold jhp at h;cases op with
 |box elem x=>cases ht
 |alloc elem=>cases ht
 |buildSlice t n ps=>cases ht
 |makeSlice t l c =>
  dsimp only at h ht;split at h
  ·rename_i elem k n k' m hut hn hm;rw[hut,hn,hm]at ht;dsimp only at ht;split at h
   ·rename_i z e b h1 h2 h3;rw[h3]at ht;split at h
    ·split at h
     ·cases h;simpa using ht
     ·cases h
    ·cases h
   ·cases h
  ·cases h
 |slice t x lo hi mx =>
  cases mx with
  |some mx=>cases h
  |none =>
   dsimp only at h ht;split at h
   ·split at h
    ·split at h
     ·split at h
      ·split at h
       ·cases h;trivial
       ·cases h
      ·cases h
     ·cases h
    ·cases h
   ·rename_i elem h' l m hut hx hl hm;rw[hl,hm,hut]at ht;dsimp only at ht;split at h
    ·rename_i o e hf hs;split at h
     ·rename_i c hc;split at ht
      ·rename_i n hn;rw[(jiL hx hf hn).1 c hc]at ht;split at h
       ·cases h;simpa [jjH]using ht
       ·cases h
      ·cases ht
     ·cases h
    ·cases h
   ·cases h
 |store t x y =>
  dsimp only at h ht;split at h
  ·rename_i h' i e j u hx hy;rw[hx]at ht;dsimp only at ht;split at h
   ·split at h
    ·rename_i ty cs hf;rw[hf,hy]at ht;split at h
     ·rename_i p cs' hst;cases h;unfold jn8 at hst;split at hst
      ·split at hst
       ·cases hst
       ·rename_i c0 r0 hu;dsimp only[jiK]at ht;exact jvC hst ht
      ·cases hst
     ·split at h
      ·cases h;trivial
      ·cases h
    ·rename_i ty c hf;rw[hf]at ht
     have ht:i<c.n:=by
      cases c with
      |frs k E l =>
       simp only[jiK,Bool.and_eq_true]at ht;exact jba ht.1
      |_=>exact jba ht
     split at h
     ·split at h
      ·split at h
       ·cases h;exact ht
       ·cases h
      ·cases h
     ·cases h
    ·cases h
   ·cases h
  ·cases h
 |call c =>
  dsimp only at h ht;have hcc:=hcall c rfl;rw[hcc]at h ht;split at h
  ·rename_i s x t t' _ ha hat;rw[ha,hat]at ht;dsimp only at ht;split at h
   ·rename_i hte;split at ht
    ·rename_i elem n m hut hn hm;split at ht
     ·rename_i b hb;simp only[Bool.and_eq_true]at ht;have a1:=Nat.le_of_ble_eq_true ht.1.1;have a2:=Nat.le_of_ble_eq_true ht.1.2
      have fin:∀{x y:Nat},x≤n→y≤m→(x+y)*b≤140737488355328∧x+y≤9223372036854775807:=fun l1 l2 =>
       ⟨Nat.le_trans (Nat.mul_le_mul_right b (Nat.add_le_add l1 l2)) a1,Nat.le_trans (Nat.add_le_add l1 l2) a2⟩
      split at h
      ·rename_i c1 hfv;rw[hfv]at ht;simp only[Bool.and_eq_true]at ht;unfold jfk at h;split at h
       ·rename_i elem' hx cx hut' g1;rw[hut]at hut';cases hut';split at h
        ·rename_i z e b' h1 h2 h3;rw[hb]at h3;cases h3;split at h
         ·rename_i c2 hc2;split at h
          ·split at h
           ·cases h
            have l1:c1.n≤n:=by
             unfold jiZ at hfv;split at hfv
             ·rename_i hh hrs;split at hfv
              ·rename_i rr cc hf;cases hfv;exact Nat.le_of_eq ((jiL hrs hf hn).1 c1 rfl).symm
              ·cases hfv
             ·cases hfv
            have l2:=jjJ g1 hc2 hm;exact⟨jba ht.2.1,by rw[l2];exact jba ht.2.2,fin l1 (Nat.le_of_eq l2)⟩
           ·cases h
          ·cases h
         ·cases h
        ·cases h
       ·cases h
      ·split at h
       ·rename_i elem' hs cs hx cx hut' g1 g2;rw[hut]at hut';cases hut';split at h
        ·rename_i z e b' h1 h2 h3;rw[hb]at h3;cases h3;split at h
         ·rename_i c1 c2 _ hc1 hc2;split at h
          ·split at h
           ·cases h;exact fin (Nat.le_of_eq (jjJ g1 hc1 hn)) (Nat.le_of_eq (jjJ g2 hc2 hm))
           ·cases h
          ·cases h
         ·cases h
        ·cases h
       ·cases h
     ·cases ht
    ·cases ht
   ·cases h
  ·rename_i hc;cases hc
  ·cases h
 |_=>simp at h
theorem b_ob {op:Op} {r:Res} (ht:obB P op rd hp=true) (h:jbN P sp op rd hp nx=some r):r.ob:=by
 unfold jbN at h;split at h
 ·rename_i ob v hv;cases h;unfold ja1 at hv;split at hv
  ·rename_i p hp0;cases hv;exact jyD ht hp0
  ·exact jAQ ht hv
 ·split at h
  ·rename_i r' hr;cases h;exact bR_ob ht hr
  ·split at h
   ·rename_i r' hr;cases h;exact bX_ob ht hr
   ·split at h
    ·rename_i r' hr;cases h;exact bL_ob ht hr
    ·split at h
     ·rename_i r' hr;cases h;exact bM_ob ht hr
     ·split at h
      ·rename_i r' hr;cases h;exact bN_ob ht hr
      ·refine bH_ob ht ?_ h;intro c hc;subst hc;unfold obB at ht;dsimp only at ht;split at ht
       ·assumption
       ·cases ht
end
end Go.Sx
end

section
open Go.RowKit
namespace Go.Sx
section force
variable {α:Type}
def fN (n:Nat) (k:Nat→α):α :=
 match n with
 |0=>k 0
 |m+1=>k (m+1)
def fI (n:Int) (k:Int→α):α :=
 match n with
 | .ofNat m=>fN m fun m=>k (.ofNat m)
 | .negSucc m=>fN m fun m=>k (.negSucc m)
def fB (b:Bool) (k:Bool→α):α :=
 match b with
 |true=>k true
 |false=>k false
noncomputable def fL {β:Type} (f:β→(β→α)→α) (l:List β):(List β→α)→α :=
 List.rec (motive:=fun _=>(List β→α)→α) (fun k=>k []) (fun x _ ih k=>f x fun x=>ih fun r=>k (x::r)) l
def fD (x:D) (k:D→α):α :=
 match x with
 | .i q n=>fI n fun n=>k (.i q n)
 | .b b=>fB b fun b=>k (.b b)
 | .f q n=>fN n fun n=>k (.f q n)
 | .s x=>k (.s x)
 | .v x=>k (.v x)
 | .z q p=>k (.z q p)
noncomputable def fC (x:C) (k:C→α):α :=
 match x with
 | .d x=>fD x fun x=>k (.d x)
 | .p h i e j=>fN h fun h=>fN i fun i=>fN e fun e=>fN j fun j=>k (.p h i e j)
 | .o h=>fN h fun h=>k (.o h)
 | .fn f hs=>fL fN hs fun hs=>k (.fn f hs)
 | .g n i e j=>fN i fun i=>fN j fun j=>k (.g n i e j)
 | .fb f hs=>fL fN hs fun hs=>k (.fb f hs)
noncomputable def fW (x:W) (k:W→α):α :=
 match x with
 | .c x=>fC x fun x=>k (.c x)
 | .a l=>fL fC l fun l=>k (.a l)
 | .b q e r=>fL fN r fun r=>k (.b q e r)
noncomputable def fV (x:V) (k:V→α):α :=
 match x with
 | .w x=>fW x fun x=>k (.w x)
 | .t l=>fL fW l fun l=>k (.t l)
noncomputable def jgt (c:Cont) (k:Cont→α):α :=
 match c with
 | .ints q l=>fL fI l fun l=>k (.ints q l)
 | .recs e l=>fL (fL fI) l fun l=>k (.recs e l)
 | .floats q l=>fL fN l fun l=>k (.floats q l)
 | .strs l=>fL (fun x k=>k x) l fun l=>k (.strs l)
 | .bools l=>fL fB l fun l=>k (.bools l)
 | .lits e l=>fL (fL fD) l fun l=>k (.lits e l)
 | .frs q e l=>fL (fL fN) l fun l=>k (.frs q e l)
noncomputable def fNC (x:NC) (k:NC→α):α :=
 match x with
 | .d x=>fD x fun x=>k (.d x)
 | .r c=>jgt c fun c=>k (.r c)
noncomputable def fXC (x:XC) (k:XC→α):α :=
 match x with
 | .st sh l=>fL (fL fNC) l fun l=>k (.st sh l)
 | .ii q l=>fL (fL fI) l fun l=>k (.ii q l)
 | .ff q l=>fL (fL fN) l fun l=>k (.ff q l)
 | .bb q e l=>fL (fL (fL fN)) l fun l=>k (.bb q e l)
 | .rr e l=>fL (fL (fL fI)) l fun l=>k (.rr e l)
noncomputable def fO (o:O) (k:O→α):α :=
 match o with
 | .box ty cs=>fL fC cs fun cs=>k (.box ty cs)
 | .row ty c=>jgt c fun c=>k (.row ty c)
 | .ext c=>jgt c fun c=>k (.ext c)
 | .view r c f=>fN r fun r=>jgt c fun c=>fB f fun f=>k (.view r c f)
 | .dead=>k .dead
 | .nan q=>k (.nan q)
 | .ebox cs=>fL fC cs fun cs=>k (.ebox cs)
 | .arr ty q e r=>fL fN r fun r=>k (.arr ty q e r)
 | .xext x=>fXC x fun x=>k (.xext x)
 | .map es=>k (.map es)
 | .rrow c=>jgt c fun c=>k (.rrow c)
 | .fext c=>jgt c fun c=>k (.fext c)
 | .xrow ty x=>fXC x fun x=>k (.xrow ty x)
 | .mrow ty ts x ho=>fXC x fun x=>match ho with
  |none=>k (.mrow ty ts x none)
  |some p=>k (.mrow ty ts x (some p))
 | .sub r i e j ty c=>fN r fun r=>fN i fun i=>fN e fun e=>fN j fun j=>jgt c fun c=>k (.sub r i e j ty c)
 | .lbox ty e n cs=>fL fC cs fun cs=>k (.lbox ty e n cs)
 | .lview r e n cs=>fN r fun r=>fL fC cs fun cs=>k (.lview r e n cs)
 | .elist e n cs=>fL fC cs fun cs=>k (.elist e n cs)
 | .err=>k .err
 | .atom=>k .atom
def fS (o:O) (k:O→α):α :=
 match o with
 | .box ty cs=>k (.box ty cs)
 | .row ty c=>k (.row ty c)
 | .ext c=>k (.ext c)
 | .view r c f=>k (.view r c f)
 | .dead=>k .dead
 | .nan q=>k (.nan q)
 | .ebox cs=>k (.ebox cs)
 | .arr ty q e r=>k (.arr ty q e r)
 | .xext x=>k (.xext x)
 | .map es=>k (.map es)
 | .rrow c=>k (.rrow c)
 | .fext c=>k (.fext c)
 | .xrow ty x=>k (.xrow ty x)
 | .mrow ty ts x ho=>k (.mrow ty ts x ho)
 | .sub r i e j ty c=>k (.sub r i e j ty c)
 | .lbox ty e n cs=>k (.lbox ty e n cs)
 | .lview r e n cs=>k (.lview r e n cs)
 | .elist e n cs=>k (.elist e n cs)
 | .err=>k .err
 | .atom=>k .atom
theorem jbA (n:Nat) (k:Nat→α):fN n k=k n:=by cases n<;>rfl
theorem jo8 (n:Int) (k:Int→α):fI n k=k n:=by cases n<;>simp only[fI,jbA]
theorem jwW (b:Bool) (k:Bool→α):fB b k=k b:=by cases b<;>rfl
theorem ja2 {β:Type} {f:β→(β→α)→α} (hf:∀x k,f x k=k x):∀(l:List β) (k:List β→α),fL f l k=k l
 |[],_=>rfl
 |x::r,k=>by
  show f x (fun x=>fL f r fun r=>k (x::r))=_
  rw[hf,ja2 hf r]
theorem jwX (x:D) (k:D→α):fD x k=k x:=by cases x<;>simp only[fD,jo8,jwW,jbA]
theorem jwY (x:C) (k:C→α):fC x k=k x:=by cases x<;>simp only[fC,jwX,jbA,ja2 jbA]
theorem jAR (x:W) (k:W→α):fW x k=k x:=by cases x<;>simp only[fW,jwY,ja2 jwY,ja2 jbA]
theorem jdb (x:V) (k:V→α):fV x k=k x:=by cases x<;>simp only[fV,jAR,ja2 jAR]
theorem jtl (x:Cont) (k:Cont→α):jgt x k=k x:=by
 cases x<;>simp only[jgt,ja2 jo8,ja2 (ja2 jo8),ja2 jbA,ja2 (fun(x:ByteArray) (k:ByteArray→α)=>rfl),ja2 jwW,ja2 (ja2 jwX),ja2 (ja2 jbA)]
theorem jCi (x:NC) (k:NC→α):fNC x k=k x:=by cases x<;>simp only[fNC,jwX,jtl]
theorem jyE (x:XC) (k:XC→α):fXC x k=k x:=by
 cases x<;>simp only[fXC,ja2 (ja2 jCi),ja2 (ja2 jo8),ja2 (ja2 jbA),ja2 (ja2 (ja2 jbA)),ja2 (ja2 (ja2 jo8))]
theorem jwZ (x:O) (k:O→α):fO x k=k x:=by
 cases x with
 |mrow ty ts x ho=>cases ho<;>simp only[fO,jyE]
 |_=>simp only[fO,ja2 jwY,jtl,jbA,jwW,ja2 jbA,jyE]
theorem fS_eq (x:O) (k:O→α):fS x k=k x:=by cases x<;>rfl
def jiM:O→Bool
 | .dead=>true
 |_=>false
noncomputable def hpF (live:Nat→Bool) (j seen:Nat) (hp:Hp) (k:Hp→α):α :=
 List.rec (motive:=fun _=>Nat→Nat→(Hp→α)→α) (fun _ _ k=>k []) (fun x _ ih j seen k=>fN x.1 fun h=>match Nat.testBit seen h with
  |true=>ih j.pred seen k
  |false=>fN (seen ||| 1 <<< h) fun seen=>match live h with
   |false=>ih j.pred seen k
   |true=>match j with
    |0=>fS x.2 fun o=>match jiM o with
     |true=>ih 0 seen k
     |false=>ih 0 seen fun r=>k ((h,o)::r)
    |j+1=>fO x.2 fun o=>match jiM o with
     |true=>ih j seen k
     |false=>ih j seen fun r=>k ((h,o)::r)) hp j seen k
theorem jBp {live:Nat→Bool} {j seen:Nat} {k:Hp→α}:hpF live j seen [] k=k []:=rfl
theorem jAa {live:Nat→Bool} {j seen h:Nat} {o:O} {r:Hp} {k:Hp→α}:hpF live j seen ((h,o)::r) k=fN h fun h=>match Nat.testBit seen h with
  |true=>hpF live j.pred seen r k
  |false=>fN (seen ||| 1 <<< h) fun seen=>match live h with
   |false=>hpF live j.pred seen r k
   |true=>match j with
    |0=>fS o fun o=>match jiM o with
     |true=>hpF live 0 seen r k
     |false=>hpF live 0 seen r fun r=>k ((h,o)::r)
    |j+1=>fO o fun o=>match jiM o with
     |true=>hpF live j seen r k
     |false=>hpF live j seen r fun r=>k ((h,o)::r):=rfl
theorem jvE (seen h t:Nat):Nat.testBit (seen ||| 1 <<< h) t=false↔Nat.testBit seen t=false∧t≠h:=by
 rw[Nat.testBit_or,Nat.one_shiftLeft,Nat.testBit_two_pow];simp only[Bool.or_eq_false_iff,decide_eq_false_iff_not];exact⟨fun h=>⟨h.1,fun e=>h.2 e.symm⟩,fun h=>⟨h.1,fun e=>h.2 e.symm⟩⟩
theorem jg7 {live:Nat→Bool}:∀(hp:Hp) (j seen:Nat) (k:Hp→α),∃hp',hpF live j seen hp k=k hp'∧∀h o,find hp' h=some o→find hp h=some o∧Nat.testBit seen h=false∧live h=true
 |[],j,seen,k=>⟨[],jBp,fun h o hf=>by cases hf⟩
 |(h0,o0)::r,j,seen,k=>by
  rw[jAa,jbA]
  have skip:∀(j seen':Nat) (k:Hp→α),(∀t,Nat.testBit seen' t=false→Nat.testBit seen t=false∧t≠h0)→∃hp',hpF live j seen' r k=k hp'∧∀h o,find hp' h=some o→find ((h0,o0)::r) h=some o∧Nat.testBit seen h=false∧live h=true:=by
   intro j seen' k hs;obtain⟨hp',h1,h2⟩:=jg7 r j seen' k;refine⟨hp',h1,fun h o hf=>?_⟩;obtain⟨h3,h4,h9⟩:=h2 h o hf;obtain⟨h5,h6⟩:=hs h h4;exact⟨by rw[find,if_neg (fun e=>h6 e.symm)];exact h3,h5,h9⟩
  have keep:∀(j seen':Nat),(∀t,Nat.testBit seen' t=false→Nat.testBit seen t=false∧t≠h0)→Nat.testBit seen h0=false→live h0=true→∃hp',hpF live j seen' r (fun r=>k ((h0,o0)::r))=k hp'∧∀h o,find hp' h=some o→find ((h0,o0)::r) h=some o∧Nat.testBit seen h=false∧live h=true:=by
   intro j seen' hs h0s hl0;obtain⟨hp',h1,h2⟩:=jg7 r j seen' (fun r=>k ((h0,o0)::r));refine⟨(h0,o0)::hp',h1,fun h o hf=>?_⟩;rw[find]at hf;split at hf
   ·rename_i e;subst e;cases hf;exact⟨by rw[find,if_pos rfl],h0s,hl0⟩
   ·rename_i e;obtain⟨h3,h4,h9⟩:=h2 h o hf;exact⟨by rw[find,if_neg e];exact h3,(hs h h4).1,h9⟩
  cases hs:Nat.testBit seen h0 with
  |true =>
   refine skip _ _ _ fun t ht=>⟨ht,fun e=>?_⟩
   subst e;rw[ht]at hs;cases hs
  |false =>
   dsimp only;rw[jbA];have hn:=fun t=>(jvE seen h0 t).1;cases hl0:live h0 with
   |false=>exact skip _ _ _ hn
   |true =>
    cases j with
    |zero =>
     dsimp only;rw[fS_eq];cases jiM o0 with
     |true=>exact skip _ _ _ hn
     |false=>exact keep _ _ hn hs hl0
    |succ j =>
     dsimp only;rw[jwZ];cases jiM o0 with
     |true=>exact skip _ _ _ hn
     |false=>exact keep _ _ hn hs hl0
noncomputable def tmF (seen:Nat) (tm:List (Nat × V)) (k:List (Nat × V)→α):α :=
 List.rec (motive:=fun _=>Nat→(List (Nat × V)→α)→α) (fun _ k=>k []) (fun x _ ih seen k=>match Nat.testBit seen x.1 with
  |true=>ih seen k
  |false=>fV x.2 fun v=>fN (seen ||| 1 <<< x.1) fun seen=>ih seen fun r=>k ((x.1,v)::r)) tm seen k
theorem jBq {seen:Nat} {k:List (Nat × V)→α}:tmF seen [] k=k []:=rfl
theorem jAb {seen t:Nat} {v:V} {r:List (Nat × V)} {k:List (Nat × V)→α}:tmF seen ((t,v)::r) k=match Nat.testBit seen t with
  |true=>tmF seen r k
  |false=>fV v fun v=>fN (seen ||| 1 <<< t) fun seen=>tmF seen r fun r=>k ((t,v)::r):=rfl
theorem jnE:∀(tm:List (Nat × V)) (seen:Nat) (k:List (Nat × V)→α),∃tm',tmF seen tm k=k tm'∧∀t v,jav tm' t=some v→jav tm t=some v∧Nat.testBit seen t=false
 |[],seen,k=>⟨[],jBq,fun h o hf=>by cases hf⟩
 |(t0,v0)::r,seen,k=>by
  rw[jAb];cases hs:Nat.testBit seen t0 with
  |true =>
   obtain⟨tm',h1,h2⟩:=jnE r seen k;refine⟨tm',h1,fun t v hf=>?_⟩;obtain⟨h3,h4⟩:=h2 t v hf;refine⟨?_,h4⟩;rw[jav,if_neg (fun e=>by subst e;rw[h4]at hs;cases hs)];exact h3
  |false =>
   dsimp only;rw[jdb,jbA];obtain⟨tm',h1,h2⟩:=jnE r (seen ||| 1 <<< t0) (fun r=>k ((t0,v0)::r));refine⟨(t0,v0)::tm',h1,fun t v hf=>?_⟩;rw[jav]at hf;split at hf
   ·rename_i e;subst e;cases hf;exact⟨by rw[jav,if_pos rfl],hs⟩
   ·rename_i e;obtain⟨h3,h4⟩:=h2 t v hf;exact⟨by rw[jav,if_neg e];exact h3,((jvE seen t0 t).1 h4).1⟩
end force
noncomputable def jp8 (l:List (Nat × V)) (t:Nat):Option V :=
 List.rec (motive:=fun _=>Option V) none (fun x _ ih=>Bool.rec (motive:=fun _=>Option V) ih (some x.2) (Nat.beq x.1 t)) l
theorem jiN:∀(l:List (Nat × V)) (t:Nat),jp8 l t=jav l t
 |[],_=>rfl
 |(k,v)::r,t=>by
  have ih:=jiN r t;rw[jav,←ih]
  show Bool.rec (motive:=fun _=>Option V) (jp8 r t) (some v) (Nat.beq k t)=_
  cases h:Nat.beq k t with
  |true=>rw[if_pos (Nat.eq_of_beq_eq_true h)]
  |false=>rw[if_neg (fun e=>by subst e;rw[Nat.beq_refl]at h;cases h)]
noncomputable def jl7 (l:Hp) (t:Nat):Option O :=
 List.rec (motive:=fun _=>Option O) none (fun x _ ih=>Bool.rec (motive:=fun _=>Option O) ih (some x.2) (Nat.beq x.1 t)) l
theorem jdo:∀(l:Hp) (t:Nat),jl7 l t=find l t
 |[],_=>rfl
 |(k,v)::r,t=>by
  have ih:=jdo r t;rw[find,←ih]
  show Bool.rec (motive:=fun _=>Option O) (jl7 r t) (some v) (Nat.beq k t)=_
  cases h:Nat.beq k t with
  |true=>rw[if_pos (Nat.eq_of_beq_eq_true h)]
  |false=>rw[if_neg (fun e=>by subst e;rw[Nat.beq_refl]at h;cases h)]
noncomputable def jlx {α:Type} (l:List α) (n:Nat):Option α :=
 List.rec (motive:=fun _=>Nat→Option α) (fun _=>none) (fun x _ ih n=>match n with|0=>some x|n+1=>ih n) l n
theorem jed {α:Type}:∀(l:List α) (n:Nat),jlx l n=l[n]?
 |[],_=>rfl
 |x::r,0=>rfl
 |x::r,n+1=>by
  have:=jed r n
  show jlx r n=_
  rw[this];simp
noncomputable def rdQ [Globs] (st:St):Operand→Option V
 | .tmp t=>jp8 st.tm t
 | .const v=>some (.w (ofValue v))
 | .global g=>jce st (.global g)
 | .func f=>some (.w (.c (.fn f [])))
theorem jyF [Globs] (st:St):rdQ st=jce st:=by
 funext x;cases x<;>first|exact jiN _ _|rfl
def jtm:List Nat→Nat
 |[]=>0
 |h::r=>1 <<< h ||| jtm r
def jAS:C→Nat
 | .p h _ _ _=>1 <<< h
 | .o h=>1 <<< h
 | .fn _ hs=>jtm hs
 | .fb _ hs=>jtm hs
 |_=>0
def jfM:List C→Nat→Nat
 |[],m=>m
 | .d _::r,m=>jfM r m
 |c::r,m=>jfM r (jAS c ||| m)
def jAT:W→Nat→Nat
 | .c c,m=>jAS c ||| m
 | .a l,m=>jfM l m
 | .b _ _ _,m=>m
def jrG:V→Nat→Nat
 | .w u,m=>jAT u m
 | .t l,m=>l.foldl (fun m u=>jAT u m) m
def jAU:O→Nat→Nat
 | .box _ cs,m=>jfM cs m
 | .ebox cs,m=>jfM cs m
 | .lbox _ _ _ cs,m=>jfM cs m
 | .lview r _ _ cs,m=>jfM cs (1 <<< r ||| m)
 | .elist _ _ cs,m=>jfM cs m
 | .view r _ _,m=>1 <<< r ||| m
 | .sub r _ _ _ _ _,m=>1 <<< r ||| m
 |_,m=>m
noncomputable def jo9 {α:Type} (n0:Nat) (hp:Hp) (m:Nat) (k:Nat→α):α :=
 List.rec (motive:=fun _=>Nat→(Nat→α)→α) (fun m k=>k m) (fun x _ ih m k=>match Nat.blt x.1 n0||Nat.testBit m x.1 with
  |true=>fN (jAU x.2 m) fun m=>ih m k
  |false=>ih m k) hp m k
theorem jw0 {α:Type} {n0 h:Nat} {o:O} {r:Hp} {m:Nat} {k:Nat→α}:jo9 n0 ((h,o)::r) m k=match Nat.blt h n0||Nat.testBit m h with
  |true=>fN (jAU o m) fun m=>jo9 n0 r m k
  |false=>jo9 n0 r m k:=rfl
noncomputable def jiO {α:Type} (n0:Nat) (hp:Hp):Nat→Nat→(Nat→α)→α
 |0,m,k=>k m
 |n+1,m,k=>jo9 n0 hp m fun m'=>match Nat.beq m m' with
  |true=>k m'
  |false=>jiO n0 hp n m' k
theorem jjK {α:Type} {n0:Nat}:∀(hp:Hp) (m:Nat) (k:Nat→α),∃m',jo9 n0 hp m k=k m'
 |[],m,k=>⟨m,rfl⟩
 |(h,o)::r,m,k=>by
  rw[jw0];split
  ·rw[jbA];exact jjK r _ k
  ·exact jjK r _ k
theorem jie {α:Type} {n0:Nat} {hp:Hp}:∀(n m:Nat) (k:Nat→α),∃m',jiO n0 hp n m k=k m'
 |0,m,k=>⟨m,rfl⟩
 |n+1,m,k=>by
  unfold jiO;obtain⟨m',h⟩:=jjK (n0:=n0) hp m (fun m'=>match Nat.beq m m' with|true=>k m' | false=>jiO n0 hp n m' k);rw[h];split
  ·exact⟨_,rfl⟩
  ·exact jie n m' k
end Go.Sx
end

section
open Go.RowKit
namespace Go.Sx
section
variable [Globs]
def qInt (op:BinOp) (k:IntKind) (a b:Int):Option V :=
 match op with
 | .add=>some (vi k (k.wrap (a+b)))
 | .sub=>some (vi k (k.wrap (a-b)))
 | .mul=>some (vi k (k.wrap (a*b)))
 | .eql=>some (vb (a==b))
 | .neq=>some (vb (a != b))
 | .lss=>some (vb (a<b))
 | .leq=>some (vb (a≤b))
 | .gtr=>some (vb (a>b))
 | .geq=>some (vb (a≥b))
 |_=>none
noncomputable def qBin (op:BinOp) (u v:Option V):Option V :=
 match u,v with
 |some (.w (.c (.d (.i k a)))),some (.w (.c (.d (.i k' b))))=>match decide (k=k')with
  |true=>qInt op k a b
  |false=>none
 |_,_=>none
noncomputable def jyG (P:Program) (s:TypeId) (f:Nat) (u:Option V):Option V :=
 match u with
 |some (.w (.c (.p h i e j)))=>match P.underlying s with
  |some (.struct fs)=>match jlx fs.toList f with
   |some g=>match szT P g.type with
    |some (_+1)=>some (.w (.c (.p h i e (j+g.offset))))
    |_=>none
   |none=>none
  |_=>none
 |_=>none
noncomputable def qNil (u:Option V):Option V :=
 match u with
 |some (.w (.c (.p h i e j)))=>some (.w (.c (.p h i e j)))
 |_=>none
noncomputable def qNot (u:Option V):Option V :=
 match u with
 |some (.w (.c (.d (.b b))))=>some (vb (!b))
 |_=>none
noncomputable def jAV (P:Program) (t:TypeId) (hp:Hp) (u:Option V):Option V :=
 match u with
 |some (.w (.c (.p h i e j)))=>match e with
  |0=>none
  |e' + 1=>match jbp P t with
   |some false=>match szT P t with
    |some _=>match jl7 hp h with
     |some (.box _ cs)=>match jlx cs (i*(e' + 1)+j)with
      |some c=>some (.w (.c c))
      |none=>none
     |some (.ebox cs)=>match jlx cs (i*(e' + 1)+j)with
      |some c=>some (.w (.c c))
      |none=>none
     |some (.row _ (.ints k l))=>match Nat.beq (e' + 1) 1,Nat.beq j 0,Nat.blt i l.length with
      |true,true,true=>some (vi k (l.getD i 0))
      |_,_,_=>none
     |some (.ext (.ints k l))=>match Nat.beq (e' + 1) 1,Nat.beq j 0,Nat.blt i l.length with
      |true,true,true=>some (vi k (l.getD i 0))
      |_,_,_=>none
     |some (.row _ (.bools l))=>match Nat.beq (e' + 1) 1,Nat.beq j 0,Nat.blt i l.length with
      |true,true,true=>some (vb (l.getD i false))
      |_,_,_=>none
     |some (.ext (.bools l))=>match Nat.beq (e' + 1) 1,Nat.beq j 0,Nat.blt i l.length with
      |true,true,true=>some (vb (l.getD i false))
      |_,_,_=>none
     |_=>none
    |none=>none
   |_=>none
 |_=>none
noncomputable def jAW (c a b:Option V):Option V :=
 match c with
 |some (.w (.c (.d (.b true))))=>a
 |some (.w (.c (.d (.b false))))=>b
 |_=>none
noncomputable def qExt (u:Option V) (i:Nat):Option V :=
 match u with
 |some (.t l)=>match jlx l i with
  |some x=>some (.w x)
  |none=>none
 |_=>none
noncomputable def qFld (P:Program) (t:TypeId) (f:Nat) (u:Option V):Option V :=
 match u with
 |some (.w (.a cs))=>match P.underlying t with
  |some (.struct fs)=>match jlx fs.toList f with
   |some g=>jbR P g.type cs g.offset
   |none=>none
  |_=>none
 |_=>none
noncomputable def qIdx (P:Program) (t:TypeId) (hp:Hp) (u i:Option V):Option V :=
 match i with
 |some (.w (.c (.d (.i _ n))))=>match u with
  |some (.w (.c (.o h)))=>match P.underlying t with
   |some (.slice elem)=>match(jl7 hp h).bind O.cont with
    |some c=>match szT P elem with
     |some size=>match decide (size=c.e),decide (0≤n∧n<(c.n:Int))with
      |true,true=>some (.w (.c (.p h n.toNat c.e 0)))
      |_,_=>none
     |none=>none
    |none=>none
   |_=>none
  |_=>none
 |_=>none
noncomputable def qStr (P:Program) (t:TypeId) (u i:Option V):Option V :=
 match u with
 |some (.w (.c (.d (.s s))))=>match i with
  |some (.w (.c (.d (.i _ n))))=>match P.underlying t with
   |some .string=>match decide (0≤n∧n<(s.size:Int))with
    |true=>some (vi .u8 ((s.data.getD n.toNat 0).toNat:Int))
    |false=>none
   |_=>none
  |_=>none
 |_=>none
noncomputable def qLen (P:Program) (t:TypeId) (hp:Hp) (u:Option V):Option V :=
 match P.underlying t with
 |some (.slice _)=>match u with
  |some (.w (.c (.o h)))=>match(jl7 hp h).bind O.cont with
   |some c=>some (vi .i64 (c.n:Int))
   |none=>none
  |some (.w (.c (.d (.v (.slice none 0 0)))))=>some (vi .i64 0)
  |_=>none
 |some .string=>match u with
  |some (.w (.c (.d (.s s))))=>some (vi .i64 (s.size:Int))
  |_=>none
 |_=>none
noncomputable def jAX (P:Program) (c:Call) (rd:Operand→Option V) (hp:Hp):Option V :=
 match c.callee with
 | .builtin .len=>match c.args.toList with
  |[x]=>match c.argTypes.toList with
   |[t]=>qLen P t hp (rd x)
   |_=>none
  |_=>none
 |_=>none
noncomputable def qV (P:Program) (op:Op) (rd:Operand→Option V) (hp:Hp):Option V :=
 match op with
 | .move x=>rd x
 | .assign x=>rd x
 | .binOp o _ x y _=>qBin o (rd x) (rd y)
 | .fieldAddr s x f=>jyG P s f (rd x)
 | .nilCheck x=>qNil (rd x)
 | .unOp .not _ x=>qNot (rd x)
 | .load t x=>jAV P t hp (rd x)
 | .pick c a b=>jAW (rd c) (rd a) (rd b)
 | .extract t i=>qExt (rd t) i
 | .field t x f=>qFld P t f (rd x)
 | .indexAddr t x ix=>qIdx P t hp (rd x) (rd ix)
 | .index t x i=>qStr P t (rd x) (rd i)
 | .call c=>jAX P c rd hp
 |_=>none
theorem jp9 {P:Program} {sp:jaa} {op:Op} {rd:Operand→Option V} {hp:Hp} {nx:Nat} {v:V} (h:qV P op rd hp=some v) :
  jgg P sp op rd hp nx=none∧∃ob,ja1 P op rd hp=some (ob,v)∧ob:=by
 have lift:(∃ob,jaZ P op rd hp=some (ob,v)∧ob)→∃ob,ja1 P op rd hp=some (ob,v)∧ob:=by
  rintro ⟨ob,h1,h2⟩;exact⟨ob,by unfold ja1;rw[h1],h2⟩
 unfold qV at h;split at h
 ·rename_i x;exact⟨rfl,lift ⟨True,by simp[jaZ,h],trivial⟩⟩
 ·rename_i x;exact⟨rfl,lift ⟨True,by simp[jaZ,h],trivial⟩⟩
 ·rename_i o t x y yt;unfold qBin at h;split at h
  ·rename_i k a k' b hx hy;split at h
   ·rename_i hk;have hk:=of_decide_eq_true hk;subst hk;refine⟨by simp[jgg,hx,hy],lift ?_⟩;unfold qInt at h;simp only[jaZ,hx,hy,V.int?,jfv];split at h<;>cases h<;>exact⟨_,rfl,trivial⟩
   ·cases h
  ·cases h
 ·rename_i s x f;unfold jyG at h
  try simp only[jdo,jed]at h
  split at h
  ·rename_i k i e j hx;split at h
   ·rename_i fs hu;split at h
    ·rename_i g hg;split at h
     ·rename_i sz hs;cases h;exact⟨rfl,lift ⟨True,by simp only[jaZ,hu,hx,hg,hs],trivial⟩⟩
     ·cases h
    ·cases h
   ·cases h
  ·cases h
 ·rename_i x;unfold qNil at h;split at h
  ·rename_i hx;cases h;exact⟨rfl,lift ⟨True,by simp only[jaZ,hx],trivial⟩⟩
  ·cases h
 ·rename_i t x;unfold qNot at h;split at h
  ·rename_i b hx;cases h;exact⟨rfl,lift ⟨True,by simp[jaZ,hx,V.bool?],trivial⟩⟩
  ·cases h
 ·rename_i t x;unfold jAV at h
  try simp only[jdo,jed]at h
  split at h
  ·rename_i k i e j hx;split at h
   ·cases h
   ·rename_i e';split at h
    ·rename_i hag;split at h
     ·rename_i sz hs;split at h
      ·rename_i ty cs hf;split at h
       ·rename_i c hc;cases h;exact⟨rfl,lift ⟨True,by simp[jaZ,hx,hf,jc5,hag,hs,jef,hc],trivial⟩⟩
       ·cases h
      ·rename_i cs hf;split at h
       ·rename_i c hc;cases h;exact⟨rfl,lift ⟨True,by simp[jaZ,hx,hf,jc5,hag,hs,jef,hc],trivial⟩⟩
       ·cases h
      all_goals first
       |(cases h;done)
       |(
         rename_i hf;split at h
         ·rename_i e1 e2 e3;have e1:=Nat.eq_of_beq_eq_true e1;have e2:=Nat.eq_of_beq_eq_true e2;have e3:=of_decide_eq_true (show decide _=true from by simpa using e3);cases h;obtain rfl:e'=0:=by omega
          subst e2;exact⟨rfl,lift ⟨_,by simp[jaZ,hx,hf,jc5,hag,hs,O.cont,Cont.e,Cont.n,Cont.cell,vi,vb],e3⟩⟩
         ·cases h)
     ·cases h
    ·cases h
  ·cases h
 ·rename_i c x y;unfold jAW at h;split at h
  ·rename_i hc;exact⟨rfl,lift ⟨True,by simp[jaZ,hc,V.bool?,h],trivial⟩⟩
  ·rename_i hc;exact⟨rfl,lift ⟨True,by simp[jaZ,hc,V.bool?,h],trivial⟩⟩
  ·cases h
 ·rename_i t i;unfold qExt at h
  try simp only[jdo,jed]at h
  split at h
  ·rename_i l ht;split at h
   ·rename_i x hx;cases h;exact⟨rfl,lift ⟨True,by simp[jaZ,ht,hx],trivial⟩⟩
   ·cases h
  ·cases h
 ·rename_i t x f;unfold qFld at h
  try simp only[jdo,jed]at h
  split at h
  ·rename_i cs hx;split at h
   ·rename_i fs hu;split at h
    ·rename_i g hg;exact⟨rfl,lift ⟨True,by simp[jaZ,hx,hu,hg,V.agg?,h],trivial⟩⟩
    ·cases h
   ·cases h
  ·cases h
 ·rename_i t x ix;unfold qIdx at h
  try simp only[jdo,jed]at h
  split at h
  ·rename_i k n hi;split at h
   ·rename_i h' hx;split at h
    ·rename_i elem hu;split at h
     ·rename_i c hc;split at h
      ·rename_i size hs;split at h
       ·rename_i e1 e2;have e1:=of_decide_eq_true e1;have e2:=of_decide_eq_true e2;cases h;exact⟨rfl,lift ⟨_,by simp[jaZ,hx,hi,hu,hc,hs,V.int?,e1],e2⟩⟩
       ·cases h
      ·cases h
     ·cases h
    ·cases h
   ·cases h
  ·cases h
 ·rename_i t x i;unfold qStr at h;split at h
  ·rename_i s hx;split at h
   ·rename_i k n hi;split at h
    ·rename_i hu;split at h
     ·rename_i e2;have e2:=of_decide_eq_true e2;cases h;exact⟨rfl,lift ⟨_,by simp[jaZ,hx,hi,hu,V.int?,V.str?],e2⟩⟩
     ·cases h
    ·cases h
   ·cases h
  ·cases h
 ·rename_i c;unfold jAX at h;split at h
  ·rename_i hc;split at h
   ·rename_i x ha;split at h
    ·rename_i t hat;refine⟨by simp[jgg,hc],lift ?_⟩;unfold qLen at h
     try simp only[jdo,jed]at h
     simp only[jaZ,hc,ha,hat];split at h
     ·rename_i el hu;split at h
      ·rename_i h' hx;split at h
       ·rename_i c' hcc;cases h;exact⟨True,by simp[hu,hx,hcc],trivial⟩
       ·cases h
      ·rename_i hx;cases h;exact⟨True,by simp[hu,hx,V.nils?],trivial⟩
      ·cases h
     ·rename_i hu;split at h
      ·rename_i s hx;cases h;exact⟨True,by simp[hu,hx,V.str?],trivial⟩
      ·cases h
     ·cases h
    ·cases h
   ·cases h
  ·cases h
 ·cases h
end
end Go.Sx
end

section
open Go.RowKit
namespace Go.Sx
noncomputable def stF {α:Type} (j:Nat) (st:St) (k:St→α):α :=
 hpF (fun _=>true) j 0 st.hp fun hp=>fN st.nx fun nx=>k ⟨st.tm,hp,nx⟩
noncomputable def stG {α:Type} (st:St) (k:St→α):α :=
 tmF 0 st.tm fun tm=>fN st.nx fun nx=>k ⟨tm,st.hp,nx⟩
noncomputable def jnF {α:Type} (tm:List (Nat × V)) (hp:Hp) (nx:Nat) (k:St→α):α :=
 match hp with
 |(h,o)::r=>fO o fun o=>fN nx fun nx=>k ⟨tm,(h,o)::r,nx⟩
 |[]=>fN nx fun nx=>k ⟨tm,[],nx⟩
noncomputable def jqa {α:Type} (o:Oper) (r:Res) (st:St) (k:St→α):α :=
 fV r.v fun v=>putG o.op (st.put o.dst ⟨True,v,r.hp,r.nx⟩) k
where
 putG (op:Op) (st:St) (k:St→α):α :=
  match op with
  | .store _ _ _=>stF 1 st k
  | .call c=>match c.callee with
   | .value _=>fN st.nx fun nx=>k ⟨st.tm,st.hp,nx⟩
   | .builtin .append=>stF 2 st k
   |_=>k st
  | .box _ _=>jnF st.tm st.hp st.nx k
  | .alloc _=>jnF st.tm st.hp st.nx k
  | .makeSlice _ _ _=>jnF st.tm st.hp st.nx k
  | .buildSlice _ _ _=>jnF st.tm st.hp st.nx k
  | .slice _ _ _ _ _=>jnF st.tm st.hp st.nx k
  |_=>k st
noncomputable def cOp [Globs] (P:Program) (sp:jaa) (N:Nat) (o:Oper) (st:St):Option St :=
 match jcd N o.dst with
 |false=>none
 |true =>
  match qV P o.op (rdQ st) st.hp with
  |some v=>fV v fun v=>some (st.put o.dst ⟨True,v,st.hp,st.nx⟩)
  |none=>match jgg P sp o.op (rdQ st) st.hp st.nx with
   |some t=>jqa o t.sel st some
   |none=>match jbN P sp o.op (rdQ st) st.hp st.nx with
    |some r=>match ja5 o.op (rdQ st) st.hp,obB P o.op (rdQ st) st.hp with
     |true,_=>jqa o r st some
     |false,true=>jqa o r st some
     |false,false=>none
    |none=>none
noncomputable def jpa (N:Nat) (o:Oper) (st:St):Option St :=
 match jcd N o.dst with
 |true=>some (st.put o.dst ⟨True,vu,st.hp,st.nx⟩)
 |false=>none
noncomputable def cOne [Globs] (P:Program) (sp:jaa) (N:Nat) (all:List Oper) (o:Oper) (st:St):Option St :=
 match o.guard with
 |none=>cOp P sp N o st
 |some (j,want) =>
  match(jlx all j).bind (·.dst)with
  |none=>none
  |some t=>match jp8 st.tm t with
   |some (.w (.c (.d (.b b))))=>match b,want with
    |true,true=>cOp P sp N o st
    |false,false=>cOp P sp N o st
    |true,false=>jpa N o st
    |false,true=>jpa N o st
   |some (.w (.c (.d (.v (.tuple _)))))=>jpa N o st
   |_=>none
noncomputable def cOps [Globs] (P:Program) (sp:jaa) (N:Nat) (all:List Oper) (l:List Oper) (st:St):Option St :=
 List.rec (motive:=fun _=>St→Option St) (fun st=>some st) (fun o _ ih st=>Option.rec (motive:=fun _=>Option St) none (fun st'=>ih st') (cOne P sp N all o st)) l st
noncomputable def obC [Globs] (P:Program) (op:Op) (rd:Operand→Option V) (hp:Hp) (r:Rec):Option Rec :=
 match ja5 op rd hp,obB P op rd hp with
 |true,_=>fV r.v fun v=>some { r with v:=v }
 |false,true=>fV r.v fun v=>some { r with v:=v }
 |false,false=>none
noncomputable def jfq (q:Nat→Bool) (st0:St) (tr:List Rec) (h:Nat):Bool :=
 List.rec (motive:=fun _=>Bool) true (fun _ tr ih=>Bool.rec (motive:=fun _=>Bool) ih (q tr.length) (Nat.ble (jab st0 tr) h)) tr
theorem jg8 (q:Nat→Bool) (st0:St):∀(tr:List Rec) (h:Nat),jfq q st0 tr h=jar q st0 tr h
 |[],_=>rfl
 |_::tr,h=>by
  have ih:=jg8 q st0 tr h;simp only[jar,←ih]
  show Bool.rec (motive:=fun _=>Bool) (jfq q st0 tr h) (q tr.length) (Nat.ble (jab st0 tr) h)=_
  cases Nat.ble (jab st0 tr) h<;>rfl
noncomputable def jdD (bef:List Nat) (st0:St) (tr:List Rec) (v:V) (hp:Hp) (nx:Nat):Bool :=
 Nat.ble (jab st0 tr) nx&&v.allB (fun h=>Nat.blt h nx&&(Nat.ble (jab st0 tr) h||jfq (fun j=>bef.contains j) st0 tr h)) &&
  hp.all (fun x=>Nat.blt x.1 nx&&x.2.allB fun h=>Nat.blt h nx&&(Nat.ble (jab st0 tr) h||jfq (fun j=>bef.contains j) st0 tr h))
theorem jly (bef:List Nat) (st0:St) (tr:List Rec) (v:V) (hp:Hp) (nx:Nat):jdD bef st0 tr v hp nx=ja0 bef st0 tr v hp nx:=by
 unfold jdD ja0;rw[show jfq (fun j=>bef.contains j) st0 tr=jar (fun j=>bef.contains j) st0 tr from funext (jg8 _ _ tr)]
noncomputable def jl8 (bef:List Nat) (st0:St) (tr:List Rec):Hp :=
 match jc8 bef tr with
 |true=>(jam st0 tr).filter fun x=>jfq (fun j=>bef.contains j) st0 tr x.1
 |false=>(jam st0 tr).filter fun x=>jfq (fun j=>bef.contains j) st0 tr x.1&&jbv st0 bef x.1 tr
theorem jAc (bef:List Nat) (st0:St) (tr:List Rec):jl8 bef st0 tr=jdk bef st0 tr:=by
 unfold jl8 jdk;rw[show jfq (fun j=>bef.contains j) st0 tr=jar (fun j=>bef.contains j) st0 tr from funext (jg8 _ _ tr)];cases jc8 bef tr<;>rfl
def jrH (L:List Oper) (t:Nat):Nat→Option Nat
 |0=>none
 |i+1=>match jbJ L i with
  |some d=>if d=t then some i else jrH L t i
  |none=>jrH L t i
def jez (L:List Oper) (bef:List Nat) (i t:Nat):Bool :=
 match jrH L t i with
 |some j=>bef.contains j
 |none=>true
def jiP (L:List Oper) (tab:List (List Nat)):Nat→List Oper→Bool
 |_,[]=>true
 |i,o::r=>(jap L o).all (fun t=>jez L (tab.getD i []) i t)&&jiP L tab (i+1) r
noncomputable def rdF [Globs] (st0:St) (nm:List Nat) (tm:List (Nat × V)):Operand→Option V
 | .tmp t=>match nm.contains t with
  |true=>jp8 tm t
  |false=>none
 |x=>jce st0 x
def mkF [Globs] (L:List Oper) (tab:List (List Nat)) (st0:St) (o:Oper) (n:Nat) (tr:List Rec):Option Bool :=
 match ja3 tab n false false 0 L with
 |true=>some false
 |false=>jpH L tab st0 o tr
noncomputable def jw3 (P:Program) (op:Op) (rd:Operand→Option V) (bef:List Nat) (st0:St) (tr:List Rec):Option Rec :=
 match qLoadOp op with
 |true=>match loadAt op rd with
  |none=>none
  |some h=>match jl7 (jam st0 tr) h with
   |none=>none
   |some x=>match jfq (fun j=>bef.contains j) st0 tr h&&jbv st0 bef h tr with
    |false=>none
    |true=>match qV P op rd [(h,x)]with
     |some v=>fV v fun v=>match jdD bef st0 tr v [] (jab st0 tr)with
      |true=>some ⟨v,jam st0 tr,jab st0 tr,0,[],none⟩
      |false=>none
     |none=>none
 |false=>none
where
 qLoadOp:Op→Bool
  | .load _ _=>true
  | .indexAddr _ _ _=>true
  | .call c=>match c.callee with
   | .builtin .len=>true
   |_=>false
  |_=>false
noncomputable def qdop (P:Program) (op:Op) (rd:Operand→Option V) (hp:Hp) (bef:List Nat) (st0:St) (tr:List Rec):Option Rec :=
 match qV P op rd hp with
 |some v=>fV v fun v=>match jdD bef st0 tr v [] (jab st0 tr)with
  |true=>some ⟨v,jam st0 tr,jab st0 tr,0,[],none⟩
  |false=>none
 |none=>none
noncomputable def jnG [Globs] (P:Program) (sp:jaa) (N:Nat) (L:List Oper) (tab:List (List Nat)) (st0:St) (o:Oper) (n:Nat) (bef:List Nat) (rd:Operand→Option V) (tr:List Rec):Option Rec :=
 match jcd N o.dst with
 |false=>none
 |true =>
  match qdop P o.op rd [] bef st0 tr with
  |some r=>some r
  |none =>
  match ja1 P o.op rd []with
  |some (_,v)=>match jdD bef st0 tr v [] (jab st0 tr)with
   |true=>obC P o.op rd [] ⟨v,jam st0 tr,jab st0 tr,0,[],none⟩
   |false=>none
  |none =>
   match jaw o.op with
   |true=>match jkJ o.op with
    |true=>match ja1 P o.op rd (jfE bef st0 tr)with
     |some (_,v)=>match jdD bef st0 tr v [] (jab st0 tr)with
      |true=>obC P o.op rd (jfE bef st0 tr) ⟨v,jam st0 tr,jab st0 tr,0,[],none⟩
      |false=>none
     |none=>none
    |false=>none
   |false =>
    match jaE o.op with
    |true=>match jw3 P o.op rd bef st0 tr with
     |some r=>some r
     |none=>match loadAt o.op rd with
     |none=>none
     |some h=>match find (jam st0 tr) h with
      |none=>none
      |some x=>match jfq (fun j=>bef.contains j) st0 tr h&&jbv st0 bef h tr with
       |false=>none
       |true=>match ja1 P o.op rd [(h,x)]with
        |none=>match jfl tab n 0 L&&jc8 bef tr&&jao sp o.op rd with
         |false=>none
         |true=>match jbN P sp o.op rd (jl8 bef st0 tr) (jab st0 tr)with
          |some res=>match jdD bef st0 tr res.v (jaT (jab st0 tr) res.hp) res.nx with
           |true=>obCall P sp o.op rd (jl8 bef st0 tr) ⟨res.v,jaT (jab st0 tr) res.hp++jam st0 tr,res.nx,1,jaT (jab st0 tr) res.hp,none⟩
           |false=>none
          |none=>none
        |some (_,v)=>match jdD bef st0 tr v [] (jab st0 tr)with
         |true=>obC P o.op rd [(h,x)] ⟨v,jam st0 tr,jab st0 tr,0,[],none⟩
         |false=>none
    |false =>
    match jao sp o.op rd with
    |true=>match jbN P sp o.op rd (jl8 bef st0 tr) (jab st0 tr)with
     |some res=>match jdD bef st0 tr res.v (jaT (jab st0 tr) res.hp) res.nx&&jon bef tr (jaT (jab st0 tr) res.hp)with
      |true=>obCall P sp o.op rd (jl8 bef st0 tr) ⟨res.v,jaT (jab st0 tr) res.hp++jam st0 tr,res.nx,1,jaT (jab st0 tr) res.hp,none⟩
      |false=>none
     |none=>none
    |false=>match mkF L tab st0 o n tr with
     |none=>none
     |some mk=>match jbN P sp o.op rd (jam st0 tr) (jab st0 tr)with
      |some res=>match jdD bef st0 tr res.v res.hp res.nx&&jpI L tab st0 o tr mk res.hp with
       |true=>obCall P sp o.op rd (jam st0 tr) ⟨res.v,res.hp,res.nx,2,[],jbB L tab st0 o tr⟩
       |false=>none
      |none=>none
where
 obCall [Globs] (P:Program) (sp:jaa) (op:Op) (rd:Operand→Option V) (hp:Hp) (r:Rec):Option Rec :=
  match op with
  | .call c=>match c.callee with
   | .value _=>fV r.v fun v=>some { r with v:=v }
   |_=>obC P op rd hp r
  |op=>obC P op rd hp r
noncomputable def jlz (N:Nat) (st0:St) (o:Oper) (tr:List Rec):Option Rec :=
 match jcd N o.dst with
 |false=>none
 |true=>some ⟨vu,jam st0 tr,jab st0 tr,0,[],none⟩
def jjL (o:Oper) (r:Rec) (tm:List (Nat × V)):List (Nat × V) :=
 match o.dst with
 |some d=>(d,r.v)::tm
 |none=>tm
noncomputable def jeA [Globs] (P:Program) (sp:jaa) (N:Nat) (L:List Oper) (tab:List (List Nat)) (st0:St):List Oper→Nat→List (Nat × V)→List Rec→Option (List (Nat × V) × List Rec)
 |[],_,tm,tr=>some (tm,tr)
 |o::rest,n,tm,tr =>
  match o.guard with
  |none=>match jnG P sp N L tab st0 o n (tab.getD n []) (rdF st0 (jap L o) tm) tr with
   |some r=>jeA P sp N L tab st0 rest (n+1) (jjL o r tm) (r::tr)
   |none=>none
  |some (g,want) =>
   match jbJ L g with
   |none=>none
   |some t =>
    match jp8 tm t with
    |some (.w (.c (.d (.b b)))) =>
     match b,want with
     |true,true=>match jnG P sp N L tab st0 o n (tab.getD n []) (rdF st0 (jap L o) tm) tr with
      |some r=>jeA P sp N L tab st0 rest (n+1) (jjL o r tm) (r::tr)
      |none=>none
     |true,false=>match jlz N st0 o tr with
      |some r=>jeA P sp N L tab st0 rest (n+1) (jjL o r tm) (r::tr)
      |none=>none
     |false,true=>match jlz N st0 o tr with
      |some r=>jeA P sp N L tab st0 rest (n+1) (jjL o r tm) (r::tr)
      |none=>none
     |false,false=>match jnG P sp N L tab st0 o n (tab.getD n []) (rdF st0 (jap L o) tm) tr with
      |some r=>jeA P sp N L tab st0 rest (n+1) (jjL o r tm) (r::tr)
      |none=>none
    |some (.w (.c (.d (.v (.tuple _)))))=>match jlz N st0 o tr with
     |some r=>jeA P sp N L tab st0 rest (n+1) (jjL o r tm) (r::tr)
     |none=>none
    |_=>none
noncomputable def jyH [Globs] (P:Program) (sp:jaa) (N:Nat) (ops:Array Oper) (st:St):Option St :=
 match jcj ops.toList (jgO ops.toList []) 0 ops.toList&&jds 0 ops.toList&&jiP ops.toList (jgO ops.toList []) 0 ops.toList with
 |true=>match jeA P sp N ops.toList (jgO ops.toList []) st ops.toList 0 st.tm []with
  |some (tm,tr)=>some ⟨tm,jam st tr,jab st tr⟩
  |none=>none
 |false=>none
noncomputable def jw4 [Globs] (P:Program) (sp:jaa) (N:Nat) (ops:Array Oper) (st:St):Option St :=
 match jsq ops.toList with
 |[]=>jyH P sp N ops st
 |_::_=>none
noncomputable def jpb (body:St→Option (Ex × St)) (n:Nat) (st:St):Option (Ex × St) :=
 Nat.rec (motive:=fun _=>St→Option (Ex × St)) (fun _=>none) (fun _ ih st=>match body st with
  |some (.normal,st')=>stG st' fun st'=>ih st'
  |x=>x) n st
noncomputable def jw5 [Globs] (P:Program) (sp:jaa) (N:Nat) (ops:Array Oper) (draw:Bool) (st:St):Option (Ex × St) :=
 match draw with
 |false=>match cOps P sp N ops.toList ops.toList st with
  |some st'=>some (.normal,st')
  |none=>none
 |true=>match jw4 P sp N ops st with
  |some st'=>stF 3 st' fun st'=>some (.normal,st')
  |none=>none
noncomputable def jcS (r:Option (Ex × St)) (y:St→Option (Ex × St)):Option (Ex × St) :=
 match r with
 |some (.normal,st')=>y st'
 |x=>x
noncomputable def jtn [Globs] (c:Operand) (x y:St→Option (Ex × St)) (st:St):Option (Ex × St) :=
 match rdQ st c with
 |some (.w (.c (.d (.b true))))=>x st
 |some (.w (.c (.d (.b false))))=>y st
 |_=>none
noncomputable def jqb (id:Nat) (r:Option (Ex × St)):Option (Ex × St) :=
 match r with
 |some (.exit j,st')=>match Nat.beq j id with
  |true=>some (.normal,st')
  |false=>some (.exit j,st')
 |x=>x
noncomputable def cx [Globs] (P:Program) (sp:jaa) (N fuel:Nat) (c:Code):St→Option (Ex × St) :=
 Code.rec (motive:=fun _=>St→Option (Ex × St)) (fun st=>some (.normal,st)) (fun _ ops draw st=>jw5 P sp N ops draw st)
  (fun _ _ x y st=>jcS (x st) y) (fun c _ _ x y st=>jtn c x y st) (fun id _ x st=>jqb id (x st)) (fun _ x st=>jpb x fuel st)
  (fun _ _ _ _ _ _ _=>none) (fun id st=>some (.exit id,st)) (fun _ _ _=>none) (fun _ st=>some (.normal,st)) (fun _ _=>none) (fun st=>some (.ret,st)) (fun _ _=>none) c
def jqc (P:Program) (st:St):ResultVar→Option W
 | .tmp t=>match jav st.tm t with
  |some (.w u)=>some u
  |_=>none
 | .cell t ty=>match jav st.tm t with
  |some (.w (.c (.p h i e j)))=>match find st.hp h with
   |some o=>match jc5 P ty o i e j,jwV P ty o i e j with
    |some (_,.w u),true=>some u
    |_,_=>none
   |none=>none
  |_=>none
def jdv (P:Program) (st:St):List ResultVar→Option (List W)
 |[]=>some []
 |r::rs=>match jqc P st r,jdv P st rs with
  |some x,some l=>some (x::l)
  |_,_=>none
noncomputable def outF {α:Type} (n0:Nat) (v:V) (st:St) (k:Hp→α):α :=
 jiO n0 st.hp 6 (jrG v 0) fun m=>hpF (fun h=>Nat.blt h n0||Nat.testBit m h) 0 0 st.hp k
def jg9 (hp:Hp) (v:V):V :=
 match v with
 | .w (.c (.o h))=>match find hp h with
  |some (.box _ _)=>.w (.c (.p h 0 1 0))
  |some (.ebox _)=>.w (.c (.p h 0 1 0))
  |some (.arr _ _ _ _)=>.w (.c (.p h 0 1 0))
  |_=>.w (.c (.o h))
 |v=>v
noncomputable def inl [Globs] (P:Program) (sp:jaa) (fn:Func) (body:Code) (fuel:Nat):Spec:=fun args hp nx =>
 match Nat.ble args.length fn.ntmps with
 |false=>none
 |true=>match cx P sp fn.ntmps fuel body ⟨jbZ 0 (args.map (jg9 hp)),hp,nx⟩with
  |some (e,st)=>match e with
   | .exit _=>none
   |_=>match jdv P st fn.results.toList,Nat.ble nx st.nx with
    |some l,true=>fV (jaU l) fun v=>outF nx v st fun hp'=>some (.leaf ⟨True,v,hp',st.nx⟩)
    |_,_=>none
  |none=>none
def roO:O→O
 | .row _ c=>extR c
 | .ext c=>extR c
 | .view _ c _=>extR c
 | .rrow c=>extR c
 | .fext c=>extR c
 | .sub _ _ _ _ _ c=>extR c
 | .box _ cs=>.ebox cs
 | .ebox cs=>.ebox cs
 | .lbox _ e n cs=>lstR e n cs
 | .lview _ e n cs=>lstR e n cs
 | .elist e n cs=>.elist e n cs
 | .xext x=>.xext x
 |_=>.dead
where
 extR (c:Cont):O:=match c.e with
  |0=>.dead
  |_+1=>.ext c
 lstR (e n:Nat) (cs:List C):O:=match e with
  |0=>.dead
  |e+1=>.elist (e+1) n cs
def jf6 (hp:Hp):Hp:=hp.map fun x=>(x.1,roO x.2)
noncomputable def outN {α:Type} (n0:Nat) (v:V) (st:St) (k:Hp→α):α :=
 jiO n0 st.hp 6 (jrG v 0) fun m=>hpF (fun h=>Nat.ble n0 h&&Nat.testBit m h) 0 0 st.hp k
def jto (v:V) (hp:Hp) (nx:Nat) (hp':Hp):Option RT :=
 match hp'.all (fun x=>jeS x.2)with
 |true=>some (.leaf ⟨True,v,hp' ++ hp,nx⟩)
 |false=>none
noncomputable def jtp [Globs] (P:Program) (sp:jaa) (fn:Func) (body:Code) (fuel:Nat):Spec:=fun args hp nx =>
 match Nat.ble args.length fn.ntmps with
 |false=>none
 |true=>match cx P sp fn.ntmps fuel body ⟨jbZ 0 (args.map (jg9 hp)),jf6 hp,nx⟩with
  |some (e,st)=>match e with
   | .exit _=>none
   |_=>match jdv P st fn.results.toList,Nat.ble nx st.nx with
    |some l,true=>fV (jaU l) fun v=>outN nx v st (jto v hp st.nx)
    |_,_=>none
  |none=>none
noncomputable def jnH [Globs] (P:Program) (ov:jaa) (ro:Nat→Bool) (fuel:Nat):Nat→jaa
 |0=>fun _=>none
 |n+1=>fun f=>match ov f with
  |some x=>some x
  |none=>match P.funcs[f]? with
   |some fn=>match fn.body,fn.name == "runtime.NumGoroutine" with
    |some body,false=>match ro f with
     |true=>some (true,jtp P (jnH P ov ro fuel n) fn body fuel)
     |false=>some (false,inl P (jnH P ov ro fuel n) fn body fuel)
    |_,_=>none
   |none=>none
end Go.Sx
end
