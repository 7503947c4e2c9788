/- Part 5 of the proof of EngineWays: the executor, the mirrors of the functions, the plain facts. -/
import Derived.Test.YtigliehhpdpaoaaGreatPD
set_option maxRecDepth 100000
set_option linter.unusedSectionVars false
set_option linter.unusedSimpArgs false
set_option linter.unusedVariables false
section
namespace Go.Sx09
open Go Go.Proofs Go.RowKit Go.Shelf Go.Sx
attribute [local go_sem] Oper.semAt_some
structure KpS (K:Nat→Prop) (A C:World):Prop where
 size:A.heap.size≤C.heap.size
 same:∀k o,K k→A.heap[k]?=some o→o.isCells=true→C.heap[k]?=some o
theorem kps_t {K:Nat→Prop} {A B C:World} (h:KpS K A B) (k:KpS K B C):KpS K A C:=⟨Nat.le_trans h.size k.size,fun x o hx ho hc=>k.same x o hx (h.same x o hx ho hc) hc⟩
theorem kps_b {K:Nat→Prop} {w:World} (W:World) (l:Nat) (o o':Obj) (_:w.heap.size≤l) (h:W.heap[l]?=some o) (hc:o.isCells=false) (_:o.isWalk=false):KpS K W (W.putObj l o') :=
 ⟨by simp,fun k u _ hk hu=>by
  have hne:l≠k:=fun e=>by subst e; rw[h]at hk; cases hk; rw[hc]at hu; cases hu
  exact(World.putObj_heap_other (fun e=>hne e.symm)).trans hk⟩
theorem jxe {K:Nat→Prop} {A B:World} (h:Below A.heap.size A B):KpS K A B:=⟨h.size,fun k o _ hk _=>(h.block k (Array.getElem?_eq_some_iff.1 hk).1).trans hk⟩
def needL (L:List Int) (st:Int):List Int:=if st=-1 then L else L++[st]
def stN (y:Value) (L:List Int) (v:List Value) (st:Int) (k:Nat):St :=
 ⟨[(18,vi .i64 k),(17,vi .i64 L.length),(16,.w (.c (.o 0))),(4,.w (.c (.p 1 0 1 0))),(0,.w (.c (.d (.v y))))],[(0,.ext (.ints .i64 L)),(1,.ebox (v.map (fun x=>C.d (.v x))++[.d (.i .i64 st)]))],2⟩
def stNc (y:Value) (L:List Int) (v:List Value) (st:Int) (k:Nat):St:=⟨(19,vb (decide ((k:Int)<L.length)))::(stN y L v st k).tm,(stN y L v st k).hp,2⟩
def stNd (y:Value) (L:List Int) (v:List Value) (st:Int) (k:Nat):St:=⟨(6,vi .i64 (L.getD k 0))::(stN y L v st k).tm,(stN y L v st k).hp,2⟩
def stNe (y:Value) (L:List Int) (v:List Value) (st:Int) (k:Nat):St:=⟨(29,vb (st != -1))::(stN y L v st k).tm,(stN y L v st k).hp,2⟩
abbrev pn (c:Code) (st st2:St):Prop:=sx Tryz.prog (fun _=>none) 34 2 0 (fun _ _ _=>none) (fun _ _ _=>False) c 0 [] st (fun e st'=>match e with | .normal=>Le 2 st' st2|_=>False)
section
variable (y:Value) (L:List Int) (v0 v1 v2 v3 v4 v5 v6:Value) (st:Int) (k:Nat)
theorem pn1:pn (sub [1,0,1,0,0,0] (bodyOf Tryz.f132)) (stN y L [v0,v1,v2,v3,v4,v5,v6] st k) (stNc y L [v0,v1,v2,v3,v4,v5,v6] st k):=by
 refine Eq.mp (by kernel_rfl:(Ob ((decide ((k:Int)<L.length))=decide ((k:Int)<L.length))∧Ob ((k:Int)=k)∧Ob ((L.length:Int)=L.length)∧Ob ((0:Nat)=0)∧Ob (y=y)∧Ob (L=L)∧Ob (v0=v0)∧Ob (v1=v1)∧Ob (v2=v2)∧Ob (v3=v3)∧Ob (v4=v4)∧Ob (v5=v5)∧Ob (v6=v6)∧Ob (st=st)∧True)=_) ?_
 exact⟨⟨rfl⟩,⟨rfl⟩,⟨rfl⟩,⟨rfl⟩,⟨rfl⟩,⟨rfl⟩,⟨rfl⟩,⟨rfl⟩,⟨rfl⟩,⟨rfl⟩,⟨rfl⟩,⟨rfl⟩,⟨rfl⟩,⟨rfl⟩,trivial⟩
theorem pn2 (hk:k<L.length):pn (sub [1,0,1,0,0,1,1,0,0,0] (bodyOf Tryz.f132)) (stNc y L [v0,v1,v2,v3,v4,v5,v6] st k) (stNd y L [v0,v1,v2,v3,v4,v5,v6] st k):=by
 refine Eq.mp (by kernel_rfl:(Ob (0≤(k:Int)∧(k:Int)<(L.length:Int))∧Ob ((k:Int).toNat<L.length)∧Ob (L.getD (k:Int).toNat 0=L.getD k 0)∧Ob ((k:Int)=k)∧Ob ((L.length:Int)=L.length)∧Ob ((0:Nat)=0)∧Ob (y=y)∧Ob (L=L)∧Ob (v0=v0)∧Ob (v1=v1)∧Ob (v2=v2)∧Ob (v3=v3)∧Ob (v4=v4)∧Ob (v5=v5)∧Ob (v6=v6)∧Ob (st=st)∧True)=_) ?_
 exact⟨⟨by omega⟩,⟨by omega⟩,⟨rfl⟩,⟨rfl⟩,⟨rfl⟩,⟨rfl⟩,⟨rfl⟩,⟨rfl⟩,⟨rfl⟩,⟨rfl⟩,⟨rfl⟩,⟨rfl⟩,⟨rfl⟩,⟨rfl⟩,⟨rfl⟩,⟨rfl⟩,trivial⟩
theorem pn3 (hk:(k:Int)+1≤9223372036854775807):pn (sub [1,0,1,0,0,1,1,1] (bodyOf Tryz.f132)) (stN y L [v0,v1,v2,v3,v4,v5,v6] st k) (stN y L [v0,v1,v2,v3,v4,v5,v6] st (k+1)):=by
 refine Eq.mp (by kernel_rfl:(Ob (IntKind.i64.wrap ((k:Int)+1)=((k+1:Nat):Int))∧Ob ((L.length:Int)=L.length)∧Ob ((0:Nat)=0)∧Ob (y=y)∧Ob (L=L)∧Ob (v0=v0)∧Ob (v1=v1)∧Ob (v2=v2)∧Ob (v3=v3)∧Ob (v4=v4)∧Ob (v5=v5)∧Ob (v6=v6)∧Ob (st=st)∧True)=_) ?_
 refine⟨⟨?_⟩,⟨rfl⟩,⟨rfl⟩,⟨rfl⟩,⟨rfl⟩,⟨rfl⟩,⟨rfl⟩,⟨rfl⟩,⟨rfl⟩,⟨rfl⟩,⟨rfl⟩,⟨rfl⟩,⟨rfl⟩,trivial⟩
 rw[IntWalk.i64_in _ (by omega)]
 omega
theorem pn4:pn (sub [1,1,0] (bodyOf Tryz.f132)) (stN y L [v0,v1,v2,v3,v4,v5,v6] st k) (stNe y L [v0,v1,v2,v3,v4,v5,v6] st k):=by
 refine Eq.mp (by kernel_rfl:(Ob True∧Ob ((st != (-1:Int))=(st != (-1:Int)))∧Ob ((k:Int)=k)∧Ob ((L.length:Int)=L.length)∧Ob ((0:Nat)=0)∧Ob (y=y)∧Ob (L=L)∧Ob (v0=v0)∧Ob (v1=v1)∧Ob (v2=v2)∧Ob (v3=v3)∧Ob (v4=v4)∧Ob (v5=v5)∧Ob (v6=v6)∧Ob (st=st)∧True)=_) ?_
 exact⟨⟨trivial⟩,⟨rfl⟩,⟨rfl⟩,⟨rfl⟩,⟨rfl⟩,⟨rfl⟩,⟨rfl⟩,⟨rfl⟩,⟨rfl⟩,⟨rfl⟩,⟨rfl⟩,⟨rfl⟩,⟨rfl⟩,⟨rfl⟩,⟨rfl⟩,trivial⟩
end
theorem jgb {ρ:Env} {B:Kd} {N n0:Nat} {st:St} {a:Act} {w:World} {t:Nat} {v:V} (h:Rel ρ B N n0 st a w) (hv:v.lt st.nx) (hlt:t<N):Rel ρ B N n0 ⟨(t,v)::st.tm,st.hp,st.nx⟩ (a.put (some t) (v.val ρ)) w:=by
 refine⟨fun x u hx=>?_,by rw[jbn]; exact h.size,by rw[jcv]; exact h.defers,h.heap,h.le,h.n0⟩
 simp only[jaD]at hx
 rw[jbB (fun y hy=>by cases hy; rw[h.size]; exact hlt)]
 split at hx
 ·rename_i e
  subst e
  cases hx
  exact⟨hv,by rw[if_pos rfl]⟩
 ·rename_i e
  rw[if_neg (fun e'=>e (Option.some.inj e'))]
  exact h.tm x u hx
theorem jso {o:Oper} {v:Value} {n:Nat} {a:Act} {w:World} {K:Act→World→Prop} {Q:Exit→Act→World→Prop} (h:(execOp a.eval o).run Tryz.prog w=.ok (.value v) w) (hK:K (a.put o.dst v) w):o.wpIn Fence.wide n Tryz.prog a w K Q:=by
 refine⟨fun _ _=>trivial,?_⟩
 rw[Fence.wide_round,Oper.semAt_none,h]
 exact hK
theorem jdl {o:Oper} {t n N n0:Nat} {ob:Prop} {v:V} {ρ:Env} {B:Kd} {st:St} {a:Act} {w:World} {K:Act→World→Prop} {Q:Exit→Act→World→Prop} (hr:Rel ρ B N n0 st a w) (hs:ja1 Tryz.prog o.op (jb1 st) st.hp=some (ob,v)) (hob:ob) (hd:o.dst=some t) (ht:t<N)
  (hK:∀a',Rel ρ B N n0 ⟨(t,v)::st.tm,st.hp,st.nx⟩ a' w→K a' w):o.wpIn Fence.wide n Tryz.prog a w K Q:=by
 obtain⟨B',_,hh⟩:=hr.heap
 have h1:=jfh hh hr.reads hs hob
 refine jso h1.1 ?_
 rw[hd]
 exact hK _ (jgb hr h1.2 ht)
theorem juE {ρ:Env} {B:Kd} {N n0:Nat} {s s0:St} {a:Act} {w:World} (h:Rel ρ B N n0 s0 a w) (ht:∀t v,jaD s.tm t=some v→jaD s0.tm t=some v) (hh:s.hp=s0.hp) (hn:s.nx=s0.nx):Rel ρ B N n0 s a w :=
 ⟨fun t v hv=>by rw[hn]; exact h.tm t v (ht t v hv),h.size,h.defers,by rw[hh,hn]; exact h.heap,h.le,by rw[hn]; exact h.n0⟩
structure BetN (K:Nat→Prop) (y:Value) (L:List Int) (v:List Value) (st:Int) (k:Nat) (a:Act) (w:World):Prop where
 rel:∃ρ,Rel ρ (kd fun x=>x<w.heap.size) 34 2 (stN y L v st k) a w∧(∀ad n cap,ρ 0=.slice (some ad) n cap→0<n→K ad.block)∧∀b o,ρ 1=.pointer (some ⟨b,o,none⟩)→K b
theorem jlF {K:Nat→Prop} {ρ:Env} {B:Kd} {L:List Int} {v:List Value} {st:Int} {a:Act} {w w':World} {s:St} (h:Rel ρ B 34 2 s a w) (hs:s.hp=[(0,.ext (.ints .i64 L)),(1,.ebox (v.map (fun x=>C.d (.v x))++[.d (.i .i64 st)]))]) (h0:∀ad n cap,ρ 0=.slice (some ad) n cap→0<n→K ad.block) (h1:∀b o,ρ 1=.pointer (some ⟨b,o,none⟩)→K b) (hk:KpS K w w') :
  Rel ρ (kd fun x=>x<w'.heap.size) 34 2 s a w':=by
 obtain⟨B',_,hh⟩:=h.heap
 have keep:∀{b:Nat} {off:Nat} {u:Value},K b→w.cell? ⟨b,off,none⟩=some u→w'.cell? ⟨b,off,none⟩=some u:=fun {b off u} hK hc=>by
  obtain⟨o,ho,hoc⟩:=cells_of_cell hc
  have h2:=hk.same _ o hK ho hoc
  exact(World.cell?_of_block (w:=w) (w':=w') (a:=⟨b,off,none⟩) (h2.trans (show w.heap[b]?=some o from ho).symm)).trans hc
 refine⟨h.tm,h.size,h.defers,⟨kd fun x=>x<w'.heap.size,Grow.refl _ _ _ _,⟨fun x o hf=>?_,fun x o x' o' b hf hf' hne hb=>?_,jf0⟩⟩,fun k hk=>jbz.1 hk,h.n0⟩
 ·have hx:=hh.ok x o hf
  refine⟨hx.1,hx.2.1,?_⟩
  simp only[hs,find]at hf
  split at hf
  ·rename_i e; subst e; cases hf
   obtain⟨⟨ad,cap,hv,hc,hcells⟩,ho⟩:=hx.2.2
   have hrow:jaF w' (ρ 0) (.ints .i64 L):=by
    refine⟨ad,cap,hv,hc,fun hn=>?_⟩
    obtain⟨b,off,hab,hxc⟩:=hcells hn
    subst hab
    exact⟨b,off,rfl,fun j z hj=>keep (h0 _ _ _ hv hn) (hxc j z hj)⟩
   exact⟨hrow,hrow.lt (Nat.lt_succ_self 0)⟩
  ·split at hf
   ·rename_i e; subst e; cases hf
    obtain⟨b,off,hv,hB,hcells⟩:=hx.2.2
    have hK:=h1 b off hv
    refine⟨b,off,hv,?_,fun j c hj=>keep hK (hcells j c hj)⟩
    have hc0:=keep hK (hcells v.length (.d (.i .i64 st)) (by rw[List.getElem?_append_right (by simp)]; simp))
    exact World.block_lt_of_cell? w' _ hc0
   ·cases hf
 ·simp only[hs,find]at hf
  split at hf
  ·cases hf; cases hb
  ·split at hf
   ·cases hf; cases hb
   ·cases hf
theorem jkY {K:Nat→Prop} {A B:World} (h:A.grownBy B none):KpS K A B:=⟨h.size,fun k o _ hk _=>(h.block k (Array.getElem?_eq_some_iff.1 hk).1 (fun e=>by cases e)).trans hk⟩
theorem jp6 {l:Nat} {fn tmps assign body:_} {x:Value} {W:World} {a:Act} {s q ty:Nat} (hs:a.eval (.tmp s)=.func (.yield l) #[] #[]) (hq:a.eval (.tmp q)=x)
  (hy:(Instr.yield l #[x]).run Tryz.prog W=.ok (.round l fn tmps assign body) W) (o:Oper) (ho:o.op=.call { callee:=.value (.tmp s),args:=#[.tmp q],argTypes:=#[ty] }) :
  ((o.semAt Fence.wide.round a.eval).run Tryz.prog W)=.ok (.round l fn tmps assign body) W:=by
 rw[Fence.wide_round,Oper.semAt_none]
 unfold execOp
 simp only[ho,resolve,hs,Deferred.ofValue,Sem.run_bind,Sem.run_pure,Result.andThen_ok,invoke,List.map_toArray,List.map_cons,List.map_nil,hq]
 exact hy
theorem jxf {α:Type} {enc:α→Int} {A:List α} {L:List Int} {st:Int} (hA:A.map enc=needL L st) {k:Nat} (hk:k<L.length):∃h:k<A.length,enc A[k]=L.getD k 0:=by
 have hlen:A.length=(needL L st).length:=by rw[←hA]; simp
 have h1:k<(needL L st).length:=by
  unfold needL
  split
  ·exact hk
  ·simp; omega
 refine⟨by omega,?_⟩
 have h2:(A.map enc)[k]?=(needL L st)[k]?:=by rw[hA]
 rw[List.getElem?_map,List.getElem?_eq_getElem (by omega)]at h2
 have h3:(needL L st)[k]?=L[k]?:=by
  unfold needL
  split
  ·rfl
  ·rw[List.getElem?_append_left hk]
 rw[h3,List.getElem?_eq_getElem hk]at h2
 simp only[Option.map_some,Option.some.injEq]at h2
 rw[h2]
 simp[List.getD,List.getElem?_eq_getElem hk]
set_option maxHeartbeats 2000000 in
theorem jvS (n l:Nat) (K:Nat→Prop) (L:List Int) (v0 v1 v2 v3 v4 v5 v6:Value) (st:Int) (hL:(L.length:Int)<9223372036854775807) {α:Type} (enc:α→Int) (A:List α) (hA:A.map enc=needL L st) (J Jx:List α→World→Prop)
  (hY:∀(k:Nat) (h:k<A.length) W,J (A.take k) W→YieldAt Fence.wide (n-1) Tryz.prog l #[.int .i64 (enc A[k])] W fun e W' =>
   (e=.returned (.bool true)∧J (A.take (k+1)) W'∧KpS K W W')∨(e=.returned (.bool false)∧Jx (A.take (k+1)) W'))
  (hJ:∀A B pre,J pre A→A.grownBy B none→J pre B) (a:Act) (w:World) (hb:BetN K (.func (.yield l) #[] #[]) L [v0,v1,v2,v3,v4,v5,v6] st 0 a w) (hj0:J [] w)
  (R:World→Prop) (hR:∀k W,k≤A.length→Jx (A.take k) W→R W) (Q:Act→World→Prop) (hQ:∀a w,BetN K (.func (.yield l) #[] #[]) L [v0,v1,v2,v3,v4,v5,v6] st L.length a w→J (A.take L.length) w→Q a w) :
  (sub [1,0,1] (bodyOf Tryz.f132)).wpIn Fence.wide n Tryz.prog (Exit.then Q (bodyPost Tryz.prog Tryz.f132 fun e W'=>(∃v,e=.returned v)∧R W')) a w:=by
 refine wpIn_block (wpIn_loop (fun a w=>∃k,k≤L.length∧BetN K (.func (.yield l) #[] #[]) L [v0,v1,v2,v3,v4,v5,v6] st k a w∧J (A.take k) w) (fun a _=>L.length-(intOf (a.tmps.getD 18 undef)).toNat) ⟨0,by omega,hb,hj0⟩ ?_)
 rintro a w ⟨k,hk,⟨ρ,hr,hg0,hg1⟩,hj⟩
 have hmu:(intOf (a.tmps.getD 18 undef)).toNat=k:=by
  rw[(hr.tm 18 _ rfl).2]
  simp[intOf]
 rw[hmu]
 refine wpIn_seq (wpIn_wide.2 (wp_mono (jjh hr (pn1 _ L v0 v1 v2 v3 v4 v5 v6 st k)) ?_))
 rintro e a1 w1 ⟨rfl,hw1,ρ1,hr1,hag1⟩
 have hj1:=hJ _ _ _ hj hw1
 have hc:a1.eval (.tmp 19)=.bool (decide ((k:Int)<L.length)):=(hr1.tm 19 _ rfl).2
 by_cases hlt:k<L.length
 ·refine wpIn_seq (wpIn_cond_true (by rw[hc,decide_eq_true (by omega)]) (wpIn_skip ?_))
  have hg0a:∀ad n cap,ρ1 0=.slice (some ad) n cap→0<n→K ad.block:=fun ad n cap h=>hg0 ad n cap (by rw[←hag1 0 (by decide)]; exact h)
  have hg1a:∀b o,ρ1 1=.pointer (some ⟨b,o,none⟩)→K b:=fun b o h=>hg1 b o (by rw[←hag1 1 (by decide)]; exact h)
  have hr1b:Rel ρ1 (kd fun x=>x<w1.heap.size) 34 2 (stNc (.func (.yield l) #[] #[]) L [v0,v1,v2,v3,v4,v5,v6] st k) a1 w1:=jlF hr1 rfl hg0a hg1a (jkY (World.grownBy.refl w1 none))
  refine wpIn_seq (wpIn_block (wpIn_seq (wpIn_wide.2 (wp_mono (jjh hr1b (pn2 _ L v0 v1 v2 v3 v4 v5 v6 st k hlt)) ?_))))
  rintro e a2 w2 ⟨rfl,hw2,ρ2,hr2,hag2⟩
  have hj2:=hJ _ _ _ hj1 hw2
  obtain⟨hkA,henc⟩:=jxf hA hlt
  obtain⟨fn,tmps,assign,body,hy,hRd⟩:=hY k hkA w2 hj2
  rw[henc]at hy
  refine wpIn_seq (wpIn_region_list ?_)
  refine wpListIn_plain rfl fun K2 hK2=>jdl (t:=22) hr2 rfl trivial rfl (by decide) fun a3 hr3=>hK2 _ _ ?_
  refine wpListIn_plain rfl fun K2 hK2=>jdl (t:=23) hr3 rfl trivial rfl (by decide) fun a4 hr4=>hK2 _ _ ?_
  have g22:a4.eval (.tmp 22)=.func (.yield l) #[] #[]:=(hr4.tm 22 _ rfl).2
  have g23:a4.eval (.tmp 23)=.int .i64 (L.getD k 0):=(hr4.tm 23 _ rfl).2
  refine wpListIn_plain rfl fun K2 hK2=>⟨fun _ _=>trivial,?_⟩
  rw[jp6 (ty:=3) g22 g23 hy _ rfl]
  refine⟨(fun h=>by cases h),hRd.mono ?_⟩
  have hg0b:∀ad n cap,ρ2 0=.slice (some ad) n cap→0<n→K ad.block:=fun ad n cap h=>hg0a ad n cap (by rw[←hag2 0 (by decide)]; exact h)
  have hg1b:∀b o,ρ2 1=.pointer (some ⟨b,o,none⟩)→K b:=fun b o h=>hg1a b o (by rw[←hag2 1 (by decide)]; exact h)
  have hr5:∀(b:Bool) (w3:World),KpS K w2 w3→Rel ρ2 (kd fun x=>x<w3.heap.size) 34 2 _ (a4.put (some 24) (.bool b)) w3:=fun b w3 hk3=>jlF (jgb (v:=vb b) hr4 trivial (by decide)) rfl hg0b hg1b hk3
  rintro e w3 (⟨rfl,hj3,hk3⟩|⟨rfl,hj3⟩)
  ·refine hK2 _ _ (wpListIn_plain rfl fun K3 hK3=>jdl (t:=25) (hr5 true w3 hk3) rfl trivial rfl (by decide) fun a5 hr6=>hK3 _ _ (wpListIn_nil ?_))
   have g25:a5.eval (.tmp 25)=.bool false:=(hr6.tm 25 _ rfl).2
   refine wpIn_cond_false g25 (wpIn_skip ?_)
   have hr7:Rel ρ2 (kd fun x=>x<w3.heap.size) 34 2 (stN (.func (.yield l) #[] #[]) L [v0,v1,v2,v3,v4,v5,v6] st k) a5 w3:=juE hr6 (fun t v hv=>by
    simp only[stN,jaD]at hv
    simp only[stNd,stN,jaD]
    repeat' split at hv
    all_goals first
     |(cases hv; done)
     |(subst_vars; simp only[hv]; rfl)
     |(subst_vars; exact hv)) rfl rfl
   refine wpIn_wide.2 (wp_mono (jjh hr7 (pn3 _ L v0 v1 v2 v3 v4 v5 v6 st k (by omega))) ?_)
   rintro e a7 w7 ⟨rfl,hw7,ρ7,hr8,hag7⟩
   refine⟨⟨k+1,by omega,⟨ρ7,jlF hr8 rfl (fun ad n cap h=>hg0b ad n cap (by rw[←hag7 0 (by decide)]; exact h)) (fun b o h=>hg1b b o (by rw[←hag7 1 (by decide)]; exact h)) (jkY (World.grownBy.refl w7 none)),fun ad n cap h=>hg0b ad n cap (by rw[←hag7 0 (by decide)]; exact h),fun b o h=>hg1b b o (by rw[←hag7 1 (by decide)]; exact h)⟩,hJ _ _ _ hj3 hw7⟩,?_⟩
   rw[(hr8.tm 18 _ rfl).2]
   simp[intOf]
   omega
  ·have hr4b:=jgb (v:=vb false) (t:=24) hr4 trivial (by decide)
   have g24:(a4.put (some 24) (.bool false)).eval (.tmp 24)=.bool false:=(hr4b.tm 24 _ rfl).2
   refine hK2 _ _ (wpListIn_plain rfl fun K3 hK3=>jso (v:=.bool true) ?_ (hK3 _ _ (wpListIn_nil ?_)))
   ·unfold execOp
    dsimp only
    rw[g24]
    rfl
   have hr5:=jgb (v:=vb true) (t:=25) hr4b trivial (by decide)
   have g25:((a4.put (some 24) (.bool false)).put (some 25) (.bool true)).eval (.tmp 25)=.bool true:=(hr5.tm 25 _ rfl).2
   refine wpIn_cond_true g25 (wpIn_ret ?_)
   exact⟨hr5.defers,.tuple #[],results_none rfl _ _ _,⟨_,rfl⟩,hR (k+1) _ (by omega) hj3⟩
 ·have hk5:k=L.length:=by omega
  subst hk5
  refine wpIn_seq (wpIn_cond_false (by rw[hc,decide_eq_false (by omega)]) (wpIn_exit ?_))
  refine hQ _ _ ⟨ρ1,juE (jlF hr1 rfl (fun ad n cap h=>hg0 ad n cap (by rw[←hag1 0 (by decide)]; exact h)) (fun b o h=>hg1 b o (by rw[←hag1 1 (by decide)]; exact h)) (jkY (World.grownBy.refl w1 none))) (fun t v hv=>?_) rfl rfl,fun ad n cap h=>hg0 ad n cap (by rw[←hag1 0 (by decide)]; exact h),fun b o h=>hg1 b o (by rw[←hag1 1 (by decide)]; exact h)⟩ hj1
  have hne:t≠19:=fun e=>by subst e; simp[stN,jaD]at hv
  simp only[stNc,jaD]
  rw[if_neg (Ne.symm hne)]
  exact hv
abbrev shU:List NK:=[.s,.i .i64,.ints .i64,.ints .i64,.ints .i64,.i .i64,.recs 5,.i .i64]
def stI (y:Value) (nm:ByteArray) (l:List (List NC)) (i:Int) (co:Value):St:=⟨[(0,.w (.c (.d (.v y)))),(1,.w (.c (.p 1 0 1 0))),(2,.w (.c (.p 2 0 1 0)))],[(0,.box 4 [.d (.b false)]),(1,.ebox [.p 3 0 1 0]),(2,.ebox [.d (.i .i64 i)]),(3,.ebox [.d (.s nm),.o 4,.d (.v co)]),(4,.xext (.st shU l))],5⟩
def hpJ (l:List (List NC)) (i:Nat):Hp:=[(0,.box 4 [.d (.b false)]),(1,.box 118 [.d (.s (nS l i 0)),.d (.i .i64 (nI l i 1)),.o 2,.o 3,.o 4,.d (.i .i64 (nI l i 5)),.o 5,.d (.i .i64 (nI l i 7))]),(2,.ext (.ints .i64 (nL l i 2))),(3,.ext (.ints .i64 (nL l i 3))),(4,.ext (.ints .i64 (nL l i 4))),(5,.ext (.recs 5 (nR l i 6)))]
def stJ (y:Value) (l:List (List NC)) (i:Nat):St:=⟨[(4,.w (.c (.p 1 0 1 0))),(0,.w (.c (.d (.v y))))],hpJ l i,6⟩
def stJ2 (y:Value) (l:List (List NC)) (i:Nat):St:=⟨[(18,vi .i64 0),(17,vi .i64 (nL l i 2).length),(16,.w (.c (.o 2))),(4,.w (.c (.p 1 0 1 0))),(0,.w (.c (.d (.v y))))],hpJ l i,6⟩
theorem pnJ (y:Value) (l:List (List NC)) (i:Nat):sx Tryz.prog (fun _=>none) 34 1 0 (fun _ _ _=>none) (fun _ _ _=>False) (sub [1,0,0] (bodyOf Tryz.f132)) 0 [] (stJ y l i) (fun e st'=>match e with | .normal=>Le 1 st' (stJ2 y l i)|_=>False):=by
 refine Eq.mp (by kernel_rfl:(Ob ((0:Int)=0)∧Ob (((nL l i 2).length:Int)=(nL l i 2).length)∧Ob ((0:Nat)=0)∧Ob (y=y)∧Ob (false=false)∧Ob (nS l i 0=nS l i 0)∧Ob (nI l i 1=nI l i 1)∧Ob (nI l i 5=nI l i 5)∧Ob (nI l i 7=nI l i 7)∧Ob (nL l i 2=nL l i 2)∧Ob (nL l i 3=nL l i 3)∧Ob (nL l i 4=nL l i 4)∧Ob (nR l i 6=nR l i 6)∧True)=_) ?_
 exact⟨⟨rfl⟩,⟨rfl⟩,⟨rfl⟩,⟨rfl⟩,⟨rfl⟩,⟨rfl⟩,⟨rfl⟩,⟨rfl⟩,⟨rfl⟩,⟨rfl⟩,⟨rfl⟩,⟨rfl⟩,⟨rfl⟩,trivial⟩
theorem jdc {w:World} {k j t:Nat} {vs:Array Value} {f:_} (h:w.heap[k]?=some (.cells vs t f)) {v:Value} (hv:vs[j]?=some v):w.cell? ⟨k,j,none⟩=some v:=by
 unfold World.cell?
 dsimp only
 rw[h]
 simp[hv]
theorem jvT {α:Type} {enc:α→Int} {A:List α} {L:List Int} {st:Int} (hA:A.map enc=needL L st) (hst:st≠-1):∃h:L.length<A.length,enc A[L.length]=st∧A.length=L.length+1:=by
 have e:needL L st=L++[st]:=if_neg hst
 have hlen:A.length=L.length+1:=by
  have:(A.map enc).length=(L++[st]).length:=by rw[hA,e]
  simpa using this
 refine⟨by omega,?_,hlen⟩
 have h2:(A.map enc)[L.length]?=(L++[st])[L.length]?:=by rw[hA,e]
 rw[List.getElem?_map,List.getElem?_eq_getElem (by omega)]at h2
 simpa using h2
set_option maxHeartbeats 4000000 in
theorem jxg (n l r:Nat) (nm:ByteArray) (gU:List (List NC)) (i:Int) (co:Value) (ρ0:Env) (W:World)
  (hh:HRel ρ0 (kd fun k=>k<W.heap.size∧k≠r) (stI (.func (.yield l) #[] #[]) nm gU i co).hp 5 W) (hr0:ρ0 0=.pointer (some ⟨r,0,none⟩))
  (hi:0≤i∧i<gU.length) (hL:((nL gU i.toNat 2).length:Int)<9223372036854775807) {α:Type} (enc:α→Int) (A:List α) (hA:A.map enc=needL (nL gU i.toNat 2) (nI gU i.toNat 7)) (J Jx:List α→World→Prop)
  (hY:∀(k:Nat) (h:k<A.length) W,J (A.take k) W→YieldAt Fence.wide (n-1) Tryz.prog l #[.int .i64 (enc A[k])] W fun e W' =>
   (e=.returned (.bool true)∧J (A.take (k+1)) W'∧KpS (fun k=>k≠r) W W')∨(e=.returned (.bool false)∧Jx (A.take (k+1)) W'))
  (hJ:AbidesFrom W.heap.size J) (h0:J [] W) :
  CallsIn Fence.wide n Tryz.prog 132 #[.func (.yield l) #[] #[],(C.p 1 0 1 0).val ρ0,(C.p 2 0 1 0).val ρ0] W fun e W'=>(∃v,e=.returned v) ∧
   ((∃ys,ys=A∧J ys W')∨(∃pre,(∃k,k≤A.length∧pre=A.take k)∧Jx pre W')):=by
 refine callsIn_of_wp Tryz.func132 rfl trivial ?_ rfl
 refine wpIn_seq (wpIn_wide.2 ?_)
 have hsp:jac Tryz.prog (fun _=>none):=fun _ _ _ h=>by cases h
 obtain⟨y,hy⟩:∃y:Value,y=.func (.yield l) #[] #[]:=⟨_,rfl⟩
 rw[←hy]at hh ⊢
 refine jcg (N:=34) (n0:=1) (B:=kd fun k=>k<W.heap.size∧k≠r) (ρ0:=ρ0) (w0:=W) (st:=stI y nm gU i co)
  (k:=fun st=>Le 1 st (stJ y gU i.toNat)) (by kernel_rfl) hsp (ds:=[]) _ _ ρ0 _ _ _ ?vc ?rel (jae.refl _ _) (Bel.refl _ _) ?next
 case vc =>
  refine Eq.mp (by kernel_rfl:(Ob True∧Ob True∧Ob True∧Ob ((0:Int)≤i∧i<((XC.st shU gU).n:Int))∧Ob (i.toNat<(XC.st shU gU).n)∧Ob ((0:Nat)=0)∧Ob (y=y)∧Ob (false=false)∧Ob (nS gU i.toNat 0=nS gU i.toNat 0)∧Ob (nI gU i.toNat 1=nI gU i.toNat 1)∧Ob (nI gU i.toNat 5=nI gU i.toNat 5)∧Ob (nI gU i.toNat 7=nI gU i.toNat 7)∧Ob (nL gU i.toNat 2=nL gU i.toNat 2)∧Ob (nL gU i.toNat 3=nL gU i.toNat 3)∧Ob (nL gU i.toNat 4=nL gU i.toNat 4)∧Ob (nR gU i.toNat 6=nR gU i.toNat 6)∧True)=_) ?_
  exact⟨⟨trivial⟩,⟨trivial⟩,⟨trivial⟩,⟨hi⟩,⟨by show i.toNat<gU.length; omega⟩,⟨rfl⟩,⟨rfl⟩,⟨rfl⟩,⟨rfl⟩,⟨rfl⟩,⟨rfl⟩,⟨rfl⟩,⟨rfl⟩,⟨rfl⟩,⟨rfl⟩,⟨rfl⟩,trivial⟩
 case rel =>
  refine jfn (N:=34) (n0:=1) (args:=[.w (.c (.d (.v y))),.w (.c (.p 1 0 1 0)),.w (.c (.p 2 0 1 0))]) (Nat.le_of_ble_eq_true rfl) (fun x hx=>?_) (by decide) ρ0 W hh (fun k hk=>(jbz.1 hk).1)
  simp only[List.mem_cons,List.not_mem_nil,or_false]at hx
  rcases hx with rfl|rfl|rfl
  ·trivial
  ·exact(by decide:1<5)
  ·exact(by decide:2<5)
 case next =>
  rintro ρ1 st1 a1 w1 hr1 hag1 hbl1 hle
  obtain⟨ρ2,hr2,hag2⟩:=hle.rel hr1
  refine wpIn_seq (wpIn_seq (wpIn_wide.2 (wp_mono (jbC hsp (fun _ _ _ _ _ _ _ _ _ h=>h.elim) (sub [1,0,0] (bodyOf Tryz.f132)) 0 [] (stJ y gU i.toNat) _ ρ2 a1 w1 (pnJ y gU i.toNat) hr2 (jae.refl _ _) (Bel.refl _ _)) ?_)))
  rintro e a2 w2 ⟨ex,ρ3,st3,rfl,hk3,hr3',hag3,hbl3⟩
  cases ex with
  |exit j=>exact hk3.elim
  |ret=>exact hk3.elim
  |normal =>
   obtain⟨ρ4,hr4,hag4⟩:=hk3.rel hr3'
   have hρ0:ρ4 0=.pointer (some ⟨r,0,none⟩):=(hag4 0 (by decide)).trans ((hag3 0 (by decide)).trans ((hag2 0 (by decide)).trans ((hag1 0 (by decide)).trans hr0)))
   have hbW:Bel (kd fun k=>k<W.heap.size∧k≠r).kp W w2:=hbl1.trans hbl3
   obtain⟨B',gB,hh4⟩:=hr4.heap
   have o0:=(hh4.ok 0 _ rfl).2.2
   have o1:=(hh4.ok 1 _ rfl).2.2
   have o2:=(hh4.ok 2 _ rfl).2.2
   obtain⟨r',hr',hB0,hheap0⟩:=o0
   have err:r'=r:=by
    rw[hρ0]at hr'
    cases hr'
    rfl
   subst err
   obtain⟨k1,hk1,hB1,hheap1⟩:=o1
   obtain⟨q0,hq0,hBq,hheapW⟩:=(hh.ok 0 _ rfl).2.2
   have eq0:q0=r':=by
    rw[hr0]at hq0
    cases hq0
    rfl
   subst eq0
   have hgr:W.grownBy w2 none:=by
    refine⟨hbW.os,hbW.tape,hbW.output,hbW.size,fun k hk _=>?_⟩
    by_cases e:k=q0
    ·subst e
     rw[hheap0,hheapW]
     rfl
    ·exact hbW.block k ⟨hk,e⟩
   have hj2:J [] w2:=hJ [] W w2 none h0 hgr (fun r e=>by cases e)
   have hne1:k1≠q0:=fun e=>hh4.apart 1 _ 0 _ k1 rfl rfl (by decide) (by rw[hk1]; rfl) (by rw[hρ0,e]; rfl)
   have hb:BetN (fun k=>k≠q0) y (nL gU i.toNat 2) [.string (nS gU i.toNat 0),.int .i64 (nI gU i.toNat 1),ρ4 2,ρ4 3,ρ4 4,.int .i64 (nI gU i.toNat 5),ρ4 5] (nI gU i.toNat 7) 0 a2 w2:=by
    refine⟨fun h=>if h=0 then ρ4 2 else ρ4 1,⟨fun t v hv=>?_,hr4.size,hr4.defers,⟨kd fun x=>x<w2.heap.size,Grow.refl _ _ _ _,⟨fun x o hf=>?_,fun x o x' o' b hf hf' hne hb=>?_,jf0⟩⟩,fun k hk=>jbz.1 hk,Nat.le_refl _⟩,fun ad m cap hv hm=>?_,fun b o hv=>?_⟩
    ·simp only[stN,jaD]at hv
     split at hv
     ·rename_i e; subst e; cases hv; exact⟨trivial,(hr4.tm 18 _ rfl).2⟩
     ·split at hv
      ·rename_i e; subst e; cases hv; exact⟨trivial,(hr4.tm 17 _ rfl).2⟩
      ·split at hv
       ·rename_i e; subst e; cases hv; exact⟨(by decide:0<2),(hr4.tm 16 _ rfl).2⟩
       ·split at hv
        ·rename_i e; subst e; cases hv; exact⟨(by decide:1<2),(hr4.tm 4 _ rfl).2⟩
        ·split at hv
         ·rename_i e; subst e; cases hv; exact⟨trivial,(hr4.tm 0 _ rfl).2⟩
         ·cases hv
    ·simp only[stN,find]at hf
     split at hf
     ·rename_i e; subst e; cases hf
      exact⟨(by decide:0<2),trivial,o2.1,o2.1.lt (Nat.lt_succ_self 0)⟩
     ·split at hf
      ·rename_i e; subst e; cases hf
       refine⟨(by decide:1<2),?_,k1,0,by simpa using hk1,(Array.getElem?_eq_some_iff.1 hheap1).1,fun j c hj=>?_⟩
       ·intro c hc
        simp only[List.map_cons,List.map_nil,List.cons_append,List.nil_append,List.mem_cons,List.not_mem_nil,or_false]at hc
        rcases hc with rfl|rfl|rfl|rfl|rfl|rfl|rfl|rfl<;>trivial
       ·rw[Nat.zero_add]
        refine jdc hheap1 ?_
        match j,hj with
        |0,hj=>cases hj; rfl
        |1,hj=>cases hj; rfl
        |2,hj=>cases hj; rfl
        |3,hj=>cases hj; rfl
        |4,hj=>cases hj; rfl
        |5,hj=>cases hj; rfl
        |6,hj=>cases hj; rfl
        |7,hj=>cases hj; rfl
        |j+8,hj=>cases hj
      ·cases hf
    ·simp only[stN,find]at hf
     split at hf
     ·cases hf; cases hb
     ·split at hf
      ·cases hf; cases hb
      ·cases hf
    ·intro e
     have h2:=o2.2 ad m cap (by simpa using hv) hm
     exact hB0 (.inl (e ▸ h2))
    ·intro e
     have hv':ρ4 1=.pointer (some ⟨b,o,none⟩):=by simpa using hv
     rw[hk1]at hv'
     cases hv'
     exact hne1 e
   subst hy
   refine jvS n l (fun k=>k≠q0) _ _ _ _ _ _ _ _ _ hL enc A hA J Jx hY (fun A B pre hj hg=>hJ pre A B none hj hg (fun r e=>by cases e)) a2 w2 hb hj2
    (fun W'=>(∃ys,ys=A∧J ys W')∨(∃pre,(∃k,k≤A.length∧pre=A.take k)∧Jx pre W')) (fun k W hk hx=>.inr ⟨_,⟨k,hk,rfl⟩,hx⟩) _ ?_
   rintro a5 w5 ⟨ρ5,hr5,hg0,hg1⟩ hj5
   refine wpIn_seq (wpIn_wide.2 (wp_mono (jjh hr5 (pn4 _ _ _ _ _ _ _ _ _ _ _)) ?_))
   rintro e a6 w6 ⟨rfl,hw6,ρ6,hr6,hag6⟩
   have hj6:=hJ _ _ _ none hj5 hw6 (fun r e=>by cases e)
   have hc:a6.eval (.tmp 29)=.bool (nI gU i.toNat 7 != -1):=(hr6.tm 29 _ rfl).2
   by_cases hst:nI gU i.toNat 7=-1
   ·refine wpIn_cond_false (by rw[hc,hst]; rfl) (wpIn_skip ?_)
    refine⟨hr6.defers,.tuple #[],results_none rfl _ _ _,⟨_,rfl⟩,.inl ⟨_,rfl,?_⟩⟩
    have hlen:A.length=(nL gU i.toNat 2).length:=by
     have:(A.map enc).length=(needL (nL gU i.toNat 2) (nI gU i.toNat 7)).length:=by rw[hA]
     rw[needL,if_pos hst]at this
     simpa using this
    rw[←hlen,List.take_length]at hj6
    exact hj6
   ·refine wpIn_cond_true (by rw[hc]; simp[hst]) (wpIn_region_list ?_)
    obtain⟨hkA,henc,hlen⟩:=jvT hA hst
    obtain⟨fn,tmps,assign,body,hy,hRd⟩:=hY _ hkA w6 hj6
    rw[henc]at hy
    refine wpListIn_plain rfl fun K2 hK2=>jdl (t:=30) hr6 rfl trivial rfl (by decide) fun a7 hr7=>hK2 _ _ ?_
    refine wpListIn_plain rfl fun K2 hK2=>jdl (t:=31) hr7 rfl trivial rfl (by decide) fun a8 hr8=>hK2 _ _ ?_
    refine wpListIn_plain rfl fun K2 hK2=>jdl (t:=32) hr8 rfl trivial rfl (by decide) fun a9 hr9=>hK2 _ _ ?_
    have g30:a9.eval (.tmp 30)=.func (.yield l) #[] #[]:=(hr9.tm 30 _ rfl).2
    have g32:a9.eval (.tmp 32)=.int .i64 (nI gU i.toNat 7):=(hr9.tm 32 _ rfl).2
    refine wpListIn_plain rfl fun K2 hK2=>⟨fun _ _=>trivial,?_⟩
    rw[jp6 (ty:=3) g30 g32 hy _ rfl]
    refine⟨(fun h=>by cases h),hRd.mono ?_⟩
    rintro e w7 (⟨rfl,hj7,hk7⟩|⟨rfl,hj7⟩)
    ·refine hK2 _ _ (wpListIn_nil ?_)
     refine⟨(jgb (t:=33) (v:=vb true) hr9 trivial (by decide)).defers,.tuple #[],results_none rfl _ _ _,⟨_,rfl⟩,.inl ⟨_,rfl,?_⟩⟩
     rw[←hlen,List.take_length]at hj7
     exact hj7
    ·refine hK2 _ _ (wpListIn_nil ?_)
     exact⟨(jgb (t:=33) (v:=vb false) hr9 trivial (by decide)).defers,.tuple #[],results_none rfl _ _ _,⟨_,rfl⟩,.inr ⟨_,⟨_,by omega,rfl⟩,hj7⟩⟩
end Go.Sx09
end

section
namespace Go.Sx09
open Go Go.Proofs Go.RowKit Go.Shelf Go.Sx
attribute [local go_sem] Oper.semAt_some
set_option maxHeartbeats 2000000 in
theorem jyG (n:Nat) (p:Option Addr) (i:Int) (w:World) :
  CallsIn Fence.wide n Tryz.prog 86 #[.pointer p,.int .i64 i] w fun e w'=>e=.returned (.func (.func 132) #[] #[.pointer (some ⟨w.heap.size,0,none⟩),.pointer (some ⟨w.heap.size+1,0,none⟩)])∧w'=(w.alloc (.cells #[.pointer p] 126)).alloc (.cells #[.int .i64 i] 3):=by
 refine callsIn_of_wp Tryz.func86 rfl trivial ?_ rfl
 simp only[Tryz.ntmps86,List.size_toArray,List.length_cons,List.length_nil,Nat.reduceAdd,Nat.reduceSub,Array.replicate_succ,Array.replicate_zero,List.push_toArray,List.append_toArray,List.nil_append,List.cons_append]
 gi_wp2
 go_ret
 exact⟨rfl,rfl⟩
theorem jyH (w:World) (c0 c1 c2 c3:Array Value) (t0 t1 t2 t3:TypeId):∃w2,w2.heap.size=w.heap.size+4∧Below w.heap.size w w2∧w2.heap[w.heap.size]?=some (.cells c0 t0 (0,0))∧w2.heap[w.heap.size+1]?=some (.cells c1 t1 (0,0)) ∧
  w2.heap[w.heap.size+1+1]?=some (.cells c2 t2 (0,0))∧w2.heap[w.heap.size+1+1+1]?=some (.cells c3 t3 (0,0))∧(((w.alloc (.cells c0 t0)).alloc (.cells c1 t1)).alloc (.cells c2 t2)).alloc (.cells c3 t3)=w2:=by
 have new:∀(w:World) (c:Array Value) (t:TypeId) (m:Nat),w.heap.size=m→(w.alloc (.cells c t)).heap[m]?=some (.cells c t (0,0)):=fun w c t m e=>by subst e; exact World.alloc_heap_new w (.cells c t)
 have old:∀(w:World) (o o':Obj) (k:Nat),w.heap[k]?=some o→(w.alloc o').heap[k]?=some o:=fun w o o' k h=>(Below.heap_alloc w o' k (Array.getElem?_eq_some_iff.1 h).1).trans h
 refine⟨_,by simp,(((Below.refl _ w).alloc (Nat.le_refl _) _).alloc (by simp) _).alloc (by simp; omega) _ |>.alloc (by simp; omega) _,?_,?_,?_,?_,rfl⟩
 ·exact old _ _ _ _ (old _ _ _ _ (old _ _ _ _ (new w c0 t0 _ rfl)))
 ·exact old _ _ _ _ (old _ _ _ _ (new _ c1 t1 _ (by simp)))
 ·exact old _ _ _ _ (new _ c2 t2 _ (by simp))
 ·exact new _ c3 t3 _ (by simp)
def readyB (pl:List Bool) (L:List Int):Bool:=L.all fun x=>pl.getD x.toNat false
set_option maxHeartbeats 4000000 in
theorem ready_in (nm:ByteArray) (gU:List (List NC)) (od:List Int) (i:Int) (pl:List Bool) (ρ:Env) (w:World)
  (hh:HRel ρ (kd fun k=>k<w.heap.size) [(3,.ext (.bools pl)),(2,.ebox [.d (.s nm),.o 0,.o 1]),(1,.ext (.ints .i64 od)),(0,.xext (.st shU gU))] 4 w)
  (hi:0≤i∧i<gU.length) (hL:((nL gU i.toNat 2).length:Int)<9223372036854775807) (hx:∀x∈needL (nL gU i.toNat 2) (nI gU i.toNat 7),0≤x∧x<pl.length) :
  CallsIn Fence.wide 9 Tryz.prog 85 #[(C.p 2 0 1 0).val ρ,.int .i64 i,ρ 3] w fun e w'=>e=.returned (.bool (readyB pl (needL (nL gU i.toNat 2) (nI gU i.toNat 7))))∧Below w.heap.size w w':=by
 have h1:1≤9:=by omega
 have hro:Fence.wide.round=none:=rfl
 obtain⟨gb,go,hgp,hgB,hgc⟩:=(hh.ok 2 _ rfl).2.2
 have hrow:=(hh.ok 3 _ rfl).2.2
 obtain⟨⟨pa,pc,hpv,hpc,hpcells⟩,hpo⟩:=hrow
 have hP:(C.p 2 0 1 0).val ρ=.pointer (some ⟨gb,go,none⟩):=by
  simp only[C.val,hgp,base]
  rfl
 rw[hP,hpv]
 refine callsIn_of_wp_marks Tryz.func85 rfl trivial ?_ hro
 simp only[Tryz.ntmps85,List.size_toArray,List.length_cons,List.length_nil,Nat.reduceAdd,Nat.reduceSub,Array.replicate_succ,Array.replicate_zero,List.push_toArray,List.append_toArray,List.nil_append,List.cons_append]
 gi_wp2_with (refine⟨trivial,?_⟩; gi_at_call 86; refine(jyG _ _ i _).mono ?_; rintro e w' ⟨rfl,rfl⟩)
 obtain⟨w2,hs2,hB0,k0,k1,k2,k3,hw2⟩:=jyH w #[.slice pa (Cont.bools pl).n pc] #[.bool false] #[.pointer (some ⟨gb,go,none⟩)] #[.int .i64 i] 133 4 126 3
 rw[hw2]
 have hne:∀(A:List {x:Int // 0≤x∧x<pl.length}),A.map (fun x=>x.1)=needL (nL gU i.toNat 2) (nI gU i.toNat 7)→readyB pl (needL (nL gU i.toNat 2) (nI gU i.toNat 7))=A.all fun x=>pl.getD x.1.toNat false:=fun A hA=>by
  rw[←hA]
  simp[readyB]
 obtain⟨A,hA⟩:∃A:List {x:Int // 0≤x∧x<pl.length},A.map (fun x=>x.1)=needL (nL gU i.toNat 2) (nI gU i.toNat 7) :=
  ⟨(needL (nL gU i.toNat 2) (nI gU i.toNat 7)).attachWith _ hx,by simp⟩
 have hready:=hne A hA
 refine wpIn_rangeFunc_ownF hro h1 (gf:=132) (lb:=#[.pointer (some ⟨w.heap.size+1+1,0,none⟩),.pointer (some ⟨w.heap.size+1+1+1,0,none⟩)]) rfl trivial (enters_of Tryz.func132 (by kernel_rfl) rfl)
  (α:={x:Int // 0≤x∧x<pl.length}) (encs:=fun x=>#[.int .i64 x.1]) (Kp:=KpS fun k=>k≠w.heap.size+1) (S:=fun ys=>ys=A) (Sp:=fun pre=>∃k,k≤A.length∧pre=A.take k) (N:=A.length) (w0:=w2)
  ?seq kps_t kps_b (Below.refl _ _) (fun _=>rfl)
  (fun pre W=>((∀y∈pre,pl.getD y.1.toNat false=true)∧W.cell? ⟨w.heap.size,0,none⟩=some (.slice pa (Cont.bools pl).n pc)∧W.cell? ⟨w.heap.size+1,0,none⟩=some (.bool false)∧W.frozen? ⟨w.heap.size+1,0,none⟩=false)∧Below w.heap.size w W)
  (fun c pre W=>(c=.ret∧(∃y∈pre,pl.getD y.1.toNat false=false)∧W.cell? ⟨w.heap.size+1,0,none⟩=some (.bool false))∧Below w.heap.size w W)
  (OwnFrom.and (Own.from (fun s A B row hs hg hr=>⟨hs.1,cell_kept hs.2.1 hg hr,cell_kept hs.2.2.1 hg hr,(frozen_kept hs.2.2.1 hg hr).trans hs.2.2.2⟩) _) (ownFrom_below (Nat.le_refl _) (by omega)))
  (fun c=>OwnFrom.and (Own.from (fun s A B row hs hg hr=>⟨hs.1,hs.2.1,cell_kept hs.2.2 hg hr⟩) _) (ownFrom_below (Nat.le_refl _) (by omega)))
  ⟨⟨by simp,jdc k0 rfl,jdc k1 rfl,?frozen⟩,hB0⟩
  (fun x=>{ tmps:=#[Value.pointer (some { block:=gb,off:=go }),Value.int IntKind.i64 i,Value.slice pa (Cont.bools pl).n pc,undef,undef,Value.pointer (some { block:=w.heap.size,off:=0 }),Value.pointer (some { block:=w.heap.size+1,off:=0 }),.int .i64 x.1,Value.pointer (some { block:=gb,off:=go }),Value.int IntKind.i64 i,Value.func (Fn.func 132) #[] #[Value.pointer (some { block:=w.heap.size+1+1,off:=0 }),Value.pointer (some { block:=w.heap.size+1+1+1,off:=0 })],.int .i64 x.1,undef,undef,undef,undef,undef],defers:=[] }) ?assign ?body ?done ?stop
 case frozen =>
  unfold World.frozen?
  dsimp only
  rw[k1]
  rfl
 case seq =>
  intro l J Jx W hW hJ hJx hY h0
  have hBW:Below w.heap.size w W:=hB0.trans (hW.mono (by omega))
  have hsz:=hW.size
  have at2:∀k o,k<w2.heap.size→w2.heap[k]?=some o→W.heap[k]?=some o:=fun k o hk ho=>(hW.block k hk).trans ho
  have hmono:∀k,(kd fun k=>k<w.heap.size).kp k→(kd fun k=>k<W.heap.size∧k≠w.heap.size+1).kp k:=fun k hk=>by
   have hk:k<w.heap.size:=hk
   exact⟨by omega,by omega⟩
  have hbw:Bel (kd fun k=>k<w.heap.size).kp w W:=⟨hBW.os,hBW.tape,hBW.output,hBW.size,hBW.block⟩
  let ρ':Env:=fun h=>match h with
   |0=>.pointer (some ⟨w.heap.size+1,0,none⟩)
   |1=>.pointer (some ⟨w.heap.size+1+1,0,none⟩)
   |2=>.pointer (some ⟨w.heap.size+1+1+1,0,none⟩)
   |3=>ρ 2
   |_=>ρ 0
  have hx0:=(hh.ok 0 _ rfl).2.2
  have hrel:HRel ρ' (kd fun k=>k<W.heap.size∧k≠w.heap.size+1) (stI (.func (.yield l) #[] #[]) nm gU i (ρ 1)).hp 5 W:=by
   refine⟨fun x o hf=>?_,fun x o x' o' b hf hf' hne hb=>?_,jf0⟩
   ·simp only[stI,find]at hf
    split at hf
    ·rename_i e; subst e; cases hf
     exact⟨by decide,(fun c hc=>by simp at hc; subst hc; trivial),w.heap.size+1,rfl,fun h=>(jbz.1 h).2 rfl,at2 _ _ (by omega) k1⟩
    ·split at hf
     ·rename_i e; subst e; cases hf
      refine⟨by decide,(fun c hc=>by simp at hc; subst hc; exact(by decide:3<5)),w.heap.size+1+1,0,rfl,⟨by omega,by omega⟩,fun j c hj=>?_⟩
      refine(jdc (at2 _ _ (by omega) k2) (j:=0+j) (v:=c.val ρ') ?_)
      match j,hj with
      |0,hj=>cases hj; exact congrArg some hP.symm
      |j+1,hj=>cases hj
     ·split at hf
      ·rename_i e; subst e; cases hf
       refine⟨by decide,(fun c hc=>by simp at hc; subst hc; trivial),w.heap.size+1+1+1,0,rfl,⟨by omega,by omega⟩,fun j c hj=>?_⟩
       refine(jdc (at2 _ _ (by omega) k3) (j:=0+j) (v:=c.val ρ') ?_)
       match j,hj with
       |0,hj=>cases hj; rfl
       |j+1,hj=>cases hj
      ·split at hf
       ·rename_i e; subst e; cases hf
        refine⟨by decide,(fun c hc=>by simp at hc; rcases hc with rfl|rfl|rfl<;>first|exact True.intro|exact(by decide:4<5)),gb,go,hgp,hmono _ hgB,fun j c hj=>?_⟩
        refine(hbw.cell (p:=⟨gb,go+j,none⟩) hgB).trans ?_
        match j,hj with
        |0,hj=>cases hj; exact hgc 0 _ rfl
        |1,hj=>cases hj; exact hgc 1 _ rfl
        |2,hj=>cases hj; exact hgc 2 _ rfl
        |j+3,hj=>cases hj
       ·split at hf
        ·rename_i e; subst e; cases hf
         exact⟨by decide,trivial,(IsX.bel hx0 hbw).mono hmono⟩
        ·cases hf
   ·simp only[stI,find]at hf hf'
    have hz:∀y oy,find (stI (.func (.yield l) #[] #[]) nm gU i (ρ 1)).hp y=some oy→y≠0→oy.blk (ρ' y)=none:=fun y oy hy hy0=>by
     simp only[stI,find]at hy
     rw[if_neg (Ne.symm hy0)]at hy
     repeat' split at hy
     all_goals (cases hy; try rfl)
    by_cases e:x=0
    ·rw[hz x' o' hf' (by omega)]
     intro h; cases h
    ·rw[hz x o hf e]at hb
     cases hb
  refine(jxg _ l (w.heap.size+1) nm gU i (ρ 1) ρ' W hrel rfl hi hL (fun x=>x.1) A hA J Jx (fun k hk W1 hj=>?_) hJ h0)
  have e1:A.take (k+1)=A.take k++[A[k]]:=by rw[List.take_succ_eq_append_getElem hk]
  rw[e1]
  exact hY (A.take k) A[k] W1 hj (by rw[List.length_take]; omega)
 case assign =>
  intro l x W K hK
  gi_wp2
  exact hK
 case body =>
  rintro l pre x W ⟨⟨hp,hv5,hcr,hfr⟩,hB⟩ _
  have hlt:w.heap.size+1<W.heap.size:=World.block_lt_of_cell? W ⟨w.heap.size+1,0,none⟩ hcr
  have hx1:=x.2.1
  have hx2:=x.2.2
  obtain⟨b,off,hab,hcells⟩:=hpcells (by show 0<pl.length; omega)
  subst hab
  have hcell:W.cell? ⟨b,off+x.1.toNat,none⟩=some (.bool (pl.getD x.1.toNat false)):=by
   have hc:=hcells x.1.toNat (.b (pl.getD x.1.toNat false)) (by
    have:=(Cont.bools pl).flat_get (i:=x.1.toNat) (j:=0) (by show x.1.toNat<pl.length; omega) Nat.one_pos
    simpa [Cont.e,Cont.cell]using this)
   have hbl:b<w.heap.size:=World.block_lt_of_cell? w ⟨b,off+x.1.toNat,none⟩ hc
   exact(hB.cell (p:=⟨b,off+x.1.toNat,none⟩) hbl).trans hc
  have hx3:x.1<((Cont.bools pl).n:Int):=hx2
  clear hcells hready hA hne hpcells hpc hpo hgc hgB hgp hP hx hL hi hh hpv k0 k1 k2 k3 hs2 hB0 hw2
  have hgd:pl.getD x.1.toNat false=pl[x.1.toNat]'(by omega):=by simp[List.getD,List.getElem?_eq_getElem (show x.1.toNat<pl.length by omega)]
  gi_wp2
  ·rename_i hxx
   exact⟨KeepsOthers.setCell _ _ _,⟨rfl,⟨x,List.mem_append.2 (.inr (by simp)),by rw[hgd]; simpa using hxx⟩,World.cell?_setCell_same' _ _ _ (by rw[hcr]; rfl)⟩,hB.setCell (p:=⟨w.heap.size+1,0,none⟩) (by simp) _⟩
  ·rename_i hxx
   exact⟨KeepsOthers.refl _,jxe (Below.refl _ _),⟨fun y hy=>(List.mem_append.1 hy).elim (hp y) (fun e=>by simp at e; subst e; rw[hgd]; simpa using hxx),hv5,hcr,hfr⟩,hB⟩
 case done =>
  rintro D ys W hD rfl ⟨⟨hne,hv5,hcr,hfr⟩,hB⟩ hK
  clear hpcells hpc hpo hgc hgB hgp hP hx hL hi hh hpv k0 k1 k2 k3 hB0 hw2
  gi_wp2
  have hK':=(KeepsOthers.setCell W ⟨w.heap.size+1,0,none⟩ (.bool true)).same D _ hK rfl
  refine⟨by simp,.inl ⟨_,_,rfl,run_takeDeferred hK',?_⟩⟩
  have hc5:=cell_kept (World.cell?_setCell_same' W ⟨w.heap.size+1,0,none⟩ (.bool true) (by rw[hcr]; rfl)) (grownBy_putObj' _ D (.deferred none)) (fun r e=>by cases e; exact⟨_,hK',rfl⟩)
  have hall:readyB pl (needL (nL gU i.toNat 2) (nI gU i.toNat 7))=true:=by
   rw[hready]
   exact List.all_eq_true.2 fun y hy=>hne y hy
  refine⟨.bool true,?_,by rw[hall],(hB.setCell (p:=⟨w.heap.size+1,0,none⟩) (by simp) _).trans (belowK_b (w:=w) (Nat.le_refl _) _ D _ _ (by omega) hK' rfl rfl)⟩
  simp[results,Tryz.f85,go_sem,hc5]
 case stop =>
  rintro D c pre W hD ⟨k,hk,rfl⟩ ⟨⟨rfl,⟨y,hy,hpy⟩,hcr⟩,hB⟩ hK
  clear hpcells hpc hpo hgc hgB hgp hP hx hL hi hh hpv k0 k1 k2 k3 hB0 hw2
  gi_wp2
  refine⟨by simp,.inl ⟨_,_,rfl,run_takeDeferred hK,?_⟩⟩
  have hc5:=cell_kept hcr (grownBy_putObj' _ D (.deferred none)) (fun r e=>by cases e; exact⟨_,hK,rfl⟩)
  have hall:readyB pl (needL (nL gU i.toNat 2) (nI gU i.toNat 7))=false:=by
   rw[hready,Bool.eq_false_iff]
   intro h
   have:=List.all_eq_true.1 h y (List.mem_of_mem_take hy)
   rw[hpy]at this
   cases this
  refine⟨.bool false,?_,by rw[hall],hB.trans (belowK_b (w:=w) (Nat.le_refl _) W D _ _ (by omega) hK rfl rfl)⟩
  simp[results,Tryz.f85,go_sem,hc5]
end Go.Sx09
end

section
open Go.RowKit
namespace Go.Sx
section
variable [Globs] {P:Program}
theorem jsp {f:Nat} {fn:Func} {body:Code} {shs:List SV} {g:List Lf→Option GT} (hf:P.funcs[f]?=some fn) (hb:fn.body=some body) (hn:(fn.name == "runtime.NumGoroutine")=false)
  (h:∀ls t,g ls=some t→∃ob x,t=.leaf ob [.c (.d x)]∧(ob→∀b:Bv,je7 shs 0 ls=some b→∀ρ w,HRel ρ (kd fun k=>k<w.heap.size) b.hp b.n w→Calls P f (b.vs.map (V.val ρ)).toArray w fun e w'=>e=.returned x.val∧Below w.heap.size w w')) :
  jaf P f true (jai shs g):=by
 refine .inl ⟨jcz hf hb hn,fun ρ B w args hp nx t hS hob hlt hh hB=>?_⟩
 unfold jai at hS
 split at hS
 ·rename_i ls am hto
  split at hS
  ·rename_i t' hg
   cases hS
   obtain⟨ob,x,rfl,hc⟩:=h ls t' hg
   rw[jbq]at hob
   have hob:ob:=hob
   obtain⟨b,ρ0,hbl,q⟩:=jg5 hh hB shs args ls am hto hlt 0 (fun _=>undef) []
   rw[List.append_nil]at hbl
   have hh0:HRel ρ0 (kd fun k=>k<w.heap.size) b.hp b.n w:=by
    refine⟨fun x o hf=>?_,fun x o x' o' k hf hf' _ hb=>?_,ji0 hh.glob hB⟩
    ·obtain⟨_,a2,a3,a4,_⟩:=q.heap x o hf
     exact⟨a2,a3,a4⟩
    ·obtain⟨_,_,_,_,a5⟩:=q.heap x o hf
     rw[a5]at hb
     cases hb
   have hcalls:=hc hob b hbl ρ0 w hh0
   rw[q.val]at hcalls
   refine hcalls.mono ?_
   rintro e w' ⟨rfl,hbw⟩
   refine⟨ρ,?_,jae.refl _ _,?_,?_,⟨B,Grow.refl _ _ _ _,?_⟩,jb6 hbw hB,fun _=>hbw,fun _ h o k hle hf _=>?_⟩
   ·rw[jbq]; rfl
   ·rw[jbq]; trivial
   ·rw[jbq]; exact Nat.le_refl _
   ·rw[jbq]; exact hh.below hbw hB
   ·rw[jbq]at hf
    have:=(hh.ok h o hf).1
    omega
  ·cases hS
 ·cases hS
end
end Go.Sx
end

section
namespace Go.Sh
open Go Go.Proofs Go.RowKit Go.Sx
def jkZ:List SV:=[.c (.p [.d,.x (.st [.s,.i .i64,.ints .i64,.ints .i64,.ints .i64,.i .i64,.recs 5,.i .i64] []),.r (.ints .i64 [])]),.c .d,.c (.r (.bools []))]
def jcN (gUnits:List (List NC)) (i:Int) (placed:List Bool):Option Bool :=
 if 0≤i∧i<gUnits.length then
  if((nL gUnits i.toNat 2).length:Int)<9223372036854775807∧(Sx09.needL (nL gUnits i.toNat 2) (nI gUnits i.toNat 7)).all (fun x=>decide (0≤x∧x<placed.length))=true then
   some (Sx09.readyB placed (Sx09.needL (nL gUnits i.toNat 2) (nI gUnits i.toNat 7)))
  else none
 else none
def jg9:List Lf→Option GT
 |[.d (.s gName),.x (.st [.s,.i .i64,.ints .i64,.ints .i64,.ints .i64,.i .i64,.recs 5,.i .i64] gUnits),.r (.ints .i64 order),.d (.i .i64 i),.r (.bools placed)]=>some (.leaf (ok (jcN gUnits i placed)) [.c (.d (.b (val (jcN gUnits i placed))))])
 |_=>none
abbrev sp_85:jaa→jaa:=jaG 85 true (jai jkZ jg9)
theorem jos:jaf Tryz.prog 85 true (jai jkZ jg9):=by
 refine jsp (fn:=Tryz.f85) (body:=bodyOf Tryz.f85) Tryz.func85 (by kernel_rfl) (by kernel_rfl) fun ls t h=>?_
 unfold jg9 at h
 split at h
 ·rename_i gName gUnits order i placed
  cases h
  refine⟨_,_,rfl,fun hok b hb ρ w hh=>?_⟩
  have hbe:b=⟨[.w (.c (.p 2 0 1 0)),.w (.c (.d (.i .i64 i))),.w (.c (.o 3))],[(3,.ext (.bools placed)),(2,.ebox [.d (.s gName),.o 0,.o 1]),(1,.ext (.ints .i64 order)),(0,.xext (.st Sx09.shU gUnits))],4,[]⟩ :=
   Option.some.inj (hb.symm.trans (by kernel_rfl))
  subst hbe
  unfold ok jcN at hok
  split at hok
  ·rename_i hi
   split at hok
   ·rename_i hL
    have hv:val (jcN gUnits i placed)=Sx09.readyB placed (Sx09.needL (nL gUnits i.toNat 2) (nI gUnits i.toNat 7)):=by
     unfold jcN
     rw[if_pos hi,if_pos hL]
     rfl
    rw[hv]
    exact(callsIn_wide (n:=9)).1 (Sx09.ready_in gName gUnits order i placed ρ w hh hi hL.1 fun x hx=>by simpa using List.all_eq_true.1 hL.2 x hx)
   ·cases hok
  ·cases hok
 ·cases h
theorem sp_85_ok {sp:jaa} (h:jac Tryz.prog sp):jac Tryz.prog (sp_85 sp):=jar jos h
end Go.Sh
end

section
namespace Go.Sh
open Go Go.Proofs Go.RowKit Go.Sx
open Go.IntKind (wrap)
def jgD:List SV:=[.a [.d,.x (.st [.s,.i .i64,.ints .i64,.ints .i64,.ints .i64,.i .i64,.recs 5,.i .i64] [])]]
def jcj (u1:List (List NC)) (x0:Int × List Bool × List Int) (x1:Int):Option (Int ⊕ Int) :=
 if x1<(↑u1.length:Int)then
  if 0≤x1∧x1<(↑x0.2.1.length:Int)then
  if Int.toNat x1<List.length x0.2.1 then
   if(!List.getD x0.2.1 x1.toNat false)=true then
   Option.bind (jcN u1 x1 x0.2.1) fun r1 =>
   if(r1)=true then
    some (.inr x1)
   else
    some (.inl (wrap .i64 (x1+1)))
   else
   some (.inl (wrap .i64 (x1+1)))
  else none
  else none
 else
  some (.inr (-1:Int))
def jhE (x0:Int × List Bool × List Int) (u29:Int):Option ((Int × List Bool × List Int) ⊕ (Unit ⊕ (List Int))) :=
 if(u29==(-1:Int))=true then
  some (.inr ((.inl ())))
 else
  if 0≤u29∧u29<(↑x0.2.1.length:Int)then
  if Int.toNat u29<List.length x0.2.1 then
   if(List.length x0.2.2+List.length [u29])*8≤140737488355328∧List.length x0.2.2+List.length [u29]≤9223372036854775807 then
   some (.inl ((wrap .i64 (x0.1+1),List.set x0.2.1 u29.toNat true,x0.2.2++[u29])))
   else none
  else none
  else none
def jbT (u1:List (List NC)) (x0:(Int × List Bool × List Int)):Option ((Int × List Bool × List Int) ⊕ (Unit ⊕ (List Int))) :=
 if x0.1<(↑u1.length:Int)then
  Option.bind (jag (jcj u1 x0) big (0:Int)) (jhE x0)
 else
  some (.inr (.inr x0.2.2))
def jqO (u5:Unit):Option Int :=
 some (19:Int)
def jqP (u6:List Int):Option Int :=
 none
def jhF:(Unit ⊕ (List Int))→Option Int :=
 (Sum.elim (jqO) (jqP))
def ja9 (u4:ByteArray) (u1:List (List NC)):Option Int :=
 Option.bind (y36 u4 u1) fun r0 =>
 if(r0.2 != 0)=true then
  some r0.2
 else
  if 0≤(↑u1.length:Int)∧(↑u1.length:Int)=(↑u1.length:Int)∧(↑(1:Nat):Int)*(↑u1.length:Int)≤281474976710656∧(↑u1.length:Int)≤9223372036854775807 then
  Option.bind (jag (jbT u1) big (((0:Int),List.replicate (Int.toNat (↑u1.length:Int)) false,[]))) (jhF)
  else none
def jmu (u1:List (List NC)) (x0:Int × List Bool × List Int) (x1:Int):Option (Int ⊕ Int) :=
 if x1<(↑u1.length:Int)then
  if 0≤x1∧x1<(↑x0.2.1.length:Int)then
  if Int.toNat x1<List.length x0.2.1 then
   if(!List.getD x0.2.1 x1.toNat false)=true then
   Option.bind (jcN u1 x1 x0.2.1) fun r1 =>
   if(r1)=true then
    some (.inr x1)
   else
    some (.inl (wrap .i64 (x1+1)))
   else
   some (.inl (wrap .i64 (x1+1)))
  else none
  else none
 else
  some (.inr (-1:Int))
def jmv (x0:Int × List Bool × List Int) (u29:Int):Option ((Int × List Bool × List Int) ⊕ (Unit ⊕ (List Int))) :=
 if(u29==(-1:Int))=true then
  some (.inr ((.inl ())))
 else
  if 0≤u29∧u29<(↑x0.2.1.length:Int)then
  if Int.toNat u29<List.length x0.2.1 then
   if(List.length x0.2.2+List.length [u29])*8≤140737488355328∧List.length x0.2.2+List.length [u29]≤9223372036854775807 then
   some (.inl ((wrap .i64 (x0.1+1),List.set x0.2.1 u29.toNat true,x0.2.2++[u29])))
   else none
  else none
  else none
def je9 (u1:List (List NC)) (x0:(Int × List Bool × List Int)):Option ((Int × List Bool × List Int) ⊕ (Unit ⊕ (List Int))) :=
 if x0.1<(↑u1.length:Int)then
  Option.bind (jag (jmu u1 x0) big (0:Int)) (jmv x0)
 else
  some (.inr (.inr x0.2.2))
def jqQ (u4:ByteArray) (u5:Unit):Option (ByteArray × List Int × Int) :=
 none
def jqR (u4:ByteArray) (u6:List Int):Option (ByteArray × List Int × Int) :=
 some ((u4,u6,0))
def jhG (u4:ByteArray):(Unit ⊕ (List Int))→Option (ByteArray × List Int × Int) :=
 (Sum.elim (jqQ u4) (jqR u4))
def jbD (u4:ByteArray) (u1:List (List NC)):Option (ByteArray × List Int × Int) :=
 Option.bind (y36 u4 u1) fun r0 =>
 if(r0.2 != 0)=true then
  none
 else
  if 0≤(↑u1.length:Int)∧(↑u1.length:Int)=(↑u1.length:Int)∧(↑(1:Nat):Int)*(↑u1.length:Int)≤281474976710656∧(↑u1.length:Int)≤9223372036854775807 then
  Option.bind (jag (je9 u1) big (((0:Int),List.replicate (Int.toNat (↑u1.length:Int)) false,[]))) (jhG u4)
  else none
def jsq:List Lf→Option GT
 |[.d (.s u4),.x (.st [.s,.i .i64,.ints .i64,.ints .i64,.ints .i64,.i .i64,.recs 5,.i .i64] u1)]=>some (.br (Option.isSome (ja9 u4 u1)) (.leaf (ok (ja9 u4 u1)) [.c (.d (.v (Value.pointer none))),.c (.d (.i .i64 ((val (ja9 u4 u1)))))]) (.leaf (ok (jbD u4 u1)) [.c (.box 130 [.d (.s ((val (jbD u4 u1)).1)),.g 0,.row 3 (.ints .i64 ((val (jbD u4 u1)).2.1))]),.c (.d (.i .i64 ((val (jbD u4 u1)).2.2)))]))
 |_=>none
abbrev jhH (u4:ByteArray) (u1:List (List NC)) (r:Int):Lp ((Int × List Bool × List Int) × Nat) (Int × List Bool × List Int) ((Unit ⊕ (List Int))) Int Int :=
 ⟨fun z=>z.1,fun z=>z.2,fun z x n=>(x,n),fun z=>jbT u1,fun z=>jhF,fun z=>top r,fun z=>0,[.c fun _=>0,.c fun _=>0,.c fun _=>(↑u1.length:Int),.c fun vv=>vv.1.1,.c fun _=>u4,.c fun _=>u4,.c fun vv=>vv.1.2.1,.c fun _=>u1,.c fun vv=>vv.1.2.2]⟩
abbrev jmw (u4:ByteArray) (u1:List (List NC)) (r:Int) (m1:Nat):Lp ((Int × List Bool × List Int) × Nat × Int × Nat) Int Int (((Int × List Bool × List Int) ⊕ (Unit ⊕ (List Int)))) Int :=
 ⟨fun z=>z.2.2.1,fun z=>z.2.2.2,fun z x n=>(z.1,z.2.1,x,n),fun z=>jcj u1 z.1,fun z=>jhE z.1,fun z=>(jhH u4 u1 r).cx (z.1,m1),fun z=>z.2.1,[.c fun _=>0,.c fun _=>0,.c fun _=>(-1:Int),.c fun _=>(↑u1.length:Int),.c fun vv=>vv.1.1,.c fun _=>(↑u1.length:Int),.c fun vv=>vv.2.2.1,.c fun _=>u4,.c fun _=>u4,.c fun vv=>vv.1.2.1,.c fun _=>u1,.c fun vv=>vv.1.2.2]⟩
def jtU (u4:ByteArray) (u1:List (List NC)) (r:Int):Sk (top r) (Option.bind (jag (jbT u1) big (((0:Int),List.replicate (Int.toNat (↑u1.length:Int)) false,[]))) (jhF)) :=
 .loopQ (jhH u4 u1 r) [.c fun _=>0,.c fun _=>0,.c fun _=>(↑u1.length:Int),.c fun vv=>vv.1.1,.c fun _=>u4,.c fun _=>u4,.c fun vv=>vv.1.2.1,.c fun _=>u1,.p fun vv=>List.length vv.1.2.2=(0:Nat)] (fun kk=>(((0:Int),List.replicate (Int.toNat (↑u1.length:Int)) false,[]),big)) (fun z0 =>
 .br
 (.loop (jmw u4 u1 r z0.2) (fun kk=>(z0.1,kk,0,big)) fun z1 =>
 .br
 (.ob (.ob (.brB
 (.call (.brB
 (.exit (.brB
 (.exit (.obT (.obT (.ret (fun r=>(Ob (Value.pointer none=Value.pointer none) ∧
 (Ob ((19:Int)=r) ∧
 True))) ⟨⟨rfl⟩,⟨⟨rfl⟩,trivial⟩⟩))))
 (.ob (.ob (.ob (.next))))))
 (.next)))
 (.next))))
 (.exit (.exit (.obT (.obT (.ret (fun r=>(Ob (Value.pointer none=Value.pointer none) ∧
 (Ob ((19:Int)=r) ∧
 True))) ⟨⟨rfl⟩,⟨⟨rfl⟩,trivial⟩⟩))))))
 (.exit (.obT (.obT (.bad (False)))))) (fun _=>⟨rfl,trivial⟩)
def jvU (u4:ByteArray) (u1:List (List NC)) (r:Int):Sk (top r) (ja9 u4 u1) :=
 .call (.brB
 (.obT (.obT (.ret (fun r=>(Ob (Value.pointer none=Value.pointer none) ∧
 (Ob ((val (y36 u4 u1)).2=r) ∧
 True))) ⟨⟨rfl⟩,⟨⟨rfl⟩,trivial⟩⟩)))
 (.ob (jtU u4 u1 r)))
theorem jtV (u4:ByteArray) (u1:List (List NC)) (r:Int) (h:Option.bind (ja9 u4 u1) some=some r):ja5 Tryz.f80 ((sp_18 (sp_85 sp0))) (fun gs id _=>match id with
 |0=>some ⟨(Int × List Bool × List Int) × Nat,fun z=>⟨[(1,.w (.c (.p 1 0 1 0))),(6,.w (.c (.p 2 0 1 0))),(7,.w (.c (.o 3))),(27,.w (.c (.d (.i .i64 ((↑u1.length:Int)))))),(28,.w (.c (.d (.i .i64 z.1.1))))],[(1,.box 24 [.d (.s u4),.o 0]),(2,.box 130 [.d (.s u4),.o 0,.o 4]),(3,.row 4 (.bools z.1.2.1)),(0,.xext (XC.st [NK.s,NK.i .i64,NK.ints .i64,NK.ints .i64,NK.ints .i64,NK.i .i64,NK.recs (5:Nat),NK.i .i64] u1)),(4,.row 3 (.ints .i64 z.1.2.2))],5⟩,fun z=>(jhH u4 u1 r).inv z,fun z=>z.2⟩
 |2=>some ⟨(Int × List Bool × List Int) × Nat × Int × Nat,fun z=>⟨[(1,.w (.c (.p 1 0 1 0))),(6,.w (.c (.p 2 0 1 0))),(7,.w (.c (.o 3))),(8,.w (.c (.d (.i .i64 (-1:Int))))),(27,.w (.c (.d (.i .i64 ((↑u1.length:Int)))))),(28,.w (.c (.d (.i .i64 (z.1.1))))),(32,.w (.c (.d (.i .i64 ((↑u1.length:Int)))))),(33,.w (.c (.d (.i .i64 z.2.2.1))))],[(1,.box 24 [.d (.s u4),.o 0]),(2,.box 130 [.d (.s u4),.o 0,.o 4]),(3,.row 4 (.bools (z.1.2.1))),(0,.xext (XC.st [NK.s,NK.i .i64,NK.ints .i64,NK.ints .i64,NK.ints .i64,NK.i .i64,NK.recs (5:Nat),NK.i .i64] u1)),(4,.row 3 (.ints .i64 (z.1.2.2)))],5⟩,fun z=>(jmw u4 u1 r (gs.getD 0 0)).inv z,fun z=>z.2.2.2⟩
 |_=>none) (ja0 jgD [.d (.s u4),.x (.st [.s,.i .i64,.ints .i64,.ints .i64,.ints .i64,.i .i64,.recs 5,.i .i64] u1)]) [.c (.d (.v (Value.pointer none))),.c (.d (.i .i64 r))] :=
 Sk.vc (jvU u4 u1 r) (by kernel_rfl) h
abbrev jhI (u4:ByteArray) (u1:List (List NC)) (r:ByteArray × List Int × Int):Lp ((Int × List Bool × List Int) × Nat) (Int × List Bool × List Int) ((Unit ⊕ (List Int))) (ByteArray × List Int × Int) (ByteArray × List Int × Int) :=
 ⟨fun z=>z.1,fun z=>z.2,fun z x n=>(x,n),fun z=>je9 u1,fun z=>jhG u4,fun z=>top r,fun z=>0,[.c fun _=>0,.c fun _=>0,.c fun _=>(↑u1.length:Int),.c fun vv=>vv.1.1,.c fun _=>u4,.c fun _=>u4,.c fun vv=>vv.1.2.1,.c fun _=>u1,.c fun vv=>vv.1.2.2]⟩
abbrev jmx (u4:ByteArray) (u1:List (List NC)) (r:ByteArray × List Int × Int) (m1:Nat):Lp ((Int × List Bool × List Int) × Nat × Int × Nat) Int Int (((Int × List Bool × List Int) ⊕ (Unit ⊕ (List Int)))) (ByteArray × List Int × Int) :=
 ⟨fun z=>z.2.2.1,fun z=>z.2.2.2,fun z x n=>(z.1,z.2.1,x,n),fun z=>jmu u1 z.1,fun z=>jmv z.1,fun z=>(jhI u4 u1 r).cx (z.1,m1),fun z=>z.2.1,[.c fun _=>0,.c fun _=>0,.c fun _=>(-1:Int),.c fun _=>(↑u1.length:Int),.c fun vv=>vv.1.1,.c fun _=>(↑u1.length:Int),.c fun vv=>vv.2.2.1,.c fun _=>u4,.c fun _=>u4,.c fun vv=>vv.1.2.1,.c fun _=>u1,.c fun vv=>vv.1.2.2]⟩
def jtW (u4:ByteArray) (u1:List (List NC)) (r:ByteArray × List Int × Int):Sk (top r) (Option.bind (jag (je9 u1) big (((0:Int),List.replicate (Int.toNat (↑u1.length:Int)) false,[]))) (jhG u4)) :=
 .loopQ (jhI u4 u1 r) [.c fun _=>0,.c fun _=>0,.c fun _=>(↑u1.length:Int),.c fun vv=>vv.1.1,.c fun _=>u4,.c fun _=>u4,.c fun vv=>vv.1.2.1,.c fun _=>u1,.p fun vv=>List.length vv.1.2.2=(0:Nat)] (fun kk=>(((0:Int),List.replicate (Int.toNat (↑u1.length:Int)) false,[]),big)) (fun z0 =>
 .br
 (.loop (jmx u4 u1 r z0.2) (fun kk=>(z0.1,kk,0,big)) fun z1 =>
 .br
 (.ob (.ob (.brB
 (.call (.brB
 (.exit (.brB
 (.exit (.obT (.obT (.bad (False)))))
 (.ob (.ob (.ob (.next))))))
 (.next)))
 (.next))))
 (.exit (.exit (.obT (.obT (.bad (False)))))))
 (.exit (.obT (.obT (.rc))))) (fun _=>⟨rfl,trivial⟩)
def jvV (u4:ByteArray) (u1:List (List NC)) (r:ByteArray × List Int × Int):Sk (top r) (jbD u4 u1) :=
 .call (.brB
 (.obT (.obT (.bad (False))))
 (.ob (jtW u4 u1 r)))
theorem jtX (u4:ByteArray) (u1:List (List NC)) (r:ByteArray × List Int × Int) (h:Option.bind (jbD u4 u1) some=some r):ja5 Tryz.f80 ((sp_18 (sp_85 sp0))) (fun gs id _=>match id with
 |0=>some ⟨(Int × List Bool × List Int) × Nat,fun z=>⟨[(1,.w (.c (.p 1 0 1 0))),(6,.w (.c (.p 2 0 1 0))),(7,.w (.c (.o 3))),(27,.w (.c (.d (.i .i64 ((↑u1.length:Int)))))),(28,.w (.c (.d (.i .i64 z.1.1))))],[(1,.box 24 [.d (.s u4),.o 0]),(2,.box 130 [.d (.s u4),.o 0,.o 4]),(3,.row 4 (.bools z.1.2.1)),(0,.xext (XC.st [NK.s,NK.i .i64,NK.ints .i64,NK.ints .i64,NK.ints .i64,NK.i .i64,NK.recs (5:Nat),NK.i .i64] u1)),(4,.row 3 (.ints .i64 z.1.2.2))],5⟩,fun z=>(jhI u4 u1 r).inv z,fun z=>z.2⟩
 |2=>some ⟨(Int × List Bool × List Int) × Nat × Int × Nat,fun z=>⟨[(1,.w (.c (.p 1 0 1 0))),(6,.w (.c (.p 2 0 1 0))),(7,.w (.c (.o 3))),(8,.w (.c (.d (.i .i64 (-1:Int))))),(27,.w (.c (.d (.i .i64 ((↑u1.length:Int)))))),(28,.w (.c (.d (.i .i64 (z.1.1))))),(32,.w (.c (.d (.i .i64 ((↑u1.length:Int)))))),(33,.w (.c (.d (.i .i64 z.2.2.1))))],[(1,.box 24 [.d (.s u4),.o 0]),(2,.box 130 [.d (.s u4),.o 0,.o 4]),(3,.row 4 (.bools (z.1.2.1))),(0,.xext (XC.st [NK.s,NK.i .i64,NK.ints .i64,NK.ints .i64,NK.ints .i64,NK.i .i64,NK.recs (5:Nat),NK.i .i64] u1)),(4,.row 3 (.ints .i64 (z.1.2.2)))],5⟩,fun z=>(jmx u4 u1 r (gs.getD 0 0)).inv z,fun z=>z.2.2.2⟩
 |_=>none) (ja0 jgD [.d (.s u4),.x (.st [.s,.i .i64,.ints .i64,.ints .i64,.ints .i64,.i .i64,.recs 5,.i .i64] u1)]) [.c (.box 130 [.d (.s r.1),.g 0,.row 3 (.ints .i64 r.2.1)]),.c (.d (.i .i64 r.2.2))] :=
 Sk.vc (jvV u4 u1 r) (by kernel_rfl) h
theorem jxh:jaf Tryz.prog 80 true (jai jgD jsq):=by
 refine jav (sp:=(sp_18 (sp_85 sp0))) (fn:=Tryz.f80) (body:=bodyOf Tryz.f80) mixed (sp_18_ok (sp_85_ok jau)) Tryz.func80 (by kernel_rfl) (by kernel_rfl) fun ls t h ho b hb=>?_
 unfold jsq at h
 split at h
 ·rename_i u4 u1
  cases h
  obtain rfl:=jaL hb
  refine jAv (Q:=fun rs=>_∧∃fuel loops,sx _ _ _ _ fuel loops _ _ _ _ _ (jdG _ _ fun v hp _=>jkw _ rs v hp)) (fun _ ho=>⟨Nat.le_of_ble_eq_true (by kernel_rfl),_,_,jtV u4 u1 _ (jap ho)⟩) (fun _ ho=>?_) ho
  exact⟨Nat.le_of_ble_eq_true (by kernel_rfl),_,_,jtX u4 u1 _ (jap ho)⟩
 ·cases h
end Go.Sh
end

section
namespace Go.Sh
open Go Go.Proofs Go.RowKit Go.Sx
theorem jpA {g:List (List NC)} {i:Nat} (h:ja6 g i=0):(∀x∈nL g i 2,0≤x∧x<(g.length:Int))∧(nI g i 7=-1∨(0≤nI g i 7∧nI g i 7<(g.length:Int))):=by
 have hm:jdA g.length (nL g i 2)=false:=by
  cases hb:jdA g.length (nL g i 2)with
  |false=>rfl
  |true =>
   exfalso
   unfold ja6 at h
   rw[if_pos hb]at h
   repeat' split at h
   all_goals exact absurd h (by decide)
 have hs:sdB g.length (nI g i 7)=true:=by
  cases hb:sdB g.length (nI g i 7)with
  |true=>rfl
  |false =>
   exfalso
   unfold ja6 at h
   rw[hm,if_neg (by simp:¬(false=true)),hb,if_pos (by simp:(!false)=true)]at h
   repeat' split at h
   all_goals exact absurd h (by decide)
 refine⟨fun x hx=>?_,?_⟩
 ·have:=List.any_eq_false.1 hm x hx
  simp only[inB,Bool.not_eq_true,Bool.not_eq_false',Bool.and_eq_true,decide_eq_true_eq]at this
  omega
 ·unfold sdB inB at hs
  simp only[Bool.or_eq_true,beq_iff_eq,Bool.and_eq_true,decide_eq_true_eq]at hs
  omega
def jem (out:List Int) (k:Nat):Bool:=out.any (·== (k:Int))
def jdB (g:List (List NC)) (i k:Nat):Bool:=(nL g i 2).any (·== (k:Int))||nI g i 7==(k:Int)
def jdd (g:List (List NC)) (out:List Int) (i:Nat):Bool:=!(List.range g.length).any fun k=>jdB g i k && !jem out k
def jdP (g:List (List NC)) (out:List Int) (i:Nat):Bool:=!jem out i&&jdd g out i
def jby (g:List (List NC)) (out:List Int):Option Nat:=(List.range g.length).find? (jdP g out)
def jbe (n:Nat) (out:List Int):List Bool:=(List.range n).map (jem out)
theorem jp7 {g:List (List NC)} (hw:Fw g) {i:Nat} (hi:i<g.length) (k:Nat) (nm:ByteArray) (a:Int) (b c:List Int) (d:Int) (e:List (List Int)):jc8 nm a (nL g i 2) b c d e (nI g i 7) (k:Int)=some (jdB g i k):=by
 have h2:=hw.fr i hi
 unfold jc8 jdB
 rw[jdN _ _ (by omega),jad]
 cases (nL g i 2).any (·== (k:Int))<;>rfl
theorem jxi {g:List (List NC)} (hw:Fw g) (nm:ByteArray) {i:Nat} (hi:i<g.length) (out:List Int) (ho:out.length<1000):jc9 nm g out (i:Int)=some (jdd g out i):=by
 have hn:=hw.n
 unfold jc9
 have key:=jdk (body:=y76 g out (i:Int)) g.length (fun k=>jdB g i k && !jem out k) (.inl ()) (.inr ()) (by omega) (fun k hk hp=>by
   simp only[Bool.and_eq_true,Bool.not_eq_true']at hp
   unfold y76
   simp only[Int.toNat_natCast]
   rw[if_pos (by omega),if_pos (by omega),if_pos hi,jp7 hw hi,jad,if_pos hp.1,jdN _ _ (by omega),jad]
   have h2:(out.any (·== (k:Int)))=false:=hp.2
   rw[h2]
   rfl) (fun k hk hp=>by
   unfold y76
   simp only[Int.toNat_natCast]
   rw[if_pos (by omega),if_pos (by omega),if_pos hi,jp7 hw hi,jad]
   cases h1:jdB g i k with
   |false=>rw[if_neg (by simp),jaC (by omega)]
   |true =>
    rw[h1]at hp
    have h2:jem out k=true:=by simpa using hp
    have h2:(out.any (·== (k:Int)))=true:=h2
    rw[if_pos rfl,jdN _ _ (by omega),jad,h2,jaC (by omega)]
    rfl) (by
   unfold y76
   rw[if_neg (by omega)])
 rw[key]
 unfold jdd
 cases (List.range g.length).any (fun k=>jdB g i k && !jem out k)<;>rfl
theorem jf1 (n:Nat) (out:List Int):(jbe n out).length=n:=by simp[jbe]
theorem jf2 {n k:Nat} (hk:k<n) (out:List Int):(jbe n out).getD k false=jem out k:=by simp[jbe,List.getD,hk]
theorem jvW {n i:Nat} (hi:i<n) (out:List Int):(jbe n out).set i true=jbe n (out++[(i:Int)]):=by
 refine List.ext_getElem (by simp[jbe]) fun k h1 h2=>?_
 have hk:k<n:=by simpa [jbe]using h2
 rw[List.getElem_set]
 simp only[jbe,List.getElem_map,List.getElem_range,jem,List.any_append,List.any_cons,List.any_nil,Bool.or_false]
 by_cases h:i=k
 ·subst h; simp
 ·rw[if_neg h]
  have:((i:Int)==(k:Int))=false:=by simp; omega
  rw[this,Bool.or_false]
theorem jp8 {g:List (List NC)} (hw:Fw g) {i:Nat} (hi:i<g.length) (hr:ja6 g i=0) (out:List Int):jcN g (i:Int) (jbe g.length out)=some (jdd g out i):=by
 have h2:=hw.fr i hi
 obtain⟨r1,r2⟩:=jpA hr
 have hmem:∀x,x∈Sx09.needL (nL g i 2) (nI g i 7)↔(x∈nL g i 2∨(nI g i 7≠-1∧x=nI g i 7)):=fun x=>by
  unfold Sx09.needL
  split
  ·rename_i h; simp[h]
  ·rename_i h; simp[h]
 have hrg:∀x∈Sx09.needL (nL g i 2) (nI g i 7),0≤x∧x<(g.length:Int):=fun x hx=>by
  rcases(hmem x).1 hx with h|⟨h,rfl⟩
  ·exact r1 x h
  ·exact r2.resolve_left h
 unfold jcN
 simp only[Int.toNat_natCast]
 rw[if_pos (by omega),if_pos ⟨by omega,by
  rw[List.all_eq_true]
  intro x hx
  rw[jf1]
  simpa using hrg x hx⟩]
 congr 1
 rw[Bool.eq_iff_iff]
 unfold Sx09.readyB jdd
 rw[List.all_eq_true,Bool.not_eq_true',List.any_eq_false]
 constructor
 ·intro h k hk
  have hk:k<g.length:=List.mem_range.1 hk
  simp only[Bool.and_eq_true,Bool.not_eq_true',not_and,Bool.not_eq_false]
  intro hn
  have hx:(k:Int)∈Sx09.needL (nL g i 2) (nI g i 7):=by
   rw[hmem]
   unfold jdB at hn
   rw[Bool.or_eq_true,List.any_eq_true]at hn
   rcases hn with ⟨x,hx,e⟩|e
   ·have:x=(k:Int):=by simpa using e
    subst this; exact .inl hx
   ·have:nI g i 7=(k:Int):=by simpa using e
    exact .inr ⟨by omega,this.symm⟩
  have:=h _ hx
  rwa [Int.toNat_natCast,jf2 hk]at this
 ·intro h x hx
  obtain⟨h0,h1⟩:=hrg x hx
  obtain⟨k,rfl⟩:∃k:Nat,x=(k:Int):=⟨x.toNat,by omega⟩
  have hk:k<g.length:=by omega
  rw[Int.toNat_natCast,jf2 hk]
  have:=h k (List.mem_range.2 hk)
  simp only[Bool.and_eq_true,Bool.not_eq_true',not_and,Bool.not_eq_false]at this
  refine this ?_
  unfold jdB
  rw[Bool.or_eq_true,List.any_eq_true]
  rcases(hmem _).1 hx with h|⟨h,e⟩
  ·exact .inl ⟨_,h,by simp⟩
  ·exact .inr (by simp[←e])
theorem jyI (P:Nat→Bool) (l:List Nat):(l.findIdx? P).map (fun i=>l.getD i 0)=l.find? P:=by
 induction l with
 |nil=>rfl
 |cons x r ih =>
  rw[List.findIdx?_cons,List.find?_cons]
  cases P x with
  |true=>rfl
  |false =>
   rw[←ih]
   cases r.findIdx? P<;>rfl
theorem jxj {Y:Type} (n:Nat) (P:Nat→Bool) {body:Int→Option (Int ⊕ Y)} (hit:Nat→Y) (miss:Y) (hlen:n<9223372036854775807)
  (h1:∀i,i<n→P i=true→body (i:Int)=some (.inr (hit i)))
  (h2:∀i,i<n→P i=false→body (i:Int)=some (.inl ((i:Int)+1))) (h3:body (n:Int)=some (.inr miss)) :
  jag body big 0=some (match(List.range n).find? P with|some i=>hit i|none=>miss):=by
 have hg:∀i,i<n→(List.range n).getD i 0=i:=fun i hi=>by simp[List.getD,hi]
 have key:=jbr (body:=body) (List.range n) 0 P hit miss (by simpa using hlen) (fun i hi hp=>by
   have hi:i<n:=by simpa using hi
   rw[hg i hi]at hp; exact h1 i hi hp) (fun i hi hp=>by
   have hi:i<n:=by simpa using hi
   rw[hg i hi]at hp; exact h2 i hi hp) (by simpa using h3)
 rw[key,←jyI]
 cases h:(List.range n).findIdx? P with
 |none=>rfl
 |some i =>
  show some (hit i)=some (hit ((List.range n).getD i 0))
  rw[hg i (jor h)]
def jdp (next:List Int→Option Nat):Nat→List Int→Option (List Int)
 |0,out=>some out
 |k+1,out=>match next out with
  |some i=>jdp next k (out++[(i:Int)])
  |none=>none
theorem jm3 {X Y:Type} {body:X→Option (X ⊕ Y)} (F:List Int→X) (next:List Int→Option Nat) (good:List Int→Y) (bad:Y) (n:Nat)
  (h1:∀out,out.length<n→body (F out)=some (match next out with|some i=>.inl (F (out++[(i:Int)]))|none=>.inr bad)) (h2:∀out,out.length=n→body (F out)=some (.inr (good out))) :
  ∀(k:Nat) (out:List Int) (N:Nat),out.length+k=n→k<N→jag body N (F out)=some (match jdp next k out with|some l=>good l|none=>bad)
 |0,out,0,_,h=>by omega
 |0,out,N+1,ho,_=>by
  unfold jag
  rw[h2 out (by omega)]
  rfl
 |k+1,out,0,_,h=>by omega
 |k+1,out,N+1,ho,hN=>by
  unfold jag
  rw[h1 out (by omega)]
  unfold jdp
  cases hx:next out with
  |none=>rfl
  |some i=>exact jm3 F next good bad n h1 h2 k (out++[(i:Int)]) N (by simp; omega) (by omega)
end Go.Sh
end

section
open Go.RowKit
namespace Go.Sx
def nzI (e:Int):Int:=Int.ofNat (e.toNat-1+1)
theorem jAK {e:Int} (h:0<e):nzI e=e:=by
 unfold nzI
 rw[Int.ofNat_eq_natCast]
 omega
theorem jxk [Globs] {P:Program} {f:Nat} {shs:List SV} {g g':List Lf→Option GT} (h:∀ls t',g' ls=some t'→∃t,g ls=some t∧(t'.sel.1→t.sel.1∧t.sel.2=t'.sel.2)) (hS:jaf P f true (jai shs g)):jaf P f true (jai shs g'):=by
 have key:∀args hp nx t',jai shs g' args hp nx=some t'→t'.sel.ob→∃t,jai shs g args hp nx=some t∧t.sel.ob∧t.sel.v=t'.sel.v∧t.sel.hp=t'.sel.hp∧t.sel.nx=t'.sel.nx:=by
  intro args hp nx t' ht hob
  unfold jai at ht ⊢
  split at ht
  ·rename_i ls am hto
   split at ht
   ·rename_i q' hg
    cases ht
    obtain⟨q,hq,himp⟩:=h ls q' hg
    rw[jbq]at hob ⊢
    obtain⟨h1,h2⟩:=himp hob
    refine⟨q.toRT am hp nx,by simp only[hq],?_,?_,?_,?_⟩
    ·rw[jbq]; exact h1
    all_goals rw[jbq]; simp only[h2]
   ·cases ht
  ·cases ht
 rcases hS with hR|hV
 ·refine .inl ⟨hR.enter,fun ρ B w args hp nx t' ht hob hlt hh hB=>?_⟩
  obtain⟨t,q1,q2,q3,q4,q5⟩:=key args hp nx t' ht hob
  refine(hR.sound ρ B w args hp nx t q1 q2 hlt hh hB).mono ?_
  rintro e w' ⟨ρ',he,hl⟩
  refine⟨ρ',by rw[he,q3],hl.agree,by rw[←q3,←q5]; exact hl.lt,by rw[←q5]; exact hl.le,by rw[←q4,←q5]; exact hl.heap,hl.below,hl.mono,by rw[←q4]; exact hl.fresh⟩
 ·refine .inr fun ρ B w args hp nx t' ht hob hlt hh hB=>?_
  obtain⟨t,q1,q2,q3,q4,q5⟩:=key args hp nx t' ht hob
  obtain⟨ob,v,e1,e2,e3⟩:=hV ρ B w args hp nx t q1 q2 hlt hh hB
  rw[e1]at q3 q4 q5
  refine⟨t'.sel.ob,v,?_,e2,e3⟩
  cases hs:t'.sel with
  |mk ob' v' hp' nx' =>
   rw[hs]at q3 q4 q5
   simp only at q3 q4 q5
   rw[←q3,←q4,←q5]
end Go.Sx
namespace Go.Sh
open Go Go.Proofs Go.RowKit Go.Sx
def jdC (gName:ByteArray) (gUnits:List (List NC)):Option Int:=(ja9 gName gUnits).bind fun e=>if 0<e then some e else none
def jen (gName:ByteArray) (gUnits:List (List NC)):Option (List Int):=(jbD gName gUnits).map fun r=>r.2.1
def jji (gName:ByteArray) (gUnits:List (List NC)):Bool:=(ja9 gName gUnits).isSome
def jk0:List Lf→Option GT
 |[.d (.s gName),.x (.st [.s,.i .i64,.ints .i64,.ints .i64,.ints .i64,.i .i64,.recs 5,.i .i64] gUnits)]=>some (.br (jji gName gUnits) (.leaf (ok (jdC gName gUnits)) [.c (.d (.v (Value.pointer none))),.c (.d (.i .i64 (nzI (val (jdC gName gUnits)))))]) (.leaf (ok (jen gName gUnits)) [.c (.box 130 [.d (.s gName),.g 0,.row 3 (.ints .i64 (val (jen gName gUnits)))]),.c (.d (.i .i64 0))]))
 |_=>none
theorem jxl {gName:ByteArray} {gUnits:List (List NC)} {r:ByteArray × List Int × Int} (h:jbD gName gUnits=some r):r.1=gName∧r.2.2=0:=by
 unfold jbD at h
 obtain⟨c,_,h⟩:=Option.bind_eq_some_iff.1 h
 split at h
 ·cases h
 ·split at h
  ·obtain⟨y,_,h⟩:=Option.bind_eq_some_iff.1 h
   cases y with
   |inl u=>cases h
   |inr l=>cases h; exact⟨rfl,rfl⟩
  ·cases h
theorem jvX:jaf Tryz.prog 80 true (jai jgD jk0):=by
 refine jxk (fun ls t' h=>?_) jxh
 unfold jk0 at h
 split at h
 ·rename_i gName gUnits
  cases h
  refine⟨_,rfl,fun hob=>?_⟩
  unfold jji at hob ⊢
  cases hq:(ja9 gName gUnits).isSome with
  |true =>
   rw[hq]at hob
   have hob:ok (jdC gName gUnits):=hob
   obtain⟨e,he⟩:=Option.isSome_iff_exists.1 hq
   have hF:jdC gName gUnits=if 0<e then some e else none:=by unfold jdC; rw[he]; rfl
   have hpos:0<e:=by
    rw[hF]at hob
    by_cases h0:0<e
    ·exact h0
    ·rw[if_neg h0]at hob; cases hob
   rw[if_pos hpos]at hF
   refine⟨hq,?_⟩
   show[RR.c (.d (.v (Value.pointer none))),RR.c (.d (.i .i64 (val (ja9 gName gUnits))))]=[RR.c (.d (.v (Value.pointer none))),RR.c (.d (.i .i64 (nzI (val (jdC gName gUnits)))))]
   rw[jn9 he,jn9 hF,jAK hpos]
  |false =>
   rw[hq]at hob
   have hob:ok (jen gName gUnits):=hob
   cases he:jbD gName gUnits with
   |none=>unfold jen at hob; rw[he]at hob; cases hob
   |some r =>
    have hS:jen gName gUnits=some r.2.1:=by unfold jen; rw[he]; rfl
    obtain⟨q1,q2⟩:=jxl he
    refine⟨rfl,?_⟩
    show[RR.c (.box 130 [.d (.s r.1),.g 0,.row 3 (.ints .i64 r.2.1)]),RR.c (.d (.i .i64 r.2.2))]=[RR.c (.box 130 [.d (.s gName),.g 0,.row 3 (.ints .i64 (val (jen gName gUnits)))]),RR.c (.d (.i .i64 0))]
    rw[jn9 hS,q1,q2]
 ·cases h
abbrev sp_80:jaa→jaa:=jaG 80 true (jai jgD jk0)
theorem sp_80_ok {sp:jaa} (h:jac Tryz.prog sp):jac Tryz.prog (sp_80 sp):=jar jvX h
end Go.Sh
end

section
namespace Go.Sh
open Go Go.Proofs Go.RowKit Go.Sx
end Go.Sh
end

section
namespace Go.Sh
open Go Go.Proofs Go.RowKit Go.Sx
open Go.IntKind (wrap)
theorem juF {g:List (List NC)} {out:List Int} {i:Nat} (h:jby g out=some i):i<g.length∧jdP g out i=true :=
 ⟨List.mem_range.1 (List.mem_of_find?_eq_some h),List.find?_some h⟩
def jf3 (P:Nat→Bool) (n k:Nat):Int:=match(List.range' (n-k) k).find? P with
 |some i=>(i:Int)
 |none=>-1
theorem jvY (P:Nat→Bool) {n k:Nat} (hk:k<n):jf3 P n (k+1)=if P (n-1-k)=true then((n-1-k:Nat):Int)else jf3 P n k:=by
 unfold jf3
 have e:n-(k+1)=n-1-k:=by omega
 rw[List.range'_succ,e,List.find?_cons]
 have e2:n-1-k+1=n-k:=by omega
 rw[e2]
 cases P (n-1-k)<;>rfl
theorem jxm (P:Nat→Bool) (n:Nat):jf3 P n n=match(List.range n).find? P with|some i=>(i:Int)|none=>-1:=by
 unfold jf3
 rw[Nat.sub_self,←List.range_eq_range']
def jlG (g:List (List NC)) (out:List Int):Int:=match jby g out with
 |some i=>(i:Int)
 |none=>-1
theorem jxn {g:List (List NC)} (hw:Fw g) (nm:ByteArray) (out:List Int) (ho:out.length<1000):jag (y66 nm g out) big (-1,wrap IntKind.i64 ((g.length:Int)-1))=some (jlG g out):=by
 have hn:=hw.n
 have key:=jfr (body:=y66 nm g out) (fun k=>(jf3 (jdP g out) g.length k,(g.length:Int)-1-(k:Int))) (y:=jlG g out) (k:=g.length) (fun k hk=>by
   unfold y66
   obtain⟨j,hj⟩:∃j:Nat,(g.length:Int)-1-(k:Int)=(j:Int):=⟨g.length-1-k,by omega⟩
   have hjn:j=g.length-1-k:=by omega
   have hjl:j<g.length:=by omega
   rw[hj,if_pos (by omega),jdN _ _ (by omega),jad,jxi hw nm hjl out ho]
   have hs:=jvY (jdP g out) hk
   rw[←hjn]at hs
   have he:(g.length:Int)-1-((k+1:Nat):Int)=(j:Int)-1:=by omega
   rw[he,hs,jaC (by omega)]
   have hc:jdP g out j=(!(out.any (·== (j:Int)))&&jdd g out j):=rfl
   rw[hc]
   cases out.any (·== (j:Int))with
   |true=>rfl
   |false =>
    cases jdd g out j<;>rfl) (by
   unfold y66
   rw[if_neg (by show ¬((g.length:Int)-1-(g.length:Int)≥0); omega)]
   show some (Sum.inr (jf3 (jdP g out) g.length g.length))=_
   rw[jxm]
   rfl) (by omega)
 have e0:jf3 (jdP g out) g.length 0=-1:=rfl
 have key:jag (y66 nm g out) big (jf3 (jdP g out) g.length 0,(g.length:Int)-1-((0:Nat):Int))=some (jlG g out):=key
 rw[e0]at key
 rw[jaC (by omega)]
 have e1:(g.length:Int)-1-((0:Nat):Int)=(g.length:Int)-1:=by omega
 rw[e1]at key
 exact key
theorem jha {g:List (List NC)} (hw:Fw g) (nm:ByteArray):y1 nm g=some (match jdp (jby g) g.length []with|some l=>(l,true)|none=>([],false)):=by
 have hn:=hw.n
 unfold y1
 have key:=jm3 (body:=y77 nm g) (fun out=>out) (jby g) (fun l=>.inr l) (.inl ()) g.length (fun out ho=>by
   unfold y77
   rw[if_pos (by omega),jxn hw nm out (by omega),jad]
   unfold jgx jlG
   cases hx:jby g out with
   |none=>rfl
   |some i =>
    show(if(i:Int)<0 then _ else _)=_
    rw[if_neg (by omega),if_pos (by simp only[List.length_cons,List.length_nil]; omega)]) (fun out ho=>by
   unfold y77
   rw[if_neg (by omega)]) g.length [] big (by simp) (by have:big=18446744073709551616:=rfl; omega)
 rw[key]
 cases jdp (jby g) g.length []<;>rfl
theorem jvZ (n:Nat):jbe n []=List.replicate n false:=by
 refine List.ext_getElem (by simp[jbe]) fun k h1 h2=>?_
 simp[jbe,jem]
theorem jxo {g:List (List NC)} (hw:Fw g) (hall:∀i,i<g.length→ja6 g i=0) (out:List Int) (k:Int):jag (jcj g (k,jbe g.length out,out)) big 0=some (jlG g out):=by
 have hn:=hw.n
 have key:=jxj (body:=jcj g (k,jbe g.length out,out)) g.length (jdP g out) (fun i=>(i:Int)) (-1) (by omega) (fun i hi hp=>by
   unfold jcj
   simp only[Int.toNat_natCast,jf1]
   unfold jdP at hp
   rw[Bool.and_eq_true]at hp
   rw[if_pos (by omega),if_pos (by omega),if_pos hi,jf2 hi,if_pos hp.1,jp8 hw hi (hall i hi),jad,if_pos hp.2]) (fun i hi hp=>by
   unfold jcj
   simp only[Int.toNat_natCast,jf1]
   unfold jdP at hp
   rw[if_pos (by omega),if_pos (by omega),if_pos hi,jf2 hi]
   cases hh:jem out i with
   |true=>rw[if_neg (by simp),jaC (by omega)]
   |false =>
    rw[hh]at hp
    have hr:jdd g out i=false:=by simpa using hp
    rw[if_pos (by rfl),jp8 hw hi (hall i hi),jad,hr,if_neg (by simp),jaC (by omega)]) (by
   unfold jcj
   rw[if_neg (by omega)])
 exact key
theorem jsr {g:List (List NC)} (hw:Fw g) (hall:∀i,i<g.length→ja6 g i=0):jag (jbT g) big ((0:Int),List.replicate g.length false,[])=some (match jdp (jby g) g.length []with|some l=>.inr l|none=>.inl ()):=by
 have hn:=hw.n
 have key:=jm3 (body:=jbT g) (fun out=>((out.length:Int),jbe g.length out,out)) (jby g) (fun l=>.inr l) (.inl ()) g.length (fun out ho=>by
   unfold jbT
   rw[if_pos (by show(out.length:Int)<_; omega),jxo hw hall,jad]
   unfold jhE jlG
   cases hx:jby g out with
   |none=>rfl
   |some i =>
    have hi:=(juF hx).1
    have hne:((i:Int) == -1)=false:=by
     rw[beq_eq_false_iff_ne]; omega
    simp only[jf1]
    rw[hne,if_neg (by simp),if_pos (by omega),if_pos (by omega),if_pos (by simp only[List.length_cons,List.length_nil]; omega),jaC (by omega),Int.toNat_natCast,jvW hi]
    simp) (fun out ho=>by
   unfold jbT
   rw[if_neg (by show ¬(out.length:Int)<_; omega)]) g.length [] big (by simp) (by have:big=18446744073709551616:=rfl; omega)
 rw[jvZ]at key
 exact key
theorem jk1 (next:List Int→Option Nat):∀(k:Nat) (out l:List Int),jdp next k out=some l→out.length+k=l.length∧l.take out.length=out∧∀j,out.length≤j→j<l.length→∃i,next (l.take j)=some i∧l.getD j 0=((i:Nat):Int)
 |0,out,l,h=>by
  cases h
  exact⟨rfl,List.take_length,fun j h1 h2=>by omega⟩
 |k+1,out,l,h=>by
  unfold jdp at h
  cases hx:next out with
  |none=>rw[hx]at h; cases h
  |some i =>
   rw[hx]at h
   obtain⟨h1,h2,h3⟩:=jk1 next k (out++[(i:Int)]) l h
   simp only[List.length_append,List.length_cons,List.length_nil]at h1 h2 h3
   have ht:l.take out.length=out:=by
    have:(l.take (out.length+1)).take out.length=out:=by rw[h2]; simp
    rwa [List.take_take,Nat.min_eq_left (by omega)]at this
   refine⟨by omega,ht,fun j hj1 hj2=>?_⟩
   by_cases hj:j=out.length
   ·subst hj
    refine⟨i,by rw[ht]; exact hx,?_⟩
    have hg:(l.take (out.length+1))[out.length]?=some (i:Int):=by rw[h2]; simp
    rw[List.getElem?_take_of_lt (by omega)]at hg
    simp[List.getD,hg]
   ·exact h3 j (by omega) hj2
theorem jtY (c:List (List Int)):0≤jcA c:=by
 unfold jcA
 repeat' split
 all_goals omega
theorem jtZ (g:List (List NC)) (i:Nat):0≤ja6 g i:=by
 unfold ja6
 have:=jtY (nR g i 6)
 generalize jcA (nR g i 6)=c at *
 repeat' split
 all_goals omega
theorem jxp (nm:ByteArray) (g:List (List NC)):0≤(cg nm g).2:=by
 rw[jkX]
 unfold cgF
 split
 ·show(0:Int)≤4; omega
 ·split
  ·show(0:Int)≤8; omega
  ·cases (List.range g.length).findIdx? (fun i=>ja6 g i != 0)with
   |none=>exact Int.le_refl _
   |some i=>exact jtZ g i
theorem jpB {nm:ByteArray} {g:List (List NC)} (h:(cg nm g).2=0):∀i,i<g.length→ja6 g i=0:=by
 rw[jkX]at h
 unfold cgF at h
 split at h
 ·exact absurd (show(4:Int)=0 from h) (by omega)
 ·split at h
  ·exact absurd (show(8:Int)=0 from h) (by omega)
  ·cases hf:(List.range g.length).findIdx? (fun i=>ja6 g i != 0)with
   |none =>
    intro i hi
    rw[List.findIdx?_eq_none_iff]at hf
    simpa using hf i (List.mem_range.2 hi)
   |some i =>
    rw[hf]at h
    have h:ja6 g i=0:=h
    rw[List.findIdx?_eq_some_iff_getElem]at hf
    obtain⟨hlt,hp,_⟩:=hf
    simp only[List.getElem_range]at hp
    rw[h]at hp
    exact absurd hp (by decide)
theorem jxq {n:Nat} (h:n<1000):(0:Int)≤(n:Int)∧(n:Int)=(n:Int)∧((1:Nat):Int)*(n:Int)≤281474976710656∧(n:Int)≤9223372036854775807:=by
 omega
theorem jxr {g:List (List NC)} (hw:Fw g) {nm:ByteArray} (hs:nm.size<1000) (h:(cg nm g).2≠0):ja9 nm g=some (cg nm g).2:=by
 unfold ja9
 rw[jkW hw hs,jad,if_pos (bne_iff_ne.2 h)]
theorem jss {g:List (List NC)} (hw:Fw g) {nm:ByteArray} (hs:nm.size<1000) (h:(cg nm g).2=0):ja9 nm g=match jdp (jby g) g.length []with|some _=>none|none=>some 19:=by
 unfold ja9
 rw[jkW hw hs,jad,if_neg (by rw[h]; simp),if_pos (jxq hw.n),Int.toNat_natCast,jsr hw (jpB h),jad]
 cases jdp (jby g) g.length []<;>rfl
theorem jyJ {g:List (List NC)} (hw:Fw g) {nm:ByteArray} (hs:nm.size<1000) (h:(cg nm g).2=0) {l:List Int} (hl:jdp (jby g) g.length []=some l):jbD nm g=some (nm,l,0):=by
 unfold jbD
 rw[show je9=jbT from rfl]
 rw[jkW hw hs,jad,if_neg (by rw[h]; simp),if_pos (jxq hw.n),Int.toNat_natCast,jsr hw (jpB h),jad,hl]
 rfl
theorem jz8 {e:Int} (h:0<e):nzI e=e:=by
 unfold nzI
 show((e.toNat-1+1:Nat):Int)=e
 omega
theorem jt0 {g:List (List NC)} (hw:Fw g) {nm:ByteArray} (hs:nm.size<1000):y67 nm g=some (if(cg nm g).2≠0 then(cg nm g).2 else match jdp (jby g) g.length []with|some _=>0|none=>19):=by
 unfold y67
 rw[jxa hw hs,jad]
 by_cases h:(cg nm g).2=0
 ·rw[if_neg (by rw[h]; simp),if_neg (fun hn=>hn h),jha hw,jad]
  cases jdp (jby g) g.length []<;>rfl
 ·rw[if_pos (bne_iff_ne.2 h),if_pos h]
end Go.Sh
end

section
namespace Go.Sh
open Go Go.Proofs Go.RowKit Go.Sx
structure Rg (g:List (List NC)) (l:List Int):Prop where
 fw:Fw g
 ok:∀i,i<g.length→ja6 g i=0
 ord:jdp (jby g) g.length []=some l
variable {g:List (List NC)} {l:List Int}
theorem Rg.n (h:Rg g l):g.length<1000:=h.fw.n
theorem Rg.len (h:Rg g l):l.length=g.length:=by
 have:=(jk1 (jby g) g.length [] l h.ord).1
 simp at this
 omega
theorem Rg.at (h:Rg g l) {j:Nat} (hj:j<g.length):∃i:Nat,i<g.length∧l.getD j 0=(i:Int)∧jem (l.take j) i=false∧jdd g (l.take j) i=true:=by
 obtain⟨_,_,h3⟩:=jk1 (jby g) g.length [] l h.ord
 obtain⟨i,hx,hi⟩:=h3 j (Nat.zero_le _) (by rw[h.len]; exact hj)
 obtain⟨h1,h2⟩:=juF hx
 unfold jdP at h2
 rw[Bool.and_eq_true,Bool.not_eq_true']at h2
 exact⟨i,h1,hi,h2.1,h2.2⟩
theorem jst {out:List Int} {k:Nat}:jem out k=true↔∃j,j<out.length∧out.getD j 0=(k:Int):=by
 unfold jem
 rw[List.any_eq_true]
 constructor
 ·rintro ⟨x,hx,he⟩
  obtain⟨j,hj,e⟩:=List.mem_iff_getElem.1 hx
  exact⟨j,hj,by simp only[List.getD,List.getElem?_eq_getElem hj,Option.getD_some,e]; simpa using he⟩
 ·rintro ⟨j,hj,e⟩
  refine⟨out[j],List.getElem_mem hj,?_⟩
  simp only[List.getD,List.getElem?_eq_getElem hj,Option.getD_some]at e
  simpa using e
theorem jp9 {α:Type} (l:List α) (d:α) {j k:Nat} (h:j<k):(l.take k).getD j d=l.getD j d:=by
 simp only[List.getD,List.getElem?_take_of_lt h]
theorem Rg.before (h:Rg g l) {j i u:Nat} (hj:j<g.length) (hi:l.getD j 0=(i:Int)) (hu:u<g.length) (hn:jdB g i u=true):∃j',j'<j∧l.getD j' 0=(u:Int):=by
 obtain⟨i',_,h2,_,h4⟩:=h.at hj
 rw[hi]at h2
 obtain rfl:i=i':=by omega
 unfold jdd at h4
 rw[Bool.not_eq_true',List.any_eq_false]at h4
 have:=h4 u (List.mem_range.2 hu)
 rw[hn,Bool.true_and,Bool.not_eq_true,Bool.not_eq_false',jst]at this
 obtain⟨j',h5,h6⟩:=this
 have hlt:j'<j:=by simp at h5; omega
 exact⟨j',hlt,by rw[jp9 _ _ hlt]at h6; exact h6⟩
theorem Rg.lt_ne (h:Rg g l) {j j':Nat} (hj:j<g.length) (hl:j'<j):l.getD j' 0≠l.getD j 0:=fun e=>by
 obtain⟨i,_,h2,h3,_⟩:=h.at hj
 have:jem (l.take j) i=true:=jst.2 ⟨j',by have:=h.len; simp; omega,by rw[jp9 _ _ hl,e,h2]⟩
 rw[h3]at this
 cases this
theorem Rg.stand (h:Rg g l) {j i:Nat} (hj:j<g.length) (hi:l.getD j 0=(i:Int)) (hi2:i<g.length):nI g i 7=-1∨∃j' u:Nat,j'<j∧u<g.length∧nI g i 7=(u:Int)∧l.getD j' 0=(u:Int):=by
 rcases(jpA (h.ok i hi2)).2 with h1|⟨h1,h2⟩
 ·exact .inl h1
 ·refine .inr ?_
  obtain⟨u,hu⟩:∃u:Nat,nI g i 7=(u:Int):=⟨(nI g i 7).toNat,by omega⟩
  obtain⟨j',h3,h4⟩:=h.before (u:=u) hj hi (by omega) (by unfold jdB; simp[hu])
  exact⟨j',u,h3,by omega,hu,h4⟩
theorem Rg.from (h:Rg g l) {j i k:Nat} (hj:j<g.length) (hi:l.getD j 0=(i:Int)) (hi2:i<g.length) (hk:k<(nL g i 2).length):∃j' u:Nat,j'<j∧u<g.length∧(nL g i 2).getD k 0=(u:Int)∧l.getD j' 0=(u:Int):=by
 have hm:(nL g i 2).getD k 0∈nL g i 2:=by simp[List.getD,hk]
 obtain⟨h1,h2⟩:=(jpA (h.ok i hi2)).1 _ hm
 obtain⟨u,hu⟩:∃u:Nat,(nL g i 2).getD k 0=(u:Int):=⟨((nL g i 2).getD k 0).toNat,by omega⟩
 obtain⟨j',h3,h4⟩:=h.before (u:=u) hj hi (by omega) (by
  unfold jdB
  rw[Bool.or_eq_true]
  exact .inl (List.any_eq_true.2 ⟨_,hm,by rw[hu]; simp⟩))
 exact⟨j',u,h3,by omega,hu,h4⟩
def stF (st:Nat→Int) (fb:Nat→Bool):Nat→Int→Int
 |0,u=>u
 |k+1,u=>if 0≤u∧fb u.toNat=true then stF st fb k (st u.toNat)else u
theorem jaY {α:Type} (l:List α) (i j:Nat) (x d:α) (hi:i<l.length):(l.set i x).getD j d=if i=j then x else l.getD j d:=by
 simp only[List.getD,List.getElem?_set,hi,if_true]
 split<;>rfl
theorem jhb {α:Type} {l:List α} (d:α) {i:Nat} (h:i<l.length):l.getD i d=l[i]:=by simp[List.getD,h]
theorem jk2 (h:Rg g l) {j j' i i':Nat} (hj:j<g.length) (hl:j'<j) (e:l.getD j 0=(i:Int)) (e':l.getD j' 0=(i':Int)):i≠i':=fun hn=>h.lt_ne hj hl (by rw[e,e',hn])
end Go.Sh
end

section
namespace Go.Sh
open Go Go.Proofs Go.RowKit Go.Sx
open Go.IntKind (wrap)
def y137:List SV:=[.c (.d),.c (.p [.r (.ints .i64 [])]),.c (.p [.r (.bools [])])]
def y91 (n:Int) (v0_:List Int) (v1_:List Bool):Option Bool :=
 if 0≤n∧n<(↑v0_.length:Int)then
  if Int.toNat n<List.length v0_ then
  if(List.getD v0_ n.toNat (0:Int)!=(-1:Int))=true then
   if 0≤n∧n<(↑v0_.length:Int)then
   if Int.toNat n<List.length v0_ then
    if 0≤List.getD v0_ n.toNat (0:Int)∧List.getD v0_ n.toNat 0<(↑v1_.length:Int)then
    if Int.toNat (List.getD v0_ n.toNat (0:Int))<List.length v1_ then
     some (List.getD v1_ (Int.toNat (List.getD v0_ n.toNat (0:Int))) false)
    else none
    else none
   else none
   else none
  else
   some false
  else none
 else none
def y138:List Lf→Option GT
 |[.d (.i .i64 n),.r (.ints .i64 v0_),.r (.bools v1_)]=>some (.leaf (ok (y91 n v0_ v1_)) [.c (.d (.b ((val (y91 n v0_ v1_)))))])
 |_=>none
abbrev sp_140:jaa→jaa:=jaG 140 true (jai y137 y138)
def jot (n:Int) (v0_:List Int) (v1_:List Bool) (r:Bool):Sk (top r) (y91 n v0_ v1_) :=
 .obT (.ob (.ob (.brB
 (.obT (.obT (.ob (.ob (.ob (.ob (.obT (.rc))))))))
 (.obT (.rc)))))
theorem jm4 (n:Int) (v0_:List Int) (v1_:List Bool) (r:Bool) (h:Option.bind (y91 n v0_ v1_) some=some r):ja5 Tryz.f140 (sp0) (fun _ _ _=>none) (ja0 y137 [.d (.i .i64 n),.r (.ints .i64 v0_),.r (.bools v1_)]) [.c (.d (.b r))] :=
 Sk.vc (jot n v0_ v1_ r) (by kernel_rfl) h
theorem jm5:jaf Tryz.prog 140 true (jai y137 y138):=by
 refine jav (sp:=sp0) (fn:=Tryz.f140) (body:=bodyOf Tryz.f140) mixed jau Tryz.func140 (by kernel_rfl) (by kernel_rfl) fun ls t h ho b hb=>?_
 unfold y138 at h
 split at h
 ·rename_i n v0_ v1_
  cases h
  obtain rfl:=jaL hb
  exact⟨Nat.le_of_ble_eq_true (by kernel_rfl),_,_,jm4 n v0_ v1_ _ (jap ho)⟩
 ·cases h
theorem sp_140_ok {sp:jaa} (h:jac Tryz.prog sp):jac Tryz.prog (sp_140 sp):=jar jm5 h
def y57:List SV:=[.c (.r (.ints .i64 [])),.c (.f 140 [.p [.r (.ints .i64 [])],.p [.r (.bools [])]])]
def y85 (s f0_:List Int) (f1_:List Bool) (x0:Int):Option (Int ⊕ (Int ⊕ Unit)) :=
 if x0<(↑s.length:Int)then
  if 0≤x0∧x0<(↑s.length:Int)then
  if Int.toNat x0<List.length s then
   Option.bind (y91 (List.getD s x0.toNat (0:Int)) f0_ f1_) fun r0 =>
   if(r0)=true then
   some (.inr (.inl x0))
   else
   some (.inl (wrap .i64 (x0+1)))
  else none
  else none
 else
  some (.inr ((.inr ())))
def y149 (u5:Int):Option Int :=
 some u5
def y150 (u6:Unit):Option Int :=
 some (-1:Int)
def y86:(Int ⊕ Unit)→Option Int :=
 (Sum.elim (y149) (y150))
def y26 (s f0_:List Int) (f1_:List Bool):Option Int :=
 Option.bind (jag (y85 s f0_ f1_) big (0:Int)) (y86)
def y58:List Lf→Option GT
 |[.r (.ints .i64 s),.r (.ints .i64 f0_),.r (.bools f1_)]=>some (.leaf (ok (y26 s f0_ f1_)) [.c (.d (.i .i64 ((val (y26 s f0_ f1_)))))])
 |_=>none
abbrev sp_156_140:jaa→jaa:=jaG 156 true (jai y57 y58)
abbrev y87 (s f0_:List Int) (f1_:List Bool) (r:Int):Lp (Int × Nat) Int (Int ⊕ Unit) Int Int :=
 ⟨fun z=>z.1,fun z=>z.2,fun z x n=>(x,n),fun z=>y85 s f0_ f1_,fun z=>y86,fun z=>top r,fun z=>0,[.c fun _=>(↑s.length:Int),.c fun vv=>vv.1,.c fun _=>s,.c fun _=>f0_,.c fun _=>f1_]⟩
def y172 (s f0_:List Int) (f1_:List Bool) (r:Int):Sk (top r) (y26 s f0_ f1_) :=
 .loop (y87 s f0_ f1_ r) (fun kk=>((0:Int),big)) fun z0 =>
 .br
 (.ob (.ob (.call (.brB
 (.exit (.obT (.rc)))
 (.next)))))
 (.exit (.obT (.rc)))
theorem y169 (s f0_:List Int) (f1_:List Bool) (r:Int) (h:Option.bind (y26 s f0_ f1_) some=some r):ja5 Tryz.f156 ((sp_140 sp0)) (fun gs id _=>match id with
 |0=>some ⟨Int × Nat,fun z=>⟨[(0,.w (.c (.o 0))),(1,.w (.c (.fn 140 [2,4]))),(7,.w (.c (.d (.i .i64 ((↑s.length:Int)))))),(8,.w (.c (.d (.i .i64 z.1))))],[(0,.ext (.ints .i64 s)),(2,.ebox [.o 1]),(4,.ebox [.o 3]),(1,.ext (.ints .i64 f0_)),(3,.ext (.bools f1_))],5⟩,fun z=>(y87 s f0_ f1_ r).inv z,fun z=>z.2⟩
 |_=>none) (ja0 y57 [.r (.ints .i64 s),.r (.ints .i64 f0_),.r (.bools f1_)]) [.c (.d (.i .i64 r))] :=
 Sk.vc (y172 s f0_ f1_ r) (by kernel_rfl) h
theorem y170:jaf Tryz.prog 156 true (jai y57 y58):=by
 refine jav (sp:=(sp_140 sp0)) (fn:=Tryz.f156) (body:=bodyOf Tryz.f156) mixed (sp_140_ok jau) Tryz.func156 (by kernel_rfl) (by kernel_rfl) fun ls t h ho b hb=>?_
 unfold y58 at h
 split at h
 ·rename_i s f0_ f1_
  cases h
  obtain rfl:=jaL hb
  exact⟨Nat.le_of_ble_eq_true (by kernel_rfl),_,_,y169 s f0_ f1_ _ (jap ho)⟩
 ·cases h
theorem sp_156_140_ok {sp:jaa} (h:jac Tryz.prog sp):jac Tryz.prog (sp_156_140 sp):=jar y170 h
def y47:List SV:=[.c (.r (.ints .i64 [])),.c (.f 140 [.p [.r (.ints .i64 [])],.p [.r (.bools [])]])]
def y30 (s f0_:List Int) (f1_:List Bool):Option Bool :=
 Option.bind (y26 s f0_ f1_) fun r0 =>
 some (decide (r0≥0))
def y48:List Lf→Option GT
 |[.r (.ints .i64 s),.r (.ints .i64 f0_),.r (.bools f1_)]=>some (.leaf (ok (y30 s f0_ f1_)) [.c (.d (.b ((val (y30 s f0_ f1_)))))])
 |_=>none
abbrev sp_123_140:jaa→jaa:=jaG 123 true (jai y47 y48)
def y151 (s f0_:List Int) (f1_:List Bool) (r:Bool):Sk (top r) (y30 s f0_ f1_) :=
 .call (.obT (.rc))
theorem y139 (s f0_:List Int) (f1_:List Bool) (r:Bool) (h:Option.bind (y30 s f0_ f1_) some=some r):ja5 Tryz.f123 ((sp_156_140 (sp_140 sp0))) (fun _ _ _=>none) (ja0 y47 [.r (.ints .i64 s),.r (.ints .i64 f0_),.r (.bools f1_)]) [.c (.d (.b r))] :=
 Sk.vc (y151 s f0_ f1_ r) (by kernel_rfl) h
theorem y140:jaf Tryz.prog 123 true (jai y47 y48):=by
 refine jav (sp:=(sp_156_140 (sp_140 sp0))) (fn:=Tryz.f123) (body:=bodyOf Tryz.f123) mixed (sp_156_140_ok (sp_140_ok jau)) Tryz.func123 (by kernel_rfl) (by kernel_rfl) fun ls t h ho b hb=>?_
 unfold y48 at h
 split at h
 ·rename_i s f0_ f1_
  cases h
  obtain rfl:=jaL hb
  exact⟨Nat.le_of_ble_eq_true (by kernel_rfl),_,_,y139 s f0_ f1_ _ (jap ho)⟩
 ·cases h
theorem sp_123_140_ok {sp:jaa} (h:jac Tryz.prog sp):jac Tryz.prog (sp_123_140 sp):=jar y140 h
end Go.Sh
end

section
namespace Go.Sh
open Go Go.Proofs Go.RowKit Go.Sx
variable {g:List (List NC)} {l:List Int}
end Go.Sh
end

section
namespace Go.Sh
open Go Go.Proofs Go.RowKit Go.Sx
abbrev sp_123b:jaa→jaa:=sp_123_140
theorem sp_123b_ok {sp:jaa} (h:jac Tryz.prog sp):jac Tryz.prog (sp_123b sp):=sp_123_140_ok h
end Go.Sh
end

section
namespace Go.Sh
open Go Go.Proofs Go.RowKit Go.Sx
end Go.Sh
end

section
namespace Go.Sh
open Go Go.Proofs Go.RowKit Go.Sx
variable {g:List (List NC)} {l:List Int}
end Go.Sh
end

section
namespace Go.Sh
open Go Go.Proofs Go.RowKit Go.Sx
variable {g:List (List NC)} {l:List Int}
theorem juG {i:Nat} (hi:¬i<g.length):(cpU g).getD i []=g.getD i []:=by
 simp only[List.getD]
 rw[List.getElem?_eq_none (by rw[jbZ]; omega),List.getElem?_eq_none (by omega)]
theorem cpI (i:Nat):nI (cpU g) i 1=nI g i 1∧nI (cpU g) i 5=nI g i 5∧nI (cpU g) i 7=nI g i 7:=by
 by_cases hi:i<g.length
 ·exact cp_I hi
 ·unfold nI; rw[juG hi]; exact⟨rfl,rfl,rfl⟩
theorem cpL (i:Nat):nL (cpU g) i 2=nL g i 2∧nL (cpU g) i 3=nL g i 3∧nL (cpU g) i 4=nL g i 4:=by
 by_cases hi:i<g.length
 ·exact jm2 hi
 ·unfold nL; rw[juG hi]; exact⟨rfl,rfl,rfl⟩
theorem jk3 (g:List (List NC)):jby (cpU g)=jby g:=by
 funext out
 unfold jby
 have:jdP (cpU g) out=jdP g out:=by
  funext i
  unfold jdP jdd jdB
  rw[jbZ,(cpL i).1,(cpI i).2.2]
 rw[jbZ,this]
theorem Rg.cp (h:Rg g l):Rg (cpU g) l:=⟨jvP h.fw,fun i hi=>by rw[jbZ]at hi; rw[jxb hi]; exact h.ok i hi,by rw[jk3,jbZ]; exact h.ord⟩
theorem rg_of {nm:ByteArray} (hw:Fw g) (h:(cg nm g).2=0) (ho:jdp (jby g) g.length []=some l):Rg g l:=⟨hw,jpB h,ho⟩
end Go.Sh
end

section
open Go.RowKit
namespace Go.Sx
def jlH (z:C) (cs:List C) (j:Nat):Bool :=
 match z with
 | .d (.i k _)=>(iks k cs).getD j false
 | .d (.b _)=>(bks cs).getD j false
 | .d (.s _)=>(sks cs).getD j false
 |_=>false
def jk4 (cs:List C):List C→Nat→Bool
 |[],_=>true
 |z::r,j=>match jlH z cs j with
  |true=>jk4 cs r (j+1)
  |false=>false
def jq3 (P:Program) (t:TypeId) (cs:List C) (j:Nat):Bool :=
 match jaz P t with
 |some z=>jk4 cs z j
 |none=>false
def jou (cs:List C) (j:Nat):List C→Bool
 |[]=>true
 |c::r=>match jlH c cs j,jo0 cs j c with
  |true,some (_,cs')=>jou cs' (j+1) r
  |_,_=>false
theorem jxs {z c:C} {cs:List C} {j:Nat} {p:Prop} (h:joW z cs j=some (p,c)) (hb:jlH z cs j=true):p:=by
 unfold joW at h
 unfold jlH at hb
 split at h<;>cases h<;>exact hb
theorem juH {cs:List C}:∀{zs l:List C} {j:Nat} {p:Prop},jgW cs zs j=some (p,l)→jk4 cs zs j=true→p
 |[],l,j,p,h,_=>by
  simp only[jgW,Option.some.injEq,Prod.mk.injEq]at h
  exact h.1 ▸ trivial
 |z::r,l,j,p,h,hb=>by
  unfold jgW at h
  unfold jk4 at hb
  split at h
  ·rename_i q c hq
   split at hb
   ·rename_i hz
    have h1:=jxs hq hz
    split at h
    ·cases h
     exact h1
    ·split at h
     ·rename_i q2 l2 h2
      cases h
      exact⟨h1,juH h2 hb⟩
     ·cases h
   ·cases hb
  ·cases h
theorem jxt {P:Program} {t:TypeId} {cs:List C} {j:Nat} {p:Prop} {v:V} (h:jjW P t cs j=some (p,v)) (hb:jq3 P t cs j=true):p:=by
 unfold jjW at h
 unfold jq3 at hb
 split at h
 ·rename_i z _ _ hz
  rw[hz]at hb
  split at h
  ·rename_i q c hq
   cases h
   dsimp only[jk4]at hb
   split at hb
   ·rename_i h1
    exact jxs hq h1
   ·cases hb
  ·cases h
 ·rename_i sz z _ _ hz
  rw[hz]at hb
  split at h
  ·split at h
   ·rename_i q l hq
    cases h
    exact juH hq hb
   ·cases h
  ·cases h
 ·cases h
theorem jAL {c:C} {cs cs':List C} {j:Nat} {p:Prop} (h:jo0 cs j c=some (p,cs')) (hb:jlH c cs j=true):p:=by
 unfold jo0 at h
 unfold jlH at hb
 split at h<;>cases h<;>exact hb
theorem juI:∀{ds cs l:List C} {j:Nat} {p:Prop},jlu cs j ds=some (p,l)→jou cs j ds=true→p
 |[],_,_,_,_,h,_=>by cases h
 |c::r,cs,l,j,p,h,hb=>by
  unfold jlu at h
  unfold jou at hb
  split at h
  ·rename_i q cs' hq
   split at hb
   ·rename_i cs2 hz hq2
    rw[hq]at hq2
    cases hq2
    have h1:=jAL hq hz
    split at h
    ·cases h
     exact h1
    ·split at h
     ·rename_i q2 l2 h2
      cases h
      exact⟨h1,juI h2 hb⟩
     ·cases h
   ·cases hb
  ·cases h
def jsu (P:Program) (t:TypeId) (cs:List C) (e j:Nat):Bool :=
 match e with
 |0=>match jjW P t cs j with
  |none=>true
  |some _=>jq3 P t cs j
 |_+1=>true
def jv0 (P:Program) (t:TypeId) (c:Cont) (i j:Nat):Bool :=
 match c with
 | .frs _ E l=>Nat.blt i l.length&&Nat.blt j E
 | .floats _ l=>match jbj P t,szT P t with
  |some true,some sz=>Nat.ble (i+sz) l.length
  |_,_=>Nat.blt i l.length
 |c=>Nat.blt i c.n
def jv1 (P:Program) (t:TypeId) (o:O) (i e j:Nat):Bool :=
 match o with
 | .box _ cs=>jsu P t cs e j
 | .ebox cs=>jsu P t cs e j
 | .arr _ _ E _=>Nat.blt (i*e+j) E
 | .xext X=>Nat.blt i X.n
 | .xrow _ X=>Nat.blt i X.n
 | .mrow _ _ X _=>Nat.blt i X.n
 | .lbox _ _ _ _=>true
 | .lview _ _ _ _=>true
 | .elist _ _ _=>true
 |o=>match o.cont with
  |some c=>jv0 P t c i j
  |none=>false
theorem jz9 {P:Program} {t:TypeId} {cs:List C} {e j:Nat} {p:Prop} {v:V} (h:jd5 P t cs e j=some (p,v)) (hb:jsu P t cs e j=true):p:=by
 unfold jd5 at h
 split at h
 ·split at h
  ·rename_i x hx
   cases h
   unfold jsu at hb
   dsimp only at hb
   rw[hx]at hb
   exact jxt hx hb
  ·cases h
 ·cases h
theorem jba {a b:Nat} (h:Nat.blt a b=true):a<b:=by simpa using h
theorem juJ {P:Program} {t:TypeId} {o:O} {i e j:Nat} {p:Prop} {v:V} (h:jcP P t o i e j=some (p,v)) (hb:jv1 P t o i e j=true):p:=by
 unfold jcP at h
 split at h
 ·rename_i ag sz hag hsz
  have xs:∀(sh:List NK) (l:List (List NC)),Nat.blt i l.length=true→((match(generalizing:=false) ag with
   |true=>none
   |false=>match Nat.beq e sh.length,sh[j]? with
    |true,some (.i k)=>some (i<l.length,vi k (((l.getD i []).getD j (.d (.v undef))).toI))
    |true,some .b=>some (i<l.length,vb (((l.getD i []).getD j (.d (.v undef))).toB))
    |true,some (.f k)=>some (i<l.length,vf k (((l.getD i []).getD j (.d (.v undef))).toF))
    |true,some .s=>some (i<l.length,vs (((l.getD i []).getD j (.d (.v undef))).toS))
    |_,_=>none):Option (Prop × V))=some (p,v)→p:=by
   intro sh l hl h
   split at h
   ·cases h
   ·split at h<;>cases h<;>exact jba hl
  have bx:∀cs:List C,jsu P t cs e j=true→((match jd5 P t cs e j with
   |some x=>some x
   |none=>match(generalizing:=false) ag with
    |true=>if i*e+j+sz≤cs.length then some (True,V.w (.a ((cs.drop (i*e+j)).take sz)))else none
    |false=>(cs[i*e+j]?).map fun c=>(True,V.w (.c c))):Option (Prop × V))=some (p,v)→p:=by
   intro cs hb h
   split at h
   ·rename_i x hx
    cases h
    exact jz9 hx hb
   ·split at h
    ·split at h
     ·cases h; trivial
     ·cases h
    ·cases hc:cs[i*e+j]? with
     |none=>simp[hc]at h
     |some c=>simp[hc]at h; exact h.1
  have ct:∀c:Cont,jv0 P t c i j=true→((match some c with
   |some (.frs k E l) =>
    match(generalizing:=false) ag with
    |true=>match Nat.beq e E,Nat.beq j 0,Nat.beq sz E with
     |true,true,true=>some (i<l.length,joU k E (l.getD i []))
     |_,_,_=>none
    |false=>match Nat.beq e E with
     |true=>some (i<l.length∧j<E,vf k ((l.getD i []).getD j 0))
     |false=>none
   |some (.floats k l) =>
    match Nat.beq e 1,Nat.beq j 0 with
    |true,true=>match(generalizing:=false) ag with
     |true=>some (i+sz≤l.length,joU k sz ((l.drop i).take sz))
     |false=>some (i<l.length,vf k (l.getD i 0))
    |_,_=>none
   |some c =>
    match(generalizing:=false) ag with
    |true=>if e=c.e∧j+sz≤e then some (i<c.n,V.w (.a ((List.range sz).map fun m=>C.d (c.cell i (j+m)))))else none
    |false=>if e=c.e∧j<e then some (i<c.n,V.w (.c (.d (c.cell i j))))else none
   |none=>none):Option (Prop × V))=some (p,v)→p:=by
   intro c hb h
   unfold jv0 at hb
   cases c with
   |frs k E l =>
    simp only[Bool.and_eq_true]at hb
    dsimp only at h
    split at h
    ·split at h
     ·cases h; exact jba hb.1
     ·cases h
    ·split at h
     ·cases h; exact⟨jba hb.1,jba hb.2⟩
     ·cases h
   |floats k l =>
    dsimp only at h hb
    rw[hag,hsz]at hb
    split at h
    ·cases ag with
     |true=>cases h; exact Nat.le_of_ble_eq_true hb
     |false=>cases h; exact jba hb
    ·cases h
   |_ =>
    dsimp only at h hb
    split at h
    ·split at h
     ·cases h; exact jba hb
     ·cases h
    ·split at h
     ·cases h; exact jba hb
     ·cases h
  cases o with
  |box ty cs=>exact bx cs hb h
  |ebox cs=>exact bx cs hb h
  |arr ty k E r =>
   dsimp only at h
   split at h
   ·split at h
    ·cases h; trivial
    ·cases h
   ·cases h; exact jba hb
  |xext X =>
   cases X with
   |st sh l=>exact xs sh l hb h
   |_=>cases h
  |xrow ty X =>
   cases X with
   |st sh l=>exact xs sh l hb h
   |_=>cases h
  |mrow ty ts X ho =>
   cases ho with
   |none =>
    cases X with
    |st sh l=>exact xs sh l hb h
    |_=>cases h
   |some x=>cases X<;>cases h
  |lbox ty E n cs =>
   dsimp only at h
   split at h
   ·split at h
    ·split at h
     ·cases h; trivial
     ·cases h
    ·cases hc:cs[i*e+j]? with
     |none=>simp[hc]at h
     |some c=>simp[hc]at h; exact h.1
   ·cases h
  |lview r E n cs =>
   dsimp only at h
   split at h
   ·split at h
    ·split at h
     ·cases h; trivial
     ·cases h
    ·cases hc:cs[i*e+j]? with
     |none=>simp[hc]at h
     |some c=>simp[hc]at h; exact h.1
   ·cases h
  |elist E n cs =>
   dsimp only at h
   split at h
   ·split at h
    ·split at h
     ·cases h; trivial
     ·cases h
    ·cases hc:cs[i*e+j]? with
     |none=>simp[hc]at h
     |some c=>simp[hc]at h; exact h.1
   ·cases h
  |row ty c=>exact ct c hb h
  |ext c=>exact ct c hb h
  |view r c fl=>exact ct c hb h
  |rrow c=>exact ct c hb h
  |fext c=>exact ct c hb h
  |sub r i0 e0 j0 t0 c=>exact ct c hb h
  |_=>cases h
 ·cases h
end Go.Sx
end

section
open Go.RowKit
namespace Go.Sx
def jjj (l m:Option Int) (n:Int):Bool:=decide (0≤l.getD 0∧l.getD 0≤m.getD n∧m.getD n≤n)
def jih (o:O) (y:Option V) (i e j:Nat):Bool :=
 match o with
 | .box _ cs=>match e with
  |0=>match y with
   |some (.w u)=>jou cs j u.cells
   |_=>false
  |_+1=>true
 | .arr _ _ E _=>Nat.blt (i*e+j) E
 | .row _ (.frs _ E l)=>Nat.blt i l.length&&Nat.blt j E
 | .row _ c=>Nat.blt i c.n
 | .xrow _ X=>Nat.blt i X.n
 | .mrow _ _ X ho=>match ho with
  |none=>Nat.blt i X.n
  |some (i0,_)=>Nat.beq i i0&&Nat.blt i X.n
 | .sub _ _ _ _ _ c=>Nat.blt i c.n
 | .lbox _ _ _ _=>true
 |_=>false
def jcO (hp:Hp) (v:Option V):Option Nat :=
 match v with
 |some (.w (.c (.o h)))=>match find hp h with
  |some o=>match o.cont with
   |some c=>some c.n
   |none=>match o.xc with
    |some X=>some X.n
    |none=>match o.lst with
     |some (_,n,_)=>some n
     |none=>none
  |none=>none
 |some (.w (.c (.d (.v (.slice none 0 0)))))=>some 0
 |_=>none
def obB (P:Program) (op:Op) (rd:Operand→Option V) (hp:Hp):Bool :=
 match op with
 | .binOp op _ x y _=>match(rd x).bind V.int?,(rd y).bind V.int? with
  |some _,some (_,b)=>(match op with
   | .quo=>!(decide (b=0))
   | .rem=>!(decide (b=0))
   | .shl=>decide (0≤b)
   | .shr=>decide (0≤b)
   |_=>true)
  |_,_=>false
 | .convert _ dst x=>match(rd x).bind V.flt? with
  |some (s,b)=>match P.underlying dst with
   |some (.int k)=>jnC s k b
   |_=>false
  |none=>match(rd x).bind V.int? with
   |some _=>true
   |none=>false
 | .index t x i=>match rd x,(rd i).bind V.int? with
  |some v,some (_,n)=>match v.str?,P.underlying t with
   |some s,_=>decide (0≤n∧n<(s.size:Int))
   |none,some (.array len elem)=>decide (0≤n∧n<(len:Int))&&(match v.agg?,szT P elem with
    |some cs,some size=>isK i||(match jjW P elem cs (n.toNat*size)with
     |none=>true
     |some _=>jq3 P elem cs (n.toNat*size))
    |_,_=>true)
   |none,_=>false
  |_,_=>false
 | .indexAddr t x ix=>match(rd ix).bind V.int? with
  |some (_,n)=>match P.underlying t with
   |some (.array len _)=>decide (0≤n∧n<(len:Int))
   |some (.slice _)=>match jcO hp (rd x)with
    |some m=>decide (0≤n∧n<(m:Int))
    |none=>false
   |_=>false
  |none=>false
 | .load t x=>match rd x with
  |some (.w (.c (.p h i e j)))=>match find hp h with
   |some o=>jv1 P t o i e j
   |none=>false
  |_=>false
 | .store _ x y=>match rd x with
  |some (.w (.c (.p h i e j)))=>match find hp h with
   |some o=>jih o (rd y) i e j
   |none=>false
  |_=>false
 | .slice t x lo hi none=>match jaI rd lo,jaI rd hi with
  |some l,some m=>match P.underlying t with
   |some .string=>match(rd x).bind V.str? with
    |some s=>jjj l m (s.size:Int)
    |none=>false
   |some (.array n _)=>match rd x with
    |some (.w (.c (.p h _ _ _)))=>match find hp h with
     |some (.arr _ _ _ r)=>Nat.beq r.length n&&jjj l m (n:Int)
     |some (.box _ _)=>true
     |_=>false
    |_=>false
   |some (.slice _)=>match jcO hp (rd x)with
    |some n=>jjj l m (n:Int)
    |none=>false
   |_=>false
  |_,_=>false
 | .slice _ x lo (some hi) (some mx)=>match jaI rd lo,(rd hi).bind V.int?,(rd mx).bind V.int?,jcO hp (rd x)with
  |some l,some (_,m),some (_,q),some n=>decide (0≤l.getD 0∧l.getD 0≤m∧m≤q∧q≤(n:Int))
  |_,_,_,_=>false
 | .makeSlice t l c=>match P.underlying t,(rd l).bind V.int?,(rd c).bind V.int? with
  |some (.slice elem),some (_,n),some (_,m)=>match jaP P elem with
   |some b=>decide (0≤n∧n=m∧(b:Int)*n≤281474976710656∧n≤9223372036854775807)
   |none=>false
  |_,_,_=>false
 | .call c=>match c.callee,c.args.toList,c.argTypes.toList with
  | .builtin .append,[s,x],[t,_]=>match P.underlying t,jcO hp (rd s),jcO hp (rd x)with
   |some (.slice elem),some n,some m=>match jaP P elem with
    |some b=>Nat.ble ((n+m)*b) 140737488355328&&Nat.ble (n+m) 9223372036854775807&&(match jiB hp (rd s)with
     |some c1=>Nat.blt 0 c1.n&&Nat.blt 0 m
     |none=>true)
    |none=>false
   |_,_,_=>false
  |_,_,_=>false
 |_=>false
section
variable [Globs] {P:Program} {rd:Operand→Option V} {hp:Hp} {nx:Nat}
theorem jAa {v:V} {x y} (h:v.int?=some x) (k:v.str?=some y):False:=by
 unfold V.int? at h
 split at h
 ·cases k
 ·cases h
theorem jfv {h:Nat} {c:Cont} {n:Nat} {v:Option V} (hv:v=some (.w (.c (.o h)))) (hc:(find hp h).bind O.cont=some c) (hn:jcO hp v=some n):n=c.n:=by
 subst hv
 unfold jcO at hn
 cases ho:find hp h with
 |none=>simp[ho]at hc
 |some o =>
  simp only[ho,Option.bind_some]at hc
  simp only[ho,hc,Option.some.injEq]at hn
  exact hn.symm
theorem jlI {h:Nat} {X:XC} {n:Nat} {v:Option V} (hv:v=some (.w (.c (.o h)))) (hc:(find hp h).bind O.xc=some X) (hn:jcO hp v=some n):n=X.n:=by
 subst hv
 unfold jcO at hn
 cases ho:find hp h with
 |none=>simp[ho]at hc
 |some o =>
  simp only[ho,Option.bind_some]at hc
  have hcn:o.cont=none:=by cases o<;>simp[O.xc]at hc<;>rfl
  simp only[ho,hcn,hc,Option.some.injEq]at hn
  exact hn.symm
theorem jjk {h:Nat} {e m:Nat} {cs:List C} {n:Nat} {v:Option V} (hv:v=some (.w (.c (.o h)))) (hc:(find hp h).bind O.lst=some (e,m,cs)) (hn:jcO hp v=some n):n=m:=by
 subst hv
 unfold jcO at hn
 cases ho:find hp h with
 |none=>simp[ho]at hc
 |some o =>
  simp only[ho,Option.bind_some]at hc
  have hcn:o.cont=none∧o.xc=none:=by cases o<;>simp[O.lst]at hc<;>exact⟨rfl,rfl⟩
  simp only[ho,hcn,hc,Option.some.injEq]at hn
  exact hn.symm
theorem jyM {op:BinOp} {k k':IntKind} {m n:Int} {ob:Prop} {v:V} (ht:(match op with
   | .quo=>!(decide (n=0))
   | .rem=>!(decide (n=0))
   | .shl=>decide (0≤n)
   | .shr=>decide (0≤n)
   |_=>true)=true) (h:jff op k m k' n=some (ob,v)):ob:=by
 unfold jff at h
 split at h
 ·cases h; simpa using ht
 ·cases h; simpa using ht
 ·split at h
  ·split at h<;>first|(cases h; trivial)|(cases h; simpa using ht)|cases h
  ·cases h
theorem jxu {op:Op} {ob:Prop} {v:V} (ht:obB P op rd hp=true) (h:jaX P op rd hp=some (ob,v)):ob:=by
 unfold obB at ht
 unfold jaX at h
 cases op with
 |binOp op t x y yt =>
  dsimp only at h ht
  split at ht
  ·rename_i ka k' b hx hy
   split at h
   ·rename_i u v' hu hv
    simp only[hu,hv,Option.bind_some]at hx hy
    rw[hx,hy]at h
    obtain⟨k,a⟩:=ka
    exact jyM ht h
   ·cases h
  ·cases ht
 |convert s d x =>
  dsimp only at h ht
  cases hx:rd x with
  |none=>simp[hx]at h
  |some u =>
   simp only[hx,Option.bind_some]at h ht
   unfold jqX at h
   split at h
   ·cases h; trivial
   ·cases h; trivial
   ·rename_i s' b hu hd hf
    cases h
    rw[hf]at ht
    dsimp only at ht
    rw[hd]at ht
    exact ht
   ·cases h
 |index t x i =>
  dsimp only at h ht
  split at ht
  ·rename_i u k n hx hi
   simp only[hx,Option.bind_some]at h
   split at ht
   ·rename_i s hs
    rw[hs,hi]at h
    split at h
    ·rename_i s2 k2 n2 h1 h2 h3
     cases h1; cases h3
     cases h
     simpa using ht
    ·cases h
    ·rename_i h0; cases h0
   ·rename_i len elem hs hut
    rw[hs,hut,hi]at h
    simp only[Bool.and_eq_true,decide_eq_true_eq]at ht
    split at h
    ·rename_i h0 _ _; cases h0
    ·cases h
    ·split at h
     ·rename_i len' elem' cs k' n' h1 h2 h3
      cases h1; cases h3
      rw[h2]at ht
      split at h
      ·rename_i size hsz
       rw[hsz]at ht
       simp only[Bool.or_eq_true]at ht
       split at h
       ·rename_i p v' hk hsel
        cases h
        rw[hk,hsel]at ht
        exact⟨ht.1,jxt hsel (by simpa using ht.2)⟩
       ·generalize jbK P elem cs _=q at h
        cases q with
        |none=>simp at h
        |some v'=>simp at h; rw[←h.1]; exact ht.1
      ·cases h
     ·cases h
   ·cases ht
  ·cases ht
 |indexAddr t x ix =>
  dsimp only at h ht
  split at ht
  ·rename_i k n hi
   rw[hi]at h
   split at h
   ·rename_i len elem h' i e j k2 n2 hut hx hn
    cases hn
    rw[hut]at ht
    simp only[decide_eq_true_eq]at ht
    split at h
    ·split at h<;>(cases h; exact ht)
    ·cases h
   ·rename_i elem h' k2 n2 hut hx hn
    cases hn
    rw[hut]at ht
    dsimp only at ht
    split at h
    ·rename_i c size hc hsz
     split at h
     ·cases h
      split at ht
      ·rename_i m hm
       rw[jfv hx hc hm]at ht
       simpa using ht
      ·cases ht
     ·cases h
    ·cases h
   ·cases h
  ·cases ht
 |load t x =>
  dsimp only at h ht
  split at h
  ·rename_i h' i e j hx
   rw[hx]at ht
   dsimp only at ht
   split at h
   ·rename_i o ho
    rw[ho]at ht
    exact juJ h ht
   ·cases h
  ·cases h
 |call c =>
  dsimp only at h ht
  split at ht
  ·rename_i hc ha hat
   rw[hc]at h
   simp at h
  ·cases ht
 |slice t x lo hi mx=>cases h
 |store t x y=>cases h
 |makeSlice t l c=>cases h
 |_=>cases ht
end
end Go.Sx
end

section
open Go.RowKit
namespace Go.Sx
section
variable [Globs] {P:Program} {rd:Operand→Option V} {hp:Hp} {nx:Nat} {sp:jaa}
theorem jzF {op:Op} {ob:Prop} {v:V} (ht:obB P op rd hp=true) (h:je1 P op rd hp=some (ob,v)):ob:=by
 unfold obB at ht
 unfold je1 at h
 cases op with
 |binOp op t x y yt =>
  dsimp only at h ht
  split at ht
  ·rename_i ka k' b hx hy
   split at h
   ·rename_i u u' hu hu'
    simp only[hu,hu',Option.bind_some]at hx hy
    split at h
    ·rename_i a b hs hs'
     exact(jAa hx hs).elim
    ·split at h
     ·unfold jnD at h
      cases op<;>simp at h<;>exact h.1
     ·split at h
      ·unfold jfg at h
       cases op<;>simp at h<;>exact h.1
      ·cases h
   ·cases h
  ·cases ht
 |slice t x lo hi mx =>
  cases mx with
  |some mx=>simp at h
  |none =>
   dsimp only at h ht
   split at h
   ·rename_i s l m hut hx hl hm
    cases h
    rw[hl,hm,hut,hx]at ht
    simpa [jjj]using ht
   ·cases h
 |convert s d x =>
  dsimp only at h
  split at h
  ·split at h
   ·cases h; trivial
   ·cases h
  ·cases h
 |index t x i =>
  dsimp only at h ht
  split at h
  ·rename_i k E r hx
   split at h
   ·rename_i len elem k2 n hut hi
    rw[hx,hi,hut]at ht
    simp only[V.str?,Bool.and_eq_true,decide_eq_true_eq]at ht
    split at h
    ·cases h; exact ht.1
    ·cases h
   ·cases h
  ·cases h
 |sliceToArrayPointer t x=>cases ht
 |nilCheck x=>cases ht
 |fieldAddr s x f=>cases ht
 |indexAddr t x ix =>
  dsimp only at h ht
  split at ht
  ·rename_i k n hi
   rw[hi]at h
   split at h
   ·rename_i len elem h' e k2 n2 hut hx hn
    cases hn
    rw[hut]at ht
    simp only[decide_eq_true_eq]at ht
    split at h
    ·split at h
     ·cases h; exact ht
     ·cases h
    ·cases h
   ·rename_i elem h' k2 n2 hut hx hn
    cases hn
    rw[hut]at ht
    dsimp only at ht
    split at h
    ·rename_i X size hc hsz
     split at h
     ·cases h
      split at ht
      ·rename_i m hm
       rw[jlI hx hc hm]at ht
       simpa using ht
      ·cases ht
     ·cases h
    ·rename_i size hc hsz
     split at h
     ·rename_i e m cs hl
      split at h
      ·cases h
       split at ht
       ·rename_i m' hm
        rw[jjk hx hl hm]at ht
        simpa using ht
       ·cases ht
      ·cases h
     ·cases h
    ·cases h
   ·cases h
  ·cases ht
 |load t x =>
  dsimp only at h ht
  split at h
  ·rename_i hx
   rw[hx]at ht
   cases ht
  ·cases h
 |call c =>
  dsimp only at h ht
  split at ht
  ·rename_i hc ha hat
   rw[hc]at h
   simp at h
  ·cases ht
 |_=>simp at h
theorem bR_ob {op:Op} {r:Res} (ht:obB P op rd hp=true) (h:jcR P op rd hp nx=some r):r.ob:=by
 unfold obB at ht
 unfold jcR at h
 cases op with
 |slice t x lo hi mx =>
  split at h
  ·rename_i t2 x2 hi2 mx2 he
   cases he
   dsimp only at ht
   split at h
   ·split at h
    ·rename_i elem h' k m k' q hut hx hm hq
     split at h
     ·rename_i c e hf hs
      split at h
      ·cases h
       split at ht
       ·rename_i l m' k1 q' k2 n hl hm' hq' hn
        rw[hm]at hm'; rw[hq]at hq'
        cases hm'; cases hq'
        simp only[jaI,Option.some.injEq]at hl
        subst hl
        rw[jfv (c:=c) hx (by rw[hf]; rfl) hn]at ht
        simp only[Option.getD_none,decide_eq_true_eq]at ht
        exact⟨ht.2.1,ht.2.2⟩
       ·cases ht
      ·cases h
     ·cases h
    ·cases h
   ·cases h
  ·rename_i t2 x2 lo2 he
   cases he
   dsimp only at ht
   split at h
   ·split at h
    ·rename_i elem h' k l hut hx hl
     split at h
     ·rename_i c e hf hs
      split at h
      ·cases h
       split at ht
       ·rename_i l' m hl' hm
        rw[hut]at ht
        dsimp only at ht
        split at ht
        ·rename_i n hn
         have hcn:(find hp h').bind O.cont=some c:=by
          cases ho:find hp h' with
          |none=>simp[ho]at hf
          |some o =>
           simp only[ho,Option.bind_some]at hf ⊢
           cases o<;>simp[jeB]at hf<;>simpa [O.cont]using hf
         rw[jfv hx hcn hn]at ht
         simp only[jaI]at hl' hm
         rw[hl]at hl'
         cases hl'; cases hm
         simp only[jjj,Option.getD_some,Option.getD_none,decide_eq_true_eq]at ht
         exact⟨ht.1,ht.2.1⟩
        ·cases ht
       ·cases ht
      ·cases h
     ·cases h
    ·cases h
   ·cases h
  ·cases h
 |_=>simp at h
theorem bN_ob {op:Op} {r:Res} (ht:obB P op rd hp=true) (h:jdu P op rd hp nx=some r):r.ob:=by
 unfold obB at ht
 unfold jdu at h
 cases op with
 |makeSlice t l c =>
  dsimp only at h ht
  split at h
  ·rename_i elem k n k' m hut hn hm
   rw[hut,hn,hm]at ht
   dsimp only at ht
   split at h
   ·rename_i X0 z b e h1 h2 h3 h4
    rw[h3]at ht
    split at h
    ·cases h; simpa using ht
    ·cases h
   ·cases h
  ·cases h
 |buildSlice t n ps=>cases ht
 |store t x y =>
  dsimp only at h ht
  split at h
  ·rename_i k i e j u hx hy
   rw[hx]at ht
   dsimp only at ht
   split at h
   ·rename_i ty X sz hf hs
    rw[hf]at ht
    have ht:=jba (show Nat.blt i X.n=true from ht)
    split at h
    ·split at h
     ·split at h
      ·cases h; exact ht
      ·cases h
     ·split at h
      ·split at h
       ·cases h; exact ht
       ·cases h
      ·cases h
    ·cases h
   ·cases h
  ·cases h
 |call c =>
  dsimp only at h ht
  split at h
  ·rename_i s x t t' hc ha hat
   rw[hc,ha,hat]at ht
   dsimp only at ht
   split at h
   ·rename_i elem hb hut
    rw[hut]at ht
    split at h
    ·rename_i X0 z e b h1 h2 h3 h4
     split at h
     ·rename_i hs ty X1 hx ty' X2 g1 g2
      split at ht
      ·rename_i elem' n m he hn hm
       cases he
       rw[h4]at ht
       simp only[Bool.and_eq_true]at ht
       have len:∀{v:Option V} {hs:Option Nat} {ty n:Nat} {X:XC},v.bind (xOf hp X0)=some (hs,ty,X)→jcO hp v=some n→n=X.n∨X=X0:=by
        intro v hs ty n X hv hn
        cases v with
        |none=>cases hv
        |some v =>
         simp only[Option.bind_some]at hv
         unfold xOf at hv
         split at hv
         ·split at hv
          ·rename_i ty2 X2 hf
           cases hv
           exact .inl (jlI (X:=X) rfl (by rw[hf]; rfl) hn)
          ·cases hv
         ·cases hv; exact .inr rfl
         ·cases hv
       have h0:X0.n=0:=by
        unfold xcT at h1
        split at h1
        ·split at h1
         ·split at h1<;>cases h1; rfl
         ·split at h1<;>cases h1<;>rfl
         ·cases h1
        ·cases h1
       have l1:X1.n≤n:=(len g1 hn).elim (fun e=>Nat.le_of_eq e.symm) fun e=>by rw[e,h0]; exact Nat.zero_le _
       have l2:X2.n≤m:=(len g2 hm).elim (fun e=>Nat.le_of_eq e.symm) fun e=>by rw[e,h0]; exact Nat.zero_le _
       split at h
       ·cases h
        have a1:=Nat.le_of_ble_eq_true ht.1.1
        have a2:=Nat.le_of_ble_eq_true ht.1.2
        exact⟨Nat.le_trans (Nat.mul_le_mul_right b (Nat.add_le_add l1 l2)) a1,Nat.le_trans (Nat.add_le_add l1 l2) a2⟩
       ·cases h
      ·cases ht
     ·cases h
    ·cases h
   ·cases h
  ·cases h
 |_=>simp at h
end
end Go.Sx
end

section
open Go.RowKit
namespace Go.Sx
section
variable [Globs] {P:Program} {rd:Operand→Option V} {hp:Hp} {nx:Nat} {sp:jaa}
theorem jii {h:Nat} {o:O} {n:Nat} {v:Option V} (hv:v=some (.w (.c (.o h)))) (hf:find hp h=some o) (hn:jcO hp v=some n):(∀c,o.cont=some c→n=c.n)∧(∀X,o.xc=some X→n=X.n) :=
 ⟨fun c hc=>jfv hv (by rw[hf]; exact hc) hn,fun X hX=>jlI hv (by rw[hf]; exact hX) hn⟩
theorem jjl {z:List D} {v:Option V} {hx:Option Nat} {cx:Option Cont} {c2:Cont} {m:Nat} (g:v.bind (jbV hp)=some (hx,cx)) (hc:jb7 z cx=some c2) (hm:jcO hp v=some m):c2.n=m:=by
 cases v with
 |none=>cases g
 |some v =>
  simp only[Option.bind_some]at g
  unfold jbV at g
  split at g
  ·rename_i h2
   cases hc':(find hp h2).bind O.cont with
   |none=>simp[hc']at g
   |some c' =>
    simp[hc']at g
    obtain⟨_,rfl⟩:=g
    simp only[jb7,Option.some.injEq]at hc
    subst hc
    exact(jfv rfl hc' hm).symm
  ·cases g
   simp only[jcO,Option.some.injEq]at hm
   rw[(jcI (show jdr z []=some c2 from hc)).2.1,←hm]
   rfl
  ·cases g
theorem bX_ob {op:Op} {r:Res} (ht:obB P op rd hp=true) (h:jdt P op rd hp nx=some r):r.ob:=by
 unfold obB at ht
 unfold jdt at h
 cases op with
 |box elem x=>cases ht
 |alloc elem=>cases ht
 |buildSlice t n ps=>cases ht
 |slice t x lo hi mx =>
  cases mx with
  |none =>
   dsimp only at h ht
   split at h
   ·rename_i n elem h' l m hut hx hl hm
    rw[hl,hm,hut]at ht
    dsimp only at ht
    rw[hx]at ht
    dsimp only at ht
    split at h
    ·rename_i ty k E r' hf hs
     rw[hf]at ht
     split at h
     ·cases h
      simp only[Bool.and_eq_true,jjj,decide_eq_true_eq]at ht
      exact⟨Nat.eq_of_beq_eq_true ht.1,ht.2⟩
     ·cases h
    ·cases h
   ·rename_i elem h' l m hut hx hl hm
    rw[hl,hm,hut]at ht
    dsimp only at ht
    split at h
    ·rename_i X sz hf hs
     split at ht
     ·rename_i n hn
      rw[(jii hx hf hn).2 X rfl]at ht
      split at h
      ·cases h
       simpa [jjj]using ht
      ·cases h
     ·cases ht
    ·cases h
   ·cases h
  |some mx =>
   cases hi with
   |none=>cases h
   |some hi =>
    dsimp only at h ht
    split at h
    ·rename_i elem h' l k m k' q hut hx hl hm hq
     split at h
     ·rename_i o e hf hs
      split at h
      ·rename_i c hc
       split at h
       ·cases h
        split at ht
        ·rename_i l' k1 m' k2 q' n hl' hm' hq' hn
         rw[hl]at hl'; rw[hm]at hm'; rw[hq]at hq'
         cases hl'; cases hm'; cases hq'
         rw[(jii hx hf hn).1 c hc]at ht
         simpa using ht
        ·cases ht
       ·cases h
      ·cases h
     ·cases h
    ·cases h
 |load t x =>
  dsimp only at h ht
  split at h
  ·rename_i h' i e j hx
   rw[hx]at ht
   dsimp only at ht
   split at h
   ·rename_i b X hb
    cases hf:find hp h' with
    |none=>simp[hf]at hb
    |some o =>
     rw[hf]at ht
     simp only[hf,Option.bind_some]at hb
     have ht:i<X.n:=by
      cases o<;>simp[O.xk]at hb<;>(obtain⟨_,rfl⟩:=hb; exact jba ht)
     split at h
     ·split at h
      ·cases h; exact ht
      ·cases h
     ·split at h
      ·split at h
       ·cases h; exact ht
       ·cases h
      ·cases h
     ·cases h
   ·cases h
  ·cases h
 |store t x y =>
  dsimp only at h ht
  split at h
  ·rename_i h' i e j k v hx hy
   rw[hx]at ht
   dsimp only at ht
   split at h
   ·rename_i ty k' E r' _ _ hf
    rw[hf]at ht
    split at h
    ·cases h; exact jba ht
    ·cases h
   ·rename_i ty k' E l _ _ hf
    rw[hf]at ht
    simp only[jih,Bool.and_eq_true]at ht
    split at h
    ·cases h; exact⟨jba ht.1,jba ht.2⟩
    ·cases h
   ·cases h
  ·rename_i h' i e k E' v hx hy
   rw[hx]at ht
   dsimp only at ht
   split at h
   ·split at h
    ·cases h; trivial
    ·cases h
   ·rename_i ty k' E l _ _ hf
    rw[hf]at ht
    simp only[jih,Bool.and_eq_true]at ht
    split at h
    ·cases h; exact jba ht.1
    ·cases h
   ·cases h
  ·split at h
   ·split at h
    ·split at h
     ·cases h; trivial
     ·cases h
    ·cases h
   ·cases h
  ·cases h
 |makeMap t r=>cases r<;>cases ht
 |lookup t x i ok=>cases ht
 |mapUpdate t m i y=>cases ht
 |_=>simp at h
theorem bM_ob {op:Op} {r:Res} (ht:obB P op rd hp=true) (h:jdv P op rd hp nx=some r):r.ob:=by
 unfold obB at ht
 unfold jdv at h
 cases op with
 |makeSlice t l c =>
  dsimp only at h ht
  split at h
  ·rename_i elem k n k' m _ hut hn hm
   rw[hut,hn,hm]at ht
   dsimp only at ht
   split at h
   ·rename_i X0 z b e ts h1 h2 h3 h4 h5
    rw[h3]at ht
    split at h
    ·cases h; simpa using ht
    ·cases h
   ·cases h
  ·cases h
 |buildSlice t n ps=>cases ht
 |load t x =>
  dsimp only at h ht
  split at h
  ·rename_i h' i e j hx
   rw[hx]at ht
   dsimp only at ht
   split at h
   ·rename_i ty ts X hf
    rw[hf]at ht
    have ht:i<X.n:=jba ht
    split at h
    ·split at h
     ·cases h; exact ht
     ·cases h
    ·split at h
     ·split at h
      ·cases h; exact ht
      ·cases h
     ·cases h
    ·cases h
   ·cases h
  ·cases h
 |store t x y =>
  dsimp only at h ht
  split at h
  ·rename_i h' i e j u hx hy
   rw[hx]at ht
   dsimp only at ht
   split at h
   ·rename_i ty ts X ho sz hf hs
    rw[hf]at ht
    split at h
    ·split at h
     ·split at h
      ·split at h
       ·cases h; exact jba ht
       ·cases h
      ·cases h
     ·split at h
      ·split at h
       ·split at h
        ·cases h; exact jba ht
        ·rename_i i0 j0
         split at h
         ·cases h
          simp only[jih,Bool.and_eq_true]at ht
          exact⟨Nat.eq_of_beq_eq_true ht.1,jba ht.2⟩
         ·cases h
       ·cases h
      ·cases h
    ·cases h
   ·rename_i r0 i0 e0 j0 t0 c sz hf hs
    rw[hf]at ht
    have ht:i<c.n:=jba ht
    split at h
    ·split at h
     ·split at h
      ·split at h
       ·cases h; exact ht
       ·cases h
      ·cases h
     ·cases h
    ·cases h
   ·cases h
  ·cases h
 |call c =>
  dsimp only at h ht
  split at h
  ·rename_i s x t t' hc ha hat
   rw[hc,ha,hat]at ht
   dsimp only at ht
   split at h
   ·rename_i elem hb hut
    rw[hut]at ht
    split at ht
    ·rename_i elem' n m he hn hm
     cases he
     split at ht
     ·rename_i b h4
      simp only[Bool.and_eq_true]at ht
      have a1:=Nat.le_of_ble_eq_true ht.1.1
      have a2:=Nat.le_of_ble_eq_true ht.1.2
      have fin:∀{x y:Nat},x≤n→y≤m→(x+y)*b≤140737488355328∧x+y≤9223372036854775807:=fun l1 l2 =>
       ⟨Nat.le_trans (Nat.mul_le_mul_right b (Nat.add_le_add l1 l2)) a1,Nat.le_trans (Nat.add_le_add l1 l2) a2⟩
      have MA:∀{r},jfj P t elem (rd s) (rd x) hp nx=some r→r.ob:=by
       intro r h
       unfold jfj at h
       split at h
       ·rename_i X0 z e b' ts h0 h1 h2 h3 h4' h5
        rw[h4]at h4'
        cases h4'
        have h0:X0.n=0:=by
         unfold xcT at h1
         split at h1
         ·split at h1
          ·split at h1<;>cases h1; rfl
          ·split at h1<;>cases h1<;>rfl
          ·cases h1
         ·cases h1
        have len:∀{v:Option V} {hs:Option Nat} {ty n:Nat} {ts:List Nat} {X:XC},v.bind (mOf hp X0)=some (hs,ty,ts,X)→jcO hp v=some n→X.n≤n:=by
         intro v hs ty n ts X hv hn
         cases v with
         |none=>cases hv
         |some v =>
          simp only[Option.bind_some]at hv
          unfold mOf at hv
          split at hv
          ·split at hv
           ·rename_i ty2 ts2 X2 hf
            cases hv
            exact Nat.le_of_eq (jlI (X:=X) rfl (by rw[hf]; rfl) hn).symm
           ·cases hv
          ·cases hv; rw[h0]; exact Nat.zero_le _
          ·cases hv
        split at h
        ·rename_i hs ty t1 X1 hx ty' t2 X2 g1 g2
         split at h
         ·cases h
          exact fin (len g1 hn) (len g2 hm)
         ·cases h
        ·cases h
       ·cases h
      split at h
      ·rename_i hs0 hobj
       split at h
       ·rename_i r0 i0 e0 j0 t0 c1 hf
        split at h
        ·rename_i hx cx z e b' ty ts X g1 g2 g3 g4 g5
         rw[h4]at g4
         cases g4
         split at h
         ·rename_i c2 hc2
          split at h
          ·split at h
           ·cases h
            have hs':rd s=some (.w (.c (.o hs0))):=by
             cases hrs:rd s with
             |none=>simp[hrs]at hobj
             |some v =>
              simp only[hrs,Option.bind_some]at hobj
              unfold V.obj? at hobj
              split at hobj
              ·cases hobj; rfl
              ·cases hobj
            have l1:c1.n≤n:=Nat.le_of_eq ((jii hs' hf hn).1 c1 rfl).symm
            have l2:c2.n≤m:=Nat.le_of_eq (jjl g1 hc2 hm)
            exact fin l1 l2
           ·cases h
          ·cases h
         ·cases h
        ·cases h
       ·exact MA h
      ·exact MA h
     ·cases ht
    ·cases ht
   ·cases h
  ·cases h
 |_=>simp at h
theorem bL_ob {op:Op} {r:Res} (ht:obB P op rd hp=true) (h:jd8 P op rd hp nx=some r):r.ob:=by
 unfold obB at ht
 unfold jd8 at h
 cases op with
 |makeSlice t l c =>
  dsimp only at h ht
  split at h
  ·rename_i elem k n k' m _ hut hn hm
   rw[hut,hn,hm]at ht
   dsimp only at ht
   split at h
   ·rename_i z e b h1 h2 h3
    rw[h3]at ht
    split at h
    ·cases h; simpa using ht
    ·cases h
   ·cases h
  ·cases h
 |buildSlice t n ps=>cases ht
 |slice t x lo hi mx =>
  cases mx with
  |some mx=>cases h
  |none =>
   dsimp only at h ht
   split at h
   ·rename_i elem h' l m hut hx hl hm
    rw[hl,hm,hut]at ht
    dsimp only at ht
    split at h
    ·rename_i e n cs sz hf hs
     split at ht
     ·rename_i n' hn
      rw[jjk hx hf hn]at ht
      split at h
      ·cases h
       simpa [jjj]using ht
      ·cases h
     ·cases ht
    ·cases h
   ·cases h
 |store t x y =>
  dsimp only at h
  split at h
  ·split at h
   ·split at h
    ·cases h; trivial
    ·cases h
   ·cases h
  ·cases h
 |call c =>
  dsimp only at h ht
  split at h
  ·rename_i s x t t' hc ha hat
   rw[hc,ha,hat]at ht
   dsimp only at ht
   split at h
   ·rename_i elem _ hb hut
    rw[hut]at ht
    split at h
    ·rename_i z e b h1 h2 h3
     split at h
     ·rename_i hs ty e1 n1 cs1 n2 cs2 g1 g2
      split at ht
      ·rename_i elem' n m he hn hm
       cases he
       rw[h3]at ht
       simp only[Bool.and_eq_true]at ht
       have l1:n1=n:=by
        cases hrs:rd s with
        |none=>simp[hrs]at g1
        |some v =>
         simp only[hrs,Option.bind_some]at g1
         rw[hrs]at hn
         unfold lOf at g1
         split at g1
         ·rename_i k
          split at g1
          ·rename_i hf
           cases g1
           exact(jjk rfl (by rw[hf]; rfl) hn).symm
          ·cases g1
         ·cases g1; simpa [jcO]using hn
         ·cases g1
       have l2:n2=m:=by
        cases hrs:rd x with
        |none=>simp[hrs]at g2
        |some v =>
         simp only[hrs,Option.bind_some]at g2
         rw[hrs]at hm
         unfold lRd at g2
         split at g2
         ·rename_i k
          split at g2
          ·rename_i hf
           cases g2
           exact(jjk rfl hf hm).symm
          ·cases g2
         ·cases g2; simpa [jcO]using hm
         ·cases g2
       split at h
       ·cases h
        rw[←l1,←l2]at ht
        exact⟨Nat.le_of_ble_eq_true ht.1.1,Nat.le_of_ble_eq_true ht.1.2⟩
       ·cases h
      ·cases ht
     ·cases h
    ·cases h
   ·cases h
  ·cases h
 |_=>simp at h
theorem bH_ob {op:Op} {r:Res} (ht:obB P op rd hp=true) (hcall:∀c,op=.call c→c.callee=.builtin .append) (h:jgZ P sp op rd hp nx=some r):r.ob:=by
 unfold obB at ht
 unfold jgZ at h
 cases op with
 |box elem x=>cases ht
 |alloc elem=>cases ht
 |buildSlice t n ps=>cases ht
 |makeSlice t l c =>
  dsimp only at h ht
  split at h
  ·rename_i elem k n k' m hut hn hm
   rw[hut,hn,hm]at ht
   dsimp only at ht
   split at h
   ·rename_i z e b h1 h2 h3
    rw[h3]at ht
    split at h
    ·split at h
     ·cases h; simpa using ht
     ·cases h
    ·cases h
   ·cases h
  ·cases h
 |slice t x lo hi mx =>
  cases mx with
  |some mx=>cases h
  |none =>
   dsimp only at h ht
   split at h
   ·split at h
    ·split at h
     ·split at h
      ·split at h
       ·cases h; trivial
       ·cases h
      ·cases h
     ·cases h
    ·cases h
   ·rename_i elem h' l m hut hx hl hm
    rw[hl,hm,hut]at ht
    dsimp only at ht
    split at h
    ·rename_i o e hf hs
     split at h
     ·rename_i c hc
      split at ht
      ·rename_i n hn
       rw[(jii hx hf hn).1 c hc]at ht
       split at h
       ·cases h
        simpa [jjj]using ht
       ·cases h
      ·cases ht
     ·cases h
    ·cases h
   ·cases h
 |store t x y =>
  dsimp only at h ht
  split at h
  ·rename_i h' i e j u hx hy
   rw[hx]at ht
   dsimp only at ht
   split at h
   ·split at h
    ·rename_i ty cs hf
     rw[hf,hy]at ht
     split at h
     ·rename_i p cs' hst
      cases h
      unfold jnJ at hst
      split at hst
      ·split at hst
       ·cases hst
       ·rename_i c0 r0 hu
        dsimp only[jih]at ht
        exact juI hst ht
      ·cases hst
     ·split at h
      ·cases h; trivial
      ·cases h
    ·rename_i ty c hf
     rw[hf]at ht
     have ht:i<c.n:=by
      cases c with
      |frs k E l =>
       simp only[jih,Bool.and_eq_true]at ht
       exact jba ht.1
      |_=>exact jba ht
     split at h
     ·split at h
      ·split at h
       ·cases h; exact ht
       ·cases h
      ·cases h
     ·cases h
    ·cases h
   ·cases h
  ·cases h
 |call c =>
  dsimp only at h ht
  have hcc:=hcall c rfl
  rw[hcc]at h ht
  split at h
  ·rename_i s x t t' _ ha hat
   rw[ha,hat]at ht
   dsimp only at ht
   split at h
   ·rename_i hte
    split at ht
    ·rename_i elem n m hut hn hm
     split at ht
     ·rename_i b hb
      simp only[Bool.and_eq_true]at ht
      have a1:=Nat.le_of_ble_eq_true ht.1.1
      have a2:=Nat.le_of_ble_eq_true ht.1.2
      have fin:∀{x y:Nat},x≤n→y≤m→(x+y)*b≤140737488355328∧x+y≤9223372036854775807:=fun l1 l2 =>
       ⟨Nat.le_trans (Nat.mul_le_mul_right b (Nat.add_le_add l1 l2)) a1,Nat.le_trans (Nat.add_le_add l1 l2) a2⟩
      split at h
      ·rename_i c1 hfv
       rw[hfv]at ht
       simp only[Bool.and_eq_true]at ht
       unfold je3 at h
       split at h
       ·rename_i elem' hx cx hut' g1
        rw[hut]at hut'
        cases hut'
        split at h
        ·rename_i z e b' h1 h2 h3
         rw[hb]at h3
         cases h3
         split at h
         ·rename_i c2 hc2
          split at h
          ·split at h
           ·cases h
            have l1:c1.n≤n:=by
             unfold jiB at hfv
             split at hfv
             ·rename_i hh hrs
              split at hfv
              ·rename_i rr cc hf
               cases hfv
               exact Nat.le_of_eq ((jii hrs hf hn).1 c1 rfl).symm
              ·cases hfv
             ·cases hfv
            have l2:=jjl g1 hc2 hm
            exact⟨jba ht.2.1,by rw[l2]; exact jba ht.2.2,fin l1 (Nat.le_of_eq l2)⟩
           ·cases h
          ·cases h
         ·cases h
        ·cases h
       ·cases h
      ·split at h
       ·rename_i elem' hs cs hx cx hut' g1 g2
        rw[hut]at hut'
        cases hut'
        split at h
        ·rename_i z e b' h1 h2 h3
         rw[hb]at h3
         cases h3
         split at h
         ·rename_i c1 c2 _ hc1 hc2
          split at h
          ·split at h
           ·cases h
            exact fin (Nat.le_of_eq (jjl g1 hc1 hn)) (Nat.le_of_eq (jjl g2 hc2 hm))
           ·cases h
          ·cases h
         ·cases h
        ·cases h
       ·cases h
     ·cases ht
    ·cases ht
   ·cases h
  ·rename_i hc; cases hc
  ·cases h
 |_=>simp at h
theorem b_ob {op:Op} {r:Res} (ht:obB P op rd hp=true) (h:jbI P sp op rd hp nx=some r):r.ob:=by
 unfold jbI at h
 split at h
 ·rename_i ob v hv
  cases h
  unfold ja1 at hv
  split at hv
  ·rename_i p hp0
   cases hv
   exact jxu ht hp0
  ·exact jzF ht hv
 ·split at h
  ·rename_i r' hr
   cases h
   exact bR_ob ht hr
  ·split at h
   ·rename_i r' hr
    cases h
    exact bX_ob ht hr
   ·split at h
    ·rename_i r' hr
     cases h
     exact bL_ob ht hr
    ·split at h
     ·rename_i r' hr
      cases h
      exact bM_ob ht hr
     ·split at h
      ·rename_i r' hr
       cases h
       exact bN_ob ht hr
      ·refine bH_ob ht ?_ h
       intro c hc
       subst hc
       unfold obB at ht
       dsimp only at ht
       split at ht
       ·assumption
       ·cases ht
end
end Go.Sx
end

section
open Go.RowKit
namespace Go.Sx
section force
variable {α:Type}
def fN (n:Nat) (k:Nat→α):α :=
 match n with
 |0=>k 0
 |m+1=>k (m+1)
def fI (n:Int) (k:Int→α):α :=
 match n with
 | .ofNat m=>fN m fun m=>k (.ofNat m)
 | .negSucc m=>fN m fun m=>k (.negSucc m)
def fB (b:Bool) (k:Bool→α):α :=
 match b with
 |true=>k true
 |false=>k false
noncomputable def fL {β:Type} (f:β→(β→α)→α) (l:List β):(List β→α)→α :=
 List.rec (motive:=fun _=>(List β→α)→α) (fun k=>k []) (fun x _ ih k=>f x fun x=>ih fun r=>k (x::r)) l
def fD (x:D) (k:D→α):α :=
 match x with
 | .i q n=>fI n fun n=>k (.i q n)
 | .b b=>fB b fun b=>k (.b b)
 | .f q n=>fN n fun n=>k (.f q n)
 | .s x=>k (.s x)
 | .v x=>k (.v x)
 | .z q p=>k (.z q p)
noncomputable def fC (x:C) (k:C→α):α :=
 match x with
 | .d x=>fD x fun x=>k (.d x)
 | .p h i e j=>fN h fun h=>fN i fun i=>fN e fun e=>fN j fun j=>k (.p h i e j)
 | .o h=>fN h fun h=>k (.o h)
 | .fn f hs=>fL fN hs fun hs=>k (.fn f hs)
 | .g n i e j=>fN i fun i=>fN j fun j=>k (.g n i e j)
 | .fb f hs=>fL fN hs fun hs=>k (.fb f hs)
noncomputable def fW (x:W) (k:W→α):α :=
 match x with
 | .c x=>fC x fun x=>k (.c x)
 | .a l=>fL fC l fun l=>k (.a l)
 | .b q e r=>fL fN r fun r=>k (.b q e r)
noncomputable def fV (x:V) (k:V→α):α :=
 match x with
 | .w x=>fW x fun x=>k (.w x)
 | .t l=>fL fW l fun l=>k (.t l)
noncomputable def jf4 (c:Cont) (k:Cont→α):α :=
 match c with
 | .ints q l=>fL fI l fun l=>k (.ints q l)
 | .recs e l=>fL (fL fI) l fun l=>k (.recs e l)
 | .floats q l=>fL fN l fun l=>k (.floats q l)
 | .strs l=>fL (fun x k=>k x) l fun l=>k (.strs l)
 | .bools l=>fL fB l fun l=>k (.bools l)
 | .lits e l=>fL (fL fD) l fun l=>k (.lits e l)
 | .frs q e l=>fL (fL fN) l fun l=>k (.frs q e l)
noncomputable def fNC (x:NC) (k:NC→α):α :=
 match x with
 | .d x=>fD x fun x=>k (.d x)
 | .r c=>jf4 c fun c=>k (.r c)
noncomputable def fXC (x:XC) (k:XC→α):α :=
 match x with
 | .st sh l=>fL (fL fNC) l fun l=>k (.st sh l)
 | .ii q l=>fL (fL fI) l fun l=>k (.ii q l)
 | .ff q l=>fL (fL fN) l fun l=>k (.ff q l)
 | .bb q e l=>fL (fL (fL fN)) l fun l=>k (.bb q e l)
 | .rr e l=>fL (fL (fL fI)) l fun l=>k (.rr e l)
noncomputable def fO (o:O) (k:O→α):α :=
 match o with
 | .box ty cs=>fL fC cs fun cs=>k (.box ty cs)
 | .row ty c=>jf4 c fun c=>k (.row ty c)
 | .ext c=>jf4 c fun c=>k (.ext c)
 | .view r c f=>fN r fun r=>jf4 c fun c=>fB f fun f=>k (.view r c f)
 | .dead=>k .dead
 | .nan q=>k (.nan q)
 | .ebox cs=>fL fC cs fun cs=>k (.ebox cs)
 | .arr ty q e r=>fL fN r fun r=>k (.arr ty q e r)
 | .xext x=>fXC x fun x=>k (.xext x)
 | .map es=>k (.map es)
 | .rrow c=>jf4 c fun c=>k (.rrow c)
 | .fext c=>jf4 c fun c=>k (.fext c)
 | .xrow ty x=>fXC x fun x=>k (.xrow ty x)
 | .mrow ty ts x ho=>fXC x fun x=>match ho with
  |none=>k (.mrow ty ts x none)
  |some p=>k (.mrow ty ts x (some p))
 | .sub r i e j ty c=>fN r fun r=>fN i fun i=>fN e fun e=>fN j fun j=>jf4 c fun c=>k (.sub r i e j ty c)
 | .lbox ty e n cs=>fL fC cs fun cs=>k (.lbox ty e n cs)
 | .lview r e n cs=>fN r fun r=>fL fC cs fun cs=>k (.lview r e n cs)
 | .elist e n cs=>fL fC cs fun cs=>k (.elist e n cs)
 | .err=>k .err
 | .atom=>k .atom
def fS (o:O) (k:O→α):α :=
 match o with
 | .box ty cs=>k (.box ty cs)
 | .row ty c=>k (.row ty c)
 | .ext c=>k (.ext c)
 | .view r c f=>k (.view r c f)
 | .dead=>k .dead
 | .nan q=>k (.nan q)
 | .ebox cs=>k (.ebox cs)
 | .arr ty q e r=>k (.arr ty q e r)
 | .xext x=>k (.xext x)
 | .map es=>k (.map es)
 | .rrow c=>k (.rrow c)
 | .fext c=>k (.fext c)
 | .xrow ty x=>k (.xrow ty x)
 | .mrow ty ts x ho=>k (.mrow ty ts x ho)
 | .sub r i e j ty c=>k (.sub r i e j ty c)
 | .lbox ty e n cs=>k (.lbox ty e n cs)
 | .lview r e n cs=>k (.lview r e n cs)
 | .elist e n cs=>k (.elist e n cs)
 | .err=>k .err
 | .atom=>k .atom
theorem jbs (n:Nat) (k:Nat→α):fN n k=k n:=by cases n<;>rfl
theorem jov (n:Int) (k:Int→α):fI n k=k n:=by cases n<;>simp only[fI,jbs]
theorem jv2 (b:Bool) (k:Bool→α):fB b k=k b:=by cases b<;>rfl
theorem ja2 {β:Type} {f:β→(β→α)→α} (hf:∀x k,f x k=k x):∀(l:List β) (k:List β→α),fL f l k=k l
 |[],_=>rfl
 |x::r,k=>by
  show f x (fun x=>fL f r fun r=>k (x::r))=_
  rw[hf,ja2 hf r]
theorem jv3 (x:D) (k:D→α):fD x k=k x:=by cases x<;>simp only[fD,jov,jv2,jbs]
theorem jv4 (x:C) (k:C→α):fC x k=k x:=by cases x<;>simp only[fC,jv3,jbs,ja2 jbs]
theorem jzG (x:W) (k:W→α):fW x k=k x:=by cases x<;>simp only[fW,jv4,ja2 jv4,ja2 jbs]
theorem jcV (x:V) (k:V→α):fV x k=k x:=by cases x<;>simp only[fV,jzG,ja2 jzG]
theorem jsv (x:Cont) (k:Cont→α):jf4 x k=k x:=by
 cases x<;>simp only[jf4,ja2 jov,ja2 (ja2 jov),ja2 jbs,ja2 (fun(x:ByteArray) (k:ByteArray→α)=>rfl),ja2 jv2,ja2 (ja2 jv3),ja2 (ja2 jbs)]
theorem jAN (x:NC) (k:NC→α):fNC x k=k x:=by cases x<;>simp only[fNC,jv3,jsv]
theorem jxv (x:XC) (k:XC→α):fXC x k=k x:=by
 cases x<;>simp only[fXC,ja2 (ja2 jAN),ja2 (ja2 jov),ja2 (ja2 jbs),ja2 (ja2 (ja2 jbs)),ja2 (ja2 (ja2 jov))]
theorem jv5 (x:O) (k:O→α):fO x k=k x:=by
 cases x with
 |mrow ty ts x ho=>cases ho<;>simp only[fO,jxv]
 |_=>simp only[fO,ja2 jv4,jsv,jbs,jv2,ja2 jbs,jxv]
theorem fS_eq (x:O) (k:O→α):fS x k=k x:=by cases x<;>rfl
def jij:O→Bool
 | .dead=>true
 |_=>false
noncomputable def hpF (live:Nat→Bool) (j seen:Nat) (hp:Hp) (k:Hp→α):α :=
 List.rec (motive:=fun _=>Nat→Nat→(Hp→α)→α) (fun _ _ k=>k []) (fun x _ ih j seen k=>fN x.1 fun h=>match Nat.testBit seen h with
  |true=>ih j.pred seen k
  |false=>fN (seen ||| 1 <<< h) fun seen=>match live h with
   |false=>ih j.pred seen k
   |true=>match j with
    |0=>fS x.2 fun o=>match jij o with
     |true=>ih 0 seen k
     |false=>ih 0 seen fun r=>k ((h,o)::r)
    |j+1=>fO x.2 fun o=>match jij o with
     |true=>ih j seen k
     |false=>ih j seen fun r=>k ((h,o)::r)) hp j seen k
theorem jAb {live:Nat→Bool} {j seen:Nat} {k:Hp→α}:hpF live j seen [] k=k []:=rfl
theorem jyN {live:Nat→Bool} {j seen h:Nat} {o:O} {r:Hp} {k:Hp→α}:hpF live j seen ((h,o)::r) k=fN h fun h=>match Nat.testBit seen h with
  |true=>hpF live j.pred seen r k
  |false=>fN (seen ||| 1 <<< h) fun seen=>match live h with
   |false=>hpF live j.pred seen r k
   |true=>match j with
    |0=>fS o fun o=>match jij o with
     |true=>hpF live 0 seen r k
     |false=>hpF live 0 seen r fun r=>k ((h,o)::r)
    |j+1=>fO o fun o=>match jij o with
     |true=>hpF live j seen r k
     |false=>hpF live j seen r fun r=>k ((h,o)::r):=rfl
theorem juK (seen h t:Nat):Nat.testBit (seen ||| 1 <<< h) t=false↔Nat.testBit seen t=false∧t≠h:=by
 rw[Nat.testBit_or,Nat.one_shiftLeft,Nat.testBit_two_pow]
 simp only[Bool.or_eq_false_iff,decide_eq_false_iff_not]
 exact⟨fun h=>⟨h.1,fun e=>h.2 e.symm⟩,fun h=>⟨h.1,fun e=>h.2 e.symm⟩⟩
theorem jgE {live:Nat→Bool}:∀(hp:Hp) (j seen:Nat) (k:Hp→α),∃hp',hpF live j seen hp k=k hp'∧∀h o,find hp' h=some o→find hp h=some o∧Nat.testBit seen h=false∧live h=true
 |[],j,seen,k=>⟨[],jAb,fun h o hf=>by cases hf⟩
 |(h0,o0)::r,j,seen,k=>by
  rw[jyN,jbs]
  have skip:∀(j seen':Nat) (k:Hp→α),(∀t,Nat.testBit seen' t=false→Nat.testBit seen t=false∧t≠h0)→∃hp',hpF live j seen' r k=k hp'∧∀h o,find hp' h=some o→find ((h0,o0)::r) h=some o∧Nat.testBit seen h=false∧live h=true:=by
   intro j seen' k hs
   obtain⟨hp',h1,h2⟩:=jgE r j seen' k
   refine⟨hp',h1,fun h o hf=>?_⟩
   obtain⟨h3,h4,h9⟩:=h2 h o hf
   obtain⟨h5,h6⟩:=hs h h4
   exact⟨by rw[find,if_neg (fun e=>h6 e.symm)]; exact h3,h5,h9⟩
  have keep:∀(j seen':Nat),(∀t,Nat.testBit seen' t=false→Nat.testBit seen t=false∧t≠h0)→Nat.testBit seen h0=false→live h0=true→∃hp',hpF live j seen' r (fun r=>k ((h0,o0)::r))=k hp'∧∀h o,find hp' h=some o→find ((h0,o0)::r) h=some o∧Nat.testBit seen h=false∧live h=true:=by
   intro j seen' hs h0s hl0
   obtain⟨hp',h1,h2⟩:=jgE r j seen' (fun r=>k ((h0,o0)::r))
   refine⟨(h0,o0)::hp',h1,fun h o hf=>?_⟩
   rw[find]at hf
   split at hf
   ·rename_i e
    subst e
    cases hf
    exact⟨by rw[find,if_pos rfl],h0s,hl0⟩
   ·rename_i e
    obtain⟨h3,h4,h9⟩:=h2 h o hf
    exact⟨by rw[find,if_neg e]; exact h3,(hs h h4).1,h9⟩
  cases hs:Nat.testBit seen h0 with
  |true =>
   refine skip _ _ _ fun t ht=>⟨ht,fun e=>?_⟩
   subst e
   rw[ht]at hs
   cases hs
  |false =>
   dsimp only
   rw[jbs]
   have hn:=fun t=>(juK seen h0 t).1
   cases hl0:live h0 with
   |false=>exact skip _ _ _ hn
   |true =>
    cases j with
    |zero =>
     dsimp only
     rw[fS_eq]
     cases jij o0 with
     |true=>exact skip _ _ _ hn
     |false=>exact keep _ _ hn hs hl0
    |succ j =>
     dsimp only
     rw[jv5]
     cases jij o0 with
     |true=>exact skip _ _ _ hn
     |false=>exact keep _ _ hn hs hl0
noncomputable def tmF (seen:Nat) (tm:List (Nat × V)) (k:List (Nat × V)→α):α :=
 List.rec (motive:=fun _=>Nat→(List (Nat × V)→α)→α) (fun _ k=>k []) (fun x _ ih seen k=>match Nat.testBit seen x.1 with
  |true=>ih seen k
  |false=>fV x.2 fun v=>fN (seen ||| 1 <<< x.1) fun seen=>ih seen fun r=>k ((x.1,v)::r)) tm seen k
theorem jAc {seen:Nat} {k:List (Nat × V)→α}:tmF seen [] k=k []:=rfl
theorem jyO {seen t:Nat} {v:V} {r:List (Nat × V)} {k:List (Nat × V)→α}:tmF seen ((t,v)::r) k=match Nat.testBit seen t with
  |true=>tmF seen r k
  |false=>fV v fun v=>fN (seen ||| 1 <<< t) fun seen=>tmF seen r fun r=>k ((t,v)::r):=rfl
theorem jm6:∀(tm:List (Nat × V)) (seen:Nat) (k:List (Nat × V)→α),∃tm',tmF seen tm k=k tm'∧∀t v,jaD tm' t=some v→jaD tm t=some v∧Nat.testBit seen t=false
 |[],seen,k=>⟨[],jAc,fun h o hf=>by cases hf⟩
 |(t0,v0)::r,seen,k=>by
  rw[jyO]
  cases hs:Nat.testBit seen t0 with
  |true =>
   obtain⟨tm',h1,h2⟩:=jm6 r seen k
   refine⟨tm',h1,fun t v hf=>?_⟩
   obtain⟨h3,h4⟩:=h2 t v hf
   refine⟨?_,h4⟩
   rw[jaD,if_neg (fun e=>by subst e; rw[h4]at hs; cases hs)]
   exact h3
  |false =>
   dsimp only
   rw[jcV,jbs]
   obtain⟨tm',h1,h2⟩:=jm6 r (seen ||| 1 <<< t0) (fun r=>k ((t0,v0)::r))
   refine⟨(t0,v0)::tm',h1,fun t v hf=>?_⟩
   rw[jaD]at hf
   split at hf
   ·rename_i e
    subst e
    cases hf
    exact⟨by rw[jaD,if_pos rfl],hs⟩
   ·rename_i e
    obtain⟨h3,h4⟩:=h2 t v hf
    exact⟨by rw[jaD,if_neg e]; exact h3,((juK seen t0 t).1 h4).1⟩
end force
noncomputable def jpC (l:List (Nat × V)) (t:Nat):Option V :=
 List.rec (motive:=fun _=>Option V) none (fun x _ ih=>Bool.rec (motive:=fun _=>Option V) ih (some x.2) (Nat.beq x.1 t)) l
theorem jik:∀(l:List (Nat × V)) (t:Nat),jpC l t=jaD l t
 |[],_=>rfl
 |(k,v)::r,t=>by
  have ih:=jik r t
  rw[jaD,←ih]
  show Bool.rec (motive:=fun _=>Option V) (jpC r t) (some v) (Nat.beq k t)=_
  cases h:Nat.beq k t with
  |true=>rw[if_pos (Nat.eq_of_beq_eq_true h)]
  |false=>rw[if_neg (fun e=>by subst e; rw[Nat.beq_refl]at h; cases h)]
noncomputable def jlJ (l:Hp) (t:Nat):Option O :=
 List.rec (motive:=fun _=>Option O) none (fun x _ ih=>Bool.rec (motive:=fun _=>Option O) ih (some x.2) (Nat.beq x.1 t)) l
theorem jde:∀(l:Hp) (t:Nat),jlJ l t=find l t
 |[],_=>rfl
 |(k,v)::r,t=>by
  have ih:=jde r t
  rw[find,←ih]
  show Bool.rec (motive:=fun _=>Option O) (jlJ r t) (some v) (Nat.beq k t)=_
  cases h:Nat.beq k t with
  |true=>rw[if_pos (Nat.eq_of_beq_eq_true h)]
  |false=>rw[if_neg (fun e=>by subst e; rw[Nat.beq_refl]at h; cases h)]
noncomputable def jk5 {α:Type} (l:List α) (n:Nat):Option α :=
 List.rec (motive:=fun _=>Nat→Option α) (fun _=>none) (fun x _ ih n=>match n with|0=>some x|n+1=>ih n) l n
theorem jd4 {α:Type}:∀(l:List α) (n:Nat),jk5 l n=l[n]?
 |[],_=>rfl
 |x::r,0=>rfl
 |x::r,n+1=>by
  have:=jd4 r n
  show jk5 r n=_
  rw[this]
  simp
noncomputable def rdQ [Globs] (st:St):Operand→Option V
 | .tmp t=>jpC st.tm t
 | .const v=>some (.w (ofValue v))
 | .global g=>jb1 st (.global g)
 | .func f=>some (.w (.c (.fn f [])))
theorem jxw [Globs] (st:St):rdQ st=jb1 st:=by
 funext x
 cases x<;>first|exact jik _ _|rfl
def jsw:List Nat→Nat
 |[]=>0
 |h::r=>1 <<< h ||| jsw r
def jzH:C→Nat
 | .p h _ _ _=>1 <<< h
 | .o h=>1 <<< h
 | .fn _ hs=>jsw hs
 | .fb _ hs=>jsw hs
 |_=>0
def jfw:List C→Nat→Nat
 |[],m=>m
 | .d _::r,m=>jfw r m
 |c::r,m=>jfw r (jzH c ||| m)
def jzI:W→Nat→Nat
 | .c c,m=>jzH c ||| m
 | .a l,m=>jfw l m
 | .b _ _ _,m=>m
def jq4:V→Nat→Nat
 | .w u,m=>jzI u m
 | .t l,m=>l.foldl (fun m u=>jzI u m) m
def jzJ:O→Nat→Nat
 | .box _ cs,m=>jfw cs m
 | .ebox cs,m=>jfw cs m
 | .lbox _ _ _ cs,m=>jfw cs m
 | .lview r _ _ cs,m=>jfw cs (1 <<< r ||| m)
 | .elist _ _ cs,m=>jfw cs m
 | .view r _ _,m=>1 <<< r ||| m
 | .sub r _ _ _ _ _,m=>1 <<< r ||| m
 |_,m=>m
noncomputable def jow {α:Type} (n0:Nat) (hp:Hp) (m:Nat) (k:Nat→α):α :=
 List.rec (motive:=fun _=>Nat→(Nat→α)→α) (fun m k=>k m) (fun x _ ih m k=>match Nat.blt x.1 n0||Nat.testBit m x.1 with
  |true=>fN (jzJ x.2 m) fun m=>ih m k
  |false=>ih m k) hp m k
theorem jv6 {α:Type} {n0 h:Nat} {o:O} {r:Hp} {m:Nat} {k:Nat→α}:jow n0 ((h,o)::r) m k=match Nat.blt h n0||Nat.testBit m h with
  |true=>fN (jzJ o m) fun m=>jow n0 r m k
  |false=>jow n0 r m k:=rfl
noncomputable def jil {α:Type} (n0:Nat) (hp:Hp):Nat→Nat→(Nat→α)→α
 |0,m,k=>k m
 |n+1,m,k=>jow n0 hp m fun m'=>match Nat.beq m m' with
  |true=>k m'
  |false=>jil n0 hp n m' k
theorem jjm {α:Type} {n0:Nat}:∀(hp:Hp) (m:Nat) (k:Nat→α),∃m',jow n0 hp m k=k m'
 |[],m,k=>⟨m,rfl⟩
 |(h,o)::r,m,k=>by
  rw[jv6]
  split
  ·rw[jbs]; exact jjm r _ k
  ·exact jjm r _ k
theorem jhJ {α:Type} {n0:Nat} {hp:Hp}:∀(n m:Nat) (k:Nat→α),∃m',jil n0 hp n m k=k m'
 |0,m,k=>⟨m,rfl⟩
 |n+1,m,k=>by
  unfold jil
  obtain⟨m',h⟩:=jjm (n0:=n0) hp m (fun m'=>match Nat.beq m m' with|true=>k m' | false=>jil n0 hp n m' k)
  rw[h]
  split
  ·exact⟨_,rfl⟩
  ·exact jhJ n m' k
end Go.Sx
end

section
open Go.RowKit
namespace Go.Sx
section
variable [Globs]
def qInt (op:BinOp) (k:IntKind) (a b:Int):Option V :=
 match op with
 | .add=>some (vi k (k.wrap (a+b)))
 | .sub=>some (vi k (k.wrap (a-b)))
 | .mul=>some (vi k (k.wrap (a*b)))
 | .eql=>some (vb (a==b))
 | .neq=>some (vb (a != b))
 | .lss=>some (vb (a<b))
 | .leq=>some (vb (a≤b))
 | .gtr=>some (vb (a>b))
 | .geq=>some (vb (a≥b))
 |_=>none
noncomputable def qBin (op:BinOp) (u v:Option V):Option V :=
 match u,v with
 |some (.w (.c (.d (.i k a)))),some (.w (.c (.d (.i k' b))))=>match decide (k=k')with
  |true=>qInt op k a b
  |false=>none
 |_,_=>none
noncomputable def jxx (P:Program) (s:TypeId) (f:Nat) (u:Option V):Option V :=
 match u with
 |some (.w (.c (.p h i e j)))=>match P.underlying s with
  |some (.struct fs)=>match jk5 fs.toList f with
   |some g=>match szT P g.type with
    |some (_+1)=>some (.w (.c (.p h i e (j+g.offset))))
    |_=>none
   |none=>none
  |_=>none
 |_=>none
noncomputable def qNil (u:Option V):Option V :=
 match u with
 |some (.w (.c (.p h i e j)))=>some (.w (.c (.p h i e j)))
 |_=>none
noncomputable def qNot (u:Option V):Option V :=
 match u with
 |some (.w (.c (.d (.b b))))=>some (vb (!b))
 |_=>none
noncomputable def jzK (P:Program) (t:TypeId) (hp:Hp) (u:Option V):Option V :=
 match u with
 |some (.w (.c (.p h i e j)))=>match e with
  |0=>none
  |e' + 1=>match jbj P t with
   |some false=>match szT P t with
    |some _=>match jlJ hp h with
     |some (.box _ cs)=>match jk5 cs (i*(e' + 1)+j)with
      |some c=>some (.w (.c c))
      |none=>none
     |some (.ebox cs)=>match jk5 cs (i*(e' + 1)+j)with
      |some c=>some (.w (.c c))
      |none=>none
     |some (.row _ (.ints k l))=>match Nat.beq (e' + 1) 1,Nat.beq j 0,Nat.blt i l.length with
      |true,true,true=>some (vi k (l.getD i 0))
      |_,_,_=>none
     |some (.ext (.ints k l))=>match Nat.beq (e' + 1) 1,Nat.beq j 0,Nat.blt i l.length with
      |true,true,true=>some (vi k (l.getD i 0))
      |_,_,_=>none
     |some (.row _ (.bools l))=>match Nat.beq (e' + 1) 1,Nat.beq j 0,Nat.blt i l.length with
      |true,true,true=>some (vb (l.getD i false))
      |_,_,_=>none
     |some (.ext (.bools l))=>match Nat.beq (e' + 1) 1,Nat.beq j 0,Nat.blt i l.length with
      |true,true,true=>some (vb (l.getD i false))
      |_,_,_=>none
     |_=>none
    |none=>none
   |_=>none
 |_=>none
noncomputable def jzL (c a b:Option V):Option V :=
 match c with
 |some (.w (.c (.d (.b true))))=>a
 |some (.w (.c (.d (.b false))))=>b
 |_=>none
noncomputable def qExt (u:Option V) (i:Nat):Option V :=
 match u with
 |some (.t l)=>match jk5 l i with
  |some x=>some (.w x)
  |none=>none
 |_=>none
noncomputable def qFld (P:Program) (t:TypeId) (f:Nat) (u:Option V):Option V :=
 match u with
 |some (.w (.a cs))=>match P.underlying t with
  |some (.struct fs)=>match jk5 fs.toList f with
   |some g=>jbK P g.type cs g.offset
   |none=>none
  |_=>none
 |_=>none
noncomputable def qIdx (P:Program) (t:TypeId) (hp:Hp) (u i:Option V):Option V :=
 match i with
 |some (.w (.c (.d (.i _ n))))=>match u with
  |some (.w (.c (.o h)))=>match P.underlying t with
   |some (.slice elem)=>match(jlJ hp h).bind O.cont with
    |some c=>match szT P elem with
     |some size=>match decide (size=c.e),decide (0≤n∧n<(c.n:Int))with
      |true,true=>some (.w (.c (.p h n.toNat c.e 0)))
      |_,_=>none
     |none=>none
    |none=>none
   |_=>none
  |_=>none
 |_=>none
noncomputable def qStr (P:Program) (t:TypeId) (u i:Option V):Option V :=
 match u with
 |some (.w (.c (.d (.s s))))=>match i with
  |some (.w (.c (.d (.i _ n))))=>match P.underlying t with
   |some .string=>match decide (0≤n∧n<(s.size:Int))with
    |true=>some (vi .u8 ((s.data.getD n.toNat 0).toNat:Int))
    |false=>none
   |_=>none
  |_=>none
 |_=>none
noncomputable def qLen (P:Program) (t:TypeId) (hp:Hp) (u:Option V):Option V :=
 match P.underlying t with
 |some (.slice _)=>match u with
  |some (.w (.c (.o h)))=>match(jlJ hp h).bind O.cont with
   |some c=>some (vi .i64 (c.n:Int))
   |none=>none
  |some (.w (.c (.d (.v (.slice none 0 0)))))=>some (vi .i64 0)
  |_=>none
 |some .string=>match u with
  |some (.w (.c (.d (.s s))))=>some (vi .i64 (s.size:Int))
  |_=>none
 |_=>none
noncomputable def jzM (P:Program) (c:Call) (rd:Operand→Option V) (hp:Hp):Option V :=
 match c.callee with
 | .builtin .len=>match c.args.toList with
  |[x]=>match c.argTypes.toList with
   |[t]=>qLen P t hp (rd x)
   |_=>none
  |_=>none
 |_=>none
noncomputable def qV (P:Program) (op:Op) (rd:Operand→Option V) (hp:Hp):Option V :=
 match op with
 | .move x=>rd x
 | .assign x=>rd x
 | .binOp o _ x y _=>qBin o (rd x) (rd y)
 | .fieldAddr s x f=>jxx P s f (rd x)
 | .nilCheck x=>qNil (rd x)
 | .unOp .not _ x=>qNot (rd x)
 | .load t x=>jzK P t hp (rd x)
 | .pick c a b=>jzL (rd c) (rd a) (rd b)
 | .extract t i=>qExt (rd t) i
 | .field t x f=>qFld P t f (rd x)
 | .indexAddr t x ix=>qIdx P t hp (rd x) (rd ix)
 | .index t x i=>qStr P t (rd x) (rd i)
 | .call c=>jzM P c rd hp
 |_=>none
theorem jpD {P:Program} {sp:jaa} {op:Op} {rd:Operand→Option V} {hp:Hp} {nx:Nat} {v:V} (h:qV P op rd hp=some v) :
  jfS P sp op rd hp nx=none∧∃ob,ja1 P op rd hp=some (ob,v)∧ob:=by
 have lift:(∃ob,jaX P op rd hp=some (ob,v)∧ob)→∃ob,ja1 P op rd hp=some (ob,v)∧ob:=by
  rintro ⟨ob,h1,h2⟩
  exact⟨ob,by unfold ja1; rw[h1],h2⟩
 unfold qV at h
 split at h
 ·rename_i x
  exact⟨rfl,lift ⟨True,by simp[jaX,h],trivial⟩⟩
 ·rename_i x
  exact⟨rfl,lift ⟨True,by simp[jaX,h],trivial⟩⟩
 ·rename_i o t x y yt
  unfold qBin at h
  split at h
  ·rename_i k a k' b hx hy
   split at h
   ·rename_i hk
    have hk:=of_decide_eq_true hk
    subst hk
    refine⟨by simp[jfS,hx,hy],lift ?_⟩
    unfold qInt at h
    simp only[jaX,hx,hy,V.int?,jff]
    split at h<;>cases h<;>exact⟨_,rfl,trivial⟩
   ·cases h
  ·cases h
 ·rename_i s x f
  unfold jxx at h
  try simp only[jde,jd4]at h
  split at h
  ·rename_i k i e j hx
   split at h
   ·rename_i fs hu
    split at h
    ·rename_i g hg
     split at h
     ·rename_i sz hs
      cases h
      exact⟨rfl,lift ⟨True,by simp only[jaX,hu,hx,hg,hs],trivial⟩⟩
     ·cases h
    ·cases h
   ·cases h
  ·cases h
 ·rename_i x
  unfold qNil at h
  split at h
  ·rename_i hx
   cases h
   exact⟨rfl,lift ⟨True,by simp only[jaX,hx],trivial⟩⟩
  ·cases h
 ·rename_i t x
  unfold qNot at h
  split at h
  ·rename_i b hx
   cases h
   exact⟨rfl,lift ⟨True,by simp[jaX,hx,V.bool?],trivial⟩⟩
  ·cases h
 ·rename_i t x
  unfold jzK at h
  try simp only[jde,jd4]at h
  split at h
  ·rename_i k i e j hx
   split at h
   ·cases h
   ·rename_i e'
    split at h
    ·rename_i hag
     split at h
     ·rename_i sz hs
      split at h
      ·rename_i ty cs hf
       split at h
       ·rename_i c hc
        cases h
        exact⟨rfl,lift ⟨True,by simp[jaX,hx,hf,jcP,hag,hs,jd5,hc],trivial⟩⟩
       ·cases h
      ·rename_i cs hf
       split at h
       ·rename_i c hc
        cases h
        exact⟨rfl,lift ⟨True,by simp[jaX,hx,hf,jcP,hag,hs,jd5,hc],trivial⟩⟩
       ·cases h
      all_goals first
       |(cases h; done)
       |(
         rename_i hf
         split at h
         ·rename_i e1 e2 e3
          have e1:=Nat.eq_of_beq_eq_true e1
          have e2:=Nat.eq_of_beq_eq_true e2
          have e3:=of_decide_eq_true (show decide _=true from by simpa using e3)
          cases h
          obtain rfl:e'=0:=by omega
          subst e2
          exact⟨rfl,lift ⟨_,by simp[jaX,hx,hf,jcP,hag,hs,O.cont,Cont.e,Cont.n,Cont.cell,vi,vb],e3⟩⟩
         ·cases h)
     ·cases h
    ·cases h
  ·cases h
 ·rename_i c x y
  unfold jzL at h
  split at h
  ·rename_i hc
   exact⟨rfl,lift ⟨True,by simp[jaX,hc,V.bool?,h],trivial⟩⟩
  ·rename_i hc
   exact⟨rfl,lift ⟨True,by simp[jaX,hc,V.bool?,h],trivial⟩⟩
  ·cases h
 ·rename_i t i
  unfold qExt at h
  try simp only[jde,jd4]at h
  split at h
  ·rename_i l ht
   split at h
   ·rename_i x hx
    cases h
    exact⟨rfl,lift ⟨True,by simp[jaX,ht,hx],trivial⟩⟩
   ·cases h
  ·cases h
 ·rename_i t x f
  unfold qFld at h
  try simp only[jde,jd4]at h
  split at h
  ·rename_i cs hx
   split at h
   ·rename_i fs hu
    split at h
    ·rename_i g hg
     exact⟨rfl,lift ⟨True,by simp[jaX,hx,hu,hg,V.agg?,h],trivial⟩⟩
    ·cases h
   ·cases h
  ·cases h
 ·rename_i t x ix
  unfold qIdx at h
  try simp only[jde,jd4]at h
  split at h
  ·rename_i k n hi
   split at h
   ·rename_i h' hx
    split at h
    ·rename_i elem hu
     split at h
     ·rename_i c hc
      split at h
      ·rename_i size hs
       split at h
       ·rename_i e1 e2
        have e1:=of_decide_eq_true e1
        have e2:=of_decide_eq_true e2
        cases h
        exact⟨rfl,lift ⟨_,by simp[jaX,hx,hi,hu,hc,hs,V.int?,e1],e2⟩⟩
       ·cases h
      ·cases h
     ·cases h
    ·cases h
   ·cases h
  ·cases h
 ·rename_i t x i
  unfold qStr at h
  split at h
  ·rename_i s hx
   split at h
   ·rename_i k n hi
    split at h
    ·rename_i hu
     split at h
     ·rename_i e2
      have e2:=of_decide_eq_true e2
      cases h
      exact⟨rfl,lift ⟨_,by simp[jaX,hx,hi,hu,V.int?,V.str?],e2⟩⟩
     ·cases h
    ·cases h
   ·cases h
  ·cases h
 ·rename_i c
  unfold jzM at h
  split at h
  ·rename_i hc
   split at h
   ·rename_i x ha
    split at h
    ·rename_i t hat
     refine⟨by simp[jfS,hc],lift ?_⟩
     unfold qLen at h
     try simp only[jde,jd4]at h
     simp only[jaX,hc,ha,hat]
     split at h
     ·rename_i el hu
      split at h
      ·rename_i h' hx
       split at h
       ·rename_i c' hcc
        cases h
        exact⟨True,by simp[hu,hx,hcc],trivial⟩
       ·cases h
      ·rename_i hx
       cases h
       exact⟨True,by simp[hu,hx,V.nils?],trivial⟩
      ·cases h
     ·rename_i hu
      split at h
      ·rename_i s hx
       cases h
       exact⟨True,by simp[hu,hx,V.str?],trivial⟩
      ·cases h
     ·cases h
    ·cases h
   ·cases h
  ·cases h
 ·cases h
end
end Go.Sx
end

section
open Go.RowKit
namespace Go.Sx
noncomputable def stF {α:Type} (j:Nat) (st:St) (k:St→α):α :=
 hpF (fun _=>true) j 0 st.hp fun hp=>fN st.nx fun nx=>k ⟨st.tm,hp,nx⟩
noncomputable def stG {α:Type} (st:St) (k:St→α):α :=
 tmF 0 st.tm fun tm=>fN st.nx fun nx=>k ⟨tm,st.hp,nx⟩
noncomputable def jm7 {α:Type} (tm:List (Nat × V)) (hp:Hp) (nx:Nat) (k:St→α):α :=
 match hp with
 |(h,o)::r=>fO o fun o=>fN nx fun nx=>k ⟨tm,(h,o)::r,nx⟩
 |[]=>fN nx fun nx=>k ⟨tm,[],nx⟩
noncomputable def jpE {α:Type} (o:Oper) (r:Res) (st:St) (k:St→α):α :=
 fV r.v fun v=>putG o.op (st.put o.dst ⟨True,v,r.hp,r.nx⟩) k
where
 putG (op:Op) (st:St) (k:St→α):α :=
  match op with
  | .store _ _ _=>stF 1 st k
  | .call c=>match c.callee with
   | .value _=>fN st.nx fun nx=>k ⟨st.tm,st.hp,nx⟩
   | .builtin .append=>stF 2 st k
   |_=>k st
  | .box _ _=>jm7 st.tm st.hp st.nx k
  | .alloc _=>jm7 st.tm st.hp st.nx k
  | .makeSlice _ _ _=>jm7 st.tm st.hp st.nx k
  | .buildSlice _ _ _=>jm7 st.tm st.hp st.nx k
  | .slice _ _ _ _ _=>jm7 st.tm st.hp st.nx k
  |_=>k st
noncomputable def cOp [Globs] (P:Program) (sp:jaa) (N:Nat) (o:Oper) (st:St):Option St :=
 match jb0 N o.dst with
 |false=>none
 |true =>
  match qV P o.op (rdQ st) st.hp with
  |some v=>fV v fun v=>some (st.put o.dst ⟨True,v,st.hp,st.nx⟩)
  |none=>match jfS P sp o.op (rdQ st) st.hp st.nx with
   |some t=>jpE o t.sel st some
   |none=>match jbI P sp o.op (rdQ st) st.hp st.nx with
    |some r=>match ja7 o.op (rdQ st) st.hp,obB P o.op (rdQ st) st.hp with
     |true,_=>jpE o r st some
     |false,true=>jpE o r st some
     |false,false=>none
    |none=>none
noncomputable def jox (N:Nat) (o:Oper) (st:St):Option St :=
 match jb0 N o.dst with
 |true=>some (st.put o.dst ⟨True,vu,st.hp,st.nx⟩)
 |false=>none
noncomputable def cOne [Globs] (P:Program) (sp:jaa) (N:Nat) (all:List Oper) (o:Oper) (st:St):Option St :=
 match o.guard with
 |none=>cOp P sp N o st
 |some (j,want) =>
  match(jk5 all j).bind (·.dst)with
  |none=>none
  |some t=>match jpC st.tm t with
   |some (.w (.c (.d (.b b))))=>match b,want with
    |true,true=>cOp P sp N o st
    |false,false=>cOp P sp N o st
    |true,false=>jox N o st
    |false,true=>jox N o st
   |some (.w (.c (.d (.v (.tuple _)))))=>jox N o st
   |_=>none
noncomputable def cOps [Globs] (P:Program) (sp:jaa) (N:Nat) (all:List Oper) (l:List Oper) (st:St):Option St :=
 List.rec (motive:=fun _=>St→Option St) (fun st=>some st) (fun o _ ih st=>Option.rec (motive:=fun _=>Option St) none (fun st'=>ih st') (cOne P sp N all o st)) l st
noncomputable def obC [Globs] (P:Program) (op:Op) (rd:Operand→Option V) (hp:Hp) (r:Rec):Option Rec :=
 match ja7 op rd hp,obB P op rd hp with
 |true,_=>fV r.v fun v=>some { r with v:=v }
 |false,true=>fV r.v fun v=>some { r with v:=v }
 |false,false=>none
noncomputable def jfa (q:Nat→Bool) (st0:St) (tr:List Rec) (h:Nat):Bool :=
 List.rec (motive:=fun _=>Bool) true (fun _ tr ih=>Bool.rec (motive:=fun _=>Bool) ih (q tr.length) (Nat.ble (jab st0 tr) h)) tr
theorem jgF (q:Nat→Bool) (st0:St):∀(tr:List Rec) (h:Nat),jfa q st0 tr h=jas q st0 tr h
 |[],_=>rfl
 |_::tr,h=>by
  have ih:=jgF q st0 tr h
  simp only[jas,←ih]
  show Bool.rec (motive:=fun _=>Bool) (jfa q st0 tr h) (q tr.length) (Nat.ble (jab st0 tr) h)=_
  cases Nat.ble (jab st0 tr) h<;>rfl
noncomputable def jds (bef:List Nat) (st0:St) (tr:List Rec) (v:V) (hp:Hp) (nx:Nat):Bool :=
 Nat.ble (jab st0 tr) nx&&v.allB (fun h=>Nat.blt h nx&&(Nat.ble (jab st0 tr) h||jfa (fun j=>bef.contains j) st0 tr h)) &&
  hp.all (fun x=>Nat.blt x.1 nx&&x.2.allB fun h=>Nat.blt h nx&&(Nat.ble (jab st0 tr) h||jfa (fun j=>bef.contains j) st0 tr h))
theorem jk6 (bef:List Nat) (st0:St) (tr:List Rec) (v:V) (hp:Hp) (nx:Nat):jds bef st0 tr v hp nx=jaZ bef st0 tr v hp nx:=by
 unfold jds jaZ
 rw[show jfa (fun j=>bef.contains j) st0 tr=jas (fun j=>bef.contains j) st0 tr from funext (jgF _ _ tr)]
noncomputable def jlK (bef:List Nat) (st0:St) (tr:List Rec):Hp :=
 match jcS bef tr with
 |true=>(jam st0 tr).filter fun x=>jfa (fun j=>bef.contains j) st0 tr x.1
 |false=>(jam st0 tr).filter fun x=>jfa (fun j=>bef.contains j) st0 tr x.1&&jbo st0 bef x.1 tr
theorem jyP (bef:List Nat) (st0:St) (tr:List Rec):jlK bef st0 tr=jc4 bef st0 tr:=by
 unfold jlK jc4
 rw[show jfa (fun j=>bef.contains j) st0 tr=jas (fun j=>bef.contains j) st0 tr from funext (jgF _ _ tr)]
 cases jcS bef tr<;>rfl
def jq5 (L:List Oper) (t:Nat):Nat→Option Nat
 |0=>none
 |i+1=>match jbG L i with
  |some d=>if d=t then some i else jq5 L t i
  |none=>jq5 L t i
def jeo (L:List Oper) (bef:List Nat) (i t:Nat):Bool :=
 match jq5 L t i with
 |some j=>bef.contains j
 |none=>true
def jim (L:List Oper) (tab:List (List Nat)):Nat→List Oper→Bool
 |_,[]=>true
 |i,o::r=>(jaq L o).all (fun t=>jeo L (tab.getD i []) i t)&&jim L tab (i+1) r
noncomputable def rdF [Globs] (st0:St) (nm:List Nat) (tm:List (Nat × V)):Operand→Option V
 | .tmp t=>match nm.contains t with
  |true=>jpC tm t
  |false=>none
 |x=>jb1 st0 x
def mkF [Globs] (L:List Oper) (tab:List (List Nat)) (st0:St) (o:Oper) (n:Nat) (tr:List Rec):Option Bool :=
 match ja3 tab n false false 0 L with
 |true=>some false
 |false=>jpb L tab st0 o tr
noncomputable def jv9 (P:Program) (op:Op) (rd:Operand→Option V) (bef:List Nat) (st0:St) (tr:List Rec):Option Rec :=
 match qLoadOp op with
 |true=>match loadAt op rd with
  |none=>none
  |some h=>match jlJ (jam st0 tr) h with
   |none=>none
   |some x=>match jfa (fun j=>bef.contains j) st0 tr h&&jbo st0 bef h tr with
    |false=>none
    |true=>match qV P op rd [(h,x)]with
     |some v=>fV v fun v=>match jds bef st0 tr v [] (jab st0 tr)with
      |true=>some ⟨v,jam st0 tr,jab st0 tr,0,[],none⟩
      |false=>none
     |none=>none
 |false=>none
where
 qLoadOp:Op→Bool
  | .load _ _=>true
  | .indexAddr _ _ _=>true
  | .call c=>match c.callee with
   | .builtin .len=>true
   |_=>false
  |_=>false
noncomputable def qdop (P:Program) (op:Op) (rd:Operand→Option V) (hp:Hp) (bef:List Nat) (st0:St) (tr:List Rec):Option Rec :=
 match qV P op rd hp with
 |some v=>fV v fun v=>match jds bef st0 tr v [] (jab st0 tr)with
  |true=>some ⟨v,jam st0 tr,jab st0 tr,0,[],none⟩
  |false=>none
 |none=>none
noncomputable def jm8 [Globs] (P:Program) (sp:jaa) (N:Nat) (L:List Oper) (tab:List (List Nat)) (st0:St) (o:Oper) (n:Nat) (bef:List Nat) (rd:Operand→Option V) (tr:List Rec):Option Rec :=
 match jb0 N o.dst with
 |false=>none
 |true =>
  match qdop P o.op rd [] bef st0 tr with
  |some r=>some r
  |none =>
  match ja1 P o.op rd []with
  |some (_,v)=>match jds bef st0 tr v [] (jab st0 tr)with
   |true=>obC P o.op rd [] ⟨v,jam st0 tr,jab st0 tr,0,[],none⟩
   |false=>none
  |none =>
   match jaw o.op with
   |true=>match jkm o.op with
    |true=>match ja1 P o.op rd (jfo bef st0 tr)with
     |some (_,v)=>match jds bef st0 tr v [] (jab st0 tr)with
      |true=>obC P o.op rd (jfo bef st0 tr) ⟨v,jam st0 tr,jab st0 tr,0,[],none⟩
      |false=>none
     |none=>none
    |false=>none
   |false =>
    match jaE o.op with
    |true=>match jv9 P o.op rd bef st0 tr with
     |some r=>some r
     |none=>match loadAt o.op rd with
     |none=>none
     |some h=>match find (jam st0 tr) h with
      |none=>none
      |some x=>match jfa (fun j=>bef.contains j) st0 tr h&&jbo st0 bef h tr with
       |false=>none
       |true=>match ja1 P o.op rd [(h,x)]with
        |none=>match je4 tab n 0 L&&jcS bef tr&&jao sp o.op rd with
         |false=>none
         |true=>match jbI P sp o.op rd (jlK bef st0 tr) (jab st0 tr)with
          |some res=>match jds bef st0 tr res.v (jaT (jab st0 tr) res.hp) res.nx with
           |true=>obCall P sp o.op rd (jlK bef st0 tr) ⟨res.v,jaT (jab st0 tr) res.hp++jam st0 tr,res.nx,1,jaT (jab st0 tr) res.hp,none⟩
           |false=>none
          |none=>none
        |some (_,v)=>match jds bef st0 tr v [] (jab st0 tr)with
         |true=>obC P o.op rd [(h,x)] ⟨v,jam st0 tr,jab st0 tr,0,[],none⟩
         |false=>none
    |false =>
    match jao sp o.op rd with
    |true=>match jbI P sp o.op rd (jlK bef st0 tr) (jab st0 tr)with
     |some res=>match jds bef st0 tr res.v (jaT (jab st0 tr) res.hp) res.nx&&jnZ bef tr (jaT (jab st0 tr) res.hp)with
      |true=>obCall P sp o.op rd (jlK bef st0 tr) ⟨res.v,jaT (jab st0 tr) res.hp++jam st0 tr,res.nx,1,jaT (jab st0 tr) res.hp,none⟩
      |false=>none
     |none=>none
    |false=>match mkF L tab st0 o n tr with
     |none=>none
     |some mk=>match jbI P sp o.op rd (jam st0 tr) (jab st0 tr)with
      |some res=>match jds bef st0 tr res.v res.hp res.nx&&jpc L tab st0 o tr mk res.hp with
       |true=>obCall P sp o.op rd (jam st0 tr) ⟨res.v,res.hp,res.nx,2,[],jbt L tab st0 o tr⟩
       |false=>none
      |none=>none
where
 obCall [Globs] (P:Program) (sp:jaa) (op:Op) (rd:Operand→Option V) (hp:Hp) (r:Rec):Option Rec :=
  match op with
  | .call c=>match c.callee with
   | .value _=>fV r.v fun v=>some { r with v:=v }
   |_=>obC P op rd hp r
  |op=>obC P op rd hp r
noncomputable def jk7 (N:Nat) (st0:St) (o:Oper) (tr:List Rec):Option Rec :=
 match jb0 N o.dst with
 |false=>none
 |true=>some ⟨vu,jam st0 tr,jab st0 tr,0,[],none⟩
def jjn (o:Oper) (r:Rec) (tm:List (Nat × V)):List (Nat × V) :=
 match o.dst with
 |some d=>(d,r.v)::tm
 |none=>tm
noncomputable def jep [Globs] (P:Program) (sp:jaa) (N:Nat) (L:List Oper) (tab:List (List Nat)) (st0:St):List Oper→Nat→List (Nat × V)→List Rec→Option (List (Nat × V) × List Rec)
 |[],_,tm,tr=>some (tm,tr)
 |o::rest,n,tm,tr =>
  match o.guard with
  |none=>match jm8 P sp N L tab st0 o n (tab.getD n []) (rdF st0 (jaq L o) tm) tr with
   |some r=>jep P sp N L tab st0 rest (n+1) (jjn o r tm) (r::tr)
   |none=>none
  |some (g,want) =>
   match jbG L g with
   |none=>none
   |some t =>
    match jpC tm t with
    |some (.w (.c (.d (.b b)))) =>
     match b,want with
     |true,true=>match jm8 P sp N L tab st0 o n (tab.getD n []) (rdF st0 (jaq L o) tm) tr with
      |some r=>jep P sp N L tab st0 rest (n+1) (jjn o r tm) (r::tr)
      |none=>none
     |true,false=>match jk7 N st0 o tr with
      |some r=>jep P sp N L tab st0 rest (n+1) (jjn o r tm) (r::tr)
      |none=>none
     |false,true=>match jk7 N st0 o tr with
      |some r=>jep P sp N L tab st0 rest (n+1) (jjn o r tm) (r::tr)
      |none=>none
     |false,false=>match jm8 P sp N L tab st0 o n (tab.getD n []) (rdF st0 (jaq L o) tm) tr with
      |some r=>jep P sp N L tab st0 rest (n+1) (jjn o r tm) (r::tr)
      |none=>none
    |some (.w (.c (.d (.v (.tuple _)))))=>match jk7 N st0 o tr with
     |some r=>jep P sp N L tab st0 rest (n+1) (jjn o r tm) (r::tr)
     |none=>none
    |_=>none
noncomputable def jxy [Globs] (P:Program) (sp:jaa) (N:Nat) (ops:Array Oper) (st:St):Option St :=
 match jb4 ops.toList (jgr ops.toList []) 0 ops.toList&&jdi 0 ops.toList&&jim ops.toList (jgr ops.toList []) 0 ops.toList with
 |true=>match jep P sp N ops.toList (jgr ops.toList []) st ops.toList 0 st.tm []with
  |some (tm,tr)=>some ⟨tm,jam st tr,jab st tr⟩
  |none=>none
 |false=>none
noncomputable def jwa [Globs] (P:Program) (sp:jaa) (N:Nat) (ops:Array Oper) (st:St):Option St :=
 match jrO ops.toList with
 |[]=>jxy P sp N ops st
 |_::_=>none
noncomputable def joy (body:St→Option (Ex × St)) (n:Nat) (st:St):Option (Ex × St) :=
 Nat.rec (motive:=fun _=>St→Option (Ex × St)) (fun _=>none) (fun _ ih st=>match body st with
  |some (.normal,st')=>stG st' fun st'=>ih st'
  |x=>x) n st
noncomputable def jwb [Globs] (P:Program) (sp:jaa) (N:Nat) (ops:Array Oper) (draw:Bool) (st:St):Option (Ex × St) :=
 match draw with
 |false=>match cOps P sp N ops.toList ops.toList st with
  |some st'=>some (.normal,st')
  |none=>none
 |true=>match jwa P sp N ops st with
  |some st'=>stF 3 st' fun st'=>some (.normal,st')
  |none=>none
noncomputable def jcB (r:Option (Ex × St)) (y:St→Option (Ex × St)):Option (Ex × St) :=
 match r with
 |some (.normal,st')=>y st'
 |x=>x
noncomputable def jsx [Globs] (c:Operand) (x y:St→Option (Ex × St)) (st:St):Option (Ex × St) :=
 match rdQ st c with
 |some (.w (.c (.d (.b true))))=>x st
 |some (.w (.c (.d (.b false))))=>y st
 |_=>none
noncomputable def jpF (id:Nat) (r:Option (Ex × St)):Option (Ex × St) :=
 match r with
 |some (.exit j,st')=>match Nat.beq j id with
  |true=>some (.normal,st')
  |false=>some (.exit j,st')
 |x=>x
noncomputable def cx [Globs] (P:Program) (sp:jaa) (N fuel:Nat) (c:Code):St→Option (Ex × St) :=
 Code.rec (motive:=fun _=>St→Option (Ex × St)) (fun st=>some (.normal,st)) (fun _ ops draw st=>jwb P sp N ops draw st)
  (fun _ _ x y st=>jcB (x st) y) (fun c _ _ x y st=>jsx c x y st) (fun id _ x st=>jpF id (x st)) (fun _ x st=>joy x fuel st)
  (fun _ _ _ _ _ _ _=>none) (fun id st=>some (.exit id,st)) (fun _ _ _=>none) (fun _ st=>some (.normal,st)) (fun _ _=>none) (fun st=>some (.ret,st)) (fun _ _=>none) c
def jpG (P:Program) (st:St):ResultVar→Option W
 | .tmp t=>match jaD st.tm t with
  |some (.w u)=>some u
  |_=>none
 | .cell t ty=>match jaD st.tm t with
  |some (.w (.c (.p h i e j)))=>match find st.hp h with
   |some o=>match jcP P ty o i e j,jv1 P ty o i e j with
    |some (_,.w u),true=>some u
    |_,_=>none
   |none=>none
  |_=>none
def jdm (P:Program) (st:St):List ResultVar→Option (List W)
 |[]=>some []
 |r::rs=>match jpG P st r,jdm P st rs with
  |some x,some l=>some (x::l)
  |_,_=>none
noncomputable def outF {α:Type} (n0:Nat) (v:V) (st:St) (k:Hp→α):α :=
 jil n0 st.hp 6 (jq4 v 0) fun m=>hpF (fun h=>Nat.blt h n0||Nat.testBit m h) 0 0 st.hp k
def jgG (hp:Hp) (v:V):V :=
 match v with
 | .w (.c (.o h))=>match find hp h with
  |some (.box _ _)=>.w (.c (.p h 0 1 0))
  |some (.ebox _)=>.w (.c (.p h 0 1 0))
  |some (.arr _ _ _ _)=>.w (.c (.p h 0 1 0))
  |_=>.w (.c (.o h))
 |v=>v
noncomputable def inl [Globs] (P:Program) (sp:jaa) (fn:Func) (body:Code) (fuel:Nat):Spec:=fun args hp nx =>
 match Nat.ble args.length fn.ntmps with
 |false=>none
 |true=>match cx P sp fn.ntmps fuel body ⟨jcc 0 (args.map (jgG hp)),hp,nx⟩with
  |some (e,st)=>match e with
   | .exit _=>none
   |_=>match jdm P st fn.results.toList,Nat.ble nx st.nx with
    |some l,true=>fV (jaU l) fun v=>outF nx v st fun hp'=>some (.leaf ⟨True,v,hp',st.nx⟩)
    |_,_=>none
  |none=>none
def roO:O→O
 | .row _ c=>extR c
 | .ext c=>extR c
 | .view _ c _=>extR c
 | .rrow c=>extR c
 | .fext c=>extR c
 | .sub _ _ _ _ _ c=>extR c
 | .box _ cs=>.ebox cs
 | .ebox cs=>.ebox cs
 | .lbox _ e n cs=>lstR e n cs
 | .lview _ e n cs=>lstR e n cs
 | .elist e n cs=>.elist e n cs
 | .xext x=>.xext x
 |_=>.dead
where
 extR (c:Cont):O:=match c.e with
  |0=>.dead
  |_+1=>.ext c
 lstR (e n:Nat) (cs:List C):O:=match e with
  |0=>.dead
  |e+1=>.elist (e+1) n cs
def jfJ (hp:Hp):Hp:=hp.map fun x=>(x.1,roO x.2)
noncomputable def outN {α:Type} (n0:Nat) (v:V) (st:St) (k:Hp→α):α :=
 jil n0 st.hp 6 (jq4 v 0) fun m=>hpF (fun h=>Nat.ble n0 h&&Nat.testBit m h) 0 0 st.hp k
def jsy (v:V) (hp:Hp) (nx:Nat) (hp':Hp):Option RT :=
 match hp'.all (fun x=>jeF x.2)with
 |true=>some (.leaf ⟨True,v,hp' ++ hp,nx⟩)
 |false=>none
noncomputable def jsz [Globs] (P:Program) (sp:jaa) (fn:Func) (body:Code) (fuel:Nat):Spec:=fun args hp nx =>
 match Nat.ble args.length fn.ntmps with
 |false=>none
 |true=>match cx P sp fn.ntmps fuel body ⟨jcc 0 (args.map (jgG hp)),jfJ hp,nx⟩with
  |some (e,st)=>match e with
   | .exit _=>none
   |_=>match jdm P st fn.results.toList,Nat.ble nx st.nx with
    |some l,true=>fV (jaU l) fun v=>outN nx v st (jsy v hp st.nx)
    |_,_=>none
  |none=>none
noncomputable def jm9 [Globs] (P:Program) (ov:jaa) (ro:Nat→Bool) (fuel:Nat):Nat→jaa
 |0=>fun _=>none
 |n+1=>fun f=>match ov f with
  |some x=>some x
  |none=>match P.funcs[f]? with
   |some fn=>match fn.body,fn.name == "runtime.NumGoroutine" with
    |some body,false=>match ro f with
     |true=>some (true,jsz P (jm9 P ov ro fuel n) fn body fuel)
     |false=>some (false,inl P (jm9 P ov ro fuel n) fn body fuel)
    |_,_=>none
   |none=>none
end Go.Sx
end

section
open Go.RowKit
namespace Go.Sx
structure SubSt (s s0:St):Prop where
 tm:∀t v,jaD s.tm t=some v→jaD s0.tm t=some v
 hp:∀h o,find s.hp h=some o→find s0.hp h=some o
 nx:s.nx=s0.nx
theorem SubSt.refl (s:St):SubSt s s:=⟨fun _ _ h=>h,fun _ _ h=>h,rfl⟩
theorem SubSt.trans {a b c:St} (h:SubSt a b) (k:SubSt b c):SubSt a c:=⟨fun t v x=>k.tm t v (h.tm t v x),fun t v x=>k.hp t v (h.hp t v x),h.nx.trans k.nx⟩
theorem jna {α:Type} (j:Nat) (st:St) (k:St→α):∃s,stF j st k=k s∧SubSt s st:=by
 unfold stF
 obtain⟨hp',h1,h2⟩:=jgE (live:=fun _=>true) st.hp j 0 (fun hp=>fN st.nx fun nx=>k ⟨st.tm,hp,nx⟩)
 exact⟨⟨st.tm,hp',st.nx⟩,by rw[h1,jbs],fun _ _ h=>h,fun h o hf=>(h2 h o hf).1,rfl⟩
theorem jyS {α:Type} (st:St) (k:St→α):∃s,stG st k=k s∧SubSt s st:=by
 unfold stG
 obtain⟨tm',h1,h2⟩:=jm6 st.tm 0 (fun tm=>fN st.nx fun nx=>k ⟨tm,st.hp,nx⟩)
 exact⟨⟨tm',st.hp,st.nx⟩,by rw[h1,jbs],fun t v hf=>(h2 t v hf).1,fun _ _ h=>h,rfl⟩
theorem jfx {α:Type} (tm:List (Nat × V)) (hp:Hp) (nx:Nat) (k:St→α):jm7 tm hp nx k=k ⟨tm,hp,nx⟩:=by
 unfold jm7
 cases hp with
 |nil=>exact jbs _ _
 |cons x r =>
  obtain⟨h,o⟩:=x
  show fO o _=_
  rw[jv5,jbs]
theorem jqa {α:Type} (o:Oper) (r:Res) (st:St) (k:St→α):∃s,jpE o r st k=k s∧SubSt s (st.put o.dst r):=by
 have e:st.put o.dst ⟨True,r.v,r.hp,r.nx⟩=st.put o.dst r:=by cases o.dst<;>rfl
 unfold jpE
 rw[jcV,e]
 unfold jpE.putG
 split
 ·exact jna _ _ _
 ·split
  ·rw[jbs]; exact⟨_,rfl,SubSt.refl _⟩
  ·exact jna _ _ _
  ·exact⟨_,rfl,SubSt.refl _⟩
 ·exact⟨_,jfx _ _ _ _,SubSt.refl _⟩
 ·exact⟨_,jfx _ _ _ _,SubSt.refl _⟩
 ·exact⟨_,jfx _ _ _ _,SubSt.refl _⟩
 ·exact⟨_,jfx _ _ _ _,SubSt.refl _⟩
 ·exact⟨_,jfx _ _ _ _,SubSt.refl _⟩
 ·exact⟨_,rfl,SubSt.refl _⟩
def jbJ (sp:jaa):Prop:=∀f M S args hp nx t,sp f=some (M,S)→S args hp nx=some t→t.sel.ob
section
variable [Globs] {P:Program} {B:Kd} {N n0:Nat} {sp:jaa} {ρ ρ0:Env} {w w0:World} {a:Act} {st:St} {ds:List Deferred}
theorem RelD.subSt {s:St} (h:RelD ds ρ B N n0 st a w) (hs:SubSt s st):RelD ds ρ B N n0 s a w:=by
 obtain⟨B1,g,hh⟩:=h.heap
 refine⟨fun t v hv=>?_,h.size,h.defers,⟨B1,g,?_⟩,h.le,by rw[hs.nx]; exact h.n0⟩
 ·rw[hs.nx]; exact h.tm t v (hs.tm t v hv)
 ·rw[hs.nx]; exact hh.sub fun k o hf=>hs.hp k o hf
theorem jwd {op:Op} {rd:Operand→Option V} {hp:Hp} {nx:Nat} {t:RT} (hfr:jbJ sp) (h:jfS P sp op rd hp nx=some t):t.sel.ob:=by
 unfold jfS at h
 split at h
 ·split at h
  ·split at h
   ·rename_i r _ _
    cases h
    cases r.isSome<;>trivial
   ·cases h
  ·cases h
 ·split at h
  ·rename_i b _ _ _
   cases h
   cases jo3 b<;>trivial
  ·cases h
 ·split at h
  ·split at h
   ·split at h
    ·rename_i hsg
     exact hfr _ _ _ _ _ _ _ hsg h
    ·cases h
   ·split at h
    ·rename_i hsg
     exact hfr _ _ _ _ _ _ _ hsg h
    ·cases h
   ·cases h
  ·cases h
 ·cases h
theorem RT.sel_run:∀{t:RT} {k:Res→Prop},k t.sel→t.run k
 | .leaf _,_,h=>h
 | .br b x y,k,h=>by
  cases b
  ·exact RT.sel_run (t:=y) h
  ·exact RT.sel_run (t:=x) h
theorem jyT {o:Oper} {st':St} (hfr:jbJ sp) (h:cOp P sp N o st=some st'):∃s0,SubSt st' s0∧jgp P sp N o st fun s=>s=s0:=by
 unfold cOp at h
 rw[jxw]at h
 split at h
 ·cases h
 ·rename_i hd
  split at h
  ·rename_i v hq
   rw[jcV]at h
   cases h
   obtain⟨hT,ob,hV,hob⟩:=jpD (P:=P) (sp:=sp) (nx:=st.nx) hq
   refine⟨_,SubSt.refl _,?_⟩
   unfold jgp
   rw[hT]
   have hs:jbI P sp o.op (jb1 st) st.hp st.nx=some ⟨ob,v,st.hp,st.nx⟩:=by unfold jbI; rw[hV]
   simp only[hs,hd]
   have e:st.put o.dst ⟨ob,v,st.hp,st.nx⟩=st.put o.dst ⟨True,v,st.hp,st.nx⟩:=by cases o.dst<;>rfl
   split
   ·exact e
   ·exact⟨⟨hob⟩,e⟩
  ·split at h
   ·rename_i t ht
    obtain⟨s,h1,h2⟩:=jqa o t.sel st some
    rw[h1]at h
    cases h
    refine⟨_,h2,?_⟩
    unfold jgp
    simp only[ht,hd]
    exact RT.sel_run ⟨⟨jwd hfr ht⟩,rfl⟩
   ·rename_i hT
    split at h
    ·rename_i r hr
     obtain⟨s,h1,h2⟩:=jqa o r st some
     split at h
     ·rename_i ht
      rw[h1]at h
      cases h
      refine⟨_,h2,?_⟩
      unfold jgp
      simp only[hT,hr,hd,ht]
     ·rename_i ht hb
      rw[h1]at h
      cases h
      refine⟨_,h2,?_⟩
      unfold jgp
      simp only[hT,hr,hd,ht]
      exact⟨⟨b_ob hb hr⟩,trivial⟩
     ·cases h
    ·cases h
theorem jk8 {o:Oper} {st':St} {K:Act→World→Prop} {Q:Exit→Act→World→Prop} (hsp:jac P sp) (hfr:jbJ sp) (hr:RelD ds ρ B N n0 st a w) (hag:jae n0 ρ0 ρ) (hbl:Bel B w0 w) (h:cOp P sp N o st=some st')
  (hK:∀ρ' a' w',RelD ds ρ' B N n0 st' a' w'→jae n0 ρ0 ρ'→Bel B w0 w'→K a' w'):o.wp P a w K Q:=by
 obtain⟨s0,h1,h2⟩:=jyT hfr h
 refine jeb hsp hr hag hbl h2 fun ρ' s a' w' q1 q2 q3 q4=>?_
 subst q4
 exact hK ρ' a' w' (q1.subSt h1) q2 q3
theorem jhK {o:Oper} {st':St} {K:Act→World→Prop} (hr:RelD ds ρ B N n0 st a w) (hag:jae n0 ρ0 ρ) (hbl:Bel B w0 w) (h:jox N o st=some st')
  (hK:∀ρ' a' w',RelD ds ρ' B N n0 st' a' w'→jae n0 ρ0 ρ'→Bel B w0 w'→K a' w'):K (a.put o.dst undef) w:=by
 unfold jox at h
 split at h
 ·rename_i hd
  cases h
  exact hK ρ _ w (hr.skip hd) hag hbl
 ·cases h
theorem joz {all:List Oper} {st':St} {Q:Exit→Act→World→Prop} (hsp:jac P sp) (hfr:jbJ sp)
  (hQ:∀ρ' a' w',RelD ds ρ' B N n0 st' a' w'→jae n0 ρ0 ρ'→Bel B w0 w'→Q .normal a' w') :
  ∀(l:List Oper) (ρ:Env) (st:St) (a:Act) (w:World),RelD ds ρ B N n0 st a w→jae n0 ρ0 ρ→Bel B w0 w→cOps P sp N all l st=some st'→wpList P all.toArray Q l a w
 |[],ρ,st,a,w,hr,hag,hbl,h=>by
  cases (show some st=some st' from h)
  exact hQ ρ a w hr hag hbl
 |o::r,ρ,st,a,w,hr,hag,hbl,h=>by
  have h:Option.rec (motive:=fun _=>Option St) none (fun st1=>cOps P sp N all r st1) (cOne P sp N all o st)=some st':=h
  cases h1:cOne P sp N all o st with
  |none=>rw[h1]at h; cases h
  |some st1 =>
   rw[h1]at h
   have h:cOps P sp N all r st1=some st':=h
   have ih:=fun ρ' a' w' (h1:RelD ds ρ' B N n0 st1 a' w') h2 h3=>joz (all:=all) hsp hfr hQ r ρ' st1 a' w' h1 h2 h3 h
   unfold wpList
   unfold cOne at h1
   split at h1
   ·rename_i hg
    have hw:Region.wanted o (yielded all.toArray a.tmps)=true:=by simp[Region.wanted,hg]
    rw[if_pos hw]
    exact .inl (jk8 hsp hfr hr hag hbl h1 ih)
   ·rename_i j want hg
    have hwanted:∀ob,yielded all.toArray a.tmps j=ob→Region.wanted o (yielded all.toArray a.tmps)=(ob==some want):=fun ob hob=>by simp[Region.wanted,hg,hob]
    rw[jd4]at h1
    split at h1
    ·cases h1
    ·rename_i t ht
     rw[jik]at h1
     split at h1
     ·rename_i b hget
      have hgo:jeD all j st=some (t,.w (.c (.d (.b b)))):=by unfold jeD; rw[ht]; simp[hget]
      obtain⟨hy,_⟩:=jdx hr hgo (.inr rfl)
      have hw:=hwanted _ hy
      have hval:(V.w (.c (.d (.b b)))).val ρ=.bool b:=rfl
      rw[hval]at hw
      cases b<;>cases want<;>dsimp only at h1
      ·rw[if_pos (by rw[hw]; rfl)]
       exact .inl (jk8 hsp hfr hr hag hbl h1 ih)
      ·rw[if_neg (by rw[hw]; simp)]
       exact jhK hr hag hbl h1 ih
      ·rw[if_neg (by rw[hw]; simp)]
       exact jhK hr hag hbl h1 ih
      ·rw[if_pos (by rw[hw]; rfl)]
       exact .inl (jk8 hsp hfr hr hag hbl h1 ih)
     ·rename_i vs hget
      have hgo:jeD all j st=some (t,.w (.c (.d (.v (.tuple vs))))):=by unfold jeD; rw[ht]; simp[hget]
      obtain⟨hy,_⟩:=jdx hr hgo (.inr rfl)
      have hw:=hwanted _ hy
      have hval:(V.w (.c (.d (.v (.tuple vs))))).val ρ=.tuple vs:=rfl
      rw[hval]at hw
      rw[if_neg (by rw[hw]; simp)]
      exact jhK hr hag hbl h1 ih
     ·cases h1
end
end Go.Sx
end

section
open Go.RowKit
namespace Go.Sx
section
variable [Globs] {P:Program} {B:Kd} {N n0:Nat} {sp:jaa} {ρ ρ0:Env} {w w0:World} {a:Act} {st:St} {ds:List Deferred}
theorem jfy {t:Bool} {ob k:Prop} (h:t=true∨ob) (hk:k):obT t ob k:=by
 cases t with
 |true=>exact hk
 |false=>exact⟨⟨h.elim (fun h=>by cases h) id⟩,hk⟩
theorem jjo {op:Op} {rd:Operand→Option V} {hp:Hp} {r r':Rec} (h:obC P op rd hp r=some r'):r'=r∧(ja7 op rd hp=true∨obB P op rd hp=true):=by
 unfold obC at h
 split at h
 ·rename_i ht
  rw[jcV]at h
  cases h
  exact⟨rfl,.inl ht⟩
 ·rename_i ht hb
  rw[jcV]at h
  cases h
  exact⟨rfl,.inr hb⟩
 ·cases h
theorem jwe {op:Op} {rd:Operand→Option V} {hp:Hp} {ob:Prop} {v:V} (ht:obB P op rd hp=true) (h:ja1 P op rd hp=some (ob,v)):ob:=by
 unfold ja1 at h
 split at h
 ·rename_i p hp0
  cases h
  exact jxu ht hp0
 ·exact jzF ht h
theorem jhL {op:Op} {rd:Operand→Option V} {hp:Hp} {nx:Nat} {r r':Rec} {res:Res} (hfr:jbJ sp) (hs:jbI P sp op rd hp nx=some res) (h:jm8.obCall P sp op rd hp r=some r'):r'=r∧(ja7 op rd hp=true∨res.ob):=by
 unfold jm8.obCall at h
 have gen:obC P op rd hp r=some r'→r'=r∧(ja7 op rd hp=true∨res.ob):=fun h=>by
  obtain⟨h1,h2⟩:=jjo h
  exact⟨h1,h2.imp id fun hb=>b_ob hb hs⟩
 split at h
 ·rename_i c
  split at h
  ·rename_i f hc
   rw[jcV]at h
   cases h
   refine⟨rfl,.inr ?_⟩
   have h1:ja1 P (.call c) rd hp=none:=by simp[ja1,jaX,je1,hc]
   have h2:jcR P (.call c) rd hp nx=none:=by simp[jcR]
   have h3:jdt P (.call c) rd hp nx=none:=by simp[jdt]
   have h4:jd8 P (.call c) rd hp nx=none:=by simp[jd8,hc]
   have h5:jdv P (.call c) rd hp nx=none:=by simp[jdv,hc]
   have h6:jdu P (.call c) rd hp nx=none:=by simp[jdu,hc]
   unfold jbI at hs
   simp only[h1,h2,h3,h4,h5,h6]at hs
   unfold jgZ at hs
   dsimp only at hs
   simp only[hc]at hs
   split at hs
   ·split at hs
    ·rename_i M S hsg
     obtain⟨t,ht,hl⟩:=Option.bind_eq_some_iff.1 hs
     have:=hfr _ _ _ _ _ _ _ hsg ht
     cases t with
     |leaf r0=>cases hl; exact this
     |br=>cases hl
    ·cases hs
   ·split at hs
    ·rename_i M S hsg
     obtain⟨t,ht,hl⟩:=Option.bind_eq_some_iff.1 hs
     have:=hfr _ _ _ _ _ _ _ hsg ht
     cases t with
     |leaf r0=>cases hl; exact this
     |br=>cases hl
    ·cases hs
   ·cases hs
  ·exact gen h
 ·exact gen h
theorem jxz {op:Op} {rd:Operand→Option V} {hp:Hp} {bef:List Nat} {st0:St} {tr:List Rec} {r:Rec} (h:qdop P op rd hp bef st0 tr=some r) :
  ∃v ob,ja1 P op rd hp=some (ob,v)∧ob∧jaZ bef st0 tr v [] (jab st0 tr)=true∧r=⟨v,jam st0 tr,jab st0 tr,0,[],none⟩:=by
 unfold qdop at h
 split at h
 ·rename_i v hq
  rw[jcV]at h
  split at h
  ·rename_i ho
   cases h
   rw[jk6]at ho
   obtain⟨_,ob,h1,h2⟩:=jpD (P:=P) (sp:=fun _=>none) (nx:=0) hq
   exact⟨v,ob,h1,h2,ho,rfl⟩
  ·cases h
 ·cases h
theorem jwf {op:Op} {rd:Operand→Option V} {bef:List Nat} {st0:St} {tr:List Rec} {r:Rec} (h:jv9 P op rd bef st0 tr=some r) :
  ∃h x v ob,loadAt op rd=some h∧find (jam st0 tr) h=some x∧(jas (fun j=>bef.contains j) st0 tr h&&jbo st0 bef h tr)=true∧ja1 P op rd [(h,x)]=some (ob,v)∧ob∧jaZ bef st0 tr v [] (jab st0 tr)=true∧r=⟨v,jam st0 tr,jab st0 tr,0,[],none⟩:=by
 unfold jv9 at h
 split at h
 ·split at h
  ·cases h
  ·rename_i k hk
   split at h
   ·cases h
   ·rename_i x hx
    rw[jde]at hx
    split at h
    ·cases h
    ·rename_i hb
     rw[jgF]at hb
     split at h
     ·rename_i v hq
      rw[jcV]at h
      split at h
      ·rename_i ho
       cases h
       rw[jk6]at ho
       obtain⟨_,ob,h1,h2⟩:=jpD (P:=P) (sp:=fun _=>none) (nx:=0) hq
       exact⟨k,x,v,ob,hk,hx,hb,h1,h2,ho,rfl⟩
      ·cases h
     ·cases h
 ·cases h
theorem joA {tab:List (List Nat)} {i:Nat} {lf:Bool}:∀{l:List Oper} {k:Nat},ja3 tab i false false k l=true→ja3 tab i lf false k l=true
 |[],_,_=>rfl
 |o::r,k,h=>by
  simp only[ja3,Bool.and_eq_true,Bool.or_eq_true]at h ⊢
  refine⟨?_,joA h.2⟩
  rcases h.1 with ((((h1|h1)|h1)|h1)|h1)|h1
  ·exact .inl (.inl (.inl (.inl (.inl h1))))
  ·exact .inl (.inl (.inl (.inl (.inr h1))))
  ·exact .inl (.inl (.inl (.inr h1)))
  ·exact .inl (.inl (.inr h1))
  ·cases h1.1
  ·cases h1.1.1
theorem jAX {L:List Oper} {tab:List (List Nat)} {st0:St} {o:Oper} {tr:List Rec}:mkF L tab st0 o tr.length tr=jpb L tab st0 o tr:=by
 unfold mkF
 split
 ·rename_i h
  unfold jpb
  rw[joA h]
 ·rfl
theorem jlL {L:List Oper} {bef:List Nat} {st0:St} {t:Nat}:∀{tr:List Rec},jeo L bef tr.length t=true→jbY L bef st0 t tr=jaD (jdH L st0 tr) t
 |[],_=>rfl
 |r::tr,h=>by
  unfold jeo at h
  simp only[List.length_cons,jq5]at h
  simp only[jbY,jdH]
  cases hd:jbG L tr.length with
  |none =>
   rw[hd]at h
   dsimp only at h ⊢
   exact jlL (by unfold jeo; exact h)
  |some d =>
   rw[hd]at h
   dsimp only at h ⊢
   by_cases e:d=t
   ·rw[if_pos e]at h ⊢
    dsimp only at h
    rw[h]
    simp only[jaD,if_pos e]
   ·rw[if_neg e]at h ⊢
    simp only[jaD,if_neg e]
    exact jlL (by unfold jeo; exact h)
theorem jk9 {L:List Oper} {tab:List (List Nat)}:∀{l:List Oper} {k:Nat},jim L tab k l=true→∀m o,l[m]?=some o→∀t∈jaq L o,jeo L (tab.getD (k+m) []) (k+m) t=true
 |[],_,_,_,_,h=>by simp at h
 |o' :: r,k,hs,m,o,h=>by
  simp only[jim,Bool.and_eq_true]at hs
  cases m with
  |zero =>
   simp at h
   subst h
   exact fun t ht=>List.all_eq_true.1 hs.1 t ht
  |succ m =>
   intro t ht
   have:=jk9 hs.2 m o (by simpa using h) t ht
   rw[show k+(m+1)=k+1+m by omega]
   exact this
theorem jAY {L:List Oper} {tab:List (List Nat)} {st0:St} {o:Oper} {tr:List Rec} (h:∀t∈jaq L o,jeo L (tab.getD tr.length []) tr.length t=true) :
  rdF st0 (jaq L o) (jdH L st0 tr)=ja4 L (jaq L o) (tab.getD tr.length []) st0 tr:=by
 funext x
 cases x with
 |tmp t =>
  simp only[rdF,ja4]
  cases hc:(jaq L o).contains t with
  |false=>rfl
  |true =>
   dsimp only
   rw[jik,jlL (h t (by simpa using hc))]
 |_=>rfl
theorem jqb {L:List Oper} {tab:List (List Nat)} {st0:St} {o:Oper} {tr:List Rec} {r:Rec} {k:Rec→Prop} (hfr:jbJ sp) (hrd:∀t∈jaq L o,jeo L (tab.getD tr.length []) tr.length t=true) (h:jm8 P sp N L tab st0 o tr.length (tab.getD tr.length []) (rdF st0 (jaq L o) (jdH L st0 tr)) tr=some r) (hk:k r):dop P sp N L tab st0 o tr k:=by
 rw[jAY hrd]at h
 unfold jm8 at h
 simp only[jk6,jgF,jyP,jAX]at h
 unfold dop
 split at h
 ·cases h
 ·rename_i hd
  rw[hd]
  dsimp only
  split at h
  ·rename_i r' hq
   cases h
   obtain⟨v,ob,h1,h2,h3,rfl⟩:=jxz hq
   rw[h1]
   dsimp only
   rw[h3]
   exact jfy (.inr h2) hk
  ·split at h
   ·rename_i ob v hv
    split at h
    ·rename_i ho
     rw[hv]
     dsimp only
     rw[ho]
     obtain⟨rfl,h2⟩:=jjo h
     exact jfy (h2.imp id fun hb=>jwe hb hv) hk
    ·cases h
   ·rename_i hv
    rw[hv]
    dsimp only
    split at h
    ·rename_i hsp
     rw[hsp]
     dsimp only
     split at h
     ·rename_i hb
      rw[hb]
      dsimp only
      split at h
      ·rename_i ob v hv2
       rw[hv2]
       dsimp only
       split at h
       ·rename_i ho
        rw[ho]
        obtain⟨rfl,h2⟩:=jjo h
        exact jfy (h2.imp id fun hb=>jwe hb hv2) hk
       ·cases h
      ·cases h
     ·cases h
    ·rename_i hsp
     rw[hsp]
     dsimp only
     split at h
     ·rename_i hl
      rw[hl]
      dsimp only
      split at h
      ·rename_i r' hq
       cases h
       obtain⟨k',x,v,ob,q1,q2,q3,q4,q5,q6,rfl⟩:=jwf hq
       rw[q1]
       dsimp only
       rw[q2]
       dsimp only
       rw[q3]
       dsimp only
       rw[q4]
       dsimp only
       rw[q6]
       exact jfy (.inr q5) hk
      ·split at h
       ·cases h
       rename_i h' hla
       rw[hla]
       dsimp only
       split at h
       ·cases h
       ·rename_i x hx
        rw[hx]
        dsimp only
        split at h
        ·cases h
        ·rename_i hb
         rw[hb]
         dsimp only
         split at h
         ·rename_i hv2
          rw[hv2]
          dsimp only
          split at h
          ·cases h
          ·rename_i hmk
           rw[hmk]
           dsimp only
           split at h
           ·rename_i res hs
            rw[hs]
            dsimp only
            split at h
            ·rename_i ho
             rw[ho]
             obtain⟨rfl,h2⟩:=jhL hfr hs h
             exact jfy h2 hk
            ·cases h
           ·cases h
         ·rename_i ob v hv2
          rw[hv2]
          dsimp only
          split at h
          ·rename_i ho
           rw[ho]
           obtain⟨rfl,h2⟩:=jjo h
           exact jfy (h2.imp id fun hb=>jwe hb hv2) hk
          ·cases h
     ·rename_i hl
      rw[hl]
      dsimp only
      split at h
      ·rename_i hm
       rw[hm]
       dsimp only
       split at h
       ·rename_i res hs
        rw[hs]
        dsimp only
        split at h
        ·rename_i ho
         rw[ho]
         obtain⟨rfl,h2⟩:=jhL hfr hs h
         exact jfy h2 hk
        ·cases h
       ·cases h
      ·rename_i hm
       rw[hm]
       dsimp only
       split at h
       ·cases h
       ·rename_i hf
        rw[hf]
        dsimp only
        split at h
        ·rename_i res hs
         rw[hs]
         dsimp only
         split at h
         ·rename_i ho
          rw[ho]
          obtain⟨rfl,h2⟩:=jhL hfr hs h
          exact jfy h2 hk
         ·cases h
        ·cases h
theorem jmy {st0:St} {o:Oper} {tr:List Rec} {r:Rec} {k:Rec→Prop} (h:jk7 N st0 o tr=some r) (hk:k r):jiO N st0 o tr k:=by
 unfold jk7 at h
 unfold jiO
 split at h
 ·cases h
 ·rename_i hd
  cases h
  rw[hd]
  exact hk
theorem jAd {L:List Oper} {st0:St} {o:Oper} {r:Rec} {tr:List Rec} (h:L[tr.length]?=some o):jjn o r (jdH L st0 tr)=jdH L st0 (r::tr):=by
 simp only[jjn,jdH,jbG,h,Option.bind_some]
 cases o.dst<;>rfl
theorem joB {L:List Oper} {tab:List (List Nat)} {st0:St} (hfr:jbJ sp) (hrd:jim L tab 0 L=true):∀(l:List Oper) (tr:List Rec) (tm':List (Nat × V)) (tr':List Rec) (k:List Rec→Prop),L=L.take tr.length++l→tr.length+l.length=L.length →
  jep P sp N L tab st0 l tr.length (jdH L st0 tr) tr=some (tm',tr')→(tm'=jdH L st0 tr'→k tr')→jeG P sp N L tab st0 l tr k
 |[],tr,tm',tr',k,_,_,h,hk=>by
  unfold jep at h
  cases h
  exact hk rfl
 |o::r,tr,tm',tr',k,hL,hlen,h,hk=>by
  have hlt:tr.length<L.length:=by simp at hlen; omega
  have ho:L[tr.length]?=some o:=by
   rw[hL,List.getElem?_append_right (by simp; omega)]
   simp[Nat.min_eq_left (Nat.le_of_lt hlt)]
  have hro:∀t∈jaq L o,jeo L (tab.getD tr.length []) tr.length t=true:=fun t ht=>by
   have:=jk9 hrd tr.length o ho t ht
   simpa using this
  have next:∀rc,jep P sp N L tab st0 r (tr.length+1) (jjn o rc (jdH L st0 tr)) (rc::tr)=some (tm',tr')→jeG P sp N L tab st0 r (rc::tr) k:=fun rc hrc=>by
   refine joB hfr hrd r (rc::tr) tm' tr' k ?_ (by simp at hlen ⊢; omega) (by rw[←jAd ho]; exact hrc) hk
   have h1:L.take (tr.length+1)=L.take tr.length++[o]:=by
    rw[List.take_succ_eq_append_getElem hlt]
    congr 2
    have:=List.getElem?_eq_getElem hlt
    rw[this]at ho
    exact Option.some.inj ho
   simp only[List.length_cons,h1,List.append_assoc,List.singleton_append]
   exact hL
  unfold jep at h
  unfold jeG
  split at h
  ·rename_i hg
   rw[hg]
   dsimp only
   split at h
   ·rename_i rc hc
    exact jqb hfr hro hc (next rc h)
   ·cases h
  ·rename_i g want hg
   rw[hg]
   dsimp only
   split at h
   ·cases h
   ·rename_i t ht
    rw[ht]
    dsimp only
    have hnm:t∈jaq L o:=by
     unfold jaq
     rw[hg]
     simp[ht]
    rw[jik,←jlL (hro t hnm)]at h
    split at h
    ·rename_i b hs
     have hset:jcT L t (vb b) tr=tr:=jfV hs
     rw[hs]
     dsimp only
     cases b<;>cases want<;>dsimp only[Br]at h ⊢ <;> split at h<;>rw[hset]<;>first
      |(rename_i rc hc; exact jqb hfr hro hc (next rc h))
      |(rename_i rc hc; exact jmy hc (next rc h))
      |cases h
    ·rename_i vs hs
     rw[hs]
     dsimp only
     split at h
     ·rename_i rc hc
      exact jmy hc (next rc h)
     ·cases h
    ·cases h
theorem jwg {ops:Array Oper} {s0:St} (hfr:jbJ sp) (h:jwa P sp N ops st=some s0):jcU P sp N ops st fun s=>s=s0:=by
 unfold jwa at h
 unfold jcU
 split at h
 ·rename_i hf
  rw[hf]
  dsimp only
  unfold jxy at h
  unfold jkn
  split at h
  ·rename_i hs
   rw[Bool.and_eq_true]at hs
   rw[hs.1]
   dsimp only
   split at h
   ·rename_i tm tr htr
    cases h
    exact joB hfr hs.2 ops.toList [] tm tr _ (by simp) (by simp) htr fun e=>by rw[e]; rfl
   ·cases h
  ·cases h
 ·cases h
theorem jck {fuel:Nat} (hsp:jac P sp) (hfr:jbJ sp) (hdr:jf9 P B N n0 ρ0 w0 (jcU P sp N)) :
  ∀(c:Code) (st:St) (ρ:Env) (a:Act) (w:World) (e:Ex) (st':St),cx P sp N fuel c st=some (e,st')→RelD ds ρ B N n0 st a w→jae n0 ρ0 ρ→Bel B w0 w →
   c.wp P (Qx ds ρ0 B N n0 w0 fun e' s=>e'=e∧s=st') a w
 | .skip,st,ρ,a,w,e,st',h,hr,hag,hbl=>by
  cases (show some (Ex.normal,st)=some (e,st')from h)
  exact wp_skip ⟨.normal,ρ,st,rfl,⟨rfl,rfl⟩,hr,hag,hbl⟩
 | .label l,st,ρ,a,w,e,st',h,hr,hag,hbl=>by
  cases (show some (Ex.normal,st)=some (e,st')from h)
  exact wp_label ⟨.normal,ρ,st,rfl,⟨rfl,rfl⟩,hr,hag,hbl⟩
 | .region id ops draw,st,ρ,a,w,e,st',h,hr,hag,hbl=>by
  have h:jwb P sp N ops draw st=some (e,st'):=h
  unfold jwb at h
  cases draw with
  |false =>
   dsimp only at h
   split at h
   ·rename_i s1 hs
    cases h
    refine wp_region_list ?_
    have:=joz (P:=P) (Q:=Qx ds ρ0 B N n0 w0 fun e' s=>e'=.normal∧s=st') (all:=ops.toList) hsp hfr (fun ρ' a' w' h1 h2 h3=>⟨.normal,ρ',st',rfl,⟨rfl,rfl⟩,h1,h2,h3⟩) ops.toList ρ st a w hr hag hbl hs
    simpa using this
   ·cases h
  |true =>
   dsimp only at h
   split at h
   ·rename_i s1 hs
    obtain⟨s2,h1,h2⟩:=jna 3 s1 (fun s=>some (Ex.normal,s))
    rw[h1]at h
    cases h
    exact hdr id ops st _ ρ a w _ (jwg hfr hs) hr hag hbl (fun ρ' s a' w' q1 q2 q3 q4=>by
     subst q4
     exact⟨.normal,ρ',st',rfl,⟨rfl,rfl⟩,q1.subSt h2,q2,q3⟩)
   ·cases h
 | .seq x y,st,ρ,a,w,e,st',h,hr,hag,hbl=>by
  have h:jcB (cx P sp N fuel x st) (cx P sp N fuel y)=some (e,st'):=h
  unfold jcB at h
  refine wp_seq ?_
  split at h
  ·rename_i s1 hs
   refine wp_mono (jck hsp hfr hdr x st ρ a w _ _ hs hr hag hbl) ?_
   rintro e1 a1 w1 ⟨ex,ρ1,s2,rfl,⟨rfl,rfl⟩,hr1,hag1,hbl1⟩
   exact jck hsp hfr hdr y s2 ρ1 a1 w1 _ _ h hr1 hag1 hbl1
  ·rename_i hne
   refine wp_mono (jck hsp hfr hdr x st ρ a w _ _ h hr hag hbl) ?_
   rintro e1 a1 w1 ⟨ex,ρ1,s2,rfl,⟨rfl,rfl⟩,hr1,hag1,hbl1⟩
   cases ex with
   |normal=>exact(hne _ h).elim
   |exit j=>exact⟨.exit j,ρ1,_,rfl,⟨rfl,rfl⟩,hr1,hag1,hbl1⟩
   |ret=>exact⟨.ret,ρ1,_,rfl,⟨rfl,rfl⟩,hr1,hag1,hbl1⟩
 | .cond c x y,st,ρ,a,w,e,st',h,hr,hag,hbl=>by
  have h:jsx c (cx P sp N fuel x) (cx P sp N fuel y) st=some (e,st'):=h
  unfold jsx at h
  rw[jxw]at h
  split at h
  ·rename_i hc
   exact wp_cond_true (jki hr (b:=true) (by rw[hc]; rfl)) (jck hsp hfr hdr x st ρ a w _ _ h hr hag hbl)
  ·rename_i hc
   exact wp_cond_false (jki hr (b:=false) (by rw[hc]; rfl)) (jck hsp hfr hdr y st ρ a w _ _ h hr hag hbl)
  ·cases h
 | .block id c,st,ρ,a,w,e,st',h,hr,hag,hbl=>by
  have h:jpF id (cx P sp N fuel c st)=some (e,st'):=h
  unfold jpF at h
  refine wp_block ?_
  split at h
  ·rename_i j s1 hs
   refine wp_mono (jck hsp hfr hdr c st ρ a w _ _ hs hr hag hbl) ?_
   rintro e1 a1 w1 ⟨ex,ρ1,s2,rfl,⟨rfl,rfl⟩,hr1,hag1,hbl1⟩
   simp only[Ex.toExit,Exit.inBlock]
   split at h
   ·rename_i hj
    cases h
    rw[if_pos (Nat.eq_of_beq_eq_true hj)]
    exact⟨.normal,ρ1,_,rfl,⟨rfl,rfl⟩,hr1,hag1,hbl1⟩
   ·rename_i hj
    cases h
    rw[if_neg (fun e=>by subst e; rw[Nat.beq_refl]at hj; cases hj)]
    exact⟨.exit j,ρ1,_,rfl,⟨rfl,rfl⟩,hr1,hag1,hbl1⟩
  ·rename_i hne
   refine wp_mono (jck hsp hfr hdr c st ρ a w _ _ h hr hag hbl) ?_
   rintro e1 a1 w1 ⟨ex,ρ1,s2,rfl,⟨rfl,rfl⟩,hr1,hag1,hbl1⟩
   cases ex with
   |normal=>exact⟨.normal,ρ1,_,rfl,⟨rfl,rfl⟩,hr1,hag1,hbl1⟩
   |exit j=>exact(hne _ _ h).elim
   |ret=>exact⟨.ret,ρ1,_,rfl,⟨rfl,rfl⟩,hr1,hag1,hbl1⟩
 | .loop c,st,ρ,a,w,e,st',h,hr,hag,hbl=>by
  have h:joy (cx P sp N fuel c) fuel st=some (e,st'):=h
  refine wp_loop_rounds fuel ?_
  have key:∀(n:Nat) (st:St) (ρ:Env) (a:Act) (w:World),joy (cx P sp N fuel c) n st=some (e,st')→RelD ds ρ B N n0 st a w→jae n0 ρ0 ρ→Bel B w0 w→Code.rounds P c (Qx ds ρ0 B N n0 w0 fun e' s=>e'=e∧s=st') n a w:=by
   intro n
   induction n with
   |zero=>intro st ρ a w h; cases (show none=some (e,st')from h)
   |succ n ih =>
    intro st ρ a w h hr hag hbl
    have h:(match cx P sp N fuel c st with
     |some (.normal,st1)=>stG st1 fun st1=>joy (cx P sp N fuel c) n st1
     |x=>x)=some (e,st'):=h
    rw[rounds_succ]
    split at h
    ·rename_i s1 hs
     obtain⟨s2,h1,h2⟩:=jyS s1 (fun s=>joy (cx P sp N fuel c) n s)
     rw[h1]at h
     refine wp_mono (jck hsp hfr hdr c st ρ a w _ _ hs hr hag hbl) ?_
     rintro e1 a1 w1 ⟨ex,ρ1,s3,rfl,⟨rfl,rfl⟩,hr1,hag1,hbl1⟩
     exact ih s2 ρ1 a1 w1 h (hr1.subSt h2) hag1 hbl1
    ·rename_i hne
     refine wp_mono (jck hsp hfr hdr c st ρ a w _ _ h hr hag hbl) ?_
     rintro e1 a1 w1 ⟨ex,ρ1,s2,rfl,⟨rfl,rfl⟩,hr1,hag1,hbl1⟩
     cases ex with
     |normal=>exact(hne _ h).elim
     |exit j=>exact⟨.exit j,ρ1,_,rfl,⟨rfl,rfl⟩,hr1,hag1,hbl1⟩
     |ret=>exact⟨.ret,ρ1,_,rfl,⟨rfl,rfl⟩,hr1,hag1,hbl1⟩
  exact key fuel st ρ a w h hr hag hbl
 | .exit id,st,ρ,a,w,e,st',h,hr,hag,hbl=>by
  cases (show some (Ex.exit id,st)=some (e,st')from h)
  exact wp_exit ⟨.exit id,ρ,st,rfl,⟨rfl,rfl⟩,hr,hag,hbl⟩
 | .ret,st,ρ,a,w,e,st',h,hr,hag,hbl=>by
  cases (show some (Ex.ret,st)=some (e,st')from h)
  exact wp_ret ⟨.ret,ρ,st,rfl,⟨rfl,rfl⟩,hr,hag,hbl⟩
 | .scope c,st,ρ,a,w,e,st',h,_,_,_=>by cases (show none=some (e,st')from h)
 | .goto l,st,ρ,a,w,e,st',h,_,_,_=>by cases (show none=some (e,st')from h)
 | .rangeFunc f ps x y,st,ρ,a,w,e,st',h,_,_,_=>by cases (show none=some (e,st')from h)
 | .refuse s,st,ρ,a,w,e,st',h,_,_,_=>by cases (show none=some (e,st')from h)
end
end Go.Sx
end

section
open Go.RowKit
namespace Go.Sx
section
variable [Globs] {P:Program} {B:Kd} {sp:jaa} {ρ:Env} {w:World} {hp:Hp} {nx:Nat}
theorem jsA {st:St} {r:ResultVar} {u:W} (h:jpG P st r=some u):∃ob,jkk P st r=some (ob,u)∧ob:=by
 unfold jpG at h
 unfold jkk
 split at h
 ·split at h
  ·rename_i u' hg
   cases h
   exact⟨True,by simp only[hg],trivial⟩
  ·cases h
 ·split at h
  ·rename_i k i e j hg
   split at h
   ·rename_i o hf
    split at h
    ·rename_i ob u' hr hb
     cases h
     exact⟨ob,by simp only[hg,hf,hr],juJ hr hb⟩
    ·cases h
   ·cases h
  ·cases h
theorem jla {st:St}:∀{rs:List ResultVar} {l:List W},jdm P st rs=some l→∃l',jed P st rs=some l'∧l'.map (·.2)=l∧∀k:Prop,k→jh0 l' k
 |[],l,h=>by
  simp only[jdm,Option.some.injEq]at h
  subst h
  exact⟨[],rfl,rfl,fun _ h=>h⟩
 |r::rs,l,h=>by
  simp only[jdm]at h
  split at h
  ·rename_i x l1 h1 h2
   cases h
   obtain⟨ob,q1,q2⟩:=jsA h1
   obtain⟨l',q3,q4,q5⟩:=jla h2
   refine⟨(ob,x)::l',by simp only[jed,q1,q3],by simp[q4],fun k hk=>⟨⟨q2⟩,q5 k hk⟩⟩
  ·cases h
theorem jqc (hh:HRel ρ B hp nx w) {v:V} (hv:v.lt nx):(jgG hp v).val ρ=v.val ρ∧(jgG hp v).lt nx:=by
 unfold jgG
 split
 ·rename_i h
  split
  ·rename_i ty cs hf
   obtain⟨q1,_,k,q3,_⟩:=hh.ok h _ hf
   exact⟨by simp[V.val,W.val,C.val,q3,base],q1⟩
  ·rename_i cs hf
   obtain⟨q1,_,k,o,q3,_⟩:=hh.ok h _ hf
   exact⟨by simp[V.val,W.val,C.val,q3,base],q1⟩
  ·rename_i ty k e r hf
   obtain⟨q1,_,k,q3,_⟩:=hh.ok h _ hf
   exact⟨by simp[V.val,W.val,C.val,q3,base],q1⟩
  ·exact⟨rfl,hv⟩
 ·exact⟨rfl,hv⟩
theorem jf5 (hh:HRel ρ B hp nx w) {args:List V} (hlt:∀x∈args,V.lt nx x):(args.map (jgG hp)).map (V.val ρ)=args.map (V.val ρ)∧∀x∈args.map (jgG hp),V.lt nx x:=by
 refine⟨?_,fun x hx=>?_⟩
 ·rw[List.map_map]
  exact List.map_congr_left fun v hv=>(jqc hh (hlt v hv)).1
 ·obtain⟨v,hv,rfl⟩:=List.mem_map.1 hx
  exact(jqc hh (hlt v hv)).2
theorem jnb {f fuel:Nat} {fn:Func} {body:Code} {args:List V} {e:Ex} {st:St} {l:List W} (hsp:jac P sp) (hfr:jbJ sp) (hdr:∀ρ w,jf9 P B fn.ntmps nx ρ w (jcU P sp fn.ntmps))
  (hf:P.funcs[f]?=some fn) (hb:fn.body=some body) (hlen:args.length≤fn.ntmps) (hcx:cx P sp fn.ntmps fuel body ⟨jcc 0 args,hp,nx⟩=some (e,st)) (he:∀j,e≠.exit j) (hl:jdm P st fn.results.toList=some l)
  (hlt:∀x∈args,V.lt nx x) (hh:HRel ρ B hp nx w) (hB:Old B w) :
  Calls P f (args.map (V.val ρ)).toArray w fun e w'=>∃ρ',e=.returned ((jaU l).val ρ')∧(jaU l).lt st.nx∧jae nx ρ ρ'∧(∃B',Grow B B' false w' w'∧HRel ρ' B' st.hp st.nx w')∧Bel B w w':=by
 refine calls_of_wp hf hb ?_
 have hrel:=jfn (n0:=nx) hlen hlt (Nat.le_refl _) ρ w hh hB
 refine wp_mono (jck hsp hfr (hdr ρ w) body _ ρ _ w e st hcx hrel (jae.refl _ _) (Bel.refl _ _)) ?_
 rintro e1 a1 w1 ⟨ex,ρ1,s,rfl,⟨rfl,rfl⟩,hr1,hag1,hbl1⟩
 obtain⟨l',q1,q2,q3⟩:=jla hl
 have fin:a1.defers=[]∧∃v,(results fn a1.tmps).run P w1=.ok v w1∧∃ρ',Ending.returned v=.returned ((jaU l).val ρ')∧(jaU l).lt s.nx∧jae nx ρ ρ'∧(∃B',Grow B B' false w1 w1∧HRel ρ' B' s.hp s.nx w1)∧Bel B w w1:=by
  have hra:=jfT hr1 _ l' True q1 (q3 True trivial)
  refine⟨hr1.defers,(jaU l).val ρ1,?_,ρ1,rfl,jeE (fun y hy=>?_),hag1,hr1.heap,hbl1⟩
  ·rw[jcw]
   simp only[jiK,Array.mapM_eq_mapM_toList,Sem.run_bind,Sem.run_map,hra.1,Result.andThen_ok,Sem.run_pure,←q2,List.map_map]
   rfl
  ·rw[←q2]at hy
   obtain⟨z,hz,rfl⟩:=List.mem_map.1 hy
   exact hra.2.1 z hz
 cases ex with
 |normal=>exact fin
 |exit j=>exact(he j rfl).elim
 |ret=>exact fin
theorem jqd {α:Type} (n0:Nat) (v:V) (st:St) (k:Hp→α):∃hp',outF n0 v st k=k hp'∧∀h o,find hp' h=some o→find st.hp h=some o:=by
 unfold outF
 obtain⟨m,h1⟩:=jhJ (n0:=n0) (hp:=st.hp) 6 (jq4 v 0) (fun m=>hpF (fun h=>Nat.blt h n0||Nat.testBit m h) 0 0 st.hp k)
 rw[h1]
 obtain⟨hp',h2,h3⟩:=jgE (live:=fun h=>Nat.blt h n0||Nat.testBit m h) st.hp 0 0 k
 exact⟨hp',h2,fun h o hf=>(h3 h o hf).1⟩
theorem jqe {α:Type} (n0:Nat) (v:V) (st:St) (k:Hp→α):∃hp',outN n0 v st k=k hp'∧∀h o,find hp' h=some o→find st.hp h=some o∧n0≤h:=by
 unfold outN
 obtain⟨m,h1⟩:=jhJ (n0:=n0) (hp:=st.hp) 6 (jq4 v 0) (fun m=>hpF (fun h=>Nat.ble n0 h&&Nat.testBit m h) 0 0 st.hp k)
 rw[h1]
 obtain⟨hp',h2,h3⟩:=jgE (live:=fun h=>Nat.ble n0 h&&Nat.testBit m h) st.hp 0 0 k
 refine⟨hp',h2,fun h o hf=>⟨(h3 h o hf).1,?_⟩⟩
 have:=(h3 h o hf).2.2
 simp only[Bool.and_eq_true]at this
 exact Nat.le_of_ble_eq_true this.1
theorem jyU {fn:Func} {body:Code} {fuel:Nat} {args:List V} {t:RT} (h:inl P sp fn body fuel args hp nx=some t):t.sel.ob:=by
 unfold inl at h
 split at h
 ·cases h
 ·split at h
  ·rename_i e st hcx
   split at h
   ·cases h
   ·split at h
    ·rename_i l hl hle
     rw[jcV]at h
     obtain⟨hp',h1,_⟩:=jqd nx (jaU l) st (fun hp'=>some (RT.leaf ⟨True,jaU l,hp',st.nx⟩))
     rw[h1]at h
     cases h
     trivial
    ·cases h
  ·cases h
theorem jAZ {f fuel:Nat} {fn:Func} {body:Code} (hm:P.follows .mixedOrders=true) (hsp:jac P sp) (hfr:jbJ sp) (hf:P.funcs[f]?=some fn) (hb:fn.body=some body) (hn:(fn.name == "runtime.NumGoroutine")=false) :
  jaf P f false (inl P sp fn body fuel):=by
 refine .inl ⟨jcz hf hb hn,fun ρ B w args hp nx t hS hob hlt hh hB=>?_⟩
 unfold inl at hS
 split at hS
 ·cases hS
 ·rename_i hlen
  have hlen:=Nat.le_of_ble_eq_true hlen
  split at hS
  ·rename_i e st hcx
   have go:∀l,(∀j,e≠.exit j)→jdm P st fn.results.toList=some l→Nat.ble nx st.nx=true→(fV (jaU l) fun v=>outF nx v st fun hp'=>some (RT.leaf ⟨True,v,hp',st.nx⟩))=some t →
     Calls P f (args.map (V.val ρ)).toArray w fun e w'=>∃ρ',e=.returned (t.sel.v.val ρ')∧Left ρ B nx w t.sel false ρ' w':=by
    intro l he hl hle hS
    rw[jcV]at hS
    obtain⟨hp',h1,h2⟩:=jqd nx (jaU l) st (fun hp'=>some (RT.leaf ⟨True,jaU l,hp',st.nx⟩))
    rw[h1]at hS
    cases hS
    obtain⟨ha1,ha2⟩:=jf5 hh hlt
    have hc:=jnb (f:=f) (args:=args.map (jgG hp)) hsp hfr (fun ρ w=>jcg hm hsp) hf hb (by simpa using hlen) hcx he hl ha2 hh hB
    rw[ha1]at hc
    refine hc.mono ?_
    rintro e' w' ⟨ρ',rfl,q2,q3,⟨B',g,q4⟩,q5⟩
    exact⟨ρ',rfl,q3,q2,Nat.le_of_ble_eq_true hle,⟨B',g.weak,q4.sub h2⟩,q5,(fun h=>by cases h),fun h=>by cases h⟩
   split at hS
   ·cases hS
   ·rename_i hne
    split at hS
    ·rename_i l hl hle
     exact go l (fun j e=>hne j e) hl hle hS
    ·cases hS
  ·cases hS
theorem jpH (hp:Hp) (h:Nat):find (jfJ hp) h=(find hp h).map roO:=by
 induction hp with
 |nil=>rfl
 |cons x r ih =>
  obtain⟨k,o⟩:=x
  simp only[jfJ,List.map_cons,find]at *
  split
  ·rfl
  ·exact ih
theorem juL (v:Value) (o:O):(roO o).blk v=none:=by
 cases o<;>simp only[roO]<;>first
  |rfl
  |(unfold roO.extR; split<;>rfl)
  |(unfold roO.lstR; split<;>rfl)
theorem jxA (hh:HRel ρ B hp nx w) (hB:Old B w):HRel ρ (kd fun k=>k<w.heap.size) (jfJ hp) nx w:=by
 have row:∀h o c,find hp h=some o→o.cont=some c→h<nx∧(roO.extR c).lt nx∧(roO.extR c).ok ρ (kd fun k=>k<w.heap.size) w h:=by
  intro h o c hf hc
  obtain⟨q1,q2,q3⟩:=hh.ok h o hf
  have hr:=jaQ q3 hc
  unfold roO.extR
  split
  ·exact⟨q1,trivial,trivial⟩
  ·rename_i e he
   exact⟨q1,trivial,hr,jaF.lt hr (by omega)⟩
 have lst:∀h o e n cs,find hp h=some o→o.lst=some (e,n,cs)→(∀c∈cs,C.lt nx c)→h<nx∧(roO.lstR e n cs).lt nx∧(roO.lstR e n cs).ok ρ (kd fun k=>k<w.heap.size) w h:=by
  intro h o e n cs hf hl hlt
  obtain⟨q1,q2,q3⟩:=hh.ok h o hf
  obtain⟨h1,h2,h3⟩:=jbN q3 hl
  unfold roO.lstR
  split
  ·exact⟨q1,trivial,trivial⟩
  ·rename_i e'
   refine⟨q1,hlt,h1,fun a n' cap heq hn=>?_,h2,h3⟩
   obtain⟨a',cap',hv,_,hadr⟩:=h1
   rw[hv]at heq
   cases heq
   obtain⟨b,off,e9⟩:=hadr hn
   cases e9
   have hlen:0<cs.length:=by rw[h2]; exact Nat.mul_pos hn (Nat.succ_pos _)
   have:=h3 0 cs[0] (List.getElem?_eq_getElem hlen)
   rw[hv]at this
   exact World.block_lt_of_cell? w _ this
 refine⟨fun h o' hf=>?_,fun h o k o' b _ hf' _ _ hb'=>?_,hh.glob.sub fun g hg=>hB g (.inl hg)⟩
 ·rw[jpH]at hf
  obtain⟨o,ho,rfl⟩:=Option.map_eq_some_iff.1 hf
  obtain⟨q1,q2,q3⟩:=hh.ok h o ho
  cases o with
  |row ty c=>exact row h _ c ho rfl
  |ext c=>exact row h _ c ho rfl
  |view r c fl=>exact row h _ c ho rfl
  |rrow c=>exact row h _ c ho rfl
  |fext c=>exact row h _ c ho rfl
  |sub r i e j ty c=>exact row h _ c ho rfl
  |box ty cs =>
   obtain⟨k,h1,h2,h3⟩:=q3
   refine⟨q1,q2,k,0,h1,(Array.getElem?_eq_some_iff.1 h3).1,fun j c hj=>?_⟩
   rw[Nat.zero_add,cell_of_row w k _ _ ty (0,0) h3]
   simp[hj]
  |ebox cs =>
   obtain⟨k,o,h1,h2,h3⟩:=q3
   exact⟨q1,q2,k,o,h1,hB k (.inl h2),h3⟩
  |lbox ty e n cs=>exact lst h _ e n cs ho rfl q2
  |lview r e n cs=>exact lst h _ e n cs ho rfl q2.2
  |elist e n cs=>exact⟨q1,q2,q3.1,jaO (fun k hk=>hB k (.inl hk)) q3.2.1,q3.2.2⟩
  |xext X=>exact⟨q1,trivial,IsX.mono (fun k hk=>hB k (.inl hk)) q3⟩
  |_=>exact⟨q1,trivial,trivial⟩
 ·rw[jpH]at hf'
  obtain⟨o1,_,rfl⟩:=Option.map_eq_some_iff.1 hf'
  rw[juL]at hb'
  cases hb'
theorem jnc (l r:Hp) (h:Nat):find (l++r) h=match find l h with|some o=>some o|none=>find r h:=by
 induction l with
 |nil=>rfl
 |cons x l ih =>
  obtain⟨k,o⟩:=x
  simp only[List.cons_append,find]
  split
  ·rfl
  ·exact ih
theorem juM {B1:Kd} {o:O} {h:Nat} (ho:jeF o=true) (hok:o.ok ρ B1 w h) (hB:∀k,¬B1.all k→¬B.all k):o.ok ρ B w h:=by
 cases o with
 |row ty c=>exact⟨hok.1,fun k hk=>hB k (hok.2 k hk)⟩
 |box ty cs=>obtain⟨k,h1,h2,h3⟩:=hok; exact⟨k,h1,hB k h2,h3⟩
 |lbox ty e n cs=>exact⟨hok.1,fun k hk=>hB k (hok.2 k hk)⟩
 |arr ty k e r=>obtain⟨g,h1,h2,h3⟩:=hok; exact⟨g,h1,hB g h2,h3⟩
 |_=>cases ho
theorem jyV {w':World} {ρ':Env} {B1:Kd} {hp1 hp':Hp} {nx1:Nat} (hh:HRel ρ B hp nx w) (hB:Old B w) (hbel:Below w.heap.size w w') (hag:jae nx ρ ρ') (hle:nx≤nx1) (h1:HRel ρ' B1 hp1 nx1 w') (hB1:∀k,¬B1.all k→w.heap.size≤k)
  (hs:∀h o,find hp' h=some o→find hp1 h=some o∧nx≤h) (hk:hp'.all (fun x=>jeF x.2)=true) :
  HRel ρ' B (hp' ++ hp) nx1 w'∧∀h o k,nx≤h→find (hp' ++ hp) h=some o→o.blk (ρ' h)=some k→w.heap.size≤k:=by
 have hold:=(hh.below hbel hB).agree hag
 have hBn:∀k,¬B1.all k→¬B.all k:=fun k hk hc=>by have:=hB k hc; have:=hB1 k hk; omega
 have own:∀h o,find hp' h=some o→jeF o=true:=fun h o hf=>List.all_eq_true.1 hk _ (jiJ hf)
 have new:∀h o k,find hp' h=some o→o.blk (ρ' h)=some k→w.heap.size≤k:=fun h o k hf hb=>hB1 k (O.blk_lt (h1.ok h o (hs h o hf).1).2.2 hb).2
 have oldlt:∀h o k,find hp h=some o→o.blk (ρ' h)=some k→k<w.heap.size:=fun h o k hf hb=>by
  have q:=hh.ok h o hf
  rw[hag h q.1]at hb
  exact(O.blk_lt q.2.2 hb).1
 have part:∀h o,find (hp' ++ hp) h=some o→find hp' h=some o∨find hp h=some o:=fun h o hf=>by
  rw[jnc]at hf
  cases hq:find hp' h with
  |some o1=>simp only[hq]at hf; exact .inl hf
  |none=>simp only[hq]at hf; exact .inr hf
 refine⟨⟨fun h o hf=>?_,fun h o h' o' k hf hf' hne hb hb'=>?_,hold.glob⟩,fun h o k hn hf hb=>?_⟩
 ·rcases part h o hf with hq|hq
  ·have q:=h1.ok h o (hs h o hq).1
   exact⟨q.1,q.2.1,juM (own h o hq) q.2.2 hBn⟩
  ·have q:=hold.ok h o hq
   exact⟨Nat.lt_of_lt_of_le q.1 hle,O.lt_mono hle q.2.1,q.2.2⟩
 ·rcases part h o hf with hq|hq<;>rcases part h' o' hf' with hq' | hq'
  ·exact h1.apart h o h' o' k (hs h o hq).1 (hs h' o' hq').1 hne hb hb'
  ·have:=new h o k hq hb
   have:=oldlt h' o' k hq' hb'
   omega
  ·have:=oldlt h o k hq hb
   have:=new h' o' k hq' hb'
   omega
  ·exact hold.apart h o h' o' k hq hq' hne hb hb'
 ·rcases part h o hf with hq|hq
  ·exact new h o k hq hb
  ·have:=(hh.ok h o hq).1
   omega
theorem jAe {f fuel:Nat} {fn:Func} {body:Code} (hm:P.follows .mixedOrders=true) (hsp:jac P sp) (hfr:jbJ sp) (hf:P.funcs[f]?=some fn) (hb:fn.body=some body) (hn:(fn.name == "runtime.NumGoroutine")=false) :
  jaf P f true (jsz P sp fn body fuel):=by
 refine .inl ⟨jcz hf hb hn,fun ρ B w args hp nx t hS hob hlt hh hB=>?_⟩
 unfold jsz at hS
 split at hS
 ·cases hS
 ·rename_i hlen
  have hlen:=Nat.le_of_ble_eq_true hlen
  split at hS
  ·rename_i e st hcx
   split at hS
   ·cases hS
   ·rename_i hne
    split at hS
    ·rename_i l hl hle
     have hle:=Nat.le_of_ble_eq_true hle
     rw[jcV]at hS
     obtain⟨hp',h1,h2⟩:=jqe nx (jaU l) st (jsy (jaU l) hp st.nx)
     rw[h1]at hS
     unfold jsy at hS
     split at hS
     ·rename_i hk
      cases hS
      obtain⟨ha1,ha2⟩:=jf5 hh hlt
      have hro:=jxA hh hB
      have hc:=jnb (f:=f) (args:=args.map (jgG hp)) (B:=kd fun k=>k<w.heap.size) hsp hfr (fun ρ w=>jcg hm hsp) hf hb (by simpa using hlen) hcx (fun j e=>hne j e) hl ha2 hro (fun k hk=>(jbz.1 hk))
      rw[ha1]at hc
      refine hc.mono ?_
      rintro e' w' ⟨ρ',rfl,q2,q3,⟨B1,g,q4⟩,q5⟩
      have hbel:Below w.heap.size w w':=Bel.below q5
      have hB1:∀k,¬B1.all k→w.heap.size≤k:=fun k hk=>Nat.le_of_not_lt fun hlt=>hk (.inl (g.le.kp k hlt))
      obtain⟨r1,r2⟩:=jyV hh hB hbel q3 hle q4 hB1 h2 hk
      exact⟨ρ',rfl,q3,q2,hle,HRel.gr r1,jb6 hbel hB,fun _=>hbel,fun _=>r2⟩
     ·cases hS
    ·cases hS
  ·cases hS
theorem jxB {fn:Func} {body:Code} {fuel:Nat} {args:List V} {t:RT} (h:jsz P sp fn body fuel args hp nx=some t):t.sel.ob:=by
 unfold jsz at h
 split at h
 ·cases h
 ·split at h
  ·rename_i e st hcx
   split at h
   ·cases h
   ·split at h
    ·rename_i l hl hle
     rw[jcV]at h
     obtain⟨hp',h1,_⟩:=jqe nx (jaU l) st (jsy (jaU l) hp st.nx)
     rw[h1]at h
     unfold jsy at h
     split at h
     ·cases h; trivial
     ·cases h
    ·cases h
  ·cases h
theorem jpI {ov:jaa} {ro:Nat→Bool} {fuel:Nat} (hm:P.follows .mixedOrders=true) (hov:jac P ov) (hfo:jbJ ov):∀n,jac P (jm9 P ov ro fuel n)∧jbJ (jm9 P ov ro fuel n)
 |0=>⟨(fun f M S h=>by cases h),(fun f M S args hp nx t h=>by cases h)⟩
 |n+1=>by
  obtain⟨ih1,ih2⟩:=jpI hm hov hfo (ro:=ro) (fuel:=fuel) n
  refine⟨fun f M S h=>?_,fun f M S args hp nx t h hS=>?_⟩
  ·unfold jm9 at h
   split at h
   ·rename_i x hx
    cases h
    exact hov f M S hx
   ·split at h
    ·rename_i fn hf
     split at h
     ·rename_i body hb hn
      split at h
      ·cases h
       exact jAe hm ih1 ih2 hf hb hn
      ·cases h
       exact jAZ hm ih1 ih2 hf hb hn
     ·cases h
    ·cases h
  ·unfold jm9 at h
   split at h
   ·rename_i x hx
    cases h
    exact hfo f M S args hp nx t hx hS
   ·split at h
    ·split at h
     ·split at h
      ·cases h
       exact jxB hS
      ·cases h
       exact jyU hS
     ·cases h
    ·cases h
end
end Go.Sx
end

section
open Go.RowKit
namespace Go.Sx
section
variable {P:Program} {ρ:Env} {B:Kd} {nx:Nat} {hp:Hp} {w:World}
theorem jxC (I J:Globs) (ht:I.tab=J.tab) (hh:I.held=J.held) {B:Bd} {w:World} (h:@jbW I B w):@jbW J B w:=by
 cases I; cases J
 cases ht; cases hh
 exact h
theorem jlb (I J:Globs) (ht:I.tab=J.tab) (hd:I.held=J.held) (h:@HRel I ρ B hp nx w):@HRel J ρ B hp nx w :=
 @HRel.mk J _ _ _ _ _ (@HRel.ok I _ _ _ _ _ h) (@HRel.apart I _ _ _ _ _ h) (jxC I J ht hd (@HRel.glob I _ _ _ _ _ h))
theorem jqf (I J:Globs) (ht:I.tab=J.tab) (hd:I.held=J.held) {f:Nat} {M:Bool} {S:Spec} (h:@jaf I P f M S):@jaf J P f M S:=by
 rcases h with h|h
 ·refine .inl (@RunOK.mk J _ _ _ _ (@RunOK.enter I _ _ _ _ h) fun ρ B w args hp nx t hS ho hl hh hB=>?_)
  refine(@RunOK.sound I _ _ _ _ h ρ B w args hp nx t hS ho hl (jlb J I ht.symm hd.symm hh) hB).mono ?_
  rintro e w' ⟨ρ',e1,hL⟩
  obtain⟨B',g,q⟩:=@Left.heap I _ _ _ _ _ _ _ _ hL
  exact⟨ρ',e1,@Left.mk J _ _ _ _ _ _ _ _ (@Left.agree I _ _ _ _ _ _ _ _ hL) (@Left.lt I _ _ _ _ _ _ _ _ hL) (@Left.le I _ _ _ _ _ _ _ _ hL) ⟨B',g,jlb I J ht hd q⟩ (@Left.below I _ _ _ _ _ _ _ _ hL) (@Left.mono I _ _ _ _ _ _ _ _ hL) (@Left.fresh I _ _ _ _ _ _ _ _ hL)⟩
 ·exact .inr fun ρ B w args hp nx t hS ho hl hh hB=>h ρ B w args hp nx t hS ho hl (jlb J I ht.symm hd.symm hh) hB
end
def jwh (hp:Hp) (k:NK) (c:C):Option NC :=
 match c with
 | .d (.v (.slice none 0 0))=>jly k
 | .d x=>match jbk k (.d x)with
  |true=>some (.d x)
  |false=>none
 | .o h=>match find hp h with
  |some (.ext c)=>match jbk k (.r c)with
   |true=>some (.r c)
   |false=>none
  |_=>none
 |_=>none
def jgH (hp:Hp):List NK→List C→Option (List NC)
 |[],[]=>some []
 |k::ks,c::cs=>match jwh hp k c,jgH hp ks cs with
  |some x,some l=>some (x::l)
  |_,_=>none
 |_,_=>none
def jlM (hp:Hp) (sh:List NK):Nat→List C→Option (List (List NC))
 |0,cs=>match cs with
  |[]=>some []
  |_=>none
 |n+1,cs=>match jgH hp sh (cs.take sh.length),jlM hp sh n (cs.drop sh.length)with
  |some r,some l=>some (r::l)
  |_,_=>none
def joC (hp:Hp) (e n:Nat) (cs:List C):List XC→Option XC
 |[]=>none
 |x::l=>match Nat.beq x.e e,Nat.beq e x.sh.length,Nat.blt 0 e with
  |true,true,true=>match jlM hp x.sh n cs with
   |some rs=>some (x.mk rs)
   |none=>joC hp e n cs l
  |_,_,_=>joC hp e n cs l
def jlN (hp:Hp) (xs:List XC) (o:O):O :=
 match o with
 | .elist e n cs=>match joC hp e n cs xs with
  |some X=>.xext X
  |none=>o
 |_=>o
def hpQ (xs:List XC) (hp:Hp):Hp:=hp.map fun x=>(x.1,jlN hp xs x.2)
noncomputable def fHp {α:Type} (hp:Hp):(Hp→α)→α:=fL (fun x k=>fN x.1 fun n=>fO x.2 fun o=>k (n,o)) hp
def jzN (o:O):O:=match jeF o with
 |true=>o
 |false=>match o with
  | .dead=>.dead
  |_=>.atom
def jlc (hp:Hp):Hp:=hp.map fun x=>(x.1,jzN x.2)
noncomputable def jeU (xs:List XC) (shs:List SV) (g:List Lf→Option (List RR)):Spec:=fun args hp nx =>
 match ji1 (hpQ xs (jfJ hp)) shs (args.map (jgG hp))with
 |some (ls,am)=>match g ls with
  |some rs=>match jb2 am rs nx with
   |b=>fV (jaU b.ws) fun v=>fHp (jlc b.hp) fun hp'=>fN b.n fun n=>match hp'.all (fun x=>Nat.ble nx x.1)with
    |true=>some (.leaf ⟨True,v,hp' ++ hp,n⟩)
    |false=>none
  |none=>none
 |none=>none
section
variable [Globs] {P:Program} {ρ:Env} {B:Kd} {nx:Nat} {hp:Hp} {w:World}
theorem jwi (hh:HRel ρ B hp nx w) {k:NK} {c:C} {x:NC} (h:jwh hp k c=some x):jbk k x=true∧x.at B.kp w (c.val ρ):=by
 unfold jwh at h
 split at h
 ·have:=jiE h
  exact⟨this.1,this.2 _ _⟩
 ·split at h
  ·rename_i hk
   cases h
   exact⟨hk,rfl⟩
  ·cases h
 ·rename_i h0
  split at h
  ·rename_i c0 hf
   split at h
   ·rename_i hk
    cases h
    exact⟨hk,(hh.ok _ _ hf).2.2⟩
   ·cases h
  ·cases h
 ·cases h
theorem jmz (hh:HRel ρ B hp nx w):∀{sh:List NK} {cs:List C} {r:List NC},jgH hp sh cs=some r →
  jca sh r∧cs.length=sh.length∧∀(j:Nat) (x:NC) (c:C),r[j]?=some x→cs[j]?=some c→x.at B.kp w (c.val ρ)
 |[],[],r,h=>by
  simp only[jgH,Option.some.injEq]at h
  subst h
  exact⟨⟨rfl,fun j k x h=>by simp at h⟩,rfl,fun j x c h=>by simp at h⟩
 |[],c::cs,r,h=>by simp[jgH]at h
 |k::sh,[],r,h=>by simp[jgH]at h
 |k::sh,c::cs,r,h=>by
  simp only[jgH]at h
  split at h
  ·rename_i x l hx hl
   simp only[Option.some.injEq]at h
   subst h
   obtain⟨a1,a3⟩:=jwi hh hx
   obtain⟨b1,b2,b4⟩:=jmz hh hl
   refine⟨⟨by simp[b1.1],fun j k' x' hj hx'=>?_⟩,by simp[b2],fun j x' c' hj hc=>?_⟩
   ·cases j with
    |zero=>simp at hj hx'; subst hj; subst hx'; exact a1
    |succ j=>exact b1.2 j k' x' (by simpa using hj) (by simpa using hx')
   ·cases j with
    |zero =>
     simp at hj hc; subst hj; subst hc
     exact a3
    |succ j=>exact b4 j x' c' (by simpa using hj) (by simpa using hc)
  ·cases h
theorem joD (hh:HRel ρ B hp nx w) {sh:List NK}:∀{n:Nat} {cs:List C} {rs:List (List NC)},jlM hp sh n cs=some rs →
  rs.length=n∧(∀r∈rs,jca sh r)∧∀(i j:Nat) (c:C),i<n→j<sh.length→cs[i*sh.length+j]?=some c→((rs.getD i []).getD j (.d (.v undef))).at B.kp w (c.val ρ)
 |0,cs,rs,h=>by
  cases cs with
  |nil =>
   simp only[jlM,Option.some.injEq]at h
   subst h
   exact⟨rfl,(fun _ h=>by cases h),fun i j c hi=>by omega⟩
  |cons c cs=>simp[jlM]at h
 |n+1,cs,rs,h=>by
  simp only[jlM]at h
  split at h
  ·rename_i r l hr hl
   simp only[Option.some.injEq]at h
   subst h
   obtain⟨a1,a2,a3⟩:=jmz hh hr
   obtain⟨b1,b2,b3⟩:=joD hh hl
   refine⟨by simp[b1],fun r' hr'=>?_,fun i j c hi hj hc=>?_⟩
   ·rcases List.mem_cons.1 hr' with e|e
    ·subst e; exact a1
    ·exact b2 r' e
   ·cases i with
    |zero =>
     rw[Nat.zero_mul,Nat.zero_add]at hc
     have hjr:j<r.length:=by rw[a1.1]; exact hj
     have e1:(r.getD j (.d (.v undef)))=r[j]:=by simp[List.getD,hjr]
     show(r.getD j _).at _ _ _
     rw[e1]
     exact a3 j _ c (List.getElem?_eq_getElem hjr) (by rw[List.getElem?_take_of_lt hj]; exact hc)
    |succ i =>
     show((l.getD i []).getD j _).at _ _ _
     refine b3 i j c (by omega) hj ?_
     rw[List.getElem?_drop]
     rw[←hc]
     congr 1
     rw[Nat.add_mul]; omega
  ·cases h
theorem jjp (hh:HRel ρ B hp nx w) {h e n:Nat} {cs:List C} (hok:(O.elist e n cs).ok ρ B w h):∀{xs:List XC} {X:XC},joC hp e n cs xs=some X→IsX B.kp w (ρ h) X
 |[],X,hp=>by cases hp
 |x::l,X,hq=>by
  unfold joC at hq
  split at hq
  ·rename_i h1 h2 h3
   have h1:=Nat.eq_of_beq_eq_true h1
   have h2:=Nat.eq_of_beq_eq_true h2
   split at hq
   ·rename_i rs hrs
    cases hq
    obtain⟨q1,q2,q3,q4⟩:=hok
    obtain⟨a,cap,hv,hc,hadr⟩:=q1
    obtain⟨r1,r2,r3⟩:=joD hh hrs
    obtain⟨m1,m2,m3⟩:=x.cell_mk r2
    refine⟨a,cap,by rw[m1,r1]; exact hv,by rw[m1,r1]; exact hc,fun hn=>?_⟩
    rw[m1,r1]at hn
    obtain⟨b,off,rfl⟩:=hadr hn
    refine⟨b,off,rfl,?_,fun i j hi hj=>?_⟩
    ·exact q2 _ n cap hv hn
    ·rw[m1]at hi
     rw[m2]at hj ⊢
     have hi':i<n:=by rw[←r1]; exact hi
     have hlt:i*x.e+j<cs.length:=by
      rw[q3,←h1]
      calc i*x.e+j<i*x.e+x.e:=by omega
       _=(i+1)*x.e:=by rw[Nat.add_mul]; omega
       _≤n*x.e:=Nat.mul_le_mul_right _ hi'
     have hget:=List.getElem?_eq_getElem hlt
     have:=q4 _ _ hget
     rw[hv]at this
     refine⟨_,this,?_⟩
     rw[m3 i j hi hj]
     exact r3 i j _ hi' (by rw[←h2,←h1]; exact hj) (by rw[←h2,←h1]; exact hget)
   ·exact jjp hh hok hq
  ·exact jjp hh hok hq
theorem jyW (xs:List XC) (hp0 hp:Hp) (h:Nat):find (hp.map fun x=>(x.1,jlN hp0 xs x.2)) h=(find hp h).map (jlN hp0 xs):=by
 induction hp with
 |nil=>rfl
 |cons x r ih =>
  obtain⟨k,o⟩:=x
  simp only[List.map_cons,find]at *
  split
  ·rfl
  ·exact ih
theorem jxD {xs:List XC} (hh:HRel ρ B hp nx w) (hn:∀h o,find hp h=some o→o.blk (ρ h)=none):HRel ρ B (hpQ xs hp) nx w:=by
 have key:∀h o',find (hpQ xs hp) h=some o'→∃o,find hp h=some o∧o'=jlN hp xs o:=fun h o' hf=>by
  unfold hpQ at hf
  rw[jyW]at hf
  obtain⟨o,ho,rfl⟩:=Option.map_eq_some_iff.1 hf
  exact⟨o,ho,rfl⟩
 have nob:∀h o',find (hpQ xs hp) h=some o'→o'.blk (ρ h)=none:=fun h o' hf=>by
  obtain⟨o,ho,rfl⟩:=key h o' hf
  have:=hn h o ho
  unfold jlN
  split
  ·split
   ·rfl
   ·exact this
  ·exact this
 refine⟨fun h o' hf=>?_,fun h o k o' b hf hf' _ hb=>?_,hh.glob⟩
 ·obtain⟨o,ho,rfl⟩:=key h o' hf
  obtain⟨q1,q2,q3⟩:=hh.ok h o ho
  unfold jlN
  split
  ·split
   ·rename_i X hX
    exact⟨q1,trivial,jjp hh q3 hX⟩
   ·exact⟨q1,q2,q3⟩
  ·exact⟨q1,q2,q3⟩
 ·rw[nob h o hf]at hb
  cases hb
theorem jxE {α:Type} (hp:Hp) (k:Hp→α):fHp hp k=k hp:=by
 unfold fHp
 rw[ja2 fun x k=>by rw[jbs,jv5]]
theorem jA0 {h:Nat} {o:O} (hf:find (jfJ hp) h=some o) (v:Value):o.blk v=none:=by
 rw[jpH]at hf
 obtain⟨o1,_,rfl⟩:=Option.map_eq_some_iff.1 hf
 exact juL v o1
theorem jyX (f:O→O) (hp:Hp) (h:Nat):find (hp.map fun x=>(x.1,f x.2)) h=(find hp h).map f:=by
 induction hp with
 |nil=>rfl
 |cons x r ih =>
  obtain⟨k,o⟩:=x
  simp only[List.map_cons,find]at *
  split
  ·rfl
  ·exact ih
theorem jxF {w':World} {ρ':Env} {B1:Kd} {hp1 hp':Hp} {nx1:Nat} (hh:HRel ρ B hp nx w) (hB:Old B w) (hbel:Below w.heap.size w w') (hag:jae nx ρ ρ') (hle:nx≤nx1) (h1:HRel ρ' B1 hp1 nx1 w') (hB1:∀k,¬B1.all k→w.heap.size≤k)
  (hs:∀h o,find hp' h=some o→((h<nx1∧o.ok ρ' B w' h∧o.lt nx1∧∀v,o.blk v=none)∨(find hp1 h=some o∧jeF o=true))∧nx≤h) :
  HRel ρ' B (hp' ++ hp) nx1 w'∧∀h o k,nx≤h→find (hp' ++ hp) h=some o→o.blk (ρ' h)=some k→w.heap.size≤k:=by
 have hold:=(hh.below hbel hB).agree hag
 have hBn:∀k,¬B1.all k→¬B.all k:=fun k hk hc=>by have:=hB k hc; have:=hB1 k hk; omega
 have new:∀h o k,find hp' h=some o→o.blk (ρ' h)=some k→w.heap.size≤k:=fun h o k hf hb=>by
  rcases(hs h o hf).1 with ⟨_,_,_,hn⟩|⟨hf1,_⟩
  ·rw[hn]at hb; cases hb
  ·exact hB1 k (O.blk_lt (h1.ok h o hf1).2.2 hb).2
 have oldlt:∀h o k,find hp h=some o→o.blk (ρ' h)=some k→k<w.heap.size:=fun h o k hf hb=>by
  have q:=hh.ok h o hf
  rw[hag h q.1]at hb
  exact(O.blk_lt q.2.2 hb).1
 have part:∀h o,find (hp' ++ hp) h=some o→find hp' h=some o∨find hp h=some o:=fun h o hf=>by
  rw[jnc]at hf
  cases hq:find hp' h with
  |some o1=>simp only[hq]at hf; exact .inl hf
  |none=>simp only[hq]at hf; exact .inr hf
 refine⟨⟨fun h o hf=>?_,fun h o h' o' k hf hf' hne hb hb'=>?_,hold.glob⟩,fun h o k hn hf hb=>?_⟩
 ·rcases part h o hf with hq|hq
  ·rcases(hs h o hq).1 with ⟨hlt,q1,q2,_⟩|⟨hf1,hk⟩
   ·exact⟨hlt,q2,q1⟩
   ·have q:=h1.ok h o hf1
    exact⟨q.1,q.2.1,juM hk q.2.2 hBn⟩
  ·have q:=hold.ok h o hq
   exact⟨Nat.lt_of_lt_of_le q.1 hle,O.lt_mono hle q.2.1,q.2.2⟩
 ·rcases part h o hf with hq|hq<;>rcases part h' o' hf' with hq' | hq'
  ·rcases(hs h o hq).1 with ⟨_,_,_,hn⟩|⟨hf1,_⟩
   ·rw[hn]at hb; cases hb
   rcases(hs h' o' hq').1 with ⟨_,_,_,hn⟩|⟨hf1',_⟩
   ·rw[hn]at hb'; cases hb'
   exact h1.apart h o h' o' k hf1 hf1' hne hb hb'
  ·have:=new h o k hq hb
   have:=oldlt h' o' k hq' hb'
   omega
  ·have:=oldlt h o k hq hb
   have:=new h' o' k hq' hb'
   omega
  ·exact hold.apart h o h' o' k hq hq' hne hb hb'
 ·rcases part h o hf with hq|hq
  ·exact new h o k hq hb
  ·have:=(hh.ok h o hq).1
   omega
theorem jt1 {α:Type} {a b:List α} (h:a++b=b):a=[]:=by
 have:=congrArg List.length h
 rw[List.length_append]at this
 exact List.length_eq_zero_iff.1 (by omega)
theorem jAf {f:Nat} {xs:List XC} {shs:List SV} {g0:List Lf→Option GT} {g:List Lf→Option (List RR)} (hs:jaf P f true (jai shs g0))
  (hg:∀ls rs,g ls=some rs→∃t,g0 ls=some t∧t.sel.2=rs∧t.sel.1):jaf P f true (jeU xs shs g):=by
 have key:∀args hp nx t,jeU xs shs g args hp nx=some t→∃(t0:RT) (b:Rw),jai shs g0 (args.map (jgG hp)) (hpQ xs (jfJ hp)) nx=some t0∧t0.sel.ob∧t0.sel.v=jaU b.ws∧t0.sel.hp=b.hp++hpQ xs (jfJ hp)∧t0.sel.nx=b.n ∧
   t=.leaf ⟨True,jaU b.ws,jlc b.hp++hp,b.n⟩∧(jlc b.hp).all (fun x=>Nat.ble nx x.1)=true:=by
  intro args hp nx t h
  unfold jeU at h
  split at h
  ·rename_i ls am hto
   split at h
   ·rename_i rs hrs
    obtain⟨t0,h0,h1,h2⟩:=hg ls rs hrs
    rw[jcV,jxE,jbs]at h
    split at h
    ·rename_i hall
     cases h
     refine⟨t0.toRT am (hpQ xs (jfJ hp)) nx,jb2 am rs nx,?_,?_,?_,?_,?_,rfl,hall⟩
     ·unfold jai
      rw[hto]
      simp only[h0]
     all_goals rw[jbq]
     ·exact h2
     all_goals rw[←h1]
    ·cases h
   ·cases h
  ·cases h
 have rel:∀{ρ:Env} {B:Kd} {w:World} {hp:Hp} {nx:Nat},HRel ρ B hp nx w→Old B w→HRel ρ (kd fun k=>k<w.heap.size) (hpQ xs (jfJ hp)) nx w:=fun hh hB =>
  jxD (jxA hh hB) fun h o hf=>jA0 hf _
 rcases hs with hs|hs
 ·refine .inl ⟨hs.enter,fun ρ B w args hp nx t hS hob hlt hh hB=>?_⟩
  obtain⟨t0,b,h0,h1,h2,h3,h4,rfl,h5⟩:=key args hp nx t hS
  obtain⟨ha1,ha2⟩:=jf5 hh hlt
  have hc:=hs.sound ρ (kd fun k=>k<w.heap.size) w _ _ nx t0 h0 h1 ha2 (rel hh hB) (fun k hk=>jbz.1 hk)
  rw[ha1]at hc
  refine hc.mono ?_
  rintro e w' ⟨ρ',rfl,hL⟩
  obtain⟨B1,gB,q4⟩:=hL.heap
  have hbel:Below w.heap.size w w':=hL.mono rfl
  have hB1:∀k,¬B1.all k→w.heap.size≤k:=fun k hk=>Nat.le_of_not_lt fun hlt=>hk (.inl (gB.le.kp k hlt))
  have hall:=List.all_eq_true.1 h5
  rw[h3,h4]at q4
  obtain⟨r1,r2⟩:=jxF (hp':=jlc b.hp) hh hB hbel hL.agree (by have:=hL.le; rw[h4]at this; exact this) q4 hB1 fun h o hf=>by
   have hn:=Nat.le_of_ble_eq_true (hall _ (jiJ hf))
   unfold jlc at hf
   rw[jyX]at hf
   obtain⟨o1,ho1,rfl⟩:=Option.map_eq_some_iff.1 hf
   have hfa:find (b.hp++hpQ xs (jfJ hp)) h=some o1:=by rw[jnc,ho1]
   refine⟨?_,hn⟩
   unfold jzN
   split
   ·rename_i hk; exact .inr ⟨hfa,hk⟩
   ·refine .inl ⟨(q4.ok h o1 hfa).1,?_⟩
    split
    ·exact⟨trivial,trivial,fun _=>rfl⟩
    ·rename_i hnd
     refine⟨?_,trivial,fun _=>rfl⟩
     have h1:C.one (b.hp++hpQ xs (jfJ hp)) (.o h)=true:=by
      unfold C.one
      simp only[hfa]
     exact C.one_val q4 h1
  refine⟨ρ',by rw[h2]; rfl,hL.agree,?_,?_,HRel.gr r1,jb6 hbel hB,fun _=>hbel,fun _=>r2⟩
  ·have:=hL.lt
   rw[h2,h4]at this
   exact this
  ·have:=hL.le
   rw[h4]at this
   exact this
 ·refine .inr fun ρ B w args hp nx t hS hob hlt hh hB=>?_
  obtain⟨t0,b,h0,h1,h2,h3,h4,rfl,h5⟩:=key args hp nx t hS
  obtain⟨ha1,ha2⟩:=jf5 hh hlt
  obtain⟨ob,v,e1,e2,e3⟩:=hs ρ (kd fun k=>k<w.heap.size) w _ _ nx t0 h0 h1 ha2 (rel hh hB) (fun k hk=>jbz.1 hk)
  rw[e1]at h2 h3 h4
  have hb:=jt1 h3.symm
  rw[hb]
  have hv:v=jaU b.ws:=h2
  refine⟨True,v,?_,e2,by rw[←ha1]; exact e3⟩
  show Res.mk _ _ _ _=_
  rw[hv,←h4]
  rfl
theorem jxG {xs:List XC} {shs:List SV} {g:List Lf→Option (List RR)} {args:List V} {t:RT} (h:jeU xs shs g args hp nx=some t):t.sel.ob:=by
 unfold jeU at h
 split at h
 ·split at h
  ·rw[jcV,jxE,jbs]at h
   split at h
   ·cases h; trivial
   ·cases h
  ·cases h
 ·cases h
end
end Go.Sx
end

section
open Go.RowKit
namespace Go.Sx
def jhc:Code→List Code
 | .seq a b=>jhc a++jhc b
 |c=>[c]
section
variable [Globs] {P:Program} {sp:jaa}
noncomputable def cxL (P:Program) (sp:jaa) (N fuel:Nat):List Code→St→Option (Ex × St)
 |[],st=>some (.normal,st)
 |c::l,st=>jcB (cx P sp N fuel c st) (cxL P sp N fuel l)
theorem jyY (r:Option (Ex × St)):jcB r (fun st=>some (.normal,st))=r:=by
 unfold jcB
 split<;>rfl
theorem jt2 (r:Option (Ex × St)) (f g:St→Option (Ex × St)):jcB (jcB r f) g=jcB r fun st=>jcB (f st) g:=by
 unfold jcB
 cases r with
 |none=>rfl
 |some x =>
  obtain⟨e,st⟩:=x
  cases e<;>rfl
theorem joE {N fuel:Nat}:∀(l l2:List Code) (st:St),cxL P sp N fuel (l++l2) st=jcB (cxL P sp N fuel l st) (cxL P sp N fuel l2)
 |[],l2,st=>rfl
 |c::l,l2,st=>by
  simp only[List.cons_append,cxL]
  rw[jt2]
  congr 1
  funext s
  exact joE l l2 s
theorem juN {N fuel:Nat} (c:Code) (st:St):cxL P sp N fuel [c] st=cx P sp N fuel c st:=jyY _
theorem jAg {N fuel:Nat} (c:Code):∀st:St,cxL P sp N fuel (jhc c) st=cx P sp N fuel c st:=by
 induction c with
 |seq a b iha ihb =>
  intro st
  simp only[jhc]
  rw[joE,iha]
  show jcB (cx P sp N fuel a st) _=jcB (cx P sp N fuel a st) (cx P sp N fuel b)
  congr 1
  funext s
  exact ihb s
 |_=>exact fun st=>juN _ st
theorem jdQ {N fuel:Nat} {c:Code} {l:List Code} {st st':St} {r:Option (Ex × St)} (h:cx P sp N fuel c st=some (.normal,st')) (hl:cxL P sp N fuel l st'=r):cxL P sp N fuel (c::l) st=r:=by
 simp only[cxL,h,jcB]
 exact hl
theorem jxH {f fuel:Nat} {fn:Func} {body:Code} {x:D} {e:Ex} {st:St} {g:List Lf→Option GT} (hm:P.follows .mixedOrders=true) (hsp:jac P sp) (hfr:jbJ sp) (hf:P.funcs[f]?=some fn) (hb:fn.body=some body) (hn:(fn.name == "runtime.NumGoroutine")=false)
  (hcx:cxL P sp fn.ntmps fuel (jhc body) ⟨[],[],0⟩=some (e,st)) (he:∀j,e≠.exit j) (hl:jdm P st fn.results.toList=some [.c (.d x)])
  (hg:∀ls t,g ls=some t→ls=[]∧∃ob,t=.leaf ob [.c (.d x)]):jaf P f true (jai [] g):=by
 refine jsp hf hb hn fun ls t h=>?_
 obtain⟨rfl,ob,rfl⟩:=hg ls t h
 refine⟨ob,x,rfl,fun _ b hbl ρ w hh=>?_⟩
 simp only[je7,Option.some.injEq]at hbl
 subst hbl
 rw[jAg]at hcx
 have hc:=jnb (f:=f) (args:=[]) (B:=kd fun k=>k<w.heap.size) (ρ:=ρ) (w:=w) hsp hfr (fun ρ w=>jcg hm hsp) hf hb (Nat.zero_le _) hcx he hl (fun _ h=>by cases h) hh (fun k hk=>jbz.1 hk)
 refine hc.mono ?_
 rintro e' w' ⟨ρ',rfl,q2,q3,q4,q5⟩
 exact⟨rfl,Bel.below q5⟩
end
end Go.Sx
end

section
open Go Go.RowKit
namespace Go.Sx
section
variable [Globs] {P:Program} {sp:jaa} {ρ ρ0:Env} {B:Kd} {nx N n0:Nat} {hp:Hp} {w w0:World} {st:St} {a:Act} {ds:List Deferred}
theorem jA1 {o:Oper} {t yt:TypeId} {x:Operand} {u:V} {aa:Option Addr} {n cap:Nat} {K:Act→World→Prop} {Q:Exit→Act→World→Prop} (hop:o.op=.binOp .eql t x (.const (.slice none 0 0)) yt) (hd:jb0 N o.dst=true) (hit:jlv P t=true)
  (hx:jb1 st x=some u) (hv:u.val ρ=.slice aa n cap) (hr:RelD ds ρ B N n0 st a w)
  (hK:RelD ds ρ B N n0 (st.put o.dst ⟨True,vb aa.isNone,st.hp,st.nx⟩) (a.put o.dst (.bool aa.isNone)) w→K (a.put o.dst (.bool aa.isNone)) w):o.wp P a w K Q:=by
 obtain⟨ms,hms⟩:∃ms,P.underlying t=some (.slice ms):=by
  unfold jlv at hit
  split at hit
  ·rename_i ms h'; exact⟨ms,h'⟩
  ·cases hit
 have h1:=hr.reads _ _ hx
 have e1:a.eval x=.slice aa n cap:=by rw[h1.2,hv]
 have e2:a.eval (.const (.slice none 0 0))=.slice none 0 0:=rfl
 have heq:(Op.equal t (.slice aa n cap) (.slice none 0 0)).run P w=.ok aa.isNone w:=by
  unfold Op.equal
  rw[show Op.maxDepth=9999+1 from rfl,Op.equalIn]
  cases aa<;>simp only[Sem.run_bind,run_underlying hms,Result.andThen_ok,Sem.run_pure]<;>rfl
 have hg:(eqGuard .eql t x (.const (.slice none 0 0)) (.slice aa n cap) (.slice none 0 0)).run P w=.ok () w:=by
  cases x<;>rfl
 have hb:(binOp .eql t (.slice aa n cap) (.slice none 0 0)).run P w=.ok (.bool aa.isNone) w:=by
  simp only[binOp,Sem.run_bind,heq,Result.andThen_ok,Sem.run_pure]
 have hrun:(execOp a.eval o).run P w=.ok (.value (.bool aa.isNone)) w:=by
  unfold execOp
  simp only[hop,e1,e2,Sem.run_bind,hg,hb,Result.andThen_ok,Sem.run_pure]
 obtain⟨B1,g,hh⟩:=hr.heap
 have hl:Left ρ B1 st.nx w ⟨True,vb aa.isNone,st.hp,st.nx⟩ false ρ w:=⟨jae.refl _ _,trivial,Nat.le_refl _,⟨B1,Grow.refl _ _ _ _,hh⟩,Bel.refl _ _,(fun h=>by cases h),fun h=>by cases h⟩
 have:=hr.put1 (o:=o) g hd hl
 unfold Oper.wp
 rw[hrun]
 exact hK this
theorem jt3 {f:Nat} {fn:Func} {body:Code} {args:List V} {hp0:Hp} {nx0:Nat} {post:V→Hp→Nat→Prop}
  (hf:P.funcs[f]?=some fn) (hb:fn.body=some body) (hlen:args.length≤fn.ntmps)
  (hlt:∀x∈args,V.lt nx0 x) (hn0:n0≤nx0) (ρ:Env) (w:World) (hh:HRel ρ B hp0 nx0 w) (hB:Old B w)
  (h:∀a:Act,Rel ρ B fn.ntmps n0 ⟨jcc 0 args,hp0,nx0⟩ a w→body.wp P (Qx [] ρ B fn.ntmps n0 w (jdG P fn.results.toList post)) a w) :
  Calls P f (args.map (V.val ρ)).toArray w fun e w'=>∃ρ' v hp' nx',e=.returned (v.val ρ')∧v.lt nx'∧jae n0 ρ ρ'∧(∃B',Grow B B' false w' w'∧HRel ρ' B' hp' nx' w')∧Bel B w w'∧Old B w'∧post v hp' nx':=by
 refine calls_of_wp hf hb ?_
 have hrel:=jfn (n0:=n0) hlen hlt hn0 ρ w hh hB
 refine wp_mono (h _ hrel) ?_
 rintro e a' w' ⟨x,ρ',st',rfl,hk,hr',hag',hbl'⟩
 have fin:∀l:List (Prop × W),jed P st' fn.results.toList=some l→jh0 l (post (jaU (l.map (·.2))) st'.hp st'.nx) →
   a'.defers=[]∧∃v,(results fn a'.tmps).run P w'=.ok v w'∧∃ρ' v' hp' nx',Ending.returned v=.returned (v'.val ρ')∧v'.lt nx'∧jae n0 ρ ρ'∧(∃B',Grow B B' false w' w'∧HRel ρ' B' hp' nx' w')∧Bel B w w'∧Old B w'∧post v' hp' nx':=by
  intro l hl ho
  have hra:=jfT hr' _ l _ hl ho
  refine⟨hr'.defers,(jaU (l.map (·.2))).val ρ',?_,ρ',jaU (l.map (·.2)),st'.hp,st'.nx,rfl,jeE (fun y hy=>?_),hag',hr'.heap,hbl',hr'.le,hra.2.2⟩
  ·rw[jcw]
   simp only[jiK,Array.mapM_eq_mapM_toList,Sem.run_bind,Sem.run_map,hra.1,Result.andThen_ok,Sem.run_pure,List.map_map]
   rfl
  ·obtain⟨z,hz,rfl⟩:=List.mem_map.1 hy
   exact hra.2.1 z hz
 cases x with
 |normal =>
  simp only[jdG]at hk
  split at hk
  ·rename_i l hl
   exact fin l hl hk
  ·exact hk.elim
 |exit j=>exact hk.elim
 |ret =>
  simp only[jdG]at hk
  split at hk
  ·rename_i l hl
   exact fin l hl hk
  ·exact hk.elim
theorem jxI {f:Nat} {fn:Func} {body:Code} {shs:List SV} {g:List Lf→Option GT} (hf:P.funcs[f]?=some fn) (hb:fn.body=some body) (hn:(fn.name == "runtime.NumGoroutine")=false)
  (h:∀ls t,g ls=some t→t.sel.1→∀b:Bv,je7 shs 0 ls=some b→(∀x∈b.vs,V.lt b.n x)→∀ρ w,HRel ρ (kd fun k=>k<w.heap.size) b.hp b.n w→Old (kd fun k=>k<w.heap.size) w →
   Calls P f (b.vs.map (V.val ρ)).toArray w fun e w'=>∃ρ' v hp' nx',e=.returned (v.val ρ')∧v.lt nx'∧jae b.n ρ ρ'∧(∃B',Grow (kd fun k=>k<w.heap.size) B' false w' w'∧HRel ρ' B' hp' nx' w')∧Bel (kd fun k=>k<w.heap.size) w w'∧Old (kd fun k=>k<w.heap.size) w'∧jkw b.n t.sel.2 v hp') :
  jaf P f true (jai shs g):=by
 refine .inl ⟨jcz hf hb hn,fun ρ B w args hp nx t hS hob hlt hh hB=>?_⟩
 unfold jai at hS
 split at hS
 ·rename_i ls am hto
  split at hS
  ·rename_i t' hg
   cases hS
   rw[jbq]at hob ⊢
   have hob:t'.sel.1:=hob
   obtain⟨b,ρ0,hbl,q⟩:=jg5 hh hB shs args ls am hto hlt 0 (fun _=>undef) []
   rw[List.append_nil]at hbl
   have hbn:b.n=am.length:=by have:=q.nn; omega
   have hh0:HRel ρ0 (kd fun k=>k<w.heap.size) b.hp b.n w:=by
    refine⟨fun x o hf=>?_,fun x o x' o' k hf hf' _ hb=>?_,ji0 hh.glob hB⟩
    ·obtain⟨_,a2,a3,a4,_⟩:=q.heap x o hf
     exact⟨a2,a3,a4⟩
    ·obtain⟨_,_,_,_,a5⟩:=q.heap x o hf
     rw[a5]at hb
     cases hb
   have hcalls:=h ls t' hg hob b hbl q.lt ρ0 w hh0 (fun k hk=>jbz.1 hk)
   rw[q.val]at hcalls
   refine hcalls.mono ?_
   rintro e w' ⟨ρ',v,hp',nx',rfl,hvlt,hag,⟨Bc,gB,hh'⟩,hbel,hold,hfit⟩
   have hbw:Below w.heap.size w w':=hbel.below
   have hBc:Old Bc w':=gB.old hold
   have hfr:∀k,Bc.fr k→w.heap.size≤k:=fun k hk=>by
    rcases gB.out k hk with h1|h1
    ·exact h1.elim
    ·exact Nat.le_of_not_lt h1
   have hmu:∀k,Bc.mu k≠none→w.heap.size≤k:=fun k hk=>Nat.le_of_not_lt fun hlt=>hk (Bc.dis k (gB.le.kp k hlt))
   let Bn:Kd:=⟨fun k=>B.kp k∨Bc.fr k,fun k=>B.fr k∨Bc.fr k,fun k=>match B.mu k with|some g=>some g|none=>Bc.mu k,fun k hk=>hk.imp (B.sub k) id,fun k hk=>by
    have h1:B.mu k=none:=by
     rcases hk with hk|hk
     ·exact B.dis k hk
     ·have h2:=hfr k hk
      cases hm2:B.mu k with
      |none=>rfl
      |some g=>exact absurd (hB k (.inr (by rw[hm2]; simp))) (Nat.not_lt_of_le h2)
    have h2:Bc.mu k=none:=by
     rcases hk with hk|hk
     ·exact Bc.dis k (gB.le.kp k (hB k (.inl hk)))
     ·exact Bc.dis k (Bc.sub k hk)
    show(match B.mu k with|some g=>some g|none=>Bc.mu k)=none
    rw[h1,h2]⟩
   have hmn:∀k,Bn.mu k=match B.mu k with|some g=>some g|none=>Bc.mu k:=fun _=>rfl
   have hBn:B.Le Bn:=⟨fun k hk=>.inl hk,fun k hk=>.inl hk⟩
   have hBm:B.LeM Bn:=fun k g hk=>by rw[hmn,hk]
   have hna:∀k,Bn.all k→B.all k∨(w.heap.size≤k∧Bc.all k):=fun k hk=>by
    rcases hk with (hk|hk)|hk
    ·exact .inl (.inl hk)
    ·exact .inr ⟨hfr k hk,.inl (Bc.sub k hk)⟩
    ·rw[hmn]at hk
     cases hm2:B.mu k with
     |none=>rw[hm2]at hk; exact .inr ⟨hmu k hk,.inr hk⟩
     |some g=>exact .inl (.inr (by rw[hm2]; simp))
   have gn:Grow B Bn true w w':=⟨hBn,fun k hk=>(hna k hk).imp id fun h=>hBc k h.2,fun k hk=>hk.imp id fun h hb=>absurd (hB k (.inl hb)) (Nat.not_lt_of_le (hfr k h)),fun _=>⟨fun k hk=>(hna k hk).imp id fun h=>h.1,hBm⟩⟩
   have hh1:HRel ρ Bn hp nx w':=(hh.below hbw hB).moreB hBn hBm fun h o k hf hk hb=>by
    have h1:=O.blk_lt (hh.ok h o hf).2.2 hk
    rcases hna k hb with hb|hb
    ·exact h1.2 hb
    ·exact absurd h1.1 (Nat.not_lt_of_le hb.1)
   obtain⟨ws,hws,hfw⟩:∃ws,(jaU ws).val ρ'=v.val ρ'∧jlE b.n hp' t'.sel.2 ws []:=by
    match v,hfit with
    | .w u,hfit=>exact⟨[u],rfl,hfit⟩
    | .t [],hfit=>exact⟨[],rfl,hfit⟩
    | .t (x::y::l),hfit=>exact⟨x::y::l,rfl,hfit⟩
   have hin:CIn ρ ρ' Bn hp hp' nx w.heap.size b.n am w' []:=by
    refine⟨hh1,fun k o b hk hbk=>.inl (O.blk_lt (hh.ok k o hk).2.2 hbk).1,fun i hi=>?_⟩
    have hi2:i<am.length:=by omega
    have h1:=q.own i hi2
    rw[Nat.zero_add]at h1
    refine⟨?_,by rw[hag i hi]; exact h1.symm⟩
    have:am.getD i (.d (.v undef))=am[i]:=by simp[List.getD,hi2]
    rw[this]
    exact q.xlt _ (List.getElem_mem hi2)
   obtain⟨us2,ρ2,k⟩:=ji3 (B:=Bn) (m:=w.heap.size) (fun k hk=>gB.le.kp k hk) (fun k hk=>(hna k hk).elim (fun h=>.inl (gB.le.kp k (hB k h))) (fun h=>h.2)) (fun k hk=>.inr hk) (fun k g hk=>by
    rw[hmn]
    cases hm2:B.mu k with
    |none=>exact hk
    |some g'=>exact absurd (hB k (.inr (by rw[hm2]; simp))) (Nat.not_lt_of_le (hmu k (by rw[hk]; simp)))) hh' t'.sel.2 ws [] hfw nx hp ρ hin
   refine⟨ρ2,?_,k.agree,jeE k.lt,k.le,⟨Bn,gn,k.heap⟩,jb6 hbw hB,fun _=>hbw,fun _ h o b hle hf hbk=>?_⟩
   ·show Ending.returned _=Ending.returned ((jaU (jb2 am t'.sel.2 nx).ws).val ρ2)
    rw[←hws,jcw,jcw]
    simp only[k.val]
   ·have hf:find ((jb2 am t'.sel.2 nx).hp++hp) h=some o:=hf
    rw[jat]at hf
    cases hg2:find (jb2 am t'.sel.2 nx).hp h with
    |some o2=>rw[hg2]at hf; cases hf; exact k.fresh h o b hg2 hbk
    |none =>
     rw[hg2]at hf
     have:=(hh.ok h o hf).1
     omega
  ·cases hS
 ·cases hS
theorem jqg {o:Oper} {r:List Oper} {all:Array Oper} {Q:Exit→Act→World→Prop} (hg:o.guard=none) (h:o.wp P a w (fun a' w'=>wpList P all Q r a' w') Q):wpList P all Q (o::r) a w:=by
 unfold wpList
 rw[if_pos (by simp[Region.wanted,hg])]
 exact .inl h
def joF:Code→Option (List Oper)
 | .region _ ops false=>some ops.toList
 |_=>none
theorem jyZ {c:Code} {l:List Oper} {Q:Exit→Act→World→Prop} (hc:joF c=some l) (h:wpList P l.toArray Q l a w):c.wp P Q a w:=by
 unfold joF at hc
 split at hc
 ·cases hc
  refine wp_region_list ?_
  simpa using h
 ·cases hc
theorem jxJ {fuel:Nat} {loops:jlA} {drawn:Array Oper→St→(St→Prop)→Prop} (hsp:jac P sp) (hdr:jf9 P B N n0 ρ0 w0 drawn) {x y:Code} {cur:Nat} {gs:List Nat} {k:Ex→St→Prop}
  (h:sx P sp N n0 fuel loops drawn (.seq x y) cur gs st k) (hr:RelD ds ρ B N n0 st a w) (hag:jae n0 ρ0 ρ) (hbl:Bel B w0 w):x.wp P (Exit.then (y.wp P (Qx ds ρ0 B N n0 w0 k)) (Qx ds ρ0 B N n0 w0 k)) a w:=by
 unfold sx at h
 refine wp_mono (jbC hsp hdr x cur gs st _ ρ a w h hr hag hbl) ?_
 rintro e a' w' ⟨ex,ρ',st',rfl,hk,hr',hag',hbl'⟩
 cases ex with
 |normal=>exact jbC hsp hdr y cur gs st' k ρ' a' w' hk hr' hag' hbl'
 |exit j=>exact⟨.exit j,ρ',st',rfl,hk,hr',hag',hbl'⟩
 |ret=>exact⟨.ret,ρ',st',rfl,hk,hr',hag',hbl'⟩
def jA2 (P:Program) (sp:jaa) (N:Nat) (R1 CD:Code) (o1 o2:Oper) (x:Operand) (rs:List ResultVar) (c:Cont) (post:List RR):Prop :=
 sx P sp N 1 1 (fun _ _ _=>none) (jcU P sp N) R1 0 [] ⟨jcc 0 [.w (.c (.o 0))],[(0,.ext c)],1⟩ fun ex st=>ex=.normal∧jgp P sp N o1 st fun st=>jb1 st x=some (.w (.c (.o 0))) ∧
  (Ob (c.n=0)→sx P sp N 1 1 (fun _ _ _=>none) (jcU P sp N) CD 0 [] (st.put o2.dst ⟨True,vb true,st.hp,st.nx⟩) (jdG P rs fun v hp _=>jkw 1 post v hp)) ∧
  sx P sp N 1 1 (fun _ _ _=>none) (jcU P sp N) CD 0 [] (st.put o2.dst ⟨True,vb false,st.hp,st.nx⟩) (jdG P rs fun v hp _=>jkw 1 post v hp)
theorem jnd {f:Nat} {fn:Func} {R1 R2 C D:Code} {o1 o2:Oper} {t yt:TypeId} {x:Operand} {c0:Cont} {g:List Lf→Option GT} (hm:P.follows .mixedOrders=true) (hsp:jac P sp) (hf:P.funcs[f]?=some fn) (hb:fn.body=some (.seq R1 (.seq (.seq R2 C) D))) (hn:(fn.name == "runtime.NumGoroutine")=false)
  (hlen:1≤fn.ntmps) (hR2:joF R2=some [o1,o2]) (hg1:o1.guard=none) (hg2:o2.guard=none) (hop:o2.op=.binOp .eql t x (.const (.slice none 0 0)) yt) (hd:jb0 fn.ntmps o2.dst=true) (hit:jlv P t=true)
  (hg:∀ls t,g ls=some t→∃c ob post,ls=[.r c]∧t=.leaf ob post∧(ob→jA2 P sp fn.ntmps R1 (.seq C D) o1 o2 x fn.results.toList c post)):jaf P f true (jai [.c (.r c0)] g):=by
 refine jxI hf hb hn fun ls t ht ho b hbl hlt ρ w hh hB=>?_
 obtain⟨c,ob,post,rfl,rfl,hv⟩:=hg ls t ht
 have hv:=hv ho
 simp only[je7,jrS,jej,Option.map_some,jfY,Option.some.injEq]at hbl
 subst hbl
 have hh:HRel ρ (kd fun k=>k<w.heap.size) [(0,.ext c)] 1 w:=hh
 refine jt3 (args:=[.w (.c (.o 0))]) hf hb hlen hlt (Nat.le_refl _) ρ w hh hB fun a hr=>?_
 obtain⟨aa,cap,hval,hcap,hcell⟩:=(hh.ok 0 _ rfl).2.2.1
 refine wp_seq (wp_mono (jbC hsp (jcg hm hsp) R1 0 [] _ _ ρ a w hv hr (jae.refl _ _) (Bel.refl _ _)) ?_)
 rintro e a1 w1 ⟨ex,ρ1,st1,rfl,⟨rfl,hdo⟩,hr1,hag1,hbl1⟩
 refine wp_seq (wp_seq (jyZ hR2 (jqg hg1 (jeb hsp hr1 hag1 hbl1 hdo fun ρ2 st2 a2 w2 hr2 hag2 hbl2 hk=>?_))))
 obtain⟨hx,hk1,hk2⟩:=hk
 have hval2:(V.w (.c (.o 0))).val ρ2=.slice aa c.n cap:=by
  show ρ2 0=_
  rw[hag2 0 (by omega)]
  exact hval
 refine jqg hg2 (jA1 (u:=.w (.c (.o 0))) hop hd hit hx hval2 hr2 fun hr3=>?_)
 have fin:C.wp P (Exit.then (D.wp P (Qx [] ρ (kd fun k=>k<w.heap.size) fn.ntmps 1 w (jdG P fn.results.toList fun v hp _=>jkw 1 post v hp))) (Qx [] ρ (kd fun k=>k<w.heap.size) fn.ntmps 1 w (jdG P fn.results.toList fun v hp _=>jkw 1 post v hp))) (a2.put o2.dst (.bool aa.isNone)) w2:=by
  cases aa with
  |none =>
   refine jxJ hsp (jcg hm hsp) (hk1 ⟨?_⟩) hr3 hag2 hbl2
   refine Nat.eq_zero_of_not_pos fun hn=>?_
   obtain⟨b,off,e,_⟩:=hcell hn
   cases e
  |some p=>exact jxJ hsp (jcg hm hsp) hk2 hr3 hag2 hbl2
 unfold wpList
 exact fin
end
end Go.Sx
end

section
namespace Go.Sh
open Go Go.Proofs Go.RowKit Go.Sx Go.Sx09
def cl1 (f:Func):Oper:=((joF (Sx09.sub [1,0,0] (Sx09.bodyOf f))).getD []).getD 0 default
def cl2 (f:Func):Oper:=((joF (Sx09.sub [1,0,0] (Sx09.bodyOf f))).getD []).getD 1 default
def jgI:List SV:=[.c (.r (.ints .i64 []))]
def jcd (l:List (Int)):Option (List (Int)):=if l.length*8≤140737488355328 then some l else none
def jeq:List Lf→Option GT
 |[.r (.ints .i64 l)]=>some (.leaf (ok (jcd l)) [.c (.row 3 (.ints .i64 (val (jcd l))))])
 |_=>none
abbrev sp_136:jaa→jaa:=jaG 136 true (jai jgI jeq)
theorem jjz:jaf Tryz.prog 136 true (jai jgI jeq):=by
 refine jnd (sp:=sp0) (fn:=Tryz.f136) (R1:=Sx09.sub [0] (Sx09.bodyOf Tryz.f136)) (R2:=Sx09.sub [1,0,0] (Sx09.bodyOf Tryz.f136)) (C:=Sx09.sub [1,0,1] (Sx09.bodyOf Tryz.f136)) (D:=Sx09.sub [1,1] (Sx09.bodyOf Tryz.f136)) (o1:=cl1 Tryz.f136) (o2:=cl2 Tryz.f136) (t:=31) (yt:=31) (x:=.tmp 3)
  mixed jau Tryz.func136 (by kernel_rfl) (by kernel_rfl) (Nat.le_of_ble_eq_true (by kernel_rfl)) (by kernel_rfl) (by kernel_rfl) (by kernel_rfl) (by kernel_rfl) (by kernel_rfl) (by kernel_rfl) fun ls t h=>?_
 unfold jeq at h
 split at h
 ·rename_i l
  cases h
  refine⟨_,_,_,rfl,rfl,fun ho=>?_⟩
  have hl:l.length*8≤140737488355328:=by
   unfold ok jcd at ho
   split at ho
   ·assumption
   ·cases ho
  have hv:val (jcd l)=l:=by
   unfold jcd
   rw[if_pos hl]
   rfl
  rw[hv]
  refine Eq.mp (by kernel_rfl:(Ex.normal=Ex.normal∧some (V.w (W.c (Sx.C.o 0)))=some (V.w (W.c (Sx.C.o 0)))∧(Ob (l.length=0)→Ob True∧Ob (l.length=0)∧True)∧Ob ((([]:List (Int)).length+l.length)*8≤140737488355328∧([]:List (Int)).length+l.length≤9223372036854775807)∧Ob True∧Ob (([]:List (Int))++l=l)∧True)=_) ?_
  exact⟨rfl,rfl,fun h=>⟨⟨trivial⟩,h,trivial⟩,⟨by simp only[List.length_nil]; omega⟩,⟨trivial⟩,⟨rfl⟩,trivial⟩
 ·cases h
theorem sp_136_ok {sp:jaa} (h:jac Tryz.prog sp):jac Tryz.prog (sp_136 sp):=jar jjz h
def jld:List SV:=[.c (.r (.recs 5 []))]
def jdn (l:List (List Int)):Option (List (List Int)):=if l.length*40≤140737488355328 then some l else none
def jgJ:List Lf→Option GT
 |[.r (.recs 5 l)]=>some (.leaf (ok (jdn l)) [.c (.row 148 (.recs 5 (val (jdn l))))])
 |_=>none
theorem jqS:jaf Tryz.prog 137 true (jai jld jgJ):=by
 refine jnd (sp:=sp0) (fn:=Tryz.f137) (R1:=Sx09.sub [0] (Sx09.bodyOf Tryz.f137)) (R2:=Sx09.sub [1,0,0] (Sx09.bodyOf Tryz.f137)) (C:=Sx09.sub [1,0,1] (Sx09.bodyOf Tryz.f137)) (D:=Sx09.sub [1,1] (Sx09.bodyOf Tryz.f137)) (o1:=cl1 Tryz.f137) (o2:=cl2 Tryz.f137) (t:=116) (yt:=116) (x:=.tmp 3)
  mixed jau Tryz.func137 (by kernel_rfl) (by kernel_rfl) (Nat.le_of_ble_eq_true (by kernel_rfl)) (by kernel_rfl) (by kernel_rfl) (by kernel_rfl) (by kernel_rfl) (by kernel_rfl) (by kernel_rfl) fun ls t h=>?_
 unfold jgJ at h
 split at h
 ·rename_i l
  cases h
  refine⟨_,_,_,rfl,rfl,fun ho=>?_⟩
  have hl:l.length*40≤140737488355328:=by
   unfold ok jdn at ho
   split at ho
   ·assumption
   ·cases ho
  have hv:val (jdn l)=l:=by
   unfold jdn
   rw[if_pos hl]
   rfl
  rw[hv]
  refine Eq.mp (by kernel_rfl:(Ex.normal=Ex.normal∧some (V.w (W.c (Sx.C.o 0)))=some (V.w (W.c (Sx.C.o 0)))∧(Ob (l.length=0)→Ob True∧Ob (l.length=0)∧True)∧Ob ((([]:List (List Int)).length+l.length)*40≤140737488355328∧([]:List (List Int)).length+l.length≤9223372036854775807)∧Ob True∧Ob (([]:List (List Int))++l=l)∧True)=_) ?_
  exact⟨rfl,rfl,fun h=>⟨⟨trivial⟩,h,trivial⟩,⟨by simp only[List.length_nil]; omega⟩,⟨trivial⟩,⟨rfl⟩,trivial⟩
 ·cases h
def jle:List SV:=[.c (.r (.recs 4 []))]
def jdo (l:List (List Int)):Option (List (List Int)):=if l.length*32≤140737488355328 then some l else none
def jgK:List Lf→Option GT
 |[.r (.recs 4 l)]=>some (.leaf (ok (jdo l)) [.c (.row 174 (.recs 4 (val (jdo l))))])
 |_=>none
theorem jqT:jaf Tryz.prog 144 true (jai jle jgK):=by
 refine jnd (sp:=sp0) (fn:=Tryz.f144) (R1:=Sx09.sub [0] (Sx09.bodyOf Tryz.f144)) (R2:=Sx09.sub [1,0,0] (Sx09.bodyOf Tryz.f144)) (C:=Sx09.sub [1,0,1] (Sx09.bodyOf Tryz.f144)) (D:=Sx09.sub [1,1] (Sx09.bodyOf Tryz.f144)) (o1:=cl1 Tryz.f144) (o2:=cl2 Tryz.f144) (t:=158) (yt:=158) (x:=.tmp 3)
  mixed jau Tryz.func144 (by kernel_rfl) (by kernel_rfl) (Nat.le_of_ble_eq_true (by kernel_rfl)) (by kernel_rfl) (by kernel_rfl) (by kernel_rfl) (by kernel_rfl) (by kernel_rfl) (by kernel_rfl) fun ls t h=>?_
 unfold jgK at h
 split at h
 ·rename_i l
  cases h
  refine⟨_,_,_,rfl,rfl,fun ho=>?_⟩
  have hl:l.length*32≤140737488355328:=by
   unfold ok jdo at ho
   split at ho
   ·assumption
   ·cases ho
  have hv:val (jdo l)=l:=by
   unfold jdo
   rw[if_pos hl]
   rfl
  rw[hv]
  refine Eq.mp (by kernel_rfl:(Ex.normal=Ex.normal∧some (V.w (W.c (Sx.C.o 0)))=some (V.w (W.c (Sx.C.o 0)))∧(Ob (l.length=0)→Ob True∧Ob (l.length=0)∧True)∧Ob ((([]:List (List Int)).length+l.length)*32≤140737488355328∧([]:List (List Int)).length+l.length≤9223372036854775807)∧Ob True∧Ob (([]:List (List Int))++l=l)∧True)=_) ?_
  exact⟨rfl,rfl,fun h=>⟨⟨trivial⟩,h,trivial⟩,⟨by simp only[List.length_nil]; omega⟩,⟨trivial⟩,⟨rfl⟩,trivial⟩
 ·cases h
end Go.Sh
end

section
namespace Go.Sh
open Go Go.Proofs Go.RowKit Go.Sx
open Go.IntKind (wrap)
def y141:List SV:=[.a [.d,.x (.st [.s,.i .i64,.ints .i64,.ints .i64,.ints .i64,.i .i64,.recs 5,.i .i64] [])]]
def y8 (u1:List (List NC)) (x0:Int × List Int) (r0:List Int × Bool) (x1:(Int × List Int)):Option ((Int × List Int) ⊕ (Unit ⊕ (List Int))) :=
 if x1.1<(↑(List.length (nL u1 (Int.toNat (List.getD r0.1 x0.1.toNat (0:Int))) (2:Nat))):Int)then
  if 0≤x1.1∧x1.1<(↑(List.length (nL u1 (Int.toNat (List.getD r0.1 x0.1.toNat (0:Int))) (2:Nat))):Int)then
  if Int.toNat x1.1<List.length (nL u1 (Int.toNat (List.getD r0.1 x0.1.toNat (0:Int))) (2:Nat))then
   if 0≤List.getD (nL u1 (Int.toNat (List.getD r0.1 x0.1.toNat (0:Int))) (2:Nat)) x1.1.toNat (0:Int)∧List.getD (nL u1 (Int.toNat (List.getD r0.1 x0.1.toNat (0:Int))) (2:Nat)) x1.1.toNat 0<(↑x1.2.length:Int)then
   if Int.toNat (List.getD (nL u1 (Int.toNat (List.getD r0.1 x0.1.toNat (0:Int))) (2:Nat)) x1.1.toNat (0:Int))<List.length x1.2 then
    if 0≤x1.1∧x1.1<(↑(List.length (nL u1 (Int.toNat (List.getD r0.1 x0.1.toNat (0:Int))) (3:Nat))):Int)then
    if Int.toNat x1.1<List.length (nL u1 (Int.toNat (List.getD r0.1 x0.1.toNat (0:Int))) (3:Nat))then
     if x1.1>0 then
     if 0≤x0.1∧x0.1<(↑r0.1.length:Int)then
      if Int.toNat x0.1<List.length r0.1 then
      if 0≤List.getD r0.1 x0.1.toNat (0:Int)∧List.getD r0.1 x0.1.toNat 0<(↑x1.2.length:Int)then
       if Int.toNat (List.getD r0.1 x0.1.toNat (0:Int))<List.length x1.2 then
       if(wrap .i64 (wrap .i64 (List.getD x1.2 (Int.toNat (List.getD (nL u1 (Int.toNat (List.getD r0.1 x0.1.toNat (0:Int))) (2:Nat)) x1.1.toNat (0:Int))) 0+List.getD (nL u1 (Int.toNat (List.getD r0.1 x0.1.toNat (0:Int))) (3:Nat)) x1.1.toNat (0:Int))+nI u1 (Int.toNat (List.getD r0.1 x0.1.toNat (0:Int))) (5:Nat))!=List.getD x1.2 (Int.toNat (List.getD r0.1 x0.1.toNat (0:Int))) (0:Int))=true then
        some (.inr ((.inl ())))
       else
        if 0≤x0.1∧x0.1<(↑r0.1.length:Int)then
        if Int.toNat x0.1<List.length r0.1 then
         if 0≤List.getD r0.1 x0.1.toNat (0:Int)∧List.getD r0.1 x0.1.toNat 0<(↑x1.2.length:Int)then
         if Int.toNat (List.getD r0.1 x0.1.toNat (0:Int))<List.length x1.2 then
          some (.inl ((wrap .i64 (x1.1+1),List.set x1.2 (Int.toNat (List.getD r0.1 x0.1.toNat (0:Int))) (wrap .i64 (wrap .i64 (List.getD x1.2 (Int.toNat (List.getD (nL u1 (Int.toNat (List.getD r0.1 x0.1.toNat (0:Int))) (2:Nat)) x1.1.toNat (0:Int))) 0+List.getD (nL u1 (Int.toNat (List.getD r0.1 x0.1.toNat (0:Int))) (3:Nat)) x1.1.toNat (0:Int))+nI u1 (Int.toNat (List.getD r0.1 x0.1.toNat (0:Int))) (5:Nat))))))
         else none
         else none
        else none
        else none
       else none
      else none
      else none
     else none
     else
     if 0≤x0.1∧x0.1<(↑r0.1.length:Int)then
      if Int.toNat x0.1<List.length r0.1 then
      if 0≤List.getD r0.1 x0.1.toNat (0:Int)∧List.getD r0.1 x0.1.toNat 0<(↑x1.2.length:Int)then
       if Int.toNat (List.getD r0.1 x0.1.toNat (0:Int))<List.length x1.2 then
       some (.inl ((wrap .i64 (x1.1+1),List.set x1.2 (Int.toNat (List.getD r0.1 x0.1.toNat (0:Int))) (wrap .i64 (wrap .i64 (List.getD x1.2 (Int.toNat (List.getD (nL u1 (Int.toNat (List.getD r0.1 x0.1.toNat (0:Int))) (2:Nat)) x1.1.toNat (0:Int))) 0+List.getD (nL u1 (Int.toNat (List.getD r0.1 x0.1.toNat (0:Int))) (3:Nat)) x1.1.toNat (0:Int))+nI u1 (Int.toNat (List.getD r0.1 x0.1.toNat (0:Int))) (5:Nat))))))
       else none
      else none
      else none
     else none
    else none
    else none
   else none
   else none
  else none
  else none
 else
  some (.inr (.inr x1.2))
def jlf (x0:Int × List Int) (u29:Unit):Option ((Int × List Int) ⊕ (Unit ⊕ (List Int))) :=
 some (.inr ((.inl ())))
def y108 (x0:Int × List Int) (u46:List Int):Option ((Int × List Int) ⊕ (Unit ⊕ (List Int))) :=
 some (.inl ((wrap .i64 (x0.1+1),u46)))
def y128 (x0:Int × List Int):(Unit ⊕ (List Int))→Option ((Int × List Int) ⊕ (Unit ⊕ (List Int))) :=
 (Sum.elim (jlf x0) (y108 x0))
def y11 (u1:List (List NC)) (r0:List Int × Bool) (x0:(Int × List Int)):Option ((Int × List Int) ⊕ (Unit ⊕ (List Int))) :=
 if x0.1<(↑r0.1.length:Int)then
  if 0≤x0.1∧x0.1<(↑r0.1.length:Int)then
  if Int.toNat x0.1<List.length r0.1 then
   if 0≤List.getD r0.1 x0.1.toNat (0:Int)∧List.getD r0.1 x0.1.toNat 0<(↑u1.length:Int)then
   if Int.toNat (List.getD r0.1 x0.1.toNat (0:Int))<List.length u1 then
    Option.bind (jag (y8 u1 x0 r0) big (((0:Int),x0.2))) (y128 x0)
   else none
   else none
  else none
  else none
 else
  some (.inr (.inr x0.2))
def jlg (u5:Unit):Option (List Int × Bool) :=
 some ([],false)
def jlh (u6:List Int):Option (List Int × Bool) :=
 some (u6,true)
def y129:(Unit ⊕ (List Int))→Option (List Int × Bool) :=
 (Sum.elim (jlg) (jlh))
def y6 (u4:ByteArray) (u1:List (List NC)):Option (List Int × Bool) :=
 Option.bind (y1 u4 u1) fun r0 =>
 if 0≤(↑u1.length:Int)∧(↑u1.length:Int)=(↑u1.length:Int)∧(↑(8:Nat):Int)*(↑u1.length:Int)≤281474976710656∧(↑u1.length:Int)≤9223372036854775807 then
  Option.bind (jag (y11 u1 r0) big (((0:Int),List.replicate (Int.toNat (↑u1.length:Int)) (0:Int)))) (y129)
 else none
def y142:List Lf→Option GT
 |[.d (.s u4),.x (.st [.s,.i .i64,.ints .i64,.ints .i64,.ints .i64,.i .i64,.recs 5,.i .i64] u1)]=>some (.leaf (ok (y6 u4 u1)) [.c (.row 3 (.ints .i64 ((val (y6 u4 u1)).1))),.c (.d (.b ((val (y6 u4 u1)).2)))])
 |_=>none
abbrev sp_33:jaa→jaa:=jaG 33 true (jai y141 y142)
abbrev y130 (u4:ByteArray) (u1:List (List NC)) (r:List Int × Bool):Lp ((Int × List Int) × Nat) (Int × List Int) ((Unit ⊕ (List Int))) (List Int × Bool) (List Int × Bool) :=
 ⟨fun z=>z.1,fun z=>z.2,fun z x n=>(x,n),fun z=>y11 u1 (val (y1 u4 u1)),fun z=>y129,fun z=>top r,fun z=>0,[.c fun _=>0,.c fun vv=>vv.1.1,.c fun _=>u4,.c fun _=>(val (y1 u4 u1)).1,.c fun vv=>vv.1.2,.c fun _=>u1]⟩
abbrev jgL (u4:ByteArray) (u1:List (List NC)) (r:List Int × Bool) (m1:Nat):Lp ((Int × List Int) × Nat × (Int × List Int) × Nat) (Int × List Int) ((Unit ⊕ (List Int))) (((Int × List Int) ⊕ (Unit ⊕ (List Int)))) (List Int × Bool) :=
 ⟨fun z=>z.2.2.1,fun z=>z.2.2.2,fun z x n=>(z.1,z.2.1,x,n),fun z=>y8 u1 z.1 (val (y1 u4 u1)),fun z=>y128 z.1,fun z=>(y130 u4 u1 r).cx (z.1,m1),fun z=>z.2.1,[.c fun _=>0,.c fun vv=>vv.1.1,.c fun _=>0,.c fun vv=>vv.2.2.1.1,.c fun _=>u4,.c fun _=>(val (y1 u4 u1)).1,.c fun vv=>vv.2.2.1.2,.c fun vv=>nS u1 (Int.toNat (List.getD (val (y1 u4 u1)).1 vv.1.1.toNat (0:Int))) (0:Nat),.c fun vv=>nI u1 (Int.toNat (List.getD (val (y1 u4 u1)).1 vv.1.1.toNat (0:Int))) (1:Nat),.c fun vv=>nI u1 (Int.toNat (List.getD (val (y1 u4 u1)).1 vv.1.1.toNat (0:Int))) (5:Nat),.c fun vv=>nI u1 (Int.toNat (List.getD (val (y1 u4 u1)).1 vv.1.1.toNat (0:Int))) (7:Nat),.c fun _=>u1,.c fun vv=>nL u1 (Int.toNat (List.getD (val (y1 u4 u1)).1 vv.1.1.toNat (0:Int))) (2:Nat),.c fun vv=>nL u1 (Int.toNat (List.getD (val (y1 u4 u1)).1 vv.1.1.toNat (0:Int))) (3:Nat),.c fun vv=>nL u1 (Int.toNat (List.getD (val (y1 u4 u1)).1 vv.1.1.toNat (0:Int))) (4:Nat),.c fun vv=>nR u1 (Int.toNat (List.getD (val (y1 u4 u1)).1 vv.1.1.toNat (0:Int))) (6:Nat)]⟩
def jne (u4:ByteArray) (u1:List (List NC)) (r:List Int × Bool):Sk (top r) (Option.bind (jag (y11 u1 (val (y1 u4 u1))) big (((0:Int),List.replicate (Int.toNat (↑u1.length:Int)) (0:Int)))) (y129)) :=
 .loop (y130 u4 u1 r) (fun kk=>(((0:Int),List.replicate (Int.toNat (↑u1.length:Int)) (0:Int)),big)) fun z0 =>
 .br
 (.ob (.ob (.ob (.ob (.loop (jgL u4 u1 r z0.2) (fun kk=>(z0.1,kk,((0:Int),z0.1.2),big)) fun z1 =>
 .br
 (.ob (.ob (.ob (.ob (.ob (.ob (.br
 (.ob (.ob (.ob (.ob (.brB
 (.exit (.exit (.obT (.obT (.ret (fun r=>(Ob (List.length r.1=(0:Nat)) ∧
 (Ob (false=r.2) ∧
 True))) ⟨⟨rfl⟩,⟨⟨rfl⟩,trivial⟩⟩)))))
 (.ob (.ob (.ob (.ob (.next))))))))))
 (.ob (.ob (.ob (.ob (.next))))))))))))
 (.exit (.next)))))))
 (.exit (.obT (.obT (.rc))))
def joG (u4:ByteArray) (u1:List (List NC)) (r:List Int × Bool):Sk (top r) (y6 u4 u1) :=
 .call (.ob (jne u4 u1 r))
theorem jnf (u4:ByteArray) (u1:List (List NC)) (r:List Int × Bool) (h:Option.bind (y6 u4 u1) some=some r):ja5 Tryz.f33 ((sp_23 sp0)) (fun gs id _=>match id with
 |0=>some ⟨(Int × List Int) × Nat,fun z=>⟨[(1,.w (.c (.p 1 0 1 0))),(4,.w (.c (.o 2))),(6,.w (.c (.o 3))),(7,.w (.c (.d (.i .i64 z.1.1))))],[(1,.box 24 [.d (.s u4),.o 0]),(2,.row 3 (.ints .i64 ((val (y1 u4 u1)).1))),(3,.row 3 (.ints .i64 z.1.2)),(0,.xext (XC.st [NK.s,NK.i .i64,NK.ints .i64,NK.ints .i64,NK.ints .i64,NK.i .i64,NK.recs (5:Nat),NK.i .i64] u1))],4⟩,fun z=>(y130 u4 u1 r).inv z,fun z=>z.2⟩
 |2=>some ⟨(Int × List Int) × Nat × (Int × List Int) × Nat,fun z=>⟨[(1,.w (.c (.p 1 0 1 0))),(4,.w (.c (.o 2))),(6,.w (.c (.o 3))),(7,.w (.c (.d (.i .i64 (z.1.1))))),(8,.w (.c (.p 4 0 1 0))),(9,.w (.c (.d (.i .i64 z.2.2.1.1))))],[(1,.box 24 [.d (.s u4),.o 0]),(2,.row 3 (.ints .i64 ((val (y1 u4 u1)).1))),(3,.row 3 (.ints .i64 z.2.2.1.2)),(4,.box 118 [.d (.s (nS u1 (Int.toNat (List.getD (val (y1 u4 u1)).1 z.1.1.toNat (0:Int))) (0:Nat))),.d (.i .i64 (nI u1 (Int.toNat (List.getD (val (y1 u4 u1)).1 z.1.1.toNat (0:Int))) (1:Nat))),.o 5,.o 6,.o 7,.d (.i .i64 (nI u1 (Int.toNat (List.getD (val (y1 u4 u1)).1 z.1.1.toNat (0:Int))) (5:Nat))),.o 8,.d (.i .i64 (nI u1 (Int.toNat (List.getD (val (y1 u4 u1)).1 z.1.1.toNat (0:Int))) (7:Nat)))]),(0,.xext (XC.st [NK.s,NK.i .i64,NK.ints .i64,NK.ints .i64,NK.ints .i64,NK.i .i64,NK.recs (5:Nat),NK.i .i64] u1)),(5,.ext (.ints .i64 (nL u1 (Int.toNat (List.getD (val (y1 u4 u1)).1 z.1.1.toNat (0:Int))) (2:Nat)))),(6,.ext (.ints .i64 (nL u1 (Int.toNat (List.getD (val (y1 u4 u1)).1 z.1.1.toNat (0:Int))) (3:Nat)))),(7,.ext (.ints .i64 (nL u1 (Int.toNat (List.getD (val (y1 u4 u1)).1 z.1.1.toNat (0:Int))) (4:Nat)))),(8,.ext (.recs 5 (nR u1 (Int.toNat (List.getD (val (y1 u4 u1)).1 z.1.1.toNat (0:Int))) (6:Nat))))],9⟩,fun z=>(jgL u4 u1 r (gs.getD 0 0)).inv z,fun z=>z.2.2.2⟩
 |_=>none) (ja0 y141 [.d (.s u4),.x (.st [.s,.i .i64,.ints .i64,.ints .i64,.ints .i64,.i .i64,.recs 5,.i .i64] u1)]) [.c (.row 3 (.ints .i64 r.1)),.c (.d (.b r.2))] :=
 Sk.vc (joG u4 u1 r) (by kernel_rfl) h
theorem jng:jaf Tryz.prog 33 true (jai y141 y142):=by
 refine jav (sp:=(sp_23 sp0)) (fn:=Tryz.f33) (body:=bodyOf Tryz.f33) mixed (sp_23_ok jau) Tryz.func33 (by kernel_rfl) (by kernel_rfl) fun ls t h ho b hb=>?_
 unfold y142 at h
 split at h
 ·rename_i u4 u1
  cases h
  obtain rfl:=jaL hb
  exact⟨Nat.le_of_ble_eq_true (by kernel_rfl),_,_,jnf u4 u1 _ (jap ho)⟩
 ·cases h
theorem sp_33_ok {sp:jaa} (h:jac Tryz.prog sp):jac Tryz.prog (sp_33 sp):=jar jng h
end Go.Sh
end

section
namespace Go.Sh
open Go Go.Proofs Go.RowKit Go.Sx
open Go.IntKind (wrap)
def jjq:List SV:=[.a [.r (.ints .i64 []),.d],.c (.d),.c (.d)]
def y52 (u67:List Int) (u68 i by_:Int):Option (List Int × Int) :=
 Option.bind (jcd u67) fun r0 =>
 if(List.length r0+List.length [i])*8≤140737488355328∧List.length r0+List.length [i]≤9223372036854775807 then
  some ((r0++[i],wrap .i64 (u68+by_)))
 else none
def jjr:List Lf→Option GT
 |[.r (.ints .i64 u67),.d (.i .i64 u68),.d (.i .i64 i),.d (.i .i64 by_)]=>some (.leaf (ok (y52 u67 u68 i by_)) [.s [.row 3 (.ints .i64 ((val (y52 u67 u68 i by_)).1)),.d (.i .i64 ((val (y52 u67 u68 i by_)).2))]])
 |_=>none
abbrev sp_133:jaa→jaa:=jaG 133 true (jai jjq jjr)
def jwj (u67:List Int) (u68 i by_:Int) (r:List Int × Int):Sk (top r) (y52 u67 u68 i by_) :=
 .call (.ob (.obT (.rc)))
theorem jt4 (u67:List Int) (u68 i by_:Int) (r:List Int × Int) (h:Option.bind (y52 u67 u68 i by_) some=some r):ja5 Tryz.f133 ((sp_136 sp0)) (fun _ _ _=>none) (ja0 jjq [.r (.ints .i64 u67),.d (.i .i64 u68),.d (.i .i64 i),.d (.i .i64 by_)]) [.s [.row 3 (.ints .i64 r.1),.d (.i .i64 r.2)]] :=
 Sk.vc (jwj u67 u68 i by_ r) (by kernel_rfl) h
theorem jt5:jaf Tryz.prog 133 true (jai jjq jjr):=by
 refine jav (sp:=(sp_136 sp0)) (fn:=Tryz.f133) (body:=bodyOf Tryz.f133) mixed (sp_136_ok jau) Tryz.func133 (by kernel_rfl) (by kernel_rfl) fun ls t h ho b hb=>?_
 unfold jjr at h
 split at h
 ·rename_i u67 u68 i by_
  cases h
  obtain rfl:=jaL hb
  exact⟨Nat.le_of_ble_eq_true (by kernel_rfl),_,_,jt4 u67 u68 i by_ _ (jap ho)⟩
 ·cases h
theorem sp_133_ok {sp:jaa} (h:jac Tryz.prog sp):jac Tryz.prog (sp_133 sp):=jar jt5 h
end Go.Sh
end
