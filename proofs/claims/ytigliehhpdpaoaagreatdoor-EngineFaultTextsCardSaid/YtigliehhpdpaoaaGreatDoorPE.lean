/- Part 5 of the proof of EngineFaultTextsCard: the executor, the mirrors of the functions, the plain facts. -/
import Derived.Test.YtigliehhpdpaoaaGreatDoorPD
import Derived.Lib.AtoiAllCases
import Derived.Lib.ItoaNum
import Derived.Lib.Strings
import Derived.Lib.Split
import Derived.Lib.Join
import Derived.IntWalk
import Derived.Shelf.Strings.Prefix
import Derived.Shelf.Strings.Cut
import Derived.Shelf.Strconv.Itoa3
import Derived.Shelf.Strconv.AtoiAll
import Derived.Test.YtigliehhpdpaoaaGreatDoorProg
import Derived.Lib.ItoaLen
import Derived.Carry
import Derived.ChangeArms
import Derived.OpenShut
import Derived.ChangeShapes
import Derived.ChangeSame
import Derived.SizedLaws
import Derived.WideShapes
import Derived.LaidLaws
import Derived.LaidHandle
import Derived.LaidMore
import Derived.MakeChecks
import Derived.Handed
import Derived.HandedShaped
import Derived.Shelf.Vars
import Derived.Test.YtigliehhpdpaoaaGreatDoorRows
set_option maxRecDepth 100000
set_option linter.unusedSectionVars false
set_option linter.unusedSimpArgs false
set_option linter.unusedVariables false
section
open Go.RowKit
namespace Go.Sx
section
variable [Globs] {P:Program} {B:Kd} {sp:jab} {ρ:Env} {w:World} {hp:Hp} {nx:Nat}
theorem jnw {st:St} {r:ResultVar} {u:W} (h:jlA P st r=some u):∃ob,jhU P st r=some (ob,u)∧ob:=by
 unfold jlA at h
 unfold jhU
 split at h
 ·split at h
  ·rename_i u' hg
   cases h
   exact⟨True,by simp only[hg],trivial⟩
  ·cases h
 ·split at h
  ·rename_i k i e j hg
   split at h
   ·rename_i o hf
    split at h
    ·rename_i ob u' hr hb
     cases h
     exact⟨ob,by simp only[hg,hf,hr],jo3 hr hb⟩
    ·cases h
   ·cases h
  ·cases h
theorem jij {st:St}:∀{rs:List ResultVar} {l:List W},jcW P st rs=some l→∃l',jdx P st rs=some l'∧l'.map (·.2)=l∧∀k:Prop,k→jgj l' k
 |[],l,h=>by
  simp only[jcW,Option.some.injEq]at h
  subst h
  exact⟨[],rfl,rfl,fun _ h=>h⟩
 |r::rs,l,h=>by
  simp only[jcW]at h
  split at h
  ·rename_i x l1 h1 h2
   cases h
   obtain⟨ob,q1,q2⟩:=jnw h1
   obtain⟨l',q3,q4,q5⟩:=jij h2
   refine⟨(ob,x)::l',by simp only[jdx,q1,q3],by simp[q4],fun k hk=>⟨⟨q2⟩,q5 k hk⟩⟩
  ·cases h
theorem jl1 (hh:HRel ρ B hp nx w) {v:V} (hv:v.lt nx):(jfp hp v).val ρ=v.val ρ∧(jfp hp v).lt nx:=by
 unfold jfp
 split
 ·rename_i h
  split
  ·rename_i ty cs hf
   obtain⟨q1,_,k,q3,_⟩:=hh.ok h _ hf
   exact⟨by simp[V.val,W.val,C.val,q3,base],q1⟩
  ·rename_i cs hf
   obtain⟨q1,_,k,o,q3,_⟩:=hh.ok h _ hf
   exact⟨by simp[V.val,W.val,C.val,q3,base],q1⟩
  ·rename_i ty k e r hf
   obtain⟨q1,_,k,q3,_⟩:=hh.ok h _ hf
   exact⟨by simp[V.val,W.val,C.val,q3,base],q1⟩
  ·exact⟨rfl,hv⟩
 ·exact⟨rfl,hv⟩
theorem jeM (hh:HRel ρ B hp nx w) {args:List V} (hlt:∀x∈args,V.lt nx x):(args.map (jfp hp)).map (V.val ρ)=args.map (V.val ρ)∧∀x∈args.map (jfp hp),V.lt nx x:=by
 refine⟨?_,fun x hx=>?_⟩
 ·rw[List.map_map]
  exact List.map_congr_left fun v hv=>(jl1 hh (hlt v hv)).1
 ·obtain⟨v,hv,rfl⟩:=List.mem_map.1 hx
  exact(jl1 hh (hlt v hv)).2
theorem jjV {f fuel:Nat} {fn:Func} {body:Code} {args:List V} {e:Ex} {st:St} {l:List W} (hsp:jad P sp) (hfr:jbs sp) (hdr:∀ρ w,jeQ P B fn.ntmps nx ρ w (jcz P sp fn.ntmps))
  (hf:P.funcs[f]?=some fn) (hb:fn.body=some body) (hlen:args.length≤fn.ntmps) (hcx:cx P sp fn.ntmps fuel body ⟨jbV 0 args,hp,nx⟩=some (e,st)) (he:∀j,e≠.exit j) (hl:jcW P st fn.results.toList=some l)
  (hlt:∀x∈args,V.lt nx x) (hh:HRel ρ B hp nx w) (hB:Old B w) :
  Calls P f (args.map (V.val ρ)).toArray w fun e w'=>∃ρ',e=.returned ((jaK l).val ρ')∧(jaK l).lt st.nx∧jac nx ρ ρ'∧(∃B',Grow B B' false w' w'∧HRel ρ' B' st.hp st.nx w')∧Bel B w w':=by
 refine calls_of_wp hf hb ?_
 have hrel:=jfE (n0:=nx) hlen hlt (Nat.le_refl _) ρ w hh hB
 refine wp_mono (jb0 hsp hfr (hdr ρ w) body _ ρ _ w e st hcx hrel (jac.refl _ _) (Bel.refl _ _)) ?_
 rintro e1 a1 w1 ⟨ex,ρ1,s,rfl,⟨rfl,rfl⟩,hr1,hag1,hbl1⟩
 obtain⟨l',q1,q2,q3⟩:=jij hl
 have fin:a1.defers=[]∧∃v,(results fn a1.tmps).run P w1=.ok v w1∧∃ρ',Ending.returned v=.returned ((jaK l).val ρ')∧(jaK l).lt s.nx∧jac nx ρ ρ'∧(∃B',Grow B B' false w1 w1∧HRel ρ' B' s.hp s.nx w1)∧Bel B w w1:=by
  have hra:=jeG hr1 _ l' True q1 (q3 True trivial)
  refine⟨hr1.defers,(jaK l).val ρ1,?_,ρ1,rfl,jeR (fun y hy=>?_),hag1,hr1.heap,hbl1⟩
  ·rw[jcd]
   simp only[jgO,Array.mapM_eq_mapM_toList,Sem.run_bind,Sem.run_map,hra.1,Result.andThen_ok,Sem.run_pure,←q2,List.map_map]
   rfl
  ·rw[←q2]at hy
   obtain⟨z,hz,rfl⟩:=List.mem_map.1 hy
   exact hra.2.1 z hz
 cases ex with
 |normal=>exact fin
 |exit j=>exact(he j rfl).elim
 |ret=>exact fin
theorem jl2 {α:Type} (n0:Nat) (v:V) (st:St) (k:Hp→α):∃hp',outF n0 v st k=k hp'∧∀h o,find hp' h=some o→find st.hp h=some o:=by
 unfold outF
 obtain⟨m,h1⟩:=jf0 (n0:=n0) (hp:=st.hp) 6 (jmt v 0) (fun m=>hpF (fun h=>Nat.blt h n0||Nat.testBit m h) 0 0 st.hp k)
 rw[h1]
 obtain⟨hp',h2,h3⟩:=jfn (live:=fun h=>Nat.blt h n0||Nat.testBit m h) st.hp 0 0 k
 exact⟨hp',h2,fun h o hf=>(h3 h o hf).1⟩
theorem jl3 {α:Type} (n0:Nat) (v:V) (st:St) (k:Hp→α):∃hp',outN n0 v st k=k hp'∧∀h o,find hp' h=some o→find st.hp h=some o∧n0≤h:=by
 unfold outN
 obtain⟨m,h1⟩:=jf0 (n0:=n0) (hp:=st.hp) 6 (jmt v 0) (fun m=>hpF (fun h=>Nat.ble n0 h&&Nat.testBit m h) 0 0 st.hp k)
 rw[h1]
 obtain⟨hp',h2,h3⟩:=jfn (live:=fun h=>Nat.ble n0 h&&Nat.testBit m h) st.hp 0 0 k
 refine⟨hp',h2,fun h o hf=>⟨(h3 h o hf).1,?_⟩⟩
 have:=(h3 h o hf).2.2
 simp only[Bool.and_eq_true]at this
 exact Nat.le_of_ble_eq_true this.1
theorem jr7 {fn:Func} {body:Code} {fuel:Nat} {args:List V} {t:RT} (h:inl P sp fn body fuel args hp nx=some t):t.sel.ob:=by
 unfold inl at h
 split at h
 ·cases h
 ·split at h
  ·rename_i e st hcx
   split at h
   ·cases h
   ·split at h
    ·rename_i l hl hle
     rw[jcB]at h
     obtain⟨hp',h1,_⟩:=jl2 nx (jaK l) st (fun hp'=>some (RT.leaf ⟨True,jaK l,hp',st.nx⟩))
     rw[h1]at h
     cases h
     trivial
    ·cases h
  ·cases h
theorem jtO {f fuel:Nat} {fn:Func} {body:Code} (hm:P.follows .mixedOrders=true) (hsp:jad P sp) (hfr:jbs sp) (hf:P.funcs[f]?=some fn) (hb:fn.body=some body) (hn:(fn.name == "runtime.NumGoroutine")=false) :
  jan P f false (inl P sp fn body fuel):=by
 refine .inl ⟨jbY hf hb hn,fun ρ B w args hp nx t hS hob hlt hh hB=>?_⟩
 unfold inl at hS
 split at hS
 ·cases hS
 ·rename_i hlen
  have hlen:=Nat.le_of_ble_eq_true hlen
  split at hS
  ·rename_i e st hcx
   have go:∀l,(∀j,e≠.exit j)→jcW P st fn.results.toList=some l→Nat.ble nx st.nx=true→(fV (jaK l) fun v=>outF nx v st fun hp'=>some (RT.leaf ⟨True,v,hp',st.nx⟩))=some t →
     Calls P f (args.map (V.val ρ)).toArray w fun e w'=>∃ρ',e=.returned (t.sel.v.val ρ')∧Left ρ B nx w t.sel false ρ' w':=by
    intro l he hl hle hS
    rw[jcB]at hS
    obtain⟨hp',h1,h2⟩:=jl2 nx (jaK l) st (fun hp'=>some (RT.leaf ⟨True,jaK l,hp',st.nx⟩))
    rw[h1]at hS
    cases hS
    obtain⟨ha1,ha2⟩:=jeM hh hlt
    have hc:=jjV (f:=f) (args:=args.map (jfp hp)) hsp hfr (fun ρ w=>jcg hm hsp) hf hb (by simpa using hlen) hcx he hl ha2 hh hB
    rw[ha1]at hc
    refine hc.mono ?_
    rintro e' w' ⟨ρ',rfl,q2,q3,⟨B',g,q4⟩,q5⟩
    exact⟨ρ',rfl,q3,q2,Nat.le_of_ble_eq_true hle,⟨B',g.weak,q4.sub h2⟩,q5,(fun h=>by cases h),fun h=>by cases h⟩
   split at hS
   ·cases hS
   ·rename_i hne
    split at hS
    ·rename_i l hl hle
     exact go l (fun j e=>hne j e) hl hle hS
    ·cases hS
  ·cases hS
theorem jlB (hp:Hp) (h:Nat):find (jex hp) h=(find hp h).map roO:=by
 induction hp with
 |nil=>rfl
 |cons x r ih =>
  obtain⟨k,o⟩:=x
  simp only[jex,List.map_cons,find]at *
  split
  ·rfl
  ·exact ih
theorem jo5 (v:Value) (o:O):(roO o).blk v=none:=by
 cases o<;>simp only[roO]<;>first
  |rfl
  |(unfold roO.extR; split<;>rfl)
  |(unfold roO.lstR; split<;>rfl)
theorem jq2 (hh:HRel ρ B hp nx w) (hB:Old B w):HRel ρ (kd fun k=>k<w.heap.size) (jex hp) nx w:=by
 have row:∀h o c,find hp h=some o→o.cont=some c→h<nx∧(roO.extR c).lt nx∧(roO.extR c).ok ρ (kd fun k=>k<w.heap.size) w h:=by
  intro h o c hf hc
  obtain⟨q1,q2,q3⟩:=hh.ok h o hf
  have hr:=jaM q3 hc
  unfold roO.extR
  split
  ·exact⟨q1,trivial,trivial⟩
  ·rename_i e he
   exact⟨q1,trivial,hr,jaE.lt hr (by omega)⟩
 have lst:∀h o e n cs,find hp h=some o→o.lst=some (e,n,cs)→(∀c∈cs,C.lt nx c)→h<nx∧(roO.lstR e n cs).lt nx∧(roO.lstR e n cs).ok ρ (kd fun k=>k<w.heap.size) w h:=by
  intro h o e n cs hf hl hlt
  obtain⟨q1,q2,q3⟩:=hh.ok h o hf
  obtain⟨h1,h2,h3⟩:=jbw q3 hl
  unfold roO.lstR
  split
  ·exact⟨q1,trivial,trivial⟩
  ·rename_i e'
   refine⟨q1,hlt,h1,fun a n' cap heq hn=>?_,h2,h3⟩
   obtain⟨a',cap',hv,_,hadr⟩:=h1
   rw[hv]at heq
   cases heq
   obtain⟨b,off,e9⟩:=hadr hn
   cases e9
   have hlen:0<cs.length:=by rw[h2]; exact Nat.mul_pos hn (Nat.succ_pos _)
   have:=h3 0 cs[0] (List.getElem?_eq_getElem hlen)
   rw[hv]at this
   exact World.block_lt_of_cell? w _ this
 refine⟨fun h o' hf=>?_,fun h o k o' b _ hf' _ _ hb'=>?_,hh.glob.sub fun g hg=>hB g (.inl hg)⟩
 ·rw[jlB]at hf
  obtain⟨o,ho,rfl⟩:=Option.map_eq_some_iff.1 hf
  obtain⟨q1,q2,q3⟩:=hh.ok h o ho
  cases o with
  |row ty c=>exact row h _ c ho rfl
  |ext c=>exact row h _ c ho rfl
  |view r c fl=>exact row h _ c ho rfl
  |rrow c=>exact row h _ c ho rfl
  |fext c=>exact row h _ c ho rfl
  |sub r i e j ty c=>exact row h _ c ho rfl
  |box ty cs =>
   obtain⟨k,h1,h2,h3⟩:=q3
   refine⟨q1,q2,k,0,h1,(Array.getElem?_eq_some_iff.1 h3).1,fun j c hj=>?_⟩
   rw[Nat.zero_add,cell_of_row w k _ _ ty (0,0) h3]
   simp[hj]
  |ebox cs =>
   obtain⟨k,o,h1,h2,h3⟩:=q3
   exact⟨q1,q2,k,o,h1,hB k (.inl h2),h3⟩
  |lbox ty e n cs=>exact lst h _ e n cs ho rfl q2
  |lview r e n cs=>exact lst h _ e n cs ho rfl q2.2
  |elist e n cs=>exact⟨q1,q2,q3.1,jaC (fun k hk=>hB k (.inl hk)) q3.2.1,q3.2.2⟩
  |xext X=>exact⟨q1,trivial,IsX.mono (fun k hk=>hB k (.inl hk)) q3⟩
  |_=>exact⟨q1,trivial,trivial⟩
 ·rw[jlB]at hf'
  obtain⟨o1,_,rfl⟩:=Option.map_eq_some_iff.1 hf'
  rw[jo5]at hb'
  cases hb'
theorem jjW (l r:Hp) (h:Nat):find (l++r) h=match find l h with|some o=>some o|none=>find r h:=by
 induction l with
 |nil=>rfl
 |cons x l ih =>
  obtain⟨k,o⟩:=x
  simp only[List.cons_append,find]
  split
  ·rfl
  ·exact ih
theorem jo6 {B1:Kd} {o:O} {h:Nat} (ho:jdU o=true) (hok:o.ok ρ B1 w h) (hB:∀k,¬B1.all k→¬B.all k):o.ok ρ B w h:=by
 cases o with
 |row ty c=>exact⟨hok.1,fun k hk=>hB k (hok.2 k hk)⟩
 |box ty cs=>obtain⟨k,h1,h2,h3⟩:=hok; exact⟨k,h1,hB k h2,h3⟩
 |lbox ty e n cs=>exact⟨hok.1,fun k hk=>hB k (hok.2 k hk)⟩
 |arr ty k e r=>obtain⟨g,h1,h2,h3⟩:=hok; exact⟨g,h1,hB g h2,h3⟩
 |_=>cases ho
theorem jr8 {w':World} {ρ':Env} {B1:Kd} {hp1 hp':Hp} {nx1:Nat} (hh:HRel ρ B hp nx w) (hB:Old B w) (hbel:Below w.heap.size w w') (hag:jac nx ρ ρ') (hle:nx≤nx1) (h1:HRel ρ' B1 hp1 nx1 w') (hB1:∀k,¬B1.all k→w.heap.size≤k)
  (hs:∀h o,find hp' h=some o→find hp1 h=some o∧nx≤h) (hk:hp'.all (fun x=>jdU x.2)=true) :
  HRel ρ' B (hp' ++ hp) nx1 w'∧∀h o k,nx≤h→find (hp' ++ hp) h=some o→o.blk (ρ' h)=some k→w.heap.size≤k:=by
 have hold:=(hh.below hbel hB).agree hag
 have hBn:∀k,¬B1.all k→¬B.all k:=fun k hk hc=>by have:=hB k hc; have:=hB1 k hk; omega
 have own:∀h o,find hp' h=some o→jdU o=true:=fun h o hf=>List.all_eq_true.1 hk _ (jgN hf)
 have new:∀h o k,find hp' h=some o→o.blk (ρ' h)=some k→w.heap.size≤k:=fun h o k hf hb=>hB1 k (O.blk_lt (h1.ok h o (hs h o hf).1).2.2 hb).2
 have oldlt:∀h o k,find hp h=some o→o.blk (ρ' h)=some k→k<w.heap.size:=fun h o k hf hb=>by
  have q:=hh.ok h o hf
  rw[hag h q.1]at hb
  exact(O.blk_lt q.2.2 hb).1
 have part:∀h o,find (hp' ++ hp) h=some o→find hp' h=some o∨find hp h=some o:=fun h o hf=>by
  rw[jjW]at hf
  cases hq:find hp' h with
  |some o1=>simp only[hq]at hf; exact .inl hf
  |none=>simp only[hq]at hf; exact .inr hf
 refine⟨⟨fun h o hf=>?_,fun h o h' o' k hf hf' hne hb hb'=>?_,hold.glob⟩,fun h o k hn hf hb=>?_⟩
 ·rcases part h o hf with hq|hq
  ·have q:=h1.ok h o (hs h o hq).1
   exact⟨q.1,q.2.1,jo6 (own h o hq) q.2.2 hBn⟩
  ·have q:=hold.ok h o hq
   exact⟨Nat.lt_of_lt_of_le q.1 hle,O.lt_mono hle q.2.1,q.2.2⟩
 ·rcases part h o hf with hq|hq<;>rcases part h' o' hf' with hq' | hq'
  ·exact h1.apart h o h' o' k (hs h o hq).1 (hs h' o' hq').1 hne hb hb'
  ·have:=new h o k hq hb
   have:=oldlt h' o' k hq' hb'
   omega
  ·have:=oldlt h o k hq hb
   have:=new h' o' k hq' hb'
   omega
  ·exact hold.apart h o h' o' k hq hq' hne hb hb'
 ·rcases part h o hf with hq|hq
  ·exact new h o k hq hb
  ·have:=(hh.ok h o hq).1
   omega
theorem jtc {f fuel:Nat} {fn:Func} {body:Code} (hm:P.follows .mixedOrders=true) (hsp:jad P sp) (hfr:jbs sp) (hf:P.funcs[f]?=some fn) (hb:fn.body=some body) (hn:(fn.name == "runtime.NumGoroutine")=false) :
  jan P f true (jnv P sp fn body fuel):=by
 refine .inl ⟨jbY hf hb hn,fun ρ B w args hp nx t hS hob hlt hh hB=>?_⟩
 unfold jnv at hS
 split at hS
 ·cases hS
 ·rename_i hlen
  have hlen:=Nat.le_of_ble_eq_true hlen
  split at hS
  ·rename_i e st hcx
   split at hS
   ·cases hS
   ·rename_i hne
    split at hS
    ·rename_i l hl hle
     have hle:=Nat.le_of_ble_eq_true hle
     rw[jcB]at hS
     obtain⟨hp',h1,h2⟩:=jl3 nx (jaK l) st (jnu (jaK l) hp st.nx)
     rw[h1]at hS
     unfold jnu at hS
     split at hS
     ·rename_i hk
      cases hS
      obtain⟨ha1,ha2⟩:=jeM hh hlt
      have hro:=jq2 hh hB
      have hc:=jjV (f:=f) (args:=args.map (jfp hp)) (B:=kd fun k=>k<w.heap.size) hsp hfr (fun ρ w=>jcg hm hsp) hf hb (by simpa using hlen) hcx (fun j e=>hne j e) hl ha2 hro (fun k hk=>(jcj.1 hk))
      rw[ha1]at hc
      refine hc.mono ?_
      rintro e' w' ⟨ρ',rfl,q2,q3,⟨B1,g,q4⟩,q5⟩
      have hbel:Below w.heap.size w w':=Bel.below q5
      have hB1:∀k,¬B1.all k→w.heap.size≤k:=fun k hk=>Nat.le_of_not_lt fun hlt=>hk (.inl (g.le.kp k hlt))
      obtain⟨r1,r2⟩:=jr8 hh hB hbel q3 hle q4 hB1 h2 hk
      exact⟨ρ',rfl,q3,q2,hle,HRel.gr r1,jbA hbel hB,fun _=>hbel,fun _=>r2⟩
     ·cases hS
    ·cases hS
  ·cases hS
theorem jq3 {fn:Func} {body:Code} {fuel:Nat} {args:List V} {t:RT} (h:jnv P sp fn body fuel args hp nx=some t):t.sel.ob:=by
 unfold jnv at h
 split at h
 ·cases h
 ·split at h
  ·rename_i e st hcx
   split at h
   ·cases h
   ·split at h
    ·rename_i l hl hle
     rw[jcB]at h
     obtain⟨hp',h1,_⟩:=jl3 nx (jaK l) st (jnu (jaK l) hp st.nx)
     rw[h1]at h
     unfold jnu at h
     split at h
     ·cases h; trivial
     ·cases h
    ·cases h
  ·cases h
theorem jlC {ov:jab} {ro:Nat→Bool} {fuel:Nat} (hm:P.follows .mixedOrders=true) (hov:jad P ov) (hfo:jbs ov):∀n,jad P (jjT P ov ro fuel n)∧jbs (jjT P ov ro fuel n)
 |0=>⟨(fun f M S h=>by cases h),(fun f M S args hp nx t h=>by cases h)⟩
 |n+1=>by
  obtain⟨ih1,ih2⟩:=jlC hm hov hfo (ro:=ro) (fuel:=fuel) n
  refine⟨fun f M S h=>?_,fun f M S args hp nx t h hS=>?_⟩
  ·unfold jjT at h
   split at h
   ·rename_i x hx
    cases h
    exact hov f M S hx
   ·split at h
    ·rename_i fn hf
     split at h
     ·rename_i body hb hn
      split at h
      ·cases h
       exact jtc hm ih1 ih2 hf hb hn
      ·cases h
       exact jtO hm ih1 ih2 hf hb hn
     ·cases h
    ·cases h
  ·unfold jjT at h
   split at h
   ·rename_i x hx
    cases h
    exact hfo f M S args hp nx t hx hS
   ·split at h
    ·split at h
     ·split at h
      ·cases h
       exact jq3 hS
      ·cases h
       exact jr7 hS
     ·cases h
    ·cases h
end
end Go.Sx
end

section
open Go.RowKit
namespace Go.Sx
section
variable {P:Program} {ρ:Env} {B:Kd} {nx:Nat} {hp:Hp} {w:World}
theorem jq4 (I J:Globs) (ht:I.tab=J.tab) (hh:I.held=J.held) {B:Bd} {w:World} (h:@ja8 I B w):@ja8 J B w:=by
 cases I; cases J
 cases ht; cases hh
 exact h
theorem jik (I J:Globs) (ht:I.tab=J.tab) (hd:I.held=J.held) (h:@HRel I ρ B hp nx w):@HRel J ρ B hp nx w :=
 @HRel.mk J _ _ _ _ _ (@HRel.ok I _ _ _ _ _ h) (@HRel.apart I _ _ _ _ _ h) (jq4 I J ht hd (@HRel.glob I _ _ _ _ _ h))
theorem jl4 (I J:Globs) (ht:I.tab=J.tab) (hd:I.held=J.held) {f:Nat} {M:Bool} {S:Spec} (h:@jan I P f M S):@jan J P f M S:=by
 rcases h with h|h
 ·refine .inl (@RunOK.mk J _ _ _ _ (@RunOK.enter I _ _ _ _ h) fun ρ B w args hp nx t hS ho hl hh hB=>?_)
  refine(@RunOK.sound I _ _ _ _ h ρ B w args hp nx t hS ho hl (jik J I ht.symm hd.symm hh) hB).mono ?_
  rintro e w' ⟨ρ',e1,hL⟩
  obtain⟨B',g,q⟩:=@Left.heap I _ _ _ _ _ _ _ _ hL
  exact⟨ρ',e1,@Left.mk J _ _ _ _ _ _ _ _ (@Left.agree I _ _ _ _ _ _ _ _ hL) (@Left.lt I _ _ _ _ _ _ _ _ hL) (@Left.le I _ _ _ _ _ _ _ _ hL) ⟨B',g,jik I J ht hd q⟩ (@Left.below I _ _ _ _ _ _ _ _ hL) (@Left.mono I _ _ _ _ _ _ _ _ hL) (@Left.fresh I _ _ _ _ _ _ _ _ hL)⟩
 ·exact .inr fun ρ B w args hp nx t hS ho hl hh hB=>h ρ B w args hp nx t hS ho hl (jik J I ht.symm hd.symm hh) hB
end
def jp3 (hp:Hp) (k:NK) (c:C):Option NC :=
 match c with
 | .d (.v (.slice none 0 0))=>jiC k
 | .d x=>match jbb k (.d x)with
  |true=>some (.d x)
  |false=>none
 | .o h=>match find hp h with
  |some (.ext c)=>match jbb k (.r c)with
   |true=>some (.r c)
   |false=>none
  |_=>none
 |_=>none
def jfq (hp:Hp):List NK→List C→Option (List NC)
 |[],[]=>some []
 |k::ks,c::cs=>match jp3 hp k c,jfq hp ks cs with
  |some x,some l=>some (x::l)
  |_,_=>none
 |_,_=>none
def jiR (hp:Hp) (sh:List NK):Nat→List C→Option (List (List NC))
 |0,cs=>match cs with
  |[]=>some []
  |_=>none
 |n+1,cs=>match jfq hp sh (cs.take sh.length),jiR hp sh n (cs.drop sh.length)with
  |some r,some l=>some (r::l)
  |_,_=>none
def jkS (hp:Hp) (e n:Nat) (cs:List C):List XC→Option XC
 |[]=>none
 |x::l=>match Nat.beq x.e e,Nat.beq e x.sh.length,Nat.blt 0 e with
  |true,true,true=>match jiR hp x.sh n cs with
   |some rs=>some (x.mk rs)
   |none=>jkS hp e n cs l
  |_,_,_=>jkS hp e n cs l
def jiS (hp:Hp) (xs:List XC) (o:O):O :=
 match o with
 | .elist e n cs=>match jkS hp e n cs xs with
  |some X=>.xext X
  |none=>o
 |_=>o
def hpQ (xs:List XC) (hp:Hp):Hp:=hp.map fun x=>(x.1,jiS hp xs x.2)
noncomputable def fHp {α:Type} (hp:Hp):(Hp→α)→α:=fL (fun x k=>fN x.1 fun n=>fO x.2 fun o=>k (n,o)) hp
def jsP (o:O):O:=match jdU o with
 |true=>o
 |false=>match o with
  | .dead=>.dead
  |_=>.atom
def jil (hp:Hp):Hp:=hp.map fun x=>(x.1,jsP x.2)
noncomputable def jdY (xs:List XC) (shs:List SV) (g:List Lf→Option (List RR)):Spec:=fun args hp nx =>
 match jh6 (hpQ xs (jex hp)) shs (args.map (jfp hp))with
 |some (ls,am)=>match g ls with
  |some rs=>match jbM am rs nx with
   |b=>fV (jaK b.ws) fun v=>fHp (jil b.hp) fun hp'=>fN b.n fun n=>match hp'.all (fun x=>Nat.ble nx x.1)with
    |true=>some (.leaf ⟨True,v,hp' ++ hp,n⟩)
    |false=>none
  |none=>none
 |none=>none
section
variable [Globs] {P:Program} {ρ:Env} {B:Kd} {nx:Nat} {hp:Hp} {w:World}
theorem jp4 (hh:HRel ρ B hp nx w) {k:NK} {c:C} {x:NC} (h:jp3 hp k c=some x):jbb k x=true∧x.at B.kp w (c.val ρ):=by
 unfold jp3 at h
 split at h
 ·have:=jgI h
  exact⟨this.1,this.2 _ _⟩
 ·split at h
  ·rename_i hk
   cases h
   exact⟨hk,rfl⟩
  ·cases h
 ·rename_i h0
  split at h
  ·rename_i c0 hf
   split at h
   ·rename_i hk
    cases h
    exact⟨hk,(hh.ok _ _ hf).2.2⟩
   ·cases h
  ·cases h
 ·cases h
theorem jjj (hh:HRel ρ B hp nx w):∀{sh:List NK} {cs:List C} {r:List NC},jfq hp sh cs=some r →
  jcw sh r∧cs.length=sh.length∧∀(j:Nat) (x:NC) (c:C),r[j]?=some x→cs[j]?=some c→x.at B.kp w (c.val ρ)
 |[],[],r,h=>by
  simp only[jfq,Option.some.injEq]at h
  subst h
  exact⟨⟨rfl,fun j k x h=>by simp at h⟩,rfl,fun j x c h=>by simp at h⟩
 |[],c::cs,r,h=>by simp[jfq]at h
 |k::sh,[],r,h=>by simp[jfq]at h
 |k::sh,c::cs,r,h=>by
  simp only[jfq]at h
  split at h
  ·rename_i x l hx hl
   simp only[Option.some.injEq]at h
   subst h
   obtain⟨a1,a3⟩:=jp4 hh hx
   obtain⟨b1,b2,b4⟩:=jjj hh hl
   refine⟨⟨by simp[b1.1],fun j k' x' hj hx'=>?_⟩,by simp[b2],fun j x' c' hj hc=>?_⟩
   ·cases j with
    |zero=>simp at hj hx'; subst hj; subst hx'; exact a1
    |succ j=>exact b1.2 j k' x' (by simpa using hj) (by simpa using hx')
   ·cases j with
    |zero =>
     simp at hj hc; subst hj; subst hc
     exact a3
    |succ j=>exact b4 j x' c' (by simpa using hj) (by simpa using hc)
  ·cases h
theorem jkT (hh:HRel ρ B hp nx w) {sh:List NK}:∀{n:Nat} {cs:List C} {rs:List (List NC)},jiR hp sh n cs=some rs →
  rs.length=n∧(∀r∈rs,jcw sh r)∧∀(i j:Nat) (c:C),i<n→j<sh.length→cs[i*sh.length+j]?=some c→((rs.getD i []).getD j (.d (.v undef))).at B.kp w (c.val ρ)
 |0,cs,rs,h=>by
  cases cs with
  |nil =>
   simp only[jiR,Option.some.injEq]at h
   subst h
   exact⟨rfl,(fun _ h=>by cases h),fun i j c hi=>by omega⟩
  |cons c cs=>simp[jiR]at h
 |n+1,cs,rs,h=>by
  simp only[jiR]at h
  split at h
  ·rename_i r l hr hl
   simp only[Option.some.injEq]at h
   subst h
   obtain⟨a1,a2,a3⟩:=jjj hh hr
   obtain⟨b1,b2,b3⟩:=jkT hh hl
   refine⟨by simp[b1],fun r' hr'=>?_,fun i j c hi hj hc=>?_⟩
   ·rcases List.mem_cons.1 hr' with e|e
    ·subst e; exact a1
    ·exact b2 r' e
   ·cases i with
    |zero =>
     rw[Nat.zero_mul,Nat.zero_add]at hc
     have hjr:j<r.length:=by rw[a1.1]; exact hj
     have e1:(r.getD j (.d (.v undef)))=r[j]:=by simp[List.getD,hjr]
     show(r.getD j _).at _ _ _
     rw[e1]
     exact a3 j _ c (List.getElem?_eq_getElem hjr) (by rw[List.getElem?_take_of_lt hj]; exact hc)
    |succ i =>
     show((l.getD i []).getD j _).at _ _ _
     refine b3 i j c (by omega) hj ?_
     rw[List.getElem?_drop]
     rw[←hc]
     congr 1
     rw[Nat.add_mul]; omega
  ·cases h
theorem jhd (hh:HRel ρ B hp nx w) {h e n:Nat} {cs:List C} (hok:(O.elist e n cs).ok ρ B w h):∀{xs:List XC} {X:XC},jkS hp e n cs xs=some X→IsX B.kp w (ρ h) X
 |[],X,hp=>by cases hp
 |x::l,X,hq=>by
  unfold jkS at hq
  split at hq
  ·rename_i h1 h2 h3
   have h1:=Nat.eq_of_beq_eq_true h1
   have h2:=Nat.eq_of_beq_eq_true h2
   split at hq
   ·rename_i rs hrs
    cases hq
    obtain⟨q1,q2,q3,q4⟩:=hok
    obtain⟨a,cap,hv,hc,hadr⟩:=q1
    obtain⟨r1,r2,r3⟩:=jkT hh hrs
    obtain⟨m1,m2,m3⟩:=x.cell_mk r2
    refine⟨a,cap,by rw[m1,r1]; exact hv,by rw[m1,r1]; exact hc,fun hn=>?_⟩
    rw[m1,r1]at hn
    obtain⟨b,off,rfl⟩:=hadr hn
    refine⟨b,off,rfl,?_,fun i j hi hj=>?_⟩
    ·exact q2 _ n cap hv hn
    ·rw[m1]at hi
     rw[m2]at hj ⊢
     have hi':i<n:=by rw[←r1]; exact hi
     have hlt:i*x.e+j<cs.length:=by
      rw[q3,←h1]
      calc i*x.e+j<i*x.e+x.e:=by omega
       _=(i+1)*x.e:=by rw[Nat.add_mul]; omega
       _≤n*x.e:=Nat.mul_le_mul_right _ hi'
     have hget:=List.getElem?_eq_getElem hlt
     have:=q4 _ _ hget
     rw[hv]at this
     refine⟨_,this,?_⟩
     rw[m3 i j hi hj]
     exact r3 i j _ hi' (by rw[←h2,←h1]; exact hj) (by rw[←h2,←h1]; exact hget)
   ·exact jhd hh hok hq
  ·exact jhd hh hok hq
theorem jr9 (xs:List XC) (hp0 hp:Hp) (h:Nat):find (hp.map fun x=>(x.1,jiS hp0 xs x.2)) h=(find hp h).map (jiS hp0 xs):=by
 induction hp with
 |nil=>rfl
 |cons x r ih =>
  obtain⟨k,o⟩:=x
  simp only[List.map_cons,find]at *
  split
  ·rfl
  ·exact ih
theorem jq5 {xs:List XC} (hh:HRel ρ B hp nx w) (hn:∀h o,find hp h=some o→o.blk (ρ h)=none):HRel ρ B (hpQ xs hp) nx w:=by
 have key:∀h o',find (hpQ xs hp) h=some o'→∃o,find hp h=some o∧o'=jiS hp xs o:=fun h o' hf=>by
  unfold hpQ at hf
  rw[jr9]at hf
  obtain⟨o,ho,rfl⟩:=Option.map_eq_some_iff.1 hf
  exact⟨o,ho,rfl⟩
 have nob:∀h o',find (hpQ xs hp) h=some o'→o'.blk (ρ h)=none:=fun h o' hf=>by
  obtain⟨o,ho,rfl⟩:=key h o' hf
  have:=hn h o ho
  unfold jiS
  split
  ·split
   ·rfl
   ·exact this
  ·exact this
 refine⟨fun h o' hf=>?_,fun h o k o' b hf hf' _ hb=>?_,hh.glob⟩
 ·obtain⟨o,ho,rfl⟩:=key h o' hf
  obtain⟨q1,q2,q3⟩:=hh.ok h o ho
  unfold jiS
  split
  ·split
   ·rename_i X hX
    exact⟨q1,trivial,jhd hh q3 hX⟩
   ·exact⟨q1,q2,q3⟩
  ·exact⟨q1,q2,q3⟩
 ·rw[nob h o hf]at hb
  cases hb
theorem jq6 {α:Type} (hp:Hp) (k:Hp→α):fHp hp k=k hp:=by
 unfold fHp
 rw[jaS fun x k=>by rw[jbf,jpR]]
theorem jtP {h:Nat} {o:O} (hf:find (jex hp) h=some o) (v:Value):o.blk v=none:=by
 rw[jlB]at hf
 obtain⟨o1,_,rfl⟩:=Option.map_eq_some_iff.1 hf
 exact jo5 v o1
theorem jsa (f:O→O) (hp:Hp) (h:Nat):find (hp.map fun x=>(x.1,f x.2)) h=(find hp h).map f:=by
 induction hp with
 |nil=>rfl
 |cons x r ih =>
  obtain⟨k,o⟩:=x
  simp only[List.map_cons,find]at *
  split
  ·rfl
  ·exact ih
theorem jq7 {w':World} {ρ':Env} {B1:Kd} {hp1 hp':Hp} {nx1:Nat} (hh:HRel ρ B hp nx w) (hB:Old B w) (hbel:Below w.heap.size w w') (hag:jac nx ρ ρ') (hle:nx≤nx1) (h1:HRel ρ' B1 hp1 nx1 w') (hB1:∀k,¬B1.all k→w.heap.size≤k)
  (hs:∀h o,find hp' h=some o→((h<nx1∧o.ok ρ' B w' h∧o.lt nx1∧∀v,o.blk v=none)∨(find hp1 h=some o∧jdU o=true))∧nx≤h) :
  HRel ρ' B (hp' ++ hp) nx1 w'∧∀h o k,nx≤h→find (hp' ++ hp) h=some o→o.blk (ρ' h)=some k→w.heap.size≤k:=by
 have hold:=(hh.below hbel hB).agree hag
 have hBn:∀k,¬B1.all k→¬B.all k:=fun k hk hc=>by have:=hB k hc; have:=hB1 k hk; omega
 have new:∀h o k,find hp' h=some o→o.blk (ρ' h)=some k→w.heap.size≤k:=fun h o k hf hb=>by
  rcases(hs h o hf).1 with ⟨_,_,_,hn⟩|⟨hf1,_⟩
  ·rw[hn]at hb; cases hb
  ·exact hB1 k (O.blk_lt (h1.ok h o hf1).2.2 hb).2
 have oldlt:∀h o k,find hp h=some o→o.blk (ρ' h)=some k→k<w.heap.size:=fun h o k hf hb=>by
  have q:=hh.ok h o hf
  rw[hag h q.1]at hb
  exact(O.blk_lt q.2.2 hb).1
 have part:∀h o,find (hp' ++ hp) h=some o→find hp' h=some o∨find hp h=some o:=fun h o hf=>by
  rw[jjW]at hf
  cases hq:find hp' h with
  |some o1=>simp only[hq]at hf; exact .inl hf
  |none=>simp only[hq]at hf; exact .inr hf
 refine⟨⟨fun h o hf=>?_,fun h o h' o' k hf hf' hne hb hb'=>?_,hold.glob⟩,fun h o k hn hf hb=>?_⟩
 ·rcases part h o hf with hq|hq
  ·rcases(hs h o hq).1 with ⟨hlt,q1,q2,_⟩|⟨hf1,hk⟩
   ·exact⟨hlt,q2,q1⟩
   ·have q:=h1.ok h o hf1
    exact⟨q.1,q.2.1,jo6 hk q.2.2 hBn⟩
  ·have q:=hold.ok h o hq
   exact⟨Nat.lt_of_lt_of_le q.1 hle,O.lt_mono hle q.2.1,q.2.2⟩
 ·rcases part h o hf with hq|hq<;>rcases part h' o' hf' with hq' | hq'
  ·rcases(hs h o hq).1 with ⟨_,_,_,hn⟩|⟨hf1,_⟩
   ·rw[hn]at hb; cases hb
   rcases(hs h' o' hq').1 with ⟨_,_,_,hn⟩|⟨hf1',_⟩
   ·rw[hn]at hb'; cases hb'
   exact h1.apart h o h' o' k hf1 hf1' hne hb hb'
  ·have:=new h o k hq hb
   have:=oldlt h' o' k hq' hb'
   omega
  ·have:=oldlt h o k hq hb
   have:=new h' o' k hq' hb'
   omega
  ·exact hold.apart h o h' o' k hq hq' hne hb hb'
 ·rcases part h o hf with hq|hq
  ·exact new h o k hq hb
  ·have:=(hh.ok h o hq).1
   omega
theorem joo {α:Type} {a b:List α} (h:a++b=b):a=[]:=by
 have:=congrArg List.length h
 rw[List.length_append]at this
 exact List.length_eq_zero_iff.1 (by omega)
theorem jtd {f:Nat} {xs:List XC} {shs:List SV} {g0:List Lf→Option GT} {g:List Lf→Option (List RR)} (hs:jan P f true (jaO shs g0))
  (hg:∀ls rs,g ls=some rs→∃t,g0 ls=some t∧t.sel.2=rs∧t.sel.1):jan P f true (jdY xs shs g):=by
 have key:∀args hp nx t,jdY xs shs g args hp nx=some t→∃(t0:RT) (b:Rw),jaO shs g0 (args.map (jfp hp)) (hpQ xs (jex hp)) nx=some t0∧t0.sel.ob∧t0.sel.v=jaK b.ws∧t0.sel.hp=b.hp++hpQ xs (jex hp)∧t0.sel.nx=b.n ∧
   t=.leaf ⟨True,jaK b.ws,jil b.hp++hp,b.n⟩∧(jil b.hp).all (fun x=>Nat.ble nx x.1)=true:=by
  intro args hp nx t h
  unfold jdY at h
  split at h
  ·rename_i ls am hto
   split at h
   ·rename_i rs hrs
    obtain⟨t0,h0,h1,h2⟩:=hg ls rs hrs
    rw[jcB,jq6,jbf]at h
    split at h
    ·rename_i hall
     cases h
     refine⟨t0.toRT am (hpQ xs (jex hp)) nx,jbM am rs nx,?_,?_,?_,?_,?_,rfl,hall⟩
     ·unfold jaO
      rw[hto]
      simp only[h0]
     all_goals rw[jaX]
     ·exact h2
     all_goals rw[←h1]
    ·cases h
   ·cases h
  ·cases h
 have rel:∀{ρ:Env} {B:Kd} {w:World} {hp:Hp} {nx:Nat},HRel ρ B hp nx w→Old B w→HRel ρ (kd fun k=>k<w.heap.size) (hpQ xs (jex hp)) nx w:=fun hh hB =>
  jq5 (jq2 hh hB) fun h o hf=>jtP hf _
 rcases hs with hs|hs
 ·refine .inl ⟨hs.enter,fun ρ B w args hp nx t hS hob hlt hh hB=>?_⟩
  obtain⟨t0,b,h0,h1,h2,h3,h4,rfl,h5⟩:=key args hp nx t hS
  obtain⟨ha1,ha2⟩:=jeM hh hlt
  have hc:=hs.sound ρ (kd fun k=>k<w.heap.size) w _ _ nx t0 h0 h1 ha2 (rel hh hB) (fun k hk=>jcj.1 hk)
  rw[ha1]at hc
  refine hc.mono ?_
  rintro e w' ⟨ρ',rfl,hL⟩
  obtain⟨B1,gB,q4⟩:=hL.heap
  have hbel:Below w.heap.size w w':=hL.mono rfl
  have hB1:∀k,¬B1.all k→w.heap.size≤k:=fun k hk=>Nat.le_of_not_lt fun hlt=>hk (.inl (gB.le.kp k hlt))
  have hall:=List.all_eq_true.1 h5
  rw[h3,h4]at q4
  obtain⟨r1,r2⟩:=jq7 (hp':=jil b.hp) hh hB hbel hL.agree (by have:=hL.le; rw[h4]at this; exact this) q4 hB1 fun h o hf=>by
   have hn:=Nat.le_of_ble_eq_true (hall _ (jgN hf))
   unfold jil at hf
   rw[jsa]at hf
   obtain⟨o1,ho1,rfl⟩:=Option.map_eq_some_iff.1 hf
   have hfa:find (b.hp++hpQ xs (jex hp)) h=some o1:=by rw[jjW,ho1]
   refine⟨?_,hn⟩
   unfold jsP
   split
   ·rename_i hk; exact .inr ⟨hfa,hk⟩
   ·refine .inl ⟨(q4.ok h o1 hfa).1,?_⟩
    split
    ·exact⟨trivial,trivial,fun _=>rfl⟩
    ·rename_i hnd
     refine⟨?_,trivial,fun _=>rfl⟩
     have h1:C.one (b.hp++hpQ xs (jex hp)) (.o h)=true:=by
      unfold C.one
      simp only[hfa]
     exact C.one_val q4 h1
  refine⟨ρ',by rw[h2]; rfl,hL.agree,?_,?_,HRel.gr r1,jbA hbel hB,fun _=>hbel,fun _=>r2⟩
  ·have:=hL.lt
   rw[h2,h4]at this
   exact this
  ·have:=hL.le
   rw[h4]at this
   exact this
 ·refine .inr fun ρ B w args hp nx t hS hob hlt hh hB=>?_
  obtain⟨t0,b,h0,h1,h2,h3,h4,rfl,h5⟩:=key args hp nx t hS
  obtain⟨ha1,ha2⟩:=jeM hh hlt
  obtain⟨ob,v,e1,e2,e3⟩:=hs ρ (kd fun k=>k<w.heap.size) w _ _ nx t0 h0 h1 ha2 (rel hh hB) (fun k hk=>jcj.1 hk)
  rw[e1]at h2 h3 h4
  have hb:=joo h3.symm
  rw[hb]
  have hv:v=jaK b.ws:=h2
  refine⟨True,v,?_,e2,by rw[←ha1]; exact e3⟩
  show Res.mk _ _ _ _=_
  rw[hv,←h4]
  rfl
theorem jq8 {xs:List XC} {shs:List SV} {g:List Lf→Option (List RR)} {args:List V} {t:RT} (h:jdY xs shs g args hp nx=some t):t.sel.ob:=by
 unfold jdY at h
 split at h
 ·split at h
  ·rw[jcB,jq6,jbf]at h
   split at h
   ·cases h; trivial
   ·cases h
  ·cases h
 ·cases h
end
end Go.Sx
end

section
open Go.RowKit
namespace Go.Sx
def jfN:Code→List Code
 | .seq a b=>jfN a++jfN b
 |c=>[c]
section
variable [Globs] {P:Program} {sp:jab}
noncomputable def cxL (P:Program) (sp:jab) (N fuel:Nat):List Code→St→Option (Ex × St)
 |[],st=>some (.normal,st)
 |c::l,st=>jch (cx P sp N fuel c st) (cxL P sp N fuel l)
theorem jsb (r:Option (Ex × St)):jch r (fun st=>some (.normal,st))=r:=by
 unfold jch
 split<;>rfl
theorem jop (r:Option (Ex × St)) (f g:St→Option (Ex × St)):jch (jch r f) g=jch r fun st=>jch (f st) g:=by
 unfold jch
 cases r with
 |none=>rfl
 |some x =>
  obtain⟨e,st⟩:=x
  cases e<;>rfl
theorem jkU {N fuel:Nat}:∀(l l2:List Code) (st:St),cxL P sp N fuel (l++l2) st=jch (cxL P sp N fuel l st) (cxL P sp N fuel l2)
 |[],l2,st=>rfl
 |c::l,l2,st=>by
  simp only[List.cons_append,cxL]
  rw[jop]
  congr 1
  funext s
  exact jkU l l2 s
theorem jo7 {N fuel:Nat} (c:Code) (st:St):cxL P sp N fuel [c] st=cx P sp N fuel c st:=jsb _
theorem jte {N fuel:Nat} (c:Code):∀st:St,cxL P sp N fuel (jfN c) st=cx P sp N fuel c st:=by
 induction c with
 |seq a b iha ihb =>
  intro st
  simp only[jfN]
  rw[jkU,iha]
  show jch (cx P sp N fuel a st) _=jch (cx P sp N fuel a st) (cx P sp N fuel b)
  congr 1
  funext s
  exact ihb s
 |_=>exact fun st=>jo7 _ st
theorem jdf {N fuel:Nat} {c:Code} {l:List Code} {st st':St} {r:Option (Ex × St)} (h:cx P sp N fuel c st=some (.normal,st')) (hl:cxL P sp N fuel l st'=r):cxL P sp N fuel (c::l) st=r:=by
 simp only[cxL,h,jch]
 exact hl
theorem jq9 {f fuel:Nat} {fn:Func} {body:Code} {x:D} {e:Ex} {st:St} {g:List Lf→Option GT} (hm:P.follows .mixedOrders=true) (hsp:jad P sp) (hfr:jbs sp) (hf:P.funcs[f]?=some fn) (hb:fn.body=some body) (hn:(fn.name == "runtime.NumGoroutine")=false)
  (hcx:cxL P sp fn.ntmps fuel (jfN body) ⟨[],[],0⟩=some (e,st)) (he:∀j,e≠.exit j) (hl:jcW P st fn.results.toList=some [.c (.d x)])
  (hg:∀ls t,g ls=some t→ls=[]∧∃ob,t=.leaf ob [.c (.d x)]):jan P f true (jaO [] g):=by
 refine jg6 hf hb hn fun ls t h=>?_
 obtain⟨rfl,ob,rfl⟩:=hg ls t h
 refine⟨ob,x,rfl,fun _ b hbl ρ w hh=>?_⟩
 simp only[jdE,Option.some.injEq]at hbl
 subst hbl
 rw[jte]at hcx
 have hc:=jjV (f:=f) (args:=[]) (B:=kd fun k=>k<w.heap.size) (ρ:=ρ) (w:=w) hsp hfr (fun ρ w=>jcg hm hsp) hf hb (Nat.zero_le _) hcx he hl (fun _ h=>by cases h) hh (fun k hk=>jcj.1 hk)
 refine hc.mono ?_
 rintro e' w' ⟨ρ',rfl,q2,q3,q4,q5⟩
 exact⟨rfl,Bel.below q5⟩
end
end Go.Sx
end

section
open Go Go.RowKit
namespace Go.Sx
section
variable [Globs] {P:Program} {sp:jab} {ρ ρ0:Env} {B:Kd} {nx N n0:Nat} {hp:Hp} {w w0:World} {st:St} {a:Act} {ds:List Deferred}
theorem jtQ {o:Oper} {t yt:TypeId} {x:Operand} {u:V} {aa:Option Addr} {n cap:Nat} {K:Act→World→Prop} {Q:Exit→Act→World→Prop} (hop:o.op=.binOp .eql t x (.const (.slice none 0 0)) yt) (hd:jbK N o.dst=true) (hit:jiz P t=true)
  (hx:jbL st x=some u) (hv:u.val ρ=.slice aa n cap) (hr:RelD ds ρ B N n0 st a w)
  (hK:RelD ds ρ B N n0 (st.put o.dst ⟨True,vb aa.isNone,st.hp,st.nx⟩) (a.put o.dst (.bool aa.isNone)) w→K (a.put o.dst (.bool aa.isNone)) w):o.wp P a w K Q:=by
 obtain⟨ms,hms⟩:∃ms,P.underlying t=some (.slice ms):=by
  unfold jiz at hit
  split at hit
  ·rename_i ms h'; exact⟨ms,h'⟩
  ·cases hit
 have h1:=hr.reads _ _ hx
 have e1:a.eval x=.slice aa n cap:=by rw[h1.2,hv]
 have e2:a.eval (.const (.slice none 0 0))=.slice none 0 0:=rfl
 have heq:(Op.equal t (.slice aa n cap) (.slice none 0 0)).run P w=.ok aa.isNone w:=by
  unfold Op.equal
  rw[show Op.maxDepth=9999+1 from rfl,Op.equalIn]
  cases aa<;>simp only[Sem.run_bind,run_underlying hms,Result.andThen_ok,Sem.run_pure]<;>rfl
 have hg:(eqGuard .eql t x (.const (.slice none 0 0)) (.slice aa n cap) (.slice none 0 0)).run P w=.ok () w:=by
  cases x<;>rfl
 have hb:(binOp .eql t (.slice aa n cap) (.slice none 0 0)).run P w=.ok (.bool aa.isNone) w:=by
  simp only[binOp,Sem.run_bind,heq,Result.andThen_ok,Sem.run_pure]
 have hrun:(execOp a.eval o).run P w=.ok (.value (.bool aa.isNone)) w:=by
  unfold execOp
  simp only[hop,e1,e2,Sem.run_bind,hg,hb,Result.andThen_ok,Sem.run_pure]
 obtain⟨B1,g,hh⟩:=hr.heap
 have hl:Left ρ B1 st.nx w ⟨True,vb aa.isNone,st.hp,st.nx⟩ false ρ w:=⟨jac.refl _ _,trivial,Nat.le_refl _,⟨B1,Grow.refl _ _ _ _,hh⟩,Bel.refl _ _,(fun h=>by cases h),fun h=>by cases h⟩
 have:=hr.put1 (o:=o) g hd hl
 unfold Oper.wp
 rw[hrun]
 exact hK this
theorem joq {f:Nat} {fn:Func} {body:Code} {args:List V} {hp0:Hp} {nx0:Nat} {post:V→Hp→Nat→Prop}
  (hf:P.funcs[f]?=some fn) (hb:fn.body=some body) (hlen:args.length≤fn.ntmps)
  (hlt:∀x∈args,V.lt nx0 x) (hn0:n0≤nx0) (ρ:Env) (w:World) (hh:HRel ρ B hp0 nx0 w) (hB:Old B w)
  (h:∀a:Act,Rel ρ B fn.ntmps n0 ⟨jbV 0 args,hp0,nx0⟩ a w→body.wp P (Qx [] ρ B fn.ntmps n0 w (jdy P fn.results.toList post)) a w) :
  Calls P f (args.map (V.val ρ)).toArray w fun e w'=>∃ρ' v hp' nx',e=.returned (v.val ρ')∧v.lt nx'∧jac n0 ρ ρ'∧(∃B',Grow B B' false w' w'∧HRel ρ' B' hp' nx' w')∧Bel B w w'∧Old B w'∧post v hp' nx':=by
 refine calls_of_wp hf hb ?_
 have hrel:=jfE (n0:=n0) hlen hlt hn0 ρ w hh hB
 refine wp_mono (h _ hrel) ?_
 rintro e a' w' ⟨x,ρ',st',rfl,hk,hr',hag',hbl'⟩
 have fin:∀l:List (Prop × W),jdx P st' fn.results.toList=some l→jgj l (post (jaK (l.map (·.2))) st'.hp st'.nx) →
   a'.defers=[]∧∃v,(results fn a'.tmps).run P w'=.ok v w'∧∃ρ' v' hp' nx',Ending.returned v=.returned (v'.val ρ')∧v'.lt nx'∧jac n0 ρ ρ'∧(∃B',Grow B B' false w' w'∧HRel ρ' B' hp' nx' w')∧Bel B w w'∧Old B w'∧post v' hp' nx':=by
  intro l hl ho
  have hra:=jeG hr' _ l _ hl ho
  refine⟨hr'.defers,(jaK (l.map (·.2))).val ρ',?_,ρ',jaK (l.map (·.2)),st'.hp,st'.nx,rfl,jeR (fun y hy=>?_),hag',hr'.heap,hbl',hr'.le,hra.2.2⟩
  ·rw[jcd]
   simp only[jgO,Array.mapM_eq_mapM_toList,Sem.run_bind,Sem.run_map,hra.1,Result.andThen_ok,Sem.run_pure,List.map_map]
   rfl
  ·obtain⟨z,hz,rfl⟩:=List.mem_map.1 hy
   exact hra.2.1 z hz
 cases x with
 |normal =>
  simp only[jdy]at hk
  split at hk
  ·rename_i l hl
   exact fin l hl hk
  ·exact hk.elim
 |exit j=>exact hk.elim
 |ret =>
  simp only[jdy]at hk
  split at hk
  ·rename_i l hl
   exact fin l hl hk
  ·exact hk.elim
theorem jra {f:Nat} {fn:Func} {body:Code} {shs:List SV} {g:List Lf→Option GT} (hf:P.funcs[f]?=some fn) (hb:fn.body=some body) (hn:(fn.name == "runtime.NumGoroutine")=false)
  (h:∀ls t,g ls=some t→t.sel.1→∀b:Bv,jdE shs 0 ls=some b→(∀x∈b.vs,V.lt b.n x)→∀ρ w,HRel ρ (kd fun k=>k<w.heap.size) b.hp b.n w→Old (kd fun k=>k<w.heap.size) w →
   Calls P f (b.vs.map (V.val ρ)).toArray w fun e w'=>∃ρ' v hp' nx',e=.returned (v.val ρ')∧v.lt nx'∧jac b.n ρ ρ'∧(∃B',Grow (kd fun k=>k<w.heap.size) B' false w' w'∧HRel ρ' B' hp' nx' w')∧Bel (kd fun k=>k<w.heap.size) w w'∧Old (kd fun k=>k<w.heap.size) w'∧jjI b.n t.sel.2 v hp') :
  jan P f true (jaO shs g):=by
 refine .inl ⟨jbY hf hb hn,fun ρ B w args hp nx t hS hob hlt hh hB=>?_⟩
 unfold jaO at hS
 split at hS
 ·rename_i ls am hto
  split at hS
  ·rename_i t' hg
   cases hS
   rw[jaX]at hob ⊢
   have hob:t'.sel.1:=hob
   obtain⟨b,ρ0,hbl,q⟩:=jep hh hB shs args ls am hto hlt 0 (fun _=>undef) []
   rw[List.append_nil]at hbl
   have hbn:b.n=am.length:=by have:=q.nn; omega
   have hh0:HRel ρ0 (kd fun k=>k<w.heap.size) b.hp b.n w:=by
    refine⟨fun x o hf=>?_,fun x o x' o' k hf hf' _ hb=>?_,jfb hh.glob hB⟩
    ·obtain⟨_,a2,a3,a4,_⟩:=q.heap x o hf
     exact⟨a2,a3,a4⟩
    ·obtain⟨_,_,_,_,a5⟩:=q.heap x o hf
     rw[a5]at hb
     cases hb
   have hcalls:=h ls t' hg hob b hbl q.lt ρ0 w hh0 (fun k hk=>jcj.1 hk)
   rw[q.val]at hcalls
   refine hcalls.mono ?_
   rintro e w' ⟨ρ',v,hp',nx',rfl,hvlt,hag,⟨Bc,gB,hh'⟩,hbel,hold,hfit⟩
   have hbw:Below w.heap.size w w':=hbel.below
   have hBc:Old Bc w':=gB.old hold
   have hfr:∀k,Bc.fr k→w.heap.size≤k:=fun k hk=>by
    rcases gB.out k hk with h1|h1
    ·exact h1.elim
    ·exact Nat.le_of_not_lt h1
   have hmu:∀k,Bc.mu k≠none→w.heap.size≤k:=fun k hk=>Nat.le_of_not_lt fun hlt=>hk (Bc.dis k (gB.le.kp k hlt))
   let Bn:Kd:=⟨fun k=>B.kp k∨Bc.fr k,fun k=>B.fr k∨Bc.fr k,fun k=>match B.mu k with|some g=>some g|none=>Bc.mu k,fun k hk=>hk.imp (B.sub k) id,fun k hk=>by
    have h1:B.mu k=none:=by
     rcases hk with hk|hk
     ·exact B.dis k hk
     ·have h2:=hfr k hk
      cases hm2:B.mu k with
      |none=>rfl
      |some g=>exact absurd (hB k (.inr (by rw[hm2]; simp))) (Nat.not_lt_of_le h2)
    have h2:Bc.mu k=none:=by
     rcases hk with hk|hk
     ·exact Bc.dis k (gB.le.kp k (hB k (.inl hk)))
     ·exact Bc.dis k (Bc.sub k hk)
    show(match B.mu k with|some g=>some g|none=>Bc.mu k)=none
    rw[h1,h2]⟩
   have hmn:∀k,Bn.mu k=match B.mu k with|some g=>some g|none=>Bc.mu k:=fun _=>rfl
   have hBn:B.Le Bn:=⟨fun k hk=>.inl hk,fun k hk=>.inl hk⟩
   have hBm:B.LeM Bn:=fun k g hk=>by rw[hmn,hk]
   have hna:∀k,Bn.all k→B.all k∨(w.heap.size≤k∧Bc.all k):=fun k hk=>by
    rcases hk with (hk|hk)|hk
    ·exact .inl (.inl hk)
    ·exact .inr ⟨hfr k hk,.inl (Bc.sub k hk)⟩
    ·rw[hmn]at hk
     cases hm2:B.mu k with
     |none=>rw[hm2]at hk; exact .inr ⟨hmu k hk,.inr hk⟩
     |some g=>exact .inl (.inr (by rw[hm2]; simp))
   have gn:Grow B Bn true w w':=⟨hBn,fun k hk=>(hna k hk).imp id fun h=>hBc k h.2,fun k hk=>hk.imp id fun h hb=>absurd (hB k (.inl hb)) (Nat.not_lt_of_le (hfr k h)),fun _=>⟨fun k hk=>(hna k hk).imp id fun h=>h.1,hBm⟩⟩
   have hh1:HRel ρ Bn hp nx w':=(hh.below hbw hB).moreB hBn hBm fun h o k hf hk hb=>by
    have h1:=O.blk_lt (hh.ok h o hf).2.2 hk
    rcases hna k hb with hb|hb
    ·exact h1.2 hb
    ·exact absurd h1.1 (Nat.not_lt_of_le hb.1)
   obtain⟨ws,hws,hfw⟩:∃ws,(jaK ws).val ρ'=v.val ρ'∧jiK b.n hp' t'.sel.2 ws []:=by
    match v,hfit with
    | .w u,hfit=>exact⟨[u],rfl,hfit⟩
    | .t [],hfit=>exact⟨[],rfl,hfit⟩
    | .t (x::y::l),hfit=>exact⟨x::y::l,rfl,hfit⟩
   have hin:CIn ρ ρ' Bn hp hp' nx w.heap.size b.n am w' []:=by
    refine⟨hh1,fun k o b hk hbk=>.inl (O.blk_lt (hh.ok k o hk).2.2 hbk).1,fun i hi=>?_⟩
    have hi2:i<am.length:=by omega
    have h1:=q.own i hi2
    rw[Nat.zero_add]at h1
    refine⟨?_,by rw[hag i hi]; exact h1.symm⟩
    have:am.getD i (.d (.v undef))=am[i]:=by simp[List.getD,hi2]
    rw[this]
    exact q.xlt _ (List.getElem_mem hi2)
   obtain⟨us2,ρ2,k⟩:=jg4 (B:=Bn) (m:=w.heap.size) (fun k hk=>gB.le.kp k hk) (fun k hk=>(hna k hk).elim (fun h=>.inl (gB.le.kp k (hB k h))) (fun h=>h.2)) (fun k hk=>.inr hk) (fun k g hk=>by
    rw[hmn]
    cases hm2:B.mu k with
    |none=>exact hk
    |some g'=>exact absurd (hB k (.inr (by rw[hm2]; simp))) (Nat.not_lt_of_le (hmu k (by rw[hk]; simp)))) hh' t'.sel.2 ws [] hfw nx hp ρ hin
   refine⟨ρ2,?_,k.agree,jeR k.lt,k.le,⟨Bn,gn,k.heap⟩,jbA hbw hB,fun _=>hbw,fun _ h o b hle hf hbk=>?_⟩
   ·show Ending.returned _=Ending.returned ((jaK (jbM am t'.sel.2 nx).ws).val ρ2)
    rw[←hws,jcd,jcd]
    simp only[k.val]
   ·have hf:find ((jbM am t'.sel.2 nx).hp++hp) h=some o:=hf
    rw[jam]at hf
    cases hg2:find (jbM am t'.sel.2 nx).hp h with
    |some o2=>rw[hg2]at hf; cases hf; exact k.fresh h o b hg2 hbk
    |none =>
     rw[hg2]at hf
     have:=(hh.ok h o hf).1
     omega
  ·cases hS
 ·cases hS
theorem jl5 {o:Oper} {r:List Oper} {all:Array Oper} {Q:Exit→Act→World→Prop} (hg:o.guard=none) (h:o.wp P a w (fun a' w'=>wpList P all Q r a' w') Q):wpList P all Q (o::r) a w:=by
 unfold wpList
 rw[if_pos (by simp[Region.wanted,hg])]
 exact .inl h
def jkV:Code→Option (List Oper)
 | .region _ ops false=>some ops.toList
 |_=>none
theorem jsc {c:Code} {l:List Oper} {Q:Exit→Act→World→Prop} (hc:jkV c=some l) (h:wpList P l.toArray Q l a w):c.wp P Q a w:=by
 unfold jkV at hc
 split at hc
 ·cases hc
  refine wp_region_list ?_
  simpa using h
 ·cases hc
theorem jrb {fuel:Nat} {loops:jiE} {drawn:Array Oper→St→(St→Prop)→Prop} (hsp:jad P sp) (hdr:jeQ P B N n0 ρ0 w0 drawn) {x y:Code} {cur:Nat} {gs:List Nat} {k:Ex→St→Prop}
  (h:sx P sp N n0 fuel loops drawn (.seq x y) cur gs st k) (hr:RelD ds ρ B N n0 st a w) (hag:jac n0 ρ0 ρ) (hbl:Bel B w0 w):x.wp P (Exit.then (y.wp P (Qx ds ρ0 B N n0 w0 k)) (Qx ds ρ0 B N n0 w0 k)) a w:=by
 unfold sx at h
 refine wp_mono (jbo hsp hdr x cur gs st _ ρ a w h hr hag hbl) ?_
 rintro e a' w' ⟨ex,ρ',st',rfl,hk,hr',hag',hbl'⟩
 cases ex with
 |normal=>exact jbo hsp hdr y cur gs st' k ρ' a' w' hk hr' hag' hbl'
 |exit j=>exact⟨.exit j,ρ',st',rfl,hk,hr',hag',hbl'⟩
 |ret=>exact⟨.ret,ρ',st',rfl,hk,hr',hag',hbl'⟩
def jtR (P:Program) (sp:jab) (N:Nat) (R1 CD:Code) (o1 o2:Oper) (x:Operand) (rs:List ResultVar) (c:Cont) (post:List RR):Prop :=
 sx P sp N 1 1 (fun _ _ _=>none) (jcz P sp N) R1 0 [] ⟨jbV 0 [.w (.c (.o 0))],[(0,.ext c)],1⟩ fun ex st=>ex=.normal∧je6 P sp N o1 st fun st=>jbL st x=some (.w (.c (.o 0))) ∧
  (Ob (c.n=0)→sx P sp N 1 1 (fun _ _ _=>none) (jcz P sp N) CD 0 [] (st.put o2.dst ⟨True,vb true,st.hp,st.nx⟩) (jdy P rs fun v hp _=>jjI 1 post v hp)) ∧
  sx P sp N 1 1 (fun _ _ _=>none) (jcz P sp N) CD 0 [] (st.put o2.dst ⟨True,vb false,st.hp,st.nx⟩) (jdy P rs fun v hp _=>jjI 1 post v hp)
theorem jjX {f:Nat} {fn:Func} {R1 R2 C D:Code} {o1 o2:Oper} {t yt:TypeId} {x:Operand} {c0:Cont} {g:List Lf→Option GT} (hm:P.follows .mixedOrders=true) (hsp:jad P sp) (hf:P.funcs[f]?=some fn) (hb:fn.body=some (.seq R1 (.seq (.seq R2 C) D))) (hn:(fn.name == "runtime.NumGoroutine")=false)
  (hlen:1≤fn.ntmps) (hR2:jkV R2=some [o1,o2]) (hg1:o1.guard=none) (hg2:o2.guard=none) (hop:o2.op=.binOp .eql t x (.const (.slice none 0 0)) yt) (hd:jbK fn.ntmps o2.dst=true) (hit:jiz P t=true)
  (hg:∀ls t,g ls=some t→∃c ob post,ls=[.r c]∧t=.leaf ob post∧(ob→jtR P sp fn.ntmps R1 (.seq C D) o1 o2 x fn.results.toList c post)):jan P f true (jaO [.c (.r c0)] g):=by
 refine jra hf hb hn fun ls t ht ho b hbl hlt ρ w hh hB=>?_
 obtain⟨c,ob,post,rfl,rfl,hv⟩:=hg ls t ht
 have hv:=hv ho
 simp only[jdE,jnj,jdD,Option.map_some,jiJ,Option.some.injEq]at hbl
 subst hbl
 have hh:HRel ρ (kd fun k=>k<w.heap.size) [(0,.ext c)] 1 w:=hh
 refine joq (args:=[.w (.c (.o 0))]) hf hb hlen hlt (Nat.le_refl _) ρ w hh hB fun a hr=>?_
 obtain⟨aa,cap,hval,hcap,hcell⟩:=(hh.ok 0 _ rfl).2.2.1
 refine wp_seq (wp_mono (jbo hsp (jcg hm hsp) R1 0 [] _ _ ρ a w hv hr (jac.refl _ _) (Bel.refl _ _)) ?_)
 rintro e a1 w1 ⟨ex,ρ1,st1,rfl,⟨rfl,hdo⟩,hr1,hag1,hbl1⟩
 refine wp_seq (wp_seq (jsc hR2 (jl5 hg1 (jdv hsp hr1 hag1 hbl1 hdo fun ρ2 st2 a2 w2 hr2 hag2 hbl2 hk=>?_))))
 obtain⟨hx,hk1,hk2⟩:=hk
 have hval2:(V.w (.c (.o 0))).val ρ2=.slice aa c.n cap:=by
  show ρ2 0=_
  rw[hag2 0 (by omega)]
  exact hval
 refine jl5 hg2 (jtQ (u:=.w (.c (.o 0))) hop hd hit hx hval2 hr2 fun hr3=>?_)
 have fin:C.wp P (Exit.then (D.wp P (Qx [] ρ (kd fun k=>k<w.heap.size) fn.ntmps 1 w (jdy P fn.results.toList fun v hp _=>jjI 1 post v hp))) (Qx [] ρ (kd fun k=>k<w.heap.size) fn.ntmps 1 w (jdy P fn.results.toList fun v hp _=>jjI 1 post v hp))) (a2.put o2.dst (.bool aa.isNone)) w2:=by
  cases aa with
  |none =>
   refine jrb hsp (jcg hm hsp) (hk1 ⟨?_⟩) hr3 hag2 hbl2
   refine Nat.eq_zero_of_not_pos fun hn=>?_
   obtain⟨b,off,e,_⟩:=hcell hn
   cases e
  |some p=>exact jrb hsp (jcg hm hsp) hk2 hr3 hag2 hbl2
 unfold wpList
 exact fin
end
end Go.Sx
end

section
namespace Go.Sh
open Go Go.Proofs Go.RowKit Go.Sx Go.Sx09
def cl1 (f:Func):Oper:=((jkV (Sx09.sub [1,0,0] (Sx09.bodyOf f))).getD []).getD 0 default
def cl2 (f:Func):Oper:=((jkV (Sx09.sub [1,0,0] (Sx09.bodyOf f))).getD []).getD 1 default
def jim:List SV:=[.c (.r (.ints .i64 []))]
def jcX (l:List (Int)):Option (List (Int)):=if l.length*8≤140737488355328 then some l else none
def jfr:List Lf→Option GT
 |[.r (.ints .i64 l)]=>some (.leaf (ok (jcX l)) [.c (.row 3 (.ints .i64 (val (jcX l))))])
 |_=>none
theorem jmi:jan Tryz.prog 43 true (jaO jim jfr):=by
 refine jjX (sp:=sp0) (fn:=Tryz.f43) (R1:=Sx09.sub [0] (Sx09.bodyOf Tryz.f43)) (R2:=Sx09.sub [1,0,0] (Sx09.bodyOf Tryz.f43)) (C:=Sx09.sub [1,0,1] (Sx09.bodyOf Tryz.f43)) (D:=Sx09.sub [1,1] (Sx09.bodyOf Tryz.f43)) (o1:=cl1 Tryz.f43) (o2:=cl2 Tryz.f43) (t:=33) (yt:=33) (x:=.tmp 3)
  mixed jfe Tryz.func43 (by kernel_rfl) (by kernel_rfl) (Nat.le_of_ble_eq_true (by kernel_rfl)) (by kernel_rfl) (by kernel_rfl) (by kernel_rfl) (by kernel_rfl) (by kernel_rfl) (by kernel_rfl) fun ls t h=>?_
 unfold jfr at h
 split at h
 ·rename_i l
  cases h
  refine⟨_,_,_,rfl,rfl,fun ho=>?_⟩
  have hl:l.length*8≤140737488355328:=by
   unfold ok jcX at ho
   split at ho
   ·assumption
   ·cases ho
  have hv:val (jcX l)=l:=by
   unfold jcX
   rw[if_pos hl]
   rfl
  rw[hv]
  refine Eq.mp (by kernel_rfl:(Ex.normal=Ex.normal∧some (V.w (W.c (Sx.C.o 0)))=some (V.w (W.c (Sx.C.o 0)))∧(Ob (l.length=0)→Ob True∧Ob (l.length=0)∧True)∧Ob ((([]:List (Int)).length+l.length)*8≤140737488355328∧([]:List (Int)).length+l.length≤9223372036854775807)∧Ob True∧Ob (([]:List (Int))++l=l)∧True)=_) ?_
  exact⟨rfl,rfl,fun h=>⟨⟨trivial⟩,h,trivial⟩,⟨by simp only[List.length_nil]; omega⟩,⟨trivial⟩,⟨rfl⟩,trivial⟩
 ·cases h
def jin:List SV:=[.c (.r (.recs 5 []))]
def jcY (l:List (List Int)):Option (List (List Int)):=if l.length*40≤140737488355328 then some l else none
def jfs:List Lf→Option GT
 |[.r (.recs 5 l)]=>some (.leaf (ok (jcY l)) [.c (.row 103 (.recs 5 (val (jcY l))))])
 |_=>none
theorem jmj:jan Tryz.prog 44 true (jaO jin jfs):=by
 refine jjX (sp:=sp0) (fn:=Tryz.f44) (R1:=Sx09.sub [0] (Sx09.bodyOf Tryz.f44)) (R2:=Sx09.sub [1,0,0] (Sx09.bodyOf Tryz.f44)) (C:=Sx09.sub [1,0,1] (Sx09.bodyOf Tryz.f44)) (D:=Sx09.sub [1,1] (Sx09.bodyOf Tryz.f44)) (o1:=cl1 Tryz.f44) (o2:=cl2 Tryz.f44) (t:=64) (yt:=64) (x:=.tmp 3)
  mixed jfe Tryz.func44 (by kernel_rfl) (by kernel_rfl) (Nat.le_of_ble_eq_true (by kernel_rfl)) (by kernel_rfl) (by kernel_rfl) (by kernel_rfl) (by kernel_rfl) (by kernel_rfl) (by kernel_rfl) fun ls t h=>?_
 unfold jfs at h
 split at h
 ·rename_i l
  cases h
  refine⟨_,_,_,rfl,rfl,fun ho=>?_⟩
  have hl:l.length*40≤140737488355328:=by
   unfold ok jcY at ho
   split at ho
   ·assumption
   ·cases ho
  have hv:val (jcY l)=l:=by
   unfold jcY
   rw[if_pos hl]
   rfl
  rw[hv]
  refine Eq.mp (by kernel_rfl:(Ex.normal=Ex.normal∧some (V.w (W.c (Sx.C.o 0)))=some (V.w (W.c (Sx.C.o 0)))∧(Ob (l.length=0)→Ob True∧Ob (l.length=0)∧True)∧Ob ((([]:List (List Int)).length+l.length)*40≤140737488355328∧([]:List (List Int)).length+l.length≤9223372036854775807)∧Ob True∧Ob (([]:List (List Int))++l=l)∧True)=_) ?_
  exact⟨rfl,rfl,fun h=>⟨⟨trivial⟩,h,trivial⟩,⟨by simp only[List.length_nil]; omega⟩,⟨trivial⟩,⟨rfl⟩,trivial⟩
 ·cases h
def jio:List SV:=[.c (.r (.recs 4 []))]
def jcZ (l:List (List Int)):Option (List (List Int)):=if l.length*32≤140737488355328 then some l else none
def jft:List Lf→Option GT
 |[.r (.recs 4 l)]=>some (.leaf (ok (jcZ l)) [.c (.row 122 (.recs 4 (val (jcZ l))))])
 |_=>none
theorem jmk:jan Tryz.prog 55 true (jaO jio jft):=by
 refine jjX (sp:=sp0) (fn:=Tryz.f55) (R1:=Sx09.sub [0] (Sx09.bodyOf Tryz.f55)) (R2:=Sx09.sub [1,0,0] (Sx09.bodyOf Tryz.f55)) (C:=Sx09.sub [1,0,1] (Sx09.bodyOf Tryz.f55)) (D:=Sx09.sub [1,1] (Sx09.bodyOf Tryz.f55)) (o1:=cl1 Tryz.f55) (o2:=cl2 Tryz.f55) (t:=119) (yt:=119) (x:=.tmp 3)
  mixed jfe Tryz.func55 (by kernel_rfl) (by kernel_rfl) (Nat.le_of_ble_eq_true (by kernel_rfl)) (by kernel_rfl) (by kernel_rfl) (by kernel_rfl) (by kernel_rfl) (by kernel_rfl) (by kernel_rfl) fun ls t h=>?_
 unfold jft at h
 split at h
 ·rename_i l
  cases h
  refine⟨_,_,_,rfl,rfl,fun ho=>?_⟩
  have hl:l.length*32≤140737488355328:=by
   unfold ok jcZ at ho
   split at ho
   ·assumption
   ·cases ho
  have hv:val (jcZ l)=l:=by
   unfold jcZ
   rw[if_pos hl]
   rfl
  rw[hv]
  refine Eq.mp (by kernel_rfl:(Ex.normal=Ex.normal∧some (V.w (W.c (Sx.C.o 0)))=some (V.w (W.c (Sx.C.o 0)))∧(Ob (l.length=0)→Ob True∧Ob (l.length=0)∧True)∧Ob ((([]:List (List Int)).length+l.length)*32≤140737488355328∧([]:List (List Int)).length+l.length≤9223372036854775807)∧Ob True∧Ob (([]:List (List Int))++l=l)∧True)=_) ?_
  exact⟨rfl,rfl,fun h=>⟨⟨trivial⟩,h,trivial⟩,⟨by simp only[List.length_nil]; omega⟩,⟨trivial⟩,⟨rfl⟩,trivial⟩
 ·cases h
end Go.Sh
end

section
namespace Go.Sh
open Go Go.Proofs Go.RowKit Go.Sx
def jfu:List Lf→Option (List RR)
 |[.d (.i .i64 l0),.d (.i .i64 l1),.d (.i .i64 l2),.d (.i .i64 l3),.d (.i .i64 l4),.d (.i .i64 l5),.d (.i .i64 l6),.d (.i .i64 l7),.d (.i .i64 l8),.d (.i .i64 l9),.d (.i .i64 l10),.d (.i .i64 l11),.d (.i .i64 l12),.d (.i .i64 l13),.d (.i .i64 l14),.d (.i .i64 l15),.d (.i .i64 l16),.d (.i .i64 l17),.d (.i .i64 l18),.d (.i .i64 l19),.d (.i .i64 l20),.d (.i .i64 l21),.d (.i .i64 l22),.d (.i .i64 l23),.d (.i .i64 l24),.d (.i .i64 l25),.d (.i .i64 l26),.d (.i .i64 l27),.d (.i .i64 l28),.d (.i .i64 l29),.d (.i .i64 l30),.d (.i .i64 l31)]=>match jeq l0 l1 l2 l3 l4 l5 l6 l7 l8 l9 l10 l11 l12 l13 l14 l15 l16 l17 l18 l19 l20 l21 l22 l23 l24 l25 l26 l27 l28 l29 l30 l31 with
  |some v=>some [.b .f32 32 (v)]
  |none=>none
 |_=>none
theorem jkW:∀ls rs,jfu ls=some rs→∃t,jfZ ls=some t∧t.sel.2=rs∧t.sel.1:=by
 intro ls rs h
 unfold jfu at h
 split at h
 ·split at h
  ·rename_i v hv
   cases h
   exact⟨_,rfl,by simp only[GT.sel,hv]; rfl,jfL hv⟩
  ·cases h
 ·cases h
def jdg:List Lf→Option (List RR)
 |[.d (.s r_graphEngineGraphName),.x (.st [.s,.i .i64,.ints .i64,.ints .i64,.ints .i64,.i .i64,.recs 5,.i .i64] r_graphEngineGraphUnits),.r (.ints .i64 r_graphorder),.d (.i .i64 r_beforeBlocks),.x (.ff .f32 r_beforePast),.x (.rr 4 r_beforeFilters),.r (.frs .f32 32 r_in),.r (.ints .i64 r_who),.r (.frs .f32 32 r_given),.x (.rr 4 r_after),.r (.ints .i64 r_cuts),.d (.s uName),.d (.i .i64 uKind),.r (.ints .i64 uFrom),.r (.ints .i64 uAlign),.r (.ints .i64 uGains),.d (.i .i64 uDelay),.r (.recs 5 uCascade),.d (.i .i64 uStand),.d (.i .i64 from_),.d (.i .i64 later)]=>match y0 r_graphEngineGraphName r_graphEngineGraphUnits r_graphorder r_beforeBlocks r_beforePast r_beforeFilters r_in r_who r_given r_after r_cuts uName uKind uFrom uAlign uGains uDelay uCascade uStand from_ later with
  |some v=>some [.s [.d (.i .i64 (v.1)),.d (.i .i64 (v.2.1)),.d (.i .i64 (v.2.2.1)),.d (.i .i64 (v.2.2.2.1)),.d (.i .i64 (v.2.2.2.2.1)),.d (.i .i64 (v.2.2.2.2.2.1)),.d (.i .i64 (v.2.2.2.2.2.2.1)),.d (.i .i64 (v.2.2.2.2.2.2.2.1)),.d (.i .i64 (v.2.2.2.2.2.2.2.2.1)),.d (.i .i64 (v.2.2.2.2.2.2.2.2.2.1)),.d (.i .i64 (v.2.2.2.2.2.2.2.2.2.2.1)),.d (.i .i64 (v.2.2.2.2.2.2.2.2.2.2.2.1)),.d (.i .i64 (v.2.2.2.2.2.2.2.2.2.2.2.2.1)),.d (.i .i64 (v.2.2.2.2.2.2.2.2.2.2.2.2.2.1)),.d (.i .i64 (v.2.2.2.2.2.2.2.2.2.2.2.2.2.2.1)),.d (.i .i64 (v.2.2.2.2.2.2.2.2.2.2.2.2.2.2.2.1)),.d (.i .i64 (v.2.2.2.2.2.2.2.2.2.2.2.2.2.2.2.2.1)),.d (.i .i64 (v.2.2.2.2.2.2.2.2.2.2.2.2.2.2.2.2.2.1)),.d (.i .i64 (v.2.2.2.2.2.2.2.2.2.2.2.2.2.2.2.2.2.2.1)),.d (.i .i64 (v.2.2.2.2.2.2.2.2.2.2.2.2.2.2.2.2.2.2.2.1)),.d (.i .i64 (v.2.2.2.2.2.2.2.2.2.2.2.2.2.2.2.2.2.2.2.2.1)),.d (.i .i64 (v.2.2.2.2.2.2.2.2.2.2.2.2.2.2.2.2.2.2.2.2.2.1)),.d (.i .i64 (v.2.2.2.2.2.2.2.2.2.2.2.2.2.2.2.2.2.2.2.2.2.2.1)),.d (.i .i64 (v.2.2.2.2.2.2.2.2.2.2.2.2.2.2.2.2.2.2.2.2.2.2.2.1)),.d (.i .i64 (v.2.2.2.2.2.2.2.2.2.2.2.2.2.2.2.2.2.2.2.2.2.2.2.2.1)),.d (.i .i64 (v.2.2.2.2.2.2.2.2.2.2.2.2.2.2.2.2.2.2.2.2.2.2.2.2.2.1)),.d (.i .i64 (v.2.2.2.2.2.2.2.2.2.2.2.2.2.2.2.2.2.2.2.2.2.2.2.2.2.2.1)),.d (.i .i64 (v.2.2.2.2.2.2.2.2.2.2.2.2.2.2.2.2.2.2.2.2.2.2.2.2.2.2.2.1)),.d (.i .i64 (v.2.2.2.2.2.2.2.2.2.2.2.2.2.2.2.2.2.2.2.2.2.2.2.2.2.2.2.2.1)),.d (.i .i64 (v.2.2.2.2.2.2.2.2.2.2.2.2.2.2.2.2.2.2.2.2.2.2.2.2.2.2.2.2.2.1)),.d (.i .i64 (v.2.2.2.2.2.2.2.2.2.2.2.2.2.2.2.2.2.2.2.2.2.2.2.2.2.2.2.2.2.2.1)),.d (.i .i64 (v.2.2.2.2.2.2.2.2.2.2.2.2.2.2.2.2.2.2.2.2.2.2.2.2.2.2.2.2.2.2.2))]]
  |none=>none
 |_=>none
theorem jht:∀ls rs,jdg ls=some rs→∃t,y26 ls=some t∧t.sel.2=rs∧t.sel.1:=by
 intro ls rs h
 unfold jdg at h
 split at h
 ·split at h
  ·rename_i v hv
   cases h
   exact⟨_,rfl,by simp only[GT.sel,hv]; rfl,jfL hv⟩
  ·cases h
 ·cases h
def jhe:List Lf→Option (List RR)
 |[.d (.s gName),.x (.st [.s,.i .i64,.ints .i64,.ints .i64,.ints .i64,.i .i64,.recs 5,.i .i64] gUnits),.r (.ints .i64 order),.d (.i .i64 i),.r (.bools placed)]=>match jeT gUnits i placed with
  |some v=>some [.c (.d (.b v))]
  |none=>none
 |_=>none
theorem jml:∀ls rs,jhe ls=some rs→∃t,jic ls=some t∧t.sel.2=rs∧t.sel.1:=by
 intro ls rs h
 unfold jhe at h
 split at h
 ·split at h
  ·rename_i v hv
   cases h
   exact⟨_,rfl,by simp only[GT.sel,hv]; rfl,jfL hv⟩
  ·cases h
 ·cases h
def jdh:List Lf→Option (List RR)
 |[.d (.s r_graphEngineGraphName),.x (.st [.s,.i .i64,.ints .i64,.ints .i64,.ints .i64,.i .i64,.recs 5,.i .i64] r_graphEngineGraphUnits),.r (.ints .i64 r_graphorder),.d (.i .i64 r_beforeBlocks),.x (.ff .f32 r_beforePast),.x (.rr 4 r_beforeFilters),.r (.frs .f32 32 r_in),.r (.ints .i64 r_who),.r (.frs .f32 32 r_given),.x (.rr 4 r_after),.r (.ints .i64 r_cuts)]=>match y11 r_graphEngineGraphName r_graphEngineGraphUnits r_graphorder r_beforeBlocks r_beforePast r_beforeFilters r_in r_who r_given r_after r_cuts with
  |some v=>some [.s [.d (.i .i64 (v.1)),.x 141 (.ff .f32 (v.2)),.g 8]]
  |none=>none
 |_=>none
theorem jhu:∀ls rs,jdh ls=some rs→∃t,y28 ls=some t∧t.sel.2=rs∧t.sel.1:=by
 intro ls rs h
 unfold jdh at h
 split at h
 ·split at h
  ·rename_i v hv
   cases h
   exact⟨_,rfl,by simp only[GT.sel,hv]; rfl,jfL hv⟩
  ·cases h
 ·cases h
def jey:List Lf→Option (List RR)
 |[.r (.ints .i64 l)]=>match jcX l with
  |some v=>some [.c (.row 3 (.ints .i64 v))]
  |none=>none
 |_=>none
theorem jjY:∀ls rs,jey ls=some rs→∃t,jfr ls=some t∧t.sel.2=rs∧t.sel.1:=by
 intro ls rs h
 unfold jey at h
 split at h
 ·split at h
  ·rename_i v hv
   cases h
   exact⟨_,rfl,by simp only[GT.sel,hv]; rfl,jfL hv⟩
  ·cases h
 ·cases h
def jez:List Lf→Option (List RR)
 |[.r (.recs 5 l)]=>match jcY l with
  |some v=>some [.c (.row 103 (.recs 5 v))]
  |none=>none
 |_=>none
theorem jjZ:∀ls rs,jez ls=some rs→∃t,jfs ls=some t∧t.sel.2=rs∧t.sel.1:=by
 intro ls rs h
 unfold jez at h
 split at h
 ·split at h
  ·rename_i v hv
   cases h
   exact⟨_,rfl,by simp only[GT.sel,hv]; rfl,jfL hv⟩
  ·cases h
 ·cases h
def jeA:List Lf→Option (List RR)
 |[.r (.recs 4 l)]=>match jcZ l with
  |some v=>some [.c (.row 122 (.recs 4 v))]
  |none=>none
 |_=>none
theorem jj0:∀ls rs,jeA ls=some rs→∃t,jft ls=some t∧t.sel.2=rs∧t.sel.1:=by
 intro ls rs h
 unfold jeA at h
 split at h
 ·split at h
  ·rename_i v hv
   cases h
   exact⟨_,rfl,by simp only[GT.sel,hv]; rfl,jfL hv⟩
  ·cases h
 ·cases h
end Go.Sh
end

section
namespace Go.Sh
open Go Go.Proofs Go.RowKit Go.Sx
def jtS:Nat→Bool
 |36|42|71|108|109=>true
 |_=>false
abbrev ja9:Globs:={ tab:=fun _=>none,nestL:=jtS }
def xsR:List XC:=[.st [.s,.i .i64,.ints .i64,.ints .i64,.ints .i64,.i .i64,.recs 5,.i .i64] [],.rr 4 [],.ff .f32 []]
noncomputable def ovE:jab:=fun f=>match f with
 |57=>some (true,jdY [] jfY jfu)
 |60=>some (true,jdY xsR y25 jdg)
 |54=>some (true,jdY xsR y27 jdh)
 |43=>some (true,jdY [] jim jey)
 |44=>some (true,jdY [] jin jez)
 |55=>some (true,jdY [] jio jeA)
 |38=>some (true,jdY xsR jlY jhe)
 |_=>none
def roE:Nat→Bool
 |17|39|40|41|42|43|44|45|46|51|52|53|55|56|57|58|60|66|67|68|71|73|77|78|79|80|102|103|104|105|106|107|108|110|113|114|115|127|128|129|130|132=>true
 |_=>false
theorem jfv {f:Nat} {xs:List XC} {shs:List SV} {g0:List Lf→Option GT} {g:List Lf→Option (List RR)} (hs:jan Tryz.prog f true (jaO shs g0))
  (hg:∀ls rs,g ls=some rs→∃t,g0 ls=some t∧t.sel.2=rs∧t.sel.1):@jan ja9 Tryz.prog f true (jdY xs shs g) :=
 @jtd ja9 _ _ _ _ _ _ (jl4 globs ja9 rfl rfl hs) hg
theorem jrc:@jad ja9 Tryz.prog ovE:=fun f M S h=>by
 unfold ovE at h
 split at h<;>cases h
 ·exact jfv jnn jkW
 ·exact jfv jjM jht
 ·exact jfv jjP jhu
 ·exact jfv jmi jjY
 ·exact jfv jmj jjZ
 ·exact jfv jmk jj0
 ·exact jfv jpL jml
theorem jnx:jbs ovE:=fun f M S args hp nx t h hS=>by
 unfold ovE at h
 split at h<;>cases h<;>exact jq8 hS
noncomputable def dpE:jab:=@jjT ja9 Tryz.prog ovE roE 200 20
theorem jtT:@jad ja9 Tryz.prog dpE:=(@jlC ja9 _ _ _ _ mixed jrc jnx 20).1
theorem jsd:jbs dpE:=(@jlC ja9 _ _ _ _ mixed jrc jnx 20).2
noncomputable def jfO (c:Code) (st:St):Option (Ex × St):=@cx ja9 Tryz.prog dpE Tryz.f4.ntmps 200 c st
noncomputable def pcE (n:Nat):Code:=(jfN (Tryz.f4.body.getD .skip)).getD n .skip
abbrev aO (h:Nat):V:=.w (.c (.o h))
abbrev aN:C:=.d (.v (.slice none 0 0))
abbrev aI (n:Int):C:=.d (.i .i64 n)
abbrev aR (l:List Int):O:=.row 3 (.ints .i64 l)
abbrev aH0:Nat × O:=(56,aR [0,1,2,3])
abbrev aH1:Nat × O:=(8,(.lbox 66 8 4 [(.d (.s ⟨#[109,105,99]⟩)),(aI 0),aN,aN,aN,(aI 0),aN,(aI (-1)),(.d (.s ⟨#[100]⟩)),(aI 2),(.o 1),(.o 2),aN,(aI 3),aN,(aI (-1)),(.d (.s ⟨#[109,105,120]⟩)),(aI 1),(.o 3),(.o 4),(.o 5),(aI 0),aN,(aI (-1)),(.d (.s ⟨#[111,117,116]⟩)),(aI 4),(.o 6),(.o 7),aN,(aI 0),aN,(aI (-1))]))
abbrev aH2:Nat × O:=(5,aR [500,1000])
abbrev aH3:Nat × O:=(4,aR [0,0])
abbrev aH4:Nat × O:=(3,aR [0,1])
abbrev aH5:Nat × O:=(165,aR [0,2])
abbrev aH6:Nat × O:=(65,(.lbox 66 8 4 [(.d (.s ⟨#[109,105,99]⟩)),(aI 0),aN,aN,aN,(aI 0),aN,(aI (-1)),(.d (.s ⟨#[100]⟩)),(aI 2),(.o 58),(.o 59),aN,(aI 3),aN,(aI (-1)),(.d (.s ⟨#[109,105,120]⟩)),(aI 1),(.o 60),(.o 61),(.o 62),(aI 0),aN,(aI (-1)),(.d (.s ⟨#[111,117,116]⟩)),(aI 4),(.o 63),(.o 64),aN,(aI 0),aN,(aI (-1))]))
abbrev aH7:Nat × O:=(62,aR [500,1000])
abbrev aH8:Nat × O:=(61,aR [0,0])
abbrev aH9:Nat × O:=(60,aR [0,1])
abbrev jny:Nat × O:=(259,(.box 38 [(.d (.s ⟨#[112]⟩)),(.o 240)]))
abbrev jnz:Nat × O:=(254,aR [0])
abbrev jnA:Nat × O:=(250,aR [3,0])
abbrev jnB:Nat × O:=(246,aR [0])
abbrev jnC:Nat × O:=(240,(.lbox 66 8 4 [(.d (.s ⟨#[109,105,99]⟩)),(aI 0),(.o 241),(.o 242),(.o 243),(aI 0),(.o 244),(aI (-1)),(.d (.s ⟨#[100]⟩)),(aI 2),(.o 245),(.o 246),(.o 247),(aI 3),(.o 248),(aI (-1)),(.d (.s ⟨#[109,105,120]⟩)),(aI 1),(.o 249),(.o 250),(.o 251),(aI 0),(.o 252),(aI (-1)),(.d (.s ⟨#[111,117,116]⟩)),(aI 4),(.o 253),(.o 254),(.o 255),(aI 0),(.o 256),(aI (-1))]))
abbrev jnD:Nat × O:=(256,(.row 103 (.recs 5 [])))
abbrev jnE:Nat × O:=(253,aR [2])
abbrev jnF:Nat × O:=(252,(.row 103 (.recs 5 [])))
abbrev jnG:Nat × O:=(251,aR [500,1000])
abbrev jnH:Nat × O:=(249,aR [0,1])
abbrev jnI:Nat × O:=(248,(.row 103 (.recs 5 [])))
abbrev jnJ:Nat × O:=(245,aR [0])
abbrev jnK:Nat × O:=(244,(.row 103 (.recs 5 [])))
abbrev jnL:Nat × O:=(187,(.lbox 66 8 4 [(.d (.s ⟨#[109,105,99]⟩)),(aI 0),aN,aN,aN,(aI 0),aN,(aI (-1)),(.d (.s ⟨#[100]⟩)),(aI 2),(.o 180),(.o 181),aN,(aI 3),aN,(aI (-1)),(.d (.s ⟨#[109,105,120]⟩)),(aI 1),(.o 182),(.o 183),(.o 184),(aI 0),aN,(aI (-1)),(.d (.s ⟨#[111,117,116]⟩)),(aI 4),(.o 185),(.o 186),aN,(aI 0),aN,(aI (-1))]))
abbrev jnM:Nat × O:=(186,aR [0])
abbrev jnN:Nat × O:=(185,aR [2])
abbrev jnO:Nat × O:=(184,aR [500,1000])
abbrev jnP:Nat × O:=(183,aR [0,0])
abbrev jnQ:Nat × O:=(182,aR [0,1])
abbrev jnR:Nat × O:=(181,aR [0])
abbrev jnS:Nat × O:=(180,aR [0])
abbrev aH31:Nat × O:=(351,aR [0,3,3,3])
abbrev aH32:Nat × O:=(428,(.lbox 49 1 1 [(.o 497)]))
abbrev aH33:Nat × O:=(497,(.row 47 (.frs .f32 32 [[1112276992,0,0,1120534528,0,0,0,0,0,0,0,0,0,0,0,0,0,0,0,0,0,0,0,0,0,0,0,0,0,0,0,0]])))
abbrev aH34:Nat × O:=(364,(.lbox 49 1 1 [(.o 363)]))
abbrev aH35:Nat × O:=(363,(.row 47 (.frs .f32 32 [[1120534528,0,0,0,0,0,0,0,0,0,0,0,0,0,0,0,0,0,0,0,0,0,0,0,0,0,0,0,0,0,0,0]])))
abbrev aH36:Nat × O:=(360,(.lbox 66 8 4 [(.d (.s ⟨#[109,105,99]⟩)),(aI 0),aN,aN,aN,(aI 0),aN,(aI (-1)),(.d (.s ⟨#[100]⟩)),(aI 2),(.o 353),(.o 354),aN,(aI 3),aN,(aI (-1)),(.d (.s ⟨#[109,105,120]⟩)),(aI 1),(.o 355),(.o 356),(.o 357),(aI 0),aN,(aI (-1)),(.d (.s ⟨#[111,117,116]⟩)),(aI 4),(.o 358),(.o 359),aN,(aI 0),aN,(aI (-1))]))
abbrev aH37:Nat × O:=(359,aR [0])
abbrev aH38:Nat × O:=(358,aR [2])
abbrev aH39:Nat × O:=(357,aR [500,1000])
abbrev aH40:Nat × O:=(356,aR [0,0])
abbrev aH41:Nat × O:=(355,aR [0,1])
abbrev aH42:Nat × O:=(354,aR [0])
abbrev aH43:Nat × O:=(353,aR [0])
abbrev aH44:Nat × O:=(501,aR [0,3,3,3])
abbrev aH45:Nat × O:=(500,aR [0,2])
abbrev aH46:Nat × O:=(499,aR [0,1,2,3])
abbrev awT0:List (Nat × V):=[]
def awS0:St:=⟨awT0,[],0⟩
abbrev awT1:List (Nat × V):=(0,(vb false))::[]
def awS1:St:=⟨awT1,[],0⟩
abbrev awT2:List (Nat × V):=(2,(vi .i64 0))::(1,(aO 56))::(16,(vi .i64 0))::(15,(aO 56))::(12,(.t [(.c (.o 56)),(.c (aI 0))]))::(14,(.t [(.c (.o 56)),(.c (aI 0))]))::(13,(.w (.a [(.d (.s ⟨#[112]⟩)),(.o 8)])))::awT1
def awS2:St:=⟨awT2,[aH0,aH1,(7,aR [0]),(6,aR [2]),aH2,aH3,aH4,(2,aR [0]),(1,aR [0])],57⟩
abbrev awT3:List (Nat × V):=(4,(vi .i64 0))::(3,(aO 165))::(21,(vi .i64 0))::(20,(aO 165))::(17,(.t [(.c (.o 165)),(.c (aI 0))]))::(19,(.t [(.c (.o 165)),(.c (aI 0))]))::(18,(.w (.a [(.d (.s ⟨#[112]⟩)),(.o 65)])))::awT2
def awS3:St:=⟨awT3,[aH5,aH6,(64,aR [0]),(63,aR [2]),aH7,aH8,aH9,(59,aR [0]),(58,aR [0]),aH0,aH1,(7,aR [0]),(6,aR [2]),aH2,aH3,aH4,(2,aR [0]),(1,aR [0])],179⟩
abbrev awT4:List (Nat × V):=(6,(vi .i64 0))::(5,(.w (.c (.p 259 0 1 0))))::(26,(vi .i64 0))::(25,(.w (.a [(.d (.s ⟨#[112]⟩)),(.o 240)])))::(22,(.t [(.a [(.d (.s ⟨#[112]⟩)),(.o 240)]),(.c (aI 0))]))::(24,(.t [(.a [(.d (.s ⟨#[112]⟩)),(.o 240)]),(.c (aI 0))]))::(23,(.w (.a [(.d (.s ⟨#[112]⟩)),(.o 187)])))::awT3
def awS4:St:=⟨awT4,[jny,jnz,jnA,jnB,jnC,jnD,(255,aR []),jnE,jnF,jnG,jnH,jnI,(247,aR []),jnJ,jnK,(243,aR []),(242,aR []),(241,aR []),jnL,jnM,jnN,jnO,jnP,jnQ,jnR,jnS,aH5,aH6,(64,aR [0]),(63,aR [2]),aH7,aH8,aH9,(59,aR [0]),(58,aR [0]),aH0,aH1,(7,aR [0]),(6,aR [2]),aH2,aH3,aH4,(2,aR [0]),(1,aR [0])],260⟩
abbrev awT5:List (Nat × V):=(8,(vi .i64 0))::(7,(aO 351))::(31,(vi .i64 0))::(30,(aO 351))::(27,(.t [(.c (.o 351)),(.c (aI 0))]))::(29,(.t [(.c (.o 351)),(.c (aI 0))]))::(28,(.w (.a [(.d (.s ⟨#[112]⟩)),(.o 240)])))::awT4
def awS5:St:=⟨awT5,[aH31,jny,jnz,jnA,jnB,jnC,jnD,(255,aR []),jnE,jnF,jnG,jnH,jnI,(247,aR []),jnJ,jnK,(243,aR []),(242,aR []),(241,aR []),jnL,jnM,jnN,jnO,jnP,jnQ,jnR,jnS,aH5,aH6,(64,aR [0]),(63,aR [2]),aH7,aH8,aH9,(59,aR [0]),(58,aR [0]),aH0,aH1,(7,aR [0]),(6,aR [2]),aH2,aH3,aH4,(2,aR [0]),(1,aR [0])],352⟩
abbrev awT6:List (Nat × V):=(11,(vi .i64 0))::(10,(vi .i64 0))::(9,(aO 428))::(40,(vi .i64 0))::(39,(vi .i64 0))::(38,(aO 428))::(32,(.t [(.c (.o 428)),(.c (aI 0)),(.c (aI 0))]))::(37,(.t [(.c (.o 428)),(.c (aI 0)),(.c (aI 0))]))::(36,(aO 364))::(35,(aO 363))::(34,(.w (.b .f32 32 [1120534528,0,0,0,0,0,0,0,0,0,0,0,0,0,0,0,0,0,0,0,0,0,0,0,0,0,0,0,0,0,0,0])))::(33,(.w (.a [(.d (.s ⟨#[112]⟩)),(.o 360)])))::awT5
def awS6:St:=⟨awT6,[aH32,aH33,aH34,aH35,aH36,aH37,aH38,aH39,aH40,aH41,aH42,aH43,aH31,jny,jnz,jnA,jnB,jnC,jnD,(255,aR []),jnE,jnF,jnG,jnH,jnI,(247,aR []),jnJ,jnK,(243,aR []),(242,aR []),(241,aR []),jnL,jnM,jnN,jnO,jnP,jnQ,jnR,jnS,aH5,aH6,(64,aR [0]),(63,aR [2]),aH7,aH8,aH9,(59,aR [0]),(58,aR [0]),aH0,aH1,(7,aR [0]),(6,aR [2]),aH2,aH3,aH4,(2,aR [0]),(1,aR [0])],499⟩
abbrev awT7:List (Nat × V):=(0,(vb true))::(107,(vb true))::(106,(vb true))::(105,(.w (.c (.d (.f .f32 1120534528)))))::(104,(.w (.c (.p 497 0 32 3))))::(103,(.w (.c (.p 497 0 32 0))))::(102,(aO 497))::(101,(.w (.c (.p 428 0 1 0))))::(100,(aO 428))::(99,(vb true))::(98,(vb true))::(97,(vb true))::(96,(.w (.c (.d (.f .f32 1112276992)))))::(95,(.w (.c (.p 497 0 32 0))))::(94,(.w (.c (.p 497 0 32 0))))::(93,(aO 497))::(92,(.w (.c (.p 428 0 1 0))))::(91,(aO 428))::(90,(vb true))::(89,(vb true))::(88,(vb true))::(87,(vi .i64 1))::(86,(aO 497))::(85,(.w (.c (.p 428 0 1 0))))::(84,(aO 428))::(83,(vb true))::(82,(vb true))::(81,(vb true))::(80,(vi .i64 1))::(79,(aO 428))::(78,(vb true))::(77,(vb true))::(76,(vb true))::(75,(vi .i64 0))::(74,(vb true))::(73,(vb true))::(72,(vb true))::(71,(vi .i64 0))::(70,(vb true))::(69,(vb true))::(68,(vb true))::(67,(aO 501))::(66,(aO 351))::(65,(vb true))::(64,(vb true))::(63,(vb true))::(62,(vi .i64 0))::(61,(vb true))::(60,(vb true))::(59,(vb true))::(58,(vi .i64 0))::(57,(vb true))::(56,(vb true))::(55,(vb true))::(54,(aO 500))::(53,(aO 165))::(52,(vb true))::(51,(vb true))::(50,(vb true))::(49,(vi .i64 0))::(48,(vb true))::(47,(vb true))::(46,(vb true))::(45,(aO 499))::(44,(aO 56))::(43,(vb true))::(42,(vb true))::(41,(vi .i64 0))::awT6
def awS7:St:=⟨awT7,[aH44,aH45,aH46,aH32,aH33,aH34,aH35,aH36,aH37,aH38,aH39,aH40,aH41,aH42,aH43,aH31,jny,jnz,jnA,jnB,jnC,jnD,(255,aR []),jnE,jnF,jnG,jnH,jnI,(247,aR []),jnJ,jnK,(243,aR []),(242,aR []),(241,aR []),jnL,jnM,jnN,jnO,jnP,jnQ,jnR,jnS,aH5,aH6,(64,aR [0]),(63,aR [2]),aH7,aH8,aH9,(59,aR [0]),(58,aR [0]),aH0,aH1,(7,aR [0]),(6,aR [2]),aH2,aH3,aH4,(2,aR [0]),(1,aR [0])],502⟩
abbrev awT8:List (Nat × V):=awT7
def awS8:St:=⟨awT8,[aH44,aH45,aH46,aH32,aH33,aH34,aH35,aH36,aH37,aH38,aH39,aH40,aH41,aH42,aH43,aH31,jny,jnz,jnA,jnB,jnC,jnD,(255,aR []),jnE,jnF,jnG,jnH,jnI,(247,aR []),jnJ,jnK,(243,aR []),(242,aR []),(241,aR []),jnL,jnM,jnN,jnO,jnP,jnQ,jnR,jnS,aH5,aH6,(64,aR [0]),(63,aR [2]),aH7,aH8,aH9,(59,aR [0]),(58,aR [0]),aH0,aH1,(7,aR [0]),(6,aR [2]),aH2,aH3,aH4,(2,aR [0]),(1,aR [0])],502⟩
end Go.Sh
end

section
namespace Go.Sh
open Go Go.Proofs Go.RowKit Go.Sx
set_option maxRecDepth 1000000 in
theorem aw_0:jfO (pcE 0) awS0=some (.normal,awS1):=by kernel_rfl
set_option maxRecDepth 1000000 in
theorem aw_1:jfO (pcE 1) awS1=some (.normal,awS2):=by kernel_rfl
set_option maxRecDepth 1000000 in
theorem aw_2:jfO (pcE 2) awS2=some (.normal,awS3):=by kernel_rfl
end Go.Sh
end

section
namespace Go.Sh
open Go Go.Proofs Go.RowKit Go.Sx
set_option maxRecDepth 1000000 in
theorem aw_3:jfO (pcE 3) awS3=some (.normal,awS4):=by kernel_rfl
end Go.Sh
end

section
namespace Go.Sh
open Go Go.Proofs Go.RowKit Go.Sx
set_option maxRecDepth 1000000 in
theorem aw_4:jfO (pcE 4) awS4=some (.normal,awS5):=by kernel_rfl
end Go.Sh
end

section
namespace Go.Sh
open Go Go.Proofs Go.RowKit Go.Sx
set_option maxRecDepth 1000000 in
theorem aw_5:jfO (pcE 5) awS5=some (.normal,awS6):=by kernel_rfl
end Go.Sh
end

section
namespace Go.Sh
open Go Go.Proofs Go.RowKit Go.Sx
set_option maxRecDepth 1000000 in
theorem aw_6:jfO (pcE 6) awS6=some (.normal,awS7):=by kernel_rfl
set_option maxRecDepth 1000000 in
theorem aw_7:jfO (pcE 7) awS7=some (.ret,awS8):=by kernel_rfl
end Go.Sh
end

section
namespace Go.Sh
open Go Go.Proofs Go.RowKit Go.Sx
def jjk:List SV:=[]
def jip:Option Bool:=some true
def jea:List Lf→Option GT
 |[]=>some (.leaf (ok (jip)) [.c (.d (.b (val (jip))))])
 |_=>none
abbrev sp_4:jab→jab:=jbZ 4 true (jaO jjk jea)
set_option maxRecDepth 1000000 in
theorem jtf:jfN (Tryz.f4.body.getD .skip)=[pcE 0,pcE 1,pcE 2,pcE 3,pcE 4,pcE 5,pcE 6,pcE 7]:=by kernel_rfl
theorem jub:@cxL ja9 Tryz.prog dpE Tryz.f4.ntmps 200 (jfN (Tryz.f4.body.getD .skip)) ⟨[],[],0⟩=some (.ret,awS8):=by
 rw[jtf]
 exact @jdf ja9 _ _ _ _ _ _ _ _ _ aw_0 (@jdf ja9 _ _ _ _ _ _ _ _ _ aw_1 (@jdf ja9 _ _ _ _ _ _ _ _ _ aw_2 (@jdf ja9 _ _ _ _ _ _ _ _ _ aw_3 (@jdf ja9 _ _ _ _ _ _ _ _ _ aw_4 (@jdf ja9 _ _ _ _ _ _ _ _ _ aw_5 (@jdf ja9 _ _ _ _ _ _ _ _ _ aw_6 ((@jo7 ja9 _ _ _ _ _ _).trans aw_7)))))))
set_option maxRecDepth 1000000 in
theorem jnT:jan Tryz.prog 4 true (jaO jjk jea) :=
 jl4 ja9 globs rfl rfl (@jq9 ja9 Tryz.prog dpE 4 200 Tryz.f4 (Tryz.f4.body.getD .skip) (.b true) .ret awS8 jea mixed jtT jsd Tryz.func4 (by kernel_rfl) (by kernel_rfl) jub (fun j h=>by cases h) (by kernel_rfl) fun ls t h=>by
  unfold jea at h
  split at h
  ·cases h
   exact⟨rfl,_,rfl⟩
  ·cases h)
end Go.Sh
end

section
namespace Go.Sh
open Go.Lib
def jaP:Nat→List UInt8→Nat
 |a,[]=>a
 |a,c::r=>jaP (a*10+(c.toNat-48)) r
def jb1 (c:UInt8):Bool:=decide (48≤c.toNat)&&decide (c.toNat≤57)
def jbg (l:List UInt8):Bool:=l.all jb1
theorem jb2 {c:UInt8}:jb1 c=true↔48≤c.toNat∧c.toNat≤57:=by simp[jb1]
theorem jeb:∀(l:List UInt8) (a:Nat) (c:UInt8),jaP a (l++[c])=jaP a l*10+(c.toNat-48)
 |[],_,_=>rfl
 |x::l,a,c=>jeb l (a*10+(x.toNat-48)) c
theorem jiT:∀(l:List UInt8) (a:Nat),jbg l=true→jaP a l<(a+1)*10^l.length
 |[],a,_=>by
  rw[List.length_nil,Nat.pow_zero,Nat.mul_one]
  exact Nat.lt_succ_self a
 |x::l,a,h=>by
  have hx:jb1 x=true∧jbg l=true:=by simpa [jbg]using h
  have h1:=jb2.1 hx.1
  have ih:=jiT l (a*10+(x.toNat-48)) hx.2
  have h2:(a*10+(x.toNat-48)+1)*10^l.length≤(a+1)*10*10^l.length:=Nat.mul_le_mul_right _ (by omega)
  have e:(a+1)*10^(l.length+1)=(a+1)*10*10^l.length:=by rw[Nat.pow_succ',Nat.mul_assoc]
  show jaP (a*10+(x.toNat-48)) l<(a+1)*10^(l.length+1)
  rw[e]
  exact Nat.lt_of_lt_of_le ih h2
theorem jkX {d:Nat} (h:d<10):(UInt8.ofNat (48+d)).toNat=48+d:=by
 rw[UInt8.toNat_ofNat']
 exact Nat.mod_eq_of_lt (by omega)
theorem jo8 {c:UInt8} (h:jb1 c=true):UInt8.ofNat (48+(c.toNat-48))=c:=by
 have:=jb2.1 h
 rw[show 48+(c.toNat-48)=c.toNat by omega]
 exact UInt8.ofNat_toNat
theorem jbz {u:Nat} (h:u<10):decDigits u=[UInt8.ofNat (48+u)]:=by rw[decDigits,dif_pos h]
theorem jev {u:Nat} (h:¬u<10):decDigits u=decDigits (u/10)++[UInt8.ofNat (48+u%10)]:=by rw[decDigits,dif_neg h]
theorem jmv (u:Nat):decDigits u≠[]:=by
 by_cases h:u<10
 ·rw[jbz h]; simp
 ·rw[jev h]; simp
theorem jrd (u:Nat):jaP 0 (decDigits u)=u:=by
 induction u using Nat.strongRecOn with
 |_ u ih =>
  by_cases h:u<10
  ·rw[jbz h]
   show 0*10+((UInt8.ofNat (48+u)).toNat-48)=u
   rw[jkX h]; omega
  ·rw[jev h,jeb,ih (u/10) (by omega),jkX (by omega)]; omega
theorem jiU (u:Nat):jbg (decDigits u)=true:=by
 induction u using Nat.strongRecOn with
 |_ u ih =>
  have one:∀d,d<10→jb1 (UInt8.ofNat (48+d))=true:=fun d hd=>jb2.2 (by rw[jkX hd]; omega)
  by_cases h:u<10
  ·rw[jbz h]
   show(jb1 (UInt8.ofNat (48+u))&&true)=true
   rw[one u h]; rfl
  ·rw[jev h]
   have:=ih (u/10) (by omega)
   unfold jbg at this ⊢
   rw[List.all_append,this]
   show(true&&(jb1 (UInt8.ofNat (48+u%10))&&true))=true
   rw[one (u%10) (by omega)]; rfl
theorem jnU {e x:List UInt8} (he:e≠[]):(e++x).head?=e.head?:=by
 cases e with
 |nil=>exact absurd rfl he
 |cons a b=>rfl
theorem jo9 {u:Nat} (h0:u≠0):(decDigits u).head?≠some 48:=by
 induction u using Nat.strongRecOn with
 |_ u ih =>
  by_cases h:u<10
  ·rw[jbz h]
   intro hh
   have:=congrArg UInt8.toNat (Option.some.inj hh)
   rw[jkX h]at this
   have e:(48:UInt8).toNat=48:=rfl
   omega
  ·rw[jev h,jnU (jmv _)]
   exact ih (u/10) (by omega) (by omega)
theorem jp6:∀(n:Nat) (d:List UInt8),d.length=n→jbg d=true→d≠[]→(d.head?=some 48→d.length=1)→decDigits (jaP 0 d)=d
 |0,d,hl,_,hn,_=>absurd (List.eq_nil_of_length_eq_zero hl) hn
 |n+1,d,hl,hd,hn,hh=>by
  obtain⟨e,c,rfl⟩:∃e c,d=e++[c]:=⟨d.dropLast,d.getLast hn,(List.dropLast_concat_getLast hn).symm⟩
  have hel:e.length=n:=by simpa using hl
  have hd2:jbg e=true∧jb1 c=true:=by simpa [jbg,List.all_append]using hd
  have hc:=jb2.1 hd2.2
  rw[jeb]
  by_cases he:e=[]
  ·subst he
   show decDigits (0*10+(c.toNat-48))=[c]
   rw[jbz (by omega),Nat.zero_mul,Nat.zero_add,jo8 hd2.2]
  ·have hne:e.head?≠some 48:=by
    intro hx
    have h1:=hh (by rw[jnU he]; exact hx)
    have h2:e.length≠0:=fun h=>he (List.eq_nil_of_length_eq_zero h)
    rw[List.length_append,List.length_singleton]at h1
    omega
   have ih:=jp6 n e hel hd2.1 he (fun h=>absurd h hne)
   have hpos:jaP 0 e≠0:=by
    intro h0
    rw[h0,jbz (by omega)]at ih
    rw[←ih]at hne
    exact hne rfl
   rw[jev (by omega),show(jaP 0 e*10+(c.toNat-48))/10=jaP 0 e by omega,show(jaP 0 e*10+(c.toNat-48))%10=c.toNat-48 by omega,ih,jo8 hd2.2]
theorem jnV:∀(l:List UInt8) (a:Nat),jbg l=true→(a+1)*10^l.length≤10^18→parseUint10 a l=.ok (jaP a l)
 |[],_,_,_=>rfl
 |x::l,a,h,hb=>by
  have hx:jb1 x=true∧jbg l=true:=by simpa [jbg]using h
  have h1:=jb2.1 hx.1
  have hp:1≤10^l.length:=Nat.one_le_pow _ _ (by decide)
  have e:(a+1)*10^(l.length+1)=(a+1)*10*10^l.length:=by rw[Nat.pow_succ',Nat.mul_assoc]
  rw[List.length_cons,e]at hb
  have h2:(a+1)*10≤10^18:=Nat.le_trans (Nat.le_mul_of_pos_right _ hp) hb
  have h3:(10:Nat)^18=1000000000000000000:=by decide
  rw[h3]at h2
  unfold parseUint10
  rw[if_pos h1,if_neg (by omega),if_neg (by omega)]
  refine jnV l _ hx.2 (Nat.le_trans (Nat.mul_le_mul_right _ ?_) hb)
  omega
def behind (l:List UInt8):List UInt8:=if l.head?=some 45 then l.tail else l
def jbJ (k:Nat) (l:List UInt8):Option Int :=
 if behind l=[]∨k<(behind l).length∨((behind l).head?=some 48∧1<l.length)∨jbg (behind l)=false then none else some (if l.head?=some 45 then -(jaP 0 (behind l):Int)else(jaP 0 (behind l):Int))
theorem jlD (l:List UInt8):trimPrefix l [45]=behind l:=by
 cases l with
 |nil=>rfl
 |cons x r =>
  unfold trimPrefix hasPrefix behind
  by_cases h:x=45
  ·subst h; simp[List.isPrefixOf]
  ·simp[List.isPrefixOf,h,Ne.symm h]
theorem jl6 {k:Nat} {l:List UInt8} {v:Int} (h:jbJ k l=some v):behind l≠[]∧(behind l).length≤k∧((behind l).head?=some 48→l.length=1)∧jbg (behind l)=true∧v=(if l.head?=some 45 then -(jaP 0 (behind l):Int)else(jaP 0 (behind l):Int)):=by
 unfold jbJ at h
 split at h
 ·cases h
 ·rename_i hc
  have hc1:behind l≠[]:=fun h=>hc (.inl h)
  have hl:l≠[]:=by intro hx; subst hx; exact hc1 rfl
  have hl2:l.length≠0:=fun h=>hl (List.eq_nil_of_length_eq_zero h)
  refine⟨hc1,Nat.not_lt.1 fun h=>hc (.inr (.inl h)),fun hh=>?_,?_,(Option.some.inj h).symm⟩
  ·have:¬1<l.length:=fun h2=>hc (.inr (.inr (.inl ⟨hh,h2⟩)))
   omega
  ·cases hd:jbg (behind l)with
   |true=>rfl
   |false=>exact absurd (.inr (.inr (.inr hd))) hc
theorem jsQ {k:Nat} {l:List UInt8} {v:Int} (hk:k≤17) (h:jbJ k l=some v):itoa v=l∧atoiAll l=.ok v∧(trimPrefix l [45]).length≤k∧v.natAbs<10^k:=by
 obtain⟨h1,h2,h3,h4,rfl⟩:=jl6 h
 have hlt:=jiT (behind l) 0 h4
 rw[Nat.zero_add,Nat.one_mul]at hlt
 have hp:=Nat.pow_le_pow_right (show 0<10 by omega) h2
 have hp2:=Nat.pow_le_pow_right (show 0<10 by omega) hk
 have h17:(10:Nat)^17=100000000000000000:=by decide
 have hpm:parseMag (behind l)=.ok (jaP 0 (behind l)):=by
  unfold parseMag
  rw[if_neg h1]
  refine jnV _ 0 h4 ?_
  have h18:(10:Nat)^18=1000000000000000000:=by decide
  omega
 refine⟨?_,?_,by rw[jlD]; exact h2,?_⟩
 ·by_cases hs:l.head?=some 45
  ·rw[if_pos hs]
   have hb:behind l=l.tail:=by unfold behind; rw[if_pos hs]
   obtain⟨r,rfl⟩:∃r,l=45::r:=by
    cases l with
    |nil=>cases hs
    |cons x r=>exact⟨r,by rw[Option.some.inj hs]⟩
   have hb:behind (45::r)=r:=hb
   rw[hb]at h1 h2 h3 h4 hlt ⊢
   have h3':r.head?≠some 48:=fun hh=>by
    have h5:=h3 hh
    have h6:r.length≠0:=fun h=>h1 (List.eq_nil_of_length_eq_zero h)
    rw[List.length_cons]at h5
    omega
   have dd:=jp6 r.length r rfl h4 h1 (fun h=>absurd h h3')
   have hpos:jaP 0 r≠0:=by
    intro h0
    rw[h0,jbz (by omega)]at dd
    rw[←dd]at h3'
    exact h3' rfl
   unfold itoa
   rw[if_pos (by omega),show(-(jaP 0 r:Int)).natAbs=jaP 0 r by omega,dd]
  ·rw[if_neg hs]
   have hb:behind l=l:=by unfold behind; rw[if_neg hs]
   rw[hb]at h1 h3 h4 ⊢
   have dd:=jp6 l.length l rfl h4 h1 h3
   unfold itoa
   rw[if_neg (by omega),Int.toNat_natCast,dd]
 ·cases l with
  |nil=>exact absurd rfl h1
  |cons x r =>
   by_cases hs:x=45
   ·subst hs
    have hb:behind (45::r)=r:=rfl
    rw[hb]at hpm hlt hp h4 ⊢
    rw[show(if(45::r).head?=some 45 then -(jaP 0 r:Int)else(jaP 0 r:Int))=-(jaP 0 r:Int)from if_pos rfl,atoiAll_minus,hpm]
    show(if 9223372036854775808<jaP 0 r then NumEnd.range else NumEnd.ok (-(jaP 0 r:Int)))=_
    rw[if_neg (by omega)]
   ·have hh:¬(x::r).head?=some 45:=fun h=>hs (Option.some.inj h)
    have hb:behind (x::r)=x::r:=by unfold behind; rw[if_neg hh]
    rw[hb]at hpm hlt hp h4 ⊢
    have hx:jb1 x=true:=by
     have:jb1 x=true∧jbg r=true:=by simpa [jbg]using h4
     exact this.1
    have hx:=jb2.1 hx
    rw[if_neg hh,atoiAll_plain x r (by omega) (by omega),hpm]
    show(if 9223372036854775808≤jaP 0 (x::r)then NumEnd.range else NumEnd.ok (jaP 0 (x::r):Int))=_
    rw[if_neg (by omega)]
 ·split<;>omega
theorem jsR {k:Nat} {n:Int} (h:(trimPrefix (itoa n) [45]).length≤k):jbJ k (itoa n)=some n:=by
 rw[jlD]at h
 by_cases hn:n<0
 ·have e:itoa n=45::decDigits n.natAbs:=by unfold itoa; rw[if_pos hn]
  have hb:behind (itoa n)=decDigits n.natAbs:=by rw[e]; rfl
  have hh:(itoa n).head?=some 45:=by rw[e]; rfl
  unfold jbJ
  rw[hb]at h ⊢
  rw[if_neg,if_pos hh,jrd]
  ·congr 1; omega
  ·rintro (h1|h1|h1|h1)
   ·exact jmv _ h1
   ·omega
   ·exact jo9 (by omega) h1.1
   ·rw[jiU]at h1; cases h1
 ·have e:itoa n=decDigits n.toNat:=by unfold itoa; rw[if_neg hn]
  have hd:=jiU n.toNat
  have hh:¬(itoa n).head?=some 45:=by
   rw[e]
   cases hx:decDigits n.toNat with
   |nil=>exact absurd hx (jmv _)
   |cons x r =>
    rw[hx]at hd
    have:jb1 x=true∧jbg r=true:=by simpa [jbg]using hd
    intro hh
    have h1:=jb2.1 this.1
    have h2:x=45:=Option.some.inj hh
    rw[h2]at h1
    exact absurd h1 (by decide)
  have hb:behind (itoa n)=decDigits n.toNat:=by unfold behind; rw[if_neg hh,e]
  unfold jbJ
  rw[hb]at h ⊢
  rw[if_neg,if_neg hh,jrd]
  ·congr 1; omega
  ·rintro (h1|h1|h1|h1)
   ·exact jmv _ h1
   ·omega
   ·by_cases h0:n.toNat=0
    ·rw[e,h0,jbz (by omega)]at h1
     exact absurd h1.2 (by simp)
    ·exact jo9 h0 h1.1
   ·rw[jiU]at h1; cases h1
def jaZ (c:UInt8):List UInt8→List UInt8→List (List UInt8)
 |p,[]=>[p]
 |p,x::r=>if x=c then p::jaZ c [] r else jaZ c (p++[x]) r
theorem jj1 (c:UInt8):∀l:List UInt8,∃h t,jaZ c [] l=h::t∧∀p,jaZ c p l=(p++h)::t
 |[]=>⟨[],[],rfl,fun p=>by simp[jaZ]⟩
 |x::r=>by
  obtain⟨h,t,e,f⟩:=jj1 c r
  by_cases hx:x=c
  ·exact⟨[],jaZ c [] r,by simp[jaZ,hx],fun p=>by simp[jaZ,hx]⟩
  ·refine⟨x::h,t,?_,fun p=>?_⟩
   ·unfold jaZ; rw[if_neg hx,f]; rfl
   ·unfold jaZ; rw[if_neg hx,f]; simp
theorem jre (c x:UInt8) (r:List UInt8):index (x::r) [c]=if x=c then 0 else if index r [c]=-1 then -1 else index r [c]+1:=by
 conv=>lhs; unfold index
 by_cases h:x=c
 ·rw[if_pos h,if_pos (by simp[List.isPrefixOf,h])]
 ·rw[if_neg h,if_neg (by simp[List.isPrefixOf,Ne.symm h])]
  by_cases h2:index r [c]=-1
  ·rw[if_pos h2,if_pos (by simp[h2])]
  ·rw[if_neg h2,if_neg (by simp[h2])]
end Go.Sh
end

section
namespace Go.Sx
theorem jeB {x:Int} (h:-9223372036854775808≤x∧x≤9223372036854775807):IntKind.i64.wrap x=x:=IntWalk.i64_in _ (by omega)
theorem jnW {X Y:Type} {body:X→Option (X ⊕ Y)} (f:Nat→X) {y:Y}:∀(k:Nat) (s:Nat) (N:Nat),(∀i,s≤i→i<s+k→body (f i)=some (.inl (f (i+1))))→body (f (s+k))=some (.inr y)→k<N→jaB body N (f s)=some y
 |0,s,0,_,_,h=>absurd h (by omega)
 |0,s,N+1,_,hy,_=>by
  unfold jaB
  rw[Nat.add_zero]at hy
  rw[hy]
 |k+1,s,0,_,_,h=>absurd h (by omega)
 |k+1,s,N+1,h,hy,hN=>by
  unfold jaB
  rw[h s (Nat.le_refl _) (by omega)]
  exact jnW f k (s+1) N (fun i h1 h2=>h i (by omega) (by omega)) (by rw[show s+1+k=s+(k+1) by omega]; exact hy) (by omega)
theorem jiq {X Y:Type} {body:X→Option (X ⊕ Y)} (f:Nat→X) {y:Y} {k:Nat} (h:∀i,i<k→body (f i)=some (.inl (f (i+1)))) (hy:body (f k)=some (.inr y)) (hk:k<18446744073709551616):jaB body big (f 0)=some y :=
 jnW f k 0 big (fun i _ h2=>h i (by omega)) (by rw[Nat.zero_add]; exact hy) hk
def inI (n:Int):Prop:=-9223372036854775808≤n∧n≤9223372036854775807
def inJ (n:Int):Prop:=-9223372036854775807≤n∧n≤9223372036854775807
theorem jao {α β:Type} (x:α) (f:α→Option β):(some x).bind f=f x:=rfl
end Go.Sx
end

section
namespace Go.Sx
def jrf:List Int:=[1,10,100,1000,10000,100000,1000000,10000000,100000000,1000000000,10000000000,100000000000,1000000000000,10000000000000,100000000000000,1000000000000000,10000000000000000,100000000000000000,1000000000000000000,10000000000000000000]
def tabV:Nat→Option Cont
 |1=>some (.ints .u64 jrf)
 |_=>none
def jp7:Nat→Option (Value→Prop)
 |0=>some fun v=>∃m,v=.int .i64 m
 |2=>some fun v=>v=.nilIface∨∃te pe,v=.iface te pe
 |3=>some fun v=>v=.nilIface∨∃te pe,v=.iface te pe
 |_=>none
instance globsT : Globs := { tab := tabV, held := jp7, nestT := jsG, nestM := jqQ }
end Go.Sx
end

section
namespace Go.Sh
open Go Go.Proofs Go.RowKit Go.Sx
abbrev jdH (fn:Func) (sp:jab) (loops:jiE) (as_:List A) (rs:List RV):Prop :=
 sx Tryz.prog sp fn.ntmps as_.length 40 loops (jcz Tryz.prog sp fn.ntmps) (bodyOf fn) 0 [] ⟨jbV 0 (jeK 0 as_),jcA 0 as_,as_.length⟩ (jdy Tryz.prog fn.results.toList fun v hp _=>jsD rs v hp)
theorem jb9:jad Tryz.prog sp0:=fun _ _ _ h=>by cases h
theorem ja2 {f:Nat} {M:Bool} {S:Sx.Spec} {sp:jab} (h:jan Tryz.prog f M S) (hs:jad Tryz.prog sp):jad Tryz.prog (jbZ f M S sp):=by
 intro k M' S' hk
 unfold jbZ at hk
 split at hk
 ·rename_i e
  have:=Nat.eq_of_beq_eq_true e
  subst this
  cases hk
  exact h
 ·exact hs k M' S' hk
end Go.Sh
end

section
open Go.RowKit
namespace Go.Sx
section
variable [Globs] {P:Program}
theorem jrg {f:Nat} {fn:Func} {body:Code} {shs:List SV} {g:List Lf→Option GT} (hf:P.funcs[f]?=some fn) (hb:fn.body=some body) (hn:(fn.name == "runtime.NumGoroutine")=false)
  (h:∀ls t,g ls=some t→∃ob x y z,t=.leaf ob [.c (.d x),.c (.d y),.c (.d z)]∧(ob→∀b:Bv,jdE shs 0 ls=some b→∀ρ w,HRel ρ (kd fun k=>k<w.heap.size) b.hp b.n w→Calls P f (b.vs.map (V.val ρ)).toArray w fun e w'=>e=.returned (.tuple #[x.val,y.val,z.val])∧Below w.heap.size w w')) :
  jan P f true (jaO shs g):=by
 refine .inl ⟨jbY hf hb hn,fun ρ B w args hp nx t hS hob hlt hh hB=>?_⟩
 unfold jaO at hS
 split at hS
 ·rename_i ls am hto
  split at hS
  ·rename_i t' hg
   cases hS
   obtain⟨ob,x,y,z,rfl,hc⟩:=h ls t' hg
   rw[jaX]at hob
   have hob:ob:=hob
   obtain⟨b,ρ0,hbl,q⟩:=jep hh hB shs args ls am hto hlt 0 (fun _=>undef) []
   rw[List.append_nil]at hbl
   have hh0:HRel ρ0 (kd fun k=>k<w.heap.size) b.hp b.n w:=by
    refine⟨fun x o hf=>?_,fun x o x' o' k hf hf' _ hb=>?_,jfb hh.glob hB⟩
    ·obtain⟨_,a2,a3,a4,_⟩:=q.heap x o hf
     exact⟨a2,a3,a4⟩
    ·obtain⟨_,_,_,_,a5⟩:=q.heap x o hf
     rw[a5]at hb
     cases hb
   have hcalls:=hc hob b hbl ρ0 w hh0
   rw[q.val]at hcalls
   refine hcalls.mono ?_
   rintro e w' ⟨rfl,hbw⟩
   refine⟨ρ,?_,jac.refl _ _,?_,?_,⟨B,Grow.refl _ _ _ _,?_⟩,jbA hbw hB,fun _=>hbw,fun _ h o k hle hf _=>?_⟩
   ·rw[jaX]; rfl
   ·rw[jaX]
    intro c hc
    have hc:c∈([.c (.d x),.c (.d y),.c (.d z)]:List W):=hc
    simp only[List.mem_cons,List.not_mem_nil,or_false]at hc
    rcases hc with rfl|rfl|rfl<;>trivial
   ·rw[jaX]; exact Nat.le_refl _
   ·rw[jaX]; exact hh.below hbw hB
   ·rw[jaX]at hf
    have:=(hh.ok h o hf).1
    omega
  ·cases hS
 ·cases hS
end
end Go.Sx
end

section
namespace Go.Proofs
open Go.Shelf
def Tryz.laysM171_ren:Go.Shelf.Ren:=⟨fun|171=>18|243=>32|246=>61|283=>88|284=>89|285=>90|286=>91|129=>118|317=>117|318=>119|319=>120|320=>121|337=>134|338=>135|n=>n,fun|3=>3|9=>9|2=>2|4=>4|171=>154|0=>0|53=>155|37=>90|5=>5|173=>158|212=>181|51=>182|20=>20|213=>183|46=>161|232=>205|233=>206|n=>n,fun|17=>1|18=>4|19=>5|n=>n⟩
theorem Tryz.laysM171:Go.Proofs.LaysM.n171 Tryz.prog Tryz.laysM171_ren:={
 mixed:=by kernel_rfl
 f129:=Tryz.func118.trans (congrArg some (by kernel_rfl))
 f171:=Tryz.func18.trans (congrArg some (by kernel_rfl))
 f243:=Tryz.func32.trans (congrArg some (by kernel_rfl))
 f246:=Tryz.func61.trans (congrArg some (by kernel_rfl))
 f283:=Tryz.func88.trans (congrArg some (by kernel_rfl))
 f284:=Tryz.func89.trans (congrArg some (by kernel_rfl))
 f285:=Tryz.func90.trans (congrArg some (by kernel_rfl))
 f286:=Tryz.func91.trans (congrArg some (by kernel_rfl))
 f317:=Tryz.func117.trans (congrArg some (by kernel_rfl))
 f318:=Tryz.func119.trans (congrArg some (by kernel_rfl))
 f319:=Tryz.func120.trans (congrArg some (by kernel_rfl))
 f320:=Tryz.func121.trans (congrArg some (by kernel_rfl))
 f337:=Tryz.func134.trans (congrArg some (by kernel_rfl))
 f338:=Tryz.func135.trans (congrArg some (by kernel_rfl))
 t0:=Tryz.underlying0
 a0:=Tryz.isAgg0
 z0:=Tryz.sizeOf0
 v0:=Tryz.zeroValue0
 t2:=Tryz.underlying2
 a2:=Tryz.isAgg2
 z2:=Tryz.sizeOf2
 v2:=Tryz.zeroValue2
 t3:=Tryz.underlying3
 a3:=Tryz.isAgg3
 z3:=Tryz.sizeOf3
 v3:=Tryz.zeroValue3
 t4:=Tryz.underlying4
 a4:=Tryz.isAgg4
 z4:=Tryz.sizeOf4
 v4:=Tryz.zeroValue4
 t5:=Tryz.underlying5
 a5:=Tryz.isAgg5
 z5:=Tryz.sizeOf5
 v5:=Tryz.zeroValue5
 t9:=Tryz.underlying9
 a9:=Tryz.isAgg9
 z9:=Tryz.sizeOf9
 v9:=Tryz.zeroValue9
 t20:=Tryz.underlying20
 a20:=Tryz.isAgg20
 z20:=Tryz.sizeOf20
 v20:=Tryz.zeroValue20
 t37:=Tryz.underlying90
 a37:=Tryz.isAgg90
 z37:=Tryz.sizeOf90
 v37:=Tryz.zeroValue90
 t46:=Tryz.underlying161
 a46:=Tryz.isAgg161
 z46:=Tryz.sizeOf161
 v46:=Tryz.zeroValue161
 t51:=Tryz.underlying182
 a51:=Tryz.isAgg182
 z51:=Tryz.sizeOf182
 v51:=Tryz.zeroValue182
 t53:=Tryz.underlying155
 a53:=Tryz.isAgg155
 z53:=Tryz.sizeOf155
 v53:=Tryz.zeroValue155
 t171:=Tryz.underlying154
 a171:=Tryz.isAgg154
 z171:=Tryz.sizeOf154
 v171:=Tryz.zeroValue154
 t173:=Tryz.underlying158
 a173:=Tryz.isAgg158
 z173:=Tryz.sizeOf158
 v173:=Tryz.zeroValue158
 t212:=Tryz.underlying181
 a212:=Tryz.isAgg181
 z212:=Tryz.sizeOf181
 v212:=Tryz.zeroValue181
 t213:=Tryz.underlying183
 a213:=Tryz.isAgg183
 z213:=Tryz.sizeOf183
 t232:=Tryz.underlying205
 a232:=Tryz.isAgg205
 z232:=Tryz.sizeOf205
 v232:=Tryz.zeroValue205
 t233:=Tryz.underlying206
 a233:=Tryz.isAgg206
 z233:=Tryz.sizeOf206
 v233:=Tryz.zeroValue206
 g17:=by kernel_rfl
 g18:=by kernel_rfl
 g19:=by kernel_rfl
 i0:=by kernel_rfl
 i2:=by kernel_rfl
 i3:=by kernel_rfl
 i4:=by kernel_rfl
 i5:=by kernel_rfl
 i9:=by kernel_rfl
 i20:=by kernel_rfl
 i37:=by kernel_rfl
 i46:=by kernel_rfl
 i51:=by kernel_rfl
 i53:=by kernel_rfl
 i171:=by kernel_rfl
 i173:=by kernel_rfl
 i212:=by kernel_rfl
 i232:=by kernel_rfl
 i233:=by kernel_rfl
 m17:=by kernel_rfl
 m18:=by kernel_rfl
 m19:=by kernel_rfl }
def Tryz.lays101_ren:Go.Shelf.Ren:=⟨fun|101=>35|208=>65|206=>101|n=>n,fun|9=>9|4=>4|3=>3|n=>n,fun|n=>n⟩
theorem Tryz.lays101:Go.Proofs.Lays.n101 Tryz.prog Tryz.lays101_ren:={
 mixed:=by kernel_rfl
 f101:=Tryz.func35.trans (congrArg some (by kernel_rfl))
 f206:=Tryz.func101.trans (congrArg some (by kernel_rfl))
 f208:=Tryz.func65.trans (congrArg some (by kernel_rfl))
 t3:=Tryz.underlying3
 a3:=Tryz.isAgg3
 z3:=Tryz.sizeOf3
 v3:=Tryz.zeroValue3
 t4:=Tryz.underlying4
 a4:=Tryz.isAgg4
 z4:=Tryz.sizeOf4
 v4:=Tryz.zeroValue4
 t9:=Tryz.underlying9
 a9:=Tryz.isAgg9
 z9:=Tryz.sizeOf9
 v9:=Tryz.zeroValue9 }
def Tryz.lays145_ren:Go.Shelf.Ren:=⟨fun|145=>19|220=>33|219=>62|217=>92|225=>93|224=>94|267=>95|266=>122|314=>123|n=>n,fun|9=>9|4=>4|59=>52|3=>3|5=>5|46=>161|146=>185|51=>182|n=>n,fun|1=>0|n=>n⟩
theorem Tryz.lays145:Go.Proofs.Lays.n145 Tryz.prog Tryz.lays145_ren:={
 mixed:=by kernel_rfl
 f145:=Tryz.func19.trans (congrArg some (by kernel_rfl))
 f217:=Tryz.func92.trans (congrArg some (by kernel_rfl))
 f219:=Tryz.func62.trans (congrArg some (by kernel_rfl))
 f220:=Tryz.func33.trans (congrArg some (by kernel_rfl))
 f224:=Tryz.func94.trans (congrArg some (by kernel_rfl))
 f225:=Tryz.func93.trans (congrArg some (by kernel_rfl))
 f266:=Tryz.func122.trans (congrArg some (by kernel_rfl))
 f267:=Tryz.func95.trans (congrArg some (by kernel_rfl))
 f314:=Tryz.func123.trans (congrArg some (by kernel_rfl))
 t3:=Tryz.underlying3
 a3:=Tryz.isAgg3
 z3:=Tryz.sizeOf3
 v3:=Tryz.zeroValue3
 t4:=Tryz.underlying4
 a4:=Tryz.isAgg4
 z4:=Tryz.sizeOf4
 v4:=Tryz.zeroValue4
 t5:=Tryz.underlying5
 a5:=Tryz.isAgg5
 z5:=Tryz.sizeOf5
 v5:=Tryz.zeroValue5
 t9:=Tryz.underlying9
 a9:=Tryz.isAgg9
 z9:=Tryz.sizeOf9
 v9:=Tryz.zeroValue9
 t46:=Tryz.underlying161
 a46:=Tryz.isAgg161
 z46:=Tryz.sizeOf161
 v46:=Tryz.zeroValue161
 t51:=Tryz.underlying182
 a51:=Tryz.isAgg182
 z51:=Tryz.sizeOf182
 v51:=Tryz.zeroValue182
 t59:=Tryz.underlying52
 a59:=Tryz.isAgg52
 z59:=Tryz.sizeOf52
 v59:=Tryz.zeroValue52
 t146:=Tryz.underlying185
 a146:=Tryz.isAgg185
 z146:=Tryz.sizeOf185
 v146:=Tryz.zeroValue185
 g1:=by kernel_rfl }
def Tryz.laysC172_ren:Go.Shelf.Ren:=⟨fun|172=>34|244=>63|245=>64|247=>96|279=>97|280=>98|281=>99|282=>100|287=>124|316=>125|171=>18|205=>126|321=>136|322=>137|243=>32|246=>61|283=>88|284=>89|285=>90|286=>91|129=>118|317=>117|318=>119|319=>120|320=>121|337=>134|338=>135|n=>n,fun|9=>9|3=>3|75=>85|76=>86|4=>4|5=>5|167=>162|37=>90|0=>0|85=>163|2=>2|168=>165|53=>155|175=>187|46=>161|210=>191|127=>199|145=>202|143=>200|21=>21|171=>154|173=>158|212=>181|51=>182|20=>20|213=>183|232=>205|233=>206|80=>207|n=>n,fun|15=>2|16=>3|17=>1|18=>4|19=>5|n=>n⟩
theorem Tryz.laysC172:Go.Proofs.LaysC.n172 Tryz.prog Tryz.laysC172_ren:={
 mixed:=by kernel_rfl
 f129:=Tryz.func118.trans (congrArg some (by kernel_rfl))
 f171:=Tryz.func18.trans (congrArg some (by kernel_rfl))
 f172:=Tryz.func34.trans (congrArg some (by kernel_rfl))
 f205:=Tryz.func126.trans (congrArg some (by kernel_rfl))
 f243:=Tryz.func32.trans (congrArg some (by kernel_rfl))
 f244:=Tryz.func63.trans (congrArg some (by kernel_rfl))
 f245:=Tryz.func64.trans (congrArg some (by kernel_rfl))
 f246:=Tryz.func61.trans (congrArg some (by kernel_rfl))
 f247:=Tryz.func96.trans (congrArg some (by kernel_rfl))
 f279:=Tryz.func97.trans (congrArg some (by kernel_rfl))
 f280:=Tryz.func98.trans (congrArg some (by kernel_rfl))
 f281:=Tryz.func99.trans (congrArg some (by kernel_rfl))
 f282:=Tryz.func100.trans (congrArg some (by kernel_rfl))
 f283:=Tryz.func88.trans (congrArg some (by kernel_rfl))
 f284:=Tryz.func89.trans (congrArg some (by kernel_rfl))
 f285:=Tryz.func90.trans (congrArg some (by kernel_rfl))
 f286:=Tryz.func91.trans (congrArg some (by kernel_rfl))
 f287:=Tryz.func124.trans (congrArg some (by kernel_rfl))
 f316:=Tryz.func125.trans (congrArg some (by kernel_rfl))
 f317:=Tryz.func117.trans (congrArg some (by kernel_rfl))
 f318:=Tryz.func119.trans (congrArg some (by kernel_rfl))
 f319:=Tryz.func120.trans (congrArg some (by kernel_rfl))
 f320:=Tryz.func121.trans (congrArg some (by kernel_rfl))
 f321:=Tryz.func136.trans (congrArg some (by kernel_rfl))
 f322:=Tryz.func137.trans (congrArg some (by kernel_rfl))
 f337:=Tryz.func134.trans (congrArg some (by kernel_rfl))
 f338:=Tryz.func135.trans (congrArg some (by kernel_rfl))
 t0:=Tryz.underlying0
 a0:=Tryz.isAgg0
 z0:=Tryz.sizeOf0
 v0:=Tryz.zeroValue0
 t2:=Tryz.underlying2
 a2:=Tryz.isAgg2
 z2:=Tryz.sizeOf2
 v2:=Tryz.zeroValue2
 t3:=Tryz.underlying3
 a3:=Tryz.isAgg3
 z3:=Tryz.sizeOf3
 v3:=Tryz.zeroValue3
 t4:=Tryz.underlying4
 a4:=Tryz.isAgg4
 z4:=Tryz.sizeOf4
 v4:=Tryz.zeroValue4
 t5:=Tryz.underlying5
 a5:=Tryz.isAgg5
 z5:=Tryz.sizeOf5
 v5:=Tryz.zeroValue5
 t9:=Tryz.underlying9
 a9:=Tryz.isAgg9
 z9:=Tryz.sizeOf9
 v9:=Tryz.zeroValue9
 t20:=Tryz.underlying20
 a20:=Tryz.isAgg20
 z20:=Tryz.sizeOf20
 v20:=Tryz.zeroValue20
 t21:=Tryz.underlying21
 a21:=Tryz.isAgg21
 z21:=Tryz.sizeOf21
 v21:=Tryz.zeroValue21
 t37:=Tryz.underlying90
 a37:=Tryz.isAgg90
 z37:=Tryz.sizeOf90
 v37:=Tryz.zeroValue90
 t46:=Tryz.underlying161
 a46:=Tryz.isAgg161
 z46:=Tryz.sizeOf161
 v46:=Tryz.zeroValue161
 t51:=Tryz.underlying182
 a51:=Tryz.isAgg182
 z51:=Tryz.sizeOf182
 v51:=Tryz.zeroValue182
 t53:=Tryz.underlying155
 a53:=Tryz.isAgg155
 z53:=Tryz.sizeOf155
 v53:=Tryz.zeroValue155
 t75:=Tryz.underlying85
 a75:=Tryz.isAgg85
 z75:=Tryz.sizeOf85
 v75:=Tryz.zeroValue85
 t76:=Tryz.underlying86
 a76:=Tryz.isAgg86
 z76:=Tryz.sizeOf86
 v76:=Tryz.zeroValue86
 t85:=Tryz.underlying163
 a85:=Tryz.isAgg163
 z85:=Tryz.sizeOf163
 v85:=Tryz.zeroValue163
 t127:=Tryz.underlying199
 a127:=Tryz.isAgg199
 z127:=Tryz.sizeOf199
 v127:=Tryz.zeroValue199
 t143:=Tryz.underlying200
 a143:=Tryz.isAgg200
 z143:=Tryz.sizeOf200
 v143:=Tryz.zeroValue200
 t145:=Tryz.underlying202
 a145:=Tryz.isAgg202
 z145:=Tryz.sizeOf202
 v145:=Tryz.zeroValue202
 t167:=Tryz.underlying162
 a167:=Tryz.isAgg162
 z167:=Tryz.sizeOf162
 v167:=Tryz.zeroValue162
 t168:=Tryz.underlying165
 a168:=Tryz.isAgg165
 z168:=Tryz.sizeOf165
 v168:=Tryz.zeroValue165
 t171:=Tryz.underlying154
 a171:=Tryz.isAgg154
 z171:=Tryz.sizeOf154
 v171:=Tryz.zeroValue154
 t173:=Tryz.underlying158
 a173:=Tryz.isAgg158
 z173:=Tryz.sizeOf158
 v173:=Tryz.zeroValue158
 t175:=Tryz.underlying187
 a175:=Tryz.isAgg187
 z175:=Tryz.sizeOf187
 v175:=Tryz.zeroValue187
 t210:=Tryz.underlying191
 a210:=Tryz.isAgg191
 z210:=Tryz.sizeOf191
 v210:=Tryz.zeroValue191
 t212:=Tryz.underlying181
 a212:=Tryz.isAgg181
 z212:=Tryz.sizeOf181
 v212:=Tryz.zeroValue181
 t213:=Tryz.underlying183
 a213:=Tryz.isAgg183
 z213:=Tryz.sizeOf183
 t232:=Tryz.underlying205
 a232:=Tryz.isAgg205
 z232:=Tryz.sizeOf205
 v232:=Tryz.zeroValue205
 t233:=Tryz.underlying206
 a233:=Tryz.isAgg206
 z233:=Tryz.sizeOf206
 v233:=Tryz.zeroValue206
 g15:=by kernel_rfl
 g16:=by kernel_rfl
 g17:=by kernel_rfl
 g18:=by kernel_rfl
 g19:=by kernel_rfl
 t80:=Tryz.underlying207
 a80:=Tryz.isAgg207
 z80:=Tryz.sizeOf207
 v80:=Tryz.zeroValue207
 i0:=by kernel_rfl
 i2:=by kernel_rfl
 i3:=by kernel_rfl
 i4:=by kernel_rfl
 i5:=by kernel_rfl
 i9:=by kernel_rfl
 i20:=by kernel_rfl
 i21:=by kernel_rfl
 i37:=by kernel_rfl
 i46:=by kernel_rfl
 i51:=by kernel_rfl
 i53:=by kernel_rfl
 i75:=by kernel_rfl
 i76:=by kernel_rfl
 i80:=by kernel_rfl
 i85:=by kernel_rfl
 i127:=by kernel_rfl
 i143:=by kernel_rfl
 i145:=by kernel_rfl
 i167:=by kernel_rfl
 i168:=by kernel_rfl
 i171:=by kernel_rfl
 i173:=by kernel_rfl
 i175:=by kernel_rfl
 i210:=by kernel_rfl
 i212:=by kernel_rfl
 i232:=by kernel_rfl
 i233:=by kernel_rfl
 m15:=by kernel_rfl
 m16:=by kernel_rfl
 m17:=by kernel_rfl
 m18:=by kernel_rfl
 m19:=by kernel_rfl
 c0:=by kernel_rfl
 c2:=by kernel_rfl
 c3:=by kernel_rfl
 c4:=by kernel_rfl
 c5:=by kernel_rfl
 c9:=by kernel_rfl
 c20:=by kernel_rfl
 c21:=by kernel_rfl
 c37:=by kernel_rfl
 c46:=by kernel_rfl
 c51:=by kernel_rfl
 c53:=by kernel_rfl
 c75:=by kernel_rfl
 c76:=by kernel_rfl
 c80:=by kernel_rfl
 c85:=by kernel_rfl
 c127:=by kernel_rfl
 c143:=by kernel_rfl
 c145:=by kernel_rfl
 c167:=by kernel_rfl
 c168:=by kernel_rfl
 c171:=by kernel_rfl
 c173:=by kernel_rfl
 c175:=by kernel_rfl
 c210:=by kernel_rfl
 c212:=by kernel_rfl
 c213:=by kernel_rfl
 c232:=by kernel_rfl
 c233:=by kernel_rfl }
end Go.Proofs
end

section
open Go.RowKit
namespace Go.Sh
open Go Go.Proofs Go.RowKit Go.Sx
theorem flat1 {α:Type} (f:α→D) (l:List α):(l.flatMap fun x=>[f x])=l.map f:=by
 induction l with
 |nil=>rfl
 |cons x r ih=>simp[List.flatMap_cons,ih]
theorem jor:Tryz.prog.globalNamed "internal/strconv.uint64pow10" = some 1:=by kernel_rfl
theorem juc {B:Bd} {w:World} (h:ja8 B w) {g:Nat} {k:IntKind} {l:List Int} {name:String} (hn:Tryz.prog.globalNamed name=some g) (ht:Globs.tab g=some (.ints k l)):Lib.TabIs Tryz.prog w name k l:=by
 obtain⟨_,hc,cs,t,f,hg,hs⟩:=h.1 g _ ht
 unfold Lib.TabIs World.var?
 rw[hn]
 simp only[Option.bind_some,hg,Option.some.injEq]
 apply Array.ext'
 apply List.ext_getElem?
 intro i
 have hfl:(Cont.ints k l).flat=l.map (D.i k):=flat1 _ _
 by_cases hi:i<l.length
 ·have:=hc i (.i k l[i]) (by rw[hfl]; simp[hi])
  simp only[World.cell?,hg]at this
  rw[Array.getElem?_toList]
  simp only[List.getElem?_map,List.getElem?_eq_getElem hi,Option.map_some]
  exact this
 ·rw[hfl,List.length_map]at hs
  rw[Array.getElem?_toList,Array.getElem?_eq_none (by omega),List.getElem?_eq_none (by simpa using Nat.le_of_not_lt hi)]
def strconv_Itoa (n:Int):Option ByteArray:=if -9223372036854775808≤n∧n≤9223372036854775807 then some ⟨(Lib.itoa n).toArray⟩else none
def jgs:List SV:=[.c (.d)]
def jdZ:List Lf→Option GT
 |[.d (.i .i64 n)]=>some (.leaf (ok (strconv_Itoa n)) [.c (.d (.s (val (strconv_Itoa n))))])
 |_=>none
abbrev sp_18:jab→jab:=jbZ 18 true (jaO jgs jdZ)
theorem jkY:jan Tryz.prog 18 true (jaO jgs jdZ):=by
 refine jg6 (body:=bodyOf Tryz.f18) Tryz.func18 (by kernel_rfl) (by kernel_rfl) ?_
 intro ls t hg
 unfold jdZ at hg
 split at hg
 ·rename_i n
  cases hg
  refine⟨_,_,rfl,fun hk b hb ρ0 w hh=>?_⟩
  obtain rfl:=jfd hb
  unfold strconv_Itoa at hk
  have hn:-9223372036854775808≤n∧n≤9223372036854775807:=by
   by_cases h:-9223372036854775808≤n∧n≤9223372036854775807
   ·exact h
   ·rw[if_neg h]at hk; cases hk
  have hv:val (strconv_Itoa n)=⟨(Lib.itoa n).toArray⟩:=by
   unfold strconv_Itoa
   rw[if_pos hn]
   rfl
  have htab:=juc hh.glob jor (k:=.u64) (l:=Lib.pow10Tab) (by kernel_rfl)
  refine(Any.strconv_Itoa Tryz.laysM171 n hn.1 hn.2 w htab).mono ?_
  rintro e w' ⟨rfl,k,os,rfl⟩
  refine⟨by rw[hv]; rfl,rfl,rfl,rfl,by simp[Sort.grow,World.drewN],fun j hj=>?_⟩
  show(w.heap++os)[j]?=_
  rw[Array.getElem?_append_left hj]
 ·cases hg
theorem sp_18_ok {sp:jab} (h:jad Tryz.prog sp):jad Tryz.prog (sp_18 sp):=ja2 jkY h
def strings_TrimPrefix (s p:ByteArray):Option ByteArray:=some ⟨(Lib.trimPrefix s.data.toList p.data.toList).toArray⟩
def jdI:List SV:=[.c (.d),.c (.d)]
def jci:List Lf→Option GT
 |[.d (.s s),.d (.s p)]=>some (.leaf (ok (strings_TrimPrefix s p)) [.c (.d (.s (val (strings_TrimPrefix s p))))])
 |_=>none
abbrev sp_35:jab→jab:=jbZ 35 true (jaO jdI jci)
theorem jgt:jan Tryz.prog 35 true (jaO jdI jci):=by
 refine jg6 (body:=bodyOf Tryz.f35) Tryz.func35 (by kernel_rfl) (by kernel_rfl) ?_
 intro ls t hg
 unfold jci at hg
 split at hg
 ·rename_i s p
  cases hg
  refine⟨_,_,rfl,fun hk b hb ρ0 w hh=>?_⟩
  obtain rfl:=jfd hb
  refine(Any.strings_TrimPrefix Tryz.lays101 s p w).mono ?_
  rintro e w' ⟨rfl,rfl⟩
  exact⟨rfl,Below.refl _ _⟩
 ·cases hg
theorem sp_35_ok {sp:jab} (h:jad Tryz.prog sp):jad Tryz.prog (sp_35 sp):=ja2 jgt h
def strings_Cut (s sep:ByteArray):Option (ByteArray × ByteArray × Bool) :=
 if s.size≤1000000 then some (⟨(Lib.cut s.data.toList sep.data.toList).1.toArray⟩,⟨(Lib.cut s.data.toList sep.data.toList).2.1.toArray⟩,(Lib.cut s.data.toList sep.data.toList).2.2)else none
def jhs:List SV:=[.c (.d),.c (.d)]
def jeC:List Lf→Option GT
 |[.d (.s s),.d (.s p)]=>some (.leaf (ok (strings_Cut s p)) [.c (.d (.s (val (strings_Cut s p)).1)),.c (.d (.s (val (strings_Cut s p)).2.1)),.c (.d (.b (val (strings_Cut s p)).2.2))])
 |_=>none
abbrev sp_19:jab→jab:=jbZ 19 true (jaO jhs jeC)
theorem jlE:jan Tryz.prog 19 true (jaO jhs jeC):=by
 refine jrg (body:=bodyOf Tryz.f19) Tryz.func19 (by kernel_rfl) (by kernel_rfl) ?_
 intro ls t hg
 unfold jeC at hg
 split at hg
 ·rename_i s p
  cases hg
  refine⟨_,_,_,_,rfl,fun hk b hb ρ0 w hh=>?_⟩
  obtain rfl:=jfd hb
  unfold strings_Cut at hk
  have hn:s.size≤1000000:=by
   by_cases h:s.size≤1000000
   ·exact h
   ·rw[if_neg h]at hk; cases hk
  have hv:val (strings_Cut s p)=(⟨(Lib.cut s.data.toList p.data.toList).1.toArray⟩,⟨(Lib.cut s.data.toList p.data.toList).2.1.toArray⟩,(Lib.cut s.data.toList p.data.toList).2.2):=by
   unfold strings_Cut
   rw[if_pos hn]
   rfl
  obtain⟨_,m0,hm,m,rfl⟩:=hh.glob.2 0 _ rfl
  refine(Any.strings_Cut Tryz.lays145 s p m w (by omega) hm).mono ?_
  rintro e w' ⟨rfl,k,rfl⟩
  rw[hv]
  exact⟨rfl,rfl,rfl,rfl,Nat.le_refl _,fun j hj=>rfl⟩
 ·cases hg
theorem sp_19_ok {sp:jab} (h:jad Tryz.prog sp):jad Tryz.prog (sp_19 sp):=ja2 jlE h
def jeN (s:ByteArray):Bool:=match Lib.atoiAll s.data.toList with
 | .ok _=>true
 |_=>false
def jbh (s:ByteArray):Int:=match Lib.atoiAll s.data.toList with
 | .ok v=>v
 | .range=>Lib.atoiSat s.data.toList
 |_=>0
def jp8:Sx.Spec:=fun vs hp nx=>match vs with
 |[.w (.c (.d (.s s)))]=>some (.br (jeN s)
   (.leaf ⟨s.size≤1000000,.t [.c (.d (.i .i64 (jbh s))),.c (.d (.v .nilIface))],hp,nx⟩)
   (.leaf ⟨s.size≤1000000,.t [.c (.d (.i .i64 (jbh s))),.c (.o nx)],(nx,.err)::hp,nx+1⟩))
 |_=>none
abbrev sp_34:jab→jab:=jbZ 34 true jp8
theorem jtg:jan Tryz.prog 34 true jp8:=by
 refine .inl ⟨jbY Tryz.func34 (body:=bodyOf Tryz.f34) (by kernel_rfl) (by kernel_rfl),fun ρ B w args hp nx t hS hob hlt hh hB=>?_⟩
 unfold jp8 at hS
 split at hS
 ·rename_i s
  cases hS
  have hargs:(List.map (V.val ρ) [V.w (.c (.d (.s s)))]).toArray=#[.string s]:=rfl
  rw[hargs]
  cases hb:jeN s with
  |true =>
   simp only[RT.sel,hb]at hob ⊢
   obtain⟨v,hv⟩:∃v,Lib.atoiAll s.data.toList=.ok v:=by
    unfold jeN at hb
    split at hb
    ·rename_i v h; exact⟨v,h⟩
    ·cases hb
   have hav:jbh s=v:=by unfold jbh; rw[hv]
   refine(Any.strconv_Atoi_ok Tryz.laysC172 s (by omega) v hv w).mono ?_
   rintro e w' ⟨rfl,hw⟩
   have hbl:Below w.heap.size w w':=by
    rcases hw with rfl|⟨t,rfl⟩
    ·exact Below.refl _ _
    ·exact Lib.bytesWorld_below w _ t
   refine⟨ρ,by rw[hav]; rfl,jac.refl _ _,fun x hx=>?_,Nat.le_refl _,⟨B,Grow.refl _ _ _ _,hh.below hbl hB⟩,jbA hbl hB,fun _=>hbl,fun _ h o k hn hf=>?_⟩
   ·simp only[List.mem_cons,List.not_mem_nil,or_false]at hx
    rcases hx with rfl|rfl<;>trivial
   ·have:=(hh.ok h o hf).1
    omega
  |false =>
   simp only[RT.sel,hb]at hob ⊢
   have key:∀(v:Int),jbh s=v→∀(N:Nat) (t:Nat) (w':World),Below w.heap.size w w'→∃ρ',(Ending.returned (.tuple #[.int .i64 v,.iface t (.pointer (some ⟨N,0,none⟩))]):Ending)=.returned ((V.t [.c (.d (.i .i64 (jbh s))),.c (.o nx)]).val ρ') ∧
     Go.Sx.Left ρ B nx w ⟨s.size≤1000000,.t [.c (.d (.i .i64 (jbh s))),.c (.o nx)],(nx,.err)::hp,nx+1⟩ true ρ' w':=by
    intro v hv N t w' hbl
    refine⟨upd ρ nx (.iface t (.pointer (some ⟨N,0,none⟩))),?_,jag _ _ _,fun x hx=>?_,Nat.le_succ _,⟨B,Grow.refl _ _ _ _,?_⟩,jbA hbl hB,fun _=>hbl,fun _ h o k hn hf hk=>?_⟩
    ·rw[hv]
     simp[V.val,W.val,C.val,D.val]
    ·simp only[List.mem_cons,List.not_mem_nil,or_false]at hx
     rcases hx with rfl|rfl
     ·trivial
     ·exact Nat.lt_succ_self nx
    ·refine hh.add hbl hB (jag _ _ _) trivial ⟨t,_,upd_same _ _ _⟩ ?_
     intro k hk
     simp[O.blk]at hk
    ·simp only[find]at hf
     split at hf
     ·cases hf
      simp[O.blk]at hk
     ·have:=(hh.ok h o hf).1
      omega
   cases hv:Lib.atoiAll s.data.toList with
   |ok v =>
    unfold jeN at hb
    rw[hv]at hb
    cases hb
   |range =>
    obtain⟨_,ev,hev,hev2⟩:=hh.glob.2 3 _ rfl
    refine(Any.strconv_Atoi_range Tryz.laysC172 s (by omega) hv ev w hev hev2).mono ?_
    rintro e w' ⟨N,rfl,_,_,hbl⟩
    exact key _ (by unfold jbh; rw[hv]) N _ w' hbl
   |_ =>
    obtain⟨_,ev,hev,hev2⟩:=hh.glob.2 2 _ rfl
    refine(Any.strconv_Atoi_syntax Tryz.laysC172 s (by omega) hv ev w hev hev2).mono ?_
    rintro e w' ⟨N,rfl,_,_,hbl⟩
    exact key 0 (by unfold jbh; rw[hv]) N _ w' hbl
 ·cases hS
theorem sp_34_ok {sp:jab} (h:jad Tryz.prog sp):jad Tryz.prog (sp_34 sp):=ja2 jtg h
end Go.Sh
end

section
namespace Go.Sh
open Go Go.Proofs Go.RowKit Go.Sx
open Go.IntKind (wrap)
def jnX:List (Option Cont):=[none]
def jfw (n:Int):Option Int :=
 some (if wrap .i64 (0-n)>n then wrap .i64 (0-n)else n)
def jj2:List A→Option (Prop × List RV)
 |[.d (.i .i64 n)]=>some (ok (jfw n),[.d (.i .i64 ((val (jfw n))))])
 |_=>none
abbrev sp_36:jab→jab:=jbZ 36 true (ja4 jnX jj2)
def jss (n r:Int):Sk (top r) (jfw n) :=
 .obT (.rc)
theorem jrh (n r:Int) (h:Option.bind (jfw n) some=some r):jdH Tryz.f36 (sp0) (fun _ _ _=>none) [.d (.i .i64 n)] [.d (.i .i64 r)] :=
 Sk.vc (jss n r) (by kernel_rfl) h
theorem jri:jan Tryz.prog 36 true (ja4 jnX jj2):=by
 refine jbI (sp:=sp0) (fn:=Tryz.f36) (body:=bodyOf Tryz.f36) mixed jb9 Tryz.func36 (by kernel_rfl) (by kernel_rfl) fun as_ ob rs h ho=>?_
 unfold jj2 at h
 split at h
 ·rename_i n
  cases h
  exact⟨Nat.le_of_ble_eq_true rfl,_,_,jrh n _ (jbp ho)⟩
 ·cases h
theorem sp_36_ok {sp:jab} (h:jad Tryz.prog sp):jad Tryz.prog (sp_36 sp):=ja2 jri h
def jpa:List (Option Cont):=[none,none]
def jd0 (s:ByteArray) (at_:Int) (x0:(Int × Int × List ByteArray)):Option ((Int × Int × List ByteArray) ⊕ (Int × List ByteArray)) :=
 if x0.2.1<(↑(ByteArray.size s):Int)then
  if 0≤x0.2.1∧x0.2.1<(↑(ByteArray.size s):Int)then
  if((↑(UInt8.toNat (Array.getD (ByteArray.data s) x0.2.1.toNat (0:UInt8))):Int)==at_)=true then
   if 0≤Option.getD (some x0.1) (0:Int)∧Option.getD (some x0.1) 0≤Option.getD (some x0.2.1) (↑(ByteArray.size s):Int)∧Option.getD (some x0.2.1) (↑(ByteArray.size s):Int)≤(↑(ByteArray.size s):Int)then
   if(List.length x0.2.2+List.length [ByteArray.extract s (Int.toNat (Option.getD (some x0.1) (0:Int))) (Int.toNat (Option.getD (some x0.2.1) (↑(ByteArray.size s):Int)))])*16≤140737488355328∧List.length x0.2.2+List.length [ByteArray.extract s (Int.toNat (Option.getD (some x0.1) (0:Int))) (Int.toNat (Option.getD (some x0.2.1) (↑(ByteArray.size s):Int)))]≤9223372036854775807 then
    some (.inl ((wrap .i64 (x0.2.1+1),wrap .i64 (x0.2.1+1),x0.2.2++[ByteArray.extract s (Int.toNat (Option.getD (some x0.1) (0:Int))) (Int.toNat (Option.getD (some x0.2.1) (↑(ByteArray.size s):Int)))])))
   else none
   else none
  else
   some (.inl ((x0.1,wrap .i64 (x0.2.1+1),x0.2.2)))
  else none
 else
  some (.inr (x0.1,x0.2.2))
def jhf (s:ByteArray) (u15:Int × List ByteArray):Option (List ByteArray) :=
 if 0≤Option.getD (some u15.1) (0:Int)∧Option.getD (some u15.1) 0≤Option.getD none (↑(ByteArray.size s):Int)∧Option.getD none (↑(ByteArray.size s):Int)≤(↑(ByteArray.size s):Int)then
  if(List.length u15.2+List.length [ByteArray.extract s (Int.toNat (Option.getD (some u15.1) (0:Int))) (Int.toNat (Option.getD none (↑(ByteArray.size s):Int)))])*16≤140737488355328∧List.length u15.2+List.length [ByteArray.extract s (Int.toNat (Option.getD (some u15.1) (0:Int))) (Int.toNat (Option.getD none (↑(ByteArray.size s):Int)))]≤9223372036854775807 then
  some (u15.2++[ByteArray.extract s (Int.toNat (Option.getD (some u15.1) (0:Int))) (Int.toNat (Option.getD none (↑(ByteArray.size s):Int)))])
  else none
 else none
def jfP (s:ByteArray) (at_:Int):Option (List ByteArray) :=
 Option.bind (jaB (jd0 s at_) big (((0:Int),0,[]))) (jhf s)
def jlF:List A→Option (Prop × List RV)
 |[.d (.s s),.d (.i .u8 at_)]=>some (ok (jfP s at_),[.row 9 (.strs ((val (jfP s at_))))])
 |_=>none
abbrev sp_21:jab→jab:=jbZ 21 true (ja4 jpa jlF)
abbrev jnY (s:ByteArray) (at_:Int) (r:List ByteArray):Lp ((Int × Int × List ByteArray) × Nat) (Int × Int × List ByteArray) (Int × List ByteArray) (List ByteArray) (List ByteArray) :=
 ⟨fun z=>z.1,fun z=>z.2,fun z x n=>(x,n),fun z=>jd0 s at_,fun z=>jhf s,fun z=>top r,fun z=>0,[.c fun _=>s,.c fun _=>at_,.c fun vv=>vv.1.1,.c fun vv=>vv.1.2.1,.c fun vv=>vv.1.2.2]⟩
def jst (s:ByteArray) (at_:Int) (r:List ByteArray):Sk (top r) (Option.bind (jaB (jd0 s at_) big (((0:Int),0,[]))) (jhf s)) :=
 .loopQ (jnY s at_ r) [.c fun _=>s,.c fun _=>at_,.c fun vv=>vv.1.1,.c fun vv=>vv.1.2.1,.p fun vv=>List.length vv.1.2.2=(0:Nat)] (fun kk=>(((0:Int),0,[]),big)) (fun z0 =>
 .br
 (.ob (.brB
 (.ob (.ob (.next)))
 (.next)))
 (.exit (.ob (.ob (.obT (.rc)))))) (fun _=>⟨rfl,trivial⟩)
def jth (s:ByteArray) (at_:Int) (r:List ByteArray):Sk (top r) (jfP s at_) :=
 jst s at_ r
theorem jsu (s:ByteArray) (at_:Int) (r:List ByteArray) (h:Option.bind (jfP s at_) some=some r):jdH Tryz.f21 (sp0) (fun gs id st=>match id with
 |0=>some ⟨(Int × Int × List ByteArray) × Nat,fun z=>⟨[(0,.w (.c (.d (.s s)))),(1,.w (.c (.d (.i .u8 at_)))),(5,.w (.c (.o 2))),(6,.w (.c (.d (.i .i64 z.1.1)))),(7,.w (.c (.d (.i .i64 z.1.2.1))))],[(2,.row 9 (.strs z.1.2.2))],3⟩,fun z=>(jnY s at_ r).inv z,fun z=>z.2⟩
 |_=>none) [.d (.s s),.d (.i .u8 at_)] [.row 9 (.strs r)] :=
 Sk.vc (jth s at_ r) (by kernel_rfl) h
theorem jsv:jan Tryz.prog 21 true (ja4 jpa jlF):=by
 refine jbI (sp:=sp0) (fn:=Tryz.f21) (body:=bodyOf Tryz.f21) mixed jb9 Tryz.func21 (by kernel_rfl) (by kernel_rfl) fun as_ ob rs h ho=>?_
 unfold jlF at h
 split at h
 ·rename_i s at_
  cases h
  exact⟨Nat.le_of_ble_eq_true rfl,_,_,jsu s at_ _ (jbp ho)⟩
 ·cases h
theorem sp_21_ok {sp:jab} (h:jad Tryz.prog sp):jad Tryz.prog (sp_21 sp):=ja2 jsv h
def jkZ:List (Option Cont):=[none,none]
def y1 (s:ByteArray) (x0:(Int × Int × Int)):Option ((Int × Int × Int) ⊕ (Unit ⊕ (Int × Int))) :=
 if x0.2.2<(↑(ByteArray.size s):Int)then
  if 0≤x0.2.2∧x0.2.2<(↑(ByteArray.size s):Int)then
  if(↑(UInt8.toNat (Array.getD (ByteArray.data s) x0.2.2.toNat (0:UInt8))):Int)<48 then
   some (.inr ((.inl ())))
  else
   if 0≤x0.2.2∧x0.2.2<(↑(ByteArray.size s):Int)then
   if(↑(UInt8.toNat (Array.getD (ByteArray.data s) x0.2.2.toNat (0:UInt8))):Int)>57 then
    some (.inr ((.inl ())))
   else
    if 0≤x0.2.2∧x0.2.2<(↑(ByteArray.size s):Int)then
    some (.inl ((x0.1,wrap .i64 (wrap .i64 (10*x0.2.1)+wrap .i64 (wrap .u8 ((↑(UInt8.toNat (Array.getD (ByteArray.data s) x0.2.2.toNat (0:UInt8))):Int)-48))),wrap .i64 (x0.2.2+1))))
    else none
   else none
  else none
 else
  some (.inr ((.inr (x0.1,x0.2.1))))
def jmm (u15:Unit):Option (Int × Bool) :=
 some (((0:Int),false))
def jeD (u29:Int × Int):Option (Int × Bool) :=
 if(u29.1==1)=true then
  some ((wrap .i64 (0-u29.2),true))
 else
  some (u29.2,true)
def y5:(Unit ⊕ (Int × Int))→Option (Int × Bool) :=
 (Sum.elim (jmm) (jeD))
def y7 (s:ByteArray) (u20:Int):Option (Int × Bool) :=
 if(↑(ByteArray.size s):Int)>0 then
  if(0:Int)≤0∧0<(↑(ByteArray.size s):Int)then
  if((↑(UInt8.toNat (Array.getD (ByteArray.data s) (0:Nat) (0:UInt8))):Int)==45)=true then
   if((↑(ByteArray.size s):Int)==1)=true then
   some (((0:Int),false))
   else
   if wrap .i64 ((↑(ByteArray.size s):Int)-1)>u20 then
    some (((0:Int),false))
   else
    if(0:Int)≤1∧1<(↑(ByteArray.size s):Int)then
    if((↑(UInt8.toNat (Array.getD (ByteArray.data s) (1:Nat) (0:UInt8))):Int)==48)=true then
     if(↑(ByteArray.size s):Int)>1 then
     some (((0:Int),false))
     else
     Option.bind (jaB (y1 s) big (((1:Int),0,1))) (y5)
    else
     Option.bind (jaB (y1 s) big (((1:Int),0,1))) (y5)
    else none
  else
   if((↑(ByteArray.size s):Int)==0)=true then
   some (((0:Int),false))
   else
   if wrap .i64 ((↑(ByteArray.size s):Int)-0)>u20 then
    some (((0:Int),false))
   else
    if(0:Int)≤0∧0<(↑(ByteArray.size s):Int)then
    if((↑(UInt8.toNat (Array.getD (ByteArray.data s) (0:Nat) (0:UInt8))):Int)==48)=true then
     if(↑(ByteArray.size s):Int)>1 then
     some (((0:Int),false))
     else
     Option.bind (jaB (y1 s) big (((0:Int),0,0))) (y5)
    else
     Option.bind (jaB (y1 s) big (((0:Int),0,0))) (y5)
    else none
  else none
 else
  if((↑(ByteArray.size s):Int)==0)=true then
  some (((0:Int),false))
  else
  if wrap .i64 ((↑(ByteArray.size s):Int)-0)>u20 then
   some (((0:Int),false))
  else
   if(0:Int)≤0∧0<(↑(ByteArray.size s):Int)then
   if((↑(UInt8.toNat (Array.getD (ByteArray.data s) (0:Nat) (0:UInt8))):Int)==48)=true then
    if(↑(ByteArray.size s):Int)>1 then
    some (((0:Int),false))
    else
    Option.bind (jaB (y1 s) big (((0:Int),0,0))) (y5)
   else
    Option.bind (jaB (y1 s) big (((0:Int),0,0))) (y5)
   else none
def jhg:List A→Option (Prop × List RV)
 |[.d (.s s),.d (.i .i64 u20)]=>some (ok (y7 s u20),[.d (.i .i64 ((val (y7 s u20)).1)),.d (.b ((val (y7 s u20)).2))])
 |_=>none
abbrev sp_22:jab→jab:=jbZ 22 true (ja4 jkZ jhg)
abbrev jf3 (s:ByteArray) (u20:Int) (r:Int × Bool):Lp ((Int × Int × Int) × Nat) (Int × Int × Int) ((Unit ⊕ (Int × Int))) (Int × Bool) (Int × Bool) :=
 ⟨fun z=>z.1,fun z=>z.2,fun z x n=>(x,n),fun z=>y1 s,fun z=>y5,fun z=>top r,fun z=>0,[.c fun _=>s,.c fun vv=>vv.1.1,.c fun vv=>vv.1.2.1,.c fun vv=>vv.1.2.2]⟩
def jjl (s:ByteArray) (u20:Int) (r:Int × Bool):Sk (top r) (Option.bind (jaB (y1 s) big (((1:Int),0,1))) (y5)) :=
 .loop (jf3 s u20 r) (fun kk=>(((1:Int),0,1),big)) fun z0 =>
 .br
 (.ob (.br
 (.exit (.obT (.obT (.rc))))
 (.ob (.br
 (.exit (.obT (.obT (.rc))))
 (.ob (.obT (.next)))))))
 (.exit (.brB
 (.obT (.obT (.rc)))
 (.obT (.obT (.rc)))))
def jec (s:ByteArray) (u20:Int) (r:Int × Bool):Sk (top r) (Option.bind (jaB (y1 s) big (((0:Int),0,0))) (y5)) :=
 .loop (jf3 s u20 r) (fun kk=>(((0:Int),0,0),big)) fun z0 =>
 .br
 (.ob (.br
 (.exit (.obT (.obT (.rc))))
 (.ob (.br
 (.exit (.obT (.obT (.rc))))
 (.ob (.obT (.next)))))))
 (.exit (.brB
 (.obT (.obT (.rc)))
 (.obT (.obT (.rc)))))
def jp9 (s:ByteArray) (u20:Int) (r:Int × Bool):Sk (top r) (y7 s u20) :=
 .br
 (.ob (.brB
 (.brB
 (.obT (.obT (.rc)))
 (.br
 (.obT (.obT (.rc)))
 (.ob (.brB
 (.br
 (.obT (.obT (.rc)))
 (jjl s u20 r))
 (jjl s u20 r)))))
 (.brB
 (.obT (.obT (.rc)))
 (.br
 (.obT (.obT (.rc)))
 (.ob (.brB
 (.br
 (.obT (.obT (.rc)))
 (jec s u20 r))
 (jec s u20 r)))))))
 (.brB
 (.obT (.obT (.rc)))
 (.br
 (.obT (.obT (.rc)))
 (.ob (.brB
 (.br
 (.obT (.obT (.rc)))
 (jec s u20 r))
 (jec s u20 r)))))
theorem jos (s:ByteArray) (u20:Int) (r:Int × Bool) (h:Option.bind (y7 s u20) some=some r):jdH Tryz.f22 (sp0) (fun gs id st=>match id with
 |0=>some ⟨(Int × Int × Int) × Nat,fun z=>⟨[(0,.w (.c (.d (.s s)))),(6,.w (.c (.d (.i .i64 z.1.1)))),(7,.w (.c (.d (.i .i64 z.1.2.1)))),(8,.w (.c (.d (.i .i64 z.1.2.2))))],[],2⟩,fun z=>(jf3 s u20 r).inv z,fun z=>z.2⟩
 |_=>none) [.d (.s s),.d (.i .i64 u20)] [.d (.i .i64 r.1),.d (.b r.2)] :=
 Sk.vc (jp9 s u20 r) (by kernel_rfl) h
theorem jot:jan Tryz.prog 22 true (ja4 jkZ jhg):=by
 refine jbI (sp:=sp0) (fn:=Tryz.f22) (body:=bodyOf Tryz.f22) mixed jb9 Tryz.func22 (by kernel_rfl) (by kernel_rfl) fun as_ ob rs h ho=>?_
 unfold jhg at h
 split at h
 ·rename_i s u20
  cases h
  exact⟨Nat.le_of_ble_eq_true rfl,_,_,jos s u20 _ (jbp ho)⟩
 ·cases h
theorem sp_22_ok {sp:jab} (h:jad Tryz.prog sp):jad Tryz.prog (sp_22 sp):=ja2 jot h
def jjm:List (Option Cont):=[none]
def y3 (x0:(Int × ByteArray × ByteArray)):Option ((Int × ByteArray × ByteArray) ⊕ (ByteArray × ByteArray)) :=
 if(x0.1 != 0)=true then
  Option.bind (jfw (Int.tmod x0.1 (10:Int))) fun r0 =>
  if(↑(ByteArray.size (jf8 [wrap .u8 (wrap .i64 (48+r0))])+ByteArray.size x0.2.1):Int)≤9223372036854775807 then
  some (.inl ((wrap .i64 (Int.tdiv x0.1 (10:Int)),jf8 [wrap .u8 (wrap .i64 (48+r0))]++x0.2.1,x0.2.2)))
  else none
 else
  some (.inr (x0.2.1,x0.2.2))
def y10 (u15:ByteArray × ByteArray):Option ByteArray :=
 if(↑(ByteArray.size u15.2+ByteArray.size u15.1):Int)≤9223372036854775807 then
  some (u15.2++u15.1)
 else none
def y13 (n:Int):Option ByteArray :=
 if(n==0)=true then
  some (ByteArray.mk #[(48:UInt8)])
 else
  if n<0 then
  Option.bind (jaB (y3) big ((n,ByteArray.mk #[],ByteArray.mk #[(45:UInt8)]))) (y10)
  else
  Option.bind (jaB (y3) big (n,ByteArray.mk #[],ByteArray.mk #[])) (y10)
def jf4:List A→Option (Prop × List RV)
 |[.d (.i .i64 n)]=>some (ok (y13 n),[.d (.s ((val (y13 n))))])
 |_=>none
abbrev sp_23:jab→jab:=jbZ 23 true (ja4 jjm jf4)
abbrev jfx (n:Int) (r:ByteArray):Lp ((Int × ByteArray × ByteArray) × Nat) (Int × ByteArray × ByteArray) (ByteArray × ByteArray) ByteArray ByteArray :=
 ⟨fun z=>z.1,fun z=>z.2,fun z x n=>(x,n),fun z=>y3,fun z=>y10,fun z=>top r,fun z=>0,[.c fun vv=>vv.1.1,.c fun vv=>vv.1.2.1,.c fun vv=>vv.1.2.2]⟩
def jnZ (n:Int) (r:ByteArray):Sk (top r) (Option.bind (jaB (y3) big ((n,ByteArray.mk #[],ByteArray.mk #[(45:UInt8)]))) (y10)) :=
 .loop (jfx n r) (fun kk=>((n,ByteArray.mk #[],ByteArray.mk #[(45:UInt8)]),big)) fun z0 =>
 .brB
 (.obC ((10:Int)≠(0:Int)) (by decide) (.call (.obT (.obT (.ob (.obC ((10:Int)≠(0:Int)) (by decide) (.next)))))))
 (.exit (.ob (.obT (.rc))))
def jn0 (n:Int) (r:ByteArray):Sk (top r) (Option.bind (jaB (y3) big (n,ByteArray.mk #[],ByteArray.mk #[])) (y10)) :=
 .loop (jfx n r) (fun kk=>((n,ByteArray.mk #[],ByteArray.mk #[]),big)) fun z0 =>
 .brB
 (.obC ((10:Int)≠(0:Int)) (by decide) (.call (.obT (.obT (.ob (.obC ((10:Int)≠(0:Int)) (by decide) (.next)))))))
 (.exit (.ob (.obT (.rc))))
def jou (n:Int) (r:ByteArray):Sk (top r) (y13 n) :=
 .brB
 (.obT (.rc))
 (.br
 (jnZ n r)
 (jn0 n r))
theorem jn1 (n:Int) (r:ByteArray) (h:Option.bind (y13 n) some=some r):jdH Tryz.f23 ((sp_36 sp0)) (fun gs id st=>match id with
 |0=>some ⟨(Int × ByteArray × ByteArray) × Nat,fun z=>⟨[(0,.w (.c (.d (.i .i64 z.1.1)))),(3,.w (.c (.d (.s z.1.2.1)))),(4,.w (.c (.d (.s z.1.2.2))))],[],1⟩,fun z=>(jfx n r).inv z,fun z=>z.2⟩
 |_=>none) [.d (.i .i64 n)] [.d (.s r)] :=
 Sk.vc (jou n r) (by kernel_rfl) h
theorem jn2:jan Tryz.prog 23 true (ja4 jjm jf4):=by
 refine jbI (sp:=(sp_36 sp0)) (fn:=Tryz.f23) (body:=bodyOf Tryz.f23) mixed (sp_36_ok jb9) Tryz.func23 (by kernel_rfl) (by kernel_rfl) fun as_ ob rs h ho=>?_
 unfold jf4 at h
 split at h
 ·rename_i n
  cases h
  exact⟨Nat.le_of_ble_eq_true rfl,_,_,jn1 n _ (jbp ho)⟩
 ·cases h
theorem sp_23_ok {sp:jab} (h:jad Tryz.prog sp):jad Tryz.prog (sp_23 sp):=ja2 jn2 h
def jfy:List (Option Cont):=[none]
def y6 (s:ByteArray):Option (Int × Int × Int) :=
 Option.bind (jfP s (32:Int)) fun r0 =>
 if((↑r0.length:Int)!=2)=true then
  some (((0:Int),0,7))
 else
  if(0:Int)≤0∧0<(↑r0.length:Int)then
  if 0<List.length r0 then
   Option.bind (y7 (List.getD r0 0 ByteArray.empty) (6:Int)) fun r1 =>
   if(0:Int)≤1∧1<(↑r0.length:Int)then
   if 1<List.length r0 then
    Option.bind (y7 (List.getD r0 1 ByteArray.empty) (6:Int)) fun r2 =>
    if(!r1.2)=true then
    some (((0:Int),0,7))
    else
    if(!r2.2)=true then
     some (((0:Int),0,7))
    else
     some ((r1.1,r2.1,0))
   else none
   else none
  else none
  else none
def y24:List A→Option (Prop × List RV)
 |[.d (.s s)]=>some (ok (y6 s),[.s [.i .i64 ((val (y6 s)).1),.i .i64 ((val (y6 s)).2.1)],.d (.i .i64 ((val (y6 s)).2.2))])
 |_=>none
abbrev sp_7:jab→jab:=jbZ 7 true (ja4 jfy y24)
def jj3 (s:ByteArray) (r:Int × Int × Int):Sk (top r) (y6 s) :=
 .call (.brB
 (.obT (.obT (.rc)))
 (.ob (.ob (.call (.ob (.ob (.call (.brB
 (.obT (.obT (.rc)))
 (.brB
 (.obT (.obT (.rc)))
 (.obT (.obT (.rc))))))))))))
theorem jiW (s:ByteArray) (r:Int × Int × Int) (h:Option.bind (y6 s) some=some r):jdH Tryz.f7 ((sp_21 (sp_22 sp0))) (fun _ _ _=>none) [.d (.s s)] [.s [.i .i64 r.1,.i .i64 r.2.1],.d (.i .i64 r.2.2)] :=
 Sk.vc (jj3 s r) (by kernel_rfl) h
theorem jiX:jan Tryz.prog 7 true (ja4 jfy y24):=by
 refine jbI (sp:=(sp_21 (sp_22 sp0))) (fn:=Tryz.f7) (body:=bodyOf Tryz.f7) mixed (sp_21_ok (sp_22_ok jb9)) Tryz.func7 (by kernel_rfl) (by kernel_rfl) fun as_ ob rs h ho=>?_
 unfold y24 at h
 split at h
 ·rename_i s
  cases h
  exact⟨Nat.le_of_ble_eq_true rfl,_,_,jiW s _ (jbp ho)⟩
 ·cases h
theorem sp_7_ok {sp:jab} (h:jad Tryz.prog sp):jad Tryz.prog (sp_7 sp):=ja2 jiX h
def y31:List (Option Cont):=[none]
def y8 (u13 u14:Int):Option ByteArray :=
 Option.bind (y13 u13) fun r0 =>
 if(↑(ByteArray.size r0+ByteArray.size (ByteArray.mk #[(32:UInt8)])):Int)≤9223372036854775807 then
  Option.bind (y13 u14) fun r1 =>
  if(↑(ByteArray.size (r0++ByteArray.mk #[(32:UInt8)])+ByteArray.size r1):Int)≤9223372036854775807 then
  some (r0++ByteArray.mk #[(32:UInt8)]++r1)
  else none
 else none
def y17:List A→Option (Prop × List RV)
 |[.s [.i .i64 u13,.i .i64 u14]]=>some (ok (y8 u13 u14),[.d (.s ((val (y8 u13 u14))))])
 |_=>none
abbrev sp_8:jab→jab:=jbZ 8 true (ja4 y31 y17)
def jiY (u13 u14:Int) (r:ByteArray):Sk (top r) (y8 u13 u14) :=
 .call (.ob (.call (.ob (.obT (.rc)))))
theorem jir (u13 u14:Int) (r:ByteArray) (h:Option.bind (y8 u13 u14) some=some r):jdH Tryz.f8 ((sp_23 sp0)) (fun _ _ _=>none) [.s [.i .i64 u13,.i .i64 u14]] [.d (.s r)] :=
 Sk.vc (jiY u13 u14 r) (by kernel_rfl) h
theorem jis:jan Tryz.prog 8 true (ja4 y31 y17):=by
 refine jbI (sp:=(sp_23 sp0)) (fn:=Tryz.f8) (body:=bodyOf Tryz.f8) mixed (sp_23_ok jb9) Tryz.func8 (by kernel_rfl) (by kernel_rfl) fun as_ ob rs h ho=>?_
 unfold y17 at h
 split at h
 ·rename_i u13 u14
  cases h
  exact⟨Nat.le_of_ble_eq_true rfl,_,_,jir u13 u14 _ (jbp ho)⟩
 ·cases h
theorem sp_8_ok {sp:jab} (h:jad Tryz.prog sp):jad Tryz.prog (sp_8 sp):=ja2 jis h
def jk0:List (Option Cont):=[none,none,none]
def jdi (n lo hi:Int):Option Bool :=
 if lo≤n then
  some (decide (n≤hi))
 else
  some false
def jhh:List A→Option (Prop × List RV)
 |[.d (.i .i64 n),.d (.i .i64 lo),.d (.i .i64 hi)]=>some (ok (jdi n lo hi),[.d (.b ((val (jdi n lo hi))))])
 |_=>none
abbrev sp_9:jab→jab:=jbZ 9 true (ja4 jk0 jhh)
def jqa (n lo hi:Int) (r:Bool):Sk (top r) (jdi n lo hi) :=
 .br
 (.obT (.rc))
 (.obT (.rc))
theorem jov (n lo hi:Int) (r:Bool) (h:Option.bind (jdi n lo hi) some=some r):jdH Tryz.f9 (sp0) (fun _ _ _=>none) [.d (.i .i64 n),.d (.i .i64 lo),.d (.i .i64 hi)] [.d (.b r)] :=
 Sk.vc (jqa n lo hi r) (by kernel_rfl) h
theorem jow:jan Tryz.prog 9 true (ja4 jk0 jhh):=by
 refine jbI (sp:=sp0) (fn:=Tryz.f9) (body:=bodyOf Tryz.f9) mixed jb9 Tryz.func9 (by kernel_rfl) (by kernel_rfl) fun as_ ob rs h ho=>?_
 unfold jhh at h
 split at h
 ·rename_i n lo hi
  cases h
  exact⟨Nat.le_of_ble_eq_true rfl,_,_,jov n lo hi _ (jbp ho)⟩
 ·cases h
theorem sp_9_ok {sp:jab} (h:jad Tryz.prog sp):jad Tryz.prog (sp_9 sp):=ja2 jow h
end Go.Sh
end

section
namespace Go.Sh
open Go Go.Proofs Go.RowKit Go.Sx Go.Lib
open Go.IntKind (wrap)
def az (n:Int):Int:=max n (-n)
theorem jud (n:Int):az n=(n.natAbs:Int):=by unfold az; omega
def mkB (l:List UInt8):ByteArray:=⟨l.toArray⟩
theorem jj4 (l:List UInt8):(mkB l).data.toList=l:=rfl
theorem jaQ (l:List UInt8):(mkB l).size=l.length:=by rw[size_eq]; rfl
theorem jiV (s:ByteArray) (j:Nat):Array.getD s.data j 0=s.data.toList.getD j 0:=by
 obtain⟨⟨l⟩⟩:=s
 simp[Array.getD,List.getD]
 split
 ·rename_i h; rw[List.getElem?_eq_getElem h]; rfl
 ·rename_i h; rw[List.getElem?_eq_none (by omega)]; rfl
def ja6 (c:UInt8) (l:List UInt8):Nat→Nat × List (List UInt8)
 |0=>(0,[])
 |j+1=>if l.getD j 0=c then(j+1,(ja6 c l j).2++[(l.drop (ja6 c l j).1).take (j-(ja6 c l j).1)])else ja6 c l j
theorem jhi (c:UInt8) (l:List UInt8):∀j,(ja6 c l j).1≤j∧(ja6 c l j).2.length≤j
 |0=>⟨Nat.le_refl _,Nat.le_refl _⟩
 |j+1=>by
  have ih:=jhi c l j
  unfold ja6
  split
  ·simp; omega
  ·omega
theorem jl7 (c:UInt8) (l:List UInt8):∀j,j≤l.length→(ja6 c l j).2++jaZ c ((l.drop (ja6 c l j).1).take (j-(ja6 c l j).1)) (l.drop j)=jaZ c [] l
 |0,_=>by simp[ja6]
 |j+1,h=>by
  have ih:=jl7 c l j (by omega)
  have hle:=(jhi c l j).1
  have hd:l.drop j=l.getD j 0::l.drop (j+1):=by
   rw[List.drop_eq_getElem_cons (by omega)]
   simp[List.getD,show j<l.length by omega]
  rw[hd]at ih
  have hg:∀p,jaZ c p (l.getD j 0::l.drop (j+1))=if l.getD j 0=c then p::jaZ c [] (l.drop (j+1))else jaZ c (p++[l.getD j 0]) (l.drop (j+1)):=fun p=>rfl
  rw[hg]at ih
  unfold ja6
  by_cases hc:l.getD j 0=c
  ·rw[if_pos hc]at ih
   rw[if_pos hc,←ih]
   simp
  ·rw[if_neg hc]at ih
   rw[if_neg hc,←ih]
   have e:(l.drop (ja6 c l j).1).take (j+1-(ja6 c l j).1)=(l.drop (ja6 c l j).1).take (j-(ja6 c l j).1)++[l.getD j 0]:=by
    rw[show j+1-(ja6 c l j).1=(j-(ja6 c l j).1)+1 by omega,List.take_add_one,List.getElem?_drop]
    congr 1
    rw[show(ja6 c l j).1+(j-(ja6 c l j).1)=j by omega]
    simp[List.getD,show j<l.length by omega]
   rw[e]
theorem jqb (x c:UInt8):(((x.toNat:Nat):Int)==((c.toNat:Nat):Int))=decide (x=c):=by
 by_cases h:x=c
 ·subst h; simp
 ·rw[decide_eq_false h]
  have:x.toNat≠c.toNat:=fun e=>h (UInt8.toNat_inj.1 e)
  simp; omega
theorem jti (s:ByteArray) (c:UInt8) (hs:s.size≤1000000):jfP s (c.toNat:Int)=some ((jaZ c [] s.data.toList).map mkB):=by
 have hl:=size_eq s
 generalize hL:s.data.toList=l at *
 have hx:∀a b:Nat,ByteArray.extract s a b=mkB ((l.drop a).take (b-a)):=fun a b=>by rw[extract_eq,hL]; rfl
 have e1:jaB (jd0 s (c.toNat:Int)) big ((0:Int),(0:Int),[])=some (((ja6 c l l.length).1:Int),(ja6 c l l.length).2.map mkB):=by
  refine jiq (fun j=>(((ja6 c l j).1:Int),(j:Int),(ja6 c l j).2.map mkB)) (k:=l.length) (fun j hj=>?_) ?_ (by omega)
  ·have hle:=jhi c l j
   unfold jd0
   dsimp only
   rw[if_pos (by omega),if_pos (by omega),Int.toNat_natCast,jiV,hL,jqb]
   conv=>rhs; unfold ja6
   by_cases hc:l.getD j 0=c
   ·rw[decide_eq_true hc,if_pos rfl,if_pos hc,if_pos (by simp only[Option.getD_some]; omega),if_pos (by simp; omega)]
    simp only[Option.getD_some,Int.toNat_natCast,hx]
    rw[jeB (by omega)]
    simp
   ·rw[decide_eq_false hc,if_neg Bool.false_ne_true,if_neg hc,jeB (by omega)]
    rfl
  ·unfold jd0
   dsimp only
   rw[if_neg (by omega)]
 have hle:=jhi c l l.length
 have hi:=jl7 c l l.length (Nat.le_refl _)
 rw[List.drop_length]at hi
 unfold jfP
 rw[e1,jao]
 unfold jhf
 dsimp only
 rw[if_pos (by simp only[Option.getD_some,Option.getD_none]; omega),if_pos (by simp; omega)]
 simp only[Option.getD_some,Option.getD_none,Int.toNat_natCast,hx,hl]
 rw[←hi]
 simp[jaZ]
theorem jsw {d:List UInt8}:(jbg d=true∧∀i,i<d.length→jb1 (d.getD i 0)=true)∨(jbg d=false∧∃j,j<d.length∧jb1 (d.getD j 0)=false∧∀i,i<j→jb1 (d.getD i 0)=true):=by
 induction d with
 |nil=>left; exact⟨rfl,fun i hi=>by simp at hi⟩
 |cons x d ih =>
  cases hx:jb1 x with
  |false=>right; exact⟨by simp[jbg,hx],0,by simp,by simpa using hx,fun i hi=>by omega⟩
  |true =>
   rcases ih with ⟨h1,h2⟩|⟨h1,j,h2,h3,h4⟩
   ·left
    refine⟨by unfold jbg at h1 ⊢; simp[hx,h1],fun i hi=>?_⟩
    cases i with
    |zero=>simpa using hx
    |succ i=>have:=h2 i (by simpa using hi); simpa using this
   ·right
    refine⟨by unfold jbg at h1 ⊢; simp[hx,h1],j+1,by simpa using h2,by simpa using h3,fun i hi=>?_⟩
    cases i with
    |zero=>simpa using hx
    |succ i=>have:=h4 i (by omega); simpa using this
theorem jrj {d:List UInt8} {i:Nat} (h:i<d.length):jaP 0 (d.take (i+1))=jaP 0 (d.take i)*10+((d.getD i 0).toNat-48):=by
 rw[List.take_succ_eq_append_getElem h,jeb]
 simp[List.getD,h]
theorem jrk {d:List UInt8} {j:Nat} (hj:j≤d.length) (h:∀i,i<j→jb1 (d.getD i 0)=true):jbg (d.take j)=true:=by
 unfold jbg
 rw[List.all_eq_true]
 intro x hx
 obtain⟨i,hi,rfl⟩:=List.getElem_of_mem hx
 rw[List.length_take]at hi
 have:=h i (by omega)
 simpa [List.getD,show i<d.length by omega]using this
theorem jrl {d:List UInt8} {i:Nat} (hl:i≤17) (hi:i≤d.length) (h:∀j,j<i→jb1 (d.getD j 0)=true):jaP 0 (d.take i)<100000000000000000:=by
 have a:=jiT (d.take i) 0 (jrk hi h)
 rw[Nat.zero_add,Nat.one_mul]at a
 have b:10^(d.take i).length≤10^17:=Nat.pow_le_pow_right (by omega) (by rw[List.length_take]; omega)
 have c:(10:Nat)^17=100000000000000000:=by decide
 omega
theorem jjn (s:ByteArray) (at_:Nat) (hat:at_≤s.size) (hsz:s.size≤1000000) (hl:s.size-at_≤18) :
  jaB (y1 s) big ((at_:Int),(0:Int),(at_:Int))=some (if jbg (s.data.toList.drop at_)=true then .inr ((at_:Int),(jaP 0 (s.data.toList.drop at_):Int))else .inl ()):=by
 have hs:=size_eq s
 generalize hL:s.data.toList=l at *
 have hdl:(l.drop at_).length=l.length-at_:=List.length_drop
 have hget:∀i,(l.drop at_).getD i 0=l.getD (at_+i) 0:=fun i=>by simp[List.getD,List.getElem?_drop]
 have ja5:∀i,i<(l.drop at_).length→(∀j,j<i→jb1 ((l.drop at_).getD j 0)=true) →
   y1 s ((at_:Int),(jaP 0 ((l.drop at_).take i):Int),((at_+i:Nat):Int))=if jb1 ((l.drop at_).getD i 0)=true then some (.inl ((at_:Int),(jaP 0 ((l.drop at_).take (i+1)):Int),((at_+(i+1):Nat):Int)))else some (.inr (.inl ())):=by
  intro i hi hd
  have sm:=jrl (d:=l.drop at_) (i:=i) (by omega) (by omega) hd
  unfold y1
  dsimp only
  rw[if_pos (by omega),if_pos (by omega),Int.toNat_natCast,jiV,hL,←hget]
  by_cases h1:48≤((l.drop at_).getD i 0).toNat
  ·rw[if_neg (by omega),if_pos (by omega)]
   by_cases h2:((l.drop at_).getD i 0).toNat≤57
   ·rw[if_neg (by omega),if_pos (by omega),if_pos (jb2.2 ⟨h1,h2⟩),jrj hi]
    have u8:wrap IntKind.u8 ((((l.drop at_).getD i 0).toNat:Int)-48)=(((l.drop at_).getD i 0).toNat:Int)-48:=by
     have hw:∀y:Int,IntKind.u8.wrap y=y%256:=fun y=>by
      unfold wrap
      simp[IntKind.signed,IntKind.bits]
     rw[hw]
     omega
    rw[u8,jeB (x:=10*_) (by omega),jeB (x:=(((l.drop at_).getD i 0).toNat:Int)-48) (by omega),jeB (by omega),jeB (by omega)]
    congr 3
    exact Prod.ext (by dsimp only; omega) (by dsimp only; omega)
   ·rw[if_pos (by omega),if_neg (fun h=>h2 (jb2.1 h).2)]
  ·rw[if_pos (by omega),if_neg (fun h=>h1 (jb2.1 h).1)]
 rcases jsw (d:=l.drop at_)with ⟨h1,h2⟩|⟨h1,j,h2,h3,h4⟩
 ·rw[h1,if_pos rfl]
  have:=jiq (body:=y1 s) (fun i=>((at_:Int),(jaP 0 ((l.drop at_).take i):Int),((at_+i:Nat):Int))) (k:=(l.drop at_).length) (y:=.inr ((at_:Int),(jaP 0 (l.drop at_):Int)))
   (fun i hi=>by rw[ja5 i hi (fun j hj=>h2 j (by omega)),h2 i hi,if_pos rfl])
   (by
    unfold y1
    dsimp only
    rw[if_neg (by omega),List.take_length]) (by omega)
  exact this
 ·rw[h1,if_neg Bool.false_ne_true]
  have:=jiq (body:=y1 s) (fun i=>((at_:Int),(jaP 0 ((l.drop at_).take i):Int),((at_+i:Nat):Int))) (k:=j) (y:=.inl ())
   (fun i hi=>by rw[ja5 i (by omega) (fun q hq=>h4 q (by omega)),h4 i hi,if_pos rfl])
   (by rw[ja5 j h2 h4,h3,if_neg Bool.false_ne_true]) (by omega)
  exact this
theorem jd1 (a b:List UInt8):mkB a++mkB b=mkB (a++b):=by
 apply ByteArray.ext
 show(mkB a++mkB b).data=_
 rw[ByteArray.data_append]
 simp[mkB]
theorem jmw (a b:ByteArray):(a==b)=decide (a=b):=by
 obtain⟨⟨x⟩⟩:=a
 obtain⟨⟨y⟩⟩:=b
 show((⟨x⟩:Array UInt8)==⟨y⟩)=_
 rw[Bool.eq_iff_iff]
 simp
theorem jqc (x:UInt8):(((x.toNat:Nat):Int)==48)=decide (x=48):=jqb x 48
theorem u8_45 (x:UInt8):(((x.toNat:Nat):Int)==45)=decide (x=45):=jqb x 45
theorem jk1 (s:ByteArray) (k:Nat) (hk:k≤17) (hs:s.size≤1000000) :
  y7 s (k:Int)=some (match jbJ k s.data.toList with|some v=>(v,true)|none=>(0,false)):=by
 have hl:=size_eq s
 have h0:Array.getD s.data 0 0=s.data.toList.getD 0 0:=jiV s 0
 have h1:Array.getD s.data 1 0=s.data.toList.getD 1 0:=jiV s 1
 have b0:=fun h:s.size≤18=>jjn s 0 (Nat.zero_le _) hs h
 have b1:=fun h1 h=>jjn s 1 h1 hs h
 generalize hL:s.data.toList=l at *
 cases l with
 |nil =>
  unfold y7
  simp only[List.length_nil]at hl
  rw[if_neg (by omega),if_pos (by simp[hl])]
  rfl
 |cons x r =>
  simp only[List.length_cons]at hl
  have g0:(x::r).getD 0 0=x:=rfl
  rw[g0]at h0
  unfold y7
  rw[if_pos (by omega),if_pos (by omega),h0]
  by_cases hx:x=45
  ·subst hx
   rw[if_pos (by decide)]
   have hb:behind (45::r)=r:=rfl
   have hh:(45::r:List UInt8).head?=some 45:=rfl
   unfold jbJ
   rw[hb]
   by_cases hr:r=[]
   ·subst hr
    rw[if_pos (by simp[hl]),if_pos (.inl rfl)]
   ·have hr2:r.length≠0:=fun h=>hr (List.eq_nil_of_length_eq_zero h)
    rw[if_neg (by simp; omega),jeB (by omega)]
    by_cases hkk:k<r.length
    ·rw[if_pos (by omega),if_pos (.inr (.inl hkk))]
    ·rw[if_neg (by omega),if_pos (by omega),h1]
     obtain⟨y,q,rfl⟩:∃y q,r=y::q:=by
      cases r with
      |nil=>exact absurd rfl hr
      |cons y q=>exact⟨y,q,rfl⟩
     have g1:(45::y::q:List UInt8).getD 1 0=y:=rfl
     rw[g1]
     by_cases hy:y=48
     ·subst hy
      rw[if_pos (by decide),if_pos (by omega),if_pos (.inr (.inr (.inl ⟨rfl,by simp⟩)))]
     ·have hy':¬(((y.toNat:Nat):Int)==48)=true:=by
       rw[jqc]
       simpa using hy
      rw[if_neg hy']
      have hb1:=b1 (by omega) (by omega)
      rw[show((1:Nat):Int)=1 from rfl]at hb1
      rw[hb1,jao,show List.drop 1 (45::y::q)=y::q from rfl]
      unfold y5
      cases hd:jbg (y::q)with
      |false =>
       rw[if_neg Bool.false_ne_true,if_pos (.inr (.inr (.inr rfl)))]
       rfl
      |true =>
       have hlt:=jiT (y::q) 0 hd
       rw[Nat.zero_add,Nat.one_mul]at hlt
       have hp:=Nat.pow_le_pow_right (show 0<10 by omega) (show(y::q).length≤17 by omega)
       have h17:(10:Nat)^17=100000000000000000:=by decide
       have hc:¬(y::q=[]∨k<(y::q).length∨((y::q).head?=some 48∧1<(45::y::q:List UInt8).length)∨true=false):=by
        rintro (h|h|h|h)
        ·cases h
        ·omega
        ·exact hy (Option.some.inj h.1)
        ·cases h
       rw[if_pos rfl,if_neg hc,if_pos hh]
       show jeD (1,(jaP 0 (y::q):Int))=_
       unfold jeD
       dsimp only
       rw[if_pos (by decide),jeB (by omega)]
       simp
  ·have hx':¬(((x.toNat:Nat):Int)==45)=true:=by
    rw[u8_45]
    simpa using hx
   rw[if_neg hx']
   have hh:¬(x::r).head?=some 45:=fun h=>hx (Option.some.inj h)
   have hb:behind (x::r)=x::r:=by unfold behind; rw[if_neg hh]
   unfold jbJ
   rw[hb,if_neg (show ¬(((s.size:Nat):Int)==0)=true from fun h=>by have:=eq_of_beq h; omega),jeB (x:=(s.size:Int)-0) (by omega)]
   by_cases hkk:k<r.length+1
   ·rw[if_pos (by omega),if_pos (.inr (.inl hkk))]
   ·rw[if_neg (by omega),if_pos (by omega)]
    have fin:(x=48→r=[])→Option.bind (jaB (y1 s) big ((0:Int),(0:Int),(0:Int))) y5=some (match(if x::r=[]∨k<(x::r).length∨((x::r).head?=some 48∧1<(x::r).length)∨jbg (x::r)=false then none else some (if(x::r).head?=some 45 then -(jaP 0 (x::r):Int)else(jaP 0 (x::r):Int)):Option Int)with|some v=>(v,true)|none=>(0,false)):=by
     intro h48
     have hb0:=b0 (by omega)
     rw[show((0:Nat):Int)=0 from rfl]at hb0
     rw[hb0,jao,List.drop_zero]
     unfold y5
     cases hd:jbg (x::r)with
     |false =>
      rw[if_neg Bool.false_ne_true,if_pos (.inr (.inr (.inr rfl)))]
      rfl
     |true =>
      have hc:¬(x::r=[]∨k<(x::r).length∨((x::r).head?=some 48∧1<(x::r).length)∨true=false):=by
       rintro (h|h|h|h)
       ·cases h
       ·simp at h; omega
       ·have:=h48 (Option.some.inj h.1)
        subst this
        simp at h
       ·cases h
      rw[if_pos rfl,if_neg hc,if_neg hh]
      rfl
    by_cases hy:x=48
    ·have hy':(((x.toNat:Nat):Int)==48)=true:=by rw[jqc]; simpa using hy
     rw[if_pos hy']
     by_cases hr:r=[]
     ·rw[if_neg (by subst hr; simp at hl; omega)]
      exact fin fun _=>hr
     ·have hr2:r.length≠0:=fun h=>hr (List.eq_nil_of_length_eq_zero h)
      rw[if_pos (by omega),if_pos (.inr (.inr (.inl ⟨by rw[hy]; rfl,by simp; omega⟩)))]
    ·have hy':¬(((x.toNat:Nat):Int)==48)=true:=by rw[jqc]; simpa using hy
     rw[if_neg hy']
     exact fin fun h=>absurd h hy
theorem jrm {d:Nat} (h:d<10):jf8 [wrap IntKind.u8 (wrap IntKind.i64 ((48:Int)+(d:Int)))]=mkB [UInt8.ofNat (48+d)]:=by
 have hw:∀y:Int,IntKind.u8.wrap y=y%256:=fun y=>by
  unfold wrap
  simp[IntKind.signed,IntKind.bits]
 rw[jeB (by omega),hw]
 unfold jf8 mkB
 simp only[List.foldl_cons,List.foldl_nil]
 rw[show((48+(d:Int))%256).toNat=48+d by omega]
 rfl
theorem jn3:∀(u:Nat) (x:Int) (s:List UInt8) (sg:ByteArray) (N:Nat),x.natAbs=u→u≠0→-9223372036854775808≤x→x≤9223372036854775807→s.length+(decDigits u).length≤1000→u<N →
  jaB y3 N (x,mkB s,sg)=some (mkB (decDigits u++s),sg):=by
 intro u
 induction u using Nat.strongRecOn with
 |_ u ih =>
  intro x s sg N hx hu h1 h2 hS hN
  obtain⟨M,rfl⟩:∃M,N=M+1:=⟨N-1,by omega⟩
  have hd:az (x.tmod 10)=((u%10:Nat):Int):=by
   rw[jud,Int.natAbs_tmod,hx]
   rfl
  have hq:(x.tdiv 10).natAbs=u/10:=by rw[Int.natAbs_tdiv,hx]; rfl
  have hin:inJ (x.tmod 10):=by
   have:(x.tmod 10).natAbs=u%10:=by rw[Int.natAbs_tmod,hx]; rfl
   unfold inJ; omega
  have hsz:jfw (x.tmod 10)=some (((u%10:Nat):Int)):=by
   unfold jfw
   have e:wrap IntKind.i64 (0-x.tmod 10)=-x.tmod 10:=by rw[jeB (by unfold inJ at hin; omega)]; omega
   rw[e,←hd]
   unfold az
   congr 1
   split<;>omega
  have ja5:y3 (x,mkB s,sg)=some (.inl (x.tdiv 10,mkB (UInt8.ofNat (48+u%10)::s),sg)):=by
   unfold y3
   dsimp only
   rw[if_pos (by simp; omega),hsz,jao,jrm (by omega)]
   rw[if_pos (by rw[jaQ,jaQ]; simp; omega),jd1,jeB (by omega)]
   rfl
  have hne:jaB y3 (M+1) (x,mkB s,sg)=jaB y3 M (x.tdiv 10,mkB (UInt8.ofNat (48+u%10)::s),sg):=by
   conv=>lhs; unfold jaB
   rw[ja5]
  rw[hne]
  by_cases h10:u<10
  ·have hz:x.tdiv 10=0:=by omega
   obtain⟨M',rfl⟩:∃M',M=M' + 1:=⟨M-1,by omega⟩
   rw[hz,jbz h10,show u%10=u by omega]
   unfold jaB y3
   rfl
  ·have hl:(decDigits u).length=(decDigits (u/10)).length+1:=by rw[jev h10]; simp
   rw[ih (u/10) (by omega) (x.tdiv 10) _ sg M hq (by omega) (by omega) (by omega) (by simp; omega) (by omega),jev h10]
   simp
theorem jsx {n:Int} (h:-9223372036854775808≤n∧n≤9223372036854775807):(decDigits n.natAbs).length≤21:=by
 have:=itoa_length_le n h.1 h.2
 unfold itoa at this
 split at this
 ·simp at this; omega
 ·rw[show n.natAbs=n.toNat by omega]; exact this
theorem jjo {n:Int} (h:-9223372036854775808≤n∧n≤9223372036854775807):y13 n=some (mkB (itoa n)):=by
 have hl:=jsx h
 unfold y13 itoa
 by_cases h0:n=0
 ·subst h0
  rw[if_pos (by decide),if_neg (by decide),show(0:Int).toNat=0 from rfl,jbz (by omega)]
  rfl
 ·rw[if_neg (by simpa using h0)]
  have dl:=fun sg=>jn3 n.natAbs n [] sg big rfl (by omega) h.1 h.2 (by simp; omega) (by unfold big; omega)
  simp only[List.append_nil]at dl
  by_cases hn:n<0
  ·rw[if_pos hn,if_pos hn]
   have e:=dl (mkB [45])
   rw[show(n,ByteArray.mk #[],ByteArray.mk #[(45:UInt8)])=(n,mkB [],mkB [45])from rfl,e,jao]
   unfold y10
   dsimp only
   rw[if_pos (by rw[jaQ,jaQ]; simp; omega),jd1]
   rfl
  ·rw[if_neg hn,if_neg hn]
   have e:=dl (mkB [])
   rw[show(n,ByteArray.mk #[],ByteArray.mk #[])=(n,mkB [],mkB [])from rfl,e,jao]
   unfold y10
   dsimp only
   rw[if_pos (by rw[jaQ,jaQ]; simp; omega),jd1,show n.natAbs=n.toNat by omega]
   rfl
end Go.Sh
end

section
namespace Go.Sh
open Go Go.Proofs Go.RowKit Go.Sx
def jk2:List (Option Cont):=[none]
def y14 (s:ByteArray):Option (Int × Bool) :=
 if(jeN s)=true then
  if ByteArray.size s≤1000000 then
  Option.bind (strconv_Itoa (jbh s)) fun r0 =>
  if(r0==s)=true then
   Option.bind (strings_TrimPrefix s (ByteArray.mk #[(45:UInt8)])) fun r1 =>
   some ((jbh s,decide ((↑(ByteArray.size r1):Int)≤6)))
  else
   some (jbh s,false)
  else none
 else
  if ByteArray.size s≤1000000 then
  some (jbh s,false)
  else none
def jhj:List A→Option (Prop × List RV)
 |[.d (.s s)]=>some (ok (y14 s),[.d (.i .i64 ((val (y14 s)).1)),.d (.b ((val (y14 s)).2))])
 |_=>none
abbrev sp_20:jab→jab:=jbZ 20 true (ja4 jk2 jhj)
def jqd (s:ByteArray) (r:Int × Bool):Sk (top r) (y14 s) :=
 .brB
 (.ob (.call (.brB
 (.call (.obT (.obT (.rc))))
 (.obT (.obT (.rc))))))
 (.ob (.obT (.obT (.rc))))
theorem jox (s:ByteArray) (r:Int × Bool) (h:Option.bind (y14 s) some=some r):jdH Tryz.f20 ((sp_34 (sp_18 (sp_35 sp0)))) (fun _ _ _=>none) [.d (.s s)] [.d (.i .i64 r.1),.d (.b r.2)] :=
 Sk.vc (jqd s r) (by kernel_rfl) h
theorem joy:jan Tryz.prog 20 true (ja4 jk2 jhj):=by
 refine jbI (sp:=(sp_34 (sp_18 (sp_35 sp0)))) (fn:=Tryz.f20) (body:=bodyOf Tryz.f20) mixed (sp_34_ok (sp_18_ok (sp_35_ok jb9))) Tryz.func20 (by kernel_rfl) (by kernel_rfl) fun as_ ob rs h ho=>?_
 unfold jhj at h
 split at h
 ·rename_i s
  cases h
  exact⟨Nat.le_of_ble_eq_true rfl,_,_,jox s _ (jbp ho)⟩
 ·cases h
theorem sp_20_ok {sp:jab} (h:jad Tryz.prog sp):jad Tryz.prog (sp_20 sp):=ja2 joy h
def jfQ:List (Option Cont):=[none]
def y9 (u13 u14:Int):Option ByteArray :=
 Option.bind (strconv_Itoa u13) fun r0 =>
 if(↑(ByteArray.size r0+ByteArray.size (ByteArray.mk #[(32:UInt8)])):Int)≤9223372036854775807 then
  Option.bind (strconv_Itoa u14) fun r1 =>
  if(↑(ByteArray.size (r0++ByteArray.mk #[(32:UInt8)])+ByteArray.size r1):Int)≤9223372036854775807 then
  some (r0++ByteArray.mk #[(32:UInt8)]++r1)
  else none
 else none
def y29:List A→Option (Prop × List RV)
 |[.s [.i .i64 u13,.i .i64 u14]]=>some (ok (y9 u13 u14),[.d (.s ((val (y9 u13 u14))))])
 |_=>none
abbrev sp_5:jab→jab:=jbZ 5 true (ja4 jfQ y29)
def jk3 (u13 u14:Int) (r:ByteArray):Sk (top r) (y9 u13 u14) :=
 .call (.ob (.call (.ob (.obT (.rc)))))
theorem jj5 (u13 u14:Int) (r:ByteArray) (h:Option.bind (y9 u13 u14) some=some r):jdH Tryz.f5 ((sp_18 sp0)) (fun _ _ _=>none) [.s [.i .i64 u13,.i .i64 u14]] [.d (.s r)] :=
 Sk.vc (jk3 u13 u14 r) (by kernel_rfl) h
theorem jj6:jan Tryz.prog 5 true (ja4 jfQ y29):=by
 refine jbI (sp:=(sp_18 sp0)) (fn:=Tryz.f5) (body:=bodyOf Tryz.f5) mixed (sp_18_ok jb9) Tryz.func5 (by kernel_rfl) (by kernel_rfl) fun as_ ob rs h ho=>?_
 unfold y29 at h
 split at h
 ·rename_i u13 u14
  cases h
  exact⟨Nat.le_of_ble_eq_true rfl,_,_,jj5 u13 u14 _ (jbp ho)⟩
 ·cases h
theorem sp_5_ok {sp:jab} (h:jad Tryz.prog sp):jad Tryz.prog (sp_5 sp):=ja2 jj6 h
def jgu:List (Option Cont):=[none]
def y4 (s:ByteArray):Option (Int × Int × Int) :=
 Option.bind (strings_Cut s (ByteArray.mk #[(32:UInt8)])) fun r0 =>
 Option.bind (y14 r0.1) fun r1 =>
 Option.bind (y14 r0.2.1) fun r2 =>
 if(!r0.2.2)=true then
  some (((0:Int),0,7))
 else
  if(!r1.2)=true then
  some (((0:Int),0,7))
  else
  if(!r2.2)=true then
   some (((0:Int),0,7))
  else
   some ((r1.1,r2.1,0))
def y30:List A→Option (Prop × List RV)
 |[.d (.s s)]=>some (ok (y4 s),[.s [.i .i64 ((val (y4 s)).1),.i .i64 ((val (y4 s)).2.1)],.d (.i .i64 ((val (y4 s)).2.2))])
 |_=>none
abbrev sp_6:jab→jab:=jbZ 6 true (ja4 jgu y30)
def jlG (s:ByteArray) (r:Int × Int × Int):Sk (top r) (y4 s) :=
 .call (.call (.call (.brB
 (.obT (.obT (.rc)))
 (.brB
 (.obT (.obT (.rc)))
 (.brB
 (.obT (.obT (.rc)))
 (.obT (.obT (.rc))))))))
theorem jk4 (s:ByteArray) (r:Int × Int × Int) (h:Option.bind (y4 s) some=some r):jdH Tryz.f6 ((sp_19 (sp_20 sp0))) (fun _ _ _=>none) [.d (.s s)] [.s [.i .i64 r.1,.i .i64 r.2.1],.d (.i .i64 r.2.2)] :=
 Sk.vc (jlG s r) (by kernel_rfl) h
theorem jk5:jan Tryz.prog 6 true (ja4 jgu y30):=by
 refine jbI (sp:=(sp_19 (sp_20 sp0))) (fn:=Tryz.f6) (body:=bodyOf Tryz.f6) mixed (sp_19_ok (sp_20_ok jb9)) Tryz.func6 (by kernel_rfl) (by kernel_rfl) fun as_ ob rs h ho=>?_
 unfold y30 at h
 split at h
 ·rename_i s
  cases h
  exact⟨Nat.le_of_ble_eq_true rfl,_,_,jk4 s _ (jbp ho)⟩
 ·cases h
theorem sp_6_ok {sp:jab} (h:jad Tryz.prog sp):jad Tryz.prog (sp_6 sp):=ja2 jk5 h
end Go.Sh
end

section
open Go.RowKit
namespace Go.Sx
section
variable {P:Program} {ρ:Env} {B:Kd} {hp:Hp} {nx:Nat} {w:World}
theorem jrn (I J:Globs) (ht:∀g,I.tab g=none) (hd:∀g,I.held g=none) {f:Nat} {M:Bool} {S:Spec} (h:@jan I P f M S):@jan J P f M S:=by
 have down:∀{ρ:Env} {B:Kd} {hp:Hp} {nx:Nat} {w:World},@HRel J ρ B hp nx w→@HRel I ρ B hp nx w:=fun hh =>
  @HRel.mk I _ _ _ _ _ (@HRel.ok J _ _ _ _ _ hh) (@HRel.apart J _ _ _ _ _ hh) ⟨fun g c hg=>(by rw[ht g]at hg; cases hg),@jlH I hd _ _⟩
 rcases h with h|h
 ·refine .inl (@RunOK.mk J _ _ _ _ (@RunOK.enter I _ _ _ _ h) fun ρ B w args hp nx t hS ho hl hh hB=>?_)
  refine(@RunOK.sound I _ _ _ _ h ρ B w args hp nx t hS ho hl (down hh) hB).mono ?_
  rintro e w' ⟨ρ',e1,hL⟩
  obtain⟨B',g,q⟩:=@Left.heap I _ _ _ _ _ _ _ _ hL
  have hb:=@Left.below I _ _ _ _ _ _ _ _ hL
  exact⟨ρ',e1,@Left.mk J _ _ _ _ _ _ _ _ (@Left.agree I _ _ _ _ _ _ _ _ hL) (@Left.lt I _ _ _ _ _ _ _ _ hL) (@Left.le I _ _ _ _ _ _ _ _ hL)
   ⟨B',g,@HRel.mk J _ _ _ _ _ (@HRel.ok I _ _ _ _ _ q) (@HRel.apart I _ _ _ _ _ q) (@ja8.sub J _ _ _ (@ja8.bel J _ _ _ (@HRel.glob J _ _ _ _ _ hh) hb) g.le.kp)⟩ hb (@Left.mono I _ _ _ _ _ _ _ _ hL) (@Left.fresh I _ _ _ _ _ _ _ _ hL)⟩
 ·exact .inr fun ρ B w args hp nx t hS ho hl hh hB=>h ρ B w args hp nx t hS ho hl (down hh) hB
end
end Go.Sx
end

section
namespace Go.Sh
open Go Go.Proofs Go.RowKit Go.Sx
theorem sp_4_ok {sp:jab} (h:jad Tryz.prog sp):jad Tryz.prog (sp_4 sp):=ja2 (jrn globs globsT (fun _=>rfl) (fun _=>rfl) jnT) h
end Go.Sh
end

section
namespace Go.Sh
open Go Go.Proofs Go.RowKit Go.Sx
def y18:List (Option Cont):=[none,none]
def y2 (u13 u14:Int) (s:ByteArray):Option Bool :=
 if(↑(ByteArray.size s):Int)>40 then
  some true
 else
  Option.bind (y9 u13 u14) fun r0 =>
  Option.bind (y4 s) fun r1 =>
  Option.bind (y6 s) fun r2 =>
  Option.bind (y8 u13 u14) fun r3 =>
  if(r0 != r3)=true then
  some false
  else
  if(r1.2.2 != r2.2.2)=true then
   some false
  else
   if(!(r1.1==r2.1&&r1.2.1==r2.2.1))=true then
   some false
   else
   Option.bind (y4 r0) fun r4 =>
   Option.bind (jdi u13 (-999999:Int) (999999:Int)) fun r5 =>
   if(!r5)=true then
    some true
   else
    Option.bind (jdi u14 (-999999:Int) (999999:Int)) fun r6 =>
    if(!r6)=true then
    some true
    else
    if(r4.2.2==0)=true then
     some (r4.1==u13&&r4.2.1==u14)
    else
     some false
def y12:List A→Option (Prop × List RV)
 |[.s [.i .i64 u13,.i .i64 u14],.d (.s s)]=>some (ok (y2 u13 u14 s),[.d (.b ((val (y2 u13 u14 s))))])
 |_=>none
abbrev sp_3:jab→jab:=jbZ 3 true (ja4 y18 y12)
def jf5 (u13 u14:Int) (s:ByteArray) (r:Bool):Sk (top r) (y2 u13 u14 s) :=
 .obC (ok jip) (by decide) (.br
 (.obT (.rc))
 (.call (.call (.call (.call (.brB
 (.obT (.rc))
 (.brB
 (.obT (.rc))
 (.brB
 (.obT (.rc))
 (.call (.call (.brB
 (.obT (.rc))
 (.call (.brB
 (.obT (.rc))
 (.brB
 (.obT (.rc))
 (.obT (.rc))))))))))))))))
theorem jfz (u13 u14:Int) (s:ByteArray) (r:Bool) (h:Option.bind (y2 u13 u14 s) some=some r):jdH Tryz.f3 ((sp_4 (sp_5 (sp_7 (sp_8 (sp_6 (sp_9 sp0))))))) (fun _ _ _=>none) [.s [.i .i64 u13,.i .i64 u14],.d (.s s)] [.d (.b r)] :=
 Sk.vc (jf5 u13 u14 s r) (by kernel_rfl) h
theorem y16:jan Tryz.prog 3 true (ja4 y18 y12):=by
 refine jbI (sp:=(sp_4 (sp_5 (sp_7 (sp_8 (sp_6 (sp_9 sp0))))))) (fn:=Tryz.f3) (body:=bodyOf Tryz.f3) mixed (sp_4_ok (sp_5_ok (sp_7_ok (sp_8_ok (sp_6_ok (sp_9_ok jb9)))))) Tryz.func3 (by kernel_rfl) (by kernel_rfl) fun as_ ob rs h ho=>?_
 unfold y12 at h
 split at h
 ·rename_i u13 u14 s
  cases h
  exact⟨Nat.le_of_ble_eq_true rfl,_,_,jfz u13 u14 s _ (jbp ho)⟩
 ·cases h
theorem sp_3_ok {sp:jab} (h:jad Tryz.prog sp):jad Tryz.prog (sp_3 sp):=ja2 y16 h
end Go.Sh
end

section
namespace Go.Sh
open Go Go.Proofs Go.RowKit Go.Sx Go.Lib
theorem jj7 (c:UInt8):∀(l pre:List UInt8),∀x∈jaZ c pre l,x.length≤pre.length+l.length
 |[],pre,x,hx=>by
  simp only[jaZ,List.mem_singleton]at hx
  subst hx
  simp
 |y::r,pre,x,hx=>by
  unfold jaZ at hx
  split at hx
  ·rcases List.mem_cons.1 hx with rfl|hx
   ·simp
   ·have:=jj7 c r [] x hx
    simp at this ⊢
    omega
  ·have:=jj7 c r (pre++[y]) x hx
   simp at this ⊢
   omega
theorem jro:∀(k u:Nat),0<k→u<10^k→(decDigits u).length≤k
 |0,_,h,_=>absurd h (by omega)
 |1,u,_,h=>by rw[jbz (by omega)]; simp
 |k+2,u,_,h=>by
  by_cases hu:u<10
  ·rw[jbz hu]; simp
  ·have e:10^(k+2)=10^(k+1)*10:=rfl
   have:=jro (k+1) (u/10) (by omega) (by omega)
   rw[jev hu,List.length_append]
   simp
   omega
theorem jk6 (s:ByteArray) (hs:s.size≤1000000):∃v,y14 s=some (v,(jbJ 6 s.data.toList).isSome)∧∀w,jbJ 6 s.data.toList=some w→v=w:=by
 unfold y14
 refine⟨jbh s,?_,fun w hw=>?_⟩
 ·cases hn:jbJ 6 s.data.toList with
  |some w =>
   obtain⟨p1,p2,p3,p4⟩:=jsQ (by omega) hn
   have hv:jbh s=w:=by unfold jbh; rw[p2]
   have hb:jeN s=true:=by unfold jeN; rw[p2]
   have hr:-9223372036854775808≤w∧w≤9223372036854775807:=by
    have h6:(10:Nat)^6=1000000:=by decide
    omega
   rw[if_pos hb,if_pos hs,hv]
   unfold strconv_Itoa
   rw[if_pos hr,jao]
   have e:(⟨(Lib.itoa w).toArray⟩:ByteArray)=s:=by rw[p1]
   rw[e,if_pos (by rw[jmw]; simp)]
   unfold strings_TrimPrefix
   rw[jao]
   congr 2
   rw[size_eq]
   show decide (((trimPrefix s.data.toList [45]).length:Int)≤6)=true
   exact decide_eq_true (by omega)
  |none =>
   cases hb:jeN s with
   |false=>rw[if_neg Bool.false_ne_true,if_pos hs]; rfl
   |true =>
    rw[if_pos rfl,if_pos hs]
    have hr:-9223372036854775808≤jbh s∧jbh s≤9223372036854775807:=by
     unfold jeN at hb
     unfold jbh
     cases ha:atoiAll s.data.toList
     case ok v=>exact atoiAll_bounds ha
     all_goals (rw[ha]at hb; cases hb)
    unfold strconv_Itoa
    rw[if_pos hr,jao]
    by_cases he:(⟨(Lib.itoa (jbh s)).toArray⟩:ByteArray)=s
    ·rw[if_pos (by rw[jmw]; simpa using he)]
     unfold strings_TrimPrefix
     rw[jao]
     congr 2
     rw[size_eq]
     show decide (((trimPrefix s.data.toList [45]).length:Int)≤6)=false
     refine decide_eq_false fun hle=>?_
     have hl:itoa (jbh s)=s.data.toList:=congrArg (fun z:ByteArray=>z.data.toList) he
     have:=jsR (k:=6) (n:=jbh s) (by rw[hl]; omega)
     rw[hl,hn]at this
     cases this
    ·rw[if_neg (by rw[jmw]; simpa using he)]
     rfl
 ·have:=(jsQ (by omega) hw).2.1
  unfold jbh
  rw[this]
theorem jit (c:UInt8):∀l:List UInt8,(index l [c]=-1∧c∉l∧jaZ c [] l=[l])∨∃i:Nat,index l [c]=(i:Int)∧i<l.length∧c∈l∧jaZ c [] l=l.take i::jaZ c [] (l.drop (i+1))
 |[]=>.inl ⟨rfl,by simp,rfl⟩
 |x::r=>by
  have hi:=jre c x r
  by_cases hx:x=c
  ·right
   rw[if_pos hx]at hi
   exact⟨0,hi,by simp,by simp[hx],by simp[jaZ,hx]⟩
  ·rw[if_neg hx]at hi
   obtain⟨h,t,e,f⟩:=jj1 c r
   have e2:jaZ c [] (x::r)=(x::h)::t:=by unfold jaZ; rw[if_neg hx,f]; rfl
   rcases jit c r with ⟨h1,h2,h3⟩|⟨i,h1,h2,h3,h4⟩
   ·left
    rw[if_pos h1]at hi
    rw[h3]at e
    cases e
    exact⟨hi,by simp[h2,Ne.symm hx],e2⟩
   ·right
    rw[if_neg (by omega),h1]at hi
    rw[h4]at e
    cases e
    exact⟨i+1,by rw[hi]; rfl,by simp; omega,by simp[h3],by rw[e2]; simp⟩
theorem jqe {k:Nat} {l:List UInt8} (h:(32:UInt8)∈l):jbJ k l=none:=by
 cases hn:jbJ k l with
 |none=>rfl
 |some v =>
  obtain⟨_,_,_,hd,_⟩:=jl6 hn
  have hm:(32:UInt8)∈behind l:=by
   unfold behind
   split
   ·cases l with
    |nil=>cases h
    |cons x r =>
     rename_i hx
     have:x=45:=Option.some.inj hx
     subst this
     simpa using h
   ·exact h
  have:=List.all_eq_true.1 hd _ hm
  exact absurd this (by decide)
def jiu (f:Bool) (a b:List UInt8):Int × Int × Int:=match f,jbJ 6 a,jbJ 6 b with
 |true,some x,some y=>(x,y,0)
 |_,_,_=>(0,0,7)
def prs (l:List UInt8):Int × Int × Int:=match jaZ 32 [] l with
 |[a,b]=>jiu true a b
 |_=>(0,0,7)
theorem jew {f:Bool} {a b:List UInt8} (h:f=false∨jbJ 6 a=none∨jbJ 6 b=none):jiu f a b=(0,0,7):=by
 unfold jiu
 split
 ·rename_i h1 h2
  rcases h with h|h|h
  ·cases h
  ·rw[h]at h1; cases h1
  ·rw[h]at h2; cases h2
 ·rfl
theorem jrp (s:ByteArray) (hs:s.size≤1000000):y4 s=some (prs s.data.toList):=by
 have hl:=size_eq s
 have hc:strings_Cut s (ByteArray.mk #[(32:UInt8)])=some (mkB (Lib.cut s.data.toList [32]).1,mkB (Lib.cut s.data.toList [32]).2.1,(Lib.cut s.data.toList [32]).2.2):=by
  unfold strings_Cut
  rw[if_pos hs]
  rfl
 generalize s.data.toList=l at *
 have core:∀(A B:List UInt8) (f:Bool),A.length≤1000000→B.length≤1000000→Lib.cut l [32]=(A,B,f)→y4 s=some (jiu f A B):=by
  intro A B f hA hB e
  unfold y4
  rw[hc,e,jao]
  dsimp only
  obtain⟨v1,e1,f1⟩:=jk6 (mkB A) (by rw[jaQ]; exact hA)
  obtain⟨v2,e2,f2⟩:=jk6 (mkB B) (by rw[jaQ]; exact hB)
  rw[jj4]at e1 f1 e2 f2
  rw[e1,jao,e2,jao]
  dsimp only
  cases f with
  |false=>rw[jew (.inl rfl)]; rfl
  |true =>
   cases h1:jbJ 6 A with
   |none=>rw[jew (.inr (.inl h1))]; rfl
   |some x =>
    cases h2:jbJ 6 B with
    |none=>rw[jew (.inr (.inr h2))]; rfl
    |some y =>
     rw[f1 x h1,f2 y h2]
     unfold jiu
     rw[h1,h2]
     rfl
 rcases jit 32 l with ⟨h1,h2,h3⟩|⟨i,h1,h2,h3,h4⟩
 ·have e:Lib.cut l [32]=(l,[],false):=by unfold Lib.cut; rw[if_neg (by omega)]
  rw[core _ _ _ (by omega) (by simp) e,jew (.inl rfl)]
  unfold prs
  rw[h3]
 ·have e:Lib.cut l [32]=(l.take i,l.drop (i+1),true):=by
   unfold Lib.cut
   rw[if_pos (by omega),h1]
   rfl
  rw[core _ _ _ (by simp; omega) (by simp; omega) e]
  unfold prs
  rw[h4]
  rcases jit 32 (l.drop (i+1))with ⟨_,_,g3⟩|⟨j,_,_,g3,g4⟩
  ·rw[g3]
  ·obtain⟨h,t,e,_⟩:=jj1 32 (List.drop (j+1) (l.drop (i+1)))
   rw[g4,e,jew (.inr (.inr (jqe g3)))]
theorem jue (s:ByteArray) (hs:s.size≤1000000):y6 s=some (prs s.data.toList):=by
 have hl:=size_eq s
 have hc:jfP s (32:Int)=some ((jaZ 32 [] s.data.toList).map mkB):=jti s 32 hs
 unfold y6 prs
 rw[hc,jao]
 have hlen:=jj7 32 s.data.toList []
 cases hg:jaZ 32 [] s.data.toList with
 |nil=>rfl
 |cons a r =>
  cases r with
  |nil=>rfl
  |cons b r =>
   cases r with
   |cons c r =>
    rw[if_pos (by simp; omega)]
   |nil =>
    rw[hg]at hlen
    have e1:=jk1 (mkB a) 6 (by omega) (by rw[jaQ]; have:=hlen a (by simp); simp at this; omega)
    have e2:=jk1 (mkB b) 6 (by omega) (by rw[jaQ]; have:=hlen b (by simp); simp at this; omega)
    rw[jj4]at e1 e2
    have e1':y7 (mkB a) (6:Int)=_:=e1
    have e2':y7 (mkB b) (6:Int)=_:=e2
    rw[if_neg (by simp)]
    simp only[List.map_cons,List.map_nil,List.length_cons,List.length_nil]
    rw[if_pos (by omega),if_pos (by omega)]
    show Option.bind (y7 (mkB a) (6:Int)) _=_
    rw[e1',jao,if_pos (by omega),if_pos (by omega)]
    show Option.bind (y7 (mkB b) (6:Int)) _=_
    rw[e2',jao]
    unfold jiu
    cases h1:jbJ 6 a<;>cases h2:jbJ 6 b<;>rfl
theorem jtj {u b:Int} (hu:-9223372036854775808≤u∧u≤9223372036854775807) (hb:-9223372036854775808≤b∧b≤9223372036854775807):y9 u b=some (mkB (itoa u++[32]++itoa b))∧y8 u b=some (mkB (itoa u++[32]++itoa b)):=by
 have l1:=itoa_length_le u hu.1 hu.2
 have l2:=itoa_length_le b hb.1 hb.2
 have i1:strconv_Itoa u=some (mkB (itoa u)):=by unfold strconv_Itoa; rw[if_pos hu]; rfl
 have i2:strconv_Itoa b=some (mkB (itoa b)):=by unfold strconv_Itoa; rw[if_pos hb]; rfl
 have e32:ByteArray.mk #[(32:UInt8)]=mkB [32]:=rfl
 constructor
 ·unfold y9
  rw[i1,jao,e32,if_pos (by rw[jaQ,jaQ]; simp; omega),i2,jao,jd1,if_pos (by rw[jaQ,jaQ]; simp; omega),jd1]
 ·unfold y8
  rw[jjo hu,jao,e32,if_pos (by rw[jaQ,jaQ]; simp; omega),jjo hb,jao,jd1,if_pos (by rw[jaQ,jaQ]; simp; omega),jd1]
theorem jk7 (n:Int):(32:UInt8)∉itoa n:=by
 have key:∀u,(32:UInt8)∉decDigits u:=fun u h=>by
  have:=List.all_eq_true.1 (jiU u) _ h
  exact absurd this (by decide)
 unfold itoa
 split
 ·intro h
  rcases List.mem_cons.1 h with h|h
  ·exact absurd h (by decide)
  ·exact key _ h
 ·exact key _
theorem jqf {u b:Int} (hu:-999999≤u∧u≤999999) (hb:-999999≤b∧b≤999999):prs (itoa u++[32]++itoa b)=(u,b,0):=by
 have hc:jaZ 32 [] (itoa u++[32]++itoa b)=[itoa u,itoa b]:=by
  have sk:∀(x pre rest:List UInt8),(32:UInt8)∉x→jaZ 32 pre (x++rest)=jaZ 32 (pre++x) rest:=by
   intro x
   induction x with
   |nil=>intro pre rest _; simp
   |cons y x ih =>
    intro pre rest h
    simp only[List.mem_cons,not_or]at h
    show jaZ 32 pre (y::(x++rest))=_
    unfold jaZ
    rw[if_neg (Ne.symm h.1),ih _ _ h.2]
    simp
    cases rest<;>rfl
  rw[List.append_assoc,sk _ _ _ (jk7 u)]
  have e:=sk (itoa b) [] [] (jk7 b)
  simp only[List.append_nil,List.nil_append]at e
  show(if(32:UInt8)=32 then _::jaZ 32 [] (itoa b)else _)=_
  rw[if_pos rfl,e]
  rfl
 have nm:∀n:Int,-999999≤n∧n≤999999→jbJ 6 (itoa n)=some n:=fun n hn=>jsR (by
  have dl:∀u:Nat,u≤999999→(decDigits u).length≤6:=fun u hu=>jro 6 u (by omega) (by have:(10:Nat)^6=1000000:=(by decide); omega)
  rw[jlD]
  unfold itoa behind
  by_cases hneg:n<0
  ·rw[if_pos hneg,if_pos (show(45::decDigits n.natAbs).head?=some 45 from rfl)]
   exact dl _ (by omega)
  ·rw[if_neg hneg]
   have:=dl n.toNat (by omega)
   split<;>simp<;>omega)
 unfold prs
 rw[hc]
 show jiu true (itoa u) (itoa b)=_
 unfold jiu
 rw[nm u hu,nm b hb]
theorem jgv {u b:Int} (s:ByteArray) (hu:-9223372036854775808≤u∧u≤9223372036854775807) (hb:-9223372036854775808≤b∧b≤9223372036854775807):y2 u b s=some true:=by
 unfold y2
 by_cases h:((s.size:Nat):Int)>40
 ·rw[if_pos h]
 ·have l1:=itoa_length_le u hu.1 hu.2
  have l2:=itoa_length_le b hb.1 hb.2
  obtain⟨f1,f2⟩:=jtj hu hb
  have p3:=jrp (mkB (itoa u++[32]++itoa b)) (by rw[jaQ]; simp; omega)
  rw[jj4]at p3
  rw[if_neg h,f1,jao,jrp s (by omega),jao,jue s (by omega),jao,f2,jao,if_neg (by simp[jmw,bne]),if_neg (by simp),if_neg (by simp),p3,jao]
  unfold jdi
  by_cases a1:-999999≤u
  ·rw[if_pos a1,jao]
   by_cases a2:u≤999999
   ·rw[decide_eq_true a2,if_neg (by decide)]
    by_cases b1:-999999≤b
    ·rw[if_pos b1,jao]
     by_cases b2:b≤999999
     ·rw[decide_eq_true b2,if_neg (by decide),jqf ⟨a1,a2⟩ ⟨b1,b2⟩]
      simp
     ·rw[decide_eq_false b2,if_pos (by decide)]
    ·rw[if_neg b1,jao,if_pos (by decide)]
   ·rw[decide_eq_false a2,if_pos (by decide)]
  ·rw[if_neg a1,jao,if_pos (by decide)]
end Go.Sh
end

section
namespace Go.Sx
open Go.RowKit Go.ChangeShapes Go.WideShapes
inductive K where
 |i (k:IntKind)|b|f (k:FloatKind)|s
def K.fits:K→D→Prop
 | .i k,.i k' n=>k'=k∧(Lit.int k n).wf=true
 | .b,.b _=>True
 | .f k,.f k' n=>k'=k∧(Lit.float k n).wf=true
 | .s,.s x=>x.size≤maxLen
 |_,_=>False
def jbQ:List K→List D→Prop
 |[],[]=>True
 |k::ks,d::ds=>k.fits d∧jbQ ks ds
 |_,_=>False
theorem jd2:∀{ks:List K} {ds:List D} {ks':List K} {ds':List D},jbQ ks ds→jbQ ks' ds'→jbQ (ks++ks') (ds++ds')
 |[],[],_,_,_,h=>h
 |_::_,_::_,_,_,h,h'=>⟨h.1,jd2 h.2 h'⟩
 |[],_::_,_,_,h,_=>h.elim
 |_::_,[],_,_,h,_=>h.elim
def jeU (g:TypeId→Option (List K)) (P:Program):Nat→List Field→Option (List K)
 |_,[]=>some []
 |n,f::fs=>match g f.type with
  |none=>none
  |some ks=>if f.offset=n∧P.cellsOf f.type=ks.length then(jeU g P (n+ks.length) fs).map (ks ++ ·)else none
def kinds (P:Program):Nat→TypeId→Option (List K)
 |0,_=>none
 |d+1,t=>match P.underlying t with
  |some .bool=>some [.b]
  |some (.int k)=>some [.i k]
  |some (.float k)=>some [.f k]
  |some .string=>some [.s]
  |some (.struct fs)=>match jeU (kinds P d) P 0 fs.toList with
   |some ks=>if P.cellsOf t=ks.length then some ks else none
   |none=>none
  |some (.array n e)=>match kinds P d e with
   |some ks=>if P.cellsOf t=n*ks.length∧P.cellsOf e=ks.length then some (List.replicate n ks).flatten else none
   |none=>none
  |_=>none
section
variable {H:Type} {enc:TypeId × Value→H} {P:Program} {w:World} {base:Nat} {spare:Nat→Bool} {held:Bool}
theorem jjp {ks:List K} {e:TypeId} {m:Nat} (ih:∀cs x,DataW.trod enc P w base spare held m e cs=some x→∃ds:List D,cs=ds.map D.val∧jbQ ks ds) :
  ∀(n:Nat) (cs:List Value),cs.length=n*ks.length→(∀i,i<n→∃x,DataW.trod enc P w base spare held m e ((cs.drop (i*ks.length)).take ks.length)=some x)→∃ds:List D,cs=ds.map D.val∧jbQ (List.replicate n ks).flatten ds
 |0,cs,hl,_=>⟨[],by simpa using hl,trivial⟩
 |n+1,cs,hl,h=>by
  obtain⟨x,hx⟩:=h 0 (by omega)
  obtain⟨ds0,h0,h1⟩:=ih _ x hx
  obtain⟨ds1,h2,h3⟩:=jjp ih n (cs.drop ks.length) (by rw[List.length_drop,hl,Nat.add_mul]; omega) (fun i hi=>by
   obtain⟨y,hy⟩:=h (i+1) (by omega)
   refine⟨y,?_⟩
   rw[List.drop_drop]
   rw[show ks.length+i*ks.length=(i+1)*ks.length by rw[Nat.add_mul]; omega]
   exact hy)
  refine⟨ds0++ds1,?_,jd2 h1 h3⟩
  rw[List.map_append,←h0,←h2]
  simp
theorem jiv {g:TypeId→Option (List K)} {m:Nat} (ih:∀t ks cs x,g t=some ks→DataW.trod enc P w base spare held m t cs=some x→∃ds:List D,cs=ds.map D.val∧jbQ ks ds) :
  ∀(fs:List Field) (n:Nat) (ks:List K) (cs:List Value),jeU g P n fs=some ks→cs.length=n+ks.length→(∀f∈fs,∃x,DataW.trod enc P w base spare held m f.type ((cs.drop f.offset).take (P.cellsOf f.type))=some x) →
   ∃ds:List D,cs.drop n=ds.map D.val∧jbQ ks ds
 |[],n,ks,cs,hk,hl,_=>by
  simp only[jeU,Option.some.injEq]at hk
  subst hk
  refine⟨[],?_,trivial⟩
  simp at hl
  simp[hl]
 |f::fs,n,ks,cs,hk,hl,h=>by
  simp only[jeU]at hk
  split at hk
  ·cases hk
  ·rename_i kf hg
   split at hk
   ·rename_i hc
    cases hr:jeU g P (n+kf.length) fs with
    |none=>simp[hr]at hk
    |some kr =>
     simp only[hr,Option.map_some,Option.some.injEq]at hk
     subst hk
     obtain⟨x,hx⟩:=h f List.mem_cons_self
     rw[hc.1,hc.2]at hx
     obtain⟨ds0,h0,h1⟩:=ih f.type kf _ x hg hx
     obtain⟨ds1,h2,h3⟩:=jiv ih fs (n+kf.length) kr cs hr (by rw[hl,List.length_append]; omega) (fun f' hf'=>h f' (List.mem_cons_of_mem _ hf'))
     refine⟨ds0++ds1,?_,jd2 h1 h3⟩
     rw[List.map_append,←h0,←h2,←List.drop_drop]
     exact(List.take_append_drop _ _).symm
   ·cases hk
theorem jhk:∀(d:Nat) (t:TypeId) (ks:List K) (fuel:Nat) (cs:List Value) (x:DataW H × List MemPlace),kinds P d t=some ks→DataW.trod enc P w base spare held fuel t cs=some x →
  ∃ds:List D,cs=ds.map D.val∧jbQ ks ds
 |0,_,_,_,_,_,h,_=>by cases h
 |d+1,t,ks,fuel,cs,x,hk,hx=>by
  unfold kinds at hk
  split at hk
  ·rename_i ht
   cases hk
   obtain⟨b,rfl,_⟩:=DataW.trod_bool ht hx
   exact⟨[.b b],rfl,trivial,trivial⟩
  ·rename_i k ht
   cases hk
   obtain⟨n,rfl,_,hw⟩:=DataW.trod_int ht hx
   exact⟨[.i k n],rfl,⟨rfl,hw⟩,trivial⟩
  ·rename_i k ht
   cases hk
   cases fuel with
   |zero=>simp[DataW.trod]at hx
   |succ n =>
    rcases cs with _|⟨v,_|⟨v',r⟩⟩
    ·simp[DataW.trod,ht]at hx
    ·cases v with
     |float k2 n2 =>
      simp only[DataW.trod,ht]at hx
      split at hx
      ·rename_i hh
       exact⟨[.f k2 n2],rfl,⟨hh.1,hh.2⟩,trivial⟩
      ·cases hx
     |_=>simp[DataW.trod,ht]at hx
    ·simp[DataW.trod,ht]at hx
  ·rename_i ht
   cases hk
   obtain⟨z,rfl,_,hw⟩:=DataW.trod_string ht hx
   exact⟨[.s z],rfl,hw,trivial⟩
  ·rename_i fs ht
   split at hk
   ·rename_i ks' hks
    split at hk
    ·rename_i hc
     cases hk
     obtain⟨xs,n,rfl,_,hl,hxl,hf⟩:=DataW.trod_struct ht hx
     have:=jiv (enc:=enc) (w:=w) (base:=base) (spare:=spare) (held:=held) (g:=kinds P d) (m:=n) (fun t ks cs x h1 h2=>jhk d t ks n cs x h1 h2) fs.toList 0 ks cs hks (by rw[hl,hc]; omega) (fun f hfm=>by
      obtain⟨i,hi,hfi⟩:=List.mem_iff_getElem.1 hfm
      have hi':i<fs.size:=by simpa using hi
      have h1:=hf i f (by rw[Array.getElem?_eq_getElem hi']; simpa using hfi)
      exact⟨xs[i]'(by omega),by rw[h1,List.getElem?_eq_getElem]⟩)
     simpa using this
    ·cases hk
   ·cases hk
  ·rename_i n e ht
   split at hk
   ·rename_i ks' hks
    split at hk
    ·rename_i hc
     cases hk
     obtain⟨xs,m,rfl,_,hl,hxl,hf⟩:=DataW.trod_array ht hx
     exact jjp (fun cs x h=>jhk d e ks' m cs x hks h) n cs (by rw[hl,hc.1]) (fun i hi=>by
      have h1:=hf i hi
      rw[hc.2]at h1
      exact⟨xs[i]'(by omega),by rw[h1,List.getElem?_eq_getElem]⟩)
    ·cases hk
   ·cases hk
  ·cases hk
theorem jpb:∀{n:Nat} {r:List D},jbQ (List.replicate n (.i .i64)) r→∃l:List Int,r=l.map (D.i .i64)∧l.length=n∧∀x∈l,inI x
 |0,[],_=>⟨[],rfl,rfl,fun _ h=>by cases h⟩
 |n+1,.i k x::r,h=>by
  obtain⟨l,h1,h2,h3⟩:=jpb (n:=n) h.2
  obtain⟨rfl,hw⟩:=h.1
  refine⟨x::l,by rw[h1]; rfl,by simp[h2],fun y hy=>?_⟩
  rcases List.mem_cons.1 hy with rfl|hy
  ·unfold inI
   simpa [Lit.wf,IntKind.min,IntKind.max,IntKind.signed,IntKind.bits]using hw
  ·exact h3 y hy
 |0,_::_,h=>h.elim
 |_+1,[],h=>h.elim
 |_+1,.b _::_,h=>h.1.elim
 |_+1,.f _ _::_,h=>h.1.elim
 |_+1,.s _::_,h=>h.1.elim
 |_+1,.v _::_,h=>h.1.elim
end
inductive ArgIs (w:World):Value→A→Prop where
 |d (x:D):ArgIs w x.val (.d x)
 |s (l:List D):ArgIs w (.agg (l.map D.val).toArray) (.s l)
 |r (v:Value) (c:Cont) (he:0<c.e) (h:jaE w v c):ArgIs w v (.r c)
def jdJ:Nat→List A→List V
 |_,[]=>[]
 |n,.d x::l=>.w (.c (.d x))::jdJ (n+1) l
 |n,.s x::l=>.w (.a (x.map C.d))::jdJ (n+1) l
 |n,.r _::l=>.w (.c (.o n))::jdJ (n+1) l
 |n,.f g::l=>.w (.c (.fn g []))::jdJ (n+1) l
inductive ArgsAre (w:World):List Value→List A→Prop where
 |nil:ArgsAre w [] []
 |cons {v:Value} {a:A} {vs:List Value} {asq:List A} (h:ArgIs w v a) (t:ArgsAre w vs asq):ArgsAre w (v::vs) (a::asq)
section
variable [Globs] {P:Program} {w:World}
theorem jtk {vs:List Value} {asq:List A} (h:ArgsAre w vs asq):∀(n:Nat) (ρ:Env),(∀i v,vs[i]?=some v→ρ (n+i)=v) →
  (jdJ n asq).map (V.val ρ)=vs∧(∀x∈jdJ n asq,V.lt (n+asq.length) x)∧(∀k o,find (jcA n asq) k=some o→n≤k∧k<n+asq.length∧o.lt (n+asq.length)∧o.ok ρ (kd fun k=>k<w.heap.size) w k∧∀b,o.blk (ρ k)≠some b)∧asq.length=vs.length:=by
 induction h with
 |nil=>exact fun n ρ _=>⟨rfl,(fun _ h=>by cases h),(fun _ _ h=>by cases h),rfl⟩
 | @cons v a vs asq ha hs ih =>
  intro n ρ hρ
  obtain⟨h1,h2,h3,h4⟩:=ih (n+1) ρ (fun i v hv=>by rw[show n+1+i=n+(i+1) by omega]; exact hρ (i+1) v (by simpa using hv))
  have h0:ρ n=v:=by have:=hρ 0 v rfl; simpa using this
  have up:∀x,V.lt (n+1+asq.length) x→V.lt (n+(a::asq).length) x:=fun x hx=>V.lt_mono (by simp; omega) hx
  have up3:∀k o,find (jcA (n+1) asq) k=some o→n≤k∧k<n+(a::asq).length∧o.lt (n+(a::asq).length)∧o.ok ρ (kd fun k=>k<w.heap.size) w k∧∀b,o.blk (ρ k)≠some b:=fun k o hf=>by
   obtain⟨p1,p2,p3,p4,p5⟩:=h3 k o hf
   exact⟨by omega,by simp; omega,O.lt_mono (by simp; omega) p3,p4,p5⟩
  cases ha with
  |d x =>
   refine⟨by simp only[jdJ,List.map_cons,h1]; rfl,fun y hy=>?_,up3,by simp[h4]⟩
   rcases List.mem_cons.1 hy with rfl|hy
   ·trivial
   ·exact up y (h2 y hy)
  |s l =>
   refine⟨?_,fun y hy=>?_,up3,by simp[h4]⟩
   ·simp only[jdJ,List.map_cons,h1]
    congr 1
    simp[V.val,W.val,C.val,Function.comp_def]
   ·rcases List.mem_cons.1 hy with rfl|hy
    ·intro c hc
     obtain⟨z,_,rfl⟩:=List.mem_map.1 hc
     trivial
    ·exact up y (h2 y hy)
  |r v c he hr =>
   refine⟨?_,fun y hy=>?_,fun k o hf=>?_,by simp[h4]⟩
   ·simp only[jdJ,List.map_cons,h1]
    congr 1
   ·rcases List.mem_cons.1 hy with rfl|hy
    ·show n<n+(asq.length+1)
     omega
    ·exact up y (h2 y hy)
   ·simp only[jcA,find]at hf
    split at hf
    ·rename_i e
     subst e
     cases hf
     refine⟨Nat.le_refl _,by simp,trivial,?_,fun b=>by simp[O.blk]⟩
     show jaE w (ρ n) c∧jbB _ (ρ n)
     rw[h0]
     exact⟨hr,jaE.lt hr he⟩
    ·exact up3 k o hf
theorem jrq {f:Nat} {qs:List (Option Cont)} {g:List A→Option (Prop × List RV)} {vs:List Value} {ax:List A} {ob:Prop} {b:Bool} {fn:Func} (hok:jan P f true (ja4 qs g)) (hargs:ArgsAre w vs ax)
  (hto:jiI qs (jcA 0 ax) (jdJ 0 ax)=some ax) (hg:g ax=some (ob,[.d (.b b)])) (ho:ob) (hb:b=true)
  (hfn:P.funcs[f]?=some fn) (hbody:fn.body=some (fn.body.getD .skip)) (hn:(fn.name == "runtime.NumGoroutine")=false) (hgl:ja8 (fun k=>k<w.heap.size) w) :
  Calls P f vs.toArray w fun e w'=>e=.returned (.bool true)∧Below w.heap.size w w':=by
 subst hb
 obtain⟨h1,h2,h3,h4⟩:=jtk hargs 0 (fun i=>(vs[i]?).getD undef) (fun i v hv=>by simp[hv])
 rw[Nat.zero_add]at h2
 have hh:HRel (fun i=>(vs[i]?).getD undef) (kd fun k=>k<w.heap.size) (jcA 0 ax) ax.length w :=
  ⟨fun k o hf=>by obtain⟨_,p2,p3,p4,_⟩:=h3 k o hf; exact⟨by omega,by simpa using p3,p4⟩,fun k o k' o' b hf _ _ hbk=>absurd hbk ((h3 k o hf).2.2.2.2 b),hgl⟩
 have:=(hok.sound hfn hbody hn).sound _ (kd fun k=>k<w.heap.size) w (jdJ 0 ax) (jcA 0 ax) ax.length (.leaf ⟨ob,jaK (rvW ax.length [.d (.b true)]),jjH ax.length [.d (.b true)] (jcA 0 ax),jfX ax.length [.d (.b true)]⟩) (by
  unfold ja4
  rw[hto]
  dsimp only
  rw[hg]) ho h2 hh (fun k hk=>jcj.1 hk)
 rw[h1]at this
 refine this.mono ?_
 rintro e w' ⟨ρ',rfl,hl⟩
 exact⟨rfl,hl.mono rfl⟩
end
section
variable {H:Type} {enc:TypeId × Value→H} {P:Program}
theorem jn4 {sp:Nat→Bool} (hl:laidOutB P=true) {W W':World} (hb:Below W.heap.size W W'):∀(ts:List TypeId) (vs:List Value) (ds:List (DataW H)) (ps:List MemPlace),(∀t∈ts,P.readableRec t=true∧t<P.types.size) →
  DataW.TrodAll enc P W 0 (fun _=>true) true ts vs ds ps→(∀p∈ps,p.block<W.heap.size)→(∀p∈ps,sp p.block=true)→DataW.TrodAll enc P W' 0 sp true ts vs ds ps
 |[],[],[],_,_,h,_,_=>h
 |t::ts,v::vs,d::ds,ps,ht,h,hlt,hs=>by
  obtain⟨p,q,h1,h2,rfl⟩:=h
  have htt:=ht t List.mem_cons_self
  exact⟨p,q,WideElems.Trod_stays hl htt.1 htt.2 h1 (fun x hx=>hb.same (hlt x (List.mem_append_left _ hx))) (fun x hx=>hs x (List.mem_append_left _ hx)),
   jn4 hl hb ts vs ds q (fun t ht'=>ht t (List.mem_cons_of_mem _ ht')) h2 (fun x hx=>hlt x (List.mem_append_right _ hx)) (fun x hx=>hs x (List.mem_append_right _ hx)),rfl⟩
 |[],_::_,_,_,_,h,_,_=>h.elim
 |_::_,[],_,_,_,h,_,_=>h.elim
 |[],[],_::_,_,_,h,_,_=>h.elim
 |_::_,_::_,[],_,_,h,_,_=>h.elim
theorem jsy {f:Func} {s:ChangeSpec} {apart fresh handsOn again:Bool} {W W':World} {args:Array Value} {ds gs:List (DataW H)} {before:List MemPlace} {tb:TypeId} (hvars:s.vars=[]) (hrt:f.resultTypes=#[tb]) (htb:P.underlying tb=some .bool)
  (hres:(s.fn H (ds++gs)).results=[.lit (.bool true)]) (hargs:(s.fn H (ds++gs)).args=ds) (hsv:(s.fn H (ds++gs)).vars=[]) (hl:laidOutB P=true) (hread:∀t∈f.params.toList,P.readableRec t=true∧t<P.types.size)
  (hW:DataW.Whole enc P f.params.toList s.vars apart W args.toList ds gs before) (hb:Below W.heap.size W W'):s.post enc P f apart fresh handsOn again W args (.bool true) W':=by
 have hlt:∀p∈before,p.block<W.heap.size:=fun p hp=>hW.lt p hp
 have hW':=hW
 obtain⟨p,q,h1,h2,rfl,hfz,hnd⟩:=hW'
 rw[hvars]at h2
 have hq:q=[]:=by
  cases gs with
  |nil=>exact h2
  |cons _ _=>exact h2.elim
 subst hq
 rw[List.append_nil]at hlt hfz hnd
 have hA:∀sp:Nat→Bool,(∀x∈p,sp x.block=true)→DataW.TrodAll enc P W' 0 sp true f.params.toList args.toList ds p:=fun sp hs=>jn4 hl hb _ _ _ _ hread h1 hlt hs
 have hR:∀(b:Nat) (sp:Nat→Bool) (hd:Bool),DataW.TrodAll enc P W' b sp hd [tb] [.bool true] [.lit (.bool true)] []:=fun b sp hd=>⟨[],[],⟨1,by simp[DataW.trod,htb,Value.cells]⟩,rfl,rfl⟩
 have hrl:(Value.bool true).resultList f.resultTypes.size=[.bool true]:=by rw[hrt]; rfl
 have hrt':f.resultTypes.toList=[tb]:=by rw[hrt]
 refine⟨ds,gs,p++[],[],p,[],hW,?_,?_,?_,World.keptBut_mono (fun x hx=>⟨hx,.inr (.inl (by simpa using hx))⟩) (hb.frame (·∈ p++[])),fun _=>⟨fun j t r hj hr=>?_,?_⟩⟩
 ·rw[hrl,hrt',hres]; exact hR _ _ _
 ·rw[hargs]; exact hA _ (fun x hx=>by simpa using hlt x hx)
 ·rw[hvars,hsv]; rfl
 ·rw[hrt]at hj
  rw[hrl]at hr
  cases j with
  |zero =>
   simp at hj hr
   subst hj; subst hr
   exact okWide_bool_mk htb _
  |succ j=>simp at hj
 ·refine⟨[.lit (.bool true)]++ds,[],p,⟨p,[],?_,by rw[hvars]; rfl,by simp,?_,?_⟩,fun x hx _=>by simpa using hx⟩
  ·rw[hrl,hrt']
   exact⟨[],p,⟨1,by simp[DataW.trod,htb,Value.cells]⟩,hA _ (fun _ _=>rfl),rfl⟩
  ·intro b off hp
   rw[hb.frozen (hlt _ hp)]
   exact hfz b off hp
  ·exact hnd
end
section
variable {H:Type} {enc:TypeId × Value→H} {P:Program} {w:World} {base:Nat} {spare:Nat→Bool} {held:Bool} {r:Reach} {b0:Nat}
theorem jtl {t:TypeId} {d:Nat} {ks:List K} {v:Value} {x:DataW H} {p:List MemPlace} (ht:jba P t=some true) (hk:kinds P d t=some ks)
  (hval:Value.okWide P w r b0 t v) (h:DataW.Trod enc P w base spare held t v x p):∃ds:List D,ArgIs w v (.s ds)∧jbQ ks ds:=by
 obtain⟨fuel,hx⟩:=h
 obtain⟨ds,h1,h2⟩:=jhk d t ks fuel _ _ hk hx
 have hv:∃cs,v=.agg cs:=by
  unfold Value.okWide at hval
  cases hU:P.underlying t with
  |none=>simp[jba,hU]at ht
  |some u =>
   rw[hU]at hval
   cases u with
   |struct fs=>obtain⟨cs,h,_⟩:=hval; exact⟨cs,h⟩
   |array n e=>obtain⟨cs,h,_⟩:=hval; exact⟨cs,h⟩
   |_=>simp[jba,hU]at ht
 obtain⟨cs,rfl⟩:=hv
 have:cs=(ds.map D.val).toArray:=by
  apply Array.ext'
  simpa [Value.cells]using h1
 subst this
 exact⟨ds,.s ds,h2⟩
end
end Go.Sx
end

section
namespace Go.Sx
open Go.RowKit Go.ChangeShapes Go.WideShapes
inductive K2 where
 |d (k:K)
 |s (ks:List K)
inductive T1 where
 |d (x:D)
 |r (c:Cont)
 |xl (X:XC)
inductive Cell2 (w:World):K2→Value→T1→Prop where
 |d (k:K) (x:D) (h:k.fits x):Cell2 w (.d k) x.val (.d x)
 |s (ks:List K) (v:Value) (rows:List (List D)) (h0:0<ks.length) (h:∀r∈rows,jbQ ks r) (hr:jaE w v (.lits ks.length rows)):Cell2 w (.s ks) v (.r (.lits ks.length rows))
inductive Cells2 (w:World):List K2→List Value→List T1→Prop where
 |nil:Cells2 w [] [] []
 |cons {k:K2} {v:Value} {t:T1} {ks:List K2} {vs:List Value} {ts:List T1} (h:Cell2 w k v t) (r:Cells2 w ks vs ts):Cells2 w (k::ks) (v::vs) (t::ts)
theorem Cells2.append {w:World} {ks ks':List K2} {vs vs':List Value} {ts ts':List T1} (h:Cells2 w ks vs ts) (h':Cells2 w ks' vs' ts'):Cells2 w (ks++ks') (vs++vs') (ts++ts'):=by
 induction h with
 |nil=>exact h'
 |cons h r ih=>exact .cons h ih
section
variable {H:Type} {enc:TypeId × Value→H} {P:Program} {w:World} {base:Nat} {spare:Nat→Bool} {held:Bool}
end
section
variable [Globs]
def Hk (w:World) (v:Value):O→Prop
 | .ext c=>jaE w v c∧0<c.e
 | .xext X=>IsX (fun k=>k<w.heap.size) w v X
 |_=>False
structure TOK (w:World) (n:Nat) (ρ ρ':Env) (vals:List Value) (cs:List C) (hp:Hp) (n':Nat):Prop where
 agree:jac n ρ ρ'
 le:n≤n'
 val:cs.map (C.val ρ')=vals
 lt:∀c∈cs,C.lt n' c
 heap:∀k o,find hp k=some o→n≤k∧k<n'∧Hk w (ρ' k) o
theorem TOK.append {w:World} {n n1 n2:Nat} {ρ ρ1 ρ2:Env} {a b:List Value} {ca cb:List C} {ha hb:Hp} (h1:TOK w n ρ ρ1 a ca ha n1) (h2:TOK w n1 ρ1 ρ2 b cb hb n2):TOK w n ρ ρ2 (a++b) (ca++cb) (hb++ha) n2:=by
 refine⟨h1.agree.trans h2.agree h1.le,Nat.le_trans h1.le h2.le,?_,?_,?_⟩
 ·rw[List.map_append,h2.val,←h1.val]
  congr 1
  exact List.map_congr_left fun c hc=>C.val_agree h2.agree (h1.lt c hc)
 ·intro c hc
  rcases List.mem_append.1 hc with hc|hc
  ·exact C.lt_mono h2.le (h1.lt c hc)
  ·exact h2.lt c hc
 ·intro k o hf
  rw[jam]at hf
  cases hg:find hb k with
  |some o2 =>
   rw[hg]at hf
   cases hf
   obtain⟨q1,q2,q3⟩:=h2.heap k o hg
   exact⟨Nat.le_trans h1.le q1,q2,q3⟩
  |none =>
   rw[hg]at hf
   obtain⟨q1,q2,q3⟩:=h1.heap k o hf
   exact⟨q1,Nat.lt_of_lt_of_le q2 h2.le,by rw[h2.agree k q2]; exact q3⟩
end
end Go.Sx
end

section
namespace Go.Sx
open Go.RowKit Go.ChangeShapes Go.WideShapes
section
variable {P:Program} {w:World}
theorem jhl:∀{l:List (String × DataW Unit)} {ps:List MemPlace} {n:String} {d:DataW Unit},DataW.LaidVars P w l ps→(n,d)∈l →
  ∃g t cs fuel p,P.globalNamed n=some g∧(P.globals[g]?).map (·.type)=some t∧w.var? P n=some cs∧DataW.trod (fun _=>()) P w 0 (fun _=>true) false fuel t cs.toList=some (d,p)
 |(n',d')::r,ps,n,d,h,hm=>by
  obtain⟨g,t,cs,fuel,p,q,h1,h2,h3,h4,h5,_⟩:=h
  rcases List.mem_cons.1 hm with e|hm
  ·cases e
   exact⟨g,t,cs,fuel,p,h1,h2,h3,h4⟩
  ·exact jhl h5 hm
variable {enc:TypeId × Value→Unit} {base:Nat} {spare:Nat→Bool} {held:Bool} {fuel:Nat}
theorem jsz {α:Type} {l:List α} {i:Nat} (h:i<l.length):(l.drop i).take 1=[l[i]]:=by
 rw[List.drop_eq_getElem_cons h]
 rfl
theorem jrr {t e n:Nat} {k:IntKind} {l:List Int} {cs:List Value} {p:List MemPlace} (hu:P.underlying t=some (.array n e)) (he:P.underlying e=some (.int k)) (hc:P.cellsOf e=1) (hct:P.cellsOf t=n) (hl:l.length=n)
  (h:DataW.trod enc P w base spare held fuel t cs=some (.agg (l.map fun x=>.lit (.int k x)),p)):cs=(Cont.ints k l).flat.map D.val:=by
 obtain⟨xs,m,_,hx,hlen,hn,hel⟩:=DataW.trod_array hu h
 have hx1:l.map (fun x=>DataW.lit (H:=Unit) (.int k x))=xs.map (·.1):=by
  have:=congrArg Prod.fst hx
  simpa using this
 have hf:(Cont.ints k l).flat.map D.val=l.map fun x=>Value.int k x:=by
  simp only[Cont.flat,List.map_flatMap,List.map_cons,List.map_nil,D.val]
  rw[←List.flatMap_singleton' (l.map fun x=>Value.int k x),List.flatMap_map]
 rw[hf]
 apply List.ext_getElem
 ·rw[hlen,hct,List.length_map,hl]
 ·intro i h1 h2
  have hi:i<n:=by rw[hlen,hct]at h1; exact h1
  have h3:=hel i hi
  rw[hc,Nat.mul_one,jsz h1]at h3
  have hxi:i<xs.length:=by omega
  rw[List.getElem?_eq_getElem hxi]at h3
  obtain⟨a,ha,hb,_⟩:=DataW.trod_int he h3
  have h4:(l.map (fun x=>DataW.lit (H:=Unit) (.int k x)))[i]?=(xs.map (·.1))[i]?:=by rw[hx1]
  rw[List.getElem?_map,List.getElem?_map,List.getElem?_eq_getElem hxi,List.getElem?_eq_getElem (show i<l.length by omega),hb]at h4
  simp only[Option.map_some,Option.some.injEq]at h4
  have e1:l[i]=a:=by cases h4; rfl
  have e2:cs[i]=.int k a:=by simpa using ha
  rw[e2,List.getElem_map,e1]
theorem juf {n:String} {g:Nat} {cs:Array Value} {c:Cont} (hg:P.globalNamed n=some g) (hv:w.var? P n=some cs) (hc:cs.toList=c.flat.map D.val) :
  g<w.heap.size∧(∀j x,c.flat[j]?=some x→w.cell? ⟨g,j,none⟩=some x.val)∧∃cs t f,w.heap[g]?=some (.cells cs t f)∧cs.size=c.flat.length:=by
 have hcell:=World.var?_cell hg hv
 have hsz:cs.size=c.flat.length:=by
  have:=congrArg List.length hc
  simpa using this
 simp only[World.var?,hg,Option.bind_some]at hv
 split at hv
 ·rename_i cs' t f hh
  cases hv
  refine⟨(Array.getElem?_eq_some_iff.1 hh).1,fun j x hj=>?_,cs,t,f,hh,hsz⟩
  rw[hcell j]
  have:cs.toList[j]?=some x.val:=by rw[hc,List.getElem?_map,hj]; rfl
  simpa using this
 ·cases hv
end
end Go.Sx
end

section
namespace Go
open Go.RowKit Go.ChangeShapes Go.WideShapes
section
variable {H:Type} {enc:TypeId × Value→H}
theorem jiZ {a:Assume} {C:Checked} {os:Os} {f:FuncId} {fn:Func} {s:ChangeSpec} {conds:List PathCond} {apart fresh handsOn again:Bool} {X:World→Array Value→Prop}
  (hX:∀(w w':World) (args:Array Value),w.heap=w'.heap→X w args→X w' args)
  (own:ownKnob C.prog.godebug=none) (started:os.Started) (noInit:C.prog.inits.idxOf? f=none) (hfn:C.prog.funcs[f]?=some fn)
  (witness:∃(w:World) (tape:Tape) (i:Input),w.os=os∧(w.forCall tape i).Shaped C.prog∧i.vars=[]∧Input.okWide C.prog (w.forCall tape i) .any w.heap.size f i ∧
   ((s.pre enc C.prog fn conds apart (w.forCall tape i).memory i.args∧X (w.forCall tape i).memory i.args)∧sizedMet enc C.prog fn (OpenSpec.ofChange s) apart (w.forCall tape i).memory i.args)∧a.holds C.prog (lone (Frame.enter C.prog f i.args .normal) [] (w.forCall tape i)))
  (contract:∀(W:World) (base:Nat) (args:Array Value) (ds gs:List (DataW H)) (before:List MemPlace),
   (∀(j:Nat) t v,fn.params[j]?=some t→args[j]?=some v→Value.okWide C.prog W .any base t v) →
   DataW.Whole enc C.prog fn.params.toList s.vars apart W args.toList ds gs before →
   (DataW.weightsEach C.prog (fn.params.toList++s.plain.varTypes C.prog) (ds++gs)).all (·≤ reachBytes)=true→X W args→W.ShapedOpen C.prog →
   Calls C.prog f args W fun e W'=>∃v,e=.returned v∧s.post enc C.prog fn apart fresh handsOn again W args v W') :
  ReturnsInHanded a C os f .any (fun w args=>(s.pre enc C.prog fn conds apart w args∧X w args)∧sizedMet enc C.prog fn (OpenSpec.ofChange s) apart w args) (s.post enc C.prog fn apart fresh handsOn again):=by
 refine returnsInHanded_of_calls own started noInit witness ?_
 intro w tape i _ hsh _ hok hpre hholds
 obtain⟨_,_,_,fn',hfn',_,_,_,_,hval⟩:=hok
 have e:fn'=fn:=Option.some.inj (hfn'.symm.trans hfn)
 subst e
 obtain⟨⟨⟨ds,gs,before,hw,hc⟩,hx⟩,hz⟩:=hpre
 have hw':=DataW.Whole.of_heap (w':=w.forCall tape i) (by rfl) hw
 refine(contract (w.forCall tape i) w.heap.size i.args ds gs before hval hw' (hz.weights hw) (hX _ _ _ (by rfl) hx) hsh).mono fun e W' ⟨v,he,hp⟩=>?_
 subst he
 exact ChangeSpec.post_blind hp
end
end Go
namespace Go.Proofs.YtigliehhpdpaoaaGreatDoor
open Go Go.Proofs Go.RowKit Go.Sx
set_option maxRecDepth 100000
theorem jpc {H:Type} {enc:TypeId × Value→H} {P:Program} {w:World} {base fuel:Nat} {spare:Nat→Bool} {held:Bool} {t:TypeId} {cs:List Value} {x:DataW H × List MemPlace} (ht:∃i,P.underlying t=some (.interface i))
  (h:DataW.trod enc P w base spare held fuel t cs=some x):cs=[.nilIface]∨∃u v,cs=[.iface u v]:=by
 obtain⟨i,ht⟩:=ht
 cases fuel with
 |zero=>simp[DataW.trod]at h
 |succ n =>
  unfold DataW.trod at h
  rw[ht]at h
  split at h<;>simp_all
theorem jsA {W:World} {laid:List (String × DataW Unit)} (hp:(laid.all fun x=>x.2.handleName?.isNone)=true)
  (hm:∀x∈[("internal/strconv.uint64pow10",Rows.laid_internal_strconv_uint64pow10 (H:=Unit)),("strconv.ErrRange",Rows.laid_strconv_ErrRange),("strconv.ErrSyntax",Rows.laid_strconv_ErrSyntax)],x∈laid)
  (h:laidMetH Tryz.prog laid W) (hs:W.ShapedOpen Tryz.prog):ja8 (fun k=>k<W.heap.size) W:=by
 rw[MakeChecks.laidMetH_plain _ _ _ hp]at h
 obtain⟨ps,hl,_,_⟩:=h
 have t2:(Tryz.prog.globals[1]?).map (·.type)=some 181:=by kernel_rfl
 have t4:(Tryz.prog.globals[2]?).map (·.type)=some 85:=by kernel_rfl
 have t5:(Tryz.prog.globals[3]?).map (·.type)=some 85:=by kernel_rfl
 have hif:∃i,Tryz.prog.underlying 85=some (.interface i):=⟨_,Tryz.underlying85⟩
 refine⟨fun g c hg=>?_,fun g p hg=>?_⟩
 ·have hg:tabV g=some c:=hg
  unfold tabV at hg
  split at hg
  ·cases hg
   obtain⟨g,t,cs,fuel,p,h1,h2,h3,h4⟩:=jhl hl (hm ("internal/strconv.uint64pow10",Rows.laid_internal_strconv_uint64pow10) (by simp))
   obtain rfl:=Option.some.inj ((show Tryz.prog.globalNamed "internal/strconv.uint64pow10" = some 1 by kernel_rfl).symm.trans h1)
   obtain rfl:=Option.some.inj (t2.symm.trans h2)
   have hc:=jrr (n:=20) (l:=jrf) (e:=155) (k:=.u64) (by kernel_rfl) (by kernel_rfl) (by kernel_rfl) (by kernel_rfl) rfl h4
   exact juf h1 h3 hc
  ·cases hg
 ·have hg:jp7 g=some p:=hg
  unfold jp7 at hg
  split at hg
  ·cases hg
   obtain⟨m,hc⟩:=cell_of_shapedOpen_int (g:=0) (t:=3) (k:=.i64) (zero:=#[.int .i64 0]) hs (of_decide_eq_true (by kernel_rfl)) (by kernel_rfl) rfl (by kernel_rfl) (by kernel_rfl) (by kernel_rfl)
   exact⟨World.block_lt_of_cell? W _ hc,_,hc,m,rfl⟩
  ·cases hg
   obtain⟨g,t,cs,fuel,p,h1,h2,h3,h4⟩:=jhl hl (hm ("strconv.ErrSyntax",Rows.laid_strconv_ErrSyntax) (by simp))
   obtain rfl:=Option.some.inj ((show Tryz.prog.globalNamed "strconv.ErrSyntax" = some 2 by kernel_rfl).symm.trans h1)
   obtain rfl:=Option.some.inj (t4.symm.trans h2)
   have hcell:=World.var?_cell h1 h3
   rcases jpc hif h4 with e|⟨u,v,e⟩
   ·have hc:W.cell? ⟨2,0,none⟩=some .nilIface:=by rw[hcell 0,←Array.getElem?_toList,e]; rfl
    exact⟨World.block_lt_of_cell? W _ hc,_,hc,.inl rfl⟩
   ·have hc:W.cell? ⟨2,0,none⟩=some (.iface u v):=by rw[hcell 0,←Array.getElem?_toList,e]; rfl
    exact⟨World.block_lt_of_cell? W _ hc,_,hc,.inr ⟨u,v,rfl⟩⟩
  ·cases hg
   obtain⟨g,t,cs,fuel,p,h1,h2,h3,h4⟩:=jhl hl (hm ("strconv.ErrRange",Rows.laid_strconv_ErrRange) (by simp))
   obtain rfl:=Option.some.inj ((show Tryz.prog.globalNamed "strconv.ErrRange" = some 3 by kernel_rfl).symm.trans h1)
   obtain rfl:=Option.some.inj (t5.symm.trans h2)
   have hcell:=World.var?_cell h1 h3
   rcases jpc hif h4 with e|⟨u,v,e⟩
   ·have hc:W.cell? ⟨3,0,none⟩=some .nilIface:=by rw[hcell 0,←Array.getElem?_toList,e]; rfl
    exact⟨World.block_lt_of_cell? W _ hc,_,hc,.inl rfl⟩
   ·have hc:W.cell? ⟨3,0,none⟩=some (.iface u v):=by rw[hcell 0,←Array.getElem?_toList,e]; rfl
    exact⟨World.block_lt_of_cell? W _ hc,_,hc,.inr ⟨u,v,rfl⟩⟩
  ·cases hg
end Go.Proofs.YtigliehhpdpaoaaGreatDoor
end
