/- Part 5 of the proof of EngineFaults: the executor, the mirrors of the functions, the plain facts. -/
import Derived.Test.YtigliehhpdpaoaaGreatPD
set_option maxRecDepth 100000
set_option linter.unusedSectionVars false
set_option linter.unusedSimpArgs false
set_option linter.unusedVariables false
section
namespace Go.Sh
open Go Go.Proofs Go.RowKit Go.Sx
def cg (nm:ByteArray) (g:List (List NC)):Int × Int :=
 if(!jev nm)=true then(0,4)
 else if(g.length:Int)>24 then(0,8)
 else match(List.range g.length).findIdx? (fun i=>jbw g i != 0)with
  |some i=>((i:Int),jbw g i)
  |none=>(0,0)
theorem jlk (a b:Int):y93 [a,b]=some (if(a != 0)=true then a else b):=by
 unfold y93
 have key:=jbv (body:=jpK [a,b]) [a,b] 0 (fun x=>x != 0) (fun i=>.inl ([a,b].getD i 0)) (.inr ()) (by simp) (fun i hi hp=>by
   unfold jpK; simp only[Int.toNat_natCast]
   rw[if_pos (by omega),if_pos (by omega),if_pos hi,if_pos hp]) (fun i hi hp=>by
   unfold jpK; simp only[Int.toNat_natCast]
   have hi2:i<2:=hi
   rw[if_pos (by omega),if_pos (by omega),if_pos hi,if_neg (by rw[hp]; exact Bool.false_ne_true),jaO (by omega)]) (by
   unfold jpK; simp only[Int.toNat_natCast]
   rw[if_neg (by omega)])
 rw[key]
 cases ha:(a != 0)with
 |true=>simp[List.findIdx?_cons,ha]; rfl
 |false =>
  cases hb:(b != 0)with
  |true=>simp[List.findIdx?_cons,ha,hb]; rfl
  |false =>
   have:b=0:=by simpa using hb
   simp[List.findIdx?_cons,ha,hb,this]; rfl
theorem joL {n:Nat} {P:Nat→Bool} {i:Nat} (h:(List.range n).findIdx? P=some i):i<n:=by
 rw[List.findIdx?_eq_some_iff_getElem]at h
 obtain⟨h,_⟩:=h
 simpa using h
theorem jll {g:List (List NC)} (hw:Fw g) {nm:ByteArray} (hs:nm.size<1000):y39 nm g=some (cg nm g):=by
 have hn:=hw.n
 unfold y39 cg
 rw[jsQ hs]
 simp only[jad,jfg]
 rw[jlk,jad]
 cases jev nm with
 |false=>rfl
 |true =>
  by_cases h24:(g.length:Int)>24
  ·rw[if_neg (by simp:¬(!true)=true),if_pos h24]
   have e:decide ((g.length:Int)≤24)=false:=by simp; omega
   rw[e]; rfl
  ·rw[if_neg (by simp:¬(!true)=true),if_neg h24]
   have e:decide ((g.length:Int)≤24)=true:=by simp; omega
   rw[e]
   show Option.bind (jah (y49 nm g) big 0) y157=_
   have key:=jbv (body:=y49 nm g) (List.range g.length) 0 (fun i=>jbw g i != 0) (fun i=>.inl ((i:Int),jbw g i)) (.inr ()) (by simp; omega) (fun i hi hp=>by
     have hi:i<g.length:=by simpa using hi
     have hr:(List.range g.length).getD i 0=i:=by simp[List.getD,hi]
     rw[hr]at hp
     unfold y49
     rw[if_pos (by omega),jsR hw nm hi,jad,if_pos hp]) (fun i hi hp=>by
     have hi:i<g.length:=by simpa using hi
     have hr:(List.range g.length).getD i 0=i:=by simp[List.getD,hi]
     rw[hr]at hp
     unfold y49
     rw[if_pos (by omega),jsR hw nm hi,jad,if_neg (by rw[hp]; exact Bool.false_ne_true),jaO (by omega)]) (by
     unfold y49
     rw[if_neg (by simp)])
   rw[key]
   cases (List.range g.length).findIdx? (fun i=>jbw g i != 0)<;>rfl
theorem jxL {g:List (List NC)} (hw:Fw g) {nm:ByteArray} (hs:nm.size<1000):y45 nm g=some (cg nm g):=by
 have hn:=hw.n
 unfold y45 cg
 rw[jsP hs,jad]
 cases jev nm with
 |false=>rfl
 |true =>
  have ht:¬((!true)=true):=by simp
  rw[if_neg ht,if_neg ht]
  by_cases h24:(g.length:Int)>24
  ·rw[if_pos h24,if_pos h24]
  ·rw[if_neg h24,if_neg h24]
   have key:=jbv (body:=y52 nm g) (List.range g.length) 0 (fun i=>jbw g i != 0) (fun i=>.inl ((i:Int),jbw g i)) (.inr ()) (by simp; omega) (fun i hi hp=>by
     have hi:i<g.length:=by simpa using hi
     have hr:(List.range g.length).getD i 0=i:=by simp[List.getD,hi]
     rw[hr]at hp
     unfold y52
     rw[if_pos (by omega),jsS hw nm hi,jad,if_pos hp]) (fun i hi hp=>by
     have hi:i<g.length:=by simpa using hi
     have hr:(List.range g.length).getD i 0=i:=by simp[List.getD,hi]
     rw[hr]at hp
     unfold y52
     rw[if_pos (by omega),jsS hw nm hi,jad,if_neg (by rw[hp]; exact Bool.false_ne_true),jaO (by omega)]) (by
     unfold y52
     rw[if_neg (by simp)])
   rw[key]
   cases (List.range g.length).findIdx? (fun i=>jbw g i != 0)<;>rfl
def rowU (g:List (List NC)) (i:Nat):List NC:=[.d (.s (nS g i 0)),.d (.i .i64 (nI g i 1)),.r (.ints .i64 (nL g i 2)),.r (.ints .i64 (nL g i 3)),.r (.ints .i64 (nL g i 4)),.d (.i .i64 (nI g i 5)),.r (.recs 5 (nR g i 6)),.d (.i .i64 (nI g i 7))]
def cpU (g:List (List NC)):List (List NC):=(List.range g.length).map (rowU g)
theorem jAW {g:List (List NC)} (hw:Fw g) (nm:ByteArray):y41 nm g=some (nm,cpU g):=by
 have hn:=hw.n
 unfold y41
 have key:=jdd (body:=jpz g) (fun k=>((k:Int),(List.range k).map (rowU g))) (y:=cpU g) (k:=g.length) (fun i hi=>by
   have h2:=hw.fr i hi
   have h3:=hw.al i hi
   have h4:=hw.ga i hi
   have h5:=hw.ca i hi
   unfold jpz
   simp only[Int.toNat_natCast]
   rw[if_pos (by omega),if_pos (by omega),if_pos hi,jfQ _ (by omega),jfQ _ (by omega),jfQ _ (by omega)]
   simp only[jad]
   rw[if_pos (by omega),if_pos (by simp only[List.length_map,List.length_range,List.length_cons,List.length_nil]; omega),jaO (by omega),List.range_succ,List.map_append]
   rfl) (by
   unfold jpz
   rw[if_neg (by simp)]
   rfl) (by omega)
 have key:jah (jpz g) big ((0:Int),[])=some (cpU g):=key
 rw[key]
 rfl
theorem jcx (g:List (List NC)):(cpU g).length=g.length:=by simp[cpU]
theorem jfB {g:List (List NC)} {i:Nat} (hi:i<g.length):(cpU g).getD i []=rowU g i:=by simp[cpU,List.getD,hi]
theorem cp_S {g:List (List NC)} {i:Nat} (hi:i<g.length):nS (cpU g) i 0=nS g i 0:=by
 show NC.toS (((cpU g).getD i []).getD 0 _)=_
 rw[jfB hi]; rfl
theorem cp_I {g:List (List NC)} {i:Nat} (hi:i<g.length):nI (cpU g) i 1=nI g i 1∧nI (cpU g) i 5=nI g i 5∧nI (cpU g) i 7=nI g i 7:=by
 refine⟨?_,?_,?_⟩
 ·show NC.toI (((cpU g).getD i []).getD 1 _)=_
  rw[jfB hi]; rfl
 ·show NC.toI (((cpU g).getD i []).getD 5 _)=_
  rw[jfB hi]; rfl
 ·show NC.toI (((cpU g).getD i []).getD 7 _)=_
  rw[jfB hi]; rfl
theorem jnp {g:List (List NC)} {i:Nat} (hi:i<g.length):nL (cpU g) i 2=nL g i 2∧nL (cpU g) i 3=nL g i 3∧nL (cpU g) i 4=nL g i 4:=by
 refine⟨?_,?_,?_⟩
 ·show NC.toInts (((cpU g).getD i []).getD 2 _)=_
  rw[jfB hi]; rfl
 ·show NC.toInts (((cpU g).getD i []).getD 3 _)=_
  rw[jfB hi]; rfl
 ·show NC.toInts (((cpU g).getD i []).getD 4 _)=_
  rw[jfB hi]; rfl
theorem cp_R {g:List (List NC)} {i:Nat} (hi:i<g.length):nR (cpU g) i 6=nR g i 6:=by
 show NC.toRecs (((cpU g).getD i []).getD 6 _)=_
 rw[jfB hi]; rfl
theorem jAu {g:List (List NC)} (hw:Fw g):Fw (cpU g):=by
 constructor
 ·rw[jcx]; exact hw.n
 all_goals intro i hi; rw[jcx]at hi
 ·rw[cp_S hi]; exact hw.nm i hi
 ·rw[(jnp hi).1]; exact hw.fr i hi
 ·rw[(jnp hi).2.1]; exact hw.al i hi
 ·rw[(jnp hi).2.2]; exact hw.ga i hi
 ·rw[cp_R hi]; exact hw.ca i hi
theorem jxM {g:List (List NC)} {i:Nat} (hi:i<g.length):jbw (cpU g) i=jbw g i:=by
 have hex:exB (cpU g) i=exB g i:=by
  unfold exB
  rw[cp_S hi]
  have:∀l:List Nat,(∀k∈l,k<i)→(l.any fun k=>nS (cpU g) k 0==nS g i 0)=l.any fun k=>nS g k 0==nS g i 0:=by
   intro l
   induction l with
   |nil=>intro _; rfl
   |cons x r ih =>
    intro h
    have hx:=h x List.mem_cons_self
    rw[List.any_cons,List.any_cons,cp_S (by omega),ih fun k hk=>h k (List.mem_cons_of_mem _ hk)]
  exact this _ fun k hk=>List.mem_range.1 hk
 unfold jbw
 rw[cp_S hi,hex,(cp_I hi).1,(cp_I hi).2.1,(cp_I hi).2.2,(jnp hi).1,(jnp hi).2.1,(jnp hi).2.2,cp_R hi,jcx]
def cgM (e:Nat→Int) (o:Option Nat):Int × Int:=match o with
 |some i=>((i:Int),e i)
 |none=>(0,0)
def cgF (b:Bool) (n:Nat) (e:Nat→Int):Int × Int:=if(!b)=true then(0,4)else if(n:Int)>24 then(0,8)else cgM e ((List.range n).findIdx? fun i=>e i != 0)
theorem jwo (e e':Nat→Int) (n:Nat) (hn:∀i,i<n→e i=e' i) (l:List Nat):(∀i∈l,i<n)→l.findIdx? (fun i=>e i != 0)=l.findIdx? (fun i=>e' i != 0):=by
 induction l with
 |nil=>intro _; rfl
 |cons x r ih =>
  intro h
  rw[List.findIdx?_cons,List.findIdx?_cons,hn x (h x List.mem_cons_self),ih fun i hi=>h i (List.mem_cons_of_mem _ hi)]
theorem jxN (b:Bool) (n:Nat) (e e':Nat→Int) (hn:∀i,i<n→e i=e' i):cgF b n e=cgF b n e':=by
 unfold cgF
 rw[jwo e e' n hn _ fun i hi=>List.mem_range.1 hi]
 have hm:cgM e ((List.range n).findIdx? fun i=>e' i != 0)=cgM e' ((List.range n).findIdx? fun i=>e' i != 0):=by
  cases h:(List.range n).findIdx? (fun i=>e' i != 0)with
  |none=>rfl
  |some i =>
   show((i:Int),e i)=((i:Int),e' i)
   rw[hn i (joL h)]
 rw[hm]
theorem jlm (nm:ByteArray) (g:List (List NC)):cg nm g=cgF (jev nm) g.length (jbw g):=by
 unfold cg cgF cgM
 rfl
theorem jrw (nm:ByteArray) (g:List (List NC)):cg nm (cpU g)=cg nm g:=by
 rw[jlm,jlm,jcx]
 exact jxN _ _ _ _ fun i hi=>jxM hi
theorem jxO (nm:ByteArray) (g:List (List NC)):jed nm g=some false∨(jed nm g=some true∧Fw g∧nm.size<1000):=by
 unfold jed
 by_cases h0:((nm.size:Nat):Int)>20
 ·rw[if_pos h0]; exact .inl rfl
 rw[if_neg h0]
 have loop:g.length≤26→(Option.bind (jah (y75 g) big 0) jeu=some false∨(Option.bind (jah (y75 g) big 0) jeu=some true∧Fw g∧nm.size<1000)):=by
  intro h26
  let P:Nat→Bool:=fun i=>decide ((((nS g i 0).size:Nat):Int)>20)||decide (((nL g i 2).length:Int)>8)||decide (((nL g i 3).length:Int)>8)||decide (((nL g i 4).length:Int)>8)||decide (((nR g i 6).length:Int)>8)
  have key:=jcj (body:=y75 g) g.length P (.inl ()) (.inr ()) (by omega) (fun i hi hp=>by
    unfold y75; simp only[Int.toNat_natCast]
    rw[if_pos (by omega),if_pos (by omega),if_pos hi]
    simp only[P,Bool.or_eq_true,decide_eq_true_eq]at hp
    repeat' split
    all_goals first|rfl|(exfalso; omega)) (fun i hi hp=>by
    unfold y75; simp only[Int.toNat_natCast]
    rw[if_pos (by omega),if_pos (by omega),if_pos hi]
    simp only[P,Bool.or_eq_false_iff,decide_eq_false_iff_not]at hp
    rw[if_neg hp.1.1.1.1,if_neg hp.1.1.1.2,if_neg hp.1.1.2,if_neg hp.1.2,if_neg hp.2,jaO (by omega)]) (by
    unfold y75; simp only[Int.toNat_natCast]
    rw[if_neg (by omega)])
  rw[key]
  cases hP:(List.range g.length).any P with
  |true=>exact .inl rfl
  |false =>
   refine .inr ⟨rfl,?_,by omega⟩
   have hall:∀i,i<g.length→P i=false:=fun i hi=>by
    have:=List.any_eq_false.1 hP i (by simpa using hi)
    simpa using this
   have hq:∀i,i<g.length→(nS g i 0).size≤20∧(nL g i 2).length≤8∧(nL g i 3).length≤8∧(nL g i 4).length≤8∧(nR g i 6).length≤8:=fun i hi=>by
    have hp:=hall i hi
    simp only[P,Bool.or_eq_false_iff,decide_eq_false_iff_not]at hp
    omega
   exact⟨by omega,fun i hi=>by have:=hq i hi; omega,fun i hi=>by have:=hq i hi; omega,fun i hi=>by have:=hq i hi; omega,fun i hi=>by have:=hq i hi; omega,fun i hi=>by have:=hq i hi; omega⟩
 split
 ·split
  ·exact .inl rfl
  ·split
   ·exact .inl rfl
   ·exact loop (by omega)
 ·split
  ·exact .inl rfl
  ·exact loop (by omega)
end Go.Sh
end

section
namespace Go.Sx09
open Go Go.Proofs Go.RowKit Go.Shelf Go.Sx
attribute [local go_sem] Oper.semAt_some
structure KpS (K:Nat→Prop) (A C:World):Prop where
 size:A.heap.size≤C.heap.size
 same:∀k o,K k→A.heap[k]?=some o→o.isCells=true→C.heap[k]?=some o
theorem kps_t {K:Nat→Prop} {A B C:World} (h:KpS K A B) (k:KpS K B C):KpS K A C:=⟨Nat.le_trans h.size k.size,fun x o hx ho hc=>k.same x o hx (h.same x o hx ho hc) hc⟩
theorem kps_b {K:Nat→Prop} {w:World} (W:World) (l:Nat) (o o':Obj) (_:w.heap.size≤l) (h:W.heap[l]?=some o) (hc:o.isCells=false) (_:o.isWalk=false):KpS K W (W.putObj l o') :=
 ⟨by simp,fun k u _ hk hu=>by
  have hne:l≠k:=fun e=>by subst e; rw[h]at hk; cases hk; rw[hc]at hu; cases hu
  exact(World.putObj_heap_other (fun e=>hne e.symm)).trans hk⟩
theorem jxP {K:Nat→Prop} {A B:World} (h:Below A.heap.size A B):KpS K A B:=⟨h.size,fun k o _ hk _=>(h.block k (Array.getElem?_eq_some_iff.1 hk).1).trans hk⟩
def needL (L:List Int) (st:Int):List Int:=if st=-1 then L else L++[st]
def stN (y:Value) (L:List Int) (v:List Value) (st:Int) (k:Nat):St :=
 ⟨[(18,vi .i64 k),(17,vi .i64 L.length),(16,.w (.c (.o 0))),(4,.w (.c (.p 1 0 1 0))),(0,.w (.c (.d (.v y))))],[(0,.ext (.ints .i64 L)),(1,.ebox (v.map (fun x=>C.d (.v x))++[.d (.i .i64 st)]))],2⟩
def stNc (y:Value) (L:List Int) (v:List Value) (st:Int) (k:Nat):St:=⟨(19,vb (decide ((k:Int)<L.length)))::(stN y L v st k).tm,(stN y L v st k).hp,2⟩
def stNd (y:Value) (L:List Int) (v:List Value) (st:Int) (k:Nat):St:=⟨(6,vi .i64 (L.getD k 0))::(stN y L v st k).tm,(stN y L v st k).hp,2⟩
def stNe (y:Value) (L:List Int) (v:List Value) (st:Int) (k:Nat):St:=⟨(29,vb (st != -1))::(stN y L v st k).tm,(stN y L v st k).hp,2⟩
abbrev pn (c:Code) (st st2:St):Prop:=sx Tryz.prog (fun _=>none) 34 2 0 (fun _ _ _=>none) (fun _ _ _=>False) c 0 [] st (fun e st'=>match e with | .normal=>Le 2 st' st2|_=>False)
section
variable (y:Value) (L:List Int) (v0 v1 v2 v3 v4 v5 v6:Value) (st:Int) (k:Nat)
theorem pn1:pn (sub [1,0,1,0,0,0] (bodyOf Tryz.f132)) (stN y L [v0,v1,v2,v3,v4,v5,v6] st k) (stNc y L [v0,v1,v2,v3,v4,v5,v6] st k):=by
 refine Eq.mp (by kernel_rfl:(Ob ((decide ((k:Int)<L.length))=decide ((k:Int)<L.length))∧Ob ((k:Int)=k)∧Ob ((L.length:Int)=L.length)∧Ob ((0:Nat)=0)∧Ob (y=y)∧Ob (L=L)∧Ob (v0=v0)∧Ob (v1=v1)∧Ob (v2=v2)∧Ob (v3=v3)∧Ob (v4=v4)∧Ob (v5=v5)∧Ob (v6=v6)∧Ob (st=st)∧True)=_) ?_
 exact⟨⟨rfl⟩,⟨rfl⟩,⟨rfl⟩,⟨rfl⟩,⟨rfl⟩,⟨rfl⟩,⟨rfl⟩,⟨rfl⟩,⟨rfl⟩,⟨rfl⟩,⟨rfl⟩,⟨rfl⟩,⟨rfl⟩,⟨rfl⟩,trivial⟩
theorem pn2 (hk:k<L.length):pn (sub [1,0,1,0,0,1,1,0,0,0] (bodyOf Tryz.f132)) (stNc y L [v0,v1,v2,v3,v4,v5,v6] st k) (stNd y L [v0,v1,v2,v3,v4,v5,v6] st k):=by
 refine Eq.mp (by kernel_rfl:(Ob (0≤(k:Int)∧(k:Int)<(L.length:Int))∧Ob ((k:Int).toNat<L.length)∧Ob (L.getD (k:Int).toNat 0=L.getD k 0)∧Ob ((k:Int)=k)∧Ob ((L.length:Int)=L.length)∧Ob ((0:Nat)=0)∧Ob (y=y)∧Ob (L=L)∧Ob (v0=v0)∧Ob (v1=v1)∧Ob (v2=v2)∧Ob (v3=v3)∧Ob (v4=v4)∧Ob (v5=v5)∧Ob (v6=v6)∧Ob (st=st)∧True)=_) ?_
 exact⟨⟨by omega⟩,⟨by omega⟩,⟨rfl⟩,⟨rfl⟩,⟨rfl⟩,⟨rfl⟩,⟨rfl⟩,⟨rfl⟩,⟨rfl⟩,⟨rfl⟩,⟨rfl⟩,⟨rfl⟩,⟨rfl⟩,⟨rfl⟩,⟨rfl⟩,⟨rfl⟩,trivial⟩
theorem pn3 (hk:(k:Int)+1≤9223372036854775807):pn (sub [1,0,1,0,0,1,1,1] (bodyOf Tryz.f132)) (stN y L [v0,v1,v2,v3,v4,v5,v6] st k) (stN y L [v0,v1,v2,v3,v4,v5,v6] st (k+1)):=by
 refine Eq.mp (by kernel_rfl:(Ob (IntKind.i64.wrap ((k:Int)+1)=((k+1:Nat):Int))∧Ob ((L.length:Int)=L.length)∧Ob ((0:Nat)=0)∧Ob (y=y)∧Ob (L=L)∧Ob (v0=v0)∧Ob (v1=v1)∧Ob (v2=v2)∧Ob (v3=v3)∧Ob (v4=v4)∧Ob (v5=v5)∧Ob (v6=v6)∧Ob (st=st)∧True)=_) ?_
 refine⟨⟨?_⟩,⟨rfl⟩,⟨rfl⟩,⟨rfl⟩,⟨rfl⟩,⟨rfl⟩,⟨rfl⟩,⟨rfl⟩,⟨rfl⟩,⟨rfl⟩,⟨rfl⟩,⟨rfl⟩,⟨rfl⟩,trivial⟩
 rw[IntWalk.i64_in _ (by omega)]
 omega
theorem pn4:pn (sub [1,1,0] (bodyOf Tryz.f132)) (stN y L [v0,v1,v2,v3,v4,v5,v6] st k) (stNe y L [v0,v1,v2,v3,v4,v5,v6] st k):=by
 refine Eq.mp (by kernel_rfl:(Ob True∧Ob ((st != (-1:Int))=(st != (-1:Int)))∧Ob ((k:Int)=k)∧Ob ((L.length:Int)=L.length)∧Ob ((0:Nat)=0)∧Ob (y=y)∧Ob (L=L)∧Ob (v0=v0)∧Ob (v1=v1)∧Ob (v2=v2)∧Ob (v3=v3)∧Ob (v4=v4)∧Ob (v5=v5)∧Ob (v6=v6)∧Ob (st=st)∧True)=_) ?_
 exact⟨⟨trivial⟩,⟨rfl⟩,⟨rfl⟩,⟨rfl⟩,⟨rfl⟩,⟨rfl⟩,⟨rfl⟩,⟨rfl⟩,⟨rfl⟩,⟨rfl⟩,⟨rfl⟩,⟨rfl⟩,⟨rfl⟩,⟨rfl⟩,⟨rfl⟩,trivial⟩
end
theorem jgj {ρ:Env} {B:Kd} {N n0:Nat} {st:St} {a:Act} {w:World} {t:Nat} {v:V} (h:Rel ρ B N n0 st a w) (hv:v.lt st.nx) (hlt:t<N):Rel ρ B N n0 ⟨(t,v)::st.tm,st.hp,st.nx⟩ (a.put (some t) (v.val ρ)) w:=by
 refine⟨fun x u hx=>?_,by rw[jbr]; exact h.size,by rw[jcB]; exact h.defers,h.heap,h.le,h.n0⟩
 simp only[jaH]at hx
 rw[jbG (fun y hy=>by cases hy; rw[h.size]; exact hlt)]
 split at hx
 ·rename_i e
  subst e
  cases hx
  exact⟨hv,by rw[if_pos rfl]⟩
 ·rename_i e
  rw[if_neg (fun e'=>e (Option.some.inj e'))]
  exact h.tm x u hx
theorem jsT {o:Oper} {v:Value} {n:Nat} {a:Act} {w:World} {K:Act→World→Prop} {Q:Exit→Act→World→Prop} (h:(execOp a.eval o).run Tryz.prog w=.ok (.value v) w) (hK:K (a.put o.dst v) w):o.wpIn Fence.wide n Tryz.prog a w K Q:=by
 refine⟨fun _ _=>trivial,?_⟩
 rw[Fence.wide_round,Oper.semAt_none,h]
 exact hK
theorem jdt {o:Oper} {t n N n0:Nat} {ob:Prop} {v:V} {ρ:Env} {B:Kd} {st:St} {a:Act} {w:World} {K:Act→World→Prop} {Q:Exit→Act→World→Prop} (hr:Rel ρ B N n0 st a w) (hs:ja5 Tryz.prog o.op (jb6 st) st.hp=some (ob,v)) (hob:ob) (hd:o.dst=some t) (ht:t<N)
  (hK:∀a',Rel ρ B N n0 ⟨(t,v)::st.tm,st.hp,st.nx⟩ a' w→K a' w):o.wpIn Fence.wide n Tryz.prog a w K Q:=by
 obtain⟨B',_,hh⟩:=hr.heap
 have h1:=jfp hh hr.reads hs hob
 refine jsT h1.1 ?_
 rw[hd]
 exact hK _ (jgj hr h1.2 ht)
theorem jvc {ρ:Env} {B:Kd} {N n0:Nat} {s s0:St} {a:Act} {w:World} (h:Rel ρ B N n0 s0 a w) (ht:∀t v,jaH s.tm t=some v→jaH s0.tm t=some v) (hh:s.hp=s0.hp) (hn:s.nx=s0.nx):Rel ρ B N n0 s a w :=
 ⟨fun t v hv=>by rw[hn]; exact h.tm t v (ht t v hv),h.size,h.defers,by rw[hh,hn]; exact h.heap,h.le,by rw[hn]; exact h.n0⟩
structure BetN (K:Nat→Prop) (y:Value) (L:List Int) (v:List Value) (st:Int) (k:Nat) (a:Act) (w:World):Prop where
 rel:∃ρ,Rel ρ (kd fun x=>x<w.heap.size) 34 2 (stN y L v st k) a w∧(∀ad n cap,ρ 0=.slice (some ad) n cap→0<n→K ad.block)∧∀b o,ρ 1=.pointer (some ⟨b,o,none⟩)→K b
theorem jl6 {K:Nat→Prop} {ρ:Env} {B:Kd} {L:List Int} {v:List Value} {st:Int} {a:Act} {w w':World} {s:St} (h:Rel ρ B 34 2 s a w) (hs:s.hp=[(0,.ext (.ints .i64 L)),(1,.ebox (v.map (fun x=>C.d (.v x))++[.d (.i .i64 st)]))]) (h0:∀ad n cap,ρ 0=.slice (some ad) n cap→0<n→K ad.block) (h1:∀b o,ρ 1=.pointer (some ⟨b,o,none⟩)→K b) (hk:KpS K w w') :
  Rel ρ (kd fun x=>x<w'.heap.size) 34 2 s a w':=by
 obtain⟨B',_,hh⟩:=h.heap
 have keep:∀{b:Nat} {off:Nat} {u:Value},K b→w.cell? ⟨b,off,none⟩=some u→w'.cell? ⟨b,off,none⟩=some u:=fun {b off u} hK hc=>by
  obtain⟨o,ho,hoc⟩:=cells_of_cell hc
  have h2:=hk.same _ o hK ho hoc
  exact(World.cell?_of_block (w:=w) (w':=w') (a:=⟨b,off,none⟩) (h2.trans (show w.heap[b]?=some o from ho).symm)).trans hc
 refine⟨h.tm,h.size,h.defers,⟨kd fun x=>x<w'.heap.size,Grow.refl _ _ _ _,⟨fun x o hf=>?_,fun x o x' o' b hf hf' hne hb=>?_,jf8⟩⟩,fun k hk=>jbD.1 hk,h.n0⟩
 ·have hx:=hh.ok x o hf
  refine⟨hx.1,hx.2.1,?_⟩
  simp only[hs,find]at hf
  split at hf
  ·rename_i e; subst e; cases hf
   obtain⟨⟨ad,cap,hv,hc,hcells⟩,ho⟩:=hx.2.2
   have hrow:jaF w' (ρ 0) (.ints .i64 L):=by
    refine⟨ad,cap,hv,hc,fun hn=>?_⟩
    obtain⟨b,off,hab,hxc⟩:=hcells hn
    subst hab
    exact⟨b,off,rfl,fun j z hj=>keep (h0 _ _ _ hv hn) (hxc j z hj)⟩
   exact⟨hrow,hrow.lt (Nat.lt_succ_self 0)⟩
  ·split at hf
   ·rename_i e; subst e; cases hf
    obtain⟨b,off,hv,hB,hcells⟩:=hx.2.2
    have hK:=h1 b off hv
    refine⟨b,off,hv,?_,fun j c hj=>keep hK (hcells j c hj)⟩
    have hc0:=keep hK (hcells v.length (.d (.i .i64 st)) (by rw[List.getElem?_append_right (by simp)]; simp))
    exact World.block_lt_of_cell? w' _ hc0
   ·cases hf
 ·simp only[hs,find]at hf
  split at hf
  ·cases hf; cases hb
  ·split at hf
   ·cases hf; cases hb
   ·cases hf
theorem jln {K:Nat→Prop} {A B:World} (h:A.grownBy B none):KpS K A B:=⟨h.size,fun k o _ hk _=>(h.block k (Array.getElem?_eq_some_iff.1 hk).1 (fun e=>by cases e)).trans hk⟩
theorem jqt {l:Nat} {fn tmps assign body:_} {x:Value} {W:World} {a:Act} {s q ty:Nat} (hs:a.eval (.tmp s)=.func (.yield l) #[] #[]) (hq:a.eval (.tmp q)=x)
  (hy:(Instr.yield l #[x]).run Tryz.prog W=.ok (.round l fn tmps assign body) W) (o:Oper) (ho:o.op=.call { callee:=.value (.tmp s),args:=#[.tmp q],argTypes:=#[ty] }) :
  ((o.semAt Fence.wide.round a.eval).run Tryz.prog W)=.ok (.round l fn tmps assign body) W:=by
 rw[Fence.wide_round,Oper.semAt_none]
 unfold execOp
 simp only[ho,resolve,hs,Deferred.ofValue,Sem.run_bind,Sem.run_pure,Result.andThen_ok,invoke,List.map_toArray,List.map_cons,List.map_nil,hq]
 exact hy
theorem jxQ {α:Type} {enc:α→Int} {A:List α} {L:List Int} {st:Int} (hA:A.map enc=needL L st) {k:Nat} (hk:k<L.length):∃h:k<A.length,enc A[k]=L.getD k 0:=by
 have hlen:A.length=(needL L st).length:=by rw[←hA]; simp
 have h1:k<(needL L st).length:=by
  unfold needL
  split
  ·exact hk
  ·simp; omega
 refine⟨by omega,?_⟩
 have h2:(A.map enc)[k]?=(needL L st)[k]?:=by rw[hA]
 rw[List.getElem?_map,List.getElem?_eq_getElem (by omega)]at h2
 have h3:(needL L st)[k]?=L[k]?:=by
  unfold needL
  split
  ·rfl
  ·rw[List.getElem?_append_left hk]
 rw[h3,List.getElem?_eq_getElem hk]at h2
 simp only[Option.map_some,Option.some.injEq]at h2
 rw[h2]
 simp[List.getD,List.getElem?_eq_getElem hk]
set_option maxHeartbeats 2000000 in
theorem jwq (n l:Nat) (K:Nat→Prop) (L:List Int) (v0 v1 v2 v3 v4 v5 v6:Value) (st:Int) (hL:(L.length:Int)<9223372036854775807) {α:Type} (enc:α→Int) (A:List α) (hA:A.map enc=needL L st) (J Jx:List α→World→Prop)
  (hY:∀(k:Nat) (h:k<A.length) W,J (A.take k) W→YieldAt Fence.wide (n-1) Tryz.prog l #[.int .i64 (enc A[k])] W fun e W' =>
   (e=.returned (.bool true)∧J (A.take (k+1)) W'∧KpS K W W')∨(e=.returned (.bool false)∧Jx (A.take (k+1)) W'))
  (hJ:∀A B pre,J pre A→A.grownBy B none→J pre B) (a:Act) (w:World) (hb:BetN K (.func (.yield l) #[] #[]) L [v0,v1,v2,v3,v4,v5,v6] st 0 a w) (hj0:J [] w)
  (R:World→Prop) (hR:∀k W,k≤A.length→Jx (A.take k) W→R W) (Q:Act→World→Prop) (hQ:∀a w,BetN K (.func (.yield l) #[] #[]) L [v0,v1,v2,v3,v4,v5,v6] st L.length a w→J (A.take L.length) w→Q a w) :
  (sub [1,0,1] (bodyOf Tryz.f132)).wpIn Fence.wide n Tryz.prog (Exit.then Q (bodyPost Tryz.prog Tryz.f132 fun e W'=>(∃v,e=.returned v)∧R W')) a w:=by
 refine wpIn_block (wpIn_loop (fun a w=>∃k,k≤L.length∧BetN K (.func (.yield l) #[] #[]) L [v0,v1,v2,v3,v4,v5,v6] st k a w∧J (A.take k) w) (fun a _=>L.length-(intOf (a.tmps.getD 18 undef)).toNat) ⟨0,by omega,hb,hj0⟩ ?_)
 rintro a w ⟨k,hk,⟨ρ,hr,hg0,hg1⟩,hj⟩
 have hmu:(intOf (a.tmps.getD 18 undef)).toNat=k:=by
  rw[(hr.tm 18 _ rfl).2]
  simp[intOf]
 rw[hmu]
 refine wpIn_seq (wpIn_wide.2 (wp_mono (jjz hr (pn1 _ L v0 v1 v2 v3 v4 v5 v6 st k)) ?_))
 rintro e a1 w1 ⟨rfl,hw1,ρ1,hr1,hag1⟩
 have hj1:=hJ _ _ _ hj hw1
 have hc:a1.eval (.tmp 19)=.bool (decide ((k:Int)<L.length)):=(hr1.tm 19 _ rfl).2
 by_cases hlt:k<L.length
 ·refine wpIn_seq (wpIn_cond_true (by rw[hc,decide_eq_true (by omega)]) (wpIn_skip ?_))
  have hg0a:∀ad n cap,ρ1 0=.slice (some ad) n cap→0<n→K ad.block:=fun ad n cap h=>hg0 ad n cap (by rw[←hag1 0 (by decide)]; exact h)
  have hg1a:∀b o,ρ1 1=.pointer (some ⟨b,o,none⟩)→K b:=fun b o h=>hg1 b o (by rw[←hag1 1 (by decide)]; exact h)
  have hr1b:Rel ρ1 (kd fun x=>x<w1.heap.size) 34 2 (stNc (.func (.yield l) #[] #[]) L [v0,v1,v2,v3,v4,v5,v6] st k) a1 w1:=jl6 hr1 rfl hg0a hg1a (jln (World.grownBy.refl w1 none))
  refine wpIn_seq (wpIn_block (wpIn_seq (wpIn_wide.2 (wp_mono (jjz hr1b (pn2 _ L v0 v1 v2 v3 v4 v5 v6 st k hlt)) ?_))))
  rintro e a2 w2 ⟨rfl,hw2,ρ2,hr2,hag2⟩
  have hj2:=hJ _ _ _ hj1 hw2
  obtain⟨hkA,henc⟩:=jxQ hA hlt
  obtain⟨fn,tmps,assign,body,hy,hRd⟩:=hY k hkA w2 hj2
  rw[henc]at hy
  refine wpIn_seq (wpIn_region_list ?_)
  refine wpListIn_plain rfl fun K2 hK2=>jdt (t:=22) hr2 rfl trivial rfl (by decide) fun a3 hr3=>hK2 _ _ ?_
  refine wpListIn_plain rfl fun K2 hK2=>jdt (t:=23) hr3 rfl trivial rfl (by decide) fun a4 hr4=>hK2 _ _ ?_
  have g22:a4.eval (.tmp 22)=.func (.yield l) #[] #[]:=(hr4.tm 22 _ rfl).2
  have g23:a4.eval (.tmp 23)=.int .i64 (L.getD k 0):=(hr4.tm 23 _ rfl).2
  refine wpListIn_plain rfl fun K2 hK2=>⟨fun _ _=>trivial,?_⟩
  rw[jqt (ty:=3) g22 g23 hy _ rfl]
  refine⟨(fun h=>by cases h),hRd.mono ?_⟩
  have hg0b:∀ad n cap,ρ2 0=.slice (some ad) n cap→0<n→K ad.block:=fun ad n cap h=>hg0a ad n cap (by rw[←hag2 0 (by decide)]; exact h)
  have hg1b:∀b o,ρ2 1=.pointer (some ⟨b,o,none⟩)→K b:=fun b o h=>hg1a b o (by rw[←hag2 1 (by decide)]; exact h)
  have hr5:∀(b:Bool) (w3:World),KpS K w2 w3→Rel ρ2 (kd fun x=>x<w3.heap.size) 34 2 _ (a4.put (some 24) (.bool b)) w3:=fun b w3 hk3=>jl6 (jgj (v:=vb b) hr4 trivial (by decide)) rfl hg0b hg1b hk3
  rintro e w3 (⟨rfl,hj3,hk3⟩|⟨rfl,hj3⟩)
  ·refine hK2 _ _ (wpListIn_plain rfl fun K3 hK3=>jdt (t:=25) (hr5 true w3 hk3) rfl trivial rfl (by decide) fun a5 hr6=>hK3 _ _ (wpListIn_nil ?_))
   have g25:a5.eval (.tmp 25)=.bool false:=(hr6.tm 25 _ rfl).2
   refine wpIn_cond_false g25 (wpIn_skip ?_)
   have hr7:Rel ρ2 (kd fun x=>x<w3.heap.size) 34 2 (stN (.func (.yield l) #[] #[]) L [v0,v1,v2,v3,v4,v5,v6] st k) a5 w3:=jvc hr6 (fun t v hv=>by
    simp only[stN,jaH]at hv
    simp only[stNd,stN,jaH]
    repeat' split at hv
    all_goals first
     |(cases hv; done)
     |(subst_vars; simp only[hv]; rfl)
     |(subst_vars; exact hv)) rfl rfl
   refine wpIn_wide.2 (wp_mono (jjz hr7 (pn3 _ L v0 v1 v2 v3 v4 v5 v6 st k (by omega))) ?_)
   rintro e a7 w7 ⟨rfl,hw7,ρ7,hr8,hag7⟩
   refine⟨⟨k+1,by omega,⟨ρ7,jl6 hr8 rfl (fun ad n cap h=>hg0b ad n cap (by rw[←hag7 0 (by decide)]; exact h)) (fun b o h=>hg1b b o (by rw[←hag7 1 (by decide)]; exact h)) (jln (World.grownBy.refl w7 none)),fun ad n cap h=>hg0b ad n cap (by rw[←hag7 0 (by decide)]; exact h),fun b o h=>hg1b b o (by rw[←hag7 1 (by decide)]; exact h)⟩,hJ _ _ _ hj3 hw7⟩,?_⟩
   rw[(hr8.tm 18 _ rfl).2]
   simp[intOf]
   omega
  ·have hr4b:=jgj (v:=vb false) (t:=24) hr4 trivial (by decide)
   have g24:(a4.put (some 24) (.bool false)).eval (.tmp 24)=.bool false:=(hr4b.tm 24 _ rfl).2
   refine hK2 _ _ (wpListIn_plain rfl fun K3 hK3=>jsT (v:=.bool true) ?_ (hK3 _ _ (wpListIn_nil ?_)))
   ·unfold execOp
    dsimp only
    rw[g24]
    rfl
   have hr5:=jgj (v:=vb true) (t:=25) hr4b trivial (by decide)
   have g25:((a4.put (some 24) (.bool false)).put (some 25) (.bool true)).eval (.tmp 25)=.bool true:=(hr5.tm 25 _ rfl).2
   refine wpIn_cond_true g25 (wpIn_ret ?_)
   exact⟨hr5.defers,.tuple #[],results_none rfl _ _ _,⟨_,rfl⟩,hR (k+1) _ (by omega) hj3⟩
 ·have hk5:k=L.length:=by omega
  subst hk5
  refine wpIn_seq (wpIn_cond_false (by rw[hc,decide_eq_false (by omega)]) (wpIn_exit ?_))
  refine hQ _ _ ⟨ρ1,jvc (jl6 hr1 rfl (fun ad n cap h=>hg0 ad n cap (by rw[←hag1 0 (by decide)]; exact h)) (fun b o h=>hg1 b o (by rw[←hag1 1 (by decide)]; exact h)) (jln (World.grownBy.refl w1 none))) (fun t v hv=>?_) rfl rfl,fun ad n cap h=>hg0 ad n cap (by rw[←hag1 0 (by decide)]; exact h),fun b o h=>hg1 b o (by rw[←hag1 1 (by decide)]; exact h)⟩ hj1
  have hne:t≠19:=fun e=>by subst e; simp[stN,jaH]at hv
  simp only[stNc,jaH]
  rw[if_neg (Ne.symm hne)]
  exact hv
abbrev shU:List NK:=[.s,.i .i64,.ints .i64,.ints .i64,.ints .i64,.i .i64,.recs 5,.i .i64]
def stI (y:Value) (nm:ByteArray) (l:List (List NC)) (i:Int) (co:Value):St:=⟨[(0,.w (.c (.d (.v y)))),(1,.w (.c (.p 1 0 1 0))),(2,.w (.c (.p 2 0 1 0)))],[(0,.box 4 [.d (.b false)]),(1,.ebox [.p 3 0 1 0]),(2,.ebox [.d (.i .i64 i)]),(3,.ebox [.d (.s nm),.o 4,.d (.v co)]),(4,.xext (.st shU l))],5⟩
def hpJ (l:List (List NC)) (i:Nat):Hp:=[(0,.box 4 [.d (.b false)]),(1,.box 118 [.d (.s (nS l i 0)),.d (.i .i64 (nI l i 1)),.o 2,.o 3,.o 4,.d (.i .i64 (nI l i 5)),.o 5,.d (.i .i64 (nI l i 7))]),(2,.ext (.ints .i64 (nL l i 2))),(3,.ext (.ints .i64 (nL l i 3))),(4,.ext (.ints .i64 (nL l i 4))),(5,.ext (.recs 5 (nR l i 6)))]
def stJ (y:Value) (l:List (List NC)) (i:Nat):St:=⟨[(4,.w (.c (.p 1 0 1 0))),(0,.w (.c (.d (.v y))))],hpJ l i,6⟩
def stJ2 (y:Value) (l:List (List NC)) (i:Nat):St:=⟨[(18,vi .i64 0),(17,vi .i64 (nL l i 2).length),(16,.w (.c (.o 2))),(4,.w (.c (.p 1 0 1 0))),(0,.w (.c (.d (.v y))))],hpJ l i,6⟩
theorem pnJ (y:Value) (l:List (List NC)) (i:Nat):sx Tryz.prog (fun _=>none) 34 1 0 (fun _ _ _=>none) (fun _ _ _=>False) (sub [1,0,0] (bodyOf Tryz.f132)) 0 [] (stJ y l i) (fun e st'=>match e with | .normal=>Le 1 st' (stJ2 y l i)|_=>False):=by
 refine Eq.mp (by kernel_rfl:(Ob ((0:Int)=0)∧Ob (((nL l i 2).length:Int)=(nL l i 2).length)∧Ob ((0:Nat)=0)∧Ob (y=y)∧Ob (false=false)∧Ob (nS l i 0=nS l i 0)∧Ob (nI l i 1=nI l i 1)∧Ob (nI l i 5=nI l i 5)∧Ob (nI l i 7=nI l i 7)∧Ob (nL l i 2=nL l i 2)∧Ob (nL l i 3=nL l i 3)∧Ob (nL l i 4=nL l i 4)∧Ob (nR l i 6=nR l i 6)∧True)=_) ?_
 exact⟨⟨rfl⟩,⟨rfl⟩,⟨rfl⟩,⟨rfl⟩,⟨rfl⟩,⟨rfl⟩,⟨rfl⟩,⟨rfl⟩,⟨rfl⟩,⟨rfl⟩,⟨rfl⟩,⟨rfl⟩,⟨rfl⟩,trivial⟩
theorem jdk {w:World} {k j t:Nat} {vs:Array Value} {f:_} (h:w.heap[k]?=some (.cells vs t f)) {v:Value} (hv:vs[j]?=some v):w.cell? ⟨k,j,none⟩=some v:=by
 unfold World.cell?
 dsimp only
 rw[h]
 simp[hv]
theorem jwr {α:Type} {enc:α→Int} {A:List α} {L:List Int} {st:Int} (hA:A.map enc=needL L st) (hst:st≠-1):∃h:L.length<A.length,enc A[L.length]=st∧A.length=L.length+1:=by
 have e:needL L st=L++[st]:=if_neg hst
 have hlen:A.length=L.length+1:=by
  have:(A.map enc).length=(L++[st]).length:=by rw[hA,e]
  simpa using this
 refine⟨by omega,?_,hlen⟩
 have h2:(A.map enc)[L.length]?=(L++[st])[L.length]?:=by rw[hA,e]
 rw[List.getElem?_map,List.getElem?_eq_getElem (by omega)]at h2
 simpa using h2
set_option maxHeartbeats 4000000 in
theorem jxR (n l r:Nat) (nm:ByteArray) (gU:List (List NC)) (i:Int) (co:Value) (ρ0:Env) (W:World)
  (hh:HRel ρ0 (kd fun k=>k<W.heap.size∧k≠r) (stI (.func (.yield l) #[] #[]) nm gU i co).hp 5 W) (hr0:ρ0 0=.pointer (some ⟨r,0,none⟩))
  (hi:0≤i∧i<gU.length) (hL:((nL gU i.toNat 2).length:Int)<9223372036854775807) {α:Type} (enc:α→Int) (A:List α) (hA:A.map enc=needL (nL gU i.toNat 2) (nI gU i.toNat 7)) (J Jx:List α→World→Prop)
  (hY:∀(k:Nat) (h:k<A.length) W,J (A.take k) W→YieldAt Fence.wide (n-1) Tryz.prog l #[.int .i64 (enc A[k])] W fun e W' =>
   (e=.returned (.bool true)∧J (A.take (k+1)) W'∧KpS (fun k=>k≠r) W W')∨(e=.returned (.bool false)∧Jx (A.take (k+1)) W'))
  (hJ:AbidesFrom W.heap.size J) (h0:J [] W) :
  CallsIn Fence.wide n Tryz.prog 132 #[.func (.yield l) #[] #[],(C.p 1 0 1 0).val ρ0,(C.p 2 0 1 0).val ρ0] W fun e W'=>(∃v,e=.returned v) ∧
   ((∃ys,ys=A∧J ys W')∨(∃pre,(∃k,k≤A.length∧pre=A.take k)∧Jx pre W')):=by
 refine callsIn_of_wp Tryz.func132 rfl trivial ?_ rfl
 refine wpIn_seq (wpIn_wide.2 ?_)
 have hsp:jac Tryz.prog (fun _=>none):=fun _ _ _ h=>by cases h
 obtain⟨y,hy⟩:∃y:Value,y=.func (.yield l) #[] #[]:=⟨_,rfl⟩
 rw[←hy]at hh ⊢
 refine jcm (N:=34) (n0:=1) (B:=kd fun k=>k<W.heap.size∧k≠r) (ρ0:=ρ0) (w0:=W) (st:=stI y nm gU i co)
  (k:=fun st=>Le 1 st (stJ y gU i.toNat)) (by kernel_rfl) hsp (ds:=[]) _ _ ρ0 _ _ _ ?vc ?rel (jae.refl _ _) (Bel.refl _ _) ?next
 case vc =>
  refine Eq.mp (by kernel_rfl:(Ob True∧Ob True∧Ob True∧Ob ((0:Int)≤i∧i<((XC.st shU gU).n:Int))∧Ob (i.toNat<(XC.st shU gU).n)∧Ob ((0:Nat)=0)∧Ob (y=y)∧Ob (false=false)∧Ob (nS gU i.toNat 0=nS gU i.toNat 0)∧Ob (nI gU i.toNat 1=nI gU i.toNat 1)∧Ob (nI gU i.toNat 5=nI gU i.toNat 5)∧Ob (nI gU i.toNat 7=nI gU i.toNat 7)∧Ob (nL gU i.toNat 2=nL gU i.toNat 2)∧Ob (nL gU i.toNat 3=nL gU i.toNat 3)∧Ob (nL gU i.toNat 4=nL gU i.toNat 4)∧Ob (nR gU i.toNat 6=nR gU i.toNat 6)∧True)=_) ?_
  exact⟨⟨trivial⟩,⟨trivial⟩,⟨trivial⟩,⟨hi⟩,⟨by show i.toNat<gU.length; omega⟩,⟨rfl⟩,⟨rfl⟩,⟨rfl⟩,⟨rfl⟩,⟨rfl⟩,⟨rfl⟩,⟨rfl⟩,⟨rfl⟩,⟨rfl⟩,⟨rfl⟩,⟨rfl⟩,trivial⟩
 case rel =>
  refine jfv (N:=34) (n0:=1) (args:=[.w (.c (.d (.v y))),.w (.c (.p 1 0 1 0)),.w (.c (.p 2 0 1 0))]) (Nat.le_of_ble_eq_true rfl) (fun x hx=>?_) (by decide) ρ0 W hh (fun k hk=>(jbD.1 hk).1)
  simp only[List.mem_cons,List.not_mem_nil,or_false]at hx
  rcases hx with rfl|rfl|rfl
  ·trivial
  ·exact(by decide:1<5)
  ·exact(by decide:2<5)
 case next =>
  rintro ρ1 st1 a1 w1 hr1 hag1 hbl1 hle
  obtain⟨ρ2,hr2,hag2⟩:=hle.rel hr1
  refine wpIn_seq (wpIn_seq (wpIn_wide.2 (wp_mono (jbH hsp (fun _ _ _ _ _ _ _ _ _ h=>h.elim) (sub [1,0,0] (bodyOf Tryz.f132)) 0 [] (stJ y gU i.toNat) _ ρ2 a1 w1 (pnJ y gU i.toNat) hr2 (jae.refl _ _) (Bel.refl _ _)) ?_)))
  rintro e a2 w2 ⟨ex,ρ3,st3,rfl,hk3,hr3',hag3,hbl3⟩
  cases ex with
  |exit j=>exact hk3.elim
  |ret=>exact hk3.elim
  |normal =>
   obtain⟨ρ4,hr4,hag4⟩:=hk3.rel hr3'
   have hρ0:ρ4 0=.pointer (some ⟨r,0,none⟩):=(hag4 0 (by decide)).trans ((hag3 0 (by decide)).trans ((hag2 0 (by decide)).trans ((hag1 0 (by decide)).trans hr0)))
   have hbW:Bel (kd fun k=>k<W.heap.size∧k≠r).kp W w2:=hbl1.trans hbl3
   obtain⟨B',gB,hh4⟩:=hr4.heap
   have o0:=(hh4.ok 0 _ rfl).2.2
   have o1:=(hh4.ok 1 _ rfl).2.2
   have o2:=(hh4.ok 2 _ rfl).2.2
   obtain⟨r',hr',hB0,hheap0⟩:=o0
   have err:r'=r:=by
    rw[hρ0]at hr'
    cases hr'
    rfl
   subst err
   obtain⟨k1,hk1,hB1,hheap1⟩:=o1
   obtain⟨q0,hq0,hBq,hheapW⟩:=(hh.ok 0 _ rfl).2.2
   have eq0:q0=r':=by
    rw[hr0]at hq0
    cases hq0
    rfl
   subst eq0
   have hgr:W.grownBy w2 none:=by
    refine⟨hbW.os,hbW.tape,hbW.output,hbW.size,fun k hk _=>?_⟩
    by_cases e:k=q0
    ·subst e
     rw[hheap0,hheapW]
     rfl
    ·exact hbW.block k ⟨hk,e⟩
   have hj2:J [] w2:=hJ [] W w2 none h0 hgr (fun r e=>by cases e)
   have hne1:k1≠q0:=fun e=>hh4.apart 1 _ 0 _ k1 rfl rfl (by decide) (by rw[hk1]; rfl) (by rw[hρ0,e]; rfl)
   have hb:BetN (fun k=>k≠q0) y (nL gU i.toNat 2) [.string (nS gU i.toNat 0),.int .i64 (nI gU i.toNat 1),ρ4 2,ρ4 3,ρ4 4,.int .i64 (nI gU i.toNat 5),ρ4 5] (nI gU i.toNat 7) 0 a2 w2:=by
    refine⟨fun h=>if h=0 then ρ4 2 else ρ4 1,⟨fun t v hv=>?_,hr4.size,hr4.defers,⟨kd fun x=>x<w2.heap.size,Grow.refl _ _ _ _,⟨fun x o hf=>?_,fun x o x' o' b hf hf' hne hb=>?_,jf8⟩⟩,fun k hk=>jbD.1 hk,Nat.le_refl _⟩,fun ad m cap hv hm=>?_,fun b o hv=>?_⟩
    ·simp only[stN,jaH]at hv
     split at hv
     ·rename_i e; subst e; cases hv; exact⟨trivial,(hr4.tm 18 _ rfl).2⟩
     ·split at hv
      ·rename_i e; subst e; cases hv; exact⟨trivial,(hr4.tm 17 _ rfl).2⟩
      ·split at hv
       ·rename_i e; subst e; cases hv; exact⟨(by decide:0<2),(hr4.tm 16 _ rfl).2⟩
       ·split at hv
        ·rename_i e; subst e; cases hv; exact⟨(by decide:1<2),(hr4.tm 4 _ rfl).2⟩
        ·split at hv
         ·rename_i e; subst e; cases hv; exact⟨trivial,(hr4.tm 0 _ rfl).2⟩
         ·cases hv
    ·simp only[stN,find]at hf
     split at hf
     ·rename_i e; subst e; cases hf
      exact⟨(by decide:0<2),trivial,o2.1,o2.1.lt (Nat.lt_succ_self 0)⟩
     ·split at hf
      ·rename_i e; subst e; cases hf
       refine⟨(by decide:1<2),?_,k1,0,by simpa using hk1,(Array.getElem?_eq_some_iff.1 hheap1).1,fun j c hj=>?_⟩
       ·intro c hc
        simp only[List.map_cons,List.map_nil,List.cons_append,List.nil_append,List.mem_cons,List.not_mem_nil,or_false]at hc
        rcases hc with rfl|rfl|rfl|rfl|rfl|rfl|rfl|rfl<;>trivial
       ·rw[Nat.zero_add]
        refine jdk hheap1 ?_
        match j,hj with
        |0,hj=>cases hj; rfl
        |1,hj=>cases hj; rfl
        |2,hj=>cases hj; rfl
        |3,hj=>cases hj; rfl
        |4,hj=>cases hj; rfl
        |5,hj=>cases hj; rfl
        |6,hj=>cases hj; rfl
        |7,hj=>cases hj; rfl
        |j+8,hj=>cases hj
      ·cases hf
    ·simp only[stN,find]at hf
     split at hf
     ·cases hf; cases hb
     ·split at hf
      ·cases hf; cases hb
      ·cases hf
    ·intro e
     have h2:=o2.2 ad m cap (by simpa using hv) hm
     exact hB0 (.inl (e ▸ h2))
    ·intro e
     have hv':ρ4 1=.pointer (some ⟨b,o,none⟩):=by simpa using hv
     rw[hk1]at hv'
     cases hv'
     exact hne1 e
   subst hy
   refine jwq n l (fun k=>k≠q0) _ _ _ _ _ _ _ _ _ hL enc A hA J Jx hY (fun A B pre hj hg=>hJ pre A B none hj hg (fun r e=>by cases e)) a2 w2 hb hj2
    (fun W'=>(∃ys,ys=A∧J ys W')∨(∃pre,(∃k,k≤A.length∧pre=A.take k)∧Jx pre W')) (fun k W hk hx=>.inr ⟨_,⟨k,hk,rfl⟩,hx⟩) _ ?_
   rintro a5 w5 ⟨ρ5,hr5,hg0,hg1⟩ hj5
   refine wpIn_seq (wpIn_wide.2 (wp_mono (jjz hr5 (pn4 _ _ _ _ _ _ _ _ _ _ _)) ?_))
   rintro e a6 w6 ⟨rfl,hw6,ρ6,hr6,hag6⟩
   have hj6:=hJ _ _ _ none hj5 hw6 (fun r e=>by cases e)
   have hc:a6.eval (.tmp 29)=.bool (nI gU i.toNat 7 != -1):=(hr6.tm 29 _ rfl).2
   by_cases hst:nI gU i.toNat 7=-1
   ·refine wpIn_cond_false (by rw[hc,hst]; rfl) (wpIn_skip ?_)
    refine⟨hr6.defers,.tuple #[],results_none rfl _ _ _,⟨_,rfl⟩,.inl ⟨_,rfl,?_⟩⟩
    have hlen:A.length=(nL gU i.toNat 2).length:=by
     have:(A.map enc).length=(needL (nL gU i.toNat 2) (nI gU i.toNat 7)).length:=by rw[hA]
     rw[needL,if_pos hst]at this
     simpa using this
    rw[←hlen,List.take_length]at hj6
    exact hj6
   ·refine wpIn_cond_true (by rw[hc]; simp[hst]) (wpIn_region_list ?_)
    obtain⟨hkA,henc,hlen⟩:=jwr hA hst
    obtain⟨fn,tmps,assign,body,hy,hRd⟩:=hY _ hkA w6 hj6
    rw[henc]at hy
    refine wpListIn_plain rfl fun K2 hK2=>jdt (t:=30) hr6 rfl trivial rfl (by decide) fun a7 hr7=>hK2 _ _ ?_
    refine wpListIn_plain rfl fun K2 hK2=>jdt (t:=31) hr7 rfl trivial rfl (by decide) fun a8 hr8=>hK2 _ _ ?_
    refine wpListIn_plain rfl fun K2 hK2=>jdt (t:=32) hr8 rfl trivial rfl (by decide) fun a9 hr9=>hK2 _ _ ?_
    have g30:a9.eval (.tmp 30)=.func (.yield l) #[] #[]:=(hr9.tm 30 _ rfl).2
    have g32:a9.eval (.tmp 32)=.int .i64 (nI gU i.toNat 7):=(hr9.tm 32 _ rfl).2
    refine wpListIn_plain rfl fun K2 hK2=>⟨fun _ _=>trivial,?_⟩
    rw[jqt (ty:=3) g30 g32 hy _ rfl]
    refine⟨(fun h=>by cases h),hRd.mono ?_⟩
    rintro e w7 (⟨rfl,hj7,hk7⟩|⟨rfl,hj7⟩)
    ·refine hK2 _ _ (wpListIn_nil ?_)
     refine⟨(jgj (t:=33) (v:=vb true) hr9 trivial (by decide)).defers,.tuple #[],results_none rfl _ _ _,⟨_,rfl⟩,.inl ⟨_,rfl,?_⟩⟩
     rw[←hlen,List.take_length]at hj7
     exact hj7
    ·refine hK2 _ _ (wpListIn_nil ?_)
     exact⟨(jgj (t:=33) (v:=vb false) hr9 trivial (by decide)).defers,.tuple #[],results_none rfl _ _ _,⟨_,rfl⟩,.inr ⟨_,⟨_,by omega,rfl⟩,hj7⟩⟩
end Go.Sx09
end

section
namespace Go.Sx09
open Go Go.Proofs Go.RowKit Go.Shelf Go.Sx
attribute [local go_sem] Oper.semAt_some
set_option maxHeartbeats 2000000 in
theorem jzn (n:Nat) (p:Option Addr) (i:Int) (w:World) :
  CallsIn Fence.wide n Tryz.prog 86 #[.pointer p,.int .i64 i] w fun e w'=>e=.returned (.func (.func 132) #[] #[.pointer (some ⟨w.heap.size,0,none⟩),.pointer (some ⟨w.heap.size+1,0,none⟩)])∧w'=(w.alloc (.cells #[.pointer p] 126)).alloc (.cells #[.int .i64 i] 3):=by
 refine callsIn_of_wp Tryz.func86 rfl trivial ?_ rfl
 simp only[Tryz.ntmps86,List.size_toArray,List.length_cons,List.length_nil,Nat.reduceAdd,Nat.reduceSub,Array.replicate_succ,Array.replicate_zero,List.push_toArray,List.append_toArray,List.nil_append,List.cons_append]
 gi_wp2
 go_ret
 exact⟨rfl,rfl⟩
theorem jzo (w:World) (c0 c1 c2 c3:Array Value) (t0 t1 t2 t3:TypeId):∃w2,w2.heap.size=w.heap.size+4∧Below w.heap.size w w2∧w2.heap[w.heap.size]?=some (.cells c0 t0 (0,0))∧w2.heap[w.heap.size+1]?=some (.cells c1 t1 (0,0)) ∧
  w2.heap[w.heap.size+1+1]?=some (.cells c2 t2 (0,0))∧w2.heap[w.heap.size+1+1+1]?=some (.cells c3 t3 (0,0))∧(((w.alloc (.cells c0 t0)).alloc (.cells c1 t1)).alloc (.cells c2 t2)).alloc (.cells c3 t3)=w2:=by
 have new:∀(w:World) (c:Array Value) (t:TypeId) (m:Nat),w.heap.size=m→(w.alloc (.cells c t)).heap[m]?=some (.cells c t (0,0)):=fun w c t m e=>by subst e; exact World.alloc_heap_new w (.cells c t)
 have old:∀(w:World) (o o':Obj) (k:Nat),w.heap[k]?=some o→(w.alloc o').heap[k]?=some o:=fun w o o' k h=>(Below.heap_alloc w o' k (Array.getElem?_eq_some_iff.1 h).1).trans h
 refine⟨_,by simp,(((Below.refl _ w).alloc (Nat.le_refl _) _).alloc (by simp) _).alloc (by simp; omega) _ |>.alloc (by simp; omega) _,?_,?_,?_,?_,rfl⟩
 ·exact old _ _ _ _ (old _ _ _ _ (old _ _ _ _ (new w c0 t0 _ rfl)))
 ·exact old _ _ _ _ (old _ _ _ _ (new _ c1 t1 _ (by simp)))
 ·exact old _ _ _ _ (new _ c2 t2 _ (by simp))
 ·exact new _ c3 t3 _ (by simp)
def readyB (pl:List Bool) (L:List Int):Bool:=L.all fun x=>pl.getD x.toNat false
set_option maxHeartbeats 4000000 in
theorem ready_in (nm:ByteArray) (gU:List (List NC)) (od:List Int) (i:Int) (pl:List Bool) (ρ:Env) (w:World)
  (hh:HRel ρ (kd fun k=>k<w.heap.size) [(3,.ext (.bools pl)),(2,.ebox [.d (.s nm),.o 0,.o 1]),(1,.ext (.ints .i64 od)),(0,.xext (.st shU gU))] 4 w)
  (hi:0≤i∧i<gU.length) (hL:((nL gU i.toNat 2).length:Int)<9223372036854775807) (hx:∀x∈needL (nL gU i.toNat 2) (nI gU i.toNat 7),0≤x∧x<pl.length) :
  CallsIn Fence.wide 9 Tryz.prog 85 #[(C.p 2 0 1 0).val ρ,.int .i64 i,ρ 3] w fun e w'=>e=.returned (.bool (readyB pl (needL (nL gU i.toNat 2) (nI gU i.toNat 7))))∧Below w.heap.size w w':=by
 have h1:1≤9:=by omega
 have hro:Fence.wide.round=none:=rfl
 obtain⟨gb,go,hgp,hgB,hgc⟩:=(hh.ok 2 _ rfl).2.2
 have hrow:=(hh.ok 3 _ rfl).2.2
 obtain⟨⟨pa,pc,hpv,hpc,hpcells⟩,hpo⟩:=hrow
 have hP:(C.p 2 0 1 0).val ρ=.pointer (some ⟨gb,go,none⟩):=by
  simp only[C.val,hgp,base]
  rfl
 rw[hP,hpv]
 refine callsIn_of_wp_marks Tryz.func85 rfl trivial ?_ hro
 simp only[Tryz.ntmps85,List.size_toArray,List.length_cons,List.length_nil,Nat.reduceAdd,Nat.reduceSub,Array.replicate_succ,Array.replicate_zero,List.push_toArray,List.append_toArray,List.nil_append,List.cons_append]
 gi_wp2_with (refine⟨trivial,?_⟩; gi_at_call 86; refine(jzn _ _ i _).mono ?_; rintro e w' ⟨rfl,rfl⟩)
 obtain⟨w2,hs2,hB0,k0,k1,k2,k3,hw2⟩:=jzo w #[.slice pa (Cont.bools pl).n pc] #[.bool false] #[.pointer (some ⟨gb,go,none⟩)] #[.int .i64 i] 133 4 126 3
 rw[hw2]
 have hne:∀(A:List {x:Int // 0≤x∧x<pl.length}),A.map (fun x=>x.1)=needL (nL gU i.toNat 2) (nI gU i.toNat 7)→readyB pl (needL (nL gU i.toNat 2) (nI gU i.toNat 7))=A.all fun x=>pl.getD x.1.toNat false:=fun A hA=>by
  rw[←hA]
  simp[readyB]
 obtain⟨A,hA⟩:∃A:List {x:Int // 0≤x∧x<pl.length},A.map (fun x=>x.1)=needL (nL gU i.toNat 2) (nI gU i.toNat 7) :=
  ⟨(needL (nL gU i.toNat 2) (nI gU i.toNat 7)).attachWith _ hx,by simp⟩
 have hready:=hne A hA
 refine wpIn_rangeFunc_ownF hro h1 (gf:=132) (lb:=#[.pointer (some ⟨w.heap.size+1+1,0,none⟩),.pointer (some ⟨w.heap.size+1+1+1,0,none⟩)]) rfl trivial (enters_of Tryz.func132 (by kernel_rfl) rfl)
  (α:={x:Int // 0≤x∧x<pl.length}) (encs:=fun x=>#[.int .i64 x.1]) (Kp:=KpS fun k=>k≠w.heap.size+1) (S:=fun ys=>ys=A) (Sp:=fun pre=>∃k,k≤A.length∧pre=A.take k) (N:=A.length) (w0:=w2)
  ?seq kps_t kps_b (Below.refl _ _) (fun _=>rfl)
  (fun pre W=>((∀y∈pre,pl.getD y.1.toNat false=true)∧W.cell? ⟨w.heap.size,0,none⟩=some (.slice pa (Cont.bools pl).n pc)∧W.cell? ⟨w.heap.size+1,0,none⟩=some (.bool false)∧W.frozen? ⟨w.heap.size+1,0,none⟩=false)∧Below w.heap.size w W)
  (fun c pre W=>(c=.ret∧(∃y∈pre,pl.getD y.1.toNat false=false)∧W.cell? ⟨w.heap.size+1,0,none⟩=some (.bool false))∧Below w.heap.size w W)
  (OwnFrom.and (Own.from (fun s A B row hs hg hr=>⟨hs.1,cell_kept hs.2.1 hg hr,cell_kept hs.2.2.1 hg hr,(frozen_kept hs.2.2.1 hg hr).trans hs.2.2.2⟩) _) (ownFrom_below (Nat.le_refl _) (by omega)))
  (fun c=>OwnFrom.and (Own.from (fun s A B row hs hg hr=>⟨hs.1,hs.2.1,cell_kept hs.2.2 hg hr⟩) _) (ownFrom_below (Nat.le_refl _) (by omega)))
  ⟨⟨by simp,jdk k0 rfl,jdk k1 rfl,?frozen⟩,hB0⟩
  (fun x=>{ tmps:=#[Value.pointer (some { block:=gb,off:=go }),Value.int IntKind.i64 i,Value.slice pa (Cont.bools pl).n pc,undef,undef,Value.pointer (some { block:=w.heap.size,off:=0 }),Value.pointer (some { block:=w.heap.size+1,off:=0 }),.int .i64 x.1,Value.pointer (some { block:=gb,off:=go }),Value.int IntKind.i64 i,Value.func (Fn.func 132) #[] #[Value.pointer (some { block:=w.heap.size+1+1,off:=0 }),Value.pointer (some { block:=w.heap.size+1+1+1,off:=0 })],.int .i64 x.1,undef,undef,undef,undef,undef],defers:=[] }) ?assign ?body ?done ?stop
 case frozen =>
  unfold World.frozen?
  dsimp only
  rw[k1]
  rfl
 case seq =>
  intro l J Jx W hW hJ hJx hY h0
  have hBW:Below w.heap.size w W:=hB0.trans (hW.mono (by omega))
  have hsz:=hW.size
  have at2:∀k o,k<w2.heap.size→w2.heap[k]?=some o→W.heap[k]?=some o:=fun k o hk ho=>(hW.block k hk).trans ho
  have hmono:∀k,(kd fun k=>k<w.heap.size).kp k→(kd fun k=>k<W.heap.size∧k≠w.heap.size+1).kp k:=fun k hk=>by
   have hk:k<w.heap.size:=hk
   exact⟨by omega,by omega⟩
  have hbw:Bel (kd fun k=>k<w.heap.size).kp w W:=⟨hBW.os,hBW.tape,hBW.output,hBW.size,hBW.block⟩
  let ρ':Env:=fun h=>match h with
   |0=>.pointer (some ⟨w.heap.size+1,0,none⟩)
   |1=>.pointer (some ⟨w.heap.size+1+1,0,none⟩)
   |2=>.pointer (some ⟨w.heap.size+1+1+1,0,none⟩)
   |3=>ρ 2
   |_=>ρ 0
  have hx0:=(hh.ok 0 _ rfl).2.2
  have hrel:HRel ρ' (kd fun k=>k<W.heap.size∧k≠w.heap.size+1) (stI (.func (.yield l) #[] #[]) nm gU i (ρ 1)).hp 5 W:=by
   refine⟨fun x o hf=>?_,fun x o x' o' b hf hf' hne hb=>?_,jf8⟩
   ·simp only[stI,find]at hf
    split at hf
    ·rename_i e; subst e; cases hf
     exact⟨by decide,(fun c hc=>by simp at hc; subst hc; trivial),w.heap.size+1,rfl,fun h=>(jbD.1 h).2 rfl,at2 _ _ (by omega) k1⟩
    ·split at hf
     ·rename_i e; subst e; cases hf
      refine⟨by decide,(fun c hc=>by simp at hc; subst hc; exact(by decide:3<5)),w.heap.size+1+1,0,rfl,⟨by omega,by omega⟩,fun j c hj=>?_⟩
      refine(jdk (at2 _ _ (by omega) k2) (j:=0+j) (v:=c.val ρ') ?_)
      match j,hj with
      |0,hj=>cases hj; exact congrArg some hP.symm
      |j+1,hj=>cases hj
     ·split at hf
      ·rename_i e; subst e; cases hf
       refine⟨by decide,(fun c hc=>by simp at hc; subst hc; trivial),w.heap.size+1+1+1,0,rfl,⟨by omega,by omega⟩,fun j c hj=>?_⟩
       refine(jdk (at2 _ _ (by omega) k3) (j:=0+j) (v:=c.val ρ') ?_)
       match j,hj with
       |0,hj=>cases hj; rfl
       |j+1,hj=>cases hj
      ·split at hf
       ·rename_i e; subst e; cases hf
        refine⟨by decide,(fun c hc=>by simp at hc; rcases hc with rfl|rfl|rfl<;>first|exact True.intro|exact(by decide:4<5)),gb,go,hgp,hmono _ hgB,fun j c hj=>?_⟩
        refine(hbw.cell (p:=⟨gb,go+j,none⟩) hgB).trans ?_
        match j,hj with
        |0,hj=>cases hj; exact hgc 0 _ rfl
        |1,hj=>cases hj; exact hgc 1 _ rfl
        |2,hj=>cases hj; exact hgc 2 _ rfl
        |j+3,hj=>cases hj
       ·split at hf
        ·rename_i e; subst e; cases hf
         exact⟨by decide,trivial,(IsX.bel hx0 hbw).mono hmono⟩
        ·cases hf
   ·simp only[stI,find]at hf hf'
    have hz:∀y oy,find (stI (.func (.yield l) #[] #[]) nm gU i (ρ 1)).hp y=some oy→y≠0→oy.blk (ρ' y)=none:=fun y oy hy hy0=>by
     simp only[stI,find]at hy
     rw[if_neg (Ne.symm hy0)]at hy
     repeat' split at hy
     all_goals (cases hy; try rfl)
    by_cases e:x=0
    ·rw[hz x' o' hf' (by omega)]
     intro h; cases h
    ·rw[hz x o hf e]at hb
     cases hb
  refine(jxR _ l (w.heap.size+1) nm gU i (ρ 1) ρ' W hrel rfl hi hL (fun x=>x.1) A hA J Jx (fun k hk W1 hj=>?_) hJ h0)
  have e1:A.take (k+1)=A.take k++[A[k]]:=by rw[List.take_succ_eq_append_getElem hk]
  rw[e1]
  exact hY (A.take k) A[k] W1 hj (by rw[List.length_take]; omega)
 case assign =>
  intro l x W K hK
  gi_wp2
  exact hK
 case body =>
  rintro l pre x W ⟨⟨hp,hv5,hcr,hfr⟩,hB⟩ _
  have hlt:w.heap.size+1<W.heap.size:=World.block_lt_of_cell? W ⟨w.heap.size+1,0,none⟩ hcr
  have hx1:=x.2.1
  have hx2:=x.2.2
  obtain⟨b,off,hab,hcells⟩:=hpcells (by show 0<pl.length; omega)
  subst hab
  have hcell:W.cell? ⟨b,off+x.1.toNat,none⟩=some (.bool (pl.getD x.1.toNat false)):=by
   have hc:=hcells x.1.toNat (.b (pl.getD x.1.toNat false)) (by
    have:=(Cont.bools pl).flat_get (i:=x.1.toNat) (j:=0) (by show x.1.toNat<pl.length; omega) Nat.one_pos
    simpa [Cont.e,Cont.cell]using this)
   have hbl:b<w.heap.size:=World.block_lt_of_cell? w ⟨b,off+x.1.toNat,none⟩ hc
   exact(hB.cell (p:=⟨b,off+x.1.toNat,none⟩) hbl).trans hc
  have hx3:x.1<((Cont.bools pl).n:Int):=hx2
  clear hcells hready hA hne hpcells hpc hpo hgc hgB hgp hP hx hL hi hh hpv k0 k1 k2 k3 hs2 hB0 hw2
  have hgd:pl.getD x.1.toNat false=pl[x.1.toNat]'(by omega):=by simp[List.getD,List.getElem?_eq_getElem (show x.1.toNat<pl.length by omega)]
  gi_wp2
  ·rename_i hxx
   exact⟨KeepsOthers.setCell _ _ _,⟨rfl,⟨x,List.mem_append.2 (.inr (by simp)),by rw[hgd]; simpa using hxx⟩,World.cell?_setCell_same' _ _ _ (by rw[hcr]; rfl)⟩,hB.setCell (p:=⟨w.heap.size+1,0,none⟩) (by simp) _⟩
  ·rename_i hxx
   exact⟨KeepsOthers.refl _,jxP (Below.refl _ _),⟨fun y hy=>(List.mem_append.1 hy).elim (hp y) (fun e=>by simp at e; subst e; rw[hgd]; simpa using hxx),hv5,hcr,hfr⟩,hB⟩
 case done =>
  rintro D ys W hD rfl ⟨⟨hne,hv5,hcr,hfr⟩,hB⟩ hK
  clear hpcells hpc hpo hgc hgB hgp hP hx hL hi hh hpv k0 k1 k2 k3 hB0 hw2
  gi_wp2
  have hK':=(KeepsOthers.setCell W ⟨w.heap.size+1,0,none⟩ (.bool true)).same D _ hK rfl
  refine⟨by simp,.inl ⟨_,_,rfl,run_takeDeferred hK',?_⟩⟩
  have hc5:=cell_kept (World.cell?_setCell_same' W ⟨w.heap.size+1,0,none⟩ (.bool true) (by rw[hcr]; rfl)) (grownBy_putObj' _ D (.deferred none)) (fun r e=>by cases e; exact⟨_,hK',rfl⟩)
  have hall:readyB pl (needL (nL gU i.toNat 2) (nI gU i.toNat 7))=true:=by
   rw[hready]
   exact List.all_eq_true.2 fun y hy=>hne y hy
  refine⟨.bool true,?_,by rw[hall],(hB.setCell (p:=⟨w.heap.size+1,0,none⟩) (by simp) _).trans (belowK_b (w:=w) (Nat.le_refl _) _ D _ _ (by omega) hK' rfl rfl)⟩
  simp[results,Tryz.f85,go_sem,hc5]
 case stop =>
  rintro D c pre W hD ⟨k,hk,rfl⟩ ⟨⟨rfl,⟨y,hy,hpy⟩,hcr⟩,hB⟩ hK
  clear hpcells hpc hpo hgc hgB hgp hP hx hL hi hh hpv k0 k1 k2 k3 hB0 hw2
  gi_wp2
  refine⟨by simp,.inl ⟨_,_,rfl,run_takeDeferred hK,?_⟩⟩
  have hc5:=cell_kept hcr (grownBy_putObj' _ D (.deferred none)) (fun r e=>by cases e; exact⟨_,hK,rfl⟩)
  have hall:readyB pl (needL (nL gU i.toNat 2) (nI gU i.toNat 7))=false:=by
   rw[hready,Bool.eq_false_iff]
   intro h
   have:=List.all_eq_true.1 h y (List.mem_of_mem_take hy)
   rw[hpy]at this
   cases this
  refine⟨.bool false,?_,by rw[hall],hB.trans (belowK_b (w:=w) (Nat.le_refl _) W D _ _ (by omega) hK rfl rfl)⟩
  simp[results,Tryz.f85,go_sem,hc5]
end Go.Sx09
end

section
open Go.RowKit
namespace Go.Sx
section
variable [Globs] {P:Program}
theorem jsU {f:Nat} {fn:Func} {body:Code} {shs:List SV} {g:List Lf→Option GT} (hf:P.funcs[f]?=some fn) (hb:fn.body=some body) (hn:(fn.name == "runtime.NumGoroutine")=false)
  (h:∀ls t,g ls=some t→∃ob x,t=.leaf ob [.c (.d x)]∧(ob→∀b:Bv,jfe shs 0 ls=some b→∀ρ w,HRel ρ (kd fun k=>k<w.heap.size) b.hp b.n w→Calls P f (b.vs.map (V.val ρ)).toArray w fun e w'=>e=.returned x.val∧Below w.heap.size w w')) :
  jaf P f true (jag shs g):=by
 refine .inl ⟨jcF hf hb hn,fun ρ B w args hp nx t hS hob hlt hh hB=>?_⟩
 unfold jag at hS
 split at hS
 ·rename_i ls am hto
  split at hS
  ·rename_i t' hg
   cases hS
   obtain⟨ob,x,rfl,hc⟩:=h ls t' hg
   rw[jbu]at hob
   have hob:ob:=hob
   obtain⟨b,ρ0,hbl,q⟩:=jhe hh hB shs args ls am hto hlt 0 (fun _=>undef) []
   rw[List.append_nil]at hbl
   have hh0:HRel ρ0 (kd fun k=>k<w.heap.size) b.hp b.n w:=by
    refine⟨fun x o hf=>?_,fun x o x' o' k hf hf' _ hb=>?_,jji hh.glob hB⟩
    ·obtain⟨_,a2,a3,a4,_⟩:=q.heap x o hf
     exact⟨a2,a3,a4⟩
    ·obtain⟨_,_,_,_,a5⟩:=q.heap x o hf
     rw[a5]at hb
     cases hb
   have hcalls:=hc hob b hbl ρ0 w hh0
   rw[q.val]at hcalls
   refine hcalls.mono ?_
   rintro e w' ⟨rfl,hbw⟩
   refine⟨ρ,?_,jae.refl _ _,?_,?_,⟨B,Grow.refl _ _ _ _,?_⟩,jcc hbw hB,fun _=>hbw,fun _ h o k hle hf _=>?_⟩
   ·rw[jbu]; rfl
   ·rw[jbu]; trivial
   ·rw[jbu]; exact Nat.le_refl _
   ·rw[jbu]; exact hh.below hbw hB
   ·rw[jbu]at hf
    have:=(hh.ok h o hf).1
    omega
  ·cases hS
 ·cases hS
end
end Go.Sx
end

section
namespace Go.Sh
open Go Go.Proofs Go.RowKit Go.Sx
def jlo:List SV:=[.c (.p [.d,.x (.st [.s,.i .i64,.ints .i64,.ints .i64,.ints .i64,.i .i64,.recs 5,.i .i64] []),.r (.ints .i64 [])]),.c .d,.c (.r (.bools []))]
def jcS (gUnits:List (List NC)) (i:Int) (placed:List Bool):Option Bool :=
 if 0≤i∧i<gUnits.length then
  if((nL gUnits i.toNat 2).length:Int)<9223372036854775807∧(Sx09.needL (nL gUnits i.toNat 2) (nI gUnits i.toNat 7)).all (fun x=>decide (0≤x∧x<placed.length))=true then
   some (Sx09.readyB placed (Sx09.needL (nL gUnits i.toNat 2) (nI gUnits i.toNat 7)))
  else none
 else none
def jhj:List Lf→Option GT
 |[.d (.s gName),.x (.st [.s,.i .i64,.ints .i64,.ints .i64,.ints .i64,.i .i64,.recs 5,.i .i64] gUnits),.r (.ints .i64 order),.d (.i .i64 i),.r (.bools placed)]=>some (.leaf (ok (jcS gUnits i placed)) [.c (.d (.b (val (jcS gUnits i placed))))])
 |_=>none
abbrev sp_85:jaa→jaa:=jaB 85 true (jag jlo jhj)
theorem joM:jaf Tryz.prog 85 true (jag jlo jhj):=by
 refine jsU (fn:=Tryz.f85) (body:=bodyOf Tryz.f85) Tryz.func85 (by kernel_rfl) (by kernel_rfl) fun ls t h=>?_
 unfold jhj at h
 split at h
 ·rename_i gName gUnits order i placed
  cases h
  refine⟨_,_,rfl,fun hok b hb ρ w hh=>?_⟩
  have hbe:b=⟨[.w (.c (.p 2 0 1 0)),.w (.c (.d (.i .i64 i))),.w (.c (.o 3))],[(3,.ext (.bools placed)),(2,.ebox [.d (.s gName),.o 0,.o 1]),(1,.ext (.ints .i64 order)),(0,.xext (.st Sx09.shU gUnits))],4,[]⟩ :=
   Option.some.inj (hb.symm.trans (by kernel_rfl))
  subst hbe
  unfold ok jcS at hok
  split at hok
  ·rename_i hi
   split at hok
   ·rename_i hL
    have hv:val (jcS gUnits i placed)=Sx09.readyB placed (Sx09.needL (nL gUnits i.toNat 2) (nI gUnits i.toNat 7)):=by
     unfold jcS
     rw[if_pos hi,if_pos hL]
     rfl
    rw[hv]
    exact(callsIn_wide (n:=9)).1 (Sx09.ready_in gName gUnits order i placed ρ w hh hi hL.1 fun x hx=>by simpa using List.all_eq_true.1 hL.2 x hx)
   ·cases hok
  ·cases hok
 ·cases h
theorem sp_85_ok {sp:jaa} (h:jac Tryz.prog sp):jac Tryz.prog (sp_85 sp):=jan joM h
end Go.Sh
end

section
namespace Go.Sh
open Go Go.Proofs Go.RowKit Go.Sx
open Go.IntKind (wrap)
def jgL:List SV:=[.a [.d,.x (.st [.s,.i .i64,.ints .i64,.ints .i64,.ints .i64,.i .i64,.recs 5,.i .i64] [])]]
def jcn (u1:List (List NC)) (x0:Int × List Bool × List Int) (x1:Int):Option (Int ⊕ Int) :=
 if x1<(↑(List.length u1):Int)then
  if 0≤x1∧x1<(↑(List.length x0.2.1):Int)then
  if Int.toNat x1<List.length x0.2.1 then
   if(!List.getD x0.2.1 (Int.toNat x1) false)=true then
   Option.bind (jcS u1 x1 x0.2.1) fun r1 =>
   if(r1)=true then
    some (.inr x1)
   else
    some (.inl (wrap .i64 (x1+1)))
   else
   some (.inl (wrap .i64 (x1+1)))
  else none
  else none
 else
  some (.inr (-1:Int))
def jhR (x0:Int × List Bool × List Int) (u32:Int):Option ((Int × List Bool × List Int) ⊕ (Unit ⊕ (List Int))) :=
 if(u32==(-1:Int))=true then
  some (.inr ((.inl ())))
 else
  if 0≤u32∧u32<(↑(List.length x0.2.1):Int)then
  if Int.toNat u32<List.length x0.2.1 then
   if(List.length x0.2.2+List.length [u32])*8≤140737488355328∧List.length x0.2.2+List.length [u32]≤9223372036854775807 then
   some (.inl ((wrap .i64 (x0.1+1),List.set x0.2.1 (Int.toNat u32) true,x0.2.2++[u32])))
   else none
  else none
  else none
def jbY (u1:List (List NC)) (x0:(Int × List Bool × List Int)):Option ((Int × List Bool × List Int) ⊕ (Unit ⊕ (List Int))) :=
 if x0.1<(↑(List.length u1):Int)then
  Option.bind (jah (jcn u1 x0) big (0:Int)) (jhR x0)
 else
  some (.inr (.inr x0.2.2))
def jrf (u4:Unit):Option Int :=
 some (19:Int)
def jrg (u5:List Int):Option Int :=
 none
def jhS:(Unit ⊕ (List Int))→Option Int :=
 (Sum.elim (jrf) (jrg))
def ja9 (u3:ByteArray) (u1:List (List NC)):Option Int :=
 Option.bind (y39 u3 u1) fun r0 =>
 if(r0.2 != 0)=true then
  some r0.2
 else
  if 0≤(↑(List.length u1):Int)∧(↑(List.length u1):Int)=(↑(List.length u1):Int)∧(↑(1:Nat):Int)*(↑(List.length u1):Int)≤281474976710656∧(↑(List.length u1):Int)≤9223372036854775807 then
  Option.bind (jah (jbY u1) big (((0:Int),List.replicate (Int.toNat (↑(List.length u1):Int)) false,[]))) (jhS)
  else none
def jmQ (u1:List (List NC)) (x0:Int × List Bool × List Int) (x1:Int):Option (Int ⊕ Int) :=
 if x1<(↑(List.length u1):Int)then
  if 0≤x1∧x1<(↑(List.length x0.2.1):Int)then
  if Int.toNat x1<List.length x0.2.1 then
   if(!List.getD x0.2.1 (Int.toNat x1) false)=true then
   Option.bind (jcS u1 x1 x0.2.1) fun r1 =>
   if(r1)=true then
    some (.inr x1)
   else
    some (.inl (wrap .i64 (x1+1)))
   else
   some (.inl (wrap .i64 (x1+1)))
  else none
  else none
 else
  some (.inr (-1:Int))
def jmR (x0:Int × List Bool × List Int) (u32:Int):Option ((Int × List Bool × List Int) ⊕ (Unit ⊕ (List Int))) :=
 if(u32==(-1:Int))=true then
  some (.inr ((.inl ())))
 else
  if 0≤u32∧u32<(↑(List.length x0.2.1):Int)then
  if Int.toNat u32<List.length x0.2.1 then
   if(List.length x0.2.2+List.length [u32])*8≤140737488355328∧List.length x0.2.2+List.length [u32]≤9223372036854775807 then
   some (.inl ((wrap .i64 (x0.1+1),List.set x0.2.1 (Int.toNat u32) true,x0.2.2++[u32])))
   else none
  else none
  else none
def jfh (u1:List (List NC)) (x0:(Int × List Bool × List Int)):Option ((Int × List Bool × List Int) ⊕ (Unit ⊕ (List Int))) :=
 if x0.1<(↑(List.length u1):Int)then
  Option.bind (jah (jmQ u1 x0) big (0:Int)) (jmR x0)
 else
  some (.inr (.inr x0.2.2))
def jrh (u3:ByteArray) (u4:Unit):Option (ByteArray × List Int × Int) :=
 none
def jri (u3:ByteArray) (u5:List Int):Option (ByteArray × List Int × Int) :=
 some ((u3,u5,0))
def jhT (u3:ByteArray):(Unit ⊕ (List Int))→Option (ByteArray × List Int × Int) :=
 (Sum.elim (jrh u3) (jri u3))
def jbI (u3:ByteArray) (u1:List (List NC)):Option (ByteArray × List Int × Int) :=
 Option.bind (y39 u3 u1) fun r0 =>
 if(r0.2 != 0)=true then
  none
 else
  if 0≤(↑(List.length u1):Int)∧(↑(List.length u1):Int)=(↑(List.length u1):Int)∧(↑(1:Nat):Int)*(↑(List.length u1):Int)≤281474976710656∧(↑(List.length u1):Int)≤9223372036854775807 then
  Option.bind (jah (jfh u1) big (((0:Int),List.replicate (Int.toNat (↑(List.length u1):Int)) false,[]))) (jhT u3)
  else none
def jsV:List Lf→Option GT
 |[.d (.s u3),.x (.st [.s,.i .i64,.ints .i64,.ints .i64,.ints .i64,.i .i64,.recs 5,.i .i64] u1)]=>some (.br (Option.isSome (ja9 u3 u1)) (.leaf (ok (ja9 u3 u1)) [.c (.d (.v (Value.pointer none))),.c (.d (.i .i64 ((val (ja9 u3 u1)))))]) (.leaf (ok (jbI u3 u1)) [.c (.box 130 [.d (.s ((val (jbI u3 u1)).1)),.g 0,.row 3 (.ints .i64 ((val (jbI u3 u1)).2.1))]),.c (.d (.i .i64 ((val (jbI u3 u1)).2.2)))]))
 |_=>none
abbrev jhU (u3:ByteArray) (u1:List (List NC)) (r:Int):Lp ((Int × List Bool × List Int) × Nat) (Int × List Bool × List Int) ((Unit ⊕ (List Int))) Int Int :=
 ⟨fun z=>Prod.fst z,fun z=>Prod.snd z,fun z x n=>(x,n),fun z=>jbY u1,fun z=>jhS,fun z=>top r,fun z=>0,[.c fun _=>0,.c fun _=>0,.c fun _=>(↑(List.length u1):Int),.c fun vv=>vv.1.1,.c fun _=>u3,.c fun _=>u3,.c fun vv=>vv.1.2.1,.c fun _=>u1,.c fun vv=>vv.1.2.2]⟩
abbrev jmS (u3:ByteArray) (u1:List (List NC)) (r:Int) (m1:Nat):Lp ((Int × List Bool × List Int) × Nat × Int × Nat) Int Int (((Int × List Bool × List Int) ⊕ (Unit ⊕ (List Int)))) Int :=
 ⟨fun z=>Prod.fst (Prod.snd (Prod.snd z)),fun z=>Prod.snd (Prod.snd (Prod.snd z)),fun z x n=>(Prod.fst z,Prod.fst (Prod.snd z),x,n),fun z=>jcn u1 (Prod.fst z),fun z=>jhR (Prod.fst z),fun z=>(jhU u3 u1 r).cx (Prod.fst z,m1),fun z=>Prod.fst (Prod.snd z),[.c fun _=>0,.c fun _=>0,.c fun _=>(-1:Int),.c fun _=>(↑(List.length u1):Int),.c fun vv=>vv.1.1,.c fun _=>(↑(List.length u1):Int),.c fun vv=>vv.2.2.1,.c fun _=>u3,.c fun _=>u3,.c fun vv=>vv.1.2.1,.c fun _=>u1,.c fun vv=>vv.1.2.2]⟩
def juu (u3:ByteArray) (u1:List (List NC)) (r:Int):Sk (top r) (Option.bind (jah (jbY u1) big (((0:Int),List.replicate (Int.toNat (↑(List.length u1):Int)) false,[]))) (jhS)) :=
 .loopQ (jhU u3 u1 r) [.c fun _=>0,.c fun _=>0,.c fun _=>(↑(List.length u1):Int),.c fun vv=>vv.1.1,.c fun _=>u3,.c fun _=>u3,.c fun vv=>vv.1.2.1,.c fun _=>u1,.p fun vv=>List.length vv.1.2.2=(0:Nat)] (fun kk=>(((0:Int),List.replicate (Int.toNat (↑(List.length u1):Int)) false,[]),big)) (fun z0 =>
 .br
 (.loop (jmS u3 u1 r (Prod.snd z0)) (fun kk=>(Prod.fst z0,kk,0,big)) fun z1 =>
 .br
 (.ob (.ob (.brB
 (.call (.brB
 (.exit (.brB
 (.exit (.obT (.obT (.ret (fun r=>(Ob (Value.pointer none=Value.pointer none) ∧
 (Ob ((19:Int)=r) ∧
 True))) ⟨⟨rfl⟩,⟨⟨rfl⟩,trivial⟩⟩))))
 (.ob (.ob (.ob (.next))))))
 (.next)))
 (.next))))
 (.exit (.exit (.obT (.obT (.ret (fun r=>(Ob (Value.pointer none=Value.pointer none) ∧
 (Ob ((19:Int)=r) ∧
 True))) ⟨⟨rfl⟩,⟨⟨rfl⟩,trivial⟩⟩))))))
 (.exit (.obT (.obT (.bad (False)))))) (fun _=>⟨rfl,trivial⟩)
def jws (u3:ByteArray) (u1:List (List NC)) (r:Int):Sk (top r) (ja9 u3 u1) :=
 .call (.brB
 (.obT (.obT (.ret (fun r=>(Ob (Value.pointer none=Value.pointer none) ∧
 (Ob ((val (y39 u3 u1)).2=r) ∧
 True))) ⟨⟨rfl⟩,⟨⟨rfl⟩,trivial⟩⟩)))
 (.ob (juu u3 u1 r)))
theorem juv (u3:ByteArray) (u1:List (List NC)) (r:Int) (h:Option.bind (ja9 u3 u1) some=some r):ja0 Tryz.f80 ((sp_18 (sp_85 sp0))) (fun gs id _=>match id with
 |0=>some ⟨(Int × List Bool × List Int) × Nat,fun z=>⟨[(1,.w (.c (.p 1 0 1 0))),(6,.w (.c (.p 2 0 1 0))),(7,.w (.c (.o 3))),(27,.w (.c (.d (.i .i64 ((↑(List.length u1):Int)))))),(28,.w (.c (.d (.i .i64 (Prod.fst (Prod.fst z))))))],[(1,.box 24 [.d (.s u3),.o 0]),(2,.box 130 [.d (.s u3),.o 0,.o 4]),(3,.row 4 (.bools (Prod.fst (Prod.snd (Prod.fst z))))),(0,.xext (XC.st [NK.s,NK.i .i64,NK.ints .i64,NK.ints .i64,NK.ints .i64,NK.i .i64,NK.recs (5:Nat),NK.i .i64] u1)),(4,.row 3 (.ints .i64 (Prod.snd (Prod.snd (Prod.fst z)))))],5⟩,fun z=>(jhU u3 u1 r).inv z,fun z=>Prod.snd z⟩
 |2=>some ⟨(Int × List Bool × List Int) × Nat × Int × Nat,fun z=>⟨[(1,.w (.c (.p 1 0 1 0))),(6,.w (.c (.p 2 0 1 0))),(7,.w (.c (.o 3))),(8,.w (.c (.d (.i .i64 (-1:Int))))),(27,.w (.c (.d (.i .i64 ((↑(List.length u1):Int)))))),(28,.w (.c (.d (.i .i64 ((Prod.fst z).1))))),(32,.w (.c (.d (.i .i64 ((↑(List.length u1):Int)))))),(33,.w (.c (.d (.i .i64 (Prod.fst (Prod.snd (Prod.snd z)))))))],[(1,.box 24 [.d (.s u3),.o 0]),(2,.box 130 [.d (.s u3),.o 0,.o 4]),(3,.row 4 (.bools ((Prod.fst z).2.1))),(0,.xext (XC.st [NK.s,NK.i .i64,NK.ints .i64,NK.ints .i64,NK.ints .i64,NK.i .i64,NK.recs (5:Nat),NK.i .i64] u1)),(4,.row 3 (.ints .i64 ((Prod.fst z).2.2)))],5⟩,fun z=>(jmS u3 u1 r (gs.getD 0 0)).inv z,fun z=>Prod.snd (Prod.snd (Prod.snd z))⟩
 |_=>none) (jaV jgL [.d (.s u3),.x (.st [.s,.i .i64,.ints .i64,.ints .i64,.ints .i64,.i .i64,.recs 5,.i .i64] u1)]) [.c (.d (.v (Value.pointer none))),.c (.d (.i .i64 r))] :=
 Sk.vc (jws u3 u1 r) (by kernel_rfl) h
abbrev jhV (u3:ByteArray) (u1:List (List NC)) (r:ByteArray × List Int × Int):Lp ((Int × List Bool × List Int) × Nat) (Int × List Bool × List Int) ((Unit ⊕ (List Int))) (ByteArray × List Int × Int) (ByteArray × List Int × Int) :=
 ⟨fun z=>Prod.fst z,fun z=>Prod.snd z,fun z x n=>(x,n),fun z=>jfh u1,fun z=>jhT u3,fun z=>top r,fun z=>0,[.c fun _=>0,.c fun _=>0,.c fun _=>(↑(List.length u1):Int),.c fun vv=>vv.1.1,.c fun _=>u3,.c fun _=>u3,.c fun vv=>vv.1.2.1,.c fun _=>u1,.c fun vv=>vv.1.2.2]⟩
abbrev jmT (u3:ByteArray) (u1:List (List NC)) (r:ByteArray × List Int × Int) (m1:Nat):Lp ((Int × List Bool × List Int) × Nat × Int × Nat) Int Int (((Int × List Bool × List Int) ⊕ (Unit ⊕ (List Int)))) (ByteArray × List Int × Int) :=
 ⟨fun z=>Prod.fst (Prod.snd (Prod.snd z)),fun z=>Prod.snd (Prod.snd (Prod.snd z)),fun z x n=>(Prod.fst z,Prod.fst (Prod.snd z),x,n),fun z=>jmQ u1 (Prod.fst z),fun z=>jmR (Prod.fst z),fun z=>(jhV u3 u1 r).cx (Prod.fst z,m1),fun z=>Prod.fst (Prod.snd z),[.c fun _=>0,.c fun _=>0,.c fun _=>(-1:Int),.c fun _=>(↑(List.length u1):Int),.c fun vv=>vv.1.1,.c fun _=>(↑(List.length u1):Int),.c fun vv=>vv.2.2.1,.c fun _=>u3,.c fun _=>u3,.c fun vv=>vv.1.2.1,.c fun _=>u1,.c fun vv=>vv.1.2.2]⟩
def juw (u3:ByteArray) (u1:List (List NC)) (r:ByteArray × List Int × Int):Sk (top r) (Option.bind (jah (jfh u1) big (((0:Int),List.replicate (Int.toNat (↑(List.length u1):Int)) false,[]))) (jhT u3)) :=
 .loopQ (jhV u3 u1 r) [.c fun _=>0,.c fun _=>0,.c fun _=>(↑(List.length u1):Int),.c fun vv=>vv.1.1,.c fun _=>u3,.c fun _=>u3,.c fun vv=>vv.1.2.1,.c fun _=>u1,.p fun vv=>List.length vv.1.2.2=(0:Nat)] (fun kk=>(((0:Int),List.replicate (Int.toNat (↑(List.length u1):Int)) false,[]),big)) (fun z0 =>
 .br
 (.loop (jmT u3 u1 r (Prod.snd z0)) (fun kk=>(Prod.fst z0,kk,0,big)) fun z1 =>
 .br
 (.ob (.ob (.brB
 (.call (.brB
 (.exit (.brB
 (.exit (.obT (.obT (.bad (False)))))
 (.ob (.ob (.ob (.next))))))
 (.next)))
 (.next))))
 (.exit (.exit (.obT (.obT (.bad (False)))))))
 (.exit (.obT (.obT (.rc))))) (fun _=>⟨rfl,trivial⟩)
def jwt (u3:ByteArray) (u1:List (List NC)) (r:ByteArray × List Int × Int):Sk (top r) (jbI u3 u1) :=
 .call (.brB
 (.obT (.obT (.bad (False))))
 (.ob (juw u3 u1 r)))
theorem jux (u3:ByteArray) (u1:List (List NC)) (r:ByteArray × List Int × Int) (h:Option.bind (jbI u3 u1) some=some r):ja0 Tryz.f80 ((sp_18 (sp_85 sp0))) (fun gs id _=>match id with
 |0=>some ⟨(Int × List Bool × List Int) × Nat,fun z=>⟨[(1,.w (.c (.p 1 0 1 0))),(6,.w (.c (.p 2 0 1 0))),(7,.w (.c (.o 3))),(27,.w (.c (.d (.i .i64 ((↑(List.length u1):Int)))))),(28,.w (.c (.d (.i .i64 (Prod.fst (Prod.fst z))))))],[(1,.box 24 [.d (.s u3),.o 0]),(2,.box 130 [.d (.s u3),.o 0,.o 4]),(3,.row 4 (.bools (Prod.fst (Prod.snd (Prod.fst z))))),(0,.xext (XC.st [NK.s,NK.i .i64,NK.ints .i64,NK.ints .i64,NK.ints .i64,NK.i .i64,NK.recs (5:Nat),NK.i .i64] u1)),(4,.row 3 (.ints .i64 (Prod.snd (Prod.snd (Prod.fst z)))))],5⟩,fun z=>(jhV u3 u1 r).inv z,fun z=>Prod.snd z⟩
 |2=>some ⟨(Int × List Bool × List Int) × Nat × Int × Nat,fun z=>⟨[(1,.w (.c (.p 1 0 1 0))),(6,.w (.c (.p 2 0 1 0))),(7,.w (.c (.o 3))),(8,.w (.c (.d (.i .i64 (-1:Int))))),(27,.w (.c (.d (.i .i64 ((↑(List.length u1):Int)))))),(28,.w (.c (.d (.i .i64 ((Prod.fst z).1))))),(32,.w (.c (.d (.i .i64 ((↑(List.length u1):Int)))))),(33,.w (.c (.d (.i .i64 (Prod.fst (Prod.snd (Prod.snd z)))))))],[(1,.box 24 [.d (.s u3),.o 0]),(2,.box 130 [.d (.s u3),.o 0,.o 4]),(3,.row 4 (.bools ((Prod.fst z).2.1))),(0,.xext (XC.st [NK.s,NK.i .i64,NK.ints .i64,NK.ints .i64,NK.ints .i64,NK.i .i64,NK.recs (5:Nat),NK.i .i64] u1)),(4,.row 3 (.ints .i64 ((Prod.fst z).2.2)))],5⟩,fun z=>(jmT u3 u1 r (gs.getD 0 0)).inv z,fun z=>Prod.snd (Prod.snd (Prod.snd z))⟩
 |_=>none) (jaV jgL [.d (.s u3),.x (.st [.s,.i .i64,.ints .i64,.ints .i64,.ints .i64,.i .i64,.recs 5,.i .i64] u1)]) [.c (.box 130 [.d (.s r.1),.g 0,.row 3 (.ints .i64 r.2.1)]),.c (.d (.i .i64 r.2.2))] :=
 Sk.vc (jwt u3 u1 r) (by kernel_rfl) h
theorem jxS:jaf Tryz.prog 80 true (jag jgL jsV):=by
 refine jav (sp:=(sp_18 (sp_85 sp0))) (fn:=Tryz.f80) (body:=bodyOf Tryz.f80) mixed (sp_18_ok (sp_85_ok jar)) Tryz.func80 (by kernel_rfl) (by kernel_rfl) fun ls t h ho b hb=>?_
 unfold jsV at h
 split at h
 ·rename_i u3 u1
  cases h
  obtain rfl:=jaE hb
  refine jBk (Q:=fun rs=>_∧∃fuel loops,sx _ _ _ _ fuel loops _ _ _ _ _ (jdR _ _ fun v hp _=>jkS _ rs v hp)) (fun _ ho=>⟨Nat.le_of_ble_eq_true (by kernel_rfl),_,_,juv u3 u1 _ (jal ho)⟩) (fun _ ho=>?_) ho
  exact⟨Nat.le_of_ble_eq_true (by kernel_rfl),_,_,jux u3 u1 _ (jal ho)⟩
 ·cases h
end Go.Sh
end

section
namespace Go.Sh
open Go Go.Proofs Go.RowKit Go.Sx
theorem jpV {g:List (List NC)} {i:Nat} (h:jbw g i=0):(∀x∈nL g i 2,0≤x∧x<(g.length:Int))∧(nI g i 7=-1∨(0≤nI g i 7∧nI g i 7<(g.length:Int))):=by
 have hm:jdL g.length (nL g i 2)=false:=by
  cases hb:jdL g.length (nL g i 2)with
  |false=>rfl
  |true =>
   exfalso
   unfold jbw at h
   rw[if_pos hb]at h
   repeat' split at h
   all_goals exact absurd h (by decide)
 have hs:sdB g.length (nI g i 7)=true:=by
  cases hb:sdB g.length (nI g i 7)with
  |true=>rfl
  |false =>
   exfalso
   unfold jbw at h
   rw[hm,if_neg (by simp:¬(false=true)),hb,if_pos (by simp:(!false)=true)]at h
   repeat' split at h
   all_goals exact absurd h (by decide)
 refine⟨fun x hx=>?_,?_⟩
 ·have:=List.any_eq_false.1 hm x hx
  simp only[inB,Bool.not_eq_true,Bool.not_eq_false',Bool.and_eq_true,decide_eq_true_eq]at this
  omega
 ·unfold sdB inB at hs
  simp only[Bool.or_eq_true,beq_iff_eq,Bool.and_eq_true,decide_eq_true_eq]at hs
  omega
def jaU (out:List Int) (k:Nat):Bool:=out.any (·== (k:Int))
def jdM (g:List (List NC)) (i k:Nat):Bool:=(nL g i 2).any (·== (k:Int))||nI g i 7==(k:Int)
def jdl (g:List (List NC)) (out:List Int) (i:Nat):Bool:=!(List.range g.length).any fun k=>jdM g i k && !jaU out k
def jdZ (g:List (List NC)) (out:List Int) (i:Nat):Bool:=!jaU out i&&jdl g out i
def jbC (g:List (List NC)) (out:List Int):Option Nat:=(List.range g.length).find? (jdZ g out)
def jbf (n:Nat) (out:List Int):List Bool:=(List.range n).map (jaU out)
theorem jqu {g:List (List NC)} (hw:Fw g) {i:Nat} (hi:i<g.length) (k:Nat) (nm:ByteArray) (a:Int) (b c:List Int) (d:Int) (e:List (List Int)):jdf nm a (nL g i 2) b c d e (nI g i 7) (k:Int)=some (jdM g i k):=by
 have h2:=hw.fr i hi
 unfold jdf jdM
 rw[jdj _ _ (by omega),jad]
 cases (nL g i 2).any (·== (k:Int))<;>rfl
theorem jxT {g:List (List NC)} (hw:Fw g) (nm:ByteArray) {i:Nat} (hi:i<g.length) (out:List Int) (ho:out.length<1000):jdg nm g out (i:Int)=some (jdl g out i):=by
 have hn:=hw.n
 unfold jdg
 have key:=jcj (body:=y91 g out (i:Int)) g.length (fun k=>jdM g i k && !jaU out k) (.inl ()) (.inr ()) (by omega) (fun k hk hp=>by
   simp only[Bool.and_eq_true,Bool.not_eq_true']at hp
   unfold y91
   simp only[Int.toNat_natCast]
   rw[if_pos (by omega),if_pos (by omega),if_pos hi,jqu hw hi,jad,if_pos hp.1,jdj _ _ (by omega),jad]
   have h2:(out.any (·== (k:Int)))=false:=hp.2
   rw[h2]
   rfl) (fun k hk hp=>by
   unfold y91
   simp only[Int.toNat_natCast]
   rw[if_pos (by omega),if_pos (by omega),if_pos hi,jqu hw hi,jad]
   cases h1:jdM g i k with
   |false=>rw[if_neg (by simp),jaO (by omega)]
   |true =>
    rw[h1]at hp
    have h2:jaU out k=true:=by simpa using hp
    have h2:(out.any (·== (k:Int)))=true:=h2
    rw[if_pos rfl,jdj _ _ (by omega),jad,h2,jaO (by omega)]
    rfl) (by
   unfold y91
   rw[if_neg (by omega)])
 rw[key]
 unfold jdl
 cases (List.range g.length).any (fun k=>jdM g i k && !jaU out k)<;>rfl
theorem jf9 (n:Nat) (out:List Int):(jbf n out).length=n:=by simp[jbf]
theorem jga {n k:Nat} (hk:k<n) (out:List Int):(jbf n out).getD k false=jaU out k:=by simp[jbf,List.getD,hk]
theorem jwu {n i:Nat} (hi:i<n) (out:List Int):(jbf n out).set i true=jbf n (out++[(i:Int)]):=by
 refine List.ext_getElem (by simp[jbf]) fun k h1 h2=>?_
 have hk:k<n:=by simpa [jbf]using h2
 rw[List.getElem_set]
 simp only[jbf,List.getElem_map,List.getElem_range,jaU,List.any_append,List.any_cons,List.any_nil,Bool.or_false]
 by_cases h:i=k
 ·subst h; simp
 ·rw[if_neg h]
  have:((i:Int)==(k:Int))=false:=by simp; omega
  rw[this,Bool.or_false]
theorem jqv {g:List (List NC)} (hw:Fw g) {i:Nat} (hi:i<g.length) (hr:jbw g i=0) (out:List Int):jcS g (i:Int) (jbf g.length out)=some (jdl g out i):=by
 have h2:=hw.fr i hi
 obtain⟨r1,r2⟩:=jpV hr
 have hmem:∀x,x∈Sx09.needL (nL g i 2) (nI g i 7)↔(x∈nL g i 2∨(nI g i 7≠-1∧x=nI g i 7)):=fun x=>by
  unfold Sx09.needL
  split
  ·rename_i h; simp[h]
  ·rename_i h; simp[h]
 have hrg:∀x∈Sx09.needL (nL g i 2) (nI g i 7),0≤x∧x<(g.length:Int):=fun x hx=>by
  rcases(hmem x).1 hx with h|⟨h,rfl⟩
  ·exact r1 x h
  ·exact r2.resolve_left h
 unfold jcS
 simp only[Int.toNat_natCast]
 rw[if_pos (by omega),if_pos ⟨by omega,by
  rw[List.all_eq_true]
  intro x hx
  rw[jf9]
  simpa using hrg x hx⟩]
 congr 1
 rw[Bool.eq_iff_iff]
 unfold Sx09.readyB jdl
 rw[List.all_eq_true,Bool.not_eq_true',List.any_eq_false]
 constructor
 ·intro h k hk
  have hk:k<g.length:=List.mem_range.1 hk
  simp only[Bool.and_eq_true,Bool.not_eq_true',not_and,Bool.not_eq_false]
  intro hn
  have hx:(k:Int)∈Sx09.needL (nL g i 2) (nI g i 7):=by
   rw[hmem]
   unfold jdM at hn
   rw[Bool.or_eq_true,List.any_eq_true]at hn
   rcases hn with ⟨x,hx,e⟩|e
   ·have:x=(k:Int):=by simpa using e
    subst this; exact .inl hx
   ·have:nI g i 7=(k:Int):=by simpa using e
    exact .inr ⟨by omega,this.symm⟩
  have:=h _ hx
  rwa [Int.toNat_natCast,jga hk]at this
 ·intro h x hx
  obtain⟨h0,h1⟩:=hrg x hx
  obtain⟨k,rfl⟩:∃k:Nat,x=(k:Int):=⟨x.toNat,by omega⟩
  have hk:k<g.length:=by omega
  rw[Int.toNat_natCast,jga hk]
  have:=h k (List.mem_range.2 hk)
  simp only[Bool.and_eq_true,Bool.not_eq_true',not_and,Bool.not_eq_false]at this
  refine this ?_
  unfold jdM
  rw[Bool.or_eq_true,List.any_eq_true]
  rcases(hmem _).1 hx with h|⟨h,e⟩
  ·exact .inl ⟨_,h,by simp⟩
  ·exact .inr (by simp[←e])
theorem jzp (P:Nat→Bool) (l:List Nat):(l.findIdx? P).map (fun i=>l.getD i 0)=l.find? P:=by
 induction l with
 |nil=>rfl
 |cons x r ih =>
  rw[List.findIdx?_cons,List.find?_cons]
  cases P x with
  |true=>rfl
  |false =>
   rw[←ih]
   cases r.findIdx? P<;>rfl
theorem jxU {Y:Type} (n:Nat) (P:Nat→Bool) {body:Int→Option (Int ⊕ Y)} (hit:Nat→Y) (miss:Y) (hlen:n<9223372036854775807)
  (h1:∀i,i<n→P i=true→body (i:Int)=some (.inr (hit i)))
  (h2:∀i,i<n→P i=false→body (i:Int)=some (.inl ((i:Int)+1))) (h3:body (n:Int)=some (.inr miss)) :
  jah body big 0=some (match(List.range n).find? P with|some i=>hit i|none=>miss):=by
 have hg:∀i,i<n→(List.range n).getD i 0=i:=fun i hi=>by simp[List.getD,hi]
 have key:=jbv (body:=body) (List.range n) 0 P hit miss (by simpa using hlen) (fun i hi hp=>by
   have hi:i<n:=by simpa using hi
   rw[hg i hi]at hp; exact h1 i hi hp) (fun i hi hp=>by
   have hi:i<n:=by simpa using hi
   rw[hg i hi]at hp; exact h2 i hi hp) (by simpa using h3)
 rw[key,←jzp]
 cases h:(List.range n).findIdx? P with
 |none=>rfl
 |some i =>
  show some (hit i)=some (hit ((List.range n).getD i 0))
  rw[hg i (joL h)]
def jdz (next:List Int→Option Nat):Nat→List Int→Option (List Int)
 |0,out=>some out
 |k+1,out=>match next out with
  |some i=>jdz next k (out++[(i:Int)])
  |none=>none
theorem jnq {X Y:Type} {body:X→Option (X ⊕ Y)} (F:List Int→X) (next:List Int→Option Nat) (good:List Int→Y) (bad:Y) (n:Nat)
  (h1:∀out,out.length<n→body (F out)=some (match next out with|some i=>.inl (F (out++[(i:Int)]))|none=>.inr bad)) (h2:∀out,out.length=n→body (F out)=some (.inr (good out))) :
  ∀(k:Nat) (out:List Int) (N:Nat),out.length+k=n→k<N→jah body N (F out)=some (match jdz next k out with|some l=>good l|none=>bad)
 |0,out,0,_,h=>by omega
 |0,out,N+1,ho,_=>by
  unfold jah
  rw[h2 out (by omega)]
  rfl
 |k+1,out,0,_,h=>by omega
 |k+1,out,N+1,ho,hN=>by
  unfold jah
  rw[h1 out (by omega)]
  unfold jdz
  cases hx:next out with
  |none=>rfl
  |some i=>exact jnq F next good bad n h1 h2 k (out++[(i:Int)]) N (by simp; omega) (by omega)
end Go.Sh
end

section
open Go.RowKit
namespace Go.Sx
def nzI (e:Int):Int:=Int.ofNat (e.toNat-1+1)
theorem jBA {e:Int} (h:0<e):nzI e=e:=by
 unfold nzI
 rw[Int.ofNat_eq_natCast]
 omega
theorem jxV [Globs] {P:Program} {f:Nat} {shs:List SV} {g g':List Lf→Option GT} (h:∀ls t',g' ls=some t'→∃t,g ls=some t∧(t'.sel.1→t.sel.1∧t.sel.2=t'.sel.2)) (hS:jaf P f true (jag shs g)):jaf P f true (jag shs g'):=by
 have key:∀args hp nx t',jag shs g' args hp nx=some t'→t'.sel.ob→∃t,jag shs g args hp nx=some t∧t.sel.ob∧t.sel.v=t'.sel.v∧t.sel.hp=t'.sel.hp∧t.sel.nx=t'.sel.nx:=by
  intro args hp nx t' ht hob
  unfold jag at ht ⊢
  split at ht
  ·rename_i ls am hto
   split at ht
   ·rename_i q' hg
    cases ht
    obtain⟨q,hq,himp⟩:=h ls q' hg
    rw[jbu]at hob ⊢
    obtain⟨h1,h2⟩:=himp hob
    refine⟨q.toRT am hp nx,by simp only[hq],?_,?_,?_,?_⟩
    ·rw[jbu]; exact h1
    all_goals rw[jbu]; simp only[h2]
   ·cases ht
  ·cases ht
 rcases hS with hR|hV
 ·refine .inl ⟨hR.enter,fun ρ B w args hp nx t' ht hob hlt hh hB=>?_⟩
  obtain⟨t,q1,q2,q3,q4,q5⟩:=key args hp nx t' ht hob
  refine(hR.sound ρ B w args hp nx t q1 q2 hlt hh hB).mono ?_
  rintro e w' ⟨ρ',he,hl⟩
  refine⟨ρ',by rw[he,q3],hl.agree,by rw[←q3,←q5]; exact hl.lt,by rw[←q5]; exact hl.le,by rw[←q4,←q5]; exact hl.heap,hl.below,hl.mono,by rw[←q4]; exact hl.fresh⟩
 ·refine .inr fun ρ B w args hp nx t' ht hob hlt hh hB=>?_
  obtain⟨t,q1,q2,q3,q4,q5⟩:=key args hp nx t' ht hob
  obtain⟨ob,v,e1,e2,e3⟩:=hV ρ B w args hp nx t q1 q2 hlt hh hB
  rw[e1]at q3 q4 q5
  refine⟨t'.sel.ob,v,?_,e2,e3⟩
  cases hs:t'.sel with
  |mk ob' v' hp' nx' =>
   rw[hs]at q3 q4 q5
   simp only at q3 q4 q5
   rw[←q3,←q4,←q5]
end Go.Sx
namespace Go.Sh
open Go Go.Proofs Go.RowKit Go.Sx
def jdu (gName:ByteArray) (gUnits:List (List NC)):Option Int:=(ja9 gName gUnits).bind fun e=>if 0<e then some e else none
def jdN (gName:ByteArray) (gUnits:List (List NC)):Option (List Int):=(jbI gName gUnits).map fun r=>r.2.1
def jhk (gName:ByteArray) (gUnits:List (List NC)):Bool:=(ja9 gName gUnits).isSome
def jlp:List Lf→Option GT
 |[.d (.s gName),.x (.st [.s,.i .i64,.ints .i64,.ints .i64,.ints .i64,.i .i64,.recs 5,.i .i64] gUnits)]=>some (.br (jhk gName gUnits) (.leaf (ok (jdu gName gUnits)) [.c (.d (.v (Value.pointer none))),.c (.d (.i .i64 (nzI (val (jdu gName gUnits)))))]) (.leaf (ok (jdN gName gUnits)) [.c (.box 130 [.d (.s gName),.g 0,.row 3 (.ints .i64 (val (jdN gName gUnits)))]),.c (.d (.i .i64 0))]))
 |_=>none
theorem jxW {gName:ByteArray} {gUnits:List (List NC)} {r:ByteArray × List Int × Int} (h:jbI gName gUnits=some r):r.1=gName∧r.2.2=0:=by
 unfold jbI at h
 obtain⟨c,_,h⟩:=Option.bind_eq_some_iff.1 h
 split at h
 ·cases h
 ·split at h
  ·obtain⟨y,_,h⟩:=Option.bind_eq_some_iff.1 h
   cases y with
   |inl u=>cases h
   |inr l=>cases h; exact⟨rfl,rfl⟩
  ·cases h
theorem jwv:jaf Tryz.prog 80 true (jag jgL jlp):=by
 refine jxV (fun ls t' h=>?_) jxS
 unfold jlp at h
 split at h
 ·rename_i gName gUnits
  cases h
  refine⟨_,rfl,fun hob=>?_⟩
  unfold jhk at hob ⊢
  cases hq:(ja9 gName gUnits).isSome with
  |true =>
   rw[hq]at hob
   have hob:ok (jdu gName gUnits):=hob
   obtain⟨e,he⟩:=Option.isSome_iff_exists.1 hq
   have hF:jdu gName gUnits=if 0<e then some e else none:=by unfold jdu; rw[he]; rfl
   have hpos:0<e:=by
    rw[hF]at hob
    by_cases h0:0<e
    ·exact h0
    ·rw[if_neg h0]at hob; cases hob
   rw[if_pos hpos]at hF
   refine⟨hq,?_⟩
   show[RR.c (.d (.v (Value.pointer none))),RR.c (.d (.i .i64 (val (ja9 gName gUnits))))]=[RR.c (.d (.v (Value.pointer none))),RR.c (.d (.i .i64 (nzI (val (jdu gName gUnits)))))]
   rw[jot he,jot hF,jBA hpos]
  |false =>
   rw[hq]at hob
   have hob:ok (jdN gName gUnits):=hob
   cases he:jbI gName gUnits with
   |none=>unfold jdN at hob; rw[he]at hob; cases hob
   |some r =>
    have hS:jdN gName gUnits=some r.2.1:=by unfold jdN; rw[he]; rfl
    obtain⟨q1,q2⟩:=jxW he
    refine⟨rfl,?_⟩
    show[RR.c (.box 130 [.d (.s r.1),.g 0,.row 3 (.ints .i64 r.2.1)]),RR.c (.d (.i .i64 r.2.2))]=[RR.c (.box 130 [.d (.s gName),.g 0,.row 3 (.ints .i64 (val (jdN gName gUnits)))]),RR.c (.d (.i .i64 0))]
    rw[jot hS,q1,q2]
 ·cases h
abbrev sp_80:jaa→jaa:=jaB 80 true (jag jgL jlp)
theorem sp_80_ok {sp:jaa} (h:jac Tryz.prog sp):jac Tryz.prog (sp_80 sp):=jan jwv h
end Go.Sh
end

section
namespace Go.Sh
open Go Go.Proofs Go.RowKit Go.Sx
end Go.Sh
end

section
namespace Go.Sh
open Go Go.Proofs Go.RowKit Go.Sx
open Go.IntKind (wrap)
theorem jvd {g:List (List NC)} {out:List Int} {i:Nat} (h:jbC g out=some i):i<g.length∧jdZ g out i=true :=
 ⟨List.mem_range.1 (List.mem_of_find?_eq_some h),List.find?_some h⟩
def jgb (P:Nat→Bool) (n k:Nat):Int:=match(List.range' (n-k) k).find? P with
 |some i=>(i:Int)
 |none=>-1
theorem jww (P:Nat→Bool) {n k:Nat} (hk:k<n):jgb P n (k+1)=if P (n-1-k)=true then((n-1-k:Nat):Int)else jgb P n k:=by
 unfold jgb
 have e:n-(k+1)=n-1-k:=by omega
 rw[List.range'_succ,e,List.find?_cons]
 have e2:n-1-k+1=n-k:=by omega
 rw[e2]
 cases P (n-1-k)<;>rfl
theorem jxX (P:Nat→Bool) (n:Nat):jgb P n n=match(List.range n).find? P with|some i=>(i:Int)|none=>-1:=by
 unfold jgb
 rw[Nat.sub_self,←List.range_eq_range']
def jl7 (g:List (List NC)) (out:List Int):Int:=match jbC g out with
 |some i=>(i:Int)
 |none=>-1
theorem jxY {g:List (List NC)} (hw:Fw g) (nm:ByteArray) (out:List Int) (ho:out.length<1000):jah (y81 nm g out) big (-1,wrap IntKind.i64 ((g.length:Int)-1))=some (jl7 g out):=by
 have hn:=hw.n
 have key:=jdd (body:=y81 nm g out) (fun k=>(jgb (jdZ g out) g.length k,(g.length:Int)-1-(k:Int))) (y:=jl7 g out) (k:=g.length) (fun k hk=>by
   unfold y81
   obtain⟨j,hj⟩:∃j:Nat,(g.length:Int)-1-(k:Int)=(j:Int):=⟨g.length-1-k,by omega⟩
   have hjn:j=g.length-1-k:=by omega
   have hjl:j<g.length:=by omega
   rw[hj,if_pos (by omega),jdj _ _ (by omega),jad,jxT hw nm hjl out ho]
   have hs:=jww (jdZ g out) hk
   rw[←hjn]at hs
   have he:(g.length:Int)-1-((k+1:Nat):Int)=(j:Int)-1:=by omega
   rw[he,hs,jaO (by omega)]
   have hc:jdZ g out j=(!(out.any (·== (j:Int)))&&jdl g out j):=rfl
   rw[hc]
   cases out.any (·== (j:Int))with
   |true=>rfl
   |false =>
    cases jdl g out j<;>rfl) (by
   unfold y81
   rw[if_neg (by show ¬((g.length:Int)-1-(g.length:Int)≥0); omega)]
   show some (Sum.inr (jgb (jdZ g out) g.length g.length))=_
   rw[jxX]
   rfl) (by omega)
 have e0:jgb (jdZ g out) g.length 0=-1:=rfl
 have key:jah (y81 nm g out) big (jgb (jdZ g out) g.length 0,(g.length:Int)-1-((0:Nat):Int))=some (jl7 g out):=key
 rw[e0]at key
 rw[jaO (by omega)]
 have e1:(g.length:Int)-1-((0:Nat):Int)=(g.length:Int)-1:=by omega
 rw[e1]at key
 exact key
theorem jxZ {g:List (List NC)} (hw:Fw g) (nm:ByteArray):y98 nm g=some (match jdz (jbC g) g.length []with|some l=>(l,true)|none=>([],false)):=by
 have hn:=hw.n
 unfold y98
 have key:=jnq (body:=y92 nm g) (fun out=>out) (jbC g) (fun l=>.inr l) (.inl ()) g.length (fun out ho=>by
   unfold y92
   rw[if_pos (by omega),jxY hw nm out (by omega),jad]
   unfold jgE jl7
   cases hx:jbC g out with
   |none=>rfl
   |some i =>
    show(if(i:Int)<0 then _ else _)=_
    rw[if_neg (by omega),if_pos (by simp only[List.length_cons,List.length_nil]; omega)]) (fun out ho=>by
   unfold y92
   rw[if_neg (by omega)]) g.length [] big (by simp) (by have:big=18446744073709551616:=rfl; omega)
 rw[key]
 cases jdz (jbC g) g.length []<;>rfl
theorem jwx (n:Nat):jbf n []=List.replicate n false:=by
 refine List.ext_getElem (by simp[jbf]) fun k h1 h2=>?_
 simp[jbf,jaU]
theorem jx0 {g:List (List NC)} (hw:Fw g) (hall:∀i,i<g.length→jbw g i=0) (out:List Int) (k:Int):jah (jcn g (k,jbf g.length out,out)) big 0=some (jl7 g out):=by
 have hn:=hw.n
 have key:=jxU (body:=jcn g (k,jbf g.length out,out)) g.length (jdZ g out) (fun i=>(i:Int)) (-1) (by omega) (fun i hi hp=>by
   unfold jcn
   simp only[Int.toNat_natCast,jf9]
   unfold jdZ at hp
   rw[Bool.and_eq_true]at hp
   rw[if_pos (by omega),if_pos (by omega),if_pos hi,jga hi,if_pos hp.1,jqv hw hi (hall i hi),jad,if_pos hp.2]) (fun i hi hp=>by
   unfold jcn
   simp only[Int.toNat_natCast,jf9]
   unfold jdZ at hp
   rw[if_pos (by omega),if_pos (by omega),if_pos hi,jga hi]
   cases hh:jaU out i with
   |true=>rw[if_neg (by simp),jaO (by omega)]
   |false =>
    rw[hh]at hp
    have hr:jdl g out i=false:=by simpa using hp
    rw[if_pos (by rfl),jqv hw hi (hall i hi),jad,hr,if_neg (by simp),jaO (by omega)]) (by
   unfold jcn
   rw[if_neg (by omega)])
 exact key
theorem jsW {g:List (List NC)} (hw:Fw g) (hall:∀i,i<g.length→jbw g i=0):jah (jbY g) big ((0:Int),List.replicate g.length false,[])=some (match jdz (jbC g) g.length []with|some l=>.inr l|none=>.inl ()):=by
 have hn:=hw.n
 have key:=jnq (body:=jbY g) (fun out=>((out.length:Int),jbf g.length out,out)) (jbC g) (fun l=>.inr l) (.inl ()) g.length (fun out ho=>by
   unfold jbY
   rw[if_pos (by show(out.length:Int)<_; omega),jx0 hw hall,jad]
   unfold jhR jl7
   cases hx:jbC g out with
   |none=>rfl
   |some i =>
    have hi:=(jvd hx).1
    have hne:((i:Int) == -1)=false:=by
     rw[beq_eq_false_iff_ne]; omega
    simp only[jf9]
    rw[hne,if_neg (by simp),if_pos (by omega),if_pos (by omega),if_pos (by simp only[List.length_cons,List.length_nil]; omega),jaO (by omega),Int.toNat_natCast,jwu hi]
    simp) (fun out ho=>by
   unfold jbY
   rw[if_neg (by show ¬(out.length:Int)<_; omega)]) g.length [] big (by simp) (by have:big=18446744073709551616:=rfl; omega)
 rw[jwx]at key
 exact key
theorem jlq (next:List Int→Option Nat):∀(k:Nat) (out l:List Int),jdz next k out=some l→out.length+k=l.length∧l.take out.length=out∧∀j,out.length≤j→j<l.length→∃i,next (l.take j)=some i∧l.getD j 0=((i:Nat):Int)
 |0,out,l,h=>by
  cases h
  exact⟨rfl,List.take_length,fun j h1 h2=>by omega⟩
 |k+1,out,l,h=>by
  unfold jdz at h
  cases hx:next out with
  |none=>rw[hx]at h; cases h
  |some i =>
   rw[hx]at h
   obtain⟨h1,h2,h3⟩:=jlq next k (out++[(i:Int)]) l h
   simp only[List.length_append,List.length_cons,List.length_nil]at h1 h2 h3
   have ht:l.take out.length=out:=by
    have:(l.take (out.length+1)).take out.length=out:=by rw[h2]; simp
    rwa [List.take_take,Nat.min_eq_left (by omega)]at this
   refine⟨by omega,ht,fun j hj1 hj2=>?_⟩
   by_cases hj:j=out.length
   ·subst hj
    refine⟨i,by rw[ht]; exact hx,?_⟩
    have hg:(l.take (out.length+1))[out.length]?=some (i:Int):=by rw[h2]; simp
    rw[List.getElem?_take_of_lt (by omega)]at hg
    simp[List.getD,hg]
   ·exact h3 j (by omega) hj2
theorem juy (c:List (List Int)):0≤jcI c:=by
 unfold jcI
 repeat' split
 all_goals omega
theorem juz (g:List (List NC)) (i:Nat):0≤jbw g i:=by
 unfold jbw
 have:=juy (nR g i 6)
 generalize jcI (nR g i 6)=c at *
 repeat' split
 all_goals omega
theorem jx1 (nm:ByteArray) (g:List (List NC)):0≤(cg nm g).2:=by
 rw[jlm]
 unfold cgF
 split
 ·show(0:Int)≤4; omega
 ·split
  ·show(0:Int)≤8; omega
  ·cases (List.range g.length).findIdx? (fun i=>jbw g i != 0)with
   |none=>exact Int.le_refl _
   |some i=>exact juz g i
theorem jpW {nm:ByteArray} {g:List (List NC)} (h:(cg nm g).2=0):∀i,i<g.length→jbw g i=0:=by
 rw[jlm]at h
 unfold cgF at h
 split at h
 ·exact absurd (show(4:Int)=0 from h) (by omega)
 ·split at h
  ·exact absurd (show(8:Int)=0 from h) (by omega)
  ·cases hf:(List.range g.length).findIdx? (fun i=>jbw g i != 0)with
   |none =>
    intro i hi
    rw[List.findIdx?_eq_none_iff]at hf
    simpa using hf i (List.mem_range.2 hi)
   |some i =>
    rw[hf]at h
    have h:jbw g i=0:=h
    rw[List.findIdx?_eq_some_iff_getElem]at hf
    obtain⟨hlt,hp,_⟩:=hf
    simp only[List.getElem_range]at hp
    rw[h]at hp
    exact absurd hp (by decide)
theorem jx2 {n:Nat} (h:n<1000):(0:Int)≤(n:Int)∧(n:Int)=(n:Int)∧((1:Nat):Int)*(n:Int)≤281474976710656∧(n:Int)≤9223372036854775807:=by
 omega
theorem jx3 {g:List (List NC)} (hw:Fw g) {nm:ByteArray} (hs:nm.size<1000) (h:(cg nm g).2≠0):ja9 nm g=some (cg nm g).2:=by
 unfold ja9
 rw[jll hw hs,jad,if_pos (bne_iff_ne.2 h)]
theorem jsX {g:List (List NC)} (hw:Fw g) {nm:ByteArray} (hs:nm.size<1000) (h:(cg nm g).2=0):ja9 nm g=match jdz (jbC g) g.length []with|some _=>none|none=>some 19:=by
 unfold ja9
 rw[jll hw hs,jad,if_neg (by rw[h]; simp),if_pos (jx2 hw.n),Int.toNat_natCast,jsW hw (jpW h),jad]
 cases jdz (jbC g) g.length []<;>rfl
theorem jzq {g:List (List NC)} (hw:Fw g) {nm:ByteArray} (hs:nm.size<1000) (h:(cg nm g).2=0) {l:List Int} (hl:jdz (jbC g) g.length []=some l):jbI nm g=some (nm,l,0):=by
 unfold jbI
 rw[show jfh=jbY from rfl]
 rw[jll hw hs,jad,if_neg (by rw[h]; simp),if_pos (jx2 hw.n),Int.toNat_natCast,jsW hw (jpW h),jad,hl]
 rfl
theorem jve {e:Int} (h:0<e):nzI e=e:=by
 unfold nzI
 show((e.toNat-1+1:Nat):Int)=e
 omega
theorem juA {g:List (List NC)} (hw:Fw g) {nm:ByteArray} (hs:nm.size<1000):y82 nm g=some (if(cg nm g).2≠0 then(cg nm g).2 else match jdz (jbC g) g.length []with|some _=>0|none=>19):=by
 unfold y82
 rw[jxL hw hs,jad]
 by_cases h:(cg nm g).2=0
 ·rw[if_neg (by rw[h]; simp),if_neg (fun hn=>hn h),jxZ hw,jad]
  cases jdz (jbC g) g.length []<;>rfl
 ·rw[if_pos (bne_iff_ne.2 h),if_pos h]
end Go.Sh
end

section
namespace Go.Sh
open Go Go.Proofs Go.RowKit Go.Sx
structure Rg (g:List (List NC)) (l:List Int):Prop where
 fw:Fw g
 ok:∀i,i<g.length→jbw g i=0
 ord:jdz (jbC g) g.length []=some l
variable {g:List (List NC)} {l:List Int}
theorem Rg.n (h:Rg g l):g.length<1000:=h.fw.n
theorem Rg.len (h:Rg g l):l.length=g.length:=by
 have:=(jlq (jbC g) g.length [] l h.ord).1
 simp at this
 omega
theorem Rg.at (h:Rg g l) {j:Nat} (hj:j<g.length):∃i:Nat,i<g.length∧l.getD j 0=(i:Int)∧jaU (l.take j) i=false∧jdl g (l.take j) i=true:=by
 obtain⟨_,_,h3⟩:=jlq (jbC g) g.length [] l h.ord
 obtain⟨i,hx,hi⟩:=h3 j (Nat.zero_le _) (by rw[h.len]; exact hj)
 obtain⟨h1,h2⟩:=jvd hx
 unfold jdZ at h2
 rw[Bool.and_eq_true,Bool.not_eq_true']at h2
 exact⟨i,h1,hi,h2.1,h2.2⟩
theorem jsY {out:List Int} {k:Nat}:jaU out k=true↔∃j,j<out.length∧out.getD j 0=(k:Int):=by
 unfold jaU
 rw[List.any_eq_true]
 constructor
 ·rintro ⟨x,hx,he⟩
  obtain⟨j,hj,e⟩:=List.mem_iff_getElem.1 hx
  exact⟨j,hj,by simp only[List.getD,List.getElem?_eq_getElem hj,Option.getD_some,e]; simpa using he⟩
 ·rintro ⟨j,hj,e⟩
  refine⟨out[j],List.getElem_mem hj,?_⟩
  simp only[List.getD,List.getElem?_eq_getElem hj,Option.getD_some]at e
  simpa using e
theorem jlr {α:Type} (l:List α) (d:α) {j k:Nat} (h:j<k):(l.take k).getD j d=l.getD j d:=by
 simp only[List.getD,List.getElem?_take_of_lt h]
theorem Rg.before (h:Rg g l) {j i u:Nat} (hj:j<g.length) (hi:l.getD j 0=(i:Int)) (hu:u<g.length) (hn:jdM g i u=true):∃j',j'<j∧l.getD j' 0=(u:Int):=by
 obtain⟨i',_,h2,_,h4⟩:=h.at hj
 rw[hi]at h2
 obtain rfl:i=i':=by omega
 unfold jdl at h4
 rw[Bool.not_eq_true',List.any_eq_false]at h4
 have:=h4 u (List.mem_range.2 hu)
 rw[hn,Bool.true_and,Bool.not_eq_true,Bool.not_eq_false',jsY]at this
 obtain⟨j',h5,h6⟩:=this
 have hlt:j'<j:=by simp at h5; omega
 exact⟨j',hlt,by rw[jlr _ _ hlt]at h6; exact h6⟩
theorem Rg.lt_ne (h:Rg g l) {j j':Nat} (hj:j<g.length) (hl:j'<j):l.getD j' 0≠l.getD j 0:=fun e=>by
 obtain⟨i,_,h2,h3,_⟩:=h.at hj
 have:jaU (l.take j) i=true:=jsY.2 ⟨j',by have:=h.len; simp; omega,by rw[jlr _ _ hl,e,h2]⟩
 rw[h3]at this
 cases this
theorem pig:∀(n:Nat) (l:List Nat),l.Nodup→(∀x∈l,x<n)→l.length≤n
 |0,[],_,_=>Nat.le_refl _
 |0,x::l,_,h=>absurd (h x List.mem_cons_self) (by omega)
 |n+1,l,hd,h=>by
  have h1:=pig n (l.erase n) (hd.erase n) (fun x hx=>by
   rw[hd.mem_erase_iff]at hx
   have:=h x hx.2
   omega)
  rw[List.length_erase]at h1
  split at h1<;>omega
theorem Rg.surj (h:Rg g l) {i:Nat} (hi:i<g.length):∃j,j<g.length∧l.getD j 0=(i:Int):=by
 apply Classical.byContradiction
 intro hno
 have hL:=h.len
 have hget:∀j (hj:j<l.length),l[j]=l.getD j 0:=fun j hj=>by simp[List.getD,hj]
 have hnd:(l.map Int.toNat).Nodup:=by
  unfold List.Nodup
  rw[List.pairwise_map,List.pairwise_iff_getElem]
  intro a b ha hb hab e
  obtain⟨x,_,hx,_⟩:=h.at (j:=a) (by omega)
  obtain⟨y,_,hy,_⟩:=h.at (j:=b) (by omega)
  rw[hget a ha,hget b hb,hx,hy]at e
  refine h.lt_ne (j:=b) (by omega) hab ?_
  rw[hx,hy]
  simp only[Int.toNat_natCast]at e
  rw[e]
 have hm:∀x∈l.map Int.toNat,∃j,j<g.length∧l.getD j 0=(x:Int)∧x<g.length:=by
  intro x hx
  obtain⟨y,hy,rfl⟩:=List.mem_map.1 hx
  obtain⟨j,hj,e⟩:=List.mem_iff_getElem.1 hy
  obtain⟨z,hz,hz2,_⟩:=h.at (j:=j) (by omega)
  rw[hget j hj,hz2]at e
  subst e
  exact⟨j,by omega,by rw[hz2]; simp,by simpa using hz⟩
 have:=pig g.length (i::l.map Int.toNat) (List.nodup_cons.2 ⟨fun hx=>by
  obtain⟨j,h1,h2,_⟩:=hm i hx
  exact hno ⟨j,h1,h2⟩,hnd⟩) (fun x hx=>by
   rcases List.mem_cons.1 hx with rfl|hx
   ·exact hi
   ·exact(hm x hx).choose_spec.2.2)
 simp at this
 omega
theorem Rg.stand (h:Rg g l) {j i:Nat} (hj:j<g.length) (hi:l.getD j 0=(i:Int)) (hi2:i<g.length):nI g i 7=-1∨∃j' u:Nat,j'<j∧u<g.length∧nI g i 7=(u:Int)∧l.getD j' 0=(u:Int):=by
 rcases(jpV (h.ok i hi2)).2 with h1|⟨h1,h2⟩
 ·exact .inl h1
 ·refine .inr ?_
  obtain⟨u,hu⟩:∃u:Nat,nI g i 7=(u:Int):=⟨(nI g i 7).toNat,by omega⟩
  obtain⟨j',h3,h4⟩:=h.before (u:=u) hj hi (by omega) (by unfold jdM; simp[hu])
  exact⟨j',u,h3,by omega,hu,h4⟩
theorem Rg.from (h:Rg g l) {j i k:Nat} (hj:j<g.length) (hi:l.getD j 0=(i:Int)) (hi2:i<g.length) (hk:k<(nL g i 2).length):∃j' u:Nat,j'<j∧u<g.length∧(nL g i 2).getD k 0=(u:Int)∧l.getD j' 0=(u:Int):=by
 have hm:(nL g i 2).getD k 0∈nL g i 2:=by simp[List.getD,hk]
 obtain⟨h1,h2⟩:=(jpV (h.ok i hi2)).1 _ hm
 obtain⟨u,hu⟩:∃u:Nat,(nL g i 2).getD k 0=(u:Int):=⟨((nL g i 2).getD k 0).toNat,by omega⟩
 obtain⟨j',h3,h4⟩:=h.before (u:=u) hj hi (by omega) (by
  unfold jdM
  rw[Bool.or_eq_true]
  exact .inl (List.any_eq_true.2 ⟨_,hm,by rw[hu]; simp⟩))
 exact⟨j',u,h3,by omega,hu,h4⟩
def stF (st:Nat→Int) (fb:Nat→Bool):Nat→Int→Int
 |0,u=>u
 |k+1,u=>if 0≤u∧fb u.toNat=true then stF st fb k (st u.toNat)else u
def jcT (g:List (List NC)) (fb:Nat→Bool) (u:Int):Int:=stF (fun i=>nI g i 7) fb g.length u
theorem jpX (st:Nat→Int) (fb:Nat→Bool):∀k,stF st fb k (-1)=-1
 |0=>rfl
 |k+1=>by unfold stF; rw[if_neg (by omega)]
theorem jsZ (h:Rg g l) (fb:Nat→Bool):∀j,j<g.length→∀k,j<k→stF (fun i=>nI g i 7) fb k (l.getD j 0)=stF (fun i=>nI g i 7) fb (j+1) (l.getD j 0):=by
 intro j
 induction j using Nat.strongRecOn with
 |_ j ih =>
  intro hj k hk
  obtain⟨i,hi,e,_⟩:=h.at hj
  obtain⟨m,rfl⟩:∃m,k=m+1:=⟨k-1,by omega⟩
  rw[e]
  unfold stF
  by_cases hf:fb i=true
  ·rw[if_pos ⟨by omega,by simpa using hf⟩,if_pos ⟨by omega,by simpa using hf⟩,Int.toNat_natCast]
   rcases h.stand hj e hi with h1|⟨j',u,h1,h2,h3,h4⟩
   ·rw[h1,jpX,jpX]
   ·rw[h3,←h4,ih j' h1 (by omega) m (by omega),ih j' h1 (by omega) j (by omega)]
  ·rw[if_neg (fun hn=>hf (by simpa using hn.2)),if_neg (fun hn=>hf (by simpa using hn.2))]
theorem js0 (h:Rg g l) (fb:Nat→Bool) {j i:Nat} (hj:j<g.length) (hi:l.getD j 0=(i:Int)) (hi2:i<g.length):jcT g fb (i:Int)=if fb i=true then(if nI g i 7=-1 then -1 else jcT g fb (nI g i 7))else(i:Int):=by
 unfold jcT
 obtain⟨m,hm⟩:∃m,g.length=m+1:=⟨g.length-1,by omega⟩
 rw[hm]
 conv=>lhs; unfold stF
 by_cases hf:fb i=true
 ·rw[if_pos ⟨by omega,by simpa using hf⟩,if_pos hf,Int.toNat_natCast]
  rcases h.stand hj hi hi2 with h1|⟨j',u,h1,h2,h3,h4⟩
  ·rw[h1,jpX,if_pos rfl]
  ·rw[if_neg (by omega),h3,←h4,jsZ h fb j' (by omega) m (by omega),jsZ h fb j' (by omega) (m+1) (by omega)]
 ·rw[if_neg (fun hn=>hf (by simpa using hn.2)),if_neg hf]
theorem jAX (h:Rg g l) (fb:Nat→Bool):∀j,j<g.length→jcT g fb (l.getD j 0)=-1∨∃j' i:Nat,j'≤j∧i<g.length∧l.getD j' 0=(i:Int)∧jcT g fb (l.getD j 0)=(i:Int)∧fb i=false:=by
 intro j
 induction j using Nat.strongRecOn with
 |_ j ih =>
  intro hj
  obtain⟨i,hi,e,_⟩:=h.at hj
  rw[e,js0 h fb hj e hi]
  by_cases hf:fb i=true
  ·rw[if_pos hf]
   rcases h.stand hj e hi with h1|⟨j',u,h1,h2,h3,h4⟩
   ·rw[if_pos h1]; exact .inl rfl
   ·rw[if_neg (by omega),h3,←h4]
    rcases ih j' h1 (by omega)with h5|⟨j2,i2,h5,h6⟩
    ·exact .inl h5
    ·exact .inr ⟨j2,i2,by omega,h6⟩
  ·rw[if_neg hf]
   exact .inr ⟨j,i,Nat.le_refl _,hi,e,rfl,by simpa using hf⟩
def jb8 (g:List (List NC)) (fb:Nat→Bool):List Int:=(List.range g.length).map fun(i:Nat)=>jcT g fb (i:Int)
theorem jvf (g:List (List NC)) (fb:Nat→Bool):(jb8 g fb).length=g.length:=by simp[jb8]
theorem jvg (g:List (List NC)) (fb:Nat→Bool) {i:Nat} (hi:i<g.length):(jb8 g fb).getD i 0=jcT g fb (i:Int):=by simp[jb8,List.getD,hi]
theorem jb2 {α:Type} (l:List α) (i j:Nat) (x d:α) (hi:i<l.length):(l.set i x).getD j d=if i=j then x else l.getD j d:=by
 simp only[List.getD,List.getElem?_set,hi,if_true]
 split<;>rfl
theorem jqw {α:Type} {l:List α} (d:α) {i:Nat} (h:i<l.length):l.getD i d=l[i]:=by simp[List.getD,h]
theorem jx4 (h:Rg g l) {j j' i i':Nat} (hj:j<g.length) (hl:j'<j) (e:l.getD j 0=(i:Int)) (e':l.getD j' 0=(i':Int)):i≠i':=fun hn=>h.lt_ne hj hl (by rw[e,e',hn])
end Go.Sh
end

section
namespace Go.Sh
open Go Go.Proofs Go.RowKit Go.Sx
open Go.IntKind (wrap)
def y127:List SV:=[.c (.p [.d,.x (.st [.s,.i .i64,.ints .i64,.ints .i64,.ints .i64,.i .i64,.recs 5,.i .i64] []),.r (.ints .i64 [])]),.c (.r (.bools []))]
def y11 (u17:List (List NC)) (u29:List Int) (u18:List Bool) (x0:(Int × List Int)):Option ((Int × List Int) ⊕ (List Int)) :=
 if x0.1<(↑(List.length u29):Int)then
  if 0≤x0.1∧x0.1<(↑(List.length u29):Int)then
  if Int.toNat x0.1<List.length u29 then
   if 0≤List.getD u29 (Int.toNat x0.1) (0:Int)∧List.getD u29 (Int.toNat x0.1) 0<(↑(List.length u17):Int)then
   if Int.toNat (List.getD u29 (Int.toNat x0.1) (0:Int))<List.length u17 then
    if 0≤List.getD u29 (Int.toNat x0.1) (0:Int)∧List.getD u29 (Int.toNat x0.1) 0<(↑(List.length u18):Int)then
    if Int.toNat (List.getD u29 (Int.toNat x0.1) (0:Int))<List.length u18 then
     if(!List.getD u18 (Int.toNat (List.getD u29 (Int.toNat x0.1) (0:Int))) false)=true then
     if 0≤List.getD u29 (Int.toNat x0.1) (0:Int)∧List.getD u29 (Int.toNat x0.1) 0<(↑(List.length x0.2):Int)then
      if Int.toNat (List.getD u29 (Int.toNat x0.1) (0:Int))<List.length x0.2 then
      some (.inl ((wrap .i64 (x0.1+1),List.set x0.2 (Int.toNat (List.getD u29 (Int.toNat x0.1) (0:Int))) (List.getD u29 (Int.toNat x0.1) (0:Int)))))
      else none
     else none
     else
     if(nI u17 (Int.toNat (List.getD u29 (Int.toNat x0.1) (0:Int))) (7:Nat)==(-1:Int))=true then
      if 0≤List.getD u29 (Int.toNat x0.1) (0:Int)∧List.getD u29 (Int.toNat x0.1) 0<(↑(List.length x0.2):Int)then
      if Int.toNat (List.getD u29 (Int.toNat x0.1) (0:Int))<List.length x0.2 then
       some (.inl ((wrap .i64 (x0.1+1),List.set x0.2 (Int.toNat (List.getD u29 (Int.toNat x0.1) (0:Int))) (-1:Int))))
      else none
      else none
     else
      if 0≤nI u17 (Int.toNat (List.getD u29 (Int.toNat x0.1) (0:Int))) (7:Nat)∧nI u17 (Int.toNat (List.getD u29 (Int.toNat x0.1) (0:Int))) 7<(↑(List.length x0.2):Int)then
      if Int.toNat (nI u17 (Int.toNat (List.getD u29 (Int.toNat x0.1) (0:Int))) (7:Nat))<List.length x0.2 then
       if 0≤List.getD u29 (Int.toNat x0.1) (0:Int)∧List.getD u29 (Int.toNat x0.1) 0<(↑(List.length x0.2):Int)then
       if Int.toNat (List.getD u29 (Int.toNat x0.1) (0:Int))<List.length x0.2 then
        some (.inl ((wrap .i64 (x0.1+1),List.set x0.2 (Int.toNat (List.getD u29 (Int.toNat x0.1) (0:Int))) (List.getD x0.2 (Int.toNat (nI u17 (Int.toNat (List.getD u29 (Int.toNat x0.1) (0:Int))) (7:Nat))) (0:Int)))))
       else none
       else none
      else none
      else none
    else none
    else none
   else none
   else none
  else none
  else none
 else
  some (.inr x0.2)
def y110 (u4:List Int):Option (List Int) :=
 some u4
def y25 (u30:ByteArray) (u17:List (List NC)) (u29:List Int) (u18:List Bool):Option (List Int) :=
 if 0≤(↑(List.length u17):Int)∧(↑(List.length u17):Int)=(↑(List.length u17):Int)∧(↑(8:Nat):Int)*(↑(List.length u17):Int)≤281474976710656∧(↑(List.length u17):Int)≤9223372036854775807 then
  Option.bind (jah (y11 u17 u29 u18) big (((0:Int),List.replicate (Int.toNat (↑(List.length u17):Int)) (0:Int)))) (y110)
 else none
def y128:List Lf→Option GT
 |[.d (.s u30),.x (.st [.s,.i .i64,.ints .i64,.ints .i64,.ints .i64,.i .i64,.recs 5,.i .i64] u17),.r (.ints .i64 u29),.r (.bools u18)]=>some (.leaf (ok (y25 u30 u17 u29 u18)) [.c (.row 3 (.ints .i64 ((val (y25 u30 u17 u29 u18)))))])
 |_=>none
abbrev sp_93:jaa→jaa:=jaB 93 true (jag y127 y128)
abbrev y184 (u30:ByteArray) (u17:List (List NC)) (u29:List Int) (u18:List Bool) (r:List Int):Lp ((Int × List Int) × Nat) (Int × List Int) (List Int) (List Int) (List Int) :=
 ⟨fun z=>Prod.fst z,fun z=>Prod.snd z,fun z x n=>(x,n),fun z=>y11 u17 u29 u18,fun z=>y110,fun z=>top r,fun z=>0,[.c fun _=>0,.c fun _=>(↑(List.length u29):Int),.c fun vv=>vv.1.1,.c fun _=>u30,.c fun _=>u18,.c fun vv=>vv.1.2,.c fun _=>u29,.c fun _=>u17]⟩
def jj5 (u30:ByteArray) (u17:List (List NC)) (u29:List Int) (u18:List Bool) (r:List Int):Sk (top r) (Option.bind (jah (y11 u17 u29 u18) big (((0:Int),List.replicate (Int.toNat (↑(List.length u17):Int)) (0:Int)))) (y110)) :=
 .loop (y184 u30 u17 u29 u18 r) (fun kk=>(((0:Int),List.replicate (Int.toNat (↑(List.length u17):Int)) (0:Int)),big)) fun z0 =>
 .br
 (.ob (.ob (.obT (.ob (.ob (.ob (.ob (.brB
 (.ob (.ob (.next)))
 (.brB
 (.ob (.ob (.next)))
 (.ob (.ob (.ob (.ob (.next))))))))))))))
 (.exit (.obT (.rc)))
def jls (u30:ByteArray) (u17:List (List NC)) (u29:List Int) (u18:List Bool) (r:List Int):Sk (top r) (y25 u30 u17 u29 u18) :=
 .obT (.ob (.obT (jj5 u30 u17 u29 u18 r)))
theorem jj6 (u30:ByteArray) (u17:List (List NC)) (u29:List Int) (u18:List Bool) (r:List Int) (h:Option.bind (y25 u30 u17 u29 u18) some=some r):ja0 Tryz.f93 (sp0) (fun gs id _=>match id with
 |0=>some ⟨(Int × List Int) × Nat,fun z=>⟨[(0,.w (.c (.p 2 0 1 0))),(1,.w (.c (.o 3))),(5,.w (.c (.o 4))),(19,.w (.c (.o 1))),(20,.w (.c (.d (.i .i64 ((↑(List.length u29):Int)))))),(21,.w (.c (.d (.i .i64 (Prod.fst (Prod.fst z))))))],[(2,.ebox [.d (.s u30),.o 0,.o 1]),(3,.ext (.bools u18)),(4,.row 3 (.ints .i64 (Prod.snd (Prod.fst z)))),(1,.ext (.ints .i64 u29)),(0,.xext (XC.st [NK.s,NK.i .i64,NK.ints .i64,NK.ints .i64,NK.ints .i64,NK.i .i64,NK.recs (5:Nat),NK.i .i64] u17))],5⟩,fun z=>(y184 u30 u17 u29 u18 r).inv z,fun z=>Prod.snd z⟩
 |_=>none) (jaV y127 [.d (.s u30),.x (.st [.s,.i .i64,.ints .i64,.ints .i64,.ints .i64,.i .i64,.recs 5,.i .i64] u17),.r (.ints .i64 u29),.r (.bools u18)]) [.c (.row 3 (.ints .i64 r))] :=
 Sk.vc (jls u30 u17 u29 u18 r) (by kernel_rfl) h
theorem jj7:jaf Tryz.prog 93 true (jag y127 y128):=by
 refine jav (sp:=sp0) (fn:=Tryz.f93) (body:=bodyOf Tryz.f93) mixed jar Tryz.func93 (by kernel_rfl) (by kernel_rfl) fun ls t h ho b hb=>?_
 unfold y128 at h
 split at h
 ·rename_i u30 u17 u29 u18
  cases h
  obtain rfl:=jaE hb
  exact⟨Nat.le_of_ble_eq_true (by kernel_rfl),_,_,jj6 u30 u17 u29 u18 _ (jal ho)⟩
 ·cases h
theorem sp_93_ok {sp:jaa} (h:jac Tryz.prog sp):jac Tryz.prog (sp_93 sp):=jan jj7 h
def y158:List SV:=[.c (.d),.c (.p [.r (.ints .i64 [])]),.c (.p [.r (.bools [])])]
def js1 (n:Int) (v0_:List Int) (v1_:List Bool):Option Bool :=
 if 0≤n∧n<(↑(List.length v0_):Int)then
  if Int.toNat n<List.length v0_ then
  if(List.getD v0_ (Int.toNat n) (0:Int)!=(-1:Int))=true then
   if 0≤n∧n<(↑(List.length v0_):Int)then
   if Int.toNat n<List.length v0_ then
    if 0≤List.getD v0_ (Int.toNat n) (0:Int)∧List.getD v0_ (Int.toNat n) 0<(↑(List.length v1_):Int)then
    if Int.toNat (List.getD v0_ (Int.toNat n) (0:Int))<List.length v1_ then
     some (List.getD v1_ (Int.toNat (List.getD v0_ (Int.toNat n) (0:Int))) false)
    else none
    else none
   else none
   else none
  else
   some false
  else none
 else none
def y159:List Lf→Option GT
 |[.d (.i .i64 n),.r (.ints .i64 v0_),.r (.bools v1_)]=>some (.leaf (ok (js1 n v0_ v1_)) [.c (.d (.b ((val (js1 n v0_ v1_)))))])
 |_=>none
abbrev sp_140:jaa→jaa:=jaB 140 true (jag y158 y159)
def joN (n:Int) (v0_:List Int) (v1_:List Bool) (r:Bool):Sk (top r) (js1 n v0_ v1_) :=
 .obT (.ob (.ob (.brB
 (.obT (.obT (.ob (.ob (.ob (.ob (.obT (.rc))))))))
 (.obT (.rc)))))
theorem jnr (n:Int) (v0_:List Int) (v1_:List Bool) (r:Bool) (h:Option.bind (js1 n v0_ v1_) some=some r):ja0 Tryz.f140 (sp0) (fun _ _ _=>none) (jaV y158 [.d (.i .i64 n),.r (.ints .i64 v0_),.r (.bools v1_)]) [.c (.d (.b r))] :=
 Sk.vc (joN n v0_ v1_ r) (by kernel_rfl) h
theorem jns:jaf Tryz.prog 140 true (jag y158 y159):=by
 refine jav (sp:=sp0) (fn:=Tryz.f140) (body:=bodyOf Tryz.f140) mixed jar Tryz.func140 (by kernel_rfl) (by kernel_rfl) fun ls t h ho b hb=>?_
 unfold y159 at h
 split at h
 ·rename_i n v0_ v1_
  cases h
  obtain rfl:=jaE hb
  exact⟨Nat.le_of_ble_eq_true (by kernel_rfl),_,_,jnr n v0_ v1_ _ (jal ho)⟩
 ·cases h
theorem sp_140_ok {sp:jaa} (h:jac Tryz.prog sp):jac Tryz.prog (sp_140 sp):=jan jns h
def y71:List SV:=[.c (.r (.ints .i64 [])),.c (.f 140 [.p [.r (.ints .i64 [])],.p [.r (.bools [])]])]
def y102 (s f0_:List Int) (f1_:List Bool) (x0:Int):Option (Int ⊕ (Int ⊕ Unit)) :=
 if x0<(↑(List.length s):Int)then
  if 0≤x0∧x0<(↑(List.length s):Int)then
  if Int.toNat x0<List.length s then
   Option.bind (js1 (List.getD s (Int.toNat x0) (0:Int)) f0_ f1_) fun r0 =>
   if(r0)=true then
   some (.inr (.inl x0))
   else
   some (.inl (wrap .i64 (x0+1)))
  else none
  else none
 else
  some (.inr ((.inr ())))
def y175 (u4:Int):Option Int :=
 some u4
def y176 (u5:Unit):Option Int :=
 some (-1:Int)
def y103:(Int ⊕ Unit)→Option Int :=
 (Sum.elim (y175) (y176))
def y26 (s f0_:List Int) (f1_:List Bool):Option Int :=
 Option.bind (jah (y102 s f0_ f1_) big (0:Int)) (y103)
def y72:List Lf→Option GT
 |[.r (.ints .i64 s),.r (.ints .i64 f0_),.r (.bools f1_)]=>some (.leaf (ok (y26 s f0_ f1_)) [.c (.d (.i .i64 ((val (y26 s f0_ f1_)))))])
 |_=>none
abbrev sp_156_140:jaa→jaa:=jaB 156 true (jag y71 y72)
abbrev y104 (s f0_:List Int) (f1_:List Bool) (r:Int):Lp (Int × Nat) Int (Int ⊕ Unit) Int Int :=
 ⟨fun z=>Prod.fst z,fun z=>Prod.snd z,fun z x n=>(x,n),fun z=>y102 s f0_ f1_,fun z=>y103,fun z=>top r,fun z=>0,[.c fun _=>(↑(List.length s):Int),.c fun vv=>vv.1,.c fun _=>s,.c fun _=>f0_,.c fun _=>f1_]⟩
def y195 (s f0_:List Int) (f1_:List Bool) (r:Int):Sk (top r) (y26 s f0_ f1_) :=
 .loop (y104 s f0_ f1_ r) (fun kk=>((0:Int),big)) fun z0 =>
 .br
 (.ob (.ob (.call (.brB
 (.exit (.obT (.rc)))
 (.next)))))
 (.exit (.obT (.rc)))
theorem y191 (s f0_:List Int) (f1_:List Bool) (r:Int) (h:Option.bind (y26 s f0_ f1_) some=some r):ja0 Tryz.f156 ((sp_140 sp0)) (fun gs id _=>match id with
 |0=>some ⟨Int × Nat,fun z=>⟨[(0,.w (.c (.o 0))),(1,.w (.c (.fn 140 [2,4]))),(7,.w (.c (.d (.i .i64 ((↑(List.length s):Int)))))),(8,.w (.c (.d (.i .i64 (Prod.fst z)))))],[(0,.ext (.ints .i64 s)),(2,.ebox [.o 1]),(4,.ebox [.o 3]),(1,.ext (.ints .i64 f0_)),(3,.ext (.bools f1_))],5⟩,fun z=>(y104 s f0_ f1_ r).inv z,fun z=>Prod.snd z⟩
 |_=>none) (jaV y71 [.r (.ints .i64 s),.r (.ints .i64 f0_),.r (.bools f1_)]) [.c (.d (.i .i64 r))] :=
 Sk.vc (y195 s f0_ f1_ r) (by kernel_rfl) h
theorem y192:jaf Tryz.prog 156 true (jag y71 y72):=by
 refine jav (sp:=(sp_140 sp0)) (fn:=Tryz.f156) (body:=bodyOf Tryz.f156) mixed (sp_140_ok jar) Tryz.func156 (by kernel_rfl) (by kernel_rfl) fun ls t h ho b hb=>?_
 unfold y72 at h
 split at h
 ·rename_i s f0_ f1_
  cases h
  obtain rfl:=jaE hb
  exact⟨Nat.le_of_ble_eq_true (by kernel_rfl),_,_,y191 s f0_ f1_ _ (jal ho)⟩
 ·cases h
theorem sp_156_140_ok {sp:jaa} (h:jac Tryz.prog sp):jac Tryz.prog (sp_156_140 sp):=jan y192 h
def y57:List SV:=[.c (.r (.ints .i64 [])),.c (.f 140 [.p [.r (.ints .i64 [])],.p [.r (.bools [])]])]
def y33 (s f0_:List Int) (f1_:List Bool):Option Bool :=
 Option.bind (y26 s f0_ f1_) fun r0 =>
 some (decide (r0≥0))
def y58:List Lf→Option GT
 |[.r (.ints .i64 s),.r (.ints .i64 f0_),.r (.bools f1_)]=>some (.leaf (ok (y33 s f0_ f1_)) [.c (.d (.b ((val (y33 s f0_ f1_)))))])
 |_=>none
abbrev sp_123_140:jaa→jaa:=jaB 123 true (jag y57 y58)
def y177 (s f0_:List Int) (f1_:List Bool) (r:Bool):Sk (top r) (y33 s f0_ f1_) :=
 .call (.obT (.rc))
theorem y160 (s f0_:List Int) (f1_:List Bool) (r:Bool) (h:Option.bind (y33 s f0_ f1_) some=some r):ja0 Tryz.f123 ((sp_156_140 (sp_140 sp0))) (fun _ _ _=>none) (jaV y57 [.r (.ints .i64 s),.r (.ints .i64 f0_),.r (.bools f1_)]) [.c (.d (.b r))] :=
 Sk.vc (y177 s f0_ f1_ r) (by kernel_rfl) h
theorem y161:jaf Tryz.prog 123 true (jag y57 y58):=by
 refine jav (sp:=(sp_156_140 (sp_140 sp0))) (fn:=Tryz.f123) (body:=bodyOf Tryz.f123) mixed (sp_156_140_ok (sp_140_ok jar)) Tryz.func123 (by kernel_rfl) (by kernel_rfl) fun ls t h ho b hb=>?_
 unfold y58 at h
 split at h
 ·rename_i s f0_ f1_
  cases h
  obtain rfl:=jaE hb
  exact⟨Nat.le_of_ble_eq_true (by kernel_rfl),_,_,y160 s f0_ f1_ _ (jal ho)⟩
 ·cases h
theorem sp_123_140_ok {sp:jaa} (h:jac Tryz.prog sp):jac Tryz.prog (sp_123_140 sp):=jan y161 h
def jhW:List SV:=[.a [.d,.x (.st [.s,.i .i64,.ints .i64,.ints .i64,.ints .i64,.i .i64,.recs 5,.i .i64] [])],.c (.r (.ints .i64 [])),.c (.d)]
def y84 (u1:List (List NC)) (u18:List Int) (x0:Int):Option (Int ⊕ Int) :=
 if x0≥0 then
  Option.bind (jds u18 x0) fun r0 =>
  if(r0)=true then
  if 0≤x0∧x0<(↑(List.length u1):Int)then
   if Int.toNat x0<List.length u1 then
   some (.inl (nI u1 (Int.toNat x0) (7:Nat)))
   else none
  else none
  else
  some (.inr x0)
 else
  some (.inr x0)
def jlt (u4:Int):Option Int :=
 some u4
def jlu (u3:ByteArray) (u1:List (List NC)) (u18:List Int) (u31:Int):Option Int :=
 Option.bind (jah (y84 u1 u18) big u31) (jlt)
def jhX:List Lf→Option GT
 |[.d (.s u3),.x (.st [.s,.i .i64,.ints .i64,.ints .i64,.ints .i64,.i .i64,.recs 5,.i .i64] u1),.r (.ints .i64 u18),.d (.i .i64 u31)]=>some (.leaf (ok (jlu u3 u1 u18 u31)) [.c (.d (.i .i64 ((val (jlu u3 u1 u18 u31)))))])
 |_=>none
abbrev sp_95:jaa→jaa:=jaB 95 true (jag jhW jhX)
abbrev jlv (u3:ByteArray) (u1:List (List NC)) (u18:List Int) (u31 r:Int):Lp (Int × Nat) Int Int Int Int :=
 ⟨fun z=>Prod.fst z,fun z=>Prod.snd z,fun z x n=>(x,n),fun z=>y84 u1 u18,fun z=>jlt,fun z=>top r,fun z=>0,[.c fun vv=>vv.1,.c fun _=>0,.c fun _=>u18,.c fun _=>u3,.c fun _=>u1]⟩
def juB (u3:ByteArray) (u1:List (List NC)) (u18:List Int) (u31 r:Int):Sk (top r) (jlu u3 u1 u18 u31) :=
 .loop (jlv u3 u1 u18 u31 r) (fun kk=>(u31,big)) fun z0 =>
 .br
 (.call (.brB
 (.ob (.ob (.next)))
 (.exit (.obT (.rc)))))
 (.exit (.obT (.rc)))
theorem js2 (u3:ByteArray) (u1:List (List NC)) (u18:List Int) (u31 r:Int) (h:Option.bind (jlu u3 u1 u18 u31) some=some r):ja0 Tryz.f95 ((sp_48 sp0)) (fun gs id _=>match id with
 |0=>some ⟨Int × Nat,fun z=>⟨[(1,.w (.c (.o 1))),(2,.w (.c (.d (.i .i64 (Prod.fst z))))),(3,.w (.c (.p 2 0 1 0)))],[(1,.ext (.ints .i64 u18)),(2,.box 24 [.d (.s u3),.o 0]),(0,.xext (XC.st [NK.s,NK.i .i64,NK.ints .i64,NK.ints .i64,NK.ints .i64,NK.i .i64,NK.recs (5:Nat),NK.i .i64] u1))],3⟩,fun z=>(jlv u3 u1 u18 u31 r).inv z,fun z=>Prod.snd z⟩
 |_=>none) (jaV jhW [.d (.s u3),.x (.st [.s,.i .i64,.ints .i64,.ints .i64,.ints .i64,.i .i64,.recs 5,.i .i64] u1),.r (.ints .i64 u18),.d (.i .i64 u31)]) [.c (.d (.i .i64 r))] :=
 Sk.vc (juB u3 u1 u18 u31 r) (by kernel_rfl) h
theorem js3:jaf Tryz.prog 95 true (jag jhW jhX):=by
 refine jav (sp:=(sp_48 sp0)) (fn:=Tryz.f95) (body:=bodyOf Tryz.f95) mixed (sp_48_ok jar) Tryz.func95 (by kernel_rfl) (by kernel_rfl) fun ls t h ho b hb=>?_
 unfold jhX at h
 split at h
 ·rename_i u3 u1 u18 u31
  cases h
  obtain rfl:=jaE hb
  exact⟨Nat.le_of_ble_eq_true (by kernel_rfl),_,_,js2 u3 u1 u18 u31 _ (jal ho)⟩
 ·cases h
theorem sp_95_ok {sp:jaa} (h:jac Tryz.prog sp):jac Tryz.prog (sp_95 sp):=jan js3 h
end Go.Sh
end

section
namespace Go.Sh
open Go Go.Proofs Go.RowKit Go.Sx
variable {g:List (List NC)} {l:List Int}
theorem jx5 (h:Rg g l) (failed:List Int) (hf:failed.length<1000):∀j,j<g.length→∀N,j+1<N→jah (y84 g failed) N (l.getD j 0)=some (jcT g (jaU failed) (l.getD j 0)):=by
 intro j
 induction j using Nat.strongRecOn with
 |_ j ih =>
  intro hj N hN
  obtain⟨i,hi,e,_⟩:=h.at hj
  obtain⟨M,rfl⟩:∃M,N=M+1:=⟨N-1,by omega⟩
  rw[e,js0 h (jaU failed) hj e hi]
  unfold jah
  have hb:jds failed (i:Int)=some (jaU failed i):=jdj _ _ (by omega)
  have h0:y84 g failed (i:Int)=if jaU failed i=true then some (.inl (nI g i 7))else some (.inr (i:Int)):=by
   unfold y84
   simp only[Int.toNat_natCast]
   rw[if_pos (by omega),hb,jad]
   by_cases hf:jaU failed i=true
   ·rw[if_pos hf,if_pos hf,if_pos (by omega),if_pos hi]
   ·rw[if_neg hf,if_neg hf]
  rw[h0]
  by_cases hf:jaU failed i=true
  ·rw[if_pos hf,if_pos hf]
   rcases h.stand hj e hi with h1|⟨j',u,h1,h2,h3,h4⟩
   ·rw[if_pos h1,h1]
    obtain⟨K,rfl⟩:∃K,M=K+1:=⟨M-1,by omega⟩
    show jah (y84 g failed) (K+1) (-1)=some (-1)
    unfold jah y84
    rw[if_neg (by omega)]
   ·rw[if_neg (by omega),h3,←h4]
    exact ih j' h1 (by omega) M (by omega)
  ·rw[if_neg hf,if_neg hf]
theorem jzw (h:Rg g l) (nm:ByteArray) (failed:List Int) (hf:failed.length<1000) {j:Nat} (hj:j<g.length):jlu nm g failed (l.getD j 0)=some (jcT g (jaU failed) (l.getD j 0)):=by
 have hn:=h.n
 unfold jlu
 rw[jx5 h failed hf j hj big (by have:big=18446744073709551616:=rfl; omega)]
 rfl
theorem jx6 (h:Rg g l) (nm:ByteArray) (failed:List Int) (hf:failed.length<1000) {i:Nat} (hi:i<g.length):jlu nm g failed (i:Int)=some (jcT g (jaU failed) (i:Int)):=by
 obtain⟨j,hj,e⟩:=h.surj hi
 rw[←e]
 exact jzw h nm failed hf hj
theorem js4 (h:Rg g l) (nm:ByteArray) (failed:List Bool) (hf:failed.length=g.length):y25 nm g l failed=some (jb8 g fun i=>failed.getD i false):=by
 have hn:=h.n
 have hL:=h.len
 unfold y25
 rw[if_pos (by omega),Int.toNat_natCast]
 have key:∃y,jah (y11 g l failed) big (0,List.replicate g.length 0)=some y∧y=jb8 g fun i=>failed.getD i false:=by
  refine jkW (body:=y11 g l failed)
   (fun x=>∃k:Nat,k≤g.length∧x.1=(k:Int)∧x.2.length=g.length∧∀j,j<k→x.2.getD (l.getD j 0).toNat 0=jcT g (fun i=>failed.getD i false) (l.getD j 0))
   (fun x=>(g.length+1-x.1.toNat)) (fun y=>y=jb8 g fun i=>failed.getD i false) (fun x hx=>?_) big (0,List.replicate g.length 0) ⟨0,by omega,rfl,by simp,fun j hj=>absurd hj (by omega)⟩ (by have:big=18446744073709551616:=rfl; simp; omega)
  obtain⟨a,out⟩:=x
  obtain⟨k,hk,h1,h2,h3⟩:=hx
  obtain rfl:a=(k:Int):=h1
  have h2:out.length=g.length:=h2
  by_cases hkn:k<g.length
  ·obtain⟨i,hi,e,_⟩:=h.at hkn
   have hs:=js0 h (fun i=>failed.getD i false) hkn e hi
   have hnew:∀v:Int,v=jcT g (fun i=>failed.getD i false) (i:Int)→∀j,j<k+1→(out.set i v).getD (l.getD j 0).toNat 0=jcT g (fun i=>failed.getD i false) (l.getD j 0):=by
    intro v hv j hj
    rw[jb2 _ _ _ _ _ (by omega)]
    by_cases hjk:j=k
    ·subst hjk
     rw[e,Int.toNat_natCast,if_pos rfl,hv]
    ·obtain⟨i',_,e',_⟩:=h.at (j:=j) (by omega)
     have:=jx4 h hkn (j':=j) (by omega) e e'
     rw[e',Int.toNat_natCast,if_neg this]
     have:=h3 j (by omega)
     rw[e',Int.toNat_natCast]at this
     exact this
   left
   have hb:y11 g l failed ((k:Int),out)=some (.inl ((k:Int)+1,out.set i (jcT g (fun i=>failed.getD i false) (i:Int)))):=by
    unfold y11
    simp only[Int.toNat_natCast,e]
    rw[if_pos (by omega),if_pos (by omega),if_pos (by omega),if_pos (by omega),if_pos hi,if_pos (by omega),if_pos (by omega),jaO (by omega),hs]
    cases hfi:failed.getD i false with
    |false=>rw[if_pos (by simp),if_pos (by omega),if_pos (by omega),if_neg (by simp)]
    |true =>
     rw[if_neg (by simp),if_pos rfl]
     rcases h.stand hkn e hi with h5|⟨j',u,h5,h6,h7,h8⟩
     ·rw[if_pos (by rw[h5]; rfl),if_pos (by omega),if_pos (by omega),if_pos h5]
     ·have hu:=h3 j' (by omega)
      rw[h8,Int.toNat_natCast]at hu
      rw[if_neg (by rw[h7]; simp),h7,if_pos (by omega),Int.toNat_natCast,if_pos (by omega),if_pos (by omega),if_pos (by omega),if_neg (by omega),hu]
   refine⟨_,hb,⟨k+1,by omega,by simp,by simp[h2],hnew _ rfl⟩,by simp; omega⟩
  ·right
   refine⟨out,?_,?_⟩
   ·unfold y11
    rw[if_neg (by show ¬(k:Int)<_; omega)]
   ·refine List.ext_getElem (by rw[h2,jvf]) fun i h5 h6=>?_
    have hi:i<g.length:=by omega
    obtain⟨j,hj,e⟩:=h.surj hi
    have h7:=h3 j (by omega)
    rw[e,Int.toNat_natCast]at h7
    have h8:=jvg g (fun i=>failed.getD i false) hi
    rw[←jqw 0 h5,←jqw 0 h6,h7,h8]
 obtain⟨y,hy,hp⟩:=key
 rw[hy,hp]
 rfl
end Go.Sh
end

section
namespace Go.Sh
open Go Go.Proofs Go.RowKit Go.Sx
abbrev sp_123b:jaa→jaa:=sp_123_140
theorem sp_123b_ok {sp:jaa} (h:jac Tryz.prog sp):jac Tryz.prog (sp_123b sp):=sp_123_140_ok h
end Go.Sh
end

section
namespace Go.Sh
open Go Go.Proofs Go.RowKit Go.Sx
end Go.Sh
end

section
namespace Go.Sh
open Go Go.Proofs Go.RowKit Go.Sx
variable {g:List (List NC)} {l:List Int}
end Go.Sh
end

section
namespace Go.Sh
open Go Go.Proofs Go.RowKit Go.Sx
variable {g:List (List NC)} {l:List Int}
theorem jvh {i:Nat} (hi:¬i<g.length):(cpU g).getD i []=g.getD i []:=by
 simp only[List.getD]
 rw[List.getElem?_eq_none (by rw[jcx]; omega),List.getElem?_eq_none (by omega)]
theorem cpI (i:Nat):nI (cpU g) i 1=nI g i 1∧nI (cpU g) i 5=nI g i 5∧nI (cpU g) i 7=nI g i 7:=by
 by_cases hi:i<g.length
 ·exact cp_I hi
 ·unfold nI; rw[jvh hi]; exact⟨rfl,rfl,rfl⟩
theorem cpL (i:Nat):nL (cpU g) i 2=nL g i 2∧nL (cpU g) i 3=nL g i 3∧nL (cpU g) i 4=nL g i 4:=by
 by_cases hi:i<g.length
 ·exact jnp hi
 ·unfold nL; rw[jvh hi]; exact⟨rfl,rfl,rfl⟩
theorem jqx (g:List (List NC)):jbC (cpU g)=jbC g:=by
 funext out
 unfold jbC
 have:jdZ (cpU g) out=jdZ g out:=by
  funext i
  unfold jdZ jdl jdM
  rw[jcx,(cpL i).1,(cpI i).2.2]
 rw[jcx,this]
theorem Rg.cp (h:Rg g l):Rg (cpU g) l:=⟨jAu h.fw,fun i hi=>by rw[jcx]at hi; rw[jxM hi]; exact h.ok i hi,by rw[jqx,jcx]; exact h.ord⟩
theorem jBF (fb:Nat→Bool):jcT (cpU g) fb=jcT g fb:=by
 funext u
 unfold jcT
 rw[jcx,show(fun i=>nI (cpU g) i 7)=fun i=>nI g i 7 from funext fun i=>(cpI i).2.2]
theorem jBG (fb:Nat→Bool):jb8 (cpU g) fb=jb8 g fb:=by
 unfold jb8
 rw[jBF,jcx]
theorem rg_of {nm:ByteArray} (hw:Fw g) (h:(cg nm g).2=0) (ho:jdz (jbC g) g.length []=some l):Rg g l:=⟨hw,jpW h,ho⟩
end Go.Sh
end

section
namespace Go.Sh
open Go Go.Proofs Go.RowKit Go.Sx
open Go.IntKind (wrap)
def y96:List SV:=[.a [.d,.d],.c (.p [.d,.d])]
def y20 (u70 u71 u72 u73:Int):Option Bool :=
 some (u70==u72)
def y97:List Lf→Option GT
 |[.d (.i .i64 u70),.d (.i .i64 u71),.d (.i .i64 u72),.d (.i .i64 u73)]=>some (.leaf (ok (y20 u70 u71 u72 u73)) [.c (.d (.b ((val (y20 u70 u71 u72 u73)))))])
 |_=>none
abbrev sp_139:jaa→jaa:=jaB 139 true (jag y96 y97)
def jiA (u70 u71 u72 u73:Int) (r:Bool):Sk (top r) (y20 u70 u71 u72 u73) :=
 .obT (.obT (.rc))
theorem jhY (u70 u71 u72 u73:Int) (r:Bool) (h:Option.bind (y20 u70 u71 u72 u73) some=some r):ja0 Tryz.f139 (sp0) (fun _ _ _=>none) (jaV y96 [.d (.i .i64 u70),.d (.i .i64 u71),.d (.i .i64 u72),.d (.i .i64 u73)]) [.c (.d (.b r))] :=
 Sk.vc (jiA u70 u71 u72 u73 r) (by kernel_rfl) h
theorem jhZ:jaf Tryz.prog 139 true (jag y96 y97):=by
 refine jav (sp:=sp0) (fn:=Tryz.f139) (body:=bodyOf Tryz.f139) mixed jar Tryz.func139 (by kernel_rfl) (by kernel_rfl) fun ls t h ho b hb=>?_
 unfold y97 at h
 split at h
 ·rename_i u70 u71 u72 u73
  cases h
  obtain rfl:=jaE hb
  exact⟨Nat.le_of_ble_eq_true (by kernel_rfl),_,_,jhY u70 u71 u72 u73 _ (jal ho)⟩
 ·cases h
theorem sp_139_ok {sp:jaa} (h:jac Tryz.prog sp):jac Tryz.prog (sp_139 sp):=jan jhZ h
def y31:List SV:=[.c (.r (.recs 2 [])),.c (.f 139 [.p [.d,.d]])]
def y3 (s:List (List Int)) (u43 u44 x0:Int):Option (Int ⊕ (Int ⊕ Unit)) :=
 if x0<(↑(List.length s):Int)then
  if 0≤x0∧x0<(↑(List.length s):Int)then
  if Int.toNat x0<List.length s then
   Option.bind (y20 (List.getD (List.getD s (Int.toNat x0) []) 0 (0:Int)) (List.getD (List.getD s (Int.toNat x0) []) 1 (0:Int)) u43 u44) fun r0 =>
   if(r0)=true then
   some (.inr (.inl x0))
   else
   some (.inl (wrap .i64 (x0+1)))
  else none
  else none
 else
  some (.inr ((.inr ())))
def y118 (u4:Int):Option Int :=
 some u4
def y119 (u5:Unit):Option Int :=
 some (-1:Int)
def y66:(Int ⊕ Unit)→Option Int :=
 (Sum.elim (y118) (y119))
def y6 (s:List (List Int)) (u43 u44:Int):Option Int :=
 Option.bind (jah (y3 s u43 u44) big (0:Int)) (y66)
def y32:List Lf→Option GT
 |[.r (.recs 2 s),.d (.i .i64 u43),.d (.i .i64 u44)]=>some (.leaf (ok (y6 s u43 u44)) [.c (.d (.i .i64 ((val (y6 s u43 u44)))))])
 |_=>none
abbrev sp_163_139:jaa→jaa:=jaB 163 true (jag y31 y32)
abbrev y67 (s:List (List Int)) (u43 u44 r:Int):Lp (Int × Nat) Int (Int ⊕ Unit) Int Int :=
 ⟨fun z=>Prod.fst z,fun z=>Prod.snd z,fun z x n=>(x,n),fun z=>y3 s u43 u44,fun z=>y66,fun z=>top r,fun z=>0,[.c fun _=>(↑(List.length s):Int),.c fun vv=>vv.1,.c fun _=>s,.c fun _=>u43,.c fun _=>u44]⟩
def y142 (s:List (List Int)) (u43 u44 r:Int):Sk (top r) (y6 s u43 u44) :=
 .loop (y67 s u43 u44 r) (fun kk=>((0:Int),big)) fun z0 =>
 .br
 (.ob (.ob (.call (.brB
 (.exit (.obT (.rc)))
 (.next)))))
 (.exit (.obT (.rc)))
theorem y136 (s:List (List Int)) (u43 u44 r:Int) (h:Option.bind (y6 s u43 u44) some=some r):ja0 Tryz.f163 ((sp_139 sp0)) (fun gs id _=>match id with
 |0=>some ⟨Int × Nat,fun z=>⟨[(0,.w (.c (.o 0))),(1,.w (.c (.fn 139 [1]))),(7,.w (.c (.d (.i .i64 ((↑(List.length s):Int)))))),(8,.w (.c (.d (.i .i64 (Prod.fst z)))))],[(0,.ext (.recs 2 s)),(1,.ebox [.d (.i .i64 u43),.d (.i .i64 u44)])],2⟩,fun z=>(y67 s u43 u44 r).inv z,fun z=>Prod.snd z⟩
 |_=>none) (jaV y31 [.r (.recs 2 s),.d (.i .i64 u43),.d (.i .i64 u44)]) [.c (.d (.i .i64 r))] :=
 Sk.vc (y142 s u43 u44 r) (by kernel_rfl) h
theorem y137:jaf Tryz.prog 163 true (jag y31 y32):=by
 refine jav (sp:=(sp_139 sp0)) (fn:=Tryz.f163) (body:=bodyOf Tryz.f163) mixed (sp_139_ok jar) Tryz.func163 (by kernel_rfl) (by kernel_rfl) fun ls t h ho b hb=>?_
 unfold y32 at h
 split at h
 ·rename_i s u43 u44
  cases h
  obtain rfl:=jaE hb
  exact⟨Nat.le_of_ble_eq_true (by kernel_rfl),_,_,y136 s u43 u44 _ (jal ho)⟩
 ·cases h
theorem sp_163_139_ok {sp:jaa} (h:jac Tryz.prog sp):jac Tryz.prog (sp_163_139 sp):=jan y137 h
def y21:List SV:=[.c (.r (.recs 2 [])),.c (.f 139 [.p [.d,.d]])]
def y0 (s:List (List Int)) (u43 u44:Int):Option Bool :=
 Option.bind (y6 s u43 u44) fun r0 =>
 some (decide (r0≥0))
def y22:List Lf→Option GT
 |[.r (.recs 2 s),.d (.i .i64 u43),.d (.i .i64 u44)]=>some (.leaf (ok (y0 s u43 u44)) [.c (.d (.b ((val (y0 s u43 u44)))))])
 |_=>none
abbrev sp_138_139:jaa→jaa:=jaB 138 true (jag y21 y22)
def y120 (s:List (List Int)) (u43 u44:Int) (r:Bool):Sk (top r) (y0 s u43 u44) :=
 .call (.obT (.rc))
theorem y111 (s:List (List Int)) (u43 u44:Int) (r:Bool) (h:Option.bind (y0 s u43 u44) some=some r):ja0 Tryz.f138 ((sp_163_139 (sp_139 sp0))) (fun _ _ _=>none) (jaV y21 [.r (.recs 2 s),.d (.i .i64 u43),.d (.i .i64 u44)]) [.c (.d (.b r))] :=
 Sk.vc (y120 s u43 u44 r) (by kernel_rfl) h
theorem y112:jaf Tryz.prog 138 true (jag y21 y22):=by
 refine jav (sp:=(sp_163_139 (sp_139 sp0))) (fn:=Tryz.f138) (body:=bodyOf Tryz.f138) mixed (sp_163_139_ok (sp_139_ok jar)) Tryz.func138 (by kernel_rfl) (by kernel_rfl) fun ls t h ho b hb=>?_
 unfold y22 at h
 split at h
 ·rename_i s u43 u44
  cases h
  obtain rfl:=jaE hb
  exact⟨Nat.le_of_ble_eq_true (by kernel_rfl),_,_,y111 s u43 u44 _ (jal ho)⟩
 ·cases h
theorem sp_138_139_ok {sp:jaa} (h:jac Tryz.prog sp):jac Tryz.prog (sp_138_139 sp):=jan y112 h
def jhl:List (Option Cont):=[some (.recs 2 [])]
def y54 (l:List (List Int)):Option Bool :=
 if(↑(List.length l):Int)≤10 then
  some true
 else
  if(↑(List.length l):Int)>24 then
  some (decide ((↑(List.length l):Int)≤26))
  else
  some false
def y162:List A→Option (Prop × List RV)
 |[.r (.recs 2 l)]=>some (ok (y54 l),[.d (.b ((val (y54 l))))])
 |_=>none
abbrev sp_40:jaa→jaa:=jaB 40 true (jaD jhl y162)
def joO (l:List (List Int)) (r:Bool):Sk (top r) (y54 l) :=
 .br
 (.obT (.rc))
 (.br
 (.obT (.rc))
 (.obT (.rc)))
theorem jnt (l:List (List Int)) (r:Bool) (h:Option.bind (y54 l) some=some r):jbV Tryz.f40 (sp0) (fun _ _ _=>none) [.r (.recs 2 l)] [.d (.b r)] :=
 Sk.vc (joO l r) (by kernel_rfl) h
theorem jnu:jaf Tryz.prog 40 true (jaD jhl y162):=by
 refine jaN (sp:=sp0) (fn:=Tryz.f40) (body:=bodyOf Tryz.f40) mixed jar Tryz.func40 (by kernel_rfl) (by kernel_rfl) fun as_ ob rs h ho=>?_
 unfold y162 at h
 split at h
 ·rename_i l
  cases h
  exact⟨Nat.le_of_ble_eq_true rfl,_,_,jnt l _ (jal ho)⟩
 ·cases h
theorem sp_40_ok {sp:jaa} (h:jac Tryz.prog sp):jac Tryz.prog (sp_40 sp):=jan jnu h
def jgM:List (Option Cont):=[some (.recs 2 [])]
def y15 (l:List (List Int)):Option (List (List Int)) :=
 if(0+List.length l)*16≤140737488355328∧0+List.length l≤9223372036854775807 then
  some ([]++l)
 else none
def y153:List A→Option (Prop × List RV)
 |[.r (.recs 2 l)]=>some (ok (y15 l),[.row 153 (.recs 2 ((val (y15 l))))])
 |_=>none
abbrev sp_42:jaa→jaa:=jaB 42 true (jaD jgM y153)
def jnv (l r:List (List Int)):Sk (top r) (y15 l) :=
 .ob (.obT (.rc))
theorem jml (l r:List (List Int)) (h:Option.bind (y15 l) some=some r):jbV Tryz.f42 (sp0) (fun _ _ _=>none) [.r (.recs 2 l)] [.row 153 (.recs 2 r)] :=
 Sk.vc (jnv l r) (by kernel_rfl) h
theorem jmm:jaf Tryz.prog 42 true (jaD jgM y153):=by
 refine jaN (sp:=sp0) (fn:=Tryz.f42) (body:=bodyOf Tryz.f42) mixed jar Tryz.func42 (by kernel_rfl) (by kernel_rfl) fun as_ ob rs h ho=>?_
 unfold y153 at h
 split at h
 ·rename_i l
  cases h
  exact⟨Nat.le_of_ble_eq_true rfl,_,_,jml l _ (jal ho)⟩
 ·cases h
theorem sp_42_ok {sp:jaa} (h:jac Tryz.prog sp):jac Tryz.prog (sp_42 sp):=jan jmm h
def y143:List SV:=[.a [.d,.x (.st [.s,.i .i64,.ints .i64,.ints .i64,.ints .i64,.i .i64,.recs 5,.i .i64] [])],.c (.r (.recs 2 []))]
def y46 (l:List (List Int)) (x0 x1:Int):Option (Int ⊕ (Unit ⊕ Unit)) :=
 if x1<x0 then
  if 0≤x1∧x1<(↑(List.length l):Int)then
  if Int.toNat x1<List.length l then
   if 0≤x0∧x0<(↑(List.length l):Int)then
   if Int.toNat x0<List.length l then
    if(List.getD (List.getD l (Int.toNat x1) []) 0 (0:Int)==List.getD (List.getD l (Int.toNat x0) []) 0 (0:Int))=true then
    some (.inr ((.inl ())))
    else
    some (.inl (wrap .i64 (x1+1)))
   else none
   else none
  else none
  else none
 else
  some (.inr ((.inr ())))
def y163 (l:List (List Int)) (x0:Int) (u32:Unit):Option (Int ⊕ ((Int × Int) ⊕ Unit)) :=
 some (.inr ((.inl ((x0,26)))))
def y164 (l:List (List Int)) (x0:Int) (u50:Unit):Option (Int ⊕ ((Int × Int) ⊕ Unit)) :=
 if 0≤x0∧x0<(↑(List.length l):Int)then
  if Int.toNat x0<List.length l then
  Option.bind (y9 (List.getD (List.getD l (Int.toNat x0) []) 1 (0:Int)) (0:Int) (16:Int)) fun r1 =>
  if(!r1)=true then
   some (.inr ((.inl ((x0,2)))))
  else
   some (.inl (wrap .i64 (x0+1)))
  else none
 else none
def y129 (l:List (List Int)) (x0:Int):(Unit ⊕ Unit)→Option (Int ⊕ ((Int × Int) ⊕ Unit)) :=
 (Sum.elim (y163 l x0) (y164 l x0))
def y47 (u1:List (List NC)) (l:List (List Int)) (x0:Int):Option (Int ⊕ ((Int × Int) ⊕ Unit)) :=
 if x0<(↑(List.length l):Int)then
  if 0≤x0∧x0<(↑(List.length l):Int)then
  if Int.toNat x0<List.length l then
   Option.bind (y9 (List.getD (List.getD l (Int.toNat x0) []) 0 (0:Int)) (0:Int) (wrap .i64 ((↑(List.length u1):Int)-1))) fun r0 =>
   if(!r0)=true then
   some (.inr ((.inl ((x0,6)))))
   else
   Option.bind (jah (y46 l x0) big (0:Int)) (y129 l x0)
  else none
  else none
 else
  some (.inr ((.inr ())))
def jjA (u4:Int × Int):Option (Int × Int) :=
 some (u4.1,u4.2)
def jjB (u5:Unit):Option (Int × Int) :=
 some (((0:Int),0))
def y130:((Int × Int) ⊕ Unit)→Option (Int × Int) :=
 (Sum.elim (jjA) (jjB))
def y34 (u3:ByteArray) (u1:List (List NC)) (l:List (List Int)):Option (Int × Int) :=
 if(↑(List.length l):Int)>24 then
  some (((0:Int),8))
 else
  Option.bind (jah (y47 u1 l) big (0:Int)) (y130)
def y144:List Lf→Option GT
 |[.d (.s u3),.x (.st [.s,.i .i64,.ints .i64,.ints .i64,.ints .i64,.i .i64,.recs 5,.i .i64] u1),.r (.recs 2 l)]=>some (.leaf (ok (y34 u3 u1 l)) [.c (.d (.i .i64 ((val (y34 u3 u1 l)).1))),.c (.d (.i .i64 ((val (y34 u3 u1 l)).2)))])
 |_=>none
abbrev sp_44:jaa→jaa:=jaB 44 true (jag y143 y144)
abbrev y131 (u3:ByteArray) (u1:List (List NC)) (l:List (List Int)) (r:Int × Int):Lp (Int × Nat) Int (((Int × Int) ⊕ Unit)) (Int × Int) (Int × Int) :=
 ⟨fun z=>Prod.fst z,fun z=>Prod.snd z,fun z x n=>(x,n),fun z=>y47 u1 l,fun z=>y130,fun z=>top r,fun z=>0,[.c fun _=>0,.c fun vv=>vv.1,.c fun _=>l,.c fun _=>u3,.c fun _=>u1]⟩
abbrev y193 (u3:ByteArray) (u1:List (List NC)) (l:List (List Int)) (r:Int × Int) (m1:Nat):Lp (Int × Nat × Int × Nat) Int (Unit ⊕ Unit) ((Int ⊕ ((Int × Int) ⊕ Unit))) (Int × Int) :=
 ⟨fun z=>Prod.fst (Prod.snd (Prod.snd z)),fun z=>Prod.snd (Prod.snd (Prod.snd z)),fun z x n=>(Prod.fst z,Prod.fst (Prod.snd z),x,n),fun z=>y46 l (Prod.fst z),fun z=>y129 l (Prod.fst z),fun z=>(y131 u3 u1 l r).cx (Prod.fst z,m1),fun z=>Prod.fst (Prod.snd z),[.c fun _=>0,.c fun vv=>vv.1,.c fun vv=>vv.2.2.1,.c fun _=>l,.c fun _=>u3,.c fun _=>u1]⟩
def jlw (u3:ByteArray) (u1:List (List NC)) (l:List (List Int)) (r:Int × Int):Sk (top r) (Option.bind (jah (y47 u1 l) big (0:Int)) (y130)) :=
 .loop (y131 u3 u1 l r) (fun kk=>((0:Int),big)) fun z0 =>
 .br
 (.ob (.ob (.call (.brB
 (.exit (.obT (.obT (.rc))))
 (.loop (y193 u3 u1 l r (Prod.snd z0)) (fun kk=>(Prod.fst z0,kk,0,big)) fun z1 =>
 .br
 (.ob (.ob (.ob (.ob (.brB
 (.exit (.exit (.obT (.obT (.rc)))))
 (.next))))))
 (.exit (.ob (.ob (.call (.brB
 (.exit (.obT (.obT (.rc))))
 (.next)))))))))))
 (.exit (.obT (.obT (.rc))))
def jmn (u3:ByteArray) (u1:List (List NC)) (l:List (List Int)) (r:Int × Int):Sk (top r) (y34 u3 u1 l) :=
 .br
 (.obT (.obT (.rc)))
 (jlw u3 u1 l r)
theorem jlx (u3:ByteArray) (u1:List (List NC)) (l:List (List Int)) (r:Int × Int) (h:Option.bind (y34 u3 u1 l) some=some r):ja0 Tryz.f44 ((sp_45 sp0)) (fun gs id _=>match id with
 |0=>some ⟨Int × Nat,fun z=>⟨[(1,.w (.c (.o 1))),(2,.w (.c (.p 2 0 1 0))),(6,.w (.c (.d (.i .i64 (Prod.fst z)))))],[(1,.ext (.recs 2 l)),(2,.box 24 [.d (.s u3),.o 0]),(0,.xext (XC.st [NK.s,NK.i .i64,NK.ints .i64,NK.ints .i64,NK.ints .i64,NK.i .i64,NK.recs (5:Nat),NK.i .i64] u1))],3⟩,fun z=>(y131 u3 u1 l r).inv z,fun z=>Prod.snd z⟩
 |2=>some ⟨Int × Nat × Int × Nat,fun z=>⟨[(1,.w (.c (.o 1))),(2,.w (.c (.p 2 0 1 0))),(6,.w (.c (.d (.i .i64 (Prod.fst z))))),(7,.w (.c (.d (.i .i64 (Prod.fst (Prod.snd (Prod.snd z)))))))],[(1,.ext (.recs 2 l)),(2,.box 24 [.d (.s u3),.o 0]),(0,.xext (XC.st [NK.s,NK.i .i64,NK.ints .i64,NK.ints .i64,NK.ints .i64,NK.i .i64,NK.recs (5:Nat),NK.i .i64] u1))],3⟩,fun z=>(y193 u3 u1 l r (gs.getD 0 0)).inv z,fun z=>Prod.snd (Prod.snd (Prod.snd z))⟩
 |_=>none) (jaV y143 [.d (.s u3),.x (.st [.s,.i .i64,.ints .i64,.ints .i64,.ints .i64,.i .i64,.recs 5,.i .i64] u1),.r (.recs 2 l)]) [.c (.d (.i .i64 r.1)),.c (.d (.i .i64 r.2))] :=
 Sk.vc (jmn u3 u1 l r) (by kernel_rfl) h
theorem jly:jaf Tryz.prog 44 true (jag y143 y144):=by
 refine jav (sp:=(sp_45 sp0)) (fn:=Tryz.f44) (body:=bodyOf Tryz.f44) mixed (sp_45_ok jar) Tryz.func44 (by kernel_rfl) (by kernel_rfl) fun ls t h ho b hb=>?_
 unfold y144 at h
 split at h
 ·rename_i u3 u1 l
  cases h
  obtain rfl:=jaE hb
  exact⟨Nat.le_of_ble_eq_true (by kernel_rfl),_,_,jlx u3 u1 l _ (jal ho)⟩
 ·cases h
theorem sp_44_ok {sp:jaa} (h:jac Tryz.prog sp):jac Tryz.prog (sp_44 sp):=jan jly h
def jeZ:List SV:=[.a [.d,.x (.st [.s,.i .i64,.ints .i64,.ints .i64,.ints .i64,.i .i64,.recs 5,.i .i64] [])],.c (.r (.recs 2 [])),.c (.d)]
def y68 (l:List (List Int)) (u11:Int) (x0:Int × List Int) (x1:(Int × List Int)):Option ((Int × List Int) ⊕ (List Int)) :=
 if x1.1<(↑(List.length l):Int)then
  if 0≤x1.1∧x1.1<(↑(List.length l):Int)then
  if Int.toNat x1.1<List.length l then
   if(List.getD (List.getD l (Int.toNat x1.1) []) 0 (0:Int)==x0.1)=true then
   if 0≤x1.1∧x1.1<(↑(List.length l):Int)then
    if Int.toNat x1.1<List.length l then
    if List.getD (List.getD l (Int.toNat x1.1) []) 1 0≤u11 then
     if(List.length x1.2+List.length [x0.1])*8≤140737488355328∧List.length x1.2+List.length [x0.1]≤9223372036854775807 then
     some (.inl ((wrap .i64 (x1.1+1),x1.2++[x0.1])))
     else none
    else
     some (.inl ((wrap .i64 (x1.1+1),x1.2)))
    else none
   else none
   else
   some (.inl ((wrap .i64 (x1.1+1),x1.2)))
  else none
  else none
 else
  some (.inr x1.2)
def y165 (x0:Int × List Int) (u32:List Int):Option ((Int × List Int) ⊕ (List Int)) :=
 some (.inl ((wrap .i64 (x0.1+1),u32)))
def y50 (u1:List (List NC)) (l:List (List Int)) (u11:Int) (x0:(Int × List Int)):Option ((Int × List Int) ⊕ (List Int)) :=
 if x0.1<(↑(List.length u1):Int)then
  Option.bind (jah (y68 l u11 x0) big (((0:Int),x0.2))) (y165 x0)
 else
  some (.inr x0.2)
def y166 (u4:List Int):Option (List Int) :=
 some u4
def y16 (u3:ByteArray) (u1:List (List NC)) (l:List (List Int)) (u11:Int):Option (List Int) :=
 Option.bind (jah (y50 u1 l u11) big (((0:Int),[]))) (y166)
def je0:List Lf→Option GT
 |[.d (.s u3),.x (.st [.s,.i .i64,.ints .i64,.ints .i64,.ints .i64,.i .i64,.recs 5,.i .i64] u1),.r (.recs 2 l),.d (.i .i64 u11)]=>some (.leaf (ok (y16 u3 u1 l u11)) [.c (.row 3 (.ints .i64 ((val (y16 u3 u1 l u11)))))])
 |_=>none
abbrev sp_46:jaa→jaa:=jaB 46 true (jag jeZ je0)
abbrev y167 (u3:ByteArray) (u1:List (List NC)) (l:List (List Int)) (u11:Int) (r:List Int):Lp ((Int × List Int) × Nat) (Int × List Int) (List Int) (List Int) (List Int) :=
 ⟨fun z=>Prod.fst z,fun z=>Prod.snd z,fun z x n=>(x,n),fun z=>y50 u1 l u11,fun z=>y166,fun z=>top r,fun z=>0,[.c fun _=>u11,.c fun _=>0,.c fun vv=>vv.1.1,.c fun _=>l,.c fun _=>u3,.c fun vv=>vv.1.2,.c fun _=>u1]⟩
abbrev jhm (u3:ByteArray) (u1:List (List NC)) (l:List (List Int)) (u11:Int) (r:List Int) (m1:Nat):Lp ((Int × List Int) × Nat × (Int × List Int) × Nat) (Int × List Int) (List Int) (((Int × List Int) ⊕ (List Int))) (List Int) :=
 ⟨fun z=>Prod.fst (Prod.snd (Prod.snd z)),fun z=>Prod.snd (Prod.snd (Prod.snd z)),fun z x n=>(Prod.fst z,Prod.fst (Prod.snd z),x,n),fun z=>y68 l u11 (Prod.fst z),fun z=>y165 (Prod.fst z),fun z=>(y167 u3 u1 l u11 r).cx (Prod.fst z,m1),fun z=>Prod.fst (Prod.snd z),[.c fun _=>u11,.c fun _=>0,.c fun vv=>vv.1.1,.c fun vv=>vv.2.2.1.1,.c fun _=>l,.c fun _=>u3,.c fun vv=>vv.2.2.1.2,.c fun _=>u1]⟩
def joP (u3:ByteArray) (u1:List (List NC)) (l:List (List Int)) (u11:Int) (r:List Int):Sk (top r) (Option.bind (jah (y50 u1 l u11) big (((0:Int),[]))) (y166)) :=
 .loopQ (y167 u3 u1 l u11 r) [.c fun _=>u11,.c fun _=>0,.c fun vv=>vv.1.1,.c fun _=>l,.c fun _=>u3,.p fun vv=>List.length vv.1.2=(0:Nat),.c fun _=>u1] (fun kk=>(((0:Int),[]),big)) (fun z0 =>
 .br
 (.loop (jhm u3 u1 l u11 r (Prod.snd z0)) (fun kk=>(Prod.fst z0,kk,((0:Int),(Prod.fst z0).2),big)) fun z1 =>
 .br
 (.ob (.ob (.brB
 (.ob (.ob (.br
 (.ob (.next))
 (.next))))
 (.next))))
 (.exit (.next)))
 (.exit (.obT (.rc)))) (fun _=>⟨rfl,trivial⟩)
def jpY (u3:ByteArray) (u1:List (List NC)) (l:List (List Int)) (u11:Int) (r:List Int):Sk (top r) (y16 u3 u1 l u11) :=
 joP u3 u1 l u11 r
theorem joQ (u3:ByteArray) (u1:List (List NC)) (l:List (List Int)) (u11:Int) (r:List Int) (h:Option.bind (y16 u3 u1 l u11) some=some r):ja0 Tryz.f46 (sp0) (fun gs id _=>match id with
 |0=>some ⟨(Int × List Int) × Nat,fun z=>⟨[(1,.w (.c (.o 1))),(2,.w (.c (.d (.i .i64 u11)))),(3,.w (.c (.p 2 0 1 0))),(7,.w (.c (.o 3))),(8,.w (.c (.d (.i .i64 (Prod.fst (Prod.fst z))))))],[(1,.ext (.recs 2 l)),(2,.box 24 [.d (.s u3),.o 0]),(3,.row 3 (.ints .i64 (Prod.snd (Prod.fst z)))),(0,.xext (XC.st [NK.s,NK.i .i64,NK.ints .i64,NK.ints .i64,NK.ints .i64,NK.i .i64,NK.recs (5:Nat),NK.i .i64] u1))],4⟩,fun z=>(y167 u3 u1 l u11 r).inv z,fun z=>Prod.snd z⟩
 |2=>some ⟨(Int × List Int) × Nat × (Int × List Int) × Nat,fun z=>⟨[(1,.w (.c (.o 1))),(2,.w (.c (.d (.i .i64 u11)))),(3,.w (.c (.p 2 0 1 0))),(7,.w (.c (.o 3))),(8,.w (.c (.d (.i .i64 ((Prod.fst z).1))))),(9,.w (.c (.d (.i .i64 (Prod.fst (Prod.fst (Prod.snd (Prod.snd z))))))))],[(1,.ext (.recs 2 l)),(2,.box 24 [.d (.s u3),.o 0]),(3,.row 3 (.ints .i64 (Prod.snd (Prod.fst (Prod.snd (Prod.snd z)))))),(0,.xext (XC.st [NK.s,NK.i .i64,NK.ints .i64,NK.ints .i64,NK.ints .i64,NK.i .i64,NK.recs (5:Nat),NK.i .i64] u1))],4⟩,fun z=>(jhm u3 u1 l u11 r (gs.getD 0 0)).inv z,fun z=>Prod.snd (Prod.snd (Prod.snd z))⟩
 |_=>none) (jaV jeZ [.d (.s u3),.x (.st [.s,.i .i64,.ints .i64,.ints .i64,.ints .i64,.i .i64,.recs 5,.i .i64] u1),.r (.recs 2 l),.d (.i .i64 u11)]) [.c (.row 3 (.ints .i64 r))] :=
 Sk.vc (jpY u3 u1 l u11 r) (by kernel_rfl) h
theorem joR:jaf Tryz.prog 46 true (jag jeZ je0):=by
 refine jav (sp:=sp0) (fn:=Tryz.f46) (body:=bodyOf Tryz.f46) mixed jar Tryz.func46 (by kernel_rfl) (by kernel_rfl) fun ls t h ho b hb=>?_
 unfold je0 at h
 split at h
 ·rename_i u3 u1 l u11
  cases h
  obtain rfl:=jaE hb
  exact⟨Nat.le_of_ble_eq_true (by kernel_rfl),_,_,joQ u3 u1 l u11 _ (jal ho)⟩
 ·cases h
theorem sp_46_ok {sp:jaa} (h:jac Tryz.prog sp):jac Tryz.prog (sp_46 sp):=jan joR h
def je1:List SV:=[.a [.d,.x (.st [.s,.i .i64,.ints .i64,.ints .i64,.ints .i64,.i .i64,.recs 5,.i .i64] [])],.c (.r (.ints .i64 []))]
def y51 (u3:ByteArray) (u1:List (List NC)) (u18:List Int) (x0:(Int × List Int)):Option ((Int × List Int) ⊕ (List Int)) :=
 if x0.1<(↑(List.length u1):Int)then
  Option.bind (jlu u3 u1 u18 x0.1) fun r0 =>
  if(List.length x0.2+List.length [r0])*8≤140737488355328∧List.length x0.2+List.length [r0]≤9223372036854775807 then
  some (.inl ((wrap .i64 (x0.1+1),x0.2++[r0])))
  else none
 else
  some (.inr x0.2)
def y168 (u4:List Int):Option (List Int) :=
 some u4
def y40 (u3:ByteArray) (u1:List (List NC)) (u18:List Int):Option (List Int) :=
 Option.bind (jah (y51 u3 u1 u18) big (((0:Int),[]))) (y168)
def je2:List Lf→Option GT
 |[.d (.s u3),.x (.st [.s,.i .i64,.ints .i64,.ints .i64,.ints .i64,.i .i64,.recs 5,.i .i64] u1),.r (.ints .i64 u18)]=>some (.leaf (ok (y40 u3 u1 u18)) [.c (.row 3 (.ints .i64 ((val (y40 u3 u1 u18)))))])
 |_=>none
abbrev sp_47:jaa→jaa:=jaB 47 true (jag je1 je2)
abbrev jhn (u3:ByteArray) (u1:List (List NC)) (u18 r:List Int):Lp ((Int × List Int) × Nat) (Int × List Int) (List Int) (List Int) (List Int) :=
 ⟨fun z=>Prod.fst z,fun z=>Prod.snd z,fun z x n=>(x,n),fun z=>y51 u3 u1 u18,fun z=>y168,fun z=>top r,fun z=>0,[.c fun _=>0,.c fun vv=>vv.1.1,.c fun _=>u18,.c fun _=>u3,.c fun vv=>vv.1.2,.c fun _=>u1]⟩
def joS (u3:ByteArray) (u1:List (List NC)) (u18 r:List Int):Sk (top r) (Option.bind (jah (y51 u3 u1 u18) big (((0:Int),[]))) (y168)) :=
 .loopQ (jhn u3 u1 u18 r) [.c fun _=>0,.c fun vv=>vv.1.1,.c fun _=>u18,.c fun _=>u3,.p fun vv=>List.length vv.1.2=(0:Nat),.c fun _=>u1] (fun kk=>(((0:Int),[]),big)) (fun z0 =>
 .br
 (.call (.ob (.next)))
 (.exit (.obT (.rc)))) (fun _=>⟨rfl,trivial⟩)
def jpZ (u3:ByteArray) (u1:List (List NC)) (u18 r:List Int):Sk (top r) (y40 u3 u1 u18) :=
 joS u3 u1 u18 r
theorem joT (u3:ByteArray) (u1:List (List NC)) (u18 r:List Int) (h:Option.bind (y40 u3 u1 u18) some=some r):ja0 Tryz.f47 ((sp_95 sp0)) (fun gs id _=>match id with
 |0=>some ⟨(Int × List Int) × Nat,fun z=>⟨[(1,.w (.c (.o 1))),(2,.w (.c (.p 2 0 1 0))),(5,.w (.c (.o 3))),(6,.w (.c (.d (.i .i64 (Prod.fst (Prod.fst z))))))],[(1,.ext (.ints .i64 u18)),(2,.box 24 [.d (.s u3),.o 0]),(3,.row 3 (.ints .i64 (Prod.snd (Prod.fst z)))),(0,.xext (XC.st [NK.s,NK.i .i64,NK.ints .i64,NK.ints .i64,NK.ints .i64,NK.i .i64,NK.recs (5:Nat),NK.i .i64] u1))],4⟩,fun z=>(jhn u3 u1 u18 r).inv z,fun z=>Prod.snd z⟩
 |_=>none) (jaV je1 [.d (.s u3),.x (.st [.s,.i .i64,.ints .i64,.ints .i64,.ints .i64,.i .i64,.recs 5,.i .i64] u1),.r (.ints .i64 u18)]) [.c (.row 3 (.ints .i64 r))] :=
 Sk.vc (jpZ u3 u1 u18 r) (by kernel_rfl) h
theorem joU:jaf Tryz.prog 47 true (jag je1 je2):=by
 refine jav (sp:=(sp_95 sp0)) (fn:=Tryz.f47) (body:=bodyOf Tryz.f47) mixed (sp_95_ok jar) Tryz.func47 (by kernel_rfl) (by kernel_rfl) fun ls t h ho b hb=>?_
 unfold je2 at h
 split at h
 ·rename_i u3 u1 u18
  cases h
  obtain rfl:=jaE hb
  exact⟨Nat.le_of_ble_eq_true (by kernel_rfl),_,_,joT u3 u1 u18 _ (jal ho)⟩
 ·cases h
theorem sp_47_ok {sp:jaa} (h:jac Tryz.prog sp):jac Tryz.prog (sp_47 sp):=jan joU h
def y132:List SV:=[.c (.p [.d,.x (.st [.s,.i .i64,.ints .i64,.ints .i64,.ints .i64,.i .i64,.recs 5,.i .i64] []),.r (.ints .i64 [])]),.c (.r (.recs 2 [])),.c (.d)]
def y12 (l:List (List Int)) (u11:Int) (x0:(Int × List Bool)):Option ((Int × List Bool) ⊕ (List Bool)) :=
 if x0.1<(↑(List.length l):Int)then
  if 0≤x0.1∧x0.1<(↑(List.length l):Int)then
  if Int.toNat x0.1<List.length l then
   if 0≤List.getD (List.getD l (Int.toNat x0.1) []) 0 (0:Int)∧List.getD (List.getD l (Int.toNat x0.1) []) 0 0<(↑(List.length x0.2):Int)then
   if Int.toNat (List.getD (List.getD l (Int.toNat x0.1) []) 0 (0:Int))<List.length x0.2 then
    some (.inl ((wrap .i64 (x0.1+1),List.set x0.2 (Int.toNat (List.getD (List.getD l (Int.toNat x0.1) []) 0 (0:Int))) (decide (List.getD (List.getD l (Int.toNat x0.1) []) 1 0≤u11)))))
   else none
   else none
  else none
  else none
 else
  some (.inr x0.2)
def y113 (u4:List Bool):Option (List Bool) :=
 some u4
def y43 (u30:ByteArray) (u17:List (List NC)) (u29:List Int) (l:List (List Int)) (u11:Int):Option (List Bool) :=
 if 0≤(↑(List.length u17):Int)∧(↑(List.length u17):Int)=(↑(List.length u17):Int)∧(↑(1:Nat):Int)*(↑(List.length u17):Int)≤281474976710656∧(↑(List.length u17):Int)≤9223372036854775807 then
  Option.bind (jah (y12 l u11) big (((0:Int),List.replicate (Int.toNat (↑(List.length u17):Int)) false))) (y113)
 else none
def y133:List Lf→Option GT
 |[.d (.s u30),.x (.st [.s,.i .i64,.ints .i64,.ints .i64,.ints .i64,.i .i64,.recs 5,.i .i64] u17),.r (.ints .i64 u29),.r (.recs 2 l),.d (.i .i64 u11)]=>some (.leaf (ok (y43 u30 u17 u29 l u11)) [.c (.row 4 (.bools ((val (y43 u30 u17 u29 l u11)))))])
 |_=>none
abbrev sp_94:jaa→jaa:=jaB 94 true (jag y132 y133)
abbrev y185 (u30:ByteArray) (u17:List (List NC)) (u29:List Int) (l:List (List Int)) (u11:Int) (r:List Bool):Lp ((Int × List Bool) × Nat) (Int × List Bool) (List Bool) (List Bool) (List Bool) :=
 ⟨fun z=>Prod.fst z,fun z=>Prod.snd z,fun z x n=>(x,n),fun z=>y12 l u11,fun z=>y113,fun z=>top r,fun z=>0,[.c fun _=>u11,.c fun _=>(↑(List.length l):Int),.c fun vv=>vv.1.1,.c fun vv=>vv.1.2,.c fun _=>l]⟩
def jj8 (u30:ByteArray) (u17:List (List NC)) (u29:List Int) (l:List (List Int)) (u11:Int) (r:List Bool):Sk (top r) (Option.bind (jah (y12 l u11) big (((0:Int),List.replicate (Int.toNat (↑(List.length u17):Int)) false))) (y113)) :=
 .loop (y185 u30 u17 u29 l u11 r) (fun kk=>(((0:Int),List.replicate (Int.toNat (↑(List.length u17):Int)) false),big)) fun z0 =>
 .br
 (.ob (.ob (.ob (.ob (.next)))))
 (.exit (.obT (.rc)))
def jlz (u30:ByteArray) (u17:List (List NC)) (u29:List Int) (l:List (List Int)) (u11:Int) (r:List Bool):Sk (top r) (y43 u30 u17 u29 l u11) :=
 .obT (.ob (jj8 u30 u17 u29 l u11 r))
theorem jj9 (u30:ByteArray) (u17:List (List NC)) (u29:List Int) (l:List (List Int)) (u11:Int) (r:List Bool) (h:Option.bind (y43 u30 u17 u29 l u11) some=some r):ja0 Tryz.f94 (sp0) (fun gs id _=>match id with
 |0=>some ⟨(Int × List Bool) × Nat,fun z=>⟨[(2,.w (.c (.d (.i .i64 u11)))),(7,.w (.c (.o 4))),(17,.w (.c (.o 3))),(18,.w (.c (.d (.i .i64 ((↑(List.length l):Int)))))),(19,.w (.c (.d (.i .i64 (Prod.fst (Prod.fst z))))))],[(4,.row 4 (.bools (Prod.snd (Prod.fst z)))),(3,.ext (.recs 2 l))],5⟩,fun z=>(y185 u30 u17 u29 l u11 r).inv z,fun z=>Prod.snd z⟩
 |_=>none) (jaV y132 [.d (.s u30),.x (.st [.s,.i .i64,.ints .i64,.ints .i64,.ints .i64,.i .i64,.recs 5,.i .i64] u17),.r (.ints .i64 u29),.r (.recs 2 l),.d (.i .i64 u11)]) [.c (.row 4 (.bools r))] :=
 Sk.vc (jlz u30 u17 u29 l u11 r) (by kernel_rfl) h
theorem jka:jaf Tryz.prog 94 true (jag y132 y133):=by
 refine jav (sp:=sp0) (fn:=Tryz.f94) (body:=bodyOf Tryz.f94) mixed jar Tryz.func94 (by kernel_rfl) (by kernel_rfl) fun ls t h ho b hb=>?_
 unfold y133 at h
 split at h
 ·rename_i u30 u17 u29 l u11
  cases h
  obtain rfl:=jaE hb
  exact⟨Nat.le_of_ble_eq_true (by kernel_rfl),_,_,jj9 u30 u17 u29 l u11 _ (jal ho)⟩
 ·cases h
theorem sp_94_ok {sp:jaa} (h:jac Tryz.prog sp):jac Tryz.prog (sp_94 sp):=jan jka h
end Go.Sh
end

section
namespace Go.Sh
open Go Go.Proofs Go.RowKit Go.Sx
abbrev sp_138:jaa→jaa:=sp_138_139
theorem sp_138_ok {sp:jaa} (h:jac Tryz.prog sp):jac Tryz.prog (sp_138 sp):=sp_138_139_ok h
end Go.Sh
end

section
namespace Go.Sh
open Go Go.Proofs Go.RowKit Go.Sx
open Go.IntKind (wrap)
def y114:List SV:=[.c (.p [.d,.x (.st [.s,.i .i64,.ints .i64,.ints .i64,.ints .i64,.i .i64,.recs 5,.i .i64] []),.r (.ints .i64 [])]),.c (.r (.recs 2 []))]
def y28 (u17:List (List NC)) (l:List (List Int)) (x0:Int):Option (Int ⊕ ((Int × Int) ⊕ Unit)) :=
 if x0<(↑(List.length l):Int)then
  if 0≤x0∧x0<(↑(List.length l):Int)then
  if Int.toNat x0<List.length l then
   Option.bind (y10 (List.getD (List.getD l (Int.toNat x0) []) 0 (0:Int)) (0:Int) (wrap .i64 ((↑(List.length u17):Int)-1))) fun r0 =>
   if(!r0)=true then
   some (.inr ((.inl ((x0,6)))))
   else
   if 0≤Option.getD none (0:Int)∧Option.getD none 0≤Option.getD (some x0) (↑(List.length l):Int)∧Option.getD (some x0) (↑(List.length l):Int)≤(↑(List.length l):Int)then
    Option.bind (y0 (List.take (Int.toNat (Option.getD (some x0) (↑(List.length l):Int))-0) (List.drop (0:Nat) l)) (List.getD (List.getD l (Int.toNat x0) []) 0 (0:Int)) (List.getD (List.getD l (Int.toNat x0) []) 1 (0:Int))) fun r1 =>
    if(r1)=true then
    some (.inr ((.inl ((x0,26)))))
    else
    Option.bind (y10 (List.getD (List.getD l (Int.toNat x0) []) 1 (0:Int)) (0:Int) (16:Int)) fun r2 =>
    if(!r2)=true then
     some (.inr ((.inl ((x0,2)))))
    else
     some (.inl (wrap .i64 (x0+1)))
   else none
  else none
  else none
 else
  some (.inr ((.inr ())))
def jh0 (u4:Int × Int):Option (Int × Int) :=
 some (u4.1,u4.2)
def jh1 (u5:Unit):Option (Int × Int) :=
 some (((0:Int),0))
def y107:((Int × Int) ⊕ Unit)→Option (Int × Int) :=
 (Sum.elim (jh0) (jh1))
def y7 (u30:ByteArray) (u17:List (List NC)) (u29:List Int) (l:List (List Int)):Option (Int × Int) :=
 if(↑(List.length l):Int)>24 then
  some (((0:Int),8))
 else
  Option.bind (jah (y28 u17 l) big (0:Int)) (y107)
def y115:List Lf→Option GT
 |[.d (.s u30),.x (.st [.s,.i .i64,.ints .i64,.ints .i64,.ints .i64,.i .i64,.recs 5,.i .i64] u17),.r (.ints .i64 u29),.r (.recs 2 l)]=>some (.leaf (ok (y7 u30 u17 u29 l)) [.c (.d (.i .i64 ((val (y7 u30 u17 u29 l)).1))),.c (.d (.i .i64 ((val (y7 u30 u17 u29 l)).2)))])
 |_=>none
abbrev sp_92:jaa→jaa:=jaB 92 true (jag y114 y115)
abbrev y169 (u30:ByteArray) (u17:List (List NC)) (u29:List Int) (l:List (List Int)) (r:Int × Int):Lp (Int × Nat) Int (((Int × Int) ⊕ Unit)) (Int × Int) (Int × Int) :=
 ⟨fun z=>Prod.fst z,fun z=>Prod.snd z,fun z x n=>(x,n),fun z=>y28 u17 l,fun z=>y107,fun z=>top r,fun z=>0,[.c fun _=>0,.c fun _=>(↑(List.length l):Int),.c fun vv=>vv.1,.c fun _=>u30,.c fun _=>l,.c fun _=>u17,.c fun _=>u29]⟩
def jjC (u30:ByteArray) (u17:List (List NC)) (u29:List Int) (l:List (List Int)) (r:Int × Int):Sk (top r) (Option.bind (jah (y28 u17 l) big (0:Int)) (y107)) :=
 .loop (y169 u30 u17 u29 l r) (fun kk=>((0:Int),big)) fun z0 =>
 .br
 (.ob (.ob (.obT (.call (.brB
 (.exit (.obT (.obT (.rc))))
 (.ob (.call (.brB
 (.exit (.obT (.obT (.rc))))
 (.call (.brB
 (.exit (.obT (.obT (.rc))))
 (.next)))))))))))
 (.exit (.obT (.obT (.rc))))
def jkb (u30:ByteArray) (u17:List (List NC)) (u29:List Int) (l:List (List Int)) (r:Int × Int):Sk (top r) (y7 u30 u17 u29 l) :=
 .br
 (.obT (.obT (.rc)))
 (jjC u30 u17 u29 l r)
theorem jjD (u30:ByteArray) (u17:List (List NC)) (u29:List Int) (l:List (List Int)) (r:Int × Int) (h:Option.bind (y7 u30 u17 u29 l) some=some r):ja0 Tryz.f92 ((sp_139 (sp_138 (sp_84 sp0)))) (fun gs id _=>match id with
 |0=>some ⟨Int × Nat,fun z=>⟨[(0,.w (.c (.p 2 0 1 0))),(1,.w (.c (.o 3))),(11,.w (.c (.o 3))),(12,.w (.c (.d (.i .i64 ((↑(List.length l):Int)))))),(13,.w (.c (.d (.i .i64 (Prod.fst z)))))],[(2,.ebox [.d (.s u30),.o 0,.o 1]),(3,.ext (.recs 2 l)),(0,.xext (XC.st [NK.s,NK.i .i64,NK.ints .i64,NK.ints .i64,NK.ints .i64,NK.i .i64,NK.recs (5:Nat),NK.i .i64] u17)),(1,.ext (.ints .i64 u29))],4⟩,fun z=>(y169 u30 u17 u29 l r).inv z,fun z=>Prod.snd z⟩
 |_=>none) (jaV y114 [.d (.s u30),.x (.st [.s,.i .i64,.ints .i64,.ints .i64,.ints .i64,.i .i64,.recs 5,.i .i64] u17),.r (.ints .i64 u29),.r (.recs 2 l)]) [.c (.d (.i .i64 r.1)),.c (.d (.i .i64 r.2))] :=
 Sk.vc (jkb u30 u17 u29 l r) (by kernel_rfl) h
theorem jjE:jaf Tryz.prog 92 true (jag y114 y115):=by
 refine jav (sp:=(sp_139 (sp_138 (sp_84 sp0)))) (fn:=Tryz.f92) (body:=bodyOf Tryz.f92) mixed (sp_139_ok (sp_138_ok (sp_84_ok jar))) Tryz.func92 (by kernel_rfl) (by kernel_rfl) fun ls t h ho b hb=>?_
 unfold y115 at h
 split at h
 ·rename_i u30 u17 u29 l
  cases h
  obtain rfl:=jaE hb
  exact⟨Nat.le_of_ble_eq_true (by kernel_rfl),_,_,jjD u30 u17 u29 l _ (jal ho)⟩
 ·cases h
theorem sp_92_ok {sp:jaa} (h:jac Tryz.prog sp):jac Tryz.prog (sp_92 sp):=jan jjE h
def y170:List SV:=[.a [.d,.x (.st [.s,.i .i64,.ints .i64,.ints .i64,.ints .i64,.i .i64,.recs 5,.i .i64] [])],.c (.r (.recs 2 []))]
def y27 (u3:ByteArray) (u1:List (List NC)) (l:List (List Int)):Option (Int × Int) :=
 if(jhk u3 u1)=true then
  Option.bind (jdu u3 u1) fun r0 =>
  some (((0:Int),nzI r0))
 else
  Option.bind (jdN u3 u1) fun r1 =>
  Option.bind (y7 u3 u1 r1 l) fun r2 =>
  some (r2.1,r2.2)
def y171:List Lf→Option GT
 |[.d (.s u3),.x (.st [.s,.i .i64,.ints .i64,.ints .i64,.ints .i64,.i .i64,.recs 5,.i .i64] u1),.r (.recs 2 l)]=>some (.leaf (ok (y27 u3 u1 l)) [.c (.d (.i .i64 ((val (y27 u3 u1 l)).1))),.c (.d (.i .i64 ((val (y27 u3 u1 l)).2)))])
 |_=>none
abbrev sp_41:jaa→jaa:=jaB 41 true (jag y170 y171)
def joV (u3:ByteArray) (u1:List (List NC)) (l:List (List Int)) (r:Int × Int):Sk (top r) (y27 u3 u1 l) :=
 .brB
 (.call (.obT (.obT (.rc))))
 (.call (.call (.obT (.obT (.rc)))))
theorem jnw (u3:ByteArray) (u1:List (List NC)) (l:List (List Int)) (r:Int × Int) (h:Option.bind (y27 u3 u1 l) some=some r):ja0 Tryz.f41 ((sp_80 (sp_92 sp0))) (fun _ _ _=>none) (jaV y170 [.d (.s u3),.x (.st [.s,.i .i64,.ints .i64,.ints .i64,.ints .i64,.i .i64,.recs 5,.i .i64] u1),.r (.recs 2 l)]) [.c (.d (.i .i64 r.1)),.c (.d (.i .i64 r.2))] :=
 Sk.vc (joV u3 u1 l r) (by kernel_rfl) h
theorem jnx:jaf Tryz.prog 41 true (jag y170 y171):=by
 refine jav (sp:=(sp_80 (sp_92 sp0))) (fn:=Tryz.f41) (body:=bodyOf Tryz.f41) mixed (sp_80_ok (sp_92_ok jar)) Tryz.func41 (by kernel_rfl) (by kernel_rfl) fun ls t h ho b hb=>?_
 unfold y171 at h
 split at h
 ·rename_i u3 u1 l
  cases h
  obtain rfl:=jaE hb
  exact⟨Nat.le_of_ble_eq_true (by kernel_rfl),_,_,jnw u3 u1 l _ (jal ho)⟩
 ·cases h
theorem sp_41_ok {sp:jaa} (h:jac Tryz.prog sp):jac Tryz.prog (sp_41 sp):=jan jnx h
def jgN:List SV:=[.a [.d,.x (.st [.s,.i .i64,.ints .i64,.ints .i64,.ints .i64,.i .i64,.recs 5,.i .i64] [])],.c (.r (.recs 2 [])),.c (.d)]
def y29 (u3:ByteArray) (u1:List (List NC)) (l:List (List Int)) (u11:Int):Option (List Int × Int) :=
 if(jhk u3 u1)=true then
  Option.bind (jdu u3 u1) fun r0 =>
  Option.bind (y10 u11 (0:Int) (16:Int)) fun r1 =>
  Option.bind (y48 r1 (2:Int)) fun r2 =>
  Option.bind (y93 [nzI r0,r2]) fun r3 =>
  some ([],r3)
 else
  Option.bind (jdN u3 u1) fun r4 =>
  Option.bind (y7 u3 u1 r4 l) fun r5 =>
  Option.bind (y10 u11 (0:Int) (16:Int)) fun r1 =>
  Option.bind (y48 r1 (2:Int)) fun r2 =>
  Option.bind (y93 [r5.2,r2]) fun r6 =>
  if(r6 != 0)=true then
  some ([],r6)
  else
  Option.bind (y43 u3 u1 r4 l u11) fun r7 =>
  Option.bind (y25 u3 u1 r4 r7) fun r8 =>
  some ((r8,0))
def jgO:List Lf→Option GT
 |[.d (.s u3),.x (.st [.s,.i .i64,.ints .i64,.ints .i64,.ints .i64,.i .i64,.recs 5,.i .i64] u1),.r (.recs 2 l),.d (.i .i64 u11)]=>some (.leaf (ok (y29 u3 u1 l u11)) [.c (.row 3 (.ints .i64 ((val (y29 u3 u1 l u11)).1))),.c (.d (.i .i64 ((val (y29 u3 u1 l u11)).2)))])
 |_=>none
abbrev sp_43:jaa→jaa:=jaB 43 true (jag jgN jgO)
def js5 (u3:ByteArray) (u1:List (List NC)) (l:List (List Int)) (u11:Int) (r:List Int × Int):Sk (top r) (y29 u3 u1 l u11) :=
 .brB
 (.call (.call (.call (.call (.obT (.obT (.ret (fun r=>(Ob (List.length r.1=(0:Nat)) ∧
 (Ob (val (y93 [nzI (val (jdu u3 u1)),val (y48 (val (y10 u11 (0:Int) (16:Int))) (2:Int))])=r.2) ∧
 True))) ⟨⟨rfl⟩,⟨⟨rfl⟩,trivial⟩⟩)))))))
 (.call (.call (.call (.call (.call (.brB
 (.obT (.obT (.ret (fun r=>(Ob (List.length r.1=(0:Nat)) ∧
 (Ob (val (y93 [(val (y7 u3 u1 (val (jdN u3 u1)) l)).2,val (y48 (val (y10 u11 (0:Int) (16:Int))) (2:Int))])=r.2) ∧
 True))) ⟨⟨rfl⟩,⟨⟨rfl⟩,trivial⟩⟩)))
 (.call (.call (.obT (.obT (.rc)))))))))))
theorem jrj (u3:ByteArray) (u1:List (List NC)) (l:List (List Int)) (u11:Int) (r:List Int × Int) (h:Option.bind (y29 u3 u1 l u11) some=some r):ja0 Tryz.f43 ((sp_80 (sp_92 (sp_84 (sp_77 (sp_76 (sp_94 (sp_93 sp0)))))))) (fun _ _ _=>none) (jaV jgN [.d (.s u3),.x (.st [.s,.i .i64,.ints .i64,.ints .i64,.ints .i64,.i .i64,.recs 5,.i .i64] u1),.r (.recs 2 l),.d (.i .i64 u11)]) [.c (.row 3 (.ints .i64 r.1)),.c (.d (.i .i64 r.2))] :=
 Sk.vc (js5 u3 u1 l u11 r) (by kernel_rfl) h
theorem jrk:jaf Tryz.prog 43 true (jag jgN jgO):=by
 refine jav (sp:=(sp_80 (sp_92 (sp_84 (sp_77 (sp_76 (sp_94 (sp_93 sp0)))))))) (fn:=Tryz.f43) (body:=bodyOf Tryz.f43) mixed (sp_80_ok (sp_92_ok (sp_84_ok (sp_77_ok (sp_76_ok (sp_94_ok (sp_93_ok jar))))))) Tryz.func43 (by kernel_rfl) (by kernel_rfl) fun ls t h ho b hb=>?_
 unfold jgO at h
 split at h
 ·rename_i u3 u1 l u11
  cases h
  obtain rfl:=jaE hb
  exact⟨Nat.le_of_ble_eq_true (by kernel_rfl),_,_,jrj u3 u1 l u11 _ (jal ho)⟩
 ·cases h
theorem sp_43_ok {sp:jaa} (h:jac Tryz.prog sp):jac Tryz.prog (sp_43 sp):=jan jrk h
end Go.Sh
end

section
namespace Go.Sh
open Go Go.Proofs Go.RowKit Go.Sx
variable {g:List (List NC)} {l:List Int}
theorem jh2 {Y:Type} (n:Nat) (P:Nat→Bool) {body:Int→Option (Int ⊕ Y)} (hit:Nat→Y) (miss:Y) (hlen:n<9223372036854775807)
  (h1:∀i,i<n→P i=true→body (i:Int)=some (.inr (hit i)))
  (h2:∀i,i<n→P i=false→body (i:Int)=some (.inl ((i:Int)+1))) (h3:body (n:Int)=some (.inr miss)) :
  jah body big 0=some (match(List.range n).findIdx? P with|some i=>hit i|none=>miss):=by
 have e:∀i,i<n→(List.range n).getD i 0=i:=fun i hi=>by simp[List.getD,hi]
 exact jbv (List.range n) 0 P hit miss (by simpa using hlen) (fun i hi hp=>by
  have hi:i<n:=by simpa using hi
  rw[e i hi]at hp
  exact h1 i hi hp) (fun i hi hp=>by
  have hi:i<n:=by simpa using hi
  rw[e i hi]at hp
  exact h2 i hi hp) (by rw[List.length_range]; exact h3)
def fU (l:List (List Int)) (i:Nat):Int:=(l.getD i []).getD 0 0
def fB (l:List (List Int)) (i:Nat):Int:=(l.getD i []).getD 1 0
def jdA (n:Nat) (l:List (List Int)) (i:Nat):Int :=
 if(!inB (fU l i) 0 ((n:Int)-1))=true then 6 else if((List.range i).any fun k=>fU l k==fU l i)=true then 26 else if(!inB (fB l i) 0 16)=true then 2 else 0
def cf (n:Nat) (l:List (List Int)):Int × Int :=
 if(l.length:Int)>24 then(0,8)else match(List.range l.length).findIdx? (fun i=>jdA n l i != 0)with
  |some i=>((i:Int),jdA n l i)
  |none=>(0,0)
theorem jBM (nm:ByteArray) (f:List (List Int)) (hn:g.length<1000):y34 nm g f=some (cf g.length f):=by
 unfold y34 cf
 by_cases h24:(f.length:Int)>24
 ·rw[if_pos h24,if_pos h24]
 ·rw[if_neg h24,if_neg h24]
  rw[jh2 (body:=y47 g f) f.length (fun i=>jdA g.length f i != 0) (fun i=>.inl ((i:Int),jdA g.length f i)) (.inr ()) (by omega) (fun i hi hp=>?_) (fun i hi hp=>?_) (by
   unfold y47
   rw[if_neg (by omega)])]
  ·cases (List.range f.length).findIdx? (fun i=>jdA g.length f i != 0)<;>rfl
  all_goals
   have kin:=jcj (body:=y46 f (i:Int)) i (fun k=>fU f k==fU f i) (.inl ()) (.inr ()) (by omega) (fun k hk hp=>by
    unfold y46; simp only[Int.toNat_natCast]
    rw[if_pos (by omega),if_pos (by omega),if_pos (by omega),if_pos (by omega),if_pos hi]
    exact if_pos hp) (fun k hk hp=>by
    unfold y46; simp only[Int.toNat_natCast]
    rw[if_pos (by omega),if_pos (by omega),if_pos (by omega),if_pos (by omega),if_pos hi,jaO (by omega)]
    exact if_neg (by show ¬((fU f k==fU f i)=true); rw[hp]; exact Bool.false_ne_true)) (by
    unfold y46
    rw[if_neg (by omega)])
   unfold y47 y129 y163 y164
   simp only[Int.toNat_natCast]
   rw[if_pos (by omega),if_pos (by omega),if_pos hi,jaO (x:=(g.length:Int)-1) (by omega),ja2,jad,kin,jad]
   have e1:(f.getD i []).getD 0 0=fU f i:=rfl
   have e2:(f.getD i []).getD 1 0=fB f i:=rfl
   simp only[e1,e2]
   rcases Bool.eq_false_or_eq_true (inB (fU f i) 0 ((g.length:Int)-1))with hA|hA<;>rcases Bool.eq_false_or_eq_true ((List.range i).any (fun k=>fU f k==fU f i))with hB|hB<;>rcases Bool.eq_false_or_eq_true (inB (fB f i) 0 16)with hC|hC<;>simp[jdA,hA,hB,hC,hi,ja2,jaO,show(-9223372036854775808≤(i:Int)+1∧(i:Int)+1≤9223372036854775807) by omega]at hp ⊢
theorem jBN (s:List (List Int)) (u b:Int) (hs:s.length<1000):y0 s u b=some ((List.range s.length).any fun k=>fU s k==u):=by
 unfold y0 y6
 rw[jh2 (body:=y3 s u b) s.length (fun k=>fU s k==u) (fun i=>.inl (i:Int)) (.inr ()) (by omega) (fun i hi hp=>by
   unfold y3 y20; simp only[Int.toNat_natCast]
   rw[if_pos (by omega),if_pos (by omega),if_pos hi,jad]
   exact if_pos hp) (fun i hi hp=>by
   unfold y3 y20; simp only[Int.toNat_natCast]
   rw[if_pos (by omega),if_pos (by omega),if_pos hi,jad,jaO (by omega)]
   exact if_neg (by show ¬((fU s i==u)=true); rw[hp]; exact Bool.false_ne_true)) (by
   unfold y3
   rw[if_neg (by omega)])]
 rw[←jhQ]
 cases (List.range s.length).findIdx? (fun k=>fU s k==u)with
 |none=>rfl
 |some i =>
  show some (decide ((i:Int)≥0))=some true
  simp
theorem jx7 {n:Nat} {P Q:Nat→Bool} (h:∀k,k<n→P k=Q k):(List.range n).any P=(List.range n).any Q:=by
 rw[Bool.eq_iff_iff,List.any_eq_true,List.any_eq_true]
 constructor
 ·rintro ⟨k,hk,hp⟩; exact⟨k,hk,by rw[←h k (List.mem_range.1 hk)]; exact hp⟩
 ·rintro ⟨k,hk,hp⟩; exact⟨k,hk,by rw[h k (List.mem_range.1 hk)]; exact hp⟩
theorem jx8 (nm:ByteArray) (od:List Int) (f:List (List Int)) (hn:g.length<1000):y7 nm g od f=some (cf g.length f):=by
 unfold y7 cf
 by_cases h24:(f.length:Int)>24
 ·rw[if_pos h24,if_pos h24]
 ·rw[if_neg h24,if_neg h24]
  rw[jh2 (body:=y28 g f) f.length (fun i=>jdA g.length f i != 0) (fun i=>.inl ((i:Int),jdA g.length f i)) (.inr ()) (by omega) (fun i hi hp=>?_) (fun i hi hp=>?_) (by
   unfold y28
   rw[if_neg (by omega)])]
  ·cases (List.range f.length).findIdx? (fun i=>jdA g.length f i != 0)<;>rfl
  all_goals
   have kin:y0 (f.take i) (fU f i) (fB f i)=some ((List.range i).any fun k=>fU f k==fU f i):=by
    have hl:(f.take i).length=i:=by simp; omega
    rw[jBN _ _ _ (by omega),hl]
    congr 1
    exact jx7 fun k hk=>by unfold fU; rw[jlr _ _ hk]
   unfold y28
   simp only[Option.getD_some,Option.getD_none,Int.toNat_natCast,Nat.sub_zero,List.drop_zero]
   rw[if_pos (by omega),if_pos (by omega),if_pos hi,jaO (x:=(g.length:Int)-1) (by omega),jbo,jad]
   have kin':y0 (f.take i) ((f.getD i []).getD 0 0) ((f.getD i []).getD 1 0)=_:=kin
   rw[kin',jad,jbo,jad]
   have e1:(f.getD i []).getD 0 0=fU f i:=rfl
   have e2:(f.getD i []).getD 1 0=fB f i:=rfl
   simp only[e1,e2]
   rcases Bool.eq_false_or_eq_true (inB (fU f i) 0 ((g.length:Int)-1))with hA|hA<;>rcases Bool.eq_false_or_eq_true ((List.range i).any (fun k=>fU f k==fU f i))with hB|hB<;>rcases Bool.eq_false_or_eq_true (inB (fB f i) 0 16)with hC|hC<;>simp[jdA,hA,hB,hC,hi,Nat.le_of_lt hi,jaO,show(-9223372036854775808≤(i:Int)+1∧(i:Int)+1≤9223372036854775807) by omega]at hp ⊢
theorem jvi {n:Nat} {f:List (List Int)} (h:(cf n f).2=0):cf n f=(0,0)∧f.length≤24∧∀i,i<f.length→jdA n f i=0:=by
 unfold cf at h ⊢
 split at h
 ·exact absurd (show(8:Int)=0 from h) (by omega)
 ·rename_i h24
  rw[if_neg h24]
  cases hf:(List.range f.length).findIdx? (fun i=>jdA n f i != 0)with
  |none =>
   refine⟨rfl,by omega,fun i hi=>?_⟩
   rw[List.findIdx?_eq_none_iff]at hf
   simpa using hf i (List.mem_range.2 hi)
  |some i =>
   rw[hf]at h
   have h:jdA n f i=0:=h
   rw[List.findIdx?_eq_some_iff_getElem]at hf
   obtain⟨hlt,hp,_⟩:=hf
   simp only[List.getElem_range]at hp
   rw[h]at hp
   exact absurd hp (by decide)
theorem jx9 {n:Nat} {f:List (List Int)} {i:Nat} (h:jdA n f i=0):(0≤fU f i∧fU f i<(n:Int))∧∀k,k<i→fU f k≠fU f i:=by
 unfold jdA at h
 split at h
 ·omega
 ·rename_i h1
  split at h
  ·omega
  ·rename_i h2
   refine⟨?_,fun k hk e=>h2 (List.any_eq_true.2 ⟨k,List.mem_range.2 hk,by simp[e]⟩)⟩
   simp[inB]at h1
   omega
def jwy (f:List (List Int)) (block:Int) (u:Nat):Bool:=(List.range f.length).any fun i=>fU f i==(u:Int)&&decide (fB f i≤block)
def jcq (f:List (List Int)) (block:Int) (u m:Nat):List Int:=((List.range m).filter fun i=>fU f i==(u:Int)&&decide (fB f i≤block)).map fun _=>(u:Int)
def jaZ (f:List (List Int)) (block:Int):Nat→List Int
 |0=>[]
 |u+1=>jaZ f block u++jcq f block u f.length
theorem jqy (f:List (List Int)) (block:Int) (u m:Nat):(jcq f block u m).length≤m:=by
 unfold jcq
 rw[List.length_map]
 exact Nat.le_trans (List.length_filter_le _ _) (by simp)
theorem jlA (f:List (List Int)) (block:Int):∀u,(jaZ f block u).length≤u*f.length
 |0=>by simp[jaZ]
 |u+1=>by
  have:=jlA f block u
  have:=jqy f block u f.length
  unfold jaZ
  rw[List.length_append,Nat.succ_mul]
  omega
theorem jwz (f:List (List Int)) (block:Int) (u m:Nat):jcq f block u (m+1)=if(fU f m==(u:Int)&&decide (fB f m≤block))=true then jcq f block u m++[(u:Int)]else jcq f block u m:=by
 unfold jcq
 rw[List.range_succ,List.filter_append]
 cases hw:(fU f m==(u:Int)&&decide (fB f m≤block))<;>simp[hw]
theorem jya (f:List (List Int)) (block:Int) (u k:Nat):jaU (jcq f block u f.length) k=(decide (k=u)&&jwy f block u):=by
 unfold jaU jcq jwy
 rw[List.any_map,Bool.eq_iff_iff,List.any_eq_true]
 constructor
 ·rintro ⟨i,hi,e⟩
  rw[List.mem_filter]at hi
  rw[Bool.and_eq_true,List.any_eq_true]
  exact⟨by simp at e; simp; omega,i,hi.1,hi.2⟩
 ·intro hh
  rw[Bool.and_eq_true,List.any_eq_true]at hh
  obtain⟨h1,i,h2,h3⟩:=hh
  exact⟨i,List.mem_filter.2 ⟨h2,h3⟩,by simp at h1; simp[h1]⟩
theorem jqz (f:List (List Int)) (block:Int) (k:Nat):∀u,jaU (jaZ f block u) k=(decide (k<u)&&jwy f block k)
 |0=>by simp[jaZ,jaU]
 |u+1=>by
  have h1:jaU (jaZ f block (u+1)) k=(jaU (jaZ f block u) k||jaU (jcq f block u f.length) k):=by
   unfold jaU
   show List.any (jaZ f block u++jcq f block u f.length) _=_
   rw[List.any_append]
  rw[h1,jqz f block k u,jya]
  by_cases hk:k=u
  ·subst hk; simp
  ·by_cases h2:k<u
   ·simp[hk,h2,show k<u+1 by omega]
   ·simp[hk,h2,show ¬k<u+1 by omega]
theorem jwA (nm:ByteArray) (f:List (List Int)) (block:Int) (hn:g.length<1000) (hf:f.length≤24):y16 nm g f block=some (jaZ f block g.length):=by
 unfold y16
 have key:=jdd (body:=y50 g f block) (fun u=>((u:Int),jaZ f block u)) (y:=jaZ f block g.length) (k:=g.length) (fun u hu=>by
   have hL:=jlA f block u
   have hL2:u*f.length≤1000*24:=Nat.mul_le_mul (by omega) hf
   unfold y50
   rw[if_pos (by show(u:Int)<_; omega)]
   have kin:=jdd (body:=y68 f block ((u:Int),jaZ f block u)) (fun m=>((m:Int),jaZ f block u++jcq f block u m)) (y:=jaZ f block (u+1)) (k:=f.length) (fun m hm=>by
     have hI:=jqy f block u m
     unfold y68
     simp only[Int.toNat_natCast]
     rw[if_pos (by omega),if_pos (by omega),if_pos hm,jaO (by omega),jwz]
     have e1:(f.getD m []).getD 0 0=fU f m:=rfl
     have e2:(f.getD m []).getD 1 0=fB f m:=rfl
     rw[e1,e2]
     cases hq:(fU f m==(u:Int))with
     |false=>rw[if_neg (by simp)]; rfl
     |true =>
      rw[if_pos rfl,if_pos (by omega),if_pos hm]
      by_cases hb:fB f m≤block
      ·rw[if_pos hb,if_pos (by simp only[List.length_append,List.length_cons,List.length_nil]; omega),if_pos (by simpa using hb),List.append_assoc]
       rfl
      ·rw[if_neg hb,if_neg (by simpa using hb)]
       rfl) (by
     unfold y68
     rw[if_neg (by show ¬(f.length:Int)<_; omega)]
     rfl) (by omega)
   have kin:jah (y68 f block ((u:Int),jaZ f block u)) big ((0:Int),jaZ f block u++jcq f block u 0)=_:=kin
   have e0:jaZ f block u++jcq f block u 0=jaZ f block u:=by simp[jcq]
   rw[e0]at kin
   rw[kin,jad]
   unfold y165
   rw[jaO (by simp; omega)]
   rfl) (by
   unfold y50
   rw[if_neg (by show ¬(g.length:Int)<_; omega)]) (by omega)
 have key:jah (y50 g f block) big ((0:Int),[])=_:=key
 rw[key]
 rfl
theorem js6 (nm:ByteArray) (od:List Int) (f:List (List Int)) (block:Int) (hn:g.length<1000) (hf:f.length≤24) (hz:∀i,i<f.length→jdA g.length f i=0) :
  ∃y,y43 nm g od f block=some y∧y.length=g.length∧(fun i=>y.getD i false)=jaU (jaZ f block g.length):=by
 have key:∃y,jah (y12 f block) big ((0:Int),List.replicate g.length false)=some y∧y.length=g.length∧(fun i=>y.getD i false)=jaU (jaZ f block g.length):=by
  refine jkW (body:=y12 f block)
   (fun x=>∃k:Nat,k≤f.length∧x.1=(k:Int)∧x.2.length=g.length∧∀u:Nat,x.2.getD u false=(List.range k).any fun i=>fU f i==(u:Int)&&decide (fB f i≤block))
   (fun x=>(f.length+1-x.1.toNat)) (fun y=>y.length=g.length∧(fun i=>y.getD i false)=jaU (jaZ f block g.length)) (fun x hx=>?_) big ((0:Int),List.replicate g.length false) ⟨0,by omega,rfl,by simp,fun u=>by
    simp only[List.getD,List.getElem?_replicate]
    split<;>rfl⟩ (by have:big=18446744073709551616:=rfl; simp; omega)
  obtain⟨a,out⟩:=x
  obtain⟨k,hk,h1,h2,h3⟩:=hx
  obtain rfl:a=(k:Int):=h1
  have h2:out.length=g.length:=h2
  by_cases hkn:k<f.length
  ·left
   obtain⟨hr,hd⟩:=jx9 (hz k hkn)
   obtain⟨v,hv⟩:∃v:Nat,fU f k=(v:Int):=⟨(fU f k).toNat,by omega⟩
   have e1:(f.getD k []).getD 0 0=(v:Int):=hv
   have hb:y12 f block ((k:Int),out)=some (.inl ((k:Int)+1,out.set v (decide (fB f k≤block)))):=by
    unfold y12
    simp only[Int.toNat_natCast,e1]
    rw[if_pos (by omega),if_pos (by omega),if_pos hkn,if_pos (by omega),if_pos (by omega),jaO (by omega)]
    rfl
   refine⟨_,hb,⟨k+1,by omega,by simp,by simp[h2],fun u=>?_⟩,by simp; omega⟩
   have h3:∀u:Nat,out.getD u false=(List.range k).any fun i=>fU f i==(u:Int)&&decide (fB f i≤block):=h3
   show(out.set v (decide (fB f k≤block))).getD u false=_
   rw[jb2 _ _ _ _ _ (by omega),List.range_succ,List.any_append,←h3 u]
   by_cases huv:v=u
   ·subst huv
    have h0:out.getD v false=false:=by
     rw[h3,List.any_eq_false]
     intro i hi
     have:=hd i (List.mem_range.1 hi)
     rw[hv]at this
     simp[this]
    rw[if_pos rfl,h0]
    simp[hv]
   ·rw[if_neg huv]
    have:(fU f k==(u:Int))=false:=by rw[hv,beq_eq_false_iff_ne]; omega
    simp[this]
  ·right
   refine⟨out,?_,h2,?_⟩
   ·unfold y12
    rw[if_neg (by show ¬(k:Int)<_; omega)]
   ·obtain rfl:k=f.length:=by omega
    funext u
    rw[jqz]
    by_cases hu:u<g.length
    ·rw[decide_eq_true hu,Bool.true_and]
     exact h3 u
    ·rw[decide_eq_false hu,Bool.false_and]
     simp only[List.getD]
     rw[List.getElem?_eq_none (by omega)]
     rfl
 obtain⟨y,hy,hl,hp⟩:=key
 refine⟨y,?_,hl,hp⟩
 unfold y43
 rw[if_pos (by omega),Int.toNat_natCast,hy]
 rfl
theorem js7 (h:Rg g l) (nm:ByteArray) (failed:List Int) (hf:failed.length<1000):y40 nm g failed=some (jb8 g (jaU failed)):=by
 have hn:=h.n
 unfold y40
 have key:=jdd (body:=y51 nm g failed) (fun m=>((m:Int),(List.range m).map fun(i:Nat)=>jcT g (jaU failed) (i:Int))) (y:=jb8 g (jaU failed)) (k:=g.length) (fun m hm=>by
   unfold y51
   rw[if_pos (by show(m:Int)<_; omega),jx6 h nm failed hf hm,jad,if_pos (by simp only[List.length_map,List.length_range,List.length_cons,List.length_nil]; omega),jaO (by simp; omega),List.range_succ,List.map_append]
   rfl) (by
   unfold y51
   rw[if_neg (by show ¬(g.length:Int)<_; omega)]
   rfl) (by omega)
 have key:jah (y51 nm g failed) big ((0:Int),[])=_:=key
 rw[key]
 rfl
end Go.Sh
end

section
namespace Go.Sh
open Go Go.Proofs Go.RowKit Go.Sx
open Go.IntKind (wrap)
def jgP:List SV:=[.c (.p [.p [.d,.x (.st [.s,.i .i64,.ints .i64,.ints .i64,.ints .i64,.i .i64,.recs 5,.i .i64] []),.r (.ints .i64 [])],.d,.x (.ff .f32 []),.x (.rr 4 []),.r (.frs .f32 32 []),.r (.ints .i64 []),.r (.frs .f32 32 []),.x (.rr 4 []),.r (.ints .i64 [])]),.c (.d),.c (.d)]
def jp0 (u19:ByteArray) (u20:List (List NC)) (u21:List Int) (u16:Int) (u22:List (List Nat)) (u23:List (List (List Int))) (u24:List (List Nat)) (u25:List Int) (u26:List (List Nat)) (u27:List (List (List Int))) (u28:List Int) (u31:Int) (k:Int):Option Int :=
 if k<0 then
  if 0≤u31∧u31<(↑(List.length u22):Int)then
  if Int.toNat u31<List.length u22 then
   if 0≤wrap .i64 (128+k)∧wrap .i64 (128+k)<(↑(List.length (List.getD u22 (Int.toNat u31) [])):Int)then
   if Int.toNat (wrap .i64 (128+k))<List.length (List.getD u22 (Int.toNat u31) [])then
    if jnW .f32 .i64 (List.getD (List.getD u22 (Int.toNat u31) []) (Int.toNat (wrap .i64 (128+k))) (0:Nat))=true then
    some (f2i .f32 (List.getD (List.getD u22 (Int.toNat u31) []) (Int.toNat (wrap .i64 (128+k))) (0:Nat)))
    else none
   else none
   else none
  else none
  else none
 else
  if 0≤u31∧u31<(↑(List.length u26):Int)then
  if 0≤k∧k<(↑(32:Nat):Int)then
   if Int.toNat u31<List.length u26∧0+Int.toNat k*1<32 then
   if jnW .f32 .i64 (List.getD (List.getD u26 (Int.toNat u31) []) (0+Int.toNat k*1) (0:Nat))=true then
    some (f2i .f32 (List.getD (List.getD u26 (Int.toNat u31) []) (0+Int.toNat k*1) (0:Nat)))
   else none
   else none
  else none
  else none
def jgQ:List Lf→Option GT
 |[.d (.s u19),.x (.st [.s,.i .i64,.ints .i64,.ints .i64,.ints .i64,.i .i64,.recs 5,.i .i64] u20),.r (.ints .i64 u21),.d (.i .i64 u16),.x (.ff .f32 u22),.x (.rr 4 u23),.r (.frs .f32 32 u24),.r (.ints .i64 u25),.r (.frs .f32 32 u26),.x (.rr 4 u27),.r (.ints .i64 u28),.d (.i .i64 u31),.d (.i .i64 k)]=>some (.leaf (ok (jp0 u19 u20 u21 u16 u22 u23 u24 u25 u26 u27 u28 u31 k)) [.c (.d (.i .i64 ((val (jp0 u19 u20 u21 u16 u22 u23 u24 u25 u26 u27 u28 u31 k)))))])
 |_=>none
abbrev sp_149:jaa→jaa:=jaB 149 true (jag jgP jgQ)
def js8 (u19:ByteArray) (u20:List (List NC)) (u21:List Int) (u16:Int) (u22:List (List Nat)) (u23:List (List (List Int))) (u24:List (List Nat)) (u25:List Int) (u26:List (List Nat)) (u27:List (List (List Int))) (u28:List Int) (u31:Int) (k:Int) (r:Int):Sk (top r) (jp0 u19 u20 u21 u16 u22 u23 u24 u25 u26 u27 u28 u31 k) :=
 .br
 (.obT (.ob (.ob (.ob (.ob (.ob (.obT (.rc))))))))
 (.obT (.ob (.ob (.ob (.ob (.obT (.rc)))))))
theorem jrl (u19:ByteArray) (u20:List (List NC)) (u21:List Int) (u16:Int) (u22:List (List Nat)) (u23:List (List (List Int))) (u24:List (List Nat)) (u25:List Int) (u26:List (List Nat)) (u27:List (List (List Int))) (u28:List Int) (u31:Int) (k:Int) (r:Int) (h:Option.bind (jp0 u19 u20 u21 u16 u22 u23 u24 u25 u26 u27 u28 u31 k) some=some r):ja0 Tryz.f149 (sp0) (fun _ _ _=>none) (jaV jgP [.d (.s u19),.x (.st [.s,.i .i64,.ints .i64,.ints .i64,.ints .i64,.i .i64,.recs 5,.i .i64] u20),.r (.ints .i64 u21),.d (.i .i64 u16),.x (.ff .f32 u22),.x (.rr 4 u23),.r (.frs .f32 32 u24),.r (.ints .i64 u25),.r (.frs .f32 32 u26),.x (.rr 4 u27),.r (.ints .i64 u28),.d (.i .i64 u31),.d (.i .i64 k)]) [.c (.d (.i .i64 r))] :=
 Sk.vc (js8 u19 u20 u21 u16 u22 u23 u24 u25 u26 u27 u28 u31 k r) (by kernel_rfl) h
theorem jrm:jaf Tryz.prog 149 true (jag jgP jgQ):=by
 refine jav (sp:=sp0) (fn:=Tryz.f149) (body:=bodyOf Tryz.f149) mixed jar Tryz.func149 (by kernel_rfl) (by kernel_rfl) fun ls t h ho b hb=>?_
 unfold jgQ at h
 split at h
 ·rename_i u19 u20 u21 u16 u22 u23 u24 u25 u26 u27 u28 u31 k
  cases h
  obtain rfl:=jaE hb
  exact⟨Nat.le_of_ble_eq_true (by kernel_rfl),_,_,jrl u19 u20 u21 u16 u22 u23 u24 u25 u26 u27 u28 u31 k _ (jal ho)⟩
 ·cases h
theorem sp_149_ok {sp:jaa} (h:jac Tryz.prog sp):jac Tryz.prog (sp_149 sp):=jan jrm h
end Go.Sh
end

section
namespace Go.Sh
open Go Go.Proofs Go.RowKit Go.Sx
open Go.IntKind (wrap)
def jew:List SV:=[.c (.p [.p [.d,.x (.st [.s,.i .i64,.ints .i64,.ints .i64,.ints .i64,.i .i64,.recs 5,.i .i64] []),.r (.ints .i64 [])],.d,.x (.ff .f32 []),.x (.rr 4 []),.r (.frs .f32 32 []),.r (.ints .i64 []),.r (.frs .f32 32 []),.x (.rr 4 []),.r (.ints .i64 [])]),.a [.d,.d,.r (.ints .i64 []),.r (.ints .i64 []),.r (.ints .i64 []),.d,.r (.recs 5 []),.d],.c (.d),.c (.d)]
def jd0 (u19:ByteArray) (u20:List (List NC)) (u21:List Int) (u16:Int) (u22:List (List Nat)) (u23:List (List (List Int))) (u24:List (List Nat)) (u25:List Int) (u26:List (List Nat)) (u27:List (List (List Int))) (u28:List Int) (u12:List Int) (u10:List Int) (u47:Int) (u48:Int) (x0:(Int × Int × Int × Int × Int × Int × Int × Int × Int × Int × Int × Int × Int × Int × Int × Int × Int × Int × Int × Int × Int × Int × Int × Int × Int × Int × Int × Int × Int × Int × Int × Int × Int)):Option ((Int × Int × Int × Int × Int × Int × Int × Int × Int × Int × Int × Int × Int × Int × Int × Int × Int × Int × Int × Int × Int × Int × Int × Int × Int × Int × Int × Int × Int × Int × Int × Int × Int) ⊕ (Int × Int × Int × Int × Int × Int × Int × Int × Int × Int × Int × Int × Int × Int × Int × Int × Int × Int × Int × Int × Int × Int × Int × Int × Int × Int × Int × Int × Int × Int × Int × Int)) :=
 if x0.1<32 then
  if 0≤u47∧u47<(↑(List.length u12):Int)then
  if Int.toNat u47<List.length u12 then
   if 0≤u47∧u47<(↑(List.length u10):Int)then
   if Int.toNat u47<List.length u10 then
    Option.bind (jp0 u19 u20 u21 u16 u22 u23 u24 u25 u26 u27 u28 (List.getD u12 (Int.toNat u47) (0:Int)) (wrap .i64 (wrap .i64 (x0.1-List.getD u10 (Int.toNat u47) (0:Int))-u48))) fun r0 =>
    if 0≤x0.1∧x0.1<(↑(32:Nat):Int)then
    if List.getD [true,true,true,true,true,true,true,true,true,true,true,true,true,true,true,true,true,true,true,true,true,true,true,true,true,true,true,true,true,true,true,true] (0+Int.toNat x0.1*1) false=true then
     some (.inl ((wrap .i64 (x0.1+1),bif Nat.beq (0+Int.toNat x0.1*1) 0 then r0 else x0.2.1,bif Nat.beq (0+Int.toNat x0.1*1) 1 then r0 else x0.2.2.1,bif Nat.beq (0+Int.toNat x0.1*1) 2 then r0 else x0.2.2.2.1,bif Nat.beq (0+Int.toNat x0.1*1) 3 then r0 else x0.2.2.2.2.1,bif Nat.beq (0+Int.toNat x0.1*1) 4 then r0 else x0.2.2.2.2.2.1,bif Nat.beq (0+Int.toNat x0.1*1) 5 then r0 else x0.2.2.2.2.2.2.1,bif Nat.beq (0+Int.toNat x0.1*1) 6 then r0 else x0.2.2.2.2.2.2.2.1,bif Nat.beq (0+Int.toNat x0.1*1) 7 then r0 else x0.2.2.2.2.2.2.2.2.1,bif Nat.beq (0+Int.toNat x0.1*1) 8 then r0 else x0.2.2.2.2.2.2.2.2.2.1,bif Nat.beq (0+Int.toNat x0.1*1) 9 then r0 else x0.2.2.2.2.2.2.2.2.2.2.1,bif Nat.beq (0+Int.toNat x0.1*1) 10 then r0 else x0.2.2.2.2.2.2.2.2.2.2.2.1,bif Nat.beq (0+Int.toNat x0.1*1) 11 then r0 else x0.2.2.2.2.2.2.2.2.2.2.2.2.1,bif Nat.beq (0+Int.toNat x0.1*1) 12 then r0 else x0.2.2.2.2.2.2.2.2.2.2.2.2.2.1,bif Nat.beq (0+Int.toNat x0.1*1) 13 then r0 else x0.2.2.2.2.2.2.2.2.2.2.2.2.2.2.1,bif Nat.beq (0+Int.toNat x0.1*1) 14 then r0 else x0.2.2.2.2.2.2.2.2.2.2.2.2.2.2.2.1,bif Nat.beq (0+Int.toNat x0.1*1) 15 then r0 else x0.2.2.2.2.2.2.2.2.2.2.2.2.2.2.2.2.1,bif Nat.beq (0+Int.toNat x0.1*1) 16 then r0 else x0.2.2.2.2.2.2.2.2.2.2.2.2.2.2.2.2.2.1,bif Nat.beq (0+Int.toNat x0.1*1) 17 then r0 else x0.2.2.2.2.2.2.2.2.2.2.2.2.2.2.2.2.2.2.1,bif Nat.beq (0+Int.toNat x0.1*1) 18 then r0 else x0.2.2.2.2.2.2.2.2.2.2.2.2.2.2.2.2.2.2.2.1,bif Nat.beq (0+Int.toNat x0.1*1) 19 then r0 else x0.2.2.2.2.2.2.2.2.2.2.2.2.2.2.2.2.2.2.2.2.1,bif Nat.beq (0+Int.toNat x0.1*1) 20 then r0 else x0.2.2.2.2.2.2.2.2.2.2.2.2.2.2.2.2.2.2.2.2.2.1,bif Nat.beq (0+Int.toNat x0.1*1) 21 then r0 else x0.2.2.2.2.2.2.2.2.2.2.2.2.2.2.2.2.2.2.2.2.2.2.1,bif Nat.beq (0+Int.toNat x0.1*1) 22 then r0 else x0.2.2.2.2.2.2.2.2.2.2.2.2.2.2.2.2.2.2.2.2.2.2.2.1,bif Nat.beq (0+Int.toNat x0.1*1) 23 then r0 else x0.2.2.2.2.2.2.2.2.2.2.2.2.2.2.2.2.2.2.2.2.2.2.2.2.1,bif Nat.beq (0+Int.toNat x0.1*1) 24 then r0 else x0.2.2.2.2.2.2.2.2.2.2.2.2.2.2.2.2.2.2.2.2.2.2.2.2.2.1,bif Nat.beq (0+Int.toNat x0.1*1) 25 then r0 else x0.2.2.2.2.2.2.2.2.2.2.2.2.2.2.2.2.2.2.2.2.2.2.2.2.2.2.1,bif Nat.beq (0+Int.toNat x0.1*1) 26 then r0 else x0.2.2.2.2.2.2.2.2.2.2.2.2.2.2.2.2.2.2.2.2.2.2.2.2.2.2.2.1,bif Nat.beq (0+Int.toNat x0.1*1) 27 then r0 else x0.2.2.2.2.2.2.2.2.2.2.2.2.2.2.2.2.2.2.2.2.2.2.2.2.2.2.2.2.1,bif Nat.beq (0+Int.toNat x0.1*1) 28 then r0 else x0.2.2.2.2.2.2.2.2.2.2.2.2.2.2.2.2.2.2.2.2.2.2.2.2.2.2.2.2.2.1,bif Nat.beq (0+Int.toNat x0.1*1) 29 then r0 else x0.2.2.2.2.2.2.2.2.2.2.2.2.2.2.2.2.2.2.2.2.2.2.2.2.2.2.2.2.2.2.1,bif Nat.beq (0+Int.toNat x0.1*1) 30 then r0 else x0.2.2.2.2.2.2.2.2.2.2.2.2.2.2.2.2.2.2.2.2.2.2.2.2.2.2.2.2.2.2.2.1,bif Nat.beq (0+Int.toNat x0.1*1) 31 then r0 else x0.2.2.2.2.2.2.2.2.2.2.2.2.2.2.2.2.2.2.2.2.2.2.2.2.2.2.2.2.2.2.2.2)))
    else none
    else none
   else none
   else none
  else none
  else none
 else
  some (.inr (x0.2.1,x0.2.2.1,x0.2.2.2.1,x0.2.2.2.2.1,x0.2.2.2.2.2.1,x0.2.2.2.2.2.2.1,x0.2.2.2.2.2.2.2.1,x0.2.2.2.2.2.2.2.2.1,x0.2.2.2.2.2.2.2.2.2.1,x0.2.2.2.2.2.2.2.2.2.2.1,x0.2.2.2.2.2.2.2.2.2.2.2.1,x0.2.2.2.2.2.2.2.2.2.2.2.2.1,x0.2.2.2.2.2.2.2.2.2.2.2.2.2.1,x0.2.2.2.2.2.2.2.2.2.2.2.2.2.2.1,x0.2.2.2.2.2.2.2.2.2.2.2.2.2.2.2.1,x0.2.2.2.2.2.2.2.2.2.2.2.2.2.2.2.2.1,x0.2.2.2.2.2.2.2.2.2.2.2.2.2.2.2.2.2.1,x0.2.2.2.2.2.2.2.2.2.2.2.2.2.2.2.2.2.2.1,x0.2.2.2.2.2.2.2.2.2.2.2.2.2.2.2.2.2.2.2.1,x0.2.2.2.2.2.2.2.2.2.2.2.2.2.2.2.2.2.2.2.2.1,x0.2.2.2.2.2.2.2.2.2.2.2.2.2.2.2.2.2.2.2.2.2.1,x0.2.2.2.2.2.2.2.2.2.2.2.2.2.2.2.2.2.2.2.2.2.2.1,x0.2.2.2.2.2.2.2.2.2.2.2.2.2.2.2.2.2.2.2.2.2.2.2.1,x0.2.2.2.2.2.2.2.2.2.2.2.2.2.2.2.2.2.2.2.2.2.2.2.2.1,x0.2.2.2.2.2.2.2.2.2.2.2.2.2.2.2.2.2.2.2.2.2.2.2.2.2.1,x0.2.2.2.2.2.2.2.2.2.2.2.2.2.2.2.2.2.2.2.2.2.2.2.2.2.2.1,x0.2.2.2.2.2.2.2.2.2.2.2.2.2.2.2.2.2.2.2.2.2.2.2.2.2.2.2.1,x0.2.2.2.2.2.2.2.2.2.2.2.2.2.2.2.2.2.2.2.2.2.2.2.2.2.2.2.2.1,x0.2.2.2.2.2.2.2.2.2.2.2.2.2.2.2.2.2.2.2.2.2.2.2.2.2.2.2.2.2.1,x0.2.2.2.2.2.2.2.2.2.2.2.2.2.2.2.2.2.2.2.2.2.2.2.2.2.2.2.2.2.2.1,x0.2.2.2.2.2.2.2.2.2.2.2.2.2.2.2.2.2.2.2.2.2.2.2.2.2.2.2.2.2.2.2.1,x0.2.2.2.2.2.2.2.2.2.2.2.2.2.2.2.2.2.2.2.2.2.2.2.2.2.2.2.2.2.2.2.2))
def jd1 (u4:Int × Int × Int × Int × Int × Int × Int × Int × Int × Int × Int × Int × Int × Int × Int × Int × Int × Int × Int × Int × Int × Int × Int × Int × Int × Int × Int × Int × Int × Int × Int × Int):Option (Int × Int × Int × Int × Int × Int × Int × Int × Int × Int × Int × Int × Int × Int × Int × Int × Int × Int × Int × Int × Int × Int × Int × Int × Int × Int × Int × Int × Int × Int × Int × Int) :=
 some (u4.1,u4.2.1,u4.2.2.1,u4.2.2.2.1,u4.2.2.2.2.1,u4.2.2.2.2.2.1,u4.2.2.2.2.2.2.1,u4.2.2.2.2.2.2.2.1,u4.2.2.2.2.2.2.2.2.1,u4.2.2.2.2.2.2.2.2.2.1,u4.2.2.2.2.2.2.2.2.2.2.1,u4.2.2.2.2.2.2.2.2.2.2.2.1,u4.2.2.2.2.2.2.2.2.2.2.2.2.1,u4.2.2.2.2.2.2.2.2.2.2.2.2.2.1,u4.2.2.2.2.2.2.2.2.2.2.2.2.2.2.1,u4.2.2.2.2.2.2.2.2.2.2.2.2.2.2.2.1,u4.2.2.2.2.2.2.2.2.2.2.2.2.2.2.2.2.1,u4.2.2.2.2.2.2.2.2.2.2.2.2.2.2.2.2.2.1,u4.2.2.2.2.2.2.2.2.2.2.2.2.2.2.2.2.2.2.1,u4.2.2.2.2.2.2.2.2.2.2.2.2.2.2.2.2.2.2.2.1,u4.2.2.2.2.2.2.2.2.2.2.2.2.2.2.2.2.2.2.2.2.1,u4.2.2.2.2.2.2.2.2.2.2.2.2.2.2.2.2.2.2.2.2.2.1,u4.2.2.2.2.2.2.2.2.2.2.2.2.2.2.2.2.2.2.2.2.2.2.1,u4.2.2.2.2.2.2.2.2.2.2.2.2.2.2.2.2.2.2.2.2.2.2.2.1,u4.2.2.2.2.2.2.2.2.2.2.2.2.2.2.2.2.2.2.2.2.2.2.2.2.1,u4.2.2.2.2.2.2.2.2.2.2.2.2.2.2.2.2.2.2.2.2.2.2.2.2.2.1,u4.2.2.2.2.2.2.2.2.2.2.2.2.2.2.2.2.2.2.2.2.2.2.2.2.2.2.1,u4.2.2.2.2.2.2.2.2.2.2.2.2.2.2.2.2.2.2.2.2.2.2.2.2.2.2.2.1,u4.2.2.2.2.2.2.2.2.2.2.2.2.2.2.2.2.2.2.2.2.2.2.2.2.2.2.2.2.1,u4.2.2.2.2.2.2.2.2.2.2.2.2.2.2.2.2.2.2.2.2.2.2.2.2.2.2.2.2.2.1,u4.2.2.2.2.2.2.2.2.2.2.2.2.2.2.2.2.2.2.2.2.2.2.2.2.2.2.2.2.2.2.1,u4.2.2.2.2.2.2.2.2.2.2.2.2.2.2.2.2.2.2.2.2.2.2.2.2.2.2.2.2.2.2.2)
def jai (u19:ByteArray) (u20:List (List NC)) (u21:List Int) (u16:Int) (u22:List (List Nat)) (u23:List (List (List Int))) (u24:List (List Nat)) (u25:List Int) (u26:List (List Nat)) (u27:List (List (List Int))) (u28:List Int) (u13:ByteArray) (u6:Int) (u12:List Int) (u10:List Int) (u9:List Int) (u7:Int) (u14:List (List Int)) (u15:Int) (u47:Int) (u48:Int):Option (Int × Int × Int × Int × Int × Int × Int × Int × Int × Int × Int × Int × Int × Int × Int × Int × Int × Int × Int × Int × Int × Int × Int × Int × Int × Int × Int × Int × Int × Int × Int × Int) :=
 Option.bind (jah (jd0 u19 u20 u21 u16 u22 u23 u24 u25 u26 u27 u28 u12 u10 u47 u48) big (((0:Int),0,0,0,0,0,0,0,0,0,0,0,0,0,0,0,0,0,0,0,0,0,0,0,0,0,0,0,0,0,0,0,0))) (jd1)
def jex:List Lf→Option GT
 |[.d (.s u19),.x (.st [.s,.i .i64,.ints .i64,.ints .i64,.ints .i64,.i .i64,.recs 5,.i .i64] u20),.r (.ints .i64 u21),.d (.i .i64 u16),.x (.ff .f32 u22),.x (.rr 4 u23),.r (.frs .f32 32 u24),.r (.ints .i64 u25),.r (.frs .f32 32 u26),.x (.rr 4 u27),.r (.ints .i64 u28),.d (.s u13),.d (.i .i64 u6),.r (.ints .i64 u12),.r (.ints .i64 u10),.r (.ints .i64 u9),.d (.i .i64 u7),.r (.recs 5 u14),.d (.i .i64 u15),.d (.i .i64 u47),.d (.i .i64 u48)]=>some (.leaf (ok (jai u19 u20 u21 u16 u22 u23 u24 u25 u26 u27 u28 u13 u6 u12 u10 u9 u7 u14 u15 u47 u48)) [.s [.d (.i .i64 ((val (jai u19 u20 u21 u16 u22 u23 u24 u25 u26 u27 u28 u13 u6 u12 u10 u9 u7 u14 u15 u47 u48)).1)),.d (.i .i64 ((val (jai u19 u20 u21 u16 u22 u23 u24 u25 u26 u27 u28 u13 u6 u12 u10 u9 u7 u14 u15 u47 u48)).2.1)),.d (.i .i64 ((val (jai u19 u20 u21 u16 u22 u23 u24 u25 u26 u27 u28 u13 u6 u12 u10 u9 u7 u14 u15 u47 u48)).2.2.1)),.d (.i .i64 ((val (jai u19 u20 u21 u16 u22 u23 u24 u25 u26 u27 u28 u13 u6 u12 u10 u9 u7 u14 u15 u47 u48)).2.2.2.1)),.d (.i .i64 ((val (jai u19 u20 u21 u16 u22 u23 u24 u25 u26 u27 u28 u13 u6 u12 u10 u9 u7 u14 u15 u47 u48)).2.2.2.2.1)),.d (.i .i64 ((val (jai u19 u20 u21 u16 u22 u23 u24 u25 u26 u27 u28 u13 u6 u12 u10 u9 u7 u14 u15 u47 u48)).2.2.2.2.2.1)),.d (.i .i64 ((val (jai u19 u20 u21 u16 u22 u23 u24 u25 u26 u27 u28 u13 u6 u12 u10 u9 u7 u14 u15 u47 u48)).2.2.2.2.2.2.1)),.d (.i .i64 ((val (jai u19 u20 u21 u16 u22 u23 u24 u25 u26 u27 u28 u13 u6 u12 u10 u9 u7 u14 u15 u47 u48)).2.2.2.2.2.2.2.1)),.d (.i .i64 ((val (jai u19 u20 u21 u16 u22 u23 u24 u25 u26 u27 u28 u13 u6 u12 u10 u9 u7 u14 u15 u47 u48)).2.2.2.2.2.2.2.2.1)),.d (.i .i64 ((val (jai u19 u20 u21 u16 u22 u23 u24 u25 u26 u27 u28 u13 u6 u12 u10 u9 u7 u14 u15 u47 u48)).2.2.2.2.2.2.2.2.2.1)),.d (.i .i64 ((val (jai u19 u20 u21 u16 u22 u23 u24 u25 u26 u27 u28 u13 u6 u12 u10 u9 u7 u14 u15 u47 u48)).2.2.2.2.2.2.2.2.2.2.1)),.d (.i .i64 ((val (jai u19 u20 u21 u16 u22 u23 u24 u25 u26 u27 u28 u13 u6 u12 u10 u9 u7 u14 u15 u47 u48)).2.2.2.2.2.2.2.2.2.2.2.1)),.d (.i .i64 ((val (jai u19 u20 u21 u16 u22 u23 u24 u25 u26 u27 u28 u13 u6 u12 u10 u9 u7 u14 u15 u47 u48)).2.2.2.2.2.2.2.2.2.2.2.2.1)),.d (.i .i64 ((val (jai u19 u20 u21 u16 u22 u23 u24 u25 u26 u27 u28 u13 u6 u12 u10 u9 u7 u14 u15 u47 u48)).2.2.2.2.2.2.2.2.2.2.2.2.2.1)),.d (.i .i64 ((val (jai u19 u20 u21 u16 u22 u23 u24 u25 u26 u27 u28 u13 u6 u12 u10 u9 u7 u14 u15 u47 u48)).2.2.2.2.2.2.2.2.2.2.2.2.2.2.1)),.d (.i .i64 ((val (jai u19 u20 u21 u16 u22 u23 u24 u25 u26 u27 u28 u13 u6 u12 u10 u9 u7 u14 u15 u47 u48)).2.2.2.2.2.2.2.2.2.2.2.2.2.2.2.1)),.d (.i .i64 ((val (jai u19 u20 u21 u16 u22 u23 u24 u25 u26 u27 u28 u13 u6 u12 u10 u9 u7 u14 u15 u47 u48)).2.2.2.2.2.2.2.2.2.2.2.2.2.2.2.2.1)),.d (.i .i64 ((val (jai u19 u20 u21 u16 u22 u23 u24 u25 u26 u27 u28 u13 u6 u12 u10 u9 u7 u14 u15 u47 u48)).2.2.2.2.2.2.2.2.2.2.2.2.2.2.2.2.2.1)),.d (.i .i64 ((val (jai u19 u20 u21 u16 u22 u23 u24 u25 u26 u27 u28 u13 u6 u12 u10 u9 u7 u14 u15 u47 u48)).2.2.2.2.2.2.2.2.2.2.2.2.2.2.2.2.2.2.1)),.d (.i .i64 ((val (jai u19 u20 u21 u16 u22 u23 u24 u25 u26 u27 u28 u13 u6 u12 u10 u9 u7 u14 u15 u47 u48)).2.2.2.2.2.2.2.2.2.2.2.2.2.2.2.2.2.2.2.1)),.d (.i .i64 ((val (jai u19 u20 u21 u16 u22 u23 u24 u25 u26 u27 u28 u13 u6 u12 u10 u9 u7 u14 u15 u47 u48)).2.2.2.2.2.2.2.2.2.2.2.2.2.2.2.2.2.2.2.2.1)),.d (.i .i64 ((val (jai u19 u20 u21 u16 u22 u23 u24 u25 u26 u27 u28 u13 u6 u12 u10 u9 u7 u14 u15 u47 u48)).2.2.2.2.2.2.2.2.2.2.2.2.2.2.2.2.2.2.2.2.2.1)),.d (.i .i64 ((val (jai u19 u20 u21 u16 u22 u23 u24 u25 u26 u27 u28 u13 u6 u12 u10 u9 u7 u14 u15 u47 u48)).2.2.2.2.2.2.2.2.2.2.2.2.2.2.2.2.2.2.2.2.2.2.1)),.d (.i .i64 ((val (jai u19 u20 u21 u16 u22 u23 u24 u25 u26 u27 u28 u13 u6 u12 u10 u9 u7 u14 u15 u47 u48)).2.2.2.2.2.2.2.2.2.2.2.2.2.2.2.2.2.2.2.2.2.2.2.1)),.d (.i .i64 ((val (jai u19 u20 u21 u16 u22 u23 u24 u25 u26 u27 u28 u13 u6 u12 u10 u9 u7 u14 u15 u47 u48)).2.2.2.2.2.2.2.2.2.2.2.2.2.2.2.2.2.2.2.2.2.2.2.2.1)),.d (.i .i64 ((val (jai u19 u20 u21 u16 u22 u23 u24 u25 u26 u27 u28 u13 u6 u12 u10 u9 u7 u14 u15 u47 u48)).2.2.2.2.2.2.2.2.2.2.2.2.2.2.2.2.2.2.2.2.2.2.2.2.2.1)),.d (.i .i64 ((val (jai u19 u20 u21 u16 u22 u23 u24 u25 u26 u27 u28 u13 u6 u12 u10 u9 u7 u14 u15 u47 u48)).2.2.2.2.2.2.2.2.2.2.2.2.2.2.2.2.2.2.2.2.2.2.2.2.2.2.1)),.d (.i .i64 ((val (jai u19 u20 u21 u16 u22 u23 u24 u25 u26 u27 u28 u13 u6 u12 u10 u9 u7 u14 u15 u47 u48)).2.2.2.2.2.2.2.2.2.2.2.2.2.2.2.2.2.2.2.2.2.2.2.2.2.2.2.1)),.d (.i .i64 ((val (jai u19 u20 u21 u16 u22 u23 u24 u25 u26 u27 u28 u13 u6 u12 u10 u9 u7 u14 u15 u47 u48)).2.2.2.2.2.2.2.2.2.2.2.2.2.2.2.2.2.2.2.2.2.2.2.2.2.2.2.2.1)),.d (.i .i64 ((val (jai u19 u20 u21 u16 u22 u23 u24 u25 u26 u27 u28 u13 u6 u12 u10 u9 u7 u14 u15 u47 u48)).2.2.2.2.2.2.2.2.2.2.2.2.2.2.2.2.2.2.2.2.2.2.2.2.2.2.2.2.2.1)),.d (.i .i64 ((val (jai u19 u20 u21 u16 u22 u23 u24 u25 u26 u27 u28 u13 u6 u12 u10 u9 u7 u14 u15 u47 u48)).2.2.2.2.2.2.2.2.2.2.2.2.2.2.2.2.2.2.2.2.2.2.2.2.2.2.2.2.2.2.1)),.d (.i .i64 ((val (jai u19 u20 u21 u16 u22 u23 u24 u25 u26 u27 u28 u13 u6 u12 u10 u9 u7 u14 u15 u47 u48)).2.2.2.2.2.2.2.2.2.2.2.2.2.2.2.2.2.2.2.2.2.2.2.2.2.2.2.2.2.2.2))]])
 |_=>none
abbrev jgR (u19:ByteArray) (u20:List (List NC)) (u21:List Int) (u16:Int) (u22:List (List Nat)) (u23:List (List (List Int))) (u24:List (List Nat)) (u25:List Int) (u26:List (List Nat)) (u27:List (List (List Int))) (u28:List Int) (u13:ByteArray) (u6:Int) (u12:List Int) (u10:List Int) (u9:List Int) (u7:Int) (u14:List (List Int)) (u15:Int) (u47:Int) (u48:Int) (r:Int × Int × Int × Int × Int × Int × Int × Int × Int × Int × Int × Int × Int × Int × Int × Int × Int × Int × Int × Int × Int × Int × Int × Int × Int × Int × Int × Int × Int × Int × Int × Int):Lp ((Int × Int × Int × Int × Int × Int × Int × Int × Int × Int × Int × Int × Int × Int × Int × Int × Int × Int × Int × Int × Int × Int × Int × Int × Int × Int × Int × Int × Int × Int × Int × Int × Int) × Nat) (Int × Int × Int × Int × Int × Int × Int × Int × Int × Int × Int × Int × Int × Int × Int × Int × Int × Int × Int × Int × Int × Int × Int × Int × Int × Int × Int × Int × Int × Int × Int × Int × Int) (Int × Int × Int × Int × Int × Int × Int × Int × Int × Int × Int × Int × Int × Int × Int × Int × Int × Int × Int × Int × Int × Int × Int × Int × Int × Int × Int × Int × Int × Int × Int × Int) (Int × Int × Int × Int × Int × Int × Int × Int × Int × Int × Int × Int × Int × Int × Int × Int × Int × Int × Int × Int × Int × Int × Int × Int × Int × Int × Int × Int × Int × Int × Int × Int) (Int × Int × Int × Int × Int × Int × Int × Int × Int × Int × Int × Int × Int × Int × Int × Int × Int × Int × Int × Int × Int × Int × Int × Int × Int × Int × Int × Int × Int × Int × Int × Int) :=
 ⟨fun z=>Prod.fst z,fun z=>Prod.snd z,fun z x n=>(x,n),fun z=>jd0 u19 u20 u21 u16 u22 u23 u24 u25 u26 u27 u28 u12 u10 u47 u48,fun z=>jd1,fun z=>top r,fun z=>0,[.c fun _=>0,.c fun _=>u47,.c fun _=>u48,.c fun _=>0,.c fun _=>0,.c fun _=>0,.c fun vv=>vv.1.1,.c fun _=>0,.c fun _=>u16,.c fun _=>u13,.c fun _=>u6,.c fun _=>u7,.c fun _=>u15,.c fun _=>(0:Int),.c fun _=>(0:Int),.c fun _=>(0:Int),.c fun _=>(0:Int),.c fun _=>(0:Int),.c fun _=>(0:Int),.c fun _=>(0:Int),.c fun _=>(0:Int),.c fun _=>(0:Int),.c fun _=>(0:Int),.c fun _=>(0:Int),.c fun _=>(0:Int),.c fun _=>(0:Int),.c fun _=>(0:Int),.c fun _=>(0:Int),.c fun _=>(0:Int),.c fun _=>(0:Int),.c fun _=>(0:Int),.c fun _=>(0:Int),.c fun _=>(0:Int),.c fun _=>(0:Int),.c fun _=>(0:Int),.c fun _=>(0:Int),.c fun _=>(0:Int),.c fun _=>(0:Int),.c fun _=>(0:Int),.c fun _=>(0:Int),.c fun _=>(0:Int),.c fun _=>(0:Int),.c fun _=>(0:Int),.c fun _=>(0:Int),.c fun _=>(0:Int),.c fun vv=>vv.1.2.1,.c fun vv=>vv.1.2.2.1,.c fun vv=>vv.1.2.2.2.1,.c fun vv=>vv.1.2.2.2.2.1,.c fun vv=>vv.1.2.2.2.2.2.1,.c fun vv=>vv.1.2.2.2.2.2.2.1,.c fun vv=>vv.1.2.2.2.2.2.2.2.1,.c fun vv=>vv.1.2.2.2.2.2.2.2.2.1,.c fun vv=>vv.1.2.2.2.2.2.2.2.2.2.1,.c fun vv=>vv.1.2.2.2.2.2.2.2.2.2.2.1,.c fun vv=>vv.1.2.2.2.2.2.2.2.2.2.2.2.1,.c fun vv=>vv.1.2.2.2.2.2.2.2.2.2.2.2.2.1,.c fun vv=>vv.1.2.2.2.2.2.2.2.2.2.2.2.2.2.1,.c fun vv=>vv.1.2.2.2.2.2.2.2.2.2.2.2.2.2.2.1,.c fun vv=>vv.1.2.2.2.2.2.2.2.2.2.2.2.2.2.2.2.1,.c fun vv=>vv.1.2.2.2.2.2.2.2.2.2.2.2.2.2.2.2.2.1,.c fun vv=>vv.1.2.2.2.2.2.2.2.2.2.2.2.2.2.2.2.2.2.1,.c fun vv=>vv.1.2.2.2.2.2.2.2.2.2.2.2.2.2.2.2.2.2.2.1,.c fun vv=>vv.1.2.2.2.2.2.2.2.2.2.2.2.2.2.2.2.2.2.2.2.1,.c fun vv=>vv.1.2.2.2.2.2.2.2.2.2.2.2.2.2.2.2.2.2.2.2.2.1,.c fun vv=>vv.1.2.2.2.2.2.2.2.2.2.2.2.2.2.2.2.2.2.2.2.2.2.1,.c fun vv=>vv.1.2.2.2.2.2.2.2.2.2.2.2.2.2.2.2.2.2.2.2.2.2.2.1,.c fun vv=>vv.1.2.2.2.2.2.2.2.2.2.2.2.2.2.2.2.2.2.2.2.2.2.2.2.1,.c fun vv=>vv.1.2.2.2.2.2.2.2.2.2.2.2.2.2.2.2.2.2.2.2.2.2.2.2.2.1,.c fun vv=>vv.1.2.2.2.2.2.2.2.2.2.2.2.2.2.2.2.2.2.2.2.2.2.2.2.2.2.1,.c fun vv=>vv.1.2.2.2.2.2.2.2.2.2.2.2.2.2.2.2.2.2.2.2.2.2.2.2.2.2.2.1,.c fun vv=>vv.1.2.2.2.2.2.2.2.2.2.2.2.2.2.2.2.2.2.2.2.2.2.2.2.2.2.2.2.1,.c fun vv=>vv.1.2.2.2.2.2.2.2.2.2.2.2.2.2.2.2.2.2.2.2.2.2.2.2.2.2.2.2.2.1,.c fun vv=>vv.1.2.2.2.2.2.2.2.2.2.2.2.2.2.2.2.2.2.2.2.2.2.2.2.2.2.2.2.2.2.1,.c fun vv=>vv.1.2.2.2.2.2.2.2.2.2.2.2.2.2.2.2.2.2.2.2.2.2.2.2.2.2.2.2.2.2.2.1,.c fun vv=>vv.1.2.2.2.2.2.2.2.2.2.2.2.2.2.2.2.2.2.2.2.2.2.2.2.2.2.2.2.2.2.2.2.1,.c fun vv=>vv.1.2.2.2.2.2.2.2.2.2.2.2.2.2.2.2.2.2.2.2.2.2.2.2.2.2.2.2.2.2.2.2.2,.c fun _=>u19,.c fun _=>u22,.c fun _=>u23,.c fun _=>u24,.c fun _=>u25,.c fun _=>u26,.c fun _=>u27,.c fun _=>u28,.c fun _=>u12,.c fun _=>u10,.c fun _=>u9,.c fun _=>u14,.c fun _=>u20,.c fun _=>u21]⟩
def jny (u19:ByteArray) (u20:List (List NC)) (u21:List Int) (u16:Int) (u22:List (List Nat)) (u23:List (List (List Int))) (u24:List (List Nat)) (u25:List Int) (u26:List (List Nat)) (u27:List (List (List Int))) (u28:List Int) (u13:ByteArray) (u6:Int) (u12:List Int) (u10:List Int) (u9:List Int) (u7:Int) (u14:List (List Int)) (u15:Int) (u47:Int) (u48:Int) (r:Int × Int × Int × Int × Int × Int × Int × Int × Int × Int × Int × Int × Int × Int × Int × Int × Int × Int × Int × Int × Int × Int × Int × Int × Int × Int × Int × Int × Int × Int × Int × Int):Sk (top r) (Option.bind (jah (jd0 u19 u20 u21 u16 u22 u23 u24 u25 u26 u27 u28 u12 u10 u47 u48) big (((0:Int),0,0,0,0,0,0,0,0,0,0,0,0,0,0,0,0,0,0,0,0,0,0,0,0,0,0,0,0,0,0,0,0))) (jd1)) :=
 .loop (jgR u19 u20 u21 u16 u22 u23 u24 u25 u26 u27 u28 u13 u6 u12 u10 u9 u7 u14 u15 u47 u48 r) (fun kk=>(((0:Int),0,0,0,0,0,0,0,0,0,0,0,0,0,0,0,0,0,0,0,0,0,0,0,0,0,0,0,0,0,0,0,0),big)) fun z0 =>
 .br
 (.ob (.ob (.ob (.ob (.call (.ob (.ob (.next))))))))
 (.exit (.obT (.rc)))
def joW (u19:ByteArray) (u20:List (List NC)) (u21:List Int) (u16:Int) (u22:List (List Nat)) (u23:List (List (List Int))) (u24:List (List Nat)) (u25:List Int) (u26:List (List Nat)) (u27:List (List (List Int))) (u28:List Int) (u13:ByteArray) (u6:Int) (u12:List Int) (u10:List Int) (u9:List Int) (u7:Int) (u14:List (List Int)) (u15:Int) (u47:Int) (u48:Int) (r:Int × Int × Int × Int × Int × Int × Int × Int × Int × Int × Int × Int × Int × Int × Int × Int × Int × Int × Int × Int × Int × Int × Int × Int × Int × Int × Int × Int × Int × Int × Int × Int):Sk (top r) (jai u19 u20 u21 u16 u22 u23 u24 u25 u26 u27 u28 u13 u6 u12 u10 u9 u7 u14 u15 u47 u48) :=
 jny u19 u20 u21 u16 u22 u23 u24 u25 u26 u27 u28 u13 u6 u12 u10 u9 u7 u14 u15 u47 u48 r
theorem jnz (u19:ByteArray) (u20:List (List NC)) (u21:List Int) (u16:Int) (u22:List (List Nat)) (u23:List (List (List Int))) (u24:List (List Nat)) (u25:List Int) (u26:List (List Nat)) (u27:List (List (List Int))) (u28:List Int) (u13:ByteArray) (u6:Int) (u12:List Int) (u10:List Int) (u9:List Int) (u7:Int) (u14:List (List Int)) (u15:Int) (u47:Int) (u48:Int) (r:Int × Int × Int × Int × Int × Int × Int × Int × Int × Int × Int × Int × Int × Int × Int × Int × Int × Int × Int × Int × Int × Int × Int × Int × Int × Int × Int × Int × Int × Int × Int × Int) (h:Option.bind (jai u19 u20 u21 u16 u22 u23 u24 u25 u26 u27 u28 u13 u6 u12 u10 u9 u7 u14 u15 u47 u48) some=some r):ja0 Tryz.f148 ((sp_149 sp0)) (fun gs id _=>match id with
 |0=>some ⟨(Int × Int × Int × Int × Int × Int × Int × Int × Int × Int × Int × Int × Int × Int × Int × Int × Int × Int × Int × Int × Int × Int × Int × Int × Int × Int × Int × Int × Int × Int × Int × Int × Int) × Nat,fun z=>⟨[(0,.w (.c (.p 10 0 1 0))),(2,.w (.c (.d (.i .i64 u47)))),(3,.w (.c (.d (.i .i64 u48)))),(5,.w (.c (.p 15 0 1 0))),(8,.w (.c (.p 16 0 1 0))),(9,.w (.c (.p 17 0 1 0))),(11,.w (.c (.d (.i .i64 (Prod.fst (Prod.fst z))))))],[(10,.ebox [.p 2 0 1 0,.d (.i .i64 u16),.o 3,.o 4,.o 5,.o 6,.o 7,.o 8,.o 9]),(15,.box 118 [.d (.s u13),.d (.i .i64 u6),.o 11,.o 12,.o 13,.d (.i .i64 u7),.o 14,.d (.i .i64 u15)]),(16,.box 206 [.d (.i .i64 0),.d (.i .i64 0),.d (.i .i64 0),.d (.i .i64 0),.d (.i .i64 0),.d (.i .i64 0),.d (.i .i64 0),.d (.i .i64 0),.d (.i .i64 0),.d (.i .i64 0),.d (.i .i64 0),.d (.i .i64 0),.d (.i .i64 0),.d (.i .i64 0),.d (.i .i64 0),.d (.i .i64 0),.d (.i .i64 0),.d (.i .i64 0),.d (.i .i64 0),.d (.i .i64 0),.d (.i .i64 0),.d (.i .i64 0),.d (.i .i64 0),.d (.i .i64 0),.d (.i .i64 0),.d (.i .i64 0),.d (.i .i64 0),.d (.i .i64 0),.d (.i .i64 0),.d (.i .i64 0),.d (.i .i64 0),.d (.i .i64 0)]),(17,.box 206 [.d (.i .i64 (Prod.fst (Prod.snd (Prod.fst z)))),.d (.i .i64 (Prod.fst (Prod.snd (Prod.snd (Prod.fst z))))),.d (.i .i64 (Prod.fst (Prod.snd (Prod.snd (Prod.snd (Prod.fst z)))))),.d (.i .i64 (Prod.fst (Prod.snd (Prod.snd (Prod.snd (Prod.snd (Prod.fst z))))))),.d (.i .i64 (Prod.fst (Prod.snd (Prod.snd (Prod.snd (Prod.snd (Prod.snd (Prod.fst z)))))))),.d (.i .i64 (Prod.fst (Prod.snd (Prod.snd (Prod.snd (Prod.snd (Prod.snd (Prod.snd (Prod.fst z))))))))),.d (.i .i64 (Prod.fst (Prod.snd (Prod.snd (Prod.snd (Prod.snd (Prod.snd (Prod.snd (Prod.snd (Prod.fst z)))))))))),.d (.i .i64 (Prod.fst (Prod.snd (Prod.snd (Prod.snd (Prod.snd (Prod.snd (Prod.snd (Prod.snd (Prod.snd (Prod.fst z))))))))))),.d (.i .i64 (Prod.fst (Prod.snd (Prod.snd (Prod.snd (Prod.snd (Prod.snd (Prod.snd (Prod.snd (Prod.snd (Prod.snd (Prod.fst z)))))))))))),.d (.i .i64 (Prod.fst (Prod.snd (Prod.snd (Prod.snd (Prod.snd (Prod.snd (Prod.snd (Prod.snd (Prod.snd (Prod.snd (Prod.snd (Prod.fst z))))))))))))),.d (.i .i64 (Prod.fst (Prod.snd (Prod.snd (Prod.snd (Prod.snd (Prod.snd (Prod.snd (Prod.snd (Prod.snd (Prod.snd (Prod.snd (Prod.snd (Prod.fst z)))))))))))))),.d (.i .i64 (Prod.fst (Prod.snd (Prod.snd (Prod.snd (Prod.snd (Prod.snd (Prod.snd (Prod.snd (Prod.snd (Prod.snd (Prod.snd (Prod.snd (Prod.snd (Prod.fst z))))))))))))))),.d (.i .i64 (Prod.fst (Prod.snd (Prod.snd (Prod.snd (Prod.snd (Prod.snd (Prod.snd (Prod.snd (Prod.snd (Prod.snd (Prod.snd (Prod.snd (Prod.snd (Prod.snd (Prod.fst z)))))))))))))))),.d (.i .i64 (Prod.fst (Prod.snd (Prod.snd (Prod.snd (Prod.snd (Prod.snd (Prod.snd (Prod.snd (Prod.snd (Prod.snd (Prod.snd (Prod.snd (Prod.snd (Prod.snd (Prod.snd (Prod.fst z))))))))))))))))),.d (.i .i64 (Prod.fst (Prod.snd (Prod.snd (Prod.snd (Prod.snd (Prod.snd (Prod.snd (Prod.snd (Prod.snd (Prod.snd (Prod.snd (Prod.snd (Prod.snd (Prod.snd (Prod.snd (Prod.snd (Prod.fst z)))))))))))))))))),.d (.i .i64 (Prod.fst (Prod.snd (Prod.snd (Prod.snd (Prod.snd (Prod.snd (Prod.snd (Prod.snd (Prod.snd (Prod.snd (Prod.snd (Prod.snd (Prod.snd (Prod.snd (Prod.snd (Prod.snd (Prod.snd (Prod.fst z))))))))))))))))))),.d (.i .i64 (Prod.fst (Prod.snd (Prod.snd (Prod.snd (Prod.snd (Prod.snd (Prod.snd (Prod.snd (Prod.snd (Prod.snd (Prod.snd (Prod.snd (Prod.snd (Prod.snd (Prod.snd (Prod.snd (Prod.snd (Prod.snd (Prod.fst z)))))))))))))))))))),.d (.i .i64 (Prod.fst (Prod.snd (Prod.snd (Prod.snd (Prod.snd (Prod.snd (Prod.snd (Prod.snd (Prod.snd (Prod.snd (Prod.snd (Prod.snd (Prod.snd (Prod.snd (Prod.snd (Prod.snd (Prod.snd (Prod.snd (Prod.snd (Prod.fst z))))))))))))))))))))),.d (.i .i64 (Prod.fst (Prod.snd (Prod.snd (Prod.snd (Prod.snd (Prod.snd (Prod.snd (Prod.snd (Prod.snd (Prod.snd (Prod.snd (Prod.snd (Prod.snd (Prod.snd (Prod.snd (Prod.snd (Prod.snd (Prod.snd (Prod.snd (Prod.snd (Prod.fst z)))))))))))))))))))))),.d (.i .i64 (Prod.fst (Prod.snd (Prod.snd (Prod.snd (Prod.snd (Prod.snd (Prod.snd (Prod.snd (Prod.snd (Prod.snd (Prod.snd (Prod.snd (Prod.snd (Prod.snd (Prod.snd (Prod.snd (Prod.snd (Prod.snd (Prod.snd (Prod.snd (Prod.snd (Prod.fst z))))))))))))))))))))))),.d (.i .i64 (Prod.fst (Prod.snd (Prod.snd (Prod.snd (Prod.snd (Prod.snd (Prod.snd (Prod.snd (Prod.snd (Prod.snd (Prod.snd (Prod.snd (Prod.snd (Prod.snd (Prod.snd (Prod.snd (Prod.snd (Prod.snd (Prod.snd (Prod.snd (Prod.snd (Prod.snd (Prod.fst z)))))))))))))))))))))))),.d (.i .i64 (Prod.fst (Prod.snd (Prod.snd (Prod.snd (Prod.snd (Prod.snd (Prod.snd (Prod.snd (Prod.snd (Prod.snd (Prod.snd (Prod.snd (Prod.snd (Prod.snd (Prod.snd (Prod.snd (Prod.snd (Prod.snd (Prod.snd (Prod.snd (Prod.snd (Prod.snd (Prod.snd (Prod.fst z))))))))))))))))))))))))),.d (.i .i64 (Prod.fst (Prod.snd (Prod.snd (Prod.snd (Prod.snd (Prod.snd (Prod.snd (Prod.snd (Prod.snd (Prod.snd (Prod.snd (Prod.snd (Prod.snd (Prod.snd (Prod.snd (Prod.snd (Prod.snd (Prod.snd (Prod.snd (Prod.snd (Prod.snd (Prod.snd (Prod.snd (Prod.snd (Prod.fst z)))))))))))))))))))))))))),.d (.i .i64 (Prod.fst (Prod.snd (Prod.snd (Prod.snd (Prod.snd (Prod.snd (Prod.snd (Prod.snd (Prod.snd (Prod.snd (Prod.snd (Prod.snd (Prod.snd (Prod.snd (Prod.snd (Prod.snd (Prod.snd (Prod.snd (Prod.snd (Prod.snd (Prod.snd (Prod.snd (Prod.snd (Prod.snd (Prod.snd (Prod.fst z))))))))))))))))))))))))))),.d (.i .i64 (Prod.fst (Prod.snd (Prod.snd (Prod.snd (Prod.snd (Prod.snd (Prod.snd (Prod.snd (Prod.snd (Prod.snd (Prod.snd (Prod.snd (Prod.snd (Prod.snd (Prod.snd (Prod.snd (Prod.snd (Prod.snd (Prod.snd (Prod.snd (Prod.snd (Prod.snd (Prod.snd (Prod.snd (Prod.snd (Prod.snd (Prod.fst z)))))))))))))))))))))))))))),.d (.i .i64 (Prod.fst (Prod.snd (Prod.snd (Prod.snd (Prod.snd (Prod.snd (Prod.snd (Prod.snd (Prod.snd (Prod.snd (Prod.snd (Prod.snd (Prod.snd (Prod.snd (Prod.snd (Prod.snd (Prod.snd (Prod.snd (Prod.snd (Prod.snd (Prod.snd (Prod.snd (Prod.snd (Prod.snd (Prod.snd (Prod.snd (Prod.snd (Prod.fst z))))))))))))))))))))))))))))),.d (.i .i64 (Prod.fst (Prod.snd (Prod.snd (Prod.snd (Prod.snd (Prod.snd (Prod.snd (Prod.snd (Prod.snd (Prod.snd (Prod.snd (Prod.snd (Prod.snd (Prod.snd (Prod.snd (Prod.snd (Prod.snd (Prod.snd (Prod.snd (Prod.snd (Prod.snd (Prod.snd (Prod.snd (Prod.snd (Prod.snd (Prod.snd (Prod.snd (Prod.snd (Prod.fst z)))))))))))))))))))))))))))))),.d (.i .i64 (Prod.fst (Prod.snd (Prod.snd (Prod.snd (Prod.snd (Prod.snd (Prod.snd (Prod.snd (Prod.snd (Prod.snd (Prod.snd (Prod.snd (Prod.snd (Prod.snd (Prod.snd (Prod.snd (Prod.snd (Prod.snd (Prod.snd (Prod.snd (Prod.snd (Prod.snd (Prod.snd (Prod.snd (Prod.snd (Prod.snd (Prod.snd (Prod.snd (Prod.snd (Prod.fst z))))))))))))))))))))))))))))))),.d (.i .i64 (Prod.fst (Prod.snd (Prod.snd (Prod.snd (Prod.snd (Prod.snd (Prod.snd (Prod.snd (Prod.snd (Prod.snd (Prod.snd (Prod.snd (Prod.snd (Prod.snd (Prod.snd (Prod.snd (Prod.snd (Prod.snd (Prod.snd (Prod.snd (Prod.snd (Prod.snd (Prod.snd (Prod.snd (Prod.snd (Prod.snd (Prod.snd (Prod.snd (Prod.snd (Prod.snd (Prod.fst z)))))))))))))))))))))))))))))))),.d (.i .i64 (Prod.fst (Prod.snd (Prod.snd (Prod.snd (Prod.snd (Prod.snd (Prod.snd (Prod.snd (Prod.snd (Prod.snd (Prod.snd (Prod.snd (Prod.snd (Prod.snd (Prod.snd (Prod.snd (Prod.snd (Prod.snd (Prod.snd (Prod.snd (Prod.snd (Prod.snd (Prod.snd (Prod.snd (Prod.snd (Prod.snd (Prod.snd (Prod.snd (Prod.snd (Prod.snd (Prod.snd (Prod.fst z))))))))))))))))))))))))))))))))),.d (.i .i64 (Prod.fst (Prod.snd (Prod.snd (Prod.snd (Prod.snd (Prod.snd (Prod.snd (Prod.snd (Prod.snd (Prod.snd (Prod.snd (Prod.snd (Prod.snd (Prod.snd (Prod.snd (Prod.snd (Prod.snd (Prod.snd (Prod.snd (Prod.snd (Prod.snd (Prod.snd (Prod.snd (Prod.snd (Prod.snd (Prod.snd (Prod.snd (Prod.snd (Prod.snd (Prod.snd (Prod.snd (Prod.snd (Prod.fst z)))))))))))))))))))))))))))))))))),.d (.i .i64 (Prod.snd (Prod.snd (Prod.snd (Prod.snd (Prod.snd (Prod.snd (Prod.snd (Prod.snd (Prod.snd (Prod.snd (Prod.snd (Prod.snd (Prod.snd (Prod.snd (Prod.snd (Prod.snd (Prod.snd (Prod.snd (Prod.snd (Prod.snd (Prod.snd (Prod.snd (Prod.snd (Prod.snd (Prod.snd (Prod.snd (Prod.snd (Prod.snd (Prod.snd (Prod.snd (Prod.snd (Prod.snd (Prod.fst z))))))))))))))))))))))))))))))))))]),(2,.ebox [.d (.s u19),.o 0,.o 1]),(3,.xext (XC.ff .f32 u22)),(4,.xext (XC.rr (4:Nat) u23)),(5,.ext (.frs .f32 32 u24)),(6,.ext (.ints .i64 u25)),(7,.ext (.frs .f32 32 u26)),(8,.xext (XC.rr (4:Nat) u27)),(9,.ext (.ints .i64 u28)),(11,.ext (.ints .i64 u12)),(12,.ext (.ints .i64 u10)),(13,.ext (.ints .i64 u9)),(14,.ext (.recs 5 u14)),(0,.xext (XC.st [NK.s,NK.i .i64,NK.ints .i64,NK.ints .i64,NK.ints .i64,NK.i .i64,NK.recs (5:Nat),NK.i .i64] u20)),(1,.ext (.ints .i64 u21))],18⟩,fun z=>(jgR u19 u20 u21 u16 u22 u23 u24 u25 u26 u27 u28 u13 u6 u12 u10 u9 u7 u14 u15 u47 u48 r).inv z,fun z=>Prod.snd z⟩
 |_=>none) (jaV jew [.d (.s u19),.x (.st [.s,.i .i64,.ints .i64,.ints .i64,.ints .i64,.i .i64,.recs 5,.i .i64] u20),.r (.ints .i64 u21),.d (.i .i64 u16),.x (.ff .f32 u22),.x (.rr 4 u23),.r (.frs .f32 32 u24),.r (.ints .i64 u25),.r (.frs .f32 32 u26),.x (.rr 4 u27),.r (.ints .i64 u28),.d (.s u13),.d (.i .i64 u6),.r (.ints .i64 u12),.r (.ints .i64 u10),.r (.ints .i64 u9),.d (.i .i64 u7),.r (.recs 5 u14),.d (.i .i64 u15),.d (.i .i64 u47),.d (.i .i64 u48)]) [.s [.d (.i .i64 r.1),.d (.i .i64 r.2.1),.d (.i .i64 r.2.2.1),.d (.i .i64 r.2.2.2.1),.d (.i .i64 r.2.2.2.2.1),.d (.i .i64 r.2.2.2.2.2.1),.d (.i .i64 r.2.2.2.2.2.2.1),.d (.i .i64 r.2.2.2.2.2.2.2.1),.d (.i .i64 r.2.2.2.2.2.2.2.2.1),.d (.i .i64 r.2.2.2.2.2.2.2.2.2.1),.d (.i .i64 r.2.2.2.2.2.2.2.2.2.2.1),.d (.i .i64 r.2.2.2.2.2.2.2.2.2.2.2.1),.d (.i .i64 r.2.2.2.2.2.2.2.2.2.2.2.2.1),.d (.i .i64 r.2.2.2.2.2.2.2.2.2.2.2.2.2.1),.d (.i .i64 r.2.2.2.2.2.2.2.2.2.2.2.2.2.2.1),.d (.i .i64 r.2.2.2.2.2.2.2.2.2.2.2.2.2.2.2.1),.d (.i .i64 r.2.2.2.2.2.2.2.2.2.2.2.2.2.2.2.2.1),.d (.i .i64 r.2.2.2.2.2.2.2.2.2.2.2.2.2.2.2.2.2.1),.d (.i .i64 r.2.2.2.2.2.2.2.2.2.2.2.2.2.2.2.2.2.2.1),.d (.i .i64 r.2.2.2.2.2.2.2.2.2.2.2.2.2.2.2.2.2.2.2.1),.d (.i .i64 r.2.2.2.2.2.2.2.2.2.2.2.2.2.2.2.2.2.2.2.2.1),.d (.i .i64 r.2.2.2.2.2.2.2.2.2.2.2.2.2.2.2.2.2.2.2.2.2.1),.d (.i .i64 r.2.2.2.2.2.2.2.2.2.2.2.2.2.2.2.2.2.2.2.2.2.2.1),.d (.i .i64 r.2.2.2.2.2.2.2.2.2.2.2.2.2.2.2.2.2.2.2.2.2.2.2.1),.d (.i .i64 r.2.2.2.2.2.2.2.2.2.2.2.2.2.2.2.2.2.2.2.2.2.2.2.2.1),.d (.i .i64 r.2.2.2.2.2.2.2.2.2.2.2.2.2.2.2.2.2.2.2.2.2.2.2.2.2.1),.d (.i .i64 r.2.2.2.2.2.2.2.2.2.2.2.2.2.2.2.2.2.2.2.2.2.2.2.2.2.2.1),.d (.i .i64 r.2.2.2.2.2.2.2.2.2.2.2.2.2.2.2.2.2.2.2.2.2.2.2.2.2.2.2.1),.d (.i .i64 r.2.2.2.2.2.2.2.2.2.2.2.2.2.2.2.2.2.2.2.2.2.2.2.2.2.2.2.2.1),.d (.i .i64 r.2.2.2.2.2.2.2.2.2.2.2.2.2.2.2.2.2.2.2.2.2.2.2.2.2.2.2.2.2.1),.d (.i .i64 r.2.2.2.2.2.2.2.2.2.2.2.2.2.2.2.2.2.2.2.2.2.2.2.2.2.2.2.2.2.2.1),.d (.i .i64 r.2.2.2.2.2.2.2.2.2.2.2.2.2.2.2.2.2.2.2.2.2.2.2.2.2.2.2.2.2.2.2)]] :=
 Sk.vc (joW u19 u20 u21 u16 u22 u23 u24 u25 u26 u27 u28 u13 u6 u12 u10 u9 u7 u14 u15 u47 u48 r) (by kernel_rfl) h
theorem jnA:jaf Tryz.prog 148 true (jag jew jex):=by
 refine jav (sp:=(sp_149 sp0)) (fn:=Tryz.f148) (body:=bodyOf Tryz.f148) mixed (sp_149_ok jar) Tryz.func148 (by kernel_rfl) (by kernel_rfl) fun ls t h ho b hb=>?_
 unfold jex at h
 split at h
 ·rename_i u19 u20 u21 u16 u22 u23 u24 u25 u26 u27 u28 u13 u6 u12 u10 u9 u7 u14 u15 u47 u48
  cases h
  obtain rfl:=jaE hb
  exact⟨Nat.le_of_ble_eq_true (by kernel_rfl),_,_,jnz u19 u20 u21 u16 u22 u23 u24 u25 u26 u27 u28 u13 u6 u12 u10 u9 u7 u14 u15 u47 u48 _ (jal ho)⟩
 ·cases h
end Go.Sh
end

section
namespace Go.Sh
open Go Go.Proofs Go.RowKit Go.Sx
open Go.IntKind (wrap)
def jey:List SV:=[.c (.p [.p [.d,.x (.st [.s,.i .i64,.ints .i64,.ints .i64,.ints .i64,.i .i64,.recs 5,.i .i64] []),.r (.ints .i64 [])],.d,.x (.ff .f32 []),.x (.rr 4 []),.r (.frs .f32 32 []),.r (.ints .i64 []),.r (.frs .f32 32 []),.x (.rr 4 []),.r (.ints .i64 [])])]
def jgS (u19:ByteArray) (u20:List (List NC)) (u21:List Int) (u16:Int) (u22:List (List Nat)) (u23:List (List (List Int))) (u24:List (List Nat)) (u25:List Int) (u26:List (List Nat)) (u27:List (List (List Int))) (u28:List Int) (x0:Int × List (List Nat)) (x1:(Int × List Nat)):Option ((Int × List Nat) ⊕ (List Nat)) :=
 if x1.1<32 then
  Option.bind (jp0 u19 u20 u21 u16 u22 u23 u24 u25 u26 u27 u28 x0.1 x1.1) fun r0 =>
  if(List.length x1.2+List.length [FloatKind.nearest .f32 r0])*4≤140737488355328∧List.length x1.2+List.length [FloatKind.nearest .f32 r0]≤9223372036854775807 then
  some (.inl ((wrap .i64 (x1.1+1),x1.2++[FloatKind.nearest .f32 r0])))
  else none
 else
  some (.inr x1.2)
def jgT (x0:Int × List (List Nat)) (u32:List Nat):Option ((Int × List (List Nat)) ⊕ (List (List Nat))) :=
 if(List.length x0.2+List.length (List.map (fun r=>NC.toFlts (List.headD r (NC.d (D.v undef)))) [[NC.r (Cont.floats .f32 u32)]]))*24≤140737488355328∧List.length x0.2+List.length (List.map (fun r=>NC.toFlts (List.headD r (NC.d (D.v undef)))) [[NC.r (Cont.floats .f32 u32)]])≤9223372036854775807 then
  some (.inl ((wrap .i64 (x0.1+1),x0.2++List.map (fun r=>NC.toFlts (List.headD r (NC.d (D.v undef)))) [[NC.r (Cont.floats .f32 u32)]])))
 else none
def jd2 (u19:ByteArray) (u20:List (List NC)) (u21:List Int) (u16:Int) (u22:List (List Nat)) (u23:List (List (List Int))) (u24:List (List Nat)) (u25:List Int) (u26:List (List Nat)) (u27:List (List (List Int))) (u28:List Int) (x0:(Int × List (List Nat))):Option ((Int × List (List Nat)) ⊕ (List (List Nat))) :=
 if x0.1<(↑(List.length u20):Int)then
  Option.bind (jah (jgS u19 u20 u21 u16 u22 u23 u24 u25 u26 u27 u28 x0) big (((-96:Int),[]))) (jgT x0)
 else
  some (.inr x0.2)
def jd3 (u16:Int) (u4:List (List Nat)):Option (Int × List (List Nat)) :=
 some ((wrap .i64 (u16+1),u4))
def jcb (u19:ByteArray) (u20:List (List NC)) (u21:List Int) (u16:Int) (u22:List (List Nat)) (u23:List (List (List Int))) (u24:List (List Nat)) (u25:List Int) (u26:List (List Nat)) (u27:List (List (List Int))) (u28:List Int):Option (Int × List (List Nat)) :=
 Option.bind (jah (jd2 u19 u20 u21 u16 u22 u23 u24 u25 u26 u27 u28) big (((0:Int),[]))) (jd3 u16)
def jez:List Lf→Option GT
 |[.d (.s u19),.x (.st [.s,.i .i64,.ints .i64,.ints .i64,.ints .i64,.i .i64,.recs 5,.i .i64] u20),.r (.ints .i64 u21),.d (.i .i64 u16),.x (.ff .f32 u22),.x (.rr 4 u23),.r (.frs .f32 32 u24),.r (.ints .i64 u25),.r (.frs .f32 32 u26),.x (.rr 4 u27),.r (.ints .i64 u28)]=>some (.leaf (ok (jcb u19 u20 u21 u16 u22 u23 u24 u25 u26 u27 u28)) [.s [.d (.i .i64 ((val (jcb u19 u20 u21 u16 u22 u23 u24 u25 u26 u27 u28)).1)),.x 157 (.ff .f32 ((val (jcb u19 u20 u21 u16 u22 u23 u24 u25 u26 u27 u28)).2)),.g 8]])
 |_=>none
abbrev jd4 (u19:ByteArray) (u20:List (List NC)) (u21:List Int) (u16:Int) (u22:List (List Nat)) (u23:List (List (List Int))) (u24:List (List Nat)) (u25:List Int) (u26:List (List Nat)) (u27:List (List (List Int))) (u28:List Int) (r:Int × List (List Nat)):Lp ((Int × List (List Nat)) × Nat) ((Int × List (List Nat))) ((List (List Nat))) ((Int × List (List Nat))) (Int × List (List Nat)) :=
 ⟨fun z=>Prod.fst z,fun z=>Prod.snd z,fun z x n=>(x,n),fun z=>jd2 u19 u20 u21 u16 u22 u23 u24 u25 u26 u27 u28,fun z=>jd3 u16,fun z=>top r,fun z=>0,[.c fun _=>0,.c fun _=>0,.c fun _=>0,.c fun _=>(↑(List.length u20):Int),.c fun vv=>vv.1.1,.c fun _=>0,.c fun _=>u16,.c fun _=>(0:Int),.c fun _=>Value.slice none (0:Nat) (0:Nat),.c fun _=>Value.slice none (0:Nat) (0:Nat),.c fun _=>wrap .i64 (u16+1),.c fun _=>u19,.c fun _=>u22,.c fun _=>u23,.c fun _=>u24,.c fun _=>u25,.c fun _=>u26,.c fun _=>u27,.c fun _=>u28,.c fun vv=>vv.1.2,.c fun _=>u20,.c fun _=>u21]⟩
abbrev jgU (u19:ByteArray) (u20:List (List NC)) (u21:List Int) (u16:Int) (u22:List (List Nat)) (u23:List (List (List Int))) (u24:List (List Nat)) (u25:List Int) (u26:List (List Nat)) (u27:List (List (List Int))) (u28:List Int) (r:Int × List (List Nat)) (m1:Nat):Lp ((Int × List (List Nat)) × Nat × (Int × List Nat) × Nat) (Int × List Nat) (List Nat) (((Int × List (List Nat)) ⊕ (List (List Nat)))) (Int × List (List Nat)) :=
 ⟨fun z=>Prod.fst (Prod.snd (Prod.snd z)),fun z=>Prod.snd (Prod.snd (Prod.snd z)),fun z x n=>(Prod.fst z,Prod.fst (Prod.snd z),x,n),fun z=>jgS u19 u20 u21 u16 u22 u23 u24 u25 u26 u27 u28 (Prod.fst z),fun z=>jgT (Prod.fst z),fun z=>(jd4 u19 u20 u21 u16 u22 u23 u24 u25 u26 u27 u28 r).cx (Prod.fst z,m1),fun z=>Prod.fst (Prod.snd z),[.c fun _=>0,.c fun _=>0,.c fun _=>0,.c fun vv=>vv.1.1,.c fun vv=>vv.2.2.1.1,.c fun _=>(↑(List.length u20):Int),.c fun vv=>vv.1.1,.c fun _=>0,.c fun _=>u16,.c fun _=>(0:Int),.c fun _=>Value.slice none (0:Nat) (0:Nat),.c fun _=>Value.slice none (0:Nat) (0:Nat),.c fun _=>wrap .i64 (u16+1),.c fun vv=>vv.2.2.1.2,.c fun _=>u19,.c fun _=>u22,.c fun _=>u23,.c fun _=>u24,.c fun _=>u25,.c fun _=>u26,.c fun _=>u27,.c fun _=>u28,.c fun vv=>vv.1.2,.c fun _=>u20,.c fun _=>u21]⟩
def jnB (u19:ByteArray) (u20:List (List NC)) (u21:List Int) (u16:Int) (u22:List (List Nat)) (u23:List (List (List Int))) (u24:List (List Nat)) (u25:List Int) (u26:List (List Nat)) (u27:List (List (List Int))) (u28:List Int) (r:Int × List (List Nat)):Sk (top r) (Option.bind (jah (jd2 u19 u20 u21 u16 u22 u23 u24 u25 u26 u27 u28) big (((0:Int),[]))) (jd3 u16)) :=
 .loopQ (jd4 u19 u20 u21 u16 u22 u23 u24 u25 u26 u27 u28 r) [.c fun _=>0,.c fun _=>0,.c fun _=>0,.c fun _=>(↑(List.length u20):Int),.c fun vv=>vv.1.1,.c fun _=>0,.c fun _=>u16,.c fun _=>(0:Int),.c fun _=>Value.slice none (0:Nat) (0:Nat),.c fun _=>Value.slice none (0:Nat) (0:Nat),.c fun _=>wrap .i64 (u16+1),.c fun _=>u19,.c fun _=>u22,.c fun _=>u23,.c fun _=>u24,.c fun _=>u25,.c fun _=>u26,.c fun _=>u27,.c fun _=>u28,.p fun vv=>List.length vv.1.2=(0:Nat),.c fun _=>u20,.c fun _=>u21] (fun kk=>(((0:Int),[]),big)) (fun z0 =>
 .br
 (.loopQ (jgU u19 u20 u21 u16 u22 u23 u24 u25 u26 u27 u28 r (Prod.snd z0)) [.c fun _=>0,.c fun _=>0,.c fun _=>0,.c fun vv=>vv.1.1,.c fun vv=>vv.2.2.1.1,.c fun _=>(↑(List.length u20):Int),.c fun vv=>vv.1.1,.c fun _=>0,.c fun _=>u16,.c fun _=>(0:Int),.c fun _=>Value.slice none (0:Nat) (0:Nat),.c fun _=>Value.slice none (0:Nat) (0:Nat),.c fun _=>wrap .i64 (u16+1),.p fun vv=>List.length vv.2.2.1.2=(0:Nat),.c fun _=>u19,.c fun _=>u22,.c fun _=>u23,.c fun _=>u24,.c fun _=>u25,.c fun _=>u26,.c fun _=>u27,.c fun _=>u28,.c fun vv=>vv.1.2,.c fun _=>u20,.c fun _=>u21] (fun kk=>(Prod.fst z0,kk,((-96:Int),[]),big)) (fun z1 =>
 .br
 (.call (.obT (.ob (.next))))
 (.exit (.ob (.next)))) (fun _=>⟨rfl,trivial⟩))
 (.exit (.obT (.rc)))) (fun _=>⟨rfl,trivial⟩)
def joX (u19:ByteArray) (u20:List (List NC)) (u21:List Int) (u16:Int) (u22:List (List Nat)) (u23:List (List (List Int))) (u24:List (List Nat)) (u25:List Int) (u26:List (List Nat)) (u27:List (List (List Int))) (u28:List Int) (r:Int × List (List Nat)):Sk (top r) (jcb u19 u20 u21 u16 u22 u23 u24 u25 u26 u27 u28) :=
 .obT (.obT (.obT (.obT (jnB u19 u20 u21 u16 u22 u23 u24 u25 u26 u27 u28 r))))
theorem jnC (u19:ByteArray) (u20:List (List NC)) (u21:List Int) (u16:Int) (u22:List (List Nat)) (u23:List (List (List Int))) (u24:List (List Nat)) (u25:List Int) (u26:List (List Nat)) (u27:List (List (List Int))) (u28:List Int) (r:Int × List (List Nat)) (h:Option.bind (jcb u19 u20 u21 u16 u22 u23 u24 u25 u26 u27 u28) some=some r):ja0 Tryz.f106 ((sp_149 sp0)) (fun gs id _=>match id with
 |0=>some ⟨(Int × List (List Nat)) × Nat,fun z=>⟨[(0,.w (.c (.p 10 0 1 0))),(2,.w (.c (.p 11 0 1 0))),(3,.w (.c (.p 12 0 1 0))),(26,.w (.c (.d (.i .i64 ((↑(List.length u20):Int)))))),(27,.w (.c (.d (.i .i64 (Prod.fst (Prod.fst z))))))],[(10,.ebox [.p 2 0 1 0,.d (.i .i64 u16),.o 3,.o 4,.o 5,.o 6,.o 7,.o 8,.o 9]),(11,.box 78 [.d (.i .i64 0),.d (.v (Value.slice none (0:Nat) (0:Nat))),.d (.v (Value.slice none (0:Nat) (0:Nat)))]),(12,.box 78 [.d (.i .i64 (wrap .i64 (u16+1))),.o 13,.o 8]),(2,.ebox [.d (.s u19),.o 0,.o 1]),(3,.xext (XC.ff .f32 u22)),(4,.xext (XC.rr (4:Nat) u23)),(5,.ext (.frs .f32 32 u24)),(6,.ext (.ints .i64 u25)),(7,.ext (.frs .f32 32 u26)),(8,.xext (XC.rr (4:Nat) u27)),(9,.ext (.ints .i64 u28)),(13,.xrow 157 (XC.ff .f32 (Prod.snd (Prod.fst z)))),(0,.xext (XC.st [NK.s,NK.i .i64,NK.ints .i64,NK.ints .i64,NK.ints .i64,NK.i .i64,NK.recs (5:Nat),NK.i .i64] u20)),(1,.ext (.ints .i64 u21))],14⟩,fun z=>(jd4 u19 u20 u21 u16 u22 u23 u24 u25 u26 u27 u28 r).inv z,fun z=>Prod.snd z⟩
 |2=>some ⟨(Int × List (List Nat)) × Nat × (Int × List Nat) × Nat,fun z=>⟨[(0,.w (.c (.p 10 0 1 0))),(2,.w (.c (.p 11 0 1 0))),(3,.w (.c (.p 12 0 1 0))),(4,.w (.c (.d (.i .i64 ((Prod.fst z).1))))),(5,.w (.c (.o 13))),(6,.w (.c (.d (.i .i64 (Prod.fst (Prod.fst (Prod.snd (Prod.snd z)))))))),(26,.w (.c (.d (.i .i64 ((↑(List.length u20):Int)))))),(27,.w (.c (.d (.i .i64 ((Prod.fst z).1)))))],[(10,.ebox [.p 2 0 1 0,.d (.i .i64 u16),.o 3,.o 4,.o 5,.o 6,.o 7,.o 8,.o 9]),(11,.box 78 [.d (.i .i64 0),.d (.v (Value.slice none (0:Nat) (0:Nat))),.d (.v (Value.slice none (0:Nat) (0:Nat)))]),(12,.box 78 [.d (.i .i64 (wrap .i64 (u16+1))),.o 14,.o 8]),(13,.row 108 (.floats .f32 (Prod.snd (Prod.fst (Prod.snd (Prod.snd z)))))),(2,.ebox [.d (.s u19),.o 0,.o 1]),(3,.xext (XC.ff .f32 u22)),(4,.xext (XC.rr (4:Nat) u23)),(5,.ext (.frs .f32 32 u24)),(6,.ext (.ints .i64 u25)),(7,.ext (.frs .f32 32 u26)),(8,.xext (XC.rr (4:Nat) u27)),(9,.ext (.ints .i64 u28)),(14,.xrow 157 (XC.ff .f32 (Prod.fst z).2)),(0,.xext (XC.st [NK.s,NK.i .i64,NK.ints .i64,NK.ints .i64,NK.ints .i64,NK.i .i64,NK.recs (5:Nat),NK.i .i64] u20)),(1,.ext (.ints .i64 u21))],15⟩,fun z=>(jgU u19 u20 u21 u16 u22 u23 u24 u25 u26 u27 u28 r (gs.getD 0 0)).inv z,fun z=>Prod.snd (Prod.snd (Prod.snd z))⟩
 |_=>none) (jaV jey [.d (.s u19),.x (.st [.s,.i .i64,.ints .i64,.ints .i64,.ints .i64,.i .i64,.recs 5,.i .i64] u20),.r (.ints .i64 u21),.d (.i .i64 u16),.x (.ff .f32 u22),.x (.rr 4 u23),.r (.frs .f32 32 u24),.r (.ints .i64 u25),.r (.frs .f32 32 u26),.x (.rr 4 u27),.r (.ints .i64 u28)]) [.s [.d (.i .i64 r.1),.x 157 (.ff .f32 r.2),.g 8]] :=
 Sk.vc (joX u19 u20 u21 u16 u22 u23 u24 u25 u26 u27 u28 r) (by kernel_rfl) h
theorem jnD:jaf Tryz.prog 106 true (jag jey jez):=by
 refine jav (sp:=(sp_149 sp0)) (fn:=Tryz.f106) (body:=bodyOf Tryz.f106) mixed (sp_149_ok jar) Tryz.func106 (by kernel_rfl) (by kernel_rfl) fun ls t h ho b hb=>?_
 unfold jez at h
 split at h
 ·rename_i u19 u20 u21 u16 u22 u23 u24 u25 u26 u27 u28
  cases h
  obtain rfl:=jaE hb
  exact⟨Nat.le_of_ble_eq_true (by kernel_rfl),_,_,jnC u19 u20 u21 u16 u22 u23 u24 u25 u26 u27 u28 _ (jal ho)⟩
 ·cases h
end Go.Sh
end

section
open Go.RowKit
namespace Go.Sx
def jl8 (z:C) (cs:List C) (j:Nat):Bool :=
 match z with
 | .d (.i k _)=>(iks k cs).getD j false
 | .d (.b _)=>(bks cs).getD j false
 | .d (.s _)=>(sks cs).getD j false
 |_=>false
def jlB (cs:List C):List C→Nat→Bool
 |[],_=>true
 |z::r,j=>match jl8 z cs j with
  |true=>jlB cs r (j+1)
  |false=>false
def jrx (P:Program) (t:TypeId) (cs:List C) (j:Nat):Bool :=
 match jaz P t with
 |some z=>jlB cs z j
 |none=>false
def joY (cs:List C) (j:Nat):List C→Bool
 |[]=>true
 |c::r=>match jl8 c cs j,jpk cs j c with
  |true,some (_,cs')=>joY cs' (j+1) r
  |_,_=>false
theorem jyb {z c:C} {cs:List C} {j:Nat} {p:Prop} (h:jpg z cs j=some (p,c)) (hb:jl8 z cs j=true):p:=by
 unfold jpg at h
 unfold jl8 at hb
 split at h<;>cases h<;>exact hb
theorem jvj {cs:List C}:∀{zs l:List C} {j:Nat} {p:Prop},jg5 cs zs j=some (p,l)→jlB cs zs j=true→p
 |[],l,j,p,h,_=>by
  simp only[jg5,Option.some.injEq,Prod.mk.injEq]at h
  exact h.1 ▸ trivial
 |z::r,l,j,p,h,hb=>by
  unfold jg5 at h
  unfold jlB at hb
  split at h
  ·rename_i q c hq
   split at hb
   ·rename_i hz
    have h1:=jyb hq hz
    split at h
    ·cases h
     exact h1
    ·split at h
     ·rename_i q2 l2 h2
      cases h
      exact⟨h1,jvj h2 hb⟩
     ·cases h
   ·cases hb
  ·cases h
theorem jyc {P:Program} {t:TypeId} {cs:List C} {j:Nat} {p:Prop} {v:V} (h:jki P t cs j=some (p,v)) (hb:jrx P t cs j=true):p:=by
 unfold jki at h
 unfold jrx at hb
 split at h
 ·rename_i z _ _ hz
  rw[hz]at hb
  split at h
  ·rename_i q c hq
   cases h
   dsimp only[jlB]at hb
   split at hb
   ·rename_i h1
    exact jyb hq h1
   ·cases hb
  ·cases h
 ·rename_i sz z _ _ hz
  rw[hz]at hb
  split at h
  ·split at h
   ·rename_i q l hq
    cases h
    exact jvj hq hb
   ·cases h
  ·cases h
 ·cases h
theorem jBO {c:C} {cs cs':List C} {j:Nat} {p:Prop} (h:jpk cs j c=some (p,cs')) (hb:jl8 c cs j=true):p:=by
 unfold jpk at h
 unfold jl8 at hb
 split at h<;>cases h<;>exact hb
theorem jvk:∀{ds cs l:List C} {j:Nat} {p:Prop},jlV cs j ds=some (p,l)→joY cs j ds=true→p
 |[],_,_,_,_,h,_=>by cases h
 |c::r,cs,l,j,p,h,hb=>by
  unfold jlV at h
  unfold joY at hb
  split at h
  ·rename_i q cs' hq
   split at hb
   ·rename_i cs2 hz hq2
    rw[hq]at hq2
    cases hq2
    have h1:=jBO hq hz
    split at h
    ·cases h
     exact h1
    ·split at h
     ·rename_i q2 l2 h2
      cases h
      exact⟨h1,jvk h2 hb⟩
     ·cases h
   ·cases hb
  ·cases h
def js9 (P:Program) (t:TypeId) (cs:List C) (e j:Nat):Bool :=
 match e with
 |0=>match jki P t cs j with
  |none=>true
  |some _=>jrx P t cs j
 |_+1=>true
def jwB (P:Program) (t:TypeId) (c:Cont) (i j:Nat):Bool :=
 match c with
 | .frs _ E l=>Nat.blt i l.length&&Nat.blt j E
 | .floats _ l=>match jbm P t,szT P t with
  |some true,some sz=>Nat.ble (i+sz) l.length
  |_,_=>Nat.blt i l.length
 |c=>Nat.blt i c.n
def jwC (P:Program) (t:TypeId) (o:O) (i e j:Nat):Bool :=
 match o with
 | .box _ cs=>js9 P t cs e j
 | .ebox cs=>js9 P t cs e j
 | .arr _ _ E _=>Nat.blt (i*e+j) E
 | .xext X=>Nat.blt i X.n
 | .xrow _ X=>Nat.blt i X.n
 | .mrow _ _ X _=>Nat.blt i X.n
 | .lbox _ _ _ _=>true
 | .lview _ _ _ _=>true
 | .elist _ _ _=>true
 |o=>match o.cont with
  |some c=>jwB P t c i j
  |none=>false
theorem jAY {P:Program} {t:TypeId} {cs:List C} {e j:Nat} {p:Prop} {v:V} (h:jef P t cs e j=some (p,v)) (hb:js9 P t cs e j=true):p:=by
 unfold jef at h
 split at h
 ·split at h
  ·rename_i x hx
   cases h
   unfold js9 at hb
   dsimp only at hb
   rw[hx]at hb
   exact jyc hx hb
  ·cases h
 ·cases h
theorem jbc {a b:Nat} (h:Nat.blt a b=true):a<b:=by simpa using h
theorem jvl {P:Program} {t:TypeId} {o:O} {i e j:Nat} {p:Prop} {v:V} (h:jcV P t o i e j=some (p,v)) (hb:jwC P t o i e j=true):p:=by
 unfold jcV at h
 split at h
 ·rename_i ag sz hag hsz
  have xs:∀(sh:List NK) (l:List (List NC)),Nat.blt i l.length=true→((match(generalizing:=false) ag with
   |true=>none
   |false=>match Nat.beq e sh.length,sh[j]? with
    |true,some (.i k)=>some (i<l.length,vi k (((l.getD i []).getD j (.d (.v undef))).toI))
    |true,some .b=>some (i<l.length,vb (((l.getD i []).getD j (.d (.v undef))).toB))
    |true,some (.f k)=>some (i<l.length,vf k (((l.getD i []).getD j (.d (.v undef))).toF))
    |true,some .s=>some (i<l.length,vs (((l.getD i []).getD j (.d (.v undef))).toS))
    |_,_=>none):Option (Prop × V))=some (p,v)→p:=by
   intro sh l hl h
   split at h
   ·cases h
   ·split at h<;>cases h<;>exact jbc hl
  have bx:∀cs:List C,js9 P t cs e j=true→((match jef P t cs e j with
   |some x=>some x
   |none=>match(generalizing:=false) ag with
    |true=>if i*e+j+sz≤cs.length then some (True,V.w (.a ((cs.drop (i*e+j)).take sz)))else none
    |false=>(cs[i*e+j]?).map fun c=>(True,V.w (.c c))):Option (Prop × V))=some (p,v)→p:=by
   intro cs hb h
   split at h
   ·rename_i x hx
    cases h
    exact jAY hx hb
   ·split at h
    ·split at h
     ·cases h; trivial
     ·cases h
    ·cases hc:cs[i*e+j]? with
     |none=>simp[hc]at h
     |some c=>simp[hc]at h; exact h.1
  have ct:∀c:Cont,jwB P t c i j=true→((match some c with
   |some (.frs k E l) =>
    match(generalizing:=false) ag with
    |true=>match Nat.beq e E,Nat.beq j 0,Nat.beq sz E with
     |true,true,true=>some (i<l.length,jpe k E (l.getD i []))
     |_,_,_=>none
    |false=>match Nat.beq e E with
     |true=>some (i<l.length∧j<E,vf k ((l.getD i []).getD j 0))
     |false=>none
   |some (.floats k l) =>
    match Nat.beq e 1,Nat.beq j 0 with
    |true,true=>match(generalizing:=false) ag with
     |true=>some (i+sz≤l.length,jpe k sz ((l.drop i).take sz))
     |false=>some (i<l.length,vf k (l.getD i 0))
    |_,_=>none
   |some c =>
    match(generalizing:=false) ag with
    |true=>if e=c.e∧j+sz≤e then some (i<c.n,V.w (.a ((List.range sz).map fun m=>C.d (c.cell i (j+m)))))else none
    |false=>if e=c.e∧j<e then some (i<c.n,V.w (.c (.d (c.cell i j))))else none
   |none=>none):Option (Prop × V))=some (p,v)→p:=by
   intro c hb h
   unfold jwB at hb
   cases c with
   |frs k E l =>
    simp only[Bool.and_eq_true]at hb
    dsimp only at h
    split at h
    ·split at h
     ·cases h; exact jbc hb.1
     ·cases h
    ·split at h
     ·cases h; exact⟨jbc hb.1,jbc hb.2⟩
     ·cases h
   |floats k l =>
    dsimp only at h hb
    rw[hag,hsz]at hb
    split at h
    ·cases ag with
     |true=>cases h; exact Nat.le_of_ble_eq_true hb
     |false=>cases h; exact jbc hb
    ·cases h
   |_ =>
    dsimp only at h hb
    split at h
    ·split at h
     ·cases h; exact jbc hb
     ·cases h
    ·split at h
     ·cases h; exact jbc hb
     ·cases h
  cases o with
  |box ty cs=>exact bx cs hb h
  |ebox cs=>exact bx cs hb h
  |arr ty k E r =>
   dsimp only at h
   split at h
   ·split at h
    ·cases h; trivial
    ·cases h
   ·cases h; exact jbc hb
  |xext X =>
   cases X with
   |st sh l=>exact xs sh l hb h
   |_=>cases h
  |xrow ty X =>
   cases X with
   |st sh l=>exact xs sh l hb h
   |_=>cases h
  |mrow ty ts X ho =>
   cases ho with
   |none =>
    cases X with
    |st sh l=>exact xs sh l hb h
    |_=>cases h
   |some x=>cases X<;>cases h
  |lbox ty E n cs =>
   dsimp only at h
   split at h
   ·split at h
    ·split at h
     ·cases h; trivial
     ·cases h
    ·cases hc:cs[i*e+j]? with
     |none=>simp[hc]at h
     |some c=>simp[hc]at h; exact h.1
   ·cases h
  |lview r E n cs =>
   dsimp only at h
   split at h
   ·split at h
    ·split at h
     ·cases h; trivial
     ·cases h
    ·cases hc:cs[i*e+j]? with
     |none=>simp[hc]at h
     |some c=>simp[hc]at h; exact h.1
   ·cases h
  |elist E n cs =>
   dsimp only at h
   split at h
   ·split at h
    ·split at h
     ·cases h; trivial
     ·cases h
    ·cases hc:cs[i*e+j]? with
     |none=>simp[hc]at h
     |some c=>simp[hc]at h; exact h.1
   ·cases h
  |row ty c=>exact ct c hb h
  |ext c=>exact ct c hb h
  |view r c fl=>exact ct c hb h
  |rrow c=>exact ct c hb h
  |fext c=>exact ct c hb h
  |sub r i0 e0 j0 t0 c=>exact ct c hb h
  |_=>cases h
 ·cases h
end Go.Sx
end

section
open Go.RowKit
namespace Go.Sx
def jjF (l m:Option Int) (n:Int):Bool:=decide (0≤l.getD 0∧l.getD 0≤m.getD n∧m.getD n≤n)
def jiB (o:O) (y:Option V) (i e j:Nat):Bool :=
 match o with
 | .box _ cs=>match e with
  |0=>match y with
   |some (.w u)=>joY cs j u.cells
   |_=>false
  |_+1=>true
 | .arr _ _ E _=>Nat.blt (i*e+j) E
 | .row _ (.frs _ E l)=>Nat.blt i l.length&&Nat.blt j E
 | .row _ c=>Nat.blt i c.n
 | .xrow _ X=>Nat.blt i X.n
 | .mrow _ _ X ho=>match ho with
  |none=>Nat.blt i X.n
  |some (i0,_)=>Nat.beq i i0&&Nat.blt i X.n
 | .sub _ _ _ _ _ c=>Nat.blt i c.n
 | .lbox _ _ _ _=>true
 |_=>false
def jcU (hp:Hp) (v:Option V):Option Nat :=
 match v with
 |some (.w (.c (.o h)))=>match find hp h with
  |some o=>match o.cont with
   |some c=>some c.n
   |none=>match o.xc with
    |some X=>some X.n
    |none=>match o.lst with
     |some (_,n,_)=>some n
     |none=>none
  |none=>none
 |some (.w (.c (.d (.v (.slice none 0 0)))))=>some 0
 |_=>none
def obB (P:Program) (op:Op) (rd:Operand→Option V) (hp:Hp):Bool :=
 match op with
 | .binOp op _ x y _=>match(rd x).bind V.int?,(rd y).bind V.int? with
  |some _,some (_,b)=>(match op with
   | .quo=>!(decide (b=0))
   | .rem=>!(decide (b=0))
   | .shl=>decide (0≤b)
   | .shr=>decide (0≤b)
   |_=>true)
  |_,_=>false
 | .convert _ dst x=>match(rd x).bind V.flt? with
  |some (s,b)=>match P.underlying dst with
   |some (.int k)=>jnW s k b
   |_=>false
  |none=>match(rd x).bind V.int? with
   |some _=>true
   |none=>false
 | .index t x i=>match rd x,(rd i).bind V.int? with
  |some v,some (_,n)=>match v.str?,P.underlying t with
   |some s,_=>decide (0≤n∧n<(s.size:Int))
   |none,some (.array len elem)=>decide (0≤n∧n<(len:Int))&&(match v.agg?,szT P elem with
    |some cs,some size=>isK i||(match jki P elem cs (n.toNat*size)with
     |none=>true
     |some _=>jrx P elem cs (n.toNat*size))
    |_,_=>true)
   |none,_=>false
  |_,_=>false
 | .indexAddr t x ix=>match(rd ix).bind V.int? with
  |some (_,n)=>match P.underlying t with
   |some (.array len _)=>decide (0≤n∧n<(len:Int))
   |some (.slice _)=>match jcU hp (rd x)with
    |some m=>decide (0≤n∧n<(m:Int))
    |none=>false
   |_=>false
  |none=>false
 | .load t x=>match rd x with
  |some (.w (.c (.p h i e j)))=>match find hp h with
   |some o=>jwC P t o i e j
   |none=>false
  |_=>false
 | .store _ x y=>match rd x with
  |some (.w (.c (.p h i e j)))=>match find hp h with
   |some o=>jiB o (rd y) i e j
   |none=>false
  |_=>false
 | .slice t x lo hi none=>match jaJ rd lo,jaJ rd hi with
  |some l,some m=>match P.underlying t with
   |some .string=>match(rd x).bind V.str? with
    |some s=>jjF l m (s.size:Int)
    |none=>false
   |some (.array n _)=>match rd x with
    |some (.w (.c (.p h _ _ _)))=>match find hp h with
     |some (.arr _ _ _ r)=>Nat.beq r.length n&&jjF l m (n:Int)
     |some (.box _ _)=>true
     |_=>false
    |_=>false
   |some (.slice _)=>match jcU hp (rd x)with
    |some n=>jjF l m (n:Int)
    |none=>false
   |_=>false
  |_,_=>false
 | .slice _ x lo (some hi) (some mx)=>match jaJ rd lo,(rd hi).bind V.int?,(rd mx).bind V.int?,jcU hp (rd x)with
  |some l,some (_,m),some (_,q),some n=>decide (0≤l.getD 0∧l.getD 0≤m∧m≤q∧q≤(n:Int))
  |_,_,_,_=>false
 | .makeSlice t l c=>match P.underlying t,(rd l).bind V.int?,(rd c).bind V.int? with
  |some (.slice elem),some (_,n),some (_,m)=>match jaR P elem with
   |some b=>decide (0≤n∧n=m∧(b:Int)*n≤281474976710656∧n≤9223372036854775807)
   |none=>false
  |_,_,_=>false
 | .call c=>match c.callee,c.args.toList,c.argTypes.toList with
  | .builtin .append,[s,x],[t,_]=>match P.underlying t,jcU hp (rd s),jcU hp (rd x)with
   |some (.slice elem),some n,some m=>match jaR P elem with
    |some b=>Nat.ble ((n+m)*b) 140737488355328&&Nat.ble (n+m) 9223372036854775807&&(match jiT hp (rd s)with
     |some c1=>Nat.blt 0 c1.n&&Nat.blt 0 m
     |none=>true)
    |none=>false
   |_,_,_=>false
  |_,_,_=>false
 |_=>false
section
variable [Globs] {P:Program} {rd:Operand→Option V} {hp:Hp} {nx:Nat}
theorem jAZ {v:V} {x y} (h:v.int?=some x) (k:v.str?=some y):False:=by
 unfold V.int? at h
 split at h
 ·cases k
 ·cases h
theorem jfC {h:Nat} {c:Cont} {n:Nat} {v:Option V} (hv:v=some (.w (.c (.o h)))) (hc:(find hp h).bind O.cont=some c) (hn:jcU hp v=some n):n=c.n:=by
 subst hv
 unfold jcU at hn
 cases ho:find hp h with
 |none=>simp[ho]at hc
 |some o =>
  simp only[ho,Option.bind_some]at hc
  simp only[ho,hc,Option.some.injEq]at hn
  exact hn.symm
theorem jl9 {h:Nat} {X:XC} {n:Nat} {v:Option V} (hv:v=some (.w (.c (.o h)))) (hc:(find hp h).bind O.xc=some X) (hn:jcU hp v=some n):n=X.n:=by
 subst hv
 unfold jcU at hn
 cases ho:find hp h with
 |none=>simp[ho]at hc
 |some o =>
  simp only[ho,Option.bind_some]at hc
  have hcn:o.cont=none:=by cases o<;>simp[O.xc]at hc<;>rfl
  simp only[ho,hcn,hc,Option.some.injEq]at hn
  exact hn.symm
theorem jjG {h:Nat} {e m:Nat} {cs:List C} {n:Nat} {v:Option V} (hv:v=some (.w (.c (.o h)))) (hc:(find hp h).bind O.lst=some (e,m,cs)) (hn:jcU hp v=some n):n=m:=by
 subst hv
 unfold jcU at hn
 cases ho:find hp h with
 |none=>simp[ho]at hc
 |some o =>
  simp only[ho,Option.bind_some]at hc
  have hcn:o.cont=none∧o.xc=none:=by cases o<;>simp[O.lst]at hc<;>exact⟨rfl,rfl⟩
  simp only[ho,hcn,hc,Option.some.injEq]at hn
  exact hn.symm
theorem jzQ {op:BinOp} {k k':IntKind} {m n:Int} {ob:Prop} {v:V} (ht:(match op with
   | .quo=>!(decide (n=0))
   | .rem=>!(decide (n=0))
   | .shl=>decide (0≤n)
   | .shr=>decide (0≤n)
   |_=>true)=true) (h:jfn op k m k' n=some (ob,v)):ob:=by
 unfold jfn at h
 split at h
 ·cases h; simpa using ht
 ·cases h; simpa using ht
 ·split at h
  ·split at h<;>first|(cases h; trivial)|(cases h; simpa using ht)|cases h
  ·cases h
theorem jyd {op:Op} {ob:Prop} {v:V} (ht:obB P op rd hp=true) (h:ja3 P op rd hp=some (ob,v)):ob:=by
 unfold obB at ht
 unfold ja3 at h
 cases op with
 |binOp op t x y yt =>
  dsimp only at h ht
  split at ht
  ·rename_i ka k' b hx hy
   split at h
   ·rename_i u v' hu hv
    simp only[hu,hv,Option.bind_some]at hx hy
    rw[hx,hy]at h
    obtain⟨k,a⟩:=ka
    exact jzQ ht h
   ·cases h
  ·cases ht
 |convert s d x =>
  dsimp only at h ht
  cases hx:rd x with
  |none=>simp[hx]at h
  |some u =>
   simp only[hx,Option.bind_some]at h ht
   unfold jrr at h
   split at h
   ·cases h; trivial
   ·cases h; trivial
   ·rename_i s' b hu hd hf
    cases h
    rw[hf]at ht
    dsimp only at ht
    rw[hd]at ht
    exact ht
   ·cases h
 |index t x i =>
  dsimp only at h ht
  split at ht
  ·rename_i u k n hx hi
   simp only[hx,Option.bind_some]at h
   split at ht
   ·rename_i s hs
    rw[hs,hi]at h
    split at h
    ·rename_i s2 k2 n2 h1 h2 h3
     cases h1; cases h3
     cases h
     simpa using ht
    ·cases h
    ·rename_i h0; cases h0
   ·rename_i len elem hs hut
    rw[hs,hut,hi]at h
    simp only[Bool.and_eq_true,decide_eq_true_eq]at ht
    split at h
    ·rename_i h0 _ _; cases h0
    ·cases h
    ·split at h
     ·rename_i len' elem' cs k' n' h1 h2 h3
      cases h1; cases h3
      rw[h2]at ht
      split at h
      ·rename_i size hsz
       rw[hsz]at ht
       simp only[Bool.or_eq_true]at ht
       split at h
       ·rename_i p v' hk hsel
        cases h
        rw[hk,hsel]at ht
        exact⟨ht.1,jyc hsel (by simpa using ht.2)⟩
       ·generalize jbO P elem cs _=q at h
        cases q with
        |none=>simp at h
        |some v'=>simp at h; rw[←h.1]; exact ht.1
      ·cases h
     ·cases h
   ·cases ht
  ·cases ht
 |indexAddr t x ix =>
  dsimp only at h ht
  split at ht
  ·rename_i k n hi
   rw[hi]at h
   split at h
   ·rename_i len elem h' i e j k2 n2 hut hx hn
    cases hn
    rw[hut]at ht
    simp only[decide_eq_true_eq]at ht
    split at h
    ·split at h<;>(cases h; exact ht)
    ·cases h
   ·rename_i elem h' k2 n2 hut hx hn
    cases hn
    rw[hut]at ht
    dsimp only at ht
    split at h
    ·rename_i c size hc hsz
     split at h
     ·cases h
      split at ht
      ·rename_i m hm
       rw[jfC hx hc hm]at ht
       simpa using ht
      ·cases ht
     ·cases h
    ·cases h
   ·cases h
  ·cases ht
 |load t x =>
  dsimp only at h ht
  split at h
  ·rename_i h' i e j hx
   rw[hx]at ht
   dsimp only at ht
   split at h
   ·rename_i o ho
    rw[ho]at ht
    exact jvl h ht
   ·cases h
  ·cases h
 |call c =>
  dsimp only at h ht
  split at ht
  ·rename_i hc ha hat
   rw[hc]at h
   simp at h
  ·cases ht
 |slice t x lo hi mx=>cases h
 |store t x y=>cases h
 |makeSlice t l c=>cases h
 |_=>cases ht
end
end Go.Sx
end

section
open Go.RowKit
namespace Go.Sx
section
variable [Globs] {P:Program} {rd:Operand→Option V} {hp:Hp} {nx:Nat} {sp:jaa}
theorem jAv {op:Op} {ob:Prop} {v:V} (ht:obB P op rd hp=true) (h:je8 P op rd hp=some (ob,v)):ob:=by
 unfold obB at ht
 unfold je8 at h
 cases op with
 |binOp op t x y yt =>
  dsimp only at h ht
  split at ht
  ·rename_i ka k' b hx hy
   split at h
   ·rename_i u u' hu hu'
    simp only[hu,hu',Option.bind_some]at hx hy
    split at h
    ·rename_i a b hs hs'
     exact(jAZ hx hs).elim
    ·split at h
     ·unfold jnX at h
      cases op<;>simp at h<;>exact h.1
     ·split at h
      ·unfold jfo at h
       cases op<;>simp at h<;>exact h.1
      ·cases h
   ·cases h
  ·cases ht
 |slice t x lo hi mx =>
  cases mx with
  |some mx=>simp at h
  |none =>
   dsimp only at h ht
   split at h
   ·rename_i s l m hut hx hl hm
    cases h
    rw[hl,hm,hut,hx]at ht
    simpa [jjF]using ht
   ·cases h
 |convert s d x =>
  dsimp only at h
  split at h
  ·split at h
   ·cases h; trivial
   ·cases h
  ·cases h
 |index t x i =>
  dsimp only at h ht
  split at h
  ·rename_i k E r hx
   split at h
   ·rename_i len elem k2 n hut hi
    rw[hx,hi,hut]at ht
    simp only[V.str?,Bool.and_eq_true,decide_eq_true_eq]at ht
    split at h
    ·cases h; exact ht.1
    ·cases h
   ·cases h
  ·cases h
 |sliceToArrayPointer t x=>cases ht
 |nilCheck x=>cases ht
 |fieldAddr s x f=>cases ht
 |indexAddr t x ix =>
  dsimp only at h ht
  split at ht
  ·rename_i k n hi
   rw[hi]at h
   split at h
   ·rename_i len elem h' e k2 n2 hut hx hn
    cases hn
    rw[hut]at ht
    simp only[decide_eq_true_eq]at ht
    split at h
    ·split at h
     ·cases h; exact ht
     ·cases h
    ·cases h
   ·rename_i elem h' k2 n2 hut hx hn
    cases hn
    rw[hut]at ht
    dsimp only at ht
    split at h
    ·rename_i X size hc hsz
     split at h
     ·cases h
      split at ht
      ·rename_i m hm
       rw[jl9 hx hc hm]at ht
       simpa using ht
      ·cases ht
     ·cases h
    ·rename_i size hc hsz
     split at h
     ·rename_i e m cs hl
      split at h
      ·cases h
       split at ht
       ·rename_i m' hm
        rw[jjG hx hl hm]at ht
        simpa using ht
       ·cases ht
      ·cases h
     ·cases h
    ·cases h
   ·cases h
  ·cases ht
 |load t x =>
  dsimp only at h ht
  split at h
  ·rename_i hx
   rw[hx]at ht
   cases ht
  ·cases h
 |call c =>
  dsimp only at h ht
  split at ht
  ·rename_i hc ha hat
   rw[hc]at h
   simp at h
  ·cases ht
 |_=>simp at h
theorem bR_ob {op:Op} {r:Res} (ht:obB P op rd hp=true) (h:jcX P op rd hp nx=some r):r.ob:=by
 unfold obB at ht
 unfold jcX at h
 cases op with
 |slice t x lo hi mx =>
  split at h
  ·rename_i t2 x2 hi2 mx2 he
   cases he
   dsimp only at ht
   split at h
   ·split at h
    ·rename_i elem h' k m k' q hut hx hm hq
     split at h
     ·rename_i c e hf hs
      split at h
      ·cases h
       split at ht
       ·rename_i l m' k1 q' k2 n hl hm' hq' hn
        rw[hm]at hm'; rw[hq]at hq'
        cases hm'; cases hq'
        simp only[jaJ,Option.some.injEq]at hl
        subst hl
        rw[jfC (c:=c) hx (by rw[hf]; rfl) hn]at ht
        simp only[Option.getD_none,decide_eq_true_eq]at ht
        exact⟨ht.2.1,ht.2.2⟩
       ·cases ht
      ·cases h
     ·cases h
    ·cases h
   ·cases h
  ·rename_i t2 x2 lo2 he
   cases he
   dsimp only at ht
   split at h
   ·split at h
    ·rename_i elem h' k l hut hx hl
     split at h
     ·rename_i c e hf hs
      split at h
      ·cases h
       split at ht
       ·rename_i l' m hl' hm
        rw[hut]at ht
        dsimp only at ht
        split at ht
        ·rename_i n hn
         have hcn:(find hp h').bind O.cont=some c:=by
          cases ho:find hp h' with
          |none=>simp[ho]at hf
          |some o =>
           simp only[ho,Option.bind_some]at hf ⊢
           cases o<;>simp[jeI]at hf<;>simpa [O.cont]using hf
         rw[jfC hx hcn hn]at ht
         simp only[jaJ]at hl' hm
         rw[hl]at hl'
         cases hl'; cases hm
         simp only[jjF,Option.getD_some,Option.getD_none,decide_eq_true_eq]at ht
         exact⟨ht.1,ht.2.1⟩
        ·cases ht
       ·cases ht
      ·cases h
     ·cases h
    ·cases h
   ·cases h
  ·cases h
 |_=>simp at h
theorem bN_ob {op:Op} {r:Res} (ht:obB P op rd hp=true) (h:jdG P op rd hp nx=some r):r.ob:=by
 unfold obB at ht
 unfold jdG at h
 cases op with
 |makeSlice t l c =>
  dsimp only at h ht
  split at h
  ·rename_i elem k n k' m hut hn hm
   rw[hut,hn,hm]at ht
   dsimp only at ht
   split at h
   ·rename_i X0 z b e h1 h2 h3 h4
    rw[h3]at ht
    split at h
    ·cases h; simpa using ht
    ·cases h
   ·cases h
  ·cases h
 |buildSlice t n ps=>cases ht
 |store t x y =>
  dsimp only at h ht
  split at h
  ·rename_i k i e j u hx hy
   rw[hx]at ht
   dsimp only at ht
   split at h
   ·rename_i ty X sz hf hs
    rw[hf]at ht
    have ht:=jbc (show Nat.blt i X.n=true from ht)
    split at h
    ·split at h
     ·split at h
      ·cases h; exact ht
      ·cases h
     ·split at h
      ·split at h
       ·cases h; exact ht
       ·cases h
      ·cases h
    ·cases h
   ·cases h
  ·cases h
 |call c =>
  dsimp only at h ht
  split at h
  ·rename_i s x t t' hc ha hat
   rw[hc,ha,hat]at ht
   dsimp only at ht
   split at h
   ·rename_i elem hb hut
    rw[hut]at ht
    split at h
    ·rename_i X0 z e b h1 h2 h3 h4
     split at h
     ·rename_i hs ty X1 hx ty' X2 g1 g2
      split at ht
      ·rename_i elem' n m he hn hm
       cases he
       rw[h4]at ht
       simp only[Bool.and_eq_true]at ht
       have len:∀{v:Option V} {hs:Option Nat} {ty n:Nat} {X:XC},v.bind (xOf hp X0)=some (hs,ty,X)→jcU hp v=some n→n=X.n∨X=X0:=by
        intro v hs ty n X hv hn
        cases v with
        |none=>cases hv
        |some v =>
         simp only[Option.bind_some]at hv
         unfold xOf at hv
         split at hv
         ·split at hv
          ·rename_i ty2 X2 hf
           cases hv
           exact .inl (jl9 (X:=X) rfl (by rw[hf]; rfl) hn)
          ·cases hv
         ·cases hv; exact .inr rfl
         ·cases hv
       have h0:X0.n=0:=by
        unfold xcT at h1
        split at h1
        ·split at h1
         ·split at h1<;>cases h1; rfl
         ·split at h1<;>cases h1<;>rfl
         ·cases h1
        ·cases h1
       have l1:X1.n≤n:=(len g1 hn).elim (fun e=>Nat.le_of_eq e.symm) fun e=>by rw[e,h0]; exact Nat.zero_le _
       have l2:X2.n≤m:=(len g2 hm).elim (fun e=>Nat.le_of_eq e.symm) fun e=>by rw[e,h0]; exact Nat.zero_le _
       split at h
       ·cases h
        have a1:=Nat.le_of_ble_eq_true ht.1.1
        have a2:=Nat.le_of_ble_eq_true ht.1.2
        exact⟨Nat.le_trans (Nat.mul_le_mul_right b (Nat.add_le_add l1 l2)) a1,Nat.le_trans (Nat.add_le_add l1 l2) a2⟩
       ·cases h
      ·cases ht
     ·cases h
    ·cases h
   ·cases h
  ·cases h
 |_=>simp at h
end
end Go.Sx
end

section
open Go.RowKit
namespace Go.Sx
section
variable [Globs] {P:Program} {rd:Operand→Option V} {hp:Hp} {nx:Nat} {sp:jaa}
theorem jiC {h:Nat} {o:O} {n:Nat} {v:Option V} (hv:v=some (.w (.c (.o h)))) (hf:find hp h=some o) (hn:jcU hp v=some n):(∀c,o.cont=some c→n=c.n)∧(∀X,o.xc=some X→n=X.n) :=
 ⟨fun c hc=>jfC hv (by rw[hf]; exact hc) hn,fun X hX=>jl9 hv (by rw[hf]; exact hX) hn⟩
theorem jjH {z:List D} {v:Option V} {hx:Option Nat} {cx:Option Cont} {c2:Cont} {m:Nat} (g:v.bind (jb0 hp)=some (hx,cx)) (hc:jcd z cx=some c2) (hm:jcU hp v=some m):c2.n=m:=by
 cases v with
 |none=>cases g
 |some v =>
  simp only[Option.bind_some]at g
  unfold jb0 at g
  split at g
  ·rename_i h2
   cases hc':(find hp h2).bind O.cont with
   |none=>simp[hc']at g
   |some c' =>
    simp[hc']at g
    obtain⟨_,rfl⟩:=g
    simp only[jcd,Option.some.injEq]at hc
    subst hc
    exact(jfC rfl hc' hm).symm
  ·cases g
   simp only[jcU,Option.some.injEq]at hm
   rw[(jcN (show jdC z []=some c2 from hc)).2.1,←hm]
   rfl
  ·cases g
theorem bX_ob {op:Op} {r:Res} (ht:obB P op rd hp=true) (h:jdF P op rd hp nx=some r):r.ob:=by
 unfold obB at ht
 unfold jdF at h
 cases op with
 |box elem x=>cases ht
 |alloc elem=>cases ht
 |buildSlice t n ps=>cases ht
 |slice t x lo hi mx =>
  cases mx with
  |none =>
   dsimp only at h ht
   split at h
   ·rename_i n elem h' l m hut hx hl hm
    rw[hl,hm,hut]at ht
    dsimp only at ht
    rw[hx]at ht
    dsimp only at ht
    split at h
    ·rename_i ty k E r' hf hs
     rw[hf]at ht
     split at h
     ·cases h
      simp only[Bool.and_eq_true,jjF,decide_eq_true_eq]at ht
      exact⟨Nat.eq_of_beq_eq_true ht.1,ht.2⟩
     ·cases h
    ·cases h
   ·rename_i elem h' l m hut hx hl hm
    rw[hl,hm,hut]at ht
    dsimp only at ht
    split at h
    ·rename_i X sz hf hs
     split at ht
     ·rename_i n hn
      rw[(jiC hx hf hn).2 X rfl]at ht
      split at h
      ·cases h
       simpa [jjF]using ht
      ·cases h
     ·cases ht
    ·cases h
   ·cases h
  |some mx =>
   cases hi with
   |none=>cases h
   |some hi =>
    dsimp only at h ht
    split at h
    ·rename_i elem h' l k m k' q hut hx hl hm hq
     split at h
     ·rename_i o e hf hs
      split at h
      ·rename_i c hc
       split at h
       ·cases h
        split at ht
        ·rename_i l' k1 m' k2 q' n hl' hm' hq' hn
         rw[hl]at hl'; rw[hm]at hm'; rw[hq]at hq'
         cases hl'; cases hm'; cases hq'
         rw[(jiC hx hf hn).1 c hc]at ht
         simpa using ht
        ·cases ht
       ·cases h
      ·cases h
     ·cases h
    ·cases h
 |load t x =>
  dsimp only at h ht
  split at h
  ·rename_i h' i e j hx
   rw[hx]at ht
   dsimp only at ht
   split at h
   ·rename_i b X hb
    cases hf:find hp h' with
    |none=>simp[hf]at hb
    |some o =>
     rw[hf]at ht
     simp only[hf,Option.bind_some]at hb
     have ht:i<X.n:=by
      cases o<;>simp[O.xk]at hb<;>(obtain⟨_,rfl⟩:=hb; exact jbc ht)
     split at h
     ·split at h
      ·cases h; exact ht
      ·cases h
     ·split at h
      ·split at h
       ·cases h; exact ht
       ·cases h
      ·cases h
     ·cases h
   ·cases h
  ·cases h
 |store t x y =>
  dsimp only at h ht
  split at h
  ·rename_i h' i e j k v hx hy
   rw[hx]at ht
   dsimp only at ht
   split at h
   ·rename_i ty k' E r' _ _ hf
    rw[hf]at ht
    split at h
    ·cases h; exact jbc ht
    ·cases h
   ·rename_i ty k' E l _ _ hf
    rw[hf]at ht
    simp only[jiB,Bool.and_eq_true]at ht
    split at h
    ·cases h; exact⟨jbc ht.1,jbc ht.2⟩
    ·cases h
   ·cases h
  ·rename_i h' i e k E' v hx hy
   rw[hx]at ht
   dsimp only at ht
   split at h
   ·split at h
    ·cases h; trivial
    ·cases h
   ·rename_i ty k' E l _ _ hf
    rw[hf]at ht
    simp only[jiB,Bool.and_eq_true]at ht
    split at h
    ·cases h; exact jbc ht.1
    ·cases h
   ·cases h
  ·split at h
   ·split at h
    ·split at h
     ·cases h; trivial
     ·cases h
    ·cases h
   ·cases h
  ·cases h
 |makeMap t r=>cases r<;>cases ht
 |lookup t x i ok=>cases ht
 |mapUpdate t m i y=>cases ht
 |_=>simp at h
theorem bM_ob {op:Op} {r:Res} (ht:obB P op rd hp=true) (h:jdH P op rd hp nx=some r):r.ob:=by
 unfold obB at ht
 unfold jdH at h
 cases op with
 |makeSlice t l c =>
  dsimp only at h ht
  split at h
  ·rename_i elem k n k' m _ hut hn hm
   rw[hut,hn,hm]at ht
   dsimp only at ht
   split at h
   ·rename_i X0 z b e ts h1 h2 h3 h4 h5
    rw[h3]at ht
    split at h
    ·cases h; simpa using ht
    ·cases h
   ·cases h
  ·cases h
 |buildSlice t n ps=>cases ht
 |load t x =>
  dsimp only at h ht
  split at h
  ·rename_i h' i e j hx
   rw[hx]at ht
   dsimp only at ht
   split at h
   ·rename_i ty ts X hf
    rw[hf]at ht
    have ht:i<X.n:=jbc ht
    split at h
    ·split at h
     ·cases h; exact ht
     ·cases h
    ·split at h
     ·split at h
      ·cases h; exact ht
      ·cases h
     ·cases h
    ·cases h
   ·cases h
  ·cases h
 |store t x y =>
  dsimp only at h ht
  split at h
  ·rename_i h' i e j u hx hy
   rw[hx]at ht
   dsimp only at ht
   split at h
   ·rename_i ty ts X ho sz hf hs
    rw[hf]at ht
    split at h
    ·split at h
     ·split at h
      ·split at h
       ·cases h; exact jbc ht
       ·cases h
      ·cases h
     ·split at h
      ·split at h
       ·split at h
        ·cases h; exact jbc ht
        ·rename_i i0 j0
         split at h
         ·cases h
          simp only[jiB,Bool.and_eq_true]at ht
          exact⟨Nat.eq_of_beq_eq_true ht.1,jbc ht.2⟩
         ·cases h
       ·cases h
      ·cases h
    ·cases h
   ·rename_i r0 i0 e0 j0 t0 c sz hf hs
    rw[hf]at ht
    have ht:i<c.n:=jbc ht
    split at h
    ·split at h
     ·split at h
      ·split at h
       ·cases h; exact ht
       ·cases h
      ·cases h
     ·cases h
    ·cases h
   ·cases h
  ·cases h
 |call c =>
  dsimp only at h ht
  split at h
  ·rename_i s x t t' hc ha hat
   rw[hc,ha,hat]at ht
   dsimp only at ht
   split at h
   ·rename_i elem hb hut
    rw[hut]at ht
    split at ht
    ·rename_i elem' n m he hn hm
     cases he
     split at ht
     ·rename_i b h4
      simp only[Bool.and_eq_true]at ht
      have a1:=Nat.le_of_ble_eq_true ht.1.1
      have a2:=Nat.le_of_ble_eq_true ht.1.2
      have fin:∀{x y:Nat},x≤n→y≤m→(x+y)*b≤140737488355328∧x+y≤9223372036854775807:=fun l1 l2 =>
       ⟨Nat.le_trans (Nat.mul_le_mul_right b (Nat.add_le_add l1 l2)) a1,Nat.le_trans (Nat.add_le_add l1 l2) a2⟩
      have MA:∀{r},jfr P t elem (rd s) (rd x) hp nx=some r→r.ob:=by
       intro r h
       unfold jfr at h
       split at h
       ·rename_i X0 z e b' ts h0 h1 h2 h3 h4' h5
        rw[h4]at h4'
        cases h4'
        have h0:X0.n=0:=by
         unfold xcT at h1
         split at h1
         ·split at h1
          ·split at h1<;>cases h1; rfl
          ·split at h1<;>cases h1<;>rfl
          ·cases h1
         ·cases h1
        have len:∀{v:Option V} {hs:Option Nat} {ty n:Nat} {ts:List Nat} {X:XC},v.bind (mOf hp X0)=some (hs,ty,ts,X)→jcU hp v=some n→X.n≤n:=by
         intro v hs ty n ts X hv hn
         cases v with
         |none=>cases hv
         |some v =>
          simp only[Option.bind_some]at hv
          unfold mOf at hv
          split at hv
          ·split at hv
           ·rename_i ty2 ts2 X2 hf
            cases hv
            exact Nat.le_of_eq (jl9 (X:=X) rfl (by rw[hf]; rfl) hn).symm
           ·cases hv
          ·cases hv; rw[h0]; exact Nat.zero_le _
          ·cases hv
        split at h
        ·rename_i hs ty t1 X1 hx ty' t2 X2 g1 g2
         split at h
         ·cases h
          exact fin (len g1 hn) (len g2 hm)
         ·cases h
        ·cases h
       ·cases h
      split at h
      ·rename_i hs0 hobj
       split at h
       ·rename_i r0 i0 e0 j0 t0 c1 hf
        split at h
        ·rename_i hx cx z e b' ty ts X g1 g2 g3 g4 g5
         rw[h4]at g4
         cases g4
         split at h
         ·rename_i c2 hc2
          split at h
          ·split at h
           ·cases h
            have hs':rd s=some (.w (.c (.o hs0))):=by
             cases hrs:rd s with
             |none=>simp[hrs]at hobj
             |some v =>
              simp only[hrs,Option.bind_some]at hobj
              unfold V.obj? at hobj
              split at hobj
              ·cases hobj; rfl
              ·cases hobj
            have l1:c1.n≤n:=Nat.le_of_eq ((jiC hs' hf hn).1 c1 rfl).symm
            have l2:c2.n≤m:=Nat.le_of_eq (jjH g1 hc2 hm)
            exact fin l1 l2
           ·cases h
          ·cases h
         ·cases h
        ·cases h
       ·exact MA h
      ·exact MA h
     ·cases ht
    ·cases ht
   ·cases h
  ·cases h
 |_=>simp at h
theorem bL_ob {op:Op} {r:Res} (ht:obB P op rd hp=true) (h:jei P op rd hp nx=some r):r.ob:=by
 unfold obB at ht
 unfold jei at h
 cases op with
 |makeSlice t l c =>
  dsimp only at h ht
  split at h
  ·rename_i elem k n k' m _ hut hn hm
   rw[hut,hn,hm]at ht
   dsimp only at ht
   split at h
   ·rename_i z e b h1 h2 h3
    rw[h3]at ht
    split at h
    ·cases h; simpa using ht
    ·cases h
   ·cases h
  ·cases h
 |buildSlice t n ps=>cases ht
 |slice t x lo hi mx =>
  cases mx with
  |some mx=>cases h
  |none =>
   dsimp only at h ht
   split at h
   ·rename_i elem h' l m hut hx hl hm
    rw[hl,hm,hut]at ht
    dsimp only at ht
    split at h
    ·rename_i e n cs sz hf hs
     split at ht
     ·rename_i n' hn
      rw[jjG hx hf hn]at ht
      split at h
      ·cases h
       simpa [jjF]using ht
      ·cases h
     ·cases ht
    ·cases h
   ·cases h
 |store t x y =>
  dsimp only at h
  split at h
  ·split at h
   ·split at h
    ·cases h; trivial
    ·cases h
   ·cases h
  ·cases h
 |call c =>
  dsimp only at h ht
  split at h
  ·rename_i s x t t' hc ha hat
   rw[hc,ha,hat]at ht
   dsimp only at ht
   split at h
   ·rename_i elem _ hb hut
    rw[hut]at ht
    split at h
    ·rename_i z e b h1 h2 h3
     split at h
     ·rename_i hs ty e1 n1 cs1 n2 cs2 g1 g2
      split at ht
      ·rename_i elem' n m he hn hm
       cases he
       rw[h3]at ht
       simp only[Bool.and_eq_true]at ht
       have l1:n1=n:=by
        cases hrs:rd s with
        |none=>simp[hrs]at g1
        |some v =>
         simp only[hrs,Option.bind_some]at g1
         rw[hrs]at hn
         unfold lOf at g1
         split at g1
         ·rename_i k
          split at g1
          ·rename_i hf
           cases g1
           exact(jjG rfl (by rw[hf]; rfl) hn).symm
          ·cases g1
         ·cases g1; simpa [jcU]using hn
         ·cases g1
       have l2:n2=m:=by
        cases hrs:rd x with
        |none=>simp[hrs]at g2
        |some v =>
         simp only[hrs,Option.bind_some]at g2
         rw[hrs]at hm
         unfold lRd at g2
         split at g2
         ·rename_i k
          split at g2
          ·rename_i hf
           cases g2
           exact(jjG rfl hf hm).symm
          ·cases g2
         ·cases g2; simpa [jcU]using hm
         ·cases g2
       split at h
       ·cases h
        rw[←l1,←l2]at ht
        exact⟨Nat.le_of_ble_eq_true ht.1.1,Nat.le_of_ble_eq_true ht.1.2⟩
       ·cases h
      ·cases ht
     ·cases h
    ·cases h
   ·cases h
  ·cases h
 |_=>simp at h
theorem bH_ob {op:Op} {r:Res} (ht:obB P op rd hp=true) (hcall:∀c,op=.call c→c.callee=.builtin .append) (h:jg8 P sp op rd hp nx=some r):r.ob:=by
 unfold obB at ht
 unfold jg8 at h
 cases op with
 |box elem x=>cases ht
 |alloc elem=>cases ht
 |buildSlice t n ps=>cases ht
 |makeSlice t l c =>
  dsimp only at h ht
  split at h
  ·rename_i elem k n k' m hut hn hm
   rw[hut,hn,hm]at ht
   dsimp only at ht
   split at h
   ·rename_i z e b h1 h2 h3
    rw[h3]at ht
    split at h
    ·split at h
     ·cases h; simpa using ht
     ·cases h
    ·cases h
   ·cases h
  ·cases h
 |slice t x lo hi mx =>
  cases mx with
  |some mx=>cases h
  |none =>
   dsimp only at h ht
   split at h
   ·split at h
    ·split at h
     ·split at h
      ·split at h
       ·cases h; trivial
       ·cases h
      ·cases h
     ·cases h
    ·cases h
   ·rename_i elem h' l m hut hx hl hm
    rw[hl,hm,hut]at ht
    dsimp only at ht
    split at h
    ·rename_i o e hf hs
     split at h
     ·rename_i c hc
      split at ht
      ·rename_i n hn
       rw[(jiC hx hf hn).1 c hc]at ht
       split at h
       ·cases h
        simpa [jjF]using ht
       ·cases h
      ·cases ht
     ·cases h
    ·cases h
   ·cases h
 |store t x y =>
  dsimp only at h ht
  split at h
  ·rename_i h' i e j u hx hy
   rw[hx]at ht
   dsimp only at ht
   split at h
   ·split at h
    ·rename_i ty cs hf
     rw[hf,hy]at ht
     split at h
     ·rename_i p cs' hst
      cases h
      unfold jn3 at hst
      split at hst
      ·split at hst
       ·cases hst
       ·rename_i c0 r0 hu
        dsimp only[jiB]at ht
        exact jvk hst ht
      ·cases hst
     ·split at h
      ·cases h; trivial
      ·cases h
    ·rename_i ty c hf
     rw[hf]at ht
     have ht:i<c.n:=by
      cases c with
      |frs k E l =>
       simp only[jiB,Bool.and_eq_true]at ht
       exact jbc ht.1
      |_=>exact jbc ht
     split at h
     ·split at h
      ·split at h
       ·cases h; exact ht
       ·cases h
      ·cases h
     ·cases h
    ·cases h
   ·cases h
  ·cases h
 |call c =>
  dsimp only at h ht
  have hcc:=hcall c rfl
  rw[hcc]at h ht
  split at h
  ·rename_i s x t t' _ ha hat
   rw[ha,hat]at ht
   dsimp only at ht
   split at h
   ·rename_i hte
    split at ht
    ·rename_i elem n m hut hn hm
     split at ht
     ·rename_i b hb
      simp only[Bool.and_eq_true]at ht
      have a1:=Nat.le_of_ble_eq_true ht.1.1
      have a2:=Nat.le_of_ble_eq_true ht.1.2
      have fin:∀{x y:Nat},x≤n→y≤m→(x+y)*b≤140737488355328∧x+y≤9223372036854775807:=fun l1 l2 =>
       ⟨Nat.le_trans (Nat.mul_le_mul_right b (Nat.add_le_add l1 l2)) a1,Nat.le_trans (Nat.add_le_add l1 l2) a2⟩
      split at h
      ·rename_i c1 hfv
       rw[hfv]at ht
       simp only[Bool.and_eq_true]at ht
       unfold jfa at h
       split at h
       ·rename_i elem' hx cx hut' g1
        rw[hut]at hut'
        cases hut'
        split at h
        ·rename_i z e b' h1 h2 h3
         rw[hb]at h3
         cases h3
         split at h
         ·rename_i c2 hc2
          split at h
          ·split at h
           ·cases h
            have l1:c1.n≤n:=by
             unfold jiT at hfv
             split at hfv
             ·rename_i hh hrs
              split at hfv
              ·rename_i rr cc hf
               cases hfv
               exact Nat.le_of_eq ((jiC hrs hf hn).1 c1 rfl).symm
              ·cases hfv
             ·cases hfv
            have l2:=jjH g1 hc2 hm
            exact⟨jbc ht.2.1,by rw[l2]; exact jbc ht.2.2,fin l1 (Nat.le_of_eq l2)⟩
           ·cases h
          ·cases h
         ·cases h
        ·cases h
       ·cases h
      ·split at h
       ·rename_i elem' hs cs hx cx hut' g1 g2
        rw[hut]at hut'
        cases hut'
        split at h
        ·rename_i z e b' h1 h2 h3
         rw[hb]at h3
         cases h3
         split at h
         ·rename_i c1 c2 _ hc1 hc2
          split at h
          ·split at h
           ·cases h
            exact fin (Nat.le_of_eq (jjH g1 hc1 hn)) (Nat.le_of_eq (jjH g2 hc2 hm))
           ·cases h
          ·cases h
         ·cases h
        ·cases h
       ·cases h
     ·cases ht
    ·cases ht
   ·cases h
  ·rename_i hc; cases hc
  ·cases h
 |_=>simp at h
theorem b_ob {op:Op} {r:Res} (ht:obB P op rd hp=true) (h:jbM P sp op rd hp nx=some r):r.ob:=by
 unfold jbM at h
 split at h
 ·rename_i ob v hv
  cases h
  unfold ja5 at hv
  split at hv
  ·rename_i p hp0
   cases hv
   exact jyd ht hp0
  ·exact jAv ht hv
 ·split at h
  ·rename_i r' hr
   cases h
   exact bR_ob ht hr
  ·split at h
   ·rename_i r' hr
    cases h
    exact bX_ob ht hr
   ·split at h
    ·rename_i r' hr
     cases h
     exact bL_ob ht hr
    ·split at h
     ·rename_i r' hr
      cases h
      exact bM_ob ht hr
     ·split at h
      ·rename_i r' hr
       cases h
       exact bN_ob ht hr
      ·refine bH_ob ht ?_ h
       intro c hc
       subst hc
       unfold obB at ht
       dsimp only at ht
       split at ht
       ·assumption
       ·cases ht
end
end Go.Sx
end
