/- Part 5 of the proof of EngineWeak: the executor, the mirrors of the functions, the plain facts. -/
import Derived.Test.YtigliehhpdpaoaaGreatPD
set_option maxRecDepth 100000
set_option linter.unusedSectionVars false
set_option linter.unusedSimpArgs false
set_option linter.unusedVariables false
section
namespace Go.Sh
open Go Go.Proofs Go.RowKit Go.Sx
def cg (nm:ByteArray) (g:List (List NC)):Int × Int :=
 if(!jeq nm)=true then(0,4)
 else if(g.length:Int)>24 then(0,8)
 else match(List.range g.length).findIdx? (fun i=>jbt g i != 0)with
  |some i=>((i:Int),jbt g i)
  |none=>(0,0)
theorem jxj (a b:Int):jeR [a,b]=some (if(a != 0)=true then a else b):=by
 unfold jeR
 have key:=jbs (body:=jpf [a,b]) [a,b] 0 (fun x=>x != 0) (fun i=>.inl ([a,b].getD i 0)) (.inr ()) (by simp) (fun i hi hp=>by
   unfold jpf; simp only[Int.toNat_natCast]
   rw[if_pos (by omega),if_pos (by omega),if_pos hi,if_pos hp]) (fun i hi hp=>by
   unfold jpf; simp only[Int.toNat_natCast]
   have hi2:i<2:=hi
   rw[if_pos (by omega),if_pos (by omega),if_pos hi,if_neg (by rw[hp]; exact Bool.false_ne_true),jaO (by omega)]) (by
   unfold jpf; simp only[Int.toNat_natCast]
   rw[if_neg (by omega)])
 rw[key]
 cases ha:(a != 0)with
 |true=>simp[List.findIdx?_cons,ha]; rfl
 |false =>
  cases hb:(b != 0)with
  |true=>simp[List.findIdx?_cons,ha,hb]; rfl
  |false =>
   have:b=0:=by simpa using hb
   simp[List.findIdx?_cons,ha,hb,this]; rfl
theorem jom {n:Nat} {P:Nat→Bool} {i:Nat} (h:(List.range n).findIdx? P=some i):i<n:=by
 rw[List.findIdx?_eq_some_iff_getElem]at h
 obtain⟨h,_⟩:=h
 simpa using h
theorem jk1 {g:List (List NC)} (hw:Fw g) {nm:ByteArray} (hs:nm.size<1000):y26 nm g=some (cg nm g):=by
 have hn:=hw.n
 unfold y26 cg
 rw[jsk hs]
 simp only[jad,jmr]
 rw[jxj,jad]
 cases jeq nm with
 |false=>rfl
 |true =>
  by_cases h24:(g.length:Int)>24
  ·rw[if_neg (by simp:¬(!true)=true),if_pos h24]
   have e:decide ((g.length:Int)≤24)=false:=by simp; omega
   rw[e]; rfl
  ·rw[if_neg (by simp:¬(!true)=true),if_neg h24]
   have e:decide ((g.length:Int)≤24)=true:=by simp; omega
   rw[e]
   show Option.bind (jag (y31 nm g) big 0) y119=_
   have key:=jbs (body:=y31 nm g) (List.range g.length) 0 (fun i=>jbt g i != 0) (fun i=>.inl ((i:Int),jbt g i)) (.inr ()) (by simp; omega) (fun i hi hp=>by
     have hi:i<g.length:=by simpa using hi
     have hr:(List.range g.length).getD i 0=i:=by simp[List.getD,hi]
     rw[hr]at hp
     unfold y31
     rw[if_pos (by omega),jsl hw nm hi,jad,if_pos hp]) (fun i hi hp=>by
     have hi:i<g.length:=by simpa using hi
     have hr:(List.range g.length).getD i 0=i:=by simp[List.getD,hi]
     rw[hr]at hp
     unfold y31
     rw[if_pos (by omega),jsl hw nm hi,jad,if_neg (by rw[hp]; exact Bool.false_ne_true),jaO (by omega)]) (by
     unfold y31
     rw[if_neg (by simp)])
   rw[key]
   cases (List.range g.length).findIdx? (fun i=>jbt g i != 0)<;>rfl
theorem jxk {g:List (List NC)} (hw:Fw g) {nm:ByteArray} (hs:nm.size<1000):y30 nm g=some (cg nm g):=by
 have hn:=hw.n
 unfold y30 cg
 rw[jsj hs,jad]
 cases jeq nm with
 |false=>rfl
 |true =>
  have ht:¬((!true)=true):=by simp
  rw[if_neg ht,if_neg ht]
  by_cases h24:(g.length:Int)>24
  ·rw[if_pos h24,if_pos h24]
  ·rw[if_neg h24,if_neg h24]
   have key:=jbs (body:=y32 nm g) (List.range g.length) 0 (fun i=>jbt g i != 0) (fun i=>.inl ((i:Int),jbt g i)) (.inr ()) (by simp; omega) (fun i hi hp=>by
     have hi:i<g.length:=by simpa using hi
     have hr:(List.range g.length).getD i 0=i:=by simp[List.getD,hi]
     rw[hr]at hp
     unfold y32
     rw[if_pos (by omega),jsm hw nm hi,jad,if_pos hp]) (fun i hi hp=>by
     have hi:i<g.length:=by simpa using hi
     have hr:(List.range g.length).getD i 0=i:=by simp[List.getD,hi]
     rw[hr]at hp
     unfold y32
     rw[if_pos (by omega),jsm hw nm hi,jad,if_neg (by rw[hp]; exact Bool.false_ne_true),jaO (by omega)]) (by
     unfold y32
     rw[if_neg (by simp)])
   rw[key]
   cases (List.range g.length).findIdx? (fun i=>jbt g i != 0)<;>rfl
def rowU (g:List (List NC)) (i:Nat):List NC:=[.d (.s (nS g i 0)),.d (.i .i64 (nI g i 1)),.r (.ints .i64 (nL g i 2)),.r (.ints .i64 (nL g i 3)),.r (.ints .i64 (nL g i 4)),.d (.i .i64 (nI g i 5)),.r (.recs 5 (nR g i 6)),.d (.i .i64 (nI g i 7))]
def cpU (g:List (List NC)):List (List NC):=(List.range g.length).map (rowU g)
theorem jAa {g:List (List NC)} (hw:Fw g) (nm:ByteArray):y90 nm g=some (nm,cpU g):=by
 have hn:=hw.n
 unfold y90
 have key:=jbW (body:=y85 g) (fun k=>((k:Int),(List.range k).map (rowU g))) (y:=cpU g) (k:=g.length) (fun i hi=>by
   have h2:=hw.fr i hi
   have h3:=hw.al i hi
   have h4:=hw.ga i hi
   have h5:=hw.ca i hi
   unfold y85
   simp only[Int.toNat_natCast]
   rw[if_pos (by omega),if_pos (by omega),if_pos hi,jfI _ (by omega),jfI _ (by omega),jfI _ (by omega)]
   simp only[jad]
   rw[if_pos (by omega),if_pos (by simp only[List.length_map,List.length_range,List.length_cons,List.length_nil]; omega),jaO (by omega),List.range_succ,List.map_append]
   rfl) (by
   unfold y85
   rw[if_neg (by simp)]
   rfl) (by omega)
 have key:jag (y85 g) big ((0:Int),[])=some (cpU g):=key
 rw[key]
 rfl
theorem jb3 (g:List (List NC)):(cpU g).length=g.length:=by simp[cpU]
theorem jfv {g:List (List NC)} {i:Nat} (hi:i<g.length):(cpU g).getD i []=rowU g i:=by simp[cpU,List.getD,hi]
theorem cp_S {g:List (List NC)} {i:Nat} (hi:i<g.length):nS (cpU g) i 0=nS g i 0:=by
 show NC.toS (((cpU g).getD i []).getD 0 _)=_
 rw[jfv hi]; rfl
theorem cp_I {g:List (List NC)} {i:Nat} (hi:i<g.length):nI (cpU g) i 1=nI g i 1∧nI (cpU g) i 5=nI g i 5∧nI (cpU g) i 7=nI g i 7:=by
 refine⟨?_,?_,?_⟩
 ·show NC.toI (((cpU g).getD i []).getD 1 _)=_
  rw[jfv hi]; rfl
 ·show NC.toI (((cpU g).getD i []).getD 5 _)=_
  rw[jfv hi]; rfl
 ·show NC.toI (((cpU g).getD i []).getD 7 _)=_
  rw[jfv hi]; rfl
theorem jm2 {g:List (List NC)} {i:Nat} (hi:i<g.length):nL (cpU g) i 2=nL g i 2∧nL (cpU g) i 3=nL g i 3∧nL (cpU g) i 4=nL g i 4:=by
 refine⟨?_,?_,?_⟩
 ·show NC.toInts (((cpU g).getD i []).getD 2 _)=_
  rw[jfv hi]; rfl
 ·show NC.toInts (((cpU g).getD i []).getD 3 _)=_
  rw[jfv hi]; rfl
 ·show NC.toInts (((cpU g).getD i []).getD 4 _)=_
  rw[jfv hi]; rfl
theorem cp_R {g:List (List NC)} {i:Nat} (hi:i<g.length):nR (cpU g) i 6=nR g i 6:=by
 show NC.toRecs (((cpU g).getD i []).getD 6 _)=_
 rw[jfv hi]; rfl
theorem jzI {g:List (List NC)} (hw:Fw g):Fw (cpU g):=by
 constructor
 ·rw[jb3]; exact hw.n
 all_goals intro i hi; rw[jb3]at hi
 ·rw[cp_S hi]; exact hw.nm i hi
 ·rw[(jm2 hi).1]; exact hw.fr i hi
 ·rw[(jm2 hi).2.1]; exact hw.al i hi
 ·rw[(jm2 hi).2.2]; exact hw.ga i hi
 ·rw[cp_R hi]; exact hw.ca i hi
theorem jxl {g:List (List NC)} {i:Nat} (hi:i<g.length):jbt (cpU g) i=jbt g i:=by
 have hex:exB (cpU g) i=exB g i:=by
  unfold exB
  rw[cp_S hi]
  have:∀l:List Nat,(∀k∈l,k<i)→(l.any fun k=>nS (cpU g) k 0==nS g i 0)=l.any fun k=>nS g k 0==nS g i 0:=by
   intro l
   induction l with
   |nil=>intro _; rfl
   |cons x r ih =>
    intro h
    have hx:=h x List.mem_cons_self
    rw[List.any_cons,List.any_cons,cp_S (by omega),ih fun k hk=>h k (List.mem_cons_of_mem _ hk)]
  exact this _ fun k hk=>List.mem_range.1 hk
 unfold jbt
 rw[cp_S hi,hex,(cp_I hi).1,(cp_I hi).2.1,(cp_I hi).2.2,(jm2 hi).1,(jm2 hi).2.1,(jm2 hi).2.2,cp_R hi,jb3]
def cgM (e:Nat→Int) (o:Option Nat):Int × Int:=match o with
 |some i=>((i:Int),e i)
 |none=>(0,0)
def cgF (b:Bool) (n:Nat) (e:Nat→Int):Int × Int:=if(!b)=true then(0,4)else if(n:Int)>24 then(0,8)else cgM e ((List.range n).findIdx? fun i=>e i != 0)
theorem jvU (e e':Nat→Int) (n:Nat) (hn:∀i,i<n→e i=e' i) (l:List Nat):(∀i∈l,i<n)→l.findIdx? (fun i=>e i != 0)=l.findIdx? (fun i=>e' i != 0):=by
 induction l with
 |nil=>intro _; rfl
 |cons x r ih =>
  intro h
  rw[List.findIdx?_cons,List.findIdx?_cons,hn x (h x List.mem_cons_self),ih fun i hi=>h i (List.mem_cons_of_mem _ hi)]
theorem jxm (b:Bool) (n:Nat) (e e':Nat→Int) (hn:∀i,i<n→e i=e' i):cgF b n e=cgF b n e':=by
 unfold cgF
 rw[jvU e e' n hn _ fun i hi=>List.mem_range.1 hi]
 have hm:cgM e ((List.range n).findIdx? fun i=>e' i != 0)=cgM e' ((List.range n).findIdx? fun i=>e' i != 0):=by
  cases h:(List.range n).findIdx? (fun i=>e' i != 0)with
  |none=>rfl
  |some i =>
   show((i:Int),e i)=((i:Int),e' i)
   rw[hn i (jom h)]
 rw[hm]
theorem jon (nm:ByteArray) (g:List (List NC)):cg nm g=cgF (jeq nm) g.length (jbt g):=by
 unfold cg cgF cgM
 rfl
theorem jq0 (nm:ByteArray) (g:List (List NC)):cg nm (cpU g)=cg nm g:=by
 rw[jon,jon,jb3]
 exact jxm _ _ _ _ fun i hi=>jxl hi
theorem jxn (nm:ByteArray) (g:List (List NC)):jd7 nm g=some false∨(jd7 nm g=some true∧Fw g∧nm.size<1000):=by
 unfold jd7
 by_cases h0:((nm.size:Nat):Int)>20
 ·rw[if_pos h0]; exact .inl rfl
 rw[if_neg h0]
 have loop:g.length≤26→(Option.bind (jag (y53 g) big 0) jep=some false∨(Option.bind (jag (y53 g) big 0) jep=some true∧Fw g∧nm.size<1000)):=by
  intro h26
  let P:Nat→Bool:=fun i=>decide ((((nS g i 0).size:Nat):Int)>20)||decide (((nL g i 2).length:Int)>8)||decide (((nL g i 3).length:Int)>8)||decide (((nL g i 4).length:Int)>8)||decide (((nR g i 6).length:Int)>8)
  have key:=jcD (body:=y53 g) g.length P (.inl ()) (.inr ()) (by omega) (fun i hi hp=>by
    unfold y53; simp only[Int.toNat_natCast]
    rw[if_pos (by omega),if_pos (by omega),if_pos hi]
    simp only[P,Bool.or_eq_true,decide_eq_true_eq]at hp
    repeat' split
    all_goals first|rfl|(exfalso; omega)) (fun i hi hp=>by
    unfold y53; simp only[Int.toNat_natCast]
    rw[if_pos (by omega),if_pos (by omega),if_pos hi]
    simp only[P,Bool.or_eq_false_iff,decide_eq_false_iff_not]at hp
    rw[if_neg hp.1.1.1.1,if_neg hp.1.1.1.2,if_neg hp.1.1.2,if_neg hp.1.2,if_neg hp.2,jaO (by omega)]) (by
    unfold y53; simp only[Int.toNat_natCast]
    rw[if_neg (by omega)])
  rw[key]
  cases hP:(List.range g.length).any P with
  |true=>exact .inl rfl
  |false =>
   refine .inr ⟨rfl,?_,by omega⟩
   have hall:∀i,i<g.length→P i=false:=fun i hi=>by
    have:=List.any_eq_false.1 hP i (by simpa using hi)
    simpa using this
   have hq:∀i,i<g.length→(nS g i 0).size≤20∧(nL g i 2).length≤8∧(nL g i 3).length≤8∧(nL g i 4).length≤8∧(nR g i 6).length≤8:=fun i hi=>by
    have hp:=hall i hi
    simp only[P,Bool.or_eq_false_iff,decide_eq_false_iff_not]at hp
    omega
   exact⟨by omega,fun i hi=>by have:=hq i hi; omega,fun i hi=>by have:=hq i hi; omega,fun i hi=>by have:=hq i hi; omega,fun i hi=>by have:=hq i hi; omega,fun i hi=>by have:=hq i hi; omega⟩
 split
 ·split
  ·exact .inl rfl
  ·split
   ·exact .inl rfl
   ·exact loop (by omega)
 ·split
  ·exact .inl rfl
  ·exact loop (by omega)
end Go.Sh
end

section
namespace Go.Sx09
open Go Go.Proofs Go.RowKit Go.Shelf Go.Sx
attribute [local go_sem] Oper.semAt_some
structure KpS (K:Nat→Prop) (A C:World):Prop where
 size:A.heap.size≤C.heap.size
 same:∀k o,K k→A.heap[k]?=some o→o.isCells=true→C.heap[k]?=some o
theorem kps_t {K:Nat→Prop} {A B C:World} (h:KpS K A B) (k:KpS K B C):KpS K A C:=⟨Nat.le_trans h.size k.size,fun x o hx ho hc=>k.same x o hx (h.same x o hx ho hc) hc⟩
theorem kps_b {K:Nat→Prop} {w:World} (W:World) (l:Nat) (o o':Obj) (_:w.heap.size≤l) (h:W.heap[l]?=some o) (hc:o.isCells=false) (_:o.isWalk=false):KpS K W (W.putObj l o') :=
 ⟨by simp,fun k u _ hk hu=>by
  have hne:l≠k:=fun e=>by subst e; rw[h]at hk; cases hk; rw[hc]at hu; cases hu
  exact(World.putObj_heap_other (fun e=>hne e.symm)).trans hk⟩
theorem jxo {K:Nat→Prop} {A B:World} (h:Below A.heap.size A B):KpS K A B:=⟨h.size,fun k o _ hk _=>(h.block k (Array.getElem?_eq_some_iff.1 hk).1).trans hk⟩
def needL (L:List Int) (st:Int):List Int:=if st=-1 then L else L++[st]
def stN (y:Value) (L:List Int) (v:List Value) (st:Int) (k:Nat):St :=
 ⟨[(18,vi .i64 k),(17,vi .i64 L.length),(16,.w (.c (.o 0))),(4,.w (.c (.p 1 0 1 0))),(0,.w (.c (.d (.v y))))],[(0,.ext (.ints .i64 L)),(1,.ebox (v.map (fun x=>C.d (.v x))++[.d (.i .i64 st)]))],2⟩
def stNc (y:Value) (L:List Int) (v:List Value) (st:Int) (k:Nat):St:=⟨(19,vb (decide ((k:Int)<L.length)))::(stN y L v st k).tm,(stN y L v st k).hp,2⟩
def stNd (y:Value) (L:List Int) (v:List Value) (st:Int) (k:Nat):St:=⟨(6,vi .i64 (L.getD k 0))::(stN y L v st k).tm,(stN y L v st k).hp,2⟩
def stNe (y:Value) (L:List Int) (v:List Value) (st:Int) (k:Nat):St:=⟨(29,vb (st != -1))::(stN y L v st k).tm,(stN y L v st k).hp,2⟩
abbrev pn (c:Code) (st st2:St):Prop:=sx Tryz.prog (fun _=>none) 34 2 0 (fun _ _ _=>none) (fun _ _ _=>False) c 0 [] st (fun e st'=>match e with | .normal=>Le 2 st' st2|_=>False)
section
variable (y:Value) (L:List Int) (v0 v1 v2 v3 v4 v5 v6:Value) (st:Int) (k:Nat)
theorem pn1:pn (sub [1,0,1,0,0,0] (bodyOf Tryz.f132)) (stN y L [v0,v1,v2,v3,v4,v5,v6] st k) (stNc y L [v0,v1,v2,v3,v4,v5,v6] st k):=by
 refine Eq.mp (by kernel_rfl:(Ob ((decide ((k:Int)<L.length))=decide ((k:Int)<L.length))∧Ob ((k:Int)=k)∧Ob ((L.length:Int)=L.length)∧Ob ((0:Nat)=0)∧Ob (y=y)∧Ob (L=L)∧Ob (v0=v0)∧Ob (v1=v1)∧Ob (v2=v2)∧Ob (v3=v3)∧Ob (v4=v4)∧Ob (v5=v5)∧Ob (v6=v6)∧Ob (st=st)∧True)=_) ?_
 exact⟨⟨rfl⟩,⟨rfl⟩,⟨rfl⟩,⟨rfl⟩,⟨rfl⟩,⟨rfl⟩,⟨rfl⟩,⟨rfl⟩,⟨rfl⟩,⟨rfl⟩,⟨rfl⟩,⟨rfl⟩,⟨rfl⟩,⟨rfl⟩,trivial⟩
theorem pn2 (hk:k<L.length):pn (sub [1,0,1,0,0,1,1,0,0,0] (bodyOf Tryz.f132)) (stNc y L [v0,v1,v2,v3,v4,v5,v6] st k) (stNd y L [v0,v1,v2,v3,v4,v5,v6] st k):=by
 refine Eq.mp (by kernel_rfl:(Ob (0≤(k:Int)∧(k:Int)<(L.length:Int))∧Ob ((k:Int).toNat<L.length)∧Ob (L.getD (k:Int).toNat 0=L.getD k 0)∧Ob ((k:Int)=k)∧Ob ((L.length:Int)=L.length)∧Ob ((0:Nat)=0)∧Ob (y=y)∧Ob (L=L)∧Ob (v0=v0)∧Ob (v1=v1)∧Ob (v2=v2)∧Ob (v3=v3)∧Ob (v4=v4)∧Ob (v5=v5)∧Ob (v6=v6)∧Ob (st=st)∧True)=_) ?_
 exact⟨⟨by omega⟩,⟨by omega⟩,⟨rfl⟩,⟨rfl⟩,⟨rfl⟩,⟨rfl⟩,⟨rfl⟩,⟨rfl⟩,⟨rfl⟩,⟨rfl⟩,⟨rfl⟩,⟨rfl⟩,⟨rfl⟩,⟨rfl⟩,⟨rfl⟩,⟨rfl⟩,trivial⟩
theorem pn3 (hk:(k:Int)+1≤9223372036854775807):pn (sub [1,0,1,0,0,1,1,1] (bodyOf Tryz.f132)) (stN y L [v0,v1,v2,v3,v4,v5,v6] st k) (stN y L [v0,v1,v2,v3,v4,v5,v6] st (k+1)):=by
 refine Eq.mp (by kernel_rfl:(Ob (IntKind.i64.wrap ((k:Int)+1)=((k+1:Nat):Int))∧Ob ((L.length:Int)=L.length)∧Ob ((0:Nat)=0)∧Ob (y=y)∧Ob (L=L)∧Ob (v0=v0)∧Ob (v1=v1)∧Ob (v2=v2)∧Ob (v3=v3)∧Ob (v4=v4)∧Ob (v5=v5)∧Ob (v6=v6)∧Ob (st=st)∧True)=_) ?_
 refine⟨⟨?_⟩,⟨rfl⟩,⟨rfl⟩,⟨rfl⟩,⟨rfl⟩,⟨rfl⟩,⟨rfl⟩,⟨rfl⟩,⟨rfl⟩,⟨rfl⟩,⟨rfl⟩,⟨rfl⟩,⟨rfl⟩,trivial⟩
 rw[IntWalk.i64_in _ (by omega)]
 omega
theorem pn4:pn (sub [1,1,0] (bodyOf Tryz.f132)) (stN y L [v0,v1,v2,v3,v4,v5,v6] st k) (stNe y L [v0,v1,v2,v3,v4,v5,v6] st k):=by
 refine Eq.mp (by kernel_rfl:(Ob True∧Ob ((st != (-1:Int))=(st != (-1:Int)))∧Ob ((k:Int)=k)∧Ob ((L.length:Int)=L.length)∧Ob ((0:Nat)=0)∧Ob (y=y)∧Ob (L=L)∧Ob (v0=v0)∧Ob (v1=v1)∧Ob (v2=v2)∧Ob (v3=v3)∧Ob (v4=v4)∧Ob (v5=v5)∧Ob (v6=v6)∧Ob (st=st)∧True)=_) ?_
 exact⟨⟨trivial⟩,⟨rfl⟩,⟨rfl⟩,⟨rfl⟩,⟨rfl⟩,⟨rfl⟩,⟨rfl⟩,⟨rfl⟩,⟨rfl⟩,⟨rfl⟩,⟨rfl⟩,⟨rfl⟩,⟨rfl⟩,⟨rfl⟩,⟨rfl⟩,trivial⟩
end
theorem jge {ρ:Env} {B:Kd} {N n0:Nat} {st:St} {a:Act} {w:World} {t:Nat} {v:V} (h:Rel ρ B N n0 st a w) (hv:v.lt st.nx) (hlt:t<N):Rel ρ B N n0 ⟨(t,v)::st.tm,st.hp,st.nx⟩ (a.put (some t) (v.val ρ)) w:=by
 refine⟨fun x u hx=>?_,by rw[jbo]; exact h.size,by rw[jcx]; exact h.defers,h.heap,h.le,h.n0⟩
 simp only[jaE]at hx
 rw[jbD (fun y hy=>by cases hy; rw[h.size]; exact hlt)]
 split at hx
 ·rename_i e
  subst e
  cases hx
  exact⟨hv,by rw[if_pos rfl]⟩
 ·rename_i e
  rw[if_neg (fun e'=>e (Option.some.inj e'))]
  exact h.tm x u hx
theorem jsn {o:Oper} {v:Value} {n:Nat} {a:Act} {w:World} {K:Act→World→Prop} {Q:Exit→Act→World→Prop} (h:(execOp a.eval o).run Tryz.prog w=.ok (.value v) w) (hK:K (a.put o.dst v) w):o.wpIn Fence.wide n Tryz.prog a w K Q:=by
 refine⟨fun _ _=>trivial,?_⟩
 rw[Fence.wide_round,Oper.semAt_none,h]
 exact hK
theorem jdo {o:Oper} {t n N n0:Nat} {ob:Prop} {v:V} {ρ:Env} {B:Kd} {st:St} {a:Act} {w:World} {K:Act→World→Prop} {Q:Exit→Act→World→Prop} (hr:Rel ρ B N n0 st a w) (hs:ja1 Tryz.prog o.op (jb5 st) st.hp=some (ob,v)) (hob:ob) (hd:o.dst=some t) (ht:t<N)
  (hK:∀a',Rel ρ B N n0 ⟨(t,v)::st.tm,st.hp,st.nx⟩ a' w→K a' w):o.wpIn Fence.wide n Tryz.prog a w K Q:=by
 obtain⟨B',_,hh⟩:=hr.heap
 have h1:=jfj hh hr.reads hs hob
 refine jsn h1.1 ?_
 rw[hd]
 exact hK _ (jge hr h1.2 ht)
theorem juH {ρ:Env} {B:Kd} {N n0:Nat} {s s0:St} {a:Act} {w:World} (h:Rel ρ B N n0 s0 a w) (ht:∀t v,jaE s.tm t=some v→jaE s0.tm t=some v) (hh:s.hp=s0.hp) (hn:s.nx=s0.nx):Rel ρ B N n0 s a w :=
 ⟨fun t v hv=>by rw[hn]; exact h.tm t v (ht t v hv),h.size,h.defers,by rw[hh,hn]; exact h.heap,h.le,by rw[hn]; exact h.n0⟩
structure BetN (K:Nat→Prop) (y:Value) (L:List Int) (v:List Value) (st:Int) (k:Nat) (a:Act) (w:World):Prop where
 rel:∃ρ,Rel ρ (kd fun x=>x<w.heap.size) 34 2 (stN y L v st k) a w∧(∀ad n cap,ρ 0=.slice (some ad) n cap→0<n→K ad.block)∧∀b o,ρ 1=.pointer (some ⟨b,o,none⟩)→K b
theorem jlJ {K:Nat→Prop} {ρ:Env} {B:Kd} {L:List Int} {v:List Value} {st:Int} {a:Act} {w w':World} {s:St} (h:Rel ρ B 34 2 s a w) (hs:s.hp=[(0,.ext (.ints .i64 L)),(1,.ebox (v.map (fun x=>C.d (.v x))++[.d (.i .i64 st)]))]) (h0:∀ad n cap,ρ 0=.slice (some ad) n cap→0<n→K ad.block) (h1:∀b o,ρ 1=.pointer (some ⟨b,o,none⟩)→K b) (hk:KpS K w w') :
  Rel ρ (kd fun x=>x<w'.heap.size) 34 2 s a w':=by
 obtain⟨B',_,hh⟩:=h.heap
 have keep:∀{b:Nat} {off:Nat} {u:Value},K b→w.cell? ⟨b,off,none⟩=some u→w'.cell? ⟨b,off,none⟩=some u:=fun {b off u} hK hc=>by
  obtain⟨o,ho,hoc⟩:=cells_of_cell hc
  have h2:=hk.same _ o hK ho hoc
  exact(World.cell?_of_block (w:=w) (w':=w') (a:=⟨b,off,none⟩) (h2.trans (show w.heap[b]?=some o from ho).symm)).trans hc
 refine⟨h.tm,h.size,h.defers,⟨kd fun x=>x<w'.heap.size,Grow.refl _ _ _ _,⟨fun x o hf=>?_,fun x o x' o' b hf hf' hne hb=>?_,jf3⟩⟩,fun k hk=>jbA.1 hk,h.n0⟩
 ·have hx:=hh.ok x o hf
  refine⟨hx.1,hx.2.1,?_⟩
  simp only[hs,find]at hf
  split at hf
  ·rename_i e; subst e; cases hf
   obtain⟨⟨ad,cap,hv,hc,hcells⟩,ho⟩:=hx.2.2
   have hrow:jaF w' (ρ 0) (.ints .i64 L):=by
    refine⟨ad,cap,hv,hc,fun hn=>?_⟩
    obtain⟨b,off,hab,hxc⟩:=hcells hn
    subst hab
    exact⟨b,off,rfl,fun j z hj=>keep (h0 _ _ _ hv hn) (hxc j z hj)⟩
   exact⟨hrow,hrow.lt (Nat.lt_succ_self 0)⟩
  ·split at hf
   ·rename_i e; subst e; cases hf
    obtain⟨b,off,hv,hB,hcells⟩:=hx.2.2
    have hK:=h1 b off hv
    refine⟨b,off,hv,?_,fun j c hj=>keep hK (hcells j c hj)⟩
    have hc0:=keep hK (hcells v.length (.d (.i .i64 st)) (by rw[List.getElem?_append_right (by simp)]; simp))
    exact World.block_lt_of_cell? w' _ hc0
   ·cases hf
 ·simp only[hs,find]at hf
  split at hf
  ·cases hf; cases hb
  ·split at hf
   ·cases hf; cases hb
   ·cases hf
theorem jk2 {K:Nat→Prop} {A B:World} (h:A.grownBy B none):KpS K A B:=⟨h.size,fun k o _ hk _=>(h.block k (Array.getElem?_eq_some_iff.1 hk).1 (fun e=>by cases e)).trans hk⟩
theorem jp1 {l:Nat} {fn tmps assign body:_} {x:Value} {W:World} {a:Act} {s q ty:Nat} (hs:a.eval (.tmp s)=.func (.yield l) #[] #[]) (hq:a.eval (.tmp q)=x)
  (hy:(Instr.yield l #[x]).run Tryz.prog W=.ok (.round l fn tmps assign body) W) (o:Oper) (ho:o.op=.call { callee:=.value (.tmp s),args:=#[.tmp q],argTypes:=#[ty] }) :
  ((o.semAt Fence.wide.round a.eval).run Tryz.prog W)=.ok (.round l fn tmps assign body) W:=by
 rw[Fence.wide_round,Oper.semAt_none]
 unfold execOp
 simp only[ho,resolve,hs,Deferred.ofValue,Sem.run_bind,Sem.run_pure,Result.andThen_ok,invoke,List.map_toArray,List.map_cons,List.map_nil,hq]
 exact hy
theorem jxp {α:Type} {enc:α→Int} {A:List α} {L:List Int} {st:Int} (hA:A.map enc=needL L st) {k:Nat} (hk:k<L.length):∃h:k<A.length,enc A[k]=L.getD k 0:=by
 have hlen:A.length=(needL L st).length:=by rw[←hA]; simp
 have h1:k<(needL L st).length:=by
  unfold needL
  split
  ·exact hk
  ·simp; omega
 refine⟨by omega,?_⟩
 have h2:(A.map enc)[k]?=(needL L st)[k]?:=by rw[hA]
 rw[List.getElem?_map,List.getElem?_eq_getElem (by omega)]at h2
 have h3:(needL L st)[k]?=L[k]?:=by
  unfold needL
  split
  ·rfl
  ·rw[List.getElem?_append_left hk]
 rw[h3,List.getElem?_eq_getElem hk]at h2
 simp only[Option.map_some,Option.some.injEq]at h2
 rw[h2]
 simp[List.getD,List.getElem?_eq_getElem hk]
set_option maxHeartbeats 2000000 in
theorem jvW (n l:Nat) (K:Nat→Prop) (L:List Int) (v0 v1 v2 v3 v4 v5 v6:Value) (st:Int) (hL:(L.length:Int)<9223372036854775807) {α:Type} (enc:α→Int) (A:List α) (hA:A.map enc=needL L st) (J Jx:List α→World→Prop)
  (hY:∀(k:Nat) (h:k<A.length) W,J (A.take k) W→YieldAt Fence.wide (n-1) Tryz.prog l #[.int .i64 (enc A[k])] W fun e W' =>
   (e=.returned (.bool true)∧J (A.take (k+1)) W'∧KpS K W W')∨(e=.returned (.bool false)∧Jx (A.take (k+1)) W'))
  (hJ:∀A B pre,J pre A→A.grownBy B none→J pre B) (a:Act) (w:World) (hb:BetN K (.func (.yield l) #[] #[]) L [v0,v1,v2,v3,v4,v5,v6] st 0 a w) (hj0:J [] w)
  (R:World→Prop) (hR:∀k W,k≤A.length→Jx (A.take k) W→R W) (Q:Act→World→Prop) (hQ:∀a w,BetN K (.func (.yield l) #[] #[]) L [v0,v1,v2,v3,v4,v5,v6] st L.length a w→J (A.take L.length) w→Q a w) :
  (sub [1,0,1] (bodyOf Tryz.f132)).wpIn Fence.wide n Tryz.prog (Exit.then Q (bodyPost Tryz.prog Tryz.f132 fun e W'=>(∃v,e=.returned v)∧R W')) a w:=by
 refine wpIn_block (wpIn_loop (fun a w=>∃k,k≤L.length∧BetN K (.func (.yield l) #[] #[]) L [v0,v1,v2,v3,v4,v5,v6] st k a w∧J (A.take k) w) (fun a _=>L.length-(intOf (a.tmps.getD 18 undef)).toNat) ⟨0,by omega,hb,hj0⟩ ?_)
 rintro a w ⟨k,hk,⟨ρ,hr,hg0,hg1⟩,hj⟩
 have hmu:(intOf (a.tmps.getD 18 undef)).toNat=k:=by
  rw[(hr.tm 18 _ rfl).2]
  simp[intOf]
 rw[hmu]
 refine wpIn_seq (wpIn_wide.2 (wp_mono (jjo hr (pn1 _ L v0 v1 v2 v3 v4 v5 v6 st k)) ?_))
 rintro e a1 w1 ⟨rfl,hw1,ρ1,hr1,hag1⟩
 have hj1:=hJ _ _ _ hj hw1
 have hc:a1.eval (.tmp 19)=.bool (decide ((k:Int)<L.length)):=(hr1.tm 19 _ rfl).2
 by_cases hlt:k<L.length
 ·refine wpIn_seq (wpIn_cond_true (by rw[hc,decide_eq_true (by omega)]) (wpIn_skip ?_))
  have hg0a:∀ad n cap,ρ1 0=.slice (some ad) n cap→0<n→K ad.block:=fun ad n cap h=>hg0 ad n cap (by rw[←hag1 0 (by decide)]; exact h)
  have hg1a:∀b o,ρ1 1=.pointer (some ⟨b,o,none⟩)→K b:=fun b o h=>hg1 b o (by rw[←hag1 1 (by decide)]; exact h)
  have hr1b:Rel ρ1 (kd fun x=>x<w1.heap.size) 34 2 (stNc (.func (.yield l) #[] #[]) L [v0,v1,v2,v3,v4,v5,v6] st k) a1 w1:=jlJ hr1 rfl hg0a hg1a (jk2 (World.grownBy.refl w1 none))
  refine wpIn_seq (wpIn_block (wpIn_seq (wpIn_wide.2 (wp_mono (jjo hr1b (pn2 _ L v0 v1 v2 v3 v4 v5 v6 st k hlt)) ?_))))
  rintro e a2 w2 ⟨rfl,hw2,ρ2,hr2,hag2⟩
  have hj2:=hJ _ _ _ hj1 hw2
  obtain⟨hkA,henc⟩:=jxp hA hlt
  obtain⟨fn,tmps,assign,body,hy,hRd⟩:=hY k hkA w2 hj2
  rw[henc]at hy
  refine wpIn_seq (wpIn_region_list ?_)
  refine wpListIn_plain rfl fun K2 hK2=>jdo (t:=22) hr2 rfl trivial rfl (by decide) fun a3 hr3=>hK2 _ _ ?_
  refine wpListIn_plain rfl fun K2 hK2=>jdo (t:=23) hr3 rfl trivial rfl (by decide) fun a4 hr4=>hK2 _ _ ?_
  have g22:a4.eval (.tmp 22)=.func (.yield l) #[] #[]:=(hr4.tm 22 _ rfl).2
  have g23:a4.eval (.tmp 23)=.int .i64 (L.getD k 0):=(hr4.tm 23 _ rfl).2
  refine wpListIn_plain rfl fun K2 hK2=>⟨fun _ _=>trivial,?_⟩
  rw[jp1 (ty:=3) g22 g23 hy _ rfl]
  refine⟨(fun h=>by cases h),hRd.mono ?_⟩
  have hg0b:∀ad n cap,ρ2 0=.slice (some ad) n cap→0<n→K ad.block:=fun ad n cap h=>hg0a ad n cap (by rw[←hag2 0 (by decide)]; exact h)
  have hg1b:∀b o,ρ2 1=.pointer (some ⟨b,o,none⟩)→K b:=fun b o h=>hg1a b o (by rw[←hag2 1 (by decide)]; exact h)
  have hr5:∀(b:Bool) (w3:World),KpS K w2 w3→Rel ρ2 (kd fun x=>x<w3.heap.size) 34 2 _ (a4.put (some 24) (.bool b)) w3:=fun b w3 hk3=>jlJ (jge (v:=vb b) hr4 trivial (by decide)) rfl hg0b hg1b hk3
  rintro e w3 (⟨rfl,hj3,hk3⟩|⟨rfl,hj3⟩)
  ·refine hK2 _ _ (wpListIn_plain rfl fun K3 hK3=>jdo (t:=25) (hr5 true w3 hk3) rfl trivial rfl (by decide) fun a5 hr6=>hK3 _ _ (wpListIn_nil ?_))
   have g25:a5.eval (.tmp 25)=.bool false:=(hr6.tm 25 _ rfl).2
   refine wpIn_cond_false g25 (wpIn_skip ?_)
   have hr7:Rel ρ2 (kd fun x=>x<w3.heap.size) 34 2 (stN (.func (.yield l) #[] #[]) L [v0,v1,v2,v3,v4,v5,v6] st k) a5 w3:=juH hr6 (fun t v hv=>by
    simp only[stN,jaE]at hv
    simp only[stNd,stN,jaE]
    repeat' split at hv
    all_goals first
     |(cases hv; done)
     |(subst_vars; simp only[hv]; rfl)
     |(subst_vars; exact hv)) rfl rfl
   refine wpIn_wide.2 (wp_mono (jjo hr7 (pn3 _ L v0 v1 v2 v3 v4 v5 v6 st k (by omega))) ?_)
   rintro e a7 w7 ⟨rfl,hw7,ρ7,hr8,hag7⟩
   refine⟨⟨k+1,by omega,⟨ρ7,jlJ hr8 rfl (fun ad n cap h=>hg0b ad n cap (by rw[←hag7 0 (by decide)]; exact h)) (fun b o h=>hg1b b o (by rw[←hag7 1 (by decide)]; exact h)) (jk2 (World.grownBy.refl w7 none)),fun ad n cap h=>hg0b ad n cap (by rw[←hag7 0 (by decide)]; exact h),fun b o h=>hg1b b o (by rw[←hag7 1 (by decide)]; exact h)⟩,hJ _ _ _ hj3 hw7⟩,?_⟩
   rw[(hr8.tm 18 _ rfl).2]
   simp[intOf]
   omega
  ·have hr4b:=jge (v:=vb false) (t:=24) hr4 trivial (by decide)
   have g24:(a4.put (some 24) (.bool false)).eval (.tmp 24)=.bool false:=(hr4b.tm 24 _ rfl).2
   refine hK2 _ _ (wpListIn_plain rfl fun K3 hK3=>jsn (v:=.bool true) ?_ (hK3 _ _ (wpListIn_nil ?_)))
   ·unfold execOp
    dsimp only
    rw[g24]
    rfl
   have hr5:=jge (v:=vb true) (t:=25) hr4b trivial (by decide)
   have g25:((a4.put (some 24) (.bool false)).put (some 25) (.bool true)).eval (.tmp 25)=.bool true:=(hr5.tm 25 _ rfl).2
   refine wpIn_cond_true g25 (wpIn_ret ?_)
   exact⟨hr5.defers,.tuple #[],results_none rfl _ _ _,⟨_,rfl⟩,hR (k+1) _ (by omega) hj3⟩
 ·have hk5:k=L.length:=by omega
  subst hk5
  refine wpIn_seq (wpIn_cond_false (by rw[hc,decide_eq_false (by omega)]) (wpIn_exit ?_))
  refine hQ _ _ ⟨ρ1,juH (jlJ hr1 rfl (fun ad n cap h=>hg0 ad n cap (by rw[←hag1 0 (by decide)]; exact h)) (fun b o h=>hg1 b o (by rw[←hag1 1 (by decide)]; exact h)) (jk2 (World.grownBy.refl w1 none))) (fun t v hv=>?_) rfl rfl,fun ad n cap h=>hg0 ad n cap (by rw[←hag1 0 (by decide)]; exact h),fun b o h=>hg1 b o (by rw[←hag1 1 (by decide)]; exact h)⟩ hj1
  have hne:t≠19:=fun e=>by subst e; simp[stN,jaE]at hv
  simp only[stNc,jaE]
  rw[if_neg (Ne.symm hne)]
  exact hv
abbrev shU:List NK:=[.s,.i .i64,.ints .i64,.ints .i64,.ints .i64,.i .i64,.recs 5,.i .i64]
def stI (y:Value) (nm:ByteArray) (l:List (List NC)) (i:Int) (co:Value):St:=⟨[(0,.w (.c (.d (.v y)))),(1,.w (.c (.p 1 0 1 0))),(2,.w (.c (.p 2 0 1 0)))],[(0,.box 4 [.d (.b false)]),(1,.ebox [.p 3 0 1 0]),(2,.ebox [.d (.i .i64 i)]),(3,.ebox [.d (.s nm),.o 4,.d (.v co)]),(4,.xext (.st shU l))],5⟩
def hpJ (l:List (List NC)) (i:Nat):Hp:=[(0,.box 4 [.d (.b false)]),(1,.box 118 [.d (.s (nS l i 0)),.d (.i .i64 (nI l i 1)),.o 2,.o 3,.o 4,.d (.i .i64 (nI l i 5)),.o 5,.d (.i .i64 (nI l i 7))]),(2,.ext (.ints .i64 (nL l i 2))),(3,.ext (.ints .i64 (nL l i 3))),(4,.ext (.ints .i64 (nL l i 4))),(5,.ext (.recs 5 (nR l i 6)))]
def stJ (y:Value) (l:List (List NC)) (i:Nat):St:=⟨[(4,.w (.c (.p 1 0 1 0))),(0,.w (.c (.d (.v y))))],hpJ l i,6⟩
def stJ2 (y:Value) (l:List (List NC)) (i:Nat):St:=⟨[(18,vi .i64 0),(17,vi .i64 (nL l i 2).length),(16,.w (.c (.o 2))),(4,.w (.c (.p 1 0 1 0))),(0,.w (.c (.d (.v y))))],hpJ l i,6⟩
theorem pnJ (y:Value) (l:List (List NC)) (i:Nat):sx Tryz.prog (fun _=>none) 34 1 0 (fun _ _ _=>none) (fun _ _ _=>False) (sub [1,0,0] (bodyOf Tryz.f132)) 0 [] (stJ y l i) (fun e st'=>match e with | .normal=>Le 1 st' (stJ2 y l i)|_=>False):=by
 refine Eq.mp (by kernel_rfl:(Ob ((0:Int)=0)∧Ob (((nL l i 2).length:Int)=(nL l i 2).length)∧Ob ((0:Nat)=0)∧Ob (y=y)∧Ob (false=false)∧Ob (nS l i 0=nS l i 0)∧Ob (nI l i 1=nI l i 1)∧Ob (nI l i 5=nI l i 5)∧Ob (nI l i 7=nI l i 7)∧Ob (nL l i 2=nL l i 2)∧Ob (nL l i 3=nL l i 3)∧Ob (nL l i 4=nL l i 4)∧Ob (nR l i 6=nR l i 6)∧True)=_) ?_
 exact⟨⟨rfl⟩,⟨rfl⟩,⟨rfl⟩,⟨rfl⟩,⟨rfl⟩,⟨rfl⟩,⟨rfl⟩,⟨rfl⟩,⟨rfl⟩,⟨rfl⟩,⟨rfl⟩,⟨rfl⟩,⟨rfl⟩,trivial⟩
theorem jdf {w:World} {k j t:Nat} {vs:Array Value} {f:_} (h:w.heap[k]?=some (.cells vs t f)) {v:Value} (hv:vs[j]?=some v):w.cell? ⟨k,j,none⟩=some v:=by
 unfold World.cell?
 dsimp only
 rw[h]
 simp[hv]
theorem jvX {α:Type} {enc:α→Int} {A:List α} {L:List Int} {st:Int} (hA:A.map enc=needL L st) (hst:st≠-1):∃h:L.length<A.length,enc A[L.length]=st∧A.length=L.length+1:=by
 have e:needL L st=L++[st]:=if_neg hst
 have hlen:A.length=L.length+1:=by
  have:(A.map enc).length=(L++[st]).length:=by rw[hA,e]
  simpa using this
 refine⟨by omega,?_,hlen⟩
 have h2:(A.map enc)[L.length]?=(L++[st])[L.length]?:=by rw[hA,e]
 rw[List.getElem?_map,List.getElem?_eq_getElem (by omega)]at h2
 simpa using h2
set_option maxHeartbeats 4000000 in
theorem jxq (n l r:Nat) (nm:ByteArray) (gU:List (List NC)) (i:Int) (co:Value) (ρ0:Env) (W:World)
  (hh:HRel ρ0 (kd fun k=>k<W.heap.size∧k≠r) (stI (.func (.yield l) #[] #[]) nm gU i co).hp 5 W) (hr0:ρ0 0=.pointer (some ⟨r,0,none⟩))
  (hi:0≤i∧i<gU.length) (hL:((nL gU i.toNat 2).length:Int)<9223372036854775807) {α:Type} (enc:α→Int) (A:List α) (hA:A.map enc=needL (nL gU i.toNat 2) (nI gU i.toNat 7)) (J Jx:List α→World→Prop)
  (hY:∀(k:Nat) (h:k<A.length) W,J (A.take k) W→YieldAt Fence.wide (n-1) Tryz.prog l #[.int .i64 (enc A[k])] W fun e W' =>
   (e=.returned (.bool true)∧J (A.take (k+1)) W'∧KpS (fun k=>k≠r) W W')∨(e=.returned (.bool false)∧Jx (A.take (k+1)) W'))
  (hJ:AbidesFrom W.heap.size J) (h0:J [] W) :
  CallsIn Fence.wide n Tryz.prog 132 #[.func (.yield l) #[] #[],(C.p 1 0 1 0).val ρ0,(C.p 2 0 1 0).val ρ0] W fun e W'=>(∃v,e=.returned v) ∧
   ((∃ys,ys=A∧J ys W')∨(∃pre,(∃k,k≤A.length∧pre=A.take k)∧Jx pre W')):=by
 refine callsIn_of_wp Tryz.func132 rfl trivial ?_ rfl
 refine wpIn_seq (wpIn_wide.2 ?_)
 have hsp:jac Tryz.prog (fun _=>none):=fun _ _ _ h=>by cases h
 obtain⟨y,hy⟩:∃y:Value,y=.func (.yield l) #[] #[]:=⟨_,rfl⟩
 rw[←hy]at hh ⊢
 refine jck (N:=34) (n0:=1) (B:=kd fun k=>k<W.heap.size∧k≠r) (ρ0:=ρ0) (w0:=W) (st:=stI y nm gU i co)
  (k:=fun st=>Le 1 st (stJ y gU i.toNat)) (by kernel_rfl) hsp (ds:=[]) _ _ ρ0 _ _ _ ?vc ?rel (jae.refl _ _) (Bel.refl _ _) ?next
 case vc =>
  refine Eq.mp (by kernel_rfl:(Ob True∧Ob True∧Ob True∧Ob ((0:Int)≤i∧i<((XC.st shU gU).n:Int))∧Ob (i.toNat<(XC.st shU gU).n)∧Ob ((0:Nat)=0)∧Ob (y=y)∧Ob (false=false)∧Ob (nS gU i.toNat 0=nS gU i.toNat 0)∧Ob (nI gU i.toNat 1=nI gU i.toNat 1)∧Ob (nI gU i.toNat 5=nI gU i.toNat 5)∧Ob (nI gU i.toNat 7=nI gU i.toNat 7)∧Ob (nL gU i.toNat 2=nL gU i.toNat 2)∧Ob (nL gU i.toNat 3=nL gU i.toNat 3)∧Ob (nL gU i.toNat 4=nL gU i.toNat 4)∧Ob (nR gU i.toNat 6=nR gU i.toNat 6)∧True)=_) ?_
  exact⟨⟨trivial⟩,⟨trivial⟩,⟨trivial⟩,⟨hi⟩,⟨by show i.toNat<gU.length; omega⟩,⟨rfl⟩,⟨rfl⟩,⟨rfl⟩,⟨rfl⟩,⟨rfl⟩,⟨rfl⟩,⟨rfl⟩,⟨rfl⟩,⟨rfl⟩,⟨rfl⟩,⟨rfl⟩,trivial⟩
 case rel =>
  refine jfp (N:=34) (n0:=1) (args:=[.w (.c (.d (.v y))),.w (.c (.p 1 0 1 0)),.w (.c (.p 2 0 1 0))]) (Nat.le_of_ble_eq_true rfl) (fun x hx=>?_) (by decide) ρ0 W hh (fun k hk=>(jbA.1 hk).1)
  simp only[List.mem_cons,List.not_mem_nil,or_false]at hx
  rcases hx with rfl|rfl|rfl
  ·trivial
  ·exact(by decide:1<5)
  ·exact(by decide:2<5)
 case next =>
  rintro ρ1 st1 a1 w1 hr1 hag1 hbl1 hle
  obtain⟨ρ2,hr2,hag2⟩:=hle.rel hr1
  refine wpIn_seq (wpIn_seq (wpIn_wide.2 (wp_mono (jbE hsp (fun _ _ _ _ _ _ _ _ _ h=>h.elim) (sub [1,0,0] (bodyOf Tryz.f132)) 0 [] (stJ y gU i.toNat) _ ρ2 a1 w1 (pnJ y gU i.toNat) hr2 (jae.refl _ _) (Bel.refl _ _)) ?_)))
  rintro e a2 w2 ⟨ex,ρ3,st3,rfl,hk3,hr3',hag3,hbl3⟩
  cases ex with
  |exit j=>exact hk3.elim
  |ret=>exact hk3.elim
  |normal =>
   obtain⟨ρ4,hr4,hag4⟩:=hk3.rel hr3'
   have hρ0:ρ4 0=.pointer (some ⟨r,0,none⟩):=(hag4 0 (by decide)).trans ((hag3 0 (by decide)).trans ((hag2 0 (by decide)).trans ((hag1 0 (by decide)).trans hr0)))
   have hbW:Bel (kd fun k=>k<W.heap.size∧k≠r).kp W w2:=hbl1.trans hbl3
   obtain⟨B',gB,hh4⟩:=hr4.heap
   have o0:=(hh4.ok 0 _ rfl).2.2
   have o1:=(hh4.ok 1 _ rfl).2.2
   have o2:=(hh4.ok 2 _ rfl).2.2
   obtain⟨r',hr',hB0,hheap0⟩:=o0
   have err:r'=r:=by
    rw[hρ0]at hr'
    cases hr'
    rfl
   subst err
   obtain⟨k1,hk1,hB1,hheap1⟩:=o1
   obtain⟨q0,hq0,hBq,hheapW⟩:=(hh.ok 0 _ rfl).2.2
   have eq0:q0=r':=by
    rw[hr0]at hq0
    cases hq0
    rfl
   subst eq0
   have hgr:W.grownBy w2 none:=by
    refine⟨hbW.os,hbW.tape,hbW.output,hbW.size,fun k hk _=>?_⟩
    by_cases e:k=q0
    ·subst e
     rw[hheap0,hheapW]
     rfl
    ·exact hbW.block k ⟨hk,e⟩
   have hj2:J [] w2:=hJ [] W w2 none h0 hgr (fun r e=>by cases e)
   have hne1:k1≠q0:=fun e=>hh4.apart 1 _ 0 _ k1 rfl rfl (by decide) (by rw[hk1]; rfl) (by rw[hρ0,e]; rfl)
   have hb:BetN (fun k=>k≠q0) y (nL gU i.toNat 2) [.string (nS gU i.toNat 0),.int .i64 (nI gU i.toNat 1),ρ4 2,ρ4 3,ρ4 4,.int .i64 (nI gU i.toNat 5),ρ4 5] (nI gU i.toNat 7) 0 a2 w2:=by
    refine⟨fun h=>if h=0 then ρ4 2 else ρ4 1,⟨fun t v hv=>?_,hr4.size,hr4.defers,⟨kd fun x=>x<w2.heap.size,Grow.refl _ _ _ _,⟨fun x o hf=>?_,fun x o x' o' b hf hf' hne hb=>?_,jf3⟩⟩,fun k hk=>jbA.1 hk,Nat.le_refl _⟩,fun ad m cap hv hm=>?_,fun b o hv=>?_⟩
    ·simp only[stN,jaE]at hv
     split at hv
     ·rename_i e; subst e; cases hv; exact⟨trivial,(hr4.tm 18 _ rfl).2⟩
     ·split at hv
      ·rename_i e; subst e; cases hv; exact⟨trivial,(hr4.tm 17 _ rfl).2⟩
      ·split at hv
       ·rename_i e; subst e; cases hv; exact⟨(by decide:0<2),(hr4.tm 16 _ rfl).2⟩
       ·split at hv
        ·rename_i e; subst e; cases hv; exact⟨(by decide:1<2),(hr4.tm 4 _ rfl).2⟩
        ·split at hv
         ·rename_i e; subst e; cases hv; exact⟨trivial,(hr4.tm 0 _ rfl).2⟩
         ·cases hv
    ·simp only[stN,find]at hf
     split at hf
     ·rename_i e; subst e; cases hf
      exact⟨(by decide:0<2),trivial,o2.1,o2.1.lt (Nat.lt_succ_self 0)⟩
     ·split at hf
      ·rename_i e; subst e; cases hf
       refine⟨(by decide:1<2),?_,k1,0,by simpa using hk1,(Array.getElem?_eq_some_iff.1 hheap1).1,fun j c hj=>?_⟩
       ·intro c hc
        simp only[List.map_cons,List.map_nil,List.cons_append,List.nil_append,List.mem_cons,List.not_mem_nil,or_false]at hc
        rcases hc with rfl|rfl|rfl|rfl|rfl|rfl|rfl|rfl<;>trivial
       ·rw[Nat.zero_add]
        refine jdf hheap1 ?_
        match j,hj with
        |0,hj=>cases hj; rfl
        |1,hj=>cases hj; rfl
        |2,hj=>cases hj; rfl
        |3,hj=>cases hj; rfl
        |4,hj=>cases hj; rfl
        |5,hj=>cases hj; rfl
        |6,hj=>cases hj; rfl
        |7,hj=>cases hj; rfl
        |j+8,hj=>cases hj
      ·cases hf
    ·simp only[stN,find]at hf
     split at hf
     ·cases hf; cases hb
     ·split at hf
      ·cases hf; cases hb
      ·cases hf
    ·intro e
     have h2:=o2.2 ad m cap (by simpa using hv) hm
     exact hB0 (.inl (e ▸ h2))
    ·intro e
     have hv':ρ4 1=.pointer (some ⟨b,o,none⟩):=by simpa using hv
     rw[hk1]at hv'
     cases hv'
     exact hne1 e
   subst hy
   refine jvW n l (fun k=>k≠q0) _ _ _ _ _ _ _ _ _ hL enc A hA J Jx hY (fun A B pre hj hg=>hJ pre A B none hj hg (fun r e=>by cases e)) a2 w2 hb hj2
    (fun W'=>(∃ys,ys=A∧J ys W')∨(∃pre,(∃k,k≤A.length∧pre=A.take k)∧Jx pre W')) (fun k W hk hx=>.inr ⟨_,⟨k,hk,rfl⟩,hx⟩) _ ?_
   rintro a5 w5 ⟨ρ5,hr5,hg0,hg1⟩ hj5
   refine wpIn_seq (wpIn_wide.2 (wp_mono (jjo hr5 (pn4 _ _ _ _ _ _ _ _ _ _ _)) ?_))
   rintro e a6 w6 ⟨rfl,hw6,ρ6,hr6,hag6⟩
   have hj6:=hJ _ _ _ none hj5 hw6 (fun r e=>by cases e)
   have hc:a6.eval (.tmp 29)=.bool (nI gU i.toNat 7 != -1):=(hr6.tm 29 _ rfl).2
   by_cases hst:nI gU i.toNat 7=-1
   ·refine wpIn_cond_false (by rw[hc,hst]; rfl) (wpIn_skip ?_)
    refine⟨hr6.defers,.tuple #[],results_none rfl _ _ _,⟨_,rfl⟩,.inl ⟨_,rfl,?_⟩⟩
    have hlen:A.length=(nL gU i.toNat 2).length:=by
     have:(A.map enc).length=(needL (nL gU i.toNat 2) (nI gU i.toNat 7)).length:=by rw[hA]
     rw[needL,if_pos hst]at this
     simpa using this
    rw[←hlen,List.take_length]at hj6
    exact hj6
   ·refine wpIn_cond_true (by rw[hc]; simp[hst]) (wpIn_region_list ?_)
    obtain⟨hkA,henc,hlen⟩:=jvX hA hst
    obtain⟨fn,tmps,assign,body,hy,hRd⟩:=hY _ hkA w6 hj6
    rw[henc]at hy
    refine wpListIn_plain rfl fun K2 hK2=>jdo (t:=30) hr6 rfl trivial rfl (by decide) fun a7 hr7=>hK2 _ _ ?_
    refine wpListIn_plain rfl fun K2 hK2=>jdo (t:=31) hr7 rfl trivial rfl (by decide) fun a8 hr8=>hK2 _ _ ?_
    refine wpListIn_plain rfl fun K2 hK2=>jdo (t:=32) hr8 rfl trivial rfl (by decide) fun a9 hr9=>hK2 _ _ ?_
    have g30:a9.eval (.tmp 30)=.func (.yield l) #[] #[]:=(hr9.tm 30 _ rfl).2
    have g32:a9.eval (.tmp 32)=.int .i64 (nI gU i.toNat 7):=(hr9.tm 32 _ rfl).2
    refine wpListIn_plain rfl fun K2 hK2=>⟨fun _ _=>trivial,?_⟩
    rw[jp1 (ty:=3) g30 g32 hy _ rfl]
    refine⟨(fun h=>by cases h),hRd.mono ?_⟩
    rintro e w7 (⟨rfl,hj7,hk7⟩|⟨rfl,hj7⟩)
    ·refine hK2 _ _ (wpListIn_nil ?_)
     refine⟨(jge (t:=33) (v:=vb true) hr9 trivial (by decide)).defers,.tuple #[],results_none rfl _ _ _,⟨_,rfl⟩,.inl ⟨_,rfl,?_⟩⟩
     rw[←hlen,List.take_length]at hj7
     exact hj7
    ·refine hK2 _ _ (wpListIn_nil ?_)
     exact⟨(jge (t:=33) (v:=vb false) hr9 trivial (by decide)).defers,.tuple #[],results_none rfl _ _ _,⟨_,rfl⟩,.inr ⟨_,⟨_,by omega,rfl⟩,hj7⟩⟩
end Go.Sx09
end

section
namespace Go.Sx09
open Go Go.Proofs Go.RowKit Go.Shelf Go.Sx
attribute [local go_sem] Oper.semAt_some
set_option maxHeartbeats 2000000 in
theorem jyS (n:Nat) (p:Option Addr) (i:Int) (w:World) :
  CallsIn Fence.wide n Tryz.prog 86 #[.pointer p,.int .i64 i] w fun e w'=>e=.returned (.func (.func 132) #[] #[.pointer (some ⟨w.heap.size,0,none⟩),.pointer (some ⟨w.heap.size+1,0,none⟩)])∧w'=(w.alloc (.cells #[.pointer p] 126)).alloc (.cells #[.int .i64 i] 3):=by
 refine callsIn_of_wp Tryz.func86 rfl trivial ?_ rfl
 simp only[Tryz.ntmps86,List.size_toArray,List.length_cons,List.length_nil,Nat.reduceAdd,Nat.reduceSub,Array.replicate_succ,Array.replicate_zero,List.push_toArray,List.append_toArray,List.nil_append,List.cons_append]
 gi_wp2
 go_ret
 exact⟨rfl,rfl⟩
theorem jyT (w:World) (c0 c1 c2 c3:Array Value) (t0 t1 t2 t3:TypeId):∃w2,w2.heap.size=w.heap.size+4∧Below w.heap.size w w2∧w2.heap[w.heap.size]?=some (.cells c0 t0 (0,0))∧w2.heap[w.heap.size+1]?=some (.cells c1 t1 (0,0)) ∧
  w2.heap[w.heap.size+1+1]?=some (.cells c2 t2 (0,0))∧w2.heap[w.heap.size+1+1+1]?=some (.cells c3 t3 (0,0))∧(((w.alloc (.cells c0 t0)).alloc (.cells c1 t1)).alloc (.cells c2 t2)).alloc (.cells c3 t3)=w2:=by
 have new:∀(w:World) (c:Array Value) (t:TypeId) (m:Nat),w.heap.size=m→(w.alloc (.cells c t)).heap[m]?=some (.cells c t (0,0)):=fun w c t m e=>by subst e; exact World.alloc_heap_new w (.cells c t)
 have old:∀(w:World) (o o':Obj) (k:Nat),w.heap[k]?=some o→(w.alloc o').heap[k]?=some o:=fun w o o' k h=>(Below.heap_alloc w o' k (Array.getElem?_eq_some_iff.1 h).1).trans h
 refine⟨_,by simp,(((Below.refl _ w).alloc (Nat.le_refl _) _).alloc (by simp) _).alloc (by simp; omega) _ |>.alloc (by simp; omega) _,?_,?_,?_,?_,rfl⟩
 ·exact old _ _ _ _ (old _ _ _ _ (old _ _ _ _ (new w c0 t0 _ rfl)))
 ·exact old _ _ _ _ (old _ _ _ _ (new _ c1 t1 _ (by simp)))
 ·exact old _ _ _ _ (new _ c2 t2 _ (by simp))
 ·exact new _ c3 t3 _ (by simp)
def readyB (pl:List Bool) (L:List Int):Bool:=L.all fun x=>pl.getD x.toNat false
set_option maxHeartbeats 4000000 in
theorem ready_in (nm:ByteArray) (gU:List (List NC)) (od:List Int) (i:Int) (pl:List Bool) (ρ:Env) (w:World)
  (hh:HRel ρ (kd fun k=>k<w.heap.size) [(3,.ext (.bools pl)),(2,.ebox [.d (.s nm),.o 0,.o 1]),(1,.ext (.ints .i64 od)),(0,.xext (.st shU gU))] 4 w)
  (hi:0≤i∧i<gU.length) (hL:((nL gU i.toNat 2).length:Int)<9223372036854775807) (hx:∀x∈needL (nL gU i.toNat 2) (nI gU i.toNat 7),0≤x∧x<pl.length) :
  CallsIn Fence.wide 9 Tryz.prog 85 #[(C.p 2 0 1 0).val ρ,.int .i64 i,ρ 3] w fun e w'=>e=.returned (.bool (readyB pl (needL (nL gU i.toNat 2) (nI gU i.toNat 7))))∧Below w.heap.size w w':=by
 have h1:1≤9:=by omega
 have hro:Fence.wide.round=none:=rfl
 obtain⟨gb,go,hgp,hgB,hgc⟩:=(hh.ok 2 _ rfl).2.2
 have hrow:=(hh.ok 3 _ rfl).2.2
 obtain⟨⟨pa,pc,hpv,hpc,hpcells⟩,hpo⟩:=hrow
 have hP:(C.p 2 0 1 0).val ρ=.pointer (some ⟨gb,go,none⟩):=by
  simp only[C.val,hgp,base]
  rfl
 rw[hP,hpv]
 refine callsIn_of_wp_marks Tryz.func85 rfl trivial ?_ hro
 simp only[Tryz.ntmps85,List.size_toArray,List.length_cons,List.length_nil,Nat.reduceAdd,Nat.reduceSub,Array.replicate_succ,Array.replicate_zero,List.push_toArray,List.append_toArray,List.nil_append,List.cons_append]
 gi_wp2_with (refine⟨trivial,?_⟩; gi_at_call 86; refine(jyS _ _ i _).mono ?_; rintro e w' ⟨rfl,rfl⟩)
 obtain⟨w2,hs2,hB0,k0,k1,k2,k3,hw2⟩:=jyT w #[.slice pa (Cont.bools pl).n pc] #[.bool false] #[.pointer (some ⟨gb,go,none⟩)] #[.int .i64 i] 133 4 126 3
 rw[hw2]
 have hne:∀(A:List {x:Int // 0≤x∧x<pl.length}),A.map (fun x=>x.1)=needL (nL gU i.toNat 2) (nI gU i.toNat 7)→readyB pl (needL (nL gU i.toNat 2) (nI gU i.toNat 7))=A.all fun x=>pl.getD x.1.toNat false:=fun A hA=>by
  rw[←hA]
  simp[readyB]
 obtain⟨A,hA⟩:∃A:List {x:Int // 0≤x∧x<pl.length},A.map (fun x=>x.1)=needL (nL gU i.toNat 2) (nI gU i.toNat 7) :=
  ⟨(needL (nL gU i.toNat 2) (nI gU i.toNat 7)).attachWith _ hx,by simp⟩
 have hready:=hne A hA
 refine wpIn_rangeFunc_ownF hro h1 (gf:=132) (lb:=#[.pointer (some ⟨w.heap.size+1+1,0,none⟩),.pointer (some ⟨w.heap.size+1+1+1,0,none⟩)]) rfl trivial (enters_of Tryz.func132 (by kernel_rfl) rfl)
  (α:={x:Int // 0≤x∧x<pl.length}) (encs:=fun x=>#[.int .i64 x.1]) (Kp:=KpS fun k=>k≠w.heap.size+1) (S:=fun ys=>ys=A) (Sp:=fun pre=>∃k,k≤A.length∧pre=A.take k) (N:=A.length) (w0:=w2)
  ?seq kps_t kps_b (Below.refl _ _) (fun _=>rfl)
  (fun pre W=>((∀y∈pre,pl.getD y.1.toNat false=true)∧W.cell? ⟨w.heap.size,0,none⟩=some (.slice pa (Cont.bools pl).n pc)∧W.cell? ⟨w.heap.size+1,0,none⟩=some (.bool false)∧W.frozen? ⟨w.heap.size+1,0,none⟩=false)∧Below w.heap.size w W)
  (fun c pre W=>(c=.ret∧(∃y∈pre,pl.getD y.1.toNat false=false)∧W.cell? ⟨w.heap.size+1,0,none⟩=some (.bool false))∧Below w.heap.size w W)
  (OwnFrom.and (Own.from (fun s A B row hs hg hr=>⟨hs.1,cell_kept hs.2.1 hg hr,cell_kept hs.2.2.1 hg hr,(frozen_kept hs.2.2.1 hg hr).trans hs.2.2.2⟩) _) (ownFrom_below (Nat.le_refl _) (by omega)))
  (fun c=>OwnFrom.and (Own.from (fun s A B row hs hg hr=>⟨hs.1,hs.2.1,cell_kept hs.2.2 hg hr⟩) _) (ownFrom_below (Nat.le_refl _) (by omega)))
  ⟨⟨by simp,jdf k0 rfl,jdf k1 rfl,?frozen⟩,hB0⟩
  (fun x=>{ tmps:=#[Value.pointer (some { block:=gb,off:=go }),Value.int IntKind.i64 i,Value.slice pa (Cont.bools pl).n pc,undef,undef,Value.pointer (some { block:=w.heap.size,off:=0 }),Value.pointer (some { block:=w.heap.size+1,off:=0 }),.int .i64 x.1,Value.pointer (some { block:=gb,off:=go }),Value.int IntKind.i64 i,Value.func (Fn.func 132) #[] #[Value.pointer (some { block:=w.heap.size+1+1,off:=0 }),Value.pointer (some { block:=w.heap.size+1+1+1,off:=0 })],.int .i64 x.1,undef,undef,undef,undef,undef],defers:=[] }) ?assign ?body ?done ?stop
 case frozen =>
  unfold World.frozen?
  dsimp only
  rw[k1]
  rfl
 case seq =>
  intro l J Jx W hW hJ hJx hY h0
  have hBW:Below w.heap.size w W:=hB0.trans (hW.mono (by omega))
  have hsz:=hW.size
  have at2:∀k o,k<w2.heap.size→w2.heap[k]?=some o→W.heap[k]?=some o:=fun k o hk ho=>(hW.block k hk).trans ho
  have hmono:∀k,(kd fun k=>k<w.heap.size).kp k→(kd fun k=>k<W.heap.size∧k≠w.heap.size+1).kp k:=fun k hk=>by
   have hk:k<w.heap.size:=hk
   exact⟨by omega,by omega⟩
  have hbw:Bel (kd fun k=>k<w.heap.size).kp w W:=⟨hBW.os,hBW.tape,hBW.output,hBW.size,hBW.block⟩
  let ρ':Env:=fun h=>match h with
   |0=>.pointer (some ⟨w.heap.size+1,0,none⟩)
   |1=>.pointer (some ⟨w.heap.size+1+1,0,none⟩)
   |2=>.pointer (some ⟨w.heap.size+1+1+1,0,none⟩)
   |3=>ρ 2
   |_=>ρ 0
  have hx0:=(hh.ok 0 _ rfl).2.2
  have hrel:HRel ρ' (kd fun k=>k<W.heap.size∧k≠w.heap.size+1) (stI (.func (.yield l) #[] #[]) nm gU i (ρ 1)).hp 5 W:=by
   refine⟨fun x o hf=>?_,fun x o x' o' b hf hf' hne hb=>?_,jf3⟩
   ·simp only[stI,find]at hf
    split at hf
    ·rename_i e; subst e; cases hf
     exact⟨by decide,(fun c hc=>by simp at hc; subst hc; trivial),w.heap.size+1,rfl,fun h=>(jbA.1 h).2 rfl,at2 _ _ (by omega) k1⟩
    ·split at hf
     ·rename_i e; subst e; cases hf
      refine⟨by decide,(fun c hc=>by simp at hc; subst hc; exact(by decide:3<5)),w.heap.size+1+1,0,rfl,⟨by omega,by omega⟩,fun j c hj=>?_⟩
      refine(jdf (at2 _ _ (by omega) k2) (j:=0+j) (v:=c.val ρ') ?_)
      match j,hj with
      |0,hj=>cases hj; exact congrArg some hP.symm
      |j+1,hj=>cases hj
     ·split at hf
      ·rename_i e; subst e; cases hf
       refine⟨by decide,(fun c hc=>by simp at hc; subst hc; trivial),w.heap.size+1+1+1,0,rfl,⟨by omega,by omega⟩,fun j c hj=>?_⟩
       refine(jdf (at2 _ _ (by omega) k3) (j:=0+j) (v:=c.val ρ') ?_)
       match j,hj with
       |0,hj=>cases hj; rfl
       |j+1,hj=>cases hj
      ·split at hf
       ·rename_i e; subst e; cases hf
        refine⟨by decide,(fun c hc=>by simp at hc; rcases hc with rfl|rfl|rfl<;>first|exact True.intro|exact(by decide:4<5)),gb,go,hgp,hmono _ hgB,fun j c hj=>?_⟩
        refine(hbw.cell (p:=⟨gb,go+j,none⟩) hgB).trans ?_
        match j,hj with
        |0,hj=>cases hj; exact hgc 0 _ rfl
        |1,hj=>cases hj; exact hgc 1 _ rfl
        |2,hj=>cases hj; exact hgc 2 _ rfl
        |j+3,hj=>cases hj
       ·split at hf
        ·rename_i e; subst e; cases hf
         exact⟨by decide,trivial,(IsX.bel hx0 hbw).mono hmono⟩
        ·cases hf
   ·simp only[stI,find]at hf hf'
    have hz:∀y oy,find (stI (.func (.yield l) #[] #[]) nm gU i (ρ 1)).hp y=some oy→y≠0→oy.blk (ρ' y)=none:=fun y oy hy hy0=>by
     simp only[stI,find]at hy
     rw[if_neg (Ne.symm hy0)]at hy
     repeat' split at hy
     all_goals (cases hy; try rfl)
    by_cases e:x=0
    ·rw[hz x' o' hf' (by omega)]
     intro h; cases h
    ·rw[hz x o hf e]at hb
     cases hb
  refine(jxq _ l (w.heap.size+1) nm gU i (ρ 1) ρ' W hrel rfl hi hL (fun x=>x.1) A hA J Jx (fun k hk W1 hj=>?_) hJ h0)
  have e1:A.take (k+1)=A.take k++[A[k]]:=by rw[List.take_succ_eq_append_getElem hk]
  rw[e1]
  exact hY (A.take k) A[k] W1 hj (by rw[List.length_take]; omega)
 case assign =>
  intro l x W K hK
  gi_wp2
  exact hK
 case body =>
  rintro l pre x W ⟨⟨hp,hv5,hcr,hfr⟩,hB⟩ _
  have hlt:w.heap.size+1<W.heap.size:=World.block_lt_of_cell? W ⟨w.heap.size+1,0,none⟩ hcr
  have hx1:=x.2.1
  have hx2:=x.2.2
  obtain⟨b,off,hab,hcells⟩:=hpcells (by show 0<pl.length; omega)
  subst hab
  have hcell:W.cell? ⟨b,off+x.1.toNat,none⟩=some (.bool (pl.getD x.1.toNat false)):=by
   have hc:=hcells x.1.toNat (.b (pl.getD x.1.toNat false)) (by
    have:=(Cont.bools pl).flat_get (i:=x.1.toNat) (j:=0) (by show x.1.toNat<pl.length; omega) Nat.one_pos
    simpa [Cont.e,Cont.cell]using this)
   have hbl:b<w.heap.size:=World.block_lt_of_cell? w ⟨b,off+x.1.toNat,none⟩ hc
   exact(hB.cell (p:=⟨b,off+x.1.toNat,none⟩) hbl).trans hc
  have hx3:x.1<((Cont.bools pl).n:Int):=hx2
  clear hcells hready hA hne hpcells hpc hpo hgc hgB hgp hP hx hL hi hh hpv k0 k1 k2 k3 hs2 hB0 hw2
  have hgd:pl.getD x.1.toNat false=pl[x.1.toNat]'(by omega):=by simp[List.getD,List.getElem?_eq_getElem (show x.1.toNat<pl.length by omega)]
  gi_wp2
  ·rename_i hxx
   exact⟨KeepsOthers.setCell _ _ _,⟨rfl,⟨x,List.mem_append.2 (.inr (by simp)),by rw[hgd]; simpa using hxx⟩,World.cell?_setCell_same' _ _ _ (by rw[hcr]; rfl)⟩,hB.setCell (p:=⟨w.heap.size+1,0,none⟩) (by simp) _⟩
  ·rename_i hxx
   exact⟨KeepsOthers.refl _,jxo (Below.refl _ _),⟨fun y hy=>(List.mem_append.1 hy).elim (hp y) (fun e=>by simp at e; subst e; rw[hgd]; simpa using hxx),hv5,hcr,hfr⟩,hB⟩
 case done =>
  rintro D ys W hD rfl ⟨⟨hne,hv5,hcr,hfr⟩,hB⟩ hK
  clear hpcells hpc hpo hgc hgB hgp hP hx hL hi hh hpv k0 k1 k2 k3 hB0 hw2
  gi_wp2
  have hK':=(KeepsOthers.setCell W ⟨w.heap.size+1,0,none⟩ (.bool true)).same D _ hK rfl
  refine⟨by simp,.inl ⟨_,_,rfl,run_takeDeferred hK',?_⟩⟩
  have hc5:=cell_kept (World.cell?_setCell_same' W ⟨w.heap.size+1,0,none⟩ (.bool true) (by rw[hcr]; rfl)) (grownBy_putObj' _ D (.deferred none)) (fun r e=>by cases e; exact⟨_,hK',rfl⟩)
  have hall:readyB pl (needL (nL gU i.toNat 2) (nI gU i.toNat 7))=true:=by
   rw[hready]
   exact List.all_eq_true.2 fun y hy=>hne y hy
  refine⟨.bool true,?_,by rw[hall],(hB.setCell (p:=⟨w.heap.size+1,0,none⟩) (by simp) _).trans (belowK_b (w:=w) (Nat.le_refl _) _ D _ _ (by omega) hK' rfl rfl)⟩
  simp[results,Tryz.f85,go_sem,hc5]
 case stop =>
  rintro D c pre W hD ⟨k,hk,rfl⟩ ⟨⟨rfl,⟨y,hy,hpy⟩,hcr⟩,hB⟩ hK
  clear hpcells hpc hpo hgc hgB hgp hP hx hL hi hh hpv k0 k1 k2 k3 hB0 hw2
  gi_wp2
  refine⟨by simp,.inl ⟨_,_,rfl,run_takeDeferred hK,?_⟩⟩
  have hc5:=cell_kept hcr (grownBy_putObj' _ D (.deferred none)) (fun r e=>by cases e; exact⟨_,hK,rfl⟩)
  have hall:readyB pl (needL (nL gU i.toNat 2) (nI gU i.toNat 7))=false:=by
   rw[hready,Bool.eq_false_iff]
   intro h
   have:=List.all_eq_true.1 h y (List.mem_of_mem_take hy)
   rw[hpy]at this
   cases this
  refine⟨.bool false,?_,by rw[hall],hB.trans (belowK_b (w:=w) (Nat.le_refl _) W D _ _ (by omega) hK rfl rfl)⟩
  simp[results,Tryz.f85,go_sem,hc5]
end Go.Sx09
end

section
open Go.RowKit
namespace Go.Sx
section
variable [Globs] {P:Program}
theorem jso {f:Nat} {fn:Func} {body:Code} {shs:List SV} {g:List Lf→Option GT} (hf:P.funcs[f]?=some fn) (hb:fn.body=some body) (hn:(fn.name == "runtime.NumGoroutine")=false)
  (h:∀ls t,g ls=some t→∃ob x,t=.leaf ob [.c (.d x)]∧(ob→∀b:Bv,je9 shs 0 ls=some b→∀ρ w,HRel ρ (kd fun k=>k<w.heap.size) b.hp b.n w→Calls P f (b.vs.map (V.val ρ)).toArray w fun e w'=>e=.returned x.val∧Below w.heap.size w w')) :
  jaf P f true (jak shs g):=by
 refine .inl ⟨jcB hf hb hn,fun ρ B w args hp nx t hS hob hlt hh hB=>?_⟩
 unfold jak at hS
 split at hS
 ·rename_i ls am hto
  split at hS
  ·rename_i t' hg
   cases hS
   obtain⟨ob,x,rfl,hc⟩:=h ls t' hg
   rw[jbr]at hob
   have hob:ob:=hob
   obtain⟨b,ρ0,hbl,q⟩:=jg9 hh hB shs args ls am hto hlt 0 (fun _=>undef) []
   rw[List.append_nil]at hbl
   have hh0:HRel ρ0 (kd fun k=>k<w.heap.size) b.hp b.n w:=by
    refine⟨fun x o hf=>?_,fun x o x' o' k hf hf' _ hb=>?_,ji7 hh.glob hB⟩
    ·obtain⟨_,a2,a3,a4,_⟩:=q.heap x o hf
     exact⟨a2,a3,a4⟩
    ·obtain⟨_,_,_,_,a5⟩:=q.heap x o hf
     rw[a5]at hb
     cases hb
   have hcalls:=hc hob b hbl ρ0 w hh0
   rw[q.val]at hcalls
   refine hcalls.mono ?_
   rintro e w' ⟨rfl,hbw⟩
   refine⟨ρ,?_,jae.refl _ _,?_,?_,⟨B,Grow.refl _ _ _ _,?_⟩,jcb hbw hB,fun _=>hbw,fun _ h o k hle hf _=>?_⟩
   ·rw[jbr]; rfl
   ·rw[jbr]; trivial
   ·rw[jbr]; exact Nat.le_refl _
   ·rw[jbr]; exact hh.below hbw hB
   ·rw[jbr]at hf
    have:=(hh.ok h o hf).1
    omega
  ·cases hS
 ·cases hS
end
end Go.Sx
end

section
namespace Go.Sh
open Go Go.Proofs Go.RowKit Go.Sx
def jk3:List SV:=[.c (.p [.d,.x (.st [.s,.i .i64,.ints .i64,.ints .i64,.ints .i64,.i .i64,.recs 5,.i .i64] []),.r (.ints .i64 [])]),.c .d,.c (.r (.bools []))]
def jcS (gUnits:List (List NC)) (i:Int) (placed:List Bool):Option Bool :=
 if 0≤i∧i<gUnits.length then
  if((nL gUnits i.toNat 2).length:Int)<9223372036854775807∧(Sx09.needL (nL gUnits i.toNat 2) (nI gUnits i.toNat 7)).all (fun x=>decide (0≤x∧x<placed.length))=true then
   some (Sx09.readyB placed (Sx09.needL (nL gUnits i.toNat 2) (nI gUnits i.toNat 7)))
  else none
 else none
def jhe:List Lf→Option GT
 |[.d (.s gName),.x (.st [.s,.i .i64,.ints .i64,.ints .i64,.ints .i64,.i .i64,.recs 5,.i .i64] gUnits),.r (.ints .i64 order),.d (.i .i64 i),.r (.bools placed)]=>some (.leaf (ok (jcS gUnits i placed)) [.c (.d (.b (val (jcS gUnits i placed))))])
 |_=>none
abbrev sp_85:jaa→jaa:=jaI 85 true (jak jk3 jhe)
theorem joo:jaf Tryz.prog 85 true (jak jk3 jhe):=by
 refine jso (fn:=Tryz.f85) (body:=bodyOf Tryz.f85) Tryz.func85 (by kernel_rfl) (by kernel_rfl) fun ls t h=>?_
 unfold jhe at h
 split at h
 ·rename_i gName gUnits order i placed
  cases h
  refine⟨_,_,rfl,fun hok b hb ρ w hh=>?_⟩
  have hbe:b=⟨[.w (.c (.p 2 0 1 0)),.w (.c (.d (.i .i64 i))),.w (.c (.o 3))],[(3,.ext (.bools placed)),(2,.ebox [.d (.s gName),.o 0,.o 1]),(1,.ext (.ints .i64 order)),(0,.xext (.st Sx09.shU gUnits))],4,[]⟩ :=
   Option.some.inj (hb.symm.trans (by kernel_rfl))
  subst hbe
  unfold ok jcS at hok
  split at hok
  ·rename_i hi
   split at hok
   ·rename_i hL
    have hv:val (jcS gUnits i placed)=Sx09.readyB placed (Sx09.needL (nL gUnits i.toNat 2) (nI gUnits i.toNat 7)):=by
     unfold jcS
     rw[if_pos hi,if_pos hL]
     rfl
    rw[hv]
    exact(callsIn_wide (n:=9)).1 (Sx09.ready_in gName gUnits order i placed ρ w hh hi hL.1 fun x hx=>by simpa using List.all_eq_true.1 hL.2 x hx)
   ·cases hok
  ·cases hok
 ·cases h
theorem sp_85_ok {sp:jaa} (h:jac Tryz.prog sp):jac Tryz.prog (sp_85 sp):=jas joo h
end Go.Sh
end

section
namespace Go.Sh
open Go Go.Proofs Go.RowKit Go.Sx
open Go.IntKind (wrap)
def jgH:List SV:=[.a [.d,.x (.st [.s,.i .i64,.ints .i64,.ints .i64,.ints .i64,.i .i64,.recs 5,.i .i64] [])]]
def jcl (u0:List (List NC)) (x0:Int × List Bool × List Int) (x1:Int):Option (Int ⊕ Int) :=
 if x1<(↑(List.length u0):Int)then
  if 0≤x1∧x1<(↑(List.length x0.2.1):Int)then
  if Int.toNat x1<List.length x0.2.1 then
   if(!List.getD x0.2.1 (Int.toNat x1) false)=true then
   Option.bind (jcS u0 x1 x0.2.1) fun r1 =>
   if(r1)=true then
    some (.inr x1)
   else
    some (.inl (wrap .i64 (x1+1)))
   else
   some (.inl (wrap .i64 (x1+1)))
  else none
  else none
 else
  some (.inr (-1:Int))
def jhK (x0:Int × List Bool × List Int) (u29:Int):Option ((Int × List Bool × List Int) ⊕ (Unit ⊕ (List Int))) :=
 if(u29==(-1:Int))=true then
  some (.inr ((.inl ())))
 else
  if 0≤u29∧u29<(↑(List.length x0.2.1):Int)then
  if Int.toNat u29<List.length x0.2.1 then
   if(List.length x0.2.2+List.length [u29])*8≤140737488355328∧List.length x0.2.2+List.length [u29]≤9223372036854775807 then
   some (.inl ((wrap .i64 (x0.1+1),List.set x0.2.1 (Int.toNat u29) true,x0.2.2++[u29])))
   else none
  else none
  else none
def jbX (u0:List (List NC)) (x0:(Int × List Bool × List Int)):Option ((Int × List Bool × List Int) ⊕ (Unit ⊕ (List Int))) :=
 if x0.1<(↑(List.length u0):Int)then
  Option.bind (jag (jcl u0 x0) big (0:Int)) (jhK x0)
 else
  some (.inr (.inr x0.2.2))
def jqK (u3:Unit):Option Int :=
 some (19:Int)
def jqL (u4:List Int):Option Int :=
 none
def jhL:(Unit ⊕ (List Int))→Option Int :=
 (Sum.elim (jqK) (jqL))
def jbd (u1:ByteArray) (u0:List (List NC)):Option Int :=
 Option.bind (y26 u1 u0) fun r0 =>
 if(r0.2 != 0)=true then
  some r0.2
 else
  if 0≤(↑(List.length u0):Int)∧(↑(List.length u0):Int)=(↑(List.length u0):Int)∧(↑(1:Nat):Int)*(↑(List.length u0):Int)≤281474976710656∧(↑(List.length u0):Int)≤9223372036854775807 then
  Option.bind (jag (jbX u0) big (((0:Int),List.replicate (Int.toNat (↑(List.length u0):Int)) false,[]))) (jhL)
  else none
def jms (u0:List (List NC)) (x0:Int × List Bool × List Int) (x1:Int):Option (Int ⊕ Int) :=
 if x1<(↑(List.length u0):Int)then
  if 0≤x1∧x1<(↑(List.length x0.2.1):Int)then
  if Int.toNat x1<List.length x0.2.1 then
   if(!List.getD x0.2.1 (Int.toNat x1) false)=true then
   Option.bind (jcS u0 x1 x0.2.1) fun r1 =>
   if(r1)=true then
    some (.inr x1)
   else
    some (.inl (wrap .i64 (x1+1)))
   else
   some (.inl (wrap .i64 (x1+1)))
  else none
  else none
 else
  some (.inr (-1:Int))
def jmt (x0:Int × List Bool × List Int) (u29:Int):Option ((Int × List Bool × List Int) ⊕ (Unit ⊕ (List Int))) :=
 if(u29==(-1:Int))=true then
  some (.inr ((.inl ())))
 else
  if 0≤u29∧u29<(↑(List.length x0.2.1):Int)then
  if Int.toNat u29<List.length x0.2.1 then
   if(List.length x0.2.2+List.length [u29])*8≤140737488355328∧List.length x0.2.2+List.length [u29]≤9223372036854775807 then
   some (.inl ((wrap .i64 (x0.1+1),List.set x0.2.1 (Int.toNat u29) true,x0.2.2++[u29])))
   else none
  else none
  else none
def jfb (u0:List (List NC)) (x0:(Int × List Bool × List Int)):Option ((Int × List Bool × List Int) ⊕ (Unit ⊕ (List Int))) :=
 if x0.1<(↑(List.length u0):Int)then
  Option.bind (jag (jms u0 x0) big (0:Int)) (jmt x0)
 else
  some (.inr (.inr x0.2.2))
def jqM (u1:ByteArray) (u3:Unit):Option (ByteArray × List Int × Int) :=
 none
def jqN (u1:ByteArray) (u4:List Int):Option (ByteArray × List Int × Int) :=
 some ((u1,u4,0))
def jhM (u1:ByteArray):(Unit ⊕ (List Int))→Option (ByteArray × List Int × Int) :=
 (Sum.elim (jqM u1) (jqN u1))
def jbF (u1:ByteArray) (u0:List (List NC)):Option (ByteArray × List Int × Int) :=
 Option.bind (y26 u1 u0) fun r0 =>
 if(r0.2 != 0)=true then
  none
 else
  if 0≤(↑(List.length u0):Int)∧(↑(List.length u0):Int)=(↑(List.length u0):Int)∧(↑(1:Nat):Int)*(↑(List.length u0):Int)≤281474976710656∧(↑(List.length u0):Int)≤9223372036854775807 then
  Option.bind (jag (jfb u0) big (((0:Int),List.replicate (Int.toNat (↑(List.length u0):Int)) false,[]))) (jhM u1)
  else none
def jsp:List Lf→Option GT
 |[.d (.s u1),.x (.st [.s,.i .i64,.ints .i64,.ints .i64,.ints .i64,.i .i64,.recs 5,.i .i64] u0)]=>some (.br (Option.isSome (jbd u1 u0)) (.leaf (ok (jbd u1 u0)) [.c (.d (.v (Value.pointer none))),.c (.d (.i .i64 ((val (jbd u1 u0)))))]) (.leaf (ok (jbF u1 u0)) [.c (.box 130 [.d (.s ((val (jbF u1 u0)).1)),.g 0,.row 3 (.ints .i64 ((val (jbF u1 u0)).2.1))]),.c (.d (.i .i64 ((val (jbF u1 u0)).2.2)))]))
 |_=>none
abbrev jhN (u1:ByteArray) (u0:List (List NC)) (r:Int):Lp ((Int × List Bool × List Int) × Nat) (Int × List Bool × List Int) ((Unit ⊕ (List Int))) Int Int :=
 ⟨fun z=>Prod.fst z,fun z=>Prod.snd z,fun z x n=>(x,n),fun z=>jbX u0,fun z=>jhL,fun z=>top r,fun z=>0,[.c fun _=>0,.c fun _=>0,.c fun _=>(↑(List.length u0):Int),.c fun vv=>vv.1.1,.c fun _=>u1,.c fun _=>u1,.c fun vv=>vv.1.2.1,.c fun _=>u0,.c fun vv=>vv.1.2.2]⟩
abbrev jmu (u1:ByteArray) (u0:List (List NC)) (r:Int) (m1:Nat):Lp ((Int × List Bool × List Int) × Nat × Int × Nat) Int Int (((Int × List Bool × List Int) ⊕ (Unit ⊕ (List Int)))) Int :=
 ⟨fun z=>Prod.fst (Prod.snd (Prod.snd z)),fun z=>Prod.snd (Prod.snd (Prod.snd z)),fun z x n=>(Prod.fst z,Prod.fst (Prod.snd z),x,n),fun z=>jcl u0 (Prod.fst z),fun z=>jhK (Prod.fst z),fun z=>(jhN u1 u0 r).cx (Prod.fst z,m1),fun z=>Prod.fst (Prod.snd z),[.c fun _=>0,.c fun _=>0,.c fun _=>(-1:Int),.c fun _=>(↑(List.length u0):Int),.c fun vv=>vv.1.1,.c fun _=>(↑(List.length u0):Int),.c fun vv=>vv.2.2.1,.c fun _=>u1,.c fun _=>u1,.c fun vv=>vv.1.2.1,.c fun _=>u0,.c fun vv=>vv.1.2.2]⟩
def jtX (u1:ByteArray) (u0:List (List NC)) (r:Int):Sk (top r) (Option.bind (jag (jbX u0) big (((0:Int),List.replicate (Int.toNat (↑(List.length u0):Int)) false,[]))) (jhL)) :=
 .loopQ (jhN u1 u0 r) [.c fun _=>0,.c fun _=>0,.c fun _=>(↑(List.length u0):Int),.c fun vv=>vv.1.1,.c fun _=>u1,.c fun _=>u1,.c fun vv=>vv.1.2.1,.c fun _=>u0,.p fun vv=>List.length vv.1.2.2=(0:Nat)] (fun kk=>(((0:Int),List.replicate (Int.toNat (↑(List.length u0):Int)) false,[]),big)) (fun z0 =>
 .br
 (.loop (jmu u1 u0 r (Prod.snd z0)) (fun kk=>(Prod.fst z0,kk,0,big)) fun z1 =>
 .br
 (.ob (.ob (.brB
 (.call (.brB
 (.exit (.brB
 (.exit (.obT (.obT (.ret (fun r=>(Ob (Value.pointer none=Value.pointer none) ∧
 (Ob ((19:Int)=r) ∧
 True))) ⟨⟨rfl⟩,⟨⟨rfl⟩,trivial⟩⟩))))
 (.ob (.ob (.ob (.next))))))
 (.next)))
 (.next))))
 (.exit (.exit (.obT (.obT (.ret (fun r=>(Ob (Value.pointer none=Value.pointer none) ∧
 (Ob ((19:Int)=r) ∧
 True))) ⟨⟨rfl⟩,⟨⟨rfl⟩,trivial⟩⟩))))))
 (.exit (.obT (.obT (.bad (False)))))) (fun _=>⟨rfl,trivial⟩)
def jvY (u1:ByteArray) (u0:List (List NC)) (r:Int):Sk (top r) (jbd u1 u0) :=
 .call (.brB
 (.obT (.obT (.ret (fun r=>(Ob (Value.pointer none=Value.pointer none) ∧
 (Ob ((val (y26 u1 u0)).2=r) ∧
 True))) ⟨⟨rfl⟩,⟨⟨rfl⟩,trivial⟩⟩)))
 (.ob (jtX u1 u0 r)))
theorem jtY (u1:ByteArray) (u0:List (List NC)) (r:Int) (h:Option.bind (jbd u1 u0) some=some r):ja8 Tryz.f80 ((sp_18 (sp_85 sp0))) (fun gs id _=>match id with
 |0=>some ⟨(Int × List Bool × List Int) × Nat,fun z=>⟨[(1,.w (.c (.p 1 0 1 0))),(6,.w (.c (.p 2 0 1 0))),(7,.w (.c (.o 3))),(27,.w (.c (.d (.i .i64 ((↑(List.length u0):Int)))))),(28,.w (.c (.d (.i .i64 (Prod.fst (Prod.fst z))))))],[(1,.box 24 [.d (.s u1),.o 0]),(2,.box 130 [.d (.s u1),.o 0,.o 4]),(3,.row 4 (.bools (Prod.fst (Prod.snd (Prod.fst z))))),(0,.xext (XC.st [NK.s,NK.i .i64,NK.ints .i64,NK.ints .i64,NK.ints .i64,NK.i .i64,NK.recs (5:Nat),NK.i .i64] u0)),(4,.row 3 (.ints .i64 (Prod.snd (Prod.snd (Prod.fst z)))))],5⟩,fun z=>(jhN u1 u0 r).inv z,fun z=>Prod.snd z⟩
 |2=>some ⟨(Int × List Bool × List Int) × Nat × Int × Nat,fun z=>⟨[(1,.w (.c (.p 1 0 1 0))),(6,.w (.c (.p 2 0 1 0))),(7,.w (.c (.o 3))),(8,.w (.c (.d (.i .i64 (-1:Int))))),(27,.w (.c (.d (.i .i64 ((↑(List.length u0):Int)))))),(28,.w (.c (.d (.i .i64 ((Prod.fst z).1))))),(32,.w (.c (.d (.i .i64 ((↑(List.length u0):Int)))))),(33,.w (.c (.d (.i .i64 (Prod.fst (Prod.snd (Prod.snd z)))))))],[(1,.box 24 [.d (.s u1),.o 0]),(2,.box 130 [.d (.s u1),.o 0,.o 4]),(3,.row 4 (.bools ((Prod.fst z).2.1))),(0,.xext (XC.st [NK.s,NK.i .i64,NK.ints .i64,NK.ints .i64,NK.ints .i64,NK.i .i64,NK.recs (5:Nat),NK.i .i64] u0)),(4,.row 3 (.ints .i64 ((Prod.fst z).2.2)))],5⟩,fun z=>(jmu u1 u0 r (gs.getD 0 0)).inv z,fun z=>Prod.snd (Prod.snd (Prod.snd z))⟩
 |_=>none) (ja5 jgH [.d (.s u1),.x (.st [.s,.i .i64,.ints .i64,.ints .i64,.ints .i64,.i .i64,.recs 5,.i .i64] u0)]) [.c (.d (.v (Value.pointer none))),.c (.d (.i .i64 r))] :=
 Sk.vc (jvY u1 u0 r) (by kernel_rfl) h
abbrev jhO (u1:ByteArray) (u0:List (List NC)) (r:ByteArray × List Int × Int):Lp ((Int × List Bool × List Int) × Nat) (Int × List Bool × List Int) ((Unit ⊕ (List Int))) (ByteArray × List Int × Int) (ByteArray × List Int × Int) :=
 ⟨fun z=>Prod.fst z,fun z=>Prod.snd z,fun z x n=>(x,n),fun z=>jfb u0,fun z=>jhM u1,fun z=>top r,fun z=>0,[.c fun _=>0,.c fun _=>0,.c fun _=>(↑(List.length u0):Int),.c fun vv=>vv.1.1,.c fun _=>u1,.c fun _=>u1,.c fun vv=>vv.1.2.1,.c fun _=>u0,.c fun vv=>vv.1.2.2]⟩
abbrev jmv (u1:ByteArray) (u0:List (List NC)) (r:ByteArray × List Int × Int) (m1:Nat):Lp ((Int × List Bool × List Int) × Nat × Int × Nat) Int Int (((Int × List Bool × List Int) ⊕ (Unit ⊕ (List Int)))) (ByteArray × List Int × Int) :=
 ⟨fun z=>Prod.fst (Prod.snd (Prod.snd z)),fun z=>Prod.snd (Prod.snd (Prod.snd z)),fun z x n=>(Prod.fst z,Prod.fst (Prod.snd z),x,n),fun z=>jms u0 (Prod.fst z),fun z=>jmt (Prod.fst z),fun z=>(jhO u1 u0 r).cx (Prod.fst z,m1),fun z=>Prod.fst (Prod.snd z),[.c fun _=>0,.c fun _=>0,.c fun _=>(-1:Int),.c fun _=>(↑(List.length u0):Int),.c fun vv=>vv.1.1,.c fun _=>(↑(List.length u0):Int),.c fun vv=>vv.2.2.1,.c fun _=>u1,.c fun _=>u1,.c fun vv=>vv.1.2.1,.c fun _=>u0,.c fun vv=>vv.1.2.2]⟩
def jtZ (u1:ByteArray) (u0:List (List NC)) (r:ByteArray × List Int × Int):Sk (top r) (Option.bind (jag (jfb u0) big (((0:Int),List.replicate (Int.toNat (↑(List.length u0):Int)) false,[]))) (jhM u1)) :=
 .loopQ (jhO u1 u0 r) [.c fun _=>0,.c fun _=>0,.c fun _=>(↑(List.length u0):Int),.c fun vv=>vv.1.1,.c fun _=>u1,.c fun _=>u1,.c fun vv=>vv.1.2.1,.c fun _=>u0,.p fun vv=>List.length vv.1.2.2=(0:Nat)] (fun kk=>(((0:Int),List.replicate (Int.toNat (↑(List.length u0):Int)) false,[]),big)) (fun z0 =>
 .br
 (.loop (jmv u1 u0 r (Prod.snd z0)) (fun kk=>(Prod.fst z0,kk,0,big)) fun z1 =>
 .br
 (.ob (.ob (.brB
 (.call (.brB
 (.exit (.brB
 (.exit (.obT (.obT (.bad (False)))))
 (.ob (.ob (.ob (.next))))))
 (.next)))
 (.next))))
 (.exit (.exit (.obT (.obT (.bad (False)))))))
 (.exit (.obT (.obT (.rc))))) (fun _=>⟨rfl,trivial⟩)
def jvZ (u1:ByteArray) (u0:List (List NC)) (r:ByteArray × List Int × Int):Sk (top r) (jbF u1 u0) :=
 .call (.brB
 (.obT (.obT (.bad (False))))
 (.ob (jtZ u1 u0 r)))
theorem jt0 (u1:ByteArray) (u0:List (List NC)) (r:ByteArray × List Int × Int) (h:Option.bind (jbF u1 u0) some=some r):ja8 Tryz.f80 ((sp_18 (sp_85 sp0))) (fun gs id _=>match id with
 |0=>some ⟨(Int × List Bool × List Int) × Nat,fun z=>⟨[(1,.w (.c (.p 1 0 1 0))),(6,.w (.c (.p 2 0 1 0))),(7,.w (.c (.o 3))),(27,.w (.c (.d (.i .i64 ((↑(List.length u0):Int)))))),(28,.w (.c (.d (.i .i64 (Prod.fst (Prod.fst z))))))],[(1,.box 24 [.d (.s u1),.o 0]),(2,.box 130 [.d (.s u1),.o 0,.o 4]),(3,.row 4 (.bools (Prod.fst (Prod.snd (Prod.fst z))))),(0,.xext (XC.st [NK.s,NK.i .i64,NK.ints .i64,NK.ints .i64,NK.ints .i64,NK.i .i64,NK.recs (5:Nat),NK.i .i64] u0)),(4,.row 3 (.ints .i64 (Prod.snd (Prod.snd (Prod.fst z)))))],5⟩,fun z=>(jhO u1 u0 r).inv z,fun z=>Prod.snd z⟩
 |2=>some ⟨(Int × List Bool × List Int) × Nat × Int × Nat,fun z=>⟨[(1,.w (.c (.p 1 0 1 0))),(6,.w (.c (.p 2 0 1 0))),(7,.w (.c (.o 3))),(8,.w (.c (.d (.i .i64 (-1:Int))))),(27,.w (.c (.d (.i .i64 ((↑(List.length u0):Int)))))),(28,.w (.c (.d (.i .i64 ((Prod.fst z).1))))),(32,.w (.c (.d (.i .i64 ((↑(List.length u0):Int)))))),(33,.w (.c (.d (.i .i64 (Prod.fst (Prod.snd (Prod.snd z)))))))],[(1,.box 24 [.d (.s u1),.o 0]),(2,.box 130 [.d (.s u1),.o 0,.o 4]),(3,.row 4 (.bools ((Prod.fst z).2.1))),(0,.xext (XC.st [NK.s,NK.i .i64,NK.ints .i64,NK.ints .i64,NK.ints .i64,NK.i .i64,NK.recs (5:Nat),NK.i .i64] u0)),(4,.row 3 (.ints .i64 ((Prod.fst z).2.2)))],5⟩,fun z=>(jmv u1 u0 r (gs.getD 0 0)).inv z,fun z=>Prod.snd (Prod.snd (Prod.snd z))⟩
 |_=>none) (ja5 jgH [.d (.s u1),.x (.st [.s,.i .i64,.ints .i64,.ints .i64,.ints .i64,.i .i64,.recs 5,.i .i64] u0)]) [.c (.box 130 [.d (.s r.1),.g 0,.row 3 (.ints .i64 r.2.1)]),.c (.d (.i .i64 r.2.2))] :=
 Sk.vc (jvZ u1 u0 r) (by kernel_rfl) h
theorem jxr:jaf Tryz.prog 80 true (jak jgH jsp):=by
 refine jaw (sp:=(sp_18 (sp_85 sp0))) (fn:=Tryz.f80) (body:=bodyOf Tryz.f80) mixed (sp_18_ok (sp_85_ok jau)) Tryz.func80 (by kernel_rfl) (by kernel_rfl) fun ls t h ho b hb=>?_
 unfold jsp at h
 split at h
 ·rename_i u1 u0
  cases h
  obtain rfl:=jaM hb
  refine jAz (Q:=fun rs=>_∧∃fuel loops,sx _ _ _ _ fuel loops _ _ _ _ _ (jdK _ _ fun v hp _=>jkB _ rs v hp)) (fun _ ho=>⟨Nat.le_of_ble_eq_true (by kernel_rfl),_,_,jtY u1 u0 _ (jap ho)⟩) (fun _ ho=>?_) ho
  exact⟨Nat.le_of_ble_eq_true (by kernel_rfl),_,_,jt0 u1 u0 _ (jap ho)⟩
 ·cases h
end Go.Sh
end

section
namespace Go.Sh
open Go Go.Proofs Go.RowKit Go.Sx
theorem jpq {g:List (List NC)} {i:Nat} (h:jbt g i=0):(∀x∈nL g i 2,0≤x∧x<(g.length:Int))∧(nI g i 7=-1∨(0≤nI g i 7∧nI g i 7<(g.length:Int))):=by
 have hm:jdF g.length (nL g i 2)=false:=by
  cases hb:jdF g.length (nL g i 2)with
  |false=>rfl
  |true =>
   exfalso
   unfold jbt at h
   rw[if_pos hb]at h
   repeat' split at h
   all_goals exact absurd h (by decide)
 have hs:sdB g.length (nI g i 7)=true:=by
  cases hb:sdB g.length (nI g i 7)with
  |true=>rfl
  |false =>
   exfalso
   unfold jbt at h
   rw[hm,if_neg (by simp:¬(false=true)),hb,if_pos (by simp:(!false)=true)]at h
   repeat' split at h
   all_goals exact absurd h (by decide)
 refine⟨fun x hx=>?_,?_⟩
 ·have:=List.any_eq_false.1 hm x hx
  simp only[inB,Bool.not_eq_true,Bool.not_eq_false',Bool.and_eq_true,decide_eq_true_eq]at this
  omega
 ·unfold sdB inB at hs
  simp only[Bool.or_eq_true,beq_iff_eq,Bool.and_eq_true,decide_eq_true_eq]at hs
  omega
def jaB (out:List Int) (k:Nat):Bool:=out.any (·== (k:Int))
def jdG (g:List (List NC)) (i k:Nat):Bool:=(nL g i 2).any (·== (k:Int))||nI g i 7==(k:Int)
def jdg (g:List (List NC)) (out:List Int) (i:Nat):Bool:=!(List.range g.length).any fun k=>jdG g i k && !jaB out k
def jdS (g:List (List NC)) (out:List Int) (i:Nat):Bool:=!jaB out i&&jdg g out i
def jbz (g:List (List NC)) (out:List Int):Option Nat:=(List.range g.length).find? (jdS g out)
def jbe (n:Nat) (out:List Int):List Bool:=(List.range n).map (jaB out)
theorem jp2 {g:List (List NC)} (hw:Fw g) {i:Nat} (hi:i<g.length) (k:Nat) (nm:ByteArray) (a:Int) (b c:List Int) (d:Int) (e:List (List Int)):y93 nm a (nL g i 2) b c d e (nI g i 7) (k:Int)=some (jdG g i k):=by
 have h2:=hw.fr i hi
 unfold y93 jdG
 rw[jde _ _ (by omega),jad]
 cases (nL g i 2).any (·== (k:Int))<;>rfl
theorem jxs {g:List (List NC)} (hw:Fw g) (nm:ByteArray) {i:Nat} (hi:i<g.length) (out:List Int) (ho:out.length<1000):y94 nm g out (i:Int)=some (jdg g out i):=by
 have hn:=hw.n
 unfold y94
 have key:=jcD (body:=y72 g out (i:Int)) g.length (fun k=>jdG g i k && !jaB out k) (.inl ()) (.inr ()) (by omega) (fun k hk hp=>by
   simp only[Bool.and_eq_true,Bool.not_eq_true']at hp
   unfold y72
   simp only[Int.toNat_natCast]
   rw[if_pos (by omega),if_pos (by omega),if_pos hi,jp2 hw hi,jad,if_pos hp.1,jde _ _ (by omega),jad]
   have h2:(out.any (·== (k:Int)))=false:=hp.2
   rw[h2]
   rfl) (fun k hk hp=>by
   unfold y72
   simp only[Int.toNat_natCast]
   rw[if_pos (by omega),if_pos (by omega),if_pos hi,jp2 hw hi,jad]
   cases h1:jdG g i k with
   |false=>rw[if_neg (by simp),jaO (by omega)]
   |true =>
    rw[h1]at hp
    have h2:jaB out k=true:=by simpa using hp
    have h2:(out.any (·== (k:Int)))=true:=h2
    rw[if_pos rfl,jde _ _ (by omega),jad,h2,jaO (by omega)]
    rfl) (by
   unfold y72
   rw[if_neg (by omega)])
 rw[key]
 unfold jdg
 cases (List.range g.length).any (fun k=>jdG g i k && !jaB out k)<;>rfl
theorem jf4 (n:Nat) (out:List Int):(jbe n out).length=n:=by simp[jbe]
theorem jf5 {n k:Nat} (hk:k<n) (out:List Int):(jbe n out).getD k false=jaB out k:=by simp[jbe,List.getD,hk]
theorem jv0 {n i:Nat} (hi:i<n) (out:List Int):(jbe n out).set i true=jbe n (out++[(i:Int)]):=by
 refine List.ext_getElem (by simp[jbe]) fun k h1 h2=>?_
 have hk:k<n:=by simpa [jbe]using h2
 rw[List.getElem_set]
 simp only[jbe,List.getElem_map,List.getElem_range,jaB,List.any_append,List.any_cons,List.any_nil,Bool.or_false]
 by_cases h:i=k
 ·subst h; simp
 ·rw[if_neg h]
  have:((i:Int)==(k:Int))=false:=by simp; omega
  rw[this,Bool.or_false]
theorem jp3 {g:List (List NC)} (hw:Fw g) {i:Nat} (hi:i<g.length) (hr:jbt g i=0) (out:List Int):jcS g (i:Int) (jbe g.length out)=some (jdg g out i):=by
 have h2:=hw.fr i hi
 obtain⟨r1,r2⟩:=jpq hr
 have hmem:∀x,x∈Sx09.needL (nL g i 2) (nI g i 7)↔(x∈nL g i 2∨(nI g i 7≠-1∧x=nI g i 7)):=fun x=>by
  unfold Sx09.needL
  split
  ·rename_i h; simp[h]
  ·rename_i h; simp[h]
 have hrg:∀x∈Sx09.needL (nL g i 2) (nI g i 7),0≤x∧x<(g.length:Int):=fun x hx=>by
  rcases(hmem x).1 hx with h|⟨h,rfl⟩
  ·exact r1 x h
  ·exact r2.resolve_left h
 unfold jcS
 simp only[Int.toNat_natCast]
 rw[if_pos (by omega),if_pos ⟨by omega,by
  rw[List.all_eq_true]
  intro x hx
  rw[jf4]
  simpa using hrg x hx⟩]
 congr 1
 rw[Bool.eq_iff_iff]
 unfold Sx09.readyB jdg
 rw[List.all_eq_true,Bool.not_eq_true',List.any_eq_false]
 constructor
 ·intro h k hk
  have hk:k<g.length:=List.mem_range.1 hk
  simp only[Bool.and_eq_true,Bool.not_eq_true',not_and,Bool.not_eq_false]
  intro hn
  have hx:(k:Int)∈Sx09.needL (nL g i 2) (nI g i 7):=by
   rw[hmem]
   unfold jdG at hn
   rw[Bool.or_eq_true,List.any_eq_true]at hn
   rcases hn with ⟨x,hx,e⟩|e
   ·have:x=(k:Int):=by simpa using e
    subst this; exact .inl hx
   ·have:nI g i 7=(k:Int):=by simpa using e
    exact .inr ⟨by omega,this.symm⟩
  have:=h _ hx
  rwa [Int.toNat_natCast,jf5 hk]at this
 ·intro h x hx
  obtain⟨h0,h1⟩:=hrg x hx
  obtain⟨k,rfl⟩:∃k:Nat,x=(k:Int):=⟨x.toNat,by omega⟩
  have hk:k<g.length:=by omega
  rw[Int.toNat_natCast,jf5 hk]
  have:=h k (List.mem_range.2 hk)
  simp only[Bool.and_eq_true,Bool.not_eq_true',not_and,Bool.not_eq_false]at this
  refine this ?_
  unfold jdG
  rw[Bool.or_eq_true,List.any_eq_true]
  rcases(hmem _).1 hx with h|⟨h,e⟩
  ·exact .inl ⟨_,h,by simp⟩
  ·exact .inr (by simp[←e])
theorem jyU (P:Nat→Bool) (l:List Nat):(l.findIdx? P).map (fun i=>l.getD i 0)=l.find? P:=by
 induction l with
 |nil=>rfl
 |cons x r ih =>
  rw[List.findIdx?_cons,List.find?_cons]
  cases P x with
  |true=>rfl
  |false =>
   rw[←ih]
   cases r.findIdx? P<;>rfl
theorem jxt {Y:Type} (n:Nat) (P:Nat→Bool) {body:Int→Option (Int ⊕ Y)} (hit:Nat→Y) (miss:Y) (hlen:n<9223372036854775807)
  (h1:∀i,i<n→P i=true→body (i:Int)=some (.inr (hit i)))
  (h2:∀i,i<n→P i=false→body (i:Int)=some (.inl ((i:Int)+1))) (h3:body (n:Int)=some (.inr miss)) :
  jag body big 0=some (match(List.range n).find? P with|some i=>hit i|none=>miss):=by
 have hg:∀i,i<n→(List.range n).getD i 0=i:=fun i hi=>by simp[List.getD,hi]
 have key:=jbs (body:=body) (List.range n) 0 P hit miss (by simpa using hlen) (fun i hi hp=>by
   have hi:i<n:=by simpa using hi
   rw[hg i hi]at hp; exact h1 i hi hp) (fun i hi hp=>by
   have hi:i<n:=by simpa using hi
   rw[hg i hi]at hp; exact h2 i hi hp) (by simpa using h3)
 rw[key,←jyU]
 cases h:(List.range n).findIdx? P with
 |none=>rfl
 |some i =>
  show some (hit i)=some (hit ((List.range n).getD i 0))
  rw[hg i (jom h)]
def jdt (next:List Int→Option Nat):Nat→List Int→Option (List Int)
 |0,out=>some out
 |k+1,out=>match next out with
  |some i=>jdt next k (out++[(i:Int)])
  |none=>none
theorem jm3 {X Y:Type} {body:X→Option (X ⊕ Y)} (F:List Int→X) (next:List Int→Option Nat) (good:List Int→Y) (bad:Y) (n:Nat)
  (h1:∀out,out.length<n→body (F out)=some (match next out with|some i=>.inl (F (out++[(i:Int)]))|none=>.inr bad)) (h2:∀out,out.length=n→body (F out)=some (.inr (good out))) :
  ∀(k:Nat) (out:List Int) (N:Nat),out.length+k=n→k<N→jag body N (F out)=some (match jdt next k out with|some l=>good l|none=>bad)
 |0,out,0,_,h=>by omega
 |0,out,N+1,ho,_=>by
  unfold jag
  rw[h2 out (by omega)]
  rfl
 |k+1,out,0,_,h=>by omega
 |k+1,out,N+1,ho,hN=>by
  unfold jag
  rw[h1 out (by omega)]
  unfold jdt
  cases hx:next out with
  |none=>rfl
  |some i=>exact jm3 F next good bad n h1 h2 k (out++[(i:Int)]) N (by simp; omega) (by omega)
end Go.Sh
end

section
open Go.RowKit
namespace Go.Sx
def nzI (e:Int):Int:=Int.ofNat (e.toNat-1+1)
theorem jAO {e:Int} (h:0<e):nzI e=e:=by
 unfold nzI
 rw[Int.ofNat_eq_natCast]
 omega
theorem jxu [Globs] {P:Program} {f:Nat} {shs:List SV} {g g':List Lf→Option GT} (h:∀ls t',g' ls=some t'→∃t,g ls=some t∧(t'.sel.1→t.sel.1∧t.sel.2=t'.sel.2)) (hS:jaf P f true (jak shs g)):jaf P f true (jak shs g'):=by
 have key:∀args hp nx t',jak shs g' args hp nx=some t'→t'.sel.ob→∃t,jak shs g args hp nx=some t∧t.sel.ob∧t.sel.v=t'.sel.v∧t.sel.hp=t'.sel.hp∧t.sel.nx=t'.sel.nx:=by
  intro args hp nx t' ht hob
  unfold jak at ht ⊢
  split at ht
  ·rename_i ls am hto
   split at ht
   ·rename_i q' hg
    cases ht
    obtain⟨q,hq,himp⟩:=h ls q' hg
    rw[jbr]at hob ⊢
    obtain⟨h1,h2⟩:=himp hob
    refine⟨q.toRT am hp nx,by simp only[hq],?_,?_,?_,?_⟩
    ·rw[jbr]; exact h1
    all_goals rw[jbr]; simp only[h2]
   ·cases ht
  ·cases ht
 rcases hS with hR|hV
 ·refine .inl ⟨hR.enter,fun ρ B w args hp nx t' ht hob hlt hh hB=>?_⟩
  obtain⟨t,q1,q2,q3,q4,q5⟩:=key args hp nx t' ht hob
  refine(hR.sound ρ B w args hp nx t q1 q2 hlt hh hB).mono ?_
  rintro e w' ⟨ρ',he,hl⟩
  refine⟨ρ',by rw[he,q3],hl.agree,by rw[←q3,←q5]; exact hl.lt,by rw[←q5]; exact hl.le,by rw[←q4,←q5]; exact hl.heap,hl.below,hl.mono,by rw[←q4]; exact hl.fresh⟩
 ·refine .inr fun ρ B w args hp nx t' ht hob hlt hh hB=>?_
  obtain⟨t,q1,q2,q3,q4,q5⟩:=key args hp nx t' ht hob
  obtain⟨ob,v,e1,e2,e3⟩:=hV ρ B w args hp nx t q1 q2 hlt hh hB
  rw[e1]at q3 q4 q5
  refine⟨t'.sel.ob,v,?_,e2,e3⟩
  cases hs:t'.sel with
  |mk ob' v' hp' nx' =>
   rw[hs]at q3 q4 q5
   simp only at q3 q4 q5
   rw[←q3,←q4,←q5]
end Go.Sx
namespace Go.Sh
open Go Go.Proofs Go.RowKit Go.Sx
def jfc (gName:ByteArray) (gUnits:List (List NC)):Option Int:=(jbd gName gUnits).bind fun e=>if 0<e then some e else none
def jbb (gName:ByteArray) (gUnits:List (List NC)):Option (List Int):=(jbF gName gUnits).map fun r=>r.2.1
def jop (gName:ByteArray) (gUnits:List (List NC)):Bool:=(jbd gName gUnits).isSome
def jk4:List Lf→Option GT
 |[.d (.s gName),.x (.st [.s,.i .i64,.ints .i64,.ints .i64,.ints .i64,.i .i64,.recs 5,.i .i64] gUnits)]=>some (.br (jop gName gUnits) (.leaf (ok (jfc gName gUnits)) [.c (.d (.v (Value.pointer none))),.c (.d (.i .i64 (nzI (val (jfc gName gUnits)))))]) (.leaf (ok (jbb gName gUnits)) [.c (.box 130 [.d (.s gName),.g 0,.row 3 (.ints .i64 (val (jbb gName gUnits)))]),.c (.d (.i .i64 0))]))
 |_=>none
theorem jxv {gName:ByteArray} {gUnits:List (List NC)} {r:ByteArray × List Int × Int} (h:jbF gName gUnits=some r):r.1=gName∧r.2.2=0:=by
 unfold jbF at h
 obtain⟨c,_,h⟩:=Option.bind_eq_some_iff.1 h
 split at h
 ·cases h
 ·split at h
  ·obtain⟨y,_,h⟩:=Option.bind_eq_some_iff.1 h
   cases y with
   |inl u=>cases h
   |inr l=>cases h; exact⟨rfl,rfl⟩
  ·cases h
theorem jv1:jaf Tryz.prog 80 true (jak jgH jk4):=by
 refine jxu (fun ls t' h=>?_) jxr
 unfold jk4 at h
 split at h
 ·rename_i gName gUnits
  cases h
  refine⟨_,rfl,fun hob=>?_⟩
  unfold jop at hob ⊢
  cases hq:(jbd gName gUnits).isSome with
  |true =>
   rw[hq]at hob
   have hob:ok (jfc gName gUnits):=hob
   obtain⟨e,he⟩:=Option.isSome_iff_exists.1 hq
   have hF:jfc gName gUnits=if 0<e then some e else none:=by unfold jfc; rw[he]; rfl
   have hpos:0<e:=by
    rw[hF]at hob
    by_cases h0:0<e
    ·exact h0
    ·rw[if_neg h0]at hob; cases hob
   rw[if_pos hpos]at hF
   refine⟨hq,?_⟩
   show[RR.c (.d (.v (Value.pointer none))),RR.c (.d (.i .i64 (val (jbd gName gUnits))))]=[RR.c (.d (.v (Value.pointer none))),RR.c (.d (.i .i64 (nzI (val (jfc gName gUnits)))))]
   rw[jn4 he,jn4 hF,jAO hpos]
  |false =>
   rw[hq]at hob
   have hob:ok (jbb gName gUnits):=hob
   cases he:jbF gName gUnits with
   |none=>unfold jbb at hob; rw[he]at hob; cases hob
   |some r =>
    have hS:jbb gName gUnits=some r.2.1:=by unfold jbb; rw[he]; rfl
    obtain⟨q1,q2⟩:=jxv he
    refine⟨rfl,?_⟩
    show[RR.c (.box 130 [.d (.s r.1),.g 0,.row 3 (.ints .i64 r.2.1)]),RR.c (.d (.i .i64 r.2.2))]=[RR.c (.box 130 [.d (.s gName),.g 0,.row 3 (.ints .i64 (val (jbb gName gUnits)))]),RR.c (.d (.i .i64 0))]
    rw[jn4 hS,q1,q2]
 ·cases h
abbrev sp_80:jaa→jaa:=jaI 80 true (jak jgH jk4)
theorem sp_80_ok {sp:jaa} (h:jac Tryz.prog sp):jac Tryz.prog (sp_80 sp):=jas jv1 h
end Go.Sh
end

section
namespace Go.Sh
open Go Go.Proofs Go.RowKit Go.Sx
end Go.Sh
end

section
namespace Go.Sh
open Go Go.Proofs Go.RowKit Go.Sx
open Go.IntKind (wrap)
theorem juI {g:List (List NC)} {out:List Int} {i:Nat} (h:jbz g out=some i):i<g.length∧jdS g out i=true :=
 ⟨List.mem_range.1 (List.mem_of_find?_eq_some h),List.find?_some h⟩
def jf6 (P:Nat→Bool) (n k:Nat):Int:=match(List.range' (n-k) k).find? P with
 |some i=>(i:Int)
 |none=>-1
theorem jv2 (P:Nat→Bool) {n k:Nat} (hk:k<n):jf6 P n (k+1)=if P (n-1-k)=true then((n-1-k:Nat):Int)else jf6 P n k:=by
 unfold jf6
 have e:n-(k+1)=n-1-k:=by omega
 rw[List.range'_succ,e,List.find?_cons]
 have e2:n-1-k+1=n-k:=by omega
 rw[e2]
 cases P (n-1-k)<;>rfl
theorem jxw (P:Nat→Bool) (n:Nat):jf6 P n n=match(List.range n).find? P with|some i=>(i:Int)|none=>-1:=by
 unfold jf6
 rw[Nat.sub_self,←List.range_eq_range']
def jlK (g:List (List NC)) (out:List Int):Int:=match jbz g out with
 |some i=>(i:Int)
 |none=>-1
theorem jxx {g:List (List NC)} (hw:Fw g) (nm:ByteArray) (out:List Int) (ho:out.length<1000):jag (y59 nm g out) big (-1,wrap IntKind.i64 ((g.length:Int)-1))=some (jlK g out):=by
 have hn:=hw.n
 have key:=jbW (body:=y59 nm g out) (fun k=>(jf6 (jdS g out) g.length k,(g.length:Int)-1-(k:Int))) (y:=jlK g out) (k:=g.length) (fun k hk=>by
   unfold y59
   obtain⟨j,hj⟩:∃j:Nat,(g.length:Int)-1-(k:Int)=(j:Int):=⟨g.length-1-k,by omega⟩
   have hjn:j=g.length-1-k:=by omega
   have hjl:j<g.length:=by omega
   rw[hj,if_pos (by omega),jde _ _ (by omega),jad,jxs hw nm hjl out ho]
   have hs:=jv2 (jdS g out) hk
   rw[←hjn]at hs
   have he:(g.length:Int)-1-((k+1:Nat):Int)=(j:Int)-1:=by omega
   rw[he,hs,jaO (by omega)]
   have hc:jdS g out j=(!(out.any (·== (j:Int)))&&jdg g out j):=rfl
   rw[hc]
   cases out.any (·== (j:Int))with
   |true=>rfl
   |false =>
    cases jdg g out j<;>rfl) (by
   unfold y59
   rw[if_neg (by show ¬((g.length:Int)-1-(g.length:Int)≥0); omega)]
   show some (Sum.inr (jf6 (jdS g out) g.length g.length))=_
   rw[jxw]
   rfl) (by omega)
 have e0:jf6 (jdS g out) g.length 0=-1:=rfl
 have key:jag (y59 nm g out) big (jf6 (jdS g out) g.length 0,(g.length:Int)-1-((0:Nat):Int))=some (jlK g out):=key
 rw[e0]at key
 rw[jaO (by omega)]
 have e1:(g.length:Int)-1-((0:Nat):Int)=(g.length:Int)-1:=by omega
 rw[e1]at key
 exact key
theorem jp4 {g:List (List NC)} (hw:Fw g) (nm:ByteArray):y1 nm g=some (match jdt (jbz g) g.length []with|some l=>(l,true)|none=>([],false)):=by
 have hn:=hw.n
 unfold y1
 have key:=jm3 (body:=y73 nm g) (fun out=>out) (jbz g) (fun l=>.inr l) (.inl ()) g.length (fun out ho=>by
   unfold y73
   rw[if_pos (by omega),jxx hw nm out (by omega),jad]
   unfold jgA jlK
   cases hx:jbz g out with
   |none=>rfl
   |some i =>
    show(if(i:Int)<0 then _ else _)=_
    rw[if_neg (by omega),if_pos (by simp only[List.length_cons,List.length_nil]; omega)]) (fun out ho=>by
   unfold y73
   rw[if_neg (by omega)]) g.length [] big (by simp) (by have:big=18446744073709551616:=rfl; omega)
 rw[key]
 cases jdt (jbz g) g.length []<;>rfl
theorem jv3 (n:Nat):jbe n []=List.replicate n false:=by
 refine List.ext_getElem (by simp[jbe]) fun k h1 h2=>?_
 simp[jbe,jaB]
theorem jxy {g:List (List NC)} (hw:Fw g) (hall:∀i,i<g.length→jbt g i=0) (out:List Int) (k:Int):jag (jcl g (k,jbe g.length out,out)) big 0=some (jlK g out):=by
 have hn:=hw.n
 have key:=jxt (body:=jcl g (k,jbe g.length out,out)) g.length (jdS g out) (fun i=>(i:Int)) (-1) (by omega) (fun i hi hp=>by
   unfold jcl
   simp only[Int.toNat_natCast,jf4]
   unfold jdS at hp
   rw[Bool.and_eq_true]at hp
   rw[if_pos (by omega),if_pos (by omega),if_pos hi,jf5 hi,if_pos hp.1,jp3 hw hi (hall i hi),jad,if_pos hp.2]) (fun i hi hp=>by
   unfold jcl
   simp only[Int.toNat_natCast,jf4]
   unfold jdS at hp
   rw[if_pos (by omega),if_pos (by omega),if_pos hi,jf5 hi]
   cases hh:jaB out i with
   |true=>rw[if_neg (by simp),jaO (by omega)]
   |false =>
    rw[hh]at hp
    have hr:jdg g out i=false:=by simpa using hp
    rw[if_pos (by rfl),jp3 hw hi (hall i hi),jad,hr,if_neg (by simp),jaO (by omega)]) (by
   unfold jcl
   rw[if_neg (by omega)])
 exact key
theorem jsq {g:List (List NC)} (hw:Fw g) (hall:∀i,i<g.length→jbt g i=0):jag (jbX g) big ((0:Int),List.replicate g.length false,[])=some (match jdt (jbz g) g.length []with|some l=>.inr l|none=>.inl ()):=by
 have hn:=hw.n
 have key:=jm3 (body:=jbX g) (fun out=>((out.length:Int),jbe g.length out,out)) (jbz g) (fun l=>.inr l) (.inl ()) g.length (fun out ho=>by
   unfold jbX
   rw[if_pos (by show(out.length:Int)<_; omega),jxy hw hall,jad]
   unfold jhK jlK
   cases hx:jbz g out with
   |none=>rfl
   |some i =>
    have hi:=(juI hx).1
    have hne:((i:Int) == -1)=false:=by
     rw[beq_eq_false_iff_ne]; omega
    simp only[jf4]
    rw[hne,if_neg (by simp),if_pos (by omega),if_pos (by omega),if_pos (by simp only[List.length_cons,List.length_nil]; omega),jaO (by omega),Int.toNat_natCast,jv0 hi]
    simp) (fun out ho=>by
   unfold jbX
   rw[if_neg (by show ¬(out.length:Int)<_; omega)]) g.length [] big (by simp) (by have:big=18446744073709551616:=rfl; omega)
 rw[jv3]at key
 exact key
theorem jk5 (next:List Int→Option Nat):∀(k:Nat) (out l:List Int),jdt next k out=some l→out.length+k=l.length∧l.take out.length=out∧∀j,out.length≤j→j<l.length→∃i,next (l.take j)=some i∧l.getD j 0=((i:Nat):Int)
 |0,out,l,h=>by
  cases h
  exact⟨rfl,List.take_length,fun j h1 h2=>by omega⟩
 |k+1,out,l,h=>by
  unfold jdt at h
  cases hx:next out with
  |none=>rw[hx]at h; cases h
  |some i =>
   rw[hx]at h
   obtain⟨h1,h2,h3⟩:=jk5 next k (out++[(i:Int)]) l h
   simp only[List.length_append,List.length_cons,List.length_nil]at h1 h2 h3
   have ht:l.take out.length=out:=by
    have:(l.take (out.length+1)).take out.length=out:=by rw[h2]; simp
    rwa [List.take_take,Nat.min_eq_left (by omega)]at this
   refine⟨by omega,ht,fun j hj1 hj2=>?_⟩
   by_cases hj:j=out.length
   ·subst hj
    refine⟨i,by rw[ht]; exact hx,?_⟩
    have hg:(l.take (out.length+1))[out.length]?=some (i:Int):=by rw[h2]; simp
    rw[List.getElem?_take_of_lt (by omega)]at hg
    simp[List.getD,hg]
   ·exact h3 j (by omega) hj2
theorem jt1 (c:List (List Int)):0≤jcE c:=by
 unfold jcE
 repeat' split
 all_goals omega
theorem jt2 (g:List (List NC)) (i:Nat):0≤jbt g i:=by
 unfold jbt
 have:=jt1 (nR g i 6)
 generalize jcE (nR g i 6)=c at *
 repeat' split
 all_goals omega
theorem jxz (nm:ByteArray) (g:List (List NC)):0≤(cg nm g).2:=by
 rw[jon]
 unfold cgF
 split
 ·show(0:Int)≤4; omega
 ·split
  ·show(0:Int)≤8; omega
  ·cases (List.range g.length).findIdx? (fun i=>jbt g i != 0)with
   |none=>exact Int.le_refl _
   |some i=>exact jt2 g i
theorem jpr {nm:ByteArray} {g:List (List NC)} (h:(cg nm g).2=0):∀i,i<g.length→jbt g i=0:=by
 rw[jon]at h
 unfold cgF at h
 split at h
 ·exact absurd (show(4:Int)=0 from h) (by omega)
 ·split at h
  ·exact absurd (show(8:Int)=0 from h) (by omega)
  ·cases hf:(List.range g.length).findIdx? (fun i=>jbt g i != 0)with
   |none =>
    intro i hi
    rw[List.findIdx?_eq_none_iff]at hf
    simpa using hf i (List.mem_range.2 hi)
   |some i =>
    rw[hf]at h
    have h:jbt g i=0:=h
    rw[List.findIdx?_eq_some_iff_getElem]at hf
    obtain⟨hlt,hp,_⟩:=hf
    simp only[List.getElem_range]at hp
    rw[h]at hp
    exact absurd hp (by decide)
theorem jxA {n:Nat} (h:n<1000):(0:Int)≤(n:Int)∧(n:Int)=(n:Int)∧((1:Nat):Int)*(n:Int)≤281474976710656∧(n:Int)≤9223372036854775807:=by
 omega
theorem jxB {g:List (List NC)} (hw:Fw g) {nm:ByteArray} (hs:nm.size<1000) (h:(cg nm g).2≠0):jbd nm g=some (cg nm g).2:=by
 unfold jbd
 rw[jk1 hw hs,jad,if_pos (bne_iff_ne.2 h)]
theorem jsr {g:List (List NC)} (hw:Fw g) {nm:ByteArray} (hs:nm.size<1000) (h:(cg nm g).2=0):jbd nm g=match jdt (jbz g) g.length []with|some _=>none|none=>some 19:=by
 unfold jbd
 rw[jk1 hw hs,jad,if_neg (by rw[h]; simp),if_pos (jxA hw.n),Int.toNat_natCast,jsq hw (jpr h),jad]
 cases jdt (jbz g) g.length []<;>rfl
theorem jyV {g:List (List NC)} (hw:Fw g) {nm:ByteArray} (hs:nm.size<1000) (h:(cg nm g).2=0) {l:List Int} (hl:jdt (jbz g) g.length []=some l):jbF nm g=some (nm,l,0):=by
 unfold jbF
 rw[show jfb=jbX from rfl]
 rw[jk1 hw hs,jad,if_neg (by rw[h]; simp),if_pos (jxA hw.n),Int.toNat_natCast,jsq hw (jpr h),jad,hl]
 rfl
theorem jAb {e:Int} (h:0<e):nzI e=e:=by
 unfold nzI
 show((e.toNat-1+1:Nat):Int)=e
 omega
theorem jt3 {g:List (List NC)} (hw:Fw g) {nm:ByteArray} (hs:nm.size<1000):y60 nm g=some (if(cg nm g).2≠0 then(cg nm g).2 else match jdt (jbz g) g.length []with|some _=>0|none=>19):=by
 unfold y60
 rw[jxk hw hs,jad]
 by_cases h:(cg nm g).2=0
 ·rw[if_neg (by rw[h]; simp),if_neg (fun hn=>hn h),jp4 hw,jad]
  cases jdt (jbz g) g.length []<;>rfl
 ·rw[if_pos (bne_iff_ne.2 h),if_pos h]
end Go.Sh
end

section
namespace Go.Sh
open Go Go.Proofs Go.RowKit Go.Sx
structure Rg (g:List (List NC)) (l:List Int):Prop where
 fw:Fw g
 ok:∀i,i<g.length→jbt g i=0
 ord:jdt (jbz g) g.length []=some l
variable {g:List (List NC)} {l:List Int}
theorem Rg.n (h:Rg g l):g.length<1000:=h.fw.n
theorem Rg.len (h:Rg g l):l.length=g.length:=by
 have:=(jk5 (jbz g) g.length [] l h.ord).1
 simp at this
 omega
theorem Rg.at (h:Rg g l) {j:Nat} (hj:j<g.length):∃i:Nat,i<g.length∧l.getD j 0=(i:Int)∧jaB (l.take j) i=false∧jdg g (l.take j) i=true:=by
 obtain⟨_,_,h3⟩:=jk5 (jbz g) g.length [] l h.ord
 obtain⟨i,hx,hi⟩:=h3 j (Nat.zero_le _) (by rw[h.len]; exact hj)
 obtain⟨h1,h2⟩:=juI hx
 unfold jdS at h2
 rw[Bool.and_eq_true,Bool.not_eq_true']at h2
 exact⟨i,h1,hi,h2.1,h2.2⟩
theorem jss {out:List Int} {k:Nat}:jaB out k=true↔∃j,j<out.length∧out.getD j 0=(k:Int):=by
 unfold jaB
 rw[List.any_eq_true]
 constructor
 ·rintro ⟨x,hx,he⟩
  obtain⟨j,hj,e⟩:=List.mem_iff_getElem.1 hx
  exact⟨j,hj,by simp only[List.getD,List.getElem?_eq_getElem hj,Option.getD_some,e]; simpa using he⟩
 ·rintro ⟨j,hj,e⟩
  refine⟨out[j],List.getElem_mem hj,?_⟩
  simp only[List.getD,List.getElem?_eq_getElem hj,Option.getD_some]at e
  simpa using e
theorem jp5 {α:Type} (l:List α) (d:α) {j k:Nat} (h:j<k):(l.take k).getD j d=l.getD j d:=by
 simp only[List.getD,List.getElem?_take_of_lt h]
theorem Rg.before (h:Rg g l) {j i u:Nat} (hj:j<g.length) (hi:l.getD j 0=(i:Int)) (hu:u<g.length) (hn:jdG g i u=true):∃j',j'<j∧l.getD j' 0=(u:Int):=by
 obtain⟨i',_,h2,_,h4⟩:=h.at hj
 rw[hi]at h2
 obtain rfl:i=i':=by omega
 unfold jdg at h4
 rw[Bool.not_eq_true',List.any_eq_false]at h4
 have:=h4 u (List.mem_range.2 hu)
 rw[hn,Bool.true_and,Bool.not_eq_true,Bool.not_eq_false',jss]at this
 obtain⟨j',h5,h6⟩:=this
 have hlt:j'<j:=by simp at h5; omega
 exact⟨j',hlt,by rw[jp5 _ _ hlt]at h6; exact h6⟩
theorem Rg.lt_ne (h:Rg g l) {j j':Nat} (hj:j<g.length) (hl:j'<j):l.getD j' 0≠l.getD j 0:=fun e=>by
 obtain⟨i,_,h2,h3,_⟩:=h.at hj
 have:jaB (l.take j) i=true:=jss.2 ⟨j',by have:=h.len; simp; omega,by rw[jp5 _ _ hl,e,h2]⟩
 rw[h3]at this
 cases this
theorem pig:∀(n:Nat) (l:List Nat),l.Nodup→(∀x∈l,x<n)→l.length≤n
 |0,[],_,_=>Nat.le_refl _
 |0,x::l,_,h=>absurd (h x List.mem_cons_self) (by omega)
 |n+1,l,hd,h=>by
  have h1:=pig n (l.erase n) (hd.erase n) (fun x hx=>by
   rw[hd.mem_erase_iff]at hx
   have:=h x hx.2
   omega)
  rw[List.length_erase]at h1
  split at h1<;>omega
theorem Rg.surj (h:Rg g l) {i:Nat} (hi:i<g.length):∃j,j<g.length∧l.getD j 0=(i:Int):=by
 apply Classical.byContradiction
 intro hno
 have hL:=h.len
 have hget:∀j (hj:j<l.length),l[j]=l.getD j 0:=fun j hj=>by simp[List.getD,hj]
 have hnd:(l.map Int.toNat).Nodup:=by
  unfold List.Nodup
  rw[List.pairwise_map,List.pairwise_iff_getElem]
  intro a b ha hb hab e
  obtain⟨x,_,hx,_⟩:=h.at (j:=a) (by omega)
  obtain⟨y,_,hy,_⟩:=h.at (j:=b) (by omega)
  rw[hget a ha,hget b hb,hx,hy]at e
  refine h.lt_ne (j:=b) (by omega) hab ?_
  rw[hx,hy]
  simp only[Int.toNat_natCast]at e
  rw[e]
 have hm:∀x∈l.map Int.toNat,∃j,j<g.length∧l.getD j 0=(x:Int)∧x<g.length:=by
  intro x hx
  obtain⟨y,hy,rfl⟩:=List.mem_map.1 hx
  obtain⟨j,hj,e⟩:=List.mem_iff_getElem.1 hy
  obtain⟨z,hz,hz2,_⟩:=h.at (j:=j) (by omega)
  rw[hget j hj,hz2]at e
  subst e
  exact⟨j,by omega,by rw[hz2]; simp,by simpa using hz⟩
 have:=pig g.length (i::l.map Int.toNat) (List.nodup_cons.2 ⟨fun hx=>by
  obtain⟨j,h1,h2,_⟩:=hm i hx
  exact hno ⟨j,h1,h2⟩,hnd⟩) (fun x hx=>by
   rcases List.mem_cons.1 hx with rfl|hx
   ·exact hi
   ·exact(hm x hx).choose_spec.2.2)
 simp at this
 omega
theorem Rg.stand (h:Rg g l) {j i:Nat} (hj:j<g.length) (hi:l.getD j 0=(i:Int)) (hi2:i<g.length):nI g i 7=-1∨∃j' u:Nat,j'<j∧u<g.length∧nI g i 7=(u:Int)∧l.getD j' 0=(u:Int):=by
 rcases(jpq (h.ok i hi2)).2 with h1|⟨h1,h2⟩
 ·exact .inl h1
 ·refine .inr ?_
  obtain⟨u,hu⟩:∃u:Nat,nI g i 7=(u:Int):=⟨(nI g i 7).toNat,by omega⟩
  obtain⟨j',h3,h4⟩:=h.before (u:=u) hj hi (by omega) (by unfold jdG; simp[hu])
  exact⟨j',u,h3,by omega,hu,h4⟩
theorem Rg.from (h:Rg g l) {j i k:Nat} (hj:j<g.length) (hi:l.getD j 0=(i:Int)) (hi2:i<g.length) (hk:k<(nL g i 2).length):∃j' u:Nat,j'<j∧u<g.length∧(nL g i 2).getD k 0=(u:Int)∧l.getD j' 0=(u:Int):=by
 have hm:(nL g i 2).getD k 0∈nL g i 2:=by simp[List.getD,hk]
 obtain⟨h1,h2⟩:=(jpq (h.ok i hi2)).1 _ hm
 obtain⟨u,hu⟩:∃u:Nat,(nL g i 2).getD k 0=(u:Int):=⟨((nL g i 2).getD k 0).toNat,by omega⟩
 obtain⟨j',h3,h4⟩:=h.before (u:=u) hj hi (by omega) (by
  unfold jdG
  rw[Bool.or_eq_true]
  exact .inl (List.any_eq_true.2 ⟨_,hm,by rw[hu]; simp⟩))
 exact⟨j',u,h3,by omega,hu,h4⟩
def stF (st:Nat→Int) (fb:Nat→Bool):Nat→Int→Int
 |0,u=>u
 |k+1,u=>if 0≤u∧fb u.toNat=true then stF st fb k (st u.toNat)else u
def jcF (g:List (List NC)) (fb:Nat→Bool) (u:Int):Int:=stF (fun i=>nI g i 7) fb g.length u
theorem jps (st:Nat→Int) (fb:Nat→Bool):∀k,stF st fb k (-1)=-1
 |0=>rfl
 |k+1=>by unfold stF; rw[if_neg (by omega)]
theorem jst (h:Rg g l) (fb:Nat→Bool):∀j,j<g.length→∀k,j<k→stF (fun i=>nI g i 7) fb k (l.getD j 0)=stF (fun i=>nI g i 7) fb (j+1) (l.getD j 0):=by
 intro j
 induction j using Nat.strongRecOn with
 |_ j ih =>
  intro hj k hk
  obtain⟨i,hi,e,_⟩:=h.at hj
  obtain⟨m,rfl⟩:∃m,k=m+1:=⟨k-1,by omega⟩
  rw[e]
  unfold stF
  by_cases hf:fb i=true
  ·rw[if_pos ⟨by omega,by simpa using hf⟩,if_pos ⟨by omega,by simpa using hf⟩,Int.toNat_natCast]
   rcases h.stand hj e hi with h1|⟨j',u,h1,h2,h3,h4⟩
   ·rw[h1,jps,jps]
   ·rw[h3,←h4,ih j' h1 (by omega) m (by omega),ih j' h1 (by omega) j (by omega)]
  ·rw[if_neg (fun hn=>hf (by simpa using hn.2)),if_neg (fun hn=>hf (by simpa using hn.2))]
theorem jsu (h:Rg g l) (fb:Nat→Bool) {j i:Nat} (hj:j<g.length) (hi:l.getD j 0=(i:Int)) (hi2:i<g.length):jcF g fb (i:Int)=if fb i=true then(if nI g i 7=-1 then -1 else jcF g fb (nI g i 7))else(i:Int):=by
 unfold jcF
 obtain⟨m,hm⟩:∃m,g.length=m+1:=⟨g.length-1,by omega⟩
 rw[hm]
 conv=>lhs; unfold stF
 by_cases hf:fb i=true
 ·rw[if_pos ⟨by omega,by simpa using hf⟩,if_pos hf,Int.toNat_natCast]
  rcases h.stand hj hi hi2 with h1|⟨j',u,h1,h2,h3,h4⟩
  ·rw[h1,jps,if_pos rfl]
  ·rw[if_neg (by omega),h3,←h4,jst h fb j' (by omega) m (by omega),jst h fb j' (by omega) (m+1) (by omega)]
 ·rw[if_neg (fun hn=>hf (by simpa using hn.2)),if_neg hf]
theorem juJ (h:Rg g l) (fb:Nat→Bool):∀j,j<g.length→jcF g fb (l.getD j 0)=-1∨∃j' i:Nat,j'≤j∧i<g.length∧l.getD j' 0=(i:Int)∧jcF g fb (l.getD j 0)=(i:Int)∧fb i=false:=by
 intro j
 induction j using Nat.strongRecOn with
 |_ j ih =>
  intro hj
  obtain⟨i,hi,e,_⟩:=h.at hj
  rw[e,jsu h fb hj e hi]
  by_cases hf:fb i=true
  ·rw[if_pos hf]
   rcases h.stand hj e hi with h1|⟨j',u,h1,h2,h3,h4⟩
   ·rw[if_pos h1]; exact .inl rfl
   ·rw[if_neg (by omega),h3,←h4]
    rcases ih j' h1 (by omega)with h5|⟨j2,i2,h5,h6⟩
    ·exact .inl h5
    ·exact .inr ⟨j2,i2,by omega,h6⟩
  ·rw[if_neg hf]
   exact .inr ⟨j,i,Nat.le_refl _,hi,e,rfl,by simpa using hf⟩
def jfJ (g:List (List NC)) (fb:Nat→Bool):List Int:=(List.range g.length).map fun(i:Nat)=>jcF g fb (i:Int)
theorem juK (g:List (List NC)) (fb:Nat→Bool):(jfJ g fb).length=g.length:=by simp[jfJ]
theorem juL (g:List (List NC)) (fb:Nat→Bool) {i:Nat} (hi:i<g.length):(jfJ g fb).getD i 0=jcF g fb (i:Int):=by simp[jfJ,List.getD,hi]
theorem jbB {α:Type} (l:List α) (i j:Nat) (x d:α) (hi:i<l.length):(l.set i x).getD j d=if i=j then x else l.getD j d:=by
 simp only[List.getD,List.getElem?_set,hi,if_true]
 split<;>rfl
theorem jp6 {α:Type} {l:List α} (d:α) {i:Nat} (h:i<l.length):l.getD i d=l[i]:=by simp[List.getD,h]
theorem jk6 (h:Rg g l) {j j' i i':Nat} (hj:j<g.length) (hl:j'<j) (e:l.getD j 0=(i:Int)) (e':l.getD j' 0=(i':Int)):i≠i':=fun hn=>h.lt_ne hj hl (by rw[e,e',hn])
end Go.Sh
end

section
namespace Go.Sh
open Go Go.Proofs Go.RowKit Go.Sx
open Go.IntKind (wrap)
def y100:List SV:=[.c (.p [.d,.x (.st [.s,.i .i64,.ints .i64,.ints .i64,.ints .i64,.i .i64,.recs 5,.i .i64] []),.r (.ints .i64 [])]),.c (.r (.bools []))]
def y11 (u27:List (List NC)) (u28:List Int) (u7:List Bool) (x0:(Int × List Int)):Option ((Int × List Int) ⊕ (List Int)) :=
 if x0.1<(↑(List.length u28):Int)then
  if 0≤x0.1∧x0.1<(↑(List.length u28):Int)then
  if Int.toNat x0.1<List.length u28 then
   if 0≤List.getD u28 (Int.toNat x0.1) (0:Int)∧List.getD u28 (Int.toNat x0.1) 0<(↑(List.length u27):Int)then
   if Int.toNat (List.getD u28 (Int.toNat x0.1) (0:Int))<List.length u27 then
    if 0≤List.getD u28 (Int.toNat x0.1) (0:Int)∧List.getD u28 (Int.toNat x0.1) 0<(↑(List.length u7):Int)then
    if Int.toNat (List.getD u28 (Int.toNat x0.1) (0:Int))<List.length u7 then
     if(!List.getD u7 (Int.toNat (List.getD u28 (Int.toNat x0.1) (0:Int))) false)=true then
     if 0≤List.getD u28 (Int.toNat x0.1) (0:Int)∧List.getD u28 (Int.toNat x0.1) 0<(↑(List.length x0.2):Int)then
      if Int.toNat (List.getD u28 (Int.toNat x0.1) (0:Int))<List.length x0.2 then
      some (.inl ((wrap .i64 (x0.1+1),List.set x0.2 (Int.toNat (List.getD u28 (Int.toNat x0.1) (0:Int))) (List.getD u28 (Int.toNat x0.1) (0:Int)))))
      else none
     else none
     else
     if(nI u27 (Int.toNat (List.getD u28 (Int.toNat x0.1) (0:Int))) (7:Nat)==(-1:Int))=true then
      if 0≤List.getD u28 (Int.toNat x0.1) (0:Int)∧List.getD u28 (Int.toNat x0.1) 0<(↑(List.length x0.2):Int)then
      if Int.toNat (List.getD u28 (Int.toNat x0.1) (0:Int))<List.length x0.2 then
       some (.inl ((wrap .i64 (x0.1+1),List.set x0.2 (Int.toNat (List.getD u28 (Int.toNat x0.1) (0:Int))) (-1:Int))))
      else none
      else none
     else
      if 0≤nI u27 (Int.toNat (List.getD u28 (Int.toNat x0.1) (0:Int))) (7:Nat)∧nI u27 (Int.toNat (List.getD u28 (Int.toNat x0.1) (0:Int))) 7<(↑(List.length x0.2):Int)then
      if Int.toNat (nI u27 (Int.toNat (List.getD u28 (Int.toNat x0.1) (0:Int))) (7:Nat))<List.length x0.2 then
       if 0≤List.getD u28 (Int.toNat x0.1) (0:Int)∧List.getD u28 (Int.toNat x0.1) 0<(↑(List.length x0.2):Int)then
       if Int.toNat (List.getD u28 (Int.toNat x0.1) (0:Int))<List.length x0.2 then
        some (.inl ((wrap .i64 (x0.1+1),List.set x0.2 (Int.toNat (List.getD u28 (Int.toNat x0.1) (0:Int))) (List.getD x0.2 (Int.toNat (nI u27 (Int.toNat (List.getD u28 (Int.toNat x0.1) (0:Int))) (7:Nat))) (0:Int)))))
       else none
       else none
      else none
      else none
    else none
    else none
   else none
   else none
  else none
  else none
 else
  some (.inr x0.2)
def y87 (u3:List Int):Option (List Int) :=
 some u3
def y8 (u38:ByteArray) (u27:List (List NC)) (u28:List Int) (u7:List Bool):Option (List Int) :=
 if 0≤(↑(List.length u27):Int)∧(↑(List.length u27):Int)=(↑(List.length u27):Int)∧(↑(8:Nat):Int)*(↑(List.length u27):Int)≤281474976710656∧(↑(List.length u27):Int)≤9223372036854775807 then
  Option.bind (jag (y11 u27 u28 u7) big (((0:Int),List.replicate (Int.toNat (↑(List.length u27):Int)) (0:Int)))) (y87)
 else none
def y101:List Lf→Option GT
 |[.d (.s u38),.x (.st [.s,.i .i64,.ints .i64,.ints .i64,.ints .i64,.i .i64,.recs 5,.i .i64] u27),.r (.ints .i64 u28),.r (.bools u7)]=>some (.leaf (ok (y8 u38 u27 u28 u7)) [.c (.row 3 (.ints .i64 ((val (y8 u38 u27 u28 u7)))))])
 |_=>none
abbrev sp_93:jaa→jaa:=jaI 93 true (jak y100 y101)
abbrev y136 (u38:ByteArray) (u27:List (List NC)) (u28:List Int) (u7:List Bool) (r:List Int):Lp ((Int × List Int) × Nat) (Int × List Int) (List Int) (List Int) (List Int) :=
 ⟨fun z=>Prod.fst z,fun z=>Prod.snd z,fun z x n=>(x,n),fun z=>y11 u27 u28 u7,fun z=>y87,fun z=>top r,fun z=>0,[.c fun _=>0,.c fun _=>(↑(List.length u28):Int),.c fun vv=>vv.1.1,.c fun _=>u38,.c fun _=>u7,.c fun vv=>vv.1.2,.c fun _=>u28,.c fun _=>u27]⟩
def jjU (u38:ByteArray) (u27:List (List NC)) (u28:List Int) (u7:List Bool) (r:List Int):Sk (top r) (Option.bind (jag (y11 u27 u28 u7) big (((0:Int),List.replicate (Int.toNat (↑(List.length u27):Int)) (0:Int)))) (y87)) :=
 .loop (y136 u38 u27 u28 u7 r) (fun kk=>(((0:Int),List.replicate (Int.toNat (↑(List.length u27):Int)) (0:Int)),big)) fun z0 =>
 .br
 (.ob (.ob (.obT (.ob (.ob (.ob (.ob (.brB
 (.ob (.ob (.next)))
 (.brB
 (.ob (.ob (.next)))
 (.ob (.ob (.ob (.ob (.next))))))))))))))
 (.exit (.obT (.rc)))
def jk7 (u38:ByteArray) (u27:List (List NC)) (u28:List Int) (u7:List Bool) (r:List Int):Sk (top r) (y8 u38 u27 u28 u7) :=
 .obT (.ob (.obT (jjU u38 u27 u28 u7 r)))
theorem jjV (u38:ByteArray) (u27:List (List NC)) (u28:List Int) (u7:List Bool) (r:List Int) (h:Option.bind (y8 u38 u27 u28 u7) some=some r):ja8 Tryz.f93 (sp0) (fun gs id _=>match id with
 |0=>some ⟨(Int × List Int) × Nat,fun z=>⟨[(0,.w (.c (.p 2 0 1 0))),(1,.w (.c (.o 3))),(5,.w (.c (.o 4))),(19,.w (.c (.o 1))),(20,.w (.c (.d (.i .i64 ((↑(List.length u28):Int)))))),(21,.w (.c (.d (.i .i64 (Prod.fst (Prod.fst z))))))],[(2,.ebox [.d (.s u38),.o 0,.o 1]),(3,.ext (.bools u7)),(4,.row 3 (.ints .i64 (Prod.snd (Prod.fst z)))),(1,.ext (.ints .i64 u28)),(0,.xext (XC.st [NK.s,NK.i .i64,NK.ints .i64,NK.ints .i64,NK.ints .i64,NK.i .i64,NK.recs (5:Nat),NK.i .i64] u27))],5⟩,fun z=>(y136 u38 u27 u28 u7 r).inv z,fun z=>Prod.snd z⟩
 |_=>none) (ja5 y100 [.d (.s u38),.x (.st [.s,.i .i64,.ints .i64,.ints .i64,.ints .i64,.i .i64,.recs 5,.i .i64] u27),.r (.ints .i64 u28),.r (.bools u7)]) [.c (.row 3 (.ints .i64 r))] :=
 Sk.vc (jk7 u38 u27 u28 u7 r) (by kernel_rfl) h
theorem jjW:jaf Tryz.prog 93 true (jak y100 y101):=by
 refine jaw (sp:=sp0) (fn:=Tryz.f93) (body:=bodyOf Tryz.f93) mixed jau Tryz.func93 (by kernel_rfl) (by kernel_rfl) fun ls t h ho b hb=>?_
 unfold y101 at h
 split at h
 ·rename_i u38 u27 u28 u7
  cases h
  obtain rfl:=jaM hb
  exact⟨Nat.le_of_ble_eq_true (by kernel_rfl),_,_,jjV u38 u27 u28 u7 _ (jap ho)⟩
 ·cases h
theorem sp_93_ok {sp:jaa} (h:jac Tryz.prog sp):jac Tryz.prog (sp_93 sp):=jas jjW h
def y120:List SV:=[.c (.d),.c (.p [.r (.ints .i64 [])]),.c (.p [.r (.bools [])])]
def y48 (n:Int) (v0_:List Int) (v1_:List Bool):Option Bool :=
 if 0≤n∧n<(↑(List.length v0_):Int)then
  if Int.toNat n<List.length v0_ then
  if(List.getD v0_ (Int.toNat n) (0:Int)!=(-1:Int))=true then
   if 0≤n∧n<(↑(List.length v0_):Int)then
   if Int.toNat n<List.length v0_ then
    if 0≤List.getD v0_ (Int.toNat n) (0:Int)∧List.getD v0_ (Int.toNat n) 0<(↑(List.length v1_):Int)then
    if Int.toNat (List.getD v0_ (Int.toNat n) (0:Int))<List.length v1_ then
     some (List.getD v1_ (Int.toNat (List.getD v0_ (Int.toNat n) (0:Int))) false)
    else none
    else none
   else none
   else none
  else
   some false
  else none
 else none
def y121:List Lf→Option GT
 |[.d (.i .i64 n),.r (.ints .i64 v0_),.r (.bools v1_)]=>some (.leaf (ok (y48 n v0_ v1_)) [.c (.d (.b ((val (y48 n v0_ v1_)))))])
 |_=>none
abbrev sp_140:jaa→jaa:=jaI 140 true (jak y120 y121)
def joq (n:Int) (v0_:List Int) (v1_:List Bool) (r:Bool):Sk (top r) (y48 n v0_ v1_) :=
 .obT (.ob (.ob (.brB
 (.obT (.obT (.ob (.ob (.ob (.ob (.obT (.rc))))))))
 (.obT (.rc)))))
theorem jm4 (n:Int) (v0_:List Int) (v1_:List Bool) (r:Bool) (h:Option.bind (y48 n v0_ v1_) some=some r):ja8 Tryz.f140 (sp0) (fun _ _ _=>none) (ja5 y120 [.d (.i .i64 n),.r (.ints .i64 v0_),.r (.bools v1_)]) [.c (.d (.b r))] :=
 Sk.vc (joq n v0_ v1_ r) (by kernel_rfl) h
theorem jm5:jaf Tryz.prog 140 true (jak y120 y121):=by
 refine jaw (sp:=sp0) (fn:=Tryz.f140) (body:=bodyOf Tryz.f140) mixed jau Tryz.func140 (by kernel_rfl) (by kernel_rfl) fun ls t h ho b hb=>?_
 unfold y121 at h
 split at h
 ·rename_i n v0_ v1_
  cases h
  obtain rfl:=jaM hb
  exact⟨Nat.le_of_ble_eq_true (by kernel_rfl),_,_,jm4 n v0_ v1_ _ (jap ho)⟩
 ·cases h
theorem sp_140_ok {sp:jaa} (h:jac Tryz.prog sp):jac Tryz.prog (sp_140 sp):=jas jm5 h
def y49:List SV:=[.c (.r (.ints .i64 [])),.c (.f 140 [.p [.r (.ints .i64 [])],.p [.r (.bools [])]])]
def y9 (s f0_:List Int) (f1_:List Bool) (x0:Int):Option (Int ⊕ (Int ⊕ Unit)) :=
 if x0<(↑(List.length s):Int)then
  if 0≤x0∧x0<(↑(List.length s):Int)then
  if Int.toNat x0<List.length s then
   Option.bind (y48 (List.getD s (Int.toNat x0) (0:Int)) f0_ f1_) fun r0 =>
   if(r0)=true then
   some (.inr (.inl x0))
   else
   some (.inl (wrap .i64 (x0+1)))
  else none
  else none
 else
  some (.inr ((.inr ())))
def y127 (u3:Int):Option Int :=
 some u3
def y128 (u4:Unit):Option Int :=
 some (-1:Int)
def y79:(Int ⊕ Unit)→Option Int :=
 (Sum.elim (y127) (y128))
def y14 (s f0_:List Int) (f1_:List Bool):Option Int :=
 Option.bind (jag (y9 s f0_ f1_) big (0:Int)) (y79)
def y50:List Lf→Option GT
 |[.r (.ints .i64 s),.r (.ints .i64 f0_),.r (.bools f1_)]=>some (.leaf (ok (y14 s f0_ f1_)) [.c (.d (.i .i64 ((val (y14 s f0_ f1_)))))])
 |_=>none
abbrev sp_156_140:jaa→jaa:=jaI 156 true (jak y49 y50)
abbrev y80 (s f0_:List Int) (f1_:List Bool) (r:Int):Lp (Int × Nat) Int (Int ⊕ Unit) Int Int :=
 ⟨fun z=>Prod.fst z,fun z=>Prod.snd z,fun z x n=>(x,n),fun z=>y9 s f0_ f1_,fun z=>y79,fun z=>top r,fun z=>0,[.c fun _=>(↑(List.length s):Int),.c fun vv=>vv.1,.c fun _=>s,.c fun _=>f0_,.c fun _=>f1_]⟩
def y145 (s f0_:List Int) (f1_:List Bool) (r:Int):Sk (top r) (y14 s f0_ f1_) :=
 .loop (y80 s f0_ f1_ r) (fun kk=>((0:Int),big)) fun z0 =>
 .br
 (.ob (.ob (.call (.brB
 (.exit (.obT (.rc)))
 (.next)))))
 (.exit (.obT (.rc)))
theorem y142 (s f0_:List Int) (f1_:List Bool) (r:Int) (h:Option.bind (y14 s f0_ f1_) some=some r):ja8 Tryz.f156 ((sp_140 sp0)) (fun gs id _=>match id with
 |0=>some ⟨Int × Nat,fun z=>⟨[(0,.w (.c (.o 0))),(1,.w (.c (.fn 140 [2,4]))),(7,.w (.c (.d (.i .i64 ((↑(List.length s):Int)))))),(8,.w (.c (.d (.i .i64 (Prod.fst z)))))],[(0,.ext (.ints .i64 s)),(2,.ebox [.o 1]),(4,.ebox [.o 3]),(1,.ext (.ints .i64 f0_)),(3,.ext (.bools f1_))],5⟩,fun z=>(y80 s f0_ f1_ r).inv z,fun z=>Prod.snd z⟩
 |_=>none) (ja5 y49 [.r (.ints .i64 s),.r (.ints .i64 f0_),.r (.bools f1_)]) [.c (.d (.i .i64 r))] :=
 Sk.vc (y145 s f0_ f1_ r) (by kernel_rfl) h
theorem y143:jaf Tryz.prog 156 true (jak y49 y50):=by
 refine jaw (sp:=(sp_140 sp0)) (fn:=Tryz.f156) (body:=bodyOf Tryz.f156) mixed (sp_140_ok jau) Tryz.func156 (by kernel_rfl) (by kernel_rfl) fun ls t h ho b hb=>?_
 unfold y50 at h
 split at h
 ·rename_i s f0_ f1_
  cases h
  obtain rfl:=jaM hb
  exact⟨Nat.le_of_ble_eq_true (by kernel_rfl),_,_,y142 s f0_ f1_ _ (jap ho)⟩
 ·cases h
theorem sp_156_140_ok {sp:jaa} (h:jac Tryz.prog sp):jac Tryz.prog (sp_156_140 sp):=jas y143 h
def y36:List SV:=[.c (.r (.ints .i64 [])),.c (.f 140 [.p [.r (.ints .i64 [])],.p [.r (.bools [])]])]
def y7 (s f0_:List Int) (f1_:List Bool):Option Bool :=
 Option.bind (y14 s f0_ f1_) fun r0 =>
 some (decide (r0≥0))
def y37:List Lf→Option GT
 |[.r (.ints .i64 s),.r (.ints .i64 f0_),.r (.bools f1_)]=>some (.leaf (ok (y7 s f0_ f1_)) [.c (.d (.b ((val (y7 s f0_ f1_)))))])
 |_=>none
abbrev sp_123_140:jaa→jaa:=jaI 123 true (jak y36 y37)
def y129 (s f0_:List Int) (f1_:List Bool) (r:Bool):Sk (top r) (y7 s f0_ f1_) :=
 .call (.obT (.rc))
theorem y122 (s f0_:List Int) (f1_:List Bool) (r:Bool) (h:Option.bind (y7 s f0_ f1_) some=some r):ja8 Tryz.f123 ((sp_156_140 (sp_140 sp0))) (fun _ _ _=>none) (ja5 y36 [.r (.ints .i64 s),.r (.ints .i64 f0_),.r (.bools f1_)]) [.c (.d (.b r))] :=
 Sk.vc (y129 s f0_ f1_ r) (by kernel_rfl) h
theorem y123:jaf Tryz.prog 123 true (jak y36 y37):=by
 refine jaw (sp:=(sp_156_140 (sp_140 sp0))) (fn:=Tryz.f123) (body:=bodyOf Tryz.f123) mixed (sp_156_140_ok (sp_140_ok jau)) Tryz.func123 (by kernel_rfl) (by kernel_rfl) fun ls t h ho b hb=>?_
 unfold y37 at h
 split at h
 ·rename_i s f0_ f1_
  cases h
  obtain rfl:=jaM hb
  exact⟨Nat.le_of_ble_eq_true (by kernel_rfl),_,_,y122 s f0_ f1_ _ (jap ho)⟩
 ·cases h
theorem sp_123_140_ok {sp:jaa} (h:jac Tryz.prog sp):jac Tryz.prog (sp_123_140 sp):=jas y123 h
def jhP:List SV:=[.a [.d,.x (.st [.s,.i .i64,.ints .i64,.ints .i64,.ints .i64,.i .i64,.recs 5,.i .i64] [])],.c (.r (.ints .i64 [])),.c (.d)]
def y62 (u0:List (List NC)) (u7:List Int) (x0:Int):Option (Int ⊕ Int) :=
 if x0≥0 then
  Option.bind (jc0 u7 x0) fun r0 =>
  if(r0)=true then
  if 0≤x0∧x0<(↑(List.length u0):Int)then
   if Int.toNat x0<List.length u0 then
   some (.inl (nI u0 (Int.toNat x0) (7:Nat)))
   else none
  else none
  else
  some (.inr x0)
 else
  some (.inr x0)
def jk8 (u3:Int):Option Int :=
 some u3
def y81 (u1:ByteArray) (u0:List (List NC)) (u7:List Int) (u26:Int):Option Int :=
 Option.bind (jag (y62 u0 u7) big u26) (jk8)
def jhQ:List Lf→Option GT
 |[.d (.s u1),.x (.st [.s,.i .i64,.ints .i64,.ints .i64,.ints .i64,.i .i64,.recs 5,.i .i64] u0),.r (.ints .i64 u7),.d (.i .i64 u26)]=>some (.leaf (ok (y81 u1 u0 u7 u26)) [.c (.d (.i .i64 ((val (y81 u1 u0 u7 u26)))))])
 |_=>none
abbrev sp_95:jaa→jaa:=jaI 95 true (jak jhP jhQ)
abbrev jk9 (u1:ByteArray) (u0:List (List NC)) (u7:List Int) (u26 r:Int):Lp (Int × Nat) Int Int Int Int :=
 ⟨fun z=>Prod.fst z,fun z=>Prod.snd z,fun z x n=>(x,n),fun z=>y62 u0 u7,fun z=>jk8,fun z=>top r,fun z=>0,[.c fun vv=>vv.1,.c fun _=>0,.c fun _=>u7,.c fun _=>u1,.c fun _=>u0]⟩
def jt4 (u1:ByteArray) (u0:List (List NC)) (u7:List Int) (u26 r:Int):Sk (top r) (y81 u1 u0 u7 u26) :=
 .loop (jk9 u1 u0 u7 u26 r) (fun kk=>(u26,big)) fun z0 =>
 .br
 (.call (.brB
 (.ob (.ob (.next)))
 (.exit (.obT (.rc)))))
 (.exit (.obT (.rc)))
theorem jsv (u1:ByteArray) (u0:List (List NC)) (u7:List Int) (u26 r:Int) (h:Option.bind (y81 u1 u0 u7 u26) some=some r):ja8 Tryz.f95 ((sp_48 sp0)) (fun gs id _=>match id with
 |0=>some ⟨Int × Nat,fun z=>⟨[(1,.w (.c (.o 1))),(2,.w (.c (.d (.i .i64 (Prod.fst z))))),(3,.w (.c (.p 2 0 1 0)))],[(1,.ext (.ints .i64 u7)),(2,.box 24 [.d (.s u1),.o 0]),(0,.xext (XC.st [NK.s,NK.i .i64,NK.ints .i64,NK.ints .i64,NK.ints .i64,NK.i .i64,NK.recs (5:Nat),NK.i .i64] u0))],3⟩,fun z=>(jk9 u1 u0 u7 u26 r).inv z,fun z=>Prod.snd z⟩
 |_=>none) (ja5 jhP [.d (.s u1),.x (.st [.s,.i .i64,.ints .i64,.ints .i64,.ints .i64,.i .i64,.recs 5,.i .i64] u0),.r (.ints .i64 u7),.d (.i .i64 u26)]) [.c (.d (.i .i64 r))] :=
 Sk.vc (jt4 u1 u0 u7 u26 r) (by kernel_rfl) h
theorem jsw:jaf Tryz.prog 95 true (jak jhP jhQ):=by
 refine jaw (sp:=(sp_48 sp0)) (fn:=Tryz.f95) (body:=bodyOf Tryz.f95) mixed (sp_48_ok jau) Tryz.func95 (by kernel_rfl) (by kernel_rfl) fun ls t h ho b hb=>?_
 unfold jhQ at h
 split at h
 ·rename_i u1 u0 u7 u26
  cases h
  obtain rfl:=jaM hb
  exact⟨Nat.le_of_ble_eq_true (by kernel_rfl),_,_,jsv u1 u0 u7 u26 _ (jap ho)⟩
 ·cases h
theorem sp_95_ok {sp:jaa} (h:jac Tryz.prog sp):jac Tryz.prog (sp_95 sp):=jas jsw h
end Go.Sh
end

section
namespace Go.Sh
open Go Go.Proofs Go.RowKit Go.Sx
variable {g:List (List NC)} {l:List Int}
theorem jxC (h:Rg g l) (failed:List Int) (hf:failed.length<1000):∀j,j<g.length→∀N,j+1<N→jag (y62 g failed) N (l.getD j 0)=some (jcF g (jaB failed) (l.getD j 0)):=by
 intro j
 induction j using Nat.strongRecOn with
 |_ j ih =>
  intro hj N hN
  obtain⟨i,hi,e,_⟩:=h.at hj
  obtain⟨M,rfl⟩:∃M,N=M+1:=⟨N-1,by omega⟩
  rw[e,jsu h (jaB failed) hj e hi]
  unfold jag
  have hb:jc0 failed (i:Int)=some (jaB failed i):=jde _ _ (by omega)
  have h0:y62 g failed (i:Int)=if jaB failed i=true then some (.inl (nI g i 7))else some (.inr (i:Int)):=by
   unfold y62
   simp only[Int.toNat_natCast]
   rw[if_pos (by omega),hb,jad]
   by_cases hf:jaB failed i=true
   ·rw[if_pos hf,if_pos hf,if_pos (by omega),if_pos hi]
   ·rw[if_neg hf,if_neg hf]
  rw[h0]
  by_cases hf:jaB failed i=true
  ·rw[if_pos hf,if_pos hf]
   rcases h.stand hj e hi with h1|⟨j',u,h1,h2,h3,h4⟩
   ·rw[if_pos h1,h1]
    obtain⟨K,rfl⟩:∃K,M=K+1:=⟨M-1,by omega⟩
    show jag (y62 g failed) (K+1) (-1)=some (-1)
    unfold jag y62
    rw[if_neg (by omega)]
   ·rw[if_neg (by omega),h3,←h4]
    exact ih j' h1 (by omega) M (by omega)
  ·rw[if_neg hf,if_neg hf]
theorem jy0 (h:Rg g l) (nm:ByteArray) (failed:List Int) (hf:failed.length<1000) {j:Nat} (hj:j<g.length):y81 nm g failed (l.getD j 0)=some (jcF g (jaB failed) (l.getD j 0)):=by
 have hn:=h.n
 unfold y81
 rw[jxC h failed hf j hj big (by have:big=18446744073709551616:=rfl; omega)]
 rfl
theorem jxD (h:Rg g l) (nm:ByteArray) (failed:List Int) (hf:failed.length<1000) {i:Nat} (hi:i<g.length):y81 nm g failed (i:Int)=some (jcF g (jaB failed) (i:Int)):=by
 obtain⟨j,hj,e⟩:=h.surj hi
 rw[←e]
 exact jy0 h nm failed hf hj
theorem jsx (h:Rg g l) (nm:ByteArray) (failed:List Bool) (hf:failed.length=g.length):y8 nm g l failed=some (jfJ g fun i=>failed.getD i false):=by
 have hn:=h.n
 have hL:=h.len
 unfold y8
 rw[if_pos (by omega),Int.toNat_natCast]
 have key:∃y,jag (y11 g l failed) big (0,List.replicate g.length 0)=some y∧y=jfJ g fun i=>failed.getD i false:=by
  refine jpU (body:=y11 g l failed)
   (fun x=>∃k:Nat,k≤g.length∧x.1=(k:Int)∧x.2.length=g.length∧∀j,j<k→x.2.getD (l.getD j 0).toNat 0=jcF g (fun i=>failed.getD i false) (l.getD j 0))
   (fun x=>(g.length+1-x.1.toNat)) (fun y=>y=jfJ g fun i=>failed.getD i false) (fun x hx=>?_) big (0,List.replicate g.length 0) ⟨0,by omega,rfl,by simp,fun j hj=>absurd hj (by omega)⟩ (by have:big=18446744073709551616:=rfl; simp; omega)
  obtain⟨a,out⟩:=x
  obtain⟨k,hk,h1,h2,h3⟩:=hx
  obtain rfl:a=(k:Int):=h1
  have h2:out.length=g.length:=h2
  by_cases hkn:k<g.length
  ·obtain⟨i,hi,e,_⟩:=h.at hkn
   have hs:=jsu h (fun i=>failed.getD i false) hkn e hi
   have hnew:∀v:Int,v=jcF g (fun i=>failed.getD i false) (i:Int)→∀j,j<k+1→(out.set i v).getD (l.getD j 0).toNat 0=jcF g (fun i=>failed.getD i false) (l.getD j 0):=by
    intro v hv j hj
    rw[jbB _ _ _ _ _ (by omega)]
    by_cases hjk:j=k
    ·subst hjk
     rw[e,Int.toNat_natCast,if_pos rfl,hv]
    ·obtain⟨i',_,e',_⟩:=h.at (j:=j) (by omega)
     have:=jk6 h hkn (j':=j) (by omega) e e'
     rw[e',Int.toNat_natCast,if_neg this]
     have:=h3 j (by omega)
     rw[e',Int.toNat_natCast]at this
     exact this
   left
   have hb:y11 g l failed ((k:Int),out)=some (.inl ((k:Int)+1,out.set i (jcF g (fun i=>failed.getD i false) (i:Int)))):=by
    unfold y11
    simp only[Int.toNat_natCast,e]
    rw[if_pos (by omega),if_pos (by omega),if_pos (by omega),if_pos (by omega),if_pos hi,if_pos (by omega),if_pos (by omega),jaO (by omega),hs]
    cases hfi:failed.getD i false with
    |false=>rw[if_pos (by simp),if_pos (by omega),if_pos (by omega),if_neg (by simp)]
    |true =>
     rw[if_neg (by simp),if_pos rfl]
     rcases h.stand hkn e hi with h5|⟨j',u,h5,h6,h7,h8⟩
     ·rw[if_pos (by rw[h5]; rfl),if_pos (by omega),if_pos (by omega),if_pos h5]
     ·have hu:=h3 j' (by omega)
      rw[h8,Int.toNat_natCast]at hu
      rw[if_neg (by rw[h7]; simp),h7,if_pos (by omega),Int.toNat_natCast,if_pos (by omega),if_pos (by omega),if_pos (by omega),if_neg (by omega),hu]
   refine⟨_,hb,⟨k+1,by omega,by simp,by simp[h2],hnew _ rfl⟩,by simp; omega⟩
  ·right
   refine⟨out,?_,?_⟩
   ·unfold y11
    rw[if_neg (by show ¬(k:Int)<_; omega)]
   ·refine List.ext_getElem (by rw[h2,juK]) fun i h5 h6=>?_
    have hi:i<g.length:=by omega
    obtain⟨j,hj,e⟩:=h.surj hi
    have h7:=h3 j (by omega)
    rw[e,Int.toNat_natCast]at h7
    have h8:=juL g (fun i=>failed.getD i false) hi
    rw[←jp6 0 h5,←jp6 0 h6,h7,h8]
 obtain⟨y,hy,hp⟩:=key
 rw[hy,hp]
 rfl
end Go.Sh
end

section
namespace Go.Sh
open Go Go.Proofs Go.RowKit Go.Sx
abbrev sp_123b:jaa→jaa:=sp_123_140
theorem sp_123b_ok {sp:jaa} (h:jac Tryz.prog sp):jac Tryz.prog (sp_123b sp):=sp_123_140_ok h
end Go.Sh
end

section
namespace Go.Sh
open Go Go.Proofs Go.RowKit Go.Sx
open Go.IntKind (wrap)
def jfK:List SV:=[.c (.p [.d,.x (.st [.s,.i .i64,.ints .i64,.ints .i64,.ints .i64,.i .i64,.recs 5,.i .i64] []),.r (.ints .i64 [])]),.c (.r (.bools []))]
def y43 (u27:List (List NC)) (u28:List Int) (u7:List Bool) (r0:List Int) (x0:(Int × List Bool)):Option ((Int × List Bool) ⊕ (List Bool)) :=
 if x0.1<(↑(List.length u28):Int)then
  if 0≤x0.1∧x0.1<(↑(List.length u28):Int)then
  if Int.toNat x0.1<List.length u28 then
   if 0≤List.getD u28 (Int.toNat x0.1) (0:Int)∧List.getD u28 (Int.toNat x0.1) 0<(↑(List.length u27):Int)then
   if Int.toNat (List.getD u28 (Int.toNat x0.1) (0:Int))<List.length u27 then
    if 0≤List.getD u28 (Int.toNat x0.1) (0:Int)∧List.getD u28 (Int.toNat x0.1) 0<(↑(List.length u7):Int)then
    if Int.toNat (List.getD u28 (Int.toNat x0.1) (0:Int))<List.length u7 then
     if(!List.getD u7 (Int.toNat (List.getD u28 (Int.toNat x0.1) (0:Int))) false)=true then
     if(nI u27 (Int.toNat (List.getD u28 (Int.toNat x0.1) (0:Int))) (1:Nat)==0)=true then
      if 0≤List.getD u28 (Int.toNat x0.1) (0:Int)∧List.getD u28 (Int.toNat x0.1) 0<(↑(List.length x0.2):Int)then
      if Int.toNat (List.getD u28 (Int.toNat x0.1) (0:Int))<List.length x0.2 then
       some (.inl ((wrap .i64 (x0.1+1),List.set x0.2 (Int.toNat (List.getD u28 (Int.toNat x0.1) (0:Int))) true)))
      else none
      else none
     else
      Option.bind (y7 (nL u27 (Int.toNat (List.getD u28 (Int.toNat x0.1) (0:Int))) (2:Nat)) r0 x0.2) fun r1 =>
      if 0≤List.getD u28 (Int.toNat x0.1) (0:Int)∧List.getD u28 (Int.toNat x0.1) 0<(↑(List.length x0.2):Int)then
      if Int.toNat (List.getD u28 (Int.toNat x0.1) (0:Int))<List.length x0.2 then
       some (.inl ((wrap .i64 (x0.1+1),List.set x0.2 (Int.toNat (List.getD u28 (Int.toNat x0.1) (0:Int))) r1)))
      else none
      else none
     else
     if 0≤List.getD u28 (Int.toNat x0.1) (0:Int)∧List.getD u28 (Int.toNat x0.1) 0<(↑(List.length x0.2):Int)then
      if Int.toNat (List.getD u28 (Int.toNat x0.1) (0:Int))<List.length x0.2 then
      some (.inl ((wrap .i64 (x0.1+1),List.set x0.2 (Int.toNat (List.getD u28 (Int.toNat x0.1) (0:Int))) false)))
      else none
     else none
    else none
    else none
   else none
   else none
  else none
  else none
 else
  some (.inr x0.2)
def jeW (u3:List Bool):Option (List Bool) :=
 some u3
def y5 (u38:ByteArray) (u27:List (List NC)) (u28:List Int) (u7:List Bool):Option (List Bool) :=
 Option.bind (y8 u38 u27 u28 u7) fun r0 =>
 if 0≤(↑(List.length u27):Int)∧(↑(List.length u27):Int)=(↑(List.length u27):Int)∧(↑(1:Nat):Int)*(↑(List.length u27):Int)≤281474976710656∧(↑(List.length u27):Int)≤9223372036854775807 then
  Option.bind (jag (y43 u27 u28 u7 r0) big (((0:Int),List.replicate (Int.toNat (↑(List.length u27):Int)) false))) (jeW)
 else none
def jfL:List Lf→Option GT
 |[.d (.s u38),.x (.st [.s,.i .i64,.ints .i64,.ints .i64,.ints .i64,.i .i64,.recs 5,.i .i64] u27),.r (.ints .i64 u28),.r (.bools u7)]=>some (.leaf (ok (y5 u38 u27 u28 u7)) [.c (.row 4 (.bools ((val (y5 u38 u27 u28 u7)))))])
 |_=>none
abbrev sp_96:jaa→jaa:=jaI 96 true (jak jfK jfL)
abbrev jir (u38:ByteArray) (u27:List (List NC)) (u28:List Int) (u7 r:List Bool):Lp ((Int × List Bool) × Nat) (Int × List Bool) (List Bool) (List Bool) (List Bool) :=
 ⟨fun z=>Prod.fst z,fun z=>Prod.snd z,fun z x n=>(x,n),fun z=>y43 u27 u28 u7 (val (y8 u38 u27 u28 u7)),fun z=>jeW,fun z=>top r,fun z=>0,[.c fun _=>0,.c fun _=>0,.c fun _=>0,.c fun _=>(↑(List.length u28):Int),.c fun vv=>vv.1.1,.c fun _=>u38,.c fun _=>u7,.c fun _=>u28,.c fun _=>u27,.c fun _=>val (y8 u38 u27 u28 u7),.c fun vv=>vv.1.2]⟩
def jpt (u38:ByteArray) (u27:List (List NC)) (u28:List Int) (u7 r:List Bool):Sk (top r) (Option.bind (jag (y43 u27 u28 u7 (val (y8 u38 u27 u28 u7))) big (((0:Int),List.replicate (Int.toNat (↑(List.length u27):Int)) false))) (jeW)) :=
 .loop (jir u38 u27 u28 u7 r) (fun kk=>(((0:Int),List.replicate (Int.toNat (↑(List.length u27):Int)) false),big)) fun z0 =>
 .br
 (.ob (.ob (.obT (.ob (.ob (.ob (.ob (.brB
 (.brB
 (.ob (.ob (.next)))
 (.call (.ob (.ob (.next)))))
 (.ob (.ob (.next)))))))))))
 (.exit (.obT (.rc)))
def jqO (u38:ByteArray) (u27:List (List NC)) (u28:List Int) (u7 r:List Bool):Sk (top r) (y5 u38 u27 u28 u7) :=
 .call (.obT (.ob (.obT (jpt u38 u27 u28 u7 r))))
theorem jpu (u38:ByteArray) (u27:List (List NC)) (u28:List Int) (u7 r:List Bool) (h:Option.bind (y5 u38 u27 u28 u7) some=some r):ja8 Tryz.f96 ((sp_93 (sp_140 (sp_123b sp0)))) (fun gs id _=>match id with
 |0=>some ⟨(Int × List Bool) × Nat,fun z=>⟨[(0,.w (.c (.p 2 0 1 0))),(1,.w (.c (.o 3))),(5,.w (.c (.p 4 0 1 0))),(6,.w (.c (.p 5 0 1 0))),(23,.w (.c (.o 1))),(24,.w (.c (.d (.i .i64 ((↑(List.length u28):Int)))))),(25,.w (.c (.d (.i .i64 (Prod.fst (Prod.fst z))))))],[(2,.ebox [.d (.s u38),.o 0,.o 1]),(3,.ext (.bools u7)),(4,.box 31 [.o 6]),(5,.box 133 [.o 7]),(1,.ext (.ints .i64 u28)),(0,.xext (XC.st [NK.s,NK.i .i64,NK.ints .i64,NK.ints .i64,NK.ints .i64,NK.i .i64,NK.recs (5:Nat),NK.i .i64] u27)),(6,.row 3 (.ints .i64 (val (y8 u38 u27 u28 u7)))),(7,.row 4 (.bools (Prod.snd (Prod.fst z))))],8⟩,fun z=>(jir u38 u27 u28 u7 r).inv z,fun z=>Prod.snd z⟩
 |_=>none) (ja5 jfK [.d (.s u38),.x (.st [.s,.i .i64,.ints .i64,.ints .i64,.ints .i64,.i .i64,.recs 5,.i .i64] u27),.r (.ints .i64 u28),.r (.bools u7)]) [.c (.row 4 (.bools r))] :=
 Sk.vc (jqO u38 u27 u28 u7 r) (by kernel_rfl) h
theorem jpv:jaf Tryz.prog 96 true (jak jfK jfL):=by
 refine jaw (sp:=(sp_93 (sp_140 (sp_123b sp0)))) (fn:=Tryz.f96) (body:=bodyOf Tryz.f96) mixed (sp_93_ok (sp_140_ok (sp_123b_ok jau))) Tryz.func96 (by kernel_rfl) (by kernel_rfl) fun ls t h ho b hb=>?_
 unfold jfL at h
 split at h
 ·rename_i u38 u27 u28 u7
  cases h
  obtain rfl:=jaM hb
  exact⟨Nat.le_of_ble_eq_true (by kernel_rfl),_,_,jpu u38 u27 u28 u7 _ (jap ho)⟩
 ·cases h
theorem sp_96_ok {sp:jaa} (h:jac Tryz.prog sp):jac Tryz.prog (sp_96 sp):=jas jpv h
def jla:List SV:=[.a [.d,.x (.st [.s,.i .i64,.ints .i64,.ints .i64,.ints .i64,.i .i64,.recs 5,.i .i64] [])],.c (.r (.ints .i64 []))]
def y63 (u1:ByteArray) (u0:List (List NC)) (u7:List Int) (x0:Int × List Bool) (r0:List Int × Bool) (x1:(Int × List Bool)):Option ((Int × List Bool) ⊕ (List Bool)) :=
 if x1.1<(↑(List.length (nL u0 (Int.toNat (List.getD r0.1 (Int.toNat x0.1) (0:Int))) (2:Nat))):Int)then
  if 0≤x1.1∧x1.1<(↑(List.length (nL u0 (Int.toNat (List.getD r0.1 (Int.toNat x0.1) (0:Int))) (2:Nat))):Int)then
  if Int.toNat x1.1<List.length (nL u0 (Int.toNat (List.getD r0.1 (Int.toNat x0.1) (0:Int))) (2:Nat))then
   Option.bind (y81 u1 u0 u7 (List.getD (nL u0 (Int.toNat (List.getD r0.1 (Int.toNat x0.1) (0:Int))) (2:Nat)) (Int.toNat x1.1) (0:Int))) fun r2 =>
   if r2≥0 then
   if 0≤r2∧r2<(↑(List.length x1.2):Int)then
    if Int.toNat r2<List.length x1.2 then
    if(List.getD x1.2 (Int.toNat r2) false)=true then
     if 0≤List.getD r0.1 (Int.toNat x0.1) (0:Int)∧List.getD r0.1 (Int.toNat x0.1) 0<(↑(List.length x1.2):Int)then
     if Int.toNat (List.getD r0.1 (Int.toNat x0.1) (0:Int))<List.length x1.2 then
      some (.inl ((wrap .i64 (x1.1+1),List.set x1.2 (Int.toNat (List.getD r0.1 (Int.toNat x0.1) (0:Int))) true)))
     else none
     else none
    else
     some (.inl ((wrap .i64 (x1.1+1),x1.2)))
    else none
   else none
   else
   some (.inl ((wrap .i64 (x1.1+1),x1.2)))
  else none
  else none
 else
  some (.inr x1.2)
def jer (x0:Int × List Bool) (u29:List Bool):Option ((Int × List Bool) ⊕ (List Bool)) :=
 some (.inl ((wrap .i64 (x0.1+1),u29)))
def y84 (u1:ByteArray) (u0:List (List NC)) (u7:List Int) (r0:List Int × Bool) (x0:(Int × List Bool)):Option ((Int × List Bool) ⊕ (List Bool)) :=
 if x0.1<(↑(List.length r0.1):Int)then
  if 0≤x0.1∧x0.1<(↑(List.length r0.1):Int)then
  if Int.toNat x0.1<List.length r0.1 then
   if 0≤List.getD r0.1 (Int.toNat x0.1) (0:Int)∧List.getD r0.1 (Int.toNat x0.1) 0<(↑(List.length u0):Int)then
   if Int.toNat (List.getD r0.1 (Int.toNat x0.1) (0:Int))<List.length u0 then
    Option.bind (jc0 u7 (List.getD r0.1 (Int.toNat x0.1) (0:Int))) fun r1 =>
    if(r1)=true then
    some (.inl ((wrap .i64 (x0.1+1),x0.2)))
    else
    if(nI u0 (Int.toNat (List.getD r0.1 (Int.toNat x0.1) (0:Int))) (1:Nat)==0)=true then
     if 0≤List.getD r0.1 (Int.toNat x0.1) (0:Int)∧List.getD r0.1 (Int.toNat x0.1) 0<(↑(List.length x0.2):Int)then
     if Int.toNat (List.getD r0.1 (Int.toNat x0.1) (0:Int))<List.length x0.2 then
      Option.bind (jag (y63 u1 u0 u7 x0 r0) big (((0:Int),List.set x0.2 (Int.toNat (List.getD r0.1 (Int.toNat x0.1) (0:Int))) true))) (jer x0)
     else none
     else none
    else
     Option.bind (jag (y63 u1 u0 u7 x0 r0) big (((0:Int),x0.2))) (jer x0)
   else none
   else none
  else none
  else none
 else
  some (.inr x0.2)
def jjp (u3:List Bool):Option (List Bool) :=
 some u3
def y20 (u1:ByteArray) (u0:List (List NC)) (u7:List Int):Option (List Bool) :=
 Option.bind (y1 u1 u0) fun r0 =>
 if 0≤(↑(List.length u0):Int)∧(↑(List.length u0):Int)=(↑(List.length u0):Int)∧(↑(1:Nat):Int)*(↑(List.length u0):Int)≤281474976710656∧(↑(List.length u0):Int)≤9223372036854775807 then
  Option.bind (jag (y84 u1 u0 u7 r0) big (((0:Int),List.replicate (Int.toNat (↑(List.length u0):Int)) false))) (jjp)
 else none
def jlb:List Lf→Option GT
 |[.d (.s u1),.x (.st [.s,.i .i64,.ints .i64,.ints .i64,.ints .i64,.i .i64,.recs 5,.i .i64] u0),.r (.ints .i64 u7)]=>some (.leaf (ok (y20 u1 u0 u7)) [.c (.row 4 (.bools ((val (y20 u1 u0 u7)))))])
 |_=>none
abbrev sp_97:jaa→jaa:=jaI 97 true (jak jla jlb)
abbrev jjq (u1:ByteArray) (u0:List (List NC)) (u7:List Int) (r:List Bool):Lp ((Int × List Bool) × Nat) (Int × List Bool) (List Bool) (List Bool) (List Bool) :=
 ⟨fun z=>Prod.fst z,fun z=>Prod.snd z,fun z x n=>(x,n),fun z=>y84 u1 u0 u7 (val (y1 u1 u0)),fun z=>jjp,fun z=>top r,fun z=>0,[.c fun _=>0,.c fun vv=>vv.1.1,.c fun _=>u7,.c fun _=>u1,.c fun _=>(val (y1 u1 u0)).1,.c fun vv=>vv.1.2,.c fun _=>u0]⟩
abbrev jjr (u1:ByteArray) (u0:List (List NC)) (u7:List Int) (r:List Bool) (m1:Nat):Lp ((Int × List Bool) × Nat × (Int × List Bool) × Nat) (Int × List Bool) (List Bool) (((Int × List Bool) ⊕ (List Bool))) (List Bool) :=
 ⟨fun z=>Prod.fst (Prod.snd (Prod.snd z)),fun z=>Prod.snd (Prod.snd (Prod.snd z)),fun z x n=>(Prod.fst z,Prod.fst (Prod.snd z),x,n),fun z=>y63 u1 u0 u7 (Prod.fst z) (val (y1 u1 u0)),fun z=>jer (Prod.fst z),fun z=>(jjq u1 u0 u7 r).cx (Prod.fst z,m1),fun z=>Prod.fst (Prod.snd z),[.c fun _=>0,.c fun vv=>vv.1.1,.c fun vv=>List.getD (val (y1 u1 u0)).1 (Int.toNat vv.1.1) (0:Int),.c fun _=>0,.c fun vv=>vv.2.2.1.1,.c fun _=>u7,.c fun _=>u1,.c fun _=>(val (y1 u1 u0)).1,.c fun vv=>vv.2.2.1.2,.c fun vv=>nS u0 (Int.toNat (List.getD (val (y1 u1 u0)).1 (Int.toNat vv.1.1) (0:Int))) (0:Nat),.c fun vv=>nI u0 (Int.toNat (List.getD (val (y1 u1 u0)).1 (Int.toNat vv.1.1) (0:Int))) (1:Nat),.c fun vv=>nI u0 (Int.toNat (List.getD (val (y1 u1 u0)).1 (Int.toNat vv.1.1) (0:Int))) (5:Nat),.c fun vv=>nI u0 (Int.toNat (List.getD (val (y1 u1 u0)).1 (Int.toNat vv.1.1) (0:Int))) (7:Nat),.c fun _=>u0,.c fun vv=>nL u0 (Int.toNat (List.getD (val (y1 u1 u0)).1 (Int.toNat vv.1.1) (0:Int))) (2:Nat),.c fun vv=>nL u0 (Int.toNat (List.getD (val (y1 u1 u0)).1 (Int.toNat vv.1.1) (0:Int))) (3:Nat),.c fun vv=>nL u0 (Int.toNat (List.getD (val (y1 u1 u0)).1 (Int.toNat vv.1.1) (0:Int))) (4:Nat),.c fun vv=>nR u0 (Int.toNat (List.getD (val (y1 u1 u0)).1 (Int.toNat vv.1.1) (0:Int))) (6:Nat)]⟩
def jv4 (u1:ByteArray) (u0:List (List NC)) (u7:List Int) (r:List Bool):Sk (top r) (Option.bind (jag (y84 u1 u0 u7 (val (y1 u1 u0))) big (((0:Int),List.replicate (Int.toNat (↑(List.length u0):Int)) false))) (jjp)) :=
 .loop (jjq u1 u0 u7 r) (fun kk=>(((0:Int),List.replicate (Int.toNat (↑(List.length u0):Int)) false),big)) fun z0 =>
 .br
 (.ob (.ob (.ob (.ob (.call (.brB
 (.next)
 (.brB
 (.ob (.ob (.loop (jjr u1 u0 u7 r (Prod.snd z0)) (fun kk=>(Prod.fst z0,kk,((0:Int),List.set (Prod.fst z0).2 (Int.toNat (List.getD (val (y1 u1 u0)).1 (Int.toNat (Prod.fst z0).1) (0:Int))) true),big)) fun z1 =>
 .br
 (.ob (.ob (.call (.br
 (.ob (.ob (.brB
 (.ob (.ob (.next)))
 (.next))))
 (.next)))))
 (.exit (.next)))))
 (.loop (jjr u1 u0 u7 r (Prod.snd z0)) (fun kk=>(Prod.fst z0,kk,((0:Int),(Prod.fst z0).2),big)) fun z1 =>
 .br
 (.ob (.ob (.call (.br
 (.ob (.ob (.brB
 (.ob (.ob (.next)))
 (.next))))
 (.next)))))
 (.exit (.next))))))))))
 (.exit (.obT (.rc)))
def jxE (u1:ByteArray) (u0:List (List NC)) (u7:List Int) (r:List Bool):Sk (top r) (y20 u1 u0 u7) :=
 .call (.ob (jv4 u1 u0 u7 r))
theorem jv5 (u1:ByteArray) (u0:List (List NC)) (u7:List Int) (r:List Bool) (h:Option.bind (y20 u1 u0 u7) some=some r):ja8 Tryz.f97 ((sp_23 (sp_48 (sp_95 sp0)))) (fun gs id _=>match id with
 |0=>some ⟨(Int × List Bool) × Nat,fun z=>⟨[(1,.w (.c (.o 1))),(2,.w (.c (.p 2 0 1 0))),(5,.w (.c (.o 3))),(7,.w (.c (.o 4))),(8,.w (.c (.d (.i .i64 (Prod.fst (Prod.fst z))))))],[(1,.ext (.ints .i64 u7)),(2,.box 24 [.d (.s u1),.o 0]),(3,.row 3 (.ints .i64 ((val (y1 u1 u0)).1))),(4,.row 4 (.bools (Prod.snd (Prod.fst z)))),(0,.xext (XC.st [NK.s,NK.i .i64,NK.ints .i64,NK.ints .i64,NK.ints .i64,NK.i .i64,NK.recs (5:Nat),NK.i .i64] u0))],5⟩,fun z=>(jjq u1 u0 u7 r).inv z,fun z=>Prod.snd z⟩
 |2=>some ⟨(Int × List Bool) × Nat × (Int × List Bool) × Nat,fun z=>⟨[(1,.w (.c (.o 1))),(2,.w (.c (.p 2 0 1 0))),(5,.w (.c (.o 3))),(7,.w (.c (.o 4))),(8,.w (.c (.d (.i .i64 ((Prod.fst z).1))))),(9,.w (.c (.d (.i .i64 (List.getD (val (y1 u1 u0)).1 (Int.toNat (Prod.fst z).1) (0:Int)))))),(10,.w (.c (.p 5 0 1 0))),(11,.w (.c (.d (.i .i64 (Prod.fst (Prod.fst (Prod.snd (Prod.snd z))))))))],[(1,.ext (.ints .i64 u7)),(2,.box 24 [.d (.s u1),.o 0]),(3,.row 3 (.ints .i64 ((val (y1 u1 u0)).1))),(4,.row 4 (.bools (Prod.snd (Prod.fst (Prod.snd (Prod.snd z)))))),(5,.box 118 [.d (.s (nS u0 (Int.toNat (List.getD (val (y1 u1 u0)).1 (Int.toNat (Prod.fst z).1) (0:Int))) (0:Nat))),.d (.i .i64 (nI u0 (Int.toNat (List.getD (val (y1 u1 u0)).1 (Int.toNat (Prod.fst z).1) (0:Int))) (1:Nat))),.o 6,.o 7,.o 8,.d (.i .i64 (nI u0 (Int.toNat (List.getD (val (y1 u1 u0)).1 (Int.toNat (Prod.fst z).1) (0:Int))) (5:Nat))),.o 9,.d (.i .i64 (nI u0 (Int.toNat (List.getD (val (y1 u1 u0)).1 (Int.toNat (Prod.fst z).1) (0:Int))) (7:Nat)))]),(0,.xext (XC.st [NK.s,NK.i .i64,NK.ints .i64,NK.ints .i64,NK.ints .i64,NK.i .i64,NK.recs (5:Nat),NK.i .i64] u0)),(6,.ext (.ints .i64 (nL u0 (Int.toNat (List.getD (val (y1 u1 u0)).1 (Int.toNat (Prod.fst z).1) (0:Int))) (2:Nat)))),(7,.ext (.ints .i64 (nL u0 (Int.toNat (List.getD (val (y1 u1 u0)).1 (Int.toNat (Prod.fst z).1) (0:Int))) (3:Nat)))),(8,.ext (.ints .i64 (nL u0 (Int.toNat (List.getD (val (y1 u1 u0)).1 (Int.toNat (Prod.fst z).1) (0:Int))) (4:Nat)))),(9,.ext (.recs 5 (nR u0 (Int.toNat (List.getD (val (y1 u1 u0)).1 (Int.toNat (Prod.fst z).1) (0:Int))) (6:Nat))))],10⟩,fun z=>(jjr u1 u0 u7 r (gs.getD 0 0)).inv z,fun z=>Prod.snd (Prod.snd (Prod.snd z))⟩
 |_=>none) (ja5 jla [.d (.s u1),.x (.st [.s,.i .i64,.ints .i64,.ints .i64,.ints .i64,.i .i64,.recs 5,.i .i64] u0),.r (.ints .i64 u7)]) [.c (.row 4 (.bools r))] :=
 Sk.vc (jxE u1 u0 u7 r) (by kernel_rfl) h
theorem jv6:jaf Tryz.prog 97 true (jak jla jlb):=by
 refine jaw (sp:=(sp_23 (sp_48 (sp_95 sp0)))) (fn:=Tryz.f97) (body:=bodyOf Tryz.f97) mixed (sp_23_ok (sp_48_ok (sp_95_ok jau))) Tryz.func97 (by kernel_rfl) (by kernel_rfl) fun ls t h ho b hb=>?_
 unfold jlb at h
 split at h
 ·rename_i u1 u0 u7
  cases h
  obtain rfl:=jaM hb
  exact⟨Nat.le_of_ble_eq_true (by kernel_rfl),_,_,jv5 u1 u0 u7 _ (jap ho)⟩
 ·cases h
theorem sp_97_ok {sp:jaa} (h:jac Tryz.prog sp):jac Tryz.prog (sp_97 sp):=jas jv6 h
def jm6:List SV:=[.a [.d,.x (.st [.s,.i .i64,.ints .i64,.ints .i64,.ints .i64,.i .i64,.recs 5,.i .i64] [])]]
def jd8 (u0:List (List NC)) (x0:Int × List Int) (r2 r3:List Bool) (x1:Int):Option (Int ⊕ (List Int)) :=
 if x1<(↑(List.length u0):Int)then
  if 0≤x1∧x1<(↑(List.length u0):Int)then
  if Int.toNat x1<List.length u0 then
   if(nI u0 (Int.toNat x1) (1:Nat)==4)=true then
   if(x1 != x0.1)=true then
    if 0≤x1∧x1<(↑(List.length r2):Int)then
    if Int.toNat x1<List.length r2 then
     if(List.getD r2 (Int.toNat x1) false)=true then
     if 0≤x1∧x1<(↑(List.length r3):Int)then
      if Int.toNat x1<List.length r3 then
      if(!List.getD r3 (Int.toNat x1) false)=true then
       if(List.length x0.2+List.length [x0.1])*8≤140737488355328∧List.length x0.2+List.length [x0.1]≤9223372036854775807 then
       some (.inr (x0.2++[x0.1]))
       else none
      else
       some (.inl (wrap .i64 (x1+1)))
      else none
     else none
     else
     some (.inl (wrap .i64 (x1+1)))
    else none
    else none
   else
    some (.inl (wrap .i64 (x1+1)))
   else
   some (.inl (wrap .i64 (x1+1)))
  else none
  else none
 else
  some (.inr x0.2)
def jlc (x0:Int × List Int) (u29:List Int):Option ((Int × List Int) ⊕ (List Int)) :=
 some (.inl ((wrap .i64 (x0.1+1),u29)))
def jdh (u1:ByteArray) (u0:List (List NC)) (r1:List Int) (r2:List Bool) (x0:(Int × List Int)):Option ((Int × List Int) ⊕ (List Int)) :=
 if x0.1<(↑(List.length u0):Int)then
  if 0≤(↑(List.length u0):Int)∧(↑(List.length u0):Int)=(↑(List.length u0):Int)∧(↑(1:Nat):Int)*(↑(List.length u0):Int)≤281474976710656∧(↑(List.length u0):Int)≤9223372036854775807 then
  if 0≤x0.1∧x0.1<(↑(List.length (List.replicate (Int.toNat (↑(List.length u0):Int)) false)):Int)then
   if Int.toNat x0.1<List.length (List.replicate (Int.toNat (↑(List.length u0):Int)) false)then
   Option.bind (y5 u1 u0 r1 (List.set (List.replicate (Int.toNat (↑(List.length u0):Int)) false) (Int.toNat x0.1) true)) fun r3 =>
   Option.bind (jag (jd8 u0 x0 r2 r3) big (0:Int)) (jlc x0)
   else none
  else none
  else none
 else
  some (.inr x0.2)
def jld (u3:List Int):Option (List Int × Int) :=
 some ((u3,0))
def jdx (u1:ByteArray) (u0:List (List NC)):Option (List Int × Int) :=
 if(jop u1 u0)=true then
  Option.bind (jfc u1 u0) fun r0 =>
  some ([],nzI r0)
 else
  Option.bind (jbb u1 u0) fun r1 =>
  if 0≤(↑(List.length u0):Int)∧(↑(List.length u0):Int)=(↑(List.length u0):Int)∧(↑(1:Nat):Int)*(↑(List.length u0):Int)≤281474976710656∧(↑(List.length u0):Int)≤9223372036854775807 then
  Option.bind (y5 u1 u0 r1 (List.replicate (Int.toNat (↑(List.length u0):Int)) false)) fun r2 =>
  Option.bind (jag (jdh u1 u0 r1 r2) big (((0:Int),[]))) (jld)
  else none
def jm7:List Lf→Option GT
 |[.d (.s u1),.x (.st [.s,.i .i64,.ints .i64,.ints .i64,.ints .i64,.i .i64,.recs 5,.i .i64] u0)]=>some (.leaf (ok (jdx u1 u0)) [.c (.row 3 (.ints .i64 ((val (jdx u1 u0)).1))),.c (.d (.i .i64 ((val (jdx u1 u0)).2)))])
 |_=>none
abbrev sp_49:jaa→jaa:=jaI 49 true (jak jm6 jm7)
abbrev jle (u1:ByteArray) (u0:List (List NC)) (r:List Int × Int):Lp ((Int × List Int) × Nat) (Int × List Int) (List Int) (List Int × Int) (List Int × Int) :=
 ⟨fun z=>Prod.fst z,fun z=>Prod.snd z,fun z x n=>(x,n),fun z=>jdh u1 u0 (val (jbb u1 u0)) (val (y5 u1 u0 (val (jbb u1 u0)) (List.replicate (Int.toNat (↑(List.length u0):Int)) false))),fun z=>jld,fun z=>top r,fun z=>0,[.c fun _=>0,.c fun _=>0,.c fun _=>(↑(List.length u0):Int),.c fun vv=>vv.1.1,.c fun _=>u1,.c fun _=>u1,.c fun _=>val (y5 u1 u0 (val (jbb u1 u0)) (List.replicate (Int.toNat (↑(List.length u0):Int)) false)),.c fun vv=>vv.1.2,.c fun _=>u0,.c fun _=>val (jbb u1 u0)]⟩
abbrev jp7 (u1:ByteArray) (u0:List (List NC)) (r:List Int × Int) (m1:Nat):Lp ((Int × List Int) × Nat × Int × Nat) Int (List Int) (((Int × List Int) ⊕ (List Int))) (List Int × Int) :=
 ⟨fun z=>Prod.fst (Prod.snd (Prod.snd z)),fun z=>Prod.snd (Prod.snd (Prod.snd z)),fun z x n=>(Prod.fst z,Prod.fst (Prod.snd z),x,n),fun z=>jd8 u0 (Prod.fst z) (val (y5 u1 u0 (val (jbb u1 u0)) (List.replicate (Int.toNat (↑(List.length u0):Int)) false))) (val (y5 u1 u0 (val (jbb u1 u0)) (List.set (List.replicate (Int.toNat (↑(List.length u0):Int)) false) (Int.toNat (Prod.fst z).1) true))),fun z=>jlc (Prod.fst z),fun z=>(jle u1 u0 r).cx (Prod.fst z,m1),fun z=>Prod.fst (Prod.snd z),[.c fun _=>0,.c fun _=>0,.c fun vv=>vv.1.1,.c fun _=>(↑(List.length u0):Int),.c fun vv=>vv.1.1,.c fun _=>(↑(List.length u0):Int),.c fun vv=>vv.2.2.1,.c fun _=>u1,.c fun _=>u1,.c fun _=>val (y5 u1 u0 (val (jbb u1 u0)) (List.replicate (Int.toNat (↑(List.length u0):Int)) false)),.c fun vv=>vv.1.2,.c fun vv=>val (y5 u1 u0 (val (jbb u1 u0)) (List.set (List.replicate (Int.toNat (↑(List.length u0):Int)) false) (Int.toNat vv.1.1) true)),.c fun _=>u0,.c fun _=>val (jbb u1 u0)]⟩
def jxF (u1:ByteArray) (u0:List (List NC)) (r:List Int × Int):Sk (top r) (Option.bind (jag (jdh u1 u0 (val (jbb u1 u0)) (val (y5 u1 u0 (val (jbb u1 u0)) (List.replicate (Int.toNat (↑(List.length u0):Int)) false)))) big (((0:Int),[]))) (jld)) :=
 .loopQ (jle u1 u0 r) [.c fun _=>0,.c fun _=>0,.c fun _=>(↑(List.length u0):Int),.c fun vv=>vv.1.1,.c fun _=>u1,.c fun _=>u1,.c fun _=>val (y5 u1 u0 (val (jbb u1 u0)) (List.replicate (Int.toNat (↑(List.length u0):Int)) false)),.p fun vv=>List.length vv.1.2=(0:Nat),.c fun _=>u0,.c fun _=>val (jbb u1 u0)] (fun kk=>(((0:Int),[]),big)) (fun z0 =>
 .br
 (.ob (.ob (.ob (.call (.loop (jp7 u1 u0 r (Prod.snd z0)) (fun kk=>(Prod.fst z0,kk,0,big)) fun z1 =>
 .br
 (.ob (.ob (.brB
 (.brB
 (.ob (.ob (.brB
 (.ob (.ob (.brB
 (.ob (.exit (.next)))
 (.next))))
 (.next))))
 (.next))
 (.next))))
 (.exit (.next)))))))
 (.exit (.obT (.obT (.rc))))) (fun _=>⟨rfl,trivial⟩)
def jy1 (u1:ByteArray) (u0:List (List NC)) (r:List Int × Int):Sk (top r) (jdx u1 u0) :=
 .brB
 (.call (.obT (.obT (.ret (fun r=>(Ob (List.length r.1=(0:Nat)) ∧
 (Ob (nzI (val (jfc u1 u0))=r.2) ∧
 True))) ⟨⟨rfl⟩,⟨⟨rfl⟩,trivial⟩⟩))))
 (.call (.ob (.call (jxF u1 u0 r))))
theorem jxG (u1:ByteArray) (u0:List (List NC)) (r:List Int × Int) (h:Option.bind (jdx u1 u0) some=some r):ja8 Tryz.f49 ((sp_80 (sp_96 sp0))) (fun gs id _=>match id with
 |0=>some ⟨(Int × List Int) × Nat,fun z=>⟨[(1,.w (.c (.p 1 0 1 0))),(4,.w (.c (.p 2 0 1 0))),(6,.w (.c (.o 3))),(7,.w (.c (.o 4))),(29,.w (.c (.d (.i .i64 ((↑(List.length u0):Int)))))),(30,.w (.c (.d (.i .i64 (Prod.fst (Prod.fst z))))))],[(1,.box 24 [.d (.s u1),.o 0]),(2,.box 130 [.d (.s u1),.o 0,.o 5]),(3,.row 4 (.bools (val (y5 u1 u0 (val (jbb u1 u0)) (List.replicate (Int.toNat (↑(List.length u0):Int)) false))))),(4,.row 3 (.ints .i64 (Prod.snd (Prod.fst z)))),(0,.xext (XC.st [NK.s,NK.i .i64,NK.ints .i64,NK.ints .i64,NK.ints .i64,NK.i .i64,NK.recs (5:Nat),NK.i .i64] u0)),(5,.row 3 (.ints .i64 (val (jbb u1 u0))))],6⟩,fun z=>(jle u1 u0 r).inv z,fun z=>Prod.snd z⟩
 |2=>some ⟨(Int × List Int) × Nat × Int × Nat,fun z=>⟨[(1,.w (.c (.p 1 0 1 0))),(4,.w (.c (.p 2 0 1 0))),(6,.w (.c (.o 3))),(7,.w (.c (.o 4))),(8,.w (.c (.d (.i .i64 ((Prod.fst z).1))))),(10,.w (.c (.o 5))),(29,.w (.c (.d (.i .i64 ((↑(List.length u0):Int)))))),(30,.w (.c (.d (.i .i64 ((Prod.fst z).1))))),(44,.w (.c (.o 0))),(45,.w (.c (.d (.i .i64 ((↑(List.length u0):Int)))))),(46,.w (.c (.d (.i .i64 (Prod.fst (Prod.snd (Prod.snd z)))))))],[(1,.box 24 [.d (.s u1),.o 0]),(2,.box 130 [.d (.s u1),.o 0,.o 6]),(3,.row 4 (.bools (val (y5 u1 u0 (val (jbb u1 u0)) (List.replicate (Int.toNat (↑(List.length u0):Int)) false))))),(4,.row 3 (.ints .i64 ((Prod.fst z).2))),(5,.row 4 (.bools (val (y5 u1 u0 (val (jbb u1 u0)) (List.set (List.replicate (Int.toNat (↑(List.length u0):Int)) false) (Int.toNat (Prod.fst z).1) true))))),(0,.xext (XC.st [NK.s,NK.i .i64,NK.ints .i64,NK.ints .i64,NK.ints .i64,NK.i .i64,NK.recs (5:Nat),NK.i .i64] u0)),(6,.row 3 (.ints .i64 (val (jbb u1 u0))))],7⟩,fun z=>(jp7 u1 u0 r (gs.getD 0 0)).inv z,fun z=>Prod.snd (Prod.snd (Prod.snd z))⟩
 |_=>none) (ja5 jm6 [.d (.s u1),.x (.st [.s,.i .i64,.ints .i64,.ints .i64,.ints .i64,.i .i64,.recs 5,.i .i64] u0)]) [.c (.row 3 (.ints .i64 r.1)),.c (.d (.i .i64 r.2))] :=
 Sk.vc (jy1 u1 u0 r) (by kernel_rfl) h
theorem jxH:jaf Tryz.prog 49 true (jak jm6 jm7):=by
 refine jaw (sp:=(sp_80 (sp_96 sp0))) (fn:=Tryz.f49) (body:=bodyOf Tryz.f49) mixed (sp_80_ok (sp_96_ok jau)) Tryz.func49 (by kernel_rfl) (by kernel_rfl) fun ls t h ho b hb=>?_
 unfold jm7 at h
 split at h
 ·rename_i u1 u0
  cases h
  obtain rfl:=jaM hb
  exact⟨Nat.le_of_ble_eq_true (by kernel_rfl),_,_,jxG u1 u0 _ (jap ho)⟩
 ·cases h
theorem sp_49_ok {sp:jaa} (h:jac Tryz.prog sp):jac Tryz.prog (sp_49 sp):=jas jxH h
def jjs:List SV:=[.a [.d,.x (.st [.s,.i .i64,.ints .i64,.ints .i64,.ints .i64,.i .i64,.recs 5,.i .i64] [])]]
def y86 (u0:List (List NC)) (x0:Int × List Int) (r0 r1:List Bool) (x1:(Bool × Int)):Option ((Bool × Int) ⊕ Bool) :=
 if x1.2<(↑(List.length u0):Int)then
  if 0≤x1.2∧x1.2<(↑(List.length u0):Int)then
  if Int.toNat x1.2<List.length u0 then
   if(nI u0 (Int.toNat x1.2) (1:Nat)==4)=true then
   if(x1.2 != x0.1)=true then
    if 0≤x1.2∧x1.2<(↑(List.length r0):Int)then
    if Int.toNat x1.2<List.length r0 then
     if(List.getD r0 (Int.toNat x1.2) false)=true then
     if 0≤x1.2∧x1.2<(↑(List.length r1):Int)then
      if Int.toNat x1.2<List.length r1 then
      if(!List.getD r1 (Int.toNat x1.2) false)=true then
       some (.inl ((true,wrap .i64 (x1.2+1))))
      else
       some (.inl ((x1.1,wrap .i64 (x1.2+1))))
      else none
     else none
     else
     some (.inl ((x1.1,wrap .i64 (x1.2+1))))
    else none
    else none
   else
    some (.inl ((x1.1,wrap .i64 (x1.2+1))))
   else
   some (.inl ((x1.1,wrap .i64 (x1.2+1))))
  else none
  else none
 else
  some (.inr x1.1)
def jhR (x0:Int × List Int) (u29:Bool):Option ((Int × List Int) ⊕ (List Int)) :=
 if(u29)=true then
  if(List.length x0.2+List.length [x0.1])*8≤140737488355328∧List.length x0.2+List.length [x0.1]≤9223372036854775807 then
  some (.inl ((wrap .i64 (x0.1+1),x0.2++[x0.1])))
  else none
 else
  some (.inl ((wrap .i64 (x0.1+1),x0.2)))
def y71 (u1:ByteArray) (u0:List (List NC)) (r0:List Bool) (x0:(Int × List Int)):Option ((Int × List Int) ⊕ (List Int)) :=
 if x0.1<(↑(List.length u0):Int)then
  Option.bind (y20 u1 u0 [x0.1]) fun r1 =>
  Option.bind (jag (y86 u0 x0 r0 r1) big ((false,0))) (jhR x0)
 else
  some (.inr x0.2)
def jhS (u3:List Int):Option (List Int) :=
 some u3
def jdT (u1:ByteArray) (u0:List (List NC)):Option (List Int) :=
 Option.bind (y20 u1 u0 []) fun r0 =>
 Option.bind (jag (y71 u1 u0 r0) big (((0:Int),[]))) (jhS)
def jjt:List Lf→Option GT
 |[.d (.s u1),.x (.st [.s,.i .i64,.ints .i64,.ints .i64,.ints .i64,.i .i64,.recs 5,.i .i64] u0)]=>some (.leaf (ok (jdT u1 u0)) [.c (.row 3 (.ints .i64 ((val (jdT u1 u0)))))])
 |_=>none
abbrev sp_50:jaa→jaa:=jaI 50 true (jak jjs jjt)
abbrev jhT (u1:ByteArray) (u0:List (List NC)) (r:List Int):Lp ((Int × List Int) × Nat) (Int × List Int) (List Int) (List Int) (List Int) :=
 ⟨fun z=>Prod.fst z,fun z=>Prod.snd z,fun z x n=>(x,n),fun z=>y71 u1 u0 (val (y20 u1 u0 [])),fun z=>jhS,fun z=>top r,fun z=>0,[.c fun _=>0,.c fun vv=>vv.1.1,.c fun _=>u1,.c fun vv=>vv.1.2,.c fun _=>val (y20 u1 u0 []),.c fun _=>u0]⟩
abbrev jmw (u1:ByteArray) (u0:List (List NC)) (r:List Int) (m1:Nat):Lp ((Int × List Int) × Nat × (Bool × Int) × Nat) (Bool × Int) Bool (((Int × List Int) ⊕ (List Int))) (List Int) :=
 ⟨fun z=>Prod.fst (Prod.snd (Prod.snd z)),fun z=>Prod.snd (Prod.snd (Prod.snd z)),fun z x n=>(Prod.fst z,Prod.fst (Prod.snd z),x,n),fun z=>y86 u0 (Prod.fst z) (val (y20 u1 u0 [])) (val (y20 u1 u0 [(Prod.fst z).1])),fun z=>jhR (Prod.fst z),fun z=>(jhT u1 u0 r).cx (Prod.fst z,m1),fun z=>Prod.fst (Prod.snd z),[.c fun _=>0,.c fun vv=>vv.1.1,.c fun vv=>vv.2.2.1.1,.c fun vv=>vv.2.2.1.2,.c fun _=>u1,.c fun vv=>vv.1.2,.c fun _=>val (y20 u1 u0 []),.c fun vv=>val (y20 u1 u0 [vv.1.1]),.c fun _=>u0]⟩
def jt5 (u1:ByteArray) (u0:List (List NC)) (r:List Int):Sk (top r) (Option.bind (jag (y71 u1 u0 (val (y20 u1 u0 []))) big (((0:Int),[]))) (jhS)) :=
 .loopQ (jhT u1 u0 r) [.c fun _=>0,.c fun vv=>vv.1.1,.c fun _=>u1,.p fun vv=>List.length vv.1.2=(0:Nat),.c fun _=>val (y20 u1 u0 []),.c fun _=>u0] (fun kk=>(((0:Int),[]),big)) (fun z0 =>
 .br
 (.call (.loop (jmw u1 u0 r (Prod.snd z0)) (fun kk=>(Prod.fst z0,kk,(false,0),big)) fun z1 =>
 .br
 (.ob (.ob (.brB
 (.brB
 (.ob (.ob (.brB
 (.ob (.ob (.brB
 (.next)
 (.next))))
 (.next))))
 (.next))
 (.next))))
 (.exit (.brB
 (.ob (.next))
 (.next)))))
 (.exit (.obT (.rc)))) (fun _=>⟨rfl,trivial⟩)
def jv7 (u1:ByteArray) (u0:List (List NC)) (r:List Int):Sk (top r) (jdT u1 u0) :=
 .call (jt5 u1 u0 r)
theorem jt6 (u1:ByteArray) (u0:List (List NC)) (r:List Int) (h:Option.bind (jdT u1 u0) some=some r):ja8 Tryz.f50 ((sp_97 sp0)) (fun gs id _=>match id with
 |0=>some ⟨(Int × List Int) × Nat,fun z=>⟨[(1,.w (.c (.p 1 0 1 0))),(3,.w (.c (.o 2))),(4,.w (.c (.o 3))),(5,.w (.c (.d (.i .i64 (Prod.fst (Prod.fst z))))))],[(1,.box 24 [.d (.s u1),.o 0]),(2,.row 3 (.ints .i64 (Prod.snd (Prod.fst z)))),(3,.row 4 (.bools (val (y20 u1 u0 [])))),(0,.xext (XC.st [NK.s,NK.i .i64,NK.ints .i64,NK.ints .i64,NK.ints .i64,NK.i .i64,NK.recs (5:Nat),NK.i .i64] u0))],4⟩,fun z=>(jhT u1 u0 r).inv z,fun z=>Prod.snd z⟩
 |2=>some ⟨(Int × List Int) × Nat × (Bool × Int) × Nat,fun z=>⟨[(1,.w (.c (.p 1 0 1 0))),(3,.w (.c (.o 2))),(4,.w (.c (.o 3))),(5,.w (.c (.d (.i .i64 ((Prod.fst z).1))))),(6,.w (.c (.o 4))),(7,.w (.c (.d (.b (Prod.fst (Prod.fst (Prod.snd (Prod.snd z)))))))),(8,.w (.c (.d (.i .i64 (Prod.snd (Prod.fst (Prod.snd (Prod.snd z))))))))],[(1,.box 24 [.d (.s u1),.o 0]),(2,.row 3 (.ints .i64 ((Prod.fst z).2))),(3,.row 4 (.bools (val (y20 u1 u0 [])))),(4,.row 4 (.bools (val (y20 u1 u0 [(Prod.fst z).1])))),(0,.xext (XC.st [NK.s,NK.i .i64,NK.ints .i64,NK.ints .i64,NK.ints .i64,NK.i .i64,NK.recs (5:Nat),NK.i .i64] u0))],5⟩,fun z=>(jmw u1 u0 r (gs.getD 0 0)).inv z,fun z=>Prod.snd (Prod.snd (Prod.snd z))⟩
 |_=>none) (ja5 jjs [.d (.s u1),.x (.st [.s,.i .i64,.ints .i64,.ints .i64,.ints .i64,.i .i64,.recs 5,.i .i64] u0)]) [.c (.row 3 (.ints .i64 r))] :=
 Sk.vc (jv7 u1 u0 r) (by kernel_rfl) h
theorem jt7:jaf Tryz.prog 50 true (jak jjs jjt):=by
 refine jaw (sp:=(sp_97 sp0)) (fn:=Tryz.f50) (body:=bodyOf Tryz.f50) mixed (sp_97_ok jau) Tryz.func50 (by kernel_rfl) (by kernel_rfl) fun ls t h ho b hb=>?_
 unfold jjt at h
 split at h
 ·rename_i u1 u0
  cases h
  obtain rfl:=jaM hb
  exact⟨Nat.le_of_ble_eq_true (by kernel_rfl),_,_,jt6 u1 u0 _ (jap ho)⟩
 ·cases h
theorem sp_50_ok {sp:jaa} (h:jac Tryz.prog sp):jac Tryz.prog (sp_50 sp):=jas jt7 h
end Go.Sh
end

section
namespace Go.Sh
open Go Go.Proofs Go.RowKit Go.Sx
variable {g:List (List NC)} {l:List Int}
def jeX (g:List (List NC)) (fb:Nat→Bool) (out:List Bool) (u:Int):Bool:=decide (0≤jcF g fb u)&&out.getD (jcF g fb u).toNat false
def fedP (g:List (List NC)) (fb:Nat→Bool) (out:List Bool) (i:Nat):Bool:=nI g i 1==0||(nL g i 2).any (jeX g fb out)
def jaX (g:List (List NC)) (fb:Nat→Bool) (l:List Int):Nat→List Bool
 |0=>List.replicate g.length false
 |k+1=>(jaX g fb l k).set (l.getD k 0).toNat (!fb (l.getD k 0).toNat&&fedP g fb (jaX g fb l k) (l.getD k 0).toNat)
theorem jcG (fb:Nat→Bool):∀k,(jaX g fb l k).length=g.length
 |0=>by simp[jaX]
 |k+1=>by simp[jaX,jcG fb k]
theorem jsy (h:Rg g l) (fb:Nat→Bool) {k i:Nat} (hk:k<g.length) (e:l.getD k 0=(i:Int)):∀m,m≤k→(jaX g fb l m).getD i false=false
 |0,_=>by unfold jaX; simp only[List.getD,List.getElem?_replicate]; split<;>rfl
 |m+1,hm=>by
  obtain⟨i',hi',e',_⟩:=h.at (j:=m) (by omega)
  have hne:=jk6 h hk (j':=m) (by omega) e e'
  unfold jaX
  rw[e',Int.toNat_natCast,jbB _ _ _ _ _ (by rw[jcG]; exact hi'),if_neg (Ne.symm hne)]
  exact jsy h fb hk e m (by omega)
theorem juM (h:Rg g l) (fb:Nat→Bool) {out:List Bool} (ho:out.length=g.length) {u:Nat} (hu:u<g.length):y48 (u:Int) (jfJ g fb) out=some (jeX g fb out (u:Int)):=by
 have hn:=h.n
 have hw:=juK g fb
 unfold y48 jeX
 simp only[Int.toNat_natCast]
 rw[if_pos (by omega),if_pos (by omega),juL g fb hu]
 obtain⟨j,hj,e⟩:=h.surj hu
 have hr:=juJ h fb j hj
 rw[e]at hr
 rcases hr with h1|⟨j',i,_,hi,_,h2,_⟩
 ·rw[h1,if_neg (by simp)]
  rfl
 ·rw[h2,if_pos (by simp),if_pos (by omega),if_pos (by omega),if_pos (by omega),Int.toNat_natCast,if_pos (by omega)]
  simp
theorem jAc (h:Rg g l) (fb:Nat→Bool) {out:List Bool} (ho:out.length=g.length) {s:List Int} (hs:s.length<1000) (hr:∀k,k<s.length→∃u:Nat,u<g.length∧s.getD k 0=(u:Int)) :
  y7 s (jfJ g fb) out=some (s.any (jeX g fb out)):=by
 unfold y7 y14
 rw[jbs (body:=y9 s (jfJ g fb) out) s 0 (jeX g fb out) (fun i=>.inl (i:Int)) (.inr ()) (by omega) (fun i hi hp=>by
   obtain⟨u,hu,e⟩:=hr i hi
   unfold y9; simp only[Int.toNat_natCast]
   rw[if_pos (by omega),if_pos (by omega),if_pos hi,e,juM h fb ho hu,jad,←e,hp,if_pos rfl]) (fun i hi hp=>by
   obtain⟨u,hu,e⟩:=hr i hi
   unfold y9; simp only[Int.toNat_natCast]
   rw[if_pos (by omega),if_pos (by omega),if_pos hi,e,juM h fb ho hu,jad,←e,hp,if_neg (by simp),jaO (by omega)]) (by
   unfold y9
   rw[if_neg (by omega)])]
 rw[←jhJ]
 cases s.findIdx? (jeX g fb out)with
 |none=>rfl
 |some i =>
  show some (decide ((i:Int)≥0))=some true
  simp
theorem jy2 (h:Rg g l) {i:Nat} (hi:i<g.length):∀k,k<(nL g i 2).length→∃u:Nat,u<g.length∧(nL g i 2).getD k 0=(u:Int):=fun k hk=>by
 obtain⟨j,hj,e⟩:=h.surj hi
 obtain⟨_,u,_,h1,h2,_⟩:=h.from hj e hi hk
 exact⟨u,h1,h2⟩
theorem juN (h:Rg g l) (nm:ByteArray) (failed:List Bool) (hf:failed.length=g.length):y5 nm g l failed=some (jaX g (fun i=>failed.getD i false) l g.length):=by
 have hn:=h.n
 have hL:=h.len
 unfold y5
 rw[jsx h nm failed hf,jad,if_pos (by omega),Int.toNat_natCast]
 have key:=jbW (body:=y43 g l failed (jfJ g fun i=>failed.getD i false)) (fun k=>((k:Int),jaX g (fun i=>failed.getD i false) l k)) (y:=jaX g (fun i=>failed.getD i false) l g.length) (k:=g.length) (fun k hk=>by
   obtain⟨i,hi,e,_⟩:=h.at hk
   have hlen:=jcG (g:=g) (l:=l) (fun i=>failed.getD i false) k
   unfold y43
   simp only[Int.toNat_natCast,e]
   rw[if_pos (by omega),if_pos (by omega),if_pos (by omega),if_pos (by omega),if_pos hi,if_pos (by omega),if_pos (by omega),jaO (by omega)]
   conv=>rhs; unfold jaX
   rw[e,Int.toNat_natCast]
   unfold fedP
   cases hfi:failed.getD i false with
   |true=>rw[if_neg (by simp),if_pos (by omega),if_pos (by omega)]; rfl
   |false =>
    rw[if_pos (by simp)]
    cases hk0:nI g i 1==0 with
    |true=>rw[if_pos rfl,if_pos (by omega),if_pos (by omega)]; rfl
    |false =>
     have hfr:=h.fw.fr i hi
     rw[if_neg (by simp),jAc h _ hlen (by omega) (jy2 h hi),jad,if_pos (by omega),if_pos (by omega)]
     rfl) (by
   unfold y43
   rw[if_neg (by show ¬(g.length:Int)<_; omega)]) (by omega)
 have key:jag (y43 g l failed (jfJ g fun i=>failed.getD i false)) big ((0:Int),List.replicate g.length false)=_:=key
 rw[key]
 rfl
theorem jm8 {α:Type}:∀(l:List α) (i:Nat) (d x:α),l.getD i d=x→i<l.length→l.set i x=l
 |[],i,_,_,_,h=>by cases h
 |a::r,0,d,x,h,_=>by simp at h; simp[h]
 |a::r,i+1,d,x,h,hl=>by
  simp only[List.set_cons_succ]
  rw[jm8 r i d x (by simpa using h) (by simpa using hl)]
theorem jy3 {α:Type} (l:List α) (d:α) (P:α→Bool) {m:Nat} (hm:m<l.length):(l.take (m+1)).any P=((l.take m).any P||P (l.getD m d)):=by
 rw[List.take_add_one,List.getElem?_eq_getElem hm,List.any_append]
 simp[List.getD,hm]
theorem jsz (h:Rg g l) (nm:ByteArray) (failed:List Int) (hf:failed.length<1000) {k i:Nat} (hk:k<g.length) (hi:i<g.length) (e:l.getD k 0=(i:Int)) (b0:Bool) (x0:Int × List Bool) (hx:x0.1=(k:Int)) :
  jag (y63 nm g failed x0 (l,true)) big ((0:Int),(jaX g (jaB failed) l k).set i b0)=some ((jaX g (jaB failed) l k).set i (b0||(nL g i 2).any (jeX g (jaB failed) (jaX g (jaB failed) l k)))):=by
 have hn:=h.n
 have hfr:=h.fw.fr i hi
 have hlen:=jcG (g:=g) (l:=l) (jaB failed) k
 generalize hA:jaX g (jaB failed) l k=A at *
 have key:=jbW (body:=y63 nm g failed x0 (l,true)) (fun m=>((m:Int),A.set i (b0||((nL g i 2).take m).any (jeX g (jaB failed) A)))) (y:=A.set i (b0||(nL g i 2).any (jeX g (jaB failed) A))) (k:=(nL g i 2).length) (fun m hm=>by
   obtain⟨j',u,hj',hu,e2,e3⟩:=h.from hk e hi hm
   unfold y63
   simp only[hx,Int.toNat_natCast,e,e2,List.length_set]
   rw[if_pos (by omega),if_pos (by omega),if_pos hm,jxD h nm failed hf hu,jad,jaO (by omega),jy3 _ 0 _ hm,e2]
   have hr:=juJ h (jaB failed) j' (by omega)
   rw[e3]at hr
   unfold jeX
   rcases hr with h1|⟨j2,i2,h4,h5,h6,h7,_⟩
   ·rw[h1,if_neg (by omega)]
    simp
   ·rw[h7,if_pos (by omega),if_pos (by omega),Int.toNat_natCast,if_pos (by omega)]
    have hne:=jk6 h hk (j':=j2) (by omega) e h6
    rw[jbB _ _ _ _ _ (by omega),if_neg hne]
    cases A.getD i2 false with
    |true =>
     rw[if_pos rfl,if_pos (by omega),if_pos (by omega),List.set_set]
     simp
    |false =>
     rw[if_neg (by simp)]
     simp) (by
   unfold y63
   simp only[hx,Int.toNat_natCast,e]
   rw[if_neg (by omega),List.take_length]) (by omega)
 have e0:A.set i (b0||((nL g i 2).take 0).any (jeX g (jaB failed) A))=A.set i b0:=by simp
 have key:jag (y63 nm g failed x0 (l,true)) big ((0:Int),A.set i (b0||((nL g i 2).take 0).any (jeX g (jaB failed) A)))=_:=key
 rw[e0]at key
 exact key
theorem juO (h:Rg g l) (nm:ByteArray) (failed:List Int) (hf:failed.length<1000):y20 nm g failed=some (jaX g (jaB failed) l g.length):=by
 have hn:=h.n
 have hL:=h.len
 unfold y20
 rw[jp4 h.fw,h.ord,jad,if_pos (by omega),Int.toNat_natCast]
 have key:=jbW (body:=y84 nm g failed (l,true)) (fun k=>((k:Int),jaX g (jaB failed) l k)) (y:=jaX g (jaB failed) l g.length) (k:=g.length) (fun k hk=>by
   obtain⟨i,hi,e,_⟩:=h.at hk
   have hlen:=jcG (g:=g) (l:=l) (jaB failed) k
   have hnew:=jsy h (jaB failed) hk e k (Nat.le_refl _)
   have hb:jc0 failed (i:Int)=some (jaB failed i):=jde _ _ (by omega)
   unfold y84
   simp only[Int.toNat_natCast,e]
   rw[if_pos (by omega),if_pos (by omega),if_pos (by omega),if_pos (by omega),if_pos hi,hb,jad,jaO (by omega)]
   conv=>rhs; unfold jaX
   rw[e,Int.toNat_natCast]
   unfold fedP
   cases hfi:jaB failed i with
   |true =>
    rw[if_pos rfl]
    simp only[Bool.not_true,Bool.false_and]
    rw[jm8 _ i false false hnew (by omega)]
    rfl
   |false =>
    rw[if_neg (by simp)]
    cases hk0:nI g i 1==0 with
    |true =>
     rw[if_pos rfl,if_pos (by omega),if_pos (by omega),jsz h nm failed hf hk hi e true _ rfl,jad]
     unfold jer
     rw[jaO (by simp; omega)]
     rfl
    |false =>
     have hin:=jsz h nm failed hf hk hi e false ((k:Int),jaX g (jaB failed) l k) rfl
     rw[jm8 _ i false false hnew (by omega)]at hin
     rw[if_neg (by simp),hin,jad]
     unfold jer
     rw[jaO (by simp; omega)]
     rfl) (by
   unfold y84
   rw[if_neg (by show ¬(g.length:Int)<(l.length:Int); omega)]) (by omega)
 have key:jag (y84 nm g failed (l,true)) big ((0:Int),List.replicate g.length false)=_:=key
 rw[key]
 rfl
end Go.Sh
end

section
namespace Go.Sh
open Go Go.Proofs Go.RowKit Go.Sx
variable {g:List (List NC)} {l:List Int}
def jcH (g:List (List NC)) (l:List Int) (i k:Nat):Bool:=nI g k 1==4&&(!(k==i)&&((jaX g (jaB []) l g.length).getD k false && !(jaX g (jaB [(i:Int)]) l g.length).getD k false))
def jhf (g:List (List NC)) (l:List Int) (i:Nat):Bool:=(List.range g.length).any (jcH g l i)
def jbP (g:List (List NC)) (l:List Int) (m:Nat):List Int:=((List.range m).filter (jhf g l)).map fun(i:Nat)=>(i:Int)
theorem jor (g:List (List NC)) (l:List Int) (m:Nat):jbP g l (m+1)=if jhf g l m=true then jbP g l m++[(m:Int)]else jbP g l m:=by
 unfold jbP
 rw[List.range_succ,List.filter_append]
 cases hw:jhf g l m<;>simp[hw]
theorem jlf (g:List (List NC)) (l:List Int) (m:Nat):(jbP g l m).length≤m:=by
 unfold jbP
 rw[List.length_map]
 exact Nat.le_trans (List.length_filter_le _ _) (by simp)
theorem jy4 (h:Rg g l) (nm:ByteArray) (hs:nm.size<1000) (h0:(cg nm g).2=0):jdx nm g=some (jbP g l g.length,0):=by
 have hn:=h.n
 unfold jdx jop jfc jbb
 rw[jsr h.fw hs h0,h.ord]
 show Option.bind ((jbF nm g).map _) _=_
 rw[jyV h.fw hs h0 h.ord]
 show(if _ then _ else _)=_
 rw[if_pos (by omega),Int.toNat_natCast,juN h nm _ (by simp)]
 have e0:(fun i=>(List.replicate g.length false).getD i false)=jaB []:=by
  funext i
  simp only[List.getD,List.getElem?_replicate]
  split<;>rfl
 rw[e0,jad]
 have key:=jbW (body:=jdh nm g l (jaX g (jaB []) l g.length)) (fun m=>((m:Int),jbP g l m)) (y:=jbP g l g.length) (k:=g.length) (fun m hm=>by
   have e1:(fun i=>((List.replicate g.length false).set m true).getD i false)=jaB [(m:Int)]:=by
    funext i
    rw[jbB _ _ _ _ _ (by simpa using hm)]
    unfold jaB
    simp only[List.any_cons,List.any_nil,Bool.or_false]
    by_cases hmi:m=i
    ·rw[if_pos hmi,hmi]; simp
    ·rw[if_neg hmi]
     have:((m:Int)==(i:Int))=false:=by rw[beq_eq_false_iff_ne]; omega
     rw[this]
     simp only[List.getD,List.getElem?_replicate]
     split<;>rfl
   unfold jdh
   rw[if_pos (by show(m:Int)<_; omega),if_pos (by omega)]
   simp only[Int.toNat_natCast,List.length_replicate]
   rw[if_pos (by omega),if_pos hm,juN h nm _ (by simp),e1,jad]
   have hl1:=jcG (g:=g) (l:=l) (jaB []) g.length
   have hl2:=jcG (g:=g) (l:=l) (jaB [(m:Int)]) g.length
   have hwl:=jlf g l m
   rw[jcD (body:=jd8 g ((m:Int),jbP g l m) (jaX g (jaB []) l g.length) (jaX g (jaB [(m:Int)]) l g.length)) g.length (jcH g l m) (jbP g l m++[(m:Int)]) (jbP g l m) (by omega) (fun k hk hp=>by
     unfold jcH at hp
     simp only[Bool.and_eq_true]at hp
     obtain⟨p1,p2,p3,p4⟩:=hp
     have p2':((k:Int)!=(m:Int))=true:=by simp at p2 ⊢; omega
     unfold jd8
     simp only[Int.toNat_natCast]
     rw[if_pos (by omega),if_pos (by omega),if_pos hk,if_pos p1,if_pos p2',if_pos (by omega),if_pos (by omega),if_pos p3,if_pos (by omega),if_pos (by omega),if_pos p4,if_pos (by simp only[List.length_cons,List.length_nil]; omega)]) (fun k hk hp=>by
     unfold jd8
     simp only[Int.toNat_natCast]
     rw[if_pos (by omega),if_pos (by omega),if_pos hk,jaO (by omega)]
     by_cases p1:(nI g k 1==4)=true
     ·rw[if_pos p1]
      by_cases p2:k=m
      ·rw[if_neg (by simp[p2])]
      ·rw[if_pos (by simp; omega),if_pos (by omega),if_pos (by omega)]
       by_cases p3:(jaX g (jaB []) l g.length).getD k false=true
       ·rw[if_pos p3,if_pos (by omega),if_pos (by omega)]
        by_cases p4:(!(jaX g (jaB [(m:Int)]) l g.length).getD k false)=true
        ·exfalso
         unfold jcH at hp
         rw[p1,p3,p4]at hp
         simp at hp
         exact p2 hp
        ·rw[if_neg p4]
       ·rw[if_neg p3]
     ·rw[if_neg p1]) (by
     unfold jd8
     rw[if_neg (by omega)])]
   rw[jad]
   unfold jlc
   rw[jaO (by simp; omega),jor]
   unfold jhf
   cases (List.range g.length).any (jcH g l m)<;>rfl) (by
   unfold jdh
   rw[if_neg (by show ¬(g.length:Int)<_; omega)]) (by omega)
 have key:jag (jdh nm g l (jaX g (jaB []) l g.length)) big ((0:Int),[])=_:=key
 rw[key]
 rfl
theorem jy5 (h:Rg g l) (nm:ByteArray):jdT nm g=some (jbP g l g.length):=by
 have hn:=h.n
 unfold jdT
 rw[juO h nm [] (by simp),jad]
 have key:=jbW (body:=y71 nm g (jaX g (jaB []) l g.length)) (fun m=>((m:Int),jbP g l m)) (y:=jbP g l g.length) (k:=g.length) (fun m hm=>by
   unfold y71
   rw[if_pos (by show(m:Int)<_; omega),juO h nm _ (by simp),jad]
   have hl1:=jcG (g:=g) (l:=l) (jaB []) g.length
   have hl2:=jcG (g:=g) (l:=l) (jaB [(m:Int)]) g.length
   have hwl:=jlf g l m
   have kin:=jbW (body:=y86 g ((m:Int),jbP g l m) (jaX g (jaB []) l g.length) (jaX g (jaB [(m:Int)]) l g.length)) (fun k=>((List.range k).any (jcH g l m),(k:Int))) (y:=(List.range g.length).any (jcH g l m)) (k:=g.length) (fun k hk=>by
     have hs:(List.range (k+1)).any (jcH g l m)=((List.range k).any (jcH g l m)||jcH g l m k):=by
      rw[List.range_succ,List.any_append]; simp
     unfold y86
     simp only[Int.toNat_natCast]
     rw[if_pos (by omega),if_pos (by omega),if_pos hk,jaO (by omega),hs]
     unfold jcH
     cases p1:(nI g k 1==4)with
     |false=>rw[if_neg (by simp)]; simp
     |true =>
      rw[if_pos rfl]
      by_cases p2:k=m
      ·rw[if_neg (by simp[p2])]; simp[p2]
      ·have p2':((k:Int)!=(m:Int))=true:=by simp; omega
       have p2'':(!(k==m))=true:=by simp; omega
       rw[if_pos p2',if_pos (by omega),if_pos (by omega),p2'']
       cases p3:(jaX g (jaB []) l g.length).getD k false with
       |false=>rw[if_neg (by simp)]; simp
       |true =>
        rw[if_pos rfl,if_pos (by omega),if_pos (by omega)]
        cases p4:(jaX g (jaB [(m:Int)]) l g.length).getD k false with
        |true=>rw[if_neg (by simp)]; simp
        |false=>rw[if_pos (by simp)]; simp) (by
     unfold y86
     rw[if_neg (by show ¬(g.length:Int)<_; omega)]) (by omega)
   have kin:jag (y86 g ((m:Int),jbP g l m) (jaX g (jaB []) l g.length) (jaX g (jaB [(m:Int)]) l g.length)) big (false,(0:Int))=_:=kin
   rw[kin,jad]
   unfold jhR
   rw[jaO (by simp; omega),jor]
   unfold jhf
   cases (List.range g.length).any (jcH g l m)with
   |true=>rw[if_pos rfl,if_pos (by simp only[List.length_cons,List.length_nil]; omega)]; rfl
   |false=>rfl) (by
   unfold y71
   rw[if_neg (by show ¬(g.length:Int)<_; omega)]) (by omega)
 have key:jag (y71 nm g (jaX g (jaB []) l g.length)) big ((0:Int),[])=_:=key
 rw[key]
 rfl
theorem juP {i:Nat} (hi:¬i<g.length):(cpU g).getD i []=g.getD i []:=by
 simp only[List.getD]
 rw[List.getElem?_eq_none (by rw[jb3]; omega),List.getElem?_eq_none (by omega)]
theorem cpI (i:Nat):nI (cpU g) i 1=nI g i 1∧nI (cpU g) i 5=nI g i 5∧nI (cpU g) i 7=nI g i 7:=by
 by_cases hi:i<g.length
 ·exact cp_I hi
 ·unfold nI; rw[juP hi]; exact⟨rfl,rfl,rfl⟩
theorem cpL (i:Nat):nL (cpU g) i 2=nL g i 2∧nL (cpU g) i 3=nL g i 3∧nL (cpU g) i 4=nL g i 4:=by
 by_cases hi:i<g.length
 ·exact jm2 hi
 ·unfold nL; rw[juP hi]; exact⟨rfl,rfl,rfl⟩
theorem jp8 (g:List (List NC)):jbz (cpU g)=jbz g:=by
 funext out
 unfold jbz
 have:jdS (cpU g) out=jdS g out:=by
  funext i
  unfold jdS jdg jdG
  rw[jb3,(cpL i).1,(cpI i).2.2]
 rw[jb3,this]
theorem Rg.cp (h:Rg g l):Rg (cpU g) l:=⟨jzI h.fw,fun i hi=>by rw[jb3]at hi; rw[jxl hi]; exact h.ok i hi,by rw[jp8,jb3]; exact h.ord⟩
theorem jAQ (fb:Nat→Bool):jcF (cpU g) fb=jcF g fb:=by
 funext u
 unfold jcF
 rw[jb3,show(fun i=>nI (cpU g) i 7)=fun i=>nI g i 7 from funext fun i=>(cpI i).2.2]
theorem jpw (fb:Nat→Bool):∀k,jaX (cpU g) fb l k=jaX g fb l k
 |0=>by unfold jaX; rw[jb3]
 |k+1=>by
  unfold jaX
  rw[jpw fb k]
  unfold fedP jeX
  rw[(cpI _).1,(cpL _).1,jAQ]
theorem jAd (m:Nat):jbP (cpU g) l m=jbP g l m:=by
 unfold jbP
 have:jhf (cpU g) l=jhf g l:=by
  funext i
  unfold jhf
  have:jcH (cpU g) l i=jcH g l i:=by
   funext k
   unfold jcH
   rw[(cpI k).1,jpw,jpw,jb3]
  rw[this,jb3]
 rw[this]
theorem rg_of {nm:ByteArray} (hw:Fw g) (h:(cg nm g).2=0) (ho:jdt (jbz g) g.length []=some l):Rg g l:=⟨hw,jpr h,ho⟩
end Go.Sh
end

section
namespace Go.Sh
open Go Go.Proofs Go.RowKit Go.Sx
open Go.IntKind (wrap)
def jgI:List SV:=[.c (.p [.p [.d,.x (.st [.s,.i .i64,.ints .i64,.ints .i64,.ints .i64,.i .i64,.recs 5,.i .i64] []),.r (.ints .i64 [])],.d,.x (.ff .f32 []),.x (.rr 4 []),.r (.frs .f32 32 []),.r (.ints .i64 []),.r (.frs .f32 32 []),.x (.rr 4 []),.r (.ints .i64 [])]),.c (.d),.c (.d)]
def jpx (u16:ByteArray) (u17:List (List NC)) (u18:List Int) (u15:Int) (u19:List (List Nat)) (u20:List (List (List Int))) (u21:List (List Nat)) (u22:List Int) (u23:List (List Nat)) (u24:List (List (List Int))) (u25:List Int) (u26:Int) (k:Int):Option Int :=
 if k<0 then
  if 0≤u26∧u26<(↑(List.length u19):Int)then
  if Int.toNat u26<List.length u19 then
   if 0≤wrap .i64 (128+k)∧wrap .i64 (128+k)<(↑(List.length (List.getD u19 (Int.toNat u26) [])):Int)then
   if Int.toNat (wrap .i64 (128+k))<List.length (List.getD u19 (Int.toNat u26) [])then
    if jnx .f32 .i64 (List.getD (List.getD u19 (Int.toNat u26) []) (Int.toNat (wrap .i64 (128+k))) (0:Nat))=true then
    some (f2i .f32 (List.getD (List.getD u19 (Int.toNat u26) []) (Int.toNat (wrap .i64 (128+k))) (0:Nat)))
    else none
   else none
   else none
  else none
  else none
 else
  if 0≤u26∧u26<(↑(List.length u23):Int)then
  if 0≤k∧k<(↑(32:Nat):Int)then
   if Int.toNat u26<List.length u23∧0+Int.toNat k*1<32 then
   if jnx .f32 .i64 (List.getD (List.getD u23 (Int.toNat u26) []) (0+Int.toNat k*1) (0:Nat))=true then
    some (f2i .f32 (List.getD (List.getD u23 (Int.toNat u26) []) (0+Int.toNat k*1) (0:Nat)))
   else none
   else none
  else none
  else none
def jgJ:List Lf→Option GT
 |[.d (.s u16),.x (.st [.s,.i .i64,.ints .i64,.ints .i64,.ints .i64,.i .i64,.recs 5,.i .i64] u17),.r (.ints .i64 u18),.d (.i .i64 u15),.x (.ff .f32 u19),.x (.rr 4 u20),.r (.frs .f32 32 u21),.r (.ints .i64 u22),.r (.frs .f32 32 u23),.x (.rr 4 u24),.r (.ints .i64 u25),.d (.i .i64 u26),.d (.i .i64 k)]=>some (.leaf (ok (jpx u16 u17 u18 u15 u19 u20 u21 u22 u23 u24 u25 u26 k)) [.c (.d (.i .i64 ((val (jpx u16 u17 u18 u15 u19 u20 u21 u22 u23 u24 u25 u26 k)))))])
 |_=>none
abbrev sp_149:jaa→jaa:=jaI 149 true (jak jgI jgJ)
def jsA (u16:ByteArray) (u17:List (List NC)) (u18:List Int) (u15:Int) (u19:List (List Nat)) (u20:List (List (List Int))) (u21:List (List Nat)) (u22:List Int) (u23:List (List Nat)) (u24:List (List (List Int))) (u25:List Int) (u26:Int) (k:Int) (r:Int):Sk (top r) (jpx u16 u17 u18 u15 u19 u20 u21 u22 u23 u24 u25 u26 k) :=
 .br
 (.obT (.ob (.ob (.ob (.ob (.ob (.obT (.rc))))))))
 (.obT (.ob (.ob (.ob (.ob (.obT (.rc)))))))
theorem jqP (u16:ByteArray) (u17:List (List NC)) (u18:List Int) (u15:Int) (u19:List (List Nat)) (u20:List (List (List Int))) (u21:List (List Nat)) (u22:List Int) (u23:List (List Nat)) (u24:List (List (List Int))) (u25:List Int) (u26:Int) (k:Int) (r:Int) (h:Option.bind (jpx u16 u17 u18 u15 u19 u20 u21 u22 u23 u24 u25 u26 k) some=some r):ja8 Tryz.f149 (sp0) (fun _ _ _=>none) (ja5 jgI [.d (.s u16),.x (.st [.s,.i .i64,.ints .i64,.ints .i64,.ints .i64,.i .i64,.recs 5,.i .i64] u17),.r (.ints .i64 u18),.d (.i .i64 u15),.x (.ff .f32 u19),.x (.rr 4 u20),.r (.frs .f32 32 u21),.r (.ints .i64 u22),.r (.frs .f32 32 u23),.x (.rr 4 u24),.r (.ints .i64 u25),.d (.i .i64 u26),.d (.i .i64 k)]) [.c (.d (.i .i64 r))] :=
 Sk.vc (jsA u16 u17 u18 u15 u19 u20 u21 u22 u23 u24 u25 u26 k r) (by kernel_rfl) h
theorem jqQ:jaf Tryz.prog 149 true (jak jgI jgJ):=by
 refine jaw (sp:=sp0) (fn:=Tryz.f149) (body:=bodyOf Tryz.f149) mixed jau Tryz.func149 (by kernel_rfl) (by kernel_rfl) fun ls t h ho b hb=>?_
 unfold jgJ at h
 split at h
 ·rename_i u16 u17 u18 u15 u19 u20 u21 u22 u23 u24 u25 u26 k
  cases h
  obtain rfl:=jaM hb
  exact⟨Nat.le_of_ble_eq_true (by kernel_rfl),_,_,jqP u16 u17 u18 u15 u19 u20 u21 u22 u23 u24 u25 u26 k _ (jap ho)⟩
 ·cases h
theorem sp_149_ok {sp:jaa} (h:jac Tryz.prog sp):jac Tryz.prog (sp_149 sp):=jas jqQ h
end Go.Sh
end

section
namespace Go.Sh
open Go Go.Proofs Go.RowKit Go.Sx
open Go.IntKind (wrap)
def jes:List SV:=[.c (.p [.p [.d,.x (.st [.s,.i .i64,.ints .i64,.ints .i64,.ints .i64,.i .i64,.recs 5,.i .i64] []),.r (.ints .i64 [])],.d,.x (.ff .f32 []),.x (.rr 4 []),.r (.frs .f32 32 []),.r (.ints .i64 []),.r (.frs .f32 32 []),.x (.rr 4 []),.r (.ints .i64 [])]),.a [.d,.d,.r (.ints .i64 []),.r (.ints .i64 []),.r (.ints .i64 []),.d,.r (.recs 5 []),.d],.c (.d),.c (.d)]
def jdU (u16:ByteArray) (u17:List (List NC)) (u18:List Int) (u15:Int) (u19:List (List Nat)) (u20:List (List (List Int))) (u21:List (List Nat)) (u22:List Int) (u23:List (List Nat)) (u24:List (List (List Int))) (u25:List Int) (u11:List Int) (u10:List Int) (u43:Int) (u44:Int) (x0:(Int × Int × Int × Int × Int × Int × Int × Int × Int × Int × Int × Int × Int × Int × Int × Int × Int × Int × Int × Int × Int × Int × Int × Int × Int × Int × Int × Int × Int × Int × Int × Int × Int)):Option ((Int × Int × Int × Int × Int × Int × Int × Int × Int × Int × Int × Int × Int × Int × Int × Int × Int × Int × Int × Int × Int × Int × Int × Int × Int × Int × Int × Int × Int × Int × Int × Int × Int) ⊕ (Int × Int × Int × Int × Int × Int × Int × Int × Int × Int × Int × Int × Int × Int × Int × Int × Int × Int × Int × Int × Int × Int × Int × Int × Int × Int × Int × Int × Int × Int × Int × Int)) :=
 if x0.1<32 then
  if 0≤u43∧u43<(↑(List.length u11):Int)then
  if Int.toNat u43<List.length u11 then
   if 0≤u43∧u43<(↑(List.length u10):Int)then
   if Int.toNat u43<List.length u10 then
    Option.bind (jpx u16 u17 u18 u15 u19 u20 u21 u22 u23 u24 u25 (List.getD u11 (Int.toNat u43) (0:Int)) (wrap .i64 (wrap .i64 (x0.1-List.getD u10 (Int.toNat u43) (0:Int))-u44))) fun r0 =>
    if 0≤x0.1∧x0.1<(↑(32:Nat):Int)then
    if List.getD [true,true,true,true,true,true,true,true,true,true,true,true,true,true,true,true,true,true,true,true,true,true,true,true,true,true,true,true,true,true,true,true] (0+Int.toNat x0.1*1) false=true then
     some (.inl ((wrap .i64 (x0.1+1),bif Nat.beq (0+Int.toNat x0.1*1) 0 then r0 else x0.2.1,bif Nat.beq (0+Int.toNat x0.1*1) 1 then r0 else x0.2.2.1,bif Nat.beq (0+Int.toNat x0.1*1) 2 then r0 else x0.2.2.2.1,bif Nat.beq (0+Int.toNat x0.1*1) 3 then r0 else x0.2.2.2.2.1,bif Nat.beq (0+Int.toNat x0.1*1) 4 then r0 else x0.2.2.2.2.2.1,bif Nat.beq (0+Int.toNat x0.1*1) 5 then r0 else x0.2.2.2.2.2.2.1,bif Nat.beq (0+Int.toNat x0.1*1) 6 then r0 else x0.2.2.2.2.2.2.2.1,bif Nat.beq (0+Int.toNat x0.1*1) 7 then r0 else x0.2.2.2.2.2.2.2.2.1,bif Nat.beq (0+Int.toNat x0.1*1) 8 then r0 else x0.2.2.2.2.2.2.2.2.2.1,bif Nat.beq (0+Int.toNat x0.1*1) 9 then r0 else x0.2.2.2.2.2.2.2.2.2.2.1,bif Nat.beq (0+Int.toNat x0.1*1) 10 then r0 else x0.2.2.2.2.2.2.2.2.2.2.2.1,bif Nat.beq (0+Int.toNat x0.1*1) 11 then r0 else x0.2.2.2.2.2.2.2.2.2.2.2.2.1,bif Nat.beq (0+Int.toNat x0.1*1) 12 then r0 else x0.2.2.2.2.2.2.2.2.2.2.2.2.2.1,bif Nat.beq (0+Int.toNat x0.1*1) 13 then r0 else x0.2.2.2.2.2.2.2.2.2.2.2.2.2.2.1,bif Nat.beq (0+Int.toNat x0.1*1) 14 then r0 else x0.2.2.2.2.2.2.2.2.2.2.2.2.2.2.2.1,bif Nat.beq (0+Int.toNat x0.1*1) 15 then r0 else x0.2.2.2.2.2.2.2.2.2.2.2.2.2.2.2.2.1,bif Nat.beq (0+Int.toNat x0.1*1) 16 then r0 else x0.2.2.2.2.2.2.2.2.2.2.2.2.2.2.2.2.2.1,bif Nat.beq (0+Int.toNat x0.1*1) 17 then r0 else x0.2.2.2.2.2.2.2.2.2.2.2.2.2.2.2.2.2.2.1,bif Nat.beq (0+Int.toNat x0.1*1) 18 then r0 else x0.2.2.2.2.2.2.2.2.2.2.2.2.2.2.2.2.2.2.2.1,bif Nat.beq (0+Int.toNat x0.1*1) 19 then r0 else x0.2.2.2.2.2.2.2.2.2.2.2.2.2.2.2.2.2.2.2.2.1,bif Nat.beq (0+Int.toNat x0.1*1) 20 then r0 else x0.2.2.2.2.2.2.2.2.2.2.2.2.2.2.2.2.2.2.2.2.2.1,bif Nat.beq (0+Int.toNat x0.1*1) 21 then r0 else x0.2.2.2.2.2.2.2.2.2.2.2.2.2.2.2.2.2.2.2.2.2.2.1,bif Nat.beq (0+Int.toNat x0.1*1) 22 then r0 else x0.2.2.2.2.2.2.2.2.2.2.2.2.2.2.2.2.2.2.2.2.2.2.2.1,bif Nat.beq (0+Int.toNat x0.1*1) 23 then r0 else x0.2.2.2.2.2.2.2.2.2.2.2.2.2.2.2.2.2.2.2.2.2.2.2.2.1,bif Nat.beq (0+Int.toNat x0.1*1) 24 then r0 else x0.2.2.2.2.2.2.2.2.2.2.2.2.2.2.2.2.2.2.2.2.2.2.2.2.2.1,bif Nat.beq (0+Int.toNat x0.1*1) 25 then r0 else x0.2.2.2.2.2.2.2.2.2.2.2.2.2.2.2.2.2.2.2.2.2.2.2.2.2.2.1,bif Nat.beq (0+Int.toNat x0.1*1) 26 then r0 else x0.2.2.2.2.2.2.2.2.2.2.2.2.2.2.2.2.2.2.2.2.2.2.2.2.2.2.2.1,bif Nat.beq (0+Int.toNat x0.1*1) 27 then r0 else x0.2.2.2.2.2.2.2.2.2.2.2.2.2.2.2.2.2.2.2.2.2.2.2.2.2.2.2.2.1,bif Nat.beq (0+Int.toNat x0.1*1) 28 then r0 else x0.2.2.2.2.2.2.2.2.2.2.2.2.2.2.2.2.2.2.2.2.2.2.2.2.2.2.2.2.2.1,bif Nat.beq (0+Int.toNat x0.1*1) 29 then r0 else x0.2.2.2.2.2.2.2.2.2.2.2.2.2.2.2.2.2.2.2.2.2.2.2.2.2.2.2.2.2.2.1,bif Nat.beq (0+Int.toNat x0.1*1) 30 then r0 else x0.2.2.2.2.2.2.2.2.2.2.2.2.2.2.2.2.2.2.2.2.2.2.2.2.2.2.2.2.2.2.2.1,bif Nat.beq (0+Int.toNat x0.1*1) 31 then r0 else x0.2.2.2.2.2.2.2.2.2.2.2.2.2.2.2.2.2.2.2.2.2.2.2.2.2.2.2.2.2.2.2.2)))
    else none
    else none
   else none
   else none
  else none
  else none
 else
  some (.inr (x0.2.1,x0.2.2.1,x0.2.2.2.1,x0.2.2.2.2.1,x0.2.2.2.2.2.1,x0.2.2.2.2.2.2.1,x0.2.2.2.2.2.2.2.1,x0.2.2.2.2.2.2.2.2.1,x0.2.2.2.2.2.2.2.2.2.1,x0.2.2.2.2.2.2.2.2.2.2.1,x0.2.2.2.2.2.2.2.2.2.2.2.1,x0.2.2.2.2.2.2.2.2.2.2.2.2.1,x0.2.2.2.2.2.2.2.2.2.2.2.2.2.1,x0.2.2.2.2.2.2.2.2.2.2.2.2.2.2.1,x0.2.2.2.2.2.2.2.2.2.2.2.2.2.2.2.1,x0.2.2.2.2.2.2.2.2.2.2.2.2.2.2.2.2.1,x0.2.2.2.2.2.2.2.2.2.2.2.2.2.2.2.2.2.1,x0.2.2.2.2.2.2.2.2.2.2.2.2.2.2.2.2.2.2.1,x0.2.2.2.2.2.2.2.2.2.2.2.2.2.2.2.2.2.2.2.1,x0.2.2.2.2.2.2.2.2.2.2.2.2.2.2.2.2.2.2.2.2.1,x0.2.2.2.2.2.2.2.2.2.2.2.2.2.2.2.2.2.2.2.2.2.1,x0.2.2.2.2.2.2.2.2.2.2.2.2.2.2.2.2.2.2.2.2.2.2.1,x0.2.2.2.2.2.2.2.2.2.2.2.2.2.2.2.2.2.2.2.2.2.2.2.1,x0.2.2.2.2.2.2.2.2.2.2.2.2.2.2.2.2.2.2.2.2.2.2.2.2.1,x0.2.2.2.2.2.2.2.2.2.2.2.2.2.2.2.2.2.2.2.2.2.2.2.2.2.1,x0.2.2.2.2.2.2.2.2.2.2.2.2.2.2.2.2.2.2.2.2.2.2.2.2.2.2.1,x0.2.2.2.2.2.2.2.2.2.2.2.2.2.2.2.2.2.2.2.2.2.2.2.2.2.2.2.1,x0.2.2.2.2.2.2.2.2.2.2.2.2.2.2.2.2.2.2.2.2.2.2.2.2.2.2.2.2.1,x0.2.2.2.2.2.2.2.2.2.2.2.2.2.2.2.2.2.2.2.2.2.2.2.2.2.2.2.2.2.1,x0.2.2.2.2.2.2.2.2.2.2.2.2.2.2.2.2.2.2.2.2.2.2.2.2.2.2.2.2.2.2.1,x0.2.2.2.2.2.2.2.2.2.2.2.2.2.2.2.2.2.2.2.2.2.2.2.2.2.2.2.2.2.2.2.1,x0.2.2.2.2.2.2.2.2.2.2.2.2.2.2.2.2.2.2.2.2.2.2.2.2.2.2.2.2.2.2.2.2))
def jdV (u3:Int × Int × Int × Int × Int × Int × Int × Int × Int × Int × Int × Int × Int × Int × Int × Int × Int × Int × Int × Int × Int × Int × Int × Int × Int × Int × Int × Int × Int × Int × Int × Int):Option (Int × Int × Int × Int × Int × Int × Int × Int × Int × Int × Int × Int × Int × Int × Int × Int × Int × Int × Int × Int × Int × Int × Int × Int × Int × Int × Int × Int × Int × Int × Int × Int) :=
 some (u3.1,u3.2.1,u3.2.2.1,u3.2.2.2.1,u3.2.2.2.2.1,u3.2.2.2.2.2.1,u3.2.2.2.2.2.2.1,u3.2.2.2.2.2.2.2.1,u3.2.2.2.2.2.2.2.2.1,u3.2.2.2.2.2.2.2.2.2.1,u3.2.2.2.2.2.2.2.2.2.2.1,u3.2.2.2.2.2.2.2.2.2.2.2.1,u3.2.2.2.2.2.2.2.2.2.2.2.2.1,u3.2.2.2.2.2.2.2.2.2.2.2.2.2.1,u3.2.2.2.2.2.2.2.2.2.2.2.2.2.2.1,u3.2.2.2.2.2.2.2.2.2.2.2.2.2.2.2.1,u3.2.2.2.2.2.2.2.2.2.2.2.2.2.2.2.2.1,u3.2.2.2.2.2.2.2.2.2.2.2.2.2.2.2.2.2.1,u3.2.2.2.2.2.2.2.2.2.2.2.2.2.2.2.2.2.2.1,u3.2.2.2.2.2.2.2.2.2.2.2.2.2.2.2.2.2.2.2.1,u3.2.2.2.2.2.2.2.2.2.2.2.2.2.2.2.2.2.2.2.2.1,u3.2.2.2.2.2.2.2.2.2.2.2.2.2.2.2.2.2.2.2.2.2.1,u3.2.2.2.2.2.2.2.2.2.2.2.2.2.2.2.2.2.2.2.2.2.2.1,u3.2.2.2.2.2.2.2.2.2.2.2.2.2.2.2.2.2.2.2.2.2.2.2.1,u3.2.2.2.2.2.2.2.2.2.2.2.2.2.2.2.2.2.2.2.2.2.2.2.2.1,u3.2.2.2.2.2.2.2.2.2.2.2.2.2.2.2.2.2.2.2.2.2.2.2.2.2.1,u3.2.2.2.2.2.2.2.2.2.2.2.2.2.2.2.2.2.2.2.2.2.2.2.2.2.2.1,u3.2.2.2.2.2.2.2.2.2.2.2.2.2.2.2.2.2.2.2.2.2.2.2.2.2.2.2.1,u3.2.2.2.2.2.2.2.2.2.2.2.2.2.2.2.2.2.2.2.2.2.2.2.2.2.2.2.2.1,u3.2.2.2.2.2.2.2.2.2.2.2.2.2.2.2.2.2.2.2.2.2.2.2.2.2.2.2.2.2.1,u3.2.2.2.2.2.2.2.2.2.2.2.2.2.2.2.2.2.2.2.2.2.2.2.2.2.2.2.2.2.2.1,u3.2.2.2.2.2.2.2.2.2.2.2.2.2.2.2.2.2.2.2.2.2.2.2.2.2.2.2.2.2.2.2)
def jah (u16:ByteArray) (u17:List (List NC)) (u18:List Int) (u15:Int) (u19:List (List Nat)) (u20:List (List (List Int))) (u21:List (List Nat)) (u22:List Int) (u23:List (List Nat)) (u24:List (List (List Int))) (u25:List Int) (u12:ByteArray) (u5:Int) (u11:List Int) (u10:List Int) (u9:List Int) (u6:Int) (u13:List (List Int)) (u14:Int) (u43:Int) (u44:Int):Option (Int × Int × Int × Int × Int × Int × Int × Int × Int × Int × Int × Int × Int × Int × Int × Int × Int × Int × Int × Int × Int × Int × Int × Int × Int × Int × Int × Int × Int × Int × Int × Int) :=
 Option.bind (jag (jdU u16 u17 u18 u15 u19 u20 u21 u22 u23 u24 u25 u11 u10 u43 u44) big (((0:Int),0,0,0,0,0,0,0,0,0,0,0,0,0,0,0,0,0,0,0,0,0,0,0,0,0,0,0,0,0,0,0,0))) (jdV)
def jet:List Lf→Option GT
 |[.d (.s u16),.x (.st [.s,.i .i64,.ints .i64,.ints .i64,.ints .i64,.i .i64,.recs 5,.i .i64] u17),.r (.ints .i64 u18),.d (.i .i64 u15),.x (.ff .f32 u19),.x (.rr 4 u20),.r (.frs .f32 32 u21),.r (.ints .i64 u22),.r (.frs .f32 32 u23),.x (.rr 4 u24),.r (.ints .i64 u25),.d (.s u12),.d (.i .i64 u5),.r (.ints .i64 u11),.r (.ints .i64 u10),.r (.ints .i64 u9),.d (.i .i64 u6),.r (.recs 5 u13),.d (.i .i64 u14),.d (.i .i64 u43),.d (.i .i64 u44)]=>some (.leaf (ok (jah u16 u17 u18 u15 u19 u20 u21 u22 u23 u24 u25 u12 u5 u11 u10 u9 u6 u13 u14 u43 u44)) [.s [.d (.i .i64 ((val (jah u16 u17 u18 u15 u19 u20 u21 u22 u23 u24 u25 u12 u5 u11 u10 u9 u6 u13 u14 u43 u44)).1)),.d (.i .i64 ((val (jah u16 u17 u18 u15 u19 u20 u21 u22 u23 u24 u25 u12 u5 u11 u10 u9 u6 u13 u14 u43 u44)).2.1)),.d (.i .i64 ((val (jah u16 u17 u18 u15 u19 u20 u21 u22 u23 u24 u25 u12 u5 u11 u10 u9 u6 u13 u14 u43 u44)).2.2.1)),.d (.i .i64 ((val (jah u16 u17 u18 u15 u19 u20 u21 u22 u23 u24 u25 u12 u5 u11 u10 u9 u6 u13 u14 u43 u44)).2.2.2.1)),.d (.i .i64 ((val (jah u16 u17 u18 u15 u19 u20 u21 u22 u23 u24 u25 u12 u5 u11 u10 u9 u6 u13 u14 u43 u44)).2.2.2.2.1)),.d (.i .i64 ((val (jah u16 u17 u18 u15 u19 u20 u21 u22 u23 u24 u25 u12 u5 u11 u10 u9 u6 u13 u14 u43 u44)).2.2.2.2.2.1)),.d (.i .i64 ((val (jah u16 u17 u18 u15 u19 u20 u21 u22 u23 u24 u25 u12 u5 u11 u10 u9 u6 u13 u14 u43 u44)).2.2.2.2.2.2.1)),.d (.i .i64 ((val (jah u16 u17 u18 u15 u19 u20 u21 u22 u23 u24 u25 u12 u5 u11 u10 u9 u6 u13 u14 u43 u44)).2.2.2.2.2.2.2.1)),.d (.i .i64 ((val (jah u16 u17 u18 u15 u19 u20 u21 u22 u23 u24 u25 u12 u5 u11 u10 u9 u6 u13 u14 u43 u44)).2.2.2.2.2.2.2.2.1)),.d (.i .i64 ((val (jah u16 u17 u18 u15 u19 u20 u21 u22 u23 u24 u25 u12 u5 u11 u10 u9 u6 u13 u14 u43 u44)).2.2.2.2.2.2.2.2.2.1)),.d (.i .i64 ((val (jah u16 u17 u18 u15 u19 u20 u21 u22 u23 u24 u25 u12 u5 u11 u10 u9 u6 u13 u14 u43 u44)).2.2.2.2.2.2.2.2.2.2.1)),.d (.i .i64 ((val (jah u16 u17 u18 u15 u19 u20 u21 u22 u23 u24 u25 u12 u5 u11 u10 u9 u6 u13 u14 u43 u44)).2.2.2.2.2.2.2.2.2.2.2.1)),.d (.i .i64 ((val (jah u16 u17 u18 u15 u19 u20 u21 u22 u23 u24 u25 u12 u5 u11 u10 u9 u6 u13 u14 u43 u44)).2.2.2.2.2.2.2.2.2.2.2.2.1)),.d (.i .i64 ((val (jah u16 u17 u18 u15 u19 u20 u21 u22 u23 u24 u25 u12 u5 u11 u10 u9 u6 u13 u14 u43 u44)).2.2.2.2.2.2.2.2.2.2.2.2.2.1)),.d (.i .i64 ((val (jah u16 u17 u18 u15 u19 u20 u21 u22 u23 u24 u25 u12 u5 u11 u10 u9 u6 u13 u14 u43 u44)).2.2.2.2.2.2.2.2.2.2.2.2.2.2.1)),.d (.i .i64 ((val (jah u16 u17 u18 u15 u19 u20 u21 u22 u23 u24 u25 u12 u5 u11 u10 u9 u6 u13 u14 u43 u44)).2.2.2.2.2.2.2.2.2.2.2.2.2.2.2.1)),.d (.i .i64 ((val (jah u16 u17 u18 u15 u19 u20 u21 u22 u23 u24 u25 u12 u5 u11 u10 u9 u6 u13 u14 u43 u44)).2.2.2.2.2.2.2.2.2.2.2.2.2.2.2.2.1)),.d (.i .i64 ((val (jah u16 u17 u18 u15 u19 u20 u21 u22 u23 u24 u25 u12 u5 u11 u10 u9 u6 u13 u14 u43 u44)).2.2.2.2.2.2.2.2.2.2.2.2.2.2.2.2.2.1)),.d (.i .i64 ((val (jah u16 u17 u18 u15 u19 u20 u21 u22 u23 u24 u25 u12 u5 u11 u10 u9 u6 u13 u14 u43 u44)).2.2.2.2.2.2.2.2.2.2.2.2.2.2.2.2.2.2.1)),.d (.i .i64 ((val (jah u16 u17 u18 u15 u19 u20 u21 u22 u23 u24 u25 u12 u5 u11 u10 u9 u6 u13 u14 u43 u44)).2.2.2.2.2.2.2.2.2.2.2.2.2.2.2.2.2.2.2.1)),.d (.i .i64 ((val (jah u16 u17 u18 u15 u19 u20 u21 u22 u23 u24 u25 u12 u5 u11 u10 u9 u6 u13 u14 u43 u44)).2.2.2.2.2.2.2.2.2.2.2.2.2.2.2.2.2.2.2.2.1)),.d (.i .i64 ((val (jah u16 u17 u18 u15 u19 u20 u21 u22 u23 u24 u25 u12 u5 u11 u10 u9 u6 u13 u14 u43 u44)).2.2.2.2.2.2.2.2.2.2.2.2.2.2.2.2.2.2.2.2.2.1)),.d (.i .i64 ((val (jah u16 u17 u18 u15 u19 u20 u21 u22 u23 u24 u25 u12 u5 u11 u10 u9 u6 u13 u14 u43 u44)).2.2.2.2.2.2.2.2.2.2.2.2.2.2.2.2.2.2.2.2.2.2.1)),.d (.i .i64 ((val (jah u16 u17 u18 u15 u19 u20 u21 u22 u23 u24 u25 u12 u5 u11 u10 u9 u6 u13 u14 u43 u44)).2.2.2.2.2.2.2.2.2.2.2.2.2.2.2.2.2.2.2.2.2.2.2.1)),.d (.i .i64 ((val (jah u16 u17 u18 u15 u19 u20 u21 u22 u23 u24 u25 u12 u5 u11 u10 u9 u6 u13 u14 u43 u44)).2.2.2.2.2.2.2.2.2.2.2.2.2.2.2.2.2.2.2.2.2.2.2.2.1)),.d (.i .i64 ((val (jah u16 u17 u18 u15 u19 u20 u21 u22 u23 u24 u25 u12 u5 u11 u10 u9 u6 u13 u14 u43 u44)).2.2.2.2.2.2.2.2.2.2.2.2.2.2.2.2.2.2.2.2.2.2.2.2.2.1)),.d (.i .i64 ((val (jah u16 u17 u18 u15 u19 u20 u21 u22 u23 u24 u25 u12 u5 u11 u10 u9 u6 u13 u14 u43 u44)).2.2.2.2.2.2.2.2.2.2.2.2.2.2.2.2.2.2.2.2.2.2.2.2.2.2.1)),.d (.i .i64 ((val (jah u16 u17 u18 u15 u19 u20 u21 u22 u23 u24 u25 u12 u5 u11 u10 u9 u6 u13 u14 u43 u44)).2.2.2.2.2.2.2.2.2.2.2.2.2.2.2.2.2.2.2.2.2.2.2.2.2.2.2.1)),.d (.i .i64 ((val (jah u16 u17 u18 u15 u19 u20 u21 u22 u23 u24 u25 u12 u5 u11 u10 u9 u6 u13 u14 u43 u44)).2.2.2.2.2.2.2.2.2.2.2.2.2.2.2.2.2.2.2.2.2.2.2.2.2.2.2.2.1)),.d (.i .i64 ((val (jah u16 u17 u18 u15 u19 u20 u21 u22 u23 u24 u25 u12 u5 u11 u10 u9 u6 u13 u14 u43 u44)).2.2.2.2.2.2.2.2.2.2.2.2.2.2.2.2.2.2.2.2.2.2.2.2.2.2.2.2.2.1)),.d (.i .i64 ((val (jah u16 u17 u18 u15 u19 u20 u21 u22 u23 u24 u25 u12 u5 u11 u10 u9 u6 u13 u14 u43 u44)).2.2.2.2.2.2.2.2.2.2.2.2.2.2.2.2.2.2.2.2.2.2.2.2.2.2.2.2.2.2.1)),.d (.i .i64 ((val (jah u16 u17 u18 u15 u19 u20 u21 u22 u23 u24 u25 u12 u5 u11 u10 u9 u6 u13 u14 u43 u44)).2.2.2.2.2.2.2.2.2.2.2.2.2.2.2.2.2.2.2.2.2.2.2.2.2.2.2.2.2.2.2))]])
 |_=>none
abbrev jgK (u16:ByteArray) (u17:List (List NC)) (u18:List Int) (u15:Int) (u19:List (List Nat)) (u20:List (List (List Int))) (u21:List (List Nat)) (u22:List Int) (u23:List (List Nat)) (u24:List (List (List Int))) (u25:List Int) (u12:ByteArray) (u5:Int) (u11:List Int) (u10:List Int) (u9:List Int) (u6:Int) (u13:List (List Int)) (u14:Int) (u43:Int) (u44:Int) (r:Int × Int × Int × Int × Int × Int × Int × Int × Int × Int × Int × Int × Int × Int × Int × Int × Int × Int × Int × Int × Int × Int × Int × Int × Int × Int × Int × Int × Int × Int × Int × Int):Lp ((Int × Int × Int × Int × Int × Int × Int × Int × Int × Int × Int × Int × Int × Int × Int × Int × Int × Int × Int × Int × Int × Int × Int × Int × Int × Int × Int × Int × Int × Int × Int × Int × Int) × Nat) (Int × Int × Int × Int × Int × Int × Int × Int × Int × Int × Int × Int × Int × Int × Int × Int × Int × Int × Int × Int × Int × Int × Int × Int × Int × Int × Int × Int × Int × Int × Int × Int × Int) (Int × Int × Int × Int × Int × Int × Int × Int × Int × Int × Int × Int × Int × Int × Int × Int × Int × Int × Int × Int × Int × Int × Int × Int × Int × Int × Int × Int × Int × Int × Int × Int) (Int × Int × Int × Int × Int × Int × Int × Int × Int × Int × Int × Int × Int × Int × Int × Int × Int × Int × Int × Int × Int × Int × Int × Int × Int × Int × Int × Int × Int × Int × Int × Int) (Int × Int × Int × Int × Int × Int × Int × Int × Int × Int × Int × Int × Int × Int × Int × Int × Int × Int × Int × Int × Int × Int × Int × Int × Int × Int × Int × Int × Int × Int × Int × Int) :=
 ⟨fun z=>Prod.fst z,fun z=>Prod.snd z,fun z x n=>(x,n),fun z=>jdU u16 u17 u18 u15 u19 u20 u21 u22 u23 u24 u25 u11 u10 u43 u44,fun z=>jdV,fun z=>top r,fun z=>0,[.c fun _=>0,.c fun _=>u43,.c fun _=>u44,.c fun _=>0,.c fun _=>0,.c fun _=>0,.c fun vv=>vv.1.1,.c fun _=>0,.c fun _=>u15,.c fun _=>u12,.c fun _=>u5,.c fun _=>u6,.c fun _=>u14,.c fun _=>(0:Int),.c fun _=>(0:Int),.c fun _=>(0:Int),.c fun _=>(0:Int),.c fun _=>(0:Int),.c fun _=>(0:Int),.c fun _=>(0:Int),.c fun _=>(0:Int),.c fun _=>(0:Int),.c fun _=>(0:Int),.c fun _=>(0:Int),.c fun _=>(0:Int),.c fun _=>(0:Int),.c fun _=>(0:Int),.c fun _=>(0:Int),.c fun _=>(0:Int),.c fun _=>(0:Int),.c fun _=>(0:Int),.c fun _=>(0:Int),.c fun _=>(0:Int),.c fun _=>(0:Int),.c fun _=>(0:Int),.c fun _=>(0:Int),.c fun _=>(0:Int),.c fun _=>(0:Int),.c fun _=>(0:Int),.c fun _=>(0:Int),.c fun _=>(0:Int),.c fun _=>(0:Int),.c fun _=>(0:Int),.c fun _=>(0:Int),.c fun _=>(0:Int),.c fun vv=>vv.1.2.1,.c fun vv=>vv.1.2.2.1,.c fun vv=>vv.1.2.2.2.1,.c fun vv=>vv.1.2.2.2.2.1,.c fun vv=>vv.1.2.2.2.2.2.1,.c fun vv=>vv.1.2.2.2.2.2.2.1,.c fun vv=>vv.1.2.2.2.2.2.2.2.1,.c fun vv=>vv.1.2.2.2.2.2.2.2.2.1,.c fun vv=>vv.1.2.2.2.2.2.2.2.2.2.1,.c fun vv=>vv.1.2.2.2.2.2.2.2.2.2.2.1,.c fun vv=>vv.1.2.2.2.2.2.2.2.2.2.2.2.1,.c fun vv=>vv.1.2.2.2.2.2.2.2.2.2.2.2.2.1,.c fun vv=>vv.1.2.2.2.2.2.2.2.2.2.2.2.2.2.1,.c fun vv=>vv.1.2.2.2.2.2.2.2.2.2.2.2.2.2.2.1,.c fun vv=>vv.1.2.2.2.2.2.2.2.2.2.2.2.2.2.2.2.1,.c fun vv=>vv.1.2.2.2.2.2.2.2.2.2.2.2.2.2.2.2.2.1,.c fun vv=>vv.1.2.2.2.2.2.2.2.2.2.2.2.2.2.2.2.2.2.1,.c fun vv=>vv.1.2.2.2.2.2.2.2.2.2.2.2.2.2.2.2.2.2.2.1,.c fun vv=>vv.1.2.2.2.2.2.2.2.2.2.2.2.2.2.2.2.2.2.2.2.1,.c fun vv=>vv.1.2.2.2.2.2.2.2.2.2.2.2.2.2.2.2.2.2.2.2.2.1,.c fun vv=>vv.1.2.2.2.2.2.2.2.2.2.2.2.2.2.2.2.2.2.2.2.2.2.1,.c fun vv=>vv.1.2.2.2.2.2.2.2.2.2.2.2.2.2.2.2.2.2.2.2.2.2.2.1,.c fun vv=>vv.1.2.2.2.2.2.2.2.2.2.2.2.2.2.2.2.2.2.2.2.2.2.2.2.1,.c fun vv=>vv.1.2.2.2.2.2.2.2.2.2.2.2.2.2.2.2.2.2.2.2.2.2.2.2.2.1,.c fun vv=>vv.1.2.2.2.2.2.2.2.2.2.2.2.2.2.2.2.2.2.2.2.2.2.2.2.2.2.1,.c fun vv=>vv.1.2.2.2.2.2.2.2.2.2.2.2.2.2.2.2.2.2.2.2.2.2.2.2.2.2.2.1,.c fun vv=>vv.1.2.2.2.2.2.2.2.2.2.2.2.2.2.2.2.2.2.2.2.2.2.2.2.2.2.2.2.1,.c fun vv=>vv.1.2.2.2.2.2.2.2.2.2.2.2.2.2.2.2.2.2.2.2.2.2.2.2.2.2.2.2.2.1,.c fun vv=>vv.1.2.2.2.2.2.2.2.2.2.2.2.2.2.2.2.2.2.2.2.2.2.2.2.2.2.2.2.2.2.1,.c fun vv=>vv.1.2.2.2.2.2.2.2.2.2.2.2.2.2.2.2.2.2.2.2.2.2.2.2.2.2.2.2.2.2.2.1,.c fun vv=>vv.1.2.2.2.2.2.2.2.2.2.2.2.2.2.2.2.2.2.2.2.2.2.2.2.2.2.2.2.2.2.2.2.1,.c fun vv=>vv.1.2.2.2.2.2.2.2.2.2.2.2.2.2.2.2.2.2.2.2.2.2.2.2.2.2.2.2.2.2.2.2.2,.c fun _=>u16,.c fun _=>u19,.c fun _=>u20,.c fun _=>u21,.c fun _=>u22,.c fun _=>u23,.c fun _=>u24,.c fun _=>u25,.c fun _=>u11,.c fun _=>u10,.c fun _=>u9,.c fun _=>u13,.c fun _=>u17,.c fun _=>u18]⟩
def jm9 (u16:ByteArray) (u17:List (List NC)) (u18:List Int) (u15:Int) (u19:List (List Nat)) (u20:List (List (List Int))) (u21:List (List Nat)) (u22:List Int) (u23:List (List Nat)) (u24:List (List (List Int))) (u25:List Int) (u12:ByteArray) (u5:Int) (u11:List Int) (u10:List Int) (u9:List Int) (u6:Int) (u13:List (List Int)) (u14:Int) (u43:Int) (u44:Int) (r:Int × Int × Int × Int × Int × Int × Int × Int × Int × Int × Int × Int × Int × Int × Int × Int × Int × Int × Int × Int × Int × Int × Int × Int × Int × Int × Int × Int × Int × Int × Int × Int):Sk (top r) (Option.bind (jag (jdU u16 u17 u18 u15 u19 u20 u21 u22 u23 u24 u25 u11 u10 u43 u44) big (((0:Int),0,0,0,0,0,0,0,0,0,0,0,0,0,0,0,0,0,0,0,0,0,0,0,0,0,0,0,0,0,0,0,0))) (jdV)) :=
 .loop (jgK u16 u17 u18 u15 u19 u20 u21 u22 u23 u24 u25 u12 u5 u11 u10 u9 u6 u13 u14 u43 u44 r) (fun kk=>(((0:Int),0,0,0,0,0,0,0,0,0,0,0,0,0,0,0,0,0,0,0,0,0,0,0,0,0,0,0,0,0,0,0,0),big)) fun z0 =>
 .br
 (.ob (.ob (.ob (.ob (.call (.ob (.ob (.next))))))))
 (.exit (.obT (.rc)))
def jos (u16:ByteArray) (u17:List (List NC)) (u18:List Int) (u15:Int) (u19:List (List Nat)) (u20:List (List (List Int))) (u21:List (List Nat)) (u22:List Int) (u23:List (List Nat)) (u24:List (List (List Int))) (u25:List Int) (u12:ByteArray) (u5:Int) (u11:List Int) (u10:List Int) (u9:List Int) (u6:Int) (u13:List (List Int)) (u14:Int) (u43:Int) (u44:Int) (r:Int × Int × Int × Int × Int × Int × Int × Int × Int × Int × Int × Int × Int × Int × Int × Int × Int × Int × Int × Int × Int × Int × Int × Int × Int × Int × Int × Int × Int × Int × Int × Int):Sk (top r) (jah u16 u17 u18 u15 u19 u20 u21 u22 u23 u24 u25 u12 u5 u11 u10 u9 u6 u13 u14 u43 u44) :=
 jm9 u16 u17 u18 u15 u19 u20 u21 u22 u23 u24 u25 u12 u5 u11 u10 u9 u6 u13 u14 u43 u44 r
theorem jna (u16:ByteArray) (u17:List (List NC)) (u18:List Int) (u15:Int) (u19:List (List Nat)) (u20:List (List (List Int))) (u21:List (List Nat)) (u22:List Int) (u23:List (List Nat)) (u24:List (List (List Int))) (u25:List Int) (u12:ByteArray) (u5:Int) (u11:List Int) (u10:List Int) (u9:List Int) (u6:Int) (u13:List (List Int)) (u14:Int) (u43:Int) (u44:Int) (r:Int × Int × Int × Int × Int × Int × Int × Int × Int × Int × Int × Int × Int × Int × Int × Int × Int × Int × Int × Int × Int × Int × Int × Int × Int × Int × Int × Int × Int × Int × Int × Int) (h:Option.bind (jah u16 u17 u18 u15 u19 u20 u21 u22 u23 u24 u25 u12 u5 u11 u10 u9 u6 u13 u14 u43 u44) some=some r):ja8 Tryz.f148 ((sp_149 sp0)) (fun gs id _=>match id with
 |0=>some ⟨(Int × Int × Int × Int × Int × Int × Int × Int × Int × Int × Int × Int × Int × Int × Int × Int × Int × Int × Int × Int × Int × Int × Int × Int × Int × Int × Int × Int × Int × Int × Int × Int × Int) × Nat,fun z=>⟨[(0,.w (.c (.p 10 0 1 0))),(2,.w (.c (.d (.i .i64 u43)))),(3,.w (.c (.d (.i .i64 u44)))),(5,.w (.c (.p 15 0 1 0))),(8,.w (.c (.p 16 0 1 0))),(9,.w (.c (.p 17 0 1 0))),(11,.w (.c (.d (.i .i64 (Prod.fst (Prod.fst z))))))],[(10,.ebox [.p 2 0 1 0,.d (.i .i64 u15),.o 3,.o 4,.o 5,.o 6,.o 7,.o 8,.o 9]),(15,.box 118 [.d (.s u12),.d (.i .i64 u5),.o 11,.o 12,.o 13,.d (.i .i64 u6),.o 14,.d (.i .i64 u14)]),(16,.box 206 [.d (.i .i64 0),.d (.i .i64 0),.d (.i .i64 0),.d (.i .i64 0),.d (.i .i64 0),.d (.i .i64 0),.d (.i .i64 0),.d (.i .i64 0),.d (.i .i64 0),.d (.i .i64 0),.d (.i .i64 0),.d (.i .i64 0),.d (.i .i64 0),.d (.i .i64 0),.d (.i .i64 0),.d (.i .i64 0),.d (.i .i64 0),.d (.i .i64 0),.d (.i .i64 0),.d (.i .i64 0),.d (.i .i64 0),.d (.i .i64 0),.d (.i .i64 0),.d (.i .i64 0),.d (.i .i64 0),.d (.i .i64 0),.d (.i .i64 0),.d (.i .i64 0),.d (.i .i64 0),.d (.i .i64 0),.d (.i .i64 0),.d (.i .i64 0)]),(17,.box 206 [.d (.i .i64 (Prod.fst (Prod.snd (Prod.fst z)))),.d (.i .i64 (Prod.fst (Prod.snd (Prod.snd (Prod.fst z))))),.d (.i .i64 (Prod.fst (Prod.snd (Prod.snd (Prod.snd (Prod.fst z)))))),.d (.i .i64 (Prod.fst (Prod.snd (Prod.snd (Prod.snd (Prod.snd (Prod.fst z))))))),.d (.i .i64 (Prod.fst (Prod.snd (Prod.snd (Prod.snd (Prod.snd (Prod.snd (Prod.fst z)))))))),.d (.i .i64 (Prod.fst (Prod.snd (Prod.snd (Prod.snd (Prod.snd (Prod.snd (Prod.snd (Prod.fst z))))))))),.d (.i .i64 (Prod.fst (Prod.snd (Prod.snd (Prod.snd (Prod.snd (Prod.snd (Prod.snd (Prod.snd (Prod.fst z)))))))))),.d (.i .i64 (Prod.fst (Prod.snd (Prod.snd (Prod.snd (Prod.snd (Prod.snd (Prod.snd (Prod.snd (Prod.snd (Prod.fst z))))))))))),.d (.i .i64 (Prod.fst (Prod.snd (Prod.snd (Prod.snd (Prod.snd (Prod.snd (Prod.snd (Prod.snd (Prod.snd (Prod.snd (Prod.fst z)))))))))))),.d (.i .i64 (Prod.fst (Prod.snd (Prod.snd (Prod.snd (Prod.snd (Prod.snd (Prod.snd (Prod.snd (Prod.snd (Prod.snd (Prod.snd (Prod.fst z))))))))))))),.d (.i .i64 (Prod.fst (Prod.snd (Prod.snd (Prod.snd (Prod.snd (Prod.snd (Prod.snd (Prod.snd (Prod.snd (Prod.snd (Prod.snd (Prod.snd (Prod.fst z)))))))))))))),.d (.i .i64 (Prod.fst (Prod.snd (Prod.snd (Prod.snd (Prod.snd (Prod.snd (Prod.snd (Prod.snd (Prod.snd (Prod.snd (Prod.snd (Prod.snd (Prod.snd (Prod.fst z))))))))))))))),.d (.i .i64 (Prod.fst (Prod.snd (Prod.snd (Prod.snd (Prod.snd (Prod.snd (Prod.snd (Prod.snd (Prod.snd (Prod.snd (Prod.snd (Prod.snd (Prod.snd (Prod.snd (Prod.fst z)))))))))))))))),.d (.i .i64 (Prod.fst (Prod.snd (Prod.snd (Prod.snd (Prod.snd (Prod.snd (Prod.snd (Prod.snd (Prod.snd (Prod.snd (Prod.snd (Prod.snd (Prod.snd (Prod.snd (Prod.snd (Prod.fst z))))))))))))))))),.d (.i .i64 (Prod.fst (Prod.snd (Prod.snd (Prod.snd (Prod.snd (Prod.snd (Prod.snd (Prod.snd (Prod.snd (Prod.snd (Prod.snd (Prod.snd (Prod.snd (Prod.snd (Prod.snd (Prod.snd (Prod.fst z)))))))))))))))))),.d (.i .i64 (Prod.fst (Prod.snd (Prod.snd (Prod.snd (Prod.snd (Prod.snd (Prod.snd (Prod.snd (Prod.snd (Prod.snd (Prod.snd (Prod.snd (Prod.snd (Prod.snd (Prod.snd (Prod.snd (Prod.snd (Prod.fst z))))))))))))))))))),.d (.i .i64 (Prod.fst (Prod.snd (Prod.snd (Prod.snd (Prod.snd (Prod.snd (Prod.snd (Prod.snd (Prod.snd (Prod.snd (Prod.snd (Prod.snd (Prod.snd (Prod.snd (Prod.snd (Prod.snd (Prod.snd (Prod.snd (Prod.fst z)))))))))))))))))))),.d (.i .i64 (Prod.fst (Prod.snd (Prod.snd (Prod.snd (Prod.snd (Prod.snd (Prod.snd (Prod.snd (Prod.snd (Prod.snd (Prod.snd (Prod.snd (Prod.snd (Prod.snd (Prod.snd (Prod.snd (Prod.snd (Prod.snd (Prod.snd (Prod.fst z))))))))))))))))))))),.d (.i .i64 (Prod.fst (Prod.snd (Prod.snd (Prod.snd (Prod.snd (Prod.snd (Prod.snd (Prod.snd (Prod.snd (Prod.snd (Prod.snd (Prod.snd (Prod.snd (Prod.snd (Prod.snd (Prod.snd (Prod.snd (Prod.snd (Prod.snd (Prod.snd (Prod.fst z)))))))))))))))))))))),.d (.i .i64 (Prod.fst (Prod.snd (Prod.snd (Prod.snd (Prod.snd (Prod.snd (Prod.snd (Prod.snd (Prod.snd (Prod.snd (Prod.snd (Prod.snd (Prod.snd (Prod.snd (Prod.snd (Prod.snd (Prod.snd (Prod.snd (Prod.snd (Prod.snd (Prod.snd (Prod.fst z))))))))))))))))))))))),.d (.i .i64 (Prod.fst (Prod.snd (Prod.snd (Prod.snd (Prod.snd (Prod.snd (Prod.snd (Prod.snd (Prod.snd (Prod.snd (Prod.snd (Prod.snd (Prod.snd (Prod.snd (Prod.snd (Prod.snd (Prod.snd (Prod.snd (Prod.snd (Prod.snd (Prod.snd (Prod.snd (Prod.fst z)))))))))))))))))))))))),.d (.i .i64 (Prod.fst (Prod.snd (Prod.snd (Prod.snd (Prod.snd (Prod.snd (Prod.snd (Prod.snd (Prod.snd (Prod.snd (Prod.snd (Prod.snd (Prod.snd (Prod.snd (Prod.snd (Prod.snd (Prod.snd (Prod.snd (Prod.snd (Prod.snd (Prod.snd (Prod.snd (Prod.snd (Prod.fst z))))))))))))))))))))))))),.d (.i .i64 (Prod.fst (Prod.snd (Prod.snd (Prod.snd (Prod.snd (Prod.snd (Prod.snd (Prod.snd (Prod.snd (Prod.snd (Prod.snd (Prod.snd (Prod.snd (Prod.snd (Prod.snd (Prod.snd (Prod.snd (Prod.snd (Prod.snd (Prod.snd (Prod.snd (Prod.snd (Prod.snd (Prod.snd (Prod.fst z)))))))))))))))))))))))))),.d (.i .i64 (Prod.fst (Prod.snd (Prod.snd (Prod.snd (Prod.snd (Prod.snd (Prod.snd (Prod.snd (Prod.snd (Prod.snd (Prod.snd (Prod.snd (Prod.snd (Prod.snd (Prod.snd (Prod.snd (Prod.snd (Prod.snd (Prod.snd (Prod.snd (Prod.snd (Prod.snd (Prod.snd (Prod.snd (Prod.snd (Prod.fst z))))))))))))))))))))))))))),.d (.i .i64 (Prod.fst (Prod.snd (Prod.snd (Prod.snd (Prod.snd (Prod.snd (Prod.snd (Prod.snd (Prod.snd (Prod.snd (Prod.snd (Prod.snd (Prod.snd (Prod.snd (Prod.snd (Prod.snd (Prod.snd (Prod.snd (Prod.snd (Prod.snd (Prod.snd (Prod.snd (Prod.snd (Prod.snd (Prod.snd (Prod.snd (Prod.fst z)))))))))))))))))))))))))))),.d (.i .i64 (Prod.fst (Prod.snd (Prod.snd (Prod.snd (Prod.snd (Prod.snd (Prod.snd (Prod.snd (Prod.snd (Prod.snd (Prod.snd (Prod.snd (Prod.snd (Prod.snd (Prod.snd (Prod.snd (Prod.snd (Prod.snd (Prod.snd (Prod.snd (Prod.snd (Prod.snd (Prod.snd (Prod.snd (Prod.snd (Prod.snd (Prod.snd (Prod.fst z))))))))))))))))))))))))))))),.d (.i .i64 (Prod.fst (Prod.snd (Prod.snd (Prod.snd (Prod.snd (Prod.snd (Prod.snd (Prod.snd (Prod.snd (Prod.snd (Prod.snd (Prod.snd (Prod.snd (Prod.snd (Prod.snd (Prod.snd (Prod.snd (Prod.snd (Prod.snd (Prod.snd (Prod.snd (Prod.snd (Prod.snd (Prod.snd (Prod.snd (Prod.snd (Prod.snd (Prod.snd (Prod.fst z)))))))))))))))))))))))))))))),.d (.i .i64 (Prod.fst (Prod.snd (Prod.snd (Prod.snd (Prod.snd (Prod.snd (Prod.snd (Prod.snd (Prod.snd (Prod.snd (Prod.snd (Prod.snd (Prod.snd (Prod.snd (Prod.snd (Prod.snd (Prod.snd (Prod.snd (Prod.snd (Prod.snd (Prod.snd (Prod.snd (Prod.snd (Prod.snd (Prod.snd (Prod.snd (Prod.snd (Prod.snd (Prod.snd (Prod.fst z))))))))))))))))))))))))))))))),.d (.i .i64 (Prod.fst (Prod.snd (Prod.snd (Prod.snd (Prod.snd (Prod.snd (Prod.snd (Prod.snd (Prod.snd (Prod.snd (Prod.snd (Prod.snd (Prod.snd (Prod.snd (Prod.snd (Prod.snd (Prod.snd (Prod.snd (Prod.snd (Prod.snd (Prod.snd (Prod.snd (Prod.snd (Prod.snd (Prod.snd (Prod.snd (Prod.snd (Prod.snd (Prod.snd (Prod.snd (Prod.fst z)))))))))))))))))))))))))))))))),.d (.i .i64 (Prod.fst (Prod.snd (Prod.snd (Prod.snd (Prod.snd (Prod.snd (Prod.snd (Prod.snd (Prod.snd (Prod.snd (Prod.snd (Prod.snd (Prod.snd (Prod.snd (Prod.snd (Prod.snd (Prod.snd (Prod.snd (Prod.snd (Prod.snd (Prod.snd (Prod.snd (Prod.snd (Prod.snd (Prod.snd (Prod.snd (Prod.snd (Prod.snd (Prod.snd (Prod.snd (Prod.snd (Prod.fst z))))))))))))))))))))))))))))))))),.d (.i .i64 (Prod.fst (Prod.snd (Prod.snd (Prod.snd (Prod.snd (Prod.snd (Prod.snd (Prod.snd (Prod.snd (Prod.snd (Prod.snd (Prod.snd (Prod.snd (Prod.snd (Prod.snd (Prod.snd (Prod.snd (Prod.snd (Prod.snd (Prod.snd (Prod.snd (Prod.snd (Prod.snd (Prod.snd (Prod.snd (Prod.snd (Prod.snd (Prod.snd (Prod.snd (Prod.snd (Prod.snd (Prod.snd (Prod.fst z)))))))))))))))))))))))))))))))))),.d (.i .i64 (Prod.snd (Prod.snd (Prod.snd (Prod.snd (Prod.snd (Prod.snd (Prod.snd (Prod.snd (Prod.snd (Prod.snd (Prod.snd (Prod.snd (Prod.snd (Prod.snd (Prod.snd (Prod.snd (Prod.snd (Prod.snd (Prod.snd (Prod.snd (Prod.snd (Prod.snd (Prod.snd (Prod.snd (Prod.snd (Prod.snd (Prod.snd (Prod.snd (Prod.snd (Prod.snd (Prod.snd (Prod.snd (Prod.fst z))))))))))))))))))))))))))))))))))]),(2,.ebox [.d (.s u16),.o 0,.o 1]),(3,.xext (XC.ff .f32 u19)),(4,.xext (XC.rr (4:Nat) u20)),(5,.ext (.frs .f32 32 u21)),(6,.ext (.ints .i64 u22)),(7,.ext (.frs .f32 32 u23)),(8,.xext (XC.rr (4:Nat) u24)),(9,.ext (.ints .i64 u25)),(11,.ext (.ints .i64 u11)),(12,.ext (.ints .i64 u10)),(13,.ext (.ints .i64 u9)),(14,.ext (.recs 5 u13)),(0,.xext (XC.st [NK.s,NK.i .i64,NK.ints .i64,NK.ints .i64,NK.ints .i64,NK.i .i64,NK.recs (5:Nat),NK.i .i64] u17)),(1,.ext (.ints .i64 u18))],18⟩,fun z=>(jgK u16 u17 u18 u15 u19 u20 u21 u22 u23 u24 u25 u12 u5 u11 u10 u9 u6 u13 u14 u43 u44 r).inv z,fun z=>Prod.snd z⟩
 |_=>none) (ja5 jes [.d (.s u16),.x (.st [.s,.i .i64,.ints .i64,.ints .i64,.ints .i64,.i .i64,.recs 5,.i .i64] u17),.r (.ints .i64 u18),.d (.i .i64 u15),.x (.ff .f32 u19),.x (.rr 4 u20),.r (.frs .f32 32 u21),.r (.ints .i64 u22),.r (.frs .f32 32 u23),.x (.rr 4 u24),.r (.ints .i64 u25),.d (.s u12),.d (.i .i64 u5),.r (.ints .i64 u11),.r (.ints .i64 u10),.r (.ints .i64 u9),.d (.i .i64 u6),.r (.recs 5 u13),.d (.i .i64 u14),.d (.i .i64 u43),.d (.i .i64 u44)]) [.s [.d (.i .i64 r.1),.d (.i .i64 r.2.1),.d (.i .i64 r.2.2.1),.d (.i .i64 r.2.2.2.1),.d (.i .i64 r.2.2.2.2.1),.d (.i .i64 r.2.2.2.2.2.1),.d (.i .i64 r.2.2.2.2.2.2.1),.d (.i .i64 r.2.2.2.2.2.2.2.1),.d (.i .i64 r.2.2.2.2.2.2.2.2.1),.d (.i .i64 r.2.2.2.2.2.2.2.2.2.1),.d (.i .i64 r.2.2.2.2.2.2.2.2.2.2.1),.d (.i .i64 r.2.2.2.2.2.2.2.2.2.2.2.1),.d (.i .i64 r.2.2.2.2.2.2.2.2.2.2.2.2.1),.d (.i .i64 r.2.2.2.2.2.2.2.2.2.2.2.2.2.1),.d (.i .i64 r.2.2.2.2.2.2.2.2.2.2.2.2.2.2.1),.d (.i .i64 r.2.2.2.2.2.2.2.2.2.2.2.2.2.2.2.1),.d (.i .i64 r.2.2.2.2.2.2.2.2.2.2.2.2.2.2.2.2.1),.d (.i .i64 r.2.2.2.2.2.2.2.2.2.2.2.2.2.2.2.2.2.1),.d (.i .i64 r.2.2.2.2.2.2.2.2.2.2.2.2.2.2.2.2.2.2.1),.d (.i .i64 r.2.2.2.2.2.2.2.2.2.2.2.2.2.2.2.2.2.2.2.1),.d (.i .i64 r.2.2.2.2.2.2.2.2.2.2.2.2.2.2.2.2.2.2.2.2.1),.d (.i .i64 r.2.2.2.2.2.2.2.2.2.2.2.2.2.2.2.2.2.2.2.2.2.1),.d (.i .i64 r.2.2.2.2.2.2.2.2.2.2.2.2.2.2.2.2.2.2.2.2.2.2.1),.d (.i .i64 r.2.2.2.2.2.2.2.2.2.2.2.2.2.2.2.2.2.2.2.2.2.2.2.1),.d (.i .i64 r.2.2.2.2.2.2.2.2.2.2.2.2.2.2.2.2.2.2.2.2.2.2.2.2.1),.d (.i .i64 r.2.2.2.2.2.2.2.2.2.2.2.2.2.2.2.2.2.2.2.2.2.2.2.2.2.1),.d (.i .i64 r.2.2.2.2.2.2.2.2.2.2.2.2.2.2.2.2.2.2.2.2.2.2.2.2.2.2.1),.d (.i .i64 r.2.2.2.2.2.2.2.2.2.2.2.2.2.2.2.2.2.2.2.2.2.2.2.2.2.2.2.1),.d (.i .i64 r.2.2.2.2.2.2.2.2.2.2.2.2.2.2.2.2.2.2.2.2.2.2.2.2.2.2.2.2.1),.d (.i .i64 r.2.2.2.2.2.2.2.2.2.2.2.2.2.2.2.2.2.2.2.2.2.2.2.2.2.2.2.2.2.1),.d (.i .i64 r.2.2.2.2.2.2.2.2.2.2.2.2.2.2.2.2.2.2.2.2.2.2.2.2.2.2.2.2.2.2.1),.d (.i .i64 r.2.2.2.2.2.2.2.2.2.2.2.2.2.2.2.2.2.2.2.2.2.2.2.2.2.2.2.2.2.2.2)]] :=
 Sk.vc (jos u16 u17 u18 u15 u19 u20 u21 u22 u23 u24 u25 u12 u5 u11 u10 u9 u6 u13 u14 u43 u44 r) (by kernel_rfl) h
theorem jnb:jaf Tryz.prog 148 true (jak jes jet):=by
 refine jaw (sp:=(sp_149 sp0)) (fn:=Tryz.f148) (body:=bodyOf Tryz.f148) mixed (sp_149_ok jau) Tryz.func148 (by kernel_rfl) (by kernel_rfl) fun ls t h ho b hb=>?_
 unfold jet at h
 split at h
 ·rename_i u16 u17 u18 u15 u19 u20 u21 u22 u23 u24 u25 u12 u5 u11 u10 u9 u6 u13 u14 u43 u44
  cases h
  obtain rfl:=jaM hb
  exact⟨Nat.le_of_ble_eq_true (by kernel_rfl),_,_,jna u16 u17 u18 u15 u19 u20 u21 u22 u23 u24 u25 u12 u5 u11 u10 u9 u6 u13 u14 u43 u44 _ (jap ho)⟩
 ·cases h
end Go.Sh
end

section
namespace Go.Sh
open Go Go.Proofs Go.RowKit Go.Sx
open Go.IntKind (wrap)
def jeu:List SV:=[.c (.p [.p [.d,.x (.st [.s,.i .i64,.ints .i64,.ints .i64,.ints .i64,.i .i64,.recs 5,.i .i64] []),.r (.ints .i64 [])],.d,.x (.ff .f32 []),.x (.rr 4 []),.r (.frs .f32 32 []),.r (.ints .i64 []),.r (.frs .f32 32 []),.x (.rr 4 []),.r (.ints .i64 [])])]
def jgL (u16:ByteArray) (u17:List (List NC)) (u18:List Int) (u15:Int) (u19:List (List Nat)) (u20:List (List (List Int))) (u21:List (List Nat)) (u22:List Int) (u23:List (List Nat)) (u24:List (List (List Int))) (u25:List Int) (x0:Int × List (List Nat)) (x1:(Int × List Nat)):Option ((Int × List Nat) ⊕ (List Nat)) :=
 if x1.1<32 then
  Option.bind (jpx u16 u17 u18 u15 u19 u20 u21 u22 u23 u24 u25 x0.1 x1.1) fun r0 =>
  if(List.length x1.2+List.length [FloatKind.nearest .f32 r0])*4≤140737488355328∧List.length x1.2+List.length [FloatKind.nearest .f32 r0]≤9223372036854775807 then
  some (.inl ((wrap .i64 (x1.1+1),x1.2++[FloatKind.nearest .f32 r0])))
  else none
 else
  some (.inr x1.2)
def jgM (x0:Int × List (List Nat)) (u29:List Nat):Option ((Int × List (List Nat)) ⊕ (List (List Nat))) :=
 if(List.length x0.2+List.length (List.map (fun r=>NC.toFlts (List.headD r (NC.d (D.v undef)))) [[NC.r (Cont.floats .f32 u29)]]))*24≤140737488355328∧List.length x0.2+List.length (List.map (fun r=>NC.toFlts (List.headD r (NC.d (D.v undef)))) [[NC.r (Cont.floats .f32 u29)]])≤9223372036854775807 then
  some (.inl ((wrap .i64 (x0.1+1),x0.2++List.map (fun r=>NC.toFlts (List.headD r (NC.d (D.v undef)))) [[NC.r (Cont.floats .f32 u29)]])))
 else none
def jdW (u16:ByteArray) (u17:List (List NC)) (u18:List Int) (u15:Int) (u19:List (List Nat)) (u20:List (List (List Int))) (u21:List (List Nat)) (u22:List Int) (u23:List (List Nat)) (u24:List (List (List Int))) (u25:List Int) (x0:(Int × List (List Nat))):Option ((Int × List (List Nat)) ⊕ (List (List Nat))) :=
 if x0.1<(↑(List.length u17):Int)then
  Option.bind (jag (jgL u16 u17 u18 u15 u19 u20 u21 u22 u23 u24 u25 x0) big (((-96:Int),[]))) (jgM x0)
 else
  some (.inr x0.2)
def jdX (u15:Int) (u3:List (List Nat)):Option (Int × List (List Nat)) :=
 some ((wrap .i64 (u15+1),u3))
def jca (u16:ByteArray) (u17:List (List NC)) (u18:List Int) (u15:Int) (u19:List (List Nat)) (u20:List (List (List Int))) (u21:List (List Nat)) (u22:List Int) (u23:List (List Nat)) (u24:List (List (List Int))) (u25:List Int):Option (Int × List (List Nat)) :=
 Option.bind (jag (jdW u16 u17 u18 u15 u19 u20 u21 u22 u23 u24 u25) big (((0:Int),[]))) (jdX u15)
def jev:List Lf→Option GT
 |[.d (.s u16),.x (.st [.s,.i .i64,.ints .i64,.ints .i64,.ints .i64,.i .i64,.recs 5,.i .i64] u17),.r (.ints .i64 u18),.d (.i .i64 u15),.x (.ff .f32 u19),.x (.rr 4 u20),.r (.frs .f32 32 u21),.r (.ints .i64 u22),.r (.frs .f32 32 u23),.x (.rr 4 u24),.r (.ints .i64 u25)]=>some (.leaf (ok (jca u16 u17 u18 u15 u19 u20 u21 u22 u23 u24 u25)) [.s [.d (.i .i64 ((val (jca u16 u17 u18 u15 u19 u20 u21 u22 u23 u24 u25)).1)),.x 157 (.ff .f32 ((val (jca u16 u17 u18 u15 u19 u20 u21 u22 u23 u24 u25)).2)),.g 8]])
 |_=>none
abbrev jdY (u16:ByteArray) (u17:List (List NC)) (u18:List Int) (u15:Int) (u19:List (List Nat)) (u20:List (List (List Int))) (u21:List (List Nat)) (u22:List Int) (u23:List (List Nat)) (u24:List (List (List Int))) (u25:List Int) (r:Int × List (List Nat)):Lp ((Int × List (List Nat)) × Nat) ((Int × List (List Nat))) ((List (List Nat))) ((Int × List (List Nat))) (Int × List (List Nat)) :=
 ⟨fun z=>Prod.fst z,fun z=>Prod.snd z,fun z x n=>(x,n),fun z=>jdW u16 u17 u18 u15 u19 u20 u21 u22 u23 u24 u25,fun z=>jdX u15,fun z=>top r,fun z=>0,[.c fun _=>0,.c fun _=>0,.c fun _=>0,.c fun _=>(↑(List.length u17):Int),.c fun vv=>vv.1.1,.c fun _=>0,.c fun _=>u15,.c fun _=>(0:Int),.c fun _=>Value.slice none (0:Nat) (0:Nat),.c fun _=>Value.slice none (0:Nat) (0:Nat),.c fun _=>wrap .i64 (u15+1),.c fun _=>u16,.c fun _=>u19,.c fun _=>u20,.c fun _=>u21,.c fun _=>u22,.c fun _=>u23,.c fun _=>u24,.c fun _=>u25,.c fun vv=>vv.1.2,.c fun _=>u17,.c fun _=>u18]⟩
abbrev jgN (u16:ByteArray) (u17:List (List NC)) (u18:List Int) (u15:Int) (u19:List (List Nat)) (u20:List (List (List Int))) (u21:List (List Nat)) (u22:List Int) (u23:List (List Nat)) (u24:List (List (List Int))) (u25:List Int) (r:Int × List (List Nat)) (m1:Nat):Lp ((Int × List (List Nat)) × Nat × (Int × List Nat) × Nat) (Int × List Nat) (List Nat) (((Int × List (List Nat)) ⊕ (List (List Nat)))) (Int × List (List Nat)) :=
 ⟨fun z=>Prod.fst (Prod.snd (Prod.snd z)),fun z=>Prod.snd (Prod.snd (Prod.snd z)),fun z x n=>(Prod.fst z,Prod.fst (Prod.snd z),x,n),fun z=>jgL u16 u17 u18 u15 u19 u20 u21 u22 u23 u24 u25 (Prod.fst z),fun z=>jgM (Prod.fst z),fun z=>(jdY u16 u17 u18 u15 u19 u20 u21 u22 u23 u24 u25 r).cx (Prod.fst z,m1),fun z=>Prod.fst (Prod.snd z),[.c fun _=>0,.c fun _=>0,.c fun _=>0,.c fun vv=>vv.1.1,.c fun vv=>vv.2.2.1.1,.c fun _=>(↑(List.length u17):Int),.c fun vv=>vv.1.1,.c fun _=>0,.c fun _=>u15,.c fun _=>(0:Int),.c fun _=>Value.slice none (0:Nat) (0:Nat),.c fun _=>Value.slice none (0:Nat) (0:Nat),.c fun _=>wrap .i64 (u15+1),.c fun vv=>vv.2.2.1.2,.c fun _=>u16,.c fun _=>u19,.c fun _=>u20,.c fun _=>u21,.c fun _=>u22,.c fun _=>u23,.c fun _=>u24,.c fun _=>u25,.c fun vv=>vv.1.2,.c fun _=>u17,.c fun _=>u18]⟩
def jnc (u16:ByteArray) (u17:List (List NC)) (u18:List Int) (u15:Int) (u19:List (List Nat)) (u20:List (List (List Int))) (u21:List (List Nat)) (u22:List Int) (u23:List (List Nat)) (u24:List (List (List Int))) (u25:List Int) (r:Int × List (List Nat)):Sk (top r) (Option.bind (jag (jdW u16 u17 u18 u15 u19 u20 u21 u22 u23 u24 u25) big (((0:Int),[]))) (jdX u15)) :=
 .loopQ (jdY u16 u17 u18 u15 u19 u20 u21 u22 u23 u24 u25 r) [.c fun _=>0,.c fun _=>0,.c fun _=>0,.c fun _=>(↑(List.length u17):Int),.c fun vv=>vv.1.1,.c fun _=>0,.c fun _=>u15,.c fun _=>(0:Int),.c fun _=>Value.slice none (0:Nat) (0:Nat),.c fun _=>Value.slice none (0:Nat) (0:Nat),.c fun _=>wrap .i64 (u15+1),.c fun _=>u16,.c fun _=>u19,.c fun _=>u20,.c fun _=>u21,.c fun _=>u22,.c fun _=>u23,.c fun _=>u24,.c fun _=>u25,.p fun vv=>List.length vv.1.2=(0:Nat),.c fun _=>u17,.c fun _=>u18] (fun kk=>(((0:Int),[]),big)) (fun z0 =>
 .br
 (.loopQ (jgN u16 u17 u18 u15 u19 u20 u21 u22 u23 u24 u25 r (Prod.snd z0)) [.c fun _=>0,.c fun _=>0,.c fun _=>0,.c fun vv=>vv.1.1,.c fun vv=>vv.2.2.1.1,.c fun _=>(↑(List.length u17):Int),.c fun vv=>vv.1.1,.c fun _=>0,.c fun _=>u15,.c fun _=>(0:Int),.c fun _=>Value.slice none (0:Nat) (0:Nat),.c fun _=>Value.slice none (0:Nat) (0:Nat),.c fun _=>wrap .i64 (u15+1),.p fun vv=>List.length vv.2.2.1.2=(0:Nat),.c fun _=>u16,.c fun _=>u19,.c fun _=>u20,.c fun _=>u21,.c fun _=>u22,.c fun _=>u23,.c fun _=>u24,.c fun _=>u25,.c fun vv=>vv.1.2,.c fun _=>u17,.c fun _=>u18] (fun kk=>(Prod.fst z0,kk,((-96:Int),[]),big)) (fun z1 =>
 .br
 (.call (.obT (.ob (.next))))
 (.exit (.ob (.next)))) (fun _=>⟨rfl,trivial⟩))
 (.exit (.obT (.rc)))) (fun _=>⟨rfl,trivial⟩)
def jot (u16:ByteArray) (u17:List (List NC)) (u18:List Int) (u15:Int) (u19:List (List Nat)) (u20:List (List (List Int))) (u21:List (List Nat)) (u22:List Int) (u23:List (List Nat)) (u24:List (List (List Int))) (u25:List Int) (r:Int × List (List Nat)):Sk (top r) (jca u16 u17 u18 u15 u19 u20 u21 u22 u23 u24 u25) :=
 .obT (.obT (.obT (.obT (jnc u16 u17 u18 u15 u19 u20 u21 u22 u23 u24 u25 r))))
theorem jnd (u16:ByteArray) (u17:List (List NC)) (u18:List Int) (u15:Int) (u19:List (List Nat)) (u20:List (List (List Int))) (u21:List (List Nat)) (u22:List Int) (u23:List (List Nat)) (u24:List (List (List Int))) (u25:List Int) (r:Int × List (List Nat)) (h:Option.bind (jca u16 u17 u18 u15 u19 u20 u21 u22 u23 u24 u25) some=some r):ja8 Tryz.f106 ((sp_149 sp0)) (fun gs id _=>match id with
 |0=>some ⟨(Int × List (List Nat)) × Nat,fun z=>⟨[(0,.w (.c (.p 10 0 1 0))),(2,.w (.c (.p 11 0 1 0))),(3,.w (.c (.p 12 0 1 0))),(26,.w (.c (.d (.i .i64 ((↑(List.length u17):Int)))))),(27,.w (.c (.d (.i .i64 (Prod.fst (Prod.fst z))))))],[(10,.ebox [.p 2 0 1 0,.d (.i .i64 u15),.o 3,.o 4,.o 5,.o 6,.o 7,.o 8,.o 9]),(11,.box 78 [.d (.i .i64 0),.d (.v (Value.slice none (0:Nat) (0:Nat))),.d (.v (Value.slice none (0:Nat) (0:Nat)))]),(12,.box 78 [.d (.i .i64 (wrap .i64 (u15+1))),.o 13,.o 8]),(2,.ebox [.d (.s u16),.o 0,.o 1]),(3,.xext (XC.ff .f32 u19)),(4,.xext (XC.rr (4:Nat) u20)),(5,.ext (.frs .f32 32 u21)),(6,.ext (.ints .i64 u22)),(7,.ext (.frs .f32 32 u23)),(8,.xext (XC.rr (4:Nat) u24)),(9,.ext (.ints .i64 u25)),(13,.xrow 157 (XC.ff .f32 (Prod.snd (Prod.fst z)))),(0,.xext (XC.st [NK.s,NK.i .i64,NK.ints .i64,NK.ints .i64,NK.ints .i64,NK.i .i64,NK.recs (5:Nat),NK.i .i64] u17)),(1,.ext (.ints .i64 u18))],14⟩,fun z=>(jdY u16 u17 u18 u15 u19 u20 u21 u22 u23 u24 u25 r).inv z,fun z=>Prod.snd z⟩
 |2=>some ⟨(Int × List (List Nat)) × Nat × (Int × List Nat) × Nat,fun z=>⟨[(0,.w (.c (.p 10 0 1 0))),(2,.w (.c (.p 11 0 1 0))),(3,.w (.c (.p 12 0 1 0))),(4,.w (.c (.d (.i .i64 ((Prod.fst z).1))))),(5,.w (.c (.o 13))),(6,.w (.c (.d (.i .i64 (Prod.fst (Prod.fst (Prod.snd (Prod.snd z)))))))),(26,.w (.c (.d (.i .i64 ((↑(List.length u17):Int)))))),(27,.w (.c (.d (.i .i64 ((Prod.fst z).1)))))],[(10,.ebox [.p 2 0 1 0,.d (.i .i64 u15),.o 3,.o 4,.o 5,.o 6,.o 7,.o 8,.o 9]),(11,.box 78 [.d (.i .i64 0),.d (.v (Value.slice none (0:Nat) (0:Nat))),.d (.v (Value.slice none (0:Nat) (0:Nat)))]),(12,.box 78 [.d (.i .i64 (wrap .i64 (u15+1))),.o 14,.o 8]),(13,.row 108 (.floats .f32 (Prod.snd (Prod.fst (Prod.snd (Prod.snd z)))))),(2,.ebox [.d (.s u16),.o 0,.o 1]),(3,.xext (XC.ff .f32 u19)),(4,.xext (XC.rr (4:Nat) u20)),(5,.ext (.frs .f32 32 u21)),(6,.ext (.ints .i64 u22)),(7,.ext (.frs .f32 32 u23)),(8,.xext (XC.rr (4:Nat) u24)),(9,.ext (.ints .i64 u25)),(14,.xrow 157 (XC.ff .f32 (Prod.fst z).2)),(0,.xext (XC.st [NK.s,NK.i .i64,NK.ints .i64,NK.ints .i64,NK.ints .i64,NK.i .i64,NK.recs (5:Nat),NK.i .i64] u17)),(1,.ext (.ints .i64 u18))],15⟩,fun z=>(jgN u16 u17 u18 u15 u19 u20 u21 u22 u23 u24 u25 r (gs.getD 0 0)).inv z,fun z=>Prod.snd (Prod.snd (Prod.snd z))⟩
 |_=>none) (ja5 jeu [.d (.s u16),.x (.st [.s,.i .i64,.ints .i64,.ints .i64,.ints .i64,.i .i64,.recs 5,.i .i64] u17),.r (.ints .i64 u18),.d (.i .i64 u15),.x (.ff .f32 u19),.x (.rr 4 u20),.r (.frs .f32 32 u21),.r (.ints .i64 u22),.r (.frs .f32 32 u23),.x (.rr 4 u24),.r (.ints .i64 u25)]) [.s [.d (.i .i64 r.1),.x 157 (.ff .f32 r.2),.g 8]] :=
 Sk.vc (jot u16 u17 u18 u15 u19 u20 u21 u22 u23 u24 u25 r) (by kernel_rfl) h
theorem jne:jaf Tryz.prog 106 true (jak jeu jev):=by
 refine jaw (sp:=(sp_149 sp0)) (fn:=Tryz.f106) (body:=bodyOf Tryz.f106) mixed (sp_149_ok jau) Tryz.func106 (by kernel_rfl) (by kernel_rfl) fun ls t h ho b hb=>?_
 unfold jev at h
 split at h
 ·rename_i u16 u17 u18 u15 u19 u20 u21 u22 u23 u24 u25
  cases h
  obtain rfl:=jaM hb
  exact⟨Nat.le_of_ble_eq_true (by kernel_rfl),_,_,jnd u16 u17 u18 u15 u19 u20 u21 u22 u23 u24 u25 _ (jap ho)⟩
 ·cases h
end Go.Sh
end

section
open Go.RowKit
namespace Go.Sx
def jlL (z:C) (cs:List C) (j:Nat):Bool :=
 match z with
 | .d (.i k _)=>(iks k cs).getD j false
 | .d (.b _)=>(bks cs).getD j false
 | .d (.s _)=>(sks cs).getD j false
 |_=>false
def jlg (cs:List C):List C→Nat→Bool
 |[],_=>true
 |z::r,j=>match jlL z cs j with
  |true=>jlg cs r (j+1)
  |false=>false
def jq1 (P:Program) (t:TypeId) (cs:List C) (j:Nat):Bool :=
 match jaz P t with
 |some z=>jlg cs z j
 |none=>false
def jou (cs:List C) (j:Nat):List C→Bool
 |[]=>true
 |c::r=>match jlL c cs j,joQ cs j c with
  |true,some (_,cs')=>jou cs' (j+1) r
  |_,_=>false
theorem jxI {z c:C} {cs:List C} {j:Nat} {p:Prop} (h:joM z cs j=some (p,c)) (hb:jlL z cs j=true):p:=by
 unfold joM at h
 unfold jlL at hb
 split at h<;>cases h<;>exact hb
theorem juQ {cs:List C}:∀{zs l:List C} {j:Nat} {p:Prop},jg0 cs zs j=some (p,l)→jlg cs zs j=true→p
 |[],l,j,p,h,_=>by
  simp only[jg0,Option.some.injEq,Prod.mk.injEq]at h
  exact h.1 ▸ trivial
 |z::r,l,j,p,h,hb=>by
  unfold jg0 at h
  unfold jlg at hb
  split at h
  ·rename_i q c hq
   split at hb
   ·rename_i hz
    have h1:=jxI hq hz
    split at h
    ·cases h
     exact h1
    ·split at h
     ·rename_i q2 l2 h2
      cases h
      exact⟨h1,juQ h2 hb⟩
     ·cases h
   ·cases hb
  ·cases h
theorem jxJ {P:Program} {t:TypeId} {cs:List C} {j:Nat} {p:Prop} {v:V} (h:jj1 P t cs j=some (p,v)) (hb:jq1 P t cs j=true):p:=by
 unfold jj1 at h
 unfold jq1 at hb
 split at h
 ·rename_i z _ _ hz
  rw[hz]at hb
  split at h
  ·rename_i q c hq
   cases h
   dsimp only[jlg]at hb
   split at hb
   ·rename_i h1
    exact jxI hq h1
   ·cases hb
  ·cases h
 ·rename_i sz z _ _ hz
  rw[hz]at hb
  split at h
  ·split at h
   ·rename_i q l hq
    cases h
    exact juQ hq hb
   ·cases h
  ·cases h
 ·cases h
theorem jAR {c:C} {cs cs':List C} {j:Nat} {p:Prop} (h:joQ cs j c=some (p,cs')) (hb:jlL c cs j=true):p:=by
 unfold joQ at h
 unfold jlL at hb
 split at h<;>cases h<;>exact hb
theorem juR:∀{ds cs l:List C} {j:Nat} {p:Prop},jly cs j ds=some (p,l)→jou cs j ds=true→p
 |[],_,_,_,_,h,_=>by cases h
 |c::r,cs,l,j,p,h,hb=>by
  unfold jly at h
  unfold jou at hb
  split at h
  ·rename_i q cs' hq
   split at hb
   ·rename_i cs2 hz hq2
    rw[hq]at hq2
    cases hq2
    have h1:=jAR hq hz
    split at h
    ·cases h
     exact h1
    ·split at h
     ·rename_i q2 l2 h2
      cases h
      exact⟨h1,juR h2 hb⟩
     ·cases h
   ·cases hb
  ·cases h
def jsB (P:Program) (t:TypeId) (cs:List C) (e j:Nat):Bool :=
 match e with
 |0=>match jj1 P t cs j with
  |none=>true
  |some _=>jq1 P t cs j
 |_+1=>true
def jv9 (P:Program) (t:TypeId) (c:Cont) (i j:Nat):Bool :=
 match c with
 | .frs _ E l=>Nat.blt i l.length&&Nat.blt j E
 | .floats _ l=>match jbk P t,szT P t with
  |some true,some sz=>Nat.ble (i+sz) l.length
  |_,_=>Nat.blt i l.length
 |c=>Nat.blt i c.n
def jwa (P:Program) (t:TypeId) (o:O) (i e j:Nat):Bool :=
 match o with
 | .box _ cs=>jsB P t cs e j
 | .ebox cs=>jsB P t cs e j
 | .arr _ _ E _=>Nat.blt (i*e+j) E
 | .xext X=>Nat.blt i X.n
 | .xrow _ X=>Nat.blt i X.n
 | .mrow _ _ X _=>Nat.blt i X.n
 | .lbox _ _ _ _=>true
 | .lview _ _ _ _=>true
 | .elist _ _ _=>true
 |o=>match o.cont with
  |some c=>jv9 P t c i j
  |none=>false
theorem jAe {P:Program} {t:TypeId} {cs:List C} {e j:Nat} {p:Prop} {v:V} (h:jea P t cs e j=some (p,v)) (hb:jsB P t cs e j=true):p:=by
 unfold jea at h
 split at h
 ·split at h
  ·rename_i x hx
   cases h
   unfold jsB at hb
   dsimp only at hb
   rw[hx]at hb
   exact jxJ hx hb
  ·cases h
 ·cases h
theorem ja9 {a b:Nat} (h:Nat.blt a b=true):a<b:=by simpa using h
theorem juS {P:Program} {t:TypeId} {o:O} {i e j:Nat} {p:Prop} {v:V} (h:jcU P t o i e j=some (p,v)) (hb:jwa P t o i e j=true):p:=by
 unfold jcU at h
 split at h
 ·rename_i ag sz hag hsz
  have xs:∀(sh:List NK) (l:List (List NC)),Nat.blt i l.length=true→((match(generalizing:=false) ag with
   |true=>none
   |false=>match Nat.beq e sh.length,sh[j]? with
    |true,some (.i k)=>some (i<l.length,vi k (((l.getD i []).getD j (.d (.v undef))).toI))
    |true,some .b=>some (i<l.length,vb (((l.getD i []).getD j (.d (.v undef))).toB))
    |true,some (.f k)=>some (i<l.length,vf k (((l.getD i []).getD j (.d (.v undef))).toF))
    |true,some .s=>some (i<l.length,vs (((l.getD i []).getD j (.d (.v undef))).toS))
    |_,_=>none):Option (Prop × V))=some (p,v)→p:=by
   intro sh l hl h
   split at h
   ·cases h
   ·split at h<;>cases h<;>exact ja9 hl
  have bx:∀cs:List C,jsB P t cs e j=true→((match jea P t cs e j with
   |some x=>some x
   |none=>match(generalizing:=false) ag with
    |true=>if i*e+j+sz≤cs.length then some (True,V.w (.a ((cs.drop (i*e+j)).take sz)))else none
    |false=>(cs[i*e+j]?).map fun c=>(True,V.w (.c c))):Option (Prop × V))=some (p,v)→p:=by
   intro cs hb h
   split at h
   ·rename_i x hx
    cases h
    exact jAe hx hb
   ·split at h
    ·split at h
     ·cases h; trivial
     ·cases h
    ·cases hc:cs[i*e+j]? with
     |none=>simp[hc]at h
     |some c=>simp[hc]at h; exact h.1
  have ct:∀c:Cont,jv9 P t c i j=true→((match some c with
   |some (.frs k E l) =>
    match(generalizing:=false) ag with
    |true=>match Nat.beq e E,Nat.beq j 0,Nat.beq sz E with
     |true,true,true=>some (i<l.length,joK k E (l.getD i []))
     |_,_,_=>none
    |false=>match Nat.beq e E with
     |true=>some (i<l.length∧j<E,vf k ((l.getD i []).getD j 0))
     |false=>none
   |some (.floats k l) =>
    match Nat.beq e 1,Nat.beq j 0 with
    |true,true=>match(generalizing:=false) ag with
     |true=>some (i+sz≤l.length,joK k sz ((l.drop i).take sz))
     |false=>some (i<l.length,vf k (l.getD i 0))
    |_,_=>none
   |some c =>
    match(generalizing:=false) ag with
    |true=>if e=c.e∧j+sz≤e then some (i<c.n,V.w (.a ((List.range sz).map fun m=>C.d (c.cell i (j+m)))))else none
    |false=>if e=c.e∧j<e then some (i<c.n,V.w (.c (.d (c.cell i j))))else none
   |none=>none):Option (Prop × V))=some (p,v)→p:=by
   intro c hb h
   unfold jv9 at hb
   cases c with
   |frs k E l =>
    simp only[Bool.and_eq_true]at hb
    dsimp only at h
    split at h
    ·split at h
     ·cases h; exact ja9 hb.1
     ·cases h
    ·split at h
     ·cases h; exact⟨ja9 hb.1,ja9 hb.2⟩
     ·cases h
   |floats k l =>
    dsimp only at h hb
    rw[hag,hsz]at hb
    split at h
    ·cases ag with
     |true=>cases h; exact Nat.le_of_ble_eq_true hb
     |false=>cases h; exact ja9 hb
    ·cases h
   |_ =>
    dsimp only at h hb
    split at h
    ·split at h
     ·cases h; exact ja9 hb
     ·cases h
    ·split at h
     ·cases h; exact ja9 hb
     ·cases h
  cases o with
  |box ty cs=>exact bx cs hb h
  |ebox cs=>exact bx cs hb h
  |arr ty k E r =>
   dsimp only at h
   split at h
   ·split at h
    ·cases h; trivial
    ·cases h
   ·cases h; exact ja9 hb
  |xext X =>
   cases X with
   |st sh l=>exact xs sh l hb h
   |_=>cases h
  |xrow ty X =>
   cases X with
   |st sh l=>exact xs sh l hb h
   |_=>cases h
  |mrow ty ts X ho =>
   cases ho with
   |none =>
    cases X with
    |st sh l=>exact xs sh l hb h
    |_=>cases h
   |some x=>cases X<;>cases h
  |lbox ty E n cs =>
   dsimp only at h
   split at h
   ·split at h
    ·split at h
     ·cases h; trivial
     ·cases h
    ·cases hc:cs[i*e+j]? with
     |none=>simp[hc]at h
     |some c=>simp[hc]at h; exact h.1
   ·cases h
  |lview r E n cs =>
   dsimp only at h
   split at h
   ·split at h
    ·split at h
     ·cases h; trivial
     ·cases h
    ·cases hc:cs[i*e+j]? with
     |none=>simp[hc]at h
     |some c=>simp[hc]at h; exact h.1
   ·cases h
  |elist E n cs =>
   dsimp only at h
   split at h
   ·split at h
    ·split at h
     ·cases h; trivial
     ·cases h
    ·cases hc:cs[i*e+j]? with
     |none=>simp[hc]at h
     |some c=>simp[hc]at h; exact h.1
   ·cases h
  |row ty c=>exact ct c hb h
  |ext c=>exact ct c hb h
  |view r c fl=>exact ct c hb h
  |rrow c=>exact ct c hb h
  |fext c=>exact ct c hb h
  |sub r i0 e0 j0 t0 c=>exact ct c hb h
  |_=>cases h
 ·cases h
end Go.Sx
end

section
open Go.RowKit
namespace Go.Sx
def jju (l m:Option Int) (n:Int):Bool:=decide (0≤l.getD 0∧l.getD 0≤m.getD n∧m.getD n≤n)
def jis (o:O) (y:Option V) (i e j:Nat):Bool :=
 match o with
 | .box _ cs=>match e with
  |0=>match y with
   |some (.w u)=>jou cs j u.cells
   |_=>false
  |_+1=>true
 | .arr _ _ E _=>Nat.blt (i*e+j) E
 | .row _ (.frs _ E l)=>Nat.blt i l.length&&Nat.blt j E
 | .row _ c=>Nat.blt i c.n
 | .xrow _ X=>Nat.blt i X.n
 | .mrow _ _ X ho=>match ho with
  |none=>Nat.blt i X.n
  |some (i0,_)=>Nat.beq i i0&&Nat.blt i X.n
 | .sub _ _ _ _ _ c=>Nat.blt i c.n
 | .lbox _ _ _ _=>true
 |_=>false
def jcT (hp:Hp) (v:Option V):Option Nat :=
 match v with
 |some (.w (.c (.o h)))=>match find hp h with
  |some o=>match o.cont with
   |some c=>some c.n
   |none=>match o.xc with
    |some X=>some X.n
    |none=>match o.lst with
     |some (_,n,_)=>some n
     |none=>none
  |none=>none
 |some (.w (.c (.d (.v (.slice none 0 0)))))=>some 0
 |_=>none
def obB (P:Program) (op:Op) (rd:Operand→Option V) (hp:Hp):Bool :=
 match op with
 | .binOp op _ x y _=>match(rd x).bind V.int?,(rd y).bind V.int? with
  |some _,some (_,b)=>(match op with
   | .quo=>!(decide (b=0))
   | .rem=>!(decide (b=0))
   | .shl=>decide (0≤b)
   | .shr=>decide (0≤b)
   |_=>true)
  |_,_=>false
 | .convert _ dst x=>match(rd x).bind V.flt? with
  |some (s,b)=>match P.underlying dst with
   |some (.int k)=>jnx s k b
   |_=>false
  |none=>match(rd x).bind V.int? with
   |some _=>true
   |none=>false
 | .index t x i=>match rd x,(rd i).bind V.int? with
  |some v,some (_,n)=>match v.str?,P.underlying t with
   |some s,_=>decide (0≤n∧n<(s.size:Int))
   |none,some (.array len elem)=>decide (0≤n∧n<(len:Int))&&(match v.agg?,szT P elem with
    |some cs,some size=>isK i||(match jj1 P elem cs (n.toNat*size)with
     |none=>true
     |some _=>jq1 P elem cs (n.toNat*size))
    |_,_=>true)
   |none,_=>false
  |_,_=>false
 | .indexAddr t x ix=>match(rd ix).bind V.int? with
  |some (_,n)=>match P.underlying t with
   |some (.array len _)=>decide (0≤n∧n<(len:Int))
   |some (.slice _)=>match jcT hp (rd x)with
    |some m=>decide (0≤n∧n<(m:Int))
    |none=>false
   |_=>false
  |none=>false
 | .load t x=>match rd x with
  |some (.w (.c (.p h i e j)))=>match find hp h with
   |some o=>jwa P t o i e j
   |none=>false
  |_=>false
 | .store _ x y=>match rd x with
  |some (.w (.c (.p h i e j)))=>match find hp h with
   |some o=>jis o (rd y) i e j
   |none=>false
  |_=>false
 | .slice t x lo hi none=>match jaJ rd lo,jaJ rd hi with
  |some l,some m=>match P.underlying t with
   |some .string=>match(rd x).bind V.str? with
    |some s=>jju l m (s.size:Int)
    |none=>false
   |some (.array n _)=>match rd x with
    |some (.w (.c (.p h _ _ _)))=>match find hp h with
     |some (.arr _ _ _ r)=>Nat.beq r.length n&&jju l m (n:Int)
     |some (.box _ _)=>true
     |_=>false
    |_=>false
   |some (.slice _)=>match jcT hp (rd x)with
    |some n=>jju l m (n:Int)
    |none=>false
   |_=>false
  |_,_=>false
 | .slice _ x lo (some hi) (some mx)=>match jaJ rd lo,(rd hi).bind V.int?,(rd mx).bind V.int?,jcT hp (rd x)with
  |some l,some (_,m),some (_,q),some n=>decide (0≤l.getD 0∧l.getD 0≤m∧m≤q∧q≤(n:Int))
  |_,_,_,_=>false
 | .makeSlice t l c=>match P.underlying t,(rd l).bind V.int?,(rd c).bind V.int? with
  |some (.slice elem),some (_,n),some (_,m)=>match jaQ P elem with
   |some b=>decide (0≤n∧n=m∧(b:Int)*n≤281474976710656∧n≤9223372036854775807)
   |none=>false
  |_,_,_=>false
 | .call c=>match c.callee,c.args.toList,c.argTypes.toList with
  | .builtin .append,[s,x],[t,_]=>match P.underlying t,jcT hp (rd s),jcT hp (rd x)with
   |some (.slice elem),some n,some m=>match jaQ P elem with
    |some b=>Nat.ble ((n+m)*b) 140737488355328&&Nat.ble (n+m) 9223372036854775807&&(match jiI hp (rd s)with
     |some c1=>Nat.blt 0 c1.n&&Nat.blt 0 m
     |none=>true)
    |none=>false
   |_,_,_=>false
  |_,_,_=>false
 |_=>false
section
variable [Globs] {P:Program} {rd:Operand→Option V} {hp:Hp} {nx:Nat}
theorem jAf {v:V} {x y} (h:v.int?=some x) (k:v.str?=some y):False:=by
 unfold V.int? at h
 split at h
 ·cases k
 ·cases h
theorem jfw {h:Nat} {c:Cont} {n:Nat} {v:Option V} (hv:v=some (.w (.c (.o h)))) (hc:(find hp h).bind O.cont=some c) (hn:jcT hp v=some n):n=c.n:=by
 subst hv
 unfold jcT at hn
 cases ho:find hp h with
 |none=>simp[ho]at hc
 |some o =>
  simp only[ho,Option.bind_some]at hc
  simp only[ho,hc,Option.some.injEq]at hn
  exact hn.symm
theorem jlM {h:Nat} {X:XC} {n:Nat} {v:Option V} (hv:v=some (.w (.c (.o h)))) (hc:(find hp h).bind O.xc=some X) (hn:jcT hp v=some n):n=X.n:=by
 subst hv
 unfold jcT at hn
 cases ho:find hp h with
 |none=>simp[ho]at hc
 |some o =>
  simp only[ho,Option.bind_some]at hc
  have hcn:o.cont=none:=by cases o<;>simp[O.xc]at hc<;>rfl
  simp only[ho,hcn,hc,Option.some.injEq]at hn
  exact hn.symm
theorem jjv {h:Nat} {e m:Nat} {cs:List C} {n:Nat} {v:Option V} (hv:v=some (.w (.c (.o h)))) (hc:(find hp h).bind O.lst=some (e,m,cs)) (hn:jcT hp v=some n):n=m:=by
 subst hv
 unfold jcT at hn
 cases ho:find hp h with
 |none=>simp[ho]at hc
 |some o =>
  simp only[ho,Option.bind_some]at hc
  have hcn:o.cont=none∧o.xc=none:=by cases o<;>simp[O.lst]at hc<;>exact⟨rfl,rfl⟩
  simp only[ho,hcn,hc,Option.some.injEq]at hn
  exact hn.symm
theorem jy6 {op:BinOp} {k k':IntKind} {m n:Int} {ob:Prop} {v:V} (ht:(match op with
   | .quo=>!(decide (n=0))
   | .rem=>!(decide (n=0))
   | .shl=>decide (0≤n)
   | .shr=>decide (0≤n)
   |_=>true)=true) (h:jfh op k m k' n=some (ob,v)):ob:=by
 unfold jfh at h
 split at h
 ·cases h; simpa using ht
 ·cases h; simpa using ht
 ·split at h
  ·split at h<;>first|(cases h; trivial)|(cases h; simpa using ht)|cases h
  ·cases h
theorem jxK {op:Op} {ob:Prop} {v:V} (ht:obB P op rd hp=true) (h:jaZ P op rd hp=some (ob,v)):ob:=by
 unfold obB at ht
 unfold jaZ at h
 cases op with
 |binOp op t x y yt =>
  dsimp only at h ht
  split at ht
  ·rename_i ka k' b hx hy
   split at h
   ·rename_i u v' hu hv
    simp only[hu,hv,Option.bind_some]at hx hy
    rw[hx,hy]at h
    obtain⟨k,a⟩:=ka
    exact jy6 ht h
   ·cases h
  ·cases ht
 |convert s d x =>
  dsimp only at h ht
  cases hx:rd x with
  |none=>simp[hx]at h
  |some u =>
   simp only[hx,Option.bind_some]at h ht
   unfold jqV at h
   split at h
   ·cases h; trivial
   ·cases h; trivial
   ·rename_i s' b hu hd hf
    cases h
    rw[hf]at ht
    dsimp only at ht
    rw[hd]at ht
    exact ht
   ·cases h
 |index t x i =>
  dsimp only at h ht
  split at ht
  ·rename_i u k n hx hi
   simp only[hx,Option.bind_some]at h
   split at ht
   ·rename_i s hs
    rw[hs,hi]at h
    split at h
    ·rename_i s2 k2 n2 h1 h2 h3
     cases h1; cases h3
     cases h
     simpa using ht
    ·cases h
    ·rename_i h0; cases h0
   ·rename_i len elem hs hut
    rw[hs,hut,hi]at h
    simp only[Bool.and_eq_true,decide_eq_true_eq]at ht
    split at h
    ·rename_i h0 _ _; cases h0
    ·cases h
    ·split at h
     ·rename_i len' elem' cs k' n' h1 h2 h3
      cases h1; cases h3
      rw[h2]at ht
      split at h
      ·rename_i size hsz
       rw[hsz]at ht
       simp only[Bool.or_eq_true]at ht
       split at h
       ·rename_i p v' hk hsel
        cases h
        rw[hk,hsel]at ht
        exact⟨ht.1,jxJ hsel (by simpa using ht.2)⟩
       ·generalize jbM P elem cs _=q at h
        cases q with
        |none=>simp at h
        |some v'=>simp at h; rw[←h.1]; exact ht.1
      ·cases h
     ·cases h
   ·cases ht
  ·cases ht
 |indexAddr t x ix =>
  dsimp only at h ht
  split at ht
  ·rename_i k n hi
   rw[hi]at h
   split at h
   ·rename_i len elem h' i e j k2 n2 hut hx hn
    cases hn
    rw[hut]at ht
    simp only[decide_eq_true_eq]at ht
    split at h
    ·split at h<;>(cases h; exact ht)
    ·cases h
   ·rename_i elem h' k2 n2 hut hx hn
    cases hn
    rw[hut]at ht
    dsimp only at ht
    split at h
    ·rename_i c size hc hsz
     split at h
     ·cases h
      split at ht
      ·rename_i m hm
       rw[jfw hx hc hm]at ht
       simpa using ht
      ·cases ht
     ·cases h
    ·cases h
   ·cases h
  ·cases ht
 |load t x =>
  dsimp only at h ht
  split at h
  ·rename_i h' i e j hx
   rw[hx]at ht
   dsimp only at ht
   split at h
   ·rename_i o ho
    rw[ho]at ht
    exact juS h ht
   ·cases h
  ·cases h
 |call c =>
  dsimp only at h ht
  split at ht
  ·rename_i hc ha hat
   rw[hc]at h
   simp at h
  ·cases ht
 |slice t x lo hi mx=>cases h
 |store t x y=>cases h
 |makeSlice t l c=>cases h
 |_=>cases ht
end
end Go.Sx
end

section
open Go.RowKit
namespace Go.Sx
section
variable [Globs] {P:Program} {rd:Operand→Option V} {hp:Hp} {nx:Nat} {sp:jaa}
theorem jzJ {op:Op} {ob:Prop} {v:V} (ht:obB P op rd hp=true) (h:je3 P op rd hp=some (ob,v)):ob:=by
 unfold obB at ht
 unfold je3 at h
 cases op with
 |binOp op t x y yt =>
  dsimp only at h ht
  split at ht
  ·rename_i ka k' b hx hy
   split at h
   ·rename_i u u' hu hu'
    simp only[hu,hu',Option.bind_some]at hx hy
    split at h
    ·rename_i a b hs hs'
     exact(jAf hx hs).elim
    ·split at h
     ·unfold jny at h
      cases op<;>simp at h<;>exact h.1
     ·split at h
      ·unfold jfi at h
       cases op<;>simp at h<;>exact h.1
      ·cases h
   ·cases h
  ·cases ht
 |slice t x lo hi mx =>
  cases mx with
  |some mx=>simp at h
  |none =>
   dsimp only at h ht
   split at h
   ·rename_i s l m hut hx hl hm
    cases h
    rw[hl,hm,hut,hx]at ht
    simpa [jju]using ht
   ·cases h
 |convert s d x =>
  dsimp only at h
  split at h
  ·split at h
   ·cases h; trivial
   ·cases h
  ·cases h
 |index t x i =>
  dsimp only at h ht
  split at h
  ·rename_i k E r hx
   split at h
   ·rename_i len elem k2 n hut hi
    rw[hx,hi,hut]at ht
    simp only[V.str?,Bool.and_eq_true,decide_eq_true_eq]at ht
    split at h
    ·cases h; exact ht.1
    ·cases h
   ·cases h
  ·cases h
 |sliceToArrayPointer t x=>cases ht
 |nilCheck x=>cases ht
 |fieldAddr s x f=>cases ht
 |indexAddr t x ix =>
  dsimp only at h ht
  split at ht
  ·rename_i k n hi
   rw[hi]at h
   split at h
   ·rename_i len elem h' e k2 n2 hut hx hn
    cases hn
    rw[hut]at ht
    simp only[decide_eq_true_eq]at ht
    split at h
    ·split at h
     ·cases h; exact ht
     ·cases h
    ·cases h
   ·rename_i elem h' k2 n2 hut hx hn
    cases hn
    rw[hut]at ht
    dsimp only at ht
    split at h
    ·rename_i X size hc hsz
     split at h
     ·cases h
      split at ht
      ·rename_i m hm
       rw[jlM hx hc hm]at ht
       simpa using ht
      ·cases ht
     ·cases h
    ·rename_i size hc hsz
     split at h
     ·rename_i e m cs hl
      split at h
      ·cases h
       split at ht
       ·rename_i m' hm
        rw[jjv hx hl hm]at ht
        simpa using ht
       ·cases ht
      ·cases h
     ·cases h
    ·cases h
   ·cases h
  ·cases ht
 |load t x =>
  dsimp only at h ht
  split at h
  ·rename_i hx
   rw[hx]at ht
   cases ht
  ·cases h
 |call c =>
  dsimp only at h ht
  split at ht
  ·rename_i hc ha hat
   rw[hc]at h
   simp at h
  ·cases ht
 |_=>simp at h
theorem bR_ob {op:Op} {r:Res} (ht:obB P op rd hp=true) (h:jcW P op rd hp nx=some r):r.ob:=by
 unfold obB at ht
 unfold jcW at h
 cases op with
 |slice t x lo hi mx =>
  split at h
  ·rename_i t2 x2 hi2 mx2 he
   cases he
   dsimp only at ht
   split at h
   ·split at h
    ·rename_i elem h' k m k' q hut hx hm hq
     split at h
     ·rename_i c e hf hs
      split at h
      ·cases h
       split at ht
       ·rename_i l m' k1 q' k2 n hl hm' hq' hn
        rw[hm]at hm'; rw[hq]at hq'
        cases hm'; cases hq'
        simp only[jaJ,Option.some.injEq]at hl
        subst hl
        rw[jfw (c:=c) hx (by rw[hf]; rfl) hn]at ht
        simp only[Option.getD_none,decide_eq_true_eq]at ht
        exact⟨ht.2.1,ht.2.2⟩
       ·cases ht
      ·cases h
     ·cases h
    ·cases h
   ·cases h
  ·rename_i t2 x2 lo2 he
   cases he
   dsimp only at ht
   split at h
   ·split at h
    ·rename_i elem h' k l hut hx hl
     split at h
     ·rename_i c e hf hs
      split at h
      ·cases h
       split at ht
       ·rename_i l' m hl' hm
        rw[hut]at ht
        dsimp only at ht
        split at ht
        ·rename_i n hn
         have hcn:(find hp h').bind O.cont=some c:=by
          cases ho:find hp h' with
          |none=>simp[ho]at hf
          |some o =>
           simp only[ho,Option.bind_some]at hf ⊢
           cases o<;>simp[jeE]at hf<;>simpa [O.cont]using hf
         rw[jfw hx hcn hn]at ht
         simp only[jaJ]at hl' hm
         rw[hl]at hl'
         cases hl'; cases hm
         simp only[jju,Option.getD_some,Option.getD_none,decide_eq_true_eq]at ht
         exact⟨ht.1,ht.2.1⟩
        ·cases ht
       ·cases ht
      ·cases h
     ·cases h
    ·cases h
   ·cases h
  ·cases h
 |_=>simp at h
theorem bN_ob {op:Op} {r:Res} (ht:obB P op rd hp=true) (h:jdA P op rd hp nx=some r):r.ob:=by
 unfold obB at ht
 unfold jdA at h
 cases op with
 |makeSlice t l c =>
  dsimp only at h ht
  split at h
  ·rename_i elem k n k' m hut hn hm
   rw[hut,hn,hm]at ht
   dsimp only at ht
   split at h
   ·rename_i X0 z b e h1 h2 h3 h4
    rw[h3]at ht
    split at h
    ·cases h; simpa using ht
    ·cases h
   ·cases h
  ·cases h
 |buildSlice t n ps=>cases ht
 |store t x y =>
  dsimp only at h ht
  split at h
  ·rename_i k i e j u hx hy
   rw[hx]at ht
   dsimp only at ht
   split at h
   ·rename_i ty X sz hf hs
    rw[hf]at ht
    have ht:=ja9 (show Nat.blt i X.n=true from ht)
    split at h
    ·split at h
     ·split at h
      ·cases h; exact ht
      ·cases h
     ·split at h
      ·split at h
       ·cases h; exact ht
       ·cases h
      ·cases h
    ·cases h
   ·cases h
  ·cases h
 |call c =>
  dsimp only at h ht
  split at h
  ·rename_i s x t t' hc ha hat
   rw[hc,ha,hat]at ht
   dsimp only at ht
   split at h
   ·rename_i elem hb hut
    rw[hut]at ht
    split at h
    ·rename_i X0 z e b h1 h2 h3 h4
     split at h
     ·rename_i hs ty X1 hx ty' X2 g1 g2
      split at ht
      ·rename_i elem' n m he hn hm
       cases he
       rw[h4]at ht
       simp only[Bool.and_eq_true]at ht
       have len:∀{v:Option V} {hs:Option Nat} {ty n:Nat} {X:XC},v.bind (xOf hp X0)=some (hs,ty,X)→jcT hp v=some n→n=X.n∨X=X0:=by
        intro v hs ty n X hv hn
        cases v with
        |none=>cases hv
        |some v =>
         simp only[Option.bind_some]at hv
         unfold xOf at hv
         split at hv
         ·split at hv
          ·rename_i ty2 X2 hf
           cases hv
           exact .inl (jlM (X:=X) rfl (by rw[hf]; rfl) hn)
          ·cases hv
         ·cases hv; exact .inr rfl
         ·cases hv
       have h0:X0.n=0:=by
        unfold xcT at h1
        split at h1
        ·split at h1
         ·split at h1<;>cases h1; rfl
         ·split at h1<;>cases h1<;>rfl
         ·cases h1
        ·cases h1
       have l1:X1.n≤n:=(len g1 hn).elim (fun e=>Nat.le_of_eq e.symm) fun e=>by rw[e,h0]; exact Nat.zero_le _
       have l2:X2.n≤m:=(len g2 hm).elim (fun e=>Nat.le_of_eq e.symm) fun e=>by rw[e,h0]; exact Nat.zero_le _
       split at h
       ·cases h
        have a1:=Nat.le_of_ble_eq_true ht.1.1
        have a2:=Nat.le_of_ble_eq_true ht.1.2
        exact⟨Nat.le_trans (Nat.mul_le_mul_right b (Nat.add_le_add l1 l2)) a1,Nat.le_trans (Nat.add_le_add l1 l2) a2⟩
       ·cases h
      ·cases ht
     ·cases h
    ·cases h
   ·cases h
  ·cases h
 |_=>simp at h
end
end Go.Sx
end

section
open Go.RowKit
namespace Go.Sx
section
variable [Globs] {P:Program} {rd:Operand→Option V} {hp:Hp} {nx:Nat} {sp:jaa}
theorem jit {h:Nat} {o:O} {n:Nat} {v:Option V} (hv:v=some (.w (.c (.o h)))) (hf:find hp h=some o) (hn:jcT hp v=some n):(∀c,o.cont=some c→n=c.n)∧(∀X,o.xc=some X→n=X.n) :=
 ⟨fun c hc=>jfw hv (by rw[hf]; exact hc) hn,fun X hX=>jlM hv (by rw[hf]; exact hX) hn⟩
theorem jjw {z:List D} {v:Option V} {hx:Option Nat} {cx:Option Cont} {c2:Cont} {m:Nat} (g:v.bind (jbZ hp)=some (hx,cx)) (hc:jcc z cx=some c2) (hm:jcT hp v=some m):c2.n=m:=by
 cases v with
 |none=>cases g
 |some v =>
  simp only[Option.bind_some]at g
  unfold jbZ at g
  split at g
  ·rename_i h2
   cases hc':(find hp h2).bind O.cont with
   |none=>simp[hc']at g
   |some c' =>
    simp[hc']at g
    obtain⟨_,rfl⟩:=g
    simp only[jcc,Option.some.injEq]at hc
    subst hc
    exact(jfw rfl hc' hm).symm
  ·cases g
   simp only[jcT,Option.some.injEq]at hm
   rw[(jcM (show jdv z []=some c2 from hc)).2.1,←hm]
   rfl
  ·cases g
theorem bX_ob {op:Op} {r:Res} (ht:obB P op rd hp=true) (h:jdz P op rd hp nx=some r):r.ob:=by
 unfold obB at ht
 unfold jdz at h
 cases op with
 |box elem x=>cases ht
 |alloc elem=>cases ht
 |buildSlice t n ps=>cases ht
 |slice t x lo hi mx =>
  cases mx with
  |none =>
   dsimp only at h ht
   split at h
   ·rename_i n elem h' l m hut hx hl hm
    rw[hl,hm,hut]at ht
    dsimp only at ht
    rw[hx]at ht
    dsimp only at ht
    split at h
    ·rename_i ty k E r' hf hs
     rw[hf]at ht
     split at h
     ·cases h
      simp only[Bool.and_eq_true,jju,decide_eq_true_eq]at ht
      exact⟨Nat.eq_of_beq_eq_true ht.1,ht.2⟩
     ·cases h
    ·cases h
   ·rename_i elem h' l m hut hx hl hm
    rw[hl,hm,hut]at ht
    dsimp only at ht
    split at h
    ·rename_i X sz hf hs
     split at ht
     ·rename_i n hn
      rw[(jit hx hf hn).2 X rfl]at ht
      split at h
      ·cases h
       simpa [jju]using ht
      ·cases h
     ·cases ht
    ·cases h
   ·cases h
  |some mx =>
   cases hi with
   |none=>cases h
   |some hi =>
    dsimp only at h ht
    split at h
    ·rename_i elem h' l k m k' q hut hx hl hm hq
     split at h
     ·rename_i o e hf hs
      split at h
      ·rename_i c hc
       split at h
       ·cases h
        split at ht
        ·rename_i l' k1 m' k2 q' n hl' hm' hq' hn
         rw[hl]at hl'; rw[hm]at hm'; rw[hq]at hq'
         cases hl'; cases hm'; cases hq'
         rw[(jit hx hf hn).1 c hc]at ht
         simpa using ht
        ·cases ht
       ·cases h
      ·cases h
     ·cases h
    ·cases h
 |load t x =>
  dsimp only at h ht
  split at h
  ·rename_i h' i e j hx
   rw[hx]at ht
   dsimp only at ht
   split at h
   ·rename_i b X hb
    cases hf:find hp h' with
    |none=>simp[hf]at hb
    |some o =>
     rw[hf]at ht
     simp only[hf,Option.bind_some]at hb
     have ht:i<X.n:=by
      cases o<;>simp[O.xk]at hb<;>(obtain⟨_,rfl⟩:=hb; exact ja9 ht)
     split at h
     ·split at h
      ·cases h; exact ht
      ·cases h
     ·split at h
      ·split at h
       ·cases h; exact ht
       ·cases h
      ·cases h
     ·cases h
   ·cases h
  ·cases h
 |store t x y =>
  dsimp only at h ht
  split at h
  ·rename_i h' i e j k v hx hy
   rw[hx]at ht
   dsimp only at ht
   split at h
   ·rename_i ty k' E r' _ _ hf
    rw[hf]at ht
    split at h
    ·cases h; exact ja9 ht
    ·cases h
   ·rename_i ty k' E l _ _ hf
    rw[hf]at ht
    simp only[jis,Bool.and_eq_true]at ht
    split at h
    ·cases h; exact⟨ja9 ht.1,ja9 ht.2⟩
    ·cases h
   ·cases h
  ·rename_i h' i e k E' v hx hy
   rw[hx]at ht
   dsimp only at ht
   split at h
   ·split at h
    ·cases h; trivial
    ·cases h
   ·rename_i ty k' E l _ _ hf
    rw[hf]at ht
    simp only[jis,Bool.and_eq_true]at ht
    split at h
    ·cases h; exact ja9 ht.1
    ·cases h
   ·cases h
  ·split at h
   ·split at h
    ·split at h
     ·cases h; trivial
     ·cases h
    ·cases h
   ·cases h
  ·cases h
 |makeMap t r=>cases r<;>cases ht
 |lookup t x i ok=>cases ht
 |mapUpdate t m i y=>cases ht
 |_=>simp at h
theorem bM_ob {op:Op} {r:Res} (ht:obB P op rd hp=true) (h:jdB P op rd hp nx=some r):r.ob:=by
 unfold obB at ht
 unfold jdB at h
 cases op with
 |makeSlice t l c =>
  dsimp only at h ht
  split at h
  ·rename_i elem k n k' m _ hut hn hm
   rw[hut,hn,hm]at ht
   dsimp only at ht
   split at h
   ·rename_i X0 z b e ts h1 h2 h3 h4 h5
    rw[h3]at ht
    split at h
    ·cases h; simpa using ht
    ·cases h
   ·cases h
  ·cases h
 |buildSlice t n ps=>cases ht
 |load t x =>
  dsimp only at h ht
  split at h
  ·rename_i h' i e j hx
   rw[hx]at ht
   dsimp only at ht
   split at h
   ·rename_i ty ts X hf
    rw[hf]at ht
    have ht:i<X.n:=ja9 ht
    split at h
    ·split at h
     ·cases h; exact ht
     ·cases h
    ·split at h
     ·split at h
      ·cases h; exact ht
      ·cases h
     ·cases h
    ·cases h
   ·cases h
  ·cases h
 |store t x y =>
  dsimp only at h ht
  split at h
  ·rename_i h' i e j u hx hy
   rw[hx]at ht
   dsimp only at ht
   split at h
   ·rename_i ty ts X ho sz hf hs
    rw[hf]at ht
    split at h
    ·split at h
     ·split at h
      ·split at h
       ·cases h; exact ja9 ht
       ·cases h
      ·cases h
     ·split at h
      ·split at h
       ·split at h
        ·cases h; exact ja9 ht
        ·rename_i i0 j0
         split at h
         ·cases h
          simp only[jis,Bool.and_eq_true]at ht
          exact⟨Nat.eq_of_beq_eq_true ht.1,ja9 ht.2⟩
         ·cases h
       ·cases h
      ·cases h
    ·cases h
   ·rename_i r0 i0 e0 j0 t0 c sz hf hs
    rw[hf]at ht
    have ht:i<c.n:=ja9 ht
    split at h
    ·split at h
     ·split at h
      ·split at h
       ·cases h; exact ht
       ·cases h
      ·cases h
     ·cases h
    ·cases h
   ·cases h
  ·cases h
 |call c =>
  dsimp only at h ht
  split at h
  ·rename_i s x t t' hc ha hat
   rw[hc,ha,hat]at ht
   dsimp only at ht
   split at h
   ·rename_i elem hb hut
    rw[hut]at ht
    split at ht
    ·rename_i elem' n m he hn hm
     cases he
     split at ht
     ·rename_i b h4
      simp only[Bool.and_eq_true]at ht
      have a1:=Nat.le_of_ble_eq_true ht.1.1
      have a2:=Nat.le_of_ble_eq_true ht.1.2
      have fin:∀{x y:Nat},x≤n→y≤m→(x+y)*b≤140737488355328∧x+y≤9223372036854775807:=fun l1 l2 =>
       ⟨Nat.le_trans (Nat.mul_le_mul_right b (Nat.add_le_add l1 l2)) a1,Nat.le_trans (Nat.add_le_add l1 l2) a2⟩
      have MA:∀{r},jfl P t elem (rd s) (rd x) hp nx=some r→r.ob:=by
       intro r h
       unfold jfl at h
       split at h
       ·rename_i X0 z e b' ts h0 h1 h2 h3 h4' h5
        rw[h4]at h4'
        cases h4'
        have h0:X0.n=0:=by
         unfold xcT at h1
         split at h1
         ·split at h1
          ·split at h1<;>cases h1; rfl
          ·split at h1<;>cases h1<;>rfl
          ·cases h1
         ·cases h1
        have len:∀{v:Option V} {hs:Option Nat} {ty n:Nat} {ts:List Nat} {X:XC},v.bind (mOf hp X0)=some (hs,ty,ts,X)→jcT hp v=some n→X.n≤n:=by
         intro v hs ty n ts X hv hn
         cases v with
         |none=>cases hv
         |some v =>
          simp only[Option.bind_some]at hv
          unfold mOf at hv
          split at hv
          ·split at hv
           ·rename_i ty2 ts2 X2 hf
            cases hv
            exact Nat.le_of_eq (jlM (X:=X) rfl (by rw[hf]; rfl) hn).symm
           ·cases hv
          ·cases hv; rw[h0]; exact Nat.zero_le _
          ·cases hv
        split at h
        ·rename_i hs ty t1 X1 hx ty' t2 X2 g1 g2
         split at h
         ·cases h
          exact fin (len g1 hn) (len g2 hm)
         ·cases h
        ·cases h
       ·cases h
      split at h
      ·rename_i hs0 hobj
       split at h
       ·rename_i r0 i0 e0 j0 t0 c1 hf
        split at h
        ·rename_i hx cx z e b' ty ts X g1 g2 g3 g4 g5
         rw[h4]at g4
         cases g4
         split at h
         ·rename_i c2 hc2
          split at h
          ·split at h
           ·cases h
            have hs':rd s=some (.w (.c (.o hs0))):=by
             cases hrs:rd s with
             |none=>simp[hrs]at hobj
             |some v =>
              simp only[hrs,Option.bind_some]at hobj
              unfold V.obj? at hobj
              split at hobj
              ·cases hobj; rfl
              ·cases hobj
            have l1:c1.n≤n:=Nat.le_of_eq ((jit hs' hf hn).1 c1 rfl).symm
            have l2:c2.n≤m:=Nat.le_of_eq (jjw g1 hc2 hm)
            exact fin l1 l2
           ·cases h
          ·cases h
         ·cases h
        ·cases h
       ·exact MA h
      ·exact MA h
     ·cases ht
    ·cases ht
   ·cases h
  ·cases h
 |_=>simp at h
theorem bL_ob {op:Op} {r:Res} (ht:obB P op rd hp=true) (h:jed P op rd hp nx=some r):r.ob:=by
 unfold obB at ht
 unfold jed at h
 cases op with
 |makeSlice t l c =>
  dsimp only at h ht
  split at h
  ·rename_i elem k n k' m _ hut hn hm
   rw[hut,hn,hm]at ht
   dsimp only at ht
   split at h
   ·rename_i z e b h1 h2 h3
    rw[h3]at ht
    split at h
    ·cases h; simpa using ht
    ·cases h
   ·cases h
  ·cases h
 |buildSlice t n ps=>cases ht
 |slice t x lo hi mx =>
  cases mx with
  |some mx=>cases h
  |none =>
   dsimp only at h ht
   split at h
   ·rename_i elem h' l m hut hx hl hm
    rw[hl,hm,hut]at ht
    dsimp only at ht
    split at h
    ·rename_i e n cs sz hf hs
     split at ht
     ·rename_i n' hn
      rw[jjv hx hf hn]at ht
      split at h
      ·cases h
       simpa [jju]using ht
      ·cases h
     ·cases ht
    ·cases h
   ·cases h
 |store t x y =>
  dsimp only at h
  split at h
  ·split at h
   ·split at h
    ·cases h; trivial
    ·cases h
   ·cases h
  ·cases h
 |call c =>
  dsimp only at h ht
  split at h
  ·rename_i s x t t' hc ha hat
   rw[hc,ha,hat]at ht
   dsimp only at ht
   split at h
   ·rename_i elem _ hb hut
    rw[hut]at ht
    split at h
    ·rename_i z e b h1 h2 h3
     split at h
     ·rename_i hs ty e1 n1 cs1 n2 cs2 g1 g2
      split at ht
      ·rename_i elem' n m he hn hm
       cases he
       rw[h3]at ht
       simp only[Bool.and_eq_true]at ht
       have l1:n1=n:=by
        cases hrs:rd s with
        |none=>simp[hrs]at g1
        |some v =>
         simp only[hrs,Option.bind_some]at g1
         rw[hrs]at hn
         unfold lOf at g1
         split at g1
         ·rename_i k
          split at g1
          ·rename_i hf
           cases g1
           exact(jjv rfl (by rw[hf]; rfl) hn).symm
          ·cases g1
         ·cases g1; simpa [jcT]using hn
         ·cases g1
       have l2:n2=m:=by
        cases hrs:rd x with
        |none=>simp[hrs]at g2
        |some v =>
         simp only[hrs,Option.bind_some]at g2
         rw[hrs]at hm
         unfold lRd at g2
         split at g2
         ·rename_i k
          split at g2
          ·rename_i hf
           cases g2
           exact(jjv rfl hf hm).symm
          ·cases g2
         ·cases g2; simpa [jcT]using hm
         ·cases g2
       split at h
       ·cases h
        rw[←l1,←l2]at ht
        exact⟨Nat.le_of_ble_eq_true ht.1.1,Nat.le_of_ble_eq_true ht.1.2⟩
       ·cases h
      ·cases ht
     ·cases h
    ·cases h
   ·cases h
  ·cases h
 |_=>simp at h
theorem bH_ob {op:Op} {r:Res} (ht:obB P op rd hp=true) (hcall:∀c,op=.call c→c.callee=.builtin .append) (h:jg3 P sp op rd hp nx=some r):r.ob:=by
 unfold obB at ht
 unfold jg3 at h
 cases op with
 |box elem x=>cases ht
 |alloc elem=>cases ht
 |buildSlice t n ps=>cases ht
 |makeSlice t l c =>
  dsimp only at h ht
  split at h
  ·rename_i elem k n k' m hut hn hm
   rw[hut,hn,hm]at ht
   dsimp only at ht
   split at h
   ·rename_i z e b h1 h2 h3
    rw[h3]at ht
    split at h
    ·split at h
     ·cases h; simpa using ht
     ·cases h
    ·cases h
   ·cases h
  ·cases h
 |slice t x lo hi mx =>
  cases mx with
  |some mx=>cases h
  |none =>
   dsimp only at h ht
   split at h
   ·split at h
    ·split at h
     ·split at h
      ·split at h
       ·cases h; trivial
       ·cases h
      ·cases h
     ·cases h
    ·cases h
   ·rename_i elem h' l m hut hx hl hm
    rw[hl,hm,hut]at ht
    dsimp only at ht
    split at h
    ·rename_i o e hf hs
     split at h
     ·rename_i c hc
      split at ht
      ·rename_i n hn
       rw[(jit hx hf hn).1 c hc]at ht
       split at h
       ·cases h
        simpa [jju]using ht
       ·cases h
      ·cases ht
     ·cases h
    ·cases h
   ·cases h
 |store t x y =>
  dsimp only at h ht
  split at h
  ·rename_i h' i e j u hx hy
   rw[hx]at ht
   dsimp only at ht
   split at h
   ·split at h
    ·rename_i ty cs hf
     rw[hf,hy]at ht
     split at h
     ·rename_i p cs' hst
      cases h
      unfold jnE at hst
      split at hst
      ·split at hst
       ·cases hst
       ·rename_i c0 r0 hu
        dsimp only[jis]at ht
        exact juR hst ht
      ·cases hst
     ·split at h
      ·cases h; trivial
      ·cases h
    ·rename_i ty c hf
     rw[hf]at ht
     have ht:i<c.n:=by
      cases c with
      |frs k E l =>
       simp only[jis,Bool.and_eq_true]at ht
       exact ja9 ht.1
      |_=>exact ja9 ht
     split at h
     ·split at h
      ·split at h
       ·cases h; exact ht
       ·cases h
      ·cases h
     ·cases h
    ·cases h
   ·cases h
  ·cases h
 |call c =>
  dsimp only at h ht
  have hcc:=hcall c rfl
  rw[hcc]at h ht
  split at h
  ·rename_i s x t t' _ ha hat
   rw[ha,hat]at ht
   dsimp only at ht
   split at h
   ·rename_i hte
    split at ht
    ·rename_i elem n m hut hn hm
     split at ht
     ·rename_i b hb
      simp only[Bool.and_eq_true]at ht
      have a1:=Nat.le_of_ble_eq_true ht.1.1
      have a2:=Nat.le_of_ble_eq_true ht.1.2
      have fin:∀{x y:Nat},x≤n→y≤m→(x+y)*b≤140737488355328∧x+y≤9223372036854775807:=fun l1 l2 =>
       ⟨Nat.le_trans (Nat.mul_le_mul_right b (Nat.add_le_add l1 l2)) a1,Nat.le_trans (Nat.add_le_add l1 l2) a2⟩
      split at h
      ·rename_i c1 hfv
       rw[hfv]at ht
       simp only[Bool.and_eq_true]at ht
       unfold je5 at h
       split at h
       ·rename_i elem' hx cx hut' g1
        rw[hut]at hut'
        cases hut'
        split at h
        ·rename_i z e b' h1 h2 h3
         rw[hb]at h3
         cases h3
         split at h
         ·rename_i c2 hc2
          split at h
          ·split at h
           ·cases h
            have l1:c1.n≤n:=by
             unfold jiI at hfv
             split at hfv
             ·rename_i hh hrs
              split at hfv
              ·rename_i rr cc hf
               cases hfv
               exact Nat.le_of_eq ((jit hrs hf hn).1 c1 rfl).symm
              ·cases hfv
             ·cases hfv
            have l2:=jjw g1 hc2 hm
            exact⟨ja9 ht.2.1,by rw[l2]; exact ja9 ht.2.2,fin l1 (Nat.le_of_eq l2)⟩
           ·cases h
          ·cases h
         ·cases h
        ·cases h
       ·cases h
      ·split at h
       ·rename_i elem' hs cs hx cx hut' g1 g2
        rw[hut]at hut'
        cases hut'
        split at h
        ·rename_i z e b' h1 h2 h3
         rw[hb]at h3
         cases h3
         split at h
         ·rename_i c1 c2 _ hc1 hc2
          split at h
          ·split at h
           ·cases h
            exact fin (Nat.le_of_eq (jjw g1 hc1 hn)) (Nat.le_of_eq (jjw g2 hc2 hm))
           ·cases h
          ·cases h
         ·cases h
        ·cases h
       ·cases h
     ·cases ht
    ·cases ht
   ·cases h
  ·rename_i hc; cases hc
  ·cases h
 |_=>simp at h
theorem b_ob {op:Op} {r:Res} (ht:obB P op rd hp=true) (h:jbK P sp op rd hp nx=some r):r.ob:=by
 unfold jbK at h
 split at h
 ·rename_i ob v hv
  cases h
  unfold ja1 at hv
  split at hv
  ·rename_i p hp0
   cases hv
   exact jxK ht hp0
  ·exact jzJ ht hv
 ·split at h
  ·rename_i r' hr
   cases h
   exact bR_ob ht hr
  ·split at h
   ·rename_i r' hr
    cases h
    exact bX_ob ht hr
   ·split at h
    ·rename_i r' hr
     cases h
     exact bL_ob ht hr
    ·split at h
     ·rename_i r' hr
      cases h
      exact bM_ob ht hr
     ·split at h
      ·rename_i r' hr
       cases h
       exact bN_ob ht hr
      ·refine bH_ob ht ?_ h
       intro c hc
       subst hc
       unfold obB at ht
       dsimp only at ht
       split at ht
       ·assumption
       ·cases ht
end
end Go.Sx
end

section
open Go.RowKit
namespace Go.Sx
section force
variable {α:Type}
def fN (n:Nat) (k:Nat→α):α :=
 match n with
 |0=>k 0
 |m+1=>k (m+1)
def fI (n:Int) (k:Int→α):α :=
 match n with
 | .ofNat m=>fN m fun m=>k (.ofNat m)
 | .negSucc m=>fN m fun m=>k (.negSucc m)
def fB (b:Bool) (k:Bool→α):α :=
 match b with
 |true=>k true
 |false=>k false
noncomputable def fL {β:Type} (f:β→(β→α)→α) (l:List β):(List β→α)→α :=
 List.rec (motive:=fun _=>(List β→α)→α) (fun k=>k []) (fun x _ ih k=>f x fun x=>ih fun r=>k (x::r)) l
def fD (x:D) (k:D→α):α :=
 match x with
 | .i q n=>fI n fun n=>k (.i q n)
 | .b b=>fB b fun b=>k (.b b)
 | .f q n=>fN n fun n=>k (.f q n)
 | .s x=>k (.s x)
 | .v x=>k (.v x)
 | .z q p=>k (.z q p)
noncomputable def fC (x:C) (k:C→α):α :=
 match x with
 | .d x=>fD x fun x=>k (.d x)
 | .p h i e j=>fN h fun h=>fN i fun i=>fN e fun e=>fN j fun j=>k (.p h i e j)
 | .o h=>fN h fun h=>k (.o h)
 | .fn f hs=>fL fN hs fun hs=>k (.fn f hs)
 | .g n i e j=>fN i fun i=>fN j fun j=>k (.g n i e j)
 | .fb f hs=>fL fN hs fun hs=>k (.fb f hs)
noncomputable def fW (x:W) (k:W→α):α :=
 match x with
 | .c x=>fC x fun x=>k (.c x)
 | .a l=>fL fC l fun l=>k (.a l)
 | .b q e r=>fL fN r fun r=>k (.b q e r)
noncomputable def fV (x:V) (k:V→α):α :=
 match x with
 | .w x=>fW x fun x=>k (.w x)
 | .t l=>fL fW l fun l=>k (.t l)
noncomputable def jf7 (c:Cont) (k:Cont→α):α :=
 match c with
 | .ints q l=>fL fI l fun l=>k (.ints q l)
 | .recs e l=>fL (fL fI) l fun l=>k (.recs e l)
 | .floats q l=>fL fN l fun l=>k (.floats q l)
 | .strs l=>fL (fun x k=>k x) l fun l=>k (.strs l)
 | .bools l=>fL fB l fun l=>k (.bools l)
 | .lits e l=>fL (fL fD) l fun l=>k (.lits e l)
 | .frs q e l=>fL (fL fN) l fun l=>k (.frs q e l)
noncomputable def fNC (x:NC) (k:NC→α):α :=
 match x with
 | .d x=>fD x fun x=>k (.d x)
 | .r c=>jf7 c fun c=>k (.r c)
noncomputable def fXC (x:XC) (k:XC→α):α :=
 match x with
 | .st sh l=>fL (fL fNC) l fun l=>k (.st sh l)
 | .ii q l=>fL (fL fI) l fun l=>k (.ii q l)
 | .ff q l=>fL (fL fN) l fun l=>k (.ff q l)
 | .bb q e l=>fL (fL (fL fN)) l fun l=>k (.bb q e l)
 | .rr e l=>fL (fL (fL fI)) l fun l=>k (.rr e l)
noncomputable def fO (o:O) (k:O→α):α :=
 match o with
 | .box ty cs=>fL fC cs fun cs=>k (.box ty cs)
 | .row ty c=>jf7 c fun c=>k (.row ty c)
 | .ext c=>jf7 c fun c=>k (.ext c)
 | .view r c f=>fN r fun r=>jf7 c fun c=>fB f fun f=>k (.view r c f)
 | .dead=>k .dead
 | .nan q=>k (.nan q)
 | .ebox cs=>fL fC cs fun cs=>k (.ebox cs)
 | .arr ty q e r=>fL fN r fun r=>k (.arr ty q e r)
 | .xext x=>fXC x fun x=>k (.xext x)
 | .map es=>k (.map es)
 | .rrow c=>jf7 c fun c=>k (.rrow c)
 | .fext c=>jf7 c fun c=>k (.fext c)
 | .xrow ty x=>fXC x fun x=>k (.xrow ty x)
 | .mrow ty ts x ho=>fXC x fun x=>match ho with
  |none=>k (.mrow ty ts x none)
  |some p=>k (.mrow ty ts x (some p))
 | .sub r i e j ty c=>fN r fun r=>fN i fun i=>fN e fun e=>fN j fun j=>jf7 c fun c=>k (.sub r i e j ty c)
 | .lbox ty e n cs=>fL fC cs fun cs=>k (.lbox ty e n cs)
 | .lview r e n cs=>fN r fun r=>fL fC cs fun cs=>k (.lview r e n cs)
 | .elist e n cs=>fL fC cs fun cs=>k (.elist e n cs)
 | .err=>k .err
 | .atom=>k .atom
def fS (o:O) (k:O→α):α :=
 match o with
 | .box ty cs=>k (.box ty cs)
 | .row ty c=>k (.row ty c)
 | .ext c=>k (.ext c)
 | .view r c f=>k (.view r c f)
 | .dead=>k .dead
 | .nan q=>k (.nan q)
 | .ebox cs=>k (.ebox cs)
 | .arr ty q e r=>k (.arr ty q e r)
 | .xext x=>k (.xext x)
 | .map es=>k (.map es)
 | .rrow c=>k (.rrow c)
 | .fext c=>k (.fext c)
 | .xrow ty x=>k (.xrow ty x)
 | .mrow ty ts x ho=>k (.mrow ty ts x ho)
 | .sub r i e j ty c=>k (.sub r i e j ty c)
 | .lbox ty e n cs=>k (.lbox ty e n cs)
 | .lview r e n cs=>k (.lview r e n cs)
 | .elist e n cs=>k (.elist e n cs)
 | .err=>k .err
 | .atom=>k .atom
theorem jbu (n:Nat) (k:Nat→α):fN n k=k n:=by cases n<;>rfl
theorem jov (n:Int) (k:Int→α):fI n k=k n:=by cases n<;>simp only[fI,jbu]
theorem jwb (b:Bool) (k:Bool→α):fB b k=k b:=by cases b<;>rfl
theorem ja2 {β:Type} {f:β→(β→α)→α} (hf:∀x k,f x k=k x):∀(l:List β) (k:List β→α),fL f l k=k l
 |[],_=>rfl
 |x::r,k=>by
  show f x (fun x=>fL f r fun r=>k (x::r))=_
  rw[hf,ja2 hf r]
theorem jwc (x:D) (k:D→α):fD x k=k x:=by cases x<;>simp only[fD,jov,jwb,jbu]
theorem jwd (x:C) (k:C→α):fC x k=k x:=by cases x<;>simp only[fC,jwc,jbu,ja2 jbu]
theorem jzK (x:W) (k:W→α):fW x k=k x:=by cases x<;>simp only[fW,jwd,ja2 jwd,ja2 jbu]
theorem jc1 (x:V) (k:V→α):fV x k=k x:=by cases x<;>simp only[fV,jzK,ja2 jzK]
theorem jsC (x:Cont) (k:Cont→α):jf7 x k=k x:=by
 cases x<;>simp only[jf7,ja2 jov,ja2 (ja2 jov),ja2 jbu,ja2 (fun(x:ByteArray) (k:ByteArray→α)=>rfl),ja2 jwb,ja2 (ja2 jwc),ja2 (ja2 jbu)]
theorem jAT (x:NC) (k:NC→α):fNC x k=k x:=by cases x<;>simp only[fNC,jwc,jsC]
theorem jxL (x:XC) (k:XC→α):fXC x k=k x:=by
 cases x<;>simp only[fXC,ja2 (ja2 jAT),ja2 (ja2 jov),ja2 (ja2 jbu),ja2 (ja2 (ja2 jbu)),ja2 (ja2 (ja2 jov))]
theorem jwe (x:O) (k:O→α):fO x k=k x:=by
 cases x with
 |mrow ty ts x ho=>cases ho<;>simp only[fO,jxL]
 |_=>simp only[fO,ja2 jwd,jsC,jbu,jwb,ja2 jbu,jxL]
theorem fS_eq (x:O) (k:O→α):fS x k=k x:=by cases x<;>rfl
def jiu:O→Bool
 | .dead=>true
 |_=>false
noncomputable def hpF (live:Nat→Bool) (j seen:Nat) (hp:Hp) (k:Hp→α):α :=
 List.rec (motive:=fun _=>Nat→Nat→(Hp→α)→α) (fun _ _ k=>k []) (fun x _ ih j seen k=>fN x.1 fun h=>match Nat.testBit seen h with
  |true=>ih j.pred seen k
  |false=>fN (seen ||| 1 <<< h) fun seen=>match live h with
   |false=>ih j.pred seen k
   |true=>match j with
    |0=>fS x.2 fun o=>match jiu o with
     |true=>ih 0 seen k
     |false=>ih 0 seen fun r=>k ((h,o)::r)
    |j+1=>fO x.2 fun o=>match jiu o with
     |true=>ih j seen k
     |false=>ih j seen fun r=>k ((h,o)::r)) hp j seen k
theorem jAg {live:Nat→Bool} {j seen:Nat} {k:Hp→α}:hpF live j seen [] k=k []:=rfl
theorem jy7 {live:Nat→Bool} {j seen h:Nat} {o:O} {r:Hp} {k:Hp→α}:hpF live j seen ((h,o)::r) k=fN h fun h=>match Nat.testBit seen h with
  |true=>hpF live j.pred seen r k
  |false=>fN (seen ||| 1 <<< h) fun seen=>match live h with
   |false=>hpF live j.pred seen r k
   |true=>match j with
    |0=>fS o fun o=>match jiu o with
     |true=>hpF live 0 seen r k
     |false=>hpF live 0 seen r fun r=>k ((h,o)::r)
    |j+1=>fO o fun o=>match jiu o with
     |true=>hpF live j seen r k
     |false=>hpF live j seen r fun r=>k ((h,o)::r):=rfl
theorem juT (seen h t:Nat):Nat.testBit (seen ||| 1 <<< h) t=false↔Nat.testBit seen t=false∧t≠h:=by
 rw[Nat.testBit_or,Nat.one_shiftLeft,Nat.testBit_two_pow]
 simp only[Bool.or_eq_false_iff,decide_eq_false_iff_not]
 exact⟨fun h=>⟨h.1,fun e=>h.2 e.symm⟩,fun h=>⟨h.1,fun e=>h.2 e.symm⟩⟩
theorem jgO {live:Nat→Bool}:∀(hp:Hp) (j seen:Nat) (k:Hp→α),∃hp',hpF live j seen hp k=k hp'∧∀h o,find hp' h=some o→find hp h=some o∧Nat.testBit seen h=false∧live h=true
 |[],j,seen,k=>⟨[],jAg,fun h o hf=>by cases hf⟩
 |(h0,o0)::r,j,seen,k=>by
  rw[jy7,jbu]
  have skip:∀(j seen':Nat) (k:Hp→α),(∀t,Nat.testBit seen' t=false→Nat.testBit seen t=false∧t≠h0)→∃hp',hpF live j seen' r k=k hp'∧∀h o,find hp' h=some o→find ((h0,o0)::r) h=some o∧Nat.testBit seen h=false∧live h=true:=by
   intro j seen' k hs
   obtain⟨hp',h1,h2⟩:=jgO r j seen' k
   refine⟨hp',h1,fun h o hf=>?_⟩
   obtain⟨h3,h4,h9⟩:=h2 h o hf
   obtain⟨h5,h6⟩:=hs h h4
   exact⟨by rw[find,if_neg (fun e=>h6 e.symm)]; exact h3,h5,h9⟩
  have keep:∀(j seen':Nat),(∀t,Nat.testBit seen' t=false→Nat.testBit seen t=false∧t≠h0)→Nat.testBit seen h0=false→live h0=true→∃hp',hpF live j seen' r (fun r=>k ((h0,o0)::r))=k hp'∧∀h o,find hp' h=some o→find ((h0,o0)::r) h=some o∧Nat.testBit seen h=false∧live h=true:=by
   intro j seen' hs h0s hl0
   obtain⟨hp',h1,h2⟩:=jgO r j seen' (fun r=>k ((h0,o0)::r))
   refine⟨(h0,o0)::hp',h1,fun h o hf=>?_⟩
   rw[find]at hf
   split at hf
   ·rename_i e
    subst e
    cases hf
    exact⟨by rw[find,if_pos rfl],h0s,hl0⟩
   ·rename_i e
    obtain⟨h3,h4,h9⟩:=h2 h o hf
    exact⟨by rw[find,if_neg e]; exact h3,(hs h h4).1,h9⟩
  cases hs:Nat.testBit seen h0 with
  |true =>
   refine skip _ _ _ fun t ht=>⟨ht,fun e=>?_⟩
   subst e
   rw[ht]at hs
   cases hs
  |false =>
   dsimp only
   rw[jbu]
   have hn:=fun t=>(juT seen h0 t).1
   cases hl0:live h0 with
   |false=>exact skip _ _ _ hn
   |true =>
    cases j with
    |zero =>
     dsimp only
     rw[fS_eq]
     cases jiu o0 with
     |true=>exact skip _ _ _ hn
     |false=>exact keep _ _ hn hs hl0
    |succ j =>
     dsimp only
     rw[jwe]
     cases jiu o0 with
     |true=>exact skip _ _ _ hn
     |false=>exact keep _ _ hn hs hl0
noncomputable def tmF (seen:Nat) (tm:List (Nat × V)) (k:List (Nat × V)→α):α :=
 List.rec (motive:=fun _=>Nat→(List (Nat × V)→α)→α) (fun _ k=>k []) (fun x _ ih seen k=>match Nat.testBit seen x.1 with
  |true=>ih seen k
  |false=>fV x.2 fun v=>fN (seen ||| 1 <<< x.1) fun seen=>ih seen fun r=>k ((x.1,v)::r)) tm seen k
theorem jAh {seen:Nat} {k:List (Nat × V)→α}:tmF seen [] k=k []:=rfl
theorem jy8 {seen t:Nat} {v:V} {r:List (Nat × V)} {k:List (Nat × V)→α}:tmF seen ((t,v)::r) k=match Nat.testBit seen t with
  |true=>tmF seen r k
  |false=>fV v fun v=>fN (seen ||| 1 <<< t) fun seen=>tmF seen r fun r=>k ((t,v)::r):=rfl
theorem jnf:∀(tm:List (Nat × V)) (seen:Nat) (k:List (Nat × V)→α),∃tm',tmF seen tm k=k tm'∧∀t v,jaE tm' t=some v→jaE tm t=some v∧Nat.testBit seen t=false
 |[],seen,k=>⟨[],jAh,fun h o hf=>by cases hf⟩
 |(t0,v0)::r,seen,k=>by
  rw[jy8]
  cases hs:Nat.testBit seen t0 with
  |true =>
   obtain⟨tm',h1,h2⟩:=jnf r seen k
   refine⟨tm',h1,fun t v hf=>?_⟩
   obtain⟨h3,h4⟩:=h2 t v hf
   refine⟨?_,h4⟩
   rw[jaE,if_neg (fun e=>by subst e; rw[h4]at hs; cases hs)]
   exact h3
  |false =>
   dsimp only
   rw[jc1,jbu]
   obtain⟨tm',h1,h2⟩:=jnf r (seen ||| 1 <<< t0) (fun r=>k ((t0,v0)::r))
   refine⟨(t0,v0)::tm',h1,fun t v hf=>?_⟩
   rw[jaE]at hf
   split at hf
   ·rename_i e
    subst e
    cases hf
    exact⟨by rw[jaE,if_pos rfl],hs⟩
   ·rename_i e
    obtain⟨h3,h4⟩:=h2 t v hf
    exact⟨by rw[jaE,if_neg e]; exact h3,((juT seen t0 t).1 h4).1⟩
end force
noncomputable def jpy (l:List (Nat × V)) (t:Nat):Option V :=
 List.rec (motive:=fun _=>Option V) none (fun x _ ih=>Bool.rec (motive:=fun _=>Option V) ih (some x.2) (Nat.beq x.1 t)) l
theorem jiv:∀(l:List (Nat × V)) (t:Nat),jpy l t=jaE l t
 |[],_=>rfl
 |(k,v)::r,t=>by
  have ih:=jiv r t
  rw[jaE,←ih]
  show Bool.rec (motive:=fun _=>Option V) (jpy r t) (some v) (Nat.beq k t)=_
  cases h:Nat.beq k t with
  |true=>rw[if_pos (Nat.eq_of_beq_eq_true h)]
  |false=>rw[if_neg (fun e=>by subst e; rw[Nat.beq_refl]at h; cases h)]
noncomputable def jlN (l:Hp) (t:Nat):Option O :=
 List.rec (motive:=fun _=>Option O) none (fun x _ ih=>Bool.rec (motive:=fun _=>Option O) ih (some x.2) (Nat.beq x.1 t)) l
theorem jdi:∀(l:Hp) (t:Nat),jlN l t=find l t
 |[],_=>rfl
 |(k,v)::r,t=>by
  have ih:=jdi r t
  rw[find,←ih]
  show Bool.rec (motive:=fun _=>Option O) (jlN r t) (some v) (Nat.beq k t)=_
  cases h:Nat.beq k t with
  |true=>rw[if_pos (Nat.eq_of_beq_eq_true h)]
  |false=>rw[if_neg (fun e=>by subst e; rw[Nat.beq_refl]at h; cases h)]
noncomputable def jlh {α:Type} (l:List α) (n:Nat):Option α :=
 List.rec (motive:=fun _=>Nat→Option α) (fun _=>none) (fun x _ ih n=>match n with|0=>some x|n+1=>ih n) l n
theorem jd9 {α:Type}:∀(l:List α) (n:Nat),jlh l n=l[n]?
 |[],_=>rfl
 |x::r,0=>rfl
 |x::r,n+1=>by
  have:=jd9 r n
  show jlh r n=_
  rw[this]
  simp
noncomputable def rdQ [Globs] (st:St):Operand→Option V
 | .tmp t=>jpy st.tm t
 | .const v=>some (.w (ofValue v))
 | .global g=>jb5 st (.global g)
 | .func f=>some (.w (.c (.fn f [])))
theorem jxM [Globs] (st:St):rdQ st=jb5 st:=by
 funext x
 cases x<;>first|exact jiv _ _|rfl
def jsD:List Nat→Nat
 |[]=>0
 |h::r=>1 <<< h ||| jsD r
def jzL:C→Nat
 | .p h _ _ _=>1 <<< h
 | .o h=>1 <<< h
 | .fn _ hs=>jsD hs
 | .fb _ hs=>jsD hs
 |_=>0
def jfx:List C→Nat→Nat
 |[],m=>m
 | .d _::r,m=>jfx r m
 |c::r,m=>jfx r (jzL c ||| m)
def jzM:W→Nat→Nat
 | .c c,m=>jzL c ||| m
 | .a l,m=>jfx l m
 | .b _ _ _,m=>m
def jq2:V→Nat→Nat
 | .w u,m=>jzM u m
 | .t l,m=>l.foldl (fun m u=>jzM u m) m
def jzN:O→Nat→Nat
 | .box _ cs,m=>jfx cs m
 | .ebox cs,m=>jfx cs m
 | .lbox _ _ _ cs,m=>jfx cs m
 | .lview r _ _ cs,m=>jfx cs (1 <<< r ||| m)
 | .elist _ _ cs,m=>jfx cs m
 | .view r _ _,m=>1 <<< r ||| m
 | .sub r _ _ _ _ _,m=>1 <<< r ||| m
 |_,m=>m
noncomputable def jow {α:Type} (n0:Nat) (hp:Hp) (m:Nat) (k:Nat→α):α :=
 List.rec (motive:=fun _=>Nat→(Nat→α)→α) (fun m k=>k m) (fun x _ ih m k=>match Nat.blt x.1 n0||Nat.testBit m x.1 with
  |true=>fN (jzN x.2 m) fun m=>ih m k
  |false=>ih m k) hp m k
theorem jwf {α:Type} {n0 h:Nat} {o:O} {r:Hp} {m:Nat} {k:Nat→α}:jow n0 ((h,o)::r) m k=match Nat.blt h n0||Nat.testBit m h with
  |true=>fN (jzN o m) fun m=>jow n0 r m k
  |false=>jow n0 r m k:=rfl
noncomputable def jiw {α:Type} (n0:Nat) (hp:Hp):Nat→Nat→(Nat→α)→α
 |0,m,k=>k m
 |n+1,m,k=>jow n0 hp m fun m'=>match Nat.beq m m' with
  |true=>k m'
  |false=>jiw n0 hp n m' k
theorem jjx {α:Type} {n0:Nat}:∀(hp:Hp) (m:Nat) (k:Nat→α),∃m',jow n0 hp m k=k m'
 |[],m,k=>⟨m,rfl⟩
 |(h,o)::r,m,k=>by
  rw[jwf]
  split
  ·rw[jbu]; exact jjx r _ k
  ·exact jjx r _ k
theorem jhU {α:Type} {n0:Nat} {hp:Hp}:∀(n m:Nat) (k:Nat→α),∃m',jiw n0 hp n m k=k m'
 |0,m,k=>⟨m,rfl⟩
 |n+1,m,k=>by
  unfold jiw
  obtain⟨m',h⟩:=jjx (n0:=n0) hp m (fun m'=>match Nat.beq m m' with|true=>k m' | false=>jiw n0 hp n m' k)
  rw[h]
  split
  ·exact⟨_,rfl⟩
  ·exact jhU n m' k
end Go.Sx
end
