/- Part 2 of the proof of FigureSheetsCard: the executor, the mirrors of the functions, the plain facts. -/
import Derived.Test.YtcklfboglnfepaaGreatDoorPA
import Derived.RangeFuncNested
import Derived.RangeFuncBound
import Derived.RangeFuncCalls
import Derived.RangeFuncLeaves
import Derived.OwnWalkIn
import Derived.TacticsInMore
import Derived.OrdersIn
set_option maxRecDepth 100000
set_option linter.unusedSectionVars false
set_option linter.unusedSimpArgs false
set_option linter.unusedVariables false
section
open Go.RowKit
namespace Go.Sx
section
variable [Globs] {P:Program} {ρ:Env} {B:Bd} {nx:Nat} {hp:Hp} {w:World} {rd:Operand→Option V} {a:Act} {sp:jab}
theorem joy {o:Oper} {t h j n elem e ty:Nat} {x:Operand} {cs:List C} {z ds:List D} {c:Cont} (hh:HRel ρ B hp nx w) (hB:Old B w) (hr:jaZ ρ nx rd a) (ho:o.op=.slice t x none none none)
  (hu:P.underlying t=some (.array n elem)) (hx:rd x=some (.w (.c (.p h 0 1 j)))) (hf:find hp h=some (.box ty cs)) (hs:szT P elem=some (e+1)) (hds:jbP ((cs.drop j).take (n*(e+1)))=some ds)
  (hl:z.length=e+1∧ds.length=n*(e+1)∧0<n) (hc:jeZ z (jh1 (e+1) n ds)=some c) :
  ja7 P ρ B nx a w o ⟨True,.w (.c (.o nx)),(nx,.view h c true)::hp,nx+1⟩ true:=by
 obtain⟨hz,hdl,hn0⟩:=hl
 obtain⟨hlt,hol,g,hk,hBg,hheap⟩:=hh.ok h _ hf
 have hck:=jh2 (e+1) n ds hdl
 have hmk:=jeP hc
 have hxv:a.eval x=.pointer (some ⟨g,j,none⟩):=by rw[(hr _ _ hx).2]; simp[C.val,hk,base]
 refine jaH (ρ':=upd ρ nx (.slice (some ⟨g,j,none⟩) n n)) (w':=w) ?_ ?_
 ·unfold execOp
  have hsb:(Instr.sliceBounds false n n none none none).run P w=.ok (0,n,n) w:=by simp[Instr.sliceBounds]
  simp only[ho,hxv,Option.map_none,Instr.sliceAt,Sem.run_bind,run_underlying hu,Result.andThen_ok,Instr.sureAddr,Sem.run_pure,hsb,jaX w hs]
  rw[if_neg (by omega)]
  simp[V.val,W.val,C.val,jbl]
 ·refine jem hh hB _ (.view h c true) rfl rfl (show V.lt (nx+1) (.w (.c (.o nx)))from Nat.lt_succ_self nx) true (Nat.lt_of_lt_of_le hlt (Nat.le_succ nx)) ⟨?_,fun _ a' n' cap' heq=>by rw[upd_same]at heq; cases heq; rfl⟩ rfl
  ·rw[upd_same]
   refine⟨some ⟨g,j,none⟩,n,by rw[hmk.2.1,hck.2],⟨by rw[hmk.2.1,hck.2]; exact Nat.le_refl _,fun h=>by cases h⟩,fun _=>⟨g,j,rfl,fun m x hm=>?_⟩⟩
   rw[hmk.1,hck.1]at hm
   rw[cell_of_row w g _ _ ty (0,0) hheap]
   have hde:=jcT hds
   have hml:m<n*(e+1):=by rw[←hdl]; exact(List.getElem?_eq_some_iff.1 hm).1
   have h1:((cs.drop j).take (n*(e+1)))[m]?=some (C.d x):=by rw[hde,List.getElem?_map,hm]; rfl
   rw[List.getElem?_take,if_pos hml,List.getElem?_drop]at h1
   simp[h1,C.val]
theorem jus {t ty elem e b:Nat} {i:TypeInfo} {z:Value} (hu:P.underlying t=some (.slice elem)) (hi:P.info? elem=some i) (hz:i.zero=some z) (hsz:i.size=e+1) (hby:i.bytes=b) (hzs:z.cells.size=e+1)
  {v xv:Value} {n m:Nat} {xs news:List Value} (hown:w.ownsRow 0 elem (e+1) v n xs) (hl:news.length=m*(e+1)) (h1:∀u∈news,u.oneCell'=true)
  (hx:(xv=.slice none 0 0∧m=0)∨∃ad c,xv=.slice (some ad) m c∧∀j u,news[j]?=some u→w.cell? (ad.add j)=some u)
  (h63:n+m≤9223372036854775807) (hbytes:(n+m)*b≤140737488355328) :
  ∃v' w',(Builtin.append_ #[t,t] ty #[v,xv]).run P w=.ok v' w'∧w'.ownsRow 0 elem (e+1) v' (n+m) (xs++news)∧w.grownBy w' v.ownBlock ∧
   ∀k,v'.ownBlock=some k→v.ownBlock=some k∨w.heap.size≤k:=by
 rcases hx with ⟨rfl,rfl⟩|⟨ad,c,rfl,hnews⟩
 ·-- nothing is appended
  have hne:news=[]:=List.eq_nil_of_length_eq_zero (by simpa using hl)
  subst hne
  have hszT:szT P elem=some (e+1):=by simp[szT,hi,hsz]
  refine⟨v,w,?_,by simpa using hown,⟨rfl,rfl,rfl,Nat.le_refl _,fun _ _ _=>rfl⟩,fun k hk=>.inl hk⟩
  rcases hown.2 with ⟨rfl,rfl⟩|⟨g,cap,cur,rfl,hb,hg,hnc,_⟩
  ·simp[Builtin.append_,run_underlying hu,jaX w hszT,Builtin.lenOf,Builtin.firstCells]
  ·simp[Builtin.append_,run_underlying hu,jaX w hszT,Builtin.lenOf,Builtin.firstCells,hnc,storeCells]
 ·obtain⟨v',w',hrun,hown',hgrown,hnil⟩:=run_append_own (P:=P) w 0 t ty elem i z (e+1) b hu hi hz hsz hby hzs (Nat.succ_pos e) v n xs hown ad m c news hl hnews h1 (by simpa [maxLen]using h63) hbytes (Nat.zero_le _)
  refine⟨v',w',hrun,hown',hgrown,fun k hk=>?_⟩
  rcases hown.2 with ⟨rfl,rfl⟩|⟨g,cap,cur,rfl,hbg,hg,hnc,hcm,hcs,htk⟩
  ·by_cases hm:m=0
   ·have:=hnil.2 ⟨rfl,hm⟩
    subst this
    simp[Value.ownBlock]at hk
   ·have hr2:=run_append_nil (P:=P) w t ty elem i z hu hi hz ad m c news (by rw[hsz]; exact hl) hnews (by omega) (by omega) (by rw[hby]; have hb:=hbytes; simp only[Nat.zero_add]at hb; omega)
    rw[hrun]at hr2
    cases hr2
    simp[Value.ownBlock]at hk
    exact .inr (by omega)
  ·by_cases hroom:n+m≤cap
   ·have hfit:n*i.size+news.length≤cur.size:=by rw[hl,hcs,hsz,←Nat.add_mul]; exact Nat.mul_le_mul_right _ hroom
    have hr2:=run_append_room (P:=P) w t ty elem i hu hi g n cap cur hg ad m c news (by rw[hsz]; exact hl) hnews h1 hroom hfit
    rw[hrun]at hr2
    cases hr2
    exact .inl hk
   ·have holds:∀j u,xs[j]?=some u→w.cell? ((⟨g,0,none⟩:Addr).add j)=some u:=hown.cells (g:=g) rfl
    have hr2:=run_append_grow (P:=P) w t ty elem i z hu hi hz ⟨g,0,none⟩ n cap xs (by rw[hsz]; exact hown.1) holds ad m c news (by rw[hsz]; exact hl) hnews (by omega) (by omega) (growslice_fits (by omega) (by rw[hby]; exact hbytes))
    rw[hrun]at hr2
    cases hr2
    simp[Value.ownBlock]at hk
    exact .inr (by omega)
theorem jlL {w':World} {row:Option Nat} (hg:w.grownBy w' row) (h:∀k,row=some k→¬B k) (hB:Old B w):Bel B w w' :=
 ⟨hg.os,hg.tape,hg.output,hg.size,fun k hk=>hg.block k (hB k hk) (fun e=>h k e.symm hk)⟩
theorem HRel.grow {w':World} {v v':Value} {o':O} {hp1:Hp} (hh:HRel ρ B hp nx w) (hB:Old B w) (hg:w.grownBy w' v.ownBlock) (hgB:∀k,v.ownBlock=some k→¬B k)
  (hp1s:∀k o,find hp1 k=some o→find (jbd hp) k=some o∨o=.dead∧k<nx) (hfree:∀k o g,find hp1 k=some o→o.blk (ρ k)=some g→v.ownBlock≠some g)
  (ho:o'.ok (upd ρ nx v') B w' nx) (hl:o'.lt (nx+1)) (hb:∀k,o'.blk v'=some k→v.ownBlock=some k∨w.heap.size≤k) :
  HRel (upd ρ nx v') B ((nx,o')::hp1) (nx+1) w':=by
 have hag:=jaB ρ nx v'
 have old:∀k o,find hp1 k=some o→k<nx∧o.lt nx∧o.ok ρ B w k∧(∀r c fl,o≠.view r c fl):=by
  intro k o hk
  rcases hp1s k o hk with h|⟨h,h2⟩
  ·obtain⟨_,_,h3,h4,h5,h6,_⟩:=jbZ hh h
   exact⟨h3,h4,h5,h6⟩
  ·subst h; exact⟨h2,trivial,trivial,fun _ _ _=>by simp⟩
 have blklt:∀k o g,find hp1 k=some o→o.blk (ρ k)=some g→g<w.heap.size:=fun k o g hk hbk=>(O.blk_lt (old k o hk).2.2.1 hbk).1
 refine⟨?_,?_,hh.glob.bel (jlL hg hgB hB)⟩
 ·intro k o hk
  simp only[find]at hk
  split at hk
  ·rename_i e
   subst e
   cases hk
   exact⟨by omega,hl,ho⟩
  ·obtain⟨h3,h4,h5,h6⟩:=old k o hk
   refine⟨by omega,O.lt_mono (Nat.le_succ nx) h4,?_⟩
   refine O.ok_agree hag h3 h4 ?_
   cases hv:v.ownBlock with
   |none =>
    exact O.ok_except (g:=w.heap.size) (fun b hb2 _=>hg.block b hb2 (by rw[hv]; simp)) (fun hc=>Nat.lt_irrefl _ (hB _ hc)) h5 (fun e=>by have:=blklt k o _ hk e; omega) h6
   |some g =>
    exact O.ok_except (g:=g) (fun b hb2 hne=>hg.block b hb2 (by rw[hv]; simpa using hne)) (hgB g hv) h5 (fun e=>hfree k o g hk e hv) h6
 ·intro k o1 k' o1' b hk hk' hne hbk hbk'
  simp only[find]at hk hk'
  split at hk
  ·rename_i e
   subst e
   cases hk
   rw[if_neg hne]at hk'
   obtain⟨h3,_,_,_⟩:=old k' o1' hk'
   rw[upd_same]at hbk
   rw[hag k' h3]at hbk'
   rcases hb b hbk with h|h
   ·exact hfree k' o1' b hk' hbk' h
   ·have:=blklt k' o1' b hk' hbk'
    omega
  ·split at hk'
   ·rename_i e
    subst e
    cases hk'
    obtain⟨h3,_,_,_⟩:=old k o1 hk
    rw[upd_same]at hbk'
    rw[hag k h3]at hbk
    rcases hb b hbk' with h|h
    ·exact hfree k o1 b hk hbk h
    ·have:=blklt k o1 b hk hbk
     omega
   ·obtain⟨h3,_,_,_⟩:=old k o1 hk
    obtain⟨h3',_,_,_⟩:=old k' o1' hk'
    rw[hag k h3]at hbk
    rw[hag k' h3']at hbk'
    rcases hp1s k o1 hk with h|⟨h,_⟩
    ·rcases hp1s k' o1' hk' with h' | ⟨h',_⟩
     ·obtain⟨o2,h2,_,_,_,_,h7⟩:=jbZ hh h
      obtain⟨o3,h3,_,_,_,_,h8⟩:=jbZ hh h'
      exact hh.apart k o2 k' o3 b h2 h3 hne (h7 b hbk) (h8 b hbk')
     ·subst h'; simp[O.blk]at hbk'
    ·subst h; simp[O.blk]at hbk
theorem jd0 {v:V} {hs:Option Nat} {cs:Option Cont} (hh:HRel ρ B hp nx w) (h:jdi hp v=some (hs,cs)) :
  (hs=none∧cs=none∧v.val ρ=.slice none 0 0)∨∃k o c,hs=some k∧cs=some c∧v.val ρ=ρ k∧find hp k=some o∧o.cont=some c∧ja9 w (ρ k) c:=by
 unfold jdi at h
 split at h
 ·rename_i k
  split at h
  ·rename_i c hc
   cases h
   cases hf:find hp k with
   |none=>simp[hf]at hc
   |some o =>
    simp only[hf,Option.bind_some]at hc
    exact .inr ⟨k,o,c,rfl,rfl,rfl,hf,hc,jbo (hh.ok k o hf).2.2 hc⟩
  ·cases h
 ·cases h
  exact .inl ⟨rfl,rfl,rfl⟩
 ·cases h
theorem jro {o:Oper} {t elem e b:Nat} {s x:Operand} {c:Call} {us ux:V} {hs hx:Option Nat} {cs cx:Option Cont} {z:List D} {c1 c2 c3:Cont} (hh:HRel ρ B hp nx w) (hB:Old B w) (hr:jaZ ρ nx rd a)
  (ho:o.op=.call c) (hcal:c.callee=.builtin .append) (hargs:c.args=#[s,x]) (hts:c.argTypes=#[t,t]) (hu:P.underlying t=some (.slice elem))
  (hrs:rd s=some us) (hrx:rd x=some ux) (hss:jdi hp us=some (hs,cs)) (hsx:jdi hp ux=some (hx,cx)) (hz:(jbx P elem).bind jbP=some z) (hsz:szT P elem=some (e+1)) (hby:jdY P elem=some b)
  (hown:match hs,find hp (hs.getD nx)with|none,_=>True|some _,some (.row ty _)=>ty=elem|_,_=>False)
  (h1:jdX z cs=some c1) (h2:jdX z cx=some c2) (h3:c1.app c2=some c3) (hzl:z.length=e+1) (he1:c1.e=e+1)
  (hob:(c1.n+c2.n)*b≤140737488355328∧c1.n+c2.n≤9223372036854775807) (hone:∀x∈c2.flat,x.val.oneCell'=true) (r:Res) (hrn:r.nx=nx+1) (hrv:r.v=.w (.c (.o nx)))
  (hrh:r.hp=(nx,.row elem c3)::(match hs with|some h=>(h,.dead)::jbd hp|none=>jbd hp)) :
  ja7 P ρ B nx a w o r false:=by
 have happ:=Cont.app_flat h3
 have hvs:=(hr _ _ hrs).2
 have hvx:=(hr _ _ hrx).2
 cases hi:P.info? elem with
 |none=>simp[szT,hi]at hsz
 |some i =>
  have hsz':i.size=e+1:=by simpa [szT,hi]using hsz
  have hby':i.bytes=b:=by simpa [jdY,hi]using hby
  cases hzz:i.zero with
  |none=>simp[jbx,hi,hzz]at hz
  |some zv =>
   cases hzc:jbx P elem with
   |none=>simp[hzc]at hz
   |some zc =>
    simp only[hzc,Option.bind_some]at hz
    obtain⟨v0,hv0,hvc,_⟩:=jcf (P:=P) (w:=w) (ρ:=ρ) hzc
    have hvz:v0=zv:=by
     simp[zeroValue,typeInfo,hi,hzz]at hv0
     exact hv0.symm
    subst hvz
    have hzce:=jcT hz
    have hzs:v0.cells.size=e+1:=by rw[hvc,hzce]; simp[hzl]
    have hmk0:∀c,jeZ z []=some c→c.n=0∧c.flat=[]:=fun c hc=>by have:=jeP hc; exact⟨this.2.1,this.1⟩
    have hbase:w.ownsRow 0 elem (e+1) (us.val ρ) c1.n (c1.flat.map D.val)∧(∀k,(us.val ρ).ownBlock=some k→∃h o,hs=some h∧find hp h=some o∧o.blk (ρ h)=some k):=by
     rcases jd0 hh hss with ⟨rfl,rfl,hv⟩|⟨k,ob,c,rfl,rfl,hv,hf,hc,_⟩
     ·have:=hmk0 c1 h1
      rw[hv,this.1,this.2]
      exact⟨World.ownsRow_nil w 0 elem (e+1),fun k hk=>by simp[Value.ownBlock]at hk⟩
     ·simp only[jdX,Option.some.injEq]at h1
      subst h1
      simp only[Option.getD_some,hf]at hown
      cases ob with
      |row ty c' =>
       simp only at hown
       subst hown
       simp[O.cont]at hc
       subst hc
       have hok:=(hh.ok k _ hf).2.2
       rw[hv]
       refine⟨by rw[←he1]; exact hok.1,fun g hg=>⟨k,_,rfl,hf,hg⟩⟩
      |_=>exact hown.elim
    have hsrc:((ux.val ρ)=.slice none 0 0∧c2.n=0)∨∃ad cc,(ux.val ρ)=.slice (some ad) c2.n cc∧∀j u,(c2.flat.map D.val)[j]?=some u→w.cell? (ad.add j)=some u:=by
     rcases jd0 hh hsx with ⟨rfl,rfl,hv⟩|⟨k,ob,c,rfl,rfl,hv,hf,hc,hrow⟩
     ·exact .inl ⟨hv,(hmk0 c2 h2).1⟩
     ·simp only[jdX,Option.some.injEq]at h2
      subst h2
      obtain⟨a',cap,h5,⟨h6,h6'⟩,h7⟩:=hrow
      by_cases hn:0<c.n
      ·obtain⟨bb,off,rfl,hcell⟩:=h7 hn
       refine .inr ⟨⟨bb,off,none⟩,cap,by rw[hv,h5],fun j u hj=>?_⟩
       rw[List.getElem?_map]at hj
       cases hjx:c.flat[j]? with
       |none=>simp[hjx]at hj
       |some x=>simp[hjx]at hj; subst hj; rw[jbl]; exact hcell j x hjx
      ·cases a' with
       |some ad =>
        refine .inr ⟨ad,cap,by rw[hv,h5],fun j u hj=>?_⟩
        have hc0:c.n=0:=by omega
        have:c.flat=[]:=List.eq_nil_of_length_eq_zero (by rw[Cont.flat_length,hc0,Nat.zero_mul])
        rw[this]at hj
        simp at hj
       |none =>
        have hcap:cap=0:=h6' rfl
        subst hcap
        have:c.n=0:=by omega
        exact .inl ⟨by rw[hv,h5,this],this⟩
    obtain⟨v',w',hrun,hown',hgrown,hwhere⟩:=jus (ty:=o.type) hu hi hzz hsz' hby' hzs hbase.1 (news:=c2.flat.map D.val) (m:=c2.n) (by simp[Cont.flat_length,happ.2.2.2,he1]) (fun u hu2=>by
     obtain⟨x,hx1,rfl⟩:=List.mem_map.1 hu2
     exact hone x hx1) hsrc hob.2 hob.1
    have hown3:w'.ownsRow 0 elem c3.e v' c3.n (c3.flat.map D.val):=by
     rw[happ.1,happ.2.1,happ.2.2.1,he1,List.map_append]
     exact hown'
    have hgB:∀k,(us.val ρ).ownBlock=some k→¬B k:=fun k hk=>by
     obtain⟨h,ob,_,hf,hbo⟩:=hbase.2 k hk
     exact(O.blk_lt (hh.ok h ob hf).2.2 hbo).2
    refine jaH (ρ':=upd ρ nx v') (w':=w') ?_ ?_
    ·unfold execOp
     simp only[ho,hcal,resolve,hargs,hts,List.map_toArray,List.map_cons,List.map_nil,Sem.run_bind,Sem.run_pure,Result.andThen_ok,invoke,builtin,hvs,hvx,hrun]
     simp[hrv,V.val,W.val,C.val]
    ·refine⟨jaB _ _ _,by rw[hrv,hrn]; exact Nat.lt_succ_self nx,by omega,?_,jlL hgrown hgB hB,(fun h=>by cases h),fun h=>by cases h⟩
     rw[hrh,hrn]
     refine HRel.grow hh hB hgrown hgB ?_ ?_ (by unfold O.ok; rw[upd_same]; exact⟨hown3,fun k hk hc=>by
      rcases hwhere k hk with h|h
      ·exact hgB k h hc
      ·have:=hB k hc; omega⟩) trivial (fun k hk=>hwhere k hk)
     ·intro k o1 hk
      cases hs with
      |none=>exact .inl hk
      |some h =>
       simp only[find]at hk
       split at hk
       ·rename_i e
        cases hk
        refine .inr ⟨rfl,?_⟩
        rcases jd0 hh hss with ⟨h',_,_⟩|⟨k2,ob,c,h',_,_,hf,_,_⟩
        ·cases h'
        ·cases h'
         rw[←e]
         exact(hh.ok _ _ hf).1
       ·exact .inl hk
     ·intro k o1 g hk hbk hvg
      obtain⟨h,ob,rfl,hf,hbo⟩:=hbase.2 g hvg
      simp only[find]at hk
      split at hk
      ·cases hk
       simp[O.blk]at hbk
      ·rename_i hne
       obtain⟨o2,h2',_,_,_,_,h7⟩:=jbZ hh hk
       exact hh.apart h ob k o2 g hf h2' hne hbo (h7 g hbk)
theorem jqg {o:Oper} {t elem e b h q:Nat} {s x:Operand} {c:Call} {ux:V} {hx:Option Nat} {cx:Option Cont} {z:List D} {c1 c2 c3:Cont} (hh:HRel ρ B hp nx w) (hB:Old B w) (hr:jaZ ρ nx rd a)
  (ho:o.op=.call c) (hcal:c.callee=.builtin .append) (hargs:c.args=#[s,x]) (hts:c.argTypes=#[t,t]) (hu:P.underlying t=some (.slice elem))
  (hrs:rd s=some (.w (.c (.o h)))) (hf:find hp h=some (.view q c1 true)) (hrx:rd x=some ux) (hsx:jdi hp ux=some (hx,cx)) (hz:(jbx P elem).bind jbP=some z) (hsz:szT P elem=some (e+1)) (hby:jdY P elem=some b)
  (h2:jdX z cx=some c2) (h3:c1.app c2=some c3) (hzl:z.length=e+1) (he1:c1.e=e+1) (hn1:0<c1.n)
  (hob:0<c2.n∧(c1.n+c2.n)*b≤140737488355328∧c1.n+c2.n≤9223372036854775807) (r:Res) (hrn:r.nx=nx+1) (hrv:r.v=.w (.c (.o nx)))
  (hrh:r.hp=(nx,.row elem c3)::hp):ja7 P ρ B nx a w o r false:=by
 have happ:=Cont.app_flat h3
 have hvs:a.eval s=ρ h:=(hr _ _ hrs).2
 have hvx:=(hr _ _ hrx).2
 obtain⟨hlt,hol,⟨a1,cap1,hv1,hc1,hcell1⟩,hfull⟩:=hh.ok h _ hf
 have hcap:=hfull rfl _ _ _ hv1
 subst hcap
 obtain⟨b1,off1,rfl,hx1⟩:=hcell1 hn1
 cases hi:P.info? elem with
 |none=>simp[szT,hi]at hsz
 |some i =>
  have hsz':i.size=e+1:=by simpa [szT,hi]using hsz
  have hby':i.bytes=b:=by simpa [jdY,hi]using hby
  cases hzz:i.zero with
  |none=>simp[jbx,hi,hzz]at hz
  |some zv =>
   cases hzc:jbx P elem with
   |none=>simp[hzc]at hz
   |some zc =>
    simp only[hzc,Option.bind_some]at hz
    obtain⟨v0,hv0,hvc,_⟩:=jcf (P:=P) (w:=w) (ρ:=ρ) hzc
    have hvz:v0=zv:=by
     simp[zeroValue,typeInfo,hi,hzz]at hv0
     exact hv0.symm
    subst hvz
    have hzce:=jcT hz
    have hzs:v0.cells.size=e+1:=by rw[hvc,hzce]; simp[hzl]
    have hmk0:∀c,jeZ z []=some c→c.n=0∧c.flat=[]:=fun c hc=>by have:=jeP hc; exact⟨this.2.1,this.1⟩
    obtain⟨ad,cc,hxv,hx2⟩:∃ad cc,(ux.val ρ)=.slice (some ad) c2.n cc∧∀j u,(c2.flat.map D.val)[j]?=some u→w.cell? (ad.add j)=some u:=by
     rcases jd0 hh hsx with ⟨rfl,rfl,hv⟩|⟨k,ob,c,rfl,rfl,hv,hf,hc,hrow⟩
     ·have:=(hmk0 c2 h2).1
      omega
     ·simp only[jdX,Option.some.injEq]at h2
      subst h2
      obtain⟨a',cap,h5,⟨h6,h6'⟩,h7⟩:=hrow
      obtain⟨bb,off,rfl,hcell⟩:=h7 hob.1
      refine⟨⟨bb,off,none⟩,cap,by rw[hv,h5],fun j u hj=>?_⟩
      rw[List.getElem?_map]at hj
      cases hjx:c.flat[j]? with
      |none=>simp[hjx]at hj
      |some x=>simp[hjx]at hj; subst hj; rw[jbl]; exact hcell j x hjx
    have hl1:(c1.flat.map D.val).length=c1.n*i.size:=by simp[Cont.flat_length,he1,hsz']
    have hl2:(c2.flat.map D.val).length=c2.n*i.size:=by simp[Cont.flat_length,happ.2.2.2,he1,hsz']
    have hrun:=run_append_grow (P:=P) w t o.type elem i v0 hu hi hzz ⟨b1,off1,none⟩ c1.n c1.n (c1.flat.map D.val) hl1 (fun j u hj=>by
     rw[List.getElem?_map]at hj
     cases hjx:c1.flat[j]? with
     |none=>simp[hjx]at hj
     |some x=>simp[hjx]at hj; subst hj; rw[jbl]; exact hx1 j x hjx) ad c2.n cc (c2.flat.map D.val) hl2 hx2 (by omega) (by have:=hob.2.2; omega) (growslice_fits (by omega) (by rw[hby']; exact hob.2.1))
    have hge:=grownCap_ge w (c1.n+c2.n) c1.n elem
    have hcm:grownCap w (c1.n+c2.n) c1.n elem≤maxLen:=grownCap_le_maxLen w (c1.n+c2.n) c1.n elem (by have:=hob.2.2; simpa [maxLen]using this)
    have hbel:Below w.heap.size w (w.drew.alloc (.cells ((c1.flat.map D.val).toArray++(c2.flat.map D.val).toArray++Builtin.zeroCells v0.cells (grownCap w (c1.n+c2.n) c1.n elem-(c1.n+c2.n))) elem)):=((Below.refl _ w).drew).alloc (Nat.le_refl _) _
    refine jaH (ρ':=upd ρ nx (.slice (some ⟨w.heap.size,0,none⟩) (c1.n+c2.n) (grownCap w (c1.n+c2.n) c1.n elem)))
     (w':=w.drew.alloc (.cells ((c1.flat.map D.val).toArray++(c2.flat.map D.val).toArray++Builtin.zeroCells v0.cells (grownCap w (c1.n+c2.n) c1.n elem-(c1.n+c2.n))) elem)) ?_ ?_
    ·unfold execOp
     simp only[ho,hcal,resolve,hargs,hts,List.map_toArray,List.map_cons,List.map_nil,Sem.run_bind,Sem.run_pure,Result.andThen_ok,invoke,builtin,hvs,hvx,hv1,hxv,hrun]
     simp[hrv,V.val,W.val,C.val]
    ·refine⟨jaB _ _ _,by rw[hrv,hrn]; exact Nat.lt_succ_self nx,by omega,?_,jb7 hbel hB,(fun h=>by cases h),fun h=>by cases h⟩
     rw[hrh,hrn]
     refine hh.add hbel hB (jaB _ _ _) trivial ⟨?_,fun k hk hc=>?_⟩ (by simp[O.blk,Value.ownBlock])
     ·rw[upd_same,happ.1,happ.2.1,happ.2.2.1,he1,List.map_append]
      refine⟨by rw[List.length_append,hl1,hl2,hsz',←Nat.add_mul],.inr ⟨w.heap.size,_,_,rfl,Nat.zero_le _,heap_alloc_new w.drew _,hge,hcm,?_,?_⟩⟩
      ·simp only[Array.size_append,List.size_toArray,size_zeroCells,hzs,hl1,hl2,hsz',←Nat.add_mul]
       congr 1
       omega
      ·simp only[Array.toList_append]
       have:((c1.flat.map D.val)++(c2.flat.map D.val)).length=(c1.n+c2.n)*(e+1):=by rw[List.length_append,hl1,hl2,hsz',←Nat.add_mul]
       rw[←this]
       exact List.take_left
     ·rw[upd_same]at hk
      simp only[Value.ownBlock,Option.some.injEq]at hk
      have:=hB k hc
      omega
theorem Cont.one_all {c:Cont} (h:c.one=true):∀x∈c.flat,x.val.oneCell'=true:=by
 intro x hx
 cases c with
 |ints k l=>simp[Cont.flat]at hx; obtain⟨y,_,rfl⟩:=hx; rfl
 |floats k l=>simp[Cont.flat]at hx; obtain⟨y,_,rfl⟩:=hx; rfl
 |strs l=>simp[Cont.flat]at hx; obtain⟨y,_,rfl⟩:=hx; rfl
 |bools l=>simp[Cont.flat]at hx; rcases hx with ⟨_,rfl⟩|⟨_,rfl⟩<;>rfl
 |recs e l=>simp[Cont.flat,jhT]at hx; obtain⟨y,_,i,_,rfl⟩:=hx; rfl
 |lits e l=>exact D.one_val (List.all_eq_true.1 h x hx)
 |frs k e l=>simp[Cont.flat,frD]at hx; obtain⟨y,_,i,_,rfl⟩:=hx; rfl
theorem jjE (hr:jaZ ρ nx rd a):∀(xs:List Operand) (l:List V),jgF rd xs=some l→xs.map a.eval=l.map (V.val ρ)∧∀v∈l,V.lt nx v
 |[],l,h=>by simp only[jgF,Option.some.injEq]at h; subst h; exact⟨rfl,fun _ h=>by cases h⟩
 |x::r,l,h=>by
  simp only[jgF]at h
  split at h
  ·rename_i v l' hx hl
   cases h
   have ih:=jjE hr r l' hl
   have h1:=hr x _ hx
   refine⟨by simp only[List.map_cons,ih.1,h1.2],fun y hy=>?_⟩
   rcases List.mem_cons.1 hy with rfl|hy
   ·exact h1.1
   ·exact ih.2 y hy
  ·cases h
theorem jnd {o:Oper} {c:Call} {f:Operand} {g:Nat} {hs:List Nat} {vs:List V} {M:Bool} {S:Spec} {r:RT} (hh:HRel ρ B hp nx w) (hB:Old B w) (hr:jaZ ρ nx rd a)
  (ho:o.op=.call c) (hcal:c.callee=.value f) (hrf:rd f=some (.w (.c (.fn g hs)))) (hvs:jgF rd c.args.toList=some vs) (hok:jah P g M S)
  (hS:S (vs++hs.map fun h=>.w (.c (.o h))) hp nx=some r) (hob:r.sel.ob):ja7 P ρ B nx a w o r.sel M:=by
 have hf:=hr _ _ hrf
 have hargs:=jjE hr _ _ hvs
 have hltA:∀x∈vs++hs.map (fun h=>V.w (.c (.o h))),V.lt nx x:=fun x hx=>by
  rcases List.mem_append.1 hx with h|h
  ·exact hargs.2 x h
  ·obtain⟨k,hk,rfl⟩:=List.mem_map.1 h
   exact hf.1 k hk
 have ha:c.args.map a.eval=(vs.map (V.val ρ)).toArray:=by
  rw[←hargs.1]
  apply Array.ext'
  simp
 have hcall:(execOp a.eval o).run P w=(callFunc g ((vs++hs.map fun h=>V.w (.c (.o h))).map (V.val ρ)).toArray).run P w:=by
  unfold execOp
  simp only[ho,resolve,hcal,hf.2,ha,Deferred.ofValue,V.val,W.val,C.val,Sem.run_bind,Sem.run_pure,Result.andThen_ok,invoke]
  congr 2
  simp[V.val,W.val,C.val,Function.comp_def]
 rcases hok with hok|hok
 ·intro K Q hK
  have hcalls:=hok.sound ρ B w _ hp nx r hS hob hltA hh hB
  unfold Oper.wp
  rw[hcall,hok.enter]
  refine hcalls.mono fun e w' ⟨ρ',he',hl⟩=>?_
  subst he'
  exact hK ρ' w' hl
 ·obtain⟨ob,v,hsel,hv,hrun⟩:=hok ρ B w _ hp nx r hS hob hltA hh hB
  rw[hsel]
  exact jaH (ρ':=ρ) (w':=w) (hcall.trans hrun) ⟨jan.refl _ _,hv,Nat.le_refl _,hh,Bel.refl _ _,(fun _=>Below.refl _ _),fun _ h o k hn hf _=>absurd (hh.ok h o hf).1 (by omega)⟩
theorem jlM {o:Oper} {c:Call} {f:Operand} {g:Nat} {hs:List Nat} {vs:List V} {M:Bool} {S:Spec} {r:RT} (hh:HRel ρ B hp nx w) (hB:Old B w) (hr:jaZ ρ nx rd a)
  (ho:o.op=.call c) (hcal:c.callee=.value f) (hrf:rd f=some (.w (.c (.fb g hs)))) (hvs:jgF rd c.args.toList=some vs) (hok:jah P g M S)
  (hS:S ((hs.map fun h=>.w (.c (.o h)))++vs) hp nx=some r) (hob:r.sel.ob):ja7 P ρ B nx a w o r.sel M:=by
 have hf:=hr _ _ hrf
 have hargs:=jjE hr _ _ hvs
 have hltA:∀x∈hs.map (fun h=>V.w (.c (.o h)))++vs,V.lt nx x:=fun x hx=>by
  rcases List.mem_append.1 hx with h|h
  ·obtain⟨k,hk,rfl⟩:=List.mem_map.1 h
   exact hf.1 k hk
  ·exact hargs.2 x h
 have ha:c.args.map a.eval=(vs.map (V.val ρ)).toArray:=by
  rw[←hargs.1]
  apply Array.ext'
  simp
 have hcall:(execOp a.eval o).run P w=(callFunc g ((hs.map (fun h=>V.w (.c (.o h)))++vs).map (V.val ρ)).toArray).run P w:=by
  unfold execOp
  simp only[ho,resolve,hcal,hf.2,ha,Deferred.ofValue,V.val,W.val,C.val,Sem.run_bind,Sem.run_pure,Result.andThen_ok,invoke]
  congr 2
  simp[V.val,W.val,C.val,Function.comp_def]
 rcases hok with hok|hok
 ·intro K Q hK
  have hcalls:=hok.sound ρ B w _ hp nx r hS hob hltA hh hB
  unfold Oper.wp
  rw[hcall,hok.enter]
  refine hcalls.mono fun e w' ⟨ρ',he',hl⟩=>?_
  subst he'
  exact hK ρ' w' hl
 ·obtain⟨ob,v,hsel,hv,hrun⟩:=hok ρ B w _ hp nx r hS hob hltA hh hB
  rw[hsel]
  exact jaH (ρ':=ρ) (w':=w) (hcall.trans hrun) ⟨jan.refl _ _,hv,Nat.le_refl _,hh,Bel.refl _ _,(fun _=>Below.refl _ _),fun _ h o k hn hf _=>absurd (hh.ok h o hf).1 (by omega)⟩
theorem jfE {o:Oper} {r:Res} (hsp:jac P sp) (hh:HRel ρ B hp nx w) (hB:Old B w) (hr:jaZ ρ nx rd a) (h:jcX P sp o.op rd hp nx=some r) (hob:r.ob) :
  ja7 P ρ B nx a w o r (jaS sp o.op rd):=by
 unfold jcX at h
 split at h
 ·rename_i ob v hv
  cases h
  have hrun:=jc2 hh hr hv hob
  refine jaH (ρ':=ρ) (w':=w) hrun.1 ⟨jan.refl _ _,hrun.2,Nat.le_refl _,hh,Bel.refl _ _,(fun _=>Below.refl _ _),fun _ h o k hn hf _=>absurd (hh.ok h o hf).1 (by omega)⟩
 ·rename_i hnone
  clear hnone
  split at h
  ·rename_i r0 hX
   cases h
   exact js4 hh hr hX hob
  rename_i hnone
  clear hnone
  split at h
  ·rename_i r0 hX
   cases h
   exact js5 hh hB hr hX hob
  rename_i hnone
  clear hnone
  unfold jm5 at h
  split at h
  ·-- box
   rename_i elem x hop
   split at h
   ·rename_i u hx
    split at h
    ·rename_i hone
     cases h
     simp only[hop,jaS]
     exact jvH hh hB hr hop hx hone
    ·cases h
   ·cases h
  ·rename_i elem hop
   split at h
   ·rename_i z hz
    cases h
    simp only[hop,jaS]
    exact js2 hh hB hop hz
   ·cases h
  ·rename_i t n parts hop
   split at h
   ·rename_i elem l hu hl
    split at h
    ·rename_i c hc
     cases h
     simp only[hop,jaS]
     exact jl6 hh hB hr hop hu hl hc
    ·cases h
   ·cases h
  ·-- makeSlice
   rename_i t l c hop
   split at h
   ·rename_i elem k n k' m hu hl hc
    split at h
    ·rename_i z e b hz hs hb
     split at h
     ·rename_i hzl
      split at h
      ·rename_i cc hcc
       cases h
       simp only[hop,jaS]
       cases hrl:rd l with
       |none=>simp[hrl]at hl
       |some u =>
        cases hrc:rd c with
        |none=>simp[hrc]at hc
        |some u' =>
         simp only[hrl,Option.bind_some]at hl
         simp only[hrc,Option.bind_some]at hc
         exact jm8 hh hB hr hop hu hrl hl hrc hc hz hs hb hzl hcc hob
      ·cases h
     ·cases h
    ·cases h
   ·cases h
  ·-- slice
   rename_i t x lo hi hop
   split at h
   ·rename_i n elem k j hu hx hlo hhi
    have hlo':lo=none:=by
     cases lo with
     |none=>rfl
     |some y=>simp only[jbc]at hlo; split at hlo<;>simp at hlo
    have hhi':hi=none:=by
     cases hi with
     |none=>rfl
     |some y=>simp only[jbc]at hhi; split at hhi<;>simp at hhi
    subst hlo'
    subst hhi'
    split at h
    ·rename_i ty cs e z hf hs hz
     split at h
     ·rename_i ds hds
      split at h
      ·rename_i hl
       split at h
       ·rename_i c hc
        cases h
        simp only[hop,jaS]
        exact jdZ (joy hh hB hr hop hu hx hf hs hds hl hc)
       ·cases h
      ·cases h
     ·cases h
    ·cases h
   ·rename_i elem k l m hu hx hlo hhi
    split at h
    ·rename_i ob e hf hs
     split at h
     ·rename_i c hc
      split at h
      ·rename_i hce
       cases h
       simp only[hop,jaS]
       exact jdZ (jf1 hh hB hr hop hu hx hlo hhi hf hs hc hce hob _ rfl rfl rfl)
      ·cases h
     ·cases h
    ·cases h
   ·cases h
  ·-- store
   rename_i t x y hop
   split at h
   ·rename_i k i e j u hx hy
    split at h
    ·rename_i hc
     obtain⟨hone,hs,hall⟩:=hc
     split at h
     ·rename_i ty cs hf
      split at h
      ·rename_i p cs' hst
       cases h
       simp only[hop,jaS]
       obtain⟨rfl,hle⟩:=jur (i:=i) hst hob
       exact jvI (jhx hh hr hop hx hy hone hs hall hf hle) rfl rfl rfl
      ·split at h
       ·rename_i hle
        cases h
        simp only[hop,jaS]
        exact jhx hh hr hop hx hy hone hs hall hf hle
       ·cases h
     ·rename_i ty c hf
      split at h
      ·rename_i ds hds
       split at h
       ·rename_i c' hc'
        split at h
        ·rename_i he
         cases h
         simp only[hop,jaS]
         exact jel hh hr hop hx hy hone hs hall hf hds (Cont.upd_cell hc' hob) he.1 he.2 hob
        ·cases h
       ·cases h
      ·cases h
     ·cases h
    ·cases h
   ·cases h
  ·-- call
   rename_i c hop
   split at h
   ·-- append
    rename_i s x t t' hcal hargs hts
    split at h
    ·rename_i htt
     subst htt
     split at h
     ·rename_i cv hfv
      unfold jrb at hfv
      split at hfv
      ·rename_i k hrs
       split at hfv
       ·rename_i q c1 hfk
        cases hfv
        unfold jg1 at h
        split at h
        ·rename_i elem hx cx hu hsx
         split at h
         ·rename_i z e b hz hsz hby
          split at h
          ·rename_i c2 h2
           split at h
           ·rename_i c3 h3
            split at h
            ·rename_i hcond
             cases h
             have e1:c.args=#[s,x]:=by apply Array.ext'; simpa using hargs
             have e2:c.argTypes=#[t,t]:=by apply Array.ext'; simpa using hts
             cases hrx:rd x with
             |none=>simp[hrx]at hsx
             |some ux =>
              simp only[hrx,Option.bind_some]at hsx
              have hm:jaS sp o.op rd=false:=by simp only[hop,jaS,hcal]
              rw[hm]
              exact jqg hh hB hr hop hcal e1 e2 hu hrs hfk hrx hsx hz hsz hby h2 h3 hcond.1 hcond.2 hob.1 hob.2 _ rfl rfl rfl
            ·cases h
           ·cases h
          ·cases h
         ·cases h
        ·cases h
       ·cases hfv
      ·cases hfv
     ·rename_i hfv
      split at h
      ·rename_i elem hs cs hx cx hu hss hsx
       split at h
       ·rename_i z e b hz hsz hby
        split at h
        ·rename_i c1 c2 hownB h1 h2
         split at h
         ·rename_i c3 h3
          split at h
          ·rename_i hcond
           cases h
           have e1:c.args=#[s,x]:=by apply Array.ext'; simpa using hargs
           have e2:c.argTypes=#[t,t]:=by apply Array.ext'; simpa using hts
           cases hrs:rd s with
           |none=>simp[hrs]at hss
           |some us =>
            cases hrx:rd x with
            |none=>simp[hrx]at hsx
            |some ux =>
             simp only[hrs,Option.bind_some]at hss
             simp only[hrx,Option.bind_some]at hsx
             have hm:jaS sp o.op rd=false:=by simp only[hop,jaS,hcal]
             rw[hm]
             refine jro hh hB hr hop hcal e1 e2 hu hrs hrx hss hsx hz hsz hby ?_ h1 h2 h3 hcond.1 hcond.2.1 hob (Cont.one_all hcond.2.2) _ rfl rfl rfl
             cases hs with
             |none=>trivial
             |some k =>
              simp only[Option.getD_some]at hownB ⊢
              cases hfk:find hp k with
              |none=>simp[hfk]at hownB
              |some ob =>
               cases ob with
               |row ty c'=>simp only[hfk]at hownB; exact beq_iff_eq.1 hownB
               |_=>simp[hfk]at hownB
          ·cases h
         ·cases h
        ·cases h
       ·cases h
      ·cases h
    ·cases h
   ·-- a call
    rename_i f args ats hcal
    split at h
    ·rename_i g hs vs hrf hvs
     split at h
     ·rename_i M S hsg
      have hm:jaS sp o.op rd=M:=by simp only[hop,jaS,hcal,hrf,hsg]
      rw[hm]
      obtain⟨t,ht,hl⟩:=Option.bind_eq_some_iff.1 h
      cases t with
      |leaf r0 =>
       cases hl
       exact jnd hh hB hr hop hcal hrf hvs (hsp g M S hsg) ht hob
      |br=>cases hl
     ·cases h
    ·rename_i g hs vs hrf hvs
     split at h
     ·rename_i M S hsg
      have hm:jaS sp o.op rd=M:=by simp only[hop,jaS,hcal,hrf,hsg]
      rw[hm]
      obtain⟨t,ht,hl⟩:=Option.bind_eq_some_iff.1 h
      cases t with
      |leaf r0 =>
       cases hl
       exact jlM hh hB hr hop hcal hrf hvs (hsp g M S hsg) ht hob
      |br=>cases hl
     ·cases h
    ·cases h
   ·cases h
  ·cases h
def drew (w:World):World:={ w with drawn:=w.drawn+1 }
theorem jne (n:Nat) (w:World):Below n w (drew w):=⟨rfl,rfl,rfl,Nat.le_refl _,fun _ _=>rfl⟩
theorem jtM {r:Res} (hh:HRel ρ B hp nx w) (hB:Old B w) {k:FloatKind} {n:Nat} (hn:(k.decode n).isNaN=true) (hrv:r.v=.w (.c (.o nx))) (hr:r.hp=(nx,.nan k)::hp) (hrn:r.nx=nx+1) (M:Bool) :
  Left ρ B nx w r M (upd ρ nx (.float k n)) (drew w):=by
 refine⟨jaB _ _ _,by rw[hrn,hrv]; exact Nat.lt_succ_self nx,by omega,?_,⟨rfl,rfl,rfl,Nat.le_refl _,fun _ _=>rfl⟩,fun _=>jne _ _,fun _ h o q hnh hf hk=>?_⟩
 ·rw[hr,hrn]
  exact hh.add (jne _ w) hB (jaB _ _ _) trivial ⟨n,upd_same _ _ _,hn⟩ (by simp[O.blk])
 ·rw[hr]at hf
  simp only[find]at hf
  split at hf
  ·cases hf; cases hk
  ·have:=(hh.ok h o hf).1
   omega
theorem jrp {k:FloatKind} {x y t:Nat}:(k.decode ((Question.nanBits k x y).cut t)).isNaN=true:=by
 cases k
 ·exact Fl.nan32 t
 ·exact Fl.nan64 t
theorem jrq {k:FloatKind} {x t:Nat}:(k.decode ((Question.nanConv k x).cut t)).isNaN=true:=by
 cases k
 ·exact Fl.nan32 t
 ·exact Fl.nan64 t
theorem js6 {o:Oper} {t:RT} (hsp:jac P sp) (hh:HRel ρ B hp nx w) (hB:Old B w) (hr:jaZ ρ nx rd a) (h:juq P sp o.op rd hp nx=some t) (hob:t.sel.ob) :
  ∃M,ja7 P ρ B nx a w o t.sel M:=by
 unfold juq at h
 split at h
 ·rename_i op ty x y yt hop
  split at h
  ·rename_i k m k' n hx hy
   split at h
   ·rename_i r hk hr2
    have hk:=jby hk
    subst hk
    cases h
    have h1:=(hr _ _ hx).2
    have h2:=(hr _ _ hy).2
    have hg:(eqGuard op ty x y (Value.float k m) (Value.float k n)).run P w=.ok () w:=by
     cases op<;>simp[eqGuard]
    have hb:binOp op ty (.float k m) (.float k n)=Op.floatArith op k m n:=by
     unfold jup at hr2
     cases op<;>simp at hr2<;>simp[binOp]
    have hfa:Op.floatArith op k m n=(match(generalizing:=false) r with|some q=>pure (.float k q)|none=>(choose (.nanBits k m n) >>= fun z=>pure (.float k z)):Sem Value):=by
     unfold jup at hr2
     cases op<;>simp at hr2<;>subst hr2<;>simp[Op.floatArith]<;>split<;>rename_i hq<;>simp[hq]
    cases r with
    |some q =>
     refine⟨true,?_⟩
     refine jaH (ρ':=ρ) (w':=w) ?_ ⟨jan.refl _ _,trivial,Nat.le_refl _,hh,Bel.refl _ _,(fun _=>Below.refl _ _),fun _ h o k hn hf _=>absurd (hh.ok h o hf).1 (by omega)⟩
     unfold execOp
     have e1:a.eval x=.float k m:=h1
     have e2:a.eval y=.float k n:=h2
     simp only[hop,e1,e2,Sem.run_bind,hg,Result.andThen_ok,hb,hfa,Sem.run_pure]
     rfl
    |none =>
     refine⟨true,?_⟩
     refine jaH (ρ':=upd ρ nx (.float k ((Question.nanBits k m n).cut (w.tape w.drawn (.nanBits k m n))))) (w':=drew w) ?_ (jtM hh hB jrp rfl rfl rfl true)
     unfold execOp
     have e1:a.eval x=.float k m:=h1
     have e2:a.eval y=.float k n:=h2
     simp only[hop,e1,e2,Sem.run_bind,hg,Result.andThen_ok,hb,hfa,choose,Sem.run,Question.forced]
     simp[RT.sel,V.val,W.val,C.val,drew]
   ·cases h
  ·cases h
 ·rename_i src dst x hop
  split at h
  ·rename_i n hs hd hx
   cases h
   have h1:=(hr _ _ hx).2
   have e1:a.eval x=.float .f32 n:=h1
   have hc:convert src dst (.float .f32 n)=(convert src dst (.float .f32 n)):=rfl
   have hrun:(convert src dst (.float .f32 n)).run P w=(Conv.floatToFloat .f32 n .f64).run P w:=by
    simp[convert,run_underlying hs,run_underlying hd]
   unfold jfO jcm
   cases hdec:FloatKind.decode .f32 n with
   |nan s f =>
    refine⟨true,?_⟩
    refine jaH (ρ':=upd ρ nx (.float .f64 ((Question.nanConv .f64 n).cut (w.tape w.drawn (.nanConv .f64 n))))) (w':=drew w) ?_ (jtM hh hB jrq rfl rfl rfl true)
    unfold execOp
    simp only[hop,e1,Sem.run_bind,hrun]
    simp[Conv.floatToFloat,hdec,choose,Sem.run,Question.forced,RT.sel,V.val,W.val,C.val,drew,Ieee.Datum.isNaN]
   |infinity s =>
    refine⟨true,?_⟩
    refine jaH (ρ':=ρ) (w':=w) ?_ ⟨jan.refl _ _,trivial,Nat.le_refl _,hh,Bel.refl _ _,(fun _=>Below.refl _ _),fun _ h o k hn hf _=>absurd (hh.ok h o hf).1 (by omega)⟩
    unfold execOp
    simp only[hop,e1,Sem.run_bind,hrun]
    simp[Conv.floatToFloat,hdec,RT.sel,V.val,W.val,C.val,D.val,vf,Ieee.Datum.isNaN]
   |number s m e =>
    refine⟨true,?_⟩
    refine jaH (ρ':=ρ) (w':=w) ?_ ⟨jan.refl _ _,trivial,Nat.le_refl _,hh,Bel.refl _ _,(fun _=>Below.refl _ _),fun _ h o k hn hf _=>absurd (hh.ok h o hf).1 (by omega)⟩
    unfold execOp
    have hinf:(FloatKind.decode .f64 (FloatKind.encode .f64 (.number s m e))).isInfinity=false:=Fl.up64 (b:=n) hdec
    simp only[hop,e1,Sem.run_bind,hrun]
    simp[Conv.floatToFloat,hdec,hinf,RT.sel,V.val,W.val,C.val,D.val,vf,Ieee.Datum.isNaN]
  ·cases h
 ·rename_i c hop
  split at h
  ·rename_i f hcal
   split at h
   ·rename_i g hs vs hrf hvs
    split at h
    ·rename_i M S hsg
     exact⟨M,jnd hh hB hr hop hcal hrf hvs (hsp g M S hsg) h hob⟩
    ·cases h
   ·rename_i g hs vs hrf hvs
    split at h
    ·rename_i M S hsg
     exact⟨M,jlM hh hB hr hop hcal hrf hvs (hsp g M S hsg) h hob⟩
    ·cases h
   ·cases h
  ·cases h
 ·cases h
end
end Go.Sx
end

section
open Go.RowKit
namespace Go.Sx
structure St where
 tm:List (Nat × V)
 hp:Hp
 nx:Nat
def jbg:List (Nat × V)→Nat→Option V
 |[],_=>none
 |(k,v)::r,t=>if k=t then some v else jbg r t
def jdE [Globs] (st:St):Operand→Option V
 | .tmp t=>jbg st.tm t
 | .const v=>some (.w (ofValue v))
 | .global g=>match Globs.tab g with
  |some c=>some (.w (.c (.g g 0 c.e 0)))
  |none=>some (.w (.c (.d (.v (.pointer (some ⟨g,0,none⟩))))))
 | .func f=>some (.w (.c (.fn f [])))
structure RelD [Globs] (ds:List Deferred) (ρ:Env) (B:Bd) (N n0:Nat) (st:St) (a:Act) (w:World):Prop where
 tm:∀t v,jbg st.tm t=some v→v.lt st.nx∧a.tmps.getD t undef=v.val ρ
 size:a.tmps.size=N
 defers:a.defers=ds
 heap:HRel ρ B st.hp st.nx w
 le:Old B w
 n0:n0≤st.nx
abbrev Rel [Globs]:=RelD []
theorem RelD.reads [Globs] {ds:List Deferred} {ρ:Env} {B:Bd} {N n0:Nat} {st:St} {a:Act} {w:World} (h:RelD ds ρ B N n0 st a w):jaZ ρ st.nx (jdE st) a:=by
 intro x u hx
 cases x with
 |tmp t=>exact h.tm t u hx
 |const v =>
  simp only[jdE,Option.some.injEq]at hx
  subst hx
  exact⟨jhV _ v,(jgX ρ v).symm⟩
 |global g =>
  simp only[jdE]at hx
  split at hx
  ·cases hx
   exact⟨trivial,by simp[V.val,W.val,C.val,Act.eval]⟩
  ·cases hx
   exact⟨trivial,rfl⟩
 |func f =>
  simp only[jdE,Option.some.injEq]at hx
  subst hx
  exact⟨(fun _ hh=>by cases hh),by simp[V.val,W.val,C.val,Act.eval]⟩
def Br (b:Bool) (x y:Prop):Prop:=Bool.rec (motive:=fun _=>Prop) y x b
structure Ob (p:Prop):Prop where
 h:p
theorem Br.intro {b:Bool} {x y:Prop} (h:b=true→x) (k:b=false→y):Br b x y:=by
 cases b
 ·exact k rfl
 ·exact h rfl
def St.put (st:St) (d:Option Nat) (r:Res):St :=
 match d with
 |some t=>⟨(t,r.v)::st.tm,r.hp,r.nx⟩
 |none=>⟨st.tm,r.hp,r.nx⟩
def jdv (N:Nat):Option Nat→Bool
 |some t=>Nat.blt t N
 |none=>true
def jcu (op:Op) (rd:Operand→Option V) (hp:Hp):Bool :=
 match op with
 | .move _ | .assign _ | .pick _ _ _ | .unOp _ _ _ | .extract _ _ | .field _ _ _ | .nilCheck _ | .fieldAddr _ _ _ | .build _ _ | .makeFunc _ _ _ | .box _ _ | .alloc _ | .buildSlice _ _ _=>true
 | .binOp op _ x _ _=>match op with
  | .quo | .rem | .shl | .shr=>false
  | .add=>match(rd x).bind V.str?,(rd x).bind V.flt? with
   |none,none=>true
   |_,_=>false
  | .mul=>match(rd x).bind V.flt? with
   |none=>true
   |some _=>false
  |_=>true
 | .load _ x=>match rd x with
  |some (.w (.c (.p h _ (_+1) _)))=>match find hp h with
   |some (.box _ _)=>true
   |_=>false
  |_=>false
 | .store _ x _=>match rd x with
  |some (.w (.c (.p h _ (_+1) _)))=>match find hp h with
   |some (.box _ _)=>true
   |_=>false
  |_=>false
 | .call c=>match c.callee with
  | .builtin .len=>true
  | .builtin .min=>true
  | .builtin .max=>true
  |_=>false
 |_=>false
def RT.run:RT→(Res→Prop)→Prop
 | .leaf r,k=>k r
 | .br b x y,k=>Br b (x.run k) (y.run k)
theorem RT.run_sel:∀{t:RT} {k:Res→Prop},t.run k→k t.sel
 | .leaf _,_,h=>h
 | .br b x y,k,h=>by
  cases b
  ·exact RT.run_sel (t:=y) h
  ·exact RT.run_sel (t:=x) h
def jrr [Globs] (P:Program) (sp:jab) (N:Nat) (o:Oper) (st:St) (k:St→Prop):Prop :=
 match juq P sp o.op (jdE st) st.hp st.nx with
 |some t=>match jdv N o.dst with
  |true=>t.run fun r=>Ob r.ob∧k (st.put o.dst r)
  |false=>False
 |none =>
 match jcX P sp o.op (jdE st) st.hp st.nx with
 |some r=>match jdv N o.dst with
  |true=>match jcu o.op (jdE st) st.hp with
   |true=>k (st.put o.dst r)
   |false=>Ob r.ob∧k (st.put o.dst r)
  |false=>False
 |none=>False
def jjF (N:Nat) (o:Oper) (st:St) (k:St→Prop):Prop :=
 match jdv N o.dst with
 |true=>k (st.put o.dst ⟨True,vu,st.hp,st.nx⟩)
 |false=>False
def joz (all:List Oper) (j:Nat) (st:St):Option (Nat × V) :=
 match(all[j]?).bind (·.dst)with
 |some t=>(jbg st.tm t).map fun v=>(t,v)
 |none=>none
def jg3 [Globs] (P:Program) (sp:jab) (N:Nat) (all:List Oper):List Oper→St→(St→Prop)→Prop
 |[],st,k=>k st
 |o::r,st,k =>
  match o.guard with
  |none=>jrr P sp N o st fun st'=>jg3 P sp N all r st' k
  |some (j,want) =>
   match joz all j st with
   |some (t,.w (.c (.d (.b b)))) =>
    Br b
     (match want with
      |true=>jrr P sp N o ⟨(t,vb true)::st.tm,st.hp,st.nx⟩ fun st'=>jg3 P sp N all r st' k
      |false=>jjF N o ⟨(t,vb true)::st.tm,st.hp,st.nx⟩ fun st'=>jg3 P sp N all r st' k)
     (match want with
      |true=>jjF N o ⟨(t,vb false)::st.tm,st.hp,st.nx⟩ fun st'=>jg3 P sp N all r st' k
      |false=>jrr P sp N o ⟨(t,vb false)::st.tm,st.hp,st.nx⟩ fun st'=>jg3 P sp N all r st' k)
   |some (_,.w (.c (.d (.v (.tuple _)))))=>jjF N o st fun st'=>jg3 P sp N all r st' k
   |_=>False
inductive Ex where
 |normal
 |exit (n:Nat)
 |ret
def Ex.toExit:Ex→Exit
 | .normal=>.normal
 | .exit n=>.exit n
 | .ret=>.ret
abbrev Rn:=List (Nat × Option Nat)
def jbu:Rn→Nat→Option (Option Nat)
 |[],_=>none
 |(k,v)::r,h=>if k=h then some v else jbu r h
def jqM (m:Rn) (h:Nat):Bool:=m.any fun x=>x.2==some h
def jk1 (h' h:Nat) (m:Rn) (k:Rn→Prop):Prop :=
 match jbu m h' with
 |some (some s)=>if s=h then k m else False
 |some none=>False
 |none=>match jqM m h with
  |true=>False
  |false=>k ((h',some h)::m)
def jqN:List Nat→List Nat→Rn→(Rn→Prop)→Prop
 |[],[],m,k=>k m
 |h' :: r',h::r,m,k=>jk1 h' h m fun m=>jqN r' r m k
 |_,_,_,_=>False
def mD:D→D→Prop
 | .i k n,.i k' n'=>if k=k' then Ob (n'=n)else False
 | .b x,.b y=>Ob (y=x)
 | .f k n,.f k' n'=>if k=k' then Ob (n'=n)else False
 | .s x,.s y=>Ob (y=x)
 | .v x,.v y=>Ob (y=x)
 | .z k' x,.z k y=>match jcd k' k with
  |true=>Ob (y=x)
  |false=>False
 |_,_=>False
def mC (x' x:C) (m:Rn) (k:Rn→Prop):Prop :=
 match x',x with
 | .d d',.d d=>mD d' d∧k m
 | .p h' i' e' j',.p h i e j=>if e'=e∧j'=j then Ob (i=i')∧jk1 h' h m k else False
 | .o h',.o h=>jk1 h' h m k
 | .o h',.d (.v (.slice none 0 0))=>match jbu m h' with
  |some none=>k m
  |some (some _)=>False
  |none=>k ((h',none)::m)
 | .fn f' hs',.fn f hs=>if f'=f then jqN hs' hs m k else False
 | .fb f' hs',.fb f hs=>if f'=f then jqN hs' hs m k else False
 | .g n' i' e' j',.g n i e j=>if n'=n∧e'=e∧j'=j then Ob (i=i')∧k m else False
 |_,_=>False
def mCs:List C→List C→Rn→(Rn→Prop)→Prop
 |[],[],m,k=>k m
 |x' :: r',x::r,m,k=>mC x' x m fun m=>mCs r' r m k
 |_,_,_,_=>False
def mW (x' x:W) (m:Rn) (k:Rn→Prop):Prop :=
 match x',x with
 | .c y',.c y=>mC y' y m k
 | .a l',.a l=>mCs l' l m k
 | .b k' e' r',.b k0 e r=>if k'=k0∧e'=e then Ob (r=r')∧k m else False
 |_,_=>False
def mWs:List W→List W→Rn→(Rn→Prop)→Prop
 |[],[],m,k=>k m
 |x' :: r',x::r,m,k=>mW x' x m fun m=>mWs r' r m k
 |_,_,_,_=>False
def mV (x' x:V) (m:Rn) (k:Rn→Prop):Prop :=
 match x',x with
 | .w y',.w y=>mW y' y m k
 | .t l',.t l=>mWs l' l m k
 |_,_=>False
def mT:List (Nat × V)→List (Nat × V)→Rn→(Rn→Prop)→Prop
 |[],_,m,k=>k m
 |(t,v')::r,tm,m,k=>match jbg tm t with
  |some v=>mV v' v m fun m=>mT r tm m k
  |none=>False
def jd1:Cont→Cont→Prop
 | .ints k l,.ints k' l'=>if k=k' then Ob (l'=l)else False
 | .recs e l,.recs e' l'=>if e=e' then Ob (l'=l)else False
 | .floats k l,.floats k' l'=>if k=k' then Ob (l'=l)else False
 | .strs l,.strs l'=>Ob (l'=l)
 | .bools l,.bools l'=>Ob (l'=l)
 | .lits e l,.lits e' l'=>if e=e' then Ob (l'=l)else False
 | .frs k e l,.frs k' e' l'=>if k=k'∧e=e' then Ob (l'=l)else False
 |_,_=>False
def mX:XC→XC→Prop
 | .st sh l,.st sh' l'=>if sh=sh' then Ob (l'=l)else False
 | .ii k l,.ii k' l'=>if k=k' then Ob (l'=l)else False
 | .ff k l,.ff k' l'=>if k=k' then Ob (l'=l)else False
 | .bb k e l,.bb k' e' l'=>if k=k'∧e=e' then Ob (l'=l)else False
 | .rr e l,.rr e' l'=>if e=e' then Ob (l'=l)else False
 |_,_=>False
def mO (o' o:O) (m:Rn) (k:Rn→Prop):Prop :=
 match o',o with
 | .box ty cs',.box ty' cs=>if ty=ty' then mCs cs' cs m k else False
 | .row ty c',.row ty' c=>if ty=ty' then jd1 c' c∧k m else False
 | .ext c',.ext c=>jd1 c' c∧k m
 | .nan q',.nan q=>match jcd q' q with
  |true=>k m
  |false=>False
 | .ebox cs',.ebox cs=>mCs cs' cs m k
 | .arr ty q e r,.arr ty' q' e' r'=>if ty=ty'∧q=q'∧e=e' then Ob (r'=r)∧k m else False
 | .xext X',.xext X=>mX X' X∧k m
 | .map es',.map es=>Ob (es=es')∧k m
 | .rrow c',.rrow c=>jd1 c' c∧k m
 | .view _ c' false,o=>match o.cont with
  |some c=>jd1 c' c∧k m
  |none=>False
 |_,_=>False
def mH:Hp→Hp→Rn→(Rn→Prop)→Prop
 |[],_,m,k=>k m
 |(h',o')::r,hp,m,k =>
  match jbu m h' with
  |some (some h)=>match find hp h with
   |some o=>mO o' o m fun m=>mH r hp m k
   |none=>False
  |some none=>match o' with
   | .row _ c=>Ob (c.n=0)∧mH r hp m k
   |_=>False
  |none=>match find hp h' with
   |some o=>jk1 h' h' m fun m=>mO o' o m fun m=>mH r hp m k
   |none=>False
def D.ltb (_:Nat):D→Bool
 |_=>true
def C.ltb (n:Nat):C→Bool
 | .d _=>true
 | .p h _ _ _=>Nat.blt h n
 | .o h=>Nat.blt h n
 | .fn _ hs=>hs.all fun h=>Nat.blt h n
 | .fb _ hs=>hs.all fun h=>Nat.blt h n
 | .g _ _ _ _=>true
def W.ltb (n:Nat):W→Bool
 | .c x=>x.ltb n
 | .a l=>l.all (C.ltb n)
 | .b _ _ _=>true
def V.ltb (n:Nat):V→Bool
 | .w x=>x.ltb n
 | .t l=>l.all (W.ltb n)
def O.ltb (n:Nat):O→Bool
 | .box _ cs=>cs.all (C.ltb n)
 | .view r _ _=>Nat.blt r n
 | .ebox cs=>cs.all (C.ltb n)
 |_=>true
def St.wfb (st:St):Bool:=(st.tm.all fun x=>x.2.ltb st.nx)&&(st.hp.all fun x=>Nat.blt x.1 st.nx&&x.2.ltb st.nx)
def jvK (n0:Nat) (m:Rn):Bool:=m.all fun x=>!(Nat.blt x.1 n0)||x.2==some x.1
def Le (n0:Nat) (st st':St):Prop :=
 match st'.wfb&&Nat.ble n0 st'.nx with
 |true=>mT st'.tm st.tm [] fun m=>mH st'.hp st.hp m fun m=>match jvK n0 m with|true=>True|false=>False
 |false=>False
structure LI where
 X:Type
 st:X→St
 inv:X→Prop
 mu:X→Nat
abbrev jgI:=List Nat→Nat→St→Option LI
def jrs (body:St→(Ex→St→Prop)→Prop):Nat→St→(Ex→St→Prop)→Prop
 |0,_,_=>False
 |n+1,st,k=>body st fun e st'=>match e with
  | .normal=>jrs body n st' k
  |e=>k e st'
def sx [Globs] (P:Program) (sp:jab) (N n0 fuel:Nat) (loops:jgI) (drawn:Array Oper→St→(St→Prop)→Prop):Code→Nat→List Nat→St→(Ex→St→Prop)→Prop
 | .skip,_,_,st,k=>k .normal st
 | .label _,_,_,st,k=>k .normal st
 | .region _ ops draw,_,_,st,k =>
  match draw with
  |false=>jg3 P sp N ops.toList ops.toList st fun st'=>k .normal st'
  |true=>drawn ops st fun st'=>k .normal st'
 | .seq x y,cur,gs,st,k=>sx P sp N n0 fuel loops drawn x cur gs st fun e st'=>match e with
  | .normal=>sx P sp N n0 fuel loops drawn y cur gs st' k
  |e=>k e st'
 | .cond c x y,cur,gs,st,k =>
  match(jdE st c).bind V.bool? with
  |some b=>Br b (sx P sp N n0 fuel loops drawn x cur gs st k) (sx P sp N n0 fuel loops drawn y cur gs st k)
  |none=>False
 | .block id c,_,gs,st,k=>sx P sp N n0 fuel loops drawn c id gs st fun e st'=>match e with
  | .exit j=>if j=id then k .normal st' else k (.exit j) st'
  |e=>k e st'
 | .loop c,cur,gs,st,k =>
  match loops gs cur st with
  |some L=>(∃x,Ob (L.inv x)∧Le n0 st (L.st x))∧∀x,L.inv x→sx P sp N n0 fuel loops drawn c cur (L.mu x::gs) (L.st x) fun e st'=>match e with
   | .normal=>∃x',Ob (L.inv x')∧Ob (L.mu x'<L.mu x)∧Le n0 st' (L.st x')
   |e=>k e st'
  |none=>jrs (fun st k=>sx P sp N n0 fuel loops drawn c cur gs st k) fuel st k
 | .exit id,_,_,st,k=>k (.exit id) st
 | .ret,_,_,st,k=>k .ret st
 |_,_,_,_,_=>False
end Go.Sx
end

section
open Go.RowKit
namespace Go.Sx
section
variable [Globs] {P:Program} {ρ:Env} {B:Bd} {N n0:Nat} {st:St} {w:World} {a:Act} {sp:jab} {ds:List Deferred}
theorem jrt {d:Option Nat} (h:jdv N d=true):∀t,d=some t→t<N:=by
 intro t ht
 subst ht
 simpa [jdv,Nat.blt_eq]using h
theorem jcU {a:Act} {d:Option Nat} {v:Value} {t:Nat} (hd:∀x,d=some x→x<a.tmps.size) :
  (a.put d v).tmps.getD t undef=if d=some t then v else a.tmps.getD t undef:=by
 cases d with
 |none=>simp[Act.put]
 |some x =>
  have:=hd x rfl
  simp only[Act.put,Option.some.injEq]
  by_cases h:x=t
  ·subst h; simp[this]
  ·simp[h,Array.getElem?_setIfInBounds_ne h]
theorem jcG {a:Act} {d:Option Nat} {v:Value}:(a.put d v).tmps.size=a.tmps.size:=by
 cases d<;>simp[Act.put]
theorem jch {a:Act} {d:Option Nat} {v:Value}:(a.put d v).defers=a.defers:=by
 cases d<;>simp[Act.put]
theorem RelD.put {o:Oper} {r:Res} {M:Bool} {ρ':Env} {w':World} (h:RelD ds ρ B N n0 st a w) (hd:jdv N o.dst=true) (hl:Left ρ B st.nx w r M ρ' w') :
  RelD ds ρ' B N n0 (st.put o.dst r) (a.put o.dst (r.v.val ρ')) w':=by
 have hdl:∀x,o.dst=some x→x<a.tmps.size:=fun x hx=>by rw[h.size]; exact jrt hd x hx
 have hnx:(st.put o.dst r).nx=r.nx:=by cases o.dst<;>rfl
 have hhp:(st.put o.dst r).hp=r.hp:=by cases o.dst<;>rfl
 refine⟨fun t v hv=>?_,by rw[jcG]; exact h.size,by rw[jch]; exact h.defers,by rw[hhp,hnx]; exact hl.heap,hl.below.old h.le,by rw[hnx]; exact Nat.le_trans h.n0 hl.le⟩
 rw[jcU hdl,hnx]
 have hold:∀v,jbg st.tm t=some v→v.lt r.nx∧a.tmps.getD t undef=v.val ρ':=fun v hv=>by
  have:=h.tm t v hv
  exact⟨V.lt_mono hl.le this.1,by rw[this.2,V.val_agree hl.agree this.1]⟩
 cases hdst:o.dst with
 |none =>
  simp only[hdst,St.put]at hv
  simpa using hold v hv
 |some x =>
  simp only[hdst,St.put,jbg]at hv
  split at hv
  ·rename_i e
   subst e
   cases hv
   simp[hl.lt]
  ·rename_i e
   simp only[Option.some.injEq,e,if_false]
   exact hold v hv
theorem RelD.skip {o:Oper} (h:RelD ds ρ B N n0 st a w) (hd:jdv N o.dst=true):RelD ds ρ B N n0 (st.put o.dst ⟨True,vu,st.hp,st.nx⟩) (a.put o.dst undef) w :=
 h.put (M:=true) (o:=o) (r:=⟨True,vu,st.hp,st.nx⟩) hd ⟨jan.refl _ _,trivial,Nat.le_refl _,h.heap,Bel.refl _ _,(fun _=>Below.refl _ _),fun _ k o b hn hf _=>absurd (h.heap.ok k o hf).1 (by omega)⟩
theorem RelD.know {t:Nat} {b:Bool} (h:RelD ds ρ B N n0 st a w) (hb:jbg st.tm t=some (vb b)):RelD ds ρ B N n0 ⟨(t,vb b)::st.tm,st.hp,st.nx⟩ a w:=by
 refine⟨fun t' v hv=>?_,h.size,h.defers,h.heap,h.le,h.n0⟩
 simp only[jbg]at hv
 split at hv
 ·rename_i e
  subst e
  cases hv
  exact h.tm t _ hb
 ·exact h.tm t' v hv
def Qx (ds:List Deferred) (ρ0:Env) (B:Bd) (N n0:Nat) (w0:World) (k:Ex→St→Prop):Exit→Act→World→Prop:=fun e a w =>
 ∃x ρ st,e=x.toExit∧k x st∧RelD ds ρ B N n0 st a w∧jan n0 ρ0 ρ∧Bel B w0 w
variable {ρ0:Env} {w0:World}
theorem js7 {op:BinOp} {k k':IntKind} {m n:Int} {ob:Prop} {v:V} (ht:(match op with | .quo | .rem | .shl | .shr=>false|_=>true)=true) (h:jjq op k m k' n=some (ob,v)):ob:=by
 unfold jjq at h
 cases op<;>simp at ht h<;>obtain⟨_,h,_⟩:=h<;>first|exact h|exact h ▸ trivial
theorem jbz {α:Type} {x:Option α} {f:α→Prop × V} {ob:Prop} {v:V} (h:x.map f=some (ob,v)) (hf:∀a,(f a).1=True):ob:=by
 cases x with
 |none=>cases h
 |some a =>
  simp only[Option.map_some,Option.some.injEq]at h
  have:=hf a
  rw[h]at this
  exact cast this.symm trivial
theorem jw1 {op:Op} {rd:Operand→Option V} {hp:Hp} {ob:Prop} {v:V} (ht:jcu op rd hp=true) (h:jhW P op rd hp=some (ob,v)):ob:=by
 unfold jhW at h
 unfold jcu at ht
 cases op with
 |binOp op t x y yt =>
  dsimp only at h ht
  split at h
  ·rename_i u u' hx hy
   split at h
   ·rename_i a b hu hu'
    split at h
    ·simp[hx,hu]at ht
    ·cases h
   ·split at h
    ·unfold jqZ at h
     cases op<;>simp at h<;>exact h.1
    ·split at h
     ·unfold jmY at h
      cases op<;>simp at h<;>exact h.1
     ·cases h
  ·cases h
 |load t x =>
  dsimp only at h ht
  split at h
  ·rename_i hx
   simp[hx]at ht
  ·cases h
 |call c =>
  dsimp only at h ht
  split at h
  ·split at h
   ·split at h
    ·cases h; trivial
    ·cases h
   ·cases h
  ·rename_i hc _
   split at h
   ·split at h
    ·cases h; trivial
    ·cases h
   ·cases h
  ·split at h
   ·cases h; trivial
   ·cases h
  ·split at h
   ·cases h; trivial
   ·cases h
  ·cases h
 |nilCheck x =>
  dsimp only at h
  split at h
  ·cases h; trivial
  ·cases h
 |fieldAddr s x f =>
  dsimp only at h
  split at h
  ·split at h
   ·split at h
    ·cases h; trivial
    ·cases h
   ·cases h
  ·cases h
 |slice t x lo hi mx=>simp at ht
 |convert s d x=>simp at ht
 |index t x i=>simp at ht
 |indexAddr t x i=>simp at ht
 |sliceToArrayPointer t x=>simp at ht
 |_=>simp at h
theorem jw2 {op:Op} {rd:Operand→Option V} {hp:Hp} {nx:Nat} {r:Res} (ht:jcu op rd hp=true) (h:jgG P op rd hp nx=some r):r.ob:=by
 unfold jgG at h
 unfold jcu at ht
 cases op with
 |box elem x =>
  dsimp only at h
  split at h
  ·cases h; trivial
  ·cases h
 |alloc elem =>
  dsimp only at h
  split at h
  ·cases h; trivial
  ·cases h
 |buildSlice t n ps =>
  dsimp only at h
  split at h
  ·split at h
   ·split at h
    ·cases h; trivial
    ·cases h
   ·cases h
  ·cases h
 |slice t x lo hi mx=>simp at ht
 |convert s d x=>simp at ht
 |load t x =>
  dsimp only at h ht
  split at h
  ·rename_i hx
   split at h
   ·rename_i hf
    simp only[hx]at ht
    split at ht
    ·rename_i heq
     cases heq
     simp[hf]at ht
    ·cases ht
   ·cases h
  ·cases h
 |store t x y =>
  dsimp only at h ht
  split at h
  ·rename_i hx hy
   split at h
   ·rename_i hf
    simp only[hx]at ht
    split at ht
    ·rename_i heq
     cases heq
     simp[hf]at ht
    ·cases ht
   ·rename_i hf
    simp only[hx]at ht
    split at ht
    ·rename_i heq
     cases heq
     simp[hf]at ht
    ·cases ht
   ·cases h
  ·rename_i hx hy
   split at h
   ·rename_i hf
    simp only[hx]at ht
    split at ht
    ·rename_i heq
     cases heq
     simp[hf]at ht
    ·cases ht
   ·rename_i hf
    simp only[hx]at ht
    split at ht
    ·rename_i heq
     cases heq
     simp[hf]at ht
    ·cases ht
   ·cases h
  ·rename_i hx hy
   split at h
   ·rename_i hf
    simp only[hx]at ht
    split at ht
    ·rename_i heq
     cases heq
     simp[hf]at ht
    ·cases ht
   ·cases h
  ·cases h
 |makeMap t r =>
  cases r with
  |none =>
   dsimp only at h
   split at h
   ·cases h; trivial
   ·cases h
  |some r=>simp at h
 |lookup t x i ok =>
  cases ok with
  |true =>
   dsimp only at h
   split at h
   ·split at h
    ·cases h; trivial
    ·cases h
   ·cases h
  |false=>simp at h
 |mapUpdate t m i y =>
  dsimp only at h
  split at h
  ·split at h
   ·cases h; trivial
   ·cases h
  ·cases h
 |_=>simp at h
theorem jk2 {op:Op} {rd:Operand→Option V} {hp:Hp} {nx:Nat} {r:Res} (ht:jcu op rd hp=true) (h:jcX P sp op rd hp nx=some r):r.ob:=by
 unfold jcX at h
 cases hv:jbY P op rd hp with
 |some p =>
  obtain⟨ob,v⟩:=p
  simp only[hv,Option.some.injEq]at h
  subst h
  show ob
  unfold jbY at hv
  split at hv
  rotate_left
  ·exact jw1 ht hv
  rename_i p hv0
  cases hv
  have hv:=hv0
  clear hv0
  unfold jhs at hv
  unfold jcu at ht
  cases op with
  |binOp op t x y yt =>
   dsimp only at hv ht
   split at hv
   ·split at hv
    ·refine js7 ?_ hv
     cases op<;>first|rfl|exact ht
    ·split at hv
     ·split at hv
      ·unfold jkX at hv
       cases op<;>simp at hv<;>exact hv.1
      ·cases hv
     ·split at hv
      ·unfold jmV at hv
       cases op<;>simp at hv<;>exact hv.1
      ·split at hv
       ·rename_i hu _
        unfold jmU at hv
        split at hv
        ·cases op<;>simp at hv<;>first|exact hv.1|(simp_all)
        ·cases hv
       ·split at hv
        ·split at hv
         ·exact jbz hv (fun _=>rfl)
         ·exact jbz hv (fun _=>rfl)
         ·cases hv
        ·cases hv
   ·cases hv
  |load t x =>
   dsimp only at hv ht
   split at hv
   ·rename_i k i e j hx
    cases e with
    |zero=>simp[hx]at ht
    |succ e =>
    simp only[hx]at ht
    split at hv
    ·rename_i o hf
     simp only[hf]at ht
     cases o with
     |box ty cs =>
      unfold jgD at hv
      split at hv
      ·dsimp only[jkY]at hv
       split at hv
       ·split at hv
        ·cases hv; trivial
        ·cases hv
       ·cases hc:cs[i*(e+1)+j]? with
        |none=>simp[hc]at hv
        |some c=>simp[hc]at hv; exact hv.1
      ·cases hv
     |_=>simp at ht
    ·cases hv
   ·cases hv
  |call c =>
   dsimp only at hv ht
   split at hv
   ·split at hv
    ·exact jbz hv (fun _=>rfl)
    ·split at hv
     ·cases hv; trivial
     ·cases hv
    ·exact jbz hv (fun _=>rfl)
    ·cases hv; trivial
    ·cases hv
   ·split at hv
    ·exact jbz hv (fun _=>rfl)
    ·cases hv
   ·split at hv
    ·exact jbz hv (fun _=>rfl)
    ·cases hv
   ·cases hv
  |pick c x y =>
   dsimp only at hv
   split at hv
   ·exact jbz hv (fun _=>rfl)
   ·exact jbz hv (fun _=>rfl)
   ·cases hv
  |unOp op t x =>
   dsimp only at hv
   split at hv
   ·exact jbz hv (fun _=>rfl)
   ·exact jbz hv (fun _=>rfl)
   ·cases hv
  |move x=>exact jbz hv (fun _=>rfl)
  |assign x=>exact jbz hv (fun _=>rfl)
  |extract t i =>
   dsimp only at hv
   split at hv
   ·exact jbz hv (fun _=>rfl)
   ·cases hv
  |field t x f =>
   dsimp only at hv
   split at hv
   ·split at hv
    ·exact jbz hv (fun _=>rfl)
    ·cases hv
   ·cases hv
  |nilCheck x =>
   dsimp only at hv
   split at hv
   ·cases hv; trivial
   ·cases hv
  |fieldAddr s x f =>
   dsimp only at hv
   split at hv
   ·split at hv
    ·split at hv
     ·cases hv; trivial
     ·cases hv
    ·cases hv
   ·cases hv
  |build t parts =>
   dsimp only at hv
   split at hv
   ·exact jbz hv (fun _=>rfl)
   ·cases hv
  |makeFunc f first cap =>
   cases f with
   |func f =>
    dsimp only at hv
    split at hv
    ·cases hv; trivial
    ·split at hv
     ·cases hv; trivial
     ·cases hv
    ·cases hv
   |_=>simp at hv
  |_=>simp at hv ht
 |none =>
  simp only[hv]at h
  split at h
  ·rename_i r0 hR
   unfold jdu at hR
   split at hR
   ·simp[jcu]at ht
   ·simp[jcu]at ht
   ·cases hR
  split at h
  ·rename_i r0 hX
   cases h
   exact jw2 ht hX
  unfold jm5 at h
  unfold jcu at ht
  cases op with
  |box elem x =>
   dsimp only at h
   split at h
   ·split at h
    ·cases h; trivial
    ·cases h
   ·cases h
  |alloc elem =>
   dsimp only at h
   split at h
   ·cases h; trivial
   ·cases h
  |buildSlice t n ps =>
   dsimp only at h
   split at h
   ·split at h
    ·cases h; trivial
    ·cases h
   ·cases h
  |store t x y =>
   dsimp only at h ht
   split at h
   ·rename_i k i e j u hx hy
    cases e with
    |zero=>simp[hx]at ht
    |succ e =>
    simp only[hx]at ht
    split at h
    ·split at h
     ·simp only[jqK]at h
      split at h
      ·cases h; trivial
      ·cases h
     ·rename_i hf
      simp[hf]at ht
     ·cases h
    ·cases h
   ·cases h
  |call c =>
   dsimp only at h ht
   split at h
   ·rename_i hc _ _
    simp[hc]at ht
   ·rename_i hc
    simp[hc]at ht
   ·cases h
  |_=>simp at h ht
theorem jh4 {o:Oper} {k:St→Prop} {K:Act→World→Prop} {Q:Exit→Act→World→Prop} (hsp:jac P sp) (hr:RelD ds ρ B N n0 st a w) (hag:jan n0 ρ0 ρ) (hbl:Bel B w0 w) (h:jrr P sp N o st k)
  (hK:∀ρ' st' a' w',RelD ds ρ' B N n0 st' a' w'→jan n0 ρ0 ρ'→Bel B w0 w'→k st'→K a' w'):o.wp P a w K Q:=by
 unfold jrr at h
 split at h
 ·rename_i t ht2
  split at h
  ·rename_i hd
   have h:=RT.run_sel h
   obtain⟨M,hS⟩:=js6 hsp hr.heap hr.le hr.reads ht2 h.1.h
   refine hS K Q fun ρ' w' hl=>?_
   exact hK ρ' _ _ w' (hr.put hd hl) (hag.trans hl.agree hr.n0) (hbl.trans hl.below) h.2
  ·exact h.elim
 split at h
 ·rename_i r hr2
  split at h
  ·rename_i hd
   split at h
   ·rename_i ht
    refine jfE hsp hr.heap hr.le hr.reads hr2 (jk2 ht hr2) K Q fun ρ' w' hl=>?_
    exact hK ρ' _ _ w' (hr.put hd hl) (hag.trans hl.agree hr.n0) (hbl.trans hl.below) h
   ·refine jfE hsp hr.heap hr.le hr.reads hr2 h.1.h K Q fun ρ' w' hl=>?_
    exact hK ρ' _ _ w' (hr.put hd hl) (hag.trans hl.agree hr.n0) (hbl.trans hl.below) h.2
  ·exact h.elim
 ·exact h.elim
theorem jf4 {o:Oper} {k:St→Prop} {K:Act→World→Prop} (hr:RelD ds ρ B N n0 st a w) (hag:jan n0 ρ0 ρ) (hbl:Bel B w0 w) (h:jjF N o st k)
  (hK:∀ρ' st' a' w',RelD ds ρ' B N n0 st' a' w'→jan n0 ρ0 ρ'→Bel B w0 w'→k st'→K a' w'):K (a.put o.dst undef) w:=by
 unfold jjF at h
 split at h
 ·rename_i hd
  exact hK ρ _ _ w (hr.skip hd) hag hbl h
 ·exact h.elim
theorem ji1 {all:List Oper} {j t:Nat} {v:V} (hr:RelD ds ρ B N n0 st a w) (h:joz all j st=some (t,v)) (ht:t<N∨v=v) :
  yielded all.toArray a.tmps j=(match v.val ρ with | .bool b=>some b|_=>none)∧jbg st.tm t=some v:=by
 unfold joz at h
 cases hd:(all[j]?).bind (·.dst)with
 |none=>simp[hd]at h
 |some t' =>
  cases hg:jbg st.tm t' with
  |none=>simp[hd,hg]at h
  |some v' =>
   simp[hd,hg]at h
   obtain⟨rfl,rfl⟩:=h
   refine⟨?_,hg⟩
   have h1:=(hr.tm t' v' hg).2
   unfold yielded
   have hd2:((all.toArray[j]?).bind (·.dst))=some t':=by simpa using hd
   rw[hd2]
   simp only[Option.bind_some]
   rw[←h1]
   by_cases hlt:t'<a.tmps.size
   ·simp only[Array.getD_eq_getD_getElem?,Array.getElem?_eq_getElem hlt,Option.getD_some]
    cases a.tmps[t']<;>rfl
   ·simp[hlt,undef]
theorem jfF {all:List Oper} {Q:Exit→Act→World→Prop} {k:St→Prop} (hsp:jac P sp)
  (hQ:∀ρ' st' a' w',RelD ds ρ' B N n0 st' a' w'→jan n0 ρ0 ρ'→Bel B w0 w'→k st'→Q .normal a' w') :
  ∀(l:List Oper) (ρ:Env) (st:St) (a:Act) (w:World),RelD ds ρ B N n0 st a w→jan n0 ρ0 ρ→Bel B w0 w→jg3 P sp N all l st k→wpList P all.toArray Q l a w
 |[],ρ,st,a,w,hr,hag,hbl,h=>hQ ρ st a w hr hag hbl h
 |o::r,ρ,st,a,w,hr,hag,hbl,h=>by
  have ih:=fun ρ' st' a' w' (h1:RelD ds ρ' B N n0 st' a' w') h2 h3 h4=>jfF (all:=all) hsp hQ r ρ' st' a' w' h1 h2 h3 h4
  unfold jg3 at h
  unfold wpList
  cases hg:o.guard with
  |none =>
   simp only[hg]at h
   have hw:Region.wanted o (yielded all.toArray a.tmps)=true:=by simp[Region.wanted,hg]
   rw[if_pos hw]
   exact .inl (jh4 hsp hr hag hbl h ih)
  |some p =>
   obtain⟨j,want⟩:=p
   simp only[hg]at h
   have hwanted:∀ob,yielded all.toArray a.tmps j=ob→Region.wanted o (yielded all.toArray a.tmps)=(ob==some want):=fun ob hob=>by simp[Region.wanted,hg,hob]
   split at h
   ·rename_i t b hgo
    obtain⟨hy,hget⟩:=ji1 hr hgo (.inr rfl)
    have hw:=hwanted _ hy
    have hval:(V.w (.c (.d (.b b)))).val ρ=.bool b:=rfl
    rw[hval]at hw
    have hkn:=hr.know hget
    cases b<;>cases want<;>simp only[Br]at h
    ·rw[if_pos (by rw[hw]; rfl)]
     exact .inl (jh4 hsp hkn hag hbl h ih)
    ·rw[if_neg (by rw[hw]; simp)]
     exact jf4 hkn hag hbl h ih
    ·rw[if_neg (by rw[hw]; simp)]
     exact jf4 hkn hag hbl h ih
    ·rw[if_pos (by rw[hw]; rfl)]
     exact .inl (jh4 hsp hkn hag hbl h ih)
   ·rename_i t vs hgo
    obtain⟨hy,hget⟩:=ji1 hr hgo (.inr rfl)
    have hw:=hwanted _ hy
    have hval:(V.w (.c (.d (.v (.tuple vs))))).val ρ=.tuple vs:=rfl
    rw[hval]at hw
    rw[if_neg (by rw[hw]; simp)]
    exact jf4 hr hag hbl h ih
   ·exact h.elim
def jci (ρ:Env) (m:Rn):Env:=fun h=>match jbu m h with
 |some (some s)=>ρ s
 |some none=>.slice none 0 0
 |none=>ρ h
def Ext (m m':Rn):Prop:=∀h x,jbu m h=some x→jbu m' h=some x
theorem Ext.refl (m:Rn):Ext m m:=fun _ _ h=>h
theorem Ext.trans {a b c:Rn} (h:Ext a b) (k:Ext b c):Ext a c:=fun x y hx=>k x y (h x y hx)
def Inj (m:Rn):Prop:=∀h h' s,jbu m h=some (some s)→jbu m h'=some (some s)→h=h'
theorem jut {m:Rn} {s:Nat} (h:jqM m s=false):∀x,jbu m x≠some (some s):=by
 induction m with
 |nil=>intro x hx; simp[jbu]at hx
 |cons p r ih =>
  obtain⟨k,v⟩:=p
  simp only[jqM,List.any_cons,Bool.or_eq_false_iff]at h
  intro x hx
  simp only[jbu]at hx
  split at hx
  ·simp only[Option.some.injEq]at hx
   subst hx
   simp at h
  ·exact ih (by simpa [jqM]using h.2) x hx
theorem jru {m:Rn} {h:Nat} {x:Option Nat} (hn:jbu m h=none):Ext m ((h,x)::m):=by
 intro k y hk
 simp only[jbu]
 split
 ·rename_i e
  subst e
  rw[hn]at hk
  cases hk
 ·exact hk
theorem jfG {h' h:Nat} {m:Rn} {k:Rn→Prop} (hb:jk1 h' h m k) (hi:Inj m):∃m',k m'∧Ext m m'∧Inj m'∧jbu m' h'=some (some h):=by
 unfold jk1 at hb
 split at hb
 ·rename_i s hs
  split at hb
  ·rename_i e
   subst e
   exact⟨m,hb,Ext.refl m,hi,hs⟩
  ·exact hb.elim
 ·exact hb.elim
 ·rename_i hn
  split at hb
  ·exact hb.elim
  ·rename_i hu
   have hu':=jut hu
   refine⟨_,hb,jru hn,?_,by simp[jbu]⟩
   intro x y s hx hy
   simp only[jbu]at hx hy
   split at hx
   ·rename_i e
    subst e
    simp only[Option.some.injEq]at hx
    subst hx
    split at hy
    ·rename_i e; exact e
    ·exact absurd hy (hu' y)
   ·split at hy
    ·rename_i e
     subst e
     simp only[Option.some.injEq]at hy
     subst hy
     exact absurd hx (hu' x)
    ·exact hi x y s hx hy
theorem jw3 {m:Rn} {h:Nat} (hi:Inj m):Inj ((h,none)::m):=by
 intro x y s hx hy
 simp only[jbu]at hx hy
 split at hx
 ·cases hx
 ·split at hy
  ·cases hy
  ·exact hi x y s hx hy
theorem jk3 {d' d:D} (h:mD d' d):d'=d:=by
 unfold mD at h
 split at h
 all_goals first
  |exact h.elim
  |(rw[h.h]; done)
  |(
    split at h
    ·rename_i e; obtain⟨rfl,rfl⟩:=e; rw[h.h]
    ·exact h.elim)
  |(
    split at h
    ·rename_i e; subst e; rw[h.h]
    ·exact h.elim)
  |(
    split at h
    ·rename_i e; rw[jby e,h.h]
    ·exact h.elim)
theorem jzr {c' c:XC} (h:mX c' c):c'=c:=by
 unfold mX at h
 split at h
 all_goals first
  |exact h.elim
  |(
    split at h
    ·rename_i e; obtain⟨rfl,rfl⟩:=e; rw[h.h]
    ·exact h.elim)
  |(
    split at h
    ·rename_i e; subst e; rw[h.h]
    ·exact h.elim)
def Same (ρ:Env) (m:Rn) (f:Env→Value) (v:Value):Prop:=∀m',Ext m m'→f (jci ρ m')=v
theorem ja8 {ρ:Env} {m:Rn} {h s:Nat} (h1:jbu m h=some (some s)):jci ρ m h=ρ s:=by simp[jci,h1]
theorem jgJ {ρ:Env} {m:Rn} {h:Nat} (h1:jbu m h=some none):jci ρ m h=.slice none 0 0:=by simp[jci,h1]
theorem jh5:∀{l' l:List Nat} {m:Rn} {k:Rn→Prop},jqN l' l m k→Inj m→∃m',k m'∧Ext m m'∧Inj m'∧∀m2,Ext m' m2→l'.map (jci ρ m2)=l.map ρ
 |[],[],m,k,h,hi=>⟨m,h,Ext.refl m,hi,fun _ _=>rfl⟩
 |x' :: r',x::r,m,k,h,hi=>by
  obtain⟨m1,h1,hE1,hI1,hl1⟩:=jfG h hi
  obtain⟨m2,h2,hE2,hI2,hS2⟩:=jh5 h1 hI1
  refine⟨m2,h2,hE1.trans hE2,hI2,fun m3 h3=>?_⟩
  simp only[List.map_cons,hS2 m3 h3,ja8 (h3 _ _ (hE2 _ _ hl1))]
 |[],_::_,_,_,h,_=>h.elim
 |_::_,[],_,_,h,_=>h.elim
theorem jtN {x' x:C} {m:Rn} {k:Rn→Prop} (h:mC x' x m k) (hi:Inj m):∃m',k m'∧Ext m m'∧Inj m'∧Same ρ m' (fun ρ'=>x'.val ρ') (x.val ρ):=by
 unfold mC at h
 split at h
 ·rename_i d' d
  exact⟨m,h.2,Ext.refl m,hi,fun m' _=>by rw[jk3 h.1]; rfl⟩
 ·rename_i h' i' e' j' hh i e j
  split at h
  ·rename_i he
   obtain⟨rfl,rfl⟩:=he
   obtain⟨⟨rfl⟩,hb⟩:=h
   obtain⟨m',hk,hE,hI,hl⟩:=jfG hb hi
   exact⟨m',hk,hE,hI,fun m2 h2=>by simp only[C.val,ja8 (h2 _ _ hl)]⟩
  ·exact h.elim
 ·rename_i h' hh
  obtain⟨m',hk,hE,hI,hl⟩:=jfG h hi
  exact⟨m',hk,hE,hI,fun m2 h2=>by simp only[C.val,ja8 (h2 _ _ hl)]⟩
 ·rename_i h'
  split at h
  ·rename_i hl
   exact⟨m,h,Ext.refl m,hi,fun m2 h2=>by simp only[C.val,jgJ (h2 _ _ hl),D.val]⟩
  ·exact h.elim
  ·rename_i hn
   refine⟨_,h,jru hn,jw3 hi,fun m2 h2=>?_⟩
   simp only[C.val,jgJ (h2 h' none (by simp[jbu])),D.val]
 ·split at h
  ·rename_i e
   subst e
   obtain⟨m',hk,hE,hI,hl⟩:=jh5 (ρ:=ρ) h hi
   exact⟨m',hk,hE,hI,fun m2 h2=>by simp only[C.val,hl m2 h2]⟩
  ·exact h.elim
 ·split at h
  ·rename_i e
   subst e
   obtain⟨m',hk,hE,hI,hl⟩:=jh5 (ρ:=ρ) h hi
   exact⟨m',hk,hE,hI,fun m2 h2=>by simp only[C.val,hl m2 h2]⟩
  ·exact h.elim
 ·split at h
  ·rename_i e
   obtain⟨rfl,rfl,rfl⟩:=e
   obtain⟨⟨rfl⟩,hk⟩:=h
   exact⟨m,hk,Ext.refl m,hi,fun _ _=>rfl⟩
  ·exact h.elim
 ·exact h.elim
theorem jh6:∀{l' l:List C} {m:Rn} {k:Rn→Prop},mCs l' l m k→Inj m→∃m',k m'∧Ext m m'∧Inj m'∧∀m2,Ext m' m2→l'.map (C.val (jci ρ m2))=l.map (C.val ρ)
 |[],[],m,k,h,hi=>⟨m,h,Ext.refl m,hi,fun _ _=>rfl⟩
 |x' :: r',x::r,m,k,h,hi=>by
  obtain⟨m1,h1,hE1,hI1,hS1⟩:=jtN (ρ:=ρ) h hi
  obtain⟨m2,h2,hE2,hI2,hS2⟩:=jh6 h1 hI1
  refine⟨m2,h2,hE1.trans hE2,hI2,fun m3 h3=>?_⟩
  simp only[List.map_cons,hS2 m3 h3,hS1 m3 (hE2.trans h3)]
 |[],_::_,_,_,h,_=>h.elim
 |_::_,[],_,_,h,_=>h.elim
theorem jtO {x' x:W} {m:Rn} {k:Rn→Prop} (h:mW x' x m k) (hi:Inj m):∃m',k m'∧Ext m m'∧Inj m'∧Same ρ m' (fun ρ'=>x'.val ρ') (x.val ρ):=by
 unfold mW at h
 split at h
 ·exact jtN h hi
 ·obtain⟨m',h1,h2,h3,h4⟩:=jh6 (ρ:=ρ) h hi
  exact⟨m',h1,h2,h3,fun m2 h5=>by simp only[W.val,h4 m2 h5]⟩
 ·split at h
  ·rename_i e
   obtain⟨rfl,rfl⟩:=e
   obtain⟨⟨rfl⟩,hk⟩:=h
   exact⟨m,hk,Ext.refl m,hi,fun _ _=>rfl⟩
  ·exact h.elim
 ·exact h.elim
theorem jrv:∀{l' l:List W} {m:Rn} {k:Rn→Prop},mWs l' l m k→Inj m→∃m',k m'∧Ext m m'∧Inj m'∧∀m2,Ext m' m2→l'.map (W.val (jci ρ m2))=l.map (W.val ρ)
 |[],[],m,k,h,hi=>⟨m,h,Ext.refl m,hi,fun _ _=>rfl⟩
 |x' :: r',x::r,m,k,h,hi=>by
  obtain⟨m1,h1,hE1,hI1,hS1⟩:=jtO (ρ:=ρ) h hi
  obtain⟨m2,h2,hE2,hI2,hS2⟩:=jrv h1 hI1
  refine⟨m2,h2,hE1.trans hE2,hI2,fun m3 h3=>?_⟩
  simp only[List.map_cons,hS2 m3 h3,hS1 m3 (hE2.trans h3)]
 |[],_::_,_,_,h,_=>h.elim
 |_::_,[],_,_,h,_=>h.elim
theorem jzs {x' x:V} {m:Rn} {k:Rn→Prop} (h:mV x' x m k) (hi:Inj m):∃m',k m'∧Ext m m'∧Inj m'∧Same ρ m' (fun ρ'=>x'.val ρ') (x.val ρ):=by
 unfold mV at h
 split at h
 ·exact jtO h hi
 ·obtain⟨m',h1,h2,h3,h4⟩:=jrv (ρ:=ρ) h hi
  exact⟨m',h1,h2,h3,fun m2 h5=>by simp only[V.val,h4 m2 h5]⟩
 ·exact h.elim
theorem jtP (tm:List (Nat × V)):∀{l:List (Nat × V)} {m:Rn} {k:Rn→Prop},mT l tm m k→Inj m→∃m',k m'∧Ext m m'∧Inj m' ∧
  ∀t v',jbg l t=some v'→∃v,jbg tm t=some v∧Same ρ m' (fun ρ'=>v'.val ρ') (v.val ρ)
 |[],m,k,h,hi=>⟨m,h,Ext.refl m,hi,fun _ _ hv=>by cases hv⟩
 |(t0,v0)::r,m,k,h,hi=>by
  unfold mT at h
  split at h
  ·rename_i v hv
   obtain⟨m1,h1,hE1,hI1,hS1⟩:=jzs (ρ:=ρ) h hi
   obtain⟨m2,h2,hE2,hI2,hS2⟩:=jtP tm h1 hI1
   refine⟨m2,h2,hE1.trans hE2,hI2,fun t v' hv'=>?_⟩
   simp only[jbg]at hv'
   split at hv'
   ·rename_i e
    subst e
    cases hv'
    exact⟨v,hv,fun m3 h3=>hS1 m3 (hE2.trans h3)⟩
   ·exact hS2 t v' hv'
  ·exact h.elim
theorem jcH {c' c:Cont} (h:jd1 c' c):c'=c:=by
 unfold jd1 at h
 split at h
 all_goals first
  |exact h.elim
  |(rw[h.h]; done)
  |(
    split at h
    ·rename_i e; obtain⟨rfl,rfl⟩:=e; rw[h.h]
    ·exact h.elim)
  |(
    split at h
    ·rename_i e; subst e; rw[h.h]
    ·exact h.elim)
def jl8 (ρ:Env) (B:Bd) (w:World) (hp:Hp) (m:Rn) (h':Nat) (o':O):Prop :=
 (∀m2,Ext m m2→o'.ok (jci ρ m2) B w h') ∧
 ((∃s o,jbu m h'=some (some s)∧find hp s=some o∧∀m2,Ext m m2→∀k,o'.blk (jci ρ m2 h')=some k→o.blk (ρ s)=some k)∨(∀m2,Ext m m2→o'.blk (jci ρ m2 h')=none))
theorem jl8.mono {hp:Hp} {m m':Rn} {h':Nat} {o':O} (h:jl8 ρ B w hp m h' o') (hE:Ext m m'):jl8 ρ B w hp m' h' o':=by
 refine⟨fun m2 h2=>h.1 m2 (hE.trans h2),?_⟩
 rcases h.2 with ⟨s,o,h1,h2,h3⟩|h1
 ·exact .inl ⟨s,o,hE _ _ h1,h2,fun m2 h4=>h3 m2 (hE.trans h4)⟩
 ·exact .inr fun m2 h2=>h1 m2 (hE.trans h2)
theorem jtQ {hp:Hp} {nx h' s:Nat} {o' o:O} {m:Rn} {k:Rn→Prop} (h:mO o' o m k) (hi:Inj m) (hh:HRel ρ B hp nx w) (hf:find hp s=some o) (hl:jbu m h'=some (some s)) :
  ∃m',k m'∧Ext m m'∧Inj m'∧jl8 ρ B w hp m' h' o':=by
 have hok:=(hh.ok s o hf).2.2
 unfold mO at h
 split at h
 ·rename_i ty cs' ty' cs
  split at h
  ·rename_i e
   subst e
   obtain⟨m1,h1,hE,hI,hS⟩:=jh6 (ρ:=ρ) h hi
   refine⟨m1,h1,hE,hI,fun m2 h2=>?_,.inl ⟨s,_,hE _ _ hl,hf,fun m2 h2 k hk=>?_⟩⟩
   ·obtain⟨g,h3,h4,h5⟩:=hok
    exact⟨g,by rw[ja8 (h2 _ _ (hE _ _ hl))]; exact h3,h4,by rw[hS m2 h2]; exact h5⟩
   ·rw[ja8 (h2 _ _ (hE _ _ hl))]at hk
    exact hk
  ·exact h.elim
 ·rename_i ty c' ty' c
  split at h
  ·rename_i e
   subst e
   have hc:=jcH h.1
   subst hc
   refine⟨m,h.2,Ext.refl m,hi,fun m2 h2=>?_,.inl ⟨s,_,hl,hf,fun m2 h2 k hk=>?_⟩⟩
   ·unfold O.ok
    rw[ja8 (h2 _ _ hl)]
    exact hok
   ·rw[ja8 (h2 _ _ hl)]at hk
    exact hk
  ·exact h.elim
 ·rename_i c' c
  have hc:=jcH h.1
  subst hc
  refine⟨m,h.2,Ext.refl m,hi,fun m2 h2=>?_,.inr fun _ _=>rfl⟩
  unfold O.ok
  rw[ja8 (h2 _ _ hl)]
  exact hok
 ·split at h
  ·rename_i hk
   have hk:=jby hk
   subst hk
   refine⟨m,h,Ext.refl m,hi,fun m2 h2=>?_,.inr fun _ _=>rfl⟩
   unfold O.ok
   rw[ja8 (h2 _ _ hl)]
   exact hok
  ·exact h.elim
 ·rename_i cs' cs
  obtain⟨m1,h1,hE,hI,hS⟩:=jh6 (ρ:=ρ) h hi
  refine⟨m1,h1,hE,hI,fun m2 h2=>?_,.inr fun _ _=>rfl⟩
  obtain⟨g,o,h3,h4,h5⟩:=hok
  refine⟨g,o,by rw[ja8 (h2 _ _ (hE _ _ hl))]; exact h3,h4,fun j c hj=>?_⟩
  have hj2:(List.map (C.val (jci ρ m2)) cs')[j]?=some (c.val (jci ρ m2)):=by rw[List.getElem?_map,hj]; rfl
  rw[hS m2 h2,List.getElem?_map]at hj2
  obtain⟨c0,hc0,he0⟩:=Option.map_eq_some_iff.1 hj2
  rw[←he0]
  exact h5 j c0 hc0
 ·split at h
  ·rename_i e
   obtain⟨rfl,rfl,rfl⟩:=e
   obtain⟨⟨rfl⟩,hk⟩:=h
   refine⟨m,hk,Ext.refl m,hi,fun m2 h2=>?_,.inl ⟨s,_,hl,hf,fun m2 h2 k hk=>?_⟩⟩
   ·unfold O.ok
    rw[ja8 (h2 _ _ hl)]
    exact hok
   ·rw[ja8 (h2 _ _ hl)]at hk
    exact hk
  ·exact h.elim
 ·have hc:=jzr h.1
  subst hc
  refine⟨m,h.2,Ext.refl m,hi,fun m2 h2=>?_,.inr fun _ _=>rfl⟩
  unfold O.ok
  rw[ja8 (h2 _ _ hl)]
  exact hok
 ·obtain⟨⟨rfl⟩,hk⟩:=h
  refine⟨m,hk,Ext.refl m,hi,fun m2 h2=>?_,.inl ⟨s,_,hl,hf,fun m2 h2 k hk=>?_⟩⟩
  ·unfold O.ok
   rw[ja8 (h2 _ _ hl)]
   exact hok
  ·rw[ja8 (h2 _ _ hl)]at hk
   exact hk
 ·have hc:=jcH h.1
  subst hc
  refine⟨m,h.2,Ext.refl m,hi,fun m2 h2=>?_,.inl ⟨s,_,hl,hf,fun m2 h2 k hk=>?_⟩⟩
  ·unfold O.ok
   rw[ja8 (h2 _ _ hl)]
   exact hok
  ·rw[ja8 (h2 _ _ hl)]at hk
   exact hk
 ·rename_i r' c'
  split at h
  ·rename_i c hc
   have he:=jcH h.1
   subst he
   refine⟨m,h.2,Ext.refl m,hi,fun m2 h2=>?_,.inr fun _ _=>rfl⟩
   unfold O.ok
   rw[ja8 (h2 _ _ hl)]
   exact⟨jbo hok hc,fun h=>by cases h⟩
  ·exact h.elim
 ·exact h.elim
theorem jtR {hp:Hp} {nx:Nat} (hh:HRel ρ B hp nx w):∀{l:Hp} {m:Rn} {k:Rn→Prop},mH l hp m k→Inj m→∃m',k m'∧Ext m m'∧Inj m'∧∀h' o',find l h'=some o'→jl8 ρ B w hp m' h' o'
 |[],m,k,h,hi=>⟨m,h,Ext.refl m,hi,fun _ _ hv=>by cases hv⟩
 |(h0,o0)::r,m,k,h,hi=>by
  have close:∀m1,Ext m m1→Inj m1→jl8 ρ B w hp m1 h0 o0→mH r hp m1 k→∃m',k m'∧Ext m m'∧Inj m'∧∀h' o',find ((h0,o0)::r) h'=some o'→jl8 ρ B w hp m' h' o':=by
   intro m1 hE1 hI1 hO1 h1
   obtain⟨m2,h2,hE2,hI2,hS2⟩:=jtR hh h1 hI1
   refine⟨m2,h2,hE1.trans hE2,hI2,fun h' o' hf=>?_⟩
   simp only[find]at hf
   split at hf
   ·rename_i e
    subst e
    cases hf
    exact hO1.mono hE2
   ·exact hS2 h' o' hf
  unfold mH at h
  split at h
  ·rename_i s hs
   split at h
   ·rename_i o hf
    obtain⟨m1,h1,hE1,hI1,hO1⟩:=jtQ h hi hh hf hs
    exact close m1 hE1 hI1 hO1 h1
   ·exact h.elim
  ·rename_i hs
   split at h
   ·rename_i ty c
    refine close m (Ext.refl m) hi ⟨fun m2 h2=>?_,.inr fun m2 h2=>?_⟩ h.2
    ·have hfl:c.flat=[]:=List.eq_nil_of_length_eq_zero (by rw[Cont.flat_length,h.1.h,Nat.zero_mul])
     show w.ownsRow 0 ty c.e (jci ρ m2 h0) c.n (c.flat.map D.val)∧∀k,(jci ρ m2 h0).ownBlock=some k→¬B k
     rw[jgJ (h2 _ _ hs),hfl,h.1.h]
     exact⟨World.ownsRow_nil w 0 ty c.e,fun k hk=>by cases hk⟩
    ·rw[jgJ (h2 _ _ hs)]
     rfl
   ·exact h.elim
  ·split at h
   ·rename_i o hf
    obtain⟨m1,h1,hE1,hI1,hl1⟩:=jfG h hi
    obtain⟨m2,h2,hE2,hI2,hO2⟩:=jtQ h1 hI1 hh hf hl1
    exact close m2 (hE1.trans hE2) hI2 hO2 h2
   ·exact h.elim
theorem C.ltb_spec {n:Nat} {x:C} (h:x.ltb n=true):x.lt n:=by
 cases x with
 |d=>trivial
 |p=>simpa [C.ltb,C.lt,Nat.blt_eq]using h
 |o=>simpa [C.ltb,C.lt,Nat.blt_eq]using h
 |fn f hs=>intro y hy; have:=List.all_eq_true.1 h y hy; simpa [Nat.blt_eq]using this
 |fb f hs=>intro y hy; have:=List.all_eq_true.1 h y hy; simpa [Nat.blt_eq]using this
 |g=>trivial
theorem W.ltb_spec {n:Nat} {x:W} (h:x.ltb n=true):x.lt n:=by
 cases x with
 |c c=>exact C.ltb_spec h
 |a l=>exact fun y hy=>C.ltb_spec (List.all_eq_true.1 h y hy)
 |b=>trivial
theorem V.ltb_spec {n:Nat} {x:V} (h:x.ltb n=true):x.lt n:=by
 cases x with
 |w c=>exact W.ltb_spec h
 |t l=>exact fun y hy=>W.ltb_spec (List.all_eq_true.1 h y hy)
theorem O.ltb_spec {n:Nat} {x:O} (h:x.ltb n=true):x.lt n:=by
 cases x with
 |box ty cs=>exact fun y hy=>C.ltb_spec (List.all_eq_true.1 h y hy)
 |view r c _=>simpa [O.ltb,O.lt,Nat.blt_eq]using h
 |ebox cs=>exact fun y hy=>C.ltb_spec (List.all_eq_true.1 h y hy)
 |_=>trivial
theorem jw4 {l:List (Nat × V)} {t:Nat} {v:V} (h:jbg l t=some v):(t,v)∈l:=by
 induction l with
 |nil=>cases h
 |cons p r ih =>
  obtain⟨k,x⟩:=p
  simp only[jbg]at h
  split at h
  ·rename_i e; subst e; cases h; exact List.mem_cons_self
  ·exact List.mem_cons_of_mem _ (ih h)
theorem jrw {l:Hp} {t:Nat} {v:O} (h:find l t=some v):(t,v)∈l:=by
 induction l with
 |nil=>cases h
 |cons p r ih =>
  obtain⟨k,x⟩:=p
  simp only[find]at h
  split at h
  ·rename_i e; subst e; cases h; exact List.mem_cons_self
  ·exact List.mem_cons_of_mem _ (ih h)
theorem jvL {l:Rn} {t:Nat} {v:Option Nat} (h:jbu l t=some v):(t,v)∈l:=by
 induction l with
 |nil=>cases h
 |cons p r ih =>
  obtain⟨k,x⟩:=p
  simp only[jbu]at h
  split at h
  ·rename_i e; subst e; cases h; exact List.mem_cons_self
  ·exact List.mem_cons_of_mem _ (ih h)
theorem Le.rel {st':St} (h:Le n0 st st') (hr:RelD ds ρ B N n0 st a w):∃ρ',RelD ds ρ' B N n0 st' a w∧jan n0 ρ ρ':=by
 unfold Le at h
 split at h
 ·rename_i hwf
  simp only[Bool.and_eq_true]at hwf
  obtain⟨hwf,hn0⟩:=hwf
  simp only[St.wfb,Bool.and_eq_true,List.all_eq_true]at hwf
  obtain⟨m1,h1,hE1,hI1,hT⟩:=jtP (ρ:=ρ) st.tm h (fun _ _ _ hx=>by cases hx)
  obtain⟨m2,h2,hE2,hI2,hO⟩:=jtR hr.heap h1 hI1
  have h2:jvK n0 m2=true:=by
   split at h2
   ·assumption
   ·exact h2.elim
  refine⟨jci ρ m2,⟨fun t v' hv'=>?_,hr.size,hr.defers,⟨fun h' o' hf=>?_,fun h' o' g' p' k hf hf' hne hk hk'=>?_,hr.heap.glob⟩,hr.le,by simpa [Nat.ble_eq]using hn0⟩,fun h hh=>?_⟩
  ·obtain⟨v,hv,hS⟩:=hT t v' hv'
   refine⟨V.ltb_spec (hwf.1 (t,v') (jw4 hv')),?_⟩
   rw[(hr.tm t v hv).2]
   exact(hS m2 hE2).symm
  ·have hm:=hwf.2 (h',o') (jrw hf)
   simp only[Nat.blt_eq]at hm
   exact⟨hm.1,O.ltb_spec hm.2,(hO h' o' hf).1 m2 (Ext.refl _)⟩
  ·rcases(hO h' o' hf).2 with ⟨s,o,h3,h4,h5⟩|h3
   ·rcases(hO g' p' hf').2 with ⟨s',o2,h3',h4',h5'⟩|h3'
    ·have hss:s≠s':=fun e=>hne (hI2 h' g' s h3 (by rw[e]; exact h3'))
     exact hr.heap.apart s o s' o2 k h4 h4' hss (h5 m2 (Ext.refl _) k hk) (h5' m2 (Ext.refl _) k hk')
    ·rw[h3' m2 (Ext.refl _)]at hk'; cases hk'
   ·rw[h3 m2 (Ext.refl _)]at hk; cases hk
  ·unfold jci
   cases hl:jbu m2 h with
   |none=>rfl
   |some x =>
    have:=List.all_eq_true.1 h2 (h,x) (jvL hl)
    have hb:h.blt n0=true:=by rw[Nat.blt_eq]; exact hh
    simp[hb]at this
    subst this
    rfl
 ·exact h.elim
end
end Go.Sx
end

section
open Go.RowKit
namespace Go.Sx
section
variable [Globs] {P:Program} {B:Bd} {N n0:Nat} {sp:jab} {ρ0:Env} {w0:World} {ds:List Deferred}
def jhz [Globs] (P:Program) (B:Bd) (N n0:Nat) (ρ0:Env) (w0:World) (drawn:Array Oper→St→(St→Prop)→Prop):Prop :=
 ∀⦃ds:List Deferred⦄ (id:Nat) (ops:Array Oper) (st:St) (k:St→Prop) (ρ:Env) (a:Act) (w:World) (Q:Exit→Act→World→Prop),drawn ops st k→RelD ds ρ B N n0 st a w→jan n0 ρ0 ρ→Bel B w0 w →
  (∀ρ' st' a' w',RelD ds ρ' B N n0 st' a' w'→jan n0 ρ0 ρ'→Bel B w0 w'→k st'→Q .normal a' w')→(Code.region id ops true).wp P Q a w
theorem jpv {ρ:Env} {st:St} {a:Act} {w:World} {c:Operand} {b:Bool} (hr:RelD ds ρ B N n0 st a w) (h:(jdE st c).bind V.bool?=some b):a.eval c=.bool b:=by
 cases hc:jdE st c with
 |none=>simp[hc]at h
 |some v =>
  simp only[hc,Option.bind_some]at h
  rw[(hr.reads c v hc).2,V.bool?_eq h]
  rfl
theorem jjG {c:Code} {F:St→(Ex→St→Prop)→Prop} (hF:∀st k ρ a w,F st k→RelD ds ρ B N n0 st a w→jan n0 ρ0 ρ→Bel B w0 w→c.wp P (Qx ds ρ0 B N n0 w0 k) a w) :
  ∀(n:Nat) (st:St) (k:Ex→St→Prop) (ρ:Env) (a:Act) (w:World),jrs F n st k→RelD ds ρ B N n0 st a w→jan n0 ρ0 ρ→Bel B w0 w→Code.rounds P c (Qx ds ρ0 B N n0 w0 k) n a w
 |0,_,_,_,_,_,h,_,_,_=>h.elim
 |n+1,st,k,ρ,a,w,h,hr,hag,hbl=>by
  rw[rounds_succ]
  refine wp_mono (hF st _ ρ a w h hr hag hbl) ?_
  rintro e a' w' ⟨x,ρ',st',rfl,hk,hr',hag',hbl'⟩
  cases x with
  |normal=>exact jjG hF n st' k ρ' a' w' hk hr' hag' hbl'
  |exit j=>exact⟨.exit j,ρ',st',rfl,hk,hr',hag',hbl'⟩
  |ret=>exact⟨.ret,ρ',st',rfl,hk,hr',hag',hbl'⟩
theorem jbA {fuel:Nat} {loops:jgI} {drawn:Array Oper→St→(St→Prop)→Prop} (hsp:jac P sp) (hdr:jhz P B N n0 ρ0 w0 drawn) :
  ∀(c:Code) (cur:Nat) (gs:List Nat) (st:St) (k:Ex→St→Prop) (ρ:Env) (a:Act) (w:World),sx P sp N n0 fuel loops drawn c cur gs st k→RelD ds ρ B N n0 st a w→jan n0 ρ0 ρ→Bel B w0 w →
   c.wp P (Qx ds ρ0 B N n0 w0 k) a w
 | .skip,_,_,st,k,ρ,a,w,h,hr,hag,hbl=>wp_skip ⟨.normal,ρ,st,rfl,h,hr,hag,hbl⟩
 | .label _,_,_,st,k,ρ,a,w,h,hr,hag,hbl=>wp_label ⟨.normal,ρ,st,rfl,h,hr,hag,hbl⟩
 | .region id ops draw,_,_,st,k,ρ,a,w,h,hr,hag,hbl=>by
  unfold sx at h
  cases draw with
  |false =>
   refine wp_region_list ?_
   have:=jfF (P:=P) (Q:=Qx ds ρ0 B N n0 w0 k) (k:=fun st'=>k .normal st') (all:=ops.toList) hsp (fun ρ' st' a' w' h1 h2 h3 h4=>⟨.normal,ρ',st',rfl,h4,h1,h2,h3⟩) ops.toList ρ st a w hr hag hbl h
   simpa using this
  |true=>exact hdr id ops st _ ρ a w _ h hr hag hbl (fun ρ' st' a' w' h1 h2 h3 h4=>⟨.normal,ρ',st',rfl,h4,h1,h2,h3⟩)
 | .seq x y,cur,gs,st,k,ρ,a,w,h,hr,hag,hbl=>by
  unfold sx at h
  refine wp_seq (wp_mono (jbA hsp hdr x cur gs st _ ρ a w h hr hag hbl) ?_)
  rintro e a' w' ⟨ex,ρ',st',rfl,hk,hr',hag',hbl'⟩
  cases ex with
  |normal=>exact jbA hsp hdr y cur gs st' k ρ' a' w' hk hr' hag' hbl'
  |exit j=>exact⟨.exit j,ρ',st',rfl,hk,hr',hag',hbl'⟩
  |ret=>exact⟨.ret,ρ',st',rfl,hk,hr',hag',hbl'⟩
 | .cond c x y,cur,gs,st,k,ρ,a,w,h,hr,hag,hbl=>by
  unfold sx at h
  split at h
  ·rename_i b hb
   have he:=jpv hr hb
   cases b with
   |true=>exact wp_cond_true he (jbA hsp hdr x cur gs st k ρ a w h hr hag hbl)
   |false=>exact wp_cond_false he (jbA hsp hdr y cur gs st k ρ a w h hr hag hbl)
  ·exact h.elim
 | .block id c,_,gs,st,k,ρ,a,w,h,hr,hag,hbl=>by
  unfold sx at h
  refine wp_block (wp_mono (jbA hsp hdr c id gs st _ ρ a w h hr hag hbl) ?_)
  rintro e a' w' ⟨ex,ρ',st',rfl,hk,hr',hag',hbl'⟩
  cases ex with
  |normal=>exact⟨.normal,ρ',st',rfl,hk,hr',hag',hbl'⟩
  |exit j =>
   simp only[Ex.toExit,Exit.inBlock]
   dsimp only at hk
   split
   ·rename_i e
    rw[if_pos e]at hk
    exact⟨.normal,ρ',st',rfl,hk,hr',hag',hbl'⟩
   ·rename_i e
    rw[if_neg e]at hk
    exact⟨.exit j,ρ',st',rfl,hk,hr',hag',hbl'⟩
  |ret=>exact⟨.ret,ρ',st',rfl,hk,hr',hag',hbl'⟩
 | .loop c,cur,gs,st,k,ρ,a,w,h,hr,hag,hbl=>by
  unfold sx at h
  split at h
  ·rename_i L hL
   obtain⟨⟨x0,⟨hx0⟩,hle0⟩,hround⟩:=h
   obtain⟨ρ1,hr1,hag1⟩:=hle0.rel hr
   have hag01:jan n0 ρ0 ρ1:=fun h hh=>(hag1 h hh).trans (hag h hh)
   have key:∀(n:Nat) (x:L.X),L.mu x=n→L.inv x→∀(ρ:Env) (a:Act) (w:World),RelD ds ρ B N n0 (L.st x) a w→jan n0 ρ0 ρ→Bel B w0 w→Code.rounds P c (Qx ds ρ0 B N n0 w0 k) (n+1) a w:=by
    intro n
    induction n using Nat.strongRecOn with
    |_ n ih =>
     intro x hn hx ρ a w hr hag hbl
     rw[rounds_succ]
     refine wp_mono (jbA hsp hdr c cur (L.mu x::gs) (L.st x) _ ρ a w (hround x hx) hr hag hbl) ?_
     rintro e a' w' ⟨ex,ρ',st',rfl,hk,hr',hag',hbl'⟩
     cases ex with
     |normal =>
      obtain⟨x',⟨hx'⟩,⟨hmu⟩,hle⟩:=hk
      obtain⟨ρ2,hr2,hag2⟩:=Le.rel hle hr'
      have hlt:L.mu x'<n:=by omega
      have:=ih (L.mu x') hlt x' rfl hx' ρ2 a' w' hr2 (fun h hh=>(hag2 h hh).trans (hag' h hh)) hbl'
      exact rounds_le (by omega) this
     |exit j=>exact⟨.exit j,ρ',st',rfl,hk,hr',hag',hbl'⟩
     |ret=>exact⟨.ret,ρ',st',rfl,hk,hr',hag',hbl'⟩
   exact wp_loop_rounds _ (key _ x0 rfl hx0 ρ1 a w hr1 hag01 hbl)
  ·refine wp_loop_rounds fuel (jjG (F:=fun st k=>sx P sp N n0 fuel loops drawn c cur gs st k) ?_ fuel st k ρ a w h hr hag hbl)
   intro st k ρ a w h hr hag hbl
   exact jbA hsp hdr c cur gs st k ρ a w h hr hag hbl
 | .exit id,_,_,st,k,ρ,a,w,h,hr,hag,hbl=>wp_exit ⟨.exit id,ρ,st,rfl,h,hr,hag,hbl⟩
 | .ret,_,_,st,k,ρ,a,w,h,hr,hag,hbl=>wp_ret ⟨.ret,ρ,st,rfl,h,hr,hag,hbl⟩
 | .scope _,_,_,_,_,_,_,_,h,_,_,_=>h.elim
 | .goto _,_,_,_,_,_,_,_,h,_,_,_=>h.elim
 | .rangeFunc _ _ _ _,_,_,_,_,_,_,_,h,_,_,_=>h.elim
 | .refuse _,_,_,_,_,_,_,_,h,_,_,_=>h.elim
 where
 rounds_le {c:Code} {Q:Exit→Act→World→Prop}:∀{n m:Nat} {a:Act} {w:World},n≤m→Code.rounds P c Q n a w→Code.rounds P c Q m a w
  |0,_,_,_,_,h=>h.elim
  |n+1,0,_,_,hl,_=>by omega
  |n+1,m+1,a,w,hl,h=>by
   rw[rounds_succ]at *
   refine wp_mono h ?_
   intro e a' w' hq
   cases e<;>first|exact rounds_le (Nat.le_of_succ_le_succ hl) hq|exact hq
end
end Go.Sx
end

section
open Go.RowKit
namespace Go.Sx
def jrx (P:Program) (st:St):ResultVar→Option (Prop × W)
 | .tmp t=>match jbg st.tm t with
  |some (.w u)=>some (True,u)
  |_=>none
 | .cell t ty=>match jbg st.tm t with
  |some (.w (.c (.p h i e j)))=>match find st.hp h with
   |some o=>match jgD P ty o i e j with
    |some (ob,.w u)=>some (ob,u)
    |_=>none
   |none=>none
  |_=>none
def jhA (P:Program) (st:St):List ResultVar→Option (List (Prop × W))
 |[]=>some []
 |r::rs=>match jrx P st r,jhA P st rs with
  |some x,some l=>some (x::l)
  |_,_=>none
def jcy:List W→V
 |[u]=>.w u
 |l=>.t l
def jnf:List (Prop × W)→Prop→Prop
 |[],k=>k
 |x::l,k=>Ob x.1∧jnf l k
def jeo (P:Program) (rs:List ResultVar) (post:V→Hp→Nat→Prop):Ex→St→Prop
 | .exit _,_=>False
 |_,st=>match jhA P st rs with
  |some l=>jnf l (post (jcy (l.map (·.2))) st.hp st.nx)
  |none=>False
def jc5:Nat→List V→List (Nat × V)
 |_,[]=>[]
 |n,v::l=>(n,v)::jc5 (n+1) l
def jng (tmps:Array Value):ResultVar→Sem Value
 | .tmp t=>pure (tmps.getD t undef)
 | .cell c t=>do loadVar t (←asAddr (tmps.getD c undef))
theorem jh7 (fn:Func) (tmps:Array Value):results fn tmps=(fn.results.mapM (jng tmps) >>= fun vs=>pure (if h:vs.size=1 then vs[0]else .tuple vs)):=by
 unfold results
 congr 1
section
variable [Globs] {P:Program} {B:Bd} {N n0:Nat} {ρ:Env} {st:St} {a:Act} {w:World} {ds:List Deferred}
theorem juv {r:ResultVar} {ob:Prop} {u:W} (hr:RelD ds ρ B N n0 st a w) (h:jrx P st r=some (ob,u)) (ho:ob) :
  (jng a.tmps r).run P w=.ok (u.val ρ) w∧u.lt st.nx:=by
 unfold jrx at h
 split at h
 ·rename_i t
  split at h
  ·rename_i u' hg
   cases h
   have:=hr.tm t _ hg
   exact⟨by simp only[jng,Sem.run_pure,this.2]; rfl,this.1⟩
  ·cases h
 ·rename_i t ty
  split at h
  ·rename_i k i e j hg
   split at h
   ·rename_i o hf
    split at h
    ·rename_i ob' u' hro
     cases h
     have h1:=(hr.tm t _ hg).2
     have h2:=jjw hr.heap hf hro ho
     refine⟨?_,h2.2⟩
     simp only[jng,h1,cell_val,C.val,asAddr,Sem.run_bind,Sem.run_pure,Result.andThen_ok]
     exact h2.1
    ·cases h
   ·cases h
  ·cases h
theorem jfH (hr:RelD ds ρ B N n0 st a w):∀(rs:List ResultVar) (l:List (Prop × W)) (k:Prop),jhA P st rs=some l→jnf l k →
  (rs.mapM (jng a.tmps)).run P w=.ok (l.map fun x=>x.2.val ρ) w∧(∀x∈l,x.2.lt st.nx)∧k
 |[],l,k,h,ho=>by
  simp only[jhA,Option.some.injEq]at h
  subst h
  exact⟨by simp,(fun _ hx=>by cases hx),ho⟩
 |r::rs,l,k,h,ho=>by
  simp only[jhA]at h
  split at h
  ·rename_i x l' hx hl
   cases h
   obtain⟨h1,h2⟩:=ho
   have ih:=jfH hr rs l' k hl h2
   have h3:=juv hr hx h1.h
   refine⟨?_,?_,ih.2.2⟩
   ·simp only[List.mapM_cons,Sem.run_bind,h3.1,Result.andThen_ok,ih.1,Sem.run_pure,List.map_cons]
   ·intro y hy
    rcases List.mem_cons.1 hy with rfl|hy
    ·exact h3.2
    ·exact ih.2.1 y hy
  ·cases h
theorem jcI (l:List W):(jcy l).val ρ=(if h:(l.map (W.val ρ)).toArray.size=1 then(l.map (W.val ρ)).toArray[0]else .tuple (l.map (W.val ρ)).toArray):=by
 match l with
 |[]=>rfl
 |[u]=>rfl
 |u::v::r=>simp[jcy,V.val]
theorem jfQ {n:Nat} {l:List W} (h:∀x∈l,x.lt n):(jcy l).lt n:=by
 match l with
 |[]=>exact h
 |[u]=>exact h u List.mem_cons_self
 |u::v::r=>exact h
theorem jpw:∀(l:List V) (n t:Nat) (v:V),jbg (jc5 n l) t=some v→n≤t∧l[t-n]?=some v
 |[],_,_,_,h=>by cases h
 |x::l,n,t,v,h=>by
  simp only[jc5,jbg]at h
  split at h
  ·rename_i e
   subst e
   cases h
   simp
  ·have:=jpw l (n+1) t v h
   refine⟨by omega,?_⟩
   have e:t-n=(t-(n+1))+1:=by omega
   rw[e]
   simpa using this.2
theorem jjH {N:Nat} {args:List V} {hp0:Hp} {nx0:Nat} (hlen:args.length≤N) (hlt:∀x∈args,V.lt nx0 x) (hn0:n0≤nx0) (ρ:Env) (w:World) (hh:HRel ρ B hp0 nx0 w) (hB:Old B w) :
  Rel ρ B N n0 ⟨jc5 0 args,hp0,nx0⟩ { tmps:=(args.map (V.val ρ)).toArray++Array.replicate (N-(args.map (V.val ρ)).toArray.size) undef,defers:=[] } w:=by
 refine⟨fun t v hv=>?_,by simp; omega,rfl,hh,hB,hn0⟩
 have hg:=jpw args 0 t v hv
 simp only[Nat.sub_zero]at hg
 have hlt2:t<args.length:=(List.getElem?_eq_some_iff.1 hg.2).1
 refine⟨hlt v (List.mem_of_getElem? hg.2),?_⟩
 have hv2:args[t]=v:=(List.getElem?_eq_some_iff.1 hg.2).2
 have hsz:t<((args.map (V.val ρ)).toArray++Array.replicate (N-(args.map (V.val ρ)).toArray.size) undef).size:=by simp; omega
 simp only[Array.getD_eq_getD_getElem?,Array.getElem?_eq_getElem hsz,Option.getD_some]
 rw[Array.getElem_append_left (by simpa using hlt2)]
 simp[hv2]
theorem jry {sp:jab} {fuel:Nat} {loops:jgI} {drawn:Array Oper→St→(St→Prop)→Prop} {f:Nat} {fn:Func} {body:Code} {args:List V} {hp0:Hp} {nx0:Nat} {post:V→Hp→Nat→Prop}
  (hsp:jac P sp) (hdr:∀ρ w,jhz P B fn.ntmps n0 ρ w drawn) (hf:P.funcs[f]?=some fn) (hb:fn.body=some body) (hlen:args.length≤fn.ntmps)
  (h:sx P sp fn.ntmps n0 fuel loops drawn body 0 [] ⟨jc5 0 args,hp0,nx0⟩ (jeo P fn.results.toList post)) (hlt:∀x∈args,V.lt nx0 x) (hn0:n0≤nx0) (ρ:Env) (w:World) (hh:HRel ρ B hp0 nx0 w) (hB:Old B w) :
  Calls P f (args.map (V.val ρ)).toArray w fun e w'=>∃ρ' v hp' nx',e=.returned (v.val ρ')∧v.lt nx'∧jan n0 ρ ρ'∧HRel ρ' B hp' nx' w'∧Bel B w w'∧Old B w'∧post v hp' nx':=by
 refine calls_of_wp hf hb ?_
 have jfc:=jjH (n0:=n0) hlen hlt hn0 ρ w hh hB
 refine wp_mono (jbA hsp (hdr ρ w) body 0 [] _ _ ρ _ w h jfc (jan.refl _ _) (Bel.refl _ _)) ?_
 rintro e a' w' ⟨x,ρ',st',rfl,hk,hr',hag',hbl'⟩
 have fin:∀l:List (Prop × W),jhA P st' fn.results.toList=some l→jnf l (post (jcy (l.map (·.2))) st'.hp st'.nx) →
   a'.defers=[]∧∃v,(results fn a'.tmps).run P w'=.ok v w'∧∃ρ' v' hp' nx',Ending.returned v=.returned (v'.val ρ')∧v'.lt nx'∧jan n0 ρ ρ'∧HRel ρ' B hp' nx' w'∧Bel B w w'∧Old B w'∧post v' hp' nx':=by
  intro l hl ho
  have hra:=jfH hr' _ l _ hl ho
  refine⟨hr'.defers,(jcy (l.map (·.2))).val ρ',?_,ρ',jcy (l.map (·.2)),st'.hp,st'.nx,rfl,jfQ (fun y hy=>?_),hag',hr'.heap,hbl',hr'.le,hra.2.2⟩
  ·rw[jcI]
   simp only[jh7,Array.mapM_eq_mapM_toList,Sem.run_bind,Sem.run_map,hra.1,Result.andThen_ok,Sem.run_pure,List.map_map]
   rfl
  ·obtain⟨z,hz,rfl⟩:=List.mem_map.1 hy
   exact hra.2.1 z hz
 cases x with
 |normal =>
  simp only[jeo]at hk
  split at hk
  ·rename_i l hl
   exact fin l hl hk
  ·exact hk.elim
 |exit j=>exact hk.elim
 |ret =>
  simp only[jeo]at hk
  split at hk
  ·rename_i l hl
   exact fin l hl hk
  ·exact hk.elim
end
end Go.Sx
end

section
open Go.RowKit
namespace Go.Sx
def jnh (n:Nat) (l:List Nat):List Nat:=match l.contains n with
 |true=>l
 |false=>n::l
def jh8 (a b:List Nat):List Nat:=a.foldr jnh b
def jcV (acc:List (List Nat)):List Edge→List Nat
 |[]=>[]
 |e::r=>match Region.binds .any e with
  |true=>jnh e.on (jh8 (acc.getD e.on []) (jcV acc r))
  |false=>jcV acc r
def jjI:List Oper→List (List Nat)→List (List Nat)
 |[],acc=>acc
 |o::r,acc=>jjI r (acc++[jcV acc o.after.toList])
theorem jni {n m:Nat} {l:List Nat}:m∈jnh n l↔m=n∨m∈l:=by
 unfold jnh
 split
 ·rename_i h
  simp at h
  constructor
  ·exact .inr
  ·rintro (rfl|h')
   ·exact h
   ·exact h'
 ·simp
theorem jjJ {m:Nat}:∀{a b:List Nat},m∈jh8 a b↔m∈a∨m∈b
 |[],b=>by simp[jh8]
 |x::a,b=>by
  have:=jjJ (m:=m) (a:=a) (b:=b)
  simp only[jh8,List.foldr_cons]at *
  rw[jni,this]
  simp[or_assoc]
theorem jg4 {acc:List (List Nat)} {k:Nat}:∀{es:List Edge},k∈jcV acc es→∃e∈es,Region.binds .any e=true∧(k=e.on∨k∈acc.getD e.on [])
 |[],h=>by cases h
 |e::r,h=>by
  unfold jcV at h
  split at h
  ·rename_i hb
   rcases jni.1 h with h|h
   ·exact⟨e,List.mem_cons_self,hb,.inl h⟩
   ·rcases jjJ.1 h with h|h
    ·exact⟨e,List.mem_cons_self,hb,.inr h⟩
    ·obtain⟨e',he',h'⟩:=jg4 h
     exact⟨e',List.mem_cons_of_mem _ he',h'⟩
  ·obtain⟨e',he',h'⟩:=jg4 h
   exact⟨e',List.mem_cons_of_mem _ he',h'⟩
def jcv (L:List Oper) (tab:List (List Nat)):Prop :=
 ∀i k,k∈tab.getD i []→∃o,L[i]?=some o∧∃e∈o.after.toList,Region.binds .any e=true∧(k=e.on∨(e.on<i∧k∈tab.getD e.on []))
theorem jtS (L:List Oper):∀(r:List Oper) (acc:List (List Nat)),L=L.take acc.length++r→jcv L acc→jcv L (jjI r acc)
 |[],acc,_,h=>h
 |o::r,acc,hL,h=>by
  unfold jjI
  have hlen:acc.length<L.length:=by
   have:=congrArg List.length hL
   simp at this
   omega
  have ho:L[acc.length]?=some o:=by
   rw[hL,List.getElem?_append_right (by simp; omega)]
   simp[Nat.min_eq_left (Nat.le_of_lt hlen)]
  refine jtS L r (acc++[jcV acc o.after.toList]) ?_ ?_
  ·have h1:L.take (acc.length+1)=L.take acc.length++[o]:=by
    rw[List.take_succ_eq_append_getElem hlen]
    congr 2
    have:=List.getElem?_eq_getElem hlen
    rw[this]at ho
    exact Option.some.inj ho
   simp only[List.length_append,List.length_singleton,h1,List.append_assoc,List.singleton_append]
   exact hL
  ·intro i k hk
   by_cases hi:i<acc.length
   ·have e1:(acc++[jcV acc o.after.toList]).getD i []=acc.getD i []:=by simp[List.getD,List.getElem?_append_left hi]
    rw[e1]at hk
    obtain⟨o',ho',e,he,hb,hor⟩:=h i k hk
    refine⟨o',ho',e,he,hb,hor.imp id fun⟨h1,h2⟩=>⟨h1,?_⟩⟩
    simpa [List.getD,List.getElem?_append_left (show e.on<acc.length by omega)]using h2
   ·by_cases hi2:i=acc.length
    ·subst hi2
     have e1:(acc++[jcV acc o.after.toList]).getD acc.length []=jcV acc o.after.toList:=by simp[List.getD]
     rw[e1]at hk
     obtain⟨e,he,hb,hor⟩:=jg4 hk
     refine⟨o,ho,e,he,hb,hor.imp id fun h2=>?_⟩
     have hlt:e.on<acc.length:=by
      rcases Nat.lt_or_ge e.on acc.length with h|h
      ·exact h
      ·simp[List.getD,List.getElem?_eq_none h]at h2
     exact⟨hlt,by simpa [List.getD,List.getElem?_append_left hlt]using h2⟩
    ·have:(acc++[jcV acc o.after.toList]).getD i []=[]:=by
      rw[List.getD,List.getElem?_eq_none (by simp; omega)]
      rfl
     rw[this]at hk
     cases hk
def jcj (L:List Oper) (D:Nat→Bool):Prop:=∀j o,L[j]?=some o→D j=true→∀e∈o.after.toList,Region.binds .any e=true→D e.on=true
theorem jep {L:List Oper} {tab:List (List Nat)} {D:Nat→Bool} (ht:jcv L tab) (hc:jcj L D) :
  ∀(i:Nat) (k:Nat),(∀o,L[i]?=some o→∀e∈o.after.toList,Region.binds .any e=true→D e.on=true)→k∈tab.getD i []→D k=true:=by
 intro i
 induction i using Nat.strongRecOn with
 |_ i ih =>
  intro k hd hk
  obtain⟨o,ho,e,he,hb,hor⟩:=ht i k hk
  have h1:=hd o ho e he hb
  rcases hor with rfl|⟨hlt,hk'⟩
  ·exact h1
  ·exact ih e.on hlt k (fun o' ho' e' he' hb'=>hc e.on o' ho' h1 e' he' hb') hk'
structure Rec where
 v:V
 hp:Hp
 nx:Nat
 kd:Nat
 nw:Hp
 tg:Option Nat
def jaN:Op→Bool
 | .load _ _=>true
 | .binOp _ _ _ y _=>jjs y
 |_=>false
def loadAt (op:Op) (rd:Operand→Option V):Option Nat :=
 match op with
 | .load _ x=>match rd x with
  |some (.w (.c (.p h _ _ _)))=>some h
  |_=>none
 | .binOp _ _ x _ _=>match rd x with
  |some (.w (.c (.o h)))=>some h
  |_=>none
 |_=>none
def storeAt (op:Op) (rd:Operand→Option V):Option Nat :=
 match op with
 | .store _ x _=>match rd x with
  |some (.w (.c (.p h _ _ _)))=>some h
  |_=>none
 | .call c=>match c.callee,c.args.toList with
  | .builtin .append,[s,_]=>match rd s with
   |some (.w (.c (.o h)))=>some h
   |some (.w (.c (.d (.v (.slice none 0 0)))))=>some 1000000007
   |_=>none
  |_,_=>none
 |_=>none
def jd2:Option O→Bool
 |some (.box _ _)=>true
 |some (.row _ _)=>true
 |some (.ext _)=>true
 |some (.ebox _)=>true
 |some (.arr _ _ _ _)=>true
 |some (.xext _)=>true
 |_=>false
def jck (L:List Oper) (j:Nat):Option Nat:=(L[j]?).bind (·.dst)
def jaP (st0:St):List Rec→Hp
 |[]=>st0.hp
 |r::_=>r.hp
def jaf (st0:St):List Rec→Nat
 |[]=>st0.nx
 |r::_=>r.nx
def jcz (L:List Oper) (bef:List Nat) (st0:St) (t:Nat):List Rec→Option V
 |[]=>jbg st0.tm t
 |r::tr=>match jck L tr.length with
  |some d=>if d=t then(match bef.contains tr.length with|true=>some r.v|false=>none)else jcz L bef st0 t tr
  |none=>jcz L bef st0 t tr
def jbJ [Globs] (L:List Oper) (nm:List Nat) (bef:List Nat) (st0:St) (tr:List Rec):Operand→Option V
 | .tmp t=>match nm.contains t with
  |true=>jcz L bef st0 t tr
  |false=>none
 |x=>jdE st0 x
def jaE (q:Nat→Bool) (st0:St):List Rec→Nat→Bool
 |[],_=>true
 |_::tr,h=>match Nat.ble (jaf st0 tr) h with
  |true=>q tr.length
  |false=>jaE q st0 tr h
def jhB (bef:List Nat) (st0:St) (tr:List Rec):Hp:=(jaP st0 tr).filter fun x=>jaE (fun j=>bef.contains j) st0 tr x.1
def jpx:Op→Bool
 | .build _ _=>true
 |_=>false
def jbQ (st0:St):List Rec→Nat→Bool
 |[],h=>C.one st0.hp (.o h)
 |r::tr,h=>match Nat.ble (jaf st0 tr) h with
  |true=>C.one r.hp (.o h)
  |false=>jbQ st0 tr h
def jhC (bef:List Nat) (st0:St) (tr:List Rec):Hp:=((jaP st0 tr).filter fun x=>jaE (fun j=>bef.contains j) st0 tr x.1&&jbQ st0 tr x.1).map fun x=>(x.1,O.atom)
def C.allB (p:Nat→Bool):C→Bool
 | .d _=>true
 | .p h _ _ _=>p h
 | .o h=>p h
 | .fn _ hs=>hs.all p
 | .fb _ hs=>hs.all p
 | .g _ _ _ _=>true
def W.allB (p:Nat→Bool):W→Bool
 | .c x=>x.allB p
 | .a l=>l.all (C.allB p)
 | .b _ _ _=>true
def V.allB (p:Nat→Bool):V→Bool
 | .w x=>x.allB p
 | .t l=>l.all (W.allB p)
def O.allB (p:Nat→Bool):O→Bool
 | .box _ cs=>cs.all (C.allB p)
 | .view r _ _=>p r
 | .ebox cs=>cs.all (C.allB p)
 |_=>true
def jbK (bef:List Nat) (st0:St) (tr:List Rec) (v:V) (hp:Hp) (nx:Nat):Bool :=
 Nat.ble (jaf st0 tr) nx&&v.allB (fun h=>Nat.blt h nx&&(Nat.ble (jaf st0 tr) h||jaE (fun j=>bef.contains j) st0 tr h)) &&
  hp.all (fun x=>Nat.blt x.1 nx&&x.2.allB fun h=>Nat.blt h nx&&(Nat.ble (jaf st0 tr) h||jaE (fun j=>bef.contains j) st0 tr h))
def jds (n:Nat) (hp:Hp):Hp:=hp.filter fun x=>Nat.ble n x.1
def jaJ:Op→Bool
 | .binOp _ _ _ y _=>!(jjs y)
 | .move _ | .assign _ | .pick _ _ _ | .unOp _ _ _ | .extract _ _ | .field _ _ _ | .fieldAddr _ _ _ | .nilCheck _ | .convert _ _ _ | .build _ _=>true
 |_=>false
def jdj (tab:List (List Nat)) (i:Nat) (lf:Bool):Nat→List Oper→Bool
 |_,[]=>true
 |j,o::r=>(Nat.beq j i||jaJ o.op||(tab.getD i []).contains j||(tab.getD j []).contains i||(lf&&jaN o.op))&&jdj tab i lf (j+1) r
def jaM (L:List Oper) (o:Oper):List Nat :=
 o.dst.toList++(o.op.operands.toList.filterMap fun | .tmp t=>some t|_=>none)++(match o.guard with|some (g,_)=>(jck L g).toList|none=>[])
def jfI (L:List Oper) (tab:List (List Nat)) (j t:Nat):Nat→List Oper→Bool
 |_,[]=>true
 |i,o::r=>(!(Nat.blt i j)||!((jaM L o).contains t)||(tab.getD j []).contains i)&&jfI L tab j t (i+1) r
def jcA (L:List Oper) (tab:List (List Nat)):Nat→List Oper→Bool
 |_,[]=>true
 |j,o::r=>(match o.dst with|some t=>jfI L tab j t 0 L|none=>true)&&jcA L tab (j+1) r
def obT (t:Bool) (ob k:Prop):Prop:=match t with
 |true=>k
 |false=>Ob ob∧k
def jdM [Globs] (L:List Oper) (tab:List (List Nat)) (st0:St) (bef:List Nat) (h:Nat):List Rec→Bool
 |[]=>true
 |_::tr=>(match L[tr.length]? with
  |none=>false
  |some o=>match jaN o.op with
   |false=>true
   |true=>bef.contains tr.length||match loadAt o.op (jbJ L (jaM L o) (tab.getD tr.length []) st0 tr)with
    |none=>false
    |some x=>!(Nat.beq x h)&&jd2 (find (jaP st0 tr) x))&&jdM L tab st0 bef h tr
def jd3 (st0:St) (bef:List Nat) (h:Nat):List Rec→Bool
 |[]=>true
 |r::tr=>(!(Nat.beq r.kd 2)||bef.contains tr.length||match r.tg with
  |none=>false
  |some t=>!(Nat.beq t h)&&jd2 (find (jaP st0 tr) h))&&jd3 st0 bef h tr
def jdN [Globs] (L:List Oper) (tab:List (List Nat)) (st0:St) (o:Oper) (tr:List Rec):Option Nat :=
 match storeAt o.op (jbJ L (jaM L o) (tab.getD tr.length []) st0 tr)with
 |some h=>match jdM L tab st0 (tab.getD tr.length []) h tr with
  |true=>some h
  |false=>none
 |none=>none
def dop [Globs] (P:Program) (sp:jab) (N:Nat) (L:List Oper) (tab:List (List Nat)) (st0:St) (o:Oper) (tr:List Rec) (k:Rec→Prop):Prop :=
 match jdv N o.dst with
 |false=>False
 |true =>
  match jbY P o.op (jbJ L (jaM L o) (tab.getD tr.length []) st0 tr) []with
  |some (ob,v)=>match jbK (tab.getD tr.length []) st0 tr v [] (jaf st0 tr)with
   |true=>obT (jcu o.op (jbJ L (jaM L o) (tab.getD tr.length []) st0 tr) []) ob (k ⟨v,jaP st0 tr,jaf st0 tr,0,[],none⟩)
   |false=>False
  |none =>
   match jaJ o.op with
   |true=>match jpx o.op with
    |true=>match jbY P o.op (jbJ L (jaM L o) (tab.getD tr.length []) st0 tr) (jhC (tab.getD tr.length []) st0 tr)with
     |some (ob,v)=>match jbK (tab.getD tr.length []) st0 tr v [] (jaf st0 tr)with
      |true=>obT (jcu o.op (jbJ L (jaM L o) (tab.getD tr.length []) st0 tr) (jhC (tab.getD tr.length []) st0 tr)) ob (k ⟨v,jaP st0 tr,jaf st0 tr,0,[],none⟩)
      |false=>False
     |none=>False
    |false=>False
   |false =>
    match jaN o.op with
    |true=>match loadAt o.op (jbJ L (jaM L o) (tab.getD tr.length []) st0 tr)with
     |none=>False
     |some h=>match find (jaP st0 tr) h with
      |none=>False
      |some x=>match jaE (fun j=>(tab.getD tr.length []).contains j) st0 tr h&&jd3 st0 (tab.getD tr.length []) h tr with
       |false=>False
       |true=>match jbY P o.op (jbJ L (jaM L o) (tab.getD tr.length []) st0 tr) [(h,x)]with
        |none=>False
        |some (ob,v)=>match jbK (tab.getD tr.length []) st0 tr v [] (jaf st0 tr)with
         |true=>obT (jcu o.op (jbJ L (jaM L o) (tab.getD tr.length []) st0 tr) [(h,x)]) ob (k ⟨v,jaP st0 tr,jaf st0 tr,0,[],none⟩)
         |false=>False
    |false =>
    match jaS sp o.op (jbJ L (jaM L o) (tab.getD tr.length []) st0 tr)with
    |true=>match jcX P sp o.op (jbJ L (jaM L o) (tab.getD tr.length []) st0 tr) (jhB (tab.getD tr.length []) st0 tr) (jaf st0 tr)with
     |some res=>match jbK (tab.getD tr.length []) st0 tr res.v (jds (jaf st0 tr) res.hp) res.nx with
      |true=>obT (jcu o.op (jbJ L (jaM L o) (tab.getD tr.length []) st0 tr) (jhB (tab.getD tr.length []) st0 tr)) res.ob (k ⟨res.v,jds (jaf st0 tr) res.hp++jaP st0 tr,res.nx,1,jds (jaf st0 tr) res.hp,none⟩)
      |false=>False
     |none=>False
    |false=>match jdj tab tr.length ((jdN L tab st0 o tr).isSome) 0 L with
     |false=>False
     |true=>match jcX P sp o.op (jbJ L (jaM L o) (tab.getD tr.length []) st0 tr) (jaP st0 tr) (jaf st0 tr)with
      |some res=>match jbK (tab.getD tr.length []) st0 tr res.v res.hp res.nx with
       |true=>obT (jcu o.op (jbJ L (jaM L o) (tab.getD tr.length []) st0 tr) (jaP st0 tr)) res.ob (k ⟨res.v,res.hp,res.nx,2,[],jdN L tab st0 o tr⟩)
       |false=>False
      |none=>False
def jnj (N:Nat) (st0:St) (o:Oper) (tr:List Rec) (k:Rec→Prop):Prop :=
 match jdv N o.dst with
 |false=>False
 |true=>k ⟨vu,jaP st0 tr,jaf st0 tr,0,[],none⟩
def jdk (L:List Oper) (t:Nat) (v:V):List Rec→List Rec
 |[]=>[]
 |r::tr=>match jck L tr.length with
  |some d=>if d=t then { r with v:=v } :: tr else r::jdk L t v tr
  |none=>r::jdk L t v tr
def jg5 [Globs] (P:Program) (sp:jab) (N:Nat) (L:List Oper) (tab:List (List Nat)) (st0:St):List Oper→List Rec→(List Rec→Prop)→Prop
 |[],tr,k=>k tr
 |o::rest,tr,k =>
  match o.guard with
  |none=>dop P sp N L tab st0 o tr fun r=>jg5 P sp N L tab st0 rest (r::tr) k
  |some (g,want) =>
   match jck L g with
   |none=>False
   |some t =>
    match jcz L (tab.getD tr.length []) st0 t tr with
    |some (.w (.c (.d (.b b)))) =>
     Br b
      (match want with
       |true=>dop P sp N L tab st0 o (jdk L t (vb true) tr) fun r=>jg5 P sp N L tab st0 rest (r::jdk L t (vb true) tr) k
       |false=>jnj N st0 o (jdk L t (vb true) tr) fun r=>jg5 P sp N L tab st0 rest (r::jdk L t (vb true) tr) k)
      (match want with
       |true=>jnj N st0 o (jdk L t (vb false) tr) fun r=>jg5 P sp N L tab st0 rest (r::jdk L t (vb false) tr) k
       |false=>dop P sp N L tab st0 o (jdk L t (vb false) tr) fun r=>jg5 P sp N L tab st0 rest (r::jdk L t (vb false) tr) k)
    |some (.w (.c (.d (.v (.tuple _)))))=>jnj N st0 o tr fun r=>jg5 P sp N L tab st0 rest (r::tr) k
    |_=>False
def jrz (L:List Oper) (st0:St):List Rec→List (Nat × V)
 |[]=>st0.tm
 |r::tr=>match jck L tr.length with
  |some d=>(d,r.v)::jrz L st0 tr
  |none=>jrz L st0 tr
def jy8 (L:List Oper) (st0:St) (tr:List Rec):St:=⟨jrz L st0 tr,jaP st0 tr,jaf st0 tr⟩
def jdO:Nat→List Oper→Bool
 |_,[]=>true
 |i,o::r=>(o.after.toList.all fun e=>!(Region.binds .any e)||Nat.blt e.on i)&&jdO (i+1) r
def jnk [Globs] (P:Program) (sp:jab) (N:Nat) (ops:Array Oper) (st:St) (k:St→Prop):Prop :=
 match jcA ops.toList (jjI ops.toList []) 0 ops.toList&&jdO 0 ops.toList with
 |true=>jg5 P sp N ops.toList (jjI ops.toList []) st ops.toList [] fun tr=>k (jy8 ops.toList st tr)
 |false=>False
end Go.Sx
end

section
open Go.RowKit
namespace Go.Sx
section
variable [Globs] {P:Program} {sp:jab} {B:Bd} {N n0:Nat} {L:List Oper} {tab:List (List Nat)} {st0:St} {ρ0:Env} {w0:World}
def jbv (L:List Oper) (tab:List (List Nat)) (st0:St) (o:Oper) (tr:List Rec) (b:Bool):Prop :=
 match o.guard with
 |none=>b=true
 |some (g,want)=>∃t v,jck L g=some t∧jcz L (tab.getD tr.length []) st0 t tr=some v∧((∃c,v=vb c∧(c==want)=b)∨((∃l,v=.w (.c (.d (.v (.tuple l)))))∧b=false))
inductive Kind [Globs] (P:Program) (sp:jab) (L:List Oper) (tab:List (List Nat)) (st0:St) (o:Oper) (tr:List Rec) (r:Rec):Prop where
 |skip (g:jbv L tab st0 o tr false) (h:r=⟨vu,jaP st0 tr,jaf st0 tr,0,[],none⟩)
 |pure (g:jbv L tab st0 o tr true) (ob:Prop) (hs:jbY P o.op (jbJ L (jaM L o) (tab.getD tr.length []) st0 tr) []=some (ob,r.v)) (ho:ob) (hk:jbK (tab.getD tr.length []) st0 tr r.v [] (jaf st0 tr)=true) (h:r=⟨r.v,jaP st0 tr,jaf st0 tr,0,[],none⟩)
 |built (g:jbv L tab st0 o tr true) (hb:jpx o.op=true) (ob:Prop) (hs:jbY P o.op (jbJ L (jaM L o) (tab.getD tr.length []) st0 tr) (jhC (tab.getD tr.length []) st0 tr)=some (ob,r.v)) (ho:ob) (hk:jbK (tab.getD tr.length []) st0 tr r.v [] (jaf st0 tr)=true) (h:r=⟨r.v,jaP st0 tr,jaf st0 tr,0,[],none⟩)
 |load (g:jbv L tab st0 o tr true) (hp:jaJ o.op=false) (hl:jaN o.op=true) (x:Nat) (xo:O) (hx:loadAt o.op (jbJ L (jaM L o) (tab.getD tr.length []) st0 tr)=some x) (hf:find (jaP st0 tr) x=some xo)
   (hb:jaE (fun j=>(tab.getD tr.length []).contains j) st0 tr x=true) (hst:jd3 st0 (tab.getD tr.length []) x tr=true) (ob:Prop)
   (hs:jbY P o.op (jbJ L (jaM L o) (tab.getD tr.length []) st0 tr) [(x,xo)]=some (ob,r.v)) (ho:ob) (hk:jbK (tab.getD tr.length []) st0 tr r.v [] (jaf st0 tr)=true) (h:r=⟨r.v,jaP st0 tr,jaf st0 tr,0,[],none⟩)
 |mono (g:jbv L tab st0 o tr true) (hp:jaJ o.op=false) (hl:jaN o.op=false) (hm:jaS sp o.op (jbJ L (jaM L o) (tab.getD tr.length []) st0 tr)=true) (res:Res)
   (hs:jcX P sp o.op (jbJ L (jaM L o) (tab.getD tr.length []) st0 tr) (jhB (tab.getD tr.length []) st0 tr) (jaf st0 tr)=some res) (ho:res.ob)
   (hk:jbK (tab.getD tr.length []) st0 tr res.v (jds (jaf st0 tr) res.hp) res.nx=true)
   (h:r=⟨res.v,jds (jaf st0 tr) res.hp++jaP st0 tr,res.nx,1,jds (jaf st0 tr) res.hp,none⟩)
 |effect (g:jbv L tab st0 o tr true) (hp:jaJ o.op=false) (hl:jaN o.op=false) (hf:jdj tab tr.length ((jdN L tab st0 o tr).isSome) 0 L=true) (res:Res)
   (hs:jcX P sp o.op (jbJ L (jaM L o) (tab.getD tr.length []) st0 tr) (jaP st0 tr) (jaf st0 tr)=some res) (ho:res.ob)
   (hk:jbK (tab.getD tr.length []) st0 tr res.v res.hp res.nx=true) (h:r=⟨res.v,res.hp,res.nx,2,[],jdN L tab st0 o tr⟩)
structure RecOK [Globs] (P:Program) (sp:jab) (N:Nat) (L:List Oper) (tab:List (List Nat)) (st0:St) (tr:List Rec) (r:Rec) (o:Oper):Prop where
 op:L[tr.length]?=some o
 dst:jdv N o.dst=true
 kind:Kind P sp L tab st0 o tr r
inductive GoodTr [Globs] (P:Program) (sp:jab) (N:Nat) (L:List Oper) (tab:List (List Nat)) (st0:St):List Rec→Prop where
 |nil:GoodTr P sp N L tab st0 []
 |cons {tr:List Rec} {r:Rec} (h:GoodTr P sp N L tab st0 tr) (o:Oper) (hr:RecOK P sp N L tab st0 tr r o):GoodTr P sp N L tab st0 (r::tr)
theorem jf5 {t:Bool} {ob k:Prop} (h:obT t ob k) (ht:t=true→ob):ob∧k:=by
 cases t
 ·exact⟨h.1.h,h.2⟩
 ·exact⟨ht rfl,h⟩
theorem jl9 {op:Op} {rd:Operand→Option V} {hp:Hp} {ob:Prop} {v:V} (ht:jcu op rd hp=true) (h:jbY P op rd hp=some (ob,v)):ob :=
 jk2 (sp:=fun _=>none) (nx:=0) (r:=⟨ob,v,hp,0⟩) (P:=P) ht (by unfold jcX; rw[h])
theorem jh9 {bef:List Nat} {t:Nat} {v:V}:∀{tr:List Rec},jcz L bef st0 t tr=some v→jdk L t v tr=tr
 |[],_=>rfl
 |r::tr,h=>by
  simp only[jcz]at h
  simp only[jdk]
  cases hd:jck L tr.length with
  |none =>
   simp only[hd]at h
   rw[jh9 h]
  |some d =>
   simp only[hd]at h ⊢
   split at h
   ·rename_i e
    rw[if_pos e]
    split at h
    ·cases h; rfl
    ·cases h
   ·rename_i e
    rw[if_neg e,jh9 h]
theorem jma {o:Oper} {tr:List Rec} {k:Rec→Prop} (h:dop P sp N L tab st0 o tr k) (hg:jbv L tab st0 o tr true) (hL:L[tr.length]?=some o):∃r,k r∧RecOK P sp N L tab st0 tr r o:=by
 unfold dop at h
 split at h
 ·exact h.elim
 ·rename_i hd
  split at h
  ·rename_i ob v hs
   split at h
   ·rename_i hok
    obtain⟨ho,hk⟩:=jf5 h (fun ht=>jl9 ht hs)
    exact⟨_,hk,hL,hd,.pure hg ob hs ho hok rfl⟩
   ·exact h.elim
  ·split at h
   ·split at h
    ·rename_i hbo
     split at h
     ·rename_i ob v hs
      split at h
      ·rename_i hok
       obtain⟨ho,hk⟩:=jf5 h (fun ht=>jl9 ht hs)
       exact⟨_,hk,hL,hd,.built hg hbo ob hs ho hok rfl⟩
      ·exact h.elim
     ·exact h.elim
    ·exact h.elim
   ·rename_i hsp
    split at h
    ·rename_i hl
     split at h
     ·exact h.elim
     ·rename_i x hx
      split at h
      ·exact h.elim
      ·rename_i xo hf
       split at h
       ·exact h.elim
       ·rename_i hbs
        split at h
        ·exact h.elim
        ·rename_i ob v hs
         split at h
         ·rename_i hok
          obtain⟨ho,hk⟩:=jf5 h (fun ht=>jl9 ht hs)
          simp only[Bool.and_eq_true]at hbs
          exact⟨_,hk,hL,hd,.load hg hsp hl x xo hx hf hbs.1 hbs.2 ob hs ho hok rfl⟩
         ·exact h.elim
    ·rename_i hl
     split at h
     ·rename_i hm
      split at h
      ·rename_i res hs
       split at h
       ·rename_i hok
        obtain⟨ho,hk⟩:=jf5 h (fun ht=>jk2 ht hs)
        exact⟨_,hk,hL,hd,.mono hg hsp hl hm res hs ho hok rfl⟩
       ·exact h.elim
      ·exact h.elim
     ·split at h
      ·exact h.elim
      ·rename_i hf
       split at h
       ·rename_i res hs
        split at h
        ·rename_i hok
         obtain⟨ho,hk⟩:=jf5 h (fun ht=>jk2 ht hs)
         exact⟨_,hk,hL,hd,.effect hg hsp hl hf res hs ho hok rfl⟩
        ·exact h.elim
       ·exact h.elim
theorem jia {o:Oper} {tr:List Rec} {k:Rec→Prop} (h:jnj N st0 o tr k) (hg:jbv L tab st0 o tr false) (hL:L[tr.length]?=some o):∃r,k r∧RecOK P sp N L tab st0 tr r o:=by
 unfold jnj at h
 split at h
 ·exact h.elim
 ·rename_i hd
  exact⟨_,h,hL,hd,.skip hg rfl⟩
theorem jpy:∀(rest:List Oper) (tr:List Rec) (k:List Rec→Prop),jg5 P sp N L tab st0 rest tr k→GoodTr P sp N L tab st0 tr→L=L.take tr.length++rest→tr.length+rest.length=L.length →
  ∃T,k T∧GoodTr P sp N L tab st0 T∧T.length=L.length
 |[],tr,k,h,hg,_,hlen=>⟨tr,h,hg,by simpa using hlen⟩
 |o::rest,tr,k,h,hg,hL,hlen=>by
  have hlt:tr.length<L.length:=by simp at hlen; omega
  have ho:L[tr.length]?=some o:=by
   rw[hL,List.getElem?_append_right (by simp; omega)]
   simp[Nat.min_eq_left (Nat.le_of_lt hlt)]
  have next:∀r,jg5 P sp N L tab st0 rest (r::tr) k→RecOK P sp N L tab st0 tr r o→∃T,k T∧GoodTr P sp N L tab st0 T∧T.length=L.length:=by
   intro r hr hok
   refine jpy rest (r::tr) k hr (.cons hg o hok) ?_ (by simp at hlen ⊢; omega)
   have h1:L.take (tr.length+1)=L.take tr.length++[o]:=by
    rw[List.take_succ_eq_append_getElem hlt]
    congr 2
    have:=List.getElem?_eq_getElem hlt
    rw[this]at ho
    exact Option.some.inj ho
   simp only[List.length_cons,h1,List.append_assoc,List.singleton_append]
   exact hL
  unfold jg5 at h
  split at h
  ·rename_i hgd
   obtain⟨r,hk,hok⟩:=jma h (by unfold jbv; rw[hgd]) ho
   exact next r hk hok
  ·rename_i g want hgd
   split at h
   ·exact h.elim
   ·rename_i t hdt
    split at h
    ·rename_i b hsl
     have hset:∀c,b=c→jdk L t (vb c) tr=tr:=fun c e=>jh9 (by rw[hsl,e]; rfl)
     have says:∀c d,b=c→(c==want)=d→jbv L tab st0 o tr d:=fun c d e e2=>by
      unfold jbv
      rw[hgd]
      exact⟨t,_,hdt,hsl,.inl ⟨b,rfl,by rw[e]; exact e2⟩⟩
     cases b<;>cases want<;>simp only[Br,hset _ rfl]at h
     ·obtain⟨r,hk,hok⟩:=jma h (says false true rfl rfl) ho
      exact next r hk hok
     ·obtain⟨r,hk,hok⟩:=jia (P:=P) (sp:=sp) h (says false false rfl rfl) ho
      exact next r hk hok
     ·obtain⟨r,hk,hok⟩:=jia (P:=P) (sp:=sp) h (says true false rfl rfl) ho
      exact next r hk hok
     ·obtain⟨r,hk,hok⟩:=jma h (says true true rfl rfl) ho
      exact next r hk hok
    ·rename_i l hsl
     obtain⟨r,hk,hok⟩:=jia (P:=P) (sp:=sp) h (by unfold jbv; rw[hgd]; exact⟨t,_,hdt,hsl,.inr ⟨⟨l,rfl⟩,rfl⟩⟩) ho
     exact next r hk hok
    ·exact h.elim
def jbG (L:List Oper) (D:Nat→Bool) (st0:St) (t:Nat):List Rec→Option V
 |[]=>jbg st0.tm t
 |r::tr=>if jck L tr.length=some t∧D tr.length=true then some r.v else jbG L D st0 t tr
def jaK (D:Nat→Bool) (st0:St):List Rec→Hp
 |[]=>st0.hp
 |r::tr=>if D tr.length=true then(if r.kd=2 then r.hp else r.nw++jaK D st0 tr)else jaK D st0 tr
theorem jaI {a b:Hp} {h:Nat}:find (a++b) h=(find a h).or (find b h):=by
 induction a with
 |nil=>rfl
 |cons p r ih =>
  obtain⟨k,o⟩:=p
  simp only[List.cons_append,find]
  split
  ·rfl
  ·exact ih
theorem jg6 {hp:Hp} {p:Nat→Bool} {h:Nat}:find (hp.filter fun x=>p x.1) h=if p h=true then find hp h else none:=by
 induction hp with
 |nil=>simp[find]
 |cons x r ih =>
  obtain⟨k,o⟩:=x
  simp only[List.filter_cons,find]
  by_cases hk:p k=true
  ·rw[if_pos hk]
   simp only[find]
   by_cases e:k=h
   ·subst e; simp[hk]
   ·rw[if_neg e,if_neg e]; exact ih
  ·rw[if_neg hk]
   by_cases e:k=h
   ·subst e; rw[ih]; simp[hk]
   ·rw[if_neg e]; exact ih
end
end Go.Sx
end

section
open Go.RowKit
namespace Go.Sx
theorem C.val_eqB {p:Nat→Bool} {ρ ρ':Env} (hρ:∀h,p h=true→ρ' h=ρ h):∀{x:C},x.allB p=true→x.val ρ'=x.val ρ
 | .d _,_=>rfl
 | .p h _ _ _,hx=>by have hx:p h=true:=hx; simp only[C.val,hρ h hx]
 | .o h,hx=>hρ h hx
 | .fn _ hs,hx=>by
  simp only[C.val]
  congr 2
  exact List.map_congr_left fun a ha=>hρ a (List.all_eq_true.1 hx a ha)
 | .g _ _ _ _,_=>rfl
 | .fb _ hs,hx=>by
  simp only[C.val]
  congr 2
  exact List.map_congr_left fun a ha=>hρ a (List.all_eq_true.1 hx a ha)
theorem W.val_eqB {p:Nat→Bool} {ρ ρ':Env} (hρ:∀h,p h=true→ρ' h=ρ h):∀{x:W},x.allB p=true→x.val ρ'=x.val ρ
 | .c _,hx=>C.val_eqB hρ hx
 | .a l,hx=>by
  simp only[W.val]
  congr 2
  exact List.map_congr_left fun a ha=>C.val_eqB hρ (List.all_eq_true.1 hx a ha)
 | .b _ _ _,_=>rfl
theorem V.val_eqB {p:Nat→Bool} {ρ ρ':Env} (hρ:∀h,p h=true→ρ' h=ρ h):∀{x:V},x.allB p=true→x.val ρ'=x.val ρ
 | .w _,hx=>W.val_eqB hρ hx
 | .t l,hx=>by
  simp only[V.val]
  congr 2
  exact List.map_congr_left fun a ha=>W.val_eqB hρ (List.all_eq_true.1 hx a ha)
theorem C.allB_mono {p q:Nat→Bool} (h:∀x,p x=true→q x=true):∀{x:C},x.allB p=true→x.allB q=true
 | .d _,_=>rfl
 | .p _ _ _ _,hx=>h _ hx
 | .o _,hx=>h _ hx
 | .fn _ _,hx=>List.all_eq_true.2 fun a ha=>h a (List.all_eq_true.1 hx a ha)
 | .fb _ _,hx=>List.all_eq_true.2 fun a ha=>h a (List.all_eq_true.1 hx a ha)
 | .g _ _ _ _,_=>rfl
theorem W.allB_mono {p q:Nat→Bool} (h:∀x,p x=true→q x=true):∀{x:W},x.allB p=true→x.allB q=true
 | .c _,hx=>C.allB_mono h hx
 | .a _,hx=>List.all_eq_true.2 fun a ha=>C.allB_mono h (List.all_eq_true.1 hx a ha)
 | .b _ _ _,_=>rfl
theorem V.allB_mono {p q:Nat→Bool} (h:∀x,p x=true→q x=true):∀{x:V},x.allB p=true→x.allB q=true
 | .w _,hx=>W.allB_mono h hx
 | .t _,hx=>List.all_eq_true.2 fun a ha=>W.allB_mono h (List.all_eq_true.1 hx a ha)
theorem O.allB_mono {p q:Nat→Bool} (h:∀x,p x=true→q x=true):∀{x:O},x.allB p=true→x.allB q=true
 | .box _ _,hx=>List.all_eq_true.2 fun a ha=>C.allB_mono h (List.all_eq_true.1 hx a ha)
 | .view _ _ _,hx=>h _ hx
 | .row _ _,_=>rfl
 | .ext _,_=>rfl
 | .dead,_=>rfl
 | .nan _,_=>rfl
 | .err,_=>rfl
 | .atom,_=>rfl
 | .ebox _,hx=>List.all_eq_true.2 fun a ha=>C.allB_mono h (List.all_eq_true.1 hx a ha)
 | .arr _ _ _ _,_=>rfl
 | .xext _,_=>rfl
 | .map _,_=>rfl
 | .rrow _,_=>rfl
theorem C.lt_of_allB {n:Nat} {p:Nat→Bool} (h:∀x,p x=true→x<n):∀{x:C},x.allB p=true→x.lt n
 | .d _,_=>trivial
 | .p _ _ _ _,hx=>h _ hx
 | .o _,hx=>h _ hx
 | .fn _ _,hx=>fun a ha=>h a (List.all_eq_true.1 hx a ha)
 | .fb _ _,hx=>fun a ha=>h a (List.all_eq_true.1 hx a ha)
 | .g _ _ _ _,_=>trivial
theorem W.lt_of_allB {n:Nat} {p:Nat→Bool} (h:∀x,p x=true→x<n):∀{x:W},x.allB p=true→x.lt n
 | .c _,hx=>C.lt_of_allB h hx
 | .a _,hx=>fun a ha=>C.lt_of_allB h (List.all_eq_true.1 hx a ha)
 | .b _ _ _,_=>trivial
theorem V.lt_of_allB {n:Nat} {p:Nat→Bool} (h:∀x,p x=true→x<n):∀{x:V},x.allB p=true→x.lt n
 | .w _,hx=>W.lt_of_allB h hx
 | .t _,hx=>fun a ha=>W.lt_of_allB h (List.all_eq_true.1 hx a ha)
theorem O.lt_of_allB {n:Nat} {p:Nat→Bool} (h:∀x,p x=true→x<n):∀{x:O},x.allB p=true→x.lt n
 | .box _ _,hx=>fun a ha=>C.lt_of_allB h (List.all_eq_true.1 hx a ha)
 | .view _ _ _,hx=>h _ hx
 | .row _ _,_=>trivial
 | .ext _,_=>trivial
 | .dead,_=>trivial
 | .nan _,_=>trivial
 | .err,_=>trivial
 | .atom,_=>trivial
 | .ebox _,hx=>fun a ha=>C.lt_of_allB h (List.all_eq_true.1 hx a ha)
 | .arr _ _ _ _,_=>trivial
 | .xext _,_=>trivial
 | .map _,_=>trivial
 | .rrow _,_=>trivial
theorem C.allB_of_lt {n:Nat} {p:Nat→Bool} (h:∀x,x<n→p x=true):∀{x:C},x.lt n→x.allB p=true
 | .d _,_=>rfl
 | .p _ _ _ _,hx=>h _ hx
 | .o _,hx=>h _ hx
 | .fn _ _,hx=>List.all_eq_true.2 fun a ha=>h a (hx a ha)
 | .fb _ _,hx=>List.all_eq_true.2 fun a ha=>h a (hx a ha)
 | .g _ _ _ _,_=>rfl
theorem W.allB_of_lt {n:Nat} {p:Nat→Bool} (h:∀x,x<n→p x=true):∀{x:W},x.lt n→x.allB p=true
 | .c _,hx=>C.allB_of_lt h hx
 | .a _,hx=>List.all_eq_true.2 fun a ha=>C.allB_of_lt h (hx a ha)
 | .b _ _ _,_=>rfl
theorem V.allB_of_lt {n:Nat} {p:Nat→Bool} (h:∀x,x<n→p x=true):∀{x:V},x.lt n→x.allB p=true
 | .w _,hx=>W.allB_of_lt h hx
 | .t _,hx=>List.all_eq_true.2 fun a ha=>W.allB_of_lt h (hx a ha)
theorem O.allB_of_lt {n:Nat} {p:Nat→Bool} (h:∀x,x<n→p x=true):∀{x:O},x.lt n→x.allB p=true
 | .box _ _,hx=>List.all_eq_true.2 fun a ha=>C.allB_of_lt h (hx a ha)
 | .view _ _ _,hx=>h _ hx
 | .row _ _,_=>rfl
 | .ext _,_=>rfl
 | .dead,_=>rfl
 | .nan _,_=>rfl
 | .err,_=>rfl
 | .atom,_=>rfl
 | .ebox _,hx=>List.all_eq_true.2 fun a ha=>C.allB_of_lt h (hx a ha)
 | .arr _ _ _ _,_=>rfl
 | .xext _,_=>rfl
 | .map _,_=>rfl
 | .rrow _,_=>rfl
section
variable [Globs] {P:Program} {sp:jab} {B:Bd} {N n0:Nat} {L:List Oper} {tab:List (List Nat)} {st0:St} {ρ0:Env} {w0:World} {ds:List Deferred}
theorem RecOK.nx_le {tr:List Rec} {r:Rec} {o:Oper} (h:RecOK P sp N L tab st0 tr r o):jaf st0 tr≤r.nx:=by
 cases h.kind with
 |skip g e=>rw[e]; exact Nat.le_refl _
 |pure g ob hs ho hk e=>rw[e]; exact Nat.le_refl _
 |built g hb ob hs ho hk e=>rw[e]; exact Nat.le_refl _
 |load g hp hl x xo hx hf hb hst ob hs ho hk e=>rw[e]; exact Nat.le_refl _
 |mono g hp hl hm res hs ho hk e =>
  simp only[jbK,Bool.and_eq_true,Nat.ble_eq]at hk
  rw[e]; exact hk.1.1
 |effect g hp hl hf res hs ho hk e =>
  simp only[jbK,Bool.and_eq_true,Nat.ble_eq]at hk
  rw[e]; exact hk.1.1
theorem GoodTr.tail {later tr:List Rec} (h:GoodTr P sp N L tab st0 (later++tr)):GoodTr P sp N L tab st0 tr:=by
 induction later with
 |nil=>exact h
 |cons r l ih=>cases h with|cons h' o hr=>exact ih h'
theorem jdF {later tr:List Rec} (h:GoodTr P sp N L tab st0 (later++tr)):jaf st0 tr≤jaf st0 (later++tr):=by
 induction later with
 |nil=>exact Nat.le_refl _
 |cons r l ih=>cases h with|cons h' o hr=>exact Nat.le_trans (ih h') hr.nx_le
theorem jk4 {tr:List Rec} (h:GoodTr P sp N L tab st0 tr):st0.nx≤jaf st0 tr:=by
 have:=jdF (later:=tr) (tr:=[]) (by rw[List.append_nil]; exact h)
 rw[List.append_nil]at this
 exact this
theorem jzt {T:List Rec} (h:GoodTr P sp N L tab st0 T) {i:Nat} (hi:i<T.length):∃later r tr o,T=later++r::tr∧tr.length=i∧RecOK P sp N L tab st0 tr r o:=by
 induction h with
 |nil=>simp at hi
 | @cons tr r h o hr ih =>
  by_cases he:i=tr.length
  ·exact⟨[],r,tr,o,rfl,he.symm,hr⟩
  ·obtain⟨later,r',tr',o',h1,h2,h3⟩:=ih (by simp at hi; omega)
   exact⟨r::later,r',tr',o',by simp[h1],h2,h3⟩
theorem jib {q:Nat→Bool} {later tr:List Rec} {h:Nat} (hg:GoodTr P sp N L tab st0 (later++tr)) (hh:h<jaf st0 tr):jaE q st0 (later++tr) h=jaE q st0 tr h:=by
 induction later with
 |nil=>rfl
 |cons r l ih =>
  cases hg with
  |cons h' o hr =>
   have h1:=jdF h'
   simp only[List.cons_append,jaE]
   have:Nat.ble (jaf st0 (l++tr)) h=false:=by
    rw[Bool.eq_false_iff]
    intro hc
    rw[Nat.ble_eq]at hc
    omega
   rw[this]
   exact ih h'
theorem jtT {q:Nat→Bool} {later tr:List Rec} {r:Rec} {h:Nat} (hg:GoodTr P sp N L tab st0 (later++r::tr)) (h1:jaf st0 tr≤h) (h2:h<r.nx):jaE q st0 (later++r::tr) h=q tr.length:=by
 rw[jib hg (show h<jaf st0 (r::tr)from h2)]
 simp only[jaE]
 have:Nat.ble (jaf st0 tr) h=true:=by rw[Nat.ble_eq]; exact h1
 rw[this]
theorem ji2 {later tr:List Rec} {h:Nat} (hg:GoodTr P sp N L tab st0 (later++tr)) (hh:h<jaf st0 tr):jbQ st0 (later++tr) h=jbQ st0 tr h:=by
 induction later with
 |nil=>rfl
 |cons r l ih =>
  cases hg with
  |cons h' o hr =>
   have h1:=jdF h'
   simp only[List.cons_append,jbQ]
   have:Nat.ble (jaf st0 (l++tr)) h=false:=by
    rw[Bool.eq_false_iff]
    intro hc
    rw[Nat.ble_eq]at hc
    omega
   rw[this]
   exact ih h'
theorem juw {later tr:List Rec} {r:Rec} {h:Nat} (hg:GoodTr P sp N L tab st0 (later++r::tr)) (h1:jaf st0 tr≤h) (h2:h<r.nx):jbQ st0 (later++r::tr) h=C.one r.hp (.o h):=by
 rw[ji2 hg (show h<jaf st0 (r::tr)from h2)]
 simp only[jbQ]
 have:Nat.ble (jaf st0 tr) h=true:=by rw[Nat.ble_eq]; exact h1
 rw[this]
theorem jjK {h:Nat} (hh:h<st0.nx):∀{tr:List Rec},GoodTr P sp N L tab st0 tr→jbQ st0 tr h=C.one st0.hp (.o h)
 |[],_=>rfl
 |r::tr,hg=>by
  cases hg with
  |cons h' o hr =>
   have:=jk4 h'
   simp only[jbQ]
   have e:Nat.ble (jaf st0 tr) h=false:=by
    rw[Bool.eq_false_iff]
    intro hc
    rw[Nat.ble_eq]at hc
    omega
   rw[e]
   exact jjK hh h'
theorem jnl {q q':Nat→Bool} {x:Nat}:∀{tr:List Rec},(∀j,j<tr.length→q' j=q j)→jaE q' st0 tr x=jaE q st0 tr x
 |[],_=>rfl
 |r::tr,hq=>by
  simp only[jaE]
  split
  ·exact hq _ (by simp)
  ·exact jnl fun j hj=>hq j (by simp; omega)
theorem jw5 {q q':Nat→Bool} {later tr:List Rec} {r:Rec} {x:Nat} (hq:∀j,j≠tr.length→q' j=q j) (hx:¬(jaf st0 tr≤x∧x<r.nx)) (hg:GoodTr P sp N L tab st0 (later++r::tr)) (hlt:x<jaf st0 (later++r::tr)) :
  jaE q' st0 (later++r::tr) x=jaE q st0 (later++r::tr) x:=by
 induction later with
 |nil =>
  have hlt:x<r.nx:=hlt
  have h1:¬jaf st0 tr≤x:=fun h=>hx ⟨h,hlt⟩
  have e:Nat.ble (jaf st0 tr) x=false:=by
   rw[Bool.eq_false_iff]; intro hc; rw[Nat.ble_eq]at hc; exact h1 hc
  simp only[List.nil_append,jaE,e]
  exact jnl fun j hj=>hq j (by omega)
 |cons r' l ih =>
  cases hg with
  |cons h' o hr =>
   simp only[List.cons_append,jaE]
   split
   ·exact hq _ (by simp; omega)
   ·rename_i hb
    refine ih h' ?_
    have:¬jaf st0 (l++r::tr)≤x:=fun hc=>by rw[Nat.ble_eq_true_of_le hc]at hb; cases hb
    omega
theorem je0 {q q':Nat→Bool} (hq:∀j,q j=true→q' j=true):∀(tr:List Rec) (h:Nat),jaE q st0 tr h=true→jaE q' st0 tr h=true
 |[],_,_=>rfl
 |r::tr,h,hb=>by
  simp only[jaE]at hb ⊢
  split at hb
  ·exact hq _ hb
  ·exact je0 hq tr h hb
theorem jpz {q:Nat→Bool} {h:Nat} (hh:h<st0.nx):∀{tr:List Rec},GoodTr P sp N L tab st0 tr→jaE q st0 tr h=true
 |[],_=>rfl
 |r::tr,hg=>by
  cases hg with
  |cons h' o hr =>
   have:=jk4 h'
   simp only[jaE]
   have e:Nat.ble (jaf st0 tr) h=false:=by
    rw[Bool.eq_false_iff]
    intro hc
    rw[Nat.ble_eq]at hc
    omega
   rw[e]
   exact jpz hh h'
theorem jf6 {bef:List Nat} {D:Nat→Bool} {t:Nat} (hb:∀j,j∈bef→D j=true):∀{tr:List Rec} {v:V},jcz L bef st0 t tr=some v→jbG L D st0 t tr=some v
 |[],_,h=>h
 |r::tr,v,h=>by
  simp only[jcz]at h
  simp only[jbG]
  cases hd:jck L tr.length with
  |none =>
   simp only[hd]at h
   rw[if_neg (by simp)]
   exact jf6 hb h
  |some d =>
   simp only[hd]at h
   split at h
   ·rename_i e
    subst e
    split at h
    ·rename_i hc
     rw[if_pos ⟨rfl,hb _ (by simpa using hc)⟩]
     exact h
    ·cases h
   ·rename_i e
    rw[if_neg (by simp[e])]
    exact jf6 hb h
theorem jg7 {D:Nat→Bool} {t:Nat} {tr:List Rec}:∀{later:List Rec},(∀j,tr.length≤j→jck L j=some t→D j=false)→jbG L D st0 t (later++tr)=jbG L D st0 t tr
 |[],_=>rfl
 |r::l,h=>by
  simp only[List.cons_append,jbG]
  rw[if_neg (fun⟨h1,h2⟩=>by rw[h _ (by simp) h1]at h2; cases h2)]
  exact jg7 h
theorem jlN {D D':Nat→Bool} {t:Nat}:∀{tr:List Rec},(∀j,j<tr.length→D' j=D j)→jbG L D' st0 t tr=jbG L D st0 t tr
 |[],_=>rfl
 |r::tr,h=>by
  simp only[jbG]
  rw[h tr.length (by simp),jlN (fun j hj=>h j (by simp; omega))]
theorem jg8 {D D':Nat→Bool}:∀{tr:List Rec},(∀j,j<tr.length→D' j=D j)→jaK D' st0 tr=jaK D st0 tr
 |[],_=>rfl
 |r::tr,h=>by
  simp only[jaK]
  rw[h tr.length (by simp),jg8 (fun j hj=>h j (by simp; omega))]
theorem jgK {j t:Nat}:∀{l:List Oper} {i:Nat},jfI L tab j t i l=true→∀m o,l[m]?=some o→i+m<j→t∈jaM L o→(i+m)∈tab.getD j []
 |[],_,_,_,_,h,_,_=>by simp at h
 |o' :: r,i,hs,m,o,h,hlt,ht=>by
  simp only[jfI,Bool.and_eq_true]at hs
  cases m with
  |zero =>
   simp at h
   subst h
   have h1:=hs.1
   have hb:Nat.blt i j=true:=by rw[Nat.blt_eq]; omega
   have hc:(jaM L o').contains t=true:=by simpa using ht
   rw[hb,hc]at h1
   simpa using h1
  |succ m =>
   have:=jgK hs.2 m o (by simpa using h) (by omega) ht
   rw[show i+(m+1)=i+1+m by omega]
   exact this
theorem jjL:∀{l:List Oper} {j:Nat},jcA L tab j l=true→∀m o t,l[m]?=some o→o.dst=some t→∀i o',L[i]?=some o'→i<j+m→t∈jaM L o'→i∈tab.getD (j+m) []
 |[],_,_,_,_,_,h,_,_,_,_,_,_=>by simp at h
 |o0::r,j,hs,m,o,t,h,hd,i,o',ho',hlt,ht=>by
  simp only[jcA,Bool.and_eq_true]at hs
  cases m with
  |zero =>
   simp at h
   subst h
   have h1:=hs.1
   rw[hd]at h1
   have:=jgK h1 i o' ho' (by simpa using hlt) ht
   simpa using this
  |succ m =>
   have:=jjL hs.2 m o t (by simpa using h) hd i o' ho' (by omega) ht
   rw[show j+(m+1)=j+1+m by omega]
   exact this
theorem jjM {D:Nat→Bool} {i t:Nat} {o:Oper} (hs:jcA L tab 0 L=true) (ht:jcv L tab) (hc:jcj L D) (hi:D i=false) (ho:L[i]?=some o) (hn:t∈jaM L o) :
  ∀j,i<j→jck L j=some t→D j=false:=by
 intro j hij hd
 rw[Bool.eq_false_iff]
 intro hD
 unfold jck at hd
 cases hj:L[j]? with
 |none=>simp[hj]at hd
 |some oj =>
  simp only[hj,Option.bind_some]at hd
  have h1:=jjL hs j oj t (by simpa using hj) hd i o ho (by omega) hn
  rw[Nat.zero_add]at h1
  have:=jep ht hc j i (fun o' ho' e he hb=>hc j o' ho' hD e he hb) h1
  rw[this]at hi
  cases hi
theorem jpA {D:Nat→Bool} {later tr:List Rec} {r:Rec} {o:Oper} {t:Nat} {v:V} (hs:jcA L tab 0 L=true) (ht:jcv L tab) (hc:jcj L D) (hi:D tr.length=false) (ho:L[tr.length]?=some o) (hn:t∈jaM L o)
  (hb:∀j,j∈tab.getD tr.length []→D j=true) (h:jcz L (tab.getD tr.length []) st0 t tr=some v):jbG L D st0 t (later++r::tr)=some v:=by
 rw[show later++r::tr=(later++[r])++tr by simp,jg7]
 ·exact jf6 hb h
 ·intro j hj hd
  by_cases he:j=tr.length
  ·rw[he]; exact hi
  ·exact jjM hs ht hc hi ho hn j (by omega) hd
def jbf (st0:St) (T:List Rec) (D:Nat→Bool) (h:Nat):Bool:=Nat.blt h (jaf st0 T)&&jaE D st0 T h
structure Inv [Globs] (ds:List Deferred) (L:List Oper) (st0:St) (B:Bd) (N n0:Nat) (ρ0:Env) (w0:World) (T:List Rec) (D:Nat→Bool) (a:Act) (w:World) (ρ:Env):Prop where
 tm:∀t v,jbG L D st0 t T=some v→v.allB (jbf st0 T D)=true∧a.tmps.getD t undef=v.val ρ
 size:a.tmps.size=N
 defers:a.defers=ds
 heap:HRel ρ B (jaK D st0 T) (jaf st0 T) w
 hal:∀h o,find (jaK D st0 T) h=some o→jbf st0 T D h=true∧o.allB (jbf st0 T D)=true
 le:Old B w
 agree:jan n0 ρ0 ρ
 below:Bel B w0 w
 one:∀h,jbf st0 T D h=true→jbQ st0 T h=true→(ρ h).oneCell'=true
theorem jdP {D:Nat→Bool} {later tr:List Rec} {r:Rec} {o:Oper} {a:Act} {w:World} {ρ:Env} {b:Bool} (hs:jcA L tab 0 L=true) (ht:jcv L tab) (hc:jcj L D) (hi:D tr.length=false) (ho:L[tr.length]?=some o)
  (hb:∀j,j∈tab.getD tr.length []→D j=true) (hinv:Inv ds L st0 B N n0 ρ0 w0 (later++r::tr) D a w ρ) (hg:jbv L tab st0 o tr b):Region.wanted o (yielded L.toArray a.tmps)=b:=by
 unfold jbv at hg
 unfold Region.wanted
 cases hgd:o.guard with
 |none=>rw[hgd]at hg; exact hg.symm
 |some p =>
  obtain⟨g,want⟩:=p
  rw[hgd]at hg
  obtain⟨t,v,hdt,hsl,hor⟩:=hg
  have hn:t∈jaM L o:=by simp[jaM,hgd,hdt]
  have hsd:=jpA (later:=later) (r:=r) hs ht hc hi ho hn hb hsl
  have h1:=(hinv.tm t v hsd).2
  have hy:yielded L.toArray a.tmps g=(match v.val ρ with | .bool b=>some b|_=>none):=by
   unfold yielded
   have hd2:((L.toArray[g]?).bind (·.dst))=some t:=by simpa [jck]using hdt
   rw[hd2]
   simp only[Option.bind_some]
   rw[←h1]
   by_cases hlt:t<a.tmps.size
   ·simp only[Array.getD_eq_getD_getElem?,Array.getElem?_eq_getElem hlt,Option.getD_some]
    cases a.tmps[t]<;>rfl
   ·simp[hlt,undef]
  dsimp only
  rw[hy]
  rcases hor with ⟨c,rfl,hcw⟩|⟨⟨l,rfl⟩,rfl⟩
  ·simpa using hcw
  ·rfl
theorem joA {D D':Nat→Bool} {later tr:List Rec} {r:Rec} {o:Oper} {a:Act} {w:World} {ρ ρ':Env} (hs:jcA L tab 0 L=true) (ht:jcv L tab) (hc:jcj L D) (hi:D tr.length=false) (ho:L[tr.length]?=some o)
  (hok:jdv N o.dst=true) (hD1:D' tr.length=true) (hD2:∀j,j≠tr.length→D' j=D j) (hinv:Inv ds L st0 B N n0 ρ0 w0 (later++r::tr) D a w ρ)
  (hρ:∀h,jbf st0 (later++r::tr) D h=true→ρ' h=ρ h) (hv:r.v.allB (jbf st0 (later++r::tr) D')=true) :
  ∀t v,jbG L D' st0 t (later++r::tr)=some v→v.allB (jbf st0 (later++r::tr) D')=true∧(a.put o.dst (r.v.val ρ')).tmps.getD t undef=v.val ρ':=by
 intro t v hsl
 have hdl:∀x,o.dst=some x→x<a.tmps.size:=fun x hx=>by rw[hinv.size]; exact jrt hok x hx
 rw[jcU hdl]
 have hdst:jck L tr.length=o.dst:=by simp[jck,ho]
 have hal:∀h,jbf st0 (later++r::tr) D h=true→jbf st0 (later++r::tr) D' h=true:=by
  intro h hh
  simp only[jbf,Bool.and_eq_true]at hh ⊢
  refine⟨hh.1,je0 (fun j hj=>?_) _ _ hh.2⟩
  by_cases he:j=tr.length
  ·rw[he]; exact hD1
  ·rw[hD2 j he]; exact hj
 by_cases hdt:o.dst=some t
 ·rw[if_pos hdt]
  have hn:t∈jaM L o:=by simp[jaM,hdt]
  have hlat:jbG L D' st0 t (later++r::tr)=jbG L D' st0 t (r::tr):=by
   apply jg7
   intro j hj hd
   simp at hj
   rw[hD2 j (by omega)]
   exact jjM hs ht hc hi ho hn j (by omega) hd
  rw[hlat]at hsl
  simp only[jbG]at hsl
  rw[if_pos ⟨by rw[hdst]; exact hdt,hD1⟩]at hsl
  cases hsl
  exact⟨hv,rfl⟩
 ·rw[if_neg hdt]
  have hsame:jbG L D' st0 t (later++r::tr)=jbG L D st0 t (later++r::tr):=by
   clear hsl hinv hρ hv hal
   induction later with
   |nil =>
    simp only[List.nil_append,jbG]
    rw[if_neg (fun h=>hdt (by rw[←hdst]; exact h.1)),if_neg (fun h=>hdt (by rw[←hdst]; exact h.1))]
    exact jlN fun j hj=>hD2 j (by omega)
   |cons x l ih =>
    simp only[List.cons_append,jbG]
    rw[hD2 _ (by simp; omega),ih]
  rw[hsame]at hsl
  have h1:=hinv.tm t v hsl
  refine⟨V.allB_mono hal h1.1,?_⟩
  rw[h1.2]
  exact(V.val_eqB hρ h1.1).symm
theorem jw6 {D:Nat→Bool} {later tr:List Rec} {r:Rec} {o:Oper} {a:Act} {w:World} {ρ:Env} (hg:GoodTr P sp N L tab st0 (later++r::tr)) (hs:jcA L tab 0 L=true) (ht:jcv L tab) (hc:jcj L D) (hi:D tr.length=false) (ho:L[tr.length]?=some o)
  (hb:∀j,j∈tab.getD tr.length []→D j=true) (hbase:∀t v,jbg st0.tm t=some v→v.lt st0.nx) (hinv:Inv ds L st0 B N n0 ρ0 w0 (later++r::tr) D a w ρ) :
  jaZ ρ (jaf st0 tr) (jbJ L (jaM L o) (tab.getD tr.length []) st0 tr) a:=by
 have hgt:GoodTr P sp N L tab st0 tr:=GoodTr.tail (later:=later++[r]) (by simpa using hg)
 have slot_lt:∀(tr:List Rec),GoodTr P sp N L tab st0 tr→∀bef t v,jcz L bef st0 t tr=some v→v.lt (jaf st0 tr):=by
  intro tr hg
  induction hg with
  |nil=>exact fun bef t v h=>hbase t v h
  | @cons tr r h o hr ih =>
   intro bef t v hsl
   simp only[jcz]at hsl
   have down:jcz L bef st0 t tr=some v→v.lt r.nx:=fun h'=>V.lt_mono hr.nx_le (ih bef t v h')
   cases hd:jck L tr.length with
   |none=>simp only[hd]at hsl; exact down hsl
   |some d =>
    simp only[hd]at hsl
    split at hsl
    ·split at hsl
     ·cases hsl
      show V.lt r.nx r.v
      cases hr.kind with
      |skip g e=>rw[e]; trivial
      |pure g ob hs ho hk e =>
       simp only[jbK,Bool.and_eq_true]at hk
       rw[e]
       exact V.lt_of_allB (fun x hx=>by simp only[Bool.and_eq_true,Nat.blt_eq]at hx; exact hx.1) hk.1.2
      |built g hb ob hs ho hk e =>
       simp only[jbK,Bool.and_eq_true]at hk
       rw[e]
       exact V.lt_of_allB (fun x hx=>by simp only[Bool.and_eq_true,Nat.blt_eq]at hx; exact hx.1) hk.1.2
      |load g hp hl x xo hx hf hb hst ob hs ho hk e =>
       simp only[jbK,Bool.and_eq_true]at hk
       rw[e]
       exact V.lt_of_allB (fun x hx=>by simp only[Bool.and_eq_true,Nat.blt_eq]at hx; exact hx.1) hk.1.2
      |mono g hp hl hm res hs ho hk e =>
       simp only[jbK,Bool.and_eq_true]at hk
       rw[e]
       exact V.lt_of_allB (fun x hx=>by simp only[Bool.and_eq_true,Nat.blt_eq]at hx; exact hx.1) hk.1.2
      |effect g hp hl hf res hs ho hk e =>
       simp only[jbK,Bool.and_eq_true]at hk
       rw[e]
       exact V.lt_of_allB (fun x hx=>by simp only[Bool.and_eq_true,Nat.blt_eq]at hx; exact hx.1) hk.1.2
     ·cases hsl
    ·exact down hsl
 intro x u hx
 cases x with
 |tmp t =>
  simp only[jbJ]at hx
  split at hx
  ·rename_i hcn
   have hn:t∈jaM L o:=by simpa using hcn
   exact⟨slot_lt tr hgt _ t u hx,(hinv.tm t u (jpA hs ht hc hi ho hn hb hx)).2⟩
  ·cases hx
 |const v =>
  simp only[jbJ,jdE,Option.some.injEq]at hx
  subst hx
  exact⟨jhV _ v,(jgX ρ v).symm⟩
 |global g =>
  simp only[jbJ,jdE]at hx
  split at hx
  ·cases hx
   exact⟨trivial,by simp[V.val,W.val,C.val,Act.eval]⟩
  ·cases hx
   exact⟨trivial,rfl⟩
 |func f =>
  simp only[jbJ,jdE,Option.some.injEq]at hx
  subst hx
  exact⟨(fun _ hh=>by cases hh),by simp[V.val,W.val,C.val,Act.eval]⟩
end
end Go.Sx
end

section
open Go.RowKit
namespace Go.Sx
section
variable [Globs] {P:Program} {sp:jab} {B:Bd} {N n0:Nat} {L:List Oper} {tab:List (List Nat)} {st0:St} {ρ0:Env} {w0:World} {ds:List Deferred}
theorem jb1 {i:Nat} {lf:Bool}:∀{l:List Oper} {k:Nat},jdj tab i lf k l=true→∀m o,l[m]?=some o→k+m=i∨jaJ o.op=true∨(k+m)∈tab.getD i []∨i∈tab.getD (k+m) []∨(lf=true∧jaN o.op=true)
 |[],_,_,_,_,h=>by simp at h
 |o' :: r,k,hs,m,o,h=>by
  simp only[jdj,Bool.and_eq_true,Bool.or_eq_true]at hs
  cases m with
  |zero =>
   simp at h
   subst h
   rcases hs.1 with (((h1|h1)|h1)|h1)|h1
   ·exact .inl (by simpa using Nat.eq_of_beq_eq_true h1)
   ·exact .inr (.inl h1)
   ·exact .inr (.inr (.inl (by simpa using h1)))
   ·exact .inr (.inr (.inr (.inl (by simpa using h1))))
   ·exact .inr (.inr (.inr (.inr h1)))
  |succ m =>
   have:=jb1 hs.2 m o (by simpa using h)
   rw[show k+(m+1)=k+1+m by omega]
   exact this
theorem jic:∀{l:List Oper} {k:Nat},jdO k l=true→∀m o,l[m]?=some o→∀e∈o.after.toList,Region.binds .any e=true→e.on<k+m
 |[],_,_,_,_,h=>by simp at h
 |o' :: r,k,hs,m,o,h=>by
  simp only[jdO,Bool.and_eq_true]at hs
  cases m with
  |zero =>
   simp at h
   subst h
   intro e he hb
   have:=List.all_eq_true.1 hs.1 e he
   rw[hb]at this
   simpa using this
  |succ m =>
   have:=jic hs.2 m o (by simpa using h)
   rw[show k+(m+1)=k+1+m by omega]
   exact this
theorem jvM (he:jdO 0 L=true) (ht:jcv L tab):∀(i k:Nat),k∈tab.getD i []→k<i:=by
 intro i
 induction i using Nat.strongRecOn with
 |_ i ih =>
  intro k hk
  obtain⟨o,ho,e,hem,hb,hor⟩:=ht i k hk
  have h1:=jic he i o ho e hem hb
  rw[Nat.zero_add]at h1
  rcases hor with rfl|⟨hlt,hk'⟩
  ·exact h1
  ·exact Nat.lt_trans (ih e.on hlt k hk') hlt
def jjN (st0:St):Prop:=∀h o,find st0.hp h=some o→h<st0.nx∧o.lt st0.nx
theorem jnm {bef:List Nat} {tr:List Rec} {v:V} {hp:Hp} {nx:Nat} (hk:jbK bef st0 tr v hp nx=true) {h:Nat} {o:O} (hf:find hp h=some o) :
  h<nx∧o.allB (fun h=>Nat.blt h nx&&(Nat.ble (jaf st0 tr) h||jaE (fun j=>bef.contains j) st0 tr h))=true:=by
 simp only[jbK,Bool.and_eq_true]at hk
 have:=List.all_eq_true.1 hk.2 (h,o) (jrw hf)
 simp only[Bool.and_eq_true,Nat.blt_eq]at this
 exact this
theorem jrA {bef:List Nat} {tr:List Rec} {v:V} {hp:Hp} {nx:Nat} (hk:jbK bef st0 tr v hp nx=true) :
  v.allB (fun h=>Nat.blt h nx&&(Nat.ble (jaf st0 tr) h||jaE (fun j=>bef.contains j) st0 tr h))=true:=by
 simp only[jbK,Bool.and_eq_true]at hk
 exact hk.1.2
theorem jpB {n:Nat} {hp:Hp} {h:Nat}:find (jds n hp) h=if Nat.ble n h=true then find hp h else none:=jg6 (p:=fun k=>Nat.ble n k)
theorem keys {tr:List Rec} (hg:GoodTr P sp N L tab st0 tr) (hb:jjN st0):∀h o,find (jaP st0 tr) h=some o→h<jaf st0 tr∧o.lt (jaf st0 tr):=by
 induction hg with
 |nil=>exact hb
 | @cons tr r hgt o hr ih =>
  intro h ob hf
  show h<r.nx∧ob.lt r.nx
  have hf:find r.hp h=some ob:=hf
  cases hr.kind with
  |skip g e=>rw[e]at hf ⊢; exact ih h ob hf
  |pure g ob' hs ho hk e=>rw[e]at hf ⊢; exact ih h ob hf
  |built g hb0 ob' hs ho hk e=>rw[e]at hf ⊢; exact ih h ob hf
  |load g hp hl x xo hx hf0 hb0 hst ob' hs ho hk e=>rw[e]at hf ⊢; exact ih h ob hf
  |mono g hp hl hm res hs ho hk e =>
   rw[e]at hf ⊢
   have hle:jaf st0 tr≤res.nx:=by simp only[jbK,Bool.and_eq_true,Nat.ble_eq]at hk; exact hk.1.1
   simp only[jaI]at hf
   cases hn:find (jds (jaf st0 tr) res.hp) h with
   |some x =>
    rw[hn]at hf
    cases hf
    have:=jnm hk hn
    exact⟨this.1,O.lt_of_allB (p:=fun h=>Nat.blt h res.nx&&(Nat.ble (jaf st0 tr) h||jaE (fun j=>(tab.getD tr.length []).contains j) st0 tr h)) (fun x hx=>by simp only[Bool.and_eq_true,Nat.blt_eq]at hx; exact hx.1) this.2⟩
   |none =>
    rw[hn]at hf
    have:=ih h ob hf
    exact⟨Nat.lt_of_lt_of_le this.1 hle,O.lt_mono hle this.2⟩
  |effect g hp hl hf' res hs ho hk e =>
   rw[e]at hf ⊢
   have:=jnm hk hf
   exact⟨this.1,O.lt_of_allB (p:=fun h=>Nat.blt h res.nx&&(Nat.ble (jaf st0 tr) h||jaE (fun j=>(tab.getD tr.length []).contains j) st0 tr h)) (fun x hx=>by simp only[Bool.and_eq_true,Nat.blt_eq]at hx; exact hx.1) this.2⟩
theorem GoodTr.inv {tr:List Rec} {r:Rec} (h:GoodTr P sp N L tab st0 (r::tr)):GoodTr P sp N L tab st0 tr∧∃o,RecOK P sp N L tab st0 tr r o:=by
 cases h with|cons h o hr=>exact⟨h,o,hr⟩
theorem jb2 {tr:List Rec} {r:Rec} {o:Oper} (hr:RecOK P sp N L tab st0 tr r o) (h:r.kd=2):jdj tab tr.length (r.tg.isSome) 0 L=true∧jaJ o.op=false∧jaN o.op=false:=by
 cases hr.kind with
 |skip g e=>rw[e]at h; cases h
 |pure g ob hs ho hk e=>rw[e]at h; cases h
 |built g hb0 ob hs ho hk e=>rw[e]at h; cases h
 |load g hp hl x xo hx hf hb hst ob hs ho hk e=>rw[e]at h; cases h
 |mono g hp hl hm res hs ho hk e=>rw[e]at h; cases h
 |effect g hp hl hf res hs ho hk e=>exact⟨by rw[e]; exact hf,hp,hl⟩
theorem js8 {t x y:_} {rd:Operand→Option V} {hp:Hp} {nx h:Nat} {res:Res} (hs:jcX P sp (.store t x y) rd hp nx=some res) (ht:storeAt (.store t x y) rd=some h):∃o',res.hp=(h,o')::jbd hp:=by
 unfold storeAt at ht
 dsimp only at ht
 split at ht
 ·rename_i h' i e j hx
  cases ht
  unfold jcX at hs
  have hv:jbY P (.store t x y) rd hp=none:=by simp[jbY,jhs,jhW]
  have hR:jdu P (.store t x y) rd hp nx=none:=by simp[jdu]
  simp only[hv,hR]at hs
  split at hs
  ·rename_i r0 hX
   cases hs
   unfold jgG at hX
   dsimp only at hX
   rw[hx]at hX
   split at hX
   ·rename_i h3 _
    cases h3
    split at hX
    ·split at hX
     ·cases hX; exact⟨_,rfl⟩
     ·cases hX
    ·split at hX
     ·cases hX; exact⟨_,rfl⟩
     ·cases hX
    ·cases hX
   ·rename_i h3 _
    cases h3
    split at hX
    ·split at hX
     ·cases hX; exact⟨_,rfl⟩
     ·cases hX
    ·split at hX
     ·cases hX; exact⟨_,rfl⟩
     ·cases hX
    ·cases hX
   ·rename_i h3 _
    cases h3
    split at hX
    ·split at hX
     ·split at hX
      ·cases hX; exact⟨_,rfl⟩
      ·cases hX
     ·cases hX
    ·cases hX
   ·cases hX
  unfold jm5 at hs
  dsimp only at hs
  rw[hx]at hs
  split at hs
  ·rename_i h2 i2 e2 j2 u h3 hy
   cases h3
   split at hs
   ·split at hs
    ·split at hs
     ·cases hs; exact⟨_,rfl⟩
     ·split at hs
      ·cases hs; exact⟨_,rfl⟩
      ·cases hs
    ·split at hs
     ·split at hs
      ·split at hs
       ·cases hs; exact⟨_,rfl⟩
       ·cases hs
      ·cases hs
     ·cases hs
    ·cases hs
   ·cases hs
  ·cases hs
 ·cases ht
theorem jfd {hp:Hp} {x:Nat} {ob:O} (hpl:jd2 (some ob)=true):find (jbd hp) x=some ob↔find hp x=some ob:=by
 rw[jjA]
 cases hf:find hp x with
 |none=>simp
 |some o =>
  simp only[Option.map_some,Option.some.injEq]
  cases o<;>cases ob<;>simp_all [jd2]
theorem js9 {op:Op} {rd:Operand→Option V} {hp:Hp} {nx h:Nat} {res:Res} (hs:jcX P sp op rd hp nx=some res) (ht:storeAt op rd=some h) {x:Nat} {ob:O} (hx:x≠h) (hn:x<nx) (hp1:jd2 (some ob)=true) (hf:find hp x=some ob):find res.hp x=some ob:=by
 cases op with
 |store t a b =>
  obtain⟨o',ho'⟩:=js8 hs ht
  rw[ho']
  simp only[find]
  rw[if_neg (fun e=>hx e.symm)]
  exact(jfd hp1).2 hf
 |call c =>
  have hna:c.callee=.builtin .append∧∃s y,c.args.toList=[s,y]∧∀k,rd s=some (.w (.c (.o k)))→k=h:=by
   unfold storeAt at ht
   dsimp only at ht
   split at ht
   ·rename_i s y hc ha
    refine⟨hc,s,y,ha,fun k hk=>?_⟩
    rw[hk]at ht
    cases ht; rfl
   ·cases ht
  obtain⟨hcal,s,y,hargs,hk⟩:=hna
  unfold jcX at hs
  have h1:jbY P (.call c) rd hp=none:=by simp[jbY,jhs,jhW,hcal]
  have h2:jgG P (.call c) rd hp nx=none:=by simp[jgG]
  have hR:jdu P (.call c) rd hp nx=none:=by simp[jdu]
  simp only[h1,hR,h2]at hs
  unfold jm5 at hs
  dsimp only at hs
  rw[hcal,hargs]at hs
  split at hs
  ·rename_i s' y' t t' _ e _
   simp only[List.cons.injEq,and_true]at e
   obtain⟨rfl,rfl⟩:=e
   split at hs
   ·split at hs
    ·unfold jg1 at hs
     split at hs
     ·split at hs
      ·split at hs
       ·split at hs
        ·split at hs
         ·cases hs
          simp only[find]
          rw[if_neg (by omega)]
          exact hf
         ·cases hs
        ·cases hs
       ·cases hs
      ·cases hs
     ·cases hs
    ·split at hs
     ·rename_i elem hs' cs hx' cx hu hss hsx
      split at hs
      ·split at hs
       ·split at hs
        ·split at hs
         ·cases hs
          cases hs' with
          |none =>
           simp only[find]
           rw[if_neg (by omega)]
           exact(jfd hp1).2 hf
          |some k =>
           have hkh:k=h:=by
            cases hrs:rd s with
            |none=>simp[hrs]at hss
            |some us =>
             simp only[hrs,Option.bind_some]at hss
             unfold jdi at hss
             split at hss
             ·split at hss
              ·cases hss; exact hk _ hrs
              ·cases hss
             ·cases hss
             ·cases hss
           subst hkh
           simp only[find]
           rw[if_neg (by omega),if_neg (fun e=>hx e.symm)]
           exact(jfd hp1).2 hf
         ·cases hs
        ·cases hs
       ·cases hs
      ·cases hs
     ·cases hs
   ·cases hs
  ·rename_i hc2
   cases hc2
  ·cases hs
 |_=>simp[storeAt]at ht
theorem jrB {tr:List Rec} {r:Rec} {o:Oper} {t:Nat} (hr:RecOK P sp N L tab st0 tr r o) (h:r.kd=2) (ht:r.tg=some t) :
  (∀x ob,x≠t→x<jaf st0 tr→jd2 (some ob)=true→find (jaP st0 tr) x=some ob→find r.hp x=some ob)∧jdM L tab st0 (tab.getD tr.length []) t tr=true:=by
 cases hr.kind with
 |skip g e=>rw[e]at h; cases h
 |pure g ob hs ho hk e=>rw[e]at h; cases h
 |built g hb0 ob hs ho hk e=>rw[e]at h; cases h
 |load g hp hl x xo hx hf hb hst ob hs ho hk e=>rw[e]at h; cases h
 |mono g hp hl hm res hs ho hk e=>rw[e]at h; cases h
 |effect g hp hl hf res hs ho hk e =>
  have ht2:jdN L tab st0 o tr=some t:=by rw[e]at ht; exact ht
  unfold jdN at ht2
  split at ht2
  ·rename_i h' hst
   split at ht2
   ·rename_i hlf
    cases ht2
    refine⟨fun x ob hx hn hpl hfx=>?_,hlf⟩
    rw[e]
    exact js9 hs hst hx hn hpl hfx
   ·cases ht2
  ·cases ht2
theorem jbS {tr:List Rec} {r:Rec} {o:Oper} (hr:RecOK P sp N L tab st0 tr r o) (h:r.kd≠2):r.hp=r.nw++jaP st0 tr∧(∀k ob,find r.nw k=some ob→jaf st0 tr≤k∧k<r.nx)∧((jaJ o.op||jaN o.op)=true→r.nw=[]∧r.nx=jaf st0 tr):=by
 cases hr.kind with
 |skip g e=>rw[e]; exact⟨rfl,(fun k ob h=>by cases h),fun _=>⟨rfl,rfl⟩⟩
 |pure g ob hs ho hk e=>rw[e]; exact⟨rfl,(fun k ob h=>by cases h),fun _=>⟨rfl,rfl⟩⟩
 |built g hb0 ob hs ho hk e=>rw[e]; exact⟨rfl,(fun k ob h=>by cases h),fun _=>⟨rfl,rfl⟩⟩
 |load g hp hl x xo hx hf hb hst ob hs ho hk e=>rw[e]; exact⟨rfl,(fun k ob h=>by cases h),fun _=>⟨rfl,rfl⟩⟩
 |mono g hp hl hm res hs ho hk e =>
  rw[e]
  refine⟨rfl,fun k ob hf=>?_,fun h=>by rw[hp,hl]at h; cases h⟩
  have h1:=(jnm hk hf).1
  have hf:find (jds (jaf st0 tr) res.hp) k=some ob:=hf
  rw[jpB]at hf
  split at hf
  ·rename_i hle; exact⟨by simpa [Nat.ble_eq]using hle,h1⟩
  ·cases hf
 |effect g hp hl hf res hs ho hk e=>rw[e]at h; exact absurd rfl h
theorem jpC {tr:List Rec} {r:Rec} {o:Oper} (hr:RecOK P sp N L tab st0 tr r o) (hs:(jaJ o.op||jaN o.op)=true):r.kd≠2:=fun h=>by
 rw[(jb2 hr h).2.1,(jb2 hr h).2.2]at hs; cases hs
theorem jzu {D:Nat→Bool} {i:Nat} {o:Oper} (hns:jaJ o.op=false) (hnl:jaN o.op=false) (ho:L[i]?=some o) (hlow:∀i k,k∈tab.getD i []→k<i) (hbase:jjN st0) (hb:∀j,j∈tab.getD i []→D j=true) {tr:List Rec} (hg:GoodTr P sp N L tab st0 tr) :
  tr.length≤i→∀h ob,find (jaP st0 tr) h=some ob→jaE (fun j=>(tab.getD i []).contains j) st0 tr h=true→find (jaK D st0 tr) h=some ob:=by
 induction hg with
 |nil=>exact fun _ h ob hf _=>hf
 | @cons tr r hgt o' hr ih =>
  intro hl h ob hf hbn
  have hl:tr.length+1≤i:=hl
  have hf:find r.hp h=some ob:=hf
  simp only[jaK]
  by_cases hk:r.kd=2
  ·have hfo:=jb2 hr hk
   have hD:D tr.length=true:=by
    rcases jb1 hfo.1 i o ho with h1|h1|h1|h1|h1
    ·omega
    ·rw[hns]at h1; cases h1
    ·rw[Nat.zero_add]at h1; have:=hlow _ _ h1; omega
    ·rw[Nat.zero_add]at h1; exact hb _ h1
    ·rw[hnl]at h1; cases h1.2
   rw[if_pos hD,if_pos hk]
   exact hf
  ·have ho:=jbS hr hk
   rw[ho.1,jaI]at hf
   rw[if_neg hk]
   cases hn:find r.nw h with
   |some x =>
    rw[hn]at hf
    cases hf
    have h1:=(ho.2.1 h ob hn).1
    have hD:D tr.length=true:=by
     simp only[jaE]at hbn
     rw[show Nat.ble (jaf st0 tr) h=true from Nat.ble_eq_true_of_le h1]at hbn
     exact hb _ (by simpa using hbn)
    rw[if_pos hD,jaI,hn]
    rfl
   |none =>
    rw[hn]at hf
    have hf:find (jaP st0 tr) h=some ob:=hf
    have h1:=(keys hgt hbase h ob hf).1
    have hbn':jaE (fun j=>(tab.getD i []).contains j) st0 tr h=true:=by
     simp only[jaE]at hbn
     have e:Nat.ble (jaf st0 tr) h=false:=by
      rw[Bool.eq_false_iff]; intro hc; rw[Nat.ble_eq]at hc; omega
     rw[e]at hbn
     exact hbn
    have:=ih (by omega) h ob hf hbn'
    split
    ·rw[jaI,hn]; exact this
    ·exact this
theorem jvN {D:Nat→Bool} (hbase:jjN st0) {tr:List Rec} (hg:GoodTr P sp N L tab st0 tr):∀h ob,find (jaK D st0 tr) h=some ob→h<jaf st0 tr:=by
 induction hg with
 |nil=>exact fun h ob hf=>(hbase h ob hf).1
 | @cons tr r hgt o hr ih =>
  intro h ob hf
  have hle:=hr.nx_le
  simp only[jaK]at hf
  split at hf
  ·split at hf
   ·exact(keys (.cons hgt o hr) hbase h ob hf).1
   ·rename_i hk
    rw[jaI]at hf
    cases hn:find r.nw h with
    |some x=>exact((jbS hr hk).2.1 h x hn).2
    |none=>rw[hn]at hf; exact Nat.lt_of_lt_of_le (ih h ob hf) hle
  ·exact Nat.lt_of_lt_of_le (ih h ob hf) hle
theorem jgL {D:Nat→Bool} {i k:Nat} {o ok:Oper} {lf:Bool} (hns:jaJ o.op=false) (hnl:jaN o.op=false) (ho:L[i]?=some o) (hok:L[k]?=some ok) (hnk:jaJ ok.op=false) (hlk:jaN ok.op=false) (hlow:∀i k,k∈tab.getD i []→k<i) (ht:jcv L tab) (hc:jcj L D) (hi:D i=false) (hik:i<k)
  (hf:jdj tab k lf 0 L=true∨jdj tab i lf 0 L=true):D k=false:=by
 have hor:i∈tab.getD k []:=by
  rcases hf with hf|hf
  ·rcases jb1 hf i o ho with h1|h1|h1|h1|h1
   ·omega
   ·rw[hns]at h1; cases h1
   ·rw[Nat.zero_add]at h1; exact h1
   ·rw[Nat.zero_add]at h1; have:=hlow _ _ h1; omega
   ·rw[hnl]at h1; cases h1.2
  ·rcases jb1 hf k ok hok with h1|h1|h1|h1|h1
   ·omega
   ·rw[hnk]at h1; cases h1
   ·rw[Nat.zero_add]at h1; have:=hlow _ _ h1; omega
   ·rw[Nat.zero_add]at h1; exact h1
   ·rw[hlk]at h1; cases h1.2
 rw[Bool.eq_false_iff]
 intro hD
 have:=jep ht hc k i (fun o' ho' e he hb=>hc k o' ho' hD e he hb) hor
 rw[this]at hi
 cases hi
theorem jzv {D:Nat→Bool} {i:Nat} (hlow:∀i k,k∈tab.getD i []→k<i) (hbase:jjN st0) (hb:∀j,j∈tab.getD i []→D j=true) {h:Nat} {ob:O} {tr:List Rec} (hg:GoodTr P sp N L tab st0 tr) :
  find (jaP st0 tr) h=some ob→jaE (fun j=>(tab.getD i []).contains j) st0 tr h=true→jd3 st0 (tab.getD i []) h tr=true→find (jaK D st0 tr) h=some ob:=by
 induction hg with
 |nil=>exact fun hf _ _=>hf
 | @cons tr r hgt o' hr ih =>
  intro hf hbn hst
  simp only[jd3,Bool.and_eq_true]at hst
  have hf:find r.hp h=some ob:=hf
  simp only[jaK]
  by_cases hk:r.kd=2
  ·rw[if_pos hk]
   by_cases hD:D tr.length=true
   ·rw[if_pos hD]; exact hf
   ·rw[if_neg hD]
    have h1:=hst.1
    have hc:(tab.getD i []).contains tr.length=false:=by
     cases hcc:(tab.getD i []).contains tr.length with
     |false=>rfl
     |true=>exact absurd (hb _ (by simpa using hcc)) hD
    have hkb:Nat.beq r.kd 2=true:=by rw[hk]; rfl
    rw[hc,hkb]at h1
    simp only[Bool.not_true,Bool.false_or]at h1
    split at h1
    ·cases h1
    ·rename_i t htg
     simp only[Bool.and_eq_true,Bool.not_eq_true']at h1
     have hne:h≠t:=fun e=>by
      have h2:=h1.1
      subst e
      have:Nat.beq h h=true:=by simp
      rw[this]at h2; cases h2
     have hs:=jrB hr hk htg
     have hpl:∃o1,find (jaP st0 tr) h=some o1∧jd2 (some o1)=true:=by
      cases hq:find (jaP st0 tr) h with
      |none=>rw[hq]at h1; cases h1.2
      |some o1=>rw[hq]at h1; exact⟨o1,rfl,h1.2⟩
     obtain⟨o1,hq,hp1⟩:=hpl
     have hlt:=(keys hgt hbase h o1 hq).1
     have:=hs.1 h o1 hne hlt hp1 hq
     rw[this]at hf
     cases hf
     refine ih hq ?_ hst.2
     have e:Nat.ble (jaf st0 tr) h=false:=by
      rw[Bool.eq_false_iff]; intro hcc; rw[Nat.ble_eq]at hcc; omega
     simp only[jaE]at hbn
     rw[e]at hbn
     exact hbn
  ·have ho:=jbS hr hk
   rw[ho.1,jaI]at hf
   rw[if_neg hk]
   cases hn:find r.nw h with
   |some x =>
    rw[hn]at hf
    cases hf
    have h1:=(ho.2.1 h ob hn).1
    have hD:D tr.length=true:=by
     simp only[jaE]at hbn
     rw[show Nat.ble (jaf st0 tr) h=true from Nat.ble_eq_true_of_le h1]at hbn
     exact hb _ (by simpa using hbn)
    rw[if_pos hD,jaI,hn]
    rfl
   |none =>
    rw[hn]at hf
    have hf:find (jaP st0 tr) h=some ob:=hf
    have h1:=(keys hgt hbase h ob hf).1
    have hbn':jaE (fun j=>(tab.getD i []).contains j) st0 tr h=true:=by
     simp only[jaE]at hbn
     have e:Nat.ble (jaf st0 tr) h=false:=by
      rw[Bool.eq_false_iff]; intro hc; rw[Nat.ble_eq]at hc; omega
     rw[e]at hbn
     exact hbn
    have:=ih hf hbn' hst.2
    split
    ·rw[jaI,hn]; exact this
    ·exact this
theorem jnn {bef:List Nat} {t:Nat} {r0:Rec} {tr:List Rec} {o:Oper} (ho:L[tr.length]?=some o) (hl:jaN o.op=true):∀{l:List Rec},jdM L tab st0 bef t (l++r0::tr)=true →
  bef.contains tr.length=true∨∃x,loadAt o.op (jbJ L (jaM L o) (tab.getD tr.length []) st0 tr)=some x∧x≠t∧jd2 (find (jaP st0 tr) x)=true
 |[],h=>by
  simp only[List.nil_append,jdM,ho,hl,Bool.and_eq_true,Bool.or_eq_true]at h
  rcases h.1 with h1|h1
  ·exact .inl h1
  ·split at h1
   ·cases h1
   ·rename_i x hx
    simp only[Bool.and_eq_true,Bool.not_eq_true']at h1
    refine .inr ⟨x,hx,fun e=>?_,h1.2⟩
    have h2:=h1.1
    rw[e]at h2
    have:Nat.beq t t=true:=by simp
    rw[this]at h2; cases h2
 |r::l,h=>by
  simp only[List.cons_append,jdM,Bool.and_eq_true]at h
  exact jnn ho hl h.2
theorem jpD {D:Nat→Bool} {tr:List Rec} {r0:Rec} {o:Oper} {x:Nat} {xo:O} (ho:L[tr.length]?=some o) (hlo:jaN o.op=true) (hns:jaJ o.op=false) (hx:loadAt o.op (jbJ L (jaM L o) (tab.getD tr.length []) st0 tr)=some x) (hf:find (jaP st0 tr) x=some xo) (hr0:r0.hp=jaP st0 tr)
  (hlow:∀i k,k∈tab.getD i []→k<i) (ht:jcv L tab) (hc:jcj L D) (hi:D tr.length=false) (hxl:x<jaf st0 tr) (hin:find (jaK D st0 tr) x=some xo) :
  ∀{later:List Rec},GoodTr P sp N L tab st0 (later++r0::tr)→find (jaK D st0 (later++r0::tr)) x=some xo ∧
   ((∀k,tr.length<k→k<(later++r0::tr).length→∀ok,L[k]?=some ok→jaJ ok.op=false→jaN ok.op=false→tr.length∈tab.getD k []→False)→True) ∧
   (find (jaP st0 (later++r0::tr)) x=some xo∨∃l1 rk trk,later++r0::tr=l1++rk::trk∧tr.length<trk.length∧rk.kd=2∧tr.length∈tab.getD trk.length [])
 |[],_=>by
  refine⟨?_,fun _=>trivial,.inl ?_⟩
  ·simp only[List.nil_append,jaK,hi,Bool.false_eq_true,if_false]; exact hin
  ·show find r0.hp x=_
   rw[hr0]; exact hf
 |r::l,hg=>by
  obtain⟨hgt,o',hr⟩:=GoodTr.inv (tr:=l++r0::tr) hg
  obtain⟨ih1,_,ih3⟩:=jpD ho hlo hns hx hf hr0 hlow ht hc hi hxl hin hgt
  have hlen:tr.length<(l++r0::tr).length:=by simp; omega
  by_cases hk:r.kd=2
  ·have hfo:=jb2 hr hk
   by_cases hw:tr.length∈tab.getD (l++r0::tr).length []
   ·have hDk:D (l++r0::tr).length=false:=by
     rw[Bool.eq_false_iff]
     intro hD
     have:=jep ht hc (l++r0::tr).length tr.length (fun o' ho' e he hb=>hc _ o' ho' hD e he hb) hw
     rw[this]at hi; cases hi
    refine⟨?_,fun _=>trivial,.inr ⟨[],r,l++r0::tr,rfl,hlen,hk,hw⟩⟩
    simp only[List.cons_append,jaK,hDk,Bool.false_eq_true,if_false]
    exact ih1
   ·have htg:r.tg.isSome=true:=by
     rcases jb1 hfo.1 tr.length o ho with h1|h1|h1|h1|h1
     ·omega
     ·rw[hns]at h1; cases h1
     ·rw[Nat.zero_add]at h1; exact absurd h1 hw
     ·rw[Nat.zero_add]at h1; have:=hlow _ _ h1; omega
     ·exact h1.1
    cases htt:r.tg with
    |none=>rw[htt]at htg; cases htg
    |some t =>
     have hst:=jrB hr hk htt
     have hsp:=jnn ho hlo hst.2
     rcases hsp with hsp|⟨x',hx',hne,hpl⟩
     ·exact absurd (by simpa using hsp) hw
     ·rw[hx]at hx'
      cases hx'
      have hplx:jd2 (some xo)=true:=by rw[hf]at hpl; exact hpl
      rcases ih3 with h3|⟨l1,rk,trk,e1,e2,e3,e4⟩
      ·have hr':find r.hp x=some xo:=by
        refine hst.1 x xo hne ?_ hplx h3
        have h2:=jdF (later:=l++[r0]) (tr:=tr) (by simpa using hgt)
        have h4:jaf st0 tr≤jaf st0 (l++r0::tr):=by simpa using h2
        omega
       refine⟨?_,fun _=>trivial,.inl hr'⟩
       simp only[List.cons_append,jaK]
       split
       ·first|exact hr' | (rw[if_pos hk]; exact hr')
       ·exact ih1
      ·-- an earlier store waits for the load; this one waits for that one
       have hgk:GoodTr P sp N L tab st0 (rk::trk):=GoodTr.tail (later:=l1) (by rw[←e1]; exact hgt)
       obtain⟨_,ok,hrk⟩:=hgk.inv
       have hkk:=jb2 hrk e3
       have hlt:trk.length<(l++r0::tr).length:=by rw[e1]; simp; omega
       have hDk:D (l++r0::tr).length=false:=by
        rw[Bool.eq_false_iff]
        intro hD
        have hdk:D trk.length=true:=by
         rcases jb1 hfo.1 trk.length ok hrk.op with h1|h1|h1|h1|h1
         ·omega
         ·rw[hkk.2.1]at h1; cases h1
         ·rw[Nat.zero_add]at h1
          exact jep ht hc _ trk.length (fun o' ho' e he hb=>hc _ o' ho' hD e he hb) h1
         ·rw[Nat.zero_add]at h1; have:=hlow _ _ h1; omega
         ·rw[hkk.2.2]at h1; cases h1.2
        have:=jep ht hc trk.length tr.length (fun o' ho' e he hb=>hc _ o' ho' hdk e he hb) e4
        rw[this]at hi; cases hi
       refine⟨?_,fun _=>trivial,.inr ⟨r::l1,rk,trk,by rw[List.cons_append,e1]; rfl,e2,e3,e4⟩⟩
       simp only[List.cons_append,jaK,hDk,Bool.false_eq_true,if_false]
       exact ih1
  ·have hoth:=jbS hr hk
   have hnone:find r.nw x=none:=by
    cases hn:find r.nw x with
    |none=>rfl
    |some y =>
     have h1:=(hoth.2.1 x y hn).1
     have h2:=jdF (later:=l++[r0]) (tr:=tr) (by simpa using hgt)
     have h3:jaf st0 tr≤jaf st0 (l++r0::tr):=by simpa using h2
     omega
   refine⟨?_,fun _=>trivial,?_⟩
   ·simp only[List.cons_append,jaK]
    split
    ·first|(rw[jaI,hnone]; exact ih1)|(rw[if_neg hk,jaI,hnone]; exact ih1)
    ·exact ih1
   ·rcases ih3 with h3|⟨l1,rk,trk,e1,e2,e3,e4⟩
    ·left
     show find r.hp x=_
     rw[hoth.1,jaI,hnone]; exact h3
    ·right
     exact⟨r::l1,rk,trk,by rw[List.cons_append,e1]; rfl,e2,e3,e4⟩
theorem jpE {D:Nat→Bool} {i:Nat} {o:Oper} (hns:jaJ o.op=false) (hnl:jaN o.op=false) (ho:L[i]?=some o) (hlow:∀i k,k∈tab.getD i []→k<i) (ht:jcv L tab) (hc:jcj L D) (hi:D i=false) {tr:List Rec} (htr:i<tr.length) {h:Nat} (hh:h<jaf st0 tr) :
  ∀{later:List Rec},GoodTr P sp N L tab st0 (later++tr)→find (jaK D st0 (later++tr)) h=find (jaK D st0 tr) h
 |[],_=>rfl
 |r::l,hg=>by
   obtain⟨hgt,o',hr⟩:=GoodTr.inv (tr:=l++tr) hg
   have ih:=jpE hns hnl ho hlow ht hc hi htr hh hgt
   simp only[List.cons_append,jaK]
   split
   ·rename_i hD
    split
    ·rename_i hk
     have:=jb2 hr hk
     rw[jgL hns hnl ho hr.op this.2.1 this.2.2 hlow ht hc hi (by simp; omega) (.inl this.1)]at hD
     cases hD
    ·rename_i hk
     rw[jaI]
     have:find r.nw h=none:=by
      cases hn:find r.nw h with
      |none=>rfl
      |some x =>
       have h1:=((jbS hr hk).2.1 h x hn).1
       have h2:=jdF hgt
       omega
     rw[this]
     exact ih
   ·exact ih
theorem jlO {D D':Nat→Bool} {tr:List Rec} {r:Rec} {o:Oper} (hns:jaJ o.op=false) (hnl:jaN o.op=false) (ho:L[tr.length]?=some o) (hlow:∀i k,k∈tab.getD i []→k<i) (ht:jcv L tab) (hc:jcj L D) (hi:D tr.length=false) (hbase:jjN st0)
  (hD1:D' tr.length=true) (hD2:∀j,j≠tr.length→D' j=D j) (hk:r.kd≠2) {h:Nat} :
  ∀{later:List Rec},GoodTr P sp N L tab st0 (later++r::tr)→find (jaK D' st0 (later++r::tr)) h=(find (jaK D st0 (later++r::tr)) h).or (find r.nw h)
 |[],hg=>by
  cases hg with
  |cons hgt o' hr =>
   simp only[List.nil_append,jaK,hD1,hi,if_true,if_neg hk,jaI,Bool.false_eq_true,if_false]
   rw[jg8 (D:=D) (D':=D') (fun j hj=>hD2 j (by omega))]
   cases hn:find r.nw h with
   |none=>simp
   |some x =>
    have h1:=((jbS hr hk).2.1 h x hn).1
    cases hd:find (jaK D st0 tr) h with
    |none=>rfl
    |some y =>
     have:=jvN hbase hgt h y hd
     omega
 |r' :: l,hg=>by
   obtain⟨hgt,o',hr⟩:=GoodTr.inv (tr:=l++r::tr) hg
   have ih:=jlO hns hnl ho hlow ht hc hi hbase hD1 hD2 hk (h:=h) hgt
   simp only[List.cons_append,jaK]
   rw[hD2 _ (by simp; omega)]
   split
   ·rename_i hD
    split
    ·rename_i hk'
     have:=jb2 hr hk'
     rw[jgL hns hnl ho hr.op this.2.1 this.2.2 hlow ht hc hi (by simp; omega) (.inl this.1)]at hD
     cases hD
    ·simp only[jaI,ih,Option.or_assoc]
   ·exact ih
theorem jpF {D D':Nat→Bool} {tr:List Rec} {r:Rec} (hi:D tr.length=false)
  (hD1:D' tr.length=true) (hD2:∀j,j≠tr.length→D' j=D j) (hk:r.kd≠2) (hn:r.nw=[]) :
  ∀{later:List Rec},jaK D' st0 (later++r::tr)=jaK D st0 (later++r::tr)
 |[]=>by
  simp only[List.nil_append,jaK,hD1,hi,if_true,if_neg hk,hn,Bool.false_eq_true,if_false]
  exact jg8 (fun j hj=>hD2 j (by omega))
 |r' :: l=>by
  have ih:=jpF hi hD1 hD2 hk hn (later:=l)
  simp only[List.cons_append,jaK]
  rw[hD2 _ (by simp; omega),ih]
theorem jlP {D:Nat→Bool} {i:Nat} (hall:∀j oj,j<i→L[j]?=some oj→(jaJ oj.op||jaN oj.op)=false→D j=true) {tr:List Rec} (hg:GoodTr P sp N L tab st0 tr) :
  tr.length≤i→jaK D st0 tr=jaP st0 tr∧∀h,h<jaf st0 tr→jaE D st0 tr h=true:=by
 induction hg with
 |nil=>exact fun _=>⟨rfl,fun _ _=>rfl⟩
 | @cons tr r hgt o hr ih =>
  intro hl
  have hl:tr.length+1≤i:=hl
  have ih:=ih (by omega)
  constructor
  ·simp only[jaK]
   show _=r.hp
   by_cases hk:r.kd=2
   ·rw[if_pos (hall _ o (by omega) hr.op (by rw[(jb2 hr hk).2.1,(jb2 hr hk).2.2]; rfl)),if_pos hk]
   ·have h1:=jbS hr hk
    rw[h1.1,if_neg hk,ih.1]
    split
    ·rfl
    ·rename_i hD
     cases hs:(jaJ o.op||jaN o.op)with
     |true=>rw[(h1.2.2 hs).1]; rfl
     |false=>exact absurd (hall _ o (by omega) hr.op hs) hD
  ·intro h hh
   have hh:h<r.nx:=hh
   simp only[jaE]
   split
   ·rename_i e
    rw[Nat.ble_eq]at e
    cases hs:(jaJ o.op||jaN o.op)with
    |false=>exact hall _ o (by omega) hr.op hs
    |true =>
     have:=((jbS hr (jpC hr hs)).2.2 hs).2
     omega
   ·rename_i e
    apply ih.2
    rw[Bool.eq_false_iff]at e
    have:¬(jaf st0 tr≤h):=fun hc=>e (Nat.ble_eq_true_of_le hc)
    omega
theorem jid {D:Nat→Bool} {i:Nat} (hall:∀j oj,i<j→L[j]?=some oj→(jaJ oj.op||jaN oj.op)=false→D j=false) {tr:List Rec} (htr:i<tr.length) :
  ∀{later:List Rec},GoodTr P sp N L tab st0 (later++tr)→jaK D st0 (later++tr)=jaK D st0 tr
 |[],_=>rfl
 |r::l,hg=>by
   obtain⟨hgt,o,hr⟩:=GoodTr.inv (tr:=l++tr) hg
   have ih:=jid hall htr hgt
   simp only[List.cons_append,jaK]
   split
   ·rename_i hD
    cases hs:(jaJ o.op||jaN o.op)with
    |false=>rw[hall _ o (by simp; omega) hr.op hs]at hD; cases hD
    |true =>
     have hk:=jpC hr hs
     rw[if_neg hk,((jbS hr hk).2.2 hs).1,ih]
     rfl
   ·exact ih
end
end Go.Sx
end

section
open Go.RowKit
namespace Go.Sx
theorem O.ok_eqB {p:Nat→Bool} {ρ ρ':Env} {B:Bd} {h:Nat} {w:World} (ha:∀x,p x=true→ρ' x=ρ x) (hh:ρ' h=ρ h):∀{o:O},o.allB p=true→o.ok ρ B w h→o.ok ρ' B w h
 | .box ty cs,hl,⟨k,h1,h2,h3⟩=>⟨k,hh.trans h1,h2,by
   rw[h3]; congr 3; exact List.map_congr_left fun a ha'=>(C.val_eqB ha (List.all_eq_true.1 hl a ha')).symm⟩
 | .row ty c,_,hr=>by unfold O.ok at *; rw[hh]; exact hr
 | .ext c,_,hr=>by unfold O.ok at *; rw[hh]; exact hr
 | .view r c _,hl,hr=>by
  have hl':p r=true:=hl
  unfold O.ok at *; rw[hh]; simp only; exact hr
 | .dead,_,_=>trivial
 | .nan _,_,hr=>by unfold O.ok at *; rw[hh]; exact hr
 | .err,_,hr=>by unfold O.ok at *; rw[hh]; exact hr
 | .atom,_,hr=>by unfold O.ok at *; rw[hh]; exact hr
 | .ebox cs,hl,⟨k,o,h1,h2,h3⟩=>⟨k,o,hh.trans h1,h2,fun j c hj=>by rw[C.val_eqB ha (List.all_eq_true.1 hl c (List.mem_of_getElem? hj))]; exact h3 j c hj⟩
 | .arr _ _ _ _,_,hr=>by unfold O.ok at *; rw[hh]; exact hr
 | .xext _,_,hr=>by unfold O.ok at *; rw[hh]; exact hr
 | .map _,_,hr=>by unfold O.ok at *; rw[hh]; exact hr
 | .rrow _,_,hr=>by unfold O.ok at *; rw[hh]; exact hr
def jcY (ρ ρ':Env) (lo hi:Nat):Env:=fun h=>match Nat.ble lo h&&Nat.blt h hi with
 |true=>ρ' h
 |false=>ρ h
section
variable [Globs] {P:Program} {sp:jab} {B:Bd} {N n0:Nat} {L:List Oper} {tab:List (List Nat)} {st0:St} {ρ0:Env} {w0:World} {ds:List Deferred}
structure At [Globs] (P:Program) (sp:jab) (N:Nat) (L:List Oper) (tab:List (List Nat)) (st0:St) (D D':Nat→Bool) (later:List Rec) (r:Rec) (tr:List Rec) (o:Oper):Prop where
 good:GoodTr P sp N L tab st0 (later++r::tr)
 len:(later++r::tr).length=L.length
 ok:RecOK P sp N L tab st0 tr r o
 slots:jcA L tab 0 L=true
 edges:jdO 0 L=true
 tabok:jcv L tab
 closed:jcj L D
 out:D tr.length=false
 bef:∀j,j∈tab.getD tr.length []→D j=true
 D1:D' tr.length=true
 D2:∀j,j≠tr.length→D' j=D j
 base:jjN st0
 baseTm:∀t v,jbg st0.tm t=some v→v.lt st0.nx
 n0:n0≤st0.nx
variable {D D':Nat→Bool} {later tr:List Rec} {r:Rec} {o:Oper} {a:Act} {w w':World} {ρ ρ':Env}
theorem At.low (h:At (n0:=n0) P sp N L tab st0 D D' later r tr o):∀i k,k∈tab.getD i []→k<i:=jvM h.edges h.tabok
theorem At.gr (h:At (n0:=n0) P sp N L tab st0 D D' later r tr o):GoodTr P sp N L tab st0 (r::tr):=GoodTr.tail h.good
theorem At.gt (h:At (n0:=n0) P sp N L tab st0 D D' later r tr o):GoodTr P sp N L tab st0 tr:=h.gr.inv.1
theorem At.mono (h:At (n0:=n0) P sp N L tab st0 D D' later r tr o):∀j,D j=true→D' j=true:=fun j hj=>by
 by_cases e:j=tr.length
 ·rw[e]; exact h.D1
 ·rw[h.D2 j e]; exact hj
theorem At.nx (h:At (n0:=n0) P sp N L tab st0 D D' later r tr o):r.nx≤jaf st0 (later++r::tr):=jdF (tr:=r::tr) h.good
theorem At.alive_mono (h:At (n0:=n0) P sp N L tab st0 D D' later r tr o) {x:Nat} (hx:jbf st0 (later++r::tr) D x=true):jbf st0 (later++r::tr) D' x=true:=by
 simp only[jbf,Bool.and_eq_true]at hx ⊢
 exact⟨hx.1,je0 h.mono _ _ hx.2⟩
theorem At.alive_out (h:At (n0:=n0) P sp N L tab st0 D D' later r tr o) {x:Nat} (hx:jbf st0 (later++r::tr) D x=true):¬(jaf st0 tr≤x∧x<r.nx):=by
 rintro ⟨h1,h2⟩
 simp only[jbf,Bool.and_eq_true]at hx
 rw[jtT h.good h1 h2,h.out]at hx
 cases hx.2
theorem At.alive_new (h:At (n0:=n0) P sp N L tab st0 D D' later r tr o) {q:Nat→Bool} (hq:∀j,q j=true→D' j=true) {x:Nat}
  (hx:(Nat.blt x r.nx&&(Nat.ble (jaf st0 tr) x||jaE q st0 tr x))=true):jbf st0 (later++r::tr) D' x=true:=by
 simp only[Bool.and_eq_true,Nat.blt_eq,Bool.or_eq_true]at hx
 simp only[jbf,Bool.and_eq_true,Nat.blt_eq]
 refine⟨Nat.lt_of_lt_of_le hx.1 h.nx,?_⟩
 by_cases hle:jaf st0 tr≤x
 ·rw[jtT h.good hle hx.1]; exact h.D1
 ·have h1:jaE q st0 tr x=true:=by
   rcases hx.2 with h1|h1
   ·rw[Nat.ble_eq]at h1; exact absurd h1 hle
   ·exact h1
  have:later++r::tr=(later++[r])++tr:=by simp
  rw[this,jib (by rw[←this]; exact h.good) (by omega)]
  exact je0 hq _ _ h1
theorem jno (h:At (n0:=n0) P sp N L tab st0 D D' later r tr o) {x:Nat} (hx:jbf st0 (later++r::tr) D x=true):jcY ρ ρ' (jaf st0 tr) r.nx x=ρ x:=by
 have:=h.alive_out hx
 unfold jcY
 split
 ·rename_i e
  simp only[Bool.and_eq_true,Nat.ble_eq,Nat.blt_eq]at e
  exact absurd e this
 ·rfl
theorem jie {lo hi:Nat} (ha:jan lo ρ ρ'):jan hi ρ' (jcY ρ ρ' lo hi):=by
 intro x hx
 unfold jcY
 split
 ·rfl
 ·rename_i e
  have:¬lo≤x:=fun hc=>by
   rw[Bool.eq_false_iff]at e
   exact e (by simp only[Bool.and_eq_true,Nat.ble_eq,Nat.blt_eq]; exact⟨hc,hx⟩)
  exact(ha x (by omega)).symm
theorem jpG {lo hi:Nat} {m:Nat} (hm:m≤lo) (ha:jan m ρ0 ρ):jan m ρ0 (jcY ρ ρ' lo hi):=by
 intro x hx
 unfold jcY
 split
 ·rename_i e
  simp only[Bool.and_eq_true,Nat.ble_eq,Nat.blt_eq]at e
  omega
 ·exact ha x hx
theorem At.n0le (h:At (n0:=n0) P sp N L tab st0 D D' later r tr o):n0≤jaf st0 tr:=Nat.le_trans h.n0 (jk4 h.gt)
theorem jnp:∀{hp:Hp} {x:Nat},find (hp.map fun y=>(y.1,O.atom)) x=(find hp x).map fun _=>O.atom
 |[],_=>rfl
 |(k,o)::hp,x=>by
  simp only[List.map_cons,find]
  split
  ·rfl
  ·exact jnp
theorem jmb (h:At (n0:=n0) P sp N L tab st0 D D' later r tr o) (hinv:Inv ds L st0 B N n0 ρ0 w0 (later++r::tr) D a w ρ) {ρ2:Env} (hE:∀x,jbf st0 (later++r::tr) D x=true→ρ2 x=ρ x)
  (hnew:∀x,jaf st0 tr≤x→x<r.nx→C.one r.hp (.o x)=true→(ρ2 x).oneCell'=true):∀x,jbf st0 (later++r::tr) D' x=true→jbQ st0 (later++r::tr) x=true→(ρ2 x).oneCell'=true:=by
 intro x hx hb
 by_cases hn:jaf st0 tr≤x∧x<r.nx
 ·rw[juw h.good hn.1 hn.2]at hb
  exact hnew x hn.1 hn.2 hb
 ·have hx2:=hx
  simp only[jbf,Bool.and_eq_true,Nat.blt_eq]at hx2
  have hal:jbf st0 (later++r::tr) D x=true:=by
   simp only[jbf,Bool.and_eq_true,Nat.blt_eq]
   refine⟨hx2.1,?_⟩
   rw[jw5 (q:=D') (q':=D) (fun j hj=>(h.D2 j hj).symm) hn h.good hx2.1]
   exact hx2.2
  rw[hE x hal]
  exact hinv.one x hal hb
theorem jif (h:At (n0:=n0) P sp N L tab st0 D D' later r tr o) (hinv:Inv ds L st0 B N n0 ρ0 w0 (later++r::tr) D a w ρ) (hk:r.kd≠2) (hn:r.nw=[]) (hnx:r.nx=jaf st0 tr)
  (hv:r.v.allB (fun x=>Nat.blt x r.nx&&(Nat.ble (jaf st0 tr) x||jaE (fun j=>(tab.getD tr.length []).contains j) st0 tr x))=true) :
  Inv ds L st0 B N n0 ρ0 w0 (later++r::tr) D' (a.put o.dst (r.v.val ρ)) w ρ:=by
 have he:=jpF (st0:=st0) (later:=later) h.out h.D1 h.D2 hk hn
 have hv':r.v.allB (jbf st0 (later++r::tr) D')=true:=V.allB_mono (fun x hx=>h.alive_new (fun j hj=>h.mono j (h.bef j (by simpa using hj))) hx) hv
 refine⟨joA h.slots h.tabok h.closed h.out h.ok.op h.ok.dst h.D1 h.D2 hinv (fun _ _=>rfl) hv',by rw[jcG]; exact hinv.size,by rw[jch]; exact hinv.defers,by rw[he]; exact hinv.heap,?_,hinv.le,hinv.agree,hinv.below,jmb h hinv (fun _ _=>rfl) (fun x h1 h2 _=>by omega)⟩
 intro x ob hf
 rw[he]at hf
 have:=hinv.hal x ob hf
 exact⟨h.alive_mono this.1,O.allB_mono (fun y hy=>h.alive_mono hy) this.2⟩
theorem jw7 (h:At (n0:=n0) P sp N L tab st0 D D' later r tr o) (hinv:Inv ds L st0 B N n0 ρ0 w0 (later++r::tr) D a w ρ) (hns:jaJ o.op=false) (hnl:jaN o.op=false) (hk:r.kd≠2)
  (hv:r.v.allB (fun x=>Nat.blt x r.nx&&(Nat.ble (jaf st0 tr) x||jaE (fun j=>(tab.getD tr.length []).contains j) st0 tr x))=true)
  (hnw:∀x ob,find r.nw x=some ob→ob.allB (fun x=>Nat.blt x r.nx&&(Nat.ble (jaf st0 tr) x||jaE (fun j=>(tab.getD tr.length []).contains j) st0 tr x))=true)
  (hag:jan (jaf st0 tr) ρ ρ') (hbl:Bel B w w') (hbw:Below w.heap.size w w') (hnew:HRel ρ' B r.nw r.nx w') (hfresh:∀x ob k,find r.nw x=some ob→ob.blk (ρ' x)=some k→w.heap.size≤k) :
  Inv ds L st0 B N n0 ρ0 w0 (later++r::tr) D' (a.put o.dst (r.v.val (jcY ρ ρ' (jaf st0 tr) r.nx))) w' (jcY ρ ρ' (jaf st0 tr) r.nx):=by
 have hq:∀j,(tab.getD tr.length []).contains j=true→D' j=true:=fun j hj=>h.mono j (h.bef j (by simpa using hj))
 have hv':r.v.allB (jbf st0 (later++r::tr) D')=true:=V.allB_mono (fun x hx=>h.alive_new hq hx) hv
 have hE1:∀x,jbf st0 (later++r::tr) D x=true→jcY ρ ρ' (jaf st0 tr) r.nx x=ρ x:=fun x hx=>jno h hx
 have hE2:jan r.nx ρ' (jcY ρ ρ' (jaf st0 tr) r.nx):=jie hag
 have hins:∀x,find (jaK D' st0 (later++r::tr)) x=(find (jaK D st0 (later++r::tr)) x).or (find r.nw x):=fun x =>
  jlO hns hnl h.ok.op h.low h.tabok h.closed h.out h.base h.D1 h.D2 hk h.good
 have hkey:∀k ob,find r.nw k=some ob→jaf st0 tr≤k∧k<r.nx:=(jbS h.ok hk).2.1
 have hnew':=hnew.agree hE2
 refine⟨joA h.slots h.tabok h.closed h.out h.ok.op h.ok.dst h.D1 h.D2 hinv hE1 hv',by rw[jcG]; exact hinv.size,by rw[jch]; exact hinv.defers,⟨?_,?_,hinv.heap.glob.bel hbl⟩,?_,hbl.old hinv.le,jpG h.n0le hinv.agree,hinv.below.trans hbl,jmb h hinv hE1 (fun x h1 h2 h3=>by
  rw[hE2 x h2]
  refine C.one_val (c:=.o x) hnew ?_
  have hh:=(jbS h.ok hk).1
  have hnone:find (jaP st0 tr) x=none:=by
   cases hf:find (jaP st0 tr) x with
   |none=>rfl
   |some y=>have:=(keys h.gt h.base x y hf).1; omega
  simp only[C.one,hh,jaI,hnone]at h3
  simp only[C.one]
  cases hf:find r.nw x with
  |none=>rw[hf]at h3; cases h3
  |some y=>rw[hf]at h3; exact h3)⟩
 ·intro x ob hf
  rw[hins]at hf
  cases hd:find (jaK D st0 (later++r::tr)) x with
  |some y =>
   rw[hd]at hf
   cases hf
   have h1:=hinv.heap.ok x ob hd
   have h2:=hinv.hal x ob hd
   exact⟨h1.1,h1.2.1,O.ok_eqB hE1 (hE1 x h2.1) h2.2 (O.ok_below hbw hinv.le h1.2.2)⟩
  |none =>
   rw[hd]at hf
   have hf:find r.nw x=some ob:=hf
   have h1:=hnew'.ok x ob hf
   exact⟨Nat.lt_of_lt_of_le h1.1 h.nx,O.lt_mono h.nx h1.2.1,h1.2.2⟩
 ·intro x ob x' ob' k hf hf' hne hb
  rw[hins]at hf hf'
  have old:∀y oy,find (jaK D st0 (later++r::tr)) y=some oy→∀k,oy.blk (jcY ρ ρ' (jaf st0 tr) r.nx y)=some k→k<w.heap.size:=fun y oy hy k hk=>by
   rw[hE1 y (hinv.hal y oy hy).1]at hk
   exact(O.blk_lt (hinv.heap.ok y oy hy).2.2 hk).1
  have new:∀y oy,find r.nw y=some oy→∀k,oy.blk (jcY ρ ρ' (jaf st0 tr) r.nx y)=some k→w.heap.size≤k:=fun y oy hy k hk=>by
   rw[hE2 y (hkey y oy hy).2]at hk
   exact hfresh y oy k hy hk
  cases hd:find (jaK D st0 (later++r::tr)) x with
  |some y =>
   rw[hd]at hf
   cases hf
   cases hd':find (jaK D st0 (later++r::tr)) x' with
   |some y' =>
    rw[hd']at hf'
    cases hf'
    rw[hE1 x (hinv.hal x ob hd).1]at hb
    rw[hE1 x' (hinv.hal x' ob' hd').1]
    exact hinv.heap.apart x ob x' ob' k hd hd' hne hb
   |none =>
    rw[hd']at hf'
    intro hb'
    have h1:=old x ob hd k hb
    have h2:=new x' ob' hf' k hb'
    omega
  |none =>
   rw[hd]at hf
   cases hd':find (jaK D st0 (later++r::tr)) x' with
   |some y' =>
    rw[hd']at hf'
    cases hf'
    intro hb'
    have h1:=old x' ob' hd' k hb'
    have h2:=new x ob hf k hb
    omega
   |none =>
    rw[hd']at hf'
    exact hnew'.apart x ob x' ob' k hf hf' hne hb
 ·intro x ob hf
  rw[hins]at hf
  cases hd:find (jaK D st0 (later++r::tr)) x with
  |some y =>
   rw[hd]at hf
   cases hf
   have:=hinv.hal x ob hd
   exact⟨h.alive_mono this.1,O.allB_mono (fun y hy=>h.alive_mono hy) this.2⟩
  |none =>
   rw[hd]at hf
   have hf:find r.nw x=some ob:=hf
   have h1:=hkey x ob hf
   refine⟨h.alive_new (q:=fun _=>false) (fun _ hj=>by cases hj) ?_,O.allB_mono (fun y hy=>h.alive_new hq hy) (hnw x ob hf)⟩
   simp only[Bool.and_eq_true,Nat.blt_eq,Bool.or_eq_true]
   exact⟨h1.2,.inl (Nat.ble_eq_true_of_le h1.1)⟩
theorem jux (h:At (n0:=n0) P sp N L tab st0 D D' later r tr o) (hinv:Inv ds L st0 B N n0 ρ0 w0 (later++r::tr) D a w ρ) (hk:r.kd=2)
  (hv:r.v.allB (fun x=>Nat.blt x r.nx&&(Nat.ble (jaf st0 tr) x||jaE (fun j=>(tab.getD tr.length []).contains j) st0 tr x))=true)
  (hnw:∀x ob,find r.hp x=some ob→ob.allB (fun x=>Nat.blt x r.nx&&(Nat.ble (jaf st0 tr) x||jaE (fun j=>(tab.getD tr.length []).contains j) st0 tr x))=true)
  (hag:jan (jaf st0 tr) ρ ρ') (hbl:Bel B w w') (hnew:HRel ρ' B r.hp r.nx w') :
  Inv ds L st0 B N n0 ρ0 w0 (later++r::tr) D' (a.put o.dst (r.v.val (jcY ρ ρ' (jaf st0 tr) r.nx))) w' (jcY ρ ρ' (jaf st0 tr) r.nx):=by
 have hq:∀j,(tab.getD tr.length []).contains j=true→D' j=true:=fun j hj=>h.mono j (h.bef j (by simpa using hj))
 have hv':r.v.allB (jbf st0 (later++r::tr) D')=true:=V.allB_mono (fun x hx=>h.alive_new hq hx) hv
 have hE1:∀x,jbf st0 (later++r::tr) D x=true→jcY ρ ρ' (jaf st0 tr) r.nx x=ρ x:=fun x hx=>jno h hx
 have hE2:jan r.nx ρ' (jcY ρ ρ' (jaf st0 tr) r.nx):=jie hag
 have hfo:=jb2 h.ok hk
 have hall:∀j oj,tr.length<j→L[j]?=some oj→(jaJ oj.op||jaN oj.op)=false→D' j=false:=fun j oj hij hj hs=>by
  rw[h.D2 j (by omega)]
  simp only[Bool.or_eq_false_iff]at hs
  exact jgL hfo.2.1 hfo.2.2 h.ok.op hj hs.1 hs.2 h.low h.tabok h.closed h.out hij (.inr hfo.1)
 have hbefore:∀j oj,j<tr.length→L[j]?=some oj→(jaJ oj.op||jaN oj.op)=false→D j=true:=fun j oj hij hj hs=>by
  simp only[Bool.or_eq_false_iff]at hs
  rcases jb1 hfo.1 j oj hj with h1|h1|h1|h1|h1
  ·omega
  ·rw[hs.1]at h1; cases h1
  ·rw[Nat.zero_add]at h1; exact h.bef _ h1
  ·rw[Nat.zero_add]at h1; have:=h.low _ _ h1; omega
  ·rw[hs.2]at h1; cases h1.2
 have hhp:jaK D' st0 (later++r::tr)=r.hp:=by
  rw[jid hall (i:=tr.length) (tr:=r::tr) (by simp) h.good]
  simp only[jaK,h.D1,hk,if_true]
 have hnew':=hnew.agree hE2
 refine⟨joA h.slots h.tabok h.closed h.out h.ok.op h.ok.dst h.D1 h.D2 hinv hE1 hv',by rw[jcG]; exact hinv.size,by rw[jch]; exact hinv.defers,by rw[hhp]; exact hnew'.mono_nx h.nx,?_,hbl.old hinv.le,jpG h.n0le hinv.agree,hinv.below.trans hbl,jmb h hinv hE1 (fun x h1 h2 h3=>by rw[hE2 x h2]; exact C.one_val (c:=.o x) hnew h3)⟩
 intro x ob hf
 rw[hhp]at hf
 refine⟨h.alive_new (q:=D) h.mono ?_,O.allB_mono (fun y hy=>h.alive_new hq hy) (hnw x ob hf)⟩
 have h1:=(hnew.ok x ob hf).1
 simp only[Bool.and_eq_true,Nat.blt_eq,Bool.or_eq_true]
 refine⟨h1,?_⟩
 by_cases hle:jaf st0 tr≤x
 ·exact .inl (Nat.ble_eq_true_of_le hle)
 ·exact .inr ((jlP hbefore h.gt (Nat.le_refl _)).2 x (by omega))
theorem jw8 (h:At (n0:=n0) P sp N L tab st0 D D' later r tr o) (hinv:Inv ds L st0 B N n0 ρ0 w0 (later++r::tr) D a w ρ) (hns:jaJ o.op=false) (hnl:jaN o.op=false):HRel ρ B (jhB (tab.getD tr.length []) st0 tr) (jaf st0 tr) w:=by
 have key:∀x ob,find (jhB (tab.getD tr.length []) st0 tr) x=some ob→find (jaK D st0 (later++r::tr)) x=some ob∧x<jaf st0 tr∧ob.lt (jaf st0 tr):=by
  intro x ob hf
  unfold jhB at hf
  rw[jg6 (p:=fun x=>jaE (fun j=>(tab.getD tr.length []).contains j) st0 tr x)]at hf
  split at hf
  ·rename_i hb
   have h1:=keys h.gt h.base x ob hf
   refine⟨?_,h1⟩
   have h2:=jzu hns hnl h.ok.op h.low h.base h.bef h.gt (Nat.le_refl _) x ob hf hb
   rw[jpE hns hnl h.ok.op h.low h.tabok h.closed h.out (tr:=r::tr) (by simp) (show x<r.nx from Nat.lt_of_lt_of_le h1.1 h.ok.nx_le) h.good]
   simp only[jaK,h.out,Bool.false_eq_true,if_false]
   exact h2
  ·cases hf
 exact⟨fun x ob hf=>⟨(key x ob hf).2.1,(key x ob hf).2.2,(hinv.heap.ok x ob (key x ob hf).1).2.2⟩,
  fun x ob x' ob' k hf hf'=>hinv.heap.apart x ob x' ob' k (key x ob hf).1 (key x' ob' hf').1,hinv.heap.glob⟩
theorem jvO (h:At (n0:=n0) P sp N L tab st0 D D' later r tr o) (hinv:Inv ds L st0 B N n0 ρ0 w0 (later++r::tr) D a w ρ) (hns:jaJ o.op=false) (hnl:jaN o.op=false) {lf:Bool} (hf:jdj tab tr.length lf 0 L=true):HRel ρ B (jaP st0 tr) (jaf st0 tr) w:=by
 have hbefore:∀j oj,j<tr.length→L[j]?=some oj→(jaJ oj.op||jaN oj.op)=false→D j=true:=fun j oj hij hj hs=>by
  simp only[Bool.or_eq_false_iff]at hs
  rcases jb1 hf j oj hj with h1|h1|h1|h1|h1
  ·omega
  ·rw[hs.1]at h1; cases h1
  ·rw[Nat.zero_add]at h1; exact h.bef _ h1
  ·rw[Nat.zero_add]at h1; have:=h.low _ _ h1; omega
  ·rw[hs.2]at h1; cases h1.2
 have hall:∀j oj,tr.length<j→L[j]?=some oj→(jaJ oj.op||jaN oj.op)=false→D j=false:=fun j oj hij hj hs=>by
  simp only[Bool.or_eq_false_iff]at hs
  exact jgL hns hnl h.ok.op hj hs.1 hs.2 h.low h.tabok h.closed h.out hij (.inr hf)
 have e:jaK D st0 (later++r::tr)=jaP st0 tr:=by
  rw[jid hall (i:=tr.length) (tr:=r::tr) (by simp) h.good]
  simp only[jaK,h.out,Bool.false_eq_true,if_false]
  exact(jlP hbefore h.gt (Nat.le_refl _)).1
 have h1:=hinv.heap
 rw[e]at h1
 exact⟨fun x ob hf=>⟨(keys h.gt h.base x ob hf).1,(keys h.gt h.base x ob hf).2,(h1.ok x ob hf).2.2⟩,h1.apart,h1.glob⟩
theorem jz4 (hsp:jac P sp) (h:At (n0:=n0) P sp N L tab st0 D D' later r tr o) (hinv:Inv ds L st0 B N n0 ρ0 w0 (later++r::tr) D a w ρ) {K:Act→World→Prop} {Q:Exit→Act→World→Prop}
  (hK:∀ρ' a' w',Inv ds L st0 B N n0 ρ0 w0 (later++r::tr) D' a' w' ρ'→K a' w'):wpOp P L.toArray Q tr.length K a w:=by
 have hgt:=h.gt
 have hreads:=jw6 h.good h.slots h.tabok h.closed h.out h.ok.op h.bef h.baseTm hinv
 have ho:L.toArray[tr.length]?=some o:=by simpa using h.ok.op
 unfold wpOp
 rw[ho]
 dsimp only
 cases h.ok.kind with
 |skip g e =>
  rw[jdP h.slots h.tabok h.closed h.out h.ok.op h.bef hinv g]
  refine hK ρ _ _ ?_
  have:=jif h hinv (by rw[e]; exact(by decide:(0:Nat)≠2)) (by rw[e]) (by rw[e]) (by rw[e]; rfl)
  rw[show r.v.val ρ=undef by rw[e]; rfl]at this
  exact this
 |pure g ob hs ob' hk e =>
  rw[jdP h.slots h.tabok h.closed h.out h.ok.op h.bef hinv g]
  left
  have hh:HRel ρ B [] (jaf st0 tr) w:=⟨(fun _ _ hf=>by cases hf),(fun _ _ _ _ _ hf=>by cases hf),hinv.heap.glob⟩
  have hrun:=jc2 hh hreads hs ob'
  unfold Oper.wp
  rw[hrun.1]
  refine hK ρ _ _ (jif h hinv (by rw[e]; exact(by decide:(0:Nat)≠2)) (by rw[e]) (by rw[e]) ?_)
  have:=jrA hk
  have e2:r.nx=jaf st0 tr:=by rw[e]
  rw[e2]
  exact this
 |built g hbo ob hs ob' hk e =>
  rw[jdP h.slots h.tabok h.closed h.out h.ok.op h.bef hinv g]
  left
  have hfo:∀x ob,find (jhC (tab.getD tr.length []) st0 tr) x=some ob→ob=.atom∧x<jaf st0 tr∧jaE (fun j=>(tab.getD tr.length []).contains j) st0 tr x=true∧jbQ st0 tr x=true:=by
   intro x ob hf
   unfold jhC at hf
   rw[jnp]at hf
   cases hy:find ((jaP st0 tr).filter fun x=>jaE (fun j=>(tab.getD tr.length []).contains j) st0 tr x.1&&jbQ st0 tr x.1) x with
   |none=>rw[hy]at hf; cases hf
   |some y =>
    rw[hy]at hf
    cases hf
    rw[jg6 (p:=fun x=>jaE (fun j=>(tab.getD tr.length []).contains j) st0 tr x&&jbQ st0 tr x)]at hy
    split at hy
    ·rename_i hp
     simp only[Bool.and_eq_true]at hp
     exact⟨rfl,(keys h.gt h.base x y hy).1,hp.1,hp.2⟩
    ·cases hy
  have hh:HRel ρ B (jhC (tab.getD tr.length []) st0 tr) (jaf st0 tr) w:=by
   refine⟨fun x ob hf=>?_,fun x ob x' ob' k hf hf' _ hb=>?_,hinv.heap.glob⟩
   ·obtain⟨rfl,h1,h2,h3⟩:=hfo x ob hf
    refine⟨h1,trivial,?_⟩
    have e1:later++r::tr=(later++[r])++tr:=by simp
    refine hinv.one x ?_ ?_
    ·simp only[jbf,Bool.and_eq_true,Nat.blt_eq]
     refine⟨Nat.lt_of_lt_of_le h1 (Nat.le_trans h.ok.nx_le h.nx),?_⟩
     rw[e1,jib (by rw[←e1]; exact h.good) h1]
     exact je0 (fun j hj=>h.bef j (by simpa using hj)) _ _ h2
    ·rw[e1,ji2 (by rw[←e1]; exact h.good) h1]
     exact h3
   ·obtain⟨rfl,_⟩:=hfo x ob hf
    cases hb
  have hrun:=jc2 hh hreads hs ob'
  unfold Oper.wp
  rw[hrun.1]
  refine hK ρ _ _ (jif h hinv (by rw[e]; exact(by decide:(0:Nat)≠2)) (by rw[e]) (by rw[e]) ?_)
  have:=jrA hk
  have e2:r.nx=jaf st0 tr:=by rw[e]
  rw[e2]
  exact this
 |load g hp hl x xo hx hf hb hst ob hs ob' hk e =>
  rw[jdP h.slots h.tabok h.closed h.out h.ok.op h.bef hinv g]
  left
  have hxl:=(keys h.gt h.base x xo hf).1
  have hin:=jzv h.low h.base h.bef h.gt hf hb hst
  have htl:=(jpD h.ok.op hl hp hx hf (by rw[e]) h.low h.tabok h.closed h.out hxl hin h.good).1
  have hok:=hinv.heap.ok x xo htl
  have hh:HRel ρ B [(x,xo)] (jaf st0 tr) w:=by
   refine⟨fun y oy hy=>?_,fun y oy y' oy' k hy hy' hne hby=>?_,hinv.heap.glob⟩
   ·simp only[find]at hy
    split at hy
    ·rename_i e1; subst e1; cases hy
     exact⟨hxl,(keys h.gt h.base x xo hf).2,hok.2.2⟩
    ·cases hy
   ·simp only[find]at hy hy'
    split at hy
    ·rename_i e1; subst e1
     rw[if_neg hne]at hy'
     cases hy'
    ·cases hy
  have hrun:=jc2 hh hreads hs ob'
  unfold Oper.wp
  rw[hrun.1]
  refine hK ρ _ _ (jif h hinv (by rw[e]; exact(by decide:(0:Nat)≠2)) (by rw[e]) (by rw[e]) ?_)
  have:=jrA hk
  have e2:r.nx=jaf st0 tr:=by rw[e]
  rw[e2]
  exact this
 |mono g hp hnl hm res hs ob hk e =>
  rw[jdP h.slots h.tabok h.closed h.out h.ok.op h.bef hinv g]
  left
  have hsnd:=jfE hsp (jw8 h hinv hp hnl) hinv.le hreads hs ob
  rw[hm]at hsnd
  refine hsnd K Q fun ρ' w' hl=>?_
  have ev:r.v=res.v:=by rw[e]
  have en:r.nw=jds (jaf st0 tr) res.hp:=by rw[e]
  have ex:r.nx=res.nx:=by rw[e]
  have hsub:∀x ob,find r.nw x=some ob→find res.hp x=some ob∧jaf st0 tr≤x:=fun x ob hf=>by
   rw[en,jpB]at hf
   split at hf
   ·rename_i hle; exact⟨hf,by simpa [Nat.ble_eq]using hle⟩
   ·cases hf
  have:=jw7 h hinv hp hnl (by rw[e]; exact(by decide:(1:Nat)≠2)) (by rw[ev,ex]; exact jrA hk) (fun x ob hf=>by rw[ex]; rw[en]at hf; exact(jnm hk hf).2) hl.agree hl.below (hl.mono rfl)
   (by rw[ex]; exact hl.heap.sub fun k o hf=>(hsub k o hf).1) (fun x ob k hf hb=>hl.fresh rfl x ob k (hsub x ob hf).2 (hsub x ob hf).1 hb)
  have e3:res.v.val ρ'=r.v.val (jcY ρ ρ' (jaf st0 tr) r.nx):=by
   rw[ev]
   exact(V.val_agree (jie hl.agree) (by rw[ex]; exact hl.lt)).symm
  rw[e3]
  exact hK _ _ _ this
 |effect g hp hnl hf res hs ob hk e =>
  rw[jdP h.slots h.tabok h.closed h.out h.ok.op h.bef hinv g]
  left
  have hsnd:=jfE hsp (jvO h hinv hp hnl hf) hinv.le hreads hs ob
  refine hsnd K Q fun ρ' w' hl=>?_
  have ev:r.v=res.v:=by rw[e]
  have eh:r.hp=res.hp:=by rw[e]
  have ex:r.nx=res.nx:=by rw[e]
  have:=jux h hinv (by rw[e]) (by rw[ev,ex]; exact jrA hk) (fun x ob hf=>by rw[ex]; rw[eh]at hf; exact(jnm hk hf).2) hl.agree hl.below (by rw[ex,eh]; exact hl.heap)
  have e3:res.v.val ρ'=r.v.val (jcY ρ ρ' (jaf st0 tr) r.nx):=by
   rw[ev]
   exact(V.val_agree (jie hl.agree) (by rw[ex]; exact hl.lt)).symm
  rw[e3]
  exact hK _ _ _ this
def DL (l:Array Bool) (j:Nat):Bool:=l.getD j false
theorem juy {l:Array Bool} {i:Nat} (hc:jcj L (DL l)) (hb:∀o,L[i]?=some o→∀e∈o.after.toList,Region.binds .any e=true→DL l e.on=true):jcj L (DL (l.setIfInBounds i true)):=by
 intro j o ho hD e he hbd
 by_cases hij:j=i
 ·subst hij
  exact getD_set_true (hb o ho e he hbd)
 ·unfold DL at hD
  rw[getD_set_ne false (Ne.symm hij)]at hD
  exact getD_set_true (hc j o ho hD e he hbd)
theorem jnq {l:Array Bool} (hl:l.size=L.length) (he:jdO 0 L=true) (hr:Region.ready .any L.toArray l=[]):∀j,j<L.length→DL l j=true:=by
 intro j
 induction j using Nat.strongRecOn with
 |_ j ih =>
  intro hj
  cases hD:DL l j with
  |true=>rfl
  |false =>
   exfalso
   have hmem:j∈Region.ready .any L.toArray l:=by
    rw[mem_ready]
    refine⟨?_,L[j],by simp[hj],fun e hem hb=>?_⟩
    ·unfold DL at hD
     simp only[Array.getD_eq_getD_getElem?,Array.getElem?_eq_getElem (show j<l.size by omega),Option.getD_some]at hD ⊢
     exact hD
    ·have:=jic he j L[j] (by simp[hj]) e (by simpa using hem) hb
     exact ih e.on (by omega) (by omega)
   rw[hr]at hmem
   cases hmem
theorem count_set {l:Array Bool} {i:Nat} (hi:i<l.size) (h:l[i]=false):(l.setIfInBounds i true).toList.count false+1=l.toList.count false:=by
 have h1:(l.setIfInBounds i true).toList=l.toList.set i true:=by simp
 rw[h1,List.count_set (by simpa using hi)]
 have h2:l.toList[i]'(by simpa using hi)=false:=by simpa using h
 have h3:0<l.toList.count false:=List.count_pos_iff.2 (by rw[←h2]; exact List.getElem_mem _)
 rw[show l.toList[i]'(by simpa using hi)=false from h2]
 simp only[beq_self_eq_true,if_true,show(true==false)=false from rfl,Bool.false_eq_true,if_false]
 omega
theorem jz5 (hsp:jac P sp) {T:List Rec} (hg:GoodTr P sp N L tab st0 T) (hlen:T.length=L.length) (hs:jcA L tab 0 L=true) (he:jdO 0 L=true) (ht:jcv L tab) (hbase:jjN st0)
  (hbt:∀t v,jbg st0.tm t=some v→v.lt st0.nx) (hn0:n0≤st0.nx) {Q:Exit→Act→World→Prop}
  (hQ:∀D ρ a w,(∀j,j<L.length→D j=true)→Inv ds L st0 B N n0 ρ0 w0 T D a w ρ→Q .normal a w) :
  ∀(fuel:Nat) (l:Array Bool) (a:Act) (w:World) (ρ:Env),l.size=L.length→jcj L (DL l)→l.toList.count false≤fuel→Inv ds L st0 B N n0 ρ0 w0 T (DL l) a w ρ→wpAny P .any L.toArray Q fuel l a w:=by
 intro fuel
 induction fuel with
 |zero =>
  intro l a w ρ hl hc hcount hinv
  have hall:∀j,j<l.size→l[j]?≠some false:=fun j hj h=>by
   have hm:false∈l.toList:=by rw[Array.mem_toList_iff]; exact Array.mem_of_getElem? h
   have:=List.count_pos_iff.2 hm
   omega
  have hr:Region.ready .any L.toArray l=[]:=by
   apply List.eq_nil_iff_forall_not_mem.2
   intro j hj
   obtain⟨h0,o,ho,_⟩:=mem_ready.1 hj
   have hlt:j<l.size:=by
    have:=(Array.getElem?_eq_some_iff.1 ho).1
    simp at this
    omega
   apply hall j hlt
   simp only[Array.getD_eq_getD_getElem?,Array.getElem?_eq_getElem hlt,Option.getD_some]at h0
   rw[Array.getElem?_eq_getElem hlt,h0]
  exact⟨hr,hQ _ ρ a w (jnq hl he hr) hinv⟩
 |succ fuel ih =>
  intro l a w ρ hl hc hcount hinv
  refine⟨fun hr=>hQ _ ρ a w (jnq hl he hr) hinv,fun i hi=>?_⟩
  obtain⟨h0,o,ho,hed⟩:=mem_ready.1 hi
  have ho':L[i]?=some o:=by simpa using ho
  have hiL:i<L.length:=(List.getElem?_eq_some_iff.1 ho').1
  have hil:i<l.size:=by omega
  have hlf:l[i]=false:=by simpa [hil]using h0
  have hedge:∀o',L[i]?=some o'→∀e∈o'.after.toList,Region.binds .any e=true→DL l e.on=true:=fun o' ho'' e hem hb=>by
   rw[ho']at ho''
   cases ho''
   exact hed e (by simpa using hem) hb
  obtain⟨later,r,tr,o2,rfl,htl,hrec⟩:=jzt hg (show i<T.length by omega)
  subst htl
  have hoo:o2=o:=by
   have:=hrec.op
   rw[ho']at this
   exact(Option.some.inj this).symm
  subst hoo
  have hat:At (n0:=n0) P sp N L tab st0 (DL l) (DL (l.setIfInBounds tr.length true)) later r tr o2:=by
   refine⟨hg,hlen,hrec,hs,he,ht,hc,?_,fun j hj=>jep ht hc _ j hedge hj,?_,fun j hj=>?_,hbase,hbt,hn0⟩
   ·unfold DL; simp[hil,hlf]
   ·unfold DL; simp[hil]
   ·unfold DL; exact getD_set_ne false (Ne.symm hj)
  refine jz4 hsp hat hinv fun ρ' a' w' hinv'=>?_
  have:=count_set hil hlf
  exact ih _ a' w' ρ' (by simpa using hl) (juy hc hedge) (by omega) hinv'
end
end Go.Sx
end

section
open Go.RowKit
namespace Go.Sx
section
variable [Globs] {P:Program} {sp:jab} {B:Bd} {N n0:Nat} {L:List Oper} {tab:List (List Nat)} {st0:St} {ρ0:Env} {w0:World} {ds:List Deferred}
theorem jrC {D:Nat→Bool} {t:Nat}:∀{T:List Rec},(∀j,j<T.length→D j=true)→jbG L D st0 t T=jbg (jrz L st0 T) t
 |[],_=>rfl
 |r::tr,h=>by
  have ih:=jrC (D:=D) (t:=t) (T:=tr) (fun j hj=>h j (by simp; omega))
  simp only[jbG,jrz]
  rw[h tr.length (by simp)]
  cases hd:jck L tr.length with
  |none=>simp[ih]
  |some d =>
   simp only[jbg]
   by_cases e:d=t
   ·simp[e]
   ·simp[e,ih]
theorem jw9 {D:Nat→Bool} {T:List Rec} (hg:GoodTr P sp N L tab st0 T):(∀j,j<T.length→D j=true)→jaK D st0 T=jaP st0 T:=by
 induction hg with
 |nil=>exact fun _=>rfl
 | @cons tr r hgt o hr ih =>
  intro h
  have ih:=ih (fun j hj=>h j (by simp; omega))
  simp only[jaK]
  show _=r.hp
  rw[if_pos (h tr.length (by simp))]
  by_cases hk:r.kd=2
  ·rw[if_pos hk]
  ·rw[if_neg hk,ih,(jbS hr hk).1]
theorem jpH (hm:P.follows .mixedOrders=true) (hsp:jac P sp) {ops:Array Oper} {st:St} {k:St→Prop} {ρ:Env} {a:Act} {w:World} {Q:Exit→Act→World→Prop} (hd:jnk P sp N ops st k) (hr:RelD ds ρ B N n0 st a w) (hag:jan n0 ρ0 ρ) (hbl:Bel B w0 w)
  (hK:∀(ρ':Env) (st':St) (a':Act) (w':World),RelD ds ρ' B N n0 st' a' w'→jan n0 ρ0 ρ'→Bel B w0 w'→k st'→Q .normal a' w') :
  wpAny P .any ops Q ops.size (Array.replicate ops.size false) a { w with drawn:=w.drawn+1 }:=by
 unfold jnk at hd
 split at hd
 ·rename_i hok
  simp only[Bool.and_eq_true]at hok
  have htab:jcv ops.toList (jjI ops.toList []):=jtS _ _ [] (by simp) (by intro i k hk; simp[List.getD]at hk)
  obtain⟨T,hk,hg,hlen⟩:=jpy ops.toList [] _ hd .nil (by simp) (by simp)
  have hbase:jjN st:=fun x o hf=>⟨(hr.heap.ok x o hf).1,(hr.heap.ok x o hf).2.1⟩
  have hbt:∀t v,jbg st.tm t=some v→v.lt st.nx:=fun t v h=>(hr.tm t v h).1
  have hnx:=jk4 hg
  have hal:∀x,x<st.nx→jbf st T (DL (Array.replicate ops.size false)) x=true:=fun x hx=>by
   simp only[jbf,Bool.and_eq_true,Nat.blt_eq]
   exact⟨Nat.lt_of_lt_of_le hx hnx,jpz hx hg⟩
  have hF:∀j,DL (Array.replicate ops.size false) j=false:=fun j=>by
   unfold DL
   simp only[Array.getD_eq_getD_getElem?,Array.getElem?_replicate]
   split<;>rfl
  have hslot:∀t (T:List Rec),jbG ops.toList (DL (Array.replicate ops.size false)) st t T=jbg st.tm t:=fun t T=>by
   induction T with
   |nil=>rfl
   |cons r tr ih=>simp only[jbG,hF]; simpa using ih
  have hheap:∀(T:List Rec),jaK (DL (Array.replicate ops.size false)) st T=st.hp:=fun T=>by
   induction T with
   |nil=>rfl
   |cons r tr ih=>simp only[jaK,hF]; simpa using ih
  have hbw:Below w.heap.size w { w with drawn:=w.drawn+1 }:=⟨rfl,rfl,rfl,Nat.le_refl _,fun _ _=>rfl⟩
  have hinv:Inv ds ops.toList st B N n0 ρ0 w0 T (DL (Array.replicate ops.size false)) a { w with drawn:=w.drawn+1 } ρ:=by
   refine⟨fun t v hv=>?_,hr.size,hr.defers,?_,fun x o hf=>?_,hr.le,hag,⟨hbl.os,hbl.tape,hbl.output,hbl.size,hbl.block⟩,fun x=>?_⟩
   ·rw[hslot]at hv
    exact⟨V.allB_of_lt hal (hr.tm t v hv).1,(hr.tm t v hv).2⟩
   ·rw[hheap]
    exact(hr.heap.below hbw hr.le).mono_nx hnx
   ·rw[hheap]at hf
    exact⟨hal x (hbase x o hf).1,O.allB_of_lt hal (hbase x o hf).2⟩
   ·have hfb:∀(T:List Rec),GoodTr P sp N ops.toList (jjI ops.toList []) st T→x<jaf st T→jaE (DL (Array.replicate ops.size false)) st T x=true→x<st.nx:=fun T hg=>by
     induction hg with
     |nil=>exact fun h _=>h
     | @cons tr r h' o hr ih =>
      intro hlt hb
      simp only[jaE]at hb
      split at hb
      ·rw[hF]at hb; cases hb
      ·rename_i hb'
       exact ih (Nat.lt_of_not_le fun hc=>by rw[Nat.ble_eq_true_of_le hc]at hb'; cases hb') hb
    intro hx hb
    simp only[jbf,Bool.and_eq_true,Nat.blt_eq]at hx
    have hlt:=hfb T hg hx.1 hx.2
    rw[jjK hlt hg]at hb
    exact C.one_val (c:=.o x) hr.heap hb
  have:=jz5 (Q:=Q) (n0:=n0) (B:=B) (ρ0:=ρ0) (w0:=w0) hsp hg hlen hok.1 hok.2 htab hbase hbt hr.n0 (fun D ρ' a' w' hall hi=>?_) ops.size (Array.replicate ops.size false) a _ ρ (by simp) (fun j o _ hD=>by rw[hF]at hD; cases hD) (by simp) hinv
  ·simpa using this
  ·have hall':∀j,j<T.length→D j=true:=fun j hj=>hall j (by omega)
   refine hK ρ' (jy8 ops.toList st T) a' w' ⟨fun t v hv=>?_,hi.size,hi.defers,?_,hi.le,Nat.le_trans hr.n0 hnx⟩ hi.agree hi.below hk
   ·have h1:=hi.tm t v (by rw[jrC hall']; exact hv)
    refine⟨V.lt_of_allB (fun x hx=>?_) h1.1,h1.2⟩
    simp only[jbf,Bool.and_eq_true,Nat.blt_eq]at hx
    exact hx.1
   ·have:=hi.heap
    rw[jw9 hg hall']at this
    exact this
 ·exact hd.elim
end
end Go.Sx
end

section
open Go.RowKit
namespace Go.Sx
def juz [Globs] (t:Nat):Option Operand→Option Operand→Bool
 |some _,none=>Globs.cutT t
 |_,_=>false
def jrD [Globs] (P:Program) (op:Op) (rd:Operand→Option V) (hp:Hp) (nx:Nat):Option Res :=
 match op with
 | .move x=>(rd x).map fun v=>⟨True,v,hp,nx⟩
 | .slice t x lo hi none=>match juz t lo hi with
  |true=>jdu P (.slice t x lo hi none) rd hp nx
  |false=>match P.underlying t,rd x,jbc rd lo,jbc rd hi with
   |some (.slice elem),some (.w (.c (.o h))),some l,some m=>match find hp h,szT P elem with
    |some ob,some (e+1)=>match ob.cont with
     |some c=>match Nat.beq c.e (e+1)with
      |true=>some ⟨0≤l.getD 0∧l.getD 0≤m.getD (c.n:Int)∧m.getD (c.n:Int)≤(c.n:Int),.w (.c (.o nx)),(nx,jg0 h ob (c.sub (l.getD 0).toNat (m.getD (c.n:Int)).toNat))::hp,nx+1⟩
      |false=>none
     |none=>none
    |_,_=>none
   |_,_,_,_=>none
 |_=>none
def jvP:Op→Bool
 | .slice _ _ _ _ none=>true
 |_=>false
def jvQ:Op→Bool
 | .store _ _ _=>true
 |_=>false
def jz6 (L:List Oper) (tab:List (List Nat)) (j:Nat):Bool :=
 match L[j]? with
 |some o=>jvP o.op&&(List.range L.length).any fun i=>match L[i]? with
  |some s=>jvQ s.op && !((tab.getD i []).contains j) && !((tab.getD j []).contains i)
  |none=>false
 |none=>false
def jxa (L:List Oper):List Nat :=
 let tab:=jjI L []
 let bad:=(List.range L.length).filter (jz6 L tab)
 (List.range L.length).filter fun i=>bad.contains i||bad.any fun j=>(tab.getD j []).contains i
def je1 (o:Oper) (t:Nat):Oper:={ o with op:=.move (.tmp t) }
def jcB (ops:Array Oper) (i t:Nat) (o:Oper):Array Oper:=ops.setIfInBounds i (je1 o t)
def jqO (ops:Array Oper) (listed:Array Bool) (i:Nat):Bool :=
 Region.noSelect ops&&Region.free .any ops listed i&&(Region.ready .any ops listed).contains i
def jnr [Globs] (P:Program) (sp:jab) (N:Nat) (ops:Array Oper):List Nat→Array Bool→Array Oper→St→(St→Prop)→Prop
 |[],_,ops',st,k=>jnk P sp N ops' st k
 |i::F,listed,ops',st,k=>match ops[i]?,jqO ops listed i with
  |some o,true=>match o.guard,o.dst with
   |none,some t=>match jrD P o.op (jdE st) st.hp st.nx,Nat.blt t N with
    |some r,true=>Ob r.ob∧jnr P sp N ops F (listed.setIfInBounds i true) (jcB ops' i t o) (st.put (some t) r) k
    |_,_=>False
   |_,_=>False
  |_,_=>False
def jcl [Globs] (P:Program) (sp:jab) (N:Nat) (ops:Array Oper) (st:St) (k:St→Prop):Prop :=
 match jxa ops.toList with
 |[]=>jnk P sp N ops st k
 |i::F=>match Nat.ble (i::F).length ops.size with
  |false=>False
  |true=>jnr P sp N ops (i::F) (Array.replicate ops.size false) ops st k
section
variable {P:Program} {ops ops':Array Oper} {Q:Exit→Act→World→Prop}
theorem jmc {l:Array Bool} (h1:ops'.size=ops.size) (h2:∀j:Nat,(ops'[j]?).map Oper.after=(ops[j]?).map Oper.after):Region.ready .any ops' l=Region.ready .any ops l:=by
 unfold Region.ready
 rw[h1]
 refine List.filter_congr fun i _=>?_
 have:=h2 i
 cases ha:ops'[i]? <;> cases hb:ops[i]? <;> simp[ha,hb]at this ⊢
 rw[this]
theorem juA (h2:∀j:Nat,(ops'[j]?).map Oper.dst=(ops[j]?).map Oper.dst) (tmps:Array Value):yielded ops' tmps=yielded ops tmps:=by
 funext g
 unfold yielded
 have:(ops'[g]?).bind Oper.dst=(ops[g]?).bind Oper.dst:=by
  have:=h2 g
  cases ha:ops'[g]? <;> cases hb:ops[g]? <;> simp[ha,hb]at this ⊢
  exact this
 rw[this]
theorem jns (h1:ops'.size=ops.size) (h2:∀j:Nat,(ops'[j]?).map Oper.after=(ops[j]?).map Oper.after) (h3:∀j:Nat,(ops'[j]?).map Oper.dst=(ops[j]?).map Oper.dst) :
  ∀(n:Nat) (l:Array Bool) (a:Act) (w:World),(∀j:Nat,l.getD j true=false→ops'[j]?=ops[j]?)→wpAny P .any ops' Q n l a w→wpAny P .any ops Q n l a w
 |0,l,a,w,_,h=>by
  rw[wpAny]at h ⊢
  rw[jmc h1 h2]at h
  exact h
 |n+1,l,a,w,hs,h=>by
  rw[wpAny]at h ⊢
  rw[jmc h1 h2]at h
  refine⟨h.1,fun i hi=>?_⟩
  have hk:=h.2 i hi
  have hun:=(mem_ready.1 hi).1
  have ih:=fun a w=>jns h1 h2 h3 n (l.setIfInBounds i true) a w (fun j hj=>by
   refine hs j ?_
   by_cases e:i=j
   ·subst e; exact hun
   ·rwa [getD_set_ne true e]at hj)
  have hk2:=wpOp_mono ih hk
  unfold wpOp at hk2 ⊢
  rw[hs i hun]at hk2
  simp only[juA h3]at hk2
  exact hk2
theorem jxb {a:Act} {t:Nat}:a.put (some t) (a.tmps.getD t undef)=a:=by
 obtain⟨tmps,d⟩:=a
 simp only[Act.put]
 congr 1
 apply Array.ext
 ·simp
 ·intro i h1 h2
  rw[Array.getElem_setIfInBounds]
  split
  ·rename_i e; subst e; simp[h2]
  ·rfl
theorem jvR {n i t:Nat} {o:Oper} {l:Array Bool} {a:Act} {w:World} (hi:ops'[i]?=some (je1 o t)) (hg:o.guard=none) (hd:o.dst=some t) (hr:i∈Region.ready .any ops' l)
  (h:wpAny P .any ops' Q (n+1) l a w):wpAny P .any ops' Q n (l.setIfInBounds i true) a w:=by
 rw[wpAny]at h
 have hk:=h.2 i hr
 unfold wpOp at hk
 have hw:Region.wanted (je1 o t) (yielded ops' a.tmps)=true:=by simp[Region.wanted,je1,hg]
 simp only[hi,hw,if_true]at hk
 have hrun:(execOp a.eval (je1 o t)).run P w=.ok (.value (a.tmps.getD t undef)) w:=by
  unfold execOp je1
  simp[Act.eval]
 rcases hk with hk|hk
 ·unfold Oper.wp at hk
  rw[hrun]at hk
  simp only[Oper.upon]at hk
  have hdst:(je1 o t).dst=some t:=hd
  rw[hdst,jxb]at hk
  exact hk
 ·have hk:=hk.1.1
  change noRoomEvent∈(#[]:Array Event)at hk
  simp at hk
end
section
variable [Globs] {P:Program} {sp:jab} {B:Bd} {N n0:Nat} {ρ:Env} {a:Act} {w:World} {hp:Hp} {nx:Nat} {rd:Operand→Option V} {ds:List Deferred}
theorem jvS {o:Oper} {r:Res} {t:Nat} (hh:HRel ρ B hp nx w) (hB:Old B w) (hr:jaZ ρ nx rd a) (h:jrD P o.op rd hp nx=some r) (hob:r.ob) (hd:o.dst=some t) (ht:t<a.tmps.size) :
  ∃ρ' M,Left ρ B nx w r M ρ' w∧∀w',(execOp a.eval o).run P w'=.ok (.value (r.v.val ρ')) w':=by
 unfold jrD at h
 split at h
 ·rename_i x hop
  cases hx:rd x with
  |none=>simp[hx]at h
  |some v =>
   simp only[hx,Option.map_some,Option.some.injEq]at h
   subst h
   have:=hr x v hx
   refine⟨ρ,true,⟨jan.refl _ _,this.1,Nat.le_refl _,hh,Bel.refl _ _,fun _=>Below.refl _ _,fun _ h o k hn hf _=>absurd (hh.ok h o hf).1 (by omega)⟩,fun w'=>?_⟩
   unfold execOp
   simp[hop,this.2]
 ·rename_i ty x lo hi hop
  split at h
  ·rename_i hcut
   cases lo with
   |none=>simp[juz]at hcut
   |some lo =>
   cases hi with
   |some hi=>simp[juz]at hcut
   |none =>
   unfold jdu at h
   dsimp only at h
   split at h
   ·split at h
    ·rename_i elem hh' k l hu hx hl
     split at h
     ·rename_i c e hfc hs
      split at h
      ·rename_i hce
       cases h
       cases hf:find hp hh' with
       |none=>simp[hf]at hfc
       |some ob =>
        simp only[hf,Option.bind_some]at hfc
        obtain⟨v,hrun,hl⟩:=ji0 hh hr hop hu hx hl hf hfc hs (Nat.eq_of_beq_eq_true hce) hob
        exact⟨upd ρ nx v,false,hl,fun w'=>by rw[hrun w']; show Result.ok (Next.value v) w'=.ok (.value (upd ρ nx v nx)) w'; rw[upd_same]⟩
      ·cases h
     ·cases h
    ·cases h
   ·cases h
  rename_i hcut
  split at h
  ·rename_i elem hh' l m hu hx hl hm
   split at h
   ·rename_i ob e hf hs
    split at h
    ·rename_i c hc
     split at h
     ·rename_i hce
      cases h
      have hce:c.e=e+1:=Nat.eq_of_beq_eq_true hce
      obtain⟨h0,h1,h2⟩:=hob
      have hok:=hh.ok hh' ob hf
      obtain⟨a2,cap,hv,⟨hcap,_⟩,_⟩:=jbo hok.2.2 hc
      obtain⟨k1,hlv⟩:=jgH hr hl
      obtain⟨k2,hmv⟩:=jgH hr hm
      have hxv:a.eval x=.slice a2 c.n cap:=by rw[(hr _ _ hx).2]; exact hv
      have hrun:∀w',(execOp a.eval o).run P w'=.ok (.value (.slice (if cap=(l.getD 0).toNat then a2 else a2.map (·.add ((l.getD 0).toNat*c.e))) ((m.getD (c.n:Int)).toNat-(l.getD 0).toNat) (cap-(l.getD 0).toNat))) w':=fun w'=>by
       have hsb:=jc0 (P:=P) (w:=w') (len:=c.n) (cap:=cap) (l:=l) (m:=m) (k:=k1) (k':=k2) h0 h1 h2 hcap
       unfold execOp
       simp only[hop,hxv,hlv,hmv,Option.map_none,Instr.sliceAt,Instr.slice,Sem.run_bind,run_underlying hu,Result.andThen_ok,hsb,jaX w' hs,Sem.run_pure]
       simp[hce]
      have hS:=jf1 (P:=P) hh hB hr hop hu hx hl hm hf hs hc hce ⟨h0,h1,h2⟩ ⟨0≤l.getD 0∧l.getD 0≤m.getD (c.n:Int)∧m.getD (c.n:Int)≤(c.n:Int),.w (.c (.o nx)),(nx,jg0 hh' ob (c.sub (l.getD 0).toNat (m.getD (c.n:Int)).toNat))::hp,nx+1⟩ rfl rfl rfl
       (fun a' w'=>∃ρ',Left ρ B nx w ⟨0≤l.getD 0∧l.getD 0≤m.getD (c.n:Int)∧m.getD (c.n:Int)≤(c.n:Int),.w (.c (.o nx)),(nx,jg0 hh' ob (c.sub (l.getD 0).toNat (m.getD (c.n:Int)).toNat))::hp,nx+1⟩ true ρ' w'∧a'=a.put o.dst (ρ' nx)) (fun _ _ _=>False) (fun ρ' w' hl'=>⟨ρ',hl',rfl⟩)
      unfold Oper.wp at hS
      rw[hrun w]at hS
      simp only[Oper.upon]at hS
      obtain⟨ρ',hl',he⟩:=hS
      refine⟨ρ',true,hl',fun w'=>?_⟩
      rw[hrun w']
      have e2:=congrArg (fun x:Act=>x.tmps.getD t undef) he
      rw[hd]at e2
      simp only[Act.put,Array.getD_eq_getD_getElem?,Array.getElem?_setIfInBounds_self_of_lt ht,Option.getD_some]at e2
      rw[e2]
      rfl
     ·cases h
    ·cases h
   ·cases h
  ·cases h
 ·cases h
theorem juB {ops ops':Array Oper} {i t:Nat} {o:Oper} (h:∀j:Nat,(ops'[j]?).map Oper.after=(ops[j]?).map Oper.after) (hi:ops[i]?=some o) (j:Nat):((jcB ops' i t o)[j]?).map Oper.after=(ops[j]?).map Oper.after:=by
 unfold jcB
 rw[Array.getElem?_setIfInBounds]
 split
 ·rename_i e
  subst e
  have:=h i
  rw[hi]at this ⊢
  split
  ·rfl
  ·rename_i hlt
   rw[Array.getElem?_eq_none (by omega)]at this
   cases this
 ·exact h j
theorem jxc {ops ops':Array Oper} {i t:Nat} {o:Oper} (h:∀j:Nat,(ops'[j]?).map Oper.dst=(ops[j]?).map Oper.dst) (hi:ops[i]?=some o) (j:Nat):((jcB ops' i t o)[j]?).map Oper.dst=(ops[j]?).map Oper.dst:=by
 unfold jcB
 rw[Array.getElem?_setIfInBounds]
 split
 ·rename_i e
  subst e
  have:=h i
  rw[hi]at this ⊢
  split
  ·rfl
  ·rename_i hlt
   rw[Array.getElem?_eq_none (by omega)]at this
   cases this
 ·exact h j
inductive Taken (ops:Array Oper):Array Bool→Array Oper→Nat→Prop where
 |nil:Taken ops (Array.replicate ops.size false) ops 0
 |cons {l:Array Bool} {ops':Array Oper} {n i t:Nat} {o:Oper}:Taken ops l ops' n→ops[i]?=some o→jqO ops l i=true→o.guard=none→o.dst=some t →
   Taken ops (l.setIfInBounds i true) (jcB ops' i t o) (n+1)
theorem jig {ops:Array Oper} {l:Array Bool} {i:Nat} (h:jqO ops l i=true):Region.noSelect ops=true∧Region.free .any ops l i=true∧i∈Region.ready .any ops l:=by
 simp only[jqO,Bool.and_eq_true]at h
 exact⟨h.1.1,h.1.2,by simpa using h.2⟩
theorem Taken.facts {ops:Array Oper} {l:Array Bool} {ops':Array Oper} {n:Nat} (h:Taken ops l ops' n) :
  ops'.size=ops.size∧(∀j:Nat,(ops'[j]?).map Oper.after=(ops[j]?).map Oper.after)∧(∀j:Nat,(ops'[j]?).map Oper.dst=(ops[j]?).map Oper.dst) ∧
   (∀j:Nat,l.getD j true=false→ops'[j]?=ops[j]?)∧l.size=ops.size:=by
 induction h with
 |nil=>exact⟨rfl,fun _=>rfl,fun _=>rfl,fun _ _=>rfl,by simp⟩
 | @cons l ops' n i t o h hi ht hg hd ih =>
  obtain⟨h1,h2,h3,h4,h5⟩:=ih
  refine⟨by simp[jcB,h1],juB h2 hi,jxc h3 hi,fun j hj=>?_,by simp[h5]⟩
  by_cases e:i=j
  ·subst e
   have hlt:i<l.size:=by rw[h5]; exact(Array.getElem?_eq_some_iff.1 hi).1
   simp[hlt]at hj
  ·rw[getD_set_ne true e]at hj
   unfold jcB
   rw[Array.getElem?_setIfInBounds_ne e]
   exact h4 j hj
theorem Taken.idle {ops:Array Oper} {Q:Exit→Act→World→Prop} {a:Act} {w:World} {l:Array Bool} {ops':Array Oper} {n:Nat} (h:Taken ops l ops' n) :
  ∀(opsF:Array Oper) (m:Nat),opsF.size=ops.size→(∀j:Nat,(opsF[j]?).map Oper.after=(ops[j]?).map Oper.after)→(∀j:Nat,l.getD j true=true→opsF[j]?=ops'[j]?) →
   wpAny P .any opsF Q (m+n) (Array.replicate ops.size false) a w→wpAny P .any opsF Q m l a w:=by
 induction h with
 |nil=>exact fun _ _ _ _ _ h=>h
 | @cons l ops' n i t o h hi ht hg hd ih =>
  intro opsF m h1 h2 h3 hw
  obtain⟨f1,f2,f3,f4,f5⟩:=h.facts
  have hlt:i<ops.size:=(Array.getElem?_eq_some_iff.1 hi).1
  have hself:opsF[i]?=some (je1 o t):=by
   rw[h3 i (by simp[hlt,f5])]
   unfold jcB
   simp[f1,hlt]
  refine jvR hself hg hd ?_ (ih opsF (m+1) h1 h2 (fun j hj=>?_) (by rwa [Nat.add_assoc,Nat.add_comm 1 n]))
  ·rw[jmc h1 h2]
   exact(jig ht).2.2
  ·by_cases e:i=j
   ·subst e
    have:=(mem_ready.1 (jig ht).2.2).1
    rw[this]at hj
    cases hj
   ·rw[h3 j (by rw[getD_set_ne true e]; exact hj)]
    unfold jcB
    rw[Array.getElem?_setIfInBounds_ne e]
variable {w0:World} {ρ0:Env} in
theorem jrE (hm:P.follows .mixedOrders=true) (hsp:jac P sp) {ops:Array Oper} {k:St→Prop} {Q:Exit→Act→World→Prop} (hQ:∀c a w,¬Q (.panic c) a w)
  (hK:∀(ρ':Env) (st':St) (a':Act) (w':World),RelD ds ρ' B N n0 st' a' w'→jan n0 ρ0 ρ'→Bel B w0 w'→k st'→Q .normal a' w') :
  ∀(F:List Nat) (l:Array Bool) (ops':Array Oper) (n m:Nat) (st:St) (ρ:Env) (a:Act) (w:World),jnr P sp N ops F l ops' st k→Taken ops l ops' n→m+n=ops.size→F.length≤m→RelD ds ρ B N n0 st a w→jan n0 ρ0 ρ→Bel B w0 w →
   wpAny P .any ops Q m l a { w with drawn:=w.drawn+1 }
 |[],l,ops',n,m,st,ρ,a,w,h,ht,hn,_,hr,hag,hbl=>by
  unfold jnr at h
  obtain⟨f1,f2,f3,f4,f5⟩:=ht.facts
  have h1:=jpH (Q:=Q) hm hsp h hr hag hbl hK
  rw[f1,←hn]at h1
  have h2:=ht.idle (Q:=Q) ops' m f1 f2 (fun _ _=>rfl) (by rw[←hn]; exact h1)
  exact jns f1 f2 f3 m l a _ f4 h2
 |i::F,l,ops',n,m,st,ρ,a,w,h,ht,hn,hF,hr,hag,hbl=>by
  unfold jnr at h
  split at h
  ·rename_i o hi htb
   split at h
   ·rename_i t hg hd
    split at h
    ·rename_i r hr2 hlt
     obtain⟨ρ',M,hl,hrun⟩:=jvS hr.heap hr.le hr.reads hr2 h.1.h hd (by rw[hr.size]; simpa [Nat.blt_eq]using hlt)
     have hput:=hr.put (o:=o) (by rw[hd]; simpa [jdv]using hlt) hl
     rw[hd]at hput
     obtain⟨m',rfl⟩:∃m',m=m' + 1:=⟨m-1,by simp at hF; omega⟩
     have ih:=jrE hm hsp hQ hK F (l.setIfInBounds i true) (jcB ops' i t o) (n+1) m' (st.put (some t) r) ρ' _ w h.2 (ht.cons hi htb hg hd) (by omega) (by simpa using hF) hput (hag.trans hl.agree hr.n0) hbl
     obtain⟨t1,t2,t3⟩:=jig htb
     refine wpAny_take (v:=r.v.val ρ') hi t1 t2 (by simpa using t3) (fun c a w hq=>absurd hq (hQ c _ w)) (.inl ⟨by simp[Region.wanted,hg],hrun⟩) ?_
     rw[hd]
     exact ih
    ·exact h.elim
   ·exact h.elim
  ·exact h.elim
theorem jnt {w0:World} {ρ0:Env} (hm:P.follows .mixedOrders=true) (hsp:jac P sp) {ops:Array Oper} {st:St} {k:St→Prop} {ρ:Env} {a:Act} {w:World} {Q:Exit→Act→World→Prop} (hQ:∀c a w,¬Q (.panic c) a w) (hd:jcl P sp N ops st k) (hr:RelD ds ρ B N n0 st a w) (hag:jan n0 ρ0 ρ) (hbl:Bel B w0 w)
  (hK:∀(ρ':Env) (st':St) (a':Act) (w':World),RelD ds ρ' B N n0 st' a' w'→jan n0 ρ0 ρ'→Bel B w0 w'→k st'→Q .normal a' w') :
  wpAny P .any ops Q ops.size (Array.replicate ops.size false) a { w with drawn:=w.drawn+1 }:=by
 unfold jcl at hd
 split at hd
 ·exact jpH hm hsp hd hr hag hbl hK
 ·rename_i i F _
  split at hd
  ·exact hd.elim
  ·rename_i hle
   exact jrE hm hsp hQ hK (i::F) _ ops 0 ops.size st ρ a w hd .nil rfl (Nat.le_of_ble_eq_true hle) hr hag hbl
theorem jc6 {w0:World} {ρ0:Env} (hm:P.follows .mixedOrders=true) (hsp:jac P sp):jhz P B N n0 ρ0 w0 (jcl P sp N):=by
 intro ds id ops st k ρ a w Q hd hr hag hbl hK
 have h1:=wp_region_any (id:=id) hm (jnt (Q:=fun e a w=>match e with | .normal=>Q .normal a w|_=>False) hm hsp (fun _ _ _ h=>h) hd hr hag hbl hK)
 refine wp_mono h1 ?_
 intro e a w h
 cases e<;>first|exact h|exact h.elim
end
end Go.Sx
end

section
open Go.RowKit
namespace Go.Sx
def jgM (o:Oper):Bool:=match o.op with
 | .defer _=>false
 |_=>true
theorem juC {o:Oper} (h:jgM o=true):∀c,o.op≠.defer c:=fun c e=>by
 unfold jgM at h
 rw[e]at h
 cases h
section
variable {P:Program} {l n:Nat} {a:Act} {w:World} {Q:Exit→Act→World→Prop}
theorem Oper.wpIn_of_wp {o:Oper} {K K':Act→World→Prop} (hd:jgM o=true) (hK:∀a w,K a w→K' a w) (h:o.wp P a w K Q):o.wpIn (Fence.wide.inRound l) n P a w K' Q:=by
 refine⟨fun _ _=>trivial,?_⟩
 have hs:o.semAt (some l) a.eval=execOp a.eval o:=Oper.semAt_some l a.eval o (juC hd)
 show o.uponIn (Fence.wide.inRound l) n P a K' Q ((o.semAt (some l) a.eval).run P w)
 rw[hs]
 unfold Oper.wp at h
 generalize (execOp a.eval o).run P w=r at *
 cases r with
 |ok x w' =>
  cases x with
  |value v=>exact hK _ _ h
  |skip=>exact hK _ _ h
  |defer d=>exact hK _ _ h
  |enter f args =>
   refine⟨fun h=>(by cases h),CallsIn.inRound l (callsIn_wide.2 (Calls.mono (show Calls P f args w' _ from h) ?_))⟩
   intro e w'' he
   cases e with
   |returned v=>exact hK _ _ he
   |panicked ch=>exact he
   |outgrown=>exact he
  |row r args =>
   refine⟨fun h=>(by cases h),?_⟩
   intro c cs _
   obtain⟨v,w'',hr,hst⟩:=h c cs
   exact⟨v,w'',hK _ _ hr,(stepsIn_wide (P:=P)).2 hst⟩
  |_=>exact h.elim
 |halt x w' =>
  cases x with
  |panic v=>exact h
  |_=>exact h.elim
theorem jg9 {ops:Array Oper} (hlo:¬LetsOut Q):∀(os:List Oper) (a:Act) (w:World),os.all jgM=true→wpList P ops Q os a w→wpListIn (Fence.wide.inRound l) n P ops Q os a w
 |[],_,_,_,h=>h
 |o::r,a,w,hd,h=>by
  simp only[List.all_cons,Bool.and_eq_true]at hd
  unfold wpList at h
  unfold wpListIn
  split at h
  ·rename_i hw
   rw[if_pos hw]
   rcases h with h|h
   ·exact Oper.wpIn_of_wp hd.1 (fun a w=>jg9 hlo r a w hd.2) h
   ·exact absurd h.2 hlo
  ·rename_i hw
   rw[if_neg hw]
   exact⟨fun _ _=>trivial,jg9 hlo r _ _ hd.2 h⟩
theorem jfJ {ops:Array Oper} (hlo:¬LetsOut Q) (hd:ops.toList.all jgM=true):∀(f:Nat) (b:Array Bool) (a:Act) (w:World),wpAny P .any ops Q f b a w→wpAnyIn (Fence.wide.inRound l) n P .any ops Q f b a w
 |0,_,_,_,h=>h
 |f+1,b,a,w,h=>by
  refine⟨h.1,fun i hi=>?_⟩
  have h2:=h.2 i hi
  unfold wpOp at h2
  unfold wpOpIn
  cases ho:ops[i]? with
  |none =>
   rw[ho]at h2
   exact jfJ hlo hd f _ a w h2
  |some o =>
   rw[ho]at h2
   dsimp only at h2 ⊢
   have hod:jgM o=true:=List.all_eq_true.1 hd o (by
    have:=List.mem_of_getElem? (l:=ops.toList) (i:=i) (a:=o) (by simpa using ho)
    exact this)
   split at h2
   ·rename_i hw
    rw[if_pos hw]
    rcases h2 with h2|h2
    ·exact Oper.wpIn_of_wp hod (fun a w=>jfJ hlo hd f _ a w) h2
    ·exact absurd h2.2 hlo
   ·rename_i hw
    rw[if_neg hw]
    exact⟨fun _ _=>trivial,jfJ hlo hd f _ _ _ h2⟩
end
theorem jf7 {P:Program} {n:Nat} {ops:Array Oper} {Q:Exit→Act→World→Prop} (hlo:¬LetsOut Q) {l2:List Oper}:∀(l1:List Oper) (a:Act) (w:World),wpList P ops (Exit.then (fun a w=>wpListIn Fence.wide n P ops Q l2 a w) Q) l1 a w→wpListIn Fence.wide n P ops Q (l1++l2) a w
 |[],_,_,h=>h
 |o::r,a,w,h=>by
  unfold wpList at h
  show wpListIn Fence.wide n P ops Q (o::(r++l2)) a w
  unfold wpListIn
  split at h
  ·rename_i hw
   rw[if_pos hw]
   rcases h with h|h
   ·have ih:=jf7 (P:=P) (ops:=ops) (n:=n) hlo (l2:=l2) r
    refine⟨fun _ _=>trivial,?_⟩
    have hs:o.semAt Fence.wide.round a.eval=execOp a.eval o:=Oper.semAt_none a.eval o
    rw[hs]
    unfold Oper.wp at h
    generalize (execOp a.eval o).run P w=x at *
    cases x with
    |ok x w' =>
     cases x with
     |value v=>exact ih _ _ h
     |skip=>exact ih _ _ h
     |defer d=>exact ih _ _ h
     |enter f args =>
      refine⟨fun h=>(by cases h),callsIn_wide.2 (Calls.mono (show Calls P f args w' _ from h) ?_)⟩
      intro e w'' he
      cases e with
      |returned v=>exact ih _ _ he
      |panicked ch=>exact he
      |outgrown=>exact he
     |row q args =>
      refine⟨fun h=>(by cases h),?_⟩
      intro c cs _
      obtain⟨v,w'',hr,hst⟩:=h c cs
      exact⟨v,w'',ih _ _ hr,(stepsIn_wide (P:=P)).2 hst⟩
     |_=>exact h.elim
    |halt x w' =>
     cases x with
     |panic v=>exact h
     |_=>exact h.elim
   ·exact absurd h.2 hlo
  ·rename_i hw
   rw[if_neg hw]
   exact⟨fun _ _=>trivial,jf7 hlo r _ _ h⟩
def jc7:Code→Bool
 | .skip=>true
 | .label _=>true
 | .region _ ops _=>ops.toList.all jgM
 | .seq x y=>jc7 x&&jc7 y
 | .cond _ x y=>jc7 x&&jc7 y
 | .block _ c=>jc7 c
 | .exit _=>true
 | .ret=>true
 |_=>false
section
variable [Globs] {P:Program} {sp:jab} {B:Bd} {N n0:Nat} {ρ0:Env} {w0:World} {ds:List Deferred}
theorem jtU {k:Ex→St→Prop}:¬LetsOut (Qx ds ρ0 B N n0 w0 k):=by
 rintro ⟨a,w,x,ρ',st',he,_⟩
 cases x<;>cases he
theorem jcJ {l n fuel:Nat} {loops:jgI} (hm:P.follows .mixedOrders=true) (hsp:jac P sp) :
  ∀(c:Code) (cur:Nat) (gs:List Nat) (st:St) (k:Ex→St→Prop) (ρ:Env) (a:Act) (w:World),jc7 c=true→sx P sp N n0 fuel loops (jcl P sp N) c cur gs st k→RelD ds ρ B N n0 st a w→jan n0 ρ0 ρ→Bel B w0 w →
   c.wpIn (Fence.wide.inRound l) n P (Qx ds ρ0 B N n0 w0 k) a w
 | .skip,_,_,st,k,ρ,a,w,_,h,hr,hag,hbl=>wpIn_skip ⟨.normal,ρ,st,rfl,h,hr,hag,hbl⟩
 | .label _,_,_,st,k,ρ,a,w,_,h,hr,hag,hbl=>wpIn_label ⟨.normal,ρ,st,rfl,h,hr,hag,hbl⟩
 | .region id ops draw,_,_,st,k,ρ,a,w,hst,h,hr,hag,hbl=>by
  unfold sx at h
  have hd:ops.toList.all jgM=true:=hst
  cases draw with
  |false =>
   refine wpIn_region_list (jg9 jtU ops.toList a w hd ?_)
   have:=jfF (P:=P) (Q:=Qx ds ρ0 B N n0 w0 k) (k:=fun st'=>k .normal st') (all:=ops.toList) hsp (fun ρ' st' a' w' h1 h2 h3 h4=>⟨.normal,ρ',st',rfl,h4,h1,h2,h3⟩) ops.toList ρ st a w hr hag hbl h
   simpa using this
  |true=>exact wpIn_region_any hm (jfJ jtU hd _ _ _ _ (jnt (Q:=Qx ds ρ0 B N n0 w0 k) hm hsp (fun c a w ⟨x,_,_,he,_⟩=>by cases x<;>cases he) h hr hag hbl (fun ρ' st' a' w' h1 h2 h3 h4=>⟨.normal,ρ',st',rfl,h4,h1,h2,h3⟩)))
 | .seq x y,cur,gs,st,k,ρ,a,w,hst,h,hr,hag,hbl=>by
  unfold sx at h
  simp only[jc7,Bool.and_eq_true]at hst
  refine wpIn_seq (wpIn_mono (jcJ hm hsp x cur gs st _ ρ a w hst.1 h hr hag hbl) ?_)
  rintro e a' w' ⟨ex,ρ',st',rfl,hk,hr',hag',hbl'⟩
  cases ex with
  |normal=>exact jcJ hm hsp y cur gs st' k ρ' a' w' hst.2 hk hr' hag' hbl'
  |exit j=>exact⟨.exit j,ρ',st',rfl,hk,hr',hag',hbl'⟩
  |ret=>exact⟨.ret,ρ',st',rfl,hk,hr',hag',hbl'⟩
 | .cond c x y,cur,gs,st,k,ρ,a,w,hst,h,hr,hag,hbl=>by
  unfold sx at h
  simp only[jc7,Bool.and_eq_true]at hst
  split at h
  ·rename_i b hb
   have he:=jpv hr hb
   cases b with
   |true=>exact wpIn_cond_true he (jcJ hm hsp x cur gs st k ρ a w hst.1 h hr hag hbl)
   |false=>exact wpIn_cond_false he (jcJ hm hsp y cur gs st k ρ a w hst.2 h hr hag hbl)
  ·exact h.elim
 | .block id c,_,gs,st,k,ρ,a,w,hst,h,hr,hag,hbl=>by
  unfold sx at h
  refine wpIn_block (wpIn_mono (jcJ hm hsp c id gs st _ ρ a w hst h hr hag hbl) ?_)
  rintro e a' w' ⟨ex,ρ',st',rfl,hk,hr',hag',hbl'⟩
  cases ex with
  |normal=>exact⟨.normal,ρ',st',rfl,hk,hr',hag',hbl'⟩
  |exit j =>
   simp only[Ex.toExit,Exit.inBlock]
   dsimp only at hk
   split
   ·rename_i e
    rw[if_pos e]at hk
    exact⟨.normal,ρ',st',rfl,hk,hr',hag',hbl'⟩
   ·rename_i e
    rw[if_neg e]at hk
    exact⟨.exit j,ρ',st',rfl,hk,hr',hag',hbl'⟩
  |ret=>exact⟨.ret,ρ',st',rfl,hk,hr',hag',hbl'⟩
 | .exit j,_,_,st,k,ρ,a,w,_,h,hr,hag,hbl=>wpIn_exit ⟨.exit j,ρ,st,rfl,h,hr,hag,hbl⟩
 | .ret,_,_,st,k,ρ,a,w,_,h,hr,hag,hbl=>wpIn_ret ⟨.ret,ρ,st,rfl,h,hr,hag,hbl⟩
 | .loop _,_,_,_,_,_,_,_,hst,_,_,_,_=>by cases hst
 | .goto _,_,_,_,_,_,_,_,hst,_,_,_,_=>by cases hst
 | .rangeFunc _ _ _ _,_,_,_,_,_,_,_,hst,_,_,_,_=>by cases hst
end
def jjO:Nat→Code→Code
 |0,_=>.skip
 |n+1,.seq x y=>.seq x (jjO n y)
 |_+1,c=>c
def jjP:Nat→Code→Code
 |0,c=>c
 |n+1,.seq _ y=>jjP n y
 |_+1,_=>.skip
def jvT:Nat→Code→Bool
 |0,_=>true
 |n+1,.seq _ y=>jvT n y
 |_+1,_=>false
section
variable [Globs] {P:Program} {sp:jab} {B:Bd} {N n0:Nat} {ρ0:Env} {w0:World} {ds:List Deferred}
theorem joB {fuel:Nat} {loops:jgI} {drawn:Array Oper→St→(St→Prop)→Prop} (hsp:jac P sp) (hdr:jhz P B N n0 ρ0 w0 drawn) {Q:Exit→Act→World→Prop} {k:Ex→St→Prop} :
  ∀(m:Nat) (c:Code) (cur:Nat) (gs:List Nat) (st:St) (ρ:Env) (a:Act) (w:World),jvT m c=true→sx P sp N n0 fuel loops drawn (jjO m c) cur gs st k→RelD ds ρ B N n0 st a w→jan n0 ρ0 ρ→Bel B w0 w →
   (∀ρ' st' a' w',k .normal st'→RelD ds ρ' B N n0 st' a' w'→jan n0 ρ0 ρ'→Bel B w0 w'→(jjP m c).wp P Q a' w') →
   (∀ex ρ' st' a' w',ex≠.normal→k ex st'→RelD ds ρ' B N n0 st' a' w'→jan n0 ρ0 ρ'→Bel B w0 w'→Q ex.toExit a' w')→c.wp P Q a w
 |0,c,_,_,st,ρ,a,w,_,h,hr,hag,hbl,hn,_=>hn ρ st a w h hr hag hbl
 |m+1,.seq x y,cur,gs,st,ρ,a,w,hs,h,hr,hag,hbl,hn,he=>by
  simp only[jjO]at h
  unfold sx at h
  refine wp_seq (wp_mono (jbA hsp hdr x cur gs st _ ρ a w h hr hag hbl) ?_)
  rintro e a' w' ⟨ex,ρ',st',rfl,hk,hr',hag',hbl'⟩
  cases ex with
  |normal=>exact joB hsp hdr m y cur gs st' ρ' a' w' hs hk hr' hag' hbl' hn he
  |exit j=>exact he (.exit j) ρ' st' a' w' (by simp) hk hr' hag' hbl'
  |ret=>exact he .ret ρ' st' a' w' (by simp) hk hr' hag' hbl'
end
section
variable [Globs] {ρ:Env} {B B2:Bd} {hp:Hp} {nx:Nat} {w w':World}
theorem O.ok_moreB {h:Nat} (hs:∀k,B k→B2 k):∀{o:O},o.ok ρ B w h→(∀k,o.blk (ρ h)=some k→¬B2 k)→o.ok ρ B2 w h
 | .box _ _,⟨k,h1,h2,h3⟩,hn=>⟨k,h1,hn k (by simp[O.blk,h1,base]),h3⟩
 | .row _ _,⟨hr,_⟩,hn=>⟨hr,fun k hk=>hn k hk⟩
 | .ext _,⟨h1,h2⟩,_=>⟨h1,fun a n cap e hn=>hs _ (h2 a n cap e hn)⟩
 | .view _ _ _,h,_=>h
 | .dead,_,_=>trivial
 | .nan _,h,_=>h
 | .err,h,_=>h
 | .atom,h,_=>h
 | .ebox _,⟨k,o,h1,h2,h3⟩,_=>⟨k,o,h1,hs _ h2,h3⟩
 | .arr _ _ _ _,⟨k,h1,h2,h3⟩,hn=>⟨k,h1,hn k (by simp[O.blk,h1,base]),h3⟩
 | .xext _,h,_=>jre hs h
 | .map _,⟨b,e,c,h1,h2,h3⟩,hn=>⟨b,e,c,h1,hn b (by simp[O.blk,h1,jeX]),h3⟩
 | .rrow _,⟨h1,h2⟩,hn=>⟨h1,fun k hk=>⟨hn k hk,(h2 k hk).2⟩⟩
theorem HRel.moreB (hh:HRel ρ B hp nx w) (hs:∀k,B k→B2 k) (hn:∀h o k,find hp h=some o→o.blk (ρ h)=some k→¬B2 k):HRel ρ B2 hp nx w :=
 ⟨fun h o hf=>⟨(hh.ok h o hf).1,(hh.ok h o hf).2.1,O.ok_moreB hs (hh.ok h o hf).2.2 (fun k hk=>hn h o k hf hk)⟩,hh.apart,hh.glob.sub hs⟩
def extB:O→Bool
 | .ext _=>true
 | .ebox _=>true
 | .xext _=>true
 |_=>false
theorem O.ok_lessB {h:Nat} (hs:∀k,B k→B2 k):∀{o:O},o.ok ρ B2 w h→extB o=false→o.ok ρ B w h
 | .box _ _,⟨k,h1,h2,h3⟩,_=>⟨k,h1,fun hb=>h2 (hs _ hb),h3⟩
 | .row _ _,⟨hr,hk⟩,_=>⟨hr,fun k hk' hb=>hk k hk' (hs _ hb)⟩
 | .ext _,_,h=>by cases h
 | .view _ _ _,h,_=>h
 | .dead,_,_=>trivial
 | .nan _,h,_=>h
 | .err,h,_=>h
 | .atom,h,_=>h
 | .ebox _,_,h=>by cases h
 | .arr _ _ _ _,⟨k,h1,h2,h3⟩,_=>⟨k,h1,fun hb=>h2 (hs _ hb),h3⟩
 | .xext _,_,h=>by cases h
 | .map _,⟨b,e,c,h1,h2,h3⟩,_=>⟨b,e,c,h1,fun hb=>h2 (hs _ hb),h3⟩
 | .rrow _,⟨h1,h2⟩,_=>⟨h1,fun k hk=>⟨fun hb=>(h2 k hk).1 (hs _ hb),(h2 k hk).2⟩⟩
theorem HRel.lessB (hh:HRel ρ B2 hp nx w) (hs:∀k,B k→B2 k) (hg:jb6 B w) (hE:∀h o,find hp h=some o→extB o=true→o.ok ρ B w h):HRel ρ B hp nx w :=
 ⟨fun h o hf=>⟨(hh.ok h o hf).1,(hh.ok h o hf).2.1,by
  cases he:extB o with
  |true=>exact hE h o hf he
  |false=>exact O.ok_lessB hs (hh.ok h o hf).2.2 he⟩,hh.apart,hg⟩
def rngO:O→Bool
 | .view _ _ _=>false
 | .map _=>false
 | .rrow _=>false
 |_=>true
theorem jpI {h k:Nat}:∀{o:O},o.ok ρ B w h→rngO o=true→o.blk (ρ h)=some k→∃c t f,w.heap[k]?=some (.cells c t f)
 | .box _ _,⟨g,h1,_,h3⟩,_,hb=>by
  simp only[O.blk,h1,base,Option.some.injEq]at hb
  subst hb
  exact⟨_,_,_,h3⟩
 | .arr _ _ _ _,⟨g,h1,_,h3⟩,_,hb=>by
  simp only[O.blk,h1,base,Option.some.injEq]at hb
  subst hb
  exact⟨_,_,_,h3⟩
 | .row _ _,⟨⟨_,hr⟩,_⟩,_,hb=>by
  rcases hr with ⟨h1,_⟩|⟨g,cap,cur,h1,_,h3,_⟩
  ·simp[O.blk,h1,Value.ownBlock]at hb
  ·simp only[O.blk,h1,Value.ownBlock,Option.some.injEq]at hb
   subst hb
   exact⟨_,_,_,h3⟩
theorem HRel.grown {row:Option Nat} (hh:HRel ρ B hp nx w) (hg:w.grownBy w' row) (hB:Old B w) (hr:∀r,row=some r→¬B r∧∃o:Obj,w.heap[r]?=some o∧o.isCells=false) (hn:∀h o,find hp h=some o→rngO o=true):HRel ρ B hp nx w':=by
 obtain⟨g,hgB,hgw,hgc⟩:∃g,¬B g∧(∀k,k<w.heap.size→k≠g→w'.heap[k]?=w.heap[k]?)∧∀c t f,w.heap[g]?≠some (.cells c t f):=by
  cases row with
  |none=>exact⟨w.heap.size,fun h=>absurd (hB _ h) (Nat.lt_irrefl _),fun k hk _=>hg.block k hk (by simp),fun c t f h=>absurd (Array.getElem?_eq_some_iff.1 h).1 (Nat.lt_irrefl _)⟩
  |some r =>
   obtain⟨h1,o,h2,h3⟩:=hr r rfl
   refine⟨r,h1,fun k hk hne=>hg.block k hk (fun e=>hne (Option.some.inj e)),fun c t f h=>?_⟩
   rw[h2]at h
   cases h
   cases h3
 refine⟨fun h o hf=>⟨(hh.ok h o hf).1,(hh.ok h o hf).2.1,?_⟩,hh.apart,jiZ hgw hgB hh.glob⟩
 refine O.ok_except hgw hgB (hh.ok h o hf).2.2 (fun he=>?_) (fun r c fl e=>?_)
 ·obtain⟨c,t,f,hc⟩:=jpI (hh.ok h o hf).2.2 (hn h o hf) he
  exact hgc c t f hc
 ·subst e
  cases hn h _ hf
theorem HRel.addAt {b ty:Nat} {cs:List C} (hh:HRel ρ B hp nx w) (hc:w.heap[b]?=some (.cells (cs.map (C.val ρ)).toArray ty (0,0))) (hcs:∀c∈cs,C.lt nx c) (hb:¬B b) (hap:∀h o k,find hp h=some o→o.blk (ρ h)=some k→k≠b) :
  HRel (upd ρ nx (.pointer (some ⟨b,0,none⟩))) B ((nx,.box ty cs)::hp) (nx+1) w:=by
 have ha:=jaB ρ nx (.pointer (some ⟨b,0,none⟩))
 have h1:=(hh.agree ha).mono_nx (Nat.le_succ nx)
 refine⟨fun h o hf=>?_,fun h o h' o' k hf hf' hne hk hk'=>?_,h1.glob⟩
 ·simp only[find]at hf
  split at hf
  ·rename_i e
   subst e
   cases hf
   refine⟨Nat.lt_succ_self _,fun c hc'=>C.lt_mono (Nat.le_succ _) (hcs c hc'),b,upd_same _ _ _,hb,?_⟩
   rw[hc]
   congr 3
   exact List.map_congr_left fun c hc'=>(C.val_agree ha (hcs c hc')).symm
  ·exact h1.ok h o hf
 ·have old:∀x ox,x≠nx→find ((nx,O.box ty cs)::hp) x=some ox→find hp x=some ox:=fun x ox hx hf=>by
   simp only[find]at hf
   rw[if_neg (fun e=>hx e.symm)]at hf
   exact hf
  have new:∀ox,find ((nx,O.box ty cs)::hp) nx=some ox→∀q,ox.blk (upd ρ nx (.pointer (some ⟨b,0,none⟩)) nx)=some q→q=b:=fun ox hf q hq=>by
   simp only[find,if_true,Option.some.injEq]at hf
   subst hf
   rw[upd_same]at hq
   simp only[O.blk,base,Option.some.injEq]at hq
   exact hq.symm
  by_cases e1:h=nx
  ·subst e1
   have f':=old h' o' (fun e=>hne e.symm) hf'
   have e2:=new o hf k hk
   have hlt:=(hh.ok h' o' f').1
   rw[ha h' hlt]at hk'
   exact hap h' o' k f' hk' e2
  ·have f1:=old h o e1 hf
   have hlt:=(hh.ok h o f1).1
   rw[ha h hlt]at hk
   by_cases e2:h'=nx
   ·subst e2
    exact hap h o k f1 hk (new o' hf' k hk')
   ·have f2:=old h' o' e2 hf'
    rw[ha h' (hh.ok h' o' f2).1]at hk'
    exact hh.apart h o h' o' k f1 f2 hne hk hk'
end
end Go.Sx
end

section
open Go.RowKit
namespace Go.Sx
inductive A where
 |d (x:D)
 |s (l:List D)
 |r (c:Cont)
 |f (n:Nat)
inductive RV where
 |d (x:D)
 |s (l:List D)
 |row (ty:Nat) (c:Cont)
def toA (hp:Hp):V→Option A
 | .w (.c (.d x))=>some (.d x)
 | .w (.a l)=>(jbP l).map .s
 | .w (.c (.fn n []))=>some (.f n)
 | .w (.c (.o h))=>match(find hp h).bind O.cont with
  |some c=>match c.e with
   |0=>none
   |_+1=>some (.r c)
  |none=>none
 |_=>none
def joC (n:Nat):A→V
 | .d x=>.w (.c (.d x))
 | .s l=>.w (.a (l.map C.d))
 | .r _=>.w (.c (.o n))
 | .f g=>.w (.c (.fn g []))
def jeR:Nat→List A→List V
 |_,[]=>[]
 |n,a::l=>joC n a::jeR (n+1) l
def jih:Nat→List A→Hp
 |_,[]=>[]
 |n,.r c::l=>(n,.ext c)::jih (n+1) l
 |n,_::l=>jih (n+1) l
def rvW:Nat→List RV→List W
 |_,[]=>[]
 |n,.d x::l=>.c (.d x)::rvW n l
 |n,.s c::l=>.a (c.map C.d)::rvW n l
 |n,.row _ _::l=>.c (.o n)::rvW (n+1) l
def joD:Nat→List RV→Hp→Hp
 |_,[],hp=>hp
 |n,.row ty c::l,hp=>joD (n+1) l ((n,.row ty c)::hp)
 |n,.d _::l,hp=>joD n l hp
 |n,.s _::l,hp=>joD n l hp
def jii:Nat→List RV→Nat
 |n,[]=>n
 |n,.row _ _::l=>jii (n+1) l
 |n,.d _::l=>jii n l
 |n,.s _::l=>jii n l
def jnu:List D→List D→Prop→Prop
 |[],[],k=>k
 |x::l,y::m,k=>mD y x∧jnu l m k
 |_,_,_=>False
theorem jlQ [Globs] {k:Prop}:∀{l m:List D},jnu l m k→l=m∧k
 |[],[],h=>⟨rfl,h⟩
 |x::l,y::m,h=>by
  have:=jlQ h.2
  exact⟨by rw[jk3 h.1,this.1],this.2⟩
 |[],_::_,h=>h.elim
 |_::_,[],h=>h.elim
def jdl (hp:Hp):List RV→List W→List Nat→Prop
 |[],[],_=>True
 | .d x::rs,.c (.d y)::ws,us=>mD x y∧jdl hp rs ws us
 | .s l::rs,.a cs::ws,us=>match jbP cs with
  |some ds=>jnu ds l (jdl hp rs ws us)
  |none=>False
 | .row ty c::rs,.c (.o h)::ws,us=>match us.contains h with
  |true=>False
  |false=>match find hp h with
   |some (.row ty' c')=>match Nat.beq ty' ty with
    |true=>jd1 c c'∧jdl hp rs ws (h::us)
    |false=>False
   |_=>False
 | .row _ c::rs,.c (.d (.v (.slice none 0 0)))::ws,us=>Ob (c.n=0)∧jdl hp rs ws us
 |_,_,_=>False
def jy9 (rs:List RV) (v:V) (hp:Hp):Prop:=match v with
 | .w u=>jdl hp rs [u] []
 | .t [_]=>False
 | .t l=>jdl hp rs l []
theorem jdG {P:Program} {f:Nat} {fn:Func} {body:Code} (hf:P.funcs[f]?=some fn) (hb:fn.body=some body) (hn:(fn.name == "runtime.NumGoroutine")=false) (args:Array Value) (w:World) :
  (callFunc f args).run P w=.ok (.enter f args) w:=by
 unfold callFunc
 simp only[Sem.run_bind,run_program,Result.andThen_ok,hf,hn,Bool.false_eq_true,if_false,hb,Option.isNone_some]
 rfl
theorem jah.sound [Globs] {P:Program} {f:Nat} {fn:Func} {body:Code} {M:Bool} {S:Spec} (h:jah P f M S) (hf:P.funcs[f]?=some fn) (hb:fn.body=some body) (hn:(fn.name == "runtime.NumGoroutine")=false):RunOK P f M S:=by
 rcases h with h|h
 ·exact h
 ·refine⟨jdG hf hb hn,fun ρ B w args hp nx t hS hob hlt hh hB=>?_⟩
  obtain⟨ob,v,_,_,hrun⟩:=h ρ B w args hp nx t hS hob hlt hh hB
  rw[jdG hf hb hn]at hrun
  cases hrun
section
variable [Globs] {P:Program} {sp:jab} {ρ:Env} {B:Bd} {nx:Nat} {hp:Hp} {w w':World}
theorem jij (h:jb6 B w) (hB:Old B w):jb6 (fun k=>k<w.heap.size) w:=h.sub hB
theorem HRel.add1 (h:HRel ρ B hp nx w) {v:Value} {o:O} (hl:o.lt (nx+1)) (ho:o.ok (upd ρ nx v) B w nx) (hap:∀k o' b,find hp k=some o'→o'.blk (ρ k)=some b→o.blk v≠some b) :
  HRel (upd ρ nx v) B ((nx,o)::hp) (nx+1) w:=by
 have h1:=(h.agree (jaB ρ nx v)).mono_nx (Nat.le_succ nx)
 refine⟨?_,?_,h1.glob⟩
 ·intro k o' hf
  simp only[find]at hf
  split at hf
  ·rename_i e; subst e; cases hf; exact⟨by omega,hl,ho⟩
  ·exact h1.ok k o' hf
 ·intro k o1 k' o2 b hf hf' hne hb hb'
  simp only[find]at hf hf'
  split at hf
  ·rename_i e
   subst e
   cases hf
   rw[if_neg hne]at hf'
   rw[upd_same]at hb
   rw[jaB ρ nx v k' (h.ok k' o2 hf').1]at hb'
   exact hap k' o2 b hf' hb' hb
  ·split at hf'
   ·rename_i e
    subst e
    cases hf'
    rw[upd_same]at hb'
    rw[jaB ρ nx v k (h.ok k o1 hf).1]at hb
    exact hap k o1 b hf hb hb'
   ·exact h1.apart k o1 k' o2 b hf hf' hne hb hb'
theorem jhD {B0:Bd} {hp':Hp} {nx':Nat} {ρ':Env} {m:Nat} {us0:List Nat} (hB0:∀k,k<m→B0 k∨∀u o b,us0.contains u=false→find hp' u=some o→(∃ty c,o=.row ty c)→o.blk (ρ' u)=some b→b≠k) (hBm:∀k,B k→k<m) (hh':HRel ρ' B0 hp' nx' w') :
  ∀(rs:List RV) (ws:List W) (us:List Nat) (nx:Nat) (hp:Hp) (ρ:Env),(∀x,us0.contains x=true→us.contains x=true)→jdl hp' rs ws us→HRel ρ B hp nx w' →
   (∀k o b,find hp k=some o→o.blk (ρ k)=some b→b<m∨∃u∈us,∃ou,find hp' u=some ou∧ou.blk (ρ' u)=some b) →
   ∃ρ'',jan nx ρ ρ''∧HRel ρ'' B (joD nx rs hp) (jii nx rs) w'∧nx≤jii nx rs∧(∀x∈rvW nx rs,W.lt (jii nx rs) x)∧ws.map (W.val ρ')=(rvW nx rs).map (W.val ρ'') ∧
    ∀h o k,find (joD nx rs hp) h=some o→(nx≤h→o.blk (ρ'' h)=some k→m≤k)∧(h<nx→find hp h=some o)
 |[],ws,us,nx,hp,ρ,_,hf,hh,_=>by
  cases ws with
  |nil=>exact⟨ρ,jan.refl _ _,hh,Nat.le_refl _,(fun _ h=>by cases h),rfl,fun h o k hf=>⟨fun hle _=>absurd (hh.ok h o hf).1 (by omega),fun _=>hf⟩⟩
  |cons w ws=>cases w<;>exact hf.elim
 | .d x::rs,ws,us,nx,hp,ρ,hsu,hf,hh,hinv=>by
  match ws,hf with
  | .c (.d y)::ws,hf =>
   obtain⟨ρ'',h1,h2,h3,h4,h5,h6⟩:=jhD hB0 hBm hh' rs ws us nx hp ρ hsu hf.2 hh hinv
   refine⟨ρ'',h1,h2,h3,fun u hu=>?_,?_,h6⟩
   ·rcases List.mem_cons.1 hu with rfl|hu
    ·trivial
    ·exact h4 u hu
   ·rw[←jk3 hf.1]
    simp only[List.map_cons,rvW,h5]
    rfl
 | .s l::rs,ws,us,nx,hp,ρ,hsu,hf,hh,hinv=>by
  match ws,hf with
  | .a cs::ws,hf =>
   simp only[jdl]at hf
   split at hf
   ·rename_i ds hds
    obtain⟨hl,hf2⟩:=jlQ hf
    subst hl
    obtain⟨ρ'',h1,h2,h3,h4,h5,h6⟩:=jhD hB0 hBm hh' rs ws us nx hp ρ hsu hf2 hh hinv
    refine⟨ρ'',h1,h2,h3,fun u hu=>?_,?_,h6⟩
    ·rcases List.mem_cons.1 hu with rfl|hu
     ·intro x hx
      obtain⟨y,_,rfl⟩:=List.mem_map.1 hx
      trivial
     ·exact h4 u hu
    ·rw[jcT hds]
     simp only[List.map_cons,rvW,h5]
     congr 1
     simp[W.val,C.val,Function.comp_def]
   ·exact hf.elim
 | .row ty c::rs,ws,us,nx,hp,ρ,hsu,hf,hh,hinv=>by
  match ws,hf with
  | .c (.o h)::ws,hq =>
   rw[jdl]at hq
   split at hq
   ·exact hq.elim
   ·rename_i hus
    split at hq
    ·rename_i ty' c' hfind
     split at hq
     ·rename_i hty
      have hty:ty'=ty:=Nat.eq_of_beq_eq_true hty
      subst hty
      have hc:=(jcH hq.1).symm
      subst hc
      have hok:=(hh'.ok h _ hfind).2.2
      have hblk:∀b,(ρ' h).ownBlock=some b→m≤b:=fun b hb=>by
       rcases Nat.lt_or_ge b m with hlt|hge
       ·rcases hB0 b hlt with h1|h1
        ·exact absurd h1 (hok.2 b hb)
        ·have hu0:us0.contains h=false:=by
          cases hc:us0.contains h with
          |false=>rfl
          |true=>rw[hsu h hc]at hus; cases hus
         exact absurd rfl (h1 h _ b hu0 hfind ⟨_,_,rfl⟩ hb)
       ·exact hge
      have hadd:=hh.add1 (v:=ρ' h) (o:=.row ty' c') trivial (by
       refine⟨by rw[upd_same]; exact hok.1,fun b hb hBb=>?_⟩
       rw[upd_same]at hb
       have:=hblk b hb
       have:=hBm b hBb
       omega) (fun k o' b hk hb hb2=>by
        rcases hinv k o' b hk hb with h1|⟨u,hu,ou,h1,h2⟩
        ·have:=hblk b hb2; omega
        ·refine hh'.apart h _ u ou b hfind h1 (fun e=>?_) hb2 h2
         subst e
         rw[List.contains_iff_mem.2 hu]at hus
         cases hus)
      obtain⟨ρ'',h1,h2,h3,h4,h5,h6⟩:=jhD hB0 hBm hh' rs ws (h::us) (nx+1) ((nx,.row ty' c')::hp) (upd ρ nx (ρ' h)) (fun x hx=>by have:=hsu x hx; simp at this ⊢; exact .inr this) hq.2 hadd (fun k o b hk hb=>by
       simp only[find]at hk
       split at hk
       ·rename_i e
        subst e
        cases hk
        rw[upd_same]at hb
        exact .inr ⟨h,List.mem_cons_self,_,hfind,hb⟩
       ·rw[jaB ρ nx (ρ' h) k (hh.ok k o hk).1]at hb
        rcases hinv k o b hk hb with h1|⟨u,hu,ou,h1,h2⟩
        ·exact .inl h1
        ·exact .inr ⟨u,List.mem_cons_of_mem _ hu,ou,h1,h2⟩)
      have hnx:ρ'' nx=ρ' h:=by rw[h1 nx (Nat.lt_succ_self nx),upd_same]
      refine⟨ρ'',fun k hk=>by rw[h1 k (by omega),jaB ρ nx (ρ' h) k hk],h2,by unfold jii; omega,fun u hu=>?_,?_,fun k o b hk=>?_⟩
      ·rcases List.mem_cons.1 hu with rfl|hu
       ·exact Nat.lt_of_lt_of_le (Nat.lt_succ_self nx) h3
       ·exact h4 u hu
      ·simp only[List.map_cons,rvW,h5]
       congr 1
       exact hnx.symm
      ·have h7:=h6 k o b hk
       refine⟨fun hle hb=>?_,fun hlt=>?_⟩
       ·by_cases hle2:nx+1≤k
        ·exact h7.1 hle2 hb
        ·have e:k=nx:=by omega
         subst e
         have h8:=h7.2 (Nat.lt_succ_self k)
         simp only[find,if_true]at h8
         cases h8
         rw[hnx]at hb
         exact hblk b hb
       ·have h8:=h7.2 (by omega)
        simp only[find]at h8
        rw[if_neg (by omega)]at h8
        exact h8
     ·exact hq.elim
    ·exact hq.elim
  | .c (.d (.v (.slice none 0 0)))::ws,hf =>
   simp only[jdl]at hf
   have hn:=hf.1.h
   have hfl:c.flat=[]:=List.eq_nil_of_length_eq_zero (by rw[Cont.flat_length,hn,Nat.zero_mul])
   have hadd:=hh.add1 (v:=.slice none 0 0) (o:=.row ty c) trivial (by
    refine⟨?_,fun b hb=>?_⟩
    ·rw[upd_same,hfl,hn]
     exact World.ownsRow_nil w' 0 ty c.e
    ·rw[upd_same]at hb; cases hb) (fun k o' b hk hb hb2=>by cases hb2)
   obtain⟨ρ'',h1,h2,h3,h4,h5,h6⟩:=jhD hB0 hBm hh' rs ws us (nx+1) ((nx,.row ty c)::hp) (upd ρ nx (.slice none 0 0)) hsu hf.2 hadd (fun k o b hk hb=>by
    simp only[find]at hk
    split at hk
    ·rename_i e
     subst e
     cases hk
     rw[upd_same]at hb
     cases hb
    ·rw[jaB ρ nx _ k (hh.ok k o hk).1]at hb
     exact hinv k o b hk hb)
   have hnx:ρ'' nx=.slice none 0 0:=by rw[h1 nx (Nat.lt_succ_self nx),upd_same]
   refine⟨ρ'',fun k hk=>by rw[h1 k (by omega),jaB ρ nx _ k hk],h2,by unfold jii; omega,fun u hu=>?_,?_,fun k o b hk=>?_⟩
   ·rcases List.mem_cons.1 hu with rfl|hu
    ·exact Nat.lt_of_lt_of_le (Nat.lt_succ_self nx) h3
    ·exact h4 u hu
   ·simp only[List.map_cons,rvW,h5]
    congr 1
    exact hnx.symm
   ·have h7:=h6 k o b hk
    refine⟨fun hle hb=>?_,fun hlt=>?_⟩
    ·by_cases hle2:nx+1≤k
     ·exact h7.1 hle2 hb
     ·have e:k=nx:=by omega
      subst e
      have h8:=h7.2 (Nat.lt_succ_self k)
      simp only[find,if_true]at h8
      cases h8
      rw[hnx]at hb
      cases hb
    ·have h8:=h7.2 (by omega)
     simp only[find]at h8
     rw[if_neg (by omega)]at h8
     exact h8
end
end Go.Sx
end

section
open Go.RowKit
namespace Go.Sx
def O.own:O→Bool
 | .box _ cs=>cs.all fun c=>match c with
  | .d _=>true
  |_=>false
 | .row _ _=>true
 |_=>false
def mOwn:O→O→Prop→Prop
 | .row ty c,.row ty' c',k=>match Nat.beq ty ty' with
  |true=>jd1 c c'∧k
  |false=>False
 | .box ty cs,.box ty' cs',k=>match Nat.beq ty ty',jbP cs,jbP cs' with
  |true,some ds,some ds'=>jnu ds' ds k
  |_,_,_=>False
 |_,_,_=>False
def fitsU (rs:List RV) (v:V) (hp:Hp):Prop:=match v with
 | .w u=>jdl hp rs [u] [0]
 | .t [_]=>False
 | .t l=>jdl hp rs l [0]
def fitsE (o':O) (rs:List RV) (v:V) (hp:Hp):Prop:=match find hp 0 with
 |some o1=>mOwn o' o1 (fitsU rs v hp)
 |none=>False
section
variable [Globs] {P:Program} {sp:jab}
end
end Go.Sx
end

section
open Go.RowKit
namespace Go.Sx
def toAK (q:Option Cont) (hp:Hp) (v:V):Option A :=
 match q with
 |none=>toA hp v
 |some c0=>match v.nils?,c0.n,c0.e with
  |true,0,_+1=>some (.r c0)
  |_,_,_=>toA hp v
def jnv:List (Option Cont)→Hp→List V→Option (List A)
 |_,_,[]=>some []
 |qs,hp,v::l=>match toAK (qs.headD none) hp v,jnv qs.tail hp l with
  |some a,some r=>some (a::r)
  |_,_=>none
def jaq (qs:List (Option Cont)) (g:List A→Option (Prop × List RV)):Spec:=fun vs hp nx =>
 match jnv qs hp vs with
 |some asq=>match g asq with
  |some (ob,rs)=>some (.leaf ⟨ob,jcy (rvW nx rs),joD nx rs hp,jii nx rs⟩)
  |none=>none
 |none=>none
section
variable [Globs] {P:Program} {sp:jab} {ρ:Env} {B:Bd} {nx:Nat} {hp:Hp} {w w':World}
theorem jzw {v:V} (h:v.nils?=true):v=.w (.c (.d (.v (.slice none 0 0)))):=by
 unfold V.nils? at h
 split at h
 ·rfl
 ·cases h
theorem jrF (hh:HRel ρ B hp nx w) {v:V} {a:A} (ha:toA hp v=some a) (n m:Nat) (ρ0:Env) (h0:ρ0 n=v.val ρ) :
  (joC n a).val ρ0=v.val ρ∧V.lt (n+(m+1)) (joC n a)∧∀c,a=.r c→ja9 w (ρ0 n) c∧jdV (fun k=>k<w.heap.size) (ρ0 n):=by
 unfold toA at ha
 split at ha
 ·cases ha; exact⟨rfl,trivial,fun _ h=>by cases h⟩
 ·rename_i l
  cases hd:jbP l with
  |none=>simp[hd]at ha
  |some ds =>
   simp only[hd,Option.map_some,Option.some.injEq]at ha
   subst ha
   rw[jcT hd]
   refine⟨?_,(fun x hx=>?_),fun _ h=>by cases h⟩
   ·simp[joC,V.val,W.val,C.val,Function.comp_def]
   ·obtain⟨y,_,rfl⟩:=List.mem_map.1 hx
    trivial
 ·cases ha
  exact⟨rfl,(fun _ h=>by cases h),fun _ h=>by cases h⟩
 ·rename_i k
  split at ha
  ·rename_i c hc
   split at ha
   ·cases ha
   ·rename_i e he
    cases ha
    cases hf:find hp k with
    |none=>simp[hf]at hc
    |some o =>
     simp only[hf,Option.bind_some]at hc
     have hrow:=jbo (hh.ok k o hf).2.2 hc
     have e0:ρ0 n=ρ k:=h0
     refine⟨e0,(show n<n+(m+1) by omega),fun c' hc'=>?_⟩
     cases hc'
     rw[e0]
     exact⟨hrow,ja9.lt hrow (by omega)⟩
  ·cases ha
 ·cases ha
theorem jvU (hh:HRel ρ B hp nx w) {q:Option Cont} {v:V} {a:A} (ha:toAK q hp v=some a) (n m:Nat) (ρ0:Env) (h0:ρ0 n=v.val ρ) :
  (joC n a).val ρ0=v.val ρ∧V.lt (n+(m+1)) (joC n a)∧∀c,a=.r c→ja9 w (ρ0 n) c∧jdV (fun k=>k<w.heap.size) (ρ0 n):=by
 unfold toAK at ha
 split at ha
 ·exact jrF hh ha n m ρ0 h0
 ·rename_i c0
  split at ha
  ·rename_i e hn hc he
   cases ha
   have hv:=jzw hn
   subst hv
   refine⟨h0,(show n<n+(m+1) by omega),fun c' hc'=>?_⟩
   cases hc'
   rw[h0]
   refine⟨⟨none,0,by rw[hc]; rfl,⟨by omega,fun _=>rfl⟩,fun h=>by omega⟩,fun a n cap h _=>?_⟩
   cases h
  ·exact jrF hh ha n m ρ0 h0
theorem jnw (hh:HRel ρ B hp nx w):∀(qs:List (Option Cont)) (vs:List V) (asq:List A) (n:Nat) (ρ0:Env),jnv qs hp vs=some asq→(∀i v,vs[i]?=some v→ρ0 (n+i)=v.val ρ) →
  (jeR n asq).map (V.val ρ0)=vs.map (V.val ρ)∧asq.length=vs.length∧(∀x∈jeR n asq,V.lt (n+asq.length) x) ∧
   ∀h o,find (jih n asq) h=some o→n≤h∧h<n+asq.length∧∃c,o=.ext c∧ja9 w (ρ0 h) c∧jdV (fun k=>k<w.heap.size) (ρ0 h)
 |_,[],asq,n,ρ0,h,_=>by
  simp only[jnv,Option.some.injEq]at h
  subst h
  exact⟨rfl,rfl,(fun _ h=>by cases h),fun _ _ h=>by cases h⟩
 |qs,v::vs,asq,n,ρ0,h,hρ=>by
  simp only[jnv]at h
  split at h
  ·rename_i a r ha hr
   cases h
   have ih:=jnw hh qs.tail vs r (n+1) ρ0 hr (fun i v hv=>by rw[show n+1+i=n+(i+1) by omega]; exact hρ (i+1) v (by simpa using hv))
   have h0:=hρ 0 v rfl
   rw[Nat.add_zero]at h0
   have hv:=jvU hh ha n r.length ρ0 h0
   have hag:∀x,V.lt (n+1+r.length) x→V.lt (n+(r.length+1)) x:=fun x hx=>V.lt_mono (by omega) hx
   refine⟨by simp only[jeR,List.map_cons,hv.1,ih.1],by simp[ih.2.1],fun x hx=>?_,fun h o hf=>?_⟩
   ·rcases List.mem_cons.1 hx with rfl|hx
    ·simpa using hv.2.1
    ·simpa using hag x (ih.2.2.1 x hx)
   ·cases a with
    |r c =>
     simp only[jih,find]at hf
     split at hf
     ·rename_i e
      subst e
      cases hf
      exact⟨Nat.le_refl _,by simp,c,rfl,hv.2.2 c rfl⟩
     ·have:=ih.2.2.2 h o hf
      simp only[List.length_cons]
      exact⟨by omega,by omega,this.2.2⟩
    |d x=>have:=ih.2.2.2 h o hf; simp only[List.length_cons]; exact⟨by omega,by omega,this.2.2⟩
    |s x=>have:=ih.2.2.2 h o hf; simp only[List.length_cons]; exact⟨by omega,by omega,this.2.2⟩
    |f x=>have:=ih.2.2.2 h o hf; simp only[List.length_cons]; exact⟨by omega,by omega,this.2.2⟩
  ·cases h
theorem jaw {f:Nat} {fn:Func} {body:Code} {qs:List (Option Cont)} {g:List A→Option (Prop × List RV)} (hm:P.follows .mixedOrders=true) (hsp:jac P sp) (hf:P.funcs[f]?=some fn) (hb:fn.body=some body) (hn:(fn.name == "runtime.NumGoroutine")=false)
  (h:∀asq ob rs,g asq=some (ob,rs)→ob→asq.length≤fn.ntmps∧∃fuel loops,sx P sp fn.ntmps asq.length fuel loops (jcl P sp fn.ntmps) body 0 [] ⟨jc5 0 (jeR 0 asq),jih 0 asq,asq.length⟩ (jeo P fn.results.toList fun v hp _=>jy9 rs v hp)) :
  jah P f true (jaq qs g):=by
 refine .inl ⟨jdG hf hb hn,fun ρ B w args hp nx r hS hob hlt hh hB=>?_⟩
 unfold jaq at hS
 split at hS
 ·rename_i asq has
  split at hS
  ·rename_i ob rs hg
   cases hS
   obtain⟨hlen,fuel,loops,hx⟩:=h asq ob rs hg hob
   have hto:=jnw hh qs args asq 0 (fun i=>(args[i]?.map (V.val ρ)).getD undef) has (fun i v hv=>by simp[hv])
   have hal:(jeR 0 asq).length=asq.length:=by
    have:∀(l:List A) (n:Nat),(jeR n l).length=l.length:=fun l=>by
     induction l with
     |nil=>exact fun _=>rfl
     |cons a l ih=>exact fun n=>by simp[jeR,ih]
    exact this asq 0
   have hh0:HRel (fun i=>(args[i]?.map (V.val ρ)).getD undef) (fun k=>k<w.heap.size) (jih 0 asq) asq.length w:=by
    refine⟨fun x o hf=>?_,fun x o x' o' k hf hf' _ hb=>?_,jij hh.glob hB⟩
    ·obtain⟨_,h2,c,rfl,h3,h4⟩:=hto.2.2.2 x o hf
     exact⟨by omega,trivial,h3,h4⟩
    ·obtain⟨_,_,c,rfl,_,_⟩:=hto.2.2.2 x o hf
     cases hb
   have hcalls:=jry (n0:=asq.length) (B:=fun k=>k<w.heap.size) hsp (fun ρ w=>jc6 hm hsp) hf hb (by rw[hal]; exact hlen) hx (fun x hx=>by simpa using hto.2.2.1 x hx) (Nat.le_refl _) _ w hh0 (fun k hk=>hk)
   rw[hto.1]at hcalls
   refine hcalls.mono ?_
   rintro e w' ⟨ρ',v,hp',nx',rfl,hvlt,hag,hh',hbel,_,hfit⟩
   have hbw:Below w.heap.size w w':=hbel.below
   have hh1:=hh.below hbw hB
   obtain⟨ws,hws,hfw⟩:∃ws,(jcy ws).val ρ'=v.val ρ'∧jdl hp' rs ws []:=by
    match v,hfit with
    | .w u,hfit=>exact⟨[u],rfl,hfit⟩
    | .t [],hfit=>exact⟨[],rfl,hfit⟩
    | .t (x::y::l),hfit=>exact⟨x::y::l,rfl,hfit⟩
   obtain⟨ρ'',h1,h2,h3,h4,h5,h6⟩:=jhD (m:=w.heap.size) (us0:=[]) (fun k hk=>.inl hk) hB hh' rs ws [] nx hp ρ (fun _ h=>h) hfw hh1 (fun k o b hk hb=>.inl (O.blk_lt (hh.ok k o hk).2.2 hb).1)
   refine⟨ρ'',?_,h1,jfQ h4,h3,h2,jb7 hbw hB,fun _=>hbw,fun _ h o k hle hf hb=>(h6 h o k hf).1 hle hb⟩
   show Ending.returned _=Ending.returned ((jcy (rvW nx rs)).val ρ'')
   rw[←hws,jcI,jcI]
   simp only[h5]
  ·cases hS
 ·cases hS
end
end Go.Sx
end
