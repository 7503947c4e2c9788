/- Part 3 of the proof of EngineOrders: the executor, the mirrors of the functions, the plain facts. -/
import Derived.Test.YtigliehhpdpaoaaGreatPB
set_option maxRecDepth 100000
set_option linter.unusedSectionVars false
set_option linter.unusedSimpArgs false
set_option linter.unusedVariables false
section
open Go.RowKit
namespace Go.Sx
section
variable [Globs] {P:Program} {ρ:Env} {B:Kd} {N n0:Nat} {st:St} {w:World} {a:Act} {sp:jaa} {ds:List Deferred}
theorem jsh {d:Option Nat} (h:jcd N d=true):∀t,d=some t→t<N:=by
 intro t ht;subst ht;simpa [jcd,Nat.blt_eq]using h
theorem jbH {a:Act} {d:Option Nat} {v:Value} {t:Nat} (hd:∀x,d=some x→x<a.tmps.size) :
  (a.put d v).tmps.getD t undef=if d=some t then v else a.tmps.getD t undef:=by
 cases d with
 |none=>simp[Act.put]
 |some x =>
  have:=hd x rfl;simp only[Act.put,Option.some.injEq]
  by_cases h:x=t
  ·subst h;simp[this]
  ·simp[h,Array.getElem?_setIfInBounds_ne h]
theorem jbu {a:Act} {d:Option Nat} {v:Value}:(a.put d v).tmps.size=a.tmps.size:=by
 cases d<;>simp[Act.put]
theorem jcM {a:Act} {d:Option Nat} {v:Value}:(a.put d v).defers=a.defers:=by
 cases d<;>simp[Act.put]
theorem RelD.put1 {o:Oper} {r:Res} {M:Bool} {ρ':Env} {w':World} {B1:Kd} (h:RelD ds ρ B N n0 st a w) (g:Grow B B1 false w w) (hd:jcd N o.dst=true) (hl:Left ρ B1 st.nx w r M ρ' w') :
  RelD ds ρ' B N n0 (st.put o.dst r) (a.put o.dst (r.v.val ρ')) w':=by
 have hdl:∀x,o.dst=some x→x<a.tmps.size:=fun x hx=>by rw[h.size];exact jsh hd x hx
 have hnx:(st.put o.dst r).nx=r.nx:=by cases o.dst<;>rfl
 have hhp:(st.put o.dst r).hp=r.hp:=by cases o.dst<;>rfl
 refine⟨fun t v hv=>?_,by rw[jbu];exact h.size,by rw[jcM];exact h.defers,by
  rw[hhp,hnx];obtain⟨B2,g2,h2⟩:=hl.heap;exact⟨B2,((g.trans g2.weak (Nat.le_refl _) hl.below.size).weak),h2⟩,(hl.below.mono g.le.kp).old h.le,by rw[hnx];exact Nat.le_trans h.n0 hl.le⟩
 rw[jbH hdl,hnx]
 have hold:∀v,jav st.tm t=some v→v.lt r.nx∧a.tmps.getD t undef=v.val ρ':=fun v hv=>by
  have:=h.tm t v hv;exact⟨V.lt_mono hl.le this.1,by rw[this.2,V.val_agree hl.agree this.1]⟩
 cases hdst:o.dst with
 |none =>
  simp only[hdst,St.put]at hv;simpa using hold v hv
 |some x =>
  simp only[hdst,St.put,jav]at hv;split at hv
  ·rename_i e;subst e;cases hv;simp[hl.lt]
  ·rename_i e;simp only[Option.some.injEq,e,if_false];exact hold v hv
theorem RelD.skip {o:Oper} (h:RelD ds ρ B N n0 st a w) (hd:jcd N o.dst=true):RelD ds ρ B N n0 (st.put o.dst ⟨True,vu,st.hp,st.nx⟩) (a.put o.dst undef) w :=
 let ⟨_,g,hh⟩:=h.heap
 h.put1 (M:=true) (o:=o) (r:=⟨True,vu,st.hp,st.nx⟩) g hd ⟨jae.refl _ _,trivial,Nat.le_refl _,hh.gr,Bel.refl _ _,(fun _=>Below.refl _ _),fun _ k o b hn hf _=>absurd (hh.ok k o hf).1 (by omega)⟩
theorem RelD.know {t:Nat} {b:Bool} (h:RelD ds ρ B N n0 st a w) (hb:jav st.tm t=some (vb b)):RelD ds ρ B N n0 ⟨(t,vb b)::st.tm,st.hp,st.nx⟩ a w:=by
 refine⟨fun t' v hv=>?_,h.size,h.defers,h.heap,h.le,h.n0⟩;simp only[jav]at hv;split at hv
 ·rename_i e;subst e;cases hv;exact h.tm t _ hb
 ·exact h.tm t' v hv
def Qx (ds:List Deferred) (ρ0:Env) (B:Kd) (N n0:Nat) (w0:World) (k:Ex→St→Prop):Exit→Act→World→Prop:=fun e a w =>
 ∃x ρ st,e=x.toExit∧k x st∧RelD ds ρ B N n0 st a w∧jae n0 ρ0 ρ∧Bel B w0 w
variable {ρ0:Env} {w0:World}
theorem jt9 {op:BinOp} {k k':IntKind} {m n:Int} {ob:Prop} {v:V} (ht:(match op with | .quo | .rem | .shl | .shr=>false|_=>true)=true) (h:jfv op k m k' n=some (ob,v)):ob:=by
 unfold jfv at h;cases op<;>simp at ht h<;>obtain⟨_,h,_⟩:=h<;>first|exact h|exact h ▸ trivial
theorem jbk {α:Type} {x:Option α} {f:α→Prop × V} {ob:Prop} {v:V} (h:x.map f=some (ob,v)) (hf:∀a,(f a).1=True):ob:=by
 cases x with
 |none=>cases h
 |some a =>
  simp only[Option.map_some,Option.some.injEq]at h;have:=hf a;rw[h]at this;exact cast this.symm trivial
theorem jzk {op:Op} {rd:Operand→Option V} {hp:Hp} {ob:Prop} {v:V} (ht:ja5 op rd hp=true) (h:jfi P op rd hp=some (ob,v)):ob:=by
 unfold jfi at h;unfold ja5 at ht;cases op with
 |binOp op t x y yt =>
  dsimp only at h ht;split at h
  ·rename_i u u' hx hy;split at h
   ·rename_i a b hu hu';split at h
    ·simp[hx,hu]at ht
    ·cases h
   ·split at h
    ·unfold jn2 at h;cases op<;>simp at h<;>exact h.1
    ·split at h
     ·unfold jfw at h;cases op<;>simp at h<;>exact h.1
     ·cases h
  ·cases h
 |load t x =>
  dsimp only at h ht;split at h
  ·rename_i hx;simp[hx]at ht
  ·cases h
 |call c =>
  dsimp only at h ht;split at h
  ·split at h
   ·split at h
    ·cases h;trivial
    ·split at h
     ·cases h;trivial
     ·cases h
   ·cases h
  ·rename_i hc _;split at h
   ·split at h
    ·cases h;trivial
    ·cases h
   ·cases h
  ·split at h
   ·cases h;trivial
   ·cases h
  ·split at h
   ·cases h;trivial
   ·cases h
  ·cases h
 |nilCheck x =>
  dsimp only at h;split at h
  ·cases h;trivial
  ·cases h
 |fieldAddr s x f =>
  dsimp only at h;split at h
  ·split at h
   ·split at h
    ·cases h;trivial
    ·cases h
   ·cases h
  ·cases h
 |slice t x lo hi mx=>simp at ht
 |convert s d x=>simp at ht
 |index t x i=>simp at ht
 |indexAddr t x i=>simp at ht
 |sliceToArrayPointer t x=>simp at ht
 |_=>simp at h
theorem jzl {op:Op} {rd:Operand→Option V} {hp:Hp} {nx:Nat} {r:Res} (ht:ja5 op rd hp=true) (h:jdE P op rd hp nx=some r):r.ob:=by
 unfold jdE at h;unfold ja5 at ht;cases op with
 |box elem x =>
  dsimp only at h;split at h
  ·cases h;trivial
  ·cases h
 |alloc elem =>
  dsimp only at h;split at h
  ·cases h;trivial
  ·cases h
 |buildSlice t n ps =>
  dsimp only at h;split at h
  ·split at h
   ·split at h
    ·cases h;trivial
    ·cases h
   ·cases h
  ·cases h
 |slice t x lo hi mx=>simp at ht
 |convert s d x=>simp at ht
 |load t x =>
  dsimp only at h ht;split at h
  ·rename_i hx;split at h
   ·rename_i hf;simp only[hx]at ht;split at ht
    ·rename_i heq;cases heq;obtain⟨ox,hf1,hf2⟩:=Option.bind_eq_some_iff.1 hf;cases ox<;>simp[O.xk]at hf2<;>simp[hf1]at ht
    ·cases ht
   ·cases h
  ·cases h
 |store t x y =>
  dsimp only at h ht;split at h
  ·rename_i hx hy;split at h
   ·rename_i hf;simp only[hx]at ht;split at ht
    ·rename_i heq;cases heq;simp[hf]at ht
    ·cases ht
   ·rename_i hf;simp only[hx]at ht;split at ht
    ·rename_i heq;cases heq;simp[hf]at ht
    ·cases ht
   ·cases h
  ·rename_i hx hy;split at h
   ·rename_i hf;simp only[hx]at ht;split at ht
    ·rename_i heq;cases heq;simp[hf]at ht
    ·cases ht
   ·rename_i hf;simp only[hx]at ht;split at ht
    ·rename_i heq;cases heq;simp[hf]at ht
    ·cases ht
   ·cases h
  ·rename_i hx hy;split at h
   ·rename_i hf;simp only[hx]at ht;split at ht
    ·rename_i heq;cases heq;simp[hf]at ht
    ·cases ht
   ·cases h
  ·cases h
 |makeMap t r =>
  cases r with
  |none =>
   dsimp only at h;split at h
   ·cases h;trivial
   ·cases h
  |some r=>simp at h
 |lookup t x i ok =>
  cases ok with
  |true =>
   dsimp only at h;split at h
   ·split at h
    ·cases h;trivial
    ·cases h
   ·cases h
  |false=>simp at h
 |mapUpdate t m i y =>
  dsimp only at h;split at h
  ·split at h
   ·cases h;trivial
   ·cases h
  ·cases h
 |_=>simp at h
theorem jzm {op:Op} {rd:Operand→Option V} {hp:Hp} {nx:Nat} {r:Res} (ht:ja5 op rd hp=true) (h:jdF P op rd hp nx=some r):r.ob:=by
 unfold jdF at h;unfold ja5 at ht;cases op with
 |buildSlice t n ps =>
  dsimp only at h;split at h
  ·split at h
   ·split at h
    ·cases h;trivial
    ·cases h
   ·cases h
  ·cases h
 |makeSlice t l c=>simp at ht
 |store t x y =>
  dsimp only at h ht;split at h
  ·rename_i k i e j u hx hy;split at h
   ·rename_i ty X sz hf hs;simp only[hx]at ht;split at ht
    ·rename_i heq;cases heq;simp[hf]at ht
    ·cases ht
   ·cases h
  ·cases h
 |call c =>
  dsimp only at h ht;split at h
  ·rename_i hc _ _;simp[hc]at ht
  ·cases h
 |_=>simp at h
theorem jzn {op:Op} {rd:Operand→Option V} {hp:Hp} {nx:Nat} {r:Res} (ht:ja5 op rd hp=true) (h:jdG P op rd hp nx=some r):r.ob:=by
 unfold jdG at h;unfold ja5 at ht;cases op with
 |buildSlice t n ps =>
  dsimp only at h;split at h
  ·split at h
   ·split at h
    ·split at h
     ·cases h;trivial
     ·cases h
    ·cases h
   ·cases h
  ·cases h
 |makeSlice t l c=>simp at ht
 |load t x =>
  dsimp only at h ht;split at h
  ·rename_i k i e j hx;split at h
   ·rename_i ty ts X hf;simp only[hx]at ht;split at ht
    ·rename_i heq;cases heq;simp[hf]at ht
    ·cases ht
   ·cases h
  ·cases h
 |store t x y =>
  dsimp only at h ht;split at h
  ·rename_i k i e j u hx hy;simp only[hx]at ht;split at h
   ·rename_i ty ts X ho sz hf hs;split at ht
    ·rename_i heq;cases heq;simp[hf]at ht
    ·cases ht
   ·rename_i r0 i0 e0 j0 t0 c sz hf hs;split at ht
    ·rename_i heq;cases heq;simp[hf]at ht
    ·cases ht
   ·cases h
  ·cases h
 |call c =>
  dsimp only at h ht;split at h
  ·rename_i hc _ _;simp[hc]at ht
  ·cases h
 |_=>simp at h
theorem jzo {op:Op} {rd:Operand→Option V} {hp:Hp} {nx:Nat} {r:Res} (ht:ja5 op rd hp=true) (h:jei P op rd hp nx=some r):r.ob:=by
 unfold jei at h;unfold ja5 at ht;cases op with
 |buildSlice t n ps =>
  dsimp only at h;split at h
  ·split at h
   ·cases h;trivial
   ·cases h
  ·cases h
 |makeSlice t l c=>simp at ht
 |slice t x lo hi mx=>simp at ht
 |store t x y =>
  dsimp only at h ht;split at h
  ·split at h
   ·split at h
    ·cases h;trivial
    ·cases h
   ·cases h
  ·cases h
 |call c =>
  dsimp only at h ht;split at h
  ·rename_i hc _ _;simp[hc]at ht
  ·cases h
 |_=>simp at h
theorem jir {op:Op} {rd:Operand→Option V} {hp:Hp} {nx:Nat} {r:Res} (ht:ja5 op rd hp=true) (h:jbN P sp op rd hp nx=some r):r.ob:=by
 unfold jbN at h;cases hv:ja1 P op rd hp with
 |some p =>
  obtain⟨ob,v⟩:=p;simp only[hv,Option.some.injEq]at h;subst h
  show ob
  unfold ja1 at hv;split at hv
  rotate_left
  ·exact jzk ht hv
  rename_i p hv0;cases hv;have hv:=hv0;clear hv0;unfold jaZ at hv;unfold ja5 at ht;cases op with
  |binOp op t x y yt =>
   dsimp only at hv ht;split at hv
   ·split at hv
    ·refine jt9 ?_ hv;cases op<;>first|rfl|exact ht
    ·split at hv
     ·split at hv
      ·unfold jlP at hv;cases op<;>simp at hv<;>exact hv.1
      ·cases hv
     ·split at hv
      ·unfold jnZ at hv;cases op<;>simp at hv<;>exact hv.1
      ·split at hv
       ·rename_i hu _;unfold jnY at hv;split at hv
        ·cases op<;>simp at hv<;>first|exact hv.1|(simp_all)
        ·cases hv
       ·split at hv
        ·split at hv
         ·exact jbk hv (fun _=>rfl)
         ·exact jbk hv (fun _=>rfl)
         ·cases hv
        ·cases hv
   ·cases hv
  |load t x =>
   dsimp only at hv ht;split at hv
   ·rename_i k i e j hx;cases e with
    |zero=>simp[hx]at ht
    |succ e =>
    simp only[hx]at ht;split at hv
    ·rename_i o hf;simp only[hf]at ht;cases o with
     |box ty cs =>
      unfold jc5 at hv;split at hv
      ·dsimp only[jef]at hv;split at hv
       ·split at hv
        ·cases hv;trivial
        ·cases hv
       ·cases hc:cs[i*(e+1)+j]? with
        |none=>simp[hc]at hv
        |some c=>simp[hc]at hv;exact hv.1
      ·cases hv
     |_=>simp at ht
    ·cases hv
   ·cases hv
  |call c =>
   dsimp only at hv ht;split at hv
   ·split at hv
    ·exact jbk hv (fun _=>rfl)
    ·split at hv
     ·cases hv;trivial
     ·cases hv
    ·exact jbk hv (fun _=>rfl)
    ·cases hv;trivial
    ·cases hv
   ·split at hv
    ·exact jbk hv (fun _=>rfl)
    ·cases hv
   ·split at hv
    ·exact jbk hv (fun _=>rfl)
    ·cases hv
   ·cases hv
  |pick c x y =>
   dsimp only at hv;split at hv
   ·exact jbk hv (fun _=>rfl)
   ·exact jbk hv (fun _=>rfl)
   ·cases hv
  |unOp op t x =>
   dsimp only at hv;split at hv
   ·exact jbk hv (fun _=>rfl)
   ·exact jbk hv (fun _=>rfl)
   ·cases hv
  |move x=>exact jbk hv (fun _=>rfl)
  |assign x=>exact jbk hv (fun _=>rfl)
  |extract t i =>
   dsimp only at hv;split at hv
   ·exact jbk hv (fun _=>rfl)
   ·cases hv
  |field t x f =>
   dsimp only at hv;split at hv
   ·split at hv
    ·exact jbk hv (fun _=>rfl)
    ·cases hv
   ·cases hv
  |nilCheck x =>
   dsimp only at hv;split at hv
   ·cases hv;trivial
   ·cases hv
  |fieldAddr s x f =>
   dsimp only at hv;split at hv
   ·split at hv
    ·split at hv
     ·cases hv;trivial
     ·cases hv
    ·cases hv
   ·cases hv
  |build t parts =>
   dsimp only at hv;split at hv
   ·exact jbk hv (fun _=>rfl)
   ·cases hv
  |makeFunc f first cap =>
   cases f with
   |func f =>
    dsimp only at hv;split at hv
    ·cases hv;trivial
    ·split at hv
     ·cases hv;trivial
     ·cases hv
    ·cases hv
   |_=>simp at hv
  |_=>simp at hv ht
 |none =>
  simp only[hv]at h;split at h
  ·rename_i r0 hR;unfold jc7 at hR;split at hR
   ·simp[ja5]at ht
   ·simp[ja5]at ht
   ·cases hR
  split at h
  ·rename_i r0 hX;cases h;exact jzl ht hX
  split at h
  ·rename_i r0 hX;cases h;exact jzo ht hX
  split at h
  ·rename_i r0 hX;cases h;exact jzn ht hX
  split at h
  ·rename_i r0 hX;cases h;exact jzm ht hX
  unfold jhp at h;unfold ja5 at ht;cases op with
  |box elem x =>
   dsimp only at h;split at h
   ·split at h
    ·cases h;trivial
    ·cases h
   ·cases h
  |alloc elem =>
   dsimp only at h;split at h
   ·cases h;trivial
   ·cases h
  |buildSlice t n ps =>
   dsimp only at h;split at h
   ·split at h
    ·cases h;trivial
    ·cases h
   ·cases h
  |store t x y =>
   dsimp only at h ht;split at h
   ·rename_i k i e j u hx hy;cases e with
    |zero=>simp[hx]at ht
    |succ e =>
    simp only[hx]at ht;split at h
    ·split at h
     ·simp only[jn8]at h;split at h
      ·cases h;trivial
      ·cases h
     ·rename_i hf;simp[hf]at ht
     ·cases h
    ·cases h
   ·cases h
  |call c =>
   dsimp only at h ht;split at h
   ·rename_i hc _ _;simp[hc]at ht
   ·rename_i hc;simp[hc]at ht
   ·cases h
  |_=>simp at h ht
theorem jel {o:Oper} {k:St→Prop} {K:Act→World→Prop} {Q:Exit→Act→World→Prop} (hsp:jac P sp) (hr:RelD ds ρ B N n0 st a w) (hag:jae n0 ρ0 ρ) (hbl:Bel B w0 w) (h:jgM P sp N o st k)
  (hK:∀ρ' st' a' w',RelD ds ρ' B N n0 st' a' w'→jae n0 ρ0 ρ'→Bel B w0 w'→k st'→K a' w'):o.wp P a w K Q:=by
 unfold jgM at h;split at h
 ·rename_i t ht2;split at h
  ·rename_i hd;have h:=RT.run_sel h;obtain⟨B1,g,hh⟩:=hr.heap;obtain⟨M,hS⟩:=jt8 hsp hh (g.old hr.le) hr.reads ht2 h.1.h;refine hS K Q fun ρ' w' hl=>?_;exact hK ρ' _ _ w' (hr.put1 g hd hl) (hag.trans hl.agree hr.n0) (hbl.trans (hl.below.mono g.le.kp)) h.2
  ·exact h.elim
 split at h
 ·rename_i r hr2;split at h
  ·rename_i hd;obtain⟨B1,g,hh⟩:=hr.heap;split at h
   ·rename_i ht;refine jdq hsp hh (g.old hr.le) hr.reads hr2 (jir ht hr2) K Q fun ρ' w' hl=>?_;exact hK ρ' _ _ w' (hr.put1 g hd hl) (hag.trans hl.agree hr.n0) (hbl.trans (hl.below.mono g.le.kp)) h
   ·refine jdq hsp hh (g.old hr.le) hr.reads hr2 h.1.h K Q fun ρ' w' hl=>?_;exact hK ρ' _ _ w' (hr.put1 g hd hl) (hag.trans hl.agree hr.n0) (hbl.trans (hl.below.mono g.le.kp)) h.2
  ·exact h.elim
 ·exact h.elim
theorem jgN {o:Oper} {k:St→Prop} {K:Act→World→Prop} (hr:RelD ds ρ B N n0 st a w) (hag:jae n0 ρ0 ρ) (hbl:Bel B w0 w) (h:jkG N o st k)
  (hK:∀ρ' st' a' w',RelD ds ρ' B N n0 st' a' w'→jae n0 ρ0 ρ'→Bel B w0 w'→k st'→K a' w'):K (a.put o.dst undef) w:=by
 unfold jkG at h;split at h
 ·rename_i hd;exact hK ρ _ _ w (hr.skip hd) hag hbl h
 ·exact h.elim
theorem jdI {all:List Oper} {j t:Nat} {v:V} (hr:RelD ds ρ B N n0 st a w) (h:jeP all j st=some (t,v)) (ht:t<N∨v=v) :
  yielded all.toArray a.tmps j=(match v.val ρ with | .bool b=>some b|_=>none)∧jav st.tm t=some v:=by
 unfold jeP at h;cases hd:(all[j]?).bind (·.dst)with
 |none=>simp[hd]at h
 |some t' =>
  cases hg:jav st.tm t' with
  |none=>simp[hd,hg]at h
  |some v' =>
   simp[hd,hg]at h;obtain⟨rfl,rfl⟩:=h;refine⟨?_,hg⟩;have h1:=(hr.tm t' v' hg).2;unfold yielded;have hd2:((all.toArray[j]?).bind (·.dst))=some t':=by simpa using hd
   rw[hd2];simp only[Option.bind_some];rw[←h1]
   by_cases hlt:t'<a.tmps.size
   ·simp only[Array.getD_eq_getD_getElem?,Array.getElem?_eq_getElem hlt,Option.getD_some];cases a.tmps[t']<;>rfl
   ·simp[hlt,undef]
theorem ji5 {all:List Oper} {Q:Exit→Act→World→Prop} {k:St→Prop} (hsp:jac P sp)
  (hQ:∀ρ' st' a' w',RelD ds ρ' B N n0 st' a' w'→jae n0 ρ0 ρ'→Bel B w0 w'→k st'→Q .normal a' w') :
  ∀(l:List Oper) (ρ:Env) (st:St) (a:Act) (w:World),RelD ds ρ B N n0 st a w→jae n0 ρ0 ρ→Bel B w0 w→ji3 P sp N all l st k→wpList P all.toArray Q l a w
 |[],ρ,st,a,w,hr,hag,hbl,h=>hQ ρ st a w hr hag hbl h
 |o::r,ρ,st,a,w,hr,hag,hbl,h=>by
  have ih:=fun ρ' st' a' w' (h1:RelD ds ρ' B N n0 st' a' w') h2 h3 h4=>ji5 (all:=all) hsp hQ r ρ' st' a' w' h1 h2 h3 h4;unfold ji3 at h;unfold wpList;cases hg:o.guard with
  |none =>
   simp only[hg]at h;have hw:Region.wanted o (yielded all.toArray a.tmps)=true:=by simp[Region.wanted,hg]
   rw[if_pos hw];exact .inl (jel hsp hr hag hbl h ih)
  |some p =>
   obtain⟨j,want⟩:=p;simp only[hg]at h;have hwanted:∀ob,yielded all.toArray a.tmps j=ob→Region.wanted o (yielded all.toArray a.tmps)=(ob==some want):=fun ob hob=>by simp[Region.wanted,hg,hob]
   split at h
   ·rename_i t b hgo;obtain⟨hy,hget⟩:=jdI hr hgo (.inr rfl);have hw:=hwanted _ hy;have hval:(V.w (.c (.d (.b b)))).val ρ=.bool b:=rfl;rw[hval]at hw;have hkn:=hr.know hget;cases b<;>cases want<;>simp only[Br]at h
    ·rw[if_pos (by rw[hw];rfl)];exact .inl (jel hsp hkn hag hbl h ih)
    ·rw[if_neg (by rw[hw];simp)];exact jgN hkn hag hbl h ih
    ·rw[if_neg (by rw[hw];simp)];exact jgN hkn hag hbl h ih
    ·rw[if_pos (by rw[hw];rfl)];exact .inl (jel hsp hkn hag hbl h ih)
   ·rename_i t vs hgo;obtain⟨hy,hget⟩:=jdI hr hgo (.inr rfl);have hw:=hwanted _ hy;have hval:(V.w (.c (.d (.v (.tuple vs))))).val ρ=.tuple vs:=rfl;rw[hval]at hw;rw[if_neg (by rw[hw];simp)];exact jgN hr hag hbl h ih
   ·exact h.elim
def jcq (ρ:Env) (m:Rn):Env:=fun h=>match jbi m h with
 |some (some s)=>ρ s
 |some none=>.slice none 0 0
 |none=>ρ h
def Ext (m m':Rn):Prop:=∀h x,jbi m h=some x→jbi m' h=some x
theorem Ext.refl (m:Rn):Ext m m:=fun _ _ h=>h
theorem Ext.trans {a b c:Rn} (h:Ext a b) (k:Ext b c):Ext a c:=fun x y hx=>k x y (h x y hx)
def Inj (m:Rn):Prop:=∀h h' s,jbi m h=some (some s)→jbi m h'=some (some s)→h=h'
theorem jvZ {m:Rn} {s:Nat} (h:jrB m s=false):∀x,jbi m x≠some (some s):=by
 induction m with
 |nil=>intro x hx;simp[jbi]at hx
 |cons p r ih =>
  obtain⟨k,v⟩:=p;simp only[jrB,List.any_cons,Bool.or_eq_false_iff]at h;intro x hx;simp only[jbi]at hx;split at hx
  ·simp only[Option.some.injEq]at hx;subst hx;simp at h
  ·exact ih (by simpa [jrB]using h.2) x hx
theorem jsi {m:Rn} {h:Nat} {x:Option Nat} (hn:jbi m h=none):Ext m ((h,x)::m):=by
 intro k y hk;simp only[jbi];split
 ·rename_i e;subst e;rw[hn]at hk;cases hk
 ·exact hk
theorem jem {h' h:Nat} {m:Rn} {k:Rn→Prop} (hb:ji4 h' h m k) (hi:Inj m):∃m',k m'∧Ext m m'∧Inj m'∧jbi m' h'=some (some h):=by
 unfold ji4 at hb;split at hb
 ·rename_i s hs;split at hb
  ·rename_i e;subst e;exact⟨m,hb,Ext.refl m,hi,hs⟩
  ·exact hb.elim
 ·exact hb.elim
 ·rename_i hn;split at hb
  ·exact hb.elim
  ·rename_i hu;have hu':=jvZ hu;refine⟨_,hb,jsi hn,?_,by simp[jbi]⟩;intro x y s hx hy;simp only[jbi]at hx hy;split at hx
   ·rename_i e;subst e;simp only[Option.some.injEq]at hx;subst hx;split at hy
    ·rename_i e;exact e
    ·exact absurd hy (hu' y)
   ·split at hy
    ·rename_i e;subst e;simp only[Option.some.injEq]at hy;subst hy;exact absurd hx (hu' x)
    ·exact hi x y s hx hy
theorem jzp {m:Rn} {h:Nat} (hi:Inj m):Inj ((h,none)::m):=by
 intro x y s hx hy;simp only[jbi]at hx hy;split at hx
 ·cases hx
 ·split at hy
  ·cases hy
  ·exact hi x y s hx hy
theorem jlW {d' d:D} (h:mD d' d):d'=d:=by
 unfold mD at h;split at h
 all_goals first
  |exact h.elim
  |(rw[h.h];done)
  |(
    split at h
    ·rename_i e;obtain⟨rfl,rfl⟩:=e;rw[h.h]
    ·exact h.elim)
  |(
    split at h
    ·rename_i e;subst e;rw[h.h]
    ·exact h.elim)
  |(
    split at h
    ·rename_i e;rw[jbr e,h.h]
    ·exact h.elim)
theorem jis {c' c:XC} (h:mX c' c):c'=c:=by
 unfold mX at h;split at h
 all_goals first
  |exact h.elim
  |(
    split at h
    ·rename_i e;obtain⟨rfl,rfl⟩:=e;rw[h.h]
    ·exact h.elim)
  |(
    split at h
    ·rename_i e;subst e;rw[h.h]
    ·exact h.elim)
def Same (ρ:Env) (m:Rn) (f:Env→Value) (v:Value):Prop:=∀m',Ext m m'→f (jcq ρ m')=v
theorem jaB {ρ:Env} {m:Rn} {h s:Nat} (h1:jbi m h=some (some s)):jcq ρ m h=ρ s:=by simp[jcq,h1]
theorem jb4 {ρ:Env} {m:Rn} {h:Nat} (h1:jbi m h=some none):jcq ρ m h=.slice none 0 0:=by simp[jcq,h1]
theorem ji6:∀{l' l:List Nat} {m:Rn} {k:Rn→Prop},jrC l' l m k→Inj m→∃m',k m'∧Ext m m'∧Inj m'∧∀m2,Ext m' m2→l'.map (jcq ρ m2)=l.map ρ
 |[],[],m,k,h,hi=>⟨m,h,Ext.refl m,hi,fun _ _=>rfl⟩
 |x' :: r',x::r,m,k,h,hi=>by
  obtain⟨m1,h1,hE1,hI1,hl1⟩:=jem h hi;obtain⟨m2,h2,hE2,hI2,hS2⟩:=ji6 h1 hI1;refine⟨m2,h2,hE1.trans hE2,hI2,fun m3 h3=>?_⟩;simp only[List.map_cons,hS2 m3 h3,jaB (h3 _ _ (hE2 _ _ hl1))]
 |[],_::_,_,_,h,_=>h.elim
 |_::_,[],_,_,h,_=>h.elim
theorem jvd {x' x:C} {m:Rn} {k:Rn→Prop} (h:mC x' x m k) (hi:Inj m):∃m',k m'∧Ext m m'∧Inj m'∧Same ρ m' (fun ρ'=>x'.val ρ') (x.val ρ):=by
 unfold mC at h;split at h
 ·rename_i d' d;exact⟨m,h.2,Ext.refl m,hi,fun m' _=>by rw[jlW h.1];rfl⟩
 ·rename_i h' i' e' j' hh i e j;split at h
  ·rename_i he;obtain⟨rfl,rfl⟩:=he;obtain⟨⟨rfl⟩,hb⟩:=h;obtain⟨m',hk,hE,hI,hl⟩:=jem hb hi;exact⟨m',hk,hE,hI,fun m2 h2=>by simp only[C.val,jaB (h2 _ _ hl)]⟩
  ·exact h.elim
 ·rename_i h' hh;obtain⟨m',hk,hE,hI,hl⟩:=jem h hi;exact⟨m',hk,hE,hI,fun m2 h2=>by simp only[C.val,jaB (h2 _ _ hl)]⟩
 ·rename_i h';split at h
  ·rename_i hl;exact⟨m,h,Ext.refl m,hi,fun m2 h2=>by simp only[C.val,jb4 (h2 _ _ hl),D.val]⟩
  ·exact h.elim
  ·rename_i hn;refine⟨_,h,jsi hn,jzp hi,fun m2 h2=>?_⟩;simp only[C.val,jb4 (h2 h' none (by simp[jbi])),D.val]
 ·split at h
  ·rename_i e;subst e;obtain⟨m',hk,hE,hI,hl⟩:=ji6 (ρ:=ρ) h hi;exact⟨m',hk,hE,hI,fun m2 h2=>by simp only[C.val,hl m2 h2]⟩
  ·exact h.elim
 ·split at h
  ·rename_i e;subst e;obtain⟨m',hk,hE,hI,hl⟩:=ji6 (ρ:=ρ) h hi;exact⟨m',hk,hE,hI,fun m2 h2=>by simp only[C.val,hl m2 h2]⟩
  ·exact h.elim
 ·split at h
  ·rename_i e;obtain⟨rfl,rfl,rfl⟩:=e;obtain⟨⟨rfl⟩,hk⟩:=h;exact⟨m,hk,Ext.refl m,hi,fun _ _=>rfl⟩
  ·exact h.elim
 ·exact h.elim
theorem ji7:∀{l' l:List C} {m:Rn} {k:Rn→Prop},mCs l' l m k→Inj m→∃m',k m'∧Ext m m'∧Inj m'∧∀m2,Ext m' m2→l'.map (C.val (jcq ρ m2))=l.map (C.val ρ)
 |[],[],m,k,h,hi=>⟨m,h,Ext.refl m,hi,fun _ _=>rfl⟩
 |x' :: r',x::r,m,k,h,hi=>by
  obtain⟨m1,h1,hE1,hI1,hS1⟩:=jvd (ρ:=ρ) h hi;obtain⟨m2,h2,hE2,hI2,hS2⟩:=ji7 h1 hI1;refine⟨m2,h2,hE1.trans hE2,hI2,fun m3 h3=>?_⟩;simp only[List.map_cons,hS2 m3 h3,hS1 m3 (hE2.trans h3)]
 |[],_::_,_,_,h,_=>h.elim
 |_::_,[],_,_,h,_=>h.elim
theorem jve {x' x:W} {m:Rn} {k:Rn→Prop} (h:mW x' x m k) (hi:Inj m):∃m',k m'∧Ext m m'∧Inj m'∧Same ρ m' (fun ρ'=>x'.val ρ') (x.val ρ):=by
 unfold mW at h;split at h
 ·exact jvd h hi
 ·obtain⟨m',h1,h2,h3,h4⟩:=ji7 (ρ:=ρ) h hi;exact⟨m',h1,h2,h3,fun m2 h5=>by simp only[W.val,h4 m2 h5]⟩
 ·split at h
  ·rename_i e;obtain⟨rfl,rfl⟩:=e;obtain⟨⟨rfl⟩,hk⟩:=h;exact⟨m,hk,Ext.refl m,hi,fun _ _=>rfl⟩
  ·exact h.elim
 ·exact h.elim
theorem jsj:∀{l' l:List W} {m:Rn} {k:Rn→Prop},mWs l' l m k→Inj m→∃m',k m'∧Ext m m'∧Inj m'∧∀m2,Ext m' m2→l'.map (W.val (jcq ρ m2))=l.map (W.val ρ)
 |[],[],m,k,h,hi=>⟨m,h,Ext.refl m,hi,fun _ _=>rfl⟩
 |x' :: r',x::r,m,k,h,hi=>by
  obtain⟨m1,h1,hE1,hI1,hS1⟩:=jve (ρ:=ρ) h hi;obtain⟨m2,h2,hE2,hI2,hS2⟩:=jsj h1 hI1;refine⟨m2,h2,hE1.trans hE2,hI2,fun m3 h3=>?_⟩;simp only[List.map_cons,hS2 m3 h3,hS1 m3 (hE2.trans h3)]
 |[],_::_,_,_,h,_=>h.elim
 |_::_,[],_,_,h,_=>h.elim
theorem jBb {x' x:V} {m:Rn} {k:Rn→Prop} (h:mV x' x m k) (hi:Inj m):∃m',k m'∧Ext m m'∧Inj m'∧Same ρ m' (fun ρ'=>x'.val ρ') (x.val ρ):=by
 unfold mV at h;split at h
 ·exact jve h hi
 ·obtain⟨m',h1,h2,h3,h4⟩:=jsj (ρ:=ρ) h hi;exact⟨m',h1,h2,h3,fun m2 h5=>by simp only[V.val,h4 m2 h5]⟩
 ·exact h.elim
theorem jvf (tm:List (Nat × V)):∀{l:List (Nat × V)} {m:Rn} {k:Rn→Prop},mT l tm m k→Inj m→∃m',k m'∧Ext m m'∧Inj m' ∧
  ∀t v',jav l t=some v'→∃v,jav tm t=some v∧Same ρ m' (fun ρ'=>v'.val ρ') (v.val ρ)
 |[],m,k,h,hi=>⟨m,h,Ext.refl m,hi,fun _ _ hv=>by cases hv⟩
 |(t0,v0)::r,m,k,h,hi=>by
  unfold mT at h;split at h
  ·rename_i v hv;obtain⟨m1,h1,hE1,hI1,hS1⟩:=jBb (ρ:=ρ) h hi;obtain⟨m2,h2,hE2,hI2,hS2⟩:=jvf tm h1 hI1;refine⟨m2,h2,hE1.trans hE2,hI2,fun t v' hv'=>?_⟩;simp only[jav]at hv';split at hv'
   ·rename_i e;subst e;cases hv';exact⟨v,hv,fun m3 h3=>hS1 m3 (hE2.trans h3)⟩
   ·exact hS2 t v' hv'
  ·exact h.elim
theorem jbI {c' c:Cont} (h:jdH c' c):c'=c:=by
 unfold jdH at h;split at h
 all_goals first
  |exact h.elim
  |(rw[h.h];done)
  |(
    split at h
    ·rename_i e;obtain⟨rfl,rfl⟩:=e;rw[h.h]
    ·exact h.elim)
  |(
    split at h
    ·rename_i e;subst e;rw[h.h]
    ·exact h.elim)
def jnd (ρ:Env) (B:Kd) (w:World) (hp:Hp) (m:Rn) (h':Nat) (o':O):Prop :=
 (∀m2,Ext m m2→o'.ok (jcq ρ m2) B w h') ∧
 ((∃s o,jbi m h'=some (some s)∧find hp s=some o∧∀m2,Ext m m2→∀k,o'.blk (jcq ρ m2 h')=some k→o.blk (ρ s)=some k)∨(∀m2,Ext m m2→o'.blk (jcq ρ m2 h')=none))
theorem jnd.mono {hp:Hp} {m m':Rn} {h':Nat} {o':O} (h:jnd ρ B w hp m h' o') (hE:Ext m m'):jnd ρ B w hp m' h' o':=by
 refine⟨fun m2 h2=>h.1 m2 (hE.trans h2),?_⟩;rcases h.2 with ⟨s,o,h1,h2,h3⟩|h1
 ·exact .inl ⟨s,o,hE _ _ h1,h2,fun m2 h4=>h3 m2 (hE.trans h4)⟩
 ·exact .inr fun m2 h2=>h1 m2 (hE.trans h2)
theorem jvg {hp:Hp} {nx h' s:Nat} {o' o:O} {m:Rn} {k:Rn→Prop} (h:mO o' o m k) (hi:Inj m) (hh:HRel ρ B hp nx w) (hf:find hp s=some o) (hl:jbi m h'=some (some s)) :
  ∃m',k m'∧Ext m m'∧Inj m'∧jnd ρ B w hp m' h' o':=by
 have hok:=(hh.ok s o hf).2.2;unfold mO at h;split at h
 ·rename_i ty cs' ty' cs;split at h
  ·rename_i e;subst e;obtain⟨m1,h1,hE,hI,hS⟩:=ji7 (ρ:=ρ) h hi;refine⟨m1,h1,hE,hI,fun m2 h2=>?_,.inl ⟨s,_,hE _ _ hl,hf,fun m2 h2 k hk=>?_⟩⟩
   ·obtain⟨g,h3,h4,h5⟩:=hok;exact⟨g,by rw[jaB (h2 _ _ (hE _ _ hl))];exact h3,h4,by rw[hS m2 h2];exact h5⟩
   ·rw[jaB (h2 _ _ (hE _ _ hl))]at hk;exact hk
  ·exact h.elim
 ·rename_i ty c' ty' c;split at h
  ·rename_i e;subst e;have hc:=jbI h.1;subst hc;refine⟨m,h.2,Ext.refl m,hi,fun m2 h2=>?_,.inl ⟨s,_,hl,hf,fun m2 h2 k hk=>?_⟩⟩
   ·unfold O.ok;rw[jaB (h2 _ _ hl)];exact hok
   ·rw[jaB (h2 _ _ hl)]at hk;exact hk
  ·exact h.elim
 ·rename_i c' c;have hc:=jbI h.1;subst hc;refine⟨m,h.2,Ext.refl m,hi,fun m2 h2=>?_,.inr fun _ _=>rfl⟩;unfold O.ok;rw[jaB (h2 _ _ hl)];exact hok
 ·split at h
  ·rename_i hk;have hk:=jbr hk;subst hk;refine⟨m,h,Ext.refl m,hi,fun m2 h2=>?_,.inr fun _ _=>rfl⟩;unfold O.ok;rw[jaB (h2 _ _ hl)];exact hok
  ·exact h.elim
 ·rename_i cs' cs;obtain⟨m1,h1,hE,hI,hS⟩:=ji7 (ρ:=ρ) h hi;refine⟨m1,h1,hE,hI,fun m2 h2=>?_,.inr fun _ _=>rfl⟩;obtain⟨g,o,h3,h4,h5⟩:=hok;refine⟨g,o,by rw[jaB (h2 _ _ (hE _ _ hl))];exact h3,h4,fun j c hj=>?_⟩;have hj2:(List.map (C.val (jcq ρ m2)) cs')[j]?=some (c.val (jcq ρ m2)):=by rw[List.getElem?_map,hj];rfl
  rw[hS m2 h2,List.getElem?_map]at hj2;obtain⟨c0,hc0,he0⟩:=Option.map_eq_some_iff.1 hj2;rw[←he0];exact h5 j c0 hc0
 ·split at h
  ·rename_i e;obtain⟨rfl,rfl,rfl⟩:=e;obtain⟨⟨rfl⟩,hk⟩:=h;refine⟨m,hk,Ext.refl m,hi,fun m2 h2=>?_,.inl ⟨s,_,hl,hf,fun m2 h2 k hk=>?_⟩⟩
   ·unfold O.ok;rw[jaB (h2 _ _ hl)];exact hok
   ·rw[jaB (h2 _ _ hl)]at hk;exact hk
  ·exact h.elim
 ·have hc:=jis h.1;subst hc;refine⟨m,h.2,Ext.refl m,hi,fun m2 h2=>?_,.inr fun _ _=>rfl⟩;unfold O.ok;rw[jaB (h2 _ _ hl)];exact hok
 ·obtain⟨⟨rfl⟩,hk⟩:=h;refine⟨m,hk,Ext.refl m,hi,fun m2 h2=>?_,.inl ⟨s,_,hl,hf,fun m2 h2 k hk=>?_⟩⟩
  ·unfold O.ok;rw[jaB (h2 _ _ hl)];exact hok
  ·rw[jaB (h2 _ _ hl)]at hk;exact hk
 ·have hc:=jbI h.1;subst hc;refine⟨m,h.2,Ext.refl m,hi,fun m2 h2=>?_,.inl ⟨s,_,hl,hf,fun m2 h2 k hk=>?_⟩⟩
  ·unfold O.ok;rw[jaB (h2 _ _ hl)];exact hok
  ·rw[jaB (h2 _ _ hl)]at hk;exact hk
 ·have hc:=jbI h.1;subst hc;refine⟨m,h.2,Ext.refl m,hi,fun m2 h2=>?_,.inr fun _ _=>rfl⟩;unfold O.ok;rw[jaB (h2 _ _ hl)];exact hok
 ·split at h
  ·rename_i e;subst e;have hc:=jis h.1;subst hc;refine⟨m,h.2,Ext.refl m,hi,fun m2 h2=>?_,.inl ⟨s,_,hl,hf,fun m2 h2 k hk=>?_⟩⟩
   ·unfold O.ok;rw[jaB (h2 _ _ hl)];exact hok
   ·rw[jaB (h2 _ _ hl)]at hk;exact hk
  ·exact h.elim
 ·split at h
  ·rename_i e;obtain⟨rfl,rfl⟩:=e;have hc:=jis h.1;subst hc;refine⟨m,h.2,Ext.refl m,hi,fun m2 h2=>?_,.inl ⟨s,_,hl,hf,fun m2 h2 k hk=>?_⟩⟩
   ·unfold O.ok;rw[jaB (h2 _ _ hl)];exact hok
   ·rw[jaB (h2 _ _ hl)]at hk;exact hk
  ·exact h.elim
 ·split at h
  ·rename_i e;obtain⟨rfl,rfl,rfl⟩:=e;obtain⟨⟨rfl⟩,hc,hb⟩:=h;have hc:=jbI hc;subst hc;obtain⟨m1,h1,hE,hI,hb1⟩:=jem hb hi;refine⟨m1,h1,hE,hI,fun m2 h2=>?_,.inr fun _ _=>rfl⟩;unfold O.ok;simp only;rw[jaB (h2 _ _ (hE _ _ hl)),jaB (h2 _ _ hb1)];exact hok
  ·exact h.elim
 ·rename_i r' c';split at h
  ·rename_i c hc;have he:=jbI h.1;subst he;refine⟨m,h.2,Ext.refl m,hi,fun m2 h2=>?_,.inr fun _ _=>rfl⟩;unfold O.ok;rw[jaB (h2 _ _ hl)];exact⟨jaR hok hc,fun h=>by cases h⟩
  ·exact h.elim
 ·exact h.elim
theorem jvh {hp:Hp} {nx:Nat} (hh:HRel ρ B hp nx w):∀{l:Hp} {m:Rn} {k:Rn→Prop},mH l hp m k→Inj m→∃m',k m'∧Ext m m'∧Inj m'∧∀h' o',find l h'=some o'→jnd ρ B w hp m' h' o'
 |[],m,k,h,hi=>⟨m,h,Ext.refl m,hi,fun _ _ hv=>by cases hv⟩
 |(h0,o0)::r,m,k,h,hi=>by
  have close:∀m1,Ext m m1→Inj m1→jnd ρ B w hp m1 h0 o0→mH r hp m1 k→∃m',k m'∧Ext m m'∧Inj m'∧∀h' o',find ((h0,o0)::r) h'=some o'→jnd ρ B w hp m' h' o':=by
   intro m1 hE1 hI1 hO1 h1;obtain⟨m2,h2,hE2,hI2,hS2⟩:=jvh hh h1 hI1;refine⟨m2,h2,hE1.trans hE2,hI2,fun h' o' hf=>?_⟩;simp only[find]at hf;split at hf
   ·rename_i e;subst e;cases hf;exact hO1.mono hE2
   ·exact hS2 h' o' hf
  unfold mH at h;split at h
  ·rename_i s hs;split at h
   ·rename_i o hf;obtain⟨m1,h1,hE1,hI1,hO1⟩:=jvg h hi hh hf hs;exact close m1 hE1 hI1 hO1 h1
   ·exact h.elim
  ·rename_i hs;split at h
   ·rename_i ty c;refine close m (Ext.refl m) hi ⟨fun m2 h2=>?_,.inr fun m2 h2=>?_⟩ h.2
    ·have hfl:c.flat=[]:=List.eq_nil_of_length_eq_zero (by rw[Cont.flat_length,h.1.h,Nat.zero_mul])
     show w.ownsRow 0 ty c.e (jcq ρ m2 h0) c.n (c.flat.map D.val)∧∀k,(jcq ρ m2 h0).ownBlock=some k→¬B.all k
     rw[jb4 (h2 _ _ hs),hfl,h.1.h];exact⟨World.ownsRow_nil w 0 ty c.e,fun k hk=>by cases hk⟩
    ·rw[jb4 (h2 _ _ hs)];rfl
   ·rename_i ty X;refine close m (Ext.refl m) hi ⟨fun m2 h2=>?_,.inr fun m2 h2=>?_⟩ h.2
    ·refine⟨[],?_,fun i j h1 _=>?_,fun k hk=>?_⟩
     ·rw[jb4 (h2 _ _ hs),h.1.h];exact World.ownsRow_nil w 0 ty X.e
     ·rw[h.1.h]at h1;exact absurd h1 (Nat.not_lt_zero _)
     ·rw[jb4 (h2 _ _ hs)]at hk;cases hk
    ·rw[jb4 (h2 _ _ hs)];rfl
   ·rename_i ty ts X;refine close m (Ext.refl m) hi ⟨fun m2 h2=>?_,.inr fun m2 h2=>?_⟩ h.2
    ·refine⟨[],?_,fun i j h1 _=>?_,fun i j i' j' u v k h1=>?_,fun k hk=>?_⟩
     ·rw[jb4 (h2 _ _ hs),h.1.h];exact World.ownsRow_nil w 0 ty X.e
     ·rw[h.1.h]at h1;exact absurd h1 (Nat.not_lt_zero _)
     ·rw[h.1.h]at h1;exact absurd h1 (Nat.not_lt_zero _)
     ·rw[jb4 (h2 _ _ hs)]at hk;cases hk
    ·rw[jb4 (h2 _ _ hs)];rfl
   ·exact h.elim
  ·split at h
   ·rename_i o hf;obtain⟨m1,h1,hE1,hI1,hl1⟩:=jem h hi;obtain⟨m2,h2,hE2,hI2,hO2⟩:=jvg h1 hI1 hh hf hl1;exact close m2 (hE1.trans hE2) hI2 hO2 h2
   ·exact h.elim
theorem C.ltb_spec {n:Nat} {x:C} (h:x.ltb n=true):x.lt n:=by
 cases x with
 |d=>trivial
 |p=>simpa [C.ltb,C.lt,Nat.blt_eq]using h
 |o=>simpa [C.ltb,C.lt,Nat.blt_eq]using h
 |fn f hs=>intro y hy;have:=List.all_eq_true.1 h y hy;simpa [Nat.blt_eq]using this
 |fb f hs=>intro y hy;have:=List.all_eq_true.1 h y hy;simpa [Nat.blt_eq]using this
 |g=>trivial
theorem W.ltb_spec {n:Nat} {x:W} (h:x.ltb n=true):x.lt n:=by
 cases x with
 |c c=>exact C.ltb_spec h
 |a l=>exact fun y hy=>C.ltb_spec (List.all_eq_true.1 h y hy)
 |b=>trivial
theorem V.ltb_spec {n:Nat} {x:V} (h:x.ltb n=true):x.lt n:=by
 cases x with
 |w c=>exact W.ltb_spec h
 |t l=>exact fun y hy=>W.ltb_spec (List.all_eq_true.1 h y hy)
theorem O.ltb_spec {n:Nat} {x:O} (h:x.ltb n=true):x.lt n:=by
 cases x with
 |box ty cs=>exact fun y hy=>C.ltb_spec (List.all_eq_true.1 h y hy)
 |view r c _=>simpa [O.ltb,O.lt,Nat.blt_eq]using h
 |sub r i e j ty c=>simpa [O.ltb,O.lt,Nat.blt_eq]using h
 |ebox cs=>exact fun y hy=>C.ltb_spec (List.all_eq_true.1 h y hy)
 |lbox ty e n cs=>exact fun y hy=>C.ltb_spec (List.all_eq_true.1 h y hy)
 |elist e n cs=>exact fun y hy=>C.ltb_spec (List.all_eq_true.1 h y hy)
 |lview r e n cs =>
  simp only[O.ltb,Bool.and_eq_true]at h;exact⟨by simpa using h.1,fun y hy=>C.ltb_spec (List.all_eq_true.1 h.2 y hy)⟩
 |_=>trivial
theorem jzq {l:List (Nat × V)} {t:Nat} {v:V} (h:jav l t=some v):(t,v)∈l:=by
 induction l with
 |nil=>cases h
 |cons p r ih =>
  obtain⟨k,x⟩:=p;simp only[jav]at h;split at h
  ·rename_i e;subst e;cases h;exact List.mem_cons_self
  ·exact List.mem_cons_of_mem _ (ih h)
theorem ji8 {l:Hp} {t:Nat} {v:O} (h:find l t=some v):(t,v)∈l:=by
 induction l with
 |nil=>cases h
 |cons p r ih =>
  obtain⟨k,x⟩:=p;simp only[find]at h;split at h
  ·rename_i e;subst e;cases h;exact List.mem_cons_self
  ·exact List.mem_cons_of_mem _ (ih h)
theorem jxJ {l:Rn} {t:Nat} {v:Option Nat} (h:jbi l t=some v):(t,v)∈l:=by
 induction l with
 |nil=>cases h
 |cons p r ih =>
  obtain⟨k,x⟩:=p;simp only[jbi]at h;split at h
  ·rename_i e;subst e;cases h;exact List.mem_cons_self
  ·exact List.mem_cons_of_mem _ (ih h)
theorem Le.rel {st':St} (h:Le n0 st st') (hr:RelD ds ρ B N n0 st a w):∃ρ',RelD ds ρ' B N n0 st' a w∧jae n0 ρ ρ':=by
 unfold Le at h;split at h
 ·rename_i hwf;simp only[Bool.and_eq_true]at hwf;obtain⟨hwf,hn0⟩:=hwf;simp only[St.wfb,Bool.and_eq_true,List.all_eq_true]at hwf;obtain⟨m1,h1,hE1,hI1,hT⟩:=jvf (ρ:=ρ) st.tm h (fun _ _ _ hx=>by cases hx);obtain⟨B1,g,hh1⟩:=hr.heap;obtain⟨m2,h2,hE2,hI2,hO⟩:=jvh hh1 h1 hI1
  have h2:jxI n0 m2=true:=by
   split at h2
   ·assumption
   ·exact h2.elim
  refine⟨jcq ρ m2,⟨fun t v' hv'=>?_,hr.size,hr.defers,⟨B1,g,⟨fun h' o' hf=>?_,fun h' o' g' p' k hf hf' hne hk hk'=>?_,hh1.glob⟩⟩,hr.le,by simpa [Nat.ble_eq]using hn0⟩,fun h hh=>?_⟩
  ·obtain⟨v,hv,hS⟩:=hT t v' hv';refine⟨V.ltb_spec (hwf.1 (t,v') (jzq hv')),?_⟩;rw[(hr.tm t v hv).2];exact(hS m2 hE2).symm
  ·have hm:=hwf.2 (h',o') (ji8 hf);simp only[Nat.blt_eq]at hm;exact⟨hm.1,O.ltb_spec hm.2,(hO h' o' hf).1 m2 (Ext.refl _)⟩
  ·rcases(hO h' o' hf).2 with ⟨s,o,h3,h4,h5⟩|h3
   ·rcases(hO g' p' hf').2 with ⟨s',o2,h3',h4',h5'⟩|h3'
    ·have hss:s≠s':=fun e=>hne (hI2 h' g' s h3 (by rw[e];exact h3'));exact hh1.apart s o s' o2 k h4 h4' hss (h5 m2 (Ext.refl _) k hk) (h5' m2 (Ext.refl _) k hk')
    ·rw[h3' m2 (Ext.refl _)]at hk';cases hk'
   ·rw[h3 m2 (Ext.refl _)]at hk;cases hk
  ·unfold jcq;cases hl:jbi m2 h with
   |none=>rfl
   |some x =>
    have:=List.all_eq_true.1 h2 (h,x) (jxJ hl);have hb:h.blt n0=true:=by rw[Nat.blt_eq];exact hh
    simp[hb]at this;subst this;rfl
 ·exact h.elim
end
end Go.Sx
end

section
open Go.RowKit
namespace Go.Sx
section
variable [Globs] {P:Program} {B:Kd} {N n0:Nat} {sp:jaa} {ρ0:Env} {w0:World} {ds:List Deferred}
def jeQ [Globs] (P:Program) (B:Kd) (N n0:Nat) (ρ0:Env) (w0:World) (drawn:Array Oper→St→(St→Prop)→Prop):Prop :=
 ∀⦃ds:List Deferred⦄ (id:Nat) (ops:Array Oper) (st:St) (k:St→Prop) (ρ:Env) (a:Act) (w:World) (Q:Exit→Act→World→Prop),drawn ops st k→RelD ds ρ B N n0 st a w→jae n0 ρ0 ρ→Bel B w0 w →
  (∀ρ' st' a' w',RelD ds ρ' B N n0 st' a' w'→jae n0 ρ0 ρ'→Bel B w0 w'→k st'→Q .normal a' w')→(Code.region id ops true).wp P Q a w
theorem jhq {ρ:Env} {st:St} {a:Act} {w:World} {c:Operand} {b:Bool} (hr:RelD ds ρ B N n0 st a w) (h:(jce st c).bind V.bool?=some b):a.eval c=.bool b:=by
 cases hc:jce st c with
 |none=>simp[hc]at h
 |some v =>
  simp only[hc,Option.bind_some]at h;rw[(hr.reads c v hc).2,V.bool?_eq h];rfl
theorem jkH {c:Code} {F:St→(Ex→St→Prop)→Prop} (hF:∀st k ρ a w,F st k→RelD ds ρ B N n0 st a w→jae n0 ρ0 ρ→Bel B w0 w→c.wp P (Qx ds ρ0 B N n0 w0 k) a w) :
  ∀(n:Nat) (st:St) (k:Ex→St→Prop) (ρ:Env) (a:Act) (w:World),jsg F n st k→RelD ds ρ B N n0 st a w→jae n0 ρ0 ρ→Bel B w0 w→Code.rounds P c (Qx ds ρ0 B N n0 w0 k) n a w
 |0,_,_,_,_,_,h,_,_,_=>h.elim
 |n+1,st,k,ρ,a,w,h,hr,hag,hbl=>by
  rw[rounds_succ];refine wp_mono (hF st _ ρ a w h hr hag hbl) ?_;rintro e a' w' ⟨x,ρ',st',rfl,hk,hr',hag',hbl'⟩;cases x with
  |normal=>exact jkH hF n st' k ρ' a' w' hk hr' hag' hbl'
  |exit j=>exact⟨.exit j,ρ',st',rfl,hk,hr',hag',hbl'⟩
  |ret=>exact⟨.ret,ρ',st',rfl,hk,hr',hag',hbl'⟩
theorem ja6 {fuel:Nat} {loops:jgh} {drawn:Array Oper→St→(St→Prop)→Prop} (hsp:jac P sp) (hdr:jeQ P B N n0 ρ0 w0 drawn) :
  ∀(c:Code) (cur:Nat) (gs:List Nat) (st:St) (k:Ex→St→Prop) (ρ:Env) (a:Act) (w:World),sx P sp N n0 fuel loops drawn c cur gs st k→RelD ds ρ B N n0 st a w→jae n0 ρ0 ρ→Bel B w0 w →
   c.wp P (Qx ds ρ0 B N n0 w0 k) a w
 | .skip,_,_,st,k,ρ,a,w,h,hr,hag,hbl=>wp_skip ⟨.normal,ρ,st,rfl,h,hr,hag,hbl⟩
 | .label _,_,_,st,k,ρ,a,w,h,hr,hag,hbl=>wp_label ⟨.normal,ρ,st,rfl,h,hr,hag,hbl⟩
 | .region id ops draw,_,_,st,k,ρ,a,w,h,hr,hag,hbl=>by
  unfold sx at h;cases draw with
  |false =>
   refine wp_region_list ?_;have:=ji5 (P:=P) (Q:=Qx ds ρ0 B N n0 w0 k) (k:=fun st'=>k .normal st') (all:=ops.toList) hsp (fun ρ' st' a' w' h1 h2 h3 h4=>⟨.normal,ρ',st',rfl,h4,h1,h2,h3⟩) ops.toList ρ st a w hr hag hbl h;simpa using this
  |true=>exact hdr id ops st _ ρ a w _ h hr hag hbl (fun ρ' st' a' w' h1 h2 h3 h4=>⟨.normal,ρ',st',rfl,h4,h1,h2,h3⟩)
 | .seq x y,cur,gs,st,k,ρ,a,w,h,hr,hag,hbl=>by
  unfold sx at h;refine wp_seq (wp_mono (ja6 hsp hdr x cur gs st _ ρ a w h hr hag hbl) ?_);rintro e a' w' ⟨ex,ρ',st',rfl,hk,hr',hag',hbl'⟩;cases ex with
  |normal=>exact ja6 hsp hdr y cur gs st' k ρ' a' w' hk hr' hag' hbl'
  |exit j=>exact⟨.exit j,ρ',st',rfl,hk,hr',hag',hbl'⟩
  |ret=>exact⟨.ret,ρ',st',rfl,hk,hr',hag',hbl'⟩
 | .cond c x y,cur,gs,st,k,ρ,a,w,h,hr,hag,hbl=>by
  unfold sx at h;split at h
  ·rename_i b hb;have he:=jhq hr hb;cases b with
   |true=>exact wp_cond_true he (ja6 hsp hdr x cur gs st k ρ a w h hr hag hbl)
   |false=>exact wp_cond_false he (ja6 hsp hdr y cur gs st k ρ a w h hr hag hbl)
  ·exact h.elim
 | .block id c,_,gs,st,k,ρ,a,w,h,hr,hag,hbl=>by
  unfold sx at h;refine wp_block (wp_mono (ja6 hsp hdr c id gs st _ ρ a w h hr hag hbl) ?_);rintro e a' w' ⟨ex,ρ',st',rfl,hk,hr',hag',hbl'⟩;cases ex with
  |normal=>exact⟨.normal,ρ',st',rfl,hk,hr',hag',hbl'⟩
  |exit j =>
   simp only[Ex.toExit,Exit.inBlock];dsimp only at hk;split
   ·rename_i e;rw[if_pos e]at hk;exact⟨.normal,ρ',st',rfl,hk,hr',hag',hbl'⟩
   ·rename_i e;rw[if_neg e]at hk;exact⟨.exit j,ρ',st',rfl,hk,hr',hag',hbl'⟩
  |ret=>exact⟨.ret,ρ',st',rfl,hk,hr',hag',hbl'⟩
 | .loop c,cur,gs,st,k,ρ,a,w,h,hr,hag,hbl=>by
  unfold sx at h;split at h
  ·rename_i L hL;obtain⟨⟨x0,⟨hx0⟩,hle0⟩,hround⟩:=h;obtain⟨ρ1,hr1,hag1⟩:=hle0.rel hr;have hag01:jae n0 ρ0 ρ1:=fun h hh=>(hag1 h hh).trans (hag h hh)
   have key:∀(n:Nat) (x:L.X),L.mu x=n→L.inv x→∀(ρ:Env) (a:Act) (w:World),RelD ds ρ B N n0 (L.st x) a w→jae n0 ρ0 ρ→Bel B w0 w→Code.rounds P c (Qx ds ρ0 B N n0 w0 k) (n+1) a w:=by
    intro n
    induction n using Nat.strongRecOn with
    |_ n ih =>
     intro x hn hx ρ a w hr hag hbl;rw[rounds_succ];refine wp_mono (ja6 hsp hdr c cur (L.mu x::gs) (L.st x) _ ρ a w (hround x hx) hr hag hbl) ?_;rintro e a' w' ⟨ex,ρ',st',rfl,hk,hr',hag',hbl'⟩;cases ex with
     |normal =>
      obtain⟨x',⟨hx'⟩,⟨hmu⟩,hle⟩:=hk;obtain⟨ρ2,hr2,hag2⟩:=Le.rel hle hr';have hlt:L.mu x'<n:=by omega
      have:=ih (L.mu x') hlt x' rfl hx' ρ2 a' w' hr2 (fun h hh=>(hag2 h hh).trans (hag' h hh)) hbl';exact rounds_le (by omega) this
     |exit j=>exact⟨.exit j,ρ',st',rfl,hk,hr',hag',hbl'⟩
     |ret=>exact⟨.ret,ρ',st',rfl,hk,hr',hag',hbl'⟩
   exact wp_loop_rounds _ (key _ x0 rfl hx0 ρ1 a w hr1 hag01 hbl)
  ·refine wp_loop_rounds fuel (jkH (F:=fun st k=>sx P sp N n0 fuel loops drawn c cur gs st k) ?_ fuel st k ρ a w h hr hag hbl);intro st k ρ a w h hr hag hbl;exact ja6 hsp hdr c cur gs st k ρ a w h hr hag hbl
 | .exit id,_,_,st,k,ρ,a,w,h,hr,hag,hbl=>wp_exit ⟨.exit id,ρ,st,rfl,h,hr,hag,hbl⟩
 | .ret,_,_,st,k,ρ,a,w,h,hr,hag,hbl=>wp_ret ⟨.ret,ρ,st,rfl,h,hr,hag,hbl⟩
 | .scope _,_,_,_,_,_,_,_,h,_,_,_=>h.elim
 | .goto _,_,_,_,_,_,_,_,h,_,_,_=>h.elim
 | .rangeFunc _ _ _ _,_,_,_,_,_,_,_,h,_,_,_=>h.elim
 | .refuse _,_,_,_,_,_,_,_,h,_,_,_=>h.elim
 where
 rounds_le {c:Code} {Q:Exit→Act→World→Prop}:∀{n m:Nat} {a:Act} {w:World},n≤m→Code.rounds P c Q n a w→Code.rounds P c Q m a w
  |0,_,_,_,_,h=>h.elim
  |n+1,0,_,_,hl,_=>by omega
  |n+1,m+1,a,w,hl,h=>by
   rw[rounds_succ]at *;refine wp_mono h ?_;intro e a' w' hq;cases e<;>first|exact rounds_le (Nat.le_of_succ_le_succ hl) hq|exact hq
end
end Go.Sx
end

section
open Go.RowKit
namespace Go.Sx
def jit (P:Program) (st:St):ResultVar→Option (Prop × W)
 | .tmp t=>match jav st.tm t with
  |some (.w u)=>some (True,u)
  |_=>none
 | .cell t ty=>match jav st.tm t with
  |some (.w (.c (.p h i e j)))=>match find st.hp h with
   |some o=>match jc5 P ty o i e j with
    |some (ob,.w u)=>some (ob,u)
    |_=>none
   |none=>none
  |_=>none
def jdC (P:Program) (st:St):List ResultVar→Option (List (Prop × W))
 |[]=>some []
 |r::rs=>match jit P st r,jdC P st rs with
  |some x,some l=>some (x::l)
  |_,_=>none
def jaU:List W→V
 |[u]=>.w u
 |l=>.t l
def jfD:List (Prop × W)→Prop→Prop
 |[],k=>k
 |x::l,k=>Ob x.1∧jfD l k
def jcb (P:Program) (rs:List ResultVar) (post:V→Hp→Nat→Prop):Ex→St→Prop
 | .exit _,_=>False
 |_,st=>match jdC P st rs with
  |some l=>jfD l (post (jaU (l.map (·.2))) st.hp st.nx)
  |none=>False
def jbZ:Nat→List V→List (Nat × V)
 |_,[]=>[]
 |n,v::l=>(n,v)::jbZ (n+1) l
def jok (tmps:Array Value):ResultVar→Sem Value
 | .tmp t=>pure (tmps.getD t undef)
 | .cell c t=>do loadVar t (←asAddr (tmps.getD c undef))
theorem ji9 (fn:Func) (tmps:Array Value):results fn tmps=(fn.results.mapM (jok tmps) >>= fun vs=>pure (if h:vs.size=1 then vs[0]else .tuple vs)):=by
 unfold results
 congr 1
section
variable [Globs] {P:Program} {B:Kd} {N n0:Nat} {ρ:Env} {st:St} {a:Act} {w:World} {ds:List Deferred}
theorem jv1 {r:ResultVar} {ob:Prop} {u:W} (hr:RelD ds ρ B N n0 st a w) (h:jit P st r=some (ob,u)) (ho:ob) :
  (jok a.tmps r).run P w=.ok (u.val ρ) w∧u.lt st.nx:=by
 unfold jit at h;split at h
 ·rename_i t;split at h
  ·rename_i u' hg;cases h;have:=hr.tm t _ hg;exact⟨by simp only[jok,Sem.run_pure,this.2];rfl,this.1⟩
  ·cases h
 ·rename_i t ty;split at h
  ·rename_i k i e j hg;split at h
   ·rename_i o hf;split at h
    ·rename_i ob' u' hro;cases h;have h1:=(hr.tm t _ hg).2;obtain⟨B1,g,hh1⟩:=hr.heap;have h2:=jkp hh1 hf hro ho;refine⟨?_,h2.2⟩;simp only[jok,h1,cell_val,C.val,asAddr,Sem.run_bind,Sem.run_pure,Result.andThen_ok];exact h2.1
    ·cases h
   ·cases h
  ·cases h
theorem jgi (hr:RelD ds ρ B N n0 st a w):∀(rs:List ResultVar) (l:List (Prop × W)) (k:Prop),jdC P st rs=some l→jfD l k →
  (rs.mapM (jok a.tmps)).run P w=.ok (l.map fun x=>x.2.val ρ) w∧(∀x∈l,x.2.lt st.nx)∧k
 |[],l,k,h,ho=>by
  simp only[jdC,Option.some.injEq]at h;subst h;exact⟨by simp,(fun _ hx=>by cases hx),ho⟩
 |r::rs,l,k,h,ho=>by
  simp only[jdC]at h;split at h
  ·rename_i x l' hx hl;cases h;obtain⟨h1,h2⟩:=ho;have ih:=jgi hr rs l' k hl h2;have h3:=jv1 hr hx h1.h;refine⟨?_,?_,ih.2.2⟩
   ·simp only[List.mapM_cons,Sem.run_bind,h3.1,Result.andThen_ok,ih.1,Sem.run_pure,List.map_cons]
   ·intro y hy;rcases List.mem_cons.1 hy with rfl|hy
    ·exact h3.2
    ·exact ih.2.1 y hy
  ·cases h
theorem jcN (l:List W):(jaU l).val ρ=(if h:(l.map (W.val ρ)).toArray.size=1 then(l.map (W.val ρ)).toArray[0]else .tuple (l.map (W.val ρ)).toArray):=by
 match l with
 |[]=>rfl
 |[u]=>rfl
 |u::v::r=>simp[jaU,V.val]
theorem jeR {n:Nat} {l:List W} (h:∀x∈l,x.lt n):(jaU l).lt n:=by
 match l with
 |[]=>exact h
 |[u]=>exact h u List.mem_cons_self
 |u::v::r=>exact h
theorem jql:∀(l:List V) (n t:Nat) (v:V),jav (jbZ n l) t=some v→n≤t∧l[t-n]?=some v
 |[],_,_,_,h=>by cases h
 |x::l,n,t,v,h=>by
  simp only[jbZ,jav]at h;split at h
  ·rename_i e;subst e;cases h;simp
  ·have:=jql l (n+1) t v h;refine⟨by omega,?_⟩;have e:t-n=(t-(n+1))+1:=by omega
   rw[e];simpa using this.2
theorem jdj {N:Nat} {args:List V} {hp0:Hp} {nx0:Nat} (hlen:args.length≤N) (hlt:∀x∈args,V.lt nx0 x) (hn0:n0≤nx0) (ρ:Env) (w:World) (hh:HRel ρ B hp0 nx0 w) (hB:Old B w) :
  Rel ρ B N n0 ⟨jbZ 0 args,hp0,nx0⟩ { tmps:=(args.map (V.val ρ)).toArray++Array.replicate (N-(args.map (V.val ρ)).toArray.size) undef,defers:=[] } w:=by
 refine⟨fun t v hv=>?_,by simp;omega,rfl,⟨B,Grow.refl _ _ _ _,hh⟩,hB,hn0⟩;have hg:=jql args 0 t v hv;simp only[Nat.sub_zero]at hg;have hlt2:t<args.length:=(List.getElem?_eq_some_iff.1 hg.2).1;refine⟨hlt v (List.mem_of_getElem? hg.2),?_⟩;have hv2:args[t]=v:=(List.getElem?_eq_some_iff.1 hg.2).2;have hsz:t<((args.map (V.val ρ)).toArray++Array.replicate (N-(args.map (V.val ρ)).toArray.size) undef).size:=by simp;omega
 simp only[Array.getD_eq_getD_getElem?,Array.getElem?_eq_getElem hsz,Option.getD_some];rw[Array.getElem_append_left (by simpa using hlt2)];simp[hv2]
theorem jsk {sp:jaa} {fuel:Nat} {loops:jgh} {drawn:Array Oper→St→(St→Prop)→Prop} {f:Nat} {fn:Func} {body:Code} {args:List V} {hp0:Hp} {nx0:Nat} {post:V→Hp→Nat→Prop}
  (hsp:jac P sp) (hdr:∀ρ w,jeQ P B fn.ntmps n0 ρ w drawn) (hf:P.funcs[f]?=some fn) (hb:fn.body=some body) (hlen:args.length≤fn.ntmps)
  (h:sx P sp fn.ntmps n0 fuel loops drawn body 0 [] ⟨jbZ 0 args,hp0,nx0⟩ (jcb P fn.results.toList post)) (hlt:∀x∈args,V.lt nx0 x) (hn0:n0≤nx0) (ρ:Env) (w:World) (hh:HRel ρ B hp0 nx0 w) (hB:Old B w) :
  Calls P f (args.map (V.val ρ)).toArray w fun e w'=>∃ρ' v hp' nx',e=.returned (v.val ρ')∧v.lt nx'∧jae n0 ρ ρ'∧(∃B',Grow B B' false w' w'∧HRel ρ' B' hp' nx' w')∧Bel B w w'∧Old B w'∧post v hp' nx':=by
 refine calls_of_wp hf hb ?_;have hrel:=jdj (n0:=n0) hlen hlt hn0 ρ w hh hB;refine wp_mono (ja6 hsp (hdr ρ w) body 0 [] _ _ ρ _ w h hrel (jae.refl _ _) (Bel.refl _ _)) ?_;rintro e a' w' ⟨x,ρ',st',rfl,hk,hr',hag',hbl'⟩
 have fin:∀l:List (Prop × W),jdC P st' fn.results.toList=some l→jfD l (post (jaU (l.map (·.2))) st'.hp st'.nx) →
   a'.defers=[]∧∃v,(results fn a'.tmps).run P w'=.ok v w'∧∃ρ' v' hp' nx',Ending.returned v=.returned (v'.val ρ')∧v'.lt nx'∧jae n0 ρ ρ'∧(∃B',Grow B B' false w' w'∧HRel ρ' B' hp' nx' w')∧Bel B w w'∧Old B w'∧post v' hp' nx':=by
  intro l hl ho;have hra:=jgi hr' _ l _ hl ho;refine⟨hr'.defers,(jaU (l.map (·.2))).val ρ',?_,ρ',jaU (l.map (·.2)),st'.hp,st'.nx,rfl,jeR (fun y hy=>?_),hag',hr'.heap,hbl',hr'.le,hra.2.2⟩
  ·rw[jcN];simp only[ji9,Array.mapM_eq_mapM_toList,Sem.run_bind,Sem.run_map,hra.1,Result.andThen_ok,Sem.run_pure,List.map_map];rfl
  ·obtain⟨z,hz,rfl⟩:=List.mem_map.1 hy;exact hra.2.1 z hz
 cases x with
 |normal =>
  simp only[jcb]at hk;split at hk
  ·rename_i l hl;exact fin l hl hk
  ·exact hk.elim
 |exit j=>exact hk.elim
 |ret =>
  simp only[jcb]at hk;split at hk
  ·rename_i l hl;exact fin l hl hk
  ·exact hk.elim
end
end Go.Sx
end

section
open Go.RowKit
namespace Go.Sx
def jol (n:Nat) (l:List Nat):List Nat:=match l.contains n with
 |true=>l
 |false=>n::l
def jja (a b:List Nat):List Nat:=a.foldr jol b
def jc0 (acc:List (List Nat)):List Edge→List Nat
 |[]=>[]
 |e::r=>match Region.binds .any e with
  |true=>jol e.on (jja (acc.getD e.on []) (jc0 acc r))
  |false=>jc0 acc r
def jgO:List Oper→List (List Nat)→List (List Nat)
 |[],acc=>acc
 |o::r,acc=>jgO r (acc++[jc0 acc o.after.toList])
theorem jom {n m:Nat} {l:List Nat}:m∈jol n l↔m=n∨m∈l:=by
 unfold jol;split
 ·rename_i h;simp at h;constructor
  ·exact .inr
  ·rintro (rfl|h')
   ·exact h
   ·exact h'
 ·simp
theorem jkI {m:Nat}:∀{a b:List Nat},m∈jja a b↔m∈a∨m∈b
 |[],b=>by simp[jja]
 |x::a,b=>by
  have:=jkI (m:=m) (a:=a) (b:=b);simp only[jja,List.foldr_cons]at *;rw[jom,this];simp[or_assoc]
theorem jhM {acc:List (List Nat)} {k:Nat}:∀{es:List Edge},k∈jc0 acc es→∃e∈es,Region.binds .any e=true∧(k=e.on∨k∈acc.getD e.on [])
 |[],h=>by cases h
 |e::r,h=>by
  unfold jc0 at h;split at h
  ·rename_i hb;rcases jom.1 h with h|h
   ·exact⟨e,List.mem_cons_self,hb,.inl h⟩
   ·rcases jkI.1 h with h|h
    ·exact⟨e,List.mem_cons_self,hb,.inr h⟩
    ·obtain⟨e',he',h'⟩:=jhM h;exact⟨e',List.mem_cons_of_mem _ he',h'⟩
  ·obtain⟨e',he',h'⟩:=jhM h;exact⟨e',List.mem_cons_of_mem _ he',h'⟩
def jcO (L:List Oper) (tab:List (List Nat)):Prop :=
 ∀i k,k∈tab.getD i []→∃o,L[i]?=some o∧∃e∈o.after.toList,Region.binds .any e=true∧(k=e.on∨(e.on<i∧k∈tab.getD e.on []))
theorem jvi (L:List Oper):∀(r:List Oper) (acc:List (List Nat)),L=L.take acc.length++r→jcO L acc→jcO L (jgO r acc)
 |[],acc,_,h=>h
 |o::r,acc,hL,h=>by
  unfold jgO
  have hlen:acc.length<L.length:=by
   have:=congrArg List.length hL;simp at this;omega
  have ho:L[acc.length]?=some o:=by
   rw[hL,List.getElem?_append_right (by simp;omega)];simp[Nat.min_eq_left (Nat.le_of_lt hlen)]
  refine jvi L r (acc++[jc0 acc o.after.toList]) ?_ ?_
  ·have h1:L.take (acc.length+1)=L.take acc.length++[o]:=by
    rw[List.take_succ_eq_append_getElem hlen]
    congr 2
    have:=List.getElem?_eq_getElem hlen;rw[this]at ho;exact Option.some.inj ho
   simp only[List.length_append,List.length_singleton,h1,List.append_assoc,List.singleton_append];exact hL
  ·intro i k hk
   by_cases hi:i<acc.length
   ·have e1:(acc++[jc0 acc o.after.toList]).getD i []=acc.getD i []:=by simp[List.getD,List.getElem?_append_left hi]
    rw[e1]at hk;obtain⟨o',ho',e,he,hb,hor⟩:=h i k hk;refine⟨o',ho',e,he,hb,hor.imp id fun⟨h1,h2⟩=>⟨h1,?_⟩⟩;simpa [List.getD,List.getElem?_append_left (show e.on<acc.length by omega)]using h2
   ·by_cases hi2:i=acc.length
    ·subst hi2;have e1:(acc++[jc0 acc o.after.toList]).getD acc.length []=jc0 acc o.after.toList:=by simp[List.getD]
     rw[e1]at hk;obtain⟨e,he,hb,hor⟩:=jhM hk;refine⟨o,ho,e,he,hb,hor.imp id fun h2=>?_⟩
     have hlt:e.on<acc.length:=by
      rcases Nat.lt_or_ge e.on acc.length with h|h
      ·exact h
      ·simp[List.getD,List.getElem?_eq_none h]at h2
     exact⟨hlt,by simpa [List.getD,List.getElem?_append_left hlt]using h2⟩
    ·have:(acc++[jc0 acc o.after.toList]).getD i []=[]:=by
      rw[List.getD,List.getElem?_eq_none (by simp;omega)];rfl
     rw[this]at hk;cases hk
def jcE (L:List Oper) (D:Nat→Bool):Prop:=∀j o,L[j]?=some o→D j=true→∀e∈o.after.toList,Region.binds .any e=true→D e.on=true
theorem jcP {L:List Oper} {tab:List (List Nat)} {D:Nat→Bool} (ht:jcO L tab) (hc:jcE L D) :
  ∀(i:Nat) (k:Nat),(∀o,L[i]?=some o→∀e∈o.after.toList,Region.binds .any e=true→D e.on=true)→k∈tab.getD i []→D k=true:=by
 intro i
 induction i using Nat.strongRecOn with
 |_ i ih =>
  intro k hd hk;obtain⟨o,ho,e,he,hb,hor⟩:=ht i k hk;have h1:=hd o ho e he hb;rcases hor with rfl|⟨hlt,hk'⟩
  ·exact h1
  ·exact ih e.on hlt k (fun o' ho' e' he' hb'=>hc e.on o' ho' h1 e' he' hb') hk'
structure Rec where
 v:V
 hp:Hp
 nx:Nat
 kd:Nat
 nw:Hp
 tg:Option Nat
def jaE:Op→Bool
 | .load _ _=>true
 | .binOp _ _ _ y _=>jxp y
 | .indexAddr _ _ _=>true
 | .call c=>match c.callee with
  | .builtin .len=>true
  |_=>false
 |_=>false
def loadAt (op:Op) (rd:Operand→Option V):Option Nat :=
 match op with
 | .load _ x=>match rd x with
  |some (.w (.c (.p h _ _ _)))=>some h
  |_=>none
 | .binOp _ _ x _ _=>match rd x with
  |some (.w (.c (.o h)))=>some h
  |_=>none
 | .indexAddr _ x _=>match rd x with
  |some (.w (.c (.o h)))=>some h
  |_=>none
 | .call c=>match c.args.toList with
  |[x]=>match rd x with
   |some (.w (.c (.o h)))=>some h
   |_=>none
  |_=>none
 |_=>none
def storeAt (op:Op) (rd:Operand→Option V):Option Nat :=
 match op with
 | .store _ x _=>match rd x with
  |some (.w (.c (.p h _ _ _)))=>some h
  |_=>none
 | .call c=>match c.callee,c.args.toList with
  | .builtin .append,[s,_]=>match rd s with
   |some (.w (.c (.o h)))=>some h
   |some (.w (.c (.d (.v (.slice none 0 0)))))=>some 1000000007
   |_=>none
  |_,_=>none
 |_=>none
def jen:Option O→Bool
 |some (.box _ _)=>true
 |some (.row _ _)=>true
 |some (.ext _)=>true
 |some (.ebox _)=>true
 |some (.arr _ _ _ _)=>true
 |some (.xext _)=>true
 |some (.fext _)=>true
 |some (.xrow _ _)=>true
 |some (.mrow _ _ _ _)=>true
 |some (.lbox _ _ _ _)=>true
 |some (.elist _ _ _)=>true
 |_=>false
def jbJ (L:List Oper) (j:Nat):Option Nat:=(L[j]?).bind (·.dst)
def jam (st0:St):List Rec→Hp
 |[]=>st0.hp
 |r::_=>r.hp
def jab (st0:St):List Rec→Nat
 |[]=>st0.nx
 |r::_=>r.nx
def jcc (L:List Oper) (bef:List Nat) (st0:St) (t:Nat):List Rec→Option V
 |[]=>jav st0.tm t
 |r::tr=>match jbJ L tr.length with
  |some d=>if d=t then(match bef.contains tr.length with|true=>some r.v|false=>none)else jcc L bef st0 t tr
  |none=>jcc L bef st0 t tr
def ja4 [Globs] (L:List Oper) (nm:List Nat) (bef:List Nat) (st0:St) (tr:List Rec):Operand→Option V
 | .tmp t=>match nm.contains t with
  |true=>jcc L bef st0 t tr
  |false=>none
 |x=>jce st0 x
def jar (q:Nat→Bool) (st0:St):List Rec→Nat→Bool
 |[],_=>true
 |_::tr,h=>match Nat.ble (jab st0 tr) h with
  |true=>q tr.length
  |false=>jar q st0 tr h
def jkJ:Op→Bool
 | .build _ _=>true
 |_=>false
def jbT (st0:St):List Rec→Nat→Bool
 |[],h=>C.one st0.hp (.o h)
 |r::tr,h=>match Nat.ble (jab st0 tr) h with
  |true=>C.one r.hp (.o h)
  |false=>jbT st0 tr h
def jfE (bef:List Nat) (st0:St) (tr:List Rec):Hp:=((jam st0 tr).filter fun x=>jar (fun j=>bef.contains j) st0 tr x.1&&jbT st0 tr x.1).map fun x=>(x.1,O.atom)
def C.allB (p:Nat→Bool):C→Bool
 | .d _=>true
 | .p h _ _ _=>p h
 | .o h=>p h
 | .fn _ hs=>hs.all p
 | .fb _ hs=>hs.all p
 | .g _ _ _ _=>true
def W.allB (p:Nat→Bool):W→Bool
 | .c x=>x.allB p
 | .a l=>l.all (C.allB p)
 | .b _ _ _=>true
def V.allB (p:Nat→Bool):V→Bool
 | .w x=>x.allB p
 | .t l=>l.all (W.allB p)
def O.allB (p:Nat→Bool):O→Bool
 | .box _ cs=>cs.all (C.allB p)
 | .view r _ _=>p r
 | .sub r _ _ _ _ _=>p r
 | .ebox cs=>cs.all (C.allB p)
 | .lbox _ _ _ cs=>cs.all (C.allB p)
 | .lview r _ _ cs=>p r&&cs.all (C.allB p)
 | .elist _ _ cs=>cs.all (C.allB p)
 |_=>true
def ja0 (bef:List Nat) (st0:St) (tr:List Rec) (v:V) (hp:Hp) (nx:Nat):Bool :=
 Nat.ble (jab st0 tr) nx&&v.allB (fun h=>Nat.blt h nx&&(Nat.ble (jab st0 tr) h||jar (fun j=>bef.contains j) st0 tr h)) &&
  hp.all (fun x=>Nat.blt x.1 nx&&x.2.allB fun h=>Nat.blt h nx&&(Nat.ble (jab st0 tr) h||jar (fun j=>bef.contains j) st0 tr h))
def jaT (n:Nat) (hp:Hp):Hp:=hp.filter fun x=>Nat.ble n x.1
def jaw:Op→Bool
 | .binOp _ _ _ y _=>!(jxp y)
 | .move _ | .assign _ | .pick _ _ _ | .unOp _ _ _ | .extract _ _ | .field _ _ _ | .fieldAddr _ _ _ | .nilCheck _ | .convert _ _ _ | .build _ _=>true
 |_=>false
def jjb:Op→Bool
 | .makeSlice _ _ _ | .buildSlice _ _ _ | .alloc _ | .box _ _=>true
 |_=>false
def ja3 (tab:List (List Nat)) (i:Nat) (lf mk:Bool):Nat→List Oper→Bool
 |_,[]=>true
 |j,o::r=>(Nat.beq j i||jaw o.op||(tab.getD i []).contains j||(tab.getD j []).contains i||(lf&&jaE o.op)||(mk&&Nat.blt i j&&jjb o.op))&&ja3 tab i lf mk (j+1) r
def jhr:Op→Bool
 | .makeSlice _ _ _ | .alloc _ | .box _ _=>true
 |_=>false
def jfl (tab:List (List Nat)) (i:Nat):Nat→List Oper→Bool
 |_,[]=>true
 |k,o::r=>(Nat.ble k i||jaw o.op||jaE o.op||(tab.getD k []).contains i||jhr o.op)&&jfl tab i (k+1) r
def jeS:O→Bool
 | .row _ _=>true
 | .box _ _=>true
 | .lbox _ _ _ _=>true
 | .arr _ _ _ _=>true
 |_=>false
def jjc:O→Bool
 | .ext _=>true
 | .ebox _=>true
 | .xext _=>true
 | .elist _ _ _=>true
 |_=>false
def jpG (hp0:Hp) (nx:Nat) (tg:Option Nat) (hp:Hp):Bool :=
 match tg with
 |none=>false
 |some h=>hp.all fun x=>!(jjc x.2)||(!(Nat.beq x.1 h)&&Nat.blt x.1 nx&&match find hp0 x.1 with
  |some o=>jjc o
  |none=>false)
def jap (L:List Oper) (o:Oper):List Nat :=
 o.dst.toList++(o.op.operands.toList.filterMap fun | .tmp t=>some t|_=>none)++(match o.guard with|some (g,_)=>(jbJ L g).toList|none=>[])
def jgj (L:List Oper) (tab:List (List Nat)) (j t:Nat):Nat→List Oper→Bool
 |_,[]=>true
 |i,o::r=>(!(Nat.blt i j)||!((jap L o).contains t)||(tab.getD j []).contains i)&&jgj L tab j t (i+1) r
def jcj (L:List Oper) (tab:List (List Nat)):Nat→List Oper→Bool
 |_,[]=>true
 |j,o::r=>(match o.dst with|some t=>jgj L tab j t 0 L|none=>true)&&jcj L tab (j+1) r
def obT (t:Bool) (ob k:Prop):Prop:=match t with
 |true=>k
 |false=>Ob ob∧k
def jea [Globs] (L:List Oper) (tab:List (List Nat)) (st0:St) (bef:List Nat) (h:Nat):List Rec→Bool
 |[]=>true
 |_::tr=>(match L[tr.length]? with
  |none=>false
  |some o=>match jaE o.op with
   |false=>true
   |true=>bef.contains tr.length||match loadAt o.op (ja4 L (jap L o) (tab.getD tr.length []) st0 tr)with
    |none=>false
    |some x=>!(Nat.beq x h)&&jen (find (jam st0 tr) x))&&jea L tab st0 bef h tr
def jbv (st0:St) (bef:List Nat) (h:Nat):List Rec→Bool
 |[]=>true
 |r::tr=>(!(Nat.beq r.kd 2)||bef.contains tr.length||match r.tg with
  |none=>false
  |some t=>!(Nat.beq t h)&&jen (find (jam st0 tr) h))&&jbv st0 bef h tr
def jc8 (bef:List Nat):List Rec→Bool
 |[]=>true
 |r::tr=>(!(Nat.beq r.kd 2)||bef.contains tr.length)&&jc8 bef tr
def jdk (bef:List Nat) (st0:St) (tr:List Rec):Hp :=
 match jc8 bef tr with
 |true=>(jam st0 tr).filter fun x=>jar (fun j=>bef.contains j) st0 tr x.1
 |false=>(jam st0 tr).filter fun x=>jar (fun j=>bef.contains j) st0 tr x.1&&jbv st0 bef x.1 tr
def jon (bef:List Nat) (tr:List Rec) (nw:Hp):Bool :=
 match jc8 bef tr with
 |true=>true
 |false=>nw.all fun x=>jeS x.2
def jgP (hp:Hp) (b:Bool) (v:Option V):Bool :=
 match v with
 |some (.w (.c (.o h)))=>match find hp h with
  |some (.mrow _ _ _ _)=>false
  |some (.sub _ _ _ _ _ _)=>!b
  |_=>true
 |_=>true
def jdr [Globs] (hp:Hp) (op:Op) (rd:Operand→Option V):Bool :=
 match op with
 | .store _ x y=>match rd x,rd y with
  |some (.w (.c (.p h _ _ _))),some v=>match find hp h with
   |some (.xrow _ _)=>v.allB fun _=>false
   |some (.mrow _ _ _ _)=>v.allB fun _=>false
   |some (.sub _ _ _ _ _ _)=>false
   |_=>true
  |_,_=>true
 | .call c=>match c.callee,c.args.toList with
  | .builtin .append,[s,x]=>jgP hp true (rd s)&&jgP hp false (rd x)
  |_,_=>true
 |_=>true
def jbB [Globs] (L:List Oper) (tab:List (List Nat)) (st0:St) (o:Oper) (tr:List Rec):Option Nat :=
 match storeAt o.op (ja4 L (jap L o) (tab.getD tr.length []) st0 tr)with
 |some h=>match jea L tab st0 (tab.getD tr.length []) h tr&&jdr (jam st0 tr) o.op (ja4 L (jap L o) (tab.getD tr.length []) st0 tr)with
  |true=>some h
  |false=>none
 |none=>none
def jpH [Globs] (L:List Oper) (tab:List (List Nat)) (st0:St) (o:Oper) (tr:List Rec):Option Bool :=
 match ja3 tab tr.length ((jbB L tab st0 o tr).isSome) false 0 L with
 |true=>some false
 |false=>match(jbB L tab st0 o tr).isSome&&ja3 tab tr.length ((jbB L tab st0 o tr).isSome) true 0 L with
  |true=>some true
  |false=>none
def jpI [Globs] (L:List Oper) (tab:List (List Nat)) (st0:St) (o:Oper) (tr:List Rec) (mk:Bool) (hp:Hp):Bool :=
 match mk with
 |false=>true
 |true=>jpG (jam st0 tr) (jab st0 tr) (jbB L tab st0 o tr) hp
def dop [Globs] (P:Program) (sp:jaa) (N:Nat) (L:List Oper) (tab:List (List Nat)) (st0:St) (o:Oper) (tr:List Rec) (k:Rec→Prop):Prop :=
 match jcd N o.dst with
 |false=>False
 |true =>
  match ja1 P o.op (ja4 L (jap L o) (tab.getD tr.length []) st0 tr) []with
  |some (ob,v)=>match ja0 (tab.getD tr.length []) st0 tr v [] (jab st0 tr)with
   |true=>obT (ja5 o.op (ja4 L (jap L o) (tab.getD tr.length []) st0 tr) []) ob (k ⟨v,jam st0 tr,jab st0 tr,0,[],none⟩)
   |false=>False
  |none =>
   match jaw o.op with
   |true=>match jkJ o.op with
    |true=>match ja1 P o.op (ja4 L (jap L o) (tab.getD tr.length []) st0 tr) (jfE (tab.getD tr.length []) st0 tr)with
     |some (ob,v)=>match ja0 (tab.getD tr.length []) st0 tr v [] (jab st0 tr)with
      |true=>obT (ja5 o.op (ja4 L (jap L o) (tab.getD tr.length []) st0 tr) (jfE (tab.getD tr.length []) st0 tr)) ob (k ⟨v,jam st0 tr,jab st0 tr,0,[],none⟩)
      |false=>False
     |none=>False
    |false=>False
   |false =>
    match jaE o.op with
    |true=>match loadAt o.op (ja4 L (jap L o) (tab.getD tr.length []) st0 tr)with
     |none=>False
     |some h=>match find (jam st0 tr) h with
      |none=>False
      |some x=>match jar (fun j=>(tab.getD tr.length []).contains j) st0 tr h&&jbv st0 (tab.getD tr.length []) h tr with
       |false=>False
       |true=>match ja1 P o.op (ja4 L (jap L o) (tab.getD tr.length []) st0 tr) [(h,x)]with
        |none=>match jfl tab tr.length 0 L&&jc8 (tab.getD tr.length []) tr&&jao sp o.op (ja4 L (jap L o) (tab.getD tr.length []) st0 tr)with
         |false=>False
         |true=>match jbN P sp o.op (ja4 L (jap L o) (tab.getD tr.length []) st0 tr) (jdk (tab.getD tr.length []) st0 tr) (jab st0 tr)with
          |some res=>match ja0 (tab.getD tr.length []) st0 tr res.v (jaT (jab st0 tr) res.hp) res.nx with
           |true=>obT (ja5 o.op (ja4 L (jap L o) (tab.getD tr.length []) st0 tr) (jdk (tab.getD tr.length []) st0 tr)) res.ob (k ⟨res.v,jaT (jab st0 tr) res.hp++jam st0 tr,res.nx,1,jaT (jab st0 tr) res.hp,none⟩)
           |false=>False
          |none=>False
        |some (ob,v)=>match ja0 (tab.getD tr.length []) st0 tr v [] (jab st0 tr)with
         |true=>obT (ja5 o.op (ja4 L (jap L o) (tab.getD tr.length []) st0 tr) [(h,x)]) ob (k ⟨v,jam st0 tr,jab st0 tr,0,[],none⟩)
         |false=>False
    |false =>
    match jao sp o.op (ja4 L (jap L o) (tab.getD tr.length []) st0 tr)with
    |true=>match jbN P sp o.op (ja4 L (jap L o) (tab.getD tr.length []) st0 tr) (jdk (tab.getD tr.length []) st0 tr) (jab st0 tr)with
     |some res=>match ja0 (tab.getD tr.length []) st0 tr res.v (jaT (jab st0 tr) res.hp) res.nx&&jon (tab.getD tr.length []) tr (jaT (jab st0 tr) res.hp)with
      |true=>obT (ja5 o.op (ja4 L (jap L o) (tab.getD tr.length []) st0 tr) (jdk (tab.getD tr.length []) st0 tr)) res.ob (k ⟨res.v,jaT (jab st0 tr) res.hp++jam st0 tr,res.nx,1,jaT (jab st0 tr) res.hp,none⟩)
      |false=>False
     |none=>False
    |false=>match jpH L tab st0 o tr with
     |none=>False
     |some mk=>match jbN P sp o.op (ja4 L (jap L o) (tab.getD tr.length []) st0 tr) (jam st0 tr) (jab st0 tr)with
      |some res=>match ja0 (tab.getD tr.length []) st0 tr res.v res.hp res.nx&&jpI L tab st0 o tr mk res.hp with
       |true=>obT (ja5 o.op (ja4 L (jap L o) (tab.getD tr.length []) st0 tr) (jam st0 tr)) res.ob (k ⟨res.v,res.hp,res.nx,2,[],jbB L tab st0 o tr⟩)
       |false=>False
      |none=>False
def jjd (N:Nat) (st0:St) (o:Oper) (tr:List Rec) (k:Rec→Prop):Prop :=
 match jcd N o.dst with
 |false=>False
 |true=>k ⟨vu,jam st0 tr,jab st0 tr,0,[],none⟩
def jc9 (L:List Oper) (t:Nat) (v:V):List Rec→List Rec
 |[]=>[]
 |r::tr=>match jbJ L tr.length with
  |some d=>if d=t then { r with v:=v } :: tr else r::jc9 L t v tr
  |none=>r::jc9 L t v tr
def jeT [Globs] (P:Program) (sp:jaa) (N:Nat) (L:List Oper) (tab:List (List Nat)) (st0:St):List Oper→List Rec→(List Rec→Prop)→Prop
 |[],tr,k=>k tr
 |o::rest,tr,k =>
  match o.guard with
  |none=>dop P sp N L tab st0 o tr fun r=>jeT P sp N L tab st0 rest (r::tr) k
  |some (g,want) =>
   match jbJ L g with
   |none=>False
   |some t =>
    match jcc L (tab.getD tr.length []) st0 t tr with
    |some (.w (.c (.d (.b b)))) =>
     Br b
      (match want with
       |true=>dop P sp N L tab st0 o (jc9 L t (vb true) tr) fun r=>jeT P sp N L tab st0 rest (r::jc9 L t (vb true) tr) k
       |false=>jjd N st0 o (jc9 L t (vb true) tr) fun r=>jeT P sp N L tab st0 rest (r::jc9 L t (vb true) tr) k)
      (match want with
       |true=>jjd N st0 o (jc9 L t (vb false) tr) fun r=>jeT P sp N L tab st0 rest (r::jc9 L t (vb false) tr) k
       |false=>dop P sp N L tab st0 o (jc9 L t (vb false) tr) fun r=>jeT P sp N L tab st0 rest (r::jc9 L t (vb false) tr) k)
    |some (.w (.c (.d (.v (.tuple _)))))=>jjd N st0 o tr fun r=>jeT P sp N L tab st0 rest (r::tr) k
    |_=>False
def jdP (L:List Oper) (st0:St):List Rec→List (Nat × V)
 |[]=>st0.tm
 |r::tr=>match jbJ L tr.length with
  |some d=>(d,r.v)::jdP L st0 tr
  |none=>jdP L st0 tr
def jAL (L:List Oper) (st0:St) (tr:List Rec):St:=⟨jdP L st0 tr,jam st0 tr,jab st0 tr⟩
def jds:Nat→List Oper→Bool
 |_,[]=>true
 |i,o::r=>(o.after.toList.all fun e=>!(Region.binds .any e)||Nat.blt e.on i)&&jds (i+1) r
def jkK [Globs] (P:Program) (sp:jaa) (N:Nat) (ops:Array Oper) (st:St) (k:St→Prop):Prop :=
 match jcj ops.toList (jgO ops.toList []) 0 ops.toList&&jds 0 ops.toList with
 |true=>jeT P sp N ops.toList (jgO ops.toList []) st ops.toList [] fun tr=>k (jAL ops.toList st tr)
 |false=>False
end Go.Sx
end

section
open Go.RowKit
namespace Go.Sx
section
variable [Globs] {P:Program} {sp:jaa} {B:Kd} {N n0:Nat} {L:List Oper} {tab:List (List Nat)} {st0:St} {ρ0:Env} {w0:World}
def ja7 (L:List Oper) (tab:List (List Nat)) (st0:St) (o:Oper) (tr:List Rec) (b:Bool):Prop :=
 match o.guard with
 |none=>b=true
 |some (g,want)=>∃t v,jbJ L g=some t∧jcc L (tab.getD tr.length []) st0 t tr=some v∧((∃c,v=vb c∧(c==want)=b)∨((∃l,v=.w (.c (.d (.v (.tuple l)))))∧b=false))
inductive Kind [Globs] (P:Program) (sp:jaa) (L:List Oper) (tab:List (List Nat)) (st0:St) (o:Oper) (tr:List Rec) (r:Rec):Prop where
 |skip (g:ja7 L tab st0 o tr false) (h:r=⟨vu,jam st0 tr,jab st0 tr,0,[],none⟩)
 |pure (g:ja7 L tab st0 o tr true) (ob:Prop) (hs:ja1 P o.op (ja4 L (jap L o) (tab.getD tr.length []) st0 tr) []=some (ob,r.v)) (ho:ob) (hk:ja0 (tab.getD tr.length []) st0 tr r.v [] (jab st0 tr)=true) (h:r=⟨r.v,jam st0 tr,jab st0 tr,0,[],none⟩)
 |built (g:ja7 L tab st0 o tr true) (hb:jkJ o.op=true) (ob:Prop) (hs:ja1 P o.op (ja4 L (jap L o) (tab.getD tr.length []) st0 tr) (jfE (tab.getD tr.length []) st0 tr)=some (ob,r.v)) (ho:ob) (hk:ja0 (tab.getD tr.length []) st0 tr r.v [] (jab st0 tr)=true) (h:r=⟨r.v,jam st0 tr,jab st0 tr,0,[],none⟩)
 |load (g:ja7 L tab st0 o tr true) (hp:jaw o.op=false) (hl:jaE o.op=true) (x:Nat) (xo:O) (hx:loadAt o.op (ja4 L (jap L o) (tab.getD tr.length []) st0 tr)=some x) (hf:find (jam st0 tr) x=some xo)
   (hb:jar (fun j=>(tab.getD tr.length []).contains j) st0 tr x=true) (hst:jbv st0 (tab.getD tr.length []) x tr=true) (ob:Prop)
   (hs:ja1 P o.op (ja4 L (jap L o) (tab.getD tr.length []) st0 tr) [(x,xo)]=some (ob,r.v)) (ho:ob) (hk:ja0 (tab.getD tr.length []) st0 tr r.v [] (jab st0 tr)=true) (h:r=⟨r.v,jam st0 tr,jab st0 tr,0,[],none⟩)
 |mono (g:ja7 L tab st0 o tr true) (hp:jaw o.op=false) (hl:jaE o.op=false) (hm:jao sp o.op (ja4 L (jap L o) (tab.getD tr.length []) st0 tr)=true) (res:Res)
   (hs:jbN P sp o.op (ja4 L (jap L o) (tab.getD tr.length []) st0 tr) (jdk (tab.getD tr.length []) st0 tr) (jab st0 tr)=some res) (ho:res.ob)
   (hk:ja0 (tab.getD tr.length []) st0 tr res.v (jaT (jab st0 tr) res.hp) res.nx=true) (hn:jon (tab.getD tr.length []) tr (jaT (jab st0 tr) res.hp)=true)
   (h:r=⟨res.v,jaT (jab st0 tr) res.hp++jam st0 tr,res.nx,1,jaT (jab st0 tr) res.hp,none⟩)
 |mload (g:ja7 L tab st0 o tr true) (hp:jaw o.op=false) (hl:jaE o.op=true) (hmk:jfl tab tr.length 0 L=true) (hal:jc8 (tab.getD tr.length []) tr=true) (hm:jao sp o.op (ja4 L (jap L o) (tab.getD tr.length []) st0 tr)=true) (res:Res)
   (hs:jbN P sp o.op (ja4 L (jap L o) (tab.getD tr.length []) st0 tr) (jdk (tab.getD tr.length []) st0 tr) (jab st0 tr)=some res) (ho:res.ob)
   (hk:ja0 (tab.getD tr.length []) st0 tr res.v (jaT (jab st0 tr) res.hp) res.nx=true)
   (h:r=⟨res.v,jaT (jab st0 tr) res.hp++jam st0 tr,res.nx,1,jaT (jab st0 tr) res.hp,none⟩)
 |effect (g:ja7 L tab st0 o tr true) (hp:jaw o.op=false) (hl:jaE o.op=false) (hmo:jao sp o.op (ja4 L (jap L o) (tab.getD tr.length []) st0 tr)=false) (mk:Bool) (hf:ja3 tab tr.length ((jbB L tab st0 o tr).isSome) mk 0 L=true) (res:Res)
   (hs:jbN P sp o.op (ja4 L (jap L o) (tab.getD tr.length []) st0 tr) (jam st0 tr) (jab st0 tr)=some res) (ho:res.ob)
   (hk:ja0 (tab.getD tr.length []) st0 tr res.v res.hp res.nx=true) (hm:jpI L tab st0 o tr mk res.hp=true) (h:r=⟨res.v,res.hp,res.nx,2,[],jbB L tab st0 o tr⟩)
structure RecOK [Globs] (P:Program) (sp:jaa) (N:Nat) (L:List Oper) (tab:List (List Nat)) (st0:St) (tr:List Rec) (r:Rec) (o:Oper):Prop where
 op:L[tr.length]?=some o
 dst:jcd N o.dst=true
 kind:Kind P sp L tab st0 o tr r
inductive GoodTr [Globs] (P:Program) (sp:jaa) (N:Nat) (L:List Oper) (tab:List (List Nat)) (st0:St):List Rec→Prop where
 |nil:GoodTr P sp N L tab st0 []
 |cons {tr:List Rec} {r:Rec} (h:GoodTr P sp N L tab st0 tr) (o:Oper) (hr:RecOK P sp N L tab st0 tr r o):GoodTr P sp N L tab st0 (r::tr)
theorem jeU {t:Bool} {ob k:Prop} (h:obT t ob k) (ht:t=true→ob):ob∧k:=by
 cases t
 ·exact⟨h.1.h,h.2⟩
 ·exact⟨ht rfl,h⟩
theorem jne {op:Op} {rd:Operand→Option V} {hp:Hp} {ob:Prop} {v:V} (ht:ja5 op rd hp=true) (h:ja1 P op rd hp=some (ob,v)):ob :=
 jir (sp:=fun _=>none) (nx:=0) (r:=⟨ob,v,hp,0⟩) (P:=P) ht (by unfold jbN;rw[h])
theorem jgk {bef:List Nat} {t:Nat} {v:V}:∀{tr:List Rec},jcc L bef st0 t tr=some v→jc9 L t v tr=tr
 |[],_=>rfl
 |r::tr,h=>by
  simp only[jcc]at h;simp only[jc9];cases hd:jbJ L tr.length with
  |none =>
   simp only[hd]at h;rw[jgk h]
  |some d =>
   simp only[hd]at h ⊢;split at h
   ·rename_i e;rw[if_pos e];split at h
    ·cases h;rfl
    ·cases h
   ·rename_i e;rw[if_neg e,jgk h]
theorem jxK {o:Oper} {tr:List Rec} {mk:Bool} (h:jpH L tab st0 o tr=some mk):ja3 tab tr.length ((jbB L tab st0 o tr).isSome) mk 0 L=true:=by
 unfold jpH at h;split at h
 ·rename_i hf;cases h;exact hf
 ·split at h
  ·rename_i hf;cases h;simp only[Bool.and_eq_true]at hf;exact hf.2
  ·cases h
theorem jnf {o:Oper} {tr:List Rec} {k:Rec→Prop} (h:dop P sp N L tab st0 o tr k) (hg:ja7 L tab st0 o tr true) (hL:L[tr.length]?=some o):∃r,k r∧RecOK P sp N L tab st0 tr r o:=by
 unfold dop at h;split at h
 ·exact h.elim
 ·rename_i hd;split at h
  ·rename_i ob v hs;split at h
   ·rename_i hok;obtain⟨ho,hk⟩:=jeU h (fun ht=>jne ht hs);exact⟨_,hk,hL,hd,.pure hg ob hs ho hok rfl⟩
   ·exact h.elim
  ·split at h
   ·split at h
    ·rename_i hbo;split at h
     ·rename_i ob v hs;split at h
      ·rename_i hok;obtain⟨ho,hk⟩:=jeU h (fun ht=>jne ht hs);exact⟨_,hk,hL,hd,.built hg hbo ob hs ho hok rfl⟩
      ·exact h.elim
     ·exact h.elim
    ·exact h.elim
   ·rename_i hsp;split at h
    ·rename_i hl;split at h
     ·exact h.elim
     ·rename_i x hx;split at h
      ·exact h.elim
      ·rename_i xo hf;split at h
       ·exact h.elim
       ·rename_i hbs;split at h
        ·split at h
         ·exact h.elim
         ·rename_i hmk;split at h
          ·rename_i res hs;split at h
           ·rename_i hok;obtain⟨ho,hk⟩:=jeU h (fun ht=>jir ht hs);simp only[Bool.and_eq_true]at hmk;exact⟨_,hk,hL,hd,.mload hg hsp hl hmk.1.1 hmk.1.2 hmk.2 res hs ho hok rfl⟩
           ·exact h.elim
          ·exact h.elim
        ·rename_i ob v hs;split at h
         ·rename_i hok;obtain⟨ho,hk⟩:=jeU h (fun ht=>jne ht hs);simp only[Bool.and_eq_true]at hbs;exact⟨_,hk,hL,hd,.load hg hsp hl x xo hx hf hbs.1 hbs.2 ob hs ho hok rfl⟩
         ·exact h.elim
    ·rename_i hl;split at h
     ·rename_i hm;split at h
      ·rename_i res hs;split at h
       ·rename_i hok;obtain⟨ho,hk⟩:=jeU h (fun ht=>jir ht hs);simp only[Bool.and_eq_true]at hok;exact⟨_,hk,hL,hd,.mono hg hsp hl hm res hs ho hok.1 hok.2 rfl⟩
       ·exact h.elim
      ·exact h.elim
     ·rename_i hmo;split at h
      ·exact h.elim
      ·rename_i mk hf;split at h
       ·rename_i res hs;split at h
        ·rename_i hok;obtain⟨ho,hk⟩:=jeU h (fun ht=>jir ht hs);simp only[Bool.and_eq_true]at hok;exact⟨_,hk,hL,hd,.effect hg hsp hl hmo mk (jxK hf) res hs ho hok.1 hok.2 rfl⟩
        ·exact h.elim
       ·exact h.elim
theorem jje {o:Oper} {tr:List Rec} {k:Rec→Prop} (h:jjd N st0 o tr k) (hg:ja7 L tab st0 o tr false) (hL:L[tr.length]?=some o):∃r,k r∧RecOK P sp N L tab st0 tr r o:=by
 unfold jjd at h;split at h
 ·exact h.elim
 ·rename_i hd;exact⟨_,h,hL,hd,.skip hg rfl⟩
theorem jqm:∀(rest:List Oper) (tr:List Rec) (k:List Rec→Prop),jeT P sp N L tab st0 rest tr k→GoodTr P sp N L tab st0 tr→L=L.take tr.length++rest→tr.length+rest.length=L.length →
  ∃T,k T∧GoodTr P sp N L tab st0 T∧T.length=L.length
 |[],tr,k,h,hg,_,hlen=>⟨tr,h,hg,by simpa using hlen⟩
 |o::rest,tr,k,h,hg,hL,hlen=>by
  have hlt:tr.length<L.length:=by simp at hlen;omega
  have ho:L[tr.length]?=some o:=by
   rw[hL,List.getElem?_append_right (by simp;omega)];simp[Nat.min_eq_left (Nat.le_of_lt hlt)]
  have next:∀r,jeT P sp N L tab st0 rest (r::tr) k→RecOK P sp N L tab st0 tr r o→∃T,k T∧GoodTr P sp N L tab st0 T∧T.length=L.length:=by
   intro r hr hok;refine jqm rest (r::tr) k hr (.cons hg o hok) ?_ (by simp at hlen ⊢;omega)
   have h1:L.take (tr.length+1)=L.take tr.length++[o]:=by
    rw[List.take_succ_eq_append_getElem hlt]
    congr 2
    have:=List.getElem?_eq_getElem hlt;rw[this]at ho;exact Option.some.inj ho
   simp only[List.length_cons,h1,List.append_assoc,List.singleton_append];exact hL
  unfold jeT at h;split at h
  ·rename_i hgd;obtain⟨r,hk,hok⟩:=jnf h (by unfold ja7;rw[hgd]) ho;exact next r hk hok
  ·rename_i g want hgd;split at h
   ·exact h.elim
   ·rename_i t hdt;split at h
    ·rename_i b hsl;have hset:∀c,b=c→jc9 L t (vb c) tr=tr:=fun c e=>jgk (by rw[hsl,e];rfl)
     have says:∀c d,b=c→(c==want)=d→ja7 L tab st0 o tr d:=fun c d e e2=>by
      unfold ja7;rw[hgd];exact⟨t,_,hdt,hsl,.inl ⟨b,rfl,by rw[e];exact e2⟩⟩
     cases b<;>cases want<;>simp only[Br,hset _ rfl]at h
     ·obtain⟨r,hk,hok⟩:=jnf h (says false true rfl rfl) ho;exact next r hk hok
     ·obtain⟨r,hk,hok⟩:=jje (P:=P) (sp:=sp) h (says false false rfl rfl) ho;exact next r hk hok
     ·obtain⟨r,hk,hok⟩:=jje (P:=P) (sp:=sp) h (says true false rfl rfl) ho;exact next r hk hok
     ·obtain⟨r,hk,hok⟩:=jnf h (says true true rfl rfl) ho;exact next r hk hok
    ·rename_i l hsl;obtain⟨r,hk,hok⟩:=jje (P:=P) (sp:=sp) h (by unfold ja7;rw[hgd];exact⟨t,_,hdt,hsl,.inr ⟨⟨l,rfl⟩,rfl⟩⟩) ho;exact next r hk hok
    ·exact h.elim
def jbw (L:List Oper) (D:Nat→Bool) (st0:St) (t:Nat):List Rec→Option V
 |[]=>jav st0.tm t
 |r::tr=>if jbJ L tr.length=some t∧D tr.length=true then some r.v else jbw L D st0 t tr
def jan (D:Nat→Bool) (st0:St):List Rec→Hp
 |[]=>st0.hp
 |r::tr=>if D tr.length=true then(if r.kd=2 then r.hp else r.nw++jan D st0 tr)else jan D st0 tr
theorem jat {a b:Hp} {h:Nat}:find (a++b) h=(find a h).or (find b h):=by
 induction a with
 |nil=>rfl
 |cons p r ih =>
  obtain⟨k,o⟩:=p;simp only[List.cons_append,find];split
  ·rfl
  ·exact ih
theorem jfm {hp:Hp} {p:Nat→Bool} {h:Nat}:find (hp.filter fun x=>p x.1) h=if p h=true then find hp h else none:=by
 induction hp with
 |nil=>simp[find]
 |cons x r ih =>
  obtain⟨k,o⟩:=x;simp only[List.filter_cons,find]
  by_cases hk:p k=true
  ·rw[if_pos hk];simp only[find]
   by_cases e:k=h
   ·subst e;simp[hk]
   ·rw[if_neg e,if_neg e];exact ih
  ·rw[if_neg hk]
   by_cases e:k=h
   ·subst e;rw[ih];simp[hk]
   ·rw[if_neg e];exact ih
end
end Go.Sx
end

section
open Go.RowKit
namespace Go.Sx
theorem C.val_eqB {p:Nat→Bool} {ρ ρ':Env} (hρ:∀h,p h=true→ρ' h=ρ h):∀{x:C},x.allB p=true→x.val ρ'=x.val ρ
 | .d _,_=>rfl
 | .p h _ _ _,hx=>by have hx:p h=true:=hx;simp only[C.val,hρ h hx]
 | .o h,hx=>hρ h hx
 | .fn _ hs,hx=>by
  simp only[C.val]
  congr 2
  exact List.map_congr_left fun a ha=>hρ a (List.all_eq_true.1 hx a ha)
 | .g _ _ _ _,_=>rfl
 | .fb _ hs,hx=>by
  simp only[C.val]
  congr 2
  exact List.map_congr_left fun a ha=>hρ a (List.all_eq_true.1 hx a ha)
theorem W.val_eqB {p:Nat→Bool} {ρ ρ':Env} (hρ:∀h,p h=true→ρ' h=ρ h):∀{x:W},x.allB p=true→x.val ρ'=x.val ρ
 | .c _,hx=>C.val_eqB hρ hx
 | .a l,hx=>by
  simp only[W.val]
  congr 2
  exact List.map_congr_left fun a ha=>C.val_eqB hρ (List.all_eq_true.1 hx a ha)
 | .b _ _ _,_=>rfl
theorem V.val_eqB {p:Nat→Bool} {ρ ρ':Env} (hρ:∀h,p h=true→ρ' h=ρ h):∀{x:V},x.allB p=true→x.val ρ'=x.val ρ
 | .w _,hx=>W.val_eqB hρ hx
 | .t l,hx=>by
  simp only[V.val]
  congr 2
  exact List.map_congr_left fun a ha=>W.val_eqB hρ (List.all_eq_true.1 hx a ha)
theorem C.allB_mono {p q:Nat→Bool} (h:∀x,p x=true→q x=true):∀{x:C},x.allB p=true→x.allB q=true
 | .d _,_=>rfl
 | .p _ _ _ _,hx=>h _ hx
 | .o _,hx=>h _ hx
 | .fn _ _,hx=>List.all_eq_true.2 fun a ha=>h a (List.all_eq_true.1 hx a ha)
 | .fb _ _,hx=>List.all_eq_true.2 fun a ha=>h a (List.all_eq_true.1 hx a ha)
 | .g _ _ _ _,_=>rfl
theorem W.allB_mono {p q:Nat→Bool} (h:∀x,p x=true→q x=true):∀{x:W},x.allB p=true→x.allB q=true
 | .c _,hx=>C.allB_mono h hx
 | .a _,hx=>List.all_eq_true.2 fun a ha=>C.allB_mono h (List.all_eq_true.1 hx a ha)
 | .b _ _ _,_=>rfl
theorem V.allB_mono {p q:Nat→Bool} (h:∀x,p x=true→q x=true):∀{x:V},x.allB p=true→x.allB q=true
 | .w _,hx=>W.allB_mono h hx
 | .t _,hx=>List.all_eq_true.2 fun a ha=>W.allB_mono h (List.all_eq_true.1 hx a ha)
theorem O.allB_mono {p q:Nat→Bool} (h:∀x,p x=true→q x=true):∀{x:O},x.allB p=true→x.allB q=true
 | .box _ _,hx=>List.all_eq_true.2 fun a ha=>C.allB_mono h (List.all_eq_true.1 hx a ha)
 | .view _ _ _,hx=>h _ hx
 | .sub _ _ _ _ _ _,hx=>h _ hx
 | .row _ _,_=>rfl
 | .ext _,_=>rfl
 | .dead,_=>rfl
 | .nan _,_=>rfl
 | .err,_=>rfl
 | .atom,_=>rfl
 | .ebox _,hx=>List.all_eq_true.2 fun a ha=>C.allB_mono h (List.all_eq_true.1 hx a ha)
 | .arr _ _ _ _,_=>rfl
 | .xext _,_=>rfl
 | .map _,_=>rfl
 | .rrow _,_=>rfl
 | .fext _,_=>rfl
 | .xrow _ _,_=>rfl
 | .lbox _ _ _ _,hx=>List.all_eq_true.2 fun a ha=>C.allB_mono h (List.all_eq_true.1 hx a ha)
 | .elist _ _ _,hx=>List.all_eq_true.2 fun a ha=>C.allB_mono h (List.all_eq_true.1 hx a ha)
 | .lview _ _ _ _,hx=>by
  simp only[O.allB,Bool.and_eq_true]at hx ⊢;exact⟨h _ hx.1,List.all_eq_true.2 fun a ha=>C.allB_mono h (List.all_eq_true.1 hx.2 a ha)⟩
 | .mrow _ _ _ _,_=>rfl
theorem C.lt_of_allB {n:Nat} {p:Nat→Bool} (h:∀x,p x=true→x<n):∀{x:C},x.allB p=true→x.lt n
 | .d _,_=>trivial
 | .p _ _ _ _,hx=>h _ hx
 | .o _,hx=>h _ hx
 | .fn _ _,hx=>fun a ha=>h a (List.all_eq_true.1 hx a ha)
 | .fb _ _,hx=>fun a ha=>h a (List.all_eq_true.1 hx a ha)
 | .g _ _ _ _,_=>trivial
theorem W.lt_of_allB {n:Nat} {p:Nat→Bool} (h:∀x,p x=true→x<n):∀{x:W},x.allB p=true→x.lt n
 | .c _,hx=>C.lt_of_allB h hx
 | .a _,hx=>fun a ha=>C.lt_of_allB h (List.all_eq_true.1 hx a ha)
 | .b _ _ _,_=>trivial
theorem V.lt_of_allB {n:Nat} {p:Nat→Bool} (h:∀x,p x=true→x<n):∀{x:V},x.allB p=true→x.lt n
 | .w _,hx=>W.lt_of_allB h hx
 | .t _,hx=>fun a ha=>W.lt_of_allB h (List.all_eq_true.1 hx a ha)
theorem O.lt_of_allB {n:Nat} {p:Nat→Bool} (h:∀x,p x=true→x<n):∀{x:O},x.allB p=true→x.lt n
 | .box _ _,hx=>fun a ha=>C.lt_of_allB h (List.all_eq_true.1 hx a ha)
 | .view _ _ _,hx=>h _ hx
 | .sub _ _ _ _ _ _,hx=>h _ hx
 | .row _ _,_=>trivial
 | .ext _,_=>trivial
 | .dead,_=>trivial
 | .nan _,_=>trivial
 | .err,_=>trivial
 | .atom,_=>trivial
 | .ebox _,hx=>fun a ha=>C.lt_of_allB h (List.all_eq_true.1 hx a ha)
 | .arr _ _ _ _,_=>trivial
 | .xext _,_=>trivial
 | .map _,_=>trivial
 | .rrow _,_=>trivial
 | .fext _,_=>trivial
 | .xrow _ _,_=>trivial
 | .lbox _ _ _ _,hx=>fun a ha=>C.lt_of_allB h (List.all_eq_true.1 hx a ha)
 | .elist _ _ _,hx=>fun a ha=>C.lt_of_allB h (List.all_eq_true.1 hx a ha)
 | .lview _ _ _ _,hx=>by
  simp only[O.allB,Bool.and_eq_true]at hx;exact⟨h _ hx.1,fun a ha=>C.lt_of_allB h (List.all_eq_true.1 hx.2 a ha)⟩
 | .mrow _ _ _ _,_=>trivial
theorem C.allB_of_lt {n:Nat} {p:Nat→Bool} (h:∀x,x<n→p x=true):∀{x:C},x.lt n→x.allB p=true
 | .d _,_=>rfl
 | .p _ _ _ _,hx=>h _ hx
 | .o _,hx=>h _ hx
 | .fn _ _,hx=>List.all_eq_true.2 fun a ha=>h a (hx a ha)
 | .fb _ _,hx=>List.all_eq_true.2 fun a ha=>h a (hx a ha)
 | .g _ _ _ _,_=>rfl
theorem W.allB_of_lt {n:Nat} {p:Nat→Bool} (h:∀x,x<n→p x=true):∀{x:W},x.lt n→x.allB p=true
 | .c _,hx=>C.allB_of_lt h hx
 | .a _,hx=>List.all_eq_true.2 fun a ha=>C.allB_of_lt h (hx a ha)
 | .b _ _ _,_=>rfl
theorem V.allB_of_lt {n:Nat} {p:Nat→Bool} (h:∀x,x<n→p x=true):∀{x:V},x.lt n→x.allB p=true
 | .w _,hx=>W.allB_of_lt h hx
 | .t _,hx=>List.all_eq_true.2 fun a ha=>W.allB_of_lt h (hx a ha)
theorem O.allB_of_lt {n:Nat} {p:Nat→Bool} (h:∀x,x<n→p x=true):∀{x:O},x.lt n→x.allB p=true
 | .box _ _,hx=>List.all_eq_true.2 fun a ha=>C.allB_of_lt h (hx a ha)
 | .view _ _ _,hx=>h _ hx
 | .sub _ _ _ _ _ _,hx=>h _ hx
 | .row _ _,_=>rfl
 | .ext _,_=>rfl
 | .dead,_=>rfl
 | .nan _,_=>rfl
 | .err,_=>rfl
 | .atom,_=>rfl
 | .ebox _,hx=>List.all_eq_true.2 fun a ha=>C.allB_of_lt h (hx a ha)
 | .arr _ _ _ _,_=>rfl
 | .xext _,_=>rfl
 | .map _,_=>rfl
 | .rrow _,_=>rfl
 | .fext _,_=>rfl
 | .xrow _ _,_=>rfl
 | .lbox _ _ _ _,hx=>List.all_eq_true.2 fun a ha=>C.allB_of_lt h (hx a ha)
 | .elist _ _ _,hx=>List.all_eq_true.2 fun a ha=>C.allB_of_lt h (hx a ha)
 | .lview _ _ _ _,hx=>by
  simp only[O.allB,Bool.and_eq_true];exact⟨h _ hx.1,List.all_eq_true.2 fun a ha=>C.allB_of_lt h (hx.2 a ha)⟩
 | .mrow _ _ _ _,_=>rfl
section
variable [Globs] {P:Program} {sp:jaa} {B0 B:Kd} {N n0:Nat} {L:List Oper} {tab:List (List Nat)} {st0:St} {ρ0:Env} {w0:World} {ds:List Deferred}
theorem RecOK.nx_le {tr:List Rec} {r:Rec} {o:Oper} (h:RecOK P sp N L tab st0 tr r o):jab st0 tr≤r.nx:=by
 cases h.kind with
 |skip g e=>rw[e];exact Nat.le_refl _
 |pure g ob hs ho hk e=>rw[e];exact Nat.le_refl _
 |built g hb ob hs ho hk e=>rw[e];exact Nat.le_refl _
 |load g hp hl x xo hx hf hb hst ob hs ho hk e=>rw[e];exact Nat.le_refl _
 |mono g hp hl hm res hs ho hk hnk e =>
  simp only[ja0,Bool.and_eq_true,Nat.ble_eq]at hk;rw[e];exact hk.1.1
 |mload g hp hl hmk hal hm res hs ho hk e =>
  simp only[ja0,Bool.and_eq_true,Nat.ble_eq]at hk;rw[e];exact hk.1.1
 |effect g hp hl hmo mk hf res hs ho hk hmk e =>
  simp only[ja0,Bool.and_eq_true,Nat.ble_eq]at hk;rw[e];exact hk.1.1
theorem GoodTr.tail {later tr:List Rec} (h:GoodTr P sp N L tab st0 (later++tr)):GoodTr P sp N L tab st0 tr:=by
 induction later with
 |nil=>exact h
 |cons r l ih=>cases h with|cons h' o hr=>exact ih h'
theorem jdl {later tr:List Rec} (h:GoodTr P sp N L tab st0 (later++tr)):jab st0 tr≤jab st0 (later++tr):=by
 induction later with
 |nil=>exact Nat.le_refl _
 |cons r l ih=>cases h with|cons h' o hr=>exact Nat.le_trans (ih h') hr.nx_le
theorem jlX {tr:List Rec} (h:GoodTr P sp N L tab st0 tr):st0.nx≤jab st0 tr:=by
 have:=jdl (later:=tr) (tr:=[]) (by rw[List.append_nil];exact h);rw[List.append_nil]at this;exact this
theorem jBc {T:List Rec} (h:GoodTr P sp N L tab st0 T) {i:Nat} (hi:i<T.length):∃later r tr o,T=later++r::tr∧tr.length=i∧RecOK P sp N L tab st0 tr r o:=by
 induction h with
 |nil=>simp at hi
 | @cons tr r h o hr ih =>
  by_cases he:i=tr.length
  ·exact⟨[],r,tr,o,rfl,he.symm,hr⟩
  ·obtain⟨later,r',tr',o',h1,h2,h3⟩:=ih (by simp at hi;omega);exact⟨r::later,r',tr',o',by simp[h1],h2,h3⟩
theorem jjf {q:Nat→Bool} {later tr:List Rec} {h:Nat} (hg:GoodTr P sp N L tab st0 (later++tr)) (hh:h<jab st0 tr):jar q st0 (later++tr) h=jar q st0 tr h:=by
 induction later with
 |nil=>rfl
 |cons r l ih =>
  cases hg with
  |cons h' o hr =>
   have h1:=jdl h';simp only[List.cons_append,jar]
   have:Nat.ble (jab st0 (l++tr)) h=false:=by
    rw[Bool.eq_false_iff];intro hc;rw[Nat.ble_eq]at hc;omega
   rw[this];exact ih h'
theorem jvj {q:Nat→Bool} {later tr:List Rec} {r:Rec} {h:Nat} (hg:GoodTr P sp N L tab st0 (later++r::tr)) (h1:jab st0 tr≤h) (h2:h<r.nx):jar q st0 (later++r::tr) h=q tr.length:=by
 rw[jjf hg (show h<jab st0 (r::tr)from h2)];simp only[jar];have:Nat.ble (jab st0 tr) h=true:=by rw[Nat.ble_eq];exact h1
 rw[this]
theorem jjV {later tr:List Rec} {h:Nat} (hg:GoodTr P sp N L tab st0 (later++tr)) (hh:h<jab st0 tr):jbT st0 (later++tr) h=jbT st0 tr h:=by
 induction later with
 |nil=>rfl
 |cons r l ih =>
  cases hg with
  |cons h' o hr =>
   have h1:=jdl h';simp only[List.cons_append,jbT]
   have:Nat.ble (jab st0 (l++tr)) h=false:=by
    rw[Bool.eq_false_iff];intro hc;rw[Nat.ble_eq]at hc;omega
   rw[this];exact ih h'
theorem jv2 {later tr:List Rec} {r:Rec} {h:Nat} (hg:GoodTr P sp N L tab st0 (later++r::tr)) (h1:jab st0 tr≤h) (h2:h<r.nx):jbT st0 (later++r::tr) h=C.one r.hp (.o h):=by
 rw[jjV hg (show h<jab st0 (r::tr)from h2)];simp only[jbT];have:Nat.ble (jab st0 tr) h=true:=by rw[Nat.ble_eq];exact h1
 rw[this]
theorem jkL {h:Nat} (hh:h<st0.nx):∀{tr:List Rec},GoodTr P sp N L tab st0 tr→jbT st0 tr h=C.one st0.hp (.o h)
 |[],_=>rfl
 |r::tr,hg=>by
  cases hg with
  |cons h' o hr =>
   have:=jlX h';simp only[jbT]
   have e:Nat.ble (jab st0 tr) h=false:=by
    rw[Bool.eq_false_iff];intro hc;rw[Nat.ble_eq]at hc;omega
   rw[e];exact jkL hh h'
theorem joo {q q':Nat→Bool} {x:Nat}:∀{tr:List Rec},(∀j,j<tr.length→q' j=q j)→jar q' st0 tr x=jar q st0 tr x
 |[],_=>rfl
 |r::tr,hq=>by
  simp only[jar];split
  ·exact hq _ (by simp)
  ·exact joo fun j hj=>hq j (by simp;omega)
theorem jzr {q q':Nat→Bool} {later tr:List Rec} {r:Rec} {x:Nat} (hq:∀j,j≠tr.length→q' j=q j) (hx:¬(jab st0 tr≤x∧x<r.nx)) (hg:GoodTr P sp N L tab st0 (later++r::tr)) (hlt:x<jab st0 (later++r::tr)) :
  jar q' st0 (later++r::tr) x=jar q st0 (later++r::tr) x:=by
 induction later with
 |nil =>
  have hlt:x<r.nx:=hlt;have h1:¬jab st0 tr≤x:=fun h=>hx ⟨h,hlt⟩
  have e:Nat.ble (jab st0 tr) x=false:=by
   rw[Bool.eq_false_iff];intro hc;rw[Nat.ble_eq]at hc;exact h1 hc
  simp only[List.nil_append,jar,e];exact joo fun j hj=>hq j (by omega)
 |cons r' l ih =>
  cases hg with
  |cons h' o hr =>
   simp only[List.cons_append,jar];split
   ·exact hq _ (by simp;omega)
   ·rename_i hb;refine ih h' ?_;have:¬jab st0 (l++r::tr)≤x:=fun hc=>by rw[Nat.ble_eq_true_of_le hc]at hb;cases hb
    omega
theorem jfF {q q':Nat→Bool} (hq:∀j,q j=true→q' j=true):∀(tr:List Rec) (h:Nat),jar q st0 tr h=true→jar q' st0 tr h=true
 |[],_,_=>rfl
 |r::tr,h,hb=>by
  simp only[jar]at hb ⊢;split at hb
  ·exact hq _ hb
  ·exact jfF hq tr h hb
theorem jqn {q:Nat→Bool} {h:Nat} (hh:h<st0.nx):∀{tr:List Rec},GoodTr P sp N L tab st0 tr→jar q st0 tr h=true
 |[],_=>rfl
 |r::tr,hg=>by
  cases hg with
  |cons h' o hr =>
   have:=jlX h';simp only[jar]
   have e:Nat.ble (jab st0 tr) h=false:=by
    rw[Bool.eq_false_iff];intro hc;rw[Nat.ble_eq]at hc;omega
   rw[e];exact jqn hh h'
theorem jgQ {bef:List Nat} {D:Nat→Bool} {t:Nat} (hb:∀j,j∈bef→D j=true):∀{tr:List Rec} {v:V},jcc L bef st0 t tr=some v→jbw L D st0 t tr=some v
 |[],_,h=>h
 |r::tr,v,h=>by
  simp only[jcc]at h;simp only[jbw];cases hd:jbJ L tr.length with
  |none =>
   simp only[hd]at h;rw[if_neg (by simp)];exact jgQ hb h
  |some d =>
   simp only[hd]at h;split at h
   ·rename_i e;subst e;split at h
    ·rename_i hc;rw[if_pos ⟨rfl,hb _ (by simpa using hc)⟩];exact h
    ·cases h
   ·rename_i e;rw[if_neg (by simp[e])];exact jgQ hb h
theorem jhN {D:Nat→Bool} {t:Nat} {tr:List Rec}:∀{later:List Rec},(∀j,tr.length≤j→jbJ L j=some t→D j=false)→jbw L D st0 t (later++tr)=jbw L D st0 t tr
 |[],_=>rfl
 |r::l,h=>by
  simp only[List.cons_append,jbw];rw[if_neg (fun⟨h1,h2⟩=>by rw[h _ (by simp) h1]at h2;cases h2)];exact jhN h
theorem jmB {D D':Nat→Bool} {t:Nat}:∀{tr:List Rec},(∀j,j<tr.length→D' j=D j)→jbw L D' st0 t tr=jbw L D st0 t tr
 |[],_=>rfl
 |r::tr,h=>by
  simp only[jbw];rw[h tr.length (by simp),jmB (fun j hj=>h j (by simp;omega))]
theorem jhO {D D':Nat→Bool}:∀{tr:List Rec},(∀j,j<tr.length→D' j=D j)→jan D' st0 tr=jan D st0 tr
 |[],_=>rfl
 |r::tr,h=>by
  simp only[jan];rw[h tr.length (by simp),jhO (fun j hj=>h j (by simp;omega))]
theorem jhs {j t:Nat}:∀{l:List Oper} {i:Nat},jgj L tab j t i l=true→∀m o,l[m]?=some o→i+m<j→t∈jap L o→(i+m)∈tab.getD j []
 |[],_,_,_,_,h,_,_=>by simp at h
 |o' :: r,i,hs,m,o,h,hlt,ht=>by
  simp only[jgj,Bool.and_eq_true]at hs;cases m with
  |zero =>
   simp at h;subst h;have h1:=hs.1;have hb:Nat.blt i j=true:=by rw[Nat.blt_eq];omega
   have hc:(jap L o').contains t=true:=by simpa using ht
   rw[hb,hc]at h1;simpa using h1
  |succ m =>
   have:=jhs hs.2 m o (by simpa using h) (by omega) ht;rw[show i+(m+1)=i+1+m by omega];exact this
theorem jkM:∀{l:List Oper} {j:Nat},jcj L tab j l=true→∀m o t,l[m]?=some o→o.dst=some t→∀i o',L[i]?=some o'→i<j+m→t∈jap L o'→i∈tab.getD (j+m) []
 |[],_,_,_,_,_,h,_,_,_,_,_,_=>by simp at h
 |o0::r,j,hs,m,o,t,h,hd,i,o',ho',hlt,ht=>by
  simp only[jcj,Bool.and_eq_true]at hs;cases m with
  |zero =>
   simp at h;subst h;have h1:=hs.1;rw[hd]at h1;have:=jhs h1 i o' ho' (by simpa using hlt) ht;simpa using this
  |succ m =>
   have:=jkM hs.2 m o t (by simpa using h) hd i o' ho' (by omega) ht;rw[show j+(m+1)=j+1+m by omega];exact this
theorem jkN {D:Nat→Bool} {i t:Nat} {o:Oper} (hs:jcj L tab 0 L=true) (ht:jcO L tab) (hc:jcE L D) (hi:D i=false) (ho:L[i]?=some o) (hn:t∈jap L o) :
  ∀j,i<j→jbJ L j=some t→D j=false:=by
 intro j hij hd;rw[Bool.eq_false_iff];intro hD;unfold jbJ at hd;cases hj:L[j]? with
 |none=>simp[hj]at hd
 |some oj =>
  simp only[hj,Option.bind_some]at hd;have h1:=jkM hs j oj t (by simpa using hj) hd i o ho (by omega) hn;rw[Nat.zero_add]at h1;have:=jcP ht hc j i (fun o' ho' e he hb=>hc j o' ho' hD e he hb) h1;rw[this]at hi;cases hi
theorem jqo {D:Nat→Bool} {later tr:List Rec} {r:Rec} {o:Oper} {t:Nat} {v:V} (hs:jcj L tab 0 L=true) (ht:jcO L tab) (hc:jcE L D) (hi:D tr.length=false) (ho:L[tr.length]?=some o) (hn:t∈jap L o)
  (hb:∀j,j∈tab.getD tr.length []→D j=true) (h:jcc L (tab.getD tr.length []) st0 t tr=some v):jbw L D st0 t (later++r::tr)=some v:=by
 rw[show later++r::tr=(later++[r])++tr by simp,jhN]
 ·exact jgQ hb h
 ·intro j hj hd
  by_cases he:j=tr.length
  ·rw[he];exact hi
  ·exact jkN hs ht hc hi ho hn j (by omega) hd
def jaS (st0:St) (T:List Rec) (D:Nat→Bool) (h:Nat):Bool:=Nat.blt h (jab st0 T)&&jar D st0 T h
structure Inv [Globs] (ds:List Deferred) (L:List Oper) (st0:St) (B0 B:Kd) (N n0:Nat) (ρ0:Env) (w0:World) (T:List Rec) (D:Nat→Bool) (a:Act) (w:World) (ρ:Env):Prop where
 tm:∀t v,jbw L D st0 t T=some v→v.allB (jaS st0 T D)=true∧a.tmps.getD t undef=v.val ρ
 size:a.tmps.size=N
 defers:a.defers=ds
 heap:HRel ρ B (jan D st0 T) (jab st0 T) w
 hal:∀h o,find (jan D st0 T) h=some o→jaS st0 T D h=true∧o.allB (jaS st0 T D)=true
 le:Old B w
 agree:jae n0 ρ0 ρ
 below:Bel B0 w0 w
 one:∀h,jaS st0 T D h=true→jbT st0 T h=true→(ρ h).oneCell'=true
 gr:Grow B0 B false w w
 le0:Old B0 w
theorem jdm {D:Nat→Bool} {later tr:List Rec} {r:Rec} {o:Oper} {a:Act} {w:World} {ρ:Env} {b:Bool} (hs:jcj L tab 0 L=true) (ht:jcO L tab) (hc:jcE L D) (hi:D tr.length=false) (ho:L[tr.length]?=some o)
  (hb:∀j,j∈tab.getD tr.length []→D j=true) (hinv:Inv ds L st0 B0 B N n0 ρ0 w0 (later++r::tr) D a w ρ) (hg:ja7 L tab st0 o tr b):Region.wanted o (yielded L.toArray a.tmps)=b:=by
 unfold ja7 at hg;unfold Region.wanted;cases hgd:o.guard with
 |none=>rw[hgd]at hg;exact hg.symm
 |some p =>
  obtain⟨g,want⟩:=p;rw[hgd]at hg;obtain⟨t,v,hdt,hsl,hor⟩:=hg;have hn:t∈jap L o:=by simp[jap,hgd,hdt]
  have hsd:=jqo (later:=later) (r:=r) hs ht hc hi ho hn hb hsl;have h1:=(hinv.tm t v hsd).2
  have hy:yielded L.toArray a.tmps g=(match v.val ρ with | .bool b=>some b|_=>none):=by
   unfold yielded;have hd2:((L.toArray[g]?).bind (·.dst))=some t:=by simpa [jbJ]using hdt
   rw[hd2];simp only[Option.bind_some];rw[←h1]
   by_cases hlt:t<a.tmps.size
   ·simp only[Array.getD_eq_getD_getElem?,Array.getElem?_eq_getElem hlt,Option.getD_some];cases a.tmps[t]<;>rfl
   ·simp[hlt,undef]
  dsimp only;rw[hy];rcases hor with ⟨c,rfl,hcw⟩|⟨⟨l,rfl⟩,rfl⟩
  ·simpa using hcw
  ·rfl
theorem jlY {D D':Nat→Bool} {later tr:List Rec} {r:Rec} {o:Oper} {a:Act} {w:World} {ρ ρ':Env} (hs:jcj L tab 0 L=true) (ht:jcO L tab) (hc:jcE L D) (hi:D tr.length=false) (ho:L[tr.length]?=some o)
  (hok:jcd N o.dst=true) (hD1:D' tr.length=true) (hD2:∀j,j≠tr.length→D' j=D j) (hinv:Inv ds L st0 B0 B N n0 ρ0 w0 (later++r::tr) D a w ρ)
  (hρ:∀h,jaS st0 (later++r::tr) D h=true→ρ' h=ρ h) (hv:r.v.allB (jaS st0 (later++r::tr) D')=true) :
  ∀t v,jbw L D' st0 t (later++r::tr)=some v→v.allB (jaS st0 (later++r::tr) D')=true∧(a.put o.dst (r.v.val ρ')).tmps.getD t undef=v.val ρ':=by
 intro t v hsl;have hdl:∀x,o.dst=some x→x<a.tmps.size:=fun x hx=>by rw[hinv.size];exact jsh hok x hx
 rw[jbH hdl];have hdst:jbJ L tr.length=o.dst:=by simp[jbJ,ho]
 have hal:∀h,jaS st0 (later++r::tr) D h=true→jaS st0 (later++r::tr) D' h=true:=by
  intro h hh;simp only[jaS,Bool.and_eq_true]at hh ⊢;refine⟨hh.1,jfF (fun j hj=>?_) _ _ hh.2⟩
  by_cases he:j=tr.length
  ·rw[he];exact hD1
  ·rw[hD2 j he];exact hj
 by_cases hdt:o.dst=some t
 ·rw[if_pos hdt];have hn:t∈jap L o:=by simp[jap,hdt]
  have hlat:jbw L D' st0 t (later++r::tr)=jbw L D' st0 t (r::tr):=by
   apply jhN;intro j hj hd;simp at hj;rw[hD2 j (by omega)];exact jkN hs ht hc hi ho hn j (by omega) hd
  rw[hlat]at hsl;simp only[jbw]at hsl;rw[if_pos ⟨by rw[hdst];exact hdt,hD1⟩]at hsl;cases hsl;exact⟨hv,rfl⟩
 ·rw[if_neg hdt]
  have hsame:jbw L D' st0 t (later++r::tr)=jbw L D st0 t (later++r::tr):=by
   clear hsl hinv hρ hv hal
   induction later with
   |nil =>
    simp only[List.nil_append,jbw];rw[if_neg (fun h=>hdt (by rw[←hdst];exact h.1)),if_neg (fun h=>hdt (by rw[←hdst];exact h.1))];exact jmB fun j hj=>hD2 j (by omega)
   |cons x l ih =>
    simp only[List.cons_append,jbw];rw[hD2 _ (by simp;omega),ih]
  rw[hsame]at hsl;have h1:=hinv.tm t v hsl;refine⟨V.allB_mono hal h1.1,?_⟩;rw[h1.2];exact(V.val_eqB hρ h1.1).symm
theorem jzs {D:Nat→Bool} {later tr:List Rec} {r:Rec} {o:Oper} {a:Act} {w:World} {ρ:Env} (hg:GoodTr P sp N L tab st0 (later++r::tr)) (hs:jcj L tab 0 L=true) (ht:jcO L tab) (hc:jcE L D) (hi:D tr.length=false) (ho:L[tr.length]?=some o)
  (hb:∀j,j∈tab.getD tr.length []→D j=true) (hbase:∀t v,jav st0.tm t=some v→v.lt st0.nx) (hinv:Inv ds L st0 B0 B N n0 ρ0 w0 (later++r::tr) D a w ρ) :
  jax ρ (jab st0 tr) (ja4 L (jap L o) (tab.getD tr.length []) st0 tr) a:=by
 have hgt:GoodTr P sp N L tab st0 tr:=GoodTr.tail (later:=later++[r]) (by simpa using hg)
 have slot_lt:∀(tr:List Rec),GoodTr P sp N L tab st0 tr→∀bef t v,jcc L bef st0 t tr=some v→v.lt (jab st0 tr):=by
  intro tr hg
  induction hg with
  |nil=>exact fun bef t v h=>hbase t v h
  | @cons tr r h o hr ih =>
   intro bef t v hsl;simp only[jcc]at hsl;have down:jcc L bef st0 t tr=some v→v.lt r.nx:=fun h'=>V.lt_mono hr.nx_le (ih bef t v h');cases hd:jbJ L tr.length with
   |none=>simp only[hd]at hsl;exact down hsl
   |some d =>
    simp only[hd]at hsl;split at hsl
    ·split at hsl
     ·cases hsl
      show V.lt r.nx r.v
      cases hr.kind with
      |skip g e=>rw[e];trivial
      |pure g ob hs ho hk e =>
       simp only[ja0,Bool.and_eq_true]at hk;rw[e];exact V.lt_of_allB (fun x hx=>by simp only[Bool.and_eq_true,Nat.blt_eq]at hx;exact hx.1) hk.1.2
      |built g hb ob hs ho hk e =>
       simp only[ja0,Bool.and_eq_true]at hk;rw[e];exact V.lt_of_allB (fun x hx=>by simp only[Bool.and_eq_true,Nat.blt_eq]at hx;exact hx.1) hk.1.2
      |load g hp hl x xo hx hf hb hst ob hs ho hk e =>
       simp only[ja0,Bool.and_eq_true]at hk;rw[e];exact V.lt_of_allB (fun x hx=>by simp only[Bool.and_eq_true,Nat.blt_eq]at hx;exact hx.1) hk.1.2
      |mono g hp hl hm res hs ho hk hnk e =>
       simp only[ja0,Bool.and_eq_true]at hk;rw[e];exact V.lt_of_allB (fun x hx=>by simp only[Bool.and_eq_true,Nat.blt_eq]at hx;exact hx.1) hk.1.2
      |mload g hp hl hmk hal hm res hs ho hk e =>
       simp only[ja0,Bool.and_eq_true]at hk;rw[e];exact V.lt_of_allB (fun x hx=>by simp only[Bool.and_eq_true,Nat.blt_eq]at hx;exact hx.1) hk.1.2
      |effect g hp hl hmo mk hf res hs ho hk hmk e =>
       simp only[ja0,Bool.and_eq_true]at hk;rw[e];exact V.lt_of_allB (fun x hx=>by simp only[Bool.and_eq_true,Nat.blt_eq]at hx;exact hx.1) hk.1.2
     ·cases hsl
    ·exact down hsl
 intro x u hx;cases x with
 |tmp t =>
  simp only[ja4]at hx;split at hx
  ·rename_i hcn;have hn:t∈jap L o:=by simpa using hcn
   exact⟨slot_lt tr hgt _ t u hx,(hinv.tm t u (jqo hs ht hc hi ho hn hb hx)).2⟩
  ·cases hx
 |const v =>
  simp only[ja4,jce,Option.some.injEq]at hx;subst hx;exact⟨jnX _ v,(jmo ρ v).symm⟩
 |global g =>
  simp only[ja4,jce]at hx;split at hx
  ·cases hx;exact⟨trivial,by simp[V.val,W.val,C.val,Act.eval]⟩
  ·cases hx;exact⟨trivial,rfl⟩
 |func f =>
  simp only[ja4,jce,Option.some.injEq]at hx;subst hx;exact⟨(fun _ hh=>by cases hh),by simp[V.val,W.val,C.val,Act.eval]⟩
end
end Go.Sx
end

section
open Go.RowKit
namespace Go.Sx
section
variable [Globs] {P:Program} {sp:jaa} {B0 B:Kd} {N n0:Nat} {L:List Oper} {tab:List (List Nat)} {st0:St} {ρ0:Env} {w0:World} {ds:List Deferred}
theorem jc1 {i:Nat} {lf mk:Bool}:∀{l:List Oper} {k:Nat},ja3 tab i lf mk k l=true→∀m o,l[m]?=some o→k+m=i∨jaw o.op=true∨(k+m)∈tab.getD i []∨i∈tab.getD (k+m) []∨(lf=true∧jaE o.op=true)∨(mk=true∧i<k+m∧jjb o.op=true)
 |[],_,_,_,_,h=>by simp at h
 |o' :: r,k,hs,m,o,h=>by
  simp only[ja3,Bool.and_eq_true,Bool.or_eq_true]at hs;cases m with
  |zero =>
   simp at h;subst h;rcases hs.1 with ((((h1|h1)|h1)|h1)|h1)|h1
   ·exact .inl (by simpa using Nat.eq_of_beq_eq_true h1)
   ·exact .inr (.inl h1)
   ·exact .inr (.inr (.inl (by simpa using h1)))
   ·exact .inr (.inr (.inr (.inl (by simpa using h1))))
   ·exact .inr (.inr (.inr (.inr (.inl h1))))
   ·exact .inr (.inr (.inr (.inr (.inr ⟨h1.1.1,by simpa [Nat.blt_eq]using h1.1.2,h1.2⟩))))
  |succ m =>
   have:=jc1 hs.2 m o (by simpa using h);rw[show k+(m+1)=k+1+m by omega];exact this
theorem jjg:∀{l:List Oper} {k:Nat},jds k l=true→∀m o,l[m]?=some o→∀e∈o.after.toList,Region.binds .any e=true→e.on<k+m
 |[],_,_,_,_,h=>by simp at h
 |o' :: r,k,hs,m,o,h=>by
  simp only[jds,Bool.and_eq_true]at hs;cases m with
  |zero =>
   simp at h;subst h;intro e he hb;have:=List.all_eq_true.1 hs.1 e he;rw[hb]at this;simpa using this
  |succ m =>
   have:=jjg hs.2 m o (by simpa using h);rw[show k+(m+1)=k+1+m by omega];exact this
theorem jxL (he:jds 0 L=true) (ht:jcO L tab):∀(i k:Nat),k∈tab.getD i []→k<i:=by
 intro i
 induction i using Nat.strongRecOn with
 |_ i ih =>
  intro k hk;obtain⟨o,ho,e,hem,hb,hor⟩:=ht i k hk;have h1:=jjg he i o ho e hem hb;rw[Nat.zero_add]at h1;rcases hor with rfl|⟨hlt,hk'⟩
  ·exact h1
  ·exact Nat.lt_trans (ih e.on hlt k hk') hlt
def jkO (st0:St):Prop:=∀h o,find st0.hp h=some o→h<st0.nx∧o.lt st0.nx
theorem jgl {bef:List Nat} {tr:List Rec} {v:V} {hp:Hp} {nx:Nat} (hk:ja0 bef st0 tr v hp nx=true) {h:Nat} {o:O} (hf:find hp h=some o) :
  h<nx∧o.allB (fun h=>Nat.blt h nx&&(Nat.ble (jab st0 tr) h||jar (fun j=>bef.contains j) st0 tr h))=true:=by
 simp only[ja0,Bool.and_eq_true]at hk;have:=List.all_eq_true.1 hk.2 (h,o) (ji8 hf);simp only[Bool.and_eq_true,Nat.blt_eq]at this;exact this
theorem jng {bef:List Nat} {tr:List Rec} {v:V} {hp:Hp} {nx:Nat} (hk:ja0 bef st0 tr v hp nx=true) :
  v.allB (fun h=>Nat.blt h nx&&(Nat.ble (jab st0 tr) h||jar (fun j=>bef.contains j) st0 tr h))=true:=by
 simp only[ja0,Bool.and_eq_true]at hk;exact hk.1.2
theorem jht {n:Nat} {hp:Hp} {h:Nat}:find (jaT n hp) h=if Nat.ble n h=true then find hp h else none:=jfm (p:=fun k=>Nat.ble n k)
theorem keys {tr:List Rec} (hg:GoodTr P sp N L tab st0 tr) (hb:jkO st0):∀h o,find (jam st0 tr) h=some o→h<jab st0 tr∧o.lt (jab st0 tr):=by
 induction hg with
 |nil=>exact hb
 | @cons tr r hgt o hr ih =>
  intro h ob hf
  show h<r.nx∧ob.lt r.nx
  have hf:find r.hp h=some ob:=hf;cases hr.kind with
  |skip g e=>rw[e]at hf ⊢;exact ih h ob hf
  |pure g ob' hs ho hk e=>rw[e]at hf ⊢;exact ih h ob hf
  |built g hb0 ob' hs ho hk e=>rw[e]at hf ⊢;exact ih h ob hf
  |load g hp hl x xo hx hf0 hb0 hst ob' hs ho hk e=>rw[e]at hf ⊢;exact ih h ob hf
  |mono g hp hl hm res hs ho hk hnk e =>
   rw[e]at hf ⊢;have hle:jab st0 tr≤res.nx:=by simp only[ja0,Bool.and_eq_true,Nat.ble_eq]at hk;exact hk.1.1
   simp only[jat]at hf;cases hn:find (jaT (jab st0 tr) res.hp) h with
   |some x =>
    rw[hn]at hf;cases hf;have:=jgl hk hn;exact⟨this.1,O.lt_of_allB (p:=fun h=>Nat.blt h res.nx&&(Nat.ble (jab st0 tr) h||jar (fun j=>(tab.getD tr.length []).contains j) st0 tr h)) (fun x hx=>by simp only[Bool.and_eq_true,Nat.blt_eq]at hx;exact hx.1) this.2⟩
   |none =>
    rw[hn]at hf;have:=ih h ob hf;exact⟨Nat.lt_of_lt_of_le this.1 hle,O.lt_mono hle this.2⟩
  |mload g hp hl hmk hal hm res hs ho hk e =>
   rw[e]at hf ⊢;have hle:jab st0 tr≤res.nx:=by simp only[ja0,Bool.and_eq_true,Nat.ble_eq]at hk;exact hk.1.1
   simp only[jat]at hf;cases hn:find (jaT (jab st0 tr) res.hp) h with
   |some x =>
    rw[hn]at hf;cases hf;have:=jgl hk hn;exact⟨this.1,O.lt_of_allB (p:=fun h=>Nat.blt h res.nx&&(Nat.ble (jab st0 tr) h||jar (fun j=>(tab.getD tr.length []).contains j) st0 tr h)) (fun x hx=>by simp only[Bool.and_eq_true,Nat.blt_eq]at hx;exact hx.1) this.2⟩
   |none =>
    rw[hn]at hf;have:=ih h ob hf;exact⟨Nat.lt_of_lt_of_le this.1 hle,O.lt_mono hle this.2⟩
  |effect g hp hl hmo mk hf' res hs ho hk hmk e =>
   rw[e]at hf ⊢;have:=jgl hk hf;exact⟨this.1,O.lt_of_allB (p:=fun h=>Nat.blt h res.nx&&(Nat.ble (jab st0 tr) h||jar (fun j=>(tab.getD tr.length []).contains j) st0 tr h)) (fun x hx=>by simp only[Bool.and_eq_true,Nat.blt_eq]at hx;exact hx.1) this.2⟩
theorem GoodTr.inv {tr:List Rec} {r:Rec} (h:GoodTr P sp N L tab st0 (r::tr)):GoodTr P sp N L tab st0 tr∧∃o,RecOK P sp N L tab st0 tr r o:=by
 cases h with|cons h o hr=>exact⟨h,o,hr⟩
theorem jbC {tr:List Rec} {r:Rec} {o:Oper} (hr:RecOK P sp N L tab st0 tr r o) (h:r.kd=2):(∃mk,ja3 tab tr.length (r.tg.isSome) mk 0 L=true)∧jaw o.op=false∧jaE o.op=false∧jhr o.op=false:=by
 cases hr.kind with
 |skip g e=>rw[e]at h;cases h
 |pure g ob hs ho hk e=>rw[e]at h;cases h
 |built g hb0 ob hs ho hk e=>rw[e]at h;cases h
 |load g hp hl x xo hx hf hb hst ob hs ho hk e=>rw[e]at h;cases h
 |mono g hp hl hm res hs ho hk hnk e=>rw[e]at h;cases h
 |mload g hp hl hmk hal hm res hs ho hk e=>rw[e]at h;cases h
 |effect g hp hl hmo mk hf res hs ho hk hmk e=>exact⟨⟨mk,by rw[e];exact hf⟩,hp,hl,by cases ho':o.op<;>first|rfl|(rw[ho']at hmo;cases hmo)⟩
theorem jmC {k:NK} {c:C} {x:NC} {g:Option Nat} {hp:Hp} (h:jim hp k c=some (x,g)) (hc:c.allB (fun _=>false)=true):g=none:=by
 unfold jim at h;split at h
 ·split at h<;>cases h;rfl
 ·split at h<;>cases h;rfl
 ·cases hc
 ·cases h
theorem jkP {hp:Hp}:∀{sh:List NK} {cs:List C} {r:List NC} {hs:List Nat},jbG hp sh cs=some (r,hs)→(cs.all (C.allB fun _=>false))=true→hs=[]
 |[],[],r,hs,h,_=>by simp only[jbG,Option.some.injEq,Prod.mk.injEq]at h;exact h.2.symm
 |[],c::cs,r,hs,h,_=>by simp[jbG]at h
 |k::sh,[],r,hs,h,_=>by simp[jbG]at h
 |k::sh,c::cs,r,hs,h,hc=>by
  simp only[jbG]at h;simp only[List.all_cons,Bool.and_eq_true]at hc;split at h
  ·rename_i x g l gs hx hl;simp only[Option.some.injEq,Prod.mk.injEq]at h;obtain⟨_,rfl⟩:=h;rw[jmC hx hc.1,jkP hl hc.2]
  ·cases h
theorem W.cells_allB {p:Nat→Bool} {u:W} (h:u.allB p=true):(u.cells.all (C.allB p))=true:=by
 cases u with
 |c x=>simpa [W.cells,W.allB]using h
 |a l=>exact h
 |b k e r=>simp[W.cells,C.allB]
theorem jxM {t x y:_} {rd:Operand→Option V} {hp:Hp} {nx h i e j:Nat} {res:Res} (hs:jdF P (.store t x y) rd hp nx=some res) (hx:rd x=some (.w (.c (.p h i e j)))) (hz:jdr hp (.store t x y) rd=true):∃o',res.hp=(h,o')::jai hp:=by
 unfold jdF at hs;dsimp only at hs;rw[hx]at hs;split at hs
 ·rename_i h2 i2 e2 j2 u h3 hy;cases h3;split at hs
  ·rename_i ty X sz hf hsz
   have hu:(u.cells.all (C.allB fun _=>false))=true:=by
    unfold jdr at hz;simp only[hx,hy,hf]at hz;exact W.cells_allB hz
   split at hs
   ·split at hs
    ·split at hs
     ·rename_i hcs;cases hs;rw[jkP hcs hu];exact⟨_,rfl⟩
     ·cases hs
    ·split at hs
     ·rename_i c0 k huc hk;split at hs
      ·rename_i hc;cases hs;rw[huc]at hu;simp only[List.all_cons,List.all_nil,Bool.and_true]at hu;rw[jmC hc hu];exact⟨_,rfl⟩
      ·cases hs
     ·cases hs
   ·cases hs
  ·cases hs
 ·cases hs
theorem jkQ {k:NK} {t:Nat} {c:C} {x:NC} {g:Option Nat} {hp:Hp} (h:jcB hp k t c=some (x,g)) (hc:c.allB (fun _=>false)=true):g=none:=by
 unfold jcB at h;split at h
 ·split at h<;>cases h;rfl
 ·split at h<;>cases h;rfl
 ·cases hc
 ·cases h
theorem jjW {hp:Hp}:∀{sh:List NK} {ts:List Nat} {cs:List C} {r:List NC} {hs:List Nat},jaN hp sh ts cs=some (r,hs)→(cs.all (C.allB fun _=>false))=true→hs=[]
 |[],_,[],r,hs,h,_=>by simp only[jaN,Option.some.injEq,Prod.mk.injEq]at h;exact h.2.symm
 |[],_,c::cs,r,hs,h,_=>by simp[jaN]at h
 |k::sh,_,[],r,hs,h,_=>by simp[jaN]at h
 |k::sh,ts,c::cs,r,hs,h,hc=>by
  simp only[jaN]at h;simp only[List.all_cons,Bool.and_eq_true]at hc;split at h
  ·rename_i x g l gs hx hl;simp only[Option.some.injEq,Prod.mk.injEq]at h;obtain⟨_,rfl⟩:=h;rw[jkQ hx hc.1,jjW hl hc.2]
  ·cases h
theorem jxN {t x y:_} {rd:Operand→Option V} {hp:Hp} {nx h i e j:Nat} {res:Res} (hs:jdG P (.store t x y) rd hp nx=some res) (hx:rd x=some (.w (.c (.p h i e j)))) (hz:jdr hp (.store t x y) rd=true):∃o',res.hp=(h,o')::jai hp:=by
 unfold jdG at hs;dsimp only at hs;rw[hx]at hs;split at hs
 ·rename_i h2 i2 e2 j2 u h3 hy;cases h3;split at hs
  ·rename_i ty ts X ho sz hf hsz
   have hu:(u.cells.all (C.allB fun _=>false))=true:=by
    unfold jdr at hz;simp only[hx,hy,hf]at hz;exact W.cells_allB hz
   split at hs
   ·have one:∀(c0:C) (k:NK) (x0:NC) (g0:Option Nat),u.cells=[c0]→jcB hp k (ts.getD j 0) c0=some (x0,g0)→g0=none:=fun c0 k x0 g0 huc hc=>by
     rw[huc]at hu;simp only[List.all_cons,List.all_nil,Bool.and_true]at hu;exact jkQ hc hu
    split at hs
    ·split at hs
     ·rename_i hcs;split at hs
      ·cases hs;rw[jjW hcs hu];exact⟨_,rfl⟩
      ·cases hs
     ·cases hs
    ·split at hs
     ·rename_i c0 k huc hk;split at hs
      ·rename_i hc;have:=one _ _ _ _ huc hc;subst this;split at hs
       ·cases hs;exact⟨_,rfl⟩
       ·split at hs
        ·cases hs;exact⟨_,rfl⟩
        ·cases hs
      ·cases hs
     ·cases hs
   ·cases hs
  ·rename_i hf _;unfold jdr at hz;simp only[hx,hy,hf]at hz;cases hz
  ·cases hs
 ·cases hs
theorem jua {t x y:_} {rd:Operand→Option V} {hp:Hp} {nx h:Nat} {res:Res} (hs:jbN P sp (.store t x y) rd hp nx=some res) (hz:jdr hp (.store t x y) rd=true) (ht:storeAt (.store t x y) rd=some h):∃o',res.hp=(h,o')::jai hp:=by
 unfold storeAt at ht;dsimp only at ht;split at ht
 ·rename_i h' i e j hx;cases ht;unfold jbN at hs;have hv:ja1 P (.store t x y) rd hp=none:=by simp[ja1,jaZ,jfi]
  have hR:jc7 P (.store t x y) rd hp nx=none:=by simp[jc7]
  simp only[hv,hR]at hs;split at hs
  ·rename_i r0 hX;cases hs;unfold jdE at hX;dsimp only at hX;rw[hx]at hX;split at hX
   ·rename_i h3 _;cases h3;split at hX
    ·split at hX
     ·cases hX;exact⟨_,rfl⟩
     ·cases hX
    ·split at hX
     ·cases hX;exact⟨_,rfl⟩
     ·cases hX
    ·cases hX
   ·rename_i h3 _;cases h3;split at hX
    ·split at hX
     ·cases hX;exact⟨_,rfl⟩
     ·cases hX
    ·split at hX
     ·cases hX;exact⟨_,rfl⟩
     ·cases hX
    ·cases hX
   ·rename_i h3 _;cases h3;split at hX
    ·split at hX
     ·split at hX
      ·cases hX;exact⟨_,rfl⟩
      ·cases hX
     ·cases hX
    ·cases hX
   ·cases hX
  split at hs
  ·rename_i r0 hX;cases hs;unfold jei at hX;dsimp only at hX;rw[hx]at hX;split at hX
   ·rename_i h3 _;cases h3;split at hX
    ·split at hX
     ·cases hX;exact⟨_,rfl⟩
     ·cases hX
    ·cases hX
   ·cases hX
  split at hs
  ·rename_i r0 hX;cases hs;exact jxN hX hx hz
  split at hs
  ·rename_i r0 hX;cases hs;exact jxM hX hx hz
  unfold jhp at hs;dsimp only at hs;rw[hx]at hs;split at hs
  ·rename_i h2 i2 e2 j2 u h3 hy;cases h3;split at hs
   ·split at hs
    ·split at hs
     ·cases hs;exact⟨_,rfl⟩
     ·split at hs
      ·cases hs;exact⟨_,rfl⟩
      ·cases hs
    ·split at hs
     ·split at hs
      ·split at hs
       ·cases hs;exact⟨_,rfl⟩
       ·cases hs
      ·cases hs
     ·cases hs
    ·cases hs
   ·cases hs
  ·cases hs
 ·cases ht
theorem jbD {hp:Hp} {x:Nat} {ob:O} (hpl:jen (some ob)=true):find (jai hp) x=some ob↔find hp x=some ob:=by
 rw[jaG];cases hf:find hp x with
 |none=>simp
 |some o =>
  simp only[Option.map_some,Option.some.injEq];cases o<;>cases ob<;>simp_all [jen]
theorem jub {op:Op} {rd:Operand→Option V} {hp:Hp} {nx h:Nat} {res:Res} (hs:jbN P sp op rd hp nx=some res) (hz:jdr hp op rd=true) (ht:storeAt op rd=some h) {x:Nat} {ob:O} (hx:x≠h) (hn:x<nx) (hp1:jen (some ob)=true) (hf:find hp x=some ob):find res.hp x=some ob:=by
 cases op with
 |store t a b =>
  obtain⟨o',ho'⟩:=jua hs hz ht;rw[ho'];simp only[find];rw[if_neg (fun e=>hx e.symm)];exact(jbD hp1).2 hf
 |call c =>
  have hna:c.callee=.builtin .append∧∃s y,c.args.toList=[s,y]∧∀k,rd s=some (.w (.c (.o k)))→k=h:=by
   unfold storeAt at ht;dsimp only at ht;split at ht
   ·rename_i s y hc ha;refine⟨hc,s,y,ha,fun k hk=>?_⟩;rw[hk]at ht;cases ht;rfl
   ·cases ht
  obtain⟨hcal,s,y,hargs,hk⟩:=hna;unfold jbN at hs;have h1:ja1 P (.call c) rd hp=none:=by simp[ja1,jaZ,jfi,hcal]
  have h2:jdE P (.call c) rd hp nx=none:=by simp[jdE]
  have hR:jc7 P (.call c) rd hp nx=none:=by simp[jc7]
  simp only[h1,hR,h2]at hs;split at hs
  ·rename_i r0 hX;cases hs;unfold jei at hX;dsimp only at hX;rw[hcal,hargs]at hX;split at hX
   ·rename_i s' y' t t' _ e _;simp only[List.cons.injEq,and_true]at e;obtain⟨rfl,rfl⟩:=e;split at hX
    ·split at hX
     ·split at hX
      ·rename_i hs' ty e1 n1 cs1 n2 cs2 hss hsx;split at hX
       ·cases hX;cases hs' with
        |none =>
         simp only[find];rw[if_neg (by omega)];exact(jbD hp1).2 hf
        |some k =>
         have hkh:k=h:=by
          cases hrs:rd s with
          |none=>simp[hrs]at hss
          |some us =>
           simp only[hrs,Option.bind_some]at hss;unfold lOf at hss;split at hss
           ·split at hss
            ·cases hss;exact hk _ hrs
            ·cases hss
           ·cases hss
           ·cases hss
         subst hkh;simp only[find];rw[if_neg (by omega),if_neg (fun e=>hx e.symm)];exact(jbD hp1).2 hf
       ·cases hX
      ·cases hX
     ·cases hX
    ·cases hX
   ·cases hX
  split at hs
  ·rename_i r0 hX;cases hs;unfold jdr at hz;simp only[hcal,hargs,Bool.and_eq_true]at hz;unfold jdG at hX;dsimp only at hX;rw[hcal,hargs]at hX;split at hX
   ·rename_i s' y' t t' _ e _;simp only[List.cons.injEq,and_true]at e;obtain⟨rfl,rfl⟩:=e;split at hX
    ·rename_i elem _ _
     have outer:jfz P t elem (rd s) (rd y) hp nx=some res→find res.hp x=some ob:=by
      intro hX;unfold jfz at hX;split at hX
      ·split at hX
       ·rename_i hs0 ty t1 X1 hx0 ty' t2 X2 g1 g2;split at hX
        ·cases hX
         have e1:hs0=none:=by
          obtain⟨us,hus,hus'⟩:=Option.bind_eq_some_iff.1 g1;unfold mOf at hus';split at hus'
          ·split at hus'
           ·rename_i hf' ;unfold jgP at hz;simp only[hus,hf']at hz;cases hz.1
           ·cases hus'
          ·cases hus';rfl
          ·cases hus'
         have e2:hx0=none:=by
          obtain⟨us,hus,hus'⟩:=Option.bind_eq_some_iff.1 g2;unfold mOf at hus';split at hus'
          ·split at hus'
           ·rename_i hf' ;have h9:=hz.2;unfold jgP at h9;simp only[hus,hf']at h9;cases h9
           ·cases hus'
          ·cases hus';rfl
          ·cases hus'
         subst e1;subst e2;simp only[jcz,find];rw[if_neg (by omega)];exact(jbD hp1).2 hf
        ·cases hX
       ·cases hX
      ·cases hX
     split at hX
     ·rename_i hs0 hob0;split at hX
      ·rename_i r0 i0 e0 j0 t0 c1 hf';obtain⟨us,hus,hus'⟩:=Option.bind_eq_some_iff.1 hob0
       have hus2:rd s=some (.w (.c (.o hs0))):=by
        unfold V.obj? at hus';split at hus'
        ·cases hus';exact hus
        ·cases hus'
       have h9:=hz.1;unfold jgP at h9;simp only[hus2,hf']at h9;cases h9
      ·exact outer hX
     ·exact outer hX
    ·cases hX
   ·cases hX
  split at hs
  ·rename_i r0 hX;cases hs;unfold jdF at hX;dsimp only at hX;rw[hcal,hargs]at hX;split at hX
   ·rename_i s' y' t t' _ e _;simp only[List.cons.injEq,and_true]at e;obtain⟨rfl,rfl⟩:=e;split at hX
    ·split at hX
     ·split at hX
      ·rename_i hs' ty X1 hx' ty' X2 hss hsx;split at hX
       ·cases hX;cases hs' with
        |none =>
         simp only[find];rw[if_neg (by omega)];exact(jbD hp1).2 hf
        |some k =>
         have hkh:k=h:=by
          cases hrs:rd s with
          |none=>simp[hrs]at hss
          |some us =>
           simp only[hrs,Option.bind_some]at hss;unfold xOf at hss;split at hss
           ·split at hss
            ·cases hss;exact hk _ hrs
            ·cases hss
           ·cases hss
           ·cases hss
         subst hkh;simp only[find];rw[if_neg (by omega),if_neg (fun e=>hx e.symm)];exact(jbD hp1).2 hf
       ·cases hX
      ·cases hX
     ·cases hX
    ·cases hX
   ·cases hX
  unfold jhp at hs;dsimp only at hs;rw[hcal,hargs]at hs;split at hs
  ·rename_i s' y' t t' _ e _;simp only[List.cons.injEq,and_true]at e;obtain⟨rfl,rfl⟩:=e;split at hs
   ·split at hs
    ·unfold jfk at hs;split at hs
     ·split at hs
      ·split at hs
       ·split at hs
        ·split at hs
         ·cases hs;simp only[find];rw[if_neg (by omega)];exact hf
         ·cases hs
        ·cases hs
       ·cases hs
      ·cases hs
     ·cases hs
    ·split at hs
     ·rename_i elem hs' cs hx' cx hu hss hsx;split at hs
      ·split at hs
       ·split at hs
        ·split at hs
         ·cases hs;cases hs' with
          |none =>
           simp only[find];rw[if_neg (by omega)];exact(jbD hp1).2 hf
          |some k =>
           have hkh:k=h:=by
            cases hrs:rd s with
            |none=>simp[hrs]at hss
            |some us =>
             simp only[hrs,Option.bind_some]at hss;unfold jb7 at hss;split at hss
             ·split at hss
              ·cases hss;exact hk _ hrs
              ·cases hss
             ·cases hss
             ·cases hss
           subst hkh;simp only[find];rw[if_neg (by omega),if_neg (fun e=>hx e.symm)];exact(jbD hp1).2 hf
         ·cases hs
        ·cases hs
       ·cases hs
      ·cases hs
     ·cases hs
   ·cases hs
  ·rename_i hc2;cases hc2
  ·cases hs
 |_=>simp[storeAt]at ht
theorem jnh {tr:List Rec} {r:Rec} {o:Oper} {t:Nat} (hr:RecOK P sp N L tab st0 tr r o) (h:r.kd=2) (ht:r.tg=some t) :
  (∀x ob,x≠t→x<jab st0 tr→jen (some ob)=true→find (jam st0 tr) x=some ob→find r.hp x=some ob)∧jea L tab st0 (tab.getD tr.length []) t tr=true:=by
 cases hr.kind with
 |skip g e=>rw[e]at h;cases h
 |pure g ob hs ho hk e=>rw[e]at h;cases h
 |built g hb0 ob hs ho hk e=>rw[e]at h;cases h
 |load g hp hl x xo hx hf hb hst ob hs ho hk e=>rw[e]at h;cases h
 |mono g hp hl hm res hs ho hk hnk e=>rw[e]at h;cases h
 |mload g hp hl hmk hal hm res hs ho hk e=>rw[e]at h;cases h
 |effect g hp hl hmo mk hf res hs ho hk hmk e =>
  have ht2:jbB L tab st0 o tr=some t:=by rw[e]at ht;exact ht
  unfold jbB at ht2;split at ht2
  ·rename_i h' hst;split at ht2
   ·rename_i hlf;cases ht2;simp only[Bool.and_eq_true]at hlf;refine⟨fun x ob hx hn hpl hfx=>?_,hlf.1⟩;rw[e];exact jub hs hlf.2 hst hx hn hpl hfx
   ·cases ht2
  ·cases ht2
theorem jbW {tr:List Rec} {r:Rec} {o:Oper} (hr:RecOK P sp N L tab st0 tr r o) (h:r.kd≠2):r.hp=r.nw++jam st0 tr∧(∀k ob,find r.nw k=some ob→jab st0 tr≤k∧k<r.nx)∧((r.nw=[]∧r.nx=jab st0 tr)∨(jaw o.op||jaE o.op)=false∨(jfl tab tr.length 0 L=true∧jc8 (tab.getD tr.length []) tr=true)):=by
 cases hr.kind with
 |skip g e=>rw[e];exact⟨rfl,(fun k ob h=>by cases h),.inl ⟨rfl,rfl⟩⟩
 |pure g ob hs ho hk e=>rw[e];exact⟨rfl,(fun k ob h=>by cases h),.inl ⟨rfl,rfl⟩⟩
 |built g hb0 ob hs ho hk e=>rw[e];exact⟨rfl,(fun k ob h=>by cases h),.inl ⟨rfl,rfl⟩⟩
 |load g hp hl x xo hx hf hb hst ob hs ho hk e=>rw[e];exact⟨rfl,(fun k ob h=>by cases h),.inl ⟨rfl,rfl⟩⟩
 |mono g hp hl hm res hs ho hk hnk e =>
  rw[e];refine⟨rfl,fun k ob hf=>?_,.inr (.inl (by rw[hp,hl];rfl))⟩;have h1:=(jgl hk hf).1;have hf:find (jaT (jab st0 tr) res.hp) k=some ob:=hf;rw[jht]at hf;split at hf
  ·rename_i hle;exact⟨by simpa [Nat.ble_eq]using hle,h1⟩
  ·cases hf
 |mload g hp hl hmk hal hm res hs ho hk e =>
  rw[e];refine⟨rfl,fun k ob hf=>?_,.inr (.inr ⟨hmk,hal⟩)⟩;have h1:=(jgl hk hf).1;have hf:find (jaT (jab st0 tr) res.hp) k=some ob:=hf;rw[jht]at hf;split at hf
  ·rename_i hle;exact⟨by simpa [Nat.ble_eq]using hle,h1⟩
  ·cases hf
 |effect g hp hl hmo mk hf res hs ho hk hmk e=>rw[e]at h;exact absurd rfl h
theorem jjh {i:Nat}:∀{l:List Oper} {k:Nat},jfl tab i k l=true→∀m o,l[m]?=some o→k+m≤i∨(jaw o.op||jaE o.op)=true∨i∈tab.getD (k+m) []∨jhr o.op=true
 |[],_,_,_,_,h=>by simp at h
 |o' :: r,k,hs,m,o,h=>by
  simp only[jfl,Bool.and_eq_true,Bool.or_eq_true]at hs;cases m with
  |zero =>
   simp at h;subst h;rcases hs.1 with (((h1|h1)|h1)|h1)|h1
   ·exact .inl (by simpa [Nat.ble_eq]using h1)
   ·exact .inr (.inl (by rw[h1];rfl))
   ·exact .inr (.inl (by rw[h1,Bool.or_true]))
   ·exact .inr (.inr (.inl (by simpa using h1)))
   ·exact .inr (.inr (.inr h1))
  |succ m =>
   have:=jjh hs.2 m o (by simpa using h);rw[show k+(m+1)=k+1+m by omega];exact this
theorem jkR {x:Nat} {o:O}:∀{hp:Hp},find hp x=some o→(x,o)∈hp
 |[],h=>by cases h
 |(k,o')::r,h=>by
  simp only[find]at h;split at h
  ·rename_i e;subst e;cases h;exact List.mem_cons_self ..
  ·exact List.mem_cons_of_mem _ (jkR h)
theorem jBd {D:Nat→Bool} {i:Nat} (hbase:jkO st0) (hb:∀j,j∈tab.getD i []→D j=true) {tr:List Rec} (hg:GoodTr P sp N L tab st0 tr) :
  jc8 (tab.getD i []) tr=true→tr.length≤i→∀h ob,find (jam st0 tr) h=some ob→jar (fun j=>(tab.getD i []).contains j) st0 tr h=true→find (jan D st0 tr) h=some ob:=by
 induction hg with
 |nil=>exact fun _ _ h ob hf _=>hf
 | @cons tr r hgt o' hr ih =>
  intro hal hl h ob hf hbn;simp only[jc8,Bool.and_eq_true]at hal;have hl:tr.length+1≤i:=hl;have hf:find r.hp h=some ob:=hf;simp only[jan]
  by_cases hk:r.kd=2
  ·have hD:D tr.length=true:=by
    have h1:=hal.1;rw[hk]at h1;exact hb _ (by simpa using h1)
   rw[if_pos hD,if_pos hk];exact hf
  ·have ho:=jbW hr hk;rw[ho.1,jat]at hf;rw[if_neg hk];cases hn:find r.nw h with
   |some x =>
    rw[hn]at hf;cases hf;have h1:=(ho.2.1 h ob hn).1
    have hD:D tr.length=true:=by
     simp only[jar]at hbn;rw[show Nat.ble (jab st0 tr) h=true from Nat.ble_eq_true_of_le h1]at hbn;exact hb _ (by simpa using hbn)
    rw[if_pos hD,jat,hn];rfl
   |none =>
    rw[hn]at hf;have hf:find (jam st0 tr) h=some ob:=hf;have h1:=(keys hgt hbase h ob hf).1
    have hbn':jar (fun j=>(tab.getD i []).contains j) st0 tr h=true:=by
     simp only[jar]at hbn
     have e:Nat.ble (jab st0 tr) h=false:=by
      rw[Bool.eq_false_iff];intro hc;rw[Nat.ble_eq]at hc;omega
     rw[e]at hbn;exact hbn
    have:=ih hal.2 (by omega) h ob hf hbn';split
    ·rw[jat,hn];exact this
    ·exact this
theorem jxO {D:Nat→Bool} (hbase:jkO st0) {tr:List Rec} (hg:GoodTr P sp N L tab st0 tr):∀h ob,find (jan D st0 tr) h=some ob→h<jab st0 tr:=by
 induction hg with
 |nil=>exact fun h ob hf=>(hbase h ob hf).1
 | @cons tr r hgt o hr ih =>
  intro h ob hf;have hle:=hr.nx_le;simp only[jan]at hf;split at hf
  ·split at hf
   ·exact(keys (.cons hgt o hr) hbase h ob hf).1
   ·rename_i hk;rw[jat]at hf;cases hn:find r.nw h with
    |some x=>exact((jbW hr hk).2.1 h x hn).2
    |none=>rw[hn]at hf;exact Nat.lt_of_lt_of_le (ih h ob hf) hle
  ·exact Nat.lt_of_lt_of_le (ih h ob hf) hle
theorem jxP {D:Nat→Bool} {i k:Nat} {o:Oper} {lf mk:Bool} (hns:jaw o.op=false) (hnl:jaE o.op=false) (ho:L[i]?=some o) (hlow:∀i k,k∈tab.getD i []→k<i) (ht:jcO L tab) (hc:jcE L D) (hi:D i=false) (hik:i<k)
  (hf:ja3 tab k lf mk 0 L=true):D k=false:=by
 have hor:i∈tab.getD k []:=by
  rcases jc1 hf i o ho with h1|h1|h1|h1|h1|h1
  ·omega
  ·rw[hns]at h1;cases h1
  ·rw[Nat.zero_add]at h1;exact h1
  ·rw[Nat.zero_add]at h1;have:=hlow _ _ h1;omega
  ·rw[hnl]at h1;cases h1.2
  ·have:=h1.2.1;omega
 rw[Bool.eq_false_iff];intro hD;have:=jcP ht hc k i (fun o' ho' e he hb=>hc k o' ho' hD e he hb) hor;rw[this]at hi;cases hi
theorem jv3 {D:Nat→Bool} {i k:Nat} {ok:Oper} {lf mk:Bool} (hok:L[k]?=some ok) (hnk:jaw ok.op=false) (hlk:jaE ok.op=false) (hlow:∀i k,k∈tab.getD i []→k<i) (ht:jcO L tab) (hc:jcE L D) (hi:D i=false) (hik:i<k)
  (hf:ja3 tab i lf mk 0 L=true) (hD:D k=true):mk=true∧jjb ok.op=true∧i∉tab.getD k []:=by
 have hni:i∉tab.getD k []:=fun hor=>by
  have:=jcP ht hc k i (fun o' ho' e he hb=>hc k o' ho' hD e he hb) hor;rw[this]at hi;cases hi
 rcases jc1 hf k ok hok with h1|h1|h1|h1|h1|h1
 ·omega
 ·rw[hnk]at h1;cases h1
 ·rw[Nat.zero_add]at h1;have:=hlow _ _ h1;omega
 ·rw[Nat.zero_add]at h1;exact absurd h1 hni
 ·rw[hlk]at h1;cases h1.2
 ·exact⟨h1.1,h1.2.2,hni⟩
theorem jvk {D:Nat→Bool} {i:Nat} (hlow:∀i k,k∈tab.getD i []→k<i) (hbase:jkO st0) (hb:∀j,j∈tab.getD i []→D j=true) {h:Nat} {ob:O} {tr:List Rec} (hg:GoodTr P sp N L tab st0 tr) :
  find (jam st0 tr) h=some ob→jar (fun j=>(tab.getD i []).contains j) st0 tr h=true→jbv st0 (tab.getD i []) h tr=true→find (jan D st0 tr) h=some ob:=by
 induction hg with
 |nil=>exact fun hf _ _=>hf
 | @cons tr r hgt o' hr ih =>
  intro hf hbn hst;simp only[jbv,Bool.and_eq_true]at hst;have hf:find r.hp h=some ob:=hf;simp only[jan]
  by_cases hk:r.kd=2
  ·rw[if_pos hk]
   by_cases hD:D tr.length=true
   ·rw[if_pos hD];exact hf
   ·rw[if_neg hD];have h1:=hst.1
    have hc:(tab.getD i []).contains tr.length=false:=by
     cases hcc:(tab.getD i []).contains tr.length with
     |false=>rfl
     |true=>exact absurd (hb _ (by simpa using hcc)) hD
    have hkb:Nat.beq r.kd 2=true:=by rw[hk];rfl
    rw[hc,hkb]at h1;simp only[Bool.not_true,Bool.false_or]at h1;split at h1
    ·cases h1
    ·rename_i t htg;simp only[Bool.and_eq_true,Bool.not_eq_true']at h1
     have hne:h≠t:=fun e=>by
      have h2:=h1.1;subst e;have:Nat.beq h h=true:=by simp
      rw[this]at h2;cases h2
     have hs:=jnh hr hk htg
     have hpl:∃o1,find (jam st0 tr) h=some o1∧jen (some o1)=true:=by
      cases hq:find (jam st0 tr) h with
      |none=>rw[hq]at h1;cases h1.2
      |some o1=>rw[hq]at h1;exact⟨o1,rfl,h1.2⟩
     obtain⟨o1,hq,hp1⟩:=hpl;have hlt:=(keys hgt hbase h o1 hq).1;have:=hs.1 h o1 hne hlt hp1 hq;rw[this]at hf;cases hf;refine ih hq ?_ hst.2
     have e:Nat.ble (jab st0 tr) h=false:=by
      rw[Bool.eq_false_iff];intro hcc;rw[Nat.ble_eq]at hcc;omega
     simp only[jar]at hbn;rw[e]at hbn;exact hbn
  ·have ho:=jbW hr hk;rw[ho.1,jat]at hf;rw[if_neg hk];cases hn:find r.nw h with
   |some x =>
    rw[hn]at hf;cases hf;have h1:=(ho.2.1 h ob hn).1
    have hD:D tr.length=true:=by
     simp only[jar]at hbn;rw[show Nat.ble (jab st0 tr) h=true from Nat.ble_eq_true_of_le h1]at hbn;exact hb _ (by simpa using hbn)
    rw[if_pos hD,jat,hn];rfl
   |none =>
    rw[hn]at hf;have hf:find (jam st0 tr) h=some ob:=hf;have h1:=(keys hgt hbase h ob hf).1
    have hbn':jar (fun j=>(tab.getD i []).contains j) st0 tr h=true:=by
     simp only[jar]at hbn
     have e:Nat.ble (jab st0 tr) h=false:=by
      rw[Bool.eq_false_iff];intro hc;rw[Nat.ble_eq]at hc;omega
     rw[e]at hbn;exact hbn
    have:=ih hf hbn' hst.2;split
    ·rw[jat,hn];exact this
    ·exact this
theorem jop {bef:List Nat} {t:Nat} {r0:Rec} {tr:List Rec} {o:Oper} (ho:L[tr.length]?=some o) (hl:jaE o.op=true):∀{l:List Rec},jea L tab st0 bef t (l++r0::tr)=true →
  bef.contains tr.length=true∨∃x,loadAt o.op (ja4 L (jap L o) (tab.getD tr.length []) st0 tr)=some x∧x≠t∧jen (find (jam st0 tr) x)=true
 |[],h=>by
  simp only[List.nil_append,jea,ho,hl,Bool.and_eq_true,Bool.or_eq_true]at h;rcases h.1 with h1|h1
  ·exact .inl h1
  ·split at h1
   ·cases h1
   ·rename_i x hx;simp only[Bool.and_eq_true,Bool.not_eq_true']at h1;refine .inr ⟨x,hx,fun e=>?_,h1.2⟩;have h2:=h1.1;rw[e]at h2;have:Nat.beq t t=true:=by simp
    rw[this]at h2;cases h2
 |r::l,h=>by
  simp only[List.cons_append,jea,Bool.and_eq_true]at h;exact jop ho hl h.2
theorem jqp {D:Nat→Bool} {tr:List Rec} {r0:Rec} {o:Oper} {x:Nat} {xo:O} (ho:L[tr.length]?=some o) (hlo:jaE o.op=true) (hns:jaw o.op=false) (hx:loadAt o.op (ja4 L (jap L o) (tab.getD tr.length []) st0 tr)=some x) (hf:find (jam st0 tr) x=some xo) (hr0:r0.hp=jam st0 tr)
  (hlow:∀i k,k∈tab.getD i []→k<i) (ht:jcO L tab) (hc:jcE L D) (hi:D tr.length=false) (hxl:x<jab st0 tr) (hin:find (jan D st0 tr) x=some xo) :
  ∀{later:List Rec},GoodTr P sp N L tab st0 (later++r0::tr)→find (jan D st0 (later++r0::tr)) x=some xo ∧
   ((∀k,tr.length<k→k<(later++r0::tr).length→∀ok,L[k]?=some ok→jaw ok.op=false→jaE ok.op=false→tr.length∈tab.getD k []→False)→True) ∧
   (find (jam st0 (later++r0::tr)) x=some xo∨∃l1 rk trk,later++r0::tr=l1++rk::trk∧tr.length<trk.length∧rk.kd=2∧tr.length∈tab.getD trk.length [])
 |[],_=>by
  refine⟨?_,fun _=>trivial,.inl ?_⟩
  ·simp only[List.nil_append,jan,hi,Bool.false_eq_true,if_false];exact hin
  ·show find r0.hp x=_
   rw[hr0];exact hf
 |r::l,hg=>by
  obtain⟨hgt,o',hr⟩:=GoodTr.inv (tr:=l++r0::tr) hg;obtain⟨ih1,_,ih3⟩:=jqp ho hlo hns hx hf hr0 hlow ht hc hi hxl hin hgt;have hlen:tr.length<(l++r0::tr).length:=by simp;omega
  by_cases hk:r.kd=2
  ·have hfo:=jbC hr hk
   by_cases hw:tr.length∈tab.getD (l++r0::tr).length []
   ·have hDk:D (l++r0::tr).length=false:=by
     rw[Bool.eq_false_iff];intro hD;have:=jcP ht hc (l++r0::tr).length tr.length (fun o' ho' e he hb=>hc _ o' ho' hD e he hb) hw;rw[this]at hi;cases hi
    refine⟨?_,fun _=>trivial,.inr ⟨[],r,l++r0::tr,rfl,hlen,hk,hw⟩⟩;simp only[List.cons_append,jan,hDk,Bool.false_eq_true,if_false];exact ih1
   ·have htg:r.tg.isSome=true:=by
     obtain⟨mk,hfm⟩:=hfo.1;rcases jc1 hfm tr.length o ho with h1|h1|h1|h1|h1|h1
     ·omega
     ·rw[hns]at h1;cases h1
     ·rw[Nat.zero_add]at h1;exact absurd h1 hw
     ·rw[Nat.zero_add]at h1;have:=hlow _ _ h1;omega
     ·exact h1.1
     ·have:=h1.2.1;omega
    cases htt:r.tg with
    |none=>rw[htt]at htg;cases htg
    |some t =>
     have hst:=jnh hr hk htt;have hsp:=jop ho hlo hst.2;rcases hsp with hsp|⟨x',hx',hne,hpl⟩
     ·exact absurd (by simpa using hsp) hw
     ·rw[hx]at hx';cases hx';have hplx:jen (some xo)=true:=by rw[hf]at hpl;exact hpl
      rcases ih3 with h3|⟨l1,rk,trk,e1,e2,e3,e4⟩
      ·have hr':find r.hp x=some xo:=by
        refine hst.1 x xo hne ?_ hplx h3;have h2:=jdl (later:=l++[r0]) (tr:=tr) (by simpa using hgt);have h4:jab st0 tr≤jab st0 (l++r0::tr):=by simpa using h2
        omega
       refine⟨?_,fun _=>trivial,.inl hr'⟩;simp only[List.cons_append,jan];split
       ·first|exact hr' | (rw[if_pos hk];exact hr')
       ·exact ih1
      ·-- an earlier store waits for the load;this one waits for that one
       have hgk:GoodTr P sp N L tab st0 (rk::trk):=GoodTr.tail (later:=l1) (by rw[←e1];exact hgt);obtain⟨_,ok,hrk⟩:=hgk.inv;have hkk:=jbC hrk e3;have hlt:trk.length<(l++r0::tr).length:=by rw[e1];simp;omega
       have hDk:D (l++r0::tr).length=false:=by
        rw[Bool.eq_false_iff];intro hD
        have hdk:D trk.length=true:=by
         obtain⟨mk,hfm⟩:=hfo.1;rcases jc1 hfm trk.length ok hrk.op with h1|h1|h1|h1|h1|h1
         ·omega
         ·rw[hkk.2.1]at h1;cases h1
         ·rw[Nat.zero_add]at h1;exact jcP ht hc _ trk.length (fun o' ho' e he hb=>hc _ o' ho' hD e he hb) h1
         ·rw[Nat.zero_add]at h1;have:=hlow _ _ h1;omega
         ·rw[hkk.2.2.1]at h1;cases h1.2
         ·have:=h1.2.1;omega
        have:=jcP ht hc trk.length tr.length (fun o' ho' e he hb=>hc _ o' ho' hdk e he hb) e4;rw[this]at hi;cases hi
       refine⟨?_,fun _=>trivial,.inr ⟨r::l1,rk,trk,by rw[List.cons_append,e1];rfl,e2,e3,e4⟩⟩;simp only[List.cons_append,jan,hDk,Bool.false_eq_true,if_false];exact ih1
  ·have hoth:=jbW hr hk
   have hnone:find r.nw x=none:=by
    cases hn:find r.nw x with
    |none=>rfl
    |some y =>
     have h1:=(hoth.2.1 x y hn).1;have h2:=jdl (later:=l++[r0]) (tr:=tr) (by simpa using hgt);have h3:jab st0 tr≤jab st0 (l++r0::tr):=by simpa using h2
     omega
   refine⟨?_,fun _=>trivial,?_⟩
   ·simp only[List.cons_append,jan];split
    ·first|(rw[jat,hnone];exact ih1)|(rw[if_neg hk,jat,hnone];exact ih1)
    ·exact ih1
   ·rcases ih3 with h3|⟨l1,rk,trk,e1,e2,e3,e4⟩
    ·left
     show find r.hp x=_
     rw[hoth.1,jat,hnone];exact h3
    ·right;exact⟨r::l1,rk,trk,by rw[List.cons_append,e1];rfl,e2,e3,e4⟩
def jeo [Globs] (P:Program) (sp:jaa) (N:Nat) (L:List Oper) (tab:List (List Nat)) (st0:St) (D:Nat→Bool) (later tr:List Rec):Prop :=
 ∀l1 rk l2 ok,later=l1++rk::l2→RecOK P sp N L tab st0 (l2++tr) rk ok→rk.kd=2→D (l2++tr).length=false
theorem jeo.tail {D:Nat→Bool} {r:Rec} {l tr:List Rec} (h:jeo P sp N L tab st0 D (r::l) tr):jeo P sp N L tab st0 D l tr:=fun l1 rk l2 ok e=>h (r::l1) rk l2 ok (by rw[e];rfl)
theorem jqq {D:Nat→Bool} {tr:List Rec} {h:Nat} (hh:h<jab st0 tr) :
  ∀{later:List Rec},jeo P sp N L tab st0 D later tr→GoodTr P sp N L tab st0 (later++tr)→find (jan D st0 (later++tr)) h=find (jan D st0 tr) h
 |[],_,_=>rfl
 |r::l,hno,hg=>by
   obtain⟨hgt,o',hr⟩:=GoodTr.inv (tr:=l++tr) hg;have ih:=jqq hh hno.tail hgt;simp only[List.cons_append,jan];split
   ·rename_i hD;split
    ·rename_i hk;rw[hno [] r l o' rfl hr hk]at hD;cases hD
    ·rename_i hk;rw[jat]
     have:find r.nw h=none:=by
      cases hn:find r.nw h with
      |none=>rfl
      |some x =>
       have h1:=((jbW hr hk).2.1 h x hn).1;have h2:=jdl hgt;omega
     rw[this];exact ih
   ·exact ih
theorem jmD {D D':Nat→Bool} {tr:List Rec} {r:Rec} (hi:D tr.length=false) (hbase:jkO st0)
  (hD1:D' tr.length=true) (hD2:∀j,j≠tr.length→D' j=D j) (hk:r.kd≠2) {h:Nat} :
  ∀{later:List Rec},jeo P sp N L tab st0 D later (r::tr)→GoodTr P sp N L tab st0 (later++r::tr)→find (jan D' st0 (later++r::tr)) h=(find (jan D st0 (later++r::tr)) h).or (find r.nw h)
 |[],_,hg=>by
  cases hg with
  |cons hgt o' hr =>
   simp only[List.nil_append,jan,hD1,hi,if_true,if_neg hk,jat,Bool.false_eq_true,if_false];rw[jhO (D:=D) (D':=D') (fun j hj=>hD2 j (by omega))];cases hn:find r.nw h with
   |none=>simp
   |some x =>
    have h1:=((jbW hr hk).2.1 h x hn).1;cases hd:find (jan D st0 tr) h with
    |none=>rfl
    |some y =>
     have:=jxO hbase hgt h y hd;omega
 |r' :: l,hno,hg=>by
   obtain⟨hgt,o',hr⟩:=GoodTr.inv (tr:=l++r::tr) hg;have ih:=jmD hi hbase hD1 hD2 hk (h:=h) hno.tail hgt;simp only[List.cons_append,jan];rw[hD2 _ (by simp;omega)];split
   ·rename_i hD;split
    ·rename_i hk';rw[hno [] r' l o' rfl hr hk']at hD;cases hD
    ·simp only[jat,ih,Option.or_assoc]
   ·exact ih
theorem jqr {D D':Nat→Bool} {tr:List Rec} {r:Rec} (hi:D tr.length=false)
  (hD1:D' tr.length=true) (hD2:∀j,j≠tr.length→D' j=D j) (hk:r.kd≠2) (hn:r.nw=[]) :
  ∀{later:List Rec},jan D' st0 (later++r::tr)=jan D st0 (later++r::tr)
 |[]=>by
  simp only[List.nil_append,jan,hD1,hi,if_true,if_neg hk,hn,Bool.false_eq_true,if_false];exact jhO (fun j hj=>hD2 j (by omega))
 |r' :: l=>by
  have ih:=jqr hi hD1 hD2 hk hn (later:=l);simp only[List.cons_append,jan];rw[hD2 _ (by simp;omega),ih]
theorem jfn {D:Nat→Bool} {i:Nat} (hall:∀j oj,j<i→L[j]?=some oj→(jaw oj.op||jaE oj.op)=false→D j=true) (hmk:∀j,j<i→jfl tab j 0 L=true→D j=true) {tr:List Rec} (hg:GoodTr P sp N L tab st0 tr) :
  tr.length≤i→jan D st0 tr=jam st0 tr∧∀h,h<jab st0 tr→jar D st0 tr h=true:=by
 induction hg with
 |nil=>exact fun _=>⟨rfl,fun _ _=>rfl⟩
 | @cons tr r hgt o hr ih =>
  intro hl;have hl:tr.length+1≤i:=hl;have ih:=ih (by omega)
  have key:r.kd≠2→D tr.length=true∨(r.nw=[]∧r.nx=jab st0 tr):=fun hk=>by
   rcases(jbW hr hk).2.2 with h1|h1|h1
   ·exact .inr h1
   ·exact .inl (hall _ o (by omega) hr.op h1)
   ·exact .inl (hmk _ (by omega) h1.1)
  constructor
  ·simp only[jan]
   show _=r.hp
   by_cases hk:r.kd=2
   ·rw[if_pos (hall _ o (by omega) hr.op (by rw[(jbC hr hk).2.1,(jbC hr hk).2.2.1];rfl)),if_pos hk]
   ·have h1:=jbW hr hk;rw[h1.1,if_neg hk,ih.1];split
    ·rfl
    ·rename_i hD;rcases key hk with h2|h2
     ·exact absurd h2 hD
     ·rw[h2.1];rfl
  ·intro h hh;have hh:h<r.nx:=hh;simp only[jar];split
   ·rename_i e;rw[Nat.ble_eq]at e
    by_cases hk:r.kd=2
    ·exact hall _ o (by omega) hr.op (by rw[(jbC hr hk).2.1,(jbC hr hk).2.2.1];rfl)
    ·rcases key hk with h2|h2
     ·exact h2
     ·omega
   ·rename_i e;apply ih.2;rw[Bool.eq_false_iff]at e;have:¬(jab st0 tr≤h):=fun hc=>e (Nat.ble_eq_true_of_le hc);omega
theorem jji {D:Nat→Bool} {tr:List Rec}:∀{later:List Rec},(∀l1 rk l2 ok,later=l1++rk::l2→RecOK P sp N L tab st0 (l2++tr) rk ok→D (l2++tr).length=true→rk.kd≠2∧rk.nw=[])→GoodTr P sp N L tab st0 (later++tr)→jan D st0 (later++tr)=jan D st0 tr
 |[],_,_=>rfl
 |r::l,hall,hg=>by
   obtain⟨hgt,o,hr⟩:=GoodTr.inv (tr:=l++tr) hg;have ih:=jji (fun l1 rk l2 ok e=>hall (r::l1) rk l2 ok (by rw[e];rfl)) hgt;simp only[List.cons_append,jan];split
   ·rename_i hD;have h1:=hall [] r l o rfl hr hD;rw[if_neg h1.1,h1.2,ih];rfl
   ·exact ih
theorem jjj {bef:List Nat} {r:Rec} {tr:List Rec} (hk:r.kd=2):∀{l:List Rec},jc8 bef (l++r::tr)=true→tr.length∈bef
 |[],h=>by
  simp only[List.nil_append,jc8,hk,Bool.and_eq_true]at h;simpa using h.1
 |r' :: l,h=>by
  simp only[List.cons_append,jc8,Bool.and_eq_true]at h;exact jjj hk h.2
theorem jmE {D:Nat→Bool} {tr:List Rec}:∀{later:List Rec},(∀l1 rk l2 ok,later=l1++rk::l2→RecOK P sp N L tab st0 (l2++tr) rk ok→D (l2++tr).length=true→rk.kd≠2∧rk.nw.all (fun x=>jeS x.2)=true)→GoodTr P sp N L tab st0 (later++tr) →
  ∀x,(x<jab st0 tr→find (jan D st0 (later++tr)) x=find (jan D st0 tr) x)∧(∀ob,find (jan D st0 (later++tr)) x=some ob→jab st0 tr≤x→(∀ob,find (jan D st0 tr) x=some ob→x<jab st0 tr)→jeS ob=true) ∧
   (∀D',(∀j,tr.length≤j→D' j=D j)→jab st0 tr≤x→(∀ob,find (jan D st0 tr) x=some ob→x<jab st0 tr)→(∀ob,find (jan D' st0 tr) x=some ob→x<jab st0 tr)→find (jan D' st0 (later++tr)) x=find (jan D st0 (later++tr)) x) ∧
   (x<jab st0 tr→∀D',(∀j,tr.length≤j→D' j=D j)→find (jan D' st0 (later++tr)) x=find (jan D' st0 tr) x)
 |[],_,_,x=>⟨fun _=>rfl,fun ob hf hx hk=>absurd (hk ob hf) (by omega),fun D' hD hx h1 h2=>by
   cases hf:find (jan D' st0 tr) x with
   |some ob=>exact absurd (h2 ob hf) (by omega)
   |none=>cases hg:find (jan D st0 tr) x with
    |some ob=>exact absurd (h1 ob hg) (by omega)
    |none=>simp[hf,hg],fun _ _ _=>rfl⟩
 |r::l,hall,hg,x=>by
   obtain⟨hgt,o,hr⟩:=GoodTr.inv (tr:=l++tr) hg;have ih:=jmE (later:=l) (fun l1 rk l2 ok e=>hall (r::l1) rk l2 ok (by rw[e];rfl)) hgt x;have hnx:jab st0 tr≤jab st0 (l++tr):=jdl hgt;simp only[List.cons_append,jan]
   by_cases hD:D (l++tr).length=true
   ·have hk2:r.kd≠2∧r.nw.all (fun x=>jeS x.2)=true:=hall [] r l o rfl hr hD;have hoth:=jbW hr hk2.1
    have hnone:x<jab st0 tr→find r.nw x=none:=fun hx=>by
     cases hn:find r.nw x with
     |none=>rfl
     |some y=>have:=(hoth.2.1 x y hn).1;omega
    rw[if_pos hD,if_neg hk2.1];refine⟨fun hx=>by rw[jat,hnone hx];exact ih.1 hx,fun ob hf hx hkey=>?_,fun D' hD' hx h1 h2=>?_,fun hx D' hD'=>?_⟩
    ·rw[jat]at hf;cases hn:find r.nw x with
     |some y =>
      rw[hn]at hf;cases hf;exact List.all_eq_true.1 hk2.2 _ (jkR hn)
     |none=>rw[hn]at hf;exact ih.2.1 ob hf hx hkey
    ·rw[if_pos (by rw[hD' _ (by simp)];exact hD),if_neg hk2.1,jat,jat,ih.2.2.1 D' hD' hx h1 h2]
    ·rw[if_pos (by rw[hD' _ (by simp)];exact hD),if_neg hk2.1,jat,hnone hx];exact ih.2.2.2 hx D' hD'
   ·rw[if_neg hD];refine⟨ih.1,ih.2.1,fun D' hD' hx h1 h2=>?_,fun hx D' hD'=>?_⟩
    ·rw[if_neg (by rw[hD' _ (by simp)];exact hD)];exact ih.2.2.1 D' hD' hx h1 h2
    ·rw[if_neg (by rw[hD' _ (by simp)];exact hD)];exact ih.2.2.2 hx D' hD'
end
end Go.Sx
end

section
open Go.RowKit
namespace Go.Sx
theorem O.ok_eqB {p:Nat→Bool} {ρ ρ':Env} {B:Kd} {h:Nat} {w:World} (ha:∀x,p x=true→ρ' x=ρ x) (hh:ρ' h=ρ h):∀{o:O},o.allB p=true→o.ok ρ B w h→o.ok ρ' B w h
 | .box ty cs,hl,⟨k,h1,h2,h3⟩=>⟨k,hh.trans h1,h2,by
   rw[h3];congr 3;exact List.map_congr_left fun a ha'=>(C.val_eqB ha (List.all_eq_true.1 hl a ha')).symm⟩
 | .row ty c,_,hr=>by unfold O.ok at *;rw[hh];exact hr
 | .ext c,_,hr=>by unfold O.ok at *;rw[hh];exact hr
 | .view r c _,hl,hr=>by
  have hl':p r=true:=hl;unfold O.ok at *;rw[hh];simp only;exact hr
 | .lbox ty e n cs,hl,hr=>by
  have e1:cs.map (C.val ρ')=cs.map (C.val ρ):=List.map_congr_left fun a ha'=>C.val_eqB ha (List.all_eq_true.1 hl a ha');unfold O.ok at *;simp only;rw[hh,e1];exact hr
 | .elist e n cs,hl,⟨h1,h2,h3,h4⟩=>by
  unfold O.ok;simp only;rw[hh];exact⟨h1,h2,h3,fun m c hc=>by rw[C.val_eqB ha (List.all_eq_true.1 hl c (List.mem_of_getElem? hc))];exact h4 m c hc⟩
 | .lview r e n cs,hl,⟨h1,h2,h3⟩=>by
  simp only[O.allB,Bool.and_eq_true]at hl;unfold O.ok;simp only;rw[hh];exact⟨h1,h2,fun m c hc=>by rw[C.val_eqB ha (List.all_eq_true.1 hl.2 c (List.mem_of_getElem? hc))];exact h3 m c hc⟩
 | .dead,_,_=>trivial
 | .nan _,_,hr=>by unfold O.ok at *;rw[hh];exact hr
 | .err,_,hr=>by unfold O.ok at *;rw[hh];exact hr
 | .atom,_,hr=>by unfold O.ok at *;rw[hh];exact hr
 | .ebox cs,hl,⟨k,o,h1,h2,h3⟩=>⟨k,o,hh.trans h1,h2,fun j c hj=>by rw[C.val_eqB ha (List.all_eq_true.1 hl c (List.mem_of_getElem? hj))];exact h3 j c hj⟩
 | .arr _ _ _ _,_,hr=>by unfold O.ok at *;rw[hh];exact hr
 | .xext _,_,hr=>by unfold O.ok at *;rw[hh];exact hr
 | .map _,_,hr=>by unfold O.ok at *;rw[hh];exact hr
 | .rrow _,_,hr=>by unfold O.ok at *;rw[hh];exact hr
 | .fext _,_,hr=>by unfold O.ok at *;rw[hh];exact hr
 | .xrow _ _,_,hr=>by unfold O.ok at *;rw[hh];exact hr
 | .mrow _ _ _ _,_,hr=>by unfold O.ok at *;rw[hh];exact hr
 | .sub r i e j ty c,hl,hr=>by
  have hl':p r=true:=hl;unfold O.ok at *;simp only;rw[hh,ha r hl'];exact hr
def jbX (ρ ρ':Env) (lo hi:Nat):Env:=fun h=>match Nat.ble lo h&&Nat.blt h hi with
 |true=>ρ' h
 |false=>ρ h
section
variable [Globs] {P:Program} {sp:jaa} {B0 B B2:Kd} {N n0:Nat} {L:List Oper} {tab:List (List Nat)} {st0:St} {ρ0:Env} {w0:World} {ds:List Deferred}
structure At [Globs] (P:Program) (sp:jaa) (N:Nat) (L:List Oper) (tab:List (List Nat)) (st0:St) (D D':Nat→Bool) (later:List Rec) (r:Rec) (tr:List Rec) (o:Oper):Prop where
 good:GoodTr P sp N L tab st0 (later++r::tr)
 len:(later++r::tr).length=L.length
 ok:RecOK P sp N L tab st0 tr r o
 slots:jcj L tab 0 L=true
 edges:jds 0 L=true
 tabok:jcO L tab
 closed:jcE L D
 out:D tr.length=false
 bef:∀j,j∈tab.getD tr.length []→D j=true
 D1:D' tr.length=true
 D2:∀j,j≠tr.length→D' j=D j
 base:jkO st0
 baseTm:∀t v,jav st0.tm t=some v→v.lt st0.nx
 n0:n0≤st0.nx
variable {D D':Nat→Bool} {later tr:List Rec} {r:Rec} {o:Oper} {a:Act} {w w':World} {ρ ρ':Env}
theorem At.low (h:At (n0:=n0) P sp N L tab st0 D D' later r tr o):∀i k,k∈tab.getD i []→k<i:=jxL h.edges h.tabok
theorem At.gr (h:At (n0:=n0) P sp N L tab st0 D D' later r tr o):GoodTr P sp N L tab st0 (r::tr):=GoodTr.tail h.good
theorem At.gt (h:At (n0:=n0) P sp N L tab st0 D D' later r tr o):GoodTr P sp N L tab st0 tr:=h.gr.inv.1
theorem At.mono (h:At (n0:=n0) P sp N L tab st0 D D' later r tr o):∀j,D j=true→D' j=true:=fun j hj=>by
 by_cases e:j=tr.length
 ·rw[e];exact h.D1
 ·rw[h.D2 j e];exact hj
theorem At.nx (h:At (n0:=n0) P sp N L tab st0 D D' later r tr o):r.nx≤jab st0 (later++r::tr):=jdl (tr:=r::tr) h.good
theorem At.alive_mono (h:At (n0:=n0) P sp N L tab st0 D D' later r tr o) {x:Nat} (hx:jaS st0 (later++r::tr) D x=true):jaS st0 (later++r::tr) D' x=true:=by
 simp only[jaS,Bool.and_eq_true]at hx ⊢;exact⟨hx.1,jfF h.mono _ _ hx.2⟩
theorem At.alive_out (h:At (n0:=n0) P sp N L tab st0 D D' later r tr o) {x:Nat} (hx:jaS st0 (later++r::tr) D x=true):¬(jab st0 tr≤x∧x<r.nx):=by
 rintro ⟨h1,h2⟩;simp only[jaS,Bool.and_eq_true]at hx;rw[jvj h.good h1 h2,h.out]at hx;cases hx.2
theorem At.alive_new (h:At (n0:=n0) P sp N L tab st0 D D' later r tr o) {q:Nat→Bool} (hq:∀j,q j=true→D' j=true) {x:Nat}
  (hx:(Nat.blt x r.nx&&(Nat.ble (jab st0 tr) x||jar q st0 tr x))=true):jaS st0 (later++r::tr) D' x=true:=by
 simp only[Bool.and_eq_true,Nat.blt_eq,Bool.or_eq_true]at hx;simp only[jaS,Bool.and_eq_true,Nat.blt_eq];refine⟨Nat.lt_of_lt_of_le hx.1 h.nx,?_⟩
 by_cases hle:jab st0 tr≤x
 ·rw[jvj h.good hle hx.1];exact h.D1
 ·have h1:jar q st0 tr x=true:=by
   rcases hx.2 with h1|h1
   ·rw[Nat.ble_eq]at h1;exact absurd h1 hle
   ·exact h1
  have:later++r::tr=(later++[r])++tr:=by simp
  rw[this,jjf (by rw[←this];exact h.good) (by omega)];exact jfF hq _ _ h1
theorem jjk (h:At (n0:=n0) P sp N L tab st0 D D' later r tr o) {x:Nat} (hx:jaS st0 (later++r::tr) D x=true):jbX ρ ρ' (jab st0 tr) r.nx x=ρ x:=by
 have:=h.alive_out hx;unfold jbX;split
 ·rename_i e;simp only[Bool.and_eq_true,Nat.ble_eq,Nat.blt_eq]at e;exact absurd e this
 ·rfl
theorem jdQ {lo hi:Nat} (ha:jae lo ρ ρ'):jae hi ρ' (jbX ρ ρ' lo hi):=by
 intro x hx;unfold jbX;split
 ·rfl
 ·rename_i e
  have:¬lo≤x:=fun hc=>by
   rw[Bool.eq_false_iff]at e;exact e (by simp only[Bool.and_eq_true,Nat.ble_eq,Nat.blt_eq];exact⟨hc,hx⟩)
  exact(ha x (by omega)).symm
theorem jkS {lo hi:Nat} {m:Nat} (hm:m≤lo) (ha:jae m ρ0 ρ):jae m ρ0 (jbX ρ ρ' lo hi):=by
 intro x hx;unfold jbX;split
 ·rename_i e;simp only[Bool.and_eq_true,Nat.ble_eq,Nat.blt_eq]at e;omega
 ·exact ha x hx
theorem At.n0le (h:At (n0:=n0) P sp N L tab st0 D D' later r tr o):n0≤jab st0 tr:=Nat.le_trans h.n0 (jlX h.gt)
theorem joq:∀{hp:Hp} {x:Nat},find (hp.map fun y=>(y.1,O.atom)) x=(find hp x).map fun _=>O.atom
 |[],_=>rfl
 |(k,o)::hp,x=>by
  simp only[List.map_cons,find];split
  ·rfl
  ·exact joq
theorem jjl (h:At (n0:=n0) P sp N L tab st0 D D' later r tr o) (hinv:Inv ds L st0 B0 B N n0 ρ0 w0 (later++r::tr) D a w ρ) {ρ2:Env} (hE:∀x,jaS st0 (later++r::tr) D x=true→ρ2 x=ρ x)
  (hnew:∀x,jab st0 tr≤x→x<r.nx→C.one r.hp (.o x)=true→(ρ2 x).oneCell'=true):∀x,jaS st0 (later++r::tr) D' x=true→jbT st0 (later++r::tr) x=true→(ρ2 x).oneCell'=true:=by
 intro x hx hb
 by_cases hn:jab st0 tr≤x∧x<r.nx
 ·rw[jv2 h.good hn.1 hn.2]at hb;exact hnew x hn.1 hn.2 hb
 ·have hx2:=hx;simp only[jaS,Bool.and_eq_true,Nat.blt_eq]at hx2
  have hal:jaS st0 (later++r::tr) D x=true:=by
   simp only[jaS,Bool.and_eq_true,Nat.blt_eq];refine⟨hx2.1,?_⟩;rw[jzr (q:=D') (q':=D) (fun j hj=>(h.D2 j hj).symm) hn h.good hx2.1];exact hx2.2
  rw[hE x hal];exact hinv.one x hal hb
theorem jjm (h:At (n0:=n0) P sp N L tab st0 D D' later r tr o) (hinv:Inv ds L st0 B0 B N n0 ρ0 w0 (later++r::tr) D a w ρ) (hk:r.kd≠2) (hn:r.nw=[]) (hnx:r.nx=jab st0 tr)
  (hv:r.v.allB (fun x=>Nat.blt x r.nx&&(Nat.ble (jab st0 tr) x||jar (fun j=>(tab.getD tr.length []).contains j) st0 tr x))=true) :
  Inv ds L st0 B0 B N n0 ρ0 w0 (later++r::tr) D' (a.put o.dst (r.v.val ρ)) w ρ:=by
 have he:=jqr (st0:=st0) (later:=later) h.out h.D1 h.D2 hk hn;have hv':r.v.allB (jaS st0 (later++r::tr) D')=true:=V.allB_mono (fun x hx=>h.alive_new (fun j hj=>h.mono j (h.bef j (by simpa using hj))) hx) hv;refine⟨jlY h.slots h.tabok h.closed h.out h.ok.op h.ok.dst h.D1 h.D2 hinv (fun _ _=>rfl) hv',by rw[jbu];exact hinv.size,by rw[jcM];exact hinv.defers,by rw[he];exact hinv.heap,?_,hinv.le,hinv.agree,hinv.below,jjl h hinv (fun _ _=>rfl) (fun x h1 h2 _=>by omega),hinv.gr,hinv.le0⟩;intro x ob hf;rw[he]at hf;have:=hinv.hal x ob hf;exact⟨h.alive_mono this.1,O.allB_mono (fun y hy=>h.alive_mono hy) this.2⟩
theorem jsl (h:At (n0:=n0) P sp N L tab st0 D D' later r tr o) (hinv:Inv ds L st0 B0 B N n0 ρ0 w0 (later++r::tr) D a w ρ) (hno:jeo P sp N L tab st0 D later (r::tr)) (hk:r.kd≠2)
  (hv:r.v.allB (fun x=>Nat.blt x r.nx&&(Nat.ble (jab st0 tr) x||jar (fun j=>(tab.getD tr.length []).contains j) st0 tr x))=true)
  (hnw:∀x ob,find r.nw x=some ob→ob.allB (fun x=>Nat.blt x r.nx&&(Nat.ble (jab st0 tr) x||jar (fun j=>(tab.getD tr.length []).contains j) st0 tr x))=true)
  (hag:jae (jab st0 tr) ρ ρ') (hbl:Bel B w w') (hbw:Below w.heap.size w w') (g:Grow B B2 true w w') (hnew:HRel ρ' B2 r.nw r.nx w') (hfresh:∀x ob k,find r.nw x=some ob→ob.blk (ρ' x)=some k→w.heap.size≤k) :
  Inv ds L st0 B0 B2 N n0 ρ0 w0 (later++r::tr) D' (a.put o.dst (r.v.val (jbX ρ ρ' (jab st0 tr) r.nx))) w' (jbX ρ ρ' (jab st0 tr) r.nx):=by
 have hbl0:Bel B0 w w':=hbl.mono hinv.gr.le.kp;have hq:∀j,(tab.getD tr.length []).contains j=true→D' j=true:=fun j hj=>h.mono j (h.bef j (by simpa using hj));have hv':r.v.allB (jaS st0 (later++r::tr) D')=true:=V.allB_mono (fun x hx=>h.alive_new hq hx) hv;have hE1:∀x,jaS st0 (later++r::tr) D x=true→jbX ρ ρ' (jab st0 tr) r.nx x=ρ x:=fun x hx=>jjk h hx;have hE2:jae r.nx ρ' (jbX ρ ρ' (jab st0 tr) r.nx):=jdQ hag
 have hins:∀x,find (jan D' st0 (later++r::tr)) x=(find (jan D st0 (later++r::tr)) x).or (find r.nw x):=fun x =>
  jmD h.out h.base h.D1 h.D2 hk hno h.good
 have hkey:∀k ob,find r.nw k=some ob→jab st0 tr≤k∧k<r.nx:=(jbW h.ok hk).2.1;have hnew':=hnew.agree hE2
 refine⟨jlY h.slots h.tabok h.closed h.out h.ok.op h.ok.dst h.D1 h.D2 hinv hE1 hv',by rw[jbu];exact hinv.size,by rw[jcM];exact hinv.defers,⟨?_,?_,(hinv.heap.glob.bel hbl).sub g.le.kp⟩,?_,g.old (hbl.old hinv.le),jkS h.n0le hinv.agree,hinv.below.trans hbl0,jjl h hinv hE1 (fun x h1 h2 h3=>by
  rw[hE2 x h2];refine C.one_val (c:=.o x) hnew ?_;have hh:=(jbW h.ok hk).1
  have hnone:find (jam st0 tr) x=none:=by
   cases hf:find (jam st0 tr) x with
   |none=>rfl
   |some y=>have:=(keys h.gt h.base x y hf).1;omega
  simp only[C.one,hh,jat,hnone]at h3;simp only[C.one];cases hf:find r.nw x with
  |none=>rw[hf]at h3;cases h3
  |some y=>rw[hf]at h3;exact h3),(hinv.gr.trans g.weak (Nat.le_refl _) hbl.size).weak,hbl0.old hinv.le0⟩
 ·intro x ob hf;rw[hins]at hf;cases hd:find (jan D st0 (later++r::tr)) x with
  |some y =>
   rw[hd]at hf;cases hf;have h1:=hinv.heap.ok x ob hd;have h2:=hinv.hal x ob hd
   exact⟨h1.1,h1.2.1,O.ok_eqB hE1 (hE1 x h2.1) h2.2 (O.ok_moreB g.le (g.mono rfl).2 (O.ok_below hbw hinv.le h1.2.2) fun k hk hB2=>by
    have hb:=O.blk_lt h1.2.2 hk;rcases(g.mono rfl).1 k hB2 with h3|h3
    ·exact hb.2 h3
    ·exact absurd hb.1 (by omega))⟩
  |none =>
   rw[hd]at hf;have hf:find r.nw x=some ob:=hf;have h1:=hnew'.ok x ob hf;exact⟨Nat.lt_of_lt_of_le h1.1 h.nx,O.lt_mono h.nx h1.2.1,h1.2.2⟩
 ·intro x ob x' ob' k hf hf' hne hb;rw[hins]at hf hf'
  have old:∀y oy,find (jan D st0 (later++r::tr)) y=some oy→∀k,oy.blk (jbX ρ ρ' (jab st0 tr) r.nx y)=some k→k<w.heap.size:=fun y oy hy k hk=>by
   rw[hE1 y (hinv.hal y oy hy).1]at hk;exact(O.blk_lt (hinv.heap.ok y oy hy).2.2 hk).1
  have new:∀y oy,find r.nw y=some oy→∀k,oy.blk (jbX ρ ρ' (jab st0 tr) r.nx y)=some k→w.heap.size≤k:=fun y oy hy k hk=>by
   rw[hE2 y (hkey y oy hy).2]at hk;exact hfresh y oy k hy hk
  cases hd:find (jan D st0 (later++r::tr)) x with
  |some y =>
   rw[hd]at hf;cases hf;cases hd':find (jan D st0 (later++r::tr)) x' with
   |some y' =>
    rw[hd']at hf';cases hf';rw[hE1 x (hinv.hal x ob hd).1]at hb;rw[hE1 x' (hinv.hal x' ob' hd').1];exact hinv.heap.apart x ob x' ob' k hd hd' hne hb
   |none =>
    rw[hd']at hf';intro hb';have h1:=old x ob hd k hb;have h2:=new x' ob' hf' k hb';omega
  |none =>
   rw[hd]at hf;cases hd':find (jan D st0 (later++r::tr)) x' with
   |some y' =>
    rw[hd']at hf';cases hf';intro hb';have h1:=old x' ob' hd' k hb';have h2:=new x ob hf k hb;omega
   |none =>
    rw[hd']at hf';exact hnew'.apart x ob x' ob' k hf hf' hne hb
 ·intro x ob hf;rw[hins]at hf;cases hd:find (jan D st0 (later++r::tr)) x with
  |some y =>
   rw[hd]at hf;cases hf;have:=hinv.hal x ob hd;exact⟨h.alive_mono this.1,O.allB_mono (fun y hy=>h.alive_mono hy) this.2⟩
  |none =>
   rw[hd]at hf;have hf:find r.nw x=some ob:=hf;have h1:=hkey x ob hf;refine⟨h.alive_new (q:=fun _=>false) (fun _ hj=>by cases hj) ?_,O.allB_mono (fun y hy=>h.alive_new hq hy) (hnw x ob hf)⟩;simp only[Bool.and_eq_true,Nat.blt_eq,Bool.or_eq_true];exact⟨h1.2,.inl (Nat.ble_eq_true_of_le h1.1)⟩
theorem jhu (h:At (n0:=n0) P sp N L tab st0 D D' later r tr o) {lf mk:Bool} (hf:ja3 tab tr.length lf mk 0 L=true):∀j oj,j<tr.length→L[j]?=some oj→(jaw oj.op||jaE oj.op)=false→D j=true:=fun j oj hij hj hs=>by
 simp only[Bool.or_eq_false_iff]at hs;rcases jc1 hf j oj hj with h1|h1|h1|h1|h1|h1
 ·omega
 ·rw[hs.1]at h1;cases h1
 ·rw[Nat.zero_add]at h1;exact h.bef _ h1
 ·rw[Nat.zero_add]at h1;have:=h.low _ _ h1;omega
 ·rw[hs.2]at h1;cases h1.2
 ·have:=h1.2.1;omega
theorem jhv (h:At (n0:=n0) P sp N L tab st0 D D' later r tr o) (hns:jaw o.op=false) (hnl:jaE o.op=false) (hna:jhr o.op=false):∀j,j<tr.length→jfl tab j 0 L=true→D j=true:=fun j hij hm=>by
 rcases jjh hm tr.length o h.ok.op with h1|h1|h1|h1
 ·omega
 ·rw[hns,hnl]at h1;cases h1
 ·rw[Nat.zero_add]at h1;exact h.bef _ h1
 ·rw[hna]at h1;cases h1
theorem jvl (h:At (n0:=n0) P sp N L tab st0 D D' later r tr o) (hns:jaw o.op=false) (hnl:jaE o.op=false):jeo P sp N L tab st0 D later (r::tr):=fun l1 rk l2 ok e hr hk=>by
 obtain⟨mk,hf⟩:=(jbC hr hk).1;exact jxP hns hnl h.ok.op h.low h.tabok h.closed h.out (by simp;omega) hf
theorem jBe (h:At (n0:=n0) P sp N L tab st0 D D' later r tr o) (hm:jfl tab tr.length 0 L=true):jeo P sp N L tab st0 D later (r::tr):=fun l1 rk l2 ok e hr hk=>by
 have hke:=jbC hr hk;rcases jjh hm _ ok hr.op with h1|h1|h1|h1
 ·simp at h1;omega
 ·rw[hke.2.1,hke.2.2.1]at h1;cases h1
 rotate_left
 ·rw[hke.2.2.2]at h1;cases h1
 ·rw[Nat.zero_add]at h1;rw[Bool.eq_false_iff];intro hD;have:=jcP h.tabok h.closed _ tr.length (fun o' ho' e he hb=>h.closed _ o' ho' hD e he hb) h1;rw[h.out]at this;cases this
def jor (B:Kd) (E:Nat→Prop) (hE:∀k,E k→¬B.all k):Kd :=
 ⟨fun k=>B.kp k∨E k,B.fr,B.mu,fun k h=>.inl (B.sub k h),fun k h=>h.elim (B.dis k) fun h=>by
  cases hm:B.mu k with
  |none=>rfl
  |some g=>exact absurd (.inr (by rw[hm];simp)) (hE k h)⟩
def jiu (B:Kd) (E:Nat→Prop) (hE:∀k,B.fr k→¬E k):Kd :=
 ⟨fun k=>B.kp k∧¬E k,B.fr,B.mu,fun k h=>⟨B.sub k h,hE k h⟩,fun k h=>B.dis k h.1⟩
theorem O.ok_minus {E:Nat→Prop} {hE:∀k,B.fr k→¬E k} {x:Nat} (hn:∀k,¬B.all k→¬(jiu B E hE).all k):∀{o:O},o.ok ρ B w x→jjc o=false→o.ok ρ (jiu B E hE) w x
 | .box _ _,⟨k,h1,h2,h3⟩,_=>⟨k,h1,hn k h2,h3⟩
 | .row _ _,⟨h1,h2⟩,_=>⟨h1,fun k hk=>hn k (h2 k hk)⟩
 | .ext _,_,hd=>by cases hd
 | .view _ _ _,h,_=>h
 | .dead,_,_=>trivial
 | .nan _,h,_=>h
 | .ebox _,_,hd=>by cases hd
 | .arr _ _ _ _,⟨b,h1,h2,h3⟩,_=>⟨b,h1,hn b h2,h3⟩
 | .xext _,_,hd=>by cases hd
 | .map _,⟨b,e,c,h1,h2,h3⟩,_=>⟨b,e,c,h1,hn b h2,h3⟩
 | .rrow _,⟨h1,h2⟩,_=>⟨h1,fun k hk=>⟨hn k (h2 k hk).1,(h2 k hk).2⟩⟩
 | .fext _,h,_=>h
 | .xrow _ _,⟨us,h1,h2,h3⟩,_=>⟨us,h1,h2,fun k hk=>hn k (h3 k hk)⟩
 | .mrow _ _ _ _,⟨us,h1,h2,h3,h4⟩,_=>⟨us,h1,fun i j a b c=>let ⟨u,p,q⟩:=h2 i j a b c; ⟨u,p,NC.own_mono (B:=B) (B':=jiu B E hE) (fun _ _ h=>h) q⟩,h3,fun k hk=>hn k (h4 k hk)⟩
 | .sub _ _ _ _ _ _,h,_=>h
 | .lbox _ _ _ _,⟨h1,h2⟩,_=>⟨h1,fun k hk=>hn k (h2 k hk)⟩
 | .lview _ _ _ _,h,_=>h
 | .elist _ _ _,_,hd=>by cases hd
 | .err,h,_=>h
 | .atom,h,_=>h
theorem jv4 {o:O} {x:Nat} (hd:jjc o=true) (hb:Bel B.kp w w') (hs:∀k,B.kp k→B2.kp k) (h:o.ok ρ B w x):o.ok ρ B2 w' x:=by
 cases o with
 |ext c=>exact⟨h.1.below hb h.2,jaO hs h.2⟩
 |ebox cs =>
  obtain⟨k,o,h1,h2,h3⟩:=h;exact⟨k,o,h1,hs k h2,fun j c hj=>(hb.cell (p:=⟨k,o+j,none⟩) h2).trans (h3 j c hj)⟩
 |xext X=>exact(IsX.bel h hb).mono hs
 |elist e n cs =>
  obtain⟨⟨q,cap,h0,h1,h2⟩,h3,h4,h5⟩:=h;refine⟨⟨q,cap,h0,h1,h2⟩,jaO hs h3,h4,fun m c hc=>?_⟩
  have hn:0<n:=by
   rcases Nat.eq_zero_or_pos n with e0|e0
   ·subst e0;rw[Nat.zero_mul]at h4;rw[List.length_eq_zero_iff.1 h4]at hc;cases hc
   ·exact e0
  obtain⟨b,off,rfl⟩:=h2 hn;have hB:=h3 _ _ _ h0 hn;refine(hb.cell ?_).trans (h5 m c hc);rw[h0];exact hB
 |_=>cases hd
theorem jzt {o:O} {x:Nat} (ho:jeS o=true) (hw:∀k,o.blk (ρ x)=some k→w'.heap[k]?=w.heap[k]?) (hB:∀k,o.blk (ρ x)=some k→¬B2.all k) (h:o.ok ρ B w x):o.ok ρ B2 w' x:=by
 have own:∀{ty e n:Nat} {v:Value} {cs:List Value},(∀k,v.ownBlock=some k→w'.heap[k]?=w.heap[k]?)→w.ownsRow 0 ty e v n cs→w'.ownsRow 0 ty e v n cs:=fun hw hr=>by
  refine⟨hr.1,?_⟩;rcases hr.2 with hn|⟨g,cap,cur,h1,h2,h3,h4⟩
  ·exact .inl hn
  ·exact .inr ⟨g,cap,cur,h1,h2,(hw g (by rw[h1];rfl)).trans h3,h4⟩
 cases o with
 |row ty c=>exact⟨own (fun k hk=>hw k hk) h.1,fun k hk=>hB k hk⟩
 |box ty cs=>obtain⟨k,h1,h2,h3⟩:=h;exact⟨k,h1,hB k (by simp[O.blk,h1,base]),(hw k (by simp[O.blk,h1,base])).trans h3⟩
 |lbox ty e n cs=>exact⟨own (fun k hk=>hw k hk) h.1,fun k hk=>hB k hk⟩
 |arr ty k e r=>obtain⟨g,h1,h2,h3⟩:=h;exact⟨g,h1,hB g (by simp[O.blk,h1,base]),(hw g (by simp[O.blk,h1,base])).trans h3⟩
 |_=>cases ho
def jdJ (st0:St) (T:List Rec) (D:Nat→Bool) (ρ:Env) (n k:Nat):Prop:=∃x ob,n≤x∧find (jan D st0 T) x=some ob∧ob.blk (ρ x)=some k
theorem jpJ (h:At (n0:=n0) P sp N L tab st0 D D' later r tr o) (hk:r.kd=2) (hns:jaw o.op=false) (hnl:jaE o.op=false) {lf mk:Bool} (hf:ja3 tab tr.length lf mk 0 L=true) :
  ∀l1 rk l2 ok,later=l1++rk::l2→RecOK P sp N L tab st0 (l2++r::tr) rk ok→D (l2++r::tr).length=true→rk.kd≠2∧rk.nw.all (fun x=>jeS x.2)=true∧(mk=false→rk.nw=[]):=by
 intro l1 rk l2 ok e hr hD;have hlt:tr.length<(l2++r::tr).length:=by simp;omega
 have hk2:rk.kd≠2:=fun hk2=>by
  rw[jvl h hns hnl l1 rk l2 ok e hr hk2]at hD;cases hD
 refine⟨hk2,?_⟩;have mkr:jaw ok.op=false→jaE ok.op=false→mk=true∧jjb ok.op=true∧tr.length∉tab.getD (l2++r::tr).length []:=fun h1 h2=>jv3 hr.op h1 h2 h.low h.tabok h.closed h.out hlt hf hD;cases hr.kind with
 |skip g e=>rw[e];exact⟨rfl,fun _=>rfl⟩
 |pure g ob hs ho hk e=>rw[e];exact⟨rfl,fun _=>rfl⟩
 |built g hb0 ob hs ho hk e=>rw[e];exact⟨rfl,fun _=>rfl⟩
 |load g hp hl x xo hx hf hb hst ob hs ho hk e=>rw[e];exact⟨rfl,fun _=>rfl⟩
 |mono g hp hl hm res hs ho hk hnk e =>
  have hlm:=mkr hp hl;rw[e];refine⟨?_,fun hc=>by rw[hlm.1]at hc;cases hc⟩;unfold jon at hnk;split at hnk
  ·rename_i hal;exact absurd (jjj ‹r.kd=2› hal) hlm.2.2
  ·exact hnk
 |mload g hp hl hmk hal hm res hs ho hk e =>
  have h1:=jjj ‹r.kd=2› hal;have:=jcP h.tabok h.closed _ tr.length (fun o' ho' e he hb=>h.closed _ o' ho' hD e he hb) h1;rw[h.out]at this;cases this
 |effect g hp hl hmo mk hf res hs ho hk hmk e=>exact absurd (by rw[e]) hk2
theorem jsm (h:At (n0:=n0) P sp N L tab st0 D D' later r tr o) (hk:r.kd=2) (hns:jaw o.op=false) (hnl:jaE o.op=false) {lf mk:Bool} (hf:ja3 tab tr.length lf mk 0 L=true) (hkey:∀x ob,find r.hp x=some ob→x<r.nx) (x:Nat) :
  (x<r.nx→find (jan D st0 (later++r::tr)) x=find (jam st0 tr) x)∧(x<r.nx→find (jan D' st0 (later++r::tr)) x=find r.hp x) ∧
   (r.nx≤x→find (jan D' st0 (later++r::tr)) x=find (jan D st0 (later++r::tr)) x∧∀ob,find (jan D st0 (later++r::tr)) x=some ob→jeS ob=true):=by
 have e1:jan D st0 (r::tr)=jam st0 tr:=by
  simp only[jan,h.out,Bool.false_eq_true,if_false];exact(jfn (jhu h hf) (jhv h hns hnl (jbC h.ok hk).2.2.2) h.gt (Nat.le_refl _)).1
 have e2:jan D' st0 (r::tr)=r.hp:=by simp only[jan,h.D1,hk,if_true]
 have hm:=jmE (D:=D) (tr:=r::tr) (later:=later) (fun l1 rk l2 ok e hr hD=>let q:=jpJ h hk hns hnl hf l1 rk l2 ok e hr hD; ⟨q.1,q.2.1⟩) h.good x;have hD':∀j,(r::tr).length≤j→D' j=D j:=fun j hj=>h.D2 j (by simp at hj;omega)
 have hk1:∀ob,find (jan D st0 (r::tr)) x=some ob→x<r.nx:=fun ob hf=>by
  rw[e1]at hf;exact Nat.lt_of_lt_of_le (keys h.gt h.base x ob hf).1 h.ok.nx_le
 have hk2:∀ob,find (jan D' st0 (r::tr)) x=some ob→x<r.nx:=fun ob hf=>by
  rw[e2]at hf;exact hkey x ob hf
 refine⟨fun hx=>by rw[←e1];exact hm.1 hx,fun hx=>by rw[←e2];exact hm.2.2.2 hx D' hD',fun hx=>⟨hm.2.2.1 D' hD' hx hk1 hk2,fun ob hob=>hm.2.1 ob hob hx hk1⟩⟩
theorem jdR (hinv:Inv ds L st0 B0 B N n0 ρ0 w0 (later++r::tr) D a w ρ):∀k,jdJ st0 (later++r::tr) D ρ r.nx k→¬B.all k:=fun k ⟨x,ob,_,hf,hb⟩=>(O.blk_lt (hinv.heap.ok x ob hf).2.2 hb).2
theorem jzu (h:At (n0:=n0) P sp N L tab st0 D D' later r tr o) (hinv:Inv ds L st0 B0 B N n0 ρ0 w0 (later++r::tr) D a w ρ) (hk:r.kd=2) (hns:jaw o.op=false) (hnl:jaE o.op=false) {lf mk:Bool} (hf:ja3 tab tr.length lf mk 0 L=true) (hkey:∀x ob,find r.hp x=some ob→x<r.nx) :
  HRel ρ (jor B (jdJ st0 (later++r::tr) D ρ r.nx) (jdR hinv)) (jam st0 tr) (jab st0 tr) w∧Old (jor B (jdJ st0 (later++r::tr) D ρ r.nx) (jdR hinv)) w:=by
 have at1:∀x ob,find (jam st0 tr) x=some ob→find (jan D st0 (later++r::tr)) x=some ob:=fun x ob hx=>by
  rw[(jsm h hk hns hnl hf hkey x).1 (Nat.lt_of_lt_of_le (keys h.gt h.base x ob hx).1 h.ok.nx_le)];exact hx
 constructor
 ·refine⟨fun x ob hx=>⟨(keys h.gt h.base x ob hx).1,(keys h.gt h.base x ob hx).2,?_⟩,fun x ob x' ob' k hx hx'=>hinv.heap.apart x ob x' ob' k (at1 x ob hx) (at1 x' ob' hx'),hinv.heap.glob.sub fun k hk=>.inl hk⟩;have h1:=(hinv.heap.ok x ob (at1 x ob hx)).2.2;refine O.ok_moreB (B2:=jor B (jdJ st0 (later++r::tr) D ρ r.nx) (jdR hinv)) ⟨fun k hk=>.inl hk,fun k hk=>hk⟩ (fun k g hg=>hg) h1 fun k hk' hc=>?_;have h2:=O.blk_lt h1 hk';rcases hc with (hc|⟨x',ob',hx',hf',hb'⟩)|hc
  ·exact h2.2 (.inl hc)
  ·refine hinv.heap.apart x ob x' ob' k (at1 x ob hx) hf' (fun e=>?_) hk' hb';have:=(keys h.gt h.base x ob hx).1;have:=h.ok.nx_le;omega
  ·exact h2.2 (.inr hc)
 ·intro k hc;rcases hc with (hc|⟨x',ob',hx',hf',hb'⟩)|hc
  ·exact hinv.le k (.inl hc)
  ·exact(O.blk_lt (hinv.heap.ok x' ob' hf').2.2 hb').1
  ·exact hinv.le k (.inr hc)
theorem juc {B3:Kd} (h:At (n0:=n0) P sp N L tab st0 D D' later r tr o) (hinv:Inv ds L st0 B0 B N n0 ρ0 w0 (later++r::tr) D a w ρ) (hk:r.kd=2) (hns:jaw o.op=false) (hnl:jaE o.op=false) {lf mk:Bool} (hf:ja3 tab tr.length lf mk 0 L=true)
  (hv:r.v.allB (fun x=>Nat.blt x r.nx&&(Nat.ble (jab st0 tr) x||jar (fun j=>(tab.getD tr.length []).contains j) st0 tr x))=true)
  (hnw:∀x ob,find r.hp x=some ob→x<r.nx∧ob.allB (fun x=>Nat.blt x r.nx&&(Nat.ble (jab st0 tr) x||jar (fun j=>(tab.getD tr.length []).contains j) st0 tr x))=true)
  (hdep:∀x ob,find r.hp x=some ob→jjc ob=true→find (jam st0 tr) x=some ob)
  (hag:jae (jab st0 tr) ρ ρ') (hbl:Bel (jor B (jdJ st0 (later++r::tr) D ρ r.nx) (jdR hinv)).kp w w') (g:Grow (jor B (jdJ st0 (later++r::tr) D ρ r.nx) (jdR hinv)) B3 false w w') (hnew:HRel ρ' B3 r.hp r.nx w') :
  ∃B2,Inv ds L st0 B0 B2 N n0 ρ0 w0 (later++r::tr) D' (a.put o.dst (r.v.val (jbX ρ ρ' (jab st0 tr) r.nx))) w' (jbX ρ ρ' (jab st0 tr) r.nx):=by
 have hkey:∀x ob,find r.hp x=some ob→x<r.nx:=fun x ob hx=>(hnw x ob hx).1;have hps:=jsm h hk hns hnl hf hkey;have hq:∀j,(tab.getD tr.length []).contains j=true→D' j=true:=fun j hj=>h.mono j (h.bef j (by simpa using hj));have hv':r.v.allB (jaS st0 (later++r::tr) D')=true:=V.allB_mono (fun x hx=>h.alive_new hq hx) hv;have hE1:∀x,jaS st0 (later++r::tr) D x=true→jbX ρ ρ' (jab st0 tr) r.nx x=ρ x:=fun x hx=>jjk h hx;have hE2:jae r.nx ρ' (jbX ρ ρ' (jab st0 tr) r.nx):=jdQ hag
 have hE3:∀k,B3.fr k→¬jdJ st0 (later++r::tr) D ρ r.nx k:=fun k hfr hc=>by
  rcases g.out k hfr with h1|h1
  ·exact jdR hinv k hc (.inl (B.sub k h1))
  ·exact h1 (.inr hc)
 have hbB:Bel B.kp w w':=hbl.mono fun k hk=>.inl hk;have hbl0:Bel B0 w w':=hbB.mono hinv.gr.le.kp
 have g':Grow B (jiu B3 (jdJ st0 (later++r::tr) D ρ r.nx) hE3) false w w':=by
  refine⟨⟨fun k hk=>⟨g.le.kp k (.inl hk),fun hc=>jdR hinv k hc (.inl hk)⟩,fun k hk=>g.le.fr k hk⟩,fun k hk=>?_,fun k hk=>?_,fun hc=>by cases hc⟩
  ·have h3:B3.all k:=hk.elim (fun hk=>.inl hk.1) .inr;rcases g.new k h3 with ((h4|⟨x',ob',hx',hf',hb'⟩)|h4)|h4
   ·exact .inl (.inl h4)
   ·exact .inr (Nat.lt_of_lt_of_le (O.blk_lt (hinv.heap.ok x' ob' hf').2.2 hb').1 hbl.size)
   ·exact .inl (.inr h4)
   ·exact .inr h4
  ·rcases g.out k hk with h4|h4
   ·exact .inl h4
   ·exact .inr fun hc=>h4 (.inl hc)
 have hnew':=hnew.agree hE2;have hn:∀k,¬B3.all k→¬(jiu B3 (jdJ st0 (later++r::tr) D ρ r.nx) hE3).all k:=fun k hk hc=>hk (hc.elim (fun hc=>.inl hc.1) .inr)
 have lateB:∀x ob k,r.nx≤x→find (jan D st0 (later++r::tr)) x=some ob→ob.blk (jbX ρ ρ' (jab st0 tr) r.nx x)=some k→jdJ st0 (later++r::tr) D ρ r.nx k:=fun x ob k hx hfx hb=>by
  rw[hE1 x (hinv.hal x ob hfx).1]at hb;exact⟨x,ob,hx,hfx,hb⟩
 refine⟨jiu B3 (jdJ st0 (later++r::tr) D ρ r.nx) hE3,jlY h.slots h.tabok h.closed h.out h.ok.op h.ok.dst h.D1 h.D2 hinv hE1 hv',by rw[jbu];exact hinv.size,by rw[jcM];exact hinv.defers,⟨?_,?_,(hinv.heap.glob.bel hbB).sub g'.le.kp⟩,?_,g'.old (hbB.old hinv.le),jkS h.n0le hinv.agree,hinv.below.trans hbl0,jjl h hinv hE1 (fun x h1 h2 h3=>by rw[hE2 x h2];exact C.one_val (c:=.o x) hnew h3),(hinv.gr.trans g' (Nat.le_refl _) hbl.size).weak,hbl0.old hinv.le0⟩
 ·intro x ob hfx
  by_cases hx:x<r.nx
  ·rw[(hps x).2.1 hx]at hfx;have h1:=hnew'.ok x ob hfx;refine⟨Nat.lt_of_lt_of_le h1.1 h.nx,O.lt_mono h.nx h1.2.1,?_⟩;cases hd:jjc ob with
   |false=>exact O.ok_minus hn h1.2.2 hd
   |true =>
    have h2:=hdep x ob hfx hd;rw[←(hps x).1 hx]at h2;have h3:=hinv.hal x ob h2;exact O.ok_eqB hE1 (hE1 x h3.1) h3.2 (jv4 hd hbB g'.le.kp (hinv.heap.ok x ob h2).2.2)
  ·have hx:r.nx≤x:=by omega
   rw[((hps x).2.2 hx).1]at hfx;have h1:=hinv.heap.ok x ob hfx;have h3:=hinv.hal x ob hfx;refine⟨h1.1,h1.2.1,O.ok_eqB hE1 (hE1 x h3.1) h3.2 (jzt (((hps x).2.2 hx).2 ob hfx) (fun k hb=>hbl.block k (.inr ⟨x,ob,hx,hfx,hb⟩)) (fun k hb hc=>?_) h1.2.2)⟩;have hl:jdJ st0 (later++r::tr) D ρ r.nx k:=⟨x,ob,hx,hfx,hb⟩
   rcases hc with hc|hc
   ·exact hc.2 hl
   ·exact hc (B3.dis k (g.le.kp k (.inr hl)))
 ·intro x ob x' ob' k hfx hfx' hne hb
  by_cases hx:x<r.nx
  ·rw[(hps x).2.1 hx]at hfx
   by_cases hx':x'<r.nx
   ·rw[(hps x').2.1 hx']at hfx';exact hnew'.apart x ob x' ob' k hfx hfx' hne hb
   ·have hx':r.nx≤x':=by omega
    rw[((hps x').2.2 hx').1]at hfx';intro hb';exact(O.blk_lt (hnew'.ok x ob hfx).2.2 hb).2 (.inl (g.le.kp k (.inr (lateB x' ob' k hx' hfx' hb'))))
  ·have hx:r.nx≤x:=by omega
   rw[((hps x).2.2 hx).1]at hfx
   by_cases hx':x'<r.nx
   ·rw[(hps x').2.1 hx']at hfx';intro hb';exact(O.blk_lt (hnew'.ok x' ob' hfx').2.2 hb').2 (.inl (g.le.kp k (.inr (lateB x ob k hx hfx hb))))
   ·have hx':r.nx≤x':=by omega
    rw[((hps x').2.2 hx').1]at hfx';rw[hE1 x (hinv.hal x ob hfx).1]at hb;rw[hE1 x' (hinv.hal x' ob' hfx').1];exact hinv.heap.apart x ob x' ob' k hfx hfx' hne hb
 ·intro x ob hfx
  by_cases hx:x<r.nx
  ·rw[(hps x).2.1 hx]at hfx;refine⟨h.alive_new (q:=D) h.mono ?_,O.allB_mono (fun y hy=>h.alive_new hq hy) (hnw x ob hfx).2⟩;simp only[Bool.and_eq_true,Nat.blt_eq,Bool.or_eq_true];refine⟨hx,?_⟩
   by_cases hle:jab st0 tr≤x
   ·exact .inl (Nat.ble_eq_true_of_le hle)
   ·exact .inr ((jfn (jhu h hf) (jhv h hns hnl (jbC h.ok hk).2.2.2) h.gt (Nat.le_refl _)).2 x (by omega))
  ·have hx:r.nx≤x:=by omega
   rw[((hps x).2.2 hx).1]at hfx;have:=hinv.hal x ob hfx;exact⟨h.alive_mono this.1,O.allB_mono (fun y hy=>h.alive_mono hy) this.2⟩
theorem jv5 (h:At (n0:=n0) P sp N L tab st0 D D' later r tr o) (hinv:Inv ds L st0 B0 B N n0 ρ0 w0 (later++r::tr) D a w ρ) (hk:r.kd=2) (hns:jaw o.op=false) (hnl:jaE o.op=false) {lf:Bool} (hf:ja3 tab tr.length lf false 0 L=true)
  (hv:r.v.allB (fun x=>Nat.blt x r.nx&&(Nat.ble (jab st0 tr) x||jar (fun j=>(tab.getD tr.length []).contains j) st0 tr x))=true)
  (hnw:∀x ob,find r.hp x=some ob→ob.allB (fun x=>Nat.blt x r.nx&&(Nat.ble (jab st0 tr) x||jar (fun j=>(tab.getD tr.length []).contains j) st0 tr x))=true)
  (hag:jae (jab st0 tr) ρ ρ') (hbl:Bel B w w') (g:Grow B B2 false w w') (hnew:HRel ρ' B2 r.hp r.nx w') :
  Inv ds L st0 B0 B2 N n0 ρ0 w0 (later++r::tr) D' (a.put o.dst (r.v.val (jbX ρ ρ' (jab st0 tr) r.nx))) w' (jbX ρ ρ' (jab st0 tr) r.nx):=by
 have hbl0:Bel B0 w w':=hbl.mono hinv.gr.le.kp;have hq:∀j,(tab.getD tr.length []).contains j=true→D' j=true:=fun j hj=>h.mono j (h.bef j (by simpa using hj));have hv':r.v.allB (jaS st0 (later++r::tr) D')=true:=V.allB_mono (fun x hx=>h.alive_new hq hx) hv;have hE1:∀x,jaS st0 (later++r::tr) D x=true→jbX ρ ρ' (jab st0 tr) r.nx x=ρ x:=fun x hx=>jjk h hx;have hE2:jae r.nx ρ' (jbX ρ ρ' (jab st0 tr) r.nx):=jdQ hag
 have hall:∀l1 rk l2 ok,later=l1++rk::l2→RecOK P sp N L tab st0 (l2++r::tr) rk ok→D' (l2++r::tr).length=true→rk.kd≠2∧rk.nw=[]:=fun l1 rk l2 ok e hr hD=>by
  rw[h.D2 _ (by simp;omega)]at hD;have q:=jpJ h hk hns hnl hf l1 rk l2 ok e hr hD;exact⟨q.1,q.2.2 rfl⟩
 have hbefore:=jhu h hf
 have hhp:jan D' st0 (later++r::tr)=r.hp:=by
  rw[jji (tr:=r::tr) hall h.good];simp only[jan,h.D1,hk,if_true]
 have hnew':=hnew.agree hE2;refine⟨jlY h.slots h.tabok h.closed h.out h.ok.op h.ok.dst h.D1 h.D2 hinv hE1 hv',by rw[jbu];exact hinv.size,by rw[jcM];exact hinv.defers,by rw[hhp];exact hnew'.mono_nx h.nx,?_,g.old (hbl.old hinv.le),jkS h.n0le hinv.agree,hinv.below.trans hbl0,jjl h hinv hE1 (fun x h1 h2 h3=>by rw[hE2 x h2];exact C.one_val (c:=.o x) hnew h3),(hinv.gr.trans g (Nat.le_refl _) hbl.size).weak,hbl0.old hinv.le0⟩;intro x ob hf;rw[hhp]at hf;refine⟨h.alive_new (q:=D) h.mono ?_,O.allB_mono (fun y hy=>h.alive_new hq hy) (hnw x ob hf)⟩;have h1:=(hnew.ok x ob hf).1;simp only[Bool.and_eq_true,Nat.blt_eq,Bool.or_eq_true];refine⟨h1,?_⟩
 by_cases hle:jab st0 tr≤x
 ·exact .inl (Nat.ble_eq_true_of_le hle)
 ·exact .inr ((jfn hbefore (jhv h hns hnl (jbC h.ok hk).2.2.2) h.gt (Nat.le_refl _)).2 x (by omega))
theorem jsn (h:At (n0:=n0) P sp N L tab st0 D D' later r tr o) (hinv:Inv ds L st0 B0 B N n0 ρ0 w0 (later++r::tr) D a w ρ) (hno:jeo P sp N L tab st0 D later (r::tr)):HRel ρ B (jdk (tab.getD tr.length []) st0 tr) (jab st0 tr) w:=by
 have key:∀x ob,find (jdk (tab.getD tr.length []) st0 tr) x=some ob→find (jan D st0 (later++r::tr)) x=some ob∧x<jab st0 tr∧ob.lt (jab st0 tr):=by
  intro x ob hf
  have sub:find (jam st0 tr) x=some ob∧(find (jam st0 tr) x=some ob→find (jan D st0 tr) x=some ob):=by
   unfold jdk at hf;split at hf
   ·rename_i hal;rw[jfm (p:=fun x=>jar (fun j=>(tab.getD tr.length []).contains j) st0 tr x)]at hf;split at hf
    ·rename_i hb;exact⟨hf,fun hf=>jBd h.base h.bef h.gt hal (Nat.le_refl _) x ob hf hb⟩
    ·cases hf
   ·rw[jfm (p:=fun x=>jar (fun j=>(tab.getD tr.length []).contains j) st0 tr x&&jbv st0 (tab.getD tr.length []) x tr)]at hf;split at hf
    ·rename_i hb;simp only[Bool.and_eq_true]at hb;exact⟨hf,fun hf=>jvk h.low h.base h.bef h.gt hf hb.1 hb.2⟩
    ·cases hf
  have hf:=sub.1
  ·have h1:=keys h.gt h.base x ob hf;refine⟨?_,h1⟩;have h2:=sub.2 hf;rw[jqq (tr:=r::tr) (show x<r.nx from Nat.lt_of_lt_of_le h1.1 h.ok.nx_le) hno h.good];simp only[jan,h.out,Bool.false_eq_true,if_false];exact h2
 exact⟨fun x ob hf=>⟨(key x ob hf).2.1,(key x ob hf).2.2,(hinv.heap.ok x ob (key x ob hf).1).2.2⟩,
  fun x ob x' ob' k hf hf'=>hinv.heap.apart x ob x' ob' k (key x ob hf).1 (key x' ob' hf').1,hinv.heap.glob⟩
theorem jxQ (h:At (n0:=n0) P sp N L tab st0 D D' later r tr o) (hk:r.kd=2) (hinv:Inv ds L st0 B0 B N n0 ρ0 w0 (later++r::tr) D a w ρ) (hns:jaw o.op=false) (hnl:jaE o.op=false) {lf:Bool} (hf:ja3 tab tr.length lf false 0 L=true):HRel ρ B (jam st0 tr) (jab st0 tr) w:=by
 have hbefore:=jhu h hf
 have hall:∀l1 rk l2 ok,later=l1++rk::l2→RecOK P sp N L tab st0 (l2++r::tr) rk ok→D (l2++r::tr).length=true→rk.kd≠2∧rk.nw=[]:=fun l1 rk l2 ok e hr hD=>by
  have q:=jpJ h hk hns hnl hf l1 rk l2 ok e hr hD;exact⟨q.1,q.2.2 rfl⟩
 have e:jan D st0 (later++r::tr)=jam st0 tr:=by
  rw[jji (tr:=r::tr) hall h.good];simp only[jan,h.out,Bool.false_eq_true,if_false];exact(jfn hbefore (jhv h hns hnl (jbC h.ok hk).2.2.2) h.gt (Nat.le_refl _)).1
 have h1:=hinv.heap;rw[e]at h1;exact⟨fun x ob hf=>⟨(keys h.gt h.base x ob hf).1,(keys h.gt h.base x ob hf).2,(h1.ok x ob hf).2.2⟩,h1.apart,h1.glob⟩
theorem jBI (hsp:jac P sp) (h:At (n0:=n0) P sp N L tab st0 D D' later r tr o) (hinv:Inv ds L st0 B0 B N n0 ρ0 w0 (later++r::tr) D a w ρ) {K:Act→World→Prop} {Q:Exit→Act→World→Prop}
  (hK:∀ρ' a' w' B2,Inv ds L st0 B0 B2 N n0 ρ0 w0 (later++r::tr) D' a' w' ρ'→K a' w'):wpOp P L.toArray Q tr.length K a w:=by
 have hgt:=h.gt;have hreads:=jzs h.good h.slots h.tabok h.closed h.out h.ok.op h.bef h.baseTm hinv;have ho:L.toArray[tr.length]?=some o:=by simpa using h.ok.op
 unfold wpOp;rw[ho];dsimp only;cases h.ok.kind with
 |skip g e =>
  rw[jdm h.slots h.tabok h.closed h.out h.ok.op h.bef hinv g];refine hK ρ _ _ B ?_;have:=jjm h hinv (by rw[e];exact(by decide:(0:Nat)≠2)) (by rw[e]) (by rw[e]) (by rw[e];rfl);rw[show r.v.val ρ=undef by rw[e];rfl]at this;exact this
 |pure g ob hs ob' hk e =>
  rw[jdm h.slots h.tabok h.closed h.out h.ok.op h.bef hinv g];left;have hh:HRel ρ B [] (jab st0 tr) w:=⟨(fun _ _ hf=>by cases hf),(fun _ _ _ _ _ hf=>by cases hf),hinv.heap.glob⟩
  have hrun:=jfx hh hreads hs ob';unfold Oper.wp;rw[hrun.1];refine hK ρ _ _ B (jjm h hinv (by rw[e];exact(by decide:(0:Nat)≠2)) (by rw[e]) (by rw[e]) ?_);have:=jng hk;have e2:r.nx=jab st0 tr:=by rw[e]
  rw[e2];exact this
 |built g hbo ob hs ob' hk e =>
  rw[jdm h.slots h.tabok h.closed h.out h.ok.op h.bef hinv g];left
  have hfo:∀x ob,find (jfE (tab.getD tr.length []) st0 tr) x=some ob→ob=.atom∧x<jab st0 tr∧jar (fun j=>(tab.getD tr.length []).contains j) st0 tr x=true∧jbT st0 tr x=true:=by
   intro x ob hf;unfold jfE at hf;rw[joq]at hf;cases hy:find ((jam st0 tr).filter fun x=>jar (fun j=>(tab.getD tr.length []).contains j) st0 tr x.1&&jbT st0 tr x.1) x with
   |none=>rw[hy]at hf;cases hf
   |some y =>
    rw[hy]at hf;cases hf;rw[jfm (p:=fun x=>jar (fun j=>(tab.getD tr.length []).contains j) st0 tr x&&jbT st0 tr x)]at hy;split at hy
    ·rename_i hp;simp only[Bool.and_eq_true]at hp;exact⟨rfl,(keys h.gt h.base x y hy).1,hp.1,hp.2⟩
    ·cases hy
  have hh:HRel ρ B (jfE (tab.getD tr.length []) st0 tr) (jab st0 tr) w:=by
   refine⟨fun x ob hf=>?_,fun x ob x' ob' k hf hf' _ hb=>?_,hinv.heap.glob⟩
   ·obtain⟨rfl,h1,h2,h3⟩:=hfo x ob hf;refine⟨h1,trivial,?_⟩;have e1:later++r::tr=(later++[r])++tr:=by simp
    refine hinv.one x ?_ ?_
    ·simp only[jaS,Bool.and_eq_true,Nat.blt_eq];refine⟨Nat.lt_of_lt_of_le h1 (Nat.le_trans h.ok.nx_le h.nx),?_⟩;rw[e1,jjf (by rw[←e1];exact h.good) h1];exact jfF (fun j hj=>h.bef j (by simpa using hj)) _ _ h2
    ·rw[e1,jjV (by rw[←e1];exact h.good) h1];exact h3
   ·obtain⟨rfl,_⟩:=hfo x ob hf;cases hb
  have hrun:=jfx hh hreads hs ob';unfold Oper.wp;rw[hrun.1];refine hK ρ _ _ B (jjm h hinv (by rw[e];exact(by decide:(0:Nat)≠2)) (by rw[e]) (by rw[e]) ?_);have:=jng hk;have e2:r.nx=jab st0 tr:=by rw[e]
  rw[e2];exact this
 |load g hp hl x xo hx hf hb hst ob hs ob' hk e =>
  rw[jdm h.slots h.tabok h.closed h.out h.ok.op h.bef hinv g];left;have hxl:=(keys h.gt h.base x xo hf).1;have hin:=jvk h.low h.base h.bef h.gt hf hb hst;have htl:=(jqp h.ok.op hl hp hx hf (by rw[e]) h.low h.tabok h.closed h.out hxl hin h.good).1;have hok:=hinv.heap.ok x xo htl
  have hh:HRel ρ B [(x,xo)] (jab st0 tr) w:=by
   refine⟨fun y oy hy=>?_,fun y oy y' oy' k hy hy' hne hby=>?_,hinv.heap.glob⟩
   ·simp only[find]at hy;split at hy
    ·rename_i e1;subst e1;cases hy;exact⟨hxl,(keys h.gt h.base x xo hf).2,hok.2.2⟩
    ·cases hy
   ·simp only[find]at hy hy';split at hy
    ·rename_i e1;subst e1;rw[if_neg hne]at hy';cases hy'
    ·cases hy
  have hrun:=jfx hh hreads hs ob';unfold Oper.wp;rw[hrun.1];refine hK ρ _ _ B (jjm h hinv (by rw[e];exact(by decide:(0:Nat)≠2)) (by rw[e]) (by rw[e]) ?_);have:=jng hk;have e2:r.nx=jab st0 tr:=by rw[e]
  rw[e2];exact this
 |mono g hp hnl hm res hs ob hk hnk e =>
  have hno:=jvl h hp hnl;rw[jdm h.slots h.tabok h.closed h.out h.ok.op h.bef hinv g];left;have hsnd:=jdq hsp (jsn h hinv hno) hinv.le hreads hs ob;rw[hm]at hsnd;refine hsnd K Q fun ρ' w' hl=>?_;have ev:r.v=res.v:=by rw[e]
  have en:r.nw=jaT (jab st0 tr) res.hp:=by rw[e]
  have ex:r.nx=res.nx:=by rw[e]
  have hsub:∀x ob,find r.nw x=some ob→find res.hp x=some ob∧jab st0 tr≤x:=fun x ob hf=>by
   rw[en,jht]at hf;split at hf
   ·rename_i hle;exact⟨hf,by simpa [Nat.ble_eq]using hle⟩
   ·cases hf
  obtain⟨B2,g,hhB⟩:=hl.heap
  have:=jsl h hinv hno (by rw[e];exact(by decide:(1:Nat)≠2)) (by rw[ev,ex];exact jng hk) (fun x ob hf=>by rw[ex];rw[en]at hf;exact(jgl hk hf).2) hl.agree hl.below (hl.mono rfl) g
   (by rw[ex];exact hhB.sub fun k o hf=>(hsub k o hf).1) (fun x ob k hf hb=>hl.fresh rfl x ob k (hsub x ob hf).2 (hsub x ob hf).1 hb)
  have e3:res.v.val ρ'=r.v.val (jbX ρ ρ' (jab st0 tr) r.nx):=by
   rw[ev];exact(V.val_agree (jdQ hl.agree) (by rw[ex];exact hl.lt)).symm
  rw[e3];exact hK _ _ _ _ this
 |mload g hp hnl hmk hal hm res hs ob hk e =>
  have hno:=jBe h hmk;rw[jdm h.slots h.tabok h.closed h.out h.ok.op h.bef hinv g];left;have hsnd:=jdq hsp (jsn h hinv hno) hinv.le hreads hs ob;rw[hm]at hsnd;refine hsnd K Q fun ρ' w' hl=>?_;have ev:r.v=res.v:=by rw[e]
  have en:r.nw=jaT (jab st0 tr) res.hp:=by rw[e]
  have ex:r.nx=res.nx:=by rw[e]
  have hsub:∀x ob,find r.nw x=some ob→find res.hp x=some ob∧jab st0 tr≤x:=fun x ob hf=>by
   rw[en,jht]at hf;split at hf
   ·rename_i hle;exact⟨hf,by simpa [Nat.ble_eq]using hle⟩
   ·cases hf
  obtain⟨B2,g,hhB⟩:=hl.heap
  have:=jsl h hinv hno (by rw[e];exact(by decide:(1:Nat)≠2)) (by rw[ev,ex];exact jng hk) (fun x ob hf=>by rw[ex];rw[en]at hf;exact(jgl hk hf).2) hl.agree hl.below (hl.mono rfl) g
   (by rw[ex];exact hhB.sub fun k o hf=>(hsub k o hf).1) (fun x ob k hf hb=>hl.fresh rfl x ob k (hsub x ob hf).2 (hsub x ob hf).1 hb)
  have e3:res.v.val ρ'=r.v.val (jbX ρ ρ' (jab st0 tr) r.nx):=by
   rw[ev];exact(V.val_agree (jdQ hl.agree) (by rw[ex];exact hl.lt)).symm
  rw[e3];exact hK _ _ _ _ this
 |effect g hp hnl hmo mk hf res hs ob hk hmk e =>
  rw[jdm h.slots h.tabok h.closed h.out h.ok.op h.bef hinv g];left;have ev:r.v=res.v:=by rw[e]
  have eh:r.hp=res.hp:=by rw[e]
  have ex:r.nx=res.nx:=by rw[e]
  have ekd:r.kd=2:=by rw[e]
  cases mk with
  |false =>
   have hsnd:=jdq hsp (jxQ h ekd hinv hp hnl hf) hinv.le hreads hs ob;refine hsnd K Q fun ρ' w' hl=>?_;obtain⟨B2,g0,hhB⟩:=hl.heap;have g:=g0.weak (w1:=w);have:=jv5 h hinv ekd hp hnl hf (by rw[ev,ex];exact jng hk) (fun x ob hf=>by rw[ex];rw[eh]at hf;exact(jgl hk hf).2) hl.agree hl.below g (by rw[ex,eh];exact hhB)
   have e3:res.v.val ρ'=r.v.val (jbX ρ ρ' (jab st0 tr) r.nx):=by
    rw[ev];exact(V.val_agree (jdQ hl.agree) (by rw[ex];exact hl.lt)).symm
   rw[e3];exact hK _ _ _ _ this
  |true =>
   have hnw:∀x ob,find r.hp x=some ob→x<r.nx∧ob.allB (fun x=>Nat.blt x r.nx&&(Nat.ble (jab st0 tr) x||jar (fun j=>(tab.getD tr.length []).contains j) st0 tr x))=true:=fun x ob hf=>by rw[ex];rw[eh]at hf;exact jgl hk hf
   have hdep:∀x ob,find r.hp x=some ob→jjc ob=true→find (jam st0 tr) x=some ob:=fun x ob hf hd=>by
    have hmk:jpG (jam st0 tr) (jab st0 tr) (jbB L tab st0 o tr) res.hp=true:=hmk;unfold jpG at hmk;split at hmk
    ·cases hmk
    ·rename_i t ht;have htg:r.tg=some t:=by rw[e];exact ht
     rw[eh]at hf;have h1:=List.all_eq_true.1 hmk _ (jkR hf);simp only[hd,Bool.not_true,Bool.false_or,Bool.and_eq_true,Nat.blt_eq]at h1;obtain⟨⟨h2,h3⟩,h4⟩:=h1;split at h4
     ·rename_i ob' hob;have hne:x≠t:=fun e=>by subst e;simp at h2
      have h5:=(jnh h.ok ekd htg).1 x ob' hne h3 (by cases ob' <;> first|rfl|cases h4) hob;rw[eh,hf]at h5;cases h5;exact hob
     ·cases h4
   have hpl:=jzu h hinv ekd hp hnl hf (fun x ob hf=>(hnw x ob hf).1);have hsnd:=jdq hsp hpl.1 hpl.2 hreads hs ob;refine hsnd K Q fun ρ' w' hl=>?_;obtain⟨B2,g0,hhB⟩:=hl.heap;have g:=g0.weak (w1:=w);obtain⟨B4,this⟩:=juc h hinv ekd hp hnl hf (by rw[ev,ex];exact jng hk) hnw hdep hl.agree hl.below g (by rw[ex,eh];exact hhB)
   have e3:res.v.val ρ'=r.v.val (jbX ρ ρ' (jab st0 tr) r.nx):=by
    rw[ev];exact(V.val_agree (jdQ hl.agree) (by rw[ex];exact hl.lt)).symm
   rw[e3];exact hK _ _ _ _ this
def DL (l:Array Bool) (j:Nat):Bool:=l.getD j false
theorem jv6 {l:Array Bool} {i:Nat} (hc:jcE L (DL l)) (hb:∀o,L[i]?=some o→∀e∈o.after.toList,Region.binds .any e=true→DL l e.on=true):jcE L (DL (l.setIfInBounds i true)):=by
 intro j o ho hD e he hbd
 by_cases hij:j=i
 ·subst hij;exact getD_set_true (hb o ho e he hbd)
 ·unfold DL at hD;rw[getD_set_ne false (Ne.symm hij)]at hD;exact getD_set_true (hc j o ho hD e he hbd)
theorem jos {l:Array Bool} (hl:l.size=L.length) (he:jds 0 L=true) (hr:Region.ready .any L.toArray l=[]):∀j,j<L.length→DL l j=true:=by
 intro j
 induction j using Nat.strongRecOn with
 |_ j ih =>
  intro hj;cases hD:DL l j with
  |true=>rfl
  |false =>
   exfalso
   have hmem:j∈Region.ready .any L.toArray l:=by
    rw[mem_ready];refine⟨?_,L[j],by simp[hj],fun e hem hb=>?_⟩
    ·unfold DL at hD;simp only[Array.getD_eq_getD_getElem?,Array.getElem?_eq_getElem (show j<l.size by omega),Option.getD_some]at hD ⊢;exact hD
    ·have:=jjg he j L[j] (by simp[hj]) e (by simpa using hem) hb;exact ih e.on (by omega) (by omega)
   rw[hr]at hmem;cases hmem
theorem count_set {l:Array Bool} {i:Nat} (hi:i<l.size) (h:l[i]=false):(l.setIfInBounds i true).toList.count false+1=l.toList.count false:=by
 have h1:(l.setIfInBounds i true).toList=l.toList.set i true:=by simp
 rw[h1,List.count_set (by simpa using hi)];have h2:l.toList[i]'(by simpa using hi)=false:=by simpa using h
 have h3:0<l.toList.count false:=List.count_pos_iff.2 (by rw[←h2];exact List.getElem_mem _);rw[show l.toList[i]'(by simpa using hi)=false from h2];simp only[beq_self_eq_true,if_true,show(true==false)=false from rfl,Bool.false_eq_true,if_false];omega
theorem jBJ (hsp:jac P sp) {T:List Rec} (hg:GoodTr P sp N L tab st0 T) (hlen:T.length=L.length) (hs:jcj L tab 0 L=true) (he:jds 0 L=true) (ht:jcO L tab) (hbase:jkO st0)
  (hbt:∀t v,jav st0.tm t=some v→v.lt st0.nx) (hn0:n0≤st0.nx) {Q:Exit→Act→World→Prop}
  (hQ:∀D ρ a w B,(∀j,j<L.length→D j=true)→Inv ds L st0 B0 B N n0 ρ0 w0 T D a w ρ→Q .normal a w) :
  ∀(fuel:Nat) (l:Array Bool) (a:Act) (w:World) (ρ:Env) (B:Kd),l.size=L.length→jcE L (DL l)→l.toList.count false≤fuel→Inv ds L st0 B0 B N n0 ρ0 w0 T (DL l) a w ρ→wpAny P .any L.toArray Q fuel l a w:=by
 intro fuel
 induction fuel with
 |zero =>
  intro l a w ρ B hl hc hcount hinv
  have hall:∀j,j<l.size→l[j]?≠some false:=fun j hj h=>by
   have hm:false∈l.toList:=by rw[Array.mem_toList_iff];exact Array.mem_of_getElem? h
   have:=List.count_pos_iff.2 hm;omega
  have hr:Region.ready .any L.toArray l=[]:=by
   apply List.eq_nil_iff_forall_not_mem.2;intro j hj;obtain⟨h0,o,ho,_⟩:=mem_ready.1 hj
   have hlt:j<l.size:=by
    have:=(Array.getElem?_eq_some_iff.1 ho).1;simp at this;omega
   apply hall j hlt;simp only[Array.getD_eq_getD_getElem?,Array.getElem?_eq_getElem hlt,Option.getD_some]at h0;rw[Array.getElem?_eq_getElem hlt,h0]
  exact⟨hr,hQ _ ρ a w B (jos hl he hr) hinv⟩
 |succ fuel ih =>
  intro l a w ρ B hl hc hcount hinv;refine⟨fun hr=>hQ _ ρ a w B (jos hl he hr) hinv,fun i hi=>?_⟩;obtain⟨h0,o,ho,hed⟩:=mem_ready.1 hi;have ho':L[i]?=some o:=by simpa using ho
  have hiL:i<L.length:=(List.getElem?_eq_some_iff.1 ho').1;have hil:i<l.size:=by omega
  have hlf:l[i]=false:=by simpa [hil]using h0
  have hedge:∀o',L[i]?=some o'→∀e∈o'.after.toList,Region.binds .any e=true→DL l e.on=true:=fun o' ho'' e hem hb=>by
   rw[ho']at ho'';cases ho'';exact hed e (by simpa using hem) hb
  obtain⟨later,r,tr,o2,rfl,htl,hrec⟩:=jBc hg (show i<T.length by omega);subst htl
  have hoo:o2=o:=by
   have:=hrec.op;rw[ho']at this;exact(Option.some.inj this).symm
  subst hoo
  have hat:At (n0:=n0) P sp N L tab st0 (DL l) (DL (l.setIfInBounds tr.length true)) later r tr o2:=by
   refine⟨hg,hlen,hrec,hs,he,ht,hc,?_,fun j hj=>jcP ht hc _ j hedge hj,?_,fun j hj=>?_,hbase,hbt,hn0⟩
   ·unfold DL;simp[hil,hlf]
   ·unfold DL;simp[hil]
   ·unfold DL;exact getD_set_ne false (Ne.symm hj)
  refine jBI hsp hat hinv fun ρ' a' w' B2 hinv'=>?_;have:=count_set hil hlf;exact ih _ a' w' ρ' B2 (by simpa using hl) (jv6 hc hedge) (by omega) hinv'
end
end Go.Sx
end

section
open Go.RowKit
namespace Go.Sx
section
variable [Globs] {P:Program} {sp:jaa} {B:Kd} {N n0:Nat} {L:List Oper} {tab:List (List Nat)} {st0:St} {ρ0:Env} {w0:World} {ds:List Deferred}
theorem jso {D:Nat→Bool} {t:Nat}:∀{T:List Rec},(∀j,j<T.length→D j=true)→jbw L D st0 t T=jav (jdP L st0 T) t
 |[],_=>rfl
 |r::tr,h=>by
  have ih:=jso (D:=D) (t:=t) (T:=tr) (fun j hj=>h j (by simp;omega));simp only[jbw,jdP];rw[h tr.length (by simp)];cases hd:jbJ L tr.length with
  |none=>simp[ih]
  |some d =>
   simp only[jav]
   by_cases e:d=t
   ·simp[e]
   ·simp[e,ih]
theorem jzv {D:Nat→Bool} {T:List Rec} (hg:GoodTr P sp N L tab st0 T):(∀j,j<T.length→D j=true)→jan D st0 T=jam st0 T:=by
 induction hg with
 |nil=>exact fun _=>rfl
 | @cons tr r hgt o hr ih =>
  intro h;have ih:=ih (fun j hj=>h j (by simp;omega));simp only[jan]
  show _=r.hp
  rw[if_pos (h tr.length (by simp))]
  by_cases hk:r.kd=2
  ·rw[if_pos hk]
  ·rw[if_neg hk,ih,(jbW hr hk).1]
theorem jqs (hm:P.follows .mixedOrders=true) (hsp:jac P sp) {ops:Array Oper} {st:St} {k:St→Prop} {ρ:Env} {a:Act} {w:World} {Q:Exit→Act→World→Prop} (hd:jkK P sp N ops st k) (hr:RelD ds ρ B N n0 st a w) (hag:jae n0 ρ0 ρ) (hbl:Bel B w0 w)
  (hK:∀(ρ':Env) (st':St) (a':Act) (w':World),RelD ds ρ' B N n0 st' a' w'→jae n0 ρ0 ρ'→Bel B w0 w'→k st'→Q .normal a' w') :
  wpAny P .any ops Q ops.size (Array.replicate ops.size false) a { w with drawn:=w.drawn+1 }:=by
 unfold jkK at hd;split at hd
 ·rename_i hok;simp only[Bool.and_eq_true]at hok;have htab:jcO ops.toList (jgO ops.toList []):=jvi _ _ [] (by simp) (by intro i k hk;simp[List.getD]at hk);obtain⟨T,hk,hg,hlen⟩:=jqm ops.toList [] _ hd .nil (by simp) (by simp);obtain⟨B1,g1,hh1⟩:=hr.heap;have hB1:Old B1 w:=g1.old hr.le;have hbase:jkO st:=fun x o hf=>⟨(hh1.ok x o hf).1,(hh1.ok x o hf).2.1⟩
  have hbt:∀t v,jav st.tm t=some v→v.lt st.nx:=fun t v h=>(hr.tm t v h).1;have hnx:=jlX hg
  have hal:∀x,x<st.nx→jaS st T (DL (Array.replicate ops.size false)) x=true:=fun x hx=>by
   simp only[jaS,Bool.and_eq_true,Nat.blt_eq];exact⟨Nat.lt_of_lt_of_le hx hnx,jqn hx hg⟩
  have hF:∀j,DL (Array.replicate ops.size false) j=false:=fun j=>by
   unfold DL;simp only[Array.getD_eq_getD_getElem?,Array.getElem?_replicate];split<;>rfl
  have hslot:∀t (T:List Rec),jbw ops.toList (DL (Array.replicate ops.size false)) st t T=jav st.tm t:=fun t T=>by
   induction T with
   |nil=>rfl
   |cons r tr ih=>simp only[jbw,hF];simpa using ih
  have hheap:∀(T:List Rec),jan (DL (Array.replicate ops.size false)) st T=st.hp:=fun T=>by
   induction T with
   |nil=>rfl
   |cons r tr ih=>simp only[jan,hF];simpa using ih
  have hbw:Below w.heap.size w { w with drawn:=w.drawn+1 }:=⟨rfl,rfl,rfl,Nat.le_refl _,fun _ _=>rfl⟩
  have hinv:Inv ds ops.toList st B B1 N n0 ρ0 w0 T (DL (Array.replicate ops.size false)) a { w with drawn:=w.drawn+1 } ρ:=by
   refine⟨fun t v hv=>?_,hr.size,hr.defers,?_,fun x o hf=>?_,hB1,hag,⟨hbl.os,hbl.tape,hbl.output,hbl.size,hbl.block⟩,fun x=>?_,g1.later (Nat.le_refl _),hr.le⟩
   ·rw[hslot]at hv;exact⟨V.allB_of_lt hal (hr.tm t v hv).1,(hr.tm t v hv).2⟩
   ·rw[hheap];exact(hh1.below hbw hB1).mono_nx hnx
   ·rw[hheap]at hf;exact⟨hal x (hbase x o hf).1,O.allB_of_lt hal (hbase x o hf).2⟩
   ·have hfb:∀(T:List Rec),GoodTr P sp N ops.toList (jgO ops.toList []) st T→x<jab st T→jar (DL (Array.replicate ops.size false)) st T x=true→x<st.nx:=fun T hg=>by
     induction hg with
     |nil=>exact fun h _=>h
     | @cons tr r h' o hr ih =>
      intro hlt hb;simp only[jar]at hb;split at hb
      ·rw[hF]at hb;cases hb
      ·rename_i hb';exact ih (Nat.lt_of_not_le fun hc=>by rw[Nat.ble_eq_true_of_le hc]at hb';cases hb') hb
    intro hx hb;simp only[jaS,Bool.and_eq_true,Nat.blt_eq]at hx;have hlt:=hfb T hg hx.1 hx.2;rw[jkL hlt hg]at hb;exact C.one_val (c:=.o x) hh1 hb
  have:=jBJ (Q:=Q) (n0:=n0) (B0:=B) (ρ0:=ρ0) (w0:=w0) hsp hg hlen hok.1 hok.2 htab hbase hbt hr.n0 (fun D ρ' a' w' B2 hall hi=>?_) ops.size (Array.replicate ops.size false) a _ ρ B1 (by simp) (fun j o _ hD=>by rw[hF]at hD;cases hD) (by simp) hinv
  ·simpa using this
  ·have hall':∀j,j<T.length→D j=true:=fun j hj=>hall j (by omega);refine hK ρ' (jAL ops.toList st T) a' w' ⟨fun t v hv=>?_,hi.size,hi.defers,?_,hi.le0,Nat.le_trans hr.n0 hnx⟩ hi.agree hi.below hk
   ·have h1:=hi.tm t v (by rw[jso hall'];exact hv);refine⟨V.lt_of_allB (fun x hx=>?_) h1.1,h1.2⟩;simp only[jaS,Bool.and_eq_true,Nat.blt_eq]at hx;exact hx.1
   ·have:=hi.heap;rw[jzv hg hall']at this;exact⟨B2,hi.gr,this⟩
 ·exact hd.elim
end
end Go.Sx
end

section
open Go.RowKit
namespace Go.Sx
def jv7 [Globs] (t:Nat):Option Operand→Option Operand→Bool
 |some _,none=>Globs.cutT t
 |_,_=>false
def jsp [Globs] (P:Program) (op:Op) (rd:Operand→Option V) (hp:Hp) (nx:Nat):Option Res :=
 match op with
 | .move x=>(rd x).map fun v=>⟨True,v,hp,nx⟩
 | .slice t x lo hi none=>match jv7 t lo hi with
  |true=>jc7 P (.slice t x lo hi none) rd hp nx
  |false=>match P.underlying t,rd x,jaI rd lo,jaI rd hi with
   |some (.slice elem),some (.w (.c (.o h))),some l,some m=>match find hp h,szT P elem with
    |some ob,some (e+1)=>match ob.cont with
     |some c=>match Nat.beq c.e (e+1)with
      |true=>some ⟨0≤l.getD 0∧l.getD 0≤m.getD (c.n:Int)∧m.getD (c.n:Int)≤(c.n:Int),.w (.c (.o nx)),(nx,jhJ h ob (c.sub (l.getD 0).toNat (m.getD (c.n:Int)).toNat))::hp,nx+1⟩
      |false=>none
     |none=>none
    |_,_=>none
   |_,_,_,_=>none
 |_=>none
def jxR:Op→Bool
 | .slice _ _ _ _ none=>true
 |_=>false
def jxS:Op→Bool
 | .store _ _ _=>true
 |_=>false
def jBK (L:List Oper) (tab:List (List Nat)) (j:Nat):Bool :=
 match L[j]? with
 |some o=>jxR o.op&&(List.range L.length).any fun i=>match L[i]? with
  |some s=>jxS s.op && !((tab.getD i []).contains j) && !((tab.getD j []).contains i)
  |none=>false
 |none=>false
def jsq (L:List Oper):List Nat :=
 let tab:=jgO L []
 let bad:=(List.range L.length).filter (jBK L tab)
 (List.range L.length).filter fun i=>bad.contains i||bad.any fun j=>(tab.getD j []).contains i
def jfG (o:Oper) (t:Nat):Oper:={ o with op:=.move (.tmp t) }
def jcF (ops:Array Oper) (i t:Nat) (o:Oper):Array Oper:=ops.setIfInBounds i (jfG o t)
def jrD (ops:Array Oper) (listed:Array Bool) (i:Nat):Bool :=
 Region.noSelect ops&&Region.free .any ops listed i&&(Region.ready .any ops listed).contains i
def jot [Globs] (P:Program) (sp:jaa) (N:Nat) (ops:Array Oper):List Nat→Array Bool→Array Oper→St→(St→Prop)→Prop
 |[],_,ops',st,k=>jkK P sp N ops' st k
 |i::F,listed,ops',st,k=>match ops[i]?,jrD ops listed i with
  |some o,true=>match o.guard,o.dst with
   |none,some t=>match jsp P o.op (jce st) st.hp st.nx,Nat.blt t N with
    |some r,true=>Ob r.ob∧jot P sp N ops F (listed.setIfInBounds i true) (jcF ops' i t o) (st.put (some t) r) k
    |_,_=>False
   |_,_=>False
  |_,_=>False
def jb1 [Globs] (P:Program) (sp:jaa) (N:Nat) (ops:Array Oper) (st:St) (k:St→Prop):Prop :=
 match jsq ops.toList with
 |[]=>jkK P sp N ops st k
 |i::F=>match Nat.ble (i::F).length ops.size with
  |false=>False
  |true=>jot P sp N ops (i::F) (Array.replicate ops.size false) ops st k
section
variable {P:Program} {ops ops':Array Oper} {Q:Exit→Act→World→Prop}
theorem jni {l:Array Bool} (h1:ops'.size=ops.size) (h2:∀j:Nat,(ops'[j]?).map Oper.after=(ops[j]?).map Oper.after):Region.ready .any ops' l=Region.ready .any ops l:=by
 unfold Region.ready;rw[h1];refine List.filter_congr fun i _=>?_;have:=h2 i;cases ha:ops'[i]? <;> cases hb:ops[i]? <;> simp[ha,hb]at this ⊢;rw[this]
theorem jv8 (h2:∀j:Nat,(ops'[j]?).map Oper.dst=(ops[j]?).map Oper.dst) (tmps:Array Value):yielded ops' tmps=yielded ops tmps:=by
 funext g;unfold yielded
 have:(ops'[g]?).bind Oper.dst=(ops[g]?).bind Oper.dst:=by
  have:=h2 g;cases ha:ops'[g]? <;> cases hb:ops[g]? <;> simp[ha,hb]at this ⊢;exact this
 rw[this]
theorem jou (h1:ops'.size=ops.size) (h2:∀j:Nat,(ops'[j]?).map Oper.after=(ops[j]?).map Oper.after) (h3:∀j:Nat,(ops'[j]?).map Oper.dst=(ops[j]?).map Oper.dst) :
  ∀(n:Nat) (l:Array Bool) (a:Act) (w:World),(∀j:Nat,l.getD j true=false→ops'[j]?=ops[j]?)→wpAny P .any ops' Q n l a w→wpAny P .any ops Q n l a w
 |0,l,a,w,_,h=>by
  rw[wpAny]at h ⊢;rw[jni h1 h2]at h;exact h
 |n+1,l,a,w,hs,h=>by
  rw[wpAny]at h ⊢;rw[jni h1 h2]at h;refine⟨h.1,fun i hi=>?_⟩;have hk:=h.2 i hi;have hun:=(mem_ready.1 hi).1
  have ih:=fun a w=>jou h1 h2 h3 n (l.setIfInBounds i true) a w (fun j hj=>by
   refine hs j ?_
   by_cases e:i=j
   ·subst e;exact hun
   ·rwa [getD_set_ne true e]at hj)
  have hk2:=wpOp_mono ih hk;unfold wpOp at hk2 ⊢;rw[hs i hun]at hk2;simp only[jv8 h3]at hk2;exact hk2
theorem jzw {a:Act} {t:Nat}:a.put (some t) (a.tmps.getD t undef)=a:=by
 obtain⟨tmps,d⟩:=a;simp only[Act.put]
 congr 1
 apply Array.ext
 ·simp
 ·intro i h1 h2;rw[Array.getElem_setIfInBounds];split
  ·rename_i e;subst e;simp[h2]
  ·rfl
theorem jxT {n i t:Nat} {o:Oper} {l:Array Bool} {a:Act} {w:World} (hi:ops'[i]?=some (jfG o t)) (hg:o.guard=none) (hd:o.dst=some t) (hr:i∈Region.ready .any ops' l)
  (h:wpAny P .any ops' Q (n+1) l a w):wpAny P .any ops' Q n (l.setIfInBounds i true) a w:=by
 rw[wpAny]at h;have hk:=h.2 i hr;unfold wpOp at hk;have hw:Region.wanted (jfG o t) (yielded ops' a.tmps)=true:=by simp[Region.wanted,jfG,hg]
 simp only[hi,hw,if_true]at hk
 have hrun:(execOp a.eval (jfG o t)).run P w=.ok (.value (a.tmps.getD t undef)) w:=by
  unfold execOp jfG;simp[Act.eval]
 rcases hk with hk|hk
 ·unfold Oper.wp at hk;rw[hrun]at hk;simp only[Oper.upon]at hk;have hdst:(jfG o t).dst=some t:=hd;rw[hdst,jzw]at hk;exact hk
 ·have hk:=hk.1.1
  change noRoomEvent∈(#[]:Array Event)at hk
  simp at hk
end
section
variable [Globs] {P:Program} {sp:jaa} {B:Kd} {N n0:Nat} {ρ:Env} {a:Act} {w:World} {hp:Hp} {nx:Nat} {rd:Operand→Option V} {ds:List Deferred}
theorem jxU {o:Oper} {r:Res} {t:Nat} (hh:HRel ρ B hp nx w) (hB:Old B w) (hr:jax ρ nx rd a) (h:jsp P o.op rd hp nx=some r) (hob:r.ob) (hd:o.dst=some t) (ht:t<a.tmps.size) :
  ∃ρ' M,Left ρ B nx w r M ρ' w∧∀w',(execOp a.eval o).run P w'=.ok (.value (r.v.val ρ')) w':=by
 unfold jsp at h;split at h
 ·rename_i x hop;cases hx:rd x with
  |none=>simp[hx]at h
  |some v =>
   simp only[hx,Option.map_some,Option.some.injEq]at h;subst h;have:=hr x v hx;refine⟨ρ,true,⟨jae.refl _ _,this.1,Nat.le_refl _,hh.gr,Bel.refl _ _,fun _=>Below.refl _ _,fun _ h o k hn hf _=>absurd (hh.ok h o hf).1 (by omega)⟩,fun w'=>?_⟩;unfold execOp;simp[hop,this.2]
 ·rename_i ty x lo hi hop;split at h
  ·rename_i hcut;cases lo with
   |none=>simp[jv7]at hcut
   |some lo =>
   cases hi with
   |some hi=>simp[jv7]at hcut
   |none =>
   unfold jc7 at h;dsimp only at h;split at h
   ·split at h
    ·rename_i elem hh' k l hu hx hl;split at h
     ·rename_i c e hfc hs;split at h
      ·rename_i hce;cases h;cases hf:find hp hh' with
       |none=>simp[hf]at hfc
       |some ob =>
        simp only[hf,Option.bind_some]at hfc;obtain⟨v,hrun,hl⟩:=jjT hh hr hop hu hx hl hf hfc hs (Nat.eq_of_beq_eq_true hce) hob;exact⟨upd ρ nx v,false,hl,fun w'=>by rw[hrun w'];show Result.ok (Next.value v) w'=.ok (.value (upd ρ nx v nx)) w';rw[upd_same]⟩
      ·cases h
     ·cases h
    ·cases h
   ·cases h
  rename_i hcut;split at h
  ·rename_i elem hh' l m hu hx hl hm;split at h
   ·rename_i ob e hf hs;split at h
    ·rename_i c hc;split at h
     ·rename_i hce;cases h;have hce:c.e=e+1:=Nat.eq_of_beq_eq_true hce;obtain⟨h0,h1,h2⟩:=hob;have hok:=hh.ok hh' ob hf;obtain⟨a2,cap,hv,⟨hcap,_⟩,_⟩:=jaR hok.2.2 hc;obtain⟨k1,hlv⟩:=jd8 hr hl;obtain⟨k2,hmv⟩:=jd8 hr hm;have hxv:a.eval x=.slice a2 c.n cap:=by rw[(hr _ _ hx).2];exact hv
      have hrun:∀w',(execOp a.eval o).run P w'=.ok (.value (.slice (if cap=(l.getD 0).toNat then a2 else a2.map (·.add ((l.getD 0).toNat*c.e))) ((m.getD (c.n:Int)).toNat-(l.getD 0).toNat) (cap-(l.getD 0).toNat))) w':=fun w'=>by
       have hsb:=jcn (P:=P) (w:=w') (len:=c.n) (cap:=cap) (l:=l) (m:=m) (k:=k1) (k':=k2) h0 h1 h2 hcap;unfold execOp;simp only[hop,hxv,hlv,hmv,Option.map_none,Instr.sliceAt,Instr.slice,Sem.run_bind,run_underlying hu,Result.andThen_ok,hsb,jaC w' hs,Sem.run_pure];simp[hce]
      have hS:=jgI (P:=P) hh hB hr hop hu hx hl hm hf hs hc hce ⟨h0,h1,h2⟩ ⟨0≤l.getD 0∧l.getD 0≤m.getD (c.n:Int)∧m.getD (c.n:Int)≤(c.n:Int),.w (.c (.o nx)),(nx,jhJ hh' ob (c.sub (l.getD 0).toNat (m.getD (c.n:Int)).toNat))::hp,nx+1⟩ rfl rfl rfl
       (fun a' w'=>∃ρ',Left ρ B nx w ⟨0≤l.getD 0∧l.getD 0≤m.getD (c.n:Int)∧m.getD (c.n:Int)≤(c.n:Int),.w (.c (.o nx)),(nx,jhJ hh' ob (c.sub (l.getD 0).toNat (m.getD (c.n:Int)).toNat))::hp,nx+1⟩ true ρ' w'∧a'=a.put o.dst (ρ' nx)) (fun _ _ _=>False) (fun ρ' w' hl'=>⟨ρ',hl',rfl⟩)
      unfold Oper.wp at hS;rw[hrun w]at hS;simp only[Oper.upon]at hS;obtain⟨ρ',hl',he⟩:=hS;refine⟨ρ',true,hl',fun w'=>?_⟩;rw[hrun w'];have e2:=congrArg (fun x:Act=>x.tmps.getD t undef) he;rw[hd]at e2;simp only[Act.put,Array.getD_eq_getD_getElem?,Array.getElem?_setIfInBounds_self_of_lt ht,Option.getD_some]at e2;rw[e2];rfl
     ·cases h
    ·cases h
   ·cases h
  ·cases h
 ·cases h
theorem jv9 {ops ops':Array Oper} {i t:Nat} {o:Oper} (h:∀j:Nat,(ops'[j]?).map Oper.after=(ops[j]?).map Oper.after) (hi:ops[i]?=some o) (j:Nat):((jcF ops' i t o)[j]?).map Oper.after=(ops[j]?).map Oper.after:=by
 unfold jcF;rw[Array.getElem?_setIfInBounds];split
 ·rename_i e;subst e;have:=h i;rw[hi]at this ⊢;split
  ·rfl
  ·rename_i hlt;rw[Array.getElem?_eq_none (by omega)]at this;cases this
 ·exact h j
theorem jzx {ops ops':Array Oper} {i t:Nat} {o:Oper} (h:∀j:Nat,(ops'[j]?).map Oper.dst=(ops[j]?).map Oper.dst) (hi:ops[i]?=some o) (j:Nat):((jcF ops' i t o)[j]?).map Oper.dst=(ops[j]?).map Oper.dst:=by
 unfold jcF;rw[Array.getElem?_setIfInBounds];split
 ·rename_i e;subst e;have:=h i;rw[hi]at this ⊢;split
  ·rfl
  ·rename_i hlt;rw[Array.getElem?_eq_none (by omega)]at this;cases this
 ·exact h j
inductive Taken (ops:Array Oper):Array Bool→Array Oper→Nat→Prop where
 |nil:Taken ops (Array.replicate ops.size false) ops 0
 |cons {l:Array Bool} {ops':Array Oper} {n i t:Nat} {o:Oper}:Taken ops l ops' n→ops[i]?=some o→jrD ops l i=true→o.guard=none→o.dst=some t →
   Taken ops (l.setIfInBounds i true) (jcF ops' i t o) (n+1)
theorem jjn {ops:Array Oper} {l:Array Bool} {i:Nat} (h:jrD ops l i=true):Region.noSelect ops=true∧Region.free .any ops l i=true∧i∈Region.ready .any ops l:=by
 simp only[jrD,Bool.and_eq_true]at h;exact⟨h.1.1,h.1.2,by simpa using h.2⟩
theorem Taken.facts {ops:Array Oper} {l:Array Bool} {ops':Array Oper} {n:Nat} (h:Taken ops l ops' n) :
  ops'.size=ops.size∧(∀j:Nat,(ops'[j]?).map Oper.after=(ops[j]?).map Oper.after)∧(∀j:Nat,(ops'[j]?).map Oper.dst=(ops[j]?).map Oper.dst) ∧
   (∀j:Nat,l.getD j true=false→ops'[j]?=ops[j]?)∧l.size=ops.size:=by
 induction h with
 |nil=>exact⟨rfl,fun _=>rfl,fun _=>rfl,fun _ _=>rfl,by simp⟩
 | @cons l ops' n i t o h hi ht hg hd ih =>
  obtain⟨h1,h2,h3,h4,h5⟩:=ih;refine⟨by simp[jcF,h1],jv9 h2 hi,jzx h3 hi,fun j hj=>?_,by simp[h5]⟩
  by_cases e:i=j
  ·subst e;have hlt:i<l.size:=by rw[h5];exact(Array.getElem?_eq_some_iff.1 hi).1
   simp[hlt]at hj
  ·rw[getD_set_ne true e]at hj;unfold jcF;rw[Array.getElem?_setIfInBounds_ne e];exact h4 j hj
theorem Taken.idle {ops:Array Oper} {Q:Exit→Act→World→Prop} {a:Act} {w:World} {l:Array Bool} {ops':Array Oper} {n:Nat} (h:Taken ops l ops' n) :
  ∀(opsF:Array Oper) (m:Nat),opsF.size=ops.size→(∀j:Nat,(opsF[j]?).map Oper.after=(ops[j]?).map Oper.after)→(∀j:Nat,l.getD j true=true→opsF[j]?=ops'[j]?) →
   wpAny P .any opsF Q (m+n) (Array.replicate ops.size false) a w→wpAny P .any opsF Q m l a w:=by
 induction h with
 |nil=>exact fun _ _ _ _ _ h=>h
 | @cons l ops' n i t o h hi ht hg hd ih =>
  intro opsF m h1 h2 h3 hw;obtain⟨f1,f2,f3,f4,f5⟩:=h.facts;have hlt:i<ops.size:=(Array.getElem?_eq_some_iff.1 hi).1
  have hself:opsF[i]?=some (jfG o t):=by
   rw[h3 i (by simp[hlt,f5])];unfold jcF;simp[f1,hlt]
  refine jxT hself hg hd ?_ (ih opsF (m+1) h1 h2 (fun j hj=>?_) (by rwa [Nat.add_assoc,Nat.add_comm 1 n]))
  ·rw[jni h1 h2];exact(jjn ht).2.2
  ·by_cases e:i=j
   ·subst e;have:=(mem_ready.1 (jjn ht).2.2).1;rw[this]at hj;cases hj
   ·rw[h3 j (by rw[getD_set_ne true e];exact hj)];unfold jcF;rw[Array.getElem?_setIfInBounds_ne e]
variable {w0:World} {ρ0:Env} in
theorem jsr (hm:P.follows .mixedOrders=true) (hsp:jac P sp) {ops:Array Oper} {k:St→Prop} {Q:Exit→Act→World→Prop} (hQ:∀c a w,¬Q (.panic c) a w)
  (hK:∀(ρ':Env) (st':St) (a':Act) (w':World),RelD ds ρ' B N n0 st' a' w'→jae n0 ρ0 ρ'→Bel B w0 w'→k st'→Q .normal a' w') :
  ∀(F:List Nat) (l:Array Bool) (ops':Array Oper) (n m:Nat) (st:St) (ρ:Env) (a:Act) (w:World),jot P sp N ops F l ops' st k→Taken ops l ops' n→m+n=ops.size→F.length≤m→RelD ds ρ B N n0 st a w→jae n0 ρ0 ρ→Bel B w0 w →
   wpAny P .any ops Q m l a { w with drawn:=w.drawn+1 }
 |[],l,ops',n,m,st,ρ,a,w,h,ht,hn,_,hr,hag,hbl=>by
  unfold jot at h;obtain⟨f1,f2,f3,f4,f5⟩:=ht.facts;have h1:=jqs (Q:=Q) hm hsp h hr hag hbl hK;rw[f1,←hn]at h1;have h2:=ht.idle (Q:=Q) ops' m f1 f2 (fun _ _=>rfl) (by rw[←hn];exact h1);exact jou f1 f2 f3 m l a _ f4 h2
 |i::F,l,ops',n,m,st,ρ,a,w,h,ht,hn,hF,hr,hag,hbl=>by
  unfold jot at h;split at h
  ·rename_i o hi htb;split at h
   ·rename_i t hg hd;split at h
    ·rename_i r hr2 hlt;obtain⟨B1,g1,hh1⟩:=hr.heap;obtain⟨ρ',M,hl,hrun⟩:=jxU hh1 (g1.old hr.le) hr.reads hr2 h.1.h hd (by rw[hr.size];simpa [Nat.blt_eq]using hlt);have hput:=hr.put1 g1 (o:=o) (by rw[hd];simpa [jcd]using hlt) hl;rw[hd]at hput;obtain⟨m',rfl⟩:∃m',m=m' + 1:=⟨m-1,by simp at hF;omega⟩
     have ih:=jsr hm hsp hQ hK F (l.setIfInBounds i true) (jcF ops' i t o) (n+1) m' (st.put (some t) r) ρ' _ w h.2 (ht.cons hi htb hg hd) (by omega) (by simpa using hF) hput (hag.trans hl.agree hr.n0) hbl;obtain⟨t1,t2,t3⟩:=jjn htb;refine wpAny_take (v:=r.v.val ρ') hi t1 t2 (by simpa using t3) (fun c a w hq=>absurd hq (hQ c _ w)) (.inl ⟨by simp[Region.wanted,hg],hrun⟩) ?_;rw[hd];exact ih
    ·exact h.elim
   ·exact h.elim
  ·exact h.elim
theorem jov {w0:World} {ρ0:Env} (hm:P.follows .mixedOrders=true) (hsp:jac P sp) {ops:Array Oper} {st:St} {k:St→Prop} {ρ:Env} {a:Act} {w:World} {Q:Exit→Act→World→Prop} (hQ:∀c a w,¬Q (.panic c) a w) (hd:jb1 P sp N ops st k) (hr:RelD ds ρ B N n0 st a w) (hag:jae n0 ρ0 ρ) (hbl:Bel B w0 w)
  (hK:∀(ρ':Env) (st':St) (a':Act) (w':World),RelD ds ρ' B N n0 st' a' w'→jae n0 ρ0 ρ'→Bel B w0 w'→k st'→Q .normal a' w') :
  wpAny P .any ops Q ops.size (Array.replicate ops.size false) a { w with drawn:=w.drawn+1 }:=by
 unfold jb1 at hd;split at hd
 ·exact jqs hm hsp hd hr hag hbl hK
 ·rename_i i F _;split at hd
  ·exact hd.elim
  ·rename_i hle;exact jsr hm hsp hQ hK (i::F) _ ops 0 ops.size st ρ a w hd .nil rfl (Nat.le_of_ble_eq_true hle) hr hag hbl
theorem jbx {w0:World} {ρ0:Env} (hm:P.follows .mixedOrders=true) (hsp:jac P sp):jeQ P B N n0 ρ0 w0 (jb1 P sp N):=by
 intro ds id ops st k ρ a w Q hd hr hag hbl hK;have h1:=wp_region_any (id:=id) hm (jov (Q:=fun e a w=>match e with | .normal=>Q .normal a w|_=>False) hm hsp (fun _ _ _ h=>h) hd hr hag hbl hK);refine wp_mono h1 ?_;intro e a w h;cases e<;>first|exact h|exact h.elim
end
end Go.Sx
end

section
open Go.RowKit
namespace Go.Sx
inductive A where
 |d (x:D)
 |s (l:List D)
 |r (c:Cont)
 |f (n:Nat)
inductive RV where
 |d (x:D)
 |s (l:List D)
 |row (ty:Nat) (c:Cont)
def toA (hp:Hp):V→Option A
 | .w (.c (.d x))=>some (.d x)
 | .w (.a l)=>(jbt l).map .s
 | .w (.c (.fn n []))=>some (.f n)
 | .w (.c (.o h))=>match(find hp h).bind O.cont with
  |some c=>match c.e with
   |0=>none
   |_+1=>some (.r c)
  |none=>none
 |_=>none
def jhP (hp:Hp):List V→Option (List A)
 |[]=>some []
 |v::l=>match toA hp v,jhP hp l with
  |some a,some r=>some (a::r)
  |_,_=>none
def jjo (n:Nat):A→V
 | .d x=>.w (.c (.d x))
 | .s l=>.w (.a (l.map C.d))
 | .r _=>.w (.c (.o n))
 | .f g=>.w (.c (.fn g []))
def jdt:Nat→List A→List V
 |_,[]=>[]
 |n,a::l=>jjo n a::jdt (n+1) l
def jgm:Nat→List A→Hp
 |_,[]=>[]
 |n,.r c::l=>(n,.ext c)::jgm (n+1) l
 |n,_::l=>jgm (n+1) l
def rvW:Nat→List RV→List W
 |_,[]=>[]
 |n,.d x::l=>.c (.d x)::rvW n l
 |n,.s c::l=>.a (c.map C.d)::rvW n l
 |n,.row _ _::l=>.c (.o n)::rvW (n+1) l
def jhQ:Nat→List RV→Hp→Hp
 |_,[],hp=>hp
 |n,.row ty c::l,hp=>jhQ (n+1) l ((n,.row ty c)::hp)
 |n,.d _::l,hp=>jhQ n l hp
 |n,.s _::l,hp=>jhQ n l hp
def jep:Nat→List RV→Nat
 |n,[]=>n
 |n,.row _ _::l=>jep (n+1) l
 |n,.d _::l=>jep n l
 |n,.s _::l=>jep n l
def jrE (g:List A→Option (Prop × List RV)):Spec:=fun vs hp nx =>
 match jhP hp vs with
 |some asq=>match g asq with
  |some (ob,rs)=>some (.leaf ⟨ob,jaU (rvW nx rs),jhQ nx rs hp,jep nx rs⟩)
  |none=>none
 |none=>none
def jss:List D→List D→Prop→Prop
 |[],[],k=>k
 |x::l,y::m,k=>mD y x∧jss l m k
 |_,_,_=>False
theorem jmF [Globs] {k:Prop}:∀{l m:List D},jss l m k→l=m∧k
 |[],[],h=>⟨rfl,h⟩
 |x::l,y::m,h=>by
  have:=jmF h.2;exact⟨by rw[jlW h.1,this.1],this.2⟩
 |[],_::_,h=>h.elim
 |_::_,[],h=>h.elim
def jeq (hp:Hp):List RV→List W→List Nat→Prop
 |[],[],_=>True
 | .d x::rs,.c (.d y)::ws,us=>mD x y∧jeq hp rs ws us
 | .s l::rs,.a cs::ws,us=>match jbt cs with
  |some ds=>jss ds l (jeq hp rs ws us)
  |none=>False
 | .row ty c::rs,.c (.o h)::ws,us=>match us.contains h with
  |true=>False
  |false=>match find hp h with
   |some (.row ty' c')=>match Nat.beq ty' ty with
    |true=>jdH c c'∧jeq hp rs ws (h::us)
    |false=>False
   |_=>False
 | .row _ c::rs,.c (.d (.v (.slice none 0 0)))::ws,us=>Ob (c.n=0)∧jeq hp rs ws us
 |_,_,_=>False
def jAM (rs:List RV) (v:V) (hp:Hp):Prop:=match v with
 | .w u=>jeq hp rs [u] []
 | .t [_]=>False
 | .t l=>jeq hp rs l []
theorem jcu {P:Program} {f:Nat} {fn:Func} {body:Code} (hf:P.funcs[f]?=some fn) (hb:fn.body=some body) (hn:(fn.name == "runtime.NumGoroutine")=false) (args:Array Value) (w:World) :
  (callFunc f args).run P w=.ok (.enter f args) w:=by
 unfold callFunc;simp only[Sem.run_bind,run_program,Result.andThen_ok,hf,hn,Bool.false_eq_true,if_false,hb,Option.isNone_some];rfl
theorem jaf.sound [Globs] {P:Program} {f:Nat} {fn:Func} {body:Code} {M:Bool} {S:Spec} (h:jaf P f M S) (hf:P.funcs[f]?=some fn) (hb:fn.body=some body) (hn:(fn.name == "runtime.NumGoroutine")=false):RunOK P f M S:=by
 rcases h with h|h
 ·exact h
 ·refine⟨jcu hf hb hn,fun ρ B w args hp nx t hS hob hlt hh hB=>?_⟩;obtain⟨ob,v,_,_,hrun⟩:=h ρ B w args hp nx t hS hob hlt hh hB;rw[jcu hf hb hn]at hrun;cases hrun
section
variable [Globs] {P:Program} {sp:jaa} {ρ:Env} {B:Kd} {nx:Nat} {hp:Hp} {w w':World}
theorem jqt (hh:HRel ρ B hp nx w):∀(vs:List V) (asq:List A) (n:Nat) (ρ0:Env),jhP hp vs=some asq→(∀i v,vs[i]?=some v→ρ0 (n+i)=v.val ρ) →
  (jdt n asq).map (V.val ρ0)=vs.map (V.val ρ)∧asq.length=vs.length∧(∀x∈jdt n asq,V.lt (n+asq.length) x) ∧
   ∀h o,find (jgm n asq) h=some o→n≤h∧h<n+asq.length∧∃c,o=.ext c∧jaD w (ρ0 h) c∧jbM (fun k=>k<w.heap.size) (ρ0 h)
 |[],asq,n,ρ0,h,_=>by
  simp only[jhP,Option.some.injEq]at h;subst h;exact⟨rfl,rfl,(fun _ h=>by cases h),fun _ _ h=>by cases h⟩
 |v::vs,asq,n,ρ0,h,hρ=>by
  simp only[jhP]at h;split at h
  ·rename_i a r ha hr;cases h;have ih:=jqt hh vs r (n+1) ρ0 hr (fun i v hv=>by rw[show n+1+i=n+(i+1) by omega];exact hρ (i+1) v (by simpa using hv));have h0:=hρ 0 v rfl;rw[Nat.add_zero]at h0
   have hv:(jjo n a).val ρ0=v.val ρ∧V.lt (n+(r.length+1)) (jjo n a)∧∀c,a=.r c→jaD w (ρ0 n) c∧jbM (fun k=>k<w.heap.size) (ρ0 n):=by
    unfold toA at ha;split at ha
    ·cases ha;exact⟨rfl,trivial,fun _ h=>by cases h⟩
    ·rename_i l;cases hd:jbt l with
     |none=>simp[hd]at ha
     |some ds =>
      simp only[hd,Option.map_some,Option.some.injEq]at ha;subst ha;rw[jb6 hd];refine⟨?_,(fun x hx=>?_),fun _ h=>by cases h⟩
      ·simp[jjo,V.val,W.val,C.val,Function.comp_def]
      ·obtain⟨y,_,rfl⟩:=List.mem_map.1 hx;trivial
    ·cases ha;exact⟨rfl,(fun _ h=>by cases h),fun _ h=>by cases h⟩
    ·rename_i k;split at ha
     ·rename_i c hc;split at ha
      ·cases ha
      ·rename_i e he;cases ha;cases hf:find hp k with
       |none=>simp[hf]at hc
       |some o =>
        simp only[hf,Option.bind_some]at hc;have hrow:=jaR (hh.ok k o hf).2.2 hc;have e0:ρ0 n=ρ k:=h0;refine⟨e0,(show n<n+(r.length+1) by omega),fun c' hc'=>?_⟩;cases hc';rw[e0];exact⟨hrow,jaD.lt hrow (by omega)⟩
     ·cases ha
    ·cases ha
   have hag:∀x,V.lt (n+1+r.length) x→V.lt (n+(r.length+1)) x:=fun x hx=>V.lt_mono (by omega) hx;refine⟨by simp only[jdt,List.map_cons,hv.1,ih.1],by simp[ih.2.1],fun x hx=>?_,fun h o hf=>?_⟩
   ·rcases List.mem_cons.1 hx with rfl|hx
    ·simpa using hv.2.1
    ·simpa using hag x (ih.2.2.1 x hx)
   ·cases a with
    |r c =>
     simp only[jgm,find]at hf;split at hf
     ·rename_i e;subst e;cases hf;exact⟨Nat.le_refl _,by simp,c,rfl,hv.2.2 c rfl⟩
     ·have:=ih.2.2.2 h o hf;simp only[List.length_cons];exact⟨by omega,by omega,this.2.2⟩
    |d x=>have:=ih.2.2.2 h o hf;simp only[List.length_cons];exact⟨by omega,by omega,this.2.2⟩
    |s x=>have:=ih.2.2.2 h o hf;simp only[List.length_cons];exact⟨by omega,by omega,this.2.2⟩
    |f x=>have:=ih.2.2.2 h o hf;simp only[List.length_cons];exact⟨by omega,by omega,this.2.2⟩
  ·cases h
theorem jjp (h:jb8 B w) (hB:Old B w):jb8 (fun k=>k<w.heap.size) w:=h.sub fun k hk=>hB k (.inl hk)
theorem HRel.add1 (h:HRel ρ B hp nx w) {v:Value} {o:O} (hl:o.lt (nx+1)) (ho:o.ok (upd ρ nx v) B w nx) (hap:∀k o' b,find hp k=some o'→o'.blk (ρ k)=some b→o.blk v≠some b) :
  HRel (upd ρ nx v) B ((nx,o)::hp) (nx+1) w:=by
 have h1:=(h.agree (jah ρ nx v)).mono_nx (Nat.le_succ nx);refine⟨?_,?_,h1.glob⟩
 ·intro k o' hf;simp only[find]at hf;split at hf
  ·rename_i e;subst e;cases hf;exact⟨by omega,hl,ho⟩
  ·exact h1.ok k o' hf
 ·intro k o1 k' o2 b hf hf' hne hb hb';simp only[find]at hf hf';split at hf
  ·rename_i e;subst e;cases hf;rw[if_neg hne]at hf';rw[upd_same]at hb;rw[jah ρ nx v k' (h.ok k' o2 hf').1]at hb';exact hap k' o2 b hf' hb' hb
  ·split at hf'
   ·rename_i e;subst e;cases hf';rw[upd_same]at hb';rw[jah ρ nx v k (h.ok k o1 hf).1]at hb;exact hap k o1 b hf hb hb'
   ·exact h1.apart k o1 k' o2 b hf hf' hne hb hb'
theorem jiv {B0:Kd} {hp':Hp} {nx':Nat} {ρ':Env} {m:Nat} {us0:List Nat} (hB0:∀k,k<m→B0.all k∨∀u o b,us0.contains u=false→find hp' u=some o→(∃ty c,o=.row ty c)→o.blk (ρ' u)=some b→b≠k) (hBm:∀k,B.all k→k<m) (hh':HRel ρ' B0 hp' nx' w') :
  ∀(rs:List RV) (ws:List W) (us:List Nat) (nx:Nat) (hp:Hp) (ρ:Env),(∀x,us0.contains x=true→us.contains x=true)→jeq hp' rs ws us→HRel ρ B hp nx w' →
   (∀k o b,find hp k=some o→o.blk (ρ k)=some b→b<m∨∃u∈us,∃ou,find hp' u=some ou∧ou.blk (ρ' u)=some b) →
   ∃ρ'',jae nx ρ ρ''∧HRel ρ'' B (jhQ nx rs hp) (jep nx rs) w'∧nx≤jep nx rs∧(∀x∈rvW nx rs,W.lt (jep nx rs) x)∧ws.map (W.val ρ')=(rvW nx rs).map (W.val ρ'') ∧
    ∀h o k,find (jhQ nx rs hp) h=some o→(nx≤h→o.blk (ρ'' h)=some k→m≤k)∧(h<nx→find hp h=some o)
 |[],ws,us,nx,hp,ρ,_,hf,hh,_=>by
  cases ws with
  |nil=>exact⟨ρ,jae.refl _ _,hh,Nat.le_refl _,(fun _ h=>by cases h),rfl,fun h o k hf=>⟨fun hle _=>absurd (hh.ok h o hf).1 (by omega),fun _=>hf⟩⟩
  |cons w ws=>cases w<;>exact hf.elim
 | .d x::rs,ws,us,nx,hp,ρ,hsu,hf,hh,hinv=>by
  match ws,hf with
  | .c (.d y)::ws,hf =>
   obtain⟨ρ'',h1,h2,h3,h4,h5,h6⟩:=jiv hB0 hBm hh' rs ws us nx hp ρ hsu hf.2 hh hinv;refine⟨ρ'',h1,h2,h3,fun u hu=>?_,?_,h6⟩
   ·rcases List.mem_cons.1 hu with rfl|hu
    ·trivial
    ·exact h4 u hu
   ·rw[←jlW hf.1];simp only[List.map_cons,rvW,h5];rfl
 | .s l::rs,ws,us,nx,hp,ρ,hsu,hf,hh,hinv=>by
  match ws,hf with
  | .a cs::ws,hf =>
   simp only[jeq]at hf;split at hf
   ·rename_i ds hds;obtain⟨hl,hf2⟩:=jmF hf;subst hl;obtain⟨ρ'',h1,h2,h3,h4,h5,h6⟩:=jiv hB0 hBm hh' rs ws us nx hp ρ hsu hf2 hh hinv;refine⟨ρ'',h1,h2,h3,fun u hu=>?_,?_,h6⟩
    ·rcases List.mem_cons.1 hu with rfl|hu
     ·intro x hx;obtain⟨y,_,rfl⟩:=List.mem_map.1 hx;trivial
     ·exact h4 u hu
    ·rw[jb6 hds];simp only[List.map_cons,rvW,h5]
     congr 1
     simp[W.val,C.val,Function.comp_def]
   ·exact hf.elim
 | .row ty c::rs,ws,us,nx,hp,ρ,hsu,hf,hh,hinv=>by
  match ws,hf with
  | .c (.o h)::ws,hq =>
   rw[jeq]at hq;split at hq
   ·exact hq.elim
   ·rename_i hus;split at hq
    ·rename_i ty' c' hfind;split at hq
     ·rename_i hty;have hty:ty'=ty:=Nat.eq_of_beq_eq_true hty;subst hty;have hc:=(jbI hq.1).symm;subst hc;have hok:=(hh'.ok h _ hfind).2.2
      have hblk:∀b,(ρ' h).ownBlock=some b→m≤b:=fun b hb=>by
       rcases Nat.lt_or_ge b m with hlt|hge
       ·rcases hB0 b hlt with h1|h1
        ·exact absurd h1 (hok.2 b hb)
        ·have hu0:us0.contains h=false:=by
          cases hc:us0.contains h with
          |false=>rfl
          |true=>rw[hsu h hc]at hus;cases hus
         exact absurd rfl (h1 h _ b hu0 hfind ⟨_,_,rfl⟩ hb)
       ·exact hge
      have hadd:=hh.add1 (v:=ρ' h) (o:=.row ty' c') trivial (by
       refine⟨by rw[upd_same];exact hok.1,fun b hb hBb=>?_⟩;rw[upd_same]at hb;have:=hblk b hb;have:=hBm b hBb
       omega) (fun k o' b hk hb hb2=>by
        rcases hinv k o' b hk hb with h1|⟨u,hu,ou,h1,h2⟩
        ·have:=hblk b hb2;omega
        ·refine hh'.apart h _ u ou b hfind h1 (fun e=>?_) hb2 h2;subst e;rw[List.contains_iff_mem.2 hu]at hus;cases hus)
      obtain⟨ρ'',h1,h2,h3,h4,h5,h6⟩:=jiv hB0 hBm hh' rs ws (h::us) (nx+1) ((nx,.row ty' c')::hp) (upd ρ nx (ρ' h)) (fun x hx=>by have:=hsu x hx;simp at this ⊢;exact .inr this) hq.2 hadd (fun k o b hk hb=>by
       simp only[find]at hk;split at hk
       ·rename_i e;subst e;cases hk;rw[upd_same]at hb;exact .inr ⟨h,List.mem_cons_self,_,hfind,hb⟩
       ·rw[jah ρ nx (ρ' h) k (hh.ok k o hk).1]at hb;rcases hinv k o b hk hb with h1|⟨u,hu,ou,h1,h2⟩
        ·exact .inl h1
        ·exact .inr ⟨u,List.mem_cons_of_mem _ hu,ou,h1,h2⟩)
      have hnx:ρ'' nx=ρ' h:=by rw[h1 nx (Nat.lt_succ_self nx),upd_same]
      refine⟨ρ'',fun k hk=>by rw[h1 k (by omega),jah ρ nx (ρ' h) k hk],h2,by unfold jep;omega,fun u hu=>?_,?_,fun k o b hk=>?_⟩
      ·rcases List.mem_cons.1 hu with rfl|hu
       ·exact Nat.lt_of_lt_of_le (Nat.lt_succ_self nx) h3
       ·exact h4 u hu
      ·simp only[List.map_cons,rvW,h5]
       congr 1
       exact hnx.symm
      ·have h7:=h6 k o b hk;refine⟨fun hle hb=>?_,fun hlt=>?_⟩
       ·by_cases hle2:nx+1≤k
        ·exact h7.1 hle2 hb
        ·have e:k=nx:=by omega
         subst e;have h8:=h7.2 (Nat.lt_succ_self k);simp only[find,if_true]at h8;cases h8;rw[hnx]at hb;exact hblk b hb
       ·have h8:=h7.2 (by omega);simp only[find]at h8;rw[if_neg (by omega)]at h8;exact h8
     ·exact hq.elim
    ·exact hq.elim
  | .c (.d (.v (.slice none 0 0)))::ws,hf =>
   simp only[jeq]at hf;have hn:=hf.1.h;have hfl:c.flat=[]:=List.eq_nil_of_length_eq_zero (by rw[Cont.flat_length,hn,Nat.zero_mul])
   have hadd:=hh.add1 (v:=.slice none 0 0) (o:=.row ty c) trivial (by
    refine⟨?_,fun b hb=>?_⟩
    ·rw[upd_same,hfl,hn];exact World.ownsRow_nil w' 0 ty c.e
    ·rw[upd_same]at hb;cases hb) (fun k o' b hk hb hb2=>by cases hb2)
   obtain⟨ρ'',h1,h2,h3,h4,h5,h6⟩:=jiv hB0 hBm hh' rs ws us (nx+1) ((nx,.row ty c)::hp) (upd ρ nx (.slice none 0 0)) hsu hf.2 hadd (fun k o b hk hb=>by
    simp only[find]at hk;split at hk
    ·rename_i e;subst e;cases hk;rw[upd_same]at hb;cases hb
    ·rw[jah ρ nx _ k (hh.ok k o hk).1]at hb;exact hinv k o b hk hb)
   have hnx:ρ'' nx=.slice none 0 0:=by rw[h1 nx (Nat.lt_succ_self nx),upd_same]
   refine⟨ρ'',fun k hk=>by rw[h1 k (by omega),jah ρ nx _ k hk],h2,by unfold jep;omega,fun u hu=>?_,?_,fun k o b hk=>?_⟩
   ·rcases List.mem_cons.1 hu with rfl|hu
    ·exact Nat.lt_of_lt_of_le (Nat.lt_succ_self nx) h3
    ·exact h4 u hu
   ·simp only[List.map_cons,rvW,h5]
    congr 1
    exact hnx.symm
   ·have h7:=h6 k o b hk;refine⟨fun hle hb=>?_,fun hlt=>?_⟩
    ·by_cases hle2:nx+1≤k
     ·exact h7.1 hle2 hb
     ·have e:k=nx:=by omega
      subst e;have h8:=h7.2 (Nat.lt_succ_self k);simp only[find,if_true]at h8;cases h8;rw[hnx]at hb;cases hb
    ·have h8:=h7.2 (by omega);simp only[find]at h8;rw[if_neg (by omega)]at h8;exact h8
end
end Go.Sx
end

section
open Go.RowKit
namespace Go.Sx
def O.own:O→Bool
 | .box _ cs=>cs.all fun c=>match c with
  | .d _=>true
  |_=>false
 | .row _ _=>true
 |_=>false
section
variable [Globs] {P:Program} {sp:jaa}
end
end Go.Sx
end

section
open Go.RowKit
namespace Go.Sx
def toAK (q:Option Cont) (hp:Hp) (v:V):Option A :=
 match q with
 |none=>toA hp v
 |some c0=>match v.nils?,c0.n,c0.e with
  |true,0,_+1=>some (.r c0)
  |_,_,_=>toA hp v
def jow:List (Option Cont)→Hp→List V→Option (List A)
 |_,_,[]=>some []
 |qs,hp,v::l=>match toAK (qs.headD none) hp v,jow qs.tail hp l with
  |some a,some r=>some (a::r)
  |_,_=>none
def jaF (qs:List (Option Cont)) (g:List A→Option (Prop × List RV)):Spec:=fun vs hp nx =>
 match jow qs hp vs with
 |some asq=>match g asq with
  |some (ob,rs)=>some (.leaf ⟨ob,jaU (rvW nx rs),jhQ nx rs hp,jep nx rs⟩)
  |none=>none
 |none=>none
section
variable [Globs] {P:Program} {sp:jaa} {ρ:Env} {B:Kd} {nx:Nat} {hp:Hp} {w w':World}
theorem jBf {v:V} (h:v.nils?=true):v=.w (.c (.d (.v (.slice none 0 0)))):=by
 unfold V.nils? at h;split at h
 ·rfl
 ·cases h
theorem jst (hh:HRel ρ B hp nx w) {v:V} {a:A} (ha:toA hp v=some a) (n m:Nat) (ρ0:Env) (h0:ρ0 n=v.val ρ) :
  (jjo n a).val ρ0=v.val ρ∧V.lt (n+(m+1)) (jjo n a)∧∀c,a=.r c→jaD w (ρ0 n) c∧jbM (fun k=>k<w.heap.size) (ρ0 n):=by
 unfold toA at ha;split at ha
 ·cases ha;exact⟨rfl,trivial,fun _ h=>by cases h⟩
 ·rename_i l;cases hd:jbt l with
  |none=>simp[hd]at ha
  |some ds =>
   simp only[hd,Option.map_some,Option.some.injEq]at ha;subst ha;rw[jb6 hd];refine⟨?_,(fun x hx=>?_),fun _ h=>by cases h⟩
   ·simp[jjo,V.val,W.val,C.val,Function.comp_def]
   ·obtain⟨y,_,rfl⟩:=List.mem_map.1 hx;trivial
 ·cases ha;exact⟨rfl,(fun _ h=>by cases h),fun _ h=>by cases h⟩
 ·rename_i k;split at ha
  ·rename_i c hc;split at ha
   ·cases ha
   ·rename_i e he;cases ha;cases hf:find hp k with
    |none=>simp[hf]at hc
    |some o =>
     simp only[hf,Option.bind_some]at hc;have hrow:=jaR (hh.ok k o hf).2.2 hc;have e0:ρ0 n=ρ k:=h0;refine⟨e0,(show n<n+(m+1) by omega),fun c' hc'=>?_⟩;cases hc';rw[e0];exact⟨hrow,jaD.lt hrow (by omega)⟩
  ·cases ha
 ·cases ha
theorem jxV (hh:HRel ρ B hp nx w) {q:Option Cont} {v:V} {a:A} (ha:toAK q hp v=some a) (n m:Nat) (ρ0:Env) (h0:ρ0 n=v.val ρ) :
  (jjo n a).val ρ0=v.val ρ∧V.lt (n+(m+1)) (jjo n a)∧∀c,a=.r c→jaD w (ρ0 n) c∧jbM (fun k=>k<w.heap.size) (ρ0 n):=by
 unfold toAK at ha;split at ha
 ·exact jst hh ha n m ρ0 h0
 ·rename_i c0;split at ha
  ·rename_i e hn hc he;cases ha;have hv:=jBf hn;subst hv;refine⟨h0,(show n<n+(m+1) by omega),fun c' hc'=>?_⟩;cases hc';rw[h0];refine⟨⟨none,0,by rw[hc];rfl,⟨by omega,fun _=>rfl⟩,fun h=>by omega⟩,fun a n cap h _=>?_⟩;cases h
  ·exact jst hh ha n m ρ0 h0
theorem jox (hh:HRel ρ B hp nx w):∀(qs:List (Option Cont)) (vs:List V) (asq:List A) (n:Nat) (ρ0:Env),jow qs hp vs=some asq→(∀i v,vs[i]?=some v→ρ0 (n+i)=v.val ρ) →
  (jdt n asq).map (V.val ρ0)=vs.map (V.val ρ)∧asq.length=vs.length∧(∀x∈jdt n asq,V.lt (n+asq.length) x) ∧
   ∀h o,find (jgm n asq) h=some o→n≤h∧h<n+asq.length∧∃c,o=.ext c∧jaD w (ρ0 h) c∧jbM (fun k=>k<w.heap.size) (ρ0 h)
 |_,[],asq,n,ρ0,h,_=>by
  simp only[jow,Option.some.injEq]at h;subst h;exact⟨rfl,rfl,(fun _ h=>by cases h),fun _ _ h=>by cases h⟩
 |qs,v::vs,asq,n,ρ0,h,hρ=>by
  simp only[jow]at h;split at h
  ·rename_i a r ha hr;cases h;have ih:=jox hh qs.tail vs r (n+1) ρ0 hr (fun i v hv=>by rw[show n+1+i=n+(i+1) by omega];exact hρ (i+1) v (by simpa using hv));have h0:=hρ 0 v rfl;rw[Nat.add_zero]at h0;have hv:=jxV hh ha n r.length ρ0 h0;have hag:∀x,V.lt (n+1+r.length) x→V.lt (n+(r.length+1)) x:=fun x hx=>V.lt_mono (by omega) hx;refine⟨by simp only[jdt,List.map_cons,hv.1,ih.1],by simp[ih.2.1],fun x hx=>?_,fun h o hf=>?_⟩
   ·rcases List.mem_cons.1 hx with rfl|hx
    ·simpa using hv.2.1
    ·simpa using hag x (ih.2.2.1 x hx)
   ·cases a with
    |r c =>
     simp only[jgm,find]at hf;split at hf
     ·rename_i e;subst e;cases hf;exact⟨Nat.le_refl _,by simp,c,rfl,hv.2.2 c rfl⟩
     ·have:=ih.2.2.2 h o hf;simp only[List.length_cons];exact⟨by omega,by omega,this.2.2⟩
    |d x=>have:=ih.2.2.2 h o hf;simp only[List.length_cons];exact⟨by omega,by omega,this.2.2⟩
    |s x=>have:=ih.2.2.2 h o hf;simp only[List.length_cons];exact⟨by omega,by omega,this.2.2⟩
    |f x=>have:=ih.2.2.2 h o hf;simp only[List.length_cons];exact⟨by omega,by omega,this.2.2⟩
  ·cases h
theorem jaQ {f:Nat} {fn:Func} {body:Code} {qs:List (Option Cont)} {g:List A→Option (Prop × List RV)} (hm:P.follows .mixedOrders=true) (hsp:jac P sp) (hf:P.funcs[f]?=some fn) (hb:fn.body=some body) (hn:(fn.name == "runtime.NumGoroutine")=false)
  (h:∀asq ob rs,g asq=some (ob,rs)→ob→asq.length≤fn.ntmps∧∃fuel loops,sx P sp fn.ntmps asq.length fuel loops (jb1 P sp fn.ntmps) body 0 [] ⟨jbZ 0 (jdt 0 asq),jgm 0 asq,asq.length⟩ (jcb P fn.results.toList fun v hp _=>jAM rs v hp)) :
  jaf P f true (jaF qs g):=by
 refine .inl ⟨jcu hf hb hn,fun ρ B w args hp nx r hS hob hlt hh hB=>?_⟩;unfold jaF at hS;split at hS
 ·rename_i asq has;split at hS
  ·rename_i ob rs hg;cases hS;obtain⟨hlen,fuel,loops,hx⟩:=h asq ob rs hg hob;have hto:=jox hh qs args asq 0 (fun i=>(args[i]?.map (V.val ρ)).getD undef) has (fun i v hv=>by simp[hv])
   have hal:(jdt 0 asq).length=asq.length:=by
    have:∀(l:List A) (n:Nat),(jdt n l).length=l.length:=fun l=>by
     induction l with
     |nil=>exact fun _=>rfl
     |cons a l ih=>exact fun n=>by simp[jdt,ih]
    exact this asq 0
   have hh0:HRel (fun i=>(args[i]?.map (V.val ρ)).getD undef) (kd fun k=>k<w.heap.size) (jgm 0 asq) asq.length w:=by
    refine⟨fun x o hf=>?_,fun x o x' o' k hf hf' _ hb=>?_,jjp hh.glob hB⟩
    ·obtain⟨_,h2,c,rfl,h3,h4⟩:=hto.2.2.2 x o hf;exact⟨by omega,trivial,h3,h4⟩
    ·obtain⟨_,_,c,rfl,_,_⟩:=hto.2.2.2 x o hf;cases hb
   have hcalls:=jsk (n0:=asq.length) (B:=kd fun k=>k<w.heap.size) hsp (fun ρ w=>jbx hm hsp) hf hb (by rw[hal];exact hlen) hx (fun x hx=>by simpa using hto.2.2.1 x hx) (Nat.le_refl _) _ w hh0 (fun k hk=>jaW.1 hk);rw[hto.1]at hcalls;refine hcalls.mono ?_;rintro e w' ⟨ρ',v,hp',nx',rfl,hvlt,hag,⟨B',gB,hh'⟩,hbel,_,hfit⟩;have hbw:Below w.heap.size w w':=hbel.below;have hh1:=hh.below hbw hB
   obtain⟨ws,hws,hfw⟩:∃ws,(jaU ws).val ρ'=v.val ρ'∧jeq hp' rs ws []:=by
    match v,hfit with
    | .w u,hfit=>exact⟨[u],rfl,hfit⟩
    | .t [],hfit=>exact⟨[],rfl,hfit⟩
    | .t (x::y::l),hfit=>exact⟨x::y::l,rfl,hfit⟩
   obtain⟨ρ'',h1,h2,h3,h4,h5,h6⟩:=jiv (m:=w.heap.size) (us0:=[]) (fun k hk=>.inl (.inl (gB.le.kp k hk))) hB hh' rs ws [] nx hp ρ (fun _ h=>h) hfw hh1 (fun k o b hk hb=>.inl (O.blk_lt (hh.ok k o hk).2.2 hb).1);refine⟨ρ'',?_,h1,jeR h4,h3,h2.gr,jb9 hbw hB,fun _=>hbw,fun _ h o k hle hf hb=>(h6 h o k hf).1 hle hb⟩
   show Ending.returned _=Ending.returned ((jaU (rvW nx rs)).val ρ'')
   rw[←hws,jcN,jcN];simp only[h5]
  ·cases hS
 ·cases hS
end
end Go.Sx
end
