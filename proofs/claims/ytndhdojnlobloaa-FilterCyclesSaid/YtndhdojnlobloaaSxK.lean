/- A symbolic executor for the model's code: the executor, proved. -/
import Derived.Test.YtndhdojnlobloaaSxJ
set_option linter.unusedSectionVars false
set_option linter.unusedSimpArgs false
set_option linter.unusedVariables false
open Go.RowKit
namespace Go.Sx

section
variable [Globs] {P : Program} {ρ : Env} {B : Bd} {N n0 : Nat} {st : St} {w : World} {a : Act} {sp : Specs}

theorem okDst_lt {d : Option Nat} (h : okDst N d = true) : ∀ t, d = some t → t < N := by
  intro t ht
  subst ht
  simpa [okDst, Nat.blt_eq] using h

theorem put_get {a : Act} {d : Option Nat} {v : Value} {t : Nat} (hd : ∀ x, d = some x → x < a.tmps.size) :
    (a.put d v).tmps.getD t undef = if d = some t then v else a.tmps.getD t undef := by
  cases d with
  | none => simp [Act.put]
  | some x =>
    have := hd x rfl
    simp only [Act.put, Option.some.injEq]
    by_cases h : x = t
    · subst h; simp [this]
    · simp [h, Array.getElem?_setIfInBounds_ne h]

theorem put_size {a : Act} {d : Option Nat} {v : Value} : (a.put d v).tmps.size = a.tmps.size := by
  cases d <;> simp [Act.put]
theorem put_defers {a : Act} {d : Option Nat} {v : Value} : (a.put d v).defers = a.defers := by
  cases d <;> simp [Act.put]

theorem Rel.put {o : Oper} {r : Res} {M : Bool} {ρ' : Env} {w' : World} (h : Rel ρ B N n0 st a w) (hd : okDst N o.dst = true) (hl : Left ρ B st.nx w r M ρ' w') :
    Rel ρ' B N n0 (st.put o.dst r) (a.put o.dst (r.v.val ρ')) w' := by
  have hdl : ∀ x, o.dst = some x → x < a.tmps.size := fun x hx => by rw [h.size]; exact okDst_lt hd x hx
  have hnx : (st.put o.dst r).nx = r.nx := by cases o.dst <;> rfl
  have hhp : (st.put o.dst r).hp = r.hp := by cases o.dst <;> rfl
  refine ⟨fun t v hv => ?_, by rw [put_size]; exact h.size, by rw [put_defers]; exact h.defers, by rw [hhp, hnx]; exact hl.heap, hl.below.old h.le, by rw [hnx]; exact Nat.le_trans h.n0 hl.le⟩
  rw [put_get hdl, hnx]
  have hold : ∀ v, getT st.tm t = some v → v.lt r.nx ∧ a.tmps.getD t undef = v.val ρ' := fun v hv => by
    have := h.tm t v hv
    exact ⟨V.lt_mono hl.le this.1, by rw [this.2, V.val_agree hl.agree this.1]⟩
  cases hdst : o.dst with
  | none =>
    simp only [hdst, St.put] at hv
    simpa using hold v hv
  | some x =>
    simp only [hdst, St.put, getT] at hv
    split at hv
    · rename_i e
      subst e
      cases hv
      simp [hl.lt]
    · rename_i e
      simp only [Option.some.injEq, e, if_false]
      exact hold v hv

theorem Rel.skip {o : Oper} (h : Rel ρ B N n0 st a w) (hd : okDst N o.dst = true) : Rel ρ B N n0 (st.put o.dst ⟨True, vu, st.hp, st.nx⟩) (a.put o.dst undef) w :=
  h.put (M := true) (o := o) (r := ⟨True, vu, st.hp, st.nx⟩) hd ⟨Agree.refl _ _, trivial, Nat.le_refl _, h.heap, Bel.refl _ _, (fun _ => Below.refl _ _), fun _ k o b hn hf _ => absurd (h.heap.ok k o hf).1 (by omega)⟩

/-- The known value of a test put in its place. -/
theorem Rel.know {t : Nat} {b : Bool} (h : Rel ρ B N n0 st a w) (hb : getT st.tm t = some (vb b)) : Rel ρ B N n0 ⟨(t, vb b) :: st.tm, st.hp, st.nx⟩ a w := by
  refine ⟨fun t' v hv => ?_, h.size, h.defers, h.heap, h.le, h.n0⟩
  simp only [getT] at hv
  split at hv
  · rename_i e
    subst e
    cases hv
    exact h.tm t _ hb
  · exact h.tm t' v hv

/-- What is to hold where the executor comes out. -/
def Qx (ρ0 : Env) (B : Bd) (N n0 : Nat) (w0 : World) (k : Ex → St → Prop) : Exit → Act → World → Prop := fun e a w =>
  ∃ x ρ st, e = x.toExit ∧ k x st ∧ Rel ρ B N n0 st a w ∧ Agree n0 ρ0 ρ ∧ Bel B w0 w

variable {ρ0 : Env} {w0 : World}

theorem intBin_triv {op : BinOp} {k k' : IntKind} {m n : Int} {ob : Prop} {v : V} (ht : (match op with | .quo | .rem | .shl | .shr => false | _ => true) = true) (h : intBin op k m k' n = some (ob, v)) : ob := by
  unfold intBin at h
  cases op <;> simp at ht h <;> obtain ⟨_, h, _⟩ := h <;> first | exact h | exact h ▸ trivial

theorem map_triv {α : Type} {x : Option α} {f : α → Prop × V} {ob : Prop} {v : V} (h : x.map f = some (ob, v)) (hf : ∀ a, (f a).1 = True) : ob := by
  cases x with
  | none => cases h
  | some a =>
    simp only [Option.map_some, Option.some.injEq] at h
    have := hf a
    rw [h] at this
    exact cast this.symm trivial

theorem trivW_ob {op : Op} {rd : Operand → Option V} {hp : Hp} {ob : Prop} {v : V} (ht : trivB op rd hp = true) (h : stepW P op rd hp = some (ob, v)) : ob := by
  unfold stepW at h
  unfold trivB at ht
  cases op with
  | binOp op t x y yt =>
    dsimp only at h ht
    split at h
    · rename_i u u' hx hy
      split at h
      · rename_i a b hu hu'
        split at h
        · simp [hx, hu] at ht
        · cases h
      · split at h
        · unfold nanBin at h
          cases op <;> simp at h <;> exact h.1
        · cases h
    · cases h
  | load t x =>
    dsimp only at h ht
    split at h
    · rename_i hx
      simp [hx] at ht
    · cases h
  | call c =>
    dsimp only at h ht
    split at h
    · split at h
      · split at h
        · cases h; trivial
        · cases h
      · cases h
    · cases h
  | nilCheck x =>
    dsimp only at h
    split at h
    · cases h; trivial
    · cases h
  | fieldAddr s x f =>
    dsimp only at h
    split at h
    · split at h
      · split at h
        · cases h; trivial
        · cases h
      · cases h
    · cases h
  | slice t x lo hi mx => simp at ht
  | index t x i => simp at ht
  | indexAddr t x i => simp at ht
  | sliceToArrayPointer t x => simp at ht
  | _ => simp at h

theorem trivX_ob {op : Op} {rd : Operand → Option V} {hp : Hp} {nx : Nat} {r : Res} (ht : trivB op rd hp = true) (h : stepX P op rd hp nx = some r) : r.ob := by
  unfold stepX at h
  unfold trivB at ht
  cases op with
  | box elem x =>
    dsimp only at h
    split at h
    · cases h; trivial
    · cases h
  | alloc elem =>
    dsimp only at h
    split at h
    · cases h; trivial
    · cases h
  | buildSlice t n ps =>
    dsimp only at h
    split at h
    · split at h
      · split at h
        · cases h; trivial
        · cases h
      · cases h
    · cases h
  | slice t x lo hi mx => simp at ht
  | load t x =>
    dsimp only at h ht
    split at h
    · rename_i hx
      split at h
      · rename_i hf
        simp [hx, hf] at ht
      · cases h
    · cases h
  | store t x y =>
    dsimp only at h ht
    split at h
    · rename_i hx hy
      split at h
      · rename_i hf
        simp [hx, hf] at ht
      · rename_i hf
        simp [hx, hf] at ht
      · cases h
    · rename_i hx hy
      split at h
      · rename_i hf
        simp [hx, hf] at ht
      · rename_i hf
        simp [hx, hf] at ht
      · cases h
    · rename_i hx hy
      split at h
      · rename_i hf
        simp [hx, hf] at ht
      · cases h
    · cases h
  | makeMap t r =>
    cases r with
    | none =>
      dsimp only at h
      split at h
      · cases h; trivial
      · cases h
    | some r => simp at h
  | lookup t x i ok =>
    cases ok with
    | true =>
      dsimp only at h
      split at h
      · split at h
        · cases h; trivial
        · cases h
      · cases h
    | false => simp at h
  | mapUpdate t m i y =>
    dsimp only at h
    split at h
    · split at h
      · cases h; trivial
      · cases h
    · cases h
  | _ => simp at h

theorem triv_ob {op : Op} {rd : Operand → Option V} {hp : Hp} {nx : Nat} {r : Res} (ht : trivB op rd hp = true) (h : step P sp op rd hp nx = some r) : r.ob := by
  unfold step at h
  cases hv : stepV P op rd hp with
  | some p =>
    obtain ⟨ob, v⟩ := p
    simp only [hv, Option.some.injEq] at h
    subst h
    show ob
    unfold stepV at hv
    split at hv
    rotate_left
    · exact trivW_ob ht hv
    rename_i p hv0
    cases hv
    have hv := hv0
    clear hv0
    unfold stepV0 at hv
    unfold trivB at ht
    cases op with
    | binOp op t x y yt =>
      dsimp only at hv ht
      split at hv
      · split at hv
        · refine intBin_triv ?_ hv
          cases op <;> first | rfl | exact ht
        · split at hv
          · split at hv
            · unfold boolBin at hv
              cases op <;> simp at hv <;> exact hv.1
            · cases hv
          · split at hv
            · unfold strBin at hv
              cases op <;> simp at hv <;> exact hv.1
            · split at hv
              · unfold fltBin at hv
                split at hv
                · cases op <;> simp at hv <;> exact hv.1
                · cases hv
              · split at hv
                · split at hv
                  · exact map_triv hv (fun _ => rfl)
                  · exact map_triv hv (fun _ => rfl)
                  · cases hv
                · cases hv
      · cases hv
    | load t x =>
      dsimp only at hv ht
      split at hv
      · rename_i k i e j hx
        simp only [hx] at ht
        split at hv
        · rename_i o hf
          simp only [hf] at ht
          cases o with
          | box ty cs =>
            unfold rdObj at hv
            split at hv
            · dsimp only at hv
              split at hv
              · split at hv
                · cases hv; trivial
                · cases hv
              · cases hc : cs[i * e + j]? with
                | none => simp [hc] at hv
                | some c => simp [hc] at hv; exact hv.1
            · cases hv
          | _ => simp at ht
        · cases hv
      · cases hv
    | call c =>
      dsimp only at hv ht
      split at hv
      · split at hv
        · exact map_triv hv (fun _ => rfl)
        · split at hv
          · cases hv; trivial
          · cases hv
        · exact map_triv hv (fun _ => rfl)
        · cases hv; trivial
        · cases hv
      · split at hv
        · exact map_triv hv (fun _ => rfl)
        · cases hv
      · split at hv
        · exact map_triv hv (fun _ => rfl)
        · cases hv
      · cases hv
    | pick c x y =>
      dsimp only at hv
      split at hv
      · exact map_triv hv (fun _ => rfl)
      · exact map_triv hv (fun _ => rfl)
      · cases hv
    | unOp op t x =>
      dsimp only at hv
      split at hv
      · exact map_triv hv (fun _ => rfl)
      · exact map_triv hv (fun _ => rfl)
      · cases hv
    | move x => exact map_triv hv (fun _ => rfl)
    | assign x => exact map_triv hv (fun _ => rfl)
    | extract t i =>
      dsimp only at hv
      split at hv
      · exact map_triv hv (fun _ => rfl)
      · cases hv
    | field t x f =>
      dsimp only at hv
      split at hv
      · split at hv
        · exact map_triv hv (fun _ => rfl)
        · cases hv
      · cases hv
    | nilCheck x =>
      dsimp only at hv
      split at hv
      · cases hv; trivial
      · cases hv
    | fieldAddr s x f =>
      dsimp only at hv
      split at hv
      · split at hv
        · split at hv
          · cases hv; trivial
          · cases hv
        · cases hv
      · cases hv
    | build t parts =>
      dsimp only at hv
      split at hv
      · exact map_triv hv (fun _ => rfl)
      · cases hv
    | makeFunc f first cap =>
      cases f with
      | func f =>
        dsimp only at hv
        split at hv
        · cases hv; trivial
        · split at hv
          · cases hv; trivial
          · cases hv
        · cases hv
      | _ => simp at hv
    | _ => simp at hv ht
  | none =>
    simp only [hv] at h
    split at h
    · rename_i r0 hR
      unfold stepR at hR
      split at hR
      · simp [trivB] at ht
      · cases hR
    split at h
    · rename_i r0 hX
      cases h
      exact trivX_ob ht hX
    unfold stepH at h
    unfold trivB at ht
    cases op with
    | box elem x =>
      dsimp only at h
      split at h
      · split at h
        · cases h; trivial
        · cases h
      · cases h
    | alloc elem =>
      dsimp only at h
      split at h
      · cases h; trivial
      · cases h
    | buildSlice t n ps =>
      dsimp only at h
      split at h
      · split at h
        · cases h; trivial
        · cases h
      · cases h
    | store t x y =>
      dsimp only at h ht
      split at h
      · rename_i k i e j u hx hy
        simp only [hx] at ht
        split at h
        · split at h
          · split at h
            · cases h; trivial
            · cases h
          · rename_i hf
            simp [hf] at ht
          · cases h
        · cases h
      · cases h
    | call c =>
      dsimp only at h ht
      split at h
      · rename_i hc _ _
        simp [hc] at ht
      · rename_i hc
        simp [hc] at ht
      · cases h
    | _ => simp at h ht

theorem doOp_sound {o : Oper} {k : St → Prop} {K : Act → World → Prop} {Q : Exit → Act → World → Prop} (hsp : SpecsOK P sp) (hr : Rel ρ B N n0 st a w) (hag : Agree n0 ρ0 ρ) (hbl : Bel B w0 w) (h : doOp P sp N o st k)
    (hK : ∀ ρ' st' a' w', Rel ρ' B N n0 st' a' w' → Agree n0 ρ0 ρ' → Bel B w0 w' → k st' → K a' w') : o.wp P a w K Q := by
  unfold doOp at h
  split at h
  · rename_i t ht2
    split at h
    · rename_i hd
      have h := RT.run_sel h
      obtain ⟨M, hS⟩ := stepT_sound hsp hr.heap hr.le hr.reads ht2 h.1.h
      refine hS K Q fun ρ' w' hl => ?_
      exact hK ρ' _ _ w' (hr.put hd hl) (hag.trans hl.agree hr.n0) (hbl.trans hl.below) h.2
    · exact h.elim
  split at h
  · rename_i r hr2
    split at h
    · rename_i hd
      split at h
      · rename_i ht
        refine step_sound hsp hr.heap hr.le hr.reads hr2 (triv_ob ht hr2) K Q fun ρ' w' hl => ?_
        exact hK ρ' _ _ w' (hr.put hd hl) (hag.trans hl.agree hr.n0) (hbl.trans hl.below) h
      · refine step_sound hsp hr.heap hr.le hr.reads hr2 h.1.h K Q fun ρ' w' hl => ?_
        exact hK ρ' _ _ w' (hr.put hd hl) (hag.trans hl.agree hr.n0) (hbl.trans hl.below) h.2
    · exact h.elim
  · exact h.elim

theorem skipOp_sound {o : Oper} {k : St → Prop} {K : Act → World → Prop} (hr : Rel ρ B N n0 st a w) (hag : Agree n0 ρ0 ρ) (hbl : Bel B w0 w) (h : skipOp N o st k)
    (hK : ∀ ρ' st' a' w', Rel ρ' B N n0 st' a' w' → Agree n0 ρ0 ρ' → Bel B w0 w' → k st' → K a' w') : K (a.put o.dst undef) w := by
  unfold skipOp at h
  split at h
  · rename_i hd
    exact hK ρ _ _ w (hr.skip hd) hag hbl h
  · exact h.elim

theorem guard_yielded {all : List Oper} {j t : Nat} {v : V} (hr : Rel ρ B N n0 st a w) (h : guardOf all j st = some (t, v)) (ht : t < N ∨ v = v) :
    yielded all.toArray a.tmps j = (match v.val ρ with | .bool b => some b | _ => none) ∧ getT st.tm t = some v := by
  unfold guardOf at h
  cases hd : (all[j]?).bind (·.dst) with
  | none => simp [hd] at h
  | some t' =>
    cases hg : getT st.tm t' with
    | none => simp [hd, hg] at h
    | some v' =>
      simp [hd, hg] at h
      obtain ⟨rfl, rfl⟩ := h
      refine ⟨?_, hg⟩
      have h1 := (hr.tm t' v' hg).2
      unfold yielded
      have hd2 : ((all.toArray[j]?).bind (·.dst)) = some t' := by simpa using hd
      rw [hd2]
      simp only [Option.bind_some]
      rw [← h1]
      by_cases hlt : t' < a.tmps.size
      · simp only [Array.getD_eq_getD_getElem?, Array.getElem?_eq_getElem hlt, Option.getD_some]
        cases a.tmps[t'] <;> rfl
      · simp [hlt, undef]

theorem opsX_sound {all : List Oper} {Q : Exit → Act → World → Prop} {k : St → Prop} (hsp : SpecsOK P sp)
    (hQ : ∀ ρ' st' a' w', Rel ρ' B N n0 st' a' w' → Agree n0 ρ0 ρ' → Bel B w0 w' → k st' → Q .normal a' w') :
    ∀ (l : List Oper) (ρ : Env) (st : St) (a : Act) (w : World), Rel ρ B N n0 st a w → Agree n0 ρ0 ρ → Bel B w0 w → opsX P sp N all l st k → wpList P all.toArray Q l a w
  | [], ρ, st, a, w, hr, hag, hbl, h => hQ ρ st a w hr hag hbl h
  | o :: r, ρ, st, a, w, hr, hag, hbl, h => by
    have ih := fun ρ' st' a' w' (h1 : Rel ρ' B N n0 st' a' w') h2 h3 h4 => opsX_sound (all := all) hsp hQ r ρ' st' a' w' h1 h2 h3 h4
    unfold opsX at h
    unfold wpList
    cases hg : o.guard with
    | none =>
      simp only [hg] at h
      have hw : Region.wanted o (yielded all.toArray a.tmps) = true := by simp [Region.wanted, hg]
      rw [if_pos hw]
      exact .inl (doOp_sound hsp hr hag hbl h ih)
    | some p =>
      obtain ⟨j, want⟩ := p
      simp only [hg] at h
      have hwanted : ∀ ob, yielded all.toArray a.tmps j = ob → Region.wanted o (yielded all.toArray a.tmps) = (ob == some want) := fun ob hob => by simp [Region.wanted, hg, hob]
      split at h
      · rename_i t b hgo
        obtain ⟨hy, hget⟩ := guard_yielded hr hgo (.inr rfl)
        have hw := hwanted _ hy
        have hval : (V.w (.c (.d (.b b)))).val ρ = .bool b := rfl
        rw [hval] at hw
        have hkn := hr.know hget
        cases b <;> cases want <;> simp only [Br] at h
        · rw [if_pos (by rw [hw]; rfl)]
          exact .inl (doOp_sound hsp hkn hag hbl h ih)
        · rw [if_neg (by rw [hw]; simp)]
          exact skipOp_sound hkn hag hbl h ih
        · rw [if_neg (by rw [hw]; simp)]
          exact skipOp_sound hkn hag hbl h ih
        · rw [if_pos (by rw [hw]; rfl)]
          exact .inl (doOp_sound hsp hkn hag hbl h ih)
      · rename_i t vs hgo
        obtain ⟨hy, hget⟩ := guard_yielded hr hgo (.inr rfl)
        have hw := hwanted _ hy
        have hval : (V.w (.c (.d (.v (.tuple vs))))).val ρ = .tuple vs := rfl
        rw [hval] at hw
        rw [if_neg (by rw [hw]; simp)]
        exact skipOp_sound hr hag hbl h ih
      · exact h.elim

/-! ### the weaker state -/

def envOf (ρ : Env) (m : Rn) : Env := fun h => match lookR m h with
  | some (some s) => ρ s
  | some none => .slice none 0 0
  | none => ρ h

/-- The later naming keeps what the earlier one has. -/
def Ext (m m' : Rn) : Prop := ∀ h x, lookR m h = some x → lookR m' h = some x

theorem Ext.refl (m : Rn) : Ext m m := fun _ _ h => h
theorem Ext.trans {a b c : Rn} (h : Ext a b) (k : Ext b c) : Ext a c := fun x y hx => k x y (h x y hx)

def Inj (m : Rn) : Prop := ∀ h h' s, lookR m h = some (some s) → lookR m h' = some (some s) → h = h'

theorem usedR_spec {m : Rn} {s : Nat} (h : usedR m s = false) : ∀ x, lookR m x ≠ some (some s) := by
  induction m with
  | nil => intro x hx; simp [lookR] at hx
  | cons p r ih =>
    obtain ⟨k, v⟩ := p
    simp only [usedR, List.any_cons, Bool.or_eq_false_iff] at h
    intro x hx
    simp only [lookR] at hx
    split at hx
    · simp only [Option.some.injEq] at hx
      subst hx
      simp at h
    · exact ih (by simpa [usedR] using h.2) x hx

theorem ext_cons {m : Rn} {h : Nat} {x : Option Nat} (hn : lookR m h = none) : Ext m ((h, x) :: m) := by
  intro k y hk
  simp only [lookR]
  split
  · rename_i e
    subst e
    rw [hn] at hk
    cases hk
  · exact hk

theorem bindR_spec {h' h : Nat} {m : Rn} {k : Rn → Prop} (hb : bindR h' h m k) (hi : Inj m) : ∃ m', k m' ∧ Ext m m' ∧ Inj m' ∧ lookR m' h' = some (some h) := by
  unfold bindR at hb
  split at hb
  · rename_i s hs
    split at hb
    · rename_i e
      subst e
      exact ⟨m, hb, Ext.refl m, hi, hs⟩
    · exact hb.elim
  · exact hb.elim
  · rename_i hn
    split at hb
    · exact hb.elim
    · rename_i hu
      have hu' := usedR_spec hu
      refine ⟨_, hb, ext_cons hn, ?_, by simp [lookR]⟩
      intro x y s hx hy
      simp only [lookR] at hx hy
      split at hx
      · rename_i e
        subst e
        simp only [Option.some.injEq] at hx
        subst hx
        split at hy
        · rename_i e; exact e
        · exact absurd hy (hu' y)
      · split at hy
        · rename_i e
          subst e
          simp only [Option.some.injEq] at hy
          subst hy
          exact absurd hx (hu' x)
        · exact hi x y s hx hy

theorem nilR_inj {m : Rn} {h : Nat} (hi : Inj m) : Inj ((h, none) :: m) := by
  intro x y s hx hy
  simp only [lookR] at hx hy
  split at hx
  · cases hx
  · split at hy
    · cases hy
    · exact hi x y s hx hy

theorem mD_spec {d' d : D} (h : mD d' d) : d' = d := by
  unfold mD at h
  split at h
  all_goals first
    | exact h.elim
    | (rw [h.h]; done)
    | (split at h
       · rename_i e; obtain ⟨rfl, rfl⟩ := e; rw [h.h]
       · exact h.elim)
    | (split at h
       · rename_i e; subst e; rw [h.h]
       · exact h.elim)
theorem mX_spec {c' c : XC} (h : mX c' c) : c' = c := by
  unfold mX at h
  split at h
  all_goals first
    | exact h.elim
    | (split at h
       · rename_i e; obtain ⟨rfl, rfl⟩ := e; rw [h.h]
       · exact h.elim)
    | (split at h
       · rename_i e; subst e; rw [h.h]
       · exact h.elim)

/-- Under any later naming the two stand for one value. -/
def Same (ρ : Env) (m : Rn) (f : Env → Value) (v : Value) : Prop := ∀ m', Ext m m' → f (envOf ρ m') = v

theorem envOf_some {ρ : Env} {m : Rn} {h s : Nat} (h1 : lookR m h = some (some s)) : envOf ρ m h = ρ s := by simp [envOf, h1]
theorem envOf_nil {ρ : Env} {m : Rn} {h : Nat} (h1 : lookR m h = some none) : envOf ρ m h = .slice none 0 0 := by simp [envOf, h1]

theorem bindL_spec : ∀ {l' l : List Nat} {m : Rn} {k : Rn → Prop}, bindL l' l m k → Inj m → ∃ m', k m' ∧ Ext m m' ∧ Inj m' ∧ ∀ m2, Ext m' m2 → l'.map (envOf ρ m2) = l.map ρ
  | [], [], m, k, h, hi => ⟨m, h, Ext.refl m, hi, fun _ _ => rfl⟩
  | x' :: r', x :: r, m, k, h, hi => by
    obtain ⟨m1, h1, hE1, hI1, hl1⟩ := bindR_spec h hi
    obtain ⟨m2, h2, hE2, hI2, hS2⟩ := bindL_spec h1 hI1
    refine ⟨m2, h2, hE1.trans hE2, hI2, fun m3 h3 => ?_⟩
    simp only [List.map_cons, hS2 m3 h3, envOf_some (h3 _ _ (hE2 _ _ hl1))]
  | [], _ :: _, _, _, h, _ => h.elim
  | _ :: _, [], _, _, h, _ => h.elim

theorem mC_spec {x' x : C} {m : Rn} {k : Rn → Prop} (h : mC x' x m k) (hi : Inj m) : ∃ m', k m' ∧ Ext m m' ∧ Inj m' ∧ Same ρ m' (fun ρ' => x'.val ρ') (x.val ρ) := by
  unfold mC at h
  split at h
  · rename_i d' d
    exact ⟨m, h.2, Ext.refl m, hi, fun m' _ => by rw [mD_spec h.1]; rfl⟩
  · rename_i h' i' e' j' hh i e j
    split at h
    · rename_i he
      obtain ⟨rfl, rfl⟩ := he
      obtain ⟨⟨rfl⟩, hb⟩ := h
      obtain ⟨m', hk, hE, hI, hl⟩ := bindR_spec hb hi
      exact ⟨m', hk, hE, hI, fun m2 h2 => by simp only [C.val, envOf_some (h2 _ _ hl)]⟩
    · exact h.elim
  · rename_i h' hh
    obtain ⟨m', hk, hE, hI, hl⟩ := bindR_spec h hi
    exact ⟨m', hk, hE, hI, fun m2 h2 => by simp only [C.val, envOf_some (h2 _ _ hl)]⟩
  · rename_i h'
    split at h
    · rename_i hl
      exact ⟨m, h, Ext.refl m, hi, fun m2 h2 => by simp only [C.val, envOf_nil (h2 _ _ hl), D.val]⟩
    · exact h.elim
    · rename_i hn
      refine ⟨_, h, ext_cons hn, nilR_inj hi, fun m2 h2 => ?_⟩
      simp only [C.val, envOf_nil (h2 h' none (by simp [lookR])), D.val]
  · split at h
    · rename_i e
      subst e
      obtain ⟨m', hk, hE, hI, hl⟩ := bindL_spec (ρ := ρ) h hi
      exact ⟨m', hk, hE, hI, fun m2 h2 => by simp only [C.val, hl m2 h2]⟩
    · exact h.elim
  · split at h
    · rename_i e
      subst e
      obtain ⟨m', hk, hE, hI, hl⟩ := bindL_spec (ρ := ρ) h hi
      exact ⟨m', hk, hE, hI, fun m2 h2 => by simp only [C.val, hl m2 h2]⟩
    · exact h.elim
  · split at h
    · rename_i e
      obtain ⟨rfl, rfl, rfl⟩ := e
      obtain ⟨⟨rfl⟩, hk⟩ := h
      exact ⟨m, hk, Ext.refl m, hi, fun _ _ => rfl⟩
    · exact h.elim
  · exact h.elim

theorem mCs_spec : ∀ {l' l : List C} {m : Rn} {k : Rn → Prop}, mCs l' l m k → Inj m → ∃ m', k m' ∧ Ext m m' ∧ Inj m' ∧ ∀ m2, Ext m' m2 → l'.map (C.val (envOf ρ m2)) = l.map (C.val ρ)
  | [], [], m, k, h, hi => ⟨m, h, Ext.refl m, hi, fun _ _ => rfl⟩
  | x' :: r', x :: r, m, k, h, hi => by
    obtain ⟨m1, h1, hE1, hI1, hS1⟩ := mC_spec (ρ := ρ) h hi
    obtain ⟨m2, h2, hE2, hI2, hS2⟩ := mCs_spec h1 hI1
    refine ⟨m2, h2, hE1.trans hE2, hI2, fun m3 h3 => ?_⟩
    simp only [List.map_cons, hS2 m3 h3, hS1 m3 (hE2.trans h3)]
  | [], _ :: _, _, _, h, _ => h.elim
  | _ :: _, [], _, _, h, _ => h.elim

theorem mW_spec {x' x : W} {m : Rn} {k : Rn → Prop} (h : mW x' x m k) (hi : Inj m) : ∃ m', k m' ∧ Ext m m' ∧ Inj m' ∧ Same ρ m' (fun ρ' => x'.val ρ') (x.val ρ) := by
  unfold mW at h
  split at h
  · exact mC_spec h hi
  · obtain ⟨m', h1, h2, h3, h4⟩ := mCs_spec (ρ := ρ) h hi
    exact ⟨m', h1, h2, h3, fun m2 h5 => by simp only [W.val, h4 m2 h5]⟩
  · split at h
    · rename_i e
      obtain ⟨rfl, rfl⟩ := e
      obtain ⟨⟨rfl⟩, hk⟩ := h
      exact ⟨m, hk, Ext.refl m, hi, fun _ _ => rfl⟩
    · exact h.elim
  · exact h.elim

theorem mWs_spec : ∀ {l' l : List W} {m : Rn} {k : Rn → Prop}, mWs l' l m k → Inj m → ∃ m', k m' ∧ Ext m m' ∧ Inj m' ∧ ∀ m2, Ext m' m2 → l'.map (W.val (envOf ρ m2)) = l.map (W.val ρ)
  | [], [], m, k, h, hi => ⟨m, h, Ext.refl m, hi, fun _ _ => rfl⟩
  | x' :: r', x :: r, m, k, h, hi => by
    obtain ⟨m1, h1, hE1, hI1, hS1⟩ := mW_spec (ρ := ρ) h hi
    obtain ⟨m2, h2, hE2, hI2, hS2⟩ := mWs_spec h1 hI1
    refine ⟨m2, h2, hE1.trans hE2, hI2, fun m3 h3 => ?_⟩
    simp only [List.map_cons, hS2 m3 h3, hS1 m3 (hE2.trans h3)]
  | [], _ :: _, _, _, h, _ => h.elim
  | _ :: _, [], _, _, h, _ => h.elim

theorem mV_spec {x' x : V} {m : Rn} {k : Rn → Prop} (h : mV x' x m k) (hi : Inj m) : ∃ m', k m' ∧ Ext m m' ∧ Inj m' ∧ Same ρ m' (fun ρ' => x'.val ρ') (x.val ρ) := by
  unfold mV at h
  split at h
  · exact mW_spec h hi
  · obtain ⟨m', h1, h2, h3, h4⟩ := mWs_spec (ρ := ρ) h hi
    exact ⟨m', h1, h2, h3, fun m2 h5 => by simp only [V.val, h4 m2 h5]⟩
  · exact h.elim

theorem mT_spec (tm : List (Nat × V)) : ∀ {l : List (Nat × V)} {m : Rn} {k : Rn → Prop}, mT l tm m k → Inj m → ∃ m', k m' ∧ Ext m m' ∧ Inj m' ∧
    ∀ t v', getT l t = some v' → ∃ v, getT tm t = some v ∧ Same ρ m' (fun ρ' => v'.val ρ') (v.val ρ)
  | [], m, k, h, hi => ⟨m, h, Ext.refl m, hi, fun _ _ hv => by cases hv⟩
  | (t0, v0) :: r, m, k, h, hi => by
    unfold mT at h
    split at h
    · rename_i v hv
      obtain ⟨m1, h1, hE1, hI1, hS1⟩ := mV_spec (ρ := ρ) h hi
      obtain ⟨m2, h2, hE2, hI2, hS2⟩ := mT_spec tm h1 hI1
      refine ⟨m2, h2, hE1.trans hE2, hI2, fun t v' hv' => ?_⟩
      simp only [getT] at hv'
      split at hv'
      · rename_i e
        subst e
        cases hv'
        exact ⟨v, hv, fun m3 h3 => hS1 m3 (hE2.trans h3)⟩
      · exact hS2 t v' hv'
    · exact h.elim

theorem mCont_spec {c' c : Cont} (h : mCont c' c) : c' = c := by
  unfold mCont at h
  split at h
  all_goals first
    | exact h.elim
    | (rw [h.h]; done)
    | (split at h
       · rename_i e; obtain ⟨rfl, rfl⟩ := e; rw [h.h]
       · exact h.elim)
    | (split at h
       · rename_i e; subst e; rw [h.h]
       · exact h.elim)

/-- What is known of an object of the weaker state. -/
def Obj' (ρ : Env) (B : Bd) (w : World) (hp : Hp) (m : Rn) (h' : Nat) (o' : O) : Prop :=
  (∀ m2, Ext m m2 → o'.ok (envOf ρ m2) B w h') ∧
  ((∃ s o, lookR m h' = some (some s) ∧ find hp s = some o ∧ ∀ m2, Ext m m2 → ∀ k, o'.blk (envOf ρ m2 h') = some k → o.blk (ρ s) = some k) ∨ (∀ m2, Ext m m2 → o'.blk (envOf ρ m2 h') = none))

theorem Obj'.mono {hp : Hp} {m m' : Rn} {h' : Nat} {o' : O} (h : Obj' ρ B w hp m h' o') (hE : Ext m m') : Obj' ρ B w hp m' h' o' := by
  refine ⟨fun m2 h2 => h.1 m2 (hE.trans h2), ?_⟩
  rcases h.2 with ⟨s, o, h1, h2, h3⟩ | h1
  · exact .inl ⟨s, o, hE _ _ h1, h2, fun m2 h4 => h3 m2 (hE.trans h4)⟩
  · exact .inr fun m2 h2 => h1 m2 (hE.trans h2)

theorem mO_spec {hp : Hp} {nx h' s : Nat} {o' o : O} {m : Rn} {k : Rn → Prop} (h : mO o' o m k) (hi : Inj m) (hh : HRel ρ B hp nx w) (hf : find hp s = some o) (hl : lookR m h' = some (some s)) :
    ∃ m', k m' ∧ Ext m m' ∧ Inj m' ∧ Obj' ρ B w hp m' h' o' := by
  have hok := (hh.ok s o hf).2.2
  unfold mO at h
  split at h
  · rename_i ty cs' ty' cs
    split at h
    · rename_i e
      subst e
      obtain ⟨m1, h1, hE, hI, hS⟩ := mCs_spec (ρ := ρ) h hi
      refine ⟨m1, h1, hE, hI, fun m2 h2 => ?_, .inl ⟨s, _, hE _ _ hl, hf, fun m2 h2 k hk => ?_⟩⟩
      · obtain ⟨g, h3, h4, h5⟩ := hok
        exact ⟨g, by rw [envOf_some (h2 _ _ (hE _ _ hl))]; exact h3, h4, by rw [hS m2 h2]; exact h5⟩
      · rw [envOf_some (h2 _ _ (hE _ _ hl))] at hk
        exact hk
    · exact h.elim
  · rename_i ty c' ty' c
    split at h
    · rename_i e
      subst e
      have hc := mCont_spec h.1
      subst hc
      refine ⟨m, h.2, Ext.refl m, hi, fun m2 h2 => ?_, .inl ⟨s, _, hl, hf, fun m2 h2 k hk => ?_⟩⟩
      · unfold O.ok
        rw [envOf_some (h2 _ _ hl)]
        exact hok
      · rw [envOf_some (h2 _ _ hl)] at hk
        exact hk
    · exact h.elim
  · rename_i c' c
    have hc := mCont_spec h.1
    subst hc
    refine ⟨m, h.2, Ext.refl m, hi, fun m2 h2 => ?_, .inr fun _ _ => rfl⟩
    unfold O.ok
    rw [envOf_some (h2 _ _ hl)]
    exact hok
  · split at h
    · rename_i hk
      have hk := sameK_eq hk
      subst hk
      refine ⟨m, h, Ext.refl m, hi, fun m2 h2 => ?_, .inr fun _ _ => rfl⟩
      unfold O.ok
      rw [envOf_some (h2 _ _ hl)]
      exact hok
    · exact h.elim
  · rename_i cs' cs
    obtain ⟨m1, h1, hE, hI, hS⟩ := mCs_spec (ρ := ρ) h hi
    refine ⟨m1, h1, hE, hI, fun m2 h2 => ?_, .inr fun _ _ => rfl⟩
    obtain ⟨g, o, h3, h4, h5⟩ := hok
    refine ⟨g, o, by rw [envOf_some (h2 _ _ (hE _ _ hl))]; exact h3, h4, fun j c hj => ?_⟩
    have hj2 : (List.map (C.val (envOf ρ m2)) cs')[j]? = some (c.val (envOf ρ m2)) := by rw [List.getElem?_map, hj]; rfl
    rw [hS m2 h2, List.getElem?_map] at hj2
    obtain ⟨c0, hc0, he0⟩ := Option.map_eq_some_iff.1 hj2
    rw [← he0]
    exact h5 j c0 hc0
  · split at h
    · rename_i e
      obtain ⟨rfl, rfl, rfl⟩ := e
      obtain ⟨⟨rfl⟩, hk⟩ := h
      refine ⟨m, hk, Ext.refl m, hi, fun m2 h2 => ?_, .inl ⟨s, _, hl, hf, fun m2 h2 k hk => ?_⟩⟩
      · unfold O.ok
        rw [envOf_some (h2 _ _ hl)]
        exact hok
      · rw [envOf_some (h2 _ _ hl)] at hk
        exact hk
    · exact h.elim
  · have hc := mX_spec h.1
    subst hc
    refine ⟨m, h.2, Ext.refl m, hi, fun m2 h2 => ?_, .inr fun _ _ => rfl⟩
    unfold O.ok
    rw [envOf_some (h2 _ _ hl)]
    exact hok
  · obtain ⟨⟨rfl⟩, hk⟩ := h
    refine ⟨m, hk, Ext.refl m, hi, fun m2 h2 => ?_, .inl ⟨s, _, hl, hf, fun m2 h2 k hk => ?_⟩⟩
    · unfold O.ok
      rw [envOf_some (h2 _ _ hl)]
      exact hok
    · rw [envOf_some (h2 _ _ hl)] at hk
      exact hk
  · have hc := mCont_spec h.1
    subst hc
    refine ⟨m, h.2, Ext.refl m, hi, fun m2 h2 => ?_, .inl ⟨s, _, hl, hf, fun m2 h2 k hk => ?_⟩⟩
    · unfold O.ok
      rw [envOf_some (h2 _ _ hl)]
      exact hok
    · rw [envOf_some (h2 _ _ hl)] at hk
      exact hk
  · rename_i r' c'
    split at h
    · rename_i c hc
      have he := mCont_spec h.1
      subst he
      refine ⟨m, h.2, Ext.refl m, hi, fun m2 h2 => ?_, .inr fun _ _ => rfl⟩
      unfold O.ok
      rw [envOf_some (h2 _ _ hl)]
      exact ⟨row_isRow hok hc, fun h => by cases h⟩
    · exact h.elim
  · exact h.elim

theorem mH_spec {hp : Hp} {nx : Nat} (hh : HRel ρ B hp nx w) : ∀ {l : Hp} {m : Rn} {k : Rn → Prop}, mH l hp m k → Inj m → ∃ m', k m' ∧ Ext m m' ∧ Inj m' ∧ ∀ h' o', find l h' = some o' → Obj' ρ B w hp m' h' o'
  | [], m, k, h, hi => ⟨m, h, Ext.refl m, hi, fun _ _ hv => by cases hv⟩
  | (h0, o0) :: r, m, k, h, hi => by
    have close : ∀ m1, Ext m m1 → Inj m1 → Obj' ρ B w hp m1 h0 o0 → mH r hp m1 k → ∃ m', k m' ∧ Ext m m' ∧ Inj m' ∧ ∀ h' o', find ((h0, o0) :: r) h' = some o' → Obj' ρ B w hp m' h' o' := by
      intro m1 hE1 hI1 hO1 h1
      obtain ⟨m2, h2, hE2, hI2, hS2⟩ := mH_spec hh h1 hI1
      refine ⟨m2, h2, hE1.trans hE2, hI2, fun h' o' hf => ?_⟩
      simp only [find] at hf
      split at hf
      · rename_i e
        subst e
        cases hf
        exact hO1.mono hE2
      · exact hS2 h' o' hf
    unfold mH at h
    split at h
    · rename_i s hs
      split at h
      · rename_i o hf
        obtain ⟨m1, h1, hE1, hI1, hO1⟩ := mO_spec h hi hh hf hs
        exact close m1 hE1 hI1 hO1 h1
      · exact h.elim
    · rename_i hs
      split at h
      · rename_i ty c
        refine close m (Ext.refl m) hi ⟨fun m2 h2 => ?_, .inr fun m2 h2 => ?_⟩ h.2
        · have hfl : c.flat = [] := List.eq_nil_of_length_eq_zero (by rw [Cont.flat_length, h.1.h, Nat.zero_mul])
          show w.ownsRow 0 ty c.e (envOf ρ m2 h0) c.n (c.flat.map D.val) ∧ ∀ k, (envOf ρ m2 h0).ownBlock = some k → ¬ B k
          rw [envOf_nil (h2 _ _ hs), hfl, h.1.h]
          exact ⟨World.ownsRow_nil w 0 ty c.e, fun k hk => by cases hk⟩
        · rw [envOf_nil (h2 _ _ hs)]
          rfl
      · exact h.elim
    · split at h
      · rename_i o hf
        obtain ⟨m1, h1, hE1, hI1, hl1⟩ := bindR_spec h hi
        obtain ⟨m2, h2, hE2, hI2, hO2⟩ := mO_spec h1 hI1 hh hf hl1
        exact close m2 (hE1.trans hE2) hI2 hO2 h2
      · exact h.elim

theorem C.ltb_spec {n : Nat} {x : C} (h : x.ltb n = true) : x.lt n := by
  cases x with
  | d => trivial
  | p => simpa [C.ltb, C.lt, Nat.blt_eq] using h
  | o => simpa [C.ltb, C.lt, Nat.blt_eq] using h
  | fn f hs => intro y hy; have := List.all_eq_true.1 h y hy; simpa [Nat.blt_eq] using this
  | fb f hs => intro y hy; have := List.all_eq_true.1 h y hy; simpa [Nat.blt_eq] using this
  | g => trivial
theorem W.ltb_spec {n : Nat} {x : W} (h : x.ltb n = true) : x.lt n := by
  cases x with
  | c c => exact C.ltb_spec h
  | a l => exact fun y hy => C.ltb_spec (List.all_eq_true.1 h y hy)
  | b => trivial
theorem V.ltb_spec {n : Nat} {x : V} (h : x.ltb n = true) : x.lt n := by
  cases x with
  | w c => exact W.ltb_spec h
  | t l => exact fun y hy => W.ltb_spec (List.all_eq_true.1 h y hy)
theorem O.ltb_spec {n : Nat} {x : O} (h : x.ltb n = true) : x.lt n := by
  cases x with
  | box ty cs => exact fun y hy => C.ltb_spec (List.all_eq_true.1 h y hy)
  | view r c _ => simpa [O.ltb, O.lt, Nat.blt_eq] using h
  | ebox cs => exact fun y hy => C.ltb_spec (List.all_eq_true.1 h y hy)
  | _ => trivial

theorem getT_mem {l : List (Nat × V)} {t : Nat} {v : V} (h : getT l t = some v) : (t, v) ∈ l := by
  induction l with
  | nil => cases h
  | cons p r ih =>
    obtain ⟨k, x⟩ := p
    simp only [getT] at h
    split at h
    · rename_i e; subst e; cases h; exact List.mem_cons_self
    · exact List.mem_cons_of_mem _ (ih h)
theorem find_mem {l : Hp} {t : Nat} {v : O} (h : find l t = some v) : (t, v) ∈ l := by
  induction l with
  | nil => cases h
  | cons p r ih =>
    obtain ⟨k, x⟩ := p
    simp only [find] at h
    split at h
    · rename_i e; subst e; cases h; exact List.mem_cons_self
    · exact List.mem_cons_of_mem _ (ih h)

theorem lookR_mem {l : Rn} {t : Nat} {v : Option Nat} (h : lookR l t = some v) : (t, v) ∈ l := by
  induction l with
  | nil => cases h
  | cons p r ih =>
    obtain ⟨k, x⟩ := p
    simp only [lookR] at h
    split at h
    · rename_i e; subst e; cases h; exact List.mem_cons_self
    · exact List.mem_cons_of_mem _ (ih h)

/-- **The weaker state holds where the stronger one does.** -/
theorem Le.rel {st' : St} (h : Le n0 st st') (hr : Rel ρ B N n0 st a w) : ∃ ρ', Rel ρ' B N n0 st' a w ∧ Agree n0 ρ ρ' := by
  unfold Le at h
  split at h
  · rename_i hwf
    simp only [Bool.and_eq_true] at hwf
    obtain ⟨hwf, hn0⟩ := hwf
    simp only [St.wfb, Bool.and_eq_true, List.all_eq_true] at hwf
    obtain ⟨m1, h1, hE1, hI1, hT⟩ := mT_spec (ρ := ρ) st.tm h (fun _ _ _ hx => by cases hx)
    obtain ⟨m2, h2, hE2, hI2, hO⟩ := mH_spec hr.heap h1 hI1
    have h2 : keepsB n0 m2 = true := by
      split at h2
      · assumption
      · exact h2.elim
    refine ⟨envOf ρ m2, ⟨fun t v' hv' => ?_, hr.size, hr.defers, ⟨fun h' o' hf => ?_, fun h' o' g' p' k hf hf' hne hk hk' => ?_, hr.heap.glob⟩, hr.le, by simpa [Nat.ble_eq] using hn0⟩, fun h hh => ?_⟩
    · obtain ⟨v, hv, hS⟩ := hT t v' hv'
      refine ⟨V.ltb_spec (hwf.1 (t, v') (getT_mem hv')), ?_⟩
      rw [(hr.tm t v hv).2]
      exact (hS m2 hE2).symm
    · have hm := hwf.2 (h', o') (find_mem hf)
      simp only [Nat.blt_eq] at hm
      exact ⟨hm.1, O.ltb_spec hm.2, (hO h' o' hf).1 m2 (Ext.refl _)⟩
    · rcases (hO h' o' hf).2 with ⟨s, o, h3, h4, h5⟩ | h3
      · rcases (hO g' p' hf').2 with ⟨s', o2, h3', h4', h5'⟩ | h3'
        · have hss : s ≠ s' := fun e => hne (hI2 h' g' s h3 (by rw [e]; exact h3'))
          exact hr.heap.apart s o s' o2 k h4 h4' hss (h5 m2 (Ext.refl _) k hk) (h5' m2 (Ext.refl _) k hk')
        · rw [h3' m2 (Ext.refl _)] at hk'; cases hk'
      · rw [h3 m2 (Ext.refl _)] at hk; cases hk
    · unfold envOf
      cases hl : lookR m2 h with
      | none => rfl
      | some x =>
        have := List.all_eq_true.1 h2 (h, x) (lookR_mem hl)
        have hb : h.blt n0 = true := by rw [Nat.blt_eq]; exact hh
        simp [hb] at this
        subst this
        rfl
  · exact h.elim
end

end Go.Sx
