/- A symbolic executor for the model's code: whole functions. -/
import Derived.Test.YtndhdojnlobloaaSxL
set_option linter.unusedSectionVars false
set_option linter.unusedSimpArgs false
set_option linter.unusedVariables false
open Go.RowKit
namespace Go.Sx

/-- One result. -/
def resOne (P : Program) (st : St) : ResultVar → Option (Prop × W)
  | .tmp t => match getT st.tm t with
    | some (.w u) => some (True, u)
    | _ => none
  | .cell t ty => match getT st.tm t with
    | some (.w (.c (.p h i e j))) => match find st.hp h with
      | some o => match rdObj P ty o i e j with
        | some (ob, .w u) => some (ob, u)
        | _ => none
      | none => none
    | _ => none

def resAll (P : Program) (st : St) : List ResultVar → Option (List (Prop × W))
  | [] => some []
  | r :: rs => match resOne P st r, resAll P st rs with
    | some x, some l => some (x :: l)
    | _, _ => none

def tupV : List W → V
  | [u] => .w u
  | l => .t l

def allObs : List (Prop × W) → Prop → Prop
  | [], k => k
  | x :: l, k => Ob x.1 ∧ allObs l k

/-- What is asked where a body ends. -/
def retX (P : Program) (rs : List ResultVar) (post : V → Hp → Nat → Prop) : Ex → St → Prop
  | .exit _, _ => False
  | _, st => match resAll P st rs with
    | some l => allObs l (post (tupV (l.map (·.2))) st.hp st.nx)
    | none => False

def argsTm : Nat → List V → List (Nat × V)
  | _, [] => []
  | n, v :: l => (n, v) :: argsTm (n + 1) l

def rvSem (tmps : Array Value) : ResultVar → Sem Value
  | .tmp t => pure (tmps.getD t undef)
  | .cell c t => do loadVar t (← asAddr (tmps.getD c undef))

theorem results_eq (fn : Func) (tmps : Array Value) : results fn tmps = (fn.results.mapM (rvSem tmps) >>= fun vs => pure (if h : vs.size = 1 then vs[0] else .tuple vs)) := by
  unfold results
  congr 1

section
variable [Globs] {P : Program} {B : Bd} {N n0 : Nat} {ρ : Env} {st : St} {a : Act} {w : World}

theorem resOne_run {r : ResultVar} {ob : Prop} {u : W} (hr : Rel ρ B N n0 st a w) (h : resOne P st r = some (ob, u)) (ho : ob) :
    (rvSem a.tmps r).run P w = .ok (u.val ρ) w ∧ u.lt st.nx := by
  unfold resOne at h
  split at h
  · rename_i t
    split at h
    · rename_i u' hg
      cases h
      have := hr.tm t _ hg
      exact ⟨by simp only [rvSem, Sem.run_pure, this.2]; rfl, this.1⟩
    · cases h
  · rename_i t ty
    split at h
    · rename_i k i e j hg
      split at h
      · rename_i o hf
        split at h
        · rename_i ob' u' hro
          cases h
          have h1 := (hr.tm t _ hg).2
          have h2 := rdObj_run hr.heap hf hro ho
          refine ⟨?_, h2.2⟩
          simp only [rvSem, h1, cell_val, C.val, asAddr, Sem.run_bind, Sem.run_pure, Result.andThen_ok]
          exact h2.1
        · cases h
      · cases h
    · cases h

theorem resAll_run (hr : Rel ρ B N n0 st a w) : ∀ (rs : List ResultVar) (l : List (Prop × W)) (k : Prop), resAll P st rs = some l → allObs l k →
    (rs.mapM (rvSem a.tmps)).run P w = .ok (l.map fun x => x.2.val ρ) w ∧ (∀ x ∈ l, x.2.lt st.nx) ∧ k
  | [], l, k, h, ho => by
    simp only [resAll, Option.some.injEq] at h
    subst h
    exact ⟨by simp, (fun _ hx => by cases hx), ho⟩
  | r :: rs, l, k, h, ho => by
    simp only [resAll] at h
    split at h
    · rename_i x l' hx hl
      cases h
      obtain ⟨h1, h2⟩ := ho
      have ih := resAll_run hr rs l' k hl h2
      have h3 := resOne_run hr hx h1.h
      refine ⟨?_, ?_, ih.2.2⟩
      · simp only [List.mapM_cons, Sem.run_bind, h3.1, Result.andThen_ok, ih.1, Sem.run_pure, List.map_cons]
      · intro y hy
        rcases List.mem_cons.1 hy with rfl | hy
        · exact h3.2
        · exact ih.2.1 y hy
    · cases h

theorem tupV_val (l : List W) : (tupV l).val ρ = (if h : (l.map (W.val ρ)).toArray.size = 1 then (l.map (W.val ρ)).toArray[0] else .tuple (l.map (W.val ρ)).toArray) := by
  match l with
  | [] => rfl
  | [u] => rfl
  | u :: v :: r => simp [tupV, V.val]

theorem tupV_lt {n : Nat} {l : List W} (h : ∀ x ∈ l, x.lt n) : (tupV l).lt n := by
  match l with
  | [] => exact h
  | [u] => exact h u List.mem_cons_self
  | u :: v :: r => exact h

theorem getT_args : ∀ (l : List V) (n t : Nat) (v : V), getT (argsTm n l) t = some v → n ≤ t ∧ l[t - n]? = some v
  | [], _, _, _, h => by cases h
  | x :: l, n, t, v, h => by
    simp only [argsTm, getT] at h
    split at h
    · rename_i e
      subst e
      cases h
      simp
    · have := getT_args l (n + 1) t v h
      refine ⟨by omega, ?_⟩
      have e : t - n = (t - (n + 1)) + 1 := by omega
      rw [e]
      simpa using this.2

/-- A frame at its entry. -/
theorem rel_enter {N : Nat} {args : List V} {hp0 : Hp} {nx0 : Nat} (hlen : args.length ≤ N) (hlt : ∀ x ∈ args, V.lt nx0 x) (hn0 : n0 ≤ nx0) (ρ : Env) (w : World) (hh : HRel ρ B hp0 nx0 w) (hB : Old B w) :
    Rel ρ B N n0 ⟨argsTm 0 args, hp0, nx0⟩ { tmps := (args.map (V.val ρ)).toArray ++ Array.replicate (N - (args.map (V.val ρ)).toArray.size) undef, defers := [] } w := by
  refine ⟨fun t v hv => ?_, by simp; omega, rfl, hh, hB, hn0⟩
  have hg := getT_args args 0 t v hv
  simp only [Nat.sub_zero] at hg
  have hlt2 : t < args.length := (List.getElem?_eq_some_iff.1 hg.2).1
  refine ⟨hlt v (List.mem_of_getElem? hg.2), ?_⟩
  have hv2 : args[t] = v := (List.getElem?_eq_some_iff.1 hg.2).2
  have hsz : t < ((args.map (V.val ρ)).toArray ++ Array.replicate (N - (args.map (V.val ρ)).toArray.size) undef).size := by simp; omega
  simp only [Array.getD_eq_getD_getElem?, Array.getElem?_eq_getElem hsz, Option.getD_some]
  rw [Array.getElem_append_left (by simpa using hlt2)]
  simp [hv2]

/-- **A function, by the executor.** -/
theorem fn_sound {sp : Specs} {fuel : Nat} {loops : Loops} {drawn : Array Oper → St → (St → Prop) → Prop} {f : Nat} {fn : Func} {body : Code} {args : List V} {hp0 : Hp} {nx0 : Nat} {post : V → Hp → Nat → Prop}
    (hsp : SpecsOK P sp) (hdr : ∀ ρ w, DrawnOK P B fn.ntmps n0 ρ w drawn) (hf : P.funcs[f]? = some fn) (hb : fn.body = some body) (hlen : args.length ≤ fn.ntmps)
    (h : sx P sp fn.ntmps n0 fuel loops drawn body 0 [] ⟨argsTm 0 args, hp0, nx0⟩ (retX P fn.results.toList post)) (hlt : ∀ x ∈ args, V.lt nx0 x) (hn0 : n0 ≤ nx0) (ρ : Env) (w : World) (hh : HRel ρ B hp0 nx0 w) (hB : Old B w) :
    Calls P f (args.map (V.val ρ)).toArray w fun e w' => ∃ ρ' v hp' nx', e = .returned (v.val ρ') ∧ v.lt nx' ∧ Agree n0 ρ ρ' ∧ HRel ρ' B hp' nx' w' ∧ Bel B w w' ∧ Old B w' ∧ post v hp' nx' := by
  refine calls_of_wp hf hb ?_
  have hrel := rel_enter (n0 := n0) hlen hlt hn0 ρ w hh hB
  refine wp_mono (sx_sound hsp (hdr ρ w) body 0 [] _ _ ρ _ w h hrel (Agree.refl _ _) (Bel.refl _ _)) ?_
  rintro e a' w' ⟨x, ρ', st', rfl, hk, hr', hag', hbl'⟩
  have fin : ∀ l : List (Prop × W), resAll P st' fn.results.toList = some l → allObs l (post (tupV (l.map (·.2))) st'.hp st'.nx) →
      a'.defers = [] ∧ ∃ v, (results fn a'.tmps).run P w' = .ok v w' ∧ ∃ ρ' v' hp' nx', Ending.returned v = .returned (v'.val ρ') ∧ v'.lt nx' ∧ Agree n0 ρ ρ' ∧ HRel ρ' B hp' nx' w' ∧ Bel B w w' ∧ Old B w' ∧ post v' hp' nx' := by
    intro l hl ho
    have hra := resAll_run hr' _ l _ hl ho
    refine ⟨hr'.defers, (tupV (l.map (·.2))).val ρ', ?_, ρ', tupV (l.map (·.2)), st'.hp, st'.nx, rfl, tupV_lt (fun y hy => ?_), hag', hr'.heap, hbl', hr'.le, hra.2.2⟩
    · rw [tupV_val]
      simp only [results_eq, Array.mapM_eq_mapM_toList, Sem.run_bind, Sem.run_map, hra.1, Result.andThen_ok, Sem.run_pure, List.map_map]
      rfl
    · obtain ⟨z, hz, rfl⟩ := List.mem_map.1 hy
      exact hra.2.1 z hz
  cases x with
  | normal =>
    simp only [retX] at hk
    split at hk
    · rename_i l hl
      exact fin l hl hk
    · exact hk.elim
  | exit j => exact hk.elim
  | ret =>
    simp only [retX] at hk
    split at hk
    · rename_i l hl
      exact fin l hl hk
    · exact hk.elim
end

end Go.Sx
