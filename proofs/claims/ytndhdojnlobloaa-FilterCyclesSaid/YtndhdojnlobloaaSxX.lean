/- A symbolic executor for the model's code: contracts of reading functions that take nil slices, too. -/
import Derived.Test.YtndhdojnlobloaaSxW
set_option linter.unusedSectionVars false
set_option linter.unusedSimpArgs false
set_option linter.unusedVariables false
open Go.RowKit
namespace Go.Sx

/-- What a reading function takes, where an empty content is told for slices that may be nil. -/
def toAK (q : Option Cont) (hp : Hp) (v : V) : Option A :=
  match q with
  | none => toA hp v
  | some c0 => match v.nils?, c0.n, c0.e with
    | true, 0, _ + 1 => some (.r c0)
    | _, _, _ => toA hp v

def toAsK : List (Option Cont) → Hp → List V → Option (List A)
  | _, _, [] => some []
  | qs, hp, v :: l => match toAK (qs.headD none) hp v, toAsK qs.tail hp l with
    | some a, some r => some (a :: r)
    | _, _ => none

/-- A reading function's contract in the executor's words; slices may be nil. -/
def pureK (qs : List (Option Cont)) (g : List A → Option (Prop × List RV)) : Spec := fun vs hp nx =>
  match toAsK qs hp vs with
  | some as => match g as with
    | some (ob, rs) => some (.leaf ⟨ob, tupV (rvW nx rs), rvHp nx rs hp, rvNx nx rs⟩)
    | none => none
  | none => none

section
variable [Globs] {P : Program} {sp : Specs} {ρ : Env} {B : Bd} {nx : Nat} {hp : Hp} {w w' : World}

theorem nils_eq {v : V} (h : v.nils? = true) : v = .w (.c (.d (.v (.slice none 0 0)))) := by
  unfold V.nils? at h
  split at h
  · rfl
  · cases h

theorem toA_spec (hh : HRel ρ B hp nx w) {v : V} {a : A} (ha : toA hp v = some a) (n m : Nat) (ρ0 : Env) (h0 : ρ0 n = v.val ρ) :
    (argV n a).val ρ0 = v.val ρ ∧ V.lt (n + (m + 1)) (argV n a) ∧ ∀ c, a = .r c → IsRow w (ρ0 n) c ∧ OldRow (fun k => k < w.heap.size) (ρ0 n) := by
  unfold toA at ha
  split at ha
  · cases ha; exact ⟨rfl, trivial, fun _ h => by cases h⟩
  · rename_i l
    cases hd : dsOf l with
    | none => simp [hd] at ha
    | some ds =>
      simp only [hd, Option.map_some, Option.some.injEq] at ha
      subst ha
      rw [dsOf_eq hd]
      refine ⟨?_, (fun x hx => ?_), fun _ h => by cases h⟩
      · simp [argV, V.val, W.val, C.val, Function.comp_def]
      · obtain ⟨y, _, rfl⟩ := List.mem_map.1 hx
        trivial
  · cases ha
    exact ⟨rfl, (fun _ h => by cases h), fun _ h => by cases h⟩
  · rename_i k
    split at ha
    · rename_i c hc
      split at ha
      · cases ha
      · rename_i e he
        cases ha
        cases hf : find hp k with
        | none => simp [hf] at hc
        | some o =>
          simp only [hf, Option.bind_some] at hc
          have hrow := row_isRow (hh.ok k o hf).2.2 hc
          have e0 : ρ0 n = ρ k := h0
          refine ⟨e0, (show n < n + (m + 1) by omega), fun c' hc' => ?_⟩
          cases hc'
          rw [e0]
          exact ⟨hrow, IsRow.lt hrow (by omega)⟩
    · cases ha
  · cases ha

theorem toAK_spec (hh : HRel ρ B hp nx w) {q : Option Cont} {v : V} {a : A} (ha : toAK q hp v = some a) (n m : Nat) (ρ0 : Env) (h0 : ρ0 n = v.val ρ) :
    (argV n a).val ρ0 = v.val ρ ∧ V.lt (n + (m + 1)) (argV n a) ∧ ∀ c, a = .r c → IsRow w (ρ0 n) c ∧ OldRow (fun k => k < w.heap.size) (ρ0 n) := by
  unfold toAK at ha
  split at ha
  · exact toA_spec hh ha n m ρ0 h0
  · rename_i c0
    split at ha
    · rename_i e hn hc he
      cases ha
      have hv := nils_eq hn
      subst hv
      refine ⟨h0, (show n < n + (m + 1) by omega), fun c' hc' => ?_⟩
      cases hc'
      rw [h0]
      refine ⟨⟨none, 0, by rw [hc]; rfl, ⟨by omega, fun _ => rfl⟩, fun h => by omega⟩, fun a n cap h _ => ?_⟩
      cases h
    · exact toA_spec hh ha n m ρ0 h0

theorem toAsK_spec (hh : HRel ρ B hp nx w) : ∀ (qs : List (Option Cont)) (vs : List V) (as : List A) (n : Nat) (ρ0 : Env), toAsK qs hp vs = some as → (∀ i v, vs[i]? = some v → ρ0 (n + i) = v.val ρ) →
    (argVs n as).map (V.val ρ0) = vs.map (V.val ρ) ∧ as.length = vs.length ∧ (∀ x ∈ argVs n as, V.lt (n + as.length) x) ∧
      ∀ h o, find (argHp n as) h = some o → n ≤ h ∧ h < n + as.length ∧ ∃ c, o = .ext c ∧ IsRow w (ρ0 h) c ∧ OldRow (fun k => k < w.heap.size) (ρ0 h)
  | _, [], as, n, ρ0, h, _ => by
    simp only [toAsK, Option.some.injEq] at h
    subst h
    exact ⟨rfl, rfl, (fun _ h => by cases h), fun _ _ h => by cases h⟩
  | qs, v :: vs, as, n, ρ0, h, hρ => by
    simp only [toAsK] at h
    split at h
    · rename_i a r ha hr
      cases h
      have ih := toAsK_spec hh qs.tail vs r (n + 1) ρ0 hr (fun i v hv => by rw [show n + 1 + i = n + (i + 1) by omega]; exact hρ (i + 1) v (by simpa using hv))
      have h0 := hρ 0 v rfl
      rw [Nat.add_zero] at h0
      have hv := toAK_spec hh ha n r.length ρ0 h0
      have hag : ∀ x, V.lt (n + 1 + r.length) x → V.lt (n + (r.length + 1)) x := fun x hx => V.lt_mono (by omega) hx
      refine ⟨by simp only [argVs, List.map_cons, hv.1, ih.1], by simp [ih.2.1], fun x hx => ?_, fun h o hf => ?_⟩
      · rcases List.mem_cons.1 hx with rfl | hx
        · simpa using hv.2.1
        · simpa using hag x (ih.2.2.1 x hx)
      · cases a with
        | r c =>
          simp only [argHp, find] at hf
          split at hf
          · rename_i e
            subst e
            cases hf
            exact ⟨Nat.le_refl _, by simp, c, rfl, hv.2.2 c rfl⟩
          · have := ih.2.2.2 h o hf
            simp only [List.length_cons]
            exact ⟨by omega, by omega, this.2.2⟩
        | d x => have := ih.2.2.2 h o hf; simp only [List.length_cons]; exact ⟨by omega, by omega, this.2.2⟩
        | s x => have := ih.2.2.2 h o hf; simp only [List.length_cons]; exact ⟨by omega, by omega, this.2.2⟩
        | f x => have := ih.2.2.2 h o hf; simp only [List.length_cons]; exact ⟨by omega, by omega, this.2.2⟩
    · cases h

/-- **A reading function's contract, by the executor; slices may be nil.** -/
theorem pureK_ok {f : Nat} {fn : Func} {body : Code} {qs : List (Option Cont)} {g : List A → Option (Prop × List RV)} (hm : P.follows .mixedOrders = true) (hsp : SpecsOK P sp) (hf : P.funcs[f]? = some fn) (hb : fn.body = some body) (hn : (fn.name == "runtime.NumGoroutine") = false)
    (h : ∀ as ob rs, g as = some (ob, rs) → ob → as.length ≤ fn.ntmps ∧ ∃ fuel loops, sx P sp fn.ntmps as.length fuel loops (drawX P sp fn.ntmps) body 0 [] ⟨argsTm 0 (argVs 0 as), argHp 0 as, as.length⟩ (retX P fn.results.toList fun v hp _ => fitsV rs v hp)) :
    SpecOK P f true (pureK qs g) := by
  refine .inl ⟨enter_ok hf hb hn, fun ρ B w args hp nx r hS hob hlt hh hB => ?_⟩
  unfold pureK at hS
  split at hS
  · rename_i as has
    split at hS
    · rename_i ob rs hg
      cases hS
      obtain ⟨hlen, fuel, loops, hx⟩ := h as ob rs hg hob
      have hto := toAsK_spec hh qs args as 0 (fun i => (args[i]?.map (V.val ρ)).getD undef) has (fun i v hv => by simp [hv])
      have hal : (argVs 0 as).length = as.length := by
        have : ∀ (l : List A) (n : Nat), (argVs n l).length = l.length := fun l => by
          induction l with
          | nil => exact fun _ => rfl
          | cons a l ih => exact fun n => by simp [argVs, ih]
        exact this as 0
      have hh0 : HRel (fun i => (args[i]?.map (V.val ρ)).getD undef) (fun k => k < w.heap.size) (argHp 0 as) as.length w := by
        refine ⟨fun x o hf => ?_, fun x o x' o' k hf hf' _ hb => ?_, glob_all hh.glob hB⟩
        · obtain ⟨_, h2, c, rfl, h3, h4⟩ := hto.2.2.2 x o hf
          exact ⟨by omega, trivial, h3, h4⟩
        · obtain ⟨_, _, c, rfl, _, _⟩ := hto.2.2.2 x o hf
          cases hb
      have hcalls := fn_sound (n0 := as.length) (B := fun k => k < w.heap.size) hsp (fun ρ w => drawn_ok hm hsp) hf hb (by rw [hal]; exact hlen) hx (fun x hx => by simpa using hto.2.2.1 x hx) (Nat.le_refl _) _ w hh0 (fun k hk => hk)
      rw [hto.1] at hcalls
      refine hcalls.mono ?_
      rintro e w' ⟨ρ', v, hp', nx', rfl, hvlt, hag, hh', hbel, _, hfit⟩
      have hbw : Below w.heap.size w w' := hbel.below
      have hh1 := hh.below hbw hB
      obtain ⟨ws, hws, hfw⟩ : ∃ ws, (tupV ws).val ρ' = v.val ρ' ∧ fitsW hp' rs ws [] := by
        match v, hfit with
        | .w u, hfit => exact ⟨[u], rfl, hfit⟩
        | .t [], hfit => exact ⟨[], rfl, hfit⟩
        | .t (x :: y :: l), hfit => exact ⟨x :: y :: l, rfl, hfit⟩
      obtain ⟨ρ'', h1, h2, h3, h4, h5, h6⟩ := rv_spec (m := w.heap.size) (us0 := []) (fun k hk => .inl hk) hB hh' rs ws [] nx hp ρ (fun _ h => h) hfw hh1 (fun k o b hk hb => .inl (O.blk_lt (hh.ok k o hk).2.2 hb).1)
      refine ⟨ρ'', ?_, h1, tupV_lt h4, h3, h2, bel_of hbw hB, fun _ => hbw, fun _ h o k hle hf hb => (h6 h o k hf).1 hle hb⟩
      show Ending.returned _ = Ending.returned ((tupV (rvW nx rs)).val ρ'')
      rw [← hws, tupV_val, tupV_val]
      simp only [h5]
    · cases hS
  · cases hS
end

end Go.Sx
