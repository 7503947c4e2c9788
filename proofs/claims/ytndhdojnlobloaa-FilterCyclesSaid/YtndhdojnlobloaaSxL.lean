/- A symbolic executor for the model's code: bodies, proved. -/
import Derived.Test.YtndhdojnlobloaaSxK
set_option linter.unusedSectionVars false
set_option linter.unusedSimpArgs false
set_option linter.unusedVariables false
open Go.RowKit
namespace Go.Sx

section
variable [Globs] {P : Program} {B : Bd} {N n0 : Nat} {sp : Specs} {ρ0 : Env} {w0 : World}

/-- What is owed of regions that draw their order. -/
def DrawnOK [Globs] (P : Program) (B : Bd) (N n0 : Nat) (ρ0 : Env) (w0 : World) (drawn : Array Oper → St → (St → Prop) → Prop) : Prop :=
  ∀ (id : Nat) (ops : Array Oper) (st : St) (k : St → Prop) (ρ : Env) (a : Act) (w : World) (Q : Exit → Act → World → Prop), drawn ops st k → Rel ρ B N n0 st a w → Agree n0 ρ0 ρ → Bel B w0 w →
    (∀ ρ' st' a' w', Rel ρ' B N n0 st' a' w' → Agree n0 ρ0 ρ' → Bel B w0 w' → k st' → Q .normal a' w') → (Code.region id ops true).wp P Q a w

theorem Qx_mono {k k' : Ex → St → Prop} (h : ∀ x st, k x st → k' x st) : ∀ e a w, Qx ρ0 B N n0 w0 k e a w → Qx ρ0 B N n0 w0 k' e a w :=
  fun _ _ _ ⟨x, ρ, st, he, hk, rest⟩ => ⟨x, ρ, st, he, h x st hk, rest⟩

theorem eval_bool {ρ : Env} {st : St} {a : Act} {w : World} {c : Operand} {b : Bool} (hr : Rel ρ B N n0 st a w) (h : (rdSt st c).bind V.bool? = some b) : a.eval c = .bool b := by
  cases hc : rdSt st c with
  | none => simp [hc] at h
  | some v =>
    simp only [hc, Option.bind_some] at h
    rw [(hr.reads c v hc).2, V.bool?_eq h]
    rfl

theorem unroll_sound {c : Code} {F : St → (Ex → St → Prop) → Prop} (hF : ∀ st k ρ a w, F st k → Rel ρ B N n0 st a w → Agree n0 ρ0 ρ → Bel B w0 w → c.wp P (Qx ρ0 B N n0 w0 k) a w) :
    ∀ (n : Nat) (st : St) (k : Ex → St → Prop) (ρ : Env) (a : Act) (w : World), unroll F n st k → Rel ρ B N n0 st a w → Agree n0 ρ0 ρ → Bel B w0 w → Code.rounds P c (Qx ρ0 B N n0 w0 k) n a w
  | 0, _, _, _, _, _, h, _, _, _ => h.elim
  | n + 1, st, k, ρ, a, w, h, hr, hag, hbl => by
    rw [rounds_succ]
    refine wp_mono (hF st _ ρ a w h hr hag hbl) ?_
    rintro e a' w' ⟨x, ρ', st', rfl, hk, hr', hag', hbl'⟩
    cases x with
    | normal => exact unroll_sound hF n st' k ρ' a' w' hk hr' hag' hbl'
    | exit j => exact ⟨.exit j, ρ', st', rfl, hk, hr', hag', hbl'⟩
    | ret => exact ⟨.ret, ρ', st', rfl, hk, hr', hag', hbl'⟩

/-- **The executor, proved.** -/
theorem sx_sound {fuel : Nat} {loops : Loops} {drawn : Array Oper → St → (St → Prop) → Prop} (hsp : SpecsOK P sp) (hdr : DrawnOK P B N n0 ρ0 w0 drawn) :
    ∀ (c : Code) (cur : Nat) (gs : List Nat) (st : St) (k : Ex → St → Prop) (ρ : Env) (a : Act) (w : World), sx P sp N n0 fuel loops drawn c cur gs st k → Rel ρ B N n0 st a w → Agree n0 ρ0 ρ → Bel B w0 w →
      c.wp P (Qx ρ0 B N n0 w0 k) a w
  | .skip, _, _, st, k, ρ, a, w, h, hr, hag, hbl => wp_skip ⟨.normal, ρ, st, rfl, h, hr, hag, hbl⟩
  | .label _, _, _, st, k, ρ, a, w, h, hr, hag, hbl => wp_label ⟨.normal, ρ, st, rfl, h, hr, hag, hbl⟩
  | .region id ops draw, _, _, st, k, ρ, a, w, h, hr, hag, hbl => by
    unfold sx at h
    cases draw with
    | false =>
      refine wp_region_list ?_
      have := opsX_sound (P := P) (Q := Qx ρ0 B N n0 w0 k) (k := fun st' => k .normal st') (all := ops.toList) hsp (fun ρ' st' a' w' h1 h2 h3 h4 => ⟨.normal, ρ', st', rfl, h4, h1, h2, h3⟩) ops.toList ρ st a w hr hag hbl h
      simpa using this
    | true => exact hdr id ops st _ ρ a w _ h hr hag hbl (fun ρ' st' a' w' h1 h2 h3 h4 => ⟨.normal, ρ', st', rfl, h4, h1, h2, h3⟩)
  | .seq x y, cur, gs, st, k, ρ, a, w, h, hr, hag, hbl => by
    unfold sx at h
    refine wp_seq (wp_mono (sx_sound hsp hdr x cur gs st _ ρ a w h hr hag hbl) ?_)
    rintro e a' w' ⟨ex, ρ', st', rfl, hk, hr', hag', hbl'⟩
    cases ex with
    | normal => exact sx_sound hsp hdr y cur gs st' k ρ' a' w' hk hr' hag' hbl'
    | exit j => exact ⟨.exit j, ρ', st', rfl, hk, hr', hag', hbl'⟩
    | ret => exact ⟨.ret, ρ', st', rfl, hk, hr', hag', hbl'⟩
  | .cond c x y, cur, gs, st, k, ρ, a, w, h, hr, hag, hbl => by
    unfold sx at h
    split at h
    · rename_i b hb
      have he := eval_bool hr hb
      cases b with
      | true => exact wp_cond_true he (sx_sound hsp hdr x cur gs st k ρ a w h hr hag hbl)
      | false => exact wp_cond_false he (sx_sound hsp hdr y cur gs st k ρ a w h hr hag hbl)
    · exact h.elim
  | .block id c, _, gs, st, k, ρ, a, w, h, hr, hag, hbl => by
    unfold sx at h
    refine wp_block (wp_mono (sx_sound hsp hdr c id gs st _ ρ a w h hr hag hbl) ?_)
    rintro e a' w' ⟨ex, ρ', st', rfl, hk, hr', hag', hbl'⟩
    cases ex with
    | normal => exact ⟨.normal, ρ', st', rfl, hk, hr', hag', hbl'⟩
    | exit j =>
      simp only [Ex.toExit, Exit.inBlock]
      dsimp only at hk
      split
      · rename_i e
        rw [if_pos e] at hk
        exact ⟨.normal, ρ', st', rfl, hk, hr', hag', hbl'⟩
      · rename_i e
        rw [if_neg e] at hk
        exact ⟨.exit j, ρ', st', rfl, hk, hr', hag', hbl'⟩
    | ret => exact ⟨.ret, ρ', st', rfl, hk, hr', hag', hbl'⟩
  | .loop c, cur, gs, st, k, ρ, a, w, h, hr, hag, hbl => by
    unfold sx at h
    split at h
    · rename_i L hL
      obtain ⟨⟨x0, ⟨hx0⟩, hle0⟩, hround⟩ := h
      obtain ⟨ρ1, hr1, hag1⟩ := hle0.rel hr
      have hag01 : Agree n0 ρ0 ρ1 := fun h hh => (hag1 h hh).trans (hag h hh)
      -- the relation: some x; the measure rides along
      have key : ∀ (n : Nat) (x : L.X), L.mu x = n → L.inv x → ∀ (ρ : Env) (a : Act) (w : World), Rel ρ B N n0 (L.st x) a w → Agree n0 ρ0 ρ → Bel B w0 w → Code.rounds P c (Qx ρ0 B N n0 w0 k) (n + 1) a w := by
        intro n
        induction n using Nat.strongRecOn with
        | _ n ih =>
          intro x hn hx ρ a w hr hag hbl
          rw [rounds_succ]
          refine wp_mono (sx_sound hsp hdr c cur (L.mu x :: gs) (L.st x) _ ρ a w (hround x hx) hr hag hbl) ?_
          rintro e a' w' ⟨ex, ρ', st', rfl, hk, hr', hag', hbl'⟩
          cases ex with
          | normal =>
            obtain ⟨x', ⟨hx'⟩, ⟨hmu⟩, hle⟩ := hk
            obtain ⟨ρ2, hr2, hag2⟩ := Le.rel hle hr'
            have hlt : L.mu x' < n := by omega
            have := ih (L.mu x') hlt x' rfl hx' ρ2 a' w' hr2 (fun h hh => (hag2 h hh).trans (hag' h hh)) hbl'
            exact rounds_le (by omega) this
          | exit j => exact ⟨.exit j, ρ', st', rfl, hk, hr', hag', hbl'⟩
          | ret => exact ⟨.ret, ρ', st', rfl, hk, hr', hag', hbl'⟩
      exact wp_loop_rounds _ (key _ x0 rfl hx0 ρ1 a w hr1 hag01 hbl)
    · refine wp_loop_rounds fuel (unroll_sound (F := fun st k => sx P sp N n0 fuel loops drawn c cur gs st k) ?_ fuel st k ρ a w h hr hag hbl)
      intro st k ρ a w h hr hag hbl
      exact sx_sound hsp hdr c cur gs st k ρ a w h hr hag hbl
  | .exit id, _, _, st, k, ρ, a, w, h, hr, hag, hbl => wp_exit ⟨.exit id, ρ, st, rfl, h, hr, hag, hbl⟩
  | .ret, _, _, st, k, ρ, a, w, h, hr, hag, hbl => wp_ret ⟨.ret, ρ, st, rfl, h, hr, hag, hbl⟩
  | .scope _, _, _, _, _, _, _, _, h, _, _, _ => h.elim
  | .goto _, _, _, _, _, _, _, _, h, _, _, _ => h.elim
  | .rangeFunc _ _ _ _, _, _, _, _, _, _, _, h, _, _, _ => h.elim
  | .refuse _, _, _, _, _, _, _, _, h, _, _, _ => h.elim
  where
  rounds_le {c : Code} {Q : Exit → Act → World → Prop} : ∀ {n m : Nat} {a : Act} {w : World}, n ≤ m → Code.rounds P c Q n a w → Code.rounds P c Q m a w
    | 0, _, _, _, _, h => h.elim
    | n + 1, 0, _, _, hl, _ => by omega
    | n + 1, m + 1, a, w, hl, h => by
      rw [rounds_succ] at *
      refine wp_mono h ?_
      intro e a' w' hq
      cases e <;> first | exact rounds_le (Nat.le_of_succ_le_succ hl) hq | exact hq
end

end Go.Sx
