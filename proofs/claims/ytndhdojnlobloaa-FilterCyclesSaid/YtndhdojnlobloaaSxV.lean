/- A symbolic executor for the model's code: functions that the machine itself answers. -/
import Derived.Test.YtndhdojnlobloaaSxY
set_option linter.unusedSectionVars false
set_option linter.unusedSimpArgs false
set_option linter.unusedVariables false
open Go.RowKit
namespace Go.Sx

/-- The bits of a float. -/
def bitsS (k : FloatKind) (u : IntKind) : Spec := fun vs hp nx => match vs with
  | [.w (.c (.d (.f k' b)))] => match sameK k' k with
    | true => some (.leaf ⟨True, vi u (b : Int), hp, nx⟩)
    | false => none
  | _ => none

theorem bits_ok [Globs] {P : Program} {f : Nat} {fn : Func} {k : FloatKind} {u : IntKind} {M : Bool} {g : Array Value → Sem Value} (hf : P.funcs[f]? = some fn) (hb : fn.body = none) (hn : (fn.name == "runtime.NumGoroutine") = false)
    (h1 : Extern.findNext fn = none) (h2 : Extern.find fn = some g) (hg : ∀ b, g #[.float k b] = pure (.int u b)) : SpecOK P f M (bitsS k u) := by
  refine .inr fun ρ B w args hp nx t hS hob hlt hh hB => ?_
  unfold bitsS at hS
  split at hS
  · rename_i k' b
    split at hS
    · rename_i hk
      have hk := sameK_eq hk
      subst hk
      cases hS
      refine ⟨_, _, rfl, trivial, ?_⟩
      have e1 : (List.map (V.val ρ) [V.w (.c (.d (.f k' b)))]).toArray = #[.float k' b] := rfl
      rw [e1]
      unfold callFunc
      simp only [Sem.run_bind, run_program, Result.andThen_ok, hf, hn, Bool.false_eq_true, if_false, hb, Option.isNone_none, if_true, run_mark, h1, h2, hg]
      rfl
    · cases hS
  · cases hS

end Go.Sx
