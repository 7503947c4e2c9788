/- The program's functions, as the executor takes them. -/
import Derived.Test.YtndhdojnlobloaaSh
import Derived.Test.YtndhdojnlobloaaGb
import Derived.Test.YtndhdojnlobloaaProg
set_option linter.unusedSectionVars false
set_option linter.unusedSimpArgs false
set_option linter.unusedVariables false
namespace Go.Sh
open Go Go.Proofs Go.RowKit Go.Sx

def bodyOf (f : Func) : Code := f.body.getD .skip
theorem mixed : Try.prog.follows .mixedOrders = true := by kernel_rfl

abbrev runF (fn : Func) (sp : Specs) (loops : Loops) (as_ : List A) (rs : List RV) : Prop :=
  sx Try.prog sp fn.ntmps as_.length 40 loops (drawX Try.prog sp fn.ntmps) (bodyOf fn) 0 [] ⟨argsTm 0 (argVs 0 as_), argHp 0 as_, as_.length⟩ (retX Try.prog fn.results.toList fun v hp _ => fitsV rs v hp)

abbrev runE (fn : Func) (sp : Specs) (loops : Loops) (c0 : C) (ob : O) (as_ : List A) (ob' : O) (rs : List RV) : Prop :=
  sx Try.prog sp fn.ntmps 1 40 loops (drawX Try.prog sp fn.ntmps) (bodyOf fn) 0 [] ⟨argsTm 0 (.w (.c c0) :: argVs 1 as_), [(0, ob)], 1⟩ (retX Try.prog fn.results.toList fun v hp _ => fitsE ob' rs v hp)

/-- What is built of what is told. -/
def bldD (shs : List SV) (ls : List Lf) : Bv := (bldVs shs 0 ls).getD ⟨[], [], 0, []⟩
theorem bld_eq {shs : List SV} {ls : List Lf} {b : Bv} (h : bldVs shs 0 ls = some b) : b = bldD shs ls := by
  unfold bldD
  rw [h]
  rfl
abbrev runT (fn : Func) (sp : Specs) (loops : Loops) (b : Bv) (rs : List RR) : Prop :=
  sx Try.prog sp fn.ntmps b.n 40 loops (drawX Try.prog sp fn.ntmps) (bodyOf fn) 0 [] ⟨argsTm 0 b.vs, b.hp, b.n⟩ (retX Try.prog fn.results.toList fun v hp _ => fitV b.n rs v hp)

def sp0 : Specs := fun _ => none
theorem sp0_ok : SpecsOK Try.prog sp0 := fun _ _ _ h => by cases h
def addK (f : Nat) (M : Bool) (S : Sx.Spec) (sp : Specs) : Specs := fun k => match Nat.beq k f with
  | true => some (M, S)
  | false => sp k
theorem addK_ok {f : Nat} {M : Bool} {S : Sx.Spec} {sp : Specs} (h : SpecOK Try.prog f M S) (hs : SpecsOK Try.prog sp) : SpecsOK Try.prog (addK f M S sp) := by
  intro k M' S' hk
  unfold addK at hk
  split at hk
  · rename_i e
    have := Nat.eq_of_beq_eq_true e
    subst this
    cases hk
    exact h
  · exact hs k M' S' hk
/-- How many bits a byte has, up to its first one. -/
def tab8 : ByteArray := ⟨(([0, 1, 2, 2] ++ List.replicate 4 3 ++ List.replicate 8 4 ++ List.replicate 16 5 ++ List.replicate 32 6 ++ List.replicate 64 7 ++ List.replicate 128 8) : List UInt8).toArray⟩
end Go.Sh
