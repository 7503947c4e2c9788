/- A section at work, held by a variable: what an input makes of it. -/
import Derived.Test.YtndhdojnlobloaaCz
set_option linter.unusedSectionVars false
set_option linter.unusedSimpArgs false
set_option linter.unusedVariables false
set_option linter.unusedVariables false
namespace Go.Sh
open Go Go.Proofs Go.RowKit Go.Sx

@[irreducible] def nB (b0 b1 b2 b3 b4 b5 b6 b7 b8 x : Int) : Int := IntKind.wrap IntKind.i64 (IntKind.wrap IntKind.i64 (IntKind.wrap IntKind.i64 (IntKind.wrap IntKind.i64 (IntKind.wrap IntKind.i64 (b0 * x) + IntKind.wrap IntKind.i64 (b1 * b5)) + IntKind.wrap IntKind.i64 (b2 * b6)) - IntKind.wrap IntKind.i64 (b3 * b7)) - IntKind.wrap IntKind.i64 (b4 * b8))
@[irreducible] def yB (b0 b1 b2 b3 b4 b5 b6 b7 b8 x : Int) : Int := ((2 : Int) * (nB b0 b1 b2 b3 b4 b5 b6 b7 b8 x) + (16384 : Int)) / ((2 : Int) * (16384 : Int))
@[irreducible] def oB (b0 b1 b2 b3 b4 b5 b6 b7 b8 x : Int) : Int := if (if (yB b0 b1 b2 b3 b4 b5 b6 b7 b8 x) < (32767 : Int) then (yB b0 b1 b2 b3 b4 b5 b6 b7 b8 x) else (32767 : Int)) > (-32767 : Int) then (if (yB b0 b1 b2 b3 b4 b5 b6 b7 b8 x) < (32767 : Int) then (yB b0 b1 b2 b3 b4 b5 b6 b7 b8 x) else (32767 : Int)) else (-32767 : Int)
def cB (b0 b1 b2 b3 b4 b5 b6 b7 b8 b9 x : Int) : Int := match (oB b0 b1 b2 b3 b4 b5 b6 b7 b8 x) != (yB b0 b1 b2 b3 b4 b5 b6 b7 b8 x) with
  | true => IntKind.wrap IntKind.i64 (b9 + (1 : Int))
  | false => b9
def gPutB : C → O → List A → Option (Prop × O × List RV)
  | .p 0 0 1 0, .box 158 [.d (.i .i64 b0), .d (.i .i64 b1), .d (.i .i64 b2), .d (.i .i64 b3), .d (.i .i64 b4), .d (.i .i64 b5), .d (.i .i64 b6), .d (.i .i64 b7), .d (.i .i64 b8), .d (.i .i64 b9)], [.d (.i .i64 x)] => some ((-4611686018427387904 : Int) < 2 * (nB b0 b1 b2 b3 b4 b5 b6 b7 b8 x) + 16384 ∧ 2 * (nB b0 b1 b2 b3 b4 b5 b6 b7 b8 x) + 16384 < (4611686018427387904 : Int), .box 158 [.d (.i .i64 b0), .d (.i .i64 b1), .d (.i .i64 b2), .d (.i .i64 b3), .d (.i .i64 b4), .d (.i .i64 x), .d (.i .i64 b5), .d (.i .i64 (oB b0 b1 b2 b3 b4 b5 b6 b7 b8 x)), .d (.i .i64 b7), .d (.i .i64 (cB b0 b1 b2 b3 b4 b5 b6 b7 b8 b9 x))], [.d (.i .i64 (oB b0 b1 b2 b3 b4 b5 b6 b7 b8 x))])
  | _, _, _ => none

set_option maxRecDepth 100000 in
theorem putB_vc (b0 b1 b2 b3 b4 b5 b6 b7 b8 b9 x : Int) (ho : (-4611686018427387904 : Int) < 2 * (nB b0 b1 b2 b3 b4 b5 b6 b7 b8 x) + 16384 ∧ 2 * (nB b0 b1 b2 b3 b4 b5 b6 b7 b8 x) + 16384 < (4611686018427387904 : Int)) : runE Try.f92 (addK 95 true (pureS Sx06.gRounded) sp0) (fun _ _ _ => none) (.p 0 0 1 0) (.box 158 [.d (.i .i64 b0), .d (.i .i64 b1), .d (.i .i64 b2), .d (.i .i64 b3), .d (.i .i64 b4), .d (.i .i64 b5), .d (.i .i64 b6), .d (.i .i64 b7), .d (.i .i64 b8), .d (.i .i64 b9)]) [.d (.i .i64 x)] (.box 158 [.d (.i .i64 b0), .d (.i .i64 b1), .d (.i .i64 b2), .d (.i .i64 b3), .d (.i .i64 b4), .d (.i .i64 x), .d (.i .i64 b5), .d (.i .i64 (oB b0 b1 b2 b3 b4 b5 b6 b7 b8 x)), .d (.i .i64 b7), .d (.i .i64 (cB b0 b1 b2 b3 b4 b5 b6 b7 b8 b9 x))]) [.d (.i .i64 (oB b0 b1 b2 b3 b4 b5 b6 b7 b8 x))] := by
  refine Eq.mp (by kernel_rfl : (
    Ob ((0 : Int) ≤ (0 : Int) ∧ (0 : Int) < (↑(3 : Nat) : Int)) ∧
    Ob ((0 : Int) ≤ (1 : Int) ∧ (1 : Int) < (↑(3 : Nat) : Int)) ∧
    Ob ((0 : Int) ≤ (0 : Int) ∧ (0 : Int) < (↑(2 : Nat) : Int)) ∧
    Ob ((0 : Int) ≤ (2 : Int) ∧ (2 : Int) < (↑(3 : Nat) : Int)) ∧
    Ob ((0 : Int) ≤ (1 : Int) ∧ (1 : Int) < (↑(2 : Nat) : Int)) ∧
    Ob ((0 : Int) ≤ (0 : Int) ∧ (0 : Int) < (↑(2 : Nat) : Int)) ∧
    Ob ((0 : Int) ≤ (0 : Int) ∧ (0 : Int) < (↑(2 : Nat) : Int)) ∧
    Ob ((0 : Int) ≤ (1 : Int) ∧ (1 : Int) < (↑(2 : Nat) : Int)) ∧
    Ob ((0 : Int) ≤ (1 : Int) ∧ (1 : Int) < (↑(2 : Nat) : Int)) ∧
    Ob ((-4611686018427387904 : Int) < (2 : Int) * (nB b0 b1 b2 b3 b4 b5 b6 b7 b8 x) + (16384 : Int) ∧ (2 : Int) * (nB b0 b1 b2 b3 b4 b5 b6 b7 b8 x) + (16384 : Int) < (4611686018427387904 : Int) ∧ (0 : Int) < (16384 : Int) ∧ (16384 : Int) < (4611686018427387904 : Int)) ∧
    Br ((oB b0 b1 b2 b3 b4 b5 b6 b7 b8 x) != (yB b0 b1 b2 b3 b4 b5 b6 b7 b8 x))
    (Ob ((0 : Int) ≤ (0 : Int) ∧ (0 : Int) < (↑(2 : Nat) : Int)) ∧
    Ob ((0 : Int) ≤ (0 : Int) ∧ (0 : Int) < (↑(2 : Nat) : Int)) ∧
    Ob (True) ∧
    Ob (b0 = b0) ∧
    Ob (b1 = b1) ∧
    Ob (b2 = b2) ∧
    Ob (b3 = b3) ∧
    Ob (b4 = b4) ∧
    Ob (x = x) ∧
    Ob (b5 = b5) ∧
    Ob ((oB b0 b1 b2 b3 b4 b5 b6 b7 b8 x) = (oB b0 b1 b2 b3 b4 b5 b6 b7 b8 x)) ∧
    Ob (b7 = b7) ∧
    Ob (IntKind.wrap IntKind.i64 (b9 + (1 : Int)) = (cB b0 b1 b2 b3 b4 b5 b6 b7 b8 b9 x)) ∧
    Ob ((oB b0 b1 b2 b3 b4 b5 b6 b7 b8 x) = (oB b0 b1 b2 b3 b4 b5 b6 b7 b8 x)) ∧
    True)
    (Ob ((0 : Int) ≤ (0 : Int) ∧ (0 : Int) < (↑(2 : Nat) : Int)) ∧
    Ob ((0 : Int) ≤ (0 : Int) ∧ (0 : Int) < (↑(2 : Nat) : Int)) ∧
    Ob (True) ∧
    Ob (b0 = b0) ∧
    Ob (b1 = b1) ∧
    Ob (b2 = b2) ∧
    Ob (b3 = b3) ∧
    Ob (b4 = b4) ∧
    Ob (x = x) ∧
    Ob (b5 = b5) ∧
    Ob ((oB b0 b1 b2 b3 b4 b5 b6 b7 b8 x) = (oB b0 b1 b2 b3 b4 b5 b6 b7 b8 x)) ∧
    Ob (b7 = b7) ∧
    Ob (b9 = (cB b0 b1 b2 b3 b4 b5 b6 b7 b8 b9 x)) ∧
    Ob ((oB b0 b1 b2 b3 b4 b5 b6 b7 b8 x) = (oB b0 b1 b2 b3 b4 b5 b6 b7 b8 x)) ∧
    True)) = _) ?_
  have h0 : ∀ (a b : Int) (m : Nat), 0 ≤ a → a < (m : Int) → Ob ((0 : Int) ≤ a ∧ a < (m : Int)) := fun a b m h1 h2 => ⟨⟨h1, h2⟩⟩
  refine ⟨⟨by decide⟩, ⟨by decide⟩, ⟨by decide⟩, ⟨by decide⟩, ⟨by decide⟩, ⟨by decide⟩, ⟨by decide⟩, ⟨by decide⟩, ⟨by decide⟩, ⟨ho.1, ho.2, by decide, by decide⟩, ?_⟩
  rw [Sx06.Br_iff]
  refine ⟨fun h => ⟨⟨by decide⟩, ⟨by decide⟩, ⟨trivial⟩, ⟨rfl⟩, ⟨rfl⟩, ⟨rfl⟩, ⟨rfl⟩, ⟨rfl⟩, ⟨rfl⟩, ⟨rfl⟩, ⟨rfl⟩, ⟨rfl⟩, ⟨by simp only [cB, h]⟩, ⟨rfl⟩, trivial⟩, fun h => ⟨⟨by decide⟩, ⟨by decide⟩, ⟨trivial⟩, ⟨rfl⟩, ⟨rfl⟩, ⟨rfl⟩, ⟨rfl⟩, ⟨rfl⟩, ⟨rfl⟩, ⟨rfl⟩, ⟨rfl⟩, ⟨rfl⟩, ⟨by simp only [cB, h]⟩, ⟨rfl⟩, trivial⟩⟩

set_option maxRecDepth 100000 in
theorem putB_ok : SpecOK Try.prog 92 false (effS gPutB) := by
  refine eff_ok (sp := (addK 95 true (pureS Sx06.gRounded) sp0)) (fn := Try.f92) (body := bodyOf Try.f92) mixed (addK_ok Sx06.rounded_ok sp0_ok) Try.func92 (by kernel_rfl) (by kernel_rfl) fun c0 ob as_ p ob' rs h hown ho hlt => ?_
  unfold gPutB at h
  split at h
  · cases h
    exact ⟨rfl, Nat.le_of_ble_eq_true rfl, _, _, putB_vc _ _ _ _ _ _ _ _ _ _ _ ho⟩
  · cases h
abbrev sp_92b : Specs → Specs := addK 92 false (effS gPutB)
theorem sp_92b_ok {sp : Specs} (h : SpecsOK Try.prog sp) : SpecsOK Try.prog (sp_92b sp) := addK_ok putB_ok h
end Go.Sh
