/- Contracts of the checks of sections and cascades, and of their bounds. -/
import Derived.Test.YtndhdojnlobloaaC6
set_option linter.unusedSectionVars false
set_option linter.unusedSimpArgs false
set_option linter.unusedVariables false
namespace Go.Sx06
open Go Go.Proofs Go.RowKit Go.Sx

def chkRow (r : List Int) : Int := chkS (r.getD 0 0) (r.getD 1 0) (r.getD 2 0) (r.getD 3 0) (r.getD 4 0)
def chkI (c : List (List Int)) : Int := if 6 < c.length then 0 else match c.findIdx? (fun r => chkRow r != 0) with
  | some i => (i : Int)
  | none => 0
def chkE (c : List (List Int)) : Int := if 6 < c.length then 8 else match c.findIdx? (fun r => chkRow r != 0) with
  | some i => chkRow (c.getD i [])
  | none => 0
theorem findIdx_at {α : Type} {p : α → Bool} {l : List α} {x : Nat} (h : ∀ y ∈ l.take x, p y = false) (hx : x < l.length) (h4 : p l[x] = true) : l.findIdx? p = some x := by
  rw [List.findIdx?_eq_some_iff_getElem]
  refine ⟨hx, h4, fun j hj => ?_⟩
  have hjl : j < l.length := by omega
  have := h l[j] (List.mem_take_iff_getElem.2 ⟨j, by omega, rfl⟩)
  simp [this]
theorem take_step {α : Type} {P : α → Prop} {l : List α} {x : Nat} (h : ∀ y ∈ l.take x, P y) (hx : x < l.length) (h4 : P l[x]) : ∀ y ∈ l.take (x + 1), P y := by
  intro y hy
  rw [List.take_succ_eq_append_getElem hx] at hy
  rcases List.mem_append.1 hy with hy | hy
  · exact h y hy
  · simp only [List.mem_singleton] at hy
    rw [hy]
    exact h4
theorem getD_eq {α : Type} {l : List α} {x : Nat} {d : α} (hx : x < l.length) : l.getD x d = l[x] := by simp [List.getD, hx]

/-! checkCascade: the first wrong section, and the error -/
def gCheckCascade : List A → Option (Prop × List RV)
  | [.r (.recs 5 c)] => some (c.length ≤ 1000000000, [.d (.i .i64 (chkI c)), .d (.i .i64 (chkE c))])
  | _ => none

set_option maxRecDepth 100000 in
theorem checkCascade_vc (c : List (List Int)) (ho : c.length ≤ 1000000000) : runF Try.f53 (addS 57 gCheckSection sp0) (fun _ _ => some ⟨Nat, fun i => ⟨[(12, vi .i64 i), (11, vi .i64 c.length), (10, .w (.c (.o 0))), (3, vi .i64 0), (2, vi .i64 0), (0, .w (.c (.o 0)))], [(0, .ext (.recs 5 c))], 1⟩, fun i => i ≤ c.length ∧ c.length ≤ 6 ∧ ∀ r ∈ c.take i, chkRow r = 0, fun i => c.length - i⟩) 0 [.r (.recs 5 c)] [.d (.i .i64 (chkI c)), .d (.i .i64 (chkE c))] := by
  refine Eq.mp (by kernel_rfl : (
       Br (decide ((↑c.length : Int) > (6 : Int)))
       (Ob True ∧ Ob True ∧ Ob ((0 : Int) = chkI c) ∧ Ob ((8 : Int) = chkE c) ∧ True)
       ((∃ (x : Nat),
       Ob (x ≤ c.length ∧ c.length ≤ (6 : Nat) ∧ ∀ (r : List Int), r ∈ List.take x c → chkRow r = (0 : Int)) ∧
       Ob ((0 : Int) = (↑x : Int)) ∧
       Ob ((↑c.length : Int) = (↑c.length : Int)) ∧
       Ob ((0 : Int) = (0 : Int)) ∧ Ob ((0 : Int) = (0 : Int)) ∧ Ob (c = c) ∧ True) ∧
       ∀ (x : Nat),
       (x ≤ c.length ∧ c.length ≤ (6 : Nat) ∧ ∀ (r : List Int), r ∈ List.take x c → chkRow r = (0 : Int)) →
       Br (decide ((↑x : Int) < (↑c.length : Int)))
       (Ob ((0 : Int) ≤ (↑x : Int) ∧ (↑x : Int) < (↑c.length : Int)) ∧
       Ob ((↑x : Int).toNat < c.length) ∧
       Ob True ∧
       Br
       (chkS ((c.getD (↑x : Int).toNat []).getD (0 : Nat) (0 : Int))
       ((c.getD (↑x : Int).toNat []).getD (1 : Nat) (0 : Int))
       ((c.getD (↑x : Int).toNat []).getD (2 : Nat) (0 : Int))
       ((c.getD (↑x : Int).toNat []).getD (3 : Nat) (0 : Int))
       ((c.getD (↑x : Int).toNat []).getD (4 : Nat) (0 : Int)) !=
       (0 : Int))
       (Ob True ∧
       Ob True ∧
       Ob ((↑x : Int) = chkI c) ∧
       Ob
       (chkS ((c.getD (↑x : Int).toNat []).getD (0 : Nat) (0 : Int))
       ((c.getD (↑x : Int).toNat []).getD (1 : Nat) (0 : Int))
       ((c.getD (↑x : Int).toNat []).getD (2 : Nat) (0 : Int))
       ((c.getD (↑x : Int).toNat []).getD (3 : Nat) (0 : Int))
       ((c.getD (↑x : Int).toNat []).getD (4 : Nat) (0 : Int)) =
       chkE c) ∧
       True)
       (∃ (x' : Nat),
       Ob
       (x' ≤ c.length ∧
       c.length ≤ (6 : Nat) ∧ ∀ (r : List Int), r ∈ List.take x' c → chkRow r = (0 : Int)) ∧
       Ob (c.length - x' < c.length - x) ∧
       Ob (IntKind.i64.wrap ((↑x : Int) + (1 : Int)) = (↑x' : Int)) ∧
       Ob ((↑c.length : Int) = (↑c.length : Int)) ∧
       Ob ((0 : Int) = (0 : Int)) ∧ Ob ((0 : Int) = (0 : Int)) ∧ Ob (c = c) ∧ True))
       (Ob True ∧ Ob True ∧ Ob ((0 : Int) = chkI c) ∧ Ob ((0 : Int) = chkE c) ∧ True))) = _) ?_
  simp only [Ob_iff, Br_iff, decide_eq_true_eq, decide_eq_false_iff_not, true_and, and_true, bne_iff_ne, ne_eq, bne_eq_false_iff_eq, Int.toNat_natCast, gt_iff_lt]
  refine ⟨fun h => ?_, fun h => ⟨⟨0, ⟨by omega, by omega, fun r hr => by simp at hr⟩, rfl⟩, ?_⟩⟩
  · unfold chkI chkE
    rw [if_pos (by omega), if_pos (by omega)]
    exact ⟨rfl, rfl⟩
  · rintro x ⟨h1, h2, h3⟩
    have hz : ∀ y ∈ c.take x, (chkRow y != 0) = false := fun y hy => by simp [h3 y hy]
    refine ⟨fun h4 => ⟨by omega, by omega, fun h5 => ?_, fun h5 => ⟨x + 1, ⟨by omega, h2, take_step h3 (by omega) ?_⟩, by omega, ?_⟩⟩, fun h4 => ?_⟩
    · have hx : x < c.length := by omega
      have e : chkRow c[x] ≠ 0 := by
        rw [← getD_eq (d := []) hx]
        exact h5
      have e2 := findIdx_at hz hx (by simpa using e)
      unfold chkI chkE
      rw [if_neg (by omega), if_neg (by omega), e2]
      exact ⟨rfl, rfl⟩
    · rw [← getD_eq (d := []) (by omega)]
      exact h5
    · rw [wr (by omega) (by omega)]
      omega
    · have e : x = c.length := by omega
      rw [e, List.take_length] at hz
      have e2 : c.findIdx? (fun r => chkRow r != 0) = none := List.findIdx?_eq_none_iff.2 hz
      unfold chkI chkE
      rw [if_neg (by omega), if_neg (by omega), e2]
      exact ⟨rfl, rfl⟩

set_option maxRecDepth 100000 in
theorem checkCascade_ok : SpecOK Try.prog 53 true (pureS gCheckCascade) := by
  refine pure_ok (sp := (addS 57 gCheckSection sp0)) (fn := Try.f53) (body := bodyOf Try.f53) mixed (addS_ok checkSection_ok sp0_ok) Try.func53 (by kernel_rfl) (by kernel_rfl) fun as_ ob rs h ho => ?_
  unfold gCheckCascade at h
  split at h
  · rename_i c
    cases h
    exact ⟨Nat.le_of_ble_eq_true rfl, _, _, checkCascade_vc c ho⟩
  · cases h

/-! cascadeErr: the error of a cascade -/
def gCascadeErr : List A → Option (Prop × List RV)
  | [.r (.recs 5 c)] => some (c.length ≤ 1000000000, [.d (.i .i64 (chkE c))])
  | _ => none

set_option maxRecDepth 100000 in
theorem cascadeErr_vc (c : List (List Int)) (ho : c.length ≤ 1000000000) : runF Try.f86 (addS 53 gCheckCascade sp0) (fun _ _ => none) 0 [.r (.recs 5 c)] [.d (.i .i64 (chkE c))] := by
  refine Eq.mp (by kernel_rfl : (
       Ob (c.length ≤ (1000000000 : Nat)) ∧ Ob True ∧ Ob (chkE c = chkE c) ∧ True) = _) ?_
  exact ⟨⟨ho⟩, ⟨trivial⟩, ⟨rfl⟩, trivial⟩

set_option maxRecDepth 100000 in
theorem cascadeErr_ok : SpecOK Try.prog 86 true (pureS gCascadeErr) := by
  refine pure_ok (sp := (addS 53 gCheckCascade sp0)) (fn := Try.f86) (body := bodyOf Try.f86) mixed (addS_ok checkCascade_ok sp0_ok) Try.func86 (by kernel_rfl) (by kernel_rfl) fun as_ ob rs h ho => ?_
  unfold gCascadeErr at h
  split at h
  · rename_i c
    cases h
    exact ⟨Nat.le_of_ble_eq_true rfl, _, _, cascadeErr_vc c ho⟩
  · cases h

end Go.Sx06
