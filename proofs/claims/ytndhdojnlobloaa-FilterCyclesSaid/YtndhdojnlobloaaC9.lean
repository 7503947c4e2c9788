/- Contracts of a cascade at work. -/
import Derived.Test.YtndhdojnlobloaaC8
set_option linter.unusedSectionVars false
set_option linter.unusedSimpArgs false
set_option linter.unusedVariables false
namespace Go.Sx06
open Go Go.Proofs Go.RowKit Go.Sx

/-- A unit of a section and a state. -/
def mkU (r s : List Int) : List Int := [r.getD 0 0, r.getD 1 0, r.getD 2 0, r.getD 3 0, r.getD 4 0, s.getD 0 0, s.getD 1 0, s.getD 2 0, s.getD 3 0, 0]
def mkUs (c s : List (List Int)) (k : Nat) : List (List Int) := (List.range k).map fun i => mkU (c.getD i []) (s.getD i [])
theorem mkUs_succ (c s : List (List Int)) (k : Nat) : mkUs c s (k + 1) = mkUs c s k ++ [mkU (c.getD k []) (s.getD k [])] := by simp [mkUs, List.range_succ]
theorem mkUs_length (c s : List (List Int)) (k : Nat) : (mkUs c s k).length = k := by simp [mkUs]
/-- A chain is given an input. -/
def putUs : List (List Int) → Int → List (List Int)
  | [], _ => []
  | u :: us, x => putU u x :: putUs us (outU u x)
def outUs : List (List Int) → Int → Int
  | [], x => x
  | u :: us, x => outUs us (outU u x)
theorem putUs_length : ∀ (us : List (List Int)) (x : Int), (putUs us x).length = us.length
  | [], _ => rfl
  | u :: us, x => by simp [putUs, putUs_length us]
theorem putUs_snoc : ∀ (us : List (List Int)) (u : List Int) (x : Int), putUs (us ++ [u]) x = putUs us x ++ [putU u (outUs us x)] ∧ outUs (us ++ [u]) x = outU u (outUs us x)
  | [], _, _ => ⟨rfl, rfl⟩
  | v :: us, u, x => by
    have := putUs_snoc us u (outU v x)
    simp only [List.cons_append, putUs, outUs, this, and_self]
theorem outU_range (u : List Int) (x : Int) : -32767 ≤ outU u x ∧ outU u x ≤ 32767 := by unfold outU; omega
theorem outUs_range : ∀ (us : List (List Int)) {x : Int}, -32767 ≤ x → x ≤ 32767 → -32767 ≤ outUs us x ∧ outUs us x ≤ 32767
  | [], _, h1, h2 => ⟨h1, h2⟩
  | u :: us, x, _, _ => outUs_range us (outU_range u x).1 (outU_range u x).2
theorem take_one {α : Type} {l : List α} {x : Nat} (hx : x < l.length) (d : α) : l.take (x + 1) = l.take x ++ [l.getD x d] := by
  rw [List.take_succ_eq_append_getElem hx, getD_eq hx]

/-! newChain: a cascade at work -/
def gNewChain : List A → Option (Prop × List RV)
  | [.r (.recs 5 c), .r (.recs 4 s)] => some (c.length ≤ s.length ∧ c.length ≤ 1000000, [.row 158 (.recs 10 (mkUs c s c.length))])
  | _ => none

set_option maxRecDepth 100000 in
theorem newChain_vc (c s : List (List Int)) (ho : c.length ≤ s.length ∧ c.length ≤ 1000000) : runF Try.f108 sp0 (fun _ _ => some ⟨Nat, fun i => ⟨[(10, vi .i64 i), (9, vi .i64 c.length), (8, .w (.c (.o 0))), (5, .w (.c (.o 2))), (0, .w (.c (.o 0))), (1, .w (.c (.o 1)))], [(2, .row 158 (.recs 10 (mkUs c s i))), (0, .ext (.recs 5 c)), (1, .ext (.recs 4 s))], 3⟩, fun i => i ≤ c.length, fun i => c.length - i⟩) 0 [.r (.recs 5 c), .r (.recs 4 s)] [.row 158 (.recs 10 (mkUs c s c.length))] := by
  refine Eq.mp (by kernel_rfl : (
       (∃ (x : Nat),
       Ob (x ≤ c.length) ∧
       Ob ((0 : Int) = (↑x : Int)) ∧
       Ob ((↑c.length : Int) = (↑c.length : Int)) ∧
       Ob ((mkUs c s x).length = (0 : Nat)) ∧ Ob (c = c) ∧ Ob (s = s) ∧ True) ∧
       ∀ (x : Nat),
       x ≤ c.length →
       Br (decide ((↑x : Int) < (↑c.length : Int)))
       (Ob ((0 : Int) ≤ (↑x : Int) ∧ (↑x : Int) < (↑c.length : Int)) ∧
       Ob ((↑x : Int).toNat < c.length) ∧
       Ob ((0 : Int) ≤ (↑x : Int) ∧ (↑x : Int) < (↑s.length : Int)) ∧
       Ob ((↑x : Int).toNat < s.length) ∧
       Ob
       (((mkUs c s x).length +
       [[(c.getD (↑x : Int).toNat []).getD (0 : Nat) (0 : Int),
       (c.getD (↑x : Int).toNat []).getD (1 : Nat) (0 : Int),
       (c.getD (↑x : Int).toNat []).getD (2 : Nat) (0 : Int),
       (c.getD (↑x : Int).toNat []).getD (3 : Nat) (0 : Int),
       (c.getD (↑x : Int).toNat []).getD (4 : Nat) (0 : Int),
       (s.getD (↑x : Int).toNat []).getD (0 : Nat) (0 : Int),
       (s.getD (↑x : Int).toNat []).getD (1 : Nat) (0 : Int),
       (s.getD (↑x : Int).toNat []).getD (2 : Nat) (0 : Int),
       (s.getD (↑x : Int).toNat []).getD (3 : Nat) (0 : Int), (0 : Int)]].length) *
       (80 : Nat) ≤
       (140737488355328 : Nat) ∧
       (mkUs c s x).length +
       [[(c.getD (↑x : Int).toNat []).getD (0 : Nat) (0 : Int),
       (c.getD (↑x : Int).toNat []).getD (1 : Nat) (0 : Int),
       (c.getD (↑x : Int).toNat []).getD (2 : Nat) (0 : Int),
       (c.getD (↑x : Int).toNat []).getD (3 : Nat) (0 : Int),
       (c.getD (↑x : Int).toNat []).getD (4 : Nat) (0 : Int),
       (s.getD (↑x : Int).toNat []).getD (0 : Nat) (0 : Int),
       (s.getD (↑x : Int).toNat []).getD (1 : Nat) (0 : Int),
       (s.getD (↑x : Int).toNat []).getD (2 : Nat) (0 : Int),
       (s.getD (↑x : Int).toNat []).getD (3 : Nat) (0 : Int), (0 : Int)]].length ≤
       (9223372036854775807 : Nat)) ∧
       ∃ (x' : Nat),
       Ob (x' ≤ c.length) ∧
       Ob (c.length - x' < c.length - x) ∧
       Ob (IntKind.i64.wrap ((↑x : Int) + (1 : Int)) = (↑x' : Int)) ∧
       Ob ((↑c.length : Int) = (↑c.length : Int)) ∧
       Ob
       (mkUs c s x ++
       [[(c.getD (↑x : Int).toNat []).getD (0 : Nat) (0 : Int),
       (c.getD (↑x : Int).toNat []).getD (1 : Nat) (0 : Int),
       (c.getD (↑x : Int).toNat []).getD (2 : Nat) (0 : Int),
       (c.getD (↑x : Int).toNat []).getD (3 : Nat) (0 : Int),
       (c.getD (↑x : Int).toNat []).getD (4 : Nat) (0 : Int),
       (s.getD (↑x : Int).toNat []).getD (0 : Nat) (0 : Int),
       (s.getD (↑x : Int).toNat []).getD (1 : Nat) (0 : Int),
       (s.getD (↑x : Int).toNat []).getD (2 : Nat) (0 : Int),
       (s.getD (↑x : Int).toNat []).getD (3 : Nat) (0 : Int), (0 : Int)]] =
       mkUs c s x') ∧
       Ob (c = c) ∧ Ob (s = s) ∧ True)
       (Ob True ∧ Ob (mkUs c s x = mkUs c s c.length) ∧ True)) = _) ?_
  obtain ⟨hs, hc⟩ := ho
  simp only [Int.toNat_natCast, mkUs_length, List.length_singleton, Ob_iff, Br_iff, decide_eq_true_eq, decide_eq_false_iff_not, true_and, and_true]
  refine ⟨⟨0, by omega, rfl, rfl⟩, fun x h1 => ⟨fun h2 => ⟨by omega, by omega, by omega, by omega, ⟨by omega, by omega⟩, x + 1, by omega, by omega, ?_, (mkUs_succ c s x).symm⟩, fun h2 => ?_⟩⟩
  · rw [wr (by omega) (by omega)]
    omega
  · have e : x = c.length := by omega
    rw [e]

set_option maxRecDepth 100000 in
theorem newChain_ok : SpecOK Try.prog 108 true (pureS gNewChain) := by
  refine pure_ok (sp := sp0) (fn := Try.f108) (body := bodyOf Try.f108) mixed sp0_ok Try.func108 (by kernel_rfl) (by kernel_rfl) fun as_ ob rs h ho => ?_
  unfold gNewChain at h
  split at h
  · rename_i c s
    cases h
    exact ⟨Nat.le_of_ble_eq_true rfl, _, _, newChain_vc c s ho⟩
  · cases h

/-! chainPut: a cascade is given an input -/
def gChainPut : C → O → List A → Option (Prop × O × List RV)
  | .o 0, .row 158 (.recs 10 us), [.d (.i .i64 x)] => some (us.length ≤ 1000000 ∧ (∀ u ∈ us, okU u) ∧ -32767 ≤ x ∧ x ≤ 32767, .row 158 (.recs 10 (putUs us x)), [.d (.i .i64 (outUs us x))])
  | _, _, _ => none

set_option maxRecDepth 100000 in
theorem chainPut_vc (us : List (List Int)) (x : Int) (ho : us.length ≤ 1000000 ∧ (∀ u ∈ us, okU u) ∧ -32767 ≤ x ∧ x ≤ 32767) : runE Try.f109 (addE 92 gUnitPut sp0) (fun _ _ => some ⟨Nat, fun i => ⟨[(8, vi .i64 i), (7, vi .i64 us.length), (6, .w (.c (.o 0))), (0, .w (.c (.o 0))), (1, vi .i64 (outUs (us.take i) x))], [(0, .row 158 (.recs 10 (putUs (us.take i) x ++ us.drop i)))], 1⟩, fun i => i ≤ us.length, fun i => us.length - i⟩) 0 (.o 0) (.row 158 (.recs 10 us)) [.d (.i .i64 x)] (.row 158 (.recs 10 (putUs us x))) [.d (.i .i64 (outUs us x))] := by
  refine Eq.mp (by kernel_rfl : (
       (∃ (x_1 : Nat),
       Ob (x_1 ≤ us.length) ∧
       Ob ((0 : Int) = (↑x_1 : Int)) ∧
       Ob ((↑us.length : Int) = (↑us.length : Int)) ∧
       Ob (x = outUs (List.take x_1 us) x) ∧ Ob (us = putUs (List.take x_1 us) x ++ List.drop x_1 us) ∧ True) ∧
       ∀ (x_1 : Nat),
       x_1 ≤ us.length →
       Br (decide ((↑x_1 : Int) < (↑us.length : Int)))
       (Ob
       ((0 : Int) ≤ (↑x_1 : Int) ∧
       (↑x_1 : Int) < (↑(putUs (List.take x_1 us) x ++ List.drop x_1 us).length : Int)) ∧
       Ob
       ((↑x_1 : Int).toNat < (putUs (List.take x_1 us) x ++ List.drop x_1 us).length ∧
       okU ((putUs (List.take x_1 us) x ++ List.drop x_1 us).getD (↑x_1 : Int).toNat []) ∧
       (-32767 : Int) ≤ outUs (List.take x_1 us) x ∧ outUs (List.take x_1 us) x ≤ (32767 : Int)) ∧
       ∃ (x' : Nat),
       Ob (x' ≤ us.length) ∧
       Ob (us.length - x' < us.length - x_1) ∧
       Ob (IntKind.i64.wrap ((↑x_1 : Int) + (1 : Int)) = (↑x' : Int)) ∧
       Ob ((↑us.length : Int) = (↑us.length : Int)) ∧
       Ob
       (outU ((putUs (List.take x_1 us) x ++ List.drop x_1 us).getD (↑x_1 : Int).toNat [])
       (outUs (List.take x_1 us) x) =
       outUs (List.take x' us) x) ∧
       Ob
       ((putUs (List.take x_1 us) x ++ List.drop x_1 us).set (↑x_1 : Int).toNat
       (putU ((putUs (List.take x_1 us) x ++ List.drop x_1 us).getD (↑x_1 : Int).toNat [])
       (outUs (List.take x_1 us) x)) =
       putUs (List.take x' us) x ++ List.drop x' us) ∧
       True)
       (Ob True ∧
       Ob (putUs (List.take x_1 us) x ++ List.drop x_1 us = putUs us x) ∧
       Ob (outUs (List.take x_1 us) x = outUs us x) ∧ True)) = _) ?_
  obtain ⟨hL, hu, hx0, hx1⟩ := ho
  simp only [Int.toNat_natCast, List.length_append, putUs_length, List.length_take, List.length_drop, Ob_iff, Br_iff, decide_eq_true_eq, decide_eq_false_iff_not, true_and, and_true]
  refine ⟨⟨0, by omega, rfl, rfl, by simp [putUs]⟩, fun k h1 => ⟨fun h2 => ?_, fun h2 => ?_⟩⟩
  · have hk : k < us.length := by omega
    have e1 : (putUs (List.take k us) x ++ List.drop k us).getD k [] = us.getD k [] := by
      rw [List.getD, List.getElem?_append_right (by rw [putUs_length, List.length_take]; omega), putUs_length, List.length_take, List.getElem?_drop]
      simp [List.getD, show k + (k - min k us.length) = k by omega]
    have hr := outUs_range (us.take k) hx0 hx1
    rw [e1]
    have hsn := putUs_snoc (us.take k) (us.getD k []) x
    have htk := take_one hk []
    refine ⟨by omega, ⟨by omega, hu _ (by rw [getD_eq hk]; exact List.getElem_mem _), hr.1, hr.2⟩, k + 1, by omega, by omega, ?_, ?_, ?_⟩
    · rw [wr (by omega) (by omega)]
      omega
    · rw [htk, hsn.2]
    · rw [htk, hsn.1, List.append_assoc]
      rw [List.set_append_right _ _ (by rw [putUs_length, List.length_take]; omega), putUs_length, List.length_take]
      congr 1
      have e2 : k - min k us.length = 0 := by omega
      rw [e2, List.drop_eq_getElem_cons hk]
      rfl
  · have e : k = us.length := by omega
    subst e
    simp

set_option maxRecDepth 100000 in
theorem chainPut_ok : SpecOK Try.prog 109 false (effS gChainPut) := by
  refine eff_ok (sp := (addE 92 gUnitPut sp0)) (fn := Try.f109) (body := bodyOf Try.f109) mixed (addE_ok unitPut_ok sp0_ok) Try.func109 (by kernel_rfl) (by kernel_rfl) fun c0 ob as_ p ob' rs h hown ho hlt => ?_
  unfold gChainPut at h
  split at h
  · rename_i us x
    cases h
    exact ⟨rfl, Nat.le_of_ble_eq_true rfl, _, _, chainPut_vc us x ho⟩
  · cases h

end Go.Sx06
