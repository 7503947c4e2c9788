/- Contracts of the bounds. -/
import Derived.Test.YtndhdojnlobloaaC10
set_option linter.unusedSectionVars false
set_option linter.unusedSimpArgs false
set_option linter.unusedVariables false
namespace Go.Sx06
open Go Go.Proofs Go.RowKit Go.Sx

def roomR (r : List Int) : Int := roomS (r.getD 3 0) (r.getD 4 0)
def boundR (r : List Int) (m : Int) : Int := boundS (r.getD 0 0) (r.getD 1 0) (r.getD 2 0) (r.getD 3 0) (r.getD 4 0) m
def bAt (c : List (List Int)) (m : Int) : Nat → Int
  | 0 => m
  | i + 1 => boundR (c.getD i []) (bAt c m i)
def cbE (c : List (List Int)) (m : Int) : Int := if chkE c ≠ 0 then chkE c else if ¬ (0 ≤ m ∧ m ≤ 32767) then 2 else if c.any (fun r => decide (roomR r ≤ 0)) = true then 12 else 0
def cbN (c : List (List Int)) (m : Int) : Int := if cbE c m = 0 then bAt c m c.length else 0
theorem boundR_range {r : List Int} {m : Int} (hr : 0 < roomR r) (h0 : 0 ≤ m) : 0 ≤ boundR r m ∧ boundR r m ≤ 32767 := by
  unfold boundR boundS
  rw [if_neg (by unfold roomR at hr; omega)]
  have h1 : 0 ≤ inS (r.getD 0 0) (r.getD 1 0) (r.getD 2 0) := by unfold inS; omega
  have h2 : 0 ≤ inS (r.getD 0 0) (r.getD 1 0) (r.getD 2 0) * m := Int.mul_nonneg h1 h0
  have h3 : 0 ≤ (inS (r.getD 0 0) (r.getD 1 0) (r.getD 2 0) * m + 8192) / roomS (r.getD 3 0) (r.getD 4 0) := Int.ediv_nonneg (by omega) (by unfold roomR at hr; omega)
  omega
theorem bAt_range {c : List (List Int)} {m : Int} (h0 : 0 ≤ m) (h1 : m ≤ 32767) : ∀ (i : Nat), i ≤ c.length → (∀ r ∈ c.take i, 0 < roomR r) → 0 ≤ bAt c m i ∧ bAt c m i ≤ 32767
  | 0, _, _ => ⟨h0, h1⟩
  | i + 1, hi, hr => by
    have ih := bAt_range (c := c) h0 h1 i (by omega) (fun r hr' => hr r (by rw [take_one (show i < c.length by omega) []]; exact List.mem_append.2 (.inl hr')))
    exact boundR_range (hr (c.getD i []) (by rw [take_one (show i < c.length by omega) []]; exact List.mem_append.2 (.inr (by simp)))) ih.1

/-! cascadeBound: the bound of a cascade -/
def gCascadeBound : List A → Option (Prop × List RV)
  | [.r (.recs 5 c), .d (.i .i64 m)] => some (c.length ≤ 1000000000, [.d (.i .i64 (cbN c m)), .d (.i .i64 (cbE c m))])
  | _ => none

set_option maxRecDepth 100000 in
theorem cascadeBound_vc (c : List (List Int)) (m : Int) (ho : c.length ≤ 1000000000) : runF Try.f26 (addS 86 gCascadeErr (addS 88 gIsSample (addS 87 gUnless (addS 85 gFirst (addS 89 gBound sp0))))) (fun _ _ => some ⟨Nat, fun i => ⟨[(22, vi .i64 i), (21, vi .i64 c.length), (20, .w (.c (.o 0))), (1, vi .i64 (bAt c m i))], [(0, .ext (.recs 5 c))], 2⟩, fun i => i ≤ c.length ∧ chkE c = 0 ∧ (0 ≤ m ∧ m ≤ 32767) ∧ ∀ r ∈ c.take i, 0 < roomR r, fun i => c.length - i⟩) 0 [.r (.recs 5 c), .d (.i .i64 m)] [.d (.i .i64 (cbN c m)), .d (.i .i64 (cbE c m))] := by
  refine Eq.mp (by kernel_rfl : (
       Ob (c.length ≤ (1000000000 : Nat)) ∧
       Ob True ∧
       Ob True ∧
       Ob
       ([chkE c,
       if (decide ((0 : Int) ≤ m) && decide (m ≤ (32767 : Int))) = true then (0 : Int)
       else (2 : Int)].length ≤
       (1000000 : Nat)) ∧
       Br
       ((List.find? (fun x => x != (0 : Int))
       [chkE c,
       if (decide ((0 : Int) ≤ m) && decide (m ≤ (32767 : Int))) = true then (0 : Int)
       else (2 : Int)]).getD
       (0 : Int) !=
       (0 : Int))
       (Ob True ∧
       Ob True ∧
       Ob ((0 : Int) = cbN c m) ∧
       Ob
       ((List.find? (fun x => x != (0 : Int))
       [chkE c,
       if (decide ((0 : Int) ≤ m) && decide (m ≤ (32767 : Int))) = true then (0 : Int)
       else (2 : Int)]).getD
       (0 : Int) =
       cbE c m) ∧
       True)
       ((∃ (x : Nat),
       Ob
       (x ≤ c.length ∧
       chkE c = (0 : Int) ∧
       ((0 : Int) ≤ m ∧ m ≤ (32767 : Int)) ∧
       ∀ (r : List Int), r ∈ List.take x c → (0 : Int) < roomR r) ∧
       Ob ((0 : Int) = (↑x : Int)) ∧
       Ob ((↑c.length : Int) = (↑c.length : Int)) ∧ Ob (m = bAt c m x) ∧ Ob (c = c) ∧ True) ∧
       ∀ (x : Nat),
       (x ≤ c.length ∧
       chkE c = (0 : Int) ∧
       ((0 : Int) ≤ m ∧ m ≤ (32767 : Int)) ∧ ∀ (r : List Int), r ∈ List.take x c → (0 : Int) < roomR r) →
       Br (decide ((↑x : Int) < (↑c.length : Int)))
       (Ob ((0 : Int) ≤ (↑x : Int) ∧ (↑x : Int) < (↑c.length : Int)) ∧
       Ob ((↑x : Int).toNat < c.length) ∧
       Ob
       (secB ((c.getD (↑x : Int).toNat []).getD (0 : Nat) (0 : Int))
       ((c.getD (↑x : Int).toNat []).getD (1 : Nat) (0 : Int))
       ((c.getD (↑x : Int).toNat []).getD (2 : Nat) (0 : Int))
       ((c.getD (↑x : Int).toNat []).getD (3 : Nat) (0 : Int))
       ((c.getD (↑x : Int).toNat []).getD (4 : Nat) (0 : Int)) =
       true ∧
       (0 : Int) ≤ bAt c m x ∧ bAt c m x ≤ (32767 : Int)) ∧
       Br
       (!decide
       ((0 : Int) <
       roomS ((c.getD (↑x : Int).toNat []).getD (3 : Nat) (0 : Int))
       ((c.getD (↑x : Int).toNat []).getD (4 : Nat) (0 : Int))))
       (Ob True ∧ Ob True ∧ Ob ((0 : Int) = cbN c m) ∧ Ob ((12 : Int) = cbE c m) ∧ True)
       (∃ (x' : Nat),
       Ob
       (x' ≤ c.length ∧
       chkE c = (0 : Int) ∧
       ((0 : Int) ≤ m ∧ m ≤ (32767 : Int)) ∧
       ∀ (r : List Int), r ∈ List.take x' c → (0 : Int) < roomR r) ∧
       Ob (c.length - x' < c.length - x) ∧
       Ob (IntKind.i64.wrap ((↑x : Int) + (1 : Int)) = (↑x' : Int)) ∧
       Ob ((↑c.length : Int) = (↑c.length : Int)) ∧
       Ob
       (boundS ((c.getD (↑x : Int).toNat []).getD (0 : Nat) (0 : Int))
       ((c.getD (↑x : Int).toNat []).getD (1 : Nat) (0 : Int))
       ((c.getD (↑x : Int).toNat []).getD (2 : Nat) (0 : Int))
       ((c.getD (↑x : Int).toNat []).getD (3 : Nat) (0 : Int))
       ((c.getD (↑x : Int).toNat []).getD (4 : Nat) (0 : Int)) (bAt c m x) =
       bAt c m x') ∧
       Ob (c = c) ∧ True))
       (Ob True ∧ Ob True ∧ Ob (bAt c m x = cbN c m) ∧ Ob ((0 : Int) = cbE c m) ∧ True))) = _) ?_
  simp only [find2, Int.toNat_natCast, List.length_cons, List.length_nil, Ob_iff, Br_iff, decide_eq_true_eq, decide_eq_false_iff_not, true_and, and_true, bne_iff_ne, ne_eq, bne_eq_false_iff_eq, Bool.and_eq_true, Bool.not_eq_true', Bool.not_eq_false']
  have eE : (if ¬chkE c = 0 then chkE c else if 0 ≤ m ∧ m ≤ 32767 then 0 else 2) ≠ 0 → (if ¬chkE c = 0 then chkE c else if 0 ≤ m ∧ m ≤ 32767 then 0 else 2) = cbE c m := by
    intro h
    unfold cbE
    by_cases h1 : chkE c = 0
    · by_cases h2 : 0 ≤ m ∧ m ≤ 32767
      · simp [h1, h2] at h
      · simp only [h1, h2, not_true_eq_false, not_false_eq_true, if_true, if_false, ne_eq]
    · simp only [h1, not_false_eq_true, if_true, ne_eq]
  have hN : cbE c m ≠ 0 → cbN c m = 0 := fun h => by unfold cbN; rw [if_neg h]
  refine ⟨ho, by decide, fun h => ⟨(hN (by rw [← eE h]; exact h)).symm, eE h⟩, fun h => ?_⟩
  have hc : chkE c = 0 := by
    apply Classical.byContradiction
    intro h1
    rw [if_pos h1] at h
    exact h1 h
  have hm : 0 ≤ m ∧ m ≤ 32767 := by
    apply Classical.byContradiction
    intro h1
    rw [if_neg (fun h2 => h2 hc), if_neg h1] at h
    cases h
  have hcb : cbE c m = if c.any (fun r => decide (roomR r ≤ 0)) = true then 12 else 0 := by
    unfold cbE
    rw [if_neg (fun h2 => h2 hc), if_neg (fun h2 => h2 hm)]
  refine ⟨⟨0, ⟨by omega, hc, hm, fun r hr => by simp at hr⟩, rfl, rfl⟩, fun x ⟨h1, _, _, h2⟩ => ⟨fun h3 => ?_, fun h3 => ?_⟩⟩
  · have hx : x < c.length := by omega
    have hb := bAt_range hm.1 hm.2 x (by omega) h2
    have hg := getD_eq (d := ([] : List Int)) hx
    refine ⟨by omega, hx, ⟨chkRow_sec ((chkE_ok hc).2 _ (by rw [hg]; exact List.getElem_mem hx)), hb⟩, fun h4 => ?_, fun h4 => ⟨x + 1, ⟨by omega, hc, hm, take_step h2 hx (by rw [← hg]; exact h4)⟩, by omega, ?_, rfl⟩⟩
    · have e : cbE c m = 12 := by
        rw [hcb, if_pos]
        exact List.any_eq_true.2 ⟨c[x], List.getElem_mem hx, by rw [← hg]; exact decide_eq_true (by unfold roomR; omega)⟩
      exact ⟨(hN (by rw [e]; decide)).symm, e.symm⟩
    · rw [wr (by omega) (by omega)]
      omega
  · have e : x = c.length := by omega
    rw [e, List.take_length] at h2
    have e2 : cbE c m = 0 := by
      rw [hcb, if_neg]
      intro h4
      obtain ⟨r, hr, h5⟩ := List.any_eq_true.1 h4
      have := h2 r hr
      simp at h5
      omega
    refine ⟨?_, e2.symm⟩
    unfold cbN
    rw [if_pos e2, e]

set_option maxRecDepth 100000 in
theorem cascadeBound_ok : SpecOK Try.prog 26 true (pureS gCascadeBound) := by
  refine pure_ok (sp := (addS 86 gCascadeErr (addS 88 gIsSample (addS 87 gUnless (addS 85 gFirst (addS 89 gBound sp0)))))) (fn := Try.f26) (body := bodyOf Try.f26) mixed (addS_ok cascadeErr_ok (addS_ok isSample_ok (addS_ok unless_ok (addS_ok first_ok (addS_ok bound_ok sp0_ok))))) Try.func26 (by kernel_rfl) (by kernel_rfl) fun as_ ob rs h ho => ?_
  unfold gCascadeBound at h
  split at h
  · rename_i c m
    cases h
    exact ⟨Nat.le_of_ble_eq_true rfl, _, _, cascadeBound_vc c m ho⟩
  · cases h

/-! boundOf: the bound of a section -/
def gBoundOf : List A → Option (Prop × List RV)
  | [.s [.i .i64 b0, .i .i64 b1, .i .i64 b2, .i .i64 a0, .i .i64 a1], .d (.i .i64 m)] => some (True, [.d (.i .i64 (cbN [[b0, b1, b2, a0, a1]] m)), .d (.i .i64 (cbE [[b0, b1, b2, a0, a1]] m))])
  | _ => none

set_option maxRecDepth 100000 in
theorem boundOf_vc (b0 b1 b2 a0 a1 m : Int) : runF Try.f25 (addS 57 gCheckSection (addS 26 gCascadeBound sp0)) (fun _ _ => none) 0 [.s [.i .i64 b0, .i .i64 b1, .i .i64 b2, .i .i64 a0, .i .i64 a1], .d (.i .i64 m)] [.d (.i .i64 (cbN [[b0, b1, b2, a0, a1]] m)), .d (.i .i64 (cbE [[b0, b1, b2, a0, a1]] m))] := by
  refine Eq.mp (by kernel_rfl : (
       Ob True ∧
       Br (chkS b0 b1 b2 a0 a1 != (0 : Int))
       (Ob True ∧
       Ob True ∧
       Ob ((0 : Int) = cbN [[b0, b1, b2, a0, a1]] m) ∧
       Ob (chkS b0 b1 b2 a0 a1 = cbE [[b0, b1, b2, a0, a1]] m) ∧ True)
       (Ob ([[b0, b1, b2, a0, a1]].length ≤ (1000000000 : Nat)) ∧
       Ob True ∧
       Ob True ∧
       Ob (cbN [[b0, b1, b2, a0, a1]] m = cbN [[b0, b1, b2, a0, a1]] m) ∧
       Ob (cbE [[b0, b1, b2, a0, a1]] m = cbE [[b0, b1, b2, a0, a1]] m) ∧ True)) = _) ?_
  simp only [Ob_iff, Br_iff, true_and, and_true]
  have e1 : chkE [[b0, b1, b2, a0, a1]] = chkS b0 b1 b2 a0 a1 := by
    have e : chkRow [b0, b1, b2, a0, a1] = chkS b0 b1 b2 a0 a1 := rfl
    unfold chkE
    rw [if_neg (by simp)]
    by_cases h : chkS b0 b1 b2 a0 a1 = 0
    · simp [e, h, List.findIdx?_cons]
    · simp [e, h, List.findIdx?_cons]
  refine ⟨fun h => ?_, fun _ => by simp⟩
  have h : chkS b0 b1 b2 a0 a1 ≠ 0 := by simpa using h
  have e2 : cbE [[b0, b1, b2, a0, a1]] m = chkS b0 b1 b2 a0 a1 := by
    unfold cbE
    rw [e1, if_pos h]
  refine ⟨?_, e2.symm⟩
  unfold cbN
  rw [if_neg (by rw [e2]; exact h)]

set_option maxRecDepth 100000 in
theorem boundOf_ok : SpecOK Try.prog 25 true (pureS gBoundOf) := by
  refine pure_ok (sp := (addS 57 gCheckSection (addS 26 gCascadeBound sp0))) (fn := Try.f25) (body := bodyOf Try.f25) mixed (addS_ok checkSection_ok (addS_ok cascadeBound_ok sp0_ok)) Try.func25 (by kernel_rfl) (by kernel_rfl) fun as_ ob rs h ho => ?_
  unfold gBoundOf at h
  split at h
  · rename_i b0 b1 b2 a0 a1 m
    cases h
    exact ⟨Nat.le_of_ble_eq_true rfl, _, _, boundOf_vc b0 b1 b2 a0 a1 m⟩
  · cases h

end Go.Sx06
