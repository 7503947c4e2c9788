/- The contract of Impulse. -/
import Derived.Test.YtndhdojnlobloaaC9
set_option linter.unusedSectionVars false
set_option linter.unusedSimpArgs false
set_option linter.unusedVariables false
namespace Go.Sx06
open Go Go.Proofs Go.RowKit Go.Sx

def us0 (c : List (List Int)) : List (List Int) := mkUs c (List.replicate c.length [0, 0, 0, 0]) c.length
def inAt (h : Int) (i : Nat) : Int := if i = 0 then h else 0
def usAt (us : List (List Int)) (h : Int) : Nat → List (List Int)
  | 0 => us
  | i + 1 => putUs (usAt us h i) (inAt h i)
def outAt (us : List (List Int)) (h : Int) (i : Nat) : Int := outUs (usAt us h i) (inAt h i)
def impS (us : List (List Int)) (h : Int) (n : Nat) : List Int := (List.range n).map (outAt us h)
def impE (c : List (List Int)) (h n : Int) : Int := if chkE c ≠ 0 then chkE c else if (-32767 ≤ h ∧ h ≤ 32767) ∧ 0 ≤ n ∧ n ≤ 1024 then 0 else 2
def impL (c : List (List Int)) (h n : Int) : List Int := if impE c h n = 0 then impS (us0 c) h n.toNat else []
theorem impS_succ (us : List (List Int)) (h : Int) (n : Nat) : impS us h (n + 1) = impS us h n ++ [outAt us h n] := by simp [impS, List.range_succ]
theorem impS_length (us : List (List Int)) (h : Int) (n : Nat) : (impS us h n).length = n := by simp [impS]
theorem find2 (a b : Int) : (List.find? (fun x => x != 0) [a, b]).getD 0 = if a ≠ 0 then a else b := by
  by_cases ha : a = 0
  · subst ha
    by_cases hb : b = 0
    · subst hb; rfl
    · simp [hb]
  · simp [ha]
def okUk (k : Int) (u : List Int) : Prop := u.length = 10 ∧ (∀ j, j < 5 → -32768 ≤ u.getD j 0 ∧ u.getD j 0 ≤ 32768) ∧ (∀ j, 5 ≤ j → j < 9 → -32767 ≤ u.getD j 0 ∧ u.getD j 0 ≤ 32767) ∧ 0 ≤ u.getD 9 0 ∧ u.getD 9 0 ≤ k
theorem okUk_put {k : Int} {u : List Int} {x : Int} (h : okUk k u) (h1 : -32767 ≤ x) (h2 : x ≤ 32767) : okUk (k + 1) (putU u x) := by
  obtain ⟨hl, hc, hs, h0, h9⟩ := h
  have hr := outU_range u x
  refine ⟨rfl, fun j hj => ?_, fun j hj hj2 => ?_, ?_, ?_⟩
  · match j, hj with
    | 0, _ => exact hc 0 (by decide)
    | 1, _ => exact hc 1 (by decide)
    | 2, _ => exact hc 2 (by decide)
    | 3, _ => exact hc 3 (by decide)
    | 4, _ => exact hc 4 (by decide)
  · match j, hj, hj2 with
    | 5, _, _ => exact ⟨h1, h2⟩
    | 6, _, _ => exact hs 5 (by decide) (by decide)
    | 7, _, _ => exact hr
    | 8, _, _ => exact hs 7 (by decide) (by decide)
  · show 0 ≤ u.getD 9 0 + _
    split <;> omega
  · show u.getD 9 0 + _ ≤ k + 1
    split <;> omega
theorem putUs_mem : ∀ {us : List (List Int)} {x : Int} {u : List Int}, -32767 ≤ x → x ≤ 32767 → u ∈ putUs us x → ∃ v ∈ us, ∃ y, -32767 ≤ y ∧ y ≤ 32767 ∧ u = putU v y
  | [], _, _, _, _, h => by cases h
  | v :: us, x, u, h1, h2, h => by
    rcases List.mem_cons.1 h with rfl | h
    · exact ⟨v, List.mem_cons_self, x, h1, h2, rfl⟩
    · obtain ⟨v', hv, y, r⟩ := putUs_mem (outU_range v x).1 (outU_range v x).2 h
      exact ⟨v', List.mem_cons_of_mem _ hv, y, r⟩
theorem inAt_range {h : Int} (h1 : -32767 ≤ h) (h2 : h ≤ 32767) (i : Nat) : -32767 ≤ inAt h i ∧ inAt h i ≤ 32767 := by unfold inAt; split <;> omega
theorem usAt_ok {us : List (List Int)} {h : Int} (h1 : -32767 ≤ h) (h2 : h ≤ 32767) (h0 : ∀ u ∈ us, okUk 0 u) : ∀ (i : Nat), ∀ u ∈ usAt us h i, okUk (i : Int) u
  | 0, u, hu => h0 u hu
  | i + 1, u, hu => by
    have hr := inAt_range h1 h2 i
    obtain ⟨v, hv, y, hy1, hy2, rfl⟩ := putUs_mem hr.1 hr.2 hu
    have := okUk_put (usAt_ok h1 h2 h0 i v hv) hy1 hy2
    simpa using this
theorem usAt_length (us : List (List Int)) (h : Int) : ∀ i, (usAt us h i).length = us.length
  | 0 => rfl
  | i + 1 => by rw [usAt, putUs_length, usAt_length us h i]
theorem okUk_okU {k : Int} {u : List Int} (h : okUk k u) (hk : k ≤ 1000000000) : okU u := ⟨h.1, h.2.1, h.2.2.1, h.2.2.2.1, Int.le_trans h.2.2.2.2 hk⟩
theorem chkE_ok {c : List (List Int)} (h : chkE c = 0) : c.length ≤ 6 ∧ ∀ r ∈ c, chkRow r = 0 := by
  unfold chkE at h
  split at h
  · cases h
  · rename_i hl
    refine ⟨by omega, fun r hr => ?_⟩
    split at h
    · rename_i i hi
      rw [List.findIdx?_eq_some_iff_getElem] at hi
      obtain ⟨hi1, hi2, _⟩ := hi
      rw [getD_eq hi1] at h
      rw [h] at hi2
      cases hi2
    · rename_i hi
      rw [List.findIdx?_eq_none_iff] at hi
      have := hi r hr
      simpa using this
theorem chkRow_sec {r : List Int} (h : chkRow r = 0) : secB (r.getD 0 0) (r.getD 1 0) (r.getD 2 0) (r.getD 3 0) (r.getD 4 0) = true := by
  unfold chkRow chkS at h
  split at h
  · rename_i h1; exact h1
  · cases h
theorem us0_ok {c : List (List Int)} (h : chkE c = 0) : ∀ u ∈ us0 c, okUk 0 u := by
  intro u hu
  simp only [us0, mkUs, List.mem_map, List.mem_range] at hu
  obtain ⟨i, hi, rfl⟩ := hu
  have hz : (List.replicate c.length [(0 : Int), 0, 0, 0]).getD i [] = [0, 0, 0, 0] := by rw [getD_eq (by simpa using hi)]; simp
  rw [hz, getD_eq hi]
  have hs := secB_iff.1 (chkRow_sec ((chkE_ok h).2 _ (List.getElem_mem hi)))
  refine ⟨rfl, fun j hj => ?_, fun j hj hj2 => ?_, Int.le_refl (0 : Int), Int.le_refl (0 : Int)⟩
  · match j, hj with
    | 0, _ => exact hs.1
    | 1, _ => exact hs.2.1
    | 2, _ => exact hs.2.2.1
    | 3, _ => exact hs.2.2.2.1
    | 4, _ => exact hs.2.2.2.2
  · match j, hj, hj2 with
    | 5, _, _ => exact ⟨(by decide : (-32767 : Int) ≤ 0), (by decide : (0 : Int) ≤ 32767)⟩
    | 6, _, _ => exact ⟨(by decide : (-32767 : Int) ≤ 0), (by decide : (0 : Int) ≤ 32767)⟩
    | 7, _, _ => exact ⟨(by decide : (-32767 : Int) ≤ 0), (by decide : (0 : Int) ≤ 32767)⟩
    | 8, _, _ => exact ⟨(by decide : (-32767 : Int) ≤ 0), (by decide : (0 : Int) ≤ 32767)⟩

/-! impulse: the first outputs for one input -/
def gImpulse : List A → Option (Prop × List RV)
  | [.r (.recs 5 c), .d (.i .i64 h), .d (.i .i64 n)] => some (c.length ≤ 1000000000, [.row 3 (.ints .i64 (impL c h n)), .d (.i .i64 (impE c h n))])
  | _ => none

set_option maxRecDepth 100000 in
theorem impulse_vc (c : List (List Int)) (h n : Int) (ho : c.length ≤ 1000000000) : runF Try.f60 (addS 86 gCascadeErr (addS 91 gSmall (addS 104 gWithin (addS 87 gUnless (addS 85 gFirst (addS 108 gNewChain (addE 109 gChainPut sp0))))))) (fun _ _ => some ⟨Nat, fun i => ⟨[(31, vi .i64 i), (30, vi .i64 n), (10, .w (.c (.o 4))), (9, .w (.c (.o 3))), (7, vi .i64 0), (1, vi .i64 (inAt h i))], [(3, .row 158 (.recs 10 (usAt (us0 c) h i))), (4, .row 3 (.ints .i64 (impS (us0 c) h i)))], 5⟩, fun i => i ≤ n.toNat ∧ impE c h n = 0, fun i => n.toNat - i⟩) 0 [.r (.recs 5 c), .d (.i .i64 h), .d (.i .i64 n)] [.row 3 (.ints .i64 (impL c h n)), .d (.i .i64 (impE c h n))] := by
  refine Eq.mp (by kernel_rfl : (
       Ob (c.length ≤ (1000000000 : Nat)) ∧
       Ob ((-9223372036854775807 : Int) ≤ (32767 : Int) ∧ (32767 : Int) ≤ (9223372036854775807 : Int)) ∧
       Br (decide ((-32767 : Int) ≤ h) && decide (h ≤ (32767 : Int)))
       (Ob True ∧
       Ob True ∧
       Ob
       ([chkE c,
       if (decide ((0 : Int) ≤ n) && decide (n ≤ (1024 : Int))) = true then (0 : Int)
       else (2 : Int)].length ≤
       (1000000 : Nat)) ∧
       Br
       ((List.find? (fun x => x != (0 : Int))
       [chkE c,
       if (decide ((0 : Int) ≤ n) && decide (n ≤ (1024 : Int))) = true then (0 : Int)
       else (2 : Int)]).getD
       (0 : Int) !=
       (0 : Int))
       (Ob True ∧
       Ob True ∧
       Ob ((impL c h n).length = (0 : Nat)) ∧
       Ob
       ((List.find? (fun x => x != (0 : Int))
       [chkE c,
       if (decide ((0 : Int) ≤ n) && decide (n ≤ (1024 : Int))) = true then (0 : Int)
       else (2 : Int)]).getD
       (0 : Int) =
       impE c h n) ∧
       True)
       (Ob
       ((0 : Int) ≤ (↑c.length : Int) ∧
       (↑c.length : Int) = (↑c.length : Int) ∧
       (↑(32 : Nat) : Int) * (↑c.length : Int) ≤ (281474976710656 : Int) ∧
       (↑c.length : Int) ≤ (9223372036854775807 : Int)) ∧
       Ob
       (c.length ≤
       (List.replicate (↑c.length : Int).toNat [(0 : Int), (0 : Int), (0 : Int), (0 : Int)]).length ∧
       c.length ≤ (1000000 : Nat)) ∧
       (∃ (x : Nat),
       Ob (x ≤ n.toNat ∧ impE c h n = (0 : Int)) ∧
       Ob ((0 : Int) = (↑x : Int)) ∧
       Ob (n = n) ∧
       Ob ((0 : Int) = (0 : Int)) ∧
       Ob (h = inAt h x) ∧
       Ob
       (mkUs c
       (List.replicate (↑c.length : Int).toNat
       [(0 : Int), (0 : Int), (0 : Int), (0 : Int)])
       c.length =
       usAt (us0 c) h x) ∧
       Ob ((impS (us0 c) h x).length = (0 : Nat)) ∧ True) ∧
       ∀ (x : Nat),
       x ≤ n.toNat ∧ impE c h n = (0 : Int) →
       Br (decide ((↑x : Int) < n))
       (Ob
       ((usAt (us0 c) h x).length ≤ (1000000 : Nat) ∧
       (∀ (u : List Int), u ∈ usAt (us0 c) h x → okU u) ∧
       (-32767 : Int) ≤ inAt h x ∧ inAt h x ≤ (32767 : Int)) ∧
       Ob
       (((impS (us0 c) h x).length + [outUs (usAt (us0 c) h x) (inAt h x)].length) *
       (8 : Nat) ≤
       (140737488355328 : Nat) ∧
       (impS (us0 c) h x).length + [outUs (usAt (us0 c) h x) (inAt h x)].length ≤
       (9223372036854775807 : Nat)) ∧
       ∃ (x' : Nat),
       Ob (x' ≤ n.toNat ∧ impE c h n = (0 : Int)) ∧
       Ob (n.toNat - x' < n.toNat - x) ∧
       Ob (IntKind.i64.wrap ((↑x : Int) + (1 : Int)) = (↑x' : Int)) ∧
       Ob (n = n) ∧
       Ob ((0 : Int) = (0 : Int)) ∧
       Ob ((0 : Int) = inAt h x') ∧
       Ob (putUs (usAt (us0 c) h x) (inAt h x) = usAt (us0 c) h x') ∧
       Ob
       (impS (us0 c) h x ++ [outUs (usAt (us0 c) h x) (inAt h x)] =
       impS (us0 c) h x') ∧
       True)
       (Ob True ∧
       Ob True ∧ Ob (impS (us0 c) h x = impL c h n) ∧ Ob ((0 : Int) = impE c h n) ∧ True)))
       (Ob True ∧
       Ob ([chkE c, if false = true then (0 : Int) else (2 : Int)].length ≤ (1000000 : Nat)) ∧
       Br
       ((List.find? (fun x => x != (0 : Int)) [chkE c, if false = true then (0 : Int) else (2 : Int)]).getD
       (0 : Int) !=
       (0 : Int))
       (Ob True ∧
       Ob True ∧
       Ob ((impL c h n).length = (0 : Nat)) ∧
       Ob
       ((List.find? (fun x => x != (0 : Int))
       [chkE c, if false = true then (0 : Int) else (2 : Int)]).getD
       (0 : Int) =
       impE c h n) ∧
       True)
       (Ob
       ((0 : Int) ≤ (↑c.length : Int) ∧
       (↑c.length : Int) = (↑c.length : Int) ∧
       (↑(32 : Nat) : Int) * (↑c.length : Int) ≤ (281474976710656 : Int) ∧
       (↑c.length : Int) ≤ (9223372036854775807 : Int)) ∧
       Ob
       (c.length ≤
       (List.replicate (↑c.length : Int).toNat [(0 : Int), (0 : Int), (0 : Int), (0 : Int)]).length ∧
       c.length ≤ (1000000 : Nat)) ∧
       (∃ (x : Nat),
       Ob (x ≤ n.toNat ∧ impE c h n = (0 : Int)) ∧
       Ob ((0 : Int) = (↑x : Int)) ∧
       Ob (n = n) ∧
       Ob ((0 : Int) = (0 : Int)) ∧
       Ob (h = inAt h x) ∧
       Ob
       (mkUs c
       (List.replicate (↑c.length : Int).toNat
       [(0 : Int), (0 : Int), (0 : Int), (0 : Int)])
       c.length =
       usAt (us0 c) h x) ∧
       Ob ((impS (us0 c) h x).length = (0 : Nat)) ∧ True) ∧
       ∀ (x : Nat),
       x ≤ n.toNat ∧ impE c h n = (0 : Int) →
       Br (decide ((↑x : Int) < n))
       (Ob
       ((usAt (us0 c) h x).length ≤ (1000000 : Nat) ∧
       (∀ (u : List Int), u ∈ usAt (us0 c) h x → okU u) ∧
       (-32767 : Int) ≤ inAt h x ∧ inAt h x ≤ (32767 : Int)) ∧
       Ob
       (((impS (us0 c) h x).length + [outUs (usAt (us0 c) h x) (inAt h x)].length) *
       (8 : Nat) ≤
       (140737488355328 : Nat) ∧
       (impS (us0 c) h x).length + [outUs (usAt (us0 c) h x) (inAt h x)].length ≤
       (9223372036854775807 : Nat)) ∧
       ∃ (x' : Nat),
       Ob (x' ≤ n.toNat ∧ impE c h n = (0 : Int)) ∧
       Ob (n.toNat - x' < n.toNat - x) ∧
       Ob (IntKind.i64.wrap ((↑x : Int) + (1 : Int)) = (↑x' : Int)) ∧
       Ob (n = n) ∧
       Ob ((0 : Int) = (0 : Int)) ∧
       Ob ((0 : Int) = inAt h x') ∧
       Ob (putUs (usAt (us0 c) h x) (inAt h x) = usAt (us0 c) h x') ∧
       Ob
       (impS (us0 c) h x ++ [outUs (usAt (us0 c) h x) (inAt h x)] =
       impS (us0 c) h x') ∧
       True)
       (Ob True ∧
       Ob True ∧ Ob (impS (us0 c) h x = impL c h n) ∧ Ob ((0 : Int) = impE c h n) ∧ True)))) = _) ?_
  simp only [find2, Int.toNat_natCast, impS_length, List.length_replicate, List.length_cons, List.length_nil, Ob_iff, Br_iff, decide_eq_true_eq, decide_eq_false_iff_not, true_and, and_true, bne_iff_ne, ne_eq, bne_eq_false_iff_eq, Bool.and_eq_true, Bool.false_eq_true, if_false]
  have hbad : (if ¬chkE c = 0 then chkE c else 2) ≠ 0 := by split <;> omega
  have hfacts : impE c h n = 0 → chkE c = 0 ∧ (-32767 ≤ h ∧ h ≤ 32767) ∧ 0 ≤ n ∧ n ≤ 1024 := by
    intro h0
    unfold impE at h0
    split at h0
    · rename_i h1; exact absurd h0 h1
    · rename_i h1
      split at h0
      · rename_i h2; exact ⟨Classical.byContradiction h1, h2⟩
      · cases h0
  refine ⟨ho, by decide, fun hh => ?_, fun hh => ⟨by decide, fun he => ?_, fun he => absurd he hbad⟩⟩
  · have e : (if ¬chkE c = 0 then chkE c else if 0 ≤ n ∧ n ≤ 1024 then 0 else 2) = impE c h n := by
      unfold impE
      simp only [hh.1, hh.2, and_self, true_and, ne_eq]
    rw [e]
    refine ⟨by decide, fun he => ⟨by unfold impL; rw [if_neg he]; rfl, rfl⟩, fun he => ?_⟩
    obtain ⟨hc, _, hn⟩ := hfacts he
    have hl := (chkE_ok hc).1
    refine ⟨by omega, by omega, ⟨0, ⟨by omega, he⟩, rfl, rfl, rfl, rfl⟩, fun x ⟨h1, _⟩ => ⟨fun h2 => ⟨⟨?_, ?_, inAt_range hh.1 hh.2 x⟩, by omega, x + 1, ⟨by omega, he⟩, by omega, ?_, ?_, rfl, (impS_succ (us0 c) h x).symm⟩, fun h2 => ⟨?_, he.symm⟩⟩⟩
    · rw [usAt_length, us0, mkUs_length]
      omega
    · intro u hu
      exact okUk_okU (usAt_ok hh.1 hh.2 (us0_ok hc) x u hu) (by omega)
    · rw [wr (by omega) (by omega)]
      omega
    · unfold inAt
      rw [if_neg (by omega)]
    · have e : x = n.toNat := by omega
      unfold impL
      rw [if_pos he, e]
  · have e : (if ¬chkE c = 0 then chkE c else 2) = impE c h n := by
      have hn : ¬ (-32767 ≤ h ∧ h ≤ 32767) := by
        intro hc
        simp [hc.1, hc.2] at hh
      unfold impE
      simp only [hn, false_and, if_false, ne_eq]
    rw [e] at he ⊢
    exact ⟨by unfold impL; rw [if_neg he]; rfl, rfl⟩

set_option maxRecDepth 100000 in
theorem impulse_ok : SpecOK Try.prog 60 true (pureS gImpulse) := by
  refine pure_ok (sp := (addS 86 gCascadeErr (addS 91 gSmall (addS 104 gWithin (addS 87 gUnless (addS 85 gFirst (addS 108 gNewChain (addE 109 gChainPut sp0)))))))) (fn := Try.f60) (body := bodyOf Try.f60) mixed (addS_ok cascadeErr_ok (addS_ok small_ok (addS_ok within_ok (addS_ok unless_ok (addS_ok first_ok (addS_ok newChain_ok (addE_ok chainPut_ok sp0_ok))))))) Try.func60 (by kernel_rfl) (by kernel_rfl) fun as_ ob rs h ho => ?_
  unfold gImpulse at h
  split at h
  · rename_i c h n
    cases h
    exact ⟨Nat.le_of_ble_eq_true rfl, _, _, impulse_vc c h n ho⟩
  · cases h

end Go.Sx06
