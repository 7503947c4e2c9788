/- Plain law: the references of chapter 6's checks and bounds answer as the program's contracts say. -/
import Derived.Test.YtndhdojnlobloaaMirB
import Derived.Test.YtndhdojnlobloaaPl
namespace Go.Sh
open Go Go.Proofs Go.RowKit Go.Sx Go.Sx06

theorem checkSection_eq (b0 b1 b2 a0 a1 : Int) : R06_CheckSection b0 b1 b2 a0 a1 = some (chkS b0 b1 b2 a0 a1) := by
  have h := iter_first [b0, b1, b2, a0, a1] 0 (fun n => !partB n) (body := R06_CheckSection_b0 b0 b1 b2 a0 a1) (fun _ => .inl ()) (.inr ()) (by simp)
    (fun i hi hp => by
      unfold R06_CheckSection_b0
      rw [if_pos (by omega), if_pos (by omega), if_pos (by omega), if_pos (by simpa [partB] using hp)])
    (fun i hi hp => by
      unfold R06_CheckSection_b0
      rw [if_pos (by omega), if_pos (by omega), if_pos (by omega), if_neg (by simpa [partB] using hp), wr64 (by simp at hi; omega)])
    (by unfold R06_CheckSection_b0; rw [if_neg (by omega)])
  unfold R06_CheckSection
  rw [h]
  unfold chkS
  cases hf : [b0, b1, b2, a0, a1].findIdx? (fun n => !partB n) with
  | none =>
    rw [List.findIdx?_eq_none_iff] at hf
    rw [if_pos (List.all_eq_true.2 fun x hx => by simpa using hf x hx)]
    rfl
  | some k =>
    rw [List.findIdx?_eq_some_iff_getElem] at hf
    obtain ⟨hk, hp, _⟩ := hf
    rw [if_neg (fun hc => by have := List.all_eq_true.1 hc _ (List.getElem_mem hk); rw [this] at hp; cases hp)]
    rfl

theorem few_eq (c : List (List Int)) : L06_few c = some (decide ((c.length : Int) ≤ 8)) := rfl
theorem copy_eq {c : List (List Int)} (h : c.length ≤ 1000000000000) : R06_Copy c = some c := by
  unfold R06_Copy
  rw [if_pos (by omega), List.nil_append]

theorem chkRow_eq (r : List Int) : R06_CheckSection (r.getD 0 0) (r.getD 1 0) (r.getD 2 0) (r.getD 3 0) (r.getD 4 0) = some (chkRow r) := checkSection_eq _ _ _ _ _

theorem checkCascade_eq {c : List (List Int)} (hl : c.length ≤ 1000000000000) : R06_CheckCascade c = some (chkI c, chkE c) := by
  unfold R06_CheckCascade chkI chkE
  by_cases h6 : 6 < c.length
  · rw [if_pos (by omega), if_pos h6, if_pos h6]
  · rw [if_neg (by omega), if_neg h6, if_neg h6]
    have h := iter_first c [] (fun r => chkRow r != 0) (body := R06_CheckCascade_b0 c) (fun i => .inl ((i : Int), chkRow (c.getD i []))) (.inr ()) (by omega)
      (fun i hi hp => by
        unfold R06_CheckCascade_b0
        rw [if_pos (by omega), if_pos (by omega), if_pos (by omega), Int.toNat_natCast, chkRow_eq, bind_some', if_pos hp])
      (fun i hi hp => by
        unfold R06_CheckCascade_b0
        rw [if_pos (by omega), if_pos (by omega), if_pos (by omega), Int.toNat_natCast, chkRow_eq, bind_some', if_neg (by rw [hp]; simp), wr64 (by omega)])
      (by unfold R06_CheckCascade_b0; rw [if_neg (by omega)])
    rw [h]
    cases c.findIdx? (fun r => chkRow r != 0) <;> rfl

theorem floor_eq {n b : Int} (hb : 0 < b) (hn : -9223372036854775807 ≤ n ∧ n ≤ 9223372036854775807) : B_Floor n b = some (n / b) := by
  have h1 := tdiv_bounds (n := n) hb
  have h2 := ediv_bounds (n := n) hb
  unfold B_Floor
  rw [if_pos (by omega), if_pos (by omega), wr64 (x := n.tdiv b) (by omega)]
  split
  · rename_i h
    rw [floor_neg hb h, wr64 (by omega)]
  · rename_i h
    rw [floor_pos hb h]

theorem part_of_chk {b0 b1 b2 a0 a1 : Int} (h : chkS b0 b1 b2 a0 a1 = 0) : (-32768 ≤ b0 ∧ b0 ≤ 32768) ∧ (-32768 ≤ b1 ∧ b1 ≤ 32768) ∧ (-32768 ≤ b2 ∧ b2 ≤ 32768) ∧ (-32768 ≤ a0 ∧ a0 ≤ 32768) ∧ (-32768 ≤ a1 ∧ a1 ≤ 32768) := by
  unfold chkS at h
  split at h
  · rename_i hc
    simpa [partB] using hc
  · omega

def boR (b0 b1 b2 a0 a1 m : Int) : Int × Int := if ¬ (0 ≤ m ∧ m ≤ 32767) then (0, 2) else if roomS a0 a1 ≤ 0 then (0, 12) else (boundS b0 b1 b2 a0 a1 m, 0)
theorem boR_bad {b0 b1 b2 a0 a1 m : Int} (h : ¬ (0 ≤ m ∧ m ≤ 32767)) : boR b0 b1 b2 a0 a1 m = (0, 2) := by unfold boR; rw [if_pos h]
theorem boR_none {b0 b1 b2 a0 a1 m : Int} (h : 0 ≤ m ∧ m ≤ 32767) (hr : roomS a0 a1 ≤ 0) : boR b0 b1 b2 a0 a1 m = (0, 12) := by unfold boR; rw [if_neg (fun hc => hc h), if_pos hr]
theorem boR_some {b0 b1 b2 a0 a1 m : Int} (h : 0 ≤ m ∧ m ≤ 32767) (hr : ¬ roomS a0 a1 ≤ 0) : boR b0 b1 b2 a0 a1 m = (boundS b0 b1 b2 a0 a1 m, 0) := by unfold boR; rw [if_neg (fun hc => hc h), if_neg hr]

/-- The bound of a right section. -/
theorem boundOf_eq {b0 b1 b2 a0 a1 m : Int} (h : chkS b0 b1 b2 a0 a1 = 0) : R06_BoundOf b0 b1 b2 a0 a1 m = some (boR b0 b1 b2 a0 a1 m) := by
  obtain ⟨p0, p1, p2, p3, p4⟩ := part_of_chk h
  unfold R06_BoundOf
  by_cases hm : 0 ≤ m ∧ m ≤ 32767
  · rw [if_neg (by simp; omega), if_pos (by omega), if_pos (by omega), wr64 (x := 16384 - max a0 (-a0)) (by omega), wr64 (x := 16384 - max a0 (-a0) - max a1 (-a1)) (by omega)]
    have er : 16384 - max a0 (-a0) - max a1 (-a1) = roomS a0 a1 := rfl
    rw [er]
    by_cases hr : roomS a0 a1 ≤ 0
    · rw [if_pos hr, boR_none hm hr]
    · rw [if_neg hr, boR_some hm hr, if_pos (by omega), if_pos (by omega), if_pos (by omega), wr64 (x := max b0 (-b0) + max b1 (-b1)) (by omega), wr64 (x := max b0 (-b0) + max b1 (-b1) + max b2 (-b2)) (by omega)]
      have ei : max b0 (-b0) + max b1 (-b1) + max b2 (-b2) = inS b0 b1 b2 := rfl
      have hi : 0 ≤ inS b0 b1 b2 ∧ inS b0 b1 b2 ≤ 98304 := by unfold inS; omega
      rw [ei]
      have hmul : 0 ≤ inS b0 b1 b2 * m ∧ inS b0 b1 b2 * m ≤ 98304 * 32767 := ⟨Int.mul_nonneg hi.1 hm.1, Int.mul_le_mul hi.2 hm.2 hm.1 (by omega)⟩
      rw [wr64 (x := inS b0 b1 b2 * m) (by omega), wr64 (x := inS b0 b1 b2 * m + 8192) (by omega), floor_eq (by omega) (by omega), bind_some']
      unfold boundS
      rw [if_neg hr]
      congr 2
      split <;> omega
  · rw [if_pos (by simp; omega), boR_bad hm]

theorem bounds_chk {c : List (List Int)} (h : chkE c = 0) : c.length ≤ 6 ∧ ∀ r ∈ c, chkRow r = 0 := by
  unfold chkE at h
  split at h
  · omega
  · rename_i h6
    refine ⟨by omega, fun r hr => ?_⟩
    cases hf : c.findIdx? (fun r => chkRow r != 0) with
    | none =>
      rw [List.findIdx?_eq_none_iff] at hf
      simpa using hf r hr
    | some k =>
      rw [hf] at h
      rw [List.findIdx?_eq_some_iff_getElem] at hf
      obtain ⟨hk, hp, _⟩ := hf
      simp [List.getD, hk] at h
      simp [h] at hp

theorem cascadeBound_eq {c : List (List Int)} {m : Int} (h : chkE c = 0) : R06_CascadeBound c m = some (cbN c m, cbE c m) := by
  obtain ⟨hl, hrow⟩ := bounds_chk h
  unfold R06_CascadeBound
  by_cases hm : 0 ≤ m ∧ m ≤ 32767
  · rw [if_neg (by simp; omega)]
    -- the first section without a bound
    have step : ∀ i, i < c.length → 0 ≤ bAt c m i ∧ bAt c m i ≤ 32767 → R06_CascadeBound_b0 c (bAt c m i, (i : Int)) =
        if roomR (c.getD i []) ≤ 0 then some (.inr (.inl 12)) else some (.inl (bAt c m (i + 1), ((i + 1 : Nat) : Int))) := fun i hi hb => by
      unfold R06_CascadeBound_b0
      have hr := hrow (c.getD i []) (by simp [List.getD, hi])
      have hbo := boundOf_eq (b0 := (c.getD i []).getD 0 0) (b1 := (c.getD i []).getD 1 0) (b2 := (c.getD i []).getD 2 0) (a0 := (c.getD i []).getD 3 0) (a1 := (c.getD i []).getD 4 0) (m := bAt c m i) hr
      rw [if_pos (by dsimp only; omega), if_pos (by dsimp only; omega), if_pos (by dsimp only; omega)]
      dsimp only
      rw [Int.toNat_natCast, hbo, bind_some']
      by_cases hrm : roomR (c.getD i []) ≤ 0
      · rw [boR_none hb hrm, if_pos hrm]; rfl
      · rw [boR_some hb hrm, if_neg hrm]
        simp only [bne_self_eq_false, Bool.false_eq_true, if_false]
        rw [wr64 (by omega)]
        rfl
    cases hf : c.findIdx? (fun r => decide (roomR r ≤ 0)) with
    | none =>
      rw [List.findIdx?_eq_none_iff] at hf
      have hroom : ∀ r ∈ c, 0 < roomR r := fun r hr => by have := hf r hr; simp at this; omega
      have hcb : cbE c m = 0 := by
        unfold cbE
        rw [if_neg (by omega), if_neg (by simpa using hm), if_neg]
        intro hc
        obtain ⟨r, hr, h2⟩ := List.any_eq_true.1 hc
        have := hroom r hr
        simp at h2
        omega
      have hrun := iter_upto (body := R06_CascadeBound_b0 c) (fun i => (bAt c m i, (i : Int))) (k := c.length) (y := .inr (bAt c m c.length)) (fun i hi => by
        have hb := bAt_range hm.1 hm.2 i (by omega) (fun r hr => hroom r (List.mem_of_mem_take hr))
        rw [step i hi hb, if_neg (by have := hroom (c.getD i []) (by simp [List.getD, hi]); omega)]) (by
        unfold R06_CascadeBound_b0
        rw [if_neg (by dsimp only; omega)]) (by omega)
      simp only [bAt, Int.natCast_zero] at hrun
      have hrun' : iter (R06_CascadeBound_b0 c) big (m, 0) = some (.inr (bAt c m c.length)) := hrun
      rw [hrun']
      unfold cbN
      rw [hcb]
      rfl
    | some k =>
      rw [List.findIdx?_eq_some_iff_getElem] at hf
      obtain ⟨hk, hp, hbef⟩ := hf
      have hroom : ∀ r ∈ c.take k, 0 < roomR r := fun r hr => by
        obtain ⟨j, hj, rfl⟩ := List.mem_take_iff_getElem.1 hr
        have := hbef j (by omega)
        simp at this
        omega
      have hcb : cbE c m = 12 := by
        unfold cbE
        rw [if_neg (by omega), if_neg (by simpa using hm), if_pos]
        exact List.any_eq_true.2 ⟨c[k], List.getElem_mem _, hp⟩
      have hgk : c.getD k [] = c[k] := by simp [List.getD, hk]
      have hrun := iter_upto (body := R06_CascadeBound_b0 c) (fun i => (bAt c m i, (i : Int))) (k := k) (y := .inl 12) (fun i hi => by
        have hil : i < c.length := by omega
        have hb := bAt_range (c := c) hm.1 hm.2 i (by omega) (fun r hr => hroom r (by
          rw [List.mem_take_iff_getElem] at hr ⊢
          obtain ⟨j, hj, e⟩ := hr
          exact ⟨j, by omega, e⟩))
        rw [step i hil hb, if_neg]
        have := hbef i hi
        simp at this
        simp [List.getD, hil]
        omega) (by
        have hb := bAt_range hm.1 hm.2 k (by omega) hroom
        rw [step k hk hb, if_pos (by rw [hgk]; simpa using hp)]) (by omega)
      have hrun' : iter (R06_CascadeBound_b0 c) big (m, 0) = some (.inl 12) := hrun
      rw [hrun']
      unfold cbN
      rw [hcb]
      rfl
  · rw [if_pos (by simp; omega)]
    have hcb : cbE c m = 2 := by
      unfold cbE
      rw [if_neg (by omega), if_pos hm]
    unfold cbN
    rw [hcb]
    rfl

theorem cb_one (b0 b1 b2 a0 a1 : Int) : chkE [[b0, b1, b2, a0, a1]] = chkS b0 b1 b2 a0 a1 := by
  unfold chkE
  rw [if_neg (by simp)]
  have e : chkRow [b0, b1, b2, a0, a1] = chkS b0 b1 b2 a0 a1 := rfl
  rw [List.findIdx?_cons, e, List.findIdx?_nil]
  by_cases h : chkS b0 b1 b2 a0 a1 = 0
  · rw [h]; rfl
  · rw [if_pos (by simpa using h)]
    exact e

/-- **The law.** -/
theorem filterBounds_true {c : List (List Int)} (b0 b1 b2 a0 a1 m : Int) (hl : c.length ≤ 1000000000000000) : L06_FilterBounds c b0 b1 b2 a0 a1 m = some true := by
  unfold L06_FilterBounds
  rw [few_eq, bind_some']
  by_cases h8 : (c.length : Int) ≤ 8
  · rw [if_neg (by simpa using h8), copy_eq (by omega), bind_some', if_pos (by omega), checkSection_eq, bind_some', checkCascade_eq (by omega)]
    have key : (if (chkE c == (0 : Int)) = true then (R06_CascadeBound c m).bind fun r5 => if (cbE c m == r5.2) = true then some (cbN c m == r5.1) else some false
        else if (cbE c m == chkE c) = true then some (cbN c m == (0 : Int)) else some false) = some true := by
      by_cases hc : chkE c = 0
      · rw [if_pos (by simpa using hc), cascadeBound_eq hc, bind_some']
        simp
      · rw [if_neg (by simpa using hc)]
        have e : cbE c m = chkE c := by unfold cbE; rw [if_pos hc]
        rw [if_pos (by simpa using e)]
        unfold cbN
        rw [if_neg (by rw [e]; exact hc)]
        rfl
    by_cases hs : chkS b0 b1 b2 a0 a1 = 0
    · rw [if_pos (by simpa using hs), boundOf_eq hs, bind_some']
      have h1 : chkE [[b0, b1, b2, a0, a1]] = 0 := by rw [cb_one _ _ _ _ _]; exact hs
      have hE : cbE [[b0, b1, b2, a0, a1]] m = (boR b0 b1 b2 a0 a1 m).2 ∧ cbN [[b0, b1, b2, a0, a1]] m = (boR b0 b1 b2 a0 a1 m).1 := by
        have e0 : cbE [[b0, b1, b2, a0, a1]] m = if ¬ (0 ≤ m ∧ m ≤ 32767) then 2 else if roomS a0 a1 ≤ 0 then 12 else 0 := by
          unfold cbE
          rw [if_neg (by omega)]
          simp [roomR]
        unfold cbN
        rw [e0]
        by_cases hm : 0 ≤ m ∧ m ≤ 32767
        · by_cases hr : roomS a0 a1 ≤ 0
          · rw [boR_none hm hr]; simp [hm, hr]
          · rw [boR_some hm hr]; simp [hm, hr, bAt, boundR]
        · rw [boR_bad hm]; simp [hm]
      rw [if_neg (by rw [hE.1]; simp), if_neg (by rw [hE.2]; simp), bind_some']
      exact key
    · rw [if_neg (by simpa using hs)]
      have h1 : chkE [[b0, b1, b2, a0, a1]] = chkS b0 b1 b2 a0 a1 := cb_one _ _ _ _ _
      have e : cbE [[b0, b1, b2, a0, a1]] m = chkS b0 b1 b2 a0 a1 := by unfold cbE; rw [if_pos (by rw [h1]; exact hs), h1]
      have e2 : cbN [[b0, b1, b2, a0, a1]] m = 0 := by unfold cbN; rw [if_neg (by rw [e]; exact hs)]
      rw [if_neg (by rw [e]; simp), if_neg (by rw [e2]; simp), bind_some']
      exact key
  · rw [if_pos (by simpa using h8)]
end Go.Sh
