/- Plain law: the reference's step down and Schur test answer as the program's contracts say. -/
import Derived.Test.YtndhdojnlobloaaMirA
import Derived.Test.YtndhdojnlobloaaPl
namespace Go.Sh
open Go Go.Proofs Go.RowKit Go.Sx Go.Sx06

theorem take_succ_get {α : Type} {l : List α} {i : Nat} (h : i < l.length) : l.take (i + 1) = l.take i ++ [l[i]] := List.take_succ_eq_append_getElem h

theorem stepDown_eq {l : List Int} (h0 : 1 ≤ l.length) (hL : l.length ≤ 1000000) (hx : ∀ x ∈ l, -2147483647 ≤ x ∧ x ≤ 2147483647) : R06_StepDown l = some (downS l) := by
  have hlen : (downS l).length = l.length - 1 := downS_len l
  have e1 : IntKind.i64.wrap ((l.length : Int) - 1) = ((l.length - 1 : Nat) : Int) := by rw [wr64 (by omega)]; omega
  have hrun := iter_upto (body := R06_StepDown_b0 l) (fun i => ((i : Int), (downS l).take i)) (k := l.length - 1) (y := downS l) (fun i hi => by
    have e2 : IntKind.i64.wrap (((l.length - 1 : Nat) : Int) - (i : Int)) = ((l.length - 1 - i : Nat) : Int) := by rw [wr64 (by omega)]; omega
    have b0 := hx _ (getD_mem (show 0 < l.length by omega))
    have b1 := hx _ (getD_mem (show i < l.length by omega))
    have b2 := hx _ (getD_mem (show l.length - 1 < l.length by omega))
    have b3 := hx _ (getD_mem (show l.length - 1 - i < l.length by omega))
    have m1 := mul_small b0 b1
    have m2 := mul_small b2 b3
    have htl : ((downS l).take i).length = i := by rw [List.length_take, hlen]; omega
    unfold R06_StepDown_b0
    simp only [e1, e2, Int.toNat_natCast, List.length_cons, List.length_nil]
    rw [if_pos (by omega), if_pos (by omega), if_pos (by omega), if_pos (by omega), if_pos (by omega), if_pos (by omega), if_pos (by omega), if_pos (by omega), if_pos (by omega), if_pos (by rw [htl]; omega)]
    rw [wr64 (x := l.getD 0 0 * l.getD i 0) (by omega), wr64 (x := l.getD (l.length - 1) 0 * l.getD (l.length - 1 - i) 0) (by omega), wr64 (x := l.getD 0 0 * l.getD i 0 - l.getD (l.length - 1) 0 * l.getD (l.length - 1 - i) 0) (by omega), wr64 (x := (i : Int) + 1) (by omega)]
    rw [take_succ_get (show i < (downS l).length by omega)]
    have e3 : (downS l)[i]'(by omega) = l.getD 0 0 * l.getD i 0 - l.getD (l.length - 1) 0 * l.getD (l.length - 1 - i) 0 := by simp [downS, downD]
    rw [e3]
    rfl) (by
    unfold R06_StepDown_b0
    simp only [e1]
    rw [if_neg (by omega), ← hlen, List.take_length]) (by omega)
  have hrun' : iter (R06_StepDown_b0 l) big (0, []) = some (downS l) := hrun
  unfold R06_StepDown
  rw [hrun']
  rfl

theorem schur_iter : ∀ (n : Nat) (l : List Int) (s : Nat) (N : Nat), l.length = n + 2 → n + s ≤ 3 → 0 < l.getD 0 0 → (∀ y ∈ l, -limS s ≤ y ∧ y ≤ limS s) → n < N →
    iter R06_Schur_b0 N ((s : Int), l) = some (if (schurS (n + 2) l s).1 = true then .inl ((schurS (n + 2) l s).2 : Int) else .inr ((schurS (n + 2) l s).2 : Int))
  | _, _, _, 0, _, _, _, _, h => absurd h (by omega)
  | n, l, s, N + 1, hl, hs, h0, hb, hN => by
    have e1 : IntKind.i64.wrap ((l.length : Int) - 1) = ((l.length - 1 : Nat) : Int) := by rw [wr64 (by omega)]; omega
    have bl := hb _ (getD_mem (show l.length - 1 < l.length by omega))
    have b0 := hb _ (getD_mem (show 0 < l.length by omega))
    have hlim := limS_le s
    have hlead : leadB l = decide (l.getD 0 0 > max (l.getD (l.length - 1) 0) (-l.getD (l.length - 1) 0)) := by
      unfold leadB absI
      rw [show max (l.getD 0 0) (-l.getD 0 0) = l.getD 0 0 by omega]
    unfold iter R06_Schur_b0
    simp only [e1, Int.toNat_natCast]
    rw [if_pos (by omega), if_pos (by omega), if_pos (by omega), if_pos (by omega), if_pos (by omega)]
    by_cases hle : leadB l = true
    · have hgt : l.getD 0 0 > max (l.getD (l.length - 1) 0) (-l.getD (l.length - 1) 0) := by rw [hlead] at hle; simpa using hle
      rw [if_pos hgt]
      by_cases h2 : l.length = 2
      · rw [if_pos (by simpa using (show (l.length : Int) = 2 by omega))]
        have : schurS (n + 2) l s = (true, s) := by
          unfold schurS
          rw [if_neg (by rw [hle]; simp), if_pos h2]
        rw [this]
        rfl
      · rw [if_neg (by simp; omega)]
        obtain ⟨m, rfl⟩ : ∃ m, n = m + 1 := ⟨n - 1, by omega⟩
        have hs2 : s ≤ 2 := by omega
        have hlim2 := limS_le2 hs2
        rw [stepDown_eq (by omega) (by omega) (fun x hx => by have := hb x hx; omega), bind_some', wr64 (x := (s : Int) + 1) (by omega)]
        have ih := schur_iter m (downS l) (s + 1) N (by rw [downS_len]; omega) (by omega) (by
          have e0 : (downS l).getD 0 0 = downD l 0 := by
            have : 0 < (downS l).length := by rw [downS_len]; omega
            simp [downS, List.getD]
            rw [List.getElem?_range (by omega)]
            rfl
          rw [e0]
          unfold downD
          simp only [Nat.sub_zero]
          have h3 : -(l.getD 0 0) < l.getD (l.length - 1) 0 ∧ l.getD (l.length - 1) 0 < l.getD 0 0 := by omega
          generalize l.getD 0 0 = a at *
          generalize l.getD (l.length - 1) 0 = b at *
          have h4 : 0 < (a - b) * (a + b) := Int.mul_pos (by omega) (by omega)
          rw [Int.sub_mul, Int.mul_add, Int.mul_add, Int.mul_comm b a] at h4
          omega) (lim_step hs2 (by omega) hb) (by omega)
        have : schurS (m + 1 + 2) l s = schurS (m + 2) (downS l) (s + 1) := by
          conv => lhs; unfold schurS
          rw [if_neg (by rw [hle]; simp), if_neg h2]
        rw [this]
        exact ih
    · have hng : ¬ l.getD 0 0 > max (l.getD (l.length - 1) 0) (-l.getD (l.length - 1) 0) := by
        intro hc
        rw [hlead] at hle
        exact hle (by simpa using hc)
      rw [if_neg hng]
      have : schurS (n + 2) l s = (false, s) := by
        unfold schurS
        rw [if_pos (by simpa using hle)]
      rw [this]
      rfl

theorem schurRef_eq {l : List Int} (h : polyE l = 0) : R06_Schur l = some (schurOk l, schurN l) := by
  obtain ⟨h1, h2, h3, h4⟩ := polyE_ok h
  obtain ⟨n, hn⟩ : ∃ n, l.length = n + 2 := ⟨l.length - 2, by omega⟩
  have := schur_iter n l 0 big hn (by omega) h4 (fun y hy => by have := h3 y hy; show -100 ≤ y ∧ y ≤ 100; exact this) (by unfold big; omega)
  have hrun : iter R06_Schur_b0 big (0, l) = _ := this
  unfold R06_Schur schurOk schurN
  rw [hrun, if_pos h, if_pos h, hn, bind_some']
  unfold R06_Schur_r0
  cases hb : (schurS (n + 2) l 0).1 <;> simp [R06_Schur_r0_0, R06_Schur_r0_1]

theorem stepDownF_eq {l : List Int} (hl : l.length ≤ 1000000000) : F_StepDown l = some (if polyE l ≠ 0 then ([], polyE l) else if l.length = 2 then ([], 10) else (downS l, 0)) := by
  unfold F_StepDown
  rw [if_pos (by omega), if_pos (by simp)]
  by_cases h : polyE l = 0
  · obtain ⟨h1, h2, h3, h4⟩ := polyE_ok h
    rw [h]
    by_cases h5 : l.length = 2
    · simp [h5]
    · have e : ((l.length : Int) != 2) = true := by simp; omega
      simp only [e, if_true]
      rw [if_neg (by decide), if_pos ⟨by omega, by omega, fun x hx => by have := h3 x hx; omega⟩]
      simp [h5]
  · have e : (polyE l != 0) = true := by simpa using h
    simp only [List.find?_cons, e, Option.getD_some, if_true]
    simp [h]

/-- **The law.** -/
theorem filterSchur_true (p : List Int) (hl : p.length ≤ 1000000000000000) : L06_FilterSchur p = some true := by
  unfold L06_FilterSchur
  by_cases h8 : (p.length : Int) > 8
  · rw [if_pos h8]
  · rw [if_neg h8, if_pos (by omega), stepDownF_eq (by omega), bind_some', if_pos (by omega), if_pos (by omega), if_pos (by omega)]
    by_cases h : polyE p = 0
    · rw [schurRef_eq h, bind_some']
      obtain ⟨h1, h2, h3, h4⟩ := polyE_ok h
      rw [stepDown_eq (by omega) (by omega) (fun x hx => by have := h3 x hx; omega), bind_some']
      by_cases h5 : p.length = 2
      · simp [h, h5]
      · have e : ((p.length : Int) == 2) = false := by simp; omega
        have hd := downS_len p
        simp [h, h5, e]
        omega
    · have e1 : schurOk p = false := by unfold schurOk; rw [if_neg h]
      have e2 : schurN p = 0 := by unfold schurN; rw [if_neg h]
      simp [h, e1, e2]
end Go.Sh
