/- Plain facts: the enclosure of a gain. -/
import Derived.Test.YtndhdojnlobloaaLR2
namespace Go.Sh
open Go Go.Proofs Go.RowKit Go.Sx Go.Sx06

/-! A loop over the elements of a list, with a state -/
def stepOut {S Y : Type} (i : Int) : S ⊕ Y → (Int × S) ⊕ Y
  | .inl s => .inl (i + 1, s)
  | .inr y => .inr y
def foldE {α S Y : Type} (stp : α → S → S ⊕ Y) (fin : S → Y) : List α → S → Y
  | [], s => fin s
  | x :: t, s => match stp x s with
    | .inl s' => foldE stp fin t s'
    | .inr y => y
theorem iter_list {α S Y : Type} (l : List α) (d : α) {body : Int × S → Option ((Int × S) ⊕ Y)} (stp : α → S → S ⊕ Y) (fin : S → Y) (Inv : S → Prop) (hl : l.length < 9223372036854775807)
    (h1 : ∀ (i : Nat) s, i < l.length → Inv s → body ((i : Int), s) = some (stepOut (i : Int) (stp (l.getD i d) s)))
    (h2 : ∀ x ∈ l, ∀ s s', Inv s → stp x s = .inl s' → Inv s')
    (h3 : ∀ s, Inv s → body ((l.length : Int), s) = some (.inr (fin s))) (s : S) (hs : Inv s) : iter body big (0, s) = some (foldE stp fin l s) := by
  have key : ∀ (t : List α) (i : Nat) (N : Nat) (s : S), Inv s → l.drop i = t → i + t.length = l.length → t.length < N → iter body N ((i : Int), s) = some (foldE stp fin t s) := by
    intro t
    induction t with
    | nil =>
      intro i N s hs hd hi hN
      obtain ⟨N, rfl⟩ : ∃ M, N = M + 1 := ⟨N - 1, by simp at hN; omega⟩
      have : i = l.length := by simpa using hi
      subst this
      unfold iter
      rw [h3 s hs]
      rfl
    | cons x t ih =>
      intro i N s hs hd hi hN
      simp only [List.length_cons] at hi hN
      obtain ⟨N, rfl⟩ : ∃ M, N = M + 1 := ⟨N - 1, by omega⟩
      have hil : i < l.length := by omega
      have hx : l.getD i d = x := by
        have := List.drop_eq_getElem_cons hil
        rw [hd] at this
        simp only [List.cons.injEq] at this
        simp [List.getD, hil, this.1]
      have ht : l.drop (i + 1) = t := by
        have := List.drop_eq_getElem_cons hil
        rw [hd] at this
        simp only [List.cons.injEq] at this
        exact this.2.symm
      unfold iter foldE
      rw [h1 i s hil hs, hx]
      cases e : stp x s with
      | inl s' =>
        have hmem : x ∈ l := by
          have := List.drop_subset i l (a := x) (by rw [hd]; exact List.mem_cons_self)
          exact this
        exact ih (i + 1) N s' (h2 x hmem s s' hs e) ht (by omega) (by omega)
      | inr y => rfl
  exact key l 0 big s hs (by simp) (by simp) (by unfold big; omega)

def numS (p q r : Int) (s : List Int) : Int := sqS (s.getD 0 0) (s.getD 1 0) (s.getD 2 0) p q r
def denS (p q r : Int) (s : List Int) : Int := sqS 16384 (s.getD 3 0) (s.getD 4 0) p q r
def upS (x h : Int) : Int := (x * h + 1048575) / 1048576
def grStep (p q r : Int) (s : List Int) (x : Int × Int) : (Int × Int) ⊕ (Int ⊕ (Int × Int)) :=
  if denS p q r s = 0 then .inr (.inl 11) else
  if ptH (numS p q r s) (denS p q r s) > 1073741824 then .inr (.inl 8) else
  if upS x.2 (ptH (numS p q r s) (denS p q r s)) > 1073741824 then .inr (.inl 8) else
  .inl (x.1 * ptQ (numS p q r s) (denS p q r s) / 1048576, upS x.2 (ptH (numS p q r s) (denS p q r s)))
def grInv (x : Int × Int) : Prop := 0 ≤ x.1 ∧ x.1 ≤ x.2 ∧ x.2 ≤ 1073741824

theorem row_in {s : List Int} (h : chkRow s = 0) : (-32768 ≤ s.getD 0 0 ∧ s.getD 0 0 ≤ 32768) ∧ (-32768 ≤ s.getD 1 0 ∧ s.getD 1 0 ≤ 32768) ∧ (-32768 ≤ s.getD 2 0 ∧ s.getD 2 0 ≤ 32768) ∧ (-32768 ≤ s.getD 3 0 ∧ s.getD 3 0 ≤ 32768) ∧ (-32768 ≤ s.getD 4 0 ∧ s.getD 4 0 ≤ 32768) := part_of_chk h

theorem num_in {p q r : Int} {s : List Int} (h : chkRow s = 0) (ht : turnE p q r = 0) : 0 ≤ numS p q r s ∧ numS p q r s < 4611686018427387904 := by
  obtain ⟨h0, h1, h2, h3, h4⟩ := row_in h
  exact sq_in h0 h1 h2 ht
theorem den_in {p q r : Int} {s : List Int} (h : chkRow s = 0) (ht : turnE p q r = 0) : 0 ≤ denS p q r s ∧ denS p q r s < 4611686018427387904 := by
  obtain ⟨h0, h1, h2, h3, h4⟩ := row_in h
  exact sq_in (by decide) h3 h4 ht

theorem gr_inv {p q r : Int} {s : List Int} (h : chkRow s = 0) (ht : turnE p q r = 0) {x y : Int × Int} (hx : grInv x) (e : grStep p q r s x = .inl y) : grInv y := by
  unfold grStep at e
  split at e
  · cases e
  · rename_i hd
    split at e
    · cases e
    · split at e
      · cases e
      · rename_i c1 c2
        cases e
        obtain ⟨a1, a2⟩ := num_in (p := p) (q := q) (r := r) h ht
        obtain ⟨b1, b2⟩ := den_in (p := p) (q := q) (r := r) h ht
        have q0 := ptQ_nonneg (n := numS p q r s) (d := denS p q r s) a1 (by omega)
        have qh := ptH_ge (numS p q r s) (denS p q r s)
        unfold grInv at *
        obtain ⟨x0, x1, x2⟩ := hx
        dsimp only
        have k1 : 0 ≤ x.1 * ptQ (numS p q r s) (denS p q r s) := Int.mul_nonneg x0 q0
        have k2 : x.1 * ptQ (numS p q r s) (denS p q r s) ≤ x.2 * ptH (numS p q r s) (denS p q r s) := Int.mul_le_mul x1 qh q0 (by omega)
        unfold upS at *
        omega

theorem rangeF_step {c : List (List Int)} {p q r : Int} (hc : chkE c = 0) (ht : turnE p q r = 0) (i : Nat) (x : Int × Int) (hi : i < c.length) (hx : grInv x) :
    F_GainRange_b0 c p q r ((i : Int), x) = some (stepOut (i : Int) (grStep p q r (c.getD i []) x)) := by
  obtain ⟨hl, hall⟩ := bounds_chk hc
  have hrow : chkRow (c.getD i []) = 0 := hall _ (by simp [List.getD, hi])
  obtain ⟨t1, t2, t3, t4⟩ := turn_in ht
  unfold F_GainRange_b0
  dsimp only
  rw [if_pos (by omega), if_pos (by omega), if_pos (by omega), Int.toNat_natCast, if_pos ⟨secB_chk hrow, by omega, by omega, by omega, by omega⟩]
  obtain ⟨a1, a2⟩ := num_in (p := p) (q := q) (r := r) hrow ht
  obtain ⟨b1, b2⟩ := den_in (p := p) (q := q) (r := r) hrow ht
  unfold grStep
  rw [show sqS 16384 ((c.getD i []).getD 3 0) ((c.getD i []).getD 4 0) p q r = denS p q r (c.getD i []) from rfl, show sqS ((c.getD i []).getD 0 0) ((c.getD i []).getD 1 0) ((c.getD i []).getD 2 0) p q r = numS p q r (c.getD i []) from rfl]
  generalize numS p q r (c.getD i []) = n at *
  generalize denS p q r (c.getD i []) = d at *
  by_cases h0 : d = 0
  · rw [if_pos (by simpa using h0), if_pos h0]
    rfl
  · rw [if_neg (by simpa using h0), if_neg h0, partsF_eq a1 a2 (by omega) b2, bind_some']
    have q0 := ptQ_nonneg (n := n) (d := d) a1 (by omega)
    have qh := ptH_ge n d
    by_cases c1 : ptH n d > 1073741824
    · rw [if_pos c1]
      by_cases c2 : ptQ n d > 1073741824
      · rw [if_pos c2, if_pos (by rfl)]
        rfl
      · rw [if_neg c2, if_pos (by simpa using c1)]
        rfl
    · rw [if_neg c1, if_neg (show ¬ ptQ n d > 1073741824 by omega), if_neg (by simpa using c1)]
      obtain ⟨x0, x1, x2⟩ := hx
      generalize ptH n d = h at *
      generalize ptQ n d = l at *
      have k0 : 0 ≤ x.2 * h := Int.mul_nonneg (by omega) (by omega)
      have k1 := Int.mul_le_mul (show x.2 ≤ 1073741824 by omega) (show h ≤ 1073741824 by omega) (by omega) (by decide)
      have k2 : 0 ≤ x.1 * l := Int.mul_nonneg (by omega) (by omega)
      have k3 := Int.mul_le_mul (show x.1 ≤ 1073741824 by omega) (show l ≤ 1073741824 by omega) (by omega) (by decide)
      dsimp only
      rw [wr64 (x := x.2 * h) (by omega), wr64 (x := x.2 * h + 1048576) (by omega), wr64 (x := x.2 * h + 1048576 - 1) (by omega), Int.tdiv_eq_ediv_of_nonneg (by omega), wr64 (x := x.1 * l) (by omega), Int.tdiv_eq_ediv_of_nonneg k2, wr64 (x := (i : Int) + 1) (by omega),
        wr64 (x := (x.2 * h + 1048576 - 1) / 1048576) (by omega), wr64 (x := x.1 * l / 1048576) (by omega), show x.2 * h + 1048576 - 1 = x.2 * h + 1048575 by omega]
      unfold upS
      by_cases c3 : (x.2 * h + 1048575) / 1048576 > 1073741824
      · rw [if_pos c3, if_pos c3]
        rfl
      · rw [if_neg c3, if_neg c3]
        rfl

theorem ceilR_eq {n : Int} (hn : 0 ≤ n) (hn' : n ≤ 4611686018427387904) : B_Ceil n 1048576 = some ((n + 1048575) / 1048576) := by
  unfold B_Ceil
  rw [wr64 (x := 0 - n) (by omega), floor_eq (by decide) (by omega), bind_some', wr64 (by omega)]
  congr 1
  omega

theorem rangeR_step {c : List (List Int)} {p q r : Int} (hc : chkE c = 0) (ht : turnE p q r = 0) (i : Nat) (x : Int × Int) (hi : i < c.length) (hx : grInv x) :
    R06_GainRange_b0 c p q r ((i : Int), x) = some (stepOut (i : Int) (grStep p q r (c.getD i []) x)) := by
  obtain ⟨hl, hall⟩ := bounds_chk hc
  have hrow : chkRow (c.getD i []) = 0 := hall _ (by simp [List.getD, hi])
  obtain ⟨g0, g1, g2, g3, g4⟩ := row_in hrow
  obtain ⟨a1, a2⟩ := num_in (p := p) (q := q) (r := r) hrow ht
  obtain ⟨b1, b2⟩ := den_in (p := p) (q := q) (r := r) hrow ht
  have hd := squareR_eq (a := 16384) (by decide) g3 g4 ht
  have hn := squareR_eq g0 g1 g2 ht
  have hg : R06_Gain ((c.getD i []).getD 0 0) ((c.getD i []).getD 1 0) ((c.getD i []).getD 2 0) ((c.getD i []).getD 3 0) ((c.getD i []).getD 4 0) p q r = some (numS p q r (c.getD i []), denS p q r (c.getD i [])) := by
    unfold R06_Gain
    rw [hn, hd]
    rfl
  unfold R06_square at hd hn
  have hd := Option.some.inj hd
  have hn := Option.some.inj hn
  unfold R06_GainRange_b0
  dsimp only
  rw [if_pos (by omega), if_pos (by omega), if_pos (by omega), Int.toNat_natCast, hg, bind_some', hd, hn]
  clear hd hn hg
  unfold grStep
  rw [show sqS 16384 ((c.getD i []).getD 3 0) ((c.getD i []).getD 4 0) p q r = denS p q r (c.getD i []) from rfl, show sqS ((c.getD i []).getD 0 0) ((c.getD i []).getD 1 0) ((c.getD i []).getD 2 0) p q r = numS p q r (c.getD i []) from rfl]
  generalize numS p q r (c.getD i []) = n at *
  generalize denS p q r (c.getD i []) = d at *
  by_cases h0 : d = 0
  · rw [if_pos (by simpa using h0), if_pos h0]
    rfl
  · rw [if_neg (by simpa using h0), if_neg h0, partsR_eq a1 a2 (by omega) b2, bind_some']
    have q0 := ptQ_nonneg (n := n) (d := d) a1 (by omega)
    have qh := ptH_ge n d
    by_cases c0 : n / d > 1073741824
    · have := pt_big (show 0 < d by omega) c0
      rw [if_pos c0, if_pos c0, if_pos (by omega)]
      rfl
    rw [if_neg c0]
    by_cases c1 : ptH n d > 1073741824
    · rw [if_pos c1, if_pos c1]
      rfl
    · rw [if_neg c1, if_neg c1]
      obtain ⟨x0, x1, x2⟩ := hx
      generalize ptH n d = h at *
      generalize ptQ n d = l at *
      have k0 : 0 ≤ x.2 * h := Int.mul_nonneg (by omega) (by omega)
      have k1 := Int.mul_le_mul (show x.2 ≤ 1073741824 by omega) (show h ≤ 1073741824 by omega) (by omega) (by decide)
      have k2 : 0 ≤ x.1 * l := Int.mul_nonneg (by omega) (by omega)
      have k3 := Int.mul_le_mul (show x.1 ≤ 1073741824 by omega) (show l ≤ 1073741824 by omega) (by omega) (by decide)
      dsimp only
      rw [wr64 (x := x.2 * h) (by omega), wr64 (x := x.1 * l) (by omega), floor_eq (by decide) (by omega), bind_some', ceilR_eq k0 (by omega), bind_some', wr64 (x := (i : Int) + 1) (by omega)]
      unfold upS
      by_cases c3 : (x.2 * h + 1048575) / 1048576 > 1073741824
      · rw [if_pos c3, if_pos c3]
        rfl
      · rw [if_neg c3, if_neg c3]
        rfl

def outG : Int ⊕ (Int × Int) → Int × Int × Int
  | .inl e => (0, 0, e)
  | .inr x => (x.1, x.2, 0)
/-- The enclosure of the gain of a cascade. -/
def grS (c : List (List Int)) (p q r : Int) : Int × Int × Int := outG (foldE (grStep p q r) .inr c (1048576, 1048576))

theorem rangeR_eq {c : List (List Int)} {p q r : Int} (hc : chkE c = 0) (ht : turnE p q r = 0) : R06_GainRange c p q r = some (grS c p q r) := by
  obtain ⟨hl, hall⟩ := bounds_chk hc
  unfold R06_GainRange
  rw [iter_list c [] (grStep p q r) .inr grInv (by omega) (fun i s hi hs => rangeR_step hc ht i s hi hs) (fun x hx s s' hs e => gr_inv (hall x hx) ht hs e) (fun s _ => by unfold R06_GainRange_b0; rw [if_neg (by dsimp only; omega)]) (1048576, 1048576) ⟨by decide, by decide, by decide⟩, bind_some']
  unfold grS
  cases foldE (grStep p q r) .inr c (1048576, 1048576) <;> rfl
theorem rangeF_eq {c : List (List Int)} {p q r : Int} (hl : c.length ≤ 1000000000) : F_GainRange c p q r = some (if chkE c ≠ 0 then (0, 0, chkE c) else if turnE p q r ≠ 0 then (0, 0, turnE p q r) else grS c p q r) := by
  unfold F_GainRange
  rw [if_pos hl, if_pos (by simp)]
  by_cases hc : chkE c = 0
  · by_cases ht : turnE p q r = 0
    · obtain ⟨hl6, hall⟩ := bounds_chk hc
      rw [hc, ht, if_neg (by decide), if_neg (by decide), if_neg (by decide)]
      rw [iter_list c [] (grStep p q r) .inr grInv (by omega) (fun i s hi hs => rangeF_step hc ht i s hi hs) (fun x hx s s' hs e => gr_inv (hall x hx) ht hs e) (fun s _ => by unfold F_GainRange_b0; rw [if_neg (by dsimp only; omega)]) (1048576, 1048576) ⟨by decide, by decide, by decide⟩, bind_some']
      unfold grS
      cases foldE (grStep p q r) .inr c (1048576, 1048576) <;> rfl
    · have e : (Option.getD (List.find? (fun x => x != (0 : Int)) [chkE c, turnE p q r]) (0 : Int)) = turnE p q r := by
        have h1 : (turnE p q r != 0) = true := by simpa using ht
        rw [hc]
        simp [List.find?, h1]
      rw [e, if_pos (by simpa using ht), if_neg (show ¬ chkE c ≠ 0 from fun h => h hc), if_pos ht]
  · have e : (Option.getD (List.find? (fun x => x != (0 : Int)) [chkE c, turnE p q r]) (0 : Int)) = chkE c := by
      have h1 : (chkE c != 0) = true := by simpa using hc
      simp [List.find?, h1]
    rw [e, if_pos (by simpa using hc), if_pos hc]
end Go.Sh
