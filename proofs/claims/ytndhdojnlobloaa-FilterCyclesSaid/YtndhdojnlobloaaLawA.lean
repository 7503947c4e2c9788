/- Floats of whole numbers: what is read, compared and rounded. -/
import Derived.Test.YtndhdojnlobloaaPl
import Derived.Test.YtndhdojnlobloaaFl
import Derived.Test.YtndhdojnlobloaaMirB
set_option linter.unusedSectionVars false
set_option linter.unusedSimpArgs false
set_option linter.unusedVariables false
namespace Go.Sx
open Ieee Go.Fl

end Go.Sx

namespace Go.Sh
open Go Go.Proofs Go.RowKit Go.Sx Go.Sx06

theorem checkSection_eq (b0 b1 b2 a0 a1 : Int) : R06_CheckSection b0 b1 b2 a0 a1 = some (chkS b0 b1 b2 a0 a1) := by
  have h := iter_first [b0, b1, b2, a0, a1] 0 (fun n => !partB n) (body := R06_CheckSection_b0 b0 b1 b2 a0 a1) (fun _ => .inl ()) (.inr ()) (by simp)
    (fun i hi hp => by
      unfold R06_CheckSection_b0
      rw [if_pos (by omega), if_pos (by omega), if_pos (by omega), if_pos (by simpa [partB] using hp)])
    (fun i hi hp => by
      unfold R06_CheckSection_b0
      rw [if_pos (by omega), if_pos (by omega), if_pos (by omega), if_neg (by simpa [partB] using hp), wr64 (by simp at hi; omega)])
    (by unfold R06_CheckSection_b0; rw [if_neg (by omega)])
  unfold R06_CheckSection
  rw [h]
  unfold chkS
  cases hf : [b0, b1, b2, a0, a1].findIdx? (fun n => !partB n) with
  | none =>
    rw [List.findIdx?_eq_none_iff] at hf
    rw [if_pos (List.all_eq_true.2 fun x hx => by simpa using hf x hx)]
    rfl
  | some k =>
    rw [List.findIdx?_eq_some_iff_getElem] at hf
    obtain ⟨hk, hp, _⟩ := hf
    rw [if_neg (fun hc => by have := List.all_eq_true.1 hc _ (List.getElem_mem hk); rw [this] at hp; cases hp)]
    rfl

theorem floor_eq {n b : Int} (hb : 0 < b) (hn : -9223372036854775807 ≤ n ∧ n ≤ 9223372036854775807) : B_Floor n b = some (n / b) := by
  have h1 := tdiv_bounds (n := n) hb
  have h2 := ediv_bounds (n := n) hb
  unfold B_Floor
  rw [if_pos (by omega), if_pos (by omega), wr64 (x := n.tdiv b) (by omega)]
  split
  · rename_i h
    rw [floor_neg hb h, wr64 (by omega)]
  · rename_i h
    rw [floor_pos hb h]

theorem part_of_chk {b0 b1 b2 a0 a1 : Int} (h : chkS b0 b1 b2 a0 a1 = 0) : (-32768 ≤ b0 ∧ b0 ≤ 32768) ∧ (-32768 ≤ b1 ∧ b1 ≤ 32768) ∧ (-32768 ≤ b2 ∧ b2 ≤ 32768) ∧ (-32768 ≤ a0 ∧ a0 ≤ 32768) ∧ (-32768 ≤ a1 ∧ a1 ≤ 32768) := by
  unfold chkS at h
  split at h
  · rename_i hc
    simpa [partB] using hc
  · omega

end Go.Sh

namespace Go.Sh
open Go Go.Proofs Go.RowKit Go.Sx Ieee Go.Fl

end Go.Sh

namespace Go.Sh
open Go Go.Proofs Go.RowKit Go.Sx Ieee Go.Fl

end Go.Sh

namespace Go.Sh
open Go Go.Proofs Go.RowKit Go.Sx Go.Sx06 Ieee Go.Fl

end Go.Sh

namespace Go.Sh
open Go Go.Proofs Go.RowKit Go.Sx Go.Sx06

def inR (x : Int) : Prop := -32767 ≤ x ∧ x ≤ 32767

/-! ### one output, by the reference -/

theorem out_eq {u : List Int} {x : Int} (hu : okU u) (hx : inR x) :
    R06_Out (u.getD 0 0) (u.getD 1 0) (u.getD 2 0) (u.getD 3 0) (u.getD 4 0) (u.getD 5 0) (u.getD 6 0) (u.getD 7 0) (u.getD 8 0) x =
      some (outU u x, !(decide (outU u x = rawU u x)), x, u.getD 5 0, outU u x, u.getD 7 0) := by
  obtain ⟨_, hs, ht, _, _⟩ := hu
  have h0 := mulB (by omega) (by omega) (hs 0 (by omega)) hx
  have h1 := mulB (by omega) (by omega) (hs 1 (by omega)) (ht 5 (by omega) (by omega))
  have h2 := mulB (by omega) (by omega) (hs 2 (by omega)) (ht 6 (by omega) (by omega))
  have h3 := mulB (by omega) (by omega) (hs 3 (by omega)) (ht 7 (by omega) (by omega))
  have h4 := mulB (by omega) (by omega) (hs 4 (by omega)) (ht 8 (by omega) (by omega))
  unfold R06_Out
  have hraw : rawU u x = (2 * (u.getD 0 0 * x + u.getD 1 0 * u.getD 5 0 + u.getD 2 0 * u.getD 6 0 - u.getD 3 0 * u.getD 7 0 - u.getD 4 0 * u.getD 8 0) + 16384) / 32768 := rfl
  have hout : outU u x = max (-32767) (min 32767 (rawU u x)) := rfl
  generalize u.getD 0 0 * x = p0 at *
  generalize u.getD 1 0 * u.getD 5 0 = p1 at *
  generalize u.getD 2 0 * u.getD 6 0 = p2 at *
  generalize u.getD 3 0 * u.getD 7 0 = p3 at *
  generalize u.getD 4 0 * u.getD 8 0 = p4 at *
  rw [wr64 (x := p0) (by omega), wr64 (x := p1) (by omega), wr64 (x := p2) (by omega), wr64 (x := p3) (by omega), wr64 (x := p4) (by omega), wr64 (x := p0 + p1) (by omega), wr64 (x := p0 + p1 + p2) (by omega),
    wr64 (x := p0 + p1 + p2 - p3) (by omega), wr64 (x := p0 + p1 + p2 - p3 - p4) (by omega), wr64 (x := 2 * (p0 + p1 + p2 - p3 - p4)) (by omega), wr64 (x := 2 * (p0 + p1 + p2 - p3 - p4) + 16384) (by omega),
    floor_eq (by omega) (by omega), bind_some', ← hraw]
  unfold R06_isSample
  rw [bind_some']
  generalize rawU u x = r at *
  have e1 : (if (if r < (32767 : Int) then r else (32767 : Int)) > (-32767 : Int) then if r < (32767 : Int) then r else (32767 : Int) else (-32767 : Int)) = outU u x := by
    rw [hout]
    split <;> split at * <;> omega
  rw [e1]
  have e2 : (decide ((-32767 : Int) ≤ r) && decide (r ≤ (32767 : Int))) = decide (outU u x = r) := by
    rw [Bool.eq_iff_iff, Bool.and_eq_true, decide_eq_true_eq, decide_eq_true_eq, decide_eq_true_eq, hout]
    omega
  rw [e2]

end Go.Sh

namespace Go.Sh
open Go Go.Proofs Go.RowKit Go.Sx Go.Sx06

/-! ### a map of all that came -/

def histM (Y : Nat → Int × Int) (k : Nat) : List ((Int × Int) × Int) := (List.range k).map fun i => (Y i, (i : Int))

theorem mapGet_miss {a b : Int} : ∀ {l : List ((Int × Int) × Int)}, (∀ e ∈ l, e.1 ≠ (a, b)) → mapGet l a b = none ∧ ∀ v, mapPut l a b v = l ++ [((a, b), v)]
  | [], _ => ⟨rfl, fun _ => rfl⟩
  | e :: l, h => by
    have h0 := h e List.mem_cons_self
    have ih := mapGet_miss (l := l) (fun x hx => h x (List.mem_cons_of_mem _ hx))
    have hb : (e.1.1 == a && e.1.2 == b) = false := by
      rw [Bool.eq_false_iff]
      intro hc
      simp only [Bool.and_eq_true, beq_iff_eq] at hc
      exact h0 (Prod.ext hc.1 hc.2)
    exact ⟨by simp only [mapGet, hb, ih.1], fun v => by simp only [mapPut, hb, ih.2 v, List.cons_append]⟩

theorem mapGet_hit {a b v : Int} {r : List ((Int × Int) × Int)} : ∀ {l : List ((Int × Int) × Int)}, (∀ e ∈ l, e.1 ≠ (a, b)) → mapGet (l ++ ((a, b), v) :: r) a b = some v
  | [], _ => by simp [mapGet]
  | e :: l, h => by
    have h0 := h e List.mem_cons_self
    have hb : (e.1.1 == a && e.1.2 == b) = false := by
      rw [Bool.eq_false_iff]
      intro hc
      simp only [Bool.and_eq_true, beq_iff_eq] at hc
      exact h0 (Prod.ext hc.1 hc.2)
    simp only [List.cons_append, mapGet, hb]
    exact mapGet_hit (fun x hx => h x (List.mem_cons_of_mem _ hx))

theorem hist_miss {Y : Nat → Int × Int} {k : Nat} {p : Int × Int} (h : ∀ i, i < k → Y i ≠ p) : mapGet (histM Y k) p.1 p.2 = none ∧ ∀ v, mapPut (histM Y k) p.1 p.2 v = histM Y k ++ [(p, v)] := by
  refine mapGet_miss fun e he => ?_
  obtain ⟨i, hi, rfl⟩ := List.mem_map.1 he
  exact h i (List.mem_range.1 hi)
theorem hist_succ (Y : Nat → Int × Int) (k : Nat) : histM Y (k + 1) = histM Y k ++ [(Y k, (k : Int))] := by
  simp [histM, List.range_succ]
theorem hist_hit {Y : Nat → Int × Int} {k i : Nat} {p : Int × Int} (hi : i < k) (hp : Y i = p) (h : ∀ j, j < i → Y j ≠ p) : mapGet (histM Y k) p.1 p.2 = some (i : Int) := by
  have e : histM Y k = histM Y i ++ ((p.1, p.2), (i : Int)) :: ((List.range (k - (i + 1))).map fun j => (Y (i + 1 + j), ((i + 1 + j : Nat) : Int))) := by
    have h1 : List.range k = List.range i ++ i :: (List.range (k - (i + 1))).map (fun j => i + 1 + j) := by
      have h2 : k = (i + 1) + (k - (i + 1)) := by omega
      have h3 := List.range_add (n := i + 1) (m := k - (i + 1))
      rw [← h2] at h3
      rw [h3, List.range_succ]
      simp
    simp [histM, h1, hp]
  rw [e]
  refine mapGet_hit fun x hx => ?_
  obtain ⟨j, hj, rfl⟩ := List.mem_map.1 hx
  exact h j (List.mem_range.1 hj)

/-- Either something comes again, or all differ. -/
theorem again (Y : Nat → Int × Int) : ∀ N : Nat, (∃ n i, n ≤ N ∧ i < n ∧ Y i = Y n ∧ ∀ p q, p < q → q < n → Y p ≠ Y q) ∨ (∀ p q, p < q → q ≤ N → Y p ≠ Y q)
  | 0 => .inr fun p q h1 h2 => by omega
  | N + 1 => by
    rcases again Y N with ⟨n, i, h1, h2, h3, h4⟩ | h
    · exact .inl ⟨n, i, by omega, h2, h3, h4⟩
    · by_cases hx : ∃ i, i < N + 1 ∧ Y i = Y (N + 1)
      · obtain ⟨i, hi, he⟩ := hx
        exact .inl ⟨N + 1, i, Nat.le_refl _, hi, he, fun p q h1 h2 => h p q h1 (by omega)⟩
      · refine .inr fun p q h1 h2 he => ?_
        by_cases hq : q = N + 1
        · subst hq; exact hx ⟨p, h1, he⟩
        · exact h p q h1 (by omega) he

/-! ### a section without an input -/

/-- A section at work that has seen no input. -/
def secU (b0 b1 b2 a0 a1 : Int) (p : Int × Int) : List Int := [b0, b1, b2, a0, a1, 0, 0, p.1, p.2, 0]
def nextY (b0 b1 b2 a0 a1 : Int) (p : Int × Int) : Int × Int := (outU (secU b0 b1 b2 a0 a1 p) 0, p.1)
def yAt (f : Int × Int → Int × Int) (y : Int × Int) : Nat → Int × Int
  | 0 => y
  | k + 1 => f (yAt f y k)

def inP (p : Int × Int) : Prop := inR p.1 ∧ inR p.2

section
variable {b0 b1 b2 a0 a1 : Int} (hs : chkS b0 b1 b2 a0 a1 = 0)
include hs

theorem secU_ok {p : Int × Int} (hp : inP p) : okU (secU b0 b1 b2 a0 a1 p) := by
  obtain ⟨⟨h1, h2⟩, ⟨h3, h4⟩, ⟨h5, h6⟩, ⟨h7, h8⟩, ⟨h9, h10⟩⟩ := part_of_chk hs
  obtain ⟨⟨p1, p2⟩, ⟨p3, p4⟩⟩ := hp
  refine ⟨rfl, fun j hj => ?_, fun j h5' h9' => ?_, (show (0 : Int) ≤ 0 by decide), (show (0 : Int) ≤ 1000000000 by decide)⟩
  · match j, hj with
    | 0, _ => exact ⟨h1, h2⟩
    | 1, _ => exact ⟨h3, h4⟩
    | 2, _ => exact ⟨h5, h6⟩
    | 3, _ => exact ⟨h7, h8⟩
    | 4, _ => exact ⟨h9, h10⟩
  · match j, h5', h9' with
    | 5, _, _ => exact ⟨(show (-32767 : Int) ≤ 0 by decide), (show (0 : Int) ≤ 32767 by decide)⟩
    | 6, _, _ => exact ⟨(show (-32767 : Int) ≤ 0 by decide), (show (0 : Int) ≤ 32767 by decide)⟩
    | 7, _, _ => exact ⟨p1, p2⟩
    | 8, _, _ => exact ⟨p3, p4⟩

theorem nextY_in {p : Int × Int} (hp : inP p) : inP (nextY b0 b1 b2 a0 a1 p) := by
  refine ⟨?_, hp.1⟩
  show -32767 ≤ outU _ 0 ∧ outU _ 0 ≤ 32767
  unfold outU
  omega
theorem yAt_in {p : Int × Int} (hp : inP p) : ∀ k, inP (yAt (nextY b0 b1 b2 a0 a1) p k)
  | 0 => hp
  | k + 1 => nextY_in hs (yAt_in hp k)

/-- What the program's section computes. -/
theorem oB_eq {p : Int × Int} (hp : inP p) : (-4611686018427387904 : Int) < 2 * nB b0 b1 b2 a0 a1 0 0 p.1 p.2 0 + 16384 ∧ 2 * nB b0 b1 b2 a0 a1 0 0 p.1 p.2 0 + 16384 < (4611686018427387904 : Int) ∧ oB b0 b1 b2 a0 a1 0 0 p.1 p.2 0 = outU (secU b0 b1 b2 a0 a1 p) 0 := by
  obtain ⟨⟨h1, h2⟩, ⟨h3, h4⟩, ⟨h5, h6⟩, h7, h9⟩ := part_of_chk hs
  obtain ⟨p1, p2⟩ := hp
  have m1 := mulB (by decide) (by decide) h7 p1
  have m2 := mulB (by decide) (by decide) h9 p2
  have hn : nB b0 b1 b2 a0 a1 0 0 p.1 p.2 0 = 0 - a0 * p.1 - a1 * p.2 := by
    unfold nB
    generalize a0 * p.1 = x at *
    generalize a1 * p.2 = y at *
    rw [Int.mul_zero, Int.mul_zero, Int.mul_zero, wr64 (x := 0) (by omega), wr64 (x := x) (by omega), wr64 (x := y) (by omega), wr64 (x := 0 + 0) (by omega), wr64 (x := 0 + 0 + 0) (by omega), wr64 (x := 0 + 0 + 0 - x) (by omega), wr64 (x := 0 + 0 + 0 - x - y) (by omega)]
    omega
  have hr : rawU (secU b0 b1 b2 a0 a1 p) 0 = (2 * (0 - a0 * p.1 - a1 * p.2) + 16384) / 32768 := by
    show (2 * (b0 * 0 + b1 * 0 + b2 * 0 - a0 * p.1 - a1 * p.2) + 16384) / 32768 = _
    rw [Int.mul_zero, Int.mul_zero, Int.mul_zero]
    rfl
  have hy : yB b0 b1 b2 a0 a1 0 0 p.1 p.2 0 = rawU (secU b0 b1 b2 a0 a1 p) 0 := by
    unfold yB
    rw [hn, hr]
    rfl
  rw [hn]
  generalize a0 * p.1 = x at *
  generalize a1 * p.2 = y at *
  refine ⟨by omega, by omega, ?_⟩
  unfold oB
  rw [hy]
  unfold outU
  split <;> split at * <;> omega
end

/-- How many were cut so far. -/
def cAt (b0 b1 b2 a0 a1 : Int) (Y : Nat → Int × Int) : Nat → Int
  | 0 => 0
  | k + 1 => cB b0 b1 b2 a0 a1 0 0 (Y k).1 (Y k).2 (cAt b0 b1 b2 a0 a1 Y k) 0

section
variable {b0 b1 b2 a0 a1 : Int} (hs : chkS b0 b1 b2 a0 a1 = 0) {y : Int × Int} (hy : inP y)
include hs hy

def stC (b0 b1 b2 a0 a1 : Int) (y : Int × Int) (k : Nat) : Int × Int × Int × Int × List ((Int × Int) × Int) :=
  let Y := yAt (nextY b0 b1 b2 a0 a1) y
  ((k : Int), (Y k).1, (Y k).2, cAt b0 b1 b2 a0 a1 Y k, histM Y k)

theorem cyc_step {k : Nat} (hk : k ≤ 1000) (hd : ∀ i, i < k → yAt (nextY b0 b1 b2 a0 a1) y i ≠ yAt (nextY b0 b1 b2 a0 a1) y k) :
    F_CycleOf_b0 b0 b1 b2 a0 a1 (stC b0 b1 b2 a0 a1 y k) = some (.inl (stC b0 b1 b2 a0 a1 y (k + 1))) := by
  have hm := hist_miss hd
  have ho := oB_eq hs (yAt_in hs hy k)
  unfold F_CycleOf_b0
  have e1 : (stC b0 b1 b2 a0 a1 y k).1 = (k : Int) := rfl
  have e2 : (stC b0 b1 b2 a0 a1 y k).2.1 = (yAt (nextY b0 b1 b2 a0 a1) y k).1 := rfl
  have e3 : (stC b0 b1 b2 a0 a1 y k).2.2.1 = (yAt (nextY b0 b1 b2 a0 a1) y k).2 := rfl
  have e4 : (stC b0 b1 b2 a0 a1 y k).2.2.2.2 = histM (yAt (nextY b0 b1 b2 a0 a1) y) k := rfl
  have e5 : (stC b0 b1 b2 a0 a1 y k).2.2.2.1 = cAt b0 b1 b2 a0 a1 (yAt (nextY b0 b1 b2 a0 a1) y) k := rfl
  rw [e1, e2, e3, e4, e5, if_pos (by omega), hm.1, if_neg (by simp), if_pos ⟨ho.1, ho.2.1⟩, ho.2.2, hm.2, wr64 (by omega)]
  have e : (k : Int) + 1 = ((k + 1 : Nat) : Int) := by omega
  rw [e]
  unfold stC
  dsimp only
  rw [hist_succ]
  rfl

theorem cyc_hit {n i : Nat} (hn : n ≤ 1000) (hi : i < n) (he : yAt (nextY b0 b1 b2 a0 a1) y i = yAt (nextY b0 b1 b2 a0 a1) y n) (hd : ∀ p q, p < q → q < n → yAt (nextY b0 b1 b2 a0 a1) y p ≠ yAt (nextY b0 b1 b2 a0 a1) y q) :
    iter (F_CycleOf_b0 b0 b1 b2 a0 a1) big ((0 : Int), y.1, y.2, (0 : Int), []) = some (.inl ((i : Int), (n : Int) - (i : Int))) := by
  refine iter_upto (stC b0 b1 b2 a0 a1 y) (k := n) (fun j hj => cyc_step hs hy (by omega) fun p hp => hd p j hp hj) ?_ (by omega)
  have hh := hist_hit (Y := yAt (nextY b0 b1 b2 a0 a1) y) hi he (fun j hj h => hd j i hj hi (h.trans he.symm))
  unfold F_CycleOf_b0
  have e1 : (stC b0 b1 b2 a0 a1 y n).1 = (n : Int) := rfl
  have e2 : (stC b0 b1 b2 a0 a1 y n).2.1 = (yAt (nextY b0 b1 b2 a0 a1) y n).1 := rfl
  have e3 : (stC b0 b1 b2 a0 a1 y n).2.2.1 = (yAt (nextY b0 b1 b2 a0 a1) y n).2 := rfl
  have e4 : (stC b0 b1 b2 a0 a1 y n).2.2.2.2 = histM (yAt (nextY b0 b1 b2 a0 a1) y) n := rfl
  rw [e1, e2, e3, e4, if_pos (by omega), hh, if_pos (show (some (i : Int)).isSome = true from rfl), Option.getD_some, wr64 (by omega)]

theorem cyc_miss (hd : ∀ p q, p < q → q ≤ 1000 → yAt (nextY b0 b1 b2 a0 a1) y p ≠ yAt (nextY b0 b1 b2 a0 a1) y q) :
    iter (F_CycleOf_b0 b0 b1 b2 a0 a1) big ((0 : Int), y.1, y.2, (0 : Int), []) = some (.inr ()) := by
  refine iter_upto (stC b0 b1 b2 a0 a1 y) (k := 1001) (fun j hj => cyc_step hs hy (by omega) fun p hp => hd p j hp (by omega)) ?_ (by omega)
  unfold F_CycleOf_b0
  have e1 : (stC b0 b1 b2 a0 a1 y 1001).1 = ((1001 : Nat) : Int) := rfl
  rw [e1, if_neg (by omega)]
end
end Go.Sh

namespace Go.Sh
open Go Go.Proofs Go.RowKit Go.Sx Go.Sx06

/-! ### the whole, by the program -/

/-- The error ahead of a cycle. -/
def cyE (b0 b1 b2 a0 a1 : Int) (y : Int × Int) : Int :=
  if chkS b0 b1 b2 a0 a1 ≠ 0 then chkS b0 b1 b2 a0 a1 else if (-32767 ≤ y.1 ∧ y.1 ≤ 32767) ∧ (-32767 ≤ y.2 ∧ y.2 ≤ 32767) then 0 else 2

theorem find_two (a b : Int) : Option.getD (List.find? (fun x => x != (0 : Int)) [a, b]) (0 : Int) = if a ≠ 0 then a else b := by
  by_cases ha : a = 0
  · subst ha
    by_cases hb : b = 0
    · subst hb; rfl
    · simp [hb]
  · simp [ha]

theorem cycleOf_eq (b0 b1 b2 a0 a1 : Int) (y : Int × Int) :
    F_CycleOf b0 b1 b2 a0 a1 y.1 y.2 = if cyE b0 b1 b2 a0 a1 y ≠ 0 then some (0, 0, cyE b0 b1 b2 a0 a1 y) else Option.bind (iter (F_CycleOf_b0 b0 b1 b2 a0 a1) big ((0 : Int), y.1, y.2, (0 : Int), [])) F_CycleOf_r0 := by
  unfold F_CycleOf
  by_cases h1 : -32767 ≤ y.1 ∧ y.1 ≤ 32767
  · have e1 : (decide ((-32767 : Int) ≤ y.1) && decide (y.1 ≤ (32767 : Int))) = true := by simpa using h1
    rw [if_pos e1, if_pos (by simp), find_two]
    by_cases h2 : -32767 ≤ y.2 ∧ y.2 ≤ 32767
    · have e2 : (decide ((-32767 : Int) ≤ y.2) && decide (y.2 ≤ (32767 : Int))) = true := by simpa using h2
      rw [if_pos e2]
      have e3 : (if chkS b0 b1 b2 a0 a1 ≠ 0 then chkS b0 b1 b2 a0 a1 else 0) = cyE b0 b1 b2 a0 a1 y := by unfold cyE; rw [if_pos (show _ ∧ _ from ⟨h1, h2⟩)]
      rw [e3]
      by_cases h : cyE b0 b1 b2 a0 a1 y = 0
      · rw [if_neg (by simp [h]), if_neg (by simp [h])]
      · rw [if_pos (by simpa using h), if_pos h]
    · have e2 : ¬ (decide ((-32767 : Int) ≤ y.2) && decide (y.2 ≤ (32767 : Int))) = true := by simpa using h2
      rw [if_neg e2]
      have e3 : (if chkS b0 b1 b2 a0 a1 ≠ 0 then chkS b0 b1 b2 a0 a1 else 2) = cyE b0 b1 b2 a0 a1 y := by unfold cyE; rw [if_neg (show ¬ ((-32767 ≤ y.1 ∧ y.1 ≤ 32767) ∧ (-32767 ≤ y.2 ∧ y.2 ≤ 32767)) from fun h => h2 h.2)]
      have e4 : cyE b0 b1 b2 a0 a1 y ≠ 0 := by rw [← e3]; split <;> omega
      rw [e3, if_pos (by simpa using e4), if_pos e4]
  · have e1 : ¬ (decide ((-32767 : Int) ≤ y.1) && decide (y.1 ≤ (32767 : Int))) = true := by simpa using h1
    rw [if_neg e1, if_pos (by simp), find_two, if_neg (show ¬ (false = true) by decide)]
    have e3 : (if chkS b0 b1 b2 a0 a1 ≠ 0 then chkS b0 b1 b2 a0 a1 else 2) = cyE b0 b1 b2 a0 a1 y := by unfold cyE; rw [if_neg (show ¬ ((-32767 ≤ y.1 ∧ y.1 ≤ 32767) ∧ (-32767 ≤ y.2 ∧ y.2 ≤ 32767)) from fun h => h1 h.1)]
    have e4 : cyE b0 b1 b2 a0 a1 y ≠ 0 := by rw [← e3]; split <;> omega
    rw [e3, if_pos (by simpa using e4), if_pos e4]

/-! ### the same, by the reference -/

section
variable {b0 b1 b2 a0 a1 : Int} (hs : chkS b0 b1 b2 a0 a1 = 0)
include hs

theorem outR_eq {p : Int × Int} (hp : inP p) : R06_Out b0 b1 b2 a0 a1 0 0 p.1 p.2 0 = some ((nextY b0 b1 b2 a0 a1 p).1, !(decide (outU (secU b0 b1 b2 a0 a1 p) 0 = rawU (secU b0 b1 b2 a0 a1 p) 0)), 0, 0, (nextY b0 b1 b2 a0 a1 p).1, (nextY b0 b1 b2 a0 a1 p).2) :=
  out_eq (u := secU b0 b1 b2 a0 a1 p) (x := 0) (secU_ok hs hp) ⟨by decide, by decide⟩
end

def listY (Y : Nat → Int × Int) (k : Nat) : List (List Int) := (List.range k).map fun i => [(Y i).1, (Y i).2]
theorem listY_len (Y : Nat → Int × Int) (k : Nat) : (listY Y k).length = k := by simp [listY]
theorem listY_succ (Y : Nat → Int × Int) (k : Nat) : listY Y (k + 1) = listY Y k ++ [[(Y k).1, (Y k).2]] := by simp [listY, List.range_succ]

theorem inner_eq {Y : Nat → Int × Int} {n : Nat} {x0 : Int × Int × Int × Int × Int × List (List Int)} {r2 : Int × Bool × Int × Int × Int × Int} (hn : n ≤ 2000) (h0 : x0.1 = (n : Int)) (hl : x0.2.2.2.2.2 = listY Y n) (h1 : r2.2.2.2.2.1 = (Y n).1) (h2 : r2.2.2.2.2.2 = (Y n).2) :
    iter (R06_CycleOf_b1 x0 r2) big (0 : Int) = some (match (listY Y n).findIdx? (fun r => r.getD 0 0 == (Y n).1 && r.getD 1 0 == (Y n).2) with
      | some i => .inl ((i : Int), (n : Int) - (i : Int))
      | none => .inr ()) := by
  have hlen := listY_len Y n
  refine iter_first (listY Y n) [] (fun r => r.getD 0 0 == (Y n).1 && r.getD 1 0 == (Y n).2) (fun i => (Sum.inl ((i : Int), (n : Int) - (i : Int)) : (Int × Int) ⊕ Unit)) (Sum.inr ()) (by omega) (fun i hi hp => ?_) (fun i hi hp => ?_) ?_
  · unfold R06_CycleOf_b1
    rw [hl, h1, h2, h0, if_pos (by omega), if_pos ⟨by omega, by omega⟩, if_pos (by omega), if_pos (by simpa using hp), wr64 (by omega)]
  · unfold R06_CycleOf_b1
    rw [hl, h1, h2, if_pos (by omega), if_pos ⟨by omega, by omega⟩, if_pos (by omega), if_neg (by simpa using hp), wr64 (by omega)]
  · unfold R06_CycleOf_b1
    rw [hl, if_neg (by omega)]

theorem findY_miss {Y : Nat → Int × Int} {n : Nat} (h : ∀ i, i < n → Y i ≠ Y n) : (listY Y n).findIdx? (fun r => r.getD 0 0 == (Y n).1 && r.getD 1 0 == (Y n).2) = none := by
  rw [List.findIdx?_eq_none_iff]
  intro r hr
  obtain ⟨i, hi, rfl⟩ := List.mem_map.1 hr
  rw [Bool.eq_false_iff]
  intro hc
  simp only [List.getD_cons_zero, List.getD_cons_succ, Bool.and_eq_true, beq_iff_eq] at hc
  exact h i (List.mem_range.1 hi) (Prod.ext hc.1 hc.2)
theorem findY_hit {Y : Nat → Int × Int} {n i : Nat} (hi : i < n) (he : Y i = Y n) (h : ∀ j, j < i → Y j ≠ Y n) : (listY Y n).findIdx? (fun r => r.getD 0 0 == (Y n).1 && r.getD 1 0 == (Y n).2) = some i := by
  rw [List.findIdx?_eq_some_iff_getElem]
  refine ⟨by rw [listY_len]; exact hi, by simp [listY, he], fun j hj => ?_⟩
  have : ¬ ((Y j).1 = (Y n).1 ∧ (Y j).2 = (Y n).2) := fun hc => h j hj (Prod.ext hc.1 hc.2)
  simpa [listY] using this

section
variable {b0 b1 b2 a0 a1 : Int} (hs : chkS b0 b1 b2 a0 a1 = 0) {y : Int × Int} (hy : inP y)
include hs hy

def stR (b0 b1 b2 a0 a1 : Int) (y : Int × Int) (k : Nat) : Int × Int × Int × Int × Int × List (List Int) :=
  let Y := yAt (nextY b0 b1 b2 a0 a1) y
  (((k + 1 : Nat) : Int), 0, 0, (Y k).1, (Y k).2, listY Y (k + 1))

theorem cycR_step {k : Nat} (hk : k < 1000) (hd : ∀ i, i < k + 1 → yAt (nextY b0 b1 b2 a0 a1) y i ≠ yAt (nextY b0 b1 b2 a0 a1) y (k + 1)) :
    R06_CycleOf_b0 b0 b1 b2 a0 a1 (stR b0 b1 b2 a0 a1 y k) = some (.inl (stR b0 b1 b2 a0 a1 y (k + 1))) := by
  unfold R06_CycleOf_b0
  have e1 : (stR b0 b1 b2 a0 a1 y k).1 = ((k + 1 : Nat) : Int) := rfl
  have ho := outR_eq hs (yAt_in hs hy k)
  have e2 : R06_Out b0 b1 b2 a0 a1 (stR b0 b1 b2 a0 a1 y k).2.1 (stR b0 b1 b2 a0 a1 y k).2.2.1 (stR b0 b1 b2 a0 a1 y k).2.2.2.1 (stR b0 b1 b2 a0 a1 y k).2.2.2.2.1 0 = _ := ho
  rw [if_pos (by rw [e1]; omega), e2, bind_some']
  rw [inner_eq (Y := yAt (nextY b0 b1 b2 a0 a1) y) (n := k + 1) (by omega) e1 rfl rfl rfl, findY_miss hd]
  show R06_CycleOf_r1_1 _ _ () = _
  unfold R06_CycleOf_r1_1
  have hl : (stR b0 b1 b2 a0 a1 y k).2.2.2.2.2.length = k + 1 := listY_len _ _
  rw [if_pos (by rw [hl]; simp only [List.length_cons, List.length_nil]; omega), e1, wr64 (by omega)]
  have e : ((k + 1 : Nat) : Int) + 1 = ((k + 1 + 1 : Nat) : Int) := by omega
  rw [e]
  unfold stR
  dsimp only
  rw [listY_succ _ (k + 1)]
  rfl

theorem cycR_hit {n i : Nat} (hn : n ≤ 1000) (hi : i < n) (he : yAt (nextY b0 b1 b2 a0 a1) y i = yAt (nextY b0 b1 b2 a0 a1) y n) (hd : ∀ p q, p < q → q < n → yAt (nextY b0 b1 b2 a0 a1) y p ≠ yAt (nextY b0 b1 b2 a0 a1) y q) :
    iter (R06_CycleOf_b0 b0 b1 b2 a0 a1) big ((1 : Int), (0 : Int), (0 : Int), y.1, y.2, [[y.1, y.2]]) = some (.inl ((i : Int), (n : Int) - (i : Int))) := by
  obtain ⟨k, rfl⟩ : ∃ k, n = k + 1 := ⟨n - 1, by omega⟩
  refine iter_upto (stR b0 b1 b2 a0 a1 y) (k := k) (fun j hj => cycR_step hs hy (by omega) fun p hp => hd p (j + 1) hp (by omega)) ?_ (by omega)
  unfold R06_CycleOf_b0
  have e1 : (stR b0 b1 b2 a0 a1 y k).1 = ((k + 1 : Nat) : Int) := rfl
  have ho := outR_eq hs (yAt_in hs hy k)
  have e2 : R06_Out b0 b1 b2 a0 a1 (stR b0 b1 b2 a0 a1 y k).2.1 (stR b0 b1 b2 a0 a1 y k).2.2.1 (stR b0 b1 b2 a0 a1 y k).2.2.2.1 (stR b0 b1 b2 a0 a1 y k).2.2.2.2.1 0 = _ := ho
  rw [if_pos (by rw [e1]; omega), e2, bind_some']
  rw [inner_eq (Y := yAt (nextY b0 b1 b2 a0 a1) y) (n := k + 1) (by omega) e1 rfl rfl rfl, findY_hit hi he (fun j hj h => hd j i hj hi (h.trans he.symm))]
  rfl

theorem cycR_miss (hd : ∀ p q, p < q → q ≤ 1000 → yAt (nextY b0 b1 b2 a0 a1) y p ≠ yAt (nextY b0 b1 b2 a0 a1) y q) :
    iter (R06_CycleOf_b0 b0 b1 b2 a0 a1) big ((1 : Int), (0 : Int), (0 : Int), y.1, y.2, [[y.1, y.2]]) = some (.inr ()) := by
  refine iter_upto (stR b0 b1 b2 a0 a1 y) (k := 1000) (fun j hj => cycR_step hs hy (by omega) fun p hp => hd p (j + 1) hp (by omega)) ?_ (by omega)
  unfold R06_CycleOf_b0
  have e1 : (stR b0 b1 b2 a0 a1 y 1000).1 = ((1001 : Nat) : Int) := rfl
  rw [e1, if_neg (by omega)]
end

theorem isSampleR_eq (n : Int) : R06_isSample n = some (decide (-32767 ≤ n ∧ n ≤ 32767)) := by
  unfold R06_isSample
  congr 1
  rw [Bool.eq_iff_iff]
  simp

theorem cycleR_eq {b0 b1 b2 a0 a1 : Int} (hs : chkS b0 b1 b2 a0 a1 = 0) (y : Int × Int) :
    R06_CycleOf b0 b1 b2 a0 a1 y.1 y.2 = if cyE b0 b1 b2 a0 a1 y ≠ 0 then some (0, 0, cyE b0 b1 b2 a0 a1 y) else Option.bind (iter (R06_CycleOf_b0 b0 b1 b2 a0 a1) big ((1 : Int), (0 : Int), (0 : Int), y.1, y.2, [[y.1, y.2]])) R06_CycleOf_r0 := by
  unfold R06_CycleOf cyE
  rw [isSampleR_eq, isSampleR_eq, bind_some', bind_some', if_neg (show ¬ (chkS b0 b1 b2 a0 a1 ≠ 0) from fun h => h hs)]
  by_cases h1 : -32767 ≤ y.1 ∧ y.1 ≤ 32767
  · by_cases h2 : -32767 ≤ y.2 ∧ y.2 ≤ 32767
    · simp [h1, h2]
    · simp [h1, h2]
  · simp [h1]

/-! ### the law -/

/-- A section without feedback comes to rest. -/
theorem rest_next {b0 b1 b2 : Int} (p : Int × Int) : nextY b0 b1 b2 0 0 p = (0, p.1) := by
  unfold nextY outU
  have : rawU (secU b0 b1 b2 0 0 p) 0 = 0 := by
    show (2 * (b0 * 0 + b1 * 0 + b2 * 0 - 0 * p.1 - 0 * p.2) + 16384) / 32768 = 0
    rw [Int.mul_zero, Int.mul_zero, Int.mul_zero, Int.zero_mul, Int.zero_mul]
    rfl
  rw [this]
  rfl

theorem rest_len {b0 b1 b2 : Int} {y : Int × Int} {n i : Nat} (hi : i < n) (he : yAt (nextY b0 b1 b2 0 0) y i = yAt (nextY b0 b1 b2 0 0) y n) (hd : ∀ p q, p < q → q < n → yAt (nextY b0 b1 b2 0 0) y p ≠ yAt (nextY b0 b1 b2 0 0) y q) : n = i + 1 := by
  have y1 : yAt (nextY b0 b1 b2 0 0) y 1 = (0, y.1) := rest_next y
  have y2 : ∀ k, yAt (nextY b0 b1 b2 0 0) y (k + 2) = (0, 0) := by
    intro k
    show nextY b0 b1 b2 0 0 (yAt (nextY b0 b1 b2 0 0) y (k + 1)) = _
    rw [rest_next]
    show (0, (nextY b0 b1 b2 0 0 (yAt (nextY b0 b1 b2 0 0) y k)).1) = _
    rw [rest_next]
  match n, hi, he, hd with
  | 1, hi, _, _ => omega
  | 2, hi, he, hd =>
    by_cases h0 : i = 0
    · subst h0
      exfalso
      have h1 : y = (0, 0) := he.trans (y2 0)
      exact hd 0 1 (by omega) (by omega) (by rw [y1]; show y = _; rw [h1])
    · omega
  | 3, hi, he, hd =>
    by_cases h2 : i = 2
    · omega
    · exfalso
      exact hd i 2 (by omega) (by omega) (he.trans ((y2 1).trans (y2 0).symm))
  | n + 4, hi, he, hd =>
    exfalso
    exact hd 2 3 (by omega) (by omega) ((y2 0).trans (y2 1).symm)

def atC (Y : Nat → Int × Int) (i k : Nat) : Int × Int := if k ≤ i then (0, 0) else Y i
def stL (Y : Nat → Int × Int) (i k : Nat) : Int × Int × Int × Int × Int × Int × Int :=
  ((k : Int), 0, 0, (Y k).1, (Y k).2, (atC Y i k).1, (atC Y i k).2)

theorem law_loop {b0 b1 b2 a0 a1 : Int} (hs : chkS b0 b1 b2 a0 a1 = 0) {y : Int × Int} (hy : inP y) {n i : Nat} {r0 : Int × Int × Int} (hn : n ≤ 1000) (hi : i < n)
    (he : yAt (nextY b0 b1 b2 a0 a1) y i = yAt (nextY b0 b1 b2 a0 a1) y n) (h1 : r0.1 = (i : Int)) (h2 : r0.2.1 = (n : Int) - (i : Int)) :
    iter (L06_FilterCycles_b0 b0 b1 b2 a0 a1 r0) big ((0 : Int), (0 : Int), (0 : Int), y.1, y.2, (0 : Int), (0 : Int)) = some (.inr ()) := by
  have hw : IntKind.i64.wrap (r0.1 + r0.2.1) = (n : Int) := by rw [h1, h2, wr64 (by omega)]; omega
  have hstep : ∀ k, k ≤ n → L06_FilterCycles_b0 b0 b1 b2 a0 a1 r0 (stL (yAt (nextY b0 b1 b2 a0 a1) y) i k) = some (.inl (stL (yAt (nextY b0 b1 b2 a0 a1) y) i (k + 1))) := by
    intro k hk
    have ho := outR_eq hs (yAt_in hs hy k)
    have e1 : (stL (yAt (nextY b0 b1 b2 a0 a1) y) i k).1 = (k : Int) := rfl
    have e2 : R06_Out b0 b1 b2 a0 a1 (stL (yAt (nextY b0 b1 b2 a0 a1) y) i k).2.1 (stL (yAt (nextY b0 b1 b2 a0 a1) y) i k).2.2.1 (stL (yAt (nextY b0 b1 b2 a0 a1) y) i k).2.2.2.1 (stL (yAt (nextY b0 b1 b2 a0 a1) y) i k).2.2.2.2.1 0 = _ := ho
    unfold L06_FilterCycles_b0
    rw [hw, e1, if_pos (by omega), e2, bind_some']
    have ek : IntKind.i64.wrap ((k : Int) + 1) = ((k + 1 : Nat) : Int) := by rw [wr64 (by omega)]; omega
    rw [ek]
    by_cases hki : k = i
    · subst hki
      have ei : ((k : Int) == r0.1) = true := by rw [h1]; simp
      have en : ((k : Int) == (n : Int)) = false := by simp; omega
      have ha : atC (yAt (nextY b0 b1 b2 a0 a1) y) k (k + 1) = yAt (nextY b0 b1 b2 a0 a1) y k := by unfold atC; rw [if_neg (by omega)]
      rw [if_pos ei, if_neg (by rw [en]; decide)]
      unfold stL
      rw [ha]
      rfl
    · have ei : ((k : Int) == r0.1) = false := by rw [h1]; simp; omega
      have ha : atC (yAt (nextY b0 b1 b2 a0 a1) y) i (k + 1) = atC (yAt (nextY b0 b1 b2 a0 a1) y) i k := by
        unfold atC
        by_cases hle : k ≤ i
        · rw [if_pos hle, if_pos (by omega)]
        · rw [if_neg hle, if_neg (by omega)]
      rw [if_neg (by rw [ei]; decide)]
      by_cases hkn : k = n
      · subst hkn
        have en : ((k : Int) == (k : Int)) = true := by simp
        have hq : atC (yAt (nextY b0 b1 b2 a0 a1) y) i k = yAt (nextY b0 b1 b2 a0 a1) y k := by unfold atC; rw [if_neg (by omega)]; exact he
        have e5 : ((stL (yAt (nextY b0 b1 b2 a0 a1) y) i k).2.2.2.1 == (stL (yAt (nextY b0 b1 b2 a0 a1) y) i k).2.2.2.2.2.1 && (stL (yAt (nextY b0 b1 b2 a0 a1) y) i k).2.2.2.2.1 == (stL (yAt (nextY b0 b1 b2 a0 a1) y) i k).2.2.2.2.2.2) = true := by
          unfold stL
          dsimp only
          rw [hq]
          simp
        rw [if_pos en, if_neg (by rw [e5]; decide)]
        unfold stL
        rw [ha]
        rfl
      · have en : ((k : Int) == (n : Int)) = false := by simp; omega
        rw [if_neg (by rw [en]; decide)]
        unfold stL
        rw [ha]
        rfl
  have h0 : stL (yAt (nextY b0 b1 b2 a0 a1) y) i 0 = ((0 : Int), (0 : Int), (0 : Int), y.1, y.2, (0 : Int), (0 : Int)) := by
    unfold stL atC
    rw [if_pos (Nat.zero_le i)]
    rfl
  rw [← h0]
  refine iter_upto (stL (yAt (nextY b0 b1 b2 a0 a1) y) i) (k := n + 1) (fun k hk => hstep k (by omega)) ?_ (by omega)
  unfold L06_FilterCycles_b0
  have e1 : (stL (yAt (nextY b0 b1 b2 a0 a1) y) i (n + 1)).1 = ((n + 1 : Nat) : Int) := rfl
  rw [hw, e1, if_neg (by omega)]

theorem filterCycles_true (b0 b1 b2 a0 a1 y0 y1 : Int) : L06_FilterCycles b0 b1 b2 a0 a1 y0 y1 = some true := by
  unfold L06_FilterCycles
  have hF := cycleOf_eq b0 b1 b2 a0 a1 (y0, y1)
  dsimp only at hF
  rw [hF, checkSection_eq]
  by_cases hE : cyE b0 b1 b2 a0 a1 (y0, y1) = 0
  · have hs : chkS b0 b1 b2 a0 a1 = 0 := by
      by_cases h : chkS b0 b1 b2 a0 a1 = 0
      · exact h
      · unfold cyE at hE; rw [if_pos h] at hE; exact absurd hE h
    have hy : inP (y0, y1) := by
      unfold cyE at hE
      rw [if_neg (show ¬ (chkS b0 b1 b2 a0 a1 ≠ 0) from fun h => h hs)] at hE
      by_cases h : (-32767 ≤ y0 ∧ y0 ≤ 32767) ∧ (-32767 ≤ y1 ∧ y1 ≤ 32767)
      · exact h
      · rw [if_neg h] at hE; cases hE
    have hR := cycleR_eq hs (y0, y1)
    dsimp only at hR
    rw [if_neg (show ¬ (cyE b0 b1 b2 a0 a1 (y0, y1) ≠ 0) from fun h => h hE)] at hR ⊢
    rcases again (yAt (nextY b0 b1 b2 a0 a1) (y0, y1)) 1000 with ⟨n, i, hn, hi, he, hd⟩ | hd
    · have f1 := cyc_hit hs hy hn hi he hd
      have f2 := cycR_hit hs hy hn hi he hd
      dsimp only at f1 f2
      rw [f2] at hR
      rw [f1]
      show Option.bind (some ((i : Int), (n : Int) - (i : Int), (0 : Int))) _ = _
      rw [bind_some', bind_some', if_pos (by rw [hs]; rfl), hR]
      show Option.bind (some ((i : Int), (n : Int) - (i : Int), (0 : Int))) _ = _
      rw [bind_some']
      dsimp only
      rw [if_neg (by simp), if_neg (by simp), if_neg (by simp)]
      by_cases h200 : IntKind.i64.wrap ((i : Int) + ((n : Int) - (i : Int))) > 200
      · rw [if_pos h200]
      · rw [if_neg h200, law_loop hs hy (r0 := ((i : Int), (n : Int) - (i : Int), (0 : Int))) hn hi he rfl rfl]
        show L06_FilterCycles_r0_1 a0 a1 _ () = _
        unfold L06_FilterCycles_r0_1
        by_cases hz : a0 = 0 ∧ a1 = 0
        · obtain ⟨rfl, rfl⟩ := hz
          have := rest_len hi he hd
          subst this
          rw [if_neg (by decide)]
          simp
          omega
        · rw [if_pos]
          simp only [Bool.not_eq_true', Bool.and_eq_false_iff, beq_eq_false_iff_ne, ne_eq]
          omega
    · have f1 := cyc_miss hs hy hd
      have f2 := cycR_miss hs hy hd
      dsimp only at f1 f2
      rw [f2] at hR
      rw [f1]
      show Option.bind (some ((0 : Int), (0 : Int), (8 : Int))) _ = _
      rw [bind_some', bind_some', if_pos (by rw [hs]; rfl), hR]
      show Option.bind (some ((0 : Int), (0 : Int), (8 : Int))) _ = _
      rw [bind_some']
      rfl
  · rw [if_pos hE, bind_some', bind_some']
    by_cases hs : chkS b0 b1 b2 a0 a1 = 0
    · have hR := cycleR_eq hs (y0, y1)
      dsimp only at hR
      rw [if_pos hE] at hR
      rw [if_pos (by rw [hs]; rfl), hR, bind_some']
      dsimp only
      rw [if_neg (by simp), if_neg (by simp), if_pos (by simpa using hE)]
    · have he : cyE b0 b1 b2 a0 a1 (y0, y1) = chkS b0 b1 b2 a0 a1 := by unfold cyE; rw [if_pos hs]
      rw [if_neg (by simpa using hs), he]
      dsimp only
      rw [if_neg (by simp), if_neg (by simp), if_pos (by simpa using hs)]
end Go.Sh
