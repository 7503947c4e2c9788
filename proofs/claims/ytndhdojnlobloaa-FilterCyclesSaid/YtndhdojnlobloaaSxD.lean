/- A symbolic executor for the model's code: contents of slices that are made, joined, changed, cut. -/
import Derived.Test.YtndhdojnlobloaaSxC
set_option linter.unusedSectionVars false
set_option linter.unusedSimpArgs false
set_option linter.unusedVariables false
open Go.RowKit
namespace Go.Sx

def intsOf (k : IntKind) : List (List D) → Option (List Int)
  | [] => some []
  | [.i k' n] :: r => if k' = k then (intsOf k r).map (n :: ·) else none
  | _ => none
def fltsOf (k : FloatKind) : List (List D) → Option (List Nat)
  | [] => some []
  | [.f k' n] :: r => if k' = k then (fltsOf k r).map (n :: ·) else none
  | _ => none
def strsOf : List (List D) → Option (List ByteArray)
  | [] => some []
  | [.s n] :: r => (strsOf r).map (n :: ·)
  | _ => none
def boolsOf : List (List D) → Option (List Bool)
  | [] => some []
  | [.b n] :: r => (boolsOf r).map (n :: ·)
  | _ => none
/-- Whole numbers of 64 bits. -/
def i64s : List D → Option (List Int)
  | [] => some []
  | .i .i64 n :: r => (i64s r).map (n :: ·)
  | _ => none
def recsOf (e : Nat) : List (List D) → Option (List (List Int))
  | [] => some []
  | x :: r =>
    match i64s x, recsOf e r with
    | some y, some l => if y.length = e then some (y :: l) else none
    | _, _ => none
def litsOf (e : Nat) : List (List D) → Option (List (List D))
  | [] => some []
  | x :: r => if x.length = e then (litsOf e r).map (x :: ·) else none

/-- Floats of a kind. -/
def fltsD (k : FloatKind) : List D → Option (List Nat)
  | [] => some []
  | .f k' n :: r => if k' = k then (fltsD k r).map (n :: ·) else none
  | _ => none
def frsOf (k : FloatKind) (e : Nat) : List (List D) → Option (List (List Nat))
  | [] => some []
  | x :: r =>
    match fltsD k x, frsOf k e r with
    | some y, some l => if y.length = e then some (y :: l) else none
    | _, _ => none
def headF : List D → Option FloatKind
  | .f k _ :: _ => some k
  | _ => none

def isI64 : D → Bool
  | .i .i64 _ => true
  | _ => false

/-- The content of a slice whose elements are zero as told. -/
def mkCont (zero : List D) (ls : List (List D)) : Option Cont :=
  match zero with
  | [.i k _] => (intsOf k ls).map (.ints k)
  | [.f k _] => (fltsOf k ls).map (.floats k)
  | [.s _] => (strsOf ls).map .strs
  | [.b _] => (boolsOf ls).map .bools
  | _ => match headF zero with
    | some k => (frsOf k zero.length ls).map (.frs k zero.length)
    | none => if zero.all isI64 = true then (recsOf zero.length ls).map (.recs zero.length) else (litsOf zero.length ls).map (.lits zero.length)

theorem recD_self (r : List Int) : recD r.length r = r.map (D.i .i64) := by
  apply List.ext_getElem
  · simp
  · intro i h1 h2
    simp [recD] at h1 ⊢
    simp [h1]
theorem litD_self (r : List D) : litD r.length r = r := by
  apply List.ext_getElem
  · simp
  · intro i h1 h2
    simp [litD] at h1 ⊢
    simp [h1]

theorem intsOf_flat {k : IntKind} : ∀ {ls : List (List D)} {l : List Int}, intsOf k ls = some l → l.flatMap (fun x => [D.i k x]) = ls.flatten ∧ l.length = ls.length
  | [], l, h => by simp only [intsOf, Option.some.injEq] at h; subst h; exact ⟨rfl, rfl⟩
  | x :: r, l, h => by
    unfold intsOf at h
    split at h <;> first | (rename_i h'; cases h'; done) | skip
    · rename_i k' n r' he
      cases he
      split at h
      · rename_i hk
        subst hk
        cases hi : intsOf k' r with
        | none => simp [hi] at h
        | some l' =>
          simp [hi] at h
          subst h
          have := intsOf_flat hi
          exact ⟨by simp [← this.1], by simp [this.2]⟩
      · cases h
    · cases h

theorem fltsOf_flat {k : FloatKind} : ∀ {ls : List (List D)} {l : List Nat}, fltsOf k ls = some l → l.flatMap (fun x => [D.f k x]) = ls.flatten ∧ l.length = ls.length
  | [], l, h => by simp only [fltsOf, Option.some.injEq] at h; subst h; exact ⟨rfl, rfl⟩
  | x :: r, l, h => by
    unfold fltsOf at h
    split at h <;> first | (rename_i h'; cases h'; done) | skip
    · rename_i k' n r' he
      cases he
      split at h
      · rename_i hk
        subst hk
        cases hi : fltsOf k' r with
        | none => simp [hi] at h
        | some l' =>
          simp [hi] at h
          subst h
          have := fltsOf_flat hi
          exact ⟨by simp [← this.1], by simp [this.2]⟩
      · cases h
    · cases h

theorem strsOf_flat : ∀ {ls : List (List D)} {l : List ByteArray}, strsOf ls = some l → l.flatMap (fun x => [D.s x]) = ls.flatten ∧ l.length = ls.length
  | [], l, h => by simp only [strsOf, Option.some.injEq] at h; subst h; exact ⟨rfl, rfl⟩
  | x :: r, l, h => by
    unfold strsOf at h
    split at h <;> first | (rename_i h'; cases h'; done) | skip
    · rename_i n r' he
      cases he
      cases hi : strsOf r with
      | none => simp [hi] at h
      | some l' =>
        simp [hi] at h
        subst h
        have := strsOf_flat hi
        exact ⟨by simp [← this.1], by simp [this.2]⟩
    · cases h

theorem boolsOf_flat : ∀ {ls : List (List D)} {l : List Bool}, boolsOf ls = some l → l.flatMap (fun x => [D.b x]) = ls.flatten ∧ l.length = ls.length
  | [], l, h => by simp only [boolsOf, Option.some.injEq] at h; subst h; exact ⟨rfl, rfl⟩
  | x :: r, l, h => by
    unfold boolsOf at h
    split at h <;> first | (rename_i h'; cases h'; done) | skip
    · rename_i n r' he
      cases he
      cases hi : boolsOf r with
      | none => simp [hi] at h
      | some l' =>
        simp [hi] at h
        subst h
        have := boolsOf_flat hi
        exact ⟨by simp [← this.1], by simp [this.2]⟩
    · cases h

theorem i64s_eq : ∀ {x : List D} {y : List Int}, i64s x = some y → x = y.map (D.i .i64)
  | [], y, h => by simp only [i64s, Option.some.injEq] at h; subst h; rfl
  | d :: r, y, h => by
    unfold i64s at h
    split at h <;> first | (rename_i h'; cases h'; done) | skip
    · rename_i n r' he
      cases he
      cases hi : i64s r with
      | none => simp [hi] at h
      | some l' =>
        simp [hi] at h
        subst h
        simp [i64s_eq hi]
    · cases h

theorem recsOf_flat {e : Nat} : ∀ {ls : List (List D)} {l : List (List Int)}, recsOf e ls = some l → l.flatMap (recD e) = ls.flatten ∧ l.length = ls.length
  | [], l, h => by simp only [recsOf, Option.some.injEq] at h; subst h; exact ⟨rfl, rfl⟩
  | x :: r, l, h => by
    unfold recsOf at h
    split at h
    · rename_i y l' hy hl
      split at h
      · rename_i hlen
        cases h
        have := recsOf_flat hl
        subst hlen
        refine ⟨?_, by simp [this.2]⟩
        rw [List.flatMap_cons, List.flatten_cons, this.1, recD_self, i64s_eq hy]
      · cases h
    · cases h

theorem litsOf_flat {e : Nat} : ∀ {ls : List (List D)} {l : List (List D)}, litsOf e ls = some l → l.flatMap (litD e) = ls.flatten ∧ l.length = ls.length
  | [], l, h => by simp only [litsOf, Option.some.injEq] at h; subst h; exact ⟨rfl, rfl⟩
  | x :: r, l, h => by
    unfold litsOf at h
    split at h
    · rename_i hlen
      cases hi : litsOf e r with
      | none => simp [hi] at h
      | some l' =>
        simp [hi] at h
        subst h
        have := litsOf_flat hi
        subst hlen
        refine ⟨?_, by simp [this.2]⟩
        rw [List.flatMap_cons, List.flatten_cons, this.1, litD_self]
    · cases h

theorem frD_self (k : FloatKind) (r : List Nat) : frD k r.length r = r.map (D.f k) := by
  apply List.ext_getElem?
  intro i
  simp only [frD, List.getElem?_map]
  by_cases hi : i < r.length
  · rw [List.getElem?_range hi]; simp [List.getD, List.getElem?_eq_getElem hi]
  · rw [List.getElem?_eq_none (by simpa using hi), List.getElem?_eq_none (by simpa using hi)]; rfl
theorem fltsD_eq {k : FloatKind} : ∀ {x : List D} {y : List Nat}, fltsD k x = some y → x = y.map (D.f k)
  | [], y, h => by simp only [fltsD, Option.some.injEq] at h; subst h; rfl
  | d :: r, y, h => by
    cases d with
    | f k' n =>
      simp only [fltsD] at h
      split at h
      · rename_i e
        subst e
        obtain ⟨l, hl, rfl⟩ := Option.map_eq_some_iff.1 h
        rw [fltsD_eq hl]; rfl
      · cases h
    | _ => simp only [fltsD] at h; cases h
theorem frsOf_flat {k : FloatKind} {e : Nat} : ∀ {ls : List (List D)} {l : List (List Nat)}, frsOf k e ls = some l → l.flatMap (frD k e) = ls.flatten ∧ l.length = ls.length
  | [], l, h => by simp only [frsOf, Option.some.injEq] at h; subst h; exact ⟨rfl, rfl⟩
  | x :: r, l, h => by
    simp only [frsOf] at h
    split at h
    · rename_i y l' hx hl
      split at h
      · rename_i he
        cases h
        have ih := frsOf_flat hl
        refine ⟨?_, by simp [ih.2]⟩
        rw [List.flatMap_cons, List.flatten_cons, ih.1, fltsD_eq hx, ← he, frD_self]
      · cases h
    · cases h
theorem mkCont_flat {zero : List D} {ls : List (List D)} {c : Cont} (h : mkCont zero ls = some c) : c.flat = ls.flatten ∧ c.n = ls.length ∧ c.e = zero.length := by
  unfold mkCont at h
  split at h
  · rename_i k _
    cases hi : intsOf k ls with
    | none => simp [hi] at h
    | some l => simp [hi] at h; subst h; have := intsOf_flat hi; exact ⟨this.1, this.2, rfl⟩
  · rename_i k _
    cases hi : fltsOf k ls with
    | none => simp [hi] at h
    | some l => simp [hi] at h; subst h; have := fltsOf_flat hi; exact ⟨this.1, this.2, rfl⟩
  · cases hi : strsOf ls with
    | none => simp [hi] at h
    | some l => simp [hi] at h; subst h; have := strsOf_flat hi; exact ⟨this.1, this.2, rfl⟩
  · cases hi : boolsOf ls with
    | none => simp [hi] at h
    | some l => simp [hi] at h; subst h; have := boolsOf_flat hi; exact ⟨this.1, this.2, rfl⟩
  · split at h
    · rename_i k _
      cases hi : frsOf k zero.length ls with
      | none => simp [hi] at h
      | some l => simp [hi] at h; subst h; have := frsOf_flat hi; exact ⟨this.1, this.2, rfl⟩
    split at h
    · cases hi : recsOf zero.length ls with
      | none => simp [hi] at h
      | some l => simp [hi] at h; subst h; have := recsOf_flat hi; exact ⟨this.1, this.2, rfl⟩
    · cases hi : litsOf zero.length ls with
      | none => simp [hi] at h
      | some l => simp [hi] at h; subst h; have := litsOf_flat hi; exact ⟨this.1, this.2, rfl⟩

/-- n zero elements. -/
def repCont (zero : List D) (n : Nat) : Option Cont :=
  match zero with
  | [.i k x] => some (.ints k (List.replicate n x))
  | [.f k x] => some (.floats k (List.replicate n x))
  | [.s x] => some (.strs (List.replicate n x))
  | [.b x] => some (.bools (List.replicate n x))
  | _ => match headF zero with
    | some k => (fltsD k zero).map fun z => .frs k zero.length (List.replicate n z)
    | none => match i64s zero with
      | some z => some (.recs zero.length (List.replicate n z))
      | none => some (.lits zero.length (List.replicate n zero))

theorem flatMap_replicate {α : Type} (g : α → List D) (x : α) (n : Nat) : (List.replicate n x).flatMap g = (List.replicate n (g x)).flatten := by
  induction n with
  | zero => rfl
  | succ n ih => simp [List.replicate_succ, ih]

theorem repCont_flat {zero : List D} {n : Nat} {c : Cont} (h : repCont zero n = some c) : c.flat = (List.replicate n zero).flatten ∧ c.n = n ∧ c.e = zero.length := by
  unfold repCont at h
  split at h
  · cases h; exact ⟨by simp only [Cont.flat, flatMap_replicate], by simp [Cont.n], rfl⟩
  · cases h; exact ⟨by simp only [Cont.flat, flatMap_replicate], by simp [Cont.n], rfl⟩
  · cases h; exact ⟨by simp only [Cont.flat, flatMap_replicate], by simp [Cont.n], rfl⟩
  · cases h; exact ⟨by simp only [Cont.flat, flatMap_replicate], by simp [Cont.n], rfl⟩
  · split at h
    · rename_i k _
      cases hz : fltsD k zero with
      | none => simp [hz] at h
      | some z =>
        simp only [hz, Option.map_some, Option.some.injEq] at h
        subst h
        refine ⟨?_, by simp [Cont.n], rfl⟩
        have hl : zero.length = z.length := by rw [fltsD_eq hz]; simp
        rw [Cont.flat, flatMap_replicate, hl, frD_self, ← fltsD_eq hz]
    split at h
    · rename_i z hz
      cases h
      refine ⟨?_, by simp [Cont.n], rfl⟩
      have hl : zero.length = z.length := by rw [i64s_eq hz]; simp
      rw [Cont.flat, flatMap_replicate, hl, recD_self, ← i64s_eq hz]
    · cases h
      refine ⟨?_, by simp [Cont.n], rfl⟩
      rw [Cont.flat, flatMap_replicate, litD_self]

/-- Two contents, one behind the other. -/
def Cont.app : Cont → Cont → Option Cont
  | .ints k l, .ints k' l' => if k = k' then some (.ints k (l ++ l')) else none
  | .recs e l, .recs e' l' => if e = e' then some (.recs e (l ++ l')) else none
  | .floats k l, .floats k' l' => if k = k' then some (.floats k (l ++ l')) else none
  | .strs l, .strs l' => some (.strs (l ++ l'))
  | .bools l, .bools l' => some (.bools (l ++ l'))
  | .lits e l, .lits e' l' => if e = e' then some (.lits e (l ++ l')) else none
  | .frs k e l, .frs k' e' l' => if k = k' then if e = e' then some (.frs k e (l ++ l')) else none else none
  | _, _ => none

theorem Cont.app_flat {a b c : Cont} (h : a.app b = some c) : c.flat = a.flat ++ b.flat ∧ c.n = a.n + b.n ∧ c.e = a.e ∧ b.e = a.e := by
  unfold Cont.app at h
  split at h <;> first
    | (split at h
       · split at h
         · rename_i hk hk'
           subst hk
           subst hk'
           cases h
           exact ⟨by simp [Cont.flat], by simp [Cont.n], rfl, rfl⟩
         · cases h
       · cases h)
    | (split at h
       · rename_i hk
         subst hk
         cases h
         exact ⟨by simp [Cont.flat], by simp [Cont.n], rfl, rfl⟩
       · cases h)
    | (cases h; exact ⟨by simp [Cont.flat], by simp [Cont.n], rfl, rfl⟩)
    | cases h

/-- A number list, written over from place j on. -/
def wr (e : Nat) (r : List Int) (j : Nat) (xs : List Int) : List Int :=
  (List.range e).map fun t => if j ≤ t ∧ t < j + xs.length then xs.getD (t - j) 0 else r.getD t 0

/-- Cells written from cell j of element i on. -/
def Cont.upd (c : Cont) (i j : Nat) (ds : List D) : Option Cont :=
  match c, ds with
  | .ints k l, [.i k' x] => if k' = k ∧ j = 0 then some (.ints k (l.set i x)) else none
  | .floats k l, [.f k' x] => if k' = k ∧ j = 0 then some (.floats k (l.set i x)) else none
  | .strs l, [.s x] => if j = 0 then some (.strs (l.set i x)) else none
  | .bools l, [.b x] => if j = 0 then some (.bools (l.set i x)) else none
  | .recs e l, ds => (i64s ds).bind fun xs => if j + xs.length ≤ e then some (.recs e (l.set i (wr e (l.getD i []) j xs))) else none
  | _, _ => none

theorem getD_set {α : Type} (l : List α) (i k : Nat) (x d : α) (hi : i < l.length) : (l.set i x).getD k d = if k = i then x else l.getD k d := by
  simp only [List.getD, List.getElem?_set]
  by_cases h : i = k
  · subst h; simp [hi]
  · simp [h, Ne.symm h]

theorem Cont.upd_cell {c c' : Cont} {i j : Nat} {ds : List D} (h : c.upd i j ds = some c') (hi : i < c.n) :
    c'.n = c.n ∧ c'.e = c.e ∧ j + ds.length ≤ c.e ∧
      ∀ k m, m < c.e → c'.cell k m = if k = i ∧ j ≤ m ∧ m < j + ds.length then ds.getD (m - j) (.v undef) else c.cell k m := by
  unfold Cont.upd at h
  split at h
  · split at h
    · rename_i hk; obtain ⟨rfl, rfl⟩ := hk; cases h
      refine ⟨by simp [Cont.n], rfl, by simp [Cont.e], fun k m hm => ?_⟩
      simp only [Cont.e] at hm
      obtain rfl : m = 0 := by omega
      simp only [Cont.cell, Cont.n] at *
      rw [getD_set _ _ _ _ _ hi]
      by_cases hki : k = i <;> simp [hki]
    · cases h
  · split at h
    · rename_i hk; obtain ⟨rfl, rfl⟩ := hk; cases h
      refine ⟨by simp [Cont.n], rfl, by simp [Cont.e], fun k m hm => ?_⟩
      simp only [Cont.e] at hm
      obtain rfl : m = 0 := by omega
      simp only [Cont.cell, Cont.n] at *
      rw [getD_set _ _ _ _ _ hi]
      by_cases hki : k = i <;> simp [hki]
    · cases h
  · split at h
    · rename_i hk; subst hk; cases h
      refine ⟨by simp [Cont.n], rfl, by simp [Cont.e], fun k m hm => ?_⟩
      simp only [Cont.e] at hm
      obtain rfl : m = 0 := by omega
      simp only [Cont.cell, Cont.n] at *
      rw [getD_set _ _ _ _ _ hi]
      by_cases hki : k = i <;> simp [hki]
    · cases h
  · split at h
    · rename_i hk; subst hk; cases h
      refine ⟨by simp [Cont.n], rfl, by simp [Cont.e], fun k m hm => ?_⟩
      simp only [Cont.e] at hm
      obtain rfl : m = 0 := by omega
      simp only [Cont.cell, Cont.n] at *
      rw [getD_set _ _ _ _ _ hi]
      by_cases hki : k = i <;> simp [hki]
    · cases h
  · rename_i e l
    cases hx : i64s ds with
    | none => simp [hx] at h
    | some xs =>
      simp only [hx, Option.bind_some] at h
      split at h
      · rename_i hle
        cases h
        have hds := i64s_eq hx
        subst hds
        refine ⟨by simp [Cont.n], rfl, by simpa [Cont.e] using hle, fun k m hm => ?_⟩
        simp only [Cont.cell, Cont.n, Cont.e] at *
        rw [getD_set _ _ _ _ _ hi]
        by_cases hki : k = i
        · subst hki
          simp only [if_true, true_and, List.length_map, wr]
          rw [List.getD_eq_getElem?_getD, List.getElem?_map, List.getElem?_range hm]
          simp only [Option.map_some, Option.getD_some]
          split
          · rename_i hin
            have : m - j < xs.length := by omega
            simp [List.getD, this]
          · rfl
        · simp [hki]
      · cases h
  · cases h

/-- Elements lo up to hi (not included). -/
def Cont.sub : Cont → Nat → Nat → Cont
  | .ints k l, lo, hi => .ints k ((l.drop lo).take (hi - lo))
  | .recs e l, lo, hi => .recs e ((l.drop lo).take (hi - lo))
  | .floats k l, lo, hi => .floats k ((l.drop lo).take (hi - lo))
  | .strs l, lo, hi => .strs ((l.drop lo).take (hi - lo))
  | .bools l, lo, hi => .bools ((l.drop lo).take (hi - lo))
  | .lits e l, lo, hi => .lits e ((l.drop lo).take (hi - lo))
  | .frs k e l, lo, hi => .frs k e ((l.drop lo).take (hi - lo))

theorem Cont.sub_cell (c : Cont) {lo hi : Nat} (h : lo ≤ hi) (hh : hi ≤ c.n) : (c.sub lo hi).n = hi - lo ∧ (c.sub lo hi).e = c.e ∧ ∀ k m, k < hi - lo → (c.sub lo hi).cell k m = c.cell (lo + k) m := by
  cases c <;> simp only [Cont.sub, Cont.n, Cont.e, Cont.cell] at * <;>
    first
    | (refine ⟨by simp; omega, trivial, fun k m hk => ?_⟩; simp [List.getD, hk])
    | (refine ⟨by simp; omega, rfl, fun k m hk => ?_⟩; simp [List.getD, hk])

/-- e floats of a list. -/
def padF (e : Nat) (r : List Nat) : List Nat := (List.range e).map fun j => r.getD j 0
theorem padF_length (e : Nat) (r : List Nat) : (padF e r).length = e := by simp [padF]
theorem padF_get {e : Nat} {r : List Nat} {j : Nat} (h : j < e) : (padF e r).getD j 0 = r.getD j 0 := by simp [padF, List.getD, h]
theorem padF_self {e : Nat} {r : List Nat} (h : r.length = e) : padF e r = r := by
  subst h
  apply List.ext_getElem?
  intro i
  simp only [padF, List.getElem?_map]
  by_cases hi : i < r.length
  · rw [List.getElem?_range hi]; simp [List.getD, List.getElem?_eq_getElem hi]
  · rw [List.getElem?_eq_none (by simpa using hi), List.getElem?_eq_none (by simpa using hi)]; rfl
/-- One of e floats, written. -/
def setF (e : Nat) (r : List Nat) (j x : Nat) : List Nat := (padF e r).set j x
theorem setF_get {e : Nat} {r : List Nat} {j x m : Nat} (hj : j < e) (hm : m < e) : (setF e r j x).getD m 0 = if m = j then x else r.getD m 0 := by
  rw [setF, getD_set _ _ _ _ _ (by rw [padF_length]; exact hj)]
  split
  · rfl
  · exact padF_get hm

end Go.Sx
