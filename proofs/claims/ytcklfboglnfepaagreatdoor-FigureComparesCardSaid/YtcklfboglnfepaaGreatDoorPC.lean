/- Part 3 of the proof of FigureComparesCard: the executor, the mirrors of the functions, the plain facts. -/
import Derived.Test.YtcklfboglnfepaaGreatDoorPB
import Derived.IntWalk
import Derived.Test.YtcklfboglnfepaaGreatDoorProg
set_option maxRecDepth 100000
set_option linter.unusedSectionVars false
set_option linter.unusedSimpArgs false
set_option linter.unusedVariables false
section
open Go.RowKit
namespace Go.Sx
inductive Sh where
 | d
 | r (c0 : Cont)
 | x (x0 : XC)
 | p (l : List Sh)
 | f (g : Nat) (l : List Sh)
inductive SV where
 | c (x : Sh)
 | a (l : List Sh)
 | b (k : FloatKind) (e : Nat)
inductive Lf where
 | d (x : D)
 | n (k : FloatKind)
 | r (c : Cont)
 | x (x : XC)
 | b (k : FloatKind) (e : Nat) (r : List Nat)
def nilC : C → Bool
 | .d (.v (.slice none 0 0)) => true
 | _ => false
def jfz (hp : Hp) (h : Nat) : Option (List C) := match find hp h with
 | some (.box _ cs) => some cs
 | some (.ebox cs) => some cs
 | _ => none
def isP : Sh → Bool
 | .p _ => true
 | _ => false
def jdL (f : Sh → C → Option (List Lf × List C)) : List Sh → List C → Option (List Lf × List C)
 | [], [] => some ([], [])
 | s :: l, c :: cs => match f s c, jdL f l cs with
  | some (a, x), some (b, y) => some (a ++ b, x ++ y)
  | _, _ => none
 | _, _ => none
def toC (hp : Hp) : Nat → Sh → C → Option (List Lf × List C)
 | 0, _, _ => none
 | n + 1, s, c =>
  match s with
  | .d => match c with
   | .d x => some ([.d x], [])
   | .o h => match find hp h with
    | some (.nan k) => some ([.n k], [c])
    | _ => none
   | _ => none
  | .r c0 => match nilC c with
   | true => match c0.n, c0.e with
    | 0, _ + 1 => some ([.r c0], [c])
    | _, _ => none
   | false => match c with
    | .o h => match (find hp h).bind O.cont with
     | some x => match x.e with
      | 0 => none
      | _ + 1 => some ([.r x], [c])
     | none => none
    | _ => none
  | .x x0 => match nilC c with
   | true => match x0.n with
    | 0 => some ([.x x0], [c])
    | _ => none
   | false => match c with
    | .o h => match find hp h with
     | some (.xext X) => some ([.x X], [c])
     | _ => none
    | _ => none
  | .p l => match c with
   | .p h 0 _ 0 => match jfz hp h with
    | some cs => (jdL (toC hp n) l cs).map fun (a, x) => (a, x ++ [c])
    | none => none
   | .o h => match jfz hp h with
    | some cs => (jdL (toC hp n) l cs).map fun (a, x) => (a, x ++ [c])
    | none => none
   | _ => none
  | .f g l => match c with
   | .fn g' hs => match Nat.beq g g', l.all isP with
    | true, true => jdL (toC hp n) l (hs.map C.o)
    | _, _ => none
   | _ => none
def toV (hp : Hp) (s : SV) (v : V) : Option (List Lf × List C) :=
 match s, v with
 | .c s, .w (.c c) => toC hp 8 s c
 | .a l, .w (.a cs) => jdL (toC hp 8) l cs
 | .b k e, .w (.b k' e' r) => match jb9 k k', Nat.beq e e' with
  | true, true => some ([.b k e r], [])
  | _, _ => none
 | .b k e, .w (.a cs) => match jdm k cs with
  | some r => match Nat.beq e r.length with
   | true => some ([.b k e r], [])
   | false => none
  | none => none
 | _, _ => none
def ji2 (hp : Hp) : List SV → List V → Option (List Lf × List C)
 | [], [] => some ([], [])
 | s :: l, v :: vs => match toV hp s v, ji2 hp l vs with
  | some (a, x), some (b, y) => some (a ++ b, x ++ y)
  | _, _ => none
 | _, _ => none
structure Bt where
 cs : List C
 hp : Hp
 n : Nat
 ls : List Lf
def jhJ (f : Sh → Nat → List Lf → Option Bt) : List Sh → Nat → List Lf → Option Bt
 | [], n, ls => some ⟨[], [], n, ls⟩
 | s :: l, n, ls => match f s n ls with
  | some a => match jhJ f l a.n a.ls with
   | some b => some ⟨a.cs ++ b.cs, b.hp ++ a.hp, b.n, b.ls⟩
   | none => none
  | none => none
def hOf : C → Nat
 | .p h _ _ _ => h
 | .o h => h
 | _ => 0
def jd5 : Nat → Sh → Nat → List Lf → Option Bt
 | 0, _, _, _ => none
 | m + 1, s, n, ls =>
  match s with
  | .d => match ls with
   | .d x :: r => some ⟨[.d x], [], n, r⟩
   | .n k :: r => some ⟨[.o n], [(n, .nan k)], n + 1, r⟩
   | _ => none
  | .r _ => match ls with
   | .r c :: r => some ⟨[.o n], [(n, .ext c)], n + 1, r⟩
   | _ => none
  | .x _ => match ls with
   | .x X :: r => some ⟨[.o n], [(n, .xext X)], n + 1, r⟩
   | _ => none
  | .p l => match jhJ (jd5 m) l n ls with
   | some b => some ⟨[.p b.n 0 1 0], (b.n, .ebox b.cs) :: b.hp, b.n + 1, b.ls⟩
   | none => none
  | .f g l => match jhJ (jd5 m) l n ls with
   | some b => some ⟨[.fn g (b.cs.map hOf)], b.hp, b.n, b.ls⟩
   | none => none
structure Bv where
 vs : List V
 hp : Hp
 n : Nat
 ls : List Lf
def jge : List C → C
 | c :: _ => c
 | [] => .d (.v undef)
def bldV (s : SV) (n : Nat) (ls : List Lf) : Option Bv :=
 match s with
 | .c s => (jd5 8 s n ls).map fun b => ⟨[.w (.c (jge b.cs))], b.hp, b.n, b.ls⟩
 | .a l => (jhJ (jd5 8) l n ls).map fun b => ⟨[.w (.a b.cs)], b.hp, b.n, b.ls⟩
 | .b _ _ => match ls with
  | .b k e r :: q => some ⟨[.w (.b k e r)], [], n, q⟩
  | _ => none
def jgf : List SV → Nat → List Lf → Option Bv
 | [], n, ls => some ⟨[], [], n, ls⟩
 | s :: l, n, ls => match bldV s n ls with
  | some a => match jgf l a.n a.ls with
   | some b => some ⟨a.vs ++ b.vs, b.hp ++ a.hp, b.n, b.ls⟩
   | none => none
  | none => none
inductive RC where
 | d (x : D)
 | g (i : Nat)
 | row (ty : Nat) (c : Cont)
 | box (ty : Nat) (l : List RC)
 | rrow (c : Cont)
inductive RR where
 | c (x : RC)
 | s (l : List RC)
 | b (k : FloatKind) (e : Nat) (r : List Nat)
inductive GT where
 | leaf (ob : Prop) (rs : List RR)
 | br (b : Bool) (x y : GT)
def GT.sel : GT → Prop × List RR
 | .leaf ob rs => (ob, rs)
 | .br b x y => match b with
  | true => x.sel
  | false => y.sel
structure Rt where
 cs : List C
 hp : Hp
 n : Nat
def rvL (f : RC → Nat → Rt) : List RC → Nat → Rt
 | [], n => ⟨[], [], n⟩
 | r :: l, n =>
  let a := f r n
  let b := rvL f l a.n
  ⟨a.cs ++ b.cs, b.hp ++ a.hp, b.n⟩
def rvC (am : List C) : Nat → RC → Nat → Rt
 | 0, _, n => ⟨[.d (.v undef)], [], n⟩
 | m + 1, r, n =>
  match r with
  | .d x => ⟨[.d x], [], n⟩
  | .g i => ⟨[am.getD i (.d (.v undef))], [], n⟩
  | .row ty c => ⟨[.o n], [(n, .row ty c)], n + 1⟩
  | .rrow c => ⟨[.o n], [(n, .rrow c)], n + 1⟩
  | .box ty l =>
   let b := rvL (rvC am m) l n
   ⟨[.p b.n 0 1 0], (b.n, .box ty b.cs) :: b.hp, b.n + 1⟩
structure Rw where
 ws : List W
 hp : Hp
 n : Nat
def rvR (am : List C) (r : RR) (n : Nat) : Rw :=
 match r with
 | .c x => let b := rvC am 8 x n; ⟨[.c (jge b.cs)], b.hp, b.n⟩
 | .s l => let b := rvL (rvC am 8) l n; ⟨[.a b.cs], b.hp, b.n⟩
 | .b k e r => ⟨[.b k e r], [], n⟩
def jcu (am : List C) : List RR → Nat → Rw
 | [], n => ⟨[], [], n⟩
 | r :: l, n =>
  let a := rvR am r n
  let b := jcu am l a.n
  ⟨a.ws ++ b.ws, b.hp ++ a.hp, b.n⟩
def GT.toRT (am : List C) (hp : Hp) (nx : Nat) : GT → RT
 | .leaf ob rs => let b := jcu am rs nx; .leaf ⟨ob, jcO b.ws, b.hp ++ hp, b.n⟩
 | .br b x y => .br b (x.toRT am hp nx) (y.toRT am hp nx)
def jal (shs : List SV) (g : List Lf → Option GT) : Spec := fun vs hp nx =>
 match ji2 hp shs vs with
 | some (ls, am) => match g ls with
  | some t => some (t.toRT am hp nx)
  | none => none
 | none => none
def fitL (f : RC → C → List Nat → (List Nat → Prop) → Prop) : List RC → List C → List Nat → (List Nat → Prop) → Prop
 | [], [], us, k => k us
 | r :: l, c :: cs, us, k => f r c us fun us => fitL f l cs us k
 | _, _, _, _ => False
def jqD (n0 : Nat) (hp : Hp) : Nat → RC → C → List Nat → (List Nat → Prop) → Prop
 | 0, _, _, _, _ => False
 | m + 1, r, c, us, k =>
  match r, c with
  | .d x, .d y => mD x y ∧ k us
  | .g i, .o h => match Nat.beq i h, Nat.blt i n0 with
   | true, true => k us
   | _, _ => False
  | .row ty c, .o h => match us.contains h with
   | true => False
   | false => match find hp h with
    | some (.row ty' c') => match Nat.beq ty' ty with
     | true => jeu c c' ∧ k (h :: us)
     | false => False
    | _ => False
  | .row _ c, .d (.v (.slice none 0 0)) => Ob (c.n = 0) ∧ k us
  | .rrow c, .o h => match us.contains h with
   | true => False
   | false => match find hp h with
    | some (.rrow c') => jeu c c' ∧ k (h :: us)
    | _ => False
  | .rrow c, .d (.v (.slice none 0 0)) => Ob (c.n = 0) ∧ k us
  | .box ty l, .p h 0 _ 0 => match find hp h with
   | some (.box ty' cs) => match Nat.beq ty' ty with
    | true => fitL (jqD n0 hp m) l cs us fun us => match us.contains h with
     | true => False
     | false => k (h :: us)
    | false => False
   | _ => False
  | _, _ => False
def fitR (n0 : Nat) (hp : Hp) (r : RR) (w : W) (us : List Nat) (k : List Nat → Prop) : Prop :=
 match r, w with
 | .c x, .c c => jqD n0 hp 8 x c us k
 | .s l, .a cs => fitL (jqD n0 hp 8) l cs us k
 | .b q e r, .b q' e' r' => match jb9 q q', Nat.beq e e' with
  | true, true => Ob (r = r') ∧ k us
  | _, _ => False
 | _, _ => False
def jkd (n0 : Nat) (hp : Hp) : List RR → List W → List Nat → Prop
 | [], [], _ => True
 | r :: l, w :: ws, us => fitR n0 hp r w us fun us => jkd n0 hp l ws us
 | _, _, _ => False
def jnB (n0 : Nat) (rs : List RR) (v : V) (hp : Hp) : Prop := match v with
 | .w u => jkd n0 hp rs [u] []
 | .t [_] => False
 | .t l => jkd n0 hp rs l []
section
variable [Globs] {P : Program} {sp : jab} {ρ : Env} {B : Bd} {nx : Nat} {hp : Hp} {w w' : World}
theorem C.p_val {ρ : Env} {h i e j : Nat} : (C.p h i e j).val ρ = .pointer (some ⟨(base (ρ h)).block, (base (ρ h)).off + (i * e + j), none⟩) := rfl
structure BOK (ρ : Env) (w : World) (nx n : Nat) (ρ1 ρ2 : Env) (rest : List Lf) (cs x : List C) (b : Bt) : Prop where
 ls : b.ls = rest
 nn : b.n = n + x.length
 agree : jap n ρ1 ρ2
 val : b.cs.map (C.val ρ2) = cs.map (C.val ρ)
 lt : ∀ c ∈ b.cs, C.lt b.n c
 heap : ∀ h o, find b.hp h = some o → n ≤ h ∧ h < b.n ∧ o.lt b.n ∧ o.ok ρ2 (fun k => k < w.heap.size) w h ∧ ∀ v, o.blk v = none
 own : ∀ i, i < x.length → ρ2 (n + i) = (x.getD i (.d (.v undef))).val ρ
 xlt : ∀ y ∈ x, C.lt nx y
 hnd : ∀ c ∈ b.cs, (∃ m i e j, c = .p m i e j) → ρ2 (hOf c) = c.val ρ2 ∧ hOf c < b.n
theorem BOK.append {n : Nat} {ρ1 ρ2 ρ3 : Env} {r1 rest : List Lf} {c1 c2 x1 x2 : List C} {b1 b2 : Bt} (h1 : BOK ρ w nx n ρ1 ρ2 r1 c1 x1 b1) (h2 : BOK ρ w nx b1.n ρ2 ρ3 rest c2 x2 b2) :
  BOK ρ w nx n ρ1 ρ3 rest (c1 ++ c2) (x1 ++ x2) ⟨b1.cs ++ b2.cs, b2.hp ++ b1.hp, b2.n, b2.ls⟩ := by
 have hle : b1.n ≤ b2.n := by rw [h2.nn]; omega
 have hn1 : n ≤ b1.n := by rw [h1.nn]; omega
 refine ⟨h2.ls, ?_, h1.agree.trans h2.agree hn1, ?_, ?_, ?_, ?_, ?_, ?_⟩
 ·show b2.n = _
  rw [h2.nn, h1.nn, List.length_append]; omega
 ·simp only [List.map_append, h2.val]
  congr 1
  rw [← h1.val]
  exact List.map_congr_left fun c hc => C.val_agree h2.agree (h1.lt c hc)
 ·intro c hc
  rcases List.mem_append.1 hc with hc | hc
  ·exact C.lt_mono hle (h1.lt c hc)
  ·exact h2.lt c hc
 ·intro h o hf
  have hf : find (b2.hp ++ b1.hp) h = some o := hf
  rw [jaI] at hf
  cases hg : find b2.hp h with
  | some o2 =>
   rw [hg] at hf
   cases hf
   obtain ⟨a1, a2, a3, a4, a5⟩ := h2.heap h o hg
   exact ⟨Nat.le_trans hn1 a1, a2, a3, a4, a5⟩
  | none =>
   rw [hg] at hf
   obtain ⟨a1, a2, a3, a4, a5⟩ := h1.heap h o hf
   exact ⟨a1, Nat.lt_of_lt_of_le a2 hle, O.lt_mono hle a3, O.ok_agree h2.agree a2 a3 a4, a5⟩
 ·intro i hi
  by_cases hlt : i < x1.length
  ·rw [h2.agree (n + i) (by rw [h1.nn]; omega), h1.own i hlt]
   simp [List.getD, List.getElem?_append_left hlt]
  ·have e1 : n + i = b1.n + (i - x1.length) := by rw [h1.nn]; omega
   rw [e1, h2.own (i - x1.length) (by simp at hi; omega)]
   simp [List.getD, List.getElem?_append_right (Nat.le_of_not_lt hlt)]
 ·intro y hy
  rcases List.mem_append.1 hy with hy | hy
  ·exact h1.xlt y hy
  ·exact h2.xlt y hy
 ·intro c hc hp
  rcases List.mem_append.1 hc with hc | hc
  ·obtain ⟨a1, a2⟩ := h1.hnd c hc hp
   exact ⟨by rw [h2.agree _ a2, a1]; exact (C.val_agree h2.agree (h1.lt c hc)).symm, Nat.lt_of_lt_of_le a2 hle⟩
  ·exact h2.hnd c hc hp
theorem BOK.nil {n : Nat} {ρ1 : Env} {rest : List Lf} : BOK ρ w nx n ρ1 ρ1 rest [] [] ⟨[], [], n, rest⟩ :=
 ⟨rfl, rfl, jap.refl _ _, rfl, (fun _ h => by cases h), (fun _ _ h => by cases h), (fun _ h => by cases h), (fun _ h => by cases h), fun _ h => by cases h⟩
def ToOK (ρ : Env) (w : World) (nx : Nat) (s : Sh) (c : C) (a : List Lf) (x : List C) (g : Sh → Nat → List Lf → Option Bt) : Prop :=
 ∀ (n : Nat) (ρ1 : Env) (rest : List Lf), ∃ b ρ2, g s n (a ++ rest) = some b ∧ BOK ρ w nx n ρ1 ρ2 rest [c] x b
theorem ji3 {f : Sh → C → Option (List Lf × List C)} {g : Sh → Nat → List Lf → Option Bt} (hf : ∀ s c a x, f s c = some (a, x) → C.lt nx c → ToOK ρ w nx s c a x g) :
  ∀ (l : List Sh) (cs : List C) (a : List Lf) (x : List C), jdL f l cs = some (a, x) → (∀ c ∈ cs, C.lt nx c) → ∀ (n : Nat) (ρ1 : Env) (rest : List Lf), ∃ b ρ2, jhJ g l n (a ++ rest) = some b ∧ BOK ρ w nx n ρ1 ρ2 rest cs x b
 | [], [], a, x, h, _, n, ρ1, rest => by
  simp only [jdL, Option.some.injEq, Prod.mk.injEq] at h
  obtain ⟨rfl, rfl⟩ := h
  exact ⟨_, ρ1, rfl, BOK.nil⟩
 | s :: l, c :: cs, a, x, h, hlt, n, ρ1, rest => by
  simp only [jdL] at h
  split at h
  ·rename_i a1 x1 a2 x2 h1 h2
   cases h
   obtain ⟨b1, ρ2, e1, k1⟩ := hf s c a1 x1 h1 (hlt c List.mem_cons_self) n ρ1 (a2 ++ rest)
   obtain ⟨b2, ρ3, e2, k2⟩ := ji3 hf l cs a2 x2 h2 (fun c hc => hlt c (List.mem_cons_of_mem _ hc)) b1.n ρ2 rest
   refine ⟨_, ρ3, ?_, k1.append k2⟩
   rw [List.append_assoc]
   simp only [jhJ, e1, k1.ls, e2]
  ·cases h
 | [], _ :: _, _, _, h, _, _, _, _ => by simp [jdL] at h
 | _ :: _, [], _, _, h, _, _, _, _ => by simp [jdL] at h
theorem joG {c : C} (h : nilC c = true) : c = .d (.v (.slice none 0 0)) := by
 unfold nilC at h
 split at h
 ·rfl
 ·cases h
theorem jip (hh : HRel ρ B hp nx w) (hB : Old B w) {h : Nat} {cs : List C} (hc : jfz hp h = some cs) :
  h < nx ∧ (∀ c ∈ cs, C.lt nx c) ∧ ∃ k o, ρ h = .pointer (some ⟨k, o, none⟩) ∧ k < w.heap.size ∧ ∀ j c, cs[j]? = some c → w.cell? ⟨k, o + j, none⟩ = some (c.val ρ) := by
 unfold jfz at hc
 split at hc
 ·rename_i ty cs' hf
  cases hc
  obtain ⟨h1, h2, g, h3, h4, h5⟩ := hh.ok h _ hf
  refine ⟨h1, h2, g, 0, h3, (Array.getElem?_eq_some_iff.1 h5).1, fun j c hj => ?_⟩
  rw [Nat.zero_add, cell_of_row w g _ _ ty (0, 0) h5]
  simp [hj]
 ·rename_i cs' hf
  cases hc
  obtain ⟨h1, h2, g, o, h3, h4, h5⟩ := hh.ok h _ hf
  exact ⟨h1, h2, g, o, h3, hB g h4, h5⟩
 ·cases hc
theorem BOK.one {n : Nat} {ρ1 : Env} {rest : List Lf} {c : C} {o : O} (hc : C.lt nx c) (hl : o.lt (n + 1)) (hb : ∀ v, o.blk v = none) (ho : o.ok (upd ρ1 n (c.val ρ)) (fun k => k < w.heap.size) w n) :
  BOK ρ w nx n ρ1 (upd ρ1 n (c.val ρ)) rest [c] [c] ⟨[.o n], [(n, o)], n + 1, rest⟩ := by
 refine ⟨rfl, rfl, jaC _ _ _, by simp [C.val], ?_, ?_, ?_, ?_, ?_⟩
 ·intro c' hc'
  simp only [List.mem_singleton] at hc'
  subst hc'
  exact Nat.lt_succ_self n
 ·intro h o' hf
  simp only [find] at hf
  split at hf
  ·rename_i e
   subst e
   cases hf
   exact ⟨Nat.le_refl _, Nat.lt_succ_self _, hl, ho, hb⟩
  ·cases hf
 ·intro i hi
  simp at hi
  subst hi
  simp
 ·intro y hy
  simp only [List.mem_singleton] at hy
  subst hy
  exact hc
 ·rintro c' hc' ⟨m, i, e, j, rfl⟩
  simp at hc'
theorem jun {m : Nat} : ∀ (l : List Sh) (n : Nat) (ls : List Lf) (b : Bt), l.all isP = true → jhJ (jd5 m) l n ls = some b → ∀ c ∈ b.cs, ∃ q i e j, c = C.p q i e j
 | [], n, ls, b, _, h => by simp only [jhJ, Option.some.injEq] at h; subst h; exact fun _ h => by cases h
 | s :: l, n, ls, b, hp, h => by
  simp only [List.all_cons, Bool.and_eq_true] at hp
  simp only [jhJ] at h
  split at h
  ·rename_i a ha
   split at h
   ·rename_i b2 hb2
    cases h
    intro c hc
    rcases List.mem_append.1 hc with hc | hc
    ·cases m with
     | zero => simp [jd5] at ha
     | succ m =>
      cases s with
      | p l2 =>
       simp only [jd5] at ha
       split at ha
       ·cases ha
        simp only [List.mem_singleton] at hc
        exact ⟨_, _, _, _, hc⟩
       ·cases ha
      | _ => simp [isP] at hp
    ·exact jun l _ _ b2 hp.2 hb2 c hc
   ·cases h
  ·cases h
theorem jli (hh : HRel ρ B hp nx w) (hB : Old B w) : ∀ (m : Nat) (s : Sh) (c : C) (a : List Lf) (x : List C), toC hp m s c = some (a, x) → C.lt nx c → ToOK ρ w nx s c a x (jd5 m)
 | 0, _, _, _, _, h, _ => by simp [toC] at h
 | m + 1, s, c, a, x, h, hc => by
  intro n ρ1 rest
  have ih := ji3 (f := toC hp m) (g := jd5 m) (fun s c a x h hc => jli hh hB m s c a x h hc)
  cases s with
  | d =>
   simp only [toC] at h
   split at h
   ·cases h
    refine ⟨_, ρ1, rfl, rfl, rfl, jap.refl _ _, rfl, ?_, (fun _ _ h => by cases h), (fun _ h => by cases h), (fun _ h => by cases h), ?_⟩
    ·intro c hc; simp only [List.mem_singleton] at hc; subst hc; trivial
    ·rintro c hc ⟨_, _, _, _, rfl⟩; simp at hc
   ·rename_i h0
    split at h
    ·rename_i k hf
     cases h
     have hok := (hh.ok h0 _ hf).2.2
     exact ⟨_, _, rfl, BOK.one hc trivial (fun _ => rfl) (by unfold O.ok; rw [upd_same]; exact hok)⟩
    ·cases h
   ·cases h
  | r c0 =>
   simp only [toC] at h
   split at h
   ·rename_i hn
    have hn := joG hn
    subst hn
    split at h
    ·rename_i e hn0 he
     cases h
     refine ⟨_, _, rfl, BOK.one (c := .d (.v (.slice none 0 0))) hc trivial (fun _ => rfl) ?_⟩
     refine ⟨⟨none, 0, by rw [upd_same, hn0]; rfl, ⟨by omega, fun _ => rfl⟩, fun hp => by omega⟩, fun a' n' cap hv => ?_⟩
     rw [upd_same] at hv
     cases hv
    ·cases h
   ·split at h
    ·rename_i h0 _
     split at h
     ·rename_i x hx
      split at h
      ·cases h
      ·rename_i e he
       cases h
       cases hf : find hp h0 with
       | none => simp [hf] at hx
       | some o =>
        simp only [hf, Option.bind_some] at hx
        have hrow := jbI (hh.ok h0 o hf).2.2 hx
        exact ⟨_, _, rfl, BOK.one hc trivial (fun _ => rfl) ⟨by rw [upd_same]; exact hrow, by rw [upd_same]; exact hrow.lt (by omega)⟩⟩
     ·cases h
    ·cases h
  | x x0 =>
   simp only [toC] at h
   split at h
   ·rename_i hn
    have hn := joG hn
    subst hn
    split at h
    ·rename_i hn0
     cases h
     refine ⟨_, _, rfl, BOK.one (c := .d (.v (.slice none 0 0))) hc trivial (fun _ => rfl) ?_⟩
     exact ⟨none, 0, by rw [upd_same, hn0]; rfl, ⟨by omega, fun _ => rfl⟩, fun hp => by omega⟩
    ·cases h
   ·split at h
    ·rename_i h0 _
     split at h
     ·rename_i X hf
      cases h
      have hok := (hh.ok h0 _ hf).2.2
      refine ⟨_, _, rfl, BOK.one hc trivial (fun _ => rfl) ?_⟩
      unfold O.ok
      rw [upd_same]
      exact jqd (fun k hk => hB k hk) hok
     ·cases h
    ·cases h
  | p l =>
   have key : ∀ (h0 : Nat) (cs : List C), jfz hp h0 = some cs → c.val ρ = ρ h0 → (jdL (toC hp m) l cs).map (fun (a, x) => (a, x ++ [c])) = some (a, x) →
     ∃ b ρ2, jd5 (m + 1) (.p l) n (a ++ rest) = some b ∧ BOK ρ w nx n ρ1 ρ2 rest [c] x b := by
    intro h0 cs hbc hcv ht
    obtain ⟨⟨a', x'⟩, ht', he⟩ := Option.map_eq_some_iff.1 ht
    cases he
    obtain ⟨hlt0, hcl, k, o, hk, hks, hcell⟩ := jip hh hB hbc
    obtain ⟨b, ρ2, e, q⟩ := ih l cs a x' ht' hcl n ρ1 rest
    have hag : jap b.n ρ2 (upd ρ2 b.n (c.val ρ)) := jaC _ _ _
    have hnb : n ≤ b.n := by rw [q.nn]; omega
    refine ⟨⟨[.p b.n 0 1 0], (b.n, .ebox b.cs) :: b.hp, b.n + 1, b.ls⟩, upd ρ2 b.n (c.val ρ), by simp only [jd5, e], q.ls, ?_, q.agree.trans hag hnb, ?_, ?_, ?_, ?_, ?_, ?_⟩
    ·show b.n + 1 = _
     rw [q.nn]; simp; omega
    ·simp only [List.map_cons, List.map_nil, C.p_val, upd_same]
     rw [hcv, hk]
     simp [base]
    ·intro c' hc'
     simp only [List.mem_singleton] at hc'
     subst hc'
     exact Nat.lt_succ_self _
    ·intro h' o' hf
     simp only [find] at hf
     split at hf
     ·rename_i e2
      subst e2
      cases hf
      refine ⟨hnb, Nat.lt_succ_self _, fun y hy => C.lt_mono (Nat.le_succ _) (q.lt y hy), ⟨k, o, by rw [upd_same, hcv]; exact hk, hks, fun j y hj => ?_⟩, fun _ => rfl⟩
      rw [C.val_agree hag (q.lt y (List.mem_of_getElem? hj))]
      have h1 : (b.cs.map (C.val ρ2))[j]? = some (y.val ρ2) := by rw [List.getElem?_map, hj]; rfl
      rw [q.val, List.getElem?_map] at h1
      obtain ⟨y', hy', he'⟩ := Option.map_eq_some_iff.1 h1
      rw [← he']
      exact hcell j y' hy'
     ·obtain ⟨a1, a2, a3, a4, a5⟩ := q.heap h' o' hf
      exact ⟨a1, Nat.lt_succ_of_lt a2, O.lt_mono (Nat.le_succ _) a3, O.ok_agree hag a2 a3 a4, a5⟩
    ·intro i hi
     by_cases hlt : i < x'.length
     ·rw [hag (n + i) (by rw [q.nn]; omega), q.own i hlt]
      simp [List.getD, List.getElem?_append_left hlt]
     ·have e3 : i = x'.length := by simp at hi; omega
      subst e3
      rw [← q.nn, upd_same]
      simp [List.getD]
    ·intro y hy
     rcases List.mem_append.1 hy with hy | hy
     ·exact q.xlt y hy
     ·simp only [List.mem_singleton] at hy
      subst hy
      exact hc
    ·intro c' hc' _
     simp only [List.mem_singleton] at hc'
     subst hc'
     refine ⟨?_, Nat.lt_succ_self _⟩
     simp only [hOf, C.p_val, upd_same]
     rw [hcv, hk]
     simp [base]
   simp only [toC] at h
   split at h
   ·rename_i h0 e0
    split at h
    ·rename_i cs hbc
     refine key h0 cs hbc ?_ h
     obtain ⟨_, _, k, o, hk, _⟩ := jip hh hB hbc
     simp [C.val, hk, base]
    ·cases h
   ·rename_i h0
    split at h
    ·rename_i cs hbc
     exact key h0 cs hbc rfl h
    ·cases h
   ·cases h
  | f g l =>
   simp only [toC] at h
   split at h
   ·rename_i g' hs
    split at h
    ·rename_i hg hip
     have hg := Nat.eq_of_beq_eq_true hg
     subst hg
     have hcl : ∀ y ∈ hs.map C.o, C.lt nx y := fun y hy => by
      obtain ⟨z, hz, rfl⟩ := List.mem_map.1 hy
      exact hc z hz
     obtain ⟨b, ρ2, e, q⟩ := ih l _ a x h hcl n ρ1 rest
     have hbp := jun l n (a ++ rest) b hip e
     refine ⟨⟨[.fn g (b.cs.map hOf)], b.hp, b.n, b.ls⟩, ρ2, by simp only [jd5, e], q.ls, q.nn, q.agree, ?_, ?_, q.heap, q.own, q.xlt, ?_⟩
     ·simp only [List.map_cons, List.map_nil, C.val]
      have : (b.cs.map hOf).map ρ2 = hs.map ρ := by
       have h1 := q.val
       rw [List.map_map] at h1 ⊢
       have h2 : b.cs.map (ρ2 ∘ hOf) = b.cs.map (C.val ρ2) := List.map_congr_left fun y hy => (q.hnd y hy (hbp y hy)).1
       rw [h2, h1]
       exact List.map_congr_left fun y hy => rfl
      rw [this]
     ·intro y hy
      simp only [List.mem_singleton] at hy
      subst hy
      intro z hz
      obtain ⟨y, hy, rfl⟩ := List.mem_map.1 hz
      exact (q.hnd y hy (hbp y hy)).2
     ·rintro y hy ⟨_, _, _, _, rfl⟩
      simp at hy
    ·cases h
   ·cases h
structure BVOK (ρ : Env) (w : World) (nx n : Nat) (ρ1 ρ2 : Env) (rest : List Lf) (vs : List V) (x : List C) (b : Bv) : Prop where
 ls : b.ls = rest
 nn : b.n = n + x.length
 agree : jap n ρ1 ρ2
 val : b.vs.map (V.val ρ2) = vs.map (V.val ρ)
 lt : ∀ c ∈ b.vs, V.lt b.n c
 heap : ∀ h o, find b.hp h = some o → n ≤ h ∧ h < b.n ∧ o.lt b.n ∧ o.ok ρ2 (fun k => k < w.heap.size) w h ∧ ∀ v, o.blk v = none
 own : ∀ i, i < x.length → ρ2 (n + i) = (x.getD i (.d (.v undef))).val ρ
 xlt : ∀ y ∈ x, C.lt nx y
theorem BVOK.append {n : Nat} {ρ1 ρ2 ρ3 : Env} {r1 rest : List Lf} {c1 c2 : List V} {x1 x2 : List C} {b1 b2 : Bv} (h1 : BVOK ρ w nx n ρ1 ρ2 r1 c1 x1 b1) (h2 : BVOK ρ w nx b1.n ρ2 ρ3 rest c2 x2 b2) :
  BVOK ρ w nx n ρ1 ρ3 rest (c1 ++ c2) (x1 ++ x2) ⟨b1.vs ++ b2.vs, b2.hp ++ b1.hp, b2.n, b2.ls⟩ := by
 have hle : b1.n ≤ b2.n := by rw [h2.nn]; omega
 have hn1 : n ≤ b1.n := by rw [h1.nn]; omega
 refine ⟨h2.ls, ?_, h1.agree.trans h2.agree hn1, ?_, ?_, ?_, ?_, ?_⟩
 ·show b2.n = _
  rw [h2.nn, h1.nn, List.length_append]; omega
 ·simp only [List.map_append, h2.val]
  congr 1
  rw [← h1.val]
  exact List.map_congr_left fun c hc => V.val_agree h2.agree (h1.lt c hc)
 ·intro c hc
  rcases List.mem_append.1 hc with hc | hc
  ·exact V.lt_mono hle (h1.lt c hc)
  ·exact h2.lt c hc
 ·intro h o hf
  have hf : find (b2.hp ++ b1.hp) h = some o := hf
  rw [jaI] at hf
  cases hg : find b2.hp h with
  | some o2 =>
   rw [hg] at hf
   cases hf
   obtain ⟨a1, a2, a3, a4, a5⟩ := h2.heap h o hg
   exact ⟨Nat.le_trans hn1 a1, a2, a3, a4, a5⟩
  | none =>
   rw [hg] at hf
   obtain ⟨a1, a2, a3, a4, a5⟩ := h1.heap h o hf
   exact ⟨a1, Nat.lt_of_lt_of_le a2 hle, O.lt_mono hle a3, O.ok_agree h2.agree a2 a3 a4, a5⟩
 ·intro i hi
  by_cases hlt : i < x1.length
  ·rw [h2.agree (n + i) (by rw [h1.nn]; omega), h1.own i hlt]
   simp [List.getD, List.getElem?_append_left hlt]
  ·have e1 : n + i = b1.n + (i - x1.length) := by rw [h1.nn]; omega
   rw [e1, h2.own (i - x1.length) (by simp at hi; omega)]
   simp [List.getD, List.getElem?_append_right (Nat.le_of_not_lt hlt)]
 ·intro y hy
  rcases List.mem_append.1 hy with hy | hy
  ·exact h1.xlt y hy
  ·exact h2.xlt y hy
theorem jvy (hh : HRel ρ B hp nx w) (hB : Old B w) {s : SV} {v : V} {a : List Lf} {x : List C} (h : toV hp s v = some (a, x)) (hv : V.lt nx v) (n : Nat) (ρ1 : Env) (rest : List Lf) :
  ∃ b ρ2, bldV s n (a ++ rest) = some b ∧ BVOK ρ w nx n ρ1 ρ2 rest [v] x b := by
 unfold toV at h
 split at h
 ·rename_i s c
  obtain ⟨b, ρ2, e, q⟩ := jli hh hB 8 s c a x h hv n ρ1 rest
  have hlen : b.cs.length = 1 := by have := congrArg List.length q.val; simpa using this
  obtain ⟨c', hc'⟩ : ∃ c', b.cs = [c'] := by
   match hb : b.cs, hlen with
   | [c'], _ => exact ⟨c', rfl⟩
  have hval := q.val
  have hlt := q.lt
  rw [hc'] at hval hlt
  refine ⟨⟨[.w (.c (jge b.cs))], b.hp, b.n, b.ls⟩, ρ2, by simp only [bldV, e, Option.map_some], q.ls, q.nn, q.agree, ?_, ?_, q.heap, q.own, q.xlt⟩
  ·simp only [hc', jge, List.map_cons, List.map_nil, V.val, W.val]
   simpa using hval
  ·intro y hy
   simp only [List.mem_singleton] at hy
   subst hy
   rw [hc']
   exact hlt c' List.mem_cons_self
 ·rename_i l cs
  obtain ⟨b, ρ2, e, q⟩ := ji3 (f := toC hp 8) (g := jd5 8) (fun s c a x h hc => jli hh hB 8 s c a x h hc) l cs a x h hv n ρ1 rest
  refine ⟨⟨[.w (.a b.cs)], b.hp, b.n, b.ls⟩, ρ2, by simp only [bldV, e, Option.map_some], q.ls, q.nn, q.agree, ?_, ?_, q.heap, q.own, q.xlt⟩
  ·simp only [List.map_cons, List.map_nil, V.val, W.val, q.val]
  ·intro y hy
   simp only [List.mem_singleton] at hy
   subst hy
   exact q.lt
 ·rename_i k e k' e' r
  split at h
  ·rename_i hk he
   have hk := jbw hk
   have he := Nat.eq_of_beq_eq_true he
   subst hk
   subst he
   cases h
   refine ⟨_, ρ1, rfl, rfl, rfl, jap.refl _ _, rfl, ?_, (fun _ _ h => by cases h), (fun _ h => by cases h), fun _ h => by cases h⟩
   intro y hy
   simp only [List.mem_singleton] at hy
   subst hy
   trivial
  ·cases h
 ·rename_i k e cs
  split at h
  ·rename_i r hr
   split at h
   ·rename_i he
    have he := Nat.eq_of_beq_eq_true he
    subst he
    cases h
    refine ⟨_, ρ1, rfl, rfl, rfl, jap.refl _ _, ?_, ?_, (fun _ _ h => by cases h), (fun _ h => by cases h), fun _ h => by cases h⟩
    ·simp only [List.map_cons, List.map_nil, V.val, W.val, jsp, jiT hr]
    ·intro y hy
     simp only [List.mem_singleton] at hy
     subst hy
     trivial
   ·cases h
  ·cases h
 ·cases h
theorem ji4 (hh : HRel ρ B hp nx w) (hB : Old B w) : ∀ (l : List SV) (vs : List V) (a : List Lf) (x : List C), ji2 hp l vs = some (a, x) → (∀ v ∈ vs, V.lt nx v) → ∀ (n : Nat) (ρ1 : Env) (rest : List Lf),
  ∃ b ρ2, jgf l n (a ++ rest) = some b ∧ BVOK ρ w nx n ρ1 ρ2 rest vs x b
 | [], [], a, x, h, _, n, ρ1, rest => by
  simp only [ji2, Option.some.injEq, Prod.mk.injEq] at h
  obtain ⟨rfl, rfl⟩ := h
  exact ⟨_, ρ1, rfl, rfl, rfl, jap.refl _ _, rfl, (fun _ h => by cases h), (fun _ _ h => by cases h), (fun _ h => by cases h), fun _ h => by cases h⟩
 | s :: l, v :: vs, a, x, h, hlt, n, ρ1, rest => by
  simp only [ji2] at h
  split at h
  ·rename_i a1 x1 a2 x2 h1 h2
   cases h
   obtain ⟨b1, ρ2, e1, k1⟩ := jvy hh hB h1 (hlt v List.mem_cons_self) n ρ1 (a2 ++ rest)
   obtain ⟨b2, ρ3, e2, k2⟩ := ji4 hh hB l vs a2 x2 h2 (fun c hc => hlt c (List.mem_cons_of_mem _ hc)) b1.n ρ2 rest
   refine ⟨_, ρ3, ?_, k1.append k2⟩
   rw [List.append_assoc]
   simp only [jgf, e1, k1.ls, e2]
  ·cases h
 | [], _ :: _, _, _, h, _, _, _, _ => by simp [ji2] at h
 | _ :: _, [], _, _, h, _, _, _, _ => by simp [ji2] at h
theorem ji5 {k h : Nat} {o : O} {hp : Hp} : find ((k, o) :: hp) h = if k = h then some o else find hp h := rfl
structure CIn (ρ ρ' : Env) (B : Bd) (hp hp' : Hp) (n m n0 : Nat) (am : List C) (w' : World) (us : List Nat) : Prop where
 heap : HRel ρ B hp n w'
 ap : ∀ k o b, find hp k = some o → o.blk (ρ k) = some b → b < m ∨ ∃ u ∈ us, ∃ ou, find hp' u = some ou ∧ ou.blk (ρ' u) = some b
 am : ∀ i, i < n0 → C.lt n (am.getD i (.d (.v undef))) ∧ (am.getD i (.d (.v undef))).val ρ = ρ' i
structure COut (ρ ρ2 ρ' : Env) (B : Bd) (hp hp' : Hp) (n m : Nat) (w' : World) (us us2 : List Nat) (vals : List Value) (r : Rt) : Prop where
 agree : jap n ρ ρ2
 heap : HRel ρ2 B (r.hp ++ hp) r.n w'
 le : n ≤ r.n
 val : r.cs.map (C.val ρ2) = vals
 lt : ∀ c ∈ r.cs, C.lt r.n c
 ap : ∀ k o b, find (r.hp ++ hp) k = some o → o.blk (ρ2 k) = some b → b < m ∨ ∃ u ∈ us2, ∃ ou, find hp' u = some ou ∧ ou.blk (ρ' u) = some b
 fresh : ∀ h o b, find r.hp h = some o → o.blk (ρ2 h) = some b → m ≤ b
 keys : ∀ h o, find r.hp h = some o → n ≤ h
 sub : ∀ u ∈ us, u ∈ us2
variable {ρ' : Env} {hp' : Hp} {m n0 : Nat} {am : List C}
theorem CIn.next {ρ2 : Env} {n : Nat} {us us2 : List Nat} {vals : List Value} {r : Rt} (h : CIn ρ ρ' B hp hp' n m n0 am w' us) (k : COut ρ ρ2 ρ' B hp hp' n m w' us us2 vals r) : CIn ρ2 ρ' B (r.hp ++ hp) hp' r.n m n0 am w' us2 :=
 ⟨k.heap, k.ap, fun i hi => ⟨C.lt_mono k.le (h.am i hi).1, by rw [C.val_agree k.agree (h.am i hi).1]; exact (h.am i hi).2⟩⟩
theorem COut.append {ρ2 ρ3 : Env} {n : Nat} {us us2 us3 : List Nat} {v1 v2 : List Value} {r1 r2 : Rt} (h : COut ρ ρ2 ρ' B hp hp' n m w' us us2 v1 r1) (k : COut ρ2 ρ3 ρ' B (r1.hp ++ hp) hp' r1.n m w' us2 us3 v2 r2) :
  COut ρ ρ3 ρ' B hp hp' n m w' us us3 (v1 ++ v2) ⟨r1.cs ++ r2.cs, r2.hp ++ r1.hp, r2.n⟩ := by
 refine ⟨h.agree.trans k.agree h.le, by rw [List.append_assoc]; exact k.heap, Nat.le_trans h.le k.le, ?_, ?_, ?_, ?_, ?_, fun u hu => k.sub u (h.sub u hu)⟩
 ·simp only [List.map_append, k.val]
  congr 1
  rw [← h.val]
  exact List.map_congr_left fun c hc => C.val_agree k.agree (h.lt c hc)
 ·intro c hc
  rcases List.mem_append.1 hc with hc | hc
  ·exact C.lt_mono k.le (h.lt c hc)
  ·exact k.lt c hc
 ·intro q o b hf hb
  have hf : find (r2.hp ++ r1.hp ++ hp) q = some o := hf
  rw [List.append_assoc] at hf
  exact k.ap q o b hf hb
 ·intro q o b hf hb
  have hf : find (r2.hp ++ r1.hp) q = some o := hf
  rw [jaI] at hf
  cases hg : find r2.hp q with
  | some o2 => rw [hg] at hf; cases hf; exact k.fresh q o b hg hb
  | none =>
   rw [hg] at hf
   have hf : find r1.hp q = some o := hf
   have hq : q < r1.n := by
    have : find (r1.hp ++ hp) q = some o := by rw [jaI, hf]; rfl
    exact (h.heap.ok q o this).1
   rw [k.agree q hq] at hb
   exact h.fresh q o b hf hb
 ·intro q o hf
  have hf : find (r2.hp ++ r1.hp) q = some o := hf
  rw [jaI] at hf
  cases hg : find r2.hp q with
  | some o2 => rw [hg] at hf; cases hf; exact Nat.le_trans h.le (k.keys q o hg)
  | none => rw [hg] at hf; exact h.keys q o hf
theorem COut.data {n : Nat} {us : List Nat} {c : C} {v : Value} (h : CIn ρ ρ' B hp hp' n m n0 am w' us) (hc : C.lt n c) (hv : c.val ρ = v) : COut ρ ρ ρ' B hp hp' n m w' us us [v] ⟨[c], [], n⟩ := by
 refine ⟨jap.refl _ _, h.heap, Nat.le_refl _, by simp [hv], ?_, h.ap, (fun _ _ _ h => by cases h), (fun _ _ h => by cases h), fun u hu => hu⟩
 intro y hy
 simp only [List.mem_singleton] at hy
 subst hy
 exact hc
theorem COut.obj {n q : Nat} {us : List Nat} {o oq : O} {c : C} {v : Value} (hB : ∀ k, B k → k < m) (hh' : HRel ρ' (fun k => k < m) hp' nx w') (h : CIn ρ ρ' B hp hp' n m n0 am w' us)
  (hq : find hp' q = some oq) (hus : us.contains q = false) (hl : o.lt (n + 1)) (ho : (∀ k, o.blk (ρ' q) = some k → ¬ B k) → o.ok (upd ρ n (ρ' q)) B w' n) (hb : ∀ k, o.blk (ρ' q) = some k → oq.blk (ρ' q) = some k)
  (hc : C.lt (n + 1) c) (hcv : c.val (upd ρ n (ρ' q)) = v) : COut ρ (upd ρ n (ρ' q)) ρ' B hp hp' n m w' us (q :: us) [v] ⟨[c], [(n, o)], n + 1⟩ := by
 have hge : ∀ k, o.blk (ρ' q) = some k → m ≤ k := fun k hk => by
  have := (O.blk_lt (hh'.ok q oq hq).2.2 (hb k hk)).2
  omega
 have hnB : ∀ k, o.blk (ρ' q) = some k → ¬ B k := fun k hk hBk => by
  have := hge k hk
  have := hB k hBk
  omega
 refine ⟨jaC _ _ _, ?_, Nat.le_succ n, by simp [hcv], ?_, ?_, ?_, ?_, fun u hu => List.mem_cons_of_mem _ hu⟩
 ·refine h.heap.add1 hl (ho hnB) fun k o' b hk hbk he => ?_
  rcases h.ap k o' b hk hbk with hlt | ⟨u, hu, ou, hou, hbu⟩
  ·have := hge b he
   omega
  ·have hne : u ≠ q := fun e => by
    subst e
    have : us.contains u = true := by simpa using hu
    rw [this] at hus
    cases hus
   exact hh'.apart u ou q oq b hou hq hne hbu (hb b he)
 ·intro y hy
  simp only [List.mem_singleton] at hy
  subst hy
  exact hc
 ·intro k o' b hf hbk
  have hf2 : find ((n, o) :: hp) k = some o' := hf
  clear hf
  have hf := hf2
  clear hf2
  rw [ji5] at hf
  split at hf
  ·rename_i e
   subst e
   cases hf
   rw [upd_same] at hbk
   exact .inr ⟨q, List.mem_cons_self, oq, hq, hb b hbk⟩
  ·have hk := (h.heap.ok k o' hf).1
   rw [jaC ρ n (ρ' q) k hk] at hbk
   rcases h.ap k o' b hf hbk with hlt | ⟨u, hu, ou, hou, hbu⟩
   ·exact .inl hlt
   ·exact .inr ⟨u, List.mem_cons_of_mem _ hu, ou, hou, hbu⟩
 ·intro k o' b hf hbk
  simp only [find] at hf
  split at hf
  ·rename_i e
   subst e
   cases hf
   rw [upd_same] at hbk
   exact hge b hbk
  ·cases hf
 ·intro k o' hf
  simp only [find] at hf
  split at hf
  ·rename_i e; omega
  ·cases hf
def jxd (ρ' : Env) (B : Bd) (hp' : Hp) (m n0 : Nat) (am : List C) (w' : World) (f : RC → C → List Nat → (List Nat → Prop) → Prop) (g : RC → Nat → Rt) : Prop :=
 ∀ (r : RC) (c : C) (us : List Nat) (k : List Nat → Prop), f r c us k → ∀ (n : Nat) (hp : Hp) (ρ : Env), CIn ρ ρ' B hp hp' n m n0 am w' us →
  ∃ us2 ρ2, k us2 ∧ COut ρ ρ2 ρ' B hp hp' n m w' us us2 [c.val ρ'] (g r n)
theorem ji6 {f : RC → C → List Nat → (List Nat → Prop) → Prop} {g : RC → Nat → Rt} (hf : jxd ρ' B hp' m n0 am w' f g) : ∀ (l : List RC) (cs : List C) (us : List Nat) (k : List Nat → Prop), fitL f l cs us k → ∀ (n : Nat) (hp : Hp) (ρ : Env), CIn ρ ρ' B hp hp' n m n0 am w' us →
  ∃ us2 ρ2, k us2 ∧ COut ρ ρ2 ρ' B hp hp' n m w' us us2 (cs.map (C.val ρ')) (rvL g l n)
 | [], [], us, k, h, n, hp, ρ, hin => ⟨us, ρ, h, jap.refl _ _, hin.heap, Nat.le_refl _, rfl, (fun _ h => by cases h), hin.ap, (fun _ _ _ h => by cases h), (fun _ _ h => by cases h), fun u hu => hu⟩
 | r :: l, c :: cs, us, k, h, n, hp, ρ, hin => by
  obtain ⟨us2, ρ2, h2, k2⟩ := hf r c us _ h n hp ρ hin
  obtain ⟨us3, ρ3, h3, k3⟩ := ji6 hf l cs us2 k h2 (g r n).n _ ρ2 (hin.next k2)
  exact ⟨us3, ρ3, h3, k2.append k3⟩
 | [], _ :: _, _, _, h, _, _, _, _ => h.elim
 | _ :: _, [], _, _, h, _, _, _, _ => h.elim
theorem ji7 (hB : ∀ k, B k → k < m) (hh' : HRel ρ' (fun k => k < m) hp' nx w') : ∀ (q : Nat), jxd ρ' B hp' m n0 am w' (jqD n0 hp' q) (rvC am q)
 | 0 => fun _ _ _ _ h => h.elim
 | q + 1 => by
  intro r c us k h n hp ρ hin
  unfold jqD at h
  split at h
  ·rename_i x y
   have e := jka h.1
   subst e
   exact ⟨us, ρ, h.2, COut.data hin trivial rfl⟩
  ·rename_i i h0
   split at h
   ·rename_i e1 e2
    have e1 := Nat.eq_of_beq_eq_true e1
    subst e1
    have hi : i < n0 := by simpa [Nat.blt_eq] using e2
    exact ⟨us, ρ, h, COut.data hin (hin.am i hi).1 (hin.am i hi).2⟩
   ·exact h.elim
  ·rename_i ty c0 h0
   split at h
   ·exact h.elim
   ·rename_i hus
    split at h
    ·rename_i ty' c' hf
     split at h
     ·rename_i hty
      have hty := Nat.eq_of_beq_eq_true hty
      subst hty
      have hc := jcz h.1
      subst hc
      refine ⟨_, _, h.2, COut.obj (q := h0) (o := .row ty' c0) hB hh' hin hf hus trivial (fun hnB => ?_) (fun k hk => hk) (show C.lt (n + 1) (.o n) from Nat.lt_succ_self n) (by simp [C.val])⟩
      have hok := (hh'.ok h0 _ hf).2.2
      exact ⟨by rw [upd_same]; exact hok.1, fun k hk => by rw [upd_same] at hk; exact hnB k hk⟩
     ·exact h.elim
    ·exact h.elim
  ·rename_i ty c0
   obtain ⟨⟨hn0⟩, hk⟩ := h
   refine ⟨us, upd ρ n (.slice none 0 0), hk, ?_⟩
   refine ⟨jaC _ _ _, ?_, Nat.le_succ n, by simp [C.val, D.val, rvC], ?_, ?_, ?_, ?_, fun u hu => hu⟩
   ·refine hin.heap.add1 (o := .row ty c0) trivial ?_ (fun _ _ _ _ _ he => by simp [O.blk, Value.ownBlock] at he)
    refine ⟨⟨by simp [Cont.flat_length, hn0], .inl ⟨by rw [upd_same], hn0⟩⟩, fun k hk => by rw [upd_same] at hk; simp [Value.ownBlock] at hk⟩
   ·intro y hy
    simp only [rvC, List.mem_singleton] at hy
    subst hy
    exact Nat.lt_succ_self n
   ·intro k' o' b hf hbk
    have hf2 : find ((n, O.row ty c0) :: hp) k' = some o' := hf
    clear hf
    have hf := hf2
    clear hf2
    rw [ji5] at hf
    split at hf
    ·rename_i e
     subst e
     cases hf
     rw [upd_same] at hbk
     simp [O.blk, Value.ownBlock] at hbk
    ·have hk' := (hin.heap.ok k' o' hf).1
     rw [jaC ρ n _ k' hk'] at hbk
     exact hin.ap k' o' b hf hbk
   ·intro k' o' b hf hbk
    simp only [rvC, find] at hf
    split at hf
    ·rename_i e
     subst e
     cases hf
     rw [upd_same] at hbk
     simp [O.blk, Value.ownBlock] at hbk
    ·cases hf
   ·intro k' o' hf
    simp only [rvC, find] at hf
    split at hf
    ·omega
    ·cases hf
  ·rename_i c0 h0
   split at h
   ·exact h.elim
   ·rename_i hus
    split at h
    ·rename_i c' hf
     have hc := jcz h.1
     subst hc
     refine ⟨_, _, h.2, COut.obj (q := h0) (o := .rrow c0) hB hh' hin hf hus trivial (fun hnB => ?_) (fun k hk => hk) (show C.lt (n + 1) (.o n) from Nat.lt_succ_self n) (by simp [C.val])⟩
     have hok := (hh'.ok h0 _ hf).2.2
     exact ⟨by rw [upd_same]; exact hok.1, fun k hk => by rw [upd_same] at hk; exact ⟨hnB k hk, (hok.2 k hk).2⟩⟩
    ·exact h.elim
  ·rename_i c0
   obtain ⟨⟨hn0⟩, hk⟩ := h
   refine ⟨us, upd ρ n (.slice none 0 0), hk, ?_⟩
   refine ⟨jaC _ _ _, ?_, Nat.le_succ n, by simp [C.val, D.val, rvC], ?_, ?_, ?_, ?_, fun u hu => hu⟩
   ·refine hin.heap.add1 (o := .rrow c0) trivial ?_ (fun _ _ _ _ _ he => by simp [O.blk, Value.ownBlock] at he)
    refine ⟨⟨none, 0, by rw [upd_same, hn0], ⟨by omega, fun _ => rfl⟩, fun h => by omega⟩, fun k hk => by rw [upd_same] at hk; simp [Value.ownBlock] at hk⟩
   ·intro y hy
    simp only [rvC, List.mem_singleton] at hy
    subst hy
    exact Nat.lt_succ_self n
   ·intro k' o' b hf hbk
    have hf2 : find ((n, O.rrow c0) :: hp) k' = some o' := hf
    clear hf
    have hf := hf2
    clear hf2
    rw [ji5] at hf
    split at hf
    ·rename_i e
     subst e
     cases hf
     rw [upd_same] at hbk
     simp [O.blk, Value.ownBlock] at hbk
    ·have hk' := (hin.heap.ok k' o' hf).1
     rw [jaC ρ n _ k' hk'] at hbk
     exact hin.ap k' o' b hf hbk
   ·intro k' o' b hf hbk
    simp only [rvC, find] at hf
    split at hf
    ·rename_i e
     subst e
     cases hf
     rw [upd_same] at hbk
     simp [O.blk, Value.ownBlock] at hbk
    ·cases hf
   ·intro k' o' hf
    simp only [rvC, find] at hf
    split at hf
    ·omega
    ·cases hf
  ·rename_i ty l h0 e0
   split at h
   ·rename_i ty' cs hf
    split at h
    ·rename_i hty
     have hty := Nat.eq_of_beq_eq_true hty
     subst hty
     obtain ⟨us2, ρ2, h2, k2⟩ := ji6 (ji7 hB hh' q) l cs us _ h n hp ρ hin
     have hin2 := hin.next k2
     split at h2
     ·exact h2.elim
     ·rename_i hus
      have hok := (hh'.ok h0 _ hf).2.2
      obtain ⟨g, h3, h4, h5⟩ := hok
      have hobj := COut.obj (q := h0) (o := .box ty' (rvL (rvC am q) l n).cs) (c := .p (rvL (rvC am q) l n).n 0 1 0) (v := ρ' h0) hB hh' hin2 hf hus (fun y hy => C.lt_mono (Nat.le_succ _) (k2.lt y hy)) (fun hnB => ?_) (fun k hk => hk)
       (show C.lt ((rvL (rvC am q) l n).n + 1) (.p (rvL (rvC am q) l n).n 0 1 0) from Nat.lt_succ_self _) (by simp [C.val, h3, base])
      ·refine ⟨h0 :: us2, upd ρ2 (rvL (rvC am q) l n).n (ρ' h0), h2, ?_⟩
       have hap := k2.append hobj
       refine ⟨hap.agree, hap.heap, hap.le, ?_, ?_, hap.ap, hap.fresh, hap.keys, hap.sub⟩
       ·have hv := hobj.val
        simp only [List.map_cons, List.map_nil] at hv
        simp only [rvC, List.map_cons, List.map_nil]
        rw [hv]
        simp [C.val, h3, base]
       ·intro y hy
        simp only [rvC, List.mem_singleton] at hy
        subst hy
        exact Nat.lt_succ_self _
      ·refine ⟨g, by rw [upd_same]; exact h3, ?_, ?_⟩
       ·exact hnB g (by simp [O.blk, h3, base])
       ·rw [h5]
        congr 3
        have hv := k2.val
        rw [← hv]
        exact List.map_congr_left fun y hy => (C.val_agree (jaC ρ2 _ _) (k2.lt y hy)).symm
    ·exact h.elim
   ·exact h.elim
  ·exact h.elim
structure WOut (ρ ρ2 ρ' : Env) (B : Bd) (hp hp' : Hp) (n m : Nat) (w' : World) (us us2 : List Nat) (vals : List Value) (r : Rw) : Prop where
 agree : jap n ρ ρ2
 heap : HRel ρ2 B (r.hp ++ hp) r.n w'
 le : n ≤ r.n
 val : r.ws.map (W.val ρ2) = vals
 lt : ∀ c ∈ r.ws, W.lt r.n c
 ap : ∀ k o b, find (r.hp ++ hp) k = some o → o.blk (ρ2 k) = some b → b < m ∨ ∃ u ∈ us2, ∃ ou, find hp' u = some ou ∧ ou.blk (ρ' u) = some b
 fresh : ∀ h o b, find r.hp h = some o → o.blk (ρ2 h) = some b → m ≤ b
 keys : ∀ h o, find r.hp h = some o → n ≤ h
theorem juo (hB : ∀ k, B k → k < m) (hh' : HRel ρ' (fun k => k < m) hp' nx w') {r : RR} {x : W} {us : List Nat} {k : List Nat → Prop} (h : fitR n0 hp' r x us k) {n : Nat} {hp : Hp} {ρ : Env} (hin : CIn ρ ρ' B hp hp' n m n0 am w' us) :
  ∃ us2 ρ2, k us2 ∧ WOut ρ ρ2 ρ' B hp hp' n m w' us us2 [x.val ρ'] (rvR am r n) := by
 unfold fitR at h
 split at h
 ·rename_i rc c
  obtain ⟨us2, ρ2, h2, k2⟩ := ji7 hB hh' 8 rc c us k h n hp ρ hin
  have hlen : (rvC am 8 rc n).cs.length = 1 := by have := congrArg List.length k2.val; simpa using this
  obtain ⟨c', hc'⟩ : ∃ c', (rvC am 8 rc n).cs = [c'] := by
   match hb : (rvC am 8 rc n).cs, hlen with
   | [c'], _ => exact ⟨c', rfl⟩
  have hval := k2.val
  have hlt := k2.lt
  rw [hc'] at hval hlt
  refine ⟨us2, ρ2, h2, k2.agree, k2.heap, k2.le, ?_, ?_, k2.ap, k2.fresh, k2.keys⟩
  ·simp only [rvR, hc', jge, List.map_cons, List.map_nil, W.val]
   simpa using hval
  ·intro y hy
   simp only [rvR, List.mem_singleton] at hy
   subst hy
   rw [hc']
   exact hlt c' List.mem_cons_self
 ·rename_i l cs
  obtain ⟨us2, ρ2, h2, k2⟩ := ji6 (ji7 hB hh' 8) l cs us k h n hp ρ hin
  refine ⟨us2, ρ2, h2, k2.agree, k2.heap, k2.le, ?_, ?_, k2.ap, k2.fresh, k2.keys⟩
  ·simp only [rvR, List.map_cons, List.map_nil, W.val, k2.val]
  ·intro y hy
   simp only [rvR, List.mem_singleton] at hy
   subst hy
   exact k2.lt
 ·rename_i q e r' q' e' r''
  split at h
  ·rename_i hk he
   have hk := jbw hk
   have he := Nat.eq_of_beq_eq_true he
   subst hk
   subst he
   obtain ⟨⟨rfl⟩, hk⟩ := h
   refine ⟨us, ρ, hk, jap.refl _ _, hin.heap, Nat.le_refl _, rfl, ?_, hin.ap, (fun _ _ _ h => by cases h), fun _ _ h => by cases h⟩
   intro y hy
   simp only [rvR, List.mem_singleton] at hy
   subst hy
   trivial
  ·exact h.elim
 ·exact h.elim
theorem jhK (hB : ∀ k, B k → k < m) (hh' : HRel ρ' (fun k => k < m) hp' nx w') : ∀ (l : List RR) (ws : List W) (us : List Nat), jkd n0 hp' l ws us → ∀ (n : Nat) (hp : Hp) (ρ : Env), CIn ρ ρ' B hp hp' n m n0 am w' us →
  ∃ us2 ρ2, WOut ρ ρ2 ρ' B hp hp' n m w' us us2 (ws.map (W.val ρ')) (jcu am l n)
 | [], [], us, h, n, hp, ρ, hin => ⟨us, ρ, jap.refl _ _, hin.heap, Nat.le_refl _, rfl, (fun _ h => by cases h), hin.ap, (fun _ _ _ h => by cases h), fun _ _ h => by cases h⟩
 | r :: l, x :: ws, us, h, n, hp, ρ, hin => by
  obtain ⟨us2, ρ2, h2, k2⟩ := juo hB hh' h hin
  have hin2 : CIn ρ2 ρ' B ((rvR am r n).hp ++ hp) hp' (rvR am r n).n m n0 am w' us2 := ⟨k2.heap, k2.ap, fun i hi => ⟨C.lt_mono k2.le (hin.am i hi).1, by rw [C.val_agree k2.agree (hin.am i hi).1]; exact (hin.am i hi).2⟩⟩
  obtain ⟨us3, ρ3, k3⟩ := jhK hB hh' l ws us2 h2 (rvR am r n).n _ ρ2 hin2
  refine ⟨us3, ρ3, k2.agree.trans k3.agree k2.le, by simp only [jcu]; rw [List.append_assoc]; exact k3.heap, Nat.le_trans k2.le k3.le, ?_, ?_, ?_, ?_, ?_⟩
  ·simp only [jcu, List.map_append, k3.val, List.map_cons]
   have : (rvR am r n).ws.map (W.val ρ3) = [x.val ρ'] := by
    rw [← k2.val]
    exact List.map_congr_left fun c hc => W.val_agree k3.agree (k2.lt c hc)
   rw [this]
   rfl
  ·intro c hc
   simp only [jcu] at hc
   rcases List.mem_append.1 hc with hc | hc
   ·exact W.lt_mono k3.le (k2.lt c hc)
   ·exact k3.lt c hc
  ·intro q o b hf hb
   simp only [jcu] at hf
   rw [List.append_assoc] at hf
   exact k3.ap q o b hf hb
  ·intro q o b hf hb
   simp only [jcu] at hf
   rw [jaI] at hf
   cases hg : find (jcu am l (rvR am r n).n).hp q with
   | some o2 => rw [hg] at hf; cases hf; exact k3.fresh q o b hg hb
   | none =>
    rw [hg] at hf
    have hf : find (rvR am r n).hp q = some o := hf
    have hq : q < (rvR am r n).n := by
     have : find ((rvR am r n).hp ++ hp) q = some o := by rw [jaI, hf]; rfl
     exact (k2.heap.ok q o this).1
    rw [k3.agree q hq] at hb
    exact k2.fresh q o b hf hb
  ·intro q o hf
   simp only [jcu] at hf
   rw [jaI] at hf
   cases hg : find (jcu am l (rvR am r n).n).hp q with
   | some o2 => rw [hg] at hf; cases hf; exact Nat.le_trans k2.le (k3.keys q o hg)
   | none => rw [hg] at hf; exact k2.keys q o hf
 | [], _ :: _, _, h, _, _, _, _ => h.elim
 | _ :: _, [], _, h, _, _, _, _ => h.elim
theorem jhL {am : List C} {hp : Hp} {nx : Nat} : ∀ t : GT, (t.toRT am hp nx).sel = ⟨t.sel.1, jcO (jcu am t.sel.2 nx).ws, (jcu am t.sel.2 nx).hp ++ hp, (jcu am t.sel.2 nx).n⟩
 | .leaf ob rs => rfl
 | .br b x y => by
  cases b
  ·exact jhL y
  ·exact jhL x
theorem jat {f : Nat} {fn : Func} {body : Code} {shs : List SV} {g : List Lf → Option GT} (hm : P.follows .mixedOrders = true) (hsp : jac P sp) (hf : P.funcs[f]? = some fn) (hb : fn.body = some body) (hn : (fn.name == "runtime.NumGoroutine") = false)
  (h : ∀ ls t, g ls = some t → t.sel.1 → ∀ b : Bv, jgf shs 0 ls = some b → b.vs.length ≤ fn.ntmps ∧ ∃ fuel loops, sx P sp fn.ntmps b.n fuel loops (jc6 P sp fn.ntmps) body 0 [] ⟨jcU 0 b.vs, b.hp, b.n⟩ (jgs P fn.results.toList fun v hp _ => jnB b.n t.sel.2 v hp)) :
  jag P f true (jal shs g) := by
 refine .inl ⟨jd4 hf hb hn, fun ρ B w args hp nx t hS hob hlt hh hB => ?_⟩
 unfold jal at hS
 split at hS
 ·rename_i ls am hto
  split at hS
  ·rename_i t' hg
   cases hS
   rw [jhL] at hob ⊢
   have hob : t'.sel.1 := hob
   obtain ⟨b, ρ0, hbl, q⟩ := ji4 hh hB shs args ls am hto hlt 0 (fun _ => undef) []
   rw [List.append_nil] at hbl
   obtain ⟨hlen, fuel, loops, hx⟩ := h ls t' hg hob b hbl
   have hbn : b.n = am.length := by have := q.nn; omega
   have hh0 : HRel ρ0 (fun k => k < w.heap.size) b.hp b.n w := by
    refine ⟨fun x o hf => ?_, fun x o x' o' k hf hf' _ hb => ?_, jhI hh.glob hB⟩
    ·obtain ⟨_, a2, a3, a4, _⟩ := q.heap x o hf
     exact ⟨a2, a3, a4⟩
    ·obtain ⟨_, _, _, _, a5⟩ := q.heap x o hf
     rw [a5] at hb
     cases hb
   have hcalls := jqx (n0 := b.n) (B := fun k => k < w.heap.size) hsp (fun ρ w => jhF hm hsp) hf hb hlen hx q.lt (Nat.le_refl _) ρ0 w hh0 (fun k hk => hk)
   rw [q.val] at hcalls
   refine hcalls.mono ?_
   rintro e w' ⟨ρ', v, hp', nx', rfl, hvlt, hag, hh', hbel, _, hfit⟩
   have hbw : Below w.heap.size w w' := hbel.below
   have hh1 := hh.below hbw hB
   obtain ⟨ws, hws, hfw⟩ : ∃ ws, (jcO ws).val ρ' = v.val ρ' ∧ jkd b.n hp' t'.sel.2 ws [] := by
    match v, hfit with
    | .w u, hfit => exact ⟨[u], rfl, hfit⟩
    | .t [], hfit => exact ⟨[], rfl, hfit⟩
    | .t (x :: y :: l), hfit => exact ⟨x :: y :: l, rfl, hfit⟩
   have hin : CIn ρ ρ' B hp hp' nx w.heap.size b.n am w' [] := by
    refine ⟨hh1, fun k o b hk hbk => .inl (O.blk_lt (hh.ok k o hk).2.2 hbk).1, fun i hi => ?_⟩
    have hi2 : i < am.length := by omega
    have h1 := q.own i hi2
    rw [Nat.zero_add] at h1
    refine ⟨?_, by rw [hag i hi]; exact h1.symm⟩
    have : am.getD i (.d (.v undef)) = am[i] := by simp [List.getD, hi2]
    rw [this]
    exact q.xlt _ (List.getElem_mem hi2)
   obtain ⟨us2, ρ2, k⟩ := jhK (m := w.heap.size) (fun k hk => hB k hk) hh' t'.sel.2 ws [] hfw nx hp ρ hin
   refine ⟨ρ2, ?_, k.agree, jgX k.lt, k.le, k.heap, jcD hbw hB, fun _ => hbw, fun _ h o b hle hf hbk => ?_⟩
   ·show Ending.returned _ = Ending.returned ((jcO (jcu am t'.sel.2 nx).ws).val ρ2)
    rw [← hws, jcV, jcV]
    simp only [k.val]
   ·have hf : find ((jcu am t'.sel.2 nx).hp ++ hp) h = some o := hf
    rw [jaI] at hf
    cases hg2 : find (jcu am t'.sel.2 nx).hp h with
    | some o2 => rw [hg2] at hf; cases hf; exact k.fresh h o b hg2 hbk
    | none =>
     rw [hg2] at hf
     have := (hh.ok h o hf).1
     omega
  ·cases hS
 ·cases hS
end
end Go.Sx
end

section
open Go.RowKit
namespace Go.Sx
def jte (k : FloatKind) (u : IntKind) : Spec := fun vs hp nx => match vs with
 | [.w (.c (.d (.f k' b)))] => match jb9 k' k with
  | true => some (.leaf ⟨True, vi u (b : Int), hp, nx⟩)
  | false => none
 | _ => none
theorem jxB [Globs] {P : Program} {f : Nat} {fn : Func} {k : FloatKind} {u : IntKind} {M : Bool} {g : Array Value → Sem Value} (hf : P.funcs[f]? = some fn) (hb : fn.body = none) (hn : (fn.name == "runtime.NumGoroutine") = false)
  (h1 : Extern.findNext fn = none) (h2 : Extern.find fn = some g) (hg : ∀ b, g #[.float k b] = pure (.int u b)) : jag P f M (jte k u) := by
 refine .inr fun ρ B w args hp nx t hS hob hlt hh hB => ?_
 unfold jte at hS
 split at hS
 ·rename_i k' b
  split at hS
  ·rename_i hk
   have hk := jbw hk
   subst hk
   cases hS
   refine ⟨_, _, rfl, trivial, ?_⟩
   have e1 : (List.map (V.val ρ) [V.w (.c (.d (.f k' b)))]).toArray = #[.float k' b] := rfl
   rw [e1]
   unfold callFunc
   simp only [Sem.run_bind, run_program, Result.andThen_ok, hf, hn, Bool.false_eq_true, if_false, hb, Option.isNone_none, if_true, run_mark, h1, h2, hg]
   rfl
  ·cases hS
 ·cases hS
end Go.Sx
end

section
namespace Go.Sx
def jae {X Y : Type} (body : X → Option (X ⊕ Y)) : Nat → X → Option Y
 | 0, _ => none
 | n + 1, x => match body x with
  | none => none
  | some (.inl x') => jae body n x'
  | some (.inr y) => some y
def big : Nat := 18446744073709551616
def jtf {X Y R : Type} (body : X → Option (X ⊕ Y)) (n : Nat) (K : Y → Option R) : X ⊕ Y → Option R
 | .inl x => (jae body n x).bind K
 | .inr y => K y
def ok {α : Type} (o : Option α) : Prop := o.isSome = true
instance {α : Type} (o : Option α) : Decidable (ok o) := inferInstanceAs (Decidable (o.isSome = true))
def val {α : Type} [Inhabited α] (o : Option α) : α := o.getD default
theorem jai {α : Type} [Inhabited α] {o : Option α} (h : ok o) : o.bind some = some (val o) := by
 cases o with
 | none => cases h
 | some x => rfl
theorem ok_of {α : Type} {o : Option α} {x : α} (h : o = some x) : ok o := by subst h; rfl
theorem jx3 {α : Type} [Inhabited α] {o : Option α} {x : α} (h : o = some x) : val o = x := by subst h; rfl
variable {X Y R S A : Type} {g : S → Option R} {r : R} {p q : Prop}
theorem jaN {c : Prop} [Decidable c] {x y : Option S} (h : (if c then x else y).bind g = some r) (hx : x.bind g = some r → p) (hy : y.bind g = some r → q) : Br (decide c) p q := by
 by_cases hc : c
 ·rw [if_pos hc] at h; rw [decide_eq_true hc]; exact hx h
 ·rw [if_neg hc] at h; rw [decide_eq_false hc]; exact hy h
theorem jaW {b : Bool} {x y : Option S} (h : (if b = true then x else y).bind g = some r) (hx : x.bind g = some r → p) (hy : y.bind g = some r → q) : Br b p q := by
 cases b
 ·exact hy h
 ·exact hx h
theorem jao {c : Prop} [Decidable c] {x : Option S} (h : (if c then x else none).bind g = some r) (hx : x.bind g = some r → p) : Ob c ∧ p := by
 by_cases hc : c
 ·rw [if_pos hc] at h; exact ⟨⟨hc⟩, hx h⟩
 ·rw [if_neg hc] at h; cases h
theorem jad (h : p) : Ob True ∧ p := ⟨⟨trivial⟩, h⟩
theorem jfA {p q : Prop} (hp : p) (h : q) : Ob p ∧ q := ⟨⟨hp⟩, h⟩
theorem jau [Inhabited A] {e : Option A} {f : A → Option S} (h : (e.bind f).bind g = some r) (hx : (f (val e)).bind g = some r → p) : Ob (ok e) ∧ p := by
 cases e with
 | none => cases h
 | some a => exact ⟨⟨rfl⟩, hx h⟩
theorem jbd {body : X → Option (X ⊕ Y)} {n : Nat} {x : X} {rest : Y → Option S} (h : ((jae body n x).bind rest).bind g = some r) : (jae body n x).bind (fun y => (rest y).bind g) = some r := by
 rw [← h]
 cases jae body n x <;> rfl
theorem jaT {body : X → Option (X ⊕ Y)} {n : Nat} {x : X} {K : Y → Option R} (h : (jae body n x).bind K = some r) : ∃ m, n = m + 1 ∧ (body x).bind (jtf body m K) = some r := by
 cases n with
 | zero => cases h
 | succ m =>
  refine ⟨m, rfl, ?_⟩
  rw [← h]
  unfold jae
  cases body x with
  | none => rfl
  | some z => cases z <;> rfl
theorem jaL {body : X → Option (X ⊕ Y)} {n : Nat} {x : X} {K : Y → Option R} (h : (some (Sum.inl x)).bind (jtf body n K) = some r) : (jae body n x).bind K = some r := h
theorem jaA {body : X → Option (X ⊕ Y)} {n : Nat} {y : Y} {K : Y → Option R} (h : (some (Sum.inr y)).bind (jtf body n K) = some r) : K y = some r := h
theorem jam {a : R} {P : Prop} (h : (some a).bind some = some r) (hp : a = r → P) : P := hp (Option.some.inj h)
theorem jaZ {n m : Nat} (h : n + 1 = m) : n < m := by omega
end Go.Sx
end

section
namespace Go.Sx
theorem jas {x : Int} (h : -9223372036854775808 ≤ x ∧ x ≤ 9223372036854775807) : IntKind.i64.wrap x = x := IntWalk.i64_in _ (by omega)
theorem jqE {X Y : Type} {body : X → Option (X ⊕ Y)} (f : Nat → X) {y : Y} : ∀ (k : Nat) (s : Nat) (N : Nat), (∀ i, s ≤ i → i < s + k → body (f i) = some (.inl (f (i + 1)))) → body (f (s + k)) = some (.inr y) → k < N → jae body N (f s) = some y
 | 0, s, 0, _, _, h => absurd h (by omega)
 | 0, s, N + 1, _, hy, _ => by
  unfold jae
  rw [Nat.add_zero] at hy
  rw [hy]
 | k + 1, s, 0, _, _, h => absurd h (by omega)
 | k + 1, s, N + 1, h, hy, hN => by
  unfold jae
  rw [h s (Nat.le_refl _) (by omega)]
  exact jqE f k (s + 1) N (fun i h1 h2 => h i (by omega) (by omega)) (by rw [show s + 1 + k = s + (k + 1) by omega]; exact hy) (by omega)
theorem jbA {X Y : Type} {body : X → Option (X ⊕ Y)} (f : Nat → X) {y : Y} {k : Nat} (h : ∀ i, i < k → body (f i) = some (.inl (f (i + 1)))) (hy : body (f k) = some (.inr y)) (hk : k < 18446744073709551616) : jae body big (f 0) = some y :=
 jqE f k 0 big (fun i _ h2 => h i (by omega)) (by rw [Nat.zero_add]; exact hy) hk
theorem jdM {α Y : Type} (l : List α) (d : α) (P : α → Bool) {body : Int → Option (Int ⊕ Y)} (hit : Nat → Y) (miss : Y) (hlen : l.length < 9223372036854775807)
  (h1 : ∀ i, i < l.length → P (l.getD i d) = true → body (i : Int) = some (.inr (hit i)))
  (h2 : ∀ i, i < l.length → P (l.getD i d) = false → body (i : Int) = some (.inl ((i : Int) + 1))) (h3 : body (l.length : Int) = some (.inr miss)) :
  jae body big 0 = some (match l.findIdx? P with | some i => hit i | none => miss) := by
 cases hf : l.findIdx? P with
 | none =>
  rw [List.findIdx?_eq_none_iff] at hf
  refine jbA (fun i => (i : Int)) (k := l.length) (fun i hi => ?_) h3 (by omega)
  have := h2 i hi (by simpa [List.getD, hi] using hf l[i] (List.getElem_mem _))
  rw [this]
  rfl
 | some k =>
  rw [List.findIdx?_eq_some_iff_getElem] at hf
  obtain ⟨hk, hp, hbef⟩ := hf
  refine jbA (fun i => (i : Int)) (k := k) (fun i hi => ?_) (h1 k hk (by simpa [List.getD, hk] using hp)) (by omega)
  have hil : i < l.length := by omega
  have := h2 i hil (by simpa [List.getD, hil] using hbef i hi)
  rw [this]
  rfl
def inI (n : Int) : Prop := -9223372036854775808 ≤ n ∧ n ≤ 9223372036854775807
def inJ (n : Int) : Prop := -9223372036854775807 ≤ n ∧ n ≤ 9223372036854775807
theorem jaa {α β : Type} (x : α) (f : α → Option β) : (some x).bind f = f x := rfl
end Go.Sx
end

section
namespace Go.Sx
open Ieee Go.Fl
def mg (K : Nat) (m : Nat) (e : Int) : Nat := m * 2 ^ (e + K).toNat
def sg (s : Bool) (a : Nat) : Int := if s then -(a : Int) else (a : Int)
theorem ji8 (s : Bool) (m k : Nat) : signed s m k = sg s (m * 2 ^ k) := by
 unfold signed sg
 rw [Nat.shiftLeft_eq]
theorem jg1 (s : Bool) (a b : Nat) : sg s (a * b) = sg s a * (b : Int) := by
 unfold sg
 cases s <;> simp [Int.neg_mul]
theorem jrT {a b : Int} {c : Nat} (hc : 0 < c) : compare (a * (c : Int)) (b * (c : Int)) = compare a b := by
 have hc' : (0 : Int) < (c : Int) := by omega
 rcases Int.lt_trichotomy a b with h | h | h
 ·have h1 : a * (c : Int) < b * (c : Int) := Int.mul_lt_mul_of_pos_right h hc'
  rw [Int.compare_eq_lt.2 h1, Int.compare_eq_lt.2 h]
 ·subst h; rw [Int.compare_eq_eq.2 rfl, Int.compare_eq_eq.2 rfl]
 ·have h1 : b * (c : Int) < a * (c : Int) := Int.mul_lt_mul_of_pos_right h hc'
  rw [Int.compare_eq_gt.2 h1, Int.compare_eq_gt.2 h]
theorem jck (K : Nat) {s t : Bool} {m n : Nat} {i j : Int} (hi : 0 ≤ i + K) (hj : 0 ≤ j + K) :
  Datum.order (.number s m i) (.number t n j) = some (compare (sg s (mg K m i)) (sg t (mg K n j))) := by
 simp only [Datum.order, ji8]
 have key : ∀ (x : Int) (m : Nat), min i j ≤ x → 0 ≤ x + K → mg K m x = m * 2 ^ (x - min i j).toNat * 2 ^ (min i j + K).toNat := by
  intro x m h1 h2
  unfold mg
  rw [Nat.mul_assoc, ← Nat.pow_add]
  congr 2
  omega
 rw [key i m (by omega) hi, key j n (by omega) hj, jg1 s (m * _), jg1 t (n * _), jrT (Nat.two_pow_pos _)]
theorem jvz {s : Bool} {m : Nat} {i : Int} : Datum.sum (.number s m i) (Datum.opposite (.number s m i)) = some (.number false 0 i) := by
 simp only [Datum.opposite, Datum.sum, Int.min_self, Int.sub_self, Int.toNat_zero, ji8]
 cases s <;> simp [sg] <;> omega
theorem jqF (s : Bool) (n drop : Nat) : Toward.cut .zero s n drop = n / 2 ^ drop := by
 have h1 : (n / (1 <<< min drop (n.log2 + 2))) = n / 2 ^ drop := by
  rw [Nat.shiftLeft_eq, Nat.one_mul]
  by_cases h : drop ≤ n.log2 + 2
  ·rw [Nat.min_eq_left h]
  ·rw [Nat.min_eq_right (by omega)]
   have h2 : n < 2 ^ (n.log2 + 1) := Nat.lt_log2_self
   have h3 : 2 ^ (n.log2 + 1) ≤ 2 ^ (n.log2 + 2) := Nat.pow_le_pow_right (by omega) (by omega)
   have h4 : 2 ^ (n.log2 + 2) ≤ 2 ^ drop := Nat.pow_le_pow_right (by omega) (by omega)
   rw [Nat.div_eq_of_lt (by omega), Nat.div_eq_of_lt (by omega)]
 simp [Toward.cut, h1]
theorem jvA (K : Nat) {s : Bool} {m : Nat} {i : Int} (hi : 0 ≤ i + K) : Datum.toInt .zero (.number s m i) = some (sg s (mg K m i / 2 ^ K)) := by
 simp only [Datum.toInt, Datum.integral, ji8, Nat.pow_zero, Nat.mul_one, jqF, Nat.shiftLeft_eq]
 congr 2
 unfold mg
 by_cases h : 0 ≤ i
 ·have e1 : (-i).toNat = 0 := by omega
  have e2 : (i + K).toNat = i.toNat + K := by omega
  rw [e1, e2, Nat.pow_add, Nat.pow_zero, Nat.div_one, ← Nat.mul_assoc, Nat.mul_div_cancel _ (Nat.two_pow_pos K)]
 ·have e1 : i.toNat = 0 := by omega
  have e2 : K = (i + K).toNat + (-i).toNat := by omega
  rw [e1, Nat.pow_zero, Nat.mul_one]
  conv => rhs; rhs; rw [e2, Nat.pow_add]
  rw [Nat.mul_comm m, Nat.mul_div_mul_left _ _ (Nat.two_pow_pos _)]
theorem jxC {s : Bool} {m : Nat} (hm0 : m ≠ 0) (hm : m < 16777216) :
  single.read (single.write (.number s m 0)) = .number s (m * 2 ^ (23 - m.log2)) ((m.log2 : Int) - 23) ∧ m.log2 ≤ 23 := by
 have hl : m.log2 ≤ 23 := by
  have := (Nat.log2_lt hm0 (k := 24)).2 (by omega)
  omega
 refine ⟨?_, hl⟩
 have hlo : 2 ^ m.log2 ≤ m := Nat.log2_self_le hm0
 have hhi : m < 2 ^ (m.log2 + 1) := Nat.lt_log2_self
 have hp : 2 ^ m.log2 * 2 ^ (23 - m.log2) = 8388608 := by rw [← Nat.pow_add, Nat.add_sub_cancel' hl]
 have h1 : 8388608 ≤ m * 2 ^ (23 - m.log2) := by rw [← hp]; exact Nat.mul_le_mul_right _ hlo
 have h2 : m * 2 ^ (23 - m.log2) < 16777216 := by
  have h3 : m * 2 ^ (23 - m.log2) < 2 ^ (m.log2 + 1) * 2 ^ (23 - m.log2) := Nat.mul_lt_mul_of_pos_right hhi (Nat.two_pow_pos _)
  have h4 : 2 ^ (m.log2 + 1) * 2 ^ (23 - m.log2) = 16777216 := by rw [Nat.pow_succ, Nat.mul_assoc, Nat.mul_comm 2, ← Nat.mul_assoc, hp]
  omega
 have e1 : single.signWeight = 2147483648 := rfl
 have e2 : single.binade = 8388608 := rfl
 have e3 : single.infRung = 2139095040 := rfl
 have e4 : single.leastPlace = -149 := rfl
 have e5 : single.fractionBits = 23 := rfl
 have hw : single.write (.number s m 0) = single.word s ((m.log2 + 126) * 8388608 + m * 2 ^ (23 - m.log2)) := by
  simp only [Format.write, Format.nearest, if_neg hm0, e2, e3, e4, e5]
  have hlast : max ((0 : Int) + (m.log2 : Int) - (23 : Nat)) (-149) = (m.log2 : Int) - 23 := by omega
  rw [hlast]
  have ha : ((0 : Int) - ((m.log2 : Int) - 23)).toNat = 23 - m.log2 := by omega
  have hb : (((m.log2 : Int) - 23) - 0).toNat = 0 := by omega
  rw [ha, hb, jql _ _ _ rfl, Nat.shiftLeft_eq]
  have hc : ((m.log2 : Int) - 23 - -149).toNat = m.log2 + 126 := by omega
  rw [hc, Nat.min_eq_left (by omega)]
 rw [hw]
 generalize m * 2 ^ (23 - m.log2) = k at *
 generalize m.log2 = q at *
 have hrd : ∀ r, 8388608 ≤ r → r < 2139095040 → single.read (single.word s r) = .number s (8388608 + r % 8388608) (-149 + (r / 8388608 - 1 : Nat)) := by
  intro r h1 h2
  unfold Format.read Format.word
  simp only [e1, e2, e3, e4]
  cases s
  ·simp only [Bool.false_eq_true, if_false]
   have ha : r % 2147483648 = r := Nat.mod_eq_of_lt (by omega)
   have hb : r / 2147483648 = 0 := Nat.div_eq_of_lt (by omega)
   rw [ha, hb, if_neg (by omega), if_pos h2]
   rfl
  ·simp only [if_true]
   have ha : (2147483648 + r) % 2147483648 = r := by omega
   have hb : (2147483648 + r) / 2147483648 = 1 := by omega
   rw [ha, hb, if_neg (by omega), if_pos h2]
   rfl
 rw [hrd _ (by omega) (by omega)]
 have ha : 8388608 + ((q + 126) * 8388608 + k) % 8388608 = k := by omega
 have hb : ((q + 126) * 8388608 + k) / 8388608 - 1 = q + 126 := by omega
 have hc : (-149 : Int) + ((q + 126 : Nat) : Int) = (q : Int) - 23 := by omega
 rw [ha, hb, hc]
theorem jx4 (K : Nat) (hK : 149 ≤ K) {n : Int} (hn : -16777216 < n ∧ n < 16777216) :
  ∃ m e, FloatKind.decode .f32 (FloatKind.nearest .f32 n) = .number (decide (n < 0)) m e ∧ mg K m e = n.natAbs * 2 ^ K ∧ -149 ≤ e := by
 unfold FloatKind.decode FloatKind.nearest FloatKind.encode FloatKind.format
 by_cases h0 : n.natAbs = 0
 ·rw [h0]
  have : n = 0 := by omega
  subst this
  exact ⟨0, -149, by rfl, by simp [mg], by omega⟩
 ·obtain ⟨h1, h2⟩ := jxC (s := decide (n < 0)) h0 (by omega)
  refine ⟨_, _, h1, ?_, by omega⟩
  unfold mg
  have e1 : ((n.natAbs.log2 : Int) - 23 + K).toNat = K - (23 - n.natAbs.log2) := by omega
  rw [e1, Nat.mul_assoc, ← Nat.pow_add]
  congr 2
  omega
theorem joH (n : Int) : sg (decide (n < 0)) n.natAbs = n := by
 unfold sg
 by_cases h : n < 0
 ·simp [h]; omega
 ·simp [h]; omega
end Go.Sx
end

section
namespace Go.Sx06
theorem jrU {n b : Int} (hb : 0 < b) : (0 ≤ n → 0 ≤ n.tdiv b ∧ n.tdiv b ≤ n) ∧ (n ≤ 0 → n ≤ n.tdiv b ∧ n.tdiv b ≤ 0) := by
 constructor
 ·intro hn
  rw [Int.tdiv_eq_ediv_of_nonneg hn]
  exact ⟨Int.ediv_nonneg hn (by omega), Int.ediv_le_self b hn⟩
 ·intro hn
  have h1 : n = -(-n) := by omega
  rw [h1, Int.neg_tdiv, Int.tdiv_eq_ediv_of_nonneg (by omega : 0 ≤ -n)]
  have h2 := Int.ediv_nonneg (by omega : 0 ≤ -n) (by omega : 0 ≤ b)
  have h3 := Int.ediv_le_self b (by omega : 0 ≤ -n)
  omega
theorem jkU {n b : Int} (hb : 0 < b) : -b < n.tmod b ∧ n.tmod b < b := by
 refine ⟨?_, Int.tmod_lt_of_pos n hb⟩
 have h := Int.tmod_lt_of_pos (-n) hb
 rw [Int.neg_tmod] at h
 omega
theorem jup {n b : Int} (hb : 0 < b) (h : n.tmod b < 0) : n.tdiv b - 1 = n / b := by
 have h1 := Int.tmod_add_mul_tdiv n b
 have h2 := jkU (n := n) hb
 have h3 : n / b = (n.tdiv b - 1) := by
  apply (Int.ediv_eq_iff_of_pos hb).2
  rw [Int.mul_comm] at h1
  constructor <;> rw [Int.sub_mul] <;> omega
 exact h3.symm
theorem juq {n b : Int} (hb : 0 < b) (h : ¬ n.tmod b < 0) : n.tdiv b = n / b := by
 have h1 := Int.tmod_add_mul_tdiv n b
 have h2 := jkU (n := n) hb
 have h3 : n / b = n.tdiv b := by
  apply (Int.ediv_eq_iff_of_pos hb).2
  rw [Int.mul_comm] at h1
  constructor <;> omega
 exact h3.symm
theorem jkV {n b : Int} (hb : 0 < b) : (0 ≤ n → 0 ≤ n / b ∧ n / b ≤ n) ∧ (n ≤ 0 → n ≤ n / b ∧ n / b ≤ 0) := by
 constructor
 ·intro hn
  exact ⟨Int.ediv_nonneg hn (by omega), Int.ediv_le_self b hn⟩
 ·intro hn
  have h1 : n * b ≤ n := by
   have h2 := Int.mul_le_mul_of_nonneg_right (show (1 : Int) ≤ b by omega) (show 0 ≤ -n by omega)
   rw [Int.one_mul, Int.mul_neg, Int.mul_comm] at h2
   omega
  refine ⟨Int.le_ediv_of_mul_le hb h1, ?_⟩
  have := Int.ediv_le_ediv hb hn
  simpa using this
end Go.Sx06
end

section
namespace Go.Sx
class TC (R : Type) where
 c : R → R → Prop
 refl : ∀ a, c a a
instance (priority := low) instTC {α : Type} : TC α := ⟨fun a r => Ob (a = r) ∧ True, fun _ => ⟨⟨rfl⟩, trivial⟩⟩
instance instTCProd {α β : Type} [i : TC β] : TC (α × β) := ⟨fun a r => Ob (a.1 = r.1) ∧ i.c a.2 r.2, fun a => ⟨⟨rfl⟩, i.refl a.2⟩⟩
inductive T (R : Type) : Type 1 where
 | brP (c : Prop) [d : Decidable c] (x y : T R)
 | brB (b : Bool) (x y : T R)
 | obP (c : Prop) [d : Decidable c] (x : T R)
 | obT (x : T R)
 | obC (c : Prop) (h : c) (x : T R)
 | call {A : Type} [i : Inhabited A] (e : Option A) (x : A → T R)
 | ret (a : R) (P : R → Prop) (h : P a)
 | rc [i : TC R] (a : R)
 | bad (Q : R → Prop)
def T.run {R : Type} : T R → Option R
 | @T.brP _ c d x y => @ite _ c d x.run y.run
 | .brB b x y => if b = true then x.run else y.run
 | @T.obP _ c d x => @ite _ c d x.run none
 | .obT x => x.run
 | .obC _ _ x => x.run
 | @T.call _ _ _ e x => Option.bind e fun a => (x a).run
 | .ret a _ _ => some a
 | @T.rc _ _ a => some a
 | .bad _ => none
def T.cond {R : Type} : T R → R → Prop
 | @T.brP _ c d x y, r => Br (@decide c d) (x.cond r) (y.cond r)
 | .brB b x y, r => Br b (x.cond r) (y.cond r)
 | @T.obP _ c _ x, r => Ob c ∧ x.cond r
 | .obT x, r => Ob True ∧ x.cond r
 | .obC c _ x, r => Ob c ∧ x.cond r
 | @T.call _ _ i e x, r => Ob (ok e) ∧ (x (@val _ i e)).cond r
 | .ret _ P _, r => P r
 | @T.rc _ i a, r => i.c a r
 | .bad Q, r => Q r
theorem T.sound {R : Type} : ∀ (t : T R) {r : R}, t.run = some r → t.cond r
 | @T.brP _ c d x y, r, h => by
  simp only [T.run] at h
  simp only [T.cond]
  by_cases hc : c
  ·rw [if_pos hc] at h; rw [decide_eq_true hc]; exact T.sound x h
  ·rw [if_neg hc] at h; rw [decide_eq_false hc]; exact T.sound y h
 | .brB b x y, r, h => by
  simp only [T.run] at h
  simp only [T.cond]
  cases b
  ·exact T.sound y h
  ·exact T.sound x h
 | @T.obP _ c d x, r, h => by
  simp only [T.run] at h
  by_cases hc : c
  ·rw [if_pos hc] at h; exact ⟨⟨hc⟩, T.sound x h⟩
  ·rw [if_neg hc] at h; cases h
 | .obT x, r, h => ⟨⟨trivial⟩, T.sound x h⟩
 | .obC c hc x, r, h => ⟨⟨hc⟩, T.sound x h⟩
 | @T.call _ _ i e x, r, h => by
  simp only [T.run] at h
  cases e with
  | none => cases h
  | some a => exact ⟨⟨rfl⟩, T.sound (x a) h⟩
 | .ret a P hP, r, h => by
  cases h
  exact hP
 | @T.rc _ i a, r, h => by
  cases h
  exact i.refl a
 | .bad _, r, h => by cases h
theorem T.vc {R : Type} {t : T R} {m : Option R} {r : R} {p : Prop} (hm : t.run = m) (hp : t.cond r = p) (h : Option.bind m some = some r) : p := by
 have h1 : m = some r := by cases m with
  | none => cases h
  | some a => exact h
 rw [← hp]
 exact T.sound t (hm.trans h1)
theorem rcs {R : Type} [i : TC R] {a r : R} (h : Option.bind (some a) some = some r) : i.c a r := by
 obtain rfl := Option.some.inj h
 exact i.refl a
end Go.Sx
end

section
namespace Go.Sx
def jay : List Int := [1, 10, 100, 1000, 10000, 100000, 1000000, 10000000, 100000000, 1000000000, 10000000000, 100000000000, 1000000000000]
def ja3 : List Int := [1000000000, 1258925411, 1584893192, 1995262314, 2511886431, 3162277660, 3981071705, 5011872336, 6309573444, 7943282347]
def jaY : List (List Int) := [[0, 2, 6], [1, 5, 3], [1, 7, 2]]
def jur : List Int := [0, 1, 2]
def jcl : List Int := [0, 0, 0, 1, 50, 10000]
def jus : List Int := [1, 10, 100, 1000, 10000, 100000, 1000000, 10000000, 100000000, 1000000000, 10000000000, 100000000000, 1000000000000, 10000000000000, 100000000000000, 1000000000000000, 10000000000000000, 100000000000000000, 1000000000000000000, 10000000000000000000]
def tabZ : Nat → Option Cont
 | 0 => some (.ints .i64 jur)
 | 1 => some (.recs 3 jaY)
 | 3 => some (.ints .u64 jay)
 | 4 => some (.ints .i64 jcl)
 | 7 => some (.ints .u64 ja3)
 | 11 => some (.ints .u64 jus)
 | _ => none
instance globs : Globs := { mv := true, tab := tabZ }
end Go.Sx
end

section
namespace Go.Sh
open Go Go.Proofs Go.RowKit Go.Sx
def jaj (f : Func) : Code := f.body.getD .skip
theorem mixed : Tryz.prog.follows .mixedOrders = true := by kernel_rfl
abbrev jbb (fn : Func) (sp : jab) (loops : jev) (as_ : List A) (rs : List RV) : Prop :=
 sx Tryz.prog sp fn.ntmps as_.length 40 loops (jc6 Tryz.prog sp fn.ntmps) (jaj fn) 0 [] ⟨jcU 0 (jew 0 as_), jhG 0 as_, as_.length⟩ (jgs Tryz.prog fn.results.toList fun v hp _ => jxc rs v hp)
abbrev runE (fn : Func) (sp : jab) (loops : jev) (c0 : C) (ob : O) (as_ : List A) (ob' : O) (rs : List RV) : Prop :=
 sx Tryz.prog sp fn.ntmps 1 40 loops (jc6 Tryz.prog sp fn.ntmps) (jaj fn) 0 [] ⟨jcU 0 (.w (.c c0) :: jew 1 as_), [(0, ob)], 1⟩ (jgs Tryz.prog fn.results.toList fun v hp _ => fitsE ob' rs v hp)
def jaO (shs : List SV) (ls : List Lf) : Bv := (jgf shs 0 ls).getD ⟨[], [], 0, []⟩
theorem jaB {shs : List SV} {ls : List Lf} {b : Bv} (h : jgf shs 0 ls = some b) : b = jaO shs ls := by
 unfold jaO
 rw [h]
 rfl
abbrev ja0 (fn : Func) (sp : jab) (loops : jev) (b : Bv) (rs : List RR) : Prop :=
 sx Tryz.prog sp fn.ntmps b.n 40 loops (jc6 Tryz.prog sp fn.ntmps) (jaj fn) 0 [] ⟨jcU 0 b.vs, b.hp, b.n⟩ (jgs Tryz.prog fn.results.toList fun v hp _ => jnB b.n rs v hp)
def sp0 : jab := fun _ => none
theorem jak : jac Tryz.prog sp0 := fun _ _ _ h => by cases h
def jav (f : Nat) (M : Bool) (S : Sx.Spec) (sp : jab) : jab := fun k => match Nat.beq k f with
 | true => some (M, S)
 | false => sp k
theorem jah {f : Nat} {M : Bool} {S : Sx.Spec} {sp : jab} (h : jag Tryz.prog f M S) (hs : jac Tryz.prog sp) : jac Tryz.prog (jav f M S sp) := by
 intro k M' S' hk
 unfold jav at hk
 split at hk
 ·rename_i e
  have := Nat.eq_of_beq_eq_true e
  subst this
  cases hk
  exact h
 ·exact hs k M' S' hk
def jbe : ByteArray := ⟨(([0, 1, 2, 2] ++ List.replicate 4 3 ++ List.replicate 8 4 ++ List.replicate 16 5 ++ List.replicate 32 6 ++ List.replicate 64 7 ++ List.replicate 128 8) : List UInt8).toArray⟩
end Go.Sh
end

section
namespace Go.Sh
open Go Go.Proofs Go.RowKit Go.Sx
open Go.IntKind (wrap)
theorem jpL : ((0 : Int) ≤ 32) := by decide
def jmv : List (Option Cont) := [none, none, none]
def y10 (n : Int) (lo : Int) (hi : Int) : Option Bool :=
 if lo ≤ n then
  some (decide (n ≤ hi))
 else
  some false
def jhM : List A → Option (Prop × List RV)
 | [.d (.i .i64 n), .d (.i .i64 lo), .d (.i .i64 hi)] => some (ok (y10 n lo hi), [.d (.b ((val (y10 n lo hi))))])
 | _ => none
abbrev sp_68 : jab → jab := jav 68 true (jar jmv jhM)
def jtg (n : Int) (lo : Int) (hi : Int) : T (Bool) :=
 .brP (lo ≤ n)
 (.obT
 (.ret ((decide (n ≤ hi))) (fun r => (Ob (decide (n ≤ hi) = r) ∧
 True)) ⟨⟨rfl⟩, trivial⟩))
 (.obT
 (.ret (false) (fun r => (Ob (false = r) ∧
 True)) ⟨⟨rfl⟩, trivial⟩))
theorem jrV (n : Int) (lo : Int) (hi : Int) (r : Bool) (h : Option.bind (y10 n lo hi) some = some r) : jbb Tryz.f68 (sp0) (fun _ _ _ => none) [.d (.i .i64 n), .d (.i .i64 lo), .d (.i .i64 hi)] [.d (.b r)] :=
 T.vc (t := jtg n lo hi) (by kernel_rfl) (by kernel_rfl) h
theorem jrW : jag Tryz.prog 68 true (jar jmv jhM) := by
 refine jaz (sp := sp0) (fn := Tryz.f68) (body := jaj Tryz.f68) mixed jak Tryz.func68 (by kernel_rfl) (by kernel_rfl) fun as_ ob rs h ho => ?_
 unfold jhM at h
 split at h
 ·rename_i n lo hi
  cases h
  exact ⟨Nat.le_of_ble_eq_true rfl, _, _, jrV n lo hi _ (jai ho)⟩
 ·cases h
theorem sp_68_ok {sp : jab} (h : jac Tryz.prog sp) : jac Tryz.prog (sp_68 sp) := jah jrW h
def jmw : List (Option Cont) := [none]
def jcW (n : Int) : Option Bool :=
 Option.bind (y10 n (8000 : Int) (192000 : Int)) fun r0 =>
 some r0
def jhN : List A → Option (Prop × List RV)
 | [.d (.i .i64 n)] => some (ok (jcW n), [.d (.b ((val (jcW n))))])
 | _ => none
abbrev sp_162 : jab → jab := jav 162 true (jar jmw jhN)
def jth (n : Int) : T (Bool) :=
 .call (y10 n (8000 : Int) (192000 : Int)) fun r0 =>
 .obT
 (.ret (r0) (fun r => (Ob (r0 = r) ∧
 True)) ⟨⟨rfl⟩, trivial⟩)
theorem jrX (n : Int) (r : Bool) (h : Option.bind (jcW n) some = some r) : jbb Tryz.f162 ((sp_68 sp0)) (fun _ _ _ => none) [.d (.i .i64 n)] [.d (.b r)] :=
 T.vc (t := jth n) (by kernel_rfl) (by kernel_rfl) h
theorem jrY : jag Tryz.prog 162 true (jar jmw jhN) := by
 refine jaz (sp := (sp_68 sp0)) (fn := Tryz.f162) (body := jaj Tryz.f162) mixed (sp_68_ok jak) Tryz.func162 (by kernel_rfl) (by kernel_rfl) fun as_ ob rs h ho => ?_
 unfold jhN at h
 split at h
 ·rename_i n
  cases h
  exact ⟨Nat.le_of_ble_eq_true rfl, _, _, jrX n _ (jai ho)⟩
 ·cases h
theorem sp_162_ok {sp : jab} (h : jac Tryz.prog sp) : jac Tryz.prog (sp_162 sp) := jah jrY h
def jmx : List (Option Cont) := [none, none]
def y11 (is : Bool) (e : Int) : Option Int :=
 if (is) = true then
  some (0 : Int)
 else
  some e
def jhO : List A → Option (Prop × List RV)
 | [.d (.b is), .d (.i .i64 e)] => some (ok (y11 is e), [.d (.i .i64 ((val (y11 is e))))])
 | _ => none
abbrev sp_85 : jab → jab := jav 85 true (jar jmx jhO)
def jti (is : Bool) (e : Int) : T (Int) :=
 .brB (is)
 (.obT
 (.ret ((0 : Int)) (fun r => (Ob ((0 : Int) = r) ∧
 True)) ⟨⟨rfl⟩, trivial⟩))
 (.obT
 (.ret (e) (fun r => (Ob (e = r) ∧
 True)) ⟨⟨rfl⟩, trivial⟩))
theorem jrZ (is : Bool) (e : Int) (r : Int) (h : Option.bind (y11 is e) some = some r) : jbb Tryz.f85 (sp0) (fun _ _ _ => none) [.d (.b is), .d (.i .i64 e)] [.d (.i .i64 r)] :=
 T.vc (t := jti is e) (by kernel_rfl) (by kernel_rfl) h
theorem jr0 : jag Tryz.prog 85 true (jar jmx jhO) := by
 refine jaz (sp := sp0) (fn := Tryz.f85) (body := jaj Tryz.f85) mixed jak Tryz.func85 (by kernel_rfl) (by kernel_rfl) fun as_ ob rs h ho => ?_
 unfold jhO at h
 split at h
 ·rename_i is e
  cases h
  exact ⟨Nat.le_of_ble_eq_true rfl, _, _, jrZ is e _ (jai ho)⟩
 ·cases h
theorem sp_85_ok {sp : jab} (h : jac Tryz.prog sp) : jac Tryz.prog (sp_85 sp) := jah jr0 h
def joI : List (Option Cont) := [some (.ints .i64 [])]
def jhP (l : List Int) (x0 : Int) : Option (Int ⊕ (Int ⊕ Unit)) :=
 if x0 < (↑(List.length l) : Int) then
  if 0 ≤ x0 ∧ x0 < (↑(List.length l) : Int) then
  if Int.toNat x0 < List.length l then
   if (List.getD l (Int.toNat x0) (0 : Int) != 0) = true then
   some (.inr ((.inl (List.getD l (Int.toNat x0) (0 : Int)))))
   else
   some (.inl (wrap .i64 (x0 + 1)))
  else none
  else none
 else
  some (.inr ((.inr ())))
def ji9 (u15 : Int) : Option Int :=
 some u15
def jqG (u27 : Unit) : Option Int :=
 some (0 : Int)
def jnC : (Int ⊕ Unit) → Option Int :=
 (Sum.elim (ji9) (jqG))
def y30 (l : List Int) : Option Int :=
 Option.bind (jae (jhP l) big (0 : Int)) (jnC)
def jja : List A → Option (Prop × List RV)
 | [.r (.ints .i64 l)] => some (ok (y30 l), [.d (.i .i64 ((val (y30 l))))])
 | _ => none
abbrev sp_76 : jab → jab := jav 76 true (jar joI jja)
theorem jtj (l : List Int) (r : Int) (h : Option.bind (y30 l) some = some r) : jbb Tryz.f76 (sp0) (fun gs id _ => match id with
 | 0 => some ⟨Int × Nat, fun z => ⟨[(5, .w (.c (.o 0))), (6, .w (.c (.d (.i .i64 ((↑(List.length l) : Int)))))), (7, .w (.c (.d (.i .i64 (Prod.fst z)))))], [(0, .ext (.ints .i64 l))], 1⟩, fun z => Option.bind (jae (jhP l) (Prod.snd z) (Prod.fst z)) (fun y0 => Option.bind (jnC y0) some) = some r, fun z => Prod.snd z⟩
 | _ => none) [.r (.ints .i64 l)] [.d (.i .i64 r)] := by
 refine Eq.mp (by kernel_rfl : (
 ((∃ (v0 : Int × Nat), (Ob ((Option.bind (jae (jhP l) v0.2 v0.1) fun y0 => Option.bind (jnC y0) some) = some r) ∧
 (Ob ((↑(List.length l) : Int) = (↑(List.length l) : Int)) ∧
 (Ob ((0 : Int) = v0.1) ∧
 (Ob (l = l) ∧
 True))))) ∧
  (∀ (v0 : Int × Nat), ((Option.bind (jae (jhP l) v0.2 v0.1) fun y0 => Option.bind (jnC y0) some) = some r →
 Br (decide (v0.1 < (↑(List.length l) : Int)))
  ((Ob (0 ≤ v0.1 ∧ v0.1 < (↑(List.length l) : Int)) ∧
 (Ob (Int.toNat v0.1 < List.length l) ∧
 Br (List.getD l (Int.toNat v0.1) (0 : Int) != 0)
  ((Ob True ∧
 (Ob (List.getD l (Int.toNat v0.1) (0 : Int) = r) ∧
 True)))
  ((∃ (v1 : Int × Nat), (Ob ((Option.bind (jae (jhP l) v1.2 v1.1) fun y0 => Option.bind (jnC y0) some) = some r) ∧
 (Ob (v1.2 < v0.2) ∧
 (Ob ((↑(List.length l) : Int) = (↑(List.length l) : Int)) ∧
 (Ob (wrap .i64 (v0.1 + 1) = v1.1) ∧
 (Ob (l = l) ∧
 True))))))))))
  ((Ob True ∧
 (Ob ((0 : Int) = r) ∧
 True))))))) = _) ?_
 refine ⟨⟨((0 : Int), big), ⟨jbd h⟩, (by repeat' constructor)⟩, fun z0 hz0 => ?_⟩
 obtain ⟨k0, hm0, h⟩ := jaT hz0
 refine jaN h (fun h => ?_) (fun h => ?_)
 ·refine jao h fun h => ?_
  refine jao h fun h => ?_
  refine jaW h (fun h => ?_) (fun h => ?_)
  ·have h := jaA h
   refine jad ?_
   exact rcs h
  ·exact ⟨(_, k0), ⟨jaL h⟩, ⟨jaZ hm0.symm⟩, (by repeat' constructor)⟩
 ·have h := jaA h
  refine jad ?_
  exact rcs h
theorem jtk : jag Tryz.prog 76 true (jar joI jja) := by
 refine jaz (sp := sp0) (fn := Tryz.f76) (body := jaj Tryz.f76) mixed jak Tryz.func76 (by kernel_rfl) (by kernel_rfl) fun as_ ob rs h ho => ?_
 unfold jja at h
 split at h
 ·rename_i l
  cases h
  exact ⟨Nat.le_of_ble_eq_true rfl, _, _, jtj l _ (jai ho)⟩
 ·cases h
theorem sp_76_ok {sp : jab} (h : jac Tryz.prog sp) : jac Tryz.prog (sp_76 sp) := jah jtk h
def jqH : List (Option Cont) := [none]
def ja1 (n : Int) : Option Int :=
 some (if wrap .i64 (0 - n) > n then wrap .i64 (0 - n) else n)
def jlj : List A → Option (Prop × List RV)
 | [.d (.i .i64 n)] => some (ok (ja1 n), [.d (.i .i64 ((val (ja1 n))))])
 | _ => none
abbrev sp_115 : jab → jab := jav 115 true (jar jqH jlj)
def jvC (n : Int) : T (Int) :=
 .obT
 (.ret ((if wrap .i64 (0 - n) > n then wrap .i64 (0 - n) else n)) (fun r => (Ob ((if wrap .i64 (0 - n) > n then wrap .i64 (0 - n) else n) = r) ∧
 True)) ⟨⟨rfl⟩, trivial⟩)
theorem jut (n : Int) (r : Int) (h : Option.bind (ja1 n) some = some r) : jbb Tryz.f115 (sp0) (fun _ _ _ => none) [.d (.i .i64 n)] [.d (.i .i64 r)] :=
 T.vc (t := jvC n) (by kernel_rfl) (by kernel_rfl) h
theorem juu : jag Tryz.prog 115 true (jar jqH jlj) := by
 refine jaz (sp := sp0) (fn := Tryz.f115) (body := jaj Tryz.f115) mixed jak Tryz.func115 (by kernel_rfl) (by kernel_rfl) fun as_ ob rs h ho => ?_
 unfold jlj at h
 split at h
 ·rename_i n
  cases h
  exact ⟨Nat.le_of_ble_eq_true rfl, _, _, jut n _ (jai ho)⟩
 ·cases h
theorem sp_115_ok {sp : jab} (h : jac Tryz.prog sp) : jac Tryz.prog (sp_115 sp) := jah juu h
def jiq : List (Option Cont) := [none]
def y99 (x_ : Nat) : Option Int :=
 if (Ieee.Format.order (FloatKind.format .f32) x_ x_ != some Ordering.eq) = true then
  some (27 : Int)
 else
  if (Option.isSome (Ieee.Format.sub (FloatKind.format .f32) x_ x_)) = true then
  if (Ieee.Format.order (FloatKind.format .f32) (Option.getD (Ieee.Format.sub (FloatKind.format .f32) x_ x_) (0 : Nat)) (0 : Nat) != some Ordering.eq) = true then
   some (27 : Int)
  else
   if (Ieee.Format.order (FloatKind.format .f32) x_ (1266679808 : Nat) == some Ordering.gt || Ieee.Format.order (FloatKind.format .f32) x_ (1266679808 : Nat) == some Ordering.eq) = true then
   some (2 : Int)
   else
   if (Ieee.Format.order (FloatKind.format .f32) x_ (3414163456 : Nat) == some Ordering.lt || Ieee.Format.order (FloatKind.format .f32) x_ (3414163456 : Nat) == some Ordering.eq) = true then
    some (2 : Int)
   else
    if jb7 .f32 .i64 x_ = true then
    if (Ieee.Format.order (FloatKind.format .f32) (FloatKind.nearest .f32 (f2i .f32 x_)) x_ != some Ordering.eq) = true then
     some (27 : Int)
    else
     if jb7 .f32 .i64 x_ = true then
     Option.bind (ja1 (f2i .f32 x_)) fun r0 =>
     Option.bind (y11 (decide (r0 ≤ 32767)) (2 : Int)) fun r1 =>
     some r1
     else none
    else none
  else
  some (27 : Int)
def jeM : List A → Option (Prop × List RV)
 | [.d (.f .f32 x_)] => some (ok (y99 x_), [.d (.i .i64 ((val (y99 x_))))])
 | _ => none
abbrev sp_163 : jab → jab := jav 163 true (jar jiq jeM)
def jpc (x_ : Nat) : T (Int) :=
 .brB (Ieee.Format.order (FloatKind.format .f32) x_ x_ != some Ordering.eq)
 (.obT
 (.ret ((27 : Int)) (fun r => (Ob ((27 : Int) = r) ∧
 True)) ⟨⟨rfl⟩, trivial⟩))
 (.brB (Option.isSome (Ieee.Format.sub (FloatKind.format .f32) x_ x_))
 (.obT
 (.brB (Ieee.Format.order (FloatKind.format .f32) (Option.getD (Ieee.Format.sub (FloatKind.format .f32) x_ x_) (0 : Nat)) (0 : Nat) != some Ordering.eq)
 (.obT
 (.ret ((27 : Int)) (fun r => (Ob ((27 : Int) = r) ∧
 True)) ⟨⟨rfl⟩, trivial⟩))
 (.brB (Ieee.Format.order (FloatKind.format .f32) x_ (1266679808 : Nat) == some Ordering.gt || Ieee.Format.order (FloatKind.format .f32) x_ (1266679808 : Nat) == some Ordering.eq)
 (.obT
 (.ret ((2 : Int)) (fun r => (Ob ((2 : Int) = r) ∧
 True)) ⟨⟨rfl⟩, trivial⟩))
 (.brB (Ieee.Format.order (FloatKind.format .f32) x_ (3414163456 : Nat) == some Ordering.lt || Ieee.Format.order (FloatKind.format .f32) x_ (3414163456 : Nat) == some Ordering.eq)
 (.obT
 (.ret ((2 : Int)) (fun r => (Ob ((2 : Int) = r) ∧
 True)) ⟨⟨rfl⟩, trivial⟩))
 (.obP (jb7 .f32 .i64 x_ = true)
 (.obT
 (.brB (Ieee.Format.order (FloatKind.format .f32) (FloatKind.nearest .f32 (f2i .f32 x_)) x_ != some Ordering.eq)
 (.obT
 (.ret ((27 : Int)) (fun r => (Ob ((27 : Int) = r) ∧
 True)) ⟨⟨rfl⟩, trivial⟩))
 (.obP (jb7 .f32 .i64 x_ = true)
 (.call (ja1 (f2i .f32 x_)) fun r0 =>
 .call (y11 (decide (r0 ≤ 32767)) (2 : Int)) fun r1 =>
 .obT
 (.ret (r1) (fun r => (Ob (r1 = r) ∧
 True)) ⟨⟨rfl⟩, trivial⟩))))))))))
 (.obT
 (.obT
 (.ret ((27 : Int)) (fun r => (Ob ((27 : Int) = r) ∧
 True)) ⟨⟨rfl⟩, trivial⟩))))
theorem jnD (x_ : Nat) (r : Int) (h : Option.bind (y99 x_) some = some r) : jbb Tryz.f163 ((sp_115 (sp_85 sp0))) (fun _ _ _ => none) [.d (.f .f32 x_)] [.d (.i .i64 r)] :=
 T.vc (t := jpc x_) (by kernel_rfl) (by kernel_rfl) h
theorem jnE : jag Tryz.prog 163 true (jar jiq jeM) := by
 refine jaz (sp := (sp_115 (sp_85 sp0))) (fn := Tryz.f163) (body := jaj Tryz.f163) mixed (sp_115_ok (sp_85_ok jak)) Tryz.func163 (by kernel_rfl) (by kernel_rfl) fun as_ ob rs h ho => ?_
 unfold jeM at h
 split at h
 ·rename_i x_
  cases h
  exact ⟨Nat.le_of_ble_eq_true rfl, _, _, jnD x_ _ (jai ho)⟩
 ·cases h
theorem sp_163_ok {sp : jab} (h : jac Tryz.prog sp) : jac Tryz.prog (sp_163 sp) := jah jnE h
def y153 : List SV := [.a [.d, .r (.floats .f32 [])]]
def y40 (u16 : List Nat) (x0 : Int) : Option (Int ⊕ ((Int × Int) ⊕ Unit)) :=
 if x0 < (↑(List.length u16) : Int) then
  if 0 ≤ x0 ∧ x0 < (↑(List.length u16) : Int) then
  if Int.toNat x0 < List.length u16 then
   Option.bind (y99 (List.getD u16 (Int.toNat x0) (0 : Nat))) fun r5 =>
   if (r5 != 0) = true then
   some (.inr ((.inl (x0, r5))))
   else
   some (.inl (wrap .i64 (x0 + 1)))
  else none
  else none
 else
  some (.inr ((.inr ())))
def jhQ (u15 : Int × Int) : Option (Int × Int) :=
 some (u15.1, u15.2)
def jhR (u27 : Unit) : Option (Int × Int) :=
 some (((0 : Int), 0))
def jqI : ((Int × Int) ⊕ Unit) → Option (Int × Int) :=
 (Sum.elim (jhQ) (jhR))
def y70 (u17 : Int) (u16 : List Nat) : Option (Int × Int) :=
 Option.bind (jcW u17) fun r0 =>
 Option.bind (y11 r0 (2 : Int)) fun r1 =>
 Option.bind (y11 (decide ((↑(List.length u16) : Int) > 0)) (10 : Int)) fun r2 =>
 Option.bind (y11 (decide ((↑(List.length u16) : Int) ≤ 1024)) (8 : Int)) fun r3 =>
 Option.bind (y30 [r1, r2, r3]) fun r4 =>
 if (r4 != 0) = true then
  some (((0 : Int), r4))
 else
  Option.bind (jae (y40 u16) big (0 : Int)) (jqI)
def y154 : List Lf → Option GT
 | [.d (.i .i64 u17), .r (.floats .f32 u16)] => some (.leaf (ok (y70 u17 u16)) [.c (.d (.i .i64 ((val (y70 u17 u16)).1))), .c (.d (.i .i64 ((val (y70 u17 u16)).2)))])
 | _ => none
abbrev sp_140 : jab → jab := jav 140 true (jal y153 y154)
private abbrev v0q0 (u17 : Int) (u16 : List Nat) := (y30 [val (y11 (val (jcW u17)) (2 : Int)), val (y11 (decide ((↑(List.length u16) : Int) > 0)) (10 : Int)), val (y11 (decide ((↑(List.length u16) : Int) ≤ 1024)) (8 : Int))])
theorem jjb (u17 : Int) (u16 : List Nat) (r : Int × Int) (h : Option.bind (y70 u17 u16) some = some r) : ja0 Tryz.f140 ((sp_162 (sp_85 (sp_76 (sp_163 sp0))))) (fun gs id _ => match id with
 | 0 => some ⟨Int × Nat, fun z => ⟨[(28, .w (.c (.o 0))), (29, .w (.c (.d (.i .i64 ((↑(List.length u16) : Int)))))), (30, .w (.c (.d (.i .i64 (Prod.fst z)))))], [(0, .ext (.floats .f32 u16))], 1⟩, fun z => Option.bind (jae (y40 u16) (Prod.snd z) (Prod.fst z)) (fun y0 => Option.bind (jqI y0) some) = some r, fun z => Prod.snd z⟩
 | _ => none) (jaO y153 [.d (.i .i64 u17), .r (.floats .f32 u16)]) [.c (.d (.i .i64 r.1)), .c (.d (.i .i64 r.2))] := by
 refine Eq.mp (by kernel_rfl : (
 (Ob (ok (jcW u17)) ∧
 (Ob (ok (y11 (val (jcW u17)) (2 : Int))) ∧
 (Ob (ok (y11 (decide ((↑(List.length u16) : Int) > 0)) (10 : Int))) ∧
 (Ob (ok (y11 (decide ((↑(List.length u16) : Int) ≤ 1024)) (8 : Int))) ∧
 (Ob (ok (v0q0 u17 u16)) ∧
 Br (val (v0q0 u17 u16) != 0)
  ((Ob True ∧
 (Ob True ∧
 (Ob ((0 : Int) = r.1) ∧
 (Ob (val (v0q0 u17 u16) = r.2) ∧
 True)))))
  (((∃ (v0 : Int × Nat), (Ob ((Option.bind (jae (y40 u16) v0.2 v0.1) fun y0 => Option.bind (jqI y0) some) = some r) ∧
 (Ob ((↑(List.length u16) : Int) = (↑(List.length u16) : Int)) ∧
 (Ob ((0 : Int) = v0.1) ∧
 (Ob (u16 = u16) ∧
 True))))) ∧
  (∀ (v0 : Int × Nat), ((Option.bind (jae (y40 u16) v0.2 v0.1) fun y0 => Option.bind (jqI y0) some) = some r →
 Br (decide (v0.1 < (↑(List.length u16) : Int)))
  ((Ob (0 ≤ v0.1 ∧ v0.1 < (↑(List.length u16) : Int)) ∧
 (Ob (Int.toNat v0.1 < List.length u16) ∧
 (Ob (ok (y99 (List.getD u16 (Int.toNat v0.1) (0 : Nat)))) ∧
 Br (val (y99 (List.getD u16 (Int.toNat v0.1) (0 : Nat))) != 0)
  ((Ob True ∧
 (Ob True ∧
 (Ob (v0.1 = r.1) ∧
 (Ob (val (y99 (List.getD u16 (Int.toNat v0.1) (0 : Nat))) = r.2) ∧
 True)))))
  ((∃ (v1 : Int × Nat), (Ob ((Option.bind (jae (y40 u16) v1.2 v1.1) fun y0 => Option.bind (jqI y0) some) = some r) ∧
 (Ob (v1.2 < v0.2) ∧
 (Ob ((↑(List.length u16) : Int) = (↑(List.length u16) : Int)) ∧
 (Ob (wrap .i64 (v0.1 + 1) = v1.1) ∧
 (Ob (u16 = u16) ∧
 True)))))))))))
  ((Ob True ∧
 (Ob True ∧
 (Ob ((0 : Int) = r.1) ∧
 (Ob ((0 : Int) = r.2) ∧
 True))))))))))))))) = _) ?_
 refine jau h fun h => ?_
 refine jau h fun h => ?_
 refine jau h fun h => ?_
 refine jau h fun h => ?_
 refine jau h fun h => ?_
 refine jaW h (fun h => ?_) (fun h => ?_)
 ·refine jad ?_
  refine jad ?_
  exact rcs h
 ·refine ⟨⟨((0 : Int), big), ⟨jbd h⟩, (by repeat' constructor)⟩, fun z6 hz6 => ?_⟩
  obtain ⟨k6, hm6, h⟩ := jaT hz6
  refine jaN h (fun h => ?_) (fun h => ?_)
  ·refine jao h fun h => ?_
   refine jao h fun h => ?_
   refine jau h fun h => ?_
   refine jaW h (fun h => ?_) (fun h => ?_)
   ·have h := jaA h
    refine jad ?_
    refine jad ?_
    exact rcs h
   ·exact ⟨(_, k6), ⟨jaL h⟩, ⟨jaZ hm6.symm⟩, (by repeat' constructor)⟩
  ·have h := jaA h
   refine jad ?_
   refine jad ?_
   exact rcs h
theorem jjc : jag Tryz.prog 140 true (jal y153 y154) := by
 refine jat (sp := (sp_162 (sp_85 (sp_76 (sp_163 sp0))))) (fn := Tryz.f140) (body := jaj Tryz.f140) mixed (sp_162_ok (sp_85_ok (sp_76_ok (sp_163_ok jak)))) Tryz.func140 (by kernel_rfl) (by kernel_rfl) fun ls t h ho b hb => ?_
 unfold y154 at h
 split at h
 ·rename_i u17 u16
  cases h
  obtain rfl := jaB hb
  exact ⟨Nat.le_of_ble_eq_true (by kernel_rfl), _, _, jjb u17 u16 _ (jai ho)⟩
 ·cases h
theorem sp_140_ok {sp : jab} (h : jac Tryz.prog sp) : jac Tryz.prog (sp_140 sp) := jah jjc h
def jfB : List SV := [.a [.d, .r (.floats .f32 []), .d, .d]]
def y26 (u4 : Int) (u0 : List Nat) (u6 : Int) (u5 : Int) : Option (Int × Int) :=
 Option.bind (y70 u4 u0) fun r0 =>
 if (r0.2 != 0) = true then
  some (r0.1, r0.2)
 else
  Option.bind (y10 u6 (0 : Int) (32767 : Int)) fun r1 =>
  if (r1) = true then
  Option.bind (y10 u5 (0 : Int) (1000000000000 : Int)) fun r2 =>
  Option.bind (y11 r2 (2 : Int)) fun r3 =>
  some (((0 : Int), r3))
  else
  some (((0 : Int), val (y11 false (2 : Int))))
def jfC : List Lf → Option GT
 | [.d (.i .i64 u4), .r (.floats .f32 u0), .d (.i .i64 u6), .d (.i .i64 u5)] => some (.leaf (ok (y26 u4 u0 u6 u5)) [.c (.d (.i .i64 ((val (y26 u4 u0 u6 u5)).1))), .c (.d (.i .i64 ((val (y26 u4 u0 u6 u5)).2)))])
 | _ => none
abbrev sp_114 : jab → jab := jav 114 true (jal jfB jfC)
def jqJ (u4 : Int) (u0 : List Nat) (u6 : Int) (u5 : Int) : T (Int × Int) :=
 .call (y70 u4 u0) fun r0 =>
 .brB (r0.2 != 0)
 (.obT
 (.obT
 (.ret ((r0.1, r0.2)) (fun r => (Ob (r0.1 = r.1) ∧
 (Ob (r0.2 = r.2) ∧
 True))) ⟨⟨rfl⟩, ⟨⟨rfl⟩, trivial⟩⟩)))
 (.call (y10 u6 (0 : Int) (32767 : Int)) fun r1 =>
 .brB (r1)
 (.call (y10 u5 (0 : Int) (1000000000000 : Int)) fun r2 =>
 .call (y11 r2 (2 : Int)) fun r3 =>
 .obT
 (.obT
 (.ret ((((0 : Int), r3))) (fun r => (Ob ((0 : Int) = r.1) ∧
 (Ob (r3 = r.2) ∧
 True))) ⟨⟨rfl⟩, ⟨⟨rfl⟩, trivial⟩⟩)))
 (.obC (ok (y11 false (2 : Int))) (by decide)
 (.obT
 (.obT
 (.ret ((((0 : Int), val (y11 false (2 : Int))))) (fun r => (Ob ((0 : Int) = r.1) ∧
 (Ob (val (y11 false (2 : Int)) = r.2) ∧
 True))) ⟨⟨rfl⟩, ⟨⟨rfl⟩, trivial⟩⟩)))))
theorem jpd (u4 : Int) (u0 : List Nat) (u6 : Int) (u5 : Int) (r : Int × Int) (h : Option.bind (y26 u4 u0 u6 u5) some = some r) : ja0 Tryz.f114 ((sp_140 (sp_68 (sp_85 sp0)))) (fun _ _ _ => none) (jaO jfB [.d (.i .i64 u4), .r (.floats .f32 u0), .d (.i .i64 u6), .d (.i .i64 u5)]) [.c (.d (.i .i64 r.1)), .c (.d (.i .i64 r.2))] :=
 T.vc (t := jqJ u4 u0 u6 u5) (by kernel_rfl) (by kernel_rfl) h
theorem jpe : jag Tryz.prog 114 true (jal jfB jfC) := by
 refine jat (sp := (sp_140 (sp_68 (sp_85 sp0)))) (fn := Tryz.f114) (body := jaj Tryz.f114) mixed (sp_140_ok (sp_68_ok (sp_85_ok jak))) Tryz.func114 (by kernel_rfl) (by kernel_rfl) fun ls t h ho b hb => ?_
 unfold jfC at h
 split at h
 ·rename_i u4 u0 u6 u5
  cases h
  obtain rfl := jaB hb
  exact ⟨Nat.le_of_ble_eq_true (by kernel_rfl), _, _, jpd u4 u0 u6 u5 _ (jai ho)⟩
 ·cases h
theorem sp_114_ok {sp : jab} (h : jac Tryz.prog sp) : jac Tryz.prog (sp_114 sp) := jah jpe h
def jqK : List (Option Cont) := [none, none]
def jcX (aLo : Int) (aHi : Int) (bLo : Int) (bHi : Int) : Option (Int × Int) :=
 some ((wrap .i64 (aLo + bLo), wrap .i64 (aHi + bHi)))
def jlk : List A → Option (Prop × List RV)
 | [.s [.i .i64 aLo, .i .i64 aHi], .s [.i .i64 bLo, .i .i64 bHi]] => some (ok (jcX aLo aHi bLo bHi), [.s [.i .i64 ((val (jcX aLo aHi bLo bHi)).1), .i .i64 ((val (jcX aLo aHi bLo bHi)).2)]])
 | _ => none
abbrev sp_117 : jab → jab := jav 117 true (jar jqK jlk)
def jvG (aLo : Int) (aHi : Int) (bLo : Int) (bHi : Int) : T (Int × Int) :=
 .obT
 (.ret (((wrap .i64 (aLo + bLo), wrap .i64 (aHi + bHi)))) (fun r => (Ob (wrap .i64 (aLo + bLo) = r.1) ∧
 (Ob (wrap .i64 (aHi + bHi) = r.2) ∧
 True))) ⟨⟨rfl⟩, ⟨⟨rfl⟩, trivial⟩⟩)
theorem juv (aLo : Int) (aHi : Int) (bLo : Int) (bHi : Int) (r : Int × Int) (h : Option.bind (jcX aLo aHi bLo bHi) some = some r) : jbb Tryz.f117 (sp0) (fun _ _ _ => none) [.s [.i .i64 aLo, .i .i64 aHi], .s [.i .i64 bLo, .i .i64 bHi]] [.s [.i .i64 r.1, .i .i64 r.2]] :=
 T.vc (t := jvG aLo aHi bLo bHi) (by kernel_rfl) (by kernel_rfl) h
theorem juw : jag Tryz.prog 117 true (jar jqK jlk) := by
 refine jaz (sp := sp0) (fn := Tryz.f117) (body := jaj Tryz.f117) mixed jak Tryz.func117 (by kernel_rfl) (by kernel_rfl) fun as_ ob rs h ho => ?_
 unfold jlk at h
 split at h
 ·rename_i aLo aHi bLo bHi
  cases h
  exact ⟨Nat.le_of_ble_eq_true rfl, _, _, juv aLo aHi bLo bHi _ (jai ho)⟩
 ·cases h
theorem sp_117_ok {sp : jab} (h : jac Tryz.prog sp) : jac Tryz.prog (sp_117 sp) := jah juw h
def jqL : List (Option Cont) := [none, none]
def jbk (n : Int) (by_ : Int) : Option Int :=
 if by_ ≠ (0 : Int) then
  some (wrap .i64 (Int.tdiv (wrap .i64 (wrap .i64 (n + by_) - 1)) by_))
 else none
def jll : List A → Option (Prop × List RV)
 | [.d (.i .i64 n), .d (.i .i64 by_)] => some (ok (jbk n by_), [.d (.i .i64 ((val (jbk n by_))))])
 | _ => none
abbrev sp_119 : jab → jab := jav 119 true (jar jqL jll)
def jvH (n : Int) (by_ : Int) : T (Int) :=
 .obP (by_ ≠ (0 : Int))
 (.obT
 (.ret ((wrap .i64 (Int.tdiv (wrap .i64 (wrap .i64 (n + by_) - 1)) by_))) (fun r => (Ob (wrap .i64 (Int.tdiv (wrap .i64 (wrap .i64 (n + by_) - 1)) by_) = r) ∧
 True)) ⟨⟨rfl⟩, trivial⟩))
theorem jux (n : Int) (by_ : Int) (r : Int) (h : Option.bind (jbk n by_) some = some r) : jbb Tryz.f119 (sp0) (fun _ _ _ => none) [.d (.i .i64 n), .d (.i .i64 by_)] [.d (.i .i64 r)] :=
 T.vc (t := jvH n by_) (by kernel_rfl) (by kernel_rfl) h
theorem juy : jag Tryz.prog 119 true (jar jqL jll) := by
 refine jaz (sp := sp0) (fn := Tryz.f119) (body := jaj Tryz.f119) mixed jak Tryz.func119 (by kernel_rfl) (by kernel_rfl) fun as_ ob rs h ho => ?_
 unfold jll at h
 split at h
 ·rename_i n by_
  cases h
  exact ⟨Nat.le_of_ble_eq_true rfl, _, _, jux n by_ _ (jai ho)⟩
 ·cases h
theorem sp_119_ok {sp : jab} (h : jac Tryz.prog sp) : jac Tryz.prog (sp_119 sp) := jah juy h
def jkW : List (Option Cont) := [none]
def jcY (n : Int) : Option Int :=
 Option.bind (y10 n (0 : Int) (1000000 : Int)) fun r0 =>
 Option.bind (y11 r0 (2 : Int)) fun r1 =>
 some r1
def jgz : List A → Option (Prop × List RV)
 | [.d (.i .i64 n)] => some (ok (jcY n), [.d (.i .i64 ((val (jcY n))))])
 | _ => none
abbrev sp_77 : jab → jab := jav 77 true (jar jkW jgz)
def jr1 (n : Int) : T (Int) :=
 .call (y10 n (0 : Int) (1000000 : Int)) fun r0 =>
 .call (y11 r0 (2 : Int)) fun r1 =>
 .obT
 (.ret (r1) (fun r => (Ob (r1 = r) ∧
 True)) ⟨⟨rfl⟩, trivial⟩)
theorem jqM (n : Int) (r : Int) (h : Option.bind (jcY n) some = some r) : jbb Tryz.f77 ((sp_68 (sp_85 sp0))) (fun _ _ _ => none) [.d (.i .i64 n)] [.d (.i .i64 r)] :=
 T.vc (t := jr1 n) (by kernel_rfl) (by kernel_rfl) h
theorem jqN : jag Tryz.prog 77 true (jar jkW jgz) := by
 refine jaz (sp := (sp_68 (sp_85 sp0))) (fn := Tryz.f77) (body := jaj Tryz.f77) mixed (sp_68_ok (sp_85_ok jak)) Tryz.func77 (by kernel_rfl) (by kernel_rfl) fun as_ ob rs h ho => ?_
 unfold jgz at h
 split at h
 ·rename_i n
  cases h
  exact ⟨Nat.le_of_ble_eq_true rfl, _, _, jqM n _ (jai ho)⟩
 ·cases h
theorem sp_77_ok {sp : jab} (h : jac Tryz.prog sp) : jac Tryz.prog (sp_77 sp) := jah jqN h
def joJ : List (Option Cont) := [none, none]
def jdN (x0 : (Int × Int)) : Option ((Int × Int) ⊕ Int) :=
 if (x0.2 != 0) = true then
  if x0.2 ≠ (0 : Int) then
  some (.inl (x0.2, Int.tmod x0.1 x0.2))
  else none
 else
  some (.inr x0.1)
def jdO (num : Int) (den : Int) (u15 : Int) : Option (Int × Int × Int) :=
 if u15 ≠ (0 : Int) then
  if u15 ≠ (0 : Int) then
  if wrap .i64 (Int.tdiv num u15) > 1000000000 then
   some (((0 : Int), 0, 8))
  else
   if wrap .i64 (Int.tdiv den u15) > 1000000000 then
   some (((0 : Int), 0, 8))
   else
   some ((wrap .i64 (Int.tdiv num u15), wrap .i64 (Int.tdiv den u15), 0))
  else none
 else none
def jd6 (num : Int) (den : Int) : Option (Int × Int × Int) :=
 if (den == 0) = true then
  some (((0 : Int), 0, 11))
 else
  Option.bind (jae (jdN) big (num, den)) (jdO num den)
def jjd : List A → Option (Prop × List RV)
 | [.d (.i .i64 num), .d (.i .i64 den)] => some (ok (jd6 num den), [.s [.i .i64 ((val (jd6 num den)).1), .i .i64 ((val (jd6 num den)).2.1)], .d (.i .i64 ((val (jd6 num den)).2.2))])
 | _ => none
abbrev sp_86 : jab → jab := jav 86 true (jar joJ jjd)
theorem jtl (num : Int) (den : Int) (r : Int × Int × Int) (h : Option.bind (jd6 num den) some = some r) : jbb Tryz.f86 (sp0) (fun gs id _ => match id with
 | 0 => some ⟨(Int × Int) × Nat, fun z => ⟨[(0, .w (.c (.d (.i .i64 num)))), (1, .w (.c (.d (.i .i64 den)))), (4, .w (.c (.p 2 0 1 0))), (6, .w (.c (.d (.i .i64 (Prod.fst (Prod.fst z)))))), (7, .w (.c (.d (.i .i64 (Prod.snd (Prod.fst z))))))], [(2, .box 49 [.d (.i .i64 0), .d (.i .i64 0)])], 3⟩, fun z => Option.bind (jae (jdN) (Prod.snd z) (Prod.fst z)) (fun y0 => Option.bind (jdO num den y0) some) = some r, fun z => Prod.snd z⟩
 | _ => none) [.d (.i .i64 num), .d (.i .i64 den)] [.s [.i .i64 r.1, .i .i64 r.2.1], .d (.i .i64 r.2.2)] := by
 refine Eq.mp (by kernel_rfl : (
 Br (den == 0)
  ((Ob True ∧
 (Ob True ∧
 (Ob ((0 : Int) = r.1) ∧
 (Ob ((0 : Int) = r.2.1) ∧
 (Ob ((11 : Int) = r.2.2) ∧
 True))))))
  (((∃ (v0 : (Int × Int) × Nat), (Ob ((Option.bind (jae jdN v0.2 v0.1) fun y0 => Option.bind (jdO num den y0) some) = some r) ∧
 (Ob (num = num) ∧
 (Ob (den = den) ∧
 (Ob (0 = 0) ∧
 (Ob (num = v0.1.1) ∧
 (Ob (den = v0.1.2) ∧
 (Ob ((0 : Int) = (0 : Int)) ∧
 (Ob ((0 : Int) = (0 : Int)) ∧
 True))))))))) ∧
  (∀ (v0 : (Int × Int) × Nat), ((Option.bind (jae jdN v0.2 v0.1) fun y0 => Option.bind (jdO num den y0) some) = some r →
 Br (v0.1.2 != 0)
  ((Ob (v0.1.2 ≠ (0 : Int)) ∧
  (∃ (v1 : (Int × Int) × Nat), (Ob ((Option.bind (jae jdN v1.2 v1.1) fun y0 => Option.bind (jdO num den y0) some) = some r) ∧
 (Ob (v1.2 < v0.2) ∧
 (Ob (num = num) ∧
 (Ob (den = den) ∧
 (Ob (0 = 0) ∧
 (Ob (v0.1.2 = v1.1.1) ∧
 (Ob (Int.tmod v0.1.1 v0.1.2 = v1.1.2) ∧
 (Ob ((0 : Int) = (0 : Int)) ∧
 (Ob ((0 : Int) = (0 : Int)) ∧
 True))))))))))))
  ((Ob (v0.1.1 ≠ (0 : Int)) ∧
 (Ob (v0.1.1 ≠ (0 : Int)) ∧
 Br (decide (wrap .i64 (Int.tdiv num v0.1.1) > 1000000000))
  ((Ob True ∧
 (Ob True ∧
 (Ob ((0 : Int) = r.1) ∧
 (Ob ((0 : Int) = r.2.1) ∧
 (Ob ((8 : Int) = r.2.2) ∧
 True))))))
 (Br (decide (wrap .i64 (Int.tdiv den v0.1.1) > 1000000000))
  ((Ob True ∧
 (Ob True ∧
 (Ob ((0 : Int) = r.1) ∧
 (Ob ((0 : Int) = r.2.1) ∧
 (Ob ((8 : Int) = r.2.2) ∧
 True))))))
  ((Ob True ∧
 (Ob True ∧
 (Ob (wrap .i64 (Int.tdiv num v0.1.1) = r.1) ∧
 (Ob (wrap .i64 (Int.tdiv den v0.1.1) = r.2.1) ∧
 (Ob ((0 : Int) = r.2.2) ∧
 True))))))))))))))) = _) ?_
 refine jaW h (fun h => ?_) (fun h => ?_)
 ·refine jad ?_
  refine jad ?_
  exact rcs h
 ·refine ⟨⟨((num, den), big), ⟨jbd h⟩, (by repeat' constructor)⟩, fun z0 hz0 => ?_⟩
  obtain ⟨k0, hm0, h⟩ := jaT hz0
  refine jaW h (fun h => ?_) (fun h => ?_)
  ·refine jao h fun h => ?_
   exact ⟨(_, k0), ⟨jaL h⟩, ⟨jaZ hm0.symm⟩, (by repeat' constructor)⟩
  ·have h := jaA h
   refine jao h fun h => ?_
   refine jao h fun h => ?_
   refine jaN h (fun h => ?_) (fun h => ?_)
   ·refine jad ?_
    refine jad ?_
    exact rcs h
   ·refine jaN h (fun h => ?_) (fun h => ?_)
    ·refine jad ?_
     refine jad ?_
     exact rcs h
    ·refine jad ?_
     refine jad ?_
     exact rcs h
theorem jtm : jag Tryz.prog 86 true (jar joJ jjd) := by
 refine jaz (sp := sp0) (fn := Tryz.f86) (body := jaj Tryz.f86) mixed jak Tryz.func86 (by kernel_rfl) (by kernel_rfl) fun as_ ob rs h ho => ?_
 unfold jjd at h
 split at h
 ·rename_i num den
  cases h
  exact ⟨Nat.le_of_ble_eq_true rfl, _, _, jtl num den _ (jai ho)⟩
 ·cases h
theorem sp_86_ok {sp : jab} (h : jac Tryz.prog sp) : jac Tryz.prog (sp_86 sp) := jah jtm h
def je3 : List (Option Cont) := [none, none]
def y9 (x_ : Int) (y_ : Int) : Option (Int × Int) :=
 some ((wrap .u64 (wrap .u64 (wrap .u64 (Int.fdiv x_ ((2 : Int) ^ min (32 : Nat) (IntKind.bits .u64)) * Int.fdiv y_ ((2 : Int) ^ min (32 : Nat) (IntKind.bits .u64))) + Int.fdiv (wrap .u64 (wrap .u64 (Int.fdiv x_ ((2 : Int) ^ min (32 : Nat) (IntKind.bits .u64)) * wrap .u64 (↑(BitVec.toNat (BitVec.ofInt (IntKind.bits .u64) y_ &&& BitVec.ofInt (IntKind.bits .u64) (4294967295 : Int))) : Int)) + Int.fdiv (wrap .u64 (wrap .u64 (↑(BitVec.toNat (BitVec.ofInt (IntKind.bits .u64) x_ &&& BitVec.ofInt (IntKind.bits .u64) (4294967295 : Int))) : Int) * wrap .u64 (↑(BitVec.toNat (BitVec.ofInt (IntKind.bits .u64) y_ &&& BitVec.ofInt (IntKind.bits .u64) (4294967295 : Int))) : Int))) ((2 : Int) ^ min (32 : Nat) (IntKind.bits .u64)))) ((2 : Int) ^ min (32 : Nat) (IntKind.bits .u64))) + Int.fdiv (wrap .u64 (wrap .u64 (↑(BitVec.toNat (BitVec.ofInt (IntKind.bits .u64) (wrap .u64 (wrap .u64 (Int.fdiv x_ ((2 : Int) ^ min (32 : Nat) (IntKind.bits .u64)) * wrap .u64 (↑(BitVec.toNat (BitVec.ofInt (IntKind.bits .u64) y_ &&& BitVec.ofInt (IntKind.bits .u64) (4294967295 : Int))) : Int)) + Int.fdiv (wrap .u64 (wrap .u64 (↑(BitVec.toNat (BitVec.ofInt (IntKind.bits .u64) x_ &&& BitVec.ofInt (IntKind.bits .u64) (4294967295 : Int))) : Int) * wrap .u64 (↑(BitVec.toNat (BitVec.ofInt (IntKind.bits .u64) y_ &&& BitVec.ofInt (IntKind.bits .u64) (4294967295 : Int))) : Int))) ((2 : Int) ^ min (32 : Nat) (IntKind.bits .u64)))) &&& BitVec.ofInt (IntKind.bits .u64) (4294967295 : Int))) : Int) + wrap .u64 (wrap .u64 (↑(BitVec.toNat (BitVec.ofInt (IntKind.bits .u64) x_ &&& BitVec.ofInt (IntKind.bits .u64) (4294967295 : Int))) : Int) * Int.fdiv y_ ((2 : Int) ^ min (32 : Nat) (IntKind.bits .u64))))) ((2 : Int) ^ min (32 : Nat) (IntKind.bits .u64))), wrap .u64 (x_ * y_)))
def y155 : List A → Option (Prop × List RV)
 | [.d (.i .u64 x_), .d (.i .u64 y_)] => some (ok (y9 x_ y_), [.d (.i .u64 ((val (y9 x_ y_)).1)), .d (.i .u64 ((val (y9 x_ y_)).2))])
 | _ => none
abbrev sp_126 : jab → jab := jav 126 true (jar je3 y155)
def jko (x_ : Int) (y_ : Int) : T (Int × Int) :=
 .obC ((0 : Int) ≤ 32) (by decide)
 (.obC _ jpL
 (.obC _ jpL
 (.obC _ jpL
 (.obC _ jpL
 (.obT
 (.obT
 (.ret (((wrap .u64 (wrap .u64 (wrap .u64 (Int.fdiv x_ ((2 : Int) ^ min (32 : Nat) (IntKind.bits .u64)) * Int.fdiv y_ ((2 : Int) ^ min (32 : Nat) (IntKind.bits .u64))) + Int.fdiv (wrap .u64 (wrap .u64 (Int.fdiv x_ ((2 : Int) ^ min (32 : Nat) (IntKind.bits .u64)) * wrap .u64 (↑(BitVec.toNat (BitVec.ofInt (IntKind.bits .u64) y_ &&& BitVec.ofInt (IntKind.bits .u64) (4294967295 : Int))) : Int)) + Int.fdiv (wrap .u64 (wrap .u64 (↑(BitVec.toNat (BitVec.ofInt (IntKind.bits .u64) x_ &&& BitVec.ofInt (IntKind.bits .u64) (4294967295 : Int))) : Int) * wrap .u64 (↑(BitVec.toNat (BitVec.ofInt (IntKind.bits .u64) y_ &&& BitVec.ofInt (IntKind.bits .u64) (4294967295 : Int))) : Int))) ((2 : Int) ^ min (32 : Nat) (IntKind.bits .u64)))) ((2 : Int) ^ min (32 : Nat) (IntKind.bits .u64))) + Int.fdiv (wrap .u64 (wrap .u64 (↑(BitVec.toNat (BitVec.ofInt (IntKind.bits .u64) (wrap .u64 (wrap .u64 (Int.fdiv x_ ((2 : Int) ^ min (32 : Nat) (IntKind.bits .u64)) * wrap .u64 (↑(BitVec.toNat (BitVec.ofInt (IntKind.bits .u64) y_ &&& BitVec.ofInt (IntKind.bits .u64) (4294967295 : Int))) : Int)) + Int.fdiv (wrap .u64 (wrap .u64 (↑(BitVec.toNat (BitVec.ofInt (IntKind.bits .u64) x_ &&& BitVec.ofInt (IntKind.bits .u64) (4294967295 : Int))) : Int) * wrap .u64 (↑(BitVec.toNat (BitVec.ofInt (IntKind.bits .u64) y_ &&& BitVec.ofInt (IntKind.bits .u64) (4294967295 : Int))) : Int))) ((2 : Int) ^ min (32 : Nat) (IntKind.bits .u64)))) &&& BitVec.ofInt (IntKind.bits .u64) (4294967295 : Int))) : Int) + wrap .u64 (wrap .u64 (↑(BitVec.toNat (BitVec.ofInt (IntKind.bits .u64) x_ &&& BitVec.ofInt (IntKind.bits .u64) (4294967295 : Int))) : Int) * Int.fdiv y_ ((2 : Int) ^ min (32 : Nat) (IntKind.bits .u64))))) ((2 : Int) ^ min (32 : Nat) (IntKind.bits .u64))), wrap .u64 (x_ * y_)))) (fun r => (Ob (wrap .u64 (wrap .u64 (wrap .u64 (Int.fdiv x_ ((2 : Int) ^ min (32 : Nat) (IntKind.bits .u64)) * Int.fdiv y_ ((2 : Int) ^ min (32 : Nat) (IntKind.bits .u64))) + Int.fdiv (wrap .u64 (wrap .u64 (Int.fdiv x_ ((2 : Int) ^ min (32 : Nat) (IntKind.bits .u64)) * wrap .u64 (↑(BitVec.toNat (BitVec.ofInt (IntKind.bits .u64) y_ &&& BitVec.ofInt (IntKind.bits .u64) (4294967295 : Int))) : Int)) + Int.fdiv (wrap .u64 (wrap .u64 (↑(BitVec.toNat (BitVec.ofInt (IntKind.bits .u64) x_ &&& BitVec.ofInt (IntKind.bits .u64) (4294967295 : Int))) : Int) * wrap .u64 (↑(BitVec.toNat (BitVec.ofInt (IntKind.bits .u64) y_ &&& BitVec.ofInt (IntKind.bits .u64) (4294967295 : Int))) : Int))) ((2 : Int) ^ min (32 : Nat) (IntKind.bits .u64)))) ((2 : Int) ^ min (32 : Nat) (IntKind.bits .u64))) + Int.fdiv (wrap .u64 (wrap .u64 (↑(BitVec.toNat (BitVec.ofInt (IntKind.bits .u64) (wrap .u64 (wrap .u64 (Int.fdiv x_ ((2 : Int) ^ min (32 : Nat) (IntKind.bits .u64)) * wrap .u64 (↑(BitVec.toNat (BitVec.ofInt (IntKind.bits .u64) y_ &&& BitVec.ofInt (IntKind.bits .u64) (4294967295 : Int))) : Int)) + Int.fdiv (wrap .u64 (wrap .u64 (↑(BitVec.toNat (BitVec.ofInt (IntKind.bits .u64) x_ &&& BitVec.ofInt (IntKind.bits .u64) (4294967295 : Int))) : Int) * wrap .u64 (↑(BitVec.toNat (BitVec.ofInt (IntKind.bits .u64) y_ &&& BitVec.ofInt (IntKind.bits .u64) (4294967295 : Int))) : Int))) ((2 : Int) ^ min (32 : Nat) (IntKind.bits .u64)))) &&& BitVec.ofInt (IntKind.bits .u64) (4294967295 : Int))) : Int) + wrap .u64 (wrap .u64 (↑(BitVec.toNat (BitVec.ofInt (IntKind.bits .u64) x_ &&& BitVec.ofInt (IntKind.bits .u64) (4294967295 : Int))) : Int) * Int.fdiv y_ ((2 : Int) ^ min (32 : Nat) (IntKind.bits .u64))))) ((2 : Int) ^ min (32 : Nat) (IntKind.bits .u64))) = r.1) ∧
 (Ob (wrap .u64 (x_ * y_) = r.2) ∧
 True))) ⟨⟨rfl⟩, ⟨⟨rfl⟩, trivial⟩⟩)))))))
theorem jje (x_ : Int) (y_ : Int) (r : Int × Int) (h : Option.bind (y9 x_ y_) some = some r) : jbb Tryz.f126 (sp0) (fun _ _ _ => none) [.d (.i .u64 x_), .d (.i .u64 y_)] [.d (.i .u64 r.1), .d (.i .u64 r.2)] :=
 T.vc (t := jko x_ y_) (by kernel_rfl) (by kernel_rfl) h
theorem jjf : jag Tryz.prog 126 true (jar je3 y155) := by
 refine jaz (sp := sp0) (fn := Tryz.f126) (body := jaj Tryz.f126) mixed jak Tryz.func126 (by kernel_rfl) (by kernel_rfl) fun as_ ob rs h ho => ?_
 unfold y155 at h
 split at h
 ·rename_i x_ y_
  cases h
  exact ⟨Nat.le_of_ble_eq_true rfl, _, _, jje x_ y_ _ (jai ho)⟩
 ·cases h
theorem sp_126_ok {sp : jab} (h : jac Tryz.prog sp) : jac Tryz.prog (sp_126 sp) := jah jjf h
def y203 : List (Option Cont) := [none]
def y63 (x_ : Int) : Option Bool :=
 some (x_ != x_)
def y144 : List A → Option (Prop × List RV)
 | [.d (.i .u64 x_)] => some (ok (y63 x_), [.d (.b ((val (y63 x_))))])
 | _ => none
abbrev sp_167 : jab → jab := jav 167 true (jar y203 y144)
def jjg (x_ : Int) : T (Bool) :=
 .obT
 (.ret ((x_ != x_)) (fun r => (Ob ((x_ != x_) = r) ∧
 True)) ⟨⟨rfl⟩, trivial⟩)
theorem jiy (x_ : Int) (r : Bool) (h : Option.bind (y63 x_) some = some r) : jbb Tryz.f167 (sp0) (fun _ _ _ => none) [.d (.i .u64 x_)] [.d (.b r)] :=
 T.vc (t := jjg x_) (by kernel_rfl) (by kernel_rfl) h
theorem jiz : jag Tryz.prog 167 true (jar y203 y144) := by
 refine jaz (sp := sp0) (fn := Tryz.f167) (body := jaj Tryz.f167) mixed jak Tryz.func167 (by kernel_rfl) (by kernel_rfl) fun as_ ob rs h ho => ?_
 unfold y144 at h
 split at h
 ·rename_i x_
  cases h
  exact ⟨Nat.le_of_ble_eq_true rfl, _, _, jiy x_ _ (jai ho)⟩
 ·cases h
theorem sp_167_ok {sp : jab} (h : jac Tryz.prog sp) : jac Tryz.prog (sp_167 sp) := jah jiz h
def y181 : List (Option Cont) := [none, none]
def y41 (x_ : Int) (y_ : Int) : Option Int :=
 Option.bind (y63 x_) fun r0 =>
 Option.bind (y63 y_) fun r1 =>
 if (r0) = true then
  if (r1) = true then
  some (0 : Int)
  else
  some (-1 : Int)
 else
  if (r1) = true then
  some (1 : Int)
  else
  if x_ < y_ then
   some (-1 : Int)
  else
   if x_ > y_ then
   some (1 : Int)
   else
   some (0 : Int)
def y130 : List A → Option (Prop × List RV)
 | [.d (.i .u64 x_), .d (.i .u64 y_)] => some (ok (y41 x_ y_), [.d (.i .i64 ((val (y41 x_ y_))))])
 | _ => none
abbrev sp_152 : jab → jab := jav 152 true (jar y181 y130)
def jhS (x_ : Int) (y_ : Int) : T (Int) :=
 .call (y63 x_) fun r0 =>
 .call (y63 y_) fun r1 =>
 .brB (r0)
 (.brB (r1)
 (.obT
 (.ret ((0 : Int)) (fun r => (Ob ((0 : Int) = r) ∧
 True)) ⟨⟨rfl⟩, trivial⟩))
 (.obT
 (.ret ((-1 : Int)) (fun r => (Ob ((-1 : Int) = r) ∧
 True)) ⟨⟨rfl⟩, trivial⟩)))
 (.brB (r1)
 (.obT
 (.ret ((1 : Int)) (fun r => (Ob ((1 : Int) = r) ∧
 True)) ⟨⟨rfl⟩, trivial⟩))
 (.brP (x_ < y_)
 (.obT
 (.ret ((-1 : Int)) (fun r => (Ob ((-1 : Int) = r) ∧
 True)) ⟨⟨rfl⟩, trivial⟩))
 (.brP (x_ > y_)
 (.obT
 (.ret ((1 : Int)) (fun r => (Ob ((1 : Int) = r) ∧
 True)) ⟨⟨rfl⟩, trivial⟩))
 (.obT
 (.ret ((0 : Int)) (fun r => (Ob ((0 : Int) = r) ∧
 True)) ⟨⟨rfl⟩, trivial⟩)))))
theorem jg2 (x_ : Int) (y_ : Int) (r : Int) (h : Option.bind (y41 x_ y_) some = some r) : jbb Tryz.f152 ((sp_167 sp0)) (fun _ _ _ => none) [.d (.i .u64 x_), .d (.i .u64 y_)] [.d (.i .i64 r)] :=
 T.vc (t := jhS x_ y_) (by kernel_rfl) (by kernel_rfl) h
theorem jg3 : jag Tryz.prog 152 true (jar y181 y130) := by
 refine jaz (sp := (sp_167 sp0)) (fn := Tryz.f152) (body := jaj Tryz.f152) mixed (sp_167_ok jak) Tryz.func152 (by kernel_rfl) (by kernel_rfl) fun as_ ob rs h ho => ?_
 unfold y130 at h
 split at h
 ·rename_i x_ y_
  cases h
  exact ⟨Nat.le_of_ble_eq_true rfl, _, _, jg2 x_ y_ _ (jai ho)⟩
 ·cases h
theorem sp_152_ok {sp : jab} (h : jac Tryz.prog sp) : jac Tryz.prog (sp_152 sp) := jah jg3 h
def y152 : List (Option Cont) := [some (.ints .u64 []), some (.ints .u64 [])]
def y17 (s1 : List Int) (s2 : List Int) (x0 : Int) : Option (Int ⊕ (Int ⊕ Unit)) :=
 if x0 < (↑(List.length s1) : Int) then
  if 0 ≤ x0 ∧ x0 < (↑(List.length s1) : Int) then
  if Int.toNat x0 < List.length s1 then
   if x0 ≥ (↑(List.length s2) : Int) then
   some (.inr ((.inl (1 : Int))))
   else
   if 0 ≤ x0 ∧ x0 < (↑(List.length s2) : Int) then
    if Int.toNat x0 < List.length s2 then
    Option.bind (y41 (List.getD s1 (Int.toNat x0) (0 : Int)) (List.getD s2 (Int.toNat x0) (0 : Int))) fun r0 =>
    if (r0 != 0) = true then
     some (.inr (.inl r0))
    else
     some (.inl (wrap .i64 (x0 + 1)))
    else none
   else none
  else none
  else none
 else
  some (.inr ((.inr ())))
def y206 (s1 : List Int) (s2 : List Int) (u15 : Int) : Option Int :=
 some u15
def y207 (s1 : List Int) (s2 : List Int) (u27 : Unit) : Option Int :=
 if (↑(List.length s1) : Int) < (↑(List.length s2) : Int) then
  some (-1 : Int)
 else
  some (0 : Int)
def y64 (s1 : List Int) (s2 : List Int) : (Int ⊕ Unit) → Option Int :=
 (Sum.elim (y206 s1 s2) (y207 s1 s2))
def y24 (s1 : List Int) (s2 : List Int) : Option Int :=
 Option.bind (jae (y17 s1 s2) big (0 : Int)) (y64 s1 s2)
def y121 : List A → Option (Prop × List RV)
 | [.r (.ints .u64 s1), .r (.ints .u64 s2)] => some (ok (y24 s1 s2), [.d (.i .i64 ((val (y24 s1 s2))))])
 | _ => none
abbrev sp_131 : jab → jab := jav 131 true (jar y152 y121)
theorem jfD (s1 : List Int) (s2 : List Int) (r : Int) (h : Option.bind (y24 s1 s2) some = some r) : jbb Tryz.f131 ((sp_152 sp0)) (fun gs id _ => match id with
 | 0 => some ⟨Int × Nat, fun z => ⟨[(0, .w (.c (.o 0))), (1, .w (.c (.o 1))), (9, .w (.c (.o 0))), (10, .w (.c (.d (.i .i64 ((↑(List.length s1) : Int)))))), (11, .w (.c (.d (.i .i64 (Prod.fst z)))))], [(0, .ext (.ints .u64 s1)), (1, .ext (.ints .u64 s2))], 2⟩, fun z => Option.bind (jae (y17 s1 s2) (Prod.snd z) (Prod.fst z)) (fun y0 => Option.bind (y64 s1 s2 y0) some) = some r, fun z => Prod.snd z⟩
 | _ => none) [.r (.ints .u64 s1), .r (.ints .u64 s2)] [.d (.i .i64 r)] := by
 refine Eq.mp (by kernel_rfl : (
 ((∃ (v0 : Int × Nat), (Ob ((Option.bind (jae (y17 s1 s2) v0.2 v0.1) fun y0 => Option.bind (y64 s1 s2 y0) some) = some r) ∧
 (Ob ((↑(List.length s1) : Int) = (↑(List.length s1) : Int)) ∧
 (Ob ((0 : Int) = v0.1) ∧
 (Ob (s1 = s1) ∧
 (Ob (s2 = s2) ∧
 True)))))) ∧
  (∀ (v0 : Int × Nat), ((Option.bind (jae (y17 s1 s2) v0.2 v0.1) fun y0 => Option.bind (y64 s1 s2 y0) some) = some r →
 Br (decide (v0.1 < (↑(List.length s1) : Int)))
  ((Ob (0 ≤ v0.1 ∧ v0.1 < (↑(List.length s1) : Int)) ∧
 (Ob (Int.toNat v0.1 < List.length s1) ∧
 Br (decide (v0.1 ≥ (↑(List.length s2) : Int)))
  ((Ob True ∧
 (Ob ((1 : Int) = r) ∧
 True)))
  ((Ob (0 ≤ v0.1 ∧ v0.1 < (↑(List.length s2) : Int)) ∧
 (Ob (Int.toNat v0.1 < List.length s2) ∧
 (Ob (ok (y41 (List.getD s1 (Int.toNat v0.1) (0 : Int)) (List.getD s2 (Int.toNat v0.1) (0 : Int)))) ∧
 Br (val (y41 (List.getD s1 (Int.toNat v0.1) (0 : Int)) (List.getD s2 (Int.toNat v0.1) (0 : Int))) != 0)
  ((Ob True ∧
 (Ob (val (y41 (List.getD s1 (Int.toNat v0.1) (0 : Int)) (List.getD s2 (Int.toNat v0.1) (0 : Int))) = r) ∧
 True)))
  ((∃ (v1 : Int × Nat), (Ob ((Option.bind (jae (y17 s1 s2) v1.2 v1.1) fun y0 => Option.bind (y64 s1 s2 y0) some) = some r) ∧
 (Ob (v1.2 < v0.2) ∧
 (Ob ((↑(List.length s1) : Int) = (↑(List.length s1) : Int)) ∧
 (Ob (wrap .i64 (v0.1 + 1) = v1.1) ∧
 (Ob (s1 = s1) ∧
 (Ob (s2 = s2) ∧
 True)))))))))))))))
 (Br (decide ((↑(List.length s1) : Int) < (↑(List.length s2) : Int)))
  ((Ob True ∧
 (Ob ((-1 : Int) = r) ∧
 True)))
  ((Ob True ∧
 (Ob ((0 : Int) = r) ∧
 True)))))))) = _) ?_
 refine ⟨⟨((0 : Int), big), ⟨jbd h⟩, (by repeat' constructor)⟩, fun z1 hz1 => ?_⟩
 obtain ⟨k1, hm1, h⟩ := jaT hz1
 refine jaN h (fun h => ?_) (fun h => ?_)
 ·refine jao h fun h => ?_
  refine jao h fun h => ?_
  refine jaN h (fun h => ?_) (fun h => ?_)
  ·have h := jaA h
   refine jad ?_
   exact rcs h
  ·refine jao h fun h => ?_
   refine jao h fun h => ?_
   refine jau h fun h => ?_
   refine jaW h (fun h => ?_) (fun h => ?_)
   ·have h := jaA h
    refine jad ?_
    exact rcs h
   ·exact ⟨(_, k1), ⟨jaL h⟩, ⟨jaZ hm1.symm⟩, (by repeat' constructor)⟩
 ·have h := jaA h
  refine jaN h (fun h => ?_) (fun h => ?_)
  ·refine jad ?_
   exact rcs h
  ·refine jad ?_
   exact rcs h
theorem jfE : jag Tryz.prog 131 true (jar y152 y121) := by
 refine jaz (sp := (sp_152 sp0)) (fn := Tryz.f131) (body := jaj Tryz.f131) mixed (sp_152_ok jak) Tryz.func131 (by kernel_rfl) (by kernel_rfl) fun as_ ob rs h ho => ?_
 unfold y121 at h
 split at h
 ·rename_i s1 s2
  cases h
  exact ⟨Nat.le_of_ble_eq_true rfl, _, _, jfD s1 s2 _ (jai ho)⟩
 ·cases h
theorem sp_131_ok {sp : jab} (h : jac Tryz.prog sp) : jac Tryz.prog (sp_131 sp) := jah jfE h
def joK : List (Option Cont) := [none]
def jcM (u24 : Int) : Option (Int × Int) :=
 some ((wrap .i64 (wrap .i64 (Int.tdiv (wrap .i64 (u24 + 900)) (10 : Int)) - 90), Int.tmod (wrap .i64 (u24 + 900)) (10 : Int)))
def jjh : List A → Option (Prop × List RV)
 | [.d (.i .i64 u24)] => some (ok (jcM u24), [.d (.i .i64 ((val (jcM u24)).1)), .d (.i .i64 ((val (jcM u24)).2))])
 | _ => none
abbrev sp_164 : jab → jab := jav 164 true (jar joK jjh)
def juz (u24 : Int) : T (Int × Int) :=
 .obC ((10 : Int) ≠ (0 : Int)) (by decide)
 (.obC ((10 : Int) ≠ (0 : Int)) (by decide)
 (.obT
 (.obT
 (.ret (((wrap .i64 (wrap .i64 (Int.tdiv (wrap .i64 (u24 + 900)) (10 : Int)) - 90), Int.tmod (wrap .i64 (u24 + 900)) (10 : Int)))) (fun r => (Ob (wrap .i64 (wrap .i64 (Int.tdiv (wrap .i64 (u24 + 900)) (10 : Int)) - 90) = r.1) ∧
 (Ob (Int.tmod (wrap .i64 (u24 + 900)) (10 : Int) = r.2) ∧
 True))) ⟨⟨rfl⟩, ⟨⟨rfl⟩, trivial⟩⟩))))
theorem jtn (u24 : Int) (r : Int × Int) (h : Option.bind (jcM u24) some = some r) : jbb Tryz.f164 (sp0) (fun _ _ _ => none) [.d (.i .i64 u24)] [.d (.i .i64 r.1), .d (.i .i64 r.2)] :=
 T.vc (t := juz u24) (by kernel_rfl) (by kernel_rfl) h
theorem jto : jag Tryz.prog 164 true (jar joK jjh) := by
 refine jaz (sp := sp0) (fn := Tryz.f164) (body := jaj Tryz.f164) mixed jak Tryz.func164 (by kernel_rfl) (by kernel_rfl) fun as_ ob rs h ho => ?_
 unfold jjh at h
 split at h
 ·rename_i u24
  cases h
  exact ⟨Nat.le_of_ble_eq_true rfl, _, _, jtn u24 _ (jai ho)⟩
 ·cases h
theorem sp_164_ok {sp : jab} (h : jac Tryz.prog sp) : jac Tryz.prog (sp_164 sp) := jah jto h
end Go.Sh
end

section
namespace Go.Sh
open Go Go.Proofs Go.RowKit Go.Sx
open Go.IntKind (wrap)
def y167 : List SV := [.c (.p [.d, .r (.floats .f32 []), .d, .d, .r (.recs 2 []), .r (.recs 2 [])]), .a [.d, .d]]
def y48 (u9 : List (List Int)) (u43 : Int) (wTo : Int) (x0 : (Int × Int × Int)) : Option ((Int × Int × Int) ⊕ (Int × Int)) :=
 if x0.1 < (↑(List.length (List.take (Int.toNat (Option.getD (some wTo) (↑(List.length u9) : Int)) - Int.toNat (Option.getD (some u43) (0 : Int))) (List.drop (Int.toNat (Option.getD (some u43) (0 : Int))) u9))) : Int) then
  if 0 ≤ x0.1 ∧ x0.1 < (↑(List.length (List.take (Int.toNat (Option.getD (some wTo) (↑(List.length u9) : Int)) - Int.toNat (Option.getD (some u43) (0 : Int))) (List.drop (Int.toNat (Option.getD (some u43) (0 : Int))) u9))) : Int) then
  if Int.toNat x0.1 < List.length (List.take (Int.toNat (Option.getD (some wTo) (↑(List.length u9) : Int)) - Int.toNat (Option.getD (some u43) (0 : Int))) (List.drop (Int.toNat (Option.getD (some u43) (0 : Int))) u9)) then
   Option.bind (jcX x0.2.1 x0.2.2 (List.getD (List.getD (List.take (Int.toNat (Option.getD (some wTo) (↑(List.length u9) : Int)) - Int.toNat (Option.getD (some u43) (0 : Int))) (List.drop (Int.toNat (Option.getD (some u43) (0 : Int))) u9)) (Int.toNat x0.1) []) (0 : Nat) (0 : Int)) (List.getD (List.getD (List.take (Int.toNat (Option.getD (some wTo) (↑(List.length u9) : Int)) - Int.toNat (Option.getD (some u43) (0 : Int))) (List.drop (Int.toNat (Option.getD (some u43) (0 : Int))) u9)) (Int.toNat x0.1) []) (1 : Nat) (0 : Int))) fun r0 =>
   some (.inl ((wrap .i64 (x0.1 + 1), wrap .i64 (x0.2.1 + List.getD (List.getD (List.take (Int.toNat (Option.getD (some wTo) (↑(List.length u9) : Int)) - Int.toNat (Option.getD (some u43) (0 : Int))) (List.drop (Int.toNat (Option.getD (some u43) (0 : Int))) u9)) (Int.toNat x0.1) []) (0 : Nat) (0 : Int)), wrap .i64 (x0.2.2 + List.getD (List.getD (List.take (Int.toNat (Option.getD (some wTo) (↑(List.length u9) : Int)) - Int.toNat (Option.getD (some u43) (0 : Int))) (List.drop (Int.toNat (Option.getD (some u43) (0 : Int))) u9)) (Int.toNat x0.1) []) (1 : Nat) (0 : Int)))))
  else none
  else none
 else
  some (.inr (x0.2.1, x0.2.2))
def jqO (u15 : Int × Int) : Option (Int × Int) :=
 some (u15.1, u15.2)
def y69 (u10 : Int) (u11 : List Nat) (u12 : Int) (u13 : Int) (u9 : List (List Int)) (u14 : List (List Int)) (u43 : Int) (wTo : Int) : Option (Int × Int) :=
 if 0 ≤ Option.getD (some u43) (0 : Int) ∧ Option.getD (some u43) 0 ≤ Option.getD (some wTo) (↑(List.length u9) : Int) ∧ Option.getD (some wTo) (↑(List.length u9) : Int) ≤ (↑(List.length u9) : Int) then
  Option.bind (jae (y48 u9 u43 wTo) big (((0 : Int), 0, 0))) (jqO)
 else none
def y168 : List Lf → Option GT
 | [.d (.i .i64 u10), .r (.floats .f32 u11), .d (.i .i64 u12), .d (.i .i64 u13), .r (.recs 2 u9), .r (.recs 2 u14), .d (.i .i64 u43), .d (.i .i64 wTo)] => some (.leaf (ok (y69 u10 u11 u12 u13 u9 u14 u43 wTo)) [.s [.d (.i .i64 ((val (y69 u10 u11 u12 u13 u9 u14 u43 wTo)).1)), .d (.i .i64 ((val (y69 u10 u11 u12 u13 u9 u14 u43 wTo)).2))]])
 | _ => none
abbrev sp_87 : jab → jab := jav 87 true (jal y167 y168)
abbrev jfF (u9 : List (List Int)) (u43 : Int) (wTo : Int) := (List.take (Int.toNat (Option.getD (some wTo) (↑(List.length u9) : Int)) - Int.toNat (Option.getD (some u43) (0 : Int))) (List.drop (Int.toNat (Option.getD (some u43) (0 : Int))) u9))
private abbrev v3q1 (u9 : List (List Int)) (u43 : Int) (wTo : Int) := (List.take (Int.toNat (Option.getD (some wTo) (↑(List.length u9) : Int)) - Int.toNat (Option.getD (some u43) (0 : Int))) (List.drop (Int.toNat (Option.getD (some u43) (0 : Int))) u9) = List.take (Int.toNat (Option.getD (some wTo) (↑(List.length u9) : Int)) - Int.toNat (Option.getD (some u43) (0 : Int))) (List.drop (Int.toNat (Option.getD (some u43) (0 : Int))) u9))
theorem jkp (u10 : Int) (u11 : List Nat) (u12 : Int) (u13 : Int) (u9 : List (List Int)) (u14 : List (List Int)) (u43 : Int) (wTo : Int) (r : Int × Int) (h : Option.bind (y69 u10 u11 u12 u13 u9 u14 u43 wTo) some = some r) : ja0 Tryz.f87 ((sp_117 sp0)) (fun gs id _ => match id with
 | 0 => some ⟨(Int × Int × Int) × Nat, fun z => ⟨[(4, .w (.c (.p 4 0 1 0))), (15, .w (.c (.o 5))), (16, .w (.c (.d (.i .i64 ((↑(List.length (List.take (Int.toNat (Option.getD (some wTo) (↑(List.length u9) : Int)) - Int.toNat (Option.getD (some u43) (0 : Int))) (List.drop (Int.toNat (Option.getD (some u43) (0 : Int))) u9))) : Int)))))), (17, .w (.c (.d (.i .i64 (Prod.fst (Prod.fst z))))))], [(4, .box 30 [.d (.i .i64 (Prod.fst (Prod.snd (Prod.fst z)))), .d (.i .i64 (Prod.snd (Prod.snd (Prod.fst z))))]), (5, .ext (.recs 2 (List.take (Int.toNat (Option.getD (some wTo) (↑(List.length u9) : Int)) - Int.toNat (Option.getD (some u43) (0 : Int))) (List.drop (Int.toNat (Option.getD (some u43) (0 : Int))) u9))))], 6⟩, fun z => Option.bind (jae (y48 u9 u43 wTo) (Prod.snd z) (Prod.fst z)) (fun y0 => Option.bind (jqO y0) some) = some r, fun z => Prod.snd z⟩
 | _ => none) (jaO y167 [.d (.i .i64 u10), .r (.floats .f32 u11), .d (.i .i64 u12), .d (.i .i64 u13), .r (.recs 2 u9), .r (.recs 2 u14), .d (.i .i64 u43), .d (.i .i64 wTo)]) [.s [.d (.i .i64 r.1), .d (.i .i64 r.2)]] := by
 refine Eq.mp (by kernel_rfl : (
 (Ob True ∧
 (Ob (0 ≤ Option.getD (some u43) (0 : Int) ∧ Option.getD (some u43) 0 ≤ Option.getD (some wTo) (↑(List.length u9) : Int) ∧ Option.getD (some wTo) (↑(List.length u9) : Int) ≤ (↑(List.length u9) : Int)) ∧
  ((∃ (v0 : (Int × Int × Int) × Nat), (Ob ((Option.bind (jae (y48 u9 u43 wTo) v0.2 v0.1) fun y0 => Option.bind (jqO y0) some) = some r) ∧
 (Ob (0 = 0) ∧
 (Ob ((↑(List.length (jfF u9 u43 wTo)) : Int) = (↑(List.length (jfF u9 u43 wTo)) : Int)) ∧
 (Ob ((0 : Int) = v0.1.1) ∧
 (Ob ((0 : Int) = v0.1.2.1) ∧
 (Ob ((0 : Int) = v0.1.2.2) ∧
 (Ob (v3q1 u9 u43 wTo) ∧
 True)))))))) ∧
  (∀ (v0 : (Int × Int × Int) × Nat), ((Option.bind (jae (y48 u9 u43 wTo) v0.2 v0.1) fun y0 => Option.bind (jqO y0) some) = some r →
 Br (decide (v0.1.1 < (↑(List.length (jfF u9 u43 wTo)) : Int)))
  ((Ob (0 ≤ v0.1.1 ∧ v0.1.1 < (↑(List.length (jfF u9 u43 wTo)) : Int)) ∧
 (Ob (Int.toNat v0.1.1 < List.length (jfF u9 u43 wTo)) ∧
 (Ob (ok (jcX v0.1.2.1 v0.1.2.2 (List.getD (List.getD (jfF u9 u43 wTo) (Int.toNat v0.1.1) []) 0 (0 : Int)) (List.getD (List.getD (jfF u9 u43 wTo) (Int.toNat v0.1.1) []) 1 (0 : Int)))) ∧
  (∃ (v1 : (Int × Int × Int) × Nat), (Ob ((Option.bind (jae (y48 u9 u43 wTo) v1.2 v1.1) fun y0 => Option.bind (jqO y0) some) = some r) ∧
 (Ob (v1.2 < v0.2) ∧
 (Ob (0 = 0) ∧
 (Ob ((↑(List.length (jfF u9 u43 wTo)) : Int) = (↑(List.length (jfF u9 u43 wTo)) : Int)) ∧
 (Ob (wrap .i64 (v0.1.1 + 1) = v1.1.1) ∧
 (Ob (wrap .i64 (v0.1.2.1 + List.getD (List.getD (jfF u9 u43 wTo) (Int.toNat v0.1.1) []) 0 (0 : Int)) = v1.1.2.1) ∧
 (Ob (wrap .i64 (v0.1.2.2 + List.getD (List.getD (jfF u9 u43 wTo) (Int.toNat v0.1.1) []) 1 (0 : Int)) = v1.1.2.2) ∧
 (Ob (v3q1 u9 u43 wTo) ∧
 True)))))))))))))
  ((Ob True ∧
 (Ob (v0.1.2.1 = r.1) ∧
 (Ob (v0.1.2.2 = r.2) ∧
 True)))))))))) = _) ?_
 refine jad ?_
 refine jao h fun h => ?_
 refine ⟨⟨(((0 : Int), 0, 0), big), ⟨jbd h⟩, (by repeat' constructor)⟩, fun z1 hz1 => ?_⟩
 obtain ⟨k1, hm1, h⟩ := jaT hz1
 refine jaN h (fun h => ?_) (fun h => ?_)
 ·refine jao h fun h => ?_
  refine jao h fun h => ?_
  refine jau h fun h => ?_
  exact ⟨(_, k1), ⟨jaL h⟩, ⟨jaZ hm1.symm⟩, (by repeat' constructor)⟩
 ·have h := jaA h
  refine jad ?_
  exact rcs h
theorem jkq : jag Tryz.prog 87 true (jal y167 y168) := by
 refine jat (sp := (sp_117 sp0)) (fn := Tryz.f87) (body := jaj Tryz.f87) mixed (sp_117_ok jak) Tryz.func87 (by kernel_rfl) (by kernel_rfl) fun ls t h ho b hb => ?_
 unfold y168 at h
 split at h
 ·rename_i u10 u11 u12 u13 u9 u14 u43 wTo
  cases h
  obtain rfl := jaB hb
  exact ⟨Nat.le_of_ble_eq_true (by kernel_rfl), _, _, jkp u10 u11 u12 u13 u9 u14 u43 wTo _ (jai ho)⟩
 ·cases h
theorem sp_87_ok {sp : jab} (h : jac Tryz.prog sp) : jac Tryz.prog (sp_87 sp) := jah jkq h
def jji : List (Option Cont) := [none, none]
def jlm (u40 : Int) (u7 : Int) : Option Int :=
 Option.bind (jbk (wrap .i64 (u7 * u40)) (1000000 : Int)) fun r0 =>
 some r0
def jfG : List A → Option (Prop × List RV)
 | [.d (.i .i64 u40), .d (.i .i64 u7)] => some (ok (jlm u40 u7), [.d (.i .i64 ((val (jlm u40 u7))))])
 | _ => none
abbrev sp_129 : jab → jab := jav 129 true (jar jji jfG)
def jqP (u40 : Int) (u7 : Int) : T (Int) :=
 .call (jbk (wrap .i64 (u7 * u40)) (1000000 : Int)) fun r0 =>
 .obT
 (.ret (r0) (fun r => (Ob (r0 = r) ∧
 True)) ⟨⟨rfl⟩, trivial⟩)
theorem jpf (u40 : Int) (u7 : Int) (r : Int) (h : Option.bind (jlm u40 u7) some = some r) : jbb Tryz.f129 ((sp_119 sp0)) (fun _ _ _ => none) [.d (.i .i64 u40), .d (.i .i64 u7)] [.d (.i .i64 r)] :=
 T.vc (t := jqP u40 u7) (by kernel_rfl) (by kernel_rfl) h
theorem jpg : jag Tryz.prog 129 true (jar jji jfG) := by
 refine jaz (sp := (sp_119 sp0)) (fn := Tryz.f129) (body := jaj Tryz.f129) mixed (sp_119_ok jak) Tryz.func129 (by kernel_rfl) (by kernel_rfl) fun as_ ob rs h ho => ?_
 unfold jfG at h
 split at h
 ·rename_i u40 u7
  cases h
  exact ⟨Nat.le_of_ble_eq_true rfl, _, _, jpf u40 u7 _ (jai ho)⟩
 ·cases h
theorem sp_129_ok {sp : jab} (h : jac Tryz.prog sp) : jac Tryz.prog (sp_129 sp) := jah jpg h
def jeN : List SV := [.c (.p [.d, .r (.floats .f32 []), .d, .d, .r (.recs 2 []), .r (.recs 2 [])]), .c (.d)]
def y74 (u10 : Int) (u11 : List Nat) (u12 : Int) (u13 : Int) (u9 : List (List Int)) (u14 : List (List Int)) (u7 : Int) : Option Int :=
 Option.bind (jlm u10 u7) fun r0 =>
 some (if r0 < (↑(List.length u9) : Int) then r0 else (↑(List.length u9) : Int))
def jeO : List Lf → Option GT
 | [.d (.i .i64 u10), .r (.floats .f32 u11), .d (.i .i64 u12), .d (.i .i64 u13), .r (.recs 2 u9), .r (.recs 2 u14), .d (.i .i64 u7)] => some (.leaf (ok (y74 u10 u11 u12 u13 u9 u14 u7)) [.c (.d (.i .i64 ((val (y74 u10 u11 u12 u13 u9 u14 u7)))))])
 | _ => none
abbrev sp_88 : jab → jab := jav 88 true (jal jeN jeO)
def jph (u10 : Int) (u11 : List Nat) (u12 : Int) (u13 : Int) (u9 : List (List Int)) (u14 : List (List Int)) (u7 : Int) : T (Int) :=
 .obT
 (.obT
 (.call (jlm u10 u7) fun r0 =>
 .obT
 (.ret ((if r0 < (↑(List.length u9) : Int) then r0 else (↑(List.length u9) : Int))) (fun r => (Ob ((if r0 < (↑(List.length u9) : Int) then r0 else (↑(List.length u9) : Int)) = r) ∧
 True)) ⟨⟨rfl⟩, trivial⟩)))
theorem jnF (u10 : Int) (u11 : List Nat) (u12 : Int) (u13 : Int) (u9 : List (List Int)) (u14 : List (List Int)) (u7 : Int) (r : Int) (h : Option.bind (y74 u10 u11 u12 u13 u9 u14 u7) some = some r) : ja0 Tryz.f88 ((sp_129 sp0)) (fun _ _ _ => none) (jaO jeN [.d (.i .i64 u10), .r (.floats .f32 u11), .d (.i .i64 u12), .d (.i .i64 u13), .r (.recs 2 u9), .r (.recs 2 u14), .d (.i .i64 u7)]) [.c (.d (.i .i64 r))] :=
 T.vc (t := jph u10 u11 u12 u13 u9 u14 u7) (by kernel_rfl) (by kernel_rfl) h
theorem jnG : jag Tryz.prog 88 true (jal jeN jeO) := by
 refine jat (sp := (sp_129 sp0)) (fn := Tryz.f88) (body := jaj Tryz.f88) mixed (sp_129_ok jak) Tryz.func88 (by kernel_rfl) (by kernel_rfl) fun ls t h ho b hb => ?_
 unfold jeO at h
 split at h
 ·rename_i u10 u11 u12 u13 u9 u14 u7
  cases h
  obtain rfl := jaB hb
  exact ⟨Nat.le_of_ble_eq_true (by kernel_rfl), _, _, jnF u10 u11 u12 u13 u9 u14 u7 _ (jai ho)⟩
 ·cases h
theorem sp_88_ok {sp : jab} (h : jac Tryz.prog sp) : jac Tryz.prog (sp_88 sp) := jah jnG h
def y169 : List SV := [.c (.p [.d, .r (.floats .f32 []), .d, .d, .r (.recs 2 []), .r (.recs 2 [])]), .c (.d)]
def y49 (u9 : List (List Int)) (u41 : Int) (x0 : (Int × Int × Int)) : Option ((Int × Int × Int) ⊕ (Int × Int)) :=
 if x0.2.2 < (↑(List.length u9) : Int) then
  if 0 ≤ x0.2.2 ∧ x0.2.2 < (↑(List.length u9) : Int) then
  if Int.toNat x0.2.2 < List.length u9 then
   if u41 ≠ (0 : Int) then
   if (Int.tmod (wrap .i64 (Int.tdiv x0.2.2 u41)) (4 : Int) == 0) = true then
    some (.inl ((wrap .i64 (x0.1 + List.getD (List.getD u9 (Int.toNat x0.2.2) []) 0 (0 : Int)), x0.2.1, wrap .i64 (x0.2.2 + 1))))
   else
    if (Int.tmod (wrap .i64 (Int.tdiv x0.2.2 u41)) (4 : Int) == 1) = true then
    some (.inl ((x0.1, wrap .i64 (x0.2.1 - List.getD (List.getD u9 (Int.toNat x0.2.2) []) 0 (0 : Int)), wrap .i64 (x0.2.2 + 1))))
    else
    if (Int.tmod (wrap .i64 (Int.tdiv x0.2.2 u41)) (4 : Int) == 2) = true then
     some (.inl ((wrap .i64 (x0.1 - List.getD (List.getD u9 (Int.toNat x0.2.2) []) 0 (0 : Int)), x0.2.1, wrap .i64 (x0.2.2 + 1))))
    else
     if (Int.tmod (wrap .i64 (Int.tdiv x0.2.2 u41)) (4 : Int) == 3) = true then
     some (.inl ((x0.1, wrap .i64 (x0.2.1 + List.getD (List.getD u9 (Int.toNat x0.2.2) []) 0 (0 : Int)), wrap .i64 (x0.2.2 + 1))))
     else
     some (.inl ((x0.1, x0.2.1, wrap .i64 (x0.2.2 + 1))))
   else none
  else none
  else none
 else
  some (.inr (x0.1, x0.2.1))
def y50 (u15 : Int × Int) : Option (Int × Int) :=
 some (u15.1, u15.2)
def jnH (u10 : Int) (u11 : List Nat) (u12 : Int) (u13 : Int) (u9 : List (List Int)) (u14 : List (List Int)) (u41 : Int) : Option (Int × Int) :=
 Option.bind (jae (y49 u9 u41) big (((0 : Int), 0, 0))) (y50)
def y170 : List Lf → Option GT
 | [.d (.i .i64 u10), .r (.floats .f32 u11), .d (.i .i64 u12), .d (.i .i64 u13), .r (.recs 2 u9), .r (.recs 2 u14), .d (.i .i64 u41)] => some (.leaf (ok (jnH u10 u11 u12 u13 u9 u14 u41)) [.c (.d (.i .i64 ((val (jnH u10 u11 u12 u13 u9 u14 u41)).1))), .c (.d (.i .i64 ((val (jnH u10 u11 u12 u13 u9 u14 u41)).2)))])
 | _ => none
abbrev sp_92 : jab → jab := jav 92 true (jal y169 y170)
abbrev jnI (u9 : List (List Int)) := ((↑(List.length u9) : Int) = (↑(List.length u9) : Int))
theorem jkr (u10 : Int) (u11 : List Nat) (u12 : Int) (u13 : Int) (u9 : List (List Int)) (u14 : List (List Int)) (u41 : Int) (r : Int × Int) (h : Option.bind (jnH u10 u11 u12 u13 u9 u14 u41) some = some r) : ja0 Tryz.f92 (sp0) (fun gs id _ => match id with
 | 0 => some ⟨(Int × Int × Int) × Nat, fun z => ⟨[(1, .w (.c (.d (.i .i64 u41)))), (4, .w (.c (.d (.i .i64 (Prod.fst (Prod.fst z)))))), (5, .w (.c (.d (.i .i64 (Prod.fst (Prod.snd (Prod.fst z))))))), (11, .w (.c (.o 1))), (12, .w (.c (.d (.i .i64 ((↑(List.length u9) : Int)))))), (13, .w (.c (.d (.i .i64 (Prod.snd (Prod.snd (Prod.fst z)))))))], [(1, .ext (.recs 2 u9))], 4⟩, fun z => Option.bind (jae (y49 u9 u41) (Prod.snd z) (Prod.fst z)) (fun y0 => Option.bind (y50 y0) some) = some r, fun z => Prod.snd z⟩
 | _ => none) (jaO y169 [.d (.i .i64 u10), .r (.floats .f32 u11), .d (.i .i64 u12), .d (.i .i64 u13), .r (.recs 2 u9), .r (.recs 2 u14), .d (.i .i64 u41)]) [.c (.d (.i .i64 r.1)), .c (.d (.i .i64 r.2))] := by
 refine Eq.mp (by kernel_rfl : (
 (Ob True ∧
  ((∃ (v0 : (Int × Int × Int) × Nat), (Ob ((Option.bind (jae (y49 u9 u41) v0.2 v0.1) fun y0 => Option.bind (y50 y0) some) = some r) ∧
 (Ob (u41 = u41) ∧
 (Ob ((0 : Int) = v0.1.1) ∧
 (Ob ((0 : Int) = v0.1.2.1) ∧
 (Ob (jnI u9) ∧
 (Ob ((0 : Int) = v0.1.2.2) ∧
 (Ob (u9 = u9) ∧
 True)))))))) ∧
  (∀ (v0 : (Int × Int × Int) × Nat), ((Option.bind (jae (y49 u9 u41) v0.2 v0.1) fun y0 => Option.bind (y50 y0) some) = some r →
 Br (decide (v0.1.2.2 < (↑(List.length u9) : Int)))
  ((Ob (0 ≤ v0.1.2.2 ∧ v0.1.2.2 < (↑(List.length u9) : Int)) ∧
 (Ob (Int.toNat v0.1.2.2 < List.length u9) ∧
 (Ob (u41 ≠ (0 : Int)) ∧
 (Ob ((4 : Int) ≠ (0 : Int)) ∧
 Br (Int.tmod (wrap .i64 (Int.tdiv v0.1.2.2 u41)) (4 : Int) == 0)
  ((∃ (v1 : (Int × Int × Int) × Nat), (Ob ((Option.bind (jae (y49 u9 u41) v1.2 v1.1) fun y0 => Option.bind (y50 y0) some) = some r) ∧
 (Ob (v1.2 < v0.2) ∧
 (Ob (u41 = u41) ∧
 (Ob (wrap .i64 (v0.1.1 + List.getD (List.getD u9 (Int.toNat v0.1.2.2) []) 0 (0 : Int)) = v1.1.1) ∧
 (Ob (v0.1.2.1 = v1.1.2.1) ∧
 (Ob (jnI u9) ∧
 (Ob (wrap .i64 (v0.1.2.2 + 1) = v1.1.2.2) ∧
 (Ob (u9 = u9) ∧
 True))))))))))
 (Br (Int.tmod (wrap .i64 (Int.tdiv v0.1.2.2 u41)) (4 : Int) == 1)
  ((∃ (v1 : (Int × Int × Int) × Nat), (Ob ((Option.bind (jae (y49 u9 u41) v1.2 v1.1) fun y0 => Option.bind (y50 y0) some) = some r) ∧
 (Ob (v1.2 < v0.2) ∧
 (Ob (u41 = u41) ∧
 (Ob (v0.1.1 = v1.1.1) ∧
 (Ob (wrap .i64 (v0.1.2.1 - List.getD (List.getD u9 (Int.toNat v0.1.2.2) []) 0 (0 : Int)) = v1.1.2.1) ∧
 (Ob (jnI u9) ∧
 (Ob (wrap .i64 (v0.1.2.2 + 1) = v1.1.2.2) ∧
 (Ob (u9 = u9) ∧
 True))))))))))
 (Br (Int.tmod (wrap .i64 (Int.tdiv v0.1.2.2 u41)) (4 : Int) == 2)
  ((∃ (v1 : (Int × Int × Int) × Nat), (Ob ((Option.bind (jae (y49 u9 u41) v1.2 v1.1) fun y0 => Option.bind (y50 y0) some) = some r) ∧
 (Ob (v1.2 < v0.2) ∧
 (Ob (u41 = u41) ∧
 (Ob (wrap .i64 (v0.1.1 - List.getD (List.getD u9 (Int.toNat v0.1.2.2) []) 0 (0 : Int)) = v1.1.1) ∧
 (Ob (v0.1.2.1 = v1.1.2.1) ∧
 (Ob (jnI u9) ∧
 (Ob (wrap .i64 (v0.1.2.2 + 1) = v1.1.2.2) ∧
 (Ob (u9 = u9) ∧
 True))))))))))
 (Br (Int.tmod (wrap .i64 (Int.tdiv v0.1.2.2 u41)) (4 : Int) == 3)
  ((∃ (v1 : (Int × Int × Int) × Nat), (Ob ((Option.bind (jae (y49 u9 u41) v1.2 v1.1) fun y0 => Option.bind (y50 y0) some) = some r) ∧
 (Ob (v1.2 < v0.2) ∧
 (Ob (u41 = u41) ∧
 (Ob (v0.1.1 = v1.1.1) ∧
 (Ob (wrap .i64 (v0.1.2.1 + List.getD (List.getD u9 (Int.toNat v0.1.2.2) []) 0 (0 : Int)) = v1.1.2.1) ∧
 (Ob (jnI u9) ∧
 (Ob (wrap .i64 (v0.1.2.2 + 1) = v1.1.2.2) ∧
 (Ob (u9 = u9) ∧
 True))))))))))
  ((∃ (v1 : (Int × Int × Int) × Nat), (Ob ((Option.bind (jae (y49 u9 u41) v1.2 v1.1) fun y0 => Option.bind (y50 y0) some) = some r) ∧
 (Ob (v1.2 < v0.2) ∧
 (Ob (u41 = u41) ∧
 (Ob (v0.1.1 = v1.1.1) ∧
 (Ob (v0.1.2.1 = v1.1.2.1) ∧
 (Ob (jnI u9) ∧
 (Ob (wrap .i64 (v0.1.2.2 + 1) = v1.1.2.2) ∧
 (Ob (u9 = u9) ∧
 True))))))))))))))))))
  ((Ob True ∧
 (Ob True ∧
 (Ob (v0.1.1 = r.1) ∧
 (Ob (v0.1.2.1 = r.2) ∧
 True)))))))))) = _) ?_
 refine jad ?_
 refine ⟨⟨(((0 : Int), 0, 0), big), ⟨jbd h⟩, (by repeat' constructor)⟩, fun z0 hz0 => ?_⟩
 obtain ⟨k0, hm0, h⟩ := jaT hz0
 refine jaN h (fun h => ?_) (fun h => ?_)
 ·refine jao h fun h => ?_
  refine jao h fun h => ?_
  refine jao h fun h => ?_
  refine jfA (p := (4 : Int) ≠ (0 : Int)) (by decide) ?_
  refine jaW h (fun h => ?_) (fun h => ?_)
  ·exact ⟨(_, k0), ⟨jaL h⟩, ⟨jaZ hm0.symm⟩, (by repeat' constructor)⟩
  ·refine jaW h (fun h => ?_) (fun h => ?_)
   ·exact ⟨(_, k0), ⟨jaL h⟩, ⟨jaZ hm0.symm⟩, (by repeat' constructor)⟩
   ·refine jaW h (fun h => ?_) (fun h => ?_)
    ·exact ⟨(_, k0), ⟨jaL h⟩, ⟨jaZ hm0.symm⟩, (by repeat' constructor)⟩
    ·refine jaW h (fun h => ?_) (fun h => ?_)
     ·exact ⟨(_, k0), ⟨jaL h⟩, ⟨jaZ hm0.symm⟩, (by repeat' constructor)⟩
     ·exact ⟨(_, k0), ⟨jaL h⟩, ⟨jaZ hm0.symm⟩, (by repeat' constructor)⟩
 ·have h := jaA h
  refine jad ?_
  refine jad ?_
  exact rcs h
theorem jks : jag Tryz.prog 92 true (jal y169 y170) := by
 refine jat (sp := sp0) (fn := Tryz.f92) (body := jaj Tryz.f92) mixed jak Tryz.func92 (by kernel_rfl) (by kernel_rfl) fun ls t h ho b hb => ?_
 unfold y170 at h
 split at h
 ·rename_i u10 u11 u12 u13 u9 u14 u41
  cases h
  obtain rfl := jaB hb
  exact ⟨Nat.le_of_ble_eq_true (by kernel_rfl), _, _, jkr u10 u11 u12 u13 u9 u14 u41 _ (jai ho)⟩
 ·cases h
theorem sp_92_ok {sp : jab} (h : jac Tryz.prog sp) : jac Tryz.prog (sp_92 sp) := jah jks h
def jir : List (Option Cont) := [none]
def y86 (n : Int) : Option Bool :=
 Option.bind (y10 n (1 : Int) (10000000000000 : Int)) fun r0 =>
 some r0
def jeP : List A → Option (Prop × List RV)
 | [.d (.i .i64 n)] => some (ok (y86 n), [.d (.b ((val (y86 n))))])
 | _ => none
abbrev sp_144 : jab → jab := jav 144 true (jar jir jeP)
def jpi (n : Int) : T (Bool) :=
 .call (y10 n (1 : Int) (10000000000000 : Int)) fun r0 =>
 .obT
 (.ret (r0) (fun r => (Ob (r0 = r) ∧
 True)) ⟨⟨rfl⟩, trivial⟩)
theorem jnJ (n : Int) (r : Bool) (h : Option.bind (y86 n) some = some r) : jbb Tryz.f144 ((sp_68 sp0)) (fun _ _ _ => none) [.d (.i .i64 n)] [.d (.b r)] :=
 T.vc (t := jpi n) (by kernel_rfl) (by kernel_rfl) h
theorem jnK : jag Tryz.prog 144 true (jar jir jeP) := by
 refine jaz (sp := (sp_68 sp0)) (fn := Tryz.f144) (body := jaj Tryz.f144) mixed (sp_68_ok jak) Tryz.func144 (by kernel_rfl) (by kernel_rfl) fun as_ ob rs h ho => ?_
 unfold jeP at h
 split at h
 ·rename_i n
  cases h
  exact ⟨Nat.le_of_ble_eq_true rfl, _, _, jnJ n _ (jai ho)⟩
 ·cases h
theorem sp_144_ok {sp : jab} (h : jac Tryz.prog sp) : jac Tryz.prog (sp_144 sp) := jah jnK h
def jis : List (Option Cont) := [none, none]
def y75 (a : Int) (b : Int) : Option Bool :=
 if b ≤ 10000 then
  some (decide (a > wrap .i64 (b * 1000000000)))
 else
  some false
def jeQ : List A → Option (Prop × List RV)
 | [.d (.i .i64 a), .d (.i .i64 b)] => some (ok (y75 a b), [.d (.b ((val (y75 a b))))])
 | _ => none
abbrev sp_145 : jab → jab := jav 145 true (jar jis jeQ)
def jpj (a : Int) (b : Int) : T (Bool) :=
 .brP (b ≤ 10000)
 (.obT
 (.ret ((decide (a > wrap .i64 (b * 1000000000)))) (fun r => (Ob (decide (a > wrap .i64 (b * 1000000000)) = r) ∧
 True)) ⟨⟨rfl⟩, trivial⟩))
 (.obT
 (.ret (false) (fun r => (Ob (false = r) ∧
 True)) ⟨⟨rfl⟩, trivial⟩))
theorem jnL (a : Int) (b : Int) (r : Bool) (h : Option.bind (y75 a b) some = some r) : jbb Tryz.f145 (sp0) (fun _ _ _ => none) [.d (.i .i64 a), .d (.i .i64 b)] [.d (.b r)] :=
 T.vc (t := jpj a b) (by kernel_rfl) (by kernel_rfl) h
theorem jnM : jag Tryz.prog 145 true (jar jis jeQ) := by
 refine jaz (sp := sp0) (fn := Tryz.f145) (body := jaj Tryz.f145) mixed jak Tryz.func145 (by kernel_rfl) (by kernel_rfl) fun as_ ob rs h ho => ?_
 unfold jeQ at h
 split at h
 ·rename_i a b
  cases h
  exact ⟨Nat.le_of_ble_eq_true rfl, _, _, jnL a b _ (jai ho)⟩
 ·cases h
theorem sp_145_ok {sp : jab} (h : jac Tryz.prog sp) : jac Tryz.prog (sp_145 sp) := jah jnM h
def je4 : List (Option Cont) := [none, none, none]
def y42 (u28 : Int) (u29 : Int) (u47 : Int) (u48 : Int) : Option Int :=
 if u48 ≥ 0 then
  if 0 ≤ u48 ∧ u48 < (↑(13 : Nat) : Int) then
  if Int.toNat u48 < List.length jay then
   Option.bind (y9 (wrap .u64 (u47 * List.getD jay (Int.toNat u48) (0 : Int))) u29) fun r0 =>
   Option.bind (y9 (1000000000 : Int) u28) fun r1 =>
   Option.bind (y24 [wrap .u64 (wrap .u64 (wrap .u64 (Int.fdiv (wrap .u64 (u47 * List.getD jay (Int.toNat u48) (0 : Int))) ((2 : Int) ^ min (32 : Nat) (IntKind.bits .u64)) * Int.fdiv u29 ((2 : Int) ^ min (32 : Nat) (IntKind.bits .u64))) + Int.fdiv (wrap .u64 (wrap .u64 (Int.fdiv (wrap .u64 (u47 * List.getD jay (Int.toNat u48) (0 : Int))) ((2 : Int) ^ min (32 : Nat) (IntKind.bits .u64)) * wrap .u64 (↑(BitVec.toNat (BitVec.ofInt (IntKind.bits .u64) u29 &&& BitVec.ofInt (IntKind.bits .u64) (4294967295 : Int))) : Int)) + Int.fdiv (wrap .u64 (wrap .u64 (↑(BitVec.toNat (BitVec.ofInt (IntKind.bits .u64) (wrap .u64 (u47 * List.getD jay (Int.toNat u48) (0 : Int))) &&& BitVec.ofInt (IntKind.bits .u64) (4294967295 : Int))) : Int) * wrap .u64 (↑(BitVec.toNat (BitVec.ofInt (IntKind.bits .u64) u29 &&& BitVec.ofInt (IntKind.bits .u64) (4294967295 : Int))) : Int))) ((2 : Int) ^ min (32 : Nat) (IntKind.bits .u64)))) ((2 : Int) ^ min (32 : Nat) (IntKind.bits .u64))) + Int.fdiv (wrap .u64 (wrap .u64 (↑(BitVec.toNat (BitVec.ofInt (IntKind.bits .u64) (wrap .u64 (wrap .u64 (Int.fdiv (wrap .u64 (u47 * List.getD jay (Int.toNat u48) (0 : Int))) ((2 : Int) ^ min (32 : Nat) (IntKind.bits .u64)) * wrap .u64 (↑(BitVec.toNat (BitVec.ofInt (IntKind.bits .u64) u29 &&& BitVec.ofInt (IntKind.bits .u64) (4294967295 : Int))) : Int)) + Int.fdiv (wrap .u64 (wrap .u64 (↑(BitVec.toNat (BitVec.ofInt (IntKind.bits .u64) (wrap .u64 (u47 * List.getD jay (Int.toNat u48) (0 : Int))) &&& BitVec.ofInt (IntKind.bits .u64) (4294967295 : Int))) : Int) * wrap .u64 (↑(BitVec.toNat (BitVec.ofInt (IntKind.bits .u64) u29 &&& BitVec.ofInt (IntKind.bits .u64) (4294967295 : Int))) : Int))) ((2 : Int) ^ min (32 : Nat) (IntKind.bits .u64)))) &&& BitVec.ofInt (IntKind.bits .u64) (4294967295 : Int))) : Int) + wrap .u64 (wrap .u64 (↑(BitVec.toNat (BitVec.ofInt (IntKind.bits .u64) (wrap .u64 (u47 * List.getD jay (Int.toNat u48) (0 : Int))) &&& BitVec.ofInt (IntKind.bits .u64) (4294967295 : Int))) : Int) * Int.fdiv u29 ((2 : Int) ^ min (32 : Nat) (IntKind.bits .u64))))) ((2 : Int) ^ min (32 : Nat) (IntKind.bits .u64))), wrap .u64 (wrap .u64 (u47 * List.getD jay (Int.toNat u48) (0 : Int)) * u29)] [wrap .u64 (wrap .u64 (wrap .u64 (Int.fdiv (1000000000 : Int) ((2 : Int) ^ min (32 : Nat) (IntKind.bits .u64)) * Int.fdiv u28 ((2 : Int) ^ min (32 : Nat) (IntKind.bits .u64))) + Int.fdiv (wrap .u64 (wrap .u64 (Int.fdiv (1000000000 : Int) ((2 : Int) ^ min (32 : Nat) (IntKind.bits .u64)) * wrap .u64 (↑(BitVec.toNat (BitVec.ofInt (IntKind.bits .u64) u28 &&& BitVec.ofInt (IntKind.bits .u64) (4294967295 : Int))) : Int)) + Int.fdiv (wrap .u64 (1000000000 * wrap .u64 (↑(BitVec.toNat (BitVec.ofInt (IntKind.bits .u64) u28 &&& BitVec.ofInt (IntKind.bits .u64) (4294967295 : Int))) : Int))) ((2 : Int) ^ min (32 : Nat) (IntKind.bits .u64)))) ((2 : Int) ^ min (32 : Nat) (IntKind.bits .u64))) + Int.fdiv (wrap .u64 (wrap .u64 (↑(BitVec.toNat (BitVec.ofInt (IntKind.bits .u64) (wrap .u64 (wrap .u64 (Int.fdiv (1000000000 : Int) ((2 : Int) ^ min (32 : Nat) (IntKind.bits .u64)) * wrap .u64 (↑(BitVec.toNat (BitVec.ofInt (IntKind.bits .u64) u28 &&& BitVec.ofInt (IntKind.bits .u64) (4294967295 : Int))) : Int)) + Int.fdiv (wrap .u64 (1000000000 * wrap .u64 (↑(BitVec.toNat (BitVec.ofInt (IntKind.bits .u64) u28 &&& BitVec.ofInt (IntKind.bits .u64) (4294967295 : Int))) : Int))) ((2 : Int) ^ min (32 : Nat) (IntKind.bits .u64)))) &&& BitVec.ofInt (IntKind.bits .u64) (4294967295 : Int))) : Int) + wrap .u64 (1000000000 * Int.fdiv u28 ((2 : Int) ^ min (32 : Nat) (IntKind.bits .u64))))) ((2 : Int) ^ min (32 : Nat) (IntKind.bits .u64))), wrap .u64 (1000000000 * u28)]) fun r2 =>
   some r2
  else none
  else none
 else
  if 0 ≤ wrap .i64 (0 - u48) ∧ wrap .i64 (0 - u48) < (↑(13 : Nat) : Int) then
  if Int.toNat (wrap .i64 (0 - u48)) < List.length jay then
   Option.bind (y9 u47 u29) fun r3 =>
   Option.bind (y9 (wrap .u64 (1000000000 * List.getD jay (Int.toNat (wrap .i64 (0 - u48))) (0 : Int))) u28) fun r4 =>
   Option.bind (y24 [wrap .u64 (wrap .u64 (wrap .u64 (Int.fdiv u47 ((2 : Int) ^ min (32 : Nat) (IntKind.bits .u64)) * Int.fdiv u29 ((2 : Int) ^ min (32 : Nat) (IntKind.bits .u64))) + Int.fdiv (wrap .u64 (wrap .u64 (Int.fdiv u47 ((2 : Int) ^ min (32 : Nat) (IntKind.bits .u64)) * wrap .u64 (↑(BitVec.toNat (BitVec.ofInt (IntKind.bits .u64) u29 &&& BitVec.ofInt (IntKind.bits .u64) (4294967295 : Int))) : Int)) + Int.fdiv (wrap .u64 (wrap .u64 (↑(BitVec.toNat (BitVec.ofInt (IntKind.bits .u64) u47 &&& BitVec.ofInt (IntKind.bits .u64) (4294967295 : Int))) : Int) * wrap .u64 (↑(BitVec.toNat (BitVec.ofInt (IntKind.bits .u64) u29 &&& BitVec.ofInt (IntKind.bits .u64) (4294967295 : Int))) : Int))) ((2 : Int) ^ min (32 : Nat) (IntKind.bits .u64)))) ((2 : Int) ^ min (32 : Nat) (IntKind.bits .u64))) + Int.fdiv (wrap .u64 (wrap .u64 (↑(BitVec.toNat (BitVec.ofInt (IntKind.bits .u64) (wrap .u64 (wrap .u64 (Int.fdiv u47 ((2 : Int) ^ min (32 : Nat) (IntKind.bits .u64)) * wrap .u64 (↑(BitVec.toNat (BitVec.ofInt (IntKind.bits .u64) u29 &&& BitVec.ofInt (IntKind.bits .u64) (4294967295 : Int))) : Int)) + Int.fdiv (wrap .u64 (wrap .u64 (↑(BitVec.toNat (BitVec.ofInt (IntKind.bits .u64) u47 &&& BitVec.ofInt (IntKind.bits .u64) (4294967295 : Int))) : Int) * wrap .u64 (↑(BitVec.toNat (BitVec.ofInt (IntKind.bits .u64) u29 &&& BitVec.ofInt (IntKind.bits .u64) (4294967295 : Int))) : Int))) ((2 : Int) ^ min (32 : Nat) (IntKind.bits .u64)))) &&& BitVec.ofInt (IntKind.bits .u64) (4294967295 : Int))) : Int) + wrap .u64 (wrap .u64 (↑(BitVec.toNat (BitVec.ofInt (IntKind.bits .u64) u47 &&& BitVec.ofInt (IntKind.bits .u64) (4294967295 : Int))) : Int) * Int.fdiv u29 ((2 : Int) ^ min (32 : Nat) (IntKind.bits .u64))))) ((2 : Int) ^ min (32 : Nat) (IntKind.bits .u64))), wrap .u64 (u47 * u29)] [wrap .u64 (wrap .u64 (wrap .u64 (Int.fdiv (wrap .u64 (1000000000 * List.getD jay (Int.toNat (wrap .i64 (0 - u48))) (0 : Int))) ((2 : Int) ^ min (32 : Nat) (IntKind.bits .u64)) * Int.fdiv u28 ((2 : Int) ^ min (32 : Nat) (IntKind.bits .u64))) + Int.fdiv (wrap .u64 (wrap .u64 (Int.fdiv (wrap .u64 (1000000000 * List.getD jay (Int.toNat (wrap .i64 (0 - u48))) (0 : Int))) ((2 : Int) ^ min (32 : Nat) (IntKind.bits .u64)) * wrap .u64 (↑(BitVec.toNat (BitVec.ofInt (IntKind.bits .u64) u28 &&& BitVec.ofInt (IntKind.bits .u64) (4294967295 : Int))) : Int)) + Int.fdiv (wrap .u64 (wrap .u64 (↑(BitVec.toNat (BitVec.ofInt (IntKind.bits .u64) (wrap .u64 (1000000000 * List.getD jay (Int.toNat (wrap .i64 (0 - u48))) (0 : Int))) &&& BitVec.ofInt (IntKind.bits .u64) (4294967295 : Int))) : Int) * wrap .u64 (↑(BitVec.toNat (BitVec.ofInt (IntKind.bits .u64) u28 &&& BitVec.ofInt (IntKind.bits .u64) (4294967295 : Int))) : Int))) ((2 : Int) ^ min (32 : Nat) (IntKind.bits .u64)))) ((2 : Int) ^ min (32 : Nat) (IntKind.bits .u64))) + Int.fdiv (wrap .u64 (wrap .u64 (↑(BitVec.toNat (BitVec.ofInt (IntKind.bits .u64) (wrap .u64 (wrap .u64 (Int.fdiv (wrap .u64 (1000000000 * List.getD jay (Int.toNat (wrap .i64 (0 - u48))) (0 : Int))) ((2 : Int) ^ min (32 : Nat) (IntKind.bits .u64)) * wrap .u64 (↑(BitVec.toNat (BitVec.ofInt (IntKind.bits .u64) u28 &&& BitVec.ofInt (IntKind.bits .u64) (4294967295 : Int))) : Int)) + Int.fdiv (wrap .u64 (wrap .u64 (↑(BitVec.toNat (BitVec.ofInt (IntKind.bits .u64) (wrap .u64 (1000000000 * List.getD jay (Int.toNat (wrap .i64 (0 - u48))) (0 : Int))) &&& BitVec.ofInt (IntKind.bits .u64) (4294967295 : Int))) : Int) * wrap .u64 (↑(BitVec.toNat (BitVec.ofInt (IntKind.bits .u64) u28 &&& BitVec.ofInt (IntKind.bits .u64) (4294967295 : Int))) : Int))) ((2 : Int) ^ min (32 : Nat) (IntKind.bits .u64)))) &&& BitVec.ofInt (IntKind.bits .u64) (4294967295 : Int))) : Int) + wrap .u64 (wrap .u64 (↑(BitVec.toNat (BitVec.ofInt (IntKind.bits .u64) (wrap .u64 (1000000000 * List.getD jay (Int.toNat (wrap .i64 (0 - u48))) (0 : Int))) &&& BitVec.ofInt (IntKind.bits .u64) (4294967295 : Int))) : Int) * Int.fdiv u28 ((2 : Int) ^ min (32 : Nat) (IntKind.bits .u64))))) ((2 : Int) ^ min (32 : Nat) (IntKind.bits .u64))), wrap .u64 (wrap .u64 (1000000000 * List.getD jay (Int.toNat (wrap .i64 (0 - u48))) (0 : Int)) * u28)]) fun r5 =>
   some r5
  else none
  else none
def y156 : List A → Option (Prop × List RV)
 | [.s [.i .u64 u28, .i .u64 u29], .d (.i .u64 u47), .d (.i .i64 u48)] => some (ok (y42 u28 u29 u47 u48), [.d (.i .i64 ((val (y42 u28 u29 u47 u48))))])
 | _ => none
abbrev sp_165 : jab → jab := jav 165 true (jar je4 y156)
abbrev jbm  := ((2 : Int) ^ min (32 : Nat) (IntKind.bits .u64))
abbrev jpM (u29 : Int) := (↑(BitVec.toNat (BitVec.ofInt (IntKind.bits .u64) u29 &&& BitVec.ofInt (IntKind.bits .u64) (4294967295 : Int))) : Int)
abbrev jke (u28 : Int) := (↑(BitVec.toNat (BitVec.ofInt (IntKind.bits .u64) u28 &&& BitVec.ofInt (IntKind.bits .u64) (4294967295 : Int))) : Int)
abbrev jmy (u48 : Int) := (wrap .u64 (1000000000 * List.getD jay (Int.toNat (wrap .i64 (0 - u48))) (0 : Int)))
abbrev jxe (u29 : Int) (u47 : Int) (u48 : Int) := (wrap .u64 (wrap .u64 (Int.fdiv (wrap .u64 (u47 * List.getD jay (Int.toNat u48) (0 : Int))) (jbm) * wrap .u64 (jpM u29)) + Int.fdiv (wrap .u64 (wrap .u64 (↑(BitVec.toNat (BitVec.ofInt (IntKind.bits .u64) (wrap .u64 (u47 * List.getD jay (Int.toNat u48) (0 : Int))) &&& BitVec.ofInt (IntKind.bits .u64) (4294967295 : Int))) : Int) * wrap .u64 (jpM u29))) (jbm)))
abbrev jxf (u28 : Int) (u48 : Int) := (wrap .u64 (wrap .u64 (Int.fdiv (jmy u48) (jbm) * wrap .u64 (jke u28)) + Int.fdiv (wrap .u64 (wrap .u64 (↑(BitVec.toNat (BitVec.ofInt (IntKind.bits .u64) (jmy u48) &&& BitVec.ofInt (IntKind.bits .u64) (4294967295 : Int))) : Int) * wrap .u64 (jke u28))) (jbm)))
abbrev jxg (u29 : Int) (u47 : Int) := (wrap .u64 (wrap .u64 (Int.fdiv u47 (jbm) * wrap .u64 (jpM u29)) + Int.fdiv (wrap .u64 (wrap .u64 (↑(BitVec.toNat (BitVec.ofInt (IntKind.bits .u64) u47 &&& BitVec.ofInt (IntKind.bits .u64) (4294967295 : Int))) : Int) * wrap .u64 (jpM u29))) (jbm)))
def jkt (u28 : Int) (u29 : Int) (u47 : Int) (u48 : Int) : T (Int) :=
 .brP (u48 ≥ 0)
 (.obP (0 ≤ u48 ∧ u48 < (↑(13 : Nat) : Int))
 (.obP (Int.toNat u48 < List.length jay)
 (.call (y9 (wrap .u64 (u47 * List.getD jay (Int.toNat u48) (0 : Int))) u29) fun r0 =>
 .call (y9 (1000000000 : Int) u28) fun r1 =>
 .call (y24 [wrap .u64 (wrap .u64 (wrap .u64 (Int.fdiv (wrap .u64 (u47 * List.getD jay (Int.toNat u48) (0 : Int))) (jbm) * Int.fdiv u29 (jbm)) + Int.fdiv (jxe u29 u47 u48) (jbm)) + Int.fdiv (wrap .u64 (wrap .u64 (↑(BitVec.toNat (BitVec.ofInt (IntKind.bits .u64) (jxe u29 u47 u48) &&& BitVec.ofInt (IntKind.bits .u64) (4294967295 : Int))) : Int) + wrap .u64 (wrap .u64 (↑(BitVec.toNat (BitVec.ofInt (IntKind.bits .u64) (wrap .u64 (u47 * List.getD jay (Int.toNat u48) (0 : Int))) &&& BitVec.ofInt (IntKind.bits .u64) (4294967295 : Int))) : Int) * Int.fdiv u29 (jbm)))) (jbm)), wrap .u64 (wrap .u64 (u47 * List.getD jay (Int.toNat u48) (0 : Int)) * u29)] [wrap .u64 (wrap .u64 (wrap .u64 (Int.fdiv (1000000000 : Int) (jbm) * Int.fdiv u28 (jbm)) + Int.fdiv (wrap .u64 (wrap .u64 (Int.fdiv (1000000000 : Int) (jbm) * wrap .u64 (jke u28)) + Int.fdiv (wrap .u64 (1000000000 * wrap .u64 (jke u28))) (jbm))) (jbm)) + Int.fdiv (wrap .u64 (wrap .u64 (↑(BitVec.toNat (BitVec.ofInt (IntKind.bits .u64) (wrap .u64 (wrap .u64 (Int.fdiv (1000000000 : Int) (jbm) * wrap .u64 (jke u28)) + Int.fdiv (wrap .u64 (1000000000 * wrap .u64 (jke u28))) (jbm))) &&& BitVec.ofInt (IntKind.bits .u64) (4294967295 : Int))) : Int) + wrap .u64 (1000000000 * Int.fdiv u28 (jbm)))) (jbm)), wrap .u64 (1000000000 * u28)]) fun r2 =>
 .obT
 (.ret (r2) (fun r => (Ob (r2 = r) ∧
 True)) ⟨⟨rfl⟩, trivial⟩))))
 (.obP (0 ≤ wrap .i64 (0 - u48) ∧ wrap .i64 (0 - u48) < (↑(13 : Nat) : Int))
 (.obP (Int.toNat (wrap .i64 (0 - u48)) < List.length jay)
 (.call (y9 u47 u29) fun r3 =>
 .call (y9 (jmy u48) u28) fun r4 =>
 .call (y24 [wrap .u64 (wrap .u64 (wrap .u64 (Int.fdiv u47 (jbm) * Int.fdiv u29 (jbm)) + Int.fdiv (jxg u29 u47) (jbm)) + Int.fdiv (wrap .u64 (wrap .u64 (↑(BitVec.toNat (BitVec.ofInt (IntKind.bits .u64) (jxg u29 u47) &&& BitVec.ofInt (IntKind.bits .u64) (4294967295 : Int))) : Int) + wrap .u64 (wrap .u64 (↑(BitVec.toNat (BitVec.ofInt (IntKind.bits .u64) u47 &&& BitVec.ofInt (IntKind.bits .u64) (4294967295 : Int))) : Int) * Int.fdiv u29 (jbm)))) (jbm)), wrap .u64 (u47 * u29)] [wrap .u64 (wrap .u64 (wrap .u64 (Int.fdiv (jmy u48) (jbm) * Int.fdiv u28 (jbm)) + Int.fdiv (jxf u28 u48) (jbm)) + Int.fdiv (wrap .u64 (wrap .u64 (↑(BitVec.toNat (BitVec.ofInt (IntKind.bits .u64) (jxf u28 u48) &&& BitVec.ofInt (IntKind.bits .u64) (4294967295 : Int))) : Int) + wrap .u64 (wrap .u64 (↑(BitVec.toNat (BitVec.ofInt (IntKind.bits .u64) (jmy u48) &&& BitVec.ofInt (IntKind.bits .u64) (4294967295 : Int))) : Int) * Int.fdiv u28 (jbm)))) (jbm)), wrap .u64 (wrap .u64 (1000000000 * List.getD jay (Int.toNat (wrap .i64 (0 - u48))) (0 : Int)) * u28)]) fun r5 =>
 .obT
 (.ret (r5) (fun r => (Ob (r5 = r) ∧
 True)) ⟨⟨rfl⟩, trivial⟩))))
theorem jjj (u28 : Int) (u29 : Int) (u47 : Int) (u48 : Int) (r : Int) (h : Option.bind (y42 u28 u29 u47 u48) some = some r) : jbb Tryz.f165 ((sp_126 (sp_131 sp0))) (fun _ _ _ => none) [.s [.i .u64 u28, .i .u64 u29], .d (.i .u64 u47), .d (.i .i64 u48)] [.d (.i .i64 r)] :=
 T.vc (t := jkt u28 u29 u47 u48) (by kernel_rfl) (by kernel_rfl) h
theorem jjk : jag Tryz.prog 165 true (jar je4 y156) := by
 refine jaz (sp := (sp_126 (sp_131 sp0))) (fn := Tryz.f165) (body := jaj Tryz.f165) mixed (sp_126_ok (sp_131_ok jak)) Tryz.func165 (by kernel_rfl) (by kernel_rfl) fun as_ ob rs h ho => ?_
 unfold y156 at h
 split at h
 ·rename_i u28 u29 u47 u48
  cases h
  exact ⟨Nat.le_of_ble_eq_true rfl, _, _, jjj u28 u29 u47 u48 _ (jai ho)⟩
 ·cases h
theorem sp_165_ok {sp : jab} (h : jac Tryz.prog sp) : jac Tryz.prog (sp_165 sp) := jah jjk h
def jgg : List (Option Cont) := [none, none]
def y90 (u28 : Int) (u29 : Int) (u24 : Int) : Option Bool :=
 Option.bind (jcM u24) fun r0 =>
 if 0 ≤ Int.tmod (wrap .i64 (u24 + 900)) (10 : Int) ∧ Int.tmod (wrap .i64 (u24 + 900)) 10 < (↑(10 : Nat) : Int) then
  if Int.toNat (Int.tmod (wrap .i64 (u24 + 900)) (10 : Int)) < List.length ja3 then
  if Int.tmod (wrap .i64 (u24 + 900)) (10 : Int) > 0 then
   Option.bind (y42 u28 u29 (wrap .u64 (List.getD ja3 (Int.toNat (Int.tmod (wrap .i64 (u24 + 900)) (10 : Int))) (0 : Int) + 1)) (wrap .i64 (wrap .i64 (Int.tdiv (wrap .i64 (u24 + 900)) (10 : Int)) - 90))) fun r1 =>
   some (decide (r1 ≤ 0))
  else
   Option.bind (y42 u28 u29 (List.getD ja3 (Int.toNat (Int.tmod (wrap .i64 (u24 + 900)) (10 : Int))) (0 : Int)) (wrap .i64 (wrap .i64 (Int.tdiv (wrap .i64 (u24 + 900)) (10 : Int)) - 90))) fun r2 =>
   some (decide (r2 ≤ 0))
  else none
 else none
def y182 : List A → Option (Prop × List RV)
 | [.s [.i .u64 u28, .i .u64 u29], .d (.i .i64 u24)] => some (ok (y90 u28 u29 u24), [.d (.b ((val (y90 u28 u29 u24))))])
 | _ => none
abbrev sp_146 : jab → jab := jav 146 true (jar jgg y182)
def jmz (u28 : Int) (u29 : Int) (u24 : Int) : T (Bool) :=
 .call (jcM u24) fun r0 =>
 .obP (0 ≤ Int.tmod (wrap .i64 (u24 + 900)) (10 : Int) ∧ Int.tmod (wrap .i64 (u24 + 900)) 10 < (↑(10 : Nat) : Int))
 (.obP (Int.toNat (Int.tmod (wrap .i64 (u24 + 900)) (10 : Int)) < List.length ja3)
 (.brP (Int.tmod (wrap .i64 (u24 + 900)) (10 : Int) > 0)
 (.call (y42 u28 u29 (wrap .u64 (List.getD ja3 (Int.toNat (Int.tmod (wrap .i64 (u24 + 900)) (10 : Int))) (0 : Int) + 1)) (wrap .i64 (wrap .i64 (Int.tdiv (wrap .i64 (u24 + 900)) (10 : Int)) - 90))) fun r1 =>
 .obT
 (.ret ((decide (r1 ≤ 0))) (fun r => (Ob (decide (r1 ≤ 0) = r) ∧
 True)) ⟨⟨rfl⟩, trivial⟩))
 (.call (y42 u28 u29 (List.getD ja3 (Int.toNat (Int.tmod (wrap .i64 (u24 + 900)) (10 : Int))) (0 : Int)) (wrap .i64 (wrap .i64 (Int.tdiv (wrap .i64 (u24 + 900)) (10 : Int)) - 90))) fun r2 =>
 .obT
 (.ret ((decide (r2 ≤ 0))) (fun r => (Ob (decide (r2 ≤ 0) = r) ∧
 True)) ⟨⟨rfl⟩, trivial⟩))))
theorem jln (u28 : Int) (u29 : Int) (u24 : Int) (r : Bool) (h : Option.bind (y90 u28 u29 u24) some = some r) : jbb Tryz.f146 ((sp_164 (sp_165 sp0))) (fun _ _ _ => none) [.s [.i .u64 u28, .i .u64 u29], .d (.i .i64 u24)] [.d (.b r)] :=
 T.vc (t := jmz u28 u29 u24) (by kernel_rfl) (by kernel_rfl) h
theorem jlo : jag Tryz.prog 146 true (jar jgg y182) := by
 refine jaz (sp := (sp_164 (sp_165 sp0))) (fn := Tryz.f146) (body := jaj Tryz.f146) mixed (sp_164_ok (sp_165_ok jak)) Tryz.func146 (by kernel_rfl) (by kernel_rfl) fun as_ ob rs h ho => ?_
 unfold y182 at h
 split at h
 ·rename_i u28 u29 u24
  cases h
  exact ⟨Nat.le_of_ble_eq_true rfl, _, _, jln u28 u29 u24 _ (jai ho)⟩
 ·cases h
theorem sp_146_ok {sp : jab} (h : jac Tryz.prog sp) : jac Tryz.prog (sp_146 sp) := jah jlo h
def jg4 : List (Option Cont) := [none, none]
def jjl (u28 : Int) (u29 : Int) (u24 : Int) : Option Bool :=
 Option.bind (jcM u24) fun r0 =>
 if 0 ≤ Int.tmod (wrap .i64 (u24 + 900)) (10 : Int) ∧ Int.tmod (wrap .i64 (u24 + 900)) 10 < (↑(10 : Nat) : Int) then
  if Int.toNat (Int.tmod (wrap .i64 (u24 + 900)) (10 : Int)) < List.length ja3 then
  Option.bind (y42 u28 u29 (List.getD ja3 (Int.toNat (Int.tmod (wrap .i64 (u24 + 900)) (10 : Int))) (0 : Int)) (wrap .i64 (wrap .i64 (Int.tdiv (wrap .i64 (u24 + 900)) (10 : Int)) - 90))) fun r1 =>
  some (decide (r1 ≥ 0))
  else none
 else none
def jd7 : List A → Option (Prop × List RV)
 | [.s [.i .u64 u28, .i .u64 u29], .d (.i .i64 u24)] => some (ok (jjl u28 u29 u24), [.d (.b ((val (jjl u28 u29 u24))))])
 | _ => none
abbrev sp_147 : jab → jab := jav 147 true (jar jg4 jd7)
def jnN (u28 : Int) (u29 : Int) (u24 : Int) : T (Bool) :=
 .call (jcM u24) fun r0 =>
 .obP (0 ≤ Int.tmod (wrap .i64 (u24 + 900)) (10 : Int) ∧ Int.tmod (wrap .i64 (u24 + 900)) 10 < (↑(10 : Nat) : Int))
 (.obP (Int.toNat (Int.tmod (wrap .i64 (u24 + 900)) (10 : Int)) < List.length ja3)
 (.call (y42 u28 u29 (List.getD ja3 (Int.toNat (Int.tmod (wrap .i64 (u24 + 900)) (10 : Int))) (0 : Int)) (wrap .i64 (wrap .i64 (Int.tdiv (wrap .i64 (u24 + 900)) (10 : Int)) - 90))) fun r1 =>
 .obT
 (.ret ((decide (r1 ≥ 0))) (fun r => (Ob (decide (r1 ≥ 0) = r) ∧
 True)) ⟨⟨rfl⟩, trivial⟩)))
theorem jmA (u28 : Int) (u29 : Int) (u24 : Int) (r : Bool) (h : Option.bind (jjl u28 u29 u24) some = some r) : jbb Tryz.f147 ((sp_164 (sp_165 sp0))) (fun _ _ _ => none) [.s [.i .u64 u28, .i .u64 u29], .d (.i .i64 u24)] [.d (.b r)] :=
 T.vc (t := jnN u28 u29 u24) (by kernel_rfl) (by kernel_rfl) h
theorem jmB : jag Tryz.prog 147 true (jar jg4 jd7) := by
 refine jaz (sp := (sp_164 (sp_165 sp0))) (fn := Tryz.f147) (body := jaj Tryz.f147) mixed (sp_164_ok (sp_165_ok jak)) Tryz.func147 (by kernel_rfl) (by kernel_rfl) fun as_ ob rs h ho => ?_
 unfold jd7 at h
 split at h
 ·rename_i u28 u29 u24
  cases h
  exact ⟨Nat.le_of_ble_eq_true rfl, _, _, jmA u28 u29 u24 _ (jai ho)⟩
 ·cases h
theorem sp_147_ok {sp : jab} (h : jac Tryz.prog sp) : jac Tryz.prog (sp_147 sp) := jah jmB h
def jkX : List (Option Cont) := [none, none]
def jjm (num : Int) (den : Int) (x0 : Int) : Option (Int ⊕ Int) :=
 Option.bind (y90 (wrap .u64 num) (wrap .u64 den) x0) fun r4 =>
 if (!r4) = true then
  some (.inl (wrap .i64 (x0 - 1)))
 else
  some (.inr x0)
def jjn (num : Int) (den : Int) (x1 : Int) : Option (Int ⊕ Int) :=
 Option.bind (jjl (wrap .u64 num) (wrap .u64 den) x1) fun r5 =>
 if (!r5) = true then
  some (.inl (wrap .i64 (x1 + 1)))
 else
  some (.inr x1)
def jqQ (u15 : Int) (u49 : Int) : Option (Int × Int × Int) :=
 some ((u15, u49, 0))
def jnO (num : Int) (den : Int) (u15 : Int) : Option (Int × Int × Int) :=
 Option.bind (jae (jjn num den) big (-90 : Int)) (jqQ u15)
def jfH (num : Int) (den : Int) : Option (Int × Int × Int) :=
 Option.bind (y86 num) fun r0 =>
 if (!r0) = true then
  some (((0 : Int), 0, 2))
 else
  Option.bind (y86 den) fun r1 =>
  if (!r1) = true then
  some (((0 : Int), 0, 2))
  else
  Option.bind (y75 num den) fun r2 =>
  if (r2) = true then
   some (((0 : Int), 0, 8))
  else
   Option.bind (y75 den num) fun r3 =>
   if (r3) = true then
   some (((0 : Int), 0, 8))
   else
   Option.bind (jae (jjm num den) big (90 : Int)) (jnO num den)
def jgA : List A → Option (Prop × List RV)
 | [.d (.i .i64 num), .d (.i .i64 den)] => some (ok (jfH num den), [.s [.i .i64 ((val (jfH num den)).1), .i .i64 ((val (jfH num den)).2.1)], .d (.i .i64 ((val (jfH num den)).2.2))])
 | _ => none
abbrev sp_123 : jab → jab := jav 123 true (jar jkX jgA)
theorem jqR (num : Int) (den : Int) (r : Int × Int × Int) (h : Option.bind (jfH num den) some = some r) : jbb Tryz.f123 ((sp_144 (sp_145 (sp_146 (sp_147 sp0))))) (fun gs id _ => match id with
 | 1 => some ⟨Int × Nat, fun z => ⟨[(4, .w (.c (.p 2 0 1 0))), (8, .w (.c (.p 3 0 1 0))), (9, .w (.c (.p 4 0 1 0)))], [(2, .box 30 [.d (.i .i64 0), .d (.i .i64 0)]), (3, .box 188 [.d (.i .u64 (wrap .u64 num)), .d (.i .u64 (wrap .u64 den))]), (4, .box 30 [.d (.i .i64 (Prod.fst z)), .d (.i .i64 (-90 : Int))])], 5⟩, fun z => Option.bind (jae (jjm num den) (Prod.snd z) (Prod.fst z)) (fun y0 => Option.bind (jnO num den y0) some) = some r, fun z => Prod.snd z⟩
 | 3 => some ⟨Int × Int × Nat, fun z => ⟨[(4, .w (.c (.p 2 0 1 0))), (8, .w (.c (.p 3 0 1 0))), (9, .w (.c (.p 4 0 1 0)))], [(2, .box 30 [.d (.i .i64 0), .d (.i .i64 0)]), (3, .box 188 [.d (.i .u64 (wrap .u64 num)), .d (.i .u64 (wrap .u64 den))]), (4, .box 30 [.d (.i .i64 (Prod.fst z)), .d (.i .i64 (Prod.fst (Prod.snd z)))])], 5⟩, fun z => Option.bind (jae (jjn num den) (Prod.snd (Prod.snd z)) (Prod.fst (Prod.snd z))) (fun y0 => Option.bind (jqQ (Prod.fst z) y0) some) = some r, fun z => Prod.snd (Prod.snd z)⟩
 | _ => none) [.d (.i .i64 num), .d (.i .i64 den)] [.s [.i .i64 r.1, .i .i64 r.2.1], .d (.i .i64 r.2.2)] := by
 refine Eq.mp (by kernel_rfl : (
 (Ob (ok (y86 num)) ∧
 Br (!val (y86 num))
  ((Ob True ∧
 (Ob True ∧
 (Ob ((0 : Int) = r.1) ∧
 (Ob ((0 : Int) = r.2.1) ∧
 (Ob ((2 : Int) = r.2.2) ∧
 True))))))
  ((Ob (ok (y86 den)) ∧
 Br (!val (y86 den))
  ((Ob True ∧
 (Ob True ∧
 (Ob ((0 : Int) = r.1) ∧
 (Ob ((0 : Int) = r.2.1) ∧
 (Ob ((2 : Int) = r.2.2) ∧
 True))))))
  ((Ob (ok (y75 num den)) ∧
 Br (val (y75 num den))
  ((Ob True ∧
 (Ob True ∧
 (Ob ((0 : Int) = r.1) ∧
 (Ob ((0 : Int) = r.2.1) ∧
 (Ob ((8 : Int) = r.2.2) ∧
 True))))))
  ((Ob (ok (y75 den num)) ∧
 Br (val (y75 den num))
  ((Ob True ∧
 (Ob True ∧
 (Ob ((0 : Int) = r.1) ∧
 (Ob ((0 : Int) = r.2.1) ∧
 (Ob ((8 : Int) = r.2.2) ∧
 True))))))
  ((Ob True ∧
 (Ob True ∧
  ((∃ (v0 : Int × Nat), (Ob ((Option.bind (jae (jjm num den) v0.2 v0.1) fun y0 => Option.bind (jnO num den y0) some) = some r) ∧
 (Ob (0 = 0) ∧
 (Ob (0 = 0) ∧
 (Ob (0 = 0) ∧
 (Ob ((0 : Int) = (0 : Int)) ∧
 (Ob ((0 : Int) = (0 : Int)) ∧
 (Ob (wrap .u64 num = wrap .u64 num) ∧
 (Ob (wrap .u64 den = wrap .u64 den) ∧
 (Ob ((90 : Int) = v0.1) ∧
 (Ob ((-90 : Int) = (-90 : Int)) ∧
 True))))))))))) ∧
  (∀ (v0 : Int × Nat), ((Option.bind (jae (jjm num den) v0.2 v0.1) fun y0 => Option.bind (jnO num den y0) some) = some r →
 (Ob (ok (y90 (wrap .u64 num) (wrap .u64 den) v0.1)) ∧
 Br (!val (y90 (wrap .u64 num) (wrap .u64 den) v0.1))
  ((∃ (v1 : Int × Nat), (Ob ((Option.bind (jae (jjm num den) v1.2 v1.1) fun y0 => Option.bind (jnO num den y0) some) = some r) ∧
 (Ob (v1.2 < v0.2) ∧
 (Ob (0 = 0) ∧
 (Ob (0 = 0) ∧
 (Ob (0 = 0) ∧
 (Ob ((0 : Int) = (0 : Int)) ∧
 (Ob ((0 : Int) = (0 : Int)) ∧
 (Ob (wrap .u64 num = wrap .u64 num) ∧
 (Ob (wrap .u64 den = wrap .u64 den) ∧
 (Ob (wrap .i64 (v0.1 - 1) = v1.1) ∧
 (Ob ((-90 : Int) = (-90 : Int)) ∧
 True)))))))))))))
  (((∃ (v1a : Int × Int × Nat), (Ob ((Option.bind (jae (jjn num den) v1a.2.2 v1a.2.1) fun y0 => Option.bind (jqQ v1a.1 y0) some) = some r) ∧
 (Ob (0 = 0) ∧
 (Ob (0 = 0) ∧
 (Ob (0 = 0) ∧
 (Ob ((0 : Int) = (0 : Int)) ∧
 (Ob ((0 : Int) = (0 : Int)) ∧
 (Ob (wrap .u64 num = wrap .u64 num) ∧
 (Ob (wrap .u64 den = wrap .u64 den) ∧
 (Ob (v0.1 = v1a.1) ∧
 (Ob ((-90 : Int) = v1a.2.1) ∧
 True))))))))))) ∧
  (∀ (v1a : Int × Int × Nat), ((Option.bind (jae (jjn num den) v1a.2.2 v1a.2.1) fun y0 => Option.bind (jqQ v1a.1 y0) some) = some r →
 (Ob (ok (jjl (wrap .u64 num) (wrap .u64 den) v1a.2.1)) ∧
 Br (!val (jjl (wrap .u64 num) (wrap .u64 den) v1a.2.1))
  ((∃ (v2 : Int × Int × Nat), (Ob ((Option.bind (jae (jjn num den) v2.2.2 v2.2.1) fun y0 => Option.bind (jqQ v2.1 y0) some) = some r) ∧
 (Ob (v2.2.2 < v1a.2.2) ∧
 (Ob (0 = 0) ∧
 (Ob (0 = 0) ∧
 (Ob (0 = 0) ∧
 (Ob ((0 : Int) = (0 : Int)) ∧
 (Ob ((0 : Int) = (0 : Int)) ∧
 (Ob (wrap .u64 num = wrap .u64 num) ∧
 (Ob (wrap .u64 den = wrap .u64 den) ∧
 (Ob (v1a.1 = v2.1) ∧
 (Ob (wrap .i64 (v1a.2.1 + 1) = v2.2.1) ∧
 True)))))))))))))
  ((Ob True ∧
 (Ob True ∧
 (Ob (v1a.1 = r.1) ∧
 (Ob (v1a.2.1 = r.2.1) ∧
 (Ob ((0 : Int) = r.2.2) ∧
 True)))))))))))))))))))))))))) = _) ?_
 refine jau h fun h => ?_
 refine jaW h (fun h => ?_) (fun h => ?_)
 ·refine jad ?_
  refine jad ?_
  exact rcs h
 ·refine jau h fun h => ?_
  refine jaW h (fun h => ?_) (fun h => ?_)
  ·refine jad ?_
   refine jad ?_
   exact rcs h
  ·refine jau h fun h => ?_
   refine jaW h (fun h => ?_) (fun h => ?_)
   ·refine jad ?_
    refine jad ?_
    exact rcs h
   ·refine jau h fun h => ?_
    refine jaW h (fun h => ?_) (fun h => ?_)
    ·refine jad ?_
     refine jad ?_
     exact rcs h
    ·refine jad ?_
     refine jad ?_
     refine ⟨⟨((90 : Int), big), ⟨jbd h⟩, (by repeat' constructor)⟩, fun z6 hz6 => ?_⟩
     obtain ⟨k6, hm6, h⟩ := jaT hz6
     refine jau h fun h => ?_
     refine jaW h (fun h => ?_) (fun h => ?_)
     ·exact ⟨(_, k6), ⟨jaL h⟩, ⟨jaZ hm6.symm⟩, (by repeat' constructor)⟩
     ·have h := jaA h
      refine ⟨⟨(Prod.fst z6, (-90 : Int), big), ⟨jbd h⟩, (by repeat' constructor)⟩, fun z7 hz7 => ?_⟩
      obtain ⟨k7, hm7, h⟩ := jaT hz7
      refine jau h fun h => ?_
      refine jaW h (fun h => ?_) (fun h => ?_)
      ·exact ⟨(Prod.fst z7, _, k7), ⟨jaL h⟩, ⟨jaZ hm7.symm⟩, (by repeat' constructor)⟩
      ·have h := jaA h
       refine jad ?_
       refine jad ?_
       exact rcs h
theorem jqS : jag Tryz.prog 123 true (jar jkX jgA) := by
 refine jaz (sp := (sp_144 (sp_145 (sp_146 (sp_147 sp0))))) (fn := Tryz.f123) (body := jaj Tryz.f123) mixed (sp_144_ok (sp_145_ok (sp_146_ok (sp_147_ok jak)))) Tryz.func123 (by kernel_rfl) (by kernel_rfl) fun as_ ob rs h ho => ?_
 unfold jgA at h
 split at h
 ·rename_i num den
  cases h
  exact ⟨Nat.le_of_ble_eq_true rfl, _, _, jqR num den _ (jai ho)⟩
 ·cases h
theorem sp_123_ok {sp : jab} (h : jac Tryz.prog sp) : jac Tryz.prog (sp_123 sp) := jah jqS h
def jmC : List (Option Cont) := [none, none, none]
def y87 (sum : Int) (u42 : Int) (u25 : Int) : Option Bool :=
 Option.bind (y9 (wrap .u64 sum) (wrap .u64 sum)) fun r0 =>
 if 0 ≤ u25 ∧ u25 < (↑(13 : Nat) : Int) then
  if Int.toNat u25 < List.length jay then
  Option.bind (y9 (wrap .u64 (wrap .u64 sum * wrap .u64 sum)) (List.getD jay (Int.toNat u25) (0 : Int))) fun r1 =>
  Option.bind (y9 (wrap .u64 u42) (wrap .u64 u42)) fun r2 =>
  if 0 ≤ u25 ∧ u25 < (↑(13 : Nat) : Int) then
   if Int.toNat u25 < List.length jay then
   Option.bind (y24 [wrap .u64 (wrap .u64 (wrap .u64 (wrap .u64 (wrap .u64 (Int.fdiv (wrap .u64 sum) ((2 : Int) ^ min (32 : Nat) (IntKind.bits .u64)) * Int.fdiv (wrap .u64 sum) ((2 : Int) ^ min (32 : Nat) (IntKind.bits .u64))) + Int.fdiv (wrap .u64 (wrap .u64 (Int.fdiv (wrap .u64 sum) ((2 : Int) ^ min (32 : Nat) (IntKind.bits .u64)) * wrap .u64 (↑(BitVec.toNat (BitVec.ofInt (IntKind.bits .u64) (wrap .u64 sum) &&& BitVec.ofInt (IntKind.bits .u64) (4294967295 : Int))) : Int)) + Int.fdiv (wrap .u64 (wrap .u64 (↑(BitVec.toNat (BitVec.ofInt (IntKind.bits .u64) (wrap .u64 sum) &&& BitVec.ofInt (IntKind.bits .u64) (4294967295 : Int))) : Int) * wrap .u64 (↑(BitVec.toNat (BitVec.ofInt (IntKind.bits .u64) (wrap .u64 sum) &&& BitVec.ofInt (IntKind.bits .u64) (4294967295 : Int))) : Int))) ((2 : Int) ^ min (32 : Nat) (IntKind.bits .u64)))) ((2 : Int) ^ min (32 : Nat) (IntKind.bits .u64))) + Int.fdiv (wrap .u64 (wrap .u64 (↑(BitVec.toNat (BitVec.ofInt (IntKind.bits .u64) (wrap .u64 (wrap .u64 (Int.fdiv (wrap .u64 sum) ((2 : Int) ^ min (32 : Nat) (IntKind.bits .u64)) * wrap .u64 (↑(BitVec.toNat (BitVec.ofInt (IntKind.bits .u64) (wrap .u64 sum) &&& BitVec.ofInt (IntKind.bits .u64) (4294967295 : Int))) : Int)) + Int.fdiv (wrap .u64 (wrap .u64 (↑(BitVec.toNat (BitVec.ofInt (IntKind.bits .u64) (wrap .u64 sum) &&& BitVec.ofInt (IntKind.bits .u64) (4294967295 : Int))) : Int) * wrap .u64 (↑(BitVec.toNat (BitVec.ofInt (IntKind.bits .u64) (wrap .u64 sum) &&& BitVec.ofInt (IntKind.bits .u64) (4294967295 : Int))) : Int))) ((2 : Int) ^ min (32 : Nat) (IntKind.bits .u64)))) &&& BitVec.ofInt (IntKind.bits .u64) (4294967295 : Int))) : Int) + wrap .u64 (wrap .u64 (↑(BitVec.toNat (BitVec.ofInt (IntKind.bits .u64) (wrap .u64 sum) &&& BitVec.ofInt (IntKind.bits .u64) (4294967295 : Int))) : Int) * Int.fdiv (wrap .u64 sum) ((2 : Int) ^ min (32 : Nat) (IntKind.bits .u64))))) ((2 : Int) ^ min (32 : Nat) (IntKind.bits .u64))) * List.getD jay (Int.toNat u25) (0 : Int)) + wrap .u64 (wrap .u64 (wrap .u64 (Int.fdiv (wrap .u64 (wrap .u64 sum * wrap .u64 sum)) ((2 : Int) ^ min (32 : Nat) (IntKind.bits .u64)) * Int.fdiv (List.getD jay (Int.toNat u25) (0 : Int)) ((2 : Int) ^ min (32 : Nat) (IntKind.bits .u64))) + Int.fdiv (wrap .u64 (wrap .u64 (Int.fdiv (wrap .u64 (wrap .u64 sum * wrap .u64 sum)) ((2 : Int) ^ min (32 : Nat) (IntKind.bits .u64)) * wrap .u64 (↑(BitVec.toNat (BitVec.ofInt (IntKind.bits .u64) (List.getD jay (Int.toNat u25) (0 : Int)) &&& BitVec.ofInt (IntKind.bits .u64) (4294967295 : Int))) : Int)) + Int.fdiv (wrap .u64 (wrap .u64 (↑(BitVec.toNat (BitVec.ofInt (IntKind.bits .u64) (wrap .u64 (wrap .u64 sum * wrap .u64 sum)) &&& BitVec.ofInt (IntKind.bits .u64) (4294967295 : Int))) : Int) * wrap .u64 (↑(BitVec.toNat (BitVec.ofInt (IntKind.bits .u64) (List.getD jay (Int.toNat u25) (0 : Int)) &&& BitVec.ofInt (IntKind.bits .u64) (4294967295 : Int))) : Int))) ((2 : Int) ^ min (32 : Nat) (IntKind.bits .u64)))) ((2 : Int) ^ min (32 : Nat) (IntKind.bits .u64))) + Int.fdiv (wrap .u64 (wrap .u64 (↑(BitVec.toNat (BitVec.ofInt (IntKind.bits .u64) (wrap .u64 (wrap .u64 (Int.fdiv (wrap .u64 (wrap .u64 sum * wrap .u64 sum)) ((2 : Int) ^ min (32 : Nat) (IntKind.bits .u64)) * wrap .u64 (↑(BitVec.toNat (BitVec.ofInt (IntKind.bits .u64) (List.getD jay (Int.toNat u25) (0 : Int)) &&& BitVec.ofInt (IntKind.bits .u64) (4294967295 : Int))) : Int)) + Int.fdiv (wrap .u64 (wrap .u64 (↑(BitVec.toNat (BitVec.ofInt (IntKind.bits .u64) (wrap .u64 (wrap .u64 sum * wrap .u64 sum)) &&& BitVec.ofInt (IntKind.bits .u64) (4294967295 : Int))) : Int) * wrap .u64 (↑(BitVec.toNat (BitVec.ofInt (IntKind.bits .u64) (List.getD jay (Int.toNat u25) (0 : Int)) &&& BitVec.ofInt (IntKind.bits .u64) (4294967295 : Int))) : Int))) ((2 : Int) ^ min (32 : Nat) (IntKind.bits .u64)))) &&& BitVec.ofInt (IntKind.bits .u64) (4294967295 : Int))) : Int) + wrap .u64 (wrap .u64 (↑(BitVec.toNat (BitVec.ofInt (IntKind.bits .u64) (wrap .u64 (wrap .u64 sum * wrap .u64 sum)) &&& BitVec.ofInt (IntKind.bits .u64) (4294967295 : Int))) : Int) * Int.fdiv (List.getD jay (Int.toNat u25) (0 : Int)) ((2 : Int) ^ min (32 : Nat) (IntKind.bits .u64))))) ((2 : Int) ^ min (32 : Nat) (IntKind.bits .u64)))), wrap .u64 (wrap .u64 (wrap .u64 sum * wrap .u64 sum) * List.getD jay (Int.toNat u25) (0 : Int))] [wrap .u64 (wrap .u64 (wrap .u64 (Int.fdiv (wrap .u64 u42) ((2 : Int) ^ min (32 : Nat) (IntKind.bits .u64)) * Int.fdiv (wrap .u64 u42) ((2 : Int) ^ min (32 : Nat) (IntKind.bits .u64))) + Int.fdiv (wrap .u64 (wrap .u64 (Int.fdiv (wrap .u64 u42) ((2 : Int) ^ min (32 : Nat) (IntKind.bits .u64)) * wrap .u64 (↑(BitVec.toNat (BitVec.ofInt (IntKind.bits .u64) (wrap .u64 u42) &&& BitVec.ofInt (IntKind.bits .u64) (4294967295 : Int))) : Int)) + Int.fdiv (wrap .u64 (wrap .u64 (↑(BitVec.toNat (BitVec.ofInt (IntKind.bits .u64) (wrap .u64 u42) &&& BitVec.ofInt (IntKind.bits .u64) (4294967295 : Int))) : Int) * wrap .u64 (↑(BitVec.toNat (BitVec.ofInt (IntKind.bits .u64) (wrap .u64 u42) &&& BitVec.ofInt (IntKind.bits .u64) (4294967295 : Int))) : Int))) ((2 : Int) ^ min (32 : Nat) (IntKind.bits .u64)))) ((2 : Int) ^ min (32 : Nat) (IntKind.bits .u64))) + Int.fdiv (wrap .u64 (wrap .u64 (↑(BitVec.toNat (BitVec.ofInt (IntKind.bits .u64) (wrap .u64 (wrap .u64 (Int.fdiv (wrap .u64 u42) ((2 : Int) ^ min (32 : Nat) (IntKind.bits .u64)) * wrap .u64 (↑(BitVec.toNat (BitVec.ofInt (IntKind.bits .u64) (wrap .u64 u42) &&& BitVec.ofInt (IntKind.bits .u64) (4294967295 : Int))) : Int)) + Int.fdiv (wrap .u64 (wrap .u64 (↑(BitVec.toNat (BitVec.ofInt (IntKind.bits .u64) (wrap .u64 u42) &&& BitVec.ofInt (IntKind.bits .u64) (4294967295 : Int))) : Int) * wrap .u64 (↑(BitVec.toNat (BitVec.ofInt (IntKind.bits .u64) (wrap .u64 u42) &&& BitVec.ofInt (IntKind.bits .u64) (4294967295 : Int))) : Int))) ((2 : Int) ^ min (32 : Nat) (IntKind.bits .u64)))) &&& BitVec.ofInt (IntKind.bits .u64) (4294967295 : Int))) : Int) + wrap .u64 (wrap .u64 (↑(BitVec.toNat (BitVec.ofInt (IntKind.bits .u64) (wrap .u64 u42) &&& BitVec.ofInt (IntKind.bits .u64) (4294967295 : Int))) : Int) * Int.fdiv (wrap .u64 u42) ((2 : Int) ^ min (32 : Nat) (IntKind.bits .u64))))) ((2 : Int) ^ min (32 : Nat) (IntKind.bits .u64))), wrap .u64 (wrap .u64 u42 * wrap .u64 u42)]) fun r3 =>
   some (decide (r3 ≤ 0))
   else none
  else none
  else none
 else none
def jhT : List A → Option (Prop × List RV)
 | [.d (.i .i64 sum), .d (.i .i64 u42), .d (.i .i64 u25)] => some (ok (y87 sum u42 u25), [.d (.b ((val (y87 sum u42 u25))))])
 | _ => none
abbrev sp_96 : jab → jab := jav 96 true (jar jmC jhT)
abbrev jbM  := ((2 : Int) ^ min (32 : Nat) (IntKind.bits .u64))
abbrev jpN (sum : Int) := (↑(BitVec.toNat (BitVec.ofInt (IntKind.bits .u64) (wrap .u64 sum) &&& BitVec.ofInt (IntKind.bits .u64) (4294967295 : Int))) : Int)
abbrev jpO (u42 : Int) := (↑(BitVec.toNat (BitVec.ofInt (IntKind.bits .u64) (wrap .u64 u42) &&& BitVec.ofInt (IntKind.bits .u64) (4294967295 : Int))) : Int)
abbrev juA (sum : Int) (u25 : Int) := (wrap .u64 (wrap .u64 (Int.fdiv (wrap .u64 (wrap .u64 sum * wrap .u64 sum)) (jbM) * wrap .u64 (↑(BitVec.toNat (BitVec.ofInt (IntKind.bits .u64) (List.getD jay (Int.toNat u25) (0 : Int)) &&& BitVec.ofInt (IntKind.bits .u64) (4294967295 : Int))) : Int)) + Int.fdiv (wrap .u64 (wrap .u64 (↑(BitVec.toNat (BitVec.ofInt (IntKind.bits .u64) (wrap .u64 (wrap .u64 sum * wrap .u64 sum)) &&& BitVec.ofInt (IntKind.bits .u64) (4294967295 : Int))) : Int) * wrap .u64 (↑(BitVec.toNat (BitVec.ofInt (IntKind.bits .u64) (List.getD jay (Int.toNat u25) (0 : Int)) &&& BitVec.ofInt (IntKind.bits .u64) (4294967295 : Int))) : Int))) (jbM)))
abbrev juB (u42 : Int) := (wrap .u64 (wrap .u64 (Int.fdiv (wrap .u64 u42) (jbM) * wrap .u64 (jpO u42)) + Int.fdiv (wrap .u64 (wrap .u64 (jpO u42) * wrap .u64 (jpO u42))) (jbM)))
abbrev juC (sum : Int) := (wrap .u64 (wrap .u64 (Int.fdiv (wrap .u64 sum) (jbM) * wrap .u64 (jpN sum)) + Int.fdiv (wrap .u64 (wrap .u64 (jpN sum) * wrap .u64 (jpN sum))) (jbM)))
def jtp (sum : Int) (u42 : Int) (u25 : Int) : T (Bool) :=
 .obT
 (.obT
 (.call (y9 (wrap .u64 sum) (wrap .u64 sum)) fun r0 =>
 .obP (0 ≤ u25 ∧ u25 < (↑(13 : Nat) : Int))
 (.obP (Int.toNat u25 < List.length jay)
 (.call (y9 (wrap .u64 (wrap .u64 sum * wrap .u64 sum)) (List.getD jay (Int.toNat u25) (0 : Int))) fun r1 =>
 .obT
 (.obT
 (.call (y9 (wrap .u64 u42) (wrap .u64 u42)) fun r2 =>
 .obP (0 ≤ u25 ∧ u25 < (↑(13 : Nat) : Int))
 (.obP (Int.toNat u25 < List.length jay)
 (.call (y24 [wrap .u64 (wrap .u64 (wrap .u64 (wrap .u64 (wrap .u64 (Int.fdiv (wrap .u64 sum) (jbM) * Int.fdiv (wrap .u64 sum) (jbM)) + Int.fdiv (juC sum) (jbM)) + Int.fdiv (wrap .u64 (wrap .u64 (↑(BitVec.toNat (BitVec.ofInt (IntKind.bits .u64) (juC sum) &&& BitVec.ofInt (IntKind.bits .u64) (4294967295 : Int))) : Int) + wrap .u64 (wrap .u64 (jpN sum) * Int.fdiv (wrap .u64 sum) (jbM)))) (jbM)) * List.getD jay (Int.toNat u25) (0 : Int)) + wrap .u64 (wrap .u64 (wrap .u64 (Int.fdiv (wrap .u64 (wrap .u64 sum * wrap .u64 sum)) (jbM) * Int.fdiv (List.getD jay (Int.toNat u25) (0 : Int)) (jbM)) + Int.fdiv (juA sum u25) (jbM)) + Int.fdiv (wrap .u64 (wrap .u64 (↑(BitVec.toNat (BitVec.ofInt (IntKind.bits .u64) (juA sum u25) &&& BitVec.ofInt (IntKind.bits .u64) (4294967295 : Int))) : Int) + wrap .u64 (wrap .u64 (↑(BitVec.toNat (BitVec.ofInt (IntKind.bits .u64) (wrap .u64 (wrap .u64 sum * wrap .u64 sum)) &&& BitVec.ofInt (IntKind.bits .u64) (4294967295 : Int))) : Int) * Int.fdiv (List.getD jay (Int.toNat u25) (0 : Int)) (jbM)))) (jbM))), wrap .u64 (wrap .u64 (wrap .u64 sum * wrap .u64 sum) * List.getD jay (Int.toNat u25) (0 : Int))] [wrap .u64 (wrap .u64 (wrap .u64 (Int.fdiv (wrap .u64 u42) (jbM) * Int.fdiv (wrap .u64 u42) (jbM)) + Int.fdiv (juB u42) (jbM)) + Int.fdiv (wrap .u64 (wrap .u64 (↑(BitVec.toNat (BitVec.ofInt (IntKind.bits .u64) (juB u42) &&& BitVec.ofInt (IntKind.bits .u64) (4294967295 : Int))) : Int) + wrap .u64 (wrap .u64 (jpO u42) * Int.fdiv (wrap .u64 u42) (jbM)))) (jbM)), wrap .u64 (wrap .u64 u42 * wrap .u64 u42)]) fun r3 =>
 .obT
 (.ret ((decide (r3 ≤ 0))) (fun r => (Ob (decide (r3 ≤ 0) = r) ∧
 True)) ⟨⟨rfl⟩, trivial⟩)))))))))
theorem jr2 (sum : Int) (u42 : Int) (u25 : Int) (r : Bool) (h : Option.bind (y87 sum u42 u25) some = some r) : jbb Tryz.f96 ((sp_126 (sp_131 sp0))) (fun _ _ _ => none) [.d (.i .i64 sum), .d (.i .i64 u42), .d (.i .i64 u25)] [.d (.b r)] :=
 T.vc (t := jtp sum u42 u25) (by kernel_rfl) (by kernel_rfl) h
theorem jr3 : jag Tryz.prog 96 true (jar jmC jhT) := by
 refine jaz (sp := (sp_126 (sp_131 sp0))) (fn := Tryz.f96) (body := jaj Tryz.f96) mixed (sp_126_ok (sp_131_ok jak)) Tryz.func96 (by kernel_rfl) (by kernel_rfl) fun as_ ob rs h ho => ?_
 unfold jhT at h
 split at h
 ·rename_i sum u42 u25
  cases h
  exact ⟨Nat.le_of_ble_eq_true rfl, _, _, jr2 sum u42 u25 _ (jai ho)⟩
 ·cases h
theorem sp_96_ok {sp : jab} (h : jac Tryz.prog sp) : jac Tryz.prog (sp_96 sp) := jah jr3 h
end Go.Sh
end

section
namespace Go.Sh
open Go Go.Proofs Go.RowKit Go.Sx
abbrev sp_93 : jab → jab := jav 93 true (jte .f64 .u64)
theorem sp_93_ok {sp : jab} (h : jac Tryz.prog sp) : jac Tryz.prog (sp_93 sp) :=
 jah (jxB (fn := Tryz.f93) (g := Extern.MathFloatBits.float64bits) Tryz.func93 (by kernel_rfl) (by kernel_rfl) (by kernel_rfl) (by kernel_rfl) fun _ => rfl) h
end Go.Sh
end

section
namespace Go.Sh
open Go Go.Proofs Go.RowKit Go.Sx
def y171 : List SV := [.a [.d, .r (.floats .f32 [])]]
def y80 (u17 : Int) (u16 : List Nat) : Option (Int × List Nat) :=
 if (0 + List.length u16) * 4 ≤ 140737488355328 ∧ 0 + List.length u16 ≤ 9223372036854775807 then
  some (u17, [] ++ u16)
 else none
def y172 : List Lf → Option GT
 | [.d (.i .i64 u17), .r (.floats .f32 u16)] => some (.leaf (ok (y80 u17 u16)) [.s [.d (.i .i64 ((val (y80 u17 u16)).1)), .row 151 (.floats .f32 ((val (y80 u17 u16)).2))]])
 | _ => none
abbrev sp_18 : jab → jab := jav 18 true (jal y171 y172)
theorem jku (u17 : Int) (u16 : List Nat) (r : Int × List Nat) (h : Option.bind (y80 u17 u16) some = some r) : ja0 Tryz.f18 (sp0) (fun _ _ _ => none) (jaO y171 [.d (.i .i64 u17), .r (.floats .f32 u16)]) [.s [.d (.i .i64 r.1), .row 151 (.floats .f32 r.2)]] := by
 refine Eq.mp (by kernel_rfl : (
 (Ob ((0 + List.length u16) * 4 ≤ 140737488355328 ∧ 0 + List.length u16 ≤ 9223372036854775807) ∧
 (Ob True ∧
 (Ob (u17 = r.1) ∧
 (Ob ([] ++ u16 = r.2) ∧
 True))))) = _) ?_
 refine jao h fun h => ?_
 refine jad ?_
 exact jam h (fun e => by subst e; exact (by repeat' constructor))
theorem jkv : jag Tryz.prog 18 true (jal y171 y172) := by
 refine jat (sp := sp0) (fn := Tryz.f18) (body := jaj Tryz.f18) mixed jak Tryz.func18 (by kernel_rfl) (by kernel_rfl) fun ls t h ho b hb => ?_
 unfold y172 at h
 split at h
 ·rename_i u17 u16
  cases h
  obtain rfl := jaB hb
  exact ⟨Nat.le_of_ble_eq_true (by kernel_rfl), _, _, jku u17 u16 _ (jai ho)⟩
 ·cases h
theorem sp_18_ok {sp : jab} (h : jac Tryz.prog sp) : jac Tryz.prog (sp_18 sp) := jah jkv h
end Go.Sh
end

section
namespace Go.Sh
open Go Go.Proofs Go.RowKit Go.Sx
open Go.IntKind (wrap)
def jmD : List (Option Cont) := [none, none, none]
def y53 (n : Int) (lo : Int) (hi : Int) : Option Bool :=
 if lo ≤ n then
  some (decide (n ≤ hi))
 else
  some false
def jhU : List A → Option (Prop × List RV)
 | [.d (.i .i64 n), .d (.i .i64 lo), .d (.i .i64 hi)] => some (ok (y53 n lo hi), [.d (.b ((val (y53 n lo hi))))])
 | _ => none
abbrev sp_35 : jab → jab := jav 35 true (jar jmD jhU)
theorem jr4 (n : Int) (lo : Int) (hi : Int) (r : Bool) (h : Option.bind (y53 n lo hi) some = some r) : jbb Tryz.f35 (sp0) (fun _ _ _ => none) [.d (.i .i64 n), .d (.i .i64 lo), .d (.i .i64 hi)] [.d (.b r)] := by
 refine Eq.mp (by kernel_rfl : (
 Br (decide (lo ≤ n))
  ((Ob True ∧
 (Ob (decide (n ≤ hi) = r) ∧
 True)))
  ((Ob True ∧
 (Ob (false = r) ∧
 True)))) = _) ?_
 refine jaN h (fun h => ?_) (fun h => ?_)
 ·refine jad ?_
  exact rcs h
 ·refine jad ?_
  exact rcs h
theorem jr5 : jag Tryz.prog 35 true (jar jmD jhU) := by
 refine jaz (sp := sp0) (fn := Tryz.f35) (body := jaj Tryz.f35) mixed jak Tryz.func35 (by kernel_rfl) (by kernel_rfl) fun as_ ob rs h ho => ?_
 unfold jhU at h
 split at h
 ·rename_i n lo hi
  cases h
  exact ⟨Nat.le_of_ble_eq_true rfl, _, _, jr4 n lo hi _ (jai ho)⟩
 ·cases h
theorem sp_35_ok {sp : jab} (h : jac Tryz.prog sp) : jac Tryz.prog (sp_35 sp) := jah jr5 h
def jqT : List (Option Cont) := [some (.ints .i64 []), some (.ints .i64 [])]
def jeE (a : List Int) (b : List Int) (x0 : Int) : Option (Int ⊕ (Unit ⊕ Unit)) :=
 if x0 < (↑(List.length a) : Int) then
  if 0 ≤ x0 ∧ x0 < (↑(List.length a) : Int) then
  if Int.toNat x0 < List.length a then
   if 0 ≤ x0 ∧ x0 < (↑(List.length b) : Int) then
   if Int.toNat x0 < List.length b then
    if (List.getD a (Int.toNat x0) (0 : Int) != List.getD b (Int.toNat x0) (0 : Int)) = true then
    some (.inr ((.inl ())))
    else
    some (.inl (wrap .i64 (x0 + 1)))
   else none
   else none
  else none
  else none
 else
  some (.inr ((.inr ())))
def jr6 (u15 : Unit) : Option Bool :=
 some false
def jr7 (u27 : Unit) : Option Bool :=
 some true
def jeF : (Unit ⊕ Unit) → Option Bool :=
 (Sum.elim (jr6) (jr7))
def jjo (a : List Int) (b : List Int) : Option Bool :=
 if ((↑(List.length a) : Int) != (↑(List.length b) : Int)) = true then
  some false
 else
  Option.bind (jae (jeE a b) big (0 : Int)) (jeF)
def jlp : List A → Option (Prop × List RV)
 | [.r (.ints .i64 a), .r (.ints .i64 b)] => some (ok (jjo a b), [.d (.b ((val (jjo a b))))])
 | _ => none
abbrev sp_55 : jab → jab := jav 55 true (jar jqT jlp)
theorem juD (a : List Int) (b : List Int) (r : Bool) (h : Option.bind (jjo a b) some = some r) : jbb Tryz.f55 (sp0) (fun gs id _ => match id with
 | 0 => some ⟨Int × Nat, fun z => ⟨[(0, .w (.c (.o 0))), (1, .w (.c (.o 1))), (5, .w (.c (.d (.i .i64 (Prod.fst z)))))], [(0, .ext (.ints .i64 a)), (1, .ext (.ints .i64 b))], 2⟩, fun z => Option.bind (jae (jeE a b) (Prod.snd z) (Prod.fst z)) (fun y0 => Option.bind (jeF y0) some) = some r, fun z => Prod.snd z⟩
 | _ => none) [.r (.ints .i64 a), .r (.ints .i64 b)] [.d (.b r)] := by
 refine Eq.mp (by kernel_rfl : (
 Br ((↑(List.length a) : Int) != (↑(List.length b) : Int))
  ((Ob True ∧
 (Ob (false = r) ∧
 True)))
  (((∃ (v0 : Int × Nat), (Ob ((Option.bind (jae (jeE a b) v0.2 v0.1) fun y0 => Option.bind (jeF y0) some) = some r) ∧
 (Ob ((0 : Int) = v0.1) ∧
 (Ob (a = a) ∧
 (Ob (b = b) ∧
 True))))) ∧
  (∀ (v0 : Int × Nat), ((Option.bind (jae (jeE a b) v0.2 v0.1) fun y0 => Option.bind (jeF y0) some) = some r →
 Br (decide (v0.1 < (↑(List.length a) : Int)))
  ((Ob (0 ≤ v0.1 ∧ v0.1 < (↑(List.length a) : Int)) ∧
 (Ob (Int.toNat v0.1 < List.length a) ∧
 (Ob (0 ≤ v0.1 ∧ v0.1 < (↑(List.length b) : Int)) ∧
 (Ob (Int.toNat v0.1 < List.length b) ∧
 Br (List.getD a (Int.toNat v0.1) (0 : Int) != List.getD b (Int.toNat v0.1) (0 : Int))
  ((Ob True ∧
 (Ob (false = r) ∧
 True)))
  ((∃ (v1 : Int × Nat), (Ob ((Option.bind (jae (jeE a b) v1.2 v1.1) fun y0 => Option.bind (jeF y0) some) = some r) ∧
 (Ob (v1.2 < v0.2) ∧
 (Ob (wrap .i64 (v0.1 + 1) = v1.1) ∧
 (Ob (a = a) ∧
 (Ob (b = b) ∧
 True))))))))))))
  ((Ob True ∧
 (Ob (true = r) ∧
 True)))))))) = _) ?_
 refine jaW h (fun h => ?_) (fun h => ?_)
 ·refine jad ?_
  exact rcs h
 ·refine ⟨⟨((0 : Int), big), ⟨jbd h⟩, (by repeat' constructor)⟩, fun z0 hz0 => ?_⟩
  obtain ⟨k0, hm0, h⟩ := jaT hz0
  refine jaN h (fun h => ?_) (fun h => ?_)
  ·refine jao h fun h => ?_
   refine jao h fun h => ?_
   refine jao h fun h => ?_
   refine jao h fun h => ?_
   refine jaW h (fun h => ?_) (fun h => ?_)
   ·have h := jaA h
    refine jad ?_
    exact rcs h
   ·exact ⟨(_, k0), ⟨jaL h⟩, ⟨jaZ hm0.symm⟩, (by repeat' constructor)⟩
  ·have h := jaA h
   refine jad ?_
   exact rcs h
theorem juE : jag Tryz.prog 55 true (jar jqT jlp) := by
 refine jaz (sp := sp0) (fn := Tryz.f55) (body := jaj Tryz.f55) mixed jak Tryz.func55 (by kernel_rfl) (by kernel_rfl) fun as_ ob rs h ho => ?_
 unfold jlp at h
 split at h
 ·rename_i a b
  cases h
  exact ⟨Nat.le_of_ble_eq_true rfl, _, _, juD a b _ (jai ho)⟩
 ·cases h
theorem sp_55_ok {sp : jab} (h : jac Tryz.prog sp) : jac Tryz.prog (sp_55 sp) := jah juE h
def joL : List (Option Cont) := [none, none]
def y28 (n : Int) (by_ : Int) : Option Int :=
 if by_ ≠ (0 : Int) then
  if by_ ≠ (0 : Int) then
  if Int.tmod n by_ < 0 then
   some (wrap .i64 (wrap .i64 (Int.tdiv n by_) - 1))
  else
   some (wrap .i64 (Int.tdiv n by_))
  else none
 else none
def jjp : List A → Option (Prop × List RV)
 | [.d (.i .i64 n), .d (.i .i64 by_)] => some (ok (y28 n by_), [.d (.i .i64 ((val (y28 n by_))))])
 | _ => none
abbrev sp_74 : jab → jab := jav 74 true (jar joL jjp)
theorem jtq (n : Int) (by_ : Int) (r : Int) (h : Option.bind (y28 n by_) some = some r) : jbb Tryz.f74 (sp0) (fun _ _ _ => none) [.d (.i .i64 n), .d (.i .i64 by_)] [.d (.i .i64 r)] := by
 refine Eq.mp (by kernel_rfl : (
 (Ob (by_ ≠ (0 : Int)) ∧
 (Ob (by_ ≠ (0 : Int)) ∧
 Br (decide (Int.tmod n by_ < 0))
  ((Ob True ∧
 (Ob (wrap .i64 (wrap .i64 (Int.tdiv n by_) - 1) = r) ∧
 True)))
  ((Ob True ∧
 (Ob (wrap .i64 (Int.tdiv n by_) = r) ∧
 True)))))) = _) ?_
 refine jao h fun h => ?_
 refine jao h fun h => ?_
 refine jaN h (fun h => ?_) (fun h => ?_)
 ·refine jad ?_
  exact rcs h
 ·refine jad ?_
  exact rcs h
theorem jtr : jag Tryz.prog 74 true (jar joL jjp) := by
 refine jaz (sp := sp0) (fn := Tryz.f74) (body := jaj Tryz.f74) mixed jak Tryz.func74 (by kernel_rfl) (by kernel_rfl) fun as_ ob rs h ho => ?_
 unfold jjp at h
 split at h
 ·rename_i n by_
  cases h
  exact ⟨Nat.le_of_ble_eq_true rfl, _, _, jtq n by_ _ (jai ho)⟩
 ·cases h
theorem sp_74_ok {sp : jab} (h : jac Tryz.prog sp) : jac Tryz.prog (sp_74 sp) := jah jtr h
def jqU : List (Option Cont) := [none, none]
def jbl (n : Int) (by_ : Int) : Option Int :=
 Option.bind (y28 (wrap .i64 (0 - n)) by_) fun r0 =>
 some (wrap .i64 (0 - r0))
def jlq : List A → Option (Prop × List RV)
 | [.d (.i .i64 n), .d (.i .i64 by_)] => some (ok (jbl n by_), [.d (.i .i64 ((val (jbl n by_))))])
 | _ => none
abbrev sp_75 : jab → jab := jav 75 true (jar jqU jlq)
theorem juF (n : Int) (by_ : Int) (r : Int) (h : Option.bind (jbl n by_) some = some r) : jbb Tryz.f75 ((sp_74 sp0)) (fun _ _ _ => none) [.d (.i .i64 n), .d (.i .i64 by_)] [.d (.i .i64 r)] := by
 refine Eq.mp (by kernel_rfl : (
 (Ob (ok (y28 (wrap .i64 (0 - n)) by_)) ∧
 (Ob True ∧
 (Ob (wrap .i64 (0 - val (y28 (wrap .i64 (0 - n)) by_)) = r) ∧
 True)))) = _) ?_
 refine jau h fun h => ?_
 refine jad ?_
 exact rcs h
theorem juG : jag Tryz.prog 75 true (jar jqU jlq) := by
 refine jaz (sp := (sp_74 sp0)) (fn := Tryz.f75) (body := jaj Tryz.f75) mixed (sp_74_ok jak) Tryz.func75 (by kernel_rfl) (by kernel_rfl) fun as_ ob rs h ho => ?_
 unfold jlq at h
 split at h
 ·rename_i n by_
  cases h
  exact ⟨Nat.le_of_ble_eq_true rfl, _, _, juF n by_ _ (jai ho)⟩
 ·cases h
theorem sp_75_ok {sp : jab} (h : jac Tryz.prog sp) : jac Tryz.prog (sp_75 sp) := jah juG h
def jkY : List (Option Cont) := [none, none, none, none]
def jjq (x0 : (Int × Int × Int × Int)) : Option ((Int × Int × Int × Int) ⊕ Int) :=
 Option.bind (y28 x0.1 x0.2.1) fun r0 =>
 Option.bind (y28 x0.2.2.1 x0.2.2.2) fun r1 =>
 if r0 < r1 then
  some (.inr (-1 : Int))
 else
  if r0 > r1 then
  some (.inr (1 : Int))
  else
  if (wrap .i64 (x0.1 - wrap .i64 (r0 * x0.2.1)) == 0) = true then
   if (wrap .i64 (x0.2.2.1 - wrap .i64 (r1 * x0.2.2.2)) == 0) = true then
   some (.inr (0 : Int))
   else
   if (wrap .i64 (x0.1 - wrap .i64 (r0 * x0.2.1)) == 0) = true then
    some (.inr (-1 : Int))
   else
    none     else
   if (wrap .i64 (x0.1 - wrap .i64 (r0 * x0.2.1)) == 0) = true then
   none      else
   if (wrap .i64 (x0.2.2.1 - wrap .i64 (r1 * x0.2.2.2)) == 0) = true then
    some (.inr (1 : Int))
   else
    some (.inl ((x0.2.2.2, wrap .i64 (x0.2.2.1 - wrap .i64 (r1 * x0.2.2.2)), x0.2.1, wrap .i64 (x0.1 - wrap .i64 (r0 * x0.2.1)))))
def jnP (u15 : Int) : Option Int :=
 some u15
def y38 (n : Int) (d : Int) (m_ : Int) (k : Int) : Option Int :=
 Option.bind (jae (jjq) big (n, d, m_, k)) (jnP)
def jgB : List A → Option (Prop × List RV)
 | [.d (.i .i64 n), .d (.i .i64 d), .d (.i .i64 m_), .d (.i .i64 k)] => some (ok (y38 n d m_ k), [.d (.i .i64 ((val (y38 n d m_ k))))])
 | _ => none
abbrev sp_47 : jab → jab := jav 47 true (jar jkY jgB)
abbrev jmE (v0 : (Int × Int × Int × Int) × Nat) := (v0.1.2.2.1 - wrap .i64 (val (y28 v0.1.2.2.1 v0.1.2.2.2) * v0.1.2.2.2))
abbrev jmF (v0 : (Int × Int × Int × Int) × Nat) := (v0.1.1 - wrap .i64 (val (y28 v0.1.1 v0.1.2.1) * v0.1.2.1))
theorem jqV (n : Int) (d : Int) (m_ : Int) (k : Int) (r : Int) (h : Option.bind (y38 n d m_ k) some = some r) : jbb Tryz.f47 ((sp_74 sp0)) (fun gs id _ => match id with
 | 0 => some ⟨(Int × Int × Int × Int) × Nat, fun z => ⟨[(0, .w (.c (.d (.i .i64 (Prod.fst (Prod.fst z)))))), (1, .w (.c (.d (.i .i64 (Prod.fst (Prod.snd (Prod.fst z))))))), (2, .w (.c (.d (.i .i64 (Prod.fst (Prod.snd (Prod.snd (Prod.fst z)))))))), (3, .w (.c (.d (.i .i64 (Prod.snd (Prod.snd (Prod.snd (Prod.fst z))))))))], [], 4⟩, fun z => Option.bind (jae (jjq) (Prod.snd z) (Prod.fst z)) (fun y0 => Option.bind (jnP y0) some) = some r, fun z => Prod.snd z⟩
 | _ => none) [.d (.i .i64 n), .d (.i .i64 d), .d (.i .i64 m_), .d (.i .i64 k)] [.d (.i .i64 r)] := by
 refine Eq.mp (by kernel_rfl : (
 ((∃ (v0 : (Int × Int × Int × Int) × Nat), (Ob ((Option.bind (jae jjq v0.2 v0.1) fun y0 => Option.bind (jnP y0) some) = some r) ∧
 (Ob (n = v0.1.1) ∧
 (Ob (d = v0.1.2.1) ∧
 (Ob (m_ = v0.1.2.2.1) ∧
 (Ob (k = v0.1.2.2.2) ∧
 True)))))) ∧
  (∀ (v0 : (Int × Int × Int × Int) × Nat), ((Option.bind (jae jjq v0.2 v0.1) fun y0 => Option.bind (jnP y0) some) = some r →
 (Ob (ok (y28 v0.1.1 v0.1.2.1)) ∧
 (Ob (ok (y28 v0.1.2.2.1 v0.1.2.2.2)) ∧
 Br (decide (val (y28 v0.1.1 v0.1.2.1) < val (y28 v0.1.2.2.1 v0.1.2.2.2)))
  ((Ob True ∧
 (Ob ((-1 : Int) = r) ∧
 True)))
 (Br (decide (val (y28 v0.1.1 v0.1.2.1) > val (y28 v0.1.2.2.1 v0.1.2.2.2)))
  ((Ob True ∧
 (Ob ((1 : Int) = r) ∧
 True)))
 (Br (wrap .i64 (jmF v0) == 0)
 (Br (wrap .i64 (jmE v0) == 0)
  ((Ob True ∧
 (Ob ((0 : Int) = r) ∧
 True)))
 (Br (wrap .i64 (jmF v0) == 0)
  ((Ob True ∧
 (Ob ((-1 : Int) = r) ∧
 True)))
 (Br (wrap .i64 (jmE v0) == 0)
  ((Ob True ∧
 (Ob ((1 : Int) = r) ∧
 True)))
  ((∃ (v1 : (Int × Int × Int × Int) × Nat), (Ob ((Option.bind (jae jjq v1.2 v1.1) fun y0 => Option.bind (jnP y0) some) = some r) ∧
 (Ob (v1.2 < v0.2) ∧
 (Ob (v0.1.2.2.2 = v1.1.1) ∧
 (Ob (wrap .i64 (jmE v0) = v1.1.2.1) ∧
 (Ob (v0.1.2.1 = v1.1.2.2.1) ∧
 (Ob (wrap .i64 (jmF v0) = v1.1.2.2.2) ∧
 True)))))))))))
 (Br (wrap .i64 (jmF v0) == 0)
  ((Ob True ∧
 (Ob ((-1 : Int) = r) ∧
 True)))
 (Br (wrap .i64 (jmE v0) == 0)
  ((Ob True ∧
 (Ob ((1 : Int) = r) ∧
 True)))
  ((∃ (v1 : (Int × Int × Int × Int) × Nat), (Ob ((Option.bind (jae jjq v1.2 v1.1) fun y0 => Option.bind (jnP y0) some) = some r) ∧
 (Ob (v1.2 < v0.2) ∧
 (Ob (v0.1.2.2.2 = v1.1.1) ∧
 (Ob (wrap .i64 (jmE v0) = v1.1.2.1) ∧
 (Ob (v0.1.2.1 = v1.1.2.2.1) ∧
 (Ob (wrap .i64 (jmF v0) = v1.1.2.2.2) ∧
 True)))))))))))))))))) = _) ?_
 refine ⟨⟨((n, d, m_, k), big), ⟨jbd h⟩, (by repeat' constructor)⟩, fun z2 hz2 => ?_⟩
 obtain ⟨k2, hm2, h⟩ := jaT hz2
 refine jau h fun h => ?_
 refine jau h fun h => ?_
 refine jaN h (fun h => ?_) (fun h => ?_)
 ·have h := jaA h
  refine jad ?_
  exact rcs h
 ·refine jaN h (fun h => ?_) (fun h => ?_)
  ·have h := jaA h
   refine jad ?_
   exact rcs h
  ·refine jaW h (fun h => ?_) (fun h => ?_)
   ·refine jaW h (fun h => ?_) (fun h => ?_)
    ·have h := jaA h
     refine jad ?_
     exact rcs h
    ·refine jaW h (fun h => ?_) (fun h => ?_)
     ·have h := jaA h
      refine jad ?_
      exact rcs h
     ·exact nomatch h
   ·refine jaW h (fun h => ?_) (fun h => ?_)
    ·exact nomatch h
    ·refine jaW h (fun h => ?_) (fun h => ?_)
     ·have h := jaA h
      refine jad ?_
      exact rcs h
     ·exact ⟨(_, k2), ⟨jaL h⟩, ⟨jaZ hm2.symm⟩, (by repeat' constructor)⟩
theorem jqW : jag Tryz.prog 47 true (jar jkY jgB) := by
 refine jaz (sp := (sp_74 sp0)) (fn := Tryz.f47) (body := jaj Tryz.f47) mixed (sp_74_ok jak) Tryz.func47 (by kernel_rfl) (by kernel_rfl) fun as_ ob rs h ho => ?_
 unfold jgB at h
 split at h
 ·rename_i n d m_ k
  cases h
  exact ⟨Nat.le_of_ble_eq_true rfl, _, _, jqV n d m_ k _ (jai ho)⟩
 ·cases h
theorem sp_47_ok {sp : jab} (h : jac Tryz.prog sp) : jac Tryz.prog (sp_47 sp) := jah jqW h
def jqX : List (Option Cont) := [none]
def jfI (n : Int) : Option Int :=
 some (if wrap .i64 (0 - n) > n then wrap .i64 (0 - n) else n)
def jlr : List A → Option (Prop × List RV)
 | [.d (.i .i64 n)] => some (ok (jfI n), [.d (.i .i64 ((val (jfI n))))])
 | _ => none
abbrev sp_128 : jab → jab := jav 128 true (jar jqX jlr)
theorem juH (n : Int) (r : Int) (h : Option.bind (jfI n) some = some r) : jbb Tryz.f128 (sp0) (fun _ _ _ => none) [.d (.i .i64 n)] [.d (.i .i64 r)] := by
 refine Eq.mp (by kernel_rfl : (
 (Ob True ∧
 (Ob ((if wrap .i64 (0 - n) > n then wrap .i64 (0 - n) else n) = r) ∧
 True))) = _) ?_
 refine jad ?_
 exact rcs h
theorem juI : jag Tryz.prog 128 true (jar jqX jlr) := by
 refine jaz (sp := sp0) (fn := Tryz.f128) (body := jaj Tryz.f128) mixed jak Tryz.func128 (by kernel_rfl) (by kernel_rfl) fun as_ ob rs h ho => ?_
 unfold jlr at h
 split at h
 ·rename_i n
  cases h
  exact ⟨Nat.le_of_ble_eq_true rfl, _, _, juH n _ (jai ho)⟩
 ·cases h
theorem sp_128_ok {sp : jab} (h : jac Tryz.prog sp) : jac Tryz.prog (sp_128 sp) := jah juI h
def jsz : List (Option Cont) := [none, none]
def jhV (n : Int) (by_ : Int) : Option Int :=
 if by_ ≠ (0 : Int) then
  if Int.tmod n by_ < 0 then
  some (wrap .i64 (Int.tmod n by_ + by_))
  else
  some (Int.tmod n by_)
 else none
def jnQ : List A → Option (Prop × List RV)
 | [.d (.i .i64 n), .d (.i .i64 by_)] => some (ok (jhV n by_), [.d (.i .i64 ((val (jhV n by_))))])
 | _ => none
abbrev sp_148 : jab → jab := jav 148 true (jar jsz jnQ)
theorem jvU (n : Int) (by_ : Int) (r : Int) (h : Option.bind (jhV n by_) some = some r) : jbb Tryz.f148 (sp0) (fun _ _ _ => none) [.d (.i .i64 n), .d (.i .i64 by_)] [.d (.i .i64 r)] := by
 refine Eq.mp (by kernel_rfl : (
 (Ob (by_ ≠ (0 : Int)) ∧
 Br (decide (Int.tmod n by_ < 0))
  ((Ob True ∧
 (Ob (wrap .i64 (Int.tmod n by_ + by_) = r) ∧
 True)))
  ((Ob True ∧
 (Ob (Int.tmod n by_ = r) ∧
 True))))) = _) ?_
 refine jao h fun h => ?_
 refine jaN h (fun h => ?_) (fun h => ?_)
 ·refine jad ?_
  exact rcs h
 ·refine jad ?_
  exact rcs h
theorem jvV : jag Tryz.prog 148 true (jar jsz jnQ) := by
 refine jaz (sp := sp0) (fn := Tryz.f148) (body := jaj Tryz.f148) mixed jak Tryz.func148 (by kernel_rfl) (by kernel_rfl) fun as_ ob rs h ho => ?_
 unfold jnQ at h
 split at h
 ·rename_i n by_
  cases h
  exact ⟨Nat.le_of_ble_eq_true rfl, _, _, jvU n by_ _ (jai ho)⟩
 ·cases h
theorem sp_148_ok {sp : jab} (h : jac Tryz.prog sp) : jac Tryz.prog (sp_148 sp) := jah jvV h
def jex : List SV := [.c (.d)]
def jfJ (f : Nat) : Option Bool :=
 if (Ieee.Format.order (FloatKind.format .f64) f f != some Ordering.eq) = true then
  some false
 else
  if (Option.isSome (Ieee.Format.sub (FloatKind.format .f64) f f)) = true then
  if (Ieee.Format.order (FloatKind.format .f64) (Option.getD (Ieee.Format.sub (FloatKind.format .f64) f f) (0 : Nat)) (0 : Nat) != some Ordering.eq) = true then
   some false
  else
   if (Ieee.Format.order (FloatKind.format .f64) f (14069741636278059008 : Nat) == some Ordering.gt || Ieee.Format.order (FloatKind.format .f64) f (14069741636278059008 : Nat) == some Ordering.eq) = true then
   if (!(Ieee.Format.order (FloatKind.format .f64) f (4846369599423283200 : Nat) == some Ordering.lt || Ieee.Format.order (FloatKind.format .f64) f (4846369599423283200 : Nat) == some Ordering.eq)) = true then
    some true
   else
    if jb7 .f64 .i64 f = true then
    some (Ieee.Format.order (FloatKind.format .f64) (FloatKind.nearest .f64 (f2i .f64 f)) f == some Ordering.eq)
    else none
   else
   some true
  else
  some false
def jqY : Option Bool :=
 some false
def jgC : List Lf → Option GT
 | [.d (.f .f64 f)] => some (.leaf (ok (jfJ f)) [.c (.d (.b ((val (jfJ f)))))])
 | [.n .f64] => some (.leaf (ok (jqY)) [.c (.d (.b ((val (jqY)))))])
 | _ => none
abbrev sp_121 : jab → jab := jav 121 true (jal jex jgC)
theorem jqZ (f : Nat) (r : Bool) (h : Option.bind (jfJ f) some = some r) : ja0 Tryz.f121 (sp0) (fun _ _ _ => none) (jaO jex [.d (.f .f64 f)]) [.c (.d (.b r))] := by
 refine Eq.mp (by kernel_rfl : (
 Br (Ieee.Format.order (FloatKind.format .f64) f f != some Ordering.eq)
  ((Ob True ∧
 (Ob (false = r) ∧
 True)))
 (Br (Option.isSome (Ieee.Format.sub (FloatKind.format .f64) f f))
  ((Ob True ∧
 Br (Ieee.Format.order (FloatKind.format .f64) (Option.getD (Ieee.Format.sub (FloatKind.format .f64) f f) (0 : Nat)) (0 : Nat) != some Ordering.eq)
  ((Ob True ∧
 (Ob (false = r) ∧
 True)))
 (Br (Ieee.Format.order (FloatKind.format .f64) f (14069741636278059008 : Nat) == some Ordering.gt || Ieee.Format.order (FloatKind.format .f64) f (14069741636278059008 : Nat) == some Ordering.eq)
 (Br (!(Ieee.Format.order (FloatKind.format .f64) f (4846369599423283200 : Nat) == some Ordering.lt || Ieee.Format.order (FloatKind.format .f64) f (4846369599423283200 : Nat) == some Ordering.eq))
  ((Ob True ∧
 (Ob (true = r) ∧
 True)))
  ((Ob (jb7 .f64 .i64 f = true) ∧
 (Ob True ∧
 (Ob True ∧
 (Ob ((Ieee.Format.order (FloatKind.format .f64) (FloatKind.nearest .f64 (f2i .f64 f)) f == some Ordering.eq) = r) ∧
 True))))))
  ((Ob True ∧
 (Ob (true = r) ∧
 True))))))
  ((Ob True ∧
 (Ob True ∧
 (Ob (false = r) ∧
 True)))))) = _) ?_
 refine jaW h (fun h => ?_) (fun h => ?_)
 ·refine jad ?_
  exact rcs h
 ·refine jaW h (fun h => ?_) (fun h => ?_)
  ·refine jad ?_
   refine jaW h (fun h => ?_) (fun h => ?_)
   ·refine jad ?_
    exact rcs h
   ·refine jaW h (fun h => ?_) (fun h => ?_)
    ·refine jaW h (fun h => ?_) (fun h => ?_)
     ·refine jad ?_
      exact rcs h
     ·refine jao h fun h => ?_
      refine jad ?_
      refine jad ?_
      exact rcs h
    ·refine jad ?_
     exact rcs h
  ·refine jad ?_
   refine jad ?_
   exact rcs h
theorem jnR (r : Bool) (h : Option.bind (jqY) some = some r) : ja0 Tryz.f121 (sp0) (fun _ _ _ => none) (jaO jex [.n .f64]) [.c (.d (.b r))] := by
 refine Eq.mp (by kernel_rfl : (
 (Ob True ∧
 (Ob (false = r) ∧
 True))) = _) ?_
 refine jad ?_
 exact rcs h
theorem jq0 : jag Tryz.prog 121 true (jal jex jgC) := by
 refine jat (sp := sp0) (fn := Tryz.f121) (body := jaj Tryz.f121) mixed jak Tryz.func121 (by kernel_rfl) (by kernel_rfl) fun ls t h ho b hb => ?_
 unfold jgC at h
 split at h
 ·rename_i f
  cases h
  obtain rfl := jaB hb
  exact ⟨Nat.le_of_ble_eq_true (by kernel_rfl), _, _, jqZ f _ (jai ho)⟩
 ·cases h
  obtain rfl := jaB hb
  exact ⟨Nat.le_of_ble_eq_true (by kernel_rfl), _, _, jnR _ (jai ho)⟩
 ·cases h
theorem sp_121_ok {sp : jab} (h : jac Tryz.prog sp) : jac Tryz.prog (sp_121 sp) := jah jq0 h
end Go.Sh
end

section
namespace Go.Sh
open Go Go.Proofs Go.RowKit Go.Sx Go.Sx06 Ieee Go.Fl
open Go.IntKind (wrap)
theorem jbE (n : Int) : IntKind.u64.wrap n = n % 18446744073709551616 := by
 unfold wrap
 rfl
theorem b64 : IntKind.bits IntKind.u64 = 64 := rfl
theorem jey (x : Int) : Int.fdiv x ((2 : Int) ^ min (32 : Nat) (IntKind.bits IntKind.u64)) = x / 4294967296 := by
 rw [Int.fdiv_eq_ediv_of_nonneg _ (by decide)]
 rfl
theorem jfK (x : Int) : (↑(BitVec.toNat (BitVec.ofInt (IntKind.bits IntKind.u64) x &&& BitVec.ofInt (IntKind.bits IntKind.u64) (4294967295 : Int))) : Int) = x % 4294967296 := by
 rw [BitVec.toNat_and]
 have e : (BitVec.ofInt (IntKind.bits IntKind.u64) (4294967295 : Int)).toNat = 2 ^ 32 - 1 := by decide
 rw [e, Nat.and_two_pow_sub_one_eq_mod, BitVec.toNat_ofInt, b64]
 omega
theorem mw (x : Int) : x % 4294967296 % 18446744073709551616 = x % 4294967296 := by omega
theorem jcm {n b : Int} (hb : 0 < b) (hn : -9223372036854775807 ≤ n ∧ n ≤ 9223372036854775807) : y28 n b = some (n / b) := by
 have h1 := jrU (n := n) hb
 have h2 := jkV (n := n) hb
 unfold y28
 rw [if_pos (by omega), if_pos (by omega), jas (x := n.tdiv b) (by omega)]
 split
 ·rename_i h
  rw [jup hb h, jas (by omega)]
 ·rename_i h
  rw [juq hb h]
def az (n : Int) : Int := max n (-n)
theorem jvW {n : Int} (h : inJ n) : jfI n = some (az n) := by
 unfold inJ at h
 unfold jfI az
 rw [jas (x := 0 - n) (by omega)]
 congr 1
 split <;> omega
theorem jq1 {n : Int} (h : inJ n) : ja1 n = some (az n) := by
 unfold inJ at h
 unfold ja1 az
 rw [jas (x := 0 - n) (by omega)]
 congr 1
 split <;> omega
def jcn (n d m k : Int) : Int := if n * k < m * d then -1 else if m * d < n * k then 1 else 0
theorem jvX {n d m k : Int} (hn : 0 ≤ n) (hd : 0 < d) (hm : 0 ≤ m) (hk : 0 < k) :
  jcn n d m k = if n / d < m / k then -1 else if n / d > m / k then 1 else jcn (n % d) d (m % k) k := by
 have a1 := Int.mul_ediv_add_emod n d
 have a2 := Int.emod_nonneg n (show d ≠ 0 by omega)
 have a3 := Int.emod_lt_of_pos n hd
 have b1 := Int.mul_ediv_add_emod m k
 have b2 := Int.emod_nonneg m (show k ≠ 0 by omega)
 have b3 := Int.emod_lt_of_pos m hk
 generalize n / d = q at *
 generalize n % d = r at *
 generalize m / k = q' at *
 generalize m % k = r' at *
 have e1 : n * k = q * (d * k) + r * k := by rw [← a1, Int.add_mul, Int.mul_comm d q, Int.mul_assoc]
 have e2 : m * d = q' * (d * k) + r' * d := by rw [← b1, Int.add_mul, Int.mul_comm k q', Int.mul_assoc, Int.mul_comm k d]
 have e3 : r * k < d * k := Int.mul_lt_mul_of_pos_right a3 hk
 have e4 : r' * d < d * k := by rw [Int.mul_comm d k]; exact Int.mul_lt_mul_of_pos_right b3 hd
 have e5 : 0 ≤ r * k := Int.mul_nonneg a2 (by omega)
 have e6 : 0 ≤ r' * d := Int.mul_nonneg b2 (by omega)
 unfold jcn
 rw [e1, e2]
 by_cases c1 : q < q'
 ·have := Int.mul_le_mul_of_nonneg_right (show q + 1 ≤ q' by omega) (show 0 ≤ d * k by omega)
  rw [Int.add_mul] at this
  rw [if_pos c1, if_pos (by omega)]
 ·by_cases c2 : q > q'
  ·have := Int.mul_le_mul_of_nonneg_right (show q' + 1 ≤ q by omega) (show 0 ≤ d * k by omega)
   rw [Int.add_mul] at this
   rw [if_neg c1, if_pos c2, if_neg (by omega), if_pos (by omega)]
  ·have : q = q' := by omega
   subst this
   rw [if_neg c1, if_neg c2]
   by_cases d1 : r * k < r' * d
   ·rw [if_pos d1, if_pos (by omega)]
   ·rw [if_neg d1, if_neg (by omega)]
    by_cases d2 : r' * d < r * k
    ·rw [if_pos d2, if_pos (by omega)]
    ·rw [if_neg d2, if_neg (by omega)]
theorem jvY (r d r' k : Int) : jcn k r' d r = jcn r d r' k := by
 unfold jcn
 rw [Int.mul_comm k r, Int.mul_comm d r']
theorem jq2 : ∀ (s : Nat) (n d m k : Int) (N : Nat), 0 ≤ n → n ≤ 9223372036854775807 → 0 < d → d ≤ 9223372036854775807 → 0 ≤ m → m ≤ 9223372036854775807 → 0 < k → k ≤ 9223372036854775807 → d + k ≤ s → s < N → jae jjq N (n, d, m, k) = some (jcn n d m k) := by
 intro s
 induction s with
 | zero =>
  intro n d m k N _ _ h _ _ _ h' _ hs _
  omega
 | succ s ih =>
  intro n d m k N hn hn' hd hd' hm hm' hk hk' hs hN
  obtain ⟨N, rfl⟩ : ∃ M, N = M + 1 := ⟨N - 1, by omega⟩
  rw [jvX hn hd hm hk]
  unfold jae jjq
  dsimp only
  rw [jcm hd (by omega), jaa, jcm hk (by omega), jaa]
  have a1 := Int.mul_ediv_add_emod n d
  have a2 := Int.emod_nonneg n (show d ≠ 0 by omega)
  have a3 := Int.emod_lt_of_pos n hd
  have a4 : 0 ≤ d * (n / d) := Int.mul_nonneg (by omega) (Int.ediv_nonneg hn (by omega))
  have b4 : 0 ≤ k * (m / k) := Int.mul_nonneg (by omega) (Int.ediv_nonneg hm (by omega))
  have b1 := Int.mul_ediv_add_emod m k
  have b2 := Int.emod_nonneg m (show k ≠ 0 by omega)
  have b3 := Int.emod_lt_of_pos m hk
  have e1 : wrap .i64 (n - wrap .i64 (n / d * d)) = n % d := by
   rw [Int.mul_comm (n / d) d, jas (x := d * (n / d)) (by omega), jas (by omega)]
   omega
  have e2 : wrap .i64 (m - wrap .i64 (m / k * k)) = m % k := by
   rw [Int.mul_comm (m / k) k, jas (x := k * (m / k)) (by omega), jas (by omega)]
   omega
  rw [e1, e2]
  by_cases c1 : n / d < m / k
  ·rw [if_pos c1, if_pos c1]
  ·rw [if_neg c1, if_neg c1]
   by_cases c2 : n / d > m / k
   ·rw [if_pos c2, if_pos c2]
   ·rw [if_neg c2, if_neg c2]
    clear a1 b1 e1 e2 a4 b4
    generalize n % d = r at *
    generalize m % k = r' at *
    by_cases d1 : r = 0
    ·subst d1
     rw [if_pos (by rfl)]
     by_cases d2 : r' = 0
     ·subst d2
      rw [if_pos (by rfl)]
      dsimp only
      unfold jcn
      rw [Int.zero_mul, Int.zero_mul, if_neg (by omega), if_neg (by omega)]
     ·rw [if_neg (by simpa using d2), if_pos (by rfl)]
      dsimp only
      unfold jcn
      rw [Int.zero_mul, if_pos (Int.mul_pos (by omega) hd)]
    ·rw [if_neg (by simpa using d1), if_neg (by simpa using d1)]
     by_cases d2 : r' = 0
     ·subst d2
      rw [if_pos (by rfl)]
      dsimp only
      have := Int.mul_pos (show 0 < r by omega) hk
      unfold jcn
      rw [Int.zero_mul, if_neg (by omega), if_pos this]
     ·rw [if_neg (by simpa using d2)]
      dsimp only
      exact (ih k r' d r N (by omega) (by omega) (by omega) (by omega) (by omega) (by omega) (by omega) (by omega) (by omega) (by omega)).trans (congrArg some (jvY r d r' k))
theorem jcA {n d m k : Int} (hn : 0 ≤ n) (hn' : n ≤ 9223372036854775807) (hd : 0 < d) (hd' : d ≤ 9223372036854775807) (hm : 0 ≤ m) (hm' : m ≤ 9223372036854775807) (hk : 0 < k) (hk' : k ≤ 9223372036854775807) :
  y38 n d m k = some (jcn n d m k) := by
 unfold y38
 rw [jq2 (d + k).toNat n d m k big hn hn' hd hd' hm hm' hk hk' (by omega) (by unfold big; omega), jaa]
 rfl
theorem jcw {x y : Int} (hx : 0 ≤ x) (hx' : x < 18446744073709551616) (hy : 0 ≤ y) (hy' : y < 18446744073709551616) :
  y9 x y = some (x * y / 18446744073709551616, x * y % 18446744073709551616) := by
 unfold y9
 simp only [jey, jfK, jbE, mw]
 have a1 : 0 ≤ x / 4294967296 ∧ x / 4294967296 ≤ 4294967295 := by omega
 have a0 : 0 ≤ x % 4294967296 ∧ x % 4294967296 ≤ 4294967295 := by omega
 have b1 : 0 ≤ y / 4294967296 ∧ y / 4294967296 ≤ 4294967295 := by omega
 have b0 : 0 ≤ y % 4294967296 ∧ y % 4294967296 ≤ 4294967295 := by omega
 have ex : x = x / 4294967296 * 4294967296 + x % 4294967296 := by omega
 have ey : y = y / 4294967296 * 4294967296 + y % 4294967296 := by omega
 generalize x / 4294967296 = x1 at *
 generalize x % 4294967296 = x0 at *
 generalize y / 4294967296 = y1 at *
 generalize y % 4294967296 = y0 at *
 have p11 := Int.mul_le_mul a1.2 b1.2 b1.1 (by decide)
 have p10 := Int.mul_le_mul a1.2 b0.2 b0.1 (by decide)
 have p01 := Int.mul_le_mul a0.2 b1.2 b1.1 (by decide)
 have p00 := Int.mul_le_mul a0.2 b0.2 b0.1 (by decide)
 have n11 := Int.mul_nonneg a1.1 b1.1
 have n10 := Int.mul_nonneg a1.1 b0.1
 have n01 := Int.mul_nonneg a0.1 b1.1
 have n00 := Int.mul_nonneg a0.1 b0.1
 have e : x * y = x1 * y1 * 18446744073709551616 + (x1 * y0 + x0 * y1) * 4294967296 + x0 * y0 := by
  rw [ex, ey]
  grind
 rw [e]
 clear ex ey e
 generalize x1 * y1 = p at *
 generalize x1 * y0 = q at *
 generalize x0 * y1 = r at *
 generalize x0 * y0 = s at *
 congr 2
 ·omega
theorem jsA (x y : Int) : y41 x y = some (if x < y then -1 else if x > y then 1 else 0) := by
 unfold y41 y63
 simp only [jaa, bne_self_eq_false]
 by_cases h1 : x < y
 ·simp [h1]
 ·by_cases h2 : x > y
  ·simp [h1, h2]
  ·simp [h1, h2]
theorem jfL (a b c d : Int) : y24 [a, b] [c, d] = some (if a < c then -1 else if a > c then 1 else if b < d then -1 else if b > d then 1 else 0) := by
 have s0 : y17 [a, b] [c, d] 0 = (if a < c then some (.inr (.inl (-1))) else if a > c then some (.inr (.inl 1)) else some (.inl 1)) := by
  unfold y17
  rw [if_pos (by simp), if_pos (by simp), if_pos (by simp), if_neg (by simp), if_pos (by simp), if_pos (by simp), jsA, jaa]
  show (if ((if a < c then (-1 : Int) else if a > c then 1 else 0) != 0) = true then (some (Sum.inr (Sum.inl (if a < c then (-1 : Int) else if a > c then 1 else 0))) : Option (Int ⊕ (Int ⊕ Unit))) else some (Sum.inl (wrap .i64 (0 + 1)))) = _
  by_cases h1 : a < c
  ·simp [h1]
  ·by_cases h2 : a > c
   ·simp [h1, h2]
   ·simp [h1, h2]
    rfl
 have s1 : y17 [a, b] [c, d] 1 = (if b < d then some (.inr (.inl (-1))) else if b > d then some (.inr (.inl 1)) else some (.inl 2)) := by
  unfold y17
  rw [if_pos (by simp), if_pos (by simp), if_pos (by simp), if_neg (by simp), if_pos (by simp), if_pos (by simp), jsA, jaa]
  show (if ((if b < d then (-1 : Int) else if b > d then 1 else 0) != 0) = true then (some (Sum.inr (Sum.inl (if b < d then (-1 : Int) else if b > d then 1 else 0))) : Option (Int ⊕ (Int ⊕ Unit))) else some (Sum.inl (wrap .i64 (1 + 1)))) = _
  by_cases h1 : b < d
  ·simp [h1]
  ·by_cases h2 : b > d
   ·simp [h1, h2]
   ·simp [h1, h2]
    rfl
 have s2 : y17 [a, b] [c, d] 2 = some (.inr (.inr ())) := by
  unfold y17
  rw [if_neg (by simp)]
 unfold y24
 have hb : big = (big - 3) + 1 + 1 + 1 := by decide
 rw [hb]
 unfold jae
 rw [s0]
 by_cases h1 : a < c
 ·rw [if_pos h1, if_pos h1]
  rfl
 ·rw [if_neg h1, if_neg h1]
  by_cases h2 : a > c
  ·rw [if_pos h2, if_pos h2]
   rfl
  ·rw [if_neg h2, if_neg h2]
   dsimp only
   unfold jae
   rw [s1]
   by_cases h3 : b < d
   ·rw [if_pos h3, if_pos h3]
    rfl
   ·rw [if_neg h3, if_neg h3]
    by_cases h4 : b > d
    ·rw [if_pos h4, if_pos h4]
     rfl
    ·rw [if_neg h4, if_neg h4]
     dsimp only
     unfold jae
     rw [s2]
     rfl
theorem jq3 (x y : Int) : (if x / 18446744073709551616 < y / 18446744073709551616 then (-1 : Int) else if x / 18446744073709551616 > y / 18446744073709551616 then 1 else if x % 18446744073709551616 < y % 18446744073709551616 then -1 else if x % 18446744073709551616 > y % 18446744073709551616 then 1 else 0) = if x < y then -1 else if y < x then 1 else 0 := by
 split
 ·rw [if_pos (by omega)]
 ·split
  ·rw [if_neg (by omega), if_pos (by omega)]
  ·split
   ·rw [if_pos (by omega)]
   ·split
    ·rw [if_neg (by omega), if_pos (by omega)]
    ·rw [if_neg (by omega), if_neg (by omega)]
theorem jcB (n lo hi : Int) : y53 n lo hi = some (decide (lo ≤ n ∧ n ≤ hi)) := by
 unfold y53
 by_cases h : lo ≤ n <;> simp [h]
theorem jdP (n lo hi : Int) : y10 n lo hi = some (decide (lo ≤ n ∧ n ≤ hi)) := by
 unfold y10
 by_cases h : lo ≤ n <;> simp [h]
theorem jdy (b : Bool) (e : Int) : y11 b e = some (if b = true then 0 else e) := by
 unfold y11
 cases b <;> rfl
theorem jcZ {n b : Int} (hb : 0 < b) (hn : -9223372036854775807 ≤ n ∧ n ≤ 9223372036854775807) : jbl n b = some (-(-n / b)) := by
 have := jkV (n := -n) hb
 unfold jbl
 rw [jas (x := 0 - n) (by omega), Int.zero_sub, jcm hb (by omega), jaa, jas (by omega), Int.zero_sub]
theorem jdp {n b : Int} (hb : 0 < b) : -(-n / b) = (n + b - 1) / b := by
 have h1 := Int.mul_ediv_add_emod (-n) b
 have h2 := Int.emod_nonneg (-n) (show b ≠ 0 by omega)
 have h3 := Int.emod_lt_of_pos (-n) hb
 generalize -n / b = q at *
 generalize -n % b = r at *
 symm
 have e : n + b - 1 = b * (-q) + (b - 1 - r) := by rw [Int.mul_neg]; omega
 rw [e, Int.add_comm, Int.add_mul_ediv_left _ _ (by omega), Int.ediv_eq_zero_of_lt (by omega) (by omega)]
 omega
theorem jd8 {n b : Int} (hb : 0 < b) (hn : 0 ≤ n) (h : n + b ≤ 9223372036854775807) : jbk n b = some ((n + b - 1) / b) := by
 have h1 : 0 ≤ (n + b - 1) / b := Int.ediv_nonneg (by omega) (by omega)
 have h2 : (n + b - 1) / b ≤ n + b - 1 := Int.ediv_le_self b (by omega)
 unfold jbk
 rw [if_pos (by omega), jas (x := n + b) (by omega), jas (x := n + b - 1) (by omega), Int.tdiv_eq_ediv_of_nonneg (by omega), jas (by omega)]
def jnS (l : List Int) : Int := (l.find? (fun x => x != 0)).getD 0
theorem jls {l : List Int} (hl : l.length < 1000000) : y30 l = some (jnS l) := by
 have h := jdM l 0 (fun n => n != 0) (body := jhP l) (fun i => .inl (l.getD i 0)) (.inr ()) (by omega)
  (fun i hi hp => by
   unfold jhP
   rw [if_pos (by omega), if_pos (by omega), if_pos (by omega), Int.toNat_natCast, if_pos hp])
  (fun i hi hp => by
   unfold jhP
   rw [if_pos (by omega), if_pos (by omega), if_pos (by omega), Int.toNat_natCast, if_neg (by rw [hp]; simp), jas (by omega)])
  (by unfold jhP; rw [if_neg (by omega)])
 unfold y30
 rw [h, jaa]
 unfold jnS
 cases hf : l.findIdx? (fun n => n != 0) with
 | none =>
  rw [List.findIdx?_eq_none_iff] at hf
  have : l.find? (fun x => x != 0) = none := List.find?_eq_none.2 fun x hx => by rw [hf x hx]; simp
  rw [this]; rfl
 | some k =>
  rw [List.findIdx?_eq_some_iff_getElem] at hf
  obtain ⟨hk, hp, hbef⟩ := hf
  have : l.find? (fun x => x != 0) = some l[k] := List.find?_eq_some_iff_getElem.2 ⟨hp, k, hk, rfl, fun j hj => by have := hbef j hj; simpa using this⟩
  rw [this]
  simp [List.getD, hk, jnC, ji9]
theorem jxh (a b : Int) : jnS [a, b] = if a ≠ 0 then a else b := by
 unfold jnS
 by_cases h : a = 0
 ·by_cases h2 : b = 0 <;> simp [h, h2]
 ·simp [h]
theorem firE3 (a b c : Int) : jnS [a, b, c] = if a ≠ 0 then a else if b ≠ 0 then b else c := by
 unfold jnS
 by_cases h : a = 0
 ·by_cases h2 : b = 0
  ·by_cases h3 : c = 0 <;> simp [h, h2, h3]
  ·simp [h, h2]
 ·simp [h]
end Go.Sh
end

section
namespace Go.Sh
open Go Go.Proofs Go.RowKit Go.Sx Go.Sx06 Ieee Go.Fl
def KK : Nat := 1100
def PP : Nat := 2 ^ KK
theorem jg5 : 0 < PP := Nat.two_pow_pos _
theorem jmG (a b : Int) : (some (compare a b) == some Ordering.eq) = decide (a = b) := by
 rcases Int.lt_trichotomy a b with h | h | h
 ·rw [Int.compare_eq_lt.2 h, decide_eq_false (by omega)]; rfl
 ·rw [Int.compare_eq_eq.2 h, decide_eq_true h]; rfl
 ·rw [Int.compare_eq_gt.2 h, decide_eq_false (by omega)]; rfl
theorem jq4 (a b : Int) : (some (compare a b) == some Ordering.lt) = decide (a < b) := by
 rcases Int.lt_trichotomy a b with h | h | h
 ·rw [Int.compare_eq_lt.2 h, decide_eq_true h]; rfl
 ·rw [Int.compare_eq_eq.2 h, decide_eq_false (by omega)]; rfl
 ·rw [Int.compare_eq_gt.2 h, decide_eq_false (by omega)]; rfl
theorem jq5 (a b : Int) : (some (compare a b) == some Ordering.gt) = decide (b < a) := by
 rcases Int.lt_trichotomy a b with h | h | h
 ·rw [Int.compare_eq_lt.2 h, decide_eq_false (by omega)]; rfl
 ·rw [Int.compare_eq_eq.2 h, decide_eq_false (by omega)]; rfl
 ·rw [Int.compare_eq_gt.2 h, decide_eq_true h]; rfl
def seD : Datum → Int
 | .number _ m e => if 16777216 * PP ≤ mg KK m e then 2 else if mg KK m e / PP * PP ≠ mg KK m e then 27 else if mg KK m e / PP ≤ 32767 then 0 else 2
 | _ => 27
def se (b : Nat) : Int := seD (FloatKind.decode .f32 b)
theorem jmH (m : Nat) (e : Nat) : mg KK m (e : Int) = m * 2 ^ e * PP := by
 unfold mg PP
 rw [Nat.mul_assoc, ← Nat.pow_add]
 congr 2
theorem jhW (a : Nat) : sg false a = (a : Int) := rfl
theorem jfM (a : Nat) : sg true a = -(a : Int) := rfl
theorem jq6 {s : Bool} {m : Nat} {i : Int} (hi : 0 ≤ i + KK) : Datum.toInt .zero (.number s m i) = some (sg s (mg KK m i / PP)) := jvA KK hi
theorem jxD {n : Int} (hn : -16777216 < n ∧ n < 16777216) : ∃ m e, FloatKind.decode .f32 (FloatKind.nearest .f32 n) = .number (decide (n < 0)) m e ∧ mg KK m e = n.natAbs * PP ∧ -149 ≤ e := jx4 KK (by unfold KK; omega) hn
theorem jxi : mg KK 8388608 1 = 16777216 * PP := by
 have := jmH 8388608 1
 rw [show (8388608 * 2 ^ 1 : Nat) = 16777216 from rfl] at this
 exact this
theorem jxj : mg KK 5000000000000000 1 = 10000000000000000 * PP := by
 have := jmH 5000000000000000 1
 rw [show (5000000000000000 * 2 ^ 1 : Nat) = 10000000000000000 from rfl] at this
 exact this
theorem jmI : PP = 2 ^ KK := rfl
attribute [irreducible] PP
theorem sub_self (f : Format) {b : Nat} {s : Bool} {m : Nat} {e : Int} (h : f.read b = .number s m e) : f.sub b b = some 0 := by
 unfold Format.sub
 rw [h, jvz]
 simp [Format.write, Format.nearest, Format.word]
theorem jsB (f : Format) {b : Nat} {s : Bool} (h : f.read b = .infinity s) : f.sub b b = none := by
 unfold Format.sub
 rw [h]
 cases s <;> rfl
theorem jit (b : Nat) : y99 b = some (se b) := by
 have hz : Format.order single 0 0 = some .eq := by decide
 unfold y99 se FloatKind.decode
 simp only [show FloatKind.format .f32 = single from rfl]
 rcases read32 b with ⟨s, m, e, h, hm, he1, he2⟩ | ⟨s, h⟩ | ⟨s, t, h⟩
 ·have h1 : single.order b b = some .eq := by
   unfold Format.order
   rw [h, jck KK (by unfold KK; omega) (by unfold KK; omega), Int.compare_eq_eq.2 rfl]
  have hA : single.order b 1266679808 = some (compare (sg s (mg KK m e)) ((16777216 * PP : Nat) : Int)) := by
   unfold Format.order
   have hc : single.read 1266679808 = .number false 8388608 1 := by decide
   rw [h, hc, jck KK (by unfold KK; omega) (by unfold KK; omega)]
   rw [jxi]
   first | rw [jhW] | rw [jfM]
  have hB : single.order b 3414163456 = some (compare (sg s (mg KK m e)) (-((16777216 * PP : Nat) : Int))) := by
   unfold Format.order
   have hc : single.read 3414163456 = .number true 8388608 1 := by decide
   rw [h, hc, jck KK (by unfold KK; omega) (by unfold KK; omega)]
   rw [jxi]
   first | rw [jhW] | rw [jfM]
  have hT : Datum.toInt .zero (FloatKind.decode .f32 b) = some (sg s (mg KK m e / PP)) := by
   unfold FloatKind.decode
   simp only [show FloatKind.format .f32 = single from rfl]
   rw [h, jq6 (by unfold KK; omega)]
  rw [h1, sub_self single h, hA, hB]
  simp only [Option.isSome_some, Option.getD_some, hz, if_true, bne_self_eq_false, Bool.false_eq_true, if_false, jq5, jmG, jq4, h, seD]
  generalize hg : mg KK m e = A at *
  have hP := jg5
  have hdm := Nat.div_add_mod A PP
  rw [Nat.mul_comm] at hdm
  have hml := Nat.mod_lt A hP
  have hq : f2i .f32 b = sg s (A / PP) := by unfold f2i; rw [hT]; rfl
  by_cases hbig : 16777216 * PP ≤ A
  ·rw [if_pos hbig]
   cases s
   ·rw [if_pos]
    simp only [sg, Bool.false_eq_true, if_false, Bool.or_eq_true, decide_eq_true_eq]
    omega
   ·rw [if_neg, if_pos]
    ·simp only [sg, if_true, Bool.or_eq_true, decide_eq_true_eq]
     omega
    ·simp only [sg, if_true, Bool.or_eq_true, decide_eq_true_eq]
     omega
  ·rw [if_neg hbig]
   have hd : A / PP < 16777216 := (Nat.div_lt_iff_lt_mul hP).2 (by omega)
   generalize A / PP = Q at *
   generalize A % PP = R at *
   generalize hQP : Q * PP = QP at *
   have hn : -16777216 < sg s Q ∧ sg s Q < 16777216 := by cases s <;> simp only [sg, Bool.false_eq_true, if_false, if_true] <;> omega
   have hok : jb7 .f32 .i64 b = true := by
    unfold jb7
    rw [hT]
    have e1 : IntKind.i64.min = -9223372036854775808 := rfl
    have e2 : IntKind.i64.max = 9223372036854775807 := rfl
    simp only [e1, e2, decide_eq_true_eq]
    omega
   rw [if_neg, if_neg, if_pos hok]
   ·obtain ⟨m', e', h3, h4, h5⟩ := jxD hn
    have hC : single.order (FloatKind.nearest .f32 (f2i .f32 b)) b = some (compare (sg s Q * (PP : Int)) (sg s A)) := by
     unfold Format.order
     have h3' : single.read (FloatKind.nearest .f32 (f2i .f32 b)) = .number (decide (sg s Q < 0)) m' e' := by rw [hq]; exact h3
     rw [h3', h, jck KK (by unfold KK; omega) (by unfold KK; omega), h4, hg, jg1, joH]
    rw [hC]
    have hne : (some (compare (sg s Q * (PP : Int)) (sg s A)) != some Ordering.eq) = decide (QP ≠ A) := by
     rw [bne, jmG]
     have : (sg s Q * (PP : Int) = sg s A) ↔ QP = A := by
      rw [← jg1, hQP]
      cases s <;> simp only [sg, Bool.false_eq_true, if_false, if_true] <;> omega
     by_cases hw : QP = A
     ·rw [decide_eq_true (this.2 hw), decide_eq_false (by omega)]; rfl
     ·rw [decide_eq_false (fun h => hw (this.1 h)), decide_eq_true hw]; rfl
    rw [hne, hq]
    by_cases hw : QP = A
    ·rw [decide_eq_false (show ¬ (QP ≠ A) by omega), if_neg Bool.false_ne_true, if_neg (show ¬ (QP ≠ A) by omega)]
     rw [if_pos hok]
     rw [jq1 (by unfold inJ; omega), jaa, jdy, jaa]
     have hb : (decide (az (sg s Q) ≤ 32767) = true) ↔ (Q ≤ 32767) := by
      rw [decide_eq_true_eq, az]
      cases s <;> simp only [sg, Bool.false_eq_true, if_false, if_true] <;> omega
     by_cases hQ : Q ≤ 32767
     ·rw [if_pos hQ, if_pos (hb.2 hQ)]
     ·rw [if_neg hQ, if_neg (fun h => hQ (hb.1 h))]
    ·rw [decide_eq_true (show QP ≠ A from hw), if_pos rfl, if_pos hw]
   ·cases s <;> simp only [sg, Bool.false_eq_true, if_false, if_true, Bool.or_eq_true, decide_eq_true_eq] <;> omega
   ·cases s <;> simp only [sg, Bool.false_eq_true, if_false, if_true, Bool.or_eq_true, decide_eq_true_eq] <;> omega
 ·have h1 : single.order b b = some .eq := by
   unfold Format.order
   rw [h]
   cases s <;> rfl
  rw [h1, jsB single h, h]
  rfl
 ·have h1 : single.order b b = none := by
   unfold Format.order
   rw [h]
   rfl
  rw [h1, h]
  rfl
end Go.Sh
end

section
namespace Go.Sh
open Go Go.Proofs Go.RowKit Go.Sx Go.Sx06 Ieee Go.Fl
theorem dbl {b : Nat} {s : Bool} {m : Nat} {e : Int} (h : single.read b = .number s m e) (hm : m < 16777216) (he1 : -149 ≤ e) (he2 : e ≤ 104) :
  ∃ m' e', double.read (jch b) = .number s m' e' ∧ mg KK m' e' = mg KK m e ∧ -1074 ≤ e' ∧ m' < 9007199254740992 := by
 have e0 : jch b = double.write (.number s m e) := by
  unfold jch FloatKind.encode FloatKind.decode
  simp only [show FloatKind.format .f32 = single from rfl, show FloatKind.format .f64 = double from rfl, h]
 rw [e0]
 by_cases h0 : m = 0
 ·subst h0
  exact ⟨0, -1074, jqm s e, by simp [mg], by omega, by omega⟩
 ·obtain ⟨h1, h2⟩ := jnv (s := s) h0 (by omega) (show -1000 ≤ e by omega) (show e ≤ 900 by omega)
  have hw := jsq (s := s) h0 (by omega) (show -1000 ≤ e by omega) (show e ≤ 900 by omega)
  refine ⟨_, _, h1, ?_, by omega, hw.2.2.2⟩
  unfold mg
  rw [Nat.mul_assoc, ← Nat.pow_add]
  congr 2
  unfold KK
  omega
theorem jvZ {s : Bool} {n : Nat} (h2 : n % 2 = 0) (hn : 2 ≤ n) : Toward.cut .even s n 1 = n / 2 := by
 have hg : (1 <<< min 1 (n.log2 + 2)) = 2 := by rw [Nat.min_eq_left (by omega)]; rfl
 simp [Toward.cut, hg, h2]
theorem jx9 {n : Int} (hn : n.natAbs < 18014398509481984) (he : 9007199254740992 ≤ n.natAbs → n.natAbs % 2 = 0) :
  ∃ m e, double.read (FloatKind.nearest .f64 n) = .number (decide (n < 0)) m e ∧ mg KK m e = n.natAbs * PP ∧ -1074 ≤ e := by
 have e0 : FloatKind.nearest .f64 n = double.write (.number (decide (n < 0)) n.natAbs 0) := rfl
 rw [e0]
 generalize decide (n < 0) = s
 generalize n.natAbs = a at *
 by_cases h0 : a = 0
 ·subst h0
  exact ⟨0, -1074, jqm s 0, by simp [mg], by omega⟩
 ·by_cases hs : a < 9007199254740992
  ·obtain ⟨h1, h2⟩ := jnv (s := s) h0 hs (show (-1000 : Int) ≤ 0 by omega) (show (0 : Int) ≤ 900 by omega)
   refine ⟨_, _, h1, ?_, by omega⟩
   rw [jmI]; unfold mg
   rw [Nat.mul_assoc, ← Nat.pow_add]
   congr 2
   unfold KK
   omega
  ·have hev := he (by omega)
   have hl : a.log2 = 53 := by
    have h1 := (Nat.log2_lt h0 (k := 54)).2 (by omega)
    have h2 : ¬ a.log2 < 53 := fun h => by have := (Nat.log2_lt h0 (k := 53)).1 h; omega
    omega
   have e2 : double.binade = 4503599627370496 := rfl
   have e3 : double.infRung = 9218868437227405312 := rfl
   have e4 : double.leastPlace = -1074 := rfl
   have e5 : double.fractionBits = 52 := rfl
   have hw : double.write (.number s a 0) = double.word s (1075 * 4503599627370496 + a / 2) := by
    simp only [Format.write, Format.nearest, if_neg h0, e2, e3, e4, e5, hl]
    have hlast : max ((0 : Int) + ((53 : Nat) : Int) - ((52 : Nat) : Int)) (-1074) = 1 := by omega
    rw [hlast]
    have ha : ((0 : Int) - 1).toNat = 0 := by omega
    have hb : ((1 : Int) - 0).toNat = 1 := by omega
    rw [ha, hb, Nat.shiftLeft_zero, jvZ hev (by omega)]
    have hc : ((1 : Int) - -1074).toNat = 1075 := by omega
    rw [hc, Nat.min_eq_left (by omega)]
   rw [hw, jkN (by omega) (by omega)]
   refine ⟨_, _, rfl, ?_, by omega⟩
   have hb : (1075 * 4503599627370496 + a / 2) / 4503599627370496 - 1 = 1075 := by omega
   have ha : 4503599627370496 + (1075 * 4503599627370496 + a / 2) % 4503599627370496 = a / 2 := by omega
   rw [ha, hb]
   have hc : (-1074 : Int) + ((1075 : Nat) : Int) = ((1 : Nat) : Int) := by omega
   rw [hc, jmH]
   congr 1
   omega
theorem jts {f : Nat} {s : Bool} {m : Nat} {e : Int} (h : double.read f = .number s m e) (he : -1074 ≤ e) (hm : m < 9007199254740992) :
  jfJ f = some (decide (10000000000000000 * PP < mg KK m e ∨ mg KK m e / PP * PP = mg KK m e)) := by
 have hz : Format.order double 0 0 = some .eq := by decide
 have h1 : double.order f f = some .eq := by
  unfold Format.order
  rw [h, jck KK (by unfold KK; omega) (by unfold KK; omega), Int.compare_eq_eq.2 rfl]
 have hA : double.order f 14069741636278059008 = some (compare (sg s (mg KK m e)) (-((10000000000000000 * PP : Nat) : Int))) := by
  unfold Format.order
  have hc : double.read 14069741636278059008 = .number true 5000000000000000 1 := by decide
  rw [h, hc, jck KK (by unfold KK; omega) (by unfold KK; omega)]
  rw [jxj]
  first | rw [jhW] | rw [jfM]
 have hB : double.order f 4846369599423283200 = some (compare (sg s (mg KK m e)) ((10000000000000000 * PP : Nat) : Int)) := by
  unfold Format.order
  have hc : double.read 4846369599423283200 = .number false 5000000000000000 1 := by decide
  rw [h, hc, jck KK (by unfold KK; omega) (by unfold KK; omega)]
  rw [jxj]
  first | rw [jhW] | rw [jfM]
 have hT : Datum.toInt .zero (FloatKind.decode .f64 f) = some (sg s (mg KK m e / PP)) := by
  unfold FloatKind.decode
  simp only [show FloatKind.format .f64 = double from rfl]
  rw [h, jq6 (by unfold KK; omega)]
 have hq : f2i .f64 f = sg s (mg KK m e / PP) := by unfold f2i; rw [hT]; rfl
 have hev : 9007199254740992 ≤ mg KK m e / PP → mg KK m e / PP % 2 = 0 := by
  intro hge
  by_cases hp : 0 ≤ e
  ·obtain ⟨d, rfl⟩ : ∃ d : Nat, e = d := ⟨e.toNat, by omega⟩
   rw [jmH, Nat.mul_div_cancel _ jg5] at hge ⊢
   cases d with
   | zero => simp at hge; omega
   | succ d => rw [Nat.pow_succ, ← Nat.mul_assoc]; exact Nat.mul_mod_left _ _
  ·have hlt : mg KK m e / PP < 9007199254740992 := by
    rw [Nat.div_lt_iff_lt_mul jg5]
    rw [jmI]; unfold mg
    have h2 : 2 ^ (e + KK).toNat ≤ 2 ^ KK := Nat.pow_le_pow_right (by omega) (by omega)
    calc m * 2 ^ (e + KK).toNat ≤ m * 2 ^ KK := Nat.mul_le_mul_left _ h2
     _ < 9007199254740992 * 2 ^ KK := Nat.mul_lt_mul_of_pos_right hm (Nat.two_pow_pos _)
   omega
 unfold jfJ
 simp only [show FloatKind.format .f64 = double from rfl]
 rw [h1, sub_self double h, hA, hB]
 simp only [Option.isSome_some, Option.getD_some, hz, if_true, bne_self_eq_false, Bool.false_eq_true, if_false, jq5, jmG, jq4]
 generalize hg : mg KK m e = A at *
 have hP := jg5
 have hdm := Nat.div_add_mod A PP
 rw [Nat.mul_comm] at hdm
 have hml := Nat.mod_lt A hP
 by_cases hbig : 10000000000000000 * PP < A
 ·rw [decide_eq_true (show _ ∨ _ from .inl hbig)]
  cases s
  ·rw [if_pos, if_pos]
   ·simp only [sg, Bool.false_eq_true, if_false, Bool.not_eq_true', Bool.or_eq_false_iff, decide_eq_false_iff_not]
    omega
   ·simp only [sg, Bool.false_eq_true, if_false, Bool.or_eq_true, decide_eq_true_eq]
    omega
  ·rw [if_neg]
   simp only [sg, if_true, Bool.or_eq_true, decide_eq_true_eq]
   omega
 ·have hd : A / PP ≤ 10000000000000000 := by
   have : A / PP < 10000000000000001 := by rw [Nat.div_lt_iff_lt_mul hP]; omega
   omega
  generalize A / PP = Q at *
  generalize A % PP = R at *
  generalize hQP : Q * PP = QP at *
  rw [if_pos, if_neg]
  ·have hok : jb7 .f64 .i64 f = true := by
    unfold jb7
    rw [hT]
    have e1 : IntKind.i64.min = -9223372036854775808 := rfl
    have e2 : IntKind.i64.max = 9223372036854775807 := rfl
    simp only [e1, e2, decide_eq_true_eq]
    cases s <;> simp only [sg, Bool.false_eq_true, if_false, if_true] <;> omega
   rw [if_pos hok]
   have habs : (sg s Q).natAbs = Q := by cases s <;> simp only [sg, Bool.false_eq_true, if_false, if_true] <;> omega
   obtain ⟨m', e', h3, h4, h5⟩ := jx9 (n := sg s Q) (by rw [habs]; omega) (by rw [habs]; exact hev)
   have hC : double.order (FloatKind.nearest .f64 (f2i .f64 f)) f = some (compare (sg s Q * (PP : Int)) (sg s A)) := by
    unfold Format.order
    rw [hq, h3, h, jck KK (by unfold KK; omega) (by unfold KK; omega), h4, hg, jg1, joH]
   rw [hC, jmG, ← jg1, hQP]
   congr 1
   rw [decide_eq_decide]
   cases s <;> simp only [sg, Bool.false_eq_true, if_false, if_true] <;> omega
  ·simp only [Bool.not_eq_true', Bool.or_eq_false_iff, decide_eq_false_iff_not]
   cases s <;> simp only [sg, Bool.false_eq_true, if_false, if_true] <;> omega
  ·simp only [Bool.or_eq_true, decide_eq_true_eq]
   cases s <;> simp only [sg, Bool.false_eq_true, if_false, if_true] <;> omega
end Go.Sh
end

section
namespace Go.Sh
open Go Go.Proofs Go.RowKit Go.Sx
open Go.IntKind (wrap)
def jhX : List SV := [.a [.d, .r (.floats .f32 []), .d, .d]]
def y59 (u4 : Int) (u0 : List Nat) (u6 : Int) (u5 : Int) : Option (Int × List Nat × Int × Int) :=
 Option.bind (y80 u4 u0) fun r0 =>
 some (r0.1, r0.2, u6, u5)
def jhY : List Lf → Option GT
 | [.d (.i .i64 u4), .r (.floats .f32 u0), .d (.i .i64 u6), .d (.i .i64 u5)] => some (.leaf (ok (y59 u4 u0 u6 u5)) [.s [.d (.i .i64 ((val (y59 u4 u0 u6 u5)).1)), .row 151 (.floats .f32 ((val (y59 u4 u0 u6 u5)).2.1)), .d (.i .i64 ((val (y59 u4 u0 u6 u5)).2.2.1)), .d (.i .i64 ((val (y59 u4 u0 u6 u5)).2.2.2))]])
 | _ => none
abbrev sp_20 : jab → jab := jav 20 true (jal jhX jhY)
def jtt (u4 : Int) (u0 : List Nat) (u6 : Int) (u5 : Int) : T (Int × List Nat × Int × Int) :=
 .call (y80 u4 u0) fun r0 =>
 .obT
 (.ret ((r0.1, r0.2, u6, u5)) (fun r => (Ob (r0.1 = r.1) ∧
 (Ob (r0.2 = r.2.1) ∧
 (Ob (u6 = r.2.2.1) ∧
 (Ob (u5 = r.2.2.2) ∧
 True))))) ⟨⟨rfl⟩, ⟨⟨rfl⟩, ⟨⟨rfl⟩, ⟨⟨rfl⟩, trivial⟩⟩⟩⟩)
theorem jr8 (u4 : Int) (u0 : List Nat) (u6 : Int) (u5 : Int) (r : Int × List Nat × Int × Int) (h : Option.bind (y59 u4 u0 u6 u5) some = some r) : ja0 Tryz.f20 ((sp_18 sp0)) (fun _ _ _ => none) (jaO jhX [.d (.i .i64 u4), .r (.floats .f32 u0), .d (.i .i64 u6), .d (.i .i64 u5)]) [.s [.d (.i .i64 r.1), .row 151 (.floats .f32 r.2.1), .d (.i .i64 r.2.2.1), .d (.i .i64 r.2.2.2)]] :=
 T.vc (t := jtt u4 u0 u6 u5) (by kernel_rfl) (by kernel_rfl) h
theorem jr9 : jag Tryz.prog 20 true (jal jhX jhY) := by
 refine jat (sp := (sp_18 sp0)) (fn := Tryz.f20) (body := jaj Tryz.f20) mixed (sp_18_ok jak) Tryz.func20 (by kernel_rfl) (by kernel_rfl) fun ls t h ho b hb => ?_
 unfold jhY at h
 split at h
 ·rename_i u4 u0 u6 u5
  cases h
  obtain rfl := jaB hb
  exact ⟨Nat.le_of_ble_eq_true (by kernel_rfl), _, _, jr8 u4 u0 u6 u5 _ (jai ho)⟩
 ·cases h
theorem sp_20_ok {sp : jab} (h : jac Tryz.prog sp) : jac Tryz.prog (sp_20 sp) := jah jr9 h
def jjr : List (Option Cont) := [none]
def jgD (n : Int) : Option Bool :=
 Option.bind (y53 n (8000 : Int) (192000 : Int)) fun r0 =>
 some r0
def jfN : List A → Option (Prop × List RV)
 | [.d (.i .i64 n)] => some (ok (jgD n), [.d (.b ((val (jgD n))))])
 | _ => none
abbrev sp_120 : jab → jab := jav 120 true (jar jjr jfN)
def jq7 (n : Int) : T (Bool) :=
 .call (y53 n (8000 : Int) (192000 : Int)) fun r0 =>
 .obT
 (.ret (r0) (fun r => (Ob (r0 = r) ∧
 True)) ⟨⟨rfl⟩, trivial⟩)
theorem jpk (n : Int) (r : Bool) (h : Option.bind (jgD n) some = some r) : jbb Tryz.f120 ((sp_35 sp0)) (fun _ _ _ => none) [.d (.i .i64 n)] [.d (.b r)] :=
 T.vc (t := jq7 n) (by kernel_rfl) (by kernel_rfl) h
theorem jpl : jag Tryz.prog 120 true (jar jjr jfN) := by
 refine jaz (sp := (sp_35 sp0)) (fn := Tryz.f120) (body := jaj Tryz.f120) mixed (sp_35_ok jak) Tryz.func120 (by kernel_rfl) (by kernel_rfl) fun as_ ob rs h ho => ?_
 unfold jfN at h
 split at h
 ·rename_i n
  cases h
  exact ⟨Nat.le_of_ble_eq_true rfl, _, _, jpk n _ (jai ho)⟩
 ·cases h
theorem sp_120_ok {sp : jab} (h : jac Tryz.prog sp) : jac Tryz.prog (sp_120 sp) := jah jpl h
def y136 : List SV := [.a [.d, .r (.floats .f32 [])]]
def y37 (u16 : List Nat) (x0 : Int) : Option (Int ⊕ ((Int × Int) ⊕ Unit)) :=
 if x0 < (↑(List.length u16) : Int) then
  if 0 ≤ x0 ∧ x0 < (↑(List.length u16) : Int) then
  if Int.toNat x0 < List.length u16 then
   if (jfi (List.getD u16 (Int.toNat x0) (0 : Nat))) = true then
   some (.inr ((.inl ((x0, 27)))))
   else
   Option.bind (jfJ (jch (List.getD u16 (Int.toNat x0) (0 : Nat)))) fun r1 =>
   if (!r1) = true then
    some (.inr ((.inl ((x0, 27)))))
   else
    if (Ieee.Format.order (FloatKind.format .f64) (jch (List.getD u16 (Int.toNat x0) (0 : Nat))) (4674736138332667904 : Nat) == some Ordering.gt) = true then
    some (.inr ((.inl ((x0, 2)))))
    else
    if (Ieee.Format.order (FloatKind.format .f64) (jch (List.getD u16 (Int.toNat x0) (0 : Nat))) (13898108175187443712 : Nat) == some Ordering.lt) = true then
     some (.inr ((.inl ((x0, 2)))))
    else
     some (.inl (wrap .i64 (x0 + 1)))
  else none
  else none
 else
  some (.inr ((.inr ())))
def jgE (u15 : Int × Int) : Option (Int × Int) :=
 some (u15.1, u15.2)
def jgF (u27 : Unit) : Option (Int × Int) :=
 some (((0 : Int), 0))
def y88 : ((Int × Int) ⊕ Unit) → Option (Int × Int) :=
 (Sum.elim (jgE) (jgF))
def y55 (u17 : Int) (u16 : List Nat) : Option (Int × Int) :=
 Option.bind (jgD u17) fun r0 =>
 if (!r0) = true then
  some (((0 : Int), 2))
 else
  if ((↑(List.length u16) : Int) == 0) = true then
  some (((0 : Int), 10))
  else
  if (↑(List.length u16) : Int) > 1024 then
   some (((0 : Int), 8))
  else
   Option.bind (jae (y37 u16) big (0 : Int)) (y88)
def y137 : List Lf → Option GT
 | [.d (.i .i64 u17), .r (.floats .f32 u16)] => some (.leaf (ok (y55 u17 u16)) [.c (.d (.i .i64 ((val (y55 u17 u16)).1))), .c (.d (.i .i64 ((val (y55 u17 u16)).2)))])
 | _ => none
abbrev sp_70 : jab → jab := jav 70 true (jal y136 y137)
theorem jhZ (u17 : Int) (u16 : List Nat) (r : Int × Int) (h : Option.bind (y55 u17 u16) some = some r) : ja0 Tryz.f70 ((sp_120 (sp_121 sp0))) (fun gs id _ => match id with
 | 0 => some ⟨Int × Nat, fun z => ⟨[(1, .w (.c (.p 1 0 1 0))), (4, .w (.c (.d (.i .i64 (Prod.fst z)))))], [(1, .box 24 [.d (.i .i64 u17), .o 0]), (0, .ext (.floats .f32 u16))], 2⟩, fun z => Option.bind (jae (y37 u16) (Prod.snd z) (Prod.fst z)) (fun y0 => Option.bind (y88 y0) some) = some r, fun z => Prod.snd z⟩
 | _ => none) (jaO y136 [.d (.i .i64 u17), .r (.floats .f32 u16)]) [.c (.d (.i .i64 r.1)), .c (.d (.i .i64 r.2))] := by
 refine Eq.mp (by kernel_rfl : (
 (Ob (ok (jgD u17)) ∧
 Br (!val (jgD u17))
  ((Ob True ∧
 (Ob True ∧
 (Ob ((0 : Int) = r.1) ∧
 (Ob ((2 : Int) = r.2) ∧
 True)))))
 (Br ((↑(List.length u16) : Int) == 0)
  ((Ob True ∧
 (Ob True ∧
 (Ob ((0 : Int) = r.1) ∧
 (Ob ((10 : Int) = r.2) ∧
 True)))))
 (Br (decide ((↑(List.length u16) : Int) > 1024))
  ((Ob True ∧
 (Ob True ∧
 (Ob ((0 : Int) = r.1) ∧
 (Ob ((8 : Int) = r.2) ∧
 True)))))
  (((∃ (v0 : Int × Nat), (Ob ((Option.bind (jae (y37 u16) v0.2 v0.1) fun y0 => Option.bind (y88 y0) some) = some r) ∧
 (Ob (0 = 0) ∧
 (Ob ((0 : Int) = v0.1) ∧
 (Ob (u17 = u17) ∧
 (Ob (u16 = u16) ∧
 True)))))) ∧
  (∀ (v0 : Int × Nat), ((Option.bind (jae (y37 u16) v0.2 v0.1) fun y0 => Option.bind (y88 y0) some) = some r →
 Br (decide (v0.1 < (↑(List.length u16) : Int)))
  ((Ob (0 ≤ v0.1 ∧ v0.1 < (↑(List.length u16) : Int)) ∧
 (Ob (Int.toNat v0.1 < List.length u16) ∧
 Br (jfi (List.getD u16 (Int.toNat v0.1) (0 : Nat)))
  ((Ob True ∧
 (Ob (ok jqY) ∧
 (Ob True ∧
 (Ob True ∧
 (Ob (v0.1 = r.1) ∧
 (Ob ((27 : Int) = r.2) ∧
 True)))))))
  ((Ob True ∧
 (Ob (ok (jfJ (jch (List.getD u16 (Int.toNat v0.1) (0 : Nat))))) ∧
 Br (!val (jfJ (jch (List.getD u16 (Int.toNat v0.1) (0 : Nat)))))
  ((Ob True ∧
 (Ob True ∧
 (Ob (v0.1 = r.1) ∧
 (Ob ((27 : Int) = r.2) ∧
 True)))))
 (Br (Ieee.Format.order (FloatKind.format .f64) (jch (List.getD u16 (Int.toNat v0.1) (0 : Nat))) (4674736138332667904 : Nat) == some Ordering.gt)
  ((Ob True ∧
 (Ob True ∧
 (Ob (v0.1 = r.1) ∧
 (Ob ((2 : Int) = r.2) ∧
 True)))))
 (Br (Ieee.Format.order (FloatKind.format .f64) (jch (List.getD u16 (Int.toNat v0.1) (0 : Nat))) (13898108175187443712 : Nat) == some Ordering.lt)
  ((Ob True ∧
 (Ob True ∧
 (Ob (v0.1 = r.1) ∧
 (Ob ((2 : Int) = r.2) ∧
 True)))))
  ((∃ (v1 : Int × Nat), (Ob ((Option.bind (jae (y37 u16) v1.2 v1.1) fun y0 => Option.bind (y88 y0) some) = some r) ∧
 (Ob (v1.2 < v0.2) ∧
 (Ob (0 = 0) ∧
 (Ob (wrap .i64 (v0.1 + 1) = v1.1) ∧
 (Ob (u17 = u17) ∧
 (Ob (u16 = u16) ∧
 True))))))))))))))))
  ((Ob True ∧
 (Ob True ∧
 (Ob ((0 : Int) = r.1) ∧
 (Ob ((0 : Int) = r.2) ∧
 True))))))))))))) = _) ?_
 refine jau h fun h => ?_
 refine jaW h (fun h => ?_) (fun h => ?_)
 ·refine jad ?_
  refine jad ?_
  exact rcs h
 ·refine jaW h (fun h => ?_) (fun h => ?_)
  ·refine jad ?_
   refine jad ?_
   exact rcs h
  ·refine jaN h (fun h => ?_) (fun h => ?_)
   ·refine jad ?_
    refine jad ?_
    exact rcs h
   ·refine ⟨⟨((0 : Int), big), ⟨jbd h⟩, (by repeat' constructor)⟩, fun z2 hz2 => ?_⟩
    obtain ⟨k2, hm2, h⟩ := jaT hz2
    refine jaN h (fun h => ?_) (fun h => ?_)
    ·refine jao h fun h => ?_
     refine jao h fun h => ?_
     refine jaW h (fun h => ?_) (fun h => ?_)
     ·refine jad ?_
      refine jfA (p := ok jqY) (by decide) ?_
      have h := jaA h
      refine jad ?_
      refine jad ?_
      exact rcs h
     ·refine jad ?_
      refine jau h fun h => ?_
      refine jaW h (fun h => ?_) (fun h => ?_)
      ·have h := jaA h
       refine jad ?_
       refine jad ?_
       exact rcs h
      ·refine jaW h (fun h => ?_) (fun h => ?_)
       ·have h := jaA h
        refine jad ?_
        refine jad ?_
        exact rcs h
       ·refine jaW h (fun h => ?_) (fun h => ?_)
        ·have h := jaA h
         refine jad ?_
         refine jad ?_
         exact rcs h
        ·exact ⟨(_, k2), ⟨jaL h⟩, ⟨jaZ hm2.symm⟩, (by repeat' constructor)⟩
    ·have h := jaA h
     refine jad ?_
     refine jad ?_
     exact rcs h
theorem jh0 : jag Tryz.prog 70 true (jal y136 y137) := by
 refine jat (sp := (sp_120 (sp_121 sp0))) (fn := Tryz.f70) (body := jaj Tryz.f70) mixed (sp_120_ok (sp_121_ok jak)) Tryz.func70 (by kernel_rfl) (by kernel_rfl) fun ls t h ho b hb => ?_
 unfold y137 at h
 split at h
 ·rename_i u17 u16
  cases h
  obtain rfl := jaB hb
  exact ⟨Nat.le_of_ble_eq_true (by kernel_rfl), _, _, jhZ u17 u16 _ (jai ho)⟩
 ·cases h
theorem sp_70_ok {sp : jab} (h : jac Tryz.prog sp) : jac Tryz.prog (sp_70 sp) := jah jh0 h
def jd9 : List SV := [.a [.d, .r (.floats .f32 []), .d, .d]]
def jjs (u4 : Int) (u0 : List Nat) (u6 : Int) (u5 : Int) : Option (Int × Int) :=
 Option.bind (y55 u4 u0) fun r0 =>
 if (r0.2 != 0) = true then
  some (r0.1, r0.2)
 else
  Option.bind (y53 u6 (0 : Int) (32767 : Int)) fun r1 =>
  if (!r1) = true then
  some (((0 : Int), 2))
  else
  Option.bind (y53 u5 (0 : Int) (1000000000000 : Int)) fun r2 =>
  if (!r2) = true then
   some (((0 : Int), 2))
  else
   some (((0 : Int), 0))
def jea : List Lf → Option GT
 | [.d (.i .i64 u4), .r (.floats .f32 u0), .d (.i .i64 u6), .d (.i .i64 u5)] => some (.leaf (ok (jjs u4 u0 u6 u5)) [.c (.d (.i .i64 ((val (jjs u4 u0 u6 u5)).1))), .c (.d (.i .i64 ((val (jjs u4 u0 u6 u5)).2)))])
 | _ => none
abbrev sp_71 : jab → jab := jav 71 true (jal jd9 jea)
def jnT (u4 : Int) (u0 : List Nat) (u6 : Int) (u5 : Int) : T (Int × Int) :=
 .call (y55 u4 u0) fun r0 =>
 .brB (r0.2 != 0)
 (.obT
 (.obT
 (.ret ((r0.1, r0.2)) (fun r => (Ob (r0.1 = r.1) ∧
 (Ob (r0.2 = r.2) ∧
 True))) ⟨⟨rfl⟩, ⟨⟨rfl⟩, trivial⟩⟩)))
 (.call (y53 u6 (0 : Int) (32767 : Int)) fun r1 =>
 .brB (!r1)
 (.obT
 (.obT
 (.ret ((((0 : Int), 2))) (fun r => (Ob ((0 : Int) = r.1) ∧
 (Ob ((2 : Int) = r.2) ∧
 True))) ⟨⟨rfl⟩, ⟨⟨rfl⟩, trivial⟩⟩)))
 (.call (y53 u5 (0 : Int) (1000000000000 : Int)) fun r2 =>
 .brB (!r2)
 (.obT
 (.obT
 (.ret ((((0 : Int), 2))) (fun r => (Ob ((0 : Int) = r.1) ∧
 (Ob ((2 : Int) = r.2) ∧
 True))) ⟨⟨rfl⟩, ⟨⟨rfl⟩, trivial⟩⟩)))
 (.obT
 (.obT
 (.ret ((((0 : Int), 0))) (fun r => (Ob ((0 : Int) = r.1) ∧
 (Ob ((0 : Int) = r.2) ∧
 True))) ⟨⟨rfl⟩, ⟨⟨rfl⟩, trivial⟩⟩)))))
theorem jmJ (u4 : Int) (u0 : List Nat) (u6 : Int) (u5 : Int) (r : Int × Int) (h : Option.bind (jjs u4 u0 u6 u5) some = some r) : ja0 Tryz.f71 ((sp_70 (sp_35 sp0))) (fun _ _ _ => none) (jaO jd9 [.d (.i .i64 u4), .r (.floats .f32 u0), .d (.i .i64 u6), .d (.i .i64 u5)]) [.c (.d (.i .i64 r.1)), .c (.d (.i .i64 r.2))] :=
 T.vc (t := jnT u4 u0 u6 u5) (by kernel_rfl) (by kernel_rfl) h
theorem jmK : jag Tryz.prog 71 true (jal jd9 jea) := by
 refine jat (sp := (sp_70 (sp_35 sp0))) (fn := Tryz.f71) (body := jaj Tryz.f71) mixed (sp_70_ok (sp_35_ok jak)) Tryz.func71 (by kernel_rfl) (by kernel_rfl) fun ls t h ho b hb => ?_
 unfold jea at h
 split at h
 ·rename_i u4 u0 u6 u5
  cases h
  obtain rfl := jaB hb
  exact ⟨Nat.le_of_ble_eq_true (by kernel_rfl), _, _, jmJ u4 u0 u6 u5 _ (jai ho)⟩
 ·cases h
theorem sp_71_ok {sp : jab} (h : jac Tryz.prog sp) : jac Tryz.prog (sp_71 sp) := jah jmK h
def jfO : List SV := [.a [.d, .r (.floats .f32 []), .d, .d]]
def jh1 (u4 : Int) (u0 : List Nat) (u6 : Int) (u5 : Int) : Option Int :=
 Option.bind (jjs u4 u0 u6 u5) fun r0 =>
 some r0.2
def jfP : List Lf → Option GT
 | [.d (.i .i64 u4), .r (.floats .f32 u0), .d (.i .i64 u6), .d (.i .i64 u5)] => some (.leaf (ok (jh1 u4 u0 u6 u5)) [.c (.d (.i .i64 ((val (jh1 u4 u0 u6 u5)))))])
 | _ => none
abbrev sp_22 : jab → jab := jav 22 true (jal jfO jfP)
def jq8 (u4 : Int) (u0 : List Nat) (u6 : Int) (u5 : Int) : T (Int) :=
 .call (jjs u4 u0 u6 u5) fun r0 =>
 .obT
 (.ret (r0.2) (fun r => (Ob (r0.2 = r) ∧
 True)) ⟨⟨rfl⟩, trivial⟩)
theorem jpm (u4 : Int) (u0 : List Nat) (u6 : Int) (u5 : Int) (r : Int) (h : Option.bind (jh1 u4 u0 u6 u5) some = some r) : ja0 Tryz.f22 ((sp_71 sp0)) (fun _ _ _ => none) (jaO jfO [.d (.i .i64 u4), .r (.floats .f32 u0), .d (.i .i64 u6), .d (.i .i64 u5)]) [.c (.d (.i .i64 r))] :=
 T.vc (t := jq8 u4 u0 u6 u5) (by kernel_rfl) (by kernel_rfl) h
theorem jpn : jag Tryz.prog 22 true (jal jfO jfP) := by
 refine jat (sp := (sp_71 sp0)) (fn := Tryz.f22) (body := jaj Tryz.f22) mixed (sp_71_ok jak) Tryz.func22 (by kernel_rfl) (by kernel_rfl) fun ls t h ho b hb => ?_
 unfold jfP at h
 split at h
 ·rename_i u4 u0 u6 u5
  cases h
  obtain rfl := jaB hb
  exact ⟨Nat.le_of_ble_eq_true (by kernel_rfl), _, _, jpm u4 u0 u6 u5 _ (jai ho)⟩
 ·cases h
theorem sp_22_ok {sp : jab} (h : jac Tryz.prog sp) : jac Tryz.prog (sp_22 sp) := jah jpn h
def jfQ : List SV := [.a [.d, .r (.floats .f32 []), .d, .d], .c (.d)]
def y60 (u4 : Int) (u0 : List Nat) (u6 : Int) (u5 : Int) (t : Int) : Option (Int × Int) :=
 if 0 ≤ t ∧ t < (↑(List.length u0) : Int) then
  if Int.toNat t < List.length u0 then
  if jb7 .f32 .i64 (List.getD u0 (Int.toNat t) (0 : Nat)) = true then
   Option.bind (jfI (f2i .f32 (List.getD u0 (Int.toNat t) (0 : Nat)))) fun r0 =>
   some ((wrap .i64 ((if wrap .i64 (r0 - u6) > 0 then wrap .i64 (r0 - u6) else 0) * if wrap .i64 (r0 - u6) > 0 then wrap .i64 (r0 - u6) else 0), wrap .i64 (wrap .i64 (r0 + u6) * wrap .i64 (r0 + u6))))
  else none
  else none
 else none
def jfR : List Lf → Option GT
 | [.d (.i .i64 u4), .r (.floats .f32 u0), .d (.i .i64 u6), .d (.i .i64 u5), .d (.i .i64 t)] => some (.leaf (ok (y60 u4 u0 u6 u5 t)) [.s [.d (.i .i64 ((val (y60 u4 u0 u6 u5 t)).1)), .d (.i .i64 ((val (y60 u4 u0 u6 u5 t)).2))]])
 | _ => none
abbrev sp_83 : jab → jab := jav 83 true (jal jfQ jfR)
def jq9 (u4 : Int) (u0 : List Nat) (u6 : Int) (u5 : Int) (t : Int) : T (Int × Int) :=
 .obP (0 ≤ t ∧ t < (↑(List.length u0) : Int))
 (.obP (Int.toNat t < List.length u0)
 (.obP (jb7 .f32 .i64 (List.getD u0 (Int.toNat t) (0 : Nat)) = true)
 (.call (jfI (f2i .f32 (List.getD u0 (Int.toNat t) (0 : Nat)))) fun r0 =>
 .obT
 (.ret (((wrap .i64 ((if wrap .i64 (r0 - u6) > 0 then wrap .i64 (r0 - u6) else (0 : Int)) * if wrap .i64 (r0 - u6) > 0 then wrap .i64 (r0 - u6) else (0 : Int)), wrap .i64 (wrap .i64 (r0 + u6) * wrap .i64 (r0 + u6))))) (fun r => (Ob (wrap .i64 ((if wrap .i64 (r0 - u6) > 0 then wrap .i64 (r0 - u6) else (0 : Int)) * if wrap .i64 (r0 - u6) > 0 then wrap .i64 (r0 - u6) else (0 : Int)) = r.1) ∧
 (Ob (wrap .i64 (wrap .i64 (r0 + u6) * wrap .i64 (r0 + u6)) = r.2) ∧
 True))) ⟨⟨rfl⟩, ⟨⟨rfl⟩, trivial⟩⟩))))
theorem jpo (u4 : Int) (u0 : List Nat) (u6 : Int) (u5 : Int) (t : Int) (r : Int × Int) (h : Option.bind (y60 u4 u0 u6 u5 t) some = some r) : ja0 Tryz.f83 ((sp_128 sp0)) (fun _ _ _ => none) (jaO jfQ [.d (.i .i64 u4), .r (.floats .f32 u0), .d (.i .i64 u6), .d (.i .i64 u5), .d (.i .i64 t)]) [.s [.d (.i .i64 r.1), .d (.i .i64 r.2)]] :=
 T.vc (t := jq9 u4 u0 u6 u5 t) (by kernel_rfl) (by kernel_rfl) h
theorem jpp : jag Tryz.prog 83 true (jal jfQ jfR) := by
 refine jat (sp := (sp_128 sp0)) (fn := Tryz.f83) (body := jaj Tryz.f83) mixed (sp_128_ok jak) Tryz.func83 (by kernel_rfl) (by kernel_rfl) fun ls t h ho b hb => ?_
 unfold jfR at h
 split at h
 ·rename_i u4 u0 u6 u5 t
  cases h
  obtain rfl := jaB hb
  exact ⟨Nat.le_of_ble_eq_true (by kernel_rfl), _, _, jpo u4 u0 u6 u5 t _ (jai ho)⟩
 ·cases h
theorem sp_83_ok {sp : jab} (h : jac Tryz.prog sp) : jac Tryz.prog (sp_83 sp) := jah jpp h
def y146 : List SV := [.a [.d, .r (.floats .f32 []), .d, .d], .a [.d, .d]]
def y39 (u4 : Int) (u0 : List Nat) (u6 : Int) (u5 : Int) (wTo : Int) (x0 : (Int × Int × Int)) : Option ((Int × Int × Int) ⊕ (Int × Int)) :=
 if x0.1 < wTo then
  Option.bind (y60 u4 u0 u6 u5 x0.1) fun r0 =>
  some (.inl ((wrap .i64 (x0.1 + 1), wrap .i64 (x0.2.1 + r0.1), wrap .i64 (x0.2.2 + r0.2))))
 else
  some (.inr (x0.2.1, x0.2.2))
def y73 (u0 : List Nat) (u5 : Int) (wTo : Int) (u15 : Int × Int) : Option (Int × Int) :=
 if (wTo == (↑(List.length u0) : Int)) = true then
  some ((u15.1, wrap .i64 (u15.2 + u5)))
 else
  some (u15.1, u15.2)
def y23 (u4 : Int) (u0 : List Nat) (u6 : Int) (u5 : Int) (u43 : Int) (wTo : Int) : Option (Int × Int) :=
 Option.bind (jae (y39 u4 u0 u6 u5 wTo) big ((u43, 0, 0))) (y73 u0 u5 wTo)
def y147 : List Lf → Option GT
 | [.d (.i .i64 u4), .r (.floats .f32 u0), .d (.i .i64 u6), .d (.i .i64 u5), .d (.i .i64 u43), .d (.i .i64 wTo)] => some (.leaf (ok (y23 u4 u0 u6 u5 u43 wTo)) [.s [.d (.i .i64 ((val (y23 u4 u0 u6 u5 u43 wTo)).1)), .d (.i .i64 ((val (y23 u4 u0 u6 u5 u43 wTo)).2))]])
 | _ => none
abbrev sp_52 : jab → jab := jav 52 true (jal y146 y147)
theorem jiA (u4 : Int) (u0 : List Nat) (u6 : Int) (u5 : Int) (u43 : Int) (wTo : Int) (r : Int × Int) (h : Option.bind (y23 u4 u0 u6 u5 u43 wTo) some = some r) : ja0 Tryz.f52 ((sp_83 sp0)) (fun gs id _ => match id with
 | 0 => some ⟨(Int × Int × Int) × Nat, fun z => ⟨[(2, .w (.c (.p 1 0 1 0))), (3, .w (.c (.p 2 0 1 0))), (4, .w (.c (.p 3 0 1 0))), (5, .w (.c (.p 4 0 1 0))), (6, .w (.c (.d (.i .i64 (Prod.fst (Prod.fst z))))))], [(1, .box 26 [.d (.i .i64 u4), .o 0, .d (.i .i64 u6), .d (.i .i64 u5)]), (2, .box 73 [.d (.i .i64 u43), .d (.i .i64 wTo)]), (3, .box 30 [.d (.i .i64 0), .d (.i .i64 0)]), (4, .box 30 [.d (.i .i64 (Prod.fst (Prod.snd (Prod.fst z)))), .d (.i .i64 (Prod.snd (Prod.snd (Prod.fst z))))]), (0, .ext (.floats .f32 u0))], 5⟩, fun z => Option.bind (jae (y39 u4 u0 u6 u5 wTo) (Prod.snd z) (Prod.fst z)) (fun y0 => Option.bind (y73 u0 u5 wTo y0) some) = some r, fun z => Prod.snd z⟩
 | _ => none) (jaO y146 [.d (.i .i64 u4), .r (.floats .f32 u0), .d (.i .i64 u6), .d (.i .i64 u5), .d (.i .i64 u43), .d (.i .i64 wTo)]) [.s [.d (.i .i64 r.1), .d (.i .i64 r.2)]] := by
 refine Eq.mp (by kernel_rfl : (
 ((∃ (v0 : (Int × Int × Int) × Nat), (Ob ((Option.bind (jae (y39 u4 u0 u6 u5 wTo) v0.2 v0.1) fun y0 => Option.bind (y73 u0 u5 wTo y0) some) = some r) ∧
 (Ob (0 = 0) ∧
 (Ob (0 = 0) ∧
 (Ob (0 = 0) ∧
 (Ob (0 = 0) ∧
 (Ob (u43 = v0.1.1) ∧
 (Ob (u4 = u4) ∧
 (Ob (u6 = u6) ∧
 (Ob (u5 = u5) ∧
 (Ob (u43 = u43) ∧
 (Ob (wTo = wTo) ∧
 (Ob ((0 : Int) = (0 : Int)) ∧
 (Ob ((0 : Int) = (0 : Int)) ∧
 (Ob ((0 : Int) = v0.1.2.1) ∧
 (Ob ((0 : Int) = v0.1.2.2) ∧
 (Ob (u0 = u0) ∧
 True))))))))))))))))) ∧
  (∀ (v0 : (Int × Int × Int) × Nat), ((Option.bind (jae (y39 u4 u0 u6 u5 wTo) v0.2 v0.1) fun y0 => Option.bind (y73 u0 u5 wTo y0) some) = some r →
 Br (decide (v0.1.1 < wTo))
  ((Ob (ok (y60 u4 u0 u6 u5 v0.1.1)) ∧
  (∃ (v1 : (Int × Int × Int) × Nat), (Ob ((Option.bind (jae (y39 u4 u0 u6 u5 wTo) v1.2 v1.1) fun y0 => Option.bind (y73 u0 u5 wTo y0) some) = some r) ∧
 (Ob (v1.2 < v0.2) ∧
 (Ob (0 = 0) ∧
 (Ob (0 = 0) ∧
 (Ob (0 = 0) ∧
 (Ob (0 = 0) ∧
 (Ob (wrap .i64 (v0.1.1 + 1) = v1.1.1) ∧
 (Ob (u4 = u4) ∧
 (Ob (u6 = u6) ∧
 (Ob (u5 = u5) ∧
 (Ob (u43 = u43) ∧
 (Ob (wTo = wTo) ∧
 (Ob ((0 : Int) = (0 : Int)) ∧
 (Ob ((0 : Int) = (0 : Int)) ∧
 (Ob (wrap .i64 (v0.1.2.1 + (val (y60 u4 u0 u6 u5 v0.1.1)).1) = v1.1.2.1) ∧
 (Ob (wrap .i64 (v0.1.2.2 + (val (y60 u4 u0 u6 u5 v0.1.1)).2) = v1.1.2.2) ∧
 (Ob (u0 = u0) ∧
 True))))))))))))))))))))
 (Br (wTo == (↑(List.length u0) : Int))
  ((Ob True ∧
 (Ob (v0.1.2.1 = r.1) ∧
 (Ob (wrap .i64 (v0.1.2.2 + u5) = r.2) ∧
 True))))
  ((Ob True ∧
 (Ob (v0.1.2.1 = r.1) ∧
 (Ob (v0.1.2.2 = r.2) ∧
 True))))))))) = _) ?_
 refine ⟨⟨((u43, 0, 0), big), ⟨jbd h⟩, (by repeat' constructor)⟩, fun z1 hz1 => ?_⟩
 obtain ⟨k1, hm1, h⟩ := jaT hz1
 refine jaN h (fun h => ?_) (fun h => ?_)
 ·refine jau h fun h => ?_
  exact ⟨(_, k1), ⟨jaL h⟩, ⟨jaZ hm1.symm⟩, (by repeat' constructor)⟩
 ·have h := jaA h
  refine jaW h (fun h => ?_) (fun h => ?_)
  ·refine jad ?_
   exact rcs h
  ·refine jad ?_
   exact rcs h
theorem jiB : jag Tryz.prog 52 true (jal y146 y147) := by
 refine jat (sp := (sp_83 sp0)) (fn := Tryz.f52) (body := jaj Tryz.f52) mixed (sp_83_ok jak) Tryz.func52 (by kernel_rfl) (by kernel_rfl) fun ls t h ho b hb => ?_
 unfold y147 at h
 split at h
 ·rename_i u4 u0 u6 u5 u43 wTo
  cases h
  obtain rfl := jaB hb
  exact ⟨Nat.le_of_ble_eq_true (by kernel_rfl), _, _, jiA u4 u0 u6 u5 u43 wTo _ (jai ho)⟩
 ·cases h
theorem sp_52_ok {sp : jab} (h : jac Tryz.prog sp) : jac Tryz.prog (sp_52 sp) := jah jiB h
def jjt : List SV := [.a [.d, .r (.floats .f32 []), .d, .d], .c (.d)]
def y36 (u4 : Int) (u0 : List Nat) (u6 : Int) (u5 : Int) (t : Int) : Option (Int × Int) :=
 Option.bind (y23 u4 u0 u6 u5 t (↑(List.length u0) : Int)) fun r0 =>
 some (r0.1, r0.2)
def jju : List Lf → Option GT
 | [.d (.i .i64 u4), .r (.floats .f32 u0), .d (.i .i64 u6), .d (.i .i64 u5), .d (.i .i64 t)] => some (.leaf (ok (y36 u4 u0 u6 u5 t)) [.s [.d (.i .i64 ((val (y36 u4 u0 u6 u5 t)).1)), .d (.i .i64 ((val (y36 u4 u0 u6 u5 t)).2))]])
 | _ => none
abbrev sp_72 : jab → jab := jav 72 true (jal jjt jju)
def juJ (u4 : Int) (u0 : List Nat) (u6 : Int) (u5 : Int) (t : Int) : T (Int × Int) :=
 .call (y23 u4 u0 u6 u5 t (↑(List.length u0) : Int)) fun r0 =>
 .obT
 (.ret ((r0.1, r0.2)) (fun r => (Ob (r0.1 = r.1) ∧
 (Ob (r0.2 = r.2) ∧
 True))) ⟨⟨rfl⟩, ⟨⟨rfl⟩, trivial⟩⟩)
theorem jtu (u4 : Int) (u0 : List Nat) (u6 : Int) (u5 : Int) (t : Int) (r : Int × Int) (h : Option.bind (y36 u4 u0 u6 u5 t) some = some r) : ja0 Tryz.f72 ((sp_52 sp0)) (fun _ _ _ => none) (jaO jjt [.d (.i .i64 u4), .r (.floats .f32 u0), .d (.i .i64 u6), .d (.i .i64 u5), .d (.i .i64 t)]) [.s [.d (.i .i64 r.1), .d (.i .i64 r.2)]] :=
 T.vc (t := juJ u4 u0 u6 u5 t) (by kernel_rfl) (by kernel_rfl) h
theorem jtv : jag Tryz.prog 72 true (jal jjt jju) := by
 refine jat (sp := (sp_52 sp0)) (fn := Tryz.f72) (body := jaj Tryz.f72) mixed (sp_52_ok jak) Tryz.func72 (by kernel_rfl) (by kernel_rfl) fun ls t h ho b hb => ?_
 unfold jju at h
 split at h
 ·rename_i u4 u0 u6 u5 t
  cases h
  obtain rfl := jaB hb
  exact ⟨Nat.le_of_ble_eq_true (by kernel_rfl), _, _, jtu u4 u0 u6 u5 t _ (jai ho)⟩
 ·cases h
theorem sp_72_ok {sp : jab} (h : jac Tryz.prog sp) : jac Tryz.prog (sp_72 sp) := jah jtv h
end Go.Sh
end

section
namespace Go.Sh
open Go Go.Proofs Go.RowKit Go.Sx Go.Sx06 Ieee Go.Fl
theorem jv4 {b : Nat} {s : Bool} {m : Nat} {e : Int} (h : double.read b = .number s m e) (he1 : -1074 ≤ e) : double.order b 13898108175187443712 = some (compare (sg s (mg KK m e)) (-((32767 * PP : Nat) : Int))) := by
 unfold Format.order
 have hc : double.read 13898108175187443712 = .number true 9006924376834048 (-38) := by decide
 rw [h, hc, jck KK (by unfold KK; omega) (by unfold KK; omega)]
 have : mg KK 9006924376834048 (-38) = 32767 * PP := by
  rw [jmI]
  unfold mg
  rw [show KK = (-38 + (KK : Int)).toNat + 38 by unfold KK; omega, Nat.pow_add]
  rw [show ((-38 : Int) + (((-38 + (KK : Int)).toNat + 38 : Nat) : Int)).toNat = (-38 + (KK : Int)).toNat by unfold KK; omega]
  generalize 2 ^ (-38 + (KK : Int)).toNat = q
  omega
 rw [this, jfM]
theorem jv5 {b : Nat} {s : Bool} {m : Nat} {e : Int} (h : double.read b = .number s m e) (he1 : -1074 ≤ e) : double.order b 4674736138332667904 = some (compare (sg s (mg KK m e)) (((32767 * PP : Nat) : Int))) := by
 unfold Format.order
 have hc : double.read 4674736138332667904 = .number false 9006924376834048 (-38) := by decide
 rw [h, hc, jck KK (by unfold KK; omega) (by unfold KK; omega)]
 have : mg KK 9006924376834048 (-38) = 32767 * PP := by
  rw [jmI]
  unfold mg
  rw [show KK = (-38 + (KK : Int)).toNat + 38 by unfold KK; omega, Nat.pow_add]
  rw [show ((-38 : Int) + (((-38 + (KK : Int)).toNat + 38 : Nat) : Int)).toNat = (-38 + (KK : Int)).toNat by unfold KK; omega]
  generalize 2 ^ (-38 + (KK : Int)).toNat = q
  omega
 rw [this, jhW]
theorem jxE {α : Type} (b : Nat) (bad : Int → Option α) (good : Option α) :
  (if jfi b = true then bad 27 else Option.bind (jfJ (jch b)) fun r0 => if (!r0) = true then bad 27 else
   if (Format.order (FloatKind.format .f64) (jch b) 4674736138332667904 == some Ordering.gt) = true then bad 2 else
   if (Format.order (FloatKind.format .f64) (jch b) 13898108175187443712 == some Ordering.lt) = true then bad 2 else good) = if se b ≠ 0 then bad (se b) else good := by
 simp only [show FloatKind.format .f64 = double from rfl]
 have hdec : FloatKind.decode .f32 b = single.read b := rfl
 unfold jfi se
 rw [hdec]
 rcases read32 b with ⟨s, m, e, h, hm, he1, he2⟩ | ⟨s, h⟩ | ⟨s, t, h⟩
 ·obtain ⟨m', e', h1, h2, h3, h4⟩ := dbl h hm he1 he2
  have hw : 16777216 * PP ≤ mg KK m e → mg KK m e / PP * PP = mg KK m e := by
   intro hge
   by_cases hp : 0 ≤ e
   ·obtain ⟨d, rfl⟩ : ∃ d : Nat, e = d := ⟨e.toNat, by omega⟩
    rw [jmH, Nat.mul_div_cancel _ jg5]
   ·exfalso
    have : mg KK m e < 16777216 * PP := by
     rw [jmI]
     unfold mg
     have h2 : 2 ^ (e + KK).toNat ≤ 2 ^ KK := Nat.pow_le_pow_right (by omega) (by omega)
     calc m * 2 ^ (e + KK).toNat ≤ m * 2 ^ KK := Nat.mul_le_mul_left _ h2
      _ < 16777216 * 2 ^ KK := Nat.mul_lt_mul_of_pos_right hm (Nat.two_pow_pos _)
    omega
  have hW := jts h1 h3 h4
  have hlo := jv4 h1 h3
  have hhi := jv5 h1 h3
  rw [h2] at hlo hhi
  have hse : seD (.number s m e) = if 16777216 * PP ≤ mg KK m e then 2 else if mg KK m e / PP * PP ≠ mg KK m e then 27 else if mg KK m e / PP ≤ 32767 then 0 else 2 := rfl
  rw [h2] at hW
  have hnn : (Datum.number s m e).isNaN = false := rfl
  rw [h, hse, hnn, hW, jaa, hlo, hhi, jq4, jq5]
  clear h h1 h2 h3 h4 hW hlo hhi hse hnn
  rw [if_neg Bool.false_ne_true]
  obtain ⟨A, hA⟩ : ∃ A, A = mg KK m e := ⟨_, rfl⟩
  rw [← hA] at hw ⊢
  clear hA
  have hP := jg5
  have hdm := Nat.div_add_mod A PP
  rw [Nat.mul_comm] at hdm
  have hml := Nat.mod_lt A hP
  have hq1 : A / PP ≤ 32767 ↔ A < 32768 * PP := by
   rw [← Nat.div_lt_iff_lt_mul hP]
   omega
  have hq2 : A / PP * PP = A → (A / PP ≤ 32767 ↔ A ≤ 32767 * PP) := by
   intro hh
   constructor
   ·intro h; rw [← hh]; exact Nat.mul_le_mul_right _ h
   ·intro h; rw [← hh] at h; exact Nat.le_of_mul_le_mul_right h hP
  generalize A / PP = Q at *
  generalize A % PP = R at *
  generalize hQP : Q * PP = QP at *
  by_cases hbig : 16777216 * PP ≤ A
  ·have hww := hw hbig
   rw [if_pos hbig, decide_eq_true (show _ ∨ _ from .inr hww)]
   simp only [Bool.not_true, Bool.false_eq_true, if_false, decide_eq_true_eq]
   rw [if_pos (show (2 : Int) ≠ 0 by omega)]
   cases s
   ·rw [if_pos (by rw [jhW]; omega)]
   ·rw [if_neg (by rw [jfM]; omega), if_pos (by rw [jfM]; omega)]
  ·rw [if_neg hbig]
   by_cases hwh : QP = A
   ·rw [decide_eq_true (show _ ∨ _ from .inr hwh), if_neg (show ¬ QP ≠ A by omega)]
    simp only [Bool.not_true, Bool.false_eq_true, if_false, decide_eq_true_eq]
    have hq := hq2 hwh
    by_cases hs : Q ≤ 32767
    ·have := hq.1 hs
     rw [if_pos hs, if_neg (show ¬ (0 : Int) ≠ 0 by omega)]
     cases s
     ·rw [if_neg (by rw [jhW]; omega), if_neg (by rw [jhW]; omega)]
     ·rw [if_neg (by rw [jfM]; omega), if_neg (by rw [jfM]; omega)]
    ·have : ¬ A ≤ 32767 * PP := fun h => hs (hq.2 h)
     rw [if_neg hs, if_pos (show (2 : Int) ≠ 0 by omega)]
     cases s
     ·rw [if_pos (by rw [jhW]; omega)]
     ·rw [if_neg (by rw [jfM]; omega), if_pos (by rw [jfM]; omega)]
   ·rw [decide_eq_false (show ¬ (_ ∨ _) by omega), if_pos (show QP ≠ A from hwh), if_pos (show (27 : Int) ≠ 0 by omega)]
    rfl
 ·have h1 : jch b = double.word s 9218868437227405312 := by
   unfold jch FloatKind.encode FloatKind.decode
   simp only [show FloatKind.format .f32 = single from rfl, show FloatKind.format .f64 = double from rfl, h]
   rfl
  have h2 : double.read (jch b) = .infinity s := by rw [h1]; cases s <;> decide
  have h3 : jfJ (jch b) = some false := by
   have ho : double.order (jch b) (jch b) = some .eq := by unfold Format.order; rw [h2]; cases s <;> rfl
   unfold jfJ
   simp only [show FloatKind.format .f64 = double from rfl]
   rw [ho, jsB double h2]
   rfl
  rw [h3, h]
  rfl
 ·rw [h]
  rfl
theorem jjv {p : Prop} [Decidable p] (h : p) : (!decide p) = false := by rw [decide_eq_true h]; rfl
theorem jlt {p : Prop} [Decidable p] (h : ¬ p) : (!decide p) = true := by rw [decide_eq_false h]; rfl
def jra (l : List Nat) : Int × Int := match l.findIdx? (fun b => se b != 0) with
 | some i => ((i : Int), se (l.getD i 0))
 | none => (0, 0)
def jeb (rate : Int) (l : List Nat) : Int × Int :=
 if ¬ (8000 ≤ rate ∧ rate ≤ 192000) then (0, 2) else if l.length = 0 then (0, 10) else if 1024 < l.length then (0, 8) else jra l
def jbp (rate : Int) (l : List Nat) (noise tail : Int) : Int × Int :=
 if (jeb rate l).2 ≠ 0 then jeb rate l else if (0 ≤ noise ∧ noise ≤ 32767) ∧ (0 ≤ tail ∧ tail ≤ 1000000000000) then (0, 0) else (0, 2)
theorem juK {l : List Nat} (h : (jra l).2 = 0) : ∀ b ∈ l, se b = 0 := by
 unfold jra at h
 cases hf : l.findIdx? (fun b => se b != 0) with
 | none =>
  rw [List.findIdx?_eq_none_iff] at hf
  intro b hb
  simpa using hf b hb
 | some i =>
  rw [hf] at h
  rw [List.findIdx?_eq_some_iff_getElem] at hf
  obtain ⟨hi, hp, _⟩ := hf
  simp [List.getD, hi] at h
  simp [h] at hp
theorem joM {rate : Int} {l : List Nat} (h : (jeb rate l).2 = 0) : (8000 ≤ rate ∧ rate ≤ 192000) ∧ 0 < l.length ∧ l.length ≤ 1024 ∧ ∀ b ∈ l, se b = 0 := by
 unfold jeb at h
 split at h
 ·simp at h
 ·rename_i h1
  split at h
  ·simp at h
  ·rename_i h2
   split at h
   ·simp at h
   ·rename_i h3
    exact ⟨Classical.not_not.1 h1, by omega, by omega, juK h⟩
theorem joN {rate : Int} {l : List Nat} {noise tail : Int} (h : (jbp rate l noise tail).2 = 0) : (jeb rate l).2 = 0 ∧ (0 ≤ noise ∧ noise ≤ 32767) ∧ (0 ≤ tail ∧ tail ≤ 1000000000000) := by
 unfold jbp at h
 split at h
 ·contradiction
 ·rename_i h1
  split at h
  ·rename_i h2; exact ⟨Classical.not_not.1 h1, h2.1, h2.2⟩
  ·simp at h
theorem jkw (rate : Int) {l : List Nat} (hl : l.length < 1000000000000) : y70 rate l = some (jeb rate l) := by
 unfold y70 jcW jeb
 rw [jdP, jaa, jaa, jdy, jaa, jdy, jaa, jdy, jaa, jls (by simp), jaa, firE3]
 by_cases h1 : 8000 ≤ rate ∧ rate ≤ 192000
 ·by_cases h2 : l.length = 0
  ·simp [h1, h2]
  ·by_cases h3 : 1024 < l.length
   ·simp [h1, h2, h3, show (0 : Int) < (l.length : Int) by omega, show ¬ (l.length : Int) ≤ 1024 by omega]
   ·have h := jdM l 0 (fun b => se b != 0) (body := y40 l) (fun i => .inl ((i : Int), se (l.getD i 0))) (.inr ()) (by omega)
     (fun i hi hp => by
      unfold y40
      rw [if_pos (by omega), if_pos (by omega), if_pos (by omega), Int.toNat_natCast, jit, jaa, if_pos hp])
     (fun i hi hp => by
      unfold y40
      rw [if_pos (by omega), if_pos (by omega), if_pos (by omega), Int.toNat_natCast, jit, jaa, if_neg (by rw [hp]; simp), jas (by omega)])
     (by unfold y40; rw [if_neg (by omega)])
    simp only [h1, and_self, decide_true, if_true, ne_eq, not_true_eq_false, if_false, show (0 : Int) < (l.length : Int) by omega, gt_iff_lt, show (l.length : Int) ≤ 1024 by omega, bne_self_eq_false, Bool.false_eq_true, h2, h3, h, jaa]
    unfold jra
    cases l.findIdx? (fun b => se b != 0) <;> rfl
 ·simp [h1]
theorem jrb (rate : Int) {l : List Nat} (noise tail : Int) (hl : l.length < 1000000000000) : y26 rate l noise tail = some (jbp rate l noise tail) := by
 unfold y26 jbp
 rw [jkw rate hl, jaa]
 by_cases h : (jeb rate l).2 = 0
 ·rw [if_neg (by rw [h]; simp), if_neg (by omega), jdP, jaa]
  by_cases h1 : 0 ≤ noise ∧ noise ≤ 32767
  ·rw [if_pos (by simpa using h1), jdP, jaa, jdy, jaa]
   by_cases h2 : 0 ≤ tail ∧ tail ≤ 1000000000000 <;> simp [h1, h2]
  ·rw [if_neg (by simpa using h1), if_neg (fun hc => h1 hc.1), jdy]
   rfl
 ·rw [if_pos (by simpa using h), if_pos h]
theorem jkx (rate : Int) {l : List Nat} (hl : l.length < 1000000000000) : y55 rate l = some (jeb rate l) := by
 unfold y55 jgD jeb
 rw [jcB, jaa, jaa]
 by_cases h1 : 8000 ≤ rate ∧ rate ≤ 192000
 ·rw [jjv h1, if_neg Bool.false_ne_true, if_neg (show ¬ ¬ (8000 ≤ rate ∧ rate ≤ 192000) from fun h => h h1)]
  by_cases h2 : l.length = 0
  ·rw [h2, if_pos (by rfl), if_pos rfl]
  ·rw [if_neg (show ¬ ((l.length : Int) == 0) = true by simpa using h2), if_neg h2]
   by_cases h3 : 1024 < l.length
   ·rw [if_pos (show (l.length : Int) > 1024 by omega), if_pos h3]
   ·rw [if_neg (show ¬ (l.length : Int) > 1024 by omega), if_neg h3]
    have hb : ∀ i, i < l.length → y37 l (i : Int) = if se (l.getD i 0) ≠ 0 then some (.inr (.inl ((i : Int), se (l.getD i 0)))) else some (.inl ((i : Int) + 1)) := by
     intro i hi
     unfold y37
     rw [if_pos (by omega), if_pos (by omega), if_pos (by omega), Int.toNat_natCast]
     refine Eq.trans ?_ (jxE (α := Int ⊕ ((Int × Int) ⊕ Unit)) (l.getD i 0) (fun e => some (.inr (.inl ((i : Int), e)))) (some (.inl ((i : Int) + 1))))
     simp only [jas (show -9223372036854775808 ≤ (i : Int) + 1 ∧ (i : Int) + 1 ≤ 9223372036854775807 by omega)]
    have h := jdM l 0 (fun b => se b != 0) (body := y37 l) (fun i => .inl ((i : Int), se (l.getD i 0))) (.inr ()) (by omega)
     (fun i hi hp => by rw [hb i hi, if_pos (by simpa using hp)])
     (fun i hi hp => by rw [hb i hi, if_neg (by simpa using hp)])
     (by unfold y37; rw [if_neg (by omega)])
    rw [h, jaa]
    unfold jra
    cases l.findIdx? (fun b => se b != 0) <;> rfl
 ·rw [jlt h1, if_pos rfl, if_pos (show ¬ (8000 ≤ rate ∧ rate ≤ 192000) from h1)]
theorem jrc (rate : Int) {l : List Nat} (noise tail : Int) (hl : l.length < 1000000000000) : jjs rate l noise tail = some (jbp rate l noise tail) := by
 unfold jjs jbp
 rw [jkx rate hl, jaa]
 by_cases h : (jeb rate l).2 = 0
 ·rw [if_neg (show ¬ ((jeb rate l).2 != 0) = true by rw [h]; simp), if_neg (show ¬ (jeb rate l).2 ≠ 0 by omega), jcB, jaa]
  by_cases h1 : 0 ≤ noise ∧ noise ≤ 32767
  ·rw [jjv h1, if_neg Bool.false_ne_true, jcB, jaa]
   by_cases h2 : 0 ≤ tail ∧ tail ≤ 1000000000000 <;> simp [h1, h2]
  ·rw [jlt h1, if_pos rfl, if_neg (fun hc => h1 hc.1)]
 ·rw [if_pos (by simpa using h), if_pos h]
theorem joO (rate : Int) {l : List Nat} (noise tail : Int) (hl : l.length < 1000000000000) : jh1 rate l noise tail = some (jbp rate l noise tail).2 := by
 unfold jh1; rw [jrc rate noise tail hl]; rfl
end Go.Sh
end
