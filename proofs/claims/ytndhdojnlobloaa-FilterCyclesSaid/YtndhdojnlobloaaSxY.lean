/- A symbolic executor for the model's code: contracts of functions that take and return pointers, closures, and structs with slices. -/
import Derived.Test.YtndhdojnlobloaaSxX
set_option linter.unusedSectionVars false
set_option linter.unusedSimpArgs false
set_option linter.unusedVariables false
open Go.RowKit
namespace Go.Sx

/-- The shape of a cell that is handed in: data; a slice; a slice with lists within; a pointer to a variable; a closure. -/
inductive Sh where
  | d
  | r (c0 : Cont)
  | x (x0 : XC)
  | p (l : List Sh)
  | f (g : Nat) (l : List Sh)
/-- The shape of an argument. -/
inductive SV where
  | c (x : Sh)
  | a (l : List Sh)
  | b (k : FloatKind) (e : Nat)
/-- What is told of an argument. -/
inductive Lf where
  | d (x : D)
  | n (k : FloatKind)
  | r (c : Cont)
  | x (x : XC)
  | b (k : FloatKind) (e : Nat) (r : List Nat)

def nilC : C → Bool
  | .d (.v (.slice none 0 0)) => true
  | _ => false

/-- The cells behind a pointer to a variable. -/
def boxCells (hp : Hp) (h : Nat) : Option (List C) := match find hp h with
  | some (.box _ cs) => some cs
  | some (.ebox cs) => some cs
  | _ => none

def isP : Sh → Bool
  | .p _ => true
  | _ => false

def travL (f : Sh → C → Option (List Lf × List C)) : List Sh → List C → Option (List Lf × List C)
  | [], [] => some ([], [])
  | s :: l, c :: cs => match f s c, travL f l cs with
    | some (a, x), some (b, y) => some (a ++ b, x ++ y)
    | _, _ => none
  | _, _ => none

/-- What is told of a cell, and the objects' own values in the order of their numbers. -/
def toC (hp : Hp) : Nat → Sh → C → Option (List Lf × List C)
  | 0, _, _ => none
  | n + 1, s, c =>
    match s with
    | .d => match c with
      | .d x => some ([.d x], [])
      | .o h => match find hp h with
        | some (.nan k) => some ([.n k], [c])
        | _ => none
      | _ => none
    | .r c0 => match nilC c with
      | true => match c0.n, c0.e with
        | 0, _ + 1 => some ([.r c0], [c])
        | _, _ => none
      | false => match c with
        | .o h => match (find hp h).bind O.cont with
          | some x => match x.e with
            | 0 => none
            | _ + 1 => some ([.r x], [c])
          | none => none
        | _ => none
    | .x x0 => match nilC c with
      | true => match x0.n with
        | 0 => some ([.x x0], [c])
        | _ => none
      | false => match c with
        | .o h => match find hp h with
          | some (.xext X) => some ([.x X], [c])
          | _ => none
        | _ => none
    | .p l => match c with
      | .p h 0 _ 0 => match boxCells hp h with
        | some cs => (travL (toC hp n) l cs).map fun (a, x) => (a, x ++ [c])
        | none => none
      | .o h => match boxCells hp h with
        | some cs => (travL (toC hp n) l cs).map fun (a, x) => (a, x ++ [c])
        | none => none
      | _ => none
    | .f g l => match c with
      | .fn g' hs => match Nat.beq g g', l.all isP with
        | true, true => travL (toC hp n) l (hs.map C.o)
        | _, _ => none
      | _ => none

def toV (hp : Hp) (s : SV) (v : V) : Option (List Lf × List C) :=
  match s, v with
  | .c s, .w (.c c) => toC hp 8 s c
  | .a l, .w (.a cs) => travL (toC hp 8) l cs
  | .b k e, .w (.b k' e' r) => match sameK k k', Nat.beq e e' with
    | true, true => some ([.b k e r], [])
    | _, _ => none
  | .b k e, .w (.a cs) => match fltCells k cs with
    | some r => match Nat.beq e r.length with
      | true => some ([.b k e r], [])
      | false => none
    | none => none
  | _, _ => none
def toVs (hp : Hp) : List SV → List V → Option (List Lf × List C)
  | [], [] => some ([], [])
  | s :: l, v :: vs => match toV hp s v, toVs hp l vs with
    | some (a, x), some (b, y) => some (a ++ b, x ++ y)
    | _, _ => none
  | _, _ => none

/-! ### the same, from what is told -/

structure Bt where
  cs : List C
  hp : Hp
  n : Nat
  ls : List Lf

def bldL (f : Sh → Nat → List Lf → Option Bt) : List Sh → Nat → List Lf → Option Bt
  | [], n, ls => some ⟨[], [], n, ls⟩
  | s :: l, n, ls => match f s n ls with
    | some a => match bldL f l a.n a.ls with
      | some b => some ⟨a.cs ++ b.cs, b.hp ++ a.hp, b.n, b.ls⟩
      | none => none
    | none => none

def hOf : C → Nat
  | .p h _ _ _ => h
  | .o h => h
  | _ => 0

def bldC : Nat → Sh → Nat → List Lf → Option Bt
  | 0, _, _, _ => none
  | m + 1, s, n, ls =>
    match s with
    | .d => match ls with
      | .d x :: r => some ⟨[.d x], [], n, r⟩
      | .n k :: r => some ⟨[.o n], [(n, .nan k)], n + 1, r⟩
      | _ => none
    | .r _ => match ls with
      | .r c :: r => some ⟨[.o n], [(n, .ext c)], n + 1, r⟩
      | _ => none
    | .x _ => match ls with
      | .x X :: r => some ⟨[.o n], [(n, .xext X)], n + 1, r⟩
      | _ => none
    | .p l => match bldL (bldC m) l n ls with
      | some b => some ⟨[.p b.n 0 1 0], (b.n, .ebox b.cs) :: b.hp, b.n + 1, b.ls⟩
      | none => none
    | .f g l => match bldL (bldC m) l n ls with
      | some b => some ⟨[.fn g (b.cs.map hOf)], b.hp, b.n, b.ls⟩
      | none => none

structure Bv where
  vs : List V
  hp : Hp
  n : Nat
  ls : List Lf

def headC : List C → C
  | c :: _ => c
  | [] => .d (.v undef)

def bldV (s : SV) (n : Nat) (ls : List Lf) : Option Bv :=
  match s with
  | .c s => (bldC 8 s n ls).map fun b => ⟨[.w (.c (headC b.cs))], b.hp, b.n, b.ls⟩
  | .a l => (bldL (bldC 8) l n ls).map fun b => ⟨[.w (.a b.cs)], b.hp, b.n, b.ls⟩
  | .b _ _ => match ls with
    | .b k e r :: q => some ⟨[.w (.b k e r)], [], n, q⟩
    | _ => none
def bldVs : List SV → Nat → List Lf → Option Bv
  | [], n, ls => some ⟨[], [], n, ls⟩
  | s :: l, n, ls => match bldV s n ls with
    | some a => match bldVs l a.n a.ls with
      | some b => some ⟨a.vs ++ b.vs, b.hp ++ a.hp, b.n, b.ls⟩
      | none => none
    | none => none

/-! ### results -/

/-- A cell that is returned: data; an object that was handed in; a row of its own; a variable of its own. -/
inductive RC where
  | d (x : D)
  | g (i : Nat)
  | row (ty : Nat) (c : Cont)
  | box (ty : Nat) (l : List RC)
  | rrow (c : Cont)
inductive RR where
  | c (x : RC)
  | s (l : List RC)
  | b (k : FloatKind) (e : Nat) (r : List Nat)
/-- What is told of the results, parted by tests. -/
inductive GT where
  | leaf (ob : Prop) (rs : List RR)
  | br (b : Bool) (x y : GT)
def GT.sel : GT → Prop × List RR
  | .leaf ob rs => (ob, rs)
  | .br b x y => match b with
    | true => x.sel
    | false => y.sel

structure Rt where
  cs : List C
  hp : Hp
  n : Nat
def rvL (f : RC → Nat → Rt) : List RC → Nat → Rt
  | [], n => ⟨[], [], n⟩
  | r :: l, n =>
    let a := f r n
    let b := rvL f l a.n
    ⟨a.cs ++ b.cs, b.hp ++ a.hp, b.n⟩
/-- A returned cell in the caller's numbers. -/
def rvC (am : List C) : Nat → RC → Nat → Rt
  | 0, _, n => ⟨[.d (.v undef)], [], n⟩
  | m + 1, r, n =>
    match r with
    | .d x => ⟨[.d x], [], n⟩
    | .g i => ⟨[am.getD i (.d (.v undef))], [], n⟩
    | .row ty c => ⟨[.o n], [(n, .row ty c)], n + 1⟩
    | .rrow c => ⟨[.o n], [(n, .rrow c)], n + 1⟩
    | .box ty l =>
      let b := rvL (rvC am m) l n
      ⟨[.p b.n 0 1 0], (b.n, .box ty b.cs) :: b.hp, b.n + 1⟩
structure Rw where
  ws : List W
  hp : Hp
  n : Nat
def rvR (am : List C) (r : RR) (n : Nat) : Rw :=
  match r with
  | .c x => let b := rvC am 8 x n; ⟨[.c (headC b.cs)], b.hp, b.n⟩
  | .s l => let b := rvL (rvC am 8) l n; ⟨[.a b.cs], b.hp, b.n⟩
  | .b k e r => ⟨[.b k e r], [], n⟩
def rvRs (am : List C) : List RR → Nat → Rw
  | [], n => ⟨[], [], n⟩
  | r :: l, n =>
    let a := rvR am r n
    let b := rvRs am l a.n
    ⟨a.ws ++ b.ws, b.hp ++ a.hp, b.n⟩

def GT.toRT (am : List C) (hp : Hp) (nx : Nat) : GT → RT
  | .leaf ob rs => let b := rvRs am rs nx; .leaf ⟨ob, tupV b.ws, b.hp ++ hp, b.n⟩
  | .br b x y => .br b (x.toRT am hp nx) (y.toRT am hp nx)

/-- A contract in the executor's words. -/
def pureT (shs : List SV) (g : List Lf → Option GT) : Spec := fun vs hp nx =>
  match toVs hp shs vs with
  | some (ls, am) => match g ls with
    | some t => some (t.toRT am hp nx)
    | none => none
  | none => none

/-! ### is the result as told? -/

def fitL (f : RC → C → List Nat → (List Nat → Prop) → Prop) : List RC → List C → List Nat → (List Nat → Prop) → Prop
  | [], [], us, k => k us
  | r :: l, c :: cs, us, k => f r c us fun us => fitL f l cs us k
  | _, _, _, _ => False
def fitC (n0 : Nat) (hp : Hp) : Nat → RC → C → List Nat → (List Nat → Prop) → Prop
  | 0, _, _, _, _ => False
  | m + 1, r, c, us, k =>
    match r, c with
    | .d x, .d y => mD x y ∧ k us
    | .g i, .o h => match Nat.beq i h, Nat.blt i n0 with
      | true, true => k us
      | _, _ => False
    | .row ty c, .o h => match us.contains h with
      | true => False
      | false => match find hp h with
        | some (.row ty' c') => match Nat.beq ty' ty with
          | true => mCont c c' ∧ k (h :: us)
          | false => False
        | _ => False
    | .row _ c, .d (.v (.slice none 0 0)) => Ob (c.n = 0) ∧ k us
    | .rrow c, .o h => match us.contains h with
      | true => False
      | false => match find hp h with
        | some (.rrow c') => mCont c c' ∧ k (h :: us)
        | _ => False
    | .rrow c, .d (.v (.slice none 0 0)) => Ob (c.n = 0) ∧ k us
    | .box ty l, .p h 0 _ 0 => match find hp h with
      | some (.box ty' cs) => match Nat.beq ty' ty with
        | true => fitL (fitC n0 hp m) l cs us fun us => match us.contains h with
          | true => False
          | false => k (h :: us)
        | false => False
      | _ => False
    | _, _ => False
def fitR (n0 : Nat) (hp : Hp) (r : RR) (w : W) (us : List Nat) (k : List Nat → Prop) : Prop :=
  match r, w with
  | .c x, .c c => fitC n0 hp 8 x c us k
  | .s l, .a cs => fitL (fitC n0 hp 8) l cs us k
  | .b q e r, .b q' e' r' => match sameK q q', Nat.beq e e' with
    | true, true => Ob (r = r') ∧ k us
    | _, _ => False
  | _, _ => False
def fitRs (n0 : Nat) (hp : Hp) : List RR → List W → List Nat → Prop
  | [], [], _ => True
  | r :: l, w :: ws, us => fitR n0 hp r w us fun us => fitRs n0 hp l ws us
  | _, _, _ => False
def fitV (n0 : Nat) (rs : List RR) (v : V) (hp : Hp) : Prop := match v with
  | .w u => fitRs n0 hp rs [u] []
  | .t [_] => False
  | .t l => fitRs n0 hp rs l []

section
variable [Globs] {P : Program} {sp : Specs} {ρ : Env} {B : Bd} {nx : Nat} {hp : Hp} {w w' : World}

/-! ### what is handed in -/

theorem C.p_val {ρ : Env} {h i e j : Nat} : (C.p h i e j).val ρ = .pointer (some ⟨(base (ρ h)).block, (base (ρ h)).off + (i * e + j), none⟩) := rfl

/-- What is built stands for what was handed in. -/
structure BOK (ρ : Env) (w : World) (nx n : Nat) (ρ1 ρ2 : Env) (rest : List Lf) (cs x : List C) (b : Bt) : Prop where
  ls : b.ls = rest
  nn : b.n = n + x.length
  agree : Agree n ρ1 ρ2
  val : b.cs.map (C.val ρ2) = cs.map (C.val ρ)
  lt : ∀ c ∈ b.cs, C.lt b.n c
  heap : ∀ h o, find b.hp h = some o → n ≤ h ∧ h < b.n ∧ o.lt b.n ∧ o.ok ρ2 (fun k => k < w.heap.size) w h ∧ ∀ v, o.blk v = none
  own : ∀ i, i < x.length → ρ2 (n + i) = (x.getD i (.d (.v undef))).val ρ
  xlt : ∀ y ∈ x, C.lt nx y
  hnd : ∀ c ∈ b.cs, (∃ m i e j, c = .p m i e j) → ρ2 (hOf c) = c.val ρ2 ∧ hOf c < b.n

theorem BOK.append {n : Nat} {ρ1 ρ2 ρ3 : Env} {r1 rest : List Lf} {c1 c2 x1 x2 : List C} {b1 b2 : Bt} (h1 : BOK ρ w nx n ρ1 ρ2 r1 c1 x1 b1) (h2 : BOK ρ w nx b1.n ρ2 ρ3 rest c2 x2 b2) :
    BOK ρ w nx n ρ1 ρ3 rest (c1 ++ c2) (x1 ++ x2) ⟨b1.cs ++ b2.cs, b2.hp ++ b1.hp, b2.n, b2.ls⟩ := by
  have hle : b1.n ≤ b2.n := by rw [h2.nn]; omega
  have hn1 : n ≤ b1.n := by rw [h1.nn]; omega
  refine ⟨h2.ls, ?_, h1.agree.trans h2.agree hn1, ?_, ?_, ?_, ?_, ?_, ?_⟩
  · show b2.n = _
    rw [h2.nn, h1.nn, List.length_append]; omega
  · simp only [List.map_append, h2.val]
    congr 1
    rw [← h1.val]
    exact List.map_congr_left fun c hc => C.val_agree h2.agree (h1.lt c hc)
  · intro c hc
    rcases List.mem_append.1 hc with hc | hc
    · exact C.lt_mono hle (h1.lt c hc)
    · exact h2.lt c hc
  · intro h o hf
    have hf : find (b2.hp ++ b1.hp) h = some o := hf
    rw [find_append] at hf
    cases hg : find b2.hp h with
    | some o2 =>
      rw [hg] at hf
      cases hf
      obtain ⟨a1, a2, a3, a4, a5⟩ := h2.heap h o hg
      exact ⟨Nat.le_trans hn1 a1, a2, a3, a4, a5⟩
    | none =>
      rw [hg] at hf
      obtain ⟨a1, a2, a3, a4, a5⟩ := h1.heap h o hf
      exact ⟨a1, Nat.lt_of_lt_of_le a2 hle, O.lt_mono hle a3, O.ok_agree h2.agree a2 a3 a4, a5⟩
  · intro i hi
    by_cases hlt : i < x1.length
    · rw [h2.agree (n + i) (by rw [h1.nn]; omega), h1.own i hlt]
      simp [List.getD, List.getElem?_append_left hlt]
    · have e1 : n + i = b1.n + (i - x1.length) := by rw [h1.nn]; omega
      rw [e1, h2.own (i - x1.length) (by simp at hi; omega)]
      simp [List.getD, List.getElem?_append_right (Nat.le_of_not_lt hlt)]
  · intro y hy
    rcases List.mem_append.1 hy with hy | hy
    · exact h1.xlt y hy
    · exact h2.xlt y hy
  · intro c hc hp
    rcases List.mem_append.1 hc with hc | hc
    · obtain ⟨a1, a2⟩ := h1.hnd c hc hp
      exact ⟨by rw [h2.agree _ a2, a1]; exact (C.val_agree h2.agree (h1.lt c hc)).symm, Nat.lt_of_lt_of_le a2 hle⟩
    · exact h2.hnd c hc hp

theorem BOK.nil {n : Nat} {ρ1 : Env} {rest : List Lf} : BOK ρ w nx n ρ1 ρ1 rest [] [] ⟨[], [], n, rest⟩ :=
  ⟨rfl, rfl, Agree.refl _ _, rfl, (fun _ h => by cases h), (fun _ _ h => by cases h), (fun _ h => by cases h), (fun _ h => by cases h), fun _ h => by cases h⟩

def ToOK (ρ : Env) (w : World) (nx : Nat) (s : Sh) (c : C) (a : List Lf) (x : List C) (g : Sh → Nat → List Lf → Option Bt) : Prop :=
  ∀ (n : Nat) (ρ1 : Env) (rest : List Lf), ∃ b ρ2, g s n (a ++ rest) = some b ∧ BOK ρ w nx n ρ1 ρ2 rest [c] x b

theorem bldL_spec {f : Sh → C → Option (List Lf × List C)} {g : Sh → Nat → List Lf → Option Bt} (hf : ∀ s c a x, f s c = some (a, x) → C.lt nx c → ToOK ρ w nx s c a x g) :
    ∀ (l : List Sh) (cs : List C) (a : List Lf) (x : List C), travL f l cs = some (a, x) → (∀ c ∈ cs, C.lt nx c) → ∀ (n : Nat) (ρ1 : Env) (rest : List Lf), ∃ b ρ2, bldL g l n (a ++ rest) = some b ∧ BOK ρ w nx n ρ1 ρ2 rest cs x b
  | [], [], a, x, h, _, n, ρ1, rest => by
    simp only [travL, Option.some.injEq, Prod.mk.injEq] at h
    obtain ⟨rfl, rfl⟩ := h
    exact ⟨_, ρ1, rfl, BOK.nil⟩
  | s :: l, c :: cs, a, x, h, hlt, n, ρ1, rest => by
    simp only [travL] at h
    split at h
    · rename_i a1 x1 a2 x2 h1 h2
      cases h
      obtain ⟨b1, ρ2, e1, k1⟩ := hf s c a1 x1 h1 (hlt c List.mem_cons_self) n ρ1 (a2 ++ rest)
      obtain ⟨b2, ρ3, e2, k2⟩ := bldL_spec hf l cs a2 x2 h2 (fun c hc => hlt c (List.mem_cons_of_mem _ hc)) b1.n ρ2 rest
      refine ⟨_, ρ3, ?_, k1.append k2⟩
      rw [List.append_assoc]
      simp only [bldL, e1, k1.ls, e2]
    · cases h
  | [], _ :: _, _, _, h, _, _, _, _ => by simp [travL] at h
  | _ :: _, [], _, _, h, _, _, _, _ => by simp [travL] at h

theorem nilC_spec {c : C} (h : nilC c = true) : c = .d (.v (.slice none 0 0)) := by
  unfold nilC at h
  split at h
  · rfl
  · cases h

/-- The pointer to a variable, and its cells. -/
theorem boxCells_spec (hh : HRel ρ B hp nx w) (hB : Old B w) {h : Nat} {cs : List C} (hc : boxCells hp h = some cs) :
    h < nx ∧ (∀ c ∈ cs, C.lt nx c) ∧ ∃ k o, ρ h = .pointer (some ⟨k, o, none⟩) ∧ k < w.heap.size ∧ ∀ j c, cs[j]? = some c → w.cell? ⟨k, o + j, none⟩ = some (c.val ρ) := by
  unfold boxCells at hc
  split at hc
  · rename_i ty cs' hf
    cases hc
    obtain ⟨h1, h2, g, h3, h4, h5⟩ := hh.ok h _ hf
    refine ⟨h1, h2, g, 0, h3, (Array.getElem?_eq_some_iff.1 h5).1, fun j c hj => ?_⟩
    rw [Nat.zero_add, cell_of_row w g _ _ ty (0, 0) h5]
    simp [hj]
  · rename_i cs' hf
    cases hc
    obtain ⟨h1, h2, g, o, h3, h4, h5⟩ := hh.ok h _ hf
    exact ⟨h1, h2, g, o, h3, hB g h4, h5⟩
  · cases hc

/-- One object, for one that was handed in. -/
theorem BOK.one {n : Nat} {ρ1 : Env} {rest : List Lf} {c : C} {o : O} (hc : C.lt nx c) (hl : o.lt (n + 1)) (hb : ∀ v, o.blk v = none) (ho : o.ok (upd ρ1 n (c.val ρ)) (fun k => k < w.heap.size) w n) :
    BOK ρ w nx n ρ1 (upd ρ1 n (c.val ρ)) rest [c] [c] ⟨[.o n], [(n, o)], n + 1, rest⟩ := by
  refine ⟨rfl, rfl, upd_agree _ _ _, by simp [C.val], ?_, ?_, ?_, ?_, ?_⟩
  · intro c' hc'
    simp only [List.mem_singleton] at hc'
    subst hc'
    exact Nat.lt_succ_self n
  · intro h o' hf
    simp only [find] at hf
    split at hf
    · rename_i e
      subst e
      cases hf
      exact ⟨Nat.le_refl _, Nat.lt_succ_self _, hl, ho, hb⟩
    · cases hf
  · intro i hi
    simp at hi
    subst hi
    simp
  · intro y hy
    simp only [List.mem_singleton] at hy
    subst hy
    exact hc
  · rintro c' hc' ⟨m, i, e, j, rfl⟩
    simp at hc'

theorem bldL_p {m : Nat} : ∀ (l : List Sh) (n : Nat) (ls : List Lf) (b : Bt), l.all isP = true → bldL (bldC m) l n ls = some b → ∀ c ∈ b.cs, ∃ q i e j, c = C.p q i e j
  | [], n, ls, b, _, h => by simp only [bldL, Option.some.injEq] at h; subst h; exact fun _ h => by cases h
  | s :: l, n, ls, b, hp, h => by
    simp only [List.all_cons, Bool.and_eq_true] at hp
    simp only [bldL] at h
    split at h
    · rename_i a ha
      split at h
      · rename_i b2 hb2
        cases h
        intro c hc
        rcases List.mem_append.1 hc with hc | hc
        · cases m with
          | zero => simp [bldC] at ha
          | succ m =>
            cases s with
            | p l2 =>
              simp only [bldC] at ha
              split at ha
              · cases ha
                simp only [List.mem_singleton] at hc
                exact ⟨_, _, _, _, hc⟩
              · cases ha
            | _ => simp [isP] at hp
        · exact bldL_p l _ _ b2 hp.2 hb2 c hc
      · cases h
    · cases h

theorem toC_spec (hh : HRel ρ B hp nx w) (hB : Old B w) : ∀ (m : Nat) (s : Sh) (c : C) (a : List Lf) (x : List C), toC hp m s c = some (a, x) → C.lt nx c → ToOK ρ w nx s c a x (bldC m)
  | 0, _, _, _, _, h, _ => by simp [toC] at h
  | m + 1, s, c, a, x, h, hc => by
    intro n ρ1 rest
    have ih := bldL_spec (f := toC hp m) (g := bldC m) (fun s c a x h hc => toC_spec hh hB m s c a x h hc)
    cases s with
    | d =>
      simp only [toC] at h
      split at h
      · cases h
        refine ⟨_, ρ1, rfl, rfl, rfl, Agree.refl _ _, rfl, ?_, (fun _ _ h => by cases h), (fun _ h => by cases h), (fun _ h => by cases h), ?_⟩
        · intro c hc; simp only [List.mem_singleton] at hc; subst hc; trivial
        · rintro c hc ⟨_, _, _, _, rfl⟩; simp at hc
      · rename_i h0
        split at h
        · rename_i k hf
          cases h
          have hok := (hh.ok h0 _ hf).2.2
          exact ⟨_, _, rfl, BOK.one hc trivial (fun _ => rfl) (by unfold O.ok; rw [upd_same]; exact hok)⟩
        · cases h
      · cases h
    | r c0 =>
      simp only [toC] at h
      split at h
      · rename_i hn
        have hn := nilC_spec hn
        subst hn
        split at h
        · rename_i e hn0 he
          cases h
          refine ⟨_, _, rfl, BOK.one (c := .d (.v (.slice none 0 0))) hc trivial (fun _ => rfl) ?_⟩
          refine ⟨⟨none, 0, by rw [upd_same, hn0]; rfl, ⟨by omega, fun _ => rfl⟩, fun hp => by omega⟩, fun a' n' cap hv => ?_⟩
          rw [upd_same] at hv
          cases hv
        · cases h
      · split at h
        · rename_i h0 _
          split at h
          · rename_i x hx
            split at h
            · cases h
            · rename_i e he
              cases h
              cases hf : find hp h0 with
              | none => simp [hf] at hx
              | some o =>
                simp only [hf, Option.bind_some] at hx
                have hrow := row_isRow (hh.ok h0 o hf).2.2 hx
                exact ⟨_, _, rfl, BOK.one hc trivial (fun _ => rfl) ⟨by rw [upd_same]; exact hrow, by rw [upd_same]; exact hrow.lt (by omega)⟩⟩
          · cases h
        · cases h
    | x x0 =>
      simp only [toC] at h
      split at h
      · rename_i hn
        have hn := nilC_spec hn
        subst hn
        split at h
        · rename_i hn0
          cases h
          refine ⟨_, _, rfl, BOK.one (c := .d (.v (.slice none 0 0))) hc trivial (fun _ => rfl) ?_⟩
          exact ⟨none, 0, by rw [upd_same, hn0]; rfl, ⟨by omega, fun _ => rfl⟩, fun hp => by omega⟩
        · cases h
      · split at h
        · rename_i h0 _
          split at h
          · rename_i X hf
            cases h
            have hok := (hh.ok h0 _ hf).2.2
            refine ⟨_, _, rfl, BOK.one hc trivial (fun _ => rfl) ?_⟩
            unfold O.ok
            rw [upd_same]
            exact isX_mono (fun k hk => hB k hk) hok
          · cases h
        · cases h
    | p l =>
      have key : ∀ (h0 : Nat) (cs : List C), boxCells hp h0 = some cs → c.val ρ = ρ h0 → (travL (toC hp m) l cs).map (fun (a, x) => (a, x ++ [c])) = some (a, x) →
          ∃ b ρ2, bldC (m + 1) (.p l) n (a ++ rest) = some b ∧ BOK ρ w nx n ρ1 ρ2 rest [c] x b := by
        intro h0 cs hbc hcv ht
        obtain ⟨⟨a', x'⟩, ht', he⟩ := Option.map_eq_some_iff.1 ht
        cases he
        obtain ⟨hlt0, hcl, k, o, hk, hks, hcell⟩ := boxCells_spec hh hB hbc
        obtain ⟨b, ρ2, e, q⟩ := ih l cs a x' ht' hcl n ρ1 rest
        have hag : Agree b.n ρ2 (upd ρ2 b.n (c.val ρ)) := upd_agree _ _ _
        have hnb : n ≤ b.n := by rw [q.nn]; omega
        refine ⟨⟨[.p b.n 0 1 0], (b.n, .ebox b.cs) :: b.hp, b.n + 1, b.ls⟩, upd ρ2 b.n (c.val ρ), by simp only [bldC, e], q.ls, ?_, q.agree.trans hag hnb, ?_, ?_, ?_, ?_, ?_, ?_⟩
        · show b.n + 1 = _
          rw [q.nn]; simp; omega
        · simp only [List.map_cons, List.map_nil, C.p_val, upd_same]
          rw [hcv, hk]
          simp [base]
        · intro c' hc'
          simp only [List.mem_singleton] at hc'
          subst hc'
          exact Nat.lt_succ_self _
        · intro h' o' hf
          simp only [find] at hf
          split at hf
          · rename_i e2
            subst e2
            cases hf
            refine ⟨hnb, Nat.lt_succ_self _, fun y hy => C.lt_mono (Nat.le_succ _) (q.lt y hy), ⟨k, o, by rw [upd_same, hcv]; exact hk, hks, fun j y hj => ?_⟩, fun _ => rfl⟩
            rw [C.val_agree hag (q.lt y (List.mem_of_getElem? hj))]
            have h1 : (b.cs.map (C.val ρ2))[j]? = some (y.val ρ2) := by rw [List.getElem?_map, hj]; rfl
            rw [q.val, List.getElem?_map] at h1
            obtain ⟨y', hy', he'⟩ := Option.map_eq_some_iff.1 h1
            rw [← he']
            exact hcell j y' hy'
          · obtain ⟨a1, a2, a3, a4, a5⟩ := q.heap h' o' hf
            exact ⟨a1, Nat.lt_succ_of_lt a2, O.lt_mono (Nat.le_succ _) a3, O.ok_agree hag a2 a3 a4, a5⟩
        · intro i hi
          by_cases hlt : i < x'.length
          · rw [hag (n + i) (by rw [q.nn]; omega), q.own i hlt]
            simp [List.getD, List.getElem?_append_left hlt]
          · have e3 : i = x'.length := by simp at hi; omega
            subst e3
            rw [← q.nn, upd_same]
            simp [List.getD]
        · intro y hy
          rcases List.mem_append.1 hy with hy | hy
          · exact q.xlt y hy
          · simp only [List.mem_singleton] at hy
            subst hy
            exact hc
        · intro c' hc' _
          simp only [List.mem_singleton] at hc'
          subst hc'
          refine ⟨?_, Nat.lt_succ_self _⟩
          simp only [hOf, C.p_val, upd_same]
          rw [hcv, hk]
          simp [base]
      simp only [toC] at h
      split at h
      · rename_i h0 e0
        split at h
        · rename_i cs hbc
          refine key h0 cs hbc ?_ h
          obtain ⟨_, _, k, o, hk, _⟩ := boxCells_spec hh hB hbc
          simp [C.val, hk, base]
        · cases h
      · rename_i h0
        split at h
        · rename_i cs hbc
          exact key h0 cs hbc rfl h
        · cases h
      · cases h
    | f g l =>
      simp only [toC] at h
      split at h
      · rename_i g' hs
        split at h
        · rename_i hg hip
          have hg := Nat.eq_of_beq_eq_true hg
          subst hg
          have hcl : ∀ y ∈ hs.map C.o, C.lt nx y := fun y hy => by
            obtain ⟨z, hz, rfl⟩ := List.mem_map.1 hy
            exact hc z hz
          obtain ⟨b, ρ2, e, q⟩ := ih l _ a x h hcl n ρ1 rest
          have hbp := bldL_p l n (a ++ rest) b hip e
          refine ⟨⟨[.fn g (b.cs.map hOf)], b.hp, b.n, b.ls⟩, ρ2, by simp only [bldC, e], q.ls, q.nn, q.agree, ?_, ?_, q.heap, q.own, q.xlt, ?_⟩
          · simp only [List.map_cons, List.map_nil, C.val]
            have : (b.cs.map hOf).map ρ2 = hs.map ρ := by
              have h1 := q.val
              rw [List.map_map] at h1 ⊢
              have h2 : b.cs.map (ρ2 ∘ hOf) = b.cs.map (C.val ρ2) := List.map_congr_left fun y hy => (q.hnd y hy (hbp y hy)).1
              rw [h2, h1]
              exact List.map_congr_left fun y hy => rfl
            rw [this]
          · intro y hy
            simp only [List.mem_singleton] at hy
            subst hy
            intro z hz
            obtain ⟨y, hy, rfl⟩ := List.mem_map.1 hz
            exact (q.hnd y hy (hbp y hy)).2
          · rintro y hy ⟨_, _, _, _, rfl⟩
            simp at hy
        · cases h
      · cases h

structure BVOK (ρ : Env) (w : World) (nx n : Nat) (ρ1 ρ2 : Env) (rest : List Lf) (vs : List V) (x : List C) (b : Bv) : Prop where
  ls : b.ls = rest
  nn : b.n = n + x.length
  agree : Agree n ρ1 ρ2
  val : b.vs.map (V.val ρ2) = vs.map (V.val ρ)
  lt : ∀ c ∈ b.vs, V.lt b.n c
  heap : ∀ h o, find b.hp h = some o → n ≤ h ∧ h < b.n ∧ o.lt b.n ∧ o.ok ρ2 (fun k => k < w.heap.size) w h ∧ ∀ v, o.blk v = none
  own : ∀ i, i < x.length → ρ2 (n + i) = (x.getD i (.d (.v undef))).val ρ
  xlt : ∀ y ∈ x, C.lt nx y

theorem BVOK.append {n : Nat} {ρ1 ρ2 ρ3 : Env} {r1 rest : List Lf} {c1 c2 : List V} {x1 x2 : List C} {b1 b2 : Bv} (h1 : BVOK ρ w nx n ρ1 ρ2 r1 c1 x1 b1) (h2 : BVOK ρ w nx b1.n ρ2 ρ3 rest c2 x2 b2) :
    BVOK ρ w nx n ρ1 ρ3 rest (c1 ++ c2) (x1 ++ x2) ⟨b1.vs ++ b2.vs, b2.hp ++ b1.hp, b2.n, b2.ls⟩ := by
  have hle : b1.n ≤ b2.n := by rw [h2.nn]; omega
  have hn1 : n ≤ b1.n := by rw [h1.nn]; omega
  refine ⟨h2.ls, ?_, h1.agree.trans h2.agree hn1, ?_, ?_, ?_, ?_, ?_⟩
  · show b2.n = _
    rw [h2.nn, h1.nn, List.length_append]; omega
  · simp only [List.map_append, h2.val]
    congr 1
    rw [← h1.val]
    exact List.map_congr_left fun c hc => V.val_agree h2.agree (h1.lt c hc)
  · intro c hc
    rcases List.mem_append.1 hc with hc | hc
    · exact V.lt_mono hle (h1.lt c hc)
    · exact h2.lt c hc
  · intro h o hf
    have hf : find (b2.hp ++ b1.hp) h = some o := hf
    rw [find_append] at hf
    cases hg : find b2.hp h with
    | some o2 =>
      rw [hg] at hf
      cases hf
      obtain ⟨a1, a2, a3, a4, a5⟩ := h2.heap h o hg
      exact ⟨Nat.le_trans hn1 a1, a2, a3, a4, a5⟩
    | none =>
      rw [hg] at hf
      obtain ⟨a1, a2, a3, a4, a5⟩ := h1.heap h o hf
      exact ⟨a1, Nat.lt_of_lt_of_le a2 hle, O.lt_mono hle a3, O.ok_agree h2.agree a2 a3 a4, a5⟩
  · intro i hi
    by_cases hlt : i < x1.length
    · rw [h2.agree (n + i) (by rw [h1.nn]; omega), h1.own i hlt]
      simp [List.getD, List.getElem?_append_left hlt]
    · have e1 : n + i = b1.n + (i - x1.length) := by rw [h1.nn]; omega
      rw [e1, h2.own (i - x1.length) (by simp at hi; omega)]
      simp [List.getD, List.getElem?_append_right (Nat.le_of_not_lt hlt)]
  · intro y hy
    rcases List.mem_append.1 hy with hy | hy
    · exact h1.xlt y hy
    · exact h2.xlt y hy

theorem toV_spec (hh : HRel ρ B hp nx w) (hB : Old B w) {s : SV} {v : V} {a : List Lf} {x : List C} (h : toV hp s v = some (a, x)) (hv : V.lt nx v) (n : Nat) (ρ1 : Env) (rest : List Lf) :
    ∃ b ρ2, bldV s n (a ++ rest) = some b ∧ BVOK ρ w nx n ρ1 ρ2 rest [v] x b := by
  unfold toV at h
  split at h
  · rename_i s c
    obtain ⟨b, ρ2, e, q⟩ := toC_spec hh hB 8 s c a x h hv n ρ1 rest
    have hlen : b.cs.length = 1 := by have := congrArg List.length q.val; simpa using this
    obtain ⟨c', hc'⟩ : ∃ c', b.cs = [c'] := by
      match hb : b.cs, hlen with
      | [c'], _ => exact ⟨c', rfl⟩
    have hval := q.val
    have hlt := q.lt
    rw [hc'] at hval hlt
    refine ⟨⟨[.w (.c (headC b.cs))], b.hp, b.n, b.ls⟩, ρ2, by simp only [bldV, e, Option.map_some], q.ls, q.nn, q.agree, ?_, ?_, q.heap, q.own, q.xlt⟩
    · simp only [hc', headC, List.map_cons, List.map_nil, V.val, W.val]
      simpa using hval
    · intro y hy
      simp only [List.mem_singleton] at hy
      subst hy
      rw [hc']
      exact hlt c' List.mem_cons_self
  · rename_i l cs
    obtain ⟨b, ρ2, e, q⟩ := bldL_spec (f := toC hp 8) (g := bldC 8) (fun s c a x h hc => toC_spec hh hB 8 s c a x h hc) l cs a x h hv n ρ1 rest
    refine ⟨⟨[.w (.a b.cs)], b.hp, b.n, b.ls⟩, ρ2, by simp only [bldV, e, Option.map_some], q.ls, q.nn, q.agree, ?_, ?_, q.heap, q.own, q.xlt⟩
    · simp only [List.map_cons, List.map_nil, V.val, W.val, q.val]
    · intro y hy
      simp only [List.mem_singleton] at hy
      subst hy
      exact q.lt
  · rename_i k e k' e' r
    split at h
    · rename_i hk he
      have hk := sameK_eq hk
      have he := Nat.eq_of_beq_eq_true he
      subst hk
      subst he
      cases h
      refine ⟨_, ρ1, rfl, rfl, rfl, Agree.refl _ _, rfl, ?_, (fun _ _ h => by cases h), (fun _ h => by cases h), fun _ h => by cases h⟩
      intro y hy
      simp only [List.mem_singleton] at hy
      subst hy
      trivial
    · cases h
  · rename_i k e cs
    split at h
    · rename_i r hr
      split at h
      · rename_i he
        have he := Nat.eq_of_beq_eq_true he
        subst he
        cases h
        refine ⟨_, ρ1, rfl, rfl, rfl, Agree.refl _ _, ?_, ?_, (fun _ _ h => by cases h), (fun _ h => by cases h), fun _ h => by cases h⟩
        · simp only [List.map_cons, List.map_nil, V.val, W.val, frD_val, fltCells_val hr]
        · intro y hy
          simp only [List.mem_singleton] at hy
          subst hy
          trivial
      · cases h
    · cases h
  · cases h

theorem toVs_spec (hh : HRel ρ B hp nx w) (hB : Old B w) : ∀ (l : List SV) (vs : List V) (a : List Lf) (x : List C), toVs hp l vs = some (a, x) → (∀ v ∈ vs, V.lt nx v) → ∀ (n : Nat) (ρ1 : Env) (rest : List Lf),
    ∃ b ρ2, bldVs l n (a ++ rest) = some b ∧ BVOK ρ w nx n ρ1 ρ2 rest vs x b
  | [], [], a, x, h, _, n, ρ1, rest => by
    simp only [toVs, Option.some.injEq, Prod.mk.injEq] at h
    obtain ⟨rfl, rfl⟩ := h
    exact ⟨_, ρ1, rfl, rfl, rfl, Agree.refl _ _, rfl, (fun _ h => by cases h), (fun _ _ h => by cases h), (fun _ h => by cases h), fun _ h => by cases h⟩
  | s :: l, v :: vs, a, x, h, hlt, n, ρ1, rest => by
    simp only [toVs] at h
    split at h
    · rename_i a1 x1 a2 x2 h1 h2
      cases h
      obtain ⟨b1, ρ2, e1, k1⟩ := toV_spec hh hB h1 (hlt v List.mem_cons_self) n ρ1 (a2 ++ rest)
      obtain ⟨b2, ρ3, e2, k2⟩ := toVs_spec hh hB l vs a2 x2 h2 (fun c hc => hlt c (List.mem_cons_of_mem _ hc)) b1.n ρ2 rest
      refine ⟨_, ρ3, ?_, k1.append k2⟩
      rw [List.append_assoc]
      simp only [bldVs, e1, k1.ls, e2]
    · cases h
  | [], _ :: _, _, _, h, _, _, _, _ => by simp [toVs] at h
  | _ :: _, [], _, _, h, _, _, _, _ => by simp [toVs] at h

/-! ### what is returned -/

theorem find_cons {k h : Nat} {o : O} {hp : Hp} : find ((k, o) :: hp) h = if k = h then some o else find hp h := rfl

/-- The caller's facts while the results come in. -/
structure CIn (ρ ρ' : Env) (B : Bd) (hp hp' : Hp) (n m n0 : Nat) (am : List C) (w' : World) (us : List Nat) : Prop where
  heap : HRel ρ B hp n w'
  ap : ∀ k o b, find hp k = some o → o.blk (ρ k) = some b → b < m ∨ ∃ u ∈ us, ∃ ou, find hp' u = some ou ∧ ou.blk (ρ' u) = some b
  am : ∀ i, i < n0 → C.lt n (am.getD i (.d (.v undef))) ∧ (am.getD i (.d (.v undef))).val ρ = ρ' i

/-- What has come in. -/
structure COut (ρ ρ2 ρ' : Env) (B : Bd) (hp hp' : Hp) (n m : Nat) (w' : World) (us us2 : List Nat) (vals : List Value) (r : Rt) : Prop where
  agree : Agree n ρ ρ2
  heap : HRel ρ2 B (r.hp ++ hp) r.n w'
  le : n ≤ r.n
  val : r.cs.map (C.val ρ2) = vals
  lt : ∀ c ∈ r.cs, C.lt r.n c
  ap : ∀ k o b, find (r.hp ++ hp) k = some o → o.blk (ρ2 k) = some b → b < m ∨ ∃ u ∈ us2, ∃ ou, find hp' u = some ou ∧ ou.blk (ρ' u) = some b
  fresh : ∀ h o b, find r.hp h = some o → o.blk (ρ2 h) = some b → m ≤ b
  keys : ∀ h o, find r.hp h = some o → n ≤ h
  sub : ∀ u ∈ us, u ∈ us2

variable {ρ' : Env} {hp' : Hp} {m n0 : Nat} {am : List C}

theorem CIn.next {ρ2 : Env} {n : Nat} {us us2 : List Nat} {vals : List Value} {r : Rt} (h : CIn ρ ρ' B hp hp' n m n0 am w' us) (k : COut ρ ρ2 ρ' B hp hp' n m w' us us2 vals r) : CIn ρ2 ρ' B (r.hp ++ hp) hp' r.n m n0 am w' us2 :=
  ⟨k.heap, k.ap, fun i hi => ⟨C.lt_mono k.le (h.am i hi).1, by rw [C.val_agree k.agree (h.am i hi).1]; exact (h.am i hi).2⟩⟩

theorem COut.append {ρ2 ρ3 : Env} {n : Nat} {us us2 us3 : List Nat} {v1 v2 : List Value} {r1 r2 : Rt} (h : COut ρ ρ2 ρ' B hp hp' n m w' us us2 v1 r1) (k : COut ρ2 ρ3 ρ' B (r1.hp ++ hp) hp' r1.n m w' us2 us3 v2 r2) :
    COut ρ ρ3 ρ' B hp hp' n m w' us us3 (v1 ++ v2) ⟨r1.cs ++ r2.cs, r2.hp ++ r1.hp, r2.n⟩ := by
  refine ⟨h.agree.trans k.agree h.le, by rw [List.append_assoc]; exact k.heap, Nat.le_trans h.le k.le, ?_, ?_, ?_, ?_, ?_, fun u hu => k.sub u (h.sub u hu)⟩
  · simp only [List.map_append, k.val]
    congr 1
    rw [← h.val]
    exact List.map_congr_left fun c hc => C.val_agree k.agree (h.lt c hc)
  · intro c hc
    rcases List.mem_append.1 hc with hc | hc
    · exact C.lt_mono k.le (h.lt c hc)
    · exact k.lt c hc
  · intro q o b hf hb
    have hf : find (r2.hp ++ r1.hp ++ hp) q = some o := hf
    rw [List.append_assoc] at hf
    exact k.ap q o b hf hb
  · intro q o b hf hb
    have hf : find (r2.hp ++ r1.hp) q = some o := hf
    rw [find_append] at hf
    cases hg : find r2.hp q with
    | some o2 => rw [hg] at hf; cases hf; exact k.fresh q o b hg hb
    | none =>
      rw [hg] at hf
      have hf : find r1.hp q = some o := hf
      have hq : q < r1.n := by
        have : find (r1.hp ++ hp) q = some o := by rw [find_append, hf]; rfl
        exact (h.heap.ok q o this).1
      rw [k.agree q hq] at hb
      exact h.fresh q o b hf hb
  · intro q o hf
    have hf : find (r2.hp ++ r1.hp) q = some o := hf
    rw [find_append] at hf
    cases hg : find r2.hp q with
    | some o2 => rw [hg] at hf; cases hf; exact Nat.le_trans h.le (k.keys q o hg)
    | none => rw [hg] at hf; exact h.keys q o hf

theorem COut.data {n : Nat} {us : List Nat} {c : C} {v : Value} (h : CIn ρ ρ' B hp hp' n m n0 am w' us) (hc : C.lt n c) (hv : c.val ρ = v) : COut ρ ρ ρ' B hp hp' n m w' us us [v] ⟨[c], [], n⟩ := by
  refine ⟨Agree.refl _ _, h.heap, Nat.le_refl _, by simp [hv], ?_, h.ap, (fun _ _ _ h => by cases h), (fun _ _ h => by cases h), fun u hu => hu⟩
  intro y hy
  simp only [List.mem_singleton] at hy
  subst hy
  exact hc

/-- An object comes in that the callee has made. -/
theorem COut.obj {n q : Nat} {us : List Nat} {o oq : O} {c : C} {v : Value} (hB : ∀ k, B k → k < m) (hh' : HRel ρ' (fun k => k < m) hp' nx w') (h : CIn ρ ρ' B hp hp' n m n0 am w' us)
    (hq : find hp' q = some oq) (hus : us.contains q = false) (hl : o.lt (n + 1)) (ho : (∀ k, o.blk (ρ' q) = some k → ¬ B k) → o.ok (upd ρ n (ρ' q)) B w' n) (hb : ∀ k, o.blk (ρ' q) = some k → oq.blk (ρ' q) = some k)
    (hc : C.lt (n + 1) c) (hcv : c.val (upd ρ n (ρ' q)) = v) : COut ρ (upd ρ n (ρ' q)) ρ' B hp hp' n m w' us (q :: us) [v] ⟨[c], [(n, o)], n + 1⟩ := by
  have hge : ∀ k, o.blk (ρ' q) = some k → m ≤ k := fun k hk => by
    have := (O.blk_lt (hh'.ok q oq hq).2.2 (hb k hk)).2
    omega
  have hnB : ∀ k, o.blk (ρ' q) = some k → ¬ B k := fun k hk hBk => by
    have := hge k hk
    have := hB k hBk
    omega
  refine ⟨upd_agree _ _ _, ?_, Nat.le_succ n, by simp [hcv], ?_, ?_, ?_, ?_, fun u hu => List.mem_cons_of_mem _ hu⟩
  · refine h.heap.add1 hl (ho hnB) fun k o' b hk hbk he => ?_
    rcases h.ap k o' b hk hbk with hlt | ⟨u, hu, ou, hou, hbu⟩
    · have := hge b he
      omega
    · have hne : u ≠ q := fun e => by
        subst e
        have : us.contains u = true := by simpa using hu
        rw [this] at hus
        cases hus
      exact hh'.apart u ou q oq b hou hq hne hbu (hb b he)
  · intro y hy
    simp only [List.mem_singleton] at hy
    subst hy
    exact hc
  · intro k o' b hf hbk
    have hf2 : find ((n, o) :: hp) k = some o' := hf
    clear hf
    have hf := hf2
    clear hf2
    rw [find_cons] at hf
    split at hf
    · rename_i e
      subst e
      cases hf
      rw [upd_same] at hbk
      exact .inr ⟨q, List.mem_cons_self, oq, hq, hb b hbk⟩
    · have hk := (h.heap.ok k o' hf).1
      rw [upd_agree ρ n (ρ' q) k hk] at hbk
      rcases h.ap k o' b hf hbk with hlt | ⟨u, hu, ou, hou, hbu⟩
      · exact .inl hlt
      · exact .inr ⟨u, List.mem_cons_of_mem _ hu, ou, hou, hbu⟩
  · intro k o' b hf hbk
    simp only [find] at hf
    split at hf
    · rename_i e
      subst e
      cases hf
      rw [upd_same] at hbk
      exact hge b hbk
    · cases hf
  · intro k o' hf
    simp only [find] at hf
    split at hf
    · rename_i e; omega
    · cases hf

def FitOK (ρ' : Env) (B : Bd) (hp' : Hp) (m n0 : Nat) (am : List C) (w' : World) (f : RC → C → List Nat → (List Nat → Prop) → Prop) (g : RC → Nat → Rt) : Prop :=
  ∀ (r : RC) (c : C) (us : List Nat) (k : List Nat → Prop), f r c us k → ∀ (n : Nat) (hp : Hp) (ρ : Env), CIn ρ ρ' B hp hp' n m n0 am w' us →
    ∃ us2 ρ2, k us2 ∧ COut ρ ρ2 ρ' B hp hp' n m w' us us2 [c.val ρ'] (g r n)

theorem fitL_spec {f : RC → C → List Nat → (List Nat → Prop) → Prop} {g : RC → Nat → Rt} (hf : FitOK ρ' B hp' m n0 am w' f g) : ∀ (l : List RC) (cs : List C) (us : List Nat) (k : List Nat → Prop), fitL f l cs us k → ∀ (n : Nat) (hp : Hp) (ρ : Env), CIn ρ ρ' B hp hp' n m n0 am w' us →
    ∃ us2 ρ2, k us2 ∧ COut ρ ρ2 ρ' B hp hp' n m w' us us2 (cs.map (C.val ρ')) (rvL g l n)
  | [], [], us, k, h, n, hp, ρ, hin => ⟨us, ρ, h, Agree.refl _ _, hin.heap, Nat.le_refl _, rfl, (fun _ h => by cases h), hin.ap, (fun _ _ _ h => by cases h), (fun _ _ h => by cases h), fun u hu => hu⟩
  | r :: l, c :: cs, us, k, h, n, hp, ρ, hin => by
    obtain ⟨us2, ρ2, h2, k2⟩ := hf r c us _ h n hp ρ hin
    obtain ⟨us3, ρ3, h3, k3⟩ := fitL_spec hf l cs us2 k h2 (g r n).n _ ρ2 (hin.next k2)
    exact ⟨us3, ρ3, h3, k2.append k3⟩
  | [], _ :: _, _, _, h, _, _, _, _ => h.elim
  | _ :: _, [], _, _, h, _, _, _, _ => h.elim

theorem fitC_spec (hB : ∀ k, B k → k < m) (hh' : HRel ρ' (fun k => k < m) hp' nx w') : ∀ (q : Nat), FitOK ρ' B hp' m n0 am w' (fitC n0 hp' q) (rvC am q)
  | 0 => fun _ _ _ _ h => h.elim
  | q + 1 => by
    intro r c us k h n hp ρ hin
    unfold fitC at h
    split at h
    · rename_i x y
      have e := mD_spec h.1
      subst e
      exact ⟨us, ρ, h.2, COut.data hin trivial rfl⟩
    · rename_i i h0
      split at h
      · rename_i e1 e2
        have e1 := Nat.eq_of_beq_eq_true e1
        subst e1
        have hi : i < n0 := by simpa [Nat.blt_eq] using e2
        exact ⟨us, ρ, h, COut.data hin (hin.am i hi).1 (hin.am i hi).2⟩
      · exact h.elim
    · rename_i ty c0 h0
      split at h
      · exact h.elim
      · rename_i hus
        split at h
        · rename_i ty' c' hf
          split at h
          · rename_i hty
            have hty := Nat.eq_of_beq_eq_true hty
            subst hty
            have hc := mCont_spec h.1
            subst hc
            refine ⟨_, _, h.2, COut.obj (q := h0) (o := .row ty' c0) hB hh' hin hf hus trivial (fun hnB => ?_) (fun k hk => hk) (show C.lt (n + 1) (.o n) from Nat.lt_succ_self n) (by simp [C.val])⟩
            have hok := (hh'.ok h0 _ hf).2.2
            exact ⟨by rw [upd_same]; exact hok.1, fun k hk => by rw [upd_same] at hk; exact hnB k hk⟩
          · exact h.elim
        · exact h.elim
    · rename_i ty c0
      obtain ⟨⟨hn0⟩, hk⟩ := h
      refine ⟨us, upd ρ n (.slice none 0 0), hk, ?_⟩
      refine ⟨upd_agree _ _ _, ?_, Nat.le_succ n, by simp [C.val, D.val, rvC], ?_, ?_, ?_, ?_, fun u hu => hu⟩
      · refine hin.heap.add1 (o := .row ty c0) trivial ?_ (fun _ _ _ _ _ he => by simp [O.blk, Value.ownBlock] at he)
        refine ⟨⟨by simp [Cont.flat_length, hn0], .inl ⟨by rw [upd_same], hn0⟩⟩, fun k hk => by rw [upd_same] at hk; simp [Value.ownBlock] at hk⟩
      · intro y hy
        simp only [rvC, List.mem_singleton] at hy
        subst hy
        exact Nat.lt_succ_self n
      · intro k' o' b hf hbk
        have hf2 : find ((n, O.row ty c0) :: hp) k' = some o' := hf
        clear hf
        have hf := hf2
        clear hf2
        rw [find_cons] at hf
        split at hf
        · rename_i e
          subst e
          cases hf
          rw [upd_same] at hbk
          simp [O.blk, Value.ownBlock] at hbk
        · have hk' := (hin.heap.ok k' o' hf).1
          rw [upd_agree ρ n _ k' hk'] at hbk
          exact hin.ap k' o' b hf hbk
      · intro k' o' b hf hbk
        simp only [rvC, find] at hf
        split at hf
        · rename_i e
          subst e
          cases hf
          rw [upd_same] at hbk
          simp [O.blk, Value.ownBlock] at hbk
        · cases hf
      · intro k' o' hf
        simp only [rvC, find] at hf
        split at hf
        · omega
        · cases hf
    · rename_i c0 h0
      split at h
      · exact h.elim
      · rename_i hus
        split at h
        · rename_i c' hf
          have hc := mCont_spec h.1
          subst hc
          refine ⟨_, _, h.2, COut.obj (q := h0) (o := .rrow c0) hB hh' hin hf hus trivial (fun hnB => ?_) (fun k hk => hk) (show C.lt (n + 1) (.o n) from Nat.lt_succ_self n) (by simp [C.val])⟩
          have hok := (hh'.ok h0 _ hf).2.2
          exact ⟨by rw [upd_same]; exact hok.1, fun k hk => by rw [upd_same] at hk; exact ⟨hnB k hk, (hok.2 k hk).2⟩⟩
        · exact h.elim
    · rename_i c0
      obtain ⟨⟨hn0⟩, hk⟩ := h
      refine ⟨us, upd ρ n (.slice none 0 0), hk, ?_⟩
      refine ⟨upd_agree _ _ _, ?_, Nat.le_succ n, by simp [C.val, D.val, rvC], ?_, ?_, ?_, ?_, fun u hu => hu⟩
      · refine hin.heap.add1 (o := .rrow c0) trivial ?_ (fun _ _ _ _ _ he => by simp [O.blk, Value.ownBlock] at he)
        refine ⟨⟨none, 0, by rw [upd_same, hn0], ⟨by omega, fun _ => rfl⟩, fun h => by omega⟩, fun k hk => by rw [upd_same] at hk; simp [Value.ownBlock] at hk⟩
      · intro y hy
        simp only [rvC, List.mem_singleton] at hy
        subst hy
        exact Nat.lt_succ_self n
      · intro k' o' b hf hbk
        have hf2 : find ((n, O.rrow c0) :: hp) k' = some o' := hf
        clear hf
        have hf := hf2
        clear hf2
        rw [find_cons] at hf
        split at hf
        · rename_i e
          subst e
          cases hf
          rw [upd_same] at hbk
          simp [O.blk, Value.ownBlock] at hbk
        · have hk' := (hin.heap.ok k' o' hf).1
          rw [upd_agree ρ n _ k' hk'] at hbk
          exact hin.ap k' o' b hf hbk
      · intro k' o' b hf hbk
        simp only [rvC, find] at hf
        split at hf
        · rename_i e
          subst e
          cases hf
          rw [upd_same] at hbk
          simp [O.blk, Value.ownBlock] at hbk
        · cases hf
      · intro k' o' hf
        simp only [rvC, find] at hf
        split at hf
        · omega
        · cases hf
    · rename_i ty l h0 e0
      split at h
      · rename_i ty' cs hf
        split at h
        · rename_i hty
          have hty := Nat.eq_of_beq_eq_true hty
          subst hty
          obtain ⟨us2, ρ2, h2, k2⟩ := fitL_spec (fitC_spec hB hh' q) l cs us _ h n hp ρ hin
          have hin2 := hin.next k2
          split at h2
          · exact h2.elim
          · rename_i hus
            have hok := (hh'.ok h0 _ hf).2.2
            obtain ⟨g, h3, h4, h5⟩ := hok
            have hobj := COut.obj (q := h0) (o := .box ty' (rvL (rvC am q) l n).cs) (c := .p (rvL (rvC am q) l n).n 0 1 0) (v := ρ' h0) hB hh' hin2 hf hus (fun y hy => C.lt_mono (Nat.le_succ _) (k2.lt y hy)) (fun hnB => ?_) (fun k hk => hk)
              (show C.lt ((rvL (rvC am q) l n).n + 1) (.p (rvL (rvC am q) l n).n 0 1 0) from Nat.lt_succ_self _) (by simp [C.val, h3, base])
            · refine ⟨h0 :: us2, upd ρ2 (rvL (rvC am q) l n).n (ρ' h0), h2, ?_⟩
              have hap := k2.append hobj
              refine ⟨hap.agree, hap.heap, hap.le, ?_, ?_, hap.ap, hap.fresh, hap.keys, hap.sub⟩
              · have hv := hobj.val
                simp only [List.map_cons, List.map_nil] at hv
                simp only [rvC, List.map_cons, List.map_nil]
                rw [hv]
                simp [C.val, h3, base]
              · intro y hy
                simp only [rvC, List.mem_singleton] at hy
                subst hy
                exact Nat.lt_succ_self _
            · refine ⟨g, by rw [upd_same]; exact h3, ?_, ?_⟩
              · exact hnB g (by simp [O.blk, h3, base])
              · rw [h5]
                congr 3
                have hv := k2.val
                rw [← hv]
                exact List.map_congr_left fun y hy => (C.val_agree (upd_agree ρ2 _ _) (k2.lt y hy)).symm
        · exact h.elim
      · exact h.elim
    · exact h.elim

structure WOut (ρ ρ2 ρ' : Env) (B : Bd) (hp hp' : Hp) (n m : Nat) (w' : World) (us us2 : List Nat) (vals : List Value) (r : Rw) : Prop where
  agree : Agree n ρ ρ2
  heap : HRel ρ2 B (r.hp ++ hp) r.n w'
  le : n ≤ r.n
  val : r.ws.map (W.val ρ2) = vals
  lt : ∀ c ∈ r.ws, W.lt r.n c
  ap : ∀ k o b, find (r.hp ++ hp) k = some o → o.blk (ρ2 k) = some b → b < m ∨ ∃ u ∈ us2, ∃ ou, find hp' u = some ou ∧ ou.blk (ρ' u) = some b
  fresh : ∀ h o b, find r.hp h = some o → o.blk (ρ2 h) = some b → m ≤ b
  keys : ∀ h o, find r.hp h = some o → n ≤ h

theorem fitR_spec (hB : ∀ k, B k → k < m) (hh' : HRel ρ' (fun k => k < m) hp' nx w') {r : RR} {x : W} {us : List Nat} {k : List Nat → Prop} (h : fitR n0 hp' r x us k) {n : Nat} {hp : Hp} {ρ : Env} (hin : CIn ρ ρ' B hp hp' n m n0 am w' us) :
    ∃ us2 ρ2, k us2 ∧ WOut ρ ρ2 ρ' B hp hp' n m w' us us2 [x.val ρ'] (rvR am r n) := by
  unfold fitR at h
  split at h
  · rename_i rc c
    obtain ⟨us2, ρ2, h2, k2⟩ := fitC_spec hB hh' 8 rc c us k h n hp ρ hin
    have hlen : (rvC am 8 rc n).cs.length = 1 := by have := congrArg List.length k2.val; simpa using this
    obtain ⟨c', hc'⟩ : ∃ c', (rvC am 8 rc n).cs = [c'] := by
      match hb : (rvC am 8 rc n).cs, hlen with
      | [c'], _ => exact ⟨c', rfl⟩
    have hval := k2.val
    have hlt := k2.lt
    rw [hc'] at hval hlt
    refine ⟨us2, ρ2, h2, k2.agree, k2.heap, k2.le, ?_, ?_, k2.ap, k2.fresh, k2.keys⟩
    · simp only [rvR, hc', headC, List.map_cons, List.map_nil, W.val]
      simpa using hval
    · intro y hy
      simp only [rvR, List.mem_singleton] at hy
      subst hy
      rw [hc']
      exact hlt c' List.mem_cons_self
  · rename_i l cs
    obtain ⟨us2, ρ2, h2, k2⟩ := fitL_spec (fitC_spec hB hh' 8) l cs us k h n hp ρ hin
    refine ⟨us2, ρ2, h2, k2.agree, k2.heap, k2.le, ?_, ?_, k2.ap, k2.fresh, k2.keys⟩
    · simp only [rvR, List.map_cons, List.map_nil, W.val, k2.val]
    · intro y hy
      simp only [rvR, List.mem_singleton] at hy
      subst hy
      exact k2.lt
  · rename_i q e r' q' e' r''
    split at h
    · rename_i hk he
      have hk := sameK_eq hk
      have he := Nat.eq_of_beq_eq_true he
      subst hk
      subst he
      obtain ⟨⟨rfl⟩, hk⟩ := h
      refine ⟨us, ρ, hk, Agree.refl _ _, hin.heap, Nat.le_refl _, rfl, ?_, hin.ap, (fun _ _ _ h => by cases h), fun _ _ h => by cases h⟩
      intro y hy
      simp only [rvR, List.mem_singleton] at hy
      subst hy
      trivial
    · exact h.elim
  · exact h.elim

theorem fitRs_spec (hB : ∀ k, B k → k < m) (hh' : HRel ρ' (fun k => k < m) hp' nx w') : ∀ (l : List RR) (ws : List W) (us : List Nat), fitRs n0 hp' l ws us → ∀ (n : Nat) (hp : Hp) (ρ : Env), CIn ρ ρ' B hp hp' n m n0 am w' us →
    ∃ us2 ρ2, WOut ρ ρ2 ρ' B hp hp' n m w' us us2 (ws.map (W.val ρ')) (rvRs am l n)
  | [], [], us, h, n, hp, ρ, hin => ⟨us, ρ, Agree.refl _ _, hin.heap, Nat.le_refl _, rfl, (fun _ h => by cases h), hin.ap, (fun _ _ _ h => by cases h), fun _ _ h => by cases h⟩
  | r :: l, x :: ws, us, h, n, hp, ρ, hin => by
    obtain ⟨us2, ρ2, h2, k2⟩ := fitR_spec hB hh' h hin
    have hin2 : CIn ρ2 ρ' B ((rvR am r n).hp ++ hp) hp' (rvR am r n).n m n0 am w' us2 := ⟨k2.heap, k2.ap, fun i hi => ⟨C.lt_mono k2.le (hin.am i hi).1, by rw [C.val_agree k2.agree (hin.am i hi).1]; exact (hin.am i hi).2⟩⟩
    obtain ⟨us3, ρ3, k3⟩ := fitRs_spec hB hh' l ws us2 h2 (rvR am r n).n _ ρ2 hin2
    refine ⟨us3, ρ3, k2.agree.trans k3.agree k2.le, by simp only [rvRs]; rw [List.append_assoc]; exact k3.heap, Nat.le_trans k2.le k3.le, ?_, ?_, ?_, ?_, ?_⟩
    · simp only [rvRs, List.map_append, k3.val, List.map_cons]
      have : (rvR am r n).ws.map (W.val ρ3) = [x.val ρ'] := by
        rw [← k2.val]
        exact List.map_congr_left fun c hc => W.val_agree k3.agree (k2.lt c hc)
      rw [this]
      rfl
    · intro c hc
      simp only [rvRs] at hc
      rcases List.mem_append.1 hc with hc | hc
      · exact W.lt_mono k3.le (k2.lt c hc)
      · exact k3.lt c hc
    · intro q o b hf hb
      simp only [rvRs] at hf
      rw [List.append_assoc] at hf
      exact k3.ap q o b hf hb
    · intro q o b hf hb
      simp only [rvRs] at hf
      rw [find_append] at hf
      cases hg : find (rvRs am l (rvR am r n).n).hp q with
      | some o2 => rw [hg] at hf; cases hf; exact k3.fresh q o b hg hb
      | none =>
        rw [hg] at hf
        have hf : find (rvR am r n).hp q = some o := hf
        have hq : q < (rvR am r n).n := by
          have : find ((rvR am r n).hp ++ hp) q = some o := by rw [find_append, hf]; rfl
          exact (k2.heap.ok q o this).1
        rw [k3.agree q hq] at hb
        exact k2.fresh q o b hf hb
    · intro q o hf
      simp only [rvRs] at hf
      rw [find_append] at hf
      cases hg : find (rvRs am l (rvR am r n).n).hp q with
      | some o2 => rw [hg] at hf; cases hf; exact Nat.le_trans k2.le (k3.keys q o hg)
      | none => rw [hg] at hf; exact k2.keys q o hf
  | [], _ :: _, _, h, _, _, _, _ => h.elim
  | _ :: _, [], _, h, _, _, _, _ => h.elim

theorem toRT_sel {am : List C} {hp : Hp} {nx : Nat} : ∀ t : GT, (t.toRT am hp nx).sel = ⟨t.sel.1, tupV (rvRs am t.sel.2 nx).ws, (rvRs am t.sel.2 nx).hp ++ hp, (rvRs am t.sel.2 nx).n⟩
  | .leaf ob rs => rfl
  | .br b x y => by
    cases b
    · exact toRT_sel y
    · exact toRT_sel x

/-- **A contract with shapes, by the executor.** -/
theorem pureT_ok {f : Nat} {fn : Func} {body : Code} {shs : List SV} {g : List Lf → Option GT} (hm : P.follows .mixedOrders = true) (hsp : SpecsOK P sp) (hf : P.funcs[f]? = some fn) (hb : fn.body = some body) (hn : (fn.name == "runtime.NumGoroutine") = false)
    (h : ∀ ls t, g ls = some t → t.sel.1 → ∀ b : Bv, bldVs shs 0 ls = some b → b.vs.length ≤ fn.ntmps ∧ ∃ fuel loops, sx P sp fn.ntmps b.n fuel loops (drawX P sp fn.ntmps) body 0 [] ⟨argsTm 0 b.vs, b.hp, b.n⟩ (retX P fn.results.toList fun v hp _ => fitV b.n t.sel.2 v hp)) :
    SpecOK P f true (pureT shs g) := by
  refine .inl ⟨enter_ok hf hb hn, fun ρ B w args hp nx t hS hob hlt hh hB => ?_⟩
  unfold pureT at hS
  split at hS
  · rename_i ls am hto
    split at hS
    · rename_i t' hg
      cases hS
      rw [toRT_sel] at hob ⊢
      have hob : t'.sel.1 := hob
      obtain ⟨b, ρ0, hbl, q⟩ := toVs_spec hh hB shs args ls am hto hlt 0 (fun _ => undef) []
      rw [List.append_nil] at hbl
      obtain ⟨hlen, fuel, loops, hx⟩ := h ls t' hg hob b hbl
      have hbn : b.n = am.length := by have := q.nn; omega
      have hh0 : HRel ρ0 (fun k => k < w.heap.size) b.hp b.n w := by
        refine ⟨fun x o hf => ?_, fun x o x' o' k hf hf' _ hb => ?_, glob_all hh.glob hB⟩
        · obtain ⟨_, a2, a3, a4, _⟩ := q.heap x o hf
          exact ⟨a2, a3, a4⟩
        · obtain ⟨_, _, _, _, a5⟩ := q.heap x o hf
          rw [a5] at hb
          cases hb
      have hcalls := fn_sound (n0 := b.n) (B := fun k => k < w.heap.size) hsp (fun ρ w => drawn_ok hm hsp) hf hb hlen hx q.lt (Nat.le_refl _) ρ0 w hh0 (fun k hk => hk)
      rw [q.val] at hcalls
      refine hcalls.mono ?_
      rintro e w' ⟨ρ', v, hp', nx', rfl, hvlt, hag, hh', hbel, _, hfit⟩
      have hbw : Below w.heap.size w w' := hbel.below
      have hh1 := hh.below hbw hB
      obtain ⟨ws, hws, hfw⟩ : ∃ ws, (tupV ws).val ρ' = v.val ρ' ∧ fitRs b.n hp' t'.sel.2 ws [] := by
        match v, hfit with
        | .w u, hfit => exact ⟨[u], rfl, hfit⟩
        | .t [], hfit => exact ⟨[], rfl, hfit⟩
        | .t (x :: y :: l), hfit => exact ⟨x :: y :: l, rfl, hfit⟩
      have hin : CIn ρ ρ' B hp hp' nx w.heap.size b.n am w' [] := by
        refine ⟨hh1, fun k o b hk hbk => .inl (O.blk_lt (hh.ok k o hk).2.2 hbk).1, fun i hi => ?_⟩
        have hi2 : i < am.length := by omega
        have h1 := q.own i hi2
        rw [Nat.zero_add] at h1
        refine ⟨?_, by rw [hag i hi]; exact h1.symm⟩
        have : am.getD i (.d (.v undef)) = am[i] := by simp [List.getD, hi2]
        rw [this]
        exact q.xlt _ (List.getElem_mem hi2)
      obtain ⟨us2, ρ2, k⟩ := fitRs_spec (m := w.heap.size) (fun k hk => hB k hk) hh' t'.sel.2 ws [] hfw nx hp ρ hin
      refine ⟨ρ2, ?_, k.agree, tupV_lt k.lt, k.le, k.heap, bel_of hbw hB, fun _ => hbw, fun _ h o b hle hf hbk => ?_⟩
      · show Ending.returned _ = Ending.returned ((tupV (rvRs am t'.sel.2 nx).ws).val ρ2)
        rw [← hws, tupV_val, tupV_val]
        simp only [k.val]
      · have hf : find ((rvRs am t'.sel.2 nx).hp ++ hp) h = some o := hf
        rw [find_append] at hf
        cases hg2 : find (rvRs am t'.sel.2 nx).hp h with
        | some o2 => rw [hg2] at hf; cases hf; exact k.fresh h o b hg2 hbk
        | none =>
          rw [hg2] at hf
          have := (hh.ok h o hf).1
          omega
    · cases hS
  · cases hS
end

end Go.Sx
