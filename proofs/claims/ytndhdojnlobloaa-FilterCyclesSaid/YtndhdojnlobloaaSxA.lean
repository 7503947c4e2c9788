/- A symbolic executor for the model's code: its values, its heap, what they stand for. -/
import Derived.WalkKit
import Derived.Laws.StructEq
set_option linter.unusedSectionVars false
set_option linter.unusedSimpArgs false
set_option linter.unusedVariables false
open Go.RowKit
namespace Go.Sx

/-- The content of one cell, without addresses. -/
inductive D where
  | i (k : IntKind) (n : Int)
  | b (x : Bool)
  | f (k : FloatKind) (n : Nat)
  | s (x : ByteArray)
  | v (x : Value)

def D.val : D → Value
  | .i k n => .int k n
  | .b x => .bool x
  | .f k n => .float k n
  | .s x => .string x
  | .v x => x

def D.one : D → Bool
  | .v x => x.oneCell'
  | _ => true

theorem D.one_val {x : D} (h : x.one = true) : x.val.oneCell' = true := by
  cases x <;> first | rfl | exact h

/-- What a slice, or an array, holds. -/
inductive Cont where
  | ints (k : IntKind) (l : List Int)
  | recs (e : Nat) (l : List (List Int))
  | floats (k : FloatKind) (l : List Nat)
  | strs (l : List ByteArray)
  | bools (l : List Bool)
  | lits (e : Nat) (l : List (List D))
  | frs (k : FloatKind) (e : Nat) (l : List (List Nat))

/-- e whole numbers of a list. -/
def recD (e : Nat) (r : List Int) : List D := (List.range e).map fun j => D.i .i64 (r.getD j 0)
def litD (e : Nat) (r : List D) : List D := (List.range e).map fun j => r.getD j (.v undef)

/-- e floats of a list. -/
def frD (k : FloatKind) (e : Nat) (r : List Nat) : List D := (List.range e).map fun j => D.f k (r.getD j 0)

def Cont.n : Cont → Nat
  | .ints _ l => l.length
  | .recs _ l => l.length
  | .floats _ l => l.length
  | .strs l => l.length
  | .bools l => l.length
  | .lits _ l => l.length
  | .frs _ _ l => l.length
def Cont.e : Cont → Nat
  | .recs e _ => e
  | .lits e _ => e
  | .frs _ e _ => e
  | _ => 1
def Cont.flat : Cont → List D
  | .ints k l => l.flatMap fun x => [D.i k x]
  | .recs e l => l.flatMap (recD e)
  | .floats k l => l.flatMap fun x => [D.f k x]
  | .strs l => l.flatMap fun x => [D.s x]
  | .bools l => l.flatMap fun x => [D.b x]
  | .lits e l => l.flatMap (litD e)
  | .frs k e l => l.flatMap (frD k e)
def Cont.cell : Cont → Nat → Nat → D
  | .ints k l, i, _ => .i k (l.getD i 0)
  | .recs _ l, i, j => .i .i64 ((l.getD i []).getD j 0)
  | .floats k l, i, _ => .f k (l.getD i 0)
  | .strs l, i, _ => .s (l.getD i ByteArray.empty)
  | .bools l, i, _ => .b (l.getD i false)
  | .lits _ l, i, j => (l.getD i []).getD j (.v undef)
  | .frs k _ l, i, j => .f k ((l.getD i []).getD j 0)

/-- One cell: data; a pointer to cell j of element i (of e cells each) of object h; the object's own value; a closure; a pointer into a variable of the program; a method bound to its first arguments. -/
inductive C where
  | d (x : D)
  | p (h i e j : Nat)
  | o (h : Nat)
  | fn (f : Nat) (hs : List Nat)
  | g (n i e j : Nat)
  | fb (f : Nat) (hs : List Nat)

inductive W where
  | c (x : C)
  | a (l : List C)
  | b (k : FloatKind) (e : Nat) (r : List Nat)

inductive V where
  | w (x : W)
  | t (l : List W)

abbrev Env := Nat → Value

def base : Value → Addr
  | .pointer (some a) => a
  | .slice (some a) _ _ => a
  | _ => ⟨0, 0, none⟩

def C.val (ρ : Env) : C → Value
  | .d x => x.val
  | .p h i e j => .pointer (some ⟨(base (ρ h)).block, (base (ρ h)).off + (i * e + j), none⟩)
  | .o h => ρ h
  | .fn f hs => .func (.func f) #[] (hs.map ρ).toArray
  | .g n i e j => .pointer (some ⟨n, i * e + j, none⟩)
  | .fb f hs => .func (.func f) (hs.map ρ).toArray #[]

def W.val (ρ : Env) : W → Value
  | .c x => x.val ρ
  | .a l => .agg (l.map (C.val ρ)).toArray
  | .b k e r => .agg ((frD k e r).map D.val).toArray

def V.val (ρ : Env) : V → Value
  | .w x => x.val ρ
  | .t l => .tuple (l.map (W.val ρ)).toArray

/-- All objects named lie below n. -/
def C.lt (n : Nat) : C → Prop
  | .d _ => True
  | .p h _ _ _ => h < n
  | .o h => h < n
  | .fn _ hs => ∀ h ∈ hs, h < n
  | .g _ _ _ _ => True
  | .fb _ hs => ∀ h ∈ hs, h < n
def W.lt (n : Nat) : W → Prop
  | .c x => x.lt n
  | .a l => ∀ x ∈ l, C.lt n x
  | .b _ _ _ => True
def V.lt (n : Nat) : V → Prop
  | .w x => x.lt n
  | .t l => ∀ x ∈ l, W.lt n x

def Agree (n : Nat) (ρ ρ' : Env) : Prop := ∀ h, h < n → ρ' h = ρ h

theorem Agree.refl (n : Nat) (ρ : Env) : Agree n ρ ρ := fun _ _ => rfl
theorem Agree.trans {n m : Nat} {a b c : Env} (h : Agree n a b) (k : Agree m b c) (hm : n ≤ m) : Agree n a c :=
  fun x hx => (k x (Nat.lt_of_lt_of_le hx hm)).trans (h x hx)

theorem C.val_agree {n : Nat} {ρ ρ' : Env} (h : Agree n ρ ρ') : ∀ {x : C}, x.lt n → x.val ρ' = x.val ρ
  | .d _, _ => rfl
  | .p _ _ _ _, hx => by simp only [C.val, h _ hx]
  | .o _, hx => h _ hx
  | .fn _ hs, hx => by
    simp only [C.val]
    congr 2
    exact List.map_congr_left fun a ha => h a (hx a ha)
  | .g _ _ _ _, _ => rfl
  | .fb _ hs, hx => by
    simp only [C.val]
    congr 2
    exact List.map_congr_left fun a ha => h a (hx a ha)
theorem W.val_agree {n : Nat} {ρ ρ' : Env} (h : Agree n ρ ρ') : ∀ {x : W}, x.lt n → x.val ρ' = x.val ρ
  | .c _, hx => C.val_agree h hx
  | .a l, hx => by
    simp only [W.val]
    congr 2
    exact List.map_congr_left fun a ha => C.val_agree h (hx a ha)
  | .b _ _ _, _ => rfl
theorem V.val_agree {n : Nat} {ρ ρ' : Env} (h : Agree n ρ ρ') : ∀ {x : V}, x.lt n → x.val ρ' = x.val ρ
  | .w _, hx => W.val_agree h hx
  | .t l, hx => by
    simp only [V.val]
    congr 2
    exact List.map_congr_left fun a ha => W.val_agree h (hx a ha)

theorem C.lt_mono {n m : Nat} (h : n ≤ m) : ∀ {x : C}, x.lt n → x.lt m
  | .d _, _ => trivial
  | .p _ _ _ _, hx => Nat.lt_of_lt_of_le hx h
  | .o _, hx => Nat.lt_of_lt_of_le hx h
  | .fn _ _, hx => fun a ha => Nat.lt_of_lt_of_le (hx a ha) h
  | .g _ _ _ _, _ => trivial
  | .fb _ _, hx => fun a ha => Nat.lt_of_lt_of_le (hx a ha) h
theorem W.lt_mono {n m : Nat} (h : n ≤ m) : ∀ {x : W}, x.lt n → x.lt m
  | .c _, hx => C.lt_mono h hx
  | .a _, hx => fun a ha => C.lt_mono h (hx a ha)
  | .b _ _ _, _ => trivial
theorem V.lt_mono {n m : Nat} (h : n ≤ m) : ∀ {x : V}, x.lt n → x.lt m
  | .w _, hx => W.lt_mono h hx
  | .t _, hx => fun a ha => W.lt_mono h (hx a ha)

/-! ### contents of slices -/

theorem flatMap_get {α : Type} (g : α → List D) (e : Nat) (hg : ∀ x, (g x).length = e) (j : Nat) (hj : j < e) :
    ∀ (l : List α) (i : Nat), (l.flatMap g)[i * e + j]? = (l[i]?).bind fun x => (g x)[j]?
  | [], i => by simp
  | x :: l, 0 => by
    rw [List.flatMap_cons, Nat.zero_mul, Nat.zero_add, List.getElem?_append_left (by rw [hg x]; exact hj)]
    simp
  | x :: l, i + 1 => by
    have ih := flatMap_get g e hg j hj l i
    have e1 : (i + 1) * e + j = (g x).length + (i * e + j) := by rw [hg x, Nat.add_mul]; omega
    rw [List.flatMap_cons, e1, List.getElem?_append_right (by omega)]
    simpa using ih

theorem flatMap_length {α : Type} (g : α → List D) (e : Nat) (hg : ∀ x, (g x).length = e) : ∀ (l : List α), (l.flatMap g).length = l.length * e
  | [] => by simp
  | x :: l => by rw [List.flatMap_cons, List.length_append, flatMap_length g e hg l, hg x, List.length_cons, Nat.add_mul]; omega

@[simp] theorem recD_length (e : Nat) (r : List Int) : (recD e r).length = e := by simp [recD]
@[simp] theorem litD_length (e : Nat) (r : List D) : (litD e r).length = e := by simp [litD]
@[simp] theorem frD_length (k : FloatKind) (e : Nat) (r : List Nat) : (frD k e r).length = e := by simp [frD]

theorem Cont.flat_length (c : Cont) : c.flat.length = c.n * c.e := by
  cases c <;> simp only [Cont.flat, Cont.n, Cont.e] <;> (refine flatMap_length _ _ ?_ _) <;> intro x <;> simp

theorem Cont.flat_get (c : Cont) {i j : Nat} (hi : i < c.n) (hj : j < c.e) : c.flat[i * c.e + j]? = some (c.cell i j) := by
  cases c with
  | ints k l =>
    have h := flatMap_get (fun x : Int => [D.i k x]) 1 (by simp) j hj l i
    simp only [Cont.n] at hi
    simp only [Cont.flat, Cont.e, Cont.cell] at *
    rw [h]
    obtain rfl : j = 0 := by omega
    simp [hi, List.getD]
  | recs e l =>
    have h := flatMap_get (recD e) e (by simp) j hj l i
    simp only [Cont.n] at hi
    simp only [Cont.flat, Cont.e, Cont.cell] at *
    rw [h]
    simp [hi, List.getD, recD, hj]
  | floats k l =>
    have h := flatMap_get (fun x : Nat => [D.f k x]) 1 (by simp) j hj l i
    simp only [Cont.n] at hi
    simp only [Cont.flat, Cont.e, Cont.cell] at *
    rw [h]
    obtain rfl : j = 0 := by omega
    simp [hi, List.getD]
  | strs l =>
    have h := flatMap_get (fun x : ByteArray => [D.s x]) 1 (by simp) j hj l i
    simp only [Cont.n] at hi
    simp only [Cont.flat, Cont.e, Cont.cell] at *
    rw [h]
    obtain rfl : j = 0 := by omega
    simp [hi, List.getD]
  | bools l =>
    have h := flatMap_get (fun x : Bool => [D.b x]) 1 (by simp) j hj l i
    simp only [Cont.n] at hi
    simp only [Cont.flat, Cont.e, Cont.cell] at *
    rw [h]
    obtain rfl : j = 0 := by omega
    simp [hi, List.getD]
  | lits e l =>
    have h := flatMap_get (litD e) e (by simp) j hj l i
    simp only [Cont.n] at hi
    simp only [Cont.flat, Cont.e, Cont.cell] at *
    rw [h]
    simp [hi, List.getD, litD, hj]
  | frs k e l =>
    have h := flatMap_get (frD k e) e (by simp) j hj l i
    simp only [Cont.n] at hi
    simp only [Cont.flat, Cont.e, Cont.cell] at *
    rw [h]
    simp [hi, List.getD, frD, hj]

/-! ### objects -/

/-- A cell of a content with lists within: data, or a slice that reads as told. -/
inductive NC where
  | d (x : D)
  | r (c : Cont)

/-- What kind of cell it is. -/
inductive NK where
  | i (k : IntKind)
  | b
  | f (k : FloatKind)
  | s
  | ints (k : IntKind)
  | recs (e : Nat)
  | flts (k : FloatKind)
  | strs
  | bools
  | frs (k : FloatKind) (e : Nat)
  deriving DecidableEq

def NC.toI : NC → Int
  | .d (.i _ n) => n
  | _ => 0
def NC.toB : NC → Bool
  | .d (.b x) => x
  | _ => false
def NC.toF : NC → Nat
  | .d (.f _ n) => n
  | _ => 0
def NC.toS : NC → ByteArray
  | .d (.s x) => x
  | _ => ByteArray.empty
def NC.toInts : NC → List Int
  | .r (.ints _ l) => l
  | _ => []
def NC.toRecs : NC → List (List Int)
  | .r (.recs _ l) => l
  | _ => []
def NC.toFlts : NC → List Nat
  | .r (.floats _ l) => l
  | _ => []
def NC.toStrs : NC → List ByteArray
  | .r (.strs l) => l
  | _ => []
def NC.toBools : NC → List Bool
  | .r (.bools l) => l
  | _ => []
def NC.toFrs : NC → List (List Nat)
  | .r (.frs _ _ l) => l
  | _ => []

def NK.norm : NK → NC → NC
  | .i k, x => .d (.i k x.toI)
  | .b, x => .d (.b x.toB)
  | .f k, x => .d (.f k x.toF)
  | .s, x => .d (.s x.toS)
  | .ints k, x => .r (.ints k x.toInts)
  | .recs e, x => .r (.recs e x.toRecs)
  | .flts k, x => .r (.floats k x.toFlts)
  | .strs, x => .r (.strs x.toStrs)
  | .bools, x => .r (.bools x.toBools)
  | .frs k e, x => .r (.frs k e x.toFrs)

/-- Contents with lists within. -/
inductive XC where
  | st (sh : List NK) (l : List (List NC))
  | ii (k : IntKind) (l : List (List Int))
  | ff (k : FloatKind) (l : List (List Nat))
  | bb (k : FloatKind) (e : Nat) (l : List (List (List Nat)))
  | rr (e : Nat) (l : List (List (List Int)))

def XC.n : XC → Nat
  | .st _ l => l.length
  | .ii _ l => l.length
  | .ff _ l => l.length
  | .bb _ _ l => l.length
  | .rr _ l => l.length
def XC.e : XC → Nat
  | .st sh _ => sh.length
  | _ => 1
def XC.cell : XC → Nat → Nat → NC
  | .st sh l, i, j => (sh.getD j .b).norm ((l.getD i []).getD j (.d (.v undef)))
  | .ii k l, i, _ => .r (.ints k (l.getD i []))
  | .ff k l, i, _ => .r (.floats k (l.getD i []))
  | .bb k e l, i, _ => .r (.frs k e (l.getD i []))
  | .rr e l, i, _ => .r (.recs e (l.getD i []))

inductive O where
  | box (ty : Nat) (cs : List C)
  | row (ty : Nat) (c : Cont)
  | ext (c : Cont)
  | view (r : Nat) (c : Cont) (fl : Bool)
  | dead
  | nan (k : FloatKind)
  | ebox (cs : List C)
  | arr (ty : Nat) (k : FloatKind) (e : Nat) (r : List Nat)
  | xext (x : XC)
  | map (es : List ((Int × Int) × Int))
  | rrow (c : Cont)

def O.cont : O → Option Cont
  | .row _ c => some c
  | .ext c => some c
  | .view _ c _ => some c
  | .rrow c => some c
  | _ => none

abbrev Hp := List (Nat × O)

def find : Hp → Nat → Option O
  | [], _ => none
  | (k, o) :: r, h => if k = h then some o else find r h

/-- The slice v reads as c. -/
def IsRow (w : World) (v : Value) (c : Cont) : Prop :=
  ∃ a cap, v = .slice a c.n cap ∧ (c.n ≤ cap ∧ (a = none → cap = 0)) ∧ (0 < c.n → ∃ b off, a = some ⟨b, off, none⟩ ∧ ∀ j x, c.flat[j]? = some x → w.cell? ⟨b, off + j, none⟩ = some x.val)

/-- The variables of the program that are never written, and what they hold. -/
class Globs where
  tab : Nat → Option Cont
  mv : Bool := false

/-- The blocks that are kept. -/
abbrev Bd := Nat → Prop
/-- The variables stand in kept blocks, as told. -/
def GlobOK [Globs] (B : Bd) (w : World) : Prop := ∀ g c, Globs.tab g = some c → B g ∧ ∀ j x, c.flat[j]? = some x → w.cell? ⟨g, j, none⟩ = some x.val
def Old (B : Bd) (w : World) : Prop := ∀ k, B k → k < w.heap.size

/-- The kept blocks are as they were; so are the streams; no block has gone. -/
structure Bel (B : Bd) (w w' : World) : Prop where
  os : w'.os = w.os
  tape : w'.tape = w.tape
  output : w'.output = w.output
  size : w.heap.size ≤ w'.heap.size
  block : ∀ k, B k → w'.heap[k]? = w.heap[k]?

theorem Bel.refl (B : Bd) (w : World) : Bel B w w := ⟨rfl, rfl, rfl, Nat.le_refl _, fun _ _ => rfl⟩
theorem Bel.trans {B : Bd} {a b c : World} (h : Bel B a b) (k : Bel B b c) : Bel B a c :=
  ⟨k.os.trans h.os, k.tape.trans h.tape, k.output.trans h.output, Nat.le_trans h.size k.size, fun i hi => (k.block i hi).trans (h.block i hi)⟩
theorem Bel.cell {B : Bd} {w w' : World} (h : Bel B w w') {p : Addr} (hp : B p.block) : w'.cell? p = w.cell? p := World.cell?_of_block (w := w) (h.block p.block hp)
theorem Bel.mono {B B' : Bd} {w w' : World} (h : Bel B w w') (hB : ∀ k, B' k → B k) : Bel B' w w' := ⟨h.os, h.tape, h.output, h.size, fun k hk => h.block k (hB k hk)⟩
theorem bel_of {B : Bd} {w w' : World} (h : Below w.heap.size w w') (hB : Old B w) : Bel B w w' := ⟨h.os, h.tape, h.output, h.size, fun k hk => h.block k (hB k hk)⟩
theorem Bel.old {B : Bd} {w w' : World} (h : Bel B w w') (hB : Old B w) : Old B w' := fun k hk => Nat.lt_of_lt_of_le (hB k hk) h.size
theorem Bel.below {n : Nat} {w w' : World} (h : Bel (fun k => k < n) w w') : Below n w w' := ⟨h.os, h.tape, h.output, h.size, h.block⟩

/-- The slice v lies, if it has an element, in a kept block. -/
def OldRow (B : Bd) (v : Value) : Prop := ∀ a n cap, v = .slice (some a) n cap → 0 < n → B a.block

theorem GlobOK.bel [Globs] {B : Bd} {w w' : World} (h : GlobOK B w) (hb : Bel B w w') : GlobOK B w' := fun g c hg =>
  ⟨(h g c hg).1, fun j x hj => (hb.cell (p := ⟨g, j, none⟩) (h g c hg).1).trans ((h g c hg).2 j x hj)⟩

/-- A cell of a content with lists within, as it stands in memory. -/
def NC.at (B : Bd) (w : World) (v : Value) : NC → Prop
  | .d x => v = x.val
  | .r c => IsRow w v c ∧ OldRow B v

/-- The slice v reads as X, in kept blocks. -/
def IsX (B : Bd) (w : World) (v : Value) (X : XC) : Prop :=
  ∃ a cap, v = .slice a X.n cap ∧ (X.n ≤ cap ∧ (a = none → cap = 0)) ∧ (0 < X.n → ∃ b off, a = some ⟨b, off, none⟩ ∧ B b ∧ ∀ i j, i < X.n → j < X.e → ∃ u, w.cell? ⟨b, off + (i * X.e + j), none⟩ = some u ∧ (X.cell i j).at B w u)

/-- An entry of a map with keys of two whole numbers. -/
def entV (e : (Int × Int) × Int) : Value × Value := (.agg #[.int .i64 e.1.1, .int .i64 e.1.2], .int .i64 e.2)

def O.ok (ρ : Env) (B : Bd) (w : World) (h : Nat) : O → Prop
  | .box ty cs => ∃ k, ρ h = .pointer (some ⟨k, 0, none⟩) ∧ ¬ B k ∧ w.heap[k]? = some (.cells (cs.map (C.val ρ)).toArray ty (0, 0))
  | .row ty c => w.ownsRow 0 ty c.e (ρ h) c.n (c.flat.map D.val) ∧ ∀ k, (ρ h).ownBlock = some k → ¬ B k
  | .ext c => IsRow w (ρ h) c ∧ OldRow B (ρ h)
  | .view _ c fl => IsRow w (ρ h) c ∧ (fl = true → ∀ a n cap, ρ h = .slice a n cap → cap = n)
  | .dead => True
  | .nan k => ∃ n, ρ h = .float k n ∧ (k.decode n).isNaN = true
  | .ebox cs => ∃ k o, ρ h = .pointer (some ⟨k, o, none⟩) ∧ B k ∧ ∀ j c, cs[j]? = some c → w.cell? ⟨k, o + j, none⟩ = some (c.val ρ)
  | .arr ty k e r => ∃ b, ρ h = .pointer (some ⟨b, 0, none⟩) ∧ ¬ B b ∧ w.heap[b]? = some (.cells ((frD k e r).map D.val).toArray ty (0, 0))
  | .xext X => IsX B w (ρ h) X
  | .map es => ∃ b ents clock, ρ h = .map (some b) ∧ ¬ B b ∧ w.heap[b]? = some (.map ents clock) ∧ ents.toList.map (fun e => (e.key, e.val)) = es.map entV
  | .rrow c => IsRow w (ρ h) c ∧ ∀ k, (ρ h).ownBlock = some k → ¬ B k ∧ k < w.heap.size

/-- The block of a map. -/
def mapBlk : Value → Option Nat
  | .map (some b) => some b
  | _ => none

/-- The block that an object owns. -/
def O.blk (v : Value) : O → Option Nat
  | .box _ _ => some (base v).block
  | .row _ _ => v.ownBlock
  | .arr _ _ _ _ => some (base v).block
  | .map _ => mapBlk v
  | .rrow _ => v.ownBlock
  | _ => none

def O.lt (n : Nat) : O → Prop
  | .box _ cs => ∀ x ∈ cs, C.lt n x
  | .view r _ _ => r < n
  | .ebox cs => ∀ x ∈ cs, C.lt n x
  | _ => True

structure HRel [Globs] (ρ : Env) (B : Bd) (hp : Hp) (nx : Nat) (w : World) : Prop where
  ok : ∀ h o, find hp h = some o → h < nx ∧ o.lt nx ∧ o.ok ρ B w h
  apart : ∀ h o h' o' k, find hp h = some o → find hp h' = some o' → h ≠ h' → o.blk (ρ h) = some k → o'.blk (ρ h') ≠ some k
  glob : GlobOK B w

section
variable [Globs]

/-! ### what keeps the heap's facts -/

theorem IsRow.below {B : Bd} {w w' : World} {v : Value} {c : Cont} (h : IsRow w v c) (hb : Bel B w w') (ho : OldRow B v) : IsRow w' v c := by
  obtain ⟨a, cap, rfl, hc, hcells⟩ := h
  refine ⟨a, cap, rfl, hc, fun hn => ?_⟩
  obtain ⟨b, off, rfl, hx⟩ := hcells hn
  refine ⟨b, off, rfl, fun j x hj => ?_⟩
  have hlt := ho _ _ _ rfl hn
  exact (hb.cell (p := ⟨b, off + j, none⟩) hlt).trans (hx j x hj)

theorem IsRow.lt {w : World} {v : Value} {c : Cont} (h : IsRow w v c) (he : 0 < c.e) : OldRow (fun k => k < w.heap.size) v := by
  obtain ⟨a, cap, rfl, hc, hcells⟩ := h
  intro a' n cap' hv hn
  cases hv
  obtain ⟨b, off, hab, hx⟩ := hcells hn
  cases hab
  have h0 := c.flat_get (i := 0) (j := 0) hn he
  exact World.block_lt_of_cell? w ⟨b, off + (0 * c.e + 0), none⟩ (hx _ _ h0)

theorem NC.at_bel {B : Bd} {w w' : World} {v : Value} {x : NC} (h : x.at B w v) (hb : Bel B w w') : x.at B w' v := by
  cases x with
  | d x => exact h
  | r c => exact ⟨h.1.below hb h.2, h.2⟩

theorem IsX.bel {B : Bd} {w w' : World} {v : Value} {X : XC} (h : IsX B w v X) (hb : Bel B w w') : IsX B w' v X := by
  obtain ⟨a, cap, rfl, hc, hcells⟩ := h
  refine ⟨a, cap, rfl, hc, fun hn => ?_⟩
  obtain ⟨b, off, rfl, hB, hx⟩ := hcells hn
  refine ⟨b, off, rfl, hB, fun i j hi hj => ?_⟩
  obtain ⟨u, hu, hux⟩ := hx i j hi hj
  exact ⟨u, (hb.cell (p := ⟨b, off + (i * X.e + j), none⟩) hB).trans hu, NC.at_bel hux hb⟩

/-- What stands in the heap stands in any later heap that keeps all blocks of this one. -/
theorem O.ok_below {ρ : Env} {B : Bd} {h : Nat} {w w' : World} (hb : Below w.heap.size w w') (hB : Old B w) : ∀ {o : O}, o.ok ρ B w h → o.ok ρ B w' h
  | .box ty cs, ⟨k, h1, h2, h3⟩ => ⟨k, h1, h2, (hb.block k (Array.getElem?_eq_some_iff.1 h3).1).trans h3⟩
  | .row ty c, ⟨hr, hk⟩ => by
    refine ⟨⟨hr.1, ?_⟩, hk⟩
    rcases hr.2 with hn | ⟨g, cap, cur, h1, h2, h3, h4⟩
    · exact .inl hn
    · exact .inr ⟨g, cap, cur, h1, h2, (hb.block g (Array.getElem?_eq_some_iff.1 h3).1).trans h3, h4⟩
  | .ext c, ⟨h1, h2⟩ => ⟨h1.below (bel_of hb hB) h2, h2⟩
  | .view r c _, ⟨h1, h2⟩ => by
    refine ⟨?_, h2⟩
    obtain ⟨a, cap, hv, hc, hcells⟩ := h1
    refine ⟨a, cap, hv, hc, fun hn => ?_⟩
    obtain ⟨b, off, hab, hx⟩ := hcells hn
    refine ⟨b, off, hab, fun j x hj => ?_⟩
    have := hx j x hj
    exact (hb.cell (p := ⟨b, off + j, none⟩) (World.block_lt_of_cell? w _ this)).trans this
  | .dead, _ => trivial
  | .nan _, h => h
  | .ebox cs, ⟨k, o, h1, h2, h3⟩ => ⟨k, o, h1, h2, fun j c hj => ((bel_of hb hB).cell (p := ⟨k, o + j, none⟩) h2).trans (h3 j c hj)⟩
  | .arr ty k e r, ⟨b, h1, h2, h3⟩ => ⟨b, h1, h2, (hb.block b (Array.getElem?_eq_some_iff.1 h3).1).trans h3⟩
  | .xext _, h => IsX.bel h (bel_of hb hB)
  | .map _, ⟨b, ents, clock, h1, h2, h3, h4⟩ => ⟨b, ents, clock, h1, h2, (hb.block b (Array.getElem?_eq_some_iff.1 h3).1).trans h3, h4⟩
  | .rrow c, ⟨h1, h2⟩ => by
    refine ⟨?_, fun k hk => ⟨(h2 k hk).1, Nat.lt_of_lt_of_le (h2 k hk).2 hb.size⟩⟩
    obtain ⟨a, cap, hv, hc, hcells⟩ := h1
    refine ⟨a, cap, hv, hc, fun hn => ?_⟩
    obtain ⟨b, off, hab, hx⟩ := hcells hn
    refine ⟨b, off, hab, fun j x hj => ?_⟩
    have := hx j x hj
    exact (hb.cell (p := ⟨b, off + j, none⟩) (World.block_lt_of_cell? w _ this)).trans this

theorem HRel.below {ρ : Env} {B : Bd} {nx : Nat} {hp : Hp} {w w' : World} (h : HRel ρ B hp nx w) (hb : Below w.heap.size w w') (hB : Old B w) : HRel ρ B hp nx w' :=
  ⟨fun k o hf => let ⟨a, b, c⟩ := h.ok k o hf; ⟨a, b, O.ok_below hb hB c⟩, h.apart, h.glob.bel (bel_of hb hB)⟩

theorem O.lt_mono {n m : Nat} (h : n ≤ m) : ∀ {o : O}, o.lt n → o.lt m
  | .box _ _, hx => fun a ha => C.lt_mono h (hx a ha)
  | .view _ _ _, hx => Nat.lt_of_lt_of_le hx h
  | .row _ _, _ => trivial
  | .ext _, _ => trivial
  | .dead, _ => trivial
  | .nan _, _ => trivial
  | .ebox _, hx => fun a ha => C.lt_mono h (hx a ha)
  | .arr _ _ _ _, _ => trivial
  | .xext _, _ => trivial
  | .map _, _ => trivial
  | .rrow _, _ => trivial

theorem O.ok_agree {ρ ρ' : Env} {B : Bd} {nx h : Nat} {w : World} (ha : Agree nx ρ ρ') (hh : h < nx) : ∀ {o : O}, o.lt nx → o.ok ρ B w h → o.ok ρ' B w h
  | .box ty cs, hl, ⟨k, h1, h2, h3⟩ => ⟨k, (ha h hh).trans h1, h2, by
      rw [h3]; congr 3; exact List.map_congr_left fun a ha' => (C.val_agree ha (hl a ha')).symm⟩
  | .row ty c, _, hr => by unfold O.ok at *; rw [ha h hh]; exact hr
  | .ext c, _, hr => by unfold O.ok at *; rw [ha h hh]; exact hr
  | .view r c _, hl, hr => by
    have hl' : r < nx := hl
    unfold O.ok at *; rw [ha h hh]; simp only; exact hr
  | .dead, _, _ => trivial
  | .nan _, _, hr => by unfold O.ok at *; rw [ha h hh]; exact hr
  | .ebox cs, hl, ⟨k, o, h1, h2, h3⟩ => ⟨k, o, (ha h hh).trans h1, h2, fun j c hj => by rw [C.val_agree ha (hl c (List.mem_of_getElem? hj))]; exact h3 j c hj⟩
  | .arr _ _ _ _, _, hr => by unfold O.ok at *; rw [ha h hh]; exact hr
  | .xext _, _, hr => by unfold O.ok at *; rw [ha h hh]; exact hr
  | .map _, _, hr => by unfold O.ok at *; rw [ha h hh]; exact hr
  | .rrow _, _, hr => by unfold O.ok at *; rw [ha h hh]; exact hr

theorem O.blk_agree {v v' : Value} (h : v' = v) (o : O) : o.blk v' = o.blk v := by rw [h]

theorem HRel.agree {ρ ρ' : Env} {B : Bd} {nx : Nat} {hp : Hp} {w : World} (h : HRel ρ B hp nx w) (ha : Agree nx ρ ρ') : HRel ρ' B hp nx w where
  ok k o hf := let ⟨a, b, c⟩ := h.ok k o hf; ⟨a, b, O.ok_agree ha a b c⟩
  apart k o k' o' b hf hf' hne hb := by
    rw [ha k (h.ok k o hf).1] at hb
    rw [ha k' (h.ok k' o' hf').1]
    exact h.apart k o k' o' b hf hf' hne hb
  glob := h.glob

theorem HRel.mono_nx {ρ : Env} {B : Bd} {nx nx' : Nat} {hp : Hp} {w : World} (h : HRel ρ B hp nx w) (hn : nx ≤ nx') : HRel ρ B hp nx' w :=
  ⟨fun k o hf => let ⟨a, b, c⟩ := h.ok k o hf; ⟨Nat.lt_of_lt_of_le a hn, O.lt_mono hn b, c⟩, h.apart, h.glob⟩

/-- What an object owns lies in the heap. -/
theorem O.blk_lt {ρ : Env} {B : Bd} {h k : Nat} {w : World} : ∀ {o : O}, o.ok ρ B w h → o.blk (ρ h) = some k → k < w.heap.size ∧ ¬ B k
  | .box ty cs, ⟨g, h1, h2, h3⟩, hb => by
    simp only [O.blk, h1, base, Option.some.injEq] at hb
    subst hb
    exact ⟨(Array.getElem?_eq_some_iff.1 h3).1, h2⟩
  | .row ty c, hr, hb => by
    have := World.ownsRow.lt hr.1 k hb
    exact ⟨this.2, hr.2 k hb⟩
  | .arr ty _ _ _, ⟨g, h1, h2, h3⟩, hb => by
    simp only [O.blk, h1, base, Option.some.injEq] at hb
    subst hb
    exact ⟨(Array.getElem?_eq_some_iff.1 h3).1, h2⟩
  | .map _, ⟨g, _, _, h1, h2, h3, _⟩, hb => by
    simp only [O.blk, h1, mapBlk, Option.some.injEq] at hb
    subst hb
    exact ⟨(Array.getElem?_eq_some_iff.1 h3).1, h2⟩
  | .rrow _, ⟨_, h2⟩, hb => ⟨(h2 k hb).2, (h2 k hb).1⟩

/-- A new object. -/
theorem HRel.add {ρ ρ' : Env} {B : Bd} {nx : Nat} {hp : Hp} {w w' : World} (h : HRel ρ B hp nx w) (hb : Below w.heap.size w w') (hB : Old B w)
    (ha : Agree nx ρ ρ') {o : O} (hl : o.lt (nx + 1)) (ho : o.ok ρ' B w' nx) (hn : ∀ k, o.blk (ρ' nx) = some k → w.heap.size ≤ k) :
    HRel ρ' B ((nx, o) :: hp) (nx + 1) w' := by
  have h1 := ((h.below hb hB).agree ha).mono_nx (Nat.le_succ nx)
  have hold : ∀ k o', find hp k = some o' → k ≠ nx := fun k o' hf e => by have := (h.ok k o' hf).1; omega
  refine ⟨?_, ?_, h1.glob⟩
  · intro k o' hf
    simp only [find] at hf
    split at hf
    · rename_i e
      subst e
      cases hf
      exact ⟨by omega, hl, ho⟩
    · exact h1.ok k o' hf
  · intro k o₁ k' o₂ b hf hf' hne hbk hbk'
    simp only [find] at hf hf'
    have hlt : ∀ k o', find hp k = some o' → ∀ b, o'.blk (ρ' k) = some b → b < w.heap.size := fun k o' hk b hbb => by
      have hk1 := h.ok k o' hk
      rw [ha k hk1.1] at hbb
      exact (O.blk_lt hk1.2.2 hbb).1
    split at hf
    · rename_i e
      subst e
      cases hf
      rw [if_neg hne] at hf'
      have := hn b hbk
      have := hlt k' o₂ hf' b hbk'
      omega
    · split at hf'
      · rename_i e
        subst e
        cases hf'
        have := hn b hbk'
        have := hlt k o₁ hf b hbk
        omega
      · exact h1.apart k o₁ k' o₂ b hf hf' hne hbk hbk'

/-- Forgetting objects. -/
theorem HRel.sub {ρ : Env} {B : Bd} {nx : Nat} {hp hp' : Hp} {w : World} (h : HRel ρ B hp nx w) (hs : ∀ k o, find hp' k = some o → find hp k = some o) : HRel ρ B hp' nx w :=
  ⟨fun k o hf => h.ok k o (hs k o hf), fun k o k' o' b hf hf' => h.apart k o k' o' b (hs k o hf) (hs k' o' hf'), h.glob⟩
end

end Go.Sx
