/- A symbolic executor for the model's code: the operations that yield a value and leave the world alone. -/
import Derived.Test.YtndhdojnlobloaaSxA
set_option linter.unusedSectionVars false
set_option linter.unusedSimpArgs false
set_option linter.unusedVariables false
open Go.RowKit
namespace Go.Sx

def V.int? : V → Option (IntKind × Int)
  | .w (.c (.d (.i k n))) => some (k, n)
  | _ => none
def V.bool? : V → Option Bool
  | .w (.c (.d (.b x))) => some x
  | _ => none
def V.str? : V → Option ByteArray
  | .w (.c (.d (.s x))) => some x
  | _ => none
def V.flt? : V → Option (FloatKind × Nat)
  | .w (.c (.d (.f k x))) => some (k, x)
  | _ => none
def V.agg? : V → Option (List C)
  | .w (.a l) => some l
  | _ => none
def V.cell? : V → Option C
  | .w (.c x) => some x
  | _ => none
def V.obj? : V → Option Nat
  | .w (.c (.o h)) => some h
  | _ => none
/-- The empty slice that is nil. -/
def V.nils? : V → Bool
  | .w (.c (.d (.v (.slice none 0 0)))) => true
  | _ => false

def vi (k : IntKind) (n : Int) : V := .w (.c (.d (.i k n)))
def vb (b : Bool) : V := .w (.c (.d (.b b)))
def vs (s : ByteArray) : V := .w (.c (.d (.s s)))
def vf (k : FloatKind) (n : Nat) : V := .w (.c (.d (.f k n)))
def vu : V := .w (.c (.d (.v undef)))
def vblk (k : FloatKind) (e : Nat) (r : List Nat) : V := .w (.b k e r)
def sameK : FloatKind → FloatKind → Bool
  | .f32, .f32 => true
  | .f64, .f64 => true
  | _, _ => false
/-- A value that is no number. -/
def V.nan? (hp : Hp) : V → Option FloatKind
  | .w (.c (.o h)) => match find hp h with
    | some (.nan k) => some k
    | _ => none
  | _ => none


/-- A cell of the program's own constants. -/
def ofCell : Value → C
  | .int k n => .d (.i k n)
  | .bool b => .d (.b b)
  | .string s => .d (.s s)
  | .float k n => .d (.f k n)
  | v => .d (.v v)
theorem ofCell_val (ρ : Env) (v : Value) : (ofCell v).val ρ = v := by cases v <;> rfl
theorem ofCell_lt (n : Nat) (v : Value) : (ofCell v).lt n := by cases v <;> exact trivial
/-- Floats of a kind. -/
def fltsV (k : FloatKind) : List Value → Option (List Nat)
  | [] => some []
  | .float k' n :: r => if k' = k then (fltsV k r).map (n :: ·) else none
  | _ => none
/-- A great array of floats is told by its content. -/
def bigV (cs : List Value) : Option (List Nat) := match Nat.ble 8 cs.length with
  | true => fltsV .f32 cs
  | false => none
def ofValue : Value → W
  | .agg cs => match bigV cs.toList with
    | some r => .b .f32 r.length r
    | none => .a (cs.toList.map ofCell)
  | v => .c (ofCell v)
theorem fltsV_eq {k : FloatKind} : ∀ {cs : List Value} {r : List Nat}, fltsV k cs = some r → cs = r.map fun n => Value.float k n
  | [], r, h => by simp only [fltsV, Option.some.injEq] at h; subst h; rfl
  | c :: cs, r, h => by
    cases c with
    | float k' n =>
      simp only [fltsV] at h
      split at h
      · rename_i e
        subst e
        obtain ⟨l, hl, rfl⟩ := Option.map_eq_some_iff.1 h
        rw [fltsV_eq hl]; rfl
      · cases h
    | _ => simp only [fltsV] at h; cases h
theorem ofValue_val (ρ : Env) (v : Value) : (ofValue v).val ρ = v := by
  cases v with
  | agg cs =>
    simp only [ofValue]
    split
    · rename_i r hb
      unfold bigV at hb
      split at hb
      · have h1 := fltsV_eq hb
        simp only [W.val, frD]
        congr 1
        apply Array.toList_inj.1
        simp only
        rw [h1, List.map_map]
        apply List.ext_getElem?
        intro i
        simp only [List.getElem?_map, Function.comp_def, D.val]
        by_cases hi : i < r.length
        · rw [List.getElem?_range hi]; simp [List.getD, List.getElem?_eq_getElem hi]
        · rw [List.getElem?_eq_none (by simpa using hi), List.getElem?_eq_none (by simpa using hi)]; rfl
      · cases hb
    · simp only [W.val, List.map_map, Function.comp_def, ofCell_val, List.map_id']
  | _ => simp only [ofValue, W.val, ofCell_val]
theorem ofValue_lt (n : Nat) (v : Value) : (ofValue v).lt n := by
  cases v with
  | agg cs =>
    simp only [ofValue]
    split
    · exact trivial
    · intro x hx
      obtain ⟨y, _, rfl⟩ := List.mem_map.1 hx
      exact ofCell_lt n y
  | _ => simp only [ofValue, W.lt]; exact ofCell_lt n _

/-- Two whole numbers. -/
def intBin (op : BinOp) (k : IntKind) (a : Int) (k' : IntKind) (b : Int) : Option (Prop × V) :=
  match op with
  | .shl => some (0 ≤ b, vi k (k.wrap (a * 2 ^ (min b.toNat k.bits))))
  | .shr => some (0 ≤ b, vi k (a.fdiv (2 ^ (min b.toNat k.bits))))
  | _ =>
    if k = k' then
      match op with
      | .add => some (True, vi k (k.wrap (a + b)))
      | .sub => some (True, vi k (k.wrap (a - b)))
      | .mul => some (True, vi k (k.wrap (a * b)))
      | .quo => some (b ≠ 0, vi k (k.wrap (a.tdiv b)))
      | .rem => some (b ≠ 0, vi k (a.tmod b))
      | .eql => some (True, vb (a == b))
      | .neq => some (True, vb (a != b))
      | .lss => some (True, vb (a < b))
      | .leq => some (True, vb (a ≤ b))
      | .gtr => some (True, vb (a > b))
      | .geq => some (True, vb (a ≥ b))
      | .and => some (True, vi k (k.wrap (BitVec.ofInt k.bits a &&& BitVec.ofInt k.bits b).toNat))
      | .or => some (True, vi k (k.wrap (BitVec.ofInt k.bits a ||| BitVec.ofInt k.bits b).toNat))
      | .xor => some (True, vi k (k.wrap (BitVec.ofInt k.bits a ^^^ BitVec.ofInt k.bits b).toNat))
      | _ => none
    else none

def fltBin (op : BinOp) (k : FloatKind) (a : Nat) (k' : FloatKind) (b : Nat) : Option (Prop × V) :=
  if k = k' then
    match op with
    | .eql => some (True, vb (k.format.order a b == some .eq))
    | .neq => some (True, vb (k.format.order a b != some .eq))
    | .lss => some (True, vb (k.format.order a b == some .lt))
    | .leq => some (True, vb (k.format.order a b == some .lt || k.format.order a b == some .eq))
    | .gtr => some (True, vb (k.format.order a b == some .gt))
    | .geq => some (True, vb (k.format.order a b == some .gt || k.format.order a b == some .eq))
    | _ => none
  else none

def boolBin (op : BinOp) (a b : Bool) : Option (Prop × V) :=
  match op with
  | .eql => some (True, vb (a == b))
  | .neq => some (True, vb (!(a == b)))
  | _ => none

def strBin (op : BinOp) (a b : ByteArray) : Option (Prop × V) :=
  match op with
  | .eql => some (True, vb (a == b))
  | .neq => some (True, vb (a != b))
  | _ => none

def isBoolT (P : Program) (t : TypeId) : Bool := match P.underlying t with | some .bool => true | _ => false


/-! ### types -/

/-- Is a variable of the type several cells (a struct, an array)? -/
def aggT (P : Program) (t : TypeId) : Option Bool :=
  match P.underlying t with
  | some (.struct _) => some true
  | some (.array _ _) => some true
  | some _ => some false
  | none => none
def szT (P : Program) (t : TypeId) : Option Nat := (P.info? t).map (·.size)

/-- The load of a variable of type t at cell j of element i. -/
def rdObj (P : Program) (t : TypeId) (o : O) (i e j : Nat) : Option (Prop × V) :=
  match aggT P t, szT P t with
  | some ag, some sz =>
    match o with
    | .box _ cs =>
      match ag with
      | true => if i * e + j + sz ≤ cs.length then some (True, .w (.a ((cs.drop (i * e + j)).take sz))) else none
      | false => (cs[i * e + j]?).map fun c => (True, .w (.c c))
    | .ebox cs =>
      match ag with
      | true => if i * e + j + sz ≤ cs.length then some (True, .w (.a ((cs.drop (i * e + j)).take sz))) else none
      | false => (cs[i * e + j]?).map fun c => (True, .w (.c c))
    | .arr _ k E r =>
      match ag with
      | true => match Nat.beq sz E, Nat.beq (i * e + j) 0 with
        | true, true => some (True, vblk k E r)
        | _, _ => none
      | false => some (i * e + j < E, vf k (r.getD (i * e + j) 0))
    | .xext (.st sh l) =>
      match ag with
      | true => none
      | false => match Nat.beq e sh.length, sh[j]? with
        | true, some (.i k) => some (i < l.length, vi k (((l.getD i []).getD j (.d (.v undef))).toI))
        | true, some .b => some (i < l.length, vb (((l.getD i []).getD j (.d (.v undef))).toB))
        | true, some (.f k) => some (i < l.length, vf k (((l.getD i []).getD j (.d (.v undef))).toF))
        | true, some .s => some (i < l.length, vs (((l.getD i []).getD j (.d (.v undef))).toS))
        | _, _ => none
    | .xext _ => none
    | o =>
      match o.cont with
      | some (.frs k E l) =>
        match ag with
        | true => match Nat.beq e E, Nat.beq j 0, Nat.beq sz E with
          | true, true, true => some (i < l.length, vblk k E (l.getD i []))
          | _, _, _ => none
        | false => match Nat.beq e E with
          | true => some (i < l.length ∧ j < E, vf k ((l.getD i []).getD j 0))
          | false => none
      | some (.floats k l) =>
        match Nat.beq e 1, Nat.beq j 0 with
        | true, true => match ag with
          | true => some (i + sz ≤ l.length, vblk k sz ((l.drop i).take sz))
          | false => some (i < l.length, vf k (l.getD i 0))
        | _, _ => none
      | some c =>
        match ag with
        | true => if e = c.e ∧ j + sz ≤ e then some (i < c.n, .w (.a ((List.range sz).map fun m => C.d (c.cell i (j + m))))) else none
        | false => if e = c.e ∧ j < e then some (i < c.n, .w (.c (.d (c.cell i j)))) else none
      | none => none
  | _, _ => none

/-- A part of a struct or an array. -/
def partW (P : Program) (t : TypeId) (cs : List C) (off : Nat) : Option V :=
  match aggT P t, szT P t with
  | some true, some sz => if off + sz ≤ cs.length then some (.w (.a ((cs.drop off).take sz))) else none
  | some false, some _ => (cs[off]?).map fun c => .w (.c c)
  | _, _ => none

def W.cells : W → List C
  | .c x => [x]
  | .a l => l
  | .b k e r => (frD k e r).map C.d

/-- Parts laid over the zero cells. -/
def fillC (place : Nat → Option (Nat × Nat)) (cells : List C) : List (Nat × W) → Option (List C)
  | [] => some cells
  | (i, v) :: rest =>
    match place i with
    | none => none
    | some (off, size) =>
      if v.cells.length = size ∧ off + v.cells.length ≤ cells.length then
        fillC place (v.cells.zipIdx.foldl (fun cs (c, j) => cs.set (off + j) c) cells) rest
      else none

def placesOf (P : Program) (fs : List Field) : List (Option (Nat × Nat)) := fs.map fun f => (szT P f.type).map fun s => (f.offset, s)

def zeroC (P : Program) (t : TypeId) : Option (List C) := ((P.info? t).bind (·.zero)).map fun v => v.cells.toList.map ofCell

/-- No value of several cells. -/
def C.one (hp : Hp) : C → Bool
  | .d x => x.one
  | .o h => match find hp h with
    | some .dead => false
    | some _ => true
    | none => false
  | _ => true
def W.one (hp : Hp) : W → Bool
  | .c x => x.one hp
  | .a _ => true
  | .b _ _ _ => true

/-- The operands of parts. -/
def rdParts (rd : Operand → Option V) (hp : Hp) : List (Nat × Operand) → Option (List (Nat × W))
  | [] => some []
  | (i, x) :: r =>
    match rd x, rdParts rd hp r with
    | some (.w v), some l => if v.one hp = true then some ((i, v) :: l) else none
    | _, _ => none

def buildC (P : Program) (t : TypeId) (parts : List (Nat × W)) : Option (List C) :=
  match zeroC P t, P.underlying t with
  | some z, some (.struct fs) => match (placesOf P fs.toList).mapM id with
    | some l => fillC (fun i => l[i]?) z parts
    | none => none
  | some z, some (.array _ elem) => match szT P elem with
    | some size => fillC (fun i => some (i * size, size)) z parts
    | none => none
  | _, _ => none

/-- The boxes that a closure holds. -/
def rdBoxes (rd : Operand → Option V) (hp : Hp) : List Operand → Option (List Nat)
  | [] => some []
  | x :: r =>
    match rd x, rdBoxes rd hp r with
    | some (.w (.c (.p h 0 _ 0))), some l => match find hp h with
      | some (.box _ _) => some (h :: l)
      | some (.ebox _) => some (h :: l)
      | _ => none
    | _, _ => none

def rdInts (rd : Operand → Option V) : List Operand → Option (List (IntKind × Int))
  | [] => some []
  | x :: r =>
    match rd x, rdInts rd r with
    | some v, some l => (v.int?).map (· :: l)
    | _, _ => none

def minI (k : IntKind) (a : Int) : List (IntKind × Int) → Option V
  | [] => some (vi k a)
  | (k', b) :: r => if k = k' then minI k (if b < a then b else a) r else none
def maxI (k : IntKind) (a : Int) : List (IntKind × Int) → Option V
  | [] => some (vi k a)
  | (k', b) :: r => if k = k' then maxI k (if b > a then b else a) r else none

/-- A float as a whole number; is it one of the kind? -/
def f2i (s : FloatKind) (b : Nat) : Int := ((s.decode b).toInt .zero).getD 0
def f2iOk (s : FloatKind) (k : IntKind) (b : Nat) : Bool := match (s.decode b).toInt .zero with
  | some n => decide (k.min ≤ n ∧ n ≤ k.max)
  | none => false
/-- Is a single float no number; a single float as a double one. -/
def isNan32 (b : Nat) : Bool := (FloatKind.decode .f32 b).isNaN
def to64 (b : Nat) : Nat := FloatKind.encode .f64 (FloatKind.decode .f32 b)

def convV (P : Program) (src dst : TypeId) (v : V) : Option (Prop × V) :=
  match P.underlying src, P.underlying dst, v.int?, v.flt? with
  | some (.int _), some (.int k), some (_, n), _ => some (True, vi k (k.wrap n))
  | some (.int _), some (.float k), some (_, n), _ => some (True, vf k (k.nearest n))
  | some (.float _), some (.int k), _, some (s, b) =>
    some (f2iOk s k b = true, vi k (f2i s b))
  | _, _, _, _ => none

/-- All the parts are equal. -/
def eqParts {α : Type} (f : α → Option Bool) : List α → Option Bool
  | [] => some true
  | [a] => f a
  | a :: r => match f a, eqParts f r with
    | some b, some c => some (b && c)
    | _, _ => none
/-- Two values of a type of numbers, bools and texts are equal. -/
def eqV (P : Program) : Nat → TypeId → V → V → Option Bool
  | 0, _, _, _ => none
  | d + 1, t, u, v =>
    match P.underlying t, u, v with
    | some (.int _), .w (.c (.d (.i k a))), .w (.c (.d (.i k' b))) => if k = k' then some (a == b) else none
    | some .bool, .w (.c (.d (.b a))), .w (.c (.d (.b b))) => some (a == b)
    | some .string, .w (.c (.d (.s a))), .w (.c (.d (.s b))) => some (a == b)
    | some (.struct fs), .w (.a xs), .w (.a ys) => match P.stoodInHeld t with
      | false => eqParts (fun f => match f.name == "_", partW P f.type xs f.offset, partW P f.type ys f.offset with
        | false, some a, some b => eqV P d f.type a b
        | _, _, _ => none) fs.toList
      | true => none
    | some (.array n elem), .w (.a xs), .w (.a ys) => match szT P elem with
      | some sz => eqParts (fun i => match partW P elem xs (i * sz), partW P elem ys (i * sz) with
        | some a, some b => eqV P d elem a b
        | _, _ => none) (List.range n)
      | none => none
    | _, _, _ => none

/-- The operations that yield a value and leave the world alone: what they ask, and the value. -/
def stepV0 (P : Program) (op : Op) (rd : Operand → Option V) (hp : Hp) : Option (Prop × V) :=
  match op with
  | .move x => (rd x).map fun v => (True, v)
  | .assign x => (rd x).map fun v => (True, v)
  | .pick c a b =>
    match (rd c).bind V.bool? with
    | some true => (rd a).map fun v => (True, v)
    | some false => (rd b).map fun v => (True, v)
    | none => none
  | .binOp op t x y _ =>
    match rd x, rd y with
    | some u, some v =>
      match u.int?, v.int? with
      | some (k, a), some (k', b) => intBin op k a k' b
      | _, _ =>
        match u.bool?, v.bool? with
        | some a, some b => if isBoolT P t = true then boolBin op a b else none
        | _, _ =>
          match u.str?, v.str? with
          | some a, some b => strBin op a b
          | _, _ =>
            match u.flt?, v.flt? with
            | some (k, a), some (k', b) => fltBin op k a k' b
            | _, _ => match u.agg?, v.agg?, P.eqGuardType P.depth t with
              | some xs, some ys, false => match op with
                | .eql => (eqV P 16 t (.w (.a xs)) (.w (.a ys))).map fun b => (True, vb b)
                | .neq => (eqV P 16 t (.w (.a xs)) (.w (.a ys))).map fun b => (True, vb (!b))
                | _ => none
              | _, _, _ => none
    | _, _ => none
  | .unOp op _ x =>
    match op, rd x with
    | .not, some v => (v.bool?).map fun b => (True, vb (!b))
    | .neg, some v => (v.int?).map fun (k, n) => (True, vi k (k.wrap (0 - n)))
    | _, _ => none
  | .convert src dst x => (rd x).bind (convV P src dst)
  | .extract t i =>
    match rd t with
    | some (.t l) => (l[i]?).map fun u => (True, .w u)
    | _ => none
  | .field t x f =>
    match P.underlying t, (rd x).bind V.agg? with
    | some (.struct fs), some cs => match fs.toList[f]? with
      | some g => (partW P g.type cs g.offset).map fun v => (True, v)
      | none => none
    | _, _ => none
  | .index t x i =>
    match (rd x).bind V.str?, P.underlying t, (rd i).bind V.int? with
    | some s, some .string, some (_, i) => some (0 ≤ i ∧ i < (s.size : Int), vi .u8 ((s.data.getD i.toNat 0).toNat : Int))
    | some _, _, _ => none
    | none, _, _ =>
    match P.underlying t, (rd x).bind V.agg?, (rd i).bind V.int? with
    | some (.array len elem), some cs, some (_, i) => match szT P elem with
      | some size => (partW P elem cs (i.toNat * size)).map fun v => (0 ≤ i ∧ i < (len : Int), v)
      | none => none
    | _, _, _ => none
  | .nilCheck x =>
    match rd x with
    | some (.w (.c (.p h i e j))) => some (True, .w (.c (.p h i e j)))
    | _ => none
  | .fieldAddr s x f =>
    match P.underlying s, rd x with
    | some (.struct fs), some (.w (.c (.p h i e j))) => match fs.toList[f]? with
      | some g => match szT P g.type with
        | some (_ + 1) => some (True, .w (.c (.p h i e (j + g.offset))))
        | _ => none
      | none => none
    | _, _ => none
  | .indexAddr t x ix =>
    match P.underlying t, rd x, (rd ix).bind V.int? with
    | some (.array len elem), some (.w (.c (.p h i e j))), some (_, n) => match szT P elem with
      | some size => some (0 ≤ n ∧ n < (len : Int), .w (.c (.p h i e (j + n.toNat * size))))
      | none => none
    | some (.slice elem), some (.w (.c (.o h))), some (_, n) => match (find hp h).bind O.cont, szT P elem with
      | some c, some size => if size = c.e then some (0 ≤ n ∧ n < (c.n : Int), .w (.c (.p h n.toNat c.e 0))) else none
      | _, _ => none
    | _, _, _ => none
  | .load t x =>
    match rd x with
    | some (.w (.c (.p h i e j))) => match find hp h with
      | some o => rdObj P t o i e j
      | none => none
    | _ => none
  | .build t parts =>
    match rdParts rd hp parts.toList with
    | some l => (buildC P t l).map fun cs => (True, .w (.a cs))
    | none => none
  | .makeFunc (.func f) first captured =>
    match first.toList, rdBoxes rd hp captured.toList with
    | [], some hs => some (True, .w (.c (.fn f hs)))
    | [x], some [] => match rdBoxes rd hp [x] with
      | some hs => some (True, .w (.c (.fb f hs)))
      | none => none
    | _, _ => none
  | .call c =>
    match c.callee, c.args.toList, c.argTypes.toList with
    | .builtin .len, [x], [t] =>
      match P.underlying t, rd x with
      | some (.slice _), some (.w (.c (.o h))) => ((find hp h).bind O.cont).map fun c => (True, vi .i64 (c.n : Int))
      | some (.slice _), some v => if v.nils? = true then some (True, vi .i64 0) else none
      | some .string, some v => (v.str?).map fun s => (True, vi .i64 (s.size : Int))
      | some (.array n _), some _ => some (True, vi .i64 (n : Int))
      | _, _ => none
    | .builtin .min, args, _ =>
      match rdInts rd args with
      | some ((k, a) :: r) => (minI k a r).map fun v => (True, v)
      | _ => none
    | .builtin .max, args, _ =>
      match rdInts rd args with
      | some ((k, a) :: r) => (maxI k a r).map fun v => (True, v)
      | _ => none
    | _, _, _ => none
  | _ => none

/-- A comparison with what is no number. -/
def nanBin (op : BinOp) : Option (Prop × V) :=
  match op with
  | .eql | .lss | .leq | .gtr | .geq => some (True, vb false)
  | .neq => some (True, vb true)
  | _ => none

/-- Two floats of a kind, one of them no number. -/
def nanPair (hp : Hp) (u v : V) : Bool :=
  match u.nan? hp, v.nan? hp with
  | some k, some k' => sameK k k'
  | some k, none => match v.flt? with
    | some (k', _) => sameK k k'
    | none => false
  | none, some k => match u.flt? with
    | some (k', _) => sameK k' k
    | none => false
  | none, none => false

/-- A bound of a slice expression. -/
def rdBound (rd : Operand → Option V) : Option Operand → Option (Option Int)
  | none => some none
  | some x => match (rd x).bind V.int? with
    | some (_, n) => some (some n)
    | none => none

/-- More operations that yield a value and leave the world alone. -/
def stepW [Globs] (P : Program) (op : Op) (rd : Operand → Option V) (hp : Hp) : Option (Prop × V) :=
  match op with
  | .binOp op _ x y _ =>
    match rd x, rd y with
    | some u, some v => match u.str?, v.str? with
      | some a, some b => match op with
        | .add => some (((a.size + b.size : Nat) : Int) ≤ 9223372036854775807, vs (a ++ b))
        | _ => none
      | _, _ => match nanPair hp u v with
        | true => nanBin op
        | false => none
    | _, _ => none
  | .slice t x lo hi none =>
    match P.underlying t, (rd x).bind V.str?, rdBound rd lo, rdBound rd hi with
    | some .string, some s, some l, some m => some (0 ≤ l.getD 0 ∧ l.getD 0 ≤ m.getD (s.size : Int) ∧ m.getD (s.size : Int) ≤ (s.size : Int), vs (s.extract (l.getD 0).toNat (m.getD (s.size : Int)).toNat))
    | _, _, _, _ => none
  | .index t x i =>
    match rd x with
    | some (.w (.b k E r)) => match P.underlying t, (rd i).bind V.int? with
      | some (.array len elem), some (_, i) => match szT P elem, Nat.beq len E, aggT P elem with
        | some 1, true, some false => some (0 ≤ i ∧ i < (len : Int), vf k (r.getD i.toNat 0))
        | _, _, _ => none
      | _, _ => none
    | _ => none
  | .sliceToArrayPointer arr x =>
    match P.underlying arr, rd x with
    | some (.array n _), some (.w (.c (.o h))) => match (find hp h).bind O.cont with
      | some c => some (n ≤ c.n ∧ 0 < c.n, .w (.c (.p h 0 c.e 0)))
      | none => none
    | _, _ => none
  | .nilCheck x =>
    match rd x with
    | some (.w (.c (.g n i e j))) => some (True, .w (.c (.g n i e j)))
    | _ => none
  | .fieldAddr s x f =>
    match P.underlying s, rd x with
    | some (.struct fs), some (.w (.c (.g n i e j))) => match fs.toList[f]? with
      | some g => match szT P g.type with
        | some (_ + 1) => some (True, .w (.c (.g n i e (j + g.offset))))
        | _ => none
      | none => none
    | _, _ => none
  | .indexAddr t x ix =>
    match P.underlying t, rd x, (rd ix).bind V.int? with
    | some (.array len elem), some (.w (.c (.g h 0 e 0))), some (_, n) => match szT P elem with
      | some size => match Nat.beq size e with
        | true => some (0 ≤ n ∧ n < (len : Int), .w (.c (.g h n.toNat e 0)))
        | false => none
      | none => none
    | some (.slice elem), some (.w (.c (.o h))), some (_, n) => match find hp h, szT P elem with
      | some (.xext X), some size => match Nat.beq size X.e with
        | true => some (0 ≤ n ∧ n < (X.n : Int), .w (.c (.p h n.toNat X.e 0)))
        | false => none
      | _, _ => none
    | _, _, _ => none
  | .load t x =>
    match rd x with
    | some (.w (.c (.g n i e j))) => match Globs.tab n with
      | some c => match c with
        | .frs _ _ _ => none
        | c => rdObj P t (.ext c) i e j
      | none => none
    | _ => none
  | .call c =>
    match c.callee, c.args.toList, c.argTypes.toList with
    | .builtin .len, [x], [t] =>
      match P.underlying t, rd x with
      | some (.slice _), some (.w (.c (.o h))) => match find hp h with
        | some (.xext X) => some (True, vi .i64 (X.n : Int))
        | _ => none
      | _, _ => none
    | _, _, _ => none
  | _ => none

/-- The operations that yield a value and leave the world alone: what they ask, and the value. -/
def stepV [Globs] (P : Program) (op : Op) (rd : Operand → Option V) (hp : Hp) : Option (Prop × V) :=
  match stepV0 P op rd hp with
  | some x => some x
  | none => stepW P op rd hp

section
variable {P : Program} (w : World)

theorem run_intBin {op : BinOp} {t : TypeId} {k k' : IntKind} {a b : Int} {ob : Prop} {v : V} (h : intBin op k a k' b = some (ob, v)) (ho : ob) (ρ : Env) :
    (binOp op t (.int k a) (.int k' b)).run P w = .ok (v.val ρ) w ∧ ∀ n, v.lt n := by
  unfold intBin at h
  cases op
  case shl =>
    simp only [Option.some.injEq, Prod.mk.injEq] at h
    obtain ⟨rfl, rfl⟩ := h
    refine ⟨?_, fun n => trivial⟩
    simp only [binOp, Op.shift]
    rw [if_neg (by omega)]
    simp [vi, V.val, W.val, C.val, D.val]
  case shr =>
    simp only [Option.some.injEq, Prod.mk.injEq] at h
    obtain ⟨rfl, rfl⟩ := h
    refine ⟨?_, fun n => trivial⟩
    simp only [binOp, Op.shift]
    rw [if_neg (by omega)]
    simp [vi, V.val, W.val, C.val, D.val]
  case andNot => simp at h
  all_goals
    dsimp only at h
    split at h
    · rename_i hk
      subst hk
      simp only [Option.some.injEq, Prod.mk.injEq] at h
      obtain ⟨rfl, rfl⟩ := h
      refine ⟨?_, fun n => trivial⟩
      first
        | (simp [binOp, Op.intArith, Op.intCmp, vi, vb, V.val, W.val, C.val, D.val]; done)
        | (simp [binOp, Op.intDiv, ho, vi, V.val, W.val, C.val, D.val]; done)
        | (simp [binOp, Op.intBits, vi, V.val, W.val, C.val, D.val]; done)
    · cases h

theorem run_fltBin {op : BinOp} {t : TypeId} {k k' : FloatKind} {a b : Nat} {ob : Prop} {v : V} (h : fltBin op k a k' b = some (ob, v)) (ρ : Env) :
    (binOp op t (.float k a) (.float k' b)).run P w = .ok (v.val ρ) w ∧ ∀ n, v.lt n := by
  unfold fltBin at h
  split at h
  · rename_i hk
    subst hk
    cases op <;> simp only [Option.some.injEq, Prod.mk.injEq, reduceCtorEq] at h <;> obtain ⟨_, rfl⟩ := h <;> refine ⟨?_, fun n => trivial⟩ <;>
      simp [binOp, Op.floatCmp, vb, V.val, W.val, C.val, D.val]
  · cases h

theorem run_boolBin {op : BinOp} {t : TypeId} {a b : Bool} {ob : Prop} {v : V} (h : boolBin op a b = some (ob, v)) (ht : isBoolT P t = true) (ρ : Env) :
    (binOp op t (.bool a) (.bool b)).run P w = .ok (v.val ρ) w ∧ ∀ n, v.lt n := by
  have hu : P.underlying t = some .bool := by
    unfold isBoolT at ht
    split at ht
    · assumption
    · cases ht
  unfold boolBin at h
  cases op <;> simp only [Option.some.injEq, Prod.mk.injEq, reduceCtorEq] at h <;> obtain ⟨_, rfl⟩ := h <;> refine ⟨?_, fun n => trivial⟩ <;>
    (simp only [binOp]; simp [Op.equal, Op.maxDepth, run_equalIn_bool' w 9999 t a b hu, vb, V.val, W.val, C.val, D.val])

theorem run_strBin {op : BinOp} {t : TypeId} {a b : ByteArray} {ob : Prop} {v : V} (h : strBin op a b = some (ob, v)) (ρ : Env) :
    (binOp op t (.string a) (.string b)).run P w = .ok (v.val ρ) w ∧ ∀ n, v.lt n := by
  unfold strBin at h
  cases op <;> simp only [Option.some.injEq, Prod.mk.injEq, reduceCtorEq] at h <;> obtain ⟨_, rfl⟩ := h <;> refine ⟨?_, fun n => trivial⟩ <;>
    simp [binOp, Op.stringOp, vb, V.val, W.val, C.val, D.val, bne, beq_toListBytes]

theorem run_aggT {t : TypeId} {b : Bool} (h : aggT P t = some b) : (isAgg t).run P w = .ok b w := by
  unfold aggT at h
  split at h <;> simp_all [isAgg, run_underlying]

theorem run_szT {t : TypeId} {n : Nat} (h : szT P t = some n) : (sizeOf t).run P w = .ok n w := by
  unfold szT at h
  cases hi : P.info? t with
  | none => simp [hi] at h
  | some i => simp [hi] at h; simp [sizeOf, typeInfo, hi, h]

theorem run_loadVar_agg {t : TypeId} {a : Addr} {cs : List Value} (h : aggT P t = some true) (hs : szT P t = some cs.length)
    (hc : ∀ j v, cs[j]? = some v → w.cell? (a.add j) = some v) : (loadVar t a).run P w = .ok (.agg cs.toArray) w := by
  simp only [loadVar, Sem.run_bind, run_aggT w h, Result.andThen_ok, if_true, run_szT w hs, run_loadCells_list w a cs hc, Sem.run_pure]

theorem run_loadVar_one {t : TypeId} {a : Addr} {v : Value} (h : aggT P t = some false) (hc : w.cell? a = some v) : (loadVar t a).run P w = .ok v w := by
  simp only [loadVar, Sem.run_bind, run_aggT w h, Result.andThen_ok, Bool.false_eq_true, if_false, run_load, hc]

theorem add_at (b o n : Nat) : (⟨b, o, none⟩ : Addr).add n = ⟨b, o + n, none⟩ := by
  unfold Addr.add
  split
  · rename_i h; subst h; rfl
  · rfl
end

end Go.Sx
