/- A symbolic executor for the model's code: the operations that change the world. -/
import Derived.Test.YtndhdojnlobloaaSxD
set_option linter.unusedSectionVars false
set_option linter.unusedSimpArgs false
set_option linter.unusedVariables false
open Go.RowKit
namespace Go.Sx

/-- What a step asks, its value, the heap behind it, the next object's number. -/
structure Res where
  ob : Prop
  v : V
  hp : Hp
  nx : Nat

/-- What a step comes to, parted by tests. -/
inductive RT where
  | leaf (r : Res)
  | br (b : Bool) (x y : RT)

def RT.sel : RT → Res
  | .leaf r => r
  | .br b x y => match b with
    | true => x.sel
    | false => y.sel
def RT.leaf? : RT → Option Res
  | .leaf r => some r
  | _ => none

abbrev Spec := List V → Hp → Nat → Option RT

def noViews (hp : Hp) : Hp := hp.map fun x => (x.1, match x.2 with | .view _ _ _ => .dead | o => o)

theorem find_noViews (hp : Hp) (h : Nat) : find (noViews hp) h = (find hp h).map fun o => match o with | .view _ _ _ => .dead | o => o := by
  induction hp with
  | nil => rfl
  | cons x r ih =>
    obtain ⟨k, o⟩ := x
    simp only [noViews, List.map_cons, find] at *
    split
    · rfl
    · exact ih

def dOf : C → Option D
  | .d x => some x
  | _ => none
def dsOf : List C → Option (List D)
  | [] => some []
  | x :: r => match dOf x, dsOf r with
    | some d, some l => some (d :: l)
    | _, _ => none

theorem dsOf_eq : ∀ {l : List C} {ds : List D}, dsOf l = some ds → l = ds.map C.d
  | [], ds, h => by simp only [dsOf, Option.some.injEq] at h; subst h; rfl
  | x :: r, ds, h => by
    simp only [dsOf] at h
    split at h
    · rename_i d l hx hl
      cases h
      have := dsOf_eq hl
      cases x <;> simp [dOf] at hx
      subst hx
      simp [this]
    · cases h

/-- n parts of e cells. -/
def chunk (e : Nat) : Nat → List D → List (List D)
  | 0, _ => []
  | n + 1, l => l.take e :: chunk e n (l.drop e)

theorem chunk_flat (e : Nat) : ∀ (n : Nat) (l : List D), l.length = n * e → (chunk e n l).flatten = l ∧ (chunk e n l).length = n
  | 0, l, h => by
    have : l = [] := List.eq_nil_of_length_eq_zero (by simpa using h)
    subst this
    exact ⟨rfl, rfl⟩
  | n + 1, l, h => by
    have h2 : (l.drop e).length = n * e := by rw [List.length_drop, h, Nat.add_mul]; omega
    have := chunk_flat e n (l.drop e) h2
    simp only [chunk, List.flatten_cons, this.1, List.take_append_drop, List.length_cons, this.2, and_self]

theorem flatten_rep {α : Type} (z : List α) (n : Nat) : (List.replicate n z).flatten.length = n * z.length := by simp

theorem flatten_rep_get {α : Type} (z : List α) : ∀ (n i : Nat), i < n * z.length → (List.replicate n z).flatten[i]? = z[i % z.length]?
  | 0, i, h => by simp at h
  | n + 1, i, h => by
    rw [List.replicate_succ, List.flatten_cons]
    by_cases hi : i < z.length
    · rw [List.getElem?_append_left hi, Nat.mod_eq_of_lt hi]
    · have hge : z.length ≤ i := by omega
      rw [List.getElem?_append_right hge, flatten_rep_get z n (i - z.length) (by rw [Nat.add_mul] at h; omega)]
      congr 1
      exact (Nat.mod_eq_sub_mod hge).symm

theorem made_eq (z : Array Value) (n : Nat) : (madeCells z (n * z.size)).toList = (List.replicate n z.toList).flatten := by
  apply List.ext_getElem?
  intro i
  by_cases hi : i < n * z.size
  · have h0 : 0 < z.size := by
      rcases Nat.eq_zero_or_pos z.size with h | h
      · rw [h] at hi; omega
      · exact h
    have hm := Nat.mod_lt i h0
    rw [flatten_rep_get z.toList n i (by simpa using hi)]
    simp [madeCells, hi, hm]
  · rw [List.getElem?_eq_none (by simp [madeCells]; omega), List.getElem?_eq_none (by simp; omega)]

/-- The cells of a slice that is written out. -/
def buildSliceC (P : Program) (elem n : Nat) (parts : List (Nat × W)) : Option Cont :=
  match zeroC P elem, szT P elem with
  | some z, some (e + 1) =>
    if z.length = e + 1 ∧ n * (e + 1) ≤ 4096 then
      match fillC (fun i => some (i * (e + 1), e + 1)) (List.replicate n z).flatten parts, dsOf z with
      | some out, some zd => match dsOf out with
        | some ds => mkCont zd (chunk (e + 1) n ds)
        | none => none
      | _, _ => none
    else none
  | _, _ => none

/-- The object behind a value that is a slice, and its content. -/
def sliceOf (hp : Hp) (v : V) : Option (Option Nat × Option Cont) :=
  match v with
  | .w (.c (.o h)) => match (find hp h).bind O.cont with
    | some c => some (some h, some c)
    | none => none
  | .w (.c (.d (.v (.slice none 0 0)))) => some (none, none)
  | _ => none

def contOr (z : List D) (c : Option Cont) : Option Cont :=
  match c with
  | some c => some c
  | none => mkCont z []

/-- A part of an object's slice. -/
def cutO (h : Nat) (o : O) (c : Cont) : O :=
  match o with
  | .ext _ => .ext c
  | .view r _ _ => .view r c false
  | _ => .view h c false

def bytesT (P : Program) (t : TypeId) : Option Nat := (P.info? t).map (·.bytes)

def rdAll (rd : Operand → Option V) : List Operand → Option (List V)
  | [] => some []
  | x :: r => match rd x, rdAll rd r with
    | some v, some l => some (v :: l)
    | _, _ => none

/-- Each cell of the content is one cell. -/
def Cont.one : Cont → Bool
  | .lits e l => (Cont.lits e l).flat.all D.one
  | _ => true

/-- A slice that is full, and has an element. -/
def fullView (hp : Hp) (v : Option V) : Option Cont :=
  match v with
  | some (.w (.c (.o h))) => match find hp h with
    | some (.view _ c true) => some c
    | _ => none
  | _ => none

def stepAppView (P : Program) (t : TypeId) (c1 : Cont) (x : Option V) (hp : Hp) (nx : Nat) : Option Res :=
  match P.underlying t, x.bind (sliceOf hp) with
  | some (.slice elem), some (_, cx) =>
    match (zeroC P elem).bind dsOf, szT P elem, bytesT P elem with
    | some z, some (e + 1), some b => match contOr z cx with
      | some c2 => match c1.app c2 with
        | some c3 => if z.length = e + 1 ∧ c1.e = e + 1 then
            some ⟨0 < c1.n ∧ 0 < c2.n ∧ (c1.n + c2.n) * b ≤ 140737488355328 ∧ c1.n + c2.n ≤ 9223372036854775807, .w (.c (.o nx)), (nx, .row elem c3) :: hp, nx + 1⟩
          else none
        | none => none
      | none => none
    | _, _, _ => none
  | _, _ => none

/-- A great array of floats that is zero. -/
def arrF (P : Program) (t : TypeId) : Option (FloatKind × List Nat) :=
  match aggT P t, szT P t, (zeroC P t).bind dsOf with
  | some true, some sz, some ds => match headF ds, Nat.ble 8 ds.length, Nat.beq sz ds.length with
    | some k, true, true => (fltsD k ds).map fun r => (k, r)
    | _, _, _ => none
  | _, _, _ => none

/-- Elements lo up to hi (not included). -/
def XC.sub : XC → Nat → Nat → XC
  | .st sh l, lo, hi => .st sh ((l.drop lo).take (hi - lo))
  | .ii k l, lo, hi => .ii k ((l.drop lo).take (hi - lo))
  | .ff k l, lo, hi => .ff k ((l.drop lo).take (hi - lo))
  | .bb k e l, lo, hi => .bb k e ((l.drop lo).take (hi - lo))
  | .rr e l, lo, hi => .rr e ((l.drop lo).take (hi - lo))

/-- What a load of a cell of a content with lists within yields. -/
def ncW (nx : Nat) : NC → W
  | .d x => .c (.d x)
  | .r _ => .c (.o nx)
def ncH (nx : Nat) (hp : Hp) : NC → Hp
  | .d _ => hp
  | .r c => (nx, .ext c) :: hp
def ncN (nx : Nat) : NC → Nat
  | .d _ => nx
  | .r _ => nx + 1
def ncs : List NC → Nat → Hp → List C × Hp × Nat
  | [], nx, hp => ([], hp, nx)
  | x :: l, nx, hp => match ncs l (ncN nx x) (ncH nx hp x) with
    | (cs, hp', nx') => ((match x with | .d y => C.d y | .r _ => C.o nx) :: cs, hp', nx')

/-- Floats of a kind. -/
def fltCells (k : FloatKind) : List C → Option (List Nat)
  | [] => some []
  | .d (.f k' n) :: l => match sameK k k', fltCells k l with
    | true, some r => some (n :: r)
    | _, _ => none
  | _ :: _ => none

/-- What a map holds of a key. -/
def mapGet : List ((Int × Int) × Int) → Int → Int → Option Int
  | [], _, _ => none
  | e :: r, a, b => match e.1.1 == a && e.1.2 == b with
    | true => some e.2
    | false => mapGet r a b
/-- A map with an entry more, or another one. -/
def mapPut : List ((Int × Int) × Int) → Int → Int → Int → List ((Int × Int) × Int)
  | [], a, b, v => [((a, b), v)]
  | e :: r, a, b, v => match e.1.1 == a && e.1.2 == b with
    | true => ((a, b), v) :: r
    | false => e :: mapPut r a b v
/-- A map from two whole numbers to one. -/
def mapT (P : Program) (t : TypeId) : Option (TypeId × TypeId × TypeId) :=
  match P.underlying t with
  | some (.map k e) => match P.underlying k, P.underlying e, (P.info? e).bind (·.zero) with
    | some (.array 2 el), some (.int .i64), some (.int .i64 0) => match P.underlying el, szT P el, aggT P el with
      | some (.int .i64), some 1, some false => some (k, e, el)
      | _, _, _ => none
    | _, _, _ => none
  | _ => none
def mapOf (P : Program) (t : TypeId) : Bool := (mapT P t).isSome

/-- Operations on great arrays, on contents with lists within, and slices with a limit. -/
def stepX (P : Program) (op : Op) (rd : Operand → Option V) (hp : Hp) (nx : Nat) : Option Res :=
  match op with
  | .box elem x =>
    match rd x with
    | some (.w (.b k e r)) => some ⟨True, .w (.c (.p nx 0 1 0)), (nx, .arr elem k e r) :: hp, nx + 1⟩
    | _ => none
  | .alloc elem =>
    match arrF P elem with
    | some (k, r) => some ⟨True, .w (.c (.p nx 0 1 0)), (nx, .arr elem k r.length r) :: hp, nx + 1⟩
    | none => none
  | .buildSlice t n parts =>
    match P.underlying t, parts.toList with
    | some (.slice elem), [(0, x)] => match rd x, szT P elem, zeroC P elem with
      | some (.w (.b k (e + 1) r)), some sz, some z => match Nat.beq n 1, Nat.beq sz (e + 1), Nat.beq z.length (e + 1), Nat.ble (e + 1) 4096 with
        | true, true, true, true => some ⟨True, .w (.c (.o nx)), (nx, .row elem (.frs k (e + 1) [r])) :: hp, nx + 1⟩
        | _, _, _, _ => none
      | _, _, _ => none
    | _, _ => none
  | .slice t x lo hi none =>
    match P.underlying t, rd x, rdBound rd lo, rdBound rd hi with
    | some (.array n elem), some (.w (.c (.p h 0 1 0))), some l, some m =>
      match find hp h, szT P elem with
      | some (.arr _ k E r), some 1 => match Nat.beq n E, Nat.ble 1 n with
        | true, true =>
          some ⟨r.length = n ∧ 0 ≤ l.getD 0 ∧ l.getD 0 ≤ m.getD (n : Int) ∧ m.getD (n : Int) ≤ (n : Int), .w (.c (.o nx)), (nx, .view h (Cont.sub (.floats k r) (l.getD 0).toNat (m.getD (n : Int)).toNat) m.isNone) :: hp, nx + 1⟩
        | _, _ => none
      | _, _ => none
    | some (.slice elem), some (.w (.c (.o h))), some l, some m =>
      match find hp h, szT P elem with
      | some (.xext X), some sz => match Nat.beq sz X.e, Nat.ble 1 sz with
        | true, true =>
          some ⟨0 ≤ l.getD 0 ∧ l.getD 0 ≤ m.getD (X.n : Int) ∧ m.getD (X.n : Int) ≤ (X.n : Int), .w (.c (.o nx)), (nx, .xext (X.sub (l.getD 0).toNat (m.getD (X.n : Int)).toNat)) :: hp, nx + 1⟩
        | _, _ => none
      | _, _ => none
    | _, _, _, _ => none
  | .slice t x lo (some hi) (some mx) =>
    match P.underlying t, rd x, rdBound rd lo, (rd hi).bind V.int?, (rd mx).bind V.int? with
    | some (.slice elem), some (.w (.c (.o h))), some l, some (_, m), some (_, q) =>
      match find hp h, szT P elem with
      | some o, some (e + 1) => match o.cont with
        | some c => if c.e = e + 1 then
            some ⟨0 ≤ l.getD 0 ∧ l.getD 0 ≤ m ∧ m ≤ q ∧ q ≤ (c.n : Int), .w (.c (.o nx)), (nx, cutO h o (c.sub (l.getD 0).toNat m.toNat)) :: hp, nx + 1⟩
          else none
        | none => none
      | _, _ => none
    | _, _, _, _, _ => none
  | .load t x =>
    match rd x with
    | some (.w (.c (.p h i e j))) => match find hp h with
      | some (.xext X) => match Nat.beq e X.e, aggT P t with
        | true, some false => match Nat.blt j X.e, X.cell i j with
          | true, .r c => some ⟨i < X.n, .w (.c (.o nx)), (nx, .ext c) :: hp, nx + 1⟩
          | _, _ => none
        | true, some true => match Nat.beq j 0, szT P t with
          | true, some sz => match Nat.beq sz X.e with
            | true => match ncs ((List.range X.e).map fun m => X.cell i m) nx hp with
              | (cs, hp', nx') => some ⟨i < X.n, .w (.a cs), hp', nx'⟩
            | false => none
          | _, _ => none
        | _, _ => none
      | _ => none
    | _ => none
  | .store t x y =>
    match rd x, rd y with
    | some (.w (.c (.p h i e j))), some (.w (.c (.d (.f k v)))) =>
      match aggT P t, szT P t, find hp h with
      | some false, some 1, some (.arr ty k' E r) => match sameK k k' with
        | true => some ⟨i * e + j < E, vu, (h, .arr ty k' E (setF E r (i * e + j) v)) :: noViews hp, nx⟩
        | false => none
      | some false, some 1, some (.row ty (.frs k' (E + 1) l)) => match sameK k k', Nat.beq e (E + 1) with
        | true, true => some ⟨i < l.length ∧ j < E + 1, vu, (h, .row ty (.frs k' (E + 1) (l.set i (setF (E + 1) (l.getD i []) j v)))) :: noViews hp, nx⟩
        | _, _ => none
      | _, _, _ => none
    | some (.w (.c (.p h i e 0))), some (.w (.b k E' v)) =>
      match aggT P t, szT P t, find hp h with
      | some true, some sz, some (.arr ty k' E r) => match sameK k k', Nat.beq sz E, Nat.beq E' E, Nat.beq i 0 with
        | true, true, true, true => some ⟨True, vu, (h, .arr ty k' E v) :: noViews hp, nx⟩
        | _, _, _, _ => none
      | some true, some sz, some (.row ty (.frs k' (E + 1) l)) => match sameK k k', Nat.beq sz (E + 1), Nat.beq E' (E + 1), Nat.beq e (E + 1) with
        | true, true, true, true => some ⟨i < l.length, vu, (h, .row ty (.frs k' (E + 1) (l.set i v))) :: noViews hp, nx⟩
        | _, _, _, _ => none
      | _, _, _ => none
    | some (.w (.c (.p h i e 0))), some (.w (.a cs)) =>
      match aggT P t, szT P t, find hp h with
      | some true, some sz, some (.arr ty k E r) => match fltCells k cs with
        | some v => match Nat.beq sz E, Nat.beq v.length E, Nat.beq i 0 with
          | true, true, true => some ⟨True, vu, (h, .arr ty k E v) :: noViews hp, nx⟩
          | _, _, _ => none
        | none => none
      | _, _, _ => none
    | _, _ => none
  | .makeMap t none =>
    match mapOf P t with
    | true => some ⟨True, .w (.c (.o nx)), (nx, .map []) :: hp, nx + 1⟩
    | false => none
  | .lookup t x i true =>
    match mapOf P t, rd x, rd i with
    | true, some (.w (.c (.o h))), some (.w (.a [.d (.i .i64 a), .d (.i .i64 b)])) => match find hp h with
      | some (.map es) => some ⟨True, .t [.c (.d (.i .i64 ((mapGet es a b).getD 0))), .c (.d (.b (mapGet es a b).isSome))], hp, nx⟩
      | _ => none
    | _, _, _ => none
  | .mapUpdate t m i y =>
    match mapOf P t, rd m, rd i, rd y with
    | true, some (.w (.c (.o h))), some (.w (.a [.d (.i .i64 a), .d (.i .i64 b)])), some (.w (.c (.d (.i .i64 v)))) => match find hp h with
      | some (.map es) => some ⟨True, vu, (h, .map (mapPut es a b v)) :: noViews hp, nx⟩
      | _ => none
    | _, _, _, _ => none
  | _ => none

/-- The operations that change the world. -/
def stepH (P : Program) (sp : Nat → Option (Bool × Spec)) (op : Op) (rd : Operand → Option V) (hp : Hp) (nx : Nat) : Option Res :=
  match op with
  | .box elem x =>
    match rd x with
    | some (.w u) => if u.one hp = true then some ⟨True, .w (.c (.p nx 0 1 0)), (nx, .box elem u.cells) :: hp, nx + 1⟩ else none
    | _ => none
  | .alloc elem =>
    match zeroC P elem with
    | some z => some ⟨True, .w (.c (.p nx 0 1 0)), (nx, .box elem z) :: hp, nx + 1⟩
    | none => none
  | .buildSlice t n parts =>
    match P.underlying t, rdParts rd hp parts.toList with
    | some (.slice elem), some l => match buildSliceC P elem n l with
      | some c => some ⟨True, .w (.c (.o nx)), (nx, .row elem c) :: hp, nx + 1⟩
      | none => none
    | _, _ => none
  | .makeSlice t l c =>
    match P.underlying t, (rd l).bind V.int?, (rd c).bind V.int? with
    | some (.slice elem), some (_, n), some (_, m) =>
      match (zeroC P elem).bind dsOf, szT P elem, bytesT P elem with
      | some z, some (e + 1), some b => if z.length = e + 1 then match repCont z n.toNat with
          | some c => some ⟨0 ≤ n ∧ n = m ∧ (b : Int) * n ≤ 281474976710656 ∧ n ≤ 9223372036854775807, .w (.c (.o nx)), (nx, .row elem c) :: hp, nx + 1⟩
          | none => none
        else none
      | _, _, _ => none
    | _, _, _ => none
  | .slice t x lo hi none =>
    match P.underlying t, rd x, rdBound rd lo, rdBound rd hi with
    | some (.array n elem), some (.w (.c (.p h 0 1 j))), some none, some none =>
      match find hp h, szT P elem, (zeroC P elem).bind dsOf with
      | some (.box _ cs), some (e + 1), some z => match dsOf ((cs.drop j).take (n * (e + 1))) with
        | some ds => if z.length = e + 1 ∧ ds.length = n * (e + 1) ∧ 0 < n then match mkCont z (chunk (e + 1) n ds) with
            | some c => some ⟨True, .w (.c (.o nx)), (nx, .view h c true) :: hp, nx + 1⟩
            | none => none
          else none
        | none => none
      | _, _, _ => none
    | some (.slice elem), some (.w (.c (.o h))), some l, some m =>
      match find hp h, szT P elem with
      | some o, some (e + 1) => match o.cont with
        | some c => if c.e = e + 1 then
            let lo := l.getD 0
            let hi := m.getD (c.n : Int)
            some ⟨0 ≤ lo ∧ lo ≤ hi ∧ hi ≤ (c.n : Int), .w (.c (.o nx)), (nx, cutO h o (c.sub lo.toNat hi.toNat)) :: hp, nx + 1⟩
          else none
        | none => none
      | _, _ => none
    | _, _, _, _ => none
  | .store t x y =>
    match rd x, rd y with
    | some (.w (.c (.p h i e j))), some (.w u) =>
      if u.one hp = true ∧ szT P t = some u.cells.length ∧ (u.cells.all fun c => c.one hp) = true then
        match find hp h with
        | some (.box ty cs) => if i * e + j + u.cells.length ≤ cs.length then
            some ⟨True, vu, (h, .box ty (cs.take (i * e + j) ++ u.cells ++ cs.drop (i * e + j + u.cells.length))) :: noViews hp, nx⟩
          else none
        | some (.row ty c) => match dsOf u.cells with
          | some ds => match c.upd i j ds with
            | some c' => if e = c.e ∧ 0 < e then some ⟨i < c.n, vu, (h, .row ty c') :: noViews hp, nx⟩ else none
            | none => none
          | none => none
        | _ => none
      else none
    | _, _ => none
  | .call c =>
    match c.callee, c.args.toList, c.argTypes.toList with
    | .builtin .append, [s, x], [t, t'] =>
      if t = t' then
        match fullView hp (rd s) with
        | some c1 => stepAppView P t c1 (rd x) hp nx
        | none => match P.underlying t, (rd s).bind (sliceOf hp), (rd x).bind (sliceOf hp) with
        | some (.slice elem), some (hs, cs), some (_, cx) =>
          match (zeroC P elem).bind dsOf, szT P elem, bytesT P elem, find hp (hs.getD nx) with
          | some z, some (e + 1), some b, os =>
            match (match hs, os with
                | none, _ => true
                | some _, some (.row ty _) => ty == elem
                | _, _ => false), contOr z cs, contOr z cx with
            | true, some c1, some c2 => match c1.app c2 with
              | some c3 => if z.length = e + 1 ∧ c1.e = e + 1 ∧ c2.one = true then
                  some ⟨(c1.n + c2.n) * b ≤ 140737488355328 ∧ c1.n + c2.n ≤ 9223372036854775807, .w (.c (.o nx)),
                    (nx, .row elem c3) :: (match hs with | some h => (h, .dead) :: noViews hp | none => noViews hp), nx + 1⟩
                else none
              | none => none
            | _, _, _ => none
          | _, _, _, _ => none
        | _, _, _ => none
      else none
    | .value f, args, _ =>
      match rd f, rdAll rd args with
      | some (.w (.c (.fn g hs))), some vs => match sp g with
        | some (_, S) => (S (vs ++ hs.map fun h => .w (.c (.o h))) hp nx).bind RT.leaf?
        | none => none
      | some (.w (.c (.fb g hs))), some vs => match sp g with
        | some (_, S) => (S ((hs.map fun h => .w (.c (.o h))) ++ vs) hp nx).bind RT.leaf?
        | none => none
      | _, _ => none
    | _, _, _ => none
  | _ => none

/-- A float, or nothing. -/
def arith (op : BinOp) (k : FloatKind) (a b : Nat) : Option (Option Nat) :=
  match op with
  | .add => some (k.format.add a b)
  | .sub => some (k.format.sub a b)
  | .mul => some (k.format.mul a b)
  | .quo => some (k.format.div a b)
  | _ => none

/-- The operations that may come to a float that is no number, and calls. -/
def stepT (P : Program) (sp : Nat → Option (Bool × Spec)) (op : Op) (rd : Operand → Option V) (hp : Hp) (nx : Nat) : Option RT :=
  match op with
  | .binOp op _ x y _ =>
    match rd x, rd y with
    | some (.w (.c (.d (.f k a)))), some (.w (.c (.d (.f k' b)))) => match sameK k k', arith op k a b with
      | true, some r => some (.br r.isSome (.leaf ⟨True, vf k (r.getD 0), hp, nx⟩) (.leaf ⟨True, .w (.c (.o nx)), (nx, .nan k) :: hp, nx + 1⟩))
      | _, _ => none
    | _, _ => none
  | .convert src dst x =>
    match P.underlying src, P.underlying dst, rd x with
    | some (.float .f32), some (.float .f64), some (.w (.c (.d (.f .f32 b)))) =>
      some (.br (isNan32 b) (.leaf ⟨True, .w (.c (.o nx)), (nx, .nan .f64) :: hp, nx + 1⟩) (.leaf ⟨True, vf .f64 (to64 b), hp, nx⟩))
    | _, _, _ => none
  | .call c =>
    match c.callee with
    | .value f => match rd f, rdAll rd c.args.toList with
      | some (.w (.c (.fn g hs))), some vs => match sp g with
        | some (_, S) => S (vs ++ hs.map fun h => .w (.c (.o h))) hp nx
        | none => none
      | some (.w (.c (.fb g hs))), some vs => match sp g with
        | some (_, S) => S ((hs.map fun h => .w (.c (.o h))) ++ vs) hp nx
        | none => none
      | _, _ => none
    | _ => none
  | _ => none

end Go.Sx
