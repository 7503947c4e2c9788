/- A symbolic executor for the model's code: regions in the text's order, tests, blocks, loops. -/
import Derived.Test.YtndhdojnlobloaaSxI
set_option linter.unusedSectionVars false
set_option linter.unusedSimpArgs false
set_option linter.unusedVariables false
open Go.RowKit
namespace Go.Sx

structure St where
  tm : List (Nat × V)
  hp : Hp
  nx : Nat

def getT : List (Nat × V) → Nat → Option V
  | [], _ => none
  | (k, v) :: r, t => if k = t then some v else getT r t

def rdSt [Globs] (st : St) : Operand → Option V
  | .tmp t => getT st.tm t
  | .const v => some (.w (ofValue v))
  | .global g => match Globs.tab g with
    | some c => some (.w (.c (.g g 0 c.e 0)))
    | none => some (.w (.c (.d (.v (.pointer (some ⟨g, 0, none⟩))))))
  | .func f => some (.w (.c (.fn f [])))

/-- What the executor's state says of a frame and a world. -/
structure Rel [Globs] (ρ : Env) (B : Bd) (N n0 : Nat) (st : St) (a : Act) (w : World) : Prop where
  tm : ∀ t v, getT st.tm t = some v → v.lt st.nx ∧ a.tmps.getD t undef = v.val ρ
  size : a.tmps.size = N
  defers : a.defers = []
  heap : HRel ρ B st.hp st.nx w
  le : Old B w
  n0 : n0 ≤ st.nx

theorem Rel.reads [Globs] {ρ : Env} {B : Bd} {N n0 : Nat} {st : St} {a : Act} {w : World} (h : Rel ρ B N n0 st a w) : Reads ρ st.nx (rdSt st) a := by
  intro x u hx
  cases x with
  | tmp t => exact h.tm t u hx
  | const v =>
    simp only [rdSt, Option.some.injEq] at hx
    subst hx
    exact ⟨ofValue_lt _ v, (ofValue_val ρ v).symm⟩
  | global g =>
    simp only [rdSt] at hx
    split at hx
    · cases hx
      exact ⟨trivial, by simp [V.val, W.val, C.val, Act.eval]⟩
    · cases hx
      exact ⟨trivial, rfl⟩
  | func f =>
    simp only [rdSt, Option.some.injEq] at hx
    subst hx
    exact ⟨(fun _ hh => by cases hh), by simp [V.val, W.val, C.val, Act.eval]⟩

/-- A branch on a test that may be known. -/
def Br (b : Bool) (x y : Prop) : Prop := Bool.rec (motive := fun _ => Prop) y x b

/-- What a proof owes. -/
structure Ob (p : Prop) : Prop where
  h : p

theorem Br.intro {b : Bool} {x y : Prop} (h : b = true → x) (k : b = false → y) : Br b x y := by
  cases b
  · exact k rfl
  · exact h rfl

/-- The state behind an operation. -/
def St.put (st : St) (d : Option Nat) (r : Res) : St :=
  match d with
  | some t => ⟨(t, r.v) :: st.tm, r.hp, r.nx⟩
  | none => ⟨st.tm, r.hp, r.nx⟩

def okDst (N : Nat) : Option Nat → Bool
  | some t => Nat.blt t N
  | none => true

/-- Operations that ask nothing. -/
def trivB (op : Op) (rd : Operand → Option V) (hp : Hp) : Bool :=
  match op with
  | .move _ | .assign _ | .pick _ _ _ | .unOp _ _ _ | .extract _ _ | .field _ _ _ | .nilCheck _ | .fieldAddr _ _ _ | .build _ _ | .makeFunc _ _ _ | .box _ _ | .alloc _ | .buildSlice _ _ _ => true
  | .binOp op _ x _ _ => match op with
    | .quo | .rem | .shl | .shr => false
    | .add => match (rd x).bind V.str? with
      | some _ => false
      | none => true
    | _ => true
  | .load _ x => match rd x with
    | some (.w (.c (.p h _ _ _))) => match find hp h with
      | some (.box _ _) => true
      | _ => false
    | _ => false
  | .store _ x _ => match rd x with
    | some (.w (.c (.p h _ _ _))) => match find hp h with
      | some (.box _ _) => true
      | _ => false
    | _ => false
  | .call c => match c.callee with
    | .builtin .len => true
    | .builtin .min => true
    | .builtin .max => true
    | _ => false
  | _ => false

/-- What a proof owes of a step that is parted by tests. -/
def RT.run : RT → (Res → Prop) → Prop
  | .leaf r, k => k r
  | .br b x y, k => Br b (x.run k) (y.run k)

theorem RT.run_sel : ∀ {t : RT} {k : Res → Prop}, t.run k → k t.sel
  | .leaf _, _, h => h
  | .br b x y, k, h => by
    cases b
    · exact RT.run_sel (t := y) h
    · exact RT.run_sel (t := x) h

def doOp [Globs] (P : Program) (sp : Specs) (N : Nat) (o : Oper) (st : St) (k : St → Prop) : Prop :=
  match stepT P sp o.op (rdSt st) st.hp st.nx with
  | some t => match okDst N o.dst with
    | true => t.run fun r => Ob r.ob ∧ k (st.put o.dst r)
    | false => False
  | none =>
  match step P sp o.op (rdSt st) st.hp st.nx with
  | some r => match okDst N o.dst with
    | true => match trivB o.op (rdSt st) st.hp with
      | true => k (st.put o.dst r)
      | false => Ob r.ob ∧ k (st.put o.dst r)
    | false => False
  | none => False

def skipOp (N : Nat) (o : Oper) (st : St) (k : St → Prop) : Prop :=
  match okDst N o.dst with
  | true => k (st.put o.dst ⟨True, vu, st.hp, st.nx⟩)
  | false => False

/-- What an operation's guard reads. -/
def guardOf (all : List Oper) (j : Nat) (st : St) : Option (Nat × V) :=
  match (all[j]?).bind (·.dst) with
  | some t => (getT st.tm t).map fun v => (t, v)
  | none => none

/-- The operations of a region in the text's order. -/
def opsX [Globs] (P : Program) (sp : Specs) (N : Nat) (all : List Oper) : List Oper → St → (St → Prop) → Prop
  | [], st, k => k st
  | o :: r, st, k =>
    match o.guard with
    | none => doOp P sp N o st fun st' => opsX P sp N all r st' k
    | some (j, want) =>
      match guardOf all j st with
      | some (t, .w (.c (.d (.b b)))) =>
        Br b
          (match want with
            | true => doOp P sp N o ⟨(t, vb true) :: st.tm, st.hp, st.nx⟩ fun st' => opsX P sp N all r st' k
            | false => skipOp N o ⟨(t, vb true) :: st.tm, st.hp, st.nx⟩ fun st' => opsX P sp N all r st' k)
          (match want with
            | true => skipOp N o ⟨(t, vb false) :: st.tm, st.hp, st.nx⟩ fun st' => opsX P sp N all r st' k
            | false => doOp P sp N o ⟨(t, vb false) :: st.tm, st.hp, st.nx⟩ fun st' => opsX P sp N all r st' k)
      | some (_, .w (.c (.d (.v (.tuple _))))) => skipOp N o st fun st' => opsX P sp N all r st' k
      | _ => False

inductive Ex where
  | normal
  | exit (n : Nat)
  | ret

def Ex.toExit : Ex → Exit
  | .normal => .normal
  | .exit n => .exit n
  | .ret => .ret

/-! ### one state says no more than another -/

abbrev Rn := List (Nat × Option Nat)

def lookR : Rn → Nat → Option (Option Nat)
  | [], _ => none
  | (k, v) :: r, h => if k = h then some v else lookR r h

def usedR (m : Rn) (h : Nat) : Bool := m.any fun x => x.2 == some h

/-- Object h' of the weaker state is object h of the stronger one. -/
def bindR (h' h : Nat) (m : Rn) (k : Rn → Prop) : Prop :=
  match lookR m h' with
  | some (some s) => if s = h then k m else False
  | some none => False
  | none => match usedR m h with
    | true => False
    | false => k ((h', some h) :: m)

def bindL : List Nat → List Nat → Rn → (Rn → Prop) → Prop
  | [], [], m, k => k m
  | h' :: r', h :: r, m, k => bindR h' h m fun m => bindL r' r m k
  | _, _, _, _ => False

def mD : D → D → Prop
  | .i k n, .i k' n' => if k = k' then Ob (n' = n) else False
  | .b x, .b y => Ob (y = x)
  | .f k n, .f k' n' => if k = k' then Ob (n' = n) else False
  | .s x, .s y => Ob (y = x)
  | .v x, .v y => Ob (y = x)
  | _, _ => False

def mC (x' x : C) (m : Rn) (k : Rn → Prop) : Prop :=
  match x', x with
  | .d d', .d d => mD d' d ∧ k m
  | .p h' i' e' j', .p h i e j => if e' = e ∧ j' = j then Ob (i = i') ∧ bindR h' h m k else False
  | .o h', .o h => bindR h' h m k
  | .o h', .d (.v (.slice none 0 0)) => match lookR m h' with
    | some none => k m
    | some (some _) => False
    | none => k ((h', none) :: m)
  | .fn f' hs', .fn f hs => if f' = f then bindL hs' hs m k else False
  | .fb f' hs', .fb f hs => if f' = f then bindL hs' hs m k else False
  | .g n' i' e' j', .g n i e j => if n' = n ∧ e' = e ∧ j' = j then Ob (i = i') ∧ k m else False
  | _, _ => False

def mCs : List C → List C → Rn → (Rn → Prop) → Prop
  | [], [], m, k => k m
  | x' :: r', x :: r, m, k => mC x' x m fun m => mCs r' r m k
  | _, _, _, _ => False

def mW (x' x : W) (m : Rn) (k : Rn → Prop) : Prop :=
  match x', x with
  | .c y', .c y => mC y' y m k
  | .a l', .a l => mCs l' l m k
  | .b k' e' r', .b k0 e r => if k' = k0 ∧ e' = e then Ob (r = r') ∧ k m else False
  | _, _ => False

def mWs : List W → List W → Rn → (Rn → Prop) → Prop
  | [], [], m, k => k m
  | x' :: r', x :: r, m, k => mW x' x m fun m => mWs r' r m k
  | _, _, _, _ => False

def mV (x' x : V) (m : Rn) (k : Rn → Prop) : Prop :=
  match x', x with
  | .w y', .w y => mW y' y m k
  | .t l', .t l => mWs l' l m k
  | _, _ => False

def mT : List (Nat × V) → List (Nat × V) → Rn → (Rn → Prop) → Prop
  | [], _, m, k => k m
  | (t, v') :: r, tm, m, k => match getT tm t with
    | some v => mV v' v m fun m => mT r tm m k
    | none => False

def mCont : Cont → Cont → Prop
  | .ints k l, .ints k' l' => if k = k' then Ob (l' = l) else False
  | .recs e l, .recs e' l' => if e = e' then Ob (l' = l) else False
  | .floats k l, .floats k' l' => if k = k' then Ob (l' = l) else False
  | .strs l, .strs l' => Ob (l' = l)
  | .bools l, .bools l' => Ob (l' = l)
  | .lits e l, .lits e' l' => if e = e' then Ob (l' = l) else False
  | .frs k e l, .frs k' e' l' => if k = k' ∧ e = e' then Ob (l' = l) else False
  | _, _ => False

def mX : XC → XC → Prop
  | .st sh l, .st sh' l' => if sh = sh' then Ob (l' = l) else False
  | .ii k l, .ii k' l' => if k = k' then Ob (l' = l) else False
  | .ff k l, .ff k' l' => if k = k' then Ob (l' = l) else False
  | .bb k e l, .bb k' e' l' => if k = k' ∧ e = e' then Ob (l' = l) else False
  | .rr e l, .rr e' l' => if e = e' then Ob (l' = l) else False
  | _, _ => False

def mO (o' o : O) (m : Rn) (k : Rn → Prop) : Prop :=
  match o', o with
  | .box ty cs', .box ty' cs => if ty = ty' then mCs cs' cs m k else False
  | .row ty c', .row ty' c => if ty = ty' then mCont c' c ∧ k m else False
  | .ext c', .ext c => mCont c' c ∧ k m
  | .nan q', .nan q => match sameK q' q with
    | true => k m
    | false => False
  | .ebox cs', .ebox cs => mCs cs' cs m k
  | .arr ty q e r, .arr ty' q' e' r' => if ty = ty' ∧ q = q' ∧ e = e' then Ob (r' = r) ∧ k m else False
  | .xext X', .xext X => mX X' X ∧ k m
  | .map es', .map es => Ob (es = es') ∧ k m
  | .rrow c', .rrow c => mCont c' c ∧ k m
  | .view _ c' false, o => match o.cont with
    | some c => mCont c' c ∧ k m
    | none => False
  | _, _ => False

def mH : Hp → Hp → Rn → (Rn → Prop) → Prop
  | [], _, m, k => k m
  | (h', o') :: r, hp, m, k =>
    match lookR m h' with
    | some (some h) => match find hp h with
      | some o => mO o' o m fun m => mH r hp m k
      | none => False
    | some none => match o' with
      | .row _ c => Ob (c.n = 0) ∧ mH r hp m k
      | _ => False
    | none => match find hp h' with
      | some o => bindR h' h' m fun m => mO o' o m fun m => mH r hp m k
      | none => False

def D.ltb (_ : Nat) : D → Bool
  | _ => true
def C.ltb (n : Nat) : C → Bool
  | .d _ => true
  | .p h _ _ _ => Nat.blt h n
  | .o h => Nat.blt h n
  | .fn _ hs => hs.all fun h => Nat.blt h n
  | .fb _ hs => hs.all fun h => Nat.blt h n
  | .g _ _ _ _ => true
def W.ltb (n : Nat) : W → Bool
  | .c x => x.ltb n
  | .a l => l.all (C.ltb n)
  | .b _ _ _ => true
def V.ltb (n : Nat) : V → Bool
  | .w x => x.ltb n
  | .t l => l.all (W.ltb n)
def O.ltb (n : Nat) : O → Bool
  | .box _ cs => cs.all (C.ltb n)
  | .view r _ _ => Nat.blt r n
  | .ebox cs => cs.all (C.ltb n)
  | _ => true

def St.wfb (st : St) : Bool := (st.tm.all fun x => x.2.ltb st.nx) && (st.hp.all fun x => Nat.blt x.1 st.nx && x.2.ltb st.nx)

def keepsB (n0 : Nat) (m : Rn) : Bool := m.all fun x => !(Nat.blt x.1 n0) || x.2 == some x.1

/-- The state st' says no more than st. -/
def Le (n0 : Nat) (st st' : St) : Prop :=
  match st'.wfb && Nat.ble n0 st'.nx with
  | true => mT st'.tm st.tm [] fun m => mH st'.hp st.hp m fun m => match keepsB n0 m with | true => True | false => False
  | false => False

/-! ### loops -/

structure LI where
  X : Type
  st : X → St
  inv : X → Prop
  mu : X → Nat

/-- What is known of a loop: the measures of the loops around it, its block, the state ahead of it. -/
abbrev Loops := List Nat → Nat → St → Option LI

def unroll (body : St → (Ex → St → Prop) → Prop) : Nat → St → (Ex → St → Prop) → Prop
  | 0, _, _ => False
  | n + 1, st, k => body st fun e st' => match e with
    | .normal => unroll body n st' k
    | e => k e st'

/-- **The executor.** -/
def sx [Globs] (P : Program) (sp : Specs) (N n0 fuel : Nat) (loops : Loops) (drawn : Array Oper → St → (St → Prop) → Prop) : Code → Nat → List Nat → St → (Ex → St → Prop) → Prop
  | .skip, _, _, st, k => k .normal st
  | .label _, _, _, st, k => k .normal st
  | .region _ ops draw, _, _, st, k =>
    match draw with
    | false => opsX P sp N ops.toList ops.toList st fun st' => k .normal st'
    | true => drawn ops st fun st' => k .normal st'
  | .seq x y, cur, gs, st, k => sx P sp N n0 fuel loops drawn x cur gs st fun e st' => match e with
    | .normal => sx P sp N n0 fuel loops drawn y cur gs st' k
    | e => k e st'
  | .cond c x y, cur, gs, st, k =>
    match (rdSt st c).bind V.bool? with
    | some b => Br b (sx P sp N n0 fuel loops drawn x cur gs st k) (sx P sp N n0 fuel loops drawn y cur gs st k)
    | none => False
  | .block id c, _, gs, st, k => sx P sp N n0 fuel loops drawn c id gs st fun e st' => match e with
    | .exit j => if j = id then k .normal st' else k (.exit j) st'
    | e => k e st'
  | .loop c, cur, gs, st, k =>
    match loops gs cur st with
    | some L => (∃ x, Ob (L.inv x) ∧ Le n0 st (L.st x)) ∧ ∀ x, L.inv x → sx P sp N n0 fuel loops drawn c cur (L.mu x :: gs) (L.st x) fun e st' => match e with
      | .normal => ∃ x', Ob (L.inv x') ∧ Ob (L.mu x' < L.mu x) ∧ Le n0 st' (L.st x')
      | e => k e st'
    | none => unroll (fun st k => sx P sp N n0 fuel loops drawn c cur gs st k) fuel st k
  | .exit id, _, _, st, k => k (.exit id) st
  | .ret, _, _, st, k => k .ret st
  | _, _, _, _, _ => False

end Go.Sx
