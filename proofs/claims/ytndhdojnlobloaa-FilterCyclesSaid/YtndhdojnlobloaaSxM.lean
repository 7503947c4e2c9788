/- A symbolic executor for the model's code: regions that draw their order. -/
import Derived.Test.YtndhdojnlobloaaSxN
set_option linter.unusedSectionVars false
set_option linter.unusedSimpArgs false
set_option linter.unusedVariables false
open Go.RowKit
namespace Go.Sx

/-! ### who waits for whom -/

def addNat (n : Nat) (l : List Nat) : List Nat := match l.contains n with
  | true => l
  | false => n :: l
def unionNat (a b : List Nat) : List Nat := a.foldr addNat b

/-- All that an operation waits for, out of what the earlier ones wait for. -/
def waitsOf (acc : List (List Nat)) : List Edge → List Nat
  | [] => []
  | e :: r => match Region.binds .any e with
    | true => addNat e.on (unionNat (acc.getD e.on []) (waitsOf acc r))
    | false => waitsOf acc r

def befs : List Oper → List (List Nat) → List (List Nat)
  | [], acc => acc
  | o :: r, acc => befs r (acc ++ [waitsOf acc o.after.toList])

theorem mem_addNat {n m : Nat} {l : List Nat} : m ∈ addNat n l ↔ m = n ∨ m ∈ l := by
  unfold addNat
  split
  · rename_i h
    simp at h
    constructor
    · exact .inr
    · rintro (rfl | h')
      · exact h
      · exact h'
  · simp
theorem mem_unionNat {m : Nat} : ∀ {a b : List Nat}, m ∈ unionNat a b ↔ m ∈ a ∨ m ∈ b
  | [], b => by simp [unionNat]
  | x :: a, b => by
    have := mem_unionNat (m := m) (a := a) (b := b)
    simp only [unionNat, List.foldr_cons] at *
    rw [mem_addNat, this]
    simp [or_assoc]

theorem mem_waitsOf {acc : List (List Nat)} {k : Nat} : ∀ {es : List Edge}, k ∈ waitsOf acc es → ∃ e ∈ es, Region.binds .any e = true ∧ (k = e.on ∨ k ∈ acc.getD e.on [])
  | [], h => by cases h
  | e :: r, h => by
    unfold waitsOf at h
    split at h
    · rename_i hb
      rcases mem_addNat.1 h with h | h
      · exact ⟨e, List.mem_cons_self, hb, .inl h⟩
      · rcases mem_unionNat.1 h with h | h
        · exact ⟨e, List.mem_cons_self, hb, .inr h⟩
        · obtain ⟨e', he', h'⟩ := mem_waitsOf h
          exact ⟨e', List.mem_cons_of_mem _ he', h'⟩
    · obtain ⟨e', he', h'⟩ := mem_waitsOf h
      exact ⟨e', List.mem_cons_of_mem _ he', h'⟩

/-- A table of waits is right: an entry comes of an edge, or of an earlier entry. -/
def TabOK (L : List Oper) (tab : List (List Nat)) : Prop :=
  ∀ i k, k ∈ tab.getD i [] → ∃ o, L[i]? = some o ∧ ∃ e ∈ o.after.toList, Region.binds .any e = true ∧ (k = e.on ∨ (e.on < i ∧ k ∈ tab.getD e.on []))

theorem befs_ok (L : List Oper) : ∀ (r : List Oper) (acc : List (List Nat)), L = L.take acc.length ++ r → TabOK L acc → TabOK L (befs r acc)
  | [], acc, _, h => h
  | o :: r, acc, hL, h => by
    unfold befs
    have hlen : acc.length < L.length := by
      have := congrArg List.length hL
      simp at this
      omega
    have ho : L[acc.length]? = some o := by
      rw [hL, List.getElem?_append_right (by simp; omega)]
      simp [Nat.min_eq_left (Nat.le_of_lt hlen)]
    refine befs_ok L r (acc ++ [waitsOf acc o.after.toList]) ?_ ?_
    · have h1 : L.take (acc.length + 1) = L.take acc.length ++ [o] := by
        rw [List.take_succ_eq_append_getElem hlen]
        congr 2
        have := List.getElem?_eq_getElem hlen
        rw [this] at ho
        exact Option.some.inj ho
      simp only [List.length_append, List.length_singleton, h1, List.append_assoc, List.singleton_append]
      exact hL
    · intro i k hk
      by_cases hi : i < acc.length
      · have e1 : (acc ++ [waitsOf acc o.after.toList]).getD i [] = acc.getD i [] := by simp [List.getD, List.getElem?_append_left hi]
        rw [e1] at hk
        obtain ⟨o', ho', e, he, hb, hor⟩ := h i k hk
        refine ⟨o', ho', e, he, hb, hor.imp id fun ⟨h1, h2⟩ => ⟨h1, ?_⟩⟩
        simpa [List.getD, List.getElem?_append_left (show e.on < acc.length by omega)] using h2
      · by_cases hi2 : i = acc.length
        · subst hi2
          have e1 : (acc ++ [waitsOf acc o.after.toList]).getD acc.length [] = waitsOf acc o.after.toList := by simp [List.getD]
          rw [e1] at hk
          obtain ⟨e, he, hb, hor⟩ := mem_waitsOf hk
          refine ⟨o, ho, e, he, hb, hor.imp id fun h2 => ?_⟩
          have hlt : e.on < acc.length := by
            rcases Nat.lt_or_ge e.on acc.length with h | h
            · exact h
            · simp [List.getD, List.getElem?_eq_none h] at h2
          exact ⟨hlt, by simpa [List.getD, List.getElem?_append_left hlt] using h2⟩
        · have : (acc ++ [waitsOf acc o.after.toList]).getD i [] = [] := by
            rw [List.getD, List.getElem?_eq_none (by simp; omega)]
            rfl
          rw [this] at hk
          cases hk

/-- What has come up so far holds all that each of its operations waits for. -/
def Closed (L : List Oper) (D : Nat → Bool) : Prop := ∀ j o, L[j]? = some o → D j = true → ∀ e ∈ o.after.toList, Region.binds .any e = true → D e.on = true

theorem waits_in {L : List Oper} {tab : List (List Nat)} {D : Nat → Bool} (ht : TabOK L tab) (hc : Closed L D) :
    ∀ (i : Nat) (k : Nat), (∀ o, L[i]? = some o → ∀ e ∈ o.after.toList, Region.binds .any e = true → D e.on = true) → k ∈ tab.getD i [] → D k = true := by
  intro i
  induction i using Nat.strongRecOn with
  | _ i ih =>
    intro k hd hk
    obtain ⟨o, ho, e, he, hb, hor⟩ := ht i k hk
    have h1 := hd o ho e he hb
    rcases hor with rfl | ⟨hlt, hk'⟩
    · exact h1
    · exact ih e.on hlt k (fun o' ho' e' he' hb' => hc e.on o' ho' h1 e' he' hb') hk'

/-! ### the run in the text's order, each operation seeing what it waits for alone -/

/-- What an operation has left: its value, the heap and the next number behind it, its kind (0: no heap; 1: it makes; 2: it changes), what it made. -/
structure Rec where
  v : V
  hp : Hp
  nx : Nat
  kd : Nat
  nw : Hp
  tg : Option Nat

def isLoadOp : Op → Bool
  | .load _ _ => true
  | _ => false
/-- The object that a load reads. -/
def loadAt (op : Op) (rd : Operand → Option V) : Option Nat :=
  match op with
  | .load _ x => match rd x with
    | some (.w (.c (.p h _ _ _))) => some h
    | _ => none
  | _ => none
/-- The object that a store, or an append, changes. -/
def storeAt (op : Op) (rd : Operand → Option V) : Option Nat :=
  match op with
  | .store _ x _ => match rd x with
    | some (.w (.c (.p h _ _ _))) => some h
    | _ => none
  | .call c => match c.callee, c.args.toList with
    | .builtin .append, [s, _] => match rd s with
      | some (.w (.c (.o h))) => some h
      | some (.w (.c (.d (.v (.slice none 0 0))))) => some 1000000007
      | _ => none
    | _, _ => none
  | _ => none
def plainO : Option O → Bool
  | some (.box _ _) => true
  | some (.row _ _) => true
  | some (.ext _) => true
  | some (.ebox _) => true
  | some (.arr _ _ _ _) => true
  | some (.xext _) => true
  | _ => false

def dstOf (L : List Oper) (j : Nat) : Option Nat := (L[j]?).bind (·.dst)
def prevHp (st0 : St) : List Rec → Hp
  | [] => st0.hp
  | r :: _ => r.hp
def prevNx (st0 : St) : List Rec → Nat
  | [] => st0.nx
  | r :: _ => r.nx

/-- The value of a slot: the last writer's, if it is waited for. -/
def slotTr (L : List Oper) (bef : List Nat) (st0 : St) (t : Nat) : List Rec → Option V
  | [] => getT st0.tm t
  | r :: tr => match dstOf L tr.length with
    | some d => if d = t then (match bef.contains tr.length with | true => some r.v | false => none) else slotTr L bef st0 t tr
    | none => slotTr L bef st0 t tr

def rdTr [Globs] (L : List Oper) (nm : List Nat) (bef : List Nat) (st0 : St) (tr : List Rec) : Operand → Option V
  | .tmp t => match nm.contains t with
    | true => slotTr L bef st0 t tr
    | false => none
  | x => rdSt st0 x

/-- Was the object there, or made by what is waited for? -/
def bornBy (q : Nat → Bool) (st0 : St) : List Rec → Nat → Bool
  | [], _ => true
  | _ :: tr, h => match Nat.ble (prevNx st0 tr) h with
    | true => q tr.length
    | false => bornBy q st0 tr h

def seenHp (bef : List Nat) (st0 : St) (tr : List Rec) : Hp := (prevHp st0 tr).filter fun x => bornBy (fun j => bef.contains j) st0 tr x.1

def C.allB (p : Nat → Bool) : C → Bool
  | .d _ => true
  | .p h _ _ _ => p h
  | .o h => p h
  | .fn _ hs => hs.all p
  | .fb _ hs => hs.all p
  | .g _ _ _ _ => true
def W.allB (p : Nat → Bool) : W → Bool
  | .c x => x.allB p
  | .a l => l.all (C.allB p)
  | .b _ _ _ => true
def V.allB (p : Nat → Bool) : V → Bool
  | .w x => x.allB p
  | .t l => l.all (W.allB p)
def O.allB (p : Nat → Bool) : O → Bool
  | .box _ cs => cs.all (C.allB p)
  | .view r _ _ => p r
  | .ebox cs => cs.all (C.allB p)
  | _ => true

/-- A step's result names what is there or what it made. -/
def okRes (bef : List Nat) (st0 : St) (tr : List Rec) (v : V) (hp : Hp) (nx : Nat) : Bool :=
  Nat.ble (prevNx st0 tr) nx && v.allB (fun h => Nat.blt h nx && (Nat.ble (prevNx st0 tr) h || bornBy (fun j => bef.contains j) st0 tr h)) &&
    hp.all (fun x => Nat.blt x.1 nx && x.2.allB fun h => Nat.blt h nx && (Nat.ble (prevNx st0 tr) h || bornBy (fun j => bef.contains j) st0 tr h))
def newsOf (n : Nat) (hp : Hp) : Hp := hp.filter fun x => Nat.ble n x.1

def staticPure : Op → Bool
  | .move _ | .assign _ | .pick _ _ _ | .binOp _ _ _ _ _ | .unOp _ _ _ | .extract _ _ | .field _ _ _ | .fieldAddr _ _ _ | .nilCheck _ | .convert _ _ _ | .build _ _ => true
  | _ => false

def forcedB (tab : List (List Nat)) (i : Nat) (lf : Bool) : Nat → List Oper → Bool
  | _, [] => true
  | j, o :: r => (Nat.beq j i || staticPure o.op || (tab.getD i []).contains j || (tab.getD j []).contains i || (lf && isLoadOp o.op)) && forcedB tab i lf (j + 1) r

/-- Slots are ordered: who writes a slot behind another one that names it waits for it. -/
def namesOf (L : List Oper) (o : Oper) : List Nat :=
  o.dst.toList ++ (o.op.operands.toList.filterMap fun | .tmp t => some t | _ => none) ++ (match o.guard with | some (g, _) => (dstOf L g).toList | none => [])

def slotsOkFor (L : List Oper) (tab : List (List Nat)) (j t : Nat) : Nat → List Oper → Bool
  | _, [] => true
  | i, o :: r => (!(Nat.blt i j) || !((namesOf L o).contains t) || (tab.getD j []).contains i) && slotsOkFor L tab j t (i + 1) r
def slotsOk (L : List Oper) (tab : List (List Nat)) : Nat → List Oper → Bool
  | _, [] => true
  | j, o :: r => (match o.dst with | some t => slotsOkFor L tab j t 0 L | none => true) && slotsOk L tab (j + 1) r

def obT (t : Bool) (ob k : Prop) : Prop := match t with
  | true => k
  | false => Ob ob ∧ k

/-- No earlier load that is not waited for reads the object. -/
def loadsFree [Globs] (L : List Oper) (tab : List (List Nat)) (st0 : St) (bef : List Nat) (h : Nat) : List Rec → Bool
  | [] => true
  | _ :: tr => (match L[tr.length]? with
    | none => false
    | some o => match isLoadOp o.op with
      | false => true
      | true => bef.contains tr.length || match loadAt o.op (rdTr L (namesOf L o) (tab.getD tr.length []) st0 tr) with
        | none => false
        | some x => !(Nat.beq x h) && plainO (find (prevHp st0 tr) x)) && loadsFree L tab st0 bef h tr

/-- No earlier store that is not waited for changes the object. -/
def storesFree (st0 : St) (bef : List Nat) (h : Nat) : List Rec → Bool
  | [] => true
  | r :: tr => (!(Nat.beq r.kd 2) || bef.contains tr.length || match r.tg with
    | none => false
    | some t => !(Nat.beq t h) && plainO (find (prevHp st0 tr) h)) && storesFree st0 bef h tr

/-- Is this a store that loads need not wait for? -/
def freeStore [Globs] (L : List Oper) (tab : List (List Nat)) (st0 : St) (o : Oper) (tr : List Rec) : Option Nat :=
  match storeAt o.op (rdTr L (namesOf L o) (tab.getD tr.length []) st0 tr) with
  | some h => match loadsFree L tab st0 (tab.getD tr.length []) h tr with
    | true => some h
    | false => none
  | none => none

def dop [Globs] (P : Program) (sp : Specs) (N : Nat) (L : List Oper) (tab : List (List Nat)) (st0 : St) (o : Oper) (tr : List Rec) (k : Rec → Prop) : Prop :=
  match okDst N o.dst with
  | false => False
  | true =>
    match stepV P o.op (rdTr L (namesOf L o) (tab.getD tr.length []) st0 tr) [] with
    | some (ob, v) => match okRes (tab.getD tr.length []) st0 tr v [] (prevNx st0 tr) with
      | true => obT (trivB o.op (rdTr L (namesOf L o) (tab.getD tr.length []) st0 tr) []) ob (k ⟨v, prevHp st0 tr, prevNx st0 tr, 0, [], none⟩)
      | false => False
    | none =>
      match staticPure o.op with
      | true => False
      | false =>
        match isLoadOp o.op with
        | true => match loadAt o.op (rdTr L (namesOf L o) (tab.getD tr.length []) st0 tr) with
          | none => False
          | some h => match find (prevHp st0 tr) h with
            | none => False
            | some x => match bornBy (fun j => (tab.getD tr.length []).contains j) st0 tr h && storesFree st0 (tab.getD tr.length []) h tr with
              | false => False
              | true => match stepV P o.op (rdTr L (namesOf L o) (tab.getD tr.length []) st0 tr) [(h, x)] with
                | none => False
                | some (ob, v) => match okRes (tab.getD tr.length []) st0 tr v [] (prevNx st0 tr) with
                  | true => obT (trivB o.op (rdTr L (namesOf L o) (tab.getD tr.length []) st0 tr) [(h, x)]) ob (k ⟨v, prevHp st0 tr, prevNx st0 tr, 0, [], none⟩)
                  | false => False
        | false =>
        match monoOp sp o.op (rdTr L (namesOf L o) (tab.getD tr.length []) st0 tr) with
        | true => match step P sp o.op (rdTr L (namesOf L o) (tab.getD tr.length []) st0 tr) (seenHp (tab.getD tr.length []) st0 tr) (prevNx st0 tr) with
          | some res => match okRes (tab.getD tr.length []) st0 tr res.v (newsOf (prevNx st0 tr) res.hp) res.nx with
            | true => obT (trivB o.op (rdTr L (namesOf L o) (tab.getD tr.length []) st0 tr) (seenHp (tab.getD tr.length []) st0 tr)) res.ob (k ⟨res.v, newsOf (prevNx st0 tr) res.hp ++ prevHp st0 tr, res.nx, 1, newsOf (prevNx st0 tr) res.hp, none⟩)
            | false => False
          | none => False
        | false => match forcedB tab tr.length ((freeStore L tab st0 o tr).isSome) 0 L with
          | false => False
          | true => match step P sp o.op (rdTr L (namesOf L o) (tab.getD tr.length []) st0 tr) (prevHp st0 tr) (prevNx st0 tr) with
            | some res => match okRes (tab.getD tr.length []) st0 tr res.v res.hp res.nx with
              | true => obT (trivB o.op (rdTr L (namesOf L o) (tab.getD tr.length []) st0 tr) (prevHp st0 tr)) res.ob (k ⟨res.v, res.hp, res.nx, 2, [], freeStore L tab st0 o tr⟩)
              | false => False
            | none => False

def dskip (N : Nat) (st0 : St) (o : Oper) (tr : List Rec) (k : Rec → Prop) : Prop :=
  match okDst N o.dst with
  | false => False
  | true => k ⟨vu, prevHp st0 tr, prevNx st0 tr, 0, [], none⟩

/-- A known value put for the last writer's. -/
def setTr (L : List Oper) (t : Nat) (v : V) : List Rec → List Rec
  | [] => []
  | r :: tr => match dstOf L tr.length with
    | some d => if d = t then { r with v := v } :: tr else r :: setTr L t v tr
    | none => r :: setTr L t v tr

def drun [Globs] (P : Program) (sp : Specs) (N : Nat) (L : List Oper) (tab : List (List Nat)) (st0 : St) : List Oper → List Rec → (List Rec → Prop) → Prop
  | [], tr, k => k tr
  | o :: rest, tr, k =>
    match o.guard with
    | none => dop P sp N L tab st0 o tr fun r => drun P sp N L tab st0 rest (r :: tr) k
    | some (g, want) =>
      match dstOf L g with
      | none => False
      | some t =>
        match slotTr L (tab.getD tr.length []) st0 t tr with
        | some (.w (.c (.d (.b b)))) =>
          Br b
            (match want with
              | true => dop P sp N L tab st0 o (setTr L t (vb true) tr) fun r => drun P sp N L tab st0 rest (r :: setTr L t (vb true) tr) k
              | false => dskip N st0 o (setTr L t (vb true) tr) fun r => drun P sp N L tab st0 rest (r :: setTr L t (vb true) tr) k)
            (match want with
              | true => dskip N st0 o (setTr L t (vb false) tr) fun r => drun P sp N L tab st0 rest (r :: setTr L t (vb false) tr) k
              | false => dop P sp N L tab st0 o (setTr L t (vb false) tr) fun r => drun P sp N L tab st0 rest (r :: setTr L t (vb false) tr) k)
        | some (.w (.c (.d (.v (.tuple _))))) => dskip N st0 o tr fun r => drun P sp N L tab st0 rest (r :: tr) k
        | _ => False

def tmTr (L : List Oper) (st0 : St) : List Rec → List (Nat × V)
  | [] => st0.tm
  | r :: tr => match dstOf L tr.length with
    | some d => (d, r.v) :: tmTr L st0 tr
    | none => tmTr L st0 tr

def endSt (L : List Oper) (st0 : St) (tr : List Rec) : St := ⟨tmTr L st0 tr, prevHp st0 tr, prevNx st0 tr⟩

/-- Each operation waits for earlier ones alone. -/
def edgesOk : Nat → List Oper → Bool
  | _, [] => true
  | i, o :: r => (o.after.toList.all fun e => !(Region.binds .any e) || Nat.blt e.on i) && edgesOk (i + 1) r

/-- No operation chooses among communications. -/
def noSel (L : List Oper) : Bool := L.all fun o => match o.op with
  | .select _ _ => false
  | _ => true

/-- **The executor at a region that draws its order.** -/
def drawX [Globs] (P : Program) (sp : Specs) (N : Nat) (ops : Array Oper) (st : St) (k : St → Prop) : Prop :=
  match slotsOk ops.toList (befs ops.toList []) 0 ops.toList && edgesOk 0 ops.toList with
  | true => drun P sp N ops.toList (befs ops.toList []) st ops.toList [] fun tr => k (endSt ops.toList st tr)
  | false => False

end Go.Sx
