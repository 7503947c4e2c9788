/- From a contract with shapes of a law to its row: arguments that are structs with slices. -/
import Derived.Test.YtndhdojnlobloaaFr
import Derived.Test.YtndhdojnlobloaaSxV
set_option linter.unusedSectionVars false
set_option linter.unusedSimpArgs false
set_option linter.unusedVariables false
namespace Go.Sx
set_option linter.unusedVariables false
open Go.RowKit Go.ChangeShapes Go.WideShapes

/-- The kinds of a type's cells, where a cell may be a slice of plain cells. -/
inductive K2 where
  | d (k : K)
  | s (ks : List K)

/-- What a cell is told as. -/
inductive T1 where
  | d (x : D)
  | r (c : Cont)

inductive Cell2 (w : World) : K2 → Value → T1 → Prop where
  | d (k : K) (x : D) (h : k.fits x) : Cell2 w (.d k) x.val (.d x)
  | s (ks : List K) (v : Value) (rows : List (List D)) (h0 : 0 < ks.length) (h : ∀ r ∈ rows, fitsAll ks r) (hr : IsRow w v (.lits ks.length rows)) : Cell2 w (.s ks) v (.r (.lits ks.length rows))

inductive Cells2 (w : World) : List K2 → List Value → List T1 → Prop where
  | nil : Cells2 w [] [] []
  | cons {k : K2} {v : Value} {t : T1} {ks : List K2} {vs : List Value} {ts : List T1} (h : Cell2 w k v t) (r : Cells2 w ks vs ts) : Cells2 w (k :: ks) (v :: vs) (t :: ts)

theorem Cells2.append {w : World} {ks ks' : List K2} {vs vs' : List Value} {ts ts' : List T1} (h : Cells2 w ks vs ts) (h' : Cells2 w ks' vs' ts') : Cells2 w (ks ++ ks') (vs ++ vs') (ts ++ ts') := by
  induction h with
  | nil => exact h'
  | cons h r ih => exact .cons h ih

def kinds2Of (g : TypeId → Option (List K2)) (P : Program) : Nat → List Field → Option (List K2)
  | _, [] => some []
  | n, f :: fs => match g f.type with
    | none => none
    | some ks => if f.offset = n ∧ P.cellsOf f.type = ks.length then (kinds2Of g P (n + ks.length) fs).map (ks ++ ·) else none

def kinds2 (P : Program) : Nat → TypeId → Option (List K2)
  | 0, _ => none
  | d + 1, t => match kinds P d t with
    | some ks => some (ks.map .d)
    | none => match P.underlying t with
      | some (.slice e) => match kinds P d e with
        | some (k :: ks) => if P.cellsOf e = ks.length + 1 then some [.s (k :: ks)] else none
        | _ => none
      | some (.struct fs) => match kinds2Of (kinds2 P d) P 0 fs.toList with
        | some ks => if P.cellsOf t = ks.length then some ks else none
        | none => none
      | _ => none

section
variable {H : Type} {enc : TypeId × Value → H} {P : Program} {w : World} {base : Nat} {spare : Nat → Bool} {held : Bool}

theorem cells2_d {ks : List K} {ds : List D} (h : fitsAll ks ds) : Cells2 w (ks.map .d) (ds.map D.val) (ds.map .d) := by
  induction ks generalizing ds with
  | nil => cases ds with
    | nil => exact .nil
    | cons _ _ => exact h.elim
  | cons k ks ih => cases ds with
    | nil => exact h.elim
    | cons d ds => exact .cons (.d k d h.1) (ih h.2)

theorem struct_cells2 {g : TypeId → Option (List K2)} {m : Nat} (ih : ∀ t ks cs x, g t = some ks → DataW.trod enc P w base spare held m t cs = some x → ∃ ts, Cells2 w ks cs ts) :
    ∀ (fs : List Field) (n : Nat) (ks : List K2) (cs : List Value), kinds2Of g P n fs = some ks → cs.length = n + ks.length → (∀ f ∈ fs, ∃ x, DataW.trod enc P w base spare held m f.type ((cs.drop f.offset).take (P.cellsOf f.type)) = some x) →
      ∃ ts, Cells2 w ks (cs.drop n) ts
  | [], n, ks, cs, hk, hl, _ => by
    simp only [kinds2Of, Option.some.injEq] at hk
    subst hk
    refine ⟨[], ?_⟩
    simp at hl
    rw [List.drop_eq_nil_of_le (by omega)]
    exact .nil
  | f :: fs, n, ks, cs, hk, hl, h => by
    simp only [kinds2Of] at hk
    split at hk
    · cases hk
    · rename_i kf hg
      split at hk
      · rename_i hc
        cases hr : kinds2Of g P (n + kf.length) fs with
        | none => simp [hr] at hk
        | some kr =>
          simp only [hr, Option.map_some, Option.some.injEq] at hk
          subst hk
          obtain ⟨x, hx⟩ := h f List.mem_cons_self
          rw [hc.1, hc.2] at hx
          obtain ⟨ts0, h0⟩ := ih f.type kf _ x hg hx
          obtain ⟨ts1, h1⟩ := struct_cells2 ih fs (n + kf.length) kr cs hr (by rw [hl, List.length_append]; omega) (fun f' hf' => h f' (List.mem_cons_of_mem _ hf'))
          refine ⟨ts0 ++ ts1, ?_⟩
          have e : cs.drop n = (cs.drop n).take kf.length ++ cs.drop (n + kf.length) := by rw [← List.drop_drop]; exact (List.take_append_drop _ _).symm
          rw [e]
          exact h0.append h1
      · cases hk

/-- What is read as data of a type of cells and slices of cells. -/
theorem trod_cells2 : ∀ (d : Nat) (t : TypeId) (ks : List K2) (fuel : Nat) (cs : List Value) (x : DataW H × List MemPlace), kinds2 P d t = some ks → DataW.trod enc P w base spare held fuel t cs = some x → ∃ ts, Cells2 w ks cs ts
  | 0, _, _, _, _, _, h, _ => by cases h
  | d + 1, t, ks, fuel, cs, x, hk, hx => by
    unfold kinds2 at hk
    split at hk
    · rename_i ks' hks
      cases hk
      obtain ⟨ds, rfl, h2⟩ := trod_cells d t ks' fuel cs x hks hx
      exact ⟨_, cells2_d h2⟩
    · split at hk
      · rename_i e ht
        split at hk
        · rename_i k ks' hks
          split at hk
          · rename_i hc
            cases hk
            obtain ⟨v, rows, rfl, h2, h3, _⟩ := trod_rows ht hks (by simpa using hc) (by simp) hx
            exact ⟨_, .cons (.s _ v rows (by simp) h2 h3) .nil⟩
          · cases hk
        · cases hk
      · rename_i fs ht
        split at hk
        · rename_i ks' hks
          split at hk
          · rename_i hc
            cases hk
            obtain ⟨xs, n, rfl, _, hl, hxl, hf⟩ := DataW.trod_struct ht hx
            have := struct_cells2 (enc := enc) (w := w) (base := base) (spare := spare) (held := held) (g := kinds2 P d) (m := n) (fun t ks cs x h1 h2 => trod_cells2 d t ks n cs x h1 h2) fs.toList 0 ks cs hks (by rw [hl, hc]; omega) (fun f hfm => by
              obtain ⟨i, hi, hfi⟩ := List.mem_iff_getElem.1 hfm
              have hi' : i < fs.size := by simpa using hi
              have h1 := hf i f (by rw [Array.getElem?_eq_getElem hi']; simpa using hfi)
              exact ⟨xs[i]'(by omega), by rw [h1, List.getElem?_eq_getElem]⟩)
            simpa using this
          · cases hk
        · cases hk
      · cases hk
end

/-! ### cells as contracts take them -/

inductive T1Is (w : World) : Value → T1 → Prop where
  | d (x : D) : T1Is w x.val (.d x)
  | r (v : Value) (c : Cont) (he : 0 < c.e) (h : IsRow w v c) : T1Is w v (.r c)

theorem cell_int {w : World} {v : Value} {t : T1} (h : Cell2 w (.d (.i .i64)) v t) : ∃ n : Int, T1Is w v (.d (.i .i64 n)) ∧ inI n := by
  cases h with
  | d k x h =>
    cases x with
    | i k n =>
      obtain ⟨rfl, hw⟩ := h
      exact ⟨n, .d _, by unfold inI; simpa [Lit.wf, IntKind.min, IntKind.max, IntKind.signed, IntKind.bits] using hw⟩
    | _ => exact h.elim
theorem cell_bool {w : World} {v : Value} {t : T1} (h : Cell2 w (.d .b) v t) : ∃ n : Bool, T1Is w v (.d (.b n)) := by
  cases h with
  | d k x h =>
    cases x with
    | b n => exact ⟨n, .d _⟩
    | _ => exact h.elim
theorem cell_flt {w : World} {k : FloatKind} {v : Value} {t : T1} (h : Cell2 w (.d (.f k)) v t) : ∃ n : Nat, T1Is w v (.d (.f k n)) ∧ (Lit.float k n).wf = true := by
  cases h with
  | d k x h =>
    cases x with
    | f k' n => obtain ⟨rfl, hw⟩ := h; exact ⟨n, .d _, hw⟩
    | _ => exact h.elim
theorem cell_str {w : World} {v : Value} {t : T1} (h : Cell2 w (.d .s) v t) : ∃ n : ByteArray, T1Is w v (.d (.s n)) ∧ n.size ≤ maxLen := by
  cases h with
  | d k x h =>
    cases x with
    | s n => exact ⟨n, .d _, h⟩
    | _ => exact h.elim
theorem cell_recs {w : World} {n : Nat} {v : Value} {t : T1} (h : Cell2 w (.s (List.replicate n (.i .i64))) v t) : ∃ l : List (List Int), T1Is w v (.r (.recs n l)) ∧ ∀ r ∈ l, r.length = n ∧ ∀ x ∈ r, inI x := by
  cases h with
  | s ks v rows h0 h2 h3 =>
    obtain ⟨l, h5, h6, h7⟩ := rows_ints h2
    subst h5
    rw [List.length_replicate] at h0 h3
    exact ⟨l, .r v _ h0 (isRow_of h3 (by simp [Cont.n]) (lits_recs fun r hr => (h7 r hr).1)), h7⟩
theorem cell_ints {w : World} {v : Value} {t : T1} (h : Cell2 w (.s [.i .i64]) v t) : ∃ l : List Int, T1Is w v (.r (.ints .i64 l)) ∧ ∀ x ∈ l, inI x := by
  obtain ⟨l, h2, h3⟩ := cell_recs (n := 1) h
  cases h2 with
  | r _ _ _ h2 =>
    refine ⟨l.map (fun r => r.getD 0 0), .r v _ (Nat.succ_pos 0) (isRow_of h2 (by simp [Cont.n]) ?_), fun x hx => ?_⟩
    · simp only [Cont.flat]
      rename_i he
      clear h2 he
      induction l with
      | nil => rfl
      | cons r l ih =>
        rw [List.map_cons, List.flatMap_cons, List.flatMap_cons, ih (fun r hr => h3 r (List.mem_cons_of_mem _ hr))]
        rfl
    · obtain ⟨r, hr, rfl⟩ := List.mem_map.1 hx
      have := h3 r hr
      match r, this with
      | [y], this => exact this.2 y (by simp)
theorem flts_of {k : FloatKind} {r : List D} (h : fitsAll [.f k] r) : ∃ n : Nat, r = [.f k n] ∧ (Lit.float k n).wf = true := by
  match r, h with
  | [.f k' n], h => obtain ⟨⟨rfl, hw⟩, _⟩ := h; exact ⟨n, rfl, hw⟩
theorem cell_flts {w : World} {k : FloatKind} {v : Value} {t : T1} (h : Cell2 w (.s [.f k]) v t) : ∃ l : List Nat, T1Is w v (.r (.floats k l)) ∧ ∀ x ∈ l, (Lit.float k x).wf = true := by
  cases h with
  | s ks v rows h0 h2 h3 =>
    have key : ∀ rows : List (List D), (∀ r ∈ rows, fitsAll [.f k] r) → ∃ l : List Nat, rows = l.map (fun n => [D.f k n]) ∧ ∀ x ∈ l, (Lit.float k x).wf = true := fun rows => by
      induction rows with
      | nil => exact fun _ => ⟨[], rfl, fun _ h => by cases h⟩
      | cons r rows ih =>
        intro h
        obtain ⟨l, e1, e2⟩ := ih fun r hr => h r (List.mem_cons_of_mem _ hr)
        obtain ⟨n, e3, e4⟩ := flts_of (h r List.mem_cons_self)
        refine ⟨n :: l, by rw [e1, e3]; rfl, fun x hx => ?_⟩
        rcases List.mem_cons.1 hx with rfl | hx
        · exact e4
        · exact e2 x hx
    obtain ⟨l, rfl, e2⟩ := key rows h2
    refine ⟨l, .r v _ (Nat.succ_pos 0) (isRow_of h3 (by simp [Cont.n]) ?_), e2⟩
    simp only [Cont.flat]
    clear h3 e2 h2
    induction l with
    | nil => rfl
    | cons n l ih =>
      rw [List.map_cons, List.flatMap_cons, List.flatMap_cons, ih]
      rfl

theorem t1_of {w : World} {v : Value} {c : Cont} (h : ArgIs w v (.r c)) : T1Is w v (.r c) := by
  cases h with
  | r _ _ he h => exact .r _ _ he h
theorem t1_d {w : World} {v : Value} {x : D} (h : ArgIs w v (.d x)) : T1Is w v (.d x) := by
  cases h with
  | d x => exact .d x

theorem arg_cells2 {H : Type} {enc : TypeId × Value → H} {P : Program} {w : World} {base : Nat} {spare : Nat → Bool} {held : Bool} {r : Reach} {b0 : Nat} {t : TypeId} {d : Nat} {ks : List K2} {v : Value} {x : DataW H} {p : List MemPlace} (ht : aggT P t = some true) (hk : kinds2 P d t = some ks)
    (hval : Value.okWide P w r b0 t v) (h : DataW.Trod enc P w base spare held t v x p) : ∃ vs ts, v = .agg (List.toArray vs) ∧ Cells2 w ks vs ts := by
  obtain ⟨fuel, hx⟩ := h
  obtain ⟨ts, h1⟩ := trod_cells2 d t ks fuel _ _ hk hx
  have hv : ∃ cs, v = .agg cs := by
    unfold Value.okWide at hval
    cases hU : P.underlying t with
    | none => simp [aggT, hU] at ht
    | some u =>
      rw [hU] at hval
      cases u with
      | struct fs => obtain ⟨cs, h, _⟩ := hval; exact ⟨cs, h⟩
      | array n e => obtain ⟨cs, h, _⟩ := hval; exact ⟨cs, h⟩
      | _ => simp [aggT, hU] at ht
  obtain ⟨cs, rfl⟩ := hv
  exact ⟨cs.toList, ts, by simp, h1⟩

/-! ### the call -/
section
variable [Globs]

inductive T2 where
  | c (t : T1)
  | a (l : List T1)
inductive T1sAre (w : World) : List Value → List T1 → Prop where
  | nil : T1sAre w [] []
  | cons {v : Value} {t : T1} {vs : List Value} {ts : List T1} (h : T1Is w v t) (r : T1sAre w vs ts) : T1sAre w (v :: vs) (t :: ts)
inductive T2Is (w : World) : Value → T2 → Prop where
  | c {v : Value} {t : T1} (h : T1Is w v t) : T2Is w v (.c t)
  | a {vs : List Value} {ts : List T1} (h : T1sAre w vs ts) : T2Is w (.agg vs.toArray) (.a ts)
inductive T2sAre (w : World) : List Value → List T2 → Prop where
  | nil : T2sAre w [] []
  | cons {v : Value} {t : T2} {vs : List Value} {ts : List T2} (h : T2Is w v t) (r : T2sAre w vs ts) : T2sAre w (v :: vs) (t :: ts)

structure TB where
  cs : List C
  hp : Hp
  n : Nat
def T1.bld (n : Nat) : T1 → TB
  | .d x => ⟨[.d x], [], n⟩
  | .r c => ⟨[.o n], [(n, .ext c)], n + 1⟩
def bldT1 : Nat → List T1 → TB
  | n, [] => ⟨[], [], n⟩
  | n, t :: l => let a := t.bld n; let b := bldT1 a.n l; ⟨a.cs ++ b.cs, b.hp ++ a.hp, b.n⟩
structure TV where
  vs : List V
  hp : Hp
  n : Nat
def T2.bld (n : Nat) : T2 → TV
  | .c t => let a := t.bld n; ⟨[.w (.c (headC a.cs))], a.hp, a.n⟩
  | .a l => let a := bldT1 n l; ⟨[.w (.a a.cs)], a.hp, a.n⟩
def bldT2 : Nat → List T2 → TV
  | n, [] => ⟨[], [], n⟩
  | n, t :: l => let a := t.bld n; let b := bldT2 a.n l; ⟨a.vs ++ b.vs, b.hp ++ a.hp, b.n⟩

/-- What is built stands for the cells. -/
structure TOK (w : World) (n : Nat) (ρ ρ' : Env) (vals : List Value) (cs : List C) (hp : Hp) (n' : Nat) : Prop where
  agree : Agree n ρ ρ'
  le : n ≤ n'
  val : cs.map (C.val ρ') = vals
  lt : ∀ c ∈ cs, C.lt n' c
  heap : ∀ k o, find hp k = some o → n ≤ k ∧ k < n' ∧ ∃ c, o = .ext c ∧ IsRow w (ρ' k) c ∧ 0 < c.e

theorem T1.bld_ok {w : World} {v : Value} {t : T1} (h : T1Is w v t) (n : Nat) (ρ : Env) : ∃ ρ', TOK w n ρ ρ' [v] (t.bld n).cs (t.bld n).hp (t.bld n).n := by
  cases h with
  | d x => exact ⟨ρ, Agree.refl _ _, Nat.le_refl _, rfl, (fun c hc => by simp only [T1.bld, List.mem_singleton] at hc; subst hc; trivial), fun _ _ h => by cases h⟩
  | r v c he h =>
    refine ⟨upd ρ n v, upd_agree _ _ _, Nat.le_succ _, by simp [T1.bld, C.val], (fun c hc => by simp only [T1.bld, List.mem_singleton] at hc; subst hc; exact Nat.lt_succ_self n), fun k o hf => ?_⟩
    simp only [T1.bld, find] at hf
    split at hf
    · rename_i e
      subst e
      cases hf
      exact ⟨Nat.le_refl _, Nat.lt_succ_self _, c, rfl, by rw [upd_same]; exact h, he⟩
    · cases hf

theorem TOK.append {w : World} {n n1 n2 : Nat} {ρ ρ1 ρ2 : Env} {a b : List Value} {ca cb : List C} {ha hb : Hp} (h1 : TOK w n ρ ρ1 a ca ha n1) (h2 : TOK w n1 ρ1 ρ2 b cb hb n2) : TOK w n ρ ρ2 (a ++ b) (ca ++ cb) (hb ++ ha) n2 := by
  refine ⟨h1.agree.trans h2.agree h1.le, Nat.le_trans h1.le h2.le, ?_, ?_, ?_⟩
  · rw [List.map_append, h2.val, ← h1.val]
    congr 1
    exact List.map_congr_left fun c hc => C.val_agree h2.agree (h1.lt c hc)
  · intro c hc
    rcases List.mem_append.1 hc with hc | hc
    · exact C.lt_mono h2.le (h1.lt c hc)
    · exact h2.lt c hc
  · intro k o hf
    rw [find_append] at hf
    cases hg : find hb k with
    | some o2 =>
      rw [hg] at hf
      cases hf
      obtain ⟨q1, q2, q3⟩ := h2.heap k o hg
      exact ⟨Nat.le_trans h1.le q1, q2, q3⟩
    | none =>
      rw [hg] at hf
      obtain ⟨q1, q2, c, q3, q4, q5⟩ := h1.heap k o hf
      exact ⟨q1, Nat.lt_of_lt_of_le q2 h2.le, c, q3, by rw [h2.agree k q2]; exact q4, q5⟩

theorem bldT1_ok {w : World} {vs : List Value} {ts : List T1} (h : T1sAre w vs ts) : ∀ (n : Nat) (ρ : Env), ∃ ρ', TOK w n ρ ρ' vs (bldT1 n ts).cs (bldT1 n ts).hp (bldT1 n ts).n := by
  induction h with
  | nil => exact fun n ρ => ⟨ρ, Agree.refl _ _, Nat.le_refl _, rfl, (fun _ h => by cases h), fun _ _ h => by cases h⟩
  | cons h r ih =>
    intro n ρ
    obtain ⟨ρ1, k1⟩ := T1.bld_ok h n ρ
    obtain ⟨ρ2, k2⟩ := ih _ ρ1
    exact ⟨ρ2, k1.append k2⟩

structure TVOK (w : World) (n : Nat) (ρ ρ' : Env) (vals : List Value) (vs : List V) (hp : Hp) (n' : Nat) : Prop where
  agree : Agree n ρ ρ'
  le : n ≤ n'
  val : vs.map (V.val ρ') = vals
  lt : ∀ c ∈ vs, V.lt n' c
  heap : ∀ k o, find hp k = some o → n ≤ k ∧ k < n' ∧ ∃ c, o = .ext c ∧ IsRow w (ρ' k) c ∧ 0 < c.e

theorem T2.bld_ok {w : World} {v : Value} {t : T2} (h : T2Is w v t) (n : Nat) (ρ : Env) : ∃ ρ', TVOK w n ρ ρ' [v] (t.bld n).vs (t.bld n).hp (t.bld n).n := by
  cases h with
  | @c v t h =>
    obtain ⟨ρ', k⟩ := T1.bld_ok h n ρ
    have hone : ∃ c, (t.bld n).cs = [c] := by cases t <;> exact ⟨_, rfl⟩
    obtain ⟨c, hc⟩ := hone
    have hval := k.val
    have hlt := k.lt
    rw [hc] at hval hlt
    refine ⟨ρ', k.agree, k.le, ?_, ?_, k.heap⟩
    · simp only [T2.bld, hc, headC, List.map_cons, List.map_nil, V.val, W.val]
      simpa using hval
    · intro y hy
      simp only [T2.bld, hc, headC, List.mem_singleton] at hy
      subst hy
      exact hlt c List.mem_cons_self
  | @a vs ts h =>
    obtain ⟨ρ', k⟩ := bldT1_ok h n ρ
    refine ⟨ρ', k.agree, k.le, ?_, ?_, k.heap⟩
    · simp only [T2.bld, List.map_cons, List.map_nil, V.val, W.val, k.val]
    · intro y hy
      simp only [T2.bld, List.mem_singleton] at hy
      subst hy
      exact k.lt

theorem bldT2_ok {w : World} {vs : List Value} {ts : List T2} (h : T2sAre w vs ts) : ∀ (n : Nat) (ρ : Env), ∃ ρ', TVOK w n ρ ρ' vs (bldT2 n ts).vs (bldT2 n ts).hp (bldT2 n ts).n := by
  induction h with
  | nil => exact fun n ρ => ⟨ρ, Agree.refl _ _, Nat.le_refl _, rfl, (fun _ h => by cases h), fun _ _ h => by cases h⟩
  | @cons v t vs ts h r ih =>
    intro n ρ
    obtain ⟨ρ1, k1⟩ := T2.bld_ok h n ρ
    obtain ⟨ρ2, k2⟩ := ih (t.bld n).n ρ1
    refine ⟨ρ2, k1.agree.trans k2.agree k1.le, Nat.le_trans k1.le k2.le, ?_, ?_, ?_⟩
    · simp only [bldT2, List.map_append, k2.val]
      have : (t.bld n).vs.map (V.val ρ2) = [v] := by
        rw [← k1.val]
        exact List.map_congr_left fun c hc => V.val_agree k2.agree (k1.lt c hc)
      rw [this]
      rfl
    · intro c hc
      rcases List.mem_append.1 hc with hc | hc
      · exact V.lt_mono k2.le (k1.lt c hc)
      · exact k2.lt c hc
    · intro k o hf
      have hf : find ((bldT2 (t.bld n).n ts).hp ++ (t.bld n).hp) k = some o := hf
      rw [find_append] at hf
      cases hg : find (bldT2 (t.bld n).n ts).hp k with
      | some o2 =>
        rw [hg] at hf
        cases hf
        obtain ⟨q1, q2, q3⟩ := k2.heap k o hg
        exact ⟨Nat.le_trans k1.le q1, q2, q3⟩
      | none =>
        rw [hg] at hf
        obtain ⟨q1, q2, c, q3, q4, q5⟩ := k1.heap k o hf
        exact ⟨q1, Nat.lt_of_lt_of_le q2 k2.le, c, q3, by rw [k2.agree k q2]; exact q4, q5⟩

/-- **A law's contract with shapes, called.** -/
theorem law_callsT {P : Program} {w : World} {f : Nat} {shs : List SV} {g : List Lf → Option GT} {vs : List Value} {ts : List T2} {ls : List Lf} {am : List C} {ob : Prop} {b : Bool} {fn : Func} (hok : SpecOK P f true (pureT shs g)) (hargs : T2sAre w vs ts)
    (hto : toVs (bldT2 0 ts).hp shs (bldT2 0 ts).vs = some (ls, am)) (hg : g ls = some (.leaf ob [.c (.d (.b b))])) (ho : ob) (hb : b = true)
    (hfn : P.funcs[f]? = some fn) (hbody : fn.body = some (fn.body.getD .skip)) (hn : (fn.name == "runtime.NumGoroutine") = false) (hgl : GlobOK (fun k => k < w.heap.size) w) :
    Calls P f vs.toArray w fun e w' => e = .returned (.bool true) ∧ Below w.heap.size w w' := by
  subst hb
  obtain ⟨ρ, k⟩ := bldT2_ok hargs 0 (fun _ => undef)
  have hh : HRel ρ (fun k => k < w.heap.size) (bldT2 0 ts).hp (bldT2 0 ts).n w := by
    refine ⟨fun x o hf => ?_, fun x o x' o' q hf hf' _ hb => ?_, hgl⟩
    · obtain ⟨_, q2, c, rfl, q4, q5⟩ := k.heap x o hf
      exact ⟨q2, trivial, q4, IsRow.lt q4 q5⟩
    · obtain ⟨_, _, c, rfl, _, _⟩ := k.heap x o hf
      cases hb
  have := (hok.sound hfn hbody hn).sound ρ (fun k => k < w.heap.size) w (bldT2 0 ts).vs (bldT2 0 ts).hp (bldT2 0 ts).n ((GT.leaf ob [.c (.d (.b true))]).toRT am (bldT2 0 ts).hp (bldT2 0 ts).n) (by
    unfold pureT
    rw [hto]
    dsimp only
    rw [hg]) ho k.lt hh (fun k hk => hk)
  rw [k.val] at this
  refine this.mono ?_
  rintro e w' ⟨ρ', rfl, hl⟩
  exact ⟨rfl, hl.mono rfl⟩
end

end Go.Sx
