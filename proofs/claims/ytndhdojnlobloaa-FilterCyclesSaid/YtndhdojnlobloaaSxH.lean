/- A symbolic executor for the model's code: a step, proved. -/
import Derived.Test.YtndhdojnlobloaaSxG
set_option linter.unusedSectionVars false
set_option linter.unusedSimpArgs false
set_option linter.unusedVariables false
open Go.RowKit
namespace Go.Sx

/-- A contract of a function that the program holds. -/
structure RunOK [Globs] (P : Program) (f : Nat) (M : Bool) (S : Spec) : Prop where
  enter : ∀ args w, (callFunc f args).run P w = .ok (.enter f args) w
  sound : ∀ ρ B w args hp nx t, S args hp nx = some t → t.sel.ob → (∀ x ∈ args, V.lt nx x) → HRel ρ B hp nx w → Old B w →
    Calls P f (args.map (V.val ρ)).toArray w fun e w' => ∃ ρ', e = .returned (t.sel.v.val ρ') ∧ Left ρ B nx w t.sel M ρ' w'
/-- A contract of a function that the machine itself answers. -/
def ValOK [Globs] (P : Program) (f : Nat) (S : Spec) : Prop :=
  ∀ ρ B w args hp nx t, S args hp nx = some t → t.sel.ob → (∀ x ∈ args, V.lt nx x) → HRel ρ B hp nx w → Old B w →
    ∃ ob v, t.sel = ⟨ob, v, hp, nx⟩ ∧ v.lt nx ∧ (callFunc f (args.map (V.val ρ)).toArray).run P w = .ok (.value (v.val ρ)) w
/-- A callee's contract in the executor's words. -/
def SpecOK [Globs] (P : Program) (f : Nat) (M : Bool) (S : Spec) : Prop := RunOK P f M S ∨ ValOK P f S

abbrev Specs := Nat → Option (Bool × Spec)
def SpecsOK [Globs] (P : Program) (sp : Specs) : Prop := ∀ f M S, sp f = some (M, S) → SpecOK P f M S

/-- Does the step keep all blocks that were there? -/
def monoOp [Globs] (sp : Specs) (op : Op) (rd : Operand → Option V) : Bool :=
  match op with
  | .store _ _ _ => false
  | .mapUpdate _ _ _ _ => false
  | .slice _ _ _ _ (some _) => !Globs.mv
  | .call c => match c.callee with
    | .builtin .append => false
    | .value f => match rd f with
      | some (.w (.c (.fn g _))) => match sp g with
        | some (M, _) => M
        | none => false
      | some (.w (.c (.fb g _))) => match sp g with
        | some (M, _) => M
        | none => false
      | _ => false
    | _ => true
  | _ => true

/-- The first elements of an own row, taken with a limit: the row is given up. -/
def stepR [Globs] (P : Program) (op : Op) (rd : Operand → Option V) (hp : Hp) (nx : Nat) : Option Res :=
  match op with
  | .slice t x none (some hi) (some mx) =>
    match Globs.mv with
    | true => match P.underlying t, rd x, (rd hi).bind V.int?, (rd mx).bind V.int? with
      | some (.slice elem), some (.w (.c (.o h))), some (_, m), some (_, q) => match find hp h, szT P elem with
        | some (.row _ c), some (e + 1) => match Nat.beq c.e (e + 1) with
          | true => some ⟨0 ≤ m ∧ m ≤ q ∧ q ≤ (c.n : Int), .w (.c (.o nx)), (nx, .rrow (c.sub 0 m.toNat)) :: (h, .dead) :: hp, nx + 1⟩
          | false => none
        | _, _ => none
      | _, _, _, _ => none
    | false => none
  | _ => none

/-- One operation. -/
def step [Globs] (P : Program) (sp : Specs) (op : Op) (rd : Operand → Option V) (hp : Hp) (nx : Nat) : Option Res :=
  match stepV P op rd hp with
  | some (ob, v) => some ⟨ob, v, hp, nx⟩
  | none => match stepR P op rd hp nx with
    | some r => some r
    | none => match stepX P op rd hp nx with
      | some r => some r
      | none => stepH P sp op rd hp nx

section
variable [Globs] {P : Program} {ρ : Env} {B : Bd} {nx : Nat} {hp : Hp} {w : World} {rd : Operand → Option V} {a : Act} {sp : Specs}

/-- A slice that reads as its content, from the object's fact. -/
theorem row_isRow {h : Nat} {o : O} {c : Cont} (hok : o.ok ρ B w h) (hc : o.cont = some c) : IsRow w (ρ h) c := by
  cases o with
  | ext c' => simp [O.cont] at hc; subst hc; exact hok.1
  | view r c' _ => simp [O.cont] at hc; subst hc; exact hok.1
  | rrow c' => simp [O.cont] at hc; subst hc; exact hok.1
  | row ty c' =>
    simp [O.cont] at hc; subst hc
    rcases hok.1.2 with ⟨h1, hn⟩ | ⟨g, cap, cur, h1, h2, h3, h4, h5, h6, h7⟩
    · exact ⟨none, 0, by rw [hn]; exact h1, ⟨by omega, fun _ => rfl⟩, fun h => by omega⟩
    · refine ⟨some ⟨g, 0, none⟩, cap, h1, ⟨h4, fun h => by cases h⟩, fun _ => ⟨g, 0, rfl, fun j x hj => ?_⟩⟩
      rw [Nat.zero_add, cell_of_row w g j cur ty (0, 0) h3]
      have h2 : (cur.toList.take (c'.n * c'.e))[j]? = some x.val := by rw [h7, List.getElem?_map, hj]; rfl
      rw [List.getElem?_take] at h2
      split at h2
      · simpa using h2
      · cases h2
  | _ => simp [O.cont] at hc

theorem isRow_sub {v : Value} {c : Cont} {lo hi : Nat} (he : 0 < c.e) (h : IsRow w v c) (hlo : lo ≤ hi) (hhi : hi ≤ c.n) {a' : Option Addr} {n cap : Nat} (hv : v = .slice a' n cap) :
    IsRow w (.slice (if cap = lo then a' else a'.map (·.add (lo * c.e))) (hi - lo) (cap - lo)) (c.sub lo hi) := by
  obtain ⟨a2, cap2, h1, ⟨h2, h2'⟩, h3⟩ := h
  rw [hv] at h1
  cases h1
  have hs := c.sub_cell hlo hhi
  refine ⟨_, _, by rw [hs.1], ⟨by omega, fun hnone => ?_⟩, fun hn => ?_⟩
  · by_cases hc : cap = lo
    · omega
    · rw [if_neg hc] at hnone
      have := h2' (by simpa using hnone)
      omega
  rw [hs.1] at hn
  obtain ⟨b, off, rfl, hx⟩ := h3 (by omega)
  rw [if_neg (by omega)]
  refine ⟨b, off + lo * c.e, by simp [add_at], fun j x hj => ?_⟩
  have hjl : j < (hi - lo) * c.e := by
    have := (List.getElem?_eq_some_iff.1 hj).1
    rw [Cont.flat_length, hs.1, hs.2.1] at this
    exact this
  have hk : j / c.e < hi - lo := Nat.div_lt_of_lt_mul (by rw [Nat.mul_comm]; exact hjl)
  have hm := Nat.mod_lt j he
  have hdm : j / c.e * c.e + j % c.e = j := by rw [Nat.mul_comm]; exact Nat.div_add_mod j c.e
  have h4 := (c.sub lo hi).flat_get (i := j / c.e) (j := j % c.e) (by omega) (by omega)
  rw [hs.2.1, hdm, hj, hs.2.2 _ _ hk] at h4
  have h5 := c.flat_get (i := lo + j / c.e) (j := j % c.e) (by omega) hm
  have h6 := hx _ _ h5
  cases h4
  rw [← h6]
  congr 2
  rw [Nat.add_mul]
  omega

theorem bound_run (hr : Reads ρ nx rd a) {x : Option Operand} {l : Option Int} (h : rdBound rd x = some l) : ∃ k, x.map a.eval = l.map (Value.int k ·) := by
  cases x with
  | none => simp only [rdBound, Option.some.injEq] at h; subst h; exact ⟨.i64, rfl⟩
  | some x =>
    simp only [rdBound] at h
    split at h
    · rename_i k n hx
      cases h
      cases hrx : rd x with
      | none => simp [hrx] at hx
      | some u =>
        simp only [hrx, Option.bind_some] at hx
        have := (hr x u hrx).2
        rw [V.int?_eq hx] at this
        exact ⟨k, by simp [this]⟩
    · cases h

theorem sliceBounds_run {len cap : Nat} {l m : Option Int} {k k' : IntKind} (h0 : 0 ≤ l.getD 0) (h1 : l.getD 0 ≤ m.getD (len : Int)) (h2 : m.getD (len : Int) ≤ (len : Int)) (h3 : len ≤ cap) :
    (Instr.sliceBounds true len cap (l.map (Value.int k ·)) (m.map (Value.int k' ·)) none).run P w = .ok ((l.getD 0).toNat, (m.getD (len : Int)).toNat, cap) w := by
  cases l <;> cases m <;> simp only [Option.map_none, Option.map_some, Option.getD_none, Option.getD_some] at * <;>
    simp [Instr.sliceBounds, Instr.sliceBound, asIntOf, *]
  · intro h
    omega
  · rw [if_pos (by omega), if_pos (by omega)]

theorem left_new {r : Res} (hh : HRel ρ B hp nx w) (hB : Old B w) (v : Value) (obj : O) (hr : r.hp = (nx, obj) :: hp) (hn : r.nx = nx + 1) (hv : r.v.lt (nx + 1)) (M : Bool)
    (hl : obj.lt (nx + 1)) (ho : obj.ok (upd ρ nx v) B w nx) (hb : obj.blk v = none) : Left ρ B nx w r M (upd ρ nx v) w := by
  refine ⟨upd_agree _ _ _, by rw [hn]; exact hv, by omega, ?_, Bel.refl _ _, fun _ => Below.refl _ _, fun _ h o k hnh hf hk => ?_⟩
  · rw [hr, hn]
    exact hh.add (Below.refl _ w) hB (upd_agree _ _ _) hl ho (by simp [hb])
  · rw [hr] at hf
    simp only [find] at hf
    split at hf
    · rename_i e
      subst e
      cases hf
      rw [upd_same, hb] at hk
      cases hk
    · have := (hh.ok h o hf).1
      omega

theorem sliceSlice_sound {o : Oper} {t h e elem : Nat} {x : Operand} {lo hi : Option Operand} {l m : Option Int} {ob : O} {c : Cont} (hh : HRel ρ B hp nx w) (hB : Old B w) (hr : Reads ρ nx rd a) (ho : o.op = .slice t x lo hi none)
    (hu : P.underlying t = some (.slice elem)) (hx : rd x = some (.w (.c (.o h)))) (hl : rdBound rd lo = some l) (hm : rdBound rd hi = some m) (hf : find hp h = some ob) (hs : szT P elem = some (e + 1)) (hc : ob.cont = some c) (hce : c.e = e + 1)
    (hob : 0 ≤ l.getD 0 ∧ l.getD 0 ≤ m.getD (c.n : Int) ∧ m.getD (c.n : Int) ≤ (c.n : Int)) (r : Res) (hrn : r.nx = nx + 1) (hrv : r.v = .w (.c (.o nx)))
    (hrh : r.hp = (nx, cutO h ob (c.sub (l.getD 0).toNat (m.getD (c.n : Int)).toNat)) :: hp) :
    Sound P ρ B nx a w o r true := by
  obtain ⟨h0, h1, h2⟩ := hob
  have hok := hh.ok h ob hf
  have hrow := row_isRow hok.2.2 hc
  obtain ⟨a2, cap, hv, ⟨hcap, _⟩, hcells⟩ := hrow
  have he : 0 < c.e := by omega
  have hlo : (l.getD 0).toNat ≤ (m.getD (c.n : Int)).toNat := by omega
  have hhi : (m.getD (c.n : Int)).toNat ≤ c.n := by omega
  have hsub := isRow_sub (w := w) he (row_isRow hok.2.2 hc) hlo hhi hv
  obtain ⟨k1, hlv⟩ := bound_run hr hl
  obtain ⟨k2, hmv⟩ := bound_run hr hm
  have hsb := sliceBounds_run (P := P) (w := w) (len := c.n) (cap := cap) (l := l) (m := m) (k := k1) (k' := k2) h0 h1 h2 hcap
  have hxv : a.eval x = .slice a2 c.n cap := by rw [(hr _ _ hx).2]; exact hv
  refine sound_value (ρ' := upd ρ nx (.slice (if cap = (l.getD 0).toNat then a2 else a2.map (·.add ((l.getD 0).toNat * c.e))) ((m.getD (c.n : Int)).toNat - (l.getD 0).toNat) (cap - (l.getD 0).toNat))) (w' := w) ?_ ?_
  · unfold execOp
    simp only [ho, hxv, hlv, hmv, Option.map_none, Instr.sliceAt, Instr.slice, Sem.run_bind, run_underlying hu, Result.andThen_ok, hsb, run_szT w hs, Sem.run_pure, hrv]
    simp [V.val, W.val, C.val, hce]
  · refine left_new hh hB _ _ hrh hrn (by rw [hrv]; exact Nat.lt_succ_self nx) true ?_ ?_ ?_
    · cases ob with
      | view r2 c2 _ => exact Nat.lt_of_lt_of_le hok.2.1 (Nat.le_succ nx)
      | ext => trivial
      | row => exact Nat.lt_of_lt_of_le hok.1 (Nat.le_succ nx)
      | rrow => exact Nat.lt_of_lt_of_le hok.1 (Nat.le_succ nx)
      | _ => simp [O.cont] at hc
    · have hblk : ∀ a n' cap', (Value.slice (if cap = (l.getD 0).toNat then a2 else a2.map (·.add ((l.getD 0).toNat * c.e))) ((m.getD (c.n : Int)).toNat - (l.getD 0).toNat) (cap - (l.getD 0).toNat)) = .slice (some a) n' cap' → 0 < n' → ∃ b off, a2 = some ⟨b, off, none⟩ ∧ a.block = b ∧ 0 < c.n := by
        intro a n' cap' heq hn'
        simp only [Value.slice.injEq] at heq
        obtain ⟨h5, h6, h7⟩ := heq
        obtain ⟨b, off, rfl, _⟩ := hcells (by omega)
        rw [if_neg (by omega)] at h5
        simp only [Option.map_some, Option.some.injEq] at h5
        refine ⟨b, off, rfl, ?_, by omega⟩
        rw [← h5, add_at]
      cases ob with
      | ext c2 =>
        refine ⟨by rw [upd_same]; exact hsub, ?_⟩
        rw [upd_same]
        intro a n' cap' heq hn'
        obtain ⟨b, off, rfl, rfl, hcn⟩ := hblk a n' cap' heq hn'
        exact hok.2.2.2 ⟨_, off, none⟩ c.n cap hv hcn
      | view r2 c2 _ =>
        exact ⟨by rw [upd_same]; exact hsub, fun h => by cases h⟩
      | rrow c2 =>
        exact ⟨by rw [upd_same]; exact hsub, fun h => by cases h⟩
      | row ty c2 =>
        exact ⟨by rw [upd_same]; exact hsub, fun h => by cases h⟩
      | _ => simp [O.cont] at hc
    · cases ob <;> simp [O.cont] at hc <;> rfl
end

end Go.Sx
