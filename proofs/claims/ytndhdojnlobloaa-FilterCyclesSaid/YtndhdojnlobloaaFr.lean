/- From a contract of a law to its row: arguments read as plain data, whatever their types; conditions: laws that return true and change nothing. -/
import Derived.Test.YtndhdojnlobloaaPl
import Derived.Carry
import Derived.ChangeArms
import Derived.OpenShut
import Derived.ChangeShapes
import Derived.ChangeSame
import Derived.SizedLaws
import Derived.WideShapes
set_option linter.unusedSectionVars false
set_option linter.unusedSimpArgs false
set_option linter.unusedVariables false
namespace Go.Sx
set_option linter.unusedVariables false
open Go.RowKit Go.ChangeShapes Go.WideShapes

/-- The kinds of a type's cells. -/
inductive K where
  | i (k : IntKind) | b | f (k : FloatKind) | s

/-- A datum of a kind, as the reading takes it. -/
def K.fits : K → D → Prop
  | .i k, .i k' n => k' = k ∧ (Lit.int k n).wf = true
  | .b, .b _ => True
  | .f k, .f k' n => k' = k ∧ (Lit.float k n).wf = true
  | .s, .s x => x.size ≤ maxLen
  | _, _ => False

def fitsAll : List K → List D → Prop
  | [], [] => True
  | k :: ks, d :: ds => k.fits d ∧ fitsAll ks ds
  | _, _ => False

theorem fitsAll_append : ∀ {ks : List K} {ds : List D} {ks' : List K} {ds' : List D}, fitsAll ks ds → fitsAll ks' ds' → fitsAll (ks ++ ks') (ds ++ ds')
  | [], [], _, _, _, h => h
  | _ :: _, _ :: _, _, _, h, h' => ⟨h.1, fitsAll_append h.2 h'⟩
  | [], _ :: _, _, _, h, _ => h.elim
  | _ :: _, [], _, _, h, _ => h.elim
theorem fitsAll_length : ∀ {ks : List K} {ds : List D}, fitsAll ks ds → ds.length = ks.length
  | [], [], _ => rfl
  | _ :: _, _ :: _, h => by simp [fitsAll_length h.2]
  | [], _ :: _, h => h.elim
  | _ :: _, [], h => h.elim

/-- The fields' kinds, one behind the other. -/
def kindsOf (g : TypeId → Option (List K)) (P : Program) : Nat → List Field → Option (List K)
  | _, [] => some []
  | n, f :: fs => match g f.type with
    | none => none
    | some ks => if f.offset = n ∧ P.cellsOf f.type = ks.length then (kindsOf g P (n + ks.length) fs).map (ks ++ ·) else none

def kinds (P : Program) : Nat → TypeId → Option (List K)
  | 0, _ => none
  | d + 1, t => match P.underlying t with
    | some .bool => some [.b]
    | some (.int k) => some [.i k]
    | some (.float k) => some [.f k]
    | some .string => some [.s]
    | some (.struct fs) => match kindsOf (kinds P d) P 0 fs.toList with
      | some ks => if P.cellsOf t = ks.length then some ks else none
      | none => none
    | some (.array n e) => match kinds P d e with
      | some ks => if P.cellsOf t = n * ks.length ∧ P.cellsOf e = ks.length then some (List.replicate n ks).flatten else none
      | none => none
    | _ => none

section
variable {H : Type} {enc : TypeId × Value → H} {P : Program} {w : World} {base : Nat} {spare : Nat → Bool} {held : Bool}

theorem array_cells {ks : List K} {e : TypeId} {m : Nat} (ih : ∀ cs x, DataW.trod enc P w base spare held m e cs = some x → ∃ ds : List D, cs = ds.map D.val ∧ fitsAll ks ds) :
    ∀ (n : Nat) (cs : List Value), cs.length = n * ks.length → (∀ i, i < n → ∃ x, DataW.trod enc P w base spare held m e ((cs.drop (i * ks.length)).take ks.length) = some x) → ∃ ds : List D, cs = ds.map D.val ∧ fitsAll (List.replicate n ks).flatten ds
  | 0, cs, hl, _ => ⟨[], by simpa using hl, trivial⟩
  | n + 1, cs, hl, h => by
    obtain ⟨x, hx⟩ := h 0 (by omega)
    obtain ⟨ds0, h0, h1⟩ := ih _ x hx
    obtain ⟨ds1, h2, h3⟩ := array_cells ih n (cs.drop ks.length) (by rw [List.length_drop, hl, Nat.add_mul]; omega) (fun i hi => by
      obtain ⟨y, hy⟩ := h (i + 1) (by omega)
      refine ⟨y, ?_⟩
      rw [List.drop_drop]
      rw [show ks.length + i * ks.length = (i + 1) * ks.length by rw [Nat.add_mul]; omega]
      exact hy)
    refine ⟨ds0 ++ ds1, ?_, fitsAll_append h1 h3⟩
    rw [List.map_append, ← h0, ← h2]
    simp

theorem struct_cells {g : TypeId → Option (List K)} {m : Nat} (ih : ∀ t ks cs x, g t = some ks → DataW.trod enc P w base spare held m t cs = some x → ∃ ds : List D, cs = ds.map D.val ∧ fitsAll ks ds) :
    ∀ (fs : List Field) (n : Nat) (ks : List K) (cs : List Value), kindsOf g P n fs = some ks → cs.length = n + ks.length → (∀ f ∈ fs, ∃ x, DataW.trod enc P w base spare held m f.type ((cs.drop f.offset).take (P.cellsOf f.type)) = some x) →
      ∃ ds : List D, cs.drop n = ds.map D.val ∧ fitsAll ks ds
  | [], n, ks, cs, hk, hl, _ => by
    simp only [kindsOf, Option.some.injEq] at hk
    subst hk
    refine ⟨[], ?_, trivial⟩
    simp at hl
    simp [hl]
  | f :: fs, n, ks, cs, hk, hl, h => by
    simp only [kindsOf] at hk
    split at hk
    · cases hk
    · rename_i kf hg
      split at hk
      · rename_i hc
        cases hr : kindsOf g P (n + kf.length) fs with
        | none => simp [hr] at hk
        | some kr =>
          simp only [hr, Option.map_some, Option.some.injEq] at hk
          subst hk
          obtain ⟨x, hx⟩ := h f List.mem_cons_self
          rw [hc.1, hc.2] at hx
          obtain ⟨ds0, h0, h1⟩ := ih f.type kf _ x hg hx
          obtain ⟨ds1, h2, h3⟩ := struct_cells ih fs (n + kf.length) kr cs hr (by rw [hl, List.length_append]; omega) (fun f' hf' => h f' (List.mem_cons_of_mem _ hf'))
          refine ⟨ds0 ++ ds1, ?_, fitsAll_append h1 h3⟩
          rw [List.map_append, ← h0, ← h2, ← List.drop_drop]
          exact (List.take_append_drop _ _).symm
      · cases hk

/-- What is read as data of a type of plain cells is plain cells. -/
theorem trod_cells : ∀ (d : Nat) (t : TypeId) (ks : List K) (fuel : Nat) (cs : List Value) (x : DataW H × List MemPlace), kinds P d t = some ks → DataW.trod enc P w base spare held fuel t cs = some x →
    ∃ ds : List D, cs = ds.map D.val ∧ fitsAll ks ds
  | 0, _, _, _, _, _, h, _ => by cases h
  | d + 1, t, ks, fuel, cs, x, hk, hx => by
    unfold kinds at hk
    split at hk
    · rename_i ht
      cases hk
      obtain ⟨b, rfl, _⟩ := DataW.trod_bool ht hx
      exact ⟨[.b b], rfl, trivial, trivial⟩
    · rename_i k ht
      cases hk
      obtain ⟨n, rfl, _, hw⟩ := DataW.trod_int ht hx
      exact ⟨[.i k n], rfl, ⟨rfl, hw⟩, trivial⟩
    · rename_i k ht
      cases hk
      cases fuel with
      | zero => simp [DataW.trod] at hx
      | succ n =>
        rcases cs with _ | ⟨v, _ | ⟨v', r⟩⟩
        · simp [DataW.trod, ht] at hx
        · cases v with
          | float k2 n2 =>
            simp only [DataW.trod, ht] at hx
            split at hx
            · rename_i hh
              exact ⟨[.f k2 n2], rfl, ⟨hh.1, hh.2⟩, trivial⟩
            · cases hx
          | _ => simp [DataW.trod, ht] at hx
        · simp [DataW.trod, ht] at hx
    · rename_i ht
      cases hk
      obtain ⟨z, rfl, _, hw⟩ := DataW.trod_string ht hx
      exact ⟨[.s z], rfl, hw, trivial⟩
    · rename_i fs ht
      split at hk
      · rename_i ks' hks
        split at hk
        · rename_i hc
          cases hk
          obtain ⟨xs, n, rfl, _, hl, hxl, hf⟩ := DataW.trod_struct ht hx
          have := struct_cells (enc := enc) (w := w) (base := base) (spare := spare) (held := held) (g := kinds P d) (m := n) (fun t ks cs x h1 h2 => trod_cells d t ks n cs x h1 h2) fs.toList 0 ks cs hks (by rw [hl, hc]; omega) (fun f hfm => by
            obtain ⟨i, hi, hfi⟩ := List.mem_iff_getElem.1 hfm
            have hi' : i < fs.size := by simpa using hi
            have h1 := hf i f (by rw [Array.getElem?_eq_getElem hi']; simpa using hfi)
            exact ⟨xs[i]'(by omega), by rw [h1, List.getElem?_eq_getElem]⟩)
          simpa using this
        · cases hk
      · cases hk
    · rename_i n e ht
      split at hk
      · rename_i ks' hks
        split at hk
        · rename_i hc
          cases hk
          obtain ⟨xs, m, rfl, _, hl, hxl, hf⟩ := DataW.trod_array ht hx
          exact array_cells (fun cs x h => trod_cells d e ks' m cs x hks h) n cs (by rw [hl, hc.1]) (fun i hi => by
            have h1 := hf i hi
            rw [hc.2] at h1
            exact ⟨xs[i]'(by omega), by rw [h1, List.getElem?_eq_getElem]⟩)
        · cases hk
      · cases hk
    · cases hk

/-- A slice that is read as data reads as rows. -/
theorem trod_rows {t e : TypeId} {ks : List K} {d fuel : Nat} {cs : List Value} {x : DataW H × List MemPlace} (ht : P.underlying t = some (.slice e)) (hk : kinds P d e = some ks) (hc : P.cellsOf e = ks.length) (h0 : 0 < ks.length)
    (hx : DataW.trod enc P w base spare held fuel t cs = some x) :
    ∃ (v : Value) (rows : List (List D)), cs = [v] ∧ (∀ r ∈ rows, fitsAll ks r) ∧ IsRow w v (.lits ks.length rows) ∧ (x.1 = .nil ∧ rows = [] ∨ ∃ el sp, x.1 = .slice el sp ∧ el.length = rows.length) := by
  rcases DataW.trod_slice ht hx with ⟨rfl, rfl⟩ | ⟨a, len, cap, elems, rest, n, rfl, rfl, rfl, hb, hl, hm, hel, hi, _, _⟩
  · exact ⟨_, [], rfl, (fun _ h => by cases h), ⟨none, 0, rfl, ⟨by simp [Cont.n], fun _ => rfl⟩, fun h => absurd h (by simp [Cont.n])⟩, .inl ⟨rfl, rfl⟩⟩
  · -- each element's cells
    have hget : ∀ i, i < len → ∃ ds : List D, fitsAll ks ds ∧ ∀ j, j < ks.length → w.cell? ((a.add (i * ks.length)).add j) = (ds[j]?).map D.val := fun i hil => by
      have h1 := hi i hil
      rw [hc] at h1
      have h2 : elems[i]? = some (elems[i]'(by omega)) := List.getElem?_eq_getElem (by omega)
      rw [h2] at h1
      obtain ⟨cs', hcs, htr⟩ := Option.bind_eq_some_iff.1 h1
      obtain ⟨ds, hds, hfit⟩ := trod_cells d e ks n cs' _ hk htr
      obtain ⟨_, hcl, hat⟩ := World.cells?_some hcs
      refine ⟨ds, hfit, fun j hj => ?_⟩
      rw [hat j hj, hds, List.getElem?_map]
    let R : Nat → List D := fun i => if h : i < len then Classical.choose (hget i h) else []
    have hR : ∀ i (h : i < len), fitsAll ks (R i) ∧ ∀ j, j < ks.length → w.cell? ((a.add (i * ks.length)).add j) = ((R i)[j]?).map D.val := fun i h => by
      show fitsAll ks (if h : i < len then _ else _) ∧ _
      simp only [R, dif_pos h]
      exact Classical.choose_spec (hget i h)
    refine ⟨_, (List.range len).map R, rfl, fun r hr => ?_, ?_, .inr ⟨_, _, rfl, by simp [hel]⟩⟩
    · obtain ⟨i, hi', rfl⟩ := List.mem_map.1 hr
      exact (hR i (by simpa using hi')).1
    · refine ⟨some a, cap, by simp [Cont.n], ⟨by simpa [Cont.n] using hl, fun h => by cases h⟩, fun hn => ?_⟩
      have hn : 0 < len := by simpa [Cont.n] using hn
      -- the first cell is there: a plain address
      have hsp : a.spot = none := by
        have h1 := (hR 0 hn).2 0 h0
        have hfl := fitsAll_length (hR 0 hn).1
        rw [List.getElem?_eq_getElem (by omega)] at h1
        simp [Addr.add] at h1
        cases hs : a.spot with
        | none => rfl
        | some s =>
          exfalso
          unfold World.cell? at h1
          simp only [hs] at h1
          split at h1
          · simp at h1
          · cases h1
      obtain ⟨b, off, sp⟩ := a
      simp only at hsp
      subst hsp
      refine ⟨b, off, rfl, fun j y hj => ?_⟩
      have hne : 0 < ks.length := h0
      have hjl : j < (Cont.lits ks.length ((List.range len).map R)).flat.length := (List.getElem?_eq_some_iff.1 hj).1
      rw [Cont.flat_length] at hjl
      simp only [Cont.n, Cont.e, List.length_map, List.length_range] at hjl
      have hq : j / ks.length < len := Nat.div_lt_of_lt_mul (by rw [Nat.mul_comm]; exact hjl)
      have hr : j % ks.length < ks.length := Nat.mod_lt _ hne
      have hg := Cont.flat_get (.lits ks.length ((List.range len).map R)) (i := j / ks.length) (j := j % ks.length) (by simpa [Cont.n] using hq) hr
      have ej : j / ks.length * ks.length + j % ks.length = j := by rw [Nat.mul_comm]; exact Nat.div_add_mod j _
      simp only [Cont.e] at hg
      rw [ej, hj] at hg
      have hcell := (hR (j / ks.length) hq).2 (j % ks.length) hr
      have hfl := fitsAll_length (hR (j / ks.length) hq).1
      rw [add_at, add_at, Nat.add_assoc, ej, List.getElem?_eq_getElem (by omega)] at hcell
      rw [hcell]
      simp only [Option.some.injEq] at hg
      simp [hg, Cont.cell, List.getD, hq, List.getElem?_eq_getElem (show j % ks.length < (R (j / ks.length)).length by omega)]

theorem isRow_of {v : Value} {c c' : Cont} (h : IsRow w v c) (hn : c'.n = c.n) (hf : c'.flat = c.flat) : IsRow w v c' := by
  obtain ⟨a, cap, hv, hc, hcell⟩ := h
  exact ⟨a, cap, by rw [hn]; exact hv, by rw [hn]; exact hc, fun h => by
    obtain ⟨b, off, e, hx⟩ := hcell (by rw [← hn]; exact h)
    exact ⟨b, off, e, by rw [hf]; exact hx⟩⟩

theorem ints_of : ∀ {n : Nat} {r : List D}, fitsAll (List.replicate n (.i .i64)) r → ∃ l : List Int, r = l.map (D.i .i64) ∧ l.length = n ∧ ∀ x ∈ l, inI x
  | 0, [], _ => ⟨[], rfl, rfl, fun _ h => by cases h⟩
  | n + 1, .i k x :: r, h => by
    obtain ⟨l, h1, h2, h3⟩ := ints_of (n := n) h.2
    obtain ⟨rfl, hw⟩ := h.1
    refine ⟨x :: l, by rw [h1]; rfl, by simp [h2], fun y hy => ?_⟩
    rcases List.mem_cons.1 hy with rfl | hy
    · unfold inI
      simpa [Lit.wf, IntKind.min, IntKind.max, IntKind.signed, IntKind.bits] using hw
    · exact h3 y hy
  | 0, _ :: _, h => h.elim
  | _ + 1, [], h => h.elim
  | _ + 1, .b _ :: _, h => h.1.elim
  | _ + 1, .f _ _ :: _, h => h.1.elim
  | _ + 1, .s _ :: _, h => h.1.elim
  | _ + 1, .v _ :: _, h => h.1.elim

theorem rows_ints {n : Nat} {rows : List (List D)} (h : ∀ r ∈ rows, fitsAll (List.replicate n (.i .i64)) r) : ∃ l : List (List Int), rows = l.map (fun r => r.map (D.i .i64)) ∧ l.length = rows.length ∧ ∀ r ∈ l, r.length = n ∧ ∀ x ∈ r, inI x := by
  induction rows with
  | nil => exact ⟨[], rfl, rfl, fun _ h => by cases h⟩
  | cons r rows ih =>
    obtain ⟨l, h1, h2, h3⟩ := ih fun r hr => h r (List.mem_cons_of_mem _ hr)
    obtain ⟨x, h4, h5, h6⟩ := ints_of (h r List.mem_cons_self)
    refine ⟨x :: l, by rw [h1, h4]; rfl, by simp [h2], fun y hy => ?_⟩
    rcases List.mem_cons.1 hy with rfl | hy
    · exact ⟨h5, h6⟩
    · exact h3 y hy

theorem lits_recs {n : Nat} {l : List (List Int)} (h : ∀ r ∈ l, r.length = n) : (Cont.recs n l).flat = (Cont.lits n (l.map fun r => r.map (D.i .i64))).flat := by
  simp only [Cont.flat]
  induction l with
  | nil => rfl
  | cons r l ih =>
    rw [List.flatMap_cons, List.map_cons, List.flatMap_cons, ih fun r hr => h r (List.mem_cons_of_mem _ hr)]
    congr 1
    have hr := h r List.mem_cons_self
    subst hr
    rw [recD_self]
    exact (litD_self' (r.map (D.i .i64)) (by simp)).symm
  where
  litD_self' {n : Nat} (r : List D) (h : r.length = n) : litD n r = r := by subst h; exact litD_self r

/-- An argument that is a slice of structs of whole numbers. -/
theorem open_recs {t e : TypeId} {d n fuel : Nat} {cs : List Value} {x : DataW H × List MemPlace} (ht : P.underlying t = some (.slice e)) (hk : kinds P d e = some (List.replicate n (.i .i64))) (hc : P.cellsOf e = n) (h0 : 0 < n)
    (hx : DataW.trod enc P w base spare held fuel t cs = some x) :
    ∃ (v : Value) (l : List (List Int)), cs = [v] ∧ IsRow w v (.recs n l) ∧ (∀ r ∈ l, r.length = n ∧ ∀ x ∈ r, inI x) ∧ (x.1 = .nil ∧ l = [] ∨ ∃ el sp, x.1 = .slice el sp ∧ el.length = l.length) := by
  obtain ⟨v, rows, h1, h2, h3, h4⟩ := trod_rows ht hk (by simpa using hc) (by simpa using h0) hx
  obtain ⟨l, h5, h6, h7⟩ := rows_ints h2
  subst h5
  refine ⟨v, l, h1, isRow_of h3 (by simp [Cont.n]) ?_, h7, ?_⟩
  · rw [List.length_replicate]; exact lits_recs fun r hr => (h7 r hr).1
  · rcases h4 with h4 | ⟨el, sp, h4, h8⟩
    · exact .inl ⟨h4.1, by simpa using h4.2⟩
    · exact .inr ⟨el, sp, h4, by simpa using h8⟩

/-- An argument that is a slice of whole numbers. -/
theorem open_intl {t e : TypeId} {d fuel : Nat} {cs : List Value} {x : DataW H × List MemPlace} (ht : P.underlying t = some (.slice e)) (hk : kinds P d e = some [.i .i64]) (hc : P.cellsOf e = 1)
    (hx : DataW.trod enc P w base spare held fuel t cs = some x) :
    ∃ (v : Value) (l : List Int), cs = [v] ∧ IsRow w v (.ints .i64 l) ∧ (∀ x ∈ l, inI x) ∧ (x.1 = .nil ∧ l = [] ∨ ∃ el sp, x.1 = .slice el sp ∧ el.length = l.length) := by
  obtain ⟨v, l, h1, h2, h3, h4⟩ := open_recs (n := 1) ht hk hc (by omega) hx
  refine ⟨v, l.map (fun r => r.getD 0 0), h1, isRow_of h2 (by simp [Cont.n]) ?_, fun x hx => ?_, ?_⟩
  · simp only [Cont.flat]
    clear h2 h4
    induction l with
    | nil => rfl
    | cons r l ih =>
      rw [List.map_cons, List.flatMap_cons, List.flatMap_cons, ih fun r hr => h3 r (List.mem_cons_of_mem _ hr)]
      rfl
  · obtain ⟨r, hr, rfl⟩ := List.mem_map.1 hx
    have := h3 r hr
    match r, this with
    | [y], this => exact this.2 y (by simp)
  · rcases h4 with h4 | ⟨el, sp, h4, h8⟩
    · exact .inl ⟨h4.1, by simpa using h4.2⟩
    · exact .inr ⟨el, sp, h4, by simpa using h8⟩
end

/-! ### the call -/

/-- The symbolic argument that a value is. -/
inductive ArgIs (w : World) : Value → A → Prop where
  | d (x : D) : ArgIs w x.val (.d x)
  | s (l : List D) : ArgIs w (.agg (l.map D.val).toArray) (.s l)
  | r (v : Value) (c : Cont) (he : 0 < c.e) (h : IsRow w v c) : ArgIs w v (.r c)

def argsV : Nat → List A → List V
  | _, [] => []
  | n, .d x :: l => .w (.c (.d x)) :: argsV (n + 1) l
  | n, .s x :: l => .w (.a (x.map C.d)) :: argsV (n + 1) l
  | n, .r _ :: l => .w (.c (.o n)) :: argsV (n + 1) l
  | n, .f g :: l => .w (.c (.fn g [])) :: argsV (n + 1) l

inductive ArgsAre (w : World) : List Value → List A → Prop where
  | nil : ArgsAre w [] []
  | cons {v : Value} {a : A} {vs : List Value} {as : List A} (h : ArgIs w v a) (t : ArgsAre w vs as) : ArgsAre w (v :: vs) (a :: as)

section
variable [Globs] {P : Program} {w : World}

theorem args_ok {vs : List Value} {as : List A} (h : ArgsAre w vs as) : ∀ (n : Nat) (ρ : Env), (∀ i v, vs[i]? = some v → ρ (n + i) = v) →
    (argsV n as).map (V.val ρ) = vs ∧ (∀ x ∈ argsV n as, V.lt (n + as.length) x) ∧ (∀ k o, find (argHp n as) k = some o → n ≤ k ∧ k < n + as.length ∧ o.lt (n + as.length) ∧ o.ok ρ (fun k => k < w.heap.size) w k ∧ ∀ b, o.blk (ρ k) ≠ some b) ∧ as.length = vs.length := by
  induction h with
  | nil => exact fun n ρ _ => ⟨rfl, (fun _ h => by cases h), (fun _ _ h => by cases h), rfl⟩
  | @cons v a vs as ha hs ih =>
    intro n ρ hρ
    obtain ⟨h1, h2, h3, h4⟩ := ih (n + 1) ρ (fun i v hv => by rw [show n + 1 + i = n + (i + 1) by omega]; exact hρ (i + 1) v (by simpa using hv))
    have h0 : ρ n = v := by have := hρ 0 v rfl; simpa using this
    have up : ∀ x, V.lt (n + 1 + as.length) x → V.lt (n + (a :: as).length) x := fun x hx => V.lt_mono (by simp; omega) hx
    have up3 : ∀ k o, find (argHp (n + 1) as) k = some o → n ≤ k ∧ k < n + (a :: as).length ∧ o.lt (n + (a :: as).length) ∧ o.ok ρ (fun k => k < w.heap.size) w k ∧ ∀ b, o.blk (ρ k) ≠ some b := fun k o hf => by
      obtain ⟨p1, p2, p3, p4, p5⟩ := h3 k o hf
      exact ⟨by omega, by simp; omega, O.lt_mono (by simp; omega) p3, p4, p5⟩
    cases ha with
    | d x =>
      refine ⟨by simp only [argsV, List.map_cons, h1]; rfl, fun y hy => ?_, up3, by simp [h4]⟩
      rcases List.mem_cons.1 hy with rfl | hy
      · trivial
      · exact up y (h2 y hy)
    | s l =>
      refine ⟨?_, fun y hy => ?_, up3, by simp [h4]⟩
      · simp only [argsV, List.map_cons, h1]
        congr 1
        simp [V.val, W.val, C.val, Function.comp_def]
      · rcases List.mem_cons.1 hy with rfl | hy
        · intro c hc
          obtain ⟨z, _, rfl⟩ := List.mem_map.1 hc
          trivial
        · exact up y (h2 y hy)
    | r v c he hr =>
      refine ⟨?_, fun y hy => ?_, fun k o hf => ?_, by simp [h4]⟩
      · simp only [argsV, List.map_cons, h1]
        congr 1
      · rcases List.mem_cons.1 hy with rfl | hy
        · show n < n + (as.length + 1)
          omega
        · exact up y (h2 y hy)
      · simp only [argHp, find] at hf
        split at hf
        · rename_i e
          subst e
          cases hf
          refine ⟨Nat.le_refl _, by simp, trivial, ?_, fun b => by simp [O.blk]⟩
          show IsRow w (ρ n) c ∧ OldRow _ (ρ n)
          rw [h0]
          exact ⟨hr, IsRow.lt hr he⟩
        · exact up3 k o hf

/-- **A law's contract, called.** -/
theorem law_calls {f : Nat} {qs : List (Option Cont)} {g : List A → Option (Prop × List RV)} {vs : List Value} {ax : List A} {ob : Prop} {b : Bool} {fn : Func} (hok : SpecOK P f true (pureK qs g)) (hargs : ArgsAre w vs ax)
    (hto : toAsK qs (argHp 0 ax) (argsV 0 ax) = some ax) (hg : g ax = some (ob, [.d (.b b)])) (ho : ob) (hb : b = true)
    (hfn : P.funcs[f]? = some fn) (hbody : fn.body = some (fn.body.getD .skip)) (hn : (fn.name == "runtime.NumGoroutine") = false) (hgl : GlobOK (fun k => k < w.heap.size) w) :
    Calls P f vs.toArray w fun e w' => e = .returned (.bool true) ∧ Below w.heap.size w w' := by
  subst hb
  obtain ⟨h1, h2, h3, h4⟩ := args_ok hargs 0 (fun i => (vs[i]?).getD undef) (fun i v hv => by simp [hv])
  rw [Nat.zero_add] at h2
  have hh : HRel (fun i => (vs[i]?).getD undef) (fun k => k < w.heap.size) (argHp 0 ax) ax.length w :=
    ⟨fun k o hf => by obtain ⟨_, p2, p3, p4, _⟩ := h3 k o hf; exact ⟨by omega, by simpa using p3, p4⟩, fun k o k' o' b hf _ _ hbk => absurd hbk ((h3 k o hf).2.2.2.2 b), hgl⟩
  have := (hok.sound hfn hbody hn).sound _ (fun k => k < w.heap.size) w (argsV 0 ax) (argHp 0 ax) ax.length (.leaf ⟨ob, tupV (rvW ax.length [.d (.b true)]), rvHp ax.length [.d (.b true)] (argHp 0 ax), rvNx ax.length [.d (.b true)]⟩) (by
    unfold pureK
    rw [hto]
    dsimp only
    rw [hg]) ho h2 hh (fun k hk => hk)
  rw [h1] at this
  refine this.mono ?_
  rintro e w' ⟨ρ', rfl, hl⟩
  exact ⟨rfl, hl.mono rfl⟩
end

/-! ### the row -/
section
variable {H : Type} {enc : TypeId × Value → H} {P : Program}

theorem trod_all {sp : Nat → Bool} (hl : laidOutB P = true) {W W' : World} (hb : Below W.heap.size W W') : ∀ (ts : List TypeId) (vs : List Value) (ds : List (DataW H)) (ps : List MemPlace), (∀ t ∈ ts, P.readableRec t = true ∧ t < P.types.size) →
    DataW.TrodAll enc P W 0 (fun _ => true) true ts vs ds ps → (∀ p ∈ ps, p.block < W.heap.size) → (∀ p ∈ ps, sp p.block = true) → DataW.TrodAll enc P W' 0 sp true ts vs ds ps
  | [], [], [], _, _, h, _, _ => h
  | t :: ts, v :: vs, d :: ds, ps, ht, h, hlt, hs => by
    obtain ⟨p, q, h1, h2, rfl⟩ := h
    have htt := ht t List.mem_cons_self
    exact ⟨p, q, WideElems.Trod_stays hl htt.1 htt.2 h1 (fun x hx => hb.same (hlt x (List.mem_append_left _ hx))) (fun x hx => hs x (List.mem_append_left _ hx)),
      trod_all hl hb ts vs ds q (fun t ht' => ht t (List.mem_cons_of_mem _ ht')) h2 (fun x hx => hlt x (List.mem_append_right _ hx)) (fun x hx => hs x (List.mem_append_right _ hx)), rfl⟩
  | [], _ :: _, _, _, _, h, _, _ => h.elim
  | _ :: _, [], _, _, _, h, _, _ => h.elim
  | [], [], _ :: _, _, _, h, _, _ => h.elim
  | _ :: _, _ :: _, [], _, _, h, _, _ => h.elim

/-- What the row asks behind the call, of a law that says true and changes nothing. -/
theorem law_post {f : Func} {s : ChangeSpec} {apart fresh handsOn again : Bool} {W W' : World} {args : Array Value} {ds gs : List (DataW H)} {before : List MemPlace} {tb : TypeId} (hvars : s.vars = []) (hrt : f.resultTypes = #[tb]) (htb : P.underlying tb = some .bool)
    (hres : (s.fn H (ds ++ gs)).results = [.lit (.bool true)]) (hargs : (s.fn H (ds ++ gs)).args = ds) (hsv : (s.fn H (ds ++ gs)).vars = []) (hl : laidOutB P = true) (hread : ∀ t ∈ f.params.toList, P.readableRec t = true ∧ t < P.types.size)
    (hW : DataW.Whole enc P f.params.toList s.vars apart W args.toList ds gs before) (hb : Below W.heap.size W W') : s.post enc P f apart fresh handsOn again W args (.bool true) W' := by
  have hlt : ∀ p ∈ before, p.block < W.heap.size := fun p hp => hW.lt p hp
  have hW' := hW
  obtain ⟨p, q, h1, h2, rfl, hfz, hnd⟩ := hW'
  rw [hvars] at h2
  have hq : q = [] := by
    cases gs with
    | nil => exact h2
    | cons _ _ => exact h2.elim
  subst hq
  rw [List.append_nil] at hlt hfz hnd
  have hA : ∀ sp : Nat → Bool, (∀ x ∈ p, sp x.block = true) → DataW.TrodAll enc P W' 0 sp true f.params.toList args.toList ds p := fun sp hs => trod_all hl hb _ _ _ _ hread h1 hlt hs
  have hR : ∀ (b : Nat) (sp : Nat → Bool) (hd : Bool), DataW.TrodAll enc P W' b sp hd [tb] [.bool true] [.lit (.bool true)] [] := fun b sp hd => ⟨[], [], ⟨1, by simp [DataW.trod, htb, Value.cells]⟩, rfl, rfl⟩
  have hrl : (Value.bool true).resultList f.resultTypes.size = [.bool true] := by rw [hrt]; rfl
  have hrt' : f.resultTypes.toList = [tb] := by rw [hrt]
  refine ⟨ds, gs, p ++ [], [], p, [], hW, ?_, ?_, ?_, World.keptBut_mono (fun x hx => ⟨hx, .inr (.inl (by simpa using hx))⟩) (hb.frame (· ∈ p ++ [])), fun _ => ⟨fun j t r hj hr => ?_, ?_⟩⟩
  · rw [hrl, hrt', hres]; exact hR _ _ _
  · rw [hargs]; exact hA _ (fun x hx => by simpa using hlt x hx)
  · rw [hvars, hsv]; rfl
  · rw [hrt] at hj
    rw [hrl] at hr
    cases j with
    | zero =>
      simp at hj hr
      subst hj; subst hr
      exact okWide_bool_mk htb _
    | succ j => simp at hj
  · refine ⟨[.lit (.bool true)] ++ ds, [], p, ⟨p, [], ?_, by rw [hvars]; rfl, by simp, ?_, ?_⟩, fun x hx _ => by simpa using hx⟩
    · rw [hrl, hrt']
      exact ⟨[], p, ⟨1, by simp [DataW.trod, htb, Value.cells]⟩, hA _ (fun _ _ => rfl), rfl⟩
    · intro b off hp
      rw [hb.frozen (hlt _ hp)]
      exact hfz b off hp
    · exact hnd
end

/-! ### arguments -/
section
variable {H : Type} {enc : TypeId × Value → H} {P : Program} {w : World} {base : Nat} {spare : Nat → Bool} {held : Bool} {r : Reach} {b0 : Nat}

theorem one_cell {t e : TypeId} {v v' : Value} (ht : P.underlying t = some (.slice e)) (hval : Value.okWide P w r b0 t v) (h : v.cells.toList = [v']) : v = v' := by
  obtain ⟨a, len, cap, rfl⟩ := okWide_slice ht hval
  simpa [Value.cells] using h

theorem arg_recs {t e : TypeId} {d n : Nat} {v : Value} {x : DataW H} {p : List MemPlace} (ht : P.underlying t = some (.slice e)) (hk : kinds P d e = some (List.replicate n (.i .i64))) (hc : P.cellsOf e = n) (h0 : 0 < n)
    (hval : Value.okWide P w r b0 t v) (h : DataW.Trod enc P w base spare held t v x p) :
    ∃ l : List (List Int), ArgIs w v (.r (.recs n l)) ∧ (∀ r ∈ l, r.length = n ∧ ∀ x ∈ r, inI x) ∧ (x = .nil ∧ l = [] ∨ ∃ el sp, x = .slice el sp ∧ el.length = l.length) := by
  obtain ⟨fuel, hx⟩ := h
  obtain ⟨v', l, h1, h2, h3, h4⟩ := open_recs ht hk hc h0 hx
  have := one_cell ht hval h1
  subst this
  exact ⟨l, .r _ _ h0 h2, h3, h4⟩
theorem arg_ints {t e : TypeId} {d : Nat} {v : Value} {x : DataW H} {p : List MemPlace} (ht : P.underlying t = some (.slice e)) (hk : kinds P d e = some [.i .i64]) (hc : P.cellsOf e = 1)
    (hval : Value.okWide P w r b0 t v) (h : DataW.Trod enc P w base spare held t v x p) :
    ∃ l : List Int, ArgIs w v (.r (.ints .i64 l)) ∧ (∀ x ∈ l, inI x) ∧ (x = .nil ∧ l = [] ∨ ∃ el sp, x = .slice el sp ∧ el.length = l.length) := by
  obtain ⟨fuel, hx⟩ := h
  obtain ⟨v', l, h1, h2, h3, h4⟩ := open_intl ht hk hc hx
  have := one_cell ht hval h1
  subst this
  exact ⟨l, .r _ _ (Nat.succ_pos 0) h2, h3, h4⟩
theorem arg_agg {t : TypeId} {d : Nat} {ks : List K} {v : Value} {x : DataW H} {p : List MemPlace} (ht : aggT P t = some true) (hk : kinds P d t = some ks)
    (hval : Value.okWide P w r b0 t v) (h : DataW.Trod enc P w base spare held t v x p) : ∃ ds : List D, ArgIs w v (.s ds) ∧ fitsAll ks ds := by
  obtain ⟨fuel, hx⟩ := h
  obtain ⟨ds, h1, h2⟩ := trod_cells d t ks fuel _ _ hk hx
  have hv : ∃ cs, v = .agg cs := by
    unfold Value.okWide at hval
    cases hU : P.underlying t with
    | none => simp [aggT, hU] at ht
    | some u =>
      rw [hU] at hval
      cases u with
      | struct fs => obtain ⟨cs, h, _⟩ := hval; exact ⟨cs, h⟩
      | array n e => obtain ⟨cs, h, _⟩ := hval; exact ⟨cs, h⟩
      | _ => simp [aggT, hU] at ht
  obtain ⟨cs, rfl⟩ := hv
  have : cs = (ds.map D.val).toArray := by
    apply Array.ext'
    simpa [Value.cells] using h1
  subst this
  exact ⟨ds, .s ds, h2⟩
theorem arg_int {t : TypeId} {v : Value} {x : DataW H} {p : List MemPlace} (ht : P.underlying t = some (.int .i64)) (hval : Value.okWide P w r b0 t v) (h : DataW.Trod enc P w base spare held t v x p) :
    ∃ n : Int, ArgIs w v (.d (.i .i64 n)) ∧ inI n := by
  obtain ⟨n, rfl, _, _, hw⟩ := open_int ht hval h
  refine ⟨n, .d (.i .i64 n), ?_⟩
  unfold inI
  simpa [Lit.wf, IntKind.min, IntKind.max, IntKind.signed, IntKind.bits] using hw

/-- How long an argument is. -/
theorem len_of {α : Type} {ts : List TypeId} {ds : List (DataW H)} (h : (DataW.weightsEach P ts ds).all (· ≤ reachBytes) = true) {j : Nat} {t e : TypeId} {x : DataW H} {l : List α} (ht : ts[j]? = some t) (hd : ds[j]? = some x) (hu : P.underlying t = some (.slice e)) (hb : 0 < P.bytesOf e)
    (hx : x = .nil ∧ l = [] ∨ ∃ el sp, x = .slice el sp ∧ el.length = l.length) : l.length * P.bytesOf e ≤ 140737488355328 := by
  rcases hx with ⟨_, rfl⟩ | ⟨el, sp, rfl, he⟩
  · simp
  · have h1 := sized_slice h ht hd hu
    have h2 := reachBytes_lt
    have h3 : l.length * P.bytesOf e ≤ (el.length + sp.length) * P.bytesOf e := Nat.mul_le_mul_right _ (by omega)
    omega
end

end Go.Sx
