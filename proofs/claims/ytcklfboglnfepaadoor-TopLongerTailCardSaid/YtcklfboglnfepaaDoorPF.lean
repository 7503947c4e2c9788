/- Part 6 of the proof of TopLongerTailCard: the executor, the mirrors of the functions, the plain facts. -/
import Derived.Test.YtcklfboglnfepaaDoorPE
import Derived.Carry
import Derived.ChangeArms
import Derived.OpenShut
import Derived.ChangeShapes
import Derived.ChangeSame
import Derived.SizedLaws
import Derived.WideShapes
import Derived.LaidLaws
import Derived.LaidHandle
import Derived.LaidMore
import Derived.MakeChecks
import Derived.Handed
import Derived.Test.YtcklfboglnfepaaDoorRows
set_option linter.unusedSectionVars false
set_option linter.unusedSimpArgs false
set_option linter.unusedVariables false
section
namespace Go.Sx
set_option linter.unusedVariables false
open Go.RowKit Go.ChangeShapes Go.WideShapes
inductive K where
  | i (k : IntKind) | b | f (k : FloatKind) | s
def K.fits : K → D → Prop
  | .i k, .i k' n => k' = k ∧ (Lit.int k n).wf = true
  | .b, .b _ => True
  | .f k, .f k' n => k' = k ∧ (Lit.float k n).wf = true
  | .s, .s x => x.size ≤ maxLen
  | _, _ => False
def fitsAll : List K → List D → Prop
  | [], [] => True
  | k :: ks, d :: ds => k.fits d ∧ fitsAll ks ds
  | _, _ => False
theorem fitsAll_append : ∀ {ks : List K} {ds : List D} {ks' : List K} {ds' : List D}, fitsAll ks ds → fitsAll ks' ds' → fitsAll (ks ++ ks') (ds ++ ds')
  | [], [], _, _, _, h => h
  | _ :: _, _ :: _, _, _, h, h' => ⟨h.1, fitsAll_append h.2 h'⟩
  | [], _ :: _, _, _, h, _ => h.elim
  | _ :: _, [], _, _, h, _ => h.elim
theorem fitsAll_length : ∀ {ks : List K} {ds : List D}, fitsAll ks ds → ds.length = ks.length
  | [], [], _ => rfl
  | _ :: _, _ :: _, h => by simp [fitsAll_length h.2]
  | [], _ :: _, h => h.elim
  | _ :: _, [], h => h.elim
def kindsOf (g : TypeId → Option (List K)) (P : Program) : Nat → List Field → Option (List K)
  | _, [] => some []
  | n, f :: fs => match g f.type with
    | none => none
    | some ks => if f.offset = n ∧ P.cellsOf f.type = ks.length then (kindsOf g P (n + ks.length) fs).map (ks ++ ·) else none
def kinds (P : Program) : Nat → TypeId → Option (List K)
  | 0, _ => none
  | d + 1, t => match P.underlying t with
    | some .bool => some [.b]
    | some (.int k) => some [.i k]
    | some (.float k) => some [.f k]
    | some .string => some [.s]
    | some (.struct fs) => match kindsOf (kinds P d) P 0 fs.toList with
      | some ks => if P.cellsOf t = ks.length then some ks else none
      | none => none
    | some (.array n e) => match kinds P d e with
      | some ks => if P.cellsOf t = n * ks.length ∧ P.cellsOf e = ks.length then some (List.replicate n ks).flatten else none
      | none => none
    | _ => none
section
variable {H : Type} {enc : TypeId × Value → H} {P : Program} {w : World} {base : Nat} {spare : Nat → Bool} {held : Bool}
theorem array_cells {ks : List K} {e : TypeId} {m : Nat} (ih : ∀ cs x, DataW.trod enc P w base spare held m e cs = some x → ∃ ds : List D, cs = ds.map D.val ∧ fitsAll ks ds) :
    ∀ (n : Nat) (cs : List Value), cs.length = n * ks.length → (∀ i, i < n → ∃ x, DataW.trod enc P w base spare held m e ((cs.drop (i * ks.length)).take ks.length) = some x) → ∃ ds : List D, cs = ds.map D.val ∧ fitsAll (List.replicate n ks).flatten ds
  | 0, cs, hl, _ => ⟨[], by simpa using hl, trivial⟩
  | n + 1, cs, hl, h => by
    obtain ⟨x, hx⟩ := h 0 (by omega)
    obtain ⟨ds0, h0, h1⟩ := ih _ x hx
    obtain ⟨ds1, h2, h3⟩ := array_cells ih n (cs.drop ks.length) (by rw [List.length_drop, hl, Nat.add_mul]; omega) (fun i hi => by
      obtain ⟨y, hy⟩ := h (i + 1) (by omega)
      refine ⟨y, ?_⟩
      rw [List.drop_drop]
      rw [show ks.length + i * ks.length = (i + 1) * ks.length by rw [Nat.add_mul]; omega]
      exact hy)
    refine ⟨ds0 ++ ds1, ?_, fitsAll_append h1 h3⟩
    rw [List.map_append, ← h0, ← h2]
    simp
theorem struct_cells {g : TypeId → Option (List K)} {m : Nat} (ih : ∀ t ks cs x, g t = some ks → DataW.trod enc P w base spare held m t cs = some x → ∃ ds : List D, cs = ds.map D.val ∧ fitsAll ks ds) :
    ∀ (fs : List Field) (n : Nat) (ks : List K) (cs : List Value), kindsOf g P n fs = some ks → cs.length = n + ks.length → (∀ f ∈ fs, ∃ x, DataW.trod enc P w base spare held m f.type ((cs.drop f.offset).take (P.cellsOf f.type)) = some x) →
      ∃ ds : List D, cs.drop n = ds.map D.val ∧ fitsAll ks ds
  | [], n, ks, cs, hk, hl, _ => by
    simp only [kindsOf, Option.some.injEq] at hk
    subst hk
    refine ⟨[], ?_, trivial⟩
    simp at hl
    simp [hl]
  | f :: fs, n, ks, cs, hk, hl, h => by
    simp only [kindsOf] at hk
    split at hk
    · cases hk
    · rename_i kf hg
      split at hk
      · rename_i hc
        cases hr : kindsOf g P (n + kf.length) fs with
        | none => simp [hr] at hk
        | some kr =>
          simp only [hr, Option.map_some, Option.some.injEq] at hk
          subst hk
          obtain ⟨x, hx⟩ := h f List.mem_cons_self
          rw [hc.1, hc.2] at hx
          obtain ⟨ds0, h0, h1⟩ := ih f.type kf _ x hg hx
          obtain ⟨ds1, h2, h3⟩ := struct_cells ih fs (n + kf.length) kr cs hr (by rw [hl, List.length_append]; omega) (fun f' hf' => h f' (List.mem_cons_of_mem _ hf'))
          refine ⟨ds0 ++ ds1, ?_, fitsAll_append h1 h3⟩
          rw [List.map_append, ← h0, ← h2, ← List.drop_drop]
          exact (List.take_append_drop _ _).symm
      · cases hk
theorem trod_cells : ∀ (d : Nat) (t : TypeId) (ks : List K) (fuel : Nat) (cs : List Value) (x : DataW H × List MemPlace), kinds P d t = some ks → DataW.trod enc P w base spare held fuel t cs = some x →
    ∃ ds : List D, cs = ds.map D.val ∧ fitsAll ks ds
  | 0, _, _, _, _, _, h, _ => by cases h
  | d + 1, t, ks, fuel, cs, x, hk, hx => by
    unfold kinds at hk
    split at hk
    · rename_i ht
      cases hk
      obtain ⟨b, rfl, _⟩ := DataW.trod_bool ht hx
      exact ⟨[.b b], rfl, trivial, trivial⟩
    · rename_i k ht
      cases hk
      obtain ⟨n, rfl, _, hw⟩ := DataW.trod_int ht hx
      exact ⟨[.i k n], rfl, ⟨rfl, hw⟩, trivial⟩
    · rename_i k ht
      cases hk
      cases fuel with
      | zero => simp [DataW.trod] at hx
      | succ n =>
        rcases cs with _ | ⟨v, _ | ⟨v', r⟩⟩
        · simp [DataW.trod, ht] at hx
        · cases v with
          | float k2 n2 =>
            simp only [DataW.trod, ht] at hx
            split at hx
            · rename_i hh
              exact ⟨[.f k2 n2], rfl, ⟨hh.1, hh.2⟩, trivial⟩
            · cases hx
          | _ => simp [DataW.trod, ht] at hx
        · simp [DataW.trod, ht] at hx
    · rename_i ht
      cases hk
      obtain ⟨z, rfl, _, hw⟩ := DataW.trod_string ht hx
      exact ⟨[.s z], rfl, hw, trivial⟩
    · rename_i fs ht
      split at hk
      · rename_i ks' hks
        split at hk
        · rename_i hc
          cases hk
          obtain ⟨xs, n, rfl, _, hl, hxl, hf⟩ := DataW.trod_struct ht hx
          have := struct_cells (enc := enc) (w := w) (base := base) (spare := spare) (held := held) (g := kinds P d) (m := n) (fun t ks cs x h1 h2 => trod_cells d t ks n cs x h1 h2) fs.toList 0 ks cs hks (by rw [hl, hc]; omega) (fun f hfm => by
            obtain ⟨i, hi, hfi⟩ := List.mem_iff_getElem.1 hfm
            have hi' : i < fs.size := by simpa using hi
            have h1 := hf i f (by rw [Array.getElem?_eq_getElem hi']; simpa using hfi)
            exact ⟨xs[i]'(by omega), by rw [h1, List.getElem?_eq_getElem]⟩)
          simpa using this
        · cases hk
      · cases hk
    · rename_i n e ht
      split at hk
      · rename_i ks' hks
        split at hk
        · rename_i hc
          cases hk
          obtain ⟨xs, m, rfl, _, hl, hxl, hf⟩ := DataW.trod_array ht hx
          exact array_cells (fun cs x h => trod_cells d e ks' m cs x hks h) n cs (by rw [hl, hc.1]) (fun i hi => by
            have h1 := hf i hi
            rw [hc.2] at h1
            exact ⟨xs[i]'(by omega), by rw [h1, List.getElem?_eq_getElem]⟩)
        · cases hk
      · cases hk
    · cases hk
theorem trod_rows {t e : TypeId} {ks : List K} {d fuel : Nat} {cs : List Value} {x : DataW H × List MemPlace} (ht : P.underlying t = some (.slice e)) (hk : kinds P d e = some ks) (hc : P.cellsOf e = ks.length) (h0 : 0 < ks.length)
    (hx : DataW.trod enc P w base spare held fuel t cs = some x) :
    ∃ (v : Value) (rows : List (List D)), cs = [v] ∧ (∀ r ∈ rows, fitsAll ks r) ∧ IsRow w v (.lits ks.length rows) ∧ (x.1 = .nil ∧ rows = [] ∨ ∃ el sp, x.1 = .slice el sp ∧ el.length = rows.length) := by
  rcases DataW.trod_slice ht hx with ⟨rfl, rfl⟩ | ⟨a, len, cap, elems, rest, n, rfl, rfl, rfl, hb, hl, hm, hel, hi, _, _⟩
  · exact ⟨_, [], rfl, (fun _ h => by cases h), ⟨none, 0, rfl, ⟨by simp [Cont.n], fun _ => rfl⟩, fun h => absurd h (by simp [Cont.n])⟩, .inl ⟨rfl, rfl⟩⟩
  · -- each element's cells
    have hget : ∀ i, i < len → ∃ ds : List D, fitsAll ks ds ∧ ∀ j, j < ks.length → w.cell? ((a.add (i * ks.length)).add j) = (ds[j]?).map D.val := fun i hil => by
      have h1 := hi i hil
      rw [hc] at h1
      have h2 : elems[i]? = some (elems[i]'(by omega)) := List.getElem?_eq_getElem (by omega)
      rw [h2] at h1
      obtain ⟨cs', hcs, htr⟩ := Option.bind_eq_some_iff.1 h1
      obtain ⟨ds, hds, hfit⟩ := trod_cells d e ks n cs' _ hk htr
      obtain ⟨_, hcl, hat⟩ := World.cells?_some hcs
      refine ⟨ds, hfit, fun j hj => ?_⟩
      rw [hat j hj, hds, List.getElem?_map]
    let R : Nat → List D := fun i => if h : i < len then Classical.choose (hget i h) else []
    have hR : ∀ i (h : i < len), fitsAll ks (R i) ∧ ∀ j, j < ks.length → w.cell? ((a.add (i * ks.length)).add j) = ((R i)[j]?).map D.val := fun i h => by
      show fitsAll ks (if h : i < len then _ else _) ∧ _
      simp only [R, dif_pos h]
      exact Classical.choose_spec (hget i h)
    refine ⟨_, (List.range len).map R, rfl, fun r hr => ?_, ?_, .inr ⟨_, _, rfl, by simp [hel]⟩⟩
    · obtain ⟨i, hi', rfl⟩ := List.mem_map.1 hr
      exact (hR i (by simpa using hi')).1
    · refine ⟨some a, cap, by simp [Cont.n], ⟨by simpa [Cont.n] using hl, fun h => by cases h⟩, fun hn => ?_⟩
      have hn : 0 < len := by simpa [Cont.n] using hn
      have hsp : a.spot = none := by
        have h1 := (hR 0 hn).2 0 h0
        have hfl := fitsAll_length (hR 0 hn).1
        rw [List.getElem?_eq_getElem (by omega)] at h1
        simp [Addr.add] at h1
        cases hs : a.spot with
        | none => rfl
        | some s =>
          exfalso
          unfold World.cell? at h1
          simp only [hs] at h1
          split at h1
          · simp at h1
          · cases h1
      obtain ⟨b, off, sp⟩ := a
      simp only at hsp
      subst hsp
      refine ⟨b, off, rfl, fun j y hj => ?_⟩
      have hne : 0 < ks.length := h0
      have hjl : j < (Cont.lits ks.length ((List.range len).map R)).flat.length := (List.getElem?_eq_some_iff.1 hj).1
      rw [Cont.flat_length] at hjl
      simp only [Cont.n, Cont.e, List.length_map, List.length_range] at hjl
      have hq : j / ks.length < len := Nat.div_lt_of_lt_mul (by rw [Nat.mul_comm]; exact hjl)
      have hr : j % ks.length < ks.length := Nat.mod_lt _ hne
      have hg := Cont.flat_get (.lits ks.length ((List.range len).map R)) (i := j / ks.length) (j := j % ks.length) (by simpa [Cont.n] using hq) hr
      have ej : j / ks.length * ks.length + j % ks.length = j := by rw [Nat.mul_comm]; exact Nat.div_add_mod j _
      simp only [Cont.e] at hg
      rw [ej, hj] at hg
      have hcell := (hR (j / ks.length) hq).2 (j % ks.length) hr
      have hfl := fitsAll_length (hR (j / ks.length) hq).1
      rw [add_at, add_at, Nat.add_assoc, ej, List.getElem?_eq_getElem (by omega)] at hcell
      rw [hcell]
      simp only [Option.some.injEq] at hg
      simp [hg, Cont.cell, List.getD, hq, List.getElem?_eq_getElem (show j % ks.length < (R (j / ks.length)).length by omega)]
theorem isRow_of {v : Value} {c c' : Cont} (h : IsRow w v c) (hn : c'.n = c.n) (hf : c'.flat = c.flat) : IsRow w v c' := by
  obtain ⟨a, cap, hv, hc, hcell⟩ := h
  exact ⟨a, cap, by rw [hn]; exact hv, by rw [hn]; exact hc, fun h => by
    obtain ⟨b, off, e, hx⟩ := hcell (by rw [← hn]; exact h)
    exact ⟨b, off, e, by rw [hf]; exact hx⟩⟩
end
inductive ArgIs (w : World) : Value → A → Prop where
  | d (x : D) : ArgIs w x.val (.d x)
  | s (l : List D) : ArgIs w (.agg (l.map D.val).toArray) (.s l)
  | r (v : Value) (c : Cont) (he : 0 < c.e) (h : IsRow w v c) : ArgIs w v (.r c)
section
variable [Globs] {P : Program} {w : World}
end
section
variable {H : Type} {enc : TypeId × Value → H} {P : Program}
theorem trod_all {sp : Nat → Bool} (hl : laidOutB P = true) {W W' : World} (hb : Below W.heap.size W W') : ∀ (ts : List TypeId) (vs : List Value) (ds : List (DataW H)) (ps : List MemPlace), (∀ t ∈ ts, P.readableRec t = true ∧ t < P.types.size) →
    DataW.TrodAll enc P W 0 (fun _ => true) true ts vs ds ps → (∀ p ∈ ps, p.block < W.heap.size) → (∀ p ∈ ps, sp p.block = true) → DataW.TrodAll enc P W' 0 sp true ts vs ds ps
  | [], [], [], _, _, h, _, _ => h
  | t :: ts, v :: vs, d :: ds, ps, ht, h, hlt, hs => by
    obtain ⟨p, q, h1, h2, rfl⟩ := h
    have htt := ht t List.mem_cons_self
    exact ⟨p, q, WideElems.Trod_stays hl htt.1 htt.2 h1 (fun x hx => hb.same (hlt x (List.mem_append_left _ hx))) (fun x hx => hs x (List.mem_append_left _ hx)),
      trod_all hl hb ts vs ds q (fun t ht' => ht t (List.mem_cons_of_mem _ ht')) h2 (fun x hx => hlt x (List.mem_append_right _ hx)) (fun x hx => hs x (List.mem_append_right _ hx)), rfl⟩
  | [], _ :: _, _, _, _, h, _, _ => h.elim
  | _ :: _, [], _, _, _, h, _, _ => h.elim
  | [], [], _ :: _, _, _, h, _, _ => h.elim
  | _ :: _, _ :: _, [], _, _, h, _, _ => h.elim
theorem law_post {f : Func} {s : ChangeSpec} {apart fresh handsOn again : Bool} {W W' : World} {args : Array Value} {ds gs : List (DataW H)} {before : List MemPlace} {tb : TypeId} (hvars : s.vars = []) (hrt : f.resultTypes = #[tb]) (htb : P.underlying tb = some .bool)
    (hres : (s.fn H (ds ++ gs)).results = [.lit (.bool true)]) (hargs : (s.fn H (ds ++ gs)).args = ds) (hsv : (s.fn H (ds ++ gs)).vars = []) (hl : laidOutB P = true) (hread : ∀ t ∈ f.params.toList, P.readableRec t = true ∧ t < P.types.size)
    (hW : DataW.Whole enc P f.params.toList s.vars apart W args.toList ds gs before) (hb : Below W.heap.size W W') : s.post enc P f apart fresh handsOn again W args (.bool true) W' := by
  have hlt : ∀ p ∈ before, p.block < W.heap.size := fun p hp => hW.lt p hp
  have hW' := hW
  obtain ⟨p, q, h1, h2, rfl, hfz, hnd⟩ := hW'
  rw [hvars] at h2
  have hq : q = [] := by
    cases gs with
    | nil => exact h2
    | cons _ _ => exact h2.elim
  subst hq
  rw [List.append_nil] at hlt hfz hnd
  have hA : ∀ sp : Nat → Bool, (∀ x ∈ p, sp x.block = true) → DataW.TrodAll enc P W' 0 sp true f.params.toList args.toList ds p := fun sp hs => trod_all hl hb _ _ _ _ hread h1 hlt hs
  have hR : ∀ (b : Nat) (sp : Nat → Bool) (hd : Bool), DataW.TrodAll enc P W' b sp hd [tb] [.bool true] [.lit (.bool true)] [] := fun b sp hd => ⟨[], [], ⟨1, by simp [DataW.trod, htb, Value.cells]⟩, rfl, rfl⟩
  have hrl : (Value.bool true).resultList f.resultTypes.size = [.bool true] := by rw [hrt]; rfl
  have hrt' : f.resultTypes.toList = [tb] := by rw [hrt]
  refine ⟨ds, gs, p ++ [], [], p, [], hW, ?_, ?_, ?_, World.keptBut_mono (fun x hx => ⟨hx, .inr (.inl (by simpa using hx))⟩) (hb.frame (· ∈ p ++ [])), fun _ => ⟨fun j t r hj hr => ?_, ?_⟩⟩
  · rw [hrl, hrt', hres]; exact hR _ _ _
  · rw [hargs]; exact hA _ (fun x hx => by simpa using hlt x hx)
  · rw [hvars, hsv]; rfl
  · rw [hrt] at hj
    rw [hrl] at hr
    cases j with
    | zero =>
      simp at hj hr
      subst hj; subst hr
      exact okWide_bool_mk htb _
    | succ j => simp at hj
  · refine ⟨[.lit (.bool true)] ++ ds, [], p, ⟨p, [], ?_, by rw [hvars]; rfl, by simp, ?_, ?_⟩, fun x hx _ => by simpa using hx⟩
    · rw [hrl, hrt']
      exact ⟨[], p, ⟨1, by simp [DataW.trod, htb, Value.cells]⟩, hA _ (fun _ _ => rfl), rfl⟩
    · intro b off hp
      rw [hb.frozen (hlt _ hp)]
      exact hfz b off hp
    · exact hnd
end
section
variable {H : Type} {enc : TypeId × Value → H} {P : Program} {w : World} {base : Nat} {spare : Nat → Bool} {held : Bool} {r : Reach} {b0 : Nat}
theorem arg_int {t : TypeId} {v : Value} {x : DataW H} {p : List MemPlace} (ht : P.underlying t = some (.int .i64)) (hval : Value.okWide P w r b0 t v) (h : DataW.Trod enc P w base spare held t v x p) :
    ∃ n : Int, ArgIs w v (.d (.i .i64 n)) ∧ inI n := by
  obtain ⟨n, rfl, _, _, hw⟩ := open_int ht hval h
  refine ⟨n, .d (.i .i64 n), ?_⟩
  unfold inI
  simpa [Lit.wf, IntKind.min, IntKind.max, IntKind.signed, IntKind.bits] using hw
end
end Go.Sx
end

section
namespace Go.Sx
set_option linter.unusedVariables false
open Go.RowKit Go.ChangeShapes Go.WideShapes
inductive K2 where
  | d (k : K)
  | s (ks : List K)
inductive T1 where
  | d (x : D)
  | r (c : Cont)
inductive Cell2 (w : World) : K2 → Value → T1 → Prop where
  | d (k : K) (x : D) (h : k.fits x) : Cell2 w (.d k) x.val (.d x)
  | s (ks : List K) (v : Value) (rows : List (List D)) (h0 : 0 < ks.length) (h : ∀ r ∈ rows, fitsAll ks r) (hr : IsRow w v (.lits ks.length rows)) : Cell2 w (.s ks) v (.r (.lits ks.length rows))
inductive Cells2 (w : World) : List K2 → List Value → List T1 → Prop where
  | nil : Cells2 w [] [] []
  | cons {k : K2} {v : Value} {t : T1} {ks : List K2} {vs : List Value} {ts : List T1} (h : Cell2 w k v t) (r : Cells2 w ks vs ts) : Cells2 w (k :: ks) (v :: vs) (t :: ts)
theorem Cells2.append {w : World} {ks ks' : List K2} {vs vs' : List Value} {ts ts' : List T1} (h : Cells2 w ks vs ts) (h' : Cells2 w ks' vs' ts') : Cells2 w (ks ++ ks') (vs ++ vs') (ts ++ ts') := by
  induction h with
  | nil => exact h'
  | cons h r ih => exact .cons h ih
def kinds2Of (g : TypeId → Option (List K2)) (P : Program) : Nat → List Field → Option (List K2)
  | _, [] => some []
  | n, f :: fs => match g f.type with
    | none => none
    | some ks => if f.offset = n ∧ P.cellsOf f.type = ks.length then (kinds2Of g P (n + ks.length) fs).map (ks ++ ·) else none
def kinds2 (P : Program) : Nat → TypeId → Option (List K2)
  | 0, _ => none
  | d + 1, t => match kinds P d t with
    | some ks => some (ks.map .d)
    | none => match P.underlying t with
      | some (.slice e) => match kinds P d e with
        | some (k :: ks) => if P.cellsOf e = ks.length + 1 then some [.s (k :: ks)] else none
        | _ => none
      | some (.struct fs) => match kinds2Of (kinds2 P d) P 0 fs.toList with
        | some ks => if P.cellsOf t = ks.length then some ks else none
        | none => none
      | _ => none
section
variable {H : Type} {enc : TypeId × Value → H} {P : Program} {w : World} {base : Nat} {spare : Nat → Bool} {held : Bool}
theorem cells2_d {ks : List K} {ds : List D} (h : fitsAll ks ds) : Cells2 w (ks.map .d) (ds.map D.val) (ds.map .d) := by
  induction ks generalizing ds with
  | nil => cases ds with
    | nil => exact .nil
    | cons _ _ => exact h.elim
  | cons k ks ih => cases ds with
    | nil => exact h.elim
    | cons d ds => exact .cons (.d k d h.1) (ih h.2)
theorem struct_cells2 {g : TypeId → Option (List K2)} {m : Nat} (ih : ∀ t ks cs x, g t = some ks → DataW.trod enc P w base spare held m t cs = some x → ∃ ts, Cells2 w ks cs ts) :
    ∀ (fs : List Field) (n : Nat) (ks : List K2) (cs : List Value), kinds2Of g P n fs = some ks → cs.length = n + ks.length → (∀ f ∈ fs, ∃ x, DataW.trod enc P w base spare held m f.type ((cs.drop f.offset).take (P.cellsOf f.type)) = some x) →
      ∃ ts, Cells2 w ks (cs.drop n) ts
  | [], n, ks, cs, hk, hl, _ => by
    simp only [kinds2Of, Option.some.injEq] at hk
    subst hk
    refine ⟨[], ?_⟩
    simp at hl
    rw [List.drop_eq_nil_of_le (by omega)]
    exact .nil
  | f :: fs, n, ks, cs, hk, hl, h => by
    simp only [kinds2Of] at hk
    split at hk
    · cases hk
    · rename_i kf hg
      split at hk
      · rename_i hc
        cases hr : kinds2Of g P (n + kf.length) fs with
        | none => simp [hr] at hk
        | some kr =>
          simp only [hr, Option.map_some, Option.some.injEq] at hk
          subst hk
          obtain ⟨x, hx⟩ := h f List.mem_cons_self
          rw [hc.1, hc.2] at hx
          obtain ⟨ts0, h0⟩ := ih f.type kf _ x hg hx
          obtain ⟨ts1, h1⟩ := struct_cells2 ih fs (n + kf.length) kr cs hr (by rw [hl, List.length_append]; omega) (fun f' hf' => h f' (List.mem_cons_of_mem _ hf'))
          refine ⟨ts0 ++ ts1, ?_⟩
          have e : cs.drop n = (cs.drop n).take kf.length ++ cs.drop (n + kf.length) := by rw [← List.drop_drop]; exact (List.take_append_drop _ _).symm
          rw [e]
          exact h0.append h1
      · cases hk
theorem trod_cells2 : ∀ (d : Nat) (t : TypeId) (ks : List K2) (fuel : Nat) (cs : List Value) (x : DataW H × List MemPlace), kinds2 P d t = some ks → DataW.trod enc P w base spare held fuel t cs = some x → ∃ ts, Cells2 w ks cs ts
  | 0, _, _, _, _, _, h, _ => by cases h
  | d + 1, t, ks, fuel, cs, x, hk, hx => by
    unfold kinds2 at hk
    split at hk
    · rename_i ks' hks
      cases hk
      obtain ⟨ds, rfl, h2⟩ := trod_cells d t ks' fuel cs x hks hx
      exact ⟨_, cells2_d h2⟩
    · split at hk
      · rename_i e ht
        split at hk
        · rename_i k ks' hks
          split at hk
          · rename_i hc
            cases hk
            obtain ⟨v, rows, rfl, h2, h3, _⟩ := trod_rows ht hks (by simpa using hc) (by simp) hx
            exact ⟨_, .cons (.s _ v rows (by simp) h2 h3) .nil⟩
          · cases hk
        · cases hk
      · rename_i fs ht
        split at hk
        · rename_i ks' hks
          split at hk
          · rename_i hc
            cases hk
            obtain ⟨xs, n, rfl, _, hl, hxl, hf⟩ := DataW.trod_struct ht hx
            have := struct_cells2 (enc := enc) (w := w) (base := base) (spare := spare) (held := held) (g := kinds2 P d) (m := n) (fun t ks cs x h1 h2 => trod_cells2 d t ks n cs x h1 h2) fs.toList 0 ks cs hks (by rw [hl, hc]; omega) (fun f hfm => by
              obtain ⟨i, hi, hfi⟩ := List.mem_iff_getElem.1 hfm
              have hi' : i < fs.size := by simpa using hi
              have h1 := hf i f (by rw [Array.getElem?_eq_getElem hi']; simpa using hfi)
              exact ⟨xs[i]'(by omega), by rw [h1, List.getElem?_eq_getElem]⟩)
            simpa using this
          · cases hk
        · cases hk
      · cases hk
end
inductive T1Is (w : World) : Value → T1 → Prop where
  | d (x : D) : T1Is w x.val (.d x)
  | r (v : Value) (c : Cont) (he : 0 < c.e) (h : IsRow w v c) : T1Is w v (.r c)
theorem cell_int {w : World} {v : Value} {t : T1} (h : Cell2 w (.d (.i .i64)) v t) : ∃ n : Int, T1Is w v (.d (.i .i64 n)) ∧ inI n := by
  cases h with
  | d k x h =>
    cases x with
    | i k n =>
      obtain ⟨rfl, hw⟩ := h
      exact ⟨n, .d _, by unfold inI; simpa [Lit.wf, IntKind.min, IntKind.max, IntKind.signed, IntKind.bits] using hw⟩
    | _ => exact h.elim
theorem flts_of {k : FloatKind} {r : List D} (h : fitsAll [.f k] r) : ∃ n : Nat, r = [.f k n] ∧ (Lit.float k n).wf = true := by
  match r, h with
  | [.f k' n], h => obtain ⟨⟨rfl, hw⟩, _⟩ := h; exact ⟨n, rfl, hw⟩
theorem cell_flts {w : World} {k : FloatKind} {v : Value} {t : T1} (h : Cell2 w (.s [.f k]) v t) : ∃ l : List Nat, T1Is w v (.r (.floats k l)) ∧ ∀ x ∈ l, (Lit.float k x).wf = true := by
  cases h with
  | s ks v rows h0 h2 h3 =>
    have key : ∀ rows : List (List D), (∀ r ∈ rows, fitsAll [.f k] r) → ∃ l : List Nat, rows = l.map (fun n => [D.f k n]) ∧ ∀ x ∈ l, (Lit.float k x).wf = true := fun rows => by
      induction rows with
      | nil => exact fun _ => ⟨[], rfl, fun _ h => by cases h⟩
      | cons r rows ih =>
        intro h
        obtain ⟨l, e1, e2⟩ := ih fun r hr => h r (List.mem_cons_of_mem _ hr)
        obtain ⟨n, e3, e4⟩ := flts_of (h r List.mem_cons_self)
        refine ⟨n :: l, by rw [e1, e3]; rfl, fun x hx => ?_⟩
        rcases List.mem_cons.1 hx with rfl | hx
        · exact e4
        · exact e2 x hx
    obtain ⟨l, rfl, e2⟩ := key rows h2
    refine ⟨l, .r v _ (Nat.succ_pos 0) (isRow_of h3 (by simp [Cont.n]) ?_), e2⟩
    simp only [Cont.flat]
    clear h3 e2 h2
    induction l with
    | nil => rfl
    | cons n l ih =>
      rw [List.map_cons, List.flatMap_cons, List.flatMap_cons, ih]
      rfl
theorem t1_d {w : World} {v : Value} {x : D} (h : ArgIs w v (.d x)) : T1Is w v (.d x) := by
  cases h with
  | d x => exact .d x
theorem arg_cells2 {H : Type} {enc : TypeId × Value → H} {P : Program} {w : World} {base : Nat} {spare : Nat → Bool} {held : Bool} {r : Reach} {b0 : Nat} {t : TypeId} {d : Nat} {ks : List K2} {v : Value} {x : DataW H} {p : List MemPlace} (ht : aggT P t = some true) (hk : kinds2 P d t = some ks)
    (hval : Value.okWide P w r b0 t v) (h : DataW.Trod enc P w base spare held t v x p) : ∃ vs ts, v = .agg (List.toArray vs) ∧ Cells2 w ks vs ts := by
  obtain ⟨fuel, hx⟩ := h
  obtain ⟨ts, h1⟩ := trod_cells2 d t ks fuel _ _ hk hx
  have hv : ∃ cs, v = .agg cs := by
    unfold Value.okWide at hval
    cases hU : P.underlying t with
    | none => simp [aggT, hU] at ht
    | some u =>
      rw [hU] at hval
      cases u with
      | struct fs => obtain ⟨cs, h, _⟩ := hval; exact ⟨cs, h⟩
      | array n e => obtain ⟨cs, h, _⟩ := hval; exact ⟨cs, h⟩
      | _ => simp [aggT, hU] at ht
  obtain ⟨cs, rfl⟩ := hv
  exact ⟨cs.toList, ts, by simp, h1⟩
section
variable [Globs]
inductive T2 where
  | c (t : T1)
  | a (l : List T1)
inductive T1sAre (w : World) : List Value → List T1 → Prop where
  | nil : T1sAre w [] []
  | cons {v : Value} {t : T1} {vs : List Value} {ts : List T1} (h : T1Is w v t) (r : T1sAre w vs ts) : T1sAre w (v :: vs) (t :: ts)
inductive T2Is (w : World) : Value → T2 → Prop where
  | c {v : Value} {t : T1} (h : T1Is w v t) : T2Is w v (.c t)
  | a {vs : List Value} {ts : List T1} (h : T1sAre w vs ts) : T2Is w (.agg vs.toArray) (.a ts)
inductive T2sAre (w : World) : List Value → List T2 → Prop where
  | nil : T2sAre w [] []
  | cons {v : Value} {t : T2} {vs : List Value} {ts : List T2} (h : T2Is w v t) (r : T2sAre w vs ts) : T2sAre w (v :: vs) (t :: ts)
structure TB where
  cs : List C
  hp : Hp
  n : Nat
def T1.bld (n : Nat) : T1 → TB
  | .d x => ⟨[.d x], [], n⟩
  | .r c => ⟨[.o n], [(n, .ext c)], n + 1⟩
def bldT1 : Nat → List T1 → TB
  | n, [] => ⟨[], [], n⟩
  | n, t :: l => let a := t.bld n; let b := bldT1 a.n l; ⟨a.cs ++ b.cs, b.hp ++ a.hp, b.n⟩
structure TV where
  vs : List V
  hp : Hp
  n : Nat
def T2.bld (n : Nat) : T2 → TV
  | .c t => let a := t.bld n; ⟨[.w (.c (headC a.cs))], a.hp, a.n⟩
  | .a l => let a := bldT1 n l; ⟨[.w (.a a.cs)], a.hp, a.n⟩
def bldT2 : Nat → List T2 → TV
  | n, [] => ⟨[], [], n⟩
  | n, t :: l => let a := t.bld n; let b := bldT2 a.n l; ⟨a.vs ++ b.vs, b.hp ++ a.hp, b.n⟩
structure TOK (w : World) (n : Nat) (ρ ρ' : Env) (vals : List Value) (cs : List C) (hp : Hp) (n' : Nat) : Prop where
  agree : Agree n ρ ρ'
  le : n ≤ n'
  val : cs.map (C.val ρ') = vals
  lt : ∀ c ∈ cs, C.lt n' c
  heap : ∀ k o, find hp k = some o → n ≤ k ∧ k < n' ∧ ∃ c, o = .ext c ∧ IsRow w (ρ' k) c ∧ 0 < c.e
theorem T1.bld_ok {w : World} {v : Value} {t : T1} (h : T1Is w v t) (n : Nat) (ρ : Env) : ∃ ρ', TOK w n ρ ρ' [v] (t.bld n).cs (t.bld n).hp (t.bld n).n := by
  cases h with
  | d x => exact ⟨ρ, Agree.refl _ _, Nat.le_refl _, rfl, (fun c hc => by simp only [T1.bld, List.mem_singleton] at hc; subst hc; trivial), fun _ _ h => by cases h⟩
  | r v c he h =>
    refine ⟨upd ρ n v, upd_agree _ _ _, Nat.le_succ _, by simp [T1.bld, C.val], (fun c hc => by simp only [T1.bld, List.mem_singleton] at hc; subst hc; exact Nat.lt_succ_self n), fun k o hf => ?_⟩
    simp only [T1.bld, find] at hf
    split at hf
    · rename_i e
      subst e
      cases hf
      exact ⟨Nat.le_refl _, Nat.lt_succ_self _, c, rfl, by rw [upd_same]; exact h, he⟩
    · cases hf
theorem TOK.append {w : World} {n n1 n2 : Nat} {ρ ρ1 ρ2 : Env} {a b : List Value} {ca cb : List C} {ha hb : Hp} (h1 : TOK w n ρ ρ1 a ca ha n1) (h2 : TOK w n1 ρ1 ρ2 b cb hb n2) : TOK w n ρ ρ2 (a ++ b) (ca ++ cb) (hb ++ ha) n2 := by
  refine ⟨h1.agree.trans h2.agree h1.le, Nat.le_trans h1.le h2.le, ?_, ?_, ?_⟩
  · rw [List.map_append, h2.val, ← h1.val]
    congr 1
    exact List.map_congr_left fun c hc => C.val_agree h2.agree (h1.lt c hc)
  · intro c hc
    rcases List.mem_append.1 hc with hc | hc
    · exact C.lt_mono h2.le (h1.lt c hc)
    · exact h2.lt c hc
  · intro k o hf
    rw [find_append] at hf
    cases hg : find hb k with
    | some o2 =>
      rw [hg] at hf
      cases hf
      obtain ⟨q1, q2, q3⟩ := h2.heap k o hg
      exact ⟨Nat.le_trans h1.le q1, q2, q3⟩
    | none =>
      rw [hg] at hf
      obtain ⟨q1, q2, c, q3, q4, q5⟩ := h1.heap k o hf
      exact ⟨q1, Nat.lt_of_lt_of_le q2 h2.le, c, q3, by rw [h2.agree k q2]; exact q4, q5⟩
theorem bldT1_ok {w : World} {vs : List Value} {ts : List T1} (h : T1sAre w vs ts) : ∀ (n : Nat) (ρ : Env), ∃ ρ', TOK w n ρ ρ' vs (bldT1 n ts).cs (bldT1 n ts).hp (bldT1 n ts).n := by
  induction h with
  | nil => exact fun n ρ => ⟨ρ, Agree.refl _ _, Nat.le_refl _, rfl, (fun _ h => by cases h), fun _ _ h => by cases h⟩
  | cons h r ih =>
    intro n ρ
    obtain ⟨ρ1, k1⟩ := T1.bld_ok h n ρ
    obtain ⟨ρ2, k2⟩ := ih _ ρ1
    exact ⟨ρ2, k1.append k2⟩
structure TVOK (w : World) (n : Nat) (ρ ρ' : Env) (vals : List Value) (vs : List V) (hp : Hp) (n' : Nat) : Prop where
  agree : Agree n ρ ρ'
  le : n ≤ n'
  val : vs.map (V.val ρ') = vals
  lt : ∀ c ∈ vs, V.lt n' c
  heap : ∀ k o, find hp k = some o → n ≤ k ∧ k < n' ∧ ∃ c, o = .ext c ∧ IsRow w (ρ' k) c ∧ 0 < c.e
theorem T2.bld_ok {w : World} {v : Value} {t : T2} (h : T2Is w v t) (n : Nat) (ρ : Env) : ∃ ρ', TVOK w n ρ ρ' [v] (t.bld n).vs (t.bld n).hp (t.bld n).n := by
  cases h with
  | @c v t h =>
    obtain ⟨ρ', k⟩ := T1.bld_ok h n ρ
    have hone : ∃ c, (t.bld n).cs = [c] := by cases t <;> exact ⟨_, rfl⟩
    obtain ⟨c, hc⟩ := hone
    have hval := k.val
    have hlt := k.lt
    rw [hc] at hval hlt
    refine ⟨ρ', k.agree, k.le, ?_, ?_, k.heap⟩
    · simp only [T2.bld, hc, headC, List.map_cons, List.map_nil, V.val, W.val]
      simpa using hval
    · intro y hy
      simp only [T2.bld, hc, headC, List.mem_singleton] at hy
      subst hy
      exact hlt c List.mem_cons_self
  | @a vs ts h =>
    obtain ⟨ρ', k⟩ := bldT1_ok h n ρ
    refine ⟨ρ', k.agree, k.le, ?_, ?_, k.heap⟩
    · simp only [T2.bld, List.map_cons, List.map_nil, V.val, W.val, k.val]
    · intro y hy
      simp only [T2.bld, List.mem_singleton] at hy
      subst hy
      exact k.lt
theorem bldT2_ok {w : World} {vs : List Value} {ts : List T2} (h : T2sAre w vs ts) : ∀ (n : Nat) (ρ : Env), ∃ ρ', TVOK w n ρ ρ' vs (bldT2 n ts).vs (bldT2 n ts).hp (bldT2 n ts).n := by
  induction h with
  | nil => exact fun n ρ => ⟨ρ, Agree.refl _ _, Nat.le_refl _, rfl, (fun _ h => by cases h), fun _ _ h => by cases h⟩
  | @cons v t vs ts h r ih =>
    intro n ρ
    obtain ⟨ρ1, k1⟩ := T2.bld_ok h n ρ
    obtain ⟨ρ2, k2⟩ := ih (t.bld n).n ρ1
    refine ⟨ρ2, k1.agree.trans k2.agree k1.le, Nat.le_trans k1.le k2.le, ?_, ?_, ?_⟩
    · simp only [bldT2, List.map_append, k2.val]
      have : (t.bld n).vs.map (V.val ρ2) = [v] := by
        rw [← k1.val]
        exact List.map_congr_left fun c hc => V.val_agree k2.agree (k1.lt c hc)
      rw [this]
      rfl
    · intro c hc
      rcases List.mem_append.1 hc with hc | hc
      · exact V.lt_mono k2.le (k1.lt c hc)
      · exact k2.lt c hc
    · intro k o hf
      have hf : find ((bldT2 (t.bld n).n ts).hp ++ (t.bld n).hp) k = some o := hf
      rw [find_append] at hf
      cases hg : find (bldT2 (t.bld n).n ts).hp k with
      | some o2 =>
        rw [hg] at hf
        cases hf
        obtain ⟨q1, q2, q3⟩ := k2.heap k o hg
        exact ⟨Nat.le_trans k1.le q1, q2, q3⟩
      | none =>
        rw [hg] at hf
        obtain ⟨q1, q2, c, q3, q4, q5⟩ := k1.heap k o hf
        exact ⟨q1, Nat.lt_of_lt_of_le q2 k2.le, c, q3, by rw [k2.agree k q2]; exact q4, q5⟩
theorem law_callsT {P : Program} {w : World} {f : Nat} {shs : List SV} {g : List Lf → Option GT} {vs : List Value} {ts : List T2} {ls : List Lf} {am : List C} {ob : Prop} {b : Bool} {fn : Func} (hok : SpecOK P f true (pureT shs g)) (hargs : T2sAre w vs ts)
    (hto : toVs (bldT2 0 ts).hp shs (bldT2 0 ts).vs = some (ls, am)) (hg : g ls = some (.leaf ob [.c (.d (.b b))])) (ho : ob) (hb : b = true)
    (hfn : P.funcs[f]? = some fn) (hbody : fn.body = some (fn.body.getD .skip)) (hn : (fn.name == "runtime.NumGoroutine") = false) (hgl : GlobOK (fun k => k < w.heap.size) w) :
    Calls P f vs.toArray w fun e w' => e = .returned (.bool true) ∧ Below w.heap.size w w' := by
  subst hb
  obtain ⟨ρ, k⟩ := bldT2_ok hargs 0 (fun _ => undef)
  have hh : HRel ρ (fun k => k < w.heap.size) (bldT2 0 ts).hp (bldT2 0 ts).n w := by
    refine ⟨fun x o hf => ?_, fun x o x' o' q hf hf' _ hb => ?_, hgl⟩
    · obtain ⟨_, q2, c, rfl, q4, q5⟩ := k.heap x o hf
      exact ⟨q2, trivial, q4, IsRow.lt q4 q5⟩
    · obtain ⟨_, _, c, rfl, _, _⟩ := k.heap x o hf
      cases hb
  have := (hok.sound hfn hbody hn).sound ρ (fun k => k < w.heap.size) w (bldT2 0 ts).vs (bldT2 0 ts).hp (bldT2 0 ts).n ((GT.leaf ob [.c (.d (.b true))]).toRT am (bldT2 0 ts).hp (bldT2 0 ts).n) (by
    unfold pureT
    rw [hto]
    dsimp only
    rw [hg]) ho k.lt hh (fun k hk => hk)
  rw [k.val] at this
  refine this.mono ?_
  rintro e w' ⟨ρ', rfl, hl⟩
  exact ⟨rfl, hl.mono rfl⟩
end
end Go.Sx
end

section
namespace Go.Sx
set_option linter.unusedVariables false
open Go.RowKit Go.ChangeShapes Go.WideShapes
section
variable {P : Program} {w : World}
theorem laid_get : ∀ {l : List (String × DataW Unit)} {ps : List MemPlace} {n : String} {d : DataW Unit}, DataW.LaidVars P w l ps → (n, d) ∈ l →
    ∃ g t cs fuel p, P.globalNamed n = some g ∧ (P.globals[g]?).map (·.type) = some t ∧ w.var? P n = some cs ∧ DataW.trod (fun _ => ()) P w 0 (fun _ => true) false fuel t cs.toList = some (d, p)
  | (n', d') :: r, ps, n, d, h, hm => by
    obtain ⟨g, t, cs, fuel, p, q, h1, h2, h3, h4, h5, _⟩ := h
    rcases List.mem_cons.1 hm with e | hm
    · cases e
      exact ⟨g, t, cs, fuel, p, h1, h2, h3, h4⟩
    · exact laid_get h5 hm
variable {enc : TypeId × Value → Unit} {base : Nat} {spare : Nat → Bool} {held : Bool} {fuel : Nat}
theorem take_one {α : Type} {l : List α} {i : Nat} (h : i < l.length) : (l.drop i).take 1 = [l[i]] := by
  rw [List.drop_eq_getElem_cons h]
  rfl
theorem laid_ints {t e n : Nat} {k : IntKind} {l : List Int} {cs : List Value} {p : List MemPlace} (hu : P.underlying t = some (.array n e)) (he : P.underlying e = some (.int k)) (hc : P.cellsOf e = 1) (hct : P.cellsOf t = n) (hl : l.length = n)
    (h : DataW.trod enc P w base spare held fuel t cs = some (.agg (l.map fun x => .lit (.int k x)), p)) : cs = (Cont.ints k l).flat.map D.val := by
  obtain ⟨xs, m, _, hx, hlen, hn, hel⟩ := DataW.trod_array hu h
  have hx1 : l.map (fun x => DataW.lit (H := Unit) (.int k x)) = xs.map (·.1) := by
    have := congrArg Prod.fst hx
    simpa using this
  have hf : (Cont.ints k l).flat.map D.val = l.map fun x => Value.int k x := by
    simp only [Cont.flat, List.map_flatMap, List.map_cons, List.map_nil, D.val]
    rw [← List.flatMap_singleton' (l.map fun x => Value.int k x), List.flatMap_map]
  rw [hf]
  apply List.ext_getElem
  · rw [hlen, hct, List.length_map, hl]
  · intro i h1 h2
    have hi : i < n := by rw [hlen, hct] at h1; exact h1
    have h3 := hel i hi
    rw [hc, Nat.mul_one, take_one h1] at h3
    have hxi : i < xs.length := by omega
    rw [List.getElem?_eq_getElem hxi] at h3
    obtain ⟨a, ha, hb, _⟩ := DataW.trod_int he h3
    have h4 : (l.map (fun x => DataW.lit (H := Unit) (.int k x)))[i]? = (xs.map (·.1))[i]? := by rw [hx1]
    rw [List.getElem?_map, List.getElem?_map, List.getElem?_eq_getElem hxi, List.getElem?_eq_getElem (show i < l.length by omega), hb] at h4
    simp only [Option.map_some, Option.some.injEq] at h4
    have e1 : l[i] = a := by cases h4; rfl
    have e2 : cs[i] = .int k a := by simpa using ha
    rw [e2, List.getElem_map, e1]
theorem laid_recs3 {t e n a b c : Nat} {fs : Array Field} {l : List (List Int)} {cs : List Value} {p : List MemPlace} (hu : P.underlying t = some (.array n e)) (he : P.underlying e = some (.struct fs))
    (hfs : fs.toList.map (fun f => (f.type, f.offset)) = [(a, 0), (b, 1), (c, 2)]) (ha : P.underlying a = some (.int .i64)) (hb : P.underlying b = some (.int .i64)) (hc : P.underlying c = some (.int .i64)) (hca : P.cellsOf a = 1) (hcb : P.cellsOf b = 1) (hcc : P.cellsOf c = 1)
    (hce : P.cellsOf e = 3) (hct : P.cellsOf t = 3 * n) (hl : l.length = n)
    (h : DataW.trod enc P w base spare held fuel t cs = some (.agg (l.map fun x => .agg [.lit (.int .i64 (x.getD 0 0)), .lit (.int .i64 (x.getD 1 0)), .lit (.int .i64 (x.getD 2 0))]), p)) : cs = (Cont.recs 3 l).flat.map D.val := by
  obtain ⟨xs, m, _, hx, hlen, hn, hel⟩ := DataW.trod_array hu h
  have hx1 : l.map (fun x => DataW.agg (H := Unit) [.lit (.int .i64 (x.getD 0 0)), .lit (.int .i64 (x.getD 1 0)), .lit (.int .i64 (x.getD 2 0))]) = xs.map (·.1) := by
    have := congrArg Prod.fst hx
    simpa using this
  have hrow : ∀ i, i < n → (cs.drop (i * 3)).take 3 = [Value.int .i64 ((l.getD i []).getD 0 0), .int .i64 ((l.getD i []).getD 1 0), .int .i64 ((l.getD i []).getD 2 0)] := by
    intro i hi
    have h3 := hel i hi
    rw [hce] at h3
    have hxi : i < xs.length := by omega
    have hli : i < l.length := by omega
    rw [List.getElem?_eq_getElem hxi] at h3
    have h4 : (l.map (fun x => DataW.agg (H := Unit) [.lit (.int .i64 (x.getD 0 0)), .lit (.int .i64 (x.getD 1 0)), .lit (.int .i64 (x.getD 2 0))]))[i]? = (xs.map (·.1))[i]? := by rw [hx1]
    rw [List.getElem?_map, List.getElem?_map, List.getElem?_eq_getElem hxi, List.getElem?_eq_getElem hli] at h4
    simp only [Option.map_some, Option.some.injEq] at h4
    have hgl : l.getD i [] = l[i] := by simp [List.getD, hli]
    rw [hgl]
    obtain ⟨ys, m2, _, hy, hyl, hyn, hye⟩ := DataW.trod_struct he h3
    rw [hce] at hyl
    have hy1 : xs[i].1 = .agg (ys.map (·.1)) := by rw [hy]
    rw [hy1] at h4
    have h5 : [DataW.lit (H := Unit) (.int .i64 (l[i].getD 0 0)), .lit (.int .i64 (l[i].getD 1 0)), .lit (.int .i64 (l[i].getD 2 0))] = ys.map (·.1) := by
      rw [DataW.agg.injEq] at h4
      exact h4
    have hfl : fs.size = 3 := by
      have := congrArg List.length hfs
      simpa using this
    have field : ∀ (j : Nat) (tj : Nat), j < 3 → (fs.toList.map (fun f => (f.type, f.offset)))[j]? = some (tj, j) → P.underlying tj = some (.int .i64) → P.cellsOf tj = 1 → ∃ v, ((cs.drop (i * 3)).take 3)[j]? = some (Value.int .i64 v) ∧ (ys.map (·.1))[j]? = some (.lit (.int .i64 v)) := by
      intro j tj hj hf htj hcj
      rw [List.getElem?_map] at hf
      cases hfj : fs.toList[j]? with
      | none => rw [hfj] at hf; cases hf
      | some f =>
        rw [hfj] at hf
        simp only [Option.map_some, Option.some.injEq, Prod.mk.injEq] at hf
        obtain ⟨e1, e2⟩ := hf
        have h6 := hye j f (by simpa using hfj)
        rw [e1, e2, hcj, take_one (by rw [hyl]; exact hj)] at h6
        have hyj : j < ys.length := by omega
        rw [List.getElem?_eq_getElem hyj] at h6
        obtain ⟨v, hv1, hv2, _⟩ := DataW.trod_int htj h6
        refine ⟨v, ?_, ?_⟩
        · rw [List.getElem?_eq_getElem (by rw [hyl]; exact hj)]
          simpa using hv1
        · rw [List.getElem?_map, List.getElem?_eq_getElem hyj, hv2]
          rfl
    obtain ⟨v0, a0, b0⟩ := field 0 a (by omega) (by rw [hfs]; rfl) ha hca
    obtain ⟨v1, a1, b1⟩ := field 1 b (by omega) (by rw [hfs]; rfl) hb hcb
    obtain ⟨v2, a2, b2⟩ := field 2 c (by omega) (by rw [hfs]; rfl) hc hcc
    rw [← h5] at b0 b1 b2
    have e0 : l[i].getD 0 0 = v0 := by simpa using b0
    have e1 : l[i].getD 1 0 = v1 := by simpa using b1
    have e2 : l[i].getD 2 0 = v2 := by simpa using b2
    rw [e0, e1, e2]
    generalize (cs.drop (i * 3)).take 3 = L at *
    match L, hyl with
    | [x, y, z], _ =>
      simp only [List.getElem?_cons_zero, List.getElem?_cons_succ, Option.some.injEq] at a0 a1 a2
      rw [a0, a1, a2]
  apply List.ext_getElem?
  intro j
  have hfl := (Cont.recs 3 l).flat_length
  have hn3 : (Cont.recs 3 l).n * (Cont.recs 3 l).e = n * 3 := by simp [Cont.n, Cont.e, hl]
  by_cases hj : j < n * 3
  · have hi : j / 3 < n := by omega
    have h7 := hrow (j / 3) hi
    have h8 := (Cont.recs 3 l).flat_get (i := j / 3) (j := j % 3) (by simpa [Cont.n, hl] using hi) (by simp only [Cont.e]; omega)
    have e9 : j / 3 * (Cont.recs 3 l).e + j % 3 = j := by simp only [Cont.e]; omega
    rw [e9] at h8
    rw [List.getElem?_map, h8]
    have h10 : cs[j]? = ((cs.drop (j / 3 * 3)).take 3)[j % 3]? := by
      rw [List.getElem?_take, if_pos (by omega), List.getElem?_drop]
      congr 1
      omega
    rw [h10, h7]
    have hm : j % 3 = 0 ∨ j % 3 = 1 ∨ j % 3 = 2 := by omega
    rcases hm with h | h | h <;> rw [h] <;> rfl
  · rw [List.getElem?_eq_none (by rw [hlen, hct]; omega), List.getElem?_eq_none (by rw [List.length_map, hfl, hn3]; omega)]
theorem tab_of {n : String} {g : Nat} {cs : Array Value} {c : Cont} (hg : P.globalNamed n = some g) (hv : w.var? P n = some cs) (hc : cs.toList = c.flat.map D.val) :
    g < w.heap.size ∧ (∀ j x, c.flat[j]? = some x → w.cell? ⟨g, j, none⟩ = some x.val) ∧ ∃ cs t f, w.heap[g]? = some (.cells cs t f) ∧ cs.size = c.flat.length := by
  have hcell := World.var?_cell hg hv
  have hsz : cs.size = c.flat.length := by
    have := congrArg List.length hc
    simpa using this
  simp only [World.var?, hg, Option.bind_some] at hv
  split at hv
  · rename_i cs' t f hh
    cases hv
    refine ⟨(Array.getElem?_eq_some_iff.1 hh).1, fun j x hj => ?_, cs, t, f, hh, hsz⟩
    rw [hcell j]
    have : cs.toList[j]? = some x.val := by rw [hc, List.getElem?_map, hj]; rfl
    simpa using this
  · cases hv
end
end Go.Sx
end

section
namespace Go.Proofs.YtcklfboglnfepaaDoor
open Go Go.Proofs Go.RowKit Go.Sx
set_option maxRecDepth 100000
theorem globs_ok {W : World} {laid : List (String × DataW Unit)} (hp : (laid.all fun x => x.2.handleName?.isNone) = true)
    (hm : ∀ x ∈ [("internal/strconv.uint64pow10", Rows.laid_internal_strconv_uint64pow10 (H := Unit)), ("shoebox/figure.powers", Rows.laid_shoebox_figure_powers), ("shoebox/figure.slopes", Rows.laid_shoebox_figure_slopes), ("shoebox/figure.tenths", Rows.laid_shoebox_figure_tenths), ("shoebox/figure.decayKinds", Rows.laid_shoebox_figure_decayKinds)], x ∈ laid)
    (h : laidMetH Tryd.prog laid W) : GlobOK (fun k => k < W.heap.size) W := by
  rw [MakeChecks.laidMetH_plain _ _ _ hp] at h
  obtain ⟨ps, hl, _, _⟩ := h
  have t0 : (Tryd.prog.globals[0]?).map (·.type) = some 110 := by kernel_rfl
  have t2 : (Tryd.prog.globals[2]?).map (·.type) = some 123 := by kernel_rfl
  have t3 : (Tryd.prog.globals[3]?).map (·.type) = some 131 := by kernel_rfl
  have t1 : (Tryd.prog.globals[1]?).map (·.type) = some 114 := by kernel_rfl
  have t6 : (Tryd.prog.globals[6]?).map (·.type) = some 163 := by kernel_rfl
  refine ⟨fun g c hg => ?_, held_none (fun g => rfl) _ _⟩
  have hg : tabZ g = some c := hg
  unfold tabZ at hg
  split at hg
  · cases hg
    obtain ⟨g, t, cs, fuel, p, h1, h2, h3, h4⟩ := laid_get hl (hm ("shoebox/figure.decayKinds", Rows.laid_shoebox_figure_decayKinds) (by simp))
    obtain rfl := Option.some.inj ((show Tryd.prog.globalNamed "shoebox/figure.decayKinds" = some 0 by kernel_rfl).symm.trans h1)
    obtain rfl := Option.some.inj (t0.symm.trans h2)
    have hc := laid_ints (n := 3) (e := 3) (k := .i64) (l := kindsT) (by kernel_rfl) (by kernel_rfl) (by kernel_rfl) (by kernel_rfl) rfl h4
    exact tab_of h1 h3 hc
  · cases hg
    obtain ⟨g, t, cs, fuel, p, h1, h2, h3, h4⟩ := laid_get hl (hm ("shoebox/figure.slopes", Rows.laid_shoebox_figure_slopes) (by simp))
    obtain rfl := Option.some.inj ((show Tryd.prog.globalNamed "shoebox/figure.slopes" = some 2 by kernel_rfl).symm.trans h1)
    obtain rfl := Option.some.inj (t2.symm.trans h2)
    have hu : ∃ fs, Tryd.prog.underlying 122 = some (.struct fs) ∧ fs.toList.map (fun f => (f.type, f.offset)) = [(3, 0), (3, 1), (3, 2)] := by
      have u := Tryd.underlying122
      exact ⟨_, u, by kernel_rfl⟩
    obtain ⟨fs, u2, u3⟩ := hu
    have hc := laid_recs3 (n := 3) (l := slopesT) (e := 122) (by kernel_rfl) u2 u3 (by kernel_rfl) (by kernel_rfl) (by kernel_rfl) (by kernel_rfl) (by kernel_rfl) (by kernel_rfl) (by kernel_rfl) (by kernel_rfl) rfl h4
    exact tab_of h1 h3 hc
  · cases hg
    obtain ⟨g, t, cs, fuel, p, h1, h2, h3, h4⟩ := laid_get hl (hm ("shoebox/figure.powers", Rows.laid_shoebox_figure_powers) (by simp))
    obtain rfl := Option.some.inj ((show Tryd.prog.globalNamed "shoebox/figure.powers" = some 3 by kernel_rfl).symm.trans h1)
    obtain rfl := Option.some.inj (t3.symm.trans h2)
    have hc := laid_ints (n := 13) (l := powersT) (e := 84) (k := .u64) (by kernel_rfl) (by kernel_rfl) (by kernel_rfl) (by kernel_rfl) rfl h4
    exact tab_of h1 h3 hc
  · cases hg
    obtain ⟨g, t, cs, fuel, p, h1, h2, h3, h4⟩ := laid_get hl (hm ("shoebox/figure.tenths", Rows.laid_shoebox_figure_tenths) (by simp))
    obtain rfl := Option.some.inj ((show Tryd.prog.globalNamed "shoebox/figure.tenths" = some 1 by kernel_rfl).symm.trans h1)
    obtain rfl := Option.some.inj (t1.symm.trans h2)
    have hc := laid_ints (n := 10) (l := tenthsT) (e := 84) (k := .u64) (by kernel_rfl) (by kernel_rfl) (by kernel_rfl) (by kernel_rfl) rfl h4
    exact tab_of h1 h3 hc
  · cases hg
    obtain ⟨g, t, cs, fuel, p, h1, h2, h3, h4⟩ := laid_get hl (hm ("internal/strconv.uint64pow10", Rows.laid_internal_strconv_uint64pow10) (by simp))
    obtain rfl := Option.some.inj ((show Tryd.prog.globalNamed "internal/strconv.uint64pow10" = some 6 by kernel_rfl).symm.trans h1)
    obtain rfl := Option.some.inj (t6.symm.trans h2)
    have hc := laid_ints (n := 20) (l := pow10T) (e := 84) (k := .u64) (by kernel_rfl) (by kernel_rfl) (by kernel_rfl) (by kernel_rfl) rfl h4
    exact tab_of h1 h3 hc
  · cases hg
end Go.Proofs.YtcklfboglnfepaaDoor
end
