/- A symbolic executor for the model's code: what an operation that leaves the world alone yields, proved. -/
import Derived.Test.YtndhdojnlobloaaSxB
set_option linter.unusedSectionVars false
set_option linter.unusedSimpArgs false
set_option linter.unusedVariables false
open Go.RowKit
namespace Go.Sx

/-- The operands read as they stand in the frame. -/
def Reads (ρ : Env) (nx : Nat) (rd : Operand → Option V) (a : Act) : Prop := ∀ x u, rd x = some u → u.lt nx ∧ a.eval x = u.val ρ

section
variable [Globs] {P : Program} {ρ : Env} {B : Bd} {nx : Nat} {hp : Hp} {w : World} {rd : Operand → Option V} {a : Act}

theorem V.int?_eq {v : V} {k : IntKind} {n : Int} (h : v.int? = some (k, n)) : v = vi k n := by
  unfold V.int? at h; split at h <;> simp_all [vi]
theorem V.bool?_eq {v : V} {b : Bool} (h : v.bool? = some b) : v = vb b := by
  unfold V.bool? at h; split at h <;> simp_all [vb]
theorem V.str?_eq {v : V} {b : ByteArray} (h : v.str? = some b) : v = vs b := by
  unfold V.str? at h; split at h <;> simp_all [vs]
theorem V.flt?_eq {v : V} {k : FloatKind} {n : Nat} (h : v.flt? = some (k, n)) : v = vf k n := by
  unfold V.flt? at h; split at h <;> simp_all [vf]
theorem V.agg?_eq {v : V} {l : List C} (h : v.agg? = some l) : v = .w (.a l) := by
  unfold V.agg? at h; split at h <;> simp_all

@[simp] theorem vi_val (k : IntKind) (n : Int) : (vi k n).val ρ = .int k n := rfl
@[simp] theorem vb_val (b : Bool) : (vb b).val ρ = .bool b := rfl
@[simp] theorem vs_val (b : ByteArray) : (vs b).val ρ = .string b := rfl
@[simp] theorem vf_val (k : FloatKind) (n : Nat) : (vf k n).val ρ = .float k n := rfl
@[simp] theorem cell_val (x : C) : (V.w (.c x)).val ρ = x.val ρ := rfl
@[simp] theorem agg_val (l : List C) : (V.w (.a l)).val ρ = .agg (l.map (C.val ρ)).toArray := rfl

/-- A value of a part. -/
theorem partW_run {t : TypeId} {cs : List C} {off : Nat} {v : V} (h : partW P t cs off = some v) (hl : ∀ x ∈ cs, C.lt nx x) :
    (part t (cs.map (C.val ρ)).toArray off).run P w = .ok (v.val ρ) w ∧ v.lt nx := by
  unfold partW at h
  split at h
  · rename_i sz ht hs
    split at h
    · rename_i hle
      cases h
      refine ⟨?_, fun x hx => hl x (List.mem_of_mem_drop (List.mem_of_mem_take hx))⟩
      simp only [part, Sem.run_bind, run_aggT w ht, Result.andThen_ok, if_true, run_szT w hs, Sem.run_pure, agg_val]
      congr 2
      apply Array.ext'
      simp [List.map_take, List.map_drop, List.take_drop]
    · cases h
  · rename_i sz ht hs
    cases hc : cs[off]? with
    | none => simp [hc] at h
    | some c =>
      simp [hc] at h
      subst h
      refine ⟨?_, hl c (List.mem_of_getElem? hc)⟩
      simp only [part, Sem.run_bind, run_aggT w ht, Result.andThen_ok, Bool.false_eq_true, if_false]
      simp [hc]
  · cases h

theorem eqParts_cons {α : Type} {f : α → Option Bool} {a : α} {r : List α} {b : Bool} (h : eqParts f (a :: r) = some b) : ∃ x y, f a = some x ∧ eqParts f r = some y ∧ b = (x && y) := by
  cases r with
  | nil => exact ⟨b, true, h, rfl, by simp⟩
  | cons c r =>
    simp only [eqParts] at h
    split at h
    · rename_i x y hx hy
      cases h
      exact ⟨x, y, hx, hy, rfl⟩
    · cases h

theorem eqV_run (e : Nat) : ∀ (d : Nat) (t : TypeId) (u v : V) (b : Bool), eqV P d t u v = some b → u.lt nx → v.lt nx → (Op.equalIn (d + e) t (u.val ρ) (v.val ρ)).run P w = .ok b w
  | 0, _, _, _, _, h, _, _ => by cases h
  | d + 1, t, u, v, b, h, hu, hv => by
    have hde : d + 1 + e = (d + e) + 1 := by omega
    rw [hde]
    unfold eqV at h
    split at h
    · rename_i k0 k a k' a' ht
      split at h
      · rename_i hk
        cases h
        subst hk
        exact run_equalIn_int w (d + e) t k k0 a a' ht
      · cases h
    · rename_i a a' ht
      cases h
      exact run_equalIn_bool' w (d + e) t a a' ht
    · rename_i a a' ht
      cases h
      rw [beq_toListBytes]
      exact run_equalIn_string w (d + e) t a a' ht
    · rename_i fs xs ys ht
      split at h
      · rename_i hs
        have hf : P.fieldsOf t = fs := by simp [Program.fieldsOf, ht]
        rw [agg_val, agg_val, run_equalIn_struct w (d + e) t _ _ (by rw [hf]; exact ht) hs, hf]
        generalize fs.toList = l at h
        induction l generalizing b with
        | nil => cases h; rfl
        | cons f r ih =>
          obtain ⟨x, y, hx, hy, rfl⟩ := eqParts_cons h
          have ih := ih y hy
          split at hx
          · rename_i a c hn ha hc
            have hpa := partW_run (ρ := ρ) (w := w) ha hu
            have hpc := partW_run (ρ := ρ) (w := w) hc hv
            have hrec := eqV_run e d f.type a c x hx hpa.2 hpc.2
            unfold Op.eqFields
            have hne : f.name ≠ "_" := by simpa using hn
            rw [if_pos hne]
            simp only [Sem.run_bind, hpa.1, hpc.1, Result.andThen_ok, hrec]
            cases x
            · simp
            · simpa using ih
          · cases hx
      · cases h
    · rename_i n elem xs ys ht
      split at h
      · rename_i sz hsz
        simp only [agg_val, Op.equalIn, Sem.run_bind, run_underlying ht, Result.andThen_ok, run_szT w hsz]
        simp only [Std.Legacy.Range.forIn_eq_forIn_range', Std.Legacy.Range.size]
        have hl : List.range' 0 ((n - 0 + 1 - 1) / 1) 1 = List.range n := by simp [List.range_eq_range']
        rw [hl]
        generalize List.range n = l at h
        induction l generalizing b with
        | nil => cases h; simp
        | cons i r ih =>
          obtain ⟨x, y, hx, hy, rfl⟩ := eqParts_cons h
          have ih := ih y hy
          split at hx
          · rename_i a c ha hc
            have hpa := partW_run (ρ := ρ) (w := w) ha hu
            have hpc := partW_run (ρ := ρ) (w := w) hc hv
            have hrec := eqV_run e d elem a c x hx hpa.2 hpc.2
            simp only [List.forIn_cons, Sem.run_bind, hpa.1, hpc.1, Result.andThen_ok, hrec]
            cases x
            · simp
            · simpa using ih
          · cases hx
      · cases h
    · cases h

theorem run_loadVar_blk {t : TypeId} {k : FloatKind} {E : Nat} {r : List Nat} {ad : Addr} (hag : aggT P t = some true) (hsz : szT P t = some E)
    (hc : ∀ m, m < E → w.cell? (ad.add m) = some (.float k (r.getD m 0))) : (loadVar t ad).run P w = .ok ((vblk k E r).val ρ) w := by
  refine run_loadVar_agg w hag (by simpa using hsz) ?_
  intro m u hm
  simp only [frD, List.map_map, List.getElem?_map, Option.map_eq_some_iff] at hm
  obtain ⟨y, hy, rfl⟩ := hm
  obtain ⟨hlt2, hy3⟩ := List.getElem?_eq_some_iff.1 hy
  simp at hlt2 hy3
  subst hy3
  exact hc _ hlt2

theorem rdObj_run {t : TypeId} {h i e j : Nat} {o : O} {ob : Prop} {v : V} (hh : HRel ρ B hp nx w) (hf : find hp h = some o)
    (hv : rdObj P t o i e j = some (ob, v)) (ho : ob) :
    (loadVar t ⟨(base (ρ h)).block, (base (ρ h)).off + (i * e + j), none⟩).run P w = .ok (v.val ρ) w ∧ v.lt nx := by
  obtain ⟨hlt, hol, hok⟩ := hh.ok h o hf
  have key : ∀ c : Cont, o.cont = some c → IsRow w (ρ h) c ∨ (∃ g cap cur ty, ρ h = .slice (some ⟨g, 0, none⟩) c.n cap ∧ w.heap[g]? = some (.cells cur ty (0, 0)) ∧ cur.toList.take (c.n * c.e) = c.flat.map D.val) ∨ c.n = 0 := by
    intro c hc
    cases o with
    | ext c' => simp [O.cont] at hc; subst hc; exact .inl hok.1
    | view r c' _ => simp [O.cont] at hc; subst hc; exact .inl hok.1
    | rrow c' => simp [O.cont] at hc; subst hc; exact .inl hok.1
    | row ty c' =>
      simp [O.cont] at hc; subst hc
      rcases hok.1.2 with ⟨_, hn⟩ | ⟨g, cap, cur, h1, h2, h3, h4, h5, h6, h7⟩
      · exact .inr (.inr hn)
      · exact .inr (.inl ⟨g, cap, cur, ty, h1, h3, h7⟩)
    | _ => simp [O.cont] at hc
  have cellsA : ∀ c : Cont, o.cont = some c → ∀ i, i < c.n → ∀ m, m < c.e → w.cell? ⟨(base (ρ h)).block, (base (ρ h)).off + (i * c.e + m), none⟩ = some (c.cell i m).val := by
    intro c hc i hi m hm
    have hg := c.flat_get hi hm
    rcases key c hc with ⟨a', cap, hs, _, hx⟩ | ⟨g, cap, cur, ty, hs, hheap, htk⟩ | hn
    · obtain ⟨b, off, rfl, hx'⟩ := hx (by omega)
      rw [hs]
      exact hx' _ _ hg
    · rw [hs]
      simp only [base, Nat.zero_add]
      rw [cell_of_row w g _ cur ty (0, 0) hheap]
      have h2 : (cur.toList.take (c.n * c.e))[i * c.e + m]? = some (c.cell i m).val := by rw [htk, List.getElem?_map, hg]; rfl
      rw [List.getElem?_take] at h2
      split at h2
      · simpa using h2
      · cases h2
    · omega
  have cells := fun c hc => cellsA c hc i
  have boxy : ∀ (cs : List C) (ag : Bool) (sz : Nat), aggT P t = some ag → szT P t = some sz → (∀ x ∈ cs, C.lt nx x) →
      (∀ m c, cs[m]? = some c → w.cell? ⟨(base (ρ h)).block, (base (ρ h)).off + m, none⟩ = some (c.val ρ)) →
      (match ag with
        | true => if i * e + j + sz ≤ cs.length then some (True, V.w (.a ((cs.drop (i * e + j)).take sz))) else none
        | false => (cs[i * e + j]?).map fun c => (True, V.w (.c c))) = some (ob, v) →
      (loadVar t ⟨(base (ρ h)).block, (base (ρ h)).off + (i * e + j), none⟩).run P w = .ok (v.val ρ) w ∧ v.lt nx := by
    intro cs ag sz hag hsz hol hcell hv
    split at hv
    · split at hv
      · rename_i hle
        cases hv
        refine ⟨?_, fun x hx => hol x (List.mem_of_mem_drop (List.mem_of_mem_take hx))⟩
        have hlen : (((cs.drop (i * e + j)).take sz).map (C.val ρ)).length = sz := by simp; omega
        refine run_loadVar_agg w hag (by rw [hlen]; exact hsz) ?_
        intro m u hm
        rw [add_at, Nat.add_assoc]
        rw [List.getElem?_map, List.getElem?_take] at hm
        split at hm
        · rw [List.getElem?_drop] at hm
          obtain ⟨c, hc, rfl⟩ := Option.map_eq_some_iff.1 hm
          exact hcell _ _ hc
        · cases hm
      · cases hv
    · cases hc : cs[i * e + j]? with
      | none => simp [hc] at hv
      | some c =>
        simp [hc] at hv
        obtain ⟨_, rfl⟩ := hv
        exact ⟨run_loadVar_one w hag (hcell _ _ hc), hol c (List.mem_of_getElem? hc)⟩
  unfold rdObj at hv
  split at hv
  · rename_i ag sz hag hsz
    split at hv
    · -- a box
      rename_i ty cs
      obtain ⟨k, h1, _, h3⟩ := hok
      refine boxy cs ag sz hag hsz hol ?_ hv
      intro m c hc
      rw [h1]
      simp only [base, Nat.zero_add]
      rw [cell_of_row w k _ _ ty (0, 0) h3]
      simp [hc]
    · -- a box that came in
      rename_i cs
      obtain ⟨k, o, h1, _, h3⟩ := hok
      refine boxy cs ag sz hag hsz hol ?_ hv
      intro m c hc
      rw [h1]
      exact h3 m c hc
    · -- an array of floats
      rename_i ty k E r
      obtain ⟨g, h1, _, h3⟩ := hok
      have hcell : ∀ m, m < E → w.cell? ⟨(base (ρ h)).block, (base (ρ h)).off + m, none⟩ = some (.float k (r.getD m 0)) := by
        intro m hm
        rw [h1]
        simp only [base, Nat.zero_add]
        rw [cell_of_row w g _ _ ty (0, 0) h3]
        simp [frD, hm, D.val]
      split at hv
      · split at hv
        · rename_i e1 e2
          cases hv
          have e1 := Nat.eq_of_beq_eq_true e1
          have e2 := Nat.eq_of_beq_eq_true e2
          subst e1
          rw [e2]
          refine ⟨run_loadVar_blk hag hsz fun m hm => ?_, trivial⟩
          rw [add_at, Nat.add_zero]
          exact hcell m hm
        · cases hv
      · cases hv
        exact ⟨run_loadVar_one w hag (hcell _ ho), trivial⟩
    · -- a content with lists within
      rename_i sh l
      obtain ⟨a', cap, hs, _, hx⟩ := hok
      split at hv
      · cases hv
      · rename_i hagf
        have gen : ∀ (x : D) (kk : NK), Nat.beq e sh.length = true → sh[j]? = some kk → i < l.length → (kk.norm ((l.getD i []).getD j (.d (.v undef)))) = .d x →
            (loadVar t ⟨(base (ρ h)).block, (base (ρ h)).off + (i * e + j), none⟩).run P w = .ok x.val w := by
          intro x kk he hj hi hn
          have he := Nat.eq_of_beq_eq_true he
          subst he
          have hjl : j < sh.length := (List.getElem?_eq_some_iff.1 hj).1
          obtain ⟨b, off, rfl, hB, hcell⟩ := hx (Nat.lt_of_le_of_lt (Nat.zero_le _) hi)
          obtain ⟨u, hu, hux⟩ := hcell i j hi hjl
          rw [hs]
          have hk : (XC.cell (.st sh l) i j) = .d x := by
            simp only [XC.cell, List.getD_eq_getElem?_getD, hj, Option.getD_some]
            simpa [List.getD_eq_getElem?_getD] using hn
          rw [hk] at hux
          have hux : u = x.val := hux
          subst hux
          exact run_loadVar_one w hag hu
        split at hv
        · rename_i e1 e2; cases hv; exact ⟨gen _ _ e1 e2 ho rfl, trivial⟩
        · rename_i e1 e2; cases hv; exact ⟨gen _ _ e1 e2 ho rfl, trivial⟩
        · rename_i e1 e2; cases hv; exact ⟨gen _ _ e1 e2 ho rfl, trivial⟩
        · rename_i e1 e2; cases hv; exact ⟨gen _ _ e1 e2 ho rfl, trivial⟩
        · cases hv
    · cases hv
    · -- a row
      split at hv
      · -- of arrays of floats
        rename_i k E l hc
        split at hv
        · split at hv
          · rename_i e1 e2 e3
            cases hv
            have e1 := Nat.eq_of_beq_eq_true e1
            have e2 := Nat.eq_of_beq_eq_true e2
            have e3 := Nat.eq_of_beq_eq_true e3
            subst e1 e2 e3
            refine ⟨run_loadVar_blk hag hsz fun m hm => ?_, trivial⟩
            rw [add_at, Nat.add_assoc, Nat.add_zero]
            exact cells _ hc ho m hm
          · cases hv
        · split at hv
          · rename_i e1
            cases hv
            have e1 := Nat.eq_of_beq_eq_true e1
            subst e1
            exact ⟨run_loadVar_one w hag (cells _ hc ho.1 j ho.2), trivial⟩
          · cases hv
      · -- of floats
        rename_i k l hc
        split at hv
        · rename_i e1 e2
          have e1 := Nat.eq_of_beq_eq_true e1
          have e2 := Nat.eq_of_beq_eq_true e2
          subst e1 e2
          split at hv
          · cases hv
            refine ⟨run_loadVar_blk hag hsz fun m hm => ?_, trivial⟩
            have := cellsA _ hc (i + m) (show i + m < l.length by omega) 0 (by simp [Cont.e])
            simp only [Cont.e, Nat.mul_one, Nat.add_zero, Cont.cell] at this
            rw [add_at, Nat.mul_one, Nat.add_zero, Nat.add_assoc, this]
            simp only [D.val, List.getD_eq_getElem?_getD, List.getElem?_take, List.getElem?_drop, if_pos hm]
          · cases hv
            exact ⟨run_loadVar_one w hag (cells _ hc ho 0 (by simp [Cont.e])), trivial⟩
        · cases hv
      · rename_i c _ _ hc
        split at hv
        · split at hv
          · rename_i he
            obtain ⟨rfl, hle⟩ := he
            cases hv
            refine ⟨?_, fun x hx => by obtain ⟨_, _, rfl⟩ := List.mem_map.1 hx; trivial⟩
            refine run_loadVar_agg w hag (by simpa using hsz) ?_
            intro m u hm
            simp only [List.getElem?_map, Option.map_eq_some_iff] at hm
            obtain ⟨x, ⟨y, hy, rfl⟩, rfl⟩ := hm
            have hy2 := List.getElem?_eq_some_iff.1 hy
            obtain ⟨hlt2, hy3⟩ := hy2
            simp at hlt2 hy3
            subst hy3
            rw [add_at, Nat.add_assoc, Nat.add_assoc]
            exact cells c hc ho (j + m) (by omega)
          · cases hv
        · split at hv
          · rename_i he
            obtain ⟨rfl, hle⟩ := he
            cases hv
            exact ⟨run_loadVar_one w hag (cells c hc ho j hle), trivial⟩
          · cases hv
      · cases hv
  · cases hv

/-- What is read of a content names no object. -/
theorem rdObj_ext {t : TypeId} {i e j : Nat} {c : Cont} {ob : Prop} {v : V} {ρ ρ' : Env} (hv : rdObj P t (.ext c) i e j = some (ob, v)) : v.val ρ' = v.val ρ ∧ v.lt nx := by
  unfold rdObj at hv
  split at hv
  · split at hv <;> rename_i hoc <;> try cases hoc
    split at hv
    · split at hv
      · split at hv
        · cases hv; exact ⟨rfl, trivial⟩
        · cases hv
      · split at hv
        · cases hv; exact ⟨rfl, trivial⟩
        · cases hv
    · split at hv
      · split at hv <;> cases hv <;> exact ⟨rfl, trivial⟩
      · cases hv
    · split at hv
      · split at hv
        · cases hv
          refine ⟨?_, fun x hx => by obtain ⟨_, _, rfl⟩ := List.mem_map.1 hx; trivial⟩
          simp only [agg_val, List.map_map]
          rfl
        · cases hv
      · split at hv
        · cases hv; exact ⟨rfl, trivial⟩
        · cases hv
    · cases hv
  · cases hv

theorem fold_set (ρ : Env) (off : Nat) : ∀ (vs : List C) (n : Nat) (cs : List C),
    (((vs.zipIdx n).foldl (fun cs (c, j) => cs.set (off + j) c) cs).map (C.val ρ)).toArray =
      (((vs.map (C.val ρ)).zipIdx n).foldl (fun (cs : Array Value) (c, j) => cs.setIfInBounds (off + j) c) (cs.map (C.val ρ)).toArray)
  | [], _, _ => rfl
  | v :: vs, n, cs => by
    simp only [List.zipIdx_cons, List.foldl_cons, List.map_cons]
    rw [fold_set ρ off vs (n + 1) (cs.set (off + n) v)]
    congr 1
    apply Array.ext'
    simp [List.map_set]

theorem slice_one {a : Option Addr} {n c : Nat} : (Value.slice a n c).oneCell' = true := rfl

theorem C.one_val {c : C} (hh : HRel ρ B hp nx w) (h : c.one hp = true) : (c.val ρ).oneCell' = true := by
  cases c with
  | d x => exact D.one_val h
  | p => rfl
  | fn => rfl
  | g => rfl
  | fb => rfl
  | o k =>
    simp only [C.one] at h
    simp only [C.val]
    cases hf : find hp k with
    | none => simp [hf] at h
    | some o =>
      have hok := (hh.ok k o hf).2.2
      cases o with
      | dead => simp [hf] at h
      | box ty cs => obtain ⟨g, h1, _⟩ := hok; rw [h1]; rfl
      | row ty c =>
        rcases hok.1.2 with ⟨h1, _⟩ | ⟨g, cap, cur, h1, _⟩ <;> rw [h1] <;> rfl
      | ext c => obtain ⟨⟨_, _, h1, _⟩, _⟩ := hok; rw [h1]; rfl
      | view r c _ => obtain ⟨⟨_, _, h1, _⟩, _⟩ := hok; rw [h1]; rfl
      | nan k => obtain ⟨_, h1, _⟩ := hok; rw [h1]; rfl
      | ebox cs => obtain ⟨_, _, h1, _⟩ := hok; rw [h1]; rfl
      | arr _ _ _ _ => obtain ⟨_, h1, _⟩ := hok; rw [h1]; rfl
      | xext X => obtain ⟨_, _, h1, _⟩ := hok; rw [h1]; rfl
      | map es => obtain ⟨_, _, _, h1, _⟩ := hok; rw [h1]; rfl
      | rrow c => obtain ⟨⟨_, _, h1, _⟩, _⟩ := hok; rw [h1]; rfl

theorem cells_of_one {v : Value} (h : v.oneCell' = true) : v.cells = #[v] := by cases v <;> first | rfl | simp [Value.oneCell'] at h

theorem W.cells_val {x : W} (hh : HRel ρ B hp nx w) (h : x.one hp = true) : (x.val ρ).cells = (x.cells.map (C.val ρ)).toArray := by
  cases x with
  | c c => simp only [W.val, W.cells, List.map_cons, List.map_nil]; exact cells_of_one (C.one_val hh h)
  | a l => rfl
  | b k e r => simp only [W.val, W.cells, List.map_map]; rfl

theorem W.cells_lt {x : W} {n : Nat} (h : x.lt n) : ∀ c ∈ x.cells, C.lt n c := by
  cases x with
  | c c => intro d hd; simp only [W.cells, List.mem_singleton] at hd; subst hd; exact h
  | a l => exact h
  | b k e r => intro c hc; obtain ⟨_, _, rfl⟩ := List.mem_map.1 hc; trivial

theorem fold_set_lt {n : Nat} (off : Nat) : ∀ (vs : List C) (m : Nat) (cs : List C), (∀ c ∈ vs, C.lt n c) → (∀ c ∈ cs, C.lt n c) →
    (∀ c ∈ (vs.zipIdx m).foldl (fun cs (c, j) => cs.set (off + j) c) cs, C.lt n c) ∧ ((vs.zipIdx m).foldl (fun cs (c, j) => cs.set (off + j) c) cs).length = cs.length
  | [], _, cs, _, h => ⟨h, rfl⟩
  | v :: vs, m, cs, hv, h => by
    simp only [List.zipIdx_cons, List.foldl_cons]
    have := fold_set_lt off vs (m + 1) (cs.set (off + m) v) (fun c hc => hv c (List.mem_cons_of_mem _ hc)) (fun c hc => by
      rcases List.mem_or_eq_of_mem_set hc with h1 | h1
      · exact h c h1
      · subst h1; exact hv _ List.mem_cons_self)
    exact ⟨this.1, by rw [this.2]; simp⟩

theorem fillC_run (place : Nat → Option (Nat × Nat)) (hh : HRel ρ B hp nx w) : ∀ (parts : List (Nat × W)) (cells out : List C), fillC place cells parts = some out →
    (∀ x ∈ parts, x.2.one hp = true ∧ x.2.lt nx) → (∀ c ∈ cells, C.lt nx c) →
    Instr.fill place (cells.map (C.val ρ)).toArray (parts.map fun x => (x.1, x.2.val ρ)) = some (out.map (C.val ρ)).toArray ∧ (∀ c ∈ out, C.lt nx c) ∧ out.length = cells.length
  | [], cells, out, h, _, hc => by
    simp only [fillC, Option.some.injEq] at h
    subst h
    exact ⟨rfl, hc, rfl⟩
  | (i, v) :: rest, cells, out, h, hp', hc => by
    simp only [fillC] at h
    have hv := hp' (i, v) List.mem_cons_self
    have hcv := W.cells_val (x := v) hh hv.1
    cases hpl : place i with
    | none => simp [hpl] at h
    | some p =>
      obtain ⟨off, size⟩ := p
      simp only [hpl] at h
      split at h
      · rename_i hle
        have hf := fold_set_lt (n := nx) off v.cells 0 cells (W.cells_lt hv.2) hc
        have ih := fillC_run place hh rest _ out h (fun x hx => hp' x (List.mem_cons_of_mem _ hx)) hf.1
        refine ⟨?_, ih.2.1, by rw [ih.2.2, hf.2]⟩
        simp only [List.map_cons, Instr.fill, hpl]
        have hs : (v.val ρ).cells.size = v.cells.length := by rw [hcv]; simp
        rw [hs, if_neg (by simp [hle.1]; omega)]
        rw [← ih.1]
        congr 1
        rw [hcv, fold_set, ← Array.foldl_toList]
        congr 1
        simp
      · cases h

theorem rdParts_run (hr : Reads ρ nx rd a) : ∀ (ps : List (Nat × Operand)) (l : List (Nat × W)), rdParts rd hp ps = some l →
    ps.map (fun x => (x.1, a.eval x.2)) = l.map (fun x => (x.1, x.2.val ρ)) ∧ ∀ x ∈ l, x.2.one hp = true ∧ x.2.lt nx
  | [], l, h => by simp only [rdParts, Option.some.injEq] at h; subst h; exact ⟨rfl, fun _ h => by cases h⟩
  | (i, x) :: r, l, h => by
    simp only [rdParts] at h
    split at h
    · rename_i v l' hx hl
      split at h
      · rename_i hone
        cases h
        have ih := rdParts_run hr r l' hl
        have h1 := hr x _ hx
        refine ⟨by simp only [List.map_cons, ih.1, h1.2, V.val], fun y hy => ?_⟩
        rcases List.mem_cons.1 hy with rfl | hy
        · exact ⟨hone, h1.1⟩
        · exact ih.2 y hy
      · cases h
    · cases h

theorem zeroC_run {t : TypeId} {z : List C} (h : zeroC P t = some z) : ∃ v, (zeroValue t).run P w = .ok v w ∧ v.cells = (z.map (C.val ρ)).toArray ∧ ∀ n, ∀ c ∈ z, C.lt n c := by
  unfold zeroC at h
  cases hi : P.info? t with
  | none => simp [hi] at h
  | some i =>
    cases hz : i.zero with
    | none => simp [hi, hz] at h
    | some v =>
      simp [hi, hz] at h
      subst h
      refine ⟨v, by simp [zeroValue, typeInfo, hi, hz], ?_, fun n c hc => ?_⟩
      · apply Array.ext'
        simp [Function.comp_def, ofCell_val]
      · obtain ⟨y, _, rfl⟩ := List.mem_map.1 hc
        exact ofCell_lt n y

theorem places_run : ∀ (fs : List Field) (l : List (Nat × Nat)), (placesOf P fs).mapM id = some l →
    (fs.mapM (m := Sem) fun f => do pure (f.offset, ← sizeOf f.type)).run P w = .ok l w
  | [], l, h => by simp [placesOf] at h; subst h; simp
  | f :: fs, l, h => by
    simp only [placesOf, List.map_cons, List.mapM_cons, id] at h
    cases hs : szT P f.type with
    | none => simp [hs] at h
    | some s =>
      cases hm : (placesOf P fs).mapM id with
      | none => simp only [placesOf] at hm; simp [hs, hm] at h
      | some l' =>
        have ih := places_run fs l' hm
        simp only [placesOf] at hm
        simp [hs, hm] at h
        subst h
        simp only [List.mapM_cons, Sem.run_bind, run_szT w hs, Result.andThen_ok, Sem.run_pure, ih]

theorem build_run {t : TypeId} {parts : List (Nat × W)} {out : List C} (hh : HRel ρ B hp nx w) (h : buildC P t parts = some out) (hp' : ∀ x ∈ parts, x.2.one hp = true ∧ x.2.lt nx) :
    (Instr.build t (parts.map fun x => (x.1, x.2.val ρ)).toArray).run P w = .ok (.agg (out.map (C.val ρ)).toArray) w ∧ ∀ c ∈ out, C.lt nx c := by
  unfold buildC at h
  split at h
  · rename_i z fs hz hu
    obtain ⟨v, hv, hvc, hlt⟩ := zeroC_run (P := P) (w := w) (ρ := ρ) hz
    split at h
    · rename_i l hl
      have hf := fillC_run (ρ := ρ) _ hh parts z out h hp' (hlt nx)
      refine ⟨?_, hf.2.1⟩
      have hpl := places_run (P := P) (w := w) fs.toList l hl
      simp only [Instr.build, Sem.run_bind, hv, Result.andThen_ok, run_underlying hu, hvc, Array.mapM_eq_mapM_toList, Sem.run_map, hpl]
      simp only [List.getElem?_toArray, hf.1, Sem.run_pure]
    · cases h
  · rename_i z n elem hz hu
    obtain ⟨v, hv, hvc, hlt⟩ := zeroC_run (P := P) (w := w) (ρ := ρ) hz
    split at h
    · rename_i size hs
      have hf := fillC_run (ρ := ρ) _ hh parts z out h hp' (hlt nx)
      refine ⟨?_, hf.2.1⟩
      simp only [Instr.build, Sem.run_bind, hv, Result.andThen_ok, Sem.run_pure, run_underlying hu, hvc, run_szT w hs, hf.1]
    · cases h
  · cases h

theorem rdBoxes_run (hh : HRel ρ B hp nx w) (hr : Reads ρ nx rd a) : ∀ (xs : List Operand) (l : List Nat), rdBoxes rd hp xs = some l → xs.map a.eval = l.map ρ ∧ ∀ h ∈ l, h < nx
  | [], l, h => by simp only [rdBoxes, Option.some.injEq] at h; subst h; exact ⟨rfl, fun _ h => by cases h⟩
  | x :: r, l, h => by
    simp only [rdBoxes] at h
    split at h
    · rename_i k e l' hx hl
      split at h
      · rename_i ty cs hf
        cases h
        have ih := rdBoxes_run hh hr r l' hl
        have h1 := (hr x _ hx).2
        obtain ⟨hlt, _, g, hk, _⟩ := hh.ok k _ hf
        refine ⟨?_, fun y hy => ?_⟩
        · simp only [List.map_cons, ih.1, h1]
          simp only [cell_val, C.val, hk, base, Nat.zero_mul, Nat.add_zero]
        · rcases List.mem_cons.1 hy with rfl | hy
          · exact hlt
          · exact ih.2 y hy
      · rename_i cs hf
        cases h
        have ih := rdBoxes_run hh hr r l' hl
        have h1 := (hr x _ hx).2
        obtain ⟨hlt, _, g, o, hk, _⟩ := hh.ok k _ hf
        refine ⟨?_, fun y hy => ?_⟩
        · simp only [List.map_cons, ih.1, h1]
          simp only [cell_val, C.val, hk, base, Nat.zero_mul, Nat.add_zero]
        · rcases List.mem_cons.1 hy with rfl | hy
          · exact hlt
          · exact ih.2 y hy
      · cases h
    · cases h

theorem rdInts_run (hr : Reads ρ nx rd a) : ∀ (xs : List Operand) (l : List (IntKind × Int)), rdInts rd xs = some l → xs.map a.eval = l.map fun x => .int x.1 x.2
  | [], l, h => by simp only [rdInts, Option.some.injEq] at h; subst h; rfl
  | x :: r, l, h => by
    simp only [rdInts] at h
    split at h
    · rename_i v l' hx hl
      cases hv : v.int? with
      | none => simp [hv] at h
      | some p =>
        obtain ⟨k, n⟩ := p
        simp [hv] at h
        subst h
        have h1 := (hr x _ hx).2
        rw [V.int?_eq hv] at h1
        simp only [List.map_cons, rdInts_run hr r l' hl, h1, vi_val]
    · cases h

theorem minI_run : ∀ (l : List (IntKind × Int)) (k : IntKind) (n : Int) (v : V), minI k n l = some v →
    ((l.map fun x => Value.int x.1 x.2).foldlM Builtin.min2 (.int k n)).run P w = .ok (v.val ρ) w ∧ ∀ m, v.lt m
  | [], k, n, v, h => by simp only [minI, Option.some.injEq] at h; subst h; exact ⟨rfl, fun _ => trivial⟩
  | (k', b) :: r, k, n, v, h => by
    simp only [minI] at h
    split at h
    · rename_i hk
      subst hk
      have ih := minI_run r k _ v h
      refine ⟨?_, ih.2⟩
      simp only [List.map_cons, List.foldlM_cons, Builtin.min2, Sem.run_bind, Sem.run_pure, Result.andThen_ok]
      exact ih.1
    · cases h

theorem maxI_run : ∀ (l : List (IntKind × Int)) (k : IntKind) (n : Int) (v : V), maxI k n l = some v →
    ((l.map fun x => Value.int x.1 x.2).foldlM Builtin.max2 (.int k n)).run P w = .ok (v.val ρ) w ∧ ∀ m, v.lt m
  | [], k, n, v, h => by simp only [maxI, Option.some.injEq] at h; subst h; exact ⟨rfl, fun _ => trivial⟩
  | (k', b) :: r, k, n, v, h => by
    simp only [maxI] at h
    split at h
    · rename_i hk
      subst hk
      have ih := maxI_run r k _ v h
      refine ⟨?_, ih.2⟩
      simp only [List.map_cons, List.foldlM_cons, Builtin.max2, Sem.run_bind, Sem.run_pure, Result.andThen_ok]
      exact ih.1
    · cases h

theorem convV_run {src dst : TypeId} {v : V} {ob : Prop} {u : V} (h : convV P src dst v = some (ob, u)) (ho : ob) :
    (convert src dst (v.val ρ)).run P w = .ok (u.val ρ) w ∧ ∀ n, u.lt n := by
  unfold convV at h
  split at h
  · rename_i hs hd hv
    cases h
    rw [V.int?_eq hv]
    refine ⟨?_, fun _ => trivial⟩
    simp [convert, run_underlying hs, run_underlying hd, Conv.intToInt]
  · rename_i hs hd hv
    cases h
    rw [V.int?_eq hv]
    refine ⟨?_, fun _ => trivial⟩
    simp [convert, run_underlying hs, run_underlying hd, Conv.intToFloat]
  · rename_i s b hs hd hv
    cases h
    rw [V.flt?_eq hv]
    refine ⟨?_, fun _ => trivial⟩
    simp only [vf_val, convert, Sem.run_bind, run_underlying hs, run_underlying hd, Result.andThen_ok, Conv.floatToInt]
    unfold f2iOk at ho
    split at ho
    · rename_i n hi
      have ho := of_decide_eq_true ho
      simp [hi, ho, f2i]
    · cases ho
  · cases h

/-- **What an operation that leaves the world alone yields.** -/
theorem stepV0_run {o : Oper} {ob : Prop} {v : V} (hh : HRel ρ B hp nx w) (hr : Reads ρ nx rd a) (h : stepV0 P o.op rd hp = some (ob, v)) (ho : ob) :
    (execOp a.eval o).run P w = .ok (.value (v.val ρ)) w ∧ v.lt nx := by
  unfold stepV0 at h
  unfold execOp
  split at h <;> rename_i hop <;> simp only [hop]
  · -- move
    rename_i x
    cases hx : rd x with
    | none => simp [hx] at h
    | some u => simp [hx] at h; obtain ⟨_, rfl⟩ := h; have := hr _ _ hx; simp [this]
  · rename_i x
    cases hx : rd x with
    | none => simp [hx] at h
    | some u => simp [hx] at h; obtain ⟨_, rfl⟩ := h; have := hr _ _ hx; simp [this]
  · -- pick
    rename_i c x y
    cases hc : rd c with
    | none => simp [hc] at h
    | some cv =>
      cases hb : cv.bool? with
      | none => simp [hc, hb] at h
      | some b =>
        have h1 := hr _ _ hc
        rw [V.bool?_eq hb] at h1
        cases b
        · simp only [hc, hb, Option.bind_some] at h
          cases hx : rd y with
          | none => simp [hx] at h
          | some u => simp [hx] at h; obtain ⟨_, rfl⟩ := h; have := hr _ _ hx; simp [h1.2, asBool, this]
        · simp only [hc, hb, Option.bind_some] at h
          cases hx : rd x with
          | none => simp [hx] at h
          | some u => simp [hx] at h; obtain ⟨_, rfl⟩ := h; have := hr _ _ hx; simp [h1.2, asBool, this]
  · -- binOp
    rename_i op t x y yt
    split at h
    · rename_i u u' hx hy
      have h1 := hr _ _ hx
      have h2 := hr _ _ hy
      split at h
      · rename_i k n k' n' hu hu'
        rw [V.int?_eq hu] at h1
        rw [V.int?_eq hu'] at h2
        have := run_intBin (P := P) w (t := t) h ho ρ
        refine ⟨?_, this.2 _⟩
        simp only [h1.2, h2.2, vi_val, Sem.run_bind]
        have hg : (eqGuard op t x y (Value.int k n) (Value.int k' n')).run P w = .ok () w := by
          cases op <;> simp [eqGuard]
        simp [hg, this.1]
      · split at h
        · rename_i b b' hu hu'
          rw [V.bool?_eq hu] at h1
          rw [V.bool?_eq hu'] at h2
          split at h
          · rename_i ht
            have := run_boolBin (P := P) w (t := t) h ht ρ
            refine ⟨?_, this.2 _⟩
            simp only [h1.2, h2.2, vb_val, Sem.run_bind]
            have hg : (eqGuard op t x y (Value.bool b) (Value.bool b')).run P w = .ok () w := by
              cases op <;> simp [eqGuard]
            simp [hg, this.1]
          · cases h
        · split at h
          · rename_i b b' hu hu'
            rw [V.str?_eq hu] at h1
            rw [V.str?_eq hu'] at h2
            have := run_strBin (P := P) w (t := t) h ρ
            refine ⟨?_, this.2 _⟩
            simp only [h1.2, h2.2, vs_val, Sem.run_bind]
            have hg : (eqGuard op t x y (Value.string b) (Value.string b')).run P w = .ok () w := by
              cases op <;> simp [eqGuard]
            simp [hg, this.1]
          · split at h
            · rename_i k n k' n' hu hu'
              rw [V.flt?_eq hu] at h1
              rw [V.flt?_eq hu'] at h2
              have := run_fltBin (P := P) w (t := t) h ρ
              refine ⟨?_, this.2 _⟩
              simp only [h1.2, h2.2, vf_val, Sem.run_bind]
              have hg : (eqGuard op t x y (Value.float k n) (Value.float k' n')).run P w = .ok () w := by
                cases op <;> simp [eqGuard]
              simp [hg, this.1]
            · split at h
              · rename_i xs ys hxs hys hgt
                rw [V.agg?_eq hxs] at h1
                rw [V.agg?_eq hys] at h2
                have hg : (eqGuard op t x y ((V.w (.a xs)).val ρ) ((V.w (.a ys)).val ρ)).run P w = .ok () w := by
                  rw [agg_val, agg_val]
                  exact run_eqGuard_agg w op t x y _ _ hgt
                split at h
                · cases he : eqV P 16 t (.w (.a xs)) (.w (.a ys)) with
                  | none => simp [he] at h
                  | some b =>
                    simp [he] at h
                    obtain ⟨_, rfl⟩ := h
                    refine ⟨?_, trivial⟩
                    have := eqV_run (ρ := ρ) (w := w) 9984 16 t _ _ b he h1.1 h2.1
                    simp only [h1.2, h2.2, Sem.run_bind, hg, Result.andThen_ok]
                    rw [agg_val, agg_val] at this ⊢
                    simp only [run_eql_struct, this, Result.andThen_ok]
                    rfl
                · cases he : eqV P 16 t (.w (.a xs)) (.w (.a ys)) with
                  | none => simp [he] at h
                  | some b =>
                    simp [he] at h
                    obtain ⟨_, rfl⟩ := h
                    refine ⟨?_, trivial⟩
                    have := eqV_run (ρ := ρ) (w := w) 9984 16 t _ _ b he h1.1 h2.1
                    simp only [h1.2, h2.2, Sem.run_bind, hg, Result.andThen_ok]
                    rw [agg_val, agg_val] at this ⊢
                    simp only [run_neq_struct, this, Result.andThen_ok]
                    rfl
                · cases h
              · cases h
    · cases h
  · -- unOp
    rename_i op t x
    split at h
    · rename_i u hx
      have h1 := hr _ _ hx
      cases hb : u.bool? with
      | none => simp [hb] at h
      | some b =>
        simp [hb] at h
        obtain ⟨_, rfl⟩ := h
        rw [V.bool?_eq hb] at h1
        simp [h1.2, Op.unary]
        trivial
    · rename_i u hx
      have h1 := hr _ _ hx
      cases hb : u.int? with
      | none => simp [hb] at h
      | some p =>
        obtain ⟨k, n⟩ := p
        simp [hb] at h
        obtain ⟨_, rfl⟩ := h
        rw [V.int?_eq hb] at h1
        simp [h1.2, Op.unary, Op.intArith]
        trivial
    · cases h
  · -- convert
    rename_i src dst x
    cases hx : rd x with
    | none => simp [hx] at h
    | some u =>
      simp only [hx, Option.bind_some] at h
      have := convV_run (w := w) (ρ := ρ) h ho
      refine ⟨?_, this.2 _⟩
      simp [(hr _ _ hx).2, this.1]
  · -- extract
    rename_i t i
    split at h
    · rename_i l hx
      have h1 := hr _ _ hx
      cases hi : l[i]? with
      | none => simp [hi] at h
      | some u =>
        simp [hi] at h
        obtain ⟨_, rfl⟩ := h
        refine ⟨?_, h1.1 u (List.mem_of_getElem? hi)⟩
        simp [h1.2, V.val, Instr.extract, hi]
    · cases h
  · -- field
    rename_i t x f
    split at h
    · rename_i fs cs hu hx
      cases hrx : rd x with
      | none => simp [hrx] at hx
      | some u =>
        simp only [hrx, Option.bind_some] at hx
        have h1 := hr _ _ hrx
        rw [V.agg?_eq hx] at h1
        split at h
        · rename_i g hg
          cases hpw : partW P g.type cs g.offset with
          | none => simp [hpw] at h
          | some u2 =>
            simp [hpw] at h
            obtain ⟨_, rfl⟩ := h
            have hp2 := partW_run (w := w) (ρ := ρ) hpw h1.1
            refine ⟨?_, hp2.2⟩
            simp only [h1.2, agg_val, Instr.field, Sem.run_bind, run_underlying hu, Result.andThen_ok]
            rw [Array.getElem?_toList] at hg
            simp [hg, asAgg, hp2.1]
        · cases h
    · cases h
  · -- index
    rename_i t x i
    split at h
    · -- a string
      rename_i s0 k n hx hu hi
      cases hrx : rd x with
      | none => simp [hrx] at hx
      | some u =>
        cases hri : rd i with
        | none => simp [hri] at hi
        | some ui =>
          simp only [hrx, Option.bind_some] at hx
          simp only [hri, Option.bind_some] at hi
          have h1 := hr _ _ hrx
          have h2 := hr _ _ hri
          rw [V.str?_eq hx] at h1
          rw [V.int?_eq hi] at h2
          cases h
          refine ⟨?_, trivial⟩
          have hlt : n.toNat < s0.size := by omega
          simp only [h1.2, h2.2, vs_val, vi_val, Instr.index, asIntOf, Sem.run_bind, Sem.run_pure, run_underlying hu, Result.andThen_ok]
          rw [if_pos ho.1]
          have hg : s0[n.toNat]? = some (s0[n.toNat]) := by simp [hlt]
          simp only [hg, Sem.run_pure, Result.andThen_ok]
          have hd : s0.data.getD n.toNat 0 = s0[n.toNat] := by
            have : n.toNat < s0.data.size := hlt
            rw [Array.getD_eq_getD_getElem?, Array.getElem?_eq_getElem this]
            rfl
          rw [hd]
    · cases h
    split at h
    · rename_i len elem cs k n hu hx hi
      cases hrx : rd x with
      | none => simp [hrx] at hx
      | some u =>
        cases hri : rd i with
        | none => simp [hri] at hi
        | some ui =>
          simp only [hrx, Option.bind_some] at hx
          simp only [hri, Option.bind_some] at hi
          have h1 := hr _ _ hrx
          have h2 := hr _ _ hri
          rw [V.agg?_eq hx] at h1
          rw [V.int?_eq hi] at h2
          split at h
          · rename_i size hs
            cases hpw : partW P elem cs (n.toNat * size) with
            | none => simp [hpw] at h
            | some u2 =>
              simp only [hpw, Option.map_some, Option.some.injEq, Prod.mk.injEq] at h
              obtain ⟨rfl, rfl⟩ := h
              have hp2 := partW_run (w := w) (ρ := ρ) hpw h1.1
              refine ⟨?_, hp2.2⟩
              simp only [h1.2, h2.2, agg_val, vi_val, Instr.index, asIntOf, Sem.run_bind, Sem.run_pure, run_underlying hu, Result.andThen_ok, ho, and_self, if_true, run_szT w hs]
              simp [hp2.1]
          · cases h
    · cases h
  · -- nilCheck
    rename_i x
    split at h
    · rename_i k i e j hx
      cases h
      have h1 := hr _ _ hx
      refine ⟨?_, h1.1⟩
      simp [h1.2, C.val]
    · cases h
  · -- fieldAddr
    rename_i s x f
    split at h
    · rename_i fs k i e j hu hx
      have h1 := hr _ _ hx
      split at h
      · rename_i g hg
        split at h
        · rename_i n hs
          cases h
          refine ⟨?_, h1.1⟩
          rw [Array.getElem?_toList] at hg
          simp only [h1.2, cell_val, C.val, Instr.fieldAt, Sem.run_bind, run_underlying hu, Result.andThen_ok, hg, Instr.sureAddr, Sem.run_pure, fieldPlace, run_szT w hs]
          simp [add_at, Nat.add_assoc]
        · cases h
      · cases h
    · cases h
  · -- indexAddr
    rename_i t x ix
    split at h
    · rename_i len elem k i e j kk n hu hx hix
      cases hri : rd ix with
      | none => simp [hri] at hix
      | some ui =>
        simp only [hri, Option.bind_some] at hix
        have h1 := hr _ _ hx
        have h2 := hr _ _ hri
        rw [V.int?_eq hix] at h2
        split at h
        · rename_i size hs
          cases h
          refine ⟨?_, h1.1⟩
          simp only [h1.2, h2.2, cell_val, vi_val, C.val, Instr.indexAt, asIntOf, Sem.run_bind, Sem.run_pure, run_underlying hu, Result.andThen_ok, Instr.sureAddr]
          simp [ho, run_szT w hs, add_at, Nat.add_assoc]
        · cases h
    · rename_i elem k kk n hu hx hix
      cases hri : rd ix with
      | none => simp [hri] at hix
      | some ui =>
        simp only [hri, Option.bind_some] at hix
        have h1 := hr _ _ hx
        have h2 := hr _ _ hri
        rw [V.int?_eq hix] at h2
        split at h
        · rename_i c size hc hs
          split at h
          · rename_i hsz
            cases h
            refine ⟨?_, h1.1⟩
            cases hf : find hp k with
            | none => simp [hf] at hc
            | some o' =>
              simp only [hf, Option.bind_some] at hc
              have hrow : ∃ b off cap, ρ k = .slice (some ⟨b, off, none⟩) c.n cap := by
                have hok := (hh.ok k o' hf).2.2
                have hn : 0 < c.n := by omega
                cases o' with
                | ext c' =>
                  simp [O.cont] at hc; subst hc
                  obtain ⟨⟨a', cap, hs', _, hx'⟩, _⟩ := hok
                  obtain ⟨b, off, rfl, _⟩ := hx' hn
                  exact ⟨b, off, cap, hs'⟩
                | view r c' _ =>
                  simp [O.cont] at hc; subst hc
                  obtain ⟨⟨a', cap, hs', _, hx'⟩, _⟩ := hok
                  obtain ⟨b, off, rfl, _⟩ := hx' hn
                  exact ⟨b, off, cap, hs'⟩
                | rrow c' =>
                  simp [O.cont] at hc; subst hc
                  obtain ⟨⟨a', cap, hs', _, hx'⟩, _⟩ := hok
                  obtain ⟨b, off, rfl, _⟩ := hx' hn
                  exact ⟨b, off, cap, hs'⟩
                | row ty c' =>
                  simp [O.cont] at hc; subst hc
                  rcases hok.1.2 with ⟨_, hn'⟩ | ⟨g, cap, cur, h3, _⟩
                  · omega
                  · exact ⟨g, 0, cap, h3⟩
                | _ => simp [O.cont] at hc
              obtain ⟨b, off, cap, hrow⟩ := hrow
              simp only [h1.2, h2.2, cell_val, vi_val, C.val, hrow, Instr.indexAt, asIntOf, Sem.run_bind, Sem.run_pure, run_underlying hu, Result.andThen_ok, base]
              simp [ho, run_szT w hs, add_at, hsz]
          · cases h
        · cases h
    · cases h
  · -- load
    rename_i t x
    split at h
    · rename_i k i e j hx
      have h1 := hr _ _ hx
      split at h
      · rename_i o' hf
        have := rdObj_run hh hf h ho
        refine ⟨?_, this.2⟩
        simp [h1.2, C.val, Instr.loadAt, Instr.sureAddr, this.1]
      · cases h
    · cases h
  · -- build
    rename_i t parts
    split at h
    · rename_i l hl
      cases hb : buildC P t l with
      | none => simp [hb] at h
      | some cs =>
        simp [hb] at h
        obtain ⟨_, rfl⟩ := h
        have hps := rdParts_run hr parts.toList l hl
        have hbr := build_run hh hb hps.2
        refine ⟨?_, hbr.2⟩
        have he : (parts.map fun (i, x) => (i, a.eval x)) = (l.map fun x => (x.1, x.2.val ρ)).toArray := by
          rw [← hps.1]
          apply Array.ext'
          simp
        simp only [he, Sem.run_bind, hbr.1, Result.andThen_ok, Sem.run_pure, agg_val]
    · cases h
  · -- makeFunc
    rename_i f first captured
    split at h
    · rename_i hs hfirst hb
      cases h
      have := rdBoxes_run hh hr captured.toList hs hb
      refine ⟨?_, this.2⟩
      have e1 : first = #[] := by apply Array.ext'; simpa using hfirst
      have e2 : captured.map a.eval = (hs.map ρ).toArray := by
        rw [← this.1]; apply Array.ext'; simp
      simp [Instr.makeFunc, e1, e2, C.val]
    · rename_i x hfirst hb
      split at h
      · rename_i hs hb1
        cases h
        have h1 := rdBoxes_run hh hr [x] hs hb1
        have h0 := rdBoxes_run hh hr captured.toList [] hb
        refine ⟨?_, h1.2⟩
        have e1 : first.map a.eval = (hs.map ρ).toArray := by
          rw [← h1.1]; apply Array.ext'; simp [hfirst]
        have e2 : captured.map a.eval = #[] := by
          apply Array.ext'; simpa using h0.1
        simp [Instr.makeFunc, e1, e2, C.val]
      · cases h
    · cases h
  · -- call
    rename_i c
    split at h
    · -- len
      rename_i x t hcal hargs hts
      have e1 : c.args = #[x] := by apply Array.ext'; simpa using hargs
      have e2 : c.argTypes = #[t] := by apply Array.ext'; simpa using hts
      simp only [resolve, hcal, e1, e2, Sem.run_bind, Sem.run_pure, Result.andThen_ok, invoke, builtin]
      split at h
      · rename_i el k hu hx
        have h1 := hr _ _ hx
        cases hc : (find hp k).bind O.cont with
        | none => simp [hc] at h
        | some c' =>
          simp [hc] at h
          obtain ⟨_, rfl⟩ := h
          cases hf : find hp k with
          | none => simp [hf] at hc
          | some o' =>
            simp only [hf, Option.bind_some] at hc
            have hrow : ∃ a' cap, ρ k = .slice a' c'.n cap := by
              have hok := (hh.ok k o' hf).2.2
              cases o' with
              | ext c2 => simp [O.cont] at hc; subst hc; obtain ⟨⟨a', cap, hs', _⟩, _⟩ := hok; exact ⟨a', cap, hs'⟩
              | view r c2 _ => simp [O.cont] at hc; subst hc; obtain ⟨⟨a', cap, hs', _⟩, _⟩ := hok; exact ⟨a', cap, hs'⟩
              | rrow c2 => simp [O.cont] at hc; subst hc; obtain ⟨⟨a', cap, hs', _⟩, _⟩ := hok; exact ⟨a', cap, hs'⟩
              | row ty c2 =>
                simp [O.cont] at hc; subst hc
                rcases hok.1.2 with ⟨h3, hn'⟩ | ⟨g, cap, cur, h3, _⟩
                · rw [hn']; exact ⟨_, _, h3⟩
                · exact ⟨_, _, h3⟩
              | _ => simp [O.cont] at hc
            obtain ⟨a', cap, hrow⟩ := hrow
            refine ⟨?_, trivial⟩
            simp [h1.2, C.val, hrow, Builtin.len_, run_underlying hu, goInt]
      · rename_i u _ hu hx
        split at h
        · rename_i hn
          cases h
          have h1 := hr _ _ hx
          refine ⟨?_, trivial⟩
          have hval : u.val ρ = .slice none 0 0 := by
            unfold V.nils? at hn
            split at hn
            · rfl
            · cases hn
          simp [h1.2, hval, Builtin.len_, run_underlying hu, goInt]
        · cases h
      · rename_i u hu hx
        have h1 := hr _ _ hx
        cases hs : u.str? with
        | none => simp [hs] at h
        | some s =>
          simp [hs] at h
          obtain ⟨_, rfl⟩ := h
          rw [V.str?_eq hs] at h1
          refine ⟨?_, trivial⟩
          simp [h1.2, Builtin.len_, run_underlying hu, goInt]
      · rename_i n el u hu hx
        cases h
        refine ⟨?_, trivial⟩
        simp [Builtin.len_, run_underlying hu, goInt]
      · cases h
    · -- min
      rename_i hcal
      split at h
      · rename_i k n r hl
        cases hm : minI k n r with
        | none => simp [hm] at h
        | some u =>
          simp [hm] at h
          obtain ⟨_, rfl⟩ := h
          have e := rdInts_run hr _ _ hl
          have hrun := minI_run (P := P) (ρ := ρ) (w := w) r k n u hm
          refine ⟨?_, hrun.2 _⟩
          have e1 : (c.args.map a.eval).toList = Value.int k n :: r.map fun x => Value.int x.1 x.2 := by simpa using e
          simp only [resolve, hcal, Sem.run_bind, Sem.run_pure, Result.andThen_ok, invoke, builtin, Builtin.min_, e1, hrun.1]
      · cases h
    · -- max
      rename_i hcal
      split at h
      · rename_i k n r hl
        cases hm : maxI k n r with
        | none => simp [hm] at h
        | some u =>
          simp [hm] at h
          obtain ⟨_, rfl⟩ := h
          have e := rdInts_run hr _ _ hl
          have hrun := maxI_run (P := P) (ρ := ρ) (w := w) r k n u hm
          refine ⟨?_, hrun.2 _⟩
          have e1 : (c.args.map a.eval).toList = Value.int k n :: r.map fun x => Value.int x.1 x.2 := by simpa using e
          simp only [resolve, hcal, Sem.run_bind, Sem.run_pure, Result.andThen_ok, invoke, builtin, Builtin.max_, e1, hrun.1]
      · cases h
    · cases h
  · cases h

theorem nan_spec (hh : HRel ρ B hp nx w) {v : V} {k : FloatKind} (h : v.nan? hp = some k) : ∃ n, v.val ρ = .float k n ∧ (k.decode n).isNaN = true := by
  unfold V.nan? at h
  split at h
  · split at h
    · rename_i hf
      cases h
      exact (hh.ok _ _ hf).2.2
    · cases h
  · cases h

theorem sameK_eq {k k' : FloatKind} (h : sameK k k' = true) : k = k' := by cases k <;> cases k' <;> simp [sameK] at h <;> rfl

theorem order_nan {k : FloatKind} {m n : Nat} (h : (k.decode m).isNaN = true ∨ (k.decode n).isNaN = true) : k.format.order m n = none := by
  unfold Ieee.Format.order
  unfold FloatKind.decode at h
  rcases h with h | h
  · cases hm : k.format.read m <;> simp [hm, Ieee.Datum.isNaN] at h
    simp [Ieee.Datum.order]
  · cases hn : k.format.read n <;> simp [hn, Ieee.Datum.isNaN] at h
    cases k.format.read m <;> simp [Ieee.Datum.order]

theorem nanPair_spec (hh : HRel ρ B hp nx w) {u v : V} (h : nanPair hp u v = true) : ∃ k m n, u.val ρ = .float k m ∧ v.val ρ = .float k n ∧ k.format.order m n = none := by
  unfold nanPair at h
  split at h
  · rename_i k k' hu hv
    obtain ⟨m, h1, h2⟩ := nan_spec hh hu
    obtain ⟨n, h3, h4⟩ := nan_spec hh hv
    have := sameK_eq h
    subst this
    exact ⟨k, m, n, h1, h3, order_nan (.inl h2)⟩
  · rename_i k hu hv
    obtain ⟨m, h1, h2⟩ := nan_spec hh hu
    split at h
    · rename_i k' n hf
      have := sameK_eq h
      subst this
      exact ⟨k, m, n, h1, by rw [V.flt?_eq hf]; rfl, order_nan (.inl h2)⟩
    · cases h
  · rename_i k hu hv
    obtain ⟨m, h1, h2⟩ := nan_spec hh hv
    split at h
    · rename_i k' n hf
      have := sameK_eq h
      subst this
      exact ⟨k', n, m, by rw [V.flt?_eq hf]; rfl, h1, order_nan (.inr h2)⟩
    · cases h
  · cases h

theorem bounds_str {len : Nat} {l m : Option Int} {k k' : IntKind} (h0 : 0 ≤ l.getD 0) (h1 : l.getD 0 ≤ m.getD (len : Int)) (h2 : m.getD (len : Int) ≤ (len : Int)) :
    (Instr.sliceBounds false len len (l.map (Value.int k ·)) (m.map (Value.int k' ·)) none).run P w = .ok ((l.getD 0).toNat, (m.getD (len : Int)).toNat, len) w := by
  cases l with
  | none =>
    cases m with
    | none => simp [Instr.sliceBounds]
    | some m =>
      simp only [Option.getD_none, Option.getD_some] at h1 h2
      simp [Instr.sliceBounds, Instr.sliceBound, asIntOf, h1, h2]
  | some l =>
    simp only [Option.getD_some] at h0 h1
    cases m with
    | none =>
      simp only [Option.getD_none] at h1
      simp [Instr.sliceBounds, Instr.sliceBound, asIntOf, h0, h1]
    | some m =>
      simp only [Option.getD_some] at h1 h2
      have a1 : 0 ≤ m ∧ m ≤ (len : Int) := by omega
      have a2 : 0 ≤ l ∧ l ≤ (m.toNat : Int) := by omega
      simp only [Instr.sliceBounds, Instr.sliceBound, asIntOf, Option.map_some, Sem.run_bind, Sem.run_pure, Result.andThen_ok, if_pos a1, if_pos a2, Option.isSome_none, Bool.false_eq_true, if_false, Option.getD_some]

theorem rdBound_run (hr : Reads ρ nx rd a) {x : Option Operand} {l : Option Int} (h : rdBound rd x = some l) : ∃ k, x.map a.eval = l.map (Value.int k ·) := by
  cases x with
  | none => simp only [rdBound, Option.some.injEq] at h; subst h; exact ⟨.i64, rfl⟩
  | some x =>
    simp only [rdBound] at h
    split at h
    · rename_i k n hx
      cases h
      cases hrx : rd x with
      | none => simp [hrx] at hx
      | some u =>
        simp only [hrx, Option.bind_some] at hx
        have := hr _ _ hrx
        rw [V.int?_eq hx] at this
        exact ⟨k, by simp [this.2]⟩
    · cases h

/-- A slice, and where it lies. -/
theorem cont_slice {h : Nat} {o : O} {c : Cont} (hh : HRel ρ B hp nx w) (hf : find hp h = some o) (hc : o.cont = some c) : h < nx ∧ ∃ a cap, ρ h = .slice a c.n cap ∧ (0 < c.n → ∃ b off, a = some ⟨b, off, none⟩) := by
  obtain ⟨hlt, _, hok⟩ := hh.ok h o hf
  refine ⟨hlt, ?_⟩
  cases o with
  | ext c' =>
    simp [O.cont] at hc; subst hc
    obtain ⟨⟨a, cap, h1, _, h3⟩, _⟩ := hok
    exact ⟨a, cap, h1, fun h => by obtain ⟨b, off, h4, _⟩ := h3 h; exact ⟨b, off, h4⟩⟩
  | view r c' _ =>
    simp [O.cont] at hc; subst hc
    obtain ⟨⟨a, cap, h1, _, h3⟩, _⟩ := hok
    exact ⟨a, cap, h1, fun h => by obtain ⟨b, off, h4, _⟩ := h3 h; exact ⟨b, off, h4⟩⟩
  | rrow c' =>
    simp [O.cont] at hc; subst hc
    obtain ⟨⟨a, cap, h1, _, h3⟩, _⟩ := hok
    exact ⟨a, cap, h1, fun h => by obtain ⟨b, off, h4, _⟩ := h3 h; exact ⟨b, off, h4⟩⟩
  | row ty c' =>
    simp [O.cont] at hc; subst hc
    rcases hok.1.2 with ⟨h1, hn⟩ | ⟨g, cap, cur, h1, _⟩
    · exact ⟨none, 0, by rw [hn]; exact h1, fun h => by omega⟩
    · exact ⟨_, cap, h1, fun _ => ⟨g, 0, rfl⟩⟩
  | _ => simp [O.cont] at hc

/-- **What an operation of the second table yields.** -/
theorem stepW_run {o : Oper} {ob : Prop} {v : V} (hh : HRel ρ B hp nx w) (hr : Reads ρ nx rd a) (h : stepW P o.op rd hp = some (ob, v)) (ho : ob) :
    (execOp a.eval o).run P w = .ok (.value (v.val ρ)) w ∧ v.lt nx := by
  unfold stepW at h
  unfold execOp
  split at h <;> rename_i hop <;> simp only [hop]
  · -- binOp
    rename_i op t x y yt
    split at h
    · rename_i u u' hx hy
      have h1 := hr _ _ hx
      have h2 := hr _ _ hy
      split at h
      · rename_i b b' hu hu'
        rw [V.str?_eq hu] at h1
        rw [V.str?_eq hu'] at h2
        split at h
        · cases h
          have hm : ¬ (((b.size + b'.size : Nat) : Int) > IntKind.i64.max) := by
            have : IntKind.i64.max = 9223372036854775807 := rfl
            rw [this]; omega
          refine ⟨?_, trivial⟩
          have hr2 : (binOp .add t (.string b) (.string b')).run P w = .ok (.string (b ++ b')) w := by
            simp only [binOp, Op.stringOp]
            rw [if_neg hm]
            rfl
          simp only [h1.2, h2.2, vs_val, Sem.run_bind]
          have hg : (eqGuard BinOp.add t x y (Value.string b) (Value.string b')).run P w = .ok () w := by simp [eqGuard]
          simp [hg, hr2]
        · cases h
      · split at h
        · rename_i hnp
          obtain ⟨k, m, n, e1, e2, e3⟩ := nanPair_spec hh hnp
          have hg : (eqGuard op t x y (Value.float k m) (Value.float k n)).run P w = .ok () w := by
            cases op <;> simp [eqGuard]
          have hres : (binOp op t (.float k m) (.float k n)).run P w = .ok (v.val ρ) w ∧ v.lt nx := by
            unfold nanBin at h
            cases op <;> simp only [Option.some.injEq, Prod.mk.injEq, reduceCtorEq] at h <;> obtain ⟨_, rfl⟩ := h <;> refine ⟨?_, trivial⟩ <;>
              simp [binOp, Op.floatCmp, e3, vb, V.val, W.val, C.val, D.val]
          refine ⟨?_, hres.2⟩
          simp only [h1.2, h2.2, e1, e2, Sem.run_bind]
          simp [hg, hres.1]
        · cases h
    · cases h
  · -- a string cut
    rename_i t x lo hi
    split at h
    · rename_i s l m hu hx hl hm
      cases h
      cases hrx : rd x with
      | none => simp [hrx] at hx
      | some u =>
        simp only [hrx, Option.bind_some] at hx
        have h1 := hr _ _ hrx
        rw [V.str?_eq hx] at h1
        obtain ⟨k, hk⟩ := rdBound_run hr hl
        obtain ⟨k', hk'⟩ := rdBound_run hr hm
        refine ⟨?_, trivial⟩
        have hb := bounds_str (P := P) (w := w) (k := k) (k' := k') ho.1 ho.2.1 ho.2.2
        simp only [h1.2, vs_val, Instr.sliceAt, Instr.slice, Sem.run_bind, run_underlying hu, Result.andThen_ok, hk, hk', Option.map_none, Option.isSome_none, Bool.false_eq_true, if_false, Sem.run_pure]
        simp [hb]
    · cases h
  · -- an array's element
    rename_i t x i
    split at h
    · rename_i k E r hx
      split at h
      · rename_i len elem kk n hu hi
        split at h
        · rename_i hs hE hag
          cases h
          cases hri : rd i with
          | none => simp [hri] at hi
          | some ui =>
            simp only [hri, Option.bind_some] at hi
            have h1 := hr _ _ hx
            have h2 := hr _ _ hri
            rw [V.int?_eq hi] at h2
            have hE := Nat.eq_of_beq_eq_true hE
            subst hE
            refine ⟨?_, trivial⟩
            have hlt : n.toNat < len := by omega
            have e1 : a.eval x = .agg ((frD k len r).map D.val).toArray := h1.2
            have e2 : a.eval i = .int kk n := h2.2
            have hg : ((frD k len r).map D.val)[n.toNat]? = some (.float k (r.getD n.toNat 0)) := by simp [frD, hlt, D.val]
            simp only [e1, e2, Instr.index, asIntOf, Sem.run_bind, Sem.run_pure, run_underlying hu, Result.andThen_ok, ho, and_self, if_true, run_szT w hs]
            simp [part, run_aggT w hag, hg, Nat.mul_one]
        · cases h
      · cases h
    · cases h
  · -- a slice's array
    rename_i arr x
    split at h
    · rename_i n elem k hu hx
      cases hb : (find hp k).bind O.cont with
      | none => simp [hb] at h
      | some c =>
        simp only [hb, Option.some.injEq, Prod.mk.injEq] at h
        obtain ⟨rfl, rfl⟩ := h
        have h1 := hr _ _ hx
        cases hf : find hp k with
        | none => simp [hf] at hb
        | some o =>
          simp only [hf, Option.bind_some] at hb
          obtain ⟨hlt, a2, cap, hs, hat⟩ := cont_slice hh hf hb
          obtain ⟨b, off, rfl⟩ := hat ho.2
          refine ⟨?_, hlt⟩
          have e1 : ¬ c.n < n := by omega
          simp [h1.2, C.val, hs, base, Instr.arrayAt, run_underlying hu, e1]
    · cases h
  · -- nilCheck
    rename_i x
    split at h
    · rename_i k i e j hx
      cases h
      have h1 := hr _ _ hx
      refine ⟨?_, h1.1⟩
      simp [h1.2, C.val]
    · cases h
  · -- fieldAddr
    rename_i s x f
    split at h
    · rename_i fs k i e j hu hx
      have h1 := hr _ _ hx
      split at h
      · rename_i g hg
        split at h
        · rename_i n hs
          cases h
          refine ⟨?_, h1.1⟩
          rw [Array.getElem?_toList] at hg
          simp only [h1.2, cell_val, C.val, Instr.fieldAt, Sem.run_bind, run_underlying hu, Result.andThen_ok, hg, Instr.sureAddr, Sem.run_pure, fieldPlace, run_szT w hs]
          simp [Addr.add, Nat.add_assoc]
        · cases h
      · cases h
    · cases h
  · -- indexAddr
    rename_i t x ix
    split at h
    · rename_i len elem k e kk n hu hx hix
      cases hri : rd ix with
      | none => simp [hri] at hix
      | some ui =>
        simp only [hri, Option.bind_some] at hix
        have h1 := hr _ _ hx
        have h2 := hr _ _ hri
        rw [V.int?_eq hix] at h2
        split at h
        · rename_i size hs
          split at h
          · rename_i he
            have he := Nat.eq_of_beq_eq_true he
            subst he
            cases h
            refine ⟨?_, trivial⟩
            simp only [h1.2, h2.2, cell_val, vi_val, C.val, Instr.indexAt, asIntOf, Sem.run_bind, Sem.run_pure, run_underlying hu, Result.andThen_ok, Instr.sureAddr, ho, and_self, if_true, run_szT w hs]
            simp only [add_at, Nat.zero_mul, Nat.zero_add, Nat.add_zero]
          · cases h
        · cases h
    · rename_i elem k kk n hu hx hix
      cases hri : rd ix with
      | none => simp [hri] at hix
      | some ui =>
        simp only [hri, Option.bind_some] at hix
        have h1 := hr _ _ hx
        have h2 := hr _ _ hri
        rw [V.int?_eq hix] at h2
        split at h
        · rename_i X size hf hs
          split at h
          · rename_i hsz
            have hsz := Nat.eq_of_beq_eq_true hsz
            cases h
            refine ⟨?_, h1.1⟩
            obtain ⟨a', cap, hs', _, hx'⟩ := (hh.ok k _ hf).2.2
            obtain ⟨b, off, rfl, _⟩ := hx' (by omega)
            simp only [h1.2, h2.2, cell_val, vi_val, C.val, hs', Instr.indexAt, asIntOf, Sem.run_bind, Sem.run_pure, run_underlying hu, Result.andThen_ok, base]
            simp [ho, run_szT w hs, Addr.add, hsz]
          · cases h
        · cases h
    · cases h
  · -- load
    rename_i t x
    split at h
    · rename_i k i e j hx
      have h1 := hr _ _ hx
      split at h
      · rename_i c hc
        split at h
        · cases h
        · obtain ⟨hB, hcell⟩ := hh.glob k c hc
          -- the variable as a content that came in
          let ρ1 : Env := fun _ => .slice (some ⟨k, 0, none⟩) c.n c.n
          have hh1 : HRel ρ1 B [(0, .ext c)] 1 w := by
            refine ⟨fun y o hf => ?_, fun y o y' o' b hf hf' hne hb => ?_, hh.glob⟩
            · simp only [find] at hf
              split at hf
              · rename_i e0
                subst e0
                cases hf
                refine ⟨by omega, trivial, ⟨some ⟨k, 0, none⟩, c.n, rfl, ⟨Nat.le_refl _, fun e => by cases e⟩, fun _ => ⟨k, 0, rfl, fun j x hj => by rw [Nat.zero_add]; exact hcell j x hj⟩⟩, ?_⟩
                intro a' n cap hv _
                cases hv
                exact hB
              · cases hf
            · simp only [find] at hf
              split at hf
              · cases hf; cases hb
              · cases hf
          have := rdObj_run (ρ := ρ1) hh1 (h := 0) rfl h ho
          have hv : v.val ρ1 = v.val ρ ∧ v.lt nx := rdObj_ext h
          refine ⟨?_, hv.2⟩
          rw [hv.1] at this
          simp only [h1.2, cell_val, C.val, Instr.loadAt, Instr.sureAddr]
          have e1 : (⟨(base (ρ1 0)).block, (base (ρ1 0)).off + (i * e + j), none⟩ : Addr) = ⟨k, i * e + j, none⟩ := by simp [ρ1, base]
          rw [e1] at this
          simp [this.1]
      · cases h
    · cases h
  · -- len
    rename_i c
    split at h
    · rename_i x t hcal hargs hts
      have e1 : c.args = #[x] := by apply Array.ext'; simpa using hargs
      have e2 : c.argTypes = #[t] := by apply Array.ext'; simpa using hts
      simp only [resolve, hcal, e1, e2, Sem.run_bind, Sem.run_pure, Result.andThen_ok, invoke, builtin]
      split at h
      · rename_i el k hu hx
        have h1 := hr _ _ hx
        split at h
        · rename_i X hf
          cases h
          obtain ⟨a', cap, hs', _⟩ := (hh.ok k _ hf).2.2
          refine ⟨?_, trivial⟩
          simp [h1.2, C.val, hs', Builtin.len_, run_underlying hu, goInt]
        · cases h
      · cases h
    · cases h
  · cases h

/-- **What an operation that leaves the world alone yields.** -/
theorem stepV_run {o : Oper} {ob : Prop} {v : V} (hh : HRel ρ B hp nx w) (hr : Reads ρ nx rd a) (h : stepV P o.op rd hp = some (ob, v)) (ho : ob) :
    (execOp a.eval o).run P w = .ok (.value (v.val ρ)) w ∧ v.lt nx := by
  unfold stepV at h
  split at h
  · rename_i x hx
    cases h
    exact stepV0_run hh hr hx ho
  · exact stepW_run hh hr h ho
end

end Go.Sx
