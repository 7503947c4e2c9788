/- A symbolic executor for the model's code: stores, slices cut, appends, calls, proved. -/
import Derived.Test.YtndhdojnlobloaaSxF
set_option linter.unusedSectionVars false
set_option linter.unusedSimpArgs false
set_option linter.unusedVariables false
open Go.RowKit
namespace Go.Sx

section
variable [Globs] {P : Program} {ρ : Env} {B : Bd} {nx : Nat} {hp : Hp} {w : World} {rd : Operand → Option V} {a : Act}

theorem cell_except {g : Nat} {w' : World} (hw : ∀ k, k < w.heap.size → k ≠ g → w'.heap[k]? = w.heap[k]?) (hg : ¬ B g) {b o : Nat} {v : Value} (hb : B b) (h : w.cell? ⟨b, o, none⟩ = some v) : w'.cell? ⟨b, o, none⟩ = some v := by
  rw [← h]
  exact World.cell?_of_block (hw b (World.block_lt_of_cell? w _ h) (fun e => hg (e ▸ hb)))

theorem isRow_except {g : Nat} {w' : World} (hw : ∀ k, k < w.heap.size → k ≠ g → w'.heap[k]? = w.heap[k]?) (hg : ¬ B g) {v : Value} {c : Cont} (h : IsRow w v c) (ho : OldRow B v) : IsRow w' v c := by
  obtain ⟨a', cap, h1, h2, h3⟩ := h
  refine ⟨a', cap, h1, h2, fun hn => ?_⟩
  obtain ⟨b, off, hab, hx⟩ := h3 hn
  subst hab
  exact ⟨b, off, rfl, fun j x hj => cell_except hw hg (ho _ _ _ h1 hn) (hx j x hj)⟩

/-- A fact on an object that another block's change leaves alone. -/
theorem O.ok_except {h g : Nat} {w' : World} (hw : ∀ k, k < w.heap.size → k ≠ g → w'.heap[k]? = w.heap[k]?) (hg : ¬ B g) : ∀ {o : O}, o.ok ρ B w h → o.blk (ρ h) ≠ some g → (∀ r c fl, o ≠ .view r c fl) → o.ok ρ B w' h
  | .box ty cs, ⟨k, h1, h2, h3⟩, hb, _ => by
    refine ⟨k, h1, h2, ?_⟩
    rw [hw k (Array.getElem?_eq_some_iff.1 h3).1 (fun e => hb (by simp [O.blk, h1, base, e])), h3]
  | .row ty c, hr, hb, _ => by
    refine ⟨⟨hr.1.1, ?_⟩, hr.2⟩
    rcases hr.1.2 with hn | ⟨k, cap, cur, h1, h2, h3, h4⟩
    · exact .inl hn
    · exact .inr ⟨k, cap, cur, h1, h2, by rw [hw k (Array.getElem?_eq_some_iff.1 h3).1 (fun e => hb (by simp [O.blk, Value.ownBlock, h1, e]))]; exact h3, h4⟩
  | .ext c, ⟨⟨a', cap, h1, h2, h3⟩, ho⟩, _, _ => by
    refine ⟨⟨a', cap, h1, h2, fun hn => ?_⟩, ho⟩
    obtain ⟨b, off, hab, hx⟩ := h3 hn
    refine ⟨b, off, hab, fun j x hj => ?_⟩
    subst hab
    have hlt := ho _ _ _ h1 hn
    simp only at hlt
    rw [← hx j x hj]
    have hc := World.block_lt_of_cell? w _ (hx j x hj)
    exact World.cell?_of_block (hw b hc (fun e => hg (e ▸ hlt)))
  | .view r c fl, _, _, hv => absurd rfl (hv r c fl)
  | .dead, _, _, _ => trivial
  | .nan _, h, _, _ => h
  | .ebox cs, ⟨k, o, h1, h2, h3⟩, _, _ => ⟨k, o, h1, h2, fun j c hj => cell_except hw hg h2 (h3 j c hj)⟩
  | .arr ty _ _ _, ⟨k, h1, h2, h3⟩, hb, _ => by
    refine ⟨k, h1, h2, ?_⟩
    rw [hw k (Array.getElem?_eq_some_iff.1 h3).1 (fun e => hb (by simp [O.blk, h1, base, e])), h3]
  | .rrow c, ⟨⟨a', cap, h1, h2, h3⟩, ho⟩, hb, _ => by
    have hsz : ∀ k, k < w.heap.size → k ≠ g → k < w'.heap.size := fun k hk hne => by
      have h0 := hw k hk hne
      have h1 : w.heap[k]? = some w.heap[k] := Array.getElem?_eq_getElem hk
      rw [h1] at h0
      exact (Array.getElem?_eq_some_iff.1 h0).1
    refine ⟨⟨a', cap, h1, h2, fun hn => ?_⟩, fun k hk => ⟨(ho k hk).1, hsz k (ho k hk).2 (fun e => hb (by simp only [O.blk, hk, e]))⟩⟩
    obtain ⟨b, off, hab, hx⟩ := h3 hn
    refine ⟨b, off, hab, fun j x hj => ?_⟩
    subst hab
    have hown : (ρ h).ownBlock = some b := by rw [h1]; rfl
    rw [← hx j x hj]
    have hc := World.block_lt_of_cell? w _ (hx j x hj)
    exact World.cell?_of_block (hw b hc (fun e => hb (by simp only [O.blk, hown, e])))
  | .map _, ⟨k, ents, clock, h1, h2, h3, h4⟩, hb, _ => by
    refine ⟨k, ents, clock, h1, h2, ?_, h4⟩
    rw [hw k (Array.getElem?_eq_some_iff.1 h3).1 (fun e => hb (by simp [O.blk, h1, mapBlk, e])), h3]
  | .xext X, ⟨a', cap, h1, h2, h3⟩, _, _ => by
    refine ⟨a', cap, h1, h2, fun hn => ?_⟩
    obtain ⟨b, off, hab, hB, hx⟩ := h3 hn
    refine ⟨b, off, hab, hB, fun i j hi hj => ?_⟩
    obtain ⟨u, hu, hux⟩ := hx i j hi hj
    refine ⟨u, cell_except hw hg hB hu, ?_⟩
    generalize X.cell i j = nc at *
    cases nc with
    | d x => exact hux
    | r c => exact ⟨isRow_except hw hg hux.1 hux.2, hux.2⟩

theorem noViews_ok {h : Nat} {o : O} (hh : HRel ρ B hp nx w) (hf : find (noViews hp) h = some o) : ∃ o1, find hp h = some o1 ∧ h < nx ∧ o.lt nx ∧ o.ok ρ B w h ∧ (∀ r c fl, o ≠ .view r c fl) ∧ ∀ k, o.blk (ρ h) = some k → o1.blk (ρ h) = some k := by
  rw [find_noViews] at hf
  cases h1 : find hp h with
  | none => simp [h1] at hf
  | some o1 =>
    simp only [h1, Option.map_some, Option.some.injEq] at hf
    have hok := hh.ok h o1 h1
    refine ⟨o1, rfl, hok.1, ?_⟩
    cases o1 with
    | view r c fl => subst hf; exact ⟨trivial, trivial, (fun _ _ _ => by simp), fun k hk => by simp [O.blk] at hk⟩
    | _ => subst hf; exact ⟨hok.2.1, hok.2.2, (fun _ _ _ => by simp), fun k hk => hk⟩

/-- An own block written. -/
theorem HRel.write {w' : World} {h g : Nat} {o o' : O} (hh : HRel ρ B hp nx w) (hf : find hp h = some o) (hb : o.blk (ρ h) = some g)
    (hw : ∀ k, k < w.heap.size → k ≠ g → w'.heap[k]? = w.heap[k]?) (ho' : o'.ok ρ B w' h) (hl : o'.lt nx) (hb' : ∀ k, o'.blk (ρ h) = some k → k = g) :
    HRel ρ B ((h, o') :: noViews hp) nx w' := by
  have hok := hh.ok h o hf
  have hg := O.blk_lt hok.2.2 hb
  refine ⟨?_, ?_, fun y c hy => ⟨(hh.glob y c hy).1, fun j x hj => cell_except hw hg.2 (hh.glob y c hy).1 ((hh.glob y c hy).2 j x hj)⟩⟩
  · intro k o1 hk
    simp only [find] at hk
    split at hk
    · rename_i e
      subst e
      cases hk
      exact ⟨hok.1, hl, ho'⟩
    · rename_i hne
      obtain ⟨o2, h2, h3, h4, h5, h6, h7⟩ := noViews_ok hh hk
      refine ⟨h3, h4, O.ok_except hw hg.2 h5 (fun e => ?_) h6⟩
      exact hh.apart h o k o2 g hf h2 hne hb (h7 g e)
  · intro k o1 k' o1' b hk hk' hne hbk hbk'
    simp only [find] at hk hk'
    split at hk
    · rename_i e
      subst e
      cases hk
      rw [if_neg hne] at hk'
      obtain ⟨o2, h2, _, _, _, _, h7⟩ := noViews_ok hh hk'
      have := hb' b hbk
      subst this
      exact hh.apart h o k' o2 _ hf h2 hne hb (h7 _ hbk')
    · rename_i hne2
      split at hk'
      · rename_i e
        subst e
        cases hk'
        obtain ⟨o2, h2, _, _, _, _, h7⟩ := noViews_ok hh hk
        have := hb' b hbk'
        subst this
        exact hh.apart h o k o2 _ hf h2 hne2 hb (h7 _ hbk)
      · obtain ⟨o2, h2, _, _, _, _, h7⟩ := noViews_ok hh hk
        obtain ⟨o3, h3, _, _, _, _, h8⟩ := noViews_ok hh hk'
        exact hh.apart k o2 k' o3 b h2 h3 hne (h7 b hbk) (h8 b hbk')

theorem below_setRow {w : World} {B : Bd} {g : Nat} {cs : Array Value} (hg : ¬ B g) : Bel B w (w.setRow g cs) :=
  ⟨rfl, rfl, rfl, by simp, fun k hk => setRow_other w g k cs (fun e => hg (e ▸ hk))⟩

theorem storeVar_run {t g : Nat} {off : Nat} {cur : Array Value} {ty : Nat} {v : Value} (hs : szT P t = some v.cells.size) (hg : w.heap[g]? = some (.cells cur ty (0, 0))) (hle : off + v.cells.size ≤ cur.size) (h1 : ∀ x ∈ v.cells.toList, x.oneCell' = true) :
    (storeVar t ⟨g, off, none⟩ v).run P w = .ok () (w.setRow g (cur.toList.take off ++ v.cells.toList ++ cur.toList.drop (off + v.cells.size)).toArray) := by
  have hst := run_storeCells_at P g off ty v.cells.toList 0 cur w hg (by simpa using hle) h1
  simp only [storeVar, Sem.run_bind, run_szT w hs, Result.andThen_ok, ne_eq, not_true_eq_false, if_false]
  simpa using hst

theorem cells_one {u : W} (hh : HRel ρ B hp nx w) (h : (u.cells.all fun c => c.one hp) = true) : ∀ x ∈ (u.cells.map (C.val ρ)), x.oneCell' = true := by
  intro x hx
  obtain ⟨c, hc, rfl⟩ := List.mem_map.1 hx
  exact C.one_val hh (List.all_eq_true.1 h c hc)

theorem storeBox_sound {o : Oper} {t h i e j ty : Nat} {x y : Operand} {u : W} {cs : List C} (hh : HRel ρ B hp nx w) (hr : Reads ρ nx rd a) (ho : o.op = .store t x y)
    (hx : rd x = some (.w (.c (.p h i e j)))) (hy : rd y = some (.w u)) (hone : u.one hp = true) (hs : szT P t = some u.cells.length) (hall : (u.cells.all fun c => c.one hp) = true)
    (hf : find hp h = some (.box ty cs)) (hle : i * e + j + u.cells.length ≤ cs.length) :
    Sound P ρ B nx a w o ⟨True, vu, (h, .box ty (cs.take (i * e + j) ++ u.cells ++ cs.drop (i * e + j + u.cells.length))) :: noViews hp, nx⟩ false := by
  have h1 := hr _ _ hx
  have h2 := hr _ _ hy
  obtain ⟨hlt, hol, g, hk, hBg, hheap⟩ := hh.ok h _ hf
  have hc := W.cells_val hh hone
  have hvs : (u.val ρ).cells.size = u.cells.length := by rw [hc]; simp
  have hst := storeVar_run (P := P) (t := t) (g := g) (off := i * e + j) (v := u.val ρ) (by rw [hvs]; exact hs) hheap (by rw [hvs]; simpa using hle) (by rw [hc]; exact cells_one hh hall)
  refine sound_skip (ρ' := ρ) (w' := w.setRow g (((cs.map (C.val ρ)).toArray.toList.take (i * e + j) ++ (u.val ρ).cells.toList ++ (cs.map (C.val ρ)).toArray.toList.drop (i * e + j + (u.val ρ).cells.size)).toArray)) ?_ rfl ?_
  · unfold execOp
    have h1v : a.eval x = .pointer (some ⟨g, i * e + j, none⟩) := by rw [h1.2]; simp [C.val, hk, base]
    have h2v : a.eval y = u.val ρ := h2.2
    simp only [ho, h1v, h2v, Instr.storeAt, Instr.sureAddr, Sem.run_bind, Sem.run_pure, Result.andThen_ok, hst]
  · refine ⟨Agree.refl _ _, trivial, Nat.le_refl _, ?_, below_setRow hBg, (fun h => by cases h), fun h => by cases h⟩
    refine HRel.write hh hf (g := g) (by simp [O.blk, hk, base]) (fun k _ hne => setRow_other w g k _ hne) ?_ ?_ (by simp [O.blk, hk, base])
    · refine ⟨g, hk, hBg, ?_⟩
      rw [setRow_heap w g _ _ ty (0, 0) hheap, hc]
      simp
    · intro c hcm
      rcases List.mem_append.1 hcm with hcm | hcm
      · rcases List.mem_append.1 hcm with hcm | hcm
        · exact hol c (List.mem_of_mem_take hcm)
        · exact W.cells_lt h2.1 c hcm
      · exact hol c (List.mem_of_mem_drop hcm)

/-- c' is c with the cells ds from cell j of element i on. -/
def UpdOK (c c' : Cont) (i j : Nat) (ds : List D) : Prop :=
  c'.n = c.n ∧ c'.e = c.e ∧ j + ds.length ≤ c.e ∧
    ∀ k m, m < c.e → c'.cell k m = if k = i ∧ j ≤ m ∧ m < j + ds.length then ds.getD (m - j) (.v undef) else c.cell k m

theorem upd_flat {c c' : Cont} {i j : Nat} {ds : List D} (h : UpdOK c c' i j ds) (hi : i < c.n) (he : 0 < c.e) (tail : List Value) :
    ((c.flat.map D.val ++ tail).take (i * c.e + j) ++ ds.map D.val ++ (c.flat.map D.val ++ tail).drop (i * c.e + j + ds.length)).take (c'.n * c'.e) = c'.flat.map D.val := by
  obtain ⟨hn, hee, hle, hcell⟩ := h
  have hin : i * c.e + j + ds.length ≤ c.n * c.e := by
    have : (i + 1) * c.e ≤ c.n * c.e := Nat.mul_le_mul_right _ hi
    rw [Nat.add_mul] at this
    omega
  have hfl := c.flat_length
  have hfl' := c'.flat_length
  apply List.ext_getElem?
  intro t
  by_cases ht : t < c.n * c.e
  · have hq : t / c.e < c.n := Nat.div_lt_of_lt_mul (by rw [Nat.mul_comm]; exact ht)
    have hm := Nat.mod_lt t he
    have hdm : t / c.e * c.e + t % c.e = t := by rw [Nat.mul_comm]; exact Nat.div_add_mod t c.e
    have hc' : c'.flat[t]? = some (c'.cell (t / c.e) (t % c.e)) := by
      have := c'.flat_get (i := t / c.e) (j := t % c.e) (by omega) (by omega)
      rw [hee, hdm] at this
      exact this
    have hc : c.flat[t]? = some (c.cell (t / c.e) (t % c.e)) := by
      have := c.flat_get (i := t / c.e) (j := t % c.e) hq hm
      rw [hdm] at this
      exact this
    rw [List.getElem?_map, hc', hcell _ _ hm]
    rw [List.getElem?_take, if_pos (by rw [hn, hee]; exact ht)]
    have hrange : (t / c.e = i ∧ j ≤ t % c.e ∧ t % c.e < j + ds.length) ↔ (i * c.e + j ≤ t ∧ t < i * c.e + j + ds.length) := by
      constructor
      · rintro ⟨h1, h2, h3⟩
        rw [h1] at hdm
        omega
      · rintro ⟨h1, h2⟩
        have hti : t / c.e = i := by
          apply Nat.div_eq_of_lt_le
          · omega
          · rw [Nat.add_mul]; omega
        rw [hti] at hdm
        exact ⟨hti, by omega, by omega⟩
    by_cases hr : i * c.e + j ≤ t ∧ t < i * c.e + j + ds.length
    · rw [if_pos (hrange.2 hr)]
      obtain ⟨h1, h2, h3⟩ := hrange.2 hr
      have hdm2 : i * c.e + t % c.e = t := by rw [← h1]; exact hdm
      rw [List.append_assoc, List.getElem?_append_right (by simp; omega), List.getElem?_append_left (by simp; omega)]
      simp only [List.length_take, List.length_append, List.length_map]
      have hmin : min (i * c.e + j) (c.flat.length + tail.length) = i * c.e + j := by omega
      rw [hmin, List.getElem?_map]
      have hidx : t - (i * c.e + j) = t % c.e - j := by omega
      have hlt : t % c.e - j < ds.length := by omega
      rw [hidx]
      simp [List.getD, hlt]
    · rw [if_neg (fun h => hr (hrange.1 h))]
      by_cases hlo : t < i * c.e + j
      · rw [List.append_assoc, List.getElem?_append_left (by simp; omega), List.getElem?_take, if_pos hlo, List.getElem?_append_left (by simp; omega), List.getElem?_map, hc]
      · rw [List.getElem?_append_right (by simp; omega)]
        simp only [List.length_append, List.length_take, List.length_map]
        have hmin : min (i * c.e + j) (c.flat.length + tail.length) = i * c.e + j := by omega
        rw [hmin, List.getElem?_drop]
        have hidx : i * c.e + j + ds.length + (t - (i * c.e + j + ds.length)) = t := by omega
        rw [hidx, List.getElem?_append_left (by simp; omega), List.getElem?_map, hc]
  · rw [List.getElem?_eq_none (by simp only [List.length_take, hn, hee]; omega), List.getElem?_eq_none (by simp only [List.length_map, hfl', hn, hee]; omega)]

theorem storeRow_sound {o : Oper} {t h i e j ty : Nat} {x y : Operand} {u : W} {c c' : Cont} {ds : List D} (hh : HRel ρ B hp nx w) (hr : Reads ρ nx rd a) (ho : o.op = .store t x y)
    (hx : rd x = some (.w (.c (.p h i e j)))) (hy : rd y = some (.w u)) (hone : u.one hp = true) (hs : szT P t = some u.cells.length) (hall : (u.cells.all fun c => c.one hp) = true)
    (hf : find hp h = some (.row ty c)) (hds : dsOf u.cells = some ds) (hupd : UpdOK c c' i j ds) (he : e = c.e) (he0 : 0 < e) (hi : i < c.n) :
    Sound P ρ B nx a w o ⟨i < c.n, vu, (h, .row ty c') :: noViews hp, nx⟩ false := by
  subst he
  have h1 := hr _ _ hx
  have h2 := hr _ _ hy
  obtain ⟨hlt, hol, hok⟩ := hh.ok h _ hf
  obtain ⟨⟨hlen, hcase⟩, hBk⟩ := hok
  rcases hcase with ⟨_, hn⟩ | ⟨g, cap, cur, hk, _, hheap, hncap, hcapm, hcs, htk⟩
  · omega
  have hBg : ¬ B g := hBk g (by rw [hk]; rfl)
  obtain ⟨hn', hee, hle, _⟩ := id hupd
  have hc := W.cells_val hh hone
  have hdse := dsOf_eq hds
  have hul : u.cells.length = ds.length := by rw [hdse]; simp
  have hvs : (u.val ρ).cells.size = u.cells.length := by rw [hc]; simp
  have hin : i * c.e + j + ds.length ≤ c.n * c.e := by
    have : (i + 1) * c.e ≤ c.n * c.e := Nat.mul_le_mul_right _ hi
    rw [Nat.add_mul] at this
    omega
  have hcapsz : c.n * c.e ≤ cap * c.e := Nat.mul_le_mul_right _ hncap
  have hst := storeVar_run (P := P) (t := t) (g := g) (off := i * c.e + j) (v := u.val ρ) (by rw [hvs]; exact hs) hheap (by rw [hvs, hul, hcs]; omega) (by rw [hc]; exact cells_one hh hall)
  refine sound_skip (ρ' := ρ) (w' := w.setRow g ((cur.toList.take (i * c.e + j) ++ (u.val ρ).cells.toList ++ cur.toList.drop (i * c.e + j + (u.val ρ).cells.size)).toArray)) ?_ rfl ?_
  · unfold execOp
    have h1v : a.eval x = .pointer (some ⟨g, i * c.e + j, none⟩) := by rw [h1.2]; simp [C.val, hk, base]
    have h2v : a.eval y = u.val ρ := h2.2
    simp only [ho, h1v, h2v, Instr.storeAt, Instr.sureAddr, Sem.run_bind, Sem.run_pure, Result.andThen_ok, hst]
  · refine ⟨Agree.refl _ _, trivial, Nat.le_refl _, ?_, below_setRow hBg, (fun h => by cases h), fun h => by cases h⟩
    refine HRel.write hh hf (g := g) (by simp [O.blk, hk, Value.ownBlock]) (fun k _ hne => setRow_other w g k _ hne) ?_ trivial (by simp [O.blk, hk, Value.ownBlock])
    refine ⟨⟨by simp [Cont.flat_length], .inr ⟨g, cap, _, by rw [hn']; exact hk, Nat.zero_le _, setRow_heap w g _ _ ty (0, 0) hheap, by rw [hn']; exact hncap, hcapm, ?_, ?_⟩⟩, hBk⟩
    · simp only [List.size_toArray, List.length_append, List.length_take, List.length_drop, Array.length_toList, hvs, hul, hee]
      omega
    · have hcur : cur.toList = c.flat.map D.val ++ cur.toList.drop (c.n * c.e) := by rw [← htk]; exact (List.take_append_drop _ _).symm
      have hvl : (u.val ρ).cells.toList = ds.map D.val := by rw [hc, hdse]; simp [Function.comp_def, C.val]
      rw [hvs, hul, hvl, hcur]
      exact upd_flat hupd hi he0 _
end

end Go.Sx
