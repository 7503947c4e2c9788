/- A symbolic executor for the model's code: the operations that change the world, proved. -/
import Derived.Test.YtndhdojnlobloaaSxE
set_option linter.unusedSectionVars false
set_option linter.unusedSimpArgs false
set_option linter.unusedVariables false
open Go.RowKit
namespace Go.Sx

section
variable [Globs] {P : Program} {ρ : Env} {B : Bd} {nx : Nat} {hp : Hp} {w : World} {rd : Operand → Option V} {a : Act}

/-- What a step leaves: some numbering of objects under which the heap is as told. -/
structure Left [Globs] (ρ : Env) (B : Bd) (nx : Nat) (w : World) (r : Res) (M : Bool) (ρ' : Env) (w' : World) : Prop where
  agree : Agree nx ρ ρ'
  lt : r.v.lt r.nx
  le : nx ≤ r.nx
  heap : HRel ρ' B r.hp r.nx w'
  below : Bel B w w'
  mono : M = true → Below w.heap.size w w'
  fresh : M = true → ∀ h o k, nx ≤ h → find r.hp h = some o → o.blk (ρ' h) = some k → w.heap.size ≤ k

/-- A step's soundness. -/
def Sound (P : Program) (ρ : Env) (B : Bd) (nx : Nat) (a : Act) (w : World) (o : Oper) (r : Res) (M : Bool) : Prop :=
  ∀ (K : Act → World → Prop) (Q : Exit → Act → World → Prop), (∀ ρ' w', Left ρ B nx w r M ρ' w' → K (a.put o.dst (r.v.val ρ')) w') → o.wp P a w K Q

def upd (ρ : Env) (n : Nat) (v : Value) : Env := fun h => if h = n then v else ρ h
theorem upd_agree (ρ : Env) (n : Nat) (v : Value) : Agree n ρ (upd ρ n v) := fun h hh => by simp [upd, Nat.ne_of_lt hh]
@[simp] theorem upd_same (ρ : Env) (n : Nat) (v : Value) : upd ρ n v n = v := by simp [upd]

theorem sound_value {o : Oper} {r : Res} {M : Bool} {ρ' : Env} {w' : World} (h : (execOp a.eval o).run P w = .ok (.value (r.v.val ρ')) w') (hl : Left ρ B nx w r M ρ' w') : Sound P ρ B nx a w o r M := by
  intro K Q hK
  unfold Oper.wp
  rw [h]
  exact hK ρ' w' hl

theorem sound_skip {o : Oper} {r : Res} {M : Bool} {ρ' : Env} {w' : World} (h : (execOp a.eval o).run P w = .ok .skip w') (hv : r.v.val ρ' = undef) (hl : Left ρ B nx w r M ρ' w') : Sound P ρ B nx a w o r M := by
  intro K Q hK
  unfold Oper.wp
  rw [h]
  have := hK ρ' w' hl
  rw [hv] at this
  exact this

/-- A new block of cells. -/
theorem left_alloc {r : Res} (hh : HRel ρ B hp nx w) (hB : Old B w) (v : Value) (cells : Array Value) (ty : Nat) (obj : O) (hr : r.hp = (nx, obj) :: hp) (hn : r.nx = nx + 1) (hv : r.v.lt (nx + 1)) (M : Bool)
    (hl : obj.lt (nx + 1)) (ho : obj.ok (upd ρ nx v) B (w.alloc (.cells cells ty)) nx) (hb : ∀ k, obj.blk v = some k → w.heap.size ≤ k) :
    Left ρ B nx w r M (upd ρ nx v) (w.alloc (.cells cells ty)) := by
  have hbel : Below w.heap.size w (w.alloc (.cells cells ty)) := (Below.refl _ w).alloc (Nat.le_refl _) _
  refine ⟨upd_agree _ _ _, by rw [hn]; exact hv, by omega, ?_, bel_of hbel hB, fun _ => hbel, fun _ h o k hnh hf hk => ?_⟩
  · rw [hr, hn]
    exact hh.add hbel hB (upd_agree _ _ _) hl ho (by simpa using hb)
  · rw [hr] at hf
    simp only [find] at hf
    split at hf
    · rename_i e
      subst e
      cases hf
      rw [upd_same] at hk
      exact hb k hk
    · have := (hh.ok h o hf).1
      omega

theorem box_ok {cs : List C} {ty : Nat} (hB : Old B w) (hl : ∀ c ∈ cs, C.lt nx c) :
    (O.box ty cs).ok (upd ρ nx (.pointer (some ⟨w.heap.size, 0, none⟩))) B (w.alloc (.cells (cs.map (C.val ρ)).toArray ty)) nx := by
  refine ⟨w.heap.size, by simp, fun hc => Nat.lt_irrefl _ (hB _ hc), ?_⟩
  rw [heap_alloc_new]
  congr 3
  exact List.map_congr_left fun c hc => (C.val_agree (upd_agree ρ nx _) (hl c hc)).symm

theorem row_ok {c : Cont} {ty : Nat} (hB : Old B w) (hm : c.n ≤ 9223372036854775807) :
    (O.row ty c).ok (upd ρ nx (.slice (some ⟨w.heap.size, 0, none⟩) c.n c.n)) B (w.alloc (.cells (c.flat.map D.val).toArray ty)) nx := by
  refine ⟨⟨by simp [Cont.flat_length], .inr ⟨w.heap.size, c.n, _, by simp, Nat.zero_le _, heap_alloc_new w _, Nat.le_refl _, by simpa [maxLen] using hm, by simp [Cont.flat_length], ?_⟩⟩, fun k hk hc => ?_⟩
  rotate_left
  · simp [Value.ownBlock] at hk
    have := hB k hc
    omega
  rw [← Cont.flat_length]
  exact List.take_of_length_le (by simp)

theorem box_sound {o : Oper} {elem : Nat} {x : Operand} {u : W} (hh : HRel ρ B hp nx w) (hB : Old B w) (hr : Reads ρ nx rd a) (ho : o.op = .box elem x) (hx : rd x = some (.w u)) (hone : u.one hp = true) :
    Sound P ρ B nx a w o ⟨True, .w (.c (.p nx 0 1 0)), (nx, .box elem u.cells) :: hp, nx + 1⟩ true := by
  have h1 := hr _ _ hx
  have hc := W.cells_val hh hone
  have hlt : ∀ c ∈ u.cells, C.lt nx c := W.cells_lt h1.1
  refine sound_value (ρ' := upd ρ nx (.pointer (some ⟨w.heap.size, 0, none⟩))) (w' := w.alloc (.cells (u.cells.map (C.val ρ)).toArray elem)) ?_
    (left_alloc hh hB _ _ _ (.box elem u.cells) rfl rfl (show V.lt (nx + 1) (.w (.c (.p nx 0 1 0))) from Nat.lt_succ_self nx) true (fun c hc => C.lt_mono (Nat.le_succ nx) (hlt c hc)) (box_ok hB hlt) (by simp [O.blk, base]))
  unfold execOp
  simp only [ho, Instr.box, newVar, newRow, Sem.run_bind, run_newObj, Result.andThen_ok, Sem.run_pure, h1.2, V.val, hc]
  simp [W.val, C.val, base]

theorem alloc_sound {o : Oper} {elem : Nat} {z : List C} (hh : HRel ρ B hp nx w) (hB : Old B w) (ho : o.op = .alloc elem) (hz : zeroC P elem = some z) :
    Sound P ρ B nx a w o ⟨True, .w (.c (.p nx 0 1 0)), (nx, .box elem z) :: hp, nx + 1⟩ true := by
  obtain ⟨v, hv, hvc, hlt⟩ := zeroC_run (P := P) (w := w) (ρ := ρ) hz
  refine sound_value (ρ' := upd ρ nx (.pointer (some ⟨w.heap.size, 0, none⟩))) (w' := w.alloc (.cells (z.map (C.val ρ)).toArray elem)) ?_
    (left_alloc hh hB _ _ _ (.box elem z) rfl rfl (show V.lt (nx + 1) (.w (.c (.p nx 0 1 0))) from Nat.lt_succ_self nx) true (hlt (nx + 1)) (box_ok hB (hlt nx)) (by simp [O.blk, base]))
  unfold execOp
  simp only [ho, Instr.alloc, newVar, newRow, Sem.run_bind, run_newObj, Result.andThen_ok, Sem.run_pure, hv, hvc]
  simp [V.val, W.val, C.val, base]

theorem buildSliceC_run {elem n : Nat} {parts : List (Nat × W)} {c : Cont} (hh : HRel ρ B hp nx w) (h : buildSliceC P elem n parts = some c) (hp' : ∀ x ∈ parts, x.2.one hp = true ∧ x.2.lt nx) (t : Nat) (hu : P.underlying t = some (.slice elem)) :
    (Instr.buildSlice t n (parts.map fun x => (x.1, x.2.val ρ)).toArray).run P w = .ok (.slice (some ⟨w.heap.size, 0, none⟩) n n) (w.alloc (.cells (c.flat.map D.val).toArray elem)) ∧ c.n = n ∧ n ≤ 4096 := by
  unfold buildSliceC at h
  split at h
  · rename_i z e hz hs
    split at h
    · rename_i hzl
      split at h
      · rename_i out zd hout hzd
        split at h
        · rename_i ds hds
          obtain ⟨v, hv, hvc, hlt⟩ := zeroC_run (P := P) (w := w) (ρ := ρ) hz
          have hf := fillC_run (ρ := ρ) _ hh parts _ out hout hp' (fun c hc => by
            obtain ⟨l, hl, hc'⟩ := List.mem_flatten.1 hc
            rw [List.eq_of_mem_replicate hl] at hc'
            exact hlt nx c hc')
          have hoe := dsOf_eq hds
          have hlen : ds.length = n * (e + 1) := by
            have := hf.2.2
            rw [hoe] at this
            simpa [hzl.1] using this
          have hck := chunk_flat (e + 1) n ds hlen
          have hmk := mkCont_flat h
          have hle : n * (e + 1) ≤ 4096 := hzl.2
          have hn : n ≤ 4096 := Nat.le_trans (Nat.le_mul_of_pos_right n (Nat.succ_pos e)) hle
          refine ⟨?_, by rw [hmk.2.1, hck.2], hn⟩
          have hvs : v.cells.size = e + 1 := by rw [hvc]; simp [hzl.1]
          have e1 : ¬ (n * (e + 1) > 2 ^ 24) := by omega
          have hcells : ∀ zz : Array Value, (n * (e + 1) ≠ 0 → zz = v.cells) → (Array.range (n * (e + 1))).map (zz[· % zz.size]!) = ((List.replicate n z).flatten.map (C.val ρ)).toArray := by
            intro zz hzz
            by_cases h0 : n * (e + 1) = 0
            · have hn0 : n = 0 := by
                rcases Nat.mul_eq_zero.1 h0 with h | h
                · exact h
                · omega
              subst hn0
              simp
            · rw [hzz h0]
              have := made_eq v.cells n
              apply Array.ext'
              simp only [madeCells, hvs] at this
              simp only [hvs]
              rw [this, hvc]
              simp
          have hfin : (do
              let some cells := Instr.fill (fun i => some (i * (e + 1), e + 1)) ((List.replicate n z).flatten.map (C.val ρ)).toArray (parts.map fun x => (x.1, x.2.val ρ)) | stuck "buildSlice: a part of the wrong size"
              pure (.slice (some (← newRow elem cells)) n n) : Sem Value).run P w = .ok (.slice (some ⟨w.heap.size, 0, none⟩) n n) (w.alloc (.cells (c.flat.map D.val).toArray elem)) := by
            simp only [hf.1, newRow, Sem.run_bind, run_newObj, Result.andThen_ok, Sem.run_pure]
            simp only [hmk.1, hck.1, hoe, List.map_map]
            rfl
          by_cases h0 : n * (e + 1) = 0
          · have hn0 : n = 0 := by
              rcases Nat.mul_eq_zero.1 h0 with h | h
              · exact h
              · omega
            subst hn0
            have h3 := hcells #[] (fun h => absurd h0 h)
            have e2 : ¬ (0 * (e + 1) > 2 ^ 24) := by omega
            simp only [Instr.buildSlice, Sem.run_bind, run_underlying hu, Result.andThen_ok, run_szT w hs, Nat.succ_eq_add_one]
            rw [if_neg e2, if_pos h0]
            simp only [Sem.run_bind, Sem.run_pure, Result.andThen_ok, h3]
            exact hfin
          · simp only [Instr.buildSlice, Sem.run_bind, run_underlying hu, Result.andThen_ok, run_szT w hs, Nat.succ_eq_add_one]
            rw [if_neg e1, if_neg h0]
            simp only [Sem.run_bind, Sem.run_pure, Result.andThen_ok, hv, hcells v.cells (fun _ => rfl)]
            exact hfin
        · cases h
      · cases h
    · cases h
  · cases h

theorem buildSlice_sound {o : Oper} {t n elem : Nat} {parts : Array (Nat × Operand)} {l : List (Nat × W)} {c : Cont} (hh : HRel ρ B hp nx w) (hB : Old B w) (hr : Reads ρ nx rd a) (ho : o.op = .buildSlice t n parts)
    (hu : P.underlying t = some (.slice elem)) (hl : rdParts rd hp parts.toList = some l) (hc : buildSliceC P elem n l = some c) :
    Sound P ρ B nx a w o ⟨True, .w (.c (.o nx)), (nx, .row elem c) :: hp, nx + 1⟩ true := by
  have hps := rdParts_run hr parts.toList l hl
  have hb := buildSliceC_run (w := w) (ρ := ρ) hh hc hps.2 t hu
  refine sound_value (ρ' := upd ρ nx (.slice (some ⟨w.heap.size, 0, none⟩) c.n c.n)) (w' := w.alloc (.cells (c.flat.map D.val).toArray elem)) ?_
    (left_alloc hh hB _ _ _ (.row elem c) rfl rfl (show V.lt (nx + 1) (.w (.c (.o nx))) from Nat.lt_succ_self nx) true trivial (row_ok hB (by omega)) (by simp [O.blk, Value.ownBlock]))
  unfold execOp
  have he : (parts.map fun (i, x) => (i, a.eval x)) = (l.map fun x => (x.1, x.2.val ρ)).toArray := by
    rw [← hps.1]
    apply Array.ext'
    simp
  simp only [ho, he, Sem.run_bind, hb.1, Result.andThen_ok, Sem.run_pure]
  simp [V.val, W.val, C.val, hb.2.1]

theorem makeSlice_sound {o : Oper} {t elem e b : Nat} {x y : Operand} {k k' : IntKind} {n m : Int} {u u' : V} {z : List D} {c : Cont} (hh : HRel ρ B hp nx w) (hB : Old B w) (hr : Reads ρ nx rd a) (ho : o.op = .makeSlice t x y)
    (hu : P.underlying t = some (.slice elem)) (hx : rd x = some u) (hx' : u.int? = some (k, n)) (hy : rd y = some u') (hy' : u'.int? = some (k', m))
    (hz : (zeroC P elem).bind dsOf = some z) (hs : szT P elem = some (e + 1)) (hb : bytesT P elem = some b) (hzl : z.length = e + 1) (hc : repCont z n.toNat = some c)
    (hob : 0 ≤ n ∧ n = m ∧ (b : Int) * n ≤ 281474976710656 ∧ n ≤ 9223372036854775807) :
    Sound P ρ B nx a w o ⟨0 ≤ n ∧ n = m ∧ (b : Int) * n ≤ 281474976710656 ∧ n ≤ 9223372036854775807, .w (.c (.o nx)), (nx, .row elem c) :: hp, nx + 1⟩ true := by
  obtain ⟨h0, rfl, h2, h3⟩ := hob
  have h1 := hr _ _ hx
  have h1' := hr _ _ hy
  rw [V.int?_eq hx'] at h1
  rw [V.int?_eq hy'] at h1'
  have hrc := repCont_flat hc
  cases hi : P.info? elem with
  | none => simp [szT, hi] at hs
  | some i =>
    have hsz : i.size = e + 1 := by simpa [szT, hi] using hs
    have hby : i.bytes = b := by simpa [bytesT, hi] using hb
    cases hzz : i.zero with
    | none => simp [zeroC, hi, hzz] at hz
    | some zv =>
      cases hzc : zeroC P elem with
      | none => simp [hzc] at hz
      | some zc =>
        simp only [hzc, Option.bind_some] at hz
        obtain ⟨v, hv, hvc, _⟩ := zeroC_run (P := P) (w := w) (ρ := ρ) hzc
        have hvz : v = zv := by
          simp [zeroValue, typeInfo, hi, hzz] at hv
          exact hv.symm
        subst hvz
        have hzce := dsOf_eq hz
        have hm := run_make (P := P) w t elem i v hu hi hzz k k' n n h0 (Int.le_refl _) (by rw [hby]; exact h2) h3
        have hcells : madeCells v.cells (n.toNat * i.size) = (c.flat.map D.val).toArray := by
          apply Array.ext'
          have := made_eq v.cells n.toNat
          have hvs : v.cells.size = e + 1 := by rw [hvc, hzce]; simp [hzl]
          rw [hvs] at this
          rw [hsz, this, hrc.1, hvc, hzce]
          simp only [List.map_map]
          rw [List.map_flatten, List.map_replicate]
          rfl
        rw [hcells] at hm
        refine sound_value (ρ' := upd ρ nx (.slice (some ⟨w.heap.size, 0, none⟩) c.n c.n)) (w' := w.alloc (.cells (c.flat.map D.val).toArray elem)) ?_
          (left_alloc hh hB _ _ _ (.row elem c) rfl rfl (show V.lt (nx + 1) (.w (.c (.o nx))) from Nat.lt_succ_self nx) true trivial (row_ok hB (by omega)) (by simp [O.blk, Value.ownBlock]))
        unfold execOp
        simp only [ho, h1.2, h1'.2, vi_val, Sem.run_bind, hm, Result.andThen_ok, Sem.run_pure]
        simp [V.val, W.val, C.val, hrc.2.1]
end

end Go.Sx
