/- A symbolic executor for the model's code: regions that draw their order, whole. -/
import Derived.Test.YtndhdojnlobloaaSxS
set_option linter.unusedSectionVars false
set_option linter.unusedSimpArgs false
set_option linter.unusedVariables false
open Go.RowKit
namespace Go.Sx

section
variable [Globs] {P : Program} {sp : Specs} {B : Bd} {N n0 : Nat} {L : List Oper} {tab : List (List Nat)} {st0 : St} {ρ0 : Env} {w0 : World}

theorem slot_end {D : Nat → Bool} {t : Nat} : ∀ {T : List Rec}, (∀ j, j < T.length → D j = true) → slotD L D st0 t T = getT (tmTr L st0 T) t
  | [], _ => rfl
  | r :: tr, h => by
    have ih := slot_end (D := D) (t := t) (T := tr) (fun j hj => h j (by simp; omega))
    simp only [slotD, tmTr]
    rw [h tr.length (by simp)]
    cases hd : dstOf L tr.length with
    | none => simp [ih]
    | some d =>
      simp only [getT]
      by_cases e : d = t
      · simp [e]
      · simp [e, ih]

theorem heap_end {D : Nat → Bool} {T : List Rec} (hg : GoodTr P sp N L tab st0 T) : (∀ j, j < T.length → D j = true) → heapD D st0 T = prevHp st0 T := by
  induction hg with
  | nil => exact fun _ => rfl
  | @cons tr r hgt o hr ih =>
    intro h
    have ih := ih (fun j hj => h j (by simp; omega))
    simp only [heapD]
    show _ = r.hp
    rw [if_pos (h tr.length (by simp))]
    by_cases hk : r.kd = 2
    · rw [if_pos hk]
    · rw [if_neg hk, ih, (kd_other hr hk).1]

theorem born_all {D : Nat → Bool} {h : Nat} : ∀ {T : List Rec}, (∀ j, j < T.length → D j = true) → bornBy D st0 T h = true
  | [], _ => rfl
  | r :: tr, hD => by
    simp only [bornBy]
    split
    · exact hD _ (by simp)
    · exact born_all fun j hj => hD j (by simp; omega)

/-- **The executor at regions that draw their order, proved.** -/
theorem drawn_ok (hm : P.follows .mixedOrders = true) (hsp : SpecsOK P sp) : DrawnOK P B N n0 ρ0 w0 (drawX P sp N) := by
  intro id ops st k ρ a w Q hd hr hag hbl hK
  unfold drawX at hd
  split at hd
  · rename_i hok
    simp only [Bool.and_eq_true] at hok
    have htab : TabOK ops.toList (befs ops.toList []) := befs_ok _ _ [] (by simp) (by intro i k hk; simp [List.getD] at hk)
    obtain ⟨T, hk, hg, hlen⟩ := drun_spec ops.toList [] _ hd .nil (by simp) (by simp)
    have hbase : Base st := fun x o hf => ⟨(hr.heap.ok x o hf).1, (hr.heap.ok x o hf).2.1⟩
    have hbt : ∀ t v, getT st.tm t = some v → v.lt st.nx := fun t v h => (hr.tm t v h).1
    have hnx := nx_base hg
    refine wp_region_any hm ?_
    have hal : ∀ x, x < st.nx → alive st T (DL (Array.replicate ops.size false)) x = true := fun x hx => by
      simp only [alive, Bool.and_eq_true, Nat.blt_eq]
      exact ⟨Nat.lt_of_lt_of_le hx hnx, born_base hx hg⟩
    have hF : ∀ j, DL (Array.replicate ops.size false) j = false := fun j => by
      unfold DL
      simp only [Array.getD_eq_getD_getElem?, Array.getElem?_replicate]
      split <;> rfl
    have hslot : ∀ t (T : List Rec), slotD ops.toList (DL (Array.replicate ops.size false)) st t T = getT st.tm t := fun t T => by
      induction T with
      | nil => rfl
      | cons r tr ih => simp only [slotD, hF]; simpa using ih
    have hheap : ∀ (T : List Rec), heapD (DL (Array.replicate ops.size false)) st T = st.hp := fun T => by
      induction T with
      | nil => rfl
      | cons r tr ih => simp only [heapD, hF]; simpa using ih
    have hbw : Below w.heap.size w { w with drawn := w.drawn + 1 } := ⟨rfl, rfl, rfl, Nat.le_refl _, fun _ _ => rfl⟩
    have hinv : Inv ops.toList st B N n0 ρ0 w0 T (DL (Array.replicate ops.size false)) a { w with drawn := w.drawn + 1 } ρ := by
      refine ⟨fun t v hv => ?_, hr.size, hr.defers, ?_, fun x o hf => ?_, hr.le, hag, ⟨hbl.os, hbl.tape, hbl.output, hbl.size, hbl.block⟩⟩
      · rw [hslot] at hv
        exact ⟨V.allB_of_lt hal (hr.tm t v hv).1, (hr.tm t v hv).2⟩
      · rw [hheap]
        exact (hr.heap.below hbw hr.le).mono_nx hnx
      · rw [hheap] at hf
        exact ⟨hal x (hbase x o hf).1, O.allB_of_lt hal (hbase x o hf).2⟩
    have := any_of (Q := Q) (n0 := n0) (B := B) (ρ0 := ρ0) (w0 := w0) hsp hg hlen hok.1 hok.2 htab hbase hbt hr.n0 (fun D ρ' a' w' hall hi => ?_) ops.size (Array.replicate ops.size false) a _ ρ (by simp) (fun j o _ hD => by rw [hF] at hD; cases hD) (by simp) hinv
    · simpa using this
    · have hall' : ∀ j, j < T.length → D j = true := fun j hj => hall j (by omega)
      refine hK ρ' (endSt ops.toList st T) a' w' ⟨fun t v hv => ?_, hi.size, hi.defers, ?_, hi.le, Nat.le_trans hr.n0 hnx⟩ hi.agree hi.below hk
      · have h1 := hi.tm t v (by rw [slot_end hall']; exact hv)
        refine ⟨V.lt_of_allB (fun x hx => ?_) h1.1, h1.2⟩
        simp only [alive, Bool.and_eq_true, Nat.blt_eq] at hx
        exact hx.1
      · have := hi.heap
        rw [heap_end hg hall'] at this
        exact this
  · exact hd.elim
end

end Go.Sx
