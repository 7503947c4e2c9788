/- Part 5 of the proof of FigureWithinCard: the executor, the mirrors of the functions, the plain facts. -/
import Derived.Test.YtcklfboglnfepaaDoorPD
set_option linter.unusedSectionVars false
set_option linter.unusedSimpArgs false
set_option linter.unusedVariables false
section
namespace Go.Sh
open Go Go.Proofs Go.RowKit Go.Sx Go.Sx06 Ieee Go.Fl
theorem fB_mono {s s' w w' f : Int} (h1 : 0 ≤ s ∧ s ≤ s') (h2 : 0 ≤ w' ∧ w' ≤ w) (hf : 0 ≤ p10 f) (h : fB s' w' f = true) : fB s w f = true := by
  unfold fB at *
  simp only [decide_eq_true_eq] at *
  have a := Int.mul_le_mul_of_nonneg_right (Int.mul_le_mul h1.2 h1.2 h1.1 (by omega)) hf
  have b := Int.mul_le_mul h2.2 h2.2 h2.1 (by omega)
  omega
theorem p10_pos (f : Int) : 0 ≤ p10 f := by unfold p10; exact Int.pow_nonneg (by omega)
theorem fB_fives {s w f g : Int} (hfg : p10 f ≤ p10 g) (h : fB s w g = true) : fB s w f = true := by
  unfold fB at *
  simp only [decide_eq_true_eq] at *
  have a : 0 ≤ s * s := by
    rcases Int.le_total 0 s with h | h
    · exact Int.mul_nonneg h h
    · exact Int.mul_nonneg_of_nonpos_of_nonpos h h
  have b := Int.mul_le_mul_of_nonneg_left hfg a
  omega
def sfI (zs : List (List Int)) (T f : Int) : Option Nat := (ssO zs T).findIdx? fun r => fB (r.getD 1 0) (sLo zs) f
def phI (zs : List (List Int)) (T f : Int) : Option Nat := (ssO zs T).findIdx? fun r => fB (r.getD 0 0) (sHi zs + T) f
def ixZ (o : Option Nat) : Int := match o with
  | some i => (i : Int)
  | none => -1
def pasS (zs : List (List Int)) (T f : Int) : Int × Int × Bool := match sfI zs T f with
  | some j => if j = zs.length then (0, 0, false) else (max 0 (ixZ (phI zs T f) - 1), (j : Int), true)
  | none => (0, 0, false)
structure ZOK (zs : List (List Int)) (T : Int) : Prop where
  len : zs.length ≤ 1024
  ok : ∀ r ∈ zs, okZ r
  tail : 0 ≤ T ∧ T ≤ 1000000000000
section
variable {zs : List (List Int)} {T f : Int}
theorem ZOK.at_ (h : ZOK zs T) {i : Nat} (hi : i ≤ zs.length) : 0 ≤ sLo (zs.drop i) ∧ sLo (zs.drop i) ≤ sHi (zs.drop i) + T ∧ sHi (zs.drop i) + T ≤ 6000000000000 := by
  have := s_range (zs := zs.drop i) fun r hr => h.ok r (List.mem_of_mem_drop hr)
  have hl := h.len
  have ht := h.tail
  have hd : ((zs.drop i).length : Int) ≤ 1024 := by rw [List.length_drop]; omega
  omega
theorem ZOK.all (h : ZOK zs T) : 0 ≤ sLo zs ∧ sLo zs ≤ sHi zs + T ∧ sHi zs + T ≤ 6000000000000 := by
  have := h.at_ (i := 0) (Nat.zero_le _)
  simpa using this
theorem sLo_drop_le (h : ∀ r ∈ zs, okZ r) (i : Nat) : sLo (zs.drop i) ≤ sLo zs ∧ sHi (zs.drop i) ≤ sHi zs := by
  have e := List.take_append_drop i zs
  have a := sLo_append (zs.take i) (zs.drop i)
  have b := sHi_append (zs.take i) (zs.drop i)
  rw [e] at a b
  have := s_range (zs := zs.take i) fun r hr => h r (List.mem_of_mem_take hr)
  omega
theorem idx_some {α : Type} {l : List α} {P : α → Bool} {d : α} {j : Nat} (h : l.findIdx? P = some j) : j < l.length ∧ P (l.getD j d) = true ∧ ∀ i, i < j → P (l.getD i d) = false := by
  rw [List.findIdx?_eq_some_iff_getElem] at h
  obtain ⟨hk, hp, hb⟩ := h
  refine ⟨hk, by simpa [List.getD, hk] using hp, fun i hi => ?_⟩
  have := hb i hi
  simpa [List.getD, show i < l.length by omega] using this
theorem idx_none {α : Type} {l : List α} {P : α → Bool} (d : α) (h : l.findIdx? P = none) : ∀ i, i < l.length → P (l.getD i d) = false := by
  rw [List.findIdx?_eq_none_iff] at h
  intro i hi
  simpa [List.getD, hi] using h l[i] (List.getElem_mem _)
theorem idx_le {α : Type} {l : List α} {P : α → Bool} {d : α} {j : Nat} (h1 : j < l.length) (h2 : P (l.getD j d) = true) : ∃ i, l.findIdx? P = some i ∧ i ≤ j := by
  cases h : l.findIdx? P with
  | none => have := idx_none d h j h1; rw [h2] at this; cases this
  | some i =>
    refine ⟨i, rfl, ?_⟩
    have := (idx_some (d := d) h).2.2
    apply Classical.byContradiction
    intro hc
    have h3 := this j (by omega)
    rw [h2] at h3
    cases h3
theorem ss_get {i : Nat} (hi : i ≤ zs.length) : ((ssO zs T).getD i []).getD 0 0 = sLo (zs.drop i) ∧ ((ssO zs T).getD i []).getD 1 0 = sHi (zs.drop i) + T := by
  rw [ssO_get hi]
  exact ⟨rfl, rfl⟩
theorem ss_zero : ((ssO zs T).getD 0 []).getD 0 0 = sLo zs ∧ ((ssO zs T).getD 0 []).getD 1 0 = sHi zs + T := by
  have := ss_get (zs := zs) (T := T) (i := 0) (Nat.zero_le _)
  simpa using this
theorem sf_some {j : Nat} (h : sfI zs T f = some j) : j ≤ zs.length ∧ fB (sHi (zs.drop j) + T) (sLo zs) f = true ∧ ∀ i, i < j → fB (sHi (zs.drop i) + T) (sLo zs) f = false := by
  obtain ⟨h1, h2, h3⟩ := idx_some (d := []) h
  rw [ssO_len] at h1
  have hj : j ≤ zs.length := by omega
  rw [(ss_get hj).2] at h2
  refine ⟨hj, h2, fun i hi => ?_⟩
  have := h3 i hi
  rw [(ss_get (show i ≤ zs.length by omega)).2] at this
  exact this
theorem ph_some {j : Nat} (h : phI zs T f = some j) : j ≤ zs.length ∧ fB (sLo (zs.drop j)) (sHi zs + T) f = true ∧ ∀ i, i < j → fB (sLo (zs.drop i)) (sHi zs + T) f = false := by
  obtain ⟨h1, h2, h3⟩ := idx_some (d := []) h
  rw [ssO_len] at h1
  have hj : j ≤ zs.length := by omega
  rw [(ss_get hj).1] at h2
  refine ⟨hj, h2, fun i hi => ?_⟩
  have := h3 i hi
  rw [(ss_get (show i ≤ zs.length by omega)).1] at this
  exact this
theorem ph_of_sf (hz : ZOK zs T) {j : Nat} (h : sfI zs T f = some j) : ∃ i, phI zs T f = some i ∧ i ≤ j := by
  obtain ⟨h1, h2, _⟩ := sf_some h
  have a := hz.at_ h1
  have b := hz.all
  refine idx_le (d := []) (by rw [ssO_len]; omega) ?_
  rw [(ss_get h1).1]
  exact fB_mono ⟨a.1, a.2.1⟩ ⟨b.1, b.2.1⟩ (p10_pos f) h2
theorem sf_fives {g : Int} (hfg : p10 f ≤ p10 g) {j : Nat} (h : sfI zs T g = some j) : ∃ i, sfI zs T f = some i ∧ i ≤ j := by
  obtain ⟨h1, h2, _⟩ := sf_some h
  refine idx_le (d := []) (by rw [ssO_len]; omega) ?_
  rw [(ss_get h1).2]
  exact fB_fives hfg h2
theorem pas_true (hz : ZOK zs T) (h : (pasS zs T f).2.2 = true) : ∃ i j : Nat, sfI zs T f = some j ∧ phI zs T f = some i ∧ i ≤ j ∧ j < zs.length ∧ pasS zs T f = (max 0 ((i : Int) - 1), (j : Int), true) := by
  unfold pasS at h ⊢
  cases hs : sfI zs T f with
  | none => rw [hs] at h; cases h
  | some j =>
    rw [hs] at h
    dsimp only at h ⊢
    split at h
    · cases h
    · rename_i hne
      obtain ⟨i, hi, hij⟩ := ph_of_sf hz hs
      have := (sf_some hs).1
      refine ⟨i, j, rfl, hi, hij, by omega, ?_⟩
      rw [if_neg hne, hi]
      rfl
variable {rate noise tl : Int} {l : List Nat}
theorem index1_eq (hz : ZOK zs T) (hf : 0 ≤ f ∧ f ≤ 12) : y27 (ssO zs T) rate l noise tl zs (ssO zs T) f = some (ixZ (phI zs T f)) := by
  have ha := hz.all
  have hlen := hz.len
  have hk := ssO_len zs T
  have h0 := ss_zero (zs := zs) (T := T)
  have hc : ∀ i, i < (ssO zs T).length → y49 (((ssO zs T).getD i []).getD 0 0) (((ssO zs T).getD i []).getD 1 0) rate l noise tl zs (ssO zs T) f = some (fB (((ssO zs T).getD i []).getD 0 0) (sHi zs + T) f) := by
    intro i hi
    unfold y49
    rw [if_pos (by omega), if_pos (by omega), h0.2, (ss_get (show i ≤ zs.length by omega)).1]
    have := hz.at_ (i := i) (by omega)
    rw [fallen_eq (by omega) (by omega) hf]
    rfl
  have h := iter_first (ssO zs T) [] (fun r => fB (r.getD 0 0) (sHi zs + T) f) (body := y12 (ssO zs T) rate l noise tl zs (ssO zs T) f) (fun i => .inl (i : Int)) (.inr ()) (by omega)
    (fun i hi hp => by
      unfold y12
      rw [if_pos (by omega), if_pos (by omega), if_pos (by omega), Int.toNat_natCast, hc i hi, bind_some', if_pos hp])
    (fun i hi hp => by
      unfold y12
      rw [if_pos (by omega), if_pos (by omega), if_pos (by omega), Int.toNat_natCast, hc i hi, bind_some', if_neg (by rw [hp]; simp), wr64 (by omega)])
    (by unfold y12; rw [if_neg (by omega)])
  unfold y27 phI ixZ
  rw [h]
  cases (ssO zs T).findIdx? (fun r => fB (r.getD 0 0) (sHi zs + T) f) <;> rfl
theorem index2_eq (hz : ZOK zs T) (hf : 0 ≤ f ∧ f ≤ 12) : y28 (ssO zs T) rate l noise tl zs (ssO zs T) f = some (ixZ (sfI zs T f)) := by
  have ha := hz.all
  have hlen := hz.len
  have hk := ssO_len zs T
  have h0 := ss_zero (zs := zs) (T := T)
  have hc : ∀ i, i < (ssO zs T).length → y50 (((ssO zs T).getD i []).getD 0 0) (((ssO zs T).getD i []).getD 1 0) rate l noise tl zs (ssO zs T) f = some (fB (((ssO zs T).getD i []).getD 1 0) (sLo zs) f) := by
    intro i hi
    unfold y50
    rw [if_pos (by omega), if_pos (by omega), h0.1, (ss_get (show i ≤ zs.length by omega)).2]
    have := hz.at_ (i := i) (by omega)
    rw [fallen_eq (by omega) (by omega) hf]
    rfl
  have h := iter_first (ssO zs T) [] (fun r => fB (r.getD 1 0) (sLo zs) f) (body := y13 (ssO zs T) rate l noise tl zs (ssO zs T) f) (fun i => .inl (i : Int)) (.inr ()) (by omega)
    (fun i hi hp => by
      unfold y13
      rw [if_pos (by omega), if_pos (by omega), if_pos (by omega), Int.toNat_natCast, hc i hi, bind_some', if_pos hp])
    (fun i hi hp => by
      unfold y13
      rw [if_pos (by omega), if_pos (by omega), if_pos (by omega), Int.toNat_natCast, hc i hi, bind_some', if_neg (by rw [hp]; simp), wr64 (by omega)])
    (by unfold y13; rw [if_neg (by omega)])
  unfold y28 sfI ixZ
  rw [h]
  cases (ssO zs T).findIdx? (fun r => fB (r.getD 1 0) (sLo zs) f) <;> rfl
theorem passingG_eq (hz : ZOK zs T) (hf : 0 ≤ f ∧ f ≤ 12) : y26 rate l noise tl zs (ssO zs T) f = some (pasS zs T f) := by
  unfold y26
  rw [index1_eq hz hf, bind_some', index2_eq hz hf, bind_some']
  unfold pasS
  cases hs : sfI zs T f with
  | none => rfl
  | some j =>
    obtain ⟨i, hi, hij⟩ := ph_of_sf hz hs
    have hj := (sf_some hs).1
    have hl := hz.len
    rw [hi]
    unfold ixZ
    dsimp only
    rw [if_neg (by omega)]
    by_cases he : j = zs.length
    · rw [if_pos (by rw [he]; simp), if_pos he]
    · rw [if_neg (by simp; omega), if_neg he, wr64 (by omega)]
      congr 2
      split <;> omega
end
end Go.Sh
end

section
namespace Go.Sh
open Go Go.Proofs Go.RowKit Go.Sx
set_option linter.unusedVariables false
def k_G_SumsWithin : List SV := [.a [.d, .r (.floats .f32 []), .d, .d]]
def y46 (u4 : Int) (u5 : List Nat) (u0 : Int) (u6 : Int) : Option (List (List Int) × Int) :=
  if ((val (G_open u4 u5 u0 u6)).1 != (0 : Int)) = true then
   Option.bind (G_open u4 u5 u0 u6) fun r0 =>
   if (r0.1 != (0 : Int)) = true then
    some ([], r0.1)
   else
    none   else
   Option.bind (G_open u4 u5 u0 u6) fun r0 =>
   if (0 : Int) ≤ (↑(List.length r0.2.1) : Int) ∧ (↑(List.length r0.2.1) : Int) ≤ (↑(List.length r0.2.1) : Int) ∧ (↑(List.length r0.2.1) : Int) ≤ (↑(List.length r0.2.2) : Int) then
    some ((List.take (Int.toNat (↑(List.length r0.2.1) : Int) - (0 : Nat)) (List.drop (0 : Nat) r0.2.2), (0 : Int)))
   else none
def g_G_SumsWithin : List Lf → Option GT
  | [.d (.i .i64 u4), .r (.floats .f32 u5), .d (.i .i64 u0), .d (.i .i64 u6)] => some (.leaf (ok (y46 u4 u5 u0 u6)) [.c (.rrow (.recs 2 ((val (y46 u4 u5 u0 u6)).1))), .c (.d (.i .i64 ((val (y46 u4 u5 u0 u6)).2)))])
  | _ => none
abbrev sp_33 : Specs → Specs := addK 33 true (pureT k_G_SumsWithin g_G_SumsWithin)
set_option maxRecDepth 100000 in
theorem G_SumsWithin_vc (u4 : Int) (u5 : List Nat) (u0 : Int) (u6 : Int) (r : List (List Int) × Int) (h : Option.bind (y46 u4 u5 u0 u6) some = some r) : runT Tryd.f33 ((sp_56 sp0)) (fun _ _ _ => none) (bldD k_G_SumsWithin [.d (.i .i64 u4), .r (.floats .f32 u5), .d (.i .i64 u0), .d (.i .i64 u6)]) [.c (.rrow (.recs 2 r.1)), .c (.d (.i .i64 r.2))] := by
  refine Eq.mp (by kernel_rfl : (
 Br ((val (G_open u4 u5 u0 u6)).1 != (0 : Int))
   ((Ob (ok (G_open u4 u5 u0 u6)) ∧
 Br ((val (G_open u4 u5 u0 u6)).1 != (0 : Int))
   ((Ob (True) ∧
 (Ob (True) ∧
 (Ob (List.length r.1 = (0 : Nat)) ∧
 (Ob ((val (G_open u4 u5 u0 u6)).1 = r.2) ∧
 True)))))
   (False)))
   ((Ob (ok (G_open u4 u5 u0 u6)) ∧
 (Ob ((0 : Int) ≤ (↑(List.length (val (G_open u4 u5 u0 u6)).2.1) : Int) ∧ (↑(List.length (val (G_open u4 u5 u0 u6)).2.1) : Int) ≤ (↑(List.length (val (G_open u4 u5 u0 u6)).2.1) : Int) ∧ (↑(List.length (val (G_open u4 u5 u0 u6)).2.1) : Int) ≤ (↑(List.length (val (G_open u4 u5 u0 u6)).2.2) : Int)) ∧
 (Ob (True) ∧
 (Ob (True) ∧
 (Ob (List.take (Int.toNat (↑(List.length (val (G_open u4 u5 u0 u6)).2.1) : Int) - (0 : Nat)) (List.drop (0 : Nat) (val (G_open u4 u5 u0 u6)).2.2) = r.1) ∧
 (Ob ((0 : Int) = r.2) ∧
 True)))))))) = _) ?_
  refine br_b h (fun h => ?_) (fun h => ?_)
  · refine call_s h fun h => ?_
    refine br_b h (fun h => ?_) (fun h => ?_)
    · refine ob_t ?_
      refine ob_t ?_
      exact ret_s h (fun e => by subst e; exact (by repeat' constructor))
    · exact nomatch h
  · refine call_s h fun h => ?_
    refine ob_s h fun h => ?_
    refine ob_t ?_
    refine ob_t ?_
    exact ret_s h (fun e => by subst e; exact (by repeat' constructor))
set_option maxRecDepth 100000 in
theorem G_SumsWithin_ok : SpecOK Tryd.prog 33 true (pureT k_G_SumsWithin g_G_SumsWithin) := by
  refine pureT_ok (sp := (sp_56 sp0)) (fn := Tryd.f33) (body := bodyOf Tryd.f33) mixed (sp_56_ok sp0_ok) Tryd.func33 (by kernel_rfl) (by kernel_rfl) fun ls t h ho b hb => ?_
  unfold g_G_SumsWithin at h
  split at h
  · rename_i u4 u5 u0 u6
    cases h
    obtain rfl := bld_eq hb
    exact ⟨Nat.le_of_ble_eq_true (by kernel_rfl), _, _, G_SumsWithin_vc u4 u5 u0 u6 _ (ok_some ho)⟩
  · cases h
theorem sp_33_ok {sp : Specs} (h : SpecsOK Tryd.prog sp) : SpecsOK Tryd.prog (sp_33 sp) := addK_ok G_SumsWithin_ok h
def k_G_Sums : List SV := [.a [.d, .r (.floats .f32 [])]]
def G_Sums_b0 (r0 : List (List Int) × Int) (x0 : (Int × List Int)) : Option ((Int × List Int) ⊕ (List Int)) :=
  if x0.1 < (↑(List.length r0.1) : Int) then
   if (0 : Int) ≤ x0.1 ∧ x0.1 < (↑(List.length r0.1) : Int) then
    if Int.toNat x0.1 < List.length r0.1 then
     if (List.length x0.2 + List.length [List.getD (List.getD r0.1 (Int.toNat x0.1) []) (0 : Nat) (0 : Int)]) * (8 : Nat) ≤ (140737488355328 : Nat) ∧ List.length x0.2 + List.length [List.getD (List.getD r0.1 (Int.toNat x0.1) []) (0 : Nat) (0 : Int)] ≤ (9223372036854775807 : Nat) then
      some (.inl ((IntKind.wrap .i64 (x0.1 + (1 : Int)), x0.2 ++ [List.getD (List.getD r0.1 (Int.toNat x0.1) []) (0 : Nat) (0 : Int)])))
     else none
    else none
   else none
  else
   some (.inr x0.2)
def G_Sums_r0 (r0 : List (List Int) × Int) (u17 : List Int) : Option (List Int × Int) :=
  some (u17, r0.2)
def G_Sums (u16 : Int) (u15 : List Nat) : Option (List Int × Int) :=
  Option.bind (y46 u16 u15 (0 : Int) (0 : Int)) fun r0 =>
  Option.bind (iter (G_Sums_b0 r0) big (((0 : Int), []))) (G_Sums_r0 r0)
def g_G_Sums : List Lf → Option GT
  | [.d (.i .i64 u16), .r (.floats .f32 u15)] => some (.leaf (ok (G_Sums u16 u15)) [.c (.row 3 (.ints .i64 ((val (G_Sums u16 u15)).1))), .c (.d (.i .i64 ((val (G_Sums u16 u15)).2)))])
  | _ => none
abbrev sp_34 : Specs → Specs := addK 34 true (pureT k_G_Sums g_G_Sums)
private abbrev w9q0 (u16 : Int) (u15 : List Nat) := (val (y46 u16 u15 (0 : Int) (0 : Int)))
set_option maxRecDepth 100000 in
theorem G_Sums_vc (u16 : Int) (u15 : List Nat) (r : List Int × Int) (h : Option.bind (G_Sums u16 u15) some = some r) : runT Tryd.f34 ((sp_33 sp0)) (fun gs id _ => match id with
 | 0 => some ⟨(Int × List Int) × Nat, fun z => ⟨[(5, .w (.c (.d (.i .i64 ((val (y46 u16 u15 (0 : Int) (0 : Int))).2))))), (6, .w (.c (.o 1))), (15, .w (.c (.o 2))), (16, .w (.c (.d (.i .i64 ((↑(List.length (val (y46 u16 u15 (0 : Int) (0 : Int))).1) : Int)))))), (17, .w (.c (.d (.i .i64 (Prod.fst (Prod.fst z))))))], [(1, .row 3 (.ints .i64 (Prod.snd (Prod.fst z)))), (2, .rrow (.recs 2 ((val (y46 u16 u15 (0 : Int) (0 : Int))).1)))], 3⟩, fun z => Option.bind (iter (G_Sums_b0 (val (y46 u16 u15 (0 : Int) (0 : Int)))) (Prod.snd z) (Prod.fst z)) (fun y0 => Option.bind (G_Sums_r0 (val (y46 u16 u15 (0 : Int) (0 : Int))) y0) some) = some r, fun z => Prod.snd z⟩
 | _ => none) (bldD k_G_Sums [.d (.i .i64 u16), .r (.floats .f32 u15)]) [.c (.row 3 (.ints .i64 r.1)), .c (.d (.i .i64 r.2))] := by
  refine Eq.mp (by kernel_rfl : (
 (Ob (ok (y46 u16 u15 (0 : Int) (0 : Int))) ∧
   ((∃ (v0 : (Int × List Int) × Nat), (Ob ((Option.bind (iter (G_Sums_b0 (w9q0 u16 u15)) v0.2 v0.1) fun y0 => Option.bind (G_Sums_r0 (w9q0 u16 u15) y0) some) = some r) ∧
 (Ob ((w9q0 u16 u15).2 = (w9q0 u16 u15).2) ∧
 (Ob ((↑(List.length (w9q0 u16 u15).1) : Int) = (↑(List.length (w9q0 u16 u15).1) : Int)) ∧
 (Ob ((0 : Int) = v0.1.1) ∧
 (Ob (List.length v0.1.2 = (0 : Nat)) ∧
 (Ob ((w9q0 u16 u15).1 = (w9q0 u16 u15).1) ∧
 True))))))) ∧
   (∀ (v0 : (Int × List Int) × Nat), ((Option.bind (iter (G_Sums_b0 (w9q0 u16 u15)) v0.2 v0.1) fun y0 => Option.bind (G_Sums_r0 (w9q0 u16 u15) y0) some) = some r →
 Br (decide (v0.1.1 < (↑(List.length (w9q0 u16 u15).1) : Int)))
   ((Ob ((0 : Int) ≤ v0.1.1 ∧ v0.1.1 < (↑(List.length (w9q0 u16 u15).1) : Int)) ∧
 (Ob (Int.toNat v0.1.1 < List.length (w9q0 u16 u15).1) ∧
 (Ob ((List.length v0.1.2 + List.length [List.getD (List.getD (w9q0 u16 u15).1 (Int.toNat v0.1.1) []) (0 : Nat) (0 : Int)]) * (8 : Nat) ≤ (140737488355328 : Nat) ∧ List.length v0.1.2 + List.length [List.getD (List.getD (w9q0 u16 u15).1 (Int.toNat v0.1.1) []) (0 : Nat) (0 : Int)] ≤ (9223372036854775807 : Nat)) ∧
   (∃ (v1 : (Int × List Int) × Nat), (Ob ((Option.bind (iter (G_Sums_b0 (w9q0 u16 u15)) v1.2 v1.1) fun y0 => Option.bind (G_Sums_r0 (w9q0 u16 u15) y0) some) = some r) ∧
 (Ob (v1.2 < v0.2) ∧
 (Ob ((w9q0 u16 u15).2 = (w9q0 u16 u15).2) ∧
 (Ob ((↑(List.length (w9q0 u16 u15).1) : Int) = (↑(List.length (w9q0 u16 u15).1) : Int)) ∧
 (Ob (IntKind.wrap .i64 (v0.1.1 + (1 : Int)) = v1.1.1) ∧
 (Ob (v0.1.2 ++ [List.getD (List.getD (w9q0 u16 u15).1 (Int.toNat v0.1.1) []) (0 : Nat) (0 : Int)] = v1.1.2) ∧
 (Ob ((w9q0 u16 u15).1 = (w9q0 u16 u15).1) ∧
 True))))))))))))
   ((Ob (True) ∧
 (Ob (True) ∧
 (Ob (v0.1.2 = r.1) ∧
 (Ob ((w9q0 u16 u15).2 = r.2) ∧
 True)))))))))) = _) ?_
  refine call_s h fun h => ?_
  refine ⟨⟨(((0 : Int), []), big), ⟨loop_s h⟩, (by repeat' constructor)⟩, fun z1 hz1 => ?_⟩
  obtain ⟨k1, hm1, h⟩ := iter_pos hz1
  refine br_d h (fun h => ?_) (fun h => ?_)
  · refine ob_s h fun h => ?_
    refine ob_s h fun h => ?_
    refine ob_s h fun h => ?_
    exact ⟨((IntKind.wrap .i64 ((Prod.fst z1).1 + (1 : Int)), (Prod.fst z1).2 ++ [List.getD (List.getD (val (y46 u16 u15 (0 : Int) (0 : Int))).1 (Int.toNat (Prod.fst z1).1) []) (0 : Nat) (0 : Int)]), k1), ⟨next_s h⟩, ⟨lt_gs hm1.symm⟩, (by repeat' constructor)⟩
  · have h := exit_s h
    refine ob_t ?_
    refine ob_t ?_
    exact ret_s h (fun e => by subst e; exact (by repeat' constructor))
set_option maxRecDepth 100000 in
theorem G_Sums_ok : SpecOK Tryd.prog 34 true (pureT k_G_Sums g_G_Sums) := by
  refine pureT_ok (sp := (sp_33 sp0)) (fn := Tryd.f34) (body := bodyOf Tryd.f34) mixed (sp_33_ok sp0_ok) Tryd.func34 (by kernel_rfl) (by kernel_rfl) fun ls t h ho b hb => ?_
  unfold g_G_Sums at h
  split at h
  · rename_i u16 u15
    cases h
    obtain rfl := bld_eq hb
    exact ⟨Nat.le_of_ble_eq_true (by kernel_rfl), _, _, G_Sums_vc u16 u15 _ (ok_some ho)⟩
  · cases h
theorem sp_34_ok {sp : Specs} (h : SpecsOK Tryd.prog sp) : SpecsOK Tryd.prog (sp_34 sp) := addK_ok G_Sums_ok h
end Go.Sh
end

section
namespace Go.Sh
open Go Go.Proofs Go.RowKit Go.Sx Go.Sx06 Ieee Go.Fl
def dcT (times rate blo bhi elo ehi : Int) : Int × Int × Int := (times * max 0 (elo - bhi) * 1000000 / rate, (times * (ehi - blo) * 1000000 + rate - 1) / rate, 0)
def decS (rate : Int) (zs : List (List Int)) (T kind : Int) : Int × Int × Int :=
  if sLo zs = 0 then (0, 0, 11) else
  if kind = 0 then (if (pasS zs T 2).2.2 = false then (0, 0, 12) else dcT 6 rate 0 0 (pasS zs T 2).1 (pasS zs T 2).2.1) else
  if kind = 1 then (if (pasS zs T 1).2.2 = false then (0, 0, 12) else if (pasS zs T 5).2.2 = false then (0, 0, 12) else dcT 3 rate (pasS zs T 1).1 (pasS zs T 1).2.1 (pasS zs T 5).1 (pasS zs T 5).2.1) else
  (if (pasS zs T 1).2.2 = false then (0, 0, 12) else if (pasS zs T 7).2.2 = false then (0, 0, 12) else dcT 2 rate (pasS zs T 1).1 (pasS zs T 1).2.1 (pasS zs T 7).1 (pasS zs T 7).2.1)
def decW (rate : Int) (l : List Nat) (noise tail kind : Int) : Int × Int × Int :=
  if (askE rate l noise tail).2 ≠ 0 then (0, 0, (askE rate l noise tail).2) else if ¬ (0 ≤ kind ∧ kind ≤ 2) then (0, 0, 15) else decS rate (zsO noise l) tail kind
theorem ask_zok {rate : Int} {l : List Nat} {noise tail : Int} (h : (askE rate l noise tail).2 = 0) : ZOK (zsO noise l) tail ∧ (8000 ≤ rate ∧ rate ≤ 192000) ∧ (∀ x ∈ l, se x = 0) ∧ l.length ≤ 1024 ∧ (0 ≤ noise ∧ noise ≤ 32767) ∧ (0 ≤ tail ∧ tail ≤ 1000000000000) ∧ 0 < l.length := by
  obtain ⟨hr, hn, ht⟩ := askE_zero h
  obtain ⟨h1, h2, h3, h4⟩ := resE_zero hr
  exact ⟨⟨by rw [zsO_len]; omega, zsO_ok hn h4, ht⟩, h1, h4, h3, hn, ht, h2⟩
theorem open_bad {rate : Int} {l : List Nat} {noise tail : Int} (hl : l.length < 1000000000000) (h : (askE rate l noise tail).2 ≠ 0) : G_open rate l noise tail = some ((askE rate l noise tail).2, [], []) := by
  rw [open_eq rate noise tail hl, if_pos h]
theorem open_good {rate : Int} {l : List Nat} {noise tail : Int} (hl : l.length < 1000000000000) (h : (askE rate l noise tail).2 = 0) : G_open rate l noise tail = some (0, zsO noise l, ssO (zsO noise l) tail) := by
  rw [open_eq rate noise tail hl, if_neg (by omega)]
theorem bne_t {a : Int} (h : a ≠ 0) : (a != (0 : Int)) = true := by simpa using h
theorem bne_f {a : Int} (h : a = 0) : (a != (0 : Int)) = false := by rw [h]; rfl
section
variable {zs : List (List Int)} {T f : Int} {rate noise tl : Int} {l : List Nat}
theorem pas_range (hz : ZOK zs T) (h : (pasS zs T f).2.2 = true) : 0 ≤ (pasS zs T f).1 ∧ (pasS zs T f).1 ≤ (pasS zs T f).2.1 ∧ (pasS zs T f).2.1 < (zs.length : Int) := by
  obtain ⟨i, j, _, _, hij, hj, e⟩ := pas_true hz h
  rw [e]
  dsimp only
  omega
theorem pas_after {g : Int} (hz : ZOK zs T) (hfg : p10 f ≤ p10 g) (hf : (pasS zs T f).2.2 = true) (hg : (pasS zs T g).2.2 = true) : (pasS zs T f).1 ≤ (pasS zs T g).2.1 := by
  obtain ⟨i, j, hs, _, hij, hj, e⟩ := pas_true hz hf
  obtain ⟨i', j', hs', _, hij', hj', e'⟩ := pas_true hz hg
  obtain ⟨k, hk, hkj⟩ := sf_fives hfg hs'
  rw [hs] at hk
  cases hk
  rw [e, e']
  dsimp only
  omega
theorem dc_lo {times rate d : Int} (ht : 0 ≤ times ∧ times ≤ 6) (hr : 8000 ≤ rate) (hd : -1024 ≤ d ∧ d ≤ 1024) :
    IntKind.wrap IntKind.i64 (IntKind.wrap IntKind.i64 (times * if IntKind.wrap IntKind.i64 d > (0 : Int) then IntKind.wrap IntKind.i64 d else (0 : Int)) * (1000000 : Int)) = times * max 0 d * 1000000 ∧ 0 ≤ times * max 0 d * 1000000 ∧ times * max 0 d * 1000000 ≤ 6144000000 := by
  rw [wr64 (x := d) (by omega)]
  have e : (if d > 0 then d else 0) = max 0 d := by split <;> omega
  have h1 := Int.mul_nonneg ht.1 (show 0 ≤ max 0 d by omega)
  have h2 := Int.mul_le_mul ht.2 (show max 0 d ≤ 1024 by omega) (by omega) (by omega)
  rw [e, wr64 (x := times * max 0 d) (by omega), wr64 (by omega)]
  omega
theorem dc_hi {times d : Int} (ht : 0 ≤ times ∧ times ≤ 6) (hd : 0 ≤ d ∧ d ≤ 1024) :
    IntKind.wrap IntKind.i64 (IntKind.wrap IntKind.i64 (times * IntKind.wrap IntKind.i64 d) * (1000000 : Int)) = times * d * 1000000 ∧ 0 ≤ times * d * 1000000 ∧ times * d * 1000000 ≤ 6144000000 := by
  have h1 := Int.mul_nonneg ht.1 hd.1
  have h2 := Int.mul_le_mul ht.2 hd.2 (by omega) (by omega)
  rw [wr64 (x := d) (by omega), wr64 (x := times * d) (by omega), wr64 (by omega)]
  omega
theorem tdiv_w {n rate : Int} (hr : 8000 ≤ rate) (hn : 0 ≤ n ∧ n ≤ 9223372036854775807) : IntKind.wrap IntKind.i64 (Int.tdiv n rate) = n / rate := by
  have h1 : 0 ≤ n / rate := Int.ediv_nonneg hn.1 (by omega)
  have h2 := Int.ediv_le_self rate hn.1
  rw [Int.tdiv_eq_ediv_of_nonneg hn.1, wr64 (by omega)]
theorem decayTimeG_eq {kind : Int} (hz : ZOK zs T) (hr : 8000 ≤ rate ∧ rate ≤ 192000) (hk : 0 ≤ kind ∧ kind ≤ 2) : y29 rate l noise tl zs (ssO zs T) kind = some (decS rate zs T kind) := by
  unfold y29 decS
  have hlen := hz.len
  rw [ssO_len, if_pos (by omega), if_pos (by omega), ss_zero.1]
  by_cases h0 : sLo zs = 0
  · rw [if_pos (show (sLo zs == 0) = true by simpa using h0), if_pos h0]
  rw [if_neg (show ¬ (sLo zs == 0) = true by simpa using h0), if_neg h0, if_pos (show (0 : Int) ≤ kind ∧ kind < ((3 : Nat) : Int) by omega)]
  have hk3 : kind = 0 ∨ kind = 1 ∨ kind = 2 := by omega
  rcases hk3 with rfl | rfl | rfl
  · rw [if_pos (show Int.toNat 0 < slopesT.length by decide), if_pos (show (0 : Int) = 0 from rfl)]
    have e1 : ((slopesT.getD (Int.toNat 0) []).getD 0 0 : Int) = 0 := rfl
    have e2 : ((slopesT.getD (Int.toNat 0) []).getD 1 0 : Int) = 2 := rfl
    have e3 : ((slopesT.getD (Int.toNat 0) []).getD 2 0 : Int) = 6 := rfl
    rw [e1, e2, e3, if_neg (show ¬ ((0 : Int) > 0) by omega), passingG_eq hz (by omega), bind_some']
    cases hp : (pasS zs T 2).2.2 with
    | false => rw [if_pos (by rfl), if_pos rfl]
    | true =>
      have hg := pas_range hz hp
      rw [if_neg (show ¬ ((!true) = true) by decide), if_neg (show ¬ (true = false) by decide), if_pos (show rate ≠ 0 by omega)]
      obtain ⟨a1, a2, a3⟩ := dc_lo (times := 6) (rate := rate) (d := (pasS zs T 2).1 - 0) (by omega) (by omega) (by omega)
      obtain ⟨b1, b2, b3⟩ := dc_hi (times := 6) (d := (pasS zs T 2).2.1 - 0) (by omega) (by omega)
      rw [a1, b1, ceilG_eq (by omega) b2 (by omega), bind_some', tdiv_w (by omega) (by omega)]
      rfl
  · rw [if_pos (show Int.toNat 1 < slopesT.length by decide), if_neg (show ¬ ((1 : Int) = 0) by omega), if_pos (show (1 : Int) = 1 from rfl)]
    have e1 : ((slopesT.getD (Int.toNat 1) []).getD 0 0 : Int) = 1 := rfl
    have e2 : ((slopesT.getD (Int.toNat 1) []).getD 1 0 : Int) = 5 := rfl
    have e3 : ((slopesT.getD (Int.toNat 1) []).getD 2 0 : Int) = 3 := rfl
    rw [e1, e2, e3, if_pos (show (1 : Int) > 0 by omega), passingG_eq hz (by omega), bind_some']
    cases hp : (pasS zs T 1).2.2 with
    | false => rw [if_pos (by rfl), if_pos rfl]
    | true =>
      have hg := pas_range hz hp
      rw [if_neg (show ¬ ((!true) = true) by decide), if_neg (show ¬ (true = false) by decide), passingG_eq hz (by omega), bind_some']
      cases hq : (pasS zs T 5).2.2 with
      | false => rw [if_pos (by rfl), if_pos rfl]
      | true =>
        have hg' := pas_range hz hq
        have haf := pas_after (f := 1) (g := 5) hz (by decide) hp hq
        rw [if_neg (show ¬ ((!true) = true) by decide), if_neg (show ¬ (true = false) by decide), if_pos (show rate ≠ 0 by omega)]
        obtain ⟨a1, a2, a3⟩ := dc_lo (times := 3) (rate := rate) (d := (pasS zs T 5).1 - (pasS zs T 1).2.1) (by omega) (by omega) (by omega)
        obtain ⟨b1, b2, b3⟩ := dc_hi (times := 3) (d := (pasS zs T 5).2.1 - (pasS zs T 1).1) (by omega) (by omega)
        rw [a1, b1, ceilG_eq (by omega) b2 (by omega), bind_some', tdiv_w (by omega) (by omega)]
        rfl
  · rw [if_pos (show Int.toNat 2 < slopesT.length by decide), if_neg (show ¬ ((2 : Int) = 0) by omega), if_neg (show ¬ ((2 : Int) = 1) by omega)]
    have e1 : ((slopesT.getD (Int.toNat 2) []).getD 0 0 : Int) = 1 := rfl
    have e2 : ((slopesT.getD (Int.toNat 2) []).getD 1 0 : Int) = 7 := rfl
    have e3 : ((slopesT.getD (Int.toNat 2) []).getD 2 0 : Int) = 2 := rfl
    rw [e1, e2, e3, if_pos (show (1 : Int) > 0 by omega), passingG_eq hz (by omega), bind_some']
    cases hp : (pasS zs T 1).2.2 with
    | false => rw [if_pos (by rfl), if_pos rfl]
    | true =>
      have hg := pas_range hz hp
      rw [if_neg (show ¬ ((!true) = true) by decide), if_neg (show ¬ (true = false) by decide), passingG_eq hz (by omega), bind_some']
      cases hq : (pasS zs T 7).2.2 with
      | false => rw [if_pos (by rfl), if_pos rfl]
      | true =>
        have hg' := pas_range hz hq
        have haf := pas_after (f := 1) (g := 7) hz (by decide) hp hq
        rw [if_neg (show ¬ ((!true) = true) by decide), if_neg (show ¬ (true = false) by decide), if_pos (show rate ≠ 0 by omega)]
        obtain ⟨a1, a2, a3⟩ := dc_lo (times := 2) (rate := rate) (d := (pasS zs T 7).1 - (pasS zs T 1).2.1) (by omega) (by omega) (by omega)
        obtain ⟨b1, b2, b3⟩ := dc_hi (times := 2) (d := (pasS zs T 7).2.1 - (pasS zs T 1).1) (by omega) (by omega)
        rw [a1, b1, ceilG_eq (by omega) b2 (by omega), bind_some', tdiv_w (by omega) (by omega)]
        rfl
theorem decayWithinG_eq (rate : Int) {l : List Nat} (noise tail kind : Int) (hl : l.length < 1000000000000) : y32 rate l noise tail kind = some (decW rate l noise tail kind) := by
  unfold y32 decW
  rw [open_e rate noise tail hl]
  by_cases h : (askE rate l noise tail).2 = 0
  · obtain ⟨hz, hr, _⟩ := ask_zok h
    rw [if_neg (by rw [h]; simp), open_good hl h, bind_some', withinG_eq, bind_some', if_neg (show ¬ (askE rate l noise tail).2 ≠ 0 by omega)]
    by_cases hk : 0 ≤ kind ∧ kind ≤ 2
    · rw [nd_t hk, if_neg Bool.false_ne_true, if_neg (fun h => h hk), decayTimeG_eq hz hr hk]
      rfl
    · rw [nd_f hk, if_pos rfl, if_pos hk]
  · rw [if_pos (bne_t h), open_bad hl h, bind_some', if_pos (bne_t h), if_pos h]
theorem decayG_eq (rate : Int) {l : List Nat} (kind : Int) (hl : l.length < 1000000000000) : y93 rate l kind = some (decW rate l 0 0 kind) := by
  unfold y93
  rw [decayWithinG_eq rate 0 0 kind hl]
  rfl
end
def fewB (l : List Nat) : Bool := decide (l.length ≤ 700 ∨ (1024 < l.length ∧ l.length ≤ 1026))
theorem few_eq (rate : Int) (l : List Nat) : L05_Few rate l = some (fewB l) := by
  unfold L05_Few fewB
  by_cases h : l.length ≤ 700
  · rw [if_pos (by omega), decide_eq_true (show _ ∨ _ from .inl h)]
  · rw [if_neg (by omega)]
    by_cases h2 : 1024 < l.length
    · rw [if_pos (by omega)]
      congr 1
      rw [decide_eq_decide]
      omega
    · rw [if_neg (by omega), decide_eq_false (by omega)]
theorem beq_f {a b : Int} (h : a ≠ b) : (a == b) = false := by simpa using h
theorem few_len {l : List Nat} (h : fewB l = true) : l.length < 1000000000000 := by
  unfold fewB at h
  simp only [decide_eq_true_eq] at h
  omega
theorem copyResponse_eq (rate : Int) {l : List Nat} (h : l.length < 1000000000000) : y4 rate l = some (rate, l) := by
  unfold y4
  rw [if_pos (by omega), List.nil_append]
theorem copyR_eq (rate : Int) {l : List Nat} (noise tail : Int) (h : l.length < 1000000000000) : y3 rate l noise tail = some (rate, l, noise, tail) := by
  unfold y3
  rw [copyResponse_eq rate h]
  rfl
end Go.Sh
end

section
namespace Go.Sh
open Go Go.Proofs Go.RowKit Go.Sx Go.Sx06 Ieee Go.Fl
end Go.Sh
end

section
namespace Go.Sh
open Go Go.Proofs Go.RowKit Go.Sx Go.Sx06 Ieee Go.Fl
end Go.Sh
end

section
namespace Go.Sh
open Go Go.Proofs Go.RowKit Go.Sx Go.Sx06 Ieee Go.Fl
structure Nest (zs1 : List (List Int)) (T1 : Int) (zs2 : List (List Int)) (T2 : Int) : Prop where
  z1 : ZOK zs1 T1
  z2 : ZOK zs2 T2
  len : zs2.length ≤ zs1.length
  lo : ∀ i, i ≤ zs2.length → sLo (zs2.drop i) ≤ sLo (zs1.drop i)
  hi : ∀ i, i ≤ zs2.length → sHi (zs1.drop i) + T1 ≤ sHi (zs2.drop i) + T2
  elo : ∀ i, i ≤ zs2.length → sLo (zs2.take i) ≤ sLo (zs1.take i)
  ehi : ∀ i, i ≤ zs2.length → sHi (zs1.take i) ≤ sHi (zs2.take i)
section
variable {zs1 zs2 : List (List Int)} {T1 T2 f rate : Int}
theorem Nest.all (h : Nest zs1 T1 zs2 T2) : sLo zs2 ≤ sLo zs1 ∧ sHi zs1 + T1 ≤ sHi zs2 + T2 := by
  have a := h.lo 0 (Nat.zero_le _)
  have b := h.hi 0 (Nat.zero_le _)
  simp only [List.drop_zero] at a b
  exact ⟨a, b⟩
theorem pas_nest (h : Nest zs1 T1 zs2 T2) (hp : (pasS zs2 T2 f).2.2 = true) :
    (pasS zs1 T1 f).2.2 = true ∧ (pasS zs2 T2 f).1 ≤ (pasS zs1 T1 f).1 ∧ (pasS zs1 T1 f).2.1 ≤ (pasS zs2 T2 f).2.1 := by
  obtain ⟨i2, j2, hs2, hp2, hij, hj2, e2⟩ := pas_true h.z2 hp
  obtain ⟨_, b2, _⟩ := sf_some hs2
  have h0 := h.all
  have a1 := h.z1.all
  have a2 := h.z2.all
  have hl := h.len
  have B : fB (sHi (zs1.drop j2) + T1) (sLo zs1) f = true :=
    fB_mono ⟨by have := h.z1.at_ (i := j2) (by omega); omega, h.hi j2 (by omega)⟩ ⟨a2.1, h0.1⟩ (p10_pos f) b2
  obtain ⟨j1, hs1, hle1⟩ : ∃ j1, sfI zs1 T1 f = some j1 ∧ j1 ≤ j2 := by
    unfold sfI
    refine idx_le (d := []) (by rw [ssO_len]; omega) ?_
    rw [(ss_get (zs := zs1) (T := T1) (i := j2) (by omega)).2]
    exact B
  obtain ⟨i1, hp1, hi1⟩ := ph_of_sf h.z1 hs1
  obtain ⟨_, c1, _⟩ := ph_some hp1
  have C : fB (sLo (zs2.drop i1)) (sHi zs2 + T2) f = true :=
    fB_mono ⟨(h.z2.at_ (i := i1) (by omega)).1, h.lo i1 (by omega)⟩ ⟨by omega, h0.2⟩ (p10_pos f) c1
  have hii : i2 ≤ i1 := by
    refine Nat.le_of_not_lt fun hh => ?_
    have := (ph_some hp2).2.2 i1 hh
    rw [C] at this
    cases this
  have e1 : pasS zs1 T1 f = (max 0 ((i1 : Int) - 1), (j1 : Int), true) := by
    unfold pasS
    rw [hs1]
    simp only
    rw [if_neg (by omega), hp1]
    rfl
  rw [e1, e2]
  refine ⟨rfl, ?_, ?_⟩ <;> dsimp only <;> omega
theorem dc_nest {times a1 b1 c1 d1 a2 b2 c2 d2 : Int} (ht : 0 ≤ times) (hr : 0 < rate) (ha : a2 ≤ a1) (hb : b1 ≤ b2) (hc : c2 ≤ c1) (hd : d1 ≤ d2) :
    (dcT times rate a1 b1 c1 d1).2.2 = 0 ∧ (dcT times rate a2 b2 c2 d2).1 ≤ (dcT times rate a1 b1 c1 d1).1 ∧ (dcT times rate a1 b1 c1 d1).2.1 ≤ (dcT times rate a2 b2 c2 d2).2.1 := by
  unfold dcT
  refine ⟨rfl, Int.ediv_le_ediv hr ?_, Int.ediv_le_ediv hr ?_⟩
  · have := Int.mul_le_mul_of_nonneg_left (show max 0 (c2 - b2) ≤ max 0 (c1 - b1) by omega) ht
    omega
  · have := Int.mul_le_mul_of_nonneg_left (show d1 - a1 ≤ d2 - a2 by omega) ht
    omega
theorem dec_nest {kind : Int} (h : Nest zs1 T1 zs2 T2) (hr : 8000 ≤ rate) (he : (decS rate zs2 T2 kind).2.2 = 0) :
    (decS rate zs1 T1 kind).2.2 = 0 ∧ (decS rate zs2 T2 kind).1 ≤ (decS rate zs1 T1 kind).1 ∧ (decS rate zs1 T1 kind).2.1 ≤ (decS rate zs2 T2 kind).2.1 := by
  have h0 := h.all
  have a2 := h.z2.all
  have one : ∀ {g : Int}, (pasS zs2 T2 g).2.2 = true → _ := fun {g} hp => pas_nest (f := g) h hp
  unfold decS at he ⊢
  by_cases hz : sLo zs2 = 0
  · rw [if_pos hz] at he
    exact absurd he (by decide)
  simp only [if_neg hz, if_neg (show ¬ sLo zs1 = 0 by omega)] at he ⊢
  by_cases k0 : kind = 0
  · simp only [if_pos k0] at he ⊢
    cases hp : (pasS zs2 T2 2).2.2 with
    | false => simp [hp] at he
    | true =>
      obtain ⟨b1, b2, b3⟩ := one hp
      simp only [b1, Bool.true_eq_false, if_false]
      exact dc_nest (by omega) (by omega) (by omega) (by omega) b2 b3
  · simp only [if_neg k0] at he ⊢
    have two : ∀ g times : Int, 0 ≤ times → ((if (pasS zs2 T2 1).2.2 = false then (0, 0, 12) else if (pasS zs2 T2 g).2.2 = false then (0, 0, 12) else dcT times rate (pasS zs2 T2 1).1 (pasS zs2 T2 1).2.1 (pasS zs2 T2 g).1 (pasS zs2 T2 g).2.1) : Int × Int × Int).2.2 = 0 →
        ((if (pasS zs1 T1 1).2.2 = false then (0, 0, 12) else if (pasS zs1 T1 g).2.2 = false then (0, 0, 12) else dcT times rate (pasS zs1 T1 1).1 (pasS zs1 T1 1).2.1 (pasS zs1 T1 g).1 (pasS zs1 T1 g).2.1) : Int × Int × Int).2.2 = 0 ∧
        ((if (pasS zs2 T2 1).2.2 = false then (0, 0, 12) else if (pasS zs2 T2 g).2.2 = false then (0, 0, 12) else dcT times rate (pasS zs2 T2 1).1 (pasS zs2 T2 1).2.1 (pasS zs2 T2 g).1 (pasS zs2 T2 g).2.1) : Int × Int × Int).1 ≤ ((if (pasS zs1 T1 1).2.2 = false then (0, 0, 12) else if (pasS zs1 T1 g).2.2 = false then (0, 0, 12) else dcT times rate (pasS zs1 T1 1).1 (pasS zs1 T1 1).2.1 (pasS zs1 T1 g).1 (pasS zs1 T1 g).2.1) : Int × Int × Int).1 ∧
        ((if (pasS zs1 T1 1).2.2 = false then (0, 0, 12) else if (pasS zs1 T1 g).2.2 = false then (0, 0, 12) else dcT times rate (pasS zs1 T1 1).1 (pasS zs1 T1 1).2.1 (pasS zs1 T1 g).1 (pasS zs1 T1 g).2.1) : Int × Int × Int).2.1 ≤ ((if (pasS zs2 T2 1).2.2 = false then (0, 0, 12) else if (pasS zs2 T2 g).2.2 = false then (0, 0, 12) else dcT times rate (pasS zs2 T2 1).1 (pasS zs2 T2 1).2.1 (pasS zs2 T2 g).1 (pasS zs2 T2 g).2.1) : Int × Int × Int).2.1 := by
      intro g times ht hx
      cases hp : (pasS zs2 T2 1).2.2 with
      | false => simp [hp] at hx
      | true =>
        cases hq : (pasS zs2 T2 g).2.2 with
        | false => simp [hp, hq] at hx
        | true =>
          obtain ⟨b1, b2, b3⟩ := one hp
          obtain ⟨c1, c2, c3⟩ := one hq
          simp only [b1, c1, Bool.true_eq_false, if_false]
          exact dc_nest ht (by omega) b2 b3 c2 c3
    by_cases k1 : kind = 1
    · simp only [if_pos k1] at he ⊢
      exact two 5 3 (by omega) he
    · simp only [if_neg k1] at he ⊢
      exact two 7 2 (by omega) he
end
theorem decS_le {zs : List (List Int)} {T rate kind : Int} (hz : ZOK zs T) (hr : 8000 ≤ rate) : (decS rate zs T kind).1 ≤ (decS rate zs T kind).2.1 := by
  have dc : ∀ {times a b c d : Int}, 0 ≤ times → a ≤ b → c ≤ d → a ≤ d → (dcT times rate a b c d).1 ≤ (dcT times rate a b c d).2.1 := by
    intro times a b c d ht h1 h2 h3
    unfold dcT
    refine Int.ediv_le_ediv (by omega) ?_
    have := Int.mul_le_mul_of_nonneg_left (show max 0 (c - b) ≤ d - a by omega) ht
    show times * max 0 (c - b) * 1000000 ≤ times * (d - a) * 1000000 + rate - 1
    omega
  unfold decS
  have two : ∀ g times : Int, 0 ≤ times → p10 1 ≤ p10 g → ((if (pasS zs T 1).2.2 = false then (0, 0, 12) else if (pasS zs T g).2.2 = false then (0, 0, 12) else dcT times rate (pasS zs T 1).1 (pasS zs T 1).2.1 (pasS zs T g).1 (pasS zs T g).2.1) : Int × Int × Int).1 ≤
      ((if (pasS zs T 1).2.2 = false then (0, 0, 12) else if (pasS zs T g).2.2 = false then (0, 0, 12) else dcT times rate (pasS zs T 1).1 (pasS zs T 1).2.1 (pasS zs T g).1 (pasS zs T g).2.1) : Int × Int × Int).2.1 := by
    intro g times ht hg
    cases hp : (pasS zs T 1).2.2 with
    | false => simp
    | true =>
      cases hq : (pasS zs T g).2.2 with
      | false => simp
      | true =>
        simp only [Bool.true_eq_false, if_false]
        have r1 := pas_range hz hp
        have r2 := pas_range hz hq
        have r3 := pas_after hz hg hp hq
        exact dc ht r1.2.1 r2.2.1 r3
  split
  · simp
  · split
    · cases hp : (pasS zs T 2).2.2 with
      | false => simp
      | true =>
        simp only [Bool.true_eq_false, if_false]
        have r1 := pas_range hz hp
        exact dc (by omega) (by omega) r1.2.1 (by omega)
    · split
      · exact two 5 3 (by omega) (by decide)
      · exact two 7 2 (by omega) (by decide)
end Go.Sh
end

section
namespace Go.Sh
open Go Go.Proofs Go.RowKit Go.Sx Go.Sx06 Ieee Go.Fl
theorem p10_nine {f : Int} (h : 0 ≤ f ∧ f ≤ 9) : 1 ≤ p10 f ∧ p10 f ≤ 1000000000 := by
  rcases (by omega : f = 0 ∨ f = 1 ∨ f = 2 ∨ f = 3 ∨ f = 4 ∨ f = 5 ∨ f = 6 ∨ f = 7 ∨ f = 8 ∨ f = 9) with rfl | rfl | rfl | rfl | rfl | rfl | rfl | rfl | rfl | rfl <;> exact ⟨by decide, by decide⟩
theorem ratioG_eq {num den parts tens : Int} (hn : 1 ≤ num ∧ num ≤ 10000000000000) (hd : 1 ≤ den ∧ den ≤ 10000000000000) (hp : 1 ≤ parts ∧ parts ≤ 8000000000) (ht : -9 ≤ tens ∧ tens ≤ 9) :
    y35 num den parts tens = some (if parts * p10 (max tens 0) * den < 1000000000 * p10 (max (-tens) 0) * num then -1 else if 1000000000 * p10 (max (-tens) 0) * num < parts * p10 (max tens 0) * den then 1 else 0) := by
  have h9 : y6 (1000000000 : Int) num = some (1000000000 * num / 18446744073709551616, 1000000000 * num % 18446744073709551616) := mul64_all (by omega) (by omega) (by omega) (by omega)
  unfold y35
  by_cases h : tens ≥ 0
  · obtain ⟨hq, _⟩ := powers_eq (f := tens) (by omega)
    have hp9 := p10_nine (f := tens) (by omega)
    rw [if_pos h, if_pos (by omega), if_pos (by rw [powers_len]; omega), hq]
    have hL0 : 0 ≤ parts * p10 tens := Int.mul_nonneg (by omega) (by omega)
    have hL1 := Int.mul_le_mul hp.2 hp9.2 (show 0 ≤ p10 tens by omega) (show (0 : Int) ≤ 8000000000 by omega)
    have eL : IntKind.wrap IntKind.u64 (parts * p10 tens) = parts * p10 tens := by rw [u64m]; exact Int.emod_eq_of_lt hL0 (by omega)
    rw [eL]
    have m1 := mul64_all (x := parts * p10 tens) (y := den) (by omega) (by omega) (by omega) (by omega)
    rw [m1, bind_some', h9, bind_some']
    unfold y6 at m1
    have e1 := congrArg Prod.fst (Option.some.inj m1)
    dsimp only at e1
    rw [e1, show max tens 0 = tens by omega, show max (-tens) 0 = 0 by omega, show p10 0 = 1 from rfl, Int.mul_one]
    have e2 : IntKind.wrap IntKind.u64 (IntKind.wrap IntKind.u64 (IntKind.wrap IntKind.u64 (Int.fdiv (1000000000 : Int) ((2 : Int) ^ min (32 : Nat) (IntKind.bits IntKind.u64)) * Int.fdiv num ((2 : Int) ^ min (32 : Nat) (IntKind.bits IntKind.u64))) + Int.fdiv (IntKind.wrap IntKind.u64 (IntKind.wrap IntKind.u64 (Int.fdiv (1000000000 : Int) ((2 : Int) ^ min (32 : Nat) (IntKind.bits IntKind.u64)) * IntKind.wrap IntKind.u64 (↑(BitVec.toNat (BitVec.ofInt (IntKind.bits IntKind.u64) num &&& BitVec.ofInt (IntKind.bits IntKind.u64) (4294967295 : Int))) : Int)) + Int.fdiv (IntKind.wrap IntKind.u64 ((1000000000 : Int) * IntKind.wrap IntKind.u64 (↑(BitVec.toNat (BitVec.ofInt (IntKind.bits IntKind.u64) num &&& BitVec.ofInt (IntKind.bits IntKind.u64) (4294967295 : Int))) : Int))) ((2 : Int) ^ min (32 : Nat) (IntKind.bits IntKind.u64)))) ((2 : Int) ^ min (32 : Nat) (IntKind.bits IntKind.u64))) + Int.fdiv (IntKind.wrap IntKind.u64 (IntKind.wrap IntKind.u64 (↑(BitVec.toNat (BitVec.ofInt (IntKind.bits IntKind.u64) (IntKind.wrap IntKind.u64 (IntKind.wrap IntKind.u64 (Int.fdiv (1000000000 : Int) ((2 : Int) ^ min (32 : Nat) (IntKind.bits IntKind.u64)) * IntKind.wrap IntKind.u64 (↑(BitVec.toNat (BitVec.ofInt (IntKind.bits IntKind.u64) num &&& BitVec.ofInt (IntKind.bits IntKind.u64) (4294967295 : Int))) : Int)) + Int.fdiv (IntKind.wrap IntKind.u64 ((1000000000 : Int) * IntKind.wrap IntKind.u64 (↑(BitVec.toNat (BitVec.ofInt (IntKind.bits IntKind.u64) num &&& BitVec.ofInt (IntKind.bits IntKind.u64) (4294967295 : Int))) : Int))) ((2 : Int) ^ min (32 : Nat) (IntKind.bits IntKind.u64)))) &&& BitVec.ofInt (IntKind.bits IntKind.u64) (4294967295 : Int))) : Int) + IntKind.wrap IntKind.u64 ((1000000000 : Int) * Int.fdiv num ((2 : Int) ^ min (32 : Nat) (IntKind.bits IntKind.u64))))) ((2 : Int) ^ min (32 : Nat) (IntKind.bits IntKind.u64))) = 1000000000 * num / 18446744073709551616 := by
      have e9 := h9
      unfold y6 at e9
      have e9 := congrArg Prod.fst (Option.some.inj e9)
      dsimp only at e9
      simp only [shr32, mask32, u64m, mw] at e9 ⊢
      rw [show (1000000000 : Int) % 4294967296 = 1000000000 from by decide] at e9
      exact e9
    rw [e2, u64m, u64m, slicesCmp_eq, bind_some', lex_eq]
  · obtain ⟨hq, _⟩ := powers_eq (f := -tens) (by omega)
    have hp9 := p10_nine (f := -tens) (by omega)
    have e0 : IntKind.wrap IntKind.i64 ((0 : Int) - tens) = -tens := by rw [wr64 (by omega), Int.zero_sub]
    rw [if_neg h, e0, if_pos (by omega), if_pos (by rw [powers_len]; omega), hq]
    have eL : IntKind.wrap IntKind.u64 (1000000000 * p10 (-tens)) = 1000000000 * p10 (-tens) := by rw [u64m]; exact Int.emod_eq_of_lt (by omega) (by omega)
    rw [eL]
    have m1 := mul64_all (x := parts) (y := den) (by omega) (by omega) (by omega) (by omega)
    have m2 := mul64_all (x := 1000000000 * p10 (-tens)) (y := num) (by omega) (by omega) (by omega) (by omega)
    rw [m1, bind_some', m2, bind_some']
    unfold y6 at m1 m2
    have e1 := congrArg Prod.fst (Option.some.inj m1)
    have e2 := congrArg Prod.fst (Option.some.inj m2)
    dsimp only at e1 e2
    rw [e1, e2, show max (-tens) 0 = -tens by omega, show max tens 0 = 0 by omega, show p10 0 = 1 from rfl, Int.mul_one, u64m, u64m, slicesCmp_eq, bind_some', lex_eq]
end Go.Sh
end

section
namespace Go.Sh
open Go Go.Proofs Go.RowKit Go.Sx
set_option linter.unusedVariables false
def k_math_bits_Len64 : List (Option Cont) := [none]
def y58 (x_ : Int) : Option Int :=
  if x_ ≥ (4294967296 : Int) then
   if Int.fdiv x_ ((2 : Int) ^ min (32 : Nat) (IntKind.bits .u64)) ≥ (65536 : Int) then
    if Int.fdiv (Int.fdiv x_ ((2 : Int) ^ min (32 : Nat) (IntKind.bits .u64))) ((2 : Int) ^ min (16 : Nat) (IntKind.bits .u64)) ≥ (256 : Int) then
     if (0 : Int) ≤ IntKind.wrap .u8 (Int.fdiv (Int.fdiv (Int.fdiv x_ ((2 : Int) ^ min (32 : Nat) (IntKind.bits .u64))) ((2 : Int) ^ min (16 : Nat) (IntKind.bits .u64))) ((2 : Int) ^ min (8 : Nat) (IntKind.bits .u64))) ∧ IntKind.wrap .u8 (Int.fdiv (Int.fdiv (Int.fdiv x_ ((2 : Int) ^ min (32 : Nat) (IntKind.bits .u64))) ((2 : Int) ^ min (16 : Nat) (IntKind.bits .u64))) ((2 : Int) ^ min (8 : Nat) (IntKind.bits .u64))) < (↑(ByteArray.size tab8) : Int) then
      some (IntKind.wrap .i64 (IntKind.wrap .i64 (IntKind.wrap .i64 ((32 : Int) + (16 : Int)) + (8 : Int)) + IntKind.wrap .i64 (↑(UInt8.toNat (Array.getD (ByteArray.data tab8) (Int.toNat (IntKind.wrap .u8 (Int.fdiv (Int.fdiv (Int.fdiv x_ ((2 : Int) ^ min (32 : Nat) (IntKind.bits .u64))) ((2 : Int) ^ min (16 : Nat) (IntKind.bits .u64))) ((2 : Int) ^ min (8 : Nat) (IntKind.bits .u64))))) (0 : UInt8))) : Int)))
     else none
    else
     if (0 : Int) ≤ IntKind.wrap .u8 (Int.fdiv (Int.fdiv x_ ((2 : Int) ^ min (32 : Nat) (IntKind.bits .u64))) ((2 : Int) ^ min (16 : Nat) (IntKind.bits .u64))) ∧ IntKind.wrap .u8 (Int.fdiv (Int.fdiv x_ ((2 : Int) ^ min (32 : Nat) (IntKind.bits .u64))) ((2 : Int) ^ min (16 : Nat) (IntKind.bits .u64))) < (↑(ByteArray.size tab8) : Int) then
      some (IntKind.wrap .i64 (IntKind.wrap .i64 ((32 : Int) + (16 : Int)) + IntKind.wrap .i64 (↑(UInt8.toNat (Array.getD (ByteArray.data tab8) (Int.toNat (IntKind.wrap .u8 (Int.fdiv (Int.fdiv x_ ((2 : Int) ^ min (32 : Nat) (IntKind.bits .u64))) ((2 : Int) ^ min (16 : Nat) (IntKind.bits .u64))))) (0 : UInt8))) : Int)))
     else none
   else
    if Int.fdiv x_ ((2 : Int) ^ min (32 : Nat) (IntKind.bits .u64)) ≥ (256 : Int) then
     if (0 : Int) ≤ IntKind.wrap .u8 (Int.fdiv (Int.fdiv x_ ((2 : Int) ^ min (32 : Nat) (IntKind.bits .u64))) ((2 : Int) ^ min (8 : Nat) (IntKind.bits .u64))) ∧ IntKind.wrap .u8 (Int.fdiv (Int.fdiv x_ ((2 : Int) ^ min (32 : Nat) (IntKind.bits .u64))) ((2 : Int) ^ min (8 : Nat) (IntKind.bits .u64))) < (↑(ByteArray.size tab8) : Int) then
      some (IntKind.wrap .i64 (IntKind.wrap .i64 ((32 : Int) + (8 : Int)) + IntKind.wrap .i64 (↑(UInt8.toNat (Array.getD (ByteArray.data tab8) (Int.toNat (IntKind.wrap .u8 (Int.fdiv (Int.fdiv x_ ((2 : Int) ^ min (32 : Nat) (IntKind.bits .u64))) ((2 : Int) ^ min (8 : Nat) (IntKind.bits .u64))))) (0 : UInt8))) : Int)))
     else none
    else
     if (0 : Int) ≤ IntKind.wrap .u8 (Int.fdiv x_ ((2 : Int) ^ min (32 : Nat) (IntKind.bits .u64))) ∧ IntKind.wrap .u8 (Int.fdiv x_ ((2 : Int) ^ min (32 : Nat) (IntKind.bits .u64))) < (↑(ByteArray.size tab8) : Int) then
      some (IntKind.wrap .i64 ((32 : Int) + IntKind.wrap .i64 (↑(UInt8.toNat (Array.getD (ByteArray.data tab8) (Int.toNat (IntKind.wrap .u8 (Int.fdiv x_ ((2 : Int) ^ min (32 : Nat) (IntKind.bits .u64))))) (0 : UInt8))) : Int)))
     else none
  else
   if x_ ≥ (65536 : Int) then
    if Int.fdiv x_ ((2 : Int) ^ min (16 : Nat) (IntKind.bits .u64)) ≥ (256 : Int) then
     if (0 : Int) ≤ IntKind.wrap .u8 (Int.fdiv (Int.fdiv x_ ((2 : Int) ^ min (16 : Nat) (IntKind.bits .u64))) ((2 : Int) ^ min (8 : Nat) (IntKind.bits .u64))) ∧ IntKind.wrap .u8 (Int.fdiv (Int.fdiv x_ ((2 : Int) ^ min (16 : Nat) (IntKind.bits .u64))) ((2 : Int) ^ min (8 : Nat) (IntKind.bits .u64))) < (↑(ByteArray.size tab8) : Int) then
      some (IntKind.wrap .i64 (IntKind.wrap .i64 (IntKind.wrap .i64 ((0 : Int) + (16 : Int)) + (8 : Int)) + IntKind.wrap .i64 (↑(UInt8.toNat (Array.getD (ByteArray.data tab8) (Int.toNat (IntKind.wrap .u8 (Int.fdiv (Int.fdiv x_ ((2 : Int) ^ min (16 : Nat) (IntKind.bits .u64))) ((2 : Int) ^ min (8 : Nat) (IntKind.bits .u64))))) (0 : UInt8))) : Int)))
     else none
    else
     if (0 : Int) ≤ IntKind.wrap .u8 (Int.fdiv x_ ((2 : Int) ^ min (16 : Nat) (IntKind.bits .u64))) ∧ IntKind.wrap .u8 (Int.fdiv x_ ((2 : Int) ^ min (16 : Nat) (IntKind.bits .u64))) < (↑(ByteArray.size tab8) : Int) then
      some (IntKind.wrap .i64 (IntKind.wrap .i64 ((0 : Int) + (16 : Int)) + IntKind.wrap .i64 (↑(UInt8.toNat (Array.getD (ByteArray.data tab8) (Int.toNat (IntKind.wrap .u8 (Int.fdiv x_ ((2 : Int) ^ min (16 : Nat) (IntKind.bits .u64))))) (0 : UInt8))) : Int)))
     else none
   else
    if x_ ≥ (256 : Int) then
     if (0 : Int) ≤ IntKind.wrap .u8 (Int.fdiv x_ ((2 : Int) ^ min (8 : Nat) (IntKind.bits .u64))) ∧ IntKind.wrap .u8 (Int.fdiv x_ ((2 : Int) ^ min (8 : Nat) (IntKind.bits .u64))) < (↑(ByteArray.size tab8) : Int) then
      some (IntKind.wrap .i64 (IntKind.wrap .i64 ((0 : Int) + (8 : Int)) + IntKind.wrap .i64 (↑(UInt8.toNat (Array.getD (ByteArray.data tab8) (Int.toNat (IntKind.wrap .u8 (Int.fdiv x_ ((2 : Int) ^ min (8 : Nat) (IntKind.bits .u64))))) (0 : UInt8))) : Int)))
     else none
    else
     if (0 : Int) ≤ IntKind.wrap .u8 x_ ∧ IntKind.wrap .u8 x_ < (↑(ByteArray.size tab8) : Int) then
      some (IntKind.wrap .i64 ((0 : Int) + IntKind.wrap .i64 (↑(UInt8.toNat (Array.getD (ByteArray.data tab8) (Int.toNat (IntKind.wrap .u8 x_)) (0 : UInt8))) : Int)))
     else none
def y131 : List A → Option (Prop × List RV)
  | [.d (.i .u64 x_)] => some (ok (y58 x_), [.d (.i .i64 ((val (y58 x_))))])
  | _ => none
abbrev sp_104 : Specs → Specs := addK 104 true (pureK k_math_bits_Len64 y131)
private abbrev w15q0 (x_ : Int) := (Int.fdiv x_ ((2 : Int) ^ min (32 : Nat) (IntKind.bits .u64)))
private abbrev w15q1  := ((2 : Int) ^ min (16 : Nat) (IntKind.bits .u64))
private abbrev w15q2  := ((2 : Int) ^ min (8 : Nat) (IntKind.bits .u64))
set_option maxRecDepth 100000 in
theorem math_bits_Len64_vc (x_ : Int) (r : Int) (h : Option.bind (y58 x_) some = some r) : runF Tryd.f104 (sp0) (fun _ _ _ => none) [.d (.i .u64 x_)] [.d (.i .i64 r)] := by
  refine Eq.mp (by kernel_rfl : (
 Br (decide (x_ ≥ (4294967296 : Int)))
   ((Ob ((0 : Int) ≤ (32 : Int)) ∧
 Br (decide (Int.fdiv x_ ((2 : Int) ^ min (32 : Nat) (IntKind.bits .u64)) ≥ (65536 : Int)))
   ((Ob ((0 : Int) ≤ (16 : Int)) ∧
 Br (decide (Int.fdiv (w15q0 x_) (w15q1) ≥ (256 : Int)))
   ((Ob ((0 : Int) ≤ (8 : Int)) ∧
 (Ob (True) ∧
 (Ob ((0 : Int) ≤ IntKind.wrap .u8 (Int.fdiv (Int.fdiv (w15q0 x_) (w15q1)) (w15q2)) ∧ IntKind.wrap .u8 (Int.fdiv (Int.fdiv (w15q0 x_) (w15q1)) (w15q2)) < (↑(ByteArray.size tab8) : Int)) ∧
 (Ob (True) ∧
 (Ob (True) ∧
 (Ob (IntKind.wrap .i64 (IntKind.wrap .i64 (IntKind.wrap .i64 ((32 : Int) + (16 : Int)) + (8 : Int)) + IntKind.wrap .i64 (↑(UInt8.toNat (Array.getD (ByteArray.data tab8) (Int.toNat (IntKind.wrap .u8 (Int.fdiv (Int.fdiv (w15q0 x_) (w15q1)) (w15q2)))) (0 : UInt8))) : Int)) = r) ∧
 True)))))))
   ((Ob (True) ∧
 (Ob ((0 : Int) ≤ IntKind.wrap .u8 (Int.fdiv (w15q0 x_) (w15q1)) ∧ IntKind.wrap .u8 (Int.fdiv (w15q0 x_) (w15q1)) < (↑(ByteArray.size tab8) : Int)) ∧
 (Ob (True) ∧
 (Ob (True) ∧
 (Ob (IntKind.wrap .i64 (IntKind.wrap .i64 ((32 : Int) + (16 : Int)) + IntKind.wrap .i64 (↑(UInt8.toNat (Array.getD (ByteArray.data tab8) (Int.toNat (IntKind.wrap .u8 (Int.fdiv (w15q0 x_) (w15q1)))) (0 : UInt8))) : Int)) = r) ∧
 True))))))))
 (Br (decide (Int.fdiv x_ ((2 : Int) ^ min (32 : Nat) (IntKind.bits .u64)) ≥ (256 : Int)))
   ((Ob ((0 : Int) ≤ (8 : Int)) ∧
 (Ob (True) ∧
 (Ob ((0 : Int) ≤ IntKind.wrap .u8 (Int.fdiv (w15q0 x_) (w15q2)) ∧ IntKind.wrap .u8 (Int.fdiv (w15q0 x_) (w15q2)) < (↑(ByteArray.size tab8) : Int)) ∧
 (Ob (True) ∧
 (Ob (True) ∧
 (Ob (IntKind.wrap .i64 (IntKind.wrap .i64 ((32 : Int) + (8 : Int)) + IntKind.wrap .i64 (↑(UInt8.toNat (Array.getD (ByteArray.data tab8) (Int.toNat (IntKind.wrap .u8 (Int.fdiv (w15q0 x_) (w15q2)))) (0 : UInt8))) : Int)) = r) ∧
 True)))))))
   ((Ob (True) ∧
 (Ob ((0 : Int) ≤ IntKind.wrap .u8 (w15q0 x_) ∧ IntKind.wrap .u8 (w15q0 x_) < (↑(ByteArray.size tab8) : Int)) ∧
 (Ob (True) ∧
 (Ob (True) ∧
 (Ob (IntKind.wrap .i64 ((32 : Int) + IntKind.wrap .i64 (↑(UInt8.toNat (Array.getD (ByteArray.data tab8) (Int.toNat (IntKind.wrap .u8 (w15q0 x_))) (0 : UInt8))) : Int)) = r) ∧
 True)))))))))
 (Br (decide (x_ ≥ (65536 : Int)))
   ((Ob ((0 : Int) ≤ (16 : Int)) ∧
 Br (decide (Int.fdiv x_ (w15q1) ≥ (256 : Int)))
   ((Ob ((0 : Int) ≤ (8 : Int)) ∧
 (Ob (True) ∧
 (Ob ((0 : Int) ≤ IntKind.wrap .u8 (Int.fdiv (Int.fdiv x_ (w15q1)) (w15q2)) ∧ IntKind.wrap .u8 (Int.fdiv (Int.fdiv x_ (w15q1)) (w15q2)) < (↑(ByteArray.size tab8) : Int)) ∧
 (Ob (True) ∧
 (Ob (True) ∧
 (Ob (IntKind.wrap .i64 (IntKind.wrap .i64 (IntKind.wrap .i64 ((0 : Int) + (16 : Int)) + (8 : Int)) + IntKind.wrap .i64 (↑(UInt8.toNat (Array.getD (ByteArray.data tab8) (Int.toNat (IntKind.wrap .u8 (Int.fdiv (Int.fdiv x_ (w15q1)) (w15q2)))) (0 : UInt8))) : Int)) = r) ∧
 True)))))))
   ((Ob (True) ∧
 (Ob ((0 : Int) ≤ IntKind.wrap .u8 (Int.fdiv x_ (w15q1)) ∧ IntKind.wrap .u8 (Int.fdiv x_ (w15q1)) < (↑(ByteArray.size tab8) : Int)) ∧
 (Ob (True) ∧
 (Ob (True) ∧
 (Ob (IntKind.wrap .i64 (IntKind.wrap .i64 ((0 : Int) + (16 : Int)) + IntKind.wrap .i64 (↑(UInt8.toNat (Array.getD (ByteArray.data tab8) (Int.toNat (IntKind.wrap .u8 (Int.fdiv x_ (w15q1)))) (0 : UInt8))) : Int)) = r) ∧
 True))))))))
 (Br (decide (x_ ≥ (256 : Int)))
   ((Ob ((0 : Int) ≤ (8 : Int)) ∧
 (Ob (True) ∧
 (Ob ((0 : Int) ≤ IntKind.wrap .u8 (Int.fdiv x_ (w15q2)) ∧ IntKind.wrap .u8 (Int.fdiv x_ (w15q2)) < (↑(ByteArray.size tab8) : Int)) ∧
 (Ob (True) ∧
 (Ob (True) ∧
 (Ob (IntKind.wrap .i64 (IntKind.wrap .i64 ((0 : Int) + (8 : Int)) + IntKind.wrap .i64 (↑(UInt8.toNat (Array.getD (ByteArray.data tab8) (Int.toNat (IntKind.wrap .u8 (Int.fdiv x_ (w15q2)))) (0 : UInt8))) : Int)) = r) ∧
 True)))))))
   ((Ob (True) ∧
 (Ob ((0 : Int) ≤ IntKind.wrap .u8 x_ ∧ IntKind.wrap .u8 x_ < (↑(ByteArray.size tab8) : Int)) ∧
 (Ob (True) ∧
 (Ob (True) ∧
 (Ob (IntKind.wrap .i64 ((0 : Int) + IntKind.wrap .i64 (↑(UInt8.toNat (Array.getD (ByteArray.data tab8) (Int.toNat (IntKind.wrap .u8 x_)) (0 : UInt8))) : Int)) = r) ∧
 True))))))))) = _) ?_
  refine br_d h (fun h => ?_) (fun h => ?_)
  · refine ob_c (p := (0 : Int) ≤ (32 : Int)) (by decide) ?_
    refine br_d h (fun h => ?_) (fun h => ?_)
    · refine ob_c (p := (0 : Int) ≤ (16 : Int)) (by decide) ?_
      refine br_d h (fun h => ?_) (fun h => ?_)
      · refine ob_c (p := (0 : Int) ≤ (8 : Int)) (by decide) ?_
        refine ob_t ?_
        refine ob_s h fun h => ?_
        refine ob_t ?_
        refine ob_t ?_
        exact ret_s h (fun e => by subst e; exact (by repeat' constructor))
      · refine ob_t ?_
        refine ob_s h fun h => ?_
        refine ob_t ?_
        refine ob_t ?_
        exact ret_s h (fun e => by subst e; exact (by repeat' constructor))
    · refine br_d h (fun h => ?_) (fun h => ?_)
      · refine ob_c (p := (0 : Int) ≤ (8 : Int)) (by decide) ?_
        refine ob_t ?_
        refine ob_s h fun h => ?_
        refine ob_t ?_
        refine ob_t ?_
        exact ret_s h (fun e => by subst e; exact (by repeat' constructor))
      · refine ob_t ?_
        refine ob_s h fun h => ?_
        refine ob_t ?_
        refine ob_t ?_
        exact ret_s h (fun e => by subst e; exact (by repeat' constructor))
  · refine br_d h (fun h => ?_) (fun h => ?_)
    · refine ob_c (p := (0 : Int) ≤ (16 : Int)) (by decide) ?_
      refine br_d h (fun h => ?_) (fun h => ?_)
      · refine ob_c (p := (0 : Int) ≤ (8 : Int)) (by decide) ?_
        refine ob_t ?_
        refine ob_s h fun h => ?_
        refine ob_t ?_
        refine ob_t ?_
        exact ret_s h (fun e => by subst e; exact (by repeat' constructor))
      · refine ob_t ?_
        refine ob_s h fun h => ?_
        refine ob_t ?_
        refine ob_t ?_
        exact ret_s h (fun e => by subst e; exact (by repeat' constructor))
    · refine br_d h (fun h => ?_) (fun h => ?_)
      · refine ob_c (p := (0 : Int) ≤ (8 : Int)) (by decide) ?_
        refine ob_t ?_
        refine ob_s h fun h => ?_
        refine ob_t ?_
        refine ob_t ?_
        exact ret_s h (fun e => by subst e; exact (by repeat' constructor))
      · refine ob_t ?_
        refine ob_s h fun h => ?_
        refine ob_t ?_
        refine ob_t ?_
        exact ret_s h (fun e => by subst e; exact (by repeat' constructor))
set_option maxRecDepth 100000 in
theorem math_bits_Len64_ok : SpecOK Tryd.prog 104 true (pureK k_math_bits_Len64 y131) := by
  refine pureK_ok (sp := sp0) (fn := Tryd.f104) (body := bodyOf Tryd.f104) mixed sp0_ok Tryd.func104 (by kernel_rfl) (by kernel_rfl) fun as_ ob rs h ho => ?_
  unfold y131 at h
  split at h
  · rename_i x_
    cases h
    exact ⟨Nat.le_of_ble_eq_true rfl, _, _, math_bits_Len64_vc x_ _ (ok_some ho)⟩
  · cases h
theorem sp_104_ok {sp : Specs} (h : SpecsOK Tryd.prog sp) : SpecsOK Tryd.prog (sp_104 sp) := addK_ok math_bits_Len64_ok h
def y106 : List (Option Cont) := [none]
def y11 (x_ : Int) : Option Int :=
  Option.bind (y58 x_) fun r0 =>
  some (IntKind.wrap .i64 ((64 : Int) - r0))
def y86 : List A → Option (Prop × List RV)
  | [.d (.i .u64 x_)] => some (ok (y11 x_), [.d (.i .i64 ((val (y11 x_))))])
  | _ => none
abbrev sp_99 : Specs → Specs := addK 99 true (pureK y106 y86)
set_option maxRecDepth 100000 in
theorem y170 (x_ : Int) (r : Int) (h : Option.bind (y11 x_) some = some r) : runF Tryd.f99 ((sp_104 sp0)) (fun _ _ _ => none) [.d (.i .u64 x_)] [.d (.i .i64 r)] := by
  refine Eq.mp (by kernel_rfl : (
 (Ob (ok (y58 x_)) ∧
 (Ob (True) ∧
 (Ob (IntKind.wrap .i64 ((64 : Int) - val (y58 x_)) = r) ∧
 True)))) = _) ?_
  refine call_s h fun h => ?_
  refine ob_t ?_
  exact ret_s h (fun e => by subst e; exact (by repeat' constructor))
set_option maxRecDepth 100000 in
theorem y171 : SpecOK Tryd.prog 99 true (pureK y106 y86) := by
  refine pureK_ok (sp := (sp_104 sp0)) (fn := Tryd.f99) (body := bodyOf Tryd.f99) mixed (sp_104_ok sp0_ok) Tryd.func99 (by kernel_rfl) (by kernel_rfl) fun as_ ob rs h ho => ?_
  unfold y86 at h
  split at h
  · rename_i x_
    cases h
    exact ⟨Nat.le_of_ble_eq_true rfl, _, _, y170 x_ _ (ok_some ho)⟩
  · cases h
theorem sp_99_ok {sp : Specs} (h : SpecsOK Tryd.prog sp) : SpecsOK Tryd.prog (sp_99 sp) := addK_ok y171 h
def k_math_bits_Div64 : List (Option Cont) := [none, none, none]
def y37 (lo : Int) (y_ : Int) (r0 : Int) (x0 : (Int × Int)) : Option ((Int × Int) ⊕ Int) :=
  if x0.1 ≥ (4294967296 : Int) then
   if IntKind.wrap .u64 (x0.2 + Int.fdiv (IntKind.wrap .u64 (y_ * (2 : Int) ^ min (Int.toNat (IntKind.wrap .u64 r0)) (IntKind.bits .u64))) ((2 : Int) ^ min (32 : Nat) (IntKind.bits .u64))) ≥ (4294967296 : Int) then
    some (.inr (IntKind.wrap .u64 (x0.1 - (1 : Int))))
   else
    some (.inl ((IntKind.wrap .u64 (x0.1 - (1 : Int)), IntKind.wrap .u64 (x0.2 + Int.fdiv (IntKind.wrap .u64 (y_ * (2 : Int) ^ min (Int.toNat (IntKind.wrap .u64 r0)) (IntKind.bits .u64))) ((2 : Int) ^ min (32 : Nat) (IntKind.bits .u64))))))
  else
   if IntKind.wrap .u64 (x0.1 * IntKind.wrap .u64 (↑(BitVec.toNat (BitVec.ofInt (IntKind.bits .u64) (IntKind.wrap .u64 (y_ * (2 : Int) ^ min (Int.toNat (IntKind.wrap .u64 r0)) (IntKind.bits .u64))) &&& BitVec.ofInt (IntKind.bits .u64) (4294967295 : Int))) : Int)) > IntKind.wrap .u64 (IntKind.wrap .u64 ((4294967296 : Int) * x0.2) + Int.fdiv (IntKind.wrap .u64 (lo * (2 : Int) ^ min (Int.toNat (IntKind.wrap .u64 r0)) (IntKind.bits .u64))) ((2 : Int) ^ min (32 : Nat) (IntKind.bits .u64))) then
    if IntKind.wrap .u64 (x0.2 + Int.fdiv (IntKind.wrap .u64 (y_ * (2 : Int) ^ min (Int.toNat (IntKind.wrap .u64 r0)) (IntKind.bits .u64))) ((2 : Int) ^ min (32 : Nat) (IntKind.bits .u64))) ≥ (4294967296 : Int) then
     some (.inr (IntKind.wrap .u64 (x0.1 - (1 : Int))))
    else
     some (.inl ((IntKind.wrap .u64 (x0.1 - (1 : Int)), IntKind.wrap .u64 (x0.2 + Int.fdiv (IntKind.wrap .u64 (y_ * (2 : Int) ^ min (Int.toNat (IntKind.wrap .u64 r0)) (IntKind.bits .u64))) ((2 : Int) ^ min (32 : Nat) (IntKind.bits .u64))))))
   else
    some (.inr x0.1)
def y64 (lo : Int) (y_ : Int) (r0 : Int) (x1 : (Int × Int)) : Option ((Int × Int) ⊕ Int) :=
  if x1.2 ≥ (4294967296 : Int) then
   if IntKind.wrap .u64 (x1.1 + Int.fdiv (IntKind.wrap .u64 (y_ * (2 : Int) ^ min (Int.toNat (IntKind.wrap .u64 r0)) (IntKind.bits .u64))) ((2 : Int) ^ min (32 : Nat) (IntKind.bits .u64))) ≥ (4294967296 : Int) then
    some (.inr (IntKind.wrap .u64 (x1.2 - (1 : Int))))
   else
    some (.inl ((IntKind.wrap .u64 (x1.1 + Int.fdiv (IntKind.wrap .u64 (y_ * (2 : Int) ^ min (Int.toNat (IntKind.wrap .u64 r0)) (IntKind.bits .u64))) ((2 : Int) ^ min (32 : Nat) (IntKind.bits .u64))), IntKind.wrap .u64 (x1.2 - (1 : Int)))))
  else
   if IntKind.wrap .u64 (x1.2 * IntKind.wrap .u64 (↑(BitVec.toNat (BitVec.ofInt (IntKind.bits .u64) (IntKind.wrap .u64 (y_ * (2 : Int) ^ min (Int.toNat (IntKind.wrap .u64 r0)) (IntKind.bits .u64))) &&& BitVec.ofInt (IntKind.bits .u64) (4294967295 : Int))) : Int)) > IntKind.wrap .u64 (IntKind.wrap .u64 ((4294967296 : Int) * x1.1) + IntKind.wrap .u64 (↑(BitVec.toNat (BitVec.ofInt (IntKind.bits .u64) (IntKind.wrap .u64 (lo * (2 : Int) ^ min (Int.toNat (IntKind.wrap .u64 r0)) (IntKind.bits .u64))) &&& BitVec.ofInt (IntKind.bits .u64) (4294967295 : Int))) : Int)) then
    if IntKind.wrap .u64 (x1.1 + Int.fdiv (IntKind.wrap .u64 (y_ * (2 : Int) ^ min (Int.toNat (IntKind.wrap .u64 r0)) (IntKind.bits .u64))) ((2 : Int) ^ min (32 : Nat) (IntKind.bits .u64))) ≥ (4294967296 : Int) then
     some (.inr (IntKind.wrap .u64 (x1.2 - (1 : Int))))
    else
     some (.inl ((IntKind.wrap .u64 (x1.1 + Int.fdiv (IntKind.wrap .u64 (y_ * (2 : Int) ^ min (Int.toNat (IntKind.wrap .u64 r0)) (IntKind.bits .u64))) ((2 : Int) ^ min (32 : Nat) (IntKind.bits .u64))), IntKind.wrap .u64 (x1.2 - (1 : Int)))))
   else
    some (.inr x1.2)
def y15 (hi : Int) (lo : Int) (y_ : Int) (u17 : Int) (r0 : Int) (u45 : Int) : Option (Int × Int) :=
  if (0 : Int) ≤ IntKind.wrap .u64 r0 then
   some ((IntKind.wrap .u64 (IntKind.wrap .u64 (u17 * (4294967296 : Int)) + u45), Int.fdiv (IntKind.wrap .u64 (IntKind.wrap .u64 (IntKind.wrap .u64 (IntKind.wrap .u64 (IntKind.wrap .u64 (IntKind.wrap .u64 (IntKind.wrap .u64 (↑(BitVec.toNat (BitVec.ofInt (IntKind.bits .u64) (IntKind.wrap .u64 (hi * (2 : Int) ^ min (Int.toNat (IntKind.wrap .u64 r0)) (IntKind.bits .u64))) ||| BitVec.ofInt (IntKind.bits .u64) (Int.fdiv lo ((2 : Int) ^ min (Int.toNat (IntKind.wrap .u64 ((64 : Int) - IntKind.wrap .u64 r0))) (IntKind.bits .u64))))) : Int) * (4294967296 : Int)) + Int.fdiv (IntKind.wrap .u64 (lo * (2 : Int) ^ min (Int.toNat (IntKind.wrap .u64 r0)) (IntKind.bits .u64))) ((2 : Int) ^ min (32 : Nat) (IntKind.bits .u64))) - IntKind.wrap .u64 (u17 * IntKind.wrap .u64 (y_ * (2 : Int) ^ min (Int.toNat (IntKind.wrap .u64 r0)) (IntKind.bits .u64)))) * (4294967296 : Int)) + IntKind.wrap .u64 (↑(BitVec.toNat (BitVec.ofInt (IntKind.bits .u64) (IntKind.wrap .u64 (lo * (2 : Int) ^ min (Int.toNat (IntKind.wrap .u64 r0)) (IntKind.bits .u64))) &&& BitVec.ofInt (IntKind.bits .u64) (4294967295 : Int))) : Int)) - IntKind.wrap .u64 (u45 * IntKind.wrap .u64 (y_ * (2 : Int) ^ min (Int.toNat (IntKind.wrap .u64 r0)) (IntKind.bits .u64))))) ((2 : Int) ^ min (Int.toNat (IntKind.wrap .u64 r0)) (IntKind.bits .u64))))
  else none
def y54 (hi : Int) (lo : Int) (y_ : Int) (r0 : Int) (u17 : Int) : Option (Int × Int) :=
  if Int.fdiv (IntKind.wrap .u64 (y_ * (2 : Int) ^ min (Int.toNat (IntKind.wrap .u64 r0)) (IntKind.bits .u64))) ((2 : Int) ^ min (32 : Nat) (IntKind.bits .u64)) ≠ (0 : Int) then
   Option.bind (iter (y64 lo y_ r0) big ((IntKind.wrap .u64 (IntKind.wrap .u64 (IntKind.wrap .u64 (IntKind.wrap .u64 (IntKind.wrap .u64 (↑(BitVec.toNat (BitVec.ofInt (IntKind.bits .u64) (IntKind.wrap .u64 (hi * (2 : Int) ^ min (Int.toNat (IntKind.wrap .u64 r0)) (IntKind.bits .u64))) ||| BitVec.ofInt (IntKind.bits .u64) (Int.fdiv lo ((2 : Int) ^ min (Int.toNat (IntKind.wrap .u64 ((64 : Int) - IntKind.wrap .u64 r0))) (IntKind.bits .u64))))) : Int) * (4294967296 : Int)) + Int.fdiv (IntKind.wrap .u64 (lo * (2 : Int) ^ min (Int.toNat (IntKind.wrap .u64 r0)) (IntKind.bits .u64))) ((2 : Int) ^ min (32 : Nat) (IntKind.bits .u64))) - IntKind.wrap .u64 (u17 * IntKind.wrap .u64 (y_ * (2 : Int) ^ min (Int.toNat (IntKind.wrap .u64 r0)) (IntKind.bits .u64)))) - IntKind.wrap .u64 (IntKind.wrap .u64 (Int.tdiv (IntKind.wrap .u64 (IntKind.wrap .u64 (IntKind.wrap .u64 (IntKind.wrap .u64 (↑(BitVec.toNat (BitVec.ofInt (IntKind.bits .u64) (IntKind.wrap .u64 (hi * (2 : Int) ^ min (Int.toNat (IntKind.wrap .u64 r0)) (IntKind.bits .u64))) ||| BitVec.ofInt (IntKind.bits .u64) (Int.fdiv lo ((2 : Int) ^ min (Int.toNat (IntKind.wrap .u64 ((64 : Int) - IntKind.wrap .u64 r0))) (IntKind.bits .u64))))) : Int) * (4294967296 : Int)) + Int.fdiv (IntKind.wrap .u64 (lo * (2 : Int) ^ min (Int.toNat (IntKind.wrap .u64 r0)) (IntKind.bits .u64))) ((2 : Int) ^ min (32 : Nat) (IntKind.bits .u64))) - IntKind.wrap .u64 (u17 * IntKind.wrap .u64 (y_ * (2 : Int) ^ min (Int.toNat (IntKind.wrap .u64 r0)) (IntKind.bits .u64))))) (Int.fdiv (IntKind.wrap .u64 (y_ * (2 : Int) ^ min (Int.toNat (IntKind.wrap .u64 r0)) (IntKind.bits .u64))) ((2 : Int) ^ min (32 : Nat) (IntKind.bits .u64)))) * Int.fdiv (IntKind.wrap .u64 (y_ * (2 : Int) ^ min (Int.toNat (IntKind.wrap .u64 r0)) (IntKind.bits .u64))) ((2 : Int) ^ min (32 : Nat) (IntKind.bits .u64)))), IntKind.wrap .u64 (Int.tdiv (IntKind.wrap .u64 (IntKind.wrap .u64 (IntKind.wrap .u64 (IntKind.wrap .u64 (↑(BitVec.toNat (BitVec.ofInt (IntKind.bits .u64) (IntKind.wrap .u64 (hi * (2 : Int) ^ min (Int.toNat (IntKind.wrap .u64 r0)) (IntKind.bits .u64))) ||| BitVec.ofInt (IntKind.bits .u64) (Int.fdiv lo ((2 : Int) ^ min (Int.toNat (IntKind.wrap .u64 ((64 : Int) - IntKind.wrap .u64 r0))) (IntKind.bits .u64))))) : Int) * (4294967296 : Int)) + Int.fdiv (IntKind.wrap .u64 (lo * (2 : Int) ^ min (Int.toNat (IntKind.wrap .u64 r0)) (IntKind.bits .u64))) ((2 : Int) ^ min (32 : Nat) (IntKind.bits .u64))) - IntKind.wrap .u64 (u17 * IntKind.wrap .u64 (y_ * (2 : Int) ^ min (Int.toNat (IntKind.wrap .u64 r0)) (IntKind.bits .u64))))) (Int.fdiv (IntKind.wrap .u64 (y_ * (2 : Int) ^ min (Int.toNat (IntKind.wrap .u64 r0)) (IntKind.bits .u64))) ((2 : Int) ^ min (32 : Nat) (IntKind.bits .u64))))))) (y15 hi lo y_ u17 r0)
  else none
def y59 (hi : Int) (lo : Int) (y_ : Int) : Option (Int × Int) :=
  if (y_ == (0 : Int)) = true then
   none   else
   if y_ ≤ hi then
    none    else
    if (hi == (0 : Int)) = true then
     if y_ ≠ (0 : Int) then
      if y_ ≠ (0 : Int) then
       some ((IntKind.wrap .u64 (Int.tdiv lo y_), Int.tmod lo y_))
      else none
     else none
    else
     Option.bind (y11 y_) fun r0 =>
     if (0 : Int) ≤ IntKind.wrap .u64 r0 then
      if (0 : Int) ≤ IntKind.wrap .u64 r0 then
       if (0 : Int) ≤ IntKind.wrap .u64 ((64 : Int) - IntKind.wrap .u64 r0) then
        if (0 : Int) ≤ IntKind.wrap .u64 r0 then
         if Int.fdiv (IntKind.wrap .u64 (y_ * (2 : Int) ^ min (Int.toNat (IntKind.wrap .u64 r0)) (IntKind.bits .u64))) ((2 : Int) ^ min (32 : Nat) (IntKind.bits .u64)) ≠ (0 : Int) then
          Option.bind (iter (y37 lo y_ r0) big ((IntKind.wrap .u64 (Int.tdiv (IntKind.wrap .u64 (↑(BitVec.toNat (BitVec.ofInt (IntKind.bits .u64) (IntKind.wrap .u64 (hi * (2 : Int) ^ min (Int.toNat (IntKind.wrap .u64 r0)) (IntKind.bits .u64))) ||| BitVec.ofInt (IntKind.bits .u64) (Int.fdiv lo ((2 : Int) ^ min (Int.toNat (IntKind.wrap .u64 ((64 : Int) - IntKind.wrap .u64 r0))) (IntKind.bits .u64))))) : Int)) (Int.fdiv (IntKind.wrap .u64 (y_ * (2 : Int) ^ min (Int.toNat (IntKind.wrap .u64 r0)) (IntKind.bits .u64))) ((2 : Int) ^ min (32 : Nat) (IntKind.bits .u64)))), IntKind.wrap .u64 (IntKind.wrap .u64 (↑(BitVec.toNat (BitVec.ofInt (IntKind.bits .u64) (IntKind.wrap .u64 (hi * (2 : Int) ^ min (Int.toNat (IntKind.wrap .u64 r0)) (IntKind.bits .u64))) ||| BitVec.ofInt (IntKind.bits .u64) (Int.fdiv lo ((2 : Int) ^ min (Int.toNat (IntKind.wrap .u64 ((64 : Int) - IntKind.wrap .u64 r0))) (IntKind.bits .u64))))) : Int) - IntKind.wrap .u64 (IntKind.wrap .u64 (Int.tdiv (IntKind.wrap .u64 (↑(BitVec.toNat (BitVec.ofInt (IntKind.bits .u64) (IntKind.wrap .u64 (hi * (2 : Int) ^ min (Int.toNat (IntKind.wrap .u64 r0)) (IntKind.bits .u64))) ||| BitVec.ofInt (IntKind.bits .u64) (Int.fdiv lo ((2 : Int) ^ min (Int.toNat (IntKind.wrap .u64 ((64 : Int) - IntKind.wrap .u64 r0))) (IntKind.bits .u64))))) : Int)) (Int.fdiv (IntKind.wrap .u64 (y_ * (2 : Int) ^ min (Int.toNat (IntKind.wrap .u64 r0)) (IntKind.bits .u64))) ((2 : Int) ^ min (32 : Nat) (IntKind.bits .u64)))) * Int.fdiv (IntKind.wrap .u64 (y_ * (2 : Int) ^ min (Int.toNat (IntKind.wrap .u64 r0)) (IntKind.bits .u64))) ((2 : Int) ^ min (32 : Nat) (IntKind.bits .u64))))))) (y54 hi lo y_ r0)
         else none
        else none
       else none
      else none
     else none
def y132 : List A → Option (Prop × List RV)
  | [.d (.i .u64 hi), .d (.i .u64 lo), .d (.i .u64 y_)] => some (ok (y59 hi lo y_), [.d (.i .u64 ((val (y59 hi lo y_)).1)), .d (.i .u64 ((val (y59 hi lo y_)).2))])
  | _ => none
abbrev sp_89 : Specs → Specs := addK 89 true (pureK k_math_bits_Div64 y132)
set_option maxRecDepth 100000 in
private abbrev e0 (hi : Int) (lo : Int) (y_ : Int) : Int := IntKind.wrap .u64 (IntKind.wrap .u64 (↑(BitVec.toNat (BitVec.ofInt (IntKind.bits .u64) (IntKind.wrap .u64 (hi * (2 : Int) ^ min (Int.toNat (IntKind.wrap .u64 (val (y11 y_)))) (IntKind.bits .u64))) ||| BitVec.ofInt (IntKind.bits .u64) (Int.fdiv lo ((2 : Int) ^ min (Int.toNat (IntKind.wrap .u64 ((64 : Int) - IntKind.wrap .u64 (val (y11 y_))))) (IntKind.bits .u64))))) : Int) * (4294967296 : Int)) + Int.fdiv (IntKind.wrap .u64 (lo * (2 : Int) ^ min (Int.toNat (IntKind.wrap .u64 (val (y11 y_)))) (IntKind.bits .u64))) ((2 : Int) ^ min (32 : Nat) (IntKind.bits .u64))
private abbrev e1 (y_ : Int) : Int := IntKind.wrap .u64 (y_ * (2 : Int) ^ min (Int.toNat (IntKind.wrap .u64 (val (y11 y_)))) (IntKind.bits .u64))
private abbrev e2 (y_ : Int) : Int := IntKind.wrap .u64 (val (y11 y_))
private abbrev e3  : Int := (2 : Int) ^ min (32 : Nat) (IntKind.bits .u64)
private abbrev e4 (lo : Int) (y_ : Int) : Int := IntKind.wrap .u64 (lo * (2 : Int) ^ min (Int.toNat (e2 y_)) (IntKind.bits .u64))
private abbrev e5 (y_ : Int) : Int := val (y11 y_)
private abbrev e6 (lo : Int) (y_ : Int) : Int := Int.fdiv lo ((2 : Int) ^ min (Int.toNat (IntKind.wrap .u64 ((64 : Int) - IntKind.wrap .u64 (e5 y_)))) (IntKind.bits .u64))
private abbrev e7 (hi : Int) (y_ : Int) : Int := IntKind.wrap .u64 (hi * (2 : Int) ^ min (Int.toNat (e2 y_)) (IntKind.bits .u64))
private abbrev e8 (hi : Int) (lo : Int) (y_ : Int) : Int := IntKind.wrap .u64 (↑(BitVec.toNat (BitVec.ofInt (IntKind.bits .u64) (e7 hi y_) ||| BitVec.ofInt (IntKind.bits .u64) (e6 lo y_))) : Int)
private abbrev e9 (y_ : Int) : Int := (2 : Int) ^ min (Int.toNat (e2 y_)) (IntKind.bits .u64)
private abbrev w16q0 (lo : Int) (y_ : Int) := (↑(BitVec.toNat (BitVec.ofInt (IntKind.bits .u64) (e4 lo y_) &&& BitVec.ofInt (IntKind.bits .u64) (4294967295 : Int))) : Int)
private abbrev w16q1 (y_ : Int) := (y_ * (2 : Int) ^ min (Int.toNat (e2 y_)) (IntKind.bits .u64))
private abbrev w16q2 (y_ : Int) := (↑(BitVec.toNat (BitVec.ofInt (IntKind.bits .u64) (e1 y_) &&& BitVec.ofInt (IntKind.bits .u64) (4294967295 : Int))) : Int)
private abbrev w16q3 (hi : Int) (lo : Int) (y_ : Int) (v1 : Int × (Int × Int) × Nat) := (IntKind.wrap .u64 (IntKind.wrap .u64 (IntKind.wrap .u64 (IntKind.wrap .u64 (IntKind.wrap .u64 (e0 hi lo y_) - IntKind.wrap .u64 (v1.1 * IntKind.wrap .u64 (w16q1 y_))) * (4294967296 : Int)) + IntKind.wrap .u64 (w16q0 lo y_)) - IntKind.wrap .u64 (IntKind.wrap .u64 (v1.2.1.2 - (1 : Int)) * IntKind.wrap .u64 (w16q1 y_))))
private abbrev w16q4 (hi : Int) (lo : Int) (y_ : Int) (v1 : Int × (Int × Int) × Nat) (v2 : Int × (Int × Int) × Nat) := (IntKind.wrap .u64 (IntKind.wrap .u64 (e0 hi lo y_) - IntKind.wrap .u64 (v1.1 * IntKind.wrap .u64 (w16q1 y_))) = IntKind.wrap .u64 (IntKind.wrap .u64 (e0 hi lo y_) - IntKind.wrap .u64 (v2.1 * IntKind.wrap .u64 (w16q1 y_))))
private abbrev w16q5 (hi : Int) (lo : Int) (y_ : Int) (v0 : (Int × Int) × Nat) := (IntKind.wrap .u64 (e0 hi lo y_) - IntKind.wrap .u64 (IntKind.wrap .u64 (v0.1.1 - (1 : Int)) * IntKind.wrap .u64 (w16q1 y_)))
private abbrev w16q6 (hi : Int) (lo : Int) (y_ : Int) := (↑(BitVec.toNat (BitVec.ofInt (IntKind.bits .u64) (e7 hi y_) ||| BitVec.ofInt (IntKind.bits .u64) (e6 lo y_))) : Int)
private abbrev w16q7 (lo : Int) (y_ : Int) := (IntKind.wrap .u64 (w16q0 lo y_) = IntKind.wrap .u64 (w16q0 lo y_))
private abbrev w16q8 (y_ : Int) := (IntKind.wrap .u64 (w16q1 y_) = IntKind.wrap .u64 (w16q1 y_))
private abbrev w16q9 (y_ : Int) := (IntKind.wrap .u64 (w16q2 y_) = IntKind.wrap .u64 (w16q2 y_))
private abbrev w16q10 (y_ : Int) := (IntKind.wrap .u64 (e5 y_) = IntKind.wrap .u64 (e5 y_))
private abbrev w16q11 (hi : Int) (lo : Int) (y_ : Int) (v1 : Int × (Int × Int) × Nat) := (IntKind.wrap .u64 (IntKind.wrap .u64 (IntKind.wrap .u64 (IntKind.wrap .u64 (IntKind.wrap .u64 (e0 hi lo y_) - IntKind.wrap .u64 (v1.1 * IntKind.wrap .u64 (w16q1 y_))) * (4294967296 : Int)) + IntKind.wrap .u64 (w16q0 lo y_)) - IntKind.wrap .u64 (v1.2.1.2 * IntKind.wrap .u64 (w16q1 y_))))
private abbrev w16q12 (y_ : Int) := (Int.fdiv (e1 y_) (e3 ) = Int.fdiv (e1 y_) (e3 ))
private abbrev w16q13 (v1 : Int × (Int × Int) × Nat) := (IntKind.wrap .u64 (v1.1 * (4294967296 : Int)) + IntKind.wrap .u64 (v1.2.1.2 - (1 : Int)))
private abbrev w16q14 (y_ : Int) := ((0 : Int) ≤ IntKind.wrap .u64 (e5 y_))
private abbrev w16q15 (y_ : Int) (v1 : Int × (Int × Int) × Nat) := (decide (IntKind.wrap .u64 (v1.2.1.1 + Int.fdiv (e1 y_) (e3 )) ≥ (4294967296 : Int)))
private abbrev w16q16 (lo : Int) (y_ : Int) (v1 : Int × (Int × Int) × Nat) := (decide (IntKind.wrap .u64 (v1.2.1.2 * IntKind.wrap .u64 (w16q2 y_)) > IntKind.wrap .u64 (IntKind.wrap .u64 ((4294967296 : Int) * v1.2.1.1) + IntKind.wrap .u64 (w16q0 lo y_))))
private abbrev w16q17 (lo : Int) (y_ : Int) := (y64 lo y_ (e5 y_))
theorem math_bits_Div64_vc (hi : Int) (lo : Int) (y_ : Int) (r : Int × Int) (h : Option.bind (y59 hi lo y_) some = some r) : runF Tryd.f89 ((sp_99 sp0)) (fun gs id _ => match id with
 | 0 => some ⟨(Int × Int) × Nat, fun z => ⟨[(2, .w (.c (.d (.i .u64 (e1 y_))))), (8, .w (.c (.d (.i .u64 (e2 y_))))), (9, .w (.c (.d (.i .u64 (Int.fdiv (e1 y_) (e3 )))))), (10, .w (.c (.d (.i .u64 (IntKind.wrap .u64 (↑(BitVec.toNat (BitVec.ofInt (IntKind.bits .u64) (e1 y_) &&& BitVec.ofInt (IntKind.bits .u64) (4294967295 : Int))) : Int)))))), (11, .w (.c (.d (.i .u64 (e8 hi lo y_))))), (13, .w (.c (.d (.i .u64 (Int.fdiv (e4 lo y_) (e3 )))))), (14, .w (.c (.d (.i .u64 (IntKind.wrap .u64 (↑(BitVec.toNat (BitVec.ofInt (IntKind.bits .u64) (e4 lo y_) &&& BitVec.ofInt (IntKind.bits .u64) (4294967295 : Int))) : Int)))))), (15, .w (.c (.d (.i .u64 (Prod.fst (Prod.fst z)))))), (16, .w (.c (.d (.i .u64 (Prod.snd (Prod.fst z))))))], [], 3⟩, fun z => Option.bind (iter (y37 lo y_ (e5 y_)) (Prod.snd z) (Prod.fst z)) (fun y0 => Option.bind (y54 hi lo y_ (e5 y_) y0) some) = some r, fun z => Prod.snd z⟩
 | 2 => some ⟨Int × (Int × Int) × Nat, fun z => ⟨[(2, .w (.c (.d (.i .u64 (e1 y_))))), (8, .w (.c (.d (.i .u64 (e2 y_))))), (9, .w (.c (.d (.i .u64 (Int.fdiv (e1 y_) (e3 )))))), (10, .w (.c (.d (.i .u64 (IntKind.wrap .u64 (↑(BitVec.toNat (BitVec.ofInt (IntKind.bits .u64) (e1 y_) &&& BitVec.ofInt (IntKind.bits .u64) (4294967295 : Int))) : Int)))))), (14, .w (.c (.d (.i .u64 (IntKind.wrap .u64 (↑(BitVec.toNat (BitVec.ofInt (IntKind.bits .u64) (e4 lo y_) &&& BitVec.ofInt (IntKind.bits .u64) (4294967295 : Int))) : Int)))))), (15, .w (.c (.d (.i .u64 (Prod.fst z))))), (16, .w (.c (.d (.i .u64 (Prod.fst (Prod.fst (Prod.snd z))))))), (17, .w (.c (.d (.i .u64 (IntKind.wrap .u64 (IntKind.wrap .u64 (e0 hi lo y_) - IntKind.wrap .u64 (Prod.fst z * IntKind.wrap .u64 (y_ * (2 : Int) ^ min (Int.toNat (e2 y_)) (IntKind.bits .u64))))))))), (18, .w (.c (.d (.i .u64 (Prod.snd (Prod.fst (Prod.snd z)))))))], [], 3⟩, fun z => Option.bind (iter (y64 lo y_ (e5 y_)) (Prod.snd (Prod.snd z)) (Prod.fst (Prod.snd z))) (fun y0 => Option.bind (y15 hi lo y_ (Prod.fst z) (e5 y_) y0) some) = some r, fun z => Prod.snd (Prod.snd z)⟩
 | _ => none) [.d (.i .u64 hi), .d (.i .u64 lo), .d (.i .u64 y_)] [.d (.i .u64 r.1), .d (.i .u64 r.2)] := by
  refine Eq.mp (by kernel_rfl : (
 Br (y_ == (0 : Int))
   (False)
 (Br (decide (y_ ≤ hi))
   (False)
 (Br (hi == (0 : Int))
   ((Ob (y_ ≠ (0 : Int)) ∧
 (Ob (y_ ≠ (0 : Int)) ∧
 (Ob (True) ∧
 (Ob (True) ∧
 (Ob (IntKind.wrap .u64 (Int.tdiv lo y_) = r.1) ∧
 (Ob (Int.tmod lo y_ = r.2) ∧
 True)))))))
   ((Ob (ok (y11 y_)) ∧
 (Ob (True) ∧
 (Ob (w16q14 y_) ∧
 (Ob ((0 : Int) ≤ (32 : Int)) ∧
 (Ob (w16q14 y_) ∧
 (Ob ((0 : Int) ≤ IntKind.wrap .u64 ((64 : Int) - IntKind.wrap .u64 (e5 y_))) ∧
 (Ob (w16q14 y_) ∧
 (Ob ((0 : Int) ≤ (32 : Int)) ∧
 (Ob (Int.fdiv (e1 y_) (e3 ) ≠ (0 : Int)) ∧
   ((∃ (v0 : (Int × Int) × Nat), (Ob ((Option.bind (iter (y37 lo y_ (e5 y_)) v0.2 v0.1) fun y0 => Option.bind (y54 hi lo y_ (e5 y_) y0) some) = some r) ∧
 (Ob (w16q8 y_) ∧
 (Ob (w16q10 y_) ∧
 (Ob (w16q12 y_) ∧
 (Ob (w16q9 y_) ∧
 (Ob (IntKind.wrap .u64 (w16q6 hi lo y_) = IntKind.wrap .u64 (w16q6 hi lo y_)) ∧
 (Ob (Int.fdiv (e4 lo y_) (e3 ) = Int.fdiv (e4 lo y_) (e3 )) ∧
 (Ob (w16q7 lo y_) ∧
 (Ob (IntKind.wrap .u64 (Int.tdiv (e8 hi lo y_) (Int.fdiv (e1 y_) (e3 ))) = v0.1.1) ∧
 (Ob (IntKind.wrap .u64 (IntKind.wrap .u64 (w16q6 hi lo y_) - IntKind.wrap .u64 (IntKind.wrap .u64 (Int.tdiv (e8 hi lo y_) (Int.fdiv (e1 y_) (e3 ))) * Int.fdiv (e1 y_) (e3 ))) = v0.1.2) ∧
 True))))))))))) ∧
   (∀ (v0 : (Int × Int) × Nat), ((Option.bind (iter (y37 lo y_ (e5 y_)) v0.2 v0.1) fun y0 => Option.bind (y54 hi lo y_ (e5 y_) y0) some) = some r →
 Br (decide (v0.1.1 ≥ (4294967296 : Int)))
 (Br (decide (IntKind.wrap .u64 (v0.1.2 + Int.fdiv (e1 y_) (e3 )) ≥ (4294967296 : Int)))
   ((Ob (Int.fdiv (e1 y_) (e3 ) ≠ (0 : Int)) ∧
   ((∃ (v1 : Int × (Int × Int) × Nat), (Ob ((Option.bind (iter (w16q17 lo y_) v1.2.2 v1.2.1) fun y0 => Option.bind (y15 hi lo y_ v1.1 (e5 y_) y0) some) = some r) ∧
 (Ob (w16q8 y_) ∧
 (Ob (w16q10 y_) ∧
 (Ob (w16q12 y_) ∧
 (Ob (w16q9 y_) ∧
 (Ob (w16q7 lo y_) ∧
 (Ob (IntKind.wrap .u64 (v0.1.1 - (1 : Int)) = v1.1) ∧
 (Ob (IntKind.wrap .u64 (IntKind.wrap .u64 (w16q5 hi lo y_ v0) - IntKind.wrap .u64 (IntKind.wrap .u64 (Int.tdiv (IntKind.wrap .u64 (w16q5 hi lo y_ v0)) (Int.fdiv (e1 y_) (e3 ))) * Int.fdiv (e1 y_) (e3 ))) = v1.2.1.1) ∧
 (Ob (IntKind.wrap .u64 (w16q5 hi lo y_ v0) = IntKind.wrap .u64 (IntKind.wrap .u64 (e0 hi lo y_) - IntKind.wrap .u64 (v1.1 * IntKind.wrap .u64 (w16q1 y_)))) ∧
 (Ob (IntKind.wrap .u64 (Int.tdiv (IntKind.wrap .u64 (w16q5 hi lo y_ v0)) (Int.fdiv (e1 y_) (e3 ))) = v1.2.1.2) ∧
 True))))))))))) ∧
   (∀ (v1 : Int × (Int × Int) × Nat), ((Option.bind (iter (w16q17 lo y_) v1.2.2 v1.2.1) fun y0 => Option.bind (y15 hi lo y_ v1.1 (e5 y_) y0) some) = some r →
 Br (decide (v1.2.1.2 ≥ (4294967296 : Int)))
 (Br (w16q15 y_ v1)
   ((Ob (w16q14 y_) ∧
 (Ob (True) ∧
 (Ob (True) ∧
 (Ob (IntKind.wrap .u64 (w16q13 v1) = r.1) ∧
 (Ob (Int.fdiv (w16q3 hi lo y_ v1) (e9 y_) = r.2) ∧
 True))))))
   ((∃ (v2 : Int × (Int × Int) × Nat), (Ob ((Option.bind (iter (w16q17 lo y_) v2.2.2 v2.2.1) fun y0 => Option.bind (y15 hi lo y_ v2.1 (e5 y_) y0) some) = some r) ∧
 (Ob (v2.2.2 < v1.2.2) ∧
 (Ob (w16q8 y_) ∧
 (Ob (w16q10 y_) ∧
 (Ob (w16q12 y_) ∧
 (Ob (w16q9 y_) ∧
 (Ob (w16q7 lo y_) ∧
 (Ob (v1.1 = v2.1) ∧
 (Ob (IntKind.wrap .u64 (v1.2.1.1 + Int.fdiv (e1 y_) (e3 )) = v2.2.1.1) ∧
 (Ob (w16q4 hi lo y_ v1 v2) ∧
 (Ob (IntKind.wrap .u64 (v1.2.1.2 - (1 : Int)) = v2.2.1.2) ∧
 True))))))))))))))
 (Br (w16q16 lo y_ v1)
 (Br (w16q15 y_ v1)
   ((Ob (w16q14 y_) ∧
 (Ob (True) ∧
 (Ob (True) ∧
 (Ob (IntKind.wrap .u64 (w16q13 v1) = r.1) ∧
 (Ob (Int.fdiv (w16q3 hi lo y_ v1) (e9 y_) = r.2) ∧
 True))))))
   ((∃ (v2 : Int × (Int × Int) × Nat), (Ob ((Option.bind (iter (w16q17 lo y_) v2.2.2 v2.2.1) fun y0 => Option.bind (y15 hi lo y_ v2.1 (e5 y_) y0) some) = some r) ∧
 (Ob (v2.2.2 < v1.2.2) ∧
 (Ob (w16q8 y_) ∧
 (Ob (w16q10 y_) ∧
 (Ob (w16q12 y_) ∧
 (Ob (w16q9 y_) ∧
 (Ob (w16q7 lo y_) ∧
 (Ob (v1.1 = v2.1) ∧
 (Ob (IntKind.wrap .u64 (v1.2.1.1 + Int.fdiv (e1 y_) (e3 )) = v2.2.1.1) ∧
 (Ob (w16q4 hi lo y_ v1 v2) ∧
 (Ob (IntKind.wrap .u64 (v1.2.1.2 - (1 : Int)) = v2.2.1.2) ∧
 True))))))))))))))
   ((Ob (w16q14 y_) ∧
 (Ob (True) ∧
 (Ob (True) ∧
 (Ob (IntKind.wrap .u64 (IntKind.wrap .u64 (v1.1 * (4294967296 : Int)) + v1.2.1.2) = r.1) ∧
 (Ob (Int.fdiv (w16q11 hi lo y_ v1) (e9 y_) = r.2) ∧
 True))))))))))))
   ((∃ (v1a : (Int × Int) × Nat), (Ob ((Option.bind (iter (y37 lo y_ (e5 y_)) v1a.2 v1a.1) fun y0 => Option.bind (y54 hi lo y_ (e5 y_) y0) some) = some r) ∧
 (Ob (v1a.2 < v0.2) ∧
 (Ob (w16q8 y_) ∧
 (Ob (w16q10 y_) ∧
 (Ob (w16q12 y_) ∧
 (Ob (w16q9 y_) ∧
 (Ob (IntKind.wrap .u64 (w16q6 hi lo y_) = IntKind.wrap .u64 (w16q6 hi lo y_)) ∧
 (Ob (Int.fdiv (e4 lo y_) (e3 ) = Int.fdiv (e4 lo y_) (e3 )) ∧
 (Ob (w16q7 lo y_) ∧
 (Ob (IntKind.wrap .u64 (v0.1.1 - (1 : Int)) = v1a.1.1) ∧
 (Ob (IntKind.wrap .u64 (v0.1.2 + Int.fdiv (e1 y_) (e3 )) = v1a.1.2) ∧
 True))))))))))))))
 (Br (decide (IntKind.wrap .u64 (v0.1.1 * IntKind.wrap .u64 (w16q2 y_)) > IntKind.wrap .u64 (IntKind.wrap .u64 ((4294967296 : Int) * v0.1.2) + Int.fdiv (e4 lo y_) (e3 ))))
 (Br (decide (IntKind.wrap .u64 (v0.1.2 + Int.fdiv (e1 y_) (e3 )) ≥ (4294967296 : Int)))
   ((Ob (Int.fdiv (e1 y_) (e3 ) ≠ (0 : Int)) ∧
   ((∃ (v1 : Int × (Int × Int) × Nat), (Ob ((Option.bind (iter (w16q17 lo y_) v1.2.2 v1.2.1) fun y0 => Option.bind (y15 hi lo y_ v1.1 (e5 y_) y0) some) = some r) ∧
 (Ob (w16q8 y_) ∧
 (Ob (w16q10 y_) ∧
 (Ob (w16q12 y_) ∧
 (Ob (w16q9 y_) ∧
 (Ob (w16q7 lo y_) ∧
 (Ob (IntKind.wrap .u64 (v0.1.1 - (1 : Int)) = v1.1) ∧
 (Ob (IntKind.wrap .u64 (IntKind.wrap .u64 (w16q5 hi lo y_ v0) - IntKind.wrap .u64 (IntKind.wrap .u64 (Int.tdiv (IntKind.wrap .u64 (w16q5 hi lo y_ v0)) (Int.fdiv (e1 y_) (e3 ))) * Int.fdiv (e1 y_) (e3 ))) = v1.2.1.1) ∧
 (Ob (IntKind.wrap .u64 (w16q5 hi lo y_ v0) = IntKind.wrap .u64 (IntKind.wrap .u64 (e0 hi lo y_) - IntKind.wrap .u64 (v1.1 * IntKind.wrap .u64 (w16q1 y_)))) ∧
 (Ob (IntKind.wrap .u64 (Int.tdiv (IntKind.wrap .u64 (w16q5 hi lo y_ v0)) (Int.fdiv (e1 y_) (e3 ))) = v1.2.1.2) ∧
 True))))))))))) ∧
   (∀ (v1 : Int × (Int × Int) × Nat), ((Option.bind (iter (w16q17 lo y_) v1.2.2 v1.2.1) fun y0 => Option.bind (y15 hi lo y_ v1.1 (e5 y_) y0) some) = some r →
 Br (decide (v1.2.1.2 ≥ (4294967296 : Int)))
 (Br (w16q15 y_ v1)
   ((Ob (w16q14 y_) ∧
 (Ob (True) ∧
 (Ob (True) ∧
 (Ob (IntKind.wrap .u64 (w16q13 v1) = r.1) ∧
 (Ob (Int.fdiv (w16q3 hi lo y_ v1) (e9 y_) = r.2) ∧
 True))))))
   ((∃ (v2 : Int × (Int × Int) × Nat), (Ob ((Option.bind (iter (w16q17 lo y_) v2.2.2 v2.2.1) fun y0 => Option.bind (y15 hi lo y_ v2.1 (e5 y_) y0) some) = some r) ∧
 (Ob (v2.2.2 < v1.2.2) ∧
 (Ob (w16q8 y_) ∧
 (Ob (w16q10 y_) ∧
 (Ob (w16q12 y_) ∧
 (Ob (w16q9 y_) ∧
 (Ob (w16q7 lo y_) ∧
 (Ob (v1.1 = v2.1) ∧
 (Ob (IntKind.wrap .u64 (v1.2.1.1 + Int.fdiv (e1 y_) (e3 )) = v2.2.1.1) ∧
 (Ob (w16q4 hi lo y_ v1 v2) ∧
 (Ob (IntKind.wrap .u64 (v1.2.1.2 - (1 : Int)) = v2.2.1.2) ∧
 True))))))))))))))
 (Br (w16q16 lo y_ v1)
 (Br (w16q15 y_ v1)
   ((Ob (w16q14 y_) ∧
 (Ob (True) ∧
 (Ob (True) ∧
 (Ob (IntKind.wrap .u64 (w16q13 v1) = r.1) ∧
 (Ob (Int.fdiv (w16q3 hi lo y_ v1) (e9 y_) = r.2) ∧
 True))))))
   ((∃ (v2 : Int × (Int × Int) × Nat), (Ob ((Option.bind (iter (w16q17 lo y_) v2.2.2 v2.2.1) fun y0 => Option.bind (y15 hi lo y_ v2.1 (e5 y_) y0) some) = some r) ∧
 (Ob (v2.2.2 < v1.2.2) ∧
 (Ob (w16q8 y_) ∧
 (Ob (w16q10 y_) ∧
 (Ob (w16q12 y_) ∧
 (Ob (w16q9 y_) ∧
 (Ob (w16q7 lo y_) ∧
 (Ob (v1.1 = v2.1) ∧
 (Ob (IntKind.wrap .u64 (v1.2.1.1 + Int.fdiv (e1 y_) (e3 )) = v2.2.1.1) ∧
 (Ob (w16q4 hi lo y_ v1 v2) ∧
 (Ob (IntKind.wrap .u64 (v1.2.1.2 - (1 : Int)) = v2.2.1.2) ∧
 True))))))))))))))
   ((Ob (w16q14 y_) ∧
 (Ob (True) ∧
 (Ob (True) ∧
 (Ob (IntKind.wrap .u64 (IntKind.wrap .u64 (v1.1 * (4294967296 : Int)) + v1.2.1.2) = r.1) ∧
 (Ob (Int.fdiv (w16q11 hi lo y_ v1) (e9 y_) = r.2) ∧
 True))))))))))))
   ((∃ (v1a : (Int × Int) × Nat), (Ob ((Option.bind (iter (y37 lo y_ (e5 y_)) v1a.2 v1a.1) fun y0 => Option.bind (y54 hi lo y_ (e5 y_) y0) some) = some r) ∧
 (Ob (v1a.2 < v0.2) ∧
 (Ob (w16q8 y_) ∧
 (Ob (w16q10 y_) ∧
 (Ob (w16q12 y_) ∧
 (Ob (w16q9 y_) ∧
 (Ob (IntKind.wrap .u64 (w16q6 hi lo y_) = IntKind.wrap .u64 (w16q6 hi lo y_)) ∧
 (Ob (Int.fdiv (e4 lo y_) (e3 ) = Int.fdiv (e4 lo y_) (e3 )) ∧
 (Ob (w16q7 lo y_) ∧
 (Ob (IntKind.wrap .u64 (v0.1.1 - (1 : Int)) = v1a.1.1) ∧
 (Ob (IntKind.wrap .u64 (v0.1.2 + Int.fdiv (e1 y_) (e3 )) = v1a.1.2) ∧
 True))))))))))))))
   ((Ob (Int.fdiv (e1 y_) (e3 ) ≠ (0 : Int)) ∧
   ((∃ (v1 : Int × (Int × Int) × Nat), (Ob ((Option.bind (iter (w16q17 lo y_) v1.2.2 v1.2.1) fun y0 => Option.bind (y15 hi lo y_ v1.1 (e5 y_) y0) some) = some r) ∧
 (Ob (w16q8 y_) ∧
 (Ob (w16q10 y_) ∧
 (Ob (w16q12 y_) ∧
 (Ob (w16q9 y_) ∧
 (Ob (w16q7 lo y_) ∧
 (Ob (v0.1.1 = v1.1) ∧
 (Ob (IntKind.wrap .u64 (IntKind.wrap .u64 (IntKind.wrap .u64 (e0 hi lo y_) - IntKind.wrap .u64 (v0.1.1 * IntKind.wrap .u64 (w16q1 y_))) - IntKind.wrap .u64 (IntKind.wrap .u64 (Int.tdiv (IntKind.wrap .u64 (IntKind.wrap .u64 (e0 hi lo y_) - IntKind.wrap .u64 (v0.1.1 * IntKind.wrap .u64 (w16q1 y_)))) (Int.fdiv (e1 y_) (e3 ))) * Int.fdiv (e1 y_) (e3 ))) = v1.2.1.1) ∧
 (Ob (IntKind.wrap .u64 (IntKind.wrap .u64 (e0 hi lo y_) - IntKind.wrap .u64 (v0.1.1 * IntKind.wrap .u64 (w16q1 y_))) = IntKind.wrap .u64 (IntKind.wrap .u64 (e0 hi lo y_) - IntKind.wrap .u64 (v1.1 * IntKind.wrap .u64 (w16q1 y_)))) ∧
 (Ob (IntKind.wrap .u64 (Int.tdiv (IntKind.wrap .u64 (IntKind.wrap .u64 (e0 hi lo y_) - IntKind.wrap .u64 (v0.1.1 * IntKind.wrap .u64 (w16q1 y_)))) (Int.fdiv (e1 y_) (e3 ))) = v1.2.1.2) ∧
 True))))))))))) ∧
   (∀ (v1 : Int × (Int × Int) × Nat), ((Option.bind (iter (w16q17 lo y_) v1.2.2 v1.2.1) fun y0 => Option.bind (y15 hi lo y_ v1.1 (e5 y_) y0) some) = some r →
 Br (decide (v1.2.1.2 ≥ (4294967296 : Int)))
 (Br (w16q15 y_ v1)
   ((Ob (w16q14 y_) ∧
 (Ob (True) ∧
 (Ob (True) ∧
 (Ob (IntKind.wrap .u64 (w16q13 v1) = r.1) ∧
 (Ob (Int.fdiv (w16q3 hi lo y_ v1) (e9 y_) = r.2) ∧
 True))))))
   ((∃ (v2 : Int × (Int × Int) × Nat), (Ob ((Option.bind (iter (w16q17 lo y_) v2.2.2 v2.2.1) fun y0 => Option.bind (y15 hi lo y_ v2.1 (e5 y_) y0) some) = some r) ∧
 (Ob (v2.2.2 < v1.2.2) ∧
 (Ob (w16q8 y_) ∧
 (Ob (w16q10 y_) ∧
 (Ob (w16q12 y_) ∧
 (Ob (w16q9 y_) ∧
 (Ob (w16q7 lo y_) ∧
 (Ob (v1.1 = v2.1) ∧
 (Ob (IntKind.wrap .u64 (v1.2.1.1 + Int.fdiv (e1 y_) (e3 )) = v2.2.1.1) ∧
 (Ob (w16q4 hi lo y_ v1 v2) ∧
 (Ob (IntKind.wrap .u64 (v1.2.1.2 - (1 : Int)) = v2.2.1.2) ∧
 True))))))))))))))
 (Br (w16q16 lo y_ v1)
 (Br (w16q15 y_ v1)
   ((Ob (w16q14 y_) ∧
 (Ob (True) ∧
 (Ob (True) ∧
 (Ob (IntKind.wrap .u64 (w16q13 v1) = r.1) ∧
 (Ob (Int.fdiv (w16q3 hi lo y_ v1) (e9 y_) = r.2) ∧
 True))))))
   ((∃ (v2 : Int × (Int × Int) × Nat), (Ob ((Option.bind (iter (w16q17 lo y_) v2.2.2 v2.2.1) fun y0 => Option.bind (y15 hi lo y_ v2.1 (e5 y_) y0) some) = some r) ∧
 (Ob (v2.2.2 < v1.2.2) ∧
 (Ob (w16q8 y_) ∧
 (Ob (w16q10 y_) ∧
 (Ob (w16q12 y_) ∧
 (Ob (w16q9 y_) ∧
 (Ob (w16q7 lo y_) ∧
 (Ob (v1.1 = v2.1) ∧
 (Ob (IntKind.wrap .u64 (v1.2.1.1 + Int.fdiv (e1 y_) (e3 )) = v2.2.1.1) ∧
 (Ob (w16q4 hi lo y_ v1 v2) ∧
 (Ob (IntKind.wrap .u64 (v1.2.1.2 - (1 : Int)) = v2.2.1.2) ∧
 True))))))))))))))
   ((Ob (w16q14 y_) ∧
 (Ob (True) ∧
 (Ob (True) ∧
 (Ob (IntKind.wrap .u64 (IntKind.wrap .u64 (v1.1 * (4294967296 : Int)) + v1.2.1.2) = r.1) ∧
 (Ob (Int.fdiv (w16q11 hi lo y_ v1) (e9 y_) = r.2) ∧
 True))))))))))))))))))))))))))))) = _) ?_
  refine br_b h (fun h => ?_) (fun h => ?_)
  · exact nomatch h
  · refine br_d h (fun h => ?_) (fun h => ?_)
    · exact nomatch h
    · refine br_b h (fun h => ?_) (fun h => ?_)
      · refine ob_s h fun h => ?_
        refine ob_s h fun h => ?_
        refine ob_t ?_
        refine ob_t ?_
        exact ret_s h (fun e => by subst e; exact (by repeat' constructor))
      · refine call_s h fun h => ?_
        refine ob_t ?_
        refine ob_s h fun h => ?_
        refine ob_c (p := (0 : Int) ≤ (32 : Int)) (by decide) ?_
        refine ob_s h fun h => ?_
        refine ob_s h fun h => ?_
        refine ob_s h fun h => ?_
        refine ob_c (p := (0 : Int) ≤ (32 : Int)) (by decide) ?_
        refine ob_s h fun h => ?_
        refine ⟨⟨((IntKind.wrap .u64 (Int.tdiv (e8 hi lo y_) (Int.fdiv (e1 y_) (e3 ))), IntKind.wrap .u64 (IntKind.wrap .u64 (↑(BitVec.toNat (BitVec.ofInt (IntKind.bits .u64) (e7 hi y_) ||| BitVec.ofInt (IntKind.bits .u64) (e6 lo y_))) : Int) - IntKind.wrap .u64 (IntKind.wrap .u64 (Int.tdiv (e8 hi lo y_) (Int.fdiv (e1 y_) (e3 ))) * Int.fdiv (e1 y_) (e3 )))), big), ⟨loop_s h⟩, (by repeat' constructor)⟩, fun z1 hz1 => ?_⟩
        obtain ⟨k1, hm1, h⟩ := iter_pos hz1
        refine br_d h (fun h => ?_) (fun h => ?_)
        · refine br_d h (fun h => ?_) (fun h => ?_)
          · have h := exit_s h
            refine ob_s h fun h => ?_
            refine ⟨⟨(IntKind.wrap .u64 ((Prod.fst z1).1 - (1 : Int)), (IntKind.wrap .u64 (IntKind.wrap .u64 (IntKind.wrap .u64 (e0 hi lo y_) - IntKind.wrap .u64 (IntKind.wrap .u64 ((Prod.fst z1).1 - (1 : Int)) * IntKind.wrap .u64 (y_ * (2 : Int) ^ min (Int.toNat (e2 y_)) (IntKind.bits .u64)))) - IntKind.wrap .u64 (IntKind.wrap .u64 (Int.tdiv (IntKind.wrap .u64 (IntKind.wrap .u64 (e0 hi lo y_) - IntKind.wrap .u64 (IntKind.wrap .u64 ((Prod.fst z1).1 - (1 : Int)) * IntKind.wrap .u64 (y_ * (2 : Int) ^ min (Int.toNat (e2 y_)) (IntKind.bits .u64))))) (Int.fdiv (e1 y_) (e3 ))) * Int.fdiv (e1 y_) (e3 ))), IntKind.wrap .u64 (Int.tdiv (IntKind.wrap .u64 (IntKind.wrap .u64 (e0 hi lo y_) - IntKind.wrap .u64 (IntKind.wrap .u64 ((Prod.fst z1).1 - (1 : Int)) * IntKind.wrap .u64 (y_ * (2 : Int) ^ min (Int.toNat (e2 y_)) (IntKind.bits .u64))))) (Int.fdiv (e1 y_) (e3 )))), big), ⟨loop_s h⟩, (by repeat' constructor)⟩, fun z2 hz2 => ?_⟩
            obtain ⟨k2, hm2, h⟩ := iter_pos hz2
            refine br_d h (fun h => ?_) (fun h => ?_)
            · refine br_d h (fun h => ?_) (fun h => ?_)
              · have h := exit_s h
                refine ob_s h fun h => ?_
                refine ob_t ?_
                refine ob_t ?_
                exact ret_s h (fun e => by subst e; exact (by repeat' constructor))
              · exact ⟨(Prod.fst z2, (IntKind.wrap .u64 ((Prod.fst (Prod.snd z2)).1 + Int.fdiv (e1 y_) (e3 )), IntKind.wrap .u64 ((Prod.fst (Prod.snd z2)).2 - (1 : Int))), k2), ⟨next_s h⟩, ⟨lt_gs hm2.symm⟩, (by repeat' constructor)⟩
            · refine br_d h (fun h => ?_) (fun h => ?_)
              · refine br_d h (fun h => ?_) (fun h => ?_)
                · have h := exit_s h
                  refine ob_s h fun h => ?_
                  refine ob_t ?_
                  refine ob_t ?_
                  exact ret_s h (fun e => by subst e; exact (by repeat' constructor))
                · exact ⟨(Prod.fst z2, (IntKind.wrap .u64 ((Prod.fst (Prod.snd z2)).1 + Int.fdiv (e1 y_) (e3 )), IntKind.wrap .u64 ((Prod.fst (Prod.snd z2)).2 - (1 : Int))), k2), ⟨next_s h⟩, ⟨lt_gs hm2.symm⟩, (by repeat' constructor)⟩
              · have h := exit_s h
                refine ob_s h fun h => ?_
                refine ob_t ?_
                refine ob_t ?_
                exact ret_s h (fun e => by subst e; exact (by repeat' constructor))
          · exact ⟨((IntKind.wrap .u64 ((Prod.fst z1).1 - (1 : Int)), IntKind.wrap .u64 ((Prod.fst z1).2 + Int.fdiv (e1 y_) (e3 ))), k1), ⟨next_s h⟩, ⟨lt_gs hm1.symm⟩, (by repeat' constructor)⟩
        · refine br_d h (fun h => ?_) (fun h => ?_)
          · refine br_d h (fun h => ?_) (fun h => ?_)
            · have h := exit_s h
              refine ob_s h fun h => ?_
              refine ⟨⟨(IntKind.wrap .u64 ((Prod.fst z1).1 - (1 : Int)), (IntKind.wrap .u64 (IntKind.wrap .u64 (IntKind.wrap .u64 (e0 hi lo y_) - IntKind.wrap .u64 (IntKind.wrap .u64 ((Prod.fst z1).1 - (1 : Int)) * IntKind.wrap .u64 (y_ * (2 : Int) ^ min (Int.toNat (e2 y_)) (IntKind.bits .u64)))) - IntKind.wrap .u64 (IntKind.wrap .u64 (Int.tdiv (IntKind.wrap .u64 (IntKind.wrap .u64 (e0 hi lo y_) - IntKind.wrap .u64 (IntKind.wrap .u64 ((Prod.fst z1).1 - (1 : Int)) * IntKind.wrap .u64 (y_ * (2 : Int) ^ min (Int.toNat (e2 y_)) (IntKind.bits .u64))))) (Int.fdiv (e1 y_) (e3 ))) * Int.fdiv (e1 y_) (e3 ))), IntKind.wrap .u64 (Int.tdiv (IntKind.wrap .u64 (IntKind.wrap .u64 (e0 hi lo y_) - IntKind.wrap .u64 (IntKind.wrap .u64 ((Prod.fst z1).1 - (1 : Int)) * IntKind.wrap .u64 (y_ * (2 : Int) ^ min (Int.toNat (e2 y_)) (IntKind.bits .u64))))) (Int.fdiv (e1 y_) (e3 )))), big), ⟨loop_s h⟩, (by repeat' constructor)⟩, fun z3 hz3 => ?_⟩
              obtain ⟨k3, hm3, h⟩ := iter_pos hz3
              refine br_d h (fun h => ?_) (fun h => ?_)
              · refine br_d h (fun h => ?_) (fun h => ?_)
                · have h := exit_s h
                  refine ob_s h fun h => ?_
                  refine ob_t ?_
                  refine ob_t ?_
                  exact ret_s h (fun e => by subst e; exact (by repeat' constructor))
                · exact ⟨(Prod.fst z3, (IntKind.wrap .u64 ((Prod.fst (Prod.snd z3)).1 + Int.fdiv (e1 y_) (e3 )), IntKind.wrap .u64 ((Prod.fst (Prod.snd z3)).2 - (1 : Int))), k3), ⟨next_s h⟩, ⟨lt_gs hm3.symm⟩, (by repeat' constructor)⟩
              · refine br_d h (fun h => ?_) (fun h => ?_)
                · refine br_d h (fun h => ?_) (fun h => ?_)
                  · have h := exit_s h
                    refine ob_s h fun h => ?_
                    refine ob_t ?_
                    refine ob_t ?_
                    exact ret_s h (fun e => by subst e; exact (by repeat' constructor))
                  · exact ⟨(Prod.fst z3, (IntKind.wrap .u64 ((Prod.fst (Prod.snd z3)).1 + Int.fdiv (e1 y_) (e3 )), IntKind.wrap .u64 ((Prod.fst (Prod.snd z3)).2 - (1 : Int))), k3), ⟨next_s h⟩, ⟨lt_gs hm3.symm⟩, (by repeat' constructor)⟩
                · have h := exit_s h
                  refine ob_s h fun h => ?_
                  refine ob_t ?_
                  refine ob_t ?_
                  exact ret_s h (fun e => by subst e; exact (by repeat' constructor))
            · exact ⟨((IntKind.wrap .u64 ((Prod.fst z1).1 - (1 : Int)), IntKind.wrap .u64 ((Prod.fst z1).2 + Int.fdiv (e1 y_) (e3 ))), k1), ⟨next_s h⟩, ⟨lt_gs hm1.symm⟩, (by repeat' constructor)⟩
          · have h := exit_s h
            refine ob_s h fun h => ?_
            refine ⟨⟨((Prod.fst z1).1, (IntKind.wrap .u64 (IntKind.wrap .u64 (IntKind.wrap .u64 (e0 hi lo y_) - IntKind.wrap .u64 ((Prod.fst z1).1 * IntKind.wrap .u64 (y_ * (2 : Int) ^ min (Int.toNat (e2 y_)) (IntKind.bits .u64)))) - IntKind.wrap .u64 (IntKind.wrap .u64 (Int.tdiv (IntKind.wrap .u64 (IntKind.wrap .u64 (e0 hi lo y_) - IntKind.wrap .u64 ((Prod.fst z1).1 * IntKind.wrap .u64 (y_ * (2 : Int) ^ min (Int.toNat (e2 y_)) (IntKind.bits .u64))))) (Int.fdiv (e1 y_) (e3 ))) * Int.fdiv (e1 y_) (e3 ))), IntKind.wrap .u64 (Int.tdiv (IntKind.wrap .u64 (IntKind.wrap .u64 (e0 hi lo y_) - IntKind.wrap .u64 ((Prod.fst z1).1 * IntKind.wrap .u64 (y_ * (2 : Int) ^ min (Int.toNat (e2 y_)) (IntKind.bits .u64))))) (Int.fdiv (e1 y_) (e3 )))), big), ⟨loop_s h⟩, (by repeat' constructor)⟩, fun z4 hz4 => ?_⟩
            obtain ⟨k4, hm4, h⟩ := iter_pos hz4
            refine br_d h (fun h => ?_) (fun h => ?_)
            · refine br_d h (fun h => ?_) (fun h => ?_)
              · have h := exit_s h
                refine ob_s h fun h => ?_
                refine ob_t ?_
                refine ob_t ?_
                exact ret_s h (fun e => by subst e; exact (by repeat' constructor))
              · exact ⟨(Prod.fst z4, (IntKind.wrap .u64 ((Prod.fst (Prod.snd z4)).1 + Int.fdiv (e1 y_) (e3 )), IntKind.wrap .u64 ((Prod.fst (Prod.snd z4)).2 - (1 : Int))), k4), ⟨next_s h⟩, ⟨lt_gs hm4.symm⟩, (by repeat' constructor)⟩
            · refine br_d h (fun h => ?_) (fun h => ?_)
              · refine br_d h (fun h => ?_) (fun h => ?_)
                · have h := exit_s h
                  refine ob_s h fun h => ?_
                  refine ob_t ?_
                  refine ob_t ?_
                  exact ret_s h (fun e => by subst e; exact (by repeat' constructor))
                · exact ⟨(Prod.fst z4, (IntKind.wrap .u64 ((Prod.fst (Prod.snd z4)).1 + Int.fdiv (e1 y_) (e3 )), IntKind.wrap .u64 ((Prod.fst (Prod.snd z4)).2 - (1 : Int))), k4), ⟨next_s h⟩, ⟨lt_gs hm4.symm⟩, (by repeat' constructor)⟩
              · have h := exit_s h
                refine ob_s h fun h => ?_
                refine ob_t ?_
                refine ob_t ?_
                exact ret_s h (fun e => by subst e; exact (by repeat' constructor))
set_option maxRecDepth 100000 in
theorem math_bits_Div64_ok : SpecOK Tryd.prog 89 true (pureK k_math_bits_Div64 y132) := by
  refine pureK_ok (sp := (sp_99 sp0)) (fn := Tryd.f89) (body := bodyOf Tryd.f89) mixed (sp_99_ok sp0_ok) Tryd.func89 (by kernel_rfl) (by kernel_rfl) fun as_ ob rs h ho => ?_
  unfold y132 at h
  split at h
  · rename_i hi lo y_
    cases h
    exact ⟨Nat.le_of_ble_eq_true rfl, _, _, math_bits_Div64_vc hi lo y_ _ (ok_some ho)⟩
  · cases h
theorem sp_89_ok {sp : Specs} (h : SpecsOK Tryd.prog sp) : SpecsOK Tryd.prog (sp_89 sp) := addK_ok math_bits_Div64_ok h
def y117 : List SV := [.c (.d), .c (.d), .c (.p [.p [.d, .r (.floats .f32 []), .d, .d, .r (.recs 2 []), .r (.recs 2 [])]])]
def y16 (u68 : Int) (u69 : Int) (u18 : Int) (u19 : List Nat) (u20 : Int) (u21 : Int) (u22 : List (List Int)) (u23 : List (List Int)) : Option (Int × Bool) :=
  Option.bind (y6 (IntKind.wrap .u64 u68) (1000000 : Int)) fun r0 =>
  Option.bind (y59 (IntKind.wrap .u64 (IntKind.wrap .u64 (IntKind.wrap .u64 (Int.fdiv (IntKind.wrap .u64 u68) ((2 : Int) ^ min (32 : Nat) (IntKind.bits .u64)) * Int.fdiv (1000000 : Int) ((2 : Int) ^ min (32 : Nat) (IntKind.bits .u64))) + Int.fdiv (IntKind.wrap .u64 (IntKind.wrap .u64 (Int.fdiv (IntKind.wrap .u64 u68) ((2 : Int) ^ min (32 : Nat) (IntKind.bits .u64)) * IntKind.wrap .u64 (↑(BitVec.toNat (BitVec.ofInt (IntKind.bits .u64) (1000000 : Int) &&& BitVec.ofInt (IntKind.bits .u64) (4294967295 : Int))) : Int)) + Int.fdiv (IntKind.wrap .u64 (IntKind.wrap .u64 (↑(BitVec.toNat (BitVec.ofInt (IntKind.bits .u64) (IntKind.wrap .u64 u68) &&& BitVec.ofInt (IntKind.bits .u64) (4294967295 : Int))) : Int) * IntKind.wrap .u64 (↑(BitVec.toNat (BitVec.ofInt (IntKind.bits .u64) (1000000 : Int) &&& BitVec.ofInt (IntKind.bits .u64) (4294967295 : Int))) : Int))) ((2 : Int) ^ min (32 : Nat) (IntKind.bits .u64)))) ((2 : Int) ^ min (32 : Nat) (IntKind.bits .u64))) + Int.fdiv (IntKind.wrap .u64 (IntKind.wrap .u64 (↑(BitVec.toNat (BitVec.ofInt (IntKind.bits .u64) (IntKind.wrap .u64 (IntKind.wrap .u64 (Int.fdiv (IntKind.wrap .u64 u68) ((2 : Int) ^ min (32 : Nat) (IntKind.bits .u64)) * IntKind.wrap .u64 (↑(BitVec.toNat (BitVec.ofInt (IntKind.bits .u64) (1000000 : Int) &&& BitVec.ofInt (IntKind.bits .u64) (4294967295 : Int))) : Int)) + Int.fdiv (IntKind.wrap .u64 (IntKind.wrap .u64 (↑(BitVec.toNat (BitVec.ofInt (IntKind.bits .u64) (IntKind.wrap .u64 u68) &&& BitVec.ofInt (IntKind.bits .u64) (4294967295 : Int))) : Int) * IntKind.wrap .u64 (↑(BitVec.toNat (BitVec.ofInt (IntKind.bits .u64) (1000000 : Int) &&& BitVec.ofInt (IntKind.bits .u64) (4294967295 : Int))) : Int))) ((2 : Int) ^ min (32 : Nat) (IntKind.bits .u64)))) &&& BitVec.ofInt (IntKind.bits .u64) (4294967295 : Int))) : Int) + IntKind.wrap .u64 (IntKind.wrap .u64 (↑(BitVec.toNat (BitVec.ofInt (IntKind.bits .u64) (IntKind.wrap .u64 u68) &&& BitVec.ofInt (IntKind.bits .u64) (4294967295 : Int))) : Int) * Int.fdiv (1000000 : Int) ((2 : Int) ^ min (32 : Nat) (IntKind.bits .u64))))) ((2 : Int) ^ min (32 : Nat) (IntKind.bits .u64)))) (IntKind.wrap .u64 (IntKind.wrap .u64 u68 * (1000000 : Int))) (IntKind.wrap .u64 (IntKind.wrap .i64 (u69 * u18)))) fun r1 =>
  some ((IntKind.wrap .i64 r1.1, decide (r1.2 > (0 : Int))))
def y118 : List Lf → Option GT
  | [.d (.i .i64 u68), .d (.i .i64 u69), .d (.i .i64 u18), .r (.floats .f32 u19), .d (.i .i64 u20), .d (.i .i64 u21), .r (.recs 2 u22), .r (.recs 2 u23)] => some (.leaf (ok (y16 u68 u69 u18 u19 u20 u21 u22 u23)) [.c (.d (.i .i64 ((val (y16 u68 u69 u18 u19 u20 u21 u22 u23)).1))), .c (.d (.b ((val (y16 u68 u69 u18 u19 u20 u21 u22 u23)).2)))])
  | _ => none
abbrev sp_87 : Specs → Specs := addK 87 true (pureT y117 y118)
private abbrev w17q0 (u68 : Int) (u69 : Int) (u18 : Int) := (y59 (IntKind.wrap .u64 (IntKind.wrap .u64 (IntKind.wrap .u64 (Int.fdiv (IntKind.wrap .u64 u68) ((2 : Int) ^ min (32 : Nat) (IntKind.bits .u64)) * Int.fdiv (1000000 : Int) ((2 : Int) ^ min (32 : Nat) (IntKind.bits .u64))) + Int.fdiv (IntKind.wrap .u64 (IntKind.wrap .u64 (Int.fdiv (IntKind.wrap .u64 u68) ((2 : Int) ^ min (32 : Nat) (IntKind.bits .u64)) * IntKind.wrap .u64 (↑(BitVec.toNat (BitVec.ofInt (IntKind.bits .u64) (1000000 : Int) &&& BitVec.ofInt (IntKind.bits .u64) (4294967295 : Int))) : Int)) + Int.fdiv (IntKind.wrap .u64 (IntKind.wrap .u64 (↑(BitVec.toNat (BitVec.ofInt (IntKind.bits .u64) (IntKind.wrap .u64 u68) &&& BitVec.ofInt (IntKind.bits .u64) (4294967295 : Int))) : Int) * IntKind.wrap .u64 (↑(BitVec.toNat (BitVec.ofInt (IntKind.bits .u64) (1000000 : Int) &&& BitVec.ofInt (IntKind.bits .u64) (4294967295 : Int))) : Int))) ((2 : Int) ^ min (32 : Nat) (IntKind.bits .u64)))) ((2 : Int) ^ min (32 : Nat) (IntKind.bits .u64))) + Int.fdiv (IntKind.wrap .u64 (IntKind.wrap .u64 (↑(BitVec.toNat (BitVec.ofInt (IntKind.bits .u64) (IntKind.wrap .u64 (IntKind.wrap .u64 (Int.fdiv (IntKind.wrap .u64 u68) ((2 : Int) ^ min (32 : Nat) (IntKind.bits .u64)) * IntKind.wrap .u64 (↑(BitVec.toNat (BitVec.ofInt (IntKind.bits .u64) (1000000 : Int) &&& BitVec.ofInt (IntKind.bits .u64) (4294967295 : Int))) : Int)) + Int.fdiv (IntKind.wrap .u64 (IntKind.wrap .u64 (↑(BitVec.toNat (BitVec.ofInt (IntKind.bits .u64) (IntKind.wrap .u64 u68) &&& BitVec.ofInt (IntKind.bits .u64) (4294967295 : Int))) : Int) * IntKind.wrap .u64 (↑(BitVec.toNat (BitVec.ofInt (IntKind.bits .u64) (1000000 : Int) &&& BitVec.ofInt (IntKind.bits .u64) (4294967295 : Int))) : Int))) ((2 : Int) ^ min (32 : Nat) (IntKind.bits .u64)))) &&& BitVec.ofInt (IntKind.bits .u64) (4294967295 : Int))) : Int) + IntKind.wrap .u64 (IntKind.wrap .u64 (↑(BitVec.toNat (BitVec.ofInt (IntKind.bits .u64) (IntKind.wrap .u64 u68) &&& BitVec.ofInt (IntKind.bits .u64) (4294967295 : Int))) : Int) * Int.fdiv (1000000 : Int) ((2 : Int) ^ min (32 : Nat) (IntKind.bits .u64))))) ((2 : Int) ^ min (32 : Nat) (IntKind.bits .u64)))) (IntKind.wrap .u64 (IntKind.wrap .u64 u68 * (1000000 : Int))) (IntKind.wrap .u64 (IntKind.wrap .i64 (u69 * u18))))
set_option maxRecDepth 100000 in
theorem G_decay_centre_1_vc (u68 : Int) (u69 : Int) (u18 : Int) (u19 : List Nat) (u20 : Int) (u21 : Int) (u22 : List (List Int)) (u23 : List (List Int)) (r : Int × Bool) (h : Option.bind (y16 u68 u69 u18 u19 u20 u21 u22 u23) some = some r) : runT Tryd.f87 ((sp_88 (sp_89 sp0))) (fun _ _ _ => none) (bldD y117 [.d (.i .i64 u68), .d (.i .i64 u69), .d (.i .i64 u18), .r (.floats .f32 u19), .d (.i .i64 u20), .d (.i .i64 u21), .r (.recs 2 u22), .r (.recs 2 u23)]) [.c (.d (.i .i64 r.1)), .c (.d (.b r.2))] := by
  refine Eq.mp (by kernel_rfl : (
 (Ob (True) ∧
 (Ob (ok (y6 (IntKind.wrap .u64 u68) (1000000 : Int))) ∧
 (Ob (True) ∧
 (Ob (True) ∧
 (Ob (True) ∧
 (Ob (ok (w17q0 u68 u69 u18)) ∧
 (Ob (True) ∧
 (Ob (True) ∧
 (Ob (True) ∧
 (Ob (IntKind.wrap .i64 (val (w17q0 u68 u69 u18)).1 = r.1) ∧
 (Ob (decide ((val (w17q0 u68 u69 u18)).2 > (0 : Int)) = r.2) ∧
 True)))))))))))) = _) ?_
  refine ob_t ?_
  refine call_s h fun h => ?_
  refine ob_t ?_
  refine ob_t ?_
  refine ob_t ?_
  refine call_s h fun h => ?_
  refine ob_t ?_
  refine ob_t ?_
  refine ob_t ?_
  exact ret_s h (fun e => by subst e; exact (by repeat' constructor))
set_option maxRecDepth 100000 in
theorem G_decay_centre_1_ok : SpecOK Tryd.prog 87 true (pureT y117 y118) := by
  refine pureT_ok (sp := (sp_88 (sp_89 sp0))) (fn := Tryd.f87) (body := bodyOf Tryd.f87) mixed (sp_88_ok (sp_89_ok sp0_ok)) Tryd.func87 (by kernel_rfl) (by kernel_rfl) fun ls t h ho b hb => ?_
  unfold y118 at h
  split at h
  · rename_i u68 u69 u18 u19 u20 u21 u22 u23
    cases h
    obtain rfl := bld_eq hb
    exact ⟨Nat.le_of_ble_eq_true (by kernel_rfl), _, _, G_decay_centre_1_vc u68 u69 u18 u19 u20 u21 u22 u23 _ (ok_some ho)⟩
  · cases h
theorem sp_87_ok {sp : Specs} (h : SpecsOK Tryd.prog sp) : SpecsOK Tryd.prog (sp_87 sp) := addK_ok G_decay_centre_1_ok h
end Go.Sh
end

section
namespace Go.Sh
open Go Go.Proofs Go.RowKit Go.Sx
set_option linter.unusedVariables false
def y143 : List SV := [.c (.p [.d, .r (.floats .f32 []), .d, .d, .r (.recs 2 []), .r (.recs 2 [])])]
def y51 (u9 : List (List Int)) (x0 : (Int × Int × Int)) : Option ((Int × Int × Int) ⊕ (Int × Int)) :=
  if x0.1 < (↑(List.length u9) : Int) then
   if (0 : Int) ≤ x0.1 ∧ x0.1 < (↑(List.length u9) : Int) then
    if Int.toNat x0.1 < List.length u9 then
     Option.bind (G_plus x0.2.1 x0.2.2 (IntKind.wrap .i64 (x0.1 * List.getD (List.getD u9 (Int.toNat x0.1) []) (0 : Nat) (0 : Int))) (IntKind.wrap .i64 (x0.1 * List.getD (List.getD u9 (Int.toNat x0.1) []) (1 : Nat) (0 : Int)))) fun r0 =>
     some (.inl ((IntKind.wrap .i64 (x0.1 + (1 : Int)), IntKind.wrap .i64 (x0.2.1 + IntKind.wrap .i64 (x0.1 * List.getD (List.getD u9 (Int.toNat x0.1) []) (0 : Nat) (0 : Int))), IntKind.wrap .i64 (x0.2.2 + IntKind.wrap .i64 (x0.1 * List.getD (List.getD u9 (Int.toNat x0.1) []) (1 : Nat) (0 : Int))))))
    else none
   else none
  else
   some (.inr (x0.2.1, x0.2.2))
def y70 (u10 : Int) (u11 : List Nat) (u12 : Int) (u13 : Int) (u9 : List (List Int)) (u14 : List (List Int)) (u17 : Int × Int) : Option (Int × Int × Int) :=
  if (0 : Int) ≤ (0 : Int) ∧ (0 : Int) < (↑(List.length u14) : Int) then
   if (0 : Nat) < List.length u14 then
    Option.bind (y16 u17.1 (List.getD (List.getD u14 (0 : Nat) []) (1 : Nat) (0 : Int)) u10 u11 u12 u13 u9 u14) fun r1 =>
    if (0 : Int) ≤ (0 : Int) ∧ (0 : Int) < (↑(List.length u14) : Int) then
     if (0 : Nat) < List.length u14 then
      Option.bind (y16 u17.2 (List.getD (List.getD u14 (0 : Nat) []) (0 : Nat) (0 : Int)) u10 u11 u12 u13 u9 u14) fun r2 =>
      if (r2.2) = true then
       Option.bind (G_ceil (IntKind.wrap .i64 (IntKind.wrap .i64 ((↑(List.length u9) : Int) - (1 : Int)) * (1000000 : Int))) u10) fun r3 =>
       some ((r1.1, if r3 < IntKind.wrap .i64 (r2.1 + (1 : Int)) then r3 else IntKind.wrap .i64 (r2.1 + (1 : Int)), (0 : Int)))
      else
       Option.bind (G_ceil (IntKind.wrap .i64 (IntKind.wrap .i64 ((↑(List.length u9) : Int) - (1 : Int)) * (1000000 : Int))) u10) fun r3 =>
       some ((r1.1, if r3 < r2.1 then r3 else r2.1, (0 : Int)))
     else none
    else none
   else none
  else none
def y2 (u10 : Int) (u11 : List Nat) (u12 : Int) (u13 : Int) (u9 : List (List Int)) (u14 : List (List Int)) : Option (Int × Int × Int) :=
  if (u13 != (0 : Int)) = true then
   some (((0 : Int), (0 : Int), (23 : Int)))
  else
   if (0 : Int) ≤ (0 : Int) ∧ (0 : Int) < (↑(List.length u14) : Int) then
    if (0 : Nat) < List.length u14 then
     if (List.getD (List.getD u14 (0 : Nat) []) (0 : Nat) (0 : Int) == (0 : Int)) = true then
      some (((0 : Int), (0 : Int), (11 : Int)))
     else
      Option.bind (iter (y51 u9) big (((0 : Int), (0 : Int), (0 : Int)))) (y70 u10 u11 u12 u13 u9 u14)
    else none
   else none
def y144 : List Lf → Option GT
  | [.d (.i .i64 u10), .r (.floats .f32 u11), .d (.i .i64 u12), .d (.i .i64 u13), .r (.recs 2 u9), .r (.recs 2 u14)] => some (.leaf (ok (y2 u10 u11 u12 u13 u9 u14)) [.s [.d (.i .i64 ((val (y2 u10 u11 u12 u13 u9 u14)).1)), .d (.i .i64 ((val (y2 u10 u11 u12 u13 u9 u14)).2.1))], .c (.d (.i .i64 ((val (y2 u10 u11 u12 u13 u9 u14)).2.2)))])
  | _ => none
abbrev sp_60 : Specs → Specs := addK 60 true (pureT y143 y144)
private abbrev w10q0 (u9 : List (List Int)) := (IntKind.wrap .i64 (IntKind.wrap .i64 ((↑(List.length u9) : Int) - (1 : Int)) * (1000000 : Int)))
private abbrev w10q1 (u14 : List (List Int)) := (List.getD (List.getD u14 (0 : Nat) []) (0 : Nat) (0 : Int))
set_option maxRecDepth 100000 in
theorem G_decay_centre_vc (u10 : Int) (u11 : List Nat) (u12 : Int) (u13 : Int) (u9 : List (List Int)) (u14 : List (List Int)) (r : Int × Int × Int) (h : Option.bind (y2 u10 u11 u12 u13 u9 u14) some = some r) : runT Tryd.f60 ((sp_83 (sp_87 (sp_81 sp0)))) (fun gs id _ => match id with
 | 1 => some ⟨(Int × Int × Int) × Nat, fun z => ⟨[(1, .w (.c (.p 4 (0 : Nat) 1 (0 : Nat)))), (2, .w (.c (.p 5 (0 : Nat) 1 (0 : Nat)))), (4, .w (.c (.p 6 (0 : Nat) 1 (0 : Nat)))), (33, .w (.c (.o 1))), (34, .w (.c (.d (.i .i64 ((↑(List.length u9) : Int)))))), (35, .w (.c (.d (.i .i64 (Prod.fst (Prod.fst z))))))], [(4, .box 95 [.p 3 (0 : Nat) 1 (0 : Nat)]), (5, .box 24 [.d (.i .i64 (0 : Int)), .d (.i .i64 (0 : Int))]), (6, .box 24 [.d (.i .i64 (Prod.fst (Prod.snd (Prod.fst z)))), .d (.i .i64 (Prod.snd (Prod.snd (Prod.fst z))))]), (1, .ext (.recs 2 u9)), (3, .ebox [.d (.i .i64 u10), .o 0, .d (.i .i64 u12), .d (.i .i64 u13), .o 1, .o 2]), (0, .ext (.floats .f32 u11)), (2, .ext (.recs 2 u14))], 7⟩, fun z => Option.bind (iter (y51 u9) (Prod.snd z) (Prod.fst z)) (fun y0 => Option.bind (y70 u10 u11 u12 u13 u9 u14 y0) some) = some r, fun z => Prod.snd z⟩
 | _ => none) (bldD y143 [.d (.i .i64 u10), .r (.floats .f32 u11), .d (.i .i64 u12), .d (.i .i64 u13), .r (.recs 2 u9), .r (.recs 2 u14)]) [.s [.d (.i .i64 r.1), .d (.i .i64 r.2.1)], .c (.d (.i .i64 r.2.2))] := by
  refine Eq.mp (by kernel_rfl : (
 (Ob (True) ∧
 Br (u13 != (0 : Int))
   ((Ob (True) ∧
 (Ob (True) ∧
 (Ob ((0 : Int) = r.1) ∧
 (Ob ((0 : Int) = r.2.1) ∧
 (Ob ((23 : Int) = r.2.2) ∧
 True))))))
   ((Ob (True) ∧
 (Ob ((0 : Int) ≤ (0 : Int) ∧ (0 : Int) < (↑(List.length u14) : Int)) ∧
 (Ob ((0 : Nat) < List.length u14) ∧
 Br (List.getD (List.getD u14 (0 : Nat) []) (0 : Nat) (0 : Int) == (0 : Int))
   ((Ob (True) ∧
 (Ob (True) ∧
 (Ob ((0 : Int) = r.1) ∧
 (Ob ((0 : Int) = r.2.1) ∧
 (Ob ((11 : Int) = r.2.2) ∧
 True))))))
   ((Ob (True) ∧
   ((∃ (v0 : (Int × Int × Int) × Nat), (Ob ((Option.bind (iter (y51 u9) v0.2 v0.1) fun y0 => Option.bind (y70 u10 u11 u12 u13 u9 u14 y0) some) = some r) ∧
 (Ob ((0 : Nat) = (0 : Nat)) ∧
 (Ob ((0 : Nat) = (0 : Nat)) ∧
 (Ob ((0 : Nat) = (0 : Nat)) ∧
 (Ob ((↑(List.length u9) : Int) = (↑(List.length u9) : Int)) ∧
 (Ob ((0 : Int) = v0.1.1) ∧
 (Ob ((0 : Nat) = (0 : Nat)) ∧
 (Ob ((0 : Int) = (0 : Int)) ∧
 (Ob ((0 : Int) = (0 : Int)) ∧
 (Ob ((0 : Int) = v0.1.2.1) ∧
 (Ob ((0 : Int) = v0.1.2.2) ∧
 (Ob (u9 = u9) ∧
 (Ob (u10 = u10) ∧
 (Ob (u12 = u12) ∧
 (Ob (u13 = u13) ∧
 (Ob (u11 = u11) ∧
 (Ob (u14 = u14) ∧
 True)))))))))))))))))) ∧
   (∀ (v0 : (Int × Int × Int) × Nat), ((Option.bind (iter (y51 u9) v0.2 v0.1) fun y0 => Option.bind (y70 u10 u11 u12 u13 u9 u14 y0) some) = some r →
 Br (decide (v0.1.1 < (↑(List.length u9) : Int)))
   ((Ob ((0 : Int) ≤ v0.1.1 ∧ v0.1.1 < (↑(List.length u9) : Int)) ∧
 (Ob (Int.toNat v0.1.1 < List.length u9) ∧
 (Ob (ok (G_plus v0.1.2.1 v0.1.2.2 (IntKind.wrap .i64 (v0.1.1 * List.getD (List.getD u9 (Int.toNat v0.1.1) []) (0 : Nat) (0 : Int))) (IntKind.wrap .i64 (v0.1.1 * List.getD (List.getD u9 (Int.toNat v0.1.1) []) (1 : Nat) (0 : Int))))) ∧
   (∃ (v1 : (Int × Int × Int) × Nat), (Ob ((Option.bind (iter (y51 u9) v1.2 v1.1) fun y0 => Option.bind (y70 u10 u11 u12 u13 u9 u14 y0) some) = some r) ∧
 (Ob (v1.2 < v0.2) ∧
 (Ob ((0 : Nat) = (0 : Nat)) ∧
 (Ob ((0 : Nat) = (0 : Nat)) ∧
 (Ob ((0 : Nat) = (0 : Nat)) ∧
 (Ob ((↑(List.length u9) : Int) = (↑(List.length u9) : Int)) ∧
 (Ob (IntKind.wrap .i64 (v0.1.1 + (1 : Int)) = v1.1.1) ∧
 (Ob ((0 : Nat) = (0 : Nat)) ∧
 (Ob ((0 : Int) = (0 : Int)) ∧
 (Ob ((0 : Int) = (0 : Int)) ∧
 (Ob (IntKind.wrap .i64 (v0.1.2.1 + IntKind.wrap .i64 (v0.1.1 * List.getD (List.getD u9 (Int.toNat v0.1.1) []) (0 : Nat) (0 : Int))) = v1.1.2.1) ∧
 (Ob (IntKind.wrap .i64 (v0.1.2.2 + IntKind.wrap .i64 (v0.1.1 * List.getD (List.getD u9 (Int.toNat v0.1.1) []) (1 : Nat) (0 : Int))) = v1.1.2.2) ∧
 (Ob (u9 = u9) ∧
 (Ob (u10 = u10) ∧
 (Ob (u12 = u12) ∧
 (Ob (u13 = u13) ∧
 (Ob (u11 = u11) ∧
 (Ob (u14 = u14) ∧
 True)))))))))))))))))))))))
   ((Ob (True) ∧
 (Ob ((0 : Int) ≤ (0 : Int) ∧ (0 : Int) < (↑(List.length u14) : Int)) ∧
 (Ob ((0 : Nat) < List.length u14) ∧
 (Ob (ok (y16 v0.1.2.1 (List.getD (List.getD u14 (0 : Nat) []) (1 : Nat) (0 : Int)) u10 u11 u12 u13 u9 u14)) ∧
 (Ob (True) ∧
 (Ob ((0 : Int) ≤ (0 : Int) ∧ (0 : Int) < (↑(List.length u14) : Int)) ∧
 (Ob ((0 : Nat) < List.length u14) ∧
 (Ob (ok (y16 v0.1.2.2 (w10q1 u14) u10 u11 u12 u13 u9 u14)) ∧
 Br ((val (y16 v0.1.2.2 (w10q1 u14) u10 u11 u12 u13 u9 u14)).2)
   ((Ob (True) ∧
 (Ob (True) ∧
 (Ob (ok (G_ceil (w10q0 u9) u10)) ∧
 (Ob (True) ∧
 (Ob (True) ∧
 (Ob ((val (y16 v0.1.2.1 (List.getD (List.getD u14 (0 : Nat) []) (1 : Nat) (0 : Int)) u10 u11 u12 u13 u9 u14)).1 = r.1) ∧
 (Ob ((if val (G_ceil (w10q0 u9) u10) < IntKind.wrap .i64 ((val (y16 v0.1.2.2 (w10q1 u14) u10 u11 u12 u13 u9 u14)).1 + (1 : Int)) then val (G_ceil (w10q0 u9) u10) else IntKind.wrap .i64 ((val (y16 v0.1.2.2 (w10q1 u14) u10 u11 u12 u13 u9 u14)).1 + (1 : Int))) = r.2.1) ∧
 (Ob ((0 : Int) = r.2.2) ∧
 True)))))))))
   ((Ob (True) ∧
 (Ob (True) ∧
 (Ob (ok (G_ceil (w10q0 u9) u10)) ∧
 (Ob (True) ∧
 (Ob (True) ∧
 (Ob ((val (y16 v0.1.2.1 (List.getD (List.getD u14 (0 : Nat) []) (1 : Nat) (0 : Int)) u10 u11 u12 u13 u9 u14)).1 = r.1) ∧
 (Ob ((if val (G_ceil (w10q0 u9) u10) < (val (y16 v0.1.2.2 (w10q1 u14) u10 u11 u12 u13 u9 u14)).1 then val (G_ceil (w10q0 u9) u10) else (val (y16 v0.1.2.2 (w10q1 u14) u10 u11 u12 u13 u9 u14)).1) = r.2.1) ∧
 (Ob ((0 : Int) = r.2.2) ∧
 True))))))))))))))))))))))))))))) = _) ?_
  refine ob_t ?_
  refine br_b h (fun h => ?_) (fun h => ?_)
  · refine ob_t ?_
    refine ob_t ?_
    exact ret_s h (fun e => by subst e; exact (by repeat' constructor))
  · refine ob_t ?_
    refine ob_s h fun h => ?_
    refine ob_s h fun h => ?_
    refine br_b h (fun h => ?_) (fun h => ?_)
    · refine ob_t ?_
      refine ob_t ?_
      exact ret_s h (fun e => by subst e; exact (by repeat' constructor))
    · refine ob_t ?_
      refine ⟨⟨(((0 : Int), (0 : Int), (0 : Int)), big), ⟨loop_s h⟩, (by repeat' constructor)⟩, fun z4 hz4 => ?_⟩
      obtain ⟨k4, hm4, h⟩ := iter_pos hz4
      refine br_d h (fun h => ?_) (fun h => ?_)
      · refine ob_s h fun h => ?_
        refine ob_s h fun h => ?_
        refine call_s h fun h => ?_
        exact ⟨((IntKind.wrap .i64 ((Prod.fst z4).1 + (1 : Int)), IntKind.wrap .i64 ((Prod.fst z4).2.1 + IntKind.wrap .i64 ((Prod.fst z4).1 * List.getD (List.getD u9 (Int.toNat (Prod.fst z4).1) []) (0 : Nat) (0 : Int))), IntKind.wrap .i64 ((Prod.fst z4).2.2 + IntKind.wrap .i64 ((Prod.fst z4).1 * List.getD (List.getD u9 (Int.toNat (Prod.fst z4).1) []) (1 : Nat) (0 : Int)))), k4), ⟨next_s h⟩, ⟨lt_gs hm4.symm⟩, (by repeat' constructor)⟩
      · have h := exit_s h
        refine ob_t ?_
        refine ob_s h fun h => ?_
        refine ob_s h fun h => ?_
        refine call_s h fun h => ?_
        refine ob_t ?_
        refine ob_s h fun h => ?_
        refine ob_s h fun h => ?_
        refine call_s h fun h => ?_
        refine br_b h (fun h => ?_) (fun h => ?_)
        · refine ob_t ?_
          refine ob_t ?_
          refine call_s h fun h => ?_
          refine ob_t ?_
          refine ob_t ?_
          exact ret_s h (fun e => by subst e; exact (by repeat' constructor))
        · refine ob_t ?_
          refine ob_t ?_
          refine call_s h fun h => ?_
          refine ob_t ?_
          refine ob_t ?_
          exact ret_s h (fun e => by subst e; exact (by repeat' constructor))
set_option maxRecDepth 100000 in
theorem G_decay_centre_ok : SpecOK Tryd.prog 60 true (pureT y143 y144) := by
  refine pureT_ok (sp := (sp_83 (sp_87 (sp_81 sp0)))) (fn := Tryd.f60) (body := bodyOf Tryd.f60) mixed (sp_83_ok (sp_87_ok (sp_81_ok sp0_ok))) Tryd.func60 (by kernel_rfl) (by kernel_rfl) fun ls t h ho b hb => ?_
  unfold y144 at h
  split at h
  · rename_i u10 u11 u12 u13 u9 u14
    cases h
    obtain rfl := bld_eq hb
    exact ⟨Nat.le_of_ble_eq_true (by kernel_rfl), _, _, G_decay_centre_vc u10 u11 u12 u13 u9 u14 _ (ok_some ho)⟩
  · cases h
theorem sp_60_ok {sp : Specs} (h : SpecsOK Tryd.prog sp) : SpecsOK Tryd.prog (sp_60 sp) := addK_ok G_decay_centre_ok h
def k_G_Centre : List SV := [.a [.d, .r (.floats .f32 []), .d, .d]]
def y20 (u4 : Int) (u5 : List Nat) (u0 : Int) (u6 : Int) : Option (Int × Int × Int) :=
  if ((val (G_open u4 u5 u0 u6)).1 != (0 : Int)) = true then
   Option.bind (G_open u4 u5 u0 u6) fun r0 =>
   if (r0.1 != (0 : Int)) = true then
    some (((0 : Int), (0 : Int), r0.1))
   else
    none   else
   Option.bind (G_open u4 u5 u0 u6) fun r0 =>
   Option.bind (y2 u4 u5 u0 u6 r0.2.1 r0.2.2) fun r1 =>
   some (r1.1, r1.2.1, r1.2.2)
def g_G_Centre : List Lf → Option GT
  | [.d (.i .i64 u4), .r (.floats .f32 u5), .d (.i .i64 u0), .d (.i .i64 u6)] => some (.leaf (ok (y20 u4 u5 u0 u6)) [.s [.d (.i .i64 ((val (y20 u4 u5 u0 u6)).1)), .d (.i .i64 ((val (y20 u4 u5 u0 u6)).2.1))], .c (.d (.i .i64 ((val (y20 u4 u5 u0 u6)).2.2)))])
  | _ => none
abbrev sp_29 : Specs → Specs := addK 29 true (pureT k_G_Centre g_G_Centre)
set_option maxRecDepth 100000 in
def G_Centre_t (u4 : Int) (u5 : List Nat) (u0 : Int) (u6 : Int) : T (Int × Int × Int) :=
 .brB ((val (G_open u4 u5 u0 u6)).1 != (0 : Int))
  (.call (G_open u4 u5 u0 u6) fun r0 =>
  .brB (r0.1 != (0 : Int))
  (.obT
  (.obT
  (.rc ((((0 : Int), (0 : Int), r0.1))))))
  (.bad (fun r => False)))
  (.call (G_open u4 u5 u0 u6) fun r0 =>
  .call (y2 u4 u5 u0 u6 r0.2.1 r0.2.2) fun r1 =>
  .obT
  (.obT
  (.rc ((r1.1, r1.2.1, r1.2.2)))))
set_option maxRecDepth 100000 in
theorem G_Centre_vc (u4 : Int) (u5 : List Nat) (u0 : Int) (u6 : Int) (r : Int × Int × Int) (h : Option.bind (y20 u4 u5 u0 u6) some = some r) : runT Tryd.f29 ((sp_56 (sp_60 sp0))) (fun _ _ _ => none) (bldD k_G_Centre [.d (.i .i64 u4), .r (.floats .f32 u5), .d (.i .i64 u0), .d (.i .i64 u6)]) [.s [.d (.i .i64 r.1), .d (.i .i64 r.2.1)], .c (.d (.i .i64 r.2.2))] :=
  T.vc (t := G_Centre_t u4 u5 u0 u6) (by kernel_rfl) (by kernel_rfl) h
set_option maxRecDepth 100000 in
theorem G_Centre_ok : SpecOK Tryd.prog 29 true (pureT k_G_Centre g_G_Centre) := by
  refine pureT_ok (sp := (sp_56 (sp_60 sp0))) (fn := Tryd.f29) (body := bodyOf Tryd.f29) mixed (sp_56_ok (sp_60_ok sp0_ok)) Tryd.func29 (by kernel_rfl) (by kernel_rfl) fun ls t h ho b hb => ?_
  unfold g_G_Centre at h
  split at h
  · rename_i u4 u5 u0 u6
    cases h
    obtain rfl := bld_eq hb
    exact ⟨Nat.le_of_ble_eq_true (by kernel_rfl), _, _, G_Centre_vc u4 u5 u0 u6 _ (ok_some ho)⟩
  · cases h
theorem sp_29_ok {sp : Specs} (h : SpecsOK Tryd.prog sp) : SpecsOK Tryd.prog (sp_29 sp) := addK_ok G_Centre_ok h
end Go.Sh
end

section
namespace Go.Sh
open Go Go.Proofs Go.RowKit Go.Sx Go.Sx06 Ieee Go.Fl
theorem split_eq {L : Int} (h : -900 ≤ L ∧ L ≤ 900) : G_split L = some (L / 10, L % 10) := by
  unfold G_split
  rw [wr64 (x := L + 900) (by omega), Int.tdiv_eq_ediv_of_nonneg (by omega), Int.tmod_eq_emod_of_nonneg (by omega), wr64 (x := (L + 900) / 10) (by omega), wr64 (by omega)]
  congr 2
  · omega
  · omega
theorem tn_range {k : Int} (h : 0 ≤ k ∧ k < 10) : 1000000000 ≤ tenthsT.getD k.toNat 0 ∧ tenthsT.getD k.toNat 0 ≤ 7943282347 := by
  rcases (by omega : k = 0 ∨ k = 1 ∨ k = 2 ∨ k = 3 ∨ k = 4 ∨ k = 5 ∨ k = 6 ∨ k = 7 ∨ k = 8 ∨ k = 9) with rfl | rfl | rfl | rfl | rfl | rfl | rfl | rfl | rfl | rfl <;> exact ⟨by decide, by decide⟩
def nuL (u L : Int) : Int := (tenthsT.getD (L % 10).toNat 0 + if 0 < L % 10 then u else 0) * p10 (max (L / 10) 0)
def deL (L : Int) : Int := 1000000000 * p10 (max (-(L / 10)) 0)
theorem nu_range {u L : Int} (hu : 0 ≤ u ∧ u ≤ 1) (h : -90 ≤ L ∧ L ≤ 90) : 1 ≤ nuL u L ∧ nuL u L ≤ 8000000000000000000 := by
  have ht := tn_range (k := L % 10) (by omega)
  have hp := p10_nine (f := max (L / 10) 0) (by omega)
  have e : 1 ≤ tenthsT.getD (L % 10).toNat 0 + (if 0 < L % 10 then u else 0) ∧ tenthsT.getD (L % 10).toNat 0 + (if 0 < L % 10 then u else 0) ≤ 8000000000 := by split <;> omega
  unfold nuL
  have a := Int.mul_le_mul e.2 hp.2 (by omega) (by omega)
  have b := Int.mul_le_mul e.1 hp.1 (by omega) (by omega)
  omega
theorem de_range {L : Int} (h : -90 ≤ L ∧ L ≤ 90) : 1 ≤ deL L ∧ deL L ≤ 1000000000000000000 := by
  have hp := p10_nine (f := max (-(L / 10)) 0) (by omega)
  unfold deL
  omega
theorem triLe (x y : Int) : decide ((if x < y then (-1 : Int) else if y < x then 1 else 0) ≤ 0) = decide (x ≤ y) := by
  by_cases h1 : x < y
  · rw [if_pos h1, decide_eq_true (by omega), decide_eq_true (by omega)]
  · by_cases h2 : y < x
    · rw [if_neg h1, if_pos h2, decide_eq_false (by omega), decide_eq_false (by omega)]
    · rw [if_neg h1, if_neg h2, decide_eq_true (by omega), decide_eq_true (by omega)]
theorem triGe (x y : Int) : decide ((if x < y then (-1 : Int) else if y < x then 1 else 0) ≥ 0) = decide (y ≤ x) := by
  by_cases h1 : x < y
  · rw [if_pos h1, decide_eq_false (by omega), decide_eq_false (by omega)]
  · by_cases h2 : y < x
    · rw [if_neg h1, if_pos h2, decide_eq_true (by omega), decide_eq_true (by omega)]
    · rw [if_neg h1, if_neg h2, decide_eq_true (by omega), decide_eq_true (by omega)]
section
variable {num den L : Int}
theorem underG_eq (hn : 1 ≤ num ∧ num ≤ 10000000000000) (hd : 1 ≤ den ∧ den ≤ 10000000000000) (h : -90 ≤ L ∧ L ≤ 90) :
    y71 (IntKind.wrap IntKind.u64 num) (IntKind.wrap IntKind.u64 den) L = some (decide (nuL 1 L * den ≤ deL L * num)) := by
  have ht := tn_range (k := L % 10) (by omega)
  have e1 : IntKind.wrap IntKind.u64 num = num := by rw [u64m]; omega
  have e2 : IntKind.wrap IntKind.u64 den = den := by rw [u64m]; omega
  unfold y71
  rw [split_eq (by omega), bind_some', wr64 (x := L + 900) (by omega), Int.tmod_eq_emod_of_nonneg (by omega), Int.tdiv_eq_ediv_of_nonneg (by omega), wr64 (x := (L + 900) / 10) (by omega), wr64 (by omega), e1, e2]
  rw [show (L + 900) % 10 = L % 10 by omega, show (L + 900) / 10 - 90 = L / 10 by omega]
  have hl : tenthsT.length = 10 := rfl
  rw [if_pos (by omega), if_pos (by rw [hl]; omega)]
  unfold nuL deL
  by_cases hk : L % 10 > 0
  · rw [if_pos hk, if_pos hk]
    have e3 : IntKind.wrap IntKind.u64 (tenthsT.getD (L % 10).toNat 0 + 1) = tenthsT.getD (L % 10).toNat 0 + 1 := by rw [u64m]; omega
    rw [e3, ratioG_eq hn hd (by omega) (by omega), bind_some', triLe]
  · rw [if_neg hk, if_neg hk, ratioG_eq hn hd (by omega) (by omega), bind_some', triLe, Int.add_zero]
theorem overG_eq (hn : 1 ≤ num ∧ num ≤ 10000000000000) (hd : 1 ≤ den ∧ den ≤ 10000000000000) (h : -90 ≤ L ∧ L ≤ 90) :
    y78 (IntKind.wrap IntKind.u64 num) (IntKind.wrap IntKind.u64 den) L = some (decide (deL L * num ≤ nuL 0 L * den)) := by
  have ht := tn_range (k := L % 10) (by omega)
  have e1 : IntKind.wrap IntKind.u64 num = num := by rw [u64m]; omega
  have e2 : IntKind.wrap IntKind.u64 den = den := by rw [u64m]; omega
  unfold y78
  rw [split_eq (by omega), bind_some', wr64 (x := L + 900) (by omega), Int.tmod_eq_emod_of_nonneg (by omega), Int.tdiv_eq_ediv_of_nonneg (by omega), wr64 (x := (L + 900) / 10) (by omega), wr64 (by omega), e1, e2]
  rw [show (L + 900) % 10 = L % 10 by omega, show (L + 900) / 10 - 90 = L / 10 by omega]
  have hl : tenthsT.length = 10 := rfl
  rw [if_pos (by omega), if_pos (by rw [hl]; omega)]
  unfold nuL deL
  rw [ratioG_eq hn hd (by omega) (by omega), bind_some', triGe, show (if 0 < L % 10 then (0 : Int) else 0) = 0 by split <;> rfl, Int.add_zero]
end
end Go.Sh
end

section
namespace Go.Sh
open Go Go.Proofs Go.RowKit Go.Sx Go.Sx06 Ieee Go.Fl
def tmE (time : Int) : Int := if 0 ≤ time ∧ time ≤ 1000000 then 0 else 2
theorem tm_zero {time : Int} (h : tmE time = 0) : 0 ≤ time ∧ time ≤ 1000000 := by
  unfold tmE at h
  by_cases h' : 0 ≤ time ∧ time ≤ 1000000
  · exact h'
  · rw [if_neg h'] at h; omega
theorem take_range {zs : List (List Int)} (hz : ∀ r ∈ zs, okZ r) (hl : zs.length ≤ 1024) (c : Nat) : 0 ≤ sLo (zs.take c) ∧ sLo (zs.take c) ≤ sHi (zs.take c) ∧ sHi (zs.take c) ≤ 5000000000000 := by
  have := s_range (zs := zs.take c) fun r hr => hz r (List.mem_of_mem_take hr)
  have h2 : ((zs.take c).length : Int) ≤ 1024 := by rw [List.length_take]; omega
  omega
theorem drop_range {zs : List (List Int)} (hz : ∀ r ∈ zs, okZ r) (hl : zs.length ≤ 1024) (c : Nat) : 0 ≤ sLo (zs.drop c) ∧ sLo (zs.drop c) ≤ sHi (zs.drop c) ∧ sHi (zs.drop c) ≤ 5000000000000 := by
  have := s_range (zs := zs.drop c) fun r hr => hz r (List.mem_of_mem_drop hr)
  have h2 : ((zs.drop c).length : Int) ≤ 1024 := by rw [List.length_drop]; omega
  omega
def unI (num den : Int) : Option Nat := (List.range 181).findIdx? fun (i : Nat) => decide (nuL 1 (90 - (i : Int)) * den ≤ deL (90 - (i : Int)) * num)
def ovI (num den : Int) : Option Nat := (List.range 181).findIdx? fun (i : Nat) => decide (deL ((i : Int) - 90) * num ≤ nuL 0 ((i : Int) - 90) * den)
def lvS (num den : Int) : Int × Int × Int :=
  if ¬ (1 ≤ num ∧ num ≤ 10000000000000) then (0, 0, 2) else if ¬ (1 ≤ den ∧ den ≤ 10000000000000) then (0, 0, 2) else
  if den * 1000000000 < num then (0, 0, 8) else if num * 1000000000 < den then (0, 0, 8) else (90 - (((unI num den).getD 0 : Nat) : Int), (((ovI num den).getD 0 : Nat) : Int) - 90, 0)
theorem rg {i : Nat} (h : i < 181) : (List.range 181).getD i 0 = i := by simp [List.getD, h]
section
variable {num den : Int}
theorem un_ex (h : den ≤ num * 1000000000) : ∃ j : Nat, unI num den = some j ∧ j < 181 ∧ decide (nuL 1 (90 - (j : Int)) * den ≤ deL (90 - (j : Int)) * num) = true ∧ ∀ i : Nat, i < j → decide (nuL 1 (90 - (i : Int)) * den ≤ deL (90 - (i : Int)) * num) = false := by
  have hx : ∃ j, unI num den = some j ∧ j ≤ 180 := by
    refine idx_le (d := 0) (j := 180) (by simp) ?_
    rw [rg (by omega)]
    have e1 : nuL 1 (90 - ((180 : Nat) : Int)) = 1000000000 := by decide
    have e2 : deL (90 - ((180 : Nat) : Int)) = 1000000000000000000 := by decide
    rw [e1, e2]
    exact decide_eq_true (by omega)
  obtain ⟨j, hj, hle⟩ := hx
  obtain ⟨a, b, c⟩ := idx_some (d := 0) hj
  rw [rg (by omega)] at b
  refine ⟨j, hj, by omega, b, fun i hi => ?_⟩
  have := c i hi
  rw [rg (by omega)] at this
  exact this
theorem ov_ex (h : num ≤ den * 1000000000) : ∃ j : Nat, ovI num den = some j ∧ j < 181 ∧ decide (deL ((j : Int) - 90) * num ≤ nuL 0 ((j : Int) - 90) * den) = true ∧ ∀ i : Nat, i < j → decide (deL ((i : Int) - 90) * num ≤ nuL 0 ((i : Int) - 90) * den) = false := by
  have hx : ∃ j, ovI num den = some j ∧ j ≤ 180 := by
    refine idx_le (d := 0) (j := 180) (by simp) ?_
    rw [rg (by omega)]
    have e1 : nuL 0 (((180 : Nat) : Int) - 90) = 1000000000000000000 := by decide
    have e2 : deL (((180 : Nat) : Int) - 90) = 1000000000 := by decide
    rw [e1, e2]
    exact decide_eq_true (by omega)
  obtain ⟨j, hj, hle⟩ := hx
  obtain ⟨a, b, c⟩ := idx_some (d := 0) hj
  rw [rg (by omega)] at b
  refine ⟨j, hj, by omega, b, fun i hi => ?_⟩
  have := c i hi
  rw [rg (by omega)] at this
  exact this
theorem levelG_eq : y81 num den = some (lvS num den) := by
  unfold y81 lvS y67
  rw [withinG_eq, bind_some', bind_some']
  by_cases hn : 1 ≤ num ∧ num ≤ 10000000000000
  · rw [nd_t hn, if_neg Bool.false_ne_true, if_neg (fun h => h hn), withinG_eq, bind_some', bind_some']
    by_cases hd : 1 ≤ den ∧ den ≤ 10000000000000
    · rw [nd_t hd, if_neg Bool.false_ne_true, if_neg (fun h => h hd)]
      have great : ∀ {a b : Int}, 1 ≤ a ∧ a ≤ 10000000000000 → 1 ≤ b ∧ b ≤ 10000000000000 → y61 a b = some (decide (b * 1000000000 < a)) := by
        intro a b ha hb
        unfold y61
        by_cases h : b ≤ 10000
        · rw [if_pos h, wr64 (by omega)]
        · rw [if_neg h, decide_eq_false (by omega)]
      rw [great hn hd, bind_some']
      by_cases g1 : den * 1000000000 < num
      · rw [decide_eq_true g1, if_pos rfl, if_pos g1]
      · rw [decide_eq_false g1, if_neg Bool.false_ne_true, if_neg g1, great hd hn, bind_some']
        by_cases g2 : num * 1000000000 < den
        · rw [decide_eq_true g2, if_pos rfl, if_pos g2]
        · rw [decide_eq_false g2, if_neg Bool.false_ne_true, if_neg g2]
          obtain ⟨j, hj, j1, j2, j3⟩ := un_ex (num := num) (den := den) (by omega)
          obtain ⟨k, hk, k1, k2, k3⟩ := ov_ex (num := num) (den := den) (by omega)
          have i1 : iter (y79 num den) big (90 : Int) = some (90 - (j : Int)) := by
            refine iter_upto (fun i => (90 : Int) - (i : Int)) (k := j) (fun i hi => ?_) ?_ (by omega)
            · unfold y79
              rw [underG_eq hn hd (by omega), bind_some', j3 i hi, if_pos (by decide), wr64 (by omega)]
              congr 2; omega
            · unfold y79
              rw [underG_eq hn hd (by omega), bind_some', j2, if_neg (by decide)]
          have i2 : iter (y80 num den) big (-90 : Int) = some ((k : Int) - 90) := by
            refine iter_upto (fun i => (i : Int) - 90) (k := k) (fun i hi => ?_) ?_ (by omega)
            · unfold y80
              rw [overG_eq hn hd (by omega), bind_some', k3 i hi, if_pos (by decide), wr64 (by omega)]
              congr 2; omega
            · unfold y80
              rw [overG_eq hn hd (by omega), bind_some', k2, if_neg (by decide)]
          rw [i1, bind_some']
          unfold y97
          rw [i2, bind_some', hj, hk]
          rfl
    · rw [nd_f hd, if_pos rfl, if_pos hd]
  · rw [nd_f hn, if_pos rfl, if_pos hn]
end
def clS (rate : Int) (zs : List (List Int)) (T time : Int) : Int × Int × Int :=
  if cutN rate time zs.length = zs.length then (0, 0, 12) else
  if sLo (zs.take (cutN rate time zs.length)) = 0 then (0, 0, 11) else
  if sLo (zs.drop (cutN rate time zs.length)) = 0 then (0, 0, 11) else
  if (lvS (sLo (zs.take (cutN rate time zs.length))) (sHi (zs.drop (cutN rate time zs.length)) + T)).2.2 ≠ 0 then (0, 0, (lvS (sLo (zs.take (cutN rate time zs.length))) (sHi (zs.drop (cutN rate time zs.length)) + T)).2.2) else
  if (lvS (sHi (zs.take (cutN rate time zs.length))) (sLo (zs.drop (cutN rate time zs.length)))).2.2 ≠ 0 then (0, 0, (lvS (sHi (zs.take (cutN rate time zs.length))) (sLo (zs.drop (cutN rate time zs.length)))).2.2) else
  ((lvS (sLo (zs.take (cutN rate time zs.length))) (sHi (zs.drop (cutN rate time zs.length)) + T)).1, (lvS (sHi (zs.take (cutN rate time zs.length))) (sLo (zs.drop (cutN rate time zs.length)))).2.1, 0)
def clW (rate : Int) (l : List Nat) (noise tail time : Int) : Int × Int × Int :=
  if (askE rate l noise tail).2 ≠ 0 then (0, 0, (askE rate l noise tail).2) else if tmE time ≠ 0 then (0, 0, tmE time) else clS rate (zsO noise l) tail time
theorem dcG_eq {rate noise tail T time : Int} {l : List Nat} {zs : List (List Int)} (hz : ZOK zs T) (hr : 8000 ≤ rate ∧ rate ≤ 192000) (ht : 0 ≤ time ∧ time ≤ 1000000) :
    y36 rate l noise tail zs (ssO zs T) time = some (clS rate zs T time) := by
  unfold y36 clS
  rw [earlyG_eq hz.ok hz.len hr ht, bind_some', lateG_eq hr ht, bind_some', cutG_eq hr ht, bind_some']
  dsimp only
  by_cases h0 : cutN rate time zs.length = zs.length
  · rw [if_pos (show ((cutN rate time zs.length : Int) == (zs.length : Int)) = true by rw [h0]; simp), if_pos h0]
  · rw [if_neg (show ¬ ((cutN rate time zs.length : Int) == (zs.length : Int)) = true by simp; omega), if_neg h0]
    generalize sLo (zs.take (cutN rate time zs.length)) = el at *
    generalize sHi (zs.take (cutN rate time zs.length)) = eh at *
    generalize sLo (zs.drop (cutN rate time zs.length)) = ll at *
    generalize sHi (zs.drop (cutN rate time zs.length)) = lh at *
    by_cases h1 : el = 0
    · rw [if_pos (show (el == 0) = true by simpa using h1), if_pos h1]
    · rw [if_neg (show ¬ (el == 0) = true by simpa using h1), if_neg h1]
      by_cases h2 : ll = 0
      · rw [if_pos (show (ll == 0) = true by simpa using h2), if_pos h2]
      · rw [if_neg (show ¬ (ll == 0) = true by simpa using h2), if_neg h2, levelG_eq, bind_some', levelG_eq, bind_some', first_eq (by simp), bind_some', firE2]
        by_cases h3 : (lvS el (lh + T)).2.2 = 0
        · rw [if_neg (show ¬ (lvS el (lh + T)).2.2 ≠ 0 from fun h => h h3), if_neg (show ¬ (lvS el (lh + T)).2.2 ≠ 0 from fun h => h h3)]
          by_cases h4 : (lvS eh ll).2.2 = 0
          · rw [bne_f h4, if_neg Bool.false_ne_true, if_neg (show ¬ (lvS eh ll).2.2 ≠ 0 from fun h => h h4)]
          · rw [bne_t h4, if_pos rfl, if_pos (show (lvS eh ll).2.2 ≠ 0 from h4)]
        · rw [if_pos (show (lvS el (lh + T)).2.2 ≠ 0 from h3), bne_t h3, if_pos rfl, if_pos (show (lvS el (lh + T)).2.2 ≠ 0 from h3)]
theorem clarityG_eq (rate : Int) {l : List Nat} (noise tail time : Int) (hl : l.length < 1000000000000) : y48 rate l noise tail time = some (clW rate l noise tail time) := by
  unfold y48 clW
  rw [open_e rate noise tail hl]
  by_cases h : (askE rate l noise tail).2 = 0
  · obtain ⟨hz, hr, hs, hl2, _, _, _⟩ := ask_zok h
    rw [bne_f h, if_neg Bool.false_ne_true, open_good hl h, bind_some', if_neg (show ¬ (askE rate l noise tail).2 ≠ 0 from fun hh => hh h)]
    rw [timeErrG_eq, bind_some', show (if 0 ≤ time ∧ time ≤ 1000000 then (0 : Int) else 2) = tmE time from rfl, first_eq (by simp), bind_some', firE2, if_neg (show ¬ (0 : Int) ≠ 0 by simp)]
    by_cases ht : tmE time = 0
    · have ht' := tm_zero ht
      rw [bne_f ht, if_neg Bool.false_ne_true, if_neg (show ¬ tmE time ≠ 0 from fun hh => hh ht)]
      dsimp only
      rw [dcG_eq hz hr ht', bind_some']
    · rw [bne_t ht, if_pos rfl, if_pos (show tmE time ≠ 0 from ht)]
  · rw [bne_t h, if_pos rfl, open_bad hl h, bind_some', timeErrG_eq, bind_some', first_eq (by simp), bind_some', firE2]
    dsimp only
    rw [if_pos (show (askE rate l noise tail).2 ≠ 0 from h), bne_t h, if_pos rfl, if_pos (show (askE rate l noise tail).2 ≠ 0 from h)]
end Go.Sh
end

section
namespace Go.Sh
open Go Go.Proofs Go.RowKit Go.Sx Go.Sx06 Ieee Go.Fl
def lvA (i : Nat) : Int := (i : Int) - 90
set_option maxRecDepth 100000 in
theorem lev_pairs : ∀ a ∈ List.range 181, ∀ b ∈ List.range 181, a < b → nuL 0 (lvA a) * deL (lvA b) < nuL 1 (lvA b) * deL (lvA a) ∧ nuL 1 (lvA a) * deL (lvA b) ≤ nuL 1 (lvA b) * deL (lvA a) := by decide +kernel
set_option maxRecDepth 100000 in
theorem lev_next : ∀ a ∈ List.range 180, nuL 1 (lvA a) * deL (lvA (a + 1)) ≤ nuL 0 (lvA (a + 1)) * deL (lvA a) := by decide +kernel
theorem lvA_of {L : Int} (h : -90 ≤ L ∧ L ≤ 90) : L = lvA (L + 90).toNat ∧ (L + 90).toNat < 181 := by unfold lvA; omega
section
variable {num den n1 d1 n2 d2 : Int}
theorem lv_good (e : (lvS num den).2.2 = 0) : (1 ≤ num ∧ num ≤ 10000000000000) ∧ (1 ≤ den ∧ den ≤ 10000000000000) ∧ num ≤ den * 1000000000 ∧ den ≤ num * 1000000000 ∧
    ∃ a b : Int, lvS num den = (a, b, 0) ∧ (-90 ≤ a ∧ a ≤ 90) ∧ (-90 ≤ b ∧ b ≤ 90) ∧ nuL 1 a * den ≤ deL a * num ∧ (∀ L, a < L → L ≤ 90 → deL L * num < nuL 1 L * den) ∧ deL b * num ≤ nuL 0 b * den ∧ (∀ L, L < b → -90 ≤ L → nuL 0 L * den < deL L * num) := by
  unfold lvS at e ⊢
  by_cases hn : 1 ≤ num ∧ num ≤ 10000000000000
  · rw [if_neg (fun h => h hn)] at e ⊢
    by_cases hd : 1 ≤ den ∧ den ≤ 10000000000000
    · rw [if_neg (fun h => h hd)] at e ⊢
      by_cases g1 : den * 1000000000 < num
      · rw [if_pos g1] at e; exact absurd e (by decide)
      · rw [if_neg g1] at e ⊢
        by_cases g2 : num * 1000000000 < den
        · rw [if_pos g2] at e; exact absurd e (by decide)
        · rw [if_neg g2]
          obtain ⟨j, hj, j1, j2, j3⟩ := un_ex (num := num) (den := den) (by omega)
          obtain ⟨k, hk, k1, k2, k3⟩ := ov_ex (num := num) (den := den) (by omega)
          refine ⟨hn, hd, by omega, by omega, 90 - (j : Int), (k : Int) - 90, by rw [hj, hk]; rfl, by omega, by omega, of_decide_eq_true j2, fun L h1 h2 => ?_, of_decide_eq_true k2, fun L h1 h2 => ?_⟩
          · have := of_decide_eq_false (j3 (90 - L).toNat (by omega))
            rw [show 90 - (((90 - L).toNat : Nat) : Int) = L by omega] at this
            omega
          · have := of_decide_eq_false (k3 (L + 90).toNat (by omega))
            rw [show (((L + 90).toNat : Nat) : Int) - 90 = L by omega] at this
            omega
    · rw [if_pos hd] at e; exact absurd e (by decide)
  · rw [if_pos hn] at e; exact absurd e (by decide)
theorem mul_cut {a b c : Int} (hc : 0 < c) (h : a * c ≤ b * c) : a ≤ b := Int.le_of_mul_le_mul_right h hc
theorem lv_lo (e1 : (lvS n1 d1).2.2 = 0) (e2 : (lvS n2 d2).2.2 = 0) (h : n2 * d1 ≤ n1 * d2) : (lvS n2 d2).1 ≤ (lvS n1 d1).1 := by
  obtain ⟨hn1, hd1, _, _, a1, b1, q1, ra1, rb1, u1, v1, w1, x1⟩ := lv_good e1
  obtain ⟨hn2, hd2, _, _, a2, b2, q2, ra2, rb2, u2, v2, w2, x2⟩ := lv_good e2
  rw [q1, q2]
  show a2 ≤ a1
  refine Int.not_lt.1 fun hh => ?_
  have hv := v1 a2 hh ra2.2
  have hde := de_range ra2
  have hnu := nu_range (u := 1) (by omega) ra2
  have s1 := Int.mul_le_mul_of_nonneg_right u2 (show 0 ≤ d1 by omega)
  have s2 := Int.mul_le_mul_of_nonneg_left h (show 0 ≤ deL a2 by omega)
  have s3 := Int.mul_lt_mul_of_pos_right hv (show 0 < d2 by omega)
  generalize nuL 1 a2 = u at *
  generalize deL a2 = v at *
  have t1 : u * d2 * d1 = u * d1 * d2 := by grind
  have t2 : v * n2 * d1 = v * (n2 * d1) := by grind
  have t3 : v * (n1 * d2) = v * n1 * d2 := by grind
  omega
theorem lv_hi (e1 : (lvS n1 d1).2.2 = 0) (e2 : (lvS n2 d2).2.2 = 0) (h : n1 * d2 ≤ n2 * d1) : (lvS n1 d1).2.1 ≤ (lvS n2 d2).2.1 := by
  obtain ⟨hn1, hd1, _, _, a1, b1, q1, ra1, rb1, u1, v1, w1, x1⟩ := lv_good e1
  obtain ⟨hn2, hd2, _, _, a2, b2, q2, ra2, rb2, u2, v2, w2, x2⟩ := lv_good e2
  rw [q1, q2]
  show b1 ≤ b2
  refine Int.not_lt.1 fun hh => ?_
  have hv := x1 b2 hh rb2.1
  have hde := de_range rb2
  have hnu := nu_range (u := 0) (by omega) rb2
  have s1 := Int.mul_le_mul_of_nonneg_right w2 (show 0 ≤ d1 by omega)
  have s2 := Int.mul_le_mul_of_nonneg_left h (show 0 ≤ deL b2 by omega)
  have s3 := Int.mul_lt_mul_of_pos_right hv (show 0 < d2 by omega)
  generalize nuL 0 b2 = u at *
  generalize deL b2 = v at *
  have t1 : u * d2 * d1 = u * d1 * d2 := by grind
  have t2 : v * n2 * d1 = v * (n2 * d1) := by grind
  have t3 : v * (n1 * d2) = v * n1 * d2 := by grind
  omega
theorem lv_near (e : (lvS num den).2.2 = 0) : (lvS num den).1 ≤ (lvS num den).2.1 ∧ (lvS num den).2.1 ≤ (lvS num den).1 + 2 := by
  obtain ⟨hn, hd, _, _, a, b, q, ra, rb, u, v, w, x⟩ := lv_good e
  rw [q]
  refine ⟨(show a ≤ b from Int.not_lt.1 fun hh => ?_), (show b ≤ a + 2 from Int.not_lt.1 fun hh => ?_)⟩
  · obtain ⟨ea, la⟩ := lvA_of ra
    obtain ⟨eb, lb⟩ := lvA_of rb
    have hp := (lev_pairs (b + 90).toNat (by simpa using lb) (a + 90).toNat (by simpa using la) (by omega)).1
    rw [← ea, ← eb] at hp
    have d1 := de_range ra
    have d2 := de_range rb
    have s1 := Int.mul_lt_mul_of_pos_right hp (show 0 < den by omega)
    have s2 := Int.mul_le_mul_of_nonneg_right u (show 0 ≤ deL b by omega)
    have s3 := Int.mul_le_mul_of_nonneg_right w (show 0 ≤ deL a by omega)
    generalize nuL 1 a = p1 at *
    generalize nuL 0 b = p2 at *
    generalize deL a = p3 at *
    generalize deL b = p4 at *
    have t1 : p1 * den * p4 = p1 * p4 * den := by grind
    have t2 : p3 * num * p4 = p4 * num * p3 := by grind
    have t3 : p2 * den * p3 = p2 * p3 * den := by grind
    omega
  · have hv := v (a + 1) (by omega) (by omega)
    have hx := x (a + 2) (by omega) (by omega)
    have hp := lev_next (a + 1 + 90).toNat (by simp; omega)
    rw [show (a + 1 + 90).toNat + 1 = (a + 2 + 90).toNat by omega, ← (lvA_of (L := a + 1) (by omega)).1, ← (lvA_of (L := a + 2) (by omega)).1] at hp
    have d1 := de_range (L := a + 1) (by omega)
    have d2 := de_range (L := a + 2) (by omega)
    have s1 := Int.mul_le_mul_of_nonneg_right hp (show 0 ≤ den by omega)
    have s2 := Int.mul_lt_mul_of_pos_right hv (show 0 < deL (a + 2) by omega)
    have s3 := Int.mul_lt_mul_of_pos_right hx (show 0 < deL (a + 1) by omega)
    generalize nuL 1 (a + 1) = p1 at *
    generalize nuL 0 (a + 2) = p2 at *
    generalize deL (a + 1) = p3 at *
    generalize deL (a + 2) = p4 at *
    have t1 : p1 * den * p4 = p1 * p4 * den := by grind
    have t2 : p3 * num * p4 = p4 * num * p3 := by grind
    have t3 : p2 * den * p3 = p2 * p3 * den := by grind
    omega
end
end Go.Sh
end

section
namespace Go.Sh
open Go Go.Proofs Go.RowKit Go.Sx Go.Sx06 Ieee Go.Fl
def dwS (el eh ll lh : Int) : Int × Int × Int := if el + ll = 0 then (0, 0, 11) else (1000 * el / (el + lh), (1000 * eh + (eh + ll) - 1) / (eh + ll), 0)
def dwW (rate : Int) (l : List Nat) (noise tail time : Int) : Int × Int × Int :=
  if (askE rate l noise tail).2 ≠ 0 then (0, 0, (askE rate l noise tail).2) else if tmE time ≠ 0 then (0, 0, tmE time) else
  dwS (sLo ((zsO noise l).take (cutN rate time l.length))) (sHi ((zsO noise l).take (cutN rate time l.length))) (sLo ((zsO noise l).drop (cutN rate time l.length))) (sHi ((zsO noise l).drop (cutN rate time l.length)) + tail)
theorem ddG_eq {rate noise tail T time : Int} {l : List Nat} {zs : List (List Int)} (hz : ZOK zs T) (hr : 8000 ≤ rate ∧ rate ≤ 192000) (ht : 0 ≤ time ∧ time ≤ 1000000) :
    y23 rate l noise tail zs (ssO zs T) time = some (dwS (sLo (zs.take (cutN rate time zs.length))) (sHi (zs.take (cutN rate time zs.length))) (sLo (zs.drop (cutN rate time zs.length))) (sHi (zs.drop (cutN rate time zs.length)) + T)) := by
  have a := take_range hz.ok hz.len (cutN rate time zs.length)
  have b := drop_range hz.ok hz.len (cutN rate time zs.length)
  have hT := hz.tail
  unfold y23
  rw [earlyG_eq hz.ok hz.len hr ht, bind_some', lateG_eq hr ht, bind_some']
  dsimp only
  generalize sLo (zs.take (cutN rate time zs.length)) = el at *
  generalize sHi (zs.take (cutN rate time zs.length)) = eh at *
  generalize sLo (zs.drop (cutN rate time zs.length)) = ll at *
  generalize sHi (zs.drop (cutN rate time zs.length)) = lh at *
  unfold dwS
  have main : ¬ el + ll = 0 → (if IntKind.wrap IntKind.i64 (el + (lh + T)) ≠ (0 : Int) then
      Option.bind (G_ceil (IntKind.wrap IntKind.i64 ((1000 : Int) * eh)) (IntKind.wrap IntKind.i64 (eh + ll))) fun r2 =>
      some ((IntKind.wrap IntKind.i64 (Int.tdiv (IntKind.wrap IntKind.i64 ((1000 : Int) * el)) (IntKind.wrap IntKind.i64 (el + (lh + T)))), r2, (0 : Int))) else none) = some (1000 * el / (el + (lh + T)), (1000 * eh + (eh + ll) - 1) / (eh + ll), 0) := by
    intro h0
    rw [wr64 (x := el + (lh + T)) (by omega), if_pos (by omega), wr64 (x := 1000 * eh) (by omega), wr64 (x := eh + ll) (by omega), wr64 (x := 1000 * el) (by omega), ceilG_eq (by omega) (by omega) (by omega), bind_some', Int.tdiv_eq_ediv_of_nonneg (by omega)]
    have h1 : 0 ≤ 1000 * el / (el + (lh + T)) := Int.ediv_nonneg (by omega) (by omega)
    have h2 : 1000 * el / (el + (lh + T)) ≤ 1000 * el := Int.ediv_le_self _ (by omega)
    rw [wr64 (by omega)]
  by_cases h1 : el = 0
  · rw [if_pos (show (el == 0) = true by simpa using h1)]
    by_cases h2 : ll = 0
    · rw [if_pos (show (ll == 0) = true by simpa using h2), if_pos (by omega)]
    · rw [if_neg (show ¬ (ll == 0) = true by simpa using h2), if_neg (show ¬ el + ll = 0 by omega)]
      exact main (by omega)
  · rw [if_neg (show ¬ (el == 0) = true by simpa using h1), if_neg (show ¬ el + ll = 0 by omega)]
    exact main (by omega)
theorem definitionWithinG_eq (rate : Int) {l : List Nat} (noise tail time : Int) (hl : l.length < 1000000000000) : y7 rate l noise tail time = some (dwW rate l noise tail time) := by
  unfold y7 dwW
  rw [open_e rate noise tail hl]
  by_cases h : (askE rate l noise tail).2 = 0
  · obtain ⟨hz, hr, hs, hl2, _, _, _⟩ := ask_zok h
    have hzl := zsO_len noise l
    rw [bne_f h, if_neg Bool.false_ne_true, open_good hl h, bind_some', if_neg (show ¬ (askE rate l noise tail).2 ≠ 0 from fun hh => hh h)]
    rw [timeErrG_eq, bind_some', show (if 0 ≤ time ∧ time ≤ 1000000 then (0 : Int) else 2) = tmE time from rfl, first_eq (by simp), bind_some', firE2, if_neg (show ¬ (0 : Int) ≠ 0 by simp)]
    by_cases ht : tmE time = 0
    · have ht' := tm_zero ht
      rw [bne_f ht, if_neg Bool.false_ne_true, if_neg (show ¬ tmE time ≠ 0 from fun hh => hh ht)]
      dsimp only
      rw [ddG_eq hz hr ht', bind_some', hzl]
    · rw [bne_t ht, if_pos rfl, if_pos (show tmE time ≠ 0 from ht)]
  · rw [bne_t h, if_pos rfl, open_bad hl h, bind_some', timeErrG_eq, bind_some', first_eq (by simp), bind_some', firE2]
    dsimp only
    rw [if_pos (show (askE rate l noise tail).2 ≠ 0 from h), bne_t h, if_pos rfl, if_pos (show (askE rate l noise tail).2 ≠ 0 from h)]
theorem def_lo {E L el lh q : Int} (h1 : 0 ≤ el ∧ el ≤ E) (h2 : 0 ≤ L ∧ L ≤ lh) (hq : q = 1000 * el / (el + lh)) (hp : 0 < el + lh) : 0 ≤ q ∧ q ≤ 1000 ∧ q * (E + L) ≤ 1000 * E := by
  have a : q * (el + lh) ≤ 1000 * el := by rw [hq]; exact Int.ediv_mul_le _ (by omega)
  have q0 : 0 ≤ q := by rw [hq]; exact Int.ediv_nonneg (by omega) (by omega)
  have q1 : q ≤ 1000 := by
    rw [hq]
    exact Int.ediv_le_of_le_mul hp (by omega)
  refine ⟨q0, q1, ?_⟩
  have b : q * L ≤ q * lh := Int.mul_le_mul_of_nonneg_left h2.2 q0
  have c : (1000 - q) * el ≤ (1000 - q) * E := Int.mul_le_mul_of_nonneg_left h1.2 (by omega)
  rw [Int.mul_add] at a ⊢
  rw [Int.sub_mul, Int.sub_mul] at c
  omega
theorem def_hi {E L eh ll q : Int} (h1 : 0 ≤ E ∧ E ≤ eh) (h2 : 0 ≤ ll ∧ ll ≤ L) (hq : q = (1000 * eh + (eh + ll) - 1) / (eh + ll)) (hp : 0 < eh + ll) (hE : eh ≤ 5000000000000) : 0 ≤ q ∧ q ≤ 1000 ∧ 1000 * E ≤ q * (E + L) := by
  have a : 1000 * eh ≤ q * (eh + ll) := by
    have := Int.lt_ediv_add_one_mul_self (1000 * eh + (eh + ll) - 1) hp
    rw [← hq, Int.add_mul, Int.one_mul] at this
    omega
  have q0 : 0 ≤ q := by rw [hq]; exact Int.ediv_nonneg (by omega) (by omega)
  have q1 : q ≤ 1000 := by
    have : q < 1001 := by rw [hq]; exact Int.ediv_lt_of_lt_mul hp (by omega)
    omega
  refine ⟨q0, q1, ?_⟩
  have b : q * ll ≤ q * L := Int.mul_le_mul_of_nonneg_left h2.2 q0
  have c : (1000 - q) * E ≤ (1000 - q) * eh := Int.mul_le_mul_of_nonneg_left h1.2 (by omega)
  rw [Int.mul_add] at a ⊢
  rw [Int.sub_mul, Int.sub_mul] at c
  omega
end Go.Sh
end

section
namespace Go.Sh
open Go Go.Proofs Go.RowKit Go.Sx Go.Sx06 Ieee Go.Fl
theorem half {X : Type} {body : X → Option (X ⊕ Int)} (mk : Int → Int → X) {yn1 yn0 u c : Int}
    (hb : ∀ q r, 0 ≤ q → q ≤ 4294967297 → 0 ≤ r → r < 4294967296 → body (mk q r) = if 4294967296 ≤ q ∨ 4294967296 * r + c < q * yn0 then (if 4294967296 ≤ r + yn1 then some (.inr (q - 1)) else some (.inl (mk (q - 1) (r + yn1)))) else some (.inr q))
    (hy1 : 2147483648 ≤ yn1 ∧ yn1 < 4294967296) (hy0 : 0 ≤ yn0 ∧ yn0 < 4294967296) (hu : 0 ≤ u ∧ u < yn1 * 4294967296 + yn0) (hc : 0 ≤ c ∧ c < 4294967296) :
    iter body big (mk (u / yn1) (u % yn1)) = some ((u * 4294967296 + c) / (yn1 * 4294967296 + yn0)) := by
  have hv : 0 < yn1 * 4294967296 + yn0 := by omega
  generalize hQ : (u * 4294967296 + c) / (yn1 * 4294967296 + yn0) = Q
  have q0 : 0 ≤ Q := by rw [← hQ]; exact Int.ediv_nonneg (by omega) (by omega)
  have qB : Q < 4294967296 := by rw [← hQ]; exact Int.ediv_lt_of_lt_mul hv (by omega)
  have le_of : ∀ q, q * (yn1 * 4294967296 + yn0) ≤ u * 4294967296 + c → q ≤ Q := fun q h => by rw [← hQ]; exact (Int.le_ediv_iff_mul_le hv).2 h
  have gt : ∀ q, u * 4294967296 + c < q * (yn1 * 4294967296 + yn0) → Q < q := fun q h => by rw [← hQ]; exact Int.ediv_lt_of_lt_mul hv h
  have exp : ∀ q r, q * yn1 + r = u → q * (yn1 * 4294967296 + yn0) = (u - r) * 4294967296 + q * yn0 := by
    intro q r h
    rw [Int.mul_add, ← Int.mul_assoc, show u - r = q * yn1 by omega]
  have main : ∀ (n : Nat) (q r : Int) (M : Nat), q * yn1 + r = u → Q ≤ q → q ≤ 4294967297 → 0 ≤ r → r < 4294967296 → 4294967296 ≤ r + (n : Int) * yn1 → n < M → iter body M (mk q r) = some Q := by
    intro n
    induction n with
    | zero =>
      intro q r M _ _ _ _ h1 h2 _
      rw [show ((0 : Nat) : Int) = 0 from rfl, Int.zero_mul] at h2
      omega
    | succ n ih =>
      intro q r M e hq hq2 hr hr2 hn hM
      obtain ⟨K, rfl⟩ : ∃ K, M = K + 1 := ⟨M - 1, by omega⟩
      unfold iter
      rw [hb q r (by omega) hq2 hr hr2]
      have ex := exp q r e
      by_cases hcnd : 4294967296 ≤ q ∨ 4294967296 * r + c < q * yn0
      · rw [if_pos hcnd]
        have hlt : Q < q := by
          rcases hcnd with h | h
          · omega
          · exact gt q (by rw [ex]; omega)
        have e2 : (q - 1) * yn1 + (r + yn1) = u := by rw [Int.sub_mul]; omega
        by_cases hbr : 4294967296 ≤ r + yn1
        · rw [if_pos hbr]
          have : q - 1 ≤ Q := by
            refine le_of _ ?_
            rw [exp _ _ e2]
            have := Int.mul_le_mul (show q - 1 ≤ 4294967296 by omega) (show yn0 ≤ 4294967296 by omega) hy0.1 (by omega)
            omega
          show some (q - 1) = some Q
          congr 1; omega
        · rw [if_neg hbr]
          refine ih (q - 1) (r + yn1) K e2 (by omega) (by omega) (by omega) (by omega) ?_ (by omega)
          rw [show ((n + 1 : Nat) : Int) = (n : Int) + 1 from rfl, Int.add_mul] at hn
          omega
      · rw [if_neg hcnd]
        have : q ≤ Q := le_of _ (by rw [ex]; omega)
        show some q = some Q
        congr 1; omega
  have em := Int.mul_ediv_add_emod u yn1
  have e0 := Int.emod_nonneg u (show yn1 ≠ 0 by omega)
  have e1 := Int.emod_lt_of_pos u (show 0 < yn1 by omega)
  refine main 2 _ _ big (by rw [Int.mul_comm]; exact em) ?_ ?_ e0 (by omega) (by omega) (by unfold big; omega)
  · refine (Int.le_ediv_iff_mul_le (by omega)).2 ?_
    have h1 : Q * (yn1 * 4294967296 + yn0) ≤ u * 4294967296 + c := by rw [← hQ]; exact Int.ediv_mul_le _ (by omega)
    rw [Int.mul_add, ← Int.mul_assoc] at h1
    have := Int.mul_nonneg q0 hy0.1
    omega
  · have : u / yn1 < 4294967298 := Int.ediv_lt_of_lt_mul (by omega) (by omega)
    omega
end Go.Sh
end

section
namespace Go.Sh
open Go Go.Proofs Go.RowKit Go.Sx Go.Sx06 Ieee Go.Fl
theorem tab8_ok : ∀ b : Fin 256, 1 ≤ b.val → 1 ≤ (Array.getD (ByteArray.data tab8) b.val (0 : UInt8)).toNat ∧ (Array.getD (ByteArray.data tab8) b.val (0 : UInt8)).toNat ≤ 8 ∧ (2 : Int) ^ ((Array.getD (ByteArray.data tab8) b.val (0 : UInt8)).toNat - 1) ≤ (b.val : Int) ∧ (b.val : Int) < (2 : Int) ^ (Array.getD (ByteArray.data tab8) b.val (0 : UInt8)).toNat := by
  decide +kernel
theorem u8m (n : Int) : IntKind.wrap IntKind.u8 n = n % 256 := by
  have h := u64m n
  rfl
theorem shr16 (x : Int) : Int.fdiv x ((2 : Int) ^ min (16 : Nat) (IntKind.bits IntKind.u64)) = x / 65536 := by
  rw [show (2 : Int) ^ min (16 : Nat) (IntKind.bits IntKind.u64) = 65536 from rfl]
  exact Int.fdiv_eq_ediv_of_nonneg _ (by decide)
theorem shr8 (x : Int) : Int.fdiv x ((2 : Int) ^ min (8 : Nat) (IntKind.bits IntKind.u64)) = x / 256 := by
  rw [show (2 : Int) ^ min (8 : Nat) (IntKind.bits IntKind.u64) = 256 from rfl]
  exact Int.fdiv_eq_ediv_of_nonneg _ (by decide)
def LenOf (x : Int) (r : Option Int) : Prop := ∃ n : Nat, r = some (n : Int) ∧ 1 ≤ n ∧ n ≤ 64 ∧ (2 : Int) ^ (n - 1) ≤ x ∧ x < (2 : Int) ^ n
theorem leaf8 {x b c : Int} (s : Nat) (hs : s ≤ 56) (hc : c = (s : Int)) (hb : 1 ≤ b ∧ b < 256) (hx : b * (2 : Int) ^ s ≤ x ∧ x < (b + 1) * (2 : Int) ^ s) :
    LenOf x (if (0 : Int) ≤ IntKind.wrap IntKind.u8 b ∧ IntKind.wrap IntKind.u8 b < (↑(ByteArray.size tab8) : Int) then
      some (IntKind.wrap IntKind.i64 (c + IntKind.wrap IntKind.i64 (↑(UInt8.toNat (Array.getD (ByteArray.data tab8) (Int.toNat (IntKind.wrap IntKind.u8 b)) (0 : UInt8))) : Int))) else none) := by
  have e : IntKind.wrap IntKind.u8 b = b := by rw [u8m]; omega
  have hsz : ByteArray.size tab8 = 256 := by decide +kernel
  rw [e, hsz, if_pos (by omega)]
  obtain ⟨b', rfl⟩ := Int.eq_ofNat_of_zero_le (show 0 ≤ b by omega)
  obtain ⟨h1, h2, h3, h4⟩ := tab8_ok ⟨b', by omega⟩ (by show 1 ≤ b'; omega)
  rw [Int.toNat_natCast]
  change 1 ≤ (Array.getD (ByteArray.data tab8) b' (0 : UInt8)).toNat at h1
  change (Array.getD (ByteArray.data tab8) b' (0 : UInt8)).toNat ≤ 8 at h2
  change (2 : Int) ^ ((Array.getD (ByteArray.data tab8) b' (0 : UInt8)).toNat - 1) ≤ (b' : Int) at h3
  change (b' : Int) < (2 : Int) ^ (Array.getD (ByteArray.data tab8) b' (0 : UInt8)).toNat at h4
  generalize (Array.getD (ByteArray.data tab8) b' (0 : UInt8)).toNat = t at *
  rw [hc, wr64 (x := (t : Int)) (by omega), wr64 (x := (s : Int) + (t : Int)) (by omega)]
  have hp : (0 : Int) < (2 : Int) ^ s := Int.pow_pos (by decide)
  refine ⟨s + t, rfl, by omega, by omega, ?_, ?_⟩
  · have := Int.mul_le_mul_of_nonneg_right h3 (Int.le_of_lt hp)
    rw [show s + t - 1 = (t - 1) + s by omega, Int.pow_add]
    omega
  · have := Int.mul_le_mul_of_nonneg_right (show (b' : Int) + 1 ≤ (2 : Int) ^ t by omega) (Int.le_of_lt hp)
    rw [Nat.add_comm s t, Int.pow_add]
    omega
theorem len64_ok {x : Int} (hx : 1 ≤ x ∧ x < 18446744073709551616) : LenOf x (y58 x) := by
  unfold y58
  simp only [shr32, shr16, shr8]
  have k56 : (2 : Int) ^ 56 = 72057594037927936 := by decide
  have k48 : (2 : Int) ^ 48 = 281474976710656 := by decide
  have k40 : (2 : Int) ^ 40 = 1099511627776 := by decide
  have k32 : (2 : Int) ^ 32 = 4294967296 := by decide
  have k24 : (2 : Int) ^ 24 = 16777216 := by decide
  have k16 : (2 : Int) ^ 16 = 65536 := by decide
  have k8 : (2 : Int) ^ 8 = 256 := by decide
  have k0 : (2 : Int) ^ 0 = 1 := by decide
  by_cases h1 : x ≥ 4294967296
  · rw [if_pos h1]
    by_cases h2 : x / 4294967296 ≥ 65536
    · rw [if_pos h2]
      by_cases h3 : x / 4294967296 / 65536 ≥ 256
      · rw [if_pos h3]; exact leaf8 56 (by omega) (by decide) (by omega) (by rw [k56]; omega)
      · rw [if_neg h3]; exact leaf8 48 (by omega) (by decide) (by omega) (by rw [k48]; omega)
    · rw [if_neg h2]
      by_cases h3 : x / 4294967296 ≥ 256
      · rw [if_pos h3]; exact leaf8 40 (by omega) (by decide) (by omega) (by rw [k40]; omega)
      · rw [if_neg h3]; exact leaf8 32 (by omega) (by decide) (by omega) (by rw [k32]; omega)
  · rw [if_neg h1]
    by_cases h2 : x ≥ 65536
    · rw [if_pos h2]
      by_cases h3 : x / 65536 ≥ 256
      · rw [if_pos h3]; exact leaf8 24 (by omega) (by decide) (by omega) (by rw [k24]; omega)
      · rw [if_neg h3]; exact leaf8 16 (by omega) (by decide) (by omega) (by rw [k16]; omega)
    · rw [if_neg h2]
      by_cases h3 : x ≥ 256
      · rw [if_pos h3]; exact leaf8 8 (by omega) (by decide) (by omega) (by rw [k8]; omega)
      · rw [if_neg h3]; exact leaf8 0 (by omega) (by decide) (by omega) (by rw [k0]; omega)
theorem lead64_ok {y : Int} (hy : 1 ≤ y ∧ y < 18446744073709551616) : ∃ s : Nat, y11 y = some (s : Int) ∧ s ≤ 63 ∧ 9223372036854775808 ≤ y * (2 : Int) ^ s ∧ y * (2 : Int) ^ s < 18446744073709551616 := by
  obtain ⟨n, hn, h1, h2, h3, h4⟩ := len64_ok hy
  have hp : (0 : Int) < (2 : Int) ^ (64 - n) := Int.pow_pos (by decide)
  refine ⟨64 - n, ?_, by omega, ?_, ?_⟩
  · unfold y11
    rw [hn, bind_some', wr64 (by omega)]
    congr 1; omega
  · have := Int.mul_le_mul_of_nonneg_right h3 (Int.le_of_lt hp)
    rw [← Int.pow_add, show n - 1 + (64 - n) = 63 by omega, show (2 : Int) ^ 63 = 9223372036854775808 by decide] at this
    exact this
  · have := Int.mul_lt_mul_of_pos_right h4 hp
    rw [← Int.pow_add, show n + (64 - n) = 64 by omega, show (2 : Int) ^ 64 = 18446744073709551616 by decide] at this
    exact this
end Go.Sh
end

section
namespace Go.Sh
open Go Go.Proofs Go.RowKit Go.Sx Go.Sx06 Ieee Go.Fl
theorem or_add {a C : Int} {s : Nat} (ha : 0 ≤ a) (hA : a * (2 : Int) ^ s < 18446744073709551616) (hC : 0 ≤ C ∧ C < (2 : Int) ^ s) (hs : s ≤ 63) :
    (↑(BitVec.toNat (BitVec.ofInt (IntKind.bits IntKind.u64) (a * (2 : Int) ^ s) ||| BitVec.ofInt (IntKind.bits IntKind.u64) C)) : Int) = a * (2 : Int) ^ s + C := by
  obtain ⟨a', rfl⟩ := Int.eq_ofNat_of_zero_le ha
  obtain ⟨C', rfl⟩ := Int.eq_ofNat_of_zero_le hC.1
  have hp : (2 : Int) ^ s = ((2 ^ s : Nat) : Int) := by simp
  have hC2 : C' < 2 ^ s := by have := hC.2; rw [hp] at this; exact Int.ofNat_lt.1 this
  have hs64 : 2 ^ s ≤ 2 ^ 63 := Nat.pow_le_pow_right (by omega) hs
  have hCs : C' < 18446744073709551616 := by
    have : (2 : Nat) ^ 63 = 9223372036854775808 := by decide
    omega
  rw [hp] at hA ⊢
  have hA2 : a' * 2 ^ s < 18446744073709551616 := by
    have : ((a' * 2 ^ s : Nat) : Int) < 18446744073709551616 := by rw [Int.natCast_mul]; exact hA
    omega
  rw [BitVec.toNat_or, ← Int.natCast_mul, BitVec.ofInt_natCast, BitVec.ofInt_natCast, BitVec.toNat_ofNat, BitVec.toNat_ofNat, b64, show 2 ^ 64 = 18446744073709551616 from by decide, Nat.mod_eq_of_lt hA2, Nat.mod_eq_of_lt hCs, Nat.mul_comm, ← Nat.two_pow_add_eq_or_of_lt hC2, Int.natCast_add]
structure Sh64 (hi lo y P R v u n : Int) : Prop where
  hv : v = y * P
  v1 : 9223372036854775808 ≤ v ∧ v < 18446744073709551616
  hu : u = hi * P + lo / R
  u1 : 0 ≤ u ∧ u < v
  hn : n = lo * P % 18446744073709551616
  tot : u * 18446744073709551616 + n = (hi * 18446744073709551616 + lo) * P
theorem sh64 {hi lo y : Int} (hh : 0 ≤ hi ∧ hi < y) (hy : y < 18446744073709551616) (hl : 0 ≤ lo ∧ lo < 18446744073709551616) {s : Nat} (hs : s ≤ 63) (h1 : 9223372036854775808 ≤ y * (2 : Int) ^ s) (h2 : y * (2 : Int) ^ s < 18446744073709551616) :
    Sh64 hi lo y ((2 : Int) ^ s) ((2 : Int) ^ (64 - s)) (y * (2 : Int) ^ s) (hi * (2 : Int) ^ s + lo / (2 : Int) ^ (64 - s)) (lo * (2 : Int) ^ s % 18446744073709551616) ∧ (0 ≤ lo / (2 : Int) ^ (64 - s) ∧ lo / (2 : Int) ^ (64 - s) < (2 : Int) ^ s) ∧ 0 ≤ hi * (2 : Int) ^ s ∧ hi * (2 : Int) ^ s < 18446744073709551616 := by
  have hP : (0 : Int) < (2 : Int) ^ s := Int.pow_pos (by decide)
  have hR : (0 : Int) < (2 : Int) ^ (64 - s) := Int.pow_pos (by decide)
  have hPR : (2 : Int) ^ s * (2 : Int) ^ (64 - s) = 18446744073709551616 := by rw [← Int.pow_add, show s + (64 - s) = 64 by omega]; decide
  generalize (2 : Int) ^ s = P at *
  generalize (2 : Int) ^ (64 - s) = R at *
  have c0 : 0 ≤ lo / R := Int.ediv_nonneg hl.1 (Int.le_of_lt hR)
  have c1 : lo / R < P := Int.ediv_lt_of_lt_mul hR (by rw [hPR]; exact hl.2)
  have c2 := Int.mul_ediv_add_emod lo R
  have c3 := Int.emod_nonneg lo (show R ≠ 0 by omega)
  have c4 := Int.emod_lt_of_pos lo hR
  have a0 := Int.mul_nonneg hh.1 (Int.le_of_lt hP)
  have a1 := Int.mul_le_mul_of_nonneg_right (show hi + 1 ≤ y by omega) (Int.le_of_lt hP)
  rw [Int.add_mul, Int.one_mul] at a1
  have n1 : lo * P = lo / R * 18446744073709551616 + lo % R * P := by
    conv => lhs; rw [← c2]
    rw [Int.add_mul, ← hPR]
    grind
  have n2 : 0 ≤ lo % R * P := Int.mul_nonneg c3 (Int.le_of_lt hP)
  have n3 : lo % R * P < 18446744073709551616 := by
    have := Int.mul_lt_mul_of_pos_right c4 hP
    rw [Int.mul_comm R P, hPR] at this
    exact this
  refine ⟨⟨rfl, ⟨h1, h2⟩, rfl, ⟨by omega, by omega⟩, rfl, ?_⟩, ⟨c0, c1⟩, a0, by omega⟩
  have e : lo * P % 18446744073709551616 = lo % R * P := by rw [n1]; omega
  rw [e, Int.add_mul (hi * 18446744073709551616), n1]
  grind
theorem wu {x : Int} (h : 0 ≤ x ∧ x < 18446744073709551616) : IntKind.wrap IntKind.u64 x = x := by rw [u64m]; omega
theorem shn {s : Nat} (hs : s ≤ 63) : IntKind.wrap IntKind.u64 (s : Int) = (s : Int) ∧ min s (IntKind.bits IntKind.u64) = s := ⟨wu (by omega), by rw [b64]; omega⟩
theorem shm {s : Nat} (hs : s ≤ 63) : Int.toNat (IntKind.wrap IntKind.u64 ((64 : Int) - (s : Int))) = 64 - s ∧ min (64 - s) (IntKind.bits IntKind.u64) = 64 - s := ⟨by rw [wu (by omega)]; omega, by rw [b64]; omega⟩
theorem qr_bound {w q c : Int} (hw : 0 < w) (hc : 0 ≤ c) (hq : q = c / w) : q * w ≤ c ∧ c < q * w + w := by
  have h1 := Int.mul_ediv_add_emod c w
  have h2 := Int.emod_nonneg c (show w ≠ 0 by omega)
  have h3 := Int.emod_lt_of_pos c hw
  rw [← hq, Int.mul_comm] at h1
  omega
section
variable {lo y v n : Int} {s : Nat}
theorem body0 (hs : s ≤ 63) (hv : y * (2 : Int) ^ s = v) (v1 : 9223372036854775808 ≤ v ∧ v < 18446744073709551616) (hn : lo * (2 : Int) ^ s % 18446744073709551616 = n) (q r : Int) (hq : 0 ≤ q) (hq2 : q ≤ 4294967297) (hr : 0 ≤ r) (hr2 : r < 4294967296) :
    y37 lo y (s : Int) (q, r) = if 4294967296 ≤ q ∨ 4294967296 * r + n / 4294967296 < q * (v % 4294967296) then (if 4294967296 ≤ r + v / 4294967296 then some (.inr (q - 1)) else some (.inl (q - 1, r + v / 4294967296))) else some (.inr q) := by
  have hn1 : 0 ≤ n ∧ n < 18446744073709551616 := by omega
  unfold y37
  simp only [(shn hs).1, Int.toNat_natCast, (shn hs).2, hv, wu (x := v) (by omega), shr32, mask32, u64m (lo * (2 : Int) ^ s), hn]
  have m0 : 0 ≤ v % 4294967296 ∧ v % 4294967296 ≤ 4294967295 := by omega
  have p1 := Int.mul_le_mul hq2 m0.2 m0.1 (by omega)
  have p0 := Int.mul_nonneg hq m0.1
  rw [wu (x := v % 4294967296) (by omega), wu (x := q * (v % 4294967296)) (by omega), wu (x := 4294967296 * r) (by omega), wu (x := 4294967296 * r + n / 4294967296) (by omega), wu (x := r + v / 4294967296) (by omega)]
  by_cases h1 : q ≥ 4294967296
  · rw [if_pos h1, if_pos (Or.inl h1), wu (x := q - 1) (by omega)]
  · rw [if_neg h1]
    by_cases h2 : q * (v % 4294967296) > 4294967296 * r + n / 4294967296
    · have hq1 : 1 ≤ q := by
        rcases Int.lt_or_eq_of_le hq with h | h
        · omega
        · rw [← h, Int.zero_mul] at h2; omega
      rw [if_pos h2, if_pos (Or.inr h2), wu (x := q - 1) (by omega)]
    · rw [if_neg h2, if_neg (by omega)]
theorem body1 (hs : s ≤ 63) (hv : y * (2 : Int) ^ s = v) (v1 : 9223372036854775808 ≤ v ∧ v < 18446744073709551616) (hn : lo * (2 : Int) ^ s % 18446744073709551616 = n) (q r : Int) (hq : 0 ≤ q) (hq2 : q ≤ 4294967297) (hr : 0 ≤ r) (hr2 : r < 4294967296) :
    y64 lo y (s : Int) (r, q) = if 4294967296 ≤ q ∨ 4294967296 * r + n % 4294967296 < q * (v % 4294967296) then (if 4294967296 ≤ r + v / 4294967296 then some (.inr (q - 1)) else some (.inl (r + v / 4294967296, q - 1))) else some (.inr q) := by
  have hn1 : 0 ≤ n ∧ n < 18446744073709551616 := by omega
  unfold y64
  simp only [(shn hs).1, Int.toNat_natCast, (shn hs).2, hv, wu (x := v) (by omega), shr32, mask32, u64m (lo * (2 : Int) ^ s), hn]
  have m0 : 0 ≤ v % 4294967296 ∧ v % 4294967296 ≤ 4294967295 := by omega
  have p1 := Int.mul_le_mul hq2 m0.2 m0.1 (by omega)
  have p0 := Int.mul_nonneg hq m0.1
  rw [wu (x := v % 4294967296) (by omega), wu (x := n % 4294967296) (by omega), wu (x := q * (v % 4294967296)) (by omega), wu (x := 4294967296 * r) (by omega), wu (x := 4294967296 * r + n % 4294967296) (by omega), wu (x := r + v / 4294967296) (by omega)]
  by_cases h1 : q ≥ 4294967296
  · rw [if_pos h1, if_pos (Or.inl h1), wu (x := q - 1) (by omega)]
  · rw [if_neg h1]
    by_cases h2 : q * (v % 4294967296) > 4294967296 * r + n % 4294967296
    · have hq1 : 1 ≤ q := by
        rcases Int.lt_or_eq_of_le hq with h | h
        · omega
        · rw [← h, Int.zero_mul] at h2; omega
      rw [if_pos h2, if_pos (Or.inr h2), wu (x := q - 1) (by omega)]
    · rw [if_neg h2, if_neg (by omega)]
end
end Go.Sh
end

section
namespace Go.Sh
open Go Go.Proofs Go.RowKit Go.Sx Go.Sx06 Ieee Go.Fl
theorem div64_eq {hi lo y : Int} (hh : 0 ≤ hi ∧ hi < y) (hy : y < 18446744073709551616) (hl : 0 ≤ lo ∧ lo < 18446744073709551616) :
    y59 hi lo y = some ((hi * 18446744073709551616 + lo) / y, (hi * 18446744073709551616 + lo) % y) := by
  unfold y59
  rw [if_neg (show ¬ (y == 0) = true by simp; omega), if_neg (by omega)]
  by_cases h0 : hi = 0
  · subst h0
    rw [if_pos (by rfl), if_pos (by omega), if_pos (by omega), Int.tdiv_eq_ediv_of_nonneg hl.1, Int.tmod_eq_emod_of_nonneg hl.1, Int.zero_mul, Int.zero_add]
    have a : 0 ≤ lo / y := Int.ediv_nonneg hl.1 (by omega)
    have b : lo / y ≤ lo := Int.ediv_le_self _ hl.1
    rw [wu (by omega)]
  · rw [if_neg (show ¬ (hi == 0) = true by simpa using h0)]
    obtain ⟨s, hs, s1, g1, g2⟩ := lead64_ok (y := y) (by omega)
    obtain ⟨sh, hC, hA0, hA⟩ := sh64 hh hy hl s1 g1 g2
    have hP : (0 : Int) < (2 : Int) ^ s := Int.pow_pos (by decide)
    have hor := or_add hh.1 hA hC s1
    have hR : (2 : Int) ^ (64 - s) ≥ 0 := Int.le_of_lt (Int.pow_pos (by decide))
    rw [hs, bind_some']
    generalize hv : y * (2 : Int) ^ s = v at *
    generalize hn : lo * (2 : Int) ^ s % 18446744073709551616 = n at *
    generalize hu : hi * (2 : Int) ^ s + lo / (2 : Int) ^ (64 - s) = u at *
    have hv1 := sh.v1
    have hu1 := sh.u1
    have hn1 : 0 ≤ n ∧ n < 18446744073709551616 := by omega
    have tot := sh.tot
    have y1 : 2147483648 ≤ v / 4294967296 ∧ v / 4294967296 < 4294967296 := by omega
    have y0 : 0 ≤ v % 4294967296 ∧ v % 4294967296 < 4294967296 := by omega
    have yv : v / 4294967296 * 4294967296 + v % 4294967296 = v := by omega
    have c1 : 0 ≤ n / 4294967296 ∧ n / 4294967296 < 4294967296 := by omega
    have c0 : 0 ≤ n % 4294967296 ∧ n % 4294967296 < 4294967296 := by omega
    have L0 := half (body := y37 lo y (s : Int)) (fun q r => (q, r)) (fun q r a b c d => body0 s1 hv hv1 hn q r a b c d) y1 y0 (by rw [yv]; exact hu1) c1
    rw [yv] at L0
    generalize hq1 : (u * 4294967296 + n / 4294967296) / v = q1 at *
    have Q1 := qr_bound (w := v) (c := u * 4294967296 + n / 4294967296) (by omega) (by omega) hq1.symm
    have q10 : 0 ≤ q1 := by rw [← hq1]; exact Int.ediv_nonneg (by omega) (by omega)
    have q1B : q1 < 4294967296 := by rw [← hq1]; exact Int.ediv_lt_of_lt_mul (by omega) (by omega)
    generalize hr1 : u * 4294967296 + n / 4294967296 - q1 * v = r1 at *
    have r1b : 0 ≤ r1 ∧ r1 < v := by omega
    have L1 := half (body := y64 lo y (s : Int)) (fun q r => (r, q)) (fun q r a b c d => body1 s1 hv hv1 hn q r a b c d) y1 y0 (by rw [yv]; exact r1b) c0
    rw [yv] at L1
    generalize hq0 : (r1 * 4294967296 + n % 4294967296) / v = q0 at *
    have Q0 := qr_bound (w := v) (c := r1 * 4294967296 + n % 4294967296) (by omega) (by omega) hq0.symm
    have q00 : 0 ≤ q0 := by rw [← hq0]; exact Int.ediv_nonneg (by omega) (by omega)
    have q0B : q0 < 4294967296 := by rw [← hq0]; exact Int.ediv_lt_of_lt_mul (by omega) (by omega)
    have dS : ∀ x : Int, Int.fdiv x ((2 : Int) ^ s) = x / (2 : Int) ^ s := fun x => Int.fdiv_eq_ediv_of_nonneg _ (Int.le_of_lt hP)
    have dR : ∀ x : Int, Int.fdiv x ((2 : Int) ^ (64 - s)) = x / (2 : Int) ^ (64 - s) := fun x => Int.fdiv_eq_ediv_of_nonneg _ hR
    have m1 := qr_bound (w := v / 4294967296) (c := u) (q := u / (v / 4294967296)) (by omega) hu1.1 rfl
    have m1' := Int.mul_ediv_add_emod u (v / 4294967296)
    have m1d : 0 ≤ u / (v / 4294967296) := Int.ediv_nonneg hu1.1 (by omega)
    have m1e : u / (v / 4294967296) ≤ u := Int.ediv_le_self _ hu1.1
    have m1f : 0 ≤ u / (v / 4294967296) * (v / 4294967296) := Int.mul_nonneg m1d (by omega)
    have k1 := qr_bound (w := v / 4294967296) (c := r1) (q := r1 / (v / 4294967296)) (by omega) r1b.1 rfl
    have k1' := Int.mul_ediv_add_emod r1 (v / 4294967296)
    have k1d : 0 ≤ r1 / (v / 4294967296) := Int.ediv_nonneg r1b.1 (by omega)
    have k1e : r1 / (v / 4294967296) ≤ r1 := Int.ediv_le_self _ r1b.1
    have k1f : 0 ≤ r1 / (v / 4294967296) * (v / 4294967296) := Int.mul_nonneg k1d (by omega)
    have e21 : IntKind.wrap .u64 (IntKind.wrap .u64 (IntKind.wrap .u64 (u * 4294967296) + n / 4294967296) - IntKind.wrap .u64 (q1 * v)) = r1 := by
      simp only [u64m]
      omega
    have er : IntKind.wrap .u64 (IntKind.wrap .u64 (IntKind.wrap .u64 (r1 * 4294967296) + n % 4294967296) - IntKind.wrap .u64 (q0 * v)) = r1 * 4294967296 + n % 4294967296 - q0 * v := by
      simp only [u64m]
      omega
    simp only [(shn s1).1, Int.toNat_natCast, (shn s1).2, (shm s1).1, (shm s1).2, dS, dR, hv, wu (x := v) (by omega), shr32, wu (x := hi * (2 : Int) ^ s) ⟨hA0, hA⟩, hor, hu]
    rw [wu (x := u) (by omega), Int.tdiv_eq_ediv_of_nonneg hu1.1, wu (x := u / (v / 4294967296)) (by omega), wu (x := u / (v / 4294967296) * (v / 4294967296)) (by omega), wu (x := u - u / (v / 4294967296) * (v / 4294967296)) (by omega)]
    rw [show u - u / (v / 4294967296) * (v / 4294967296) = u % (v / 4294967296) by rw [Int.mul_comm]; omega]
    have w64 : (0 : Int) ≤ IntKind.wrap IntKind.u64 ((64 : Int) - (s : Int)) := by rw [wu (by omega)]; omega
    rw [if_pos (by omega), if_pos (by omega), if_pos w64, if_pos (by omega), if_pos (by omega), L0, bind_some']
    unfold y54
    simp only [(shn s1).1, Int.toNat_natCast, (shn s1).2, (shm s1).1, (shm s1).2, dS, dR, hv, wu (x := v) (by omega), shr32, wu (x := hi * (2 : Int) ^ s) ⟨hA0, hA⟩, hor, hu, u64m (lo * (2 : Int) ^ s), hn, wu (x := u) (by omega), e21]
    rw [Int.tdiv_eq_ediv_of_nonneg r1b.1, wu (x := r1 / (v / 4294967296)) (by omega), wu (x := r1 / (v / 4294967296) * (v / 4294967296)) (by omega), wu (x := r1 - r1 / (v / 4294967296) * (v / 4294967296)) (by omega)]
    rw [show r1 - r1 / (v / 4294967296) * (v / 4294967296) = r1 % (v / 4294967296) by rw [Int.mul_comm]; omega]
    rw [if_pos (by omega), L1, bind_some']
    unfold y15
    simp only [(shn s1).1, Int.toNat_natCast, (shn s1).2, (shm s1).1, (shm s1).2, dS, dR, hv, wu (x := v) (by omega), shr32, mask32, wu (x := hi * (2 : Int) ^ s) ⟨hA0, hA⟩, hor, hu, u64m (lo * (2 : Int) ^ s), hn, wu (x := u) (by omega), e21, wu (x := n % 4294967296) (by omega), er]
    rw [if_pos (by omega), wu (x := q1 * 4294967296) (by omega), wu (x := q1 * 4294967296 + q0) (by omega)]
    have fin : (hi * 18446744073709551616 + lo) * (2 : Int) ^ s = (q1 * 4294967296 + q0) * v + (r1 * 4294967296 + n % 4294967296 - q0 * v) := by
      rw [← tot, Int.add_mul, Int.mul_right_comm]
      omega
    generalize hrem : r1 * 4294967296 + n % 4294967296 - q0 * v = rem at *
    have remb : 0 ≤ rem ∧ rem < v := by omega
    generalize (hi * 18446744073709551616 + lo) = x at *
    generalize (2 : Int) ^ s = P at *
    have hdiv : x / y = q1 * 4294967296 + q0 := by
      have h1 : (q1 * 4294967296 + q0) * v ≤ x * P := by omega
      have h2 : x * P < (q1 * 4294967296 + q0 + 1) * v := by rw [Int.add_mul _ 1, Int.one_mul]; omega
      rw [← hv, ← Int.mul_assoc] at h1 h2
      have h3 := Int.le_of_mul_le_mul_right h1 hP
      have h4 := Int.lt_of_mul_lt_mul_right h2 (Int.le_of_lt hP)
      have h5 : q1 * 4294967296 + q0 ≤ x / y := (Int.le_ediv_iff_mul_le (by omega)).2 h3
      have h6 : x / y < q1 * 4294967296 + q0 + 1 := Int.ediv_lt_of_lt_mul (by omega) h4
      omega
    have hmod : rem / P = x % y := by
      have h1 := Int.mul_ediv_add_emod x y
      rw [hdiv] at h1
      have : rem = x % y * P := by
        have h2 : x * P = (q1 * 4294967296 + q0) * v + x % y * P := by
          conv => lhs; rw [← h1]
          rw [Int.add_mul, ← hv, Int.mul_comm y, Int.mul_assoc]
        omega
      rw [this]
      exact Int.mul_ediv_cancel _ (by omega)
    rw [hdiv, hmod]
end Go.Sh
end

section
namespace Go.Sh
open Go Go.Proofs Go.RowKit Go.Sx Go.Sx06 Ieee Go.Fl
def mo (j : Nat) (zs : List (List Int)) : Nat → Int
  | 0 => 0
  | k + 1 => mo j zs k + (k : Int) * (zs.getD k []).getD j 0
theorem term_ok {zs : List (List Int)} (hz : ∀ r ∈ zs, okZ r) (hl : zs.length ≤ 1024) {k : Nat} (hk : k < zs.length) :
    0 ≤ (k : Int) * (zs.getD k []).getD 0 0 ∧ (k : Int) * (zs.getD k []).getD 0 0 ≤ (k : Int) * (zs.getD k []).getD 1 0 ∧ (k : Int) * (zs.getD k []).getD 1 0 ≤ 4398046511104 := by
  have ho := hz (zs.getD k []) (by simp [List.getD, hk])
  unfold okZ at ho
  have a := Int.mul_nonneg (show 0 ≤ (k : Int) by omega) ho.1
  have b := Int.mul_le_mul_of_nonneg_left ho.2.1 (show 0 ≤ (k : Int) by omega)
  have c := Int.mul_le_mul (show (k : Int) ≤ 1024 by omega) ho.2.2 (by omega) (by omega)
  omega
theorem mo_range {zs : List (List Int)} (hz : ∀ r ∈ zs, okZ r) (hl : zs.length ≤ 1024) : ∀ k : Nat, k ≤ zs.length → 0 ≤ mo 0 zs k ∧ mo 0 zs k ≤ mo 1 zs k ∧ mo 1 zs k ≤ (k : Int) * 4398046511104
  | 0, _ => by simp [mo]
  | k + 1, h => by
    have ih := mo_range hz hl k (by omega)
    have t := term_ok hz hl (k := k) (by omega)
    unfold mo
    rw [show ((k + 1 : Nat) : Int) = (k : Int) + 1 from rfl, Int.add_mul]
    omega
theorem momG {zs : List (List Int)} (hz : ∀ r ∈ zs, okZ r) (hl : zs.length ≤ 1024) : iter (y51 zs) big (0, 0, 0) = some (mo 0 zs zs.length, mo 1 zs zs.length) := by
  refine iter_upto (fun i => ((i : Int), mo 0 zs i, mo 1 zs i)) (k := zs.length) (fun i hi => ?_) ?_ (by omega)
  · have r := mo_range hz hl i (by omega)
    have t := term_ok hz hl (k := i) hi
    unfold y51 G_plus
    dsimp only
    rw [if_pos (by omega), if_pos (by omega), Int.toNat_natCast, if_pos hi, bind_some', wr64 (x := (i : Int) + 1) (by omega), wr64 (x := (i : Int) * (zs.getD i []).getD 0 0) (by omega), wr64 (x := (i : Int) * (zs.getD i []).getD 1 0) (by omega), wr64 (by omega), wr64 (by omega)]
    rfl
  · unfold y51
    dsimp only
    rw [if_neg (by omega)]
theorem timesG_eq {m e rate noise tail : Int} {l : List Nat} {zs ss : List (List Int)} (hm : 0 ≤ m ∧ m ≤ 4600000000000000) (he : 1 ≤ e ∧ e ≤ 6000000000000) (hr : 8000 ≤ rate ∧ rate ≤ 192000) :
    y16 m e rate l noise tail zs ss = some (m * 1000000 / (e * rate), decide (m * 1000000 % (e * rate) > 0)) := by
  have y0 : 8000 ≤ e * rate := by
    have := Int.mul_le_mul he.1 hr.1 (by omega) (by omega)
    omega
  have y1 : e * rate ≤ 1152000000000000000 := by
    have := Int.mul_le_mul he.2 hr.2 (by omega) (by omega)
    omega
  have h9 : y6 m (1000000 : Int) = some (m * 1000000 / 18446744073709551616, m * 1000000 % 18446744073709551616) := mul64_all (by omega) (by omega) (by omega) (by omega)
  have e9 := h9
  unfold y6 at e9
  have e9 := congrArg Prod.fst (Option.some.inj e9)
  dsimp only at e9
  simp only [shr32, mask32, u64m, mw] at e9
  rw [show (1000000 : Int) % 4294967296 = 1000000 from by decide] at e9
  unfold y16
  rw [wu (x := m) (by omega), h9, bind_some', wr64 (x := e * rate) (by omega), wu (x := e * rate) (by omega)]
  simp only [shr32, mask32, u64m, mw]
  first
    | rw [e9]
    | (rw [show (1000000 : Int) % 4294967296 % 18446744073709551616 = 1000000 from by decide, e9])
    | (rw [show (1000000 : Int) % 4294967296 = 1000000 from by decide, e9])
  have hq0 : 0 ≤ m * 1000000 / (e * rate) := Int.ediv_nonneg (by omega) (by omega)
  have hq1 : m * 1000000 / (e * rate) < 9000000000000000000 := by
    refine Int.ediv_lt_of_lt_mul (by omega) ?_
    omega
  have ex : m * 1000000 / 18446744073709551616 * 18446744073709551616 + m * 1000000 % 18446744073709551616 = m * 1000000 := by omega
  rw [div64_eq (by omega) (by omega) (by omega), bind_some', ex, wr64 (by omega)]
theorem ceil_rest {a b : Int} (hb : 0 < b) : -(-a / b) = a / b + if a % b > 0 then 1 else 0 := by
  have h1 := Int.mul_ediv_add_emod a b
  have h2 := Int.emod_nonneg a (show b ≠ 0 by omega)
  have h3 := Int.emod_lt_of_pos a hb
  by_cases h : a % b > 0
  · rw [if_pos h]
    have : -a / b = -(a / b) - 1 := by
      refine Int.ediv_eq_iff_of_pos hb |>.2 ?_
      grind
    omega
  · rw [if_neg h]
    have : -a / b = -(a / b) := by
      refine Int.ediv_eq_iff_of_pos hb |>.2 ?_
      grind
    omega
def cap (n rate : Int) : Int := ((n - 1) * 1000000 + rate - 1) / rate
def ceS (rate : Int) (zs : List (List Int)) : Int × Int × Int :=
  (mo 0 zs zs.length * 1000000 / (sHi zs * rate),
   (if cap zs.length rate < -(-(mo 1 zs zs.length * 1000000) / (sLo zs * rate)) then cap zs.length rate else -(-(mo 1 zs zs.length * 1000000) / (sLo zs * rate))), 0)
def ceW (rate : Int) (zs : List (List Int)) (T : Int) : Int × Int × Int := if T ≠ 0 then (0, 0, 23) else if sLo zs = 0 then (0, 0, 11) else ceS rate zs
theorem mo_all {zs : List (List Int)} (hz : ∀ r ∈ zs, okZ r) (hl : zs.length ≤ 1024) : 0 ≤ mo 0 zs zs.length ∧ mo 0 zs zs.length ≤ mo 1 zs zs.length ∧ mo 1 zs zs.length ≤ 4600000000000000 := by
  have := mo_range hz hl zs.length (Nat.le_refl _)
  omega
theorem centreG_d {rate noise T : Int} {l : List Nat} {zs : List (List Int)} (hz : ZOK zs T) (hr : 8000 ≤ rate ∧ rate ≤ 192000) (hp : 0 < zs.length) : y2 rate l noise T zs (ssO zs T) = some (ceW rate zs T) := by
  unfold y2 ceW
  by_cases hT : T = 0
  · subst hT
    have hl := hz.len
    have hm := mo_all hz.ok hz.len
    have ha := hz.all
    have z0 := ss_zero (zs := zs) (T := 0)
    rw [if_neg (by decide), ssO_len, if_pos (by omega), if_pos (by omega), if_neg (show ¬ (0 : Int) ≠ 0 by simp), z0.1]
    by_cases h0 : sLo zs = 0
    · rw [if_pos (show (sLo zs == 0) = true by simpa using h0), if_pos h0]
    · rw [if_neg (show ¬ (sLo zs == 0) = true by simpa using h0), if_neg h0, momG hz.ok hz.len, bind_some']
      unfold y70 ceS
      dsimp only
      rw [ssO_len, if_pos (by omega), if_pos (by omega), z0.1, z0.2, Int.add_zero, timesG_eq ⟨hm.1, by omega⟩ (by omega) hr, bind_some', timesG_eq ⟨by omega, hm.2.2⟩ (by omega) hr, bind_some']
      dsimp only
      have yp : 0 < sLo zs * rate := Int.mul_pos (by omega) (by omega)
      have hce := ceil_rest (a := mo 1 zs zs.length * 1000000) yp
      have q0 : 0 ≤ mo 1 zs zs.length * 1000000 / (sLo zs * rate) := Int.ediv_nonneg (by omega) (by omega)
      have q1 : mo 1 zs zs.length * 1000000 / (sLo zs * rate) ≤ mo 1 zs zs.length * 1000000 / 8000 := by
        have y8 : 8000 ≤ sLo zs * rate := by
          have := Int.mul_le_mul (show 1 ≤ sLo zs by omega) hr.1 (by omega) (by omega)
          omega
        have a := Int.ediv_mul_le (mo 1 zs zs.length * 1000000) (show sLo zs * rate ≠ 0 by omega)
        refine (Int.le_ediv_iff_mul_le (by omega)).2 ?_
        have b := Int.mul_le_mul_of_nonneg_left y8 q0
        omega
      have hcap : G_ceil (IntKind.wrap IntKind.i64 (IntKind.wrap IntKind.i64 ((zs.length : Int) - 1) * 1000000)) rate = some (cap zs.length rate) := by
        rw [wr64 (x := (zs.length : Int) - 1) (by omega), wr64 (by omega), ceilG_eq (by omega) (by omega) (by omega)]
        rfl
      rw [hcap]
      by_cases hmore : mo 1 zs zs.length * 1000000 % (sLo zs * rate) > 0
      · rw [if_pos hmore] at hce
        rw [decide_eq_true hmore, if_pos rfl, bind_some', wr64 (by omega), hce, if_pos (by omega), if_pos (by omega)]
      · rw [if_neg hmore, Int.add_zero] at hce
        rw [decide_eq_false hmore, if_neg Bool.false_ne_true, bind_some', hce, if_pos (by omega), if_pos (by omega)]
  · rw [if_pos (show (T != 0) = true by simpa using hT), if_pos (show T ≠ 0 from hT)]
theorem centreG_eq (rate : Int) {l : List Nat} (noise tail : Int) (hl : l.length < 1000000000000) : y20 rate l noise tail = some (if (askE rate l noise tail).2 ≠ 0 then (0, 0, (askE rate l noise tail).2) else ceW rate (zsO noise l) tail) := by
  unfold y20
  rw [open_e rate noise tail hl]
  by_cases h : (askE rate l noise tail).2 = 0
  · obtain ⟨hz, hr, hs, hl2, _, _, hp⟩ := ask_zok h
    rw [bne_f h, if_neg Bool.false_ne_true, open_good hl h, bind_some', if_neg (show ¬ (askE rate l noise tail).2 ≠ 0 from fun hh => hh h)]
    dsimp only
    rw [centreG_d hz hr (by rw [zsO_len]; exact hp), bind_some']
  · rw [bne_t h, if_pos rfl, open_bad hl h, bind_some', if_pos (show (askE rate l noise tail).2 ≠ 0 from h)]
    dsimp only
    rw [bne_t h, if_pos rfl]
end Go.Sh
end

section
namespace Go.Sh
open Go Go.Proofs Go.RowKit Go.Sx Go.Sx06 Ieee Go.Fl
theorem dwS_in {el1 eh1 ll1 lh1 el2 eh2 ll2 lh2 : Int} (h1 : 0 ≤ el2 ∧ el2 ≤ el1) (h2 : el1 ≤ eh1) (h3 : lh1 ≤ lh2) (h4 : 0 ≤ ll2 ∧ ll2 ≤ ll1) (h5 : ll1 ≤ lh1) (h6 : el2 ≤ eh2) (hH : eh1 ≤ eh2 ∨ ll2 = 0) (b1 : eh1 ≤ 5000000000000) (b2 : eh2 ≤ 5000000000000)
    (e : (dwS el2 eh2 ll2 lh2).2.2 = 0) : (dwS el1 eh1 ll1 lh1).2.2 = 0 ∧ (dwS el2 eh2 ll2 lh2).1 ≤ (dwS el1 eh1 ll1 lh1).1 ∧ (dwS el1 eh1 ll1 lh1).2.1 ≤ (dwS el2 eh2 ll2 lh2).2.1 ∧ (dwS el1 eh1 ll1 lh1).1 ≤ (dwS el1 eh1 ll1 lh1).2.1 := by
  unfold dwS at e ⊢
  by_cases h0 : el2 + ll2 = 0
  · rw [if_pos h0] at e; exact absurd e (by decide)
  · rw [if_neg h0, if_neg (show ¬ el1 + ll1 = 0 by omega)]
    have l2 := (def_lo (E := el1) (L := lh1) (el := el2) (lh := lh2) h1 (by omega) rfl (by omega)).2.2
    have l1 := (def_lo (E := eh1) (L := ll1) (el := el1) (lh := lh1) (by omega) (by omega) rfl (by omega)).2.2
    have u1 := def_hi (E := eh1) (L := ll1) (eh := eh1) (ll := ll1) (by omega) (by omega) rfl (by omega) b1
    refine ⟨rfl, (Int.le_ediv_iff_mul_le (by omega)).2 l2, ?_, ?_⟩
    · show (1000 * eh1 + (eh1 + ll1) - 1) / (eh1 + ll1) ≤ (1000 * eh2 + (eh2 + ll2) - 1) / (eh2 + ll2)
      rcases hH with hH | hH
      · have u2 := (def_hi (E := eh1) (L := ll1) (eh := eh2) (ll := ll2) (by omega) h4 rfl (by omega) b2).2.2
        generalize (1000 * eh2 + (eh2 + ll2) - 1) / (eh2 + ll2) = q at *
        have : (1000 * eh1 + (eh1 + ll1) - 1) / (eh1 + ll1) < q + 1 := by
          refine Int.ediv_lt_of_lt_mul (by omega) ?_
          rw [Int.add_mul q 1]
          omega
        omega
      · have : 1000 ≤ (1000 * eh2 + (eh2 + ll2) - 1) / (eh2 + ll2) := (Int.le_ediv_iff_mul_le (by omega)).2 (by omega)
        omega
    · show 1000 * el1 / (el1 + lh1) ≤ (1000 * eh1 + (eh1 + ll1) - 1) / (eh1 + ll1)
      exact mul_cut (c := eh1 + ll1) (by omega) (Int.le_trans l1 u1.2.2)
def dwZ (rate time : Int) (zs : List (List Int)) (T : Int) : Int × Int × Int :=
  dwS (sLo (zs.take (cutN rate time zs.length))) (sHi (zs.take (cutN rate time zs.length))) (sLo (zs.drop (cutN rate time zs.length))) (sHi (zs.drop (cutN rate time zs.length)) + T)
theorem sums_mono {zs : List (List Int)} (h : ∀ r ∈ zs, okZ r) {i j : Nat} (hij : i ≤ j) : sLo (zs.take i) ≤ sLo (zs.take j) ∧ sLo (zs.drop j) ≤ sLo (zs.drop i) ∧ sHi (zs.drop j) ≤ sHi (zs.drop i) := by
  obtain ⟨k, rfl⟩ : ∃ k, j = i + k := ⟨j - i, by omega⟩
  refine ⟨?_, ?_⟩
  · rw [List.take_add, sLo_append]
    have := (s_range (zs := (zs.drop i).take k) fun r hr => h r (List.mem_of_mem_drop (List.mem_of_mem_take hr))).1
    omega
  · rw [← List.drop_drop]
    exact sLo_drop_le (fun r hr => h r (List.mem_of_mem_drop hr)) k
section
variable {zs1 zs2 : List (List Int)} {T1 T2 rate time : Int}
theorem dw_nest (h : Nest zs1 T1 zs2 T2) (e : (dwZ rate time zs2 T2).2.2 = 0) :
    (dwZ rate time zs1 T1).2.2 = 0 ∧ (dwZ rate time zs2 T2).1 ≤ (dwZ rate time zs1 T1).1 ∧ (dwZ rate time zs1 T1).2.1 ≤ (dwZ rate time zs2 T2).2.1 ∧ (dwZ rate time zs1 T1).1 ≤ (dwZ rate time zs1 T1).2.1 := by
  have hl := h.len
  have ht := h.z1.tail
  unfold dwZ at e ⊢
  by_cases hm : (nAt rate time).toNat ≤ zs2.length
  · rw [show cutN rate time zs1.length = (nAt rate time).toNat by unfold cutN; omega] at *
    rw [show cutN rate time zs2.length = (nAt rate time).toNat by unfold cutN; omega] at *
    generalize (nAt rate time).toNat = c at *
    have a1 := take_range h.z1.ok h.z1.len c
    have a2 := take_range h.z2.ok h.z2.len c
    have a3 := drop_range h.z1.ok h.z1.len c
    have a4 := drop_range h.z2.ok h.z2.len c
    exact dwS_in ⟨a2.1, h.elo c hm⟩ a1.2.1 (h.hi c hm) ⟨a4.1, h.lo c hm⟩ (by omega) a2.2.1 (.inl (h.ehi c hm)) a1.2.2 a2.2.2 e
  · have hc : zs2.length ≤ cutN rate time zs1.length := by unfold cutN; omega
    rw [show cutN rate time zs2.length = zs2.length by unfold cutN; omega] at *
    generalize cutN rate time zs1.length = c at *
    have a1 := take_range h.z1.ok h.z1.len c
    have a2 := take_range h.z2.ok h.z2.len zs2.length
    have a3 := drop_range h.z1.ok h.z1.len c
    have m := sums_mono h.z1.ok hc
    have b1 := h.elo zs2.length (Nat.le_refl _)
    have b2 := h.hi zs2.length (Nat.le_refl _)
    have d0 : sLo (zs2.drop zs2.length) = 0 := by rw [List.drop_length]; rfl
    refine dwS_in ⟨a2.1, by omega⟩ a1.2.1 (by omega) (by omega) (by omega) a2.2.1 (.inr d0) a1.2.2 a2.2.2 e
theorem cl_good {zs : List (List Int)} {T : Int} (e : (clS rate zs T time).2.2 = 0) : ∃ c, c = cutN rate time zs.length ∧ c < zs.length ∧ (lvS (sLo (zs.take c)) (sHi (zs.drop c) + T)).2.2 = 0 ∧ (lvS (sHi (zs.take c)) (sLo (zs.drop c))).2.2 = 0 ∧
    clS rate zs T time = ((lvS (sLo (zs.take c)) (sHi (zs.drop c) + T)).1, (lvS (sHi (zs.take c)) (sLo (zs.drop c))).2.1, 0) := by
  refine ⟨_, rfl, ?_⟩
  unfold clS at e ⊢
  by_cases h0 : cutN rate time zs.length = zs.length
  · rw [if_pos h0] at e; exact absurd e (by decide)
  rw [if_neg h0] at e ⊢
  have hc := cutN_le rate time zs.length
  generalize cutN rate time zs.length = c at *
  by_cases h1 : sLo (zs.take c) = 0
  · rw [if_pos h1] at e; exact absurd e (by decide)
  rw [if_neg h1] at e ⊢
  by_cases h2 : sLo (zs.drop c) = 0
  · rw [if_pos h2] at e; exact absurd e (by decide)
  rw [if_neg h2] at e ⊢
  by_cases h3 : (lvS (sLo (zs.take c)) (sHi (zs.drop c) + T)).2.2 = 0
  · rw [if_neg (fun h => h h3)] at e ⊢
    by_cases h4 : (lvS (sHi (zs.take c)) (sLo (zs.drop c))).2.2 = 0
    · rw [if_neg (fun h => h h4)]
      exact ⟨by omega, h3, h4, rfl⟩
    · rw [if_pos h4] at e; exact absurd e h4
  · rw [if_pos h3] at e; exact absurd e h3
theorem cl_nest (h : Nest zs1 T1 zs2 T2) (e1 : (clS rate zs1 T1 time).2.2 = 0) (e2 : (clS rate zs2 T2 time).2.2 = 0) :
    (clS rate zs2 T2 time).1 ≤ (clS rate zs1 T1 time).1 ∧ (clS rate zs1 T1 time).2.1 ≤ (clS rate zs2 T2 time).2.1 ∧ (clS rate zs1 T1 time).1 ≤ (clS rate zs1 T1 time).2.1 := by
  obtain ⟨c1, hc1, k1, l1, u1, q1⟩ := cl_good e1
  obtain ⟨c2, hc2, k2, l2, u2, q2⟩ := cl_good e2
  have hl := h.len
  obtain rfl : c1 = c2 := by rw [hc1, hc2]; unfold cutN at *; omega
  rw [q1, q2]
  have a1 := take_range h.z1.ok h.z1.len c1
  have a2 := take_range h.z2.ok h.z2.len c1
  have a3 := drop_range h.z1.ok h.z1.len c1
  have a4 := drop_range h.z2.ok h.z2.len c1
  have t1 := h.z1.tail
  have t2 := h.z2.tail
  have b1 := h.lo c1 (by omega)
  have b2 := h.hi c1 (by omega)
  have b3 := h.elo c1 (by omega)
  have b4 := h.ehi c1 (by omega)
  refine ⟨lv_lo l1 l2 (Int.mul_le_mul b3 b2 (by omega) (by omega)), lv_hi u1 u2 (Int.mul_le_mul b4 b1 (by omega) (by omega)), ?_⟩
  have s1 := lv_lo u1 l1 (Int.mul_le_mul a1.2.1 (show sLo (zs1.drop c1) ≤ sHi (zs1.drop c1) + T1 by omega) (by omega) (by omega))
  have s2 := (lv_near u1).1
  show (lvS (sLo (zs1.take c1)) (sHi (zs1.drop c1) + T1)).1 ≤ (lvS (sHi (zs1.take c1)) (sLo (zs1.drop c1))).2.1
  omega
end
inductive In2 : List (List Int) → List (List Int) → Prop
  | nil : In2 [] []
  | cons {r1 r2 : List Int} {l1 l2 : List (List Int)} : r2.getD 0 0 ≤ r1.getD 0 0 → r1.getD 1 0 ≤ r2.getD 1 0 → In2 l1 l2 → In2 (r1 :: l1) (r2 :: l2)
theorem In2.len {a b : List (List Int)} (h : In2 a b) : a.length = b.length := by
  induction h with
  | nil => rfl
  | cons _ _ _ ih => simp [ih]
theorem In2.sum {a b : List (List Int)} (h : In2 a b) : sLo b ≤ sLo a ∧ sHi a ≤ sHi b := by
  induction h with
  | nil => exact ⟨Int.le_refl _, Int.le_refl _⟩
  | cons h1 h2 _ ih => unfold sLo sHi; omega
theorem In2.drop {a b : List (List Int)} (h : In2 a b) : ∀ i, In2 (a.drop i) (b.drop i) := by
  induction h with
  | nil => intro i; simp; exact .nil
  | cons h1 h2 h3 ih =>
    intro i
    cases i with
    | zero => exact .cons h1 h2 h3
    | succ i => exact ih i
theorem In2.take {a b : List (List Int)} (h : In2 a b) : ∀ i, In2 (a.take i) (b.take i) := by
  induction h with
  | nil => intro i; simp; exact .nil
  | cons h1 h2 h3 ih =>
    intro i
    cases i with
    | zero => exact .nil
    | succ i => exact .cons h1 h2 (ih i)
theorem In2.get {a b : List (List Int)} (h : In2 a b) : ∀ i, i < a.length → (b.getD i []).getD 0 0 ≤ (a.getD i []).getD 0 0 ∧ (a.getD i []).getD 1 0 ≤ (b.getD i []).getD 1 0 := by
  induction h with
  | nil => intro i hi; simp at hi
  | cons h1 h2 h3 ih =>
    intro i hi
    cases i with
    | zero => exact ⟨h1, h2⟩
    | succ i => exact ih i (by simpa using hi)
theorem nest_of {A B zs2 : List (List Int)} {T1 T2 : Int} (h : In2 A zs2) (hB : sHi B + T1 ≤ T2) (z1 : ZOK (A ++ B) T1) (z2 : ZOK zs2 T2) : Nest (A ++ B) T1 zs2 T2 := by
  have hl := h.len
  have b0 := (s_range (zs := B) fun r hr => z1.ok r (List.mem_append_right _ hr)).1
  refine ⟨z1, z2, by rw [List.length_append]; omega, fun i hi => ?_, fun i hi => ?_, fun i hi => ?_, fun i hi => ?_⟩
  · rw [List.drop_append_of_le_length (by omega), sLo_append]
    have := (h.drop i).sum
    omega
  · rw [List.drop_append_of_le_length (by omega), sHi_append]
    have := (h.drop i).sum
    omega
  · rw [List.take_append_of_le_length (by omega)]
    exact (h.take i).sum.1
  · rw [List.take_append_of_le_length (by omega)]
    exact (h.take i).sum.2
theorem mo_in {a b : List (List Int)} (h : In2 a b) : ∀ k, k ≤ a.length → mo 0 b k ≤ mo 0 a k ∧ mo 1 a k ≤ mo 1 b k
  | 0, _ => by simp [mo]
  | k + 1, hk => by
    have ih := mo_in h k (by omega)
    have g := h.get k (by omega)
    have s1 := Int.mul_le_mul_of_nonneg_left g.1 (show 0 ≤ (k : Int) by omega)
    have s2 := Int.mul_le_mul_of_nonneg_left g.2 (show 0 ≤ (k : Int) by omega)
    unfold mo
    omega
theorem mo_last {zs : List (List Int)} (hz : ∀ r ∈ zs, okZ r) : ∀ k, k ≤ zs.length → mo 0 zs k ≤ ((zs.length : Int) - 1) * sLo (zs.take k)
  | 0, _ => by simp [mo, sLo]
  | k + 1, h => by
    have ih := mo_last hz k (by omega)
    have ho := hz (zs.getD k []) (by simp [List.getD, show k < zs.length by omega])
    unfold okZ at ho
    have t := Int.mul_le_mul_of_nonneg_right (show (k : Int) ≤ (zs.length : Int) - 1 by omega) ho.1
    rw [take_snoc (by omega), sLo_snoc, Int.mul_add]
    unfold mo
    omega
theorem fl_mono {M1 M2 H1 H2 rate : Int} (hM : 0 ≤ M2 ∧ M2 ≤ M1) (hH : 0 < H1 ∧ H1 ≤ H2) (hr : 0 < rate) : M2 * 1000000 / (H2 * rate) ≤ M1 * 1000000 / (H1 * rate) := by
  have p1 : 0 < H1 * rate := Int.mul_pos hH.1 hr
  have p2 : 0 < H2 * rate := Int.mul_pos (by omega) hr
  refine (Int.le_ediv_iff_mul_le p1).2 ?_
  have a := Int.ediv_mul_le (M2 * 1000000) (show H2 * rate ≠ 0 by omega)
  have q0 : 0 ≤ M2 * 1000000 / (H2 * rate) := Int.ediv_nonneg (by omega) (by omega)
  have b := Int.mul_le_mul_of_nonneg_left (Int.mul_le_mul_of_nonneg_right hH.2 (show 0 ≤ rate by omega)) q0
  omega
theorem ce_mono {K1 K2 L1 L2 rate : Int} (hK : 0 ≤ K1 ∧ K1 ≤ K2) (hL : 0 < L2 ∧ L2 ≤ L1) (hr : 0 < rate) : -(-(K1 * 1000000) / (L1 * rate)) ≤ -(-(K2 * 1000000) / (L2 * rate)) := by
  have p1 : 0 < L1 * rate := Int.mul_pos (by omega) hr
  have p2 : 0 < L2 * rate := Int.mul_pos hL.1 hr
  have a := Int.ediv_mul_le (-(K2 * 1000000)) (show L2 * rate ≠ 0 by omega)
  have q0 : -(K2 * 1000000) / (L2 * rate) ≤ 0 := by
    have : -(K2 * 1000000) / (L2 * rate) < 1 := Int.ediv_lt_of_lt_mul p2 (by omega)
    omega
  generalize -(K2 * 1000000) / (L2 * rate) = q at *
  have b := Int.mul_le_mul_of_nonneg_left (Int.mul_le_mul_of_nonneg_right hL.2 (show 0 ≤ rate by omega)) (show 0 ≤ -q by omega)
  have c : q ≤ -(K1 * 1000000) / (L1 * rate) := (Int.le_ediv_iff_mul_le p1).2 (by
    have e1 : -q * (L2 * rate) = -(q * (L2 * rate)) := Int.neg_mul ..
    have e2 : -q * (L1 * rate) = -(q * (L1 * rate)) := Int.neg_mul ..
    omega)
  omega
theorem ce_nest {a b : List (List Int)} {T1 T2 rate : Int} (h : In2 a b) (z1 : ZOK a T1) (z2 : ZOK b T2) (hr : 8000 ≤ rate) (hp : 0 < a.length) (e1 : (ceW rate a T1).2.2 = 0) (e2 : (ceW rate b T2).2.2 = 0) :
    (ceW rate b T2).1 ≤ (ceW rate a T1).1 ∧ (ceW rate a T1).2.1 ≤ (ceW rate b T2).2.1 ∧ (ceW rate a T1).1 ≤ (ceW rate a T1).2.1 := by
  have hs := h.sum
  have hl := h.len
  have m1 := mo_all z1.ok z1.len
  have m2 := mo_all z2.ok z2.len
  have mi := mo_in h a.length (Nat.le_refl _)
  have ml := mo_last z1.ok a.length (Nat.le_refl _)
  rw [List.take_of_length_le (Nat.le_refl _)] at ml
  have a1 := s_range z1.ok
  have a2 := s_range z2.ok
  unfold ceW at *
  by_cases g1 : T1 = 0
  · by_cases g2 : T2 = 0
    · simp only [if_neg (show ¬ T1 ≠ 0 from fun h => h g1)] at e1 ⊢
      simp only [if_neg (show ¬ T2 ≠ 0 from fun h => h g2)] at e2 ⊢
      by_cases g3 : sLo a = 0
      · rw [if_pos g3] at e1; exact absurd e1 (by decide)
      by_cases g4 : sLo b = 0
      · rw [if_pos g4] at e2; exact absurd e2 (by decide)
      simp only [if_neg g3, if_neg g4]
      unfold ceS
      rw [← hl] at m2 ⊢
      dsimp only
      generalize mo 0 a a.length = M1 at *
      generalize mo 0 b a.length = M2 at *
      generalize mo 1 a a.length = K1 at *
      generalize mo 1 b a.length = K2 at *
      generalize sLo a = L1 at *
      generalize sLo b = L2 at *
      generalize sHi a = H1 at *
      generalize sHi b = H2 at *
      have x1 := fl_mono (M1 := M1) (M2 := M2) (H1 := H1) (H2 := H2) (rate := rate) (by omega) (by omega) (by omega)
      have x2 := ce_mono (K1 := K1) (K2 := K2) (L1 := L1) (L2 := L2) (rate := rate) (by omega) (by omega) (by omega)
      have x3 : M1 * 1000000 / (H1 * rate) ≤ -(-(K1 * 1000000) / (L1 * rate)) := by
        have p1 : 0 < L1 * rate := Int.mul_pos (by omega) (by omega)
        have y := fl_mono (M1 := K1) (M2 := M1) (H1 := L1) (H2 := H1) (rate := rate) (by omega) (by omega) (by omega)
        rw [ceil_rest p1]
        split <;> omega
      have x4 : M1 * 1000000 / (H1 * rate) ≤ cap (a.length : Int) rate := by
        have p1 : 0 < H1 * rate := Int.mul_pos (by omega) (by omega)
        have y := Int.ediv_mul_le (M1 * 1000000) (show H1 * rate ≠ 0 by omega)
        have q0 : 0 ≤ M1 * 1000000 / (H1 * rate) := Int.ediv_nonneg (by omega) (by omega)
        unfold cap
        generalize M1 * 1000000 / (H1 * rate) = q at *
        refine (Int.le_ediv_iff_mul_le (by omega)).2 ?_
        have w := Int.mul_le_mul_of_nonneg_left (show L1 ≤ H1 by omega) (show 0 ≤ (a.length : Int) - 1 by omega)
        have : q * rate ≤ ((a.length : Int) - 1) * 1000000 := by
          refine mul_cut (c := H1) (by omega) ?_
          have t1 : q * (H1 * rate) = q * rate * H1 := by grind
          have t2 : ((a.length : Int) - 1) * 1000000 * H1 = ((a.length : Int) - 1) * H1 * 1000000 := by grind
          omega
        omega
      refine ⟨x1, ?_, ?_⟩
      · split <;> split <;> omega
      · split <;> omega
    · rw [if_pos g2] at e2; exact absurd e2 (by decide)
  · rw [if_pos g1] at e1; exact absurd e1 (by decide)
end Go.Sh
end

section
namespace Go.Sh
open Go Go.Proofs Go.RowKit Go.Sx Go.Sx06 Ieee Go.Fl
end Go.Sh
end

section
namespace Go.Sh
open Go Go.Proofs Go.RowKit Go.Sx Go.Sx06 Ieee Go.Fl
inductive Sc2 (c : Int) : List (List Int) → List (List Int) → Prop
  | nil : Sc2 c [] []
  | cons {r1 r2 : List Int} {l1 l2 : List (List Int)} : r2.getD 0 0 = r1.getD 0 0 * c → r2.getD 1 0 = r1.getD 1 0 * c → Sc2 c l1 l2 → Sc2 c (r1 :: l1) (r2 :: l2)
section
variable {c : Int} {a b : List (List Int)}
theorem Sc2.len (h : Sc2 c a b) : b.length = a.length := by
  induction h with
  | nil => rfl
  | cons _ _ _ ih => simp [ih]
theorem Sc2.sum (h : Sc2 c a b) : sLo b = sLo a * c ∧ sHi b = sHi a * c := by
  induction h with
  | nil => simp [sLo, sHi]
  | cons h1 h2 _ ih => unfold sLo sHi; rw [Int.add_mul, Int.add_mul]; omega
theorem Sc2.drop (h : Sc2 c a b) : ∀ i, Sc2 c (a.drop i) (b.drop i) := by
  induction h with
  | nil => intro i; simp; exact .nil
  | cons h1 h2 h3 ih =>
    intro i
    cases i with
    | zero => exact .cons h1 h2 h3
    | succ i => exact ih i
theorem Sc2.take (h : Sc2 c a b) : ∀ i, Sc2 c (a.take i) (b.take i) := by
  induction h with
  | nil => intro i; simp; exact .nil
  | cons h1 h2 h3 ih =>
    intro i
    cases i with
    | zero => exact .nil
    | succ i => exact .cons h1 h2 (ih i)
theorem Sc2.get (h : Sc2 c a b) : ∀ i, i < a.length → (b.getD i []).getD 0 0 = (a.getD i []).getD 0 0 * c ∧ (b.getD i []).getD 1 0 = (a.getD i []).getD 1 0 * c := by
  induction h with
  | nil => intro i hi; simp at hi
  | cons h1 h2 h3 ih =>
    intro i hi
    cases i with
    | zero => exact ⟨h1, h2⟩
    | succ i => exact ih i (by simpa using hi)
end
end Go.Sh
end

section
namespace Go.Sh
open Go Go.Proofs Go.RowKit Go.Sx Go.Sx06 Ieee Go.Fl
def Wh (b : Nat) (n : Int) : Prop := ∃ s m e, single.read b = .number s m e ∧ (-149 ≤ e ∧ e ≤ 104) ∧ mg KK m e = n.natAbs * PP ∧ sg s n.natAbs = n
theorem wh_cut {a b : Nat} : a * PP ≤ b * PP ↔ a ≤ b := ⟨fun h => Nat.le_of_mul_le_mul_right h PP_pos, fun h => Nat.mul_le_mul_right _ h⟩
theorem wh_se {b : Nat} {n : Int} (h : Wh b n) (hn : n.natAbs < 16777216) : se b = (if n.natAbs ≤ 32767 then 0 else 2) ∧ fi b = n := by
  obtain ⟨s, m, e, hr, he, hm, hs⟩ := h
  have hd : FloatKind.decode .f32 b = .number s m e := hr
  have hk : mg KK m e / PP = n.natAbs := by rw [hm]; exact Nat.mul_div_cancel _ PP_pos
  constructor
  · unfold se seD
    rw [hd]
    dsimp only
    rw [hk, hm, if_neg (show ¬ 16777216 * PP ≤ n.natAbs * PP by rw [wh_cut]; omega), if_neg (by simp)]
  · unfold fi f2i
    rw [hd, toIntP (by unfold KK; omega), hk, hs]
    rfl
theorem se_wh {b : Nat} (h : se b = 0) : Wh b (fi b) := by
  unfold se at h
  rcases Fl.read32 b with ⟨s, m, e, hd, hm, he1, he2⟩ | ⟨s, hd⟩ | ⟨s, t, hd⟩
  · have hdec : FloatKind.decode .f32 b = .number s m e := hd
    have hf : fi b = sg s (mg KK m e / PP) := by
      unfold fi f2i
      rw [hdec, toIntP (by unfold KK; omega)]
      rfl
    rw [hdec] at h
    unfold seD at h
    dsimp only at h
    have h2 : mg KK m e / PP * PP = mg KK m e := by
      split at h
      · omega
      · split at h
        · omega
        · omega
    have ha : (fi b).natAbs = mg KK m e / PP := by
      rw [hf]
      generalize mg KK m e / PP = q
      unfold sg
      split <;> omega
    exact ⟨s, m, e, hd, ⟨he1, he2⟩, by rw [ha, h2], by rw [ha, hf]⟩
  · have hdec : FloatKind.decode .f32 b = .infinity s := hd
    rw [hdec] at h; exact absurd (show (27 : Int) = 0 from h) (by decide)
  · have hdec : FloatKind.decode .f32 b = .nan s t := hd
    rw [hdec] at h; exact absurd (show (27 : Int) = 0 from h) (by decide)
theorem lg_mul {n : Nat} (hn : n ≠ 0) (k : Nat) : (n * 2 ^ k).log2 = n.log2 + k := by
  have hp := Nat.two_pow_pos k
  refine (Nat.log2_eq_iff (Nat.mul_ne_zero hn (by omega))).2 ⟨?_, ?_⟩
  · rw [Nat.pow_add]; exact Nat.mul_le_mul_right _ (Nat.log2_self_le hn)
  · rw [show n.log2 + k + 1 = n.log2 + 1 + k by omega, Nat.pow_add]
    exact Nat.mul_lt_mul_of_pos_right Nat.lt_log2_self hp
theorem cut_exact {s : Bool} {k : Nat} (hk : k ≠ 0) (D : Nat) : Toward.cut .even s (k * 2 ^ D) D = k := by
  have hp := Nat.two_pow_pos D
  have hg : (1 <<< min D ((k * 2 ^ D).log2 + 2) : Nat) = 2 ^ D := by
    rw [lg_mul hk, Nat.min_eq_left (by omega), Nat.shiftLeft_eq, Nat.one_mul]
  unfold Toward.cut
  simp only [hg, Nat.mul_div_cancel _ hp, Nat.mul_mod_left]
  have h1 : decide (2 ^ D < 2 * 0) = false := by simp
  have h2 : ((2 ^ D : Nat) == 2 * 0) = false := by simp
  rw [h1, h2]
  rfl
theorem nearest_at {s : Bool} {m : Nat} {place : Int} {q k : Nat} (hm : m ≠ 0) (hq : place + m.log2 = q) (hq2 : q ≤ 23) (hk : Toward.cut .even s (m <<< (place - ((q : Int) - 23)).toNat) (((q : Int) - 23) - place).toNat = k) :
    single.nearest s m place = single.word s (min ((q + 126) * 8388608 + k) 2139095040) := by
  have e2 : single.binade = 8388608 := rfl
  have e3 : single.infRung = 2139095040 := rfl
  have e4 : single.leastPlace = -149 := rfl
  have e5 : single.fractionBits = 23 := rfl
  unfold Format.nearest
  rw [if_neg hm]
  simp only [e2, e3, e4, e5]
  have hl : max (place + (m.log2 : Int) - (23 : Nat)) (-149) = (q : Int) - 23 := by omega
  rw [hl, hk, show ((q : Int) - 23 - -149).toNat = q + 126 by omega]
theorem write_exact {s : Bool} {m N : Nat} {e : Int} (hN : N < 16777216) (h : mg KK m e = N * PP) (he : -1000 ≤ e) : single.write (.number s m e) = single.write (.number s N 0) := by
  show single.nearest s m e = single.nearest s N 0
  by_cases h0 : N = 0
  · subst h0
    have : m = 0 := by
      rw [Nat.zero_mul] at h
      unfold mg at h
      rcases Nat.mul_eq_zero.1 h with h | h
      · exact h
      · have := Nat.two_pow_pos (e + KK).toNat
        omega
    subst this
    unfold Format.nearest
    rw [if_pos rfl, if_pos rfl]
  · have hq : N.log2 ≤ 23 := by
      have := (Nat.log2_lt h0 (k := 24)).2 (by omega)
      omega
    have right : single.nearest s N 0 = single.word s (min ((N.log2 + 126) * 8388608 + N * 2 ^ (23 - N.log2)) 2139095040) := by
      refine nearest_at h0 (by omega) hq ?_
      rw [show ((0 : Int) - ((N.log2 : Int) - 23)).toNat = 23 - N.log2 by omega, show (((N.log2 : Int) - 23) - 0).toNat = 0 by omega, cut_zero _ _ _ rfl, Nat.shiftLeft_eq]
    rw [right]
    by_cases hp : 0 ≤ e
    · obtain ⟨p, rfl⟩ : ∃ p : Nat, e = (p : Int) := ⟨e.toNat, by omega⟩
      rw [mg_up] at h
      have h : m * 2 ^ p = N := Nat.eq_of_mul_eq_mul_right PP_pos h
      have hm : m ≠ 0 := by intro hm; rw [hm, Nat.zero_mul] at h; exact h0 h.symm
      have hl : N.log2 = m.log2 + p := by rw [← h, lg_mul hm]
      refine nearest_at hm (by omega) hq ?_
      rw [show ((p : Int) - ((N.log2 : Int) - 23)).toNat = p + (23 - N.log2) by omega, show (((N.log2 : Int) - 23) - (p : Int)).toNat = 0 by omega, cut_zero _ _ _ rfl, Nat.shiftLeft_eq, Nat.pow_add, ← Nat.mul_assoc, h]
    · obtain ⟨d, rfl⟩ : ∃ d : Nat, e = -(d : Int) := ⟨(-e).toNat, by omega⟩
      have hd : d ≤ 1000 := by omega
      have h : m = N * 2 ^ d := by
        have hk : (-(d : Int) + (KK : Int)).toNat = KK - d := by unfold KK; omega
        unfold mg at h
        rw [hk, PP_eq, show KK = d + (KK - d) by unfold KK; omega, Nat.pow_add, show d + (KK - d) - d = KK - d by omega, ← Nat.mul_assoc] at h
        exact Nat.eq_of_mul_eq_mul_right (Nat.two_pow_pos _) h
      have hm : m ≠ 0 := by rw [h]; exact Nat.mul_ne_zero h0 (by have := Nat.two_pow_pos d; omega)
      have hl : m.log2 = N.log2 + d := by rw [h, lg_mul h0]
      refine nearest_at hm (by omega) hq ?_
      by_cases hdd : d ≤ 23 - N.log2
      · rw [show (-(d : Int) - ((N.log2 : Int) - 23)).toNat = 23 - N.log2 - d by omega, show (((N.log2 : Int) - 23) - -(d : Int)).toNat = 0 by omega, cut_zero _ _ _ rfl, Nat.shiftLeft_eq, h, Nat.mul_assoc, ← Nat.pow_add]
        congr 2
        omega
      · rw [show (-(d : Int) - ((N.log2 : Int) - 23)).toNat = 0 by omega, show (((N.log2 : Int) - 23) - -(d : Int)).toNat = d - (23 - N.log2) by omega, Nat.shiftLeft_zero, h,
          show N * 2 ^ d = N * 2 ^ (23 - N.log2) * 2 ^ (d - (23 - N.log2)) by rw [Nat.mul_assoc, ← Nat.pow_add]; congr 2; omega]
        exact cut_exact (Nat.mul_ne_zero h0 (by have := Nat.two_pow_pos (23 - N.log2); omega)) _
theorem wh_write {s : Bool} {N : Nat} (hN : N < 16777216) : Wh (single.write (.number s N 0)) (sg s N) := by
  have ha : (sg s N).natAbs = N := by unfold sg; split <;> omega
  by_cases h0 : N = 0
  · subst h0
    refine ⟨s, 0, -149, by cases s <;> simp [Format.write, Format.nearest] <;> rfl, by omega, by rw [ha]; simp [mg], by rw [ha]⟩
  · obtain ⟨h1, h2⟩ := round32 (s := s) h0 hN
    refine ⟨s, _, _, h1, by omega, ?_, by rw [ha]⟩
    rw [ha]
    unfold mg
    have e1 : ((N.log2 : Int) - 23 + KK).toNat = KK - (23 - N.log2) := by unfold KK; omega
    rw [e1, Nat.mul_assoc, ← Nat.pow_add, PP_eq]
    congr 2
    unfold KK
    omega
theorem wh_near {n : Int} (hn : n.natAbs < 16777216) : Wh (FloatKind.nearest .f32 n) n := by
  have := wh_write (s := decide (n < 0)) hn
  have e : sg (decide (n < 0)) n.natAbs = n := by
    unfold sg
    by_cases h : n < 0
    · rw [decide_eq_true h, if_pos rfl]; omega
    · rw [decide_eq_false h, if_neg Bool.false_ne_true]; omega
  rw [e] at this
  exact this
theorem sg_wh {s : Bool} {m : Nat} {e n : Int} (h : mg KK m e = n.natAbs * PP) (hs : sg s n.natAbs = n) : sg s (mg KK m e) = n * (PP : Int) := by rw [h, sg_mul, hs]
theorem wh_add {a b : Nat} {x y : Int} (ha : Wh a x) (hb : Wh b y) (h : (x + y).natAbs < 16777216) : ∃ c, single.add a b = some c ∧ Wh c (x + y) := by
  obtain ⟨s, m, i, h1, h2, h3, h4⟩ := ha
  obtain ⟨t, n, j, k1, k2, k3, k4⟩ := hb
  have a1 := sg_wh h3 h4
  have b1 := sg_wh k3 k4
  have key : ∀ (u : Bool) (w : Nat) (z : Int), min i j ≤ z → sg u (mg KK w z) = sg u (w * 2 ^ (z - min i j).toNat) * ((2 ^ (min i j + KK).toNat : Nat) : Int) := by
    intro u w z hz
    rw [← sg_mul]
    congr 1
    unfold mg
    rw [Nat.mul_assoc, ← Nat.pow_add]
    congr 2
    unfold KK
    omega
  rw [key s m i (by omega)] at a1
  rw [key t n j (by omega)] at b1
  unfold Format.add
  rw [h1, k1]
  simp only [Datum.sum, signed_eq, Option.map_some]
  refine ⟨_, rfl, ?_⟩
  generalize hT : sg s (m * 2 ^ (i - min i j).toNat) + sg t (n * 2 ^ (j - min i j).toNat) = T at *
  have hp : 0 < 2 ^ (min i j + (KK : Int)).toNat := Nat.two_pow_pos _
  have hTe : T * ((2 ^ (min i j + KK).toNat : Nat) : Int) = (x + y) * (PP : Int) := by rw [← hT, Int.add_mul, Int.add_mul, a1, b1]
  have hm : mg KK T.natAbs (min i j) = (x + y).natAbs * PP := by
    have := congrArg Int.natAbs hTe
    rw [Int.natAbs_mul, Int.natAbs_mul, Int.natAbs_natCast, Int.natAbs_natCast] at this
    exact this
  rw [write_exact h hm (by omega)]
  have hz : T = 0 ↔ x + y = 0 := by
    have hPP := PP_pos
    constructor
    · intro h0
      rw [h0, Int.zero_mul] at hTe
      rcases Int.mul_eq_zero.1 hTe.symm with h | h <;> omega
    · intro h0
      rw [h0, Int.zero_mul] at hTe
      rcases Int.mul_eq_zero.1 hTe with h | h <;> omega
  have hlt : T < 0 ↔ x + y < 0 := by
    have hPP : (0 : Int) < (PP : Int) := by have := PP_pos; omega
    have hpp : (0 : Int) < ((2 ^ (min i j + (KK : Int)).toNat : Nat) : Int) := by omega
    constructor
    · intro h0
      have := Int.mul_neg_of_neg_of_pos h0 hpp
      refine Int.not_le.1 fun hh => ?_
      have := Int.mul_nonneg hh (Int.le_of_lt hPP)
      omega
    · intro h0
      have := Int.mul_neg_of_neg_of_pos h0 hPP
      refine Int.not_le.1 fun hh => ?_
      have := Int.mul_nonneg hh (Int.le_of_lt hpp)
      omega
  have w := wh_write (s := if T = 0 then s && t else decide (T < 0)) h
  have e : sg (if T = 0 then s && t else decide (T < 0)) (x + y).natAbs = x + y := by
    by_cases h0 : T = 0
    · have := hz.1 h0
      rw [this]
      exact sg_zero _
    · rw [if_neg h0]
      unfold sg
      by_cases hl : T < 0
      · have := hlt.1 hl
        rw [decide_eq_true hl, if_pos rfl]; omega
      · rw [decide_eq_false hl, if_neg Bool.false_ne_true]
        have : ¬ x + y < 0 := fun hh => hl (hlt.2 hh)
        omega
  rw [e] at w
  exact w
end Go.Sh
end

section
namespace Go.Sh
open Go Go.Proofs Go.RowKit Go.Sx Go.Sx06 Ieee Go.Fl
section
variable {rate noise tail time kind : Int} {l : List Nat}
theorem decW_ok (h : (askE rate l noise tail).2 = 0) (hk : 0 ≤ kind ∧ kind ≤ 2) : decW rate l noise tail kind = decS rate (zsO noise l) tail kind := by
  unfold decW
  rw [if_neg (show ¬ (askE rate l noise tail).2 ≠ 0 from fun hh => hh h), if_neg (show ¬ ¬ (0 ≤ kind ∧ kind ≤ 2) from fun hh => hh hk)]
theorem dwW_ok (h : (askE rate l noise tail).2 = 0) (ht : tmE time = 0) : dwW rate l noise tail time = dwZ rate time (zsO noise l) tail := by
  unfold dwW dwZ
  rw [if_neg (show ¬ (askE rate l noise tail).2 ≠ 0 from fun hh => hh h), if_neg (show ¬ tmE time ≠ 0 from fun hh => hh ht), zsO_len]
theorem clW_ok (h : (askE rate l noise tail).2 = 0) (ht : tmE time = 0) : clW rate l noise tail time = clS rate (zsO noise l) tail time := by
  unfold clW
  rw [if_neg (show ¬ (askE rate l noise tail).2 ≠ 0 from fun hh => hh h), if_neg (show ¬ tmE time ≠ 0 from fun hh => hh ht)]
end
theorem sq_mono {a b : Int} (h : 0 ≤ a ∧ a ≤ b) : a * a ≤ b * b := Int.mul_le_mul h.2 h.2 h.1 (by omega)
theorem sq_in {n1 n2 x y : Int} (h1 : 0 ≤ n1) (h : n1 + az (x - y) ≤ n2) : (sqP n2 y).getD 0 0 ≤ (sqP n1 x).getD 0 0 ∧ (sqP n1 x).getD 1 0 ≤ (sqP n2 y).getD 1 0 := by
  unfold az at h
  constructor
  · show max 0 (az y - n2) * max 0 (az y - n2) ≤ max 0 (az x - n1) * max 0 (az x - n1)
    exact sq_mono (by unfold az; omega)
  · show (az x + n1) * (az x + n1) ≤ (az y + n2) * (az y + n2)
    exact sq_mono (by unfold az; omega)
theorem in2_of {n1 n2 : Int} (h1 : 0 ≤ n1) : ∀ a b : List Nat, a.length = b.length → (∀ i, i < a.length → n1 + az (fi (a.getD i 0) - fi (b.getD i 0)) ≤ n2) → In2 (zsO n1 a) (zsO n2 b)
  | [], [], _, _ => .nil
  | [], _ :: _, h, _ => by simp at h
  | _ :: _, [], h, _ => by simp at h
  | x :: a, y :: b, h, hd => by
    have s := sq_in h1 (hd 0 (by simp))
    exact .cons s.1 s.2 (in2_of h1 a b (by simpa using h) fun i hi => hd (i + 1) (by simpa using hi))
def upd_ (l : List Nat) (g : Nat → Nat) (i : Nat) : List Nat := (List.range l.length).map fun j => if j < i then g j else l.getD j 0
section
variable {l : List Nat} {g : Nat → Nat}
theorem upd_len (i : Nat) : (upd_ l g i).length = l.length := by simp [upd_]
theorem upd_at {i j : Nat} (h : j < l.length) : (upd_ l g i).getD j 0 = if j < i then g j else l.getD j 0 := by
  simp [upd_, List.getD, h]
theorem upd_zero : upd_ l g 0 = l := by
  refine List.ext_getElem (by simp [upd_]) fun j h1 h2 => ?_
  simp [upd_, List.getD, h2]
theorem upd_set {i : Nat} (h : i < l.length) : (upd_ l g i).set i (g i) = upd_ l g (i + 1) := by
  refine List.ext_getElem (by simp [upd_]) fun j h1 h2 => ?_
  rw [List.getElem_set]
  simp only [upd_, List.getElem_map, List.getElem_range]
  by_cases h3 : i = j
  · subst h3
    rw [if_pos rfl, if_pos (by omega)]
  · rw [if_neg h3]
    by_cases h4 : j < i
    · rw [if_pos h4, if_pos (by omega)]
    · rw [if_neg h4, if_neg (by omega)]
end
end Go.Sh
end

section
namespace Go.Sh
open Go Go.Proofs Go.RowKit Go.Sx
set_option linter.unusedVariables false
private theorem zcD80 : ((0 : Int) ≤ (0 : Int) ∧ (0 : Int) < (6 : Int)) := by decide
private theorem zcD81 : ((0 : Int) ≤ (1 : Int) ∧ (1 : Int) < (6 : Int)) := by decide
private theorem zcD82 : ((0 : Int) ≤ (2 : Int) ∧ (2 : Int) < (6 : Int)) := by decide
private theorem zcD83 : (true = true) := by decide
private theorem zcD84 : (true = true ∧ true = true) := by decide
private theorem zcD85 : ((0 : Int) ≤ (3 : Int) ∧ (3 : Int) < (6 : Int)) := by decide
private theorem zcD86 : ((0 : Int) ≤ (4 : Int) ∧ (4 : Int) < (6 : Int)) := by decide
private theorem zcD87 : ((0 : Int) ≤ (5 : Int) ∧ (5 : Int) < (6 : Int)) := by decide
def y157 : List SV := [.c (.p [.p [.d, .r (.floats .f32 []), .d, .d, .r (.recs 2 []), .r (.recs 2 [])]])]
def y17 (u18 : Int) (u19 : List Nat) (u20 : Int) (u21 : Int) (u22 : List (List Int)) (u23 : List (List Int)) : Option (Int × Int × Int) :=
  Option.bind (y36 u18 u19 u20 u21 u22 u23 (80000 : Int)) fun r0 =>
  some (r0.1, r0.2.1, r0.2.2)
def y158 : List Lf → Option GT
  | [.d (.i .i64 u18), .r (.floats .f32 u19), .d (.i .i64 u20), .d (.i .i64 u21), .r (.recs 2 u22), .r (.recs 2 u23)] => some (.leaf (ok (y17 u18 u19 u20 u21 u22 u23)) [.s [.d (.i .i64 ((val (y17 u18 u19 u20 u21 u22 u23)).1)), .d (.i .i64 ((val (y17 u18 u19 u20 u21 u22 u23)).2.1))], .c (.d (.i .i64 ((val (y17 u18 u19 u20 u21 u22 u23)).2.2)))])
  | _ => none
abbrev sp_69 : Specs → Specs := addK 69 true (pureT y157 y158)
set_option maxRecDepth 100000 in
def G_FiguresOf_1_t (u18 : Int) (u19 : List Nat) (u20 : Int) (u21 : Int) (u22 : List (List Int)) (u23 : List (List Int)) : T (Int × Int × Int) :=
 .obT
  (.call (y36 u18 u19 u20 u21 u22 u23 (80000 : Int)) fun r0 =>
  .obT
  (.obT
  (.rc ((r0.1, r0.2.1, r0.2.2)))))
set_option maxRecDepth 100000 in
theorem G_FiguresOf_1_vc (u18 : Int) (u19 : List Nat) (u20 : Int) (u21 : Int) (u22 : List (List Int)) (u23 : List (List Int)) (r : Int × Int × Int) (h : Option.bind (y17 u18 u19 u20 u21 u22 u23) some = some r) : runT Tryd.f69 ((sp_58 sp0)) (fun _ _ _ => none) (bldD y157 [.d (.i .i64 u18), .r (.floats .f32 u19), .d (.i .i64 u20), .d (.i .i64 u21), .r (.recs 2 u22), .r (.recs 2 u23)]) [.s [.d (.i .i64 r.1), .d (.i .i64 r.2.1)], .c (.d (.i .i64 r.2.2))] :=
  T.vc (t := G_FiguresOf_1_t u18 u19 u20 u21 u22 u23) (by kernel_rfl) (by kernel_rfl) h
set_option maxRecDepth 100000 in
theorem G_FiguresOf_1_ok : SpecOK Tryd.prog 69 true (pureT y157 y158) := by
  refine pureT_ok (sp := (sp_58 sp0)) (fn := Tryd.f69) (body := bodyOf Tryd.f69) mixed (sp_58_ok sp0_ok) Tryd.func69 (by kernel_rfl) (by kernel_rfl) fun ls t h ho b hb => ?_
  unfold y158 at h
  split at h
  · rename_i u18 u19 u20 u21 u22 u23
    cases h
    obtain rfl := bld_eq hb
    exact ⟨Nat.le_of_ble_eq_true (by kernel_rfl), _, _, G_FiguresOf_1_vc u18 u19 u20 u21 u22 u23 _ (ok_some ho)⟩
  · cases h
theorem sp_69_ok {sp : Specs} (h : SpecsOK Tryd.prog sp) : SpecsOK Tryd.prog (sp_69 sp) := addK_ok G_FiguresOf_1_ok h
def y159 : List SV := [.c (.p [.p [.d, .r (.floats .f32 []), .d, .d, .r (.recs 2 []), .r (.recs 2 [])]])]
def y5 (u18 : Int) (u19 : List Nat) (u20 : Int) (u21 : Int) (u22 : List (List Int)) (u23 : List (List Int)) : Option (Int × Int × Int) :=
  Option.bind (y23 u18 u19 u20 u21 u22 u23 (50000 : Int)) fun r0 =>
  some (r0.1, r0.2.1, r0.2.2)
def y160 : List Lf → Option GT
  | [.d (.i .i64 u18), .r (.floats .f32 u19), .d (.i .i64 u20), .d (.i .i64 u21), .r (.recs 2 u22), .r (.recs 2 u23)] => some (.leaf (ok (y5 u18 u19 u20 u21 u22 u23)) [.s [.d (.i .i64 ((val (y5 u18 u19 u20 u21 u22 u23)).1)), .d (.i .i64 ((val (y5 u18 u19 u20 u21 u22 u23)).2.1))], .c (.d (.i .i64 ((val (y5 u18 u19 u20 u21 u22 u23)).2.2)))])
  | _ => none
abbrev sp_70 : Specs → Specs := addK 70 true (pureT y159 y160)
set_option maxRecDepth 100000 in
def G_FiguresOf_2_t (u18 : Int) (u19 : List Nat) (u20 : Int) (u21 : Int) (u22 : List (List Int)) (u23 : List (List Int)) : T (Int × Int × Int) :=
 .obT
  (.call (y23 u18 u19 u20 u21 u22 u23 (50000 : Int)) fun r0 =>
  .obT
  (.obT
  (.rc ((r0.1, r0.2.1, r0.2.2)))))
set_option maxRecDepth 100000 in
theorem G_FiguresOf_2_vc (u18 : Int) (u19 : List Nat) (u20 : Int) (u21 : Int) (u22 : List (List Int)) (u23 : List (List Int)) (r : Int × Int × Int) (h : Option.bind (y5 u18 u19 u20 u21 u22 u23) some = some r) : runT Tryd.f70 ((sp_59 sp0)) (fun _ _ _ => none) (bldD y159 [.d (.i .i64 u18), .r (.floats .f32 u19), .d (.i .i64 u20), .d (.i .i64 u21), .r (.recs 2 u22), .r (.recs 2 u23)]) [.s [.d (.i .i64 r.1), .d (.i .i64 r.2.1)], .c (.d (.i .i64 r.2.2))] :=
  T.vc (t := G_FiguresOf_2_t u18 u19 u20 u21 u22 u23) (by kernel_rfl) (by kernel_rfl) h
set_option maxRecDepth 100000 in
theorem G_FiguresOf_2_ok : SpecOK Tryd.prog 70 true (pureT y159 y160) := by
  refine pureT_ok (sp := (sp_59 sp0)) (fn := Tryd.f70) (body := bodyOf Tryd.f70) mixed (sp_59_ok sp0_ok) Tryd.func70 (by kernel_rfl) (by kernel_rfl) fun ls t h ho b hb => ?_
  unfold y160 at h
  split at h
  · rename_i u18 u19 u20 u21 u22 u23
    cases h
    obtain rfl := bld_eq hb
    exact ⟨Nat.le_of_ble_eq_true (by kernel_rfl), _, _, G_FiguresOf_2_vc u18 u19 u20 u21 u22 u23 _ (ok_some ho)⟩
  · cases h
theorem sp_70_ok {sp : Specs} (h : SpecsOK Tryd.prog sp) : SpecsOK Tryd.prog (sp_70 sp) := addK_ok G_FiguresOf_2_ok h
def y161 : List SV := [.c (.p [.p [.d, .r (.floats .f32 []), .d, .d, .r (.recs 2 []), .r (.recs 2 [])]]), .c (.p [.d])]
def y19 (u18 : Int) (u19 : List Nat) (u20 : Int) (u21 : Int) (u22 : List (List Int)) (u23 : List (List Int)) (v1_ : Int) : Option (Int × Int × Int) :=
  Option.bind (y29 u18 u19 u20 u21 u22 u23 v1_) fun r0 =>
  some (r0.1, r0.2.1, r0.2.2)
def y162 : List Lf → Option GT
  | [.d (.i .i64 u18), .r (.floats .f32 u19), .d (.i .i64 u20), .d (.i .i64 u21), .r (.recs 2 u22), .r (.recs 2 u23), .d (.i .i64 v1_)] => some (.leaf (ok (y19 u18 u19 u20 u21 u22 u23 v1_)) [.s [.d (.i .i64 ((val (y19 u18 u19 u20 u21 u22 u23 v1_)).1)), .d (.i .i64 ((val (y19 u18 u19 u20 u21 u22 u23 v1_)).2.1))], .c (.d (.i .i64 ((val (y19 u18 u19 u20 u21 u22 u23 v1_)).2.2)))])
  | _ => none
abbrev sp_71 : Specs → Specs := addK 71 true (pureT y161 y162)
set_option maxRecDepth 100000 in
def G_FiguresOf_3_t (u18 : Int) (u19 : List Nat) (u20 : Int) (u21 : Int) (u22 : List (List Int)) (u23 : List (List Int)) (v1_ : Int) : T (Int × Int × Int) :=
 .obT
  (.obT
  (.call (y29 u18 u19 u20 u21 u22 u23 v1_) fun r0 =>
  .obT
  (.obT
  (.rc ((r0.1, r0.2.1, r0.2.2))))))
set_option maxRecDepth 100000 in
theorem G_FiguresOf_3_vc (u18 : Int) (u19 : List Nat) (u20 : Int) (u21 : Int) (u22 : List (List Int)) (u23 : List (List Int)) (v1_ : Int) (r : Int × Int × Int) (h : Option.bind (y19 u18 u19 u20 u21 u22 u23 v1_) some = some r) : runT Tryd.f71 ((sp_57 sp0)) (fun _ _ _ => none) (bldD y161 [.d (.i .i64 u18), .r (.floats .f32 u19), .d (.i .i64 u20), .d (.i .i64 u21), .r (.recs 2 u22), .r (.recs 2 u23), .d (.i .i64 v1_)]) [.s [.d (.i .i64 r.1), .d (.i .i64 r.2.1)], .c (.d (.i .i64 r.2.2))] :=
  T.vc (t := G_FiguresOf_3_t u18 u19 u20 u21 u22 u23 v1_) (by kernel_rfl) (by kernel_rfl) h
set_option maxRecDepth 100000 in
theorem G_FiguresOf_3_ok : SpecOK Tryd.prog 71 true (pureT y161 y162) := by
  refine pureT_ok (sp := (sp_57 sp0)) (fn := Tryd.f71) (body := bodyOf Tryd.f71) mixed (sp_57_ok sp0_ok) Tryd.func71 (by kernel_rfl) (by kernel_rfl) fun ls t h ho b hb => ?_
  unfold y162 at h
  split at h
  · rename_i u18 u19 u20 u21 u22 u23 v1_
    cases h
    obtain rfl := bld_eq hb
    exact ⟨Nat.le_of_ble_eq_true (by kernel_rfl), _, _, G_FiguresOf_3_vc u18 u19 u20 u21 u22 u23 v1_ _ (ok_some ho)⟩
  · cases h
theorem sp_71_ok {sp : Specs} (h : SpecsOK Tryd.prog sp) : SpecsOK Tryd.prog (sp_71 sp) := addK_ok G_FiguresOf_3_ok h
def k_G_FiguresOf : List SV := [.a [.d, .r (.floats .f32 []), .d, .d]]
def y18 (u4 : Int) (u5 : List Nat) (u0 : Int) (u6 : Int) : Option (Bool × Bool × Bool × Bool × Bool × Bool × Int × Int × Int × Int × Int × Int × Int × Int × Int × Int × Int × Int × Int) :=
  if ((val (G_open u4 u5 u0 u6)).1 != (0 : Int)) = true then
   Option.bind (G_open u4 u5 u0 u6) fun r0 =>
   if (r0.1 != (0 : Int)) = true then
    some ((false, false, false, false, false, false, 0, 0, 0, 0, 0, 0, 0, 0, 0, 0, 0, 0, r0.1))
   else
    none   else
   Option.bind (G_open u4 u5 u0 u6) fun r0 =>
   Option.bind (y19 u4 u5 u0 u6 r0.2.1 r0.2.2 (0 : Int)) fun r1 =>
   if (r1.2.2 == (0 : Int)) = true then
    Option.bind (y19 u4 u5 u0 u6 r0.2.1 r0.2.2 (1 : Int)) fun r2 =>
    if (r2.2.2 == (0 : Int)) = true then
     Option.bind (y19 u4 u5 u0 u6 r0.2.1 r0.2.2 (2 : Int)) fun r3 =>
     if (r3.2.2 == (0 : Int)) = true then
      Option.bind (y17 u4 u5 u0 u6 r0.2.1 r0.2.2) fun r4 =>
      if (r4.2.2 == (0 : Int)) = true then
       Option.bind (y5 u4 u5 u0 u6 r0.2.1 r0.2.2) fun r5 =>
       if (r5.2.2 == (0 : Int)) = true then
        Option.bind (y2 u4 u5 u0 u6 r0.2.1 r0.2.2) fun r6 =>
        if (r6.2.2 == (0 : Int)) = true then
         some ((true, true, true, true, true, true, r1.1, r1.2.1, r2.1, r2.2.1, r3.1, r3.2.1, r4.1, r4.2.1, r5.1, r5.2.1, r6.1, r6.2.1, (0 : Int)))
        else
         some ((true, true, true, true, true, false, r1.1, r1.2.1, r2.1, r2.2.1, r3.1, r3.2.1, r4.1, r4.2.1, r5.1, r5.2.1, 0, 0, 0))
       else
        Option.bind (y2 u4 u5 u0 u6 r0.2.1 r0.2.2) fun r6 =>
        if (r6.2.2 == (0 : Int)) = true then
         some ((true, true, true, true, false, true, r1.1, r1.2.1, r2.1, r2.2.1, r3.1, r3.2.1, r4.1, r4.2.1, 0, 0, r6.1, r6.2.1, 0))
        else
         some ((true, true, true, true, false, false, r1.1, r1.2.1, r2.1, r2.2.1, r3.1, r3.2.1, r4.1, r4.2.1, 0, 0, 0, 0, 0))
      else
       Option.bind (y5 u4 u5 u0 u6 r0.2.1 r0.2.2) fun r5 =>
       if (r5.2.2 == (0 : Int)) = true then
        Option.bind (y2 u4 u5 u0 u6 r0.2.1 r0.2.2) fun r6 =>
        if (r6.2.2 == (0 : Int)) = true then
         some ((true, true, true, false, true, true, r1.1, r1.2.1, r2.1, r2.2.1, r3.1, r3.2.1, 0, 0, r5.1, r5.2.1, r6.1, r6.2.1, 0))
        else
         some ((true, true, true, false, true, false, r1.1, r1.2.1, r2.1, r2.2.1, r3.1, r3.2.1, 0, 0, r5.1, r5.2.1, 0, 0, 0))
       else
        Option.bind (y2 u4 u5 u0 u6 r0.2.1 r0.2.2) fun r6 =>
        if (r6.2.2 == (0 : Int)) = true then
         some ((true, true, true, false, false, true, r1.1, r1.2.1, r2.1, r2.2.1, r3.1, r3.2.1, 0, 0, 0, 0, r6.1, r6.2.1, 0))
        else
         some ((true, true, true, false, false, false, r1.1, r1.2.1, r2.1, r2.2.1, r3.1, r3.2.1, 0, 0, 0, 0, 0, 0, 0))
     else
      Option.bind (y17 u4 u5 u0 u6 r0.2.1 r0.2.2) fun r4 =>
      if (r4.2.2 == (0 : Int)) = true then
       Option.bind (y5 u4 u5 u0 u6 r0.2.1 r0.2.2) fun r5 =>
       if (r5.2.2 == (0 : Int)) = true then
        Option.bind (y2 u4 u5 u0 u6 r0.2.1 r0.2.2) fun r6 =>
        if (r6.2.2 == (0 : Int)) = true then
         some ((true, true, false, true, true, true, r1.1, r1.2.1, r2.1, r2.2.1, 0, 0, r4.1, r4.2.1, r5.1, r5.2.1, r6.1, r6.2.1, 0))
        else
         some ((true, true, false, true, true, false, r1.1, r1.2.1, r2.1, r2.2.1, 0, 0, r4.1, r4.2.1, r5.1, r5.2.1, 0, 0, 0))
       else
        Option.bind (y2 u4 u5 u0 u6 r0.2.1 r0.2.2) fun r6 =>
        if (r6.2.2 == (0 : Int)) = true then
         some ((true, true, false, true, false, true, r1.1, r1.2.1, r2.1, r2.2.1, 0, 0, r4.1, r4.2.1, 0, 0, r6.1, r6.2.1, 0))
        else
         some ((true, true, false, true, false, false, r1.1, r1.2.1, r2.1, r2.2.1, 0, 0, r4.1, r4.2.1, 0, 0, 0, 0, 0))
      else
       Option.bind (y5 u4 u5 u0 u6 r0.2.1 r0.2.2) fun r5 =>
       if (r5.2.2 == (0 : Int)) = true then
        Option.bind (y2 u4 u5 u0 u6 r0.2.1 r0.2.2) fun r6 =>
        if (r6.2.2 == (0 : Int)) = true then
         some ((true, true, false, false, true, true, r1.1, r1.2.1, r2.1, r2.2.1, 0, 0, 0, 0, r5.1, r5.2.1, r6.1, r6.2.1, 0))
        else
         some ((true, true, false, false, true, false, r1.1, r1.2.1, r2.1, r2.2.1, 0, 0, 0, 0, r5.1, r5.2.1, 0, 0, 0))
       else
        Option.bind (y2 u4 u5 u0 u6 r0.2.1 r0.2.2) fun r6 =>
        if (r6.2.2 == (0 : Int)) = true then
         some ((true, true, false, false, false, true, r1.1, r1.2.1, r2.1, r2.2.1, 0, 0, 0, 0, 0, 0, r6.1, r6.2.1, 0))
        else
         some ((true, true, false, false, false, false, r1.1, r1.2.1, r2.1, r2.2.1, 0, 0, 0, 0, 0, 0, 0, 0, 0))
    else
     Option.bind (y19 u4 u5 u0 u6 r0.2.1 r0.2.2 (2 : Int)) fun r3 =>
     if (r3.2.2 == (0 : Int)) = true then
      Option.bind (y17 u4 u5 u0 u6 r0.2.1 r0.2.2) fun r4 =>
      if (r4.2.2 == (0 : Int)) = true then
       Option.bind (y5 u4 u5 u0 u6 r0.2.1 r0.2.2) fun r5 =>
       if (r5.2.2 == (0 : Int)) = true then
        Option.bind (y2 u4 u5 u0 u6 r0.2.1 r0.2.2) fun r6 =>
        if (r6.2.2 == (0 : Int)) = true then
         some ((true, false, true, true, true, true, r1.1, r1.2.1, 0, 0, r3.1, r3.2.1, r4.1, r4.2.1, r5.1, r5.2.1, r6.1, r6.2.1, 0))
        else
         some ((true, false, true, true, true, false, r1.1, r1.2.1, 0, 0, r3.1, r3.2.1, r4.1, r4.2.1, r5.1, r5.2.1, 0, 0, 0))
       else
        Option.bind (y2 u4 u5 u0 u6 r0.2.1 r0.2.2) fun r6 =>
        if (r6.2.2 == (0 : Int)) = true then
         some ((true, false, true, true, false, true, r1.1, r1.2.1, 0, 0, r3.1, r3.2.1, r4.1, r4.2.1, 0, 0, r6.1, r6.2.1, 0))
        else
         some ((true, false, true, true, false, false, r1.1, r1.2.1, 0, 0, r3.1, r3.2.1, r4.1, r4.2.1, 0, 0, 0, 0, 0))
      else
       Option.bind (y5 u4 u5 u0 u6 r0.2.1 r0.2.2) fun r5 =>
       if (r5.2.2 == (0 : Int)) = true then
        Option.bind (y2 u4 u5 u0 u6 r0.2.1 r0.2.2) fun r6 =>
        if (r6.2.2 == (0 : Int)) = true then
         some ((true, false, true, false, true, true, r1.1, r1.2.1, 0, 0, r3.1, r3.2.1, 0, 0, r5.1, r5.2.1, r6.1, r6.2.1, 0))
        else
         some ((true, false, true, false, true, false, r1.1, r1.2.1, 0, 0, r3.1, r3.2.1, 0, 0, r5.1, r5.2.1, 0, 0, 0))
       else
        Option.bind (y2 u4 u5 u0 u6 r0.2.1 r0.2.2) fun r6 =>
        if (r6.2.2 == (0 : Int)) = true then
         some ((true, false, true, false, false, true, r1.1, r1.2.1, 0, 0, r3.1, r3.2.1, 0, 0, 0, 0, r6.1, r6.2.1, 0))
        else
         some ((true, false, true, false, false, false, r1.1, r1.2.1, 0, 0, r3.1, r3.2.1, 0, 0, 0, 0, 0, 0, 0))
     else
      Option.bind (y17 u4 u5 u0 u6 r0.2.1 r0.2.2) fun r4 =>
      if (r4.2.2 == (0 : Int)) = true then
       Option.bind (y5 u4 u5 u0 u6 r0.2.1 r0.2.2) fun r5 =>
       if (r5.2.2 == (0 : Int)) = true then
        Option.bind (y2 u4 u5 u0 u6 r0.2.1 r0.2.2) fun r6 =>
        if (r6.2.2 == (0 : Int)) = true then
         some ((true, false, false, true, true, true, r1.1, r1.2.1, 0, 0, 0, 0, r4.1, r4.2.1, r5.1, r5.2.1, r6.1, r6.2.1, 0))
        else
         some ((true, false, false, true, true, false, r1.1, r1.2.1, 0, 0, 0, 0, r4.1, r4.2.1, r5.1, r5.2.1, 0, 0, 0))
       else
        Option.bind (y2 u4 u5 u0 u6 r0.2.1 r0.2.2) fun r6 =>
        if (r6.2.2 == (0 : Int)) = true then
         some ((true, false, false, true, false, true, r1.1, r1.2.1, 0, 0, 0, 0, r4.1, r4.2.1, 0, 0, r6.1, r6.2.1, 0))
        else
         some ((true, false, false, true, false, false, r1.1, r1.2.1, 0, 0, 0, 0, r4.1, r4.2.1, 0, 0, 0, 0, 0))
      else
       Option.bind (y5 u4 u5 u0 u6 r0.2.1 r0.2.2) fun r5 =>
       if (r5.2.2 == (0 : Int)) = true then
        Option.bind (y2 u4 u5 u0 u6 r0.2.1 r0.2.2) fun r6 =>
        if (r6.2.2 == (0 : Int)) = true then
         some ((true, false, false, false, true, true, r1.1, r1.2.1, 0, 0, 0, 0, 0, 0, r5.1, r5.2.1, r6.1, r6.2.1, 0))
        else
         some ((true, false, false, false, true, false, r1.1, r1.2.1, 0, 0, 0, 0, 0, 0, r5.1, r5.2.1, 0, 0, 0))
       else
        Option.bind (y2 u4 u5 u0 u6 r0.2.1 r0.2.2) fun r6 =>
        if (r6.2.2 == (0 : Int)) = true then
         some ((true, false, false, false, false, true, r1.1, r1.2.1, 0, 0, 0, 0, 0, 0, 0, 0, r6.1, r6.2.1, 0))
        else
         some ((true, false, false, false, false, false, r1.1, r1.2.1, 0, 0, 0, 0, 0, 0, 0, 0, 0, 0, 0))
   else
    Option.bind (y19 u4 u5 u0 u6 r0.2.1 r0.2.2 (1 : Int)) fun r2 =>
    if (r2.2.2 == (0 : Int)) = true then
     Option.bind (y19 u4 u5 u0 u6 r0.2.1 r0.2.2 (2 : Int)) fun r3 =>
     if (r3.2.2 == (0 : Int)) = true then
      Option.bind (y17 u4 u5 u0 u6 r0.2.1 r0.2.2) fun r4 =>
      if (r4.2.2 == (0 : Int)) = true then
       Option.bind (y5 u4 u5 u0 u6 r0.2.1 r0.2.2) fun r5 =>
       if (r5.2.2 == (0 : Int)) = true then
        Option.bind (y2 u4 u5 u0 u6 r0.2.1 r0.2.2) fun r6 =>
        if (r6.2.2 == (0 : Int)) = true then
         some ((false, true, true, true, true, true, 0, 0, r2.1, r2.2.1, r3.1, r3.2.1, r4.1, r4.2.1, r5.1, r5.2.1, r6.1, r6.2.1, 0))
        else
         some ((false, true, true, true, true, false, 0, 0, r2.1, r2.2.1, r3.1, r3.2.1, r4.1, r4.2.1, r5.1, r5.2.1, 0, 0, 0))
       else
        Option.bind (y2 u4 u5 u0 u6 r0.2.1 r0.2.2) fun r6 =>
        if (r6.2.2 == (0 : Int)) = true then
         some ((false, true, true, true, false, true, 0, 0, r2.1, r2.2.1, r3.1, r3.2.1, r4.1, r4.2.1, 0, 0, r6.1, r6.2.1, 0))
        else
         some ((false, true, true, true, false, false, 0, 0, r2.1, r2.2.1, r3.1, r3.2.1, r4.1, r4.2.1, 0, 0, 0, 0, 0))
      else
       Option.bind (y5 u4 u5 u0 u6 r0.2.1 r0.2.2) fun r5 =>
       if (r5.2.2 == (0 : Int)) = true then
        Option.bind (y2 u4 u5 u0 u6 r0.2.1 r0.2.2) fun r6 =>
        if (r6.2.2 == (0 : Int)) = true then
         some ((false, true, true, false, true, true, 0, 0, r2.1, r2.2.1, r3.1, r3.2.1, 0, 0, r5.1, r5.2.1, r6.1, r6.2.1, 0))
        else
         some ((false, true, true, false, true, false, 0, 0, r2.1, r2.2.1, r3.1, r3.2.1, 0, 0, r5.1, r5.2.1, 0, 0, 0))
       else
        Option.bind (y2 u4 u5 u0 u6 r0.2.1 r0.2.2) fun r6 =>
        if (r6.2.2 == (0 : Int)) = true then
         some ((false, true, true, false, false, true, 0, 0, r2.1, r2.2.1, r3.1, r3.2.1, 0, 0, 0, 0, r6.1, r6.2.1, 0))
        else
         some ((false, true, true, false, false, false, 0, 0, r2.1, r2.2.1, r3.1, r3.2.1, 0, 0, 0, 0, 0, 0, 0))
     else
      Option.bind (y17 u4 u5 u0 u6 r0.2.1 r0.2.2) fun r4 =>
      if (r4.2.2 == (0 : Int)) = true then
       Option.bind (y5 u4 u5 u0 u6 r0.2.1 r0.2.2) fun r5 =>
       if (r5.2.2 == (0 : Int)) = true then
        Option.bind (y2 u4 u5 u0 u6 r0.2.1 r0.2.2) fun r6 =>
        if (r6.2.2 == (0 : Int)) = true then
         some ((false, true, false, true, true, true, 0, 0, r2.1, r2.2.1, 0, 0, r4.1, r4.2.1, r5.1, r5.2.1, r6.1, r6.2.1, 0))
        else
         some ((false, true, false, true, true, false, 0, 0, r2.1, r2.2.1, 0, 0, r4.1, r4.2.1, r5.1, r5.2.1, 0, 0, 0))
       else
        Option.bind (y2 u4 u5 u0 u6 r0.2.1 r0.2.2) fun r6 =>
        if (r6.2.2 == (0 : Int)) = true then
         some ((false, true, false, true, false, true, 0, 0, r2.1, r2.2.1, 0, 0, r4.1, r4.2.1, 0, 0, r6.1, r6.2.1, 0))
        else
         some ((false, true, false, true, false, false, 0, 0, r2.1, r2.2.1, 0, 0, r4.1, r4.2.1, 0, 0, 0, 0, 0))
      else
       Option.bind (y5 u4 u5 u0 u6 r0.2.1 r0.2.2) fun r5 =>
       if (r5.2.2 == (0 : Int)) = true then
        Option.bind (y2 u4 u5 u0 u6 r0.2.1 r0.2.2) fun r6 =>
        if (r6.2.2 == (0 : Int)) = true then
         some ((false, true, false, false, true, true, 0, 0, r2.1, r2.2.1, 0, 0, 0, 0, r5.1, r5.2.1, r6.1, r6.2.1, 0))
        else
         some ((false, true, false, false, true, false, 0, 0, r2.1, r2.2.1, 0, 0, 0, 0, r5.1, r5.2.1, 0, 0, 0))
       else
        Option.bind (y2 u4 u5 u0 u6 r0.2.1 r0.2.2) fun r6 =>
        if (r6.2.2 == (0 : Int)) = true then
         some ((false, true, false, false, false, true, 0, 0, r2.1, r2.2.1, 0, 0, 0, 0, 0, 0, r6.1, r6.2.1, 0))
        else
         some ((false, true, false, false, false, false, 0, 0, r2.1, r2.2.1, 0, 0, 0, 0, 0, 0, 0, 0, 0))
    else
     Option.bind (y19 u4 u5 u0 u6 r0.2.1 r0.2.2 (2 : Int)) fun r3 =>
     if (r3.2.2 == (0 : Int)) = true then
      Option.bind (y17 u4 u5 u0 u6 r0.2.1 r0.2.2) fun r4 =>
      if (r4.2.2 == (0 : Int)) = true then
       Option.bind (y5 u4 u5 u0 u6 r0.2.1 r0.2.2) fun r5 =>
       if (r5.2.2 == (0 : Int)) = true then
        Option.bind (y2 u4 u5 u0 u6 r0.2.1 r0.2.2) fun r6 =>
        if (r6.2.2 == (0 : Int)) = true then
         some ((false, false, true, true, true, true, 0, 0, 0, 0, r3.1, r3.2.1, r4.1, r4.2.1, r5.1, r5.2.1, r6.1, r6.2.1, 0))
        else
         some ((false, false, true, true, true, false, 0, 0, 0, 0, r3.1, r3.2.1, r4.1, r4.2.1, r5.1, r5.2.1, 0, 0, 0))
       else
        Option.bind (y2 u4 u5 u0 u6 r0.2.1 r0.2.2) fun r6 =>
        if (r6.2.2 == (0 : Int)) = true then
         some ((false, false, true, true, false, true, 0, 0, 0, 0, r3.1, r3.2.1, r4.1, r4.2.1, 0, 0, r6.1, r6.2.1, 0))
        else
         some ((false, false, true, true, false, false, 0, 0, 0, 0, r3.1, r3.2.1, r4.1, r4.2.1, 0, 0, 0, 0, 0))
      else
       Option.bind (y5 u4 u5 u0 u6 r0.2.1 r0.2.2) fun r5 =>
       if (r5.2.2 == (0 : Int)) = true then
        Option.bind (y2 u4 u5 u0 u6 r0.2.1 r0.2.2) fun r6 =>
        if (r6.2.2 == (0 : Int)) = true then
         some ((false, false, true, false, true, true, 0, 0, 0, 0, r3.1, r3.2.1, 0, 0, r5.1, r5.2.1, r6.1, r6.2.1, 0))
        else
         some ((false, false, true, false, true, false, 0, 0, 0, 0, r3.1, r3.2.1, 0, 0, r5.1, r5.2.1, 0, 0, 0))
       else
        Option.bind (y2 u4 u5 u0 u6 r0.2.1 r0.2.2) fun r6 =>
        if (r6.2.2 == (0 : Int)) = true then
         some ((false, false, true, false, false, true, 0, 0, 0, 0, r3.1, r3.2.1, 0, 0, 0, 0, r6.1, r6.2.1, 0))
        else
         some ((false, false, true, false, false, false, 0, 0, 0, 0, r3.1, r3.2.1, 0, 0, 0, 0, 0, 0, 0))
     else
      Option.bind (y17 u4 u5 u0 u6 r0.2.1 r0.2.2) fun r4 =>
      if (r4.2.2 == (0 : Int)) = true then
       Option.bind (y5 u4 u5 u0 u6 r0.2.1 r0.2.2) fun r5 =>
       if (r5.2.2 == (0 : Int)) = true then
        Option.bind (y2 u4 u5 u0 u6 r0.2.1 r0.2.2) fun r6 =>
        if (r6.2.2 == (0 : Int)) = true then
         some ((false, false, false, true, true, true, 0, 0, 0, 0, 0, 0, r4.1, r4.2.1, r5.1, r5.2.1, r6.1, r6.2.1, 0))
        else
         some ((false, false, false, true, true, false, 0, 0, 0, 0, 0, 0, r4.1, r4.2.1, r5.1, r5.2.1, 0, 0, 0))
       else
        Option.bind (y2 u4 u5 u0 u6 r0.2.1 r0.2.2) fun r6 =>
        if (r6.2.2 == (0 : Int)) = true then
         some ((false, false, false, true, false, true, 0, 0, 0, 0, 0, 0, r4.1, r4.2.1, 0, 0, r6.1, r6.2.1, 0))
        else
         some ((false, false, false, true, false, false, 0, 0, 0, 0, 0, 0, r4.1, r4.2.1, 0, 0, 0, 0, 0))
      else
       Option.bind (y5 u4 u5 u0 u6 r0.2.1 r0.2.2) fun r5 =>
       if (r5.2.2 == (0 : Int)) = true then
        Option.bind (y2 u4 u5 u0 u6 r0.2.1 r0.2.2) fun r6 =>
        if (r6.2.2 == (0 : Int)) = true then
         some ((false, false, false, false, true, true, 0, 0, 0, 0, 0, 0, 0, 0, r5.1, r5.2.1, r6.1, r6.2.1, 0))
        else
         some ((false, false, false, false, true, false, 0, 0, 0, 0, 0, 0, 0, 0, r5.1, r5.2.1, 0, 0, 0))
       else
        Option.bind (y2 u4 u5 u0 u6 r0.2.1 r0.2.2) fun r6 =>
        if (r6.2.2 == (0 : Int)) = true then
         some ((false, false, false, false, false, true, 0, 0, 0, 0, 0, 0, 0, 0, 0, 0, r6.1, r6.2.1, 0))
        else
         some ((false, false, false, false, false, false, 0, 0, 0, 0, 0, 0, 0, 0, 0, 0, 0, 0, 0))
def g_G_FiguresOf : List Lf → Option GT
  | [.d (.i .i64 u4), .r (.floats .f32 u5), .d (.i .i64 u0), .d (.i .i64 u6)] => some (.leaf (ok (y18 u4 u5 u0 u6)) [.s [.d (.b ((val (y18 u4 u5 u0 u6)).1)), .d (.b ((val (y18 u4 u5 u0 u6)).2.1)), .d (.b ((val (y18 u4 u5 u0 u6)).2.2.1)), .d (.b ((val (y18 u4 u5 u0 u6)).2.2.2.1)), .d (.b ((val (y18 u4 u5 u0 u6)).2.2.2.2.1)), .d (.b ((val (y18 u4 u5 u0 u6)).2.2.2.2.2.1)), .d (.i .i64 ((val (y18 u4 u5 u0 u6)).2.2.2.2.2.2.1)), .d (.i .i64 ((val (y18 u4 u5 u0 u6)).2.2.2.2.2.2.2.1)), .d (.i .i64 ((val (y18 u4 u5 u0 u6)).2.2.2.2.2.2.2.2.1)), .d (.i .i64 ((val (y18 u4 u5 u0 u6)).2.2.2.2.2.2.2.2.2.1)), .d (.i .i64 ((val (y18 u4 u5 u0 u6)).2.2.2.2.2.2.2.2.2.2.1)), .d (.i .i64 ((val (y18 u4 u5 u0 u6)).2.2.2.2.2.2.2.2.2.2.2.1)), .d (.i .i64 ((val (y18 u4 u5 u0 u6)).2.2.2.2.2.2.2.2.2.2.2.2.1)), .d (.i .i64 ((val (y18 u4 u5 u0 u6)).2.2.2.2.2.2.2.2.2.2.2.2.2.1)), .d (.i .i64 ((val (y18 u4 u5 u0 u6)).2.2.2.2.2.2.2.2.2.2.2.2.2.2.1)), .d (.i .i64 ((val (y18 u4 u5 u0 u6)).2.2.2.2.2.2.2.2.2.2.2.2.2.2.2.1)), .d (.i .i64 ((val (y18 u4 u5 u0 u6)).2.2.2.2.2.2.2.2.2.2.2.2.2.2.2.2.1)), .d (.i .i64 ((val (y18 u4 u5 u0 u6)).2.2.2.2.2.2.2.2.2.2.2.2.2.2.2.2.2.1))], .c (.d (.i .i64 ((val (y18 u4 u5 u0 u6)).2.2.2.2.2.2.2.2.2.2.2.2.2.2.2.2.2.2)))])
  | _ => none
abbrev sp_37 : Specs → Specs := addK 37 true (pureT k_G_FiguresOf g_G_FiguresOf)
set_option maxRecDepth 100000 in
def G_FiguresOf_t (u4 : Int) (u5 : List Nat) (u0 : Int) (u6 : Int) : T (Bool × Bool × Bool × Bool × Bool × Bool × Int × Int × Int × Int × Int × Int × Int × Int × Int × Int × Int × Int × Int) :=
 .brB ((val (G_open u4 u5 u0 u6)).1 != (0 : Int))
  (.call (G_open u4 u5 u0 u6) fun r0 =>
  .brB (r0.1 != (0 : Int))
  (.obT
  (.obT
  (.rc (((false, false, false, false, false, false, 0, 0, 0, 0, 0, 0, 0, 0, 0, 0, 0, 0, r0.1))))))
  (.bad (fun r => False)))
  (.call (G_open u4 u5 u0 u6) fun r0 =>
  .obT
  (.obC (((0 : Int) ≤ (0 : Int) ∧ (0 : Int) < (3 : Int)) ∧ true = true) (by decide)
  (.obC _ zcD80
  (.obT
  (.obC (((0 : Int) ≤ (1 : Int) ∧ (1 : Int) < (3 : Int)) ∧ true = true) (by decide)
  (.obC _ zcD81
  (.obT
  (.obC (((0 : Int) ≤ (2 : Int) ∧ (2 : Int) < (3 : Int)) ∧ true = true) (by decide)
  (.obC _ zcD82
  (.obT
  (.obC _ zcD80
  (.call (y19 u4 u5 u0 u6 r0.2.1 r0.2.2 (0 : Int)) fun r1 =>
  .brB (r1.2.2 == (0 : Int))
  (.obC _ zcD80
  (.obC _ zcD83
  (.obC _ zcD80
  (.obC _ zcD84
  (.obC _ zcD81
  (.call (y19 u4 u5 u0 u6 r0.2.1 r0.2.2 (1 : Int)) fun r2 =>
  .brB (r2.2.2 == (0 : Int))
  (.obC _ zcD81
  (.obC _ zcD83
  (.obC _ zcD81
  (.obC _ zcD84
  (.obC _ zcD82
  (.call (y19 u4 u5 u0 u6 r0.2.1 r0.2.2 (2 : Int)) fun r3 =>
  .brB (r3.2.2 == (0 : Int))
  (.obC _ zcD82
  (.obC _ zcD83
  (.obC _ zcD82
  (.obC _ zcD84
  (.obC _ zcD85
  (.call (y17 u4 u5 u0 u6 r0.2.1 r0.2.2) fun r4 =>
  .brB (r4.2.2 == (0 : Int))
  (.obC _ zcD85
  (.obC _ zcD83
  (.obC _ zcD85
  (.obC _ zcD84
  (.obC _ zcD86
  (.call (y5 u4 u5 u0 u6 r0.2.1 r0.2.2) fun r5 =>
  .brB (r5.2.2 == (0 : Int))
  (.obC _ zcD86
  (.obC _ zcD83
  (.obC _ zcD86
  (.obC _ zcD84
  (.obC _ zcD87
  (.call (y2 u4 u5 u0 u6 r0.2.1 r0.2.2) fun r6 =>
  .brB (r6.2.2 == (0 : Int))
  (.obC _ zcD87
  (.obC _ zcD83
  (.obC _ zcD87
  (.obC _ zcD84
  (.obT
  (.obT
  (.rc (((true, true, true, true, true, true, r1.1, r1.2.1, r2.1, r2.2.1, r3.1, r3.2.1, r4.1, r4.2.1, r5.1, r5.2.1, r6.1, r6.2.1, (0 : Int)))))))))))
  (.obT
  (.obT
  (.rc (((true, true, true, true, true, false, r1.1, r1.2.1, r2.1, r2.2.1, r3.1, r3.2.1, r4.1, r4.2.1, r5.1, r5.2.1, 0, 0, 0))))))))))))
  (.obC _ zcD87
  (.call (y2 u4 u5 u0 u6 r0.2.1 r0.2.2) fun r6 =>
  .brB (r6.2.2 == (0 : Int))
  (.obC _ zcD87
  (.obC _ zcD83
  (.obC _ zcD87
  (.obC _ zcD84
  (.obT
  (.obT
  (.rc (((true, true, true, true, false, true, r1.1, r1.2.1, r2.1, r2.2.1, r3.1, r3.2.1, r4.1, r4.2.1, 0, 0, r6.1, r6.2.1, 0))))))))))
  (.obT
  (.obT
  (.rc (((true, true, true, true, false, false, r1.1, r1.2.1, r2.1, r2.2.1, r3.1, r3.2.1, r4.1, r4.2.1, 0, 0, 0, 0, 0))))))))))))))
  (.obC _ zcD86
  (.call (y5 u4 u5 u0 u6 r0.2.1 r0.2.2) fun r5 =>
  .brB (r5.2.2 == (0 : Int))
  (.obC _ zcD86
  (.obC _ zcD83
  (.obC _ zcD86
  (.obC _ zcD84
  (.obC _ zcD87
  (.call (y2 u4 u5 u0 u6 r0.2.1 r0.2.2) fun r6 =>
  .brB (r6.2.2 == (0 : Int))
  (.obC _ zcD87
  (.obC _ zcD83
  (.obC _ zcD87
  (.obC _ zcD84
  (.obT
  (.obT
  (.rc (((true, true, true, false, true, true, r1.1, r1.2.1, r2.1, r2.2.1, r3.1, r3.2.1, 0, 0, r5.1, r5.2.1, r6.1, r6.2.1, 0))))))))))
  (.obT
  (.obT
  (.rc (((true, true, true, false, true, false, r1.1, r1.2.1, r2.1, r2.2.1, r3.1, r3.2.1, 0, 0, r5.1, r5.2.1, 0, 0, 0))))))))))))
  (.obC _ zcD87
  (.call (y2 u4 u5 u0 u6 r0.2.1 r0.2.2) fun r6 =>
  .brB (r6.2.2 == (0 : Int))
  (.obC _ zcD87
  (.obC _ zcD83
  (.obC _ zcD87
  (.obC _ zcD84
  (.obT
  (.obT
  (.rc (((true, true, true, false, false, true, r1.1, r1.2.1, r2.1, r2.2.1, r3.1, r3.2.1, 0, 0, 0, 0, r6.1, r6.2.1, 0))))))))))
  (.obT
  (.obT
  (.rc (((true, true, true, false, false, false, r1.1, r1.2.1, r2.1, r2.2.1, r3.1, r3.2.1, 0, 0, 0, 0, 0, 0, 0))))))))))))))))
  (.obC _ zcD85
  (.call (y17 u4 u5 u0 u6 r0.2.1 r0.2.2) fun r4 =>
  .brB (r4.2.2 == (0 : Int))
  (.obC _ zcD85
  (.obC _ zcD83
  (.obC _ zcD85
  (.obC _ zcD84
  (.obC _ zcD86
  (.call (y5 u4 u5 u0 u6 r0.2.1 r0.2.2) fun r5 =>
  .brB (r5.2.2 == (0 : Int))
  (.obC _ zcD86
  (.obC _ zcD83
  (.obC _ zcD86
  (.obC _ zcD84
  (.obC _ zcD87
  (.call (y2 u4 u5 u0 u6 r0.2.1 r0.2.2) fun r6 =>
  .brB (r6.2.2 == (0 : Int))
  (.obC _ zcD87
  (.obC _ zcD83
  (.obC _ zcD87
  (.obC _ zcD84
  (.obT
  (.obT
  (.rc (((true, true, false, true, true, true, r1.1, r1.2.1, r2.1, r2.2.1, 0, 0, r4.1, r4.2.1, r5.1, r5.2.1, r6.1, r6.2.1, 0))))))))))
  (.obT
  (.obT
  (.rc (((true, true, false, true, true, false, r1.1, r1.2.1, r2.1, r2.2.1, 0, 0, r4.1, r4.2.1, r5.1, r5.2.1, 0, 0, 0))))))))))))
  (.obC _ zcD87
  (.call (y2 u4 u5 u0 u6 r0.2.1 r0.2.2) fun r6 =>
  .brB (r6.2.2 == (0 : Int))
  (.obC _ zcD87
  (.obC _ zcD83
  (.obC _ zcD87
  (.obC _ zcD84
  (.obT
  (.obT
  (.rc (((true, true, false, true, false, true, r1.1, r1.2.1, r2.1, r2.2.1, 0, 0, r4.1, r4.2.1, 0, 0, r6.1, r6.2.1, 0))))))))))
  (.obT
  (.obT
  (.rc (((true, true, false, true, false, false, r1.1, r1.2.1, r2.1, r2.2.1, 0, 0, r4.1, r4.2.1, 0, 0, 0, 0, 0))))))))))))))
  (.obC _ zcD86
  (.call (y5 u4 u5 u0 u6 r0.2.1 r0.2.2) fun r5 =>
  .brB (r5.2.2 == (0 : Int))
  (.obC _ zcD86
  (.obC _ zcD83
  (.obC _ zcD86
  (.obC _ zcD84
  (.obC _ zcD87
  (.call (y2 u4 u5 u0 u6 r0.2.1 r0.2.2) fun r6 =>
  .brB (r6.2.2 == (0 : Int))
  (.obC _ zcD87
  (.obC _ zcD83
  (.obC _ zcD87
  (.obC _ zcD84
  (.obT
  (.obT
  (.rc (((true, true, false, false, true, true, r1.1, r1.2.1, r2.1, r2.2.1, 0, 0, 0, 0, r5.1, r5.2.1, r6.1, r6.2.1, 0))))))))))
  (.obT
  (.obT
  (.rc (((true, true, false, false, true, false, r1.1, r1.2.1, r2.1, r2.2.1, 0, 0, 0, 0, r5.1, r5.2.1, 0, 0, 0))))))))))))
  (.obC _ zcD87
  (.call (y2 u4 u5 u0 u6 r0.2.1 r0.2.2) fun r6 =>
  .brB (r6.2.2 == (0 : Int))
  (.obC _ zcD87
  (.obC _ zcD83
  (.obC _ zcD87
  (.obC _ zcD84
  (.obT
  (.obT
  (.rc (((true, true, false, false, false, true, r1.1, r1.2.1, r2.1, r2.2.1, 0, 0, 0, 0, 0, 0, r6.1, r6.2.1, 0))))))))))
  (.obT
  (.obT
  (.rc (((true, true, false, false, false, false, r1.1, r1.2.1, r2.1, r2.2.1, 0, 0, 0, 0, 0, 0, 0, 0, 0))))))))))))))))))
  (.obC _ zcD82
  (.call (y19 u4 u5 u0 u6 r0.2.1 r0.2.2 (2 : Int)) fun r3 =>
  .brB (r3.2.2 == (0 : Int))
  (.obC _ zcD82
  (.obC _ zcD83
  (.obC _ zcD82
  (.obC _ zcD84
  (.obC _ zcD85
  (.call (y17 u4 u5 u0 u6 r0.2.1 r0.2.2) fun r4 =>
  .brB (r4.2.2 == (0 : Int))
  (.obC _ zcD85
  (.obC _ zcD83
  (.obC _ zcD85
  (.obC _ zcD84
  (.obC _ zcD86
  (.call (y5 u4 u5 u0 u6 r0.2.1 r0.2.2) fun r5 =>
  .brB (r5.2.2 == (0 : Int))
  (.obC _ zcD86
  (.obC _ zcD83
  (.obC _ zcD86
  (.obC _ zcD84
  (.obC _ zcD87
  (.call (y2 u4 u5 u0 u6 r0.2.1 r0.2.2) fun r6 =>
  .brB (r6.2.2 == (0 : Int))
  (.obC _ zcD87
  (.obC _ zcD83
  (.obC _ zcD87
  (.obC _ zcD84
  (.obT
  (.obT
  (.rc (((true, false, true, true, true, true, r1.1, r1.2.1, 0, 0, r3.1, r3.2.1, r4.1, r4.2.1, r5.1, r5.2.1, r6.1, r6.2.1, 0))))))))))
  (.obT
  (.obT
  (.rc (((true, false, true, true, true, false, r1.1, r1.2.1, 0, 0, r3.1, r3.2.1, r4.1, r4.2.1, r5.1, r5.2.1, 0, 0, 0))))))))))))
  (.obC _ zcD87
  (.call (y2 u4 u5 u0 u6 r0.2.1 r0.2.2) fun r6 =>
  .brB (r6.2.2 == (0 : Int))
  (.obC _ zcD87
  (.obC _ zcD83
  (.obC _ zcD87
  (.obC _ zcD84
  (.obT
  (.obT
  (.rc (((true, false, true, true, false, true, r1.1, r1.2.1, 0, 0, r3.1, r3.2.1, r4.1, r4.2.1, 0, 0, r6.1, r6.2.1, 0))))))))))
  (.obT
  (.obT
  (.rc (((true, false, true, true, false, false, r1.1, r1.2.1, 0, 0, r3.1, r3.2.1, r4.1, r4.2.1, 0, 0, 0, 0, 0))))))))))))))
  (.obC _ zcD86
  (.call (y5 u4 u5 u0 u6 r0.2.1 r0.2.2) fun r5 =>
  .brB (r5.2.2 == (0 : Int))
  (.obC _ zcD86
  (.obC _ zcD83
  (.obC _ zcD86
  (.obC _ zcD84
  (.obC _ zcD87
  (.call (y2 u4 u5 u0 u6 r0.2.1 r0.2.2) fun r6 =>
  .brB (r6.2.2 == (0 : Int))
  (.obC _ zcD87
  (.obC _ zcD83
  (.obC _ zcD87
  (.obC _ zcD84
  (.obT
  (.obT
  (.rc (((true, false, true, false, true, true, r1.1, r1.2.1, 0, 0, r3.1, r3.2.1, 0, 0, r5.1, r5.2.1, r6.1, r6.2.1, 0))))))))))
  (.obT
  (.obT
  (.rc (((true, false, true, false, true, false, r1.1, r1.2.1, 0, 0, r3.1, r3.2.1, 0, 0, r5.1, r5.2.1, 0, 0, 0))))))))))))
  (.obC _ zcD87
  (.call (y2 u4 u5 u0 u6 r0.2.1 r0.2.2) fun r6 =>
  .brB (r6.2.2 == (0 : Int))
  (.obC _ zcD87
  (.obC _ zcD83
  (.obC _ zcD87
  (.obC _ zcD84
  (.obT
  (.obT
  (.rc (((true, false, true, false, false, true, r1.1, r1.2.1, 0, 0, r3.1, r3.2.1, 0, 0, 0, 0, r6.1, r6.2.1, 0))))))))))
  (.obT
  (.obT
  (.rc (((true, false, true, false, false, false, r1.1, r1.2.1, 0, 0, r3.1, r3.2.1, 0, 0, 0, 0, 0, 0, 0))))))))))))))))
  (.obC _ zcD85
  (.call (y17 u4 u5 u0 u6 r0.2.1 r0.2.2) fun r4 =>
  .brB (r4.2.2 == (0 : Int))
  (.obC _ zcD85
  (.obC _ zcD83
  (.obC _ zcD85
  (.obC _ zcD84
  (.obC _ zcD86
  (.call (y5 u4 u5 u0 u6 r0.2.1 r0.2.2) fun r5 =>
  .brB (r5.2.2 == (0 : Int))
  (.obC _ zcD86
  (.obC _ zcD83
  (.obC _ zcD86
  (.obC _ zcD84
  (.obC _ zcD87
  (.call (y2 u4 u5 u0 u6 r0.2.1 r0.2.2) fun r6 =>
  .brB (r6.2.2 == (0 : Int))
  (.obC _ zcD87
  (.obC _ zcD83
  (.obC _ zcD87
  (.obC _ zcD84
  (.obT
  (.obT
  (.rc (((true, false, false, true, true, true, r1.1, r1.2.1, 0, 0, 0, 0, r4.1, r4.2.1, r5.1, r5.2.1, r6.1, r6.2.1, 0))))))))))
  (.obT
  (.obT
  (.rc (((true, false, false, true, true, false, r1.1, r1.2.1, 0, 0, 0, 0, r4.1, r4.2.1, r5.1, r5.2.1, 0, 0, 0))))))))))))
  (.obC _ zcD87
  (.call (y2 u4 u5 u0 u6 r0.2.1 r0.2.2) fun r6 =>
  .brB (r6.2.2 == (0 : Int))
  (.obC _ zcD87
  (.obC _ zcD83
  (.obC _ zcD87
  (.obC _ zcD84
  (.obT
  (.obT
  (.rc (((true, false, false, true, false, true, r1.1, r1.2.1, 0, 0, 0, 0, r4.1, r4.2.1, 0, 0, r6.1, r6.2.1, 0))))))))))
  (.obT
  (.obT
  (.rc (((true, false, false, true, false, false, r1.1, r1.2.1, 0, 0, 0, 0, r4.1, r4.2.1, 0, 0, 0, 0, 0))))))))))))))
  (.obC _ zcD86
  (.call (y5 u4 u5 u0 u6 r0.2.1 r0.2.2) fun r5 =>
  .brB (r5.2.2 == (0 : Int))
  (.obC _ zcD86
  (.obC _ zcD83
  (.obC _ zcD86
  (.obC _ zcD84
  (.obC _ zcD87
  (.call (y2 u4 u5 u0 u6 r0.2.1 r0.2.2) fun r6 =>
  .brB (r6.2.2 == (0 : Int))
  (.obC _ zcD87
  (.obC _ zcD83
  (.obC _ zcD87
  (.obC _ zcD84
  (.obT
  (.obT
  (.rc (((true, false, false, false, true, true, r1.1, r1.2.1, 0, 0, 0, 0, 0, 0, r5.1, r5.2.1, r6.1, r6.2.1, 0))))))))))
  (.obT
  (.obT
  (.rc (((true, false, false, false, true, false, r1.1, r1.2.1, 0, 0, 0, 0, 0, 0, r5.1, r5.2.1, 0, 0, 0))))))))))))
  (.obC _ zcD87
  (.call (y2 u4 u5 u0 u6 r0.2.1 r0.2.2) fun r6 =>
  .brB (r6.2.2 == (0 : Int))
  (.obC _ zcD87
  (.obC _ zcD83
  (.obC _ zcD87
  (.obC _ zcD84
  (.obT
  (.obT
  (.rc (((true, false, false, false, false, true, r1.1, r1.2.1, 0, 0, 0, 0, 0, 0, 0, 0, r6.1, r6.2.1, 0))))))))))
  (.obT
  (.obT
  (.rc (((true, false, false, false, false, false, r1.1, r1.2.1, 0, 0, 0, 0, 0, 0, 0, 0, 0, 0, 0))))))))))))))))))))
  (.obC _ zcD81
  (.call (y19 u4 u5 u0 u6 r0.2.1 r0.2.2 (1 : Int)) fun r2 =>
  .brB (r2.2.2 == (0 : Int))
  (.obC _ zcD81
  (.obC _ zcD83
  (.obC _ zcD81
  (.obC _ zcD84
  (.obC _ zcD82
  (.call (y19 u4 u5 u0 u6 r0.2.1 r0.2.2 (2 : Int)) fun r3 =>
  .brB (r3.2.2 == (0 : Int))
  (.obC _ zcD82
  (.obC _ zcD83
  (.obC _ zcD82
  (.obC _ zcD84
  (.obC _ zcD85
  (.call (y17 u4 u5 u0 u6 r0.2.1 r0.2.2) fun r4 =>
  .brB (r4.2.2 == (0 : Int))
  (.obC _ zcD85
  (.obC _ zcD83
  (.obC _ zcD85
  (.obC _ zcD84
  (.obC _ zcD86
  (.call (y5 u4 u5 u0 u6 r0.2.1 r0.2.2) fun r5 =>
  .brB (r5.2.2 == (0 : Int))
  (.obC _ zcD86
  (.obC _ zcD83
  (.obC _ zcD86
  (.obC _ zcD84
  (.obC _ zcD87
  (.call (y2 u4 u5 u0 u6 r0.2.1 r0.2.2) fun r6 =>
  .brB (r6.2.2 == (0 : Int))
  (.obC _ zcD87
  (.obC _ zcD83
  (.obC _ zcD87
  (.obC _ zcD84
  (.obT
  (.obT
  (.rc (((false, true, true, true, true, true, 0, 0, r2.1, r2.2.1, r3.1, r3.2.1, r4.1, r4.2.1, r5.1, r5.2.1, r6.1, r6.2.1, 0))))))))))
  (.obT
  (.obT
  (.rc (((false, true, true, true, true, false, 0, 0, r2.1, r2.2.1, r3.1, r3.2.1, r4.1, r4.2.1, r5.1, r5.2.1, 0, 0, 0))))))))))))
  (.obC _ zcD87
  (.call (y2 u4 u5 u0 u6 r0.2.1 r0.2.2) fun r6 =>
  .brB (r6.2.2 == (0 : Int))
  (.obC _ zcD87
  (.obC _ zcD83
  (.obC _ zcD87
  (.obC _ zcD84
  (.obT
  (.obT
  (.rc (((false, true, true, true, false, true, 0, 0, r2.1, r2.2.1, r3.1, r3.2.1, r4.1, r4.2.1, 0, 0, r6.1, r6.2.1, 0))))))))))
  (.obT
  (.obT
  (.rc (((false, true, true, true, false, false, 0, 0, r2.1, r2.2.1, r3.1, r3.2.1, r4.1, r4.2.1, 0, 0, 0, 0, 0))))))))))))))
  (.obC _ zcD86
  (.call (y5 u4 u5 u0 u6 r0.2.1 r0.2.2) fun r5 =>
  .brB (r5.2.2 == (0 : Int))
  (.obC _ zcD86
  (.obC _ zcD83
  (.obC _ zcD86
  (.obC _ zcD84
  (.obC _ zcD87
  (.call (y2 u4 u5 u0 u6 r0.2.1 r0.2.2) fun r6 =>
  .brB (r6.2.2 == (0 : Int))
  (.obC _ zcD87
  (.obC _ zcD83
  (.obC _ zcD87
  (.obC _ zcD84
  (.obT
  (.obT
  (.rc (((false, true, true, false, true, true, 0, 0, r2.1, r2.2.1, r3.1, r3.2.1, 0, 0, r5.1, r5.2.1, r6.1, r6.2.1, 0))))))))))
  (.obT
  (.obT
  (.rc (((false, true, true, false, true, false, 0, 0, r2.1, r2.2.1, r3.1, r3.2.1, 0, 0, r5.1, r5.2.1, 0, 0, 0))))))))))))
  (.obC _ zcD87
  (.call (y2 u4 u5 u0 u6 r0.2.1 r0.2.2) fun r6 =>
  .brB (r6.2.2 == (0 : Int))
  (.obC _ zcD87
  (.obC _ zcD83
  (.obC _ zcD87
  (.obC _ zcD84
  (.obT
  (.obT
  (.rc (((false, true, true, false, false, true, 0, 0, r2.1, r2.2.1, r3.1, r3.2.1, 0, 0, 0, 0, r6.1, r6.2.1, 0))))))))))
  (.obT
  (.obT
  (.rc (((false, true, true, false, false, false, 0, 0, r2.1, r2.2.1, r3.1, r3.2.1, 0, 0, 0, 0, 0, 0, 0))))))))))))))))
  (.obC _ zcD85
  (.call (y17 u4 u5 u0 u6 r0.2.1 r0.2.2) fun r4 =>
  .brB (r4.2.2 == (0 : Int))
  (.obC _ zcD85
  (.obC _ zcD83
  (.obC _ zcD85
  (.obC _ zcD84
  (.obC _ zcD86
  (.call (y5 u4 u5 u0 u6 r0.2.1 r0.2.2) fun r5 =>
  .brB (r5.2.2 == (0 : Int))
  (.obC _ zcD86
  (.obC _ zcD83
  (.obC _ zcD86
  (.obC _ zcD84
  (.obC _ zcD87
  (.call (y2 u4 u5 u0 u6 r0.2.1 r0.2.2) fun r6 =>
  .brB (r6.2.2 == (0 : Int))
  (.obC _ zcD87
  (.obC _ zcD83
  (.obC _ zcD87
  (.obC _ zcD84
  (.obT
  (.obT
  (.rc (((false, true, false, true, true, true, 0, 0, r2.1, r2.2.1, 0, 0, r4.1, r4.2.1, r5.1, r5.2.1, r6.1, r6.2.1, 0))))))))))
  (.obT
  (.obT
  (.rc (((false, true, false, true, true, false, 0, 0, r2.1, r2.2.1, 0, 0, r4.1, r4.2.1, r5.1, r5.2.1, 0, 0, 0))))))))))))
  (.obC _ zcD87
  (.call (y2 u4 u5 u0 u6 r0.2.1 r0.2.2) fun r6 =>
  .brB (r6.2.2 == (0 : Int))
  (.obC _ zcD87
  (.obC _ zcD83
  (.obC _ zcD87
  (.obC _ zcD84
  (.obT
  (.obT
  (.rc (((false, true, false, true, false, true, 0, 0, r2.1, r2.2.1, 0, 0, r4.1, r4.2.1, 0, 0, r6.1, r6.2.1, 0))))))))))
  (.obT
  (.obT
  (.rc (((false, true, false, true, false, false, 0, 0, r2.1, r2.2.1, 0, 0, r4.1, r4.2.1, 0, 0, 0, 0, 0))))))))))))))
  (.obC _ zcD86
  (.call (y5 u4 u5 u0 u6 r0.2.1 r0.2.2) fun r5 =>
  .brB (r5.2.2 == (0 : Int))
  (.obC _ zcD86
  (.obC _ zcD83
  (.obC _ zcD86
  (.obC _ zcD84
  (.obC _ zcD87
  (.call (y2 u4 u5 u0 u6 r0.2.1 r0.2.2) fun r6 =>
  .brB (r6.2.2 == (0 : Int))
  (.obC _ zcD87
  (.obC _ zcD83
  (.obC _ zcD87
  (.obC _ zcD84
  (.obT
  (.obT
  (.rc (((false, true, false, false, true, true, 0, 0, r2.1, r2.2.1, 0, 0, 0, 0, r5.1, r5.2.1, r6.1, r6.2.1, 0))))))))))
  (.obT
  (.obT
  (.rc (((false, true, false, false, true, false, 0, 0, r2.1, r2.2.1, 0, 0, 0, 0, r5.1, r5.2.1, 0, 0, 0))))))))))))
  (.obC _ zcD87
  (.call (y2 u4 u5 u0 u6 r0.2.1 r0.2.2) fun r6 =>
  .brB (r6.2.2 == (0 : Int))
  (.obC _ zcD87
  (.obC _ zcD83
  (.obC _ zcD87
  (.obC _ zcD84
  (.obT
  (.obT
  (.rc (((false, true, false, false, false, true, 0, 0, r2.1, r2.2.1, 0, 0, 0, 0, 0, 0, r6.1, r6.2.1, 0))))))))))
  (.obT
  (.obT
  (.rc (((false, true, false, false, false, false, 0, 0, r2.1, r2.2.1, 0, 0, 0, 0, 0, 0, 0, 0, 0))))))))))))))))))
  (.obC _ zcD82
  (.call (y19 u4 u5 u0 u6 r0.2.1 r0.2.2 (2 : Int)) fun r3 =>
  .brB (r3.2.2 == (0 : Int))
  (.obC _ zcD82
  (.obC _ zcD83
  (.obC _ zcD82
  (.obC _ zcD84
  (.obC _ zcD85
  (.call (y17 u4 u5 u0 u6 r0.2.1 r0.2.2) fun r4 =>
  .brB (r4.2.2 == (0 : Int))
  (.obC _ zcD85
  (.obC _ zcD83
  (.obC _ zcD85
  (.obC _ zcD84
  (.obC _ zcD86
  (.call (y5 u4 u5 u0 u6 r0.2.1 r0.2.2) fun r5 =>
  .brB (r5.2.2 == (0 : Int))
  (.obC _ zcD86
  (.obC _ zcD83
  (.obC _ zcD86
  (.obC _ zcD84
  (.obC _ zcD87
  (.call (y2 u4 u5 u0 u6 r0.2.1 r0.2.2) fun r6 =>
  .brB (r6.2.2 == (0 : Int))
  (.obC _ zcD87
  (.obC _ zcD83
  (.obC _ zcD87
  (.obC _ zcD84
  (.obT
  (.obT
  (.rc (((false, false, true, true, true, true, 0, 0, 0, 0, r3.1, r3.2.1, r4.1, r4.2.1, r5.1, r5.2.1, r6.1, r6.2.1, 0))))))))))
  (.obT
  (.obT
  (.rc (((false, false, true, true, true, false, 0, 0, 0, 0, r3.1, r3.2.1, r4.1, r4.2.1, r5.1, r5.2.1, 0, 0, 0))))))))))))
  (.obC _ zcD87
  (.call (y2 u4 u5 u0 u6 r0.2.1 r0.2.2) fun r6 =>
  .brB (r6.2.2 == (0 : Int))
  (.obC _ zcD87
  (.obC _ zcD83
  (.obC _ zcD87
  (.obC _ zcD84
  (.obT
  (.obT
  (.rc (((false, false, true, true, false, true, 0, 0, 0, 0, r3.1, r3.2.1, r4.1, r4.2.1, 0, 0, r6.1, r6.2.1, 0))))))))))
  (.obT
  (.obT
  (.rc (((false, false, true, true, false, false, 0, 0, 0, 0, r3.1, r3.2.1, r4.1, r4.2.1, 0, 0, 0, 0, 0))))))))))))))
  (.obC _ zcD86
  (.call (y5 u4 u5 u0 u6 r0.2.1 r0.2.2) fun r5 =>
  .brB (r5.2.2 == (0 : Int))
  (.obC _ zcD86
  (.obC _ zcD83
  (.obC _ zcD86
  (.obC _ zcD84
  (.obC _ zcD87
  (.call (y2 u4 u5 u0 u6 r0.2.1 r0.2.2) fun r6 =>
  .brB (r6.2.2 == (0 : Int))
  (.obC _ zcD87
  (.obC _ zcD83
  (.obC _ zcD87
  (.obC _ zcD84
  (.obT
  (.obT
  (.rc (((false, false, true, false, true, true, 0, 0, 0, 0, r3.1, r3.2.1, 0, 0, r5.1, r5.2.1, r6.1, r6.2.1, 0))))))))))
  (.obT
  (.obT
  (.rc (((false, false, true, false, true, false, 0, 0, 0, 0, r3.1, r3.2.1, 0, 0, r5.1, r5.2.1, 0, 0, 0))))))))))))
  (.obC _ zcD87
  (.call (y2 u4 u5 u0 u6 r0.2.1 r0.2.2) fun r6 =>
  .brB (r6.2.2 == (0 : Int))
  (.obC _ zcD87
  (.obC _ zcD83
  (.obC _ zcD87
  (.obC _ zcD84
  (.obT
  (.obT
  (.rc (((false, false, true, false, false, true, 0, 0, 0, 0, r3.1, r3.2.1, 0, 0, 0, 0, r6.1, r6.2.1, 0))))))))))
  (.obT
  (.obT
  (.rc (((false, false, true, false, false, false, 0, 0, 0, 0, r3.1, r3.2.1, 0, 0, 0, 0, 0, 0, 0))))))))))))))))
  (.obC _ zcD85
  (.call (y17 u4 u5 u0 u6 r0.2.1 r0.2.2) fun r4 =>
  .brB (r4.2.2 == (0 : Int))
  (.obC _ zcD85
  (.obC _ zcD83
  (.obC _ zcD85
  (.obC _ zcD84
  (.obC _ zcD86
  (.call (y5 u4 u5 u0 u6 r0.2.1 r0.2.2) fun r5 =>
  .brB (r5.2.2 == (0 : Int))
  (.obC _ zcD86
  (.obC _ zcD83
  (.obC _ zcD86
  (.obC _ zcD84
  (.obC _ zcD87
  (.call (y2 u4 u5 u0 u6 r0.2.1 r0.2.2) fun r6 =>
  .brB (r6.2.2 == (0 : Int))
  (.obC _ zcD87
  (.obC _ zcD83
  (.obC _ zcD87
  (.obC _ zcD84
  (.obT
  (.obT
  (.rc (((false, false, false, true, true, true, 0, 0, 0, 0, 0, 0, r4.1, r4.2.1, r5.1, r5.2.1, r6.1, r6.2.1, 0))))))))))
  (.obT
  (.obT
  (.rc (((false, false, false, true, true, false, 0, 0, 0, 0, 0, 0, r4.1, r4.2.1, r5.1, r5.2.1, 0, 0, 0))))))))))))
  (.obC _ zcD87
  (.call (y2 u4 u5 u0 u6 r0.2.1 r0.2.2) fun r6 =>
  .brB (r6.2.2 == (0 : Int))
  (.obC _ zcD87
  (.obC _ zcD83
  (.obC _ zcD87
  (.obC _ zcD84
  (.obT
  (.obT
  (.rc (((false, false, false, true, false, true, 0, 0, 0, 0, 0, 0, r4.1, r4.2.1, 0, 0, r6.1, r6.2.1, 0))))))))))
  (.obT
  (.obT
  (.rc (((false, false, false, true, false, false, 0, 0, 0, 0, 0, 0, r4.1, r4.2.1, 0, 0, 0, 0, 0))))))))))))))
  (.obC _ zcD86
  (.call (y5 u4 u5 u0 u6 r0.2.1 r0.2.2) fun r5 =>
  .brB (r5.2.2 == (0 : Int))
  (.obC _ zcD86
  (.obC _ zcD83
  (.obC _ zcD86
  (.obC _ zcD84
  (.obC _ zcD87
  (.call (y2 u4 u5 u0 u6 r0.2.1 r0.2.2) fun r6 =>
  .brB (r6.2.2 == (0 : Int))
  (.obC _ zcD87
  (.obC _ zcD83
  (.obC _ zcD87
  (.obC _ zcD84
  (.obT
  (.obT
  (.rc (((false, false, false, false, true, true, 0, 0, 0, 0, 0, 0, 0, 0, r5.1, r5.2.1, r6.1, r6.2.1, 0))))))))))
  (.obT
  (.obT
  (.rc (((false, false, false, false, true, false, 0, 0, 0, 0, 0, 0, 0, 0, r5.1, r5.2.1, 0, 0, 0))))))))))))
  (.obC _ zcD87
  (.call (y2 u4 u5 u0 u6 r0.2.1 r0.2.2) fun r6 =>
  .brB (r6.2.2 == (0 : Int))
  (.obC _ zcD87
  (.obC _ zcD83
  (.obC _ zcD87
  (.obC _ zcD84
  (.obT
  (.obT
  (.rc (((false, false, false, false, false, true, 0, 0, 0, 0, 0, 0, 0, 0, 0, 0, r6.1, r6.2.1, 0))))))))))
  (.obT
  (.obT
  (.rc (((false, false, false, false, false, false, 0, 0, 0, 0, 0, 0, 0, 0, 0, 0, 0, 0, 0))))))))))))))))))))))))))))
set_option maxRecDepth 100000 in
theorem G_FiguresOf_vc (u4 : Int) (u5 : List Nat) (u0 : Int) (u6 : Int) (r : Bool × Bool × Bool × Bool × Bool × Bool × Int × Int × Int × Int × Int × Int × Int × Int × Int × Int × Int × Int × Int) (h : Option.bind (y18 u4 u5 u0 u6) some = some r) : runT Tryd.f37 ((sp_56 (sp_60 (sp_69 (sp_70 (sp_71 sp0)))))) (fun _ _ _ => none) (bldD k_G_FiguresOf [.d (.i .i64 u4), .r (.floats .f32 u5), .d (.i .i64 u0), .d (.i .i64 u6)]) [.s [.d (.b r.1), .d (.b r.2.1), .d (.b r.2.2.1), .d (.b r.2.2.2.1), .d (.b r.2.2.2.2.1), .d (.b r.2.2.2.2.2.1), .d (.i .i64 r.2.2.2.2.2.2.1), .d (.i .i64 r.2.2.2.2.2.2.2.1), .d (.i .i64 r.2.2.2.2.2.2.2.2.1), .d (.i .i64 r.2.2.2.2.2.2.2.2.2.1), .d (.i .i64 r.2.2.2.2.2.2.2.2.2.2.1), .d (.i .i64 r.2.2.2.2.2.2.2.2.2.2.2.1), .d (.i .i64 r.2.2.2.2.2.2.2.2.2.2.2.2.1), .d (.i .i64 r.2.2.2.2.2.2.2.2.2.2.2.2.2.1), .d (.i .i64 r.2.2.2.2.2.2.2.2.2.2.2.2.2.2.1), .d (.i .i64 r.2.2.2.2.2.2.2.2.2.2.2.2.2.2.2.1), .d (.i .i64 r.2.2.2.2.2.2.2.2.2.2.2.2.2.2.2.2.1), .d (.i .i64 r.2.2.2.2.2.2.2.2.2.2.2.2.2.2.2.2.2.1)], .c (.d (.i .i64 r.2.2.2.2.2.2.2.2.2.2.2.2.2.2.2.2.2.2))] :=
  T.vc (t := G_FiguresOf_t u4 u5 u0 u6) (by kernel_rfl) (by kernel_rfl) h
set_option maxRecDepth 100000 in
theorem G_FiguresOf_ok : SpecOK Tryd.prog 37 true (pureT k_G_FiguresOf g_G_FiguresOf) := by
  refine pureT_ok (sp := (sp_56 (sp_60 (sp_69 (sp_70 (sp_71 sp0)))))) (fn := Tryd.f37) (body := bodyOf Tryd.f37) mixed (sp_56_ok (sp_60_ok (sp_69_ok (sp_70_ok (sp_71_ok sp0_ok))))) Tryd.func37 (by kernel_rfl) (by kernel_rfl) fun ls t h ho b hb => ?_
  unfold g_G_FiguresOf at h
  split at h
  · rename_i u4 u5 u0 u6
    cases h
    obtain rfl := bld_eq hb
    exact ⟨Nat.le_of_ble_eq_true (by kernel_rfl), _, _, G_FiguresOf_vc u4 u5 u0 u6 _ (ok_some ho)⟩
  · cases h
theorem sp_37_ok {sp : Specs} (h : SpecsOK Tryd.prog sp) : SpecsOK Tryd.prog (sp_37 sp) := addK_ok G_FiguresOf_ok h
end Go.Sh
end
