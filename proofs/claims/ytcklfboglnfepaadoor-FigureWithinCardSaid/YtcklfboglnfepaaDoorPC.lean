/- Part 3 of the proof of FigureWithinCard: the executor, the mirrors of the functions, the plain facts. -/
import Derived.Test.YtcklfboglnfepaaDoorPB
import Derived.IntWalk
import Derived.Test.YtcklfboglnfepaaDoorProg
set_option linter.unusedSectionVars false
set_option linter.unusedSimpArgs false
set_option linter.unusedVariables false
section
open Go.RowKit
namespace Go.Sx
theorem O.ok_eqB {p : Nat → Bool} {ρ ρ' : Env} {B : Bd} {h : Nat} {w : World} (ha : ∀ x, p x = true → ρ' x = ρ x) (hh : ρ' h = ρ h) : ∀ {o : O}, o.allB p = true → o.ok ρ B w h → o.ok ρ' B w h
  | .box ty cs, hl, ⟨k, h1, h2, h3⟩ => ⟨k, hh.trans h1, h2, by
      rw [h3]; congr 3; exact List.map_congr_left fun a ha' => (C.val_eqB ha (List.all_eq_true.1 hl a ha')).symm⟩
  | .row ty c, _, hr => by unfold O.ok at *; rw [hh]; exact hr
  | .ext c, _, hr => by unfold O.ok at *; rw [hh]; exact hr
  | .view r c _, hl, hr => by
    have hl' : p r = true := hl
    unfold O.ok at *; rw [hh]; simp only; exact hr
  | .dead, _, _ => trivial
  | .nan _, _, hr => by unfold O.ok at *; rw [hh]; exact hr
  | .err, _, hr => by unfold O.ok at *; rw [hh]; exact hr
  | .atom, _, hr => by unfold O.ok at *; rw [hh]; exact hr
  | .ebox cs, hl, ⟨k, o, h1, h2, h3⟩ => ⟨k, o, hh.trans h1, h2, fun j c hj => by rw [C.val_eqB ha (List.all_eq_true.1 hl c (List.mem_of_getElem? hj))]; exact h3 j c hj⟩
  | .arr _ _ _ _, _, hr => by unfold O.ok at *; rw [hh]; exact hr
  | .xext _, _, hr => by unfold O.ok at *; rw [hh]; exact hr
  | .map _, _, hr => by unfold O.ok at *; rw [hh]; exact hr
  | .rrow _, _, hr => by unfold O.ok at *; rw [hh]; exact hr
def glue (ρ ρ' : Env) (lo hi : Nat) : Env := fun h => match Nat.ble lo h && Nat.blt h hi with
  | true => ρ' h
  | false => ρ h
section
variable [Globs] {P : Program} {sp : Specs} {B : Bd} {N n0 : Nat} {L : List Oper} {tab : List (List Nat)} {st0 : St} {ρ0 : Env} {w0 : World}
structure At [Globs] (P : Program) (sp : Specs) (N : Nat) (L : List Oper) (tab : List (List Nat)) (st0 : St) (D D' : Nat → Bool) (later : List Rec) (r : Rec) (tr : List Rec) (o : Oper) : Prop where
  good : GoodTr P sp N L tab st0 (later ++ r :: tr)
  len : (later ++ r :: tr).length = L.length
  ok : RecOK P sp N L tab st0 tr r o
  slots : slotsOk L tab 0 L = true
  edges : edgesOk 0 L = true
  tabok : TabOK L tab
  closed : Closed L D
  out : D tr.length = false
  bef : ∀ j, j ∈ tab.getD tr.length [] → D j = true
  D1 : D' tr.length = true
  D2 : ∀ j, j ≠ tr.length → D' j = D j
  base : Base st0
  baseTm : ∀ t v, getT st0.tm t = some v → v.lt st0.nx
  n0 : n0 ≤ st0.nx
variable {D D' : Nat → Bool} {later tr : List Rec} {r : Rec} {o : Oper} {a : Act} {w w' : World} {ρ ρ' : Env}
theorem At.low (h : At (n0 := n0) P sp N L tab st0 D D' later r tr o) : ∀ i k, k ∈ tab.getD i [] → k < i := tab_lower h.edges h.tabok
theorem At.gr (h : At (n0 := n0) P sp N L tab st0 D D' later r tr o) : GoodTr P sp N L tab st0 (r :: tr) := GoodTr.tail h.good
theorem At.gt (h : At (n0 := n0) P sp N L tab st0 D D' later r tr o) : GoodTr P sp N L tab st0 tr := h.gr.inv.1
theorem At.mono (h : At (n0 := n0) P sp N L tab st0 D D' later r tr o) : ∀ j, D j = true → D' j = true := fun j hj => by
  by_cases e : j = tr.length
  · rw [e]; exact h.D1
  · rw [h.D2 j e]; exact hj
theorem At.nx (h : At (n0 := n0) P sp N L tab st0 D D' later r tr o) : r.nx ≤ prevNx st0 (later ++ r :: tr) := nx_grows (tr := r :: tr) h.good
theorem At.alive_mono (h : At (n0 := n0) P sp N L tab st0 D D' later r tr o) {x : Nat} (hx : alive st0 (later ++ r :: tr) D x = true) : alive st0 (later ++ r :: tr) D' x = true := by
  simp only [alive, Bool.and_eq_true] at hx ⊢
  exact ⟨hx.1, born_mono h.mono _ _ hx.2⟩
theorem At.alive_out (h : At (n0 := n0) P sp N L tab st0 D D' later r tr o) {x : Nat} (hx : alive st0 (later ++ r :: tr) D x = true) : ¬ (prevNx st0 tr ≤ x ∧ x < r.nx) := by
  rintro ⟨h1, h2⟩
  simp only [alive, Bool.and_eq_true] at hx
  rw [born_at h.good h1 h2, h.out] at hx
  cases hx.2
theorem At.alive_new (h : At (n0 := n0) P sp N L tab st0 D D' later r tr o) {q : Nat → Bool} (hq : ∀ j, q j = true → D' j = true) {x : Nat}
    (hx : (Nat.blt x r.nx && (Nat.ble (prevNx st0 tr) x || bornBy q st0 tr x)) = true) : alive st0 (later ++ r :: tr) D' x = true := by
  simp only [Bool.and_eq_true, Nat.blt_eq, Bool.or_eq_true] at hx
  simp only [alive, Bool.and_eq_true, Nat.blt_eq]
  refine ⟨Nat.lt_of_lt_of_le hx.1 h.nx, ?_⟩
  by_cases hle : prevNx st0 tr ≤ x
  · rw [born_at h.good hle hx.1]; exact h.D1
  · have h1 : bornBy q st0 tr x = true := by
      rcases hx.2 with h1 | h1
      · rw [Nat.ble_eq] at h1; exact absurd h1 hle
      · exact h1
    have : later ++ r :: tr = (later ++ [r]) ++ tr := by simp
    rw [this, born_below (by rw [← this]; exact h.good) (by omega)]
    exact born_mono hq _ _ h1
theorem glue_alive (h : At (n0 := n0) P sp N L tab st0 D D' later r tr o) {x : Nat} (hx : alive st0 (later ++ r :: tr) D x = true) : glue ρ ρ' (prevNx st0 tr) r.nx x = ρ x := by
  have := h.alive_out hx
  unfold glue
  split
  · rename_i e
    simp only [Bool.and_eq_true, Nat.ble_eq, Nat.blt_eq] at e
    exact absurd e this
  · rfl
theorem glue_new {lo hi : Nat} (ha : Agree lo ρ ρ') : Agree hi ρ' (glue ρ ρ' lo hi) := by
  intro x hx
  unfold glue
  split
  · rfl
  · rename_i e
    have : ¬ lo ≤ x := fun hc => by
      rw [Bool.eq_false_iff] at e
      exact e (by simp only [Bool.and_eq_true, Nat.ble_eq, Nat.blt_eq]; exact ⟨hc, hx⟩)
    exact (ha x (by omega)).symm
theorem glue_base {lo hi : Nat} {m : Nat} (hm : m ≤ lo) (ha : Agree m ρ0 ρ) : Agree m ρ0 (glue ρ ρ' lo hi) := by
  intro x hx
  unfold glue
  split
  · rename_i e
    simp only [Bool.and_eq_true, Nat.ble_eq, Nat.blt_eq] at e
    omega
  · exact ha x hx
theorem At.n0le (h : At (n0 := n0) P sp N L tab st0 D D' later r tr o) : n0 ≤ prevNx st0 tr := Nat.le_trans h.n0 (nx_base h.gt)
theorem find_atoms : ∀ {hp : Hp} {x : Nat}, find (hp.map fun y => (y.1, O.atom)) x = (find hp x).map fun _ => O.atom
  | [], _ => rfl
  | (k, o) :: hp, x => by
    simp only [List.map_cons, find]
    split
    · rfl
    · exact find_atoms
theorem one_step (h : At (n0 := n0) P sp N L tab st0 D D' later r tr o) (hinv : Inv L st0 B N n0 ρ0 w0 (later ++ r :: tr) D a w ρ) {ρ2 : Env} (hE : ∀ x, alive st0 (later ++ r :: tr) D x = true → ρ2 x = ρ x)
    (hnew : ∀ x, prevNx st0 tr ≤ x → x < r.nx → C.one r.hp (.o x) = true → (ρ2 x).oneCell' = true) : ∀ x, alive st0 (later ++ r :: tr) D' x = true → bornOne st0 (later ++ r :: tr) x = true → (ρ2 x).oneCell' = true := by
  intro x hx hb
  by_cases hn : prevNx st0 tr ≤ x ∧ x < r.nx
  · rw [bornOne_at h.good hn.1 hn.2] at hb
    exact hnew x hn.1 hn.2 hb
  · have hx2 := hx
    simp only [alive, Bool.and_eq_true, Nat.blt_eq] at hx2
    have hal : alive st0 (later ++ r :: tr) D x = true := by
      simp only [alive, Bool.and_eq_true, Nat.blt_eq]
      refine ⟨hx2.1, ?_⟩
      rw [born_off (q := D') (q' := D) (fun j hj => (h.D2 j hj).symm) hn h.good hx2.1]
      exact hx2.2
    rw [hE x hal]
    exact hinv.one x hal hb
theorem inv_pure (h : At (n0 := n0) P sp N L tab st0 D D' later r tr o) (hinv : Inv L st0 B N n0 ρ0 w0 (later ++ r :: tr) D a w ρ) (hk : r.kd ≠ 2) (hn : r.nw = []) (hnx : r.nx = prevNx st0 tr)
    (hv : r.v.allB (fun x => Nat.blt x r.nx && (Nat.ble (prevNx st0 tr) x || bornBy (fun j => (tab.getD tr.length []).contains j) st0 tr x)) = true) :
    Inv L st0 B N n0 ρ0 w0 (later ++ r :: tr) D' (a.put o.dst (r.v.val ρ)) w ρ := by
  have he := heap_same (st0 := st0) (later := later) h.out h.D1 h.D2 hk hn
  have hv' : r.v.allB (alive st0 (later ++ r :: tr) D') = true := V.allB_mono (fun x hx => h.alive_new (fun j hj => h.mono j (h.bef j (by simpa using hj))) hx) hv
  refine ⟨tm_step h.slots h.tabok h.closed h.out h.ok.op h.ok.dst h.D1 h.D2 hinv (fun _ _ => rfl) hv', by rw [put_size]; exact hinv.size, by rw [put_defers]; exact hinv.defers, by rw [he]; exact hinv.heap, ?_, hinv.le, hinv.agree, hinv.below, one_step h hinv (fun _ _ => rfl) (fun x h1 h2 _ => by omega)⟩
  intro x ob hf
  rw [he] at hf
  have := hinv.hal x ob hf
  exact ⟨h.alive_mono this.1, O.allB_mono (fun y hy => h.alive_mono hy) this.2⟩
theorem inv_mono (h : At (n0 := n0) P sp N L tab st0 D D' later r tr o) (hinv : Inv L st0 B N n0 ρ0 w0 (later ++ r :: tr) D a w ρ) (hns : staticPure o.op = false) (hnl : isLoadOp o.op = false) (hk : r.kd ≠ 2)
    (hv : r.v.allB (fun x => Nat.blt x r.nx && (Nat.ble (prevNx st0 tr) x || bornBy (fun j => (tab.getD tr.length []).contains j) st0 tr x)) = true)
    (hnw : ∀ x ob, find r.nw x = some ob → ob.allB (fun x => Nat.blt x r.nx && (Nat.ble (prevNx st0 tr) x || bornBy (fun j => (tab.getD tr.length []).contains j) st0 tr x)) = true)
    (hag : Agree (prevNx st0 tr) ρ ρ') (hbl : Bel B w w') (hbw : Below w.heap.size w w') (hnew : HRel ρ' B r.nw r.nx w') (hfresh : ∀ x ob k, find r.nw x = some ob → ob.blk (ρ' x) = some k → w.heap.size ≤ k) :
    Inv L st0 B N n0 ρ0 w0 (later ++ r :: tr) D' (a.put o.dst (r.v.val (glue ρ ρ' (prevNx st0 tr) r.nx))) w' (glue ρ ρ' (prevNx st0 tr) r.nx) := by
  have hq : ∀ j, (tab.getD tr.length []).contains j = true → D' j = true := fun j hj => h.mono j (h.bef j (by simpa using hj))
  have hv' : r.v.allB (alive st0 (later ++ r :: tr) D') = true := V.allB_mono (fun x hx => h.alive_new hq hx) hv
  have hE1 : ∀ x, alive st0 (later ++ r :: tr) D x = true → glue ρ ρ' (prevNx st0 tr) r.nx x = ρ x := fun x hx => glue_alive h hx
  have hE2 : Agree r.nx ρ' (glue ρ ρ' (prevNx st0 tr) r.nx) := glue_new hag
  have hins : ∀ x, find (heapD D' st0 (later ++ r :: tr)) x = (find (heapD D st0 (later ++ r :: tr)) x).or (find r.nw x) := fun x =>
    heap_insert hns hnl h.ok.op h.low h.tabok h.closed h.out h.base h.D1 h.D2 hk h.good
  have hkey : ∀ k ob, find r.nw k = some ob → prevNx st0 tr ≤ k ∧ k < r.nx := (kd_other h.ok hk).2.1
  have hnew' := hnew.agree hE2
  refine ⟨tm_step h.slots h.tabok h.closed h.out h.ok.op h.ok.dst h.D1 h.D2 hinv hE1 hv', by rw [put_size]; exact hinv.size, by rw [put_defers]; exact hinv.defers, ⟨?_, ?_, hinv.heap.glob.bel hbl⟩, ?_, hbl.old hinv.le, glue_base h.n0le hinv.agree, hinv.below.trans hbl, one_step h hinv hE1 (fun x h1 h2 h3 => by
    rw [hE2 x h2]
    refine C.one_val (c := .o x) hnew ?_
    have hh := (kd_other h.ok hk).1
    have hnone : find (prevHp st0 tr) x = none := by
      cases hf : find (prevHp st0 tr) x with
      | none => rfl
      | some y => have := (keys h.gt h.base x y hf).1; omega
    simp only [C.one, hh, find_append, hnone] at h3
    simp only [C.one]
    cases hf : find r.nw x with
    | none => rw [hf] at h3; cases h3
    | some y => rw [hf] at h3; exact h3)⟩
  · intro x ob hf
    rw [hins] at hf
    cases hd : find (heapD D st0 (later ++ r :: tr)) x with
    | some y =>
      rw [hd] at hf
      cases hf
      have h1 := hinv.heap.ok x ob hd
      have h2 := hinv.hal x ob hd
      exact ⟨h1.1, h1.2.1, O.ok_eqB hE1 (hE1 x h2.1) h2.2 (O.ok_below hbw hinv.le h1.2.2)⟩
    | none =>
      rw [hd] at hf
      have hf : find r.nw x = some ob := hf
      have h1 := hnew'.ok x ob hf
      exact ⟨Nat.lt_of_lt_of_le h1.1 h.nx, O.lt_mono h.nx h1.2.1, h1.2.2⟩
  · intro x ob x' ob' k hf hf' hne hb
    rw [hins] at hf hf'
    have old : ∀ y oy, find (heapD D st0 (later ++ r :: tr)) y = some oy → ∀ k, oy.blk (glue ρ ρ' (prevNx st0 tr) r.nx y) = some k → k < w.heap.size := fun y oy hy k hk => by
      rw [hE1 y (hinv.hal y oy hy).1] at hk
      exact (O.blk_lt (hinv.heap.ok y oy hy).2.2 hk).1
    have new : ∀ y oy, find r.nw y = some oy → ∀ k, oy.blk (glue ρ ρ' (prevNx st0 tr) r.nx y) = some k → w.heap.size ≤ k := fun y oy hy k hk => by
      rw [hE2 y (hkey y oy hy).2] at hk
      exact hfresh y oy k hy hk
    cases hd : find (heapD D st0 (later ++ r :: tr)) x with
    | some y =>
      rw [hd] at hf
      cases hf
      cases hd' : find (heapD D st0 (later ++ r :: tr)) x' with
      | some y' =>
        rw [hd'] at hf'
        cases hf'
        rw [hE1 x (hinv.hal x ob hd).1] at hb
        rw [hE1 x' (hinv.hal x' ob' hd').1]
        exact hinv.heap.apart x ob x' ob' k hd hd' hne hb
      | none =>
        rw [hd'] at hf'
        intro hb'
        have h1 := old x ob hd k hb
        have h2 := new x' ob' hf' k hb'
        omega
    | none =>
      rw [hd] at hf
      cases hd' : find (heapD D st0 (later ++ r :: tr)) x' with
      | some y' =>
        rw [hd'] at hf'
        cases hf'
        intro hb'
        have h1 := old x' ob' hd' k hb'
        have h2 := new x ob hf k hb
        omega
      | none =>
        rw [hd'] at hf'
        exact hnew'.apart x ob x' ob' k hf hf' hne hb
  · intro x ob hf
    rw [hins] at hf
    cases hd : find (heapD D st0 (later ++ r :: tr)) x with
    | some y =>
      rw [hd] at hf
      cases hf
      have := hinv.hal x ob hd
      exact ⟨h.alive_mono this.1, O.allB_mono (fun y hy => h.alive_mono hy) this.2⟩
    | none =>
      rw [hd] at hf
      have hf : find r.nw x = some ob := hf
      have h1 := hkey x ob hf
      refine ⟨h.alive_new (q := fun _ => false) (fun _ hj => by cases hj) ?_, O.allB_mono (fun y hy => h.alive_new hq hy) (hnw x ob hf)⟩
      simp only [Bool.and_eq_true, Nat.blt_eq, Bool.or_eq_true]
      exact ⟨h1.2, .inl (Nat.ble_eq_true_of_le h1.1)⟩
theorem inv_effect (h : At (n0 := n0) P sp N L tab st0 D D' later r tr o) (hinv : Inv L st0 B N n0 ρ0 w0 (later ++ r :: tr) D a w ρ) (hk : r.kd = 2)
    (hv : r.v.allB (fun x => Nat.blt x r.nx && (Nat.ble (prevNx st0 tr) x || bornBy (fun j => (tab.getD tr.length []).contains j) st0 tr x)) = true)
    (hnw : ∀ x ob, find r.hp x = some ob → ob.allB (fun x => Nat.blt x r.nx && (Nat.ble (prevNx st0 tr) x || bornBy (fun j => (tab.getD tr.length []).contains j) st0 tr x)) = true)
    (hag : Agree (prevNx st0 tr) ρ ρ') (hbl : Bel B w w') (hnew : HRel ρ' B r.hp r.nx w') :
    Inv L st0 B N n0 ρ0 w0 (later ++ r :: tr) D' (a.put o.dst (r.v.val (glue ρ ρ' (prevNx st0 tr) r.nx))) w' (glue ρ ρ' (prevNx st0 tr) r.nx) := by
  have hq : ∀ j, (tab.getD tr.length []).contains j = true → D' j = true := fun j hj => h.mono j (h.bef j (by simpa using hj))
  have hv' : r.v.allB (alive st0 (later ++ r :: tr) D') = true := V.allB_mono (fun x hx => h.alive_new hq hx) hv
  have hE1 : ∀ x, alive st0 (later ++ r :: tr) D x = true → glue ρ ρ' (prevNx st0 tr) r.nx x = ρ x := fun x hx => glue_alive h hx
  have hE2 : Agree r.nx ρ' (glue ρ ρ' (prevNx st0 tr) r.nx) := glue_new hag
  have hfo := kd_effect h.ok hk
  have hall : ∀ j oj, tr.length < j → L[j]? = some oj → (staticPure oj.op || isLoadOp oj.op) = false → D' j = false := fun j oj hij hj hs => by
    rw [h.D2 j (by omega)]
    simp only [Bool.or_eq_false_iff] at hs
    exact not_later hfo.2.1 hfo.2.2 h.ok.op hj hs.1 hs.2 h.low h.tabok h.closed h.out hij (.inr hfo.1)
  have hbefore : ∀ j oj, j < tr.length → L[j]? = some oj → (staticPure oj.op || isLoadOp oj.op) = false → D j = true := fun j oj hij hj hs => by
    simp only [Bool.or_eq_false_iff] at hs
    rcases forced_spec hfo.1 j oj hj with h1 | h1 | h1 | h1 | h1
    · omega
    · rw [hs.1] at h1; cases h1
    · rw [Nat.zero_add] at h1; exact h.bef _ h1
    · rw [Nat.zero_add] at h1; have := h.low _ _ h1; omega
    · rw [hs.2] at h1; cases h1.2
  have hhp : heapD D' st0 (later ++ r :: tr) = r.hp := by
    rw [heap_after hall (i := tr.length) (tr := r :: tr) (by simp) h.good]
    simp only [heapD, h.D1, hk, if_true]
  have hnew' := hnew.agree hE2
  refine ⟨tm_step h.slots h.tabok h.closed h.out h.ok.op h.ok.dst h.D1 h.D2 hinv hE1 hv', by rw [put_size]; exact hinv.size, by rw [put_defers]; exact hinv.defers, by rw [hhp]; exact hnew'.mono_nx h.nx, ?_, hbl.old hinv.le, glue_base h.n0le hinv.agree, hinv.below.trans hbl, one_step h hinv hE1 (fun x h1 h2 h3 => by rw [hE2 x h2]; exact C.one_val (c := .o x) hnew h3)⟩
  intro x ob hf
  rw [hhp] at hf
  refine ⟨h.alive_new (q := D) h.mono ?_, O.allB_mono (fun y hy => h.alive_new hq hy) (hnw x ob hf)⟩
  have h1 := (hnew.ok x ob hf).1
  simp only [Bool.and_eq_true, Nat.blt_eq, Bool.or_eq_true]
  refine ⟨h1, ?_⟩
  by_cases hle : prevNx st0 tr ≤ x
  · exact .inl (Nat.ble_eq_true_of_le hle)
  · exact .inr ((heap_before hbefore h.gt (Nat.le_refl _)).2 x (by omega))
theorem seen_rel (h : At (n0 := n0) P sp N L tab st0 D D' later r tr o) (hinv : Inv L st0 B N n0 ρ0 w0 (later ++ r :: tr) D a w ρ) (hns : staticPure o.op = false) (hnl : isLoadOp o.op = false) : HRel ρ B (seenHp (tab.getD tr.length []) st0 tr) (prevNx st0 tr) w := by
  have key : ∀ x ob, find (seenHp (tab.getD tr.length []) st0 tr) x = some ob → find (heapD D st0 (later ++ r :: tr)) x = some ob ∧ x < prevNx st0 tr ∧ ob.lt (prevNx st0 tr) := by
    intro x ob hf
    unfold seenHp at hf
    rw [find_filter (p := fun x => bornBy (fun j => (tab.getD tr.length []).contains j) st0 tr x)] at hf
    split at hf
    · rename_i hb
      have h1 := keys h.gt h.base x ob hf
      refine ⟨?_, h1⟩
      have h2 := seen_in hns hnl h.ok.op h.low h.base h.bef h.gt (Nat.le_refl _) x ob hf hb
      rw [heap_tail hns hnl h.ok.op h.low h.tabok h.closed h.out (tr := r :: tr) (by simp) (show x < r.nx from Nat.lt_of_lt_of_le h1.1 h.ok.nx_le) h.good]
      simp only [heapD, h.out, Bool.false_eq_true, if_false]
      exact h2
    · cases hf
  exact ⟨fun x ob hf => ⟨(key x ob hf).2.1, (key x ob hf).2.2, (hinv.heap.ok x ob (key x ob hf).1).2.2⟩,
    fun x ob x' ob' k hf hf' => hinv.heap.apart x ob x' ob' k (key x ob hf).1 (key x' ob' hf').1, hinv.heap.glob⟩
theorem whole_rel (h : At (n0 := n0) P sp N L tab st0 D D' later r tr o) (hinv : Inv L st0 B N n0 ρ0 w0 (later ++ r :: tr) D a w ρ) (hns : staticPure o.op = false) (hnl : isLoadOp o.op = false) {lf : Bool} (hf : forcedB tab tr.length lf 0 L = true) : HRel ρ B (prevHp st0 tr) (prevNx st0 tr) w := by
  have hbefore : ∀ j oj, j < tr.length → L[j]? = some oj → (staticPure oj.op || isLoadOp oj.op) = false → D j = true := fun j oj hij hj hs => by
    simp only [Bool.or_eq_false_iff] at hs
    rcases forced_spec hf j oj hj with h1 | h1 | h1 | h1 | h1
    · omega
    · rw [hs.1] at h1; cases h1
    · rw [Nat.zero_add] at h1; exact h.bef _ h1
    · rw [Nat.zero_add] at h1; have := h.low _ _ h1; omega
    · rw [hs.2] at h1; cases h1.2
  have hall : ∀ j oj, tr.length < j → L[j]? = some oj → (staticPure oj.op || isLoadOp oj.op) = false → D j = false := fun j oj hij hj hs => by
    simp only [Bool.or_eq_false_iff] at hs
    exact not_later hns hnl h.ok.op hj hs.1 hs.2 h.low h.tabok h.closed h.out hij (.inr hf)
  have e : heapD D st0 (later ++ r :: tr) = prevHp st0 tr := by
    rw [heap_after hall (i := tr.length) (tr := r :: tr) (by simp) h.good]
    simp only [heapD, h.out, Bool.false_eq_true, if_false]
    exact (heap_before hbefore h.gt (Nat.le_refl _)).1
  have h1 := hinv.heap
  rw [e] at h1
  exact ⟨fun x ob hf => ⟨(keys h.gt h.base x ob hf).1, (keys h.gt h.base x ob hf).2, (h1.ok x ob hf).2.2⟩, h1.apart, h1.glob⟩
theorem inv_op (hsp : SpecsOK P sp) (h : At (n0 := n0) P sp N L tab st0 D D' later r tr o) (hinv : Inv L st0 B N n0 ρ0 w0 (later ++ r :: tr) D a w ρ) {K : Act → World → Prop} {Q : Exit → Act → World → Prop}
    (hK : ∀ ρ' a' w', Inv L st0 B N n0 ρ0 w0 (later ++ r :: tr) D' a' w' ρ' → K a' w') : wpOp P L.toArray Q tr.length K a w := by
  have hgt := h.gt
  have hreads := reads_of h.good h.slots h.tabok h.closed h.out h.ok.op h.bef h.baseTm hinv
  have ho : L.toArray[tr.length]? = some o := by simpa using h.ok.op
  unfold wpOp
  rw [ho]
  dsimp only
  cases h.ok.kind with
  | skip g e =>
    rw [wanted_of h.slots h.tabok h.closed h.out h.ok.op h.bef hinv g]
    refine hK ρ _ _ ?_
    have := inv_pure h hinv (by rw [e]; exact (by decide : (0 : Nat) ≠ 2)) (by rw [e]) (by rw [e]) (by rw [e]; rfl)
    rw [show r.v.val ρ = undef by rw [e]; rfl] at this
    exact this
  | pure g ob hs ob' hk e =>
    rw [wanted_of h.slots h.tabok h.closed h.out h.ok.op h.bef hinv g]
    left
    have hh : HRel ρ B [] (prevNx st0 tr) w := ⟨(fun _ _ hf => by cases hf), (fun _ _ _ _ _ hf => by cases hf), hinv.heap.glob⟩
    have hrun := stepV_run hh hreads hs ob'
    unfold Oper.wp
    rw [hrun.1]
    refine hK ρ _ _ (inv_pure h hinv (by rw [e]; exact (by decide : (0 : Nat) ≠ 2)) (by rw [e]) (by rw [e]) ?_)
    have := ok_v hk
    have e2 : r.nx = prevNx st0 tr := by rw [e]
    rw [e2]
    exact this
  | built g hbo ob hs ob' hk e =>
    rw [wanted_of h.slots h.tabok h.closed h.out h.ok.op h.bef hinv g]
    left
    have hfo : ∀ x ob, find (onesHp (tab.getD tr.length []) st0 tr) x = some ob → ob = .atom ∧ x < prevNx st0 tr ∧ bornBy (fun j => (tab.getD tr.length []).contains j) st0 tr x = true ∧ bornOne st0 tr x = true := by
      intro x ob hf
      unfold onesHp at hf
      rw [find_atoms] at hf
      cases hy : find ((prevHp st0 tr).filter fun x => bornBy (fun j => (tab.getD tr.length []).contains j) st0 tr x.1 && bornOne st0 tr x.1) x with
      | none => rw [hy] at hf; cases hf
      | some y =>
        rw [hy] at hf
        cases hf
        rw [find_filter (p := fun x => bornBy (fun j => (tab.getD tr.length []).contains j) st0 tr x && bornOne st0 tr x)] at hy
        split at hy
        · rename_i hp
          simp only [Bool.and_eq_true] at hp
          exact ⟨rfl, (keys h.gt h.base x y hy).1, hp.1, hp.2⟩
        · cases hy
    have hh : HRel ρ B (onesHp (tab.getD tr.length []) st0 tr) (prevNx st0 tr) w := by
      refine ⟨fun x ob hf => ?_, fun x ob x' ob' k hf hf' _ hb => ?_, hinv.heap.glob⟩
      · obtain ⟨rfl, h1, h2, h3⟩ := hfo x ob hf
        refine ⟨h1, trivial, ?_⟩
        have e1 : later ++ r :: tr = (later ++ [r]) ++ tr := by simp
        refine hinv.one x ?_ ?_
        · simp only [alive, Bool.and_eq_true, Nat.blt_eq]
          refine ⟨Nat.lt_of_lt_of_le h1 (Nat.le_trans h.ok.nx_le h.nx), ?_⟩
          rw [e1, born_below (by rw [← e1]; exact h.good) h1]
          exact born_mono (fun j hj => h.bef j (by simpa using hj)) _ _ h2
        · rw [e1, bornOne_below (by rw [← e1]; exact h.good) h1]
          exact h3
      · obtain ⟨rfl, _⟩ := hfo x ob hf
        cases hb
    have hrun := stepV_run hh hreads hs ob'
    unfold Oper.wp
    rw [hrun.1]
    refine hK ρ _ _ (inv_pure h hinv (by rw [e]; exact (by decide : (0 : Nat) ≠ 2)) (by rw [e]) (by rw [e]) ?_)
    have := ok_v hk
    have e2 : r.nx = prevNx st0 tr := by rw [e]
    rw [e2]
    exact this
  | load g hp hl x xo hx hf hb hst ob hs ob' hk e =>
    rw [wanted_of h.slots h.tabok h.closed h.out h.ok.op h.bef hinv g]
    left
    have hxl := (keys h.gt h.base x xo hf).1
    have hin := load_in h.low h.base h.bef h.gt hf hb hst
    have htl := (load_tail h.ok.op hl hp hx hf (by rw [e]) h.low h.tabok h.closed h.out hxl hin h.good).1
    have hok := hinv.heap.ok x xo htl
    have hh : HRel ρ B [(x, xo)] (prevNx st0 tr) w := by
      refine ⟨fun y oy hy => ?_, fun y oy y' oy' k hy hy' hne hby => ?_, hinv.heap.glob⟩
      · simp only [find] at hy
        split at hy
        · rename_i e1; subst e1; cases hy
          exact ⟨hxl, (keys h.gt h.base x xo hf).2, hok.2.2⟩
        · cases hy
      · simp only [find] at hy hy'
        split at hy
        · rename_i e1; subst e1
          rw [if_neg hne] at hy'
          cases hy'
        · cases hy
    have hrun := stepV_run hh hreads hs ob'
    unfold Oper.wp
    rw [hrun.1]
    refine hK ρ _ _ (inv_pure h hinv (by rw [e]; exact (by decide : (0 : Nat) ≠ 2)) (by rw [e]) (by rw [e]) ?_)
    have := ok_v hk
    have e2 : r.nx = prevNx st0 tr := by rw [e]
    rw [e2]
    exact this
  | mono g hp hnl hm res hs ob hk e =>
    rw [wanted_of h.slots h.tabok h.closed h.out h.ok.op h.bef hinv g]
    left
    have hsnd := step_sound hsp (seen_rel h hinv hp hnl) hinv.le hreads hs ob
    rw [hm] at hsnd
    refine hsnd K Q fun ρ' w' hl => ?_
    have ev : r.v = res.v := by rw [e]
    have en : r.nw = newsOf (prevNx st0 tr) res.hp := by rw [e]
    have ex : r.nx = res.nx := by rw [e]
    have hsub : ∀ x ob, find r.nw x = some ob → find res.hp x = some ob ∧ prevNx st0 tr ≤ x := fun x ob hf => by
      rw [en, find_news] at hf
      split at hf
      · rename_i hle; exact ⟨hf, by simpa [Nat.ble_eq] using hle⟩
      · cases hf
    have := inv_mono h hinv hp hnl (by rw [e]; exact (by decide : (1 : Nat) ≠ 2)) (by rw [ev, ex]; exact ok_v hk) (fun x ob hf => by rw [ex]; rw [en] at hf; exact (ok_hp hk hf).2) hl.agree hl.below (hl.mono rfl)
      (by rw [ex]; exact hl.heap.sub fun k o hf => (hsub k o hf).1) (fun x ob k hf hb => hl.fresh rfl x ob k (hsub x ob hf).2 (hsub x ob hf).1 hb)
    have e3 : res.v.val ρ' = r.v.val (glue ρ ρ' (prevNx st0 tr) r.nx) := by
      rw [ev]
      exact (V.val_agree (glue_new hl.agree) (by rw [ex]; exact hl.lt)).symm
    rw [e3]
    exact hK _ _ _ this
  | effect g hp hnl hf res hs ob hk e =>
    rw [wanted_of h.slots h.tabok h.closed h.out h.ok.op h.bef hinv g]
    left
    have hsnd := step_sound hsp (whole_rel h hinv hp hnl hf) hinv.le hreads hs ob
    refine hsnd K Q fun ρ' w' hl => ?_
    have ev : r.v = res.v := by rw [e]
    have eh : r.hp = res.hp := by rw [e]
    have ex : r.nx = res.nx := by rw [e]
    have := inv_effect h hinv (by rw [e]) (by rw [ev, ex]; exact ok_v hk) (fun x ob hf => by rw [ex]; rw [eh] at hf; exact (ok_hp hk hf).2) hl.agree hl.below (by rw [ex, eh]; exact hl.heap)
    have e3 : res.v.val ρ' = r.v.val (glue ρ ρ' (prevNx st0 tr) r.nx) := by
      rw [ev]
      exact (V.val_agree (glue_new hl.agree) (by rw [ex]; exact hl.lt)).symm
    rw [e3]
    exact hK _ _ _ this
def DL (l : Array Bool) (j : Nat) : Bool := l.getD j false
theorem closed_set {l : Array Bool} {i : Nat} (hc : Closed L (DL l)) (hb : ∀ o, L[i]? = some o → ∀ e ∈ o.after.toList, Region.binds .any e = true → DL l e.on = true) : Closed L (DL (l.setIfInBounds i true)) := by
  intro j o ho hD e he hbd
  by_cases hij : j = i
  · subst hij
    exact getD_set_true (hb o ho e he hbd)
  · unfold DL at hD
    rw [getD_set_ne false (Ne.symm hij)] at hD
    exact getD_set_true (hc j o ho hD e he hbd)
theorem all_listed {l : Array Bool} (hl : l.size = L.length) (he : edgesOk 0 L = true) (hr : Region.ready .any L.toArray l = []) : ∀ j, j < L.length → DL l j = true := by
  intro j
  induction j using Nat.strongRecOn with
  | _ j ih =>
    intro hj
    cases hD : DL l j with
    | true => rfl
    | false =>
      exfalso
      have hmem : j ∈ Region.ready .any L.toArray l := by
        rw [mem_ready]
        refine ⟨?_, L[j], by simp [hj], fun e hem hb => ?_⟩
        · unfold DL at hD
          simp only [Array.getD_eq_getD_getElem?, Array.getElem?_eq_getElem (show j < l.size by omega), Option.getD_some] at hD ⊢
          exact hD
        · have := edges_spec he j L[j] (by simp [hj]) e (by simpa using hem) hb
          exact ih e.on (by omega) (by omega)
      rw [hr] at hmem
      cases hmem
theorem count_set {l : Array Bool} {i : Nat} (hi : i < l.size) (h : l[i] = false) : (l.setIfInBounds i true).toList.count false + 1 = l.toList.count false := by
  have h1 : (l.setIfInBounds i true).toList = l.toList.set i true := by simp
  rw [h1, List.count_set (by simpa using hi)]
  have h2 : l.toList[i]'(by simpa using hi) = false := by simpa using h
  have h3 : 0 < l.toList.count false := List.count_pos_iff.2 (by rw [← h2]; exact List.getElem_mem _)
  rw [show l.toList[i]'(by simpa using hi) = false from h2]
  simp only [beq_self_eq_true, if_true, show (true == false) = false from rfl, Bool.false_eq_true, if_false]
  omega
theorem any_of (hsp : SpecsOK P sp) {T : List Rec} (hg : GoodTr P sp N L tab st0 T) (hlen : T.length = L.length) (hs : slotsOk L tab 0 L = true) (he : edgesOk 0 L = true) (ht : TabOK L tab) (hbase : Base st0)
    (hbt : ∀ t v, getT st0.tm t = some v → v.lt st0.nx) (hn0 : n0 ≤ st0.nx) {Q : Exit → Act → World → Prop}
    (hQ : ∀ D ρ a w, (∀ j, j < L.length → D j = true) → Inv L st0 B N n0 ρ0 w0 T D a w ρ → Q .normal a w) :
    ∀ (fuel : Nat) (l : Array Bool) (a : Act) (w : World) (ρ : Env), l.size = L.length → Closed L (DL l) → l.toList.count false ≤ fuel → Inv L st0 B N n0 ρ0 w0 T (DL l) a w ρ → wpAny P .any L.toArray Q fuel l a w := by
  intro fuel
  induction fuel with
  | zero =>
    intro l a w ρ hl hc hcount hinv
    have hall : ∀ j, j < l.size → l[j]? ≠ some false := fun j hj h => by
      have hm : false ∈ l.toList := by rw [Array.mem_toList_iff]; exact Array.mem_of_getElem? h
      have := List.count_pos_iff.2 hm
      omega
    have hr : Region.ready .any L.toArray l = [] := by
      apply List.eq_nil_iff_forall_not_mem.2
      intro j hj
      obtain ⟨h0, o, ho, _⟩ := mem_ready.1 hj
      have hlt : j < l.size := by
        have := (Array.getElem?_eq_some_iff.1 ho).1
        simp at this
        omega
      apply hall j hlt
      simp only [Array.getD_eq_getD_getElem?, Array.getElem?_eq_getElem hlt, Option.getD_some] at h0
      rw [Array.getElem?_eq_getElem hlt, h0]
    exact ⟨hr, hQ _ ρ a w (all_listed hl he hr) hinv⟩
  | succ fuel ih =>
    intro l a w ρ hl hc hcount hinv
    refine ⟨fun hr => hQ _ ρ a w (all_listed hl he hr) hinv, fun i hi => ?_⟩
    obtain ⟨h0, o, ho, hed⟩ := mem_ready.1 hi
    have ho' : L[i]? = some o := by simpa using ho
    have hiL : i < L.length := (List.getElem?_eq_some_iff.1 ho').1
    have hil : i < l.size := by omega
    have hlf : l[i] = false := by simpa [hil] using h0
    have hedge : ∀ o', L[i]? = some o' → ∀ e ∈ o'.after.toList, Region.binds .any e = true → DL l e.on = true := fun o' ho'' e hem hb => by
      rw [ho'] at ho''
      cases ho''
      exact hed e (by simpa using hem) hb
    obtain ⟨later, r, tr, o2, rfl, htl, hrec⟩ := get_rec hg (show i < T.length by omega)
    subst htl
    have hoo : o2 = o := by
      have := hrec.op
      rw [ho'] at this
      exact (Option.some.inj this).symm
    subst hoo
    have hat : At (n0 := n0) P sp N L tab st0 (DL l) (DL (l.setIfInBounds tr.length true)) later r tr o2 := by
      refine ⟨hg, hlen, hrec, hs, he, ht, hc, ?_, fun j hj => waits_in ht hc _ j hedge hj, ?_, fun j hj => ?_, hbase, hbt, hn0⟩
      · unfold DL; simp [hil, hlf]
      · unfold DL; simp [hil]
      · unfold DL; exact getD_set_ne false (Ne.symm hj)
    refine inv_op hsp hat hinv fun ρ' a' w' hinv' => ?_
    have := count_set hil hlf
    exact ih _ a' w' ρ' (by simpa using hl) (closed_set hc hedge) (by omega) hinv'
end
end Go.Sx
end

section
open Go.RowKit
namespace Go.Sx
section
variable [Globs] {P : Program} {sp : Specs} {B : Bd} {N n0 : Nat} {L : List Oper} {tab : List (List Nat)} {st0 : St} {ρ0 : Env} {w0 : World}
theorem slot_end {D : Nat → Bool} {t : Nat} : ∀ {T : List Rec}, (∀ j, j < T.length → D j = true) → slotD L D st0 t T = getT (tmTr L st0 T) t
  | [], _ => rfl
  | r :: tr, h => by
    have ih := slot_end (D := D) (t := t) (T := tr) (fun j hj => h j (by simp; omega))
    simp only [slotD, tmTr]
    rw [h tr.length (by simp)]
    cases hd : dstOf L tr.length with
    | none => simp [ih]
    | some d =>
      simp only [getT]
      by_cases e : d = t
      · simp [e]
      · simp [e, ih]
theorem heap_end {D : Nat → Bool} {T : List Rec} (hg : GoodTr P sp N L tab st0 T) : (∀ j, j < T.length → D j = true) → heapD D st0 T = prevHp st0 T := by
  induction hg with
  | nil => exact fun _ => rfl
  | @cons tr r hgt o hr ih =>
    intro h
    have ih := ih (fun j hj => h j (by simp; omega))
    simp only [heapD]
    show _ = r.hp
    rw [if_pos (h tr.length (by simp))]
    by_cases hk : r.kd = 2
    · rw [if_pos hk]
    · rw [if_neg hk, ih, (kd_other hr hk).1]
theorem drawn_any (hm : P.follows .mixedOrders = true) (hsp : SpecsOK P sp) {ops : Array Oper} {st : St} {k : St → Prop} {ρ : Env} {a : Act} {w : World} {Q : Exit → Act → World → Prop} (hd : drawX P sp N ops st k) (hr : Rel ρ B N n0 st a w) (hag : Agree n0 ρ0 ρ) (hbl : Bel B w0 w)
    (hK : ∀ (ρ' : Env) (st' : St) (a' : Act) (w' : World), Rel ρ' B N n0 st' a' w' → Agree n0 ρ0 ρ' → Bel B w0 w' → k st' → Q .normal a' w') :
    wpAny P .any ops Q ops.size (Array.replicate ops.size false) a { w with drawn := w.drawn + 1 } := by
  unfold drawX at hd
  split at hd
  · rename_i hok
    simp only [Bool.and_eq_true] at hok
    have htab : TabOK ops.toList (befs ops.toList []) := befs_ok _ _ [] (by simp) (by intro i k hk; simp [List.getD] at hk)
    obtain ⟨T, hk, hg, hlen⟩ := drun_spec ops.toList [] _ hd .nil (by simp) (by simp)
    have hbase : Base st := fun x o hf => ⟨(hr.heap.ok x o hf).1, (hr.heap.ok x o hf).2.1⟩
    have hbt : ∀ t v, getT st.tm t = some v → v.lt st.nx := fun t v h => (hr.tm t v h).1
    have hnx := nx_base hg
    have hal : ∀ x, x < st.nx → alive st T (DL (Array.replicate ops.size false)) x = true := fun x hx => by
      simp only [alive, Bool.and_eq_true, Nat.blt_eq]
      exact ⟨Nat.lt_of_lt_of_le hx hnx, born_base hx hg⟩
    have hF : ∀ j, DL (Array.replicate ops.size false) j = false := fun j => by
      unfold DL
      simp only [Array.getD_eq_getD_getElem?, Array.getElem?_replicate]
      split <;> rfl
    have hslot : ∀ t (T : List Rec), slotD ops.toList (DL (Array.replicate ops.size false)) st t T = getT st.tm t := fun t T => by
      induction T with
      | nil => rfl
      | cons r tr ih => simp only [slotD, hF]; simpa using ih
    have hheap : ∀ (T : List Rec), heapD (DL (Array.replicate ops.size false)) st T = st.hp := fun T => by
      induction T with
      | nil => rfl
      | cons r tr ih => simp only [heapD, hF]; simpa using ih
    have hbw : Below w.heap.size w { w with drawn := w.drawn + 1 } := ⟨rfl, rfl, rfl, Nat.le_refl _, fun _ _ => rfl⟩
    have hinv : Inv ops.toList st B N n0 ρ0 w0 T (DL (Array.replicate ops.size false)) a { w with drawn := w.drawn + 1 } ρ := by
      refine ⟨fun t v hv => ?_, hr.size, hr.defers, ?_, fun x o hf => ?_, hr.le, hag, ⟨hbl.os, hbl.tape, hbl.output, hbl.size, hbl.block⟩, fun x => ?_⟩
      · rw [hslot] at hv
        exact ⟨V.allB_of_lt hal (hr.tm t v hv).1, (hr.tm t v hv).2⟩
      · rw [hheap]
        exact (hr.heap.below hbw hr.le).mono_nx hnx
      · rw [hheap] at hf
        exact ⟨hal x (hbase x o hf).1, O.allB_of_lt hal (hbase x o hf).2⟩
      · have hfb : ∀ (T : List Rec), GoodTr P sp N ops.toList (befs ops.toList []) st T → x < prevNx st T → bornBy (DL (Array.replicate ops.size false)) st T x = true → x < st.nx := fun T hg => by
          induction hg with
          | nil => exact fun h _ => h
          | @cons tr r h' o hr ih =>
            intro hlt hb
            simp only [bornBy] at hb
            split at hb
            · rw [hF] at hb; cases hb
            · rename_i hb'
              exact ih (Nat.lt_of_not_le fun hc => by rw [Nat.ble_eq_true_of_le hc] at hb'; cases hb') hb
        intro hx hb
        simp only [alive, Bool.and_eq_true, Nat.blt_eq] at hx
        have hlt := hfb T hg hx.1 hx.2
        rw [bornOne_base hlt hg] at hb
        exact C.one_val (c := .o x) hr.heap hb
    have := any_of (Q := Q) (n0 := n0) (B := B) (ρ0 := ρ0) (w0 := w0) hsp hg hlen hok.1 hok.2 htab hbase hbt hr.n0 (fun D ρ' a' w' hall hi => ?_) ops.size (Array.replicate ops.size false) a _ ρ (by simp) (fun j o _ hD => by rw [hF] at hD; cases hD) (by simp) hinv
    · simpa using this
    · have hall' : ∀ j, j < T.length → D j = true := fun j hj => hall j (by omega)
      refine hK ρ' (endSt ops.toList st T) a' w' ⟨fun t v hv => ?_, hi.size, hi.defers, ?_, hi.le, Nat.le_trans hr.n0 hnx⟩ hi.agree hi.below hk
      · have h1 := hi.tm t v (by rw [slot_end hall']; exact hv)
        refine ⟨V.lt_of_allB (fun x hx => ?_) h1.1, h1.2⟩
        simp only [alive, Bool.and_eq_true, Nat.blt_eq] at hx
        exact hx.1
      · have := hi.heap
        rw [heap_end hg hall'] at this
        exact this
  · exact hd.elim
theorem drawn_ok (hm : P.follows .mixedOrders = true) (hsp : SpecsOK P sp) : DrawnOK P B N n0 ρ0 w0 (drawX P sp N) := by
  intro id ops st k ρ a w Q hd hr hag hbl hK
  exact wp_region_any hm (drawn_any hm hsp hd hr hag hbl hK)
end
end Go.Sx
end

section
open Go.RowKit
namespace Go.Sx
inductive A where
  | d (x : D)
  | s (l : List D)
  | r (c : Cont)
  | f (n : Nat)
inductive RV where
  | d (x : D)
  | s (l : List D)
  | row (ty : Nat) (c : Cont)
def toA (hp : Hp) : V → Option A
  | .w (.c (.d x)) => some (.d x)
  | .w (.a l) => (dsOf l).map .s
  | .w (.c (.fn n [])) => some (.f n)
  | .w (.c (.o h)) => match (find hp h).bind O.cont with
    | some c => match c.e with
      | 0 => none
      | _ + 1 => some (.r c)
    | none => none
  | _ => none
def argV (n : Nat) : A → V
  | .d x => .w (.c (.d x))
  | .s l => .w (.a (l.map C.d))
  | .r _ => .w (.c (.o n))
  | .f g => .w (.c (.fn g []))
def argVs : Nat → List A → List V
  | _, [] => []
  | n, a :: l => argV n a :: argVs (n + 1) l
def argHp : Nat → List A → Hp
  | _, [] => []
  | n, .r c :: l => (n, .ext c) :: argHp (n + 1) l
  | n, _ :: l => argHp (n + 1) l
def rvW : Nat → List RV → List W
  | _, [] => []
  | n, .d x :: l => .c (.d x) :: rvW n l
  | n, .s c :: l => .a (c.map C.d) :: rvW n l
  | n, .row _ _ :: l => .c (.o n) :: rvW (n + 1) l
def rvHp : Nat → List RV → Hp → Hp
  | _, [], hp => hp
  | n, .row ty c :: l, hp => rvHp (n + 1) l ((n, .row ty c) :: hp)
  | n, .d _ :: l, hp => rvHp n l hp
  | n, .s _ :: l, hp => rvHp n l hp
def rvNx : Nat → List RV → Nat
  | n, [] => n
  | n, .row _ _ :: l => rvNx (n + 1) l
  | n, .d _ :: l => rvNx n l
  | n, .s _ :: l => rvNx n l
def sameDs : List D → List D → Prop → Prop
  | [], [], k => k
  | x :: l, y :: m, k => mD y x ∧ sameDs l m k
  | _, _, _ => False
theorem sameDs_spec [Globs] {k : Prop} : ∀ {l m : List D}, sameDs l m k → l = m ∧ k
  | [], [], h => ⟨rfl, h⟩
  | x :: l, y :: m, h => by
    have := sameDs_spec h.2
    exact ⟨by rw [mD_spec h.1, this.1], this.2⟩
  | [], _ :: _, h => h.elim
  | _ :: _, [], h => h.elim
def fitsW (hp : Hp) : List RV → List W → List Nat → Prop
  | [], [], _ => True
  | .d x :: rs, .c (.d y) :: ws, us => mD x y ∧ fitsW hp rs ws us
  | .s l :: rs, .a cs :: ws, us => match dsOf cs with
    | some ds => sameDs ds l (fitsW hp rs ws us)
    | none => False
  | .row ty c :: rs, .c (.o h) :: ws, us => match us.contains h with
    | true => False
    | false => match find hp h with
      | some (.row ty' c') => match Nat.beq ty' ty with
        | true => mCont c c' ∧ fitsW hp rs ws (h :: us)
        | false => False
      | _ => False
  | .row _ c :: rs, .c (.d (.v (.slice none 0 0))) :: ws, us => Ob (c.n = 0) ∧ fitsW hp rs ws us
  | _, _, _ => False
def fitsV (rs : List RV) (v : V) (hp : Hp) : Prop := match v with
  | .w u => fitsW hp rs [u] []
  | .t [_] => False
  | .t l => fitsW hp rs l []
theorem enter_ok {P : Program} {f : Nat} {fn : Func} {body : Code} (hf : P.funcs[f]? = some fn) (hb : fn.body = some body) (hn : (fn.name == "runtime.NumGoroutine") = false) (args : Array Value) (w : World) :
    (callFunc f args).run P w = .ok (.enter f args) w := by
  unfold callFunc
  simp only [Sem.run_bind, run_program, Result.andThen_ok, hf, hn, Bool.false_eq_true, if_false, hb, Option.isNone_some]
  rfl
theorem SpecOK.sound [Globs] {P : Program} {f : Nat} {fn : Func} {body : Code} {M : Bool} {S : Spec} (h : SpecOK P f M S) (hf : P.funcs[f]? = some fn) (hb : fn.body = some body) (hn : (fn.name == "runtime.NumGoroutine") = false) : RunOK P f M S := by
  rcases h with h | h
  · exact h
  · refine ⟨enter_ok hf hb hn, fun ρ B w args hp nx t hS hob hlt hh hB => ?_⟩
    obtain ⟨ob, v, _, _, hrun⟩ := h ρ B w args hp nx t hS hob hlt hh hB
    rw [enter_ok hf hb hn] at hrun
    cases hrun
section
variable [Globs] {P : Program} {sp : Specs} {ρ : Env} {B : Bd} {nx : Nat} {hp : Hp} {w w' : World}
theorem glob_all (h : GlobOK B w) (hB : Old B w) : GlobOK (fun k => k < w.heap.size) w := h.sub hB
theorem HRel.add1 (h : HRel ρ B hp nx w) {v : Value} {o : O} (hl : o.lt (nx + 1)) (ho : o.ok (upd ρ nx v) B w nx) (hap : ∀ k o' b, find hp k = some o' → o'.blk (ρ k) = some b → o.blk v ≠ some b) :
    HRel (upd ρ nx v) B ((nx, o) :: hp) (nx + 1) w := by
  have h1 := (h.agree (upd_agree ρ nx v)).mono_nx (Nat.le_succ nx)
  refine ⟨?_, ?_, h1.glob⟩
  · intro k o' hf
    simp only [find] at hf
    split at hf
    · rename_i e; subst e; cases hf; exact ⟨by omega, hl, ho⟩
    · exact h1.ok k o' hf
  · intro k o1 k' o2 b hf hf' hne hb hb'
    simp only [find] at hf hf'
    split at hf
    · rename_i e
      subst e
      cases hf
      rw [if_neg hne] at hf'
      rw [upd_same] at hb
      rw [upd_agree ρ nx v k' (h.ok k' o2 hf').1] at hb'
      exact hap k' o2 b hf' hb' hb
    · split at hf'
      · rename_i e
        subst e
        cases hf'
        rw [upd_same] at hb'
        rw [upd_agree ρ nx v k (h.ok k o1 hf).1] at hb
        exact hap k o1 b hf hb hb'
      · exact h1.apart k o1 k' o2 b hf hf' hne hb hb'
theorem rv_spec {B0 : Bd} {hp' : Hp} {nx' : Nat} {ρ' : Env} {m : Nat} {us0 : List Nat} (hB0 : ∀ k, k < m → B0 k ∨ ∀ u o b, us0.contains u = false → find hp' u = some o → (∃ ty c, o = .row ty c) → o.blk (ρ' u) = some b → b ≠ k) (hBm : ∀ k, B k → k < m) (hh' : HRel ρ' B0 hp' nx' w') :
    ∀ (rs : List RV) (ws : List W) (us : List Nat) (nx : Nat) (hp : Hp) (ρ : Env), (∀ x, us0.contains x = true → us.contains x = true) → fitsW hp' rs ws us → HRel ρ B hp nx w' →
      (∀ k o b, find hp k = some o → o.blk (ρ k) = some b → b < m ∨ ∃ u ∈ us, ∃ ou, find hp' u = some ou ∧ ou.blk (ρ' u) = some b) →
      ∃ ρ'', Agree nx ρ ρ'' ∧ HRel ρ'' B (rvHp nx rs hp) (rvNx nx rs) w' ∧ nx ≤ rvNx nx rs ∧ (∀ x ∈ rvW nx rs, W.lt (rvNx nx rs) x) ∧ ws.map (W.val ρ') = (rvW nx rs).map (W.val ρ'') ∧
        ∀ h o k, find (rvHp nx rs hp) h = some o → (nx ≤ h → o.blk (ρ'' h) = some k → m ≤ k) ∧ (h < nx → find hp h = some o)
  | [], ws, us, nx, hp, ρ, _, hf, hh, _ => by
    cases ws with
    | nil => exact ⟨ρ, Agree.refl _ _, hh, Nat.le_refl _, (fun _ h => by cases h), rfl, fun h o k hf => ⟨fun hle _ => absurd (hh.ok h o hf).1 (by omega), fun _ => hf⟩⟩
    | cons w ws => cases w <;> exact hf.elim
  | .d x :: rs, ws, us, nx, hp, ρ, hsu, hf, hh, hinv => by
    match ws, hf with
    | .c (.d y) :: ws, hf =>
      obtain ⟨ρ'', h1, h2, h3, h4, h5, h6⟩ := rv_spec hB0 hBm hh' rs ws us nx hp ρ hsu hf.2 hh hinv
      refine ⟨ρ'', h1, h2, h3, fun u hu => ?_, ?_, h6⟩
      · rcases List.mem_cons.1 hu with rfl | hu
        · trivial
        · exact h4 u hu
      · rw [← mD_spec hf.1]
        simp only [List.map_cons, rvW, h5]
        rfl
  | .s l :: rs, ws, us, nx, hp, ρ, hsu, hf, hh, hinv => by
    match ws, hf with
    | .a cs :: ws, hf =>
      simp only [fitsW] at hf
      split at hf
      · rename_i ds hds
        obtain ⟨hl, hf2⟩ := sameDs_spec hf
        subst hl
        obtain ⟨ρ'', h1, h2, h3, h4, h5, h6⟩ := rv_spec hB0 hBm hh' rs ws us nx hp ρ hsu hf2 hh hinv
        refine ⟨ρ'', h1, h2, h3, fun u hu => ?_, ?_, h6⟩
        · rcases List.mem_cons.1 hu with rfl | hu
          · intro x hx
            obtain ⟨y, _, rfl⟩ := List.mem_map.1 hx
            trivial
          · exact h4 u hu
        · rw [dsOf_eq hds]
          simp only [List.map_cons, rvW, h5]
          congr 1
          simp [W.val, C.val, Function.comp_def]
      · exact hf.elim
  | .row ty c :: rs, ws, us, nx, hp, ρ, hsu, hf, hh, hinv => by
    match ws, hf with
    | .c (.o h) :: ws, hq =>
      rw [fitsW] at hq
      split at hq
      · exact hq.elim
      · rename_i hus
        split at hq
        · rename_i ty' c' hfind
          split at hq
          · rename_i hty
            have hty : ty' = ty := Nat.eq_of_beq_eq_true hty
            subst hty
            have hc := (mCont_spec hq.1).symm
            subst hc
            have hok := (hh'.ok h _ hfind).2.2
            have hblk : ∀ b, (ρ' h).ownBlock = some b → m ≤ b := fun b hb => by
              rcases Nat.lt_or_ge b m with hlt | hge
              · rcases hB0 b hlt with h1 | h1
                · exact absurd h1 (hok.2 b hb)
                · have hu0 : us0.contains h = false := by
                    cases hc : us0.contains h with
                    | false => rfl
                    | true => rw [hsu h hc] at hus; cases hus
                  exact absurd rfl (h1 h _ b hu0 hfind ⟨_, _, rfl⟩ hb)
              · exact hge
            have hadd := hh.add1 (v := ρ' h) (o := .row ty' c') trivial (by
              refine ⟨by rw [upd_same]; exact hok.1, fun b hb hBb => ?_⟩
              rw [upd_same] at hb
              have := hblk b hb
              have := hBm b hBb
              omega) (fun k o' b hk hb hb2 => by
                rcases hinv k o' b hk hb with h1 | ⟨u, hu, ou, h1, h2⟩
                · have := hblk b hb2; omega
                · refine hh'.apart h _ u ou b hfind h1 (fun e => ?_) hb2 h2
                  subst e
                  rw [List.contains_iff_mem.2 hu] at hus
                  cases hus)
            obtain ⟨ρ'', h1, h2, h3, h4, h5, h6⟩ := rv_spec hB0 hBm hh' rs ws (h :: us) (nx + 1) ((nx, .row ty' c') :: hp) (upd ρ nx (ρ' h)) (fun x hx => by have := hsu x hx; simp at this ⊢; exact .inr this) hq.2 hadd (fun k o b hk hb => by
              simp only [find] at hk
              split at hk
              · rename_i e
                subst e
                cases hk
                rw [upd_same] at hb
                exact .inr ⟨h, List.mem_cons_self, _, hfind, hb⟩
              · rw [upd_agree ρ nx (ρ' h) k (hh.ok k o hk).1] at hb
                rcases hinv k o b hk hb with h1 | ⟨u, hu, ou, h1, h2⟩
                · exact .inl h1
                · exact .inr ⟨u, List.mem_cons_of_mem _ hu, ou, h1, h2⟩)
            have hnx : ρ'' nx = ρ' h := by rw [h1 nx (Nat.lt_succ_self nx), upd_same]
            refine ⟨ρ'', fun k hk => by rw [h1 k (by omega), upd_agree ρ nx (ρ' h) k hk], h2, by unfold rvNx; omega, fun u hu => ?_, ?_, fun k o b hk => ?_⟩
            · rcases List.mem_cons.1 hu with rfl | hu
              · exact Nat.lt_of_lt_of_le (Nat.lt_succ_self nx) h3
              · exact h4 u hu
            · simp only [List.map_cons, rvW, h5]
              congr 1
              exact hnx.symm
            · have h7 := h6 k o b hk
              refine ⟨fun hle hb => ?_, fun hlt => ?_⟩
              · by_cases hle2 : nx + 1 ≤ k
                · exact h7.1 hle2 hb
                · have e : k = nx := by omega
                  subst e
                  have h8 := h7.2 (Nat.lt_succ_self k)
                  simp only [find, if_true] at h8
                  cases h8
                  rw [hnx] at hb
                  exact hblk b hb
              · have h8 := h7.2 (by omega)
                simp only [find] at h8
                rw [if_neg (by omega)] at h8
                exact h8
          · exact hq.elim
        · exact hq.elim
    | .c (.d (.v (.slice none 0 0))) :: ws, hf =>
      simp only [fitsW] at hf
      have hn := hf.1.h
      have hfl : c.flat = [] := List.eq_nil_of_length_eq_zero (by rw [Cont.flat_length, hn, Nat.zero_mul])
      have hadd := hh.add1 (v := .slice none 0 0) (o := .row ty c) trivial (by
        refine ⟨?_, fun b hb => ?_⟩
        · rw [upd_same, hfl, hn]
          exact World.ownsRow_nil w' 0 ty c.e
        · rw [upd_same] at hb; cases hb) (fun k o' b hk hb hb2 => by cases hb2)
      obtain ⟨ρ'', h1, h2, h3, h4, h5, h6⟩ := rv_spec hB0 hBm hh' rs ws us (nx + 1) ((nx, .row ty c) :: hp) (upd ρ nx (.slice none 0 0)) hsu hf.2 hadd (fun k o b hk hb => by
        simp only [find] at hk
        split at hk
        · rename_i e
          subst e
          cases hk
          rw [upd_same] at hb
          cases hb
        · rw [upd_agree ρ nx _ k (hh.ok k o hk).1] at hb
          exact hinv k o b hk hb)
      have hnx : ρ'' nx = .slice none 0 0 := by rw [h1 nx (Nat.lt_succ_self nx), upd_same]
      refine ⟨ρ'', fun k hk => by rw [h1 k (by omega), upd_agree ρ nx _ k hk], h2, by unfold rvNx; omega, fun u hu => ?_, ?_, fun k o b hk => ?_⟩
      · rcases List.mem_cons.1 hu with rfl | hu
        · exact Nat.lt_of_lt_of_le (Nat.lt_succ_self nx) h3
        · exact h4 u hu
      · simp only [List.map_cons, rvW, h5]
        congr 1
        exact hnx.symm
      · have h7 := h6 k o b hk
        refine ⟨fun hle hb => ?_, fun hlt => ?_⟩
        · by_cases hle2 : nx + 1 ≤ k
          · exact h7.1 hle2 hb
          · have e : k = nx := by omega
            subst e
            have h8 := h7.2 (Nat.lt_succ_self k)
            simp only [find, if_true] at h8
            cases h8
            rw [hnx] at hb
            cases hb
        · have h8 := h7.2 (by omega)
          simp only [find] at h8
          rw [if_neg (by omega)] at h8
          exact h8
end
end Go.Sx
end

section
open Go.RowKit
namespace Go.Sx
def O.own : O → Bool
  | .box _ cs => cs.all fun c => match c with
    | .d _ => true
    | _ => false
  | .row _ _ => true
  | _ => false
def mOwn : O → O → Prop → Prop
  | .row ty c, .row ty' c', k => match Nat.beq ty ty' with
    | true => mCont c c' ∧ k
    | false => False
  | .box ty cs, .box ty' cs', k => match Nat.beq ty ty', dsOf cs, dsOf cs' with
    | true, some ds, some ds' => sameDs ds' ds k
    | _, _, _ => False
  | _, _, _ => False
def fitsU (rs : List RV) (v : V) (hp : Hp) : Prop := match v with
  | .w u => fitsW hp rs [u] [0]
  | .t [_] => False
  | .t l => fitsW hp rs l [0]
def fitsE (o' : O) (rs : List RV) (v : V) (hp : Hp) : Prop := match find hp 0 with
  | some o1 => mOwn o' o1 (fitsU rs v hp)
  | none => False
section
variable [Globs] {P : Program} {sp : Specs}
end
end Go.Sx
end

section
open Go.RowKit
namespace Go.Sx
def toAK (q : Option Cont) (hp : Hp) (v : V) : Option A :=
  match q with
  | none => toA hp v
  | some c0 => match v.nils?, c0.n, c0.e with
    | true, 0, _ + 1 => some (.r c0)
    | _, _, _ => toA hp v
def toAsK : List (Option Cont) → Hp → List V → Option (List A)
  | _, _, [] => some []
  | qs, hp, v :: l => match toAK (qs.headD none) hp v, toAsK qs.tail hp l with
    | some a, some r => some (a :: r)
    | _, _ => none
def pureK (qs : List (Option Cont)) (g : List A → Option (Prop × List RV)) : Spec := fun vs hp nx =>
  match toAsK qs hp vs with
  | some asq => match g asq with
    | some (ob, rs) => some (.leaf ⟨ob, tupV (rvW nx rs), rvHp nx rs hp, rvNx nx rs⟩)
    | none => none
  | none => none
section
variable [Globs] {P : Program} {sp : Specs} {ρ : Env} {B : Bd} {nx : Nat} {hp : Hp} {w w' : World}
theorem nils_eq {v : V} (h : v.nils? = true) : v = .w (.c (.d (.v (.slice none 0 0)))) := by
  unfold V.nils? at h
  split at h
  · rfl
  · cases h
theorem toA_spec (hh : HRel ρ B hp nx w) {v : V} {a : A} (ha : toA hp v = some a) (n m : Nat) (ρ0 : Env) (h0 : ρ0 n = v.val ρ) :
    (argV n a).val ρ0 = v.val ρ ∧ V.lt (n + (m + 1)) (argV n a) ∧ ∀ c, a = .r c → IsRow w (ρ0 n) c ∧ OldRow (fun k => k < w.heap.size) (ρ0 n) := by
  unfold toA at ha
  split at ha
  · cases ha; exact ⟨rfl, trivial, fun _ h => by cases h⟩
  · rename_i l
    cases hd : dsOf l with
    | none => simp [hd] at ha
    | some ds =>
      simp only [hd, Option.map_some, Option.some.injEq] at ha
      subst ha
      rw [dsOf_eq hd]
      refine ⟨?_, (fun x hx => ?_), fun _ h => by cases h⟩
      · simp [argV, V.val, W.val, C.val, Function.comp_def]
      · obtain ⟨y, _, rfl⟩ := List.mem_map.1 hx
        trivial
  · cases ha
    exact ⟨rfl, (fun _ h => by cases h), fun _ h => by cases h⟩
  · rename_i k
    split at ha
    · rename_i c hc
      split at ha
      · cases ha
      · rename_i e he
        cases ha
        cases hf : find hp k with
        | none => simp [hf] at hc
        | some o =>
          simp only [hf, Option.bind_some] at hc
          have hrow := row_isRow (hh.ok k o hf).2.2 hc
          have e0 : ρ0 n = ρ k := h0
          refine ⟨e0, (show n < n + (m + 1) by omega), fun c' hc' => ?_⟩
          cases hc'
          rw [e0]
          exact ⟨hrow, IsRow.lt hrow (by omega)⟩
    · cases ha
  · cases ha
theorem toAK_spec (hh : HRel ρ B hp nx w) {q : Option Cont} {v : V} {a : A} (ha : toAK q hp v = some a) (n m : Nat) (ρ0 : Env) (h0 : ρ0 n = v.val ρ) :
    (argV n a).val ρ0 = v.val ρ ∧ V.lt (n + (m + 1)) (argV n a) ∧ ∀ c, a = .r c → IsRow w (ρ0 n) c ∧ OldRow (fun k => k < w.heap.size) (ρ0 n) := by
  unfold toAK at ha
  split at ha
  · exact toA_spec hh ha n m ρ0 h0
  · rename_i c0
    split at ha
    · rename_i e hn hc he
      cases ha
      have hv := nils_eq hn
      subst hv
      refine ⟨h0, (show n < n + (m + 1) by omega), fun c' hc' => ?_⟩
      cases hc'
      rw [h0]
      refine ⟨⟨none, 0, by rw [hc]; rfl, ⟨by omega, fun _ => rfl⟩, fun h => by omega⟩, fun a n cap h _ => ?_⟩
      cases h
    · exact toA_spec hh ha n m ρ0 h0
theorem toAsK_spec (hh : HRel ρ B hp nx w) : ∀ (qs : List (Option Cont)) (vs : List V) (asq : List A) (n : Nat) (ρ0 : Env), toAsK qs hp vs = some asq → (∀ i v, vs[i]? = some v → ρ0 (n + i) = v.val ρ) →
    (argVs n asq).map (V.val ρ0) = vs.map (V.val ρ) ∧ asq.length = vs.length ∧ (∀ x ∈ argVs n asq, V.lt (n + asq.length) x) ∧
      ∀ h o, find (argHp n asq) h = some o → n ≤ h ∧ h < n + asq.length ∧ ∃ c, o = .ext c ∧ IsRow w (ρ0 h) c ∧ OldRow (fun k => k < w.heap.size) (ρ0 h)
  | _, [], asq, n, ρ0, h, _ => by
    simp only [toAsK, Option.some.injEq] at h
    subst h
    exact ⟨rfl, rfl, (fun _ h => by cases h), fun _ _ h => by cases h⟩
  | qs, v :: vs, asq, n, ρ0, h, hρ => by
    simp only [toAsK] at h
    split at h
    · rename_i a r ha hr
      cases h
      have ih := toAsK_spec hh qs.tail vs r (n + 1) ρ0 hr (fun i v hv => by rw [show n + 1 + i = n + (i + 1) by omega]; exact hρ (i + 1) v (by simpa using hv))
      have h0 := hρ 0 v rfl
      rw [Nat.add_zero] at h0
      have hv := toAK_spec hh ha n r.length ρ0 h0
      have hag : ∀ x, V.lt (n + 1 + r.length) x → V.lt (n + (r.length + 1)) x := fun x hx => V.lt_mono (by omega) hx
      refine ⟨by simp only [argVs, List.map_cons, hv.1, ih.1], by simp [ih.2.1], fun x hx => ?_, fun h o hf => ?_⟩
      · rcases List.mem_cons.1 hx with rfl | hx
        · simpa using hv.2.1
        · simpa using hag x (ih.2.2.1 x hx)
      · cases a with
        | r c =>
          simp only [argHp, find] at hf
          split at hf
          · rename_i e
            subst e
            cases hf
            exact ⟨Nat.le_refl _, by simp, c, rfl, hv.2.2 c rfl⟩
          · have := ih.2.2.2 h o hf
            simp only [List.length_cons]
            exact ⟨by omega, by omega, this.2.2⟩
        | d x => have := ih.2.2.2 h o hf; simp only [List.length_cons]; exact ⟨by omega, by omega, this.2.2⟩
        | s x => have := ih.2.2.2 h o hf; simp only [List.length_cons]; exact ⟨by omega, by omega, this.2.2⟩
        | f x => have := ih.2.2.2 h o hf; simp only [List.length_cons]; exact ⟨by omega, by omega, this.2.2⟩
    · cases h
theorem pureK_ok {f : Nat} {fn : Func} {body : Code} {qs : List (Option Cont)} {g : List A → Option (Prop × List RV)} (hm : P.follows .mixedOrders = true) (hsp : SpecsOK P sp) (hf : P.funcs[f]? = some fn) (hb : fn.body = some body) (hn : (fn.name == "runtime.NumGoroutine") = false)
    (h : ∀ asq ob rs, g asq = some (ob, rs) → ob → asq.length ≤ fn.ntmps ∧ ∃ fuel loops, sx P sp fn.ntmps asq.length fuel loops (drawX P sp fn.ntmps) body 0 [] ⟨argsTm 0 (argVs 0 asq), argHp 0 asq, asq.length⟩ (retX P fn.results.toList fun v hp _ => fitsV rs v hp)) :
    SpecOK P f true (pureK qs g) := by
  refine .inl ⟨enter_ok hf hb hn, fun ρ B w args hp nx r hS hob hlt hh hB => ?_⟩
  unfold pureK at hS
  split at hS
  · rename_i asq has
    split at hS
    · rename_i ob rs hg
      cases hS
      obtain ⟨hlen, fuel, loops, hx⟩ := h asq ob rs hg hob
      have hto := toAsK_spec hh qs args asq 0 (fun i => (args[i]?.map (V.val ρ)).getD undef) has (fun i v hv => by simp [hv])
      have hal : (argVs 0 asq).length = asq.length := by
        have : ∀ (l : List A) (n : Nat), (argVs n l).length = l.length := fun l => by
          induction l with
          | nil => exact fun _ => rfl
          | cons a l ih => exact fun n => by simp [argVs, ih]
        exact this asq 0
      have hh0 : HRel (fun i => (args[i]?.map (V.val ρ)).getD undef) (fun k => k < w.heap.size) (argHp 0 asq) asq.length w := by
        refine ⟨fun x o hf => ?_, fun x o x' o' k hf hf' _ hb => ?_, glob_all hh.glob hB⟩
        · obtain ⟨_, h2, c, rfl, h3, h4⟩ := hto.2.2.2 x o hf
          exact ⟨by omega, trivial, h3, h4⟩
        · obtain ⟨_, _, c, rfl, _, _⟩ := hto.2.2.2 x o hf
          cases hb
      have hcalls := fn_sound (n0 := asq.length) (B := fun k => k < w.heap.size) hsp (fun ρ w => drawn_ok hm hsp) hf hb (by rw [hal]; exact hlen) hx (fun x hx => by simpa using hto.2.2.1 x hx) (Nat.le_refl _) _ w hh0 (fun k hk => hk)
      rw [hto.1] at hcalls
      refine hcalls.mono ?_
      rintro e w' ⟨ρ', v, hp', nx', rfl, hvlt, hag, hh', hbel, _, hfit⟩
      have hbw : Below w.heap.size w w' := hbel.below
      have hh1 := hh.below hbw hB
      obtain ⟨ws, hws, hfw⟩ : ∃ ws, (tupV ws).val ρ' = v.val ρ' ∧ fitsW hp' rs ws [] := by
        match v, hfit with
        | .w u, hfit => exact ⟨[u], rfl, hfit⟩
        | .t [], hfit => exact ⟨[], rfl, hfit⟩
        | .t (x :: y :: l), hfit => exact ⟨x :: y :: l, rfl, hfit⟩
      obtain ⟨ρ'', h1, h2, h3, h4, h5, h6⟩ := rv_spec (m := w.heap.size) (us0 := []) (fun k hk => .inl hk) hB hh' rs ws [] nx hp ρ (fun _ h => h) hfw hh1 (fun k o b hk hb => .inl (O.blk_lt (hh.ok k o hk).2.2 hb).1)
      refine ⟨ρ'', ?_, h1, tupV_lt h4, h3, h2, bel_of hbw hB, fun _ => hbw, fun _ h o k hle hf hb => (h6 h o k hf).1 hle hb⟩
      show Ending.returned _ = Ending.returned ((tupV (rvW nx rs)).val ρ'')
      rw [← hws, tupV_val, tupV_val]
      simp only [h5]
    · cases hS
  · cases hS
end
end Go.Sx
end

section
open Go.RowKit
namespace Go.Sx
inductive Sh where
  | d
  | r (c0 : Cont)
  | x (x0 : XC)
  | p (l : List Sh)
  | f (g : Nat) (l : List Sh)
inductive SV where
  | c (x : Sh)
  | a (l : List Sh)
  | b (k : FloatKind) (e : Nat)
inductive Lf where
  | d (x : D)
  | n (k : FloatKind)
  | r (c : Cont)
  | x (x : XC)
  | b (k : FloatKind) (e : Nat) (r : List Nat)
def nilC : C → Bool
  | .d (.v (.slice none 0 0)) => true
  | _ => false
def boxCells (hp : Hp) (h : Nat) : Option (List C) := match find hp h with
  | some (.box _ cs) => some cs
  | some (.ebox cs) => some cs
  | _ => none
def isP : Sh → Bool
  | .p _ => true
  | _ => false
def travL (f : Sh → C → Option (List Lf × List C)) : List Sh → List C → Option (List Lf × List C)
  | [], [] => some ([], [])
  | s :: l, c :: cs => match f s c, travL f l cs with
    | some (a, x), some (b, y) => some (a ++ b, x ++ y)
    | _, _ => none
  | _, _ => none
def toC (hp : Hp) : Nat → Sh → C → Option (List Lf × List C)
  | 0, _, _ => none
  | n + 1, s, c =>
    match s with
    | .d => match c with
      | .d x => some ([.d x], [])
      | .o h => match find hp h with
        | some (.nan k) => some ([.n k], [c])
        | _ => none
      | _ => none
    | .r c0 => match nilC c with
      | true => match c0.n, c0.e with
        | 0, _ + 1 => some ([.r c0], [c])
        | _, _ => none
      | false => match c with
        | .o h => match (find hp h).bind O.cont with
          | some x => match x.e with
            | 0 => none
            | _ + 1 => some ([.r x], [c])
          | none => none
        | _ => none
    | .x x0 => match nilC c with
      | true => match x0.n with
        | 0 => some ([.x x0], [c])
        | _ => none
      | false => match c with
        | .o h => match find hp h with
          | some (.xext X) => some ([.x X], [c])
          | _ => none
        | _ => none
    | .p l => match c with
      | .p h 0 _ 0 => match boxCells hp h with
        | some cs => (travL (toC hp n) l cs).map fun (a, x) => (a, x ++ [c])
        | none => none
      | .o h => match boxCells hp h with
        | some cs => (travL (toC hp n) l cs).map fun (a, x) => (a, x ++ [c])
        | none => none
      | _ => none
    | .f g l => match c with
      | .fn g' hs => match Nat.beq g g', l.all isP with
        | true, true => travL (toC hp n) l (hs.map C.o)
        | _, _ => none
      | _ => none
def toV (hp : Hp) (s : SV) (v : V) : Option (List Lf × List C) :=
  match s, v with
  | .c s, .w (.c c) => toC hp 8 s c
  | .a l, .w (.a cs) => travL (toC hp 8) l cs
  | .b k e, .w (.b k' e' r) => match sameK k k', Nat.beq e e' with
    | true, true => some ([.b k e r], [])
    | _, _ => none
  | .b k e, .w (.a cs) => match fltCells k cs with
    | some r => match Nat.beq e r.length with
      | true => some ([.b k e r], [])
      | false => none
    | none => none
  | _, _ => none
def toVs (hp : Hp) : List SV → List V → Option (List Lf × List C)
  | [], [] => some ([], [])
  | s :: l, v :: vs => match toV hp s v, toVs hp l vs with
    | some (a, x), some (b, y) => some (a ++ b, x ++ y)
    | _, _ => none
  | _, _ => none
structure Bt where
  cs : List C
  hp : Hp
  n : Nat
  ls : List Lf
def bldL (f : Sh → Nat → List Lf → Option Bt) : List Sh → Nat → List Lf → Option Bt
  | [], n, ls => some ⟨[], [], n, ls⟩
  | s :: l, n, ls => match f s n ls with
    | some a => match bldL f l a.n a.ls with
      | some b => some ⟨a.cs ++ b.cs, b.hp ++ a.hp, b.n, b.ls⟩
      | none => none
    | none => none
def hOf : C → Nat
  | .p h _ _ _ => h
  | .o h => h
  | _ => 0
def bldC : Nat → Sh → Nat → List Lf → Option Bt
  | 0, _, _, _ => none
  | m + 1, s, n, ls =>
    match s with
    | .d => match ls with
      | .d x :: r => some ⟨[.d x], [], n, r⟩
      | .n k :: r => some ⟨[.o n], [(n, .nan k)], n + 1, r⟩
      | _ => none
    | .r _ => match ls with
      | .r c :: r => some ⟨[.o n], [(n, .ext c)], n + 1, r⟩
      | _ => none
    | .x _ => match ls with
      | .x X :: r => some ⟨[.o n], [(n, .xext X)], n + 1, r⟩
      | _ => none
    | .p l => match bldL (bldC m) l n ls with
      | some b => some ⟨[.p b.n 0 1 0], (b.n, .ebox b.cs) :: b.hp, b.n + 1, b.ls⟩
      | none => none
    | .f g l => match bldL (bldC m) l n ls with
      | some b => some ⟨[.fn g (b.cs.map hOf)], b.hp, b.n, b.ls⟩
      | none => none
structure Bv where
  vs : List V
  hp : Hp
  n : Nat
  ls : List Lf
def headC : List C → C
  | c :: _ => c
  | [] => .d (.v undef)
def bldV (s : SV) (n : Nat) (ls : List Lf) : Option Bv :=
  match s with
  | .c s => (bldC 8 s n ls).map fun b => ⟨[.w (.c (headC b.cs))], b.hp, b.n, b.ls⟩
  | .a l => (bldL (bldC 8) l n ls).map fun b => ⟨[.w (.a b.cs)], b.hp, b.n, b.ls⟩
  | .b _ _ => match ls with
    | .b k e r :: q => some ⟨[.w (.b k e r)], [], n, q⟩
    | _ => none
def bldVs : List SV → Nat → List Lf → Option Bv
  | [], n, ls => some ⟨[], [], n, ls⟩
  | s :: l, n, ls => match bldV s n ls with
    | some a => match bldVs l a.n a.ls with
      | some b => some ⟨a.vs ++ b.vs, b.hp ++ a.hp, b.n, b.ls⟩
      | none => none
    | none => none
inductive RC where
  | d (x : D)
  | g (i : Nat)
  | row (ty : Nat) (c : Cont)
  | box (ty : Nat) (l : List RC)
  | rrow (c : Cont)
inductive RR where
  | c (x : RC)
  | s (l : List RC)
  | b (k : FloatKind) (e : Nat) (r : List Nat)
inductive GT where
  | leaf (ob : Prop) (rs : List RR)
  | br (b : Bool) (x y : GT)
def GT.sel : GT → Prop × List RR
  | .leaf ob rs => (ob, rs)
  | .br b x y => match b with
    | true => x.sel
    | false => y.sel
structure Rt where
  cs : List C
  hp : Hp
  n : Nat
def rvL (f : RC → Nat → Rt) : List RC → Nat → Rt
  | [], n => ⟨[], [], n⟩
  | r :: l, n =>
    let a := f r n
    let b := rvL f l a.n
    ⟨a.cs ++ b.cs, b.hp ++ a.hp, b.n⟩
def rvC (am : List C) : Nat → RC → Nat → Rt
  | 0, _, n => ⟨[.d (.v undef)], [], n⟩
  | m + 1, r, n =>
    match r with
    | .d x => ⟨[.d x], [], n⟩
    | .g i => ⟨[am.getD i (.d (.v undef))], [], n⟩
    | .row ty c => ⟨[.o n], [(n, .row ty c)], n + 1⟩
    | .rrow c => ⟨[.o n], [(n, .rrow c)], n + 1⟩
    | .box ty l =>
      let b := rvL (rvC am m) l n
      ⟨[.p b.n 0 1 0], (b.n, .box ty b.cs) :: b.hp, b.n + 1⟩
structure Rw where
  ws : List W
  hp : Hp
  n : Nat
def rvR (am : List C) (r : RR) (n : Nat) : Rw :=
  match r with
  | .c x => let b := rvC am 8 x n; ⟨[.c (headC b.cs)], b.hp, b.n⟩
  | .s l => let b := rvL (rvC am 8) l n; ⟨[.a b.cs], b.hp, b.n⟩
  | .b k e r => ⟨[.b k e r], [], n⟩
def rvRs (am : List C) : List RR → Nat → Rw
  | [], n => ⟨[], [], n⟩
  | r :: l, n =>
    let a := rvR am r n
    let b := rvRs am l a.n
    ⟨a.ws ++ b.ws, b.hp ++ a.hp, b.n⟩
def GT.toRT (am : List C) (hp : Hp) (nx : Nat) : GT → RT
  | .leaf ob rs => let b := rvRs am rs nx; .leaf ⟨ob, tupV b.ws, b.hp ++ hp, b.n⟩
  | .br b x y => .br b (x.toRT am hp nx) (y.toRT am hp nx)
def pureT (shs : List SV) (g : List Lf → Option GT) : Spec := fun vs hp nx =>
  match toVs hp shs vs with
  | some (ls, am) => match g ls with
    | some t => some (t.toRT am hp nx)
    | none => none
  | none => none
def fitL (f : RC → C → List Nat → (List Nat → Prop) → Prop) : List RC → List C → List Nat → (List Nat → Prop) → Prop
  | [], [], us, k => k us
  | r :: l, c :: cs, us, k => f r c us fun us => fitL f l cs us k
  | _, _, _, _ => False
def fitC (n0 : Nat) (hp : Hp) : Nat → RC → C → List Nat → (List Nat → Prop) → Prop
  | 0, _, _, _, _ => False
  | m + 1, r, c, us, k =>
    match r, c with
    | .d x, .d y => mD x y ∧ k us
    | .g i, .o h => match Nat.beq i h, Nat.blt i n0 with
      | true, true => k us
      | _, _ => False
    | .row ty c, .o h => match us.contains h with
      | true => False
      | false => match find hp h with
        | some (.row ty' c') => match Nat.beq ty' ty with
          | true => mCont c c' ∧ k (h :: us)
          | false => False
        | _ => False
    | .row _ c, .d (.v (.slice none 0 0)) => Ob (c.n = 0) ∧ k us
    | .rrow c, .o h => match us.contains h with
      | true => False
      | false => match find hp h with
        | some (.rrow c') => mCont c c' ∧ k (h :: us)
        | _ => False
    | .rrow c, .d (.v (.slice none 0 0)) => Ob (c.n = 0) ∧ k us
    | .box ty l, .p h 0 _ 0 => match find hp h with
      | some (.box ty' cs) => match Nat.beq ty' ty with
        | true => fitL (fitC n0 hp m) l cs us fun us => match us.contains h with
          | true => False
          | false => k (h :: us)
        | false => False
      | _ => False
    | _, _ => False
def fitR (n0 : Nat) (hp : Hp) (r : RR) (w : W) (us : List Nat) (k : List Nat → Prop) : Prop :=
  match r, w with
  | .c x, .c c => fitC n0 hp 8 x c us k
  | .s l, .a cs => fitL (fitC n0 hp 8) l cs us k
  | .b q e r, .b q' e' r' => match sameK q q', Nat.beq e e' with
    | true, true => Ob (r = r') ∧ k us
    | _, _ => False
  | _, _ => False
def fitRs (n0 : Nat) (hp : Hp) : List RR → List W → List Nat → Prop
  | [], [], _ => True
  | r :: l, w :: ws, us => fitR n0 hp r w us fun us => fitRs n0 hp l ws us
  | _, _, _ => False
def fitV (n0 : Nat) (rs : List RR) (v : V) (hp : Hp) : Prop := match v with
  | .w u => fitRs n0 hp rs [u] []
  | .t [_] => False
  | .t l => fitRs n0 hp rs l []
section
variable [Globs] {P : Program} {sp : Specs} {ρ : Env} {B : Bd} {nx : Nat} {hp : Hp} {w w' : World}
theorem C.p_val {ρ : Env} {h i e j : Nat} : (C.p h i e j).val ρ = .pointer (some ⟨(base (ρ h)).block, (base (ρ h)).off + (i * e + j), none⟩) := rfl
structure BOK (ρ : Env) (w : World) (nx n : Nat) (ρ1 ρ2 : Env) (rest : List Lf) (cs x : List C) (b : Bt) : Prop where
  ls : b.ls = rest
  nn : b.n = n + x.length
  agree : Agree n ρ1 ρ2
  val : b.cs.map (C.val ρ2) = cs.map (C.val ρ)
  lt : ∀ c ∈ b.cs, C.lt b.n c
  heap : ∀ h o, find b.hp h = some o → n ≤ h ∧ h < b.n ∧ o.lt b.n ∧ o.ok ρ2 (fun k => k < w.heap.size) w h ∧ ∀ v, o.blk v = none
  own : ∀ i, i < x.length → ρ2 (n + i) = (x.getD i (.d (.v undef))).val ρ
  xlt : ∀ y ∈ x, C.lt nx y
  hnd : ∀ c ∈ b.cs, (∃ m i e j, c = .p m i e j) → ρ2 (hOf c) = c.val ρ2 ∧ hOf c < b.n
theorem BOK.append {n : Nat} {ρ1 ρ2 ρ3 : Env} {r1 rest : List Lf} {c1 c2 x1 x2 : List C} {b1 b2 : Bt} (h1 : BOK ρ w nx n ρ1 ρ2 r1 c1 x1 b1) (h2 : BOK ρ w nx b1.n ρ2 ρ3 rest c2 x2 b2) :
    BOK ρ w nx n ρ1 ρ3 rest (c1 ++ c2) (x1 ++ x2) ⟨b1.cs ++ b2.cs, b2.hp ++ b1.hp, b2.n, b2.ls⟩ := by
  have hle : b1.n ≤ b2.n := by rw [h2.nn]; omega
  have hn1 : n ≤ b1.n := by rw [h1.nn]; omega
  refine ⟨h2.ls, ?_, h1.agree.trans h2.agree hn1, ?_, ?_, ?_, ?_, ?_, ?_⟩
  · show b2.n = _
    rw [h2.nn, h1.nn, List.length_append]; omega
  · simp only [List.map_append, h2.val]
    congr 1
    rw [← h1.val]
    exact List.map_congr_left fun c hc => C.val_agree h2.agree (h1.lt c hc)
  · intro c hc
    rcases List.mem_append.1 hc with hc | hc
    · exact C.lt_mono hle (h1.lt c hc)
    · exact h2.lt c hc
  · intro h o hf
    have hf : find (b2.hp ++ b1.hp) h = some o := hf
    rw [find_append] at hf
    cases hg : find b2.hp h with
    | some o2 =>
      rw [hg] at hf
      cases hf
      obtain ⟨a1, a2, a3, a4, a5⟩ := h2.heap h o hg
      exact ⟨Nat.le_trans hn1 a1, a2, a3, a4, a5⟩
    | none =>
      rw [hg] at hf
      obtain ⟨a1, a2, a3, a4, a5⟩ := h1.heap h o hf
      exact ⟨a1, Nat.lt_of_lt_of_le a2 hle, O.lt_mono hle a3, O.ok_agree h2.agree a2 a3 a4, a5⟩
  · intro i hi
    by_cases hlt : i < x1.length
    · rw [h2.agree (n + i) (by rw [h1.nn]; omega), h1.own i hlt]
      simp [List.getD, List.getElem?_append_left hlt]
    · have e1 : n + i = b1.n + (i - x1.length) := by rw [h1.nn]; omega
      rw [e1, h2.own (i - x1.length) (by simp at hi; omega)]
      simp [List.getD, List.getElem?_append_right (Nat.le_of_not_lt hlt)]
  · intro y hy
    rcases List.mem_append.1 hy with hy | hy
    · exact h1.xlt y hy
    · exact h2.xlt y hy
  · intro c hc hp
    rcases List.mem_append.1 hc with hc | hc
    · obtain ⟨a1, a2⟩ := h1.hnd c hc hp
      exact ⟨by rw [h2.agree _ a2, a1]; exact (C.val_agree h2.agree (h1.lt c hc)).symm, Nat.lt_of_lt_of_le a2 hle⟩
    · exact h2.hnd c hc hp
theorem BOK.nil {n : Nat} {ρ1 : Env} {rest : List Lf} : BOK ρ w nx n ρ1 ρ1 rest [] [] ⟨[], [], n, rest⟩ :=
  ⟨rfl, rfl, Agree.refl _ _, rfl, (fun _ h => by cases h), (fun _ _ h => by cases h), (fun _ h => by cases h), (fun _ h => by cases h), fun _ h => by cases h⟩
def ToOK (ρ : Env) (w : World) (nx : Nat) (s : Sh) (c : C) (a : List Lf) (x : List C) (g : Sh → Nat → List Lf → Option Bt) : Prop :=
  ∀ (n : Nat) (ρ1 : Env) (rest : List Lf), ∃ b ρ2, g s n (a ++ rest) = some b ∧ BOK ρ w nx n ρ1 ρ2 rest [c] x b
theorem bldL_spec {f : Sh → C → Option (List Lf × List C)} {g : Sh → Nat → List Lf → Option Bt} (hf : ∀ s c a x, f s c = some (a, x) → C.lt nx c → ToOK ρ w nx s c a x g) :
    ∀ (l : List Sh) (cs : List C) (a : List Lf) (x : List C), travL f l cs = some (a, x) → (∀ c ∈ cs, C.lt nx c) → ∀ (n : Nat) (ρ1 : Env) (rest : List Lf), ∃ b ρ2, bldL g l n (a ++ rest) = some b ∧ BOK ρ w nx n ρ1 ρ2 rest cs x b
  | [], [], a, x, h, _, n, ρ1, rest => by
    simp only [travL, Option.some.injEq, Prod.mk.injEq] at h
    obtain ⟨rfl, rfl⟩ := h
    exact ⟨_, ρ1, rfl, BOK.nil⟩
  | s :: l, c :: cs, a, x, h, hlt, n, ρ1, rest => by
    simp only [travL] at h
    split at h
    · rename_i a1 x1 a2 x2 h1 h2
      cases h
      obtain ⟨b1, ρ2, e1, k1⟩ := hf s c a1 x1 h1 (hlt c List.mem_cons_self) n ρ1 (a2 ++ rest)
      obtain ⟨b2, ρ3, e2, k2⟩ := bldL_spec hf l cs a2 x2 h2 (fun c hc => hlt c (List.mem_cons_of_mem _ hc)) b1.n ρ2 rest
      refine ⟨_, ρ3, ?_, k1.append k2⟩
      rw [List.append_assoc]
      simp only [bldL, e1, k1.ls, e2]
    · cases h
  | [], _ :: _, _, _, h, _, _, _, _ => by simp [travL] at h
  | _ :: _, [], _, _, h, _, _, _, _ => by simp [travL] at h
theorem nilC_spec {c : C} (h : nilC c = true) : c = .d (.v (.slice none 0 0)) := by
  unfold nilC at h
  split at h
  · rfl
  · cases h
theorem boxCells_spec (hh : HRel ρ B hp nx w) (hB : Old B w) {h : Nat} {cs : List C} (hc : boxCells hp h = some cs) :
    h < nx ∧ (∀ c ∈ cs, C.lt nx c) ∧ ∃ k o, ρ h = .pointer (some ⟨k, o, none⟩) ∧ k < w.heap.size ∧ ∀ j c, cs[j]? = some c → w.cell? ⟨k, o + j, none⟩ = some (c.val ρ) := by
  unfold boxCells at hc
  split at hc
  · rename_i ty cs' hf
    cases hc
    obtain ⟨h1, h2, g, h3, h4, h5⟩ := hh.ok h _ hf
    refine ⟨h1, h2, g, 0, h3, (Array.getElem?_eq_some_iff.1 h5).1, fun j c hj => ?_⟩
    rw [Nat.zero_add, cell_of_row w g _ _ ty (0, 0) h5]
    simp [hj]
  · rename_i cs' hf
    cases hc
    obtain ⟨h1, h2, g, o, h3, h4, h5⟩ := hh.ok h _ hf
    exact ⟨h1, h2, g, o, h3, hB g h4, h5⟩
  · cases hc
theorem BOK.one {n : Nat} {ρ1 : Env} {rest : List Lf} {c : C} {o : O} (hc : C.lt nx c) (hl : o.lt (n + 1)) (hb : ∀ v, o.blk v = none) (ho : o.ok (upd ρ1 n (c.val ρ)) (fun k => k < w.heap.size) w n) :
    BOK ρ w nx n ρ1 (upd ρ1 n (c.val ρ)) rest [c] [c] ⟨[.o n], [(n, o)], n + 1, rest⟩ := by
  refine ⟨rfl, rfl, upd_agree _ _ _, by simp [C.val], ?_, ?_, ?_, ?_, ?_⟩
  · intro c' hc'
    simp only [List.mem_singleton] at hc'
    subst hc'
    exact Nat.lt_succ_self n
  · intro h o' hf
    simp only [find] at hf
    split at hf
    · rename_i e
      subst e
      cases hf
      exact ⟨Nat.le_refl _, Nat.lt_succ_self _, hl, ho, hb⟩
    · cases hf
  · intro i hi
    simp at hi
    subst hi
    simp
  · intro y hy
    simp only [List.mem_singleton] at hy
    subst hy
    exact hc
  · rintro c' hc' ⟨m, i, e, j, rfl⟩
    simp at hc'
theorem bldL_p {m : Nat} : ∀ (l : List Sh) (n : Nat) (ls : List Lf) (b : Bt), l.all isP = true → bldL (bldC m) l n ls = some b → ∀ c ∈ b.cs, ∃ q i e j, c = C.p q i e j
  | [], n, ls, b, _, h => by simp only [bldL, Option.some.injEq] at h; subst h; exact fun _ h => by cases h
  | s :: l, n, ls, b, hp, h => by
    simp only [List.all_cons, Bool.and_eq_true] at hp
    simp only [bldL] at h
    split at h
    · rename_i a ha
      split at h
      · rename_i b2 hb2
        cases h
        intro c hc
        rcases List.mem_append.1 hc with hc | hc
        · cases m with
          | zero => simp [bldC] at ha
          | succ m =>
            cases s with
            | p l2 =>
              simp only [bldC] at ha
              split at ha
              · cases ha
                simp only [List.mem_singleton] at hc
                exact ⟨_, _, _, _, hc⟩
              · cases ha
            | _ => simp [isP] at hp
        · exact bldL_p l _ _ b2 hp.2 hb2 c hc
      · cases h
    · cases h
theorem toC_spec (hh : HRel ρ B hp nx w) (hB : Old B w) : ∀ (m : Nat) (s : Sh) (c : C) (a : List Lf) (x : List C), toC hp m s c = some (a, x) → C.lt nx c → ToOK ρ w nx s c a x (bldC m)
  | 0, _, _, _, _, h, _ => by simp [toC] at h
  | m + 1, s, c, a, x, h, hc => by
    intro n ρ1 rest
    have ih := bldL_spec (f := toC hp m) (g := bldC m) (fun s c a x h hc => toC_spec hh hB m s c a x h hc)
    cases s with
    | d =>
      simp only [toC] at h
      split at h
      · cases h
        refine ⟨_, ρ1, rfl, rfl, rfl, Agree.refl _ _, rfl, ?_, (fun _ _ h => by cases h), (fun _ h => by cases h), (fun _ h => by cases h), ?_⟩
        · intro c hc; simp only [List.mem_singleton] at hc; subst hc; trivial
        · rintro c hc ⟨_, _, _, _, rfl⟩; simp at hc
      · rename_i h0
        split at h
        · rename_i k hf
          cases h
          have hok := (hh.ok h0 _ hf).2.2
          exact ⟨_, _, rfl, BOK.one hc trivial (fun _ => rfl) (by unfold O.ok; rw [upd_same]; exact hok)⟩
        · cases h
      · cases h
    | r c0 =>
      simp only [toC] at h
      split at h
      · rename_i hn
        have hn := nilC_spec hn
        subst hn
        split at h
        · rename_i e hn0 he
          cases h
          refine ⟨_, _, rfl, BOK.one (c := .d (.v (.slice none 0 0))) hc trivial (fun _ => rfl) ?_⟩
          refine ⟨⟨none, 0, by rw [upd_same, hn0]; rfl, ⟨by omega, fun _ => rfl⟩, fun hp => by omega⟩, fun a' n' cap hv => ?_⟩
          rw [upd_same] at hv
          cases hv
        · cases h
      · split at h
        · rename_i h0 _
          split at h
          · rename_i x hx
            split at h
            · cases h
            · rename_i e he
              cases h
              cases hf : find hp h0 with
              | none => simp [hf] at hx
              | some o =>
                simp only [hf, Option.bind_some] at hx
                have hrow := row_isRow (hh.ok h0 o hf).2.2 hx
                exact ⟨_, _, rfl, BOK.one hc trivial (fun _ => rfl) ⟨by rw [upd_same]; exact hrow, by rw [upd_same]; exact hrow.lt (by omega)⟩⟩
          · cases h
        · cases h
    | x x0 =>
      simp only [toC] at h
      split at h
      · rename_i hn
        have hn := nilC_spec hn
        subst hn
        split at h
        · rename_i hn0
          cases h
          refine ⟨_, _, rfl, BOK.one (c := .d (.v (.slice none 0 0))) hc trivial (fun _ => rfl) ?_⟩
          exact ⟨none, 0, by rw [upd_same, hn0]; rfl, ⟨by omega, fun _ => rfl⟩, fun hp => by omega⟩
        · cases h
      · split at h
        · rename_i h0 _
          split at h
          · rename_i X hf
            cases h
            have hok := (hh.ok h0 _ hf).2.2
            refine ⟨_, _, rfl, BOK.one hc trivial (fun _ => rfl) ?_⟩
            unfold O.ok
            rw [upd_same]
            exact isX_mono (fun k hk => hB k hk) hok
          · cases h
        · cases h
    | p l =>
      have key : ∀ (h0 : Nat) (cs : List C), boxCells hp h0 = some cs → c.val ρ = ρ h0 → (travL (toC hp m) l cs).map (fun (a, x) => (a, x ++ [c])) = some (a, x) →
          ∃ b ρ2, bldC (m + 1) (.p l) n (a ++ rest) = some b ∧ BOK ρ w nx n ρ1 ρ2 rest [c] x b := by
        intro h0 cs hbc hcv ht
        obtain ⟨⟨a', x'⟩, ht', he⟩ := Option.map_eq_some_iff.1 ht
        cases he
        obtain ⟨hlt0, hcl, k, o, hk, hks, hcell⟩ := boxCells_spec hh hB hbc
        obtain ⟨b, ρ2, e, q⟩ := ih l cs a x' ht' hcl n ρ1 rest
        have hag : Agree b.n ρ2 (upd ρ2 b.n (c.val ρ)) := upd_agree _ _ _
        have hnb : n ≤ b.n := by rw [q.nn]; omega
        refine ⟨⟨[.p b.n 0 1 0], (b.n, .ebox b.cs) :: b.hp, b.n + 1, b.ls⟩, upd ρ2 b.n (c.val ρ), by simp only [bldC, e], q.ls, ?_, q.agree.trans hag hnb, ?_, ?_, ?_, ?_, ?_, ?_⟩
        · show b.n + 1 = _
          rw [q.nn]; simp; omega
        · simp only [List.map_cons, List.map_nil, C.p_val, upd_same]
          rw [hcv, hk]
          simp [base]
        · intro c' hc'
          simp only [List.mem_singleton] at hc'
          subst hc'
          exact Nat.lt_succ_self _
        · intro h' o' hf
          simp only [find] at hf
          split at hf
          · rename_i e2
            subst e2
            cases hf
            refine ⟨hnb, Nat.lt_succ_self _, fun y hy => C.lt_mono (Nat.le_succ _) (q.lt y hy), ⟨k, o, by rw [upd_same, hcv]; exact hk, hks, fun j y hj => ?_⟩, fun _ => rfl⟩
            rw [C.val_agree hag (q.lt y (List.mem_of_getElem? hj))]
            have h1 : (b.cs.map (C.val ρ2))[j]? = some (y.val ρ2) := by rw [List.getElem?_map, hj]; rfl
            rw [q.val, List.getElem?_map] at h1
            obtain ⟨y', hy', he'⟩ := Option.map_eq_some_iff.1 h1
            rw [← he']
            exact hcell j y' hy'
          · obtain ⟨a1, a2, a3, a4, a5⟩ := q.heap h' o' hf
            exact ⟨a1, Nat.lt_succ_of_lt a2, O.lt_mono (Nat.le_succ _) a3, O.ok_agree hag a2 a3 a4, a5⟩
        · intro i hi
          by_cases hlt : i < x'.length
          · rw [hag (n + i) (by rw [q.nn]; omega), q.own i hlt]
            simp [List.getD, List.getElem?_append_left hlt]
          · have e3 : i = x'.length := by simp at hi; omega
            subst e3
            rw [← q.nn, upd_same]
            simp [List.getD]
        · intro y hy
          rcases List.mem_append.1 hy with hy | hy
          · exact q.xlt y hy
          · simp only [List.mem_singleton] at hy
            subst hy
            exact hc
        · intro c' hc' _
          simp only [List.mem_singleton] at hc'
          subst hc'
          refine ⟨?_, Nat.lt_succ_self _⟩
          simp only [hOf, C.p_val, upd_same]
          rw [hcv, hk]
          simp [base]
      simp only [toC] at h
      split at h
      · rename_i h0 e0
        split at h
        · rename_i cs hbc
          refine key h0 cs hbc ?_ h
          obtain ⟨_, _, k, o, hk, _⟩ := boxCells_spec hh hB hbc
          simp [C.val, hk, base]
        · cases h
      · rename_i h0
        split at h
        · rename_i cs hbc
          exact key h0 cs hbc rfl h
        · cases h
      · cases h
    | f g l =>
      simp only [toC] at h
      split at h
      · rename_i g' hs
        split at h
        · rename_i hg hip
          have hg := Nat.eq_of_beq_eq_true hg
          subst hg
          have hcl : ∀ y ∈ hs.map C.o, C.lt nx y := fun y hy => by
            obtain ⟨z, hz, rfl⟩ := List.mem_map.1 hy
            exact hc z hz
          obtain ⟨b, ρ2, e, q⟩ := ih l _ a x h hcl n ρ1 rest
          have hbp := bldL_p l n (a ++ rest) b hip e
          refine ⟨⟨[.fn g (b.cs.map hOf)], b.hp, b.n, b.ls⟩, ρ2, by simp only [bldC, e], q.ls, q.nn, q.agree, ?_, ?_, q.heap, q.own, q.xlt, ?_⟩
          · simp only [List.map_cons, List.map_nil, C.val]
            have : (b.cs.map hOf).map ρ2 = hs.map ρ := by
              have h1 := q.val
              rw [List.map_map] at h1 ⊢
              have h2 : b.cs.map (ρ2 ∘ hOf) = b.cs.map (C.val ρ2) := List.map_congr_left fun y hy => (q.hnd y hy (hbp y hy)).1
              rw [h2, h1]
              exact List.map_congr_left fun y hy => rfl
            rw [this]
          · intro y hy
            simp only [List.mem_singleton] at hy
            subst hy
            intro z hz
            obtain ⟨y, hy, rfl⟩ := List.mem_map.1 hz
            exact (q.hnd y hy (hbp y hy)).2
          · rintro y hy ⟨_, _, _, _, rfl⟩
            simp at hy
        · cases h
      · cases h
structure BVOK (ρ : Env) (w : World) (nx n : Nat) (ρ1 ρ2 : Env) (rest : List Lf) (vs : List V) (x : List C) (b : Bv) : Prop where
  ls : b.ls = rest
  nn : b.n = n + x.length
  agree : Agree n ρ1 ρ2
  val : b.vs.map (V.val ρ2) = vs.map (V.val ρ)
  lt : ∀ c ∈ b.vs, V.lt b.n c
  heap : ∀ h o, find b.hp h = some o → n ≤ h ∧ h < b.n ∧ o.lt b.n ∧ o.ok ρ2 (fun k => k < w.heap.size) w h ∧ ∀ v, o.blk v = none
  own : ∀ i, i < x.length → ρ2 (n + i) = (x.getD i (.d (.v undef))).val ρ
  xlt : ∀ y ∈ x, C.lt nx y
theorem BVOK.append {n : Nat} {ρ1 ρ2 ρ3 : Env} {r1 rest : List Lf} {c1 c2 : List V} {x1 x2 : List C} {b1 b2 : Bv} (h1 : BVOK ρ w nx n ρ1 ρ2 r1 c1 x1 b1) (h2 : BVOK ρ w nx b1.n ρ2 ρ3 rest c2 x2 b2) :
    BVOK ρ w nx n ρ1 ρ3 rest (c1 ++ c2) (x1 ++ x2) ⟨b1.vs ++ b2.vs, b2.hp ++ b1.hp, b2.n, b2.ls⟩ := by
  have hle : b1.n ≤ b2.n := by rw [h2.nn]; omega
  have hn1 : n ≤ b1.n := by rw [h1.nn]; omega
  refine ⟨h2.ls, ?_, h1.agree.trans h2.agree hn1, ?_, ?_, ?_, ?_, ?_⟩
  · show b2.n = _
    rw [h2.nn, h1.nn, List.length_append]; omega
  · simp only [List.map_append, h2.val]
    congr 1
    rw [← h1.val]
    exact List.map_congr_left fun c hc => V.val_agree h2.agree (h1.lt c hc)
  · intro c hc
    rcases List.mem_append.1 hc with hc | hc
    · exact V.lt_mono hle (h1.lt c hc)
    · exact h2.lt c hc
  · intro h o hf
    have hf : find (b2.hp ++ b1.hp) h = some o := hf
    rw [find_append] at hf
    cases hg : find b2.hp h with
    | some o2 =>
      rw [hg] at hf
      cases hf
      obtain ⟨a1, a2, a3, a4, a5⟩ := h2.heap h o hg
      exact ⟨Nat.le_trans hn1 a1, a2, a3, a4, a5⟩
    | none =>
      rw [hg] at hf
      obtain ⟨a1, a2, a3, a4, a5⟩ := h1.heap h o hf
      exact ⟨a1, Nat.lt_of_lt_of_le a2 hle, O.lt_mono hle a3, O.ok_agree h2.agree a2 a3 a4, a5⟩
  · intro i hi
    by_cases hlt : i < x1.length
    · rw [h2.agree (n + i) (by rw [h1.nn]; omega), h1.own i hlt]
      simp [List.getD, List.getElem?_append_left hlt]
    · have e1 : n + i = b1.n + (i - x1.length) := by rw [h1.nn]; omega
      rw [e1, h2.own (i - x1.length) (by simp at hi; omega)]
      simp [List.getD, List.getElem?_append_right (Nat.le_of_not_lt hlt)]
  · intro y hy
    rcases List.mem_append.1 hy with hy | hy
    · exact h1.xlt y hy
    · exact h2.xlt y hy
theorem toV_spec (hh : HRel ρ B hp nx w) (hB : Old B w) {s : SV} {v : V} {a : List Lf} {x : List C} (h : toV hp s v = some (a, x)) (hv : V.lt nx v) (n : Nat) (ρ1 : Env) (rest : List Lf) :
    ∃ b ρ2, bldV s n (a ++ rest) = some b ∧ BVOK ρ w nx n ρ1 ρ2 rest [v] x b := by
  unfold toV at h
  split at h
  · rename_i s c
    obtain ⟨b, ρ2, e, q⟩ := toC_spec hh hB 8 s c a x h hv n ρ1 rest
    have hlen : b.cs.length = 1 := by have := congrArg List.length q.val; simpa using this
    obtain ⟨c', hc'⟩ : ∃ c', b.cs = [c'] := by
      match hb : b.cs, hlen with
      | [c'], _ => exact ⟨c', rfl⟩
    have hval := q.val
    have hlt := q.lt
    rw [hc'] at hval hlt
    refine ⟨⟨[.w (.c (headC b.cs))], b.hp, b.n, b.ls⟩, ρ2, by simp only [bldV, e, Option.map_some], q.ls, q.nn, q.agree, ?_, ?_, q.heap, q.own, q.xlt⟩
    · simp only [hc', headC, List.map_cons, List.map_nil, V.val, W.val]
      simpa using hval
    · intro y hy
      simp only [List.mem_singleton] at hy
      subst hy
      rw [hc']
      exact hlt c' List.mem_cons_self
  · rename_i l cs
    obtain ⟨b, ρ2, e, q⟩ := bldL_spec (f := toC hp 8) (g := bldC 8) (fun s c a x h hc => toC_spec hh hB 8 s c a x h hc) l cs a x h hv n ρ1 rest
    refine ⟨⟨[.w (.a b.cs)], b.hp, b.n, b.ls⟩, ρ2, by simp only [bldV, e, Option.map_some], q.ls, q.nn, q.agree, ?_, ?_, q.heap, q.own, q.xlt⟩
    · simp only [List.map_cons, List.map_nil, V.val, W.val, q.val]
    · intro y hy
      simp only [List.mem_singleton] at hy
      subst hy
      exact q.lt
  · rename_i k e k' e' r
    split at h
    · rename_i hk he
      have hk := sameK_eq hk
      have he := Nat.eq_of_beq_eq_true he
      subst hk
      subst he
      cases h
      refine ⟨_, ρ1, rfl, rfl, rfl, Agree.refl _ _, rfl, ?_, (fun _ _ h => by cases h), (fun _ h => by cases h), fun _ h => by cases h⟩
      intro y hy
      simp only [List.mem_singleton] at hy
      subst hy
      trivial
    · cases h
  · rename_i k e cs
    split at h
    · rename_i r hr
      split at h
      · rename_i he
        have he := Nat.eq_of_beq_eq_true he
        subst he
        cases h
        refine ⟨_, ρ1, rfl, rfl, rfl, Agree.refl _ _, ?_, ?_, (fun _ _ h => by cases h), (fun _ h => by cases h), fun _ h => by cases h⟩
        · simp only [List.map_cons, List.map_nil, V.val, W.val, frD_val, fltCells_val hr]
        · intro y hy
          simp only [List.mem_singleton] at hy
          subst hy
          trivial
      · cases h
    · cases h
  · cases h
theorem toVs_spec (hh : HRel ρ B hp nx w) (hB : Old B w) : ∀ (l : List SV) (vs : List V) (a : List Lf) (x : List C), toVs hp l vs = some (a, x) → (∀ v ∈ vs, V.lt nx v) → ∀ (n : Nat) (ρ1 : Env) (rest : List Lf),
    ∃ b ρ2, bldVs l n (a ++ rest) = some b ∧ BVOK ρ w nx n ρ1 ρ2 rest vs x b
  | [], [], a, x, h, _, n, ρ1, rest => by
    simp only [toVs, Option.some.injEq, Prod.mk.injEq] at h
    obtain ⟨rfl, rfl⟩ := h
    exact ⟨_, ρ1, rfl, rfl, rfl, Agree.refl _ _, rfl, (fun _ h => by cases h), (fun _ _ h => by cases h), (fun _ h => by cases h), fun _ h => by cases h⟩
  | s :: l, v :: vs, a, x, h, hlt, n, ρ1, rest => by
    simp only [toVs] at h
    split at h
    · rename_i a1 x1 a2 x2 h1 h2
      cases h
      obtain ⟨b1, ρ2, e1, k1⟩ := toV_spec hh hB h1 (hlt v List.mem_cons_self) n ρ1 (a2 ++ rest)
      obtain ⟨b2, ρ3, e2, k2⟩ := toVs_spec hh hB l vs a2 x2 h2 (fun c hc => hlt c (List.mem_cons_of_mem _ hc)) b1.n ρ2 rest
      refine ⟨_, ρ3, ?_, k1.append k2⟩
      rw [List.append_assoc]
      simp only [bldVs, e1, k1.ls, e2]
    · cases h
  | [], _ :: _, _, _, h, _, _, _, _ => by simp [toVs] at h
  | _ :: _, [], _, _, h, _, _, _, _ => by simp [toVs] at h
theorem find_cons {k h : Nat} {o : O} {hp : Hp} : find ((k, o) :: hp) h = if k = h then some o else find hp h := rfl
structure CIn (ρ ρ' : Env) (B : Bd) (hp hp' : Hp) (n m n0 : Nat) (am : List C) (w' : World) (us : List Nat) : Prop where
  heap : HRel ρ B hp n w'
  ap : ∀ k o b, find hp k = some o → o.blk (ρ k) = some b → b < m ∨ ∃ u ∈ us, ∃ ou, find hp' u = some ou ∧ ou.blk (ρ' u) = some b
  am : ∀ i, i < n0 → C.lt n (am.getD i (.d (.v undef))) ∧ (am.getD i (.d (.v undef))).val ρ = ρ' i
structure COut (ρ ρ2 ρ' : Env) (B : Bd) (hp hp' : Hp) (n m : Nat) (w' : World) (us us2 : List Nat) (vals : List Value) (r : Rt) : Prop where
  agree : Agree n ρ ρ2
  heap : HRel ρ2 B (r.hp ++ hp) r.n w'
  le : n ≤ r.n
  val : r.cs.map (C.val ρ2) = vals
  lt : ∀ c ∈ r.cs, C.lt r.n c
  ap : ∀ k o b, find (r.hp ++ hp) k = some o → o.blk (ρ2 k) = some b → b < m ∨ ∃ u ∈ us2, ∃ ou, find hp' u = some ou ∧ ou.blk (ρ' u) = some b
  fresh : ∀ h o b, find r.hp h = some o → o.blk (ρ2 h) = some b → m ≤ b
  keys : ∀ h o, find r.hp h = some o → n ≤ h
  sub : ∀ u ∈ us, u ∈ us2
variable {ρ' : Env} {hp' : Hp} {m n0 : Nat} {am : List C}
theorem CIn.next {ρ2 : Env} {n : Nat} {us us2 : List Nat} {vals : List Value} {r : Rt} (h : CIn ρ ρ' B hp hp' n m n0 am w' us) (k : COut ρ ρ2 ρ' B hp hp' n m w' us us2 vals r) : CIn ρ2 ρ' B (r.hp ++ hp) hp' r.n m n0 am w' us2 :=
  ⟨k.heap, k.ap, fun i hi => ⟨C.lt_mono k.le (h.am i hi).1, by rw [C.val_agree k.agree (h.am i hi).1]; exact (h.am i hi).2⟩⟩
theorem COut.append {ρ2 ρ3 : Env} {n : Nat} {us us2 us3 : List Nat} {v1 v2 : List Value} {r1 r2 : Rt} (h : COut ρ ρ2 ρ' B hp hp' n m w' us us2 v1 r1) (k : COut ρ2 ρ3 ρ' B (r1.hp ++ hp) hp' r1.n m w' us2 us3 v2 r2) :
    COut ρ ρ3 ρ' B hp hp' n m w' us us3 (v1 ++ v2) ⟨r1.cs ++ r2.cs, r2.hp ++ r1.hp, r2.n⟩ := by
  refine ⟨h.agree.trans k.agree h.le, by rw [List.append_assoc]; exact k.heap, Nat.le_trans h.le k.le, ?_, ?_, ?_, ?_, ?_, fun u hu => k.sub u (h.sub u hu)⟩
  · simp only [List.map_append, k.val]
    congr 1
    rw [← h.val]
    exact List.map_congr_left fun c hc => C.val_agree k.agree (h.lt c hc)
  · intro c hc
    rcases List.mem_append.1 hc with hc | hc
    · exact C.lt_mono k.le (h.lt c hc)
    · exact k.lt c hc
  · intro q o b hf hb
    have hf : find (r2.hp ++ r1.hp ++ hp) q = some o := hf
    rw [List.append_assoc] at hf
    exact k.ap q o b hf hb
  · intro q o b hf hb
    have hf : find (r2.hp ++ r1.hp) q = some o := hf
    rw [find_append] at hf
    cases hg : find r2.hp q with
    | some o2 => rw [hg] at hf; cases hf; exact k.fresh q o b hg hb
    | none =>
      rw [hg] at hf
      have hf : find r1.hp q = some o := hf
      have hq : q < r1.n := by
        have : find (r1.hp ++ hp) q = some o := by rw [find_append, hf]; rfl
        exact (h.heap.ok q o this).1
      rw [k.agree q hq] at hb
      exact h.fresh q o b hf hb
  · intro q o hf
    have hf : find (r2.hp ++ r1.hp) q = some o := hf
    rw [find_append] at hf
    cases hg : find r2.hp q with
    | some o2 => rw [hg] at hf; cases hf; exact Nat.le_trans h.le (k.keys q o hg)
    | none => rw [hg] at hf; exact h.keys q o hf
theorem COut.data {n : Nat} {us : List Nat} {c : C} {v : Value} (h : CIn ρ ρ' B hp hp' n m n0 am w' us) (hc : C.lt n c) (hv : c.val ρ = v) : COut ρ ρ ρ' B hp hp' n m w' us us [v] ⟨[c], [], n⟩ := by
  refine ⟨Agree.refl _ _, h.heap, Nat.le_refl _, by simp [hv], ?_, h.ap, (fun _ _ _ h => by cases h), (fun _ _ h => by cases h), fun u hu => hu⟩
  intro y hy
  simp only [List.mem_singleton] at hy
  subst hy
  exact hc
theorem COut.obj {n q : Nat} {us : List Nat} {o oq : O} {c : C} {v : Value} (hB : ∀ k, B k → k < m) (hh' : HRel ρ' (fun k => k < m) hp' nx w') (h : CIn ρ ρ' B hp hp' n m n0 am w' us)
    (hq : find hp' q = some oq) (hus : us.contains q = false) (hl : o.lt (n + 1)) (ho : (∀ k, o.blk (ρ' q) = some k → ¬ B k) → o.ok (upd ρ n (ρ' q)) B w' n) (hb : ∀ k, o.blk (ρ' q) = some k → oq.blk (ρ' q) = some k)
    (hc : C.lt (n + 1) c) (hcv : c.val (upd ρ n (ρ' q)) = v) : COut ρ (upd ρ n (ρ' q)) ρ' B hp hp' n m w' us (q :: us) [v] ⟨[c], [(n, o)], n + 1⟩ := by
  have hge : ∀ k, o.blk (ρ' q) = some k → m ≤ k := fun k hk => by
    have := (O.blk_lt (hh'.ok q oq hq).2.2 (hb k hk)).2
    omega
  have hnB : ∀ k, o.blk (ρ' q) = some k → ¬ B k := fun k hk hBk => by
    have := hge k hk
    have := hB k hBk
    omega
  refine ⟨upd_agree _ _ _, ?_, Nat.le_succ n, by simp [hcv], ?_, ?_, ?_, ?_, fun u hu => List.mem_cons_of_mem _ hu⟩
  · refine h.heap.add1 hl (ho hnB) fun k o' b hk hbk he => ?_
    rcases h.ap k o' b hk hbk with hlt | ⟨u, hu, ou, hou, hbu⟩
    · have := hge b he
      omega
    · have hne : u ≠ q := fun e => by
        subst e
        have : us.contains u = true := by simpa using hu
        rw [this] at hus
        cases hus
      exact hh'.apart u ou q oq b hou hq hne hbu (hb b he)
  · intro y hy
    simp only [List.mem_singleton] at hy
    subst hy
    exact hc
  · intro k o' b hf hbk
    have hf2 : find ((n, o) :: hp) k = some o' := hf
    clear hf
    have hf := hf2
    clear hf2
    rw [find_cons] at hf
    split at hf
    · rename_i e
      subst e
      cases hf
      rw [upd_same] at hbk
      exact .inr ⟨q, List.mem_cons_self, oq, hq, hb b hbk⟩
    · have hk := (h.heap.ok k o' hf).1
      rw [upd_agree ρ n (ρ' q) k hk] at hbk
      rcases h.ap k o' b hf hbk with hlt | ⟨u, hu, ou, hou, hbu⟩
      · exact .inl hlt
      · exact .inr ⟨u, List.mem_cons_of_mem _ hu, ou, hou, hbu⟩
  · intro k o' b hf hbk
    simp only [find] at hf
    split at hf
    · rename_i e
      subst e
      cases hf
      rw [upd_same] at hbk
      exact hge b hbk
    · cases hf
  · intro k o' hf
    simp only [find] at hf
    split at hf
    · rename_i e; omega
    · cases hf
def FitOK (ρ' : Env) (B : Bd) (hp' : Hp) (m n0 : Nat) (am : List C) (w' : World) (f : RC → C → List Nat → (List Nat → Prop) → Prop) (g : RC → Nat → Rt) : Prop :=
  ∀ (r : RC) (c : C) (us : List Nat) (k : List Nat → Prop), f r c us k → ∀ (n : Nat) (hp : Hp) (ρ : Env), CIn ρ ρ' B hp hp' n m n0 am w' us →
    ∃ us2 ρ2, k us2 ∧ COut ρ ρ2 ρ' B hp hp' n m w' us us2 [c.val ρ'] (g r n)
theorem fitL_spec {f : RC → C → List Nat → (List Nat → Prop) → Prop} {g : RC → Nat → Rt} (hf : FitOK ρ' B hp' m n0 am w' f g) : ∀ (l : List RC) (cs : List C) (us : List Nat) (k : List Nat → Prop), fitL f l cs us k → ∀ (n : Nat) (hp : Hp) (ρ : Env), CIn ρ ρ' B hp hp' n m n0 am w' us →
    ∃ us2 ρ2, k us2 ∧ COut ρ ρ2 ρ' B hp hp' n m w' us us2 (cs.map (C.val ρ')) (rvL g l n)
  | [], [], us, k, h, n, hp, ρ, hin => ⟨us, ρ, h, Agree.refl _ _, hin.heap, Nat.le_refl _, rfl, (fun _ h => by cases h), hin.ap, (fun _ _ _ h => by cases h), (fun _ _ h => by cases h), fun u hu => hu⟩
  | r :: l, c :: cs, us, k, h, n, hp, ρ, hin => by
    obtain ⟨us2, ρ2, h2, k2⟩ := hf r c us _ h n hp ρ hin
    obtain ⟨us3, ρ3, h3, k3⟩ := fitL_spec hf l cs us2 k h2 (g r n).n _ ρ2 (hin.next k2)
    exact ⟨us3, ρ3, h3, k2.append k3⟩
  | [], _ :: _, _, _, h, _, _, _, _ => h.elim
  | _ :: _, [], _, _, h, _, _, _, _ => h.elim
theorem fitC_spec (hB : ∀ k, B k → k < m) (hh' : HRel ρ' (fun k => k < m) hp' nx w') : ∀ (q : Nat), FitOK ρ' B hp' m n0 am w' (fitC n0 hp' q) (rvC am q)
  | 0 => fun _ _ _ _ h => h.elim
  | q + 1 => by
    intro r c us k h n hp ρ hin
    unfold fitC at h
    split at h
    · rename_i x y
      have e := mD_spec h.1
      subst e
      exact ⟨us, ρ, h.2, COut.data hin trivial rfl⟩
    · rename_i i h0
      split at h
      · rename_i e1 e2
        have e1 := Nat.eq_of_beq_eq_true e1
        subst e1
        have hi : i < n0 := by simpa [Nat.blt_eq] using e2
        exact ⟨us, ρ, h, COut.data hin (hin.am i hi).1 (hin.am i hi).2⟩
      · exact h.elim
    · rename_i ty c0 h0
      split at h
      · exact h.elim
      · rename_i hus
        split at h
        · rename_i ty' c' hf
          split at h
          · rename_i hty
            have hty := Nat.eq_of_beq_eq_true hty
            subst hty
            have hc := mCont_spec h.1
            subst hc
            refine ⟨_, _, h.2, COut.obj (q := h0) (o := .row ty' c0) hB hh' hin hf hus trivial (fun hnB => ?_) (fun k hk => hk) (show C.lt (n + 1) (.o n) from Nat.lt_succ_self n) (by simp [C.val])⟩
            have hok := (hh'.ok h0 _ hf).2.2
            exact ⟨by rw [upd_same]; exact hok.1, fun k hk => by rw [upd_same] at hk; exact hnB k hk⟩
          · exact h.elim
        · exact h.elim
    · rename_i ty c0
      obtain ⟨⟨hn0⟩, hk⟩ := h
      refine ⟨us, upd ρ n (.slice none 0 0), hk, ?_⟩
      refine ⟨upd_agree _ _ _, ?_, Nat.le_succ n, by simp [C.val, D.val, rvC], ?_, ?_, ?_, ?_, fun u hu => hu⟩
      · refine hin.heap.add1 (o := .row ty c0) trivial ?_ (fun _ _ _ _ _ he => by simp [O.blk, Value.ownBlock] at he)
        refine ⟨⟨by simp [Cont.flat_length, hn0], .inl ⟨by rw [upd_same], hn0⟩⟩, fun k hk => by rw [upd_same] at hk; simp [Value.ownBlock] at hk⟩
      · intro y hy
        simp only [rvC, List.mem_singleton] at hy
        subst hy
        exact Nat.lt_succ_self n
      · intro k' o' b hf hbk
        have hf2 : find ((n, O.row ty c0) :: hp) k' = some o' := hf
        clear hf
        have hf := hf2
        clear hf2
        rw [find_cons] at hf
        split at hf
        · rename_i e
          subst e
          cases hf
          rw [upd_same] at hbk
          simp [O.blk, Value.ownBlock] at hbk
        · have hk' := (hin.heap.ok k' o' hf).1
          rw [upd_agree ρ n _ k' hk'] at hbk
          exact hin.ap k' o' b hf hbk
      · intro k' o' b hf hbk
        simp only [rvC, find] at hf
        split at hf
        · rename_i e
          subst e
          cases hf
          rw [upd_same] at hbk
          simp [O.blk, Value.ownBlock] at hbk
        · cases hf
      · intro k' o' hf
        simp only [rvC, find] at hf
        split at hf
        · omega
        · cases hf
    · rename_i c0 h0
      split at h
      · exact h.elim
      · rename_i hus
        split at h
        · rename_i c' hf
          have hc := mCont_spec h.1
          subst hc
          refine ⟨_, _, h.2, COut.obj (q := h0) (o := .rrow c0) hB hh' hin hf hus trivial (fun hnB => ?_) (fun k hk => hk) (show C.lt (n + 1) (.o n) from Nat.lt_succ_self n) (by simp [C.val])⟩
          have hok := (hh'.ok h0 _ hf).2.2
          exact ⟨by rw [upd_same]; exact hok.1, fun k hk => by rw [upd_same] at hk; exact ⟨hnB k hk, (hok.2 k hk).2⟩⟩
        · exact h.elim
    · rename_i c0
      obtain ⟨⟨hn0⟩, hk⟩ := h
      refine ⟨us, upd ρ n (.slice none 0 0), hk, ?_⟩
      refine ⟨upd_agree _ _ _, ?_, Nat.le_succ n, by simp [C.val, D.val, rvC], ?_, ?_, ?_, ?_, fun u hu => hu⟩
      · refine hin.heap.add1 (o := .rrow c0) trivial ?_ (fun _ _ _ _ _ he => by simp [O.blk, Value.ownBlock] at he)
        refine ⟨⟨none, 0, by rw [upd_same, hn0], ⟨by omega, fun _ => rfl⟩, fun h => by omega⟩, fun k hk => by rw [upd_same] at hk; simp [Value.ownBlock] at hk⟩
      · intro y hy
        simp only [rvC, List.mem_singleton] at hy
        subst hy
        exact Nat.lt_succ_self n
      · intro k' o' b hf hbk
        have hf2 : find ((n, O.rrow c0) :: hp) k' = some o' := hf
        clear hf
        have hf := hf2
        clear hf2
        rw [find_cons] at hf
        split at hf
        · rename_i e
          subst e
          cases hf
          rw [upd_same] at hbk
          simp [O.blk, Value.ownBlock] at hbk
        · have hk' := (hin.heap.ok k' o' hf).1
          rw [upd_agree ρ n _ k' hk'] at hbk
          exact hin.ap k' o' b hf hbk
      · intro k' o' b hf hbk
        simp only [rvC, find] at hf
        split at hf
        · rename_i e
          subst e
          cases hf
          rw [upd_same] at hbk
          simp [O.blk, Value.ownBlock] at hbk
        · cases hf
      · intro k' o' hf
        simp only [rvC, find] at hf
        split at hf
        · omega
        · cases hf
    · rename_i ty l h0 e0
      split at h
      · rename_i ty' cs hf
        split at h
        · rename_i hty
          have hty := Nat.eq_of_beq_eq_true hty
          subst hty
          obtain ⟨us2, ρ2, h2, k2⟩ := fitL_spec (fitC_spec hB hh' q) l cs us _ h n hp ρ hin
          have hin2 := hin.next k2
          split at h2
          · exact h2.elim
          · rename_i hus
            have hok := (hh'.ok h0 _ hf).2.2
            obtain ⟨g, h3, h4, h5⟩ := hok
            have hobj := COut.obj (q := h0) (o := .box ty' (rvL (rvC am q) l n).cs) (c := .p (rvL (rvC am q) l n).n 0 1 0) (v := ρ' h0) hB hh' hin2 hf hus (fun y hy => C.lt_mono (Nat.le_succ _) (k2.lt y hy)) (fun hnB => ?_) (fun k hk => hk)
              (show C.lt ((rvL (rvC am q) l n).n + 1) (.p (rvL (rvC am q) l n).n 0 1 0) from Nat.lt_succ_self _) (by simp [C.val, h3, base])
            · refine ⟨h0 :: us2, upd ρ2 (rvL (rvC am q) l n).n (ρ' h0), h2, ?_⟩
              have hap := k2.append hobj
              refine ⟨hap.agree, hap.heap, hap.le, ?_, ?_, hap.ap, hap.fresh, hap.keys, hap.sub⟩
              · have hv := hobj.val
                simp only [List.map_cons, List.map_nil] at hv
                simp only [rvC, List.map_cons, List.map_nil]
                rw [hv]
                simp [C.val, h3, base]
              · intro y hy
                simp only [rvC, List.mem_singleton] at hy
                subst hy
                exact Nat.lt_succ_self _
            · refine ⟨g, by rw [upd_same]; exact h3, ?_, ?_⟩
              · exact hnB g (by simp [O.blk, h3, base])
              · rw [h5]
                congr 3
                have hv := k2.val
                rw [← hv]
                exact List.map_congr_left fun y hy => (C.val_agree (upd_agree ρ2 _ _) (k2.lt y hy)).symm
        · exact h.elim
      · exact h.elim
    · exact h.elim
structure WOut (ρ ρ2 ρ' : Env) (B : Bd) (hp hp' : Hp) (n m : Nat) (w' : World) (us us2 : List Nat) (vals : List Value) (r : Rw) : Prop where
  agree : Agree n ρ ρ2
  heap : HRel ρ2 B (r.hp ++ hp) r.n w'
  le : n ≤ r.n
  val : r.ws.map (W.val ρ2) = vals
  lt : ∀ c ∈ r.ws, W.lt r.n c
  ap : ∀ k o b, find (r.hp ++ hp) k = some o → o.blk (ρ2 k) = some b → b < m ∨ ∃ u ∈ us2, ∃ ou, find hp' u = some ou ∧ ou.blk (ρ' u) = some b
  fresh : ∀ h o b, find r.hp h = some o → o.blk (ρ2 h) = some b → m ≤ b
  keys : ∀ h o, find r.hp h = some o → n ≤ h
theorem fitR_spec (hB : ∀ k, B k → k < m) (hh' : HRel ρ' (fun k => k < m) hp' nx w') {r : RR} {x : W} {us : List Nat} {k : List Nat → Prop} (h : fitR n0 hp' r x us k) {n : Nat} {hp : Hp} {ρ : Env} (hin : CIn ρ ρ' B hp hp' n m n0 am w' us) :
    ∃ us2 ρ2, k us2 ∧ WOut ρ ρ2 ρ' B hp hp' n m w' us us2 [x.val ρ'] (rvR am r n) := by
  unfold fitR at h
  split at h
  · rename_i rc c
    obtain ⟨us2, ρ2, h2, k2⟩ := fitC_spec hB hh' 8 rc c us k h n hp ρ hin
    have hlen : (rvC am 8 rc n).cs.length = 1 := by have := congrArg List.length k2.val; simpa using this
    obtain ⟨c', hc'⟩ : ∃ c', (rvC am 8 rc n).cs = [c'] := by
      match hb : (rvC am 8 rc n).cs, hlen with
      | [c'], _ => exact ⟨c', rfl⟩
    have hval := k2.val
    have hlt := k2.lt
    rw [hc'] at hval hlt
    refine ⟨us2, ρ2, h2, k2.agree, k2.heap, k2.le, ?_, ?_, k2.ap, k2.fresh, k2.keys⟩
    · simp only [rvR, hc', headC, List.map_cons, List.map_nil, W.val]
      simpa using hval
    · intro y hy
      simp only [rvR, List.mem_singleton] at hy
      subst hy
      rw [hc']
      exact hlt c' List.mem_cons_self
  · rename_i l cs
    obtain ⟨us2, ρ2, h2, k2⟩ := fitL_spec (fitC_spec hB hh' 8) l cs us k h n hp ρ hin
    refine ⟨us2, ρ2, h2, k2.agree, k2.heap, k2.le, ?_, ?_, k2.ap, k2.fresh, k2.keys⟩
    · simp only [rvR, List.map_cons, List.map_nil, W.val, k2.val]
    · intro y hy
      simp only [rvR, List.mem_singleton] at hy
      subst hy
      exact k2.lt
  · rename_i q e r' q' e' r''
    split at h
    · rename_i hk he
      have hk := sameK_eq hk
      have he := Nat.eq_of_beq_eq_true he
      subst hk
      subst he
      obtain ⟨⟨rfl⟩, hk⟩ := h
      refine ⟨us, ρ, hk, Agree.refl _ _, hin.heap, Nat.le_refl _, rfl, ?_, hin.ap, (fun _ _ _ h => by cases h), fun _ _ h => by cases h⟩
      intro y hy
      simp only [rvR, List.mem_singleton] at hy
      subst hy
      trivial
    · exact h.elim
  · exact h.elim
theorem fitRs_spec (hB : ∀ k, B k → k < m) (hh' : HRel ρ' (fun k => k < m) hp' nx w') : ∀ (l : List RR) (ws : List W) (us : List Nat), fitRs n0 hp' l ws us → ∀ (n : Nat) (hp : Hp) (ρ : Env), CIn ρ ρ' B hp hp' n m n0 am w' us →
    ∃ us2 ρ2, WOut ρ ρ2 ρ' B hp hp' n m w' us us2 (ws.map (W.val ρ')) (rvRs am l n)
  | [], [], us, h, n, hp, ρ, hin => ⟨us, ρ, Agree.refl _ _, hin.heap, Nat.le_refl _, rfl, (fun _ h => by cases h), hin.ap, (fun _ _ _ h => by cases h), fun _ _ h => by cases h⟩
  | r :: l, x :: ws, us, h, n, hp, ρ, hin => by
    obtain ⟨us2, ρ2, h2, k2⟩ := fitR_spec hB hh' h hin
    have hin2 : CIn ρ2 ρ' B ((rvR am r n).hp ++ hp) hp' (rvR am r n).n m n0 am w' us2 := ⟨k2.heap, k2.ap, fun i hi => ⟨C.lt_mono k2.le (hin.am i hi).1, by rw [C.val_agree k2.agree (hin.am i hi).1]; exact (hin.am i hi).2⟩⟩
    obtain ⟨us3, ρ3, k3⟩ := fitRs_spec hB hh' l ws us2 h2 (rvR am r n).n _ ρ2 hin2
    refine ⟨us3, ρ3, k2.agree.trans k3.agree k2.le, by simp only [rvRs]; rw [List.append_assoc]; exact k3.heap, Nat.le_trans k2.le k3.le, ?_, ?_, ?_, ?_, ?_⟩
    · simp only [rvRs, List.map_append, k3.val, List.map_cons]
      have : (rvR am r n).ws.map (W.val ρ3) = [x.val ρ'] := by
        rw [← k2.val]
        exact List.map_congr_left fun c hc => W.val_agree k3.agree (k2.lt c hc)
      rw [this]
      rfl
    · intro c hc
      simp only [rvRs] at hc
      rcases List.mem_append.1 hc with hc | hc
      · exact W.lt_mono k3.le (k2.lt c hc)
      · exact k3.lt c hc
    · intro q o b hf hb
      simp only [rvRs] at hf
      rw [List.append_assoc] at hf
      exact k3.ap q o b hf hb
    · intro q o b hf hb
      simp only [rvRs] at hf
      rw [find_append] at hf
      cases hg : find (rvRs am l (rvR am r n).n).hp q with
      | some o2 => rw [hg] at hf; cases hf; exact k3.fresh q o b hg hb
      | none =>
        rw [hg] at hf
        have hf : find (rvR am r n).hp q = some o := hf
        have hq : q < (rvR am r n).n := by
          have : find ((rvR am r n).hp ++ hp) q = some o := by rw [find_append, hf]; rfl
          exact (k2.heap.ok q o this).1
        rw [k3.agree q hq] at hb
        exact k2.fresh q o b hf hb
    · intro q o hf
      simp only [rvRs] at hf
      rw [find_append] at hf
      cases hg : find (rvRs am l (rvR am r n).n).hp q with
      | some o2 => rw [hg] at hf; cases hf; exact Nat.le_trans k2.le (k3.keys q o hg)
      | none => rw [hg] at hf; exact k2.keys q o hf
  | [], _ :: _, _, h, _, _, _, _ => h.elim
  | _ :: _, [], _, h, _, _, _, _ => h.elim
theorem toRT_sel {am : List C} {hp : Hp} {nx : Nat} : ∀ t : GT, (t.toRT am hp nx).sel = ⟨t.sel.1, tupV (rvRs am t.sel.2 nx).ws, (rvRs am t.sel.2 nx).hp ++ hp, (rvRs am t.sel.2 nx).n⟩
  | .leaf ob rs => rfl
  | .br b x y => by
    cases b
    · exact toRT_sel y
    · exact toRT_sel x
theorem pureT_ok {f : Nat} {fn : Func} {body : Code} {shs : List SV} {g : List Lf → Option GT} (hm : P.follows .mixedOrders = true) (hsp : SpecsOK P sp) (hf : P.funcs[f]? = some fn) (hb : fn.body = some body) (hn : (fn.name == "runtime.NumGoroutine") = false)
    (h : ∀ ls t, g ls = some t → t.sel.1 → ∀ b : Bv, bldVs shs 0 ls = some b → b.vs.length ≤ fn.ntmps ∧ ∃ fuel loops, sx P sp fn.ntmps b.n fuel loops (drawX P sp fn.ntmps) body 0 [] ⟨argsTm 0 b.vs, b.hp, b.n⟩ (retX P fn.results.toList fun v hp _ => fitV b.n t.sel.2 v hp)) :
    SpecOK P f true (pureT shs g) := by
  refine .inl ⟨enter_ok hf hb hn, fun ρ B w args hp nx t hS hob hlt hh hB => ?_⟩
  unfold pureT at hS
  split at hS
  · rename_i ls am hto
    split at hS
    · rename_i t' hg
      cases hS
      rw [toRT_sel] at hob ⊢
      have hob : t'.sel.1 := hob
      obtain ⟨b, ρ0, hbl, q⟩ := toVs_spec hh hB shs args ls am hto hlt 0 (fun _ => undef) []
      rw [List.append_nil] at hbl
      obtain ⟨hlen, fuel, loops, hx⟩ := h ls t' hg hob b hbl
      have hbn : b.n = am.length := by have := q.nn; omega
      have hh0 : HRel ρ0 (fun k => k < w.heap.size) b.hp b.n w := by
        refine ⟨fun x o hf => ?_, fun x o x' o' k hf hf' _ hb => ?_, glob_all hh.glob hB⟩
        · obtain ⟨_, a2, a3, a4, _⟩ := q.heap x o hf
          exact ⟨a2, a3, a4⟩
        · obtain ⟨_, _, _, _, a5⟩ := q.heap x o hf
          rw [a5] at hb
          cases hb
      have hcalls := fn_sound (n0 := b.n) (B := fun k => k < w.heap.size) hsp (fun ρ w => drawn_ok hm hsp) hf hb hlen hx q.lt (Nat.le_refl _) ρ0 w hh0 (fun k hk => hk)
      rw [q.val] at hcalls
      refine hcalls.mono ?_
      rintro e w' ⟨ρ', v, hp', nx', rfl, hvlt, hag, hh', hbel, _, hfit⟩
      have hbw : Below w.heap.size w w' := hbel.below
      have hh1 := hh.below hbw hB
      obtain ⟨ws, hws, hfw⟩ : ∃ ws, (tupV ws).val ρ' = v.val ρ' ∧ fitRs b.n hp' t'.sel.2 ws [] := by
        match v, hfit with
        | .w u, hfit => exact ⟨[u], rfl, hfit⟩
        | .t [], hfit => exact ⟨[], rfl, hfit⟩
        | .t (x :: y :: l), hfit => exact ⟨x :: y :: l, rfl, hfit⟩
      have hin : CIn ρ ρ' B hp hp' nx w.heap.size b.n am w' [] := by
        refine ⟨hh1, fun k o b hk hbk => .inl (O.blk_lt (hh.ok k o hk).2.2 hbk).1, fun i hi => ?_⟩
        have hi2 : i < am.length := by omega
        have h1 := q.own i hi2
        rw [Nat.zero_add] at h1
        refine ⟨?_, by rw [hag i hi]; exact h1.symm⟩
        have : am.getD i (.d (.v undef)) = am[i] := by simp [List.getD, hi2]
        rw [this]
        exact q.xlt _ (List.getElem_mem hi2)
      obtain ⟨us2, ρ2, k⟩ := fitRs_spec (m := w.heap.size) (fun k hk => hB k hk) hh' t'.sel.2 ws [] hfw nx hp ρ hin
      refine ⟨ρ2, ?_, k.agree, tupV_lt k.lt, k.le, k.heap, bel_of hbw hB, fun _ => hbw, fun _ h o b hle hf hbk => ?_⟩
      · show Ending.returned _ = Ending.returned ((tupV (rvRs am t'.sel.2 nx).ws).val ρ2)
        rw [← hws, tupV_val, tupV_val]
        simp only [k.val]
      · have hf : find ((rvRs am t'.sel.2 nx).hp ++ hp) h = some o := hf
        rw [find_append] at hf
        cases hg2 : find (rvRs am t'.sel.2 nx).hp h with
        | some o2 => rw [hg2] at hf; cases hf; exact k.fresh h o b hg2 hbk
        | none =>
          rw [hg2] at hf
          have := (hh.ok h o hf).1
          omega
    · cases hS
  · cases hS
end
end Go.Sx
end

section
open Go.RowKit
namespace Go.Sx
end Go.Sx
end

section
namespace Go.Sx
def iter {X Y : Type} (body : X → Option (X ⊕ Y)) : Nat → X → Option Y
  | 0, _ => none
  | n + 1, x => match body x with
    | none => none
    | some (.inl x') => iter body n x'
    | some (.inr y) => some y
def big : Nat := 18446744073709551616
def stepK {X Y R : Type} (body : X → Option (X ⊕ Y)) (n : Nat) (K : Y → Option R) : X ⊕ Y → Option R
  | .inl x => (iter body n x).bind K
  | .inr y => K y
def ok {α : Type} (o : Option α) : Prop := o.isSome = true
instance {α : Type} (o : Option α) : Decidable (ok o) := inferInstanceAs (Decidable (o.isSome = true))
def val {α : Type} [Inhabited α] (o : Option α) : α := o.getD default
theorem ok_some {α : Type} [Inhabited α] {o : Option α} (h : ok o) : o.bind some = some (val o) := by
  cases o with
  | none => cases h
  | some x => rfl
theorem ok_of {α : Type} {o : Option α} {x : α} (h : o = some x) : ok o := by subst h; rfl
theorem val_of {α : Type} [Inhabited α] {o : Option α} {x : α} (h : o = some x) : val o = x := by subst h; rfl
variable {X Y R S A : Type} {g : S → Option R} {r : R} {p q : Prop}
theorem br_d {c : Prop} [Decidable c] {x y : Option S} (h : (if c then x else y).bind g = some r) (hx : x.bind g = some r → p) (hy : y.bind g = some r → q) : Br (decide c) p q := by
  by_cases hc : c
  · rw [if_pos hc] at h; rw [decide_eq_true hc]; exact hx h
  · rw [if_neg hc] at h; rw [decide_eq_false hc]; exact hy h
theorem br_b {b : Bool} {x y : Option S} (h : (if b = true then x else y).bind g = some r) (hx : x.bind g = some r → p) (hy : y.bind g = some r → q) : Br b p q := by
  cases b
  · exact hy h
  · exact hx h
theorem ob_s {c : Prop} [Decidable c] {x : Option S} (h : (if c then x else none).bind g = some r) (hx : x.bind g = some r → p) : Ob c ∧ p := by
  by_cases hc : c
  · rw [if_pos hc] at h; exact ⟨⟨hc⟩, hx h⟩
  · rw [if_neg hc] at h; cases h
theorem ob_t (h : p) : Ob True ∧ p := ⟨⟨trivial⟩, h⟩
theorem ob_c {p q : Prop} (hp : p) (h : q) : Ob p ∧ q := ⟨⟨hp⟩, h⟩
theorem call_s [Inhabited A] {e : Option A} {f : A → Option S} (h : (e.bind f).bind g = some r) (hx : (f (val e)).bind g = some r → p) : Ob (ok e) ∧ p := by
  cases e with
  | none => cases h
  | some a => exact ⟨⟨rfl⟩, hx h⟩
theorem loop_s {body : X → Option (X ⊕ Y)} {n : Nat} {x : X} {rest : Y → Option S} (h : ((iter body n x).bind rest).bind g = some r) : (iter body n x).bind (fun y => (rest y).bind g) = some r := by
  rw [← h]
  cases iter body n x <;> rfl
theorem iter_pos {body : X → Option (X ⊕ Y)} {n : Nat} {x : X} {K : Y → Option R} (h : (iter body n x).bind K = some r) : ∃ m, n = m + 1 ∧ (body x).bind (stepK body m K) = some r := by
  cases n with
  | zero => cases h
  | succ m =>
    refine ⟨m, rfl, ?_⟩
    rw [← h]
    unfold iter
    cases body x with
    | none => rfl
    | some z => cases z <;> rfl
theorem next_s {body : X → Option (X ⊕ Y)} {n : Nat} {x : X} {K : Y → Option R} (h : (some (Sum.inl x)).bind (stepK body n K) = some r) : (iter body n x).bind K = some r := h
theorem exit_s {body : X → Option (X ⊕ Y)} {n : Nat} {y : Y} {K : Y → Option R} (h : (some (Sum.inr y)).bind (stepK body n K) = some r) : K y = some r := h
theorem ret_s {a : R} {P : Prop} (h : (some a).bind some = some r) (hp : a = r → P) : P := hp (Option.some.inj h)
theorem lt_gs {n m : Nat} (h : n + 1 = m) : n < m := by omega
end Go.Sx
end

section
namespace Go.Sx
theorem wr64 {x : Int} (h : -9223372036854775808 ≤ x ∧ x ≤ 9223372036854775807) : IntKind.i64.wrap x = x := IntWalk.i64_in _ (by omega)
theorem iter_run {X Y : Type} {body : X → Option (X ⊕ Y)} (f : Nat → X) {y : Y} : ∀ (k : Nat) (s : Nat) (N : Nat), (∀ i, s ≤ i → i < s + k → body (f i) = some (.inl (f (i + 1)))) → body (f (s + k)) = some (.inr y) → k < N → iter body N (f s) = some y
  | 0, s, 0, _, _, h => absurd h (by omega)
  | 0, s, N + 1, _, hy, _ => by
    unfold iter
    rw [Nat.add_zero] at hy
    rw [hy]
  | k + 1, s, 0, _, _, h => absurd h (by omega)
  | k + 1, s, N + 1, h, hy, hN => by
    unfold iter
    rw [h s (Nat.le_refl _) (by omega)]
    exact iter_run f k (s + 1) N (fun i h1 h2 => h i (by omega) (by omega)) (by rw [show s + 1 + k = s + (k + 1) by omega]; exact hy) (by omega)
theorem iter_upto {X Y : Type} {body : X → Option (X ⊕ Y)} (f : Nat → X) {y : Y} {k : Nat} (h : ∀ i, i < k → body (f i) = some (.inl (f (i + 1)))) (hy : body (f k) = some (.inr y)) (hk : k < 18446744073709551616) : iter body big (f 0) = some y :=
  iter_run f k 0 big (fun i _ h2 => h i (by omega)) (by rw [Nat.zero_add]; exact hy) hk
theorem iter_first {α Y : Type} (l : List α) (d : α) (P : α → Bool) {body : Int → Option (Int ⊕ Y)} (hit : Nat → Y) (miss : Y) (hlen : l.length < 9223372036854775807)
    (h1 : ∀ i, i < l.length → P (l.getD i d) = true → body (i : Int) = some (.inr (hit i)))
    (h2 : ∀ i, i < l.length → P (l.getD i d) = false → body (i : Int) = some (.inl ((i : Int) + 1))) (h3 : body (l.length : Int) = some (.inr miss)) :
    iter body big 0 = some (match l.findIdx? P with | some i => hit i | none => miss) := by
  cases hf : l.findIdx? P with
  | none =>
    rw [List.findIdx?_eq_none_iff] at hf
    refine iter_upto (fun i => (i : Int)) (k := l.length) (fun i hi => ?_) h3 (by omega)
    have := h2 i hi (by simpa [List.getD, hi] using hf l[i] (List.getElem_mem _))
    rw [this]
    rfl
  | some k =>
    rw [List.findIdx?_eq_some_iff_getElem] at hf
    obtain ⟨hk, hp, hbef⟩ := hf
    refine iter_upto (fun i => (i : Int)) (k := k) (fun i hi => ?_) (h1 k hk (by simpa [List.getD, hk] using hp)) (by omega)
    have hil : i < l.length := by omega
    have := h2 i hil (by simpa [List.getD, hil] using hbef i hi)
    rw [this]
    rfl
def inI (n : Int) : Prop := -9223372036854775808 ≤ n ∧ n ≤ 9223372036854775807
def inJ (n : Int) : Prop := -9223372036854775807 ≤ n ∧ n ≤ 9223372036854775807
theorem bind_some' {α β : Type} (x : α) (f : α → Option β) : (some x).bind f = f x := rfl
end Go.Sx
end

section
namespace Go.Sx
open Ieee Go.Fl
def mg (K : Nat) (m : Nat) (e : Int) : Nat := m * 2 ^ (e + K).toNat
def sg (s : Bool) (a : Nat) : Int := if s then -(a : Int) else (a : Int)
theorem signed_eq (s : Bool) (m k : Nat) : signed s m k = sg s (m * 2 ^ k) := by
  unfold signed sg
  rw [Nat.shiftLeft_eq]
theorem sg_mul (s : Bool) (a b : Nat) : sg s (a * b) = sg s a * (b : Int) := by
  unfold sg
  cases s <;> simp [Int.neg_mul]
theorem compare_mul {a b : Int} {c : Nat} (hc : 0 < c) : compare (a * (c : Int)) (b * (c : Int)) = compare a b := by
  have hc' : (0 : Int) < (c : Int) := by omega
  rcases Int.lt_trichotomy a b with h | h | h
  · have h1 : a * (c : Int) < b * (c : Int) := Int.mul_lt_mul_of_pos_right h hc'
    rw [Int.compare_eq_lt.2 h1, Int.compare_eq_lt.2 h]
  · subst h; rw [Int.compare_eq_eq.2 rfl, Int.compare_eq_eq.2 rfl]
  · have h1 : b * (c : Int) < a * (c : Int) := Int.mul_lt_mul_of_pos_right h hc'
    rw [Int.compare_eq_gt.2 h1, Int.compare_eq_gt.2 h]
theorem order_mg (K : Nat) {s t : Bool} {m n : Nat} {i j : Int} (hi : 0 ≤ i + K) (hj : 0 ≤ j + K) :
    Datum.order (.number s m i) (.number t n j) = some (compare (sg s (mg K m i)) (sg t (mg K n j))) := by
  simp only [Datum.order, signed_eq]
  have key : ∀ (x : Int) (m : Nat), min i j ≤ x → 0 ≤ x + K → mg K m x = m * 2 ^ (x - min i j).toNat * 2 ^ (min i j + K).toNat := by
    intro x m h1 h2
    unfold mg
    rw [Nat.mul_assoc, ← Nat.pow_add]
    congr 2
    omega
  rw [key i m (by omega) hi, key j n (by omega) hj, sg_mul s (m * _), sg_mul t (n * _), compare_mul (Nat.two_pow_pos _)]
theorem sg_zero (s : Bool) : sg s 0 = 0 := by cases s <;> rfl
theorem sum_self {s : Bool} {m : Nat} {i : Int} : Datum.sum (.number s m i) (Datum.opposite (.number s m i)) = some (.number false 0 i) := by
  simp only [Datum.opposite, Datum.sum, Int.min_self, Int.sub_self, Int.toNat_zero, signed_eq]
  cases s <;> simp [sg] <;> omega
theorem cut_zero_way (s : Bool) (n drop : Nat) : Toward.cut .zero s n drop = n / 2 ^ drop := by
  have h1 : (n / (1 <<< min drop (n.log2 + 2))) = n / 2 ^ drop := by
    rw [Nat.shiftLeft_eq, Nat.one_mul]
    by_cases h : drop ≤ n.log2 + 2
    · rw [Nat.min_eq_left h]
    · rw [Nat.min_eq_right (by omega)]
      have h2 : n < 2 ^ (n.log2 + 1) := Nat.lt_log2_self
      have h3 : 2 ^ (n.log2 + 1) ≤ 2 ^ (n.log2 + 2) := Nat.pow_le_pow_right (by omega) (by omega)
      have h4 : 2 ^ (n.log2 + 2) ≤ 2 ^ drop := Nat.pow_le_pow_right (by omega) (by omega)
      rw [Nat.div_eq_of_lt (by omega), Nat.div_eq_of_lt (by omega)]
  simp [Toward.cut, h1]
theorem toInt_mg (K : Nat) {s : Bool} {m : Nat} {i : Int} (hi : 0 ≤ i + K) : Datum.toInt .zero (.number s m i) = some (sg s (mg K m i / 2 ^ K)) := by
  simp only [Datum.toInt, Datum.integral, signed_eq, Nat.pow_zero, Nat.mul_one, cut_zero_way, Nat.shiftLeft_eq]
  congr 2
  unfold mg
  by_cases h : 0 ≤ i
  · have e1 : (-i).toNat = 0 := by omega
    have e2 : (i + K).toNat = i.toNat + K := by omega
    rw [e1, e2, Nat.pow_add, Nat.pow_zero, Nat.div_one, ← Nat.mul_assoc, Nat.mul_div_cancel _ (Nat.two_pow_pos K)]
  · have e1 : i.toNat = 0 := by omega
    have e2 : K = (i + K).toNat + (-i).toNat := by omega
    rw [e1, Nat.pow_zero, Nat.mul_one]
    conv => rhs; rhs; rw [e2, Nat.pow_add]
    rw [Nat.mul_comm m, Nat.mul_div_mul_left _ _ (Nat.two_pow_pos _)]
theorem round32 {s : Bool} {m : Nat} (hm0 : m ≠ 0) (hm : m < 16777216) :
    single.read (single.write (.number s m 0)) = .number s (m * 2 ^ (23 - m.log2)) ((m.log2 : Int) - 23) ∧ m.log2 ≤ 23 := by
  have hl : m.log2 ≤ 23 := by
    have := (Nat.log2_lt hm0 (k := 24)).2 (by omega)
    omega
  refine ⟨?_, hl⟩
  have hlo : 2 ^ m.log2 ≤ m := Nat.log2_self_le hm0
  have hhi : m < 2 ^ (m.log2 + 1) := Nat.lt_log2_self
  have hp : 2 ^ m.log2 * 2 ^ (23 - m.log2) = 8388608 := by rw [← Nat.pow_add, Nat.add_sub_cancel' hl]
  have h1 : 8388608 ≤ m * 2 ^ (23 - m.log2) := by rw [← hp]; exact Nat.mul_le_mul_right _ hlo
  have h2 : m * 2 ^ (23 - m.log2) < 16777216 := by
    have h3 : m * 2 ^ (23 - m.log2) < 2 ^ (m.log2 + 1) * 2 ^ (23 - m.log2) := Nat.mul_lt_mul_of_pos_right hhi (Nat.two_pow_pos _)
    have h4 : 2 ^ (m.log2 + 1) * 2 ^ (23 - m.log2) = 16777216 := by rw [Nat.pow_succ, Nat.mul_assoc, Nat.mul_comm 2, ← Nat.mul_assoc, hp]
    omega
  have e1 : single.signWeight = 2147483648 := rfl
  have e2 : single.binade = 8388608 := rfl
  have e3 : single.infRung = 2139095040 := rfl
  have e4 : single.leastPlace = -149 := rfl
  have e5 : single.fractionBits = 23 := rfl
  have hw : single.write (.number s m 0) = single.word s ((m.log2 + 126) * 8388608 + m * 2 ^ (23 - m.log2)) := by
    simp only [Format.write, Format.nearest, if_neg hm0, e2, e3, e4, e5]
    have hlast : max ((0 : Int) + (m.log2 : Int) - (23 : Nat)) (-149) = (m.log2 : Int) - 23 := by omega
    rw [hlast]
    have ha : ((0 : Int) - ((m.log2 : Int) - 23)).toNat = 23 - m.log2 := by omega
    have hb : (((m.log2 : Int) - 23) - 0).toNat = 0 := by omega
    rw [ha, hb, cut_zero _ _ _ rfl, Nat.shiftLeft_eq]
    have hc : ((m.log2 : Int) - 23 - -149).toNat = m.log2 + 126 := by omega
    rw [hc, Nat.min_eq_left (by omega)]
  rw [hw]
  generalize m * 2 ^ (23 - m.log2) = k at *
  generalize m.log2 = q at *
  have hrd : ∀ r, 8388608 ≤ r → r < 2139095040 → single.read (single.word s r) = .number s (8388608 + r % 8388608) (-149 + (r / 8388608 - 1 : Nat)) := by
    intro r h1 h2
    unfold Format.read Format.word
    simp only [e1, e2, e3, e4]
    cases s
    · simp only [Bool.false_eq_true, if_false]
      have ha : r % 2147483648 = r := Nat.mod_eq_of_lt (by omega)
      have hb : r / 2147483648 = 0 := Nat.div_eq_of_lt (by omega)
      rw [ha, hb, if_neg (by omega), if_pos h2]
      rfl
    · simp only [if_true]
      have ha : (2147483648 + r) % 2147483648 = r := by omega
      have hb : (2147483648 + r) / 2147483648 = 1 := by omega
      rw [ha, hb, if_neg (by omega), if_pos h2]
      rfl
  rw [hrd _ (by omega) (by omega)]
  have ha : 8388608 + ((q + 126) * 8388608 + k) % 8388608 = k := by omega
  have hb : ((q + 126) * 8388608 + k) / 8388608 - 1 = q + 126 := by omega
  have hc : (-149 : Int) + ((q + 126 : Nat) : Int) = (q : Int) - 23 := by omega
  rw [ha, hb, hc]
theorem near32 (K : Nat) (hK : 149 ≤ K) {n : Int} (hn : -16777216 < n ∧ n < 16777216) :
    ∃ m e, FloatKind.decode .f32 (FloatKind.nearest .f32 n) = .number (decide (n < 0)) m e ∧ mg K m e = n.natAbs * 2 ^ K ∧ -149 ≤ e := by
  unfold FloatKind.decode FloatKind.nearest FloatKind.encode FloatKind.format
  by_cases h0 : n.natAbs = 0
  · rw [h0]
    have : n = 0 := by omega
    subst this
    exact ⟨0, -149, by rfl, by simp [mg], by omega⟩
  · obtain ⟨h1, h2⟩ := round32 (s := decide (n < 0)) h0 (by omega)
    refine ⟨_, _, h1, ?_, by omega⟩
    unfold mg
    have e1 : ((n.natAbs.log2 : Int) - 23 + K).toNat = K - (23 - n.natAbs.log2) := by omega
    rw [e1, Nat.mul_assoc, ← Nat.pow_add]
    congr 2
    omega
theorem sg_natAbs (n : Int) : sg (decide (n < 0)) n.natAbs = n := by
  unfold sg
  by_cases h : n < 0
  · simp [h]; omega
  · simp [h]; omega
end Go.Sx
end

section
namespace Go.Sx06
end Go.Sx06
end

section
namespace Go.Sx
class TC (R : Type) where
  c : R → R → Prop
  refl : ∀ a, c a a
instance (priority := low) instTC {α : Type} : TC α := ⟨fun a r => Ob (a = r) ∧ True, fun _ => ⟨⟨rfl⟩, trivial⟩⟩
instance instTCProd {α β : Type} [i : TC β] : TC (α × β) := ⟨fun a r => Ob (a.1 = r.1) ∧ i.c a.2 r.2, fun a => ⟨⟨rfl⟩, i.refl a.2⟩⟩
inductive T (R : Type) : Type 1 where
  | brP (c : Prop) [d : Decidable c] (x y : T R)
  | brB (b : Bool) (x y : T R)
  | obP (c : Prop) [d : Decidable c] (x : T R)
  | obT (x : T R)
  | obC (c : Prop) (h : c) (x : T R)
  | call {A : Type} [i : Inhabited A] (e : Option A) (x : A → T R)
  | ret (a : R) (P : R → Prop) (h : P a)
  | rc [i : TC R] (a : R)
  | bad (Q : R → Prop)
def T.run {R : Type} : T R → Option R
  | @T.brP _ c d x y => @ite _ c d x.run y.run
  | .brB b x y => if b = true then x.run else y.run
  | @T.obP _ c d x => @ite _ c d x.run none
  | .obT x => x.run
  | .obC _ _ x => x.run
  | @T.call _ _ _ e x => Option.bind e fun a => (x a).run
  | .ret a _ _ => some a
  | @T.rc _ _ a => some a
  | .bad _ => none
def T.cond {R : Type} : T R → R → Prop
  | @T.brP _ c d x y, r => Br (@decide c d) (x.cond r) (y.cond r)
  | .brB b x y, r => Br b (x.cond r) (y.cond r)
  | @T.obP _ c _ x, r => Ob c ∧ x.cond r
  | .obT x, r => Ob True ∧ x.cond r
  | .obC c _ x, r => Ob c ∧ x.cond r
  | @T.call _ _ i e x, r => Ob (ok e) ∧ (x (@val _ i e)).cond r
  | .ret _ P _, r => P r
  | @T.rc _ i a, r => i.c a r
  | .bad Q, r => Q r
theorem T.sound {R : Type} : ∀ (t : T R) {r : R}, t.run = some r → t.cond r
  | @T.brP _ c d x y, r, h => by
    simp only [T.run] at h
    simp only [T.cond]
    by_cases hc : c
    · rw [if_pos hc] at h; rw [decide_eq_true hc]; exact T.sound x h
    · rw [if_neg hc] at h; rw [decide_eq_false hc]; exact T.sound y h
  | .brB b x y, r, h => by
    simp only [T.run] at h
    simp only [T.cond]
    cases b
    · exact T.sound y h
    · exact T.sound x h
  | @T.obP _ c d x, r, h => by
    simp only [T.run] at h
    by_cases hc : c
    · rw [if_pos hc] at h; exact ⟨⟨hc⟩, T.sound x h⟩
    · rw [if_neg hc] at h; cases h
  | .obT x, r, h => ⟨⟨trivial⟩, T.sound x h⟩
  | .obC c hc x, r, h => ⟨⟨hc⟩, T.sound x h⟩
  | @T.call _ _ i e x, r, h => by
    simp only [T.run] at h
    cases e with
    | none => cases h
    | some a => exact ⟨⟨rfl⟩, T.sound (x a) h⟩
  | .ret a P hP, r, h => by
    cases h
    exact hP
  | @T.rc _ i a, r, h => by
    cases h
    exact i.refl a
  | .bad _, r, h => by cases h
theorem T.vc {R : Type} {t : T R} {m : Option R} {r : R} {p : Prop} (hm : t.run = m) (hp : t.cond r = p) (h : Option.bind m some = some r) : p := by
  have h1 : m = some r := by cases m with
    | none => cases h
    | some a => exact h
  rw [← hp]
  exact T.sound t (hm.trans h1)
end Go.Sx
end

section
namespace Go.Sx
def powersT : List Int := [1, 10, 100, 1000, 10000, 100000, 1000000, 10000000, 100000000, 1000000000, 10000000000, 100000000000, 1000000000000]
def tenthsT : List Int := [1000000000, 1258925411, 1584893192, 1995262314, 2511886431, 3162277660, 3981071705, 5011872336, 6309573444, 7943282347]
def slopesT : List (List Int) := [[0, 2, 6], [1, 5, 3], [1, 7, 2]]
def kindsT : List Int := [0, 1, 2]
def audibleT : List Int := [0, 0, 0, 1, 50, 10000]
def pow10T : List Int := [1, 10, 100, 1000, 10000, 100000, 1000000, 10000000, 100000000, 1000000000, 10000000000, 100000000000, 1000000000000, 10000000000000, 100000000000000, 1000000000000000, 10000000000000000, 100000000000000000, 1000000000000000000, 10000000000000000000]
def tabZ : Nat → Option Cont
  | 0 => some (.ints .i64 kindsT)
  | 2 => some (.recs 3 slopesT)
  | 3 => some (.ints .u64 powersT)
  | 1 => some (.ints .u64 tenthsT)
  | 6 => some (.ints .u64 pow10T)
  | _ => none
instance globs : Globs := { mv := true, tab := tabZ }
end Go.Sx
end

section
namespace Go.Sh
open Go Go.Proofs Go.RowKit Go.Sx
def bodyOf (f : Func) : Code := f.body.getD .skip
theorem mixed : Tryd.prog.follows .mixedOrders = true := by kernel_rfl
abbrev runF (fn : Func) (sp : Specs) (loops : Loops) (as_ : List A) (rs : List RV) : Prop :=
  sx Tryd.prog sp fn.ntmps as_.length 40 loops (drawX Tryd.prog sp fn.ntmps) (bodyOf fn) 0 [] ⟨argsTm 0 (argVs 0 as_), argHp 0 as_, as_.length⟩ (retX Tryd.prog fn.results.toList fun v hp _ => fitsV rs v hp)
abbrev runE (fn : Func) (sp : Specs) (loops : Loops) (c0 : C) (ob : O) (as_ : List A) (ob' : O) (rs : List RV) : Prop :=
  sx Tryd.prog sp fn.ntmps 1 40 loops (drawX Tryd.prog sp fn.ntmps) (bodyOf fn) 0 [] ⟨argsTm 0 (.w (.c c0) :: argVs 1 as_), [(0, ob)], 1⟩ (retX Tryd.prog fn.results.toList fun v hp _ => fitsE ob' rs v hp)
def bldD (shs : List SV) (ls : List Lf) : Bv := (bldVs shs 0 ls).getD ⟨[], [], 0, []⟩
theorem bld_eq {shs : List SV} {ls : List Lf} {b : Bv} (h : bldVs shs 0 ls = some b) : b = bldD shs ls := by
  unfold bldD
  rw [h]
  rfl
abbrev runT (fn : Func) (sp : Specs) (loops : Loops) (b : Bv) (rs : List RR) : Prop :=
  sx Tryd.prog sp fn.ntmps b.n 40 loops (drawX Tryd.prog sp fn.ntmps) (bodyOf fn) 0 [] ⟨argsTm 0 b.vs, b.hp, b.n⟩ (retX Tryd.prog fn.results.toList fun v hp _ => fitV b.n rs v hp)
def sp0 : Specs := fun _ => none
theorem sp0_ok : SpecsOK Tryd.prog sp0 := fun _ _ _ h => by cases h
def addK (f : Nat) (M : Bool) (S : Sx.Spec) (sp : Specs) : Specs := fun k => match Nat.beq k f with
  | true => some (M, S)
  | false => sp k
theorem addK_ok {f : Nat} {M : Bool} {S : Sx.Spec} {sp : Specs} (h : SpecOK Tryd.prog f M S) (hs : SpecsOK Tryd.prog sp) : SpecsOK Tryd.prog (addK f M S sp) := by
  intro k M' S' hk
  unfold addK at hk
  split at hk
  · rename_i e
    have := Nat.eq_of_beq_eq_true e
    subst this
    cases hk
    exact h
  · exact hs k M' S' hk
def tab8 : ByteArray := ⟨(([0, 1, 2, 2] ++ List.replicate 4 3 ++ List.replicate 8 4 ++ List.replicate 16 5 ++ List.replicate 32 6 ++ List.replicate 64 7 ++ List.replicate 128 8) : List UInt8).toArray⟩
end Go.Sh
end

section
namespace Go.Sh
open Go Go.Proofs Go.RowKit Go.Sx
set_option linter.unusedVariables false
private theorem zcD10 : ((0 : Int) ≤ (32 : Int)) := by decide
def k_G_within : List (Option Cont) := [none, none, none]
def y9 (n : Int) (lo : Int) (hi : Int) : Option Bool :=
  if lo ≤ n then
   some (decide (n ≤ hi))
  else
   some false
def g_G_within : List A → Option (Prop × List RV)
  | [.d (.i .i64 n), .d (.i .i64 lo), .d (.i .i64 hi)] => some (ok (y9 n lo hi), [.d (.b ((val (y9 n lo hi))))])
  | _ => none
abbrev sp_41 : Specs → Specs := addK 41 true (pureK k_G_within g_G_within)
set_option maxRecDepth 100000 in
def G_within_t (n : Int) (lo : Int) (hi : Int) : T (Bool) :=
 .brP (lo ≤ n)
  (.obT
  (.ret ((decide (n ≤ hi))) (fun r => (Ob (decide (n ≤ hi) = r) ∧
 True)) ⟨⟨rfl⟩, trivial⟩))
  (.obT
  (.ret (false) (fun r => (Ob (false = r) ∧
 True)) ⟨⟨rfl⟩, trivial⟩))
set_option maxRecDepth 100000 in
theorem G_within_vc (n : Int) (lo : Int) (hi : Int) (r : Bool) (h : Option.bind (y9 n lo hi) some = some r) : runF Tryd.f41 (sp0) (fun _ _ _ => none) [.d (.i .i64 n), .d (.i .i64 lo), .d (.i .i64 hi)] [.d (.b r)] :=
  T.vc (t := G_within_t n lo hi) (by kernel_rfl) (by kernel_rfl) h
set_option maxRecDepth 100000 in
theorem G_within_ok : SpecOK Tryd.prog 41 true (pureK k_G_within g_G_within) := by
  refine pureK_ok (sp := sp0) (fn := Tryd.f41) (body := bodyOf Tryd.f41) mixed sp0_ok Tryd.func41 (by kernel_rfl) (by kernel_rfl) fun as_ ob rs h ho => ?_
  unfold g_G_within at h
  split at h
  · rename_i n lo hi
    cases h
    exact ⟨Nat.le_of_ble_eq_true rfl, _, _, G_within_vc n lo hi _ (ok_some ho)⟩
  · cases h
theorem sp_41_ok {sp : Specs} (h : SpecsOK Tryd.prog sp) : SpecsOK Tryd.prog (sp_41 sp) := addK_ok G_within_ok h
def k_G_isRate : List (Option Cont) := [none]
def G_isRate (n : Int) : Option Bool :=
  Option.bind (y9 n (8000 : Int) (192000 : Int)) fun r0 =>
  some r0
def g_G_isRate : List A → Option (Prop × List RV)
  | [.d (.i .i64 n)] => some (ok (G_isRate n), [.d (.b ((val (G_isRate n))))])
  | _ => none
abbrev sp_49 : Specs → Specs := addK 49 true (pureK k_G_isRate g_G_isRate)
set_option maxRecDepth 100000 in
def G_isRate_t (n : Int) : T (Bool) :=
 .call (y9 n (8000 : Int) (192000 : Int)) fun r0 =>
  .obT
  (.ret (r0) (fun r => (Ob (r0 = r) ∧
 True)) ⟨⟨rfl⟩, trivial⟩)
set_option maxRecDepth 100000 in
theorem G_isRate_vc (n : Int) (r : Bool) (h : Option.bind (G_isRate n) some = some r) : runF Tryd.f49 ((sp_41 sp0)) (fun _ _ _ => none) [.d (.i .i64 n)] [.d (.b r)] :=
  T.vc (t := G_isRate_t n) (by kernel_rfl) (by kernel_rfl) h
set_option maxRecDepth 100000 in
theorem G_isRate_ok : SpecOK Tryd.prog 49 true (pureK k_G_isRate g_G_isRate) := by
  refine pureK_ok (sp := (sp_41 sp0)) (fn := Tryd.f49) (body := bodyOf Tryd.f49) mixed (sp_41_ok sp0_ok) Tryd.func49 (by kernel_rfl) (by kernel_rfl) fun as_ ob rs h ho => ?_
  unfold g_G_isRate at h
  split at h
  · rename_i n
    cases h
    exact ⟨Nat.le_of_ble_eq_true rfl, _, _, G_isRate_vc n _ (ok_some ho)⟩
  · cases h
theorem sp_49_ok {sp : Specs} (h : SpecsOK Tryd.prog sp) : SpecsOK Tryd.prog (sp_49 sp) := addK_ok G_isRate_ok h
def k_G_unless : List (Option Cont) := [none, none]
def y10 (is : Bool) (e : Int) : Option Int :=
  if (is) = true then
   some (0 : Int)
  else
   some e
def g_G_unless : List A → Option (Prop × List RV)
  | [.d (.b is), .d (.i .i64 e)] => some (ok (y10 is e), [.d (.i .i64 ((val (y10 is e))))])
  | _ => none
abbrev sp_48 : Specs → Specs := addK 48 true (pureK k_G_unless g_G_unless)
set_option maxRecDepth 100000 in
def G_unless_t (is : Bool) (e : Int) : T (Int) :=
 .brB (is)
  (.obT
  (.ret ((0 : Int)) (fun r => (Ob ((0 : Int) = r) ∧
 True)) ⟨⟨rfl⟩, trivial⟩))
  (.obT
  (.ret (e) (fun r => (Ob (e = r) ∧
 True)) ⟨⟨rfl⟩, trivial⟩))
set_option maxRecDepth 100000 in
theorem G_unless_vc (is : Bool) (e : Int) (r : Int) (h : Option.bind (y10 is e) some = some r) : runF Tryd.f48 (sp0) (fun _ _ _ => none) [.d (.b is), .d (.i .i64 e)] [.d (.i .i64 r)] :=
  T.vc (t := G_unless_t is e) (by kernel_rfl) (by kernel_rfl) h
set_option maxRecDepth 100000 in
theorem G_unless_ok : SpecOK Tryd.prog 48 true (pureK k_G_unless g_G_unless) := by
  refine pureK_ok (sp := sp0) (fn := Tryd.f48) (body := bodyOf Tryd.f48) mixed sp0_ok Tryd.func48 (by kernel_rfl) (by kernel_rfl) fun as_ ob rs h ho => ?_
  unfold g_G_unless at h
  split at h
  · rename_i is e
    cases h
    exact ⟨Nat.le_of_ble_eq_true rfl, _, _, G_unless_vc is e _ (ok_some ho)⟩
  · cases h
theorem sp_48_ok {sp : Specs} (h : SpecsOK Tryd.prog sp) : SpecsOK Tryd.prog (sp_48 sp) := addK_ok G_unless_ok h
def k_G_first : List (Option Cont) := [some (.ints .i64 [])]
def y88 (l : List Int) (x0 : Int) : Option (Int ⊕ (Int ⊕ Unit)) :=
  if x0 < (↑(List.length l) : Int) then
   if (0 : Int) ≤ x0 ∧ x0 < (↑(List.length l) : Int) then
    if Int.toNat x0 < List.length l then
     if (List.getD l (Int.toNat x0) (0 : Int) != (0 : Int)) = true then
      some (.inr ((.inl (List.getD l (Int.toNat x0) (0 : Int)))))
     else
      some (.inl (IntKind.wrap .i64 (x0 + (1 : Int))))
    else none
   else none
  else
   some (.inr ((.inr ())))
def G_first_r0_0 (u17 : Int) : Option Int :=
  some u17
def G_first_r0_1 (u25 : Unit) : Option Int :=
  some (0 : Int)
def y119 : (Int ⊕ Unit) → Option Int :=
  (Sum.elim (G_first_r0_0) (G_first_r0_1))
def y25 (l : List Int) : Option Int :=
  Option.bind (iter (y88 l) big (0 : Int)) (y119)
def g_G_first : List A → Option (Prop × List RV)
  | [.r (.ints .i64 l)] => some (ok (y25 l), [.d (.i .i64 ((val (y25 l))))])
  | _ => none
abbrev sp_47 : Specs → Specs := addK 47 true (pureK k_G_first g_G_first)
set_option maxRecDepth 100000 in
theorem G_first_vc (l : List Int) (r : Int) (h : Option.bind (y25 l) some = some r) : runF Tryd.f47 (sp0) (fun gs id _ => match id with
 | 0 => some ⟨Int × Nat, fun z => ⟨[(5, .w (.c (.o 0))), (6, .w (.c (.d (.i .i64 ((↑(List.length l) : Int)))))), (7, .w (.c (.d (.i .i64 (Prod.fst z)))))], [(0, .ext (.ints .i64 l))], 1⟩, fun z => Option.bind (iter (y88 l) (Prod.snd z) (Prod.fst z)) (fun y0 => Option.bind (y119 y0) some) = some r, fun z => Prod.snd z⟩
 | _ => none) [.r (.ints .i64 l)] [.d (.i .i64 r)] := by
  refine Eq.mp (by kernel_rfl : (
  ((∃ (v0 : Int × Nat), (Ob ((Option.bind (iter (y88 l) v0.2 v0.1) fun y0 => Option.bind (y119 y0) some) = some r) ∧
 (Ob ((↑(List.length l) : Int) = (↑(List.length l) : Int)) ∧
 (Ob ((0 : Int) = v0.1) ∧
 (Ob (l = l) ∧
 True))))) ∧
   (∀ (v0 : Int × Nat), ((Option.bind (iter (y88 l) v0.2 v0.1) fun y0 => Option.bind (y119 y0) some) = some r →
 Br (decide (v0.1 < (↑(List.length l) : Int)))
   ((Ob ((0 : Int) ≤ v0.1 ∧ v0.1 < (↑(List.length l) : Int)) ∧
 (Ob (Int.toNat v0.1 < List.length l) ∧
 Br (List.getD l (Int.toNat v0.1) (0 : Int) != (0 : Int))
   ((Ob (True) ∧
 (Ob (List.getD l (Int.toNat v0.1) (0 : Int) = r) ∧
 True)))
   ((∃ (v1 : Int × Nat), (Ob ((Option.bind (iter (y88 l) v1.2 v1.1) fun y0 => Option.bind (y119 y0) some) = some r) ∧
 (Ob (v1.2 < v0.2) ∧
 (Ob ((↑(List.length l) : Int) = (↑(List.length l) : Int)) ∧
 (Ob (IntKind.wrap .i64 (v0.1 + (1 : Int)) = v1.1) ∧
 (Ob (l = l) ∧
 True))))))))))
   ((Ob (True) ∧
 (Ob ((0 : Int) = r) ∧
 True))))))) = _) ?_
  refine ⟨⟨((0 : Int), big), ⟨loop_s h⟩, (by repeat' constructor)⟩, fun z0 hz0 => ?_⟩
  obtain ⟨k0, hm0, h⟩ := iter_pos hz0
  refine br_d h (fun h => ?_) (fun h => ?_)
  · refine ob_s h fun h => ?_
    refine ob_s h fun h => ?_
    refine br_b h (fun h => ?_) (fun h => ?_)
    · have h := exit_s h
      refine ob_t ?_
      exact ret_s h (fun e => by subst e; exact (by repeat' constructor))
    · exact ⟨(IntKind.wrap .i64 (Prod.fst z0 + (1 : Int)), k0), ⟨next_s h⟩, ⟨lt_gs hm0.symm⟩, (by repeat' constructor)⟩
  · have h := exit_s h
    refine ob_t ?_
    exact ret_s h (fun e => by subst e; exact (by repeat' constructor))
set_option maxRecDepth 100000 in
theorem G_first_ok : SpecOK Tryd.prog 47 true (pureK k_G_first g_G_first) := by
  refine pureK_ok (sp := sp0) (fn := Tryd.f47) (body := bodyOf Tryd.f47) mixed sp0_ok Tryd.func47 (by kernel_rfl) (by kernel_rfl) fun as_ ob rs h ho => ?_
  unfold g_G_first at h
  split at h
  · rename_i l
    cases h
    exact ⟨Nat.le_of_ble_eq_true rfl, _, _, G_first_vc l _ (ok_some ho)⟩
  · cases h
theorem sp_47_ok {sp : Specs} (h : SpecsOK Tryd.prog sp) : SpecsOK Tryd.prog (sp_47 sp) := addK_ok G_first_ok h
def k_G_size : List (Option Cont) := [none]
def G_size (n : Int) : Option Int :=
  some (if IntKind.wrap .i64 ((0 : Int) - n) > n then IntKind.wrap .i64 ((0 : Int) - n) else n)
def g_G_size : List A → Option (Prop × List RV)
  | [.d (.i .i64 n)] => some (ok (G_size n), [.d (.i .i64 ((val (G_size n))))])
  | _ => none
abbrev sp_80 : Specs → Specs := addK 80 true (pureK k_G_size g_G_size)
set_option maxRecDepth 100000 in
def G_size_t (n : Int) : T (Int) :=
 .obT
  (.ret ((if IntKind.wrap .i64 ((0 : Int) - n) > n then IntKind.wrap .i64 ((0 : Int) - n) else n)) (fun r => (Ob ((if IntKind.wrap .i64 ((0 : Int) - n) > n then IntKind.wrap .i64 ((0 : Int) - n) else n) = r) ∧
 True)) ⟨⟨rfl⟩, trivial⟩)
set_option maxRecDepth 100000 in
theorem G_size_vc (n : Int) (r : Int) (h : Option.bind (G_size n) some = some r) : runF Tryd.f80 (sp0) (fun _ _ _ => none) [.d (.i .i64 n)] [.d (.i .i64 r)] :=
  T.vc (t := G_size_t n) (by kernel_rfl) (by kernel_rfl) h
set_option maxRecDepth 100000 in
theorem G_size_ok : SpecOK Tryd.prog 80 true (pureK k_G_size g_G_size) := by
  refine pureK_ok (sp := sp0) (fn := Tryd.f80) (body := bodyOf Tryd.f80) mixed sp0_ok Tryd.func80 (by kernel_rfl) (by kernel_rfl) fun as_ ob rs h ho => ?_
  unfold g_G_size at h
  split at h
  · rename_i n
    cases h
    exact ⟨Nat.le_of_ble_eq_true rfl, _, _, G_size_vc n _ (ok_some ho)⟩
  · cases h
theorem sp_80_ok {sp : Specs} (h : SpecsOK Tryd.prog sp) : SpecsOK Tryd.prog (sp_80 sp) := addK_ok G_size_ok h
def k_G_sampleErr : List (Option Cont) := [none]
def y76 (x_ : Nat) : Option Int :=
  if (Ieee.Format.order (FloatKind.format .f32) x_ x_ != some Ordering.eq) = true then
   some (27 : Int)
  else
   if (Option.isSome (Ieee.Format.sub (FloatKind.format .f32) x_ x_)) = true then
    if (Ieee.Format.order (FloatKind.format .f32) (Option.getD (Ieee.Format.sub (FloatKind.format .f32) x_ x_) (0 : Nat)) (0 : Nat) != some Ordering.eq) = true then
     some (27 : Int)
    else
     if (Ieee.Format.order (FloatKind.format .f32) x_ (1266679808 : Nat) == some Ordering.gt || Ieee.Format.order (FloatKind.format .f32) x_ (1266679808 : Nat) == some Ordering.eq) = true then
      some (2 : Int)
     else
      if (Ieee.Format.order (FloatKind.format .f32) x_ (3414163456 : Nat) == some Ordering.lt || Ieee.Format.order (FloatKind.format .f32) x_ (3414163456 : Nat) == some Ordering.eq) = true then
       some (2 : Int)
      else
       if f2iOk .f32 .i64 x_ = true then
        if (Ieee.Format.order (FloatKind.format .f32) (FloatKind.nearest .f32 (f2i .f32 x_)) x_ != some Ordering.eq) = true then
         some (27 : Int)
        else
         if f2iOk .f32 .i64 x_ = true then
          Option.bind (G_size (f2i .f32 x_)) fun r0 =>
          Option.bind (y10 (decide (r0 ≤ (32767 : Int))) (2 : Int)) fun r1 =>
          some r1
         else none
       else none
   else
    some (27 : Int)
def g_G_sampleErr : List A → Option (Prop × List RV)
  | [.d (.f .f32 x_)] => some (ok (y76 x_), [.d (.i .i64 ((val (y76 x_))))])
  | _ => none
abbrev sp_50 : Specs → Specs := addK 50 true (pureK k_G_sampleErr g_G_sampleErr)
set_option maxRecDepth 100000 in
def G_sampleErr_t (x_ : Nat) : T (Int) :=
 .brB (Ieee.Format.order (FloatKind.format .f32) x_ x_ != some Ordering.eq)
  (.obT
  (.ret ((27 : Int)) (fun r => (Ob ((27 : Int) = r) ∧
 True)) ⟨⟨rfl⟩, trivial⟩))
  (.brB (Option.isSome (Ieee.Format.sub (FloatKind.format .f32) x_ x_))
  (.obT
  (.brB (Ieee.Format.order (FloatKind.format .f32) (Option.getD (Ieee.Format.sub (FloatKind.format .f32) x_ x_) (0 : Nat)) (0 : Nat) != some Ordering.eq)
  (.obT
  (.ret ((27 : Int)) (fun r => (Ob ((27 : Int) = r) ∧
 True)) ⟨⟨rfl⟩, trivial⟩))
  (.brB (Ieee.Format.order (FloatKind.format .f32) x_ (1266679808 : Nat) == some Ordering.gt || Ieee.Format.order (FloatKind.format .f32) x_ (1266679808 : Nat) == some Ordering.eq)
  (.obT
  (.ret ((2 : Int)) (fun r => (Ob ((2 : Int) = r) ∧
 True)) ⟨⟨rfl⟩, trivial⟩))
  (.brB (Ieee.Format.order (FloatKind.format .f32) x_ (3414163456 : Nat) == some Ordering.lt || Ieee.Format.order (FloatKind.format .f32) x_ (3414163456 : Nat) == some Ordering.eq)
  (.obT
  (.ret ((2 : Int)) (fun r => (Ob ((2 : Int) = r) ∧
 True)) ⟨⟨rfl⟩, trivial⟩))
  (.obP (f2iOk .f32 .i64 x_ = true)
  (.obT
  (.brB (Ieee.Format.order (FloatKind.format .f32) (FloatKind.nearest .f32 (f2i .f32 x_)) x_ != some Ordering.eq)
  (.obT
  (.ret ((27 : Int)) (fun r => (Ob ((27 : Int) = r) ∧
 True)) ⟨⟨rfl⟩, trivial⟩))
  (.obP (f2iOk .f32 .i64 x_ = true)
  (.call (G_size (f2i .f32 x_)) fun r0 =>
  .call (y10 (decide (r0 ≤ (32767 : Int))) (2 : Int)) fun r1 =>
  .obT
  (.ret (r1) (fun r => (Ob (r1 = r) ∧
 True)) ⟨⟨rfl⟩, trivial⟩))))))))))
  (.obT
  (.obT
  (.ret ((27 : Int)) (fun r => (Ob ((27 : Int) = r) ∧
 True)) ⟨⟨rfl⟩, trivial⟩))))
set_option maxRecDepth 100000 in
theorem G_sampleErr_vc (x_ : Nat) (r : Int) (h : Option.bind (y76 x_) some = some r) : runF Tryd.f50 ((sp_80 (sp_48 sp0))) (fun _ _ _ => none) [.d (.f .f32 x_)] [.d (.i .i64 r)] :=
  T.vc (t := G_sampleErr_t x_) (by kernel_rfl) (by kernel_rfl) h
set_option maxRecDepth 100000 in
theorem G_sampleErr_ok : SpecOK Tryd.prog 50 true (pureK k_G_sampleErr g_G_sampleErr) := by
  refine pureK_ok (sp := (sp_80 (sp_48 sp0))) (fn := Tryd.f50) (body := bodyOf Tryd.f50) mixed (sp_80_ok (sp_48_ok sp0_ok)) Tryd.func50 (by kernel_rfl) (by kernel_rfl) fun as_ ob rs h ho => ?_
  unfold g_G_sampleErr at h
  split at h
  · rename_i x_
    cases h
    exact ⟨Nat.le_of_ble_eq_true rfl, _, _, G_sampleErr_vc x_ _ (ok_some ho)⟩
  · cases h
theorem sp_50_ok {sp : Specs} (h : SpecsOK Tryd.prog sp) : SpecsOK Tryd.prog (sp_50 sp) := addK_ok G_sampleErr_ok h
def y121 : List SV := [.a [.d, .r (.floats .f32 [])]]
def y33 (u15 : List Nat) (x0 : Int) : Option (Int ⊕ ((Int × Int) ⊕ Unit)) :=
  if x0 < (↑(List.length u15) : Int) then
   if (0 : Int) ≤ x0 ∧ x0 < (↑(List.length u15) : Int) then
    if Int.toNat x0 < List.length u15 then
     Option.bind (y76 (List.getD u15 (Int.toNat x0) (0 : Nat))) fun r5 =>
     if (r5 != (0 : Int)) = true then
      some (.inr ((.inl (x0, r5))))
     else
      some (.inl (IntKind.wrap .i64 (x0 + (1 : Int))))
    else none
   else none
  else
   some (.inr ((.inr ())))
def G_CheckResponse_r0_0 (u17 : Int × Int) : Option (Int × Int) :=
  some (u17.1, u17.2)
def G_CheckResponse_r0_1 (u25 : Unit) : Option (Int × Int) :=
  some (((0 : Int), (0 : Int)))
def y77 : ((Int × Int) ⊕ Unit) → Option (Int × Int) :=
  (Sum.elim (G_CheckResponse_r0_0) (G_CheckResponse_r0_1))
def y57 (u16 : Int) (u15 : List Nat) : Option (Int × Int) :=
  Option.bind (G_isRate u16) fun r0 =>
  Option.bind (y10 r0 (2 : Int)) fun r1 =>
  Option.bind (y10 (decide ((↑(List.length u15) : Int) > (0 : Int))) (10 : Int)) fun r2 =>
  Option.bind (y10 (decide ((↑(List.length u15) : Int) ≤ (1024 : Int))) (8 : Int)) fun r3 =>
  Option.bind (y25 [r1, r2, r3]) fun r4 =>
  if (r4 != (0 : Int)) = true then
   some (((0 : Int), r4))
  else
   Option.bind (iter (y33 u15) big (0 : Int)) (y77)
def y122 : List Lf → Option GT
  | [.d (.i .i64 u16), .r (.floats .f32 u15)] => some (.leaf (ok (y57 u16 u15)) [.c (.d (.i .i64 ((val (y57 u16 u15)).1))), .c (.d (.i .i64 ((val (y57 u16 u15)).2)))])
  | _ => none
abbrev sp_13 : Specs → Specs := addK 13 true (pureT y121 y122)
private abbrev w0q0 (u16 : Int) (u15 : List Nat) := (y25 [val (y10 (val (G_isRate u16)) (2 : Int)), val (y10 (decide ((↑(List.length u15) : Int) > (0 : Int))) (10 : Int)), val (y10 (decide ((↑(List.length u15) : Int) ≤ (1024 : Int))) (8 : Int))])
set_option maxRecDepth 100000 in
theorem G_CheckResponse_vc (u16 : Int) (u15 : List Nat) (r : Int × Int) (h : Option.bind (y57 u16 u15) some = some r) : runT Tryd.f13 ((sp_49 (sp_48 (sp_47 (sp_50 sp0))))) (fun gs id _ => match id with
 | 0 => some ⟨Int × Nat, fun z => ⟨[(28, .w (.c (.o 0))), (29, .w (.c (.d (.i .i64 ((↑(List.length u15) : Int)))))), (30, .w (.c (.d (.i .i64 (Prod.fst z)))))], [(0, .ext (.floats .f32 u15))], 1⟩, fun z => Option.bind (iter (y33 u15) (Prod.snd z) (Prod.fst z)) (fun y0 => Option.bind (y77 y0) some) = some r, fun z => Prod.snd z⟩
 | _ => none) (bldD y121 [.d (.i .i64 u16), .r (.floats .f32 u15)]) [.c (.d (.i .i64 r.1)), .c (.d (.i .i64 r.2))] := by
  refine Eq.mp (by kernel_rfl : (
 (Ob (ok (G_isRate u16)) ∧
 (Ob (ok (y10 (val (G_isRate u16)) (2 : Int))) ∧
 (Ob (ok (y10 (decide ((↑(List.length u15) : Int) > (0 : Int))) (10 : Int))) ∧
 (Ob (ok (y10 (decide ((↑(List.length u15) : Int) ≤ (1024 : Int))) (8 : Int))) ∧
 (Ob (ok (w0q0 u16 u15)) ∧
 Br (val (w0q0 u16 u15) != (0 : Int))
   ((Ob (True) ∧
 (Ob (True) ∧
 (Ob ((0 : Int) = r.1) ∧
 (Ob (val (w0q0 u16 u15) = r.2) ∧
 True)))))
   (((∃ (v0 : Int × Nat), (Ob ((Option.bind (iter (y33 u15) v0.2 v0.1) fun y0 => Option.bind (y77 y0) some) = some r) ∧
 (Ob ((↑(List.length u15) : Int) = (↑(List.length u15) : Int)) ∧
 (Ob ((0 : Int) = v0.1) ∧
 (Ob (u15 = u15) ∧
 True))))) ∧
   (∀ (v0 : Int × Nat), ((Option.bind (iter (y33 u15) v0.2 v0.1) fun y0 => Option.bind (y77 y0) some) = some r →
 Br (decide (v0.1 < (↑(List.length u15) : Int)))
   ((Ob ((0 : Int) ≤ v0.1 ∧ v0.1 < (↑(List.length u15) : Int)) ∧
 (Ob (Int.toNat v0.1 < List.length u15) ∧
 (Ob (ok (y76 (List.getD u15 (Int.toNat v0.1) (0 : Nat)))) ∧
 Br (val (y76 (List.getD u15 (Int.toNat v0.1) (0 : Nat))) != (0 : Int))
   ((Ob (True) ∧
 (Ob (True) ∧
 (Ob (v0.1 = r.1) ∧
 (Ob (val (y76 (List.getD u15 (Int.toNat v0.1) (0 : Nat))) = r.2) ∧
 True)))))
   ((∃ (v1 : Int × Nat), (Ob ((Option.bind (iter (y33 u15) v1.2 v1.1) fun y0 => Option.bind (y77 y0) some) = some r) ∧
 (Ob (v1.2 < v0.2) ∧
 (Ob ((↑(List.length u15) : Int) = (↑(List.length u15) : Int)) ∧
 (Ob (IntKind.wrap .i64 (v0.1 + (1 : Int)) = v1.1) ∧
 (Ob (u15 = u15) ∧
 True)))))))))))
   ((Ob (True) ∧
 (Ob (True) ∧
 (Ob ((0 : Int) = r.1) ∧
 (Ob ((0 : Int) = r.2) ∧
 True))))))))))))))) = _) ?_
  refine call_s h fun h => ?_
  refine call_s h fun h => ?_
  refine call_s h fun h => ?_
  refine call_s h fun h => ?_
  refine call_s h fun h => ?_
  refine br_b h (fun h => ?_) (fun h => ?_)
  · refine ob_t ?_
    refine ob_t ?_
    exact ret_s h (fun e => by subst e; exact (by repeat' constructor))
  · refine ⟨⟨((0 : Int), big), ⟨loop_s h⟩, (by repeat' constructor)⟩, fun z6 hz6 => ?_⟩
    obtain ⟨k6, hm6, h⟩ := iter_pos hz6
    refine br_d h (fun h => ?_) (fun h => ?_)
    · refine ob_s h fun h => ?_
      refine ob_s h fun h => ?_
      refine call_s h fun h => ?_
      refine br_b h (fun h => ?_) (fun h => ?_)
      · have h := exit_s h
        refine ob_t ?_
        refine ob_t ?_
        exact ret_s h (fun e => by subst e; exact (by repeat' constructor))
      · exact ⟨(IntKind.wrap .i64 (Prod.fst z6 + (1 : Int)), k6), ⟨next_s h⟩, ⟨lt_gs hm6.symm⟩, (by repeat' constructor)⟩
    · have h := exit_s h
      refine ob_t ?_
      refine ob_t ?_
      exact ret_s h (fun e => by subst e; exact (by repeat' constructor))
set_option maxRecDepth 100000 in
theorem G_CheckResponse_ok : SpecOK Tryd.prog 13 true (pureT y121 y122) := by
  refine pureT_ok (sp := (sp_49 (sp_48 (sp_47 (sp_50 sp0))))) (fn := Tryd.f13) (body := bodyOf Tryd.f13) mixed (sp_49_ok (sp_48_ok (sp_47_ok (sp_50_ok sp0_ok)))) Tryd.func13 (by kernel_rfl) (by kernel_rfl) fun ls t h ho b hb => ?_
  unfold y122 at h
  split at h
  · rename_i u16 u15
    cases h
    obtain rfl := bld_eq hb
    exact ⟨Nat.le_of_ble_eq_true (by kernel_rfl), _, _, G_CheckResponse_vc u16 u15 _ (ok_some ho)⟩
  · cases h
theorem sp_13_ok {sp : Specs} (h : SpecsOK Tryd.prog sp) : SpecsOK Tryd.prog (sp_13 sp) := addK_ok G_CheckResponse_ok h
def k_G_CheckAsk : List SV := [.a [.d, .r (.floats .f32 []), .d, .d]]
def y22 (u4 : Int) (u5 : List Nat) (u0 : Int) (u6 : Int) : Option (Int × Int) :=
  Option.bind (y57 u4 u5) fun r0 =>
  if (r0.2 != (0 : Int)) = true then
   some (r0.1, r0.2)
  else
   Option.bind (y9 u0 (0 : Int) (32767 : Int)) fun r1 =>
   if (r1) = true then
    Option.bind (y9 u6 (0 : Int) (1000000000000 : Int)) fun r2 =>
    Option.bind (y10 r2 (2 : Int)) fun r3 =>
    some (((0 : Int), r3))
   else
    some (((0 : Int), val (y10 false (2 : Int))))
def g_G_CheckAsk : List Lf → Option GT
  | [.d (.i .i64 u4), .r (.floats .f32 u5), .d (.i .i64 u0), .d (.i .i64 u6)] => some (.leaf (ok (y22 u4 u5 u0 u6)) [.c (.d (.i .i64 ((val (y22 u4 u5 u0 u6)).1))), .c (.d (.i .i64 ((val (y22 u4 u5 u0 u6)).2)))])
  | _ => none
abbrev sp_15 : Specs → Specs := addK 15 true (pureT k_G_CheckAsk g_G_CheckAsk)
set_option maxRecDepth 100000 in
def G_CheckAsk_t (u4 : Int) (u5 : List Nat) (u0 : Int) (u6 : Int) : T (Int × Int) :=
 .call (y57 u4 u5) fun r0 =>
  .brB (r0.2 != (0 : Int))
  (.obT
  (.obT
  (.ret ((r0.1, r0.2)) (fun r => (Ob (r0.1 = r.1) ∧
 (Ob (r0.2 = r.2) ∧
 True))) ⟨⟨rfl⟩, ⟨⟨rfl⟩, trivial⟩⟩)))
  (.call (y9 u0 (0 : Int) (32767 : Int)) fun r1 =>
  .brB (r1)
  (.call (y9 u6 (0 : Int) (1000000000000 : Int)) fun r2 =>
  .call (y10 r2 (2 : Int)) fun r3 =>
  .obT
  (.obT
  (.ret ((((0 : Int), r3))) (fun r => (Ob ((0 : Int) = r.1) ∧
 (Ob (r3 = r.2) ∧
 True))) ⟨⟨rfl⟩, ⟨⟨rfl⟩, trivial⟩⟩)))
  (.obC (ok (y10 false (2 : Int))) (by decide)
  (.obT
  (.obT
  (.ret ((((0 : Int), val (y10 false (2 : Int))))) (fun r => (Ob ((0 : Int) = r.1) ∧
 (Ob (val (y10 false (2 : Int)) = r.2) ∧
 True))) ⟨⟨rfl⟩, ⟨⟨rfl⟩, trivial⟩⟩)))))
set_option maxRecDepth 100000 in
theorem G_CheckAsk_vc (u4 : Int) (u5 : List Nat) (u0 : Int) (u6 : Int) (r : Int × Int) (h : Option.bind (y22 u4 u5 u0 u6) some = some r) : runT Tryd.f15 ((sp_13 (sp_41 (sp_48 sp0)))) (fun _ _ _ => none) (bldD k_G_CheckAsk [.d (.i .i64 u4), .r (.floats .f32 u5), .d (.i .i64 u0), .d (.i .i64 u6)]) [.c (.d (.i .i64 r.1)), .c (.d (.i .i64 r.2))] :=
  T.vc (t := G_CheckAsk_t u4 u5 u0 u6) (by kernel_rfl) (by kernel_rfl) h
set_option maxRecDepth 100000 in
theorem G_CheckAsk_ok : SpecOK Tryd.prog 15 true (pureT k_G_CheckAsk g_G_CheckAsk) := by
  refine pureT_ok (sp := (sp_13 (sp_41 (sp_48 sp0)))) (fn := Tryd.f15) (body := bodyOf Tryd.f15) mixed (sp_13_ok (sp_41_ok (sp_48_ok sp0_ok))) Tryd.func15 (by kernel_rfl) (by kernel_rfl) fun ls t h ho b hb => ?_
  unfold g_G_CheckAsk at h
  split at h
  · rename_i u4 u5 u0 u6
    cases h
    obtain rfl := bld_eq hb
    exact ⟨Nat.le_of_ble_eq_true (by kernel_rfl), _, _, G_CheckAsk_vc u4 u5 u0 u6 _ (ok_some ho)⟩
  · cases h
theorem sp_15_ok {sp : Specs} (h : SpecsOK Tryd.prog sp) : SpecsOK Tryd.prog (sp_15 sp) := addK_ok G_CheckAsk_ok h
def k_G_plus : List (Option Cont) := [none, none]
def G_plus (aLo : Int) (aHi : Int) (bLo : Int) (bHi : Int) : Option (Int × Int) :=
  some ((IntKind.wrap .i64 (aLo + bLo), IntKind.wrap .i64 (aHi + bHi)))
def g_G_plus : List A → Option (Prop × List RV)
  | [.s [.i .i64 aLo, .i .i64 aHi], .s [.i .i64 bLo, .i .i64 bHi]] => some (ok (G_plus aLo aHi bLo bHi), [.s [.i .i64 ((val (G_plus aLo aHi bLo bHi)).1), .i .i64 ((val (G_plus aLo aHi bLo bHi)).2)]])
  | _ => none
abbrev sp_83 : Specs → Specs := addK 83 true (pureK k_G_plus g_G_plus)
set_option maxRecDepth 100000 in
def G_plus_t (aLo : Int) (aHi : Int) (bLo : Int) (bHi : Int) : T (Int × Int) :=
 .obT
  (.ret (((IntKind.wrap .i64 (aLo + bLo), IntKind.wrap .i64 (aHi + bHi)))) (fun r => (Ob (IntKind.wrap .i64 (aLo + bLo) = r.1) ∧
 (Ob (IntKind.wrap .i64 (aHi + bHi) = r.2) ∧
 True))) ⟨⟨rfl⟩, ⟨⟨rfl⟩, trivial⟩⟩)
set_option maxRecDepth 100000 in
theorem G_plus_vc (aLo : Int) (aHi : Int) (bLo : Int) (bHi : Int) (r : Int × Int) (h : Option.bind (G_plus aLo aHi bLo bHi) some = some r) : runF Tryd.f83 (sp0) (fun _ _ _ => none) [.s [.i .i64 aLo, .i .i64 aHi], .s [.i .i64 bLo, .i .i64 bHi]] [.s [.i .i64 r.1, .i .i64 r.2]] :=
  T.vc (t := G_plus_t aLo aHi bLo bHi) (by kernel_rfl) (by kernel_rfl) h
set_option maxRecDepth 100000 in
theorem G_plus_ok : SpecOK Tryd.prog 83 true (pureK k_G_plus g_G_plus) := by
  refine pureK_ok (sp := sp0) (fn := Tryd.f83) (body := bodyOf Tryd.f83) mixed sp0_ok Tryd.func83 (by kernel_rfl) (by kernel_rfl) fun as_ ob rs h ho => ?_
  unfold g_G_plus at h
  split at h
  · rename_i aLo aHi bLo bHi
    cases h
    exact ⟨Nat.le_of_ble_eq_true rfl, _, _, G_plus_vc aLo aHi bLo bHi _ (ok_some ho)⟩
  · cases h
theorem sp_83_ok {sp : Specs} (h : SpecsOK Tryd.prog sp) : SpecsOK Tryd.prog (sp_83 sp) := addK_ok G_plus_ok h
def k_G_ceil : List (Option Cont) := [none, none]
def G_ceil (n : Int) (by_ : Int) : Option Int :=
  if by_ ≠ (0 : Int) then
   some (IntKind.wrap .i64 (Int.tdiv (IntKind.wrap .i64 (IntKind.wrap .i64 (n + by_) - (1 : Int))) by_))
  else none
def g_G_ceil : List A → Option (Prop × List RV)
  | [.d (.i .i64 n), .d (.i .i64 by_)] => some (ok (G_ceil n by_), [.d (.i .i64 ((val (G_ceil n by_))))])
  | _ => none
abbrev sp_81 : Specs → Specs := addK 81 true (pureK k_G_ceil g_G_ceil)
set_option maxRecDepth 100000 in
def G_ceil_t (n : Int) (by_ : Int) : T (Int) :=
 .obP (by_ ≠ (0 : Int))
  (.obT
  (.ret ((IntKind.wrap .i64 (Int.tdiv (IntKind.wrap .i64 (IntKind.wrap .i64 (n + by_) - (1 : Int))) by_))) (fun r => (Ob (IntKind.wrap .i64 (Int.tdiv (IntKind.wrap .i64 (IntKind.wrap .i64 (n + by_) - (1 : Int))) by_) = r) ∧
 True)) ⟨⟨rfl⟩, trivial⟩))
set_option maxRecDepth 100000 in
theorem G_ceil_vc (n : Int) (by_ : Int) (r : Int) (h : Option.bind (G_ceil n by_) some = some r) : runF Tryd.f81 (sp0) (fun _ _ _ => none) [.d (.i .i64 n), .d (.i .i64 by_)] [.d (.i .i64 r)] :=
  T.vc (t := G_ceil_t n by_) (by kernel_rfl) (by kernel_rfl) h
set_option maxRecDepth 100000 in
theorem G_ceil_ok : SpecOK Tryd.prog 81 true (pureK k_G_ceil g_G_ceil) := by
  refine pureK_ok (sp := sp0) (fn := Tryd.f81) (body := bodyOf Tryd.f81) mixed sp0_ok Tryd.func81 (by kernel_rfl) (by kernel_rfl) fun as_ ob rs h ho => ?_
  unfold g_G_ceil at h
  split at h
  · rename_i n by_
    cases h
    exact ⟨Nat.le_of_ble_eq_true rfl, _, _, G_ceil_vc n by_ _ (ok_some ho)⟩
  · cases h
theorem sp_81_ok {sp : Specs} (h : SpecsOK Tryd.prog sp) : SpecsOK Tryd.prog (sp_81 sp) := addK_ok G_ceil_ok h
def k_G_timeErr : List (Option Cont) := [none]
def y63 (n : Int) : Option Int :=
  Option.bind (y9 n (0 : Int) (1000000 : Int)) fun r0 =>
  Option.bind (y10 r0 (2 : Int)) fun r1 =>
  some r1
def g_G_timeErr : List A → Option (Prop × List RV)
  | [.d (.i .i64 n)] => some (ok (y63 n), [.d (.i .i64 ((val (y63 n))))])
  | _ => none
abbrev sp_51 : Specs → Specs := addK 51 true (pureK k_G_timeErr g_G_timeErr)
set_option maxRecDepth 100000 in
def G_timeErr_t (n : Int) : T (Int) :=
 .call (y9 n (0 : Int) (1000000 : Int)) fun r0 =>
  .call (y10 r0 (2 : Int)) fun r1 =>
  .obT
  (.ret (r1) (fun r => (Ob (r1 = r) ∧
 True)) ⟨⟨rfl⟩, trivial⟩)
set_option maxRecDepth 100000 in
theorem G_timeErr_vc (n : Int) (r : Int) (h : Option.bind (y63 n) some = some r) : runF Tryd.f51 ((sp_41 (sp_48 sp0))) (fun _ _ _ => none) [.d (.i .i64 n)] [.d (.i .i64 r)] :=
  T.vc (t := G_timeErr_t n) (by kernel_rfl) (by kernel_rfl) h
set_option maxRecDepth 100000 in
theorem G_timeErr_ok : SpecOK Tryd.prog 51 true (pureK k_G_timeErr g_G_timeErr) := by
  refine pureK_ok (sp := (sp_41 (sp_48 sp0))) (fn := Tryd.f51) (body := bodyOf Tryd.f51) mixed (sp_41_ok (sp_48_ok sp0_ok)) Tryd.func51 (by kernel_rfl) (by kernel_rfl) fun as_ ob rs h ho => ?_
  unfold g_G_timeErr at h
  split at h
  · rename_i n
    cases h
    exact ⟨Nat.le_of_ble_eq_true rfl, _, _, G_timeErr_vc n _ (ok_some ho)⟩
  · cases h
theorem sp_51_ok {sp : Specs} (h : SpecsOK Tryd.prog sp) : SpecsOK Tryd.prog (sp_51 sp) := addK_ok G_timeErr_ok h
def k_G_share : List (Option Cont) := [none, none]
def G_share_b0 (x0 : (Int × Int)) : Option ((Int × Int) ⊕ Int) :=
  if (x0.2 != (0 : Int)) = true then
   if x0.2 ≠ (0 : Int) then
    some (.inl (x0.2, Int.tmod x0.1 x0.2))
   else none
  else
   some (.inr x0.1)
def G_share_r0 (num : Int) (den : Int) (u17 : Int) : Option (Int × Int × Int) :=
  if u17 ≠ (0 : Int) then
   if u17 ≠ (0 : Int) then
    if IntKind.wrap .i64 (Int.tdiv num u17) > (1000000000 : Int) then
     some (((0 : Int), (0 : Int), (8 : Int)))
    else
     if IntKind.wrap .i64 (Int.tdiv den u17) > (1000000000 : Int) then
      some (((0 : Int), (0 : Int), (8 : Int)))
     else
      some ((IntKind.wrap .i64 (Int.tdiv num u17), IntKind.wrap .i64 (Int.tdiv den u17), (0 : Int)))
   else none
  else none
def G_share (num : Int) (den : Int) : Option (Int × Int × Int) :=
  if (den == (0 : Int)) = true then
   some (((0 : Int), (0 : Int), (11 : Int)))
  else
   Option.bind (iter (G_share_b0) big (num, den)) (G_share_r0 num den)
def g_G_share : List A → Option (Prop × List RV)
  | [.d (.i .i64 num), .d (.i .i64 den)] => some (ok (G_share num den), [.s [.i .i64 ((val (G_share num den)).1), .i .i64 ((val (G_share num den)).2.1)], .d (.i .i64 ((val (G_share num den)).2.2))])
  | _ => none
abbrev sp_65 : Specs → Specs := addK 65 true (pureK k_G_share g_G_share)
set_option maxRecDepth 100000 in
theorem G_share_vc (num : Int) (den : Int) (r : Int × Int × Int) (h : Option.bind (G_share num den) some = some r) : runF Tryd.f65 (sp0) (fun gs id _ => match id with
 | 0 => some ⟨(Int × Int) × Nat, fun z => ⟨[(0, .w (.c (.d (.i .i64 num)))), (1, .w (.c (.d (.i .i64 den)))), (4, .w (.c (.p 2 (0 : Nat) 1 (0 : Nat)))), (6, .w (.c (.d (.i .i64 (Prod.fst (Prod.fst z)))))), (7, .w (.c (.d (.i .i64 (Prod.snd (Prod.fst z))))))], [(2, .box 63 [.d (.i .i64 (0 : Int)), .d (.i .i64 (0 : Int))])], 3⟩, fun z => Option.bind (iter (G_share_b0) (Prod.snd z) (Prod.fst z)) (fun y0 => Option.bind (G_share_r0 num den y0) some) = some r, fun z => Prod.snd z⟩
 | _ => none) [.d (.i .i64 num), .d (.i .i64 den)] [.s [.i .i64 r.1, .i .i64 r.2.1], .d (.i .i64 r.2.2)] := by
  refine Eq.mp (by kernel_rfl : (
 Br (den == (0 : Int))
   ((Ob (True) ∧
 (Ob (True) ∧
 (Ob ((0 : Int) = r.1) ∧
 (Ob ((0 : Int) = r.2.1) ∧
 (Ob ((11 : Int) = r.2.2) ∧
 True))))))
   (((∃ (v0 : (Int × Int) × Nat), (Ob ((Option.bind (iter G_share_b0 v0.2 v0.1) fun y0 => Option.bind (G_share_r0 num den y0) some) = some r) ∧
 (Ob (num = num) ∧
 (Ob (den = den) ∧
 (Ob ((0 : Nat) = (0 : Nat)) ∧
 (Ob (num = v0.1.1) ∧
 (Ob (den = v0.1.2) ∧
 (Ob ((0 : Int) = (0 : Int)) ∧
 (Ob ((0 : Int) = (0 : Int)) ∧
 True))))))))) ∧
   (∀ (v0 : (Int × Int) × Nat), ((Option.bind (iter G_share_b0 v0.2 v0.1) fun y0 => Option.bind (G_share_r0 num den y0) some) = some r →
 Br (v0.1.2 != (0 : Int))
   ((Ob (v0.1.2 ≠ (0 : Int)) ∧
   (∃ (v1 : (Int × Int) × Nat), (Ob ((Option.bind (iter G_share_b0 v1.2 v1.1) fun y0 => Option.bind (G_share_r0 num den y0) some) = some r) ∧
 (Ob (v1.2 < v0.2) ∧
 (Ob (num = num) ∧
 (Ob (den = den) ∧
 (Ob ((0 : Nat) = (0 : Nat)) ∧
 (Ob (v0.1.2 = v1.1.1) ∧
 (Ob (Int.tmod v0.1.1 v0.1.2 = v1.1.2) ∧
 (Ob ((0 : Int) = (0 : Int)) ∧
 (Ob ((0 : Int) = (0 : Int)) ∧
 True))))))))))))
   ((Ob (v0.1.1 ≠ (0 : Int)) ∧
 (Ob (v0.1.1 ≠ (0 : Int)) ∧
 Br (decide (IntKind.wrap .i64 (Int.tdiv num v0.1.1) > (1000000000 : Int)))
   ((Ob (True) ∧
 (Ob (True) ∧
 (Ob ((0 : Int) = r.1) ∧
 (Ob ((0 : Int) = r.2.1) ∧
 (Ob ((8 : Int) = r.2.2) ∧
 True))))))
 (Br (decide (IntKind.wrap .i64 (Int.tdiv den v0.1.1) > (1000000000 : Int)))
   ((Ob (True) ∧
 (Ob (True) ∧
 (Ob ((0 : Int) = r.1) ∧
 (Ob ((0 : Int) = r.2.1) ∧
 (Ob ((8 : Int) = r.2.2) ∧
 True))))))
   ((Ob (True) ∧
 (Ob (True) ∧
 (Ob (IntKind.wrap .i64 (Int.tdiv num v0.1.1) = r.1) ∧
 (Ob (IntKind.wrap .i64 (Int.tdiv den v0.1.1) = r.2.1) ∧
 (Ob ((0 : Int) = r.2.2) ∧
 True))))))))))))))) = _) ?_
  refine br_b h (fun h => ?_) (fun h => ?_)
  · refine ob_t ?_
    refine ob_t ?_
    exact ret_s h (fun e => by subst e; exact (by repeat' constructor))
  · refine ⟨⟨((num, den), big), ⟨loop_s h⟩, (by repeat' constructor)⟩, fun z0 hz0 => ?_⟩
    obtain ⟨k0, hm0, h⟩ := iter_pos hz0
    refine br_b h (fun h => ?_) (fun h => ?_)
    · refine ob_s h fun h => ?_
      exact ⟨(((Prod.fst z0).2, Int.tmod (Prod.fst z0).1 (Prod.fst z0).2), k0), ⟨next_s h⟩, ⟨lt_gs hm0.symm⟩, (by repeat' constructor)⟩
    · have h := exit_s h
      refine ob_s h fun h => ?_
      refine ob_s h fun h => ?_
      refine br_d h (fun h => ?_) (fun h => ?_)
      · refine ob_t ?_
        refine ob_t ?_
        exact ret_s h (fun e => by subst e; exact (by repeat' constructor))
      · refine br_d h (fun h => ?_) (fun h => ?_)
        · refine ob_t ?_
          refine ob_t ?_
          exact ret_s h (fun e => by subst e; exact (by repeat' constructor))
        · refine ob_t ?_
          refine ob_t ?_
          exact ret_s h (fun e => by subst e; exact (by repeat' constructor))
set_option maxRecDepth 100000 in
theorem G_share_ok : SpecOK Tryd.prog 65 true (pureK k_G_share g_G_share) := by
  refine pureK_ok (sp := sp0) (fn := Tryd.f65) (body := bodyOf Tryd.f65) mixed sp0_ok Tryd.func65 (by kernel_rfl) (by kernel_rfl) fun as_ ob rs h ho => ?_
  unfold g_G_share at h
  split at h
  · rename_i num den
    cases h
    exact ⟨Nat.le_of_ble_eq_true rfl, _, _, G_share_vc num den _ (ok_some ho)⟩
  · cases h
theorem sp_65_ok {sp : Specs} (h : SpecsOK Tryd.prog sp) : SpecsOK Tryd.prog (sp_65 sp) := addK_ok G_share_ok h
def k_math_bits_Mul64 : List (Option Cont) := [none, none]
def y6 (x_ : Int) (y_ : Int) : Option (Int × Int) :=
  some ((IntKind.wrap .u64 (IntKind.wrap .u64 (IntKind.wrap .u64 (Int.fdiv x_ ((2 : Int) ^ min (32 : Nat) (IntKind.bits .u64)) * Int.fdiv y_ ((2 : Int) ^ min (32 : Nat) (IntKind.bits .u64))) + Int.fdiv (IntKind.wrap .u64 (IntKind.wrap .u64 (Int.fdiv x_ ((2 : Int) ^ min (32 : Nat) (IntKind.bits .u64)) * IntKind.wrap .u64 (↑(BitVec.toNat (BitVec.ofInt (IntKind.bits .u64) y_ &&& BitVec.ofInt (IntKind.bits .u64) (4294967295 : Int))) : Int)) + Int.fdiv (IntKind.wrap .u64 (IntKind.wrap .u64 (↑(BitVec.toNat (BitVec.ofInt (IntKind.bits .u64) x_ &&& BitVec.ofInt (IntKind.bits .u64) (4294967295 : Int))) : Int) * IntKind.wrap .u64 (↑(BitVec.toNat (BitVec.ofInt (IntKind.bits .u64) y_ &&& BitVec.ofInt (IntKind.bits .u64) (4294967295 : Int))) : Int))) ((2 : Int) ^ min (32 : Nat) (IntKind.bits .u64)))) ((2 : Int) ^ min (32 : Nat) (IntKind.bits .u64))) + Int.fdiv (IntKind.wrap .u64 (IntKind.wrap .u64 (↑(BitVec.toNat (BitVec.ofInt (IntKind.bits .u64) (IntKind.wrap .u64 (IntKind.wrap .u64 (Int.fdiv x_ ((2 : Int) ^ min (32 : Nat) (IntKind.bits .u64)) * IntKind.wrap .u64 (↑(BitVec.toNat (BitVec.ofInt (IntKind.bits .u64) y_ &&& BitVec.ofInt (IntKind.bits .u64) (4294967295 : Int))) : Int)) + Int.fdiv (IntKind.wrap .u64 (IntKind.wrap .u64 (↑(BitVec.toNat (BitVec.ofInt (IntKind.bits .u64) x_ &&& BitVec.ofInt (IntKind.bits .u64) (4294967295 : Int))) : Int) * IntKind.wrap .u64 (↑(BitVec.toNat (BitVec.ofInt (IntKind.bits .u64) y_ &&& BitVec.ofInt (IntKind.bits .u64) (4294967295 : Int))) : Int))) ((2 : Int) ^ min (32 : Nat) (IntKind.bits .u64)))) &&& BitVec.ofInt (IntKind.bits .u64) (4294967295 : Int))) : Int) + IntKind.wrap .u64 (IntKind.wrap .u64 (↑(BitVec.toNat (BitVec.ofInt (IntKind.bits .u64) x_ &&& BitVec.ofInt (IntKind.bits .u64) (4294967295 : Int))) : Int) * Int.fdiv y_ ((2 : Int) ^ min (32 : Nat) (IntKind.bits .u64))))) ((2 : Int) ^ min (32 : Nat) (IntKind.bits .u64))), IntKind.wrap .u64 (x_ * y_)))
def y123 : List A → Option (Prop × List RV)
  | [.d (.i .u64 x_), .d (.i .u64 y_)] => some (ok (y6 x_ y_), [.d (.i .u64 ((val (y6 x_ y_)).1)), .d (.i .u64 ((val (y6 x_ y_)).2))])
  | _ => none
abbrev sp_88 : Specs → Specs := addK 88 true (pureK k_math_bits_Mul64 y123)
set_option maxRecDepth 100000 in
def math_bits_Mul64_t (x_ : Int) (y_ : Int) : T (Int × Int) :=
 .obC ((0 : Int) ≤ (32 : Int)) (by decide)
  (.obC _ zcD10
  (.obC _ zcD10
  (.obC _ zcD10
  (.obC _ zcD10
  (.obT
  (.obT
  (.ret (((IntKind.wrap .u64 (IntKind.wrap .u64 (IntKind.wrap .u64 (Int.fdiv x_ ((2 : Int) ^ min (32 : Nat) (IntKind.bits .u64)) * Int.fdiv y_ ((2 : Int) ^ min (32 : Nat) (IntKind.bits .u64))) + Int.fdiv (IntKind.wrap .u64 (IntKind.wrap .u64 (Int.fdiv x_ ((2 : Int) ^ min (32 : Nat) (IntKind.bits .u64)) * IntKind.wrap .u64 (↑(BitVec.toNat (BitVec.ofInt (IntKind.bits .u64) y_ &&& BitVec.ofInt (IntKind.bits .u64) (4294967295 : Int))) : Int)) + Int.fdiv (IntKind.wrap .u64 (IntKind.wrap .u64 (↑(BitVec.toNat (BitVec.ofInt (IntKind.bits .u64) x_ &&& BitVec.ofInt (IntKind.bits .u64) (4294967295 : Int))) : Int) * IntKind.wrap .u64 (↑(BitVec.toNat (BitVec.ofInt (IntKind.bits .u64) y_ &&& BitVec.ofInt (IntKind.bits .u64) (4294967295 : Int))) : Int))) ((2 : Int) ^ min (32 : Nat) (IntKind.bits .u64)))) ((2 : Int) ^ min (32 : Nat) (IntKind.bits .u64))) + Int.fdiv (IntKind.wrap .u64 (IntKind.wrap .u64 (↑(BitVec.toNat (BitVec.ofInt (IntKind.bits .u64) (IntKind.wrap .u64 (IntKind.wrap .u64 (Int.fdiv x_ ((2 : Int) ^ min (32 : Nat) (IntKind.bits .u64)) * IntKind.wrap .u64 (↑(BitVec.toNat (BitVec.ofInt (IntKind.bits .u64) y_ &&& BitVec.ofInt (IntKind.bits .u64) (4294967295 : Int))) : Int)) + Int.fdiv (IntKind.wrap .u64 (IntKind.wrap .u64 (↑(BitVec.toNat (BitVec.ofInt (IntKind.bits .u64) x_ &&& BitVec.ofInt (IntKind.bits .u64) (4294967295 : Int))) : Int) * IntKind.wrap .u64 (↑(BitVec.toNat (BitVec.ofInt (IntKind.bits .u64) y_ &&& BitVec.ofInt (IntKind.bits .u64) (4294967295 : Int))) : Int))) ((2 : Int) ^ min (32 : Nat) (IntKind.bits .u64)))) &&& BitVec.ofInt (IntKind.bits .u64) (4294967295 : Int))) : Int) + IntKind.wrap .u64 (IntKind.wrap .u64 (↑(BitVec.toNat (BitVec.ofInt (IntKind.bits .u64) x_ &&& BitVec.ofInt (IntKind.bits .u64) (4294967295 : Int))) : Int) * Int.fdiv y_ ((2 : Int) ^ min (32 : Nat) (IntKind.bits .u64))))) ((2 : Int) ^ min (32 : Nat) (IntKind.bits .u64))), IntKind.wrap .u64 (x_ * y_)))) (fun r => (Ob (IntKind.wrap .u64 (IntKind.wrap .u64 (IntKind.wrap .u64 (Int.fdiv x_ ((2 : Int) ^ min (32 : Nat) (IntKind.bits .u64)) * Int.fdiv y_ ((2 : Int) ^ min (32 : Nat) (IntKind.bits .u64))) + Int.fdiv (IntKind.wrap .u64 (IntKind.wrap .u64 (Int.fdiv x_ ((2 : Int) ^ min (32 : Nat) (IntKind.bits .u64)) * IntKind.wrap .u64 (↑(BitVec.toNat (BitVec.ofInt (IntKind.bits .u64) y_ &&& BitVec.ofInt (IntKind.bits .u64) (4294967295 : Int))) : Int)) + Int.fdiv (IntKind.wrap .u64 (IntKind.wrap .u64 (↑(BitVec.toNat (BitVec.ofInt (IntKind.bits .u64) x_ &&& BitVec.ofInt (IntKind.bits .u64) (4294967295 : Int))) : Int) * IntKind.wrap .u64 (↑(BitVec.toNat (BitVec.ofInt (IntKind.bits .u64) y_ &&& BitVec.ofInt (IntKind.bits .u64) (4294967295 : Int))) : Int))) ((2 : Int) ^ min (32 : Nat) (IntKind.bits .u64)))) ((2 : Int) ^ min (32 : Nat) (IntKind.bits .u64))) + Int.fdiv (IntKind.wrap .u64 (IntKind.wrap .u64 (↑(BitVec.toNat (BitVec.ofInt (IntKind.bits .u64) (IntKind.wrap .u64 (IntKind.wrap .u64 (Int.fdiv x_ ((2 : Int) ^ min (32 : Nat) (IntKind.bits .u64)) * IntKind.wrap .u64 (↑(BitVec.toNat (BitVec.ofInt (IntKind.bits .u64) y_ &&& BitVec.ofInt (IntKind.bits .u64) (4294967295 : Int))) : Int)) + Int.fdiv (IntKind.wrap .u64 (IntKind.wrap .u64 (↑(BitVec.toNat (BitVec.ofInt (IntKind.bits .u64) x_ &&& BitVec.ofInt (IntKind.bits .u64) (4294967295 : Int))) : Int) * IntKind.wrap .u64 (↑(BitVec.toNat (BitVec.ofInt (IntKind.bits .u64) y_ &&& BitVec.ofInt (IntKind.bits .u64) (4294967295 : Int))) : Int))) ((2 : Int) ^ min (32 : Nat) (IntKind.bits .u64)))) &&& BitVec.ofInt (IntKind.bits .u64) (4294967295 : Int))) : Int) + IntKind.wrap .u64 (IntKind.wrap .u64 (↑(BitVec.toNat (BitVec.ofInt (IntKind.bits .u64) x_ &&& BitVec.ofInt (IntKind.bits .u64) (4294967295 : Int))) : Int) * Int.fdiv y_ ((2 : Int) ^ min (32 : Nat) (IntKind.bits .u64))))) ((2 : Int) ^ min (32 : Nat) (IntKind.bits .u64))) = r.1) ∧
 (Ob (IntKind.wrap .u64 (x_ * y_) = r.2) ∧
 True))) ⟨⟨rfl⟩, ⟨⟨rfl⟩, trivial⟩⟩)))))))
set_option maxRecDepth 100000 in
theorem math_bits_Mul64_vc (x_ : Int) (y_ : Int) (r : Int × Int) (h : Option.bind (y6 x_ y_) some = some r) : runF Tryd.f88 (sp0) (fun _ _ _ => none) [.d (.i .u64 x_), .d (.i .u64 y_)] [.d (.i .u64 r.1), .d (.i .u64 r.2)] :=
  T.vc (t := math_bits_Mul64_t x_ y_) (by kernel_rfl) (by kernel_rfl) h
set_option maxRecDepth 100000 in
theorem math_bits_Mul64_ok : SpecOK Tryd.prog 88 true (pureK k_math_bits_Mul64 y123) := by
  refine pureK_ok (sp := sp0) (fn := Tryd.f88) (body := bodyOf Tryd.f88) mixed sp0_ok Tryd.func88 (by kernel_rfl) (by kernel_rfl) fun as_ ob rs h ho => ?_
  unfold y123 at h
  split at h
  · rename_i x_ y_
    cases h
    exact ⟨Nat.le_of_ble_eq_true rfl, _, _, math_bits_Mul64_vc x_ y_ _ (ok_some ho)⟩
  · cases h
theorem sp_88_ok {sp : Specs} (h : SpecsOK Tryd.prog sp) : SpecsOK Tryd.prog (sp_88 sp) := addK_ok math_bits_Mul64_ok h
def y169 : List (Option Cont) := [none]
def y52 (x_ : Int) : Option Bool :=
  some (x_ != x_)
def y115 : List A → Option (Prop × List RV)
  | [.d (.i .u64 x_)] => some (ok (y52 x_), [.d (.b ((val (y52 x_))))])
  | _ => none
abbrev sp_105 : Specs → Specs := addK 105 true (pureK y169 y115)
set_option maxRecDepth 100000 in
def cmp_isNaN_uint64_t (x_ : Int) : T (Bool) :=
 .obT
  (.ret ((x_ != x_)) (fun r => (Ob ((x_ != x_) = r) ∧
 True)) ⟨⟨rfl⟩, trivial⟩)
set_option maxRecDepth 100000 in
theorem cmp_isNaN_uint64_vc (x_ : Int) (r : Bool) (h : Option.bind (y52 x_) some = some r) : runF Tryd.f105 (sp0) (fun _ _ _ => none) [.d (.i .u64 x_)] [.d (.b r)] :=
  T.vc (t := cmp_isNaN_uint64_t x_) (by kernel_rfl) (by kernel_rfl) h
set_option maxRecDepth 100000 in
theorem cmp_isNaN_uint64_ok : SpecOK Tryd.prog 105 true (pureK y169 y115) := by
  refine pureK_ok (sp := sp0) (fn := Tryd.f105) (body := bodyOf Tryd.f105) mixed sp0_ok Tryd.func105 (by kernel_rfl) (by kernel_rfl) fun as_ ob rs h ho => ?_
  unfold y115 at h
  split at h
  · rename_i x_
    cases h
    exact ⟨Nat.le_of_ble_eq_true rfl, _, _, cmp_isNaN_uint64_vc x_ _ (ok_some ho)⟩
  · cases h
theorem sp_105_ok {sp : Specs} (h : SpecsOK Tryd.prog sp) : SpecsOK Tryd.prog (sp_105 sp) := addK_ok cmp_isNaN_uint64_ok h
def y149 : List (Option Cont) := [none, none]
def y34 (x_ : Int) (y_ : Int) : Option Int :=
  Option.bind (y52 x_) fun r0 =>
  Option.bind (y52 y_) fun r1 =>
  if (r0) = true then
   if (r1) = true then
    some (0 : Int)
   else
    some (-1 : Int)
  else
   if (r1) = true then
    some (1 : Int)
   else
    if x_ < y_ then
     some (-1 : Int)
    else
     if x_ > y_ then
      some (1 : Int)
     else
      some (0 : Int)
def y98 : List A → Option (Prop × List RV)
  | [.d (.i .u64 x_), .d (.i .u64 y_)] => some (ok (y34 x_ y_), [.d (.i .i64 ((val (y34 x_ y_))))])
  | _ => none
abbrev sp_100 : Specs → Specs := addK 100 true (pureK y149 y98)
set_option maxRecDepth 100000 in
def cmp_Compare_uint64_t (x_ : Int) (y_ : Int) : T (Int) :=
 .call (y52 x_) fun r0 =>
  .call (y52 y_) fun r1 =>
  .brB (r0)
  (.brB (r1)
  (.obT
  (.ret ((0 : Int)) (fun r => (Ob ((0 : Int) = r) ∧
 True)) ⟨⟨rfl⟩, trivial⟩))
  (.obT
  (.ret ((-1 : Int)) (fun r => (Ob ((-1 : Int) = r) ∧
 True)) ⟨⟨rfl⟩, trivial⟩)))
  (.brB (r1)
  (.obT
  (.ret ((1 : Int)) (fun r => (Ob ((1 : Int) = r) ∧
 True)) ⟨⟨rfl⟩, trivial⟩))
  (.brP (x_ < y_)
  (.obT
  (.ret ((-1 : Int)) (fun r => (Ob ((-1 : Int) = r) ∧
 True)) ⟨⟨rfl⟩, trivial⟩))
  (.brP (x_ > y_)
  (.obT
  (.ret ((1 : Int)) (fun r => (Ob ((1 : Int) = r) ∧
 True)) ⟨⟨rfl⟩, trivial⟩))
  (.obT
  (.ret ((0 : Int)) (fun r => (Ob ((0 : Int) = r) ∧
 True)) ⟨⟨rfl⟩, trivial⟩)))))
set_option maxRecDepth 100000 in
theorem cmp_Compare_uint64_vc (x_ : Int) (y_ : Int) (r : Int) (h : Option.bind (y34 x_ y_) some = some r) : runF Tryd.f100 ((sp_105 sp0)) (fun _ _ _ => none) [.d (.i .u64 x_), .d (.i .u64 y_)] [.d (.i .i64 r)] :=
  T.vc (t := cmp_Compare_uint64_t x_ y_) (by kernel_rfl) (by kernel_rfl) h
set_option maxRecDepth 100000 in
theorem cmp_Compare_uint64_ok : SpecOK Tryd.prog 100 true (pureK y149 y98) := by
  refine pureK_ok (sp := (sp_105 sp0)) (fn := Tryd.f100) (body := bodyOf Tryd.f100) mixed (sp_105_ok sp0_ok) Tryd.func100 (by kernel_rfl) (by kernel_rfl) fun as_ ob rs h ho => ?_
  unfold y98 at h
  split at h
  · rename_i x_ y_
    cases h
    exact ⟨Nat.le_of_ble_eq_true rfl, _, _, cmp_Compare_uint64_vc x_ y_ _ (ok_some ho)⟩
  · cases h
theorem sp_100_ok {sp : Specs} (h : SpecsOK Tryd.prog sp) : SpecsOK Tryd.prog (sp_100 sp) := addK_ok cmp_Compare_uint64_ok h
def y120 : List (Option Cont) := [some (.ints .u64 []), some (.ints .u64 [])]
def y14 (s1 : List Int) (s2 : List Int) (x0 : Int) : Option (Int ⊕ (Int ⊕ Unit)) :=
  if x0 < (↑(List.length s1) : Int) then
   if (0 : Int) ≤ x0 ∧ x0 < (↑(List.length s1) : Int) then
    if Int.toNat x0 < List.length s1 then
     if x0 ≥ (↑(List.length s2) : Int) then
      some (.inr ((.inl (1 : Int))))
     else
      if (0 : Int) ≤ x0 ∧ x0 < (↑(List.length s2) : Int) then
       if Int.toNat x0 < List.length s2 then
        Option.bind (y34 (List.getD s1 (Int.toNat x0) (0 : Int)) (List.getD s2 (Int.toNat x0) (0 : Int))) fun r0 =>
        if (r0 != (0 : Int)) = true then
         some (.inr (.inl r0))
        else
         some (.inl (IntKind.wrap .i64 (x0 + (1 : Int))))
       else none
      else none
    else none
   else none
  else
   some (.inr ((.inr ())))
def y172 (s1 : List Int) (s2 : List Int) (u17 : Int) : Option Int :=
  some u17
def y173 (s1 : List Int) (s2 : List Int) (u25 : Unit) : Option Int :=
  if (↑(List.length s1) : Int) < (↑(List.length s2) : Int) then
   some (-1 : Int)
  else
   some (0 : Int)
def y53 (s1 : List Int) (s2 : List Int) : (Int ⊕ Unit) → Option Int :=
  (Sum.elim (y172 s1 s2) (y173 s1 s2))
def y21 (s1 : List Int) (s2 : List Int) : Option Int :=
  Option.bind (iter (y14 s1 s2) big (0 : Int)) (y53 s1 s2)
def y94 : List A → Option (Prop × List RV)
  | [.r (.ints .u64 s1), .r (.ints .u64 s2)] => some (ok (y21 s1 s2), [.d (.i .i64 ((val (y21 s1 s2))))])
  | _ => none
abbrev sp_90 : Specs → Specs := addK 90 true (pureK y120 y94)
set_option maxRecDepth 100000 in
theorem slices_Compare_uint64_vc (s1 : List Int) (s2 : List Int) (r : Int) (h : Option.bind (y21 s1 s2) some = some r) : runF Tryd.f90 ((sp_100 sp0)) (fun gs id _ => match id with
 | 0 => some ⟨Int × Nat, fun z => ⟨[(0, .w (.c (.o 0))), (1, .w (.c (.o 1))), (9, .w (.c (.o 0))), (10, .w (.c (.d (.i .i64 ((↑(List.length s1) : Int)))))), (11, .w (.c (.d (.i .i64 (Prod.fst z)))))], [(0, .ext (.ints .u64 s1)), (1, .ext (.ints .u64 s2))], 2⟩, fun z => Option.bind (iter (y14 s1 s2) (Prod.snd z) (Prod.fst z)) (fun y0 => Option.bind (y53 s1 s2 y0) some) = some r, fun z => Prod.snd z⟩
 | _ => none) [.r (.ints .u64 s1), .r (.ints .u64 s2)] [.d (.i .i64 r)] := by
  refine Eq.mp (by kernel_rfl : (
  ((∃ (v0 : Int × Nat), (Ob ((Option.bind (iter (y14 s1 s2) v0.2 v0.1) fun y0 => Option.bind (y53 s1 s2 y0) some) = some r) ∧
 (Ob ((↑(List.length s1) : Int) = (↑(List.length s1) : Int)) ∧
 (Ob ((0 : Int) = v0.1) ∧
 (Ob (s1 = s1) ∧
 (Ob (s2 = s2) ∧
 True)))))) ∧
   (∀ (v0 : Int × Nat), ((Option.bind (iter (y14 s1 s2) v0.2 v0.1) fun y0 => Option.bind (y53 s1 s2 y0) some) = some r →
 Br (decide (v0.1 < (↑(List.length s1) : Int)))
   ((Ob ((0 : Int) ≤ v0.1 ∧ v0.1 < (↑(List.length s1) : Int)) ∧
 (Ob (Int.toNat v0.1 < List.length s1) ∧
 Br (decide (v0.1 ≥ (↑(List.length s2) : Int)))
   ((Ob (True) ∧
 (Ob ((1 : Int) = r) ∧
 True)))
   ((Ob ((0 : Int) ≤ v0.1 ∧ v0.1 < (↑(List.length s2) : Int)) ∧
 (Ob (Int.toNat v0.1 < List.length s2) ∧
 (Ob (ok (y34 (List.getD s1 (Int.toNat v0.1) (0 : Int)) (List.getD s2 (Int.toNat v0.1) (0 : Int)))) ∧
 Br (val (y34 (List.getD s1 (Int.toNat v0.1) (0 : Int)) (List.getD s2 (Int.toNat v0.1) (0 : Int))) != (0 : Int))
   ((Ob (True) ∧
 (Ob (val (y34 (List.getD s1 (Int.toNat v0.1) (0 : Int)) (List.getD s2 (Int.toNat v0.1) (0 : Int))) = r) ∧
 True)))
   ((∃ (v1 : Int × Nat), (Ob ((Option.bind (iter (y14 s1 s2) v1.2 v1.1) fun y0 => Option.bind (y53 s1 s2 y0) some) = some r) ∧
 (Ob (v1.2 < v0.2) ∧
 (Ob ((↑(List.length s1) : Int) = (↑(List.length s1) : Int)) ∧
 (Ob (IntKind.wrap .i64 (v0.1 + (1 : Int)) = v1.1) ∧
 (Ob (s1 = s1) ∧
 (Ob (s2 = s2) ∧
 True)))))))))))))))
 (Br (decide ((↑(List.length s1) : Int) < (↑(List.length s2) : Int)))
   ((Ob (True) ∧
 (Ob ((-1 : Int) = r) ∧
 True)))
   ((Ob (True) ∧
 (Ob ((0 : Int) = r) ∧
 True)))))))) = _) ?_
  refine ⟨⟨((0 : Int), big), ⟨loop_s h⟩, (by repeat' constructor)⟩, fun z1 hz1 => ?_⟩
  obtain ⟨k1, hm1, h⟩ := iter_pos hz1
  refine br_d h (fun h => ?_) (fun h => ?_)
  · refine ob_s h fun h => ?_
    refine ob_s h fun h => ?_
    refine br_d h (fun h => ?_) (fun h => ?_)
    · have h := exit_s h
      refine ob_t ?_
      exact ret_s h (fun e => by subst e; exact (by repeat' constructor))
    · refine ob_s h fun h => ?_
      refine ob_s h fun h => ?_
      refine call_s h fun h => ?_
      refine br_b h (fun h => ?_) (fun h => ?_)
      · have h := exit_s h
        refine ob_t ?_
        exact ret_s h (fun e => by subst e; exact (by repeat' constructor))
      · exact ⟨(IntKind.wrap .i64 (Prod.fst z1 + (1 : Int)), k1), ⟨next_s h⟩, ⟨lt_gs hm1.symm⟩, (by repeat' constructor)⟩
  · have h := exit_s h
    refine br_d h (fun h => ?_) (fun h => ?_)
    · refine ob_t ?_
      exact ret_s h (fun e => by subst e; exact (by repeat' constructor))
    · refine ob_t ?_
      exact ret_s h (fun e => by subst e; exact (by repeat' constructor))
set_option maxRecDepth 100000 in
theorem slices_Compare_uint64_ok : SpecOK Tryd.prog 90 true (pureK y120 y94) := by
  refine pureK_ok (sp := (sp_100 sp0)) (fn := Tryd.f90) (body := bodyOf Tryd.f90) mixed (sp_100_ok sp0_ok) Tryd.func90 (by kernel_rfl) (by kernel_rfl) fun as_ ob rs h ho => ?_
  unfold y94 at h
  split at h
  · rename_i s1 s2
    cases h
    exact ⟨Nat.le_of_ble_eq_true rfl, _, _, slices_Compare_uint64_vc s1 s2 _ (ok_some ho)⟩
  · cases h
theorem sp_90_ok {sp : Specs} (h : SpecsOK Tryd.prog sp) : SpecsOK Tryd.prog (sp_90 sp) := addK_ok slices_Compare_uint64_ok h
def k_G_split : List (Option Cont) := [none]
def G_split (u26 : Int) : Option (Int × Int) :=
  some ((IntKind.wrap .i64 (IntKind.wrap .i64 (Int.tdiv (IntKind.wrap .i64 (u26 + (900 : Int))) (10 : Int)) - (90 : Int)), Int.tmod (IntKind.wrap .i64 (u26 + (900 : Int))) (10 : Int)))
def g_G_split : List A → Option (Prop × List RV)
  | [.d (.i .i64 u26)] => some (ok (G_split u26), [.d (.i .i64 ((val (G_split u26)).1)), .d (.i .i64 ((val (G_split u26)).2))])
  | _ => none
abbrev sp_74 : Specs → Specs := addK 74 true (pureK k_G_split g_G_split)
set_option maxRecDepth 100000 in
def G_split_t (u26 : Int) : T (Int × Int) :=
 .obC ((10 : Int) ≠ (0 : Int)) (by decide)
  (.obC ((10 : Int) ≠ (0 : Int)) (by decide)
  (.obT
  (.obT
  (.ret (((IntKind.wrap .i64 (IntKind.wrap .i64 (Int.tdiv (IntKind.wrap .i64 (u26 + (900 : Int))) (10 : Int)) - (90 : Int)), Int.tmod (IntKind.wrap .i64 (u26 + (900 : Int))) (10 : Int)))) (fun r => (Ob (IntKind.wrap .i64 (IntKind.wrap .i64 (Int.tdiv (IntKind.wrap .i64 (u26 + (900 : Int))) (10 : Int)) - (90 : Int)) = r.1) ∧
 (Ob (Int.tmod (IntKind.wrap .i64 (u26 + (900 : Int))) (10 : Int) = r.2) ∧
 True))) ⟨⟨rfl⟩, ⟨⟨rfl⟩, trivial⟩⟩))))
set_option maxRecDepth 100000 in
theorem G_split_vc (u26 : Int) (r : Int × Int) (h : Option.bind (G_split u26) some = some r) : runF Tryd.f74 (sp0) (fun _ _ _ => none) [.d (.i .i64 u26)] [.d (.i .i64 r.1), .d (.i .i64 r.2)] :=
  T.vc (t := G_split_t u26) (by kernel_rfl) (by kernel_rfl) h
set_option maxRecDepth 100000 in
theorem G_split_ok : SpecOK Tryd.prog 74 true (pureK k_G_split g_G_split) := by
  refine pureK_ok (sp := sp0) (fn := Tryd.f74) (body := bodyOf Tryd.f74) mixed sp0_ok Tryd.func74 (by kernel_rfl) (by kernel_rfl) fun as_ ob rs h ho => ?_
  unfold g_G_split at h
  split at h
  · rename_i u26
    cases h
    exact ⟨Nat.le_of_ble_eq_true rfl, _, _, G_split_vc u26 _ (ok_some ho)⟩
  · cases h
theorem sp_74_ok {sp : Specs} (h : SpecsOK Tryd.prog sp) : SpecsOK Tryd.prog (sp_74 sp) := addK_ok G_split_ok h
end Go.Sh
end

section
namespace Go.Sh
open Go Go.Proofs Go.RowKit Go.Sx
set_option linter.unusedVariables false
def y135 : List SV := [.c (.p [.d, .r (.floats .f32 []), .d, .d, .r (.recs 2 []), .r (.recs 2 [])]), .a [.d, .d]]
def y41 (u9 : List (List Int)) (u41 : Int) (wTo : Int) (x0 : (Int × Int × Int)) : Option ((Int × Int × Int) ⊕ (Int × Int)) :=
  if x0.1 < (↑(List.length (List.take (Int.toNat (Option.getD (some wTo) (↑(List.length u9) : Int)) - Int.toNat (Option.getD (some u41) (0 : Int))) (List.drop (Int.toNat (Option.getD (some u41) (0 : Int))) u9))) : Int) then
   if (0 : Int) ≤ x0.1 ∧ x0.1 < (↑(List.length (List.take (Int.toNat (Option.getD (some wTo) (↑(List.length u9) : Int)) - Int.toNat (Option.getD (some u41) (0 : Int))) (List.drop (Int.toNat (Option.getD (some u41) (0 : Int))) u9))) : Int) then
    if Int.toNat x0.1 < List.length (List.take (Int.toNat (Option.getD (some wTo) (↑(List.length u9) : Int)) - Int.toNat (Option.getD (some u41) (0 : Int))) (List.drop (Int.toNat (Option.getD (some u41) (0 : Int))) u9)) then
     Option.bind (G_plus x0.2.1 x0.2.2 (List.getD (List.getD (List.take (Int.toNat (Option.getD (some wTo) (↑(List.length u9) : Int)) - Int.toNat (Option.getD (some u41) (0 : Int))) (List.drop (Int.toNat (Option.getD (some u41) (0 : Int))) u9)) (Int.toNat x0.1) []) (0 : Nat) (0 : Int)) (List.getD (List.getD (List.take (Int.toNat (Option.getD (some wTo) (↑(List.length u9) : Int)) - Int.toNat (Option.getD (some u41) (0 : Int))) (List.drop (Int.toNat (Option.getD (some u41) (0 : Int))) u9)) (Int.toNat x0.1) []) (1 : Nat) (0 : Int))) fun r0 =>
     some (.inl ((IntKind.wrap .i64 (x0.1 + (1 : Int)), IntKind.wrap .i64 (x0.2.1 + List.getD (List.getD (List.take (Int.toNat (Option.getD (some wTo) (↑(List.length u9) : Int)) - Int.toNat (Option.getD (some u41) (0 : Int))) (List.drop (Int.toNat (Option.getD (some u41) (0 : Int))) u9)) (Int.toNat x0.1) []) (0 : Nat) (0 : Int)), IntKind.wrap .i64 (x0.2.2 + List.getD (List.getD (List.take (Int.toNat (Option.getD (some wTo) (↑(List.length u9) : Int)) - Int.toNat (Option.getD (some u41) (0 : Int))) (List.drop (Int.toNat (Option.getD (some u41) (0 : Int))) u9)) (Int.toNat x0.1) []) (1 : Nat) (0 : Int)))))
    else none
   else none
  else
   some (.inr (x0.2.1, x0.2.2))
def y87 (u17 : Int × Int) : Option (Int × Int) :=
  some (u17.1, u17.2)
def y56 (u10 : Int) (u11 : List Nat) (u12 : Int) (u13 : Int) (u9 : List (List Int)) (u14 : List (List Int)) (u41 : Int) (wTo : Int) : Option (Int × Int) :=
  if (0 : Int) ≤ Option.getD (some u41) (0 : Int) ∧ Option.getD (some u41) (0 : Int) ≤ Option.getD (some wTo) (↑(List.length u9) : Int) ∧ Option.getD (some wTo) (↑(List.length u9) : Int) ≤ (↑(List.length u9) : Int) then
   Option.bind (iter (y41 u9 u41 wTo) big (((0 : Int), (0 : Int), (0 : Int)))) (y87)
  else none
def y136 : List Lf → Option GT
  | [.d (.i .i64 u10), .r (.floats .f32 u11), .d (.i .i64 u12), .d (.i .i64 u13), .r (.recs 2 u9), .r (.recs 2 u14), .d (.i .i64 u41), .d (.i .i64 wTo)] => some (.leaf (ok (y56 u10 u11 u12 u13 u9 u14 u41 wTo)) [.s [.d (.i .i64 ((val (y56 u10 u11 u12 u13 u9 u14 u41 wTo)).1)), .d (.i .i64 ((val (y56 u10 u11 u12 u13 u9 u14 u41 wTo)).2))]])
  | _ => none
abbrev sp_91 : Specs → Specs := addK 91 true (pureT y135 y136)
private abbrev w3q0 (u9 : List (List Int)) (u41 : Int) (wTo : Int) := (List.take (Int.toNat (Option.getD (some wTo) (↑(List.length u9) : Int)) - Int.toNat (Option.getD (some u41) (0 : Int))) (List.drop (Int.toNat (Option.getD (some u41) (0 : Int))) u9))
private abbrev w3q1 (u9 : List (List Int)) (u41 : Int) (wTo : Int) := (List.take (Int.toNat (Option.getD (some wTo) (↑(List.length u9) : Int)) - Int.toNat (Option.getD (some u41) (0 : Int))) (List.drop (Int.toNat (Option.getD (some u41) (0 : Int))) u9) = List.take (Int.toNat (Option.getD (some wTo) (↑(List.length u9) : Int)) - Int.toNat (Option.getD (some u41) (0 : Int))) (List.drop (Int.toNat (Option.getD (some u41) (0 : Int))) u9))
set_option maxRecDepth 100000 in
theorem G_decay_energy_vc (u10 : Int) (u11 : List Nat) (u12 : Int) (u13 : Int) (u9 : List (List Int)) (u14 : List (List Int)) (u41 : Int) (wTo : Int) (r : Int × Int) (h : Option.bind (y56 u10 u11 u12 u13 u9 u14 u41 wTo) some = some r) : runT Tryd.f91 ((sp_83 sp0)) (fun gs id _ => match id with
 | 0 => some ⟨(Int × Int × Int) × Nat, fun z => ⟨[(4, .w (.c (.p 4 (0 : Nat) 1 (0 : Nat)))), (15, .w (.c (.o 5))), (16, .w (.c (.d (.i .i64 ((↑(List.length (List.take (Int.toNat (Option.getD (some wTo) (↑(List.length u9) : Int)) - Int.toNat (Option.getD (some u41) (0 : Int))) (List.drop (Int.toNat (Option.getD (some u41) (0 : Int))) u9))) : Int)))))), (17, .w (.c (.d (.i .i64 (Prod.fst (Prod.fst z))))))], [(4, .box 24 [.d (.i .i64 (Prod.fst (Prod.snd (Prod.fst z)))), .d (.i .i64 (Prod.snd (Prod.snd (Prod.fst z))))]), (5, .ext (.recs 2 (List.take (Int.toNat (Option.getD (some wTo) (↑(List.length u9) : Int)) - Int.toNat (Option.getD (some u41) (0 : Int))) (List.drop (Int.toNat (Option.getD (some u41) (0 : Int))) u9))))], 6⟩, fun z => Option.bind (iter (y41 u9 u41 wTo) (Prod.snd z) (Prod.fst z)) (fun y0 => Option.bind (y87 y0) some) = some r, fun z => Prod.snd z⟩
 | _ => none) (bldD y135 [.d (.i .i64 u10), .r (.floats .f32 u11), .d (.i .i64 u12), .d (.i .i64 u13), .r (.recs 2 u9), .r (.recs 2 u14), .d (.i .i64 u41), .d (.i .i64 wTo)]) [.s [.d (.i .i64 r.1), .d (.i .i64 r.2)]] := by
  refine Eq.mp (by kernel_rfl : (
 (Ob (True) ∧
 (Ob ((0 : Int) ≤ Option.getD (some u41) (0 : Int) ∧ Option.getD (some u41) (0 : Int) ≤ Option.getD (some wTo) (↑(List.length u9) : Int) ∧ Option.getD (some wTo) (↑(List.length u9) : Int) ≤ (↑(List.length u9) : Int)) ∧
   ((∃ (v0 : (Int × Int × Int) × Nat), (Ob ((Option.bind (iter (y41 u9 u41 wTo) v0.2 v0.1) fun y0 => Option.bind (y87 y0) some) = some r) ∧
 (Ob ((0 : Nat) = (0 : Nat)) ∧
 (Ob ((↑(List.length (w3q0 u9 u41 wTo)) : Int) = (↑(List.length (w3q0 u9 u41 wTo)) : Int)) ∧
 (Ob ((0 : Int) = v0.1.1) ∧
 (Ob ((0 : Int) = v0.1.2.1) ∧
 (Ob ((0 : Int) = v0.1.2.2) ∧
 (Ob (w3q1 u9 u41 wTo) ∧
 True)))))))) ∧
   (∀ (v0 : (Int × Int × Int) × Nat), ((Option.bind (iter (y41 u9 u41 wTo) v0.2 v0.1) fun y0 => Option.bind (y87 y0) some) = some r →
 Br (decide (v0.1.1 < (↑(List.length (w3q0 u9 u41 wTo)) : Int)))
   ((Ob ((0 : Int) ≤ v0.1.1 ∧ v0.1.1 < (↑(List.length (w3q0 u9 u41 wTo)) : Int)) ∧
 (Ob (Int.toNat v0.1.1 < List.length (w3q0 u9 u41 wTo)) ∧
 (Ob (ok (G_plus v0.1.2.1 v0.1.2.2 (List.getD (List.getD (w3q0 u9 u41 wTo) (Int.toNat v0.1.1) []) (0 : Nat) (0 : Int)) (List.getD (List.getD (w3q0 u9 u41 wTo) (Int.toNat v0.1.1) []) (1 : Nat) (0 : Int)))) ∧
   (∃ (v1 : (Int × Int × Int) × Nat), (Ob ((Option.bind (iter (y41 u9 u41 wTo) v1.2 v1.1) fun y0 => Option.bind (y87 y0) some) = some r) ∧
 (Ob (v1.2 < v0.2) ∧
 (Ob ((0 : Nat) = (0 : Nat)) ∧
 (Ob ((↑(List.length (w3q0 u9 u41 wTo)) : Int) = (↑(List.length (w3q0 u9 u41 wTo)) : Int)) ∧
 (Ob (IntKind.wrap .i64 (v0.1.1 + (1 : Int)) = v1.1.1) ∧
 (Ob (IntKind.wrap .i64 (v0.1.2.1 + List.getD (List.getD (w3q0 u9 u41 wTo) (Int.toNat v0.1.1) []) (0 : Nat) (0 : Int)) = v1.1.2.1) ∧
 (Ob (IntKind.wrap .i64 (v0.1.2.2 + List.getD (List.getD (w3q0 u9 u41 wTo) (Int.toNat v0.1.1) []) (1 : Nat) (0 : Int)) = v1.1.2.2) ∧
 (Ob (w3q1 u9 u41 wTo) ∧
 True)))))))))))))
   ((Ob (True) ∧
 (Ob (v0.1.2.1 = r.1) ∧
 (Ob (v0.1.2.2 = r.2) ∧
 True)))))))))) = _) ?_
  refine ob_t ?_
  refine ob_s h fun h => ?_
  refine ⟨⟨(((0 : Int), (0 : Int), (0 : Int)), big), ⟨loop_s h⟩, (by repeat' constructor)⟩, fun z1 hz1 => ?_⟩
  obtain ⟨k1, hm1, h⟩ := iter_pos hz1
  refine br_d h (fun h => ?_) (fun h => ?_)
  · refine ob_s h fun h => ?_
    refine ob_s h fun h => ?_
    refine call_s h fun h => ?_
    exact ⟨((IntKind.wrap .i64 ((Prod.fst z1).1 + (1 : Int)), IntKind.wrap .i64 ((Prod.fst z1).2.1 + List.getD (List.getD (List.take (Int.toNat (Option.getD (some wTo) (↑(List.length u9) : Int)) - Int.toNat (Option.getD (some u41) (0 : Int))) (List.drop (Int.toNat (Option.getD (some u41) (0 : Int))) u9)) (Int.toNat (Prod.fst z1).1) []) (0 : Nat) (0 : Int)), IntKind.wrap .i64 ((Prod.fst z1).2.2 + List.getD (List.getD (List.take (Int.toNat (Option.getD (some wTo) (↑(List.length u9) : Int)) - Int.toNat (Option.getD (some u41) (0 : Int))) (List.drop (Int.toNat (Option.getD (some u41) (0 : Int))) u9)) (Int.toNat (Prod.fst z1).1) []) (1 : Nat) (0 : Int))), k1), ⟨next_s h⟩, ⟨lt_gs hm1.symm⟩, (by repeat' constructor)⟩
  · have h := exit_s h
    refine ob_t ?_
    exact ret_s h (fun e => by subst e; exact (by repeat' constructor))
set_option maxRecDepth 100000 in
theorem G_decay_energy_ok : SpecOK Tryd.prog 91 true (pureT y135 y136) := by
  refine pureT_ok (sp := (sp_83 sp0)) (fn := Tryd.f91) (body := bodyOf Tryd.f91) mixed (sp_83_ok sp0_ok) Tryd.func91 (by kernel_rfl) (by kernel_rfl) fun ls t h ho b hb => ?_
  unfold y136 at h
  split at h
  · rename_i u10 u11 u12 u13 u9 u14 u41 wTo
    cases h
    obtain rfl := bld_eq hb
    exact ⟨Nat.le_of_ble_eq_true (by kernel_rfl), _, _, G_decay_energy_vc u10 u11 u12 u13 u9 u14 u41 wTo _ (ok_some ho)⟩
  · cases h
theorem sp_91_ok {sp : Specs} (h : SpecsOK Tryd.prog sp) : SpecsOK Tryd.prog (sp_91 sp) := addK_ok G_decay_energy_ok h
def k_G_numberAt : List (Option Cont) := [none, none]
def y99 (u42 : Int) (u7 : Int) : Option Int :=
  Option.bind (G_ceil (IntKind.wrap .i64 (u7 * u42)) (1000000 : Int)) fun r0 =>
  some r0
def g_G_numberAt : List A → Option (Prop × List RV)
  | [.d (.i .i64 u42), .d (.i .i64 u7)] => some (ok (y99 u42 u7), [.d (.i .i64 ((val (y99 u42 u7))))])
  | _ => none
abbrev sp_52 : Specs → Specs := addK 52 true (pureK k_G_numberAt g_G_numberAt)
set_option maxRecDepth 100000 in
def G_numberAt_t (u42 : Int) (u7 : Int) : T (Int) :=
 .call (G_ceil (IntKind.wrap .i64 (u7 * u42)) (1000000 : Int)) fun r0 =>
  .obT
  (.ret (r0) (fun r => (Ob (r0 = r) ∧
 True)) ⟨⟨rfl⟩, trivial⟩)
set_option maxRecDepth 100000 in
theorem G_numberAt_vc (u42 : Int) (u7 : Int) (r : Int) (h : Option.bind (y99 u42 u7) some = some r) : runF Tryd.f52 ((sp_81 sp0)) (fun _ _ _ => none) [.d (.i .i64 u42), .d (.i .i64 u7)] [.d (.i .i64 r)] :=
  T.vc (t := G_numberAt_t u42 u7) (by kernel_rfl) (by kernel_rfl) h
set_option maxRecDepth 100000 in
theorem G_numberAt_ok : SpecOK Tryd.prog 52 true (pureK k_G_numberAt g_G_numberAt) := by
  refine pureK_ok (sp := (sp_81 sp0)) (fn := Tryd.f52) (body := bodyOf Tryd.f52) mixed (sp_81_ok sp0_ok) Tryd.func52 (by kernel_rfl) (by kernel_rfl) fun as_ ob rs h ho => ?_
  unfold g_G_numberAt at h
  split at h
  · rename_i u42 u7
    cases h
    exact ⟨Nat.le_of_ble_eq_true rfl, _, _, G_numberAt_vc u42 u7 _ (ok_some ho)⟩
  · cases h
theorem sp_52_ok {sp : Specs} (h : SpecsOK Tryd.prog sp) : SpecsOK Tryd.prog (sp_52 sp) := addK_ok G_numberAt_ok h
def k_G_decay_cut : List SV := [.c (.p [.d, .r (.floats .f32 []), .d, .d, .r (.recs 2 []), .r (.recs 2 [])]), .c (.d)]
def y60 (u10 : Int) (u11 : List Nat) (u12 : Int) (u13 : Int) (u9 : List (List Int)) (u14 : List (List Int)) (u7 : Int) : Option Int :=
  Option.bind (y99 u10 u7) fun r0 =>
  some (if r0 < (↑(List.length u9) : Int) then r0 else (↑(List.length u9) : Int))
def g_G_decay_cut : List Lf → Option GT
  | [.d (.i .i64 u10), .r (.floats .f32 u11), .d (.i .i64 u12), .d (.i .i64 u13), .r (.recs 2 u9), .r (.recs 2 u14), .d (.i .i64 u7)] => some (.leaf (ok (y60 u10 u11 u12 u13 u9 u14 u7)) [.c (.d (.i .i64 ((val (y60 u10 u11 u12 u13 u9 u14 u7)))))])
  | _ => none
abbrev sp_86 : Specs → Specs := addK 86 true (pureT k_G_decay_cut g_G_decay_cut)
set_option maxRecDepth 100000 in
def G_decay_cut_t (u10 : Int) (u11 : List Nat) (u12 : Int) (u13 : Int) (u9 : List (List Int)) (u14 : List (List Int)) (u7 : Int) : T (Int) :=
 .obT
  (.obT
  (.call (y99 u10 u7) fun r0 =>
  .obT
  (.ret ((if r0 < (↑(List.length u9) : Int) then r0 else (↑(List.length u9) : Int))) (fun r => (Ob ((if r0 < (↑(List.length u9) : Int) then r0 else (↑(List.length u9) : Int)) = r) ∧
 True)) ⟨⟨rfl⟩, trivial⟩)))
set_option maxRecDepth 100000 in
theorem G_decay_cut_vc (u10 : Int) (u11 : List Nat) (u12 : Int) (u13 : Int) (u9 : List (List Int)) (u14 : List (List Int)) (u7 : Int) (r : Int) (h : Option.bind (y60 u10 u11 u12 u13 u9 u14 u7) some = some r) : runT Tryd.f86 ((sp_52 sp0)) (fun _ _ _ => none) (bldD k_G_decay_cut [.d (.i .i64 u10), .r (.floats .f32 u11), .d (.i .i64 u12), .d (.i .i64 u13), .r (.recs 2 u9), .r (.recs 2 u14), .d (.i .i64 u7)]) [.c (.d (.i .i64 r))] :=
  T.vc (t := G_decay_cut_t u10 u11 u12 u13 u9 u14 u7) (by kernel_rfl) (by kernel_rfl) h
set_option maxRecDepth 100000 in
theorem G_decay_cut_ok : SpecOK Tryd.prog 86 true (pureT k_G_decay_cut g_G_decay_cut) := by
  refine pureT_ok (sp := (sp_52 sp0)) (fn := Tryd.f86) (body := bodyOf Tryd.f86) mixed (sp_52_ok sp0_ok) Tryd.func86 (by kernel_rfl) (by kernel_rfl) fun ls t h ho b hb => ?_
  unfold g_G_decay_cut at h
  split at h
  · rename_i u10 u11 u12 u13 u9 u14 u7
    cases h
    obtain rfl := bld_eq hb
    exact ⟨Nat.le_of_ble_eq_true (by kernel_rfl), _, _, G_decay_cut_vc u10 u11 u12 u13 u9 u14 u7 _ (ok_some ho)⟩
  · cases h
theorem sp_86_ok {sp : Specs} (h : SpecsOK Tryd.prog sp) : SpecsOK Tryd.prog (sp_86 sp) := addK_ok G_decay_cut_ok h
def y137 : List SV := [.c (.p [.d, .r (.floats .f32 []), .d, .d, .r (.recs 2 []), .r (.recs 2 [])]), .c (.d)]
def y42 (u9 : List (List Int)) (u36 : Int) (x0 : (Int × Int × Int)) : Option ((Int × Int × Int) ⊕ (Int × Int)) :=
  if x0.2.2 < (↑(List.length u9) : Int) then
   if (0 : Int) ≤ x0.2.2 ∧ x0.2.2 < (↑(List.length u9) : Int) then
    if Int.toNat x0.2.2 < List.length u9 then
     if u36 ≠ (0 : Int) then
      if (Int.tmod (IntKind.wrap .i64 (Int.tdiv x0.2.2 u36)) (4 : Int) == (0 : Int)) = true then
       some (.inl ((IntKind.wrap .i64 (x0.1 + List.getD (List.getD u9 (Int.toNat x0.2.2) []) (0 : Nat) (0 : Int)), x0.2.1, IntKind.wrap .i64 (x0.2.2 + (1 : Int)))))
      else
       if (Int.tmod (IntKind.wrap .i64 (Int.tdiv x0.2.2 u36)) (4 : Int) == (1 : Int)) = true then
        some (.inl ((x0.1, IntKind.wrap .i64 (x0.2.1 - List.getD (List.getD u9 (Int.toNat x0.2.2) []) (0 : Nat) (0 : Int)), IntKind.wrap .i64 (x0.2.2 + (1 : Int)))))
       else
        if (Int.tmod (IntKind.wrap .i64 (Int.tdiv x0.2.2 u36)) (4 : Int) == (2 : Int)) = true then
         some (.inl ((IntKind.wrap .i64 (x0.1 - List.getD (List.getD u9 (Int.toNat x0.2.2) []) (0 : Nat) (0 : Int)), x0.2.1, IntKind.wrap .i64 (x0.2.2 + (1 : Int)))))
        else
         if (Int.tmod (IntKind.wrap .i64 (Int.tdiv x0.2.2 u36)) (4 : Int) == (3 : Int)) = true then
          some (.inl ((x0.1, IntKind.wrap .i64 (x0.2.1 + List.getD (List.getD u9 (Int.toNat x0.2.2) []) (0 : Nat) (0 : Int)), IntKind.wrap .i64 (x0.2.2 + (1 : Int)))))
         else
          some (.inl ((x0.1, x0.2.1, IntKind.wrap .i64 (x0.2.2 + (1 : Int)))))
     else none
    else none
   else none
  else
   some (.inr (x0.1, x0.2.1))
def y43 (u17 : Int × Int) : Option (Int × Int) :=
  some (u17.1, u17.2)
def y91 (u10 : Int) (u11 : List Nat) (u12 : Int) (u13 : Int) (u9 : List (List Int)) (u14 : List (List Int)) (u36 : Int) : Option (Int × Int) :=
  Option.bind (iter (y42 u9 u36) big (((0 : Int), (0 : Int), (0 : Int)))) (y43)
def y138 : List Lf → Option GT
  | [.d (.i .i64 u10), .r (.floats .f32 u11), .d (.i .i64 u12), .d (.i .i64 u13), .r (.recs 2 u9), .r (.recs 2 u14), .d (.i .i64 u36)] => some (.leaf (ok (y91 u10 u11 u12 u13 u9 u14 u36)) [.c (.d (.i .i64 ((val (y91 u10 u11 u12 u13 u9 u14 u36)).1))), .c (.d (.i .i64 ((val (y91 u10 u11 u12 u13 u9 u14 u36)).2)))])
  | _ => none
abbrev sp_68 : Specs → Specs := addK 68 true (pureT y137 y138)
private abbrev w4q0 (u9 : List (List Int)) := ((↑(List.length u9) : Int) = (↑(List.length u9) : Int))
set_option maxRecDepth 100000 in
theorem G_decay_turned_vc (u10 : Int) (u11 : List Nat) (u12 : Int) (u13 : Int) (u9 : List (List Int)) (u14 : List (List Int)) (u36 : Int) (r : Int × Int) (h : Option.bind (y91 u10 u11 u12 u13 u9 u14 u36) some = some r) : runT Tryd.f68 (sp0) (fun gs id _ => match id with
 | 0 => some ⟨(Int × Int × Int) × Nat, fun z => ⟨[(1, .w (.c (.d (.i .i64 u36)))), (4, .w (.c (.d (.i .i64 (Prod.fst (Prod.fst z)))))), (5, .w (.c (.d (.i .i64 (Prod.fst (Prod.snd (Prod.fst z))))))), (11, .w (.c (.o 1))), (12, .w (.c (.d (.i .i64 ((↑(List.length u9) : Int)))))), (13, .w (.c (.d (.i .i64 (Prod.snd (Prod.snd (Prod.fst z)))))))], [(1, .ext (.recs 2 u9))], 4⟩, fun z => Option.bind (iter (y42 u9 u36) (Prod.snd z) (Prod.fst z)) (fun y0 => Option.bind (y43 y0) some) = some r, fun z => Prod.snd z⟩
 | _ => none) (bldD y137 [.d (.i .i64 u10), .r (.floats .f32 u11), .d (.i .i64 u12), .d (.i .i64 u13), .r (.recs 2 u9), .r (.recs 2 u14), .d (.i .i64 u36)]) [.c (.d (.i .i64 r.1)), .c (.d (.i .i64 r.2))] := by
  refine Eq.mp (by kernel_rfl : (
 (Ob (True) ∧
   ((∃ (v0 : (Int × Int × Int) × Nat), (Ob ((Option.bind (iter (y42 u9 u36) v0.2 v0.1) fun y0 => Option.bind (y43 y0) some) = some r) ∧
 (Ob (u36 = u36) ∧
 (Ob ((0 : Int) = v0.1.1) ∧
 (Ob ((0 : Int) = v0.1.2.1) ∧
 (Ob (w4q0 u9) ∧
 (Ob ((0 : Int) = v0.1.2.2) ∧
 (Ob (u9 = u9) ∧
 True)))))))) ∧
   (∀ (v0 : (Int × Int × Int) × Nat), ((Option.bind (iter (y42 u9 u36) v0.2 v0.1) fun y0 => Option.bind (y43 y0) some) = some r →
 Br (decide (v0.1.2.2 < (↑(List.length u9) : Int)))
   ((Ob ((0 : Int) ≤ v0.1.2.2 ∧ v0.1.2.2 < (↑(List.length u9) : Int)) ∧
 (Ob (Int.toNat v0.1.2.2 < List.length u9) ∧
 (Ob (u36 ≠ (0 : Int)) ∧
 (Ob ((4 : Int) ≠ (0 : Int)) ∧
 Br (Int.tmod (IntKind.wrap .i64 (Int.tdiv v0.1.2.2 u36)) (4 : Int) == (0 : Int))
   ((∃ (v1 : (Int × Int × Int) × Nat), (Ob ((Option.bind (iter (y42 u9 u36) v1.2 v1.1) fun y0 => Option.bind (y43 y0) some) = some r) ∧
 (Ob (v1.2 < v0.2) ∧
 (Ob (u36 = u36) ∧
 (Ob (IntKind.wrap .i64 (v0.1.1 + List.getD (List.getD u9 (Int.toNat v0.1.2.2) []) (0 : Nat) (0 : Int)) = v1.1.1) ∧
 (Ob (v0.1.2.1 = v1.1.2.1) ∧
 (Ob (w4q0 u9) ∧
 (Ob (IntKind.wrap .i64 (v0.1.2.2 + (1 : Int)) = v1.1.2.2) ∧
 (Ob (u9 = u9) ∧
 True))))))))))
 (Br (Int.tmod (IntKind.wrap .i64 (Int.tdiv v0.1.2.2 u36)) (4 : Int) == (1 : Int))
   ((∃ (v1 : (Int × Int × Int) × Nat), (Ob ((Option.bind (iter (y42 u9 u36) v1.2 v1.1) fun y0 => Option.bind (y43 y0) some) = some r) ∧
 (Ob (v1.2 < v0.2) ∧
 (Ob (u36 = u36) ∧
 (Ob (v0.1.1 = v1.1.1) ∧
 (Ob (IntKind.wrap .i64 (v0.1.2.1 - List.getD (List.getD u9 (Int.toNat v0.1.2.2) []) (0 : Nat) (0 : Int)) = v1.1.2.1) ∧
 (Ob (w4q0 u9) ∧
 (Ob (IntKind.wrap .i64 (v0.1.2.2 + (1 : Int)) = v1.1.2.2) ∧
 (Ob (u9 = u9) ∧
 True))))))))))
 (Br (Int.tmod (IntKind.wrap .i64 (Int.tdiv v0.1.2.2 u36)) (4 : Int) == (2 : Int))
   ((∃ (v1 : (Int × Int × Int) × Nat), (Ob ((Option.bind (iter (y42 u9 u36) v1.2 v1.1) fun y0 => Option.bind (y43 y0) some) = some r) ∧
 (Ob (v1.2 < v0.2) ∧
 (Ob (u36 = u36) ∧
 (Ob (IntKind.wrap .i64 (v0.1.1 - List.getD (List.getD u9 (Int.toNat v0.1.2.2) []) (0 : Nat) (0 : Int)) = v1.1.1) ∧
 (Ob (v0.1.2.1 = v1.1.2.1) ∧
 (Ob (w4q0 u9) ∧
 (Ob (IntKind.wrap .i64 (v0.1.2.2 + (1 : Int)) = v1.1.2.2) ∧
 (Ob (u9 = u9) ∧
 True))))))))))
 (Br (Int.tmod (IntKind.wrap .i64 (Int.tdiv v0.1.2.2 u36)) (4 : Int) == (3 : Int))
   ((∃ (v1 : (Int × Int × Int) × Nat), (Ob ((Option.bind (iter (y42 u9 u36) v1.2 v1.1) fun y0 => Option.bind (y43 y0) some) = some r) ∧
 (Ob (v1.2 < v0.2) ∧
 (Ob (u36 = u36) ∧
 (Ob (v0.1.1 = v1.1.1) ∧
 (Ob (IntKind.wrap .i64 (v0.1.2.1 + List.getD (List.getD u9 (Int.toNat v0.1.2.2) []) (0 : Nat) (0 : Int)) = v1.1.2.1) ∧
 (Ob (w4q0 u9) ∧
 (Ob (IntKind.wrap .i64 (v0.1.2.2 + (1 : Int)) = v1.1.2.2) ∧
 (Ob (u9 = u9) ∧
 True))))))))))
   ((∃ (v1 : (Int × Int × Int) × Nat), (Ob ((Option.bind (iter (y42 u9 u36) v1.2 v1.1) fun y0 => Option.bind (y43 y0) some) = some r) ∧
 (Ob (v1.2 < v0.2) ∧
 (Ob (u36 = u36) ∧
 (Ob (v0.1.1 = v1.1.1) ∧
 (Ob (v0.1.2.1 = v1.1.2.1) ∧
 (Ob (w4q0 u9) ∧
 (Ob (IntKind.wrap .i64 (v0.1.2.2 + (1 : Int)) = v1.1.2.2) ∧
 (Ob (u9 = u9) ∧
 True))))))))))))))))))
   ((Ob (True) ∧
 (Ob (True) ∧
 (Ob (v0.1.1 = r.1) ∧
 (Ob (v0.1.2.1 = r.2) ∧
 True)))))))))) = _) ?_
  refine ob_t ?_
  refine ⟨⟨(((0 : Int), (0 : Int), (0 : Int)), big), ⟨loop_s h⟩, (by repeat' constructor)⟩, fun z0 hz0 => ?_⟩
  obtain ⟨k0, hm0, h⟩ := iter_pos hz0
  refine br_d h (fun h => ?_) (fun h => ?_)
  · refine ob_s h fun h => ?_
    refine ob_s h fun h => ?_
    refine ob_s h fun h => ?_
    refine ob_c (p := (4 : Int) ≠ (0 : Int)) (by decide) ?_
    refine br_b h (fun h => ?_) (fun h => ?_)
    · exact ⟨((IntKind.wrap .i64 ((Prod.fst z0).1 + List.getD (List.getD u9 (Int.toNat (Prod.fst z0).2.2) []) (0 : Nat) (0 : Int)), (Prod.fst z0).2.1, IntKind.wrap .i64 ((Prod.fst z0).2.2 + (1 : Int))), k0), ⟨next_s h⟩, ⟨lt_gs hm0.symm⟩, (by repeat' constructor)⟩
    · refine br_b h (fun h => ?_) (fun h => ?_)
      · exact ⟨(((Prod.fst z0).1, IntKind.wrap .i64 ((Prod.fst z0).2.1 - List.getD (List.getD u9 (Int.toNat (Prod.fst z0).2.2) []) (0 : Nat) (0 : Int)), IntKind.wrap .i64 ((Prod.fst z0).2.2 + (1 : Int))), k0), ⟨next_s h⟩, ⟨lt_gs hm0.symm⟩, (by repeat' constructor)⟩
      · refine br_b h (fun h => ?_) (fun h => ?_)
        · exact ⟨((IntKind.wrap .i64 ((Prod.fst z0).1 - List.getD (List.getD u9 (Int.toNat (Prod.fst z0).2.2) []) (0 : Nat) (0 : Int)), (Prod.fst z0).2.1, IntKind.wrap .i64 ((Prod.fst z0).2.2 + (1 : Int))), k0), ⟨next_s h⟩, ⟨lt_gs hm0.symm⟩, (by repeat' constructor)⟩
        · refine br_b h (fun h => ?_) (fun h => ?_)
          · exact ⟨(((Prod.fst z0).1, IntKind.wrap .i64 ((Prod.fst z0).2.1 + List.getD (List.getD u9 (Int.toNat (Prod.fst z0).2.2) []) (0 : Nat) (0 : Int)), IntKind.wrap .i64 ((Prod.fst z0).2.2 + (1 : Int))), k0), ⟨next_s h⟩, ⟨lt_gs hm0.symm⟩, (by repeat' constructor)⟩
          · exact ⟨(((Prod.fst z0).1, (Prod.fst z0).2.1, IntKind.wrap .i64 ((Prod.fst z0).2.2 + (1 : Int))), k0), ⟨next_s h⟩, ⟨lt_gs hm0.symm⟩, (by repeat' constructor)⟩
  · have h := exit_s h
    refine ob_t ?_
    refine ob_t ?_
    exact ret_s h (fun e => by subst e; exact (by repeat' constructor))
set_option maxRecDepth 100000 in
theorem G_decay_turned_ok : SpecOK Tryd.prog 68 true (pureT y137 y138) := by
  refine pureT_ok (sp := sp0) (fn := Tryd.f68) (body := bodyOf Tryd.f68) mixed sp0_ok Tryd.func68 (by kernel_rfl) (by kernel_rfl) fun ls t h ho b hb => ?_
  unfold y138 at h
  split at h
  · rename_i u10 u11 u12 u13 u9 u14 u36
    cases h
    obtain rfl := bld_eq hb
    exact ⟨Nat.le_of_ble_eq_true (by kernel_rfl), _, _, G_decay_turned_vc u10 u11 u12 u13 u9 u14 u36 _ (ok_some ho)⟩
  · cases h
theorem sp_68_ok {sp : Specs} (h : SpecsOK Tryd.prog sp) : SpecsOK Tryd.prog (sp_68 sp) := addK_ok G_decay_turned_ok h
def k_G_LevelOf_1 : List (Option Cont) := [none]
def y67 (n : Int) : Option Bool :=
  Option.bind (y9 n (1 : Int) (10000000000000 : Int)) fun r0 =>
  some r0
def g_G_LevelOf_1 : List A → Option (Prop × List RV)
  | [.d (.i .i64 n)] => some (ok (y67 n), [.d (.b ((val (y67 n))))])
  | _ => none
abbrev sp_40 : Specs → Specs := addK 40 true (pureK k_G_LevelOf_1 g_G_LevelOf_1)
set_option maxRecDepth 100000 in
def G_LevelOf_1_t (n : Int) : T (Bool) :=
 .call (y9 n (1 : Int) (10000000000000 : Int)) fun r0 =>
  .obT
  (.ret (r0) (fun r => (Ob (r0 = r) ∧
 True)) ⟨⟨rfl⟩, trivial⟩)
set_option maxRecDepth 100000 in
theorem G_LevelOf_1_vc (n : Int) (r : Bool) (h : Option.bind (y67 n) some = some r) : runF Tryd.f40 ((sp_41 sp0)) (fun _ _ _ => none) [.d (.i .i64 n)] [.d (.b r)] :=
  T.vc (t := G_LevelOf_1_t n) (by kernel_rfl) (by kernel_rfl) h
set_option maxRecDepth 100000 in
theorem G_LevelOf_1_ok : SpecOK Tryd.prog 40 true (pureK k_G_LevelOf_1 g_G_LevelOf_1) := by
  refine pureK_ok (sp := (sp_41 sp0)) (fn := Tryd.f40) (body := bodyOf Tryd.f40) mixed (sp_41_ok sp0_ok) Tryd.func40 (by kernel_rfl) (by kernel_rfl) fun as_ ob rs h ho => ?_
  unfold g_G_LevelOf_1 at h
  split at h
  · rename_i n
    cases h
    exact ⟨Nat.le_of_ble_eq_true rfl, _, _, G_LevelOf_1_vc n _ (ok_some ho)⟩
  · cases h
theorem sp_40_ok {sp : Specs} (h : SpecsOK Tryd.prog sp) : SpecsOK Tryd.prog (sp_40 sp) := addK_ok G_LevelOf_1_ok h
def k_G_LevelOf_2 : List (Option Cont) := [none, none]
def y61 (a : Int) (b : Int) : Option Bool :=
  if b ≤ (10000 : Int) then
   some (decide (a > IntKind.wrap .i64 (b * (1000000000 : Int))))
  else
   some false
def g_G_LevelOf_2 : List A → Option (Prop × List RV)
  | [.d (.i .i64 a), .d (.i .i64 b)] => some (ok (y61 a b), [.d (.b ((val (y61 a b))))])
  | _ => none
abbrev sp_42 : Specs → Specs := addK 42 true (pureK k_G_LevelOf_2 g_G_LevelOf_2)
set_option maxRecDepth 100000 in
def G_LevelOf_2_t (a : Int) (b : Int) : T (Bool) :=
 .brP (b ≤ (10000 : Int))
  (.obT
  (.ret ((decide (a > IntKind.wrap .i64 (b * (1000000000 : Int))))) (fun r => (Ob (decide (a > IntKind.wrap .i64 (b * (1000000000 : Int))) = r) ∧
 True)) ⟨⟨rfl⟩, trivial⟩))
  (.obT
  (.ret (false) (fun r => (Ob (false = r) ∧
 True)) ⟨⟨rfl⟩, trivial⟩))
set_option maxRecDepth 100000 in
theorem G_LevelOf_2_vc (a : Int) (b : Int) (r : Bool) (h : Option.bind (y61 a b) some = some r) : runF Tryd.f42 (sp0) (fun _ _ _ => none) [.d (.i .i64 a), .d (.i .i64 b)] [.d (.b r)] :=
  T.vc (t := G_LevelOf_2_t a b) (by kernel_rfl) (by kernel_rfl) h
set_option maxRecDepth 100000 in
theorem G_LevelOf_2_ok : SpecOK Tryd.prog 42 true (pureK k_G_LevelOf_2 g_G_LevelOf_2) := by
  refine pureK_ok (sp := sp0) (fn := Tryd.f42) (body := bodyOf Tryd.f42) mixed sp0_ok Tryd.func42 (by kernel_rfl) (by kernel_rfl) fun as_ ob rs h ho => ?_
  unfold g_G_LevelOf_2 at h
  split at h
  · rename_i a b
    cases h
    exact ⟨Nat.le_of_ble_eq_true rfl, _, _, G_LevelOf_2_vc a b _ (ok_some ho)⟩
  · cases h
theorem sp_42_ok {sp : Specs} (h : SpecsOK Tryd.prog sp) : SpecsOK Tryd.prog (sp_42 sp) := addK_ok G_LevelOf_2_ok h
def k_G_ratio_compare : List (Option Cont) := [none, none, none]
def y35 (u27 : Int) (u28 : Int) (u43 : Int) (u44 : Int) : Option Int :=
  if u44 ≥ (0 : Int) then
   if (0 : Int) ≤ u44 ∧ u44 < (↑(13 : Nat) : Int) then
    if Int.toNat u44 < List.length powersT then
     Option.bind (y6 (IntKind.wrap .u64 (u43 * List.getD powersT (Int.toNat u44) (0 : Int))) u28) fun r0 =>
     Option.bind (y6 (1000000000 : Int) u27) fun r1 =>
     Option.bind (y21 [IntKind.wrap .u64 (IntKind.wrap .u64 (IntKind.wrap .u64 (Int.fdiv (IntKind.wrap .u64 (u43 * List.getD powersT (Int.toNat u44) (0 : Int))) ((2 : Int) ^ min (32 : Nat) (IntKind.bits .u64)) * Int.fdiv u28 ((2 : Int) ^ min (32 : Nat) (IntKind.bits .u64))) + Int.fdiv (IntKind.wrap .u64 (IntKind.wrap .u64 (Int.fdiv (IntKind.wrap .u64 (u43 * List.getD powersT (Int.toNat u44) (0 : Int))) ((2 : Int) ^ min (32 : Nat) (IntKind.bits .u64)) * IntKind.wrap .u64 (↑(BitVec.toNat (BitVec.ofInt (IntKind.bits .u64) u28 &&& BitVec.ofInt (IntKind.bits .u64) (4294967295 : Int))) : Int)) + Int.fdiv (IntKind.wrap .u64 (IntKind.wrap .u64 (↑(BitVec.toNat (BitVec.ofInt (IntKind.bits .u64) (IntKind.wrap .u64 (u43 * List.getD powersT (Int.toNat u44) (0 : Int))) &&& BitVec.ofInt (IntKind.bits .u64) (4294967295 : Int))) : Int) * IntKind.wrap .u64 (↑(BitVec.toNat (BitVec.ofInt (IntKind.bits .u64) u28 &&& BitVec.ofInt (IntKind.bits .u64) (4294967295 : Int))) : Int))) ((2 : Int) ^ min (32 : Nat) (IntKind.bits .u64)))) ((2 : Int) ^ min (32 : Nat) (IntKind.bits .u64))) + Int.fdiv (IntKind.wrap .u64 (IntKind.wrap .u64 (↑(BitVec.toNat (BitVec.ofInt (IntKind.bits .u64) (IntKind.wrap .u64 (IntKind.wrap .u64 (Int.fdiv (IntKind.wrap .u64 (u43 * List.getD powersT (Int.toNat u44) (0 : Int))) ((2 : Int) ^ min (32 : Nat) (IntKind.bits .u64)) * IntKind.wrap .u64 (↑(BitVec.toNat (BitVec.ofInt (IntKind.bits .u64) u28 &&& BitVec.ofInt (IntKind.bits .u64) (4294967295 : Int))) : Int)) + Int.fdiv (IntKind.wrap .u64 (IntKind.wrap .u64 (↑(BitVec.toNat (BitVec.ofInt (IntKind.bits .u64) (IntKind.wrap .u64 (u43 * List.getD powersT (Int.toNat u44) (0 : Int))) &&& BitVec.ofInt (IntKind.bits .u64) (4294967295 : Int))) : Int) * IntKind.wrap .u64 (↑(BitVec.toNat (BitVec.ofInt (IntKind.bits .u64) u28 &&& BitVec.ofInt (IntKind.bits .u64) (4294967295 : Int))) : Int))) ((2 : Int) ^ min (32 : Nat) (IntKind.bits .u64)))) &&& BitVec.ofInt (IntKind.bits .u64) (4294967295 : Int))) : Int) + IntKind.wrap .u64 (IntKind.wrap .u64 (↑(BitVec.toNat (BitVec.ofInt (IntKind.bits .u64) (IntKind.wrap .u64 (u43 * List.getD powersT (Int.toNat u44) (0 : Int))) &&& BitVec.ofInt (IntKind.bits .u64) (4294967295 : Int))) : Int) * Int.fdiv u28 ((2 : Int) ^ min (32 : Nat) (IntKind.bits .u64))))) ((2 : Int) ^ min (32 : Nat) (IntKind.bits .u64))), IntKind.wrap .u64 (IntKind.wrap .u64 (u43 * List.getD powersT (Int.toNat u44) (0 : Int)) * u28)] [IntKind.wrap .u64 (IntKind.wrap .u64 (IntKind.wrap .u64 (Int.fdiv (1000000000 : Int) ((2 : Int) ^ min (32 : Nat) (IntKind.bits .u64)) * Int.fdiv u27 ((2 : Int) ^ min (32 : Nat) (IntKind.bits .u64))) + Int.fdiv (IntKind.wrap .u64 (IntKind.wrap .u64 (Int.fdiv (1000000000 : Int) ((2 : Int) ^ min (32 : Nat) (IntKind.bits .u64)) * IntKind.wrap .u64 (↑(BitVec.toNat (BitVec.ofInt (IntKind.bits .u64) u27 &&& BitVec.ofInt (IntKind.bits .u64) (4294967295 : Int))) : Int)) + Int.fdiv (IntKind.wrap .u64 ((1000000000 : Int) * IntKind.wrap .u64 (↑(BitVec.toNat (BitVec.ofInt (IntKind.bits .u64) u27 &&& BitVec.ofInt (IntKind.bits .u64) (4294967295 : Int))) : Int))) ((2 : Int) ^ min (32 : Nat) (IntKind.bits .u64)))) ((2 : Int) ^ min (32 : Nat) (IntKind.bits .u64))) + Int.fdiv (IntKind.wrap .u64 (IntKind.wrap .u64 (↑(BitVec.toNat (BitVec.ofInt (IntKind.bits .u64) (IntKind.wrap .u64 (IntKind.wrap .u64 (Int.fdiv (1000000000 : Int) ((2 : Int) ^ min (32 : Nat) (IntKind.bits .u64)) * IntKind.wrap .u64 (↑(BitVec.toNat (BitVec.ofInt (IntKind.bits .u64) u27 &&& BitVec.ofInt (IntKind.bits .u64) (4294967295 : Int))) : Int)) + Int.fdiv (IntKind.wrap .u64 ((1000000000 : Int) * IntKind.wrap .u64 (↑(BitVec.toNat (BitVec.ofInt (IntKind.bits .u64) u27 &&& BitVec.ofInt (IntKind.bits .u64) (4294967295 : Int))) : Int))) ((2 : Int) ^ min (32 : Nat) (IntKind.bits .u64)))) &&& BitVec.ofInt (IntKind.bits .u64) (4294967295 : Int))) : Int) + IntKind.wrap .u64 ((1000000000 : Int) * Int.fdiv u27 ((2 : Int) ^ min (32 : Nat) (IntKind.bits .u64))))) ((2 : Int) ^ min (32 : Nat) (IntKind.bits .u64))), IntKind.wrap .u64 ((1000000000 : Int) * u27)]) fun r2 =>
     some r2
    else none
   else none
  else
   if (0 : Int) ≤ IntKind.wrap .i64 ((0 : Int) - u44) ∧ IntKind.wrap .i64 ((0 : Int) - u44) < (↑(13 : Nat) : Int) then
    if Int.toNat (IntKind.wrap .i64 ((0 : Int) - u44)) < List.length powersT then
     Option.bind (y6 u43 u28) fun r3 =>
     Option.bind (y6 (IntKind.wrap .u64 ((1000000000 : Int) * List.getD powersT (Int.toNat (IntKind.wrap .i64 ((0 : Int) - u44))) (0 : Int))) u27) fun r4 =>
     Option.bind (y21 [IntKind.wrap .u64 (IntKind.wrap .u64 (IntKind.wrap .u64 (Int.fdiv u43 ((2 : Int) ^ min (32 : Nat) (IntKind.bits .u64)) * Int.fdiv u28 ((2 : Int) ^ min (32 : Nat) (IntKind.bits .u64))) + Int.fdiv (IntKind.wrap .u64 (IntKind.wrap .u64 (Int.fdiv u43 ((2 : Int) ^ min (32 : Nat) (IntKind.bits .u64)) * IntKind.wrap .u64 (↑(BitVec.toNat (BitVec.ofInt (IntKind.bits .u64) u28 &&& BitVec.ofInt (IntKind.bits .u64) (4294967295 : Int))) : Int)) + Int.fdiv (IntKind.wrap .u64 (IntKind.wrap .u64 (↑(BitVec.toNat (BitVec.ofInt (IntKind.bits .u64) u43 &&& BitVec.ofInt (IntKind.bits .u64) (4294967295 : Int))) : Int) * IntKind.wrap .u64 (↑(BitVec.toNat (BitVec.ofInt (IntKind.bits .u64) u28 &&& BitVec.ofInt (IntKind.bits .u64) (4294967295 : Int))) : Int))) ((2 : Int) ^ min (32 : Nat) (IntKind.bits .u64)))) ((2 : Int) ^ min (32 : Nat) (IntKind.bits .u64))) + Int.fdiv (IntKind.wrap .u64 (IntKind.wrap .u64 (↑(BitVec.toNat (BitVec.ofInt (IntKind.bits .u64) (IntKind.wrap .u64 (IntKind.wrap .u64 (Int.fdiv u43 ((2 : Int) ^ min (32 : Nat) (IntKind.bits .u64)) * IntKind.wrap .u64 (↑(BitVec.toNat (BitVec.ofInt (IntKind.bits .u64) u28 &&& BitVec.ofInt (IntKind.bits .u64) (4294967295 : Int))) : Int)) + Int.fdiv (IntKind.wrap .u64 (IntKind.wrap .u64 (↑(BitVec.toNat (BitVec.ofInt (IntKind.bits .u64) u43 &&& BitVec.ofInt (IntKind.bits .u64) (4294967295 : Int))) : Int) * IntKind.wrap .u64 (↑(BitVec.toNat (BitVec.ofInt (IntKind.bits .u64) u28 &&& BitVec.ofInt (IntKind.bits .u64) (4294967295 : Int))) : Int))) ((2 : Int) ^ min (32 : Nat) (IntKind.bits .u64)))) &&& BitVec.ofInt (IntKind.bits .u64) (4294967295 : Int))) : Int) + IntKind.wrap .u64 (IntKind.wrap .u64 (↑(BitVec.toNat (BitVec.ofInt (IntKind.bits .u64) u43 &&& BitVec.ofInt (IntKind.bits .u64) (4294967295 : Int))) : Int) * Int.fdiv u28 ((2 : Int) ^ min (32 : Nat) (IntKind.bits .u64))))) ((2 : Int) ^ min (32 : Nat) (IntKind.bits .u64))), IntKind.wrap .u64 (u43 * u28)] [IntKind.wrap .u64 (IntKind.wrap .u64 (IntKind.wrap .u64 (Int.fdiv (IntKind.wrap .u64 ((1000000000 : Int) * List.getD powersT (Int.toNat (IntKind.wrap .i64 ((0 : Int) - u44))) (0 : Int))) ((2 : Int) ^ min (32 : Nat) (IntKind.bits .u64)) * Int.fdiv u27 ((2 : Int) ^ min (32 : Nat) (IntKind.bits .u64))) + Int.fdiv (IntKind.wrap .u64 (IntKind.wrap .u64 (Int.fdiv (IntKind.wrap .u64 ((1000000000 : Int) * List.getD powersT (Int.toNat (IntKind.wrap .i64 ((0 : Int) - u44))) (0 : Int))) ((2 : Int) ^ min (32 : Nat) (IntKind.bits .u64)) * IntKind.wrap .u64 (↑(BitVec.toNat (BitVec.ofInt (IntKind.bits .u64) u27 &&& BitVec.ofInt (IntKind.bits .u64) (4294967295 : Int))) : Int)) + Int.fdiv (IntKind.wrap .u64 (IntKind.wrap .u64 (↑(BitVec.toNat (BitVec.ofInt (IntKind.bits .u64) (IntKind.wrap .u64 ((1000000000 : Int) * List.getD powersT (Int.toNat (IntKind.wrap .i64 ((0 : Int) - u44))) (0 : Int))) &&& BitVec.ofInt (IntKind.bits .u64) (4294967295 : Int))) : Int) * IntKind.wrap .u64 (↑(BitVec.toNat (BitVec.ofInt (IntKind.bits .u64) u27 &&& BitVec.ofInt (IntKind.bits .u64) (4294967295 : Int))) : Int))) ((2 : Int) ^ min (32 : Nat) (IntKind.bits .u64)))) ((2 : Int) ^ min (32 : Nat) (IntKind.bits .u64))) + Int.fdiv (IntKind.wrap .u64 (IntKind.wrap .u64 (↑(BitVec.toNat (BitVec.ofInt (IntKind.bits .u64) (IntKind.wrap .u64 (IntKind.wrap .u64 (Int.fdiv (IntKind.wrap .u64 ((1000000000 : Int) * List.getD powersT (Int.toNat (IntKind.wrap .i64 ((0 : Int) - u44))) (0 : Int))) ((2 : Int) ^ min (32 : Nat) (IntKind.bits .u64)) * IntKind.wrap .u64 (↑(BitVec.toNat (BitVec.ofInt (IntKind.bits .u64) u27 &&& BitVec.ofInt (IntKind.bits .u64) (4294967295 : Int))) : Int)) + Int.fdiv (IntKind.wrap .u64 (IntKind.wrap .u64 (↑(BitVec.toNat (BitVec.ofInt (IntKind.bits .u64) (IntKind.wrap .u64 ((1000000000 : Int) * List.getD powersT (Int.toNat (IntKind.wrap .i64 ((0 : Int) - u44))) (0 : Int))) &&& BitVec.ofInt (IntKind.bits .u64) (4294967295 : Int))) : Int) * IntKind.wrap .u64 (↑(BitVec.toNat (BitVec.ofInt (IntKind.bits .u64) u27 &&& BitVec.ofInt (IntKind.bits .u64) (4294967295 : Int))) : Int))) ((2 : Int) ^ min (32 : Nat) (IntKind.bits .u64)))) &&& BitVec.ofInt (IntKind.bits .u64) (4294967295 : Int))) : Int) + IntKind.wrap .u64 (IntKind.wrap .u64 (↑(BitVec.toNat (BitVec.ofInt (IntKind.bits .u64) (IntKind.wrap .u64 ((1000000000 : Int) * List.getD powersT (Int.toNat (IntKind.wrap .i64 ((0 : Int) - u44))) (0 : Int))) &&& BitVec.ofInt (IntKind.bits .u64) (4294967295 : Int))) : Int) * Int.fdiv u27 ((2 : Int) ^ min (32 : Nat) (IntKind.bits .u64))))) ((2 : Int) ^ min (32 : Nat) (IntKind.bits .u64))), IntKind.wrap .u64 (IntKind.wrap .u64 ((1000000000 : Int) * List.getD powersT (Int.toNat (IntKind.wrap .i64 ((0 : Int) - u44))) (0 : Int)) * u27)]) fun r5 =>
     some r5
    else none
   else none
def y124 : List A → Option (Prop × List RV)
  | [.s [.i .u64 u27, .i .u64 u28], .d (.i .u64 u43), .d (.i .i64 u44)] => some (ok (y35 u27 u28 u43 u44), [.d (.i .i64 ((val (y35 u27 u28 u43 u44))))])
  | _ => none
abbrev sp_75 : Specs → Specs := addK 75 true (pureK k_G_ratio_compare y124)
set_option maxRecDepth 100000 in
private abbrev ztD20  := ((2 : Int) ^ min (32 : Nat) (IntKind.bits .u64))
private abbrev ztD21 (u28 : Int) := (↑(BitVec.toNat (BitVec.ofInt (IntKind.bits .u64) u28 &&& BitVec.ofInt (IntKind.bits .u64) (4294967295 : Int))) : Int)
private abbrev ztD22 (u27 : Int) := (↑(BitVec.toNat (BitVec.ofInt (IntKind.bits .u64) u27 &&& BitVec.ofInt (IntKind.bits .u64) (4294967295 : Int))) : Int)
private abbrev ztD23 (u44 : Int) := (IntKind.wrap .u64 ((1000000000 : Int) * List.getD powersT (Int.toNat (IntKind.wrap .i64 ((0 : Int) - u44))) (0 : Int)))
private abbrev ztD24 (u28 : Int) (u43 : Int) (u44 : Int) := (IntKind.wrap .u64 (IntKind.wrap .u64 (Int.fdiv (IntKind.wrap .u64 (u43 * List.getD powersT (Int.toNat u44) (0 : Int))) (ztD20) * IntKind.wrap .u64 (ztD21 u28)) + Int.fdiv (IntKind.wrap .u64 (IntKind.wrap .u64 (↑(BitVec.toNat (BitVec.ofInt (IntKind.bits .u64) (IntKind.wrap .u64 (u43 * List.getD powersT (Int.toNat u44) (0 : Int))) &&& BitVec.ofInt (IntKind.bits .u64) (4294967295 : Int))) : Int) * IntKind.wrap .u64 (ztD21 u28))) (ztD20)))
private abbrev ztD25 (u27 : Int) (u44 : Int) := (IntKind.wrap .u64 (IntKind.wrap .u64 (Int.fdiv (ztD23 u44) (ztD20) * IntKind.wrap .u64 (ztD22 u27)) + Int.fdiv (IntKind.wrap .u64 (IntKind.wrap .u64 (↑(BitVec.toNat (BitVec.ofInt (IntKind.bits .u64) (ztD23 u44) &&& BitVec.ofInt (IntKind.bits .u64) (4294967295 : Int))) : Int) * IntKind.wrap .u64 (ztD22 u27))) (ztD20)))
private abbrev ztD26 (u28 : Int) (u43 : Int) := (IntKind.wrap .u64 (IntKind.wrap .u64 (Int.fdiv u43 (ztD20) * IntKind.wrap .u64 (ztD21 u28)) + Int.fdiv (IntKind.wrap .u64 (IntKind.wrap .u64 (↑(BitVec.toNat (BitVec.ofInt (IntKind.bits .u64) u43 &&& BitVec.ofInt (IntKind.bits .u64) (4294967295 : Int))) : Int) * IntKind.wrap .u64 (ztD21 u28))) (ztD20)))
def G_ratio_compare_t (u27 : Int) (u28 : Int) (u43 : Int) (u44 : Int) : T (Int) :=
 .brP (u44 ≥ (0 : Int))
  (.obP ((0 : Int) ≤ u44 ∧ u44 < (↑(13 : Nat) : Int))
  (.obP (Int.toNat u44 < List.length powersT)
  (.call (y6 (IntKind.wrap .u64 (u43 * List.getD powersT (Int.toNat u44) (0 : Int))) u28) fun r0 =>
  .call (y6 (1000000000 : Int) u27) fun r1 =>
  .call (y21 [IntKind.wrap .u64 (IntKind.wrap .u64 (IntKind.wrap .u64 (Int.fdiv (IntKind.wrap .u64 (u43 * List.getD powersT (Int.toNat u44) (0 : Int))) (ztD20) * Int.fdiv u28 (ztD20)) + Int.fdiv (ztD24 u28 u43 u44) (ztD20)) + Int.fdiv (IntKind.wrap .u64 (IntKind.wrap .u64 (↑(BitVec.toNat (BitVec.ofInt (IntKind.bits .u64) (ztD24 u28 u43 u44) &&& BitVec.ofInt (IntKind.bits .u64) (4294967295 : Int))) : Int) + IntKind.wrap .u64 (IntKind.wrap .u64 (↑(BitVec.toNat (BitVec.ofInt (IntKind.bits .u64) (IntKind.wrap .u64 (u43 * List.getD powersT (Int.toNat u44) (0 : Int))) &&& BitVec.ofInt (IntKind.bits .u64) (4294967295 : Int))) : Int) * Int.fdiv u28 (ztD20)))) (ztD20)), IntKind.wrap .u64 (IntKind.wrap .u64 (u43 * List.getD powersT (Int.toNat u44) (0 : Int)) * u28)] [IntKind.wrap .u64 (IntKind.wrap .u64 (IntKind.wrap .u64 (Int.fdiv (1000000000 : Int) (ztD20) * Int.fdiv u27 (ztD20)) + Int.fdiv (IntKind.wrap .u64 (IntKind.wrap .u64 (Int.fdiv (1000000000 : Int) (ztD20) * IntKind.wrap .u64 (ztD22 u27)) + Int.fdiv (IntKind.wrap .u64 ((1000000000 : Int) * IntKind.wrap .u64 (ztD22 u27))) (ztD20))) (ztD20)) + Int.fdiv (IntKind.wrap .u64 (IntKind.wrap .u64 (↑(BitVec.toNat (BitVec.ofInt (IntKind.bits .u64) (IntKind.wrap .u64 (IntKind.wrap .u64 (Int.fdiv (1000000000 : Int) (ztD20) * IntKind.wrap .u64 (ztD22 u27)) + Int.fdiv (IntKind.wrap .u64 ((1000000000 : Int) * IntKind.wrap .u64 (ztD22 u27))) (ztD20))) &&& BitVec.ofInt (IntKind.bits .u64) (4294967295 : Int))) : Int) + IntKind.wrap .u64 ((1000000000 : Int) * Int.fdiv u27 (ztD20)))) (ztD20)), IntKind.wrap .u64 ((1000000000 : Int) * u27)]) fun r2 =>
  .obT
  (.ret (r2) (fun r => (Ob (r2 = r) ∧
 True)) ⟨⟨rfl⟩, trivial⟩))))
  (.obP ((0 : Int) ≤ IntKind.wrap .i64 ((0 : Int) - u44) ∧ IntKind.wrap .i64 ((0 : Int) - u44) < (↑(13 : Nat) : Int))
  (.obP (Int.toNat (IntKind.wrap .i64 ((0 : Int) - u44)) < List.length powersT)
  (.call (y6 u43 u28) fun r3 =>
  .call (y6 (ztD23 u44) u27) fun r4 =>
  .call (y21 [IntKind.wrap .u64 (IntKind.wrap .u64 (IntKind.wrap .u64 (Int.fdiv u43 (ztD20) * Int.fdiv u28 (ztD20)) + Int.fdiv (ztD26 u28 u43) (ztD20)) + Int.fdiv (IntKind.wrap .u64 (IntKind.wrap .u64 (↑(BitVec.toNat (BitVec.ofInt (IntKind.bits .u64) (ztD26 u28 u43) &&& BitVec.ofInt (IntKind.bits .u64) (4294967295 : Int))) : Int) + IntKind.wrap .u64 (IntKind.wrap .u64 (↑(BitVec.toNat (BitVec.ofInt (IntKind.bits .u64) u43 &&& BitVec.ofInt (IntKind.bits .u64) (4294967295 : Int))) : Int) * Int.fdiv u28 (ztD20)))) (ztD20)), IntKind.wrap .u64 (u43 * u28)] [IntKind.wrap .u64 (IntKind.wrap .u64 (IntKind.wrap .u64 (Int.fdiv (ztD23 u44) (ztD20) * Int.fdiv u27 (ztD20)) + Int.fdiv (ztD25 u27 u44) (ztD20)) + Int.fdiv (IntKind.wrap .u64 (IntKind.wrap .u64 (↑(BitVec.toNat (BitVec.ofInt (IntKind.bits .u64) (ztD25 u27 u44) &&& BitVec.ofInt (IntKind.bits .u64) (4294967295 : Int))) : Int) + IntKind.wrap .u64 (IntKind.wrap .u64 (↑(BitVec.toNat (BitVec.ofInt (IntKind.bits .u64) (ztD23 u44) &&& BitVec.ofInt (IntKind.bits .u64) (4294967295 : Int))) : Int) * Int.fdiv u27 (ztD20)))) (ztD20)), IntKind.wrap .u64 (IntKind.wrap .u64 ((1000000000 : Int) * List.getD powersT (Int.toNat (IntKind.wrap .i64 ((0 : Int) - u44))) (0 : Int)) * u27)]) fun r5 =>
  .obT
  (.ret (r5) (fun r => (Ob (r5 = r) ∧
 True)) ⟨⟨rfl⟩, trivial⟩))))
set_option maxRecDepth 100000 in
theorem G_ratio_compare_vc (u27 : Int) (u28 : Int) (u43 : Int) (u44 : Int) (r : Int) (h : Option.bind (y35 u27 u28 u43 u44) some = some r) : runF Tryd.f75 ((sp_88 (sp_90 sp0))) (fun _ _ _ => none) [.s [.i .u64 u27, .i .u64 u28], .d (.i .u64 u43), .d (.i .i64 u44)] [.d (.i .i64 r)] :=
  T.vc (t := G_ratio_compare_t u27 u28 u43 u44) (by kernel_rfl) (by kernel_rfl) h
set_option maxRecDepth 100000 in
theorem G_ratio_compare_ok : SpecOK Tryd.prog 75 true (pureK k_G_ratio_compare y124) := by
  refine pureK_ok (sp := (sp_88 (sp_90 sp0))) (fn := Tryd.f75) (body := bodyOf Tryd.f75) mixed (sp_88_ok (sp_90_ok sp0_ok)) Tryd.func75 (by kernel_rfl) (by kernel_rfl) fun as_ ob rs h ho => ?_
  unfold y124 at h
  split at h
  · rename_i u27 u28 u43 u44
    cases h
    exact ⟨Nat.le_of_ble_eq_true rfl, _, _, G_ratio_compare_vc u27 u28 u43 u44 _ (ok_some ho)⟩
  · cases h
theorem sp_75_ok {sp : Specs} (h : SpecsOK Tryd.prog sp) : SpecsOK Tryd.prog (sp_75 sp) := addK_ok G_ratio_compare_ok h
def k_G_ratio_under : List (Option Cont) := [none, none]
def y71 (u27 : Int) (u28 : Int) (u26 : Int) : Option Bool :=
  Option.bind (G_split u26) fun r0 =>
  if (0 : Int) ≤ Int.tmod (IntKind.wrap .i64 (u26 + (900 : Int))) (10 : Int) ∧ Int.tmod (IntKind.wrap .i64 (u26 + (900 : Int))) (10 : Int) < (↑(10 : Nat) : Int) then
   if Int.toNat (Int.tmod (IntKind.wrap .i64 (u26 + (900 : Int))) (10 : Int)) < List.length tenthsT then
    if Int.tmod (IntKind.wrap .i64 (u26 + (900 : Int))) (10 : Int) > (0 : Int) then
     Option.bind (y35 u27 u28 (IntKind.wrap .u64 (List.getD tenthsT (Int.toNat (Int.tmod (IntKind.wrap .i64 (u26 + (900 : Int))) (10 : Int))) (0 : Int) + (1 : Int))) (IntKind.wrap .i64 (IntKind.wrap .i64 (Int.tdiv (IntKind.wrap .i64 (u26 + (900 : Int))) (10 : Int)) - (90 : Int)))) fun r1 =>
     some (decide (r1 ≤ (0 : Int)))
    else
     Option.bind (y35 u27 u28 (List.getD tenthsT (Int.toNat (Int.tmod (IntKind.wrap .i64 (u26 + (900 : Int))) (10 : Int))) (0 : Int)) (IntKind.wrap .i64 (IntKind.wrap .i64 (Int.tdiv (IntKind.wrap .i64 (u26 + (900 : Int))) (10 : Int)) - (90 : Int)))) fun r2 =>
     some (decide (r2 ≤ (0 : Int)))
   else none
  else none
def y150 : List A → Option (Prop × List RV)
  | [.s [.i .u64 u27, .i .u64 u28], .d (.i .i64 u26)] => some (ok (y71 u27 u28 u26), [.d (.b ((val (y71 u27 u28 u26))))])
  | _ => none
abbrev sp_43 : Specs → Specs := addK 43 true (pureK k_G_ratio_under y150)
set_option maxRecDepth 100000 in
def G_ratio_under_t (u27 : Int) (u28 : Int) (u26 : Int) : T (Bool) :=
 .call (G_split u26) fun r0 =>
  .obP ((0 : Int) ≤ Int.tmod (IntKind.wrap .i64 (u26 + (900 : Int))) (10 : Int) ∧ Int.tmod (IntKind.wrap .i64 (u26 + (900 : Int))) (10 : Int) < (↑(10 : Nat) : Int))
  (.obP (Int.toNat (Int.tmod (IntKind.wrap .i64 (u26 + (900 : Int))) (10 : Int)) < List.length tenthsT)
  (.brP (Int.tmod (IntKind.wrap .i64 (u26 + (900 : Int))) (10 : Int) > (0 : Int))
  (.call (y35 u27 u28 (IntKind.wrap .u64 (List.getD tenthsT (Int.toNat (Int.tmod (IntKind.wrap .i64 (u26 + (900 : Int))) (10 : Int))) (0 : Int) + (1 : Int))) (IntKind.wrap .i64 (IntKind.wrap .i64 (Int.tdiv (IntKind.wrap .i64 (u26 + (900 : Int))) (10 : Int)) - (90 : Int)))) fun r1 =>
  .obT
  (.ret ((decide (r1 ≤ (0 : Int)))) (fun r => (Ob (decide (r1 ≤ (0 : Int)) = r) ∧
 True)) ⟨⟨rfl⟩, trivial⟩))
  (.call (y35 u27 u28 (List.getD tenthsT (Int.toNat (Int.tmod (IntKind.wrap .i64 (u26 + (900 : Int))) (10 : Int))) (0 : Int)) (IntKind.wrap .i64 (IntKind.wrap .i64 (Int.tdiv (IntKind.wrap .i64 (u26 + (900 : Int))) (10 : Int)) - (90 : Int)))) fun r2 =>
  .obT
  (.ret ((decide (r2 ≤ (0 : Int)))) (fun r => (Ob (decide (r2 ≤ (0 : Int)) = r) ∧
 True)) ⟨⟨rfl⟩, trivial⟩))))
set_option maxRecDepth 100000 in
theorem G_ratio_under_vc (u27 : Int) (u28 : Int) (u26 : Int) (r : Bool) (h : Option.bind (y71 u27 u28 u26) some = some r) : runF Tryd.f43 ((sp_74 (sp_75 sp0))) (fun _ _ _ => none) [.s [.i .u64 u27, .i .u64 u28], .d (.i .i64 u26)] [.d (.b r)] :=
  T.vc (t := G_ratio_under_t u27 u28 u26) (by kernel_rfl) (by kernel_rfl) h
set_option maxRecDepth 100000 in
theorem G_ratio_under_ok : SpecOK Tryd.prog 43 true (pureK k_G_ratio_under y150) := by
  refine pureK_ok (sp := (sp_74 (sp_75 sp0))) (fn := Tryd.f43) (body := bodyOf Tryd.f43) mixed (sp_74_ok (sp_75_ok sp0_ok)) Tryd.func43 (by kernel_rfl) (by kernel_rfl) fun as_ ob rs h ho => ?_
  unfold y150 at h
  split at h
  · rename_i u27 u28 u26
    cases h
    exact ⟨Nat.le_of_ble_eq_true rfl, _, _, G_ratio_under_vc u27 u28 u26 _ (ok_some ho)⟩
  · cases h
theorem sp_43_ok {sp : Specs} (h : SpecsOK Tryd.prog sp) : SpecsOK Tryd.prog (sp_43 sp) := addK_ok G_ratio_under_ok h
def k_G_ratio_over : List (Option Cont) := [none, none]
def y78 (u27 : Int) (u28 : Int) (u26 : Int) : Option Bool :=
  Option.bind (G_split u26) fun r0 =>
  if (0 : Int) ≤ Int.tmod (IntKind.wrap .i64 (u26 + (900 : Int))) (10 : Int) ∧ Int.tmod (IntKind.wrap .i64 (u26 + (900 : Int))) (10 : Int) < (↑(10 : Nat) : Int) then
   if Int.toNat (Int.tmod (IntKind.wrap .i64 (u26 + (900 : Int))) (10 : Int)) < List.length tenthsT then
    Option.bind (y35 u27 u28 (List.getD tenthsT (Int.toNat (Int.tmod (IntKind.wrap .i64 (u26 + (900 : Int))) (10 : Int))) (0 : Int)) (IntKind.wrap .i64 (IntKind.wrap .i64 (Int.tdiv (IntKind.wrap .i64 (u26 + (900 : Int))) (10 : Int)) - (90 : Int)))) fun r1 =>
    some (decide (r1 ≥ (0 : Int)))
   else none
  else none
def g_G_ratio_over : List A → Option (Prop × List RV)
  | [.s [.i .u64 u27, .i .u64 u28], .d (.i .i64 u26)] => some (ok (y78 u27 u28 u26), [.d (.b ((val (y78 u27 u28 u26))))])
  | _ => none
abbrev sp_44 : Specs → Specs := addK 44 true (pureK k_G_ratio_over g_G_ratio_over)
set_option maxRecDepth 100000 in
def G_ratio_over_t (u27 : Int) (u28 : Int) (u26 : Int) : T (Bool) :=
 .call (G_split u26) fun r0 =>
  .obP ((0 : Int) ≤ Int.tmod (IntKind.wrap .i64 (u26 + (900 : Int))) (10 : Int) ∧ Int.tmod (IntKind.wrap .i64 (u26 + (900 : Int))) (10 : Int) < (↑(10 : Nat) : Int))
  (.obP (Int.toNat (Int.tmod (IntKind.wrap .i64 (u26 + (900 : Int))) (10 : Int)) < List.length tenthsT)
  (.call (y35 u27 u28 (List.getD tenthsT (Int.toNat (Int.tmod (IntKind.wrap .i64 (u26 + (900 : Int))) (10 : Int))) (0 : Int)) (IntKind.wrap .i64 (IntKind.wrap .i64 (Int.tdiv (IntKind.wrap .i64 (u26 + (900 : Int))) (10 : Int)) - (90 : Int)))) fun r1 =>
  .obT
  (.ret ((decide (r1 ≥ (0 : Int)))) (fun r => (Ob (decide (r1 ≥ (0 : Int)) = r) ∧
 True)) ⟨⟨rfl⟩, trivial⟩)))
set_option maxRecDepth 100000 in
theorem G_ratio_over_vc (u27 : Int) (u28 : Int) (u26 : Int) (r : Bool) (h : Option.bind (y78 u27 u28 u26) some = some r) : runF Tryd.f44 ((sp_74 (sp_75 sp0))) (fun _ _ _ => none) [.s [.i .u64 u27, .i .u64 u28], .d (.i .i64 u26)] [.d (.b r)] :=
  T.vc (t := G_ratio_over_t u27 u28 u26) (by kernel_rfl) (by kernel_rfl) h
set_option maxRecDepth 100000 in
theorem G_ratio_over_ok : SpecOK Tryd.prog 44 true (pureK k_G_ratio_over g_G_ratio_over) := by
  refine pureK_ok (sp := (sp_74 (sp_75 sp0))) (fn := Tryd.f44) (body := bodyOf Tryd.f44) mixed (sp_74_ok (sp_75_ok sp0_ok)) Tryd.func44 (by kernel_rfl) (by kernel_rfl) fun as_ ob rs h ho => ?_
  unfold g_G_ratio_over at h
  split at h
  · rename_i u27 u28 u26
    cases h
    exact ⟨Nat.le_of_ble_eq_true rfl, _, _, G_ratio_over_vc u27 u28 u26 _ (ok_some ho)⟩
  · cases h
theorem sp_44_ok {sp : Specs} (h : SpecsOK Tryd.prog sp) : SpecsOK Tryd.prog (sp_44 sp) := addK_ok G_ratio_over_ok h
def k_G_LevelOf : List (Option Cont) := [none, none]
def y79 (num : Int) (den : Int) (x0 : Int) : Option (Int ⊕ Int) :=
  Option.bind (y71 (IntKind.wrap .u64 num) (IntKind.wrap .u64 den) x0) fun r4 =>
  if (!r4) = true then
   some (.inl (IntKind.wrap .i64 (x0 - (1 : Int))))
  else
   some (.inr x0)
def y80 (num : Int) (den : Int) (x1 : Int) : Option (Int ⊕ Int) :=
  Option.bind (y78 (IntKind.wrap .u64 num) (IntKind.wrap .u64 den) x1) fun r5 =>
  if (!r5) = true then
   some (.inl (IntKind.wrap .i64 (x1 + (1 : Int))))
  else
   some (.inr x1)
def y116 (u17 : Int) (u45 : Int) : Option (Int × Int × Int) :=
  some ((u17, u45, (0 : Int)))
def y97 (num : Int) (den : Int) (u17 : Int) : Option (Int × Int × Int) :=
  Option.bind (iter (y80 num den) big (-90 : Int)) (y116 u17)
def y81 (num : Int) (den : Int) : Option (Int × Int × Int) :=
  Option.bind (y67 num) fun r0 =>
  if (!r0) = true then
   some (((0 : Int), (0 : Int), (2 : Int)))
  else
   Option.bind (y67 den) fun r1 =>
   if (!r1) = true then
    some (((0 : Int), (0 : Int), (2 : Int)))
   else
    Option.bind (y61 num den) fun r2 =>
    if (r2) = true then
     some (((0 : Int), (0 : Int), (8 : Int)))
    else
     Option.bind (y61 den num) fun r3 =>
     if (r3) = true then
      some (((0 : Int), (0 : Int), (8 : Int)))
     else
      Option.bind (iter (y79 num den) big (90 : Int)) (y97 num den)
def g_G_LevelOf : List A → Option (Prop × List RV)
  | [.d (.i .i64 num), .d (.i .i64 den)] => some (ok (y81 num den), [.s [.i .i64 ((val (y81 num den)).1), .i .i64 ((val (y81 num den)).2.1)], .d (.i .i64 ((val (y81 num den)).2.2))])
  | _ => none
abbrev sp_9 : Specs → Specs := addK 9 true (pureK k_G_LevelOf g_G_LevelOf)
set_option maxRecDepth 100000 in
theorem G_LevelOf_vc (num : Int) (den : Int) (r : Int × Int × Int) (h : Option.bind (y81 num den) some = some r) : runF Tryd.f9 ((sp_40 (sp_42 (sp_43 (sp_44 sp0))))) (fun gs id _ => match id with
 | 1 => some ⟨Int × Nat, fun z => ⟨[(4, .w (.c (.p 2 (0 : Nat) 1 (0 : Nat)))), (8, .w (.c (.p 3 (0 : Nat) 1 (0 : Nat)))), (9, .w (.c (.p 4 (0 : Nat) 1 (0 : Nat))))], [(2, .box 24 [.d (.i .i64 (0 : Int)), .d (.i .i64 (0 : Int))]), (3, .box 86 [.d (.i .u64 (IntKind.wrap .u64 num)), .d (.i .u64 (IntKind.wrap .u64 den))]), (4, .box 24 [.d (.i .i64 (Prod.fst z)), .d (.i .i64 (-90 : Int))])], 5⟩, fun z => Option.bind (iter (y79 num den) (Prod.snd z) (Prod.fst z)) (fun y0 => Option.bind (y97 num den y0) some) = some r, fun z => Prod.snd z⟩
 | 3 => some ⟨Int × Int × Nat, fun z => ⟨[(4, .w (.c (.p 2 (0 : Nat) 1 (0 : Nat)))), (8, .w (.c (.p 3 (0 : Nat) 1 (0 : Nat)))), (9, .w (.c (.p 4 (0 : Nat) 1 (0 : Nat))))], [(2, .box 24 [.d (.i .i64 (0 : Int)), .d (.i .i64 (0 : Int))]), (3, .box 86 [.d (.i .u64 (IntKind.wrap .u64 num)), .d (.i .u64 (IntKind.wrap .u64 den))]), (4, .box 24 [.d (.i .i64 (Prod.fst z)), .d (.i .i64 (Prod.fst (Prod.snd z)))])], 5⟩, fun z => Option.bind (iter (y80 num den) (Prod.snd (Prod.snd z)) (Prod.fst (Prod.snd z))) (fun y0 => Option.bind (y116 (Prod.fst z) y0) some) = some r, fun z => Prod.snd (Prod.snd z)⟩
 | _ => none) [.d (.i .i64 num), .d (.i .i64 den)] [.s [.i .i64 r.1, .i .i64 r.2.1], .d (.i .i64 r.2.2)] := by
  refine Eq.mp (by kernel_rfl : (
 (Ob (ok (y67 num)) ∧
 Br (!val (y67 num))
   ((Ob (True) ∧
 (Ob (True) ∧
 (Ob ((0 : Int) = r.1) ∧
 (Ob ((0 : Int) = r.2.1) ∧
 (Ob ((2 : Int) = r.2.2) ∧
 True))))))
   ((Ob (ok (y67 den)) ∧
 Br (!val (y67 den))
   ((Ob (True) ∧
 (Ob (True) ∧
 (Ob ((0 : Int) = r.1) ∧
 (Ob ((0 : Int) = r.2.1) ∧
 (Ob ((2 : Int) = r.2.2) ∧
 True))))))
   ((Ob (ok (y61 num den)) ∧
 Br (val (y61 num den))
   ((Ob (True) ∧
 (Ob (True) ∧
 (Ob ((0 : Int) = r.1) ∧
 (Ob ((0 : Int) = r.2.1) ∧
 (Ob ((8 : Int) = r.2.2) ∧
 True))))))
   ((Ob (ok (y61 den num)) ∧
 Br (val (y61 den num))
   ((Ob (True) ∧
 (Ob (True) ∧
 (Ob ((0 : Int) = r.1) ∧
 (Ob ((0 : Int) = r.2.1) ∧
 (Ob ((8 : Int) = r.2.2) ∧
 True))))))
   ((Ob (True) ∧
 (Ob (True) ∧
   ((∃ (v0 : Int × Nat), (Ob ((Option.bind (iter (y79 num den) v0.2 v0.1) fun y0 => Option.bind (y97 num den y0) some) = some r) ∧
 (Ob ((0 : Nat) = (0 : Nat)) ∧
 (Ob ((0 : Nat) = (0 : Nat)) ∧
 (Ob ((0 : Nat) = (0 : Nat)) ∧
 (Ob ((0 : Int) = (0 : Int)) ∧
 (Ob ((0 : Int) = (0 : Int)) ∧
 (Ob (IntKind.wrap .u64 num = IntKind.wrap .u64 num) ∧
 (Ob (IntKind.wrap .u64 den = IntKind.wrap .u64 den) ∧
 (Ob ((90 : Int) = v0.1) ∧
 (Ob ((-90 : Int) = (-90 : Int)) ∧
 True))))))))))) ∧
   (∀ (v0 : Int × Nat), ((Option.bind (iter (y79 num den) v0.2 v0.1) fun y0 => Option.bind (y97 num den y0) some) = some r →
 (Ob (ok (y71 (IntKind.wrap .u64 num) (IntKind.wrap .u64 den) v0.1)) ∧
 Br (!val (y71 (IntKind.wrap .u64 num) (IntKind.wrap .u64 den) v0.1))
   ((∃ (v1 : Int × Nat), (Ob ((Option.bind (iter (y79 num den) v1.2 v1.1) fun y0 => Option.bind (y97 num den y0) some) = some r) ∧
 (Ob (v1.2 < v0.2) ∧
 (Ob ((0 : Nat) = (0 : Nat)) ∧
 (Ob ((0 : Nat) = (0 : Nat)) ∧
 (Ob ((0 : Nat) = (0 : Nat)) ∧
 (Ob ((0 : Int) = (0 : Int)) ∧
 (Ob ((0 : Int) = (0 : Int)) ∧
 (Ob (IntKind.wrap .u64 num = IntKind.wrap .u64 num) ∧
 (Ob (IntKind.wrap .u64 den = IntKind.wrap .u64 den) ∧
 (Ob (IntKind.wrap .i64 (v0.1 - (1 : Int)) = v1.1) ∧
 (Ob ((-90 : Int) = (-90 : Int)) ∧
 True)))))))))))))
   (((∃ (v1a : Int × Int × Nat), (Ob ((Option.bind (iter (y80 num den) v1a.2.2 v1a.2.1) fun y0 => Option.bind (y116 v1a.1 y0) some) = some r) ∧
 (Ob ((0 : Nat) = (0 : Nat)) ∧
 (Ob ((0 : Nat) = (0 : Nat)) ∧
 (Ob ((0 : Nat) = (0 : Nat)) ∧
 (Ob ((0 : Int) = (0 : Int)) ∧
 (Ob ((0 : Int) = (0 : Int)) ∧
 (Ob (IntKind.wrap .u64 num = IntKind.wrap .u64 num) ∧
 (Ob (IntKind.wrap .u64 den = IntKind.wrap .u64 den) ∧
 (Ob (v0.1 = v1a.1) ∧
 (Ob ((-90 : Int) = v1a.2.1) ∧
 True))))))))))) ∧
   (∀ (v1a : Int × Int × Nat), ((Option.bind (iter (y80 num den) v1a.2.2 v1a.2.1) fun y0 => Option.bind (y116 v1a.1 y0) some) = some r →
 (Ob (ok (y78 (IntKind.wrap .u64 num) (IntKind.wrap .u64 den) v1a.2.1)) ∧
 Br (!val (y78 (IntKind.wrap .u64 num) (IntKind.wrap .u64 den) v1a.2.1))
   ((∃ (v2 : Int × Int × Nat), (Ob ((Option.bind (iter (y80 num den) v2.2.2 v2.2.1) fun y0 => Option.bind (y116 v2.1 y0) some) = some r) ∧
 (Ob (v2.2.2 < v1a.2.2) ∧
 (Ob ((0 : Nat) = (0 : Nat)) ∧
 (Ob ((0 : Nat) = (0 : Nat)) ∧
 (Ob ((0 : Nat) = (0 : Nat)) ∧
 (Ob ((0 : Int) = (0 : Int)) ∧
 (Ob ((0 : Int) = (0 : Int)) ∧
 (Ob (IntKind.wrap .u64 num = IntKind.wrap .u64 num) ∧
 (Ob (IntKind.wrap .u64 den = IntKind.wrap .u64 den) ∧
 (Ob (v1a.1 = v2.1) ∧
 (Ob (IntKind.wrap .i64 (v1a.2.1 + (1 : Int)) = v2.2.1) ∧
 True)))))))))))))
   ((Ob (True) ∧
 (Ob (True) ∧
 (Ob (v1a.1 = r.1) ∧
 (Ob (v1a.2.1 = r.2.1) ∧
 (Ob ((0 : Int) = r.2.2) ∧
 True)))))))))))))))))))))))))) = _) ?_
  refine call_s h fun h => ?_
  refine br_b h (fun h => ?_) (fun h => ?_)
  · refine ob_t ?_
    refine ob_t ?_
    exact ret_s h (fun e => by subst e; exact (by repeat' constructor))
  · refine call_s h fun h => ?_
    refine br_b h (fun h => ?_) (fun h => ?_)
    · refine ob_t ?_
      refine ob_t ?_
      exact ret_s h (fun e => by subst e; exact (by repeat' constructor))
    · refine call_s h fun h => ?_
      refine br_b h (fun h => ?_) (fun h => ?_)
      · refine ob_t ?_
        refine ob_t ?_
        exact ret_s h (fun e => by subst e; exact (by repeat' constructor))
      · refine call_s h fun h => ?_
        refine br_b h (fun h => ?_) (fun h => ?_)
        · refine ob_t ?_
          refine ob_t ?_
          exact ret_s h (fun e => by subst e; exact (by repeat' constructor))
        · refine ob_t ?_
          refine ob_t ?_
          refine ⟨⟨((90 : Int), big), ⟨loop_s h⟩, (by repeat' constructor)⟩, fun z6 hz6 => ?_⟩
          obtain ⟨k6, hm6, h⟩ := iter_pos hz6
          refine call_s h fun h => ?_
          refine br_b h (fun h => ?_) (fun h => ?_)
          · exact ⟨(IntKind.wrap .i64 (Prod.fst z6 - (1 : Int)), k6), ⟨next_s h⟩, ⟨lt_gs hm6.symm⟩, (by repeat' constructor)⟩
          · have h := exit_s h
            refine ⟨⟨(Prod.fst z6, (-90 : Int), big), ⟨loop_s h⟩, (by repeat' constructor)⟩, fun z7 hz7 => ?_⟩
            obtain ⟨k7, hm7, h⟩ := iter_pos hz7
            refine call_s h fun h => ?_
            refine br_b h (fun h => ?_) (fun h => ?_)
            · exact ⟨(Prod.fst z7, IntKind.wrap .i64 (Prod.fst (Prod.snd z7) + (1 : Int)), k7), ⟨next_s h⟩, ⟨lt_gs hm7.symm⟩, (by repeat' constructor)⟩
            · have h := exit_s h
              refine ob_t ?_
              refine ob_t ?_
              exact ret_s h (fun e => by subst e; exact (by repeat' constructor))
set_option maxRecDepth 100000 in
theorem G_LevelOf_ok : SpecOK Tryd.prog 9 true (pureK k_G_LevelOf g_G_LevelOf) := by
  refine pureK_ok (sp := (sp_40 (sp_42 (sp_43 (sp_44 sp0))))) (fn := Tryd.f9) (body := bodyOf Tryd.f9) mixed (sp_40_ok (sp_42_ok (sp_43_ok (sp_44_ok sp0_ok)))) Tryd.func9 (by kernel_rfl) (by kernel_rfl) fun as_ ob rs h ho => ?_
  unfold g_G_LevelOf at h
  split at h
  · rename_i num den
    cases h
    exact ⟨Nat.le_of_ble_eq_true rfl, _, _, G_LevelOf_vc num den _ (ok_some ho)⟩
  · cases h
theorem sp_9_ok {sp : Specs} (h : SpecsOK Tryd.prog sp) : SpecsOK Tryd.prog (sp_9 sp) := addK_ok G_LevelOf_ok h
def k_G_fallen : List (Option Cont) := [none, none, none]
def y68 (sum : Int) (u46 : Int) (u37 : Int) : Option Bool :=
  Option.bind (y6 (IntKind.wrap .u64 sum) (IntKind.wrap .u64 sum)) fun r0 =>
  if (0 : Int) ≤ u37 ∧ u37 < (↑(13 : Nat) : Int) then
   if Int.toNat u37 < List.length powersT then
    Option.bind (y6 (IntKind.wrap .u64 (IntKind.wrap .u64 sum * IntKind.wrap .u64 sum)) (List.getD powersT (Int.toNat u37) (0 : Int))) fun r1 =>
    Option.bind (y6 (IntKind.wrap .u64 u46) (IntKind.wrap .u64 u46)) fun r2 =>
    if (0 : Int) ≤ u37 ∧ u37 < (↑(13 : Nat) : Int) then
     if Int.toNat u37 < List.length powersT then
      Option.bind (y21 [IntKind.wrap .u64 (IntKind.wrap .u64 (IntKind.wrap .u64 (IntKind.wrap .u64 (IntKind.wrap .u64 (Int.fdiv (IntKind.wrap .u64 sum) ((2 : Int) ^ min (32 : Nat) (IntKind.bits .u64)) * Int.fdiv (IntKind.wrap .u64 sum) ((2 : Int) ^ min (32 : Nat) (IntKind.bits .u64))) + Int.fdiv (IntKind.wrap .u64 (IntKind.wrap .u64 (Int.fdiv (IntKind.wrap .u64 sum) ((2 : Int) ^ min (32 : Nat) (IntKind.bits .u64)) * IntKind.wrap .u64 (↑(BitVec.toNat (BitVec.ofInt (IntKind.bits .u64) (IntKind.wrap .u64 sum) &&& BitVec.ofInt (IntKind.bits .u64) (4294967295 : Int))) : Int)) + Int.fdiv (IntKind.wrap .u64 (IntKind.wrap .u64 (↑(BitVec.toNat (BitVec.ofInt (IntKind.bits .u64) (IntKind.wrap .u64 sum) &&& BitVec.ofInt (IntKind.bits .u64) (4294967295 : Int))) : Int) * IntKind.wrap .u64 (↑(BitVec.toNat (BitVec.ofInt (IntKind.bits .u64) (IntKind.wrap .u64 sum) &&& BitVec.ofInt (IntKind.bits .u64) (4294967295 : Int))) : Int))) ((2 : Int) ^ min (32 : Nat) (IntKind.bits .u64)))) ((2 : Int) ^ min (32 : Nat) (IntKind.bits .u64))) + Int.fdiv (IntKind.wrap .u64 (IntKind.wrap .u64 (↑(BitVec.toNat (BitVec.ofInt (IntKind.bits .u64) (IntKind.wrap .u64 (IntKind.wrap .u64 (Int.fdiv (IntKind.wrap .u64 sum) ((2 : Int) ^ min (32 : Nat) (IntKind.bits .u64)) * IntKind.wrap .u64 (↑(BitVec.toNat (BitVec.ofInt (IntKind.bits .u64) (IntKind.wrap .u64 sum) &&& BitVec.ofInt (IntKind.bits .u64) (4294967295 : Int))) : Int)) + Int.fdiv (IntKind.wrap .u64 (IntKind.wrap .u64 (↑(BitVec.toNat (BitVec.ofInt (IntKind.bits .u64) (IntKind.wrap .u64 sum) &&& BitVec.ofInt (IntKind.bits .u64) (4294967295 : Int))) : Int) * IntKind.wrap .u64 (↑(BitVec.toNat (BitVec.ofInt (IntKind.bits .u64) (IntKind.wrap .u64 sum) &&& BitVec.ofInt (IntKind.bits .u64) (4294967295 : Int))) : Int))) ((2 : Int) ^ min (32 : Nat) (IntKind.bits .u64)))) &&& BitVec.ofInt (IntKind.bits .u64) (4294967295 : Int))) : Int) + IntKind.wrap .u64 (IntKind.wrap .u64 (↑(BitVec.toNat (BitVec.ofInt (IntKind.bits .u64) (IntKind.wrap .u64 sum) &&& BitVec.ofInt (IntKind.bits .u64) (4294967295 : Int))) : Int) * Int.fdiv (IntKind.wrap .u64 sum) ((2 : Int) ^ min (32 : Nat) (IntKind.bits .u64))))) ((2 : Int) ^ min (32 : Nat) (IntKind.bits .u64))) * List.getD powersT (Int.toNat u37) (0 : Int)) + IntKind.wrap .u64 (IntKind.wrap .u64 (IntKind.wrap .u64 (Int.fdiv (IntKind.wrap .u64 (IntKind.wrap .u64 sum * IntKind.wrap .u64 sum)) ((2 : Int) ^ min (32 : Nat) (IntKind.bits .u64)) * Int.fdiv (List.getD powersT (Int.toNat u37) (0 : Int)) ((2 : Int) ^ min (32 : Nat) (IntKind.bits .u64))) + Int.fdiv (IntKind.wrap .u64 (IntKind.wrap .u64 (Int.fdiv (IntKind.wrap .u64 (IntKind.wrap .u64 sum * IntKind.wrap .u64 sum)) ((2 : Int) ^ min (32 : Nat) (IntKind.bits .u64)) * IntKind.wrap .u64 (↑(BitVec.toNat (BitVec.ofInt (IntKind.bits .u64) (List.getD powersT (Int.toNat u37) (0 : Int)) &&& BitVec.ofInt (IntKind.bits .u64) (4294967295 : Int))) : Int)) + Int.fdiv (IntKind.wrap .u64 (IntKind.wrap .u64 (↑(BitVec.toNat (BitVec.ofInt (IntKind.bits .u64) (IntKind.wrap .u64 (IntKind.wrap .u64 sum * IntKind.wrap .u64 sum)) &&& BitVec.ofInt (IntKind.bits .u64) (4294967295 : Int))) : Int) * IntKind.wrap .u64 (↑(BitVec.toNat (BitVec.ofInt (IntKind.bits .u64) (List.getD powersT (Int.toNat u37) (0 : Int)) &&& BitVec.ofInt (IntKind.bits .u64) (4294967295 : Int))) : Int))) ((2 : Int) ^ min (32 : Nat) (IntKind.bits .u64)))) ((2 : Int) ^ min (32 : Nat) (IntKind.bits .u64))) + Int.fdiv (IntKind.wrap .u64 (IntKind.wrap .u64 (↑(BitVec.toNat (BitVec.ofInt (IntKind.bits .u64) (IntKind.wrap .u64 (IntKind.wrap .u64 (Int.fdiv (IntKind.wrap .u64 (IntKind.wrap .u64 sum * IntKind.wrap .u64 sum)) ((2 : Int) ^ min (32 : Nat) (IntKind.bits .u64)) * IntKind.wrap .u64 (↑(BitVec.toNat (BitVec.ofInt (IntKind.bits .u64) (List.getD powersT (Int.toNat u37) (0 : Int)) &&& BitVec.ofInt (IntKind.bits .u64) (4294967295 : Int))) : Int)) + Int.fdiv (IntKind.wrap .u64 (IntKind.wrap .u64 (↑(BitVec.toNat (BitVec.ofInt (IntKind.bits .u64) (IntKind.wrap .u64 (IntKind.wrap .u64 sum * IntKind.wrap .u64 sum)) &&& BitVec.ofInt (IntKind.bits .u64) (4294967295 : Int))) : Int) * IntKind.wrap .u64 (↑(BitVec.toNat (BitVec.ofInt (IntKind.bits .u64) (List.getD powersT (Int.toNat u37) (0 : Int)) &&& BitVec.ofInt (IntKind.bits .u64) (4294967295 : Int))) : Int))) ((2 : Int) ^ min (32 : Nat) (IntKind.bits .u64)))) &&& BitVec.ofInt (IntKind.bits .u64) (4294967295 : Int))) : Int) + IntKind.wrap .u64 (IntKind.wrap .u64 (↑(BitVec.toNat (BitVec.ofInt (IntKind.bits .u64) (IntKind.wrap .u64 (IntKind.wrap .u64 sum * IntKind.wrap .u64 sum)) &&& BitVec.ofInt (IntKind.bits .u64) (4294967295 : Int))) : Int) * Int.fdiv (List.getD powersT (Int.toNat u37) (0 : Int)) ((2 : Int) ^ min (32 : Nat) (IntKind.bits .u64))))) ((2 : Int) ^ min (32 : Nat) (IntKind.bits .u64)))), IntKind.wrap .u64 (IntKind.wrap .u64 (IntKind.wrap .u64 sum * IntKind.wrap .u64 sum) * List.getD powersT (Int.toNat u37) (0 : Int))] [IntKind.wrap .u64 (IntKind.wrap .u64 (IntKind.wrap .u64 (Int.fdiv (IntKind.wrap .u64 u46) ((2 : Int) ^ min (32 : Nat) (IntKind.bits .u64)) * Int.fdiv (IntKind.wrap .u64 u46) ((2 : Int) ^ min (32 : Nat) (IntKind.bits .u64))) + Int.fdiv (IntKind.wrap .u64 (IntKind.wrap .u64 (Int.fdiv (IntKind.wrap .u64 u46) ((2 : Int) ^ min (32 : Nat) (IntKind.bits .u64)) * IntKind.wrap .u64 (↑(BitVec.toNat (BitVec.ofInt (IntKind.bits .u64) (IntKind.wrap .u64 u46) &&& BitVec.ofInt (IntKind.bits .u64) (4294967295 : Int))) : Int)) + Int.fdiv (IntKind.wrap .u64 (IntKind.wrap .u64 (↑(BitVec.toNat (BitVec.ofInt (IntKind.bits .u64) (IntKind.wrap .u64 u46) &&& BitVec.ofInt (IntKind.bits .u64) (4294967295 : Int))) : Int) * IntKind.wrap .u64 (↑(BitVec.toNat (BitVec.ofInt (IntKind.bits .u64) (IntKind.wrap .u64 u46) &&& BitVec.ofInt (IntKind.bits .u64) (4294967295 : Int))) : Int))) ((2 : Int) ^ min (32 : Nat) (IntKind.bits .u64)))) ((2 : Int) ^ min (32 : Nat) (IntKind.bits .u64))) + Int.fdiv (IntKind.wrap .u64 (IntKind.wrap .u64 (↑(BitVec.toNat (BitVec.ofInt (IntKind.bits .u64) (IntKind.wrap .u64 (IntKind.wrap .u64 (Int.fdiv (IntKind.wrap .u64 u46) ((2 : Int) ^ min (32 : Nat) (IntKind.bits .u64)) * IntKind.wrap .u64 (↑(BitVec.toNat (BitVec.ofInt (IntKind.bits .u64) (IntKind.wrap .u64 u46) &&& BitVec.ofInt (IntKind.bits .u64) (4294967295 : Int))) : Int)) + Int.fdiv (IntKind.wrap .u64 (IntKind.wrap .u64 (↑(BitVec.toNat (BitVec.ofInt (IntKind.bits .u64) (IntKind.wrap .u64 u46) &&& BitVec.ofInt (IntKind.bits .u64) (4294967295 : Int))) : Int) * IntKind.wrap .u64 (↑(BitVec.toNat (BitVec.ofInt (IntKind.bits .u64) (IntKind.wrap .u64 u46) &&& BitVec.ofInt (IntKind.bits .u64) (4294967295 : Int))) : Int))) ((2 : Int) ^ min (32 : Nat) (IntKind.bits .u64)))) &&& BitVec.ofInt (IntKind.bits .u64) (4294967295 : Int))) : Int) + IntKind.wrap .u64 (IntKind.wrap .u64 (↑(BitVec.toNat (BitVec.ofInt (IntKind.bits .u64) (IntKind.wrap .u64 u46) &&& BitVec.ofInt (IntKind.bits .u64) (4294967295 : Int))) : Int) * Int.fdiv (IntKind.wrap .u64 u46) ((2 : Int) ^ min (32 : Nat) (IntKind.bits .u64))))) ((2 : Int) ^ min (32 : Nat) (IntKind.bits .u64))), IntKind.wrap .u64 (IntKind.wrap .u64 u46 * IntKind.wrap .u64 u46)]) fun r3 =>
      some (decide (r3 ≤ (0 : Int)))
     else none
    else none
   else none
  else none
def g_G_fallen : List A → Option (Prop × List RV)
  | [.d (.i .i64 sum), .d (.i .i64 u46), .d (.i .i64 u37)] => some (ok (y68 sum u46 u37), [.d (.b ((val (y68 sum u46 u37))))])
  | _ => none
abbrev sp_64 : Specs → Specs := addK 64 true (pureK k_G_fallen g_G_fallen)
set_option maxRecDepth 100000 in
private abbrev ztD27  := ((2 : Int) ^ min (32 : Nat) (IntKind.bits .u64))
private abbrev ztD28 (sum : Int) := (↑(BitVec.toNat (BitVec.ofInt (IntKind.bits .u64) (IntKind.wrap .u64 sum) &&& BitVec.ofInt (IntKind.bits .u64) (4294967295 : Int))) : Int)
private abbrev ztD29 (u46 : Int) := (↑(BitVec.toNat (BitVec.ofInt (IntKind.bits .u64) (IntKind.wrap .u64 u46) &&& BitVec.ofInt (IntKind.bits .u64) (4294967295 : Int))) : Int)
private abbrev ztD210 (sum : Int) (u37 : Int) := (IntKind.wrap .u64 (IntKind.wrap .u64 (Int.fdiv (IntKind.wrap .u64 (IntKind.wrap .u64 sum * IntKind.wrap .u64 sum)) (ztD27) * IntKind.wrap .u64 (↑(BitVec.toNat (BitVec.ofInt (IntKind.bits .u64) (List.getD powersT (Int.toNat u37) (0 : Int)) &&& BitVec.ofInt (IntKind.bits .u64) (4294967295 : Int))) : Int)) + Int.fdiv (IntKind.wrap .u64 (IntKind.wrap .u64 (↑(BitVec.toNat (BitVec.ofInt (IntKind.bits .u64) (IntKind.wrap .u64 (IntKind.wrap .u64 sum * IntKind.wrap .u64 sum)) &&& BitVec.ofInt (IntKind.bits .u64) (4294967295 : Int))) : Int) * IntKind.wrap .u64 (↑(BitVec.toNat (BitVec.ofInt (IntKind.bits .u64) (List.getD powersT (Int.toNat u37) (0 : Int)) &&& BitVec.ofInt (IntKind.bits .u64) (4294967295 : Int))) : Int))) (ztD27)))
private abbrev ztD211 (u46 : Int) := (IntKind.wrap .u64 (IntKind.wrap .u64 (Int.fdiv (IntKind.wrap .u64 u46) (ztD27) * IntKind.wrap .u64 (ztD29 u46)) + Int.fdiv (IntKind.wrap .u64 (IntKind.wrap .u64 (ztD29 u46) * IntKind.wrap .u64 (ztD29 u46))) (ztD27)))
private abbrev ztD212 (sum : Int) := (IntKind.wrap .u64 (IntKind.wrap .u64 (Int.fdiv (IntKind.wrap .u64 sum) (ztD27) * IntKind.wrap .u64 (ztD28 sum)) + Int.fdiv (IntKind.wrap .u64 (IntKind.wrap .u64 (ztD28 sum) * IntKind.wrap .u64 (ztD28 sum))) (ztD27)))
def G_fallen_t (sum : Int) (u46 : Int) (u37 : Int) : T (Bool) :=
 .obT
  (.obT
  (.call (y6 (IntKind.wrap .u64 sum) (IntKind.wrap .u64 sum)) fun r0 =>
  .obP ((0 : Int) ≤ u37 ∧ u37 < (↑(13 : Nat) : Int))
  (.obP (Int.toNat u37 < List.length powersT)
  (.call (y6 (IntKind.wrap .u64 (IntKind.wrap .u64 sum * IntKind.wrap .u64 sum)) (List.getD powersT (Int.toNat u37) (0 : Int))) fun r1 =>
  .obT
  (.obT
  (.call (y6 (IntKind.wrap .u64 u46) (IntKind.wrap .u64 u46)) fun r2 =>
  .obP ((0 : Int) ≤ u37 ∧ u37 < (↑(13 : Nat) : Int))
  (.obP (Int.toNat u37 < List.length powersT)
  (.call (y21 [IntKind.wrap .u64 (IntKind.wrap .u64 (IntKind.wrap .u64 (IntKind.wrap .u64 (IntKind.wrap .u64 (Int.fdiv (IntKind.wrap .u64 sum) (ztD27) * Int.fdiv (IntKind.wrap .u64 sum) (ztD27)) + Int.fdiv (ztD212 sum) (ztD27)) + Int.fdiv (IntKind.wrap .u64 (IntKind.wrap .u64 (↑(BitVec.toNat (BitVec.ofInt (IntKind.bits .u64) (ztD212 sum) &&& BitVec.ofInt (IntKind.bits .u64) (4294967295 : Int))) : Int) + IntKind.wrap .u64 (IntKind.wrap .u64 (ztD28 sum) * Int.fdiv (IntKind.wrap .u64 sum) (ztD27)))) (ztD27)) * List.getD powersT (Int.toNat u37) (0 : Int)) + IntKind.wrap .u64 (IntKind.wrap .u64 (IntKind.wrap .u64 (Int.fdiv (IntKind.wrap .u64 (IntKind.wrap .u64 sum * IntKind.wrap .u64 sum)) (ztD27) * Int.fdiv (List.getD powersT (Int.toNat u37) (0 : Int)) (ztD27)) + Int.fdiv (ztD210 sum u37) (ztD27)) + Int.fdiv (IntKind.wrap .u64 (IntKind.wrap .u64 (↑(BitVec.toNat (BitVec.ofInt (IntKind.bits .u64) (ztD210 sum u37) &&& BitVec.ofInt (IntKind.bits .u64) (4294967295 : Int))) : Int) + IntKind.wrap .u64 (IntKind.wrap .u64 (↑(BitVec.toNat (BitVec.ofInt (IntKind.bits .u64) (IntKind.wrap .u64 (IntKind.wrap .u64 sum * IntKind.wrap .u64 sum)) &&& BitVec.ofInt (IntKind.bits .u64) (4294967295 : Int))) : Int) * Int.fdiv (List.getD powersT (Int.toNat u37) (0 : Int)) (ztD27)))) (ztD27))), IntKind.wrap .u64 (IntKind.wrap .u64 (IntKind.wrap .u64 sum * IntKind.wrap .u64 sum) * List.getD powersT (Int.toNat u37) (0 : Int))] [IntKind.wrap .u64 (IntKind.wrap .u64 (IntKind.wrap .u64 (Int.fdiv (IntKind.wrap .u64 u46) (ztD27) * Int.fdiv (IntKind.wrap .u64 u46) (ztD27)) + Int.fdiv (ztD211 u46) (ztD27)) + Int.fdiv (IntKind.wrap .u64 (IntKind.wrap .u64 (↑(BitVec.toNat (BitVec.ofInt (IntKind.bits .u64) (ztD211 u46) &&& BitVec.ofInt (IntKind.bits .u64) (4294967295 : Int))) : Int) + IntKind.wrap .u64 (IntKind.wrap .u64 (ztD29 u46) * Int.fdiv (IntKind.wrap .u64 u46) (ztD27)))) (ztD27)), IntKind.wrap .u64 (IntKind.wrap .u64 u46 * IntKind.wrap .u64 u46)]) fun r3 =>
  .obT
  (.ret ((decide (r3 ≤ (0 : Int)))) (fun r => (Ob (decide (r3 ≤ (0 : Int)) = r) ∧
 True)) ⟨⟨rfl⟩, trivial⟩)))))))))
set_option maxRecDepth 100000 in
theorem G_fallen_vc (sum : Int) (u46 : Int) (u37 : Int) (r : Bool) (h : Option.bind (y68 sum u46 u37) some = some r) : runF Tryd.f64 ((sp_88 (sp_90 sp0))) (fun _ _ _ => none) [.d (.i .i64 sum), .d (.i .i64 u46), .d (.i .i64 u37)] [.d (.b r)] :=
  T.vc (t := G_fallen_t sum u46 u37) (by kernel_rfl) (by kernel_rfl) h
set_option maxRecDepth 100000 in
theorem G_fallen_ok : SpecOK Tryd.prog 64 true (pureK k_G_fallen g_G_fallen) := by
  refine pureK_ok (sp := (sp_88 (sp_90 sp0))) (fn := Tryd.f64) (body := bodyOf Tryd.f64) mixed (sp_88_ok (sp_90_ok sp0_ok)) Tryd.func64 (by kernel_rfl) (by kernel_rfl) fun as_ ob rs h ho => ?_
  unfold g_G_fallen at h
  split at h
  · rename_i sum u46 u37
    cases h
    exact ⟨Nat.le_of_ble_eq_true rfl, _, _, G_fallen_vc sum u46 u37 _ (ok_some ho)⟩
  · cases h
theorem sp_64_ok {sp : Specs} (h : SpecsOK Tryd.prog sp) : SpecsOK Tryd.prog (sp_64 sp) := addK_ok G_fallen_ok h
end Go.Sh
end

section
namespace Go.Sh
open Go Go.Proofs Go.RowKit Go.Sx
end Go.Sh
end

section
namespace Go.Sh
open Go Go.Proofs Go.RowKit Go.Sx
set_option linter.unusedVariables false
def y139 : List SV := [.a [.d, .r (.floats .f32 [])]]
def y4 (u16 : Int) (u15 : List Nat) : Option (Int × List Nat) :=
  if ((0 : Nat) + List.length u15) * (4 : Nat) ≤ (140737488355328 : Nat) ∧ (0 : Nat) + List.length u15 ≤ (9223372036854775807 : Nat) then
   some (u16, [] ++ u15)
  else none
def y140 : List Lf → Option GT
  | [.d (.i .i64 u16), .r (.floats .f32 u15)] => some (.leaf (ok (y4 u16 u15)) [.s [.d (.i .i64 ((val (y4 u16 u15)).1)), .row 54 (.floats .f32 ((val (y4 u16 u15)).2))]])
  | _ => none
abbrev sp_14 : Specs → Specs := addK 14 true (pureT y139 y140)
set_option maxRecDepth 100000 in
theorem B_CopyResponse_vc (u16 : Int) (u15 : List Nat) (r : Int × List Nat) (h : Option.bind (y4 u16 u15) some = some r) : runT Tryd.f14 (sp0) (fun _ _ _ => none) (bldD y139 [.d (.i .i64 u16), .r (.floats .f32 u15)]) [.s [.d (.i .i64 r.1), .row 54 (.floats .f32 r.2)]] := by
  refine Eq.mp (by kernel_rfl : (
 (Ob (((0 : Nat) + List.length u15) * (4 : Nat) ≤ (140737488355328 : Nat) ∧ (0 : Nat) + List.length u15 ≤ (9223372036854775807 : Nat)) ∧
 (Ob (True) ∧
 (Ob (u16 = r.1) ∧
 (Ob ([] ++ u15 = r.2) ∧
 True))))) = _) ?_
  refine ob_s h fun h => ?_
  refine ob_t ?_
  exact ret_s h (fun e => by subst e; exact (by repeat' constructor))
set_option maxRecDepth 100000 in
theorem B_CopyResponse_ok : SpecOK Tryd.prog 14 true (pureT y139 y140) := by
  refine pureT_ok (sp := sp0) (fn := Tryd.f14) (body := bodyOf Tryd.f14) mixed sp0_ok Tryd.func14 (by kernel_rfl) (by kernel_rfl) fun ls t h ho b hb => ?_
  unfold y140 at h
  split at h
  · rename_i u16 u15
    cases h
    obtain rfl := bld_eq hb
    exact ⟨Nat.le_of_ble_eq_true (by kernel_rfl), _, _, B_CopyResponse_vc u16 u15 _ (ok_some ho)⟩
  · cases h
theorem sp_14_ok {sp : Specs} (h : SpecsOK Tryd.prog sp) : SpecsOK Tryd.prog (sp_14 sp) := addK_ok B_CopyResponse_ok h
end Go.Sh
end

section
namespace Go.Sh
open Go Go.Proofs Go.RowKit Go.Sx
set_option linter.unusedVariables false
def k_B_Within : List (Option Cont) := [none, none, none]
def y38 (n : Int) (lo : Int) (hi : Int) : Option Bool :=
  if lo ≤ n then
   some (decide (n ≤ hi))
  else
   some false
def g_B_Within : List A → Option (Prop × List RV)
  | [.d (.i .i64 n), .d (.i .i64 lo), .d (.i .i64 hi)] => some (ok (y38 n lo hi), [.d (.b ((val (y38 n lo hi))))])
  | _ => none
abbrev sp_11 : Specs → Specs := addK 11 true (pureK k_B_Within g_B_Within)
set_option maxRecDepth 100000 in
theorem B_Within_vc (n : Int) (lo : Int) (hi : Int) (r : Bool) (h : Option.bind (y38 n lo hi) some = some r) : runF Tryd.f11 (sp0) (fun _ _ _ => none) [.d (.i .i64 n), .d (.i .i64 lo), .d (.i .i64 hi)] [.d (.b r)] := by
  refine Eq.mp (by kernel_rfl : (
 Br (decide (lo ≤ n))
   ((Ob (True) ∧
 (Ob (decide (n ≤ hi) = r) ∧
 True)))
   ((Ob (True) ∧
 (Ob (false = r) ∧
 True)))) = _) ?_
  refine br_d h (fun h => ?_) (fun h => ?_)
  · refine ob_t ?_
    exact ret_s h (fun e => by subst e; exact (by repeat' constructor))
  · refine ob_t ?_
    exact ret_s h (fun e => by subst e; exact (by repeat' constructor))
set_option maxRecDepth 100000 in
theorem B_Within_ok : SpecOK Tryd.prog 11 true (pureK k_B_Within g_B_Within) := by
  refine pureK_ok (sp := sp0) (fn := Tryd.f11) (body := bodyOf Tryd.f11) mixed sp0_ok Tryd.func11 (by kernel_rfl) (by kernel_rfl) fun as_ ob rs h ho => ?_
  unfold g_B_Within at h
  split at h
  · rename_i n lo hi
    cases h
    exact ⟨Nat.le_of_ble_eq_true rfl, _, _, B_Within_vc n lo hi _ (ok_some ho)⟩
  · cases h
theorem sp_11_ok {sp : Specs} (h : SpecsOK Tryd.prog sp) : SpecsOK Tryd.prog (sp_11 sp) := addK_ok B_Within_ok h
def k_B_Ints : List (Option Cont) := [some (.ints .i64 []), some (.ints .i64 [])]
def B_Ints_b0 (a : List Int) (b : List Int) (x0 : Int) : Option (Int ⊕ (Unit ⊕ Unit)) :=
  if x0 < (↑(List.length a) : Int) then
   if (0 : Int) ≤ x0 ∧ x0 < (↑(List.length a) : Int) then
    if Int.toNat x0 < List.length a then
     if (0 : Int) ≤ x0 ∧ x0 < (↑(List.length b) : Int) then
      if Int.toNat x0 < List.length b then
       if (List.getD a (Int.toNat x0) (0 : Int) != List.getD b (Int.toNat x0) (0 : Int)) = true then
        some (.inr ((.inl ())))
       else
        some (.inl (IntKind.wrap .i64 (x0 + (1 : Int))))
      else none
     else none
    else none
   else none
  else
   some (.inr ((.inr ())))
def B_Ints_r0_0 (u17 : Unit) : Option Bool :=
  some false
def B_Ints_r0_1 (u25 : Unit) : Option Bool :=
  some true
def B_Ints_r0 : (Unit ⊕ Unit) → Option Bool :=
  (Sum.elim (B_Ints_r0_0) (B_Ints_r0_1))
def B_Ints (a : List Int) (b : List Int) : Option Bool :=
  if ((↑(List.length a) : Int) != (↑(List.length b) : Int)) = true then
   some false
  else
   Option.bind (iter (B_Ints_b0 a b) big (0 : Int)) (B_Ints_r0)
def g_B_Ints : List A → Option (Prop × List RV)
  | [.r (.ints .i64 a), .r (.ints .i64 b)] => some (ok (B_Ints a b), [.d (.b ((val (B_Ints a b))))])
  | _ => none
abbrev sp_38 : Specs → Specs := addK 38 true (pureK k_B_Ints g_B_Ints)
set_option maxRecDepth 100000 in
theorem B_Ints_vc (a : List Int) (b : List Int) (r : Bool) (h : Option.bind (B_Ints a b) some = some r) : runF Tryd.f38 (sp0) (fun gs id _ => match id with
 | 0 => some ⟨Int × Nat, fun z => ⟨[(0, .w (.c (.o 0))), (1, .w (.c (.o 1))), (5, .w (.c (.d (.i .i64 (Prod.fst z)))))], [(0, .ext (.ints .i64 a)), (1, .ext (.ints .i64 b))], 2⟩, fun z => Option.bind (iter (B_Ints_b0 a b) (Prod.snd z) (Prod.fst z)) (fun y0 => Option.bind (B_Ints_r0 y0) some) = some r, fun z => Prod.snd z⟩
 | _ => none) [.r (.ints .i64 a), .r (.ints .i64 b)] [.d (.b r)] := by
  refine Eq.mp (by kernel_rfl : (
 Br ((↑(List.length a) : Int) != (↑(List.length b) : Int))
   ((Ob (True) ∧
 (Ob (false = r) ∧
 True)))
   (((∃ (v0 : Int × Nat), (Ob ((Option.bind (iter (B_Ints_b0 a b) v0.2 v0.1) fun y0 => Option.bind (B_Ints_r0 y0) some) = some r) ∧
 (Ob ((0 : Int) = v0.1) ∧
 (Ob (a = a) ∧
 (Ob (b = b) ∧
 True))))) ∧
   (∀ (v0 : Int × Nat), ((Option.bind (iter (B_Ints_b0 a b) v0.2 v0.1) fun y0 => Option.bind (B_Ints_r0 y0) some) = some r →
 Br (decide (v0.1 < (↑(List.length a) : Int)))
   ((Ob ((0 : Int) ≤ v0.1 ∧ v0.1 < (↑(List.length a) : Int)) ∧
 (Ob (Int.toNat v0.1 < List.length a) ∧
 (Ob ((0 : Int) ≤ v0.1 ∧ v0.1 < (↑(List.length b) : Int)) ∧
 (Ob (Int.toNat v0.1 < List.length b) ∧
 Br (List.getD a (Int.toNat v0.1) (0 : Int) != List.getD b (Int.toNat v0.1) (0 : Int))
   ((Ob (True) ∧
 (Ob (false = r) ∧
 True)))
   ((∃ (v1 : Int × Nat), (Ob ((Option.bind (iter (B_Ints_b0 a b) v1.2 v1.1) fun y0 => Option.bind (B_Ints_r0 y0) some) = some r) ∧
 (Ob (v1.2 < v0.2) ∧
 (Ob (IntKind.wrap .i64 (v0.1 + (1 : Int)) = v1.1) ∧
 (Ob (a = a) ∧
 (Ob (b = b) ∧
 True))))))))))))
   ((Ob (True) ∧
 (Ob (true = r) ∧
 True)))))))) = _) ?_
  refine br_b h (fun h => ?_) (fun h => ?_)
  · refine ob_t ?_
    exact ret_s h (fun e => by subst e; exact (by repeat' constructor))
  · refine ⟨⟨((0 : Int), big), ⟨loop_s h⟩, (by repeat' constructor)⟩, fun z0 hz0 => ?_⟩
    obtain ⟨k0, hm0, h⟩ := iter_pos hz0
    refine br_d h (fun h => ?_) (fun h => ?_)
    · refine ob_s h fun h => ?_
      refine ob_s h fun h => ?_
      refine ob_s h fun h => ?_
      refine ob_s h fun h => ?_
      refine br_b h (fun h => ?_) (fun h => ?_)
      · have h := exit_s h
        refine ob_t ?_
        exact ret_s h (fun e => by subst e; exact (by repeat' constructor))
      · exact ⟨(IntKind.wrap .i64 (Prod.fst z0 + (1 : Int)), k0), ⟨next_s h⟩, ⟨lt_gs hm0.symm⟩, (by repeat' constructor)⟩
    · have h := exit_s h
      refine ob_t ?_
      exact ret_s h (fun e => by subst e; exact (by repeat' constructor))
set_option maxRecDepth 100000 in
theorem B_Ints_ok : SpecOK Tryd.prog 38 true (pureK k_B_Ints g_B_Ints) := by
  refine pureK_ok (sp := sp0) (fn := Tryd.f38) (body := bodyOf Tryd.f38) mixed sp0_ok Tryd.func38 (by kernel_rfl) (by kernel_rfl) fun as_ ob rs h ho => ?_
  unfold g_B_Ints at h
  split at h
  · rename_i a b
    cases h
    exact ⟨Nat.le_of_ble_eq_true rfl, _, _, B_Ints_vc a b _ (ok_some ho)⟩
  · cases h
theorem sp_38_ok {sp : Specs} (h : SpecsOK Tryd.prog sp) : SpecsOK Tryd.prog (sp_38 sp) := addK_ok B_Ints_ok h
def k_B_IsWhole : List SV := [.c (.d)]
def y82 (f : Nat) : Option Bool :=
  if (Ieee.Format.order (FloatKind.format .f64) f f != some Ordering.eq) = true then
   some false
  else
   if (Option.isSome (Ieee.Format.sub (FloatKind.format .f64) f f)) = true then
    if (Ieee.Format.order (FloatKind.format .f64) (Option.getD (Ieee.Format.sub (FloatKind.format .f64) f f) (0 : Nat)) (0 : Nat) != some Ordering.eq) = true then
     some false
    else
     if (Ieee.Format.order (FloatKind.format .f64) f (14069741636278059008 : Nat) == some Ordering.gt || Ieee.Format.order (FloatKind.format .f64) f (14069741636278059008 : Nat) == some Ordering.eq) = true then
      if (!(Ieee.Format.order (FloatKind.format .f64) f (4846369599423283200 : Nat) == some Ordering.lt || Ieee.Format.order (FloatKind.format .f64) f (4846369599423283200 : Nat) == some Ordering.eq)) = true then
       some true
      else
       if f2iOk .f64 .i64 f = true then
        some (Ieee.Format.order (FloatKind.format .f64) (FloatKind.nearest .f64 (f2i .f64 f)) f == some Ordering.eq)
       else none
     else
      some true
   else
    some false
def y134 : Option Bool :=
  some false
def g_B_IsWhole : List Lf → Option GT
  | [.d (.f .f64 f)] => some (.leaf (ok (y82 f)) [.c (.d (.b ((val (y82 f)))))])
  | [.n .f64] => some (.leaf (ok (y134)) [.c (.d (.b ((val (y134)))))])
  | _ => none
abbrev sp_54 : Specs → Specs := addK 54 true (pureT k_B_IsWhole g_B_IsWhole)
set_option maxRecDepth 100000 in
theorem B_IsWhole_vc (f : Nat) (r : Bool) (h : Option.bind (y82 f) some = some r) : runT Tryd.f54 (sp0) (fun _ _ _ => none) (bldD k_B_IsWhole [.d (.f .f64 f)]) [.c (.d (.b r))] := by
  refine Eq.mp (by kernel_rfl : (
 Br (Ieee.Format.order (FloatKind.format .f64) f f != some Ordering.eq)
   ((Ob (True) ∧
 (Ob (false = r) ∧
 True)))
 (Br (Option.isSome (Ieee.Format.sub (FloatKind.format .f64) f f))
   ((Ob (True) ∧
 Br (Ieee.Format.order (FloatKind.format .f64) (Option.getD (Ieee.Format.sub (FloatKind.format .f64) f f) (0 : Nat)) (0 : Nat) != some Ordering.eq)
   ((Ob (True) ∧
 (Ob (false = r) ∧
 True)))
 (Br (Ieee.Format.order (FloatKind.format .f64) f (14069741636278059008 : Nat) == some Ordering.gt || Ieee.Format.order (FloatKind.format .f64) f (14069741636278059008 : Nat) == some Ordering.eq)
 (Br (!(Ieee.Format.order (FloatKind.format .f64) f (4846369599423283200 : Nat) == some Ordering.lt || Ieee.Format.order (FloatKind.format .f64) f (4846369599423283200 : Nat) == some Ordering.eq))
   ((Ob (True) ∧
 (Ob (true = r) ∧
 True)))
   ((Ob (f2iOk .f64 .i64 f = true) ∧
 (Ob (True) ∧
 (Ob (True) ∧
 (Ob ((Ieee.Format.order (FloatKind.format .f64) (FloatKind.nearest .f64 (f2i .f64 f)) f == some Ordering.eq) = r) ∧
 True))))))
   ((Ob (True) ∧
 (Ob (true = r) ∧
 True))))))
   ((Ob (True) ∧
 (Ob (True) ∧
 (Ob (false = r) ∧
 True)))))) = _) ?_
  refine br_b h (fun h => ?_) (fun h => ?_)
  · refine ob_t ?_
    exact ret_s h (fun e => by subst e; exact (by repeat' constructor))
  · refine br_b h (fun h => ?_) (fun h => ?_)
    · refine ob_t ?_
      refine br_b h (fun h => ?_) (fun h => ?_)
      · refine ob_t ?_
        exact ret_s h (fun e => by subst e; exact (by repeat' constructor))
      · refine br_b h (fun h => ?_) (fun h => ?_)
        · refine br_b h (fun h => ?_) (fun h => ?_)
          · refine ob_t ?_
            exact ret_s h (fun e => by subst e; exact (by repeat' constructor))
          · refine ob_s h fun h => ?_
            refine ob_t ?_
            refine ob_t ?_
            exact ret_s h (fun e => by subst e; exact (by repeat' constructor))
        · refine ob_t ?_
          exact ret_s h (fun e => by subst e; exact (by repeat' constructor))
    · refine ob_t ?_
      refine ob_t ?_
      exact ret_s h (fun e => by subst e; exact (by repeat' constructor))
set_option maxRecDepth 100000 in
theorem B_IsWhole_n_vc (r : Bool) (h : Option.bind (y134) some = some r) : runT Tryd.f54 (sp0) (fun _ _ _ => none) (bldD k_B_IsWhole [.n .f64]) [.c (.d (.b r))] := by
  refine Eq.mp (by kernel_rfl : (
 (Ob (True) ∧
 (Ob (false = r) ∧
 True))) = _) ?_
  refine ob_t ?_
  exact ret_s h (fun e => by subst e; exact (by repeat' constructor))
set_option maxRecDepth 100000 in
theorem B_IsWhole_ok : SpecOK Tryd.prog 54 true (pureT k_B_IsWhole g_B_IsWhole) := by
  refine pureT_ok (sp := sp0) (fn := Tryd.f54) (body := bodyOf Tryd.f54) mixed sp0_ok Tryd.func54 (by kernel_rfl) (by kernel_rfl) fun ls t h ho b hb => ?_
  unfold g_B_IsWhole at h
  split at h
  · rename_i f
    cases h
    obtain rfl := bld_eq hb
    exact ⟨Nat.le_of_ble_eq_true (by kernel_rfl), _, _, B_IsWhole_vc f _ (ok_some ho)⟩
  · cases h
    obtain rfl := bld_eq hb
    exact ⟨Nat.le_of_ble_eq_true (by kernel_rfl), _, _, B_IsWhole_n_vc _ (ok_some ho)⟩
  · cases h
theorem sp_54_ok {sp : Specs} (h : SpecsOK Tryd.prog sp) : SpecsOK Tryd.prog (sp_54 sp) := addK_ok B_IsWhole_ok h
end Go.Sh
end
