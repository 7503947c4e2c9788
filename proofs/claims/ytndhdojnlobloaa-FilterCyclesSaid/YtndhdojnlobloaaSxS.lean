/- A symbolic executor for the model's code: regions that draw their order, one operation comes up. -/
import Derived.Test.YtndhdojnlobloaaSxR
set_option linter.unusedSectionVars false
set_option linter.unusedSimpArgs false
set_option linter.unusedVariables false
open Go.RowKit
namespace Go.Sx

theorem O.ok_eqB {p : Nat → Bool} {ρ ρ' : Env} {B : Bd} {h : Nat} {w : World} (ha : ∀ x, p x = true → ρ' x = ρ x) (hh : ρ' h = ρ h) : ∀ {o : O}, o.allB p = true → o.ok ρ B w h → o.ok ρ' B w h
  | .box ty cs, hl, ⟨k, h1, h2, h3⟩ => ⟨k, hh.trans h1, h2, by
      rw [h3]; congr 3; exact List.map_congr_left fun a ha' => (C.val_eqB ha (List.all_eq_true.1 hl a ha')).symm⟩
  | .row ty c, _, hr => by unfold O.ok at *; rw [hh]; exact hr
  | .ext c, _, hr => by unfold O.ok at *; rw [hh]; exact hr
  | .view r c _, hl, hr => by
    have hl' : p r = true := hl
    unfold O.ok at *; rw [hh]; simp only; exact hr
  | .dead, _, _ => trivial
  | .nan _, _, hr => by unfold O.ok at *; rw [hh]; exact hr
  | .ebox cs, hl, ⟨k, o, h1, h2, h3⟩ => ⟨k, o, hh.trans h1, h2, fun j c hj => by rw [C.val_eqB ha (List.all_eq_true.1 hl c (List.mem_of_getElem? hj))]; exact h3 j c hj⟩
  | .arr _ _ _ _, _, hr => by unfold O.ok at *; rw [hh]; exact hr
  | .xext _, _, hr => by unfold O.ok at *; rw [hh]; exact hr
  | .map _, _, hr => by unfold O.ok at *; rw [hh]; exact hr
  | .rrow _, _, hr => by unfold O.ok at *; rw [hh]; exact hr

def glue (ρ ρ' : Env) (lo hi : Nat) : Env := fun h => match Nat.ble lo h && Nat.blt h hi with
  | true => ρ' h
  | false => ρ h

section
variable [Globs] {P : Program} {sp : Specs} {B : Bd} {N n0 : Nat} {L : List Oper} {tab : List (List Nat)} {st0 : St} {ρ0 : Env} {w0 : World}

/-- Where we stand: operation i = tr.length is next, with the facts on the table. -/
structure At [Globs] (P : Program) (sp : Specs) (N : Nat) (L : List Oper) (tab : List (List Nat)) (st0 : St) (D D' : Nat → Bool) (later : List Rec) (r : Rec) (tr : List Rec) (o : Oper) : Prop where
  good : GoodTr P sp N L tab st0 (later ++ r :: tr)
  len : (later ++ r :: tr).length = L.length
  ok : RecOK P sp N L tab st0 tr r o
  slots : slotsOk L tab 0 L = true
  edges : edgesOk 0 L = true
  tabok : TabOK L tab
  closed : Closed L D
  out : D tr.length = false
  bef : ∀ j, j ∈ tab.getD tr.length [] → D j = true
  D1 : D' tr.length = true
  D2 : ∀ j, j ≠ tr.length → D' j = D j
  base : Base st0
  baseTm : ∀ t v, getT st0.tm t = some v → v.lt st0.nx
  n0 : n0 ≤ st0.nx

variable {D D' : Nat → Bool} {later tr : List Rec} {r : Rec} {o : Oper} {a : Act} {w w' : World} {ρ ρ' : Env}

theorem At.low (h : At (n0 := n0) P sp N L tab st0 D D' later r tr o) : ∀ i k, k ∈ tab.getD i [] → k < i := tab_lower h.edges h.tabok
theorem At.gr (h : At (n0 := n0) P sp N L tab st0 D D' later r tr o) : GoodTr P sp N L tab st0 (r :: tr) := GoodTr.tail h.good
theorem At.gt (h : At (n0 := n0) P sp N L tab st0 D D' later r tr o) : GoodTr P sp N L tab st0 tr := h.gr.inv.1
theorem At.mono (h : At (n0 := n0) P sp N L tab st0 D D' later r tr o) : ∀ j, D j = true → D' j = true := fun j hj => by
  by_cases e : j = tr.length
  · rw [e]; exact h.D1
  · rw [h.D2 j e]; exact hj
theorem At.nx (h : At (n0 := n0) P sp N L tab st0 D D' later r tr o) : r.nx ≤ prevNx st0 (later ++ r :: tr) := nx_grows (tr := r :: tr) h.good

theorem At.alive_mono (h : At (n0 := n0) P sp N L tab st0 D D' later r tr o) {x : Nat} (hx : alive st0 (later ++ r :: tr) D x = true) : alive st0 (later ++ r :: tr) D' x = true := by
  simp only [alive, Bool.and_eq_true] at hx ⊢
  exact ⟨hx.1, born_mono h.mono _ _ hx.2⟩

/-- What is alive is not what this operation makes. -/
theorem At.alive_out (h : At (n0 := n0) P sp N L tab st0 D D' later r tr o) {x : Nat} (hx : alive st0 (later ++ r :: tr) D x = true) : ¬ (prevNx st0 tr ≤ x ∧ x < r.nx) := by
  rintro ⟨h1, h2⟩
  simp only [alive, Bool.and_eq_true] at hx
  rw [born_at h.good h1 h2, h.out] at hx
  cases hx.2

theorem At.alive_new (h : At (n0 := n0) P sp N L tab st0 D D' later r tr o) {q : Nat → Bool} (hq : ∀ j, q j = true → D' j = true) {x : Nat}
    (hx : (Nat.blt x r.nx && (Nat.ble (prevNx st0 tr) x || bornBy q st0 tr x)) = true) : alive st0 (later ++ r :: tr) D' x = true := by
  simp only [Bool.and_eq_true, Nat.blt_eq, Bool.or_eq_true] at hx
  simp only [alive, Bool.and_eq_true, Nat.blt_eq]
  refine ⟨Nat.lt_of_lt_of_le hx.1 h.nx, ?_⟩
  by_cases hle : prevNx st0 tr ≤ x
  · rw [born_at h.good hle hx.1]; exact h.D1
  · have h1 : bornBy q st0 tr x = true := by
      rcases hx.2 with h1 | h1
      · rw [Nat.ble_eq] at h1; exact absurd h1 hle
      · exact h1
    have : later ++ r :: tr = (later ++ [r]) ++ tr := by simp
    rw [this, born_below (by rw [← this]; exact h.good) (by omega)]
    exact born_mono hq _ _ h1

theorem glue_alive (h : At (n0 := n0) P sp N L tab st0 D D' later r tr o) {x : Nat} (hx : alive st0 (later ++ r :: tr) D x = true) : glue ρ ρ' (prevNx st0 tr) r.nx x = ρ x := by
  have := h.alive_out hx
  unfold glue
  split
  · rename_i e
    simp only [Bool.and_eq_true, Nat.ble_eq, Nat.blt_eq] at e
    exact absurd e this
  · rfl

theorem glue_new {lo hi : Nat} (ha : Agree lo ρ ρ') : Agree hi ρ' (glue ρ ρ' lo hi) := by
  intro x hx
  unfold glue
  split
  · rfl
  · rename_i e
    have : ¬ lo ≤ x := fun hc => by
      rw [Bool.eq_false_iff] at e
      exact e (by simp only [Bool.and_eq_true, Nat.ble_eq, Nat.blt_eq]; exact ⟨hc, hx⟩)
    exact (ha x (by omega)).symm

theorem glue_base {lo hi : Nat} {m : Nat} (hm : m ≤ lo) (ha : Agree m ρ0 ρ) : Agree m ρ0 (glue ρ ρ' lo hi) := by
  intro x hx
  unfold glue
  split
  · rename_i e
    simp only [Bool.and_eq_true, Nat.ble_eq, Nat.blt_eq] at e
    omega
  · exact ha x hx

theorem At.n0le (h : At (n0 := n0) P sp N L tab st0 D D' later r tr o) : n0 ≤ prevNx st0 tr := Nat.le_trans h.n0 (nx_base h.gt)

/-- An operation that makes nothing. -/
theorem inv_pure (h : At (n0 := n0) P sp N L tab st0 D D' later r tr o) (hinv : Inv L st0 B N n0 ρ0 w0 (later ++ r :: tr) D a w ρ) (hk : r.kd ≠ 2) (hn : r.nw = [])
    (hv : r.v.allB (fun x => Nat.blt x r.nx && (Nat.ble (prevNx st0 tr) x || bornBy (fun j => (tab.getD tr.length []).contains j) st0 tr x)) = true) :
    Inv L st0 B N n0 ρ0 w0 (later ++ r :: tr) D' (a.put o.dst (r.v.val ρ)) w ρ := by
  have he := heap_same (st0 := st0) (later := later) h.out h.D1 h.D2 hk hn
  have hv' : r.v.allB (alive st0 (later ++ r :: tr) D') = true := V.allB_mono (fun x hx => h.alive_new (fun j hj => h.mono j (h.bef j (by simpa using hj))) hx) hv
  refine ⟨tm_step h.slots h.tabok h.closed h.out h.ok.op h.ok.dst h.D1 h.D2 hinv (fun _ _ => rfl) hv', by rw [put_size]; exact hinv.size, by rw [put_defers]; exact hinv.defers, by rw [he]; exact hinv.heap, ?_, hinv.le, hinv.agree, hinv.below⟩
  intro x ob hf
  rw [he] at hf
  have := hinv.hal x ob hf
  exact ⟨h.alive_mono this.1, O.allB_mono (fun y hy => h.alive_mono hy) this.2⟩

/-- An operation that makes objects. -/
theorem inv_mono (h : At (n0 := n0) P sp N L tab st0 D D' later r tr o) (hinv : Inv L st0 B N n0 ρ0 w0 (later ++ r :: tr) D a w ρ) (hns : staticPure o.op = false) (hnl : isLoadOp o.op = false) (hk : r.kd ≠ 2)
    (hv : r.v.allB (fun x => Nat.blt x r.nx && (Nat.ble (prevNx st0 tr) x || bornBy (fun j => (tab.getD tr.length []).contains j) st0 tr x)) = true)
    (hnw : ∀ x ob, find r.nw x = some ob → ob.allB (fun x => Nat.blt x r.nx && (Nat.ble (prevNx st0 tr) x || bornBy (fun j => (tab.getD tr.length []).contains j) st0 tr x)) = true)
    (hag : Agree (prevNx st0 tr) ρ ρ') (hbl : Bel B w w') (hbw : Below w.heap.size w w') (hnew : HRel ρ' B r.nw r.nx w') (hfresh : ∀ x ob k, find r.nw x = some ob → ob.blk (ρ' x) = some k → w.heap.size ≤ k) :
    Inv L st0 B N n0 ρ0 w0 (later ++ r :: tr) D' (a.put o.dst (r.v.val (glue ρ ρ' (prevNx st0 tr) r.nx))) w' (glue ρ ρ' (prevNx st0 tr) r.nx) := by
  have hq : ∀ j, (tab.getD tr.length []).contains j = true → D' j = true := fun j hj => h.mono j (h.bef j (by simpa using hj))
  have hv' : r.v.allB (alive st0 (later ++ r :: tr) D') = true := V.allB_mono (fun x hx => h.alive_new hq hx) hv
  have hE1 : ∀ x, alive st0 (later ++ r :: tr) D x = true → glue ρ ρ' (prevNx st0 tr) r.nx x = ρ x := fun x hx => glue_alive h hx
  have hE2 : Agree r.nx ρ' (glue ρ ρ' (prevNx st0 tr) r.nx) := glue_new hag
  have hins : ∀ x, find (heapD D' st0 (later ++ r :: tr)) x = (find (heapD D st0 (later ++ r :: tr)) x).or (find r.nw x) := fun x =>
    heap_insert hns hnl h.ok.op h.low h.tabok h.closed h.out h.base h.D1 h.D2 hk h.good
  have hkey : ∀ k ob, find r.nw k = some ob → prevNx st0 tr ≤ k ∧ k < r.nx := (kd_other h.ok hk).2.1
  have hnew' := hnew.agree hE2
  refine ⟨tm_step h.slots h.tabok h.closed h.out h.ok.op h.ok.dst h.D1 h.D2 hinv hE1 hv', by rw [put_size]; exact hinv.size, by rw [put_defers]; exact hinv.defers, ⟨?_, ?_, hinv.heap.glob.bel hbl⟩, ?_, hbl.old hinv.le, glue_base h.n0le hinv.agree, hinv.below.trans hbl⟩
  · intro x ob hf
    rw [hins] at hf
    cases hd : find (heapD D st0 (later ++ r :: tr)) x with
    | some y =>
      rw [hd] at hf
      cases hf
      have h1 := hinv.heap.ok x ob hd
      have h2 := hinv.hal x ob hd
      exact ⟨h1.1, h1.2.1, O.ok_eqB hE1 (hE1 x h2.1) h2.2 (O.ok_below hbw hinv.le h1.2.2)⟩
    | none =>
      rw [hd] at hf
      have hf : find r.nw x = some ob := hf
      have h1 := hnew'.ok x ob hf
      exact ⟨Nat.lt_of_lt_of_le h1.1 h.nx, O.lt_mono h.nx h1.2.1, h1.2.2⟩
  · intro x ob x' ob' k hf hf' hne hb
    rw [hins] at hf hf'
    have old : ∀ y oy, find (heapD D st0 (later ++ r :: tr)) y = some oy → ∀ k, oy.blk (glue ρ ρ' (prevNx st0 tr) r.nx y) = some k → k < w.heap.size := fun y oy hy k hk => by
      rw [hE1 y (hinv.hal y oy hy).1] at hk
      exact (O.blk_lt (hinv.heap.ok y oy hy).2.2 hk).1
    have new : ∀ y oy, find r.nw y = some oy → ∀ k, oy.blk (glue ρ ρ' (prevNx st0 tr) r.nx y) = some k → w.heap.size ≤ k := fun y oy hy k hk => by
      rw [hE2 y (hkey y oy hy).2] at hk
      exact hfresh y oy k hy hk
    cases hd : find (heapD D st0 (later ++ r :: tr)) x with
    | some y =>
      rw [hd] at hf
      cases hf
      cases hd' : find (heapD D st0 (later ++ r :: tr)) x' with
      | some y' =>
        rw [hd'] at hf'
        cases hf'
        rw [hE1 x (hinv.hal x ob hd).1] at hb
        rw [hE1 x' (hinv.hal x' ob' hd').1]
        exact hinv.heap.apart x ob x' ob' k hd hd' hne hb
      | none =>
        rw [hd'] at hf'
        intro hb'
        have h1 := old x ob hd k hb
        have h2 := new x' ob' hf' k hb'
        omega
    | none =>
      rw [hd] at hf
      cases hd' : find (heapD D st0 (later ++ r :: tr)) x' with
      | some y' =>
        rw [hd'] at hf'
        cases hf'
        intro hb'
        have h1 := old x' ob' hd' k hb'
        have h2 := new x ob hf k hb
        omega
      | none =>
        rw [hd'] at hf'
        exact hnew'.apart x ob x' ob' k hf hf' hne hb
  · intro x ob hf
    rw [hins] at hf
    cases hd : find (heapD D st0 (later ++ r :: tr)) x with
    | some y =>
      rw [hd] at hf
      cases hf
      have := hinv.hal x ob hd
      exact ⟨h.alive_mono this.1, O.allB_mono (fun y hy => h.alive_mono hy) this.2⟩
    | none =>
      rw [hd] at hf
      have hf : find r.nw x = some ob := hf
      have h1 := hkey x ob hf
      refine ⟨h.alive_new (q := fun _ => false) (fun _ hj => by cases hj) ?_, O.allB_mono (fun y hy => h.alive_new hq hy) (hnw x ob hf)⟩
      simp only [Bool.and_eq_true, Nat.blt_eq, Bool.or_eq_true]
      exact ⟨h1.2, .inl (Nat.ble_eq_true_of_le h1.1)⟩

/-- An operation that changes objects. -/
theorem inv_effect (h : At (n0 := n0) P sp N L tab st0 D D' later r tr o) (hinv : Inv L st0 B N n0 ρ0 w0 (later ++ r :: tr) D a w ρ) (hk : r.kd = 2)
    (hv : r.v.allB (fun x => Nat.blt x r.nx && (Nat.ble (prevNx st0 tr) x || bornBy (fun j => (tab.getD tr.length []).contains j) st0 tr x)) = true)
    (hnw : ∀ x ob, find r.hp x = some ob → ob.allB (fun x => Nat.blt x r.nx && (Nat.ble (prevNx st0 tr) x || bornBy (fun j => (tab.getD tr.length []).contains j) st0 tr x)) = true)
    (hag : Agree (prevNx st0 tr) ρ ρ') (hbl : Bel B w w') (hnew : HRel ρ' B r.hp r.nx w') :
    Inv L st0 B N n0 ρ0 w0 (later ++ r :: tr) D' (a.put o.dst (r.v.val (glue ρ ρ' (prevNx st0 tr) r.nx))) w' (glue ρ ρ' (prevNx st0 tr) r.nx) := by
  have hq : ∀ j, (tab.getD tr.length []).contains j = true → D' j = true := fun j hj => h.mono j (h.bef j (by simpa using hj))
  have hv' : r.v.allB (alive st0 (later ++ r :: tr) D') = true := V.allB_mono (fun x hx => h.alive_new hq hx) hv
  have hE1 : ∀ x, alive st0 (later ++ r :: tr) D x = true → glue ρ ρ' (prevNx st0 tr) r.nx x = ρ x := fun x hx => glue_alive h hx
  have hE2 : Agree r.nx ρ' (glue ρ ρ' (prevNx st0 tr) r.nx) := glue_new hag
  have hfo := kd_effect h.ok hk
  have hall : ∀ j oj, tr.length < j → L[j]? = some oj → (staticPure oj.op || isLoadOp oj.op) = false → D' j = false := fun j oj hij hj hs => by
    rw [h.D2 j (by omega)]
    simp only [Bool.or_eq_false_iff] at hs
    exact not_later hfo.2.1 hfo.2.2 h.ok.op hj hs.1 hs.2 h.low h.tabok h.closed h.out hij (.inr hfo.1)
  have hbefore : ∀ j oj, j < tr.length → L[j]? = some oj → (staticPure oj.op || isLoadOp oj.op) = false → D j = true := fun j oj hij hj hs => by
    simp only [Bool.or_eq_false_iff] at hs
    rcases forced_spec hfo.1 j oj hj with h1 | h1 | h1 | h1 | h1
    · omega
    · rw [hs.1] at h1; cases h1
    · rw [Nat.zero_add] at h1; exact h.bef _ h1
    · rw [Nat.zero_add] at h1; have := h.low _ _ h1; omega
    · rw [hs.2] at h1; cases h1.2
  have hhp : heapD D' st0 (later ++ r :: tr) = r.hp := by
    rw [heap_after hall (i := tr.length) (tr := r :: tr) (by simp) h.good]
    simp only [heapD, h.D1, hk, if_true]
  have hnew' := hnew.agree hE2
  refine ⟨tm_step h.slots h.tabok h.closed h.out h.ok.op h.ok.dst h.D1 h.D2 hinv hE1 hv', by rw [put_size]; exact hinv.size, by rw [put_defers]; exact hinv.defers, by rw [hhp]; exact hnew'.mono_nx h.nx, ?_, hbl.old hinv.le, glue_base h.n0le hinv.agree, hinv.below.trans hbl⟩
  intro x ob hf
  rw [hhp] at hf
  refine ⟨h.alive_new (q := D) h.mono ?_, O.allB_mono (fun y hy => h.alive_new hq hy) (hnw x ob hf)⟩
  have h1 := (hnew.ok x ob hf).1
  simp only [Bool.and_eq_true, Nat.blt_eq, Bool.or_eq_true]
  refine ⟨h1, ?_⟩
  by_cases hle : prevNx st0 tr ≤ x
  · exact .inl (Nat.ble_eq_true_of_le hle)
  · exact .inr ((heap_before hbefore h.gt (Nat.le_refl _)).2 x (by omega))

/-- What an operation sees of the heap is there. -/
theorem seen_rel (h : At (n0 := n0) P sp N L tab st0 D D' later r tr o) (hinv : Inv L st0 B N n0 ρ0 w0 (later ++ r :: tr) D a w ρ) (hns : staticPure o.op = false) (hnl : isLoadOp o.op = false) : HRel ρ B (seenHp (tab.getD tr.length []) st0 tr) (prevNx st0 tr) w := by
  have key : ∀ x ob, find (seenHp (tab.getD tr.length []) st0 tr) x = some ob → find (heapD D st0 (later ++ r :: tr)) x = some ob ∧ x < prevNx st0 tr ∧ ob.lt (prevNx st0 tr) := by
    intro x ob hf
    unfold seenHp at hf
    rw [find_filter (p := fun x => bornBy (fun j => (tab.getD tr.length []).contains j) st0 tr x)] at hf
    split at hf
    · rename_i hb
      have h1 := keys h.gt h.base x ob hf
      refine ⟨?_, h1⟩
      have h2 := seen_in hns hnl h.ok.op h.low h.base h.bef h.gt (Nat.le_refl _) x ob hf hb
      rw [heap_tail hns hnl h.ok.op h.low h.tabok h.closed h.out (tr := r :: tr) (by simp) (show x < r.nx from Nat.lt_of_lt_of_le h1.1 h.ok.nx_le) h.good]
      simp only [heapD, h.out, Bool.false_eq_true, if_false]
      exact h2
    · cases hf
  exact ⟨fun x ob hf => ⟨(key x ob hf).2.1, (key x ob hf).2.2, (hinv.heap.ok x ob (key x ob hf).1).2.2⟩,
    fun x ob x' ob' k hf hf' => hinv.heap.apart x ob x' ob' k (key x ob hf).1 (key x' ob' hf').1, hinv.heap.glob⟩

theorem whole_rel (h : At (n0 := n0) P sp N L tab st0 D D' later r tr o) (hinv : Inv L st0 B N n0 ρ0 w0 (later ++ r :: tr) D a w ρ) (hns : staticPure o.op = false) (hnl : isLoadOp o.op = false) {lf : Bool} (hf : forcedB tab tr.length lf 0 L = true) : HRel ρ B (prevHp st0 tr) (prevNx st0 tr) w := by
  have hbefore : ∀ j oj, j < tr.length → L[j]? = some oj → (staticPure oj.op || isLoadOp oj.op) = false → D j = true := fun j oj hij hj hs => by
    simp only [Bool.or_eq_false_iff] at hs
    rcases forced_spec hf j oj hj with h1 | h1 | h1 | h1 | h1
    · omega
    · rw [hs.1] at h1; cases h1
    · rw [Nat.zero_add] at h1; exact h.bef _ h1
    · rw [Nat.zero_add] at h1; have := h.low _ _ h1; omega
    · rw [hs.2] at h1; cases h1.2
  have hall : ∀ j oj, tr.length < j → L[j]? = some oj → (staticPure oj.op || isLoadOp oj.op) = false → D j = false := fun j oj hij hj hs => by
    simp only [Bool.or_eq_false_iff] at hs
    exact not_later hns hnl h.ok.op hj hs.1 hs.2 h.low h.tabok h.closed h.out hij (.inr hf)
  have e : heapD D st0 (later ++ r :: tr) = prevHp st0 tr := by
    rw [heap_after hall (i := tr.length) (tr := r :: tr) (by simp) h.good]
    simp only [heapD, h.out, Bool.false_eq_true, if_false]
    exact (heap_before hbefore h.gt (Nat.le_refl _)).1
  have h1 := hinv.heap
  rw [e] at h1
  exact ⟨fun x ob hf => ⟨(keys h.gt h.base x ob hf).1, (keys h.gt h.base x ob hf).2, (h1.ok x ob hf).2.2⟩, h1.apart, h1.glob⟩

/-- **One operation comes up.** -/
theorem inv_op (hsp : SpecsOK P sp) (h : At (n0 := n0) P sp N L tab st0 D D' later r tr o) (hinv : Inv L st0 B N n0 ρ0 w0 (later ++ r :: tr) D a w ρ) {K : Act → World → Prop} {Q : Exit → Act → World → Prop}
    (hK : ∀ ρ' a' w', Inv L st0 B N n0 ρ0 w0 (later ++ r :: tr) D' a' w' ρ' → K a' w') : wpOp P L.toArray Q tr.length K a w := by
  have hgt := h.gt
  have hreads := reads_of h.good h.slots h.tabok h.closed h.out h.ok.op h.bef h.baseTm hinv
  have ho : L.toArray[tr.length]? = some o := by simpa using h.ok.op
  unfold wpOp
  rw [ho]
  dsimp only
  cases h.ok.kind with
  | skip g e =>
    rw [wanted_of h.slots h.tabok h.closed h.out h.ok.op h.bef hinv g]
    refine hK ρ _ _ ?_
    have := inv_pure h hinv (by rw [e]; exact (by decide : (0 : Nat) ≠ 2)) (by rw [e]) (by rw [e]; rfl)
    rw [show r.v.val ρ = undef by rw [e]; rfl] at this
    exact this
  | pure g ob hs ob' hk e =>
    rw [wanted_of h.slots h.tabok h.closed h.out h.ok.op h.bef hinv g]
    left
    have hh : HRel ρ B [] (prevNx st0 tr) w := ⟨(fun _ _ hf => by cases hf), (fun _ _ _ _ _ hf => by cases hf), hinv.heap.glob⟩
    have hrun := stepV_run hh hreads hs ob'
    unfold Oper.wp
    rw [hrun.1]
    refine hK ρ _ _ (inv_pure h hinv (by rw [e]; exact (by decide : (0 : Nat) ≠ 2)) (by rw [e]) ?_)
    have := ok_v hk
    have e2 : r.nx = prevNx st0 tr := by rw [e]
    rw [e2]
    exact this
  | load g hp hl x xo hx hf hb hst ob hs ob' hk e =>
    rw [wanted_of h.slots h.tabok h.closed h.out h.ok.op h.bef hinv g]
    left
    have hxl := (keys h.gt h.base x xo hf).1
    have hin := load_in h.low h.base h.bef h.gt hf hb hst
    have htl := (load_tail h.ok.op hl hp hx hf (by rw [e]) h.low h.tabok h.closed h.out hxl hin h.good).1
    have hok := hinv.heap.ok x xo htl
    have hh : HRel ρ B [(x, xo)] (prevNx st0 tr) w := by
      refine ⟨fun y oy hy => ?_, fun y oy y' oy' k hy hy' hne hby => ?_, hinv.heap.glob⟩
      · simp only [find] at hy
        split at hy
        · rename_i e1; subst e1; cases hy
          exact ⟨hxl, (keys h.gt h.base x xo hf).2, hok.2.2⟩
        · cases hy
      · simp only [find] at hy hy'
        split at hy
        · rename_i e1; subst e1
          rw [if_neg hne] at hy'
          cases hy'
        · cases hy
    have hrun := stepV_run hh hreads hs ob'
    unfold Oper.wp
    rw [hrun.1]
    refine hK ρ _ _ (inv_pure h hinv (by rw [e]; exact (by decide : (0 : Nat) ≠ 2)) (by rw [e]) ?_)
    have := ok_v hk
    have e2 : r.nx = prevNx st0 tr := by rw [e]
    rw [e2]
    exact this
  | mono g hp hnl hm res hs ob hk e =>
    rw [wanted_of h.slots h.tabok h.closed h.out h.ok.op h.bef hinv g]
    left
    have hsnd := step_sound hsp (seen_rel h hinv hp hnl) hinv.le hreads hs ob
    rw [hm] at hsnd
    refine hsnd K Q fun ρ' w' hl => ?_
    have ev : r.v = res.v := by rw [e]
    have en : r.nw = newsOf (prevNx st0 tr) res.hp := by rw [e]
    have ex : r.nx = res.nx := by rw [e]
    have hsub : ∀ x ob, find r.nw x = some ob → find res.hp x = some ob ∧ prevNx st0 tr ≤ x := fun x ob hf => by
      rw [en, find_news] at hf
      split at hf
      · rename_i hle; exact ⟨hf, by simpa [Nat.ble_eq] using hle⟩
      · cases hf
    have := inv_mono h hinv hp hnl (by rw [e]; exact (by decide : (1 : Nat) ≠ 2)) (by rw [ev, ex]; exact ok_v hk) (fun x ob hf => by rw [ex]; rw [en] at hf; exact (ok_hp hk hf).2) hl.agree hl.below (hl.mono rfl)
      (by rw [ex]; exact hl.heap.sub fun k o hf => (hsub k o hf).1) (fun x ob k hf hb => hl.fresh rfl x ob k (hsub x ob hf).2 (hsub x ob hf).1 hb)
    have e3 : res.v.val ρ' = r.v.val (glue ρ ρ' (prevNx st0 tr) r.nx) := by
      rw [ev]
      exact (V.val_agree (glue_new hl.agree) (by rw [ex]; exact hl.lt)).symm
    rw [e3]
    exact hK _ _ _ this
  | effect g hp hnl hf res hs ob hk e =>
    rw [wanted_of h.slots h.tabok h.closed h.out h.ok.op h.bef hinv g]
    left
    have hsnd := step_sound hsp (whole_rel h hinv hp hnl hf) hinv.le hreads hs ob
    refine hsnd K Q fun ρ' w' hl => ?_
    have ev : r.v = res.v := by rw [e]
    have eh : r.hp = res.hp := by rw [e]
    have ex : r.nx = res.nx := by rw [e]
    have := inv_effect h hinv (by rw [e]) (by rw [ev, ex]; exact ok_v hk) (fun x ob hf => by rw [ex]; rw [eh] at hf; exact (ok_hp hk hf).2) hl.agree hl.below (by rw [ex, eh]; exact hl.heap)
    have e3 : res.v.val ρ' = r.v.val (glue ρ ρ' (prevNx st0 tr) r.nx) := by
      rw [ev]
      exact (V.val_agree (glue_new hl.agree) (by rw [ex]; exact hl.lt)).symm
    rw [e3]
    exact hK _ _ _ this

/-! ### all of them -/

def DL (l : Array Bool) (j : Nat) : Bool := l.getD j false

theorem closed_set {l : Array Bool} {i : Nat} (hc : Closed L (DL l)) (hb : ∀ o, L[i]? = some o → ∀ e ∈ o.after.toList, Region.binds .any e = true → DL l e.on = true) : Closed L (DL (l.setIfInBounds i true)) := by
  intro j o ho hD e he hbd
  by_cases hij : j = i
  · subst hij
    exact getD_set_true (hb o ho e he hbd)
  · unfold DL at hD
    rw [getD_set_ne false (Ne.symm hij)] at hD
    exact getD_set_true (hc j o ho hD e he hbd)

/-- Something is ready, while something is left. -/
theorem all_listed {l : Array Bool} (hl : l.size = L.length) (he : edgesOk 0 L = true) (hr : Region.ready .any L.toArray l = []) : ∀ j, j < L.length → DL l j = true := by
  intro j
  induction j using Nat.strongRecOn with
  | _ j ih =>
    intro hj
    cases hD : DL l j with
    | true => rfl
    | false =>
      exfalso
      have hmem : j ∈ Region.ready .any L.toArray l := by
        rw [mem_ready]
        refine ⟨?_, L[j], by simp [hj], fun e hem hb => ?_⟩
        · unfold DL at hD
          simp only [Array.getD_eq_getD_getElem?, Array.getElem?_eq_getElem (show j < l.size by omega), Option.getD_some] at hD ⊢
          exact hD
        · have := edges_spec he j L[j] (by simp [hj]) e (by simpa using hem) hb
          exact ih e.on (by omega) (by omega)
      rw [hr] at hmem
      cases hmem

theorem count_set {l : Array Bool} {i : Nat} (hi : i < l.size) (h : l[i] = false) : (l.setIfInBounds i true).toList.count false + 1 = l.toList.count false := by
  have h1 : (l.setIfInBounds i true).toList = l.toList.set i true := by simp
  rw [h1, List.count_set (by simpa using hi)]
  have h2 : l.toList[i]'(by simpa using hi) = false := by simpa using h
  have h3 : 0 < l.toList.count false := List.count_pos_iff.2 (by rw [← h2]; exact List.getElem_mem _)
  rw [show l.toList[i]'(by simpa using hi) = false from h2]
  simp only [beq_self_eq_true, if_true, show (true == false) = false from rfl, Bool.false_eq_true, if_false]
  omega

theorem any_of (hsp : SpecsOK P sp) {T : List Rec} (hg : GoodTr P sp N L tab st0 T) (hlen : T.length = L.length) (hs : slotsOk L tab 0 L = true) (he : edgesOk 0 L = true) (ht : TabOK L tab) (hbase : Base st0)
    (hbt : ∀ t v, getT st0.tm t = some v → v.lt st0.nx) (hn0 : n0 ≤ st0.nx) {Q : Exit → Act → World → Prop}
    (hQ : ∀ D ρ a w, (∀ j, j < L.length → D j = true) → Inv L st0 B N n0 ρ0 w0 T D a w ρ → Q .normal a w) :
    ∀ (fuel : Nat) (l : Array Bool) (a : Act) (w : World) (ρ : Env), l.size = L.length → Closed L (DL l) → l.toList.count false ≤ fuel → Inv L st0 B N n0 ρ0 w0 T (DL l) a w ρ → wpAny P .any L.toArray Q fuel l a w := by
  intro fuel
  induction fuel with
  | zero =>
    intro l a w ρ hl hc hcount hinv
    have hall : ∀ j, j < l.size → l[j]? ≠ some false := fun j hj h => by
      have hm : false ∈ l.toList := by rw [Array.mem_toList_iff]; exact Array.mem_of_getElem? h
      have := List.count_pos_iff.2 hm
      omega
    have hr : Region.ready .any L.toArray l = [] := by
      apply List.eq_nil_iff_forall_not_mem.2
      intro j hj
      obtain ⟨h0, o, ho, _⟩ := mem_ready.1 hj
      have hlt : j < l.size := by
        have := (Array.getElem?_eq_some_iff.1 ho).1
        simp at this
        omega
      apply hall j hlt
      simp only [Array.getD_eq_getD_getElem?, Array.getElem?_eq_getElem hlt, Option.getD_some] at h0
      rw [Array.getElem?_eq_getElem hlt, h0]
    exact ⟨hr, hQ _ ρ a w (all_listed hl he hr) hinv⟩
  | succ fuel ih =>
    intro l a w ρ hl hc hcount hinv
    refine ⟨fun hr => hQ _ ρ a w (all_listed hl he hr) hinv, fun i hi => ?_⟩
    obtain ⟨h0, o, ho, hed⟩ := mem_ready.1 hi
    have ho' : L[i]? = some o := by simpa using ho
    have hiL : i < L.length := (List.getElem?_eq_some_iff.1 ho').1
    have hil : i < l.size := by omega
    have hlf : l[i] = false := by simpa [hil] using h0
    have hedge : ∀ o', L[i]? = some o' → ∀ e ∈ o'.after.toList, Region.binds .any e = true → DL l e.on = true := fun o' ho'' e hem hb => by
      rw [ho'] at ho''
      cases ho''
      exact hed e (by simpa using hem) hb
    obtain ⟨later, r, tr, o2, rfl, htl, hrec⟩ := get_rec hg (show i < T.length by omega)
    subst htl
    have hoo : o2 = o := by
      have := hrec.op
      rw [ho'] at this
      exact (Option.some.inj this).symm
    subst hoo
    have hat : At (n0 := n0) P sp N L tab st0 (DL l) (DL (l.setIfInBounds tr.length true)) later r tr o2 := by
      refine ⟨hg, hlen, hrec, hs, he, ht, hc, ?_, fun j hj => waits_in ht hc _ j hedge hj, ?_, fun j hj => ?_, hbase, hbt, hn0⟩
      · unfold DL; simp [hil, hlf]
      · unfold DL; simp [hil]
      · unfold DL; exact getD_set_ne false (Ne.symm hj)
    refine inv_op hsp hat hinv fun ρ' a' w' hinv' => ?_
    have := count_set hil hlf
    exact ih _ a' w' ρ' (by simpa using hl) (closed_set hc hedge) (by omega) hinv'
end

end Go.Sx
