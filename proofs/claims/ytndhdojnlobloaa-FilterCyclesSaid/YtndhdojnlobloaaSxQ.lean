/- A symbolic executor for the model's code: regions that draw their order, any order, proved. -/
import Derived.Test.YtndhdojnlobloaaSxP
set_option linter.unusedSectionVars false
set_option linter.unusedSimpArgs false
set_option linter.unusedVariables false
open Go.RowKit
namespace Go.Sx

theorem C.val_eqB {p : Nat → Bool} {ρ ρ' : Env} (hρ : ∀ h, p h = true → ρ' h = ρ h) : ∀ {x : C}, x.allB p = true → x.val ρ' = x.val ρ
  | .d _, _ => rfl
  | .p h _ _ _, hx => by have hx : p h = true := hx; simp only [C.val, hρ h hx]
  | .o h, hx => hρ h hx
  | .fn _ hs, hx => by
    simp only [C.val]
    congr 2
    exact List.map_congr_left fun a ha => hρ a (List.all_eq_true.1 hx a ha)
  | .g _ _ _ _, _ => rfl
  | .fb _ hs, hx => by
    simp only [C.val]
    congr 2
    exact List.map_congr_left fun a ha => hρ a (List.all_eq_true.1 hx a ha)
theorem W.val_eqB {p : Nat → Bool} {ρ ρ' : Env} (hρ : ∀ h, p h = true → ρ' h = ρ h) : ∀ {x : W}, x.allB p = true → x.val ρ' = x.val ρ
  | .c _, hx => C.val_eqB hρ hx
  | .a l, hx => by
    simp only [W.val]
    congr 2
    exact List.map_congr_left fun a ha => C.val_eqB hρ (List.all_eq_true.1 hx a ha)
  | .b _ _ _, _ => rfl
theorem V.val_eqB {p : Nat → Bool} {ρ ρ' : Env} (hρ : ∀ h, p h = true → ρ' h = ρ h) : ∀ {x : V}, x.allB p = true → x.val ρ' = x.val ρ
  | .w _, hx => W.val_eqB hρ hx
  | .t l, hx => by
    simp only [V.val]
    congr 2
    exact List.map_congr_left fun a ha => W.val_eqB hρ (List.all_eq_true.1 hx a ha)

theorem C.allB_mono {p q : Nat → Bool} (h : ∀ x, p x = true → q x = true) : ∀ {x : C}, x.allB p = true → x.allB q = true
  | .d _, _ => rfl
  | .p _ _ _ _, hx => h _ hx
  | .o _, hx => h _ hx
  | .fn _ _, hx => List.all_eq_true.2 fun a ha => h a (List.all_eq_true.1 hx a ha)
  | .fb _ _, hx => List.all_eq_true.2 fun a ha => h a (List.all_eq_true.1 hx a ha)
  | .g _ _ _ _, _ => rfl
theorem W.allB_mono {p q : Nat → Bool} (h : ∀ x, p x = true → q x = true) : ∀ {x : W}, x.allB p = true → x.allB q = true
  | .c _, hx => C.allB_mono h hx
  | .a _, hx => List.all_eq_true.2 fun a ha => C.allB_mono h (List.all_eq_true.1 hx a ha)
  | .b _ _ _, _ => rfl
theorem V.allB_mono {p q : Nat → Bool} (h : ∀ x, p x = true → q x = true) : ∀ {x : V}, x.allB p = true → x.allB q = true
  | .w _, hx => W.allB_mono h hx
  | .t _, hx => List.all_eq_true.2 fun a ha => W.allB_mono h (List.all_eq_true.1 hx a ha)
theorem O.allB_mono {p q : Nat → Bool} (h : ∀ x, p x = true → q x = true) : ∀ {x : O}, x.allB p = true → x.allB q = true
  | .box _ _, hx => List.all_eq_true.2 fun a ha => C.allB_mono h (List.all_eq_true.1 hx a ha)
  | .view _ _ _, hx => h _ hx
  | .row _ _, _ => rfl
  | .ext _, _ => rfl
  | .dead, _ => rfl
  | .nan _, _ => rfl
  | .ebox _, hx => List.all_eq_true.2 fun a ha => C.allB_mono h (List.all_eq_true.1 hx a ha)
  | .arr _ _ _ _, _ => rfl
  | .xext _, _ => rfl
  | .map _, _ => rfl
  | .rrow _, _ => rfl

theorem C.lt_of_allB {n : Nat} {p : Nat → Bool} (h : ∀ x, p x = true → x < n) : ∀ {x : C}, x.allB p = true → x.lt n
  | .d _, _ => trivial
  | .p _ _ _ _, hx => h _ hx
  | .o _, hx => h _ hx
  | .fn _ _, hx => fun a ha => h a (List.all_eq_true.1 hx a ha)
  | .fb _ _, hx => fun a ha => h a (List.all_eq_true.1 hx a ha)
  | .g _ _ _ _, _ => trivial
theorem W.lt_of_allB {n : Nat} {p : Nat → Bool} (h : ∀ x, p x = true → x < n) : ∀ {x : W}, x.allB p = true → x.lt n
  | .c _, hx => C.lt_of_allB h hx
  | .a _, hx => fun a ha => C.lt_of_allB h (List.all_eq_true.1 hx a ha)
  | .b _ _ _, _ => trivial
theorem V.lt_of_allB {n : Nat} {p : Nat → Bool} (h : ∀ x, p x = true → x < n) : ∀ {x : V}, x.allB p = true → x.lt n
  | .w _, hx => W.lt_of_allB h hx
  | .t _, hx => fun a ha => W.lt_of_allB h (List.all_eq_true.1 hx a ha)
theorem O.lt_of_allB {n : Nat} {p : Nat → Bool} (h : ∀ x, p x = true → x < n) : ∀ {x : O}, x.allB p = true → x.lt n
  | .box _ _, hx => fun a ha => C.lt_of_allB h (List.all_eq_true.1 hx a ha)
  | .view _ _ _, hx => h _ hx
  | .row _ _, _ => trivial
  | .ext _, _ => trivial
  | .dead, _ => trivial
  | .nan _, _ => trivial
  | .ebox _, hx => fun a ha => C.lt_of_allB h (List.all_eq_true.1 hx a ha)
  | .arr _ _ _ _, _ => trivial
  | .xext _, _ => trivial
  | .map _, _ => trivial
  | .rrow _, _ => trivial

theorem C.allB_of_lt {n : Nat} {p : Nat → Bool} (h : ∀ x, x < n → p x = true) : ∀ {x : C}, x.lt n → x.allB p = true
  | .d _, _ => rfl
  | .p _ _ _ _, hx => h _ hx
  | .o _, hx => h _ hx
  | .fn _ _, hx => List.all_eq_true.2 fun a ha => h a (hx a ha)
  | .fb _ _, hx => List.all_eq_true.2 fun a ha => h a (hx a ha)
  | .g _ _ _ _, _ => rfl
theorem W.allB_of_lt {n : Nat} {p : Nat → Bool} (h : ∀ x, x < n → p x = true) : ∀ {x : W}, x.lt n → x.allB p = true
  | .c _, hx => C.allB_of_lt h hx
  | .a _, hx => List.all_eq_true.2 fun a ha => C.allB_of_lt h (hx a ha)
  | .b _ _ _, _ => rfl
theorem V.allB_of_lt {n : Nat} {p : Nat → Bool} (h : ∀ x, x < n → p x = true) : ∀ {x : V}, x.lt n → x.allB p = true
  | .w _, hx => W.allB_of_lt h hx
  | .t _, hx => List.all_eq_true.2 fun a ha => W.allB_of_lt h (hx a ha)
theorem O.allB_of_lt {n : Nat} {p : Nat → Bool} (h : ∀ x, x < n → p x = true) : ∀ {x : O}, x.lt n → x.allB p = true
  | .box _ _, hx => List.all_eq_true.2 fun a ha => C.allB_of_lt h (hx a ha)
  | .view _ _ _, hx => h _ hx
  | .row _ _, _ => rfl
  | .ext _, _ => rfl
  | .dead, _ => rfl
  | .nan _, _ => rfl
  | .ebox _, hx => List.all_eq_true.2 fun a ha => C.allB_of_lt h (hx a ha)
  | .arr _ _ _ _, _ => rfl
  | .xext _, _ => rfl
  | .map _, _ => rfl
  | .rrow _, _ => rfl

section
variable [Globs] {P : Program} {sp : Specs} {B : Bd} {N n0 : Nat} {L : List Oper} {tab : List (List Nat)} {st0 : St} {ρ0 : Env} {w0 : World}

theorem RecOK.nx_le {tr : List Rec} {r : Rec} {o : Oper} (h : RecOK P sp N L tab st0 tr r o) : prevNx st0 tr ≤ r.nx := by
  cases h.kind with
  | skip g e => rw [e]; exact Nat.le_refl _
  | pure g ob hs ho hk e => rw [e]; exact Nat.le_refl _
  | load g hp hl x xo hx hf hb hst ob hs ho hk e => rw [e]; exact Nat.le_refl _
  | mono g hp hl hm res hs ho hk e =>
    simp only [okRes, Bool.and_eq_true, Nat.ble_eq] at hk
    rw [e]; exact hk.1.1
  | effect g hp hl hf res hs ho hk e =>
    simp only [okRes, Bool.and_eq_true, Nat.ble_eq] at hk
    rw [e]; exact hk.1.1

theorem GoodTr.tail {later tr : List Rec} (h : GoodTr P sp N L tab st0 (later ++ tr)) : GoodTr P sp N L tab st0 tr := by
  induction later with
  | nil => exact h
  | cons r l ih => cases h with | cons h' o hr => exact ih h'

theorem nx_grows {later tr : List Rec} (h : GoodTr P sp N L tab st0 (later ++ tr)) : prevNx st0 tr ≤ prevNx st0 (later ++ tr) := by
  induction later with
  | nil => exact Nat.le_refl _
  | cons r l ih => cases h with | cons h' o hr => exact Nat.le_trans (ih h') hr.nx_le

theorem nx_base {tr : List Rec} (h : GoodTr P sp N L tab st0 tr) : st0.nx ≤ prevNx st0 tr := by
  have := nx_grows (later := tr) (tr := []) (by rw [List.append_nil]; exact h)
  rw [List.append_nil] at this
  exact this

/-- The record of an operation. -/
theorem get_rec {T : List Rec} (h : GoodTr P sp N L tab st0 T) {i : Nat} (hi : i < T.length) : ∃ later r tr o, T = later ++ r :: tr ∧ tr.length = i ∧ RecOK P sp N L tab st0 tr r o := by
  induction h with
  | nil => simp at hi
  | @cons tr r h o hr ih =>
    by_cases he : i = tr.length
    · exact ⟨[], r, tr, o, rfl, he.symm, hr⟩
    · obtain ⟨later, r', tr', o', h1, h2, h3⟩ := ih (by simp at hi; omega)
      exact ⟨r :: later, r', tr', o', by simp [h1], h2, h3⟩

theorem born_below {q : Nat → Bool} {later tr : List Rec} {h : Nat} (hg : GoodTr P sp N L tab st0 (later ++ tr)) (hh : h < prevNx st0 tr) : bornBy q st0 (later ++ tr) h = bornBy q st0 tr h := by
  induction later with
  | nil => rfl
  | cons r l ih =>
    cases hg with
    | cons h' o hr =>
      have h1 := nx_grows h'
      simp only [List.cons_append, bornBy]
      have : Nat.ble (prevNx st0 (l ++ tr)) h = false := by
        rw [Bool.eq_false_iff]
        intro hc
        rw [Nat.ble_eq] at hc
        omega
      rw [this]
      exact ih h'

theorem born_at {q : Nat → Bool} {later tr : List Rec} {r : Rec} {h : Nat} (hg : GoodTr P sp N L tab st0 (later ++ r :: tr)) (h1 : prevNx st0 tr ≤ h) (h2 : h < r.nx) : bornBy q st0 (later ++ r :: tr) h = q tr.length := by
  rw [born_below hg (show h < prevNx st0 (r :: tr) from h2)]
  simp only [bornBy]
  have : Nat.ble (prevNx st0 tr) h = true := by rw [Nat.ble_eq]; exact h1
  rw [this]

theorem born_mono {q q' : Nat → Bool} (hq : ∀ j, q j = true → q' j = true) : ∀ (tr : List Rec) (h : Nat), bornBy q st0 tr h = true → bornBy q' st0 tr h = true
  | [], _, _ => rfl
  | r :: tr, h, hb => by
    simp only [bornBy] at hb ⊢
    split at hb
    · exact hq _ hb
    · exact born_mono hq tr h hb

theorem born_base {q : Nat → Bool} {h : Nat} (hh : h < st0.nx) : ∀ {tr : List Rec}, GoodTr P sp N L tab st0 tr → bornBy q st0 tr h = true
  | [], _ => rfl
  | r :: tr, hg => by
    cases hg with
    | cons h' o hr =>
      have := nx_base h'
      simp only [bornBy]
      have e : Nat.ble (prevNx st0 tr) h = false := by
        rw [Bool.eq_false_iff]
        intro hc
        rw [Nat.ble_eq] at hc
        omega
      rw [e]
      exact born_base hh h'

/-! ### slots -/

theorem slotTr_slotD {bef : List Nat} {D : Nat → Bool} {t : Nat} (hb : ∀ j, j ∈ bef → D j = true) : ∀ {tr : List Rec} {v : V}, slotTr L bef st0 t tr = some v → slotD L D st0 t tr = some v
  | [], _, h => h
  | r :: tr, v, h => by
    simp only [slotTr] at h
    simp only [slotD]
    cases hd : dstOf L tr.length with
    | none =>
      simp only [hd] at h
      rw [if_neg (by simp)]
      exact slotTr_slotD hb h
    | some d =>
      simp only [hd] at h
      split at h
      · rename_i e
        subst e
        split at h
        · rename_i hc
          rw [if_pos ⟨rfl, hb _ (by simpa using hc)⟩]
          exact h
        · cases h
      · rename_i e
        rw [if_neg (by simp [e])]
        exact slotTr_slotD hb h

theorem slotD_later {D : Nat → Bool} {t : Nat} {tr : List Rec} : ∀ {later : List Rec}, (∀ j, tr.length ≤ j → dstOf L j = some t → D j = false) → slotD L D st0 t (later ++ tr) = slotD L D st0 t tr
  | [], _ => rfl
  | r :: l, h => by
    simp only [List.cons_append, slotD]
    rw [if_neg (fun ⟨h1, h2⟩ => by rw [h _ (by simp) h1] at h2; cases h2)]
    exact slotD_later h

theorem slotD_congr {D D' : Nat → Bool} {t : Nat} : ∀ {tr : List Rec}, (∀ j, j < tr.length → D' j = D j) → slotD L D' st0 t tr = slotD L D st0 t tr
  | [], _ => rfl
  | r :: tr, h => by
    simp only [slotD]
    rw [h tr.length (by simp), slotD_congr (fun j hj => h j (by simp; omega))]

theorem heapD_congr {D D' : Nat → Bool} : ∀ {tr : List Rec}, (∀ j, j < tr.length → D' j = D j) → heapD D' st0 tr = heapD D st0 tr
  | [], _ => rfl
  | r :: tr, h => by
    simp only [heapD]
    rw [h tr.length (by simp), heapD_congr (fun j hj => h j (by simp; omega))]

theorem slotsOkFor_spec {j t : Nat} : ∀ {l : List Oper} {i : Nat}, slotsOkFor L tab j t i l = true → ∀ m o, l[m]? = some o → i + m < j → t ∈ namesOf L o → (i + m) ∈ tab.getD j []
  | [], _, _, _, _, h, _, _ => by simp at h
  | o' :: r, i, hs, m, o, h, hlt, ht => by
    simp only [slotsOkFor, Bool.and_eq_true] at hs
    cases m with
    | zero =>
      simp at h
      subst h
      have h1 := hs.1
      have hb : Nat.blt i j = true := by rw [Nat.blt_eq]; omega
      have hc : (namesOf L o').contains t = true := by simpa using ht
      rw [hb, hc] at h1
      simpa using h1
    | succ m =>
      have := slotsOkFor_spec hs.2 m o (by simpa using h) (by omega) ht
      rw [show i + (m + 1) = i + 1 + m by omega]
      exact this

theorem slotsOk_spec : ∀ {l : List Oper} {j : Nat}, slotsOk L tab j l = true → ∀ m o t, l[m]? = some o → o.dst = some t → ∀ i o', L[i]? = some o' → i < j + m → t ∈ namesOf L o' → i ∈ tab.getD (j + m) []
  | [], _, _, _, _, _, h, _, _, _, _, _, _ => by simp at h
  | o0 :: r, j, hs, m, o, t, h, hd, i, o', ho', hlt, ht => by
    simp only [slotsOk, Bool.and_eq_true] at hs
    cases m with
    | zero =>
      simp at h
      subst h
      have h1 := hs.1
      rw [hd] at h1
      have := slotsOkFor_spec h1 i o' ho' (by simpa using hlt) ht
      simpa using this
    | succ m =>
      have := slotsOk_spec hs.2 m o t (by simpa using h) hd i o' ho' (by omega) ht
      rw [show j + (m + 1) = j + 1 + m by omega]
      exact this

/-- Nobody who writes a slot behind i has come up before i. -/
theorem later_writer {D : Nat → Bool} {i t : Nat} {o : Oper} (hs : slotsOk L tab 0 L = true) (ht : TabOK L tab) (hc : Closed L D) (hi : D i = false) (ho : L[i]? = some o) (hn : t ∈ namesOf L o) :
    ∀ j, i < j → dstOf L j = some t → D j = false := by
  intro j hij hd
  rw [Bool.eq_false_iff]
  intro hD
  unfold dstOf at hd
  cases hj : L[j]? with
  | none => simp [hj] at hd
  | some oj =>
    simp only [hj, Option.bind_some] at hd
    have h1 := slotsOk_spec hs j oj t (by simpa using hj) hd i o ho (by omega) hn
    rw [Nat.zero_add] at h1
    have := waits_in ht hc j i (fun o' ho' e he hb => hc j o' ho' hD e he hb) h1
    rw [this] at hi
    cases hi

/-- What an operation reads is what stands there, whatever has come up. -/
theorem read_slot {D : Nat → Bool} {later tr : List Rec} {r : Rec} {o : Oper} {t : Nat} {v : V} (hs : slotsOk L tab 0 L = true) (ht : TabOK L tab) (hc : Closed L D) (hi : D tr.length = false) (ho : L[tr.length]? = some o) (hn : t ∈ namesOf L o)
    (hb : ∀ j, j ∈ tab.getD tr.length [] → D j = true) (h : slotTr L (tab.getD tr.length []) st0 t tr = some v) : slotD L D st0 t (later ++ r :: tr) = some v := by
  rw [show later ++ r :: tr = (later ++ [r]) ++ tr by simp, slotD_later]
  · exact slotTr_slotD hb h
  · intro j hj hd
    by_cases he : j = tr.length
    · rw [he]; exact hi
    · exact later_writer hs ht hc hi ho hn j (by omega) hd

/-! ### the invariant -/

def alive (st0 : St) (T : List Rec) (D : Nat → Bool) (h : Nat) : Bool := Nat.blt h (prevNx st0 T) && bornBy D st0 T h

structure Inv [Globs] (L : List Oper) (st0 : St) (B : Bd) (N n0 : Nat) (ρ0 : Env) (w0 : World) (T : List Rec) (D : Nat → Bool) (a : Act) (w : World) (ρ : Env) : Prop where
  tm : ∀ t v, slotD L D st0 t T = some v → v.allB (alive st0 T D) = true ∧ a.tmps.getD t undef = v.val ρ
  size : a.tmps.size = N
  defers : a.defers = []
  heap : HRel ρ B (heapD D st0 T) (prevNx st0 T) w
  hal : ∀ h o, find (heapD D st0 T) h = some o → alive st0 T D h = true ∧ o.allB (alive st0 T D) = true
  le : Old B w
  agree : Agree n0 ρ0 ρ
  below : Bel B w0 w

theorem wanted_of {D : Nat → Bool} {later tr : List Rec} {r : Rec} {o : Oper} {a : Act} {w : World} {ρ : Env} {b : Bool} (hs : slotsOk L tab 0 L = true) (ht : TabOK L tab) (hc : Closed L D) (hi : D tr.length = false) (ho : L[tr.length]? = some o)
    (hb : ∀ j, j ∈ tab.getD tr.length [] → D j = true) (hinv : Inv L st0 B N n0 ρ0 w0 (later ++ r :: tr) D a w ρ) (hg : GuardSays L tab st0 o tr b) : Region.wanted o (yielded L.toArray a.tmps) = b := by
  unfold GuardSays at hg
  unfold Region.wanted
  cases hgd : o.guard with
  | none => rw [hgd] at hg; exact hg.symm
  | some p =>
    obtain ⟨g, want⟩ := p
    rw [hgd] at hg
    obtain ⟨t, v, hdt, hsl, hor⟩ := hg
    have hn : t ∈ namesOf L o := by simp [namesOf, hgd, hdt]
    have hsd := read_slot (later := later) (r := r) hs ht hc hi ho hn hb hsl
    have h1 := (hinv.tm t v hsd).2
    have hy : yielded L.toArray a.tmps g = (match v.val ρ with | .bool b => some b | _ => none) := by
      unfold yielded
      have hd2 : ((L.toArray[g]?).bind (·.dst)) = some t := by simpa [dstOf] using hdt
      rw [hd2]
      simp only [Option.bind_some]
      rw [← h1]
      by_cases hlt : t < a.tmps.size
      · simp only [Array.getD_eq_getD_getElem?, Array.getElem?_eq_getElem hlt, Option.getD_some]
        cases a.tmps[t] <;> rfl
      · simp [hlt, undef]
    dsimp only
    rw [hy]
    rcases hor with ⟨c, rfl, hcw⟩ | ⟨⟨l, rfl⟩, rfl⟩
    · simpa using hcw
    · rfl

/-- The slots behind an operation. -/
theorem tm_step {D D' : Nat → Bool} {later tr : List Rec} {r : Rec} {o : Oper} {a : Act} {w : World} {ρ ρ' : Env} (hs : slotsOk L tab 0 L = true) (ht : TabOK L tab) (hc : Closed L D) (hi : D tr.length = false) (ho : L[tr.length]? = some o)
    (hok : okDst N o.dst = true) (hD1 : D' tr.length = true) (hD2 : ∀ j, j ≠ tr.length → D' j = D j) (hinv : Inv L st0 B N n0 ρ0 w0 (later ++ r :: tr) D a w ρ)
    (hρ : ∀ h, alive st0 (later ++ r :: tr) D h = true → ρ' h = ρ h) (hv : r.v.allB (alive st0 (later ++ r :: tr) D') = true) :
    ∀ t v, slotD L D' st0 t (later ++ r :: tr) = some v → v.allB (alive st0 (later ++ r :: tr) D') = true ∧ (a.put o.dst (r.v.val ρ')).tmps.getD t undef = v.val ρ' := by
  intro t v hsl
  have hdl : ∀ x, o.dst = some x → x < a.tmps.size := fun x hx => by rw [hinv.size]; exact okDst_lt hok x hx
  rw [put_get hdl]
  have hdst : dstOf L tr.length = o.dst := by simp [dstOf, ho]
  have hal : ∀ h, alive st0 (later ++ r :: tr) D h = true → alive st0 (later ++ r :: tr) D' h = true := by
    intro h hh
    simp only [alive, Bool.and_eq_true] at hh ⊢
    refine ⟨hh.1, born_mono (fun j hj => ?_) _ _ hh.2⟩
    by_cases he : j = tr.length
    · rw [he]; exact hD1
    · rw [hD2 j he]; exact hj
  by_cases hdt : o.dst = some t
  · rw [if_pos hdt]
    have hn : t ∈ namesOf L o := by simp [namesOf, hdt]
    have hlat : slotD L D' st0 t (later ++ r :: tr) = slotD L D' st0 t (r :: tr) := by
      apply slotD_later
      intro j hj hd
      simp at hj
      rw [hD2 j (by omega)]
      exact later_writer hs ht hc hi ho hn j (by omega) hd
    rw [hlat] at hsl
    simp only [slotD] at hsl
    rw [if_pos ⟨by rw [hdst]; exact hdt, hD1⟩] at hsl
    cases hsl
    exact ⟨hv, rfl⟩
  · rw [if_neg hdt]
    have hsame : slotD L D' st0 t (later ++ r :: tr) = slotD L D st0 t (later ++ r :: tr) := by
      clear hsl hinv hρ hv hal
      induction later with
      | nil =>
        simp only [List.nil_append, slotD]
        rw [if_neg (fun h => hdt (by rw [← hdst]; exact h.1)), if_neg (fun h => hdt (by rw [← hdst]; exact h.1))]
        exact slotD_congr fun j hj => hD2 j (by omega)
      | cons x l ih =>
        simp only [List.cons_append, slotD]
        rw [hD2 _ (by simp; omega), ih]
    rw [hsame] at hsl
    have h1 := hinv.tm t v hsl
    refine ⟨V.allB_mono hal h1.1, ?_⟩
    rw [h1.2]
    exact (V.val_eqB hρ h1.1).symm

theorem reads_of {D : Nat → Bool} {later tr : List Rec} {r : Rec} {o : Oper} {a : Act} {w : World} {ρ : Env} (hg : GoodTr P sp N L tab st0 (later ++ r :: tr)) (hs : slotsOk L tab 0 L = true) (ht : TabOK L tab) (hc : Closed L D) (hi : D tr.length = false) (ho : L[tr.length]? = some o)
    (hb : ∀ j, j ∈ tab.getD tr.length [] → D j = true) (hbase : ∀ t v, getT st0.tm t = some v → v.lt st0.nx) (hinv : Inv L st0 B N n0 ρ0 w0 (later ++ r :: tr) D a w ρ) :
    Reads ρ (prevNx st0 tr) (rdTr L (namesOf L o) (tab.getD tr.length []) st0 tr) a := by
  have hgt : GoodTr P sp N L tab st0 tr := GoodTr.tail (later := later ++ [r]) (by simpa using hg)
  have slot_lt : ∀ (tr : List Rec), GoodTr P sp N L tab st0 tr → ∀ bef t v, slotTr L bef st0 t tr = some v → v.lt (prevNx st0 tr) := by
    intro tr hg
    induction hg with
    | nil => exact fun bef t v h => hbase t v h
    | @cons tr r h o hr ih =>
      intro bef t v hsl
      simp only [slotTr] at hsl
      have down : slotTr L bef st0 t tr = some v → v.lt r.nx := fun h' => V.lt_mono hr.nx_le (ih bef t v h')
      cases hd : dstOf L tr.length with
      | none => simp only [hd] at hsl; exact down hsl
      | some d =>
        simp only [hd] at hsl
        split at hsl
        · split at hsl
          · cases hsl
            show V.lt r.nx r.v
            cases hr.kind with
            | skip g e => rw [e]; trivial
            | pure g ob hs ho hk e =>
              simp only [okRes, Bool.and_eq_true] at hk
              rw [e]
              exact V.lt_of_allB (fun x hx => by simp only [Bool.and_eq_true, Nat.blt_eq] at hx; exact hx.1) hk.1.2
            | load g hp hl x xo hx hf hb hst ob hs ho hk e =>
              simp only [okRes, Bool.and_eq_true] at hk
              rw [e]
              exact V.lt_of_allB (fun x hx => by simp only [Bool.and_eq_true, Nat.blt_eq] at hx; exact hx.1) hk.1.2
            | mono g hp hl hm res hs ho hk e =>
              simp only [okRes, Bool.and_eq_true] at hk
              rw [e]
              exact V.lt_of_allB (fun x hx => by simp only [Bool.and_eq_true, Nat.blt_eq] at hx; exact hx.1) hk.1.2
            | effect g hp hl hf res hs ho hk e =>
              simp only [okRes, Bool.and_eq_true] at hk
              rw [e]
              exact V.lt_of_allB (fun x hx => by simp only [Bool.and_eq_true, Nat.blt_eq] at hx; exact hx.1) hk.1.2
          · cases hsl
        · exact down hsl
  intro x u hx
  cases x with
  | tmp t =>
    simp only [rdTr] at hx
    split at hx
    · rename_i hcn
      have hn : t ∈ namesOf L o := by simpa using hcn
      exact ⟨slot_lt tr hgt _ t u hx, (hinv.tm t u (read_slot hs ht hc hi ho hn hb hx)).2⟩
    · cases hx
  | const v =>
    simp only [rdTr, rdSt, Option.some.injEq] at hx
    subst hx
    exact ⟨ofValue_lt _ v, (ofValue_val ρ v).symm⟩
  | global g =>
    simp only [rdTr, rdSt] at hx
    split at hx
    · cases hx
      exact ⟨trivial, by simp [V.val, W.val, C.val, Act.eval]⟩
    · cases hx
      exact ⟨trivial, rfl⟩
  | func f =>
    simp only [rdTr, rdSt, Option.some.injEq] at hx
    subst hx
    exact ⟨(fun _ hh => by cases hh), by simp [V.val, W.val, C.val, Act.eval]⟩
end

end Go.Sx
