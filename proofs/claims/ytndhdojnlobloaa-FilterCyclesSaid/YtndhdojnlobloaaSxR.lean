/- A symbolic executor for the model's code: regions that draw their order, their heap. -/
import Derived.Test.YtndhdojnlobloaaSxQ
set_option linter.unusedSectionVars false
set_option linter.unusedSimpArgs false
set_option linter.unusedVariables false
open Go.RowKit
namespace Go.Sx
set_option linter.unusedVariables false

section
variable [Globs] {P : Program} {sp : Specs} {B : Bd} {N n0 : Nat} {L : List Oper} {tab : List (List Nat)} {st0 : St} {ρ0 : Env} {w0 : World}

theorem forced_spec {i : Nat} {lf : Bool} : ∀ {l : List Oper} {k : Nat}, forcedB tab i lf k l = true → ∀ m o, l[m]? = some o → k + m = i ∨ staticPure o.op = true ∨ (k + m) ∈ tab.getD i [] ∨ i ∈ tab.getD (k + m) [] ∨ (lf = true ∧ isLoadOp o.op = true)
  | [], _, _, _, _, h => by simp at h
  | o' :: r, k, hs, m, o, h => by
    simp only [forcedB, Bool.and_eq_true, Bool.or_eq_true] at hs
    cases m with
    | zero =>
      simp at h
      subst h
      rcases hs.1 with (((h1 | h1) | h1) | h1) | h1
      · exact .inl (by simpa using Nat.eq_of_beq_eq_true h1)
      · exact .inr (.inl h1)
      · exact .inr (.inr (.inl (by simpa using h1)))
      · exact .inr (.inr (.inr (.inl (by simpa using h1))))
      · exact .inr (.inr (.inr (.inr h1)))
    | succ m =>
      have := forced_spec hs.2 m o (by simpa using h)
      rw [show k + (m + 1) = k + 1 + m by omega]
      exact this

theorem edges_spec : ∀ {l : List Oper} {k : Nat}, edgesOk k l = true → ∀ m o, l[m]? = some o → ∀ e ∈ o.after.toList, Region.binds .any e = true → e.on < k + m
  | [], _, _, _, _, h => by simp at h
  | o' :: r, k, hs, m, o, h => by
    simp only [edgesOk, Bool.and_eq_true] at hs
    cases m with
    | zero =>
      simp at h
      subst h
      intro e he hb
      have := List.all_eq_true.1 hs.1 e he
      rw [hb] at this
      simpa using this
    | succ m =>
      have := edges_spec hs.2 m o (by simpa using h)
      rw [show k + (m + 1) = k + 1 + m by omega]
      exact this

/-- What is waited for stands before. -/
theorem tab_lower (he : edgesOk 0 L = true) (ht : TabOK L tab) : ∀ (i k : Nat), k ∈ tab.getD i [] → k < i := by
  intro i
  induction i using Nat.strongRecOn with
  | _ i ih =>
    intro k hk
    obtain ⟨o, ho, e, hem, hb, hor⟩ := ht i k hk
    have h1 := edges_spec he i o ho e hem hb
    rw [Nat.zero_add] at h1
    rcases hor with rfl | ⟨hlt, hk'⟩
    · exact h1
    · exact Nat.lt_trans (ih e.on hlt k hk') hlt

def Base (st0 : St) : Prop := ∀ h o, find st0.hp h = some o → h < st0.nx ∧ o.lt st0.nx

theorem hp_all {hp : Hp} {p : Nat → Bool} {q : O → Bool} (ha : (hp.all fun x => p x.1 && q x.2) = true) {h : Nat} {o : O} (hf : find hp h = some o) : p h = true ∧ q o = true := by
  have := List.all_eq_true.1 ha (h, o) (find_mem hf)
  simpa using this

theorem lt_of_ok {nx : Nat} {b : Nat → Bool} : ∀ x, (Nat.blt x nx && b x) = true → x < nx := fun x hx => by
  simp only [Bool.and_eq_true, Nat.blt_eq] at hx; exact hx.1

theorem ok_hp {bef : List Nat} {tr : List Rec} {v : V} {hp : Hp} {nx : Nat} (hk : okRes bef st0 tr v hp nx = true) {h : Nat} {o : O} (hf : find hp h = some o) :
    h < nx ∧ o.allB (fun h => Nat.blt h nx && (Nat.ble (prevNx st0 tr) h || bornBy (fun j => bef.contains j) st0 tr h)) = true := by
  simp only [okRes, Bool.and_eq_true] at hk
  have := List.all_eq_true.1 hk.2 (h, o) (find_mem hf)
  simp only [Bool.and_eq_true, Nat.blt_eq] at this
  exact this
theorem ok_v {bef : List Nat} {tr : List Rec} {v : V} {hp : Hp} {nx : Nat} (hk : okRes bef st0 tr v hp nx = true) :
    v.allB (fun h => Nat.blt h nx && (Nat.ble (prevNx st0 tr) h || bornBy (fun j => bef.contains j) st0 tr h)) = true := by
  simp only [okRes, Bool.and_eq_true] at hk
  exact hk.1.2

theorem find_news {n : Nat} {hp : Hp} {h : Nat} : find (newsOf n hp) h = if Nat.ble n h = true then find hp h else none := find_filter (p := fun k => Nat.ble n k)

/-- The objects of a record are older than the next number. -/
theorem keys {tr : List Rec} (hg : GoodTr P sp N L tab st0 tr) (hb : Base st0) : ∀ h o, find (prevHp st0 tr) h = some o → h < prevNx st0 tr ∧ o.lt (prevNx st0 tr) := by
  induction hg with
  | nil => exact hb
  | @cons tr r hgt o hr ih =>
    intro h ob hf
    show h < r.nx ∧ ob.lt r.nx
    have hf : find r.hp h = some ob := hf
    cases hr.kind with
    | skip g e => rw [e] at hf ⊢; exact ih h ob hf
    | pure g ob' hs ho hk e => rw [e] at hf ⊢; exact ih h ob hf
    | load g hp hl x xo hx hf0 hb0 hst ob' hs ho hk e => rw [e] at hf ⊢; exact ih h ob hf
    | mono g hp hl hm res hs ho hk e =>
      rw [e] at hf ⊢
      have hle : prevNx st0 tr ≤ res.nx := by simp only [okRes, Bool.and_eq_true, Nat.ble_eq] at hk; exact hk.1.1
      simp only [find_append] at hf
      cases hn : find (newsOf (prevNx st0 tr) res.hp) h with
      | some x =>
        rw [hn] at hf
        cases hf
        have := ok_hp hk hn
        exact ⟨this.1, O.lt_of_allB (p := fun h => Nat.blt h res.nx && (Nat.ble (prevNx st0 tr) h || bornBy (fun j => (tab.getD tr.length []).contains j) st0 tr h)) (fun x hx => by simp only [Bool.and_eq_true, Nat.blt_eq] at hx; exact hx.1) this.2⟩
      | none =>
        rw [hn] at hf
        have := ih h ob hf
        exact ⟨Nat.lt_of_lt_of_le this.1 hle, O.lt_mono hle this.2⟩
    | effect g hp hl hf' res hs ho hk e =>
      rw [e] at hf ⊢
      have := ok_hp hk hf
      exact ⟨this.1, O.lt_of_allB (p := fun h => Nat.blt h res.nx && (Nat.ble (prevNx st0 tr) h || bornBy (fun j => (tab.getD tr.length []).contains j) st0 tr h)) (fun x hx => by simp only [Bool.and_eq_true, Nat.blt_eq] at hx; exact hx.1) this.2⟩

theorem GoodTr.inv {tr : List Rec} {r : Rec} (h : GoodTr P sp N L tab st0 (r :: tr)) : GoodTr P sp N L tab st0 tr ∧ ∃ o, RecOK P sp N L tab st0 tr r o := by
  cases h with | cons h o hr => exact ⟨h, o, hr⟩

theorem kd_effect {tr : List Rec} {r : Rec} {o : Oper} (hr : RecOK P sp N L tab st0 tr r o) (h : r.kd = 2) : forcedB tab tr.length (r.tg.isSome) 0 L = true ∧ staticPure o.op = false ∧ isLoadOp o.op = false := by
  cases hr.kind with
  | skip g e => rw [e] at h; cases h
  | pure g ob hs ho hk e => rw [e] at h; cases h
  | load g hp hl x xo hx hf hb hst ob hs ho hk e => rw [e] at h; cases h
  | mono g hp hl hm res hs ho hk e => rw [e] at h; cases h
  | effect g hp hl hf res hs ho hk e => exact ⟨by rw [e]; exact hf, hp, hl⟩

theorem store_step0 {t x y : _} {rd : Operand → Option V} {hp : Hp} {nx h : Nat} {res : Res} (hs : step P sp (.store t x y) rd hp nx = some res) (ht : storeAt (.store t x y) rd = some h) : ∃ o', res.hp = (h, o') :: noViews hp := by
  unfold storeAt at ht
  dsimp only at ht
  split at ht
  · rename_i h' i e j hx
    cases ht
    unfold step at hs
    have hv : stepV P (.store t x y) rd hp = none := by simp [stepV, stepV0, stepW]
    have hR : stepR P (.store t x y) rd hp nx = none := by simp [stepR]
    simp only [hv, hR] at hs
    split at hs
    · rename_i r0 hX
      cases hs
      unfold stepX at hX
      dsimp only at hX
      rw [hx] at hX
      split at hX
      · rename_i h3 _
        cases h3
        split at hX
        · split at hX
          · cases hX; exact ⟨_, rfl⟩
          · cases hX
        · split at hX
          · cases hX; exact ⟨_, rfl⟩
          · cases hX
        · cases hX
      · rename_i h3 _
        cases h3
        split at hX
        · split at hX
          · cases hX; exact ⟨_, rfl⟩
          · cases hX
        · split at hX
          · cases hX; exact ⟨_, rfl⟩
          · cases hX
        · cases hX
      · rename_i h3 _
        cases h3
        split at hX
        · split at hX
          · split at hX
            · cases hX; exact ⟨_, rfl⟩
            · cases hX
          · cases hX
        · cases hX
      · cases hX
    unfold stepH at hs
    dsimp only at hs
    rw [hx] at hs
    split at hs
    · rename_i h2 i2 e2 j2 u h3 hy
      cases h3
      split at hs
      · split at hs
        · split at hs
          · cases hs; exact ⟨_, rfl⟩
          · cases hs
        · split at hs
          · split at hs
            · split at hs
              · cases hs; exact ⟨_, rfl⟩
              · cases hs
            · cases hs
          · cases hs
        · cases hs
      · cases hs
    · cases hs
  · cases ht

theorem plain_noViews {hp : Hp} {x : Nat} {ob : O} (hpl : plainO (some ob) = true) : find (noViews hp) x = some ob ↔ find hp x = some ob := by
  rw [find_noViews]
  cases hf : find hp x with
  | none => simp
  | some o =>
    simp only [Option.map_some, Option.some.injEq]
    cases o <;> cases ob <;> simp_all [plainO]


/-- What a store, or an append, leaves of other objects. -/
theorem change_step {op : Op} {rd : Operand → Option V} {hp : Hp} {nx h : Nat} {res : Res} (hs : step P sp op rd hp nx = some res) (ht : storeAt op rd = some h) {x : Nat} {ob : O} (hx : x ≠ h) (hn : x < nx) (hp1 : plainO (some ob) = true) (hf : find hp x = some ob) : find res.hp x = some ob := by
  cases op with
  | store t a b =>
    obtain ⟨o', ho'⟩ := store_step0 hs ht
    rw [ho']
    simp only [find]
    rw [if_neg (fun e => hx e.symm)]
    exact (plain_noViews hp1).2 hf
  | call c =>
    have hna : c.callee = .builtin .append ∧ ∃ s y, c.args.toList = [s, y] ∧ ∀ k, rd s = some (.w (.c (.o k))) → k = h := by
      unfold storeAt at ht
      dsimp only at ht
      split at ht
      · rename_i s y hc ha
        refine ⟨hc, s, y, ha, fun k hk => ?_⟩
        rw [hk] at ht
        cases ht; rfl
      · cases ht
    obtain ⟨hcal, s, y, hargs, hk⟩ := hna
    unfold step at hs
    have h1 : stepV P (.call c) rd hp = none := by simp [stepV, stepV0, stepW, hcal]
    have h2 : stepX P (.call c) rd hp nx = none := by simp [stepX]
    have hR : stepR P (.call c) rd hp nx = none := by simp [stepR]
    simp only [h1, hR, h2] at hs
    unfold stepH at hs
    dsimp only at hs
    rw [hcal, hargs] at hs
    split at hs
    · rename_i s' y' t t' _ e _
      simp only [List.cons.injEq, and_true] at e
      obtain ⟨rfl, rfl⟩ := e
      split at hs
      · split at hs
        · unfold stepAppView at hs
          split at hs
          · split at hs
            · split at hs
              · split at hs
                · split at hs
                  · cases hs
                    simp only [find]
                    rw [if_neg (by omega)]
                    exact hf
                  · cases hs
                · cases hs
              · cases hs
            · cases hs
          · cases hs
        · split at hs
          · rename_i elem hs' cs hx' cx hu hss hsx
            split at hs
            · split at hs
              · split at hs
                · split at hs
                  · cases hs
                    cases hs' with
                    | none =>
                      simp only [find]
                      rw [if_neg (by omega)]
                      exact (plain_noViews hp1).2 hf
                    | some k =>
                      have hkh : k = h := by
                        cases hrs : rd s with
                        | none => simp [hrs] at hss
                        | some us =>
                          simp only [hrs, Option.bind_some] at hss
                          unfold sliceOf at hss
                          split at hss
                          · split at hss
                            · cases hss; exact hk _ hrs
                            · cases hss
                          · cases hss
                          · cases hss
                      subst hkh
                      simp only [find]
                      rw [if_neg (by omega), if_neg (fun e => hx e.symm)]
                      exact (plain_noViews hp1).2 hf
                  · cases hs
                · cases hs
              · cases hs
            · cases hs
          · cases hs
      · cases hs
    · rename_i hc2
      cases hc2
    · cases hs
  | _ => simp [storeAt] at ht

/-- What a store leaves of other objects. -/
theorem kd_store {tr : List Rec} {r : Rec} {o : Oper} {t : Nat} (hr : RecOK P sp N L tab st0 tr r o) (h : r.kd = 2) (ht : r.tg = some t) :
    (∀ x ob, x ≠ t → x < prevNx st0 tr → plainO (some ob) = true → find (prevHp st0 tr) x = some ob → find r.hp x = some ob) ∧ loadsFree L tab st0 (tab.getD tr.length []) t tr = true := by
  cases hr.kind with
  | skip g e => rw [e] at h; cases h
  | pure g ob hs ho hk e => rw [e] at h; cases h
  | load g hp hl x xo hx hf hb hst ob hs ho hk e => rw [e] at h; cases h
  | mono g hp hl hm res hs ho hk e => rw [e] at h; cases h
  | effect g hp hl hf res hs ho hk e =>
    have ht2 : freeStore L tab st0 o tr = some t := by rw [e] at ht; exact ht
    unfold freeStore at ht2
    split at ht2
    · rename_i h' hst
      split at ht2
      · rename_i hlf
        cases ht2
        refine ⟨fun x ob hx hn hpl hfx => ?_, hlf⟩
        rw [e]
        exact change_step hs hst hx hn hpl hfx
      · cases ht2
    · cases ht2

theorem kd_other {tr : List Rec} {r : Rec} {o : Oper} (hr : RecOK P sp N L tab st0 tr r o) (h : r.kd ≠ 2) : r.hp = r.nw ++ prevHp st0 tr ∧ (∀ k ob, find r.nw k = some ob → prevNx st0 tr ≤ k ∧ k < r.nx) ∧ ((staticPure o.op || isLoadOp o.op) = true → r.nw = [] ∧ r.nx = prevNx st0 tr) := by
  cases hr.kind with
  | skip g e => rw [e]; exact ⟨rfl, (fun k ob h => by cases h), fun _ => ⟨rfl, rfl⟩⟩
  | pure g ob hs ho hk e => rw [e]; exact ⟨rfl, (fun k ob h => by cases h), fun _ => ⟨rfl, rfl⟩⟩
  | load g hp hl x xo hx hf hb hst ob hs ho hk e => rw [e]; exact ⟨rfl, (fun k ob h => by cases h), fun _ => ⟨rfl, rfl⟩⟩
  | mono g hp hl hm res hs ho hk e =>
    rw [e]
    refine ⟨rfl, fun k ob hf => ?_, fun h => by rw [hp, hl] at h; cases h⟩
    have h1 := (ok_hp hk hf).1
    have hf : find (newsOf (prevNx st0 tr) res.hp) k = some ob := hf
    rw [find_news] at hf
    split at hf
    · rename_i hle; exact ⟨by simpa [Nat.ble_eq] using hle, h1⟩
    · cases hf
  | effect g hp hl hf res hs ho hk e => rw [e] at h; exact absurd rfl h

theorem kd_static {tr : List Rec} {r : Rec} {o : Oper} (hr : RecOK P sp N L tab st0 tr r o) (hs : (staticPure o.op || isLoadOp o.op) = true) : r.kd ≠ 2 := fun h => by
  rw [(kd_effect hr h).2.1, (kd_effect hr h).2.2] at hs; cases hs

/-- What an operation sees stands in what has come up. -/
theorem seen_in {D : Nat → Bool} {i : Nat} {o : Oper} (hns : staticPure o.op = false) (hnl : isLoadOp o.op = false) (ho : L[i]? = some o) (hlow : ∀ i k, k ∈ tab.getD i [] → k < i) (hbase : Base st0) (hb : ∀ j, j ∈ tab.getD i [] → D j = true) {tr : List Rec} (hg : GoodTr P sp N L tab st0 tr) :
    tr.length ≤ i → ∀ h ob, find (prevHp st0 tr) h = some ob → bornBy (fun j => (tab.getD i []).contains j) st0 tr h = true → find (heapD D st0 tr) h = some ob := by
  induction hg with
  | nil => exact fun _ h ob hf _ => hf
  | @cons tr r hgt o' hr ih =>
    intro hl h ob hf hbn
    have hl : tr.length + 1 ≤ i := hl
    have hf : find r.hp h = some ob := hf
    simp only [heapD]
    by_cases hk : r.kd = 2
    · have hfo := kd_effect hr hk
      have hD : D tr.length = true := by
        rcases forced_spec hfo.1 i o ho with h1 | h1 | h1 | h1 | h1
        · omega
        · rw [hns] at h1; cases h1
        · rw [Nat.zero_add] at h1; have := hlow _ _ h1; omega
        · rw [Nat.zero_add] at h1; exact hb _ h1
        · rw [hnl] at h1; cases h1.2
      rw [if_pos hD, if_pos hk]
      exact hf
    · have ho := kd_other hr hk
      rw [ho.1, find_append] at hf
      rw [if_neg hk]
      cases hn : find r.nw h with
      | some x =>
        rw [hn] at hf
        cases hf
        have h1 := (ho.2.1 h ob hn).1
        have hD : D tr.length = true := by
          simp only [bornBy] at hbn
          rw [show Nat.ble (prevNx st0 tr) h = true from Nat.ble_eq_true_of_le h1] at hbn
          exact hb _ (by simpa using hbn)
        rw [if_pos hD, find_append, hn]
        rfl
      | none =>
        rw [hn] at hf
        have hf : find (prevHp st0 tr) h = some ob := hf
        have h1 := (keys hgt hbase h ob hf).1
        have hbn' : bornBy (fun j => (tab.getD i []).contains j) st0 tr h = true := by
          simp only [bornBy] at hbn
          have e : Nat.ble (prevNx st0 tr) h = false := by
            rw [Bool.eq_false_iff]; intro hc; rw [Nat.ble_eq] at hc; omega
          rw [e] at hbn
          exact hbn
        have := ih (by omega) h ob hf hbn'
        split
        · rw [find_append, hn]; exact this
        · exact this

theorem heapD_key {D : Nat → Bool} (hbase : Base st0) {tr : List Rec} (hg : GoodTr P sp N L tab st0 tr) : ∀ h ob, find (heapD D st0 tr) h = some ob → h < prevNx st0 tr := by
  induction hg with
  | nil => exact fun h ob hf => (hbase h ob hf).1
  | @cons tr r hgt o hr ih =>
    intro h ob hf
    have hle := hr.nx_le
    simp only [heapD] at hf
    split at hf
    · split at hf
      · exact (keys (.cons hgt o hr) hbase h ob hf).1
      · rename_i hk
        rw [find_append] at hf
        cases hn : find r.nw h with
        | some x => exact ((kd_other hr hk).2.1 h x hn).2
        | none => rw [hn] at hf; exact Nat.lt_of_lt_of_le (ih h ob hf) hle
    · exact Nat.lt_of_lt_of_le (ih h ob hf) hle

/-- No effect behind i has come up. -/
def Quiet (L : List Oper) (D : Nat → Bool) (i : Nat) (T : List Rec) : Prop := ∀ later r tr, T = later ++ r :: tr → i < tr.length → r.kd = 2 → D tr.length = false

theorem not_later {D : Nat → Bool} {i k : Nat} {o ok : Oper} {lf : Bool} (hns : staticPure o.op = false) (hnl : isLoadOp o.op = false) (ho : L[i]? = some o) (hok : L[k]? = some ok) (hnk : staticPure ok.op = false) (hlk : isLoadOp ok.op = false) (hlow : ∀ i k, k ∈ tab.getD i [] → k < i) (ht : TabOK L tab) (hc : Closed L D) (hi : D i = false) (hik : i < k)
    (hf : forcedB tab k lf 0 L = true ∨ forcedB tab i lf 0 L = true) : D k = false := by
  have hor : i ∈ tab.getD k [] := by
    rcases hf with hf | hf
    · rcases forced_spec hf i o ho with h1 | h1 | h1 | h1 | h1
      · omega
      · rw [hns] at h1; cases h1
      · rw [Nat.zero_add] at h1; exact h1
      · rw [Nat.zero_add] at h1; have := hlow _ _ h1; omega
      · rw [hnl] at h1; cases h1.2
    · rcases forced_spec hf k ok hok with h1 | h1 | h1 | h1 | h1
      · omega
      · rw [hnk] at h1; cases h1
      · rw [Nat.zero_add] at h1; have := hlow _ _ h1; omega
      · rw [Nat.zero_add] at h1; exact h1
      · rw [hlk] at h1; cases h1.2
  rw [Bool.eq_false_iff]
  intro hD
  have := waits_in ht hc k i (fun o' ho' e he hb => hc k o' ho' hD e he hb) hor
  rw [this] at hi
  cases hi

/-! a load -/

/-- What a load reads stands in what has come up. -/
theorem load_in {D : Nat → Bool} {i : Nat} (hlow : ∀ i k, k ∈ tab.getD i [] → k < i) (hbase : Base st0) (hb : ∀ j, j ∈ tab.getD i [] → D j = true) {h : Nat} {ob : O} {tr : List Rec} (hg : GoodTr P sp N L tab st0 tr) :
    find (prevHp st0 tr) h = some ob → bornBy (fun j => (tab.getD i []).contains j) st0 tr h = true → storesFree st0 (tab.getD i []) h tr = true → find (heapD D st0 tr) h = some ob := by
  induction hg with
  | nil => exact fun hf _ _ => hf
  | @cons tr r hgt o' hr ih =>
    intro hf hbn hst
    simp only [storesFree, Bool.and_eq_true] at hst
    have hf : find r.hp h = some ob := hf
    simp only [heapD]
    by_cases hk : r.kd = 2
    · rw [if_pos hk]
      by_cases hD : D tr.length = true
      · rw [if_pos hD]; exact hf
      · rw [if_neg hD]
        have h1 := hst.1
        have hc : (tab.getD i []).contains tr.length = false := by
          cases hcc : (tab.getD i []).contains tr.length with
          | false => rfl
          | true => exact absurd (hb _ (by simpa using hcc)) hD
        have hkb : Nat.beq r.kd 2 = true := by rw [hk]; rfl
        rw [hc, hkb] at h1
        simp only [Bool.not_true, Bool.false_or] at h1
        split at h1
        · cases h1
        · rename_i t htg
          simp only [Bool.and_eq_true, Bool.not_eq_true'] at h1
          have hne : h ≠ t := fun e => by
            have h2 := h1.1
            subst e
            have : Nat.beq h h = true := by simp
            rw [this] at h2; cases h2
          have hs := kd_store hr hk htg
          have hpl : ∃ o1, find (prevHp st0 tr) h = some o1 ∧ plainO (some o1) = true := by
            cases hq : find (prevHp st0 tr) h with
            | none => rw [hq] at h1; cases h1.2
            | some o1 => rw [hq] at h1; exact ⟨o1, rfl, h1.2⟩
          obtain ⟨o1, hq, hp1⟩ := hpl
          have hlt := (keys hgt hbase h o1 hq).1
          have := hs.1 h o1 hne hlt hp1 hq
          rw [this] at hf
          cases hf
          refine ih hq ?_ hst.2
          have e : Nat.ble (prevNx st0 tr) h = false := by
            rw [Bool.eq_false_iff]; intro hcc; rw [Nat.ble_eq] at hcc; omega
          simp only [bornBy] at hbn
          rw [e] at hbn
          exact hbn
    · have ho := kd_other hr hk
      rw [ho.1, find_append] at hf
      rw [if_neg hk]
      cases hn : find r.nw h with
      | some x =>
        rw [hn] at hf
        cases hf
        have h1 := (ho.2.1 h ob hn).1
        have hD : D tr.length = true := by
          simp only [bornBy] at hbn
          rw [show Nat.ble (prevNx st0 tr) h = true from Nat.ble_eq_true_of_le h1] at hbn
          exact hb _ (by simpa using hbn)
        rw [if_pos hD, find_append, hn]
        rfl
      | none =>
        rw [hn] at hf
        have hf : find (prevHp st0 tr) h = some ob := hf
        have h1 := (keys hgt hbase h ob hf).1
        have hbn' : bornBy (fun j => (tab.getD i []).contains j) st0 tr h = true := by
          simp only [bornBy] at hbn
          have e : Nat.ble (prevNx st0 tr) h = false := by
            rw [Bool.eq_false_iff]; intro hc; rw [Nat.ble_eq] at hc; omega
          rw [e] at hbn
          exact hbn
        have := ih hf hbn' hst.2
        split
        · rw [find_append, hn]; exact this
        · exact this

theorem loads_spec {bef : List Nat} {t : Nat} {r0 : Rec} {tr : List Rec} {o : Oper} (ho : L[tr.length]? = some o) (hl : isLoadOp o.op = true) : ∀ {l : List Rec}, loadsFree L tab st0 bef t (l ++ r0 :: tr) = true →
    bef.contains tr.length = true ∨ ∃ x, loadAt o.op (rdTr L (namesOf L o) (tab.getD tr.length []) st0 tr) = some x ∧ x ≠ t ∧ plainO (find (prevHp st0 tr) x) = true
  | [], h => by
    simp only [List.nil_append, loadsFree, ho, hl, Bool.and_eq_true, Bool.or_eq_true] at h
    rcases h.1 with h1 | h1
    · exact .inl h1
    · split at h1
      · cases h1
      · rename_i x hx
        simp only [Bool.and_eq_true, Bool.not_eq_true'] at h1
        refine .inr ⟨x, hx, fun e => ?_, h1.2⟩
        have h2 := h1.1
        rw [e] at h2
        have : Nat.beq t t = true := by simp
        rw [this] at h2; cases h2
  | r :: l, h => by
    simp only [List.cons_append, loadsFree, Bool.and_eq_true] at h
    exact loads_spec ho hl h.2

/-- Later records leave what a load reads, until it has come up. -/
theorem load_tail {D : Nat → Bool} {tr : List Rec} {r0 : Rec} {o : Oper} {x : Nat} {xo : O} (ho : L[tr.length]? = some o) (hlo : isLoadOp o.op = true) (hns : staticPure o.op = false) (hx : loadAt o.op (rdTr L (namesOf L o) (tab.getD tr.length []) st0 tr) = some x) (hf : find (prevHp st0 tr) x = some xo) (hr0 : r0.hp = prevHp st0 tr)
    (hlow : ∀ i k, k ∈ tab.getD i [] → k < i) (ht : TabOK L tab) (hc : Closed L D) (hi : D tr.length = false) (hxl : x < prevNx st0 tr) (hin : find (heapD D st0 tr) x = some xo) :
    ∀ {later : List Rec}, GoodTr P sp N L tab st0 (later ++ r0 :: tr) → find (heapD D st0 (later ++ r0 :: tr)) x = some xo ∧
      ((∀ k, tr.length < k → k < (later ++ r0 :: tr).length → ∀ ok, L[k]? = some ok → staticPure ok.op = false → isLoadOp ok.op = false → tr.length ∈ tab.getD k [] → False) → True) ∧
      (find (prevHp st0 (later ++ r0 :: tr)) x = some xo ∨ ∃ l1 rk trk, later ++ r0 :: tr = l1 ++ rk :: trk ∧ tr.length < trk.length ∧ rk.kd = 2 ∧ tr.length ∈ tab.getD trk.length [])
  | [], _ => by
    refine ⟨?_, fun _ => trivial, .inl ?_⟩
    · simp only [List.nil_append, heapD, hi, Bool.false_eq_true, if_false]; exact hin
    · show find r0.hp x = _
      rw [hr0]; exact hf
  | r :: l, hg => by
    obtain ⟨hgt, o', hr⟩ := GoodTr.inv (tr := l ++ r0 :: tr) hg
    obtain ⟨ih1, _, ih3⟩ := load_tail ho hlo hns hx hf hr0 hlow ht hc hi hxl hin hgt
    have hlen : tr.length < (l ++ r0 :: tr).length := by simp; omega
    by_cases hk : r.kd = 2
    · have hfo := kd_effect hr hk
      -- is it waited for?
      by_cases hw : tr.length ∈ tab.getD (l ++ r0 :: tr).length []
      · have hDk : D (l ++ r0 :: tr).length = false := by
          rw [Bool.eq_false_iff]
          intro hD
          have := waits_in ht hc (l ++ r0 :: tr).length tr.length (fun o' ho' e he hb => hc _ o' ho' hD e he hb) hw
          rw [this] at hi; cases hi
        refine ⟨?_, fun _ => trivial, .inr ⟨[], r, l ++ r0 :: tr, rfl, hlen, hk, hw⟩⟩
        simp only [List.cons_append, heapD, hDk, Bool.false_eq_true, if_false]
        exact ih1
      · have htg : r.tg.isSome = true := by
          rcases forced_spec hfo.1 tr.length o ho with h1 | h1 | h1 | h1 | h1
          · omega
          · rw [hns] at h1; cases h1
          · rw [Nat.zero_add] at h1; exact absurd h1 hw
          · rw [Nat.zero_add] at h1; have := hlow _ _ h1; omega
          · exact h1.1
        cases htt : r.tg with
        | none => rw [htt] at htg; cases htg
        | some t =>
          have hst := kd_store hr hk htt
          have hsp := loads_spec ho hlo hst.2
          rcases hsp with hsp | ⟨x', hx', hne, hpl⟩
          · exact absurd (by simpa using hsp) hw
          · rw [hx] at hx'
            cases hx'
            have hplx : plainO (some xo) = true := by rw [hf] at hpl; exact hpl
            rcases ih3 with h3 | ⟨l1, rk, trk, e1, e2, e3, e4⟩
            · have hr' : find r.hp x = some xo := by
                refine hst.1 x xo hne ?_ hplx h3
                have h2 := nx_grows (later := l ++ [r0]) (tr := tr) (by simpa using hgt)
                have h4 : prevNx st0 tr ≤ prevNx st0 (l ++ r0 :: tr) := by simpa using h2
                omega
              refine ⟨?_, fun _ => trivial, .inl hr'⟩
              simp only [List.cons_append, heapD]
              split
              · first | exact hr' | (rw [if_pos hk]; exact hr')
              · exact ih1
            · -- an earlier store waits for the load; this one waits for that one
              have hgk : GoodTr P sp N L tab st0 (rk :: trk) := GoodTr.tail (later := l1) (by rw [← e1]; exact hgt)
              obtain ⟨_, ok, hrk⟩ := hgk.inv
              have hkk := kd_effect hrk e3
              have hlt : trk.length < (l ++ r0 :: tr).length := by rw [e1]; simp; omega
              have hDk : D (l ++ r0 :: tr).length = false := by
                rw [Bool.eq_false_iff]
                intro hD
                have hdk : D trk.length = true := by
                  rcases forced_spec hfo.1 trk.length ok hrk.op with h1 | h1 | h1 | h1 | h1
                  · omega
                  · rw [hkk.2.1] at h1; cases h1
                  · rw [Nat.zero_add] at h1
                    exact waits_in ht hc _ trk.length (fun o' ho' e he hb => hc _ o' ho' hD e he hb) h1
                  · rw [Nat.zero_add] at h1; have := hlow _ _ h1; omega
                  · rw [hkk.2.2] at h1; cases h1.2
                have := waits_in ht hc trk.length tr.length (fun o' ho' e he hb => hc _ o' ho' hdk e he hb) e4
                rw [this] at hi; cases hi
              refine ⟨?_, fun _ => trivial, .inr ⟨r :: l1, rk, trk, by rw [List.cons_append, e1]; rfl, e2, e3, e4⟩⟩
              simp only [List.cons_append, heapD, hDk, Bool.false_eq_true, if_false]
              exact ih1
    · have hoth := kd_other hr hk
      have hnone : find r.nw x = none := by
        cases hn : find r.nw x with
        | none => rfl
        | some y =>
          have h1 := (hoth.2.1 x y hn).1
          have h2 := nx_grows (later := l ++ [r0]) (tr := tr) (by simpa using hgt)
          have h3 : prevNx st0 tr ≤ prevNx st0 (l ++ r0 :: tr) := by simpa using h2
          omega
      refine ⟨?_, fun _ => trivial, ?_⟩
      · simp only [List.cons_append, heapD]
        split
        · first | (rw [find_append, hnone]; exact ih1) | (rw [if_neg hk, find_append, hnone]; exact ih1)
        · exact ih1
      · rcases ih3 with h3 | ⟨l1, rk, trk, e1, e2, e3, e4⟩
        · left
          show find r.hp x = _
          rw [hoth.1, find_append, hnone]; exact h3
        · right
          exact ⟨r :: l1, rk, trk, by rw [List.cons_append, e1]; rfl, e2, e3, e4⟩

theorem heap_tail {D : Nat → Bool} {i : Nat} {o : Oper} (hns : staticPure o.op = false) (hnl : isLoadOp o.op = false) (ho : L[i]? = some o) (hlow : ∀ i k, k ∈ tab.getD i [] → k < i) (ht : TabOK L tab) (hc : Closed L D) (hi : D i = false) {tr : List Rec} (htr : i < tr.length) {h : Nat} (hh : h < prevNx st0 tr) :
    ∀ {later : List Rec}, GoodTr P sp N L tab st0 (later ++ tr) → find (heapD D st0 (later ++ tr)) h = find (heapD D st0 tr) h
  | [], _ => rfl
  | r :: l, hg => by
      obtain ⟨hgt, o', hr⟩ := GoodTr.inv (tr := l ++ tr) hg
      have ih := heap_tail hns hnl ho hlow ht hc hi htr hh hgt
      simp only [List.cons_append, heapD]
      split
      · rename_i hD
        split
        · rename_i hk
          have := kd_effect hr hk
          rw [not_later hns hnl ho hr.op this.2.1 this.2.2 hlow ht hc hi (by simp; omega) (.inl this.1)] at hD
          cases hD
        · rename_i hk
          rw [find_append]
          have : find r.nw h = none := by
            cases hn : find r.nw h with
            | none => rfl
            | some x =>
              have h1 := ((kd_other hr hk).2.1 h x hn).1
              have h2 := nx_grows hgt
              omega
          rw [this]
          exact ih
      · exact ih

/-- A maker's objects come in. -/
theorem heap_insert {D D' : Nat → Bool} {tr : List Rec} {r : Rec} {o : Oper} (hns : staticPure o.op = false) (hnl : isLoadOp o.op = false) (ho : L[tr.length]? = some o) (hlow : ∀ i k, k ∈ tab.getD i [] → k < i) (ht : TabOK L tab) (hc : Closed L D) (hi : D tr.length = false) (hbase : Base st0)
    (hD1 : D' tr.length = true) (hD2 : ∀ j, j ≠ tr.length → D' j = D j) (hk : r.kd ≠ 2) {h : Nat} :
    ∀ {later : List Rec}, GoodTr P sp N L tab st0 (later ++ r :: tr) → find (heapD D' st0 (later ++ r :: tr)) h = (find (heapD D st0 (later ++ r :: tr)) h).or (find r.nw h)
  | [], hg => by
    cases hg with
    | cons hgt o' hr =>
      simp only [List.nil_append, heapD, hD1, hi, if_true, if_neg hk, find_append, Bool.false_eq_true, if_false]
      rw [heapD_congr (D := D) (D' := D') (fun j hj => hD2 j (by omega))]
      cases hn : find r.nw h with
      | none => simp
      | some x =>
        have h1 := ((kd_other hr hk).2.1 h x hn).1
        cases hd : find (heapD D st0 tr) h with
        | none => rfl
        | some y =>
          have := heapD_key hbase hgt h y hd
          omega
  | r' :: l, hg => by
      obtain ⟨hgt, o', hr⟩ := GoodTr.inv (tr := l ++ r :: tr) hg
      have ih := heap_insert hns hnl ho hlow ht hc hi hbase hD1 hD2 hk (h := h) hgt
      simp only [List.cons_append, heapD]
      rw [hD2 _ (by simp; omega)]
      split
      · rename_i hD
        split
        · rename_i hk'
          have := kd_effect hr hk'
          rw [not_later hns hnl ho hr.op this.2.1 this.2.2 hlow ht hc hi (by simp; omega) (.inl this.1)] at hD
          cases hD
        · simp only [find_append, ih, Option.or_assoc]
      · exact ih

/-- An operation that makes nothing changes nothing. -/
theorem heap_same {D D' : Nat → Bool} {tr : List Rec} {r : Rec} (hi : D tr.length = false)
    (hD1 : D' tr.length = true) (hD2 : ∀ j, j ≠ tr.length → D' j = D j) (hk : r.kd ≠ 2) (hn : r.nw = []) :
    ∀ {later : List Rec}, heapD D' st0 (later ++ r :: tr) = heapD D st0 (later ++ r :: tr)
  | [] => by
    simp only [List.nil_append, heapD, hD1, hi, if_true, if_neg hk, hn, Bool.false_eq_true, if_false]
    exact heapD_congr (fun j hj => hD2 j (by omega))
  | r' :: l => by
    have ih := heap_same hi hD1 hD2 hk hn (later := l)
    simp only [List.cons_append, heapD]
    rw [hD2 _ (by simp; omega), ih]

/-- Before an effect all that could change or make has come up. -/
theorem heap_before {D : Nat → Bool} {i : Nat} (hall : ∀ j oj, j < i → L[j]? = some oj → (staticPure oj.op || isLoadOp oj.op) = false → D j = true) {tr : List Rec} (hg : GoodTr P sp N L tab st0 tr) :
    tr.length ≤ i → heapD D st0 tr = prevHp st0 tr ∧ ∀ h, h < prevNx st0 tr → bornBy D st0 tr h = true := by
  induction hg with
  | nil => exact fun _ => ⟨rfl, fun _ _ => rfl⟩
  | @cons tr r hgt o hr ih =>
    intro hl
    have hl : tr.length + 1 ≤ i := hl
    have ih := ih (by omega)
    constructor
    · simp only [heapD]
      show _ = r.hp
      by_cases hk : r.kd = 2
      · rw [if_pos (hall _ o (by omega) hr.op (by rw [(kd_effect hr hk).2.1, (kd_effect hr hk).2.2]; rfl)), if_pos hk]
      · have h1 := kd_other hr hk
        rw [h1.1, if_neg hk, ih.1]
        split
        · rfl
        · rename_i hD
          cases hs : (staticPure o.op || isLoadOp o.op) with
          | true => rw [(h1.2.2 hs).1]; rfl
          | false => exact absurd (hall _ o (by omega) hr.op hs) hD
    · intro h hh
      have hh : h < r.nx := hh
      simp only [bornBy]
      split
      · rename_i e
        rw [Nat.ble_eq] at e
        cases hs : (staticPure o.op || isLoadOp o.op) with
        | false => exact hall _ o (by omega) hr.op hs
        | true =>
          have := ((kd_other hr (kd_static hr hs)).2.2 hs).2
          omega
      · rename_i e
        apply ih.2
        rw [Bool.eq_false_iff] at e
        have : ¬ (prevNx st0 tr ≤ h) := fun hc => e (Nat.ble_eq_true_of_le hc)
        omega

theorem heap_after {D : Nat → Bool} {i : Nat} (hall : ∀ j oj, i < j → L[j]? = some oj → (staticPure oj.op || isLoadOp oj.op) = false → D j = false) {tr : List Rec} (htr : i < tr.length) :
    ∀ {later : List Rec}, GoodTr P sp N L tab st0 (later ++ tr) → heapD D st0 (later ++ tr) = heapD D st0 tr
  | [], _ => rfl
  | r :: l, hg => by
      obtain ⟨hgt, o, hr⟩ := GoodTr.inv (tr := l ++ tr) hg
      have ih := heap_after hall htr hgt
      simp only [List.cons_append, heapD]
      split
      · rename_i hD
        cases hs : (staticPure o.op || isLoadOp o.op) with
        | false => rw [hall _ o (by simp; omega) hr.op hs] at hD; cases hD
        | true =>
          have hk := kd_static hr hs
          rw [if_neg hk, ((kd_other hr hk).2.2 hs).1, ih]
          rfl
      · exact ih
end

end Go.Sx
