/- A symbolic executor for the model's code: regions that draw their order, proved. -/
import Derived.Test.YtndhdojnlobloaaSxM
set_option linter.unusedSectionVars false
set_option linter.unusedSimpArgs false
set_option linter.unusedVariables false
open Go.RowKit
namespace Go.Sx

section
variable [Globs] {P : Program} {sp : Specs} {B : Bd} {N n0 : Nat} {L : List Oper} {tab : List (List Nat)} {st0 : St} {ρ0 : Env} {w0 : World}

/-- The guard of an operation has said yes, or no. -/
def GuardSays (L : List Oper) (tab : List (List Nat)) (st0 : St) (o : Oper) (tr : List Rec) (b : Bool) : Prop :=
  match o.guard with
  | none => b = true
  | some (g, want) => ∃ t v, dstOf L g = some t ∧ slotTr L (tab.getD tr.length []) st0 t tr = some v ∧ ((∃ c, v = vb c ∧ (c == want) = b) ∨ ((∃ l, v = .w (.c (.d (.v (.tuple l))))) ∧ b = false))

inductive Kind [Globs] (P : Program) (sp : Specs) (L : List Oper) (tab : List (List Nat)) (st0 : St) (o : Oper) (tr : List Rec) (r : Rec) : Prop where
  | skip (g : GuardSays L tab st0 o tr false) (h : r = ⟨vu, prevHp st0 tr, prevNx st0 tr, 0, [], none⟩)
  | pure (g : GuardSays L tab st0 o tr true) (ob : Prop) (hs : stepV P o.op (rdTr L (namesOf L o) (tab.getD tr.length []) st0 tr) [] = some (ob, r.v)) (ho : ob) (hk : okRes (tab.getD tr.length []) st0 tr r.v [] (prevNx st0 tr) = true) (h : r = ⟨r.v, prevHp st0 tr, prevNx st0 tr, 0, [], none⟩)
  | load (g : GuardSays L tab st0 o tr true) (hp : staticPure o.op = false) (hl : isLoadOp o.op = true) (x : Nat) (xo : O) (hx : loadAt o.op (rdTr L (namesOf L o) (tab.getD tr.length []) st0 tr) = some x) (hf : find (prevHp st0 tr) x = some xo)
      (hb : bornBy (fun j => (tab.getD tr.length []).contains j) st0 tr x = true) (hst : storesFree st0 (tab.getD tr.length []) x tr = true) (ob : Prop)
      (hs : stepV P o.op (rdTr L (namesOf L o) (tab.getD tr.length []) st0 tr) [(x, xo)] = some (ob, r.v)) (ho : ob) (hk : okRes (tab.getD tr.length []) st0 tr r.v [] (prevNx st0 tr) = true) (h : r = ⟨r.v, prevHp st0 tr, prevNx st0 tr, 0, [], none⟩)
  | mono (g : GuardSays L tab st0 o tr true) (hp : staticPure o.op = false) (hl : isLoadOp o.op = false) (hm : monoOp sp o.op (rdTr L (namesOf L o) (tab.getD tr.length []) st0 tr) = true) (res : Res)
      (hs : step P sp o.op (rdTr L (namesOf L o) (tab.getD tr.length []) st0 tr) (seenHp (tab.getD tr.length []) st0 tr) (prevNx st0 tr) = some res) (ho : res.ob)
      (hk : okRes (tab.getD tr.length []) st0 tr res.v (newsOf (prevNx st0 tr) res.hp) res.nx = true)
      (h : r = ⟨res.v, newsOf (prevNx st0 tr) res.hp ++ prevHp st0 tr, res.nx, 1, newsOf (prevNx st0 tr) res.hp, none⟩)
  | effect (g : GuardSays L tab st0 o tr true) (hp : staticPure o.op = false) (hl : isLoadOp o.op = false) (hf : forcedB tab tr.length ((freeStore L tab st0 o tr).isSome) 0 L = true) (res : Res)
      (hs : step P sp o.op (rdTr L (namesOf L o) (tab.getD tr.length []) st0 tr) (prevHp st0 tr) (prevNx st0 tr) = some res) (ho : res.ob)
      (hk : okRes (tab.getD tr.length []) st0 tr res.v res.hp res.nx = true) (h : r = ⟨res.v, res.hp, res.nx, 2, [], freeStore L tab st0 o tr⟩)

structure RecOK [Globs] (P : Program) (sp : Specs) (N : Nat) (L : List Oper) (tab : List (List Nat)) (st0 : St) (tr : List Rec) (r : Rec) (o : Oper) : Prop where
  op : L[tr.length]? = some o
  dst : okDst N o.dst = true
  kind : Kind P sp L tab st0 o tr r

inductive GoodTr [Globs] (P : Program) (sp : Specs) (N : Nat) (L : List Oper) (tab : List (List Nat)) (st0 : St) : List Rec → Prop where
  | nil : GoodTr P sp N L tab st0 []
  | cons {tr : List Rec} {r : Rec} (h : GoodTr P sp N L tab st0 tr) (o : Oper) (hr : RecOK P sp N L tab st0 tr r o) : GoodTr P sp N L tab st0 (r :: tr)

theorem obT_spec {t : Bool} {ob k : Prop} (h : obT t ob k) (ht : t = true → ob) : ob ∧ k := by
  cases t
  · exact ⟨h.1.h, h.2⟩
  · exact ⟨ht rfl, h⟩

theorem triv_obV {op : Op} {rd : Operand → Option V} {hp : Hp} {ob : Prop} {v : V} (ht : trivB op rd hp = true) (h : stepV P op rd hp = some (ob, v)) : ob :=
  triv_ob (sp := fun _ => none) (nx := 0) (r := ⟨ob, v, hp, 0⟩) (P := P) ht (by unfold step; rw [h])

theorem setTr_same {bef : List Nat} {t : Nat} {v : V} : ∀ {tr : List Rec}, slotTr L bef st0 t tr = some v → setTr L t v tr = tr
  | [], _ => rfl
  | r :: tr, h => by
    simp only [slotTr] at h
    simp only [setTr]
    cases hd : dstOf L tr.length with
    | none =>
      simp only [hd] at h
      rw [setTr_same h]
    | some d =>
      simp only [hd] at h ⊢
      split at h
      · rename_i e
        rw [if_pos e]
        split at h
        · cases h; rfl
        · cases h
      · rename_i e
        rw [if_neg e, setTr_same h]

theorem dop_spec {o : Oper} {tr : List Rec} {k : Rec → Prop} (h : dop P sp N L tab st0 o tr k) (hg : GuardSays L tab st0 o tr true) (hL : L[tr.length]? = some o) : ∃ r, k r ∧ RecOK P sp N L tab st0 tr r o := by
  unfold dop at h
  split at h
  · exact h.elim
  · rename_i hd
    split at h
    · rename_i ob v hs
      split at h
      · rename_i hok
        obtain ⟨ho, hk⟩ := obT_spec h (fun ht => triv_obV ht hs)
        exact ⟨_, hk, hL, hd, .pure hg ob hs ho hok rfl⟩
      · exact h.elim
    · split at h
      · exact h.elim
      · rename_i hsp
        split at h
        · rename_i hl
          split at h
          · exact h.elim
          · rename_i x hx
            split at h
            · exact h.elim
            · rename_i xo hf
              split at h
              · exact h.elim
              · rename_i hbs
                split at h
                · exact h.elim
                · rename_i ob v hs
                  split at h
                  · rename_i hok
                    obtain ⟨ho, hk⟩ := obT_spec h (fun ht => triv_obV ht hs)
                    simp only [Bool.and_eq_true] at hbs
                    exact ⟨_, hk, hL, hd, .load hg hsp hl x xo hx hf hbs.1 hbs.2 ob hs ho hok rfl⟩
                  · exact h.elim
        · rename_i hl
          split at h
          · rename_i hm
            split at h
            · rename_i res hs
              split at h
              · rename_i hok
                obtain ⟨ho, hk⟩ := obT_spec h (fun ht => triv_ob ht hs)
                exact ⟨_, hk, hL, hd, .mono hg hsp hl hm res hs ho hok rfl⟩
              · exact h.elim
            · exact h.elim
          · split at h
            · exact h.elim
            · rename_i hf
              split at h
              · rename_i res hs
                split at h
                · rename_i hok
                  obtain ⟨ho, hk⟩ := obT_spec h (fun ht => triv_ob ht hs)
                  exact ⟨_, hk, hL, hd, .effect hg hsp hl hf res hs ho hok rfl⟩
                · exact h.elim
              · exact h.elim

theorem dskip_spec {o : Oper} {tr : List Rec} {k : Rec → Prop} (h : dskip N st0 o tr k) (hg : GuardSays L tab st0 o tr false) (hL : L[tr.length]? = some o) : ∃ r, k r ∧ RecOK P sp N L tab st0 tr r o := by
  unfold dskip at h
  split at h
  · exact h.elim
  · rename_i hd
    exact ⟨_, h, hL, hd, .skip hg rfl⟩

theorem drun_spec : ∀ (rest : List Oper) (tr : List Rec) (k : List Rec → Prop), drun P sp N L tab st0 rest tr k → GoodTr P sp N L tab st0 tr → L = L.take tr.length ++ rest → tr.length + rest.length = L.length →
    ∃ T, k T ∧ GoodTr P sp N L tab st0 T ∧ T.length = L.length
  | [], tr, k, h, hg, _, hlen => ⟨tr, h, hg, by simpa using hlen⟩
  | o :: rest, tr, k, h, hg, hL, hlen => by
    have hlt : tr.length < L.length := by simp at hlen; omega
    have ho : L[tr.length]? = some o := by
      rw [hL, List.getElem?_append_right (by simp; omega)]
      simp [Nat.min_eq_left (Nat.le_of_lt hlt)]
    have next : ∀ r, drun P sp N L tab st0 rest (r :: tr) k → RecOK P sp N L tab st0 tr r o → ∃ T, k T ∧ GoodTr P sp N L tab st0 T ∧ T.length = L.length := by
      intro r hr hok
      refine drun_spec rest (r :: tr) k hr (.cons hg o hok) ?_ (by simp at hlen ⊢; omega)
      have h1 : L.take (tr.length + 1) = L.take tr.length ++ [o] := by
        rw [List.take_succ_eq_append_getElem hlt]
        congr 2
        have := List.getElem?_eq_getElem hlt
        rw [this] at ho
        exact Option.some.inj ho
      simp only [List.length_cons, h1, List.append_assoc, List.singleton_append]
      exact hL
    unfold drun at h
    split at h
    · rename_i hgd
      obtain ⟨r, hk, hok⟩ := dop_spec h (by unfold GuardSays; rw [hgd]) ho
      exact next r hk hok
    · rename_i g want hgd
      split at h
      · exact h.elim
      · rename_i t hdt
        split at h
        · rename_i b hsl
          have hset : ∀ c, b = c → setTr L t (vb c) tr = tr := fun c e => setTr_same (by rw [hsl, e]; rfl)
          have says : ∀ c d, b = c → (c == want) = d → GuardSays L tab st0 o tr d := fun c d e e2 => by
            unfold GuardSays
            rw [hgd]
            exact ⟨t, _, hdt, hsl, .inl ⟨b, rfl, by rw [e]; exact e2⟩⟩
          cases b <;> cases want <;> simp only [Br, hset _ rfl] at h
          · obtain ⟨r, hk, hok⟩ := dop_spec h (says false true rfl rfl) ho
            exact next r hk hok
          · obtain ⟨r, hk, hok⟩ := dskip_spec (P := P) (sp := sp) h (says false false rfl rfl) ho
            exact next r hk hok
          · obtain ⟨r, hk, hok⟩ := dskip_spec (P := P) (sp := sp) h (says true false rfl rfl) ho
            exact next r hk hok
          · obtain ⟨r, hk, hok⟩ := dop_spec h (says true true rfl rfl) ho
            exact next r hk hok
        · rename_i l hsl
          obtain ⟨r, hk, hok⟩ := dskip_spec (P := P) (sp := sp) h (by unfold GuardSays; rw [hgd]; exact ⟨t, _, hdt, hsl, .inr ⟨⟨l, rfl⟩, rfl⟩⟩) ho
          exact next r hk hok
        · exact h.elim

/-! ### what holds when some of the operations have come up -/

def slotD (L : List Oper) (D : Nat → Bool) (st0 : St) (t : Nat) : List Rec → Option V
  | [] => getT st0.tm t
  | r :: tr => if dstOf L tr.length = some t ∧ D tr.length = true then some r.v else slotD L D st0 t tr

def heapD (D : Nat → Bool) (st0 : St) : List Rec → Hp
  | [] => st0.hp
  | r :: tr => if D tr.length = true then (if r.kd = 2 then r.hp else r.nw ++ heapD D st0 tr) else heapD D st0 tr

theorem find_append {a b : Hp} {h : Nat} : find (a ++ b) h = (find a h).or (find b h) := by
  induction a with
  | nil => rfl
  | cons p r ih =>
    obtain ⟨k, o⟩ := p
    simp only [List.cons_append, find]
    split
    · rfl
    · exact ih

theorem find_filter {hp : Hp} {p : Nat → Bool} {h : Nat} : find (hp.filter fun x => p x.1) h = if p h = true then find hp h else none := by
  induction hp with
  | nil => simp [find]
  | cons x r ih =>
    obtain ⟨k, o⟩ := x
    simp only [List.filter_cons, find]
    by_cases hk : p k = true
    · rw [if_pos hk]
      simp only [find]
      by_cases e : k = h
      · subst e; simp [hk]
      · rw [if_neg e, if_neg e]; exact ih
    · rw [if_neg hk]
      by_cases e : k = h
      · subst e; rw [ih]; simp [hk]
      · rw [if_neg e]; exact ih
end

end Go.Sx
