/- Part 3 of the proof of FilterTextsCard: the executor, the mirrors of the functions, the plain facts. -/
import Derived.Test.YtdhkaolcbnihlaaGreatDoorPB
import Derived.IntWalk
import Derived.RangeFuncNested
import Derived.RangeFuncBound
import Derived.RangeFuncCalls
import Derived.RangeFuncLeaves
import Derived.Shelf.Abstract
import Derived.Shelf.RegionOpen
import Derived.WalkKit
import Derived.OwnWalkIn
import Derived.TacticsInMore
import Derived.LoopNIn
import Derived.LoopIn
import Derived.Test.YtdhkaolcbnihlaaGreatDoorProg
set_option maxRecDepth 100000
set_option linter.unusedSectionVars false
set_option linter.unusedSimpArgs false
set_option linter.unusedVariables false
section
open Go.RowKit
namespace Go.Sx
theorem O.ok_eqB {p : Nat → Bool} {ρ ρ' : Env} {B : Bd} {h : Nat} {w : World} (ha : ∀ x, p x = true → ρ' x = ρ x) (hh : ρ' h = ρ h) : ∀ {o : O}, o.allB p = true → o.ok ρ B w h → o.ok ρ' B w h
 | .box ty cs, hl, ⟨k, h1, h2, h3⟩ => ⟨k, hh.trans h1, h2, by
   rw [h3]; congr 3; exact List.map_congr_left fun a ha' => (C.val_eqB ha (List.all_eq_true.1 hl a ha')).symm⟩
 | .row ty c, _, hr => by unfold O.ok at *; rw [hh]; exact hr
 | .ext c, _, hr => by unfold O.ok at *; rw [hh]; exact hr
 | .view r c _, hl, hr => by
  have hl' : p r = true := hl
  unfold O.ok at *; rw [hh]; simp only; exact hr
 | .dead, _, _ => trivial
 | .nan _, _, hr => by unfold O.ok at *; rw [hh]; exact hr
 | .err, _, hr => by unfold O.ok at *; rw [hh]; exact hr
 | .atom, _, hr => by unfold O.ok at *; rw [hh]; exact hr
 | .ebox cs, hl, ⟨k, o, h1, h2, h3⟩ => ⟨k, o, hh.trans h1, h2, fun j c hj => by rw [C.val_eqB ha (List.all_eq_true.1 hl c (List.mem_of_getElem? hj))]; exact h3 j c hj⟩
 | .arr _ _ _ _, _, hr => by unfold O.ok at *; rw [hh]; exact hr
 | .xext _, _, hr => by unfold O.ok at *; rw [hh]; exact hr
 | .map _, _, hr => by unfold O.ok at *; rw [hh]; exact hr
 | .rrow _, _, hr => by unfold O.ok at *; rw [hh]; exact hr
def jcL (ρ ρ' : Env) (lo hi : Nat) : Env := fun h => match Nat.ble lo h && Nat.blt h hi with
 | true => ρ' h
 | false => ρ h
section
variable [Globs] {P : Program} {sp : jaa} {B : Bd} {N n0 : Nat} {L : List Oper} {tab : List (List Nat)} {st0 : St} {ρ0 : Env} {w0 : World} {ds : List Deferred}
structure At [Globs] (P : Program) (sp : jaa) (N : Nat) (L : List Oper) (tab : List (List Nat)) (st0 : St) (D D' : Nat → Bool) (later : List Rec) (r : Rec) (tr : List Rec) (o : Oper) : Prop where
 good : GoodTr P sp N L tab st0 (later ++ r :: tr)
 len : (later ++ r :: tr).length = L.length
 ok : RecOK P sp N L tab st0 tr r o
 slots : jcn L tab 0 L = true
 edges : jdq 0 L = true
 tabok : jcj L tab
 closed : jca L D
 out : D tr.length = false
 bef : ∀ j, j ∈ tab.getD tr.length [] → D j = true
 D1 : D' tr.length = true
 D2 : ∀ j, j ≠ tr.length → D' j = D j
 base : jhv st0
 baseTm : ∀ t v, jaX st0.tm t = some v → v.lt st0.nx
 n0 : n0 ≤ st0.nx
variable {D D' : Nat → Bool} {later tr : List Rec} {r : Rec} {o : Oper} {a : Act} {w w' : World} {ρ ρ' : Env}
theorem At.low (h : At (n0 := n0) P sp N L tab st0 D D' later r tr o) : ∀ i k, k ∈ tab.getD i [] → k < i := joX h.edges h.tabok
theorem At.gr (h : At (n0 := n0) P sp N L tab st0 D D' later r tr o) : GoodTr P sp N L tab st0 (r :: tr) := GoodTr.tail h.good
theorem At.gt (h : At (n0 := n0) P sp N L tab st0 D D' later r tr o) : GoodTr P sp N L tab st0 tr := h.gr.inv.1
theorem At.mono (h : At (n0 := n0) P sp N L tab st0 D D' later r tr o) : ∀ j, D j = true → D' j = true := fun j hj => by
 by_cases e : j = tr.length
 ·rw [e]; exact h.D1
 ·rw [h.D2 j e]; exact hj
theorem At.nx (h : At (n0 := n0) P sp N L tab st0 D D' later r tr o) : r.nx ≤ jab st0 (later ++ r :: tr) := jdf (tr := r :: tr) h.good
theorem At.alive_mono (h : At (n0 := n0) P sp N L tab st0 D D' later r tr o) {x : Nat} (hx : jaW st0 (later ++ r :: tr) D x = true) : jaW st0 (later ++ r :: tr) D' x = true := by
 simp only [jaW, Bool.and_eq_true] at hx ⊢
 exact ⟨hx.1, jek h.mono _ _ hx.2⟩
theorem At.alive_out (h : At (n0 := n0) P sp N L tab st0 D D' later r tr o) {x : Nat} (hx : jaW st0 (later ++ r :: tr) D x = true) : ¬ (jab st0 tr ≤ x ∧ x < r.nx) := by
 rintro ⟨h1, h2⟩
 simp only [jaW, Bool.and_eq_true] at hx
 rw [jnq h.good h1 h2, h.out] at hx
 cases hx.2
theorem At.alive_new (h : At (n0 := n0) P sp N L tab st0 D D' later r tr o) {q : Nat → Bool} (hq : ∀ j, q j = true → D' j = true) {x : Nat}
  (hx : (Nat.blt x r.nx && (Nat.ble (jab st0 tr) x || jap q st0 tr x)) = true) : jaW st0 (later ++ r :: tr) D' x = true := by
 simp only [Bool.and_eq_true, Nat.blt_eq, Bool.or_eq_true] at hx
 simp only [jaW, Bool.and_eq_true, Nat.blt_eq]
 refine ⟨Nat.lt_of_lt_of_le hx.1 h.nx, ?_⟩
 by_cases hle : jab st0 tr ≤ x
 ·rw [jnq h.good hle hx.1]; exact h.D1
 ·have h1 : jap q st0 tr x = true := by
   rcases hx.2 with h1 | h1
   ·rw [Nat.ble_eq] at h1; exact absurd h1 hle
   ·exact h1
  have : later ++ r :: tr = (later ++ [r]) ++ tr := by simp
  rw [this, jgn (by rw [← this]; exact h.good) (by omega)]
  exact jek hq _ _ h1
theorem jjC (h : At (n0 := n0) P sp N L tab st0 D D' later r tr o) {x : Nat} (hx : jaW st0 (later ++ r :: tr) D x = true) : jcL ρ ρ' (jab st0 tr) r.nx x = ρ x := by
 have := h.alive_out hx
 unfold jcL
 split
 ·rename_i e
  simp only [Bool.and_eq_true, Nat.ble_eq, Nat.blt_eq] at e
  exact absurd e this
 ·rfl
theorem jgq {lo hi : Nat} (ha : jaf lo ρ ρ') : jaf hi ρ' (jcL ρ ρ' lo hi) := by
 intro x hx
 unfold jcL
 split
 ·rfl
 ·rename_i e
  have : ¬ lo ≤ x := fun hc => by
   rw [Bool.eq_false_iff] at e
   exact e (by simp only [Bool.and_eq_true, Nat.ble_eq, Nat.blt_eq]; exact ⟨hc, hx⟩)
  exact (ha x (by omega)).symm
theorem jkV {lo hi : Nat} {m : Nat} (hm : m ≤ lo) (ha : jaf m ρ0 ρ) : jaf m ρ0 (jcL ρ ρ' lo hi) := by
 intro x hx
 unfold jcL
 split
 ·rename_i e
  simp only [Bool.and_eq_true, Nat.ble_eq, Nat.blt_eq] at e
  omega
 ·exact ha x hx
theorem At.n0le (h : At (n0 := n0) P sp N L tab st0 D D' later r tr o) : n0 ≤ jab st0 tr := Nat.le_trans h.n0 (jh8 h.gt)
theorem jjD : ∀ {hp : Hp} {x : Nat}, find (hp.map fun y => (y.1, O.atom)) x = (find hp x).map fun _ => O.atom
 | [], _ => rfl
 | (k, o) :: hp, x => by
  simp only [List.map_cons, find]
  split
  ·rfl
  ·exact jjD
theorem jiU (h : At (n0 := n0) P sp N L tab st0 D D' later r tr o) (hinv : Inv ds L st0 B N n0 ρ0 w0 (later ++ r :: tr) D a w ρ) {ρ2 : Env} (hE : ∀ x, jaW st0 (later ++ r :: tr) D x = true → ρ2 x = ρ x)
  (hnew : ∀ x, jab st0 tr ≤ x → x < r.nx → C.one r.hp (.o x) = true → (ρ2 x).oneCell' = true) : ∀ x, jaW st0 (later ++ r :: tr) D' x = true → jbE st0 (later ++ r :: tr) x = true → (ρ2 x).oneCell' = true := by
 intro x hx hb
 by_cases hn : jab st0 tr ≤ x ∧ x < r.nx
 ·rw [jnZ h.good hn.1 hn.2] at hb
  exact hnew x hn.1 hn.2 hb
 ·have hx2 := hx
  simp only [jaW, Bool.and_eq_true, Nat.blt_eq] at hx2
  have hal : jaW st0 (later ++ r :: tr) D x = true := by
   simp only [jaW, Bool.and_eq_true, Nat.blt_eq]
   refine ⟨hx2.1, ?_⟩
   rw [jp1 (q := D') (q' := D) (fun j hj => (h.D2 j hj).symm) hn h.good hx2.1]
   exact hx2.2
  rw [hE x hal]
  exact hinv.one x hal hb
theorem jgr (h : At (n0 := n0) P sp N L tab st0 D D' later r tr o) (hinv : Inv ds L st0 B N n0 ρ0 w0 (later ++ r :: tr) D a w ρ) (hk : r.kd ≠ 2) (hn : r.nw = []) (hnx : r.nx = jab st0 tr)
  (hv : r.v.allB (fun x => Nat.blt x r.nx && (Nat.ble (jab st0 tr) x || jap (fun j => (tab.getD tr.length []).contains j) st0 tr x)) = true) :
  Inv ds L st0 B N n0 ρ0 w0 (later ++ r :: tr) D' (a.put o.dst (r.v.val ρ)) w ρ := by
 have he := jkU (st0 := st0) (later := later) h.out h.D1 h.D2 hk hn
 have hv' : r.v.allB (jaW st0 (later ++ r :: tr) D') = true := V.allB_mono (fun x hx => h.alive_new (fun j hj => h.mono j (h.bef j (by simpa using hj))) hx) hv
 refine ⟨jkw h.slots h.tabok h.closed h.out h.ok.op h.ok.dst h.D1 h.D2 hinv (fun _ _ => rfl) hv', by rw [jbH]; exact hinv.size, by rw [jdB]; exact hinv.defers, by rw [he]; exact hinv.heap, ?_, hinv.le, hinv.agree, hinv.below, jiU h hinv (fun _ _ => rfl) (fun x h1 h2 _ => by omega)⟩
 intro x ob hf
 rw [he] at hf
 have := hinv.hal x ob hf
 exact ⟨h.alive_mono this.1, O.allB_mono (fun y hy => h.alive_mono hy) this.2⟩
theorem jp3 (h : At (n0 := n0) P sp N L tab st0 D D' later r tr o) (hinv : Inv ds L st0 B N n0 ρ0 w0 (later ++ r :: tr) D a w ρ) (hns : jat o.op = false) (hnl : jaA o.op = false) (hk : r.kd ≠ 2)
  (hv : r.v.allB (fun x => Nat.blt x r.nx && (Nat.ble (jab st0 tr) x || jap (fun j => (tab.getD tr.length []).contains j) st0 tr x)) = true)
  (hnw : ∀ x ob, find r.nw x = some ob → ob.allB (fun x => Nat.blt x r.nx && (Nat.ble (jab st0 tr) x || jap (fun j => (tab.getD tr.length []).contains j) st0 tr x)) = true)
  (hag : jaf (jab st0 tr) ρ ρ') (hbl : Bel B w w') (hbw : Below w.heap.size w w') (hnew : HRel ρ' B r.nw r.nx w') (hfresh : ∀ x ob k, find r.nw x = some ob → ob.blk (ρ' x) = some k → w.heap.size ≤ k) :
  Inv ds L st0 B N n0 ρ0 w0 (later ++ r :: tr) D' (a.put o.dst (r.v.val (jcL ρ ρ' (jab st0 tr) r.nx))) w' (jcL ρ ρ' (jab st0 tr) r.nx) := by
 have hq : ∀ j, (tab.getD tr.length []).contains j = true → D' j = true := fun j hj => h.mono j (h.bef j (by simpa using hj))
 have hv' : r.v.allB (jaW st0 (later ++ r :: tr) D') = true := V.allB_mono (fun x hx => h.alive_new hq hx) hv
 have hE1 : ∀ x, jaW st0 (later ++ r :: tr) D x = true → jcL ρ ρ' (jab st0 tr) r.nx x = ρ x := fun x hx => jjC h hx
 have hE2 : jaf r.nx ρ' (jcL ρ ρ' (jab st0 tr) r.nx) := jgq hag
 have hins : ∀ x, find (jav D' st0 (later ++ r :: tr)) x = (find (jav D st0 (later ++ r :: tr)) x).or (find r.nw x) := fun x =>
  jiz hns hnl h.ok.op h.low h.tabok h.closed h.out h.base h.D1 h.D2 hk h.good
 have hkey : ∀ k ob, find r.nw k = some ob → jab st0 tr ≤ k ∧ k < r.nx := (jbI h.ok hk).2.1
 have hnew' := hnew.agree hE2
 refine ⟨jkw h.slots h.tabok h.closed h.out h.ok.op h.ok.dst h.D1 h.D2 hinv hE1 hv', by rw [jbH]; exact hinv.size, by rw [jdB]; exact hinv.defers, ⟨?_, ?_, hinv.heap.glob.bel hbl⟩, ?_, hbl.old hinv.le, jkV h.n0le hinv.agree, hinv.below.trans hbl, jiU h hinv hE1 (fun x h1 h2 h3 => by
  rw [hE2 x h2]
  refine C.one_val (c := .o x) hnew ?_
  have hh := (jbI h.ok hk).1
  have hnone : find (jaB st0 tr) x = none := by
   cases hf : find (jaB st0 tr) x with
   | none => rfl
   | some y => have := (keys h.gt h.base x y hf).1; omega
  simp only [C.one, hh, jau, hnone] at h3
  simp only [C.one]
  cases hf : find r.nw x with
  | none => rw [hf] at h3; cases h3
  | some y => rw [hf] at h3; exact h3)⟩
 ·intro x ob hf
  rw [hins] at hf
  cases hd : find (jav D st0 (later ++ r :: tr)) x with
  | some y =>
   rw [hd] at hf
   cases hf
   have h1 := hinv.heap.ok x ob hd
   have h2 := hinv.hal x ob hd
   exact ⟨h1.1, h1.2.1, O.ok_eqB hE1 (hE1 x h2.1) h2.2 (O.ok_below hbw hinv.le h1.2.2)⟩
  | none =>
   rw [hd] at hf
   have hf : find r.nw x = some ob := hf
   have h1 := hnew'.ok x ob hf
   exact ⟨Nat.lt_of_lt_of_le h1.1 h.nx, O.lt_mono h.nx h1.2.1, h1.2.2⟩
 ·intro x ob x' ob' k hf hf' hne hb
  rw [hins] at hf hf'
  have old : ∀ y oy, find (jav D st0 (later ++ r :: tr)) y = some oy → ∀ k, oy.blk (jcL ρ ρ' (jab st0 tr) r.nx y) = some k → k < w.heap.size := fun y oy hy k hk => by
   rw [hE1 y (hinv.hal y oy hy).1] at hk
   exact (O.blk_lt (hinv.heap.ok y oy hy).2.2 hk).1
  have new : ∀ y oy, find r.nw y = some oy → ∀ k, oy.blk (jcL ρ ρ' (jab st0 tr) r.nx y) = some k → w.heap.size ≤ k := fun y oy hy k hk => by
   rw [hE2 y (hkey y oy hy).2] at hk
   exact hfresh y oy k hy hk
  cases hd : find (jav D st0 (later ++ r :: tr)) x with
  | some y =>
   rw [hd] at hf
   cases hf
   cases hd' : find (jav D st0 (later ++ r :: tr)) x' with
   | some y' =>
    rw [hd'] at hf'
    cases hf'
    rw [hE1 x (hinv.hal x ob hd).1] at hb
    rw [hE1 x' (hinv.hal x' ob' hd').1]
    exact hinv.heap.apart x ob x' ob' k hd hd' hne hb
   | none =>
    rw [hd'] at hf'
    intro hb'
    have h1 := old x ob hd k hb
    have h2 := new x' ob' hf' k hb'
    omega
  | none =>
   rw [hd] at hf
   cases hd' : find (jav D st0 (later ++ r :: tr)) x' with
   | some y' =>
    rw [hd'] at hf'
    cases hf'
    intro hb'
    have h1 := old x' ob' hd' k hb'
    have h2 := new x ob hf k hb
    omega
   | none =>
    rw [hd'] at hf'
    exact hnew'.apart x ob x' ob' k hf hf' hne hb
 ·intro x ob hf
  rw [hins] at hf
  cases hd : find (jav D st0 (later ++ r :: tr)) x with
  | some y =>
   rw [hd] at hf
   cases hf
   have := hinv.hal x ob hd
   exact ⟨h.alive_mono this.1, O.allB_mono (fun y hy => h.alive_mono hy) this.2⟩
  | none =>
   rw [hd] at hf
   have hf : find r.nw x = some ob := hf
   have h1 := hkey x ob hf
   refine ⟨h.alive_new (q := fun _ => false) (fun _ hj => by cases hj) ?_, O.allB_mono (fun y hy => h.alive_new hq hy) (hnw x ob hf)⟩
   simp only [Bool.and_eq_true, Nat.blt_eq, Bool.or_eq_true]
   exact ⟨h1.2, .inl (Nat.ble_eq_true_of_le h1.1)⟩
theorem jn0 (h : At (n0 := n0) P sp N L tab st0 D D' later r tr o) (hinv : Inv ds L st0 B N n0 ρ0 w0 (later ++ r :: tr) D a w ρ) (hk : r.kd = 2)
  (hv : r.v.allB (fun x => Nat.blt x r.nx && (Nat.ble (jab st0 tr) x || jap (fun j => (tab.getD tr.length []).contains j) st0 tr x)) = true)
  (hnw : ∀ x ob, find r.hp x = some ob → ob.allB (fun x => Nat.blt x r.nx && (Nat.ble (jab st0 tr) x || jap (fun j => (tab.getD tr.length []).contains j) st0 tr x)) = true)
  (hag : jaf (jab st0 tr) ρ ρ') (hbl : Bel B w w') (hnew : HRel ρ' B r.hp r.nx w') :
  Inv ds L st0 B N n0 ρ0 w0 (later ++ r :: tr) D' (a.put o.dst (r.v.val (jcL ρ ρ' (jab st0 tr) r.nx))) w' (jcL ρ ρ' (jab st0 tr) r.nx) := by
 have hq : ∀ j, (tab.getD tr.length []).contains j = true → D' j = true := fun j hj => h.mono j (h.bef j (by simpa using hj))
 have hv' : r.v.allB (jaW st0 (later ++ r :: tr) D') = true := V.allB_mono (fun x hx => h.alive_new hq hx) hv
 have hE1 : ∀ x, jaW st0 (later ++ r :: tr) D x = true → jcL ρ ρ' (jab st0 tr) r.nx x = ρ x := fun x hx => jjC h hx
 have hE2 : jaf r.nx ρ' (jcL ρ ρ' (jab st0 tr) r.nx) := jgq hag
 have hfo := jbO h.ok hk
 have hall : ∀ j oj, tr.length < j → L[j]? = some oj → (jat oj.op || jaA oj.op) = false → D' j = false := fun j oj hij hj hs => by
  rw [h.D2 j (by omega)]
  simp only [Bool.or_eq_false_iff] at hs
  exact jff hfo.2.1 hfo.2.2 h.ok.op hj hs.1 hs.2 h.low h.tabok h.closed h.out hij (.inr hfo.1)
 have hbefore : ∀ j oj, j < tr.length → L[j]? = some oj → (jat oj.op || jaA oj.op) = false → D j = true := fun j oj hij hj hs => by
  simp only [Bool.or_eq_false_iff] at hs
  rcases jbN hfo.1 j oj hj with h1 | h1 | h1 | h1 | h1
  ·omega
  ·rw [hs.1] at h1; cases h1
  ·rw [Nat.zero_add] at h1; exact h.bef _ h1
  ·rw [Nat.zero_add] at h1; have := h.low _ _ h1; omega
  ·rw [hs.2] at h1; cases h1.2
 have hhp : jav D' st0 (later ++ r :: tr) = r.hp := by
  rw [jgp hall (i := tr.length) (tr := r :: tr) (by simp) h.good]
  simp only [jav, h.D1, hk, if_true]
 have hnew' := hnew.agree hE2
 refine ⟨jkw h.slots h.tabok h.closed h.out h.ok.op h.ok.dst h.D1 h.D2 hinv hE1 hv', by rw [jbH]; exact hinv.size, by rw [jdB]; exact hinv.defers, by rw [hhp]; exact hnew'.mono_nx h.nx, ?_, hbl.old hinv.le, jkV h.n0le hinv.agree, hinv.below.trans hbl, jiU h hinv hE1 (fun x h1 h2 h3 => by rw [hE2 x h2]; exact C.one_val (c := .o x) hnew h3)⟩
 intro x ob hf
 rw [hhp] at hf
 refine ⟨h.alive_new (q := D) h.mono ?_, O.allB_mono (fun y hy => h.alive_new hq hy) (hnw x ob hf)⟩
 have h1 := (hnew.ok x ob hf).1
 simp only [Bool.and_eq_true, Nat.blt_eq, Bool.or_eq_true]
 refine ⟨h1, ?_⟩
 by_cases hle : jab st0 tr ≤ x
 ·exact .inl (Nat.ble_eq_true_of_le hle)
 ·exact .inr ((jiA hbefore h.gt (Nat.le_refl _)).2 x (by omega))
theorem jp4 (h : At (n0 := n0) P sp N L tab st0 D D' later r tr o) (hinv : Inv ds L st0 B N n0 ρ0 w0 (later ++ r :: tr) D a w ρ) (hns : jat o.op = false) (hnl : jaA o.op = false) : HRel ρ B (jfS (tab.getD tr.length []) st0 tr) (jab st0 tr) w := by
 have key : ∀ x ob, find (jfS (tab.getD tr.length []) st0 tr) x = some ob → find (jav D st0 (later ++ r :: tr)) x = some ob ∧ x < jab st0 tr ∧ ob.lt (jab st0 tr) := by
  intro x ob hf
  unfold jfS at hf
  rw [jfz (p := fun x => jap (fun j => (tab.getD tr.length []).contains j) st0 tr x)] at hf
  split at hf
  ·rename_i hb
   have h1 := keys h.gt h.base x ob hf
   refine ⟨?_, h1⟩
   have h2 := jrb hns hnl h.ok.op h.low h.base h.bef h.gt (Nat.le_refl _) x ob hf hb
   rw [jkT hns hnl h.ok.op h.low h.tabok h.closed h.out (tr := r :: tr) (by simp) (show x < r.nx from Nat.lt_of_lt_of_le h1.1 h.ok.nx_le) h.good]
   simp only [jav, h.out, Bool.false_eq_true, if_false]
   exact h2
  ·cases hf
 exact ⟨fun x ob hf => ⟨(key x ob hf).2.1, (key x ob hf).2.2, (hinv.heap.ok x ob (key x ob hf).1).2.2⟩,
  fun x ob x' ob' k hf hf' => hinv.heap.apart x ob x' ob' k (key x ob hf).1 (key x' ob' hf').1, hinv.heap.glob⟩
theorem joZ (h : At (n0 := n0) P sp N L tab st0 D D' later r tr o) (hinv : Inv ds L st0 B N n0 ρ0 w0 (later ++ r :: tr) D a w ρ) (hns : jat o.op = false) (hnl : jaA o.op = false) {lf : Bool} (hf : jcX tab tr.length lf 0 L = true) : HRel ρ B (jaB st0 tr) (jab st0 tr) w := by
 have hbefore : ∀ j oj, j < tr.length → L[j]? = some oj → (jat oj.op || jaA oj.op) = false → D j = true := fun j oj hij hj hs => by
  simp only [Bool.or_eq_false_iff] at hs
  rcases jbN hf j oj hj with h1 | h1 | h1 | h1 | h1
  ·omega
  ·rw [hs.1] at h1; cases h1
  ·rw [Nat.zero_add] at h1; exact h.bef _ h1
  ·rw [Nat.zero_add] at h1; have := h.low _ _ h1; omega
  ·rw [hs.2] at h1; cases h1.2
 have hall : ∀ j oj, tr.length < j → L[j]? = some oj → (jat oj.op || jaA oj.op) = false → D j = false := fun j oj hij hj hs => by
  simp only [Bool.or_eq_false_iff] at hs
  exact jff hns hnl h.ok.op hj hs.1 hs.2 h.low h.tabok h.closed h.out hij (.inr hf)
 have e : jav D st0 (later ++ r :: tr) = jaB st0 tr := by
  rw [jgp hall (i := tr.length) (tr := r :: tr) (by simp) h.good]
  simp only [jav, h.out, Bool.false_eq_true, if_false]
  exact (jiA hbefore h.gt (Nat.le_refl _)).1
 have h1 := hinv.heap
 rw [e] at h1
 exact ⟨fun x ob hf => ⟨(keys h.gt h.base x ob hf).1, (keys h.gt h.base x ob hf).2, (h1.ok x ob hf).2.2⟩, h1.apart, h1.glob⟩
theorem jrC (hsp : jac P sp) (h : At (n0 := n0) P sp N L tab st0 D D' later r tr o) (hinv : Inv ds L st0 B N n0 ρ0 w0 (later ++ r :: tr) D a w ρ) {K : Act → World → Prop} {Q : Exit → Act → World → Prop}
  (hK : ∀ ρ' a' w', Inv ds L st0 B N n0 ρ0 w0 (later ++ r :: tr) D' a' w' ρ' → K a' w') : wpOp P L.toArray Q tr.length K a w := by
 have hgt := h.gt
 have hreads := jp2 h.good h.slots h.tabok h.closed h.out h.ok.op h.bef h.baseTm hinv
 have ho : L.toArray[tr.length]? = some o := by simpa using h.ok.op
 unfold wpOp
 rw [ho]
 dsimp only
 cases h.ok.kind with
 | skip g e =>
  rw [jdr h.slots h.tabok h.closed h.out h.ok.op h.bef hinv g]
  refine hK ρ _ _ ?_
  have := jgr h hinv (by rw [e]; exact (by decide : (0 : Nat) ≠ 2)) (by rw [e]) (by rw [e]) (by rw [e]; rfl)
  rw [show r.v.val ρ = undef by rw [e]; rfl] at this
  exact this
 | pure g ob hs ob' hk e =>
  rw [jdr h.slots h.tabok h.closed h.out h.ok.op h.bef hinv g]
  left
  have hh : HRel ρ B [] (jab st0 tr) w := ⟨(fun _ _ hf => by cases hf), (fun _ _ _ _ _ hf => by cases hf), hinv.heap.glob⟩
  have hrun := je7 hh hreads hs ob'
  unfold Oper.wp
  rw [hrun.1]
  refine hK ρ _ _ (jgr h hinv (by rw [e]; exact (by decide : (0 : Nat) ≠ 2)) (by rw [e]) (by rw [e]) ?_)
  have := jmb hk
  have e2 : r.nx = jab st0 tr := by rw [e]
  rw [e2]
  exact this
 | built g hbo ob hs ob' hk e =>
  rw [jdr h.slots h.tabok h.closed h.out h.ok.op h.bef hinv g]
  left
  have hfo : ∀ x ob, find (jfT (tab.getD tr.length []) st0 tr) x = some ob → ob = .atom ∧ x < jab st0 tr ∧ jap (fun j => (tab.getD tr.length []).contains j) st0 tr x = true ∧ jbE st0 tr x = true := by
   intro x ob hf
   unfold jfT at hf
   rw [jjD] at hf
   cases hy : find ((jaB st0 tr).filter fun x => jap (fun j => (tab.getD tr.length []).contains j) st0 tr x.1 && jbE st0 tr x.1) x with
   | none => rw [hy] at hf; cases hf
   | some y =>
    rw [hy] at hf
    cases hf
    rw [jfz (p := fun x => jap (fun j => (tab.getD tr.length []).contains j) st0 tr x && jbE st0 tr x)] at hy
    split at hy
    ·rename_i hp
     simp only [Bool.and_eq_true] at hp
     exact ⟨rfl, (keys h.gt h.base x y hy).1, hp.1, hp.2⟩
    ·cases hy
  have hh : HRel ρ B (jfT (tab.getD tr.length []) st0 tr) (jab st0 tr) w := by
   refine ⟨fun x ob hf => ?_, fun x ob x' ob' k hf hf' _ hb => ?_, hinv.heap.glob⟩
   ·obtain ⟨rfl, h1, h2, h3⟩ := hfo x ob hf
    refine ⟨h1, trivial, ?_⟩
    have e1 : later ++ r :: tr = (later ++ [r]) ++ tr := by simp
    refine hinv.one x ?_ ?_
    ·simp only [jaW, Bool.and_eq_true, Nat.blt_eq]
     refine ⟨Nat.lt_of_lt_of_le h1 (Nat.le_trans h.ok.nx_le h.nx), ?_⟩
     rw [e1, jgn (by rw [← e1]; exact h.good) h1]
     exact jek (fun j hj => h.bef j (by simpa using hj)) _ _ h2
    ·rw [e1, jgU (by rw [← e1]; exact h.good) h1]
     exact h3
   ·obtain ⟨rfl, _⟩ := hfo x ob hf
    cases hb
  have hrun := je7 hh hreads hs ob'
  unfold Oper.wp
  rw [hrun.1]
  refine hK ρ _ _ (jgr h hinv (by rw [e]; exact (by decide : (0 : Nat) ≠ 2)) (by rw [e]) (by rw [e]) ?_)
  have := jmb hk
  have e2 : r.nx = jab st0 tr := by rw [e]
  rw [e2]
  exact this
 | load g hp hl x xo hx hf hb hst ob hs ob' hk e =>
  rw [jdr h.slots h.tabok h.closed h.out h.ok.op h.bef hinv g]
  left
  have hxl := (keys h.gt h.base x xo hf).1
  have hin := jrc h.low h.base h.bef h.gt hf hb hst
  have htl := (jkS h.ok.op hl hp hx hf (by rw [e]) h.low h.tabok h.closed h.out hxl hin h.good).1
  have hok := hinv.heap.ok x xo htl
  have hh : HRel ρ B [(x, xo)] (jab st0 tr) w := by
   refine ⟨fun y oy hy => ?_, fun y oy y' oy' k hy hy' hne hby => ?_, hinv.heap.glob⟩
   ·simp only [find] at hy
    split at hy
    ·rename_i e1; subst e1; cases hy
     exact ⟨hxl, (keys h.gt h.base x xo hf).2, hok.2.2⟩
    ·cases hy
   ·simp only [find] at hy hy'
    split at hy
    ·rename_i e1; subst e1
     rw [if_neg hne] at hy'
     cases hy'
    ·cases hy
  have hrun := je7 hh hreads hs ob'
  unfold Oper.wp
  rw [hrun.1]
  refine hK ρ _ _ (jgr h hinv (by rw [e]; exact (by decide : (0 : Nat) ≠ 2)) (by rw [e]) (by rw [e]) ?_)
  have := jmb hk
  have e2 : r.nx = jab st0 tr := by rw [e]
  rw [e2]
  exact this
 | mono g hp hnl hm res hs ob hk e =>
  rw [jdr h.slots h.tabok h.closed h.out h.ok.op h.bef hinv g]
  left
  have hsnd := jeB hsp (jp4 h hinv hp hnl) hinv.le hreads hs ob
  rw [hm] at hsnd
  refine hsnd K Q fun ρ' w' hl => ?_
  have ev : r.v = res.v := by rw [e]
  have en : r.nw = jc4 (jab st0 tr) res.hp := by rw [e]
  have ex : r.nx = res.nx := by rw [e]
  have hsub : ∀ x ob, find r.nw x = some ob → find res.hp x = some ob ∧ jab st0 tr ≤ x := fun x ob hf => by
   rw [en, jkQ] at hf
   split at hf
   ·rename_i hle; exact ⟨hf, by simpa [Nat.ble_eq] using hle⟩
   ·cases hf
  have := jp3 h hinv hp hnl (by rw [e]; exact (by decide : (1 : Nat) ≠ 2)) (by rw [ev, ex]; exact jmb hk) (fun x ob hf => by rw [ex]; rw [en] at hf; exact (jjA hk hf).2) hl.agree hl.below (hl.mono rfl)
   (by rw [ex]; exact hl.heap.sub fun k o hf => (hsub k o hf).1) (fun x ob k hf hb => hl.fresh rfl x ob k (hsub x ob hf).2 (hsub x ob hf).1 hb)
  have e3 : res.v.val ρ' = r.v.val (jcL ρ ρ' (jab st0 tr) r.nx) := by
   rw [ev]
   exact (V.val_agree (jgq hl.agree) (by rw [ex]; exact hl.lt)).symm
  rw [e3]
  exact hK _ _ _ this
 | effect g hp hnl hf res hs ob hk e =>
  rw [jdr h.slots h.tabok h.closed h.out h.ok.op h.bef hinv g]
  left
  have hsnd := jeB hsp (joZ h hinv hp hnl hf) hinv.le hreads hs ob
  refine hsnd K Q fun ρ' w' hl => ?_
  have ev : r.v = res.v := by rw [e]
  have eh : r.hp = res.hp := by rw [e]
  have ex : r.nx = res.nx := by rw [e]
  have := jn0 h hinv (by rw [e]) (by rw [ev, ex]; exact jmb hk) (fun x ob hf => by rw [ex]; rw [eh] at hf; exact (jjA hk hf).2) hl.agree hl.below (by rw [ex, eh]; exact hl.heap)
  have e3 : res.v.val ρ' = r.v.val (jcL ρ ρ' (jab st0 tr) r.nx) := by
   rw [ev]
   exact (V.val_agree (jgq hl.agree) (by rw [ex]; exact hl.lt)).symm
  rw [e3]
  exact hK _ _ _ this
def DL (l : Array Bool) (j : Nat) : Bool := l.getD j false
theorem jn1 {l : Array Bool} {i : Nat} (hc : jca L (DL l)) (hb : ∀ o, L[i]? = some o → ∀ e ∈ o.after.toList, Region.binds .any e = true → DL l e.on = true) : jca L (DL (l.setIfInBounds i true)) := by
 intro j o ho hD e he hbd
 by_cases hij : j = i
 ·subst hij
  exact getD_set_true (hb o ho e he hbd)
 ·unfold DL at hD
  rw [getD_set_ne false (Ne.symm hij)] at hD
  exact getD_set_true (hc j o ho hD e he hbd)
theorem jjE {l : Array Bool} (hl : l.size = L.length) (he : jdq 0 L = true) (hr : Region.ready .any L.toArray l = []) : ∀ j, j < L.length → DL l j = true := by
 intro j
 induction j using Nat.strongRecOn with
 | _ j ih =>
  intro hj
  cases hD : DL l j with
  | true => rfl
  | false =>
   exfalso
   have hmem : j ∈ Region.ready .any L.toArray l := by
    rw [mem_ready]
    refine ⟨?_, L[j], by simp [hj], fun e hem hb => ?_⟩
    ·unfold DL at hD
     simp only [Array.getD_eq_getD_getElem?, Array.getElem?_eq_getElem (show j < l.size by omega), Option.getD_some] at hD ⊢
     exact hD
    ·have := jgo he j L[j] (by simp [hj]) e (by simpa using hem) hb
     exact ih e.on (by omega) (by omega)
   rw [hr] at hmem
   cases hmem
theorem count_set {l : Array Bool} {i : Nat} (hi : i < l.size) (h : l[i] = false) : (l.setIfInBounds i true).toList.count false + 1 = l.toList.count false := by
 have h1 : (l.setIfInBounds i true).toList = l.toList.set i true := by simp
 rw [h1, List.count_set (by simpa using hi)]
 have h2 : l.toList[i]'(by simpa using hi) = false := by simpa using h
 have h3 : 0 < l.toList.count false := List.count_pos_iff.2 (by rw [← h2]; exact List.getElem_mem _)
 rw [show l.toList[i]'(by simpa using hi) = false from h2]
 simp only [beq_self_eq_true, if_true, show (true == false) = false from rfl, Bool.false_eq_true, if_false]
 omega
theorem jrD (hsp : jac P sp) {T : List Rec} (hg : GoodTr P sp N L tab st0 T) (hlen : T.length = L.length) (hs : jcn L tab 0 L = true) (he : jdq 0 L = true) (ht : jcj L tab) (hbase : jhv st0)
  (hbt : ∀ t v, jaX st0.tm t = some v → v.lt st0.nx) (hn0 : n0 ≤ st0.nx) {Q : Exit → Act → World → Prop}
  (hQ : ∀ D ρ a w, (∀ j, j < L.length → D j = true) → Inv ds L st0 B N n0 ρ0 w0 T D a w ρ → Q .normal a w) :
  ∀ (fuel : Nat) (l : Array Bool) (a : Act) (w : World) (ρ : Env), l.size = L.length → jca L (DL l) → l.toList.count false ≤ fuel → Inv ds L st0 B N n0 ρ0 w0 T (DL l) a w ρ → wpAny P .any L.toArray Q fuel l a w := by
 intro fuel
 induction fuel with
 | zero =>
  intro l a w ρ hl hc hcount hinv
  have hall : ∀ j, j < l.size → l[j]? ≠ some false := fun j hj h => by
   have hm : false ∈ l.toList := by rw [Array.mem_toList_iff]; exact Array.mem_of_getElem? h
   have := List.count_pos_iff.2 hm
   omega
  have hr : Region.ready .any L.toArray l = [] := by
   apply List.eq_nil_iff_forall_not_mem.2
   intro j hj
   obtain ⟨h0, o, ho, _⟩ := mem_ready.1 hj
   have hlt : j < l.size := by
    have := (Array.getElem?_eq_some_iff.1 ho).1
    simp at this
    omega
   apply hall j hlt
   simp only [Array.getD_eq_getD_getElem?, Array.getElem?_eq_getElem hlt, Option.getD_some] at h0
   rw [Array.getElem?_eq_getElem hlt, h0]
  exact ⟨hr, hQ _ ρ a w (jjE hl he hr) hinv⟩
 | succ fuel ih =>
  intro l a w ρ hl hc hcount hinv
  refine ⟨fun hr => hQ _ ρ a w (jjE hl he hr) hinv, fun i hi => ?_⟩
  obtain ⟨h0, o, ho, hed⟩ := mem_ready.1 hi
  have ho' : L[i]? = some o := by simpa using ho
  have hiL : i < L.length := (List.getElem?_eq_some_iff.1 ho').1
  have hil : i < l.size := by omega
  have hlf : l[i] = false := by simpa [hil] using h0
  have hedge : ∀ o', L[i]? = some o' → ∀ e ∈ o'.after.toList, Region.binds .any e = true → DL l e.on = true := fun o' ho'' e hem hb => by
   rw [ho'] at ho''
   cases ho''
   exact hed e (by simpa using hem) hb
  obtain ⟨later, r, tr, o2, rfl, htl, hrec⟩ := jra hg (show i < T.length by omega)
  subst htl
  have hoo : o2 = o := by
   have := hrec.op
   rw [ho'] at this
   exact (Option.some.inj this).symm
  subst hoo
  have hat : At (n0 := n0) P sp N L tab st0 (DL l) (DL (l.setIfInBounds tr.length true)) later r tr o2 := by
   refine ⟨hg, hlen, hrec, hs, he, ht, hc, ?_, fun j hj => jdU ht hc _ j hedge hj, ?_, fun j hj => ?_, hbase, hbt, hn0⟩
   ·unfold DL; simp [hil, hlf]
   ·unfold DL; simp [hil]
   ·unfold DL; exact getD_set_ne false (Ne.symm hj)
  refine jrC hsp hat hinv fun ρ' a' w' hinv' => ?_
  have := count_set hil hlf
  exact ih _ a' w' ρ' (by simpa using hl) (jn1 hc hedge) (by omega) hinv'
end
end Go.Sx
end

section
open Go.RowKit
namespace Go.Sx
section
variable [Globs] {P : Program} {sp : jaa} {B : Bd} {N n0 : Nat} {L : List Oper} {tab : List (List Nat)} {st0 : St} {ρ0 : Env} {w0 : World} {ds : List Deferred}
theorem jmd {D : Nat → Bool} {t : Nat} : ∀ {T : List Rec}, (∀ j, j < T.length → D j = true) → jbu L D st0 t T = jaX (jma L st0 T) t
 | [], _ => rfl
 | r :: tr, h => by
  have ih := jmd (D := D) (t := t) (T := tr) (fun j hj => h j (by simp; omega))
  simp only [jbu, jma]
  rw [h tr.length (by simp)]
  cases hd : jcb L tr.length with
  | none => simp [ih]
  | some d =>
   simp only [jaX]
   by_cases e : d = t
   ·simp [e]
   ·simp [e, ih]
theorem jp5 {D : Nat → Bool} {T : List Rec} (hg : GoodTr P sp N L tab st0 T) : (∀ j, j < T.length → D j = true) → jav D st0 T = jaB st0 T := by
 induction hg with
 | nil => exact fun _ => rfl
 | @cons tr r hgt o hr ih =>
  intro h
  have ih := ih (fun j hj => h j (by simp; omega))
  simp only [jav]
  show _ = r.hp
  rw [if_pos (h tr.length (by simp))]
  by_cases hk : r.kd = 2
  ·rw [if_pos hk]
  ·rw [if_neg hk, ih, (jbI hr hk).1]
theorem jkW (hm : P.follows .mixedOrders = true) (hsp : jac P sp) {ops : Array Oper} {st : St} {k : St → Prop} {ρ : Env} {a : Act} {w : World} {Q : Exit → Act → World → Prop} (hd : jjy P sp N ops st k) (hr : RelD ds ρ B N n0 st a w) (hag : jaf n0 ρ0 ρ) (hbl : Bel B w0 w)
  (hK : ∀ (ρ' : Env) (st' : St) (a' : Act) (w' : World), RelD ds ρ' B N n0 st' a' w' → jaf n0 ρ0 ρ' → Bel B w0 w' → k st' → Q .normal a' w') :
  wpAny P .any ops Q ops.size (Array.replicate ops.size false) a { w with drawn := w.drawn + 1 } := by
 unfold jjy at hd
 split at hd
 ·rename_i hok
  simp only [Bool.and_eq_true] at hok
  have htab : jcj ops.toList (jhq ops.toList []) := jnp _ _ [] (by simp) (by intro i k hk; simp [List.getD] at hk)
  obtain ⟨T, hk, hg, hlen⟩ := jkN ops.toList [] _ hd .nil (by simp) (by simp)
  have hbase : jhv st := fun x o hf => ⟨(hr.heap.ok x o hf).1, (hr.heap.ok x o hf).2.1⟩
  have hbt : ∀ t v, jaX st.tm t = some v → v.lt st.nx := fun t v h => (hr.tm t v h).1
  have hnx := jh8 hg
  have hal : ∀ x, x < st.nx → jaW st T (DL (Array.replicate ops.size false)) x = true := fun x hx => by
   simp only [jaW, Bool.and_eq_true, Nat.blt_eq]
   exact ⟨Nat.lt_of_lt_of_le hx hnx, jkO hx hg⟩
  have hF : ∀ j, DL (Array.replicate ops.size false) j = false := fun j => by
   unfold DL
   simp only [Array.getD_eq_getD_getElem?, Array.getElem?_replicate]
   split <;> rfl
  have hslot : ∀ t (T : List Rec), jbu ops.toList (DL (Array.replicate ops.size false)) st t T = jaX st.tm t := fun t T => by
   induction T with
   | nil => rfl
   | cons r tr ih => simp only [jbu, hF]; simpa using ih
  have hheap : ∀ (T : List Rec), jav (DL (Array.replicate ops.size false)) st T = st.hp := fun T => by
   induction T with
   | nil => rfl
   | cons r tr ih => simp only [jav, hF]; simpa using ih
  have hbw : Below w.heap.size w { w with drawn := w.drawn + 1 } := ⟨rfl, rfl, rfl, Nat.le_refl _, fun _ _ => rfl⟩
  have hinv : Inv ds ops.toList st B N n0 ρ0 w0 T (DL (Array.replicate ops.size false)) a { w with drawn := w.drawn + 1 } ρ := by
   refine ⟨fun t v hv => ?_, hr.size, hr.defers, ?_, fun x o hf => ?_, hr.le, hag, ⟨hbl.os, hbl.tape, hbl.output, hbl.size, hbl.block⟩, fun x => ?_⟩
   ·rw [hslot] at hv
    exact ⟨V.allB_of_lt hal (hr.tm t v hv).1, (hr.tm t v hv).2⟩
   ·rw [hheap]
    exact (hr.heap.below hbw hr.le).mono_nx hnx
   ·rw [hheap] at hf
    exact ⟨hal x (hbase x o hf).1, O.allB_of_lt hal (hbase x o hf).2⟩
   ·have hfb : ∀ (T : List Rec), GoodTr P sp N ops.toList (jhq ops.toList []) st T → x < jab st T → jap (DL (Array.replicate ops.size false)) st T x = true → x < st.nx := fun T hg => by
     induction hg with
     | nil => exact fun h _ => h
     | @cons tr r h' o hr ih =>
      intro hlt hb
      simp only [jap] at hb
      split at hb
      ·rw [hF] at hb; cases hb
      ·rename_i hb'
       exact ih (Nat.lt_of_not_le fun hc => by rw [Nat.ble_eq_true_of_le hc] at hb'; cases hb') hb
    intro hx hb
    simp only [jaW, Bool.and_eq_true, Nat.blt_eq] at hx
    have hlt := hfb T hg hx.1 hx.2
    rw [jhs hlt hg] at hb
    exact C.one_val (c := .o x) hr.heap hb
  have := jrD (Q := Q) (n0 := n0) (B := B) (ρ0 := ρ0) (w0 := w0) hsp hg hlen hok.1 hok.2 htab hbase hbt hr.n0 (fun D ρ' a' w' hall hi => ?_) ops.size (Array.replicate ops.size false) a _ ρ (by simp) (fun j o _ hD => by rw [hF] at hD; cases hD) (by simp) hinv
  ·simpa using this
  ·have hall' : ∀ j, j < T.length → D j = true := fun j hj => hall j (by omega)
   refine hK ρ' (jqS ops.toList st T) a' w' ⟨fun t v hv => ?_, hi.size, hi.defers, ?_, hi.le, Nat.le_trans hr.n0 hnx⟩ hi.agree hi.below hk
   ·have h1 := hi.tm t v (by rw [jmd hall']; exact hv)
    refine ⟨V.lt_of_allB (fun x hx => ?_) h1.1, h1.2⟩
    simp only [jaW, Bool.and_eq_true, Nat.blt_eq] at hx
    exact hx.1
   ·have := hi.heap
    rw [jp5 hg hall'] at this
    exact this
 ·exact hd.elim
end
end Go.Sx
end

section
open Go.RowKit
namespace Go.Sx
def jn2 [Globs] (t : Nat) : Option Operand → Option Operand → Bool
 | some _, none => Globs.cutT t
 | _, _ => false
def jme [Globs] (P : Program) (op : Op) (rd : Operand → Option V) (hp : Hp) (nx : Nat) : Option Res :=
 match op with
 | .move x => (rd x).map fun v => ⟨True, v, hp, nx⟩
 | .slice t x lo hi none => match jn2 t lo hi with
  | true => jee P (.slice t x lo hi none) rd hp nx
  | false => match P.underlying t, rd x, jaT rd lo, jaT rd hi with
   | some (.slice elem), some (.w (.c (.o h))), some l, some m => match find hp h, szT P elem with
    | some ob, some (e + 1) => match ob.cont with
     | some c => match Nat.beq c.e (e + 1) with
      | true => some ⟨0 ≤ l.getD 0 ∧ l.getD 0 ≤ m.getD (c.n : Int) ∧ m.getD (c.n : Int) ≤ (c.n : Int), .w (.c (.o nx)), (nx, jfu h ob (c.sub (l.getD 0).toNat (m.getD (c.n : Int)).toNat)) :: hp, nx + 1⟩
      | false => none
     | none => none
    | _, _ => none
   | _, _, _, _ => none
 | _ => none
def jo0 : Op → Bool
 | .slice _ _ _ _ none => true
 | _ => false
def jo1 : Op → Bool
 | .store _ _ _ => true
 | _ => false
def jrE (L : List Oper) (tab : List (List Nat)) (j : Nat) : Bool :=
 match L[j]? with
 | some o => jo0 o.op && (List.range L.length).any fun i => match L[i]? with
  | some s => jo1 s.op && !((tab.getD i []).contains j) && !((tab.getD j []).contains i)
  | none => false
 | none => false
def jp6 (L : List Oper) : List Nat :=
 let tab := jhq L []
 let bad := (List.range L.length).filter (jrE L tab)
 (List.range L.length).filter fun i => bad.contains i || bad.any fun j => (tab.getD j []).contains i
def jel (o : Oper) (t : Nat) : Oper := { o with op := .move (.tmp t) }
def jco (ops : Array Oper) (i t : Nat) (o : Oper) : Array Oper := ops.setIfInBounds i (jel o t)
def jlx (ops : Array Oper) (listed : Array Bool) (i : Nat) : Bool :=
 Region.noSelect ops && Region.free .any ops listed i && (Region.ready .any ops listed).contains i
def jjF [Globs] (P : Program) (sp : jaa) (N : Nat) (ops : Array Oper) : List Nat → Array Bool → Array Oper → St → (St → Prop) → Prop
 | [], _, ops', st, k => jjy P sp N ops' st k
 | i :: F, listed, ops', st, k => match ops[i]?, jlx ops listed i with
  | some o, true => match o.guard, o.dst with
   | none, some t => match jme P o.op (jde st) st.hp st.nx, Nat.blt t N with
    | some r, true => Ob r.ob ∧ jjF P sp N ops F (listed.setIfInBounds i true) (jco ops' i t o) (st.put (some t) r) k
    | _, _ => False
   | _, _ => False
  | _, _ => False
def jcx [Globs] (P : Program) (sp : jaa) (N : Nat) (ops : Array Oper) (st : St) (k : St → Prop) : Prop :=
 match jp6 ops.toList with
 | [] => jjy P sp N ops st k
 | i :: F => match Nat.ble (i :: F).length ops.size with
  | false => False
  | true => jjF P sp N ops (i :: F) (Array.replicate ops.size false) ops st k
section
variable {P : Program} {ops ops' : Array Oper} {Q : Exit → Act → World → Prop}
theorem jiV {l : Array Bool} (h1 : ops'.size = ops.size) (h2 : ∀ j : Nat, (ops'[j]?).map Oper.after = (ops[j]?).map Oper.after) : Region.ready .any ops' l = Region.ready .any ops l := by
 unfold Region.ready
 rw [h1]
 refine List.filter_congr fun i _ => ?_
 have := h2 i
 cases ha : ops'[i]? <;> cases hb : ops[i]? <;> simp [ha, hb] at this ⊢
 rw [this]
theorem jn3 (h2 : ∀ j : Nat, (ops'[j]?).map Oper.dst = (ops[j]?).map Oper.dst) (tmps : Array Value) : yielded ops' tmps = yielded ops tmps := by
 funext g
 unfold yielded
 have : (ops'[g]?).bind Oper.dst = (ops[g]?).bind Oper.dst := by
  have := h2 g
  cases ha : ops'[g]? <;> cases hb : ops[g]? <;> simp [ha, hb] at this ⊢
  exact this
 rw [this]
theorem jjG (h1 : ops'.size = ops.size) (h2 : ∀ j : Nat, (ops'[j]?).map Oper.after = (ops[j]?).map Oper.after) (h3 : ∀ j : Nat, (ops'[j]?).map Oper.dst = (ops[j]?).map Oper.dst) :
  ∀ (n : Nat) (l : Array Bool) (a : Act) (w : World), (∀ j : Nat, l.getD j true = false → ops'[j]? = ops[j]?) → wpAny P .any ops' Q n l a w → wpAny P .any ops Q n l a w
 | 0, l, a, w, _, h => by
  rw [wpAny] at h ⊢
  rw [jiV h1 h2] at h
  exact h
 | n + 1, l, a, w, hs, h => by
  rw [wpAny] at h ⊢
  rw [jiV h1 h2] at h
  refine ⟨h.1, fun i hi => ?_⟩
  have hk := h.2 i hi
  have hun := (mem_ready.1 hi).1
  have ih := fun a w => jjG h1 h2 h3 n (l.setIfInBounds i true) a w (fun j hj => by
   refine hs j ?_
   by_cases e : i = j
   ·subst e; exact hun
   ·rwa [getD_set_ne true e] at hj)
  have hk2 := wpOp_mono ih hk
  unfold wpOp at hk2 ⊢
  rw [hs i hun] at hk2
  simp only [jn3 h3] at hk2
  exact hk2
theorem jp7 {a : Act} {t : Nat} : a.put (some t) (a.tmps.getD t undef) = a := by
 obtain ⟨tmps, d⟩ := a
 simp only [Act.put]
 congr 1
 apply Array.ext
 ·simp
 ·intro i h1 h2
  rw [Array.getElem_setIfInBounds]
  split
  ·rename_i e; subst e; simp [h2]
  ·rfl
theorem jo2 {n i t : Nat} {o : Oper} {l : Array Bool} {a : Act} {w : World} (hi : ops'[i]? = some (jel o t)) (hg : o.guard = none) (hd : o.dst = some t) (hr : i ∈ Region.ready .any ops' l)
  (h : wpAny P .any ops' Q (n + 1) l a w) : wpAny P .any ops' Q n (l.setIfInBounds i true) a w := by
 rw [wpAny] at h
 have hk := h.2 i hr
 unfold wpOp at hk
 have hw : Region.wanted (jel o t) (yielded ops' a.tmps) = true := by simp [Region.wanted, jel, hg]
 simp only [hi, hw, if_true] at hk
 have hrun : (execOp a.eval (jel o t)).run P w = .ok (.value (a.tmps.getD t undef)) w := by
  unfold execOp jel
  simp [Act.eval]
 rcases hk with hk | hk
 ·unfold Oper.wp at hk
  rw [hrun] at hk
  simp only [Oper.upon] at hk
  have hdst : (jel o t).dst = some t := hd
  rw [hdst, jp7] at hk
  exact hk
 ·have hk := hk.1.1
  change noRoomEvent ∈ (#[] : Array Event) at hk
  simp at hk
end
section
variable [Globs] {P : Program} {sp : jaa} {B : Bd} {N n0 : Nat} {ρ : Env} {a : Act} {w : World} {hp : Hp} {nx : Nat} {rd : Operand → Option V} {ds : List Deferred}
theorem jo3 {o : Oper} {r : Res} {t : Nat} (hh : HRel ρ B hp nx w) (hB : Old B w) (hr : jaL ρ nx rd a) (h : jme P o.op rd hp nx = some r) (hob : r.ob) (hd : o.dst = some t) (ht : t < a.tmps.size) :
  ∃ ρ' M, Left ρ B nx w r M ρ' w ∧ ∀ w', (execOp a.eval o).run P w' = .ok (.value (r.v.val ρ')) w' := by
 unfold jme at h
 split at h
 ·rename_i x hop
  cases hx : rd x with
  | none => simp [hx] at h
  | some v =>
   simp only [hx, Option.map_some, Option.some.injEq] at h
   subst h
   have := hr x v hx
   refine ⟨ρ, true, ⟨jaf.refl _ _, this.1, Nat.le_refl _, hh, Bel.refl _ _, fun _ => Below.refl _ _, fun _ h o k hn hf _ => absurd (hh.ok h o hf).1 (by omega)⟩, fun w' => ?_⟩
   unfold execOp
   simp [hop, this.2]
 ·rename_i ty x lo hi hop
  split at h
  ·rename_i hcut
   cases lo with
   | none => simp [jn2] at hcut
   | some lo =>
   cases hi with
   | some hi => simp [jn2] at hcut
   | none =>
   unfold jee at h
   dsimp only at h
   split at h
   ·split at h
    ·rename_i elem hh' k l hu hx hl
     split at h
     ·rename_i c e hfc hs
      split at h
      ·rename_i hce
       cases h
       cases hf : find hp hh' with
       | none => simp [hf] at hfc
       | some ob =>
        simp only [hf, Option.bind_some] at hfc
        obtain ⟨v, hrun, hl⟩ := jgS hh hr hop hu hx hl hf hfc hs (Nat.eq_of_beq_eq_true hce) hob
        exact ⟨upd ρ nx v, false, hl, fun w' => by rw [hrun w']; show Result.ok (Next.value v) w' = .ok (.value (upd ρ nx v nx)) w'; rw [upd_same]⟩
      ·cases h
     ·cases h
    ·cases h
   ·cases h
  rename_i hcut
  split at h
  ·rename_i elem hh' l m hu hx hl hm
   split at h
   ·rename_i ob e hf hs
    split at h
    ·rename_i c hc
     split at h
     ·rename_i hce
      cases h
      have hce : c.e = e + 1 := Nat.eq_of_beq_eq_true hce
      obtain ⟨h0, h1, h2⟩ := hob
      have hok := hh.ok hh' ob hf
      obtain ⟨a2, cap, hv, ⟨hcap, _⟩, _⟩ := jaZ hok.2.2 hc
      obtain ⟨k1, hlv⟩ := jfb hr hl
      obtain ⟨k2, hmv⟩ := jfb hr hm
      have hxv : a.eval x = .slice a2 c.n cap := by rw [(hr _ _ hx).2]; exact hv
      have hrun : ∀ w', (execOp a.eval o).run P w' = .ok (.value (.slice (if cap = (l.getD 0).toNat then a2 else a2.map (·.add ((l.getD 0).toNat * c.e))) ((m.getD (c.n : Int)).toNat - (l.getD 0).toNat) (cap - (l.getD 0).toNat))) w' := fun w' => by
       have hsb := jcO (P := P) (w := w') (len := c.n) (cap := cap) (l := l) (m := m) (k := k1) (k' := k2) h0 h1 h2 hcap
       unfold execOp
       simp only [hop, hxv, hlv, hmv, Option.map_none, Instr.sliceAt, Instr.slice, Sem.run_bind, run_underlying hu, Result.andThen_ok, hsb, jaH w' hs, Sem.run_pure]
       simp [hce]
      have hS := jeT (P := P) hh hB hr hop hu hx hl hm hf hs hc hce ⟨h0, h1, h2⟩ ⟨0 ≤ l.getD 0 ∧ l.getD 0 ≤ m.getD (c.n : Int) ∧ m.getD (c.n : Int) ≤ (c.n : Int), .w (.c (.o nx)), (nx, jfu hh' ob (c.sub (l.getD 0).toNat (m.getD (c.n : Int)).toNat)) :: hp, nx + 1⟩ rfl rfl rfl
       (fun a' w' => ∃ ρ', Left ρ B nx w ⟨0 ≤ l.getD 0 ∧ l.getD 0 ≤ m.getD (c.n : Int) ∧ m.getD (c.n : Int) ≤ (c.n : Int), .w (.c (.o nx)), (nx, jfu hh' ob (c.sub (l.getD 0).toNat (m.getD (c.n : Int)).toNat)) :: hp, nx + 1⟩ true ρ' w' ∧ a' = a.put o.dst (ρ' nx)) (fun _ _ _ => False) (fun ρ' w' hl' => ⟨ρ', hl', rfl⟩)
      unfold Oper.wp at hS
      rw [hrun w] at hS
      simp only [Oper.upon] at hS
      obtain ⟨ρ', hl', he⟩ := hS
      refine ⟨ρ', true, hl', fun w' => ?_⟩
      rw [hrun w']
      have e2 := congrArg (fun x : Act => x.tmps.getD t undef) he
      rw [hd] at e2
      simp only [Act.put, Array.getD_eq_getD_getElem?, Array.getElem?_setIfInBounds_self_of_lt ht, Option.getD_some] at e2
      rw [e2]
      rfl
     ·cases h
    ·cases h
   ·cases h
  ·cases h
 ·cases h
theorem jn4 {ops ops' : Array Oper} {i t : Nat} {o : Oper} (h : ∀ j : Nat, (ops'[j]?).map Oper.after = (ops[j]?).map Oper.after) (hi : ops[i]? = some o) (j : Nat) : ((jco ops' i t o)[j]?).map Oper.after = (ops[j]?).map Oper.after := by
 unfold jco
 rw [Array.getElem?_setIfInBounds]
 split
 ·rename_i e
  subst e
  have := h i
  rw [hi] at this ⊢
  split
  ·rfl
  ·rename_i hlt
   rw [Array.getElem?_eq_none (by omega)] at this
   cases this
 ·exact h j
theorem jp8 {ops ops' : Array Oper} {i t : Nat} {o : Oper} (h : ∀ j : Nat, (ops'[j]?).map Oper.dst = (ops[j]?).map Oper.dst) (hi : ops[i]? = some o) (j : Nat) : ((jco ops' i t o)[j]?).map Oper.dst = (ops[j]?).map Oper.dst := by
 unfold jco
 rw [Array.getElem?_setIfInBounds]
 split
 ·rename_i e
  subst e
  have := h i
  rw [hi] at this ⊢
  split
  ·rfl
  ·rename_i hlt
   rw [Array.getElem?_eq_none (by omega)] at this
   cases this
 ·exact h j
inductive Taken (ops : Array Oper) : Array Bool → Array Oper → Nat → Prop where
 | nil : Taken ops (Array.replicate ops.size false) ops 0
 | cons {l : Array Bool} {ops' : Array Oper} {n i t : Nat} {o : Oper} : Taken ops l ops' n → ops[i]? = some o → jlx ops l i = true → o.guard = none → o.dst = some t →
   Taken ops (l.setIfInBounds i true) (jco ops' i t o) (n + 1)
theorem jgs {ops : Array Oper} {l : Array Bool} {i : Nat} (h : jlx ops l i = true) : Region.noSelect ops = true ∧ Region.free .any ops l i = true ∧ i ∈ Region.ready .any ops l := by
 simp only [jlx, Bool.and_eq_true] at h
 exact ⟨h.1.1, h.1.2, by simpa using h.2⟩
theorem Taken.facts {ops : Array Oper} {l : Array Bool} {ops' : Array Oper} {n : Nat} (h : Taken ops l ops' n) :
  ops'.size = ops.size ∧ (∀ j : Nat, (ops'[j]?).map Oper.after = (ops[j]?).map Oper.after) ∧ (∀ j : Nat, (ops'[j]?).map Oper.dst = (ops[j]?).map Oper.dst) ∧
   (∀ j : Nat, l.getD j true = false → ops'[j]? = ops[j]?) ∧ l.size = ops.size := by
 induction h with
 | nil => exact ⟨rfl, fun _ => rfl, fun _ => rfl, fun _ _ => rfl, by simp⟩
 | @cons l ops' n i t o h hi ht hg hd ih =>
  obtain ⟨h1, h2, h3, h4, h5⟩ := ih
  refine ⟨by simp [jco, h1], jn4 h2 hi, jp8 h3 hi, fun j hj => ?_, by simp [h5]⟩
  by_cases e : i = j
  ·subst e
   have hlt : i < l.size := by rw [h5]; exact (Array.getElem?_eq_some_iff.1 hi).1
   simp [hlt] at hj
  ·rw [getD_set_ne true e] at hj
   unfold jco
   rw [Array.getElem?_setIfInBounds_ne e]
   exact h4 j hj
theorem Taken.idle {ops : Array Oper} {Q : Exit → Act → World → Prop} {a : Act} {w : World} {l : Array Bool} {ops' : Array Oper} {n : Nat} (h : Taken ops l ops' n) :
  ∀ (opsF : Array Oper) (m : Nat), opsF.size = ops.size → (∀ j : Nat, (opsF[j]?).map Oper.after = (ops[j]?).map Oper.after) → (∀ j : Nat, l.getD j true = true → opsF[j]? = ops'[j]?) →
   wpAny P .any opsF Q (m + n) (Array.replicate ops.size false) a w → wpAny P .any opsF Q m l a w := by
 induction h with
 | nil => exact fun _ _ _ _ _ h => h
 | @cons l ops' n i t o h hi ht hg hd ih =>
  intro opsF m h1 h2 h3 hw
  obtain ⟨f1, f2, f3, f4, f5⟩ := h.facts
  have hlt : i < ops.size := (Array.getElem?_eq_some_iff.1 hi).1
  have hself : opsF[i]? = some (jel o t) := by
   rw [h3 i (by simp [hlt, f5])]
   unfold jco
   simp [f1, hlt]
  refine jo2 hself hg hd ?_ (ih opsF (m + 1) h1 h2 (fun j hj => ?_) (by rwa [Nat.add_assoc, Nat.add_comm 1 n]))
  ·rw [jiV h1 h2]
   exact (jgs ht).2.2
  ·by_cases e : i = j
   ·subst e
    have := (mem_ready.1 (jgs ht).2.2).1
    rw [this] at hj
    cases hj
   ·rw [h3 j (by rw [getD_set_ne true e]; exact hj)]
    unfold jco
    rw [Array.getElem?_setIfInBounds_ne e]
variable {w0 : World} {ρ0 : Env} in
theorem jmf (hm : P.follows .mixedOrders = true) (hsp : jac P sp) {ops : Array Oper} {k : St → Prop} {Q : Exit → Act → World → Prop} (hQ : ∀ c a w, ¬ Q (.panic c) a w)
  (hK : ∀ (ρ' : Env) (st' : St) (a' : Act) (w' : World), RelD ds ρ' B N n0 st' a' w' → jaf n0 ρ0 ρ' → Bel B w0 w' → k st' → Q .normal a' w') :
  ∀ (F : List Nat) (l : Array Bool) (ops' : Array Oper) (n m : Nat) (st : St) (ρ : Env) (a : Act) (w : World), jjF P sp N ops F l ops' st k → Taken ops l ops' n → m + n = ops.size → F.length ≤ m → RelD ds ρ B N n0 st a w → jaf n0 ρ0 ρ → Bel B w0 w →
   wpAny P .any ops Q m l a { w with drawn := w.drawn + 1 }
 | [], l, ops', n, m, st, ρ, a, w, h, ht, hn, _, hr, hag, hbl => by
  unfold jjF at h
  obtain ⟨f1, f2, f3, f4, f5⟩ := ht.facts
  have h1 := jkW (Q := Q) hm hsp h hr hag hbl hK
  rw [f1, ← hn] at h1
  have h2 := ht.idle (Q := Q) ops' m f1 f2 (fun _ _ => rfl) (by rw [← hn]; exact h1)
  exact jjG f1 f2 f3 m l a _ f4 h2
 | i :: F, l, ops', n, m, st, ρ, a, w, h, ht, hn, hF, hr, hag, hbl => by
  unfold jjF at h
  split at h
  ·rename_i o hi htb
   split at h
   ·rename_i t hg hd
    split at h
    ·rename_i r hr2 hlt
     obtain ⟨ρ', M, hl, hrun⟩ := jo3 hr.heap hr.le hr.reads hr2 h.1.h hd (by rw [hr.size]; simpa [Nat.blt_eq] using hlt)
     have hput := hr.put (o := o) (by rw [hd]; simpa [jc5] using hlt) hl
     rw [hd] at hput
     obtain ⟨m', rfl⟩ : ∃ m', m = m' + 1 := ⟨m - 1, by simp at hF; omega⟩
     have ih := jmf hm hsp hQ hK F (l.setIfInBounds i true) (jco ops' i t o) (n + 1) m' (st.put (some t) r) ρ' _ w h.2 (ht.cons hi htb hg hd) (by omega) (by simpa using hF) hput (hag.trans hl.agree hr.n0) hbl
     obtain ⟨t1, t2, t3⟩ := jgs htb
     refine wpAny_take (v := r.v.val ρ') hi t1 t2 (by simpa using t3) (fun c a w hq => absurd hq (hQ c _ w)) (.inl ⟨by simp [Region.wanted, hg], hrun⟩) ?_
     rw [hd]
     exact ih
    ·exact h.elim
   ·exact h.elim
  ·exact h.elim
theorem jjH {w0 : World} {ρ0 : Env} (hm : P.follows .mixedOrders = true) (hsp : jac P sp) {ops : Array Oper} {st : St} {k : St → Prop} {ρ : Env} {a : Act} {w : World} {Q : Exit → Act → World → Prop} (hQ : ∀ c a w, ¬ Q (.panic c) a w) (hd : jcx P sp N ops st k) (hr : RelD ds ρ B N n0 st a w) (hag : jaf n0 ρ0 ρ) (hbl : Bel B w0 w)
  (hK : ∀ (ρ' : Env) (st' : St) (a' : Act) (w' : World), RelD ds ρ' B N n0 st' a' w' → jaf n0 ρ0 ρ' → Bel B w0 w' → k st' → Q .normal a' w') :
  wpAny P .any ops Q ops.size (Array.replicate ops.size false) a { w with drawn := w.drawn + 1 } := by
 unfold jcx at hd
 split at hd
 ·exact jkW hm hsp hd hr hag hbl hK
 ·rename_i i F _
  split at hd
  ·exact hd.elim
  ·rename_i hle
   exact jmf hm hsp hQ hK (i :: F) _ ops 0 ops.size st ρ a w hd .nil rfl (Nat.le_of_ble_eq_true hle) hr hag hbl
theorem jcy {w0 : World} {ρ0 : Env} (hm : P.follows .mixedOrders = true) (hsp : jac P sp) : jh7 P B N n0 ρ0 w0 (jcx P sp N) := by
 intro ds id ops st k ρ a w Q hd hr hag hbl hK
 have h1 := wp_region_any (id := id) hm (jjH (Q := fun e a w => match e with | .normal => Q .normal a w | _ => False) hm hsp (fun _ _ _ h => h) hd hr hag hbl hK)
 refine wp_mono h1 ?_
 intro e a w h
 cases e <;> first | exact h | exact h.elim
end
end Go.Sx
end

section
open Go.RowKit
namespace Go.Sx
inductive A where
 | d (x : D)
 | s (l : List D)
 | r (c : Cont)
 | f (n : Nat)
inductive RV where
 | d (x : D)
 | s (l : List D)
 | row (ty : Nat) (c : Cont)
def toA (hp : Hp) : V → Option A
 | .w (.c (.d x)) => some (.d x)
 | .w (.a l) => (jbt l).map .s
 | .w (.c (.fn n [])) => some (.f n)
 | .w (.c (.o h)) => match (find hp h).bind O.cont with
  | some c => match c.e with
   | 0 => none
   | _ + 1 => some (.r c)
  | none => none
 | _ => none
def jcR (hp : Hp) : List V → Option (List A)
 | [] => some []
 | v :: l => match toA hp v, jcR hp l with
  | some a, some r => some (a :: r)
  | _, _ => none
def jgt (n : Nat) : A → V
 | .d x => .w (.c (.d x))
 | .s l => .w (.a (l.map C.d))
 | .r _ => .w (.c (.o n))
 | .f g => .w (.c (.fn g []))
def ja5 : Nat → List A → List V
 | _, [] => []
 | n, a :: l => jgt n a :: ja5 (n + 1) l
def jbz : Nat → List A → Hp
 | _, [] => []
 | n, .r c :: l => (n, .ext c) :: jbz (n + 1) l
 | n, _ :: l => jbz (n + 1) l
def rvW : Nat → List RV → List W
 | _, [] => []
 | n, .d x :: l => .c (.d x) :: rvW n l
 | n, .s c :: l => .a (c.map C.d) :: rvW n l
 | n, .row _ _ :: l => .c (.o n) :: rvW (n + 1) l
def jet : Nat → List RV → Hp → Hp
 | _, [], hp => hp
 | n, .row ty c :: l, hp => jet (n + 1) l ((n, .row ty c) :: hp)
 | n, .d _ :: l, hp => jet n l hp
 | n, .s _ :: l, hp => jet n l hp
def jc0 : Nat → List RV → Nat
 | n, [] => n
 | n, .row _ _ :: l => jc0 (n + 1) l
 | n, .d _ :: l => jc0 n l
 | n, .s _ :: l => jc0 n l
def jay (g : List A → Option (Prop × List RV)) : Spec := fun vs hp nx =>
 match jcR hp vs with
 | some asq => match g asq with
  | some (ob, rs) => some (.leaf ⟨ob, jbT (rvW nx rs), jet nx rs hp, jc0 nx rs⟩)
  | none => none
 | none => none
def jjI : List D → List D → Prop → Prop
 | [], [], k => k
 | x :: l, y :: m, k => mD y x ∧ jjI l m k
 | _, _, _ => False
theorem jfC [Globs] {k : Prop} : ∀ {l m : List D}, jjI l m k → l = m ∧ k
 | [], [], h => ⟨rfl, h⟩
 | x :: l, y :: m, h => by
  have := jfC h.2
  exact ⟨by rw [jh6 h.1, this.1], this.2⟩
 | [], _ :: _, h => h.elim
 | _ :: _, [], h => h.elim
def jcz (hp : Hp) : List RV → List W → List Nat → Prop
 | [], [], _ => True
 | .d x :: rs, .c (.d y) :: ws, us => mD x y ∧ jcz hp rs ws us
 | .s l :: rs, .a cs :: ws, us => match jbt cs with
  | some ds => jjI ds l (jcz hp rs ws us)
  | none => False
 | .row ty c :: rs, .c (.o h) :: ws, us => match us.contains h with
  | true => False
  | false => match find hp h with
   | some (.row ty' c') => match Nat.beq ty' ty with
    | true => jdA c c' ∧ jcz hp rs ws (h :: us)
    | false => False
   | _ => False
 | .row _ c :: rs, .c (.d (.v (.slice none 0 0))) :: ws, us => Ob (c.n = 0) ∧ jcz hp rs ws us
 | _, _, _ => False
def jjJ (rs : List RV) (v : V) (hp : Hp) : Prop := match v with
 | .w u => jcz hp rs [u] []
 | .t [_] => False
 | .t l => jcz hp rs l []
theorem jcA {P : Program} {f : Nat} {fn : Func} {body : Code} (hf : P.funcs[f]? = some fn) (hb : fn.body = some body) (hn : (fn.name == "runtime.NumGoroutine") = false) (args : Array Value) (w : World) :
  (callFunc f args).run P w = .ok (.enter f args) w := by
 unfold callFunc
 simp only [Sem.run_bind, run_program, Result.andThen_ok, hf, hn, Bool.false_eq_true, if_false, hb, Option.isNone_some]
 rfl
theorem jah.sound [Globs] {P : Program} {f : Nat} {fn : Func} {body : Code} {M : Bool} {S : Spec} (h : jah P f M S) (hf : P.funcs[f]? = some fn) (hb : fn.body = some body) (hn : (fn.name == "runtime.NumGoroutine") = false) : RunOK P f M S := by
 rcases h with h | h
 ·exact h
 ·refine ⟨jcA hf hb hn, fun ρ B w args hp nx t hS hob hlt hh hB => ?_⟩
  obtain ⟨ob, v, _, _, hrun⟩ := h ρ B w args hp nx t hS hob hlt hh hB
  rw [jcA hf hb hn] at hrun
  cases hrun
section
variable [Globs] {P : Program} {sp : jaa} {ρ : Env} {B : Bd} {nx : Nat} {hp : Hp} {w w' : World}
theorem jfg (hh : HRel ρ B hp nx w) : ∀ (vs : List V) (asq : List A) (n : Nat) (ρ0 : Env), jcR hp vs = some asq → (∀ i v, vs[i]? = some v → ρ0 (n + i) = v.val ρ) →
  (ja5 n asq).map (V.val ρ0) = vs.map (V.val ρ) ∧ asq.length = vs.length ∧ (∀ x ∈ ja5 n asq, V.lt (n + asq.length) x) ∧
   ∀ h o, find (jbz n asq) h = some o → n ≤ h ∧ h < n + asq.length ∧ ∃ c, o = .ext c ∧ jaJ w (ρ0 h) c ∧ jcF (fun k => k < w.heap.size) (ρ0 h)
 | [], asq, n, ρ0, h, _ => by
  simp only [jcR, Option.some.injEq] at h
  subst h
  exact ⟨rfl, rfl, (fun _ h => by cases h), fun _ _ h => by cases h⟩
 | v :: vs, asq, n, ρ0, h, hρ => by
  simp only [jcR] at h
  split at h
  ·rename_i a r ha hr
   cases h
   have ih := jfg hh vs r (n + 1) ρ0 hr (fun i v hv => by rw [show n + 1 + i = n + (i + 1) by omega]; exact hρ (i + 1) v (by simpa using hv))
   have h0 := hρ 0 v rfl
   rw [Nat.add_zero] at h0
   have hv : (jgt n a).val ρ0 = v.val ρ ∧ V.lt (n + (r.length + 1)) (jgt n a) ∧ ∀ c, a = .r c → jaJ w (ρ0 n) c ∧ jcF (fun k => k < w.heap.size) (ρ0 n) := by
    unfold toA at ha
    split at ha
    ·cases ha; exact ⟨rfl, trivial, fun _ h => by cases h⟩
    ·rename_i l
     cases hd : jbt l with
     | none => simp [hd] at ha
     | some ds =>
      simp only [hd, Option.map_some, Option.some.injEq] at ha
      subst ha
      rw [jbQ hd]
      refine ⟨?_, (fun x hx => ?_), fun _ h => by cases h⟩
      ·simp [jgt, V.val, W.val, C.val, Function.comp_def]
      ·obtain ⟨y, _, rfl⟩ := List.mem_map.1 hx
       trivial
    ·cases ha
     exact ⟨rfl, (fun _ h => by cases h), fun _ h => by cases h⟩
    ·rename_i k
     split at ha
     ·rename_i c hc
      split at ha
      ·cases ha
      ·rename_i e he
       cases ha
       cases hf : find hp k with
       | none => simp [hf] at hc
       | some o =>
        simp only [hf, Option.bind_some] at hc
        have hrow := jaZ (hh.ok k o hf).2.2 hc
        have e0 : ρ0 n = ρ k := h0
        refine ⟨e0, (show n < n + (r.length + 1) by omega), fun c' hc' => ?_⟩
        cases hc'
        rw [e0]
        exact ⟨hrow, jaJ.lt hrow (by omega)⟩
     ·cases ha
    ·cases ha
   have hag : ∀ x, V.lt (n + 1 + r.length) x → V.lt (n + (r.length + 1)) x := fun x hx => V.lt_mono (by omega) hx
   refine ⟨by simp only [ja5, List.map_cons, hv.1, ih.1], by simp [ih.2.1], fun x hx => ?_, fun h o hf => ?_⟩
   ·rcases List.mem_cons.1 hx with rfl | hx
    ·simpa using hv.2.1
    ·simpa using hag x (ih.2.2.1 x hx)
   ·cases a with
    | r c =>
     simp only [jbz, find] at hf
     split at hf
     ·rename_i e
      subst e
      cases hf
      exact ⟨Nat.le_refl _, by simp, c, rfl, hv.2.2 c rfl⟩
     ·have := ih.2.2.2 h o hf
      simp only [List.length_cons]
      exact ⟨by omega, by omega, this.2.2⟩
    | d x => have := ih.2.2.2 h o hf; simp only [List.length_cons]; exact ⟨by omega, by omega, this.2.2⟩
    | s x => have := ih.2.2.2 h o hf; simp only [List.length_cons]; exact ⟨by omega, by omega, this.2.2⟩
    | f x => have := ih.2.2.2 h o hf; simp only [List.length_cons]; exact ⟨by omega, by omega, this.2.2⟩
  ·cases h
theorem jeZ (h : jbC B w) (hB : Old B w) : jbC (fun k => k < w.heap.size) w := h.sub hB
theorem HRel.add1 (h : HRel ρ B hp nx w) {v : Value} {o : O} (hl : o.lt (nx + 1)) (ho : o.ok (upd ρ nx v) B w nx) (hap : ∀ k o' b, find hp k = some o' → o'.blk (ρ k) = some b → o.blk v ≠ some b) :
  HRel (upd ρ nx v) B ((nx, o) :: hp) (nx + 1) w := by
 have h1 := (h.agree (jao ρ nx v)).mono_nx (Nat.le_succ nx)
 refine ⟨?_, ?_, h1.glob⟩
 ·intro k o' hf
  simp only [find] at hf
  split at hf
  ·rename_i e; subst e; cases hf; exact ⟨by omega, hl, ho⟩
  ·exact h1.ok k o' hf
 ·intro k o1 k' o2 b hf hf' hne hb hb'
  simp only [find] at hf hf'
  split at hf
  ·rename_i e
   subst e
   cases hf
   rw [if_neg hne] at hf'
   rw [upd_same] at hb
   rw [jao ρ nx v k' (h.ok k' o2 hf').1] at hb'
   exact hap k' o2 b hf' hb' hb
  ·split at hf'
   ·rename_i e
    subst e
    cases hf'
    rw [upd_same] at hb'
    rw [jao ρ nx v k (h.ok k o1 hf).1] at hb
    exact hap k o1 b hf hb hb'
   ·exact h1.apart k o1 k' o2 b hf hf' hne hb hb'
theorem jdV {B0 : Bd} {hp' : Hp} {nx' : Nat} {ρ' : Env} {m : Nat} {us0 : List Nat} (hB0 : ∀ k, k < m → B0 k ∨ ∀ u o b, us0.contains u = false → find hp' u = some o → (∃ ty c, o = .row ty c) → o.blk (ρ' u) = some b → b ≠ k) (hBm : ∀ k, B k → k < m) (hh' : HRel ρ' B0 hp' nx' w') :
  ∀ (rs : List RV) (ws : List W) (us : List Nat) (nx : Nat) (hp : Hp) (ρ : Env), (∀ x, us0.contains x = true → us.contains x = true) → jcz hp' rs ws us → HRel ρ B hp nx w' →
   (∀ k o b, find hp k = some o → o.blk (ρ k) = some b → b < m ∨ ∃ u ∈ us, ∃ ou, find hp' u = some ou ∧ ou.blk (ρ' u) = some b) →
   ∃ ρ'', jaf nx ρ ρ'' ∧ HRel ρ'' B (jet nx rs hp) (jc0 nx rs) w' ∧ nx ≤ jc0 nx rs ∧ (∀ x ∈ rvW nx rs, W.lt (jc0 nx rs) x) ∧ ws.map (W.val ρ') = (rvW nx rs).map (W.val ρ'') ∧
    ∀ h o k, find (jet nx rs hp) h = some o → (nx ≤ h → o.blk (ρ'' h) = some k → m ≤ k) ∧ (h < nx → find hp h = some o)
 | [], ws, us, nx, hp, ρ, _, hf, hh, _ => by
  cases ws with
  | nil => exact ⟨ρ, jaf.refl _ _, hh, Nat.le_refl _, (fun _ h => by cases h), rfl, fun h o k hf => ⟨fun hle _ => absurd (hh.ok h o hf).1 (by omega), fun _ => hf⟩⟩
  | cons w ws => cases w <;> exact hf.elim
 | .d x :: rs, ws, us, nx, hp, ρ, hsu, hf, hh, hinv => by
  match ws, hf with
  | .c (.d y) :: ws, hf =>
   obtain ⟨ρ'', h1, h2, h3, h4, h5, h6⟩ := jdV hB0 hBm hh' rs ws us nx hp ρ hsu hf.2 hh hinv
   refine ⟨ρ'', h1, h2, h3, fun u hu => ?_, ?_, h6⟩
   ·rcases List.mem_cons.1 hu with rfl | hu
    ·trivial
    ·exact h4 u hu
   ·rw [← jh6 hf.1]
    simp only [List.map_cons, rvW, h5]
    rfl
 | .s l :: rs, ws, us, nx, hp, ρ, hsu, hf, hh, hinv => by
  match ws, hf with
  | .a cs :: ws, hf =>
   simp only [jcz] at hf
   split at hf
   ·rename_i ds hds
    obtain ⟨hl, hf2⟩ := jfC hf
    subst hl
    obtain ⟨ρ'', h1, h2, h3, h4, h5, h6⟩ := jdV hB0 hBm hh' rs ws us nx hp ρ hsu hf2 hh hinv
    refine ⟨ρ'', h1, h2, h3, fun u hu => ?_, ?_, h6⟩
    ·rcases List.mem_cons.1 hu with rfl | hu
     ·intro x hx
      obtain ⟨y, _, rfl⟩ := List.mem_map.1 hx
      trivial
     ·exact h4 u hu
    ·rw [jbQ hds]
     simp only [List.map_cons, rvW, h5]
     congr 1
     simp [W.val, C.val, Function.comp_def]
   ·exact hf.elim
 | .row ty c :: rs, ws, us, nx, hp, ρ, hsu, hf, hh, hinv => by
  match ws, hf with
  | .c (.o h) :: ws, hq =>
   rw [jcz] at hq
   split at hq
   ·exact hq.elim
   ·rename_i hus
    split at hq
    ·rename_i ty' c' hfind
     split at hq
     ·rename_i hty
      have hty : ty' = ty := Nat.eq_of_beq_eq_true hty
      subst hty
      have hc := (jb9 hq.1).symm
      subst hc
      have hok := (hh'.ok h _ hfind).2.2
      have hblk : ∀ b, (ρ' h).ownBlock = some b → m ≤ b := fun b hb => by
       rcases Nat.lt_or_ge b m with hlt | hge
       ·rcases hB0 b hlt with h1 | h1
        ·exact absurd h1 (hok.2 b hb)
        ·have hu0 : us0.contains h = false := by
          cases hc : us0.contains h with
          | false => rfl
          | true => rw [hsu h hc] at hus; cases hus
         exact absurd rfl (h1 h _ b hu0 hfind ⟨_, _, rfl⟩ hb)
       ·exact hge
      have hadd := hh.add1 (v := ρ' h) (o := .row ty' c') trivial (by
       refine ⟨by rw [upd_same]; exact hok.1, fun b hb hBb => ?_⟩
       rw [upd_same] at hb
       have := hblk b hb
       have := hBm b hBb
       omega) (fun k o' b hk hb hb2 => by
        rcases hinv k o' b hk hb with h1 | ⟨u, hu, ou, h1, h2⟩
        ·have := hblk b hb2; omega
        ·refine hh'.apart h _ u ou b hfind h1 (fun e => ?_) hb2 h2
         subst e
         rw [List.contains_iff_mem.2 hu] at hus
         cases hus)
      obtain ⟨ρ'', h1, h2, h3, h4, h5, h6⟩ := jdV hB0 hBm hh' rs ws (h :: us) (nx + 1) ((nx, .row ty' c') :: hp) (upd ρ nx (ρ' h)) (fun x hx => by have := hsu x hx; simp at this ⊢; exact .inr this) hq.2 hadd (fun k o b hk hb => by
       simp only [find] at hk
       split at hk
       ·rename_i e
        subst e
        cases hk
        rw [upd_same] at hb
        exact .inr ⟨h, List.mem_cons_self, _, hfind, hb⟩
       ·rw [jao ρ nx (ρ' h) k (hh.ok k o hk).1] at hb
        rcases hinv k o b hk hb with h1 | ⟨u, hu, ou, h1, h2⟩
        ·exact .inl h1
        ·exact .inr ⟨u, List.mem_cons_of_mem _ hu, ou, h1, h2⟩)
      have hnx : ρ'' nx = ρ' h := by rw [h1 nx (Nat.lt_succ_self nx), upd_same]
      refine ⟨ρ'', fun k hk => by rw [h1 k (by omega), jao ρ nx (ρ' h) k hk], h2, by unfold jc0; omega, fun u hu => ?_, ?_, fun k o b hk => ?_⟩
      ·rcases List.mem_cons.1 hu with rfl | hu
       ·exact Nat.lt_of_lt_of_le (Nat.lt_succ_self nx) h3
       ·exact h4 u hu
      ·simp only [List.map_cons, rvW, h5]
       congr 1
       exact hnx.symm
      ·have h7 := h6 k o b hk
       refine ⟨fun hle hb => ?_, fun hlt => ?_⟩
       ·by_cases hle2 : nx + 1 ≤ k
        ·exact h7.1 hle2 hb
        ·have e : k = nx := by omega
         subst e
         have h8 := h7.2 (Nat.lt_succ_self k)
         simp only [find, if_true] at h8
         cases h8
         rw [hnx] at hb
         exact hblk b hb
       ·have h8 := h7.2 (by omega)
        simp only [find] at h8
        rw [if_neg (by omega)] at h8
        exact h8
     ·exact hq.elim
    ·exact hq.elim
  | .c (.d (.v (.slice none 0 0))) :: ws, hf =>
   simp only [jcz] at hf
   have hn := hf.1.h
   have hfl : c.flat = [] := List.eq_nil_of_length_eq_zero (by rw [Cont.flat_length, hn, Nat.zero_mul])
   have hadd := hh.add1 (v := .slice none 0 0) (o := .row ty c) trivial (by
    refine ⟨?_, fun b hb => ?_⟩
    ·rw [upd_same, hfl, hn]
     exact World.ownsRow_nil w' 0 ty c.e
    ·rw [upd_same] at hb; cases hb) (fun k o' b hk hb hb2 => by cases hb2)
   obtain ⟨ρ'', h1, h2, h3, h4, h5, h6⟩ := jdV hB0 hBm hh' rs ws us (nx + 1) ((nx, .row ty c) :: hp) (upd ρ nx (.slice none 0 0)) hsu hf.2 hadd (fun k o b hk hb => by
    simp only [find] at hk
    split at hk
    ·rename_i e
     subst e
     cases hk
     rw [upd_same] at hb
     cases hb
    ·rw [jao ρ nx _ k (hh.ok k o hk).1] at hb
     exact hinv k o b hk hb)
   have hnx : ρ'' nx = .slice none 0 0 := by rw [h1 nx (Nat.lt_succ_self nx), upd_same]
   refine ⟨ρ'', fun k hk => by rw [h1 k (by omega), jao ρ nx _ k hk], h2, by unfold jc0; omega, fun u hu => ?_, ?_, fun k o b hk => ?_⟩
   ·rcases List.mem_cons.1 hu with rfl | hu
    ·exact Nat.lt_of_lt_of_le (Nat.lt_succ_self nx) h3
    ·exact h4 u hu
   ·simp only [List.map_cons, rvW, h5]
    congr 1
    exact hnx.symm
   ·have h7 := h6 k o b hk
    refine ⟨fun hle hb => ?_, fun hlt => ?_⟩
    ·by_cases hle2 : nx + 1 ≤ k
     ·exact h7.1 hle2 hb
     ·have e : k = nx := by omega
      subst e
      have h8 := h7.2 (Nat.lt_succ_self k)
      simp only [find, if_true] at h8
      cases h8
      rw [hnx] at hb
      cases hb
    ·have h8 := h7.2 (by omega)
     simp only [find] at h8
     rw [if_neg (by omega)] at h8
     exact h8
theorem jaF {f : Nat} {fn : Func} {body : Code} {g : List A → Option (Prop × List RV)} (hm : P.follows .mixedOrders = true) (hsp : jac P sp) (hf : P.funcs[f]? = some fn) (hb : fn.body = some body) (hn : (fn.name == "runtime.NumGoroutine") = false)
  (h : ∀ asq ob rs, g asq = some (ob, rs) → ob → asq.length ≤ fn.ntmps ∧ ∃ fuel loops, sx P sp fn.ntmps asq.length fuel loops (jcx P sp fn.ntmps) body 0 [] ⟨jbU 0 (ja5 0 asq), jbz 0 asq, asq.length⟩ (jdT P fn.results.toList fun v hp _ => jjJ rs v hp)) :
  jah P f true (jay g) := by
 refine .inl ⟨jcA hf hb hn, fun ρ B w args hp nx r hS hob hlt hh hB => ?_⟩
 unfold jay at hS
 split at hS
 ·rename_i asq has
  split at hS
  ·rename_i ob rs hg
   cases hS
   obtain ⟨hlen, fuel, loops, hx⟩ := h asq ob rs hg hob
   have hto := jfg hh args asq 0 (fun i => (args[i]?.map (V.val ρ)).getD undef) has (fun i v hv => by simp [hv])
   have hal : (ja5 0 asq).length = asq.length := by
    have : ∀ (l : List A) (n : Nat), (ja5 n l).length = l.length := fun l => by
     induction l with
     | nil => exact fun _ => rfl
     | cons a l ih => exact fun n => by simp [ja5, ih]
    exact this asq 0
   have hh0 : HRel (fun i => (args[i]?.map (V.val ρ)).getD undef) (fun k => k < w.heap.size) (jbz 0 asq) asq.length w := by
    refine ⟨fun x o hf => ?_, fun x o x' o' k hf hf' _ hb => ?_, jeZ hh.glob hB⟩
    ·obtain ⟨_, h2, c, rfl, h3, h4⟩ := hto.2.2.2 x o hf
     exact ⟨by omega, trivial, h3, h4⟩
    ·obtain ⟨_, _, c, rfl, _, _⟩ := hto.2.2.2 x o hf
     cases hb
   have hcalls := jiR (n0 := asq.length) (B := fun k => k < w.heap.size) hsp (fun ρ w => jcy hm hsp) hf hb (by rw [hal]; exact hlen) hx (fun x hx => by simpa using hto.2.2.1 x hx) (Nat.le_refl _) _ w hh0 (fun k hk => hk)
   rw [hto.1] at hcalls
   refine hcalls.mono ?_
   rintro e w' ⟨ρ', v, hp', nx', rfl, hvlt, hag, hh', hbel, _, hfit⟩
   have hbw : Below w.heap.size w w' := hbel.below
   have hh1 := hh.below hbw hB
   obtain ⟨ws, hws, hfw⟩ : ∃ ws, (jbT ws).val ρ' = v.val ρ' ∧ jcz hp' rs ws [] := by
    match v, hfit with
    | .w u, hfit => exact ⟨[u], rfl, hfit⟩
    | .t [], hfit => exact ⟨[], rfl, hfit⟩
    | .t (x :: y :: l), hfit => exact ⟨x :: y :: l, rfl, hfit⟩
   obtain ⟨ρ'', h1, h2, h3, h4, h5, h6⟩ := jdV (m := w.heap.size) (us0 := []) (fun k hk => .inl hk) hB hh' rs ws [] nx hp ρ (fun _ h => h) hfw hh1 (fun k o b hk hb => .inl (O.blk_lt (hh.ok k o hk).2.2 hb).1)
   refine ⟨ρ'', ?_, h1, jeJ h4, h3, h2, jbK hbw hB, fun _ => hbw, fun _ h o k hle hf hb => (h6 h o k hf).1 hle hb⟩
   show Ending.returned _ = Ending.returned ((jbT (rvW nx rs)).val ρ'')
   rw [← hws, jcw, jcw]
   simp only [h5]
  ·cases hS
 ·cases hS
end
end Go.Sx
end

section
open Go.RowKit
namespace Go.Sx
def jqT : V → Option (Nat × C)
 | .w (.c (.o h)) => some (h, .o 0)
 | .w (.c (.p h i e j)) => some (h, .p 0 i e j)
 | _ => none
def O.own : O → Bool
 | .box _ cs => cs.all fun c => match c with
  | .d _ => true
  | _ => false
 | .row _ _ => true
 | _ => false
def jhw (g : C → O → List A → Option (Prop × O × List RV)) : Spec := fun vs hp nx =>
 match vs with
 | [] => none
 | v0 :: vs => match jqT v0 with
  | none => none
  | some (h, c0) => match find hp h, jcR [] vs with
   | some o, some asq => match o.own, g c0 o asq with
    | true, some (ob, o', rs) => some (.leaf ⟨ob, jbT (rvW nx rs), jet nx rs ((h, o') :: jaM hp), jc0 nx rs⟩)
    | _, _ => none
   | _, _ => none
def mOwn : O → O → Prop → Prop
 | .row ty c, .row ty' c', k => match Nat.beq ty ty' with
  | true => jdA c c' ∧ k
  | false => False
 | .box ty cs, .box ty' cs', k => match Nat.beq ty ty', jbt cs, jbt cs' with
  | true, some ds, some ds' => jjI ds' ds k
  | _, _, _ => False
 | _, _, _ => False
def fitsU (rs : List RV) (v : V) (hp : Hp) : Prop := match v with
 | .w u => jcz hp rs [u] [0]
 | .t [_] => False
 | .t l => jcz hp rs l [0]
def jjK (o' : O) (rs : List RV) (v : V) (hp : Hp) : Prop := match find hp 0 with
 | some o1 => mOwn o' o1 (fitsU rs v hp)
 | none => False
theorem jo4 [Globs] {o' o1 : O} {k : Prop} (h : mOwn o' o1 k) : o1 = o' ∧ o'.own = true ∧ k := by
 unfold mOwn at h
 split at h
 ·split at h
  ·rename_i e
   have := Nat.eq_of_beq_eq_true e
   subst this
   rw [jb9 h.1]
   exact ⟨rfl, rfl, h.2⟩
  ·exact h.elim
 ·split at h
  ·rename_i ds ds' e hd hd'
   have := Nat.eq_of_beq_eq_true e
   subst this
   obtain ⟨h1, h2⟩ := jfC h
   subst h1
   have e1 := jbQ hd
   have e2 := jbQ hd'
   refine ⟨by rw [e1, e2], ?_, h2⟩
   rw [e1]
   unfold O.own
   apply List.all_eq_true.2
   intro c hc
   obtain ⟨x, _, rfl⟩ := List.mem_map.1 hc
   rfl
  ·exact h.elim
 ·exact h.elim
theorem jmg {cs : List C} {ty : Nat} (h : (O.box ty cs).own = true) : ∃ ds : List D, cs = ds.map C.d := by
 unfold O.own at h
 induction cs with
 | nil => exact ⟨[], rfl⟩
 | cons c r ih =>
  simp only [List.all_cons, Bool.and_eq_true] at h
  obtain ⟨ds, rfl⟩ := ih h.2
  cases c with
  | d x => exact ⟨x :: ds, rfl⟩
  | _ => cases h.1
theorem jo5 {ρ ρ' : Env} {B B' : Bd} {h h' : Nat} {w : World} {o : O} (hown : o.own = true) (he : ρ' h' = ρ h) (hok : o.ok ρ B w h) (hb : ∀ k, o.blk (ρ h) = some k → ¬ B' k) : o.ok ρ' B' w h' := by
 cases o with
 | box ty cs =>
  obtain ⟨ds, rfl⟩ := jmg hown
  obtain ⟨k, h1, h2, h3⟩ := hok
  refine ⟨k, by rw [he]; exact h1, hb k (by simp [O.blk, h1, base]), ?_⟩
  rw [h3]
  congr 3
  simp [C.val, Function.comp_def]
 | row ty c =>
  refine ⟨by rw [he]; exact hok.1, fun k hk => ?_⟩
  rw [he] at hk
  exact hb k hk
 | _ => cases hown
theorem jjL {n : Nat} {o : O} (hown : o.own = true) : o.lt n := by
 cases o with
 | box ty cs =>
  obtain ⟨ds, rfl⟩ := jmg hown
  intro c hc
  obtain ⟨x, _, rfl⟩ := List.mem_map.1 hc
  trivial
 | row ty c => trivial
 | _ => cases hown
theorem jrd {o o' : O} {v : Value} (h : o.own = true) (h' : o'.own = true) (hbox : (∃ ty cs, o = .box ty cs) ↔ ∃ ty cs, o' = .box ty cs) : o'.blk v = o.blk v := by
 cases o with
 | box ty cs =>
  obtain ⟨ty', cs', rfl⟩ := hbox.1 ⟨_, _, rfl⟩
  rfl
 | row ty c =>
  cases o' with
  | box ty' cs' =>
   obtain ⟨_, _, h⟩ := hbox.2 ⟨_, _, rfl⟩
   cases h
  | row => rfl
  | _ => cases h'
 | _ => cases h
def jiW : O → O → Bool
 | .box _ _, .box _ _ => true
 | .row _ _, .row _ _ => true
 | _, _ => false
theorem jmh {o o' : O} (h : jiW o o' = true) : (∃ ty cs, o = .box ty cs) ↔ ∃ ty cs, o' = .box ty cs := by
 unfold jiW at h
 split at h
 ·exact ⟨fun _ => ⟨_, _, rfl⟩, fun _ => ⟨_, _, rfl⟩⟩
 ·exact ⟨(fun ⟨_, _, e⟩ => by cases e), (fun ⟨_, _, e⟩ => by cases e)⟩
 ·cases h
section
variable [Globs] {P : Program} {sp : jaa}
theorem jo6 {f : Nat} {fn : Func} {body : Code} {g : C → O → List A → Option (Prop × O × List RV)} (hm : P.follows .mixedOrders = true) (hsp : jac P sp) (hf : P.funcs[f]? = some fn) (hb : fn.body = some body) (hn : (fn.name == "runtime.NumGoroutine") = false)
  (h : ∀ c0 o asq ob o' rs, g c0 o asq = some (ob, o', rs) → o.own = true → ob → c0.lt 1 → jiW o o' = true ∧ asq.length + 1 ≤ fn.ntmps ∧ ∃ fuel loops, sx P sp fn.ntmps 1 fuel loops (jcx P sp fn.ntmps) body 0 [] ⟨jbU 0 (.w (.c c0) :: ja5 1 asq), [(0, o)], 1⟩ (jdT P fn.results.toList fun v hp _ => jjK o' rs v hp)) :
  jah P f false (jhw g) := by
 refine .inl ⟨jcA hf hb hn, fun ρ B w args hp nx r hS hob hlt hh hB => ?_⟩
 unfold jhw at hS
 split at hS
 ·cases hS
 ·rename_i v0 vs
  split at hS
  ·cases hS
  ·rename_i x hd c0 hhd
   split at hS
   ·rename_i o asq hfo has
    split at hS
    ·rename_i ob o' rs hown hg
     cases hS
     have hc0 : (c0.val (fun _ => ρ hd) = v0.val ρ) ∧ c0.lt 1 := by
      unfold jqT at hhd
      split at hhd
      ·cases hhd; exact ⟨rfl, Nat.lt_succ_self 0⟩
      ·cases hhd; exact ⟨rfl, Nat.lt_succ_self 0⟩
      ·cases hhd
     obtain ⟨hkind, hlen, fuel, loops, hx⟩ := h c0 o asq ob o' rs hg hown hob hc0.2
     have hok := hh.ok hd o hfo
     have hto := jfg (ρ := ρ) (B := fun k => k < w.heap.size) (nx := 0) (hp := []) (w := w) ⟨(fun _ _ h => by cases h), (fun _ _ _ _ _ h => by cases h), jeZ hh.glob hB⟩ vs asq 1 (fun i => if i = 0 then ρ hd else (vs[i - 1]?.map (V.val ρ)).getD undef) has (fun i v hv => by
      rw [if_neg (by omega)]
      simp [hv])
     have hnoR : ∀ h o, find (jbz 1 asq) h = some o → False := fun h o hf => by
      have hno : ∀ (vs : List V) (asq : List A) (n : Nat), jcR [] vs = some asq → find (jbz n asq) h = none := by
       intro vs
       induction vs with
       | nil => intro asq n h; simp only [jcR, Option.some.injEq] at h; subst h; rfl
       | cons v vs ih =>
        intro asq n h
        simp only [jcR] at h
        split at h
        ·rename_i a r ha hr
         cases h
         cases a with
         | r c =>
          unfold toA at ha
          split at ha
          ·cases ha
          ·rename_i l
           cases hdd : jbt l <;> simp [hdd] at ha
          ·cases ha
          ·simp [find] at ha
          ·cases ha
         | d x => exact ih r (n + 1) hr
         | s x => exact ih r (n + 1) hr
         | f x => exact ih r (n + 1) hr
        ·cases h
      rw [hno vs asq 1 has] at hf
      cases hf
     have hltA : ∀ x ∈ V.w (.c c0) :: ja5 1 asq, V.lt 1 x := by
      intro x hx
      rcases List.mem_cons.1 hx with rfl | hx
      ·exact hc0.2
      ·have hall : ∀ (vs : List V) (asq : List A) (n : Nat), jcR [] vs = some asq → ∀ x ∈ ja5 n asq, V.lt 1 x := by
        intro vs
        induction vs with
        | nil => intro asq n h; simp only [jcR, Option.some.injEq] at h; subst h; exact fun _ h => by cases h
        | cons v vs ih =>
         intro asq n h
         simp only [jcR] at h
         split at h
         ·rename_i a r ha hr
          cases h
          intro x hx
          rcases List.mem_cons.1 hx with rfl | hx
          ·cases a with
           | r c =>
            unfold toA at ha
            split at ha
            ·cases ha
            ·rename_i l
             cases hdd : jbt l <;> simp [hdd] at ha
            ·cases ha
            ·simp [find] at ha
            ·cases ha
           | d x => trivial
           | s x =>
            intro y hy
            obtain ⟨z, _, rfl⟩ := List.mem_map.1 hy
            trivial
           | f x => exact fun _ h => by cases h
          ·exact ih r (n + 1) hr x hx
         ·cases h
       exact hall vs asq 1 has x hx
     let B0 : Bd := fun k => k < w.heap.size ∧ o.blk (ρ hd) ≠ some k
     let ρ0 : Env := fun i => if i = 0 then ρ hd else (vs[i - 1]?.map (V.val ρ)).getD undef
     have hh0 : HRel ρ0 B0 [(0, o)] 1 w := by
      refine ⟨fun x ob hf => ?_, fun x ob x' ob' k hf hf' hne hb => ?_, hh.glob.sub fun y hy => ⟨hB y hy, fun e => (O.blk_lt hok.2.2 e).2 hy⟩⟩
      ·simp only [find] at hf
       split at hf
       ·rename_i e; subst e; cases hf
        exact ⟨Nat.lt_succ_self 0, jjL hown, jo5 (ρ := ρ) (ρ' := ρ0) (h := hd) (h' := 0) hown rfl hok.2.2 (fun k hk hc => hc.2 hk)⟩
       ·cases hf
      ·simp only [find] at hf hf'
       split at hf
       ·rename_i e; subst e
        rw [if_neg hne] at hf'
        cases hf'
       ·cases hf
     have hal : (ja5 1 asq).length = asq.length := by
      have : ∀ (l : List A) (n : Nat), (ja5 n l).length = l.length := fun l => by
       induction l with
       | nil => exact fun _ => rfl
       | cons a l ih => exact fun n => by simp [ja5, ih]
      exact this asq 1
     have hcalls := jiR (n0 := 1) (B := B0) (args := V.w (.c c0) :: ja5 1 asq) hsp (fun ρ w => jcy hm hsp) hf hb (by rw [List.length_cons, hal]; exact hlen) hx hltA (Nat.le_refl _) ρ0 w hh0 (fun k hk => hk.1)
     have he : (V.w (.c c0) :: ja5 1 asq).map (V.val ρ0) = (v0 :: vs).map (V.val ρ) := by
      rw [List.map_cons, List.map_cons, hto.1]
      congr 1
      rw [← hc0.1]
      exact C.val_agree (fun x hx => by
       have : x = 0 := by omega
       subst this
       rfl) hc0.2
     rw [he] at hcalls
     refine hcalls.mono ?_
     rintro e w' ⟨ρ', v, hp', nx', rfl, hvlt, hag, hh', hbel, _, hfit⟩
     unfold jjK at hfit
     split at hfit
     ·rename_i o1 hf1
      obtain ⟨e1, hown', hfit2⟩ := jo4 hfit
      subst e1
      have hρ0 : ρ' 0 = ρ hd := hag 0 (Nat.lt_succ_self 0)
      have hblk : o1.blk (ρ hd) = o.blk (ρ hd) := jrd hown hown' (jmh hkind)
      have hgB : ∀ k, o1.blk (ρ hd) = some k → ¬ B k := fun k hk => by
       rw [hblk] at hk
       exact (O.blk_lt hok.2.2 hk).2
      have hglt : ∀ k, o.blk (ρ hd) = some k → k < w.heap.size := fun k hk => (O.blk_lt hok.2.2 hk).1
      have hsame : ∀ k, k < w.heap.size → o.blk (ρ hd) ≠ some k → w'.heap[k]? = w.heap[k]? := fun k hk hne => hbel.block k ⟨hk, hne⟩
      have hh1 : HRel ρ B ((hd, o1) :: jaM hp) nx w' := by
       refine ⟨fun x ob hf => ?_, fun x ob x' ob' k hf hf' hne hb hb' => ?_, hh.glob.bel ⟨hbel.os, hbel.tape, hbel.output, hbel.size, fun k hk => hsame k (hB k hk) (fun e => (O.blk_lt hok.2.2 e).2 hk)⟩⟩
       ·simp only [find] at hf
        split at hf
        ·rename_i e; subst e; cases hf
         exact ⟨hok.1, jjL hown', jo5 hown' hρ0.symm (hh'.ok 0 o1 hf1).2.2 (fun k hk => by rw [hρ0] at hk; exact hgB k hk)⟩
        ·rename_i hne
         obtain ⟨o2, h2, h3, h4, h5, h6, h7⟩ := ja1 hh hf
         refine ⟨h3, h4, ?_⟩
         cases hbk : o.blk (ρ hd) with
         | none => exact O.ok_except (g := w.heap.size) (fun k hk _ => hsame k hk (by rw [hbk]; simp)) (fun hc => Nat.lt_irrefl _ (hB _ hc)) h5 (fun e => by have := (O.blk_lt h5 e).1; omega) h6
         | some g => exact O.ok_except (g := g) (fun k hk hne => hsame k hk (by rw [hbk]; simpa using fun e => hne e.symm)) (O.blk_lt hok.2.2 hbk).2 h5 (fun e => hh.apart hd o x o2 g hfo h2 hne hbk (h7 g e)) h6
       ·simp only [find] at hf hf'
        split at hf
        ·rename_i e; subst e; cases hf
         rw [if_neg hne] at hf'
         obtain ⟨o2, h2, _, _, _, _, h7⟩ := ja1 hh hf'
         rw [hblk] at hb
         exact hh.apart hd o x' o2 k hfo h2 hne hb (h7 k hb')
        ·rename_i hne2
         split at hf'
         ·rename_i e; subst e; cases hf'
          obtain ⟨o2, h2, _, _, _, _, h7⟩ := ja1 hh hf
          rw [hblk] at hb'
          exact hh.apart hd o x o2 k hfo h2 hne2 hb' (h7 k hb)
         ·obtain ⟨o2, h2, _, _, _, _, h7⟩ := ja1 hh hf
          obtain ⟨o3, h3, _, _, _, _, h8⟩ := ja1 hh hf'
          exact hh.apart x o2 x' o3 k h2 h3 hne (h7 k hb) (h8 k hb')
      obtain ⟨ws, hws, hfw⟩ : ∃ ws, (jbT ws).val ρ' = v.val ρ' ∧ jcz hp' rs ws [0] := by
       clear hfit
       match v, hfit2 with
       | .w u, hfit => exact ⟨[u], rfl, hfit⟩
       | .t [], hfit => exact ⟨[], rfl, hfit⟩
       | .t (x :: y :: l), hfit => exact ⟨x :: y :: l, rfl, hfit⟩
      obtain ⟨ρ'', h1, h2, h3, h4, h5, h6⟩ := jdV (m := w.heap.size) (us0 := [0]) (fun k hk => by
       by_cases e : o.blk (ρ hd) = some k
       ·refine .inr fun u ou b hu hfu hrow hbu hbk => ?_
        subst hbk
        have hne : (0 : Nat) ≠ u := fun e => by subst e; simp at hu
        exact hh'.apart 0 o1 u ou b hf1 hfu hne (by rw [hρ0, hblk]; exact e) hbu
       ·exact .inl ⟨hk, e⟩) hB hh' rs ws [0] nx ((hd, o1) :: jaM hp) ρ (fun _ h => h) hfw hh1 (fun k ou b hk hbk => by
        simp only [find] at hk
        split at hk
        ·rename_i e; subst e; cases hk
         rw [hblk] at hbk
         exact .inl (hglt b hbk)
        ·obtain ⟨o2, h2, _, _, h5, _, _⟩ := ja1 hh hk
         exact .inl (O.blk_lt h5 hbk).1)
      refine ⟨ρ'', ?_, h1, jeJ h4, h3, h2, ⟨hbel.os, hbel.tape, hbel.output, hbel.size, fun k hk => ?_⟩, (fun h => by cases h), fun h => by cases h⟩
      ·show Ending.returned _ = Ending.returned ((jbT (rvW nx rs)).val ρ'')
       rw [← hws, jcw, jcw]
       simp only [h5]
      ·refine hsame k (hB k hk) (fun e => ?_)
       exact (O.blk_lt hok.2.2 e).2 hk
     ·exact hfit.elim
    ·cases hS
   ·cases hS
end
end Go.Sx
end

section
open Go.RowKit
namespace Go.Sx
def toAK (q : Option Cont) (hp : Hp) (v : V) : Option A :=
 match q with
 | none => toA hp v
 | some c0 => match v.nils?, c0.n, c0.e with
  | true, 0, _ + 1 => some (.r c0)
  | _, _, _ => toA hp v
def jh9 : List (Option Cont) → Hp → List V → Option (List A)
 | _, _, [] => some []
 | qs, hp, v :: l => match toAK (qs.headD none) hp v, jh9 qs.tail hp l with
  | some a, some r => some (a :: r)
  | _, _ => none
def jaG (qs : List (Option Cont)) (g : List A → Option (Prop × List RV)) : Spec := fun vs hp nx =>
 match jh9 qs hp vs with
 | some asq => match g asq with
  | some (ob, rs) => some (.leaf ⟨ob, jbT (rvW nx rs), jet nx rs hp, jc0 nx rs⟩)
  | none => none
 | none => none
section
variable [Globs] {P : Program} {sp : jaa} {ρ : Env} {B : Bd} {nx : Nat} {hp : Hp} {w w' : World}
theorem jre {v : V} (h : v.nils? = true) : v = .w (.c (.d (.v (.slice none 0 0)))) := by
 unfold V.nils? at h
 split at h
 ·rfl
 ·cases h
theorem jmi (hh : HRel ρ B hp nx w) {v : V} {a : A} (ha : toA hp v = some a) (n m : Nat) (ρ0 : Env) (h0 : ρ0 n = v.val ρ) :
  (jgt n a).val ρ0 = v.val ρ ∧ V.lt (n + (m + 1)) (jgt n a) ∧ ∀ c, a = .r c → jaJ w (ρ0 n) c ∧ jcF (fun k => k < w.heap.size) (ρ0 n) := by
 unfold toA at ha
 split at ha
 ·cases ha; exact ⟨rfl, trivial, fun _ h => by cases h⟩
 ·rename_i l
  cases hd : jbt l with
  | none => simp [hd] at ha
  | some ds =>
   simp only [hd, Option.map_some, Option.some.injEq] at ha
   subst ha
   rw [jbQ hd]
   refine ⟨?_, (fun x hx => ?_), fun _ h => by cases h⟩
   ·simp [jgt, V.val, W.val, C.val, Function.comp_def]
   ·obtain ⟨y, _, rfl⟩ := List.mem_map.1 hx
    trivial
 ·cases ha
  exact ⟨rfl, (fun _ h => by cases h), fun _ h => by cases h⟩
 ·rename_i k
  split at ha
  ·rename_i c hc
   split at ha
   ·cases ha
   ·rename_i e he
    cases ha
    cases hf : find hp k with
    | none => simp [hf] at hc
    | some o =>
     simp only [hf, Option.bind_some] at hc
     have hrow := jaZ (hh.ok k o hf).2.2 hc
     have e0 : ρ0 n = ρ k := h0
     refine ⟨e0, (show n < n + (m + 1) by omega), fun c' hc' => ?_⟩
     cases hc'
     rw [e0]
     exact ⟨hrow, jaJ.lt hrow (by omega)⟩
  ·cases ha
 ·cases ha
theorem jo7 (hh : HRel ρ B hp nx w) {q : Option Cont} {v : V} {a : A} (ha : toAK q hp v = some a) (n m : Nat) (ρ0 : Env) (h0 : ρ0 n = v.val ρ) :
  (jgt n a).val ρ0 = v.val ρ ∧ V.lt (n + (m + 1)) (jgt n a) ∧ ∀ c, a = .r c → jaJ w (ρ0 n) c ∧ jcF (fun k => k < w.heap.size) (ρ0 n) := by
 unfold toAK at ha
 split at ha
 ·exact jmi hh ha n m ρ0 h0
 ·rename_i c0
  split at ha
  ·rename_i e hn hc he
   cases ha
   have hv := jre hn
   subst hv
   refine ⟨h0, (show n < n + (m + 1) by omega), fun c' hc' => ?_⟩
   cases hc'
   rw [h0]
   refine ⟨⟨none, 0, by rw [hc]; rfl, ⟨by omega, fun _ => rfl⟩, fun h => by omega⟩, fun a n cap h _ => ?_⟩
   cases h
  ·exact jmi hh ha n m ρ0 h0
theorem jjM (hh : HRel ρ B hp nx w) : ∀ (qs : List (Option Cont)) (vs : List V) (asq : List A) (n : Nat) (ρ0 : Env), jh9 qs hp vs = some asq → (∀ i v, vs[i]? = some v → ρ0 (n + i) = v.val ρ) →
  (ja5 n asq).map (V.val ρ0) = vs.map (V.val ρ) ∧ asq.length = vs.length ∧ (∀ x ∈ ja5 n asq, V.lt (n + asq.length) x) ∧
   ∀ h o, find (jbz n asq) h = some o → n ≤ h ∧ h < n + asq.length ∧ ∃ c, o = .ext c ∧ jaJ w (ρ0 h) c ∧ jcF (fun k => k < w.heap.size) (ρ0 h)
 | _, [], asq, n, ρ0, h, _ => by
  simp only [jh9, Option.some.injEq] at h
  subst h
  exact ⟨rfl, rfl, (fun _ h => by cases h), fun _ _ h => by cases h⟩
 | qs, v :: vs, asq, n, ρ0, h, hρ => by
  simp only [jh9] at h
  split at h
  ·rename_i a r ha hr
   cases h
   have ih := jjM hh qs.tail vs r (n + 1) ρ0 hr (fun i v hv => by rw [show n + 1 + i = n + (i + 1) by omega]; exact hρ (i + 1) v (by simpa using hv))
   have h0 := hρ 0 v rfl
   rw [Nat.add_zero] at h0
   have hv := jo7 hh ha n r.length ρ0 h0
   have hag : ∀ x, V.lt (n + 1 + r.length) x → V.lt (n + (r.length + 1)) x := fun x hx => V.lt_mono (by omega) hx
   refine ⟨by simp only [ja5, List.map_cons, hv.1, ih.1], by simp [ih.2.1], fun x hx => ?_, fun h o hf => ?_⟩
   ·rcases List.mem_cons.1 hx with rfl | hx
    ·simpa using hv.2.1
    ·simpa using hag x (ih.2.2.1 x hx)
   ·cases a with
    | r c =>
     simp only [jbz, find] at hf
     split at hf
     ·rename_i e
      subst e
      cases hf
      exact ⟨Nat.le_refl _, by simp, c, rfl, hv.2.2 c rfl⟩
     ·have := ih.2.2.2 h o hf
      simp only [List.length_cons]
      exact ⟨by omega, by omega, this.2.2⟩
    | d x => have := ih.2.2.2 h o hf; simp only [List.length_cons]; exact ⟨by omega, by omega, this.2.2⟩
    | s x => have := ih.2.2.2 h o hf; simp only [List.length_cons]; exact ⟨by omega, by omega, this.2.2⟩
    | f x => have := ih.2.2.2 h o hf; simp only [List.length_cons]; exact ⟨by omega, by omega, this.2.2⟩
  ·cases h
theorem jaR {f : Nat} {fn : Func} {body : Code} {qs : List (Option Cont)} {g : List A → Option (Prop × List RV)} (hm : P.follows .mixedOrders = true) (hsp : jac P sp) (hf : P.funcs[f]? = some fn) (hb : fn.body = some body) (hn : (fn.name == "runtime.NumGoroutine") = false)
  (h : ∀ asq ob rs, g asq = some (ob, rs) → ob → asq.length ≤ fn.ntmps ∧ ∃ fuel loops, sx P sp fn.ntmps asq.length fuel loops (jcx P sp fn.ntmps) body 0 [] ⟨jbU 0 (ja5 0 asq), jbz 0 asq, asq.length⟩ (jdT P fn.results.toList fun v hp _ => jjJ rs v hp)) :
  jah P f true (jaG qs g) := by
 refine .inl ⟨jcA hf hb hn, fun ρ B w args hp nx r hS hob hlt hh hB => ?_⟩
 unfold jaG at hS
 split at hS
 ·rename_i asq has
  split at hS
  ·rename_i ob rs hg
   cases hS
   obtain ⟨hlen, fuel, loops, hx⟩ := h asq ob rs hg hob
   have hto := jjM hh qs args asq 0 (fun i => (args[i]?.map (V.val ρ)).getD undef) has (fun i v hv => by simp [hv])
   have hal : (ja5 0 asq).length = asq.length := by
    have : ∀ (l : List A) (n : Nat), (ja5 n l).length = l.length := fun l => by
     induction l with
     | nil => exact fun _ => rfl
     | cons a l ih => exact fun n => by simp [ja5, ih]
    exact this asq 0
   have hh0 : HRel (fun i => (args[i]?.map (V.val ρ)).getD undef) (fun k => k < w.heap.size) (jbz 0 asq) asq.length w := by
    refine ⟨fun x o hf => ?_, fun x o x' o' k hf hf' _ hb => ?_, jeZ hh.glob hB⟩
    ·obtain ⟨_, h2, c, rfl, h3, h4⟩ := hto.2.2.2 x o hf
     exact ⟨by omega, trivial, h3, h4⟩
    ·obtain ⟨_, _, c, rfl, _, _⟩ := hto.2.2.2 x o hf
     cases hb
   have hcalls := jiR (n0 := asq.length) (B := fun k => k < w.heap.size) hsp (fun ρ w => jcy hm hsp) hf hb (by rw [hal]; exact hlen) hx (fun x hx => by simpa using hto.2.2.1 x hx) (Nat.le_refl _) _ w hh0 (fun k hk => hk)
   rw [hto.1] at hcalls
   refine hcalls.mono ?_
   rintro e w' ⟨ρ', v, hp', nx', rfl, hvlt, hag, hh', hbel, _, hfit⟩
   have hbw : Below w.heap.size w w' := hbel.below
   have hh1 := hh.below hbw hB
   obtain ⟨ws, hws, hfw⟩ : ∃ ws, (jbT ws).val ρ' = v.val ρ' ∧ jcz hp' rs ws [] := by
    match v, hfit with
    | .w u, hfit => exact ⟨[u], rfl, hfit⟩
    | .t [], hfit => exact ⟨[], rfl, hfit⟩
    | .t (x :: y :: l), hfit => exact ⟨x :: y :: l, rfl, hfit⟩
   obtain ⟨ρ'', h1, h2, h3, h4, h5, h6⟩ := jdV (m := w.heap.size) (us0 := []) (fun k hk => .inl hk) hB hh' rs ws [] nx hp ρ (fun _ h => h) hfw hh1 (fun k o b hk hb => .inl (O.blk_lt (hh.ok k o hk).2.2 hb).1)
   refine ⟨ρ'', ?_, h1, jeJ h4, h3, h2, jbK hbw hB, fun _ => hbw, fun _ h o k hle hf hb => (h6 h o k hf).1 hle hb⟩
   show Ending.returned _ = Ending.returned ((jbT (rvW nx rs)).val ρ'')
   rw [← hws, jcw, jcw]
   simp only [h5]
  ·cases hS
 ·cases hS
end
end Go.Sx
end

section
open Go.RowKit
namespace Go.Sx
inductive Sh where
 | d
 | r (c0 : Cont)
 | x (x0 : XC)
 | p (l : List Sh)
 | f (g : Nat) (l : List Sh)
inductive SV where
 | c (x : Sh)
 | a (l : List Sh)
 | b (k : FloatKind) (e : Nat)
inductive Lf where
 | d (x : D)
 | n (k : FloatKind)
 | r (c : Cont)
 | x (x : XC)
 | b (k : FloatKind) (e : Nat) (r : List Nat)
def nilC : C → Bool
 | .d (.v (.slice none 0 0)) => true
 | _ => false
def je0 (hp : Hp) (h : Nat) : Option (List C) := match find hp h with
 | some (.box _ cs) => some cs
 | some (.ebox cs) => some cs
 | _ => none
def isP : Sh → Bool
 | .p _ => true
 | _ => false
def jdE (f : Sh → C → Option (List Lf × List C)) : List Sh → List C → Option (List Lf × List C)
 | [], [] => some ([], [])
 | s :: l, c :: cs => match f s c, jdE f l cs with
  | some (a, x), some (b, y) => some (a ++ b, x ++ y)
  | _, _ => none
 | _, _ => none
def toC (hp : Hp) : Nat → Sh → C → Option (List Lf × List C)
 | 0, _, _ => none
 | n + 1, s, c =>
  match s with
  | .d => match c with
   | .d x => some ([.d x], [])
   | .o h => match find hp h with
    | some (.nan k) => some ([.n k], [c])
    | _ => none
   | _ => none
  | .r c0 => match nilC c with
   | true => match c0.n, c0.e with
    | 0, _ + 1 => some ([.r c0], [c])
    | _, _ => none
   | false => match c with
    | .o h => match (find hp h).bind O.cont with
     | some x => match x.e with
      | 0 => none
      | _ + 1 => some ([.r x], [c])
     | none => none
    | _ => none
  | .x x0 => match nilC c with
   | true => match x0.n with
    | 0 => some ([.x x0], [c])
    | _ => none
   | false => match c with
    | .o h => match find hp h with
     | some (.xext X) => some ([.x X], [c])
     | _ => none
    | _ => none
  | .p l => match c with
   | .p h 0 _ 0 => match je0 hp h with
    | some cs => (jdE (toC hp n) l cs).map fun (a, x) => (a, x ++ [c])
    | none => none
   | .o h => match je0 hp h with
    | some cs => (jdE (toC hp n) l cs).map fun (a, x) => (a, x ++ [c])
    | none => none
   | _ => none
  | .f g l => match c with
   | .fn g' hs => match Nat.beq g g', l.all isP with
    | true, true => jdE (toC hp n) l (hs.map C.o)
    | _, _ => none
   | _ => none
def toV (hp : Hp) (s : SV) (v : V) : Option (List Lf × List C) :=
 match s, v with
 | .c s, .w (.c c) => toC hp 8 s c
 | .a l, .w (.a cs) => jdE (toC hp 8) l cs
 | .b k e, .w (.b k' e' r) => match jcg k k', Nat.beq e e' with
  | true, true => some ([.b k e r], [])
  | _, _ => none
 | .b k e, .w (.a cs) => match jdc k cs with
  | some r => match Nat.beq e r.length with
   | true => some ([.b k e r], [])
   | false => none
  | none => none
 | _, _ => none
def jiX (hp : Hp) : List SV → List V → Option (List Lf × List C)
 | [], [] => some ([], [])
 | s :: l, v :: vs => match toV hp s v, jiX hp l vs with
  | some (a, x), some (b, y) => some (a ++ b, x ++ y)
  | _, _ => none
 | _, _ => none
structure Bt where
 cs : List C
 hp : Hp
 n : Nat
 ls : List Lf
def jgu (f : Sh → Nat → List Lf → Option Bt) : List Sh → Nat → List Lf → Option Bt
 | [], n, ls => some ⟨[], [], n, ls⟩
 | s :: l, n, ls => match f s n ls with
  | some a => match jgu f l a.n a.ls with
   | some b => some ⟨a.cs ++ b.cs, b.hp ++ a.hp, b.n, b.ls⟩
   | none => none
  | none => none
def hOf : C → Nat
 | .p h _ _ _ => h
 | .o h => h
 | _ => 0
def jdW : Nat → Sh → Nat → List Lf → Option Bt
 | 0, _, _, _ => none
 | m + 1, s, n, ls =>
  match s with
  | .d => match ls with
   | .d x :: r => some ⟨[.d x], [], n, r⟩
   | .n k :: r => some ⟨[.o n], [(n, .nan k)], n + 1, r⟩
   | _ => none
  | .r _ => match ls with
   | .r c :: r => some ⟨[.o n], [(n, .ext c)], n + 1, r⟩
   | _ => none
  | .x _ => match ls with
   | .x X :: r => some ⟨[.o n], [(n, .xext X)], n + 1, r⟩
   | _ => none
  | .p l => match jgu (jdW m) l n ls with
   | some b => some ⟨[.p b.n 0 1 0], (b.n, .ebox b.cs) :: b.hp, b.n + 1, b.ls⟩
   | none => none
  | .f g l => match jgu (jdW m) l n ls with
   | some b => some ⟨[.fn g (b.cs.map hOf)], b.hp, b.n, b.ls⟩
   | none => none
structure Bv where
 vs : List V
 hp : Hp
 n : Nat
 ls : List Lf
def jjN : List C → C
 | c :: _ => c
 | [] => .d (.v undef)
def bldV (s : SV) (n : Nat) (ls : List Lf) : Option Bv :=
 match s with
 | .c s => (jdW 8 s n ls).map fun b => ⟨[.w (.c (jjN b.cs))], b.hp, b.n, b.ls⟩
 | .a l => (jgu (jdW 8) l n ls).map fun b => ⟨[.w (.a b.cs)], b.hp, b.n, b.ls⟩
 | .b _ _ => match ls with
  | .b k e r :: q => some ⟨[.w (.b k e r)], [], n, q⟩
  | _ => none
def jia : List SV → Nat → List Lf → Option Bv
 | [], n, ls => some ⟨[], [], n, ls⟩
 | s :: l, n, ls => match bldV s n ls with
  | some a => match jia l a.n a.ls with
   | some b => some ⟨a.vs ++ b.vs, b.hp ++ a.hp, b.n, b.ls⟩
   | none => none
  | none => none
inductive RC where
 | d (x : D)
 | g (i : Nat)
 | row (ty : Nat) (c : Cont)
 | box (ty : Nat) (l : List RC)
 | rrow (c : Cont)
inductive RR where
 | c (x : RC)
 | s (l : List RC)
 | b (k : FloatKind) (e : Nat) (r : List Nat)
inductive GT where
 | leaf (ob : Prop) (rs : List RR)
 | br (b : Bool) (x y : GT)
def GT.sel : GT → Prop × List RR
 | .leaf ob rs => (ob, rs)
 | .br b x y => match b with
  | true => x.sel
  | false => y.sel
structure Rt where
 cs : List C
 hp : Hp
 n : Nat
def rvL (f : RC → Nat → Rt) : List RC → Nat → Rt
 | [], n => ⟨[], [], n⟩
 | r :: l, n =>
  let a := f r n
  let b := rvL f l a.n
  ⟨a.cs ++ b.cs, b.hp ++ a.hp, b.n⟩
def rvC (am : List C) : Nat → RC → Nat → Rt
 | 0, _, n => ⟨[.d (.v undef)], [], n⟩
 | m + 1, r, n =>
  match r with
  | .d x => ⟨[.d x], [], n⟩
  | .g i => ⟨[am.getD i (.d (.v undef))], [], n⟩
  | .row ty c => ⟨[.o n], [(n, .row ty c)], n + 1⟩
  | .rrow c => ⟨[.o n], [(n, .rrow c)], n + 1⟩
  | .box ty l =>
   let b := rvL (rvC am m) l n
   ⟨[.p b.n 0 1 0], (b.n, .box ty b.cs) :: b.hp, b.n + 1⟩
structure Rw where
 ws : List W
 hp : Hp
 n : Nat
def rvR (am : List C) (r : RR) (n : Nat) : Rw :=
 match r with
 | .c x => let b := rvC am 8 x n; ⟨[.c (jjN b.cs)], b.hp, b.n⟩
 | .s l => let b := rvL (rvC am 8) l n; ⟨[.a b.cs], b.hp, b.n⟩
 | .b k e r => ⟨[.b k e r], [], n⟩
def jcS (am : List C) : List RR → Nat → Rw
 | [], n => ⟨[], [], n⟩
 | r :: l, n =>
  let a := rvR am r n
  let b := jcS am l a.n
  ⟨a.ws ++ b.ws, b.hp ++ a.hp, b.n⟩
def GT.toRT (am : List C) (hp : Hp) (nx : Nat) : GT → RT
 | .leaf ob rs => let b := jcS am rs nx; .leaf ⟨ob, jbT b.ws, b.hp ++ hp, b.n⟩
 | .br b x y => .br b (x.toRT am hp nx) (y.toRT am hp nx)
def jc6 (shs : List SV) (g : List Lf → Option GT) : Spec := fun vs hp nx =>
 match jiX hp shs vs with
 | some (ls, am) => match g ls with
  | some t => some (t.toRT am hp nx)
  | none => none
 | none => none
def fitL (f : RC → C → List Nat → (List Nat → Prop) → Prop) : List RC → List C → List Nat → (List Nat → Prop) → Prop
 | [], [], us, k => k us
 | r :: l, c :: cs, us, k => f r c us fun us => fitL f l cs us k
 | _, _, _, _ => False
def jmj (n0 : Nat) (hp : Hp) : Nat → RC → C → List Nat → (List Nat → Prop) → Prop
 | 0, _, _, _, _ => False
 | m + 1, r, c, us, k =>
  match r, c with
  | .d x, .d y => mD x y ∧ k us
  | .g i, .o h => match Nat.beq i h, Nat.blt i n0 with
   | true, true => k us
   | _, _ => False
  | .row ty c, .o h => match us.contains h with
   | true => False
   | false => match find hp h with
    | some (.row ty' c') => match Nat.beq ty' ty with
     | true => jdA c c' ∧ k (h :: us)
     | false => False
    | _ => False
  | .row _ c, .d (.v (.slice none 0 0)) => Ob (c.n = 0) ∧ k us
  | .rrow c, .o h => match us.contains h with
   | true => False
   | false => match find hp h with
    | some (.rrow c') => jdA c c' ∧ k (h :: us)
    | _ => False
  | .rrow c, .d (.v (.slice none 0 0)) => Ob (c.n = 0) ∧ k us
  | .box ty l, .p h 0 _ 0 => match find hp h with
   | some (.box ty' cs) => match Nat.beq ty' ty with
    | true => fitL (jmj n0 hp m) l cs us fun us => match us.contains h with
     | true => False
     | false => k (h :: us)
    | false => False
   | _ => False
  | _, _ => False
def fitR (n0 : Nat) (hp : Hp) (r : RR) (w : W) (us : List Nat) (k : List Nat → Prop) : Prop :=
 match r, w with
 | .c x, .c c => jmj n0 hp 8 x c us k
 | .s l, .a cs => fitL (jmj n0 hp 8) l cs us k
 | .b q e r, .b q' e' r' => match jcg q q', Nat.beq e e' with
  | true, true => Ob (r = r') ∧ k us
  | _, _ => False
 | _, _ => False
def jjO (n0 : Nat) (hp : Hp) : List RR → List W → List Nat → Prop
 | [], [], _ => True
 | r :: l, w :: ws, us => fitR n0 hp r w us fun us => jjO n0 hp l ws us
 | _, _, _ => False
def fitV (n0 : Nat) (rs : List RR) (v : V) (hp : Hp) : Prop := match v with
 | .w u => jjO n0 hp rs [u] []
 | .t [_] => False
 | .t l => jjO n0 hp rs l []
section
variable [Globs] {P : Program} {sp : jaa} {ρ : Env} {B : Bd} {nx : Nat} {hp : Hp} {w w' : World}
theorem C.p_val {ρ : Env} {h i e j : Nat} : (C.p h i e j).val ρ = .pointer (some ⟨(base (ρ h)).block, (base (ρ h)).off + (i * e + j), none⟩) := rfl
structure BOK (ρ : Env) (w : World) (nx n : Nat) (ρ1 ρ2 : Env) (rest : List Lf) (cs x : List C) (b : Bt) : Prop where
 ls : b.ls = rest
 nn : b.n = n + x.length
 agree : jaf n ρ1 ρ2
 val : b.cs.map (C.val ρ2) = cs.map (C.val ρ)
 lt : ∀ c ∈ b.cs, C.lt b.n c
 heap : ∀ h o, find b.hp h = some o → n ≤ h ∧ h < b.n ∧ o.lt b.n ∧ o.ok ρ2 (fun k => k < w.heap.size) w h ∧ ∀ v, o.blk v = none
 own : ∀ i, i < x.length → ρ2 (n + i) = (x.getD i (.d (.v undef))).val ρ
 xlt : ∀ y ∈ x, C.lt nx y
 hnd : ∀ c ∈ b.cs, (∃ m i e j, c = .p m i e j) → ρ2 (hOf c) = c.val ρ2 ∧ hOf c < b.n
theorem BOK.append {n : Nat} {ρ1 ρ2 ρ3 : Env} {r1 rest : List Lf} {c1 c2 x1 x2 : List C} {b1 b2 : Bt} (h1 : BOK ρ w nx n ρ1 ρ2 r1 c1 x1 b1) (h2 : BOK ρ w nx b1.n ρ2 ρ3 rest c2 x2 b2) :
  BOK ρ w nx n ρ1 ρ3 rest (c1 ++ c2) (x1 ++ x2) ⟨b1.cs ++ b2.cs, b2.hp ++ b1.hp, b2.n, b2.ls⟩ := by
 have hle : b1.n ≤ b2.n := by rw [h2.nn]; omega
 have hn1 : n ≤ b1.n := by rw [h1.nn]; omega
 refine ⟨h2.ls, ?_, h1.agree.trans h2.agree hn1, ?_, ?_, ?_, ?_, ?_, ?_⟩
 ·show b2.n = _
  rw [h2.nn, h1.nn, List.length_append]; omega
 ·simp only [List.map_append, h2.val]
  congr 1
  rw [← h1.val]
  exact List.map_congr_left fun c hc => C.val_agree h2.agree (h1.lt c hc)
 ·intro c hc
  rcases List.mem_append.1 hc with hc | hc
  ·exact C.lt_mono hle (h1.lt c hc)
  ·exact h2.lt c hc
 ·intro h o hf
  have hf : find (b2.hp ++ b1.hp) h = some o := hf
  rw [jau] at hf
  cases hg : find b2.hp h with
  | some o2 =>
   rw [hg] at hf
   cases hf
   obtain ⟨a1, a2, a3, a4, a5⟩ := h2.heap h o hg
   exact ⟨Nat.le_trans hn1 a1, a2, a3, a4, a5⟩
  | none =>
   rw [hg] at hf
   obtain ⟨a1, a2, a3, a4, a5⟩ := h1.heap h o hf
   exact ⟨a1, Nat.lt_of_lt_of_le a2 hle, O.lt_mono hle a3, O.ok_agree h2.agree a2 a3 a4, a5⟩
 ·intro i hi
  by_cases hlt : i < x1.length
  ·rw [h2.agree (n + i) (by rw [h1.nn]; omega), h1.own i hlt]
   simp [List.getD, List.getElem?_append_left hlt]
  ·have e1 : n + i = b1.n + (i - x1.length) := by rw [h1.nn]; omega
   rw [e1, h2.own (i - x1.length) (by simp at hi; omega)]
   simp [List.getD, List.getElem?_append_right (Nat.le_of_not_lt hlt)]
 ·intro y hy
  rcases List.mem_append.1 hy with hy | hy
  ·exact h1.xlt y hy
  ·exact h2.xlt y hy
 ·intro c hc hp
  rcases List.mem_append.1 hc with hc | hc
  ·obtain ⟨a1, a2⟩ := h1.hnd c hc hp
   exact ⟨by rw [h2.agree _ a2, a1]; exact (C.val_agree h2.agree (h1.lt c hc)).symm, Nat.lt_of_lt_of_le a2 hle⟩
  ·exact h2.hnd c hc hp
theorem BOK.nil {n : Nat} {ρ1 : Env} {rest : List Lf} : BOK ρ w nx n ρ1 ρ1 rest [] [] ⟨[], [], n, rest⟩ :=
 ⟨rfl, rfl, jaf.refl _ _, rfl, (fun _ h => by cases h), (fun _ _ h => by cases h), (fun _ h => by cases h), (fun _ h => by cases h), fun _ h => by cases h⟩
def ToOK (ρ : Env) (w : World) (nx : Nat) (s : Sh) (c : C) (a : List Lf) (x : List C) (g : Sh → Nat → List Lf → Option Bt) : Prop :=
 ∀ (n : Nat) (ρ1 : Env) (rest : List Lf), ∃ b ρ2, g s n (a ++ rest) = some b ∧ BOK ρ w nx n ρ1 ρ2 rest [c] x b
theorem jhx {f : Sh → C → Option (List Lf × List C)} {g : Sh → Nat → List Lf → Option Bt} (hf : ∀ s c a x, f s c = some (a, x) → C.lt nx c → ToOK ρ w nx s c a x g) :
  ∀ (l : List Sh) (cs : List C) (a : List Lf) (x : List C), jdE f l cs = some (a, x) → (∀ c ∈ cs, C.lt nx c) → ∀ (n : Nat) (ρ1 : Env) (rest : List Lf), ∃ b ρ2, jgu g l n (a ++ rest) = some b ∧ BOK ρ w nx n ρ1 ρ2 rest cs x b
 | [], [], a, x, h, _, n, ρ1, rest => by
  simp only [jdE, Option.some.injEq, Prod.mk.injEq] at h
  obtain ⟨rfl, rfl⟩ := h
  exact ⟨_, ρ1, rfl, BOK.nil⟩
 | s :: l, c :: cs, a, x, h, hlt, n, ρ1, rest => by
  simp only [jdE] at h
  split at h
  ·rename_i a1 x1 a2 x2 h1 h2
   cases h
   obtain ⟨b1, ρ2, e1, k1⟩ := hf s c a1 x1 h1 (hlt c List.mem_cons_self) n ρ1 (a2 ++ rest)
   obtain ⟨b2, ρ3, e2, k2⟩ := jhx hf l cs a2 x2 h2 (fun c hc => hlt c (List.mem_cons_of_mem _ hc)) b1.n ρ2 rest
   refine ⟨_, ρ3, ?_, k1.append k2⟩
   rw [List.append_assoc]
   simp only [jgu, e1, k1.ls, e2]
  ·cases h
 | [], _ :: _, _, _, h, _, _, _, _ => by simp [jdE] at h
 | _ :: _, [], _, _, h, _, _, _, _ => by simp [jdE] at h
theorem jkX {c : C} (h : nilC c = true) : c = .d (.v (.slice none 0 0)) := by
 unfold nilC at h
 split at h
 ·rfl
 ·cases h
theorem jgV (hh : HRel ρ B hp nx w) (hB : Old B w) {h : Nat} {cs : List C} (hc : je0 hp h = some cs) :
  h < nx ∧ (∀ c ∈ cs, C.lt nx c) ∧ ∃ k o, ρ h = .pointer (some ⟨k, o, none⟩) ∧ k < w.heap.size ∧ ∀ j c, cs[j]? = some c → w.cell? ⟨k, o + j, none⟩ = some (c.val ρ) := by
 unfold je0 at hc
 split at hc
 ·rename_i ty cs' hf
  cases hc
  obtain ⟨h1, h2, g, h3, h4, h5⟩ := hh.ok h _ hf
  refine ⟨h1, h2, g, 0, h3, (Array.getElem?_eq_some_iff.1 h5).1, fun j c hj => ?_⟩
  rw [Nat.zero_add, cell_of_row w g _ _ ty (0, 0) h5]
  simp [hj]
 ·rename_i cs' hf
  cases hc
  obtain ⟨h1, h2, g, o, h3, h4, h5⟩ := hh.ok h _ hf
  exact ⟨h1, h2, g, o, h3, hB g h4, h5⟩
 ·cases hc
theorem BOK.one {n : Nat} {ρ1 : Env} {rest : List Lf} {c : C} {o : O} (hc : C.lt nx c) (hl : o.lt (n + 1)) (hb : ∀ v, o.blk v = none) (ho : o.ok (upd ρ1 n (c.val ρ)) (fun k => k < w.heap.size) w n) :
  BOK ρ w nx n ρ1 (upd ρ1 n (c.val ρ)) rest [c] [c] ⟨[.o n], [(n, o)], n + 1, rest⟩ := by
 refine ⟨rfl, rfl, jao _ _ _, by simp [C.val], ?_, ?_, ?_, ?_, ?_⟩
 ·intro c' hc'
  simp only [List.mem_singleton] at hc'
  subst hc'
  exact Nat.lt_succ_self n
 ·intro h o' hf
  simp only [find] at hf
  split at hf
  ·rename_i e
   subst e
   cases hf
   exact ⟨Nat.le_refl _, Nat.lt_succ_self _, hl, ho, hb⟩
  ·cases hf
 ·intro i hi
  simp at hi
  subst hi
  simp
 ·intro y hy
  simp only [List.mem_singleton] at hy
  subst hy
  exact hc
 ·rintro c' hc' ⟨m, i, e, j, rfl⟩
  simp at hc'
theorem jo8 {m : Nat} : ∀ (l : List Sh) (n : Nat) (ls : List Lf) (b : Bt), l.all isP = true → jgu (jdW m) l n ls = some b → ∀ c ∈ b.cs, ∃ q i e j, c = C.p q i e j
 | [], n, ls, b, _, h => by simp only [jgu, Option.some.injEq] at h; subst h; exact fun _ h => by cases h
 | s :: l, n, ls, b, hp, h => by
  simp only [List.all_cons, Bool.and_eq_true] at hp
  simp only [jgu] at h
  split at h
  ·rename_i a ha
   split at h
   ·rename_i b2 hb2
    cases h
    intro c hc
    rcases List.mem_append.1 hc with hc | hc
    ·cases m with
     | zero => simp [jdW] at ha
     | succ m =>
      cases s with
      | p l2 =>
       simp only [jdW] at ha
       split at ha
       ·cases ha
        simp only [List.mem_singleton] at hc
        exact ⟨_, _, _, _, hc⟩
       ·cases ha
      | _ => simp [isP] at hp
    ·exact jo8 l _ _ b2 hp.2 hb2 c hc
   ·cases h
  ·cases h
theorem jiY (hh : HRel ρ B hp nx w) (hB : Old B w) : ∀ (m : Nat) (s : Sh) (c : C) (a : List Lf) (x : List C), toC hp m s c = some (a, x) → C.lt nx c → ToOK ρ w nx s c a x (jdW m)
 | 0, _, _, _, _, h, _ => by simp [toC] at h
 | m + 1, s, c, a, x, h, hc => by
  intro n ρ1 rest
  have ih := jhx (f := toC hp m) (g := jdW m) (fun s c a x h hc => jiY hh hB m s c a x h hc)
  cases s with
  | d =>
   simp only [toC] at h
   split at h
   ·cases h
    refine ⟨_, ρ1, rfl, rfl, rfl, jaf.refl _ _, rfl, ?_, (fun _ _ h => by cases h), (fun _ h => by cases h), (fun _ h => by cases h), ?_⟩
    ·intro c hc; simp only [List.mem_singleton] at hc; subst hc; trivial
    ·rintro c hc ⟨_, _, _, _, rfl⟩; simp at hc
   ·rename_i h0
    split at h
    ·rename_i k hf
     cases h
     have hok := (hh.ok h0 _ hf).2.2
     exact ⟨_, _, rfl, BOK.one hc trivial (fun _ => rfl) (by unfold O.ok; rw [upd_same]; exact hok)⟩
    ·cases h
   ·cases h
  | r c0 =>
   simp only [toC] at h
   split at h
   ·rename_i hn
    have hn := jkX hn
    subst hn
    split at h
    ·rename_i e hn0 he
     cases h
     refine ⟨_, _, rfl, BOK.one (c := .d (.v (.slice none 0 0))) hc trivial (fun _ => rfl) ?_⟩
     refine ⟨⟨none, 0, by rw [upd_same, hn0]; rfl, ⟨by omega, fun _ => rfl⟩, fun hp => by omega⟩, fun a' n' cap hv => ?_⟩
     rw [upd_same] at hv
     cases hv
    ·cases h
   ·split at h
    ·rename_i h0 _
     split at h
     ·rename_i x hx
      split at h
      ·cases h
      ·rename_i e he
       cases h
       cases hf : find hp h0 with
       | none => simp [hf] at hx
       | some o =>
        simp only [hf, Option.bind_some] at hx
        have hrow := jaZ (hh.ok h0 o hf).2.2 hx
        exact ⟨_, _, rfl, BOK.one hc trivial (fun _ => rfl) ⟨by rw [upd_same]; exact hrow, by rw [upd_same]; exact hrow.lt (by omega)⟩⟩
     ·cases h
    ·cases h
  | x x0 =>
   simp only [toC] at h
   split at h
   ·rename_i hn
    have hn := jkX hn
    subst hn
    split at h
    ·rename_i hn0
     cases h
     refine ⟨_, _, rfl, BOK.one (c := .d (.v (.slice none 0 0))) hc trivial (fun _ => rfl) ?_⟩
     exact ⟨none, 0, by rw [upd_same, hn0]; rfl, ⟨by omega, fun _ => rfl⟩, fun hp => by omega⟩
    ·cases h
   ·split at h
    ·rename_i h0 _
     split at h
     ·rename_i X hf
      cases h
      have hok := (hh.ok h0 _ hf).2.2
      refine ⟨_, _, rfl, BOK.one hc trivial (fun _ => rfl) ?_⟩
      unfold O.ok
      rw [upd_same]
      exact jlS (fun k hk => hB k hk) hok
     ·cases h
    ·cases h
  | p l =>
   have key : ∀ (h0 : Nat) (cs : List C), je0 hp h0 = some cs → c.val ρ = ρ h0 → (jdE (toC hp m) l cs).map (fun (a, x) => (a, x ++ [c])) = some (a, x) →
     ∃ b ρ2, jdW (m + 1) (.p l) n (a ++ rest) = some b ∧ BOK ρ w nx n ρ1 ρ2 rest [c] x b := by
    intro h0 cs hbc hcv ht
    obtain ⟨⟨a', x'⟩, ht', he⟩ := Option.map_eq_some_iff.1 ht
    cases he
    obtain ⟨hlt0, hcl, k, o, hk, hks, hcell⟩ := jgV hh hB hbc
    obtain ⟨b, ρ2, e, q⟩ := ih l cs a x' ht' hcl n ρ1 rest
    have hag : jaf b.n ρ2 (upd ρ2 b.n (c.val ρ)) := jao _ _ _
    have hnb : n ≤ b.n := by rw [q.nn]; omega
    refine ⟨⟨[.p b.n 0 1 0], (b.n, .ebox b.cs) :: b.hp, b.n + 1, b.ls⟩, upd ρ2 b.n (c.val ρ), by simp only [jdW, e], q.ls, ?_, q.agree.trans hag hnb, ?_, ?_, ?_, ?_, ?_, ?_⟩
    ·show b.n + 1 = _
     rw [q.nn]; simp; omega
    ·simp only [List.map_cons, List.map_nil, C.p_val, upd_same]
     rw [hcv, hk]
     simp [base]
    ·intro c' hc'
     simp only [List.mem_singleton] at hc'
     subst hc'
     exact Nat.lt_succ_self _
    ·intro h' o' hf
     simp only [find] at hf
     split at hf
     ·rename_i e2
      subst e2
      cases hf
      refine ⟨hnb, Nat.lt_succ_self _, fun y hy => C.lt_mono (Nat.le_succ _) (q.lt y hy), ⟨k, o, by rw [upd_same, hcv]; exact hk, hks, fun j y hj => ?_⟩, fun _ => rfl⟩
      rw [C.val_agree hag (q.lt y (List.mem_of_getElem? hj))]
      have h1 : (b.cs.map (C.val ρ2))[j]? = some (y.val ρ2) := by rw [List.getElem?_map, hj]; rfl
      rw [q.val, List.getElem?_map] at h1
      obtain ⟨y', hy', he'⟩ := Option.map_eq_some_iff.1 h1
      rw [← he']
      exact hcell j y' hy'
     ·obtain ⟨a1, a2, a3, a4, a5⟩ := q.heap h' o' hf
      exact ⟨a1, Nat.lt_succ_of_lt a2, O.lt_mono (Nat.le_succ _) a3, O.ok_agree hag a2 a3 a4, a5⟩
    ·intro i hi
     by_cases hlt : i < x'.length
     ·rw [hag (n + i) (by rw [q.nn]; omega), q.own i hlt]
      simp [List.getD, List.getElem?_append_left hlt]
     ·have e3 : i = x'.length := by simp at hi; omega
      subst e3
      rw [← q.nn, upd_same]
      simp [List.getD]
    ·intro y hy
     rcases List.mem_append.1 hy with hy | hy
     ·exact q.xlt y hy
     ·simp only [List.mem_singleton] at hy
      subst hy
      exact hc
    ·intro c' hc' _
     simp only [List.mem_singleton] at hc'
     subst hc'
     refine ⟨?_, Nat.lt_succ_self _⟩
     simp only [hOf, C.p_val, upd_same]
     rw [hcv, hk]
     simp [base]
   simp only [toC] at h
   split at h
   ·rename_i h0 e0
    split at h
    ·rename_i cs hbc
     refine key h0 cs hbc ?_ h
     obtain ⟨_, _, k, o, hk, _⟩ := jgV hh hB hbc
     simp [C.val, hk, base]
    ·cases h
   ·rename_i h0
    split at h
    ·rename_i cs hbc
     exact key h0 cs hbc rfl h
    ·cases h
   ·cases h
  | f g l =>
   simp only [toC] at h
   split at h
   ·rename_i g' hs
    split at h
    ·rename_i hg hip
     have hg := Nat.eq_of_beq_eq_true hg
     subst hg
     have hcl : ∀ y ∈ hs.map C.o, C.lt nx y := fun y hy => by
      obtain ⟨z, hz, rfl⟩ := List.mem_map.1 hy
      exact hc z hz
     obtain ⟨b, ρ2, e, q⟩ := ih l _ a x h hcl n ρ1 rest
     have hbp := jo8 l n (a ++ rest) b hip e
     refine ⟨⟨[.fn g (b.cs.map hOf)], b.hp, b.n, b.ls⟩, ρ2, by simp only [jdW, e], q.ls, q.nn, q.agree, ?_, ?_, q.heap, q.own, q.xlt, ?_⟩
     ·simp only [List.map_cons, List.map_nil, C.val]
      have : (b.cs.map hOf).map ρ2 = hs.map ρ := by
       have h1 := q.val
       rw [List.map_map] at h1 ⊢
       have h2 : b.cs.map (ρ2 ∘ hOf) = b.cs.map (C.val ρ2) := List.map_congr_left fun y hy => (q.hnd y hy (hbp y hy)).1
       rw [h2, h1]
       exact List.map_congr_left fun y hy => rfl
      rw [this]
     ·intro y hy
      simp only [List.mem_singleton] at hy
      subst hy
      intro z hz
      obtain ⟨y, hy, rfl⟩ := List.mem_map.1 hz
      exact (q.hnd y hy (hbp y hy)).2
     ·rintro y hy ⟨_, _, _, _, rfl⟩
      simp at hy
    ·cases h
   ·cases h
structure BVOK (ρ : Env) (w : World) (nx n : Nat) (ρ1 ρ2 : Env) (rest : List Lf) (vs : List V) (x : List C) (b : Bv) : Prop where
 ls : b.ls = rest
 nn : b.n = n + x.length
 agree : jaf n ρ1 ρ2
 val : b.vs.map (V.val ρ2) = vs.map (V.val ρ)
 lt : ∀ c ∈ b.vs, V.lt b.n c
 heap : ∀ h o, find b.hp h = some o → n ≤ h ∧ h < b.n ∧ o.lt b.n ∧ o.ok ρ2 (fun k => k < w.heap.size) w h ∧ ∀ v, o.blk v = none
 own : ∀ i, i < x.length → ρ2 (n + i) = (x.getD i (.d (.v undef))).val ρ
 xlt : ∀ y ∈ x, C.lt nx y
theorem BVOK.append {n : Nat} {ρ1 ρ2 ρ3 : Env} {r1 rest : List Lf} {c1 c2 : List V} {x1 x2 : List C} {b1 b2 : Bv} (h1 : BVOK ρ w nx n ρ1 ρ2 r1 c1 x1 b1) (h2 : BVOK ρ w nx b1.n ρ2 ρ3 rest c2 x2 b2) :
  BVOK ρ w nx n ρ1 ρ3 rest (c1 ++ c2) (x1 ++ x2) ⟨b1.vs ++ b2.vs, b2.hp ++ b1.hp, b2.n, b2.ls⟩ := by
 have hle : b1.n ≤ b2.n := by rw [h2.nn]; omega
 have hn1 : n ≤ b1.n := by rw [h1.nn]; omega
 refine ⟨h2.ls, ?_, h1.agree.trans h2.agree hn1, ?_, ?_, ?_, ?_, ?_⟩
 ·show b2.n = _
  rw [h2.nn, h1.nn, List.length_append]; omega
 ·simp only [List.map_append, h2.val]
  congr 1
  rw [← h1.val]
  exact List.map_congr_left fun c hc => V.val_agree h2.agree (h1.lt c hc)
 ·intro c hc
  rcases List.mem_append.1 hc with hc | hc
  ·exact V.lt_mono hle (h1.lt c hc)
  ·exact h2.lt c hc
 ·intro h o hf
  have hf : find (b2.hp ++ b1.hp) h = some o := hf
  rw [jau] at hf
  cases hg : find b2.hp h with
  | some o2 =>
   rw [hg] at hf
   cases hf
   obtain ⟨a1, a2, a3, a4, a5⟩ := h2.heap h o hg
   exact ⟨Nat.le_trans hn1 a1, a2, a3, a4, a5⟩
  | none =>
   rw [hg] at hf
   obtain ⟨a1, a2, a3, a4, a5⟩ := h1.heap h o hf
   exact ⟨a1, Nat.lt_of_lt_of_le a2 hle, O.lt_mono hle a3, O.ok_agree h2.agree a2 a3 a4, a5⟩
 ·intro i hi
  by_cases hlt : i < x1.length
  ·rw [h2.agree (n + i) (by rw [h1.nn]; omega), h1.own i hlt]
   simp [List.getD, List.getElem?_append_left hlt]
  ·have e1 : n + i = b1.n + (i - x1.length) := by rw [h1.nn]; omega
   rw [e1, h2.own (i - x1.length) (by simp at hi; omega)]
   simp [List.getD, List.getElem?_append_right (Nat.le_of_not_lt hlt)]
 ·intro y hy
  rcases List.mem_append.1 hy with hy | hy
  ·exact h1.xlt y hy
  ·exact h2.xlt y hy
theorem jqd (hh : HRel ρ B hp nx w) (hB : Old B w) {s : SV} {v : V} {a : List Lf} {x : List C} (h : toV hp s v = some (a, x)) (hv : V.lt nx v) (n : Nat) (ρ1 : Env) (rest : List Lf) :
  ∃ b ρ2, bldV s n (a ++ rest) = some b ∧ BVOK ρ w nx n ρ1 ρ2 rest [v] x b := by
 unfold toV at h
 split at h
 ·rename_i s c
  obtain ⟨b, ρ2, e, q⟩ := jiY hh hB 8 s c a x h hv n ρ1 rest
  have hlen : b.cs.length = 1 := by have := congrArg List.length q.val; simpa using this
  obtain ⟨c', hc'⟩ : ∃ c', b.cs = [c'] := by
   match hb : b.cs, hlen with
   | [c'], _ => exact ⟨c', rfl⟩
  have hval := q.val
  have hlt := q.lt
  rw [hc'] at hval hlt
  refine ⟨⟨[.w (.c (jjN b.cs))], b.hp, b.n, b.ls⟩, ρ2, by simp only [bldV, e, Option.map_some], q.ls, q.nn, q.agree, ?_, ?_, q.heap, q.own, q.xlt⟩
  ·simp only [hc', jjN, List.map_cons, List.map_nil, V.val, W.val]
   simpa using hval
  ·intro y hy
   simp only [List.mem_singleton] at hy
   subst hy
   rw [hc']
   exact hlt c' List.mem_cons_self
 ·rename_i l cs
  obtain ⟨b, ρ2, e, q⟩ := jhx (f := toC hp 8) (g := jdW 8) (fun s c a x h hc => jiY hh hB 8 s c a x h hc) l cs a x h hv n ρ1 rest
  refine ⟨⟨[.w (.a b.cs)], b.hp, b.n, b.ls⟩, ρ2, by simp only [bldV, e, Option.map_some], q.ls, q.nn, q.agree, ?_, ?_, q.heap, q.own, q.xlt⟩
  ·simp only [List.map_cons, List.map_nil, V.val, W.val, q.val]
  ·intro y hy
   simp only [List.mem_singleton] at hy
   subst hy
   exact q.lt
 ·rename_i k e k' e' r
  split at h
  ·rename_i hk he
   have hk := jbs hk
   have he := Nat.eq_of_beq_eq_true he
   subst hk
   subst he
   cases h
   refine ⟨_, ρ1, rfl, rfl, rfl, jaf.refl _ _, rfl, ?_, (fun _ _ h => by cases h), (fun _ h => by cases h), fun _ h => by cases h⟩
   intro y hy
   simp only [List.mem_singleton] at hy
   subst hy
   trivial
  ·cases h
 ·rename_i k e cs
  split at h
  ·rename_i r hr
   split at h
   ·rename_i he
    have he := Nat.eq_of_beq_eq_true he
    subst he
    cases h
    refine ⟨_, ρ1, rfl, rfl, rfl, jaf.refl _ _, ?_, ?_, (fun _ _ h => by cases h), (fun _ h => by cases h), fun _ h => by cases h⟩
    ·simp only [List.map_cons, List.map_nil, V.val, W.val, jni, jhl hr]
    ·intro y hy
     simp only [List.mem_singleton] at hy
     subst hy
     trivial
   ·cases h
  ·cases h
 ·cases h
theorem jkY (hh : HRel ρ B hp nx w) (hB : Old B w) : ∀ (l : List SV) (vs : List V) (a : List Lf) (x : List C), jiX hp l vs = some (a, x) → (∀ v ∈ vs, V.lt nx v) → ∀ (n : Nat) (ρ1 : Env) (rest : List Lf),
  ∃ b ρ2, jia l n (a ++ rest) = some b ∧ BVOK ρ w nx n ρ1 ρ2 rest vs x b
 | [], [], a, x, h, _, n, ρ1, rest => by
  simp only [jiX, Option.some.injEq, Prod.mk.injEq] at h
  obtain ⟨rfl, rfl⟩ := h
  exact ⟨_, ρ1, rfl, rfl, rfl, jaf.refl _ _, rfl, (fun _ h => by cases h), (fun _ _ h => by cases h), (fun _ h => by cases h), fun _ h => by cases h⟩
 | s :: l, v :: vs, a, x, h, hlt, n, ρ1, rest => by
  simp only [jiX] at h
  split at h
  ·rename_i a1 x1 a2 x2 h1 h2
   cases h
   obtain ⟨b1, ρ2, e1, k1⟩ := jqd hh hB h1 (hlt v List.mem_cons_self) n ρ1 (a2 ++ rest)
   obtain ⟨b2, ρ3, e2, k2⟩ := jkY hh hB l vs a2 x2 h2 (fun c hc => hlt c (List.mem_cons_of_mem _ hc)) b1.n ρ2 rest
   refine ⟨_, ρ3, ?_, k1.append k2⟩
   rw [List.append_assoc]
   simp only [jia, e1, k1.ls, e2]
  ·cases h
 | [], _ :: _, _, _, h, _, _, _, _ => by simp [jiX] at h
 | _ :: _, [], _, _, h, _, _, _, _ => by simp [jiX] at h
theorem jhy {k h : Nat} {o : O} {hp : Hp} : find ((k, o) :: hp) h = if k = h then some o else find hp h := rfl
structure CIn (ρ ρ' : Env) (B : Bd) (hp hp' : Hp) (n m n0 : Nat) (am : List C) (w' : World) (us : List Nat) : Prop where
 heap : HRel ρ B hp n w'
 ap : ∀ k o b, find hp k = some o → o.blk (ρ k) = some b → b < m ∨ ∃ u ∈ us, ∃ ou, find hp' u = some ou ∧ ou.blk (ρ' u) = some b
 am : ∀ i, i < n0 → C.lt n (am.getD i (.d (.v undef))) ∧ (am.getD i (.d (.v undef))).val ρ = ρ' i
structure COut (ρ ρ2 ρ' : Env) (B : Bd) (hp hp' : Hp) (n m : Nat) (w' : World) (us us2 : List Nat) (vals : List Value) (r : Rt) : Prop where
 agree : jaf n ρ ρ2
 heap : HRel ρ2 B (r.hp ++ hp) r.n w'
 le : n ≤ r.n
 val : r.cs.map (C.val ρ2) = vals
 lt : ∀ c ∈ r.cs, C.lt r.n c
 ap : ∀ k o b, find (r.hp ++ hp) k = some o → o.blk (ρ2 k) = some b → b < m ∨ ∃ u ∈ us2, ∃ ou, find hp' u = some ou ∧ ou.blk (ρ' u) = some b
 fresh : ∀ h o b, find r.hp h = some o → o.blk (ρ2 h) = some b → m ≤ b
 keys : ∀ h o, find r.hp h = some o → n ≤ h
 sub : ∀ u ∈ us, u ∈ us2
variable {ρ' : Env} {hp' : Hp} {m n0 : Nat} {am : List C}
theorem CIn.next {ρ2 : Env} {n : Nat} {us us2 : List Nat} {vals : List Value} {r : Rt} (h : CIn ρ ρ' B hp hp' n m n0 am w' us) (k : COut ρ ρ2 ρ' B hp hp' n m w' us us2 vals r) : CIn ρ2 ρ' B (r.hp ++ hp) hp' r.n m n0 am w' us2 :=
 ⟨k.heap, k.ap, fun i hi => ⟨C.lt_mono k.le (h.am i hi).1, by rw [C.val_agree k.agree (h.am i hi).1]; exact (h.am i hi).2⟩⟩
theorem COut.append {ρ2 ρ3 : Env} {n : Nat} {us us2 us3 : List Nat} {v1 v2 : List Value} {r1 r2 : Rt} (h : COut ρ ρ2 ρ' B hp hp' n m w' us us2 v1 r1) (k : COut ρ2 ρ3 ρ' B (r1.hp ++ hp) hp' r1.n m w' us2 us3 v2 r2) :
  COut ρ ρ3 ρ' B hp hp' n m w' us us3 (v1 ++ v2) ⟨r1.cs ++ r2.cs, r2.hp ++ r1.hp, r2.n⟩ := by
 refine ⟨h.agree.trans k.agree h.le, by rw [List.append_assoc]; exact k.heap, Nat.le_trans h.le k.le, ?_, ?_, ?_, ?_, ?_, fun u hu => k.sub u (h.sub u hu)⟩
 ·simp only [List.map_append, k.val]
  congr 1
  rw [← h.val]
  exact List.map_congr_left fun c hc => C.val_agree k.agree (h.lt c hc)
 ·intro c hc
  rcases List.mem_append.1 hc with hc | hc
  ·exact C.lt_mono k.le (h.lt c hc)
  ·exact k.lt c hc
 ·intro q o b hf hb
  have hf : find (r2.hp ++ r1.hp ++ hp) q = some o := hf
  rw [List.append_assoc] at hf
  exact k.ap q o b hf hb
 ·intro q o b hf hb
  have hf : find (r2.hp ++ r1.hp) q = some o := hf
  rw [jau] at hf
  cases hg : find r2.hp q with
  | some o2 => rw [hg] at hf; cases hf; exact k.fresh q o b hg hb
  | none =>
   rw [hg] at hf
   have hf : find r1.hp q = some o := hf
   have hq : q < r1.n := by
    have : find (r1.hp ++ hp) q = some o := by rw [jau, hf]; rfl
    exact (h.heap.ok q o this).1
   rw [k.agree q hq] at hb
   exact h.fresh q o b hf hb
 ·intro q o hf
  have hf : find (r2.hp ++ r1.hp) q = some o := hf
  rw [jau] at hf
  cases hg : find r2.hp q with
  | some o2 => rw [hg] at hf; cases hf; exact Nat.le_trans h.le (k.keys q o hg)
  | none => rw [hg] at hf; exact h.keys q o hf
theorem COut.data {n : Nat} {us : List Nat} {c : C} {v : Value} (h : CIn ρ ρ' B hp hp' n m n0 am w' us) (hc : C.lt n c) (hv : c.val ρ = v) : COut ρ ρ ρ' B hp hp' n m w' us us [v] ⟨[c], [], n⟩ := by
 refine ⟨jaf.refl _ _, h.heap, Nat.le_refl _, by simp [hv], ?_, h.ap, (fun _ _ _ h => by cases h), (fun _ _ h => by cases h), fun u hu => hu⟩
 intro y hy
 simp only [List.mem_singleton] at hy
 subst hy
 exact hc
theorem COut.obj {n q : Nat} {us : List Nat} {o oq : O} {c : C} {v : Value} (hB : ∀ k, B k → k < m) (hh' : HRel ρ' (fun k => k < m) hp' nx w') (h : CIn ρ ρ' B hp hp' n m n0 am w' us)
  (hq : find hp' q = some oq) (hus : us.contains q = false) (hl : o.lt (n + 1)) (ho : (∀ k, o.blk (ρ' q) = some k → ¬ B k) → o.ok (upd ρ n (ρ' q)) B w' n) (hb : ∀ k, o.blk (ρ' q) = some k → oq.blk (ρ' q) = some k)
  (hc : C.lt (n + 1) c) (hcv : c.val (upd ρ n (ρ' q)) = v) : COut ρ (upd ρ n (ρ' q)) ρ' B hp hp' n m w' us (q :: us) [v] ⟨[c], [(n, o)], n + 1⟩ := by
 have hge : ∀ k, o.blk (ρ' q) = some k → m ≤ k := fun k hk => by
  have := (O.blk_lt (hh'.ok q oq hq).2.2 (hb k hk)).2
  omega
 have hnB : ∀ k, o.blk (ρ' q) = some k → ¬ B k := fun k hk hBk => by
  have := hge k hk
  have := hB k hBk
  omega
 refine ⟨jao _ _ _, ?_, Nat.le_succ n, by simp [hcv], ?_, ?_, ?_, ?_, fun u hu => List.mem_cons_of_mem _ hu⟩
 ·refine h.heap.add1 hl (ho hnB) fun k o' b hk hbk he => ?_
  rcases h.ap k o' b hk hbk with hlt | ⟨u, hu, ou, hou, hbu⟩
  ·have := hge b he
   omega
  ·have hne : u ≠ q := fun e => by
    subst e
    have : us.contains u = true := by simpa using hu
    rw [this] at hus
    cases hus
   exact hh'.apart u ou q oq b hou hq hne hbu (hb b he)
 ·intro y hy
  simp only [List.mem_singleton] at hy
  subst hy
  exact hc
 ·intro k o' b hf hbk
  have hf2 : find ((n, o) :: hp) k = some o' := hf
  clear hf
  have hf := hf2
  clear hf2
  rw [jhy] at hf
  split at hf
  ·rename_i e
   subst e
   cases hf
   rw [upd_same] at hbk
   exact .inr ⟨q, List.mem_cons_self, oq, hq, hb b hbk⟩
  ·have hk := (h.heap.ok k o' hf).1
   rw [jao ρ n (ρ' q) k hk] at hbk
   rcases h.ap k o' b hf hbk with hlt | ⟨u, hu, ou, hou, hbu⟩
   ·exact .inl hlt
   ·exact .inr ⟨u, List.mem_cons_of_mem _ hu, ou, hou, hbu⟩
 ·intro k o' b hf hbk
  simp only [find] at hf
  split at hf
  ·rename_i e
   subst e
   cases hf
   rw [upd_same] at hbk
   exact hge b hbk
  ·cases hf
 ·intro k o' hf
  simp only [find] at hf
  split at hf
  ·rename_i e; omega
  ·cases hf
def jqU (ρ' : Env) (B : Bd) (hp' : Hp) (m n0 : Nat) (am : List C) (w' : World) (f : RC → C → List Nat → (List Nat → Prop) → Prop) (g : RC → Nat → Rt) : Prop :=
 ∀ (r : RC) (c : C) (us : List Nat) (k : List Nat → Prop), f r c us k → ∀ (n : Nat) (hp : Hp) (ρ : Env), CIn ρ ρ' B hp hp' n m n0 am w' us →
  ∃ us2 ρ2, k us2 ∧ COut ρ ρ2 ρ' B hp hp' n m w' us us2 [c.val ρ'] (g r n)
theorem jhz {f : RC → C → List Nat → (List Nat → Prop) → Prop} {g : RC → Nat → Rt} (hf : jqU ρ' B hp' m n0 am w' f g) : ∀ (l : List RC) (cs : List C) (us : List Nat) (k : List Nat → Prop), fitL f l cs us k → ∀ (n : Nat) (hp : Hp) (ρ : Env), CIn ρ ρ' B hp hp' n m n0 am w' us →
  ∃ us2 ρ2, k us2 ∧ COut ρ ρ2 ρ' B hp hp' n m w' us us2 (cs.map (C.val ρ')) (rvL g l n)
 | [], [], us, k, h, n, hp, ρ, hin => ⟨us, ρ, h, jaf.refl _ _, hin.heap, Nat.le_refl _, rfl, (fun _ h => by cases h), hin.ap, (fun _ _ _ h => by cases h), (fun _ _ h => by cases h), fun u hu => hu⟩
 | r :: l, c :: cs, us, k, h, n, hp, ρ, hin => by
  obtain ⟨us2, ρ2, h2, k2⟩ := hf r c us _ h n hp ρ hin
  obtain ⟨us3, ρ3, h3, k3⟩ := jhz hf l cs us2 k h2 (g r n).n _ ρ2 (hin.next k2)
  exact ⟨us3, ρ3, h3, k2.append k3⟩
 | [], _ :: _, _, _, h, _, _, _, _ => h.elim
 | _ :: _, [], _, _, h, _, _, _, _ => h.elim
theorem jhA (hB : ∀ k, B k → k < m) (hh' : HRel ρ' (fun k => k < m) hp' nx w') : ∀ (q : Nat), jqU ρ' B hp' m n0 am w' (jmj n0 hp' q) (rvC am q)
 | 0 => fun _ _ _ _ h => h.elim
 | q + 1 => by
  intro r c us k h n hp ρ hin
  unfold jmj at h
  split at h
  ·rename_i x y
   have e := jh6 h.1
   subst e
   exact ⟨us, ρ, h.2, COut.data hin trivial rfl⟩
  ·rename_i i h0
   split at h
   ·rename_i e1 e2
    have e1 := Nat.eq_of_beq_eq_true e1
    subst e1
    have hi : i < n0 := by simpa [Nat.blt_eq] using e2
    exact ⟨us, ρ, h, COut.data hin (hin.am i hi).1 (hin.am i hi).2⟩
   ·exact h.elim
  ·rename_i ty c0 h0
   split at h
   ·exact h.elim
   ·rename_i hus
    split at h
    ·rename_i ty' c' hf
     split at h
     ·rename_i hty
      have hty := Nat.eq_of_beq_eq_true hty
      subst hty
      have hc := jb9 h.1
      subst hc
      refine ⟨_, _, h.2, COut.obj (q := h0) (o := .row ty' c0) hB hh' hin hf hus trivial (fun hnB => ?_) (fun k hk => hk) (show C.lt (n + 1) (.o n) from Nat.lt_succ_self n) (by simp [C.val])⟩
      have hok := (hh'.ok h0 _ hf).2.2
      exact ⟨by rw [upd_same]; exact hok.1, fun k hk => by rw [upd_same] at hk; exact hnB k hk⟩
     ·exact h.elim
    ·exact h.elim
  ·rename_i ty c0
   obtain ⟨⟨hn0⟩, hk⟩ := h
   refine ⟨us, upd ρ n (.slice none 0 0), hk, ?_⟩
   refine ⟨jao _ _ _, ?_, Nat.le_succ n, by simp [C.val, D.val, rvC], ?_, ?_, ?_, ?_, fun u hu => hu⟩
   ·refine hin.heap.add1 (o := .row ty c0) trivial ?_ (fun _ _ _ _ _ he => by simp [O.blk, Value.ownBlock] at he)
    refine ⟨⟨by simp [Cont.flat_length, hn0], .inl ⟨by rw [upd_same], hn0⟩⟩, fun k hk => by rw [upd_same] at hk; simp [Value.ownBlock] at hk⟩
   ·intro y hy
    simp only [rvC, List.mem_singleton] at hy
    subst hy
    exact Nat.lt_succ_self n
   ·intro k' o' b hf hbk
    have hf2 : find ((n, O.row ty c0) :: hp) k' = some o' := hf
    clear hf
    have hf := hf2
    clear hf2
    rw [jhy] at hf
    split at hf
    ·rename_i e
     subst e
     cases hf
     rw [upd_same] at hbk
     simp [O.blk, Value.ownBlock] at hbk
    ·have hk' := (hin.heap.ok k' o' hf).1
     rw [jao ρ n _ k' hk'] at hbk
     exact hin.ap k' o' b hf hbk
   ·intro k' o' b hf hbk
    simp only [rvC, find] at hf
    split at hf
    ·rename_i e
     subst e
     cases hf
     rw [upd_same] at hbk
     simp [O.blk, Value.ownBlock] at hbk
    ·cases hf
   ·intro k' o' hf
    simp only [rvC, find] at hf
    split at hf
    ·omega
    ·cases hf
  ·rename_i c0 h0
   split at h
   ·exact h.elim
   ·rename_i hus
    split at h
    ·rename_i c' hf
     have hc := jb9 h.1
     subst hc
     refine ⟨_, _, h.2, COut.obj (q := h0) (o := .rrow c0) hB hh' hin hf hus trivial (fun hnB => ?_) (fun k hk => hk) (show C.lt (n + 1) (.o n) from Nat.lt_succ_self n) (by simp [C.val])⟩
     have hok := (hh'.ok h0 _ hf).2.2
     exact ⟨by rw [upd_same]; exact hok.1, fun k hk => by rw [upd_same] at hk; exact ⟨hnB k hk, (hok.2 k hk).2⟩⟩
    ·exact h.elim
  ·rename_i c0
   obtain ⟨⟨hn0⟩, hk⟩ := h
   refine ⟨us, upd ρ n (.slice none 0 0), hk, ?_⟩
   refine ⟨jao _ _ _, ?_, Nat.le_succ n, by simp [C.val, D.val, rvC], ?_, ?_, ?_, ?_, fun u hu => hu⟩
   ·refine hin.heap.add1 (o := .rrow c0) trivial ?_ (fun _ _ _ _ _ he => by simp [O.blk, Value.ownBlock] at he)
    refine ⟨⟨none, 0, by rw [upd_same, hn0], ⟨by omega, fun _ => rfl⟩, fun h => by omega⟩, fun k hk => by rw [upd_same] at hk; simp [Value.ownBlock] at hk⟩
   ·intro y hy
    simp only [rvC, List.mem_singleton] at hy
    subst hy
    exact Nat.lt_succ_self n
   ·intro k' o' b hf hbk
    have hf2 : find ((n, O.rrow c0) :: hp) k' = some o' := hf
    clear hf
    have hf := hf2
    clear hf2
    rw [jhy] at hf
    split at hf
    ·rename_i e
     subst e
     cases hf
     rw [upd_same] at hbk
     simp [O.blk, Value.ownBlock] at hbk
    ·have hk' := (hin.heap.ok k' o' hf).1
     rw [jao ρ n _ k' hk'] at hbk
     exact hin.ap k' o' b hf hbk
   ·intro k' o' b hf hbk
    simp only [rvC, find] at hf
    split at hf
    ·rename_i e
     subst e
     cases hf
     rw [upd_same] at hbk
     simp [O.blk, Value.ownBlock] at hbk
    ·cases hf
   ·intro k' o' hf
    simp only [rvC, find] at hf
    split at hf
    ·omega
    ·cases hf
  ·rename_i ty l h0 e0
   split at h
   ·rename_i ty' cs hf
    split at h
    ·rename_i hty
     have hty := Nat.eq_of_beq_eq_true hty
     subst hty
     obtain ⟨us2, ρ2, h2, k2⟩ := jhz (jhA hB hh' q) l cs us _ h n hp ρ hin
     have hin2 := hin.next k2
     split at h2
     ·exact h2.elim
     ·rename_i hus
      have hok := (hh'.ok h0 _ hf).2.2
      obtain ⟨g, h3, h4, h5⟩ := hok
      have hobj := COut.obj (q := h0) (o := .box ty' (rvL (rvC am q) l n).cs) (c := .p (rvL (rvC am q) l n).n 0 1 0) (v := ρ' h0) hB hh' hin2 hf hus (fun y hy => C.lt_mono (Nat.le_succ _) (k2.lt y hy)) (fun hnB => ?_) (fun k hk => hk)
       (show C.lt ((rvL (rvC am q) l n).n + 1) (.p (rvL (rvC am q) l n).n 0 1 0) from Nat.lt_succ_self _) (by simp [C.val, h3, base])
      ·refine ⟨h0 :: us2, upd ρ2 (rvL (rvC am q) l n).n (ρ' h0), h2, ?_⟩
       have hap := k2.append hobj
       refine ⟨hap.agree, hap.heap, hap.le, ?_, ?_, hap.ap, hap.fresh, hap.keys, hap.sub⟩
       ·have hv := hobj.val
        simp only [List.map_cons, List.map_nil] at hv
        simp only [rvC, List.map_cons, List.map_nil]
        rw [hv]
        simp [C.val, h3, base]
       ·intro y hy
        simp only [rvC, List.mem_singleton] at hy
        subst hy
        exact Nat.lt_succ_self _
      ·refine ⟨g, by rw [upd_same]; exact h3, ?_, ?_⟩
       ·exact hnB g (by simp [O.blk, h3, base])
       ·rw [h5]
        congr 3
        have hv := k2.val
        rw [← hv]
        exact List.map_congr_left fun y hy => (C.val_agree (jao ρ2 _ _) (k2.lt y hy)).symm
    ·exact h.elim
   ·exact h.elim
  ·exact h.elim
structure WOut (ρ ρ2 ρ' : Env) (B : Bd) (hp hp' : Hp) (n m : Nat) (w' : World) (us us2 : List Nat) (vals : List Value) (r : Rw) : Prop where
 agree : jaf n ρ ρ2
 heap : HRel ρ2 B (r.hp ++ hp) r.n w'
 le : n ≤ r.n
 val : r.ws.map (W.val ρ2) = vals
 lt : ∀ c ∈ r.ws, W.lt r.n c
 ap : ∀ k o b, find (r.hp ++ hp) k = some o → o.blk (ρ2 k) = some b → b < m ∨ ∃ u ∈ us2, ∃ ou, find hp' u = some ou ∧ ou.blk (ρ' u) = some b
 fresh : ∀ h o b, find r.hp h = some o → o.blk (ρ2 h) = some b → m ≤ b
 keys : ∀ h o, find r.hp h = some o → n ≤ h
theorem jo9 (hB : ∀ k, B k → k < m) (hh' : HRel ρ' (fun k => k < m) hp' nx w') {r : RR} {x : W} {us : List Nat} {k : List Nat → Prop} (h : fitR n0 hp' r x us k) {n : Nat} {hp : Hp} {ρ : Env} (hin : CIn ρ ρ' B hp hp' n m n0 am w' us) :
  ∃ us2 ρ2, k us2 ∧ WOut ρ ρ2 ρ' B hp hp' n m w' us us2 [x.val ρ'] (rvR am r n) := by
 unfold fitR at h
 split at h
 ·rename_i rc c
  obtain ⟨us2, ρ2, h2, k2⟩ := jhA hB hh' 8 rc c us k h n hp ρ hin
  have hlen : (rvC am 8 rc n).cs.length = 1 := by have := congrArg List.length k2.val; simpa using this
  obtain ⟨c', hc'⟩ : ∃ c', (rvC am 8 rc n).cs = [c'] := by
   match hb : (rvC am 8 rc n).cs, hlen with
   | [c'], _ => exact ⟨c', rfl⟩
  have hval := k2.val
  have hlt := k2.lt
  rw [hc'] at hval hlt
  refine ⟨us2, ρ2, h2, k2.agree, k2.heap, k2.le, ?_, ?_, k2.ap, k2.fresh, k2.keys⟩
  ·simp only [rvR, hc', jjN, List.map_cons, List.map_nil, W.val]
   simpa using hval
  ·intro y hy
   simp only [rvR, List.mem_singleton] at hy
   subst hy
   rw [hc']
   exact hlt c' List.mem_cons_self
 ·rename_i l cs
  obtain ⟨us2, ρ2, h2, k2⟩ := jhz (jhA hB hh' 8) l cs us k h n hp ρ hin
  refine ⟨us2, ρ2, h2, k2.agree, k2.heap, k2.le, ?_, ?_, k2.ap, k2.fresh, k2.keys⟩
  ·simp only [rvR, List.map_cons, List.map_nil, W.val, k2.val]
  ·intro y hy
   simp only [rvR, List.mem_singleton] at hy
   subst hy
   exact k2.lt
 ·rename_i q e r' q' e' r''
  split at h
  ·rename_i hk he
   have hk := jbs hk
   have he := Nat.eq_of_beq_eq_true he
   subst hk
   subst he
   obtain ⟨⟨rfl⟩, hk⟩ := h
   refine ⟨us, ρ, hk, jaf.refl _ _, hin.heap, Nat.le_refl _, rfl, ?_, hin.ap, (fun _ _ _ h => by cases h), fun _ _ h => by cases h⟩
   intro y hy
   simp only [rvR, List.mem_singleton] at hy
   subst hy
   trivial
  ·exact h.elim
 ·exact h.elim
theorem jjP (hB : ∀ k, B k → k < m) (hh' : HRel ρ' (fun k => k < m) hp' nx w') : ∀ (l : List RR) (ws : List W) (us : List Nat), jjO n0 hp' l ws us → ∀ (n : Nat) (hp : Hp) (ρ : Env), CIn ρ ρ' B hp hp' n m n0 am w' us →
  ∃ us2 ρ2, WOut ρ ρ2 ρ' B hp hp' n m w' us us2 (ws.map (W.val ρ')) (jcS am l n)
 | [], [], us, h, n, hp, ρ, hin => ⟨us, ρ, jaf.refl _ _, hin.heap, Nat.le_refl _, rfl, (fun _ h => by cases h), hin.ap, (fun _ _ _ h => by cases h), fun _ _ h => by cases h⟩
 | r :: l, x :: ws, us, h, n, hp, ρ, hin => by
  obtain ⟨us2, ρ2, h2, k2⟩ := jo9 hB hh' h hin
  have hin2 : CIn ρ2 ρ' B ((rvR am r n).hp ++ hp) hp' (rvR am r n).n m n0 am w' us2 := ⟨k2.heap, k2.ap, fun i hi => ⟨C.lt_mono k2.le (hin.am i hi).1, by rw [C.val_agree k2.agree (hin.am i hi).1]; exact (hin.am i hi).2⟩⟩
  obtain ⟨us3, ρ3, k3⟩ := jjP hB hh' l ws us2 h2 (rvR am r n).n _ ρ2 hin2
  refine ⟨us3, ρ3, k2.agree.trans k3.agree k2.le, by simp only [jcS]; rw [List.append_assoc]; exact k3.heap, Nat.le_trans k2.le k3.le, ?_, ?_, ?_, ?_, ?_⟩
  ·simp only [jcS, List.map_append, k3.val, List.map_cons]
   have : (rvR am r n).ws.map (W.val ρ3) = [x.val ρ'] := by
    rw [← k2.val]
    exact List.map_congr_left fun c hc => W.val_agree k3.agree (k2.lt c hc)
   rw [this]
   rfl
  ·intro c hc
   simp only [jcS] at hc
   rcases List.mem_append.1 hc with hc | hc
   ·exact W.lt_mono k3.le (k2.lt c hc)
   ·exact k3.lt c hc
  ·intro q o b hf hb
   simp only [jcS] at hf
   rw [List.append_assoc] at hf
   exact k3.ap q o b hf hb
  ·intro q o b hf hb
   simp only [jcS] at hf
   rw [jau] at hf
   cases hg : find (jcS am l (rvR am r n).n).hp q with
   | some o2 => rw [hg] at hf; cases hf; exact k3.fresh q o b hg hb
   | none =>
    rw [hg] at hf
    have hf : find (rvR am r n).hp q = some o := hf
    have hq : q < (rvR am r n).n := by
     have : find ((rvR am r n).hp ++ hp) q = some o := by rw [jau, hf]; rfl
     exact (k2.heap.ok q o this).1
    rw [k3.agree q hq] at hb
    exact k2.fresh q o b hf hb
  ·intro q o hf
   simp only [jcS] at hf
   rw [jau] at hf
   cases hg : find (jcS am l (rvR am r n).n).hp q with
   | some o2 => rw [hg] at hf; cases hf; exact Nat.le_trans k2.le (k3.keys q o hg)
   | none => rw [hg] at hf; exact k2.keys q o hf
 | [], _ :: _, _, h, _, _, _, _ => h.elim
 | _ :: _, [], _, h, _, _, _, _ => h.elim
theorem jiZ {am : List C} {hp : Hp} {nx : Nat} : ∀ t : GT, (t.toRT am hp nx).sel = ⟨t.sel.1, jbT (jcS am t.sel.2 nx).ws, (jcS am t.sel.2 nx).hp ++ hp, (jcS am t.sel.2 nx).n⟩
 | .leaf ob rs => rfl
 | .br b x y => by
  cases b
  ·exact jiZ y
  ·exact jiZ x
end
end Go.Sx
end

section
open Go.RowKit
namespace Go.Sx
end Go.Sx
end

section
namespace Go.Sx
def jad {X Y : Type} (body : X → Option (X ⊕ Y)) : Nat → X → Option Y
 | 0, _ => none
 | n + 1, x => match body x with
  | none => none
  | some (.inl x') => jad body n x'
  | some (.inr y) => some y
def big : Nat := 18446744073709551616
def jck {X Y R : Type} (body : X → Option (X ⊕ Y)) (n : Nat) (K : Y → Option R) : X ⊕ Y → Option R
 | .inl x => (jad body n x).bind K
 | .inr y => K y
def ok {α : Type} (o : Option α) : Prop := o.isSome = true
instance {α : Type} (o : Option α) : Decidable (ok o) := inferInstanceAs (Decidable (o.isSome = true))
def val {α : Type} [Inhabited α] (o : Option α) : α := o.getD default
theorem ja7 {α : Type} [Inhabited α] {o : Option α} (h : ok o) : o.bind some = some (val o) := by
 cases o with
 | none => cases h
 | some x => rfl
theorem ok_of {α : Type} {o : Option α} {x : α} (h : o = some x) : ok o := by subst h; rfl
theorem jrG {α : Type} [Inhabited α] {o : Option α} {x : α} (h : o = some x) : val o = x := by subst h; rfl
variable {X Y R S A : Type} {g : S → Option R} {r : R} {p q : Prop}
theorem jaD {c : Prop} [Decidable c] {x y : Option S} (h : (if c then x else y).bind g = some r) (hx : x.bind g = some r → p) (hy : y.bind g = some r → q) : Br (decide c) p q := by
 by_cases hc : c
 ·rw [if_pos hc] at h; rw [decide_eq_true hc]; exact hx h
 ·rw [if_neg hc] at h; rw [decide_eq_false hc]; exact hy h
theorem jbd {b : Bool} {x y : Option S} (h : (if b = true then x else y).bind g = some r) (hx : x.bind g = some r → p) (hy : y.bind g = some r → q) : Br b p q := by
 cases b
 ·exact hy h
 ·exact hx h
theorem jaj {c : Prop} [Decidable c] {x : Option S} (h : (if c then x else none).bind g = some r) (hx : x.bind g = some r → p) : Ob c ∧ p := by
 by_cases hc : c
 ·rw [if_pos hc] at h; exact ⟨⟨hc⟩, hx h⟩
 ·rw [if_neg hc] at h; cases h
theorem jae (h : p) : Ob True ∧ p := ⟨⟨trivial⟩, h⟩
theorem jbx {p q : Prop} (hp : p) (h : q) : Ob p ∧ q := ⟨⟨hp⟩, h⟩
theorem jcp [Inhabited A] {e : Option A} {f : A → Option S} (h : (e.bind f).bind g = some r) (hx : (f (val e)).bind g = some r → p) : Ob (ok e) ∧ p := by
 cases e with
 | none => cases h
 | some a => exact ⟨⟨rfl⟩, hx h⟩
theorem jba {body : X → Option (X ⊕ Y)} {n : Nat} {x : X} {rest : Y → Option S} (h : ((jad body n x).bind rest).bind g = some r) : (jad body n x).bind (fun y => (rest y).bind g) = some r := by
 rw [← h]
 cases jad body n x <;> rfl
theorem jaN {body : X → Option (X ⊕ Y)} {n : Nat} {x : X} {K : Y → Option R} (h : (jad body n x).bind K = some r) : ∃ m, n = m + 1 ∧ (body x).bind (jck body m K) = some r := by
 cases n with
 | zero => cases h
 | succ m =>
  refine ⟨m, rfl, ?_⟩
  rw [← h]
  unfold jad
  cases body x with
  | none => rfl
  | some z => cases z <;> rfl
theorem jaO {body : X → Option (X ⊕ Y)} {n : Nat} {x : X} {K : Y → Option R} (h : (some (Sum.inl x)).bind (jck body n K) = some r) : (jad body n x).bind K = some r := h
theorem jaq {body : X → Option (X ⊕ Y)} {n : Nat} {y : Y} {K : Y → Option R} (h : (some (Sum.inr y)).bind (jck body n K) = some r) : K y = some r := h
theorem jal {a : R} {P : Prop} (h : (some a).bind some = some r) (hp : a = r → P) : P := hp (Option.some.inj h)
theorem ja2 {n m : Nat} (h : n + 1 = m) : n < m := by omega
end Go.Sx
end

section
namespace Go.Sx
theorem jcq {x : Int} (h : -9223372036854775808 ≤ x ∧ x ≤ 9223372036854775807) : IntKind.i64.wrap x = x := IntWalk.i64_in _ (by omega)
theorem jmk {X Y : Type} {body : X → Option (X ⊕ Y)} (f : Nat → X) {y : Y} : ∀ (k : Nat) (s : Nat) (N : Nat), (∀ i, s ≤ i → i < s + k → body (f i) = some (.inl (f (i + 1)))) → body (f (s + k)) = some (.inr y) → k < N → jad body N (f s) = some y
 | 0, s, 0, _, _, h => absurd h (by omega)
 | 0, s, N + 1, _, hy, _ => by
  unfold jad
  rw [Nat.add_zero] at hy
  rw [hy]
 | k + 1, s, 0, _, _, h => absurd h (by omega)
 | k + 1, s, N + 1, h, hy, hN => by
  unfold jad
  rw [h s (Nat.le_refl _) (by omega)]
  exact jmk f k (s + 1) N (fun i h1 h2 => h i (by omega) (by omega)) (by rw [show s + 1 + k = s + (k + 1) by omega]; exact hy) (by omega)
theorem jbP {X Y : Type} {body : X → Option (X ⊕ Y)} (f : Nat → X) {y : Y} {k : Nat} (h : ∀ i, i < k → body (f i) = some (.inl (f (i + 1)))) (hy : body (f k) = some (.inr y)) (hk : k < 18446744073709551616) : jad body big (f 0) = some y :=
 jmk f k 0 big (fun i _ h2 => h i (by omega)) (by rw [Nat.zero_add]; exact hy) hk
theorem jjQ {α Y : Type} (l : List α) (d : α) (P : α → Bool) {body : Int → Option (Int ⊕ Y)} (hit : Nat → Y) (miss : Y) (hlen : l.length < 9223372036854775807)
  (h1 : ∀ i, i < l.length → P (l.getD i d) = true → body (i : Int) = some (.inr (hit i)))
  (h2 : ∀ i, i < l.length → P (l.getD i d) = false → body (i : Int) = some (.inl ((i : Int) + 1))) (h3 : body (l.length : Int) = some (.inr miss)) :
  jad body big 0 = some (match l.findIdx? P with | some i => hit i | none => miss) := by
 cases hf : l.findIdx? P with
 | none =>
  rw [List.findIdx?_eq_none_iff] at hf
  refine jbP (fun i => (i : Int)) (k := l.length) (fun i hi => ?_) h3 (by omega)
  have := h2 i hi (by simpa [List.getD, hi] using hf l[i] (List.getElem_mem _))
  rw [this]
  rfl
 | some k =>
  rw [List.findIdx?_eq_some_iff_getElem] at hf
  obtain ⟨hk, hp, hbef⟩ := hf
  refine jbP (fun i => (i : Int)) (k := k) (fun i hi => ?_) (h1 k hk (by simpa [List.getD, hk] using hp)) (by omega)
  have hil : i < l.length := by omega
  have := h2 i hil (by simpa [List.getD, hil] using hbef i hi)
  rw [this]
  rfl
def inI (n : Int) : Prop := -9223372036854775808 ≤ n ∧ n ≤ 9223372036854775807
def inJ (n : Int) : Prop := -9223372036854775807 ≤ n ∧ n ≤ 9223372036854775807
theorem jan {α β : Type} (x : α) (f : α → Option β) : (some x).bind f = f x := rfl
end Go.Sx
end

section
namespace Go.Sx
instance (priority := 10) globs0 : Globs := { mv := true, tab := fun _ => none, held := fun _ => none }
end Go.Sx
end

section
namespace Go.Sx06
open Go Go.Proofs Go.RowKit Go.Shelf Go.Sx
attribute [local go_sem] Oper.semAt_some
theorem jgv {B : Bd} {w : World} : jbC B w := ⟨fun _ _ h => (by cases h), joK (fun _ => rfl) B w⟩
theorem jem {ρ : Env} {B : Bd} {N n0 : Nat} {st : St} {a : Act} {w : World} {t : Nat} {v : Value} (h : Rel ρ B N n0 st a w) (ht : jaX st.tm t = none) (hlt : t < N) : Rel ρ B N n0 st (a.put (some t) v) w := by
 refine ⟨fun x u hx => ?_, by rw [jbH]; exact h.size, by rw [jdB]; exact h.defers, h.heap, h.le, h.n0⟩
 have hne : x ≠ t := fun e => by subst e; rw [ht] at hx; cases hx
 rw [jbD (fun y hy => by cases hy; rw [h.size]; exact hlt), if_neg (fun e => hne (Option.some.inj e).symm)]
 exact h.tm x u hx
structure KpC (n1 : Nat) (A C : World) : Prop where
 size : A.heap.size ≤ C.heap.size
 same : ∀ k o, n1 ≤ k → A.heap[k]? = some o → o.isCells = true → C.heap[k]? = some o
def stL (y : Value) (L : List Int) (k : Nat) : St :=
 ⟨[(11, vi .i64 k), (10, vi .i64 5), (9, .w (.c (.o 0))), (0, .w (.c (.d (.v y))))], [(0, .ext (.ints .i64 L))], 1⟩
def stB (y : Value) (b0 b1 b2 a0 a1 : Int) : St :=
 ⟨[(11, vi .i64 0), (10, vi .i64 5), (9, .w (.c (.o 1))), (0, .w (.c (.d (.v y))))], [(1, .row 3 (.ints .i64 [b0, b1, b2, a0, a1])), (0, .box 42 [.d (.i .i64 b0), .d (.i .i64 b1), .d (.i .i64 b2), .d (.i .i64 a0), .d (.i .i64 a1)])], 2⟩
structure Bet (Far : World → Nat → Prop) (y : Value) (L : List Int) (k : Nat) (a : Act) (w : World) : Prop where
 rel : ∃ ρ, Rel ρ (fun x => x < w.heap.size) 22 1 (stL y L k) a w ∧ ∀ ad n cap, ρ 0 = .slice (some ad) n cap → Far w ad.block
theorem jn8 {v : Value} {c : Cont} {A C : World} (h : jaJ A v c) (he : 0 < c.e) (hv : ∀ ad n cap, v = .slice (some ad) n cap → ∀ o, A.heap[ad.block]? = some o → o.isCells = true → C.heap[ad.block]? = some o) : jaJ C v c := by
 obtain ⟨a, cap, rfl, hc, hcells⟩ := h
 refine ⟨a, cap, rfl, hc, fun hn => ?_⟩
 obtain ⟨b, off, rfl, hx⟩ := hcells hn
 refine ⟨b, off, rfl, fun j x hj => ?_⟩
 have h1 := hx j x hj
 obtain ⟨o, ho, hoc⟩ := cells_of_cell h1
 have h2 := hv _ _ _ rfl o ho hoc
 have ho' : A.heap[b]? = some o := ho
 exact (World.cell?_of_block (w := A) (w' := C) (a := ⟨b, off + j, none⟩) (h2.trans ho'.symm)).trans h1
theorem piece {c : Code} {N n0 : Nat} {st st2 : St} {ρ : Env} {a : Act} {w : World} (hr : Rel ρ (fun x => x < w.heap.size) N n0 st a w)
  (h : sx Tryz.prog (fun _ => none) N n0 0 (fun _ _ _ => none) (fun _ _ _ => False) c 0 [] st (fun e st' => match e with | .normal => Le n0 st' st2 | _ => False)) :
  c.wp Tryz.prog (fun e a' w' => e = .normal ∧ w.grownBy w' none ∧ ∃ ρ', Rel ρ' (fun x => x < w.heap.size) N n0 st2 a' w' ∧ jaf n0 ρ ρ') a w := by
 refine wp_mono (jbB (fun _ _ _ h => by cases h) (fun _ _ _ _ _ _ _ _ _ h => h.elim) c 0 [] st _ ρ a w h hr (jaf.refl _ _) (Bel.refl _ _)) ?_
 rintro e a' w' ⟨ex, ρ', st', rfl, hk, hr', hag, hbl⟩
 cases ex with
 | normal =>
  obtain ⟨ρ2, hr2, hag2⟩ := Le.rel hk hr'
  exact ⟨rfl, ⟨hbl.os, hbl.tape, hbl.output, hbl.size, fun k hk _ => hbl.block k hk⟩, ρ2, hr2, fun x hx => (hag2 x hx).trans (hag x hx)⟩
 | exit j => exact hk.elim
 | ret => exact hk.elim
def prs (L : List Int) (k : Nat) : List (Nat × Int) := (List.range k).map fun j => (j, L.getD j 0)
theorem jgw (L : List Int) (k : Nat) : prs L (k + 1) = prs L k ++ [(k, L.getD k 0)] := by simp [prs, List.range_succ]
theorem jeE (L : List Int) (k : Nat) : (prs L k).length = k := by simp [prs]
def sub : List Nat → Code → Code
 | [], c => c
 | 0 :: p, .seq x _ => sub p x
 | _ :: p, .seq _ y => sub p y
 | 0 :: p, .cond _ x _ => sub p x
 | _ :: p, .cond _ _ y => sub p y
 | _ :: p, .block _ c => sub p c
 | _ :: p, .loop c => sub p c
 | _, c => c
def jai (f : Func) : Code := f.body.getD .skip
abbrev pc (c : Code) (st st2 : St) : Prop := sx Tryz.prog (fun _ => none) 22 1 0 (fun _ _ _ => none) (fun _ _ _ => False) c 0 [] st (fun e st' => match e with | .normal => Le 1 st' st2 | _ => False)
def stC (y : Value) (L : List Int) (k : Nat) : St := ⟨(12, vb (decide ((k : Int) < 5))) :: (stL y L k).tm, (stL y L k).hp, 1⟩
def stD (y : Value) (L : List Int) (k : Nat) : St := ⟨(4, vi .i64 (L.getD k 0)) :: (3, vi .i64 k) :: (stL y L k).tm, (stL y L k).hp, 1⟩
theorem pc1 (y : Value) (L : List Int) (k : Nat) : pc (sub [1, 0, 0, 0] (jai Tryz.f43)) (stL y L k) (stC y L k) := by
 refine Eq.mp (by kernel_rfl : (Ob ((decide ((k : Int) < 5)) = decide ((k : Int) < 5)) ∧ Ob ((k : Int) = k) ∧ Ob ((5 : Int) = 5) ∧ Ob (y = y) ∧ Ob (L = L) ∧ True) = _) ?_
 exact ⟨⟨rfl⟩, ⟨rfl⟩, ⟨rfl⟩, ⟨rfl⟩, ⟨rfl⟩, trivial⟩
theorem pc2 (y : Value) (L : List Int) (k : Nat) (hk : k < L.length) : pc (sub [1, 0, 0, 1, 1, 0, 0, 0] (jai Tryz.f43)) (stC y L k) (stD y L k) := by
 refine Eq.mp (by kernel_rfl : (Ob (0 ≤ (k : Int) ∧ (k : Int) < (L.length : Int)) ∧ Ob ((k : Int).toNat < L.length) ∧ Ob (L.getD (k : Int).toNat 0 = L.getD k 0) ∧ Ob ((k : Int) = k) ∧ Ob ((k : Int) = k) ∧ Ob ((5 : Int) = 5) ∧ Ob (y = y) ∧ Ob (L = L) ∧ True) = _) ?_
 exact ⟨⟨by omega⟩, ⟨by omega⟩, ⟨rfl⟩, ⟨rfl⟩, ⟨rfl⟩, ⟨rfl⟩, ⟨rfl⟩, ⟨rfl⟩, trivial⟩
theorem pc3 (y : Value) (L : List Int) (k : Nat) (hk : k < 5) : pc (sub [1, 0, 0, 1, 1, 1] (jai Tryz.f43)) (stL y L k) (stL y L (k + 1)) := by
 refine Eq.mp (by kernel_rfl : (Ob (IntKind.i64.wrap ((k : Int) + 1) = ((k + 1 : Nat) : Int)) ∧ Ob ((5 : Int) = 5) ∧ Ob (y = y) ∧ Ob (L = L) ∧ True) = _) ?_
 refine ⟨⟨?_⟩, ⟨rfl⟩, ⟨rfl⟩, ⟨rfl⟩, trivial⟩
 rw [IntWalk.i64_in _ (by omega)]
 omega
theorem jml {ρ : Env} {B : Bd} {N n0 : Nat} {st : St} {a : Act} {w : World} {c : Cont} (h : Rel ρ B N n0 st a w) (hs : st.hp = [(0, .ext c)]) (he : 0 < c.e) : Rel ρ (fun x => x < w.heap.size) N n0 st a w := by
 refine ⟨h.tm, h.size, h.defers, ⟨fun x o hf => ?_, fun x o x' o' b hf hf' hne hb => ?_, jgv⟩, fun k hk => hk, h.n0⟩
 ·have h1 := h.heap.ok x o hf
  refine ⟨h1.1, h1.2.1, ?_⟩
  rw [hs] at hf
  simp only [find] at hf
  split at hf
  ·cases hf
   exact ⟨h1.2.2.1, h1.2.2.1.lt he⟩
  ·cases hf
 ·rw [hs] at hf
  simp only [find] at hf
  split at hf
  ·cases hf; cases hb
  ·cases hf
theorem jhB {o : Oper} {x : Operand} {n : Nat} {a : Act} {w : World} {K : Act → World → Prop} {Q : Exit → Act → World → Prop} (ho : o.op = .move x) (h : K (a.put o.dst (a.eval x)) w) : o.wpIn Fence.wide n Tryz.prog a w K Q := by
 refine ⟨fun _ _ => trivial, ?_⟩
 have : ((o.semAt Fence.wide.round a.eval).run Tryz.prog w) = .ok (.value (a.eval x)) w := by
  rw [Fence.wide_round, Oper.semAt_none]
  unfold execOp
  simp only [ho, Sem.run_pure]
 rw [this]
 exact h
theorem jdg {y : Value} {L : List Int} {k t : Nat} (h : t ≠ 11 ∧ t ≠ 10 ∧ t ≠ 9 ∧ t ≠ 0) : jaX (stL y L k).tm t = none := by
 simp only [stL, jaX]
 rw [if_neg (Ne.symm h.1), if_neg (Ne.symm h.2.1), if_neg (Ne.symm h.2.2.1), if_neg (Ne.symm h.2.2.2)]
set_option maxHeartbeats 2000000 in
theorem jpa (n l : Nat) (Kp : World → World → Prop) (Far : World → Nat → Prop)
  (hKF : ∀ {A C : World} {k : Nat}, Kp A C → Far A k → Far C k ∧ ∀ o, A.heap[k]? = some o → o.isCells = true → C.heap[k]? = some o)
  (hFg : ∀ {A B : World} {k : Nat}, A.grownBy B none → Far A k → Far B k) (L : List Int) (hL : L.length = 5) (J Jx : List (Nat × Int) → World → Prop)
  (hY : ∀ pre x W, J pre W → pre.length < 5 → x = (pre.length, L.getD pre.length 0) → YieldAt Fence.wide (n - 1) Tryz.prog l #[.int .i64 (x.1 : Int), .int .i64 x.2] W fun e W' =>
   (e = .returned (.bool true) ∧ J (pre ++ [x]) W' ∧ Kp W W') ∨ (e = .returned (.bool false) ∧ Jx (pre ++ [x]) W'))
  (hJ : ∀ A B pre, J pre A → A.grownBy B none → J pre B) (a : Act) (w : World) (hb : Bet Far (.func (.yield l) #[] #[]) L 0 a w) (hj0 : J (prs L 0) w) :
  (sub [1] (jai Tryz.f43)).wpIn Fence.wide n Tryz.prog (bodyPost Tryz.prog Tryz.f43 fun e W' => (∃ v, e = .returned v) ∧
   ((∃ ys, ys = prs L 5 ∧ J ys W') ∨ (∃ pre, (∃ k, k ≤ 5 ∧ pre = prs L k) ∧ Jx pre W'))) a w := by
 refine wpIn_block (wpIn_loop (fun a w => ∃ k, k ≤ 5 ∧ Bet Far (.func (.yield l) #[] #[]) L k a w ∧ J (prs L k) w) (fun a _ => 5 - (intOf (a.tmps.getD 11 undef)).toNat) ⟨0, by omega, hb, hj0⟩ ?_)
 rintro a w ⟨k, hk, ⟨ρ, hr, hge⟩, hj⟩
 have hmu : (intOf (a.tmps.getD 11 undef)).toNat = k := by
  rw [(hr.tm 11 _ rfl).2]
  simp [intOf]
 rw [hmu]
 refine wpIn_seq (wpIn_wide.2 (wp_mono (piece hr (pc1 _ L k)) ?_))
 rintro e a1 w1 ⟨rfl, hg1, ρ1, hr1, hag1⟩
 have hj1 := hJ _ _ _ hj hg1
 have hc : a1.eval (.tmp 12) = .bool (decide ((k : Int) < 5)) := (hr1.tm 12 _ rfl).2
 by_cases hlt : k < 5
 ·refine wpIn_seq (wpIn_cond_true (by rw [hc, decide_eq_true (by omega)]) (wpIn_skip ?_))
  refine wpIn_seq (wpIn_block (wpIn_seq (wpIn_wide.2 (wp_mono (piece (jml hr1 rfl (Nat.lt_succ_self 0)) (pc2 _ L k (by omega))) ?_))))
  rintro e a2 w2 ⟨rfl, hg2, ρ2, hr2, hag2⟩
  have hj2 := hJ _ _ _ hj1 hg2
  obtain ⟨fn, tmps, assign, body, hy, hR⟩ := hY (prs L k) (k, L.getD k 0) w2 hj2 (by rw [jeE]; exact hlt) (by rw [jeE])
  have hr2L : Rel ρ2 (fun x => x < w2.heap.size) 22 1 (stL (.func (.yield l) #[] #[]) L k) a2 w2 := by
   have := jml hr2 (c := .ints .i64 L) rfl (Nat.lt_succ_self 0)
   refine ⟨fun t v hv => this.tm t v ?_, this.size, this.defers, this.heap, this.le, this.n0⟩
   have hne : t ≠ 4 ∧ t ≠ 3 := ⟨(fun e => by subst e; rw [jdg (by decide)] at hv; cases hv), (fun e => by subst e; rw [jdg (by decide)] at hv; cases hv)⟩
   show jaX ((4, _) :: (3, _) :: _) t = some v
   simp only [jaX]
   rw [if_neg (Ne.symm hne.1), if_neg (Ne.symm hne.2)]
   exact hv
  have e3 : a2.tmps.getD 3 undef = .int .i64 k := (hr2.tm 3 _ rfl).2
  have e4 : a2.tmps.getD 4 undef = .int .i64 (L.getD k 0) := (hr2.tm 4 _ rfl).2
  have e0 : a2.tmps.getD 0 undef = .func (.yield l) #[] #[] := (hr2.tm 0 _ rfl).2
  have hge2 : ∀ ad n cap, ρ2 0 = .slice (some ad) n cap → Far w2 ad.block := fun ad n cap h => hFg hg2 (hFg hg1 (hge ad n cap (by rw [← hag1 0 (Nat.lt_succ_self 0), ← hag2 0 (Nat.lt_succ_self 0)]; exact h)))
  refine wpIn_seq (wpIn_region_list ?_)
  refine wpListIn_plain rfl fun K hK => jhB rfl (hK _ _ ?_)
  refine wpListIn_plain rfl fun K hK => jhB rfl (hK _ _ ?_)
  refine wpListIn_plain rfl fun K hK => jhB rfl (hK _ _ ?_)
  have hsz : a2.tmps.size = 22 := hr2L.size
  obtain ⟨a3, ha3⟩ : ∃ a3, a3 = ((a2.put (some 16) (a2.eval (.tmp 0))).put (some 17) ((a2.put (some 16) (a2.eval (.tmp 0))).eval (.tmp 3))).put (some 18) (((a2.put (some 16) (a2.eval (.tmp 0))).put (some 17) ((a2.put (some 16) (a2.eval (.tmp 0))).eval (.tmp 3))).eval (.tmp 4)) := ⟨_, rfl⟩
  have hr3 : Rel ρ2 (fun x => x < w2.heap.size) 22 1 (stL (.func (.yield l) #[] #[]) L k) a3 w2 := by
   rw [ha3]
   exact jem (jem (jem hr2L (jdg (by decide)) (by decide)) (jdg (by decide)) (by decide)) (jdg (by decide)) (by decide)
  have g16 : a3.eval (.tmp 16) = .func (.yield l) #[] #[] := by
   rw [ha3]
   show (Act.put _ (some 18) _).tmps.getD 16 undef = _
   rw [jbD (fun x hx => by cases hx; simp [jbH, hsz]), if_neg (by decide), jbD (fun x hx => by cases hx; simp [jbH, hsz]), if_neg (by decide), jbD (fun x hx => by cases hx; simp [hsz]), if_pos rfl]
   exact e0
  have g17 : a3.eval (.tmp 17) = .int .i64 k := by
   rw [ha3]
   show (Act.put _ (some 18) _).tmps.getD 17 undef = _
   rw [jbD (fun x hx => by cases hx; simp [jbH, hsz]), if_neg (by decide), jbD (fun x hx => by cases hx; simp [jbH, hsz]), if_pos rfl]
   show (Act.put _ (some 16) _).tmps.getD 3 undef = _
   rw [jbD (fun x hx => by cases hx; simp [hsz]), if_neg (by decide)]
   exact e3
  have g18 : a3.eval (.tmp 18) = .int .i64 (L.getD k 0) := by
   rw [ha3]
   show (Act.put _ (some 18) _).tmps.getD 18 undef = _
   rw [jbD (fun x hx => by cases hx; simp [jbH, hsz]), if_pos rfl]
   show (Act.put _ (some 17) _).tmps.getD 4 undef = _
   rw [jbD (fun x hx => by cases hx; simp [jbH, hsz]), if_neg (by decide), jbD (fun x hx => by cases hx; simp [hsz]), if_neg (by decide)]
   exact e4
  have hsz3 : a3.tmps.size = 22 := hr3.size
  rw [← ha3]
  clear ha3
  refine wpListIn_plain rfl fun K hK => ⟨fun _ _ => trivial, ?_⟩
  have hcall : ∀ o : Oper, o.op = .call { callee := .value (.tmp 16), args := #[.tmp 17, .tmp 18], argTypes := #[3, 3] } → ((o.semAt Fence.wide.round a3.eval).run Tryz.prog w2) = .ok (.round l fn tmps assign body) w2 := by
   intro o ho
   rw [Fence.wide_round, Oper.semAt_none]
   unfold execOp
   simp only [ho, resolve, g16, Deferred.ofValue, Sem.run_bind, Sem.run_pure, Result.andThen_ok, invoke, List.map_toArray, List.map_cons, List.map_nil, g17, g18]
   exact hy
  rw [hcall _ rfl]
  refine ⟨(fun h => by cases h), hR.mono ?_⟩
  have hnot : ∀ (o : Oper) (b : Bool) (w3 : World), o.op = .unOp .not 4 (.tmp 19) → ((o.semAt Fence.wide.round (a3.put (some 19) (.bool b)).eval).run Tryz.prog w3) = .ok (.value (.bool !b)) w3 := by
   intro o b w3 ho
   have h19 : (a3.put (some 19) (.bool b)).eval (.tmp 19) = .bool b := by
    show (Act.put _ (some 19) _).tmps.getD 19 undef = _
    rw [jbD (fun x hx => by cases hx; simp [hsz3]), if_pos rfl]
   rw [Fence.wide_round, Oper.semAt_none]
   unfold execOp
   simp only [ho, h19]
   rfl
  have h20 : ∀ b, ((a3.put (some 19) (.bool b)).put (some 20) (.bool !b)).eval (.tmp 20) = .bool !b := fun b => by
   show (Act.put _ (some 20) _).tmps.getD 20 undef = _
   rw [jbD (fun x hx => by cases hx; simp [jbH, hsz3]), if_pos rfl]
  have hr5 : ∀ b, Rel ρ2 (fun x => x < w2.heap.size) 22 1 (stL (.func (.yield l) #[] #[]) L k) ((a3.put (some 19) (.bool b)).put (some 20) (.bool !b)) w2 := fun b =>
   jem (jem hr3 (jdg (by decide)) (by decide)) (jdg (by decide)) (by decide)
  rintro e w3 (⟨rfl, hj3, hk3⟩ | ⟨rfl, hj3⟩)
  ·refine hK _ _ (wpListIn_plain rfl fun K hK => ⟨fun _ _ => trivial, ?_⟩)
   rw [hnot _ true w3 rfl]
   refine hK _ _ (wpListIn_nil ?_)
   refine wpIn_cond_false (h20 true) (wpIn_skip ?_)
   have h5 := hr5 true
   have hrow3 : jaJ w3 (ρ2 0) (.ints .i64 L) := jn8 (hr2L.heap.ok 0 _ rfl).2.2.1 (Nat.lt_succ_self 0) fun ad n cap h => (hKF hk3 (hge2 ad n cap h)).2
   have h6 : Rel ρ2 (fun x => x < w3.heap.size) 22 1 (stL (.func (.yield l) #[] #[]) L k) ((a3.put (some 19) (.bool true)).put (some 20) (.bool !true)) w3 := by
    refine ⟨h5.tm, h5.size, h5.defers, ⟨fun x o hf => ?_, fun x o x' o' b hf hf' hne hb => ?_, jgv⟩, fun k hk => hk, h5.n0⟩
    ·simp only [stL, find] at hf
     split at hf
     ·rename_i e; subst e; cases hf
      exact ⟨Nat.lt_succ_self 0, trivial, hrow3, hrow3.lt (Nat.lt_succ_self 0)⟩
     ·cases hf
    ·simp only [stL, find] at hf
     split at hf
     ·cases hf; cases hb
     ·cases hf
   refine wpIn_wide.2 (wp_mono (piece h6 (pc3 _ L k hlt)) ?_)
   rintro e a7 w7 ⟨rfl, hg7, ρ7, hr7, hag7⟩
   refine ⟨⟨k + 1, by omega, ⟨ρ7, jml hr7 (c := .ints .i64 L) rfl (Nat.lt_succ_self 0), fun ad n cap h => hFg hg7 (hKF hk3 (hge2 ad n cap (by rw [← hag7 0 (Nat.lt_succ_self 0)]; exact h))).1⟩, ?_⟩, ?_⟩
   ·rw [jgw]
    exact hJ _ _ _ hj3 hg7
   ·rw [(hr7.tm 11 _ rfl).2]
    simp [intOf]
    omega
  ·refine hK _ _ (wpListIn_plain rfl fun K hK => ⟨fun _ _ => trivial, ?_⟩)
   rw [hnot _ false w3 rfl]
   refine hK _ _ (wpListIn_nil ?_)
   refine wpIn_cond_true (h20 false) (wpIn_ret ?_)
   refine ⟨(hr5 false).defers, .tuple #[], results_none rfl _ _ _, ⟨_, rfl⟩, .inr ⟨_, ⟨k + 1, by omega, rfl⟩, ?_⟩⟩
   rw [jgw]
   exact hj3
 ·have hk5 : k = 5 := by omega
  subst hk5
  refine wpIn_seq (wpIn_cond_false (by rw [hc, decide_eq_false (by omega)]) (wpIn_exit ?_))
  refine ⟨hr1.defers, .tuple #[], ?_, ⟨_, rfl⟩, .inl ⟨_, rfl, hj1⟩⟩
  exact results_none rfl _ _ _
set_option maxHeartbeats 2000000 in
theorem jgx (n l Bs : Nat) (Kp : World → World → Prop) (Far : World → Nat → Prop)
  (hKF : ∀ {A C : World} {k : Nat}, Kp A C → Far A k → Far C k ∧ ∀ o, A.heap[k]? = some o → o.isCells = true → C.heap[k]? = some o)
  (hFg : ∀ {A B : World} {k : Nat}, A.grownBy B none → Far A k → Far B k) (b0 b1 b2 a0 a1 : Int) (J Jx : List (Nat × Int) → World → Prop)
  (hY : ∀ pre x W, J pre W → pre.length < 5 → x = (pre.length, [b0, b1, b2, a0, a1].getD pre.length 0) → YieldAt Fence.wide (n - 1) Tryz.prog l #[.int .i64 (x.1 : Int), .int .i64 x.2] W fun e W' =>
   (e = .returned (.bool true) ∧ J (pre ++ [x]) W' ∧ Kp W W') ∨ (e = .returned (.bool false) ∧ Jx (pre ++ [x]) W'))
  (W : World) (hF0 : ∀ B g, W.grownBy B none → W.heap.size ≤ g → g < B.heap.size → Far B g) (hJ : AbidesFrom W.heap.size J) (hBs : W.heap[Bs]? = some (.cells #[.int .i64 b0, .int .i64 b1, .int .i64 b2, .int .i64 a0, .int .i64 a1] 42 (0, 0))) (h0 : J [] W) :
  CallsIn Fence.wide n Tryz.prog 43 #[.func (.yield l) #[] #[], .pointer (some ⟨Bs, 0, none⟩)] W fun e W' => (∃ v, e = .returned v) ∧
   ((∃ ys, ys = prs [b0, b1, b2, a0, a1] 5 ∧ J ys W') ∨ (∃ pre, (∃ k, k ≤ 5 ∧ pre = prs [b0, b1, b2, a0, a1] k) ∧ Jx pre W')) := by
 refine callsIn_of_wp Tryz.func43 rfl trivial ?_ rfl
 refine wpIn_seq (wpIn_wide.2 ?_)
 have hBlt : Bs < W.heap.size := (Array.getElem?_eq_some_iff.1 hBs).1
 let ρ : Env := fun _ => .pointer (some ⟨Bs, 0, none⟩)
 let y : Value := .func (.yield l) #[] #[]
 have hsp : jac Tryz.prog (fun _ => none) := fun _ _ _ h => by cases h
 refine jcy (N := 22) (n0 := 1) (B := fun k => k < W.heap.size ∧ k ≠ Bs) (ρ0 := ρ) (w0 := W) (st := ⟨[(0, .w (.c (.d (.v y)))), (1, .w (.c (.p 0 0 1 0)))], [(0, .box 42 [.d (.i .i64 b0), .d (.i .i64 b1), .d (.i .i64 b2), .d (.i .i64 a0), .d (.i .i64 a1)])], 1⟩)
  (k := fun st => Le 1 st (stB y b0 b1 b2 a0 a1)) (by kernel_rfl) hsp (ds := []) _ _ ρ _ _ _ ?vc ?rel (jaf.refl _ _) (Bel.refl _ _) ?next
 case vc =>
  refine Eq.mp (by kernel_rfl : (Ob True ∧ Ob True ∧ Ob (0 < 3 ∧ 0 < 2 ∧ (3 + 2) * 8 ≤ 140737488355328 ∧ 3 + 2 ≤ 9223372036854775807) ∧
   Le 1 ⟨[(11, vi .i64 0), (10, vi .i64 5), (9, .w (.c (.o 3))), (8, .w (.c (.o 2))), (7, .w (.c (.p 0 0 1 3))), (6, .w (.c (.o 1))), (5, .w (.c (.p 0 0 1 0))), (0, .w (.c (.d (.v y)))), (1, .w (.c (.p 0 0 1 0)))],
    [(3, .row 3 (.ints .i64 [b0, b1, b2, a0, a1])), (2, .view 0 (.ints .i64 [a0, a1]) true), (1, .view 0 (.ints .i64 [b0, b1, b2]) true), (0, .box 42 [.d (.i .i64 b0), .d (.i .i64 b1), .d (.i .i64 b2), .d (.i .i64 a0), .d (.i .i64 a1)])], 4⟩ (stB y b0 b1 b2 a0 a1)) = _) ?_
  refine ⟨⟨trivial⟩, ⟨trivial⟩, ⟨by decide⟩, ?_⟩
  refine Eq.mp (by kernel_rfl : ((Ob ((0 : Int) = 0) ∧ Ob ((5 : Int) = 5) ∧ Ob (y = y) ∧ Ob ([b0, b1, b2, a0, a1] = [b0, b1, b2, a0, a1]) ∧ Ob (b0 = b0) ∧ Ob (b1 = b1) ∧ Ob (b2 = b2) ∧ Ob (a0 = a0) ∧ Ob (a1 = a1) ∧ True)) = _) ?_
  exact ⟨⟨rfl⟩, ⟨rfl⟩, ⟨rfl⟩, ⟨rfl⟩, ⟨rfl⟩, ⟨rfl⟩, ⟨rfl⟩, ⟨rfl⟩, ⟨rfl⟩, trivial⟩
 case rel =>
  refine jhp (N := 22) (n0 := 1) (args := [.w (.c (.d (.v y))), .w (.c (.p 0 0 1 0))]) (Nat.le_of_ble_eq_true rfl) (fun x hx => ?_) (Nat.le_refl _) ρ W ⟨fun x o hf => ?_, fun x o x' o' b hf hf' hne hb => ?_, jgv⟩ (fun k hk => hk.1)
  ·simp only [List.mem_cons, List.not_mem_nil, or_false] at hx
   rcases hx with rfl | rfl
   ·trivial
   ·exact Nat.lt_succ_self 0
  ·simp only [find] at hf
   split at hf
   ·rename_i e; subst e; cases hf
    exact ⟨Nat.lt_succ_self 0, (fun c hc => by simp at hc; rcases hc with rfl | rfl | rfl | rfl | rfl <;> trivial), Bs, rfl, fun h => h.2 rfl, hBs⟩
   ·cases hf
  ·simp only [find] at hf hf'
   split at hf
   ·rename_i e; subst e
    rw [if_neg hne] at hf'
    cases hf'
   ·cases hf
 case next =>
  rintro ρ1 st1 a1' w1 hr1 hag1 hbl1 hle
  obtain ⟨ρ2, hr2, hag2⟩ := hle.rel hr1
  have hbk : ρ2 0 = .pointer (some ⟨Bs, 0, none⟩) := (hag2 0 (Nat.lt_succ_self 0)).trans (hag1 0 (Nat.lt_succ_self 0))
  have hgr : W.grownBy w1 none := by
   refine ⟨hbl1.os, hbl1.tape, hbl1.output, hbl1.size, fun k hk _ => ?_⟩
   by_cases e : k = Bs
   ·subst e
    obtain ⟨_, _, g, hg, _, hheap⟩ := hr2.heap.ok 0 _ rfl
    rw [hbk] at hg
    have e : g = k := by
     have : some (⟨k, 0, none⟩ : Addr) = some ⟨g, 0, none⟩ := Value.pointer.inj hg
     cases this
     rfl
    subst e
    rw [hheap, hBs]
    rfl
   ·exact hbl1.block k ⟨hk, e⟩
  have hJ1 : J (prs [b0, b1, b2, a0, a1] 0) w1 := hJ [] W w1 none h0 hgr (fun r e => by cases e)
  have hge : ∀ g, (ρ2 1).ownBlock = some g → Far w1 g := fun g hg => by
   refine hF0 _ _ hgr ?_ (O.blk_lt (hr2.heap.ok 1 _ rfl).2.2 hg).1
   have h3 := (hr2.heap.ok 1 _ rfl).2.2.2 g hg
   have hne : g ≠ Bs := fun e => hr2.heap.apart 1 _ 0 _ g rfl rfl (by decide) hg (by rw [hbk, e]; rfl)
   have : ¬ g < W.heap.size := fun hl => h3 ⟨hl, hne⟩
   omega
  have hrow : jaJ w1 (ρ2 1) (.ints .i64 [b0, b1, b2, a0, a1]) := jaZ (hr2.heap.ok 1 _ rfl).2.2 rfl
  have hbet : Bet Far y [b0, b1, b2, a0, a1] 0 a1' w1 := by
   refine ⟨fun _ => ρ2 1, ⟨fun t v hv => ?_, hr2.size, hr2.defers, ⟨fun x o hf => ?_, fun x o x' o' b hf hf' hne hb => ?_, jgv⟩, fun k hk => hk, Nat.le_refl _⟩, fun ad n cap hv => hge _ (by have hv' : ρ2 1 = _ := hv; rw [hv']; rfl)⟩
   ·simp only [stL, jaX] at hv
    split at hv
    ·rename_i e; subst e; cases hv; exact ⟨trivial, (hr2.tm 11 _ rfl).2⟩
    ·split at hv
     ·rename_i e; subst e; cases hv; exact ⟨trivial, (hr2.tm 10 _ rfl).2⟩
     ·split at hv
      ·rename_i e; subst e; cases hv; exact ⟨Nat.lt_succ_self 0, (hr2.tm 9 _ rfl).2⟩
      ·split at hv
       ·rename_i e; subst e; cases hv; exact ⟨trivial, (hr2.tm 0 _ rfl).2⟩
       ·cases hv
   ·simp only [stL, find] at hf
    split at hf
    ·rename_i e; subst e; cases hf
     exact ⟨Nat.lt_succ_self 0, trivial, hrow, hrow.lt (Nat.lt_succ_self 0)⟩
    ·cases hf
   ·simp only [stL, find] at hf
    split at hf
    ·cases hf; cases hb
    ·cases hf
  clear hr2 hr1 hbk hge hrow
  have hge1 : 1 ≤ 1 := Nat.le_refl 1
  exact jpa n l Kp Far hKF hFg [b0, b1, b2, a0, a1] rfl J Jx hY (fun A B pre hj hg => hJ pre A B none hj hg (fun r e => by cases e)) a1' w1 hbet hJ1
end Go.Sx06
end

section
namespace Go.Sx06u
open Go Go.Proofs Go.RowKit Go.Shelf Go.Sx Go.Sx06
attribute [local go_sem] Oper.semAt_some
theorem jaV {p : Prop} : Ob p ↔ p := ⟨fun h => h.h, fun h => ⟨h⟩⟩
theorem jbn {b : Bool} {p q : Prop} : Br b p q ↔ (b = true → p) ∧ (b = false → q) := by
 cases b <;> simp [Br]
theorem mixed : Tryz.prog.follows .mixedOrders = true := by kernel_rfl
abbrev jaI (fn : Func) (sp : jaa) (loops : Nat → St → Option LI) (fuel : Nat) (as_ : List A) (rs : List RV) : Prop :=
 sx Tryz.prog sp fn.ntmps as_.length fuel (fun _ => loops) (jcx Tryz.prog sp fn.ntmps) (jai fn) 0 [] ⟨jbU 0 (ja5 0 as_), jbz 0 as_, as_.length⟩ (jdT Tryz.prog fn.results.toList fun v hp _ => jjJ rs v hp)
abbrev runE (fn : Func) (sp : jaa) (loops : Nat → St → Option LI) (fuel : Nat) (c0 : C) (ob : O) (as_ : List A) (ob' : O) (rs : List RV) : Prop :=
 sx Tryz.prog sp fn.ntmps 1 fuel (fun _ => loops) (jcx Tryz.prog sp fn.ntmps) (jai fn) 0 [] ⟨jbU 0 (.w (.c c0) :: ja5 1 as_), [(0, ob)], 1⟩ (jdT Tryz.prog fn.results.toList fun v hp _ => jjK ob' rs v hp)
def sp0 : jaa := fun _ => none
theorem jam : jac Tryz.prog sp0 := fun _ _ _ h => by cases h
def jar (f : Nat) (g : List A → Option (Prop × List RV)) (sp : jaa) : jaa := fun k => match Nat.beq k f with
 | true => some (true, jay g)
 | false => sp k
theorem jaw {f : Nat} {g : List A → Option (Prop × List RV)} {sp : jaa} (h : jah Tryz.prog f true (jay g)) (hs : jac Tryz.prog sp) : jac Tryz.prog (jar f g sp) := by
 intro k M S hk
 unfold jar at hk
 split at hk
 ·rename_i e
  have := Nat.eq_of_beq_eq_true e
  subst this
  cases hk
  exact h
 ·exact hs k M S hk
def jgy (f : Nat) (g : C → O → List A → Option (Prop × O × List RV)) (sp : jaa) : jaa := fun k => match Nat.beq k f with
 | true => some (false, jhw g)
 | false => sp k
theorem jkx {f : Nat} {g : C → O → List A → Option (Prop × O × List RV)} {sp : jaa} (h : jah Tryz.prog f false (jhw g)) (hs : jac Tryz.prog sp) : jac Tryz.prog (jgy f g sp) := by
 intro k M S hk
 unfold jgy at hk
 split at hk
 ·rename_i e
  have := Nat.eq_of_beq_eq_true e
  subst this
  cases hk
  exact h
 ·exact hs k M S hk
def jbo : List A → Option (Prop × List RV)
 | [.d (.i .i64 n), .d (.i .i64 lo), .d (.i .i64 hi)] => some (True, [.d (.b (decide (lo ≤ n) && decide (n ≤ hi)))])
 | _ => none
theorem jcT : jah Tryz.prog 32 true (jay jbo) := by
 refine jaF (fn := Tryz.f32) (body := jai Tryz.f32) mixed jam Tryz.func32 (by kernel_rfl) (by kernel_rfl) fun as_ ob rs h ho => ?_
 unfold jbo at h
 split at h
 ·rename_i n lo hi
  cases h
  refine ⟨Nat.le_of_ble_eq_true rfl, 0, fun _ _ _ => none, ?_⟩
  refine Eq.mp (by kernel_rfl : (Br (decide (lo ≤ n)) (Ob True ∧ Ob (decide (n ≤ hi) = (decide (lo ≤ n) && decide (n ≤ hi))) ∧ True) (Ob True ∧ Ob (false = (decide (lo ≤ n) && decide (n ≤ hi))) ∧ True)) = _) ?_
  simp only [jbn, jaV]
  exact ⟨fun h => by simp [h], fun h => by simp [h]⟩
 ·cases h
def jbV : List A → Option (Prop × List RV)
 | [.d (.i .i64 n), .d (.i .i64 most)] => some (-9223372036854775807 ≤ most ∧ most ≤ 9223372036854775807, [.d (.b (decide (-most ≤ n) && decide (n ≤ most)))])
 | _ => none
theorem ji0 (n most : Int) (ho : -9223372036854775807 ≤ most ∧ most ≤ 9223372036854775807) : jaI Tryz.f31 (jar 32 jbo sp0) (fun _ _ => none) 0 [.d (.i .i64 n), .d (.i .i64 most)] [.d (.b (decide (-most ≤ n) && decide (n ≤ most)))] := by
 refine Eq.mp (by kernel_rfl : (
    Ob True ∧
     Ob True ∧
      Ob
        ((
         decide (IntKind.i64.wrap ((0 : Int) - most) ≤ n) && decide (n ≤ most)) =
         (decide (-most ≤ n) && decide (n ≤ most))) ∧
       True) = _) ?_
 simp only [jaV]
 refine ⟨trivial, trivial, ?_, trivial⟩
 rw [IntWalk.i64_in _ (by omega), Int.zero_sub]
theorem jdX : jah Tryz.prog 31 true (jay jbV) := by
 refine jaF (sp := (jar 32 jbo sp0)) (fn := Tryz.f31) (body := jai Tryz.f31) mixed (jaw jcT jam) Tryz.func31 (by kernel_rfl) (by kernel_rfl) fun as_ ob rs h ho => ?_
 unfold jbV at h
 split at h
 ·rename_i n most
  cases h
  exact ⟨Nat.le_of_ble_eq_true rfl, _, _, ji0 n most ho⟩
 ·cases h
def jfU : List A → Option (Prop × List RV)
 | [.d (.i .i64 n)] => some (True, [.d (.b (decide (-32768 ≤ n) && decide (n ≤ 32768)))])
 | _ => none
theorem jhC (n : Int) : jaI Tryz.f55 (jar 31 jbV sp0) (fun _ _ => none) 0 [.d (.i .i64 n)] [.d (.b (decide (-32768 ≤ n) && decide (n ≤ 32768)))] := by
 refine Eq.mp (by kernel_rfl : (
    Ob ((-9223372036854775807 : Int) ≤ (32768 : Int) ∧ (32768 : Int) ≤ (9223372036854775807 : Int)) ∧
     Ob True ∧
      Ob
        ((
         decide ((-32768 : Int) ≤ n) && decide (n ≤ (32768 : Int))) =
         (decide ((-32768 : Int) ≤ n) && decide (n ≤ (32768 : Int)))) ∧
       True) = _) ?_
 exact ⟨⟨by decide⟩, ⟨trivial⟩, ⟨rfl⟩, trivial⟩
theorem jkZ : jah Tryz.prog 55 true (jay jfU) := by
 refine jaF (sp := (jar 31 jbV sp0)) (fn := Tryz.f55) (body := jai Tryz.f55) mixed (jaw jdX jam) Tryz.func55 (by kernel_rfl) (by kernel_rfl) fun as_ ob rs h ho => ?_
 unfold jfU at h
 split at h
 ·rename_i n
  cases h
  exact ⟨Nat.le_of_ble_eq_true rfl, _, _, jhC n⟩
 ·cases h
def ja6 (n : Int) : Bool := decide (-32768 ≤ n) && decide (n ≤ 32768)
def ja8 (b0 b1 b2 a0 a1 : Int) : Int := if [b0, b1, b2, a0, a1].all ja6 = true then 0 else 2
abbrev agg5 (b0 b1 b2 a0 a1 : Int) : Array Value := #[.int .i64 b0, .int .i64 b1, .int .i64 b2, .int .i64 a0, .int .i64 a1]
set_option maxHeartbeats 2000000 in
theorem coefs_in (n : Nat) (b0 b1 b2 a0 a1 : Int) (w : World) :
  CallsIn Fence.wide n Tryz.prog 19 #[.agg (agg5 b0 b1 b2 a0 a1)] w fun e w' => e = .returned (.func (.func 43) #[] #[.pointer (some ⟨w.heap.size, 0, none⟩)]) ∧ w' = w.alloc (.cells (agg5 b0 b1 b2 a0 a1) 42) := by
 refine callsIn_of_wp Tryz.func19 rfl trivial ?_ rfl
 simp only [Tryz.ntmps19, List.size_toArray, List.length_cons, List.length_nil, Nat.reduceAdd, Nat.reduceSub, Array.replicate_succ, Array.replicate_zero, List.push_toArray, List.append_toArray, List.nil_append, List.cons_append]
 gi_wp2
 go_ret
 exact ⟨rfl, rfl⟩
theorem jmm (n : Int) (w : World) : Calls Tryz.prog 55 #[.int .i64 n] w fun e w' => e = .returned (.bool (ja6 n)) ∧ Below w.heap.size w w' := by
 have h := (jkZ.sound Tryz.func55 (rfl : Tryz.f55.body = some (Tryz.f55.body.getD .skip)) (by kernel_rfl)).sound (fun _ => undef) (fun k => k < w.heap.size) w [.w (.c (.d (.i .i64 n)))] [] 0 _ rfl trivial (fun x hx => by
  simp only [List.mem_singleton] at hx; subst hx; trivial) ⟨(fun _ _ h => by cases h), (fun _ _ _ _ _ h => by cases h), jgv⟩ (fun _ h => h)
 refine h.mono ?_
 rintro e w' ⟨ρ', rfl, hl⟩
 exact ⟨rfl, hl.mono rfl⟩
theorem jpb (W : World) (v : Value) (t : TypeId) : (W.alloc (.cells #[v] t)).cell? ⟨W.heap.size, 0, none⟩ = some v ∧ (W.alloc (.cells #[v] t)).frozen? ⟨W.heap.size, 0, none⟩ = false := by
 have h : (W.alloc (.cells #[v] t)).heap[W.heap.size]? = some (.cells #[v] t (0, 0)) := World.alloc_heap_new W (.cells #[v] t)
 constructor
 ·unfold World.cell?
  dsimp only
  rw [h]
  rfl
 ·unfold World.frozen?
  dsimp only
  rw [h]
  rfl
theorem jmP {W : World} {a : Addr} {v : Value} (o : Obj) (h : W.cell? a = some v) : (W.alloc o).cell? a = some v := cell_kept h (World.grownBy_alloc W o none) (fun r e => by cases e)
theorem jlj {W : World} {a : Addr} {v : Value} (o : Obj) (h : W.cell? a = some v) (hf : W.frozen? a = false) : (W.alloc o).frozen? a = false := (frozen_kept h (World.grownBy_alloc W o none) (fun r e => by cases e)).trans hf
theorem kpc_t {n1 : Nat} {A B C : World} (h : KpC n1 A B) (k : KpC n1 B C) : KpC n1 A C := ⟨Nat.le_trans h.size k.size, fun x o hx ho hc => k.same x o hx (h.same x o hx ho hc) hc⟩
theorem kpc_b {n1 : Nat} {w : World} (W : World) (l : Nat) (o o' : Obj) (_ : w.heap.size ≤ l) (h : W.heap[l]? = some o) (hc : o.isCells = false) (_ : o.isWalk = false) : KpC n1 W (W.putObj l o') :=
 ⟨by simp, fun k u _ hk hu => by
  have hne : l ≠ k := fun e => by subst e; rw [h] at hk; cases hk; rw [hc] at hu; cases hu
  exact (World.putObj_heap_other (fun e => hne e.symm)).trans hk⟩
theorem jpc {n1 : Nat} {A B : World} (h : Below A.heap.size A B) : KpC n1 A B := ⟨h.size, fun k o _ hk _ => (h.block k (Array.getElem?_eq_some_iff.1 hk).1).trans hk⟩
theorem jiB {A B : World} (h : Below A.heap.size A B) : KeepsOthers A B := ⟨h.size, fun k o hk _ => (h.block k (Array.getElem?_eq_some_iff.1 hk).1).trans hk⟩
theorem jb4 {b0 b1 b2 a0 a1 : Int} : (prs [b0, b1, b2, a0, a1] 5).map (·.2) = [b0, b1, b2, a0, a1] := rfl
theorem jcr {b0 b1 b2 a0 a1 : Int} {k : Nat} (hk : k ≤ 5) {x : Nat × Int} (hx : x ∈ prs [b0, b1, b2, a0, a1] k) : x.2 ∈ [b0, b1, b2, a0, a1] := by
 have h1 : x ∈ prs [b0, b1, b2, a0, a1] 5 := by
  simp only [prs, List.mem_map, List.mem_range] at hx ⊢
  obtain ⟨j, hj, e⟩ := hx
  exact ⟨j, by omega, e⟩
 rw [← jb4]
 exact List.mem_map_of_mem h1
set_option maxHeartbeats 4000000 in
theorem jcI (b0 b1 b2 a0 a1 : Int) (w : World) :
  CallsIn Fence.wide 9 Tryz.prog 35 #[.agg (agg5 b0 b1 b2 a0 a1)] w fun e w' => e = .returned (.int .i64 (ja8 b0 b1 b2 a0 a1)) ∧ Below w.heap.size w w' := by
 have h1 : 1 ≤ 9 := by omega
 have hro : Fence.wide.round = none := rfl
 refine callsIn_of_wp_marks Tryz.func35 rfl trivial ?_ hro
 simp only [Tryz.ntmps35, List.size_toArray, List.length_cons, List.length_nil, Nat.reduceAdd, Nat.reduceSub, Array.replicate_succ, Array.replicate_zero, List.push_toArray, List.append_toArray, List.nil_append, List.cons_append]
 gi_wp2_with (refine ⟨trivial, ?_⟩; gi_at_call 19; refine (coefs_in _ b0 b1 b2 a0 a1 _).mono ?_; rintro e w' ⟨rfl, rfl⟩)
 have c0 : (w.alloc (.cells (agg5 b0 b1 b2 a0 a1) 42)).heap.size = w.heap.size + 1 := World.size_alloc _ _
 have c1 := jpb (w.alloc (.cells (agg5 b0 b1 b2 a0 a1) 42)) (.int .i64 0) 27
 rw [c0] at c1
 have hB0 : Below w.heap.size w (((w.alloc (.cells (agg5 b0 b1 b2 a0 a1) 42)).alloc (.cells #[.int .i64 0] 27)).alloc (.cells (agg5 b0 b1 b2 a0 a1) 42)) := (((Below.refl _ w).alloc (Nat.le_refl _) _).alloc (by simp) _).alloc (by simp; omega) _
 obtain ⟨w2, hw2⟩ : ∃ w2, ((w.alloc (.cells (agg5 b0 b1 b2 a0 a1) 42)).alloc (.cells #[.int .i64 0] 27)).alloc (.cells (agg5 b0 b1 b2 a0 a1) 42) = w2 := ⟨_, rfl⟩
 have hs2 : w2.heap.size = w.heap.size + 3 := by rw [← hw2]; simp
 have hc2 : w2.cell? ⟨w.heap.size + 1, 0, none⟩ = some (.int .i64 0) := by rw [← hw2]; exact jmP _ c1.1
 have hf2 : w2.frozen? ⟨w.heap.size + 1, 0, none⟩ = false := by rw [← hw2]; exact jlj _ c1.1 c1.2
 have hh2 : w2.heap[w.heap.size + 1 + 1]? = some (.cells (agg5 b0 b1 b2 a0 a1) 42 (0, 0)) := by
  rw [← hw2]
  have := World.alloc_heap_new ((w.alloc (.cells (agg5 b0 b1 b2 a0 a1) 42)).alloc (.cells #[.int .i64 0] 27)) (.cells (agg5 b0 b1 b2 a0 a1) 42)
  rw [World.size_alloc, c0] at this
  exact this
 rw [hw2] at hB0 ⊢
 refine wpIn_rangeFunc_ownF hro h1 (gf := 43) (lb := #[.pointer (some ⟨w.heap.size + 1 + 1, 0, none⟩)]) rfl trivial (enters_of Tryz.func43 (by kernel_rfl) rfl)
  (α := Nat × Int) (encs := fun x => #[.int .i64 (x.1 : Int), .int .i64 x.2]) (Kp := KpC w2.heap.size) (S := fun ys => ys = prs [b0, b1, b2, a0, a1] 5) (Sp := fun pre => ∃ k, k ≤ 5 ∧ pre = prs [b0, b1, b2, a0, a1] k) (N := 5) (w0 := w2)
  (fun l J Jx W hW hJ hJx hY h0 => jgx _ l (w.heap.size + 1 + 1) (KpC w2.heap.size) (fun _ k => w2.heap.size ≤ k) (fun h hk => ⟨hk, fun o ho hc => h.same _ o hk ho hc⟩) (fun _ h => h) b0 b1 b2 a0 a1 J Jx (fun pre x W hp hl _ => hY pre x W hp hl) W (fun _ g _ hg _ => Nat.le_trans hW.size hg) hJ ((hW.block _ (by omega)).trans hh2) h0) kpc_t kpc_b (Below.refl _ _) (fun _ => rfl)
  (fun pre W => ((∀ y ∈ pre, ja6 y.2 = true) ∧ W.cell? ⟨w.heap.size + 1, 0, none⟩ = some (.int .i64 0) ∧ W.frozen? ⟨w.heap.size + 1, 0, none⟩ = false) ∧ Below w.heap.size w W)
  (fun c pre W => (c = .ret ∧ (∃ y ∈ pre, ja6 y.2 = false) ∧ W.cell? ⟨w.heap.size + 1, 0, none⟩ = some (.int .i64 2)) ∧ Below w.heap.size w W)
  (OwnFrom.and (Own.from (fun s A B row hs hg hr => ⟨hs.1, cell_kept hs.2.1 hg hr, (frozen_kept hs.2.1 hg hr).trans hs.2.2⟩) _) (ownFrom_below (Nat.le_refl _) (by omega)))
  (fun c => OwnFrom.and (Own.from (fun s A B row hs hg hr => ⟨hs.1, hs.2.1, cell_kept hs.2.2 hg hr⟩) _) (ownFrom_below (Nat.le_refl _) (by omega)))
  ⟨⟨by simp, hc2, hf2⟩, hB0⟩
  (fun x => { tmps := #[Value.agg (agg5 b0 b1 b2 a0 a1), Value.pointer (some { block := w.heap.size, off := 0 }), Value.pointer (some { block := w.heap.size + 1, off := 0 }), undef, .int .i64 x.2, Value.agg (agg5 b0 b1 b2 a0 a1), .func (.func 43) #[] #[.pointer (some ⟨w.heap.size + 1 + 1, 0, none⟩)], .int .i64 (x.1 : Int), .int .i64 x.2, undef, undef, undef], defers := [] }) ?assign ?body ?done ?stop
 case assign =>
  intro l x W K hK
  gi_wp2
  exact hK
 case body =>
  rintro l pre x W ⟨⟨hp, hcr, hfr⟩, hB⟩ _
  have hlt : w.heap.size + 1 < W.heap.size := World.block_lt_of_cell? W ⟨w.heap.size + 1, 0, none⟩ hcr
  gi_wp2_with (refine ⟨trivial, ?_⟩; gi_at_call 55; refine (CallsIn.inRound l (callsIn_wide.2 (jmm x.2 W))).mono ?_; rintro e w' ⟨rfl, hBw⟩; have hcw := (hBw.cell (p := ⟨w.heap.size + 1, 0, none⟩) hlt).trans hcr; have hfw := (hBw.frozen (p := ⟨w.heap.size + 1, 0, none⟩) hlt).trans hfr)
  ·rename_i hx
   have hB' : Below w.heap.size w w' := hB.trans (hBw.mono (by omega))
   exact ⟨(jiB hBw).trans (KeepsOthers.setCell _ _ _), ⟨rfl, ⟨x, List.mem_append.2 (.inr (by simp)), by simpa using hx⟩, World.cell?_setCell_same' _ _ _ (by rw [hcw]; rfl)⟩, hB'.setCell (p := ⟨w.heap.size + 1, 0, none⟩) (by simp) _⟩
  ·rename_i hx
   have hB' : Below w.heap.size w w' := hB.trans (hBw.mono (by omega))
   exact ⟨jiB hBw, jpc hBw, ⟨fun y hy => (List.mem_append.1 hy).elim (hp y) (fun e => by simp at e; subst e; simpa using hx), hcw, hfw⟩, hB'⟩
 case done =>
  rintro D ys W hD rfl ⟨⟨hne, hcr, hfr⟩, hB⟩ hK
  gi_wp2
  have hK' := (KeepsOthers.setCell W ⟨w.heap.size + 1, 0, none⟩ (.int .i64 0)).same D _ hK rfl
  refine ⟨by simp, .inl ⟨_, _, rfl, run_takeDeferred hK', ?_⟩⟩
  have hc5 := cell_kept (World.cell?_setCell_same' W ⟨w.heap.size + 1, 0, none⟩ (.int .i64 0) (by rw [hcr]; rfl)) (grownBy_putObj' _ D (.deferred none)) (fun r e => by cases e; exact ⟨_, hK', rfl⟩)
  have hall : ja8 b0 b1 b2 a0 a1 = 0 := by
   unfold ja8
   rw [if_pos]
   rw [← jb4, List.all_map]
   exact List.all_eq_true.2 fun y hy => hne y hy
  refine ⟨.int .i64 0, ?_, by rw [hall], (hB.setCell (p := ⟨w.heap.size + 1, 0, none⟩) (by simp) _).trans (belowK_b (w := w) (Nat.le_refl _) _ D _ _ (by omega) hK' rfl rfl)⟩
  simp [results, Tryz.f35, go_sem, hc5]
 case stop =>
  rintro D c pre W hD ⟨k, hk, rfl⟩ ⟨⟨rfl, ⟨y, hy, hpy⟩, hcr⟩, hB⟩ hK
  gi_wp2
  refine ⟨by simp, .inl ⟨_, _, rfl, run_takeDeferred hK, ?_⟩⟩
  have hc5 := cell_kept hcr (grownBy_putObj' _ D (.deferred none)) (fun r e => by cases e; exact ⟨_, hK, rfl⟩)
  have hall : ja8 b0 b1 b2 a0 a1 = 2 := by
   unfold ja8
   rw [if_neg]
   intro h
   have := List.all_eq_true.1 h y.2 (jcr hk hy)
   rw [hpy] at this
   cases this
  refine ⟨.int .i64 2, ?_, by rw [hall], hB.trans (belowK_b (w := w) (Nat.le_refl _) W D _ _ (by omega) hK rfl rfl)⟩
  simp [results, Tryz.f35, go_sem, hc5]
theorem jqV {ρ : Env} (w : World) {args : List V} {as_ : List A} (has : jcR [] args = some as_) : (ja5 0 as_).map (V.val fun i => (args[i]?.map (V.val ρ)).getD undef) = args.map (V.val ρ) :=
 (jfg (ρ := ρ) (B := fun _ => False) (nx := 0) (hp := []) (w := w) ⟨(fun _ _ h => by cases h), (fun _ _ _ _ _ h => by cases h), jgv⟩ args _ 0 (fun i => (args[i]?.map (V.val ρ)).getD undef) has (fun i v hv => by simp [hv])).1
end Go.Sx06u
end

section
namespace Go.Sx
def jpd : List Int := [1, 10, 100, 1000, 10000, 100000, 1000000, 10000000, 100000000, 1000000000, 10000000000, 100000000000, 1000000000000, 10000000000000, 100000000000000, 1000000000000000, 10000000000000000, 100000000000000000, 1000000000000000000, 10000000000000000000]
def tabZ : Nat → Option Cont
 | 2 => some (.ints .u64 jpd)
 | _ => none
def joa : Nat → Option (Value → Prop)
 | 3 => some fun v => ∃ m, v = .int .i64 m
 | 4 => some fun v => v = .nilIface ∨ ∃ te pe, v = .iface te pe
 | 5 => some fun v => v = .nilIface ∨ ∃ te pe, v = .iface te pe
 | _ => none
instance globs : Globs := { mv := true, tab := tabZ, held := joa }
end Go.Sx
end

section
namespace Go.Sx06
open Go Go.Proofs Go.RowKit Go.Sx
theorem jaV {p : Prop} : Ob p ↔ p := ⟨fun h => h.h, fun h => ⟨h⟩⟩
theorem jbn {b : Bool} {p q : Prop} : Br b p q ↔ (b = true → p) ∧ (b = false → q) := by
 cases b <;> simp [Br]
theorem mixed : Tryz.prog.follows .mixedOrders = true := by kernel_rfl
abbrev jaI (fn : Func) (sp : jaa) (loops : Nat → St → Option LI) (fuel : Nat) (as_ : List A) (rs : List RV) : Prop :=
 sx Tryz.prog sp fn.ntmps as_.length fuel (fun _ => loops) (jcx Tryz.prog sp fn.ntmps) (jai fn) 0 [] ⟨jbU 0 (ja5 0 as_), jbz 0 as_, as_.length⟩ (jdT Tryz.prog fn.results.toList fun v hp _ => jjJ rs v hp)
abbrev runE (fn : Func) (sp : jaa) (loops : Nat → St → Option LI) (fuel : Nat) (c0 : C) (ob : O) (as_ : List A) (ob' : O) (rs : List RV) : Prop :=
 sx Tryz.prog sp fn.ntmps 1 fuel (fun _ => loops) (jcx Tryz.prog sp fn.ntmps) (jai fn) 0 [] ⟨jbU 0 (.w (.c c0) :: ja5 1 as_), [(0, ob)], 1⟩ (jdT Tryz.prog fn.results.toList fun v hp _ => jjK ob' rs v hp)
def sp0 : jaa := fun _ => none
theorem jam : jac Tryz.prog sp0 := fun _ _ _ h => by cases h
def jar (f : Nat) (g : List A → Option (Prop × List RV)) (sp : jaa) : jaa := fun k => match Nat.beq k f with
 | true => some (true, jay g)
 | false => sp k
theorem jaw {f : Nat} {g : List A → Option (Prop × List RV)} {sp : jaa} (h : jah Tryz.prog f true (jay g)) (hs : jac Tryz.prog sp) : jac Tryz.prog (jar f g sp) := by
 intro k M S hk
 unfold jar at hk
 split at hk
 ·rename_i e
  have := Nat.eq_of_beq_eq_true e
  subst this
  cases hk
  exact h
 ·exact hs k M S hk
def jgy (f : Nat) (g : C → O → List A → Option (Prop × O × List RV)) (sp : jaa) : jaa := fun k => match Nat.beq k f with
 | true => some (false, jhw g)
 | false => sp k
theorem jkx {f : Nat} {g : C → O → List A → Option (Prop × O × List RV)} {sp : jaa} (h : jah Tryz.prog f false (jhw g)) (hs : jac Tryz.prog sp) : jac Tryz.prog (jgy f g sp) := by
 intro k M S hk
 unfold jgy at hk
 split at hk
 ·rename_i e
  have := Nat.eq_of_beq_eq_true e
  subst this
  cases hk
  exact h
 ·exact hs k M S hk
def jbo : List A → Option (Prop × List RV)
 | [.d (.i .i64 n), .d (.i .i64 lo), .d (.i .i64 hi)] => some (True, [.d (.b (decide (lo ≤ n) && decide (n ≤ hi)))])
 | _ => none
theorem jcT : jah Tryz.prog 32 true (jay jbo) := by
 refine jaF (fn := Tryz.f32) (body := jai Tryz.f32) mixed jam Tryz.func32 (by kernel_rfl) (by kernel_rfl) fun as_ ob rs h ho => ?_
 unfold jbo at h
 split at h
 ·rename_i n lo hi
  cases h
  refine ⟨Nat.le_of_ble_eq_true rfl, 0, fun _ _ _ => none, ?_⟩
  refine Eq.mp (by kernel_rfl : (Br (decide (lo ≤ n)) (Ob True ∧ Ob (decide (n ≤ hi) = (decide (lo ≤ n) && decide (n ≤ hi))) ∧ True) (Ob True ∧ Ob (false = (decide (lo ≤ n) && decide (n ≤ hi))) ∧ True)) = _) ?_
  simp only [jbn, jaV]
  exact ⟨fun h => by simp [h], fun h => by simp [h]⟩
 ·cases h
end Go.Sx06
end

section
namespace Go.Sx06
theorem jmQ {n b : Int} (hb : 0 < b) : (0 ≤ n → 0 ≤ n.tdiv b ∧ n.tdiv b ≤ n) ∧ (n ≤ 0 → n ≤ n.tdiv b ∧ n.tdiv b ≤ 0) := by
 constructor
 ·intro hn
  rw [Int.tdiv_eq_ediv_of_nonneg hn]
  exact ⟨Int.ediv_nonneg hn (by omega), Int.ediv_le_self b hn⟩
 ·intro hn
  have h1 : n = -(-n) := by omega
  rw [h1, Int.neg_tdiv, Int.tdiv_eq_ediv_of_nonneg (by omega : 0 ≤ -n)]
  have h2 := Int.ediv_nonneg (by omega : 0 ≤ -n) (by omega : 0 ≤ b)
  have h3 := Int.ediv_le_self b (by omega : 0 ≤ -n)
  omega
theorem jiC {n b : Int} (hb : 0 < b) : -b < n.tmod b ∧ n.tmod b < b := by
 refine ⟨?_, Int.tmod_lt_of_pos n hb⟩
 have h := Int.tmod_lt_of_pos (-n) hb
 rw [Int.neg_tmod] at h
 omega
theorem jpe {n b : Int} (hb : 0 < b) (h : n.tmod b < 0) : n.tdiv b - 1 = n / b := by
 have h1 := Int.tmod_add_mul_tdiv n b
 have h2 := jiC (n := n) hb
 have h3 : n / b = (n.tdiv b - 1) := by
  apply (Int.ediv_eq_iff_of_pos hb).2
  rw [Int.mul_comm] at h1
  constructor <;> rw [Int.sub_mul] <;> omega
 exact h3.symm
theorem jpf {n b : Int} (hb : 0 < b) (h : ¬ n.tmod b < 0) : n.tdiv b = n / b := by
 have h1 := Int.tmod_add_mul_tdiv n b
 have h2 := jiC (n := n) hb
 have h3 : n / b = n.tdiv b := by
  apply (Int.ediv_eq_iff_of_pos hb).2
  rw [Int.mul_comm] at h1
  constructor <;> omega
 exact h3.symm
theorem jmR {n b : Int} (hb : 0 < b) : (0 ≤ n → 0 ≤ n / b ∧ n / b ≤ n) ∧ (n ≤ 0 → n ≤ n / b ∧ n / b ≤ 0) := by
 constructor
 ·intro hn
  exact ⟨Int.ediv_nonneg hn (by omega), Int.ediv_le_self b hn⟩
 ·intro hn
  have h1 : n * b ≤ n := by
   have h2 := Int.mul_le_mul_of_nonneg_right (show (1 : Int) ≤ b by omega) (show 0 ≤ -n by omega)
   rw [Int.one_mul, Int.mul_neg, Int.mul_comm] at h2
   omega
  refine ⟨Int.le_ediv_of_mul_le hb h1, ?_⟩
  have := Int.ediv_le_ediv hb hn
  simpa using this
end Go.Sx06
end

section
namespace Go.Sx06
open Go Go.Proofs Go.RowKit Go.Sx
open Go.IntKind (wrap)
theorem jrf {l : List Int} {x : Nat} (h : ∀ y ∈ l.take x, y = 0) (hx : x < l.length) (h4 : l.getD x 0 ≠ 0) : (l.find? (fun x => x != 0)).getD 0 = l.getD x 0 := by
 have e : l = l.take x ++ l.drop x := (List.take_append_drop x l).symm
 have e2 : l.drop x = l.getD x 0 :: l.drop (x + 1) := by
  rw [List.drop_eq_getElem_cons hx]
  simp [List.getD, hx]
 have h5 : (l.getD x 0 != 0) = true := by simpa using h4
 generalize l.getD x 0 = v at *
 rw [e, e2, List.find?_append, List.find?_eq_none.2 (fun y hy => by simp [h y hy]), List.find?_cons, h5]
 rfl
def jbV : List A → Option (Prop × List RV)
 | [.d (.i .i64 n), .d (.i .i64 most)] => some (-9223372036854775807 ≤ most ∧ most ≤ 9223372036854775807, [.d (.b (decide (-most ≤ n) && decide (n ≤ most)))])
 | _ => none
theorem ji0 (n most : Int) (ho : -9223372036854775807 ≤ most ∧ most ≤ 9223372036854775807) : jaI Tryz.f31 (jar 32 jbo sp0) (fun _ _ => none) 0 [.d (.i .i64 n), .d (.i .i64 most)] [.d (.b (decide (-most ≤ n) && decide (n ≤ most)))] := by
 refine Eq.mp (by kernel_rfl : (
    Ob True ∧
     Ob True ∧
      Ob
        ((
         decide (IntKind.i64.wrap ((0 : Int) - most) ≤ n) && decide (n ≤ most)) =
         (decide (-most ≤ n) && decide (n ≤ most))) ∧
       True) = _) ?_
 simp only [jaV]
 refine ⟨trivial, trivial, ?_, trivial⟩
 rw [IntWalk.i64_in _ (by omega), Int.zero_sub]
theorem jdX : jah Tryz.prog 31 true (jay jbV) := by
 refine jaF (sp := (jar 32 jbo sp0)) (fn := Tryz.f31) (body := jai Tryz.f31) mixed (jaw jcT jam) Tryz.func31 (by kernel_rfl) (by kernel_rfl) fun as_ ob rs h ho => ?_
 unfold jbV at h
 split at h
 ·rename_i n most
  cases h
  exact ⟨Nat.le_of_ble_eq_true rfl, _, _, ji0 n most ho⟩
 ·cases h
def jib : List A → Option (Prop × List RV)
 | [.d (.i .i64 n)] => some (-9223372036854775807 ≤ n ∧ n ≤ 9223372036854775807, [.d (.i .i64 (max n (-n)))])
 | _ => none
theorem jrg (n : Int) (ho : -9223372036854775807 ≤ n ∧ n ≤ 9223372036854775807) : jaI Tryz.f60 sp0 (fun _ _ => none) 0 [.d (.i .i64 n)] [.d (.i .i64 (max n (-n)))] := by
 refine Eq.mp (by kernel_rfl : (
    Ob True ∧
     Ob ((if IntKind.i64.wrap ((0 : Int) - n) > n then IntKind.i64.wrap ((0 : Int) - n) else n) = max n (-n)) ∧ True) = _) ?_
 simp only [jaV]
 refine ⟨trivial, ?_, trivial⟩
 rw [IntWalk.i64_in _ (by omega)]
 split <;> omega
theorem jnr : jah Tryz.prog 60 true (jay jib) := by
 refine jaF (sp := sp0) (fn := Tryz.f60) (body := jai Tryz.f60) mixed jam Tryz.func60 (by kernel_rfl) (by kernel_rfl) fun as_ ob rs h ho => ?_
 unfold jib at h
 split at h
 ·rename_i n
  cases h
  exact ⟨Nat.le_of_ble_eq_true rfl, _, _, jrg n ho⟩
 ·cases h
def jfV : List A → Option (Prop × List RV)
 | [.d (.i .i64 n), .d (.i .i64 b)] => some (-9223372036854775807 ≤ n ∧ n ≤ 9223372036854775807 ∧ 0 < b ∧ b ≤ 9223372036854775807, [.d (.i .i64 (n / b))])
 | _ => none
theorem jqf (n b : Int) (ho : -9223372036854775807 ≤ n ∧ n ≤ 9223372036854775807 ∧ 0 < b ∧ b ≤ 9223372036854775807) : jaI Tryz.f74 sp0 (fun _ _ => none) 0 [.d (.i .i64 n), .d (.i .i64 b)] [.d (.i .i64 (n / b))] := by
 refine Eq.mp (by kernel_rfl : (
    Ob (b ≠ (0 : Int)) ∧
     Ob (b ≠ (0 : Int)) ∧
      Br (decide (n.tmod b < (0 : Int)))
       (Ob True ∧ Ob (IntKind.i64.wrap (IntKind.i64.wrap (n.tdiv b) - (1 : Int)) = n / b) ∧ True)
       (Ob True ∧ Ob (IntKind.i64.wrap (n.tdiv b) = n / b) ∧ True)) = _) ?_
 simp only [jaV, jbn, decide_eq_true_eq, decide_eq_false_iff_not]
 have hb : 0 < b := ho.2.2.1
 have h1 := jmQ (n := n) hb
 have h2 := jmR (n := n) hb
 refine ⟨by omega, by omega, fun h => ⟨trivial, ?_, trivial⟩, fun h => ⟨trivial, ?_, trivial⟩⟩
 ·rw [IntWalk.i64_in (n.tdiv b) (by omega), jpe hb h, IntWalk.i64_in _ (by omega)]
 ·rw [IntWalk.i64_in (n.tdiv b) (by omega), jpf hb h]
theorem jmn : jah Tryz.prog 74 true (jay jfV) := by
 refine jaF (sp := sp0) (fn := Tryz.f74) (body := jai Tryz.f74) mixed jam Tryz.func74 (by kernel_rfl) (by kernel_rfl) fun as_ ob rs h ho => ?_
 unfold jfV at h
 split at h
 ·rename_i n b
  cases h
  exact ⟨Nat.le_of_ble_eq_true rfl, _, _, jqf n b ho⟩
 ·cases h
def jgz : List A → Option (Prop × List RV)
 | [.d (.i .i64 n), .d (.i .i64 b)] => some (-4611686018427387904 < 2 * n + b ∧ 2 * n + b < 4611686018427387904 ∧ 0 < b ∧ b < 4611686018427387904, [.d (.i .i64 ((2 * n + b) / (2 * b)))])
 | _ => none
theorem job (n b : Int) (ho : -4611686018427387904 < 2 * n + b ∧ 2 * n + b < 4611686018427387904 ∧ 0 < b ∧ b < 4611686018427387904) : jaI Tryz.f73 (jar 74 jfV sp0) (fun _ _ => none) 0 [.d (.i .i64 n), .d (.i .i64 b)] [.d (.i .i64 ((2 * n + b) / (2 * b)))] := by
 refine Eq.mp (by kernel_rfl : (
    Ob
      ((
       -9223372036854775807 : Int) ≤ IntKind.i64.wrap (IntKind.i64.wrap ((2 : Int) * n) + b) ∧
       IntKind.i64.wrap (IntKind.i64.wrap ((2 : Int) * n) + b) ≤ (9223372036854775807 : Int) ∧
        (0 : Int) < IntKind.i64.wrap ((2 : Int) * b) ∧
         IntKind.i64.wrap ((2 : Int) * b) ≤ (9223372036854775807 : Int)) ∧
     Ob True ∧
      Ob
        (IntKind.i64.wrap (IntKind.i64.wrap ((2 : Int) * n) + b) / IntKind.i64.wrap ((2 : Int) * b) =
         ((2 : Int) * n + b) / ((2 : Int) * b)) ∧
       True) = _) ?_
 simp only [jaV]
 have h1 : IntKind.i64.wrap (IntKind.i64.wrap (2 * n) + b) = 2 * n + b := by simp only [IntKind.wrap_i64]; omega
 have h2 : IntKind.i64.wrap (2 * b) = 2 * b := by simp only [IntKind.wrap_i64]; omega
 rw [h1, h2]
 exact ⟨by omega, trivial, rfl, trivial⟩
theorem joc : jah Tryz.prog 73 true (jay jgz) := by
 refine jaF (sp := (jar 74 jfV sp0)) (fn := Tryz.f73) (body := jai Tryz.f73) mixed (jaw jmn jam) Tryz.func73 (by kernel_rfl) (by kernel_rfl) fun as_ ob rs h ho => ?_
 unfold jgz at h
 split at h
 ·rename_i n b
  cases h
  exact ⟨Nat.le_of_ble_eq_true rfl, _, _, job n b ho⟩
 ·cases h
def jds : List A → Option (Prop × List RV)
 | [.d (.b b), .d (.i .i64 x)] => some (True, [.d (.i .i64 (if b = true then 0 else x))])
 | _ => none
theorem jpg (b : Bool) (x : Int) : jaI Tryz.f30 sp0 (fun _ _ => none) 0 [.d (.b b), .d (.i .i64 x)] [.d (.i .i64 (if b = true then 0 else x))] := by
 refine Eq.mp (by kernel_rfl : (
    Br b (Ob True ∧ Ob ((0 : Int) = if b = true then (0 : Int) else x) ∧ True)
     (Ob True ∧ Ob (x = if b = true then (0 : Int) else x) ∧ True)) = _) ?_
 cases b <;> exact ⟨⟨trivial⟩, ⟨rfl⟩, trivial⟩
theorem jhD : jah Tryz.prog 30 true (jay jds) := by
 refine jaF (sp := sp0) (fn := Tryz.f30) (body := jai Tryz.f30) mixed jam Tryz.func30 (by kernel_rfl) (by kernel_rfl) fun as_ ob rs h ho => ?_
 unfold jds at h
 split at h
 ·rename_i b x
  cases h
  exact ⟨Nat.le_of_ble_eq_true rfl, _, _, jpg b x⟩
 ·cases h
def jfU : List A → Option (Prop × List RV)
 | [.d (.i .i64 n)] => some (True, [.d (.b (decide (-32768 ≤ n) && decide (n ≤ 32768)))])
 | _ => none
theorem jhC (n : Int) : jaI Tryz.f55 (jar 31 jbV sp0) (fun _ _ => none) 0 [.d (.i .i64 n)] [.d (.b (decide (-32768 ≤ n) && decide (n ≤ 32768)))] := by
 refine Eq.mp (by kernel_rfl : (
    Ob ((-9223372036854775807 : Int) ≤ (32768 : Int) ∧ (32768 : Int) ≤ (9223372036854775807 : Int)) ∧
     Ob True ∧
      Ob
        ((
         decide ((-32768 : Int) ≤ n) && decide (n ≤ (32768 : Int))) =
         (decide ((-32768 : Int) ≤ n) && decide (n ≤ (32768 : Int)))) ∧
       True) = _) ?_
 exact ⟨⟨by decide⟩, ⟨trivial⟩, ⟨rfl⟩, trivial⟩
theorem jkZ : jah Tryz.prog 55 true (jay jfU) := by
 refine jaF (sp := (jar 31 jbV sp0)) (fn := Tryz.f55) (body := jai Tryz.f55) mixed (jaw jdX jam) Tryz.func55 (by kernel_rfl) (by kernel_rfl) fun as_ ob rs h ho => ?_
 unfold jfU at h
 split at h
 ·rename_i n
  cases h
  exact ⟨Nat.le_of_ble_eq_true rfl, _, _, jhC n⟩
 ·cases h
def jfh : List A → Option (Prop × List RV)
 | [.d (.i .i64 n)] => some (True, [.d (.b (decide (0 ≤ n) && decide (n ≤ 32767)))])
 | _ => none
theorem jmS (n : Int) : jaI Tryz.f56 (jar 32 jbo sp0) (fun _ _ => none) 0 [.d (.i .i64 n)] [.d (.b (decide (0 ≤ n) && decide (n ≤ 32767)))] := by
 refine Eq.mp (by kernel_rfl : (
    Ob True ∧
     Ob True ∧
      Ob
        ((
         decide ((0 : Int) ≤ n) && decide (n ≤ (32767 : Int))) =
         (decide ((0 : Int) ≤ n) && decide (n ≤ (32767 : Int)))) ∧
       True) = _) ?_
 exact ⟨⟨trivial⟩, ⟨trivial⟩, ⟨rfl⟩, trivial⟩
theorem jmT : jah Tryz.prog 56 true (jay jfh) := by
 refine jaF (sp := (jar 32 jbo sp0)) (fn := Tryz.f56) (body := jai Tryz.f56) mixed (jaw jcT jam) Tryz.func56 (by kernel_rfl) (by kernel_rfl) fun as_ ob rs h ho => ?_
 unfold jfh at h
 split at h
 ·rename_i n
  cases h
  exact ⟨Nat.le_of_ble_eq_true rfl, _, _, jmS n⟩
 ·cases h
def gFirst : List A → Option (Prop × List RV)
 | [.r (.ints .i64 l)] => some (l.length ≤ 1000000, [.d (.i .i64 ((l.find? (fun x => x != 0)).getD 0))])
 | _ => none
theorem jqg (l : List Int) (ho : l.length ≤ 1000000) : jaI Tryz.f29 sp0 (fun id _ => match id with | 0 => some ⟨Nat, fun i => ⟨[(7, vi .i64 i), (6, vi .i64 l.length), (5, .w (.c (.o 0))), (2, vi .i64 0), (0, .w (.c (.o 0)))], [(0, .ext (.ints .i64 l))], 1⟩, fun i => i ≤ l.length ∧ ∀ x ∈ l.take i, x = 0, fun i => l.length - i⟩ | _ => none) 0 [.r (.ints .i64 l)] [.d (.i .i64 ((l.find? (fun x => x != 0)).getD 0))] := by
 refine Eq.mp (by kernel_rfl : (
    (∃ x,
      Ob (x ≤ l.length ∧ ∀ (x_1 : Int), x_1 ∈ List.take x l → x_1 = (0 : Int)) ∧
       Ob ((0 : Int) = (↑x : Int)) ∧
        Ob ((↑l.length : Int) = (↑l.length : Int)) ∧ Ob ((0 : Int) = (0 : Int)) ∧ Ob (l = l) ∧ True) ∧
     ∀ (x : Nat),
      (x ≤ l.length ∧ ∀ (x_1 : Int), x_1 ∈ List.take x l → x_1 = (0 : Int)) →
       Br (decide ((↑x : Int) < (↑l.length : Int)))
        (Ob ((0 : Int) ≤ (↑x : Int) ∧ (↑x : Int) < (↑l.length : Int)) ∧
         Ob ((↑x : Int).toNat < l.length) ∧
          Br (l.getD (↑x : Int).toNat (0 : Int) != (0 : Int))
           (Ob True ∧
            Ob (l.getD (↑x : Int).toNat (0 : Int) = (List.find? (fun x => x != (0 : Int)) l).getD (0 : Int)) ∧
             True)
           (∃ x',
            Ob (x' ≤ l.length ∧ ∀ (x : Int), x ∈ List.take x' l → x = (0 : Int)) ∧
             Ob (l.length - x' < l.length - x) ∧
              Ob (IntKind.i64.wrap ((↑x : Int) + (1 : Int)) = (↑x' : Int)) ∧
               Ob ((↑l.length : Int) = (↑l.length : Int)) ∧ Ob ((0 : Int) = (0 : Int)) ∧ Ob (l = l) ∧ True))
        (Ob True ∧ Ob ((0 : Int) = (List.find? (fun x => x != (0 : Int)) l).getD (0 : Int)) ∧ True)) = _) ?_
 simp only [jaV, jbn, decide_eq_true_eq, decide_eq_false_iff_not, true_and, and_true]
 refine ⟨⟨0, ⟨by omega, fun x hx => by simp at hx⟩, rfl⟩, fun x ⟨h1, h2⟩ => ⟨fun h3 => ⟨by omega, by omega, fun h4 => ?_, fun h4 => ⟨x + 1, ⟨by omega, ?_⟩, by omega, ?_⟩⟩, fun h3 => ?_⟩⟩
 ·exact (jrf h2 (by omega) (by simpa using h4)).symm
 ·intro y hy
  rw [List.take_succ_eq_append_getElem (by omega)] at hy
  rcases List.mem_append.1 hy with hy | hy
  ·exact h2 y hy
  ·simp only [List.mem_singleton] at hy
   subst hy
   simpa [List.getD, show x < l.length by omega] using h4
 ·rw [IntWalk.i64_in _ (by omega)]
  omega
 ·have e : x = l.length := by omega
  rw [e, List.take_length] at h2
  rw [List.find?_eq_none.2 (fun y hy => by simp [h2 y hy])]
  rfl
theorem first_ok : jah Tryz.prog 29 true (jay gFirst) := by
 refine jaF (sp := sp0) (fn := Tryz.f29) (body := jai Tryz.f29) mixed jam Tryz.func29 (by kernel_rfl) (by kernel_rfl) fun as_ ob rs h ho => ?_
 unfold gFirst at h
 split at h
 ·rename_i l
  cases h
  exact ⟨Nat.le_of_ble_eq_true rfl, _, _, jqg l ho⟩
 ·cases h
end Go.Sx06
end

section
namespace Go.Sx06
open Go Go.Proofs Go.RowKit Go.Shelf Go.Sx
open Go.Sx06u (ja6 ja8 agg5 jcI jqV)
def jbJ : List A → Option (Prop × List RV)
 | [.s [.i .i64 b0, .i .i64 b1, .i .i64 b2, .i .i64 a0, .i .i64 a1]] => some (True, [.d (.i .i64 (ja8 b0 b1 b2 a0 a1))])
 | _ => none
theorem jlk {f : Nat} {fn : Func} {body : Code} {g : List A → Option (Prop × List RV)} (hf : Tryz.prog.funcs[f]? = some fn) (hb : fn.body = some body) (hn : (fn.name == "runtime.NumGoroutine") = false)
  (h : ∀ (args : List V) (as_ : List A) ob rs (ρ : Env) (w : World), jcR [] args = some as_ → g as_ = some (ob, rs) → ob → Calls Tryz.prog f (args.map (V.val ρ)).toArray w fun e w' => e = .returned ((jbT (rvW 0 rs)).val ρ) ∧ Below w.heap.size w w')
  (hd : ∀ as_ ob rs, g as_ = some (ob, rs) → (∀ a ∈ as_, ∀ c, a ≠ .r c) ∧ ∀ r ∈ rs, ∀ t c, r ≠ .row t c) : jah Tryz.prog f true (jay g) := by
 refine .inl ⟨jcA hf hb hn, fun ρ B w args hp nx r hS hob hlt hh hB => ?_⟩
 unfold jay at hS
 split at hS
 ·rename_i as_ has
  split at hS
  ·rename_i ob rs hg
   cases hS
   obtain ⟨h1, h2⟩ := hd as_ ob rs hg
   have has' : ∀ (args : List V) (as_ : List A), jcR hp args = some as_ → (∀ a ∈ as_, ∀ c, a ≠ .r c) → jcR [] args = some as_ := by
    intro args
    induction args with
    | nil => intro as_ h _; exact h
    | cons v vs ih =>
     intro as_ h hno
     simp only [jcR] at h ⊢
     split at h
     ·rename_i a r ha hr
      cases h
      have e1 : toA [] v = some a := by
       unfold toA at ha ⊢
       split at ha
       ·exact ha
       ·exact ha
       ·exact ha
       ·split at ha
        ·split at ha
         ·cases ha
         ·cases ha
          exact absurd rfl (hno _ List.mem_cons_self _)
        ·cases ha
       ·cases ha
      rw [e1, ih r hr (fun a ha => hno a (List.mem_cons_of_mem _ ha))]
     ·cases h
   have hrv : ∀ (rs : List RV) (n m : Nat) (hp : Hp), (∀ r ∈ rs, ∀ t c, r ≠ .row t c) → rvW n rs = rvW m rs ∧ jet n rs hp = hp ∧ jc0 n rs = n ∧ ∀ x ∈ rvW n rs, W.lt n x := by
    intro rs
    induction rs with
    | nil => exact fun n m hp _ => ⟨rfl, rfl, rfl, fun _ h => by cases h⟩
    | cons r rs ih =>
     intro n m hp hno
     have ih := ih n m hp (fun r hr => hno r (List.mem_cons_of_mem _ hr))
     cases r with
     | d x => exact ⟨by simp only [rvW, ih.1], ih.2.1, ih.2.2.1, fun u hu => by
       rcases List.mem_cons.1 hu with rfl | hu
       ·trivial
       ·exact ih.2.2.2 u hu⟩
     | s l => exact ⟨by simp only [rvW, ih.1], ih.2.1, ih.2.2.1, fun u hu => by
       rcases List.mem_cons.1 hu with rfl | hu
       ·intro y hy
        obtain ⟨z, _, rfl⟩ := List.mem_map.1 hy
        trivial
       ·exact ih.2.2.2 u hu⟩
     | row t c => exact absurd rfl (hno _ List.mem_cons_self t c)
   refine (h args as_ ob rs ρ w (has' args as_ has h1) hg hob).mono ?_
   rintro e w' ⟨rfl, hbl⟩
   obtain ⟨e1, e2, e3, e4⟩ := hrv rs nx 0 hp h2
   refine ⟨ρ, by rw [← e1]; rfl, jaf.refl _ _, (?_ : V.lt (jc0 nx rs) (jbT (rvW nx rs))), (?_ : nx ≤ jc0 nx rs), (?_ : HRel ρ B (jet nx rs hp) (jc0 nx rs) _), jbK hbl hB, fun _ => hbl, fun _ h o k hle hf _ => ?_⟩
   ·rw [e3]
    exact jeJ e4
   ·rw [e3]
    exact Nat.le_refl _
   ·rw [e2, e3]
    exact hh.below hbl hB
   ·have hf : find (jet nx rs hp) h = some o := hf
    rw [e2] at hf
    have := (hh.ok h o hf).1
    omega
  ·cases hS
 ·cases hS
theorem jfi : jah Tryz.prog 35 true (jay jbJ) := by
 refine jlk (fn := Tryz.f35) (body := jai Tryz.f35) Tryz.func35 (by kernel_rfl) (by kernel_rfl) ?_ ?_
 ·intro args as_ ob rs ρ w has hg ho
  unfold jbJ at hg
  split at hg
  ·rename_i b0 b1 b2 a0 a1
   cases hg
   have e : (args.map (V.val ρ)).toArray = #[.agg (agg5 b0 b1 b2 a0 a1)] := by
    have hto := jqV (ρ := ρ) w has
    rw [← hto]
    rfl
   rw [e]
   refine (callsIn_wide.1 (jcI b0 b1 b2 a0 a1 w)).mono ?_
   rintro e w' ⟨rfl, h⟩
   exact ⟨rfl, h⟩
  ·cases hg
 ·intro as_ ob rs hg
  unfold jbJ at hg
  split at hg
  ·cases hg
   refine ⟨fun a ha c => ?_, fun r hr t c => ?_⟩
   ·simp only [List.mem_singleton] at ha; subst ha; exact fun h => by cases h
   ·simp only [List.mem_singleton] at hr; subst hr; exact fun h => by cases h
  ·cases hg
end Go.Sx06
end

section
namespace Go.Sx06
open Go.Sx06u (ja6 ja8 agg5 jcI jb4 jcr)
open Go Go.Proofs Go.RowKit Go.Sx
def secB (b0 b1 b2 a0 a1 : Int) : Bool := [b0, b1, b2, a0, a1].all ja6
def jcZ (a0 a1 : Int) : Int := 16384 - max a0 (-a0) - max a1 (-a1)
def inS (b0 b1 b2 : Int) : Int := max b0 (-b0) + max b1 (-b1) + max b2 (-b2)
def jdF (b0 b1 b2 a0 a1 most : Int) : Int := if jcZ a0 a1 ≤ 0 then 0 else min 32767 ((inS b0 b1 b2 * most + 8192) / jcZ a0 a1)
theorem wr {n : Int} (h1 : -9223372036854775808 ≤ n) (h2 : n ≤ 9223372036854775807) : IntKind.i64.wrap n = n := IntWalk.i64_in n ⟨h1, h2⟩
theorem jph {n : Int} : ja6 n = true ↔ -32768 ≤ n ∧ n ≤ 32768 := by simp [ja6]
theorem ji1 {b0 b1 b2 a0 a1 : Int} : secB b0 b1 b2 a0 a1 = true ↔ (-32768 ≤ b0 ∧ b0 ≤ 32768) ∧ (-32768 ≤ b1 ∧ b1 ≤ 32768) ∧ (-32768 ≤ b2 ∧ b2 ≤ 32768) ∧ (-32768 ≤ a0 ∧ a0 ≤ 32768) ∧ (-32768 ≤ a1 ∧ a1 ≤ 32768) := by
 simp [secB, jph]
def jjR : List A → Option (Prop × List RV)
 | [.s [.i .i64 b0, .i .i64 b1, .i .i64 b2, .i .i64 a0, .i .i64 a1], .d (.i .i64 most)] => some (secB b0 b1 b2 a0 a1 = true ∧ 0 ≤ most ∧ most ≤ 32767, [.d (.i .i64 (jdF b0 b1 b2 a0 a1 most)), .d (.b (decide (0 < jcZ a0 a1)))])
 | _ => none
theorem jqh (b0 b1 b2 a0 a1 most : Int) (ho : secB b0 b1 b2 a0 a1 = true ∧ 0 ≤ most ∧ most ≤ 32767) : jaI Tryz.f57 (jar 60 jib (jar 74 jfV sp0)) (fun _ _ => none) 0 [.s [.i .i64 b0, .i .i64 b1, .i .i64 b2, .i .i64 a0, .i .i64 a1], .d (.i .i64 most)] [.d (.i .i64 (jdF b0 b1 b2 a0 a1 most)), .d (.b (decide (0 < jcZ a0 a1)))] := by
 refine Eq.mp (by kernel_rfl : (
    Ob ((0 : Int) ≤ (0 : Int) ∧ (0 : Int) < (↑(2 : Nat) : Int)) ∧
     Ob ((-9223372036854775807 : Int) ≤ a0 ∧ a0 ≤ (9223372036854775807 : Int)) ∧
      Ob ((0 : Int) ≤ (1 : Int) ∧ (1 : Int) < (↑(2 : Nat) : Int)) ∧
       Ob ((-9223372036854775807 : Int) ≤ a1 ∧ a1 ≤ (9223372036854775807 : Int)) ∧
        Br (decide (IntKind.i64.wrap (IntKind.i64.wrap ((16384 : Int) - max a0 (-a0)) - max a1 (-a1)) ≤ (0 : Int)))
         (Ob True ∧
          Ob True ∧
           Ob ((0 : Int) = jdF b0 b1 b2 a0 a1 most) ∧ Ob (false = decide ((0 : Int) < jcZ a0 a1)) ∧ True)
         (Ob ((0 : Int) ≤ (0 : Int) ∧ (0 : Int) < (↑(3 : Nat) : Int)) ∧
          Ob ((-9223372036854775807 : Int) ≤ b0 ∧ b0 ≤ (9223372036854775807 : Int)) ∧
           Ob ((0 : Int) ≤ (1 : Int) ∧ (1 : Int) < (↑(3 : Nat) : Int)) ∧
            Ob ((-9223372036854775807 : Int) ≤ b1 ∧ b1 ≤ (9223372036854775807 : Int)) ∧
             Ob ((0 : Int) ≤ (2 : Int) ∧ (2 : Int) < (↑(3 : Nat) : Int)) ∧
              Ob ((-9223372036854775807 : Int) ≤ b2 ∧ b2 ≤ (9223372036854775807 : Int)) ∧
               Ob
                 ((-9223372036854775807 : Int) ≤
                   IntKind.i64.wrap
                    (IntKind.i64.wrap
                      (IntKind.i64.wrap
                        (IntKind.i64.wrap (max b0 (-b0) + max b1 (-b1)) + max b2 (-b2)) *
                       most) +
                     (8192 : Int)) ∧
                  IntKind.i64.wrap
                     (IntKind.i64.wrap
                       (IntKind.i64.wrap
                         (IntKind.i64.wrap (max b0 (-b0) + max b1 (-b1)) + max b2 (-b2)) *
                        most) +
                      (8192 : Int)) ≤
                    (9223372036854775807 : Int) ∧
                   (0 : Int) <
                     IntKind.i64.wrap (IntKind.i64.wrap ((16384 : Int) - max a0 (-a0)) - max a1 (-a1)) ∧
                    IntKind.i64.wrap (IntKind.i64.wrap ((16384 : Int) - max a0 (-a0)) - max a1 (-a1)) ≤
                     (9223372036854775807 : Int)) ∧
                Ob True ∧
                 Ob True ∧
                  Ob
                    ((if
                       IntKind.i64.wrap
                          (IntKind.i64.wrap
                            (IntKind.i64.wrap
                              (IntKind.i64.wrap (max b0 (-b0) + max b1 (-b1)) + max b2 (-b2)) *
                             most) +
                           (8192 : Int)) /
                         IntKind.i64.wrap
                          (IntKind.i64.wrap ((16384 : Int) - max a0 (-a0)) - max a1 (-a1)) <
                        (32767 : Int) then
                      IntKind.i64.wrap
                        (IntKind.i64.wrap
                          (IntKind.i64.wrap
                            (IntKind.i64.wrap (max b0 (-b0) + max b1 (-b1)) + max b2 (-b2)) *
                           most) +
                         (8192 : Int)) /
                       IntKind.i64.wrap
                        (IntKind.i64.wrap ((16384 : Int) - max a0 (-a0)) - max a1 (-a1))
                     else (32767 : Int)) =
                     jdF b0 b1 b2 a0 a1 most) ∧
                   Ob (true = decide ((0 : Int) < jcZ a0 a1)) ∧ True)) = _) ?_
 obtain ⟨hs, hm0, hm1⟩ := ho
 have h := ji1.1 hs
 have e1 : IntKind.i64.wrap (IntKind.i64.wrap (16384 - max a0 (-a0)) - max a1 (-a1)) = jcZ a0 a1 := by unfold jcZ; rw [wr (n := 16384 - max a0 (-a0)) (by omega) (by omega), wr (by omega) (by omega)]
 have e2 : IntKind.i64.wrap (IntKind.i64.wrap (max b0 (-b0) + max b1 (-b1)) + max b2 (-b2)) = inS b0 b1 b2 := by unfold inS; rw [wr (n := max b0 (-b0) + max b1 (-b1)) (by omega) (by omega), wr (by omega) (by omega)]
 have i1 : 0 ≤ inS b0 b1 b2 ∧ inS b0 b1 b2 ≤ 98304 := by unfold inS; omega
 have i2 : jcZ a0 a1 ≤ 16384 := by unfold jcZ; omega
 have i3 : 0 ≤ inS b0 b1 b2 * most ∧ inS b0 b1 b2 * most ≤ 98304 * 32767 := ⟨Int.mul_nonneg i1.1 hm0, Int.mul_le_mul i1.2 hm1 hm0 (by omega)⟩
 have e3 : IntKind.i64.wrap (IntKind.i64.wrap (inS b0 b1 b2 * most) + 8192) = inS b0 b1 b2 * most + 8192 := by rw [wr (n := inS b0 b1 b2 * most) (by omega) (by omega), wr (by omega) (by omega)]
 simp only [e1, e2, e3, jaV, jbn, decide_eq_true_eq, decide_eq_false_iff_not, true_and, and_true]
 refine ⟨by decide, by omega, by decide, by omega, fun h1 => ⟨?_, ?_⟩, fun h1 => ⟨by decide, by omega, by decide, by omega, by decide, by omega, by omega, ?_, ?_⟩⟩
 ·unfold jdF; rw [if_pos h1]
 ·symm; simpa using h1
 ·unfold jdF
  rw [if_neg h1]
  split <;> omega
 ·symm; simpa using h1
theorem jqi : jah Tryz.prog 57 true (jay jjR) := by
 refine jaF (sp := (jar 60 jib (jar 74 jfV sp0))) (fn := Tryz.f57) (body := jai Tryz.f57) mixed (jaw jnr (jaw jmn jam)) Tryz.func57 (by kernel_rfl) (by kernel_rfl) fun as_ ob rs h ho => ?_
 unfold jjR at h
 split at h
 ·rename_i b0 b1 b2 a0 a1 most
  cases h
  exact ⟨Nat.le_of_ble_eq_true rfl, _, _, jqh b0 b1 b2 a0 a1 most ho⟩
 ·cases h
def jjS : List A → Option (Prop × List RV)
 | [.r (.ints .i64 l)] => some (0 < l.length ∧ l.length ≤ 1000000 ∧ ∀ x ∈ l, -4611686018427387904 ≤ x ∧ x ≤ 4611686018427387904, [.d (.b (decide (max (l.getD (l.length - 1) 0) (-(l.getD (l.length - 1) 0)) < max (l.getD 0 0) (-(l.getD 0 0)))))])
 | _ => none
theorem jqj (l : List Int) (ho : 0 < l.length ∧ l.length ≤ 1000000 ∧ ∀ x ∈ l, -4611686018427387904 ≤ x ∧ x ≤ 4611686018427387904) : jaI Tryz.f38 (jar 60 jib sp0) (fun _ _ => none) 0 [.r (.ints .i64 l)] [.d (.b (decide (max (l.getD (l.length - 1) 0) (-(l.getD (l.length - 1) 0)) < max (l.getD 0 0) (-(l.getD 0 0)))))] := by
 refine Eq.mp (by kernel_rfl : (
    Ob ((0 : Int) ≤ (0 : Int) ∧ (0 : Int) < (↑l.length : Int)) ∧
     Ob ((0 : Nat) < l.length) ∧
      Ob
        ((
         -9223372036854775807 : Int) ≤ l.getD (0 : Nat) (0 : Int) ∧
         l.getD (0 : Nat) (0 : Int) ≤ (9223372036854775807 : Int)) ∧
       Ob
         ((
          0 : Int) ≤ IntKind.i64.wrap ((↑l.length : Int) - (1 : Int)) ∧
          IntKind.i64.wrap ((↑l.length : Int) - (1 : Int)) < (↑l.length : Int)) ∧
        Ob ((IntKind.i64.wrap ((↑l.length : Int) - (1 : Int))).toNat < l.length) ∧
         Ob
           ((-9223372036854775807 : Int) ≤
             l.getD (IntKind.i64.wrap ((↑l.length : Int) - (1 : Int))).toNat (0 : Int) ∧
            l.getD (IntKind.i64.wrap ((↑l.length : Int) - (1 : Int))).toNat (0 : Int) ≤
             (9223372036854775807 : Int)) ∧
          Ob True ∧
           Ob
             (decide
               (max (l.getD (0 : Nat) (0 : Int)) (-l.getD (0 : Nat) (0 : Int)) >
                max (l.getD (IntKind.i64.wrap ((↑l.length : Int) - (1 : Int))).toNat (0 : Int))
                 (-l.getD (IntKind.i64.wrap ((↑l.length : Int) - (1 : Int))).toNat (0 : Int))) =
              decide
               (max (l.getD (l.length - (1 : Nat)) (0 : Int)) (-l.getD (l.length - (1 : Nat)) (0 : Int)) <
                max (l.getD (0 : Nat) (0 : Int)) (-l.getD (0 : Nat) (0 : Int)))) ∧
            True) = _) ?_
 obtain ⟨h0, h1, h2⟩ := ho
 have e1 : IntKind.i64.wrap ((l.length : Int) - 1) = ((l.length - 1 : Nat) : Int) := by rw [wr (by omega) (by omega)]; omega
 have e2 : ((l.length - 1 : Nat) : Int).toNat = l.length - 1 := rfl
 have b0 := h2 (l.getD 0 0) (by simp [List.getD, h0])
 have b1 := h2 (l.getD (l.length - 1) 0) (by simp [List.getD, show l.length - 1 < l.length by omega])
 simp only [e1, e2, jaV, and_true, gt_iff_lt]
 exact ⟨by omega, h0, by omega, by omega, by omega, by omega⟩
theorem jqk : jah Tryz.prog 38 true (jay jjS) := by
 refine jaF (sp := (jar 60 jib sp0)) (fn := Tryz.f38) (body := jai Tryz.f38) mixed (jaw jnr jam) Tryz.func38 (by kernel_rfl) (by kernel_rfl) fun as_ ob rs h ho => ?_
 unfold jjS at h
 split at h
 ·rename_i l
  cases h
  exact ⟨Nat.le_of_ble_eq_true rfl, _, _, jqj l ho⟩
 ·cases h
end Go.Sx06
end

section
namespace Go.Sx06
open Go.Sx06u (ja6 ja8 agg5 jcI jb4 jcr)
open Go Go.Proofs Go.RowKit Go.Sx
def ja4 (n : Int) : Bool := decide (-100 ≤ n) && decide (n ≤ 100)
def jbv (l : List Int) : Int := if ¬ (2 ≤ l.length ∧ l.length ≤ 5) then 10 else if l.any (fun x => !ja4 x) = true then 2 else if l.getD 0 0 ≤ 0 then 11 else 0
def jgA (l : List Int) (k : Nat) : Int := l.getD 0 0 * l.getD k 0 - l.getD (l.length - 1) 0 * l.getD (l.length - 1 - k) 0
def jbZ (l : List Int) (k : Nat) : List Int := (List.range (l.length - 1)).map fun j => if j < k then jgA l j else 0
def jcP (l : List Int) : List Int := (List.range (l.length - 1)).map (jgA l)
def je1 (l : List Int) : Int := match l.findIdx? (fun x => !ja4 x) with
 | some i => (i : Int)
 | none => -1
theorem jrh {l : List Int} {x : Nat} (h : ∀ y ∈ l.take x, ja4 y = true) (hx : x < l.length) (h4 : ja4 (l.getD x 0) = false) : je1 l = (x : Int) := by
 unfold je1
 have : l.findIdx? (fun x => !ja4 x) = some x := by
  rw [List.findIdx?_eq_some_iff_getElem]
  refine ⟨hx, by simpa [List.getD, hx] using h4, fun j hj => ?_⟩
  have hjl : j < l.length := by omega
  have := h l[j] (List.mem_take_iff_getElem.2 ⟨j, by omega, rfl⟩)
  simp [this]
 rw [this]
theorem jpi {l : List Int} (h : ∀ y ∈ l, ja4 y = true) : je1 l = -1 := by
 unfold je1
 rw [List.findIdx?_eq_none_iff.2 (fun y hy => by simp [h y hy])]
theorem jql (l : List Int) : decide (je1 l ≥ 0) = l.any (fun x => !ja4 x) := by
 unfold je1
 cases h : l.findIdx? (fun x => !ja4 x) with
 | none =>
  rw [List.findIdx?_eq_none_iff] at h
  have : l.any (fun x => !ja4 x) = false := by
   rw [List.any_eq_false]
   intro y hy
   simpa using h y hy
  rw [this]
  rfl
 | some i =>
  rw [List.findIdx?_eq_some_iff_getElem] at h
  obtain ⟨hi, h1, _⟩ := h
  have : l.any (fun x => !ja4 x) = true := List.any_eq_true.2 ⟨l[i], List.getElem_mem _, h1⟩
  rw [this]
  simp
theorem jcU {l : List Int} {i : Nat} (h : i < l.length) : l.getD i 0 ∈ l := by simp [List.getD, h]
theorem jk0 {x y : Int} (hx : -2147483647 ≤ x ∧ x ≤ 2147483647) (hy : -2147483647 ≤ y ∧ y ≤ 2147483647) : -4611686018427387903 ≤ x * y ∧ x * y ≤ 4611686018427387903 := by
 have h1 : (x * y).natAbs ≤ 2147483647 * 2147483647 := by
  rw [Int.natAbs_mul]
  exact Nat.mul_le_mul (by omega) (by omega)
 omega
def jfj : List A → Option (Prop × List RV)
 | [.d (.i .i64 n)] => some (True, [.d (.b (!ja4 n))])
 | _ => none
theorem jmU (n : Int) : jaI Tryz.f59 (jar 31 jbV sp0) (fun _ _ => none) 0 [.d (.i .i64 n)] [.d (.b (!ja4 n))] := by
 refine Eq.mp (by kernel_rfl : (
    Ob ((-9223372036854775807 : Int) ≤ (100 : Int) ∧ (100 : Int) ≤ (9223372036854775807 : Int)) ∧
     Ob True ∧ Ob ((!(decide ((-100 : Int) ≤ n) && decide (n ≤ (100 : Int)))) = !ja4 n) ∧ True) = _) ?_
 exact ⟨⟨by decide⟩, ⟨trivial⟩, ⟨rfl⟩, trivial⟩
theorem jmV : jah Tryz.prog 59 true (jay jfj) := by
 refine jaF (sp := (jar 31 jbV sp0)) (fn := Tryz.f59) (body := jai Tryz.f59) mixed (jaw jdX jam) Tryz.func59 (by kernel_rfl) (by kernel_rfl) fun as_ ob rs h ho => ?_
 unfold jfj at h
 split at h
 ·rename_i n
  cases h
  exact ⟨Nat.le_of_ble_eq_true rfl, _, _, jmU n⟩
 ·cases h
def jeF : List A → Option (Prop × List RV)
 | [.r (.ints .i64 l), .f 59] => some (l.length ≤ 1000000, [.d (.i .i64 (je1 l))])
 | _ => none
theorem jmo (l : List Int) (ho : l.length ≤ 1000000) : jaI Tryz.f75 (jar 59 jfj sp0) (fun id _ => match id with | 0 => some ⟨Nat, fun i => ⟨[(8, vi .i64 i), (7, vi .i64 l.length), (6, .w (.c (.o 0))), (4, vi .i64 0), (0, .w (.c (.o 0))), (1, .w (.c (.fn 59 [])))], [(0, .ext (.ints .i64 l))], 2⟩, fun i => i ≤ l.length ∧ ∀ x ∈ l.take i, ja4 x = true, fun i => l.length - i⟩ | _ => none) 0 [.r (.ints .i64 l), .f 59] [.d (.i .i64 (je1 l))] := by
 refine Eq.mp (by kernel_rfl : (
    (∃ x,
      Ob (x ≤ l.length ∧ ∀ (x_1 : Int), x_1 ∈ List.take x l → ja4 x_1 = true) ∧
       Ob ((0 : Int) = (↑x : Int)) ∧
        Ob ((↑l.length : Int) = (↑l.length : Int)) ∧ Ob ((0 : Int) = (0 : Int)) ∧ Ob (l = l) ∧ True) ∧
     ∀ (x : Nat),
      (x ≤ l.length ∧ ∀ (x_1 : Int), x_1 ∈ List.take x l → ja4 x_1 = true) →
       Br (decide ((↑x : Int) < (↑l.length : Int)))
        (Ob ((0 : Int) ≤ (↑x : Int) ∧ (↑x : Int) < (↑l.length : Int)) ∧
         Ob ((↑x : Int).toNat < l.length) ∧
          Ob True ∧
           Br (!ja4 (l.getD (↑x : Int).toNat (0 : Int))) (Ob True ∧ Ob ((↑x : Int) = je1 l) ∧ True)
            (∃ x',
             Ob (x' ≤ l.length ∧ ∀ (x : Int), x ∈ List.take x' l → ja4 x = true) ∧
              Ob (l.length - x' < l.length - x) ∧
               Ob (IntKind.i64.wrap ((↑x : Int) + (1 : Int)) = (↑x' : Int)) ∧
                Ob ((↑l.length : Int) = (↑l.length : Int)) ∧ Ob ((0 : Int) = (0 : Int)) ∧ Ob (l = l) ∧ True))
        (Ob True ∧ Ob ((-1 : Int) = je1 l) ∧ True)) = _) ?_
 simp only [jaV, jbn, decide_eq_true_eq, decide_eq_false_iff_not, true_and, and_true]
 refine ⟨⟨0, ⟨by omega, fun x hx => by simp at hx⟩, rfl⟩, fun x ⟨h1, h2⟩ => ⟨fun h3 => ⟨by omega, by omega, fun h4 => ?_, fun h4 => ⟨x + 1, ⟨by omega, ?_⟩, by omega, ?_⟩⟩, fun h3 => ?_⟩⟩
 ·exact (jrh h2 (by omega) (by simpa using h4)).symm
 ·intro y hy
  rw [List.take_succ_eq_append_getElem (by omega)] at hy
  rcases List.mem_append.1 hy with hy | hy
  ·exact h2 y hy
  ·simp only [List.mem_singleton] at hy
   subst hy
   simpa [List.getD, show x < l.length by omega] using h4
 ·rw [wr (by omega) (by omega)]
  omega
 ·have e : x = l.length := by omega
  rw [e, List.take_length] at h2
  exact (jpi h2).symm
theorem jmp : jah Tryz.prog 75 true (jay jeF) := by
 refine jaF (sp := (jar 59 jfj sp0)) (fn := Tryz.f75) (body := jai Tryz.f75) mixed (jaw jmV jam) Tryz.func75 (by kernel_rfl) (by kernel_rfl) fun as_ ob rs h ho => ?_
 unfold jeF at h
 split at h
 ·rename_i l
  cases h
  exact ⟨Nat.le_of_ble_eq_true rfl, _, _, jmo l ho⟩
 ·cases h
def jc7 : List A → Option (Prop × List RV)
 | [.r (.ints .i64 l), .f 59] => some (l.length ≤ 1000000, [.d (.b (l.any (fun x => !ja4 x)))])
 | _ => none
theorem jjT (l : List Int) (ho : l.length ≤ 1000000) : jaI Tryz.f58 (jar 75 jeF sp0) (fun _ _ => none) 0 [.r (.ints .i64 l), .f 59] [.d (.b (l.any (fun x => !ja4 x)))] := by
 refine Eq.mp (by kernel_rfl : (
    Ob (l.length ≤ (1000000 : Nat)) ∧ Ob True ∧ Ob (decide (je1 l ≥ (0 : Int)) = l.any fun x => !ja4 x) ∧ True) = _) ?_
 exact ⟨⟨ho⟩, ⟨trivial⟩, ⟨jql l⟩, trivial⟩
theorem jjU : jah Tryz.prog 58 true (jay jc7) := by
 refine jaF (sp := (jar 75 jeF sp0)) (fn := Tryz.f58) (body := jai Tryz.f58) mixed (jaw jmp jam) Tryz.func58 (by kernel_rfl) (by kernel_rfl) fun as_ ob rs h ho => ?_
 unfold jc7 at h
 split at h
 ·rename_i l
  cases h
  exact ⟨Nat.le_of_ble_eq_true rfl, _, _, jjT l ho⟩
 ·cases h
def jgB : List A → Option (Prop × List RV)
 | [.r (.ints .i64 l)] => some (l.length ≤ 1000000000000, [.d (.i .i64 (jbv l))])
 | _ => none
theorem jod (l : List Int) (ho : l.length ≤ 1000000000000) : jaI Tryz.f37 (jar 32 jbo (jar 58 jc7 sp0)) (fun _ _ => none) 0 [.r (.ints .i64 l)] [.d (.i .i64 (jbv l))] := by
 refine Eq.mp (by kernel_rfl : (
    Ob True ∧
     Br
      (!(decide ((1 : Int) ≤ IntKind.i64.wrap ((↑l.length : Int) - (1 : Int))) &&
        decide (IntKind.i64.wrap ((↑l.length : Int) - (1 : Int)) ≤ (4 : Int))))
      (Ob True ∧ Ob ((10 : Int) = jbv l) ∧ True)
      (Ob (l.length ≤ (1000000 : Nat)) ∧
       Br (l.any fun x => !ja4 x) (Ob True ∧ Ob ((2 : Int) = jbv l) ∧ True)
        (Ob ((0 : Int) ≤ (0 : Int) ∧ (0 : Int) < (↑l.length : Int)) ∧
         Ob ((0 : Nat) < l.length) ∧
          Br (decide (l.getD (0 : Nat) (0 : Int) ≤ (0 : Int))) (Ob True ∧ Ob ((11 : Int) = jbv l) ∧ True)
           (Ob True ∧ Ob ((0 : Int) = jbv l) ∧ True)))) = _) ?_
 simp only [jaV, jbn, decide_eq_true_eq, decide_eq_false_iff_not, true_and, and_true]
 rw [wr (by omega) (by omega)]
 have hlen : (!(decide (1 ≤ (l.length : Int) - 1) && decide ((l.length : Int) - 1 ≤ 4))) = true ↔ ¬ (2 ≤ l.length ∧ l.length ≤ 5) := by
  simp
  omega
 try rw [Int.toNat_zero]
 refine ⟨fun h => ?_, fun h => ?_⟩
 ·unfold jbv
  rw [if_pos (hlen.1 h)]
 ·have h1 : 2 ≤ l.length ∧ l.length ≤ 5 := by
   apply Classical.byContradiction
   intro hc
   rw [hlen.2 hc] at h
   cases h
  refine ⟨by omega, fun h2 => ?_, fun h2 => ⟨by omega, by omega, fun h3 => ?_, fun h3 => ?_⟩⟩ <;> unfold jbv <;> rw [if_neg (fun hc => hc h1)]
  ·rw [if_pos h2]
  ·rw [if_neg (by simp [h2]), if_pos h3]
  ·rw [if_neg (by simp [h2]), if_neg h3]
theorem joe : jah Tryz.prog 37 true (jay jgB) := by
 refine jaF (sp := (jar 32 jbo (jar 58 jc7 sp0))) (fn := Tryz.f37) (body := jai Tryz.f37) mixed (jaw jcT (jaw jjU jam)) Tryz.func37 (by kernel_rfl) (by kernel_rfl) fun as_ ob rs h ho => ?_
 unfold jgB at h
 split at h
 ·rename_i l
  cases h
  exact ⟨Nat.le_of_ble_eq_true rfl, _, _, jod l ho⟩
 ·cases h
def jly : List A → Option (Prop × List RV)
 | [.r (.ints .i64 l)] => some (1 ≤ l.length ∧ l.length ≤ 1000000 ∧ ∀ x ∈ l, -2147483647 ≤ x ∧ x ≤ 2147483647, [.row 3 (.ints .i64 (jcP l))])
 | _ => none
theorem jri (l : List Int) (ho : 1 ≤ l.length ∧ l.length ≤ 1000000 ∧ ∀ x ∈ l, -2147483647 ≤ x ∧ x ≤ 2147483647) : jaI Tryz.f39 sp0 (fun id _ => match id with | 0 => some ⟨Nat, fun i => ⟨[(13, vi .i64 i), (12, vi .i64 (l.length - 1 : Nat)), (11, .w (.c (.o 1))), (4, .w (.c (.o 1))), (3, vi .i64 (l.length - 1 : Nat)), (0, .w (.c (.o 0)))], [(1, .row 3 (.ints .i64 (jbZ l i))), (0, .ext (.ints .i64 l))], 2⟩, fun i => i ≤ l.length - 1, fun i => l.length - i⟩ | _ => none) 0 [.r (.ints .i64 l)] [.row 3 (.ints .i64 (jcP l))] := by
 refine Eq.mp (by kernel_rfl : (
    Ob
      ((
       0 : Int) ≤ IntKind.i64.wrap ((↑l.length : Int) - (1 : Int)) ∧
       IntKind.i64.wrap ((↑l.length : Int) - (1 : Int)) = IntKind.i64.wrap ((↑l.length : Int) - (1 : Int)) ∧
        (↑(8 : Nat) : Int) * IntKind.i64.wrap ((↑l.length : Int) - (1 : Int)) ≤ (281474976710656 : Int) ∧
         IntKind.i64.wrap ((↑l.length : Int) - (1 : Int)) ≤ (9223372036854775807 : Int)) ∧
     (∃ x,
       Ob (x ≤ l.length - (1 : Nat)) ∧
        Ob ((0 : Int) = (↑x : Int)) ∧
         Ob
           ((
            ↑(List.replicate (IntKind.i64.wrap ((↑l.length : Int) - (1 : Int))).toNat (0 : Int)).length : Int) =
            (↑(l.length - (1 : Nat)) : Int)) ∧
          Ob (IntKind.i64.wrap ((↑l.length : Int) - (1 : Int)) = (↑(l.length - (1 : Nat)) : Int)) ∧
           Ob (List.replicate (IntKind.i64.wrap ((↑l.length : Int) - (1 : Int))).toNat (0 : Int) = jbZ l x) ∧
            Ob (l = l) ∧ True) ∧
      ∀ (x : Nat),
       x ≤ l.length - (1 : Nat) →
        Br (decide ((↑x : Int) < (↑(l.length - (1 : Nat)) : Int)))
         (Ob ((0 : Int) ≤ (0 : Int) ∧ (0 : Int) < (↑l.length : Int)) ∧
          Ob ((0 : Nat) < l.length) ∧
           Ob ((0 : Int) ≤ (↑x : Int) ∧ (↑x : Int) < (↑l.length : Int)) ∧
            Ob ((↑x : Int).toNat < l.length) ∧
             Ob
               ((
                0 : Int) ≤ (↑(l.length - (1 : Nat)) : Int) ∧
                (↑(l.length - (1 : Nat)) : Int) < (↑l.length : Int)) ∧
              Ob ((↑(l.length - (1 : Nat)) : Int).toNat < l.length) ∧
               Ob
                 ((
                  0 : Int) ≤ IntKind.i64.wrap ((↑(l.length - (1 : Nat)) : Int) - (↑x : Int)) ∧
                  IntKind.i64.wrap ((↑(l.length - (1 : Nat)) : Int) - (↑x : Int)) < (↑l.length : Int)) ∧
                Ob ((IntKind.i64.wrap ((↑(l.length - (1 : Nat)) : Int) - (↑x : Int))).toNat < l.length) ∧
                 Ob ((0 : Int) ≤ (↑x : Int) ∧ (↑x : Int) < (↑(jbZ l x).length : Int)) ∧
                  Ob ((↑x : Int).toNat < (jbZ l x).length) ∧
                   ∃ x',
                    Ob (x' ≤ l.length - (1 : Nat)) ∧
                     Ob (l.length - x' < l.length - x) ∧
                      Ob (IntKind.i64.wrap ((↑x : Int) + (1 : Int)) = (↑x' : Int)) ∧
                       Ob ((↑(l.length - (1 : Nat)) : Int) = (↑(l.length - (1 : Nat)) : Int)) ∧
                        Ob ((↑(l.length - (1 : Nat)) : Int) = (↑(l.length - (1 : Nat)) : Int)) ∧
                         Ob
                           ((jbZ l x).set (↑x : Int).toNat
                             (IntKind.i64.wrap
                              (IntKind.i64.wrap
                                (l.getD (0 : Nat) (0 : Int) *
                                 l.getD (↑x : Int).toNat (0 : Int)) -
                               IntKind.i64.wrap
                                (l.getD (↑(l.length - (1 : Nat)) : Int).toNat (0 : Int) *
                                 l.getD
                                  (IntKind.i64.wrap
                                    ((↑(l.length - (1 : Nat)) : Int) - (↑x : Int))).toNat
                                  (0 : Int)))) =
                            jbZ l x') ∧
                          Ob (l = l) ∧ True)
         (Ob True ∧ Ob (jbZ l x = jcP l) ∧ True)) = _) ?_
 obtain ⟨h0, hL, hx⟩ := ho
 have e1 : IntKind.i64.wrap ((l.length : Int) - 1) = ((l.length - 1 : Nat) : Int) := by rw [wr (by omega) (by omega)]; omega
 have e2 : ∀ x : Nat, x ≤ l.length - 1 → IntKind.i64.wrap (((l.length - 1 : Nat) : Int) - (x : Int)) = ((l.length - 1 - x : Nat) : Int) := fun x h => by rw [wr (by omega) (by omega)]; omega
 have dlen : ∀ x, (jbZ l x).length = l.length - 1 := fun x => by simp [jbZ]
 simp only [e1, Int.toNat_natCast, List.length_replicate, jaV, jbn, decide_eq_true_eq, decide_eq_false_iff_not, true_and, and_true, dlen]
 refine ⟨by omega, ⟨0, by omega, rfl, ?_⟩, fun x h1 => ⟨fun h2 => ?_, fun h2 => ?_⟩⟩
 ·apply List.ext_getElem
  ·simp [jbZ]
  ·intro i h1 h2
   simp [jbZ]
 ·rw [e2 x h1]
  refine ⟨by omega, by omega, by omega, by omega, by omega, by omega, by omega, by omega, by omega, by omega, x + 1, by omega, by omega, ?_, ?_⟩
  ·rw [wr (by omega) (by omega)]
   omega
  ·have b0 := hx _ (jcU (show 0 < l.length by omega))
   have b1 := hx _ (jcU (show x < l.length by omega))
   have b2 := hx _ (jcU (show l.length - 1 < l.length by omega))
   have b3 := hx _ (jcU (show l.length - 1 - x < l.length by omega))
   have m1 := jk0 b0 b1
   have m2 := jk0 b2 b3
   rw [Int.toNat_natCast, wr (n := l.getD 0 0 * l.getD x 0) (by omega) (by omega), wr (n := l.getD (l.length - 1) 0 * l.getD (l.length - 1 - x) 0) (by omega) (by omega), wr (by omega) (by omega)]
   apply List.ext_getElem
   ·simp [jbZ]
   ·intro i h3 h4
    simp only [jbZ, List.length_set, List.length_map, List.length_range] at h3
    rw [List.getElem_set]
    by_cases e : x = i
    ·subst e
     simp [jbZ, jgA]
    ·have : i < x + 1 ↔ i < x := by omega
     simp [jbZ, e, this]
 ·have e : x = l.length - 1 := by omega
  subst e
  apply List.ext_getElem
  ·simp [jbZ, jcP]
  ·intro i h3 h4
   simp only [jbZ, List.length_map, List.length_range] at h3
   simp [jbZ, jcP, h3]
theorem jrj : jah Tryz.prog 39 true (jay jly) := by
 refine jaF (sp := sp0) (fn := Tryz.f39) (body := jai Tryz.f39) mixed jam Tryz.func39 (by kernel_rfl) (by kernel_rfl) fun as_ ob rs h ho => ?_
 unfold jly at h
 split at h
 ·rename_i l
  cases h
  exact ⟨Nat.le_of_ble_eq_true rfl, _, _, jri l ho⟩
 ·cases h
end Go.Sx06
end

section
namespace Go.Sx06
open Go.Sx06u (ja6 ja8 agg5 jcI jb4 jcr)
open Go Go.Proofs Go.RowKit Go.Sx
def absI (n : Int) : Int := max n (-n)
def jqW (l : List Int) : Bool := decide (absI (l.getD (l.length - 1) 0) < absI (l.getD 0 0))
def jbA : Nat → List Int → Nat → Bool × Nat
 | 0, _, s => (false, s)
 | f + 1, l, s => if jqW l = false then (false, s) else if l.length = 2 then (true, s) else jbA f (jcP l) (s + 1)
def jdG : Nat → Int
 | 0 => 100
 | 1 => 20000
 | 2 => 800000000
 | _ => 1280000000000000000
theorem jfk (l : List Int) : (jcP l).length = l.length - 1 := by simp [jcP]
theorem jpj {l : List Int} {y : Int} (h : y ∈ jcP l) : ∃ j, j < l.length - 1 ∧ y = jgA l j := by
 simp only [jcP, List.mem_map, List.mem_range] at h
 obtain ⟨j, hj, e⟩ := h
 exact ⟨j, hj, e.symm⟩
theorem jns {x y m : Int} (hm : 0 ≤ m) (hx : -m ≤ x ∧ x ≤ m) (hy : -m ≤ y ∧ y ≤ m) : -(m * m) ≤ x * y ∧ x * y ≤ m * m := by
 have h1 : (x * y).natAbs ≤ m.natAbs * m.natAbs := by
  rw [Int.natAbs_mul]
  exact Nat.mul_le_mul (by omega) (by omega)
 have h2 : m * m = ((m.natAbs * m.natAbs : Nat) : Int) := by
  rw [Int.natCast_mul]
  have : (m.natAbs : Int) = m := by omega
  rw [this]
 rw [h2]
 omega
theorem jhE {l : List Int} {m : Int} (hm : 0 ≤ m) (h0 : 1 ≤ l.length) (h : ∀ y ∈ l, -m ≤ y ∧ y ≤ m) {j : Nat} (hj : j < l.length - 1) : -(2 * (m * m)) ≤ jgA l j ∧ jgA l j ≤ 2 * (m * m) := by
 have b0 := h _ (jcU (show 0 < l.length by omega))
 have b1 := h _ (jcU (show j < l.length by omega))
 have b2 := h _ (jcU (show l.length - 1 < l.length by omega))
 have b3 := h _ (jcU (show l.length - 1 - j < l.length by omega))
 have m1 := jns hm b0 b1
 have m2 := jns hm b2 b3
 unfold jgA
 omega
theorem jqm {l : List Int} {s : Nat} (hs : s ≤ 2) (h0 : 1 ≤ l.length) (h : ∀ y ∈ l, -jdG s ≤ y ∧ y ≤ jdG s) : ∀ y ∈ jcP l, -jdG (s + 1) ≤ y ∧ y ≤ jdG (s + 1) := by
 intro y hy
 obtain ⟨j, hj, rfl⟩ := jpj hy
 match s, hs with
 | 0, _ => have := jhE (m := 100) (by decide) h0 h hj; exact ⟨by show -20000 ≤ _; omega, by show _ ≤ (20000 : Int); omega⟩
 | 1, _ => have := jhE (m := 20000) (by decide) h0 h hj; exact ⟨by show -800000000 ≤ _; omega, by show _ ≤ (800000000 : Int); omega⟩
 | 2, _ => have := jhE (m := 800000000) (by decide) h0 h hj; exact ⟨by show -1280000000000000000 ≤ _; omega, by show _ ≤ (1280000000000000000 : Int); omega⟩
theorem jrk (s : Nat) : jdG s ≤ 1280000000000000000 := by
 match s with
 | 0 => decide
 | 1 => decide
 | 2 => decide
 | n + 3 => exact Int.le_refl _
theorem jqn {s : Nat} (h : s ≤ 2) : jdG s ≤ 800000000 := by
 match s, h with
 | 0, _ => decide
 | 1, _ => decide
 | 2, _ => decide
theorem jqo {l : List Int} (h : jbv l = 0) : 2 ≤ l.length ∧ l.length ≤ 5 ∧ (∀ y ∈ l, -100 ≤ y ∧ y ≤ 100) ∧ 0 < l.getD 0 0 := by
 unfold jbv at h
 split at h
 ·cases h
 ·rename_i h1
  split at h
  ·cases h
  ·rename_i h2
   split at h
   ·cases h
   ·rename_i h3
    have h1 : 2 ≤ l.length ∧ l.length ≤ 5 := Classical.byContradiction h1
    refine ⟨h1.1, h1.2, fun y hy => ?_, by omega⟩
    have h4 : ja4 y = true := by
     cases hc : ja4 y with
     | true => rfl
     | false => exact absurd (List.any_eq_true.2 ⟨y, hy, by simp [hc]⟩) h2
    simpa [ja4] using h4
def jdt (l : List Int) : Bool := if jbv l = 0 then (jbA l.length l 0).1 else false
def jen (l : List Int) : Int := if jbv l = 0 then ((jbA l.length l 0).2 : Int) else 0
def gSchur : List A → Option (Prop × List RV)
 | [.r (.ints .i64 l)] => some (l.length ≤ 1000000000, [.d (.b (jdt l)), .d (.i .i64 (jen l)), .d (.i .i64 (jbv l))])
 | _ => none
theorem jqp (l : List Int) (ho : l.length ≤ 1000000000) : jaI Tryz.f16 (jar 37 jgB (jar 38 jjS (jar 39 jly sp0))) (fun _ _ => some ⟨List Int × Nat, fun x => ⟨[(5, .w (.c (.o 1))), (7, vi .i64 x.2)], [(1, .view 0 (.ints .i64 x.1) false)], 2⟩, fun x => 2 ≤ x.1.length ∧ x.1.length + x.2 = l.length ∧ l.length ≤ 5 ∧ jbv l = 0 ∧ jbA x.1.length x.1 x.2 = jbA l.length l 0 ∧ ∀ y ∈ x.1, -jdG x.2 ≤ y ∧ y ≤ jdG x.2, fun x => x.1.length⟩) 0 [.r (.ints .i64 l)] [.d (.b (jdt l)), .d (.i .i64 (jen l)), .d (.i .i64 (jbv l))] := by
 refine Eq.mp (by kernel_rfl : (
    Ob (l.length ≤ (1000000000000 : Nat)) ∧
     Br (jbv l != (0 : Int))
      (Ob True ∧ Ob True ∧ Ob True ∧ Ob (false = jdt l) ∧ Ob ((0 : Int) = jen l) ∧ Ob (jbv l = jbv l) ∧ True)
      ((∃ (x : List Int × Nat),
        Ob
          ((
           2 : Nat) ≤ x.1.length ∧
           x.1.length + x.2 = l.length ∧
            l.length ≤ (5 : Nat) ∧
             jbv l = (0 : Int) ∧
              jbA x.1.length x.1 x.2 = jbA l.length l (0 : Nat) ∧
               ∀ (y : Int), y ∈ x.1 → -jdG x.2 ≤ y ∧ y ≤ jdG x.2) ∧
         Ob ((0 : Int) = (↑x.2 : Int)) ∧ Ob (l = x.1) ∧ True) ∧
       ∀ (x : List Int × Nat),
        ((2 : Nat) ≤ x.1.length ∧
          x.1.length + x.2 = l.length ∧
           l.length ≤ (5 : Nat) ∧
            jbv l = (0 : Int) ∧
             jbA x.1.length x.1 x.2 = jbA l.length l (0 : Nat) ∧
              ∀ (y : Int), y ∈ x.1 → -jdG x.2 ≤ y ∧ y ≤ jdG x.2) →
         Ob
           ((
            0 : Nat) < x.1.length ∧
            x.1.length ≤ (1000000 : Nat) ∧
             ∀ (x_1 : Int), x_1 ∈ x.1 → (-4611686018427387904 : Int) ≤ x_1 ∧ x_1 ≤ (4611686018427387904 : Int)) ∧
          Br
           (!decide
             (max (x.1.getD (x.1.length - (1 : Nat)) (0 : Int)) (-x.1.getD (x.1.length - (1 : Nat)) (0 : Int)) <
              max (x.1.getD (0 : Nat) (0 : Int)) (-x.1.getD (0 : Nat) (0 : Int))))
           (Ob True ∧
            Ob True ∧
             Ob True ∧ Ob (false = jdt l) ∧ Ob ((↑x.2 : Int) = jen l) ∧ Ob ((0 : Int) = jbv l) ∧ True)
           (Br ((↑x.1.length : Int) == (2 : Int))
            (Ob True ∧
             Ob True ∧
              Ob True ∧ Ob (true = jdt l) ∧ Ob ((↑x.2 : Int) = jen l) ∧ Ob ((0 : Int) = jbv l) ∧ True)
            (Ob
              ((
               1 : Nat) ≤ x.1.length ∧
               x.1.length ≤ (1000000 : Nat) ∧
                ∀ (x_1 : Int), x_1 ∈ x.1 → (-2147483647 : Int) ≤ x_1 ∧ x_1 ≤ (2147483647 : Int)) ∧
             ∃ (x' : List Int × Nat),
              Ob
                ((
                 2 : Nat) ≤ x'.1.length ∧
                 x'.1.length + x'.2 = l.length ∧
                  l.length ≤ (5 : Nat) ∧
                   jbv l = (0 : Int) ∧
                    jbA x'.1.length x'.1 x'.2 = jbA l.length l (0 : Nat) ∧
                     ∀ (y : Int), y ∈ x'.1 → -jdG x'.2 ≤ y ∧ y ≤ jdG x'.2) ∧
               Ob (x'.1.length < x.1.length) ∧
                Ob (IntKind.i64.wrap ((↑x.2 : Int) + (1 : Int)) = (↑x'.2 : Int)) ∧
                 Ob (jcP x.1 = x'.1) ∧ True)))) = _) ?_
 simp only [jaV, jbn, decide_eq_true_eq, decide_eq_false_iff_not, true_and, and_true, bne_iff_ne, ne_eq, bne_eq_false_iff_eq, beq_iff_eq, beq_eq_false_iff_ne, Bool.not_eq_true', Bool.not_eq_false']
 refine ⟨by omega, fun h => ?_, fun h => ⟨?_, ?_⟩⟩
 ·unfold jdt jen
  rw [if_neg h, if_neg h]
  exact ⟨rfl, rfl⟩
 ·have hp := jqo h
  exact ⟨(l, 0), ⟨hp.1, rfl, hp.2.1, h, rfl, hp.2.2.1⟩, rfl, rfl⟩
 ·rintro ⟨q, s⟩ ⟨h1, h2, h3, h4, h5, h6⟩
  dsimp only at h1 h2 h3 h4 h5 h6 ⊢
  have hl := jrk s
  have hlead : jqW q = decide (max (q.getD (q.length - 1) 0) (-q.getD (q.length - 1) 0) < max (q.getD 0 0) (-q.getD 0 0)) := rfl
  have hq : ∃ f, q.length = f + 1 := ⟨q.length - 1, by omega⟩
  obtain ⟨f, hf⟩ := hq
  refine ⟨⟨by omega, by omega, fun y hy => ?_⟩, fun h7 => ?_, fun h7 => ⟨fun h8 => ?_, fun h8 => ?_⟩⟩
  ·have := h6 y hy; omega
  ·have e : jbA q.length q s = (false, s) := by
    rw [hf]
    unfold jbA
    rw [if_pos (by rw [hlead]; exact decide_eq_false h7)]
   unfold jdt jen
   rw [if_pos h4, if_pos h4, ← h5, e, h4]
   exact ⟨rfl, rfl, rfl⟩
  ·have e : jbA q.length q s = (true, s) := by
    rw [hf]
    unfold jbA
    rw [if_neg (by rw [hlead, decide_eq_true h7]; decide), if_pos (by omega)]
   unfold jdt jen
   rw [if_pos h4, if_pos h4, ← h5, e, h4]
   exact ⟨rfl, rfl, rfl⟩
  ·have hs : s ≤ 2 := by omega
   have hl2 := jqn hs
   refine ⟨⟨by omega, by omega, fun y hy => ?_⟩, (jcP q, s + 1), ⟨?_, ?_, h3, h4, ?_, jqm hs (by omega) h6⟩, ?_, ?_, rfl⟩
   ·have := h6 y hy; omega
   ·rw [jfk]; omega
   ·rw [jfk]; dsimp only; omega
   ·rw [← h5, hf]
    have e : jbA (f + 1) q s = jbA f (jcP q) (s + 1) := by
     conv => lhs; unfold jbA
     rw [if_neg (by rw [hlead, decide_eq_true h7]; decide), if_neg (by omega)]
    rw [e, jfk, hf]
    rfl
   ·rw [jfk]; omega
   ·rw [wr (by omega) (by omega)]
    rfl
theorem schur_ok : jah Tryz.prog 16 true (jay gSchur) := by
 refine jaF (sp := (jar 37 jgB (jar 38 jjS (jar 39 jly sp0)))) (fn := Tryz.f16) (body := jai Tryz.f16) mixed (jaw joe (jaw jqk (jaw jrj jam))) Tryz.func16 (by kernel_rfl) (by kernel_rfl) fun as_ ob rs h ho => ?_
 unfold gSchur at h
 split at h
 ·rename_i l
  cases h
  exact ⟨Nat.le_of_ble_eq_true rfl, _, _, jqp l ho⟩
 ·cases h
end Go.Sx06
end

section
namespace Go.Sx06
open Go.Sx06u (ja6 ja8 agg5 jcI jb4 jcr)
open Go Go.Proofs Go.RowKit Go.Sx
def jbb (r : List Int) : Int := ja8 (r.getD 0 0) (r.getD 1 0) (r.getD 2 0) (r.getD 3 0) (r.getD 4 0)
def jfD (c : List (List Int)) : Int := if 6 < c.length then 0 else match c.findIdx? (fun r => jbb r != 0) with
 | some i => (i : Int)
 | none => 0
def chkE (c : List (List Int)) : Int := if 6 < c.length then 8 else match c.findIdx? (fun r => jbb r != 0) with
 | some i => jbb (c.getD i [])
 | none => 0
theorem jof {α : Type} {p : α → Bool} {l : List α} {x : Nat} (h : ∀ y ∈ l.take x, p y = false) (hx : x < l.length) (h4 : p l[x] = true) : l.findIdx? p = some x := by
 rw [List.findIdx?_eq_some_iff_getElem]
 refine ⟨hx, h4, fun j hj => ?_⟩
 have hjl : j < l.length := by omega
 have := h l[j] (List.mem_take_iff_getElem.2 ⟨j, by omega, rfl⟩)
 simp [this]
theorem jk1 {α : Type} {P : α → Prop} {l : List α} {x : Nat} (h : ∀ y ∈ l.take x, P y) (hx : x < l.length) (h4 : P l[x]) : ∀ y ∈ l.take (x + 1), P y := by
 intro y hy
 rw [List.take_succ_eq_append_getElem hx] at hy
 rcases List.mem_append.1 hy with hy | hy
 ·exact h y hy
 ·simp only [List.mem_singleton] at hy
  rw [hy]
  exact h4
theorem jdu {α : Type} {l : List α} {x : Nat} {d : α} (hx : x < l.length) : l.getD x d = l[x] := by simp [List.getD, hx]
def jc8 : List A → Option (Prop × List RV)
 | [.r (.recs 5 c)] => some (c.length ≤ 1000000000, [.d (.i .i64 (jfD c)), .d (.i .i64 (chkE c))])
 | _ => none
theorem jjV (c : List (List Int)) (ho : c.length ≤ 1000000000) : jaI Tryz.f51 (jar 35 jbJ sp0) (fun _ _ => some ⟨Nat, fun i => ⟨[(12, vi .i64 i), (11, vi .i64 c.length), (10, .w (.c (.o 0))), (3, vi .i64 0), (2, vi .i64 0), (0, .w (.c (.o 0)))], [(0, .ext (.recs 5 c))], 1⟩, fun i => i ≤ c.length ∧ c.length ≤ 6 ∧ ∀ r ∈ c.take i, jbb r = 0, fun i => c.length - i⟩) 0 [.r (.recs 5 c)] [.d (.i .i64 (jfD c)), .d (.i .i64 (chkE c))] := by
 refine Eq.mp (by kernel_rfl : (
    Br (decide ((↑c.length : Int) > (6 : Int)))
     (Ob True ∧ Ob True ∧ Ob ((0 : Int) = jfD c) ∧ Ob ((8 : Int) = chkE c) ∧ True)
     ((∃ (x : Nat),
       Ob (x ≤ c.length ∧ c.length ≤ (6 : Nat) ∧ ∀ (r : List Int), r ∈ List.take x c → jbb r = (0 : Int)) ∧
        Ob ((0 : Int) = (↑x : Int)) ∧
         Ob ((↑c.length : Int) = (↑c.length : Int)) ∧
          Ob ((0 : Int) = (0 : Int)) ∧ Ob ((0 : Int) = (0 : Int)) ∧ Ob (c = c) ∧ True) ∧
      ∀ (x : Nat),
       (x ≤ c.length ∧ c.length ≤ (6 : Nat) ∧ ∀ (r : List Int), r ∈ List.take x c → jbb r = (0 : Int)) →
        Br (decide ((↑x : Int) < (↑c.length : Int)))
         (Ob ((0 : Int) ≤ (↑x : Int) ∧ (↑x : Int) < (↑c.length : Int)) ∧
          Ob ((↑x : Int).toNat < c.length) ∧
           Ob True ∧
            Br
             (ja8 ((c.getD (↑x : Int).toNat []).getD (0 : Nat) (0 : Int))
               ((c.getD (↑x : Int).toNat []).getD (1 : Nat) (0 : Int))
               ((c.getD (↑x : Int).toNat []).getD (2 : Nat) (0 : Int))
               ((c.getD (↑x : Int).toNat []).getD (3 : Nat) (0 : Int))
               ((c.getD (↑x : Int).toNat []).getD (4 : Nat) (0 : Int)) !=
              (0 : Int))
             (Ob True ∧
              Ob True ∧
               Ob ((↑x : Int) = jfD c) ∧
                Ob
                  (ja8 ((c.getD (↑x : Int).toNat []).getD (0 : Nat) (0 : Int))
                    ((c.getD (↑x : Int).toNat []).getD (1 : Nat) (0 : Int))
                    ((c.getD (↑x : Int).toNat []).getD (2 : Nat) (0 : Int))
                    ((c.getD (↑x : Int).toNat []).getD (3 : Nat) (0 : Int))
                    ((c.getD (↑x : Int).toNat []).getD (4 : Nat) (0 : Int)) =
                   chkE c) ∧
                 True)
             (∃ (x' : Nat),
              Ob
                (x' ≤ c.length ∧
                 c.length ≤ (6 : Nat) ∧ ∀ (r : List Int), r ∈ List.take x' c → jbb r = (0 : Int)) ∧
               Ob (c.length - x' < c.length - x) ∧
                Ob (IntKind.i64.wrap ((↑x : Int) + (1 : Int)) = (↑x' : Int)) ∧
                 Ob ((↑c.length : Int) = (↑c.length : Int)) ∧
                  Ob ((0 : Int) = (0 : Int)) ∧ Ob ((0 : Int) = (0 : Int)) ∧ Ob (c = c) ∧ True))
         (Ob True ∧ Ob True ∧ Ob ((0 : Int) = jfD c) ∧ Ob ((0 : Int) = chkE c) ∧ True))) = _) ?_
 simp only [jaV, jbn, decide_eq_true_eq, decide_eq_false_iff_not, true_and, and_true, bne_iff_ne, ne_eq, bne_eq_false_iff_eq, Int.toNat_natCast, gt_iff_lt]
 refine ⟨fun h => ?_, fun h => ⟨⟨0, ⟨by omega, by omega, fun r hr => by simp at hr⟩, rfl⟩, ?_⟩⟩
 ·unfold jfD chkE
  rw [if_pos (by omega), if_pos (by omega)]
  exact ⟨rfl, rfl⟩
 ·rintro x ⟨h1, h2, h3⟩
  have hz : ∀ y ∈ c.take x, (jbb y != 0) = false := fun y hy => by simp [h3 y hy]
  refine ⟨fun h4 => ⟨by omega, by omega, fun h5 => ?_, fun h5 => ⟨x + 1, ⟨by omega, h2, jk1 h3 (by omega) ?_⟩, by omega, ?_⟩⟩, fun h4 => ?_⟩
  ·have hx : x < c.length := by omega
   have e : jbb c[x] ≠ 0 := by
    rw [← jdu (d := []) hx]
    exact h5
   have e2 := jof hz hx (by simpa using e)
   unfold jfD chkE
   rw [if_neg (by omega), if_neg (by omega), e2]
   exact ⟨rfl, rfl⟩
  ·rw [← jdu (d := []) (by omega)]
   exact h5
  ·rw [wr (by omega) (by omega)]
   omega
  ·have e : x = c.length := by omega
   rw [e, List.take_length] at hz
   have e2 : c.findIdx? (fun r => jbb r != 0) = none := List.findIdx?_eq_none_iff.2 hz
   unfold jfD chkE
   rw [if_neg (by omega), if_neg (by omega), e2]
   exact ⟨rfl, rfl⟩
theorem jjW : jah Tryz.prog 51 true (jay jc8) := by
 refine jaF (sp := (jar 35 jbJ sp0)) (fn := Tryz.f51) (body := jai Tryz.f51) mixed (jaw jfi jam) Tryz.func51 (by kernel_rfl) (by kernel_rfl) fun as_ ob rs h ho => ?_
 unfold jc8 at h
 split at h
 ·rename_i c
  cases h
  exact ⟨Nat.le_of_ble_eq_true rfl, _, _, jjV c ho⟩
 ·cases h
def gCascadeErr : List A → Option (Prop × List RV)
 | [.r (.recs 5 c)] => some (c.length ≤ 1000000000, [.d (.i .i64 (chkE c))])
 | _ => none
theorem jll (c : List (List Int)) (ho : c.length ≤ 1000000000) : jaI Tryz.f24 (jar 51 jc8 sp0) (fun _ _ => none) 0 [.r (.recs 5 c)] [.d (.i .i64 (chkE c))] := by
 refine Eq.mp (by kernel_rfl : (
    Ob (c.length ≤ (1000000000 : Nat)) ∧ Ob True ∧ Ob (chkE c = chkE c) ∧ True) = _) ?_
 exact ⟨⟨ho⟩, ⟨trivial⟩, ⟨rfl⟩, trivial⟩
theorem cascadeErr_ok : jah Tryz.prog 24 true (jay gCascadeErr) := by
 refine jaF (sp := (jar 51 jc8 sp0)) (fn := Tryz.f24) (body := jai Tryz.f24) mixed (jaw jjW jam) Tryz.func24 (by kernel_rfl) (by kernel_rfl) fun as_ ob rs h ho => ?_
 unfold gCascadeErr at h
 split at h
 ·rename_i c
  cases h
  exact ⟨Nat.le_of_ble_eq_true rfl, _, _, jll c ho⟩
 ·cases h
end Go.Sx06
end
