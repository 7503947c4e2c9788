/- The iterator over a section's coefficients, for every loop body. -/
import Derived.RangeFuncNested
import Derived.RangeFuncBound
import Derived.RangeFuncCalls
import Derived.RangeFuncLeaves
import Derived.Shelf.Abstract
import Derived.Shelf.RegionOpen
import Derived.WalkKit
import Derived.OwnWalkIn
import Derived.TacticsInMore
import Derived.LoopNIn
import Derived.LoopIn
import Derived.Test.YtndhdojnlobloaaSxU
import Derived.Test.YtndhdojnlobloaaGb
import Derived.Test.YtndhdojnlobloaaProg
set_option linter.unusedSectionVars false
set_option linter.unusedSimpArgs false
set_option linter.unusedVariables false
namespace Go.Sx06
set_option linter.unusedVariables false
open Go Go.Proofs Go.RowKit Go.Shelf Go.Sx
attribute [local go_sem] Oper.semAt_some

theorem Rel.other {ρ : Env} {B : Bd} {N n0 : Nat} {st : St} {a : Act} {w : World} {t : Nat} {v : Value} (h : Rel ρ B N n0 st a w) (ht : getT st.tm t = none) (hlt : t < N) : Rel ρ B N n0 st (a.put (some t) v) w := by
  refine ⟨fun x u hx => ?_, by rw [put_size]; exact h.size, by rw [put_defers]; exact h.defers, h.heap, h.le, h.n0⟩
  have hne : x ≠ t := fun e => by subst e; rw [ht] at hx; cases hx
  rw [put_get (fun y hy => by cases hy; rw [h.size]; exact hlt), if_neg (fun e => hne (Option.some.inj e).symm)]
  exact h.tm x u hx

/-- What a loop body keeps: the cells that lie at or beyond n₁. -/
structure KpC (n1 : Nat) (A C : World) : Prop where
  size : A.heap.size ≤ C.heap.size
  same : ∀ k o, n1 ≤ k → A.heap[k]? = some o → o.isCells = true → C.heap[k]? = some o

def stL (y : Value) (L : List Int) (k : Nat) : St :=
  ⟨[(11, vi .i64 k), (10, vi .i64 5), (9, .w (.c (.o 0))), (0, .w (.c (.d (.v y))))], [(0, .ext (.ints .i64 L))], 1⟩

def stB (y : Value) (b0 b1 b2 a0 a1 : Int) : St :=
  ⟨[(11, vi .i64 0), (10, vi .i64 5), (9, .w (.c (.o 1))), (0, .w (.c (.d (.v y))))], [(1, .row 3 (.ints .i64 [b0, b1, b2, a0, a1])), (0, .box 36 [.d (.i .i64 b0), .d (.i .i64 b1), .d (.i .i64 b2), .d (.i .i64 a0), .d (.i .i64 a1)])], 2⟩

def opsOf : Code → Array Oper
  | .seq (.region _ ops _) _ => ops
  | _ => #[]

/-- Between two rounds: the frame, and the row. -/
structure Bet (n1 : Nat) (y : Value) (L : List Int) (k : Nat) (a : Act) (w : World) : Prop where
  rel : ∃ ρ, Rel ρ (fun x => x < w.heap.size) 22 1 (stL y L k) a w ∧ ∀ ad n cap, ρ 0 = .slice (some ad) n cap → n1 ≤ ad.block

theorem isRow_kept {n1 : Nat} {v : Value} {c : Cont} {A C : World} (h : IsRow A v c) (he : 0 < c.e) (hv : ∀ ad n cap, v = .slice (some ad) n cap → n1 ≤ ad.block) (hk : KpC n1 A C) : IsRow C v c := by
  obtain ⟨a, cap, rfl, hc, hcells⟩ := h
  refine ⟨a, cap, rfl, hc, fun hn => ?_⟩
  obtain ⟨b, off, rfl, hx⟩ := hcells hn
  refine ⟨b, off, rfl, fun j x hj => ?_⟩
  have h1 := hx j x hj
  obtain ⟨o, ho, hoc⟩ := cells_of_cell h1
  have h2 := hk.same b o (hv _ _ _ rfl) ho hoc
  have ho' : A.heap[b]? = some o := ho
  exact (World.cell?_of_block (w := A) (w' := C) (a := ⟨b, off + j, none⟩) (h2.trans ho'.symm)).trans h1

/-- A piece of code without a call of yield. -/
theorem piece {c : Code} {N n0 : Nat} {st st2 : St} {ρ : Env} {a : Act} {w : World} (hr : Rel ρ (fun x => x < w.heap.size) N n0 st a w)
    (h : sx Try.prog (fun _ => none) N n0 0 (fun _ _ _ => none) (fun _ _ _ => False) c 0 [] st (fun e st' => match e with | .normal => Le n0 st' st2 | _ => False)) :
    c.wp Try.prog (fun e a' w' => e = .normal ∧ w.grownBy w' none ∧ ∃ ρ', Rel ρ' (fun x => x < w.heap.size) N n0 st2 a' w' ∧ Agree n0 ρ ρ') a w := by
  refine wp_mono (sx_sound (fun _ _ _ h => by cases h) (fun _ _ _ _ _ _ _ _ h => h.elim) c 0 [] st _ ρ a w h hr (Agree.refl _ _) (Bel.refl _ _)) ?_
  rintro e a' w' ⟨ex, ρ', st', rfl, hk, hr', hag, hbl⟩
  cases ex with
  | normal =>
    obtain ⟨ρ2, hr2, hag2⟩ := Le.rel hk hr'
    exact ⟨rfl, ⟨hbl.os, hbl.tape, hbl.output, hbl.size, fun k hk _ => hbl.block k hk⟩, ρ2, hr2, fun x hx => (hag2 x hx).trans (hag x hx)⟩
  | exit j => exact hk.elim
  | ret => exact hk.elim

/-- The pairs that come: the numbers and the coefficients. -/
def prs (L : List Int) (k : Nat) : List (Nat × Int) := (List.range k).map fun j => (j, L.getD j 0)
theorem prs_succ (L : List Int) (k : Nat) : prs L (k + 1) = prs L k ++ [(k, L.getD k 0)] := by simp [prs, List.range_succ]
theorem prs_length (L : List Int) (k : Nat) : (prs L k).length = k := by simp [prs]


def sub : List Nat → Code → Code
  | [], c => c
  | 0 :: p, .seq x _ => sub p x
  | _ :: p, .seq _ y => sub p y
  | 0 :: p, .cond _ x _ => sub p x
  | _ :: p, .cond _ _ y => sub p y
  | _ :: p, .block _ c => sub p c
  | _ :: p, .loop c => sub p c
  | _, c => c
def bodyOf (f : Func) : Code := f.body.getD .skip

abbrev pc (c : Code) (st st2 : St) : Prop := sx Try.prog (fun _ => none) 22 1 0 (fun _ _ _ => none) (fun _ _ _ => False) c 0 [] st (fun e st' => match e with | .normal => Le 1 st' st2 | _ => False)

def stC (y : Value) (L : List Int) (k : Nat) : St := ⟨(12, vb (decide ((k : Int) < 5))) :: (stL y L k).tm, (stL y L k).hp, 1⟩
def stD (y : Value) (L : List Int) (k : Nat) : St := ⟨(4, vi .i64 (L.getD k 0)) :: (3, vi .i64 k) :: (stL y L k).tm, (stL y L k).hp, 1⟩

set_option maxRecDepth 100000 in
theorem pc1 (y : Value) (L : List Int) (k : Nat) : pc (sub [1, 0, 0, 0] (bodyOf Try.f131)) (stL y L k) (stC y L k) := by
  refine Eq.mp (by kernel_rfl : (Ob ((decide ((k : Int) < 5)) = decide ((k : Int) < 5)) ∧ Ob ((k : Int) = k) ∧ Ob ((5 : Int) = 5) ∧ Ob (y = y) ∧ Ob (L = L) ∧ True) = _) ?_
  exact ⟨⟨rfl⟩, ⟨rfl⟩, ⟨rfl⟩, ⟨rfl⟩, ⟨rfl⟩, trivial⟩

set_option maxRecDepth 100000 in
theorem pc2 (y : Value) (L : List Int) (k : Nat) (hk : k < L.length) : pc (sub [1, 0, 0, 1, 1, 0, 0, 0] (bodyOf Try.f131)) (stC y L k) (stD y L k) := by
  refine Eq.mp (by kernel_rfl : (Ob (0 ≤ (k : Int) ∧ (k : Int) < (L.length : Int)) ∧ Ob ((k : Int).toNat < L.length) ∧ Ob (L.getD (k : Int).toNat 0 = L.getD k 0) ∧ Ob ((k : Int) = k) ∧ Ob ((k : Int) = k) ∧ Ob ((5 : Int) = 5) ∧ Ob (y = y) ∧ Ob (L = L) ∧ True) = _) ?_
  exact ⟨⟨by omega⟩, ⟨by omega⟩, ⟨rfl⟩, ⟨rfl⟩, ⟨rfl⟩, ⟨rfl⟩, ⟨rfl⟩, ⟨rfl⟩, trivial⟩

set_option maxRecDepth 100000 in
theorem pc3 (y : Value) (L : List Int) (k : Nat) (hk : k < 5) : pc (sub [1, 0, 0, 1, 1, 1] (bodyOf Try.f131)) (stL y L k) (stL y L (k + 1)) := by
  refine Eq.mp (by kernel_rfl : (Ob (IntKind.i64.wrap ((k : Int) + 1) = ((k + 1 : Nat) : Int)) ∧ Ob ((5 : Int) = 5) ∧ Ob (y = y) ∧ Ob (L = L) ∧ True) = _) ?_
  refine ⟨⟨?_⟩, ⟨rfl⟩, ⟨rfl⟩, ⟨rfl⟩, trivial⟩
  rw [IntWalk.i64_in _ (by omega)]
  omega

theorem rel_up {ρ : Env} {B : Bd} {N n0 : Nat} {st : St} {a : Act} {w : World} {c : Cont} (h : Rel ρ B N n0 st a w) (hs : st.hp = [(0, .ext c)]) (he : 0 < c.e) : Rel ρ (fun x => x < w.heap.size) N n0 st a w := by
  refine ⟨h.tm, h.size, h.defers, ⟨fun x o hf => ?_, fun x o x' o' b hf hf' hne hb => ?_, fun _ _ h => by cases h⟩, fun k hk => hk, h.n0⟩
  · have h1 := h.heap.ok x o hf
    refine ⟨h1.1, h1.2.1, ?_⟩
    rw [hs] at hf
    simp only [find] at hf
    split at hf
    · cases hf
      exact ⟨h1.2.2.1, h1.2.2.1.lt he⟩
    · cases hf
  · rw [hs] at hf
    simp only [find] at hf
    split at hf
    · cases hf; cases hb
    · cases hf

theorem wpIn_move {o : Oper} {x : Operand} {n : Nat} {a : Act} {w : World} {K : Act → World → Prop} {Q : Exit → Act → World → Prop} (ho : o.op = .move x) (h : K (a.put o.dst (a.eval x)) w) : o.wpIn Fence.wide n Try.prog a w K Q := by
  refine ⟨fun _ _ => trivial, ?_⟩
  have : ((o.semAt Fence.wide.round a.eval).run Try.prog w) = .ok (.value (a.eval x)) w := by
    rw [Fence.wide_round, Oper.semAt_none]
    unfold execOp
    simp only [ho, Sem.run_pure]
  rw [this]
  exact h

theorem getT_stL {y : Value} {L : List Int} {k t : Nat} (h : t ≠ 11 ∧ t ≠ 10 ∧ t ≠ 9 ∧ t ≠ 0) : getT (stL y L k).tm t = none := by
  simp only [stL, getT]
  rw [if_neg (Ne.symm h.1), if_neg (Ne.symm h.2.1), if_neg (Ne.symm h.2.2.1), if_neg (Ne.symm h.2.2.2)]

set_option maxRecDepth 100000 in
set_option maxHeartbeats 2000000 in
theorem coef_loop (n l n1 : Nat) (L : List Int) (hL : L.length = 5) (J Jx : List (Nat × Int) → World → Prop)
    (hY : ∀ pre x W, J pre W → pre.length < 5 → YieldAt Fence.wide (n - 1) Try.prog l #[.int .i64 (x.1 : Int), .int .i64 x.2] W fun e W' =>
      (e = .returned (.bool true) ∧ J (pre ++ [x]) W' ∧ KpC n1 W W') ∨ (e = .returned (.bool false) ∧ Jx (pre ++ [x]) W'))
    (hJ : ∀ A B pre, J pre A → A.grownBy B none → J pre B) (a : Act) (w : World) (hb : Bet n1 (.func (.yield l) #[] #[]) L 0 a w) (hj0 : J (prs L 0) w) :
    (sub [1] (bodyOf Try.f131)).wpIn Fence.wide n Try.prog (bodyPost Try.prog Try.f131 fun e W' => (∃ v, e = .returned v) ∧
      ((∃ ys, ys = prs L 5 ∧ J ys W') ∨ (∃ pre, (∃ k, k ≤ 5 ∧ pre = prs L k) ∧ Jx pre W'))) a w := by
  refine wpIn_block (wpIn_loop (fun a w => ∃ k, k ≤ 5 ∧ Bet n1 (.func (.yield l) #[] #[]) L k a w ∧ J (prs L k) w) (fun a _ => 5 - (intOf (a.tmps.getD 11 undef)).toNat) ⟨0, by omega, hb, hj0⟩ ?_)
  rintro a w ⟨k, hk, ⟨ρ, hr, hge⟩, hj⟩
  have hmu : (intOf (a.tmps.getD 11 undef)).toNat = k := by
    rw [(hr.tm 11 _ rfl).2]
    simp [intOf]
  rw [hmu]
  refine wpIn_seq (wpIn_wide.2 (wp_mono (piece hr (pc1 _ L k)) ?_))
  rintro e a1 w1 ⟨rfl, hg1, ρ1, hr1, hag1⟩
  have hj1 := hJ _ _ _ hj hg1
  have hc : a1.eval (.tmp 12) = .bool (decide ((k : Int) < 5)) := (hr1.tm 12 _ rfl).2
  by_cases hlt : k < 5
  · refine wpIn_seq (wpIn_cond_true (by rw [hc, decide_eq_true (by omega)]) (wpIn_skip ?_))
    refine wpIn_seq (wpIn_block (wpIn_seq (wpIn_wide.2 (wp_mono (piece (rel_up hr1 rfl (Nat.lt_succ_self 0)) (pc2 _ L k (by omega))) ?_))))
    rintro e a2 w2 ⟨rfl, hg2, ρ2, hr2, hag2⟩
    have hj2 := hJ _ _ _ hj1 hg2
    obtain ⟨fn, tmps, assign, body, hy, hR⟩ := hY (prs L k) (k, L.getD k 0) w2 hj2 (by rw [prs_length]; exact hlt)
    have hr2L : Rel ρ2 (fun x => x < w2.heap.size) 22 1 (stL (.func (.yield l) #[] #[]) L k) a2 w2 := by
      have := rel_up hr2 (c := .ints .i64 L) rfl (Nat.lt_succ_self 0)
      refine ⟨fun t v hv => this.tm t v ?_, this.size, this.defers, this.heap, this.le, this.n0⟩
      have hne : t ≠ 4 ∧ t ≠ 3 := ⟨(fun e => by subst e; rw [getT_stL (by decide)] at hv; cases hv), (fun e => by subst e; rw [getT_stL (by decide)] at hv; cases hv)⟩
      show getT ((4, _) :: (3, _) :: _) t = some v
      simp only [getT]
      rw [if_neg (Ne.symm hne.1), if_neg (Ne.symm hne.2)]
      exact hv
    have e3 : a2.tmps.getD 3 undef = .int .i64 k := (hr2.tm 3 _ rfl).2
    have e4 : a2.tmps.getD 4 undef = .int .i64 (L.getD k 0) := (hr2.tm 4 _ rfl).2
    have e0 : a2.tmps.getD 0 undef = .func (.yield l) #[] #[] := (hr2.tm 0 _ rfl).2
    have hge2 : ∀ ad n cap, ρ2 0 = .slice (some ad) n cap → n1 ≤ ad.block := fun ad n cap h => hge ad n cap (by rw [← hag1 0 (Nat.lt_succ_self 0), ← hag2 0 (Nat.lt_succ_self 0)]; exact h)
    refine wpIn_seq (wpIn_region_list ?_)
    refine wpListIn_plain rfl fun K hK => wpIn_move rfl (hK _ _ ?_)
    refine wpListIn_plain rfl fun K hK => wpIn_move rfl (hK _ _ ?_)
    refine wpListIn_plain rfl fun K hK => wpIn_move rfl (hK _ _ ?_)
    have hsz : a2.tmps.size = 22 := hr2L.size
    obtain ⟨a3, ha3⟩ : ∃ a3, a3 = ((a2.put (some 16) (a2.eval (.tmp 0))).put (some 17) ((a2.put (some 16) (a2.eval (.tmp 0))).eval (.tmp 3))).put (some 18) (((a2.put (some 16) (a2.eval (.tmp 0))).put (some 17) ((a2.put (some 16) (a2.eval (.tmp 0))).eval (.tmp 3))).eval (.tmp 4)) := ⟨_, rfl⟩
    have hr3 : Rel ρ2 (fun x => x < w2.heap.size) 22 1 (stL (.func (.yield l) #[] #[]) L k) a3 w2 := by
      rw [ha3]
      exact Rel.other (Rel.other (Rel.other hr2L (getT_stL (by decide)) (by decide)) (getT_stL (by decide)) (by decide)) (getT_stL (by decide)) (by decide)
    have g16 : a3.eval (.tmp 16) = .func (.yield l) #[] #[] := by
      rw [ha3]
      show (Act.put _ (some 18) _).tmps.getD 16 undef = _
      rw [put_get (fun x hx => by cases hx; simp [put_size, hsz]), if_neg (by decide), put_get (fun x hx => by cases hx; simp [put_size, hsz]), if_neg (by decide), put_get (fun x hx => by cases hx; simp [hsz]), if_pos rfl]
      exact e0
    have g17 : a3.eval (.tmp 17) = .int .i64 k := by
      rw [ha3]
      show (Act.put _ (some 18) _).tmps.getD 17 undef = _
      rw [put_get (fun x hx => by cases hx; simp [put_size, hsz]), if_neg (by decide), put_get (fun x hx => by cases hx; simp [put_size, hsz]), if_pos rfl]
      show (Act.put _ (some 16) _).tmps.getD 3 undef = _
      rw [put_get (fun x hx => by cases hx; simp [hsz]), if_neg (by decide)]
      exact e3
    have g18 : a3.eval (.tmp 18) = .int .i64 (L.getD k 0) := by
      rw [ha3]
      show (Act.put _ (some 18) _).tmps.getD 18 undef = _
      rw [put_get (fun x hx => by cases hx; simp [put_size, hsz]), if_pos rfl]
      show (Act.put _ (some 17) _).tmps.getD 4 undef = _
      rw [put_get (fun x hx => by cases hx; simp [put_size, hsz]), if_neg (by decide), put_get (fun x hx => by cases hx; simp [hsz]), if_neg (by decide)]
      exact e4
    have hsz3 : a3.tmps.size = 22 := hr3.size
    rw [← ha3]
    clear ha3
    refine wpListIn_plain rfl fun K hK => ⟨fun _ _ => trivial, ?_⟩
    have hcall : ∀ o : Oper, o.op = .call { callee := .value (.tmp 16), args := #[.tmp 17, .tmp 18], argTypes := #[3, 3] } → ((o.semAt Fence.wide.round a3.eval).run Try.prog w2) = .ok (.round l fn tmps assign body) w2 := by
      intro o ho
      rw [Fence.wide_round, Oper.semAt_none]
      unfold execOp
      simp only [ho, resolve, g16, Deferred.ofValue, Sem.run_bind, Sem.run_pure, Result.andThen_ok, invoke, List.map_toArray, List.map_cons, List.map_nil, g17, g18]
      exact hy
    rw [hcall _ rfl]
    refine ⟨(fun h => by cases h), hR.mono ?_⟩
    have hnot : ∀ (o : Oper) (b : Bool) (w3 : World), o.op = .unOp .not 4 (.tmp 19) → ((o.semAt Fence.wide.round (a3.put (some 19) (.bool b)).eval).run Try.prog w3) = .ok (.value (.bool !b)) w3 := by
      intro o b w3 ho
      have h19 : (a3.put (some 19) (.bool b)).eval (.tmp 19) = .bool b := by
        show (Act.put _ (some 19) _).tmps.getD 19 undef = _
        rw [put_get (fun x hx => by cases hx; simp [hsz3]), if_pos rfl]
      rw [Fence.wide_round, Oper.semAt_none]
      unfold execOp
      simp only [ho, h19]
      rfl
    have h20 : ∀ b, ((a3.put (some 19) (.bool b)).put (some 20) (.bool !b)).eval (.tmp 20) = .bool !b := fun b => by
      show (Act.put _ (some 20) _).tmps.getD 20 undef = _
      rw [put_get (fun x hx => by cases hx; simp [put_size, hsz3]), if_pos rfl]
    have hr5 : ∀ b, Rel ρ2 (fun x => x < w2.heap.size) 22 1 (stL (.func (.yield l) #[] #[]) L k) ((a3.put (some 19) (.bool b)).put (some 20) (.bool !b)) w2 := fun b =>
      Rel.other (Rel.other hr3 (getT_stL (by decide)) (by decide)) (getT_stL (by decide)) (by decide)
    rintro e w3 (⟨rfl, hj3, hk3⟩ | ⟨rfl, hj3⟩)
    · refine hK _ _ (wpListIn_plain rfl fun K hK => ⟨fun _ _ => trivial, ?_⟩)
      rw [hnot _ true w3 rfl]
      refine hK _ _ (wpListIn_nil ?_)
      refine wpIn_cond_false (h20 true) (wpIn_skip ?_)
      have h5 := hr5 true
      have hrow3 : IsRow w3 (ρ2 0) (.ints .i64 L) := isRow_kept (hr2L.heap.ok 0 _ rfl).2.2.1 (Nat.lt_succ_self 0) hge2 hk3
      have h6 : Rel ρ2 (fun x => x < w3.heap.size) 22 1 (stL (.func (.yield l) #[] #[]) L k) ((a3.put (some 19) (.bool true)).put (some 20) (.bool !true)) w3 := by
        refine ⟨h5.tm, h5.size, h5.defers, ⟨fun x o hf => ?_, fun x o x' o' b hf hf' hne hb => ?_, fun _ _ h => by cases h⟩, fun k hk => hk, h5.n0⟩
        · simp only [stL, find] at hf
          split at hf
          · rename_i e; subst e; cases hf
            exact ⟨Nat.lt_succ_self 0, trivial, hrow3, hrow3.lt (Nat.lt_succ_self 0)⟩
          · cases hf
        · simp only [stL, find] at hf
          split at hf
          · cases hf; cases hb
          · cases hf
      refine wpIn_wide.2 (wp_mono (piece h6 (pc3 _ L k hlt)) ?_)
      rintro e a7 w7 ⟨rfl, hg7, ρ7, hr7, hag7⟩
      refine ⟨⟨k + 1, by omega, ⟨ρ7, rel_up hr7 (c := .ints .i64 L) rfl (Nat.lt_succ_self 0), fun ad n cap h => hge2 ad n cap (by rw [← hag7 0 (Nat.lt_succ_self 0)]; exact h)⟩, ?_⟩, ?_⟩
      · rw [prs_succ]
        exact hJ _ _ _ hj3 hg7
      · rw [(hr7.tm 11 _ rfl).2]
        simp [intOf]
        omega
    · refine hK _ _ (wpListIn_plain rfl fun K hK => ⟨fun _ _ => trivial, ?_⟩)
      rw [hnot _ false w3 rfl]
      refine hK _ _ (wpListIn_nil ?_)
      refine wpIn_cond_true (h20 false) (wpIn_ret ?_)
      refine ⟨(hr5 false).defers, .tuple #[], results_none rfl _ _ _, ⟨_, rfl⟩, .inr ⟨_, ⟨k + 1, by omega, rfl⟩, ?_⟩⟩
      rw [prs_succ]
      exact hj3
  · have hk5 : k = 5 := by omega
    subst hk5
    refine wpIn_seq (wpIn_cond_false (by rw [hc, decide_eq_false (by omega)]) (wpIn_exit ?_))
    refine ⟨hr1.defers, .tuple #[], ?_, ⟨_, rfl⟩, .inl ⟨_, rfl, hj1⟩⟩
    exact results_none rfl _ _ _

set_option maxRecDepth 100000 in
set_option maxHeartbeats 2000000 in
theorem coef1_in (n l Bs n1 : Nat) (b0 b1 b2 a0 a1 : Int) (J Jx : List (Nat × Int) → World → Prop)
    (hY : ∀ pre x W, J pre W → pre.length < 5 → YieldAt Fence.wide (n - 1) Try.prog l #[.int .i64 (x.1 : Int), .int .i64 x.2] W fun e W' =>
      (e = .returned (.bool true) ∧ J (pre ++ [x]) W' ∧ KpC n1 W W') ∨ (e = .returned (.bool false) ∧ Jx (pre ++ [x]) W'))
    (W : World) (hn1 : n1 ≤ W.heap.size) (hJ : AbidesFrom W.heap.size J) (hBs : W.heap[Bs]? = some (.cells #[.int .i64 b0, .int .i64 b1, .int .i64 b2, .int .i64 a0, .int .i64 a1] 36 (0, 0))) (h0 : J [] W) :
    CallsIn Fence.wide n Try.prog 131 #[.func (.yield l) #[] #[], .pointer (some ⟨Bs, 0, none⟩)] W fun e W' => (∃ v, e = .returned v) ∧
      ((∃ ys, ys = prs [b0, b1, b2, a0, a1] 5 ∧ J ys W') ∨ (∃ pre, (∃ k, k ≤ 5 ∧ pre = prs [b0, b1, b2, a0, a1] k) ∧ Jx pre W')) := by
  refine callsIn_of_wp Try.func131 rfl trivial ?_ rfl
  refine wpIn_seq (wpIn_wide.2 ?_)
  have hBlt : Bs < W.heap.size := (Array.getElem?_eq_some_iff.1 hBs).1
  let ρ : Env := fun _ => .pointer (some ⟨Bs, 0, none⟩)
  let y : Value := .func (.yield l) #[] #[]
  have hsp : SpecsOK Try.prog (fun _ => none) := fun _ _ _ h => by cases h
  refine drawn_ok (N := 22) (n0 := 1) (B := fun k => k < W.heap.size ∧ k ≠ Bs) (ρ0 := ρ) (w0 := W) (st := ⟨[(0, .w (.c (.d (.v y)))), (1, .w (.c (.p 0 0 1 0)))], [(0, .box 36 [.d (.i .i64 b0), .d (.i .i64 b1), .d (.i .i64 b2), .d (.i .i64 a0), .d (.i .i64 a1)])], 1⟩)
    (k := fun st => Le 1 st (stB y b0 b1 b2 a0 a1)) (by kernel_rfl) hsp _ _ ρ _ _ _ ?vc ?rel (Agree.refl _ _) (Bel.refl _ _) ?next
  case vc =>
    refine Eq.mp (by kernel_rfl : (Ob True ∧ Ob True ∧ Ob (0 < 3 ∧ 0 < 2 ∧ (3 + 2) * 8 ≤ 140737488355328 ∧ 3 + 2 ≤ 9223372036854775807) ∧
      Le 1 ⟨[(11, vi .i64 0), (10, vi .i64 5), (9, .w (.c (.o 3))), (8, .w (.c (.o 2))), (7, .w (.c (.p 0 0 1 3))), (6, .w (.c (.o 1))), (5, .w (.c (.p 0 0 1 0))), (0, .w (.c (.d (.v y)))), (1, .w (.c (.p 0 0 1 0)))],
        [(3, .row 3 (.ints .i64 [b0, b1, b2, a0, a1])), (2, .view 0 (.ints .i64 [a0, a1]) true), (1, .view 0 (.ints .i64 [b0, b1, b2]) true), (0, .box 36 [.d (.i .i64 b0), .d (.i .i64 b1), .d (.i .i64 b2), .d (.i .i64 a0), .d (.i .i64 a1)])], 4⟩ (stB y b0 b1 b2 a0 a1)) = _) ?_
    refine ⟨⟨trivial⟩, ⟨trivial⟩, ⟨by decide⟩, ?_⟩
    refine Eq.mp (by kernel_rfl : ((Ob ((0 : Int) = 0) ∧ Ob ((5 : Int) = 5) ∧ Ob (y = y) ∧ Ob ([b0, b1, b2, a0, a1] = [b0, b1, b2, a0, a1]) ∧ Ob (b0 = b0) ∧ Ob (b1 = b1) ∧ Ob (b2 = b2) ∧ Ob (a0 = a0) ∧ Ob (a1 = a1) ∧ True)) = _) ?_
    exact ⟨⟨rfl⟩, ⟨rfl⟩, ⟨rfl⟩, ⟨rfl⟩, ⟨rfl⟩, ⟨rfl⟩, ⟨rfl⟩, ⟨rfl⟩, ⟨rfl⟩, trivial⟩
  case rel =>
    refine rel_enter (N := 22) (n0 := 1) (args := [.w (.c (.d (.v y))), .w (.c (.p 0 0 1 0))]) (Nat.le_of_ble_eq_true rfl) (fun x hx => ?_) (Nat.le_refl _) ρ W ⟨fun x o hf => ?_, fun x o x' o' b hf hf' hne hb => ?_, fun _ _ h => by cases h⟩ (fun k hk => hk.1)
    · simp only [List.mem_cons, List.not_mem_nil, or_false] at hx
      rcases hx with rfl | rfl
      · trivial
      · exact Nat.lt_succ_self 0
    · simp only [find] at hf
      split at hf
      · rename_i e; subst e; cases hf
        exact ⟨Nat.lt_succ_self 0, (fun c hc => by simp at hc; rcases hc with rfl | rfl | rfl | rfl | rfl <;> trivial), Bs, rfl, fun h => h.2 rfl, hBs⟩
      · cases hf
    · simp only [find] at hf hf'
      split at hf
      · rename_i e; subst e
        rw [if_neg hne] at hf'
        cases hf'
      · cases hf
  case next =>
    rintro ρ1 st1 a1' w1 hr1 hag1 hbl1 hle
    obtain ⟨ρ2, hr2, hag2⟩ := hle.rel hr1
    have hbk : ρ2 0 = .pointer (some ⟨Bs, 0, none⟩) := (hag2 0 (Nat.lt_succ_self 0)).trans (hag1 0 (Nat.lt_succ_self 0))
    -- the heap has only grown
    have hgr : W.grownBy w1 none := by
      refine ⟨hbl1.os, hbl1.tape, hbl1.output, hbl1.size, fun k hk _ => ?_⟩
      by_cases e : k = Bs
      · subst e
        obtain ⟨_, _, g, hg, _, hheap⟩ := hr2.heap.ok 0 _ rfl
        rw [hbk] at hg
        have e : g = k := by
          have : some (⟨k, 0, none⟩ : Addr) = some ⟨g, 0, none⟩ := Value.pointer.inj hg
          cases this
          rfl
        subst e
        rw [hheap, hBs]
        rfl
      · exact hbl1.block k ⟨hk, e⟩
    have hJ1 : J (prs [b0, b1, b2, a0, a1] 0) w1 := hJ [] W w1 none h0 hgr (fun r e => by cases e)
    have hge : ∀ g, (ρ2 1).ownBlock = some g → n1 ≤ g := fun g hg => by
      have h3 := (hr2.heap.ok 1 _ rfl).2.2.2 g hg
      have hne : g ≠ Bs := fun e => hr2.heap.apart 1 _ 0 _ g rfl rfl (by decide) hg (by rw [hbk, e]; rfl)
      have : ¬ g < W.heap.size := fun hl => h3 ⟨hl, hne⟩
      omega
    have hrow : IsRow w1 (ρ2 1) (.ints .i64 [b0, b1, b2, a0, a1]) := row_isRow (hr2.heap.ok 1 _ rfl).2.2 rfl
    have hbet : Bet n1 y [b0, b1, b2, a0, a1] 0 a1' w1 := by
      refine ⟨fun _ => ρ2 1, ⟨fun t v hv => ?_, hr2.size, hr2.defers, ⟨fun x o hf => ?_, fun x o x' o' b hf hf' hne hb => ?_, fun _ _ h => by cases h⟩, fun k hk => hk, Nat.le_refl _⟩, fun ad n cap hv => hge _ (by have hv' : ρ2 1 = _ := hv; rw [hv']; rfl)⟩
      · simp only [stL, getT] at hv
        split at hv
        · rename_i e; subst e; cases hv; exact ⟨trivial, (hr2.tm 11 _ rfl).2⟩
        · split at hv
          · rename_i e; subst e; cases hv; exact ⟨trivial, (hr2.tm 10 _ rfl).2⟩
          · split at hv
            · rename_i e; subst e; cases hv; exact ⟨Nat.lt_succ_self 0, (hr2.tm 9 _ rfl).2⟩
            · split at hv
              · rename_i e; subst e; cases hv; exact ⟨trivial, (hr2.tm 0 _ rfl).2⟩
              · cases hv
      · simp only [stL, find] at hf
        split at hf
        · rename_i e; subst e; cases hf
          exact ⟨Nat.lt_succ_self 0, trivial, hrow, hrow.lt (Nat.lt_succ_self 0)⟩
        · cases hf
      · simp only [stL, find] at hf
        split at hf
        · cases hf; cases hb
        · cases hf
    clear hr2 hr1 hbk hge hrow
    have hge1 : 1 ≤ 1 := Nat.le_refl 1
    exact coef_loop n l n1 [b0, b1, b2, a0, a1] rfl J Jx hY (fun A B pre hj hg => hJ pre A B none hj hg (fun r e => by cases e)) a1' w1 hbet hJ1

end Go.Sx06
