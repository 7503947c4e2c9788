/- Part 5 of the proof of FigureCentresCard: the executor, the mirrors of the functions, the plain facts. -/
import Derived.Test.YtcklfboglnfepaaGreatDoorPD
set_option linter.unusedSectionVars false
set_option linter.unusedSimpArgs false
set_option linter.unusedVariables false
section
open Go.RowKit
namespace Go.Sh
open Go Go.Proofs Go.RowKit Go.Sx
set_option linter.unusedVariables false
theorem iniS_len {zs : List (List Int)} (tail : Int) (h : zs.length ≤ 17592186044416) : (iniS zs tail).length = zs.length + 1 := by
  unfold iniS
  rw [List.length_set, List.length_replicate, show IntKind.wrap IntKind.i64 ((zs.length : Int) + 1) = (zs.length : Int) + 1 from IntWalk.i64_in _ (by omega)]
  omega
theorem upS_len (ss : List (List Int)) (i lo hi : Int) : (upS ss i lo hi).length = ss.length := by
  unfold upS
  rw [List.length_set]
theorem sumsOf_snoc (zs : List (List Int)) (tail : Int) (pre : List (Fin zs.length)) (x : Fin zs.length) : sumsOf zs tail (pre ++ [x]) = upS (sumsOf zs tail pre) (x.1 : Int) ((zs.getD x.1 []).getD 0 0) ((zs.getD x.1 []).getD 1 0) := by
  unfold sumsOf
  rw [List.foldl_append]
  rfl
theorem sumsOf_len {zs : List (List Int)} (tail : Int) (h : zs.length ≤ 17592186044416) (pre : List (Fin zs.length)) : (sumsOf zs tail pre).length = zs.length + 1 := by
  unfold sumsOf
  have : ∀ (pre : List (Fin zs.length)) (ss : List (List Int)), ss.length = zs.length + 1 → (pre.foldl (fun ss x => upS ss (x.1 : Int) ((zs.getD x.1 []).getD 0 0) ((zs.getD x.1 []).getD 1 0)) ss).length = zs.length + 1 := by
    intro pre
    induction pre with
    | nil => exact fun ss h => h
    | cons x l ih => exact fun ss h => ih _ ((upS_len _ _ _ _).trans h)
  exact this pre _ (iniS_len tail h)
section
variable {rate : Int} {samples : List Nat} {noise tail : Int} {zs ss : List (List Int)}
theorem hpT_find {h : Nat} {o : O} (hf : find (hpT rate samples noise tail zs ss) h = some o) :
    (h = 1 ∧ o = .box 26 [.d (.i .i64 rate), .o 0, .d (.i .i64 noise), .d (.i .i64 tail)]) ∨ (h = 2 ∧ o = .box 105 [.p 3 (0 : Nat) 1 (0 : Nat)]) ∨ (h = 0 ∧ o = .ext (.floats .f32 samples)) ∨
    (h = 3 ∧ o = .box 133 [.d (.i .i64 rate), .o 0, .d (.i .i64 noise), .d (.i .i64 tail), .o 4, .o 5]) ∨ (h = 4 ∧ o = .row 30 (.recs 2 zs)) ∨ (h = 5 ∧ o = .row 30 (.recs 2 ss)) ∨ (h = 6 ∧ o = .box 81 [.o 4]) := by
  simp only [hpT, find] at hf
  split at hf
  · rename_i e; cases hf; exact .inl ⟨e.symm, rfl⟩
  split at hf
  · rename_i e; cases hf; exact .inr (.inl ⟨e.symm, rfl⟩)
  split at hf
  · rename_i e; cases hf; exact .inr (.inr (.inl ⟨e.symm, rfl⟩))
  split at hf
  · rename_i e; cases hf; exact .inr (.inr (.inr (.inl ⟨e.symm, rfl⟩)))
  split at hf
  · rename_i e; cases hf; exact .inr (.inr (.inr (.inr (.inl ⟨e.symm, rfl⟩))))
  split at hf
  · rename_i e; cases hf; exact .inr (.inr (.inr (.inr (.inr (.inl ⟨e.symm, rfl⟩)))))
  split at hf
  · rename_i e; cases hf; exact .inr (.inr (.inr (.inr (.inr (.inr ⟨e.symm, rfl⟩)))))
  · cases hf
theorem hpT_rng {h : Nat} {o : O} (hf : find (hpT rate samples noise tail zs ss) h = some o) : rngO o = true := by
  rcases hpT_find hf with ⟨_, rfl⟩ | ⟨_, rfl⟩ | ⟨_, rfl⟩ | ⟨_, rfl⟩ | ⟨_, rfl⟩ | ⟨_, rfl⟩ | ⟨_, rfl⟩ <;> rfl
theorem hpT_lt {h : Nat} {o : O} (hf : find (hpT rate samples noise tail zs ss) h = some o) : h < 7 ∧ o.lt 7 := by
  have L : ∀ (l : List C), l.all (fun c => match c with | .d _ => true | .o h => h < 7 | .p h _ _ _ => h < 7 | _ => false) = true → ∀ c ∈ l, C.lt 7 c := by
    intro l hl c hc
    have := List.all_eq_true.1 hl c hc
    cases c with
    | d x => trivial
    | o h => exact (show h < 7 from of_decide_eq_true this)
    | p h i e j => exact (show h < 7 from of_decide_eq_true this)
    | _ => cases this
  rcases hpT_find hf with ⟨rfl, rfl⟩ | ⟨rfl, rfl⟩ | ⟨rfl, rfl⟩ | ⟨rfl, rfl⟩ | ⟨rfl, rfl⟩ | ⟨rfl, rfl⟩ | ⟨rfl, rfl⟩
  · exact ⟨by decide, L _ rfl⟩
  · exact ⟨by decide, L _ rfl⟩
  · exact ⟨by decide, trivial⟩
  · exact ⟨by decide, L _ rfl⟩
  · exact ⟨by decide, trivial⟩
  · exact ⟨by decide, trivial⟩
  · exact ⟨by decide, L _ rfl⟩
theorem hpT_blk {ρ : Env} {h k : Nat} {o : O} (s2 : List (List Int)) (hf : find (hpT rate samples noise tail zs ss) h = some o) (hb : o.blk (ρ h) = some k) : ∃ o', find (hpT rate samples noise tail zs s2) h = some o' ∧ o'.blk (ρ h) = some k := by
  rcases hpT_find hf with ⟨rfl, rfl⟩ | ⟨rfl, rfl⟩ | ⟨rfl, rfl⟩ | ⟨rfl, rfl⟩ | ⟨rfl, rfl⟩ | ⟨rfl, rfl⟩ | ⟨rfl, rfl⟩
  all_goals exact ⟨_, rfl, hb⟩
end
theorem cut_nx {ρ : Env} {B : Bd} {hp hp' : Hp} {n n' : Nat} {w : World} (h : HRel ρ B hp n w) (hs : ∀ k o, find hp' k = some o → find hp k = some o ∧ k < n' ∧ o.lt n') : HRel ρ B hp' n' w :=
  ⟨fun k o hf => ⟨(hs k o hf).2.1, (hs k o hf).2.2, (h.ok k o (hs k o hf).1).2.2⟩, fun k o k' o' b hf hf' => h.apart k o k' o' b (hs k o hf).1 (hs k' o' hf').1, h.glob⟩
theorem ext_bel {ρ : Env} {B : Bd} {w w' : World} {h : Nat} {c : Cont} (hb : Bel B w w') (ho : (O.ext c).ok ρ B w h) : (O.ext c).ok ρ B w' h := by
  obtain ⟨⟨a, cap, h1, h2, h3⟩, h4⟩ := ho
  refine ⟨⟨a, cap, h1, h2, fun hn => ?_⟩, h4⟩
  obtain ⟨b, off, rfl, hx⟩ := h3 hn
  exact ⟨b, off, rfl, fun j x hj => (hb.cell (p := ⟨b, off + j, none⟩) (h4 ⟨b, off, none⟩ _ _ h1 hn)).trans (hx j x hj)⟩
theorem cell_block {W : World} {k : Nat} {v : Value} {t : Nat} {f : Nat × Nat} (h : W.heap[k]? = some (.cells #[v] t f)) : W.cell? ⟨k, 0, none⟩ = some v := by
  simp [World.cell?, h]
theorem cell_put {W : World} {p : Addr} {v : Value} {l : Nat} {o o' : Obj} (h : W.cell? p = some v) (hl : W.heap[l]? = some o) (ho : o.isCells = false) : (W.putObj l o').cell? p = some v := by
  have hlt := World.block_lt_of_cell? W p h
  have hne : p.block ≠ l := by
    intro e
    subst e
    have : W.cell? p = none := by
      unfold World.cell?
      rw [hl]
      cases o <;> first | rfl | cases ho
    rw [this] at h
    cases h
  have hb : (W.putObj l o').heap[p.block]? = W.heap[p.block]? := (grownBy_putObj' W l o').block p.block hlt (fun e => hne (Option.some.inj e))
  exact (World.cell?_of_block (w := W) hb).trans h
theorem rd_put {kb : Nat} {sv : Value} {zs : List (List Int)} {W : World} {l : Nat} {o o' : Obj} (h : Bk.Rd kb sv zs W) (hl : W.heap[l]? = some o) (ho : o.isCells = false) : Bk.Rd kb sv zs (W.putObj l o') := by
  refine ⟨cell_put h.box hl ho, ?_⟩
  obtain ⟨a, cap, h1, h2, h3⟩ := h.row
  refine ⟨a, cap, h1, h2, fun hn => ?_⟩
  obtain ⟨b, off, hab, hx⟩ := h3 hn
  exact ⟨b, off, hab, fun j x hj => cell_put (hx j x hj) hl ho⟩
structure OI (ρ : Env) (B : Bd) (rate : Int) (samples : List Nat) (noise tail : Int) (zs : List (List Int)) (w0 : World) (pre : List (Fin zs.length)) (W : World) : Prop where
  heap : HRel ρ B (hpT rate samples noise tail zs (sumsOf zs tail pre)) 7 W
  bel : Bel B w0 W
  old : Old B W
section
variable {ρ : Env} {B : Bd} {rate : Int} {samples : List Nat} {noise tail : Int} {zs : List (List Int)} {w0 : World}
theorem OI.own (h0 : Old B w0) : OwnFrom w0.heap.size (OI ρ B rate samples noise tail zs w0) := by
  intro pre W W' row hs hg hr
  have hnB : ∀ k, B k → row ≠ some k := fun k hk e => by
    have h1 := (hr k e).1
    have h2 := h0 k hk
    omega
  refine ⟨hs.heap.grown hg hs.old (fun r e => ⟨fun hb => hnB r hb e, (hr r e).2⟩) (fun h o hf => hpT_rng hf), hs.bel.trans ⟨hg.os, hg.tape, hg.output, hg.size, fun k hk => hg.block k (hs.old k hk) (fun e => hnB k hk e.symm)⟩, fun k hk => Nat.lt_of_lt_of_le (hs.old k hk) hg.size⟩
theorem OI.rd {pre : List (Fin zs.length)} {W : World} (h : OI ρ B rate samples noise tail zs w0 pre W) {kb : Nat} (hk : ρ 6 = .pointer (some ⟨kb, 0, none⟩)) : Bk.Rd kb (ρ 4) zs W := by
  obtain ⟨_, _, k, h1, _, h3⟩ := h.heap.ok 6 _ rfl
  rw [hk] at h1
  cases h1
  exact ⟨cell_block h3, row_isRow (h.heap.ok 4 _ rfl).2.2 rfl⟩
end
def OA (y : Value) (zs : List (List Int)) (w0 : World) (x : Fin zs.length) (a : Act) (W : World) : Prop :=
  a.tmps.size = 109 ∧ a.defers = [] ∧ a.tmps.getD 6 undef = y ∧ a.tmps.getD 12 undef = .int .i64 (x.1 : Int) ∧
  ∃ b, w0.heap.size ≤ b ∧ a.tmps.getD 13 undef = .pointer (some ⟨b, 0, none⟩) ∧ W.heap[b]? = some (.cells #[.int .i64 ((zs.getD x.1 []).getD 0 0), .int .i64 ((zs.getD x.1 []).getD 1 0)] 30 (0, 0))
theorem OA.own {y : Value} {zs : List (List Int)} {w0 : World} (x : Fin zs.length) (a : Act) : OwnFrom w0.heap.size (fun (_ : Unit) W => OA y zs w0 x a W) := by
  rintro _ W W' row ⟨h1, h2, h3, h4, b, h5, h6, h7⟩ hg hr
  refine ⟨h1, h2, h3, h4, b, h5, h6, (hg.block b (Array.getElem?_eq_some_iff.1 h7).1 (fun e => ?_)).trans h7⟩
  obtain ⟨_, o, ho, hc⟩ := hr b e.symm
  rw [h7] at ho
  cases ho
  cases hc
theorem tms {a : Act} {y : Value} {i lo hi : Int} (hs : a.tmps.size = 109) (hy : a.tmps.getD 6 undef = y) {t : Nat} {v : V} {ρ : Env} (hv : getT (stA y i lo hi).tm t = some v) :
    V.lt 0 v ∧ (((#[90, 91] : Array Tmp).zip #[.int .i64 i, .agg #[.int .i64 lo, .int .i64 hi]]).foldl (fun t (p, v) => t.setIfInBounds p v) a.tmps).getD t undef = v.val ρ := by
  have e : ((#[90, 91] : Array Tmp).zip #[Value.int .i64 i, .agg #[.int .i64 lo, .int .i64 hi]]).foldl (fun t (p, v) => t.setIfInBounds p v) a.tmps = (a.tmps.setIfInBounds 90 (.int .i64 i)).setIfInBounds 91 (.agg #[.int .i64 lo, .int .i64 hi]) := by simp
  rw [e]
  simp only [stA, getT] at hv
  split at hv
  · rename_i e; subst e; cases hv
    refine ⟨trivial, ?_⟩
    rw [← hy]
    simp [Array.getD, hs, V.val, W.val, C.val, D.val, Array.getElem_setIfInBounds]
  split at hv
  · rename_i e; subst e; cases hv
    exact ⟨trivial, by simp [Array.getD, hs, V.val, W.val, C.val, D.val, vi, Array.getElem_setIfInBounds]⟩
  split at hv
  · rename_i e; subst e; cases hv
    refine ⟨fun c hc => ?_, by simp [Array.getD, hs, V.val, W.val, C.val, D.val, Array.getElem_setIfInBounds]⟩
    simp only [List.mem_cons, List.not_mem_nil, or_false] at hc
    rcases hc with rfl | rfl <;> trivial
  · cases hv
end Go.Sh
end

section
open Go.RowKit
namespace Go.Sh
open Go Go.Proofs Go.RowKit Go.Sx
set_option linter.unusedVariables false
section
variable {ρ : Env} {B : Bd} {rate : Int} {samples : List Nat} {noise tail : Int} {zs : List (List Int)}
set_option maxRecDepth 100000 in
set_option maxHeartbeats 2000000 in
theorem open_body {w0 : World} {n l : Nat} (h0 : Old B w0) (hz : zs.length ≤ 17592186044416) (hblk : ∀ s h o k, find (hpT rate samples noise tail zs s) h = some o → o.blk (ρ h) = some k → k < w0.heap.size)
    {pre : List (Fin zs.length)} {x : Fin zs.length} {a : Act} {W : World} {y : Value} (hy : y = (C.p 2 0 1 0).val ρ) (hI : OI ρ B rate samples noise tail zs w0 pre W) (hA : OA y zs w0 x a W) :
    openB.wpIn (Fence.wide.inRound l) n Tryz.prog (fun e a' W' => e = .normal ∧ KeepsFrom w0.heap.size W W' ∧ OI ρ B rate samples noise tail zs w0 (pre ++ [x]) W') a W := by
  obtain ⟨h1, h2, h3, h4, b, h5, h6, h7⟩ := hA
  generalize hlo : (zs.getD x.1 []).getD 0 0 = lo at *
  generalize hhi : (zs.getD x.1 []).getD 1 0 = hi at *
  have hnB : ¬ B b := fun hb => by have := h0 b hb; omega
  have hh0 := hI.heap.addAt (b := b) (ty := 30) (cs := [.d (.i .i64 lo), .d (.i .i64 hi)]) h7 (fun c hc => by
    simp only [List.mem_cons, List.not_mem_nil, or_false] at hc
    rcases hc with rfl | rfl <;> trivial) hnB (fun h o k hf hk e => by have := hblk _ h o k hf hk; omega)
  have hrng : ∀ h o, find ((7, O.box 30 [.d (.i .i64 lo), .d (.i .i64 hi)]) :: hpT rate samples noise tail zs (sumsOf zs tail pre)) h = some o → rngO o = true := fun h o hf => by
    simp only [find] at hf
    split at hf
    · cases hf; rfl
    · exact hpT_rng hf
  have hh1 := hh0.moreB (B2 := fun k => B k ∨ ∃ o : Obj, W.heap[k]? = some o ∧ o.isCells = false) (fun k h => .inl h) (fun h o k hf hk => by
    rintro (hb | ⟨o', ho', hc⟩)
    · exact (O.blk_lt (hh0.ok h o hf).2.2 hk).2 hb
    · obtain ⟨c, t, f, hcells⟩ := own_cells (hh0.ok h o hf).2.2 (hrng h o hf) hk
      rw [hcells] at ho'
      cases ho'
      cases hc)
  have hag0 := upd_agree ρ 7 (.pointer (some ⟨b, 0, none⟩))
  have hrel : Rel (upd ρ 7 (.pointer (some ⟨b, 0, none⟩))) (fun k => B k ∨ ∃ o : Obj, W.heap[k]? = some o ∧ o.isCells = false) 109 8 (stB rate samples noise tail zs (sumsOf zs tail pre) (x.1 : Int) lo hi) a W := by
    refine ⟨fun t v hv => ?_, h1, h2, hh1, ?_, Nat.le_refl _⟩
    · simp only [stB, getT] at hv
      split at hv
      · rename_i e; subst e; cases hv
        exact ⟨show 2 < 8 by decide, by rw [h3, hy]; rfl⟩
      split at hv
      · rename_i e; subst e; cases hv; exact ⟨trivial, h4⟩
      split at hv
      · rename_i e; subst e; cases hv
        exact ⟨show 7 < 8 by decide, by rw [h6]; rfl⟩
      · cases hv
    · rintro k (hk | ⟨o, ho, _⟩)
      · exact hI.old k hk
      · exact (Array.getElem?_eq_some_iff.1 ho).1
  have hlen := sumsOf_len tail hz pre
  have hx := x.2
  refine wpIn_mono (sxIn_sound mixed (sp_117_ok sp0_ok) openB 0 [] _ _ _ a W (by kernel_rfl) (openB_vc rate samples noise tail zs (sumsOf zs tail pre) (x.1 : Int) lo hi (by omega) (by omega) (by omega)) hrel (Agree.refl _ _) (Bel.refl _ _)) ?_
  rintro e a' W' ⟨ex, ρ', st', rfl, hk, hr', hag', hbl'⟩
  cases ex with
  | normal =>
    obtain ⟨ρ2, hr2, hag2⟩ := Le.rel hk hr'
    have hbB : Bel B W W' := ⟨hbl'.os, hbl'.tape, hbl'.output, hbl'.size, fun k hk => hbl'.block k (.inl hk)⟩
    have hag : ∀ h, h < 7 → ρ2 h = ρ h := fun h hh => by
      have e1 := hag2 h (by omega)
      have e2 := hag' h (by omega)
      rw [e1, e2]
      exact hag0 h hh
    refine ⟨rfl, ⟨hbl'.size, fun k o _ hk ho => (hbl'.block k (.inr ⟨o, hk, ho⟩)).trans hk⟩, ?_, hI.bel.trans hbB, fun k hk => Nat.lt_of_lt_of_le (hI.old k hk) hbl'.size⟩
    rw [sumsOf_snoc, hlo, hhi]
    have hl := hr2.heap.lessB (B := B) (fun k h => .inl h) (hI.heap.glob.bel hbB) (fun h o hf he => by
      simp only [stB, find] at hf
      split at hf
      · cases hf; cases he
      · rcases hpT_find hf with ⟨rfl, rfl⟩ | ⟨rfl, rfl⟩ | ⟨rfl, rfl⟩ | ⟨rfl, rfl⟩ | ⟨rfl, rfl⟩ | ⟨rfl, rfl⟩ | ⟨rfl, rfl⟩
        · cases he
        · cases he
        · have := ext_bel hbB (hI.heap.ok 0 _ rfl).2.2
          unfold O.ok at this ⊢
          rw [hag 0 (by decide)]
          exact this
        all_goals cases he)
    refine (cut_nx (n' := 7) hl (fun k o hf => ⟨?_, (hpT_lt hf).1, (hpT_lt hf).2⟩)).agree (fun h hh => (hag h hh).symm)
    show find (_ :: _) k = some o
    simp only [find]
    rw [if_neg (by have := (hpT_lt hf).1; omega)]
    exact hf
  | exit j => exact hk.elim
  | ret => exact hk.elim
set_option maxRecDepth 100000 in
set_option maxHeartbeats 2000000 in
theorem open_range {n : Nat} {Q : Exit → Act → World → Prop} {a : Act} {w : World} (h1 : 1 ≤ n) (hz : zs.length ≤ 17592186044416) (hr : Rel ρ B 109 1 (stT rate samples noise tail zs (iniS zs tail)) a w)
    (hdone : ∀ (D : Nat) (W : World), w.heap.size ≤ D → OI ρ B rate samples noise tail zs w (Bk.bk zs.length zs.length) W → W.heap[D]? = some (.deferred (some [])) → Q .normal { a with defers := { target := .collected D, args := #[] } :: a.defers } W) :
    (Code.rangeFunc (.tmp 89) #[90, 91] openA openB).wpIn Fence.wide n Tryz.prog Q a w := by
  obtain ⟨_, _, kb, hkb, _, hkc⟩ := hr.heap.ok 6 _ rfl
  have hI0 : OI ρ B rate samples noise tail zs w [] w := ⟨hr.heap, Bel.refl _ _, hr.le⟩
  have hblk : ∀ s h o k, find (hpT rate samples noise tail zs s) h = some o → o.blk (ρ h) = some k → k < w.heap.size := fun s h o k hf hk => by
    obtain ⟨o', hf', hk'⟩ := hpT_blk (iniS zs tail) hf hk
    exact (O.blk_lt (hr.heap.ok h o' hf').2.2 hk').1
  have hg : a.eval (.tmp 89) = .func (.func 141) #[] #[.pointer (some ⟨kb, 0, none⟩)] := by
    have := (hr.tm 89 _ rfl).2
    show a.tmps.getD 89 undef = _
    rw [this]
    show Value.func (.func 141) #[] #[ρ 6] = _
    rw [hkb]
  have hy : a.tmps.getD 6 undef = (C.p 2 0 1 0).val ρ := (hr.tm 6 _ rfl).2
  refine wpIn_rangeFunc_ownH (F := Fence.wide) (n := n) rfl h1 (gf := 141) (lb := #[.pointer (some ⟨kb, 0, none⟩)]) hg trivial (enters_of Tryz.func141 (by kernel_rfl) rfl)
    (Bk.back_stops (n - 1) kb (ρ 4) zs hz w (hI0.rd hkb)) (fun h k r => k (h r)) (fun W l o o' _ hl ho _ r => rd_put r hl ho) (Below.refl _ _) (fun _ => rfl)
    (OI ρ B rate samples noise tail zs w) (fun _ _ _ => False) (OI.own hr.le) (fun _ _ _ _ _ h _ _ => h.elim) hI0 (OA ((C.p 2 0 1 0).val ρ) zs w) (fun x a' => OA.own x a') ?assign ?body ?done ?stop
  case assign =>
    intro l pre x W K hI hK
    have hrel : Rel ρ (fun k => k < W.heap.size) 109 0 (stA ((C.p 2 0 1 0).val ρ) (x.1 : Int) ((zs.getD x.1 []).getD 0 0) ((zs.getD x.1 []).getD 1 0)) { tmps := ((#[90, 91] : Array Tmp).zip (Bk.encs zs x)).foldl (fun t (p, v) => t.setIfInBounds p v) a.tmps, defers := [] } W := by
      refine ⟨fun t v hv => tms hr.size hy hv, ?_, rfl, ⟨fun h o hf => (by cases hf), fun h o h' o' k hf => (by cases hf), glob_all hI.heap.glob hI.old⟩, fun k hk => hk, Nat.le_refl _⟩
      have : ((#[90, 91] : Array Tmp).zip (Bk.encs zs x)).foldl (fun t (p, v) => t.setIfInBounds p v) a.tmps = (a.tmps.setIfInBounds 90 (.int .i64 (x.1 : Int))).setIfInBounds 91 (.agg #[.int .i64 ((zs.getD x.1 []).getD 0 0), .int .i64 ((zs.getD x.1 []).getD 1 0)]) := by simp [Bk.encs]
      show Array.size (Array.foldl _ _ _) = _
      rw [this]
      simp [hr.size]
    refine wpIn_mono (sxIn_sound mixed sp0_ok openA 0 [] _ _ ρ _ W (by kernel_rfl) (openA_vc _ _ _ _) hrel (Agree.refl _ _) (Bel.refl _ _)) ?_
    rintro e a' W' ⟨ex, ρ', st', rfl, hk, hr', hag', hbl'⟩
    cases ex with
    | normal =>
      obtain ⟨ρ2, hr2, hag2⟩ := Le.rel hk hr'
      obtain ⟨_, _, b, hb, hnb, hcb⟩ := hr2.heap.ok 0 _ rfl
      have hI' : OI ρ B rate samples noise tail zs w pre W' := OI.own hr.le pre W W' none hI ⟨hbl'.os, hbl'.tape, hbl'.output, hbl'.size, fun k hk _ => hbl'.block k hk⟩ (fun r e => by cases e)
      refine hK a' W' ⟨hbl'.size, fun k o _ hk ho => (hbl'.block k (Array.getElem?_eq_some_iff.1 hk).1).trans hk⟩ (fun _ => hI'.rd hkb) hI' ⟨hr2.size, hr2.defers, (hr2.tm 6 _ rfl).2, (hr2.tm 12 _ rfl).2, b, Nat.le_trans hI.bel.size (Nat.le_of_not_lt hnb), ?_, ?_⟩
      · have := (hr2.tm 13 _ rfl).2
        rw [this]
        show Value.pointer (some ⟨(base (ρ2 0)).block, (base (ρ2 0)).off + 0, none⟩) = _
        rw [hb]
        rfl
      · exact hcb
    | exit j => exact hk.elim
    | ret => exact hk.elim
  case body =>
    intro l pre x a' W hl _ hI hA hlt
    refine wpIn_mono (open_body hr.le hz hblk rfl hI hA) ?_
    rintro e a2 W' ⟨rfl, hkf, hI'⟩
    exact ⟨hkf, fun _ => hI'.rd hkb, hI'⟩
  case done =>
    intro D xs W hD hS hI hd
    subst hS
    exact hdone D W hD hI hd
  case stop =>
    intro D c pre W _ _ h
    exact h.elim
end
end Go.Sh
end

section
open Go.RowKit
namespace Go.Sh
open Go Go.Proofs Go.RowKit Go.Sx
set_option linter.unusedVariables false
def idOf : Code → Nat
  | .region i _ _ => i
  | _ => 0
noncomputable def oT (i : Nat) : Oper := ((Bk.opsOf (subO [1, 0] openT))[i]?).getD default
def rd1 (t : Nat) (v : V) : Operand → Option V
  | .tmp u => match Nat.beq u t with
    | true => some v
    | false => none
  | _ => none
theorem rd1_reads {ρ : Env} {nx t : Nat} {v : V} {a : Act} (h1 : v.lt nx) (h2 : a.tmps.getD t undef = v.val ρ) : Reads ρ nx (rd1 t v) a := by
  intro x u hx
  unfold rd1 at hx
  split at hx
  · split at hx
    · rename_i e
      cases hx
      have := Nat.eq_of_beq_eq_true e
      subst this
      exact ⟨h1, h2⟩
    · cases hx
  · cases hx
theorem val_step {n : Nat} {ops : Array Oper} {Q : Exit → Act → World → Prop} {o : Oper} {rest : List Oper} {a : Act} {w : World} {v : Value} (hg : o.guard = none) (h : (execOp a.eval o).run Tryz.prog w = .ok (.value v) w)
    (hK : wpListIn Fence.wide n Tryz.prog ops Q rest (a.put o.dst v) w) : wpListIn Fence.wide n Tryz.prog ops Q (o :: rest) a w := by
  refine wpListIn_plain hg fun K hK' => ⟨fun _ _ => trivial, ?_⟩
  have hs : o.semAt Fence.wide.round a.eval = execOp a.eval o := Oper.semAt_none a.eval o
  rw [hs, h]
  exact hK' _ _ hK
abbrev spO : Specs := sp_114 (sp_115 (sp_116 (sp_117 sp0)))
theorem spO_ok : SpecsOK Tryz.prog spO := sp_114_ok (sp_115_ok (sp_116_ok (sp_117_ok sp0_ok)))
theorem r0_len {zs : List (List Int)} (h : G_open_r0 zs = some ()) : zs.length ≤ 17592186044416 := by
  unfold G_open_r0 at h
  split at h
  · rename_i h1
    obtain ⟨h1, _, h2, h3⟩ := h1
    by_cases hc : zs.length + 1 ≤ 9223372036854775807
    · rw [show IntKind.wrap IntKind.i64 ((zs.length : Int) + 1) = (zs.length : Int) + 1 from IntWalk.i64_in _ (by omega)] at h2
      omega
    · exfalso
      split at h
      · rename_i h4
        have hw : IntKind.wrap IntKind.i64 ((zs.length : Int) + 1) ≤ 9223372036854775807 := h3
        obtain ⟨_, h5⟩ := h4
        rw [List.length_replicate] at h5
        omega
      · cases h
  · cases h
set_option maxRecDepth 100000 in
set_option maxHeartbeats 4000000 in
theorem open_calls (rate : Int) (samples : List Nat) (noise tail : Int) (e : Int) (zs ss : List (List Int)) (hG : G_open rate samples noise tail = some (e, zs, ss)) (ρ0 : Env) (w : World)
    (hlt : ∀ x ∈ (bldD k_G_open [.d (.i .i64 rate), .r (.floats .f32 samples), .d (.i .i64 noise), .d (.i .i64 tail)]).vs, V.lt 1 x)
    (hh : HRel ρ0 (fun k => k < w.heap.size) (bldD k_G_open [.d (.i .i64 rate), .r (.floats .f32 samples), .d (.i .i64 noise), .d (.i .i64 tail)]).hp 1 w) :
    Calls Tryz.prog 67 ((bldD k_G_open [.d (.i .i64 rate), .r (.floats .f32 samples), .d (.i .i64 noise), .d (.i .i64 tail)]).vs.map (V.val ρ0)).toArray w fun x w' => ∃ ρ' v hp' nx', x = .returned (V.val ρ' v) ∧ v.lt nx' ∧ Agree 1 ρ0 ρ' ∧ HRel ρ' (fun k => k < w.heap.size) hp' nx' w' ∧ Bel (fun k => k < w.heap.size) w w' ∧
      ((e ≠ 0 ∧ fitV 1 [.c (.d (.v (Value.pointer none))), .c (.d (.i .i64 e))] v hp') ∨ (e = 0 ∧ v = .t [.c (.p 3 0 1 0), .c (.d (.i .i64 0))] ∧ hp' = hpT rate samples noise tail zs ss)) := by
  unfold G_open at hG
  obtain ⟨r0, hr0, hG⟩ := Option.bind_eq_some_iff.1 hG
  have hv : val (y17 rate samples noise tail) = r0 := by rw [hr0]; rfl
  have ha : ok (y17 rate samples noise tail) := by rw [hr0]; rfl
  have hn : ((val (y17 rate samples noise tail)).2 != (0 : Int)) = false → e = 0 ∧ ss = sumsOf zs tail (Bk.bk zs.length zs.length) ∧ G_open_r0 zs = some () ∧ Option.bind (iter (G_open_b0 samples noise) big (((0 : Int), []))) (fun y0 => Option.bind (G_open_r0 y0) (fun _ => some y0)) = some zs := by
    intro hb
    rw [hv] at hb
    rw [if_neg (by rw [hb]; decide)] at hG
    obtain ⟨y0, hy0, hG⟩ := Option.bind_eq_some_iff.1 hG
    obtain ⟨_, hr, hG⟩ := Option.bind_eq_some_iff.1 hG
    cases hG
    refine ⟨rfl, rfl, hr, ?_⟩
    rw [hy0]
    simp [hr]
  have he : ((val (y17 rate samples noise tail)).2 != (0 : Int)) = true → (val (y17 rate samples noise tail)).2 = e := by
    intro hb
    rw [hv] at hb ⊢
    rw [if_pos hb] at hG
    cases hG
    rfl
  refine callsIn_wide.1 (callsIn_of_wp_marks (n := 3) (c := bodyOf Tryz.f67) Tryz.func67 (by kernel_rfl) trivial (wpIn_wide.2 ?_) rfl)
  have hrel := rel_enter (n0 := 1) (N := 109) (Nat.le_of_ble_eq_true (by kernel_rfl)) hlt (Nat.le_refl _) ρ0 w hh (fun k hk => hk)
  refine sx_head spO_ok (drawn_ok mixed spO_ok) (cur := 0) (gs := []) 6 (bodyOf Tryz.f67) _ ρ0 _ w (by kernel_rfl) (head_vc rate samples noise tail zs e ha he (fun hb => (hn hb).2.2.2)) hrel (Agree.refl _ _) (Bel.refl _ _) ?_ ?_
  · rintro ρ1 st1 a1 w1 ⟨⟨hb⟩, hk⟩ hr1 hag1 hbl1
    have hT : tailC' 6 (bodyOf Tryz.f67) = .seq (.seq openR5 (.block 2 (.rangeFunc (.tmp 89) #[90, 91] openA openB))) (.seq (subO [1, 0] openT) (subO [1, 1] openT)) := by kernel_rfl
    rw [hT]
    refine (wpIn_wide (n := 3)).1 (wpIn_seq (wpIn_seq (wpIn_mono (wpIn_wide.2 (sx_sound spO_ok (drawn_ok mixed spO_ok) openR5 0 [] st1 _ ρ1 a1 w1 hk hr1 (Agree.refl _ _) (Bel.refl _ _))) ?_)))
    rintro x a2 w2 ⟨ex, ρ2, st2, rfl, hle, hr2, hag2, hbl2⟩
    cases ex with
    | normal =>
      obtain ⟨ρ3, hr3, hag3⟩ := Le.rel hle hr2
      obtain ⟨he0, hss, hr0', _⟩ := hn hb
      refine wpIn_block (open_range (by decide) (r0_len hr0') hr3 ?_)
      intro D W hD hI hd
      have hR : subO [1, 0] openT = .region (idOf (subO [1, 0] openT)) #[oT 0, oT 1, oT 2] false := by kernel_rfl
      have hRet : subO [1, 1] openT = .ret := by kernel_rfl
      rw [hRet, hR]
      have t6 := (hr3.tm 6 _ rfl)
      have s2 := hr3.size
      generalize hat : ({ a2 with defers := { target := .collected D, args := #[] } :: a2.defers } : Act) = at2
      have hat6 : at2.tmps.getD 6 undef = V.val ρ3 (.w (.c (.p 2 0 1 0))) := by rw [← hat]; exact t6.2
      have hats : at2.tmps.size = 109 := by rw [← hat]; exact s2
      have hatd : at2.defers = [{ target := .collected D, args := #[] }] := by rw [← hat, hr3.defers]
      have g1 := stepV_run (P := Tryz.prog) (o := oT 0) hI.heap (rd1_reads (show V.lt 7 (.w (.c (.p 2 0 1 0))) from (by decide : 2 < 7)) hat6) (show stepV Tryz.prog (oT 0).op _ _ = some (True, .w (.c (.p 3 0 1 0))) from by kernel_rfl) trivial
      have l1 : ∀ v x, x ≠ 108 → (at2.put (some 108) v).tmps.getD x undef = at2.tmps.getD x undef := fun v x hx => by
        rw [put_get (fun y hy => by cases hy; rw [hats]; decide), if_neg (fun e => hx (Option.some.inj e).symm)]
      have p108 : ∀ v, (at2.put (some 108) v).tmps.getD 108 undef = v := fun v => by
        rw [put_get (fun y hy => by cases hy; rw [hats]; decide), if_pos rfl]
      refine wpIn_seq (wpIn_region_list (val_step (o := oT 0) (rest := [oT 1, oT 2]) (by kernel_rfl) g1.1 ?_))
      rw [show (oT 0).dst = some 108 from by kernel_rfl]
      have g2 := stepV_run (P := Tryz.prog) (o := oT 1) hI.heap (rd1_reads g1.2 (p108 _)) (show stepV Tryz.prog (oT 1).op _ _ = some (True, .w (.c (.p 3 0 1 0))) from by kernel_rfl) trivial
      refine val_step (o := oT 1) (by kernel_rfl) g2.1 ?_
      rw [show (oT 1).dst = some 2 from by kernel_rfl]
      generalize hb1 : ((at2.put (some 108) (V.val ρ3 (.w (.c (.p 3 0 1 0))))).put (some 2) (V.val ρ3 (.w (.c (.p 3 0 1 0))))) = b1
      have b1s : b1.tmps.size = 109 := by rw [← hb1, put_size, put_size, hats]
      have b12 : b1.tmps.getD 2 undef = V.val ρ3 (.w (.c (.p 3 0 1 0))) := by
        rw [← hb1, put_get (fun y hy => by cases hy; rw [put_size, hats]; decide), if_pos rfl]
      have b1d : b1.defers = [{ target := .collected D, args := #[] }] := by rw [← hb1, put_defers, put_defers, hatd]
      have g3 := stepV_run (P := Tryz.prog) (o := oT 2) (a := b1) (rd := fun x => match x with | .const v => some (.w (ofValue v)) | _ => none) hI.heap (fun x u hx => by
        cases x with
        | const v =>
          cases hx
          exact ⟨ofValue_lt _ v, (ofValue_val _ v).symm⟩
        | _ => cases hx) (show stepV Tryz.prog (oT 2).op _ _ = some (True, .w (.c (.d (.i .i64 0)))) from by kernel_rfl) trivial
      refine val_step (o := oT 2) (by kernel_rfl) g3.1 (wpListIn_nil (wpIn_ret ?_))
      rw [show (oT 2).dst = some 3 from by kernel_rfl]
      show LeavesInM _ _ _ _ _ _ _ _ _
      rw [put_defers, b1d]
      have hI2 := OwnFrom.putObj (OI.own hr3.le) (.deferred none) hI hD hd rfl
      refine ⟨by simp, .inl ⟨D, _, rfl, run_takeDeferred hd, _, results_tmp2 (t := 2) (u := 3) (by kernel_rfl) _ _ _, ρ3, .t [.c (.p 3 0 1 0), .c (.d (.i .i64 0))], _, 7, ?_, ?_, ?_, hI2.heap, (hbl1.trans hbl2).trans hI2.bel, .inr ⟨he0, rfl, by rw [hss]⟩⟩⟩
      · rw [put_get (fun y hy => by cases hy; rw [b1s]; decide), put_get (fun y hy => by cases hy; rw [b1s]; decide), if_pos rfl, if_neg (by decide), b12]
        rfl
      · intro x hx
        simp only [List.mem_cons, List.not_mem_nil, or_false] at hx
        rcases hx with rfl | rfl
        · exact (by decide : 3 < 7)
        · trivial
      · exact fun h hh => ((hag3 h hh).trans (hag2 h hh)).trans (hag1 h hh)
    | exit j => exact hle.elim
    | ret => exact hle.elim
  · intro ex ρ1 st1 a1 w1 hne hk hr1 hag1 hbl1
    cases ex with
    | normal => exact absurd rfl hne
    | exit j => exact hk.elim
    | ret =>
      show LeavesInM _ _ _ _ _ _ _ _ _
      rw [hr1.defers]
      obtain ⟨⟨hb⟩, hk⟩ := hk
      simp only [retX] at hk
      split at hk
      · rename_i l hl
        have hra := resAll_run hr1 _ l _ hl hk
        refine ⟨(tupV (l.map (·.2))).val ρ1, ?_, ρ1, tupV (l.map (·.2)), st1.hp, st1.nx, rfl, tupV_lt (fun y hy => ?_), hag1, hr1.heap, hbl1, .inl ⟨?_, hra.2.2⟩⟩
        · rw [tupV_val]
          simp only [results_eq, Array.mapM_eq_mapM_toList, Sem.run_bind, Sem.run_map, hra.1, Result.andThen_ok, Sem.run_pure, List.map_map]
          rfl
        · obtain ⟨z, hz, rfl⟩ := List.mem_map.1 hy
          exact hra.2.1 z hz
        · have h1 := he hb
          intro h0
          rw [h1, h0] at hb
          cases hb
      · exact hk.elim
set_option maxRecDepth 100000 in
theorem G_open_ok : SpecOK Tryz.prog 67 true (pureT k_G_open g_G_open) := by
  refine pureT_okC (body := bodyOf Tryz.f67) Tryz.func67 (by kernel_rfl) (by kernel_rfl) ?_
  intro ls t hg ho b hb ρ0 w hlt hh
  unfold g_G_open at hg
  split at hg
  · rename_i rate samples noise tail
    cases hg
    obtain rfl := bld_eq hb
    obtain ⟨⟨e, zs, ss⟩, hr⟩ : ∃ r, G_open rate samples noise tail = some r := by
      have hk : ok (G_open rate samples noise tail) := by
        revert ho
        unfold GT.sel
        split <;> exact fun h => h
      exact Option.isSome_iff_exists.1 hk
    refine (open_calls rate samples noise tail e zs ss hr ρ0 w hlt hh).mono ?_
    rintro x w' ⟨ρ', v, hp', nx', h1, h2, h3, h4, h5, h6⟩
    refine ⟨ρ', v, hp', nx', h1, h2, h3, h4, h5, ?_⟩
    have hv : val (G_open rate samples noise tail) = (e, zs, ss) := by rw [hr]; rfl
    rw [hv]
    rcases h6 with ⟨h6, h7⟩ | ⟨rfl, rfl, rfl⟩
    · rw [show ((e, zs, ss) : Int × List (List Int) × List (List Int)).1 = e from rfl, show (e != 0) = true from by simpa using h6]
      exact h7
    · refine Eq.mp (by kernel_rfl : (
        (Ob (rate = rate) ∧ (Ob (noise = noise) ∧ (Ob (tail = tail) ∧ (Ob (zs = zs) ∧ (Ob (ss = ss) ∧ (Ob ((0 : Int) = (0 : Int)) ∧ True)))))) ) = _) ?_
      exact ⟨⟨rfl⟩, ⟨rfl⟩, ⟨rfl⟩, ⟨rfl⟩, ⟨rfl⟩, ⟨rfl⟩, trivial⟩
  · cases hg
theorem sp_67_ok {sp : Specs} (h : SpecsOK Tryz.prog sp) : SpecsOK Tryz.prog (sp_67 sp) := addK_ok G_open_ok h
end Go.Sh
end

section
open Go.RowKit
namespace Go.Sh
open Go Go.Proofs Go.RowKit Go.Sx
set_option linter.unusedVariables false
set_option maxRecDepth 100000
def k_G_exact : List SV := [.a [.d, .r (.floats .f32 [])]]
def g_G_exact : List Lf → Option GT
  | [.d (.i .i64 rate), .r (.floats .f32 samples)] => some (.br ((val (G_open rate samples 0 0)).1 != (0 : Int))
    (.leaf (ok (G_open rate samples 0 0)) [.c (.d (.v (Value.pointer none))), .c (.d (.i .i64 ((val (G_open rate samples 0 0)).1)))])
    (.leaf (ok (G_open rate samples 0 0)) [.c (.box 133 [.d (.i .i64 rate), .g 0, .d (.i .i64 0), .d (.i .i64 0), .row 30 (.recs 2 ((val (G_open rate samples 0 0)).2.1)), .row 30 (.recs 2 ((val (G_open rate samples 0 0)).2.2))]), .c (.d (.i .i64 (0 : Int)))]))
  | _ => none
abbrev sp_84 : Specs → Specs := addK 84 true (pureT k_G_exact g_G_exact)
theorem exact_vc1 (rate : Int) (samples : List Nat) (e : Int) (ha : ok (G_open rate samples (0 : Int) (0 : Int))) (hc : ((val (G_open rate samples (0 : Int) (0 : Int))).1 != (0 : Int)) = true) (he : (val (G_open rate samples (0 : Int) (0 : Int))).1 = e) : runT Tryz.f84 (sp_67 sp0) (fun _ _ _ => none) (bldD k_G_exact [.d (.i .i64 rate), .r (.floats .f32 samples)]) [.c (.d (.v (Value.pointer none))), .c (.d (.i .i64 e))] := by
  refine Eq.mp (by kernel_rfl : (Br ((val (G_open rate samples (0 : Int) (0 : Int))).1 != (0 : Int))
   ((Ob (ok (G_open rate samples (0 : Int) (0 : Int))) ∧
   (Ob (True) ∧
   (Ob (True) ∧
   (Ob (Value.pointer none = Value.pointer none) ∧
   (Ob ((val (G_open rate samples (0 : Int) (0 : Int))).1 = e) ∧
   True))))))
   ((Ob (ok (G_open rate samples (0 : Int) (0 : Int))) ∧
   (Ob (True) ∧
   (Ob (True) ∧
   False))))) = _) ?_
  exact br_i (fun _ => ⟨⟨ha⟩, ⟨trivial⟩, ⟨trivial⟩, ⟨rfl⟩, ⟨he⟩, trivial⟩) (fun h => by rw [hc] at h; cases h)
theorem exact_vc2 (rate : Int) (samples : List Nat) (zs ss : List (List Int)) (ha : ok (G_open rate samples (0 : Int) (0 : Int))) (hc : ((val (G_open rate samples (0 : Int) (0 : Int))).1 != (0 : Int)) = false) (h1 : (val (G_open rate samples (0 : Int) (0 : Int))).2.1 = zs) (h2 : (val (G_open rate samples (0 : Int) (0 : Int))).2.2 = ss) : runT Tryz.f84 (sp_67 sp0) (fun _ _ _ => none) (bldD k_G_exact [.d (.i .i64 rate), .r (.floats .f32 samples)]) [.c (.box 133 [.d (.i .i64 rate), .g 0, .d (.i .i64 0), .d (.i .i64 0), .row 30 (.recs 2 zs), .row 30 (.recs 2 ss)]), .c (.d (.i .i64 (0 : Int)))] := by
  refine Eq.mp (by kernel_rfl : (Br ((val (G_open rate samples (0 : Int) (0 : Int))).1 != (0 : Int))
   ((Ob (ok (G_open rate samples (0 : Int) (0 : Int))) ∧
   (Ob (True) ∧
   (Ob (True) ∧
   False))))
   ((Ob (ok (G_open rate samples (0 : Int) (0 : Int))) ∧
   (Ob (True) ∧
   (Ob (True) ∧
   (Ob (rate = rate) ∧
   (Ob ((0 : Int) = (0 : Int)) ∧
   (Ob ((0 : Int) = (0 : Int)) ∧
   (Ob ((val (G_open rate samples (0 : Int) (0 : Int))).2.1 = zs) ∧
   (Ob ((val (G_open rate samples (0 : Int) (0 : Int))).2.2 = ss) ∧
   (Ob ((0 : Int) = (0 : Int)) ∧
   True))))))))))) = _) ?_
  exact br_i (fun h => by rw [hc] at h; cases h) (fun _ => ⟨⟨ha⟩, ⟨trivial⟩, ⟨trivial⟩, ⟨rfl⟩, ⟨rfl⟩, ⟨rfl⟩, ⟨h1⟩, ⟨h2⟩, ⟨rfl⟩, trivial⟩)
set_option maxRecDepth 100000 in
theorem G_exact_ok : SpecOK Tryz.prog 84 true (pureT k_G_exact g_G_exact) := by
  refine pureT_ok (sp := (sp_67 sp0)) (fn := Tryz.f84) (body := bodyOf Tryz.f84) mixed (sp_67_ok sp0_ok) Tryz.func84 (by kernel_rfl) (by kernel_rfl) fun ls t h ho b hb => ?_
  unfold g_G_exact at h
  split at h
  · rename_i rate samples
    cases h
    obtain rfl := bld_eq hb
    refine ⟨Nat.le_of_ble_eq_true (by kernel_rfl), 40, fun _ _ _ => none, ?_⟩
    cases hc : ((val (G_open rate samples (0 : Int) (0 : Int))).1 != (0 : Int)) with
    | true =>
      rw [hc] at ho
      exact exact_vc1 rate samples _ ho hc rfl
    | false =>
      rw [hc] at ho
      exact exact_vc2 rate samples _ _ ho hc rfl rfl
  · cases h
theorem sp_84_ok {sp : Specs} (h : SpecsOK Tryz.prog sp) : SpecsOK Tryz.prog (sp_84 sp) := addK_ok G_exact_ok h
def G_openBlock (rate : Int) (samples : List Nat) (block : Int) : Option (Int × Int × List (List Int) × List (List Int)) :=
  Option.bind (G_open rate samples (0 : Int) (0 : Int)) fun r =>
  if (r.1 != (0 : Int)) = true then
   Option.bind (y9 block (1 : Int) (1024 : Int)) fun b =>
   Option.bind (y5 b (2 : Int)) fun u =>
   Option.bind (y20 [r.1, u]) fun f => some (r.1, f, [], [])
  else
   Option.bind (y9 block (1 : Int) (1024 : Int)) fun b =>
   Option.bind (y5 b (2 : Int)) fun u =>
   Option.bind (y20 [(0 : Int), u]) fun f => some (0, f, r.2.1, r.2.2)
def k_G_openBlock : List SV := [.a [.d, .r (.floats .f32 [])], .c .d]
def g_G_openBlock : List Lf → Option GT
  | [.d (.i .i64 rate), .r (.floats .f32 samples), .d (.i .i64 block)] => some (.br ((val (G_openBlock rate samples block)).1 != (0 : Int))
    (.leaf (ok (G_openBlock rate samples block)) [.c (.d (.v (Value.pointer none))), .c (.d (.i .i64 ((val (G_openBlock rate samples block)).2.1)))])
    (.leaf (ok (G_openBlock rate samples block)) [.c (.box 133 [.d (.i .i64 rate), .g 0, .d (.i .i64 0), .d (.i .i64 0), .row 30 (.recs 2 ((val (G_openBlock rate samples block)).2.2.1)), .row 30 (.recs 2 ((val (G_openBlock rate samples block)).2.2.2))]), .c (.d (.i .i64 ((val (G_openBlock rate samples block)).2.1)))]))
  | _ => none
abbrev sp_91 : Specs → Specs := addK 91 true (pureT k_G_openBlock g_G_openBlock)
theorem openBlock_vc1 (rate : Int) (samples : List Nat) (block e : Int) (hc : ((val (G_open rate samples (0 : Int) (0 : Int))).1 != (0 : Int)) = true) (ha : ok (G_open rate samples (0 : Int) (0 : Int))) (hw : ok (y9 block (1 : Int) (1024 : Int))) (hu : ok (y5 (val (y9 block (1 : Int) (1024 : Int))) (2 : Int)))
    (hf : ok (y20 [(val (G_open rate samples (0 : Int) (0 : Int))).1, val (y5 (val (y9 block (1 : Int) (1024 : Int))) (2 : Int))])) (he : val (y20 [(val (G_open rate samples (0 : Int) (0 : Int))).1, val (y5 (val (y9 block (1 : Int) (1024 : Int))) (2 : Int))]) = e) :
    runT Tryz.f91 (sp_68 (sp_85 (sp_76 (sp_84 sp0)))) (fun _ _ _ => none) (bldD k_G_openBlock [.d (.i .i64 rate), .r (.floats .f32 samples), .d (.i .i64 block)]) [.c (.d (.v (Value.pointer none))), .c (.d (.i .i64 e))] := by
  refine Eq.mp (by kernel_rfl : (Br ((val (G_open rate samples (0 : Int) (0 : Int))).1 != (0 : Int))
      ((Ob (ok (G_open rate samples (0 : Int) (0 : Int))) ∧
      (Ob (ok (y9 block (1 : Int) (1024 : Int))) ∧
      (Ob (ok (y5 (val (y9 block (1 : Int) (1024 : Int))) (2 : Int))) ∧
      (Ob (ok (y20 [(val (G_open rate samples (0 : Int) (0 : Int))).1, val (y5 (val (y9 block (1 : Int) (1024 : Int))) (2 : Int))])) ∧
      (Ob (True) ∧
      (Ob (True) ∧
      (Ob (Value.pointer none = Value.pointer none) ∧
      (Ob (val (y20 [(val (G_open rate samples (0 : Int) (0 : Int))).1, val (y5 (val (y9 block (1 : Int) (1024 : Int))) (2 : Int))]) = e) ∧
      True)))))))))
      ((Ob (ok (G_open rate samples (0 : Int) (0 : Int))) ∧
      (Ob (ok (y9 block (1 : Int) (1024 : Int))) ∧
      (Ob (ok (y5 (val (y9 block (1 : Int) (1024 : Int))) (2 : Int))) ∧
      (Ob (ok (y20 [(0 : Int), val (y5 (val (y9 block (1 : Int) (1024 : Int))) (2 : Int))])) ∧
      (Ob (True) ∧
      (Ob (True) ∧
      False)))))))) = _) ?_
  exact br_i (fun _ => ⟨⟨ha⟩, ⟨hw⟩, ⟨hu⟩, ⟨hf⟩, ⟨trivial⟩, ⟨trivial⟩, ⟨rfl⟩, ⟨he⟩, trivial⟩) (fun h => by rw [hc] at h; cases h)
theorem openBlock_vc2 (rate : Int) (samples : List Nat) (block e : Int) (zs ss : List (List Int)) (hc : ((val (G_open rate samples (0 : Int) (0 : Int))).1 != (0 : Int)) = false) (ha : ok (G_open rate samples (0 : Int) (0 : Int))) (hw : ok (y9 block (1 : Int) (1024 : Int))) (hu : ok (y5 (val (y9 block (1 : Int) (1024 : Int))) (2 : Int)))
    (hf : ok (y20 [(0 : Int), val (y5 (val (y9 block (1 : Int) (1024 : Int))) (2 : Int))])) (h1 : (val (G_open rate samples (0 : Int) (0 : Int))).2.1 = zs) (h2 : (val (G_open rate samples (0 : Int) (0 : Int))).2.2 = ss) (he : val (y20 [(0 : Int), val (y5 (val (y9 block (1 : Int) (1024 : Int))) (2 : Int))]) = e) :
    runT Tryz.f91 (sp_68 (sp_85 (sp_76 (sp_84 sp0)))) (fun _ _ _ => none) (bldD k_G_openBlock [.d (.i .i64 rate), .r (.floats .f32 samples), .d (.i .i64 block)]) [.c (.box 133 [.d (.i .i64 rate), .g 0, .d (.i .i64 0), .d (.i .i64 0), .row 30 (.recs 2 zs), .row 30 (.recs 2 ss)]), .c (.d (.i .i64 e))] := by
  refine Eq.mp (by kernel_rfl : (Br ((val (G_open rate samples (0 : Int) (0 : Int))).1 != (0 : Int))
      ((Ob (ok (G_open rate samples (0 : Int) (0 : Int))) ∧
      (Ob (ok (y9 block (1 : Int) (1024 : Int))) ∧
      (Ob (ok (y5 (val (y9 block (1 : Int) (1024 : Int))) (2 : Int))) ∧
      (Ob (ok (y20 [(val (G_open rate samples (0 : Int) (0 : Int))).1, val (y5 (val (y9 block (1 : Int) (1024 : Int))) (2 : Int))])) ∧
      (Ob (True) ∧
      (Ob (True) ∧
      False)))))))
      ((Ob (ok (G_open rate samples (0 : Int) (0 : Int))) ∧
      (Ob (ok (y9 block (1 : Int) (1024 : Int))) ∧
      (Ob (ok (y5 (val (y9 block (1 : Int) (1024 : Int))) (2 : Int))) ∧
      (Ob (ok (y20 [(0 : Int), val (y5 (val (y9 block (1 : Int) (1024 : Int))) (2 : Int))])) ∧
      (Ob (True) ∧
      (Ob (True) ∧
      (Ob (rate = rate) ∧
      (Ob ((0 : Int) = (0 : Int)) ∧
      (Ob ((0 : Int) = (0 : Int)) ∧
      (Ob ((val (G_open rate samples (0 : Int) (0 : Int))).2.1 = zs) ∧
      (Ob ((val (G_open rate samples (0 : Int) (0 : Int))).2.2 = ss) ∧
      (Ob (val (y20 [(0 : Int), val (y5 (val (y9 block (1 : Int) (1024 : Int))) (2 : Int))]) = e) ∧
      True)))))))))))))) = _) ?_
  exact br_i (fun h => by rw [hc] at h; cases h) (fun _ => ⟨⟨ha⟩, ⟨hw⟩, ⟨hu⟩, ⟨hf⟩, ⟨trivial⟩, ⟨trivial⟩, ⟨rfl⟩, ⟨rfl⟩, ⟨rfl⟩, ⟨h1⟩, ⟨h2⟩, ⟨he⟩, trivial⟩)
theorem some_ok {α : Type} {x : Option α} {y : α} (h : x = some y) : ok x := by rw [h]; rfl
theorem some_val {α : Type} [Inhabited α] {x : Option α} {y : α} (h : x = some y) : val x = y := by rw [h]; rfl
set_option maxRecDepth 100000 in
theorem G_openBlock_ok : SpecOK Tryz.prog 91 true (pureT k_G_openBlock g_G_openBlock) := by
  refine pureT_ok (sp := (sp_68 (sp_85 (sp_76 (sp_84 sp0))))) (fn := Tryz.f91) (body := bodyOf Tryz.f91) mixed (sp_68_ok (sp_85_ok (sp_76_ok (sp_84_ok sp0_ok)))) Tryz.func91 (by kernel_rfl) (by kernel_rfl) fun ls t h ho b hb => ?_
  unfold g_G_openBlock at h
  split at h
  · rename_i rate samples block
    cases h
    obtain rfl := bld_eq hb
    refine ⟨Nat.le_of_ble_eq_true (by kernel_rfl), 40, fun _ _ _ => none, ?_⟩
    have hk : ok (G_openBlock rate samples block) := by
      revert ho
      unfold GT.sel
      split <;> exact fun h => h
    obtain ⟨⟨c, e, zs, ss⟩, hr⟩ := Option.isSome_iff_exists.1 hk
    rw [some_val hr]
    unfold G_openBlock at hr
    obtain ⟨r, hr0, hr⟩ := Option.bind_eq_some_iff.1 hr
    split at hr
    · rename_i hc
      obtain ⟨b, hb1, hr⟩ := Option.bind_eq_some_iff.1 hr
      obtain ⟨u, hu, hr⟩ := Option.bind_eq_some_iff.1 hr
      obtain ⟨f, hf, hr⟩ := Option.bind_eq_some_iff.1 hr
      obtain ⟨rfl, rfl, rfl, rfl⟩ : r.1 = c ∧ f = e ∧ [] = zs ∧ [] = ss := by cases hr; exact ⟨rfl, rfl, rfl, rfl⟩
      dsimp only
      rw [hc]
      rw [← some_val hr0] at hc
      rw [← some_val hb1] at hu
      refine openBlock_vc1 rate samples block _ hc (some_ok hr0) (some_ok hb1) (some_ok hu) ?_ ?_
      · rw [some_val hu, some_val hr0]
        exact some_ok hf
      · rw [some_val hu, some_val hr0]
        exact some_val hf
    · rename_i hc
      obtain ⟨b, hb1, hr⟩ := Option.bind_eq_some_iff.1 hr
      obtain ⟨u, hu, hr⟩ := Option.bind_eq_some_iff.1 hr
      obtain ⟨f, hf, hr⟩ := Option.bind_eq_some_iff.1 hr
      cases hr
      have hc : (r.1 != (0 : Int)) = false := by simpa using hc
      rw [← some_val hr0] at hc
      rw [← some_val hb1] at hu
      refine openBlock_vc2 rate samples block _ _ _ hc (some_ok hr0) (some_ok hb1) (some_ok hu) ?_ ?_ ?_ ?_
      · rw [some_val hu]
        exact some_ok hf
      · rw [some_val hr0]
      · rw [some_val hr0]
      · rw [some_val hu]
        exact some_val hf
  · cases h
theorem sp_91_ok {sp : Specs} (h : SpecsOK Tryz.prog sp) : SpecsOK Tryz.prog (sp_91 sp) := addK_ok G_openBlock_ok h
end Go.Sh
end

section
namespace Go.Sh
open Go Go.Proofs Go.RowKit Go.Sx Go.Sx06 Ieee Go.Fl
def fi (b : Nat) : Int := f2i .f32 b
theorem se_whole {b : Nat} (h : se b = 0) : f2iOk .f32 .i64 b = true ∧ -32767 ≤ fi b ∧ fi b ≤ 32767 := by
  unfold se at h
  unfold fi f2i f2iOk
  rcases Fl.read32 b with ⟨s, m, e, hd, hm, he1, he2⟩ | ⟨s, hd⟩ | ⟨s, t, hd⟩
  · have hdec : FloatKind.decode .f32 b = .number s m e := hd
    rw [hdec] at h ⊢
    rw [toIntP (by unfold KK; omega)]
    unfold seD at h
    have h3 : mg KK m e / PP ≤ 32767 := by
      dsimp only at h
      split at h
      · omega
      · split at h
        · omega
        · split at h
          · assumption
          · omega
    clear h
    generalize mg KK m e / PP = Q at *
    have e1 : IntKind.i64.min = -9223372036854775808 := rfl
    have e2 : IntKind.i64.max = 9223372036854775807 := rfl
    simp only [e1, e2, decide_eq_true_eq, Option.getD_some]
    cases s <;> simp only [sg, Bool.false_eq_true, if_false, if_true] <;> omega
  · have hdec : FloatKind.decode .f32 b = .infinity s := hd
    rw [hdec] at h
    simp [seD] at h
  · have hdec : FloatKind.decode .f32 b = .nan s t := hd
    rw [hdec] at h
    simp [seD] at h
def sqP (noise n : Int) : List Int := [max 0 (az n - noise) * max 0 (az n - noise), (az n + noise) * (az n + noise)]
def zsO (noise : Int) (l : List Nat) : List (List Int) := l.map fun b => sqP noise (fi b)
def sLo : List (List Int) → Int
  | [] => 0
  | r :: l => r.getD 0 0 + sLo l
def sHi : List (List Int) → Int
  | [] => 0
  | r :: l => r.getD 1 0 + sHi l
theorem sLo_append (a b : List (List Int)) : sLo (a ++ b) = sLo a + sLo b := by
  induction a with
  | nil => simp [sLo]
  | cons r a ih => simp only [List.cons_append, sLo, ih]; omega
theorem sHi_append (a b : List (List Int)) : sHi (a ++ b) = sHi a + sHi b := by
  induction a with
  | nil => simp [sHi]
  | cons r a ih => simp only [List.cons_append, sHi, ih]; omega
def okZ (r : List Int) : Prop := 0 ≤ r.getD 0 0 ∧ r.getD 0 0 ≤ r.getD 1 0 ∧ r.getD 1 0 ≤ 4294705156
theorem s_range {zs : List (List Int)} (h : ∀ r ∈ zs, okZ r) : 0 ≤ sLo zs ∧ sLo zs ≤ sHi zs ∧ sHi zs ≤ 4294705156 * (zs.length : Int) := by
  induction zs with
  | nil => simp [sLo, sHi]
  | cons r l ih =>
    have h1 := ih fun r hr => h r (List.mem_cons_of_mem _ hr)
    have h2 := h r List.mem_cons_self
    unfold okZ at h2
    simp only [sLo, sHi, List.length_cons]
    omega
theorem az_range {n M : Int} (h : -M ≤ n ∧ n ≤ M) : 0 ≤ az n ∧ az n ≤ M := by unfold az; omega
theorem sqP_ok {noise n : Int} (hn : 0 ≤ noise ∧ noise ≤ 32767) (h : -32767 ≤ n ∧ n ≤ 32767) : okZ (sqP noise n) := by
  have h1 := az_range h
  have h2 : 0 ≤ max 0 (az n - noise) ∧ max 0 (az n - noise) ≤ az n + noise := by omega
  have h3 := Int.mul_nonneg h2.1 h2.1
  have h4 := Int.mul_le_mul h2.2 h2.2 h2.1 (by omega)
  have h5 := Int.mul_le_mul (show az n + noise ≤ 65534 by omega) (show az n + noise ≤ 65534 by omega) (show 0 ≤ az n + noise by omega) (by omega)
  exact ⟨h3, h4, h5⟩
theorem zsO_len (noise : Int) (l : List Nat) : (zsO noise l).length = l.length := by simp [zsO]
theorem zsO_ok {noise : Int} {l : List Nat} (hn : 0 ≤ noise ∧ noise ≤ 32767) (h : ∀ b ∈ l, se b = 0) : ∀ r ∈ zsO noise l, okZ r := by
  intro r hr
  obtain ⟨b, hb, rfl⟩ := List.mem_map.1 hr
  exact sqP_ok hn (se_whole (h b hb)).2
theorem iter_map {α β : Type} (l : List α) (d : α) (f : α → β) {body : Int × List β → Option ((Int × List β) ⊕ List β)} (hlen : l.length < 1000000000000)
    (h1 : ∀ i, i < l.length → ∀ o : List β, o.length = i → body ((i : Int), o) = some (.inl ((i : Int) + 1, o ++ [f (l.getD i d)])))
    (h2 : ∀ o, body ((l.length : Int), o) = some (.inr o)) : iter body big (0, []) = some (l.map f) := by
  refine iter_upto (fun i => ((i : Int), (l.take i).map f)) (k := l.length) (fun i hi => ?_) ?_ (by omega)
  · have := h1 i hi ((l.take i).map f) (by simp; omega)
    rw [this]
    have e : l.take (i + 1) = l.take i ++ [l.getD i d] := by
      rw [List.take_succ_eq_append_getElem hi]
      simp [List.getD, hi]
    rw [e]
    simp
  · rw [List.take_length]; exact h2 _
theorem sq_low {r noise : Int} (h : 0 ≤ r ∧ r ≤ 32767) (hn : 0 ≤ noise ∧ noise ≤ 32767) :
    IntKind.wrap IntKind.i64 ((if IntKind.wrap IntKind.i64 (r - noise) > (0 : Int) then IntKind.wrap IntKind.i64 (r - noise) else (0 : Int)) * if IntKind.wrap IntKind.i64 (r - noise) > (0 : Int) then IntKind.wrap IntKind.i64 (r - noise) else (0 : Int)) = max 0 (r - noise) * max 0 (r - noise) := by
  rw [wr64 (x := r - noise) (by omega)]
  have e : (if r - noise > 0 then r - noise else 0) = max 0 (r - noise) := by split <;> omega
  rw [e]
  have h1 : 0 ≤ max 0 (r - noise) ∧ max 0 (r - noise) ≤ 32767 := by omega
  have h2 := Int.mul_nonneg h1.1 h1.1
  have h3 := Int.mul_le_mul h1.2 h1.2 h1.1 (by omega)
  exact wr64 (by omega)
theorem sq_high {r noise : Int} (h : 0 ≤ r ∧ r ≤ 32767) (hn : 0 ≤ noise ∧ noise ≤ 32767) :
    IntKind.wrap IntKind.i64 (IntKind.wrap IntKind.i64 (r + noise) * IntKind.wrap IntKind.i64 (r + noise)) = (r + noise) * (r + noise) := by
  rw [wr64 (x := r + noise) (by omega)]
  have h1 : 0 ≤ r + noise ∧ r + noise ≤ 65534 := by omega
  have h2 := Int.mul_nonneg h1.1 h1.1
  have h3 := Int.mul_le_mul h1.2 h1.2 h1.1 (by omega)
  exact wr64 (by omega)
theorem open_iter {l : List Nat} {noise : Int} (hl : l.length ≤ 1024) (hs : ∀ b ∈ l, se b = 0) (hn : 0 ≤ noise ∧ noise ≤ 32767) : iter (G_open_b0 l noise) big (0, []) = some (zsO noise l) := by
  refine iter_map l 0 (fun b => sqP noise (fi b)) (by omega) (fun i hi o ho => ?_) (fun o => ?_)
  · unfold G_open_b0
    dsimp only
    have hw := se_whole (hs (l.getD i 0) (by simp [List.getD, hi]))
    have ha := az_range (M := 32767) hw.2
    rw [if_pos (by omega), if_pos (by omega), if_pos (by omega), Int.toNat_natCast, if_pos hw.1]
    rw [show f2i FloatKind.f32 (l.getD i 0) = fi (l.getD i 0) from rfl, sizeG_eq (by unfold inJ; omega), bind_some', if_pos (by simp only [List.length_cons, List.length_nil]; omega), sq_low ha hn, sq_high ha hn, wr64 (by omega)]
    rfl
  · unfold G_open_b0
    dsimp only
    rw [if_neg (by omega)]
def ssO (zs : List (List Int)) (tail : Int) : List (List Int) := (List.range (zs.length + 1)).map fun i => [sLo (zs.drop i), sHi (zs.drop i) + tail]
theorem ssO_len (zs : List (List Int)) (tail : Int) : (ssO zs tail).length = zs.length + 1 := by simp [ssO]
theorem ssO_get {zs : List (List Int)} {tail : Int} {i : Nat} (h : i ≤ zs.length) : (ssO zs tail).getD i [] = [sLo (zs.drop i), sHi (zs.drop i) + tail] := by
  unfold ssO
  have : i < zs.length + 1 := by omega
  simp [List.getD, this]
theorem iniS_get {zs : List (List Int)} (tail : Int) (h : zs.length ≤ 1024) : (iniS zs tail).length = zs.length + 1 ∧ (iniS zs tail).getD zs.length [] = [0, tail] := by
  refine ⟨iniS_len tail (by omega), ?_⟩
  unfold iniS
  rw [wr64 (by omega)]
  have e : Int.toNat ((zs.length : Int) + 1) = zs.length + 1 := by omega
  rw [e, Int.toNat_natCast]
  simp [List.getD, wr]
  rfl
theorem drop_get {zs : List (List Int)} {i : Nat} (h : i < zs.length) : zs.drop i = zs.getD i [] :: zs.drop (i + 1) := by
  rw [List.drop_eq_getElem_cons h]
  simp [List.getD, h]
theorem sums_inv {zs : List (List Int)} {tail : Int} (h : zs.length ≤ 1024) (hz : ∀ r ∈ zs, okZ r) (ht : 0 ≤ tail ∧ tail ≤ 1000000000000) : ∀ k, k ≤ zs.length →
    (sumsOf zs tail (Bk.bk zs.length k)).length = zs.length + 1 ∧ ∀ i, zs.length - k ≤ i → i ≤ zs.length → (sumsOf zs tail (Bk.bk zs.length k)).getD i [] = [sLo (zs.drop i), sHi (zs.drop i) + tail]
  | 0, _ => by
    have h0 := iniS_get tail h
    refine ⟨h0.1, fun i h1 h2 => ?_⟩
    have hi : i = zs.length := by omega
    subst hi
    rw [List.drop_length]
    simp only [sLo, sHi, Int.zero_add]
    exact h0.2
  | k + 1, hk => by
    obtain ⟨hl, hg⟩ := sums_inv h hz ht k (by omega)
    rw [Bk.bk_succ (by omega), sumsOf_snoc]
    dsimp only
    obtain ⟨ss, hss⟩ : ∃ ss, ss = sumsOf zs tail (Bk.bk zs.length k) := ⟨_, rfl⟩
    rw [← hss] at hl hg ⊢
    have hj := hg (zs.length - 1 - k + 1) (by omega) (by omega)
    have hd := drop_get (zs := zs) (i := zs.length - 1 - k) (by omega)
    have hok := hz (zs.getD (zs.length - 1 - k) []) (by simp [List.getD, show zs.length - 1 - k < zs.length by omega])
    have hr := s_range (zs := zs.drop (zs.length - 1 - k + 1)) fun r hr => hz r (List.mem_of_mem_drop hr)
    have hdl : ((zs.drop (zs.length - 1 - k + 1)).length : Int) ≤ 1024 := by rw [List.length_drop]; omega
    unfold okZ at hok
    generalize hi0 : zs.length - 1 - k = i0 at *
    have e1 : ((((i0 : Nat) : Int) + 1).toNat) = i0 + 1 := by omega
    have hup : upS ss (i0 : Int) ((zs.getD i0 []).getD 0 0) ((zs.getD i0 []).getD 1 0) = ss.set i0 [sLo (zs.drop i0), sHi (zs.drop i0) + tail] := by
      unfold upS
      rw [wr64 (x := (i0 : Int) + 1) (by omega), e1, hj, Int.toNat_natCast]
      simp only [List.getD_cons_zero, List.getD_cons_succ]
      rw [wr64 (by omega), wr64 (by omega), hd]
      simp only [sLo, sHi]
      rw [show (zs.getD i0 []).getD 1 0 + (sHi (zs.drop (i0 + 1)) + tail) = (zs.getD i0 []).getD 1 0 + sHi (zs.drop (i0 + 1)) + tail by omega]
      rfl
    rw [hup]
    refine ⟨by rw [List.length_set]; exact hl, fun i h1 h2 => ?_⟩
    by_cases he : i = i0
    · subst he
      simp [List.getD, hl, show i < zs.length + 1 by omega]
    · have := hg i (by omega) h2
      rw [← this]
      simp [List.getD, List.getElem?_set, Ne.symm he]
theorem sums_eq {zs : List (List Int)} {tail : Int} (h : zs.length ≤ 1024) (hz : ∀ r ∈ zs, okZ r) (ht : 0 ≤ tail ∧ tail ≤ 1000000000000) : sumsOf zs tail (Bk.bk zs.length zs.length) = ssO zs tail := by
  obtain ⟨h1, h2⟩ := sums_inv h hz ht zs.length (Nat.le_refl _)
  apply List.ext_getElem
  · rw [h1, ssO_len]
  · intro i hi hi'
    have hi2 : i ≤ zs.length := by omega
    have a := h2 i (by omega) hi2
    have b := ssO_get (tail := tail) hi2
    simp only [List.getD, List.getElem?_eq_getElem hi, Option.getD_some] at a
    simp only [List.getD, List.getElem?_eq_getElem hi', Option.getD_some] at b
    rw [a, b]
theorem open_eq (rate : Int) {l : List Nat} (noise tail : Int) (hl : l.length < 1000000000000) :
    G_open rate l noise tail = some (if (askE rate l noise tail).2 ≠ 0 then ((askE rate l noise tail).2, [], []) else (0, zsO noise l, ssO (zsO noise l) tail)) := by
  unfold G_open
  rw [checkAskG_eq rate noise tail hl, bind_some']
  by_cases h : (askE rate l noise tail).2 = 0
  · obtain ⟨hr, hn, ht⟩ := askE_zero h
    obtain ⟨_, _, h3, h4⟩ := resE_zero hr
    have hzl := zsO_len noise l
    have hzk := zsO_ok hn h4
    rw [if_neg (show ¬ ((askE rate l noise tail).2 != 0) = true by rw [h]; simp), if_neg (by omega), open_iter h3 h4 hn, bind_some']
    have hr0 : G_open_r0 (zsO noise l) = some () := by
      unfold G_open_r0
      rw [wr64 (by omega)]
      have e : Int.toNat (((zsO noise l).length : Int) + 1) = (zsO noise l).length + 1 := by omega
      rw [if_pos (by omega), e, List.length_replicate, if_pos (by omega), Int.toNat_natCast, if_pos (by omega)]
    rw [hr0, bind_some', sums_eq (by omega) hzk ht]
  · rw [if_pos (show ((askE rate l noise tail).2 != 0) = true by simpa using h), if_pos h]
theorem open_e (rate : Int) {l : List Nat} (noise tail : Int) (hl : l.length < 1000000000000) : (val (G_open rate l noise tail)).1 = (askE rate l noise tail).2 := by
  rw [open_eq rate noise tail hl]
  show (if (askE rate l noise tail).2 ≠ 0 then ((askE rate l noise tail).2, ([] : List (List Int)), ([] : List (List Int))) else (0, zsO noise l, ssO (zsO noise l) tail)).1 = _
  split
  · rfl
  · rename_i h; simp at h; rw [h]
end Go.Sh
end

section
namespace Go.Sh
open Go Go.Proofs Go.RowKit Go.Sx
set_option linter.unusedVariables false
end Go.Sh
end

section
namespace Go.Sh
open Go Go.Proofs Go.RowKit Go.Sx
set_option linter.unusedVariables false
def k_R05_Centre : List SV := [.a [.d, .r (.floats .f32 []), .d, .d]]
def y60 (u4 : Int) (u0 : List Nat) (u6 : Int) (u5 : Int) (x0 : (Int × Int × Int)) : Option ((Int × Int × Int) ⊕ (Int × Int)) :=
  if x0.1 < (↑(List.length u0) : Int) then
   Option.bind (y21 u4 u0 u6 u5 x0.1) fun r1 =>
   some (.inl ((IntKind.wrap .i64 (x0.1 + (1 : Int)), IntKind.wrap .i64 (x0.2.1 + IntKind.wrap .i64 (x0.1 * r1.1)), IntKind.wrap .i64 (x0.2.2 + IntKind.wrap .i64 (x0.1 * r1.2)))))
  else
   some (.inr (x0.2.1, x0.2.2))
def y90 (u4 : Int) (u0 : List Nat) (r0 : Int × Int) (u15 : Int × Int) : Option (Int × Int × Int) :=
  if r0.2 ≠ (0 : Int) then
   if r0.2 ≠ (0 : Int) then
    Option.bind (y53 (IntKind.wrap .i64 (Int.tmod u15.1 r0.2 * (1000000 : Int))) r0.2) fun r2 =>
    Option.bind (y53 (IntKind.wrap .i64 (IntKind.wrap .i64 (IntKind.wrap .i64 (Int.tdiv u15.1 r0.2) * (1000000 : Int)) + r2)) u4) fun r3 =>
    Option.bind (B_Ceil (IntKind.wrap .i64 (IntKind.wrap .i64 ((↑(List.length u0) : Int) - (1 : Int)) * (1000000 : Int))) u4) fun r4 =>
    if r0.1 ≠ (0 : Int) then
     if IntKind.wrap .i64 (Int.tdiv u15.2 r0.1) < (↑(List.length u0) : Int) then
      if r0.1 ≠ (0 : Int) then
       if r0.1 ≠ (0 : Int) then
        Option.bind (B_Ceil (IntKind.wrap .i64 (Int.tmod u15.2 r0.1 * (1000000 : Int))) r0.1) fun r5 =>
        Option.bind (B_Ceil (IntKind.wrap .i64 (IntKind.wrap .i64 (IntKind.wrap .i64 (Int.tdiv u15.2 r0.1) * (1000000 : Int)) + r5)) u4) fun r6 =>
        some ((r3, if r6 < r4 then r6 else r4, (0 : Int)))
       else none
      else none
     else
      some ((r3, r4, (0 : Int)))
    else none
   else none
  else none
def y83 (u4 : Int) (u0 : List Nat) (u6 : Int) (u5 : Int) : Option (Int × Int × Int) :=
  if (u5 != (0 : Int)) = true then
   some (((0 : Int), (0 : Int), (23 : Int)))
  else
   Option.bind (y7 u4 u0 u6 u5 (0 : Int)) fun r0 =>
   if (r0.1 == (0 : Int)) = true then
    some (((0 : Int), (0 : Int), (11 : Int)))
   else
    Option.bind (iter (y60 u4 u0 u6 u5) big (((0 : Int), (0 : Int), (0 : Int)))) (y90 u4 u0 r0)
def g_R05_Centre : List Lf → Option GT
  | [.d (.i .i64 u4), .r (.floats .f32 u0), .d (.i .i64 u6), .d (.i .i64 u5)] => some (.leaf (ok (y83 u4 u0 u6 u5)) [.s [.d (.i .i64 ((val (y83 u4 u0 u6 u5)).1)), .d (.i .i64 ((val (y83 u4 u0 u6 u5)).2.1))], .c (.d (.i .i64 ((val (y83 u4 u0 u6 u5)).2.2)))])
  | _ => none
abbrev sp_30 : Specs → Specs := addK 30 true (pureT k_R05_Centre g_R05_Centre)
set_option maxRecDepth 100000 in
theorem R05_Centre_vc (u4 : Int) (u0 : List Nat) (u6 : Int) (u5 : Int) (r : Int × Int × Int) (h : Option.bind (y83 u4 u0 u6 u5) some = some r) : runT Tryz.f30 ((sp_72 (sp_83 (sp_74 (sp_75 sp0))))) (fun gs id _ => match id with
 | 0 => some ⟨(Int × Int × Int) × Nat, fun z => ⟨[(1, .w (.c (.p 1 (0 : Nat) 1 (0 : Nat)))), (2, .w (.c (.p 2 (0 : Nat) 1 (0 : Nat)))), (4, .w (.c (.p 3 (0 : Nat) 1 (0 : Nat)))), (5, .w (.c (.p 4 (0 : Nat) 1 (0 : Nat)))), (6, .w (.c (.d (.i .i64 ((↑(List.length u0) : Int)))))), (7, .w (.c (.d (.i .i64 (Prod.fst (Prod.fst z))))))], [(1, .box 26 [.d (.i .i64 u4), .o 0, .d (.i .i64 u6), .d (.i .i64 u5)]), (2, .box 30 [.d (.i .i64 (0 : Int)), .d (.i .i64 (0 : Int))]), (3, .box 30 [.d (.i .i64 ((val (y7 u4 u0 u6 u5 (0 : Int))).1)), .d (.i .i64 ((val (y7 u4 u0 u6 u5 (0 : Int))).2))]), (4, .box 30 [.d (.i .i64 (Prod.fst (Prod.snd (Prod.fst z)))), .d (.i .i64 (Prod.snd (Prod.snd (Prod.fst z))))]), (0, .ext (.floats .f32 u0))], 5⟩, fun z => Option.bind (iter (y60 u4 u0 u6 u5) (Prod.snd z) (Prod.fst z)) (fun y0 => Option.bind (y90 u4 u0 (val (y7 u4 u0 u6 u5 (0 : Int))) y0) some) = some r, fun z => Prod.snd z⟩
 | _ => none) (bldD k_R05_Centre [.d (.i .i64 u4), .r (.floats .f32 u0), .d (.i .i64 u6), .d (.i .i64 u5)]) [.s [.d (.i .i64 r.1), .d (.i .i64 r.2.1)], .c (.d (.i .i64 r.2.2))] := by
  refine Eq.mp (by kernel_rfl : (
 Br (u5 != (0 : Int))
   ((Ob (True) ∧
 (Ob (True) ∧
 (Ob ((0 : Int) = r.1) ∧
 (Ob ((0 : Int) = r.2.1) ∧
 (Ob ((23 : Int) = r.2.2) ∧
 True))))))
   ((Ob (ok (y7 u4 u0 u6 u5 (0 : Int))) ∧
 Br ((val (y7 u4 u0 u6 u5 (0 : Int))).1 == (0 : Int))
   ((Ob (True) ∧
 (Ob (True) ∧
 (Ob ((0 : Int) = r.1) ∧
 (Ob ((0 : Int) = r.2.1) ∧
 (Ob ((11 : Int) = r.2.2) ∧
 True))))))
   (((∃ (v0 : (Int × Int × Int) × Nat), (Ob ((Option.bind (iter (y60 u4 u0 u6 u5) v0.2 v0.1) fun y0 => Option.bind (y90 u4 u0 (val (y7 u4 u0 u6 u5 (0 : Int))) y0) some) = some r) ∧
 (Ob ((0 : Nat) = (0 : Nat)) ∧
 (Ob ((0 : Nat) = (0 : Nat)) ∧
 (Ob ((0 : Nat) = (0 : Nat)) ∧
 (Ob ((0 : Nat) = (0 : Nat)) ∧
 (Ob ((↑(List.length u0) : Int) = (↑(List.length u0) : Int)) ∧
 (Ob ((0 : Int) = v0.1.1) ∧
 (Ob (u4 = u4) ∧
 (Ob (u6 = u6) ∧
 (Ob (u5 = u5) ∧
 (Ob ((0 : Int) = (0 : Int)) ∧
 (Ob ((0 : Int) = (0 : Int)) ∧
 (Ob ((val (y7 u4 u0 u6 u5 (0 : Int))).1 = (val (y7 u4 u0 u6 u5 (0 : Int))).1) ∧
 (Ob ((val (y7 u4 u0 u6 u5 (0 : Int))).2 = (val (y7 u4 u0 u6 u5 (0 : Int))).2) ∧
 (Ob ((0 : Int) = v0.1.2.1) ∧
 (Ob ((0 : Int) = v0.1.2.2) ∧
 (Ob (u0 = u0) ∧
 True)))))))))))))))))) ∧
   (∀ (v0 : (Int × Int × Int) × Nat), ((Option.bind (iter (y60 u4 u0 u6 u5) v0.2 v0.1) fun y0 => Option.bind (y90 u4 u0 (val (y7 u4 u0 u6 u5 (0 : Int))) y0) some) = some r →
 Br (decide (v0.1.1 < (↑(List.length u0) : Int)))
   ((Ob (ok (y21 u4 u0 u6 u5 v0.1.1)) ∧
   (∃ (v1 : (Int × Int × Int) × Nat), (Ob ((Option.bind (iter (y60 u4 u0 u6 u5) v1.2 v1.1) fun y0 => Option.bind (y90 u4 u0 (val (y7 u4 u0 u6 u5 (0 : Int))) y0) some) = some r) ∧
 (Ob (v1.2 < v0.2) ∧
 (Ob ((0 : Nat) = (0 : Nat)) ∧
 (Ob ((0 : Nat) = (0 : Nat)) ∧
 (Ob ((0 : Nat) = (0 : Nat)) ∧
 (Ob ((0 : Nat) = (0 : Nat)) ∧
 (Ob ((↑(List.length u0) : Int) = (↑(List.length u0) : Int)) ∧
 (Ob (IntKind.wrap .i64 (v0.1.1 + (1 : Int)) = v1.1.1) ∧
 (Ob (u4 = u4) ∧
 (Ob (u6 = u6) ∧
 (Ob (u5 = u5) ∧
 (Ob ((0 : Int) = (0 : Int)) ∧
 (Ob ((0 : Int) = (0 : Int)) ∧
 (Ob ((val (y7 u4 u0 u6 u5 (0 : Int))).1 = (val (y7 u4 u0 u6 u5 (0 : Int))).1) ∧
 (Ob ((val (y7 u4 u0 u6 u5 (0 : Int))).2 = (val (y7 u4 u0 u6 u5 (0 : Int))).2) ∧
 (Ob (IntKind.wrap .i64 (v0.1.2.1 + IntKind.wrap .i64 (v0.1.1 * (val (y21 u4 u0 u6 u5 v0.1.1)).1)) = v1.1.2.1) ∧
 (Ob (IntKind.wrap .i64 (v0.1.2.2 + IntKind.wrap .i64 (v0.1.1 * (val (y21 u4 u0 u6 u5 v0.1.1)).2)) = v1.1.2.2) ∧
 (Ob (u0 = u0) ∧
 True)))))))))))))))))))))
   ((Ob ((val (y7 u4 u0 u6 u5 (0 : Int))).2 ≠ (0 : Int)) ∧
 (Ob ((val (y7 u4 u0 u6 u5 (0 : Int))).2 ≠ (0 : Int)) ∧
 (Ob (ok (y53 (IntKind.wrap .i64 (Int.tmod v0.1.2.1 (val (y7 u4 u0 u6 u5 (0 : Int))).2 * (1000000 : Int))) (val (y7 u4 u0 u6 u5 (0 : Int))).2)) ∧
 (Ob (ok (y53 (IntKind.wrap .i64 (IntKind.wrap .i64 (IntKind.wrap .i64 (Int.tdiv v0.1.2.1 (val (y7 u4 u0 u6 u5 (0 : Int))).2) * (1000000 : Int)) + val (y53 (IntKind.wrap .i64 (Int.tmod v0.1.2.1 (val (y7 u4 u0 u6 u5 (0 : Int))).2 * (1000000 : Int))) (val (y7 u4 u0 u6 u5 (0 : Int))).2))) u4)) ∧
 (Ob (ok (B_Ceil (IntKind.wrap .i64 (IntKind.wrap .i64 ((↑(List.length u0) : Int) - (1 : Int)) * (1000000 : Int))) u4)) ∧
 (Ob ((val (y7 u4 u0 u6 u5 (0 : Int))).1 ≠ (0 : Int)) ∧
 Br (decide (IntKind.wrap .i64 (Int.tdiv v0.1.2.2 (val (y7 u4 u0 u6 u5 (0 : Int))).1) < (↑(List.length u0) : Int)))
   ((Ob ((val (y7 u4 u0 u6 u5 (0 : Int))).1 ≠ (0 : Int)) ∧
 (Ob ((val (y7 u4 u0 u6 u5 (0 : Int))).1 ≠ (0 : Int)) ∧
 (Ob (ok (B_Ceil (IntKind.wrap .i64 (Int.tmod v0.1.2.2 (val (y7 u4 u0 u6 u5 (0 : Int))).1 * (1000000 : Int))) (val (y7 u4 u0 u6 u5 (0 : Int))).1)) ∧
 (Ob (ok (B_Ceil (IntKind.wrap .i64 (IntKind.wrap .i64 (IntKind.wrap .i64 (Int.tdiv v0.1.2.2 (val (y7 u4 u0 u6 u5 (0 : Int))).1) * (1000000 : Int)) + val (B_Ceil (IntKind.wrap .i64 (Int.tmod v0.1.2.2 (val (y7 u4 u0 u6 u5 (0 : Int))).1 * (1000000 : Int))) (val (y7 u4 u0 u6 u5 (0 : Int))).1))) u4)) ∧
 (Ob (True) ∧
 (Ob (True) ∧
 (Ob (val (y53 (IntKind.wrap .i64 (IntKind.wrap .i64 (IntKind.wrap .i64 (Int.tdiv v0.1.2.1 (val (y7 u4 u0 u6 u5 (0 : Int))).2) * (1000000 : Int)) + val (y53 (IntKind.wrap .i64 (Int.tmod v0.1.2.1 (val (y7 u4 u0 u6 u5 (0 : Int))).2 * (1000000 : Int))) (val (y7 u4 u0 u6 u5 (0 : Int))).2))) u4) = r.1) ∧
 (Ob ((if val (B_Ceil (IntKind.wrap .i64 (IntKind.wrap .i64 (IntKind.wrap .i64 (Int.tdiv v0.1.2.2 (val (y7 u4 u0 u6 u5 (0 : Int))).1) * (1000000 : Int)) + val (B_Ceil (IntKind.wrap .i64 (Int.tmod v0.1.2.2 (val (y7 u4 u0 u6 u5 (0 : Int))).1 * (1000000 : Int))) (val (y7 u4 u0 u6 u5 (0 : Int))).1))) u4) < val (B_Ceil (IntKind.wrap .i64 (IntKind.wrap .i64 ((↑(List.length u0) : Int) - (1 : Int)) * (1000000 : Int))) u4) then val (B_Ceil (IntKind.wrap .i64 (IntKind.wrap .i64 (IntKind.wrap .i64 (Int.tdiv v0.1.2.2 (val (y7 u4 u0 u6 u5 (0 : Int))).1) * (1000000 : Int)) + val (B_Ceil (IntKind.wrap .i64 (Int.tmod v0.1.2.2 (val (y7 u4 u0 u6 u5 (0 : Int))).1 * (1000000 : Int))) (val (y7 u4 u0 u6 u5 (0 : Int))).1))) u4) else val (B_Ceil (IntKind.wrap .i64 (IntKind.wrap .i64 ((↑(List.length u0) : Int) - (1 : Int)) * (1000000 : Int))) u4)) = r.2.1) ∧
 (Ob ((0 : Int) = r.2.2) ∧
 True))))))))))
   ((Ob (True) ∧
 (Ob (True) ∧
 (Ob (val (y53 (IntKind.wrap .i64 (IntKind.wrap .i64 (IntKind.wrap .i64 (Int.tdiv v0.1.2.1 (val (y7 u4 u0 u6 u5 (0 : Int))).2) * (1000000 : Int)) + val (y53 (IntKind.wrap .i64 (Int.tmod v0.1.2.1 (val (y7 u4 u0 u6 u5 (0 : Int))).2 * (1000000 : Int))) (val (y7 u4 u0 u6 u5 (0 : Int))).2))) u4) = r.1) ∧
 (Ob (val (B_Ceil (IntKind.wrap .i64 (IntKind.wrap .i64 ((↑(List.length u0) : Int) - (1 : Int)) * (1000000 : Int))) u4) = r.2.1) ∧
 (Ob ((0 : Int) = r.2.2) ∧
 True)))))))))))))))))))) = _) ?_
  refine br_b h (fun h => ?_) (fun h => ?_)
  · refine ob_t ?_
    refine ob_t ?_
    exact ret_s h (fun e => by subst e; exact (by repeat' (first | exact trivial | exact ⟨rfl⟩ | refine And.intro ?_ ?_)))
  · refine call_s h fun h => ?_
    refine br_b h (fun h => ?_) (fun h => ?_)
    · refine ob_t ?_
      refine ob_t ?_
      exact ret_s h (fun e => by subst e; exact (by repeat' (first | exact trivial | exact ⟨rfl⟩ | refine And.intro ?_ ?_)))
    · refine ⟨⟨(((0 : Int), (0 : Int), (0 : Int)), big), ⟨loop_s h⟩, (by repeat' (first | exact trivial | exact ⟨rfl⟩ | refine And.intro ?_ ?_))⟩, fun z7 hz7 => ?_⟩
      obtain ⟨k7, hm7, h⟩ := iter_pos hz7
      refine br_d h (fun h => ?_) (fun h => ?_)
      · refine call_s h fun h => ?_
        exact ⟨((IntKind.wrap .i64 ((Prod.fst z7).1 + (1 : Int)), IntKind.wrap .i64 ((Prod.fst z7).2.1 + IntKind.wrap .i64 ((Prod.fst z7).1 * (val (y21 u4 u0 u6 u5 (Prod.fst z7).1)).1)), IntKind.wrap .i64 ((Prod.fst z7).2.2 + IntKind.wrap .i64 ((Prod.fst z7).1 * (val (y21 u4 u0 u6 u5 (Prod.fst z7).1)).2))), k7), ⟨next_s h⟩, ⟨lt_gs hm7.symm⟩, (by repeat' (first | exact trivial | exact ⟨rfl⟩ | refine And.intro ?_ ?_))⟩
      · have h := exit_s h
        refine ob_s h fun h => ?_
        refine ob_s h fun h => ?_
        refine call_s h fun h => ?_
        refine call_s h fun h => ?_
        refine call_s h fun h => ?_
        refine ob_s h fun h => ?_
        refine br_d h (fun h => ?_) (fun h => ?_)
        · refine ob_s h fun h => ?_
          refine ob_s h fun h => ?_
          refine call_s h fun h => ?_
          refine call_s h fun h => ?_
          refine ob_t ?_
          refine ob_t ?_
          exact ret_s h (fun e => by subst e; exact (by repeat' (first | exact trivial | exact ⟨rfl⟩ | refine And.intro ?_ ?_)))
        · refine ob_t ?_
          refine ob_t ?_
          exact ret_s h (fun e => by subst e; exact (by repeat' (first | exact trivial | exact ⟨rfl⟩ | refine And.intro ?_ ?_)))
set_option maxRecDepth 100000 in
theorem R05_Centre_ok : SpecOK Tryz.prog 30 true (pureT k_R05_Centre g_R05_Centre) := by
  refine pureT_ok (sp := (sp_72 (sp_83 (sp_74 (sp_75 sp0))))) (fn := Tryz.f30) (body := bodyOf Tryz.f30) mixed (sp_72_ok (sp_83_ok (sp_74_ok (sp_75_ok sp0_ok)))) Tryz.func30 (by kernel_rfl) (by kernel_rfl) fun ls t h ho b hb => ?_
  unfold g_R05_Centre at h
  split at h
  · rename_i u4 u0 u6 u5
    cases h
    obtain rfl := bld_eq hb
    exact ⟨Nat.le_of_ble_eq_true (by kernel_rfl), _, _, R05_Centre_vc u4 u0 u6 u5 _ (ok_some ho)⟩
  · cases h
theorem sp_30_ok {sp : Specs} (h : SpecsOK Tryz.prog sp) : SpecsOK Tryz.prog (sp_30 sp) := addK_ok R05_Centre_ok h
end Go.Sh
end

section
namespace Go.Sh
open Go Go.Proofs Go.RowKit Go.Sx
set_option linter.unusedVariables false
def k_L05_Five : List SV := []
def L05_Five : Option (Int × List Nat) :=
  some (((8000 : Int), [(1090519040 : Nat), (1082130432 : Nat), (1073741824 : Nat), (1065353216 : Nat), (0 : Nat)]))
set_option maxRecDepth 100000 in
def L05_Five_t : T (Int × List Nat) :=
 .obT
  (.rc ((((8000 : Int), [(1090519040 : Nat), (1082130432 : Nat), (1073741824 : Nat), (1065353216 : Nat), (0 : Nat)]))))
set_option maxRecDepth 100000 in
theorem L05_Five_vc (r : Int × List Nat) (h : Option.bind (L05_Five) some = some r) : runT Tryz.f66 (sp0) (fun _ _ _ => none) (bldD k_L05_Five []) [.s [.d (.i .i64 r.1), .row 151 (.floats .f32 r.2)]] :=
  T.vc (t := L05_Five_t) (by kernel_rfl) (by kernel_rfl) h
def k_L05_Few : List SV := [.a [.d, .r (.floats .f32 [])]]
def L05_Few (u17 : Int) (u16 : List Nat) : Option Bool :=
  if (↑(List.length u16) : Int) ≤ (700 : Int) then
   some true
  else
   if (↑(List.length u16) : Int) > (1024 : Int) then
    some (decide ((↑(List.length u16) : Int) ≤ (1026 : Int)))
   else
    some false
def g_L05_Few : List Lf → Option GT
  | [.d (.i .i64 u17), .r (.floats .f32 u16)] => some (.leaf (ok (L05_Few u17 u16)) [.c (.d (.b ((val (L05_Few u17 u16)))))])
  | _ => none
abbrev sp_16 : Specs → Specs := addK 16 true (pureT k_L05_Few g_L05_Few)
set_option maxRecDepth 100000 in
def L05_Few_t (u17 : Int) (u16 : List Nat) : T (Bool) :=
 .brP ((↑(List.length u16) : Int) ≤ (700 : Int))
  (.obT
  (.rc (true)))
  (.brP ((↑(List.length u16) : Int) > (1024 : Int))
  (.obT
  (.rc ((decide ((↑(List.length u16) : Int) ≤ (1026 : Int))))))
  (.obT
  (.rc (false))))
set_option maxRecDepth 100000 in
theorem L05_Few_vc (u17 : Int) (u16 : List Nat) (r : Bool) (h : Option.bind (L05_Few u17 u16) some = some r) : runT Tryz.f16 (sp0) (fun _ _ _ => none) (bldD k_L05_Few [.d (.i .i64 u17), .r (.floats .f32 u16)]) [.c (.d (.b r))] :=
  T.vc (t := L05_Few_t u17 u16) (by kernel_rfl) (by kernel_rfl) h
set_option maxRecDepth 100000 in
theorem L05_Few_ok : SpecOK Tryz.prog 16 true (pureT k_L05_Few g_L05_Few) := by
  refine pureT_ok (sp := sp0) (fn := Tryz.f16) (body := bodyOf Tryz.f16) mixed sp0_ok Tryz.func16 (by kernel_rfl) (by kernel_rfl) fun ls t h ho b hb => ?_
  unfold g_L05_Few at h
  split at h
  · rename_i u17 u16
    cases h
    obtain rfl := bld_eq hb
    exact ⟨Nat.le_of_ble_eq_true (by kernel_rfl), _, _, L05_Few_vc u17 u16 _ (ok_some ho)⟩
  · cases h
theorem sp_16_ok {sp : Specs} (h : SpecsOK Tryz.prog sp) : SpecsOK Tryz.prog (sp_16 sp) := addK_ok L05_Few_ok h
end Go.Sh
end

section
namespace Go.Sh
open Go Go.Proofs Go.RowKit Go.Sx
set_option linter.unusedVariables false
def y126 : List SV := [.c (.p [.d, .r (.floats .f32 []), .d, .d, .r (.recs 2 []), .r (.recs 2 [])]), .c (.d)]
def y24 (u9 : Int) (u10 : List Nat) (u11 : Int) (u12 : Int) (u7 : List (List Int)) (u13 : List (List Int)) (u36 : Int) : Option (Int × Int × Bool) :=
  Option.bind (y36 u13 u9 u10 u11 u12 u7 u13 u36) fun r0 =>
  Option.bind (y37 u13 u9 u10 u11 u12 u7 u13 u36) fun r1 =>
  if r1 < (0 : Int) then
   some (((0 : Int), (0 : Int), false))
  else
   if (r1 == (↑(List.length u7) : Int)) = true then
    some (((0 : Int), (0 : Int), false))
   else
    some ((if IntKind.wrap .i64 (r0 - (1 : Int)) > (0 : Int) then IntKind.wrap .i64 (r0 - (1 : Int)) else (0 : Int), r1, true))
def y127 : List Lf → Option GT
  | [.d (.i .i64 u9), .r (.floats .f32 u10), .d (.i .i64 u11), .d (.i .i64 u12), .r (.recs 2 u7), .r (.recs 2 u13), .d (.i .i64 u36)] => some (.leaf (ok (y24 u9 u10 u11 u12 u7 u13 u36)) [.s [.d (.i .i64 ((val (y24 u9 u10 u11 u12 u7 u13 u36)).1)), .d (.i .i64 ((val (y24 u9 u10 u11 u12 u7 u13 u36)).2.1))], .c (.d (.b ((val (y24 u9 u10 u11 u12 u7 u13 u36)).2.2)))])
  | _ => none
abbrev sp_118 : Specs → Specs := addK 118 true (pureT y126 y127)
set_option maxRecDepth 100000 in
def G_decay_passing_t (u9 : Int) (u10 : List Nat) (u11 : Int) (u12 : Int) (u7 : List (List Int)) (u13 : List (List Int)) (u36 : Int) : T (Int × Int × Bool) :=
 .obT
  (.call (y36 u13 u9 u10 u11 u12 u7 u13 u36) fun r0 =>
  .obT
  (.call (y37 u13 u9 u10 u11 u12 u7 u13 u36) fun r1 =>
  .brP (r1 < (0 : Int))
  (.obT
  (.obT
  (.rc ((((0 : Int), (0 : Int), false))))))
  (.obT
  (.brB (r1 == (↑(List.length u7) : Int))
  (.obT
  (.obT
  (.rc ((((0 : Int), (0 : Int), false))))))
  (.obT
  (.obT
  (.rc (((if IntKind.wrap .i64 (r0 - (1 : Int)) > (0 : Int) then IntKind.wrap .i64 (r0 - (1 : Int)) else (0 : Int), r1, true))))))))))
set_option maxRecDepth 100000 in
theorem G_decay_passing_vc (u9 : Int) (u10 : List Nat) (u11 : Int) (u12 : Int) (u7 : List (List Int)) (u13 : List (List Int)) (u36 : Int) (r : Int × Int × Bool) (h : Option.bind (y24 u9 u10 u11 u12 u7 u13 u36) some = some r) : runT Tryz.f118 ((sp_142 (sp_143 (sp_94 sp0)))) (fun _ _ _ => none) (bldD y126 [.d (.i .i64 u9), .r (.floats .f32 u10), .d (.i .i64 u11), .d (.i .i64 u12), .r (.recs 2 u7), .r (.recs 2 u13), .d (.i .i64 u36)]) [.s [.d (.i .i64 r.1), .d (.i .i64 r.2.1)], .c (.d (.b r.2.2))] :=
  T.vc (t := G_decay_passing_t u9 u10 u11 u12 u7 u13 u36) (by kernel_rfl) (by kernel_rfl) h
set_option maxRecDepth 100000 in
theorem G_decay_passing_ok : SpecOK Tryz.prog 118 true (pureT y126 y127) := by
  refine pureT_ok (sp := (sp_142 (sp_143 (sp_94 sp0)))) (fn := Tryz.f118) (body := bodyOf Tryz.f118) mixed (sp_142_ok (sp_143_ok (sp_94_ok sp0_ok))) Tryz.func118 (by kernel_rfl) (by kernel_rfl) fun ls t h ho b hb => ?_
  unfold y127 at h
  split at h
  · rename_i u9 u10 u11 u12 u7 u13 u36
    cases h
    obtain rfl := bld_eq hb
    exact ⟨Nat.le_of_ble_eq_true (by kernel_rfl), _, _, G_decay_passing_vc u9 u10 u11 u12 u7 u13 u36 _ (ok_some ho)⟩
  · cases h
theorem sp_118_ok {sp : Specs} (h : SpecsOK Tryz.prog sp) : SpecsOK Tryz.prog (sp_118 sp) := addK_ok G_decay_passing_ok h
def y109 : List SV := [.c (.p [.d, .r (.floats .f32 []), .d, .d, .r (.recs 2 []), .r (.recs 2 [])]), .c (.d)]
def y32 (u9 : Int) (u10 : List Nat) (u11 : Int) (u12 : Int) (u7 : List (List Int)) (u13 : List (List Int)) (u33 : Int) : Option (Int × Int × Int) :=
  if (0 : Int) ≤ (0 : Int) ∧ (0 : Int) < (↑(List.length u13) : Int) then
   if (0 : Nat) < List.length u13 then
    if (List.getD (List.getD u13 (0 : Nat) []) (0 : Nat) (0 : Int) == (0 : Int)) = true then
     some (((0 : Int), (0 : Int), (11 : Int)))
    else
     if (0 : Int) ≤ u33 ∧ u33 < (↑(3 : Nat) : Int) then
      if Int.toNat u33 < List.length slopesT then
       if List.getD (List.getD slopesT (Int.toNat u33) []) (0 : Nat) (0 : Int) > (0 : Int) then
        Option.bind (y24 u9 u10 u11 u12 u7 u13 (List.getD (List.getD slopesT (Int.toNat u33) []) (0 : Nat) (0 : Int))) fun r0 =>
        if (!r0.2.2) = true then
         some (((0 : Int), (0 : Int), (12 : Int)))
        else
         Option.bind (y24 u9 u10 u11 u12 u7 u13 (List.getD (List.getD slopesT (Int.toNat u33) []) (1 : Nat) (0 : Int))) fun r1 =>
         if (!r1.2.2) = true then
          some (((0 : Int), (0 : Int), (12 : Int)))
         else
          if u9 ≠ (0 : Int) then
           Option.bind (G_ceil (IntKind.wrap .i64 (IntKind.wrap .i64 (List.getD (List.getD slopesT (Int.toNat u33) []) (2 : Nat) (0 : Int) * IntKind.wrap .i64 (r1.2.1 - r0.1)) * (1000000 : Int))) u9) fun r2 =>
           some ((IntKind.wrap .i64 (Int.tdiv (IntKind.wrap .i64 (IntKind.wrap .i64 (List.getD (List.getD slopesT (Int.toNat u33) []) (2 : Nat) (0 : Int) * if IntKind.wrap .i64 (r1.1 - r0.2.1) > (0 : Int) then IntKind.wrap .i64 (r1.1 - r0.2.1) else (0 : Int)) * (1000000 : Int))) u9), r2, (0 : Int)))
          else none
       else
        Option.bind (y24 u9 u10 u11 u12 u7 u13 (List.getD (List.getD slopesT (Int.toNat u33) []) (1 : Nat) (0 : Int))) fun r1 =>
        if (!r1.2.2) = true then
         some (((0 : Int), (0 : Int), (12 : Int)))
        else
         if u9 ≠ (0 : Int) then
          Option.bind (G_ceil (IntKind.wrap .i64 (IntKind.wrap .i64 (List.getD (List.getD slopesT (Int.toNat u33) []) (2 : Nat) (0 : Int) * IntKind.wrap .i64 (r1.2.1 - (0 : Int))) * (1000000 : Int))) u9) fun r3 =>
          some ((IntKind.wrap .i64 (Int.tdiv (IntKind.wrap .i64 (IntKind.wrap .i64 (List.getD (List.getD slopesT (Int.toNat u33) []) (2 : Nat) (0 : Int) * if IntKind.wrap .i64 (r1.1 - (0 : Int)) > (0 : Int) then IntKind.wrap .i64 (r1.1 - (0 : Int)) else (0 : Int)) * (1000000 : Int))) u9), r3, (0 : Int)))
         else none
      else none
     else none
   else none
  else none
def y110 : List Lf → Option GT
  | [.d (.i .i64 u9), .r (.floats .f32 u10), .d (.i .i64 u11), .d (.i .i64 u12), .r (.recs 2 u7), .r (.recs 2 u13), .d (.i .i64 u33)] => some (.leaf (ok (y32 u9 u10 u11 u12 u7 u13 u33)) [.s [.d (.i .i64 ((val (y32 u9 u10 u11 u12 u7 u13 u33)).1)), .d (.i .i64 ((val (y32 u9 u10 u11 u12 u7 u13 u33)).2.1))], .c (.d (.i .i64 ((val (y32 u9 u10 u11 u12 u7 u13 u33)).2.2)))])
  | _ => none
abbrev sp_69 : Specs → Specs := addK 69 true (pureT y109 y110)
set_option maxRecDepth 100000 in
def G_decay_decayTime_t (u9 : Int) (u10 : List Nat) (u11 : Int) (u12 : Int) (u7 : List (List Int)) (u13 : List (List Int)) (u33 : Int) : T (Int × Int × Int) :=
 .obT
  (.obP ((0 : Int) ≤ (0 : Int) ∧ (0 : Int) < (↑(List.length u13) : Int))
  (.obP ((0 : Nat) < List.length u13)
  (.brB (List.getD (List.getD u13 (0 : Nat) []) (0 : Nat) (0 : Int) == (0 : Int))
  (.obT
  (.obT
  (.rc ((((0 : Int), (0 : Int), (11 : Int)))))))
  (.obP ((0 : Int) ≤ u33 ∧ u33 < (↑(3 : Nat) : Int))
  (.obP (Int.toNat u33 < List.length slopesT)
  (.brP (List.getD (List.getD slopesT (Int.toNat u33) []) (0 : Nat) (0 : Int) > (0 : Int))
  (.call (y24 u9 u10 u11 u12 u7 u13 (List.getD (List.getD slopesT (Int.toNat u33) []) (0 : Nat) (0 : Int))) fun r0 =>
  .brB (!r0.2.2)
  (.obT
  (.obT
  (.rc ((((0 : Int), (0 : Int), (12 : Int)))))))
  (.call (y24 u9 u10 u11 u12 u7 u13 (List.getD (List.getD slopesT (Int.toNat u33) []) (1 : Nat) (0 : Int))) fun r1 =>
  .brB (!r1.2.2)
  (.obT
  (.obT
  (.rc ((((0 : Int), (0 : Int), (12 : Int)))))))
  (.obT
  (.obP (u9 ≠ (0 : Int))
  (.obT
  (.call (G_ceil (IntKind.wrap .i64 (IntKind.wrap .i64 (List.getD (List.getD slopesT (Int.toNat u33) []) (2 : Nat) (0 : Int) * IntKind.wrap .i64 (r1.2.1 - r0.1)) * (1000000 : Int))) u9) fun r2 =>
  .obT
  (.obT
  (.rc (((IntKind.wrap .i64 (Int.tdiv (IntKind.wrap .i64 (IntKind.wrap .i64 (List.getD (List.getD slopesT (Int.toNat u33) []) (2 : Nat) (0 : Int) * if IntKind.wrap .i64 (r1.1 - r0.2.1) > (0 : Int) then IntKind.wrap .i64 (r1.1 - r0.2.1) else (0 : Int)) * (1000000 : Int))) u9), r2, (0 : Int))))))))))))
  (.call (y24 u9 u10 u11 u12 u7 u13 (List.getD (List.getD slopesT (Int.toNat u33) []) (1 : Nat) (0 : Int))) fun r1 =>
  .brB (!r1.2.2)
  (.obT
  (.obT
  (.rc ((((0 : Int), (0 : Int), (12 : Int)))))))
  (.obT
  (.obP (u9 ≠ (0 : Int))
  (.obT
  (.call (G_ceil (IntKind.wrap .i64 (IntKind.wrap .i64 (List.getD (List.getD slopesT (Int.toNat u33) []) (2 : Nat) (0 : Int) * IntKind.wrap .i64 (r1.2.1 - (0 : Int))) * (1000000 : Int))) u9) fun r3 =>
  .obT
  (.obT
  (.rc (((IntKind.wrap .i64 (Int.tdiv (IntKind.wrap .i64 (IntKind.wrap .i64 (List.getD (List.getD slopesT (Int.toNat u33) []) (2 : Nat) (0 : Int) * if IntKind.wrap .i64 (r1.1 - (0 : Int)) > (0 : Int) then IntKind.wrap .i64 (r1.1 - (0 : Int)) else (0 : Int)) * (1000000 : Int))) u9), r3, (0 : Int)))))))))))))))))
set_option maxRecDepth 100000 in
theorem G_decay_decayTime_vc (u9 : Int) (u10 : List Nat) (u11 : Int) (u12 : Int) (u7 : List (List Int)) (u13 : List (List Int)) (u33 : Int) (r : Int × Int × Int) (h : Option.bind (y32 u9 u10 u11 u12 u7 u13 u33) some = some r) : runT Tryz.f69 ((sp_118 (sp_119 sp0))) (fun _ _ _ => none) (bldD y109 [.d (.i .i64 u9), .r (.floats .f32 u10), .d (.i .i64 u11), .d (.i .i64 u12), .r (.recs 2 u7), .r (.recs 2 u13), .d (.i .i64 u33)]) [.s [.d (.i .i64 r.1), .d (.i .i64 r.2.1)], .c (.d (.i .i64 r.2.2))] :=
  T.vc (t := G_decay_decayTime_t u9 u10 u11 u12 u7 u13 u33) (by kernel_rfl) (by kernel_rfl) h
set_option maxRecDepth 100000 in
theorem G_decay_decayTime_ok : SpecOK Tryz.prog 69 true (pureT y109 y110) := by
  refine pureT_ok (sp := (sp_118 (sp_119 sp0))) (fn := Tryz.f69) (body := bodyOf Tryz.f69) mixed (sp_118_ok (sp_119_ok sp0_ok)) Tryz.func69 (by kernel_rfl) (by kernel_rfl) fun ls t h ho b hb => ?_
  unfold y110 at h
  split at h
  · rename_i u9 u10 u11 u12 u7 u13 u33
    cases h
    obtain rfl := bld_eq hb
    exact ⟨Nat.le_of_ble_eq_true (by kernel_rfl), _, _, G_decay_decayTime_vc u9 u10 u11 u12 u7 u13 u33 _ (ok_some ho)⟩
  · cases h
theorem sp_69_ok {sp : Specs} (h : SpecsOK Tryz.prog sp) : SpecsOK Tryz.prog (sp_69 sp) := addK_ok G_decay_decayTime_ok h
def y152 : List SV := [.a [.d, .r (.floats .f32 []), .d, .d], .c (.d)]
def y77 (u4 : Int) (u0 : List Nat) (u6 : Int) (u5 : Int) (u33 : Int) : Option (Int × Int × Int) :=
  if ((val (G_open u4 u0 u6 u5)).1 != (0 : Int)) = true then
   Option.bind (G_open u4 u0 u6 u5) fun r0 =>
   if (r0.1 != (0 : Int)) = true then
    some (((0 : Int), (0 : Int), r0.1))
   else
    none   else
   Option.bind (G_open u4 u0 u6 u5) fun r0 =>
   Option.bind (y9 u33 (0 : Int) (2 : Int)) fun r1 =>
   if (!r1) = true then
    some (((0 : Int), (0 : Int), (15 : Int)))
   else
    Option.bind (y32 u4 u0 u6 u5 r0.2.1 r0.2.2 u33) fun r2 =>
    some (r2.1, r2.2.1, r2.2.2)
def y153 : List Lf → Option GT
  | [.d (.i .i64 u4), .r (.floats .f32 u0), .d (.i .i64 u6), .d (.i .i64 u5), .d (.i .i64 u33)] => some (.leaf (ok (y77 u4 u0 u6 u5 u33)) [.s [.d (.i .i64 ((val (y77 u4 u0 u6 u5 u33)).1)), .d (.i .i64 ((val (y77 u4 u0 u6 u5 u33)).2.1))], .c (.d (.i .i64 ((val (y77 u4 u0 u6 u5 u33)).2.2)))])
  | _ => none
abbrev sp_19 : Specs → Specs := addK 19 true (pureT y152 y153)
set_option maxRecDepth 100000 in
def G_DecayWithin_t (u4 : Int) (u0 : List Nat) (u6 : Int) (u5 : Int) (u33 : Int) : T (Int × Int × Int) :=
 .brB ((val (G_open u4 u0 u6 u5)).1 != (0 : Int))
  (.call (G_open u4 u0 u6 u5) fun r0 =>
  .brB (r0.1 != (0 : Int))
  (.obT
  (.obT
  (.rc ((((0 : Int), (0 : Int), r0.1))))))
  (.bad (fun r => (Ob (ok (y9 u33 (0 : Int) (2 : Int))) ∧
 Br (!val (y9 u33 (0 : Int) (2 : Int)))
  ((Ob (True) ∧
 (Ob (True) ∧
 (Ob ((0 : Int) = r.1) ∧
 (Ob ((0 : Int) = r.2.1) ∧
 (Ob ((15 : Int) = r.2.2) ∧
 True))))))
  (False)))))
  (.call (G_open u4 u0 u6 u5) fun r0 =>
  .call (y9 u33 (0 : Int) (2 : Int)) fun r1 =>
  .brB (!r1)
  (.obT
  (.obT
  (.rc ((((0 : Int), (0 : Int), (15 : Int)))))))
  (.call (y32 u4 u0 u6 u5 r0.2.1 r0.2.2 u33) fun r2 =>
  .obT
  (.obT
  (.rc ((r2.1, r2.2.1, r2.2.2))))))
set_option maxRecDepth 100000 in
theorem G_DecayWithin_vc (u4 : Int) (u0 : List Nat) (u6 : Int) (u5 : Int) (u33 : Int) (r : Int × Int × Int) (h : Option.bind (y77 u4 u0 u6 u5 u33) some = some r) : runT Tryz.f19 ((sp_67 (sp_68 (sp_69 sp0)))) (fun _ _ _ => none) (bldD y152 [.d (.i .i64 u4), .r (.floats .f32 u0), .d (.i .i64 u6), .d (.i .i64 u5), .d (.i .i64 u33)]) [.s [.d (.i .i64 r.1), .d (.i .i64 r.2.1)], .c (.d (.i .i64 r.2.2))] :=
  T.vc (t := G_DecayWithin_t u4 u0 u6 u5 u33) (by kernel_rfl) (by kernel_rfl) h
set_option maxRecDepth 100000 in
theorem G_DecayWithin_ok : SpecOK Tryz.prog 19 true (pureT y152 y153) := by
  refine pureT_ok (sp := (sp_67 (sp_68 (sp_69 sp0)))) (fn := Tryz.f19) (body := bodyOf Tryz.f19) mixed (sp_67_ok (sp_68_ok (sp_69_ok sp0_ok))) Tryz.func19 (by kernel_rfl) (by kernel_rfl) fun ls t h ho b hb => ?_
  unfold y153 at h
  split at h
  · rename_i u4 u0 u6 u5 u33
    cases h
    obtain rfl := bld_eq hb
    exact ⟨Nat.le_of_ble_eq_true (by kernel_rfl), _, _, G_DecayWithin_vc u4 u0 u6 u5 u33 _ (ok_some ho)⟩
  · cases h
theorem sp_19_ok {sp : Specs} (h : SpecsOK Tryz.prog sp) : SpecsOK Tryz.prog (sp_19 sp) := addK_ok G_DecayWithin_ok h
def k_G_Decay : List SV := [.a [.d, .r (.floats .f32 [])], .c (.d)]
def G_Decay (u17 : Int) (u16 : List Nat) (u33 : Int) : Option (Int × Int × Int) :=
  Option.bind (y77 u17 u16 (0 : Int) (0 : Int) u33) fun r0 =>
  some (r0.1, r0.2.1, r0.2.2)
def g_G_Decay : List Lf → Option GT
  | [.d (.i .i64 u17), .r (.floats .f32 u16), .d (.i .i64 u33)] => some (.leaf (ok (G_Decay u17 u16 u33)) [.s [.d (.i .i64 ((val (G_Decay u17 u16 u33)).1)), .d (.i .i64 ((val (G_Decay u17 u16 u33)).2.1))], .c (.d (.i .i64 ((val (G_Decay u17 u16 u33)).2.2)))])
  | _ => none
abbrev sp_17 : Specs → Specs := addK 17 true (pureT k_G_Decay g_G_Decay)
set_option maxRecDepth 100000 in
def G_Decay_t (u17 : Int) (u16 : List Nat) (u33 : Int) : T (Int × Int × Int) :=
 .call (y77 u17 u16 (0 : Int) (0 : Int) u33) fun r0 =>
  .obT
  (.obT
  (.rc ((r0.1, r0.2.1, r0.2.2))))
set_option maxRecDepth 100000 in
theorem G_Decay_vc (u17 : Int) (u16 : List Nat) (u33 : Int) (r : Int × Int × Int) (h : Option.bind (G_Decay u17 u16 u33) some = some r) : runT Tryz.f17 ((sp_19 sp0)) (fun _ _ _ => none) (bldD k_G_Decay [.d (.i .i64 u17), .r (.floats .f32 u16), .d (.i .i64 u33)]) [.s [.d (.i .i64 r.1), .d (.i .i64 r.2.1)], .c (.d (.i .i64 r.2.2))] :=
  T.vc (t := G_Decay_t u17 u16 u33) (by kernel_rfl) (by kernel_rfl) h
set_option maxRecDepth 100000 in
theorem G_Decay_ok : SpecOK Tryz.prog 17 true (pureT k_G_Decay g_G_Decay) := by
  refine pureT_ok (sp := (sp_19 sp0)) (fn := Tryz.f17) (body := bodyOf Tryz.f17) mixed (sp_19_ok sp0_ok) Tryz.func17 (by kernel_rfl) (by kernel_rfl) fun ls t h ho b hb => ?_
  unfold g_G_Decay at h
  split at h
  · rename_i u17 u16 u33
    cases h
    obtain rfl := bld_eq hb
    exact ⟨Nat.le_of_ble_eq_true (by kernel_rfl), _, _, G_Decay_vc u17 u16 u33 _ (ok_some ho)⟩
  · cases h
theorem sp_17_ok {sp : Specs} (h : SpecsOK Tryz.prog sp) : SpecsOK Tryz.prog (sp_17 sp) := addK_ok G_Decay_ok h
def y154 : List SV := [.c (.p [.d, .r (.floats .f32 []), .d, .d, .r (.recs 2 []), .r (.recs 2 [])]), .c (.d)]
def y61 (u9 : Int) (u10 : List Nat) (u11 : Int) (u12 : Int) (u7 : List (List Int)) (u13 : List (List Int)) (u14 : Int) : Option (Int × Int) :=
  Option.bind (y67 u9 u10 u11 u12 u7 u13 u14) fun r0 =>
  Option.bind (y84 u9 u10 u11 u12 u7 u13 (0 : Int) r0) fun r1 =>
  some (r1.1, r1.2)
def y155 : List Lf → Option GT
  | [.d (.i .i64 u9), .r (.floats .f32 u10), .d (.i .i64 u11), .d (.i .i64 u12), .r (.recs 2 u7), .r (.recs 2 u13), .d (.i .i64 u14)] => some (.leaf (ok (y61 u9 u10 u11 u12 u7 u13 u14)) [.s [.d (.i .i64 ((val (y61 u9 u10 u11 u12 u7 u13 u14)).1)), .d (.i .i64 ((val (y61 u9 u10 u11 u12 u7 u13 u14)).2))]])
  | _ => none
abbrev sp_89 : Specs → Specs := addK 89 true (pureT y154 y155)
set_option maxRecDepth 100000 in
def G_decay_early_t (u9 : Int) (u10 : List Nat) (u11 : Int) (u12 : Int) (u7 : List (List Int)) (u13 : List (List Int)) (u14 : Int) : T (Int × Int) :=
 .call (y67 u9 u10 u11 u12 u7 u13 u14) fun r0 =>
  .call (y84 u9 u10 u11 u12 u7 u13 (0 : Int) r0) fun r1 =>
  .obT
  (.rc ((r1.1, r1.2)))
set_option maxRecDepth 100000 in
theorem G_decay_early_vc (u9 : Int) (u10 : List Nat) (u11 : Int) (u12 : Int) (u7 : List (List Int)) (u13 : List (List Int)) (u14 : Int) (r : Int × Int) (h : Option.bind (y61 u9 u10 u11 u12 u7 u13 u14) some = some r) : runT Tryz.f89 ((sp_88 (sp_87 sp0))) (fun _ _ _ => none) (bldD y154 [.d (.i .i64 u9), .r (.floats .f32 u10), .d (.i .i64 u11), .d (.i .i64 u12), .r (.recs 2 u7), .r (.recs 2 u13), .d (.i .i64 u14)]) [.s [.d (.i .i64 r.1), .d (.i .i64 r.2)]] :=
  T.vc (t := G_decay_early_t u9 u10 u11 u12 u7 u13 u14) (by kernel_rfl) (by kernel_rfl) h
set_option maxRecDepth 100000 in
theorem G_decay_early_ok : SpecOK Tryz.prog 89 true (pureT y154 y155) := by
  refine pureT_ok (sp := (sp_88 (sp_87 sp0))) (fn := Tryz.f89) (body := bodyOf Tryz.f89) mixed (sp_88_ok (sp_87_ok sp0_ok)) Tryz.func89 (by kernel_rfl) (by kernel_rfl) fun ls t h ho b hb => ?_
  unfold y155 at h
  split at h
  · rename_i u9 u10 u11 u12 u7 u13 u14
    cases h
    obtain rfl := bld_eq hb
    exact ⟨Nat.le_of_ble_eq_true (by kernel_rfl), _, _, G_decay_early_vc u9 u10 u11 u12 u7 u13 u14 _ (ok_some ho)⟩
  · cases h
theorem sp_89_ok {sp : Specs} (h : SpecsOK Tryz.prog sp) : SpecsOK Tryz.prog (sp_89 sp) := addK_ok G_decay_early_ok h
def k_G_decay_late : List SV := [.c (.p [.d, .r (.floats .f32 []), .d, .d, .r (.recs 2 []), .r (.recs 2 [])]), .c (.d)]
def y75 (u9 : Int) (u10 : List Nat) (u11 : Int) (u12 : Int) (u7 : List (List Int)) (u13 : List (List Int)) (u14 : Int) : Option (Int × Int) :=
  Option.bind (y67 u9 u10 u11 u12 u7 u13 u14) fun r0 =>
  if (0 : Int) ≤ r0 ∧ r0 < (↑(List.length u13) : Int) then
   if Int.toNat r0 < List.length u13 then
    some ((List.getD (List.getD u13 (Int.toNat r0) []) (0 : Nat) (0 : Int), List.getD (List.getD u13 (Int.toNat r0) []) (1 : Nat) (0 : Int)))
   else none
  else none
def g_G_decay_late : List Lf → Option GT
  | [.d (.i .i64 u9), .r (.floats .f32 u10), .d (.i .i64 u11), .d (.i .i64 u12), .r (.recs 2 u7), .r (.recs 2 u13), .d (.i .i64 u14)] => some (.leaf (ok (y75 u9 u10 u11 u12 u7 u13 u14)) [.s [.d (.i .i64 ((val (y75 u9 u10 u11 u12 u7 u13 u14)).1)), .d (.i .i64 ((val (y75 u9 u10 u11 u12 u7 u13 u14)).2))]])
  | _ => none
abbrev sp_122 : Specs → Specs := addK 122 true (pureT k_G_decay_late g_G_decay_late)
set_option maxRecDepth 100000 in
def G_decay_late_t (u9 : Int) (u10 : List Nat) (u11 : Int) (u12 : Int) (u7 : List (List Int)) (u13 : List (List Int)) (u14 : Int) : T (Int × Int) :=
 .obT
  (.call (y67 u9 u10 u11 u12 u7 u13 u14) fun r0 =>
  .obP ((0 : Int) ≤ r0 ∧ r0 < (↑(List.length u13) : Int))
  (.obP (Int.toNat r0 < List.length u13)
  (.obT
  (.rc (((List.getD (List.getD u13 (Int.toNat r0) []) (0 : Nat) (0 : Int), List.getD (List.getD u13 (Int.toNat r0) []) (1 : Nat) (0 : Int))))))))
set_option maxRecDepth 100000 in
theorem G_decay_late_vc (u9 : Int) (u10 : List Nat) (u11 : Int) (u12 : Int) (u7 : List (List Int)) (u13 : List (List Int)) (u14 : Int) (r : Int × Int) (h : Option.bind (y75 u9 u10 u11 u12 u7 u13 u14) some = some r) : runT Tryz.f122 ((sp_88 sp0)) (fun _ _ _ => none) (bldD k_G_decay_late [.d (.i .i64 u9), .r (.floats .f32 u10), .d (.i .i64 u11), .d (.i .i64 u12), .r (.recs 2 u7), .r (.recs 2 u13), .d (.i .i64 u14)]) [.s [.d (.i .i64 r.1), .d (.i .i64 r.2)]] :=
  T.vc (t := G_decay_late_t u9 u10 u11 u12 u7 u13 u14) (by kernel_rfl) (by kernel_rfl) h
set_option maxRecDepth 100000 in
theorem G_decay_late_ok : SpecOK Tryz.prog 122 true (pureT k_G_decay_late g_G_decay_late) := by
  refine pureT_ok (sp := (sp_88 sp0)) (fn := Tryz.f122) (body := bodyOf Tryz.f122) mixed (sp_88_ok sp0_ok) Tryz.func122 (by kernel_rfl) (by kernel_rfl) fun ls t h ho b hb => ?_
  unfold g_G_decay_late at h
  split at h
  · rename_i u9 u10 u11 u12 u7 u13 u14
    cases h
    obtain rfl := bld_eq hb
    exact ⟨Nat.le_of_ble_eq_true (by kernel_rfl), _, _, G_decay_late_vc u9 u10 u11 u12 u7 u13 u14 _ (ok_some ho)⟩
  · cases h
theorem sp_122_ok {sp : Specs} (h : SpecsOK Tryz.prog sp) : SpecsOK Tryz.prog (sp_122 sp) := addK_ok G_decay_late_ok h
def y128 : List SV := [.c (.p [.d, .r (.floats .f32 []), .d, .d, .r (.recs 2 []), .r (.recs 2 [])]), .c (.d)]
def y41 (u9 : Int) (u10 : List Nat) (u11 : Int) (u12 : Int) (u7 : List (List Int)) (u13 : List (List Int)) (u14 : Int) : Option (Int × Int × Int) :=
  Option.bind (y61 u9 u10 u11 u12 u7 u13 u14) fun r0 =>
  Option.bind (y75 u9 u10 u11 u12 u7 u13 u14) fun r1 =>
  Option.bind (y67 u9 u10 u11 u12 u7 u13 u14) fun r2 =>
  if (r2 == (↑(List.length u7) : Int)) = true then
   some (((0 : Int), (0 : Int), (12 : Int)))
  else
   if (r0.1 == (0 : Int)) = true then
    some (((0 : Int), (0 : Int), (11 : Int)))
   else
    if (r1.1 == (0 : Int)) = true then
     some (((0 : Int), (0 : Int), (11 : Int)))
    else
     Option.bind (y91 r0.1 r1.2) fun r3 =>
     Option.bind (y91 r0.2 r1.1) fun r4 =>
     Option.bind (y20 [r3.2.2, r4.2.2]) fun r5 =>
     if (r5 != (0 : Int)) = true then
      some (((0 : Int), (0 : Int), r5))
     else
      some ((r3.1, r4.2.1, (0 : Int)))
def y129 : List Lf → Option GT
  | [.d (.i .i64 u9), .r (.floats .f32 u10), .d (.i .i64 u11), .d (.i .i64 u12), .r (.recs 2 u7), .r (.recs 2 u13), .d (.i .i64 u14)] => some (.leaf (ok (y41 u9 u10 u11 u12 u7 u13 u14)) [.s [.d (.i .i64 ((val (y41 u9 u10 u11 u12 u7 u13 u14)).1)), .d (.i .i64 ((val (y41 u9 u10 u11 u12 u7 u13 u14)).2.1))], .c (.d (.i .i64 ((val (y41 u9 u10 u11 u12 u7 u13 u14)).2.2)))])
  | _ => none
abbrev sp_78 : Specs → Specs := addK 78 true (pureT y128 y129)
set_option maxRecDepth 100000 in
def G_decay_clarity_t (u9 : Int) (u10 : List Nat) (u11 : Int) (u12 : Int) (u7 : List (List Int)) (u13 : List (List Int)) (u14 : Int) : T (Int × Int × Int) :=
 .call (y61 u9 u10 u11 u12 u7 u13 u14) fun r0 =>
  .call (y75 u9 u10 u11 u12 u7 u13 u14) fun r1 =>
  .call (y67 u9 u10 u11 u12 u7 u13 u14) fun r2 =>
  .obT
  (.brB (r2 == (↑(List.length u7) : Int))
  (.obT
  (.obT
  (.rc ((((0 : Int), (0 : Int), (12 : Int)))))))
  (.brB (r0.1 == (0 : Int))
  (.obT
  (.obT
  (.rc ((((0 : Int), (0 : Int), (11 : Int)))))))
  (.brB (r1.1 == (0 : Int))
  (.obT
  (.obT
  (.rc ((((0 : Int), (0 : Int), (11 : Int)))))))
  (.call (y91 r0.1 r1.2) fun r3 =>
  .call (y91 r0.2 r1.1) fun r4 =>
  .call (y20 [r3.2.2, r4.2.2]) fun r5 =>
  .brB (r5 != (0 : Int))
  (.obT
  (.obT
  (.rc ((((0 : Int), (0 : Int), r5))))))
  (.obT
  (.obT
  (.rc (((r3.1, r4.2.1, (0 : Int)))))))))))
set_option maxRecDepth 100000 in
theorem G_decay_clarity_vc (u9 : Int) (u10 : List Nat) (u11 : Int) (u12 : Int) (u7 : List (List Int)) (u13 : List (List Int)) (u14 : Int) (r : Int × Int × Int) (h : Option.bind (y41 u9 u10 u11 u12 u7 u13 u14) some = some r) : runT Tryz.f78 ((sp_89 (sp_122 (sp_88 (sp_123 (sp_76 sp0)))))) (fun _ _ _ => none) (bldD y128 [.d (.i .i64 u9), .r (.floats .f32 u10), .d (.i .i64 u11), .d (.i .i64 u12), .r (.recs 2 u7), .r (.recs 2 u13), .d (.i .i64 u14)]) [.s [.d (.i .i64 r.1), .d (.i .i64 r.2.1)], .c (.d (.i .i64 r.2.2))] :=
  T.vc (t := G_decay_clarity_t u9 u10 u11 u12 u7 u13 u14) (by kernel_rfl) (by kernel_rfl) h
set_option maxRecDepth 100000 in
theorem G_decay_clarity_ok : SpecOK Tryz.prog 78 true (pureT y128 y129) := by
  refine pureT_ok (sp := (sp_89 (sp_122 (sp_88 (sp_123 (sp_76 sp0)))))) (fn := Tryz.f78) (body := bodyOf Tryz.f78) mixed (sp_89_ok (sp_122_ok (sp_88_ok (sp_123_ok (sp_76_ok sp0_ok))))) Tryz.func78 (by kernel_rfl) (by kernel_rfl) fun ls t h ho b hb => ?_
  unfold y129 at h
  split at h
  · rename_i u9 u10 u11 u12 u7 u13 u14
    cases h
    obtain rfl := bld_eq hb
    exact ⟨Nat.le_of_ble_eq_true (by kernel_rfl), _, _, G_decay_clarity_vc u9 u10 u11 u12 u7 u13 u14 _ (ok_some ho)⟩
  · cases h
theorem sp_78_ok {sp : Specs} (h : SpecsOK Tryz.prog sp) : SpecsOK Tryz.prog (sp_78 sp) := addK_ok G_decay_clarity_ok h
def k_G_Clarity : List SV := [.a [.d, .r (.floats .f32 []), .d, .d], .c (.d)]
def G_Clarity (u4 : Int) (u0 : List Nat) (u6 : Int) (u5 : Int) (u14 : Int) : Option (Int × Int × Int) :=
  if ((val (G_open u4 u0 u6 u5)).1 != (0 : Int)) = true then
   Option.bind (G_open u4 u0 u6 u5) fun r0 =>
   Option.bind (G_timeErr u14) fun r1 =>
   Option.bind (y20 [r0.1, r1]) fun r2 =>
   if (r2 != (0 : Int)) = true then
    some (((0 : Int), (0 : Int), r2))
   else
    none   else
   Option.bind (G_open u4 u0 u6 u5) fun r0 =>
   Option.bind (G_timeErr u14) fun r1 =>
   Option.bind (y20 [(0 : Int), r1]) fun r3 =>
   if (r3 != (0 : Int)) = true then
    some (((0 : Int), (0 : Int), r3))
   else
    Option.bind (y41 u4 u0 u6 u5 r0.2.1 r0.2.2 u14) fun r4 =>
    some (r4.1, r4.2.1, r4.2.2)
def g_G_Clarity : List Lf → Option GT
  | [.d (.i .i64 u4), .r (.floats .f32 u0), .d (.i .i64 u6), .d (.i .i64 u5), .d (.i .i64 u14)] => some (.leaf (ok (G_Clarity u4 u0 u6 u5 u14)) [.s [.d (.i .i64 ((val (G_Clarity u4 u0 u6 u5 u14)).1)), .d (.i .i64 ((val (G_Clarity u4 u0 u6 u5 u14)).2.1))], .c (.d (.i .i64 ((val (G_Clarity u4 u0 u6 u5 u14)).2.2)))])
  | _ => none
abbrev sp_26 : Specs → Specs := addK 26 true (pureT k_G_Clarity g_G_Clarity)
set_option maxRecDepth 100000 in
def G_Clarity_t (u4 : Int) (u0 : List Nat) (u6 : Int) (u5 : Int) (u14 : Int) : T (Int × Int × Int) :=
 .brB ((val (G_open u4 u0 u6 u5)).1 != (0 : Int))
  (.call (G_open u4 u0 u6 u5) fun r0 =>
  .call (G_timeErr u14) fun r1 =>
  .call (y20 [r0.1, r1]) fun r2 =>
  .brB (r2 != (0 : Int))
  (.obT
  (.obT
  (.rc ((((0 : Int), (0 : Int), r2))))))
  (.bad (fun r => False)))
  (.call (G_open u4 u0 u6 u5) fun r0 =>
  .call (G_timeErr u14) fun r1 =>
  .call (y20 [(0 : Int), r1]) fun r3 =>
  .brB (r3 != (0 : Int))
  (.obT
  (.obT
  (.rc ((((0 : Int), (0 : Int), r3))))))
  (.call (y41 u4 u0 u6 u5 r0.2.1 r0.2.2 u14) fun r4 =>
  .obT
  (.obT
  (.rc ((r4.1, r4.2.1, r4.2.2))))))
set_option maxRecDepth 100000 in
theorem G_Clarity_vc (u4 : Int) (u0 : List Nat) (u6 : Int) (u5 : Int) (u14 : Int) (r : Int × Int × Int) (h : Option.bind (G_Clarity u4 u0 u6 u5 u14) some = some r) : runT Tryz.f26 ((sp_67 (sp_77 (sp_76 (sp_78 sp0))))) (fun _ _ _ => none) (bldD k_G_Clarity [.d (.i .i64 u4), .r (.floats .f32 u0), .d (.i .i64 u6), .d (.i .i64 u5), .d (.i .i64 u14)]) [.s [.d (.i .i64 r.1), .d (.i .i64 r.2.1)], .c (.d (.i .i64 r.2.2))] :=
  T.vc (t := G_Clarity_t u4 u0 u6 u5 u14) (by kernel_rfl) (by kernel_rfl) h
set_option maxRecDepth 100000 in
theorem G_Clarity_ok : SpecOK Tryz.prog 26 true (pureT k_G_Clarity g_G_Clarity) := by
  refine pureT_ok (sp := (sp_67 (sp_77 (sp_76 (sp_78 sp0))))) (fn := Tryz.f26) (body := bodyOf Tryz.f26) mixed (sp_67_ok (sp_77_ok (sp_76_ok (sp_78_ok sp0_ok)))) Tryz.func26 (by kernel_rfl) (by kernel_rfl) fun ls t h ho b hb => ?_
  unfold g_G_Clarity at h
  split at h
  · rename_i u4 u0 u6 u5 u14
    cases h
    obtain rfl := bld_eq hb
    exact ⟨Nat.le_of_ble_eq_true (by kernel_rfl), _, _, G_Clarity_vc u4 u0 u6 u5 u14 _ (ok_some ho)⟩
  · cases h
theorem sp_26_ok {sp : Specs} (h : SpecsOK Tryz.prog sp) : SpecsOK Tryz.prog (sp_26 sp) := addK_ok G_Clarity_ok h
def y99 : List SV := [.c (.p [.d, .r (.floats .f32 []), .d, .d, .r (.recs 2 []), .r (.recs 2 [])]), .c (.d)]
def y46 (u9 : Int) (u10 : List Nat) (u11 : Int) (u12 : Int) (u7 : List (List Int)) (u13 : List (List Int)) (u14 : Int) : Option (Int × Int × Int) :=
  Option.bind (y61 u9 u10 u11 u12 u7 u13 u14) fun r0 =>
  Option.bind (y75 u9 u10 u11 u12 u7 u13 u14) fun r1 =>
  if (r0.1 == (0 : Int)) = true then
   if (r1.1 == (0 : Int)) = true then
    some (((0 : Int), (0 : Int), (11 : Int)))
   else
    if IntKind.wrap .i64 (r0.1 + r1.2) ≠ (0 : Int) then
     Option.bind (G_ceil (IntKind.wrap .i64 ((1000 : Int) * r0.2)) (IntKind.wrap .i64 (r0.2 + r1.1))) fun r2 =>
     some ((IntKind.wrap .i64 (Int.tdiv (IntKind.wrap .i64 ((1000 : Int) * r0.1)) (IntKind.wrap .i64 (r0.1 + r1.2))), r2, (0 : Int)))
    else none
  else
   if IntKind.wrap .i64 (r0.1 + r1.2) ≠ (0 : Int) then
    Option.bind (G_ceil (IntKind.wrap .i64 ((1000 : Int) * r0.2)) (IntKind.wrap .i64 (r0.2 + r1.1))) fun r2 =>
    some ((IntKind.wrap .i64 (Int.tdiv (IntKind.wrap .i64 ((1000 : Int) * r0.1)) (IntKind.wrap .i64 (r0.1 + r1.2))), r2, (0 : Int)))
   else none
def y100 : List Lf → Option GT
  | [.d (.i .i64 u9), .r (.floats .f32 u10), .d (.i .i64 u11), .d (.i .i64 u12), .r (.recs 2 u7), .r (.recs 2 u13), .d (.i .i64 u14)] => some (.leaf (ok (y46 u9 u10 u11 u12 u7 u13 u14)) [.s [.d (.i .i64 ((val (y46 u9 u10 u11 u12 u7 u13 u14)).1)), .d (.i .i64 ((val (y46 u9 u10 u11 u12 u7 u13 u14)).2.1))], .c (.d (.i .i64 ((val (y46 u9 u10 u11 u12 u7 u13 u14)).2.2)))])
  | _ => none
abbrev sp_98 : Specs → Specs := addK 98 true (pureT y99 y100)
set_option maxRecDepth 100000 in
def G_decay_definition_t (u9 : Int) (u10 : List Nat) (u11 : Int) (u12 : Int) (u7 : List (List Int)) (u13 : List (List Int)) (u14 : Int) : T (Int × Int × Int) :=
 .call (y61 u9 u10 u11 u12 u7 u13 u14) fun r0 =>
  .call (y75 u9 u10 u11 u12 u7 u13 u14) fun r1 =>
  .brB (r0.1 == (0 : Int))
  (.brB (r1.1 == (0 : Int))
  (.obT
  (.obT
  (.rc ((((0 : Int), (0 : Int), (11 : Int)))))))
  (.obP (IntKind.wrap .i64 (r0.1 + r1.2) ≠ (0 : Int))
  (.call (G_ceil (IntKind.wrap .i64 ((1000 : Int) * r0.2)) (IntKind.wrap .i64 (r0.2 + r1.1))) fun r2 =>
  .obT
  (.obT
  (.rc (((IntKind.wrap .i64 (Int.tdiv (IntKind.wrap .i64 ((1000 : Int) * r0.1)) (IntKind.wrap .i64 (r0.1 + r1.2))), r2, (0 : Int)))))))))
  (.obP (IntKind.wrap .i64 (r0.1 + r1.2) ≠ (0 : Int))
  (.call (G_ceil (IntKind.wrap .i64 ((1000 : Int) * r0.2)) (IntKind.wrap .i64 (r0.2 + r1.1))) fun r2 =>
  .obT
  (.obT
  (.rc (((IntKind.wrap .i64 (Int.tdiv (IntKind.wrap .i64 ((1000 : Int) * r0.1)) (IntKind.wrap .i64 (r0.1 + r1.2))), r2, (0 : Int))))))))
set_option maxRecDepth 100000 in
theorem G_decay_definition_vc (u9 : Int) (u10 : List Nat) (u11 : Int) (u12 : Int) (u7 : List (List Int)) (u13 : List (List Int)) (u14 : Int) (r : Int × Int × Int) (h : Option.bind (y46 u9 u10 u11 u12 u7 u13 u14) some = some r) : runT Tryz.f98 ((sp_89 (sp_122 (sp_119 sp0)))) (fun _ _ _ => none) (bldD y99 [.d (.i .i64 u9), .r (.floats .f32 u10), .d (.i .i64 u11), .d (.i .i64 u12), .r (.recs 2 u7), .r (.recs 2 u13), .d (.i .i64 u14)]) [.s [.d (.i .i64 r.1), .d (.i .i64 r.2.1)], .c (.d (.i .i64 r.2.2))] :=
  T.vc (t := G_decay_definition_t u9 u10 u11 u12 u7 u13 u14) (by kernel_rfl) (by kernel_rfl) h
set_option maxRecDepth 100000 in
theorem G_decay_definition_ok : SpecOK Tryz.prog 98 true (pureT y99 y100) := by
  refine pureT_ok (sp := (sp_89 (sp_122 (sp_119 sp0)))) (fn := Tryz.f98) (body := bodyOf Tryz.f98) mixed (sp_89_ok (sp_122_ok (sp_119_ok sp0_ok))) Tryz.func98 (by kernel_rfl) (by kernel_rfl) fun ls t h ho b hb => ?_
  unfold y100 at h
  split at h
  · rename_i u9 u10 u11 u12 u7 u13 u14
    cases h
    obtain rfl := bld_eq hb
    exact ⟨Nat.le_of_ble_eq_true (by kernel_rfl), _, _, G_decay_definition_vc u9 u10 u11 u12 u7 u13 u14 _ (ok_some ho)⟩
  · cases h
theorem sp_98_ok {sp : Specs} (h : SpecsOK Tryz.prog sp) : SpecsOK Tryz.prog (sp_98 sp) := addK_ok G_decay_definition_ok h
def k_G_Transfer : List SV := [.a [.d, .r (.floats .f32 [])], .c (.d)]
def y101 (u17 : Int) (u16 : List Nat) (u35 : Int) : Option (Int × Int × Int) :=
  if ((val (G_openBlock u17 u16 u35)).1 != (0 : Int)) = true then
   Option.bind (G_openBlock u17 u16 u35) fun r0 =>
   if (r0.2.1 != (0 : Int)) = true then
    some (((0 : Int), (0 : Int), r0.2.1))
   else
    none   else
   Option.bind (G_openBlock u17 u16 u35) fun r0 =>
   if (r0.2.1 != (0 : Int)) = true then
    some (((0 : Int), (0 : Int), r0.2.1))
   else
    if (0 : Int) ≤ (0 : Int) ∧ (0 : Int) < (↑(List.length r0.2.2.2) : Int) then
     if (0 : Nat) < List.length r0.2.2.2 then
      if List.getD (List.getD r0.2.2.2 (0 : Nat) []) (0 : Nat) (0 : Int) > (1000000000 : Int) then
       some (((0 : Int), (0 : Int), (8 : Int)))
      else
       Option.bind (y85 u17 u16 (0 : Int) (0 : Int) r0.2.2.1 r0.2.2.2 u35) fun r1 =>
       Option.bind (G_share (IntKind.wrap .i64 (IntKind.wrap .i64 (r1.1 * r1.1) + IntKind.wrap .i64 (r1.2 * r1.2))) (IntKind.wrap .i64 (List.getD (List.getD r0.2.2.2 (0 : Nat) []) (0 : Nat) (0 : Int) * List.getD (List.getD r0.2.2.2 (0 : Nat) []) (0 : Nat) (0 : Int)))) fun r2 =>
       some (r2.1, r2.2.1, r2.2.2)
     else none
    else none
def g_G_Transfer : List Lf → Option GT
  | [.d (.i .i64 u17), .r (.floats .f32 u16), .d (.i .i64 u35)] => some (.leaf (ok (y101 u17 u16 u35)) [.s [.d (.i .i64 ((val (y101 u17 u16 u35)).1)), .d (.i .i64 ((val (y101 u17 u16 u35)).2.1))], .c (.d (.i .i64 ((val (y101 u17 u16 u35)).2.2)))])
  | _ => none
abbrev sp_34 : Specs → Specs := addK 34 true (pureT k_G_Transfer g_G_Transfer)
set_option maxRecDepth 100000 in
def G_Transfer_t (u17 : Int) (u16 : List Nat) (u35 : Int) : T (Int × Int × Int) :=
 .brB ((val (G_openBlock u17 u16 u35)).1 != (0 : Int))
  (.call (G_openBlock u17 u16 u35) fun r0 =>
  .brB (r0.2.1 != (0 : Int))
  (.obT
  (.obT
  (.rc ((((0 : Int), (0 : Int), r0.2.1))))))
  (.bad (fun r => False)))
  (.call (G_openBlock u17 u16 u35) fun r0 =>
  .brB (r0.2.1 != (0 : Int))
  (.obT
  (.obT
  (.rc ((((0 : Int), (0 : Int), r0.2.1))))))
  (.obP ((0 : Int) ≤ (0 : Int) ∧ (0 : Int) < (↑(List.length r0.2.2.2) : Int))
  (.obP ((0 : Nat) < List.length r0.2.2.2)
  (.brP (List.getD (List.getD r0.2.2.2 (0 : Nat) []) (0 : Nat) (0 : Int) > (1000000000 : Int))
  (.obT
  (.obT
  (.rc ((((0 : Int), (0 : Int), (8 : Int)))))))
  (.call (y85 u17 u16 (0 : Int) (0 : Int) r0.2.2.1 r0.2.2.2 u35) fun r1 =>
  .call (G_share (IntKind.wrap .i64 (IntKind.wrap .i64 (r1.1 * r1.1) + IntKind.wrap .i64 (r1.2 * r1.2))) (IntKind.wrap .i64 (List.getD (List.getD r0.2.2.2 (0 : Nat) []) (0 : Nat) (0 : Int) * List.getD (List.getD r0.2.2.2 (0 : Nat) []) (0 : Nat) (0 : Int)))) fun r2 =>
  .obT
  (.obT
  (.rc ((r2.1, r2.2.1, r2.2.2)))))))))
set_option maxRecDepth 100000 in
theorem G_Transfer_vc (u17 : Int) (u16 : List Nat) (u35 : Int) (r : Int × Int × Int) (h : Option.bind (y101 u17 u16 u35) some = some r) : runT Tryz.f34 ((sp_91 (sp_92 (sp_86 sp0)))) (fun _ _ _ => none) (bldD k_G_Transfer [.d (.i .i64 u17), .r (.floats .f32 u16), .d (.i .i64 u35)]) [.s [.d (.i .i64 r.1), .d (.i .i64 r.2.1)], .c (.d (.i .i64 r.2.2))] :=
  T.vc (t := G_Transfer_t u17 u16 u35) (by kernel_rfl) (by kernel_rfl) h
set_option maxRecDepth 100000 in
theorem G_Transfer_ok : SpecOK Tryz.prog 34 true (pureT k_G_Transfer g_G_Transfer) := by
  refine pureT_ok (sp := (sp_91 (sp_92 (sp_86 sp0)))) (fn := Tryz.f34) (body := bodyOf Tryz.f34) mixed (sp_91_ok (sp_92_ok (sp_86_ok sp0_ok))) Tryz.func34 (by kernel_rfl) (by kernel_rfl) fun ls t h ho b hb => ?_
  unfold g_G_Transfer at h
  split at h
  · rename_i u17 u16 u35
    cases h
    obtain rfl := bld_eq hb
    exact ⟨Nat.le_of_ble_eq_true (by kernel_rfl), _, _, G_Transfer_vc u17 u16 u35 _ (ok_some ho)⟩
  · cases h
theorem sp_34_ok {sp : Specs} (h : SpecsOK Tryz.prog sp) : SpecsOK Tryz.prog (sp_34 sp) := addK_ok G_Transfer_ok h
end Go.Sh
end

section
namespace Go.Sh
open Go Go.Proofs Go.RowKit Go.Sx Go.Sx06 Ieee Go.Fl
def seg (zs : List (List Int)) (a b : Nat) : List (List Int) := (zs.drop a).take (b - a)
theorem seg_ok {zs : List (List Int)} (h : ∀ r ∈ zs, okZ r) (a b : Nat) : ∀ r ∈ seg zs a b, okZ r := fun r hr => h r (List.mem_of_mem_drop (List.mem_of_mem_take hr))
theorem seg_len (zs : List (List Int)) (a b : Nat) : (seg zs a b).length ≤ zs.length := by unfold seg; simp; omega
theorem seg_end (zs : List (List Int)) (a : Nat) : seg zs a zs.length = zs.drop a := by
  unfold seg
  rw [List.take_of_length_le (by simp)]
theorem seg_self (zs : List (List Int)) (a : Nat) : seg zs a a = [] := by unfold seg; simp
theorem seg_succ {zs : List (List Int)} {a k : Nat} (h : a + k < zs.length) : seg zs a (a + k + 1) = seg zs a (a + k) ++ [zs.getD (a + k) []] := by
  unfold seg
  have e1 : a + k + 1 - a = k + 1 := by omega
  have e2 : a + k - a = k := by omega
  rw [e1, e2, List.take_succ_eq_append_getElem (by simp; omega)]
  simp [List.getD, h]
theorem take_snoc {L : List (List Int)} {i : Nat} (hi : i < L.length) : L.take (i + 1) = L.take i ++ [L.getD i []] := by
  rw [List.take_succ_eq_append_getElem hi]
  simp [List.getD, hi]
theorem sLo_snoc (a : List (List Int)) (r : List Int) : sLo (a ++ [r]) = sLo a + r.getD 0 0 := by rw [sLo_append]; simp [sLo]
theorem sHi_snoc (a : List (List Int)) (r : List Int) : sHi (a ++ [r]) = sHi a + r.getD 1 0 := by rw [sHi_append]; simp [sHi]
theorem squareR_eq {rate noise tail : Int} {l : List Nat} {t : Nat} (ht : t < l.length) (hs : ∀ b ∈ l, se b = 0) (hn : 0 ≤ noise ∧ noise ≤ 32767) :
    y21 rate l noise tail (t : Int) = some (((zsO noise l).getD t []).getD 0 0, ((zsO noise l).getD t []).getD 1 0) := by
  unfold y21
  have hw := se_whole (hs (l.getD t 0) (by simp [List.getD, ht]))
  have ha := az_range (M := 32767) hw.2
  have hg : (zsO noise l).getD t [] = sqP noise (fi (l.getD t 0)) := by simp [zsO, List.getD, ht]
  rw [if_pos (by omega), Int.toNat_natCast, if_pos ht, if_pos hw.1, show f2i FloatKind.f32 (l.getD t 0) = fi (l.getD t 0) from rfl, sizeB_eq (by unfold inJ; omega), bind_some', sq_low ha hn, sq_high ha hn, hg]
  rfl
theorem energyR_eq {rate noise tail : Int} {l : List Nat} {a b : Nat} (hs : ∀ x ∈ l, se x = 0) (hl : l.length ≤ 1024) (hn : 0 ≤ noise ∧ noise ≤ 32767) (ht : 0 ≤ tail ∧ tail ≤ 1000000000000) (hab : a ≤ b) (hb : b ≤ l.length) :
    y45 rate l noise tail (a : Int) (b : Int) = some (sLo (seg (zsO noise l) a b), sHi (seg (zsO noise l) a b) + if b = l.length then tail else 0) := by
  have hzl := zsO_len noise l
  have hz := zsO_ok hn hs
  have hok := seg_ok hz a b
  unfold y45
  have h := iter_upto (body := y22 rate l noise tail (b : Int)) (fun i => (((a + i : Nat) : Int), sLo (seg (zsO noise l) a (a + i)), sHi (seg (zsO noise l) a (a + i)))) (k := b - a) (y := (sLo (seg (zsO noise l) a b), sHi (seg (zsO noise l) a b)))
    (fun i hi => by
      have hr := s_range (seg_ok hz a (a + i))
      have hlen : ((seg (zsO noise l) a (a + i)).length : Int) ≤ 1024 := by have := seg_len (zsO noise l) a (a + i); omega
      have ho := hz ((zsO noise l).getD (a + i) []) (by simp [List.getD, show a + i < (zsO noise l).length by omega])
      unfold okZ at ho
      unfold y22
      dsimp only
      rw [if_pos (by omega), squareR_eq (by omega) hs hn, bind_some']
      rw [show a + (i + 1) = a + i + 1 by omega, seg_succ (by omega), sLo_snoc, sHi_snoc, wr64 (x := (((a + i : Nat) : Int)) + 1) (by omega), wr64 (by omega), wr64 (by omega)]
      rfl)
    (by
      unfold y22
      dsimp only
      have e : a + (b - a) = b := by omega
      rw [if_neg (by omega), e]) (by omega)
  have h0 : iter (y22 rate l noise tail (b : Int)) big ((a : Int), 0, 0) = some (sLo (seg (zsO noise l) a b), sHi (seg (zsO noise l) a b)) := by
    simpa [sLo, sHi, seg_self] using h
  rw [h0, bind_some']
  unfold y50
  have hr := s_range hok
  have hlen : ((seg (zsO noise l) a b).length : Int) ≤ 1024 := by have := seg_len (zsO noise l) a b; omega
  by_cases he : b = l.length
  · rw [if_pos (show ((b : Int) == (l.length : Int)) = true by rw [he]; simp), if_pos he]
    rw [wr64 (by dsimp only; omega)]
  · rw [if_neg (show ¬ ((b : Int) == (l.length : Int)) = true by simp; omega), if_neg he, Int.add_zero]
theorem sumR_eq {rate noise tail : Int} {l : List Nat} {a : Nat} (hs : ∀ x ∈ l, se x = 0) (hl : l.length ≤ 1024) (hn : 0 ≤ noise ∧ noise ≤ 32767) (ht : 0 ≤ tail ∧ tail ≤ 1000000000000) (ha : a ≤ l.length) :
    y7 rate l noise tail (a : Int) = some (sLo ((zsO noise l).drop a), sHi ((zsO noise l).drop a) + tail) := by
  unfold y7
  rw [energyR_eq hs hl hn ht ha (Nat.le_refl _), bind_some', if_pos rfl]
  have := seg_end (zsO noise l) a
  rw [zsO_len] at this
  rw [this]
end Go.Sh
end

section
namespace Go.Sh
open Go Go.Proofs Go.RowKit Go.Sx Go.Sx06 Ieee Go.Fl
def p10 (f : Int) : Int := 10 ^ f.toNat
end Go.Sh
end

section
namespace Go.Sh
open Go Go.Proofs Go.RowKit Go.Sx Go.Sx06 Ieee Go.Fl
structure ZOK (zs : List (List Int)) (T : Int) : Prop where
  len : zs.length ≤ 1024
  ok : ∀ r ∈ zs, okZ r
  tail : 0 ≤ T ∧ T ≤ 1000000000000
section
variable {zs : List (List Int)} {T f : Int}
theorem ZOK.at_ (h : ZOK zs T) {i : Nat} (hi : i ≤ zs.length) : 0 ≤ sLo (zs.drop i) ∧ sLo (zs.drop i) ≤ sHi (zs.drop i) + T ∧ sHi (zs.drop i) + T ≤ 6000000000000 := by
  have := s_range (zs := zs.drop i) fun r hr => h.ok r (List.mem_of_mem_drop hr)
  have hl := h.len
  have ht := h.tail
  have hd : ((zs.drop i).length : Int) ≤ 1024 := by rw [List.length_drop]; omega
  omega
theorem ZOK.all (h : ZOK zs T) : 0 ≤ sLo zs ∧ sLo zs ≤ sHi zs + T ∧ sHi zs + T ≤ 6000000000000 := by
  have := h.at_ (i := 0) (Nat.zero_le _)
  simpa using this
theorem ss_get {i : Nat} (hi : i ≤ zs.length) : ((ssO zs T).getD i []).getD 0 0 = sLo (zs.drop i) ∧ ((ssO zs T).getD i []).getD 1 0 = sHi (zs.drop i) + T := by
  rw [ssO_get hi]
  exact ⟨rfl, rfl⟩
theorem ss_zero : ((ssO zs T).getD 0 []).getD 0 0 = sLo zs ∧ ((ssO zs T).getD 0 []).getD 1 0 = sHi zs + T := by
  have := ss_get (zs := zs) (T := T) (i := 0) (Nat.zero_le _)
  simpa using this
variable {rate noise tl : Int} {l : List Nat}
end
end Go.Sh
end

section
namespace Go.Sh
open Go Go.Proofs Go.RowKit Go.Sx
set_option linter.unusedVariables false
def k_G_SumsWithin : List SV := [.a [.d, .r (.floats .f32 []), .d, .d]]
def y4 (u4 : Int) (u0 : List Nat) (u6 : Int) (u5 : Int) : Option (List (List Int) × Int) :=
  if ((val (G_open u4 u0 u6 u5)).1 != (0 : Int)) = true then
   Option.bind (G_open u4 u0 u6 u5) fun r0 =>
   if (r0.1 != (0 : Int)) = true then
    some ([], r0.1)
   else
    none   else
   Option.bind (G_open u4 u0 u6 u5) fun r0 =>
   if (0 : Int) ≤ (↑(List.length r0.2.1) : Int) ∧ (↑(List.length r0.2.1) : Int) ≤ (↑(List.length r0.2.1) : Int) ∧ (↑(List.length r0.2.1) : Int) ≤ (↑(List.length r0.2.2) : Int) then
    some ((List.take (Int.toNat (↑(List.length r0.2.1) : Int) - (0 : Nat)) (List.drop (0 : Nat) r0.2.2), (0 : Int)))
   else none
def g_G_SumsWithin : List Lf → Option GT
  | [.d (.i .i64 u4), .r (.floats .f32 u0), .d (.i .i64 u6), .d (.i .i64 u5)] => some (.leaf (ok (y4 u4 u0 u6 u5)) [.c (.rrow (.recs 2 ((val (y4 u4 u0 u6 u5)).1))), .c (.d (.i .i64 ((val (y4 u4 u0 u6 u5)).2)))])
  | _ => none
abbrev sp_54 : Specs → Specs := addK 54 true (pureT k_G_SumsWithin g_G_SumsWithin)
set_option maxRecDepth 100000 in
theorem G_SumsWithin_vc (u4 : Int) (u0 : List Nat) (u6 : Int) (u5 : Int) (r : List (List Int) × Int) (h : Option.bind (y4 u4 u0 u6 u5) some = some r) : runT Tryz.f54 ((sp_67 sp0)) (fun _ _ _ => none) (bldD k_G_SumsWithin [.d (.i .i64 u4), .r (.floats .f32 u0), .d (.i .i64 u6), .d (.i .i64 u5)]) [.c (.rrow (.recs 2 r.1)), .c (.d (.i .i64 r.2))] := by
  refine Eq.mp (by kernel_rfl : (
 Br ((val (G_open u4 u0 u6 u5)).1 != (0 : Int))
   ((Ob (ok (G_open u4 u0 u6 u5)) ∧
 Br ((val (G_open u4 u0 u6 u5)).1 != (0 : Int))
   ((Ob (True) ∧
 (Ob (True) ∧
 (Ob (List.length r.1 = (0 : Nat)) ∧
 (Ob ((val (G_open u4 u0 u6 u5)).1 = r.2) ∧
 True)))))
   (False)))
   ((Ob (ok (G_open u4 u0 u6 u5)) ∧
 (Ob ((0 : Int) ≤ (↑(List.length (val (G_open u4 u0 u6 u5)).2.1) : Int) ∧ (↑(List.length (val (G_open u4 u0 u6 u5)).2.1) : Int) ≤ (↑(List.length (val (G_open u4 u0 u6 u5)).2.1) : Int) ∧ (↑(List.length (val (G_open u4 u0 u6 u5)).2.1) : Int) ≤ (↑(List.length (val (G_open u4 u0 u6 u5)).2.2) : Int)) ∧
 (Ob (True) ∧
 (Ob (True) ∧
 (Ob (List.take (Int.toNat (↑(List.length (val (G_open u4 u0 u6 u5)).2.1) : Int) - (0 : Nat)) (List.drop (0 : Nat) (val (G_open u4 u0 u6 u5)).2.2) = r.1) ∧
 (Ob ((0 : Int) = r.2) ∧
 True)))))))) = _) ?_
  refine br_b h (fun h => ?_) (fun h => ?_)
  · refine call_s h fun h => ?_
    refine br_b h (fun h => ?_) (fun h => ?_)
    · refine ob_t ?_
      refine ob_t ?_
      exact ret_s h (fun e => by subst e; exact (by repeat' (first | exact trivial | exact ⟨rfl⟩ | refine And.intro ?_ ?_)))
    · exact nomatch h
  · refine call_s h fun h => ?_
    refine ob_s h fun h => ?_
    refine ob_t ?_
    refine ob_t ?_
    exact ret_s h (fun e => by subst e; exact (by repeat' (first | exact trivial | exact ⟨rfl⟩ | refine And.intro ?_ ?_)))
set_option maxRecDepth 100000 in
theorem G_SumsWithin_ok : SpecOK Tryz.prog 54 true (pureT k_G_SumsWithin g_G_SumsWithin) := by
  refine pureT_ok (sp := (sp_67 sp0)) (fn := Tryz.f54) (body := bodyOf Tryz.f54) mixed (sp_67_ok sp0_ok) Tryz.func54 (by kernel_rfl) (by kernel_rfl) fun ls t h ho b hb => ?_
  unfold g_G_SumsWithin at h
  split at h
  · rename_i u4 u0 u6 u5
    cases h
    obtain rfl := bld_eq hb
    exact ⟨Nat.le_of_ble_eq_true (by kernel_rfl), _, _, G_SumsWithin_vc u4 u0 u6 u5 _ (ok_some ho)⟩
  · cases h
theorem sp_54_ok {sp : Specs} (h : SpecsOK Tryz.prog sp) : SpecsOK Tryz.prog (sp_54 sp) := addK_ok G_SumsWithin_ok h
def k_G_Sums : List SV := [.a [.d, .r (.floats .f32 [])]]
def G_Sums_b0 (r0 : List (List Int) × Int) (x0 : (Int × List Int)) : Option ((Int × List Int) ⊕ (List Int)) :=
  if x0.1 < (↑(List.length r0.1) : Int) then
   if (0 : Int) ≤ x0.1 ∧ x0.1 < (↑(List.length r0.1) : Int) then
    if Int.toNat x0.1 < List.length r0.1 then
     if (List.length x0.2 + List.length [List.getD (List.getD r0.1 (Int.toNat x0.1) []) (0 : Nat) (0 : Int)]) * (8 : Nat) ≤ (140737488355328 : Nat) ∧ List.length x0.2 + List.length [List.getD (List.getD r0.1 (Int.toNat x0.1) []) (0 : Nat) (0 : Int)] ≤ (9223372036854775807 : Nat) then
      some (.inl ((IntKind.wrap .i64 (x0.1 + (1 : Int)), x0.2 ++ [List.getD (List.getD r0.1 (Int.toNat x0.1) []) (0 : Nat) (0 : Int)])))
     else none
    else none
   else none
  else
   some (.inr x0.2)
def G_Sums_r0 (r0 : List (List Int) × Int) (u15 : List Int) : Option (List Int × Int) :=
  some (u15, r0.2)
def G_Sums (u17 : Int) (u16 : List Nat) : Option (List Int × Int) :=
  Option.bind (y4 u17 u16 (0 : Int) (0 : Int)) fun r0 =>
  Option.bind (iter (G_Sums_b0 r0) big (((0 : Int), []))) (G_Sums_r0 r0)
def g_G_Sums : List Lf → Option GT
  | [.d (.i .i64 u17), .r (.floats .f32 u16)] => some (.leaf (ok (G_Sums u17 u16)) [.c (.row 3 (.ints .i64 ((val (G_Sums u17 u16)).1))), .c (.d (.i .i64 ((val (G_Sums u17 u16)).2)))])
  | _ => none
abbrev sp_53 : Specs → Specs := addK 53 true (pureT k_G_Sums g_G_Sums)
set_option maxRecDepth 100000 in
theorem G_Sums_vc (u17 : Int) (u16 : List Nat) (r : List Int × Int) (h : Option.bind (G_Sums u17 u16) some = some r) : runT Tryz.f53 ((sp_54 sp0)) (fun gs id _ => match id with
 | 0 => some ⟨(Int × List Int) × Nat, fun z => ⟨[(5, .w (.c (.d (.i .i64 ((val (y4 u17 u16 (0 : Int) (0 : Int))).2))))), (6, .w (.c (.o 1))), (15, .w (.c (.o 2))), (16, .w (.c (.d (.i .i64 ((↑(List.length (val (y4 u17 u16 (0 : Int) (0 : Int))).1) : Int)))))), (17, .w (.c (.d (.i .i64 (Prod.fst (Prod.fst z))))))], [(1, .row 3 (.ints .i64 (Prod.snd (Prod.fst z)))), (2, .rrow (.recs 2 ((val (y4 u17 u16 (0 : Int) (0 : Int))).1)))], 3⟩, fun z => Option.bind (iter (G_Sums_b0 (val (y4 u17 u16 (0 : Int) (0 : Int)))) (Prod.snd z) (Prod.fst z)) (fun y0 => Option.bind (G_Sums_r0 (val (y4 u17 u16 (0 : Int) (0 : Int))) y0) some) = some r, fun z => Prod.snd z⟩
 | _ => none) (bldD k_G_Sums [.d (.i .i64 u17), .r (.floats .f32 u16)]) [.c (.row 3 (.ints .i64 r.1)), .c (.d (.i .i64 r.2))] := by
  refine Eq.mp (by kernel_rfl : (
 (Ob (ok (y4 u17 u16 (0 : Int) (0 : Int))) ∧
   ((∃ (v0 : (Int × List Int) × Nat), (Ob ((Option.bind (iter (G_Sums_b0 (val (y4 u17 u16 (0 : Int) (0 : Int)))) v0.2 v0.1) fun y0 => Option.bind (G_Sums_r0 (val (y4 u17 u16 (0 : Int) (0 : Int))) y0) some) = some r) ∧
 (Ob ((val (y4 u17 u16 (0 : Int) (0 : Int))).2 = (val (y4 u17 u16 (0 : Int) (0 : Int))).2) ∧
 (Ob ((↑(List.length (val (y4 u17 u16 (0 : Int) (0 : Int))).1) : Int) = (↑(List.length (val (y4 u17 u16 (0 : Int) (0 : Int))).1) : Int)) ∧
 (Ob ((0 : Int) = v0.1.1) ∧
 (Ob (List.length v0.1.2 = (0 : Nat)) ∧
 (Ob ((val (y4 u17 u16 (0 : Int) (0 : Int))).1 = (val (y4 u17 u16 (0 : Int) (0 : Int))).1) ∧
 True))))))) ∧
   (∀ (v0 : (Int × List Int) × Nat), ((Option.bind (iter (G_Sums_b0 (val (y4 u17 u16 (0 : Int) (0 : Int)))) v0.2 v0.1) fun y0 => Option.bind (G_Sums_r0 (val (y4 u17 u16 (0 : Int) (0 : Int))) y0) some) = some r →
 Br (decide (v0.1.1 < (↑(List.length (val (y4 u17 u16 (0 : Int) (0 : Int))).1) : Int)))
   ((Ob ((0 : Int) ≤ v0.1.1 ∧ v0.1.1 < (↑(List.length (val (y4 u17 u16 (0 : Int) (0 : Int))).1) : Int)) ∧
 (Ob (Int.toNat v0.1.1 < List.length (val (y4 u17 u16 (0 : Int) (0 : Int))).1) ∧
 (Ob ((List.length v0.1.2 + List.length [List.getD (List.getD (val (y4 u17 u16 (0 : Int) (0 : Int))).1 (Int.toNat v0.1.1) []) (0 : Nat) (0 : Int)]) * (8 : Nat) ≤ (140737488355328 : Nat) ∧ List.length v0.1.2 + List.length [List.getD (List.getD (val (y4 u17 u16 (0 : Int) (0 : Int))).1 (Int.toNat v0.1.1) []) (0 : Nat) (0 : Int)] ≤ (9223372036854775807 : Nat)) ∧
   (∃ (v1 : (Int × List Int) × Nat), (Ob ((Option.bind (iter (G_Sums_b0 (val (y4 u17 u16 (0 : Int) (0 : Int)))) v1.2 v1.1) fun y0 => Option.bind (G_Sums_r0 (val (y4 u17 u16 (0 : Int) (0 : Int))) y0) some) = some r) ∧
 (Ob (v1.2 < v0.2) ∧
 (Ob ((val (y4 u17 u16 (0 : Int) (0 : Int))).2 = (val (y4 u17 u16 (0 : Int) (0 : Int))).2) ∧
 (Ob ((↑(List.length (val (y4 u17 u16 (0 : Int) (0 : Int))).1) : Int) = (↑(List.length (val (y4 u17 u16 (0 : Int) (0 : Int))).1) : Int)) ∧
 (Ob (IntKind.wrap .i64 (v0.1.1 + (1 : Int)) = v1.1.1) ∧
 (Ob (v0.1.2 ++ [List.getD (List.getD (val (y4 u17 u16 (0 : Int) (0 : Int))).1 (Int.toNat v0.1.1) []) (0 : Nat) (0 : Int)] = v1.1.2) ∧
 (Ob ((val (y4 u17 u16 (0 : Int) (0 : Int))).1 = (val (y4 u17 u16 (0 : Int) (0 : Int))).1) ∧
 True))))))))))))
   ((Ob (True) ∧
 (Ob (True) ∧
 (Ob (v0.1.2 = r.1) ∧
 (Ob ((val (y4 u17 u16 (0 : Int) (0 : Int))).2 = r.2) ∧
 True)))))))))) = _) ?_
  refine call_s h fun h => ?_
  refine ⟨⟨(((0 : Int), []), big), ⟨loop_s h⟩, (by repeat' (first | exact trivial | exact ⟨rfl⟩ | refine And.intro ?_ ?_))⟩, fun z1 hz1 => ?_⟩
  obtain ⟨k1, hm1, h⟩ := iter_pos hz1
  refine br_d h (fun h => ?_) (fun h => ?_)
  · refine ob_s h fun h => ?_
    refine ob_s h fun h => ?_
    refine ob_s h fun h => ?_
    exact ⟨((IntKind.wrap .i64 ((Prod.fst z1).1 + (1 : Int)), (Prod.fst z1).2 ++ [List.getD (List.getD (val (y4 u17 u16 (0 : Int) (0 : Int))).1 (Int.toNat (Prod.fst z1).1) []) (0 : Nat) (0 : Int)]), k1), ⟨next_s h⟩, ⟨lt_gs hm1.symm⟩, (by repeat' (first | exact trivial | exact ⟨rfl⟩ | refine And.intro ?_ ?_))⟩
  · have h := exit_s h
    refine ob_t ?_
    refine ob_t ?_
    exact ret_s h (fun e => by subst e; exact (by repeat' (first | exact trivial | exact ⟨rfl⟩ | refine And.intro ?_ ?_)))
set_option maxRecDepth 100000 in
theorem G_Sums_ok : SpecOK Tryz.prog 53 true (pureT k_G_Sums g_G_Sums) := by
  refine pureT_ok (sp := (sp_54 sp0)) (fn := Tryz.f53) (body := bodyOf Tryz.f53) mixed (sp_54_ok sp0_ok) Tryz.func53 (by kernel_rfl) (by kernel_rfl) fun ls t h ho b hb => ?_
  unfold g_G_Sums at h
  split at h
  · rename_i u17 u16
    cases h
    obtain rfl := bld_eq hb
    exact ⟨Nat.le_of_ble_eq_true (by kernel_rfl), _, _, G_Sums_vc u17 u16 _ (ok_some ho)⟩
  · cases h
theorem sp_53_ok {sp : Specs} (h : SpecsOK Tryz.prog sp) : SpecsOK Tryz.prog (sp_53 sp) := addK_ok G_Sums_ok h
end Go.Sh
end

section
namespace Go.Sh
open Go Go.Proofs Go.RowKit Go.Sx Go.Sx06 Ieee Go.Fl
theorem ask_zok {rate : Int} {l : List Nat} {noise tail : Int} (h : (askE rate l noise tail).2 = 0) : ZOK (zsO noise l) tail ∧ (8000 ≤ rate ∧ rate ≤ 192000) ∧ (∀ x ∈ l, se x = 0) ∧ l.length ≤ 1024 ∧ (0 ≤ noise ∧ noise ≤ 32767) ∧ (0 ≤ tail ∧ tail ≤ 1000000000000) ∧ 0 < l.length := by
  obtain ⟨hr, hn, ht⟩ := askE_zero h
  obtain ⟨h1, h2, h3, h4⟩ := resE_zero hr
  exact ⟨⟨by rw [zsO_len]; omega, zsO_ok hn h4, ht⟩, h1, h4, h3, hn, ht, h2⟩
theorem open_bad {rate : Int} {l : List Nat} {noise tail : Int} (hl : l.length < 1000000000000) (h : (askE rate l noise tail).2 ≠ 0) : G_open rate l noise tail = some ((askE rate l noise tail).2, [], []) := by
  rw [open_eq rate noise tail hl, if_pos h]
theorem open_good {rate : Int} {l : List Nat} {noise tail : Int} (hl : l.length < 1000000000000) (h : (askE rate l noise tail).2 = 0) : G_open rate l noise tail = some (0, zsO noise l, ssO (zsO noise l) tail) := by
  rw [open_eq rate noise tail hl, if_neg (by omega)]
theorem bne_t {a : Int} (h : a ≠ 0) : (a != (0 : Int)) = true := by simpa using h
theorem bne_f {a : Int} (h : a = 0) : (a != (0 : Int)) = false := by rw [h]; rfl
section
variable {zs : List (List Int)} {T f : Int} {rate noise tl : Int} {l : List Nat}
end
def fewB (l : List Nat) : Bool := decide (l.length ≤ 700 ∨ (1024 < l.length ∧ l.length ≤ 1026))
theorem few_eq (rate : Int) (l : List Nat) : L05_Few rate l = some (fewB l) := by
  unfold L05_Few fewB
  by_cases h : l.length ≤ 700
  · rw [if_pos (by omega), decide_eq_true (show _ ∨ _ from .inl h)]
  · rw [if_neg (by omega)]
    by_cases h2 : 1024 < l.length
    · rw [if_pos (by omega)]
      congr 1
      rw [decide_eq_decide]
      omega
    · rw [if_neg (by omega), decide_eq_false (by omega)]
theorem beq_f {a b : Int} (h : a ≠ b) : (a == b) = false := by simpa using h
theorem few_len {l : List Nat} (h : fewB l = true) : l.length < 1000000000000 := by
  unfold fewB at h
  simp only [decide_eq_true_eq] at h
  omega
theorem copyResponse_eq (rate : Int) {l : List Nat} (h : l.length < 1000000000000) : y52 rate l = some (rate, l) := by
  unfold y52
  rw [if_pos (by omega), List.nil_append]
theorem copyR_eq (rate : Int) {l : List Nat} (noise tail : Int) (h : l.length < 1000000000000) : y94 rate l noise tail = some (rate, l, noise, tail) := by
  unfold y94
  rw [copyResponse_eq rate h]
  rfl
end Go.Sh
end

section
namespace Go.Sh
open Go Go.Proofs Go.RowKit Go.Sx
set_option linter.unusedVariables false
def k_math_bits_Len64 : List (Option Cont) := [none]
def y49 (x_ : Int) : Option Int :=
  if x_ ≥ (4294967296 : Int) then
   if Int.fdiv x_ ((2 : Int) ^ min (32 : Nat) (IntKind.bits .u64)) ≥ (65536 : Int) then
    if Int.fdiv (Int.fdiv x_ ((2 : Int) ^ min (32 : Nat) (IntKind.bits .u64))) ((2 : Int) ^ min (16 : Nat) (IntKind.bits .u64)) ≥ (256 : Int) then
     if (0 : Int) ≤ IntKind.wrap .u8 (Int.fdiv (Int.fdiv (Int.fdiv x_ ((2 : Int) ^ min (32 : Nat) (IntKind.bits .u64))) ((2 : Int) ^ min (16 : Nat) (IntKind.bits .u64))) ((2 : Int) ^ min (8 : Nat) (IntKind.bits .u64))) ∧ IntKind.wrap .u8 (Int.fdiv (Int.fdiv (Int.fdiv x_ ((2 : Int) ^ min (32 : Nat) (IntKind.bits .u64))) ((2 : Int) ^ min (16 : Nat) (IntKind.bits .u64))) ((2 : Int) ^ min (8 : Nat) (IntKind.bits .u64))) < (↑(ByteArray.size tab8) : Int) then
      some (IntKind.wrap .i64 (IntKind.wrap .i64 (IntKind.wrap .i64 ((32 : Int) + (16 : Int)) + (8 : Int)) + IntKind.wrap .i64 (↑(UInt8.toNat (Array.getD (ByteArray.data tab8) (Int.toNat (IntKind.wrap .u8 (Int.fdiv (Int.fdiv (Int.fdiv x_ ((2 : Int) ^ min (32 : Nat) (IntKind.bits .u64))) ((2 : Int) ^ min (16 : Nat) (IntKind.bits .u64))) ((2 : Int) ^ min (8 : Nat) (IntKind.bits .u64))))) (0 : UInt8))) : Int)))
     else none
    else
     if (0 : Int) ≤ IntKind.wrap .u8 (Int.fdiv (Int.fdiv x_ ((2 : Int) ^ min (32 : Nat) (IntKind.bits .u64))) ((2 : Int) ^ min (16 : Nat) (IntKind.bits .u64))) ∧ IntKind.wrap .u8 (Int.fdiv (Int.fdiv x_ ((2 : Int) ^ min (32 : Nat) (IntKind.bits .u64))) ((2 : Int) ^ min (16 : Nat) (IntKind.bits .u64))) < (↑(ByteArray.size tab8) : Int) then
      some (IntKind.wrap .i64 (IntKind.wrap .i64 ((32 : Int) + (16 : Int)) + IntKind.wrap .i64 (↑(UInt8.toNat (Array.getD (ByteArray.data tab8) (Int.toNat (IntKind.wrap .u8 (Int.fdiv (Int.fdiv x_ ((2 : Int) ^ min (32 : Nat) (IntKind.bits .u64))) ((2 : Int) ^ min (16 : Nat) (IntKind.bits .u64))))) (0 : UInt8))) : Int)))
     else none
   else
    if Int.fdiv x_ ((2 : Int) ^ min (32 : Nat) (IntKind.bits .u64)) ≥ (256 : Int) then
     if (0 : Int) ≤ IntKind.wrap .u8 (Int.fdiv (Int.fdiv x_ ((2 : Int) ^ min (32 : Nat) (IntKind.bits .u64))) ((2 : Int) ^ min (8 : Nat) (IntKind.bits .u64))) ∧ IntKind.wrap .u8 (Int.fdiv (Int.fdiv x_ ((2 : Int) ^ min (32 : Nat) (IntKind.bits .u64))) ((2 : Int) ^ min (8 : Nat) (IntKind.bits .u64))) < (↑(ByteArray.size tab8) : Int) then
      some (IntKind.wrap .i64 (IntKind.wrap .i64 ((32 : Int) + (8 : Int)) + IntKind.wrap .i64 (↑(UInt8.toNat (Array.getD (ByteArray.data tab8) (Int.toNat (IntKind.wrap .u8 (Int.fdiv (Int.fdiv x_ ((2 : Int) ^ min (32 : Nat) (IntKind.bits .u64))) ((2 : Int) ^ min (8 : Nat) (IntKind.bits .u64))))) (0 : UInt8))) : Int)))
     else none
    else
     if (0 : Int) ≤ IntKind.wrap .u8 (Int.fdiv x_ ((2 : Int) ^ min (32 : Nat) (IntKind.bits .u64))) ∧ IntKind.wrap .u8 (Int.fdiv x_ ((2 : Int) ^ min (32 : Nat) (IntKind.bits .u64))) < (↑(ByteArray.size tab8) : Int) then
      some (IntKind.wrap .i64 ((32 : Int) + IntKind.wrap .i64 (↑(UInt8.toNat (Array.getD (ByteArray.data tab8) (Int.toNat (IntKind.wrap .u8 (Int.fdiv x_ ((2 : Int) ^ min (32 : Nat) (IntKind.bits .u64))))) (0 : UInt8))) : Int)))
     else none
  else
   if x_ ≥ (65536 : Int) then
    if Int.fdiv x_ ((2 : Int) ^ min (16 : Nat) (IntKind.bits .u64)) ≥ (256 : Int) then
     if (0 : Int) ≤ IntKind.wrap .u8 (Int.fdiv (Int.fdiv x_ ((2 : Int) ^ min (16 : Nat) (IntKind.bits .u64))) ((2 : Int) ^ min (8 : Nat) (IntKind.bits .u64))) ∧ IntKind.wrap .u8 (Int.fdiv (Int.fdiv x_ ((2 : Int) ^ min (16 : Nat) (IntKind.bits .u64))) ((2 : Int) ^ min (8 : Nat) (IntKind.bits .u64))) < (↑(ByteArray.size tab8) : Int) then
      some (IntKind.wrap .i64 (IntKind.wrap .i64 (IntKind.wrap .i64 ((0 : Int) + (16 : Int)) + (8 : Int)) + IntKind.wrap .i64 (↑(UInt8.toNat (Array.getD (ByteArray.data tab8) (Int.toNat (IntKind.wrap .u8 (Int.fdiv (Int.fdiv x_ ((2 : Int) ^ min (16 : Nat) (IntKind.bits .u64))) ((2 : Int) ^ min (8 : Nat) (IntKind.bits .u64))))) (0 : UInt8))) : Int)))
     else none
    else
     if (0 : Int) ≤ IntKind.wrap .u8 (Int.fdiv x_ ((2 : Int) ^ min (16 : Nat) (IntKind.bits .u64))) ∧ IntKind.wrap .u8 (Int.fdiv x_ ((2 : Int) ^ min (16 : Nat) (IntKind.bits .u64))) < (↑(ByteArray.size tab8) : Int) then
      some (IntKind.wrap .i64 (IntKind.wrap .i64 ((0 : Int) + (16 : Int)) + IntKind.wrap .i64 (↑(UInt8.toNat (Array.getD (ByteArray.data tab8) (Int.toNat (IntKind.wrap .u8 (Int.fdiv x_ ((2 : Int) ^ min (16 : Nat) (IntKind.bits .u64))))) (0 : UInt8))) : Int)))
     else none
   else
    if x_ ≥ (256 : Int) then
     if (0 : Int) ≤ IntKind.wrap .u8 (Int.fdiv x_ ((2 : Int) ^ min (8 : Nat) (IntKind.bits .u64))) ∧ IntKind.wrap .u8 (Int.fdiv x_ ((2 : Int) ^ min (8 : Nat) (IntKind.bits .u64))) < (↑(ByteArray.size tab8) : Int) then
      some (IntKind.wrap .i64 (IntKind.wrap .i64 ((0 : Int) + (8 : Int)) + IntKind.wrap .i64 (↑(UInt8.toNat (Array.getD (ByteArray.data tab8) (Int.toNat (IntKind.wrap .u8 (Int.fdiv x_ ((2 : Int) ^ min (8 : Nat) (IntKind.bits .u64))))) (0 : UInt8))) : Int)))
     else none
    else
     if (0 : Int) ≤ IntKind.wrap .u8 x_ ∧ IntKind.wrap .u8 x_ < (↑(ByteArray.size tab8) : Int) then
      some (IntKind.wrap .i64 ((0 : Int) + IntKind.wrap .i64 (↑(UInt8.toNat (Array.getD (ByteArray.data tab8) (Int.toNat (IntKind.wrap .u8 x_)) (0 : UInt8))) : Int)))
     else none
def y130 : List A → Option (Prop × List RV)
  | [.d (.i .u64 x_)] => some (ok (y49 x_), [.d (.i .i64 ((val (y49 x_))))])
  | _ => none
abbrev sp_166 : Specs → Specs := addK 166 true (pureK k_math_bits_Len64 y130)
set_option maxRecDepth 100000 in
theorem math_bits_Len64_vc (x_ : Int) (r : Int) (h : Option.bind (y49 x_) some = some r) : runF Tryz.f166 (sp0) (fun _ _ _ => none) [.d (.i .u64 x_)] [.d (.i .i64 r)] := by
  refine Eq.mp (by kernel_rfl : (
 Br (decide (x_ ≥ (4294967296 : Int)))
   ((Ob ((0 : Int) ≤ (32 : Int)) ∧
 Br (decide (Int.fdiv x_ ((2 : Int) ^ min (32 : Nat) (IntKind.bits .u64)) ≥ (65536 : Int)))
   ((Ob ((0 : Int) ≤ (16 : Int)) ∧
 Br (decide (Int.fdiv (Int.fdiv x_ ((2 : Int) ^ min (32 : Nat) (IntKind.bits .u64))) ((2 : Int) ^ min (16 : Nat) (IntKind.bits .u64)) ≥ (256 : Int)))
   ((Ob ((0 : Int) ≤ (8 : Int)) ∧
 (Ob (True) ∧
 (Ob ((0 : Int) ≤ IntKind.wrap .u8 (Int.fdiv (Int.fdiv (Int.fdiv x_ ((2 : Int) ^ min (32 : Nat) (IntKind.bits .u64))) ((2 : Int) ^ min (16 : Nat) (IntKind.bits .u64))) ((2 : Int) ^ min (8 : Nat) (IntKind.bits .u64))) ∧ IntKind.wrap .u8 (Int.fdiv (Int.fdiv (Int.fdiv x_ ((2 : Int) ^ min (32 : Nat) (IntKind.bits .u64))) ((2 : Int) ^ min (16 : Nat) (IntKind.bits .u64))) ((2 : Int) ^ min (8 : Nat) (IntKind.bits .u64))) < (↑(ByteArray.size tab8) : Int)) ∧
 (Ob (True) ∧
 (Ob (True) ∧
 (Ob (IntKind.wrap .i64 (IntKind.wrap .i64 (IntKind.wrap .i64 ((32 : Int) + (16 : Int)) + (8 : Int)) + IntKind.wrap .i64 (↑(UInt8.toNat (Array.getD (ByteArray.data tab8) (Int.toNat (IntKind.wrap .u8 (Int.fdiv (Int.fdiv (Int.fdiv x_ ((2 : Int) ^ min (32 : Nat) (IntKind.bits .u64))) ((2 : Int) ^ min (16 : Nat) (IntKind.bits .u64))) ((2 : Int) ^ min (8 : Nat) (IntKind.bits .u64))))) (0 : UInt8))) : Int)) = r) ∧
 True)))))))
   ((Ob (True) ∧
 (Ob ((0 : Int) ≤ IntKind.wrap .u8 (Int.fdiv (Int.fdiv x_ ((2 : Int) ^ min (32 : Nat) (IntKind.bits .u64))) ((2 : Int) ^ min (16 : Nat) (IntKind.bits .u64))) ∧ IntKind.wrap .u8 (Int.fdiv (Int.fdiv x_ ((2 : Int) ^ min (32 : Nat) (IntKind.bits .u64))) ((2 : Int) ^ min (16 : Nat) (IntKind.bits .u64))) < (↑(ByteArray.size tab8) : Int)) ∧
 (Ob (True) ∧
 (Ob (True) ∧
 (Ob (IntKind.wrap .i64 (IntKind.wrap .i64 ((32 : Int) + (16 : Int)) + IntKind.wrap .i64 (↑(UInt8.toNat (Array.getD (ByteArray.data tab8) (Int.toNat (IntKind.wrap .u8 (Int.fdiv (Int.fdiv x_ ((2 : Int) ^ min (32 : Nat) (IntKind.bits .u64))) ((2 : Int) ^ min (16 : Nat) (IntKind.bits .u64))))) (0 : UInt8))) : Int)) = r) ∧
 True))))))))
 (Br (decide (Int.fdiv x_ ((2 : Int) ^ min (32 : Nat) (IntKind.bits .u64)) ≥ (256 : Int)))
   ((Ob ((0 : Int) ≤ (8 : Int)) ∧
 (Ob (True) ∧
 (Ob ((0 : Int) ≤ IntKind.wrap .u8 (Int.fdiv (Int.fdiv x_ ((2 : Int) ^ min (32 : Nat) (IntKind.bits .u64))) ((2 : Int) ^ min (8 : Nat) (IntKind.bits .u64))) ∧ IntKind.wrap .u8 (Int.fdiv (Int.fdiv x_ ((2 : Int) ^ min (32 : Nat) (IntKind.bits .u64))) ((2 : Int) ^ min (8 : Nat) (IntKind.bits .u64))) < (↑(ByteArray.size tab8) : Int)) ∧
 (Ob (True) ∧
 (Ob (True) ∧
 (Ob (IntKind.wrap .i64 (IntKind.wrap .i64 ((32 : Int) + (8 : Int)) + IntKind.wrap .i64 (↑(UInt8.toNat (Array.getD (ByteArray.data tab8) (Int.toNat (IntKind.wrap .u8 (Int.fdiv (Int.fdiv x_ ((2 : Int) ^ min (32 : Nat) (IntKind.bits .u64))) ((2 : Int) ^ min (8 : Nat) (IntKind.bits .u64))))) (0 : UInt8))) : Int)) = r) ∧
 True)))))))
   ((Ob (True) ∧
 (Ob ((0 : Int) ≤ IntKind.wrap .u8 (Int.fdiv x_ ((2 : Int) ^ min (32 : Nat) (IntKind.bits .u64))) ∧ IntKind.wrap .u8 (Int.fdiv x_ ((2 : Int) ^ min (32 : Nat) (IntKind.bits .u64))) < (↑(ByteArray.size tab8) : Int)) ∧
 (Ob (True) ∧
 (Ob (True) ∧
 (Ob (IntKind.wrap .i64 ((32 : Int) + IntKind.wrap .i64 (↑(UInt8.toNat (Array.getD (ByteArray.data tab8) (Int.toNat (IntKind.wrap .u8 (Int.fdiv x_ ((2 : Int) ^ min (32 : Nat) (IntKind.bits .u64))))) (0 : UInt8))) : Int)) = r) ∧
 True)))))))))
 (Br (decide (x_ ≥ (65536 : Int)))
   ((Ob ((0 : Int) ≤ (16 : Int)) ∧
 Br (decide (Int.fdiv x_ ((2 : Int) ^ min (16 : Nat) (IntKind.bits .u64)) ≥ (256 : Int)))
   ((Ob ((0 : Int) ≤ (8 : Int)) ∧
 (Ob (True) ∧
 (Ob ((0 : Int) ≤ IntKind.wrap .u8 (Int.fdiv (Int.fdiv x_ ((2 : Int) ^ min (16 : Nat) (IntKind.bits .u64))) ((2 : Int) ^ min (8 : Nat) (IntKind.bits .u64))) ∧ IntKind.wrap .u8 (Int.fdiv (Int.fdiv x_ ((2 : Int) ^ min (16 : Nat) (IntKind.bits .u64))) ((2 : Int) ^ min (8 : Nat) (IntKind.bits .u64))) < (↑(ByteArray.size tab8) : Int)) ∧
 (Ob (True) ∧
 (Ob (True) ∧
 (Ob (IntKind.wrap .i64 (IntKind.wrap .i64 (IntKind.wrap .i64 ((0 : Int) + (16 : Int)) + (8 : Int)) + IntKind.wrap .i64 (↑(UInt8.toNat (Array.getD (ByteArray.data tab8) (Int.toNat (IntKind.wrap .u8 (Int.fdiv (Int.fdiv x_ ((2 : Int) ^ min (16 : Nat) (IntKind.bits .u64))) ((2 : Int) ^ min (8 : Nat) (IntKind.bits .u64))))) (0 : UInt8))) : Int)) = r) ∧
 True)))))))
   ((Ob (True) ∧
 (Ob ((0 : Int) ≤ IntKind.wrap .u8 (Int.fdiv x_ ((2 : Int) ^ min (16 : Nat) (IntKind.bits .u64))) ∧ IntKind.wrap .u8 (Int.fdiv x_ ((2 : Int) ^ min (16 : Nat) (IntKind.bits .u64))) < (↑(ByteArray.size tab8) : Int)) ∧
 (Ob (True) ∧
 (Ob (True) ∧
 (Ob (IntKind.wrap .i64 (IntKind.wrap .i64 ((0 : Int) + (16 : Int)) + IntKind.wrap .i64 (↑(UInt8.toNat (Array.getD (ByteArray.data tab8) (Int.toNat (IntKind.wrap .u8 (Int.fdiv x_ ((2 : Int) ^ min (16 : Nat) (IntKind.bits .u64))))) (0 : UInt8))) : Int)) = r) ∧
 True))))))))
 (Br (decide (x_ ≥ (256 : Int)))
   ((Ob ((0 : Int) ≤ (8 : Int)) ∧
 (Ob (True) ∧
 (Ob ((0 : Int) ≤ IntKind.wrap .u8 (Int.fdiv x_ ((2 : Int) ^ min (8 : Nat) (IntKind.bits .u64))) ∧ IntKind.wrap .u8 (Int.fdiv x_ ((2 : Int) ^ min (8 : Nat) (IntKind.bits .u64))) < (↑(ByteArray.size tab8) : Int)) ∧
 (Ob (True) ∧
 (Ob (True) ∧
 (Ob (IntKind.wrap .i64 (IntKind.wrap .i64 ((0 : Int) + (8 : Int)) + IntKind.wrap .i64 (↑(UInt8.toNat (Array.getD (ByteArray.data tab8) (Int.toNat (IntKind.wrap .u8 (Int.fdiv x_ ((2 : Int) ^ min (8 : Nat) (IntKind.bits .u64))))) (0 : UInt8))) : Int)) = r) ∧
 True)))))))
   ((Ob (True) ∧
 (Ob ((0 : Int) ≤ IntKind.wrap .u8 x_ ∧ IntKind.wrap .u8 x_ < (↑(ByteArray.size tab8) : Int)) ∧
 (Ob (True) ∧
 (Ob (True) ∧
 (Ob (IntKind.wrap .i64 ((0 : Int) + IntKind.wrap .i64 (↑(UInt8.toNat (Array.getD (ByteArray.data tab8) (Int.toNat (IntKind.wrap .u8 x_)) (0 : UInt8))) : Int)) = r) ∧
 True))))))))) = _) ?_
  refine br_d h (fun h => ?_) (fun h => ?_)
  · refine ob_c (p := (0 : Int) ≤ (32 : Int)) (by decide) ?_
    refine br_d h (fun h => ?_) (fun h => ?_)
    · refine ob_c (p := (0 : Int) ≤ (16 : Int)) (by decide) ?_
      refine br_d h (fun h => ?_) (fun h => ?_)
      · refine ob_c (p := (0 : Int) ≤ (8 : Int)) (by decide) ?_
        refine ob_t ?_
        refine ob_s h fun h => ?_
        refine ob_t ?_
        refine ob_t ?_
        exact ret_s h (fun e => by subst e; exact (by repeat' (first | exact trivial | exact ⟨rfl⟩ | refine And.intro ?_ ?_)))
      · refine ob_t ?_
        refine ob_s h fun h => ?_
        refine ob_t ?_
        refine ob_t ?_
        exact ret_s h (fun e => by subst e; exact (by repeat' (first | exact trivial | exact ⟨rfl⟩ | refine And.intro ?_ ?_)))
    · refine br_d h (fun h => ?_) (fun h => ?_)
      · refine ob_c (p := (0 : Int) ≤ (8 : Int)) (by decide) ?_
        refine ob_t ?_
        refine ob_s h fun h => ?_
        refine ob_t ?_
        refine ob_t ?_
        exact ret_s h (fun e => by subst e; exact (by repeat' (first | exact trivial | exact ⟨rfl⟩ | refine And.intro ?_ ?_)))
      · refine ob_t ?_
        refine ob_s h fun h => ?_
        refine ob_t ?_
        refine ob_t ?_
        exact ret_s h (fun e => by subst e; exact (by repeat' (first | exact trivial | exact ⟨rfl⟩ | refine And.intro ?_ ?_)))
  · refine br_d h (fun h => ?_) (fun h => ?_)
    · refine ob_c (p := (0 : Int) ≤ (16 : Int)) (by decide) ?_
      refine br_d h (fun h => ?_) (fun h => ?_)
      · refine ob_c (p := (0 : Int) ≤ (8 : Int)) (by decide) ?_
        refine ob_t ?_
        refine ob_s h fun h => ?_
        refine ob_t ?_
        refine ob_t ?_
        exact ret_s h (fun e => by subst e; exact (by repeat' (first | exact trivial | exact ⟨rfl⟩ | refine And.intro ?_ ?_)))
      · refine ob_t ?_
        refine ob_s h fun h => ?_
        refine ob_t ?_
        refine ob_t ?_
        exact ret_s h (fun e => by subst e; exact (by repeat' (first | exact trivial | exact ⟨rfl⟩ | refine And.intro ?_ ?_)))
    · refine br_d h (fun h => ?_) (fun h => ?_)
      · refine ob_c (p := (0 : Int) ≤ (8 : Int)) (by decide) ?_
        refine ob_t ?_
        refine ob_s h fun h => ?_
        refine ob_t ?_
        refine ob_t ?_
        exact ret_s h (fun e => by subst e; exact (by repeat' (first | exact trivial | exact ⟨rfl⟩ | refine And.intro ?_ ?_)))
      · refine ob_t ?_
        refine ob_s h fun h => ?_
        refine ob_t ?_
        refine ob_t ?_
        exact ret_s h (fun e => by subst e; exact (by repeat' (first | exact trivial | exact ⟨rfl⟩ | refine And.intro ?_ ?_)))
set_option maxRecDepth 100000 in
theorem math_bits_Len64_ok : SpecOK Tryz.prog 166 true (pureK k_math_bits_Len64 y130) := by
  refine pureK_ok (sp := sp0) (fn := Tryz.f166) (body := bodyOf Tryz.f166) mixed sp0_ok Tryz.func166 (by kernel_rfl) (by kernel_rfl) fun as_ ob rs h ho => ?_
  unfold y130 at h
  split at h
  · rename_i x_
    cases h
    exact ⟨Nat.le_of_ble_eq_true rfl, _, _, math_bits_Len64_vc x_ _ (ok_some ho)⟩
  · cases h
theorem sp_166_ok {sp : Specs} (h : SpecsOK Tryz.prog sp) : SpecsOK Tryz.prog (sp_166 sp) := addK_ok math_bits_Len64_ok h
def y102 : List (Option Cont) := [none]
def y10 (x_ : Int) : Option Int :=
  Option.bind (y49 x_) fun r0 =>
  some (IntKind.wrap .i64 ((64 : Int) - r0))
def y78 : List A → Option (Prop × List RV)
  | [.d (.i .u64 x_)] => some (ok (y10 x_), [.d (.i .i64 ((val (y10 x_))))])
  | _ => none
abbrev sp_150 : Specs → Specs := addK 150 true (pureK y102 y78)
set_option maxRecDepth 100000 in
theorem y169 (x_ : Int) (r : Int) (h : Option.bind (y10 x_) some = some r) : runF Tryz.f150 ((sp_166 sp0)) (fun _ _ _ => none) [.d (.i .u64 x_)] [.d (.i .i64 r)] := by
  refine Eq.mp (by kernel_rfl : (
 (Ob (ok (y49 x_)) ∧
 (Ob (True) ∧
 (Ob (IntKind.wrap .i64 ((64 : Int) - val (y49 x_)) = r) ∧
 True)))) = _) ?_
  refine call_s h fun h => ?_
  refine ob_t ?_
  exact ret_s h (fun e => by subst e; exact (by repeat' (first | exact trivial | exact ⟨rfl⟩ | refine And.intro ?_ ?_)))
set_option maxRecDepth 100000 in
theorem y170 : SpecOK Tryz.prog 150 true (pureK y102 y78) := by
  refine pureK_ok (sp := (sp_166 sp0)) (fn := Tryz.f150) (body := bodyOf Tryz.f150) mixed (sp_166_ok sp0_ok) Tryz.func150 (by kernel_rfl) (by kernel_rfl) fun as_ ob rs h ho => ?_
  unfold y78 at h
  split at h
  · rename_i x_
    cases h
    exact ⟨Nat.le_of_ble_eq_true rfl, _, _, y169 x_ _ (ok_some ho)⟩
  · cases h
theorem sp_150_ok {sp : Specs} (h : SpecsOK Tryz.prog sp) : SpecsOK Tryz.prog (sp_150 sp) := addK_ok y170 h
def k_math_bits_Div64 : List (Option Cont) := [none, none, none]
def y25 (lo : Int) (y_ : Int) (r0 : Int) (x0 : (Int × Int)) : Option ((Int × Int) ⊕ Int) :=
  if x0.1 ≥ (4294967296 : Int) then
   if IntKind.wrap .u64 (x0.2 + Int.fdiv (IntKind.wrap .u64 (y_ * (2 : Int) ^ min (Int.toNat (IntKind.wrap .u64 r0)) (IntKind.bits .u64))) ((2 : Int) ^ min (32 : Nat) (IntKind.bits .u64))) ≥ (4294967296 : Int) then
    some (.inr (IntKind.wrap .u64 (x0.1 - (1 : Int))))
   else
    some (.inl ((IntKind.wrap .u64 (x0.1 - (1 : Int)), IntKind.wrap .u64 (x0.2 + Int.fdiv (IntKind.wrap .u64 (y_ * (2 : Int) ^ min (Int.toNat (IntKind.wrap .u64 r0)) (IntKind.bits .u64))) ((2 : Int) ^ min (32 : Nat) (IntKind.bits .u64))))))
  else
   if IntKind.wrap .u64 (x0.1 * IntKind.wrap .u64 (↑(BitVec.toNat (BitVec.ofInt (IntKind.bits .u64) (IntKind.wrap .u64 (y_ * (2 : Int) ^ min (Int.toNat (IntKind.wrap .u64 r0)) (IntKind.bits .u64))) &&& BitVec.ofInt (IntKind.bits .u64) (4294967295 : Int))) : Int)) > IntKind.wrap .u64 (IntKind.wrap .u64 ((4294967296 : Int) * x0.2) + Int.fdiv (IntKind.wrap .u64 (lo * (2 : Int) ^ min (Int.toNat (IntKind.wrap .u64 r0)) (IntKind.bits .u64))) ((2 : Int) ^ min (32 : Nat) (IntKind.bits .u64))) then
    if IntKind.wrap .u64 (x0.2 + Int.fdiv (IntKind.wrap .u64 (y_ * (2 : Int) ^ min (Int.toNat (IntKind.wrap .u64 r0)) (IntKind.bits .u64))) ((2 : Int) ^ min (32 : Nat) (IntKind.bits .u64))) ≥ (4294967296 : Int) then
     some (.inr (IntKind.wrap .u64 (x0.1 - (1 : Int))))
    else
     some (.inl ((IntKind.wrap .u64 (x0.1 - (1 : Int)), IntKind.wrap .u64 (x0.2 + Int.fdiv (IntKind.wrap .u64 (y_ * (2 : Int) ^ min (Int.toNat (IntKind.wrap .u64 r0)) (IntKind.bits .u64))) ((2 : Int) ^ min (32 : Nat) (IntKind.bits .u64))))))
   else
    some (.inr x0.1)
def y11 (lo : Int) (y_ : Int) (r0 : Int) (x1 : (Int × Int)) : Option ((Int × Int) ⊕ Int) :=
  if x1.2 ≥ (4294967296 : Int) then
   if IntKind.wrap .u64 (x1.1 + Int.fdiv (IntKind.wrap .u64 (y_ * (2 : Int) ^ min (Int.toNat (IntKind.wrap .u64 r0)) (IntKind.bits .u64))) ((2 : Int) ^ min (32 : Nat) (IntKind.bits .u64))) ≥ (4294967296 : Int) then
    some (.inr (IntKind.wrap .u64 (x1.2 - (1 : Int))))
   else
    some (.inl ((IntKind.wrap .u64 (x1.1 + Int.fdiv (IntKind.wrap .u64 (y_ * (2 : Int) ^ min (Int.toNat (IntKind.wrap .u64 r0)) (IntKind.bits .u64))) ((2 : Int) ^ min (32 : Nat) (IntKind.bits .u64))), IntKind.wrap .u64 (x1.2 - (1 : Int)))))
  else
   if IntKind.wrap .u64 (x1.2 * IntKind.wrap .u64 (↑(BitVec.toNat (BitVec.ofInt (IntKind.bits .u64) (IntKind.wrap .u64 (y_ * (2 : Int) ^ min (Int.toNat (IntKind.wrap .u64 r0)) (IntKind.bits .u64))) &&& BitVec.ofInt (IntKind.bits .u64) (4294967295 : Int))) : Int)) > IntKind.wrap .u64 (IntKind.wrap .u64 ((4294967296 : Int) * x1.1) + IntKind.wrap .u64 (↑(BitVec.toNat (BitVec.ofInt (IntKind.bits .u64) (IntKind.wrap .u64 (lo * (2 : Int) ^ min (Int.toNat (IntKind.wrap .u64 r0)) (IntKind.bits .u64))) &&& BitVec.ofInt (IntKind.bits .u64) (4294967295 : Int))) : Int)) then
    if IntKind.wrap .u64 (x1.1 + Int.fdiv (IntKind.wrap .u64 (y_ * (2 : Int) ^ min (Int.toNat (IntKind.wrap .u64 r0)) (IntKind.bits .u64))) ((2 : Int) ^ min (32 : Nat) (IntKind.bits .u64))) ≥ (4294967296 : Int) then
     some (.inr (IntKind.wrap .u64 (x1.2 - (1 : Int))))
    else
     some (.inl ((IntKind.wrap .u64 (x1.1 + Int.fdiv (IntKind.wrap .u64 (y_ * (2 : Int) ^ min (Int.toNat (IntKind.wrap .u64 r0)) (IntKind.bits .u64))) ((2 : Int) ^ min (32 : Nat) (IntKind.bits .u64))), IntKind.wrap .u64 (x1.2 - (1 : Int)))))
   else
    some (.inr x1.2)
def y12 (hi : Int) (lo : Int) (y_ : Int) (u15 : Int) (r0 : Int) (u62 : Int) : Option (Int × Int) :=
  if (0 : Int) ≤ IntKind.wrap .u64 r0 then
   some ((IntKind.wrap .u64 (IntKind.wrap .u64 (u15 * (4294967296 : Int)) + u62), Int.fdiv (IntKind.wrap .u64 (IntKind.wrap .u64 (IntKind.wrap .u64 (IntKind.wrap .u64 (IntKind.wrap .u64 (IntKind.wrap .u64 (IntKind.wrap .u64 (↑(BitVec.toNat (BitVec.ofInt (IntKind.bits .u64) (IntKind.wrap .u64 (hi * (2 : Int) ^ min (Int.toNat (IntKind.wrap .u64 r0)) (IntKind.bits .u64))) ||| BitVec.ofInt (IntKind.bits .u64) (Int.fdiv lo ((2 : Int) ^ min (Int.toNat (IntKind.wrap .u64 ((64 : Int) - IntKind.wrap .u64 r0))) (IntKind.bits .u64))))) : Int) * (4294967296 : Int)) + Int.fdiv (IntKind.wrap .u64 (lo * (2 : Int) ^ min (Int.toNat (IntKind.wrap .u64 r0)) (IntKind.bits .u64))) ((2 : Int) ^ min (32 : Nat) (IntKind.bits .u64))) - IntKind.wrap .u64 (u15 * IntKind.wrap .u64 (y_ * (2 : Int) ^ min (Int.toNat (IntKind.wrap .u64 r0)) (IntKind.bits .u64)))) * (4294967296 : Int)) + IntKind.wrap .u64 (↑(BitVec.toNat (BitVec.ofInt (IntKind.bits .u64) (IntKind.wrap .u64 (lo * (2 : Int) ^ min (Int.toNat (IntKind.wrap .u64 r0)) (IntKind.bits .u64))) &&& BitVec.ofInt (IntKind.bits .u64) (4294967295 : Int))) : Int)) - IntKind.wrap .u64 (u62 * IntKind.wrap .u64 (y_ * (2 : Int) ^ min (Int.toNat (IntKind.wrap .u64 r0)) (IntKind.bits .u64))))) ((2 : Int) ^ min (Int.toNat (IntKind.wrap .u64 r0)) (IntKind.bits .u64))))
  else none
def y47 (hi : Int) (lo : Int) (y_ : Int) (r0 : Int) (u15 : Int) : Option (Int × Int) :=
  if Int.fdiv (IntKind.wrap .u64 (y_ * (2 : Int) ^ min (Int.toNat (IntKind.wrap .u64 r0)) (IntKind.bits .u64))) ((2 : Int) ^ min (32 : Nat) (IntKind.bits .u64)) ≠ (0 : Int) then
   Option.bind (iter (y11 lo y_ r0) big ((IntKind.wrap .u64 (IntKind.wrap .u64 (IntKind.wrap .u64 (IntKind.wrap .u64 (IntKind.wrap .u64 (↑(BitVec.toNat (BitVec.ofInt (IntKind.bits .u64) (IntKind.wrap .u64 (hi * (2 : Int) ^ min (Int.toNat (IntKind.wrap .u64 r0)) (IntKind.bits .u64))) ||| BitVec.ofInt (IntKind.bits .u64) (Int.fdiv lo ((2 : Int) ^ min (Int.toNat (IntKind.wrap .u64 ((64 : Int) - IntKind.wrap .u64 r0))) (IntKind.bits .u64))))) : Int) * (4294967296 : Int)) + Int.fdiv (IntKind.wrap .u64 (lo * (2 : Int) ^ min (Int.toNat (IntKind.wrap .u64 r0)) (IntKind.bits .u64))) ((2 : Int) ^ min (32 : Nat) (IntKind.bits .u64))) - IntKind.wrap .u64 (u15 * IntKind.wrap .u64 (y_ * (2 : Int) ^ min (Int.toNat (IntKind.wrap .u64 r0)) (IntKind.bits .u64)))) - IntKind.wrap .u64 (IntKind.wrap .u64 (Int.tdiv (IntKind.wrap .u64 (IntKind.wrap .u64 (IntKind.wrap .u64 (IntKind.wrap .u64 (↑(BitVec.toNat (BitVec.ofInt (IntKind.bits .u64) (IntKind.wrap .u64 (hi * (2 : Int) ^ min (Int.toNat (IntKind.wrap .u64 r0)) (IntKind.bits .u64))) ||| BitVec.ofInt (IntKind.bits .u64) (Int.fdiv lo ((2 : Int) ^ min (Int.toNat (IntKind.wrap .u64 ((64 : Int) - IntKind.wrap .u64 r0))) (IntKind.bits .u64))))) : Int) * (4294967296 : Int)) + Int.fdiv (IntKind.wrap .u64 (lo * (2 : Int) ^ min (Int.toNat (IntKind.wrap .u64 r0)) (IntKind.bits .u64))) ((2 : Int) ^ min (32 : Nat) (IntKind.bits .u64))) - IntKind.wrap .u64 (u15 * IntKind.wrap .u64 (y_ * (2 : Int) ^ min (Int.toNat (IntKind.wrap .u64 r0)) (IntKind.bits .u64))))) (Int.fdiv (IntKind.wrap .u64 (y_ * (2 : Int) ^ min (Int.toNat (IntKind.wrap .u64 r0)) (IntKind.bits .u64))) ((2 : Int) ^ min (32 : Nat) (IntKind.bits .u64)))) * Int.fdiv (IntKind.wrap .u64 (y_ * (2 : Int) ^ min (Int.toNat (IntKind.wrap .u64 r0)) (IntKind.bits .u64))) ((2 : Int) ^ min (32 : Nat) (IntKind.bits .u64)))), IntKind.wrap .u64 (Int.tdiv (IntKind.wrap .u64 (IntKind.wrap .u64 (IntKind.wrap .u64 (IntKind.wrap .u64 (↑(BitVec.toNat (BitVec.ofInt (IntKind.bits .u64) (IntKind.wrap .u64 (hi * (2 : Int) ^ min (Int.toNat (IntKind.wrap .u64 r0)) (IntKind.bits .u64))) ||| BitVec.ofInt (IntKind.bits .u64) (Int.fdiv lo ((2 : Int) ^ min (Int.toNat (IntKind.wrap .u64 ((64 : Int) - IntKind.wrap .u64 r0))) (IntKind.bits .u64))))) : Int) * (4294967296 : Int)) + Int.fdiv (IntKind.wrap .u64 (lo * (2 : Int) ^ min (Int.toNat (IntKind.wrap .u64 r0)) (IntKind.bits .u64))) ((2 : Int) ^ min (32 : Nat) (IntKind.bits .u64))) - IntKind.wrap .u64 (u15 * IntKind.wrap .u64 (y_ * (2 : Int) ^ min (Int.toNat (IntKind.wrap .u64 r0)) (IntKind.bits .u64))))) (Int.fdiv (IntKind.wrap .u64 (y_ * (2 : Int) ^ min (Int.toNat (IntKind.wrap .u64 r0)) (IntKind.bits .u64))) ((2 : Int) ^ min (32 : Nat) (IntKind.bits .u64))))))) (y12 hi lo y_ u15 r0)
  else none
def y35 (hi : Int) (lo : Int) (y_ : Int) : Option (Int × Int) :=
  if (y_ == (0 : Int)) = true then
   none   else
   if y_ ≤ hi then
    none    else
    if (hi == (0 : Int)) = true then
     if y_ ≠ (0 : Int) then
      if y_ ≠ (0 : Int) then
       some ((IntKind.wrap .u64 (Int.tdiv lo y_), Int.tmod lo y_))
      else none
     else none
    else
     Option.bind (y10 y_) fun r0 =>
     if (0 : Int) ≤ IntKind.wrap .u64 r0 then
      if (0 : Int) ≤ IntKind.wrap .u64 r0 then
       if (0 : Int) ≤ IntKind.wrap .u64 ((64 : Int) - IntKind.wrap .u64 r0) then
        if (0 : Int) ≤ IntKind.wrap .u64 r0 then
         if Int.fdiv (IntKind.wrap .u64 (y_ * (2 : Int) ^ min (Int.toNat (IntKind.wrap .u64 r0)) (IntKind.bits .u64))) ((2 : Int) ^ min (32 : Nat) (IntKind.bits .u64)) ≠ (0 : Int) then
          Option.bind (iter (y25 lo y_ r0) big ((IntKind.wrap .u64 (Int.tdiv (IntKind.wrap .u64 (↑(BitVec.toNat (BitVec.ofInt (IntKind.bits .u64) (IntKind.wrap .u64 (hi * (2 : Int) ^ min (Int.toNat (IntKind.wrap .u64 r0)) (IntKind.bits .u64))) ||| BitVec.ofInt (IntKind.bits .u64) (Int.fdiv lo ((2 : Int) ^ min (Int.toNat (IntKind.wrap .u64 ((64 : Int) - IntKind.wrap .u64 r0))) (IntKind.bits .u64))))) : Int)) (Int.fdiv (IntKind.wrap .u64 (y_ * (2 : Int) ^ min (Int.toNat (IntKind.wrap .u64 r0)) (IntKind.bits .u64))) ((2 : Int) ^ min (32 : Nat) (IntKind.bits .u64)))), IntKind.wrap .u64 (IntKind.wrap .u64 (↑(BitVec.toNat (BitVec.ofInt (IntKind.bits .u64) (IntKind.wrap .u64 (hi * (2 : Int) ^ min (Int.toNat (IntKind.wrap .u64 r0)) (IntKind.bits .u64))) ||| BitVec.ofInt (IntKind.bits .u64) (Int.fdiv lo ((2 : Int) ^ min (Int.toNat (IntKind.wrap .u64 ((64 : Int) - IntKind.wrap .u64 r0))) (IntKind.bits .u64))))) : Int) - IntKind.wrap .u64 (IntKind.wrap .u64 (Int.tdiv (IntKind.wrap .u64 (↑(BitVec.toNat (BitVec.ofInt (IntKind.bits .u64) (IntKind.wrap .u64 (hi * (2 : Int) ^ min (Int.toNat (IntKind.wrap .u64 r0)) (IntKind.bits .u64))) ||| BitVec.ofInt (IntKind.bits .u64) (Int.fdiv lo ((2 : Int) ^ min (Int.toNat (IntKind.wrap .u64 ((64 : Int) - IntKind.wrap .u64 r0))) (IntKind.bits .u64))))) : Int)) (Int.fdiv (IntKind.wrap .u64 (y_ * (2 : Int) ^ min (Int.toNat (IntKind.wrap .u64 r0)) (IntKind.bits .u64))) ((2 : Int) ^ min (32 : Nat) (IntKind.bits .u64)))) * Int.fdiv (IntKind.wrap .u64 (y_ * (2 : Int) ^ min (Int.toNat (IntKind.wrap .u64 r0)) (IntKind.bits .u64))) ((2 : Int) ^ min (32 : Nat) (IntKind.bits .u64))))))) (y47 hi lo y_ r0)
         else none
        else none
       else none
      else none
     else none
def y131 : List A → Option (Prop × List RV)
  | [.d (.i .u64 hi), .d (.i .u64 lo), .d (.i .u64 y_)] => some (ok (y35 hi lo y_), [.d (.i .u64 ((val (y35 hi lo y_)).1)), .d (.i .u64 ((val (y35 hi lo y_)).2))])
  | _ => none
abbrev sp_127 : Specs → Specs := addK 127 true (pureK k_math_bits_Div64 y131)
set_option maxRecDepth 100000 in
private abbrev e0 (hi : Int) (lo : Int) (y_ : Int) : Int := IntKind.wrap .u64 (IntKind.wrap .u64 (↑(BitVec.toNat (BitVec.ofInt (IntKind.bits .u64) (IntKind.wrap .u64 (hi * (2 : Int) ^ min (Int.toNat (IntKind.wrap .u64 (val (y10 y_)))) (IntKind.bits .u64))) ||| BitVec.ofInt (IntKind.bits .u64) (Int.fdiv lo ((2 : Int) ^ min (Int.toNat (IntKind.wrap .u64 ((64 : Int) - IntKind.wrap .u64 (val (y10 y_))))) (IntKind.bits .u64))))) : Int) * (4294967296 : Int)) + Int.fdiv (IntKind.wrap .u64 (lo * (2 : Int) ^ min (Int.toNat (IntKind.wrap .u64 (val (y10 y_)))) (IntKind.bits .u64))) ((2 : Int) ^ min (32 : Nat) (IntKind.bits .u64))
private abbrev e1 (y_ : Int) : Int := IntKind.wrap .u64 (y_ * (2 : Int) ^ min (Int.toNat (IntKind.wrap .u64 (val (y10 y_)))) (IntKind.bits .u64))
private abbrev e2 (y_ : Int) : Int := IntKind.wrap .u64 (val (y10 y_))
private abbrev e3  : Int := (2 : Int) ^ min (32 : Nat) (IntKind.bits .u64)
private abbrev e4 (lo : Int) (y_ : Int) : Int := IntKind.wrap .u64 (lo * (2 : Int) ^ min (Int.toNat (e2 y_)) (IntKind.bits .u64))
private abbrev e5 (y_ : Int) : Int := val (y10 y_)
private abbrev e6 (lo : Int) (y_ : Int) : Int := Int.fdiv lo ((2 : Int) ^ min (Int.toNat (IntKind.wrap .u64 ((64 : Int) - IntKind.wrap .u64 (e5 y_)))) (IntKind.bits .u64))
private abbrev e7 (hi : Int) (y_ : Int) : Int := IntKind.wrap .u64 (hi * (2 : Int) ^ min (Int.toNat (e2 y_)) (IntKind.bits .u64))
private abbrev e8 (hi : Int) (lo : Int) (y_ : Int) : Int := IntKind.wrap .u64 (↑(BitVec.toNat (BitVec.ofInt (IntKind.bits .u64) (e7 hi y_) ||| BitVec.ofInt (IntKind.bits .u64) (e6 lo y_))) : Int)
private abbrev e9 (y_ : Int) : Int := (2 : Int) ^ min (Int.toNat (e2 y_)) (IntKind.bits .u64)
theorem math_bits_Div64_vc (hi : Int) (lo : Int) (y_ : Int) (r : Int × Int) (h : Option.bind (y35 hi lo y_) some = some r) : runF Tryz.f127 ((sp_150 sp0)) (fun gs id _ => match id with
 | 0 => some ⟨(Int × Int) × Nat, fun z => ⟨[(2, .w (.c (.d (.i .u64 (e1 y_))))), (8, .w (.c (.d (.i .u64 (e2 y_))))), (9, .w (.c (.d (.i .u64 (Int.fdiv (e1 y_) (e3 )))))), (10, .w (.c (.d (.i .u64 (IntKind.wrap .u64 (↑(BitVec.toNat (BitVec.ofInt (IntKind.bits .u64) (e1 y_) &&& BitVec.ofInt (IntKind.bits .u64) (4294967295 : Int))) : Int)))))), (11, .w (.c (.d (.i .u64 (e8 hi lo y_))))), (13, .w (.c (.d (.i .u64 (Int.fdiv (e4 lo y_) (e3 )))))), (14, .w (.c (.d (.i .u64 (IntKind.wrap .u64 (↑(BitVec.toNat (BitVec.ofInt (IntKind.bits .u64) (e4 lo y_) &&& BitVec.ofInt (IntKind.bits .u64) (4294967295 : Int))) : Int)))))), (15, .w (.c (.d (.i .u64 (Prod.fst (Prod.fst z)))))), (16, .w (.c (.d (.i .u64 (Prod.snd (Prod.fst z))))))], [], 3⟩, fun z => Option.bind (iter (y25 lo y_ (e5 y_)) (Prod.snd z) (Prod.fst z)) (fun y0 => Option.bind (y47 hi lo y_ (e5 y_) y0) some) = some r, fun z => Prod.snd z⟩
 | 2 => some ⟨Int × (Int × Int) × Nat, fun z => ⟨[(2, .w (.c (.d (.i .u64 (e1 y_))))), (8, .w (.c (.d (.i .u64 (e2 y_))))), (9, .w (.c (.d (.i .u64 (Int.fdiv (e1 y_) (e3 )))))), (10, .w (.c (.d (.i .u64 (IntKind.wrap .u64 (↑(BitVec.toNat (BitVec.ofInt (IntKind.bits .u64) (e1 y_) &&& BitVec.ofInt (IntKind.bits .u64) (4294967295 : Int))) : Int)))))), (14, .w (.c (.d (.i .u64 (IntKind.wrap .u64 (↑(BitVec.toNat (BitVec.ofInt (IntKind.bits .u64) (e4 lo y_) &&& BitVec.ofInt (IntKind.bits .u64) (4294967295 : Int))) : Int)))))), (15, .w (.c (.d (.i .u64 (Prod.fst z))))), (16, .w (.c (.d (.i .u64 (Prod.fst (Prod.fst (Prod.snd z))))))), (17, .w (.c (.d (.i .u64 (IntKind.wrap .u64 (IntKind.wrap .u64 (e0 hi lo y_) - IntKind.wrap .u64 (Prod.fst z * IntKind.wrap .u64 (y_ * (2 : Int) ^ min (Int.toNat (e2 y_)) (IntKind.bits .u64))))))))), (18, .w (.c (.d (.i .u64 (Prod.snd (Prod.fst (Prod.snd z)))))))], [], 3⟩, fun z => Option.bind (iter (y11 lo y_ (e5 y_)) (Prod.snd (Prod.snd z)) (Prod.fst (Prod.snd z))) (fun y0 => Option.bind (y12 hi lo y_ (Prod.fst z) (e5 y_) y0) some) = some r, fun z => Prod.snd (Prod.snd z)⟩
 | _ => none) [.d (.i .u64 hi), .d (.i .u64 lo), .d (.i .u64 y_)] [.d (.i .u64 r.1), .d (.i .u64 r.2)] := by
  refine Eq.mp (by kernel_rfl : (
 Br (y_ == (0 : Int))
   (False)
 (Br (decide (y_ ≤ hi))
   (False)
 (Br (hi == (0 : Int))
   ((Ob (y_ ≠ (0 : Int)) ∧
 (Ob (y_ ≠ (0 : Int)) ∧
 (Ob (True) ∧
 (Ob (True) ∧
 (Ob (IntKind.wrap .u64 (Int.tdiv lo y_) = r.1) ∧
 (Ob (Int.tmod lo y_ = r.2) ∧
 True)))))))
   ((Ob (ok (y10 y_)) ∧
 (Ob (True) ∧
 (Ob ((0 : Int) ≤ IntKind.wrap .u64 (e5 y_)) ∧
 (Ob ((0 : Int) ≤ (32 : Int)) ∧
 (Ob ((0 : Int) ≤ IntKind.wrap .u64 (e5 y_)) ∧
 (Ob ((0 : Int) ≤ IntKind.wrap .u64 ((64 : Int) - IntKind.wrap .u64 (e5 y_))) ∧
 (Ob ((0 : Int) ≤ IntKind.wrap .u64 (e5 y_)) ∧
 (Ob ((0 : Int) ≤ (32 : Int)) ∧
 (Ob (Int.fdiv (e1 y_) (e3 ) ≠ (0 : Int)) ∧
   ((∃ (v0 : (Int × Int) × Nat), (Ob ((Option.bind (iter (y25 lo y_ (e5 y_)) v0.2 v0.1) fun y0 => Option.bind (y47 hi lo y_ (e5 y_) y0) some) = some r) ∧
 (Ob (IntKind.wrap .u64 (y_ * (2 : Int) ^ min (Int.toNat (e2 y_)) (IntKind.bits .u64)) = IntKind.wrap .u64 (y_ * (2 : Int) ^ min (Int.toNat (e2 y_)) (IntKind.bits .u64))) ∧
 (Ob (IntKind.wrap .u64 (e5 y_) = IntKind.wrap .u64 (e5 y_)) ∧
 (Ob (Int.fdiv (e1 y_) (e3 ) = Int.fdiv (e1 y_) (e3 )) ∧
 (Ob (IntKind.wrap .u64 (↑(BitVec.toNat (BitVec.ofInt (IntKind.bits .u64) (e1 y_) &&& BitVec.ofInt (IntKind.bits .u64) (4294967295 : Int))) : Int) = IntKind.wrap .u64 (↑(BitVec.toNat (BitVec.ofInt (IntKind.bits .u64) (e1 y_) &&& BitVec.ofInt (IntKind.bits .u64) (4294967295 : Int))) : Int)) ∧
 (Ob (IntKind.wrap .u64 (↑(BitVec.toNat (BitVec.ofInt (IntKind.bits .u64) (e7 hi y_) ||| BitVec.ofInt (IntKind.bits .u64) (e6 lo y_))) : Int) = IntKind.wrap .u64 (↑(BitVec.toNat (BitVec.ofInt (IntKind.bits .u64) (e7 hi y_) ||| BitVec.ofInt (IntKind.bits .u64) (e6 lo y_))) : Int)) ∧
 (Ob (Int.fdiv (e4 lo y_) (e3 ) = Int.fdiv (e4 lo y_) (e3 )) ∧
 (Ob (IntKind.wrap .u64 (↑(BitVec.toNat (BitVec.ofInt (IntKind.bits .u64) (e4 lo y_) &&& BitVec.ofInt (IntKind.bits .u64) (4294967295 : Int))) : Int) = IntKind.wrap .u64 (↑(BitVec.toNat (BitVec.ofInt (IntKind.bits .u64) (e4 lo y_) &&& BitVec.ofInt (IntKind.bits .u64) (4294967295 : Int))) : Int)) ∧
 (Ob (IntKind.wrap .u64 (Int.tdiv (e8 hi lo y_) (Int.fdiv (e1 y_) (e3 ))) = v0.1.1) ∧
 (Ob (IntKind.wrap .u64 (IntKind.wrap .u64 (↑(BitVec.toNat (BitVec.ofInt (IntKind.bits .u64) (e7 hi y_) ||| BitVec.ofInt (IntKind.bits .u64) (e6 lo y_))) : Int) - IntKind.wrap .u64 (IntKind.wrap .u64 (Int.tdiv (e8 hi lo y_) (Int.fdiv (e1 y_) (e3 ))) * Int.fdiv (e1 y_) (e3 ))) = v0.1.2) ∧
 True))))))))))) ∧
   (∀ (v0 : (Int × Int) × Nat), ((Option.bind (iter (y25 lo y_ (e5 y_)) v0.2 v0.1) fun y0 => Option.bind (y47 hi lo y_ (e5 y_) y0) some) = some r →
 Br (decide (v0.1.1 ≥ (4294967296 : Int)))
 (Br (decide (IntKind.wrap .u64 (v0.1.2 + Int.fdiv (e1 y_) (e3 )) ≥ (4294967296 : Int)))
   ((Ob (Int.fdiv (e1 y_) (e3 ) ≠ (0 : Int)) ∧
   ((∃ (v1 : Int × (Int × Int) × Nat), (Ob ((Option.bind (iter (y11 lo y_ (e5 y_)) v1.2.2 v1.2.1) fun y0 => Option.bind (y12 hi lo y_ v1.1 (e5 y_) y0) some) = some r) ∧
 (Ob (IntKind.wrap .u64 (y_ * (2 : Int) ^ min (Int.toNat (e2 y_)) (IntKind.bits .u64)) = IntKind.wrap .u64 (y_ * (2 : Int) ^ min (Int.toNat (e2 y_)) (IntKind.bits .u64))) ∧
 (Ob (IntKind.wrap .u64 (e5 y_) = IntKind.wrap .u64 (e5 y_)) ∧
 (Ob (Int.fdiv (e1 y_) (e3 ) = Int.fdiv (e1 y_) (e3 )) ∧
 (Ob (IntKind.wrap .u64 (↑(BitVec.toNat (BitVec.ofInt (IntKind.bits .u64) (e1 y_) &&& BitVec.ofInt (IntKind.bits .u64) (4294967295 : Int))) : Int) = IntKind.wrap .u64 (↑(BitVec.toNat (BitVec.ofInt (IntKind.bits .u64) (e1 y_) &&& BitVec.ofInt (IntKind.bits .u64) (4294967295 : Int))) : Int)) ∧
 (Ob (IntKind.wrap .u64 (↑(BitVec.toNat (BitVec.ofInt (IntKind.bits .u64) (e4 lo y_) &&& BitVec.ofInt (IntKind.bits .u64) (4294967295 : Int))) : Int) = IntKind.wrap .u64 (↑(BitVec.toNat (BitVec.ofInt (IntKind.bits .u64) (e4 lo y_) &&& BitVec.ofInt (IntKind.bits .u64) (4294967295 : Int))) : Int)) ∧
 (Ob (IntKind.wrap .u64 (v0.1.1 - (1 : Int)) = v1.1) ∧
 (Ob (IntKind.wrap .u64 (IntKind.wrap .u64 (IntKind.wrap .u64 (e0 hi lo y_) - IntKind.wrap .u64 (IntKind.wrap .u64 (v0.1.1 - (1 : Int)) * IntKind.wrap .u64 (y_ * (2 : Int) ^ min (Int.toNat (e2 y_)) (IntKind.bits .u64)))) - IntKind.wrap .u64 (IntKind.wrap .u64 (Int.tdiv (IntKind.wrap .u64 (IntKind.wrap .u64 (e0 hi lo y_) - IntKind.wrap .u64 (IntKind.wrap .u64 (v0.1.1 - (1 : Int)) * IntKind.wrap .u64 (y_ * (2 : Int) ^ min (Int.toNat (e2 y_)) (IntKind.bits .u64))))) (Int.fdiv (e1 y_) (e3 ))) * Int.fdiv (e1 y_) (e3 ))) = v1.2.1.1) ∧
 (Ob (IntKind.wrap .u64 (IntKind.wrap .u64 (e0 hi lo y_) - IntKind.wrap .u64 (IntKind.wrap .u64 (v0.1.1 - (1 : Int)) * IntKind.wrap .u64 (y_ * (2 : Int) ^ min (Int.toNat (e2 y_)) (IntKind.bits .u64)))) = IntKind.wrap .u64 (IntKind.wrap .u64 (e0 hi lo y_) - IntKind.wrap .u64 (v1.1 * IntKind.wrap .u64 (y_ * (2 : Int) ^ min (Int.toNat (e2 y_)) (IntKind.bits .u64))))) ∧
 (Ob (IntKind.wrap .u64 (Int.tdiv (IntKind.wrap .u64 (IntKind.wrap .u64 (e0 hi lo y_) - IntKind.wrap .u64 (IntKind.wrap .u64 (v0.1.1 - (1 : Int)) * IntKind.wrap .u64 (y_ * (2 : Int) ^ min (Int.toNat (e2 y_)) (IntKind.bits .u64))))) (Int.fdiv (e1 y_) (e3 ))) = v1.2.1.2) ∧
 True))))))))))) ∧
   (∀ (v1 : Int × (Int × Int) × Nat), ((Option.bind (iter (y11 lo y_ (e5 y_)) v1.2.2 v1.2.1) fun y0 => Option.bind (y12 hi lo y_ v1.1 (e5 y_) y0) some) = some r →
 Br (decide (v1.2.1.2 ≥ (4294967296 : Int)))
 (Br (decide (IntKind.wrap .u64 (v1.2.1.1 + Int.fdiv (e1 y_) (e3 )) ≥ (4294967296 : Int)))
   ((Ob ((0 : Int) ≤ IntKind.wrap .u64 (e5 y_)) ∧
 (Ob (True) ∧
 (Ob (True) ∧
 (Ob (IntKind.wrap .u64 (IntKind.wrap .u64 (v1.1 * (4294967296 : Int)) + IntKind.wrap .u64 (v1.2.1.2 - (1 : Int))) = r.1) ∧
 (Ob (Int.fdiv (IntKind.wrap .u64 (IntKind.wrap .u64 (IntKind.wrap .u64 (IntKind.wrap .u64 (IntKind.wrap .u64 (e0 hi lo y_) - IntKind.wrap .u64 (v1.1 * IntKind.wrap .u64 (y_ * (2 : Int) ^ min (Int.toNat (e2 y_)) (IntKind.bits .u64)))) * (4294967296 : Int)) + IntKind.wrap .u64 (↑(BitVec.toNat (BitVec.ofInt (IntKind.bits .u64) (e4 lo y_) &&& BitVec.ofInt (IntKind.bits .u64) (4294967295 : Int))) : Int)) - IntKind.wrap .u64 (IntKind.wrap .u64 (v1.2.1.2 - (1 : Int)) * IntKind.wrap .u64 (y_ * (2 : Int) ^ min (Int.toNat (e2 y_)) (IntKind.bits .u64))))) (e9 y_) = r.2) ∧
 True))))))
   ((∃ (v2 : Int × (Int × Int) × Nat), (Ob ((Option.bind (iter (y11 lo y_ (e5 y_)) v2.2.2 v2.2.1) fun y0 => Option.bind (y12 hi lo y_ v2.1 (e5 y_) y0) some) = some r) ∧
 (Ob (v2.2.2 < v1.2.2) ∧
 (Ob (IntKind.wrap .u64 (y_ * (2 : Int) ^ min (Int.toNat (e2 y_)) (IntKind.bits .u64)) = IntKind.wrap .u64 (y_ * (2 : Int) ^ min (Int.toNat (e2 y_)) (IntKind.bits .u64))) ∧
 (Ob (IntKind.wrap .u64 (e5 y_) = IntKind.wrap .u64 (e5 y_)) ∧
 (Ob (Int.fdiv (e1 y_) (e3 ) = Int.fdiv (e1 y_) (e3 )) ∧
 (Ob (IntKind.wrap .u64 (↑(BitVec.toNat (BitVec.ofInt (IntKind.bits .u64) (e1 y_) &&& BitVec.ofInt (IntKind.bits .u64) (4294967295 : Int))) : Int) = IntKind.wrap .u64 (↑(BitVec.toNat (BitVec.ofInt (IntKind.bits .u64) (e1 y_) &&& BitVec.ofInt (IntKind.bits .u64) (4294967295 : Int))) : Int)) ∧
 (Ob (IntKind.wrap .u64 (↑(BitVec.toNat (BitVec.ofInt (IntKind.bits .u64) (e4 lo y_) &&& BitVec.ofInt (IntKind.bits .u64) (4294967295 : Int))) : Int) = IntKind.wrap .u64 (↑(BitVec.toNat (BitVec.ofInt (IntKind.bits .u64) (e4 lo y_) &&& BitVec.ofInt (IntKind.bits .u64) (4294967295 : Int))) : Int)) ∧
 (Ob (v1.1 = v2.1) ∧
 (Ob (IntKind.wrap .u64 (v1.2.1.1 + Int.fdiv (e1 y_) (e3 )) = v2.2.1.1) ∧
 (Ob (IntKind.wrap .u64 (IntKind.wrap .u64 (e0 hi lo y_) - IntKind.wrap .u64 (v1.1 * IntKind.wrap .u64 (y_ * (2 : Int) ^ min (Int.toNat (e2 y_)) (IntKind.bits .u64)))) = IntKind.wrap .u64 (IntKind.wrap .u64 (e0 hi lo y_) - IntKind.wrap .u64 (v2.1 * IntKind.wrap .u64 (y_ * (2 : Int) ^ min (Int.toNat (e2 y_)) (IntKind.bits .u64))))) ∧
 (Ob (IntKind.wrap .u64 (v1.2.1.2 - (1 : Int)) = v2.2.1.2) ∧
 True))))))))))))))
 (Br (decide (IntKind.wrap .u64 (v1.2.1.2 * IntKind.wrap .u64 (↑(BitVec.toNat (BitVec.ofInt (IntKind.bits .u64) (e1 y_) &&& BitVec.ofInt (IntKind.bits .u64) (4294967295 : Int))) : Int)) > IntKind.wrap .u64 (IntKind.wrap .u64 ((4294967296 : Int) * v1.2.1.1) + IntKind.wrap .u64 (↑(BitVec.toNat (BitVec.ofInt (IntKind.bits .u64) (e4 lo y_) &&& BitVec.ofInt (IntKind.bits .u64) (4294967295 : Int))) : Int))))
 (Br (decide (IntKind.wrap .u64 (v1.2.1.1 + Int.fdiv (e1 y_) (e3 )) ≥ (4294967296 : Int)))
   ((Ob ((0 : Int) ≤ IntKind.wrap .u64 (e5 y_)) ∧
 (Ob (True) ∧
 (Ob (True) ∧
 (Ob (IntKind.wrap .u64 (IntKind.wrap .u64 (v1.1 * (4294967296 : Int)) + IntKind.wrap .u64 (v1.2.1.2 - (1 : Int))) = r.1) ∧
 (Ob (Int.fdiv (IntKind.wrap .u64 (IntKind.wrap .u64 (IntKind.wrap .u64 (IntKind.wrap .u64 (IntKind.wrap .u64 (e0 hi lo y_) - IntKind.wrap .u64 (v1.1 * IntKind.wrap .u64 (y_ * (2 : Int) ^ min (Int.toNat (e2 y_)) (IntKind.bits .u64)))) * (4294967296 : Int)) + IntKind.wrap .u64 (↑(BitVec.toNat (BitVec.ofInt (IntKind.bits .u64) (e4 lo y_) &&& BitVec.ofInt (IntKind.bits .u64) (4294967295 : Int))) : Int)) - IntKind.wrap .u64 (IntKind.wrap .u64 (v1.2.1.2 - (1 : Int)) * IntKind.wrap .u64 (y_ * (2 : Int) ^ min (Int.toNat (e2 y_)) (IntKind.bits .u64))))) (e9 y_) = r.2) ∧
 True))))))
   ((∃ (v2 : Int × (Int × Int) × Nat), (Ob ((Option.bind (iter (y11 lo y_ (e5 y_)) v2.2.2 v2.2.1) fun y0 => Option.bind (y12 hi lo y_ v2.1 (e5 y_) y0) some) = some r) ∧
 (Ob (v2.2.2 < v1.2.2) ∧
 (Ob (IntKind.wrap .u64 (y_ * (2 : Int) ^ min (Int.toNat (e2 y_)) (IntKind.bits .u64)) = IntKind.wrap .u64 (y_ * (2 : Int) ^ min (Int.toNat (e2 y_)) (IntKind.bits .u64))) ∧
 (Ob (IntKind.wrap .u64 (e5 y_) = IntKind.wrap .u64 (e5 y_)) ∧
 (Ob (Int.fdiv (e1 y_) (e3 ) = Int.fdiv (e1 y_) (e3 )) ∧
 (Ob (IntKind.wrap .u64 (↑(BitVec.toNat (BitVec.ofInt (IntKind.bits .u64) (e1 y_) &&& BitVec.ofInt (IntKind.bits .u64) (4294967295 : Int))) : Int) = IntKind.wrap .u64 (↑(BitVec.toNat (BitVec.ofInt (IntKind.bits .u64) (e1 y_) &&& BitVec.ofInt (IntKind.bits .u64) (4294967295 : Int))) : Int)) ∧
 (Ob (IntKind.wrap .u64 (↑(BitVec.toNat (BitVec.ofInt (IntKind.bits .u64) (e4 lo y_) &&& BitVec.ofInt (IntKind.bits .u64) (4294967295 : Int))) : Int) = IntKind.wrap .u64 (↑(BitVec.toNat (BitVec.ofInt (IntKind.bits .u64) (e4 lo y_) &&& BitVec.ofInt (IntKind.bits .u64) (4294967295 : Int))) : Int)) ∧
 (Ob (v1.1 = v2.1) ∧
 (Ob (IntKind.wrap .u64 (v1.2.1.1 + Int.fdiv (e1 y_) (e3 )) = v2.2.1.1) ∧
 (Ob (IntKind.wrap .u64 (IntKind.wrap .u64 (e0 hi lo y_) - IntKind.wrap .u64 (v1.1 * IntKind.wrap .u64 (y_ * (2 : Int) ^ min (Int.toNat (e2 y_)) (IntKind.bits .u64)))) = IntKind.wrap .u64 (IntKind.wrap .u64 (e0 hi lo y_) - IntKind.wrap .u64 (v2.1 * IntKind.wrap .u64 (y_ * (2 : Int) ^ min (Int.toNat (e2 y_)) (IntKind.bits .u64))))) ∧
 (Ob (IntKind.wrap .u64 (v1.2.1.2 - (1 : Int)) = v2.2.1.2) ∧
 True))))))))))))))
   ((Ob ((0 : Int) ≤ IntKind.wrap .u64 (e5 y_)) ∧
 (Ob (True) ∧
 (Ob (True) ∧
 (Ob (IntKind.wrap .u64 (IntKind.wrap .u64 (v1.1 * (4294967296 : Int)) + v1.2.1.2) = r.1) ∧
 (Ob (Int.fdiv (IntKind.wrap .u64 (IntKind.wrap .u64 (IntKind.wrap .u64 (IntKind.wrap .u64 (IntKind.wrap .u64 (e0 hi lo y_) - IntKind.wrap .u64 (v1.1 * IntKind.wrap .u64 (y_ * (2 : Int) ^ min (Int.toNat (e2 y_)) (IntKind.bits .u64)))) * (4294967296 : Int)) + IntKind.wrap .u64 (↑(BitVec.toNat (BitVec.ofInt (IntKind.bits .u64) (e4 lo y_) &&& BitVec.ofInt (IntKind.bits .u64) (4294967295 : Int))) : Int)) - IntKind.wrap .u64 (v1.2.1.2 * IntKind.wrap .u64 (y_ * (2 : Int) ^ min (Int.toNat (e2 y_)) (IntKind.bits .u64))))) (e9 y_) = r.2) ∧
 True))))))))))))
   ((∃ (v1 : (Int × Int) × Nat), (Ob ((Option.bind (iter (y25 lo y_ (e5 y_)) v1.2 v1.1) fun y0 => Option.bind (y47 hi lo y_ (e5 y_) y0) some) = some r) ∧
 (Ob (v1.2 < v0.2) ∧
 (Ob (IntKind.wrap .u64 (y_ * (2 : Int) ^ min (Int.toNat (e2 y_)) (IntKind.bits .u64)) = IntKind.wrap .u64 (y_ * (2 : Int) ^ min (Int.toNat (e2 y_)) (IntKind.bits .u64))) ∧
 (Ob (IntKind.wrap .u64 (e5 y_) = IntKind.wrap .u64 (e5 y_)) ∧
 (Ob (Int.fdiv (e1 y_) (e3 ) = Int.fdiv (e1 y_) (e3 )) ∧
 (Ob (IntKind.wrap .u64 (↑(BitVec.toNat (BitVec.ofInt (IntKind.bits .u64) (e1 y_) &&& BitVec.ofInt (IntKind.bits .u64) (4294967295 : Int))) : Int) = IntKind.wrap .u64 (↑(BitVec.toNat (BitVec.ofInt (IntKind.bits .u64) (e1 y_) &&& BitVec.ofInt (IntKind.bits .u64) (4294967295 : Int))) : Int)) ∧
 (Ob (IntKind.wrap .u64 (↑(BitVec.toNat (BitVec.ofInt (IntKind.bits .u64) (e7 hi y_) ||| BitVec.ofInt (IntKind.bits .u64) (e6 lo y_))) : Int) = IntKind.wrap .u64 (↑(BitVec.toNat (BitVec.ofInt (IntKind.bits .u64) (e7 hi y_) ||| BitVec.ofInt (IntKind.bits .u64) (e6 lo y_))) : Int)) ∧
 (Ob (Int.fdiv (e4 lo y_) (e3 ) = Int.fdiv (e4 lo y_) (e3 )) ∧
 (Ob (IntKind.wrap .u64 (↑(BitVec.toNat (BitVec.ofInt (IntKind.bits .u64) (e4 lo y_) &&& BitVec.ofInt (IntKind.bits .u64) (4294967295 : Int))) : Int) = IntKind.wrap .u64 (↑(BitVec.toNat (BitVec.ofInt (IntKind.bits .u64) (e4 lo y_) &&& BitVec.ofInt (IntKind.bits .u64) (4294967295 : Int))) : Int)) ∧
 (Ob (IntKind.wrap .u64 (v0.1.1 - (1 : Int)) = v1.1.1) ∧
 (Ob (IntKind.wrap .u64 (v0.1.2 + Int.fdiv (e1 y_) (e3 )) = v1.1.2) ∧
 True))))))))))))))
 (Br (decide (IntKind.wrap .u64 (v0.1.1 * IntKind.wrap .u64 (↑(BitVec.toNat (BitVec.ofInt (IntKind.bits .u64) (e1 y_) &&& BitVec.ofInt (IntKind.bits .u64) (4294967295 : Int))) : Int)) > IntKind.wrap .u64 (IntKind.wrap .u64 ((4294967296 : Int) * v0.1.2) + Int.fdiv (e4 lo y_) (e3 ))))
 (Br (decide (IntKind.wrap .u64 (v0.1.2 + Int.fdiv (e1 y_) (e3 )) ≥ (4294967296 : Int)))
   ((Ob (Int.fdiv (e1 y_) (e3 ) ≠ (0 : Int)) ∧
   ((∃ (v1 : Int × (Int × Int) × Nat), (Ob ((Option.bind (iter (y11 lo y_ (e5 y_)) v1.2.2 v1.2.1) fun y0 => Option.bind (y12 hi lo y_ v1.1 (e5 y_) y0) some) = some r) ∧
 (Ob (IntKind.wrap .u64 (y_ * (2 : Int) ^ min (Int.toNat (e2 y_)) (IntKind.bits .u64)) = IntKind.wrap .u64 (y_ * (2 : Int) ^ min (Int.toNat (e2 y_)) (IntKind.bits .u64))) ∧
 (Ob (IntKind.wrap .u64 (e5 y_) = IntKind.wrap .u64 (e5 y_)) ∧
 (Ob (Int.fdiv (e1 y_) (e3 ) = Int.fdiv (e1 y_) (e3 )) ∧
 (Ob (IntKind.wrap .u64 (↑(BitVec.toNat (BitVec.ofInt (IntKind.bits .u64) (e1 y_) &&& BitVec.ofInt (IntKind.bits .u64) (4294967295 : Int))) : Int) = IntKind.wrap .u64 (↑(BitVec.toNat (BitVec.ofInt (IntKind.bits .u64) (e1 y_) &&& BitVec.ofInt (IntKind.bits .u64) (4294967295 : Int))) : Int)) ∧
 (Ob (IntKind.wrap .u64 (↑(BitVec.toNat (BitVec.ofInt (IntKind.bits .u64) (e4 lo y_) &&& BitVec.ofInt (IntKind.bits .u64) (4294967295 : Int))) : Int) = IntKind.wrap .u64 (↑(BitVec.toNat (BitVec.ofInt (IntKind.bits .u64) (e4 lo y_) &&& BitVec.ofInt (IntKind.bits .u64) (4294967295 : Int))) : Int)) ∧
 (Ob (IntKind.wrap .u64 (v0.1.1 - (1 : Int)) = v1.1) ∧
 (Ob (IntKind.wrap .u64 (IntKind.wrap .u64 (IntKind.wrap .u64 (e0 hi lo y_) - IntKind.wrap .u64 (IntKind.wrap .u64 (v0.1.1 - (1 : Int)) * IntKind.wrap .u64 (y_ * (2 : Int) ^ min (Int.toNat (e2 y_)) (IntKind.bits .u64)))) - IntKind.wrap .u64 (IntKind.wrap .u64 (Int.tdiv (IntKind.wrap .u64 (IntKind.wrap .u64 (e0 hi lo y_) - IntKind.wrap .u64 (IntKind.wrap .u64 (v0.1.1 - (1 : Int)) * IntKind.wrap .u64 (y_ * (2 : Int) ^ min (Int.toNat (e2 y_)) (IntKind.bits .u64))))) (Int.fdiv (e1 y_) (e3 ))) * Int.fdiv (e1 y_) (e3 ))) = v1.2.1.1) ∧
 (Ob (IntKind.wrap .u64 (IntKind.wrap .u64 (e0 hi lo y_) - IntKind.wrap .u64 (IntKind.wrap .u64 (v0.1.1 - (1 : Int)) * IntKind.wrap .u64 (y_ * (2 : Int) ^ min (Int.toNat (e2 y_)) (IntKind.bits .u64)))) = IntKind.wrap .u64 (IntKind.wrap .u64 (e0 hi lo y_) - IntKind.wrap .u64 (v1.1 * IntKind.wrap .u64 (y_ * (2 : Int) ^ min (Int.toNat (e2 y_)) (IntKind.bits .u64))))) ∧
 (Ob (IntKind.wrap .u64 (Int.tdiv (IntKind.wrap .u64 (IntKind.wrap .u64 (e0 hi lo y_) - IntKind.wrap .u64 (IntKind.wrap .u64 (v0.1.1 - (1 : Int)) * IntKind.wrap .u64 (y_ * (2 : Int) ^ min (Int.toNat (e2 y_)) (IntKind.bits .u64))))) (Int.fdiv (e1 y_) (e3 ))) = v1.2.1.2) ∧
 True))))))))))) ∧
   (∀ (v1 : Int × (Int × Int) × Nat), ((Option.bind (iter (y11 lo y_ (e5 y_)) v1.2.2 v1.2.1) fun y0 => Option.bind (y12 hi lo y_ v1.1 (e5 y_) y0) some) = some r →
 Br (decide (v1.2.1.2 ≥ (4294967296 : Int)))
 (Br (decide (IntKind.wrap .u64 (v1.2.1.1 + Int.fdiv (e1 y_) (e3 )) ≥ (4294967296 : Int)))
   ((Ob ((0 : Int) ≤ IntKind.wrap .u64 (e5 y_)) ∧
 (Ob (True) ∧
 (Ob (True) ∧
 (Ob (IntKind.wrap .u64 (IntKind.wrap .u64 (v1.1 * (4294967296 : Int)) + IntKind.wrap .u64 (v1.2.1.2 - (1 : Int))) = r.1) ∧
 (Ob (Int.fdiv (IntKind.wrap .u64 (IntKind.wrap .u64 (IntKind.wrap .u64 (IntKind.wrap .u64 (IntKind.wrap .u64 (e0 hi lo y_) - IntKind.wrap .u64 (v1.1 * IntKind.wrap .u64 (y_ * (2 : Int) ^ min (Int.toNat (e2 y_)) (IntKind.bits .u64)))) * (4294967296 : Int)) + IntKind.wrap .u64 (↑(BitVec.toNat (BitVec.ofInt (IntKind.bits .u64) (e4 lo y_) &&& BitVec.ofInt (IntKind.bits .u64) (4294967295 : Int))) : Int)) - IntKind.wrap .u64 (IntKind.wrap .u64 (v1.2.1.2 - (1 : Int)) * IntKind.wrap .u64 (y_ * (2 : Int) ^ min (Int.toNat (e2 y_)) (IntKind.bits .u64))))) (e9 y_) = r.2) ∧
 True))))))
   ((∃ (v2 : Int × (Int × Int) × Nat), (Ob ((Option.bind (iter (y11 lo y_ (e5 y_)) v2.2.2 v2.2.1) fun y0 => Option.bind (y12 hi lo y_ v2.1 (e5 y_) y0) some) = some r) ∧
 (Ob (v2.2.2 < v1.2.2) ∧
 (Ob (IntKind.wrap .u64 (y_ * (2 : Int) ^ min (Int.toNat (e2 y_)) (IntKind.bits .u64)) = IntKind.wrap .u64 (y_ * (2 : Int) ^ min (Int.toNat (e2 y_)) (IntKind.bits .u64))) ∧
 (Ob (IntKind.wrap .u64 (e5 y_) = IntKind.wrap .u64 (e5 y_)) ∧
 (Ob (Int.fdiv (e1 y_) (e3 ) = Int.fdiv (e1 y_) (e3 )) ∧
 (Ob (IntKind.wrap .u64 (↑(BitVec.toNat (BitVec.ofInt (IntKind.bits .u64) (e1 y_) &&& BitVec.ofInt (IntKind.bits .u64) (4294967295 : Int))) : Int) = IntKind.wrap .u64 (↑(BitVec.toNat (BitVec.ofInt (IntKind.bits .u64) (e1 y_) &&& BitVec.ofInt (IntKind.bits .u64) (4294967295 : Int))) : Int)) ∧
 (Ob (IntKind.wrap .u64 (↑(BitVec.toNat (BitVec.ofInt (IntKind.bits .u64) (e4 lo y_) &&& BitVec.ofInt (IntKind.bits .u64) (4294967295 : Int))) : Int) = IntKind.wrap .u64 (↑(BitVec.toNat (BitVec.ofInt (IntKind.bits .u64) (e4 lo y_) &&& BitVec.ofInt (IntKind.bits .u64) (4294967295 : Int))) : Int)) ∧
 (Ob (v1.1 = v2.1) ∧
 (Ob (IntKind.wrap .u64 (v1.2.1.1 + Int.fdiv (e1 y_) (e3 )) = v2.2.1.1) ∧
 (Ob (IntKind.wrap .u64 (IntKind.wrap .u64 (e0 hi lo y_) - IntKind.wrap .u64 (v1.1 * IntKind.wrap .u64 (y_ * (2 : Int) ^ min (Int.toNat (e2 y_)) (IntKind.bits .u64)))) = IntKind.wrap .u64 (IntKind.wrap .u64 (e0 hi lo y_) - IntKind.wrap .u64 (v2.1 * IntKind.wrap .u64 (y_ * (2 : Int) ^ min (Int.toNat (e2 y_)) (IntKind.bits .u64))))) ∧
 (Ob (IntKind.wrap .u64 (v1.2.1.2 - (1 : Int)) = v2.2.1.2) ∧
 True))))))))))))))
 (Br (decide (IntKind.wrap .u64 (v1.2.1.2 * IntKind.wrap .u64 (↑(BitVec.toNat (BitVec.ofInt (IntKind.bits .u64) (e1 y_) &&& BitVec.ofInt (IntKind.bits .u64) (4294967295 : Int))) : Int)) > IntKind.wrap .u64 (IntKind.wrap .u64 ((4294967296 : Int) * v1.2.1.1) + IntKind.wrap .u64 (↑(BitVec.toNat (BitVec.ofInt (IntKind.bits .u64) (e4 lo y_) &&& BitVec.ofInt (IntKind.bits .u64) (4294967295 : Int))) : Int))))
 (Br (decide (IntKind.wrap .u64 (v1.2.1.1 + Int.fdiv (e1 y_) (e3 )) ≥ (4294967296 : Int)))
   ((Ob ((0 : Int) ≤ IntKind.wrap .u64 (e5 y_)) ∧
 (Ob (True) ∧
 (Ob (True) ∧
 (Ob (IntKind.wrap .u64 (IntKind.wrap .u64 (v1.1 * (4294967296 : Int)) + IntKind.wrap .u64 (v1.2.1.2 - (1 : Int))) = r.1) ∧
 (Ob (Int.fdiv (IntKind.wrap .u64 (IntKind.wrap .u64 (IntKind.wrap .u64 (IntKind.wrap .u64 (IntKind.wrap .u64 (e0 hi lo y_) - IntKind.wrap .u64 (v1.1 * IntKind.wrap .u64 (y_ * (2 : Int) ^ min (Int.toNat (e2 y_)) (IntKind.bits .u64)))) * (4294967296 : Int)) + IntKind.wrap .u64 (↑(BitVec.toNat (BitVec.ofInt (IntKind.bits .u64) (e4 lo y_) &&& BitVec.ofInt (IntKind.bits .u64) (4294967295 : Int))) : Int)) - IntKind.wrap .u64 (IntKind.wrap .u64 (v1.2.1.2 - (1 : Int)) * IntKind.wrap .u64 (y_ * (2 : Int) ^ min (Int.toNat (e2 y_)) (IntKind.bits .u64))))) (e9 y_) = r.2) ∧
 True))))))
   ((∃ (v2 : Int × (Int × Int) × Nat), (Ob ((Option.bind (iter (y11 lo y_ (e5 y_)) v2.2.2 v2.2.1) fun y0 => Option.bind (y12 hi lo y_ v2.1 (e5 y_) y0) some) = some r) ∧
 (Ob (v2.2.2 < v1.2.2) ∧
 (Ob (IntKind.wrap .u64 (y_ * (2 : Int) ^ min (Int.toNat (e2 y_)) (IntKind.bits .u64)) = IntKind.wrap .u64 (y_ * (2 : Int) ^ min (Int.toNat (e2 y_)) (IntKind.bits .u64))) ∧
 (Ob (IntKind.wrap .u64 (e5 y_) = IntKind.wrap .u64 (e5 y_)) ∧
 (Ob (Int.fdiv (e1 y_) (e3 ) = Int.fdiv (e1 y_) (e3 )) ∧
 (Ob (IntKind.wrap .u64 (↑(BitVec.toNat (BitVec.ofInt (IntKind.bits .u64) (e1 y_) &&& BitVec.ofInt (IntKind.bits .u64) (4294967295 : Int))) : Int) = IntKind.wrap .u64 (↑(BitVec.toNat (BitVec.ofInt (IntKind.bits .u64) (e1 y_) &&& BitVec.ofInt (IntKind.bits .u64) (4294967295 : Int))) : Int)) ∧
 (Ob (IntKind.wrap .u64 (↑(BitVec.toNat (BitVec.ofInt (IntKind.bits .u64) (e4 lo y_) &&& BitVec.ofInt (IntKind.bits .u64) (4294967295 : Int))) : Int) = IntKind.wrap .u64 (↑(BitVec.toNat (BitVec.ofInt (IntKind.bits .u64) (e4 lo y_) &&& BitVec.ofInt (IntKind.bits .u64) (4294967295 : Int))) : Int)) ∧
 (Ob (v1.1 = v2.1) ∧
 (Ob (IntKind.wrap .u64 (v1.2.1.1 + Int.fdiv (e1 y_) (e3 )) = v2.2.1.1) ∧
 (Ob (IntKind.wrap .u64 (IntKind.wrap .u64 (e0 hi lo y_) - IntKind.wrap .u64 (v1.1 * IntKind.wrap .u64 (y_ * (2 : Int) ^ min (Int.toNat (e2 y_)) (IntKind.bits .u64)))) = IntKind.wrap .u64 (IntKind.wrap .u64 (e0 hi lo y_) - IntKind.wrap .u64 (v2.1 * IntKind.wrap .u64 (y_ * (2 : Int) ^ min (Int.toNat (e2 y_)) (IntKind.bits .u64))))) ∧
 (Ob (IntKind.wrap .u64 (v1.2.1.2 - (1 : Int)) = v2.2.1.2) ∧
 True))))))))))))))
   ((Ob ((0 : Int) ≤ IntKind.wrap .u64 (e5 y_)) ∧
 (Ob (True) ∧
 (Ob (True) ∧
 (Ob (IntKind.wrap .u64 (IntKind.wrap .u64 (v1.1 * (4294967296 : Int)) + v1.2.1.2) = r.1) ∧
 (Ob (Int.fdiv (IntKind.wrap .u64 (IntKind.wrap .u64 (IntKind.wrap .u64 (IntKind.wrap .u64 (IntKind.wrap .u64 (e0 hi lo y_) - IntKind.wrap .u64 (v1.1 * IntKind.wrap .u64 (y_ * (2 : Int) ^ min (Int.toNat (e2 y_)) (IntKind.bits .u64)))) * (4294967296 : Int)) + IntKind.wrap .u64 (↑(BitVec.toNat (BitVec.ofInt (IntKind.bits .u64) (e4 lo y_) &&& BitVec.ofInt (IntKind.bits .u64) (4294967295 : Int))) : Int)) - IntKind.wrap .u64 (v1.2.1.2 * IntKind.wrap .u64 (y_ * (2 : Int) ^ min (Int.toNat (e2 y_)) (IntKind.bits .u64))))) (e9 y_) = r.2) ∧
 True))))))))))))
   ((∃ (v1 : (Int × Int) × Nat), (Ob ((Option.bind (iter (y25 lo y_ (e5 y_)) v1.2 v1.1) fun y0 => Option.bind (y47 hi lo y_ (e5 y_) y0) some) = some r) ∧
 (Ob (v1.2 < v0.2) ∧
 (Ob (IntKind.wrap .u64 (y_ * (2 : Int) ^ min (Int.toNat (e2 y_)) (IntKind.bits .u64)) = IntKind.wrap .u64 (y_ * (2 : Int) ^ min (Int.toNat (e2 y_)) (IntKind.bits .u64))) ∧
 (Ob (IntKind.wrap .u64 (e5 y_) = IntKind.wrap .u64 (e5 y_)) ∧
 (Ob (Int.fdiv (e1 y_) (e3 ) = Int.fdiv (e1 y_) (e3 )) ∧
 (Ob (IntKind.wrap .u64 (↑(BitVec.toNat (BitVec.ofInt (IntKind.bits .u64) (e1 y_) &&& BitVec.ofInt (IntKind.bits .u64) (4294967295 : Int))) : Int) = IntKind.wrap .u64 (↑(BitVec.toNat (BitVec.ofInt (IntKind.bits .u64) (e1 y_) &&& BitVec.ofInt (IntKind.bits .u64) (4294967295 : Int))) : Int)) ∧
 (Ob (IntKind.wrap .u64 (↑(BitVec.toNat (BitVec.ofInt (IntKind.bits .u64) (e7 hi y_) ||| BitVec.ofInt (IntKind.bits .u64) (e6 lo y_))) : Int) = IntKind.wrap .u64 (↑(BitVec.toNat (BitVec.ofInt (IntKind.bits .u64) (e7 hi y_) ||| BitVec.ofInt (IntKind.bits .u64) (e6 lo y_))) : Int)) ∧
 (Ob (Int.fdiv (e4 lo y_) (e3 ) = Int.fdiv (e4 lo y_) (e3 )) ∧
 (Ob (IntKind.wrap .u64 (↑(BitVec.toNat (BitVec.ofInt (IntKind.bits .u64) (e4 lo y_) &&& BitVec.ofInt (IntKind.bits .u64) (4294967295 : Int))) : Int) = IntKind.wrap .u64 (↑(BitVec.toNat (BitVec.ofInt (IntKind.bits .u64) (e4 lo y_) &&& BitVec.ofInt (IntKind.bits .u64) (4294967295 : Int))) : Int)) ∧
 (Ob (IntKind.wrap .u64 (v0.1.1 - (1 : Int)) = v1.1.1) ∧
 (Ob (IntKind.wrap .u64 (v0.1.2 + Int.fdiv (e1 y_) (e3 )) = v1.1.2) ∧
 True))))))))))))))
   ((Ob (Int.fdiv (e1 y_) (e3 ) ≠ (0 : Int)) ∧
   ((∃ (v1 : Int × (Int × Int) × Nat), (Ob ((Option.bind (iter (y11 lo y_ (e5 y_)) v1.2.2 v1.2.1) fun y0 => Option.bind (y12 hi lo y_ v1.1 (e5 y_) y0) some) = some r) ∧
 (Ob (IntKind.wrap .u64 (y_ * (2 : Int) ^ min (Int.toNat (e2 y_)) (IntKind.bits .u64)) = IntKind.wrap .u64 (y_ * (2 : Int) ^ min (Int.toNat (e2 y_)) (IntKind.bits .u64))) ∧
 (Ob (IntKind.wrap .u64 (e5 y_) = IntKind.wrap .u64 (e5 y_)) ∧
 (Ob (Int.fdiv (e1 y_) (e3 ) = Int.fdiv (e1 y_) (e3 )) ∧
 (Ob (IntKind.wrap .u64 (↑(BitVec.toNat (BitVec.ofInt (IntKind.bits .u64) (e1 y_) &&& BitVec.ofInt (IntKind.bits .u64) (4294967295 : Int))) : Int) = IntKind.wrap .u64 (↑(BitVec.toNat (BitVec.ofInt (IntKind.bits .u64) (e1 y_) &&& BitVec.ofInt (IntKind.bits .u64) (4294967295 : Int))) : Int)) ∧
 (Ob (IntKind.wrap .u64 (↑(BitVec.toNat (BitVec.ofInt (IntKind.bits .u64) (e4 lo y_) &&& BitVec.ofInt (IntKind.bits .u64) (4294967295 : Int))) : Int) = IntKind.wrap .u64 (↑(BitVec.toNat (BitVec.ofInt (IntKind.bits .u64) (e4 lo y_) &&& BitVec.ofInt (IntKind.bits .u64) (4294967295 : Int))) : Int)) ∧
 (Ob (v0.1.1 = v1.1) ∧
 (Ob (IntKind.wrap .u64 (IntKind.wrap .u64 (IntKind.wrap .u64 (e0 hi lo y_) - IntKind.wrap .u64 (v0.1.1 * IntKind.wrap .u64 (y_ * (2 : Int) ^ min (Int.toNat (e2 y_)) (IntKind.bits .u64)))) - IntKind.wrap .u64 (IntKind.wrap .u64 (Int.tdiv (IntKind.wrap .u64 (IntKind.wrap .u64 (e0 hi lo y_) - IntKind.wrap .u64 (v0.1.1 * IntKind.wrap .u64 (y_ * (2 : Int) ^ min (Int.toNat (e2 y_)) (IntKind.bits .u64))))) (Int.fdiv (e1 y_) (e3 ))) * Int.fdiv (e1 y_) (e3 ))) = v1.2.1.1) ∧
 (Ob (IntKind.wrap .u64 (IntKind.wrap .u64 (e0 hi lo y_) - IntKind.wrap .u64 (v0.1.1 * IntKind.wrap .u64 (y_ * (2 : Int) ^ min (Int.toNat (e2 y_)) (IntKind.bits .u64)))) = IntKind.wrap .u64 (IntKind.wrap .u64 (e0 hi lo y_) - IntKind.wrap .u64 (v1.1 * IntKind.wrap .u64 (y_ * (2 : Int) ^ min (Int.toNat (e2 y_)) (IntKind.bits .u64))))) ∧
 (Ob (IntKind.wrap .u64 (Int.tdiv (IntKind.wrap .u64 (IntKind.wrap .u64 (e0 hi lo y_) - IntKind.wrap .u64 (v0.1.1 * IntKind.wrap .u64 (y_ * (2 : Int) ^ min (Int.toNat (e2 y_)) (IntKind.bits .u64))))) (Int.fdiv (e1 y_) (e3 ))) = v1.2.1.2) ∧
 True))))))))))) ∧
   (∀ (v1 : Int × (Int × Int) × Nat), ((Option.bind (iter (y11 lo y_ (e5 y_)) v1.2.2 v1.2.1) fun y0 => Option.bind (y12 hi lo y_ v1.1 (e5 y_) y0) some) = some r →
 Br (decide (v1.2.1.2 ≥ (4294967296 : Int)))
 (Br (decide (IntKind.wrap .u64 (v1.2.1.1 + Int.fdiv (e1 y_) (e3 )) ≥ (4294967296 : Int)))
   ((Ob ((0 : Int) ≤ IntKind.wrap .u64 (e5 y_)) ∧
 (Ob (True) ∧
 (Ob (True) ∧
 (Ob (IntKind.wrap .u64 (IntKind.wrap .u64 (v1.1 * (4294967296 : Int)) + IntKind.wrap .u64 (v1.2.1.2 - (1 : Int))) = r.1) ∧
 (Ob (Int.fdiv (IntKind.wrap .u64 (IntKind.wrap .u64 (IntKind.wrap .u64 (IntKind.wrap .u64 (IntKind.wrap .u64 (e0 hi lo y_) - IntKind.wrap .u64 (v1.1 * IntKind.wrap .u64 (y_ * (2 : Int) ^ min (Int.toNat (e2 y_)) (IntKind.bits .u64)))) * (4294967296 : Int)) + IntKind.wrap .u64 (↑(BitVec.toNat (BitVec.ofInt (IntKind.bits .u64) (e4 lo y_) &&& BitVec.ofInt (IntKind.bits .u64) (4294967295 : Int))) : Int)) - IntKind.wrap .u64 (IntKind.wrap .u64 (v1.2.1.2 - (1 : Int)) * IntKind.wrap .u64 (y_ * (2 : Int) ^ min (Int.toNat (e2 y_)) (IntKind.bits .u64))))) (e9 y_) = r.2) ∧
 True))))))
   ((∃ (v2 : Int × (Int × Int) × Nat), (Ob ((Option.bind (iter (y11 lo y_ (e5 y_)) v2.2.2 v2.2.1) fun y0 => Option.bind (y12 hi lo y_ v2.1 (e5 y_) y0) some) = some r) ∧
 (Ob (v2.2.2 < v1.2.2) ∧
 (Ob (IntKind.wrap .u64 (y_ * (2 : Int) ^ min (Int.toNat (e2 y_)) (IntKind.bits .u64)) = IntKind.wrap .u64 (y_ * (2 : Int) ^ min (Int.toNat (e2 y_)) (IntKind.bits .u64))) ∧
 (Ob (IntKind.wrap .u64 (e5 y_) = IntKind.wrap .u64 (e5 y_)) ∧
 (Ob (Int.fdiv (e1 y_) (e3 ) = Int.fdiv (e1 y_) (e3 )) ∧
 (Ob (IntKind.wrap .u64 (↑(BitVec.toNat (BitVec.ofInt (IntKind.bits .u64) (e1 y_) &&& BitVec.ofInt (IntKind.bits .u64) (4294967295 : Int))) : Int) = IntKind.wrap .u64 (↑(BitVec.toNat (BitVec.ofInt (IntKind.bits .u64) (e1 y_) &&& BitVec.ofInt (IntKind.bits .u64) (4294967295 : Int))) : Int)) ∧
 (Ob (IntKind.wrap .u64 (↑(BitVec.toNat (BitVec.ofInt (IntKind.bits .u64) (e4 lo y_) &&& BitVec.ofInt (IntKind.bits .u64) (4294967295 : Int))) : Int) = IntKind.wrap .u64 (↑(BitVec.toNat (BitVec.ofInt (IntKind.bits .u64) (e4 lo y_) &&& BitVec.ofInt (IntKind.bits .u64) (4294967295 : Int))) : Int)) ∧
 (Ob (v1.1 = v2.1) ∧
 (Ob (IntKind.wrap .u64 (v1.2.1.1 + Int.fdiv (e1 y_) (e3 )) = v2.2.1.1) ∧
 (Ob (IntKind.wrap .u64 (IntKind.wrap .u64 (e0 hi lo y_) - IntKind.wrap .u64 (v1.1 * IntKind.wrap .u64 (y_ * (2 : Int) ^ min (Int.toNat (e2 y_)) (IntKind.bits .u64)))) = IntKind.wrap .u64 (IntKind.wrap .u64 (e0 hi lo y_) - IntKind.wrap .u64 (v2.1 * IntKind.wrap .u64 (y_ * (2 : Int) ^ min (Int.toNat (e2 y_)) (IntKind.bits .u64))))) ∧
 (Ob (IntKind.wrap .u64 (v1.2.1.2 - (1 : Int)) = v2.2.1.2) ∧
 True))))))))))))))
 (Br (decide (IntKind.wrap .u64 (v1.2.1.2 * IntKind.wrap .u64 (↑(BitVec.toNat (BitVec.ofInt (IntKind.bits .u64) (e1 y_) &&& BitVec.ofInt (IntKind.bits .u64) (4294967295 : Int))) : Int)) > IntKind.wrap .u64 (IntKind.wrap .u64 ((4294967296 : Int) * v1.2.1.1) + IntKind.wrap .u64 (↑(BitVec.toNat (BitVec.ofInt (IntKind.bits .u64) (e4 lo y_) &&& BitVec.ofInt (IntKind.bits .u64) (4294967295 : Int))) : Int))))
 (Br (decide (IntKind.wrap .u64 (v1.2.1.1 + Int.fdiv (e1 y_) (e3 )) ≥ (4294967296 : Int)))
   ((Ob ((0 : Int) ≤ IntKind.wrap .u64 (e5 y_)) ∧
 (Ob (True) ∧
 (Ob (True) ∧
 (Ob (IntKind.wrap .u64 (IntKind.wrap .u64 (v1.1 * (4294967296 : Int)) + IntKind.wrap .u64 (v1.2.1.2 - (1 : Int))) = r.1) ∧
 (Ob (Int.fdiv (IntKind.wrap .u64 (IntKind.wrap .u64 (IntKind.wrap .u64 (IntKind.wrap .u64 (IntKind.wrap .u64 (e0 hi lo y_) - IntKind.wrap .u64 (v1.1 * IntKind.wrap .u64 (y_ * (2 : Int) ^ min (Int.toNat (e2 y_)) (IntKind.bits .u64)))) * (4294967296 : Int)) + IntKind.wrap .u64 (↑(BitVec.toNat (BitVec.ofInt (IntKind.bits .u64) (e4 lo y_) &&& BitVec.ofInt (IntKind.bits .u64) (4294967295 : Int))) : Int)) - IntKind.wrap .u64 (IntKind.wrap .u64 (v1.2.1.2 - (1 : Int)) * IntKind.wrap .u64 (y_ * (2 : Int) ^ min (Int.toNat (e2 y_)) (IntKind.bits .u64))))) (e9 y_) = r.2) ∧
 True))))))
   ((∃ (v2 : Int × (Int × Int) × Nat), (Ob ((Option.bind (iter (y11 lo y_ (e5 y_)) v2.2.2 v2.2.1) fun y0 => Option.bind (y12 hi lo y_ v2.1 (e5 y_) y0) some) = some r) ∧
 (Ob (v2.2.2 < v1.2.2) ∧
 (Ob (IntKind.wrap .u64 (y_ * (2 : Int) ^ min (Int.toNat (e2 y_)) (IntKind.bits .u64)) = IntKind.wrap .u64 (y_ * (2 : Int) ^ min (Int.toNat (e2 y_)) (IntKind.bits .u64))) ∧
 (Ob (IntKind.wrap .u64 (e5 y_) = IntKind.wrap .u64 (e5 y_)) ∧
 (Ob (Int.fdiv (e1 y_) (e3 ) = Int.fdiv (e1 y_) (e3 )) ∧
 (Ob (IntKind.wrap .u64 (↑(BitVec.toNat (BitVec.ofInt (IntKind.bits .u64) (e1 y_) &&& BitVec.ofInt (IntKind.bits .u64) (4294967295 : Int))) : Int) = IntKind.wrap .u64 (↑(BitVec.toNat (BitVec.ofInt (IntKind.bits .u64) (e1 y_) &&& BitVec.ofInt (IntKind.bits .u64) (4294967295 : Int))) : Int)) ∧
 (Ob (IntKind.wrap .u64 (↑(BitVec.toNat (BitVec.ofInt (IntKind.bits .u64) (e4 lo y_) &&& BitVec.ofInt (IntKind.bits .u64) (4294967295 : Int))) : Int) = IntKind.wrap .u64 (↑(BitVec.toNat (BitVec.ofInt (IntKind.bits .u64) (e4 lo y_) &&& BitVec.ofInt (IntKind.bits .u64) (4294967295 : Int))) : Int)) ∧
 (Ob (v1.1 = v2.1) ∧
 (Ob (IntKind.wrap .u64 (v1.2.1.1 + Int.fdiv (e1 y_) (e3 )) = v2.2.1.1) ∧
 (Ob (IntKind.wrap .u64 (IntKind.wrap .u64 (e0 hi lo y_) - IntKind.wrap .u64 (v1.1 * IntKind.wrap .u64 (y_ * (2 : Int) ^ min (Int.toNat (e2 y_)) (IntKind.bits .u64)))) = IntKind.wrap .u64 (IntKind.wrap .u64 (e0 hi lo y_) - IntKind.wrap .u64 (v2.1 * IntKind.wrap .u64 (y_ * (2 : Int) ^ min (Int.toNat (e2 y_)) (IntKind.bits .u64))))) ∧
 (Ob (IntKind.wrap .u64 (v1.2.1.2 - (1 : Int)) = v2.2.1.2) ∧
 True))))))))))))))
   ((Ob ((0 : Int) ≤ IntKind.wrap .u64 (e5 y_)) ∧
 (Ob (True) ∧
 (Ob (True) ∧
 (Ob (IntKind.wrap .u64 (IntKind.wrap .u64 (v1.1 * (4294967296 : Int)) + v1.2.1.2) = r.1) ∧
 (Ob (Int.fdiv (IntKind.wrap .u64 (IntKind.wrap .u64 (IntKind.wrap .u64 (IntKind.wrap .u64 (IntKind.wrap .u64 (e0 hi lo y_) - IntKind.wrap .u64 (v1.1 * IntKind.wrap .u64 (y_ * (2 : Int) ^ min (Int.toNat (e2 y_)) (IntKind.bits .u64)))) * (4294967296 : Int)) + IntKind.wrap .u64 (↑(BitVec.toNat (BitVec.ofInt (IntKind.bits .u64) (e4 lo y_) &&& BitVec.ofInt (IntKind.bits .u64) (4294967295 : Int))) : Int)) - IntKind.wrap .u64 (v1.2.1.2 * IntKind.wrap .u64 (y_ * (2 : Int) ^ min (Int.toNat (e2 y_)) (IntKind.bits .u64))))) (e9 y_) = r.2) ∧
 True))))))))))))))))))))))))))))) = _) ?_
  refine br_b h (fun h => ?_) (fun h => ?_)
  · exact nomatch h
  · refine br_d h (fun h => ?_) (fun h => ?_)
    · exact nomatch h
    · refine br_b h (fun h => ?_) (fun h => ?_)
      · refine ob_s h fun h => ?_
        refine ob_s h fun h => ?_
        refine ob_t ?_
        refine ob_t ?_
        exact ret_s h (fun e => by subst e; exact (by repeat' (first | exact trivial | exact ⟨rfl⟩ | refine And.intro ?_ ?_)))
      · refine call_s h fun h => ?_
        refine ob_t ?_
        refine ob_s h fun h => ?_
        refine ob_c (p := (0 : Int) ≤ (32 : Int)) (by decide) ?_
        refine ob_s h fun h => ?_
        refine ob_s h fun h => ?_
        refine ob_s h fun h => ?_
        refine ob_c (p := (0 : Int) ≤ (32 : Int)) (by decide) ?_
        refine ob_s h fun h => ?_
        refine ⟨⟨((IntKind.wrap .u64 (Int.tdiv (e8 hi lo y_) (Int.fdiv (e1 y_) (e3 ))), IntKind.wrap .u64 (IntKind.wrap .u64 (↑(BitVec.toNat (BitVec.ofInt (IntKind.bits .u64) (e7 hi y_) ||| BitVec.ofInt (IntKind.bits .u64) (e6 lo y_))) : Int) - IntKind.wrap .u64 (IntKind.wrap .u64 (Int.tdiv (e8 hi lo y_) (Int.fdiv (e1 y_) (e3 ))) * Int.fdiv (e1 y_) (e3 )))), big), ⟨loop_s h⟩, (by repeat' (first | exact trivial | exact ⟨rfl⟩ | refine And.intro ?_ ?_))⟩, fun z1 hz1 => ?_⟩
        obtain ⟨k1, hm1, h⟩ := iter_pos hz1
        refine br_d h (fun h => ?_) (fun h => ?_)
        · refine br_d h (fun h => ?_) (fun h => ?_)
          · have h := exit_s h
            refine ob_s h fun h => ?_
            refine ⟨⟨(IntKind.wrap .u64 ((Prod.fst z1).1 - (1 : Int)), (IntKind.wrap .u64 (IntKind.wrap .u64 (IntKind.wrap .u64 (e0 hi lo y_) - IntKind.wrap .u64 (IntKind.wrap .u64 ((Prod.fst z1).1 - (1 : Int)) * IntKind.wrap .u64 (y_ * (2 : Int) ^ min (Int.toNat (e2 y_)) (IntKind.bits .u64)))) - IntKind.wrap .u64 (IntKind.wrap .u64 (Int.tdiv (IntKind.wrap .u64 (IntKind.wrap .u64 (e0 hi lo y_) - IntKind.wrap .u64 (IntKind.wrap .u64 ((Prod.fst z1).1 - (1 : Int)) * IntKind.wrap .u64 (y_ * (2 : Int) ^ min (Int.toNat (e2 y_)) (IntKind.bits .u64))))) (Int.fdiv (e1 y_) (e3 ))) * Int.fdiv (e1 y_) (e3 ))), IntKind.wrap .u64 (Int.tdiv (IntKind.wrap .u64 (IntKind.wrap .u64 (e0 hi lo y_) - IntKind.wrap .u64 (IntKind.wrap .u64 ((Prod.fst z1).1 - (1 : Int)) * IntKind.wrap .u64 (y_ * (2 : Int) ^ min (Int.toNat (e2 y_)) (IntKind.bits .u64))))) (Int.fdiv (e1 y_) (e3 )))), big), ⟨loop_s h⟩, (by repeat' (first | exact trivial | exact ⟨rfl⟩ | refine And.intro ?_ ?_))⟩, fun z2 hz2 => ?_⟩
            obtain ⟨k2, hm2, h⟩ := iter_pos hz2
            refine br_d h (fun h => ?_) (fun h => ?_)
            · refine br_d h (fun h => ?_) (fun h => ?_)
              · have h := exit_s h
                refine ob_s h fun h => ?_
                refine ob_t ?_
                refine ob_t ?_
                exact ret_s h (fun e => by subst e; exact (by repeat' (first | exact trivial | exact ⟨rfl⟩ | refine And.intro ?_ ?_)))
              · exact ⟨(Prod.fst z2, (IntKind.wrap .u64 ((Prod.fst (Prod.snd z2)).1 + Int.fdiv (e1 y_) (e3 )), IntKind.wrap .u64 ((Prod.fst (Prod.snd z2)).2 - (1 : Int))), k2), ⟨next_s h⟩, ⟨lt_gs hm2.symm⟩, (by repeat' (first | exact trivial | exact ⟨rfl⟩ | refine And.intro ?_ ?_))⟩
            · refine br_d h (fun h => ?_) (fun h => ?_)
              · refine br_d h (fun h => ?_) (fun h => ?_)
                · have h := exit_s h
                  refine ob_s h fun h => ?_
                  refine ob_t ?_
                  refine ob_t ?_
                  exact ret_s h (fun e => by subst e; exact (by repeat' (first | exact trivial | exact ⟨rfl⟩ | refine And.intro ?_ ?_)))
                · exact ⟨(Prod.fst z2, (IntKind.wrap .u64 ((Prod.fst (Prod.snd z2)).1 + Int.fdiv (e1 y_) (e3 )), IntKind.wrap .u64 ((Prod.fst (Prod.snd z2)).2 - (1 : Int))), k2), ⟨next_s h⟩, ⟨lt_gs hm2.symm⟩, (by repeat' (first | exact trivial | exact ⟨rfl⟩ | refine And.intro ?_ ?_))⟩
              · have h := exit_s h
                refine ob_s h fun h => ?_
                refine ob_t ?_
                refine ob_t ?_
                exact ret_s h (fun e => by subst e; exact (by repeat' (first | exact trivial | exact ⟨rfl⟩ | refine And.intro ?_ ?_)))
          · exact ⟨((IntKind.wrap .u64 ((Prod.fst z1).1 - (1 : Int)), IntKind.wrap .u64 ((Prod.fst z1).2 + Int.fdiv (e1 y_) (e3 ))), k1), ⟨next_s h⟩, ⟨lt_gs hm1.symm⟩, (by repeat' (first | exact trivial | exact ⟨rfl⟩ | refine And.intro ?_ ?_))⟩
        · refine br_d h (fun h => ?_) (fun h => ?_)
          · refine br_d h (fun h => ?_) (fun h => ?_)
            · have h := exit_s h
              refine ob_s h fun h => ?_
              refine ⟨⟨(IntKind.wrap .u64 ((Prod.fst z1).1 - (1 : Int)), (IntKind.wrap .u64 (IntKind.wrap .u64 (IntKind.wrap .u64 (e0 hi lo y_) - IntKind.wrap .u64 (IntKind.wrap .u64 ((Prod.fst z1).1 - (1 : Int)) * IntKind.wrap .u64 (y_ * (2 : Int) ^ min (Int.toNat (e2 y_)) (IntKind.bits .u64)))) - IntKind.wrap .u64 (IntKind.wrap .u64 (Int.tdiv (IntKind.wrap .u64 (IntKind.wrap .u64 (e0 hi lo y_) - IntKind.wrap .u64 (IntKind.wrap .u64 ((Prod.fst z1).1 - (1 : Int)) * IntKind.wrap .u64 (y_ * (2 : Int) ^ min (Int.toNat (e2 y_)) (IntKind.bits .u64))))) (Int.fdiv (e1 y_) (e3 ))) * Int.fdiv (e1 y_) (e3 ))), IntKind.wrap .u64 (Int.tdiv (IntKind.wrap .u64 (IntKind.wrap .u64 (e0 hi lo y_) - IntKind.wrap .u64 (IntKind.wrap .u64 ((Prod.fst z1).1 - (1 : Int)) * IntKind.wrap .u64 (y_ * (2 : Int) ^ min (Int.toNat (e2 y_)) (IntKind.bits .u64))))) (Int.fdiv (e1 y_) (e3 )))), big), ⟨loop_s h⟩, (by repeat' (first | exact trivial | exact ⟨rfl⟩ | refine And.intro ?_ ?_))⟩, fun z3 hz3 => ?_⟩
              obtain ⟨k3, hm3, h⟩ := iter_pos hz3
              refine br_d h (fun h => ?_) (fun h => ?_)
              · refine br_d h (fun h => ?_) (fun h => ?_)
                · have h := exit_s h
                  refine ob_s h fun h => ?_
                  refine ob_t ?_
                  refine ob_t ?_
                  exact ret_s h (fun e => by subst e; exact (by repeat' (first | exact trivial | exact ⟨rfl⟩ | refine And.intro ?_ ?_)))
                · exact ⟨(Prod.fst z3, (IntKind.wrap .u64 ((Prod.fst (Prod.snd z3)).1 + Int.fdiv (e1 y_) (e3 )), IntKind.wrap .u64 ((Prod.fst (Prod.snd z3)).2 - (1 : Int))), k3), ⟨next_s h⟩, ⟨lt_gs hm3.symm⟩, (by repeat' (first | exact trivial | exact ⟨rfl⟩ | refine And.intro ?_ ?_))⟩
              · refine br_d h (fun h => ?_) (fun h => ?_)
                · refine br_d h (fun h => ?_) (fun h => ?_)
                  · have h := exit_s h
                    refine ob_s h fun h => ?_
                    refine ob_t ?_
                    refine ob_t ?_
                    exact ret_s h (fun e => by subst e; exact (by repeat' (first | exact trivial | exact ⟨rfl⟩ | refine And.intro ?_ ?_)))
                  · exact ⟨(Prod.fst z3, (IntKind.wrap .u64 ((Prod.fst (Prod.snd z3)).1 + Int.fdiv (e1 y_) (e3 )), IntKind.wrap .u64 ((Prod.fst (Prod.snd z3)).2 - (1 : Int))), k3), ⟨next_s h⟩, ⟨lt_gs hm3.symm⟩, (by repeat' (first | exact trivial | exact ⟨rfl⟩ | refine And.intro ?_ ?_))⟩
                · have h := exit_s h
                  refine ob_s h fun h => ?_
                  refine ob_t ?_
                  refine ob_t ?_
                  exact ret_s h (fun e => by subst e; exact (by repeat' (first | exact trivial | exact ⟨rfl⟩ | refine And.intro ?_ ?_)))
            · exact ⟨((IntKind.wrap .u64 ((Prod.fst z1).1 - (1 : Int)), IntKind.wrap .u64 ((Prod.fst z1).2 + Int.fdiv (e1 y_) (e3 ))), k1), ⟨next_s h⟩, ⟨lt_gs hm1.symm⟩, (by repeat' (first | exact trivial | exact ⟨rfl⟩ | refine And.intro ?_ ?_))⟩
          · have h := exit_s h
            refine ob_s h fun h => ?_
            refine ⟨⟨((Prod.fst z1).1, (IntKind.wrap .u64 (IntKind.wrap .u64 (IntKind.wrap .u64 (e0 hi lo y_) - IntKind.wrap .u64 ((Prod.fst z1).1 * IntKind.wrap .u64 (y_ * (2 : Int) ^ min (Int.toNat (e2 y_)) (IntKind.bits .u64)))) - IntKind.wrap .u64 (IntKind.wrap .u64 (Int.tdiv (IntKind.wrap .u64 (IntKind.wrap .u64 (e0 hi lo y_) - IntKind.wrap .u64 ((Prod.fst z1).1 * IntKind.wrap .u64 (y_ * (2 : Int) ^ min (Int.toNat (e2 y_)) (IntKind.bits .u64))))) (Int.fdiv (e1 y_) (e3 ))) * Int.fdiv (e1 y_) (e3 ))), IntKind.wrap .u64 (Int.tdiv (IntKind.wrap .u64 (IntKind.wrap .u64 (e0 hi lo y_) - IntKind.wrap .u64 ((Prod.fst z1).1 * IntKind.wrap .u64 (y_ * (2 : Int) ^ min (Int.toNat (e2 y_)) (IntKind.bits .u64))))) (Int.fdiv (e1 y_) (e3 )))), big), ⟨loop_s h⟩, (by repeat' (first | exact trivial | exact ⟨rfl⟩ | refine And.intro ?_ ?_))⟩, fun z4 hz4 => ?_⟩
            obtain ⟨k4, hm4, h⟩ := iter_pos hz4
            refine br_d h (fun h => ?_) (fun h => ?_)
            · refine br_d h (fun h => ?_) (fun h => ?_)
              · have h := exit_s h
                refine ob_s h fun h => ?_
                refine ob_t ?_
                refine ob_t ?_
                exact ret_s h (fun e => by subst e; exact (by repeat' (first | exact trivial | exact ⟨rfl⟩ | refine And.intro ?_ ?_)))
              · exact ⟨(Prod.fst z4, (IntKind.wrap .u64 ((Prod.fst (Prod.snd z4)).1 + Int.fdiv (e1 y_) (e3 )), IntKind.wrap .u64 ((Prod.fst (Prod.snd z4)).2 - (1 : Int))), k4), ⟨next_s h⟩, ⟨lt_gs hm4.symm⟩, (by repeat' (first | exact trivial | exact ⟨rfl⟩ | refine And.intro ?_ ?_))⟩
            · refine br_d h (fun h => ?_) (fun h => ?_)
              · refine br_d h (fun h => ?_) (fun h => ?_)
                · have h := exit_s h
                  refine ob_s h fun h => ?_
                  refine ob_t ?_
                  refine ob_t ?_
                  exact ret_s h (fun e => by subst e; exact (by repeat' (first | exact trivial | exact ⟨rfl⟩ | refine And.intro ?_ ?_)))
                · exact ⟨(Prod.fst z4, (IntKind.wrap .u64 ((Prod.fst (Prod.snd z4)).1 + Int.fdiv (e1 y_) (e3 )), IntKind.wrap .u64 ((Prod.fst (Prod.snd z4)).2 - (1 : Int))), k4), ⟨next_s h⟩, ⟨lt_gs hm4.symm⟩, (by repeat' (first | exact trivial | exact ⟨rfl⟩ | refine And.intro ?_ ?_))⟩
              · have h := exit_s h
                refine ob_s h fun h => ?_
                refine ob_t ?_
                refine ob_t ?_
                exact ret_s h (fun e => by subst e; exact (by repeat' (first | exact trivial | exact ⟨rfl⟩ | refine And.intro ?_ ?_)))
set_option maxRecDepth 100000 in
theorem math_bits_Div64_ok : SpecOK Tryz.prog 127 true (pureK k_math_bits_Div64 y131) := by
  refine pureK_ok (sp := (sp_150 sp0)) (fn := Tryz.f127) (body := bodyOf Tryz.f127) mixed (sp_150_ok sp0_ok) Tryz.func127 (by kernel_rfl) (by kernel_rfl) fun as_ ob rs h ho => ?_
  unfold y131 at h
  split at h
  · rename_i hi lo y_
    cases h
    exact ⟨Nat.le_of_ble_eq_true rfl, _, _, math_bits_Div64_vc hi lo y_ _ (ok_some ho)⟩
  · cases h
theorem sp_127_ok {sp : Specs} (h : SpecsOK Tryz.prog sp) : SpecsOK Tryz.prog (sp_127 sp) := addK_ok math_bits_Div64_ok h
def y118 : List SV := [.c (.d), .c (.d), .c (.p [.p [.d, .r (.floats .f32 []), .d, .d, .r (.recs 2 []), .r (.recs 2 [])]])]
def y13 (u66 : Int) (u67 : Int) (u18 : Int) (u19 : List Nat) (u20 : Int) (u21 : Int) (u22 : List (List Int)) (u23 : List (List Int)) : Option (Int × Bool) :=
  Option.bind (y6 (IntKind.wrap .u64 u66) (1000000 : Int)) fun r0 =>
  Option.bind (y35 (IntKind.wrap .u64 (IntKind.wrap .u64 (IntKind.wrap .u64 (Int.fdiv (IntKind.wrap .u64 u66) ((2 : Int) ^ min (32 : Nat) (IntKind.bits .u64)) * Int.fdiv (1000000 : Int) ((2 : Int) ^ min (32 : Nat) (IntKind.bits .u64))) + Int.fdiv (IntKind.wrap .u64 (IntKind.wrap .u64 (Int.fdiv (IntKind.wrap .u64 u66) ((2 : Int) ^ min (32 : Nat) (IntKind.bits .u64)) * IntKind.wrap .u64 (↑(BitVec.toNat (BitVec.ofInt (IntKind.bits .u64) (1000000 : Int) &&& BitVec.ofInt (IntKind.bits .u64) (4294967295 : Int))) : Int)) + Int.fdiv (IntKind.wrap .u64 (IntKind.wrap .u64 (↑(BitVec.toNat (BitVec.ofInt (IntKind.bits .u64) (IntKind.wrap .u64 u66) &&& BitVec.ofInt (IntKind.bits .u64) (4294967295 : Int))) : Int) * IntKind.wrap .u64 (↑(BitVec.toNat (BitVec.ofInt (IntKind.bits .u64) (1000000 : Int) &&& BitVec.ofInt (IntKind.bits .u64) (4294967295 : Int))) : Int))) ((2 : Int) ^ min (32 : Nat) (IntKind.bits .u64)))) ((2 : Int) ^ min (32 : Nat) (IntKind.bits .u64))) + Int.fdiv (IntKind.wrap .u64 (IntKind.wrap .u64 (↑(BitVec.toNat (BitVec.ofInt (IntKind.bits .u64) (IntKind.wrap .u64 (IntKind.wrap .u64 (Int.fdiv (IntKind.wrap .u64 u66) ((2 : Int) ^ min (32 : Nat) (IntKind.bits .u64)) * IntKind.wrap .u64 (↑(BitVec.toNat (BitVec.ofInt (IntKind.bits .u64) (1000000 : Int) &&& BitVec.ofInt (IntKind.bits .u64) (4294967295 : Int))) : Int)) + Int.fdiv (IntKind.wrap .u64 (IntKind.wrap .u64 (↑(BitVec.toNat (BitVec.ofInt (IntKind.bits .u64) (IntKind.wrap .u64 u66) &&& BitVec.ofInt (IntKind.bits .u64) (4294967295 : Int))) : Int) * IntKind.wrap .u64 (↑(BitVec.toNat (BitVec.ofInt (IntKind.bits .u64) (1000000 : Int) &&& BitVec.ofInt (IntKind.bits .u64) (4294967295 : Int))) : Int))) ((2 : Int) ^ min (32 : Nat) (IntKind.bits .u64)))) &&& BitVec.ofInt (IntKind.bits .u64) (4294967295 : Int))) : Int) + IntKind.wrap .u64 (IntKind.wrap .u64 (↑(BitVec.toNat (BitVec.ofInt (IntKind.bits .u64) (IntKind.wrap .u64 u66) &&& BitVec.ofInt (IntKind.bits .u64) (4294967295 : Int))) : Int) * Int.fdiv (1000000 : Int) ((2 : Int) ^ min (32 : Nat) (IntKind.bits .u64))))) ((2 : Int) ^ min (32 : Nat) (IntKind.bits .u64)))) (IntKind.wrap .u64 (IntKind.wrap .u64 u66 * (1000000 : Int))) (IntKind.wrap .u64 (IntKind.wrap .i64 (u67 * u18)))) fun r1 =>
  some ((IntKind.wrap .i64 r1.1, decide (r1.2 > (0 : Int))))
def y119 : List Lf → Option GT
  | [.d (.i .i64 u66), .d (.i .i64 u67), .d (.i .i64 u18), .r (.floats .f32 u19), .d (.i .i64 u20), .d (.i .i64 u21), .r (.recs 2 u22), .r (.recs 2 u23)] => some (.leaf (ok (y13 u66 u67 u18 u19 u20 u21 u22 u23)) [.c (.d (.i .i64 ((val (y13 u66 u67 u18 u19 u20 u21 u22 u23)).1))), .c (.d (.b ((val (y13 u66 u67 u18 u19 u20 u21 u22 u23)).2)))])
  | _ => none
abbrev sp_125 : Specs → Specs := addK 125 true (pureT y118 y119)
set_option maxRecDepth 100000 in
theorem G_decay_centre_1_vc (u66 : Int) (u67 : Int) (u18 : Int) (u19 : List Nat) (u20 : Int) (u21 : Int) (u22 : List (List Int)) (u23 : List (List Int)) (r : Int × Bool) (h : Option.bind (y13 u66 u67 u18 u19 u20 u21 u22 u23) some = some r) : runT Tryz.f125 ((sp_126 (sp_127 sp0))) (fun _ _ _ => none) (bldD y118 [.d (.i .i64 u66), .d (.i .i64 u67), .d (.i .i64 u18), .r (.floats .f32 u19), .d (.i .i64 u20), .d (.i .i64 u21), .r (.recs 2 u22), .r (.recs 2 u23)]) [.c (.d (.i .i64 r.1)), .c (.d (.b r.2))] := by
  refine Eq.mp (by kernel_rfl : (
 (Ob (True) ∧
 (Ob (ok (y6 (IntKind.wrap .u64 u66) (1000000 : Int))) ∧
 (Ob (True) ∧
 (Ob (True) ∧
 (Ob (True) ∧
 (Ob (ok (y35 (IntKind.wrap .u64 (IntKind.wrap .u64 (IntKind.wrap .u64 (Int.fdiv (IntKind.wrap .u64 u66) ((2 : Int) ^ min (32 : Nat) (IntKind.bits .u64)) * Int.fdiv (1000000 : Int) ((2 : Int) ^ min (32 : Nat) (IntKind.bits .u64))) + Int.fdiv (IntKind.wrap .u64 (IntKind.wrap .u64 (Int.fdiv (IntKind.wrap .u64 u66) ((2 : Int) ^ min (32 : Nat) (IntKind.bits .u64)) * IntKind.wrap .u64 (↑(BitVec.toNat (BitVec.ofInt (IntKind.bits .u64) (1000000 : Int) &&& BitVec.ofInt (IntKind.bits .u64) (4294967295 : Int))) : Int)) + Int.fdiv (IntKind.wrap .u64 (IntKind.wrap .u64 (↑(BitVec.toNat (BitVec.ofInt (IntKind.bits .u64) (IntKind.wrap .u64 u66) &&& BitVec.ofInt (IntKind.bits .u64) (4294967295 : Int))) : Int) * IntKind.wrap .u64 (↑(BitVec.toNat (BitVec.ofInt (IntKind.bits .u64) (1000000 : Int) &&& BitVec.ofInt (IntKind.bits .u64) (4294967295 : Int))) : Int))) ((2 : Int) ^ min (32 : Nat) (IntKind.bits .u64)))) ((2 : Int) ^ min (32 : Nat) (IntKind.bits .u64))) + Int.fdiv (IntKind.wrap .u64 (IntKind.wrap .u64 (↑(BitVec.toNat (BitVec.ofInt (IntKind.bits .u64) (IntKind.wrap .u64 (IntKind.wrap .u64 (Int.fdiv (IntKind.wrap .u64 u66) ((2 : Int) ^ min (32 : Nat) (IntKind.bits .u64)) * IntKind.wrap .u64 (↑(BitVec.toNat (BitVec.ofInt (IntKind.bits .u64) (1000000 : Int) &&& BitVec.ofInt (IntKind.bits .u64) (4294967295 : Int))) : Int)) + Int.fdiv (IntKind.wrap .u64 (IntKind.wrap .u64 (↑(BitVec.toNat (BitVec.ofInt (IntKind.bits .u64) (IntKind.wrap .u64 u66) &&& BitVec.ofInt (IntKind.bits .u64) (4294967295 : Int))) : Int) * IntKind.wrap .u64 (↑(BitVec.toNat (BitVec.ofInt (IntKind.bits .u64) (1000000 : Int) &&& BitVec.ofInt (IntKind.bits .u64) (4294967295 : Int))) : Int))) ((2 : Int) ^ min (32 : Nat) (IntKind.bits .u64)))) &&& BitVec.ofInt (IntKind.bits .u64) (4294967295 : Int))) : Int) + IntKind.wrap .u64 (IntKind.wrap .u64 (↑(BitVec.toNat (BitVec.ofInt (IntKind.bits .u64) (IntKind.wrap .u64 u66) &&& BitVec.ofInt (IntKind.bits .u64) (4294967295 : Int))) : Int) * Int.fdiv (1000000 : Int) ((2 : Int) ^ min (32 : Nat) (IntKind.bits .u64))))) ((2 : Int) ^ min (32 : Nat) (IntKind.bits .u64)))) (IntKind.wrap .u64 (IntKind.wrap .u64 u66 * (1000000 : Int))) (IntKind.wrap .u64 (IntKind.wrap .i64 (u67 * u18))))) ∧
 (Ob (True) ∧
 (Ob (True) ∧
 (Ob (True) ∧
 (Ob (IntKind.wrap .i64 (val (y35 (IntKind.wrap .u64 (IntKind.wrap .u64 (IntKind.wrap .u64 (Int.fdiv (IntKind.wrap .u64 u66) ((2 : Int) ^ min (32 : Nat) (IntKind.bits .u64)) * Int.fdiv (1000000 : Int) ((2 : Int) ^ min (32 : Nat) (IntKind.bits .u64))) + Int.fdiv (IntKind.wrap .u64 (IntKind.wrap .u64 (Int.fdiv (IntKind.wrap .u64 u66) ((2 : Int) ^ min (32 : Nat) (IntKind.bits .u64)) * IntKind.wrap .u64 (↑(BitVec.toNat (BitVec.ofInt (IntKind.bits .u64) (1000000 : Int) &&& BitVec.ofInt (IntKind.bits .u64) (4294967295 : Int))) : Int)) + Int.fdiv (IntKind.wrap .u64 (IntKind.wrap .u64 (↑(BitVec.toNat (BitVec.ofInt (IntKind.bits .u64) (IntKind.wrap .u64 u66) &&& BitVec.ofInt (IntKind.bits .u64) (4294967295 : Int))) : Int) * IntKind.wrap .u64 (↑(BitVec.toNat (BitVec.ofInt (IntKind.bits .u64) (1000000 : Int) &&& BitVec.ofInt (IntKind.bits .u64) (4294967295 : Int))) : Int))) ((2 : Int) ^ min (32 : Nat) (IntKind.bits .u64)))) ((2 : Int) ^ min (32 : Nat) (IntKind.bits .u64))) + Int.fdiv (IntKind.wrap .u64 (IntKind.wrap .u64 (↑(BitVec.toNat (BitVec.ofInt (IntKind.bits .u64) (IntKind.wrap .u64 (IntKind.wrap .u64 (Int.fdiv (IntKind.wrap .u64 u66) ((2 : Int) ^ min (32 : Nat) (IntKind.bits .u64)) * IntKind.wrap .u64 (↑(BitVec.toNat (BitVec.ofInt (IntKind.bits .u64) (1000000 : Int) &&& BitVec.ofInt (IntKind.bits .u64) (4294967295 : Int))) : Int)) + Int.fdiv (IntKind.wrap .u64 (IntKind.wrap .u64 (↑(BitVec.toNat (BitVec.ofInt (IntKind.bits .u64) (IntKind.wrap .u64 u66) &&& BitVec.ofInt (IntKind.bits .u64) (4294967295 : Int))) : Int) * IntKind.wrap .u64 (↑(BitVec.toNat (BitVec.ofInt (IntKind.bits .u64) (1000000 : Int) &&& BitVec.ofInt (IntKind.bits .u64) (4294967295 : Int))) : Int))) ((2 : Int) ^ min (32 : Nat) (IntKind.bits .u64)))) &&& BitVec.ofInt (IntKind.bits .u64) (4294967295 : Int))) : Int) + IntKind.wrap .u64 (IntKind.wrap .u64 (↑(BitVec.toNat (BitVec.ofInt (IntKind.bits .u64) (IntKind.wrap .u64 u66) &&& BitVec.ofInt (IntKind.bits .u64) (4294967295 : Int))) : Int) * Int.fdiv (1000000 : Int) ((2 : Int) ^ min (32 : Nat) (IntKind.bits .u64))))) ((2 : Int) ^ min (32 : Nat) (IntKind.bits .u64)))) (IntKind.wrap .u64 (IntKind.wrap .u64 u66 * (1000000 : Int))) (IntKind.wrap .u64 (IntKind.wrap .i64 (u67 * u18))))).1 = r.1) ∧
 (Ob (decide ((val (y35 (IntKind.wrap .u64 (IntKind.wrap .u64 (IntKind.wrap .u64 (Int.fdiv (IntKind.wrap .u64 u66) ((2 : Int) ^ min (32 : Nat) (IntKind.bits .u64)) * Int.fdiv (1000000 : Int) ((2 : Int) ^ min (32 : Nat) (IntKind.bits .u64))) + Int.fdiv (IntKind.wrap .u64 (IntKind.wrap .u64 (Int.fdiv (IntKind.wrap .u64 u66) ((2 : Int) ^ min (32 : Nat) (IntKind.bits .u64)) * IntKind.wrap .u64 (↑(BitVec.toNat (BitVec.ofInt (IntKind.bits .u64) (1000000 : Int) &&& BitVec.ofInt (IntKind.bits .u64) (4294967295 : Int))) : Int)) + Int.fdiv (IntKind.wrap .u64 (IntKind.wrap .u64 (↑(BitVec.toNat (BitVec.ofInt (IntKind.bits .u64) (IntKind.wrap .u64 u66) &&& BitVec.ofInt (IntKind.bits .u64) (4294967295 : Int))) : Int) * IntKind.wrap .u64 (↑(BitVec.toNat (BitVec.ofInt (IntKind.bits .u64) (1000000 : Int) &&& BitVec.ofInt (IntKind.bits .u64) (4294967295 : Int))) : Int))) ((2 : Int) ^ min (32 : Nat) (IntKind.bits .u64)))) ((2 : Int) ^ min (32 : Nat) (IntKind.bits .u64))) + Int.fdiv (IntKind.wrap .u64 (IntKind.wrap .u64 (↑(BitVec.toNat (BitVec.ofInt (IntKind.bits .u64) (IntKind.wrap .u64 (IntKind.wrap .u64 (Int.fdiv (IntKind.wrap .u64 u66) ((2 : Int) ^ min (32 : Nat) (IntKind.bits .u64)) * IntKind.wrap .u64 (↑(BitVec.toNat (BitVec.ofInt (IntKind.bits .u64) (1000000 : Int) &&& BitVec.ofInt (IntKind.bits .u64) (4294967295 : Int))) : Int)) + Int.fdiv (IntKind.wrap .u64 (IntKind.wrap .u64 (↑(BitVec.toNat (BitVec.ofInt (IntKind.bits .u64) (IntKind.wrap .u64 u66) &&& BitVec.ofInt (IntKind.bits .u64) (4294967295 : Int))) : Int) * IntKind.wrap .u64 (↑(BitVec.toNat (BitVec.ofInt (IntKind.bits .u64) (1000000 : Int) &&& BitVec.ofInt (IntKind.bits .u64) (4294967295 : Int))) : Int))) ((2 : Int) ^ min (32 : Nat) (IntKind.bits .u64)))) &&& BitVec.ofInt (IntKind.bits .u64) (4294967295 : Int))) : Int) + IntKind.wrap .u64 (IntKind.wrap .u64 (↑(BitVec.toNat (BitVec.ofInt (IntKind.bits .u64) (IntKind.wrap .u64 u66) &&& BitVec.ofInt (IntKind.bits .u64) (4294967295 : Int))) : Int) * Int.fdiv (1000000 : Int) ((2 : Int) ^ min (32 : Nat) (IntKind.bits .u64))))) ((2 : Int) ^ min (32 : Nat) (IntKind.bits .u64)))) (IntKind.wrap .u64 (IntKind.wrap .u64 u66 * (1000000 : Int))) (IntKind.wrap .u64 (IntKind.wrap .i64 (u67 * u18))))).2 > (0 : Int)) = r.2) ∧
 True)))))))))))) = _) ?_
  refine ob_t ?_
  refine call_s h fun h => ?_
  refine ob_t ?_
  refine ob_t ?_
  refine ob_t ?_
  refine call_s h fun h => ?_
  refine ob_t ?_
  refine ob_t ?_
  refine ob_t ?_
  exact ret_s h (fun e => by subst e; exact (by repeat' (first | exact trivial | exact ⟨rfl⟩ | refine And.intro ?_ ?_)))
set_option maxRecDepth 100000 in
theorem G_decay_centre_1_ok : SpecOK Tryz.prog 125 true (pureT y118 y119) := by
  refine pureT_ok (sp := (sp_126 (sp_127 sp0))) (fn := Tryz.f125) (body := bodyOf Tryz.f125) mixed (sp_126_ok (sp_127_ok sp0_ok)) Tryz.func125 (by kernel_rfl) (by kernel_rfl) fun ls t h ho b hb => ?_
  unfold y119 at h
  split at h
  · rename_i u66 u67 u18 u19 u20 u21 u22 u23
    cases h
    obtain rfl := bld_eq hb
    exact ⟨Nat.le_of_ble_eq_true (by kernel_rfl), _, _, G_decay_centre_1_vc u66 u67 u18 u19 u20 u21 u22 u23 _ (ok_some ho)⟩
  · cases h
theorem sp_125_ok {sp : Specs} (h : SpecsOK Tryz.prog sp) : SpecsOK Tryz.prog (sp_125 sp) := addK_ok G_decay_centre_1_ok h
end Go.Sh
end

section
namespace Go.Sh
open Go Go.Proofs Go.RowKit Go.Sx Go.Sx06 Ieee Go.Fl
theorem half {X : Type} {body : X → Option (X ⊕ Int)} (mk : Int → Int → X) {yn1 yn0 u c : Int}
    (hb : ∀ q r, 0 ≤ q → q ≤ 4294967297 → 0 ≤ r → r < 4294967296 → body (mk q r) = if 4294967296 ≤ q ∨ 4294967296 * r + c < q * yn0 then (if 4294967296 ≤ r + yn1 then some (.inr (q - 1)) else some (.inl (mk (q - 1) (r + yn1)))) else some (.inr q))
    (hy1 : 2147483648 ≤ yn1 ∧ yn1 < 4294967296) (hy0 : 0 ≤ yn0 ∧ yn0 < 4294967296) (hu : 0 ≤ u ∧ u < yn1 * 4294967296 + yn0) (hc : 0 ≤ c ∧ c < 4294967296) :
    iter body big (mk (u / yn1) (u % yn1)) = some ((u * 4294967296 + c) / (yn1 * 4294967296 + yn0)) := by
  have hv : 0 < yn1 * 4294967296 + yn0 := by omega
  generalize hQ : (u * 4294967296 + c) / (yn1 * 4294967296 + yn0) = Q
  have q0 : 0 ≤ Q := by rw [← hQ]; exact Int.ediv_nonneg (by omega) (by omega)
  have qB : Q < 4294967296 := by rw [← hQ]; exact Int.ediv_lt_of_lt_mul hv (by omega)
  have le_of : ∀ q, q * (yn1 * 4294967296 + yn0) ≤ u * 4294967296 + c → q ≤ Q := fun q h => by rw [← hQ]; exact (Int.le_ediv_iff_mul_le hv).2 h
  have gt : ∀ q, u * 4294967296 + c < q * (yn1 * 4294967296 + yn0) → Q < q := fun q h => by rw [← hQ]; exact Int.ediv_lt_of_lt_mul hv h
  have exp : ∀ q r, q * yn1 + r = u → q * (yn1 * 4294967296 + yn0) = (u - r) * 4294967296 + q * yn0 := by
    intro q r h
    rw [Int.mul_add, ← Int.mul_assoc, show u - r = q * yn1 by omega]
  have main : ∀ (n : Nat) (q r : Int) (M : Nat), q * yn1 + r = u → Q ≤ q → q ≤ 4294967297 → 0 ≤ r → r < 4294967296 → 4294967296 ≤ r + (n : Int) * yn1 → n < M → iter body M (mk q r) = some Q := by
    intro n
    induction n with
    | zero =>
      intro q r M _ _ _ _ h1 h2 _
      rw [show ((0 : Nat) : Int) = 0 from rfl, Int.zero_mul] at h2
      omega
    | succ n ih =>
      intro q r M e hq hq2 hr hr2 hn hM
      obtain ⟨K, rfl⟩ : ∃ K, M = K + 1 := ⟨M - 1, by omega⟩
      unfold iter
      rw [hb q r (by omega) hq2 hr hr2]
      have ex := exp q r e
      by_cases hcnd : 4294967296 ≤ q ∨ 4294967296 * r + c < q * yn0
      · rw [if_pos hcnd]
        have hlt : Q < q := by
          rcases hcnd with h | h
          · omega
          · exact gt q (by rw [ex]; omega)
        have e2 : (q - 1) * yn1 + (r + yn1) = u := by rw [Int.sub_mul]; omega
        by_cases hbr : 4294967296 ≤ r + yn1
        · rw [if_pos hbr]
          have : q - 1 ≤ Q := by
            refine le_of _ ?_
            rw [exp _ _ e2]
            have := Int.mul_le_mul (show q - 1 ≤ 4294967296 by omega) (show yn0 ≤ 4294967296 by omega) hy0.1 (by omega)
            omega
          show some (q - 1) = some Q
          congr 1; omega
        · rw [if_neg hbr]
          refine ih (q - 1) (r + yn1) K e2 (by omega) (by omega) (by omega) (by omega) ?_ (by omega)
          rw [show ((n + 1 : Nat) : Int) = (n : Int) + 1 from rfl, Int.add_mul] at hn
          omega
      · rw [if_neg hcnd]
        have : q ≤ Q := le_of _ (by rw [ex]; omega)
        show some q = some Q
        congr 1; omega
  have em := Int.mul_ediv_add_emod u yn1
  have e0 := Int.emod_nonneg u (show yn1 ≠ 0 by omega)
  have e1 := Int.emod_lt_of_pos u (show 0 < yn1 by omega)
  refine main 2 _ _ big (by rw [Int.mul_comm]; exact em) ?_ ?_ e0 (by omega) (by omega) (by unfold big; omega)
  · refine (Int.le_ediv_iff_mul_le (by omega)).2 ?_
    have h1 : Q * (yn1 * 4294967296 + yn0) ≤ u * 4294967296 + c := by rw [← hQ]; exact Int.ediv_mul_le _ (by omega)
    rw [Int.mul_add, ← Int.mul_assoc] at h1
    have := Int.mul_nonneg q0 hy0.1
    omega
  · have : u / yn1 < 4294967298 := Int.ediv_lt_of_lt_mul (by omega) (by omega)
    omega
end Go.Sh
end

section
namespace Go.Sh
open Go Go.Proofs Go.RowKit Go.Sx Go.Sx06 Ieee Go.Fl
theorem tab8_ok : ∀ b : Fin 256, 1 ≤ b.val → 1 ≤ (Array.getD (ByteArray.data tab8) b.val (0 : UInt8)).toNat ∧ (Array.getD (ByteArray.data tab8) b.val (0 : UInt8)).toNat ≤ 8 ∧ (2 : Int) ^ ((Array.getD (ByteArray.data tab8) b.val (0 : UInt8)).toNat - 1) ≤ (b.val : Int) ∧ (b.val : Int) < (2 : Int) ^ (Array.getD (ByteArray.data tab8) b.val (0 : UInt8)).toNat := by
  decide +kernel
theorem u8m (n : Int) : IntKind.wrap IntKind.u8 n = n % 256 := by
  have h := u64m n
  rfl
theorem shr16 (x : Int) : Int.fdiv x ((2 : Int) ^ min (16 : Nat) (IntKind.bits IntKind.u64)) = x / 65536 := by
  rw [show (2 : Int) ^ min (16 : Nat) (IntKind.bits IntKind.u64) = 65536 from rfl]
  exact Int.fdiv_eq_ediv_of_nonneg _ (by decide)
theorem shr8 (x : Int) : Int.fdiv x ((2 : Int) ^ min (8 : Nat) (IntKind.bits IntKind.u64)) = x / 256 := by
  rw [show (2 : Int) ^ min (8 : Nat) (IntKind.bits IntKind.u64) = 256 from rfl]
  exact Int.fdiv_eq_ediv_of_nonneg _ (by decide)
def LenOf (x : Int) (r : Option Int) : Prop := ∃ n : Nat, r = some (n : Int) ∧ 1 ≤ n ∧ n ≤ 64 ∧ (2 : Int) ^ (n - 1) ≤ x ∧ x < (2 : Int) ^ n
theorem leaf8 {x b c : Int} (s : Nat) (hs : s ≤ 56) (hc : c = (s : Int)) (hb : 1 ≤ b ∧ b < 256) (hx : b * (2 : Int) ^ s ≤ x ∧ x < (b + 1) * (2 : Int) ^ s) :
    LenOf x (if (0 : Int) ≤ IntKind.wrap IntKind.u8 b ∧ IntKind.wrap IntKind.u8 b < (↑(ByteArray.size tab8) : Int) then
      some (IntKind.wrap IntKind.i64 (c + IntKind.wrap IntKind.i64 (↑(UInt8.toNat (Array.getD (ByteArray.data tab8) (Int.toNat (IntKind.wrap IntKind.u8 b)) (0 : UInt8))) : Int))) else none) := by
  have e : IntKind.wrap IntKind.u8 b = b := by rw [u8m]; omega
  have hsz : ByteArray.size tab8 = 256 := by decide +kernel
  rw [e, hsz, if_pos (by omega)]
  obtain ⟨b', rfl⟩ := Int.eq_ofNat_of_zero_le (show 0 ≤ b by omega)
  obtain ⟨h1, h2, h3, h4⟩ := tab8_ok ⟨b', by omega⟩ (by show 1 ≤ b'; omega)
  rw [Int.toNat_natCast]
  change 1 ≤ (Array.getD (ByteArray.data tab8) b' (0 : UInt8)).toNat at h1
  change (Array.getD (ByteArray.data tab8) b' (0 : UInt8)).toNat ≤ 8 at h2
  change (2 : Int) ^ ((Array.getD (ByteArray.data tab8) b' (0 : UInt8)).toNat - 1) ≤ (b' : Int) at h3
  change (b' : Int) < (2 : Int) ^ (Array.getD (ByteArray.data tab8) b' (0 : UInt8)).toNat at h4
  generalize (Array.getD (ByteArray.data tab8) b' (0 : UInt8)).toNat = t at *
  rw [hc, wr64 (x := (t : Int)) (by omega), wr64 (x := (s : Int) + (t : Int)) (by omega)]
  have hp : (0 : Int) < (2 : Int) ^ s := Int.pow_pos (by decide)
  refine ⟨s + t, rfl, by omega, by omega, ?_, ?_⟩
  · have := Int.mul_le_mul_of_nonneg_right h3 (Int.le_of_lt hp)
    rw [show s + t - 1 = (t - 1) + s by omega, Int.pow_add]
    omega
  · have := Int.mul_le_mul_of_nonneg_right (show (b' : Int) + 1 ≤ (2 : Int) ^ t by omega) (Int.le_of_lt hp)
    rw [Nat.add_comm s t, Int.pow_add]
    omega
theorem len64_ok {x : Int} (hx : 1 ≤ x ∧ x < 18446744073709551616) : LenOf x (y49 x) := by
  unfold y49
  simp only [shr32, shr16, shr8]
  have k56 : (2 : Int) ^ 56 = 72057594037927936 := by decide
  have k48 : (2 : Int) ^ 48 = 281474976710656 := by decide
  have k40 : (2 : Int) ^ 40 = 1099511627776 := by decide
  have k32 : (2 : Int) ^ 32 = 4294967296 := by decide
  have k24 : (2 : Int) ^ 24 = 16777216 := by decide
  have k16 : (2 : Int) ^ 16 = 65536 := by decide
  have k8 : (2 : Int) ^ 8 = 256 := by decide
  have k0 : (2 : Int) ^ 0 = 1 := by decide
  by_cases h1 : x ≥ 4294967296
  · rw [if_pos h1]
    by_cases h2 : x / 4294967296 ≥ 65536
    · rw [if_pos h2]
      by_cases h3 : x / 4294967296 / 65536 ≥ 256
      · rw [if_pos h3]; exact leaf8 56 (by omega) (by decide) (by omega) (by rw [k56]; omega)
      · rw [if_neg h3]; exact leaf8 48 (by omega) (by decide) (by omega) (by rw [k48]; omega)
    · rw [if_neg h2]
      by_cases h3 : x / 4294967296 ≥ 256
      · rw [if_pos h3]; exact leaf8 40 (by omega) (by decide) (by omega) (by rw [k40]; omega)
      · rw [if_neg h3]; exact leaf8 32 (by omega) (by decide) (by omega) (by rw [k32]; omega)
  · rw [if_neg h1]
    by_cases h2 : x ≥ 65536
    · rw [if_pos h2]
      by_cases h3 : x / 65536 ≥ 256
      · rw [if_pos h3]; exact leaf8 24 (by omega) (by decide) (by omega) (by rw [k24]; omega)
      · rw [if_neg h3]; exact leaf8 16 (by omega) (by decide) (by omega) (by rw [k16]; omega)
    · rw [if_neg h2]
      by_cases h3 : x ≥ 256
      · rw [if_pos h3]; exact leaf8 8 (by omega) (by decide) (by omega) (by rw [k8]; omega)
      · rw [if_neg h3]; exact leaf8 0 (by omega) (by decide) (by omega) (by rw [k0]; omega)
theorem lead64_ok {y : Int} (hy : 1 ≤ y ∧ y < 18446744073709551616) : ∃ s : Nat, y10 y = some (s : Int) ∧ s ≤ 63 ∧ 9223372036854775808 ≤ y * (2 : Int) ^ s ∧ y * (2 : Int) ^ s < 18446744073709551616 := by
  obtain ⟨n, hn, h1, h2, h3, h4⟩ := len64_ok hy
  have hp : (0 : Int) < (2 : Int) ^ (64 - n) := Int.pow_pos (by decide)
  refine ⟨64 - n, ?_, by omega, ?_, ?_⟩
  · unfold y10
    rw [hn, bind_some', wr64 (by omega)]
    congr 1; omega
  · have := Int.mul_le_mul_of_nonneg_right h3 (Int.le_of_lt hp)
    rw [← Int.pow_add, show n - 1 + (64 - n) = 63 by omega, show (2 : Int) ^ 63 = 9223372036854775808 by decide] at this
    exact this
  · have := Int.mul_lt_mul_of_pos_right h4 hp
    rw [← Int.pow_add, show n + (64 - n) = 64 by omega, show (2 : Int) ^ 64 = 18446744073709551616 by decide] at this
    exact this
end Go.Sh
end

section
namespace Go.Sh
open Go Go.Proofs Go.RowKit Go.Sx Go.Sx06 Ieee Go.Fl
theorem or_add {a C : Int} {s : Nat} (ha : 0 ≤ a) (hA : a * (2 : Int) ^ s < 18446744073709551616) (hC : 0 ≤ C ∧ C < (2 : Int) ^ s) (hs : s ≤ 63) :
    (↑(BitVec.toNat (BitVec.ofInt (IntKind.bits IntKind.u64) (a * (2 : Int) ^ s) ||| BitVec.ofInt (IntKind.bits IntKind.u64) C)) : Int) = a * (2 : Int) ^ s + C := by
  obtain ⟨a', rfl⟩ := Int.eq_ofNat_of_zero_le ha
  obtain ⟨C', rfl⟩ := Int.eq_ofNat_of_zero_le hC.1
  have hp : (2 : Int) ^ s = ((2 ^ s : Nat) : Int) := by simp
  have hC2 : C' < 2 ^ s := by have := hC.2; rw [hp] at this; exact Int.ofNat_lt.1 this
  have hs64 : 2 ^ s ≤ 2 ^ 63 := Nat.pow_le_pow_right (by omega) hs
  have hCs : C' < 18446744073709551616 := by
    have : (2 : Nat) ^ 63 = 9223372036854775808 := by decide
    omega
  rw [hp] at hA ⊢
  have hA2 : a' * 2 ^ s < 18446744073709551616 := by
    have : ((a' * 2 ^ s : Nat) : Int) < 18446744073709551616 := by rw [Int.natCast_mul]; exact hA
    omega
  rw [BitVec.toNat_or, ← Int.natCast_mul, BitVec.ofInt_natCast, BitVec.ofInt_natCast, BitVec.toNat_ofNat, BitVec.toNat_ofNat, b64, show 2 ^ 64 = 18446744073709551616 from by decide, Nat.mod_eq_of_lt hA2, Nat.mod_eq_of_lt hCs, Nat.mul_comm, ← Nat.two_pow_add_eq_or_of_lt hC2, Int.natCast_add]
structure Sh64 (hi lo y P R v u n : Int) : Prop where
  hv : v = y * P
  v1 : 9223372036854775808 ≤ v ∧ v < 18446744073709551616
  hu : u = hi * P + lo / R
  u1 : 0 ≤ u ∧ u < v
  hn : n = lo * P % 18446744073709551616
  tot : u * 18446744073709551616 + n = (hi * 18446744073709551616 + lo) * P
theorem sh64 {hi lo y : Int} (hh : 0 ≤ hi ∧ hi < y) (hy : y < 18446744073709551616) (hl : 0 ≤ lo ∧ lo < 18446744073709551616) {s : Nat} (hs : s ≤ 63) (h1 : 9223372036854775808 ≤ y * (2 : Int) ^ s) (h2 : y * (2 : Int) ^ s < 18446744073709551616) :
    Sh64 hi lo y ((2 : Int) ^ s) ((2 : Int) ^ (64 - s)) (y * (2 : Int) ^ s) (hi * (2 : Int) ^ s + lo / (2 : Int) ^ (64 - s)) (lo * (2 : Int) ^ s % 18446744073709551616) ∧ (0 ≤ lo / (2 : Int) ^ (64 - s) ∧ lo / (2 : Int) ^ (64 - s) < (2 : Int) ^ s) ∧ 0 ≤ hi * (2 : Int) ^ s ∧ hi * (2 : Int) ^ s < 18446744073709551616 := by
  have hP : (0 : Int) < (2 : Int) ^ s := Int.pow_pos (by decide)
  have hR : (0 : Int) < (2 : Int) ^ (64 - s) := Int.pow_pos (by decide)
  have hPR : (2 : Int) ^ s * (2 : Int) ^ (64 - s) = 18446744073709551616 := by rw [← Int.pow_add, show s + (64 - s) = 64 by omega]; decide
  generalize (2 : Int) ^ s = P at *
  generalize (2 : Int) ^ (64 - s) = R at *
  have c0 : 0 ≤ lo / R := Int.ediv_nonneg hl.1 (Int.le_of_lt hR)
  have c1 : lo / R < P := Int.ediv_lt_of_lt_mul hR (by rw [hPR]; exact hl.2)
  have c2 := Int.mul_ediv_add_emod lo R
  have c3 := Int.emod_nonneg lo (show R ≠ 0 by omega)
  have c4 := Int.emod_lt_of_pos lo hR
  have a0 := Int.mul_nonneg hh.1 (Int.le_of_lt hP)
  have a1 := Int.mul_le_mul_of_nonneg_right (show hi + 1 ≤ y by omega) (Int.le_of_lt hP)
  rw [Int.add_mul, Int.one_mul] at a1
  have n1 : lo * P = lo / R * 18446744073709551616 + lo % R * P := by
    conv => lhs; rw [← c2]
    rw [Int.add_mul, ← hPR]
    grind
  have n2 : 0 ≤ lo % R * P := Int.mul_nonneg c3 (Int.le_of_lt hP)
  have n3 : lo % R * P < 18446744073709551616 := by
    have := Int.mul_lt_mul_of_pos_right c4 hP
    rw [Int.mul_comm R P, hPR] at this
    exact this
  refine ⟨⟨rfl, ⟨h1, h2⟩, rfl, ⟨by omega, by omega⟩, rfl, ?_⟩, ⟨c0, c1⟩, a0, by omega⟩
  have e : lo * P % 18446744073709551616 = lo % R * P := by rw [n1]; omega
  rw [e, Int.add_mul (hi * 18446744073709551616), n1]
  grind
theorem wu {x : Int} (h : 0 ≤ x ∧ x < 18446744073709551616) : IntKind.wrap IntKind.u64 x = x := by rw [u64m]; omega
theorem shn {s : Nat} (hs : s ≤ 63) : IntKind.wrap IntKind.u64 (s : Int) = (s : Int) ∧ min s (IntKind.bits IntKind.u64) = s := ⟨wu (by omega), by rw [b64]; omega⟩
theorem shm {s : Nat} (hs : s ≤ 63) : Int.toNat (IntKind.wrap IntKind.u64 ((64 : Int) - (s : Int))) = 64 - s ∧ min (64 - s) (IntKind.bits IntKind.u64) = 64 - s := ⟨by rw [wu (by omega)]; omega, by rw [b64]; omega⟩
theorem qr_bound {w q c : Int} (hw : 0 < w) (hc : 0 ≤ c) (hq : q = c / w) : q * w ≤ c ∧ c < q * w + w := by
  have h1 := Int.mul_ediv_add_emod c w
  have h2 := Int.emod_nonneg c (show w ≠ 0 by omega)
  have h3 := Int.emod_lt_of_pos c hw
  rw [← hq, Int.mul_comm] at h1
  omega
section
variable {lo y v n : Int} {s : Nat}
theorem body0 (hs : s ≤ 63) (hv : y * (2 : Int) ^ s = v) (v1 : 9223372036854775808 ≤ v ∧ v < 18446744073709551616) (hn : lo * (2 : Int) ^ s % 18446744073709551616 = n) (q r : Int) (hq : 0 ≤ q) (hq2 : q ≤ 4294967297) (hr : 0 ≤ r) (hr2 : r < 4294967296) :
    y25 lo y (s : Int) (q, r) = if 4294967296 ≤ q ∨ 4294967296 * r + n / 4294967296 < q * (v % 4294967296) then (if 4294967296 ≤ r + v / 4294967296 then some (.inr (q - 1)) else some (.inl (q - 1, r + v / 4294967296))) else some (.inr q) := by
  have hn1 : 0 ≤ n ∧ n < 18446744073709551616 := by omega
  unfold y25
  simp only [(shn hs).1, Int.toNat_natCast, (shn hs).2, hv, wu (x := v) (by omega), shr32, mask32, u64m (lo * (2 : Int) ^ s), hn]
  have m0 : 0 ≤ v % 4294967296 ∧ v % 4294967296 ≤ 4294967295 := by omega
  have p1 := Int.mul_le_mul hq2 m0.2 m0.1 (by omega)
  have p0 := Int.mul_nonneg hq m0.1
  rw [wu (x := v % 4294967296) (by omega), wu (x := q * (v % 4294967296)) (by omega), wu (x := 4294967296 * r) (by omega), wu (x := 4294967296 * r + n / 4294967296) (by omega), wu (x := r + v / 4294967296) (by omega)]
  by_cases h1 : q ≥ 4294967296
  · rw [if_pos h1, if_pos (Or.inl h1), wu (x := q - 1) (by omega)]
  · rw [if_neg h1]
    by_cases h2 : q * (v % 4294967296) > 4294967296 * r + n / 4294967296
    · have hq1 : 1 ≤ q := by
        rcases Int.lt_or_eq_of_le hq with h | h
        · omega
        · rw [← h, Int.zero_mul] at h2; omega
      rw [if_pos h2, if_pos (Or.inr h2), wu (x := q - 1) (by omega)]
    · rw [if_neg h2, if_neg (by omega)]
theorem body1 (hs : s ≤ 63) (hv : y * (2 : Int) ^ s = v) (v1 : 9223372036854775808 ≤ v ∧ v < 18446744073709551616) (hn : lo * (2 : Int) ^ s % 18446744073709551616 = n) (q r : Int) (hq : 0 ≤ q) (hq2 : q ≤ 4294967297) (hr : 0 ≤ r) (hr2 : r < 4294967296) :
    y11 lo y (s : Int) (r, q) = if 4294967296 ≤ q ∨ 4294967296 * r + n % 4294967296 < q * (v % 4294967296) then (if 4294967296 ≤ r + v / 4294967296 then some (.inr (q - 1)) else some (.inl (r + v / 4294967296, q - 1))) else some (.inr q) := by
  have hn1 : 0 ≤ n ∧ n < 18446744073709551616 := by omega
  unfold y11
  simp only [(shn hs).1, Int.toNat_natCast, (shn hs).2, hv, wu (x := v) (by omega), shr32, mask32, u64m (lo * (2 : Int) ^ s), hn]
  have m0 : 0 ≤ v % 4294967296 ∧ v % 4294967296 ≤ 4294967295 := by omega
  have p1 := Int.mul_le_mul hq2 m0.2 m0.1 (by omega)
  have p0 := Int.mul_nonneg hq m0.1
  rw [wu (x := v % 4294967296) (by omega), wu (x := n % 4294967296) (by omega), wu (x := q * (v % 4294967296)) (by omega), wu (x := 4294967296 * r) (by omega), wu (x := 4294967296 * r + n % 4294967296) (by omega), wu (x := r + v / 4294967296) (by omega)]
  by_cases h1 : q ≥ 4294967296
  · rw [if_pos h1, if_pos (Or.inl h1), wu (x := q - 1) (by omega)]
  · rw [if_neg h1]
    by_cases h2 : q * (v % 4294967296) > 4294967296 * r + n % 4294967296
    · have hq1 : 1 ≤ q := by
        rcases Int.lt_or_eq_of_le hq with h | h
        · omega
        · rw [← h, Int.zero_mul] at h2; omega
      rw [if_pos h2, if_pos (Or.inr h2), wu (x := q - 1) (by omega)]
    · rw [if_neg h2, if_neg (by omega)]
end
end Go.Sh
end

section
namespace Go.Sh
open Go Go.Proofs Go.RowKit Go.Sx Go.Sx06 Ieee Go.Fl
theorem div64_eq {hi lo y : Int} (hh : 0 ≤ hi ∧ hi < y) (hy : y < 18446744073709551616) (hl : 0 ≤ lo ∧ lo < 18446744073709551616) :
    y35 hi lo y = some ((hi * 18446744073709551616 + lo) / y, (hi * 18446744073709551616 + lo) % y) := by
  unfold y35
  rw [if_neg (show ¬ (y == 0) = true by simp; omega), if_neg (by omega)]
  by_cases h0 : hi = 0
  · subst h0
    rw [if_pos (by rfl), if_pos (by omega), if_pos (by omega), Int.tdiv_eq_ediv_of_nonneg hl.1, Int.tmod_eq_emod_of_nonneg hl.1, Int.zero_mul, Int.zero_add]
    have a : 0 ≤ lo / y := Int.ediv_nonneg hl.1 (by omega)
    have b : lo / y ≤ lo := Int.ediv_le_self _ hl.1
    rw [wu (by omega)]
  · rw [if_neg (show ¬ (hi == 0) = true by simpa using h0)]
    obtain ⟨s, hs, s1, g1, g2⟩ := lead64_ok (y := y) (by omega)
    obtain ⟨sh, hC, hA0, hA⟩ := sh64 hh hy hl s1 g1 g2
    have hP : (0 : Int) < (2 : Int) ^ s := Int.pow_pos (by decide)
    have hor := or_add hh.1 hA hC s1
    have hR : (2 : Int) ^ (64 - s) ≥ 0 := Int.le_of_lt (Int.pow_pos (by decide))
    rw [hs, bind_some']
    generalize hv : y * (2 : Int) ^ s = v at *
    generalize hn : lo * (2 : Int) ^ s % 18446744073709551616 = n at *
    generalize hu : hi * (2 : Int) ^ s + lo / (2 : Int) ^ (64 - s) = u at *
    have hv1 := sh.v1
    have hu1 := sh.u1
    have hn1 : 0 ≤ n ∧ n < 18446744073709551616 := by omega
    have tot := sh.tot
    have y1 : 2147483648 ≤ v / 4294967296 ∧ v / 4294967296 < 4294967296 := by omega
    have y0 : 0 ≤ v % 4294967296 ∧ v % 4294967296 < 4294967296 := by omega
    have yv : v / 4294967296 * 4294967296 + v % 4294967296 = v := by omega
    have c1 : 0 ≤ n / 4294967296 ∧ n / 4294967296 < 4294967296 := by omega
    have c0 : 0 ≤ n % 4294967296 ∧ n % 4294967296 < 4294967296 := by omega
    have L0 := half (body := y25 lo y (s : Int)) (fun q r => (q, r)) (fun q r a b c d => body0 s1 hv hv1 hn q r a b c d) y1 y0 (by rw [yv]; exact hu1) c1
    rw [yv] at L0
    generalize hq1 : (u * 4294967296 + n / 4294967296) / v = q1 at *
    have Q1 := qr_bound (w := v) (c := u * 4294967296 + n / 4294967296) (by omega) (by omega) hq1.symm
    have q10 : 0 ≤ q1 := by rw [← hq1]; exact Int.ediv_nonneg (by omega) (by omega)
    have q1B : q1 < 4294967296 := by rw [← hq1]; exact Int.ediv_lt_of_lt_mul (by omega) (by omega)
    generalize hr1 : u * 4294967296 + n / 4294967296 - q1 * v = r1 at *
    have r1b : 0 ≤ r1 ∧ r1 < v := by omega
    have L1 := half (body := y11 lo y (s : Int)) (fun q r => (r, q)) (fun q r a b c d => body1 s1 hv hv1 hn q r a b c d) y1 y0 (by rw [yv]; exact r1b) c0
    rw [yv] at L1
    generalize hq0 : (r1 * 4294967296 + n % 4294967296) / v = q0 at *
    have Q0 := qr_bound (w := v) (c := r1 * 4294967296 + n % 4294967296) (by omega) (by omega) hq0.symm
    have q00 : 0 ≤ q0 := by rw [← hq0]; exact Int.ediv_nonneg (by omega) (by omega)
    have q0B : q0 < 4294967296 := by rw [← hq0]; exact Int.ediv_lt_of_lt_mul (by omega) (by omega)
    have dS : ∀ x : Int, Int.fdiv x ((2 : Int) ^ s) = x / (2 : Int) ^ s := fun x => Int.fdiv_eq_ediv_of_nonneg _ (Int.le_of_lt hP)
    have dR : ∀ x : Int, Int.fdiv x ((2 : Int) ^ (64 - s)) = x / (2 : Int) ^ (64 - s) := fun x => Int.fdiv_eq_ediv_of_nonneg _ hR
    have m1 := qr_bound (w := v / 4294967296) (c := u) (q := u / (v / 4294967296)) (by omega) hu1.1 rfl
    have m1' := Int.mul_ediv_add_emod u (v / 4294967296)
    have m1d : 0 ≤ u / (v / 4294967296) := Int.ediv_nonneg hu1.1 (by omega)
    have m1e : u / (v / 4294967296) ≤ u := Int.ediv_le_self _ hu1.1
    have m1f : 0 ≤ u / (v / 4294967296) * (v / 4294967296) := Int.mul_nonneg m1d (by omega)
    have k1 := qr_bound (w := v / 4294967296) (c := r1) (q := r1 / (v / 4294967296)) (by omega) r1b.1 rfl
    have k1' := Int.mul_ediv_add_emod r1 (v / 4294967296)
    have k1d : 0 ≤ r1 / (v / 4294967296) := Int.ediv_nonneg r1b.1 (by omega)
    have k1e : r1 / (v / 4294967296) ≤ r1 := Int.ediv_le_self _ r1b.1
    have k1f : 0 ≤ r1 / (v / 4294967296) * (v / 4294967296) := Int.mul_nonneg k1d (by omega)
    have e21 : IntKind.wrap .u64 (IntKind.wrap .u64 (IntKind.wrap .u64 (u * 4294967296) + n / 4294967296) - IntKind.wrap .u64 (q1 * v)) = r1 := by
      simp only [u64m]
      omega
    have er : IntKind.wrap .u64 (IntKind.wrap .u64 (IntKind.wrap .u64 (r1 * 4294967296) + n % 4294967296) - IntKind.wrap .u64 (q0 * v)) = r1 * 4294967296 + n % 4294967296 - q0 * v := by
      simp only [u64m]
      omega
    simp only [(shn s1).1, Int.toNat_natCast, (shn s1).2, (shm s1).1, (shm s1).2, dS, dR, hv, wu (x := v) (by omega), shr32, wu (x := hi * (2 : Int) ^ s) ⟨hA0, hA⟩, hor, hu]
    rw [wu (x := u) (by omega), Int.tdiv_eq_ediv_of_nonneg hu1.1, wu (x := u / (v / 4294967296)) (by omega), wu (x := u / (v / 4294967296) * (v / 4294967296)) (by omega), wu (x := u - u / (v / 4294967296) * (v / 4294967296)) (by omega)]
    rw [show u - u / (v / 4294967296) * (v / 4294967296) = u % (v / 4294967296) by rw [Int.mul_comm]; omega]
    have w64 : (0 : Int) ≤ IntKind.wrap IntKind.u64 ((64 : Int) - (s : Int)) := by rw [wu (by omega)]; omega
    rw [if_pos (by omega), if_pos (by omega), if_pos w64, if_pos (by omega), if_pos (by omega), L0, bind_some']
    unfold y47
    simp only [(shn s1).1, Int.toNat_natCast, (shn s1).2, (shm s1).1, (shm s1).2, dS, dR, hv, wu (x := v) (by omega), shr32, wu (x := hi * (2 : Int) ^ s) ⟨hA0, hA⟩, hor, hu, u64m (lo * (2 : Int) ^ s), hn, wu (x := u) (by omega), e21]
    rw [Int.tdiv_eq_ediv_of_nonneg r1b.1, wu (x := r1 / (v / 4294967296)) (by omega), wu (x := r1 / (v / 4294967296) * (v / 4294967296)) (by omega), wu (x := r1 - r1 / (v / 4294967296) * (v / 4294967296)) (by omega)]
    rw [show r1 - r1 / (v / 4294967296) * (v / 4294967296) = r1 % (v / 4294967296) by rw [Int.mul_comm]; omega]
    rw [if_pos (by omega), L1, bind_some']
    unfold y12
    simp only [(shn s1).1, Int.toNat_natCast, (shn s1).2, (shm s1).1, (shm s1).2, dS, dR, hv, wu (x := v) (by omega), shr32, mask32, wu (x := hi * (2 : Int) ^ s) ⟨hA0, hA⟩, hor, hu, u64m (lo * (2 : Int) ^ s), hn, wu (x := u) (by omega), e21, wu (x := n % 4294967296) (by omega), er]
    rw [if_pos (by omega), wu (x := q1 * 4294967296) (by omega), wu (x := q1 * 4294967296 + q0) (by omega)]
    have fin : (hi * 18446744073709551616 + lo) * (2 : Int) ^ s = (q1 * 4294967296 + q0) * v + (r1 * 4294967296 + n % 4294967296 - q0 * v) := by
      rw [← tot, Int.add_mul, Int.mul_right_comm]
      omega
    generalize hrem : r1 * 4294967296 + n % 4294967296 - q0 * v = rem at *
    have remb : 0 ≤ rem ∧ rem < v := by omega
    generalize (hi * 18446744073709551616 + lo) = x at *
    generalize (2 : Int) ^ s = P at *
    have hdiv : x / y = q1 * 4294967296 + q0 := by
      have h1 : (q1 * 4294967296 + q0) * v ≤ x * P := by omega
      have h2 : x * P < (q1 * 4294967296 + q0 + 1) * v := by rw [Int.add_mul _ 1, Int.one_mul]; omega
      rw [← hv, ← Int.mul_assoc] at h1 h2
      have h3 := Int.le_of_mul_le_mul_right h1 hP
      have h4 := Int.lt_of_mul_lt_mul_right h2 (Int.le_of_lt hP)
      have h5 : q1 * 4294967296 + q0 ≤ x / y := (Int.le_ediv_iff_mul_le (by omega)).2 h3
      have h6 : x / y < q1 * 4294967296 + q0 + 1 := Int.ediv_lt_of_lt_mul (by omega) h4
      omega
    have hmod : rem / P = x % y := by
      have h1 := Int.mul_ediv_add_emod x y
      rw [hdiv] at h1
      have : rem = x % y * P := by
        have h2 : x * P = (q1 * 4294967296 + q0) * v + x % y * P := by
          conv => lhs; rw [← h1]
          rw [Int.add_mul, ← hv, Int.mul_comm y, Int.mul_assoc]
        omega
      rw [this]
      exact Int.mul_ediv_cancel _ (by omega)
    rw [hdiv, hmod]
end Go.Sh
end

section
namespace Go.Sh
open Go Go.Proofs Go.RowKit Go.Sx
set_option linter.unusedVariables false
def y142 : List SV := [.c (.p [.d, .r (.floats .f32 []), .d, .d, .r (.recs 2 []), .r (.recs 2 [])])]
def y39 (u7 : List (List Int)) (x0 : (Int × Int × Int)) : Option ((Int × Int × Int) ⊕ (Int × Int)) :=
  if x0.1 < (↑(List.length u7) : Int) then
   if (0 : Int) ≤ x0.1 ∧ x0.1 < (↑(List.length u7) : Int) then
    if Int.toNat x0.1 < List.length u7 then
     Option.bind (G_plus x0.2.1 x0.2.2 (IntKind.wrap .i64 (x0.1 * List.getD (List.getD u7 (Int.toNat x0.1) []) (0 : Nat) (0 : Int))) (IntKind.wrap .i64 (x0.1 * List.getD (List.getD u7 (Int.toNat x0.1) []) (1 : Nat) (0 : Int)))) fun r0 =>
     some (.inl ((IntKind.wrap .i64 (x0.1 + (1 : Int)), IntKind.wrap .i64 (x0.2.1 + IntKind.wrap .i64 (x0.1 * List.getD (List.getD u7 (Int.toNat x0.1) []) (0 : Nat) (0 : Int))), IntKind.wrap .i64 (x0.2.2 + IntKind.wrap .i64 (x0.1 * List.getD (List.getD u7 (Int.toNat x0.1) []) (1 : Nat) (0 : Int))))))
    else none
   else none
  else
   some (.inr (x0.2.1, x0.2.2))
def y59 (u9 : Int) (u10 : List Nat) (u11 : Int) (u12 : Int) (u7 : List (List Int)) (u13 : List (List Int)) (u15 : Int × Int) : Option (Int × Int × Int) :=
  if (0 : Int) ≤ (0 : Int) ∧ (0 : Int) < (↑(List.length u13) : Int) then
   if (0 : Nat) < List.length u13 then
    Option.bind (y13 u15.1 (List.getD (List.getD u13 (0 : Nat) []) (1 : Nat) (0 : Int)) u9 u10 u11 u12 u7 u13) fun r1 =>
    if (0 : Int) ≤ (0 : Int) ∧ (0 : Int) < (↑(List.length u13) : Int) then
     if (0 : Nat) < List.length u13 then
      Option.bind (y13 u15.2 (List.getD (List.getD u13 (0 : Nat) []) (0 : Nat) (0 : Int)) u9 u10 u11 u12 u7 u13) fun r2 =>
      if (r2.2) = true then
       Option.bind (G_ceil (IntKind.wrap .i64 (IntKind.wrap .i64 ((↑(List.length u7) : Int) - (1 : Int)) * (1000000 : Int))) u9) fun r3 =>
       some ((r1.1, if r3 < IntKind.wrap .i64 (r2.1 + (1 : Int)) then r3 else IntKind.wrap .i64 (r2.1 + (1 : Int)), (0 : Int)))
      else
       Option.bind (G_ceil (IntKind.wrap .i64 (IntKind.wrap .i64 ((↑(List.length u7) : Int) - (1 : Int)) * (1000000 : Int))) u9) fun r3 =>
       some ((r1.1, if r3 < r2.1 then r3 else r2.1, (0 : Int)))
     else none
    else none
   else none
  else none
def y2 (u9 : Int) (u10 : List Nat) (u11 : Int) (u12 : Int) (u7 : List (List Int)) (u13 : List (List Int)) : Option (Int × Int × Int) :=
  if (u12 != (0 : Int)) = true then
   some (((0 : Int), (0 : Int), (23 : Int)))
  else
   if (0 : Int) ≤ (0 : Int) ∧ (0 : Int) < (↑(List.length u13) : Int) then
    if (0 : Nat) < List.length u13 then
     if (List.getD (List.getD u13 (0 : Nat) []) (0 : Nat) (0 : Int) == (0 : Int)) = true then
      some (((0 : Int), (0 : Int), (11 : Int)))
     else
      Option.bind (iter (y39 u7) big (((0 : Int), (0 : Int), (0 : Int)))) (y59 u9 u10 u11 u12 u7 u13)
    else none
   else none
def y143 : List Lf → Option GT
  | [.d (.i .i64 u9), .r (.floats .f32 u10), .d (.i .i64 u11), .d (.i .i64 u12), .r (.recs 2 u7), .r (.recs 2 u13)] => some (.leaf (ok (y2 u9 u10 u11 u12 u7 u13)) [.s [.d (.i .i64 ((val (y2 u9 u10 u11 u12 u7 u13)).1)), .d (.i .i64 ((val (y2 u9 u10 u11 u12 u7 u13)).2.1))], .c (.d (.i .i64 ((val (y2 u9 u10 u11 u12 u7 u13)).2.2)))])
  | _ => none
abbrev sp_82 : Specs → Specs := addK 82 true (pureT y142 y143)
set_option maxRecDepth 100000 in
theorem G_decay_centre_vc (u9 : Int) (u10 : List Nat) (u11 : Int) (u12 : Int) (u7 : List (List Int)) (u13 : List (List Int)) (r : Int × Int × Int) (h : Option.bind (y2 u9 u10 u11 u12 u7 u13) some = some r) : runT Tryz.f82 ((sp_117 (sp_125 (sp_119 sp0)))) (fun gs id _ => match id with
 | 1 => some ⟨(Int × Int × Int) × Nat, fun z => ⟨[(1, .w (.c (.p 4 (0 : Nat) 1 (0 : Nat)))), (2, .w (.c (.p 5 (0 : Nat) 1 (0 : Nat)))), (4, .w (.c (.p 6 (0 : Nat) 1 (0 : Nat)))), (33, .w (.c (.o 1))), (34, .w (.c (.d (.i .i64 ((↑(List.length u7) : Int)))))), (35, .w (.c (.d (.i .i64 (Prod.fst (Prod.fst z))))))], [(4, .box 105 [.p 3 (0 : Nat) 1 (0 : Nat)]), (5, .box 30 [.d (.i .i64 (0 : Int)), .d (.i .i64 (0 : Int))]), (6, .box 30 [.d (.i .i64 (Prod.fst (Prod.snd (Prod.fst z)))), .d (.i .i64 (Prod.snd (Prod.snd (Prod.fst z))))]), (1, .ext (.recs 2 u7)), (3, .ebox [.d (.i .i64 u9), .o 0, .d (.i .i64 u11), .d (.i .i64 u12), .o 1, .o 2]), (0, .ext (.floats .f32 u10)), (2, .ext (.recs 2 u13))], 7⟩, fun z => Option.bind (iter (y39 u7) (Prod.snd z) (Prod.fst z)) (fun y0 => Option.bind (y59 u9 u10 u11 u12 u7 u13 y0) some) = some r, fun z => Prod.snd z⟩
 | _ => none) (bldD y142 [.d (.i .i64 u9), .r (.floats .f32 u10), .d (.i .i64 u11), .d (.i .i64 u12), .r (.recs 2 u7), .r (.recs 2 u13)]) [.s [.d (.i .i64 r.1), .d (.i .i64 r.2.1)], .c (.d (.i .i64 r.2.2))] := by
  refine Eq.mp (by kernel_rfl : (
 (Ob (True) ∧
 Br (u12 != (0 : Int))
   ((Ob (True) ∧
 (Ob (True) ∧
 (Ob ((0 : Int) = r.1) ∧
 (Ob ((0 : Int) = r.2.1) ∧
 (Ob ((23 : Int) = r.2.2) ∧
 True))))))
   ((Ob (True) ∧
 (Ob ((0 : Int) ≤ (0 : Int) ∧ (0 : Int) < (↑(List.length u13) : Int)) ∧
 (Ob ((0 : Nat) < List.length u13) ∧
 Br (List.getD (List.getD u13 (0 : Nat) []) (0 : Nat) (0 : Int) == (0 : Int))
   ((Ob (True) ∧
 (Ob (True) ∧
 (Ob ((0 : Int) = r.1) ∧
 (Ob ((0 : Int) = r.2.1) ∧
 (Ob ((11 : Int) = r.2.2) ∧
 True))))))
   ((Ob (True) ∧
   ((∃ (v0 : (Int × Int × Int) × Nat), (Ob ((Option.bind (iter (y39 u7) v0.2 v0.1) fun y0 => Option.bind (y59 u9 u10 u11 u12 u7 u13 y0) some) = some r) ∧
 (Ob ((0 : Nat) = (0 : Nat)) ∧
 (Ob ((0 : Nat) = (0 : Nat)) ∧
 (Ob ((0 : Nat) = (0 : Nat)) ∧
 (Ob ((↑(List.length u7) : Int) = (↑(List.length u7) : Int)) ∧
 (Ob ((0 : Int) = v0.1.1) ∧
 (Ob ((0 : Nat) = (0 : Nat)) ∧
 (Ob ((0 : Int) = (0 : Int)) ∧
 (Ob ((0 : Int) = (0 : Int)) ∧
 (Ob ((0 : Int) = v0.1.2.1) ∧
 (Ob ((0 : Int) = v0.1.2.2) ∧
 (Ob (u7 = u7) ∧
 (Ob (u9 = u9) ∧
 (Ob (u11 = u11) ∧
 (Ob (u12 = u12) ∧
 (Ob (u10 = u10) ∧
 (Ob (u13 = u13) ∧
 True)))))))))))))))))) ∧
   (∀ (v0 : (Int × Int × Int) × Nat), ((Option.bind (iter (y39 u7) v0.2 v0.1) fun y0 => Option.bind (y59 u9 u10 u11 u12 u7 u13 y0) some) = some r →
 Br (decide (v0.1.1 < (↑(List.length u7) : Int)))
   ((Ob ((0 : Int) ≤ v0.1.1 ∧ v0.1.1 < (↑(List.length u7) : Int)) ∧
 (Ob (Int.toNat v0.1.1 < List.length u7) ∧
 (Ob (ok (G_plus v0.1.2.1 v0.1.2.2 (IntKind.wrap .i64 (v0.1.1 * List.getD (List.getD u7 (Int.toNat v0.1.1) []) (0 : Nat) (0 : Int))) (IntKind.wrap .i64 (v0.1.1 * List.getD (List.getD u7 (Int.toNat v0.1.1) []) (1 : Nat) (0 : Int))))) ∧
   (∃ (v1 : (Int × Int × Int) × Nat), (Ob ((Option.bind (iter (y39 u7) v1.2 v1.1) fun y0 => Option.bind (y59 u9 u10 u11 u12 u7 u13 y0) some) = some r) ∧
 (Ob (v1.2 < v0.2) ∧
 (Ob ((0 : Nat) = (0 : Nat)) ∧
 (Ob ((0 : Nat) = (0 : Nat)) ∧
 (Ob ((0 : Nat) = (0 : Nat)) ∧
 (Ob ((↑(List.length u7) : Int) = (↑(List.length u7) : Int)) ∧
 (Ob (IntKind.wrap .i64 (v0.1.1 + (1 : Int)) = v1.1.1) ∧
 (Ob ((0 : Nat) = (0 : Nat)) ∧
 (Ob ((0 : Int) = (0 : Int)) ∧
 (Ob ((0 : Int) = (0 : Int)) ∧
 (Ob (IntKind.wrap .i64 (v0.1.2.1 + IntKind.wrap .i64 (v0.1.1 * List.getD (List.getD u7 (Int.toNat v0.1.1) []) (0 : Nat) (0 : Int))) = v1.1.2.1) ∧
 (Ob (IntKind.wrap .i64 (v0.1.2.2 + IntKind.wrap .i64 (v0.1.1 * List.getD (List.getD u7 (Int.toNat v0.1.1) []) (1 : Nat) (0 : Int))) = v1.1.2.2) ∧
 (Ob (u7 = u7) ∧
 (Ob (u9 = u9) ∧
 (Ob (u11 = u11) ∧
 (Ob (u12 = u12) ∧
 (Ob (u10 = u10) ∧
 (Ob (u13 = u13) ∧
 True)))))))))))))))))))))))
   ((Ob (True) ∧
 (Ob ((0 : Int) ≤ (0 : Int) ∧ (0 : Int) < (↑(List.length u13) : Int)) ∧
 (Ob ((0 : Nat) < List.length u13) ∧
 (Ob (ok (y13 v0.1.2.1 (List.getD (List.getD u13 (0 : Nat) []) (1 : Nat) (0 : Int)) u9 u10 u11 u12 u7 u13)) ∧
 (Ob (True) ∧
 (Ob ((0 : Int) ≤ (0 : Int) ∧ (0 : Int) < (↑(List.length u13) : Int)) ∧
 (Ob ((0 : Nat) < List.length u13) ∧
 (Ob (ok (y13 v0.1.2.2 (List.getD (List.getD u13 (0 : Nat) []) (0 : Nat) (0 : Int)) u9 u10 u11 u12 u7 u13)) ∧
 Br ((val (y13 v0.1.2.2 (List.getD (List.getD u13 (0 : Nat) []) (0 : Nat) (0 : Int)) u9 u10 u11 u12 u7 u13)).2)
   ((Ob (True) ∧
 (Ob (True) ∧
 (Ob (ok (G_ceil (IntKind.wrap .i64 (IntKind.wrap .i64 ((↑(List.length u7) : Int) - (1 : Int)) * (1000000 : Int))) u9)) ∧
 (Ob (True) ∧
 (Ob (True) ∧
 (Ob ((val (y13 v0.1.2.1 (List.getD (List.getD u13 (0 : Nat) []) (1 : Nat) (0 : Int)) u9 u10 u11 u12 u7 u13)).1 = r.1) ∧
 (Ob ((if val (G_ceil (IntKind.wrap .i64 (IntKind.wrap .i64 ((↑(List.length u7) : Int) - (1 : Int)) * (1000000 : Int))) u9) < IntKind.wrap .i64 ((val (y13 v0.1.2.2 (List.getD (List.getD u13 (0 : Nat) []) (0 : Nat) (0 : Int)) u9 u10 u11 u12 u7 u13)).1 + (1 : Int)) then val (G_ceil (IntKind.wrap .i64 (IntKind.wrap .i64 ((↑(List.length u7) : Int) - (1 : Int)) * (1000000 : Int))) u9) else IntKind.wrap .i64 ((val (y13 v0.1.2.2 (List.getD (List.getD u13 (0 : Nat) []) (0 : Nat) (0 : Int)) u9 u10 u11 u12 u7 u13)).1 + (1 : Int))) = r.2.1) ∧
 (Ob ((0 : Int) = r.2.2) ∧
 True)))))))))
   ((Ob (True) ∧
 (Ob (True) ∧
 (Ob (ok (G_ceil (IntKind.wrap .i64 (IntKind.wrap .i64 ((↑(List.length u7) : Int) - (1 : Int)) * (1000000 : Int))) u9)) ∧
 (Ob (True) ∧
 (Ob (True) ∧
 (Ob ((val (y13 v0.1.2.1 (List.getD (List.getD u13 (0 : Nat) []) (1 : Nat) (0 : Int)) u9 u10 u11 u12 u7 u13)).1 = r.1) ∧
 (Ob ((if val (G_ceil (IntKind.wrap .i64 (IntKind.wrap .i64 ((↑(List.length u7) : Int) - (1 : Int)) * (1000000 : Int))) u9) < (val (y13 v0.1.2.2 (List.getD (List.getD u13 (0 : Nat) []) (0 : Nat) (0 : Int)) u9 u10 u11 u12 u7 u13)).1 then val (G_ceil (IntKind.wrap .i64 (IntKind.wrap .i64 ((↑(List.length u7) : Int) - (1 : Int)) * (1000000 : Int))) u9) else (val (y13 v0.1.2.2 (List.getD (List.getD u13 (0 : Nat) []) (0 : Nat) (0 : Int)) u9 u10 u11 u12 u7 u13)).1) = r.2.1) ∧
 (Ob ((0 : Int) = r.2.2) ∧
 True))))))))))))))))))))))))))))) = _) ?_
  refine ob_t ?_
  refine br_b h (fun h => ?_) (fun h => ?_)
  · refine ob_t ?_
    refine ob_t ?_
    exact ret_s h (fun e => by subst e; exact (by repeat' (first | exact trivial | exact ⟨rfl⟩ | refine And.intro ?_ ?_)))
  · refine ob_t ?_
    refine ob_s h fun h => ?_
    refine ob_s h fun h => ?_
    refine br_b h (fun h => ?_) (fun h => ?_)
    · refine ob_t ?_
      refine ob_t ?_
      exact ret_s h (fun e => by subst e; exact (by repeat' (first | exact trivial | exact ⟨rfl⟩ | refine And.intro ?_ ?_)))
    · refine ob_t ?_
      refine ⟨⟨(((0 : Int), (0 : Int), (0 : Int)), big), ⟨loop_s h⟩, (by repeat' (first | exact trivial | exact ⟨rfl⟩ | refine And.intro ?_ ?_))⟩, fun z4 hz4 => ?_⟩
      obtain ⟨k4, hm4, h⟩ := iter_pos hz4
      refine br_d h (fun h => ?_) (fun h => ?_)
      · refine ob_s h fun h => ?_
        refine ob_s h fun h => ?_
        refine call_s h fun h => ?_
        exact ⟨((IntKind.wrap .i64 ((Prod.fst z4).1 + (1 : Int)), IntKind.wrap .i64 ((Prod.fst z4).2.1 + IntKind.wrap .i64 ((Prod.fst z4).1 * List.getD (List.getD u7 (Int.toNat (Prod.fst z4).1) []) (0 : Nat) (0 : Int))), IntKind.wrap .i64 ((Prod.fst z4).2.2 + IntKind.wrap .i64 ((Prod.fst z4).1 * List.getD (List.getD u7 (Int.toNat (Prod.fst z4).1) []) (1 : Nat) (0 : Int)))), k4), ⟨next_s h⟩, ⟨lt_gs hm4.symm⟩, (by repeat' (first | exact trivial | exact ⟨rfl⟩ | refine And.intro ?_ ?_))⟩
      · have h := exit_s h
        refine ob_t ?_
        refine ob_s h fun h => ?_
        refine ob_s h fun h => ?_
        refine call_s h fun h => ?_
        refine ob_t ?_
        refine ob_s h fun h => ?_
        refine ob_s h fun h => ?_
        refine call_s h fun h => ?_
        refine br_b h (fun h => ?_) (fun h => ?_)
        · refine ob_t ?_
          refine ob_t ?_
          refine call_s h fun h => ?_
          refine ob_t ?_
          refine ob_t ?_
          exact ret_s h (fun e => by subst e; exact (by repeat' (first | exact trivial | exact ⟨rfl⟩ | refine And.intro ?_ ?_)))
        · refine ob_t ?_
          refine ob_t ?_
          refine call_s h fun h => ?_
          refine ob_t ?_
          refine ob_t ?_
          exact ret_s h (fun e => by subst e; exact (by repeat' (first | exact trivial | exact ⟨rfl⟩ | refine And.intro ?_ ?_)))
set_option maxRecDepth 100000 in
theorem G_decay_centre_ok : SpecOK Tryz.prog 82 true (pureT y142 y143) := by
  refine pureT_ok (sp := (sp_117 (sp_125 (sp_119 sp0)))) (fn := Tryz.f82) (body := bodyOf Tryz.f82) mixed (sp_117_ok (sp_125_ok (sp_119_ok sp0_ok))) Tryz.func82 (by kernel_rfl) (by kernel_rfl) fun ls t h ho b hb => ?_
  unfold y143 at h
  split at h
  · rename_i u9 u10 u11 u12 u7 u13
    cases h
    obtain rfl := bld_eq hb
    exact ⟨Nat.le_of_ble_eq_true (by kernel_rfl), _, _, G_decay_centre_vc u9 u10 u11 u12 u7 u13 _ (ok_some ho)⟩
  · cases h
theorem sp_82_ok {sp : Specs} (h : SpecsOK Tryz.prog sp) : SpecsOK Tryz.prog (sp_82 sp) := addK_ok G_decay_centre_ok h
def k_G_Centre : List SV := [.a [.d, .r (.floats .f32 []), .d, .d]]
def G_Centre (u4 : Int) (u0 : List Nat) (u6 : Int) (u5 : Int) : Option (Int × Int × Int) :=
  if ((val (G_open u4 u0 u6 u5)).1 != (0 : Int)) = true then
   Option.bind (G_open u4 u0 u6 u5) fun r0 =>
   if (r0.1 != (0 : Int)) = true then
    some (((0 : Int), (0 : Int), r0.1))
   else
    none   else
   Option.bind (G_open u4 u0 u6 u5) fun r0 =>
   Option.bind (y2 u4 u0 u6 u5 r0.2.1 r0.2.2) fun r1 =>
   some (r1.1, r1.2.1, r1.2.2)
def g_G_Centre : List Lf → Option GT
  | [.d (.i .i64 u4), .r (.floats .f32 u0), .d (.i .i64 u6), .d (.i .i64 u5)] => some (.leaf (ok (G_Centre u4 u0 u6 u5)) [.s [.d (.i .i64 ((val (G_Centre u4 u0 u6 u5)).1)), .d (.i .i64 ((val (G_Centre u4 u0 u6 u5)).2.1))], .c (.d (.i .i64 ((val (G_Centre u4 u0 u6 u5)).2.2)))])
  | _ => none
abbrev sp_29 : Specs → Specs := addK 29 true (pureT k_G_Centre g_G_Centre)
set_option maxRecDepth 100000 in
def G_Centre_t (u4 : Int) (u0 : List Nat) (u6 : Int) (u5 : Int) : T (Int × Int × Int) :=
 .brB ((val (G_open u4 u0 u6 u5)).1 != (0 : Int))
  (.call (G_open u4 u0 u6 u5) fun r0 =>
  .brB (r0.1 != (0 : Int))
  (.obT
  (.obT
  (.rc ((((0 : Int), (0 : Int), r0.1))))))
  (.bad (fun r => False)))
  (.call (G_open u4 u0 u6 u5) fun r0 =>
  .call (y2 u4 u0 u6 u5 r0.2.1 r0.2.2) fun r1 =>
  .obT
  (.obT
  (.rc ((r1.1, r1.2.1, r1.2.2)))))
set_option maxRecDepth 100000 in
theorem G_Centre_vc (u4 : Int) (u0 : List Nat) (u6 : Int) (u5 : Int) (r : Int × Int × Int) (h : Option.bind (G_Centre u4 u0 u6 u5) some = some r) : runT Tryz.f29 ((sp_67 (sp_82 sp0))) (fun _ _ _ => none) (bldD k_G_Centre [.d (.i .i64 u4), .r (.floats .f32 u0), .d (.i .i64 u6), .d (.i .i64 u5)]) [.s [.d (.i .i64 r.1), .d (.i .i64 r.2.1)], .c (.d (.i .i64 r.2.2))] :=
  T.vc (t := G_Centre_t u4 u0 u6 u5) (by kernel_rfl) (by kernel_rfl) h
set_option maxRecDepth 100000 in
theorem G_Centre_ok : SpecOK Tryz.prog 29 true (pureT k_G_Centre g_G_Centre) := by
  refine pureT_ok (sp := (sp_67 (sp_82 sp0))) (fn := Tryz.f29) (body := bodyOf Tryz.f29) mixed (sp_67_ok (sp_82_ok sp0_ok)) Tryz.func29 (by kernel_rfl) (by kernel_rfl) fun ls t h ho b hb => ?_
  unfold g_G_Centre at h
  split at h
  · rename_i u4 u0 u6 u5
    cases h
    obtain rfl := bld_eq hb
    exact ⟨Nat.le_of_ble_eq_true (by kernel_rfl), _, _, G_Centre_vc u4 u0 u6 u5 _ (ok_some ho)⟩
  · cases h
theorem sp_29_ok {sp : Specs} (h : SpecsOK Tryz.prog sp) : SpecsOK Tryz.prog (sp_29 sp) := addK_ok G_Centre_ok h
end Go.Sh
end
