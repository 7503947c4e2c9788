/- The contract of CheckSection: a range over a function. -/
import Derived.Test.YtndhdojnlobloaaC2
set_option linter.unusedSectionVars false
set_option linter.unusedSimpArgs false
set_option linter.unusedVariables false
namespace Go.Sx06
set_option linter.unusedVariables false
open Go Go.Proofs Go.RowKit Go.Shelf Go.Sx
attribute [local go_sem] Oper.semAt_some

def partB (n : Int) : Bool := decide (-32768 ≤ n) && decide (n ≤ 32768)
/-- What CheckSection answers: 0, or 2 (out of range). -/
def chkS (b0 b1 b2 a0 a1 : Int) : Int := if [b0, b1, b2, a0, a1].all partB = true then 0 else 2

abbrev agg5 (b0 b1 b2 a0 a1 : Int) : Array Value := #[.int .i64 b0, .int .i64 b1, .int .i64 b2, .int .i64 a0, .int .i64 a1]

set_option maxRecDepth 100000 in
set_option maxHeartbeats 2000000 in
theorem coefs_in (n : Nat) (b0 b1 b2 a0 a1 : Int) (w : World) :
    CallsIn Fence.wide n Try.prog 113 #[.agg (agg5 b0 b1 b2 a0 a1)] w fun e w' => e = .returned (.func (.func 131) #[] #[.pointer (some ⟨w.heap.size, 0, none⟩)]) ∧ w' = w.alloc (.cells (agg5 b0 b1 b2 a0 a1) 36) := by
  refine callsIn_of_wp Try.func113 rfl trivial ?_ rfl
  simp only [Try.ntmps113, List.size_toArray, List.length_cons, List.length_nil, Nat.reduceAdd, Nat.reduceSub, Array.replicate_succ, Array.replicate_zero, List.push_toArray, List.append_toArray, List.nil_append, List.cons_append]
  gi_wp2
  go_ret
  exact ⟨rfl, rfl⟩

/-- isPart, as the kit's walk takes it. -/
theorem isPart_calls (n : Int) (w : World) : Calls Try.prog 96 #[.int .i64 n] w fun e w' => e = .returned (.bool (partB n)) ∧ Below w.heap.size w w' := by
  have h := (isPart_ok.sound Try.func96 (rfl : Try.f96.body = some (Try.f96.body.getD .skip)) (by kernel_rfl)).sound (fun _ => undef) (fun k => k < w.heap.size) w [.w (.c (.d (.i .i64 n)))] [] 0 _ rfl trivial (fun x hx => by
    simp only [List.mem_singleton] at hx; subst hx; trivial) ⟨(fun _ _ h => by cases h), (fun _ _ _ _ _ h => by cases h), fun _ _ h => by cases h⟩ (fun _ h => h)
  refine h.mono ?_
  rintro e w' ⟨ρ', rfl, hl⟩
  exact ⟨rfl, hl.mono rfl⟩

theorem cell_new1 (W : World) (v : Value) (t : TypeId) : (W.alloc (.cells #[v] t)).cell? ⟨W.heap.size, 0, none⟩ = some v ∧ (W.alloc (.cells #[v] t)).frozen? ⟨W.heap.size, 0, none⟩ = false := by
  have h : (W.alloc (.cells #[v] t)).heap[W.heap.size]? = some (.cells #[v] t (0, 0)) := World.alloc_heap_new W (.cells #[v] t)
  constructor
  · unfold World.cell?
    dsimp only
    rw [h]
    rfl
  · unfold World.frozen?
    dsimp only
    rw [h]
    rfl
theorem cell_alloc1 {W : World} {a : Addr} {v : Value} (o : Obj) (h : W.cell? a = some v) : (W.alloc o).cell? a = some v := cell_kept h (World.grownBy_alloc W o none) (fun r e => by cases e)
theorem frozen_alloc1 {W : World} {a : Addr} {v : Value} (o : Obj) (h : W.cell? a = some v) (hf : W.frozen? a = false) : (W.alloc o).frozen? a = false := (frozen_kept h (World.grownBy_alloc W o none) (fun r e => by cases e)).trans hf

theorem kpc_t {n1 : Nat} {A B C : World} (h : KpC n1 A B) (k : KpC n1 B C) : KpC n1 A C := ⟨Nat.le_trans h.size k.size, fun x o hx ho hc => k.same x o hx (h.same x o hx ho hc) hc⟩
theorem kpc_b {n1 : Nat} {w : World} (W : World) (l : Nat) (o o' : Obj) (_ : w.heap.size ≤ l) (h : W.heap[l]? = some o) (hc : o.isCells = false) (_ : o.isWalk = false) : KpC n1 W (W.putObj l o') :=
  ⟨by simp, fun k u _ hk hu => by
    have hne : l ≠ k := fun e => by subst e; rw [h] at hk; cases hk; rw [hc] at hu; cases hu
    exact (World.putObj_heap_other (fun e => hne e.symm)).trans hk⟩
theorem kpc_below {n1 : Nat} {A B : World} (h : Below A.heap.size A B) : KpC n1 A B := ⟨h.size, fun k o _ hk _ => (h.block k (Array.getElem?_eq_some_iff.1 hk).1).trans hk⟩
theorem keeps_below {A B : World} (h : Below A.heap.size A B) : KeepsOthers A B := ⟨h.size, fun k o hk _ => (h.block k (Array.getElem?_eq_some_iff.1 hk).1).trans hk⟩

theorem prs_all {b0 b1 b2 a0 a1 : Int} : (prs [b0, b1, b2, a0, a1] 5).map (·.2) = [b0, b1, b2, a0, a1] := rfl
theorem prs_sub {b0 b1 b2 a0 a1 : Int} {k : Nat} (hk : k ≤ 5) {x : Nat × Int} (hx : x ∈ prs [b0, b1, b2, a0, a1] k) : x.2 ∈ [b0, b1, b2, a0, a1] := by
  have h1 : x ∈ prs [b0, b1, b2, a0, a1] 5 := by
    simp only [prs, List.mem_map, List.mem_range] at hx ⊢
    obtain ⟨j, hj, e⟩ := hx
    exact ⟨j, by omega, e⟩
  rw [← prs_all]
  exact List.mem_map_of_mem h1

set_option maxRecDepth 100000 in
set_option maxHeartbeats 4000000 in
theorem chk_in (b0 b1 b2 a0 a1 : Int) (w : World) :
    CallsIn Fence.wide 9 Try.prog 57 #[.agg (agg5 b0 b1 b2 a0 a1)] w fun e w' => e = .returned (.int .i64 (chkS b0 b1 b2 a0 a1)) ∧ Below w.heap.size w w' := by
  have h1 : 1 ≤ 9 := by omega
  have hro : Fence.wide.round = none := rfl
  refine callsIn_of_wp_marks Try.func57 rfl trivial ?_ hro
  simp only [Try.ntmps57, List.size_toArray, List.length_cons, List.length_nil, Nat.reduceAdd, Nat.reduceSub, Array.replicate_succ, Array.replicate_zero, List.push_toArray, List.append_toArray, List.nil_append, List.cons_append]
  gi_wp2_with (refine ⟨trivial, ?_⟩; gi_at_call 113; refine (coefs_in _ b0 b1 b2 a0 a1 _).mono ?_; rintro e w' ⟨rfl, rfl⟩)
  have c0 : (w.alloc (.cells (agg5 b0 b1 b2 a0 a1) 36)).heap.size = w.heap.size + 1 := World.size_alloc _ _
  have c1 := cell_new1 (w.alloc (.cells (agg5 b0 b1 b2 a0 a1) 36)) (.int .i64 0) 26
  rw [c0] at c1
  have hB0 : Below w.heap.size w (((w.alloc (.cells (agg5 b0 b1 b2 a0 a1) 36)).alloc (.cells #[.int .i64 0] 26)).alloc (.cells (agg5 b0 b1 b2 a0 a1) 36)) := (((Below.refl _ w).alloc (Nat.le_refl _) _).alloc (by simp) _).alloc (by simp; omega) _
  obtain ⟨w2, hw2⟩ : ∃ w2, ((w.alloc (.cells (agg5 b0 b1 b2 a0 a1) 36)).alloc (.cells #[.int .i64 0] 26)).alloc (.cells (agg5 b0 b1 b2 a0 a1) 36) = w2 := ⟨_, rfl⟩
  have hs2 : w2.heap.size = w.heap.size + 3 := by rw [← hw2]; simp
  have hc2 : w2.cell? ⟨w.heap.size + 1, 0, none⟩ = some (.int .i64 0) := by rw [← hw2]; exact cell_alloc1 _ c1.1
  have hf2 : w2.frozen? ⟨w.heap.size + 1, 0, none⟩ = false := by rw [← hw2]; exact frozen_alloc1 _ c1.1 c1.2
  have hh2 : w2.heap[w.heap.size + 1 + 1]? = some (.cells (agg5 b0 b1 b2 a0 a1) 36 (0, 0)) := by
    rw [← hw2]
    have := World.alloc_heap_new ((w.alloc (.cells (agg5 b0 b1 b2 a0 a1) 36)).alloc (.cells #[.int .i64 0] 26)) (.cells (agg5 b0 b1 b2 a0 a1) 36)
    rw [World.size_alloc, c0] at this
    exact this
  rw [hw2] at hB0 ⊢
  refine wpIn_rangeFunc_ownF hro h1 (gf := 131) (lb := #[.pointer (some ⟨w.heap.size + 1 + 1, 0, none⟩)]) rfl trivial (enters_of Try.func131 (by kernel_rfl) rfl)
    (α := Nat × Int) (encs := fun x => #[.int .i64 (x.1 : Int), .int .i64 x.2]) (Kp := KpC w2.heap.size) (S := fun ys => ys = prs [b0, b1, b2, a0, a1] 5) (Sp := fun pre => ∃ k, k ≤ 5 ∧ pre = prs [b0, b1, b2, a0, a1] k) (N := 5) (w0 := w2)
    (fun l J Jx W hW hJ hJx hY h0 => coef1_in _ l (w.heap.size + 1 + 1) w2.heap.size b0 b1 b2 a0 a1 J Jx hY W hW.size hJ ((hW.block _ (by omega)).trans hh2) h0) kpc_t kpc_b (Below.refl _ _) (fun _ => rfl)
    (fun pre W => ((∀ y ∈ pre, partB y.2 = true) ∧ W.cell? ⟨w.heap.size + 1, 0, none⟩ = some (.int .i64 0) ∧ W.frozen? ⟨w.heap.size + 1, 0, none⟩ = false) ∧ Below w.heap.size w W)
    (fun c pre W => (c = .ret ∧ (∃ y ∈ pre, partB y.2 = false) ∧ W.cell? ⟨w.heap.size + 1, 0, none⟩ = some (.int .i64 2)) ∧ Below w.heap.size w W)
    (OwnFrom.and (Own.from (fun s A B row hs hg hr => ⟨hs.1, cell_kept hs.2.1 hg hr, (frozen_kept hs.2.1 hg hr).trans hs.2.2⟩) _) (ownFrom_below (Nat.le_refl _) (by omega)))
    (fun c => OwnFrom.and (Own.from (fun s A B row hs hg hr => ⟨hs.1, hs.2.1, cell_kept hs.2.2 hg hr⟩) _) (ownFrom_below (Nat.le_refl _) (by omega)))
    ⟨⟨by simp, hc2, hf2⟩, hB0⟩
    (fun x => { tmps := #[Value.agg (agg5 b0 b1 b2 a0 a1), Value.pointer (some { block := w.heap.size, off := 0 }), Value.pointer (some { block := w.heap.size + 1, off := 0 }), undef, .int .i64 x.2, Value.agg (agg5 b0 b1 b2 a0 a1), .func (.func 131) #[] #[.pointer (some ⟨w.heap.size + 1 + 1, 0, none⟩)], .int .i64 (x.1 : Int), .int .i64 x.2, undef, undef, undef], defers := [] }) ?assign ?body ?done ?stop
  case assign =>
    intro l x W K hK
    gi_wp2
    exact hK
  case body =>
    rintro l pre x W ⟨⟨hp, hcr, hfr⟩, hB⟩ _
    have hlt : w.heap.size + 1 < W.heap.size := World.block_lt_of_cell? W ⟨w.heap.size + 1, 0, none⟩ hcr
    gi_wp2_with (refine ⟨trivial, ?_⟩; gi_at_call 96; refine (CallsIn.inRound l (callsIn_wide.2 (isPart_calls x.2 W))).mono ?_; rintro e w' ⟨rfl, hBw⟩; have hcw := (hBw.cell (p := ⟨w.heap.size + 1, 0, none⟩) hlt).trans hcr; have hfw := (hBw.frozen (p := ⟨w.heap.size + 1, 0, none⟩) hlt).trans hfr)
    · rename_i hx
      have hB' : Below w.heap.size w w' := hB.trans (hBw.mono (by omega))
      exact ⟨(keeps_below hBw).trans (KeepsOthers.setCell _ _ _), ⟨rfl, ⟨x, List.mem_append.2 (.inr (by simp)), by simpa using hx⟩, World.cell?_setCell_same' _ _ _ (by rw [hcw]; rfl)⟩, hB'.setCell (p := ⟨w.heap.size + 1, 0, none⟩) (by simp) _⟩
    · rename_i hx
      have hB' : Below w.heap.size w w' := hB.trans (hBw.mono (by omega))
      exact ⟨keeps_below hBw, kpc_below hBw, ⟨fun y hy => (List.mem_append.1 hy).elim (hp y) (fun e => by simp at e; subst e; simpa using hx), hcw, hfw⟩, hB'⟩
  case done =>
    rintro D ys W hD rfl ⟨⟨hne, hcr, hfr⟩, hB⟩ hK
    gi_wp2
    have hK' := (KeepsOthers.setCell W ⟨w.heap.size + 1, 0, none⟩ (.int .i64 0)).same D _ hK rfl
    refine ⟨by simp, .inl ⟨_, _, rfl, run_takeDeferred hK', ?_⟩⟩
    have hc5 := cell_kept (World.cell?_setCell_same' W ⟨w.heap.size + 1, 0, none⟩ (.int .i64 0) (by rw [hcr]; rfl)) (grownBy_putObj' _ D (.deferred none)) (fun r e => by cases e; exact ⟨_, hK', rfl⟩)
    have hall : chkS b0 b1 b2 a0 a1 = 0 := by
      unfold chkS
      rw [if_pos]
      rw [← prs_all, List.all_map]
      exact List.all_eq_true.2 fun y hy => hne y hy
    refine ⟨.int .i64 0, ?_, by rw [hall], (hB.setCell (p := ⟨w.heap.size + 1, 0, none⟩) (by simp) _).trans (belowK_b (w := w) (Nat.le_refl _) _ D _ _ (by omega) hK' rfl rfl)⟩
    simp [results, Try.f57, go_sem, hc5]
  case stop =>
    rintro D c pre W hD ⟨k, hk, rfl⟩ ⟨⟨rfl, ⟨y, hy, hpy⟩, hcr⟩, hB⟩ hK
    gi_wp2
    refine ⟨by simp, .inl ⟨_, _, rfl, run_takeDeferred hK, ?_⟩⟩
    have hc5 := cell_kept hcr (grownBy_putObj' _ D (.deferred none)) (fun r e => by cases e; exact ⟨_, hK, rfl⟩)
    have hall : chkS b0 b1 b2 a0 a1 = 2 := by
      unfold chkS
      rw [if_neg]
      intro h
      have := List.all_eq_true.1 h y.2 (prs_sub hk hy)
      rw [hpy] at this
      cases this
    refine ⟨.int .i64 2, ?_, by rw [hall], hB.trans (belowK_b (w := w) (Nat.le_refl _) W D _ _ (by omega) hK rfl rfl)⟩
    simp [results, Try.f57, go_sem, hc5]

def gCheckSection : List A → Option (Prop × List RV)
  | [.s [.i .i64 b0, .i .i64 b1, .i .i64 b2, .i .i64 a0, .i .i64 a1]] => some (True, [.d (.i .i64 (chkS b0 b1 b2 a0 a1))])
  | _ => none

/-- A contract in the kit's words, for a function that returns data alone. -/
theorem spec_of_calls {f : Nat} {fn : Func} {body : Code} {g : List A → Option (Prop × List RV)} (hf : Try.prog.funcs[f]? = some fn) (hb : fn.body = some body) (hn : (fn.name == "runtime.NumGoroutine") = false)
    (h : ∀ (args : List V) (as_ : List A) ob rs (ρ : Env) (w : World), toAs [] args = some as_ → g as_ = some (ob, rs) → ob → Calls Try.prog f (args.map (V.val ρ)).toArray w fun e w' => e = .returned ((tupV (rvW 0 rs)).val ρ) ∧ Below w.heap.size w w')
    (hd : ∀ as_ ob rs, g as_ = some (ob, rs) → (∀ a ∈ as_, ∀ c, a ≠ .r c) ∧ ∀ r ∈ rs, ∀ t c, r ≠ .row t c) : SpecOK Try.prog f true (pureS g) := by
  refine .inl ⟨enter_ok hf hb hn, fun ρ B w args hp nx r hS hob hlt hh hB => ?_⟩
  unfold pureS at hS
  split at hS
  · rename_i as_ has
    split at hS
    · rename_i ob rs hg
      cases hS
      obtain ⟨h1, h2⟩ := hd as_ ob rs hg
      have has' : ∀ (args : List V) (as_ : List A), toAs hp args = some as_ → (∀ a ∈ as_, ∀ c, a ≠ .r c) → toAs [] args = some as_ := by
        intro args
        induction args with
        | nil => intro as_ h _; exact h
        | cons v vs ih =>
          intro as_ h hno
          simp only [toAs] at h ⊢
          split at h
          · rename_i a r ha hr
            cases h
            have e1 : toA [] v = some a := by
              unfold toA at ha ⊢
              split at ha
              · exact ha
              · exact ha
              · exact ha
              · split at ha
                · split at ha
                  · cases ha
                  · cases ha
                    exact absurd rfl (hno _ List.mem_cons_self _)
                · cases ha
              · cases ha
            rw [e1, ih r hr (fun a ha => hno a (List.mem_cons_of_mem _ ha))]
          · cases h
      have hrv : ∀ (rs : List RV) (n m : Nat) (hp : Hp), (∀ r ∈ rs, ∀ t c, r ≠ .row t c) → rvW n rs = rvW m rs ∧ rvHp n rs hp = hp ∧ rvNx n rs = n ∧ ∀ x ∈ rvW n rs, W.lt n x := by
        intro rs
        induction rs with
        | nil => exact fun n m hp _ => ⟨rfl, rfl, rfl, fun _ h => by cases h⟩
        | cons r rs ih =>
          intro n m hp hno
          have ih := ih n m hp (fun r hr => hno r (List.mem_cons_of_mem _ hr))
          cases r with
          | d x => exact ⟨by simp only [rvW, ih.1], ih.2.1, ih.2.2.1, fun u hu => by
              rcases List.mem_cons.1 hu with rfl | hu
              · trivial
              · exact ih.2.2.2 u hu⟩
          | s l => exact ⟨by simp only [rvW, ih.1], ih.2.1, ih.2.2.1, fun u hu => by
              rcases List.mem_cons.1 hu with rfl | hu
              · intro y hy
                obtain ⟨z, _, rfl⟩ := List.mem_map.1 hy
                trivial
              · exact ih.2.2.2 u hu⟩
          | row t c => exact absurd rfl (hno _ List.mem_cons_self t c)
      refine (h args as_ ob rs ρ w (has' args as_ has h1) hg hob).mono ?_
      rintro e w' ⟨rfl, hbl⟩
      obtain ⟨e1, e2, e3, e4⟩ := hrv rs nx 0 hp h2
      refine ⟨ρ, by rw [← e1]; rfl, Agree.refl _ _, (?_ : V.lt (rvNx nx rs) (tupV (rvW nx rs))), (?_ : nx ≤ rvNx nx rs), (?_ : HRel ρ B (rvHp nx rs hp) (rvNx nx rs) _), bel_of hbl hB, fun _ => hbl, fun _ h o k hle hf _ => ?_⟩
      · rw [e3]
        exact tupV_lt e4
      · rw [e3]
        exact Nat.le_refl _
      · rw [e2, e3]
        exact hh.below hbl hB
      · have hf : find (rvHp nx rs hp) h = some o := hf
        rw [e2] at hf
        have := (hh.ok h o hf).1
        omega
    · cases hS
  · cases hS

set_option maxRecDepth 100000 in
theorem checkSection_ok : SpecOK Try.prog 57 true (pureS gCheckSection) := by
  refine spec_of_calls (fn := Try.f57) (body := bodyOf Try.f57) Try.func57 (by kernel_rfl) (by kernel_rfl) ?_ ?_
  · intro args as_ ob rs ρ w has hg ho
    unfold gCheckSection at hg
    split at hg
    · rename_i b0 b1 b2 a0 a1
      cases hg
      have e : (args.map (V.val ρ)).toArray = #[.agg (agg5 b0 b1 b2 a0 a1)] := by
        have hto := toAs_spec (ρ := ρ) (B := fun _ => False) (nx := 0) (hp := []) (w := w) ⟨(fun _ _ h => by cases h), (fun _ _ _ _ _ h => by cases h), fun _ _ h => by cases h⟩ args _ 0 (fun i => (args[i]?.map (V.val ρ)).getD undef) has (fun i v hv => by simp [hv])
        rw [← hto.1]
        rfl
      rw [e]
      refine (callsIn_wide.1 (chk_in b0 b1 b2 a0 a1 w)).mono ?_
      rintro e w' ⟨rfl, h⟩
      exact ⟨rfl, h⟩
    · cases hg
  · intro as_ ob rs hg
    unfold gCheckSection at hg
    split at hg
    · cases hg
      refine ⟨fun a ha c => ?_, fun r hr t c => ?_⟩
      · simp only [List.mem_singleton] at ha; subst ha; exact fun h => by cases h
      · simp only [List.mem_singleton] at hr; subst hr; exact fun h => by cases h
    · cases hg
end Go.Sx06
