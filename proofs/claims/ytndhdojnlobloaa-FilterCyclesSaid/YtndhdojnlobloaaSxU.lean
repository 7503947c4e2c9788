/- A symbolic executor for the model's code: contracts of functions that read, and make. -/
import Derived.Test.YtndhdojnlobloaaSxT
set_option linter.unusedSectionVars false
set_option linter.unusedSimpArgs false
set_option linter.unusedVariables false
open Go.RowKit
namespace Go.Sx

/-- What a reading function takes: a cell, a struct of cells, a slice that reads as its content. -/
inductive A where
  | d (x : D)
  | s (l : List D)
  | r (c : Cont)
  | f (n : Nat)

/-- What it returns: a cell, a struct of cells, a row of its own. -/
inductive RV where
  | d (x : D)
  | s (l : List D)
  | row (ty : Nat) (c : Cont)

def toA (hp : Hp) : V → Option A
  | .w (.c (.d x)) => some (.d x)
  | .w (.a l) => (dsOf l).map .s
  | .w (.c (.fn n [])) => some (.f n)
  | .w (.c (.o h)) => match (find hp h).bind O.cont with
    | some c => match c.e with
      | 0 => none
      | _ + 1 => some (.r c)
    | none => none
  | _ => none

def toAs (hp : Hp) : List V → Option (List A)
  | [] => some []
  | v :: l => match toA hp v, toAs hp l with
    | some a, some r => some (a :: r)
    | _, _ => none

def argV (n : Nat) : A → V
  | .d x => .w (.c (.d x))
  | .s l => .w (.a (l.map C.d))
  | .r _ => .w (.c (.o n))
  | .f g => .w (.c (.fn g []))
def argVs : Nat → List A → List V
  | _, [] => []
  | n, a :: l => argV n a :: argVs (n + 1) l
def argHp : Nat → List A → Hp
  | _, [] => []
  | n, .r c :: l => (n, .ext c) :: argHp (n + 1) l
  | n, _ :: l => argHp (n + 1) l

/-- The result's parts, with the rows numbered from n on. -/
def rvW : Nat → List RV → List W
  | _, [] => []
  | n, .d x :: l => .c (.d x) :: rvW n l
  | n, .s c :: l => .a (c.map C.d) :: rvW n l
  | n, .row _ _ :: l => .c (.o n) :: rvW (n + 1) l
def rvHp : Nat → List RV → Hp → Hp
  | _, [], hp => hp
  | n, .row ty c :: l, hp => rvHp (n + 1) l ((n, .row ty c) :: hp)
  | n, .d _ :: l, hp => rvHp n l hp
  | n, .s _ :: l, hp => rvHp n l hp
def rvNx : Nat → List RV → Nat
  | n, [] => n
  | n, .row _ _ :: l => rvNx (n + 1) l
  | n, .d _ :: l => rvNx n l
  | n, .s _ :: l => rvNx n l

/-- A reading function's contract in the executor's words. -/
def pureS (g : List A → Option (Prop × List RV)) : Spec := fun vs hp nx =>
  match toAs hp vs with
  | some as => match g as with
    | some (ob, rs) => some (.leaf ⟨ob, tupV (rvW nx rs), rvHp nx rs hp, rvNx nx rs⟩)
    | none => none
  | none => none

/-- Two lists of cells are the same, cell by cell. -/
def sameDs : List D → List D → Prop → Prop
  | [], [], k => k
  | x :: l, y :: m, k => mD y x ∧ sameDs l m k
  | _, _, _ => False

theorem sameDs_spec [Globs] {k : Prop} : ∀ {l m : List D}, sameDs l m k → l = m ∧ k
  | [], [], h => ⟨rfl, h⟩
  | x :: l, y :: m, h => by
    have := sameDs_spec h.2
    exact ⟨by rw [mD_spec h.1, this.1], this.2⟩
  | [], _ :: _, h => h.elim
  | _ :: _, [], h => h.elim

/-- The result is as told. -/
def fitsW (hp : Hp) : List RV → List W → List Nat → Prop
  | [], [], _ => True
  | .d x :: rs, .c (.d y) :: ws, us => mD x y ∧ fitsW hp rs ws us
  | .s l :: rs, .a cs :: ws, us => match dsOf cs with
    | some ds => sameDs ds l (fitsW hp rs ws us)
    | none => False
  | .row ty c :: rs, .c (.o h) :: ws, us => match us.contains h with
    | true => False
    | false => match find hp h with
      | some (.row ty' c') => match Nat.beq ty' ty with
        | true => mCont c c' ∧ fitsW hp rs ws (h :: us)
        | false => False
      | _ => False
  | .row _ c :: rs, .c (.d (.v (.slice none 0 0))) :: ws, us => Ob (c.n = 0) ∧ fitsW hp rs ws us
  | _, _, _ => False

def fitsV (rs : List RV) (v : V) (hp : Hp) : Prop := match v with
  | .w u => fitsW hp rs [u] []
  | .t [_] => False
  | .t l => fitsW hp rs l []

theorem enter_ok {P : Program} {f : Nat} {fn : Func} {body : Code} (hf : P.funcs[f]? = some fn) (hb : fn.body = some body) (hn : (fn.name == "runtime.NumGoroutine") = false) (args : Array Value) (w : World) :
    (callFunc f args).run P w = .ok (.enter f args) w := by
  unfold callFunc
  simp only [Sem.run_bind, run_program, Result.andThen_ok, hf, hn, Bool.false_eq_true, if_false, hb, Option.isNone_some]
  rfl

/-- What a call of a function of the program does. -/
theorem SpecOK.sound [Globs] {P : Program} {f : Nat} {fn : Func} {body : Code} {M : Bool} {S : Spec} (h : SpecOK P f M S) (hf : P.funcs[f]? = some fn) (hb : fn.body = some body) (hn : (fn.name == "runtime.NumGoroutine") = false) : RunOK P f M S := by
  rcases h with h | h
  · exact h
  · refine ⟨enter_ok hf hb hn, fun ρ B w args hp nx t hS hob hlt hh hB => ?_⟩
    obtain ⟨ob, v, _, _, hrun⟩ := h ρ B w args hp nx t hS hob hlt hh hB
    rw [enter_ok hf hb hn] at hrun
    cases hrun

section
variable [Globs] {P : Program} {sp : Specs} {ρ : Env} {B : Bd} {nx : Nat} {hp : Hp} {w w' : World}

theorem toAs_spec (hh : HRel ρ B hp nx w) : ∀ (vs : List V) (as : List A) (n : Nat) (ρ0 : Env), toAs hp vs = some as → (∀ i v, vs[i]? = some v → ρ0 (n + i) = v.val ρ) →
    (argVs n as).map (V.val ρ0) = vs.map (V.val ρ) ∧ as.length = vs.length ∧ (∀ x ∈ argVs n as, V.lt (n + as.length) x) ∧
      ∀ h o, find (argHp n as) h = some o → n ≤ h ∧ h < n + as.length ∧ ∃ c, o = .ext c ∧ IsRow w (ρ0 h) c ∧ OldRow (fun k => k < w.heap.size) (ρ0 h)
  | [], as, n, ρ0, h, _ => by
    simp only [toAs, Option.some.injEq] at h
    subst h
    exact ⟨rfl, rfl, (fun _ h => by cases h), fun _ _ h => by cases h⟩
  | v :: vs, as, n, ρ0, h, hρ => by
    simp only [toAs] at h
    split at h
    · rename_i a r ha hr
      cases h
      have ih := toAs_spec hh vs r (n + 1) ρ0 hr (fun i v hv => by rw [show n + 1 + i = n + (i + 1) by omega]; exact hρ (i + 1) v (by simpa using hv))
      have h0 := hρ 0 v rfl
      rw [Nat.add_zero] at h0
      have hv : (argV n a).val ρ0 = v.val ρ ∧ V.lt (n + (r.length + 1)) (argV n a) ∧ ∀ c, a = .r c → IsRow w (ρ0 n) c ∧ OldRow (fun k => k < w.heap.size) (ρ0 n) := by
        unfold toA at ha
        split at ha
        · cases ha; exact ⟨rfl, trivial, fun _ h => by cases h⟩
        · rename_i l
          cases hd : dsOf l with
          | none => simp [hd] at ha
          | some ds =>
            simp only [hd, Option.map_some, Option.some.injEq] at ha
            subst ha
            rw [dsOf_eq hd]
            refine ⟨?_, (fun x hx => ?_), fun _ h => by cases h⟩
            · simp [argV, V.val, W.val, C.val, Function.comp_def]
            · obtain ⟨y, _, rfl⟩ := List.mem_map.1 hx
              trivial
        · cases ha
          exact ⟨rfl, (fun _ h => by cases h), fun _ h => by cases h⟩
        · rename_i k
          split at ha
          · rename_i c hc
            split at ha
            · cases ha
            · rename_i e he
              cases ha
              cases hf : find hp k with
              | none => simp [hf] at hc
              | some o =>
                simp only [hf, Option.bind_some] at hc
                have hrow := row_isRow (hh.ok k o hf).2.2 hc
                have e0 : ρ0 n = ρ k := h0
                refine ⟨e0, (show n < n + (r.length + 1) by omega), fun c' hc' => ?_⟩
                cases hc'
                rw [e0]
                exact ⟨hrow, IsRow.lt hrow (by omega)⟩
          · cases ha
        · cases ha
      have hag : ∀ x, V.lt (n + 1 + r.length) x → V.lt (n + (r.length + 1)) x := fun x hx => V.lt_mono (by omega) hx
      refine ⟨by simp only [argVs, List.map_cons, hv.1, ih.1], by simp [ih.2.1], fun x hx => ?_, fun h o hf => ?_⟩
      · rcases List.mem_cons.1 hx with rfl | hx
        · simpa using hv.2.1
        · simpa using hag x (ih.2.2.1 x hx)
      · cases a with
        | r c =>
          simp only [argHp, find] at hf
          split at hf
          · rename_i e
            subst e
            cases hf
            exact ⟨Nat.le_refl _, by simp, c, rfl, hv.2.2 c rfl⟩
          · have := ih.2.2.2 h o hf
            simp only [List.length_cons]
            exact ⟨by omega, by omega, this.2.2⟩
        | d x => have := ih.2.2.2 h o hf; simp only [List.length_cons]; exact ⟨by omega, by omega, this.2.2⟩
        | s x => have := ih.2.2.2 h o hf; simp only [List.length_cons]; exact ⟨by omega, by omega, this.2.2⟩
        | f x => have := ih.2.2.2 h o hf; simp only [List.length_cons]; exact ⟨by omega, by omega, this.2.2⟩
    · cases h

theorem glob_all (h : GlobOK B w) (hB : Old B w) : GlobOK (fun k => k < w.heap.size) w := fun g c hg => ⟨hB g (h g c hg).1, (h g c hg).2⟩

/-- One object more. -/
theorem HRel.add1 (h : HRel ρ B hp nx w) {v : Value} {o : O} (hl : o.lt (nx + 1)) (ho : o.ok (upd ρ nx v) B w nx) (hap : ∀ k o' b, find hp k = some o' → o'.blk (ρ k) = some b → o.blk v ≠ some b) :
    HRel (upd ρ nx v) B ((nx, o) :: hp) (nx + 1) w := by
  have h1 := (h.agree (upd_agree ρ nx v)).mono_nx (Nat.le_succ nx)
  refine ⟨?_, ?_, h1.glob⟩
  · intro k o' hf
    simp only [find] at hf
    split at hf
    · rename_i e; subst e; cases hf; exact ⟨by omega, hl, ho⟩
    · exact h1.ok k o' hf
  · intro k o1 k' o2 b hf hf' hne hb hb'
    simp only [find] at hf hf'
    split at hf
    · rename_i e
      subst e
      cases hf
      rw [if_neg hne] at hf'
      rw [upd_same] at hb
      rw [upd_agree ρ nx v k' (h.ok k' o2 hf').1] at hb'
      exact hap k' o2 b hf' hb' hb
    · split at hf'
      · rename_i e
        subst e
        cases hf'
        rw [upd_same] at hb'
        rw [upd_agree ρ nx v k (h.ok k o1 hf).1] at hb
        exact hap k o1 b hf hb hb'
      · exact h1.apart k o1 k' o2 b hf hf' hne hb hb'

/-- The results, put into the caller's heap. -/
theorem rv_spec {B0 : Bd} {hp' : Hp} {nx' : Nat} {ρ' : Env} {m : Nat} {us0 : List Nat} (hB0 : ∀ k, k < m → B0 k ∨ ∀ u o b, us0.contains u = false → find hp' u = some o → (∃ ty c, o = .row ty c) → o.blk (ρ' u) = some b → b ≠ k) (hBm : ∀ k, B k → k < m) (hh' : HRel ρ' B0 hp' nx' w') :
    ∀ (rs : List RV) (ws : List W) (us : List Nat) (nx : Nat) (hp : Hp) (ρ : Env), (∀ x, us0.contains x = true → us.contains x = true) → fitsW hp' rs ws us → HRel ρ B hp nx w' →
      (∀ k o b, find hp k = some o → o.blk (ρ k) = some b → b < m ∨ ∃ u ∈ us, ∃ ou, find hp' u = some ou ∧ ou.blk (ρ' u) = some b) →
      ∃ ρ'', Agree nx ρ ρ'' ∧ HRel ρ'' B (rvHp nx rs hp) (rvNx nx rs) w' ∧ nx ≤ rvNx nx rs ∧ (∀ x ∈ rvW nx rs, W.lt (rvNx nx rs) x) ∧ ws.map (W.val ρ') = (rvW nx rs).map (W.val ρ'') ∧
        ∀ h o k, find (rvHp nx rs hp) h = some o → (nx ≤ h → o.blk (ρ'' h) = some k → m ≤ k) ∧ (h < nx → find hp h = some o)
  | [], ws, us, nx, hp, ρ, _, hf, hh, _ => by
    cases ws with
    | nil => exact ⟨ρ, Agree.refl _ _, hh, Nat.le_refl _, (fun _ h => by cases h), rfl, fun h o k hf => ⟨fun hle _ => absurd (hh.ok h o hf).1 (by omega), fun _ => hf⟩⟩
    | cons w ws => cases w <;> exact hf.elim
  | .d x :: rs, ws, us, nx, hp, ρ, hsu, hf, hh, hinv => by
    match ws, hf with
    | .c (.d y) :: ws, hf =>
      obtain ⟨ρ'', h1, h2, h3, h4, h5, h6⟩ := rv_spec hB0 hBm hh' rs ws us nx hp ρ hsu hf.2 hh hinv
      refine ⟨ρ'', h1, h2, h3, fun u hu => ?_, ?_, h6⟩
      · rcases List.mem_cons.1 hu with rfl | hu
        · trivial
        · exact h4 u hu
      · rw [← mD_spec hf.1]
        simp only [List.map_cons, rvW, h5]
        rfl
  | .s l :: rs, ws, us, nx, hp, ρ, hsu, hf, hh, hinv => by
    match ws, hf with
    | .a cs :: ws, hf =>
      simp only [fitsW] at hf
      split at hf
      · rename_i ds hds
        obtain ⟨hl, hf2⟩ := sameDs_spec hf
        subst hl
        obtain ⟨ρ'', h1, h2, h3, h4, h5, h6⟩ := rv_spec hB0 hBm hh' rs ws us nx hp ρ hsu hf2 hh hinv
        refine ⟨ρ'', h1, h2, h3, fun u hu => ?_, ?_, h6⟩
        · rcases List.mem_cons.1 hu with rfl | hu
          · intro x hx
            obtain ⟨y, _, rfl⟩ := List.mem_map.1 hx
            trivial
          · exact h4 u hu
        · rw [dsOf_eq hds]
          simp only [List.map_cons, rvW, h5]
          congr 1
          simp [W.val, C.val, Function.comp_def]
      · exact hf.elim
  | .row ty c :: rs, ws, us, nx, hp, ρ, hsu, hf, hh, hinv => by
    match ws, hf with
    | .c (.o h) :: ws, hq =>
      rw [fitsW] at hq
      split at hq
      · exact hq.elim
      · rename_i hus
        split at hq
        · rename_i ty' c' hfind
          split at hq
          · rename_i hty
            have hty : ty' = ty := Nat.eq_of_beq_eq_true hty
            subst hty
            have hc := (mCont_spec hq.1).symm
            subst hc
            have hok := (hh'.ok h _ hfind).2.2
            have hblk : ∀ b, (ρ' h).ownBlock = some b → m ≤ b := fun b hb => by
              rcases Nat.lt_or_ge b m with hlt | hge
              · rcases hB0 b hlt with h1 | h1
                · exact absurd h1 (hok.2 b hb)
                · have hu0 : us0.contains h = false := by
                    cases hc : us0.contains h with
                    | false => rfl
                    | true => rw [hsu h hc] at hus; cases hus
                  exact absurd rfl (h1 h _ b hu0 hfind ⟨_, _, rfl⟩ hb)
              · exact hge
            have hadd := hh.add1 (v := ρ' h) (o := .row ty' c') trivial (by
              refine ⟨by rw [upd_same]; exact hok.1, fun b hb hBb => ?_⟩
              rw [upd_same] at hb
              have := hblk b hb
              have := hBm b hBb
              omega) (fun k o' b hk hb hb2 => by
                rcases hinv k o' b hk hb with h1 | ⟨u, hu, ou, h1, h2⟩
                · have := hblk b hb2; omega
                · refine hh'.apart h _ u ou b hfind h1 (fun e => ?_) hb2 h2
                  subst e
                  rw [List.contains_iff_mem.2 hu] at hus
                  cases hus)
            obtain ⟨ρ'', h1, h2, h3, h4, h5, h6⟩ := rv_spec hB0 hBm hh' rs ws (h :: us) (nx + 1) ((nx, .row ty' c') :: hp) (upd ρ nx (ρ' h)) (fun x hx => by have := hsu x hx; simp at this ⊢; exact .inr this) hq.2 hadd (fun k o b hk hb => by
              simp only [find] at hk
              split at hk
              · rename_i e
                subst e
                cases hk
                rw [upd_same] at hb
                exact .inr ⟨h, List.mem_cons_self, _, hfind, hb⟩
              · rw [upd_agree ρ nx (ρ' h) k (hh.ok k o hk).1] at hb
                rcases hinv k o b hk hb with h1 | ⟨u, hu, ou, h1, h2⟩
                · exact .inl h1
                · exact .inr ⟨u, List.mem_cons_of_mem _ hu, ou, h1, h2⟩)
            have hnx : ρ'' nx = ρ' h := by rw [h1 nx (Nat.lt_succ_self nx), upd_same]
            refine ⟨ρ'', fun k hk => by rw [h1 k (by omega), upd_agree ρ nx (ρ' h) k hk], h2, by unfold rvNx; omega, fun u hu => ?_, ?_, fun k o b hk => ?_⟩
            · rcases List.mem_cons.1 hu with rfl | hu
              · exact Nat.lt_of_lt_of_le (Nat.lt_succ_self nx) h3
              · exact h4 u hu
            · simp only [List.map_cons, rvW, h5]
              congr 1
              exact hnx.symm
            · have h7 := h6 k o b hk
              refine ⟨fun hle hb => ?_, fun hlt => ?_⟩
              · by_cases hle2 : nx + 1 ≤ k
                · exact h7.1 hle2 hb
                · have e : k = nx := by omega
                  subst e
                  have h8 := h7.2 (Nat.lt_succ_self k)
                  simp only [find, if_true] at h8
                  cases h8
                  rw [hnx] at hb
                  exact hblk b hb
              · have h8 := h7.2 (by omega)
                simp only [find] at h8
                rw [if_neg (by omega)] at h8
                exact h8
          · exact hq.elim
        · exact hq.elim
    | .c (.d (.v (.slice none 0 0))) :: ws, hf =>
      simp only [fitsW] at hf
      have hn := hf.1.h
      have hfl : c.flat = [] := List.eq_nil_of_length_eq_zero (by rw [Cont.flat_length, hn, Nat.zero_mul])
      have hadd := hh.add1 (v := .slice none 0 0) (o := .row ty c) trivial (by
        refine ⟨?_, fun b hb => ?_⟩
        · rw [upd_same, hfl, hn]
          exact World.ownsRow_nil w' 0 ty c.e
        · rw [upd_same] at hb; cases hb) (fun k o' b hk hb hb2 => by cases hb2)
      obtain ⟨ρ'', h1, h2, h3, h4, h5, h6⟩ := rv_spec hB0 hBm hh' rs ws us (nx + 1) ((nx, .row ty c) :: hp) (upd ρ nx (.slice none 0 0)) hsu hf.2 hadd (fun k o b hk hb => by
        simp only [find] at hk
        split at hk
        · rename_i e
          subst e
          cases hk
          rw [upd_same] at hb
          cases hb
        · rw [upd_agree ρ nx _ k (hh.ok k o hk).1] at hb
          exact hinv k o b hk hb)
      have hnx : ρ'' nx = .slice none 0 0 := by rw [h1 nx (Nat.lt_succ_self nx), upd_same]
      refine ⟨ρ'', fun k hk => by rw [h1 k (by omega), upd_agree ρ nx _ k hk], h2, by unfold rvNx; omega, fun u hu => ?_, ?_, fun k o b hk => ?_⟩
      · rcases List.mem_cons.1 hu with rfl | hu
        · exact Nat.lt_of_lt_of_le (Nat.lt_succ_self nx) h3
        · exact h4 u hu
      · simp only [List.map_cons, rvW, h5]
        congr 1
        exact hnx.symm
      · have h7 := h6 k o b hk
        refine ⟨fun hle hb => ?_, fun hlt => ?_⟩
        · by_cases hle2 : nx + 1 ≤ k
          · exact h7.1 hle2 hb
          · have e : k = nx := by omega
            subst e
            have h8 := h7.2 (Nat.lt_succ_self k)
            simp only [find, if_true] at h8
            cases h8
            rw [hnx] at hb
            cases hb
        · have h8 := h7.2 (by omega)
          simp only [find] at h8
          rw [if_neg (by omega)] at h8
          exact h8

/-- **A reading function's contract, by the executor.** -/
theorem pure_ok {f : Nat} {fn : Func} {body : Code} {g : List A → Option (Prop × List RV)} (hm : P.follows .mixedOrders = true) (hsp : SpecsOK P sp) (hf : P.funcs[f]? = some fn) (hb : fn.body = some body) (hn : (fn.name == "runtime.NumGoroutine") = false)
    (h : ∀ as ob rs, g as = some (ob, rs) → ob → as.length ≤ fn.ntmps ∧ ∃ fuel loops, sx P sp fn.ntmps as.length fuel loops (drawX P sp fn.ntmps) body 0 [] ⟨argsTm 0 (argVs 0 as), argHp 0 as, as.length⟩ (retX P fn.results.toList fun v hp _ => fitsV rs v hp)) :
    SpecOK P f true (pureS g) := by
  refine .inl ⟨enter_ok hf hb hn, fun ρ B w args hp nx r hS hob hlt hh hB => ?_⟩
  unfold pureS at hS
  split at hS
  · rename_i as has
    split at hS
    · rename_i ob rs hg
      cases hS
      obtain ⟨hlen, fuel, loops, hx⟩ := h as ob rs hg hob
      have hto := toAs_spec hh args as 0 (fun i => (args[i]?.map (V.val ρ)).getD undef) has (fun i v hv => by simp [hv])
      have hal : (argVs 0 as).length = as.length := by
        have : ∀ (l : List A) (n : Nat), (argVs n l).length = l.length := fun l => by
          induction l with
          | nil => exact fun _ => rfl
          | cons a l ih => exact fun n => by simp [argVs, ih]
        exact this as 0
      have hh0 : HRel (fun i => (args[i]?.map (V.val ρ)).getD undef) (fun k => k < w.heap.size) (argHp 0 as) as.length w := by
        refine ⟨fun x o hf => ?_, fun x o x' o' k hf hf' _ hb => ?_, glob_all hh.glob hB⟩
        · obtain ⟨_, h2, c, rfl, h3, h4⟩ := hto.2.2.2 x o hf
          exact ⟨by omega, trivial, h3, h4⟩
        · obtain ⟨_, _, c, rfl, _, _⟩ := hto.2.2.2 x o hf
          cases hb
      have hcalls := fn_sound (n0 := as.length) (B := fun k => k < w.heap.size) hsp (fun ρ w => drawn_ok hm hsp) hf hb (by rw [hal]; exact hlen) hx (fun x hx => by simpa using hto.2.2.1 x hx) (Nat.le_refl _) _ w hh0 (fun k hk => hk)
      rw [hto.1] at hcalls
      refine hcalls.mono ?_
      rintro e w' ⟨ρ', v, hp', nx', rfl, hvlt, hag, hh', hbel, _, hfit⟩
      have hbw : Below w.heap.size w w' := hbel.below
      have hh1 := hh.below hbw hB
      obtain ⟨ws, hws, hfw⟩ : ∃ ws, (tupV ws).val ρ' = v.val ρ' ∧ fitsW hp' rs ws [] := by
        match v, hfit with
        | .w u, hfit => exact ⟨[u], rfl, hfit⟩
        | .t [], hfit => exact ⟨[], rfl, hfit⟩
        | .t (x :: y :: l), hfit => exact ⟨x :: y :: l, rfl, hfit⟩
      obtain ⟨ρ'', h1, h2, h3, h4, h5, h6⟩ := rv_spec (m := w.heap.size) (us0 := []) (fun k hk => .inl hk) hB hh' rs ws [] nx hp ρ (fun _ h => h) hfw hh1 (fun k o b hk hb => .inl (O.blk_lt (hh.ok k o hk).2.2 hb).1)
      refine ⟨ρ'', ?_, h1, tupV_lt h4, h3, h2, bel_of hbw hB, fun _ => hbw, fun _ h o k hle hf hb => (h6 h o k hf).1 hle hb⟩
      show Ending.returned _ = Ending.returned ((tupV (rvW nx rs)).val ρ'')
      rw [← hws, tupV_val, tupV_val]
      simp only [h5]
    · cases hS
  · cases hS
end

end Go.Sx
