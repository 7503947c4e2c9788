/- A symbolic executor for the model's code: contracts of functions that change one object. -/
import Derived.Test.YtndhdojnlobloaaSxU
set_option linter.unusedSectionVars false
set_option linter.unusedSimpArgs false
set_option linter.unusedVariables false
open Go.RowKit
namespace Go.Sx

/-- The object that an argument names, and the argument with object 0 in its place. -/
def headH : V → Option (Nat × C)
  | .w (.c (.o h)) => some (h, .o 0)
  | .w (.c (.p h i e j)) => some (h, .p 0 i e j)
  | _ => none

/-- An object of data that can be changed. -/
def O.own : O → Bool
  | .box _ cs => cs.all fun c => match c with
    | .d _ => true
    | _ => false
  | .row _ _ => true
  | _ => false

/-- The contract of a function that changes the object of its first argument. -/
def effS (g : C → O → List A → Option (Prop × O × List RV)) : Spec := fun vs hp nx =>
  match vs with
  | [] => none
  | v0 :: vs => match headH v0 with
    | none => none
    | some (h, c0) => match find hp h, toAs [] vs with
      | some o, some as => match o.own, g c0 o as with
        | true, some (ob, o', rs) => some (.leaf ⟨ob, tupV (rvW nx rs), rvHp nx rs ((h, o') :: noViews hp), rvNx nx rs⟩)
        | _, _ => none
      | _, _ => none

/-- The object is as told. -/
def mOwn : O → O → Prop → Prop
  | .row ty c, .row ty' c', k => match Nat.beq ty ty' with
    | true => mCont c c' ∧ k
    | false => False
  | .box ty cs, .box ty' cs', k => match Nat.beq ty ty', dsOf cs, dsOf cs' with
    | true, some ds, some ds' => sameDs ds' ds k
    | _, _, _ => False
  | _, _, _ => False

def fitsU (rs : List RV) (v : V) (hp : Hp) : Prop := match v with
  | .w u => fitsW hp rs [u] [0]
  | .t [_] => False
  | .t l => fitsW hp rs l [0]

def fitsE (o' : O) (rs : List RV) (v : V) (hp : Hp) : Prop := match find hp 0 with
  | some o1 => mOwn o' o1 (fitsU rs v hp)
  | none => False

theorem mOwn_spec [Globs] {o' o1 : O} {k : Prop} (h : mOwn o' o1 k) : o1 = o' ∧ o'.own = true ∧ k := by
  unfold mOwn at h
  split at h
  · split at h
    · rename_i e
      have := Nat.eq_of_beq_eq_true e
      subst this
      rw [mCont_spec h.1]
      exact ⟨rfl, rfl, h.2⟩
    · exact h.elim
  · split at h
    · rename_i ds ds' e hd hd'
      have := Nat.eq_of_beq_eq_true e
      subst this
      obtain ⟨h1, h2⟩ := sameDs_spec h
      subst h1
      have e1 := dsOf_eq hd
      have e2 := dsOf_eq hd'
      refine ⟨by rw [e1, e2], ?_, h2⟩
      rw [e1]
      unfold O.own
      apply List.all_eq_true.2
      intro c hc
      obtain ⟨x, _, rfl⟩ := List.mem_map.1 hc
      rfl
    · exact h.elim
  · exact h.elim

theorem own_data {cs : List C} {ty : Nat} (h : (O.box ty cs).own = true) : ∃ ds : List D, cs = ds.map C.d := by
  unfold O.own at h
  induction cs with
  | nil => exact ⟨[], rfl⟩
  | cons c r ih =>
    simp only [List.all_cons, Bool.and_eq_true] at h
    obtain ⟨ds, rfl⟩ := ih h.2
    cases c with
    | d x => exact ⟨x :: ds, rfl⟩
    | _ => cases h.1

/-- A data object's fact hangs on its own value alone. -/
theorem own_ok {ρ ρ' : Env} {B B' : Bd} {h h' : Nat} {w : World} {o : O} (hown : o.own = true) (he : ρ' h' = ρ h) (hok : o.ok ρ B w h) (hb : ∀ k, o.blk (ρ h) = some k → ¬ B' k) : o.ok ρ' B' w h' := by
  cases o with
  | box ty cs =>
    obtain ⟨ds, rfl⟩ := own_data hown
    obtain ⟨k, h1, h2, h3⟩ := hok
    refine ⟨k, by rw [he]; exact h1, hb k (by simp [O.blk, h1, base]), ?_⟩
    rw [h3]
    congr 3
    simp [C.val, Function.comp_def]
  | row ty c =>
    refine ⟨by rw [he]; exact hok.1, fun k hk => ?_⟩
    rw [he] at hk
    exact hb k hk
  | _ => cases hown

theorem own_lt {n : Nat} {o : O} (hown : o.own = true) : o.lt n := by
  cases o with
  | box ty cs =>
    obtain ⟨ds, rfl⟩ := own_data hown
    intro c hc
    obtain ⟨x, _, rfl⟩ := List.mem_map.1 hc
    trivial
  | row ty c => trivial
  | _ => cases hown

/-- Two data objects of one value own one block. -/
theorem own_blk {o o' : O} {v : Value} (h : o.own = true) (h' : o'.own = true) (hbox : (∃ ty cs, o = .box ty cs) ↔ ∃ ty cs, o' = .box ty cs) : o'.blk v = o.blk v := by
  cases o with
  | box ty cs =>
    obtain ⟨ty', cs', rfl⟩ := hbox.1 ⟨_, _, rfl⟩
    rfl
  | row ty c =>
    cases o' with
    | box ty' cs' =>
      obtain ⟨_, _, h⟩ := hbox.2 ⟨_, _, rfl⟩
      cases h
    | row => rfl
    | _ => cases h'
  | _ => cases h

def sameKind : O → O → Bool
  | .box _ _, .box _ _ => true
  | .row _ _, .row _ _ => true
  | _, _ => false

theorem sameKind_box {o o' : O} (h : sameKind o o' = true) : (∃ ty cs, o = .box ty cs) ↔ ∃ ty cs, o' = .box ty cs := by
  unfold sameKind at h
  split at h
  · exact ⟨fun _ => ⟨_, _, rfl⟩, fun _ => ⟨_, _, rfl⟩⟩
  · exact ⟨(fun ⟨_, _, e⟩ => by cases e), (fun ⟨_, _, e⟩ => by cases e)⟩
  · cases h

section
variable [Globs] {P : Program} {sp : Specs}

/-- **A contract of a function that changes one object, by the executor.** -/
theorem eff_ok {f : Nat} {fn : Func} {body : Code} {g : C → O → List A → Option (Prop × O × List RV)} (hm : P.follows .mixedOrders = true) (hsp : SpecsOK P sp) (hf : P.funcs[f]? = some fn) (hb : fn.body = some body) (hn : (fn.name == "runtime.NumGoroutine") = false)
    (h : ∀ c0 o as ob o' rs, g c0 o as = some (ob, o', rs) → o.own = true → ob → c0.lt 1 → sameKind o o' = true ∧ as.length + 1 ≤ fn.ntmps ∧ ∃ fuel loops, sx P sp fn.ntmps 1 fuel loops (drawX P sp fn.ntmps) body 0 [] ⟨argsTm 0 (.w (.c c0) :: argVs 1 as), [(0, o)], 1⟩ (retX P fn.results.toList fun v hp _ => fitsE o' rs v hp)) :
    SpecOK P f false (effS g) := by
  refine .inl ⟨enter_ok hf hb hn, fun ρ B w args hp nx r hS hob hlt hh hB => ?_⟩
  unfold effS at hS
  split at hS
  · cases hS
  · rename_i v0 vs
    split at hS
    · cases hS
    · rename_i x hd c0 hhd
      split at hS
      · rename_i o as hfo has
        split at hS
        · rename_i ob o' rs hown hg
          cases hS
          have hc0 : (c0.val (fun _ => ρ hd) = v0.val ρ) ∧ c0.lt 1 := by
            unfold headH at hhd
            split at hhd
            · cases hhd; exact ⟨rfl, Nat.lt_succ_self 0⟩
            · cases hhd; exact ⟨rfl, Nat.lt_succ_self 0⟩
            · cases hhd
          obtain ⟨hkind, hlen, fuel, loops, hx⟩ := h c0 o as ob o' rs hg hown hob hc0.2
          have hok := hh.ok hd o hfo
          -- the arguments
          have hto := toAs_spec (ρ := ρ) (B := fun k => k < w.heap.size) (nx := 0) (hp := []) (w := w) ⟨(fun _ _ h => by cases h), (fun _ _ _ _ _ h => by cases h), glob_all hh.glob hB⟩ vs as 1 (fun i => if i = 0 then ρ hd else (vs[i - 1]?.map (V.val ρ)).getD undef) has (fun i v hv => by
            rw [if_neg (by omega)]
            simp [hv])
          have hnoR : ∀ h o, find (argHp 1 as) h = some o → False := fun h o hf => by
            have hno : ∀ (vs : List V) (as : List A) (n : Nat), toAs [] vs = some as → find (argHp n as) h = none := by
              intro vs
              induction vs with
              | nil => intro as n h; simp only [toAs, Option.some.injEq] at h; subst h; rfl
              | cons v vs ih =>
                intro as n h
                simp only [toAs] at h
                split at h
                · rename_i a r ha hr
                  cases h
                  cases a with
                  | r c =>
                    unfold toA at ha
                    split at ha
                    · cases ha
                    · rename_i l
                      cases hdd : dsOf l <;> simp [hdd] at ha
                    · cases ha
                    · simp [find] at ha
                    · cases ha
                  | d x => exact ih r (n + 1) hr
                  | s x => exact ih r (n + 1) hr
                  | f x => exact ih r (n + 1) hr
                · cases h
            rw [hno vs as 1 has] at hf
            cases hf
          have hltA : ∀ x ∈ V.w (.c c0) :: argVs 1 as, V.lt 1 x := by
            intro x hx
            rcases List.mem_cons.1 hx with rfl | hx
            · exact hc0.2
            · have hall : ∀ (vs : List V) (as : List A) (n : Nat), toAs [] vs = some as → ∀ x ∈ argVs n as, V.lt 1 x := by
                intro vs
                induction vs with
                | nil => intro as n h; simp only [toAs, Option.some.injEq] at h; subst h; exact fun _ h => by cases h
                | cons v vs ih =>
                  intro as n h
                  simp only [toAs] at h
                  split at h
                  · rename_i a r ha hr
                    cases h
                    intro x hx
                    rcases List.mem_cons.1 hx with rfl | hx
                    · cases a with
                      | r c =>
                        unfold toA at ha
                        split at ha
                        · cases ha
                        · rename_i l
                          cases hdd : dsOf l <;> simp [hdd] at ha
                        · cases ha
                        · simp [find] at ha
                        · cases ha
                      | d x => trivial
                      | s x =>
                        intro y hy
                        obtain ⟨z, _, rfl⟩ := List.mem_map.1 hy
                        trivial
                      | f x => exact fun _ h => by cases h
                    · exact ih r (n + 1) hr x hx
                  · cases h
              exact hall vs as 1 has x hx
          let B0 : Bd := fun k => k < w.heap.size ∧ o.blk (ρ hd) ≠ some k
          let ρ0 : Env := fun i => if i = 0 then ρ hd else (vs[i - 1]?.map (V.val ρ)).getD undef
          have hh0 : HRel ρ0 B0 [(0, o)] 1 w := by
            refine ⟨fun x ob hf => ?_, fun x ob x' ob' k hf hf' hne hb => ?_, fun y c hy => ⟨⟨hB y (hh.glob y c hy).1, fun e => (O.blk_lt hok.2.2 e).2 (hh.glob y c hy).1⟩, (hh.glob y c hy).2⟩⟩
            · simp only [find] at hf
              split at hf
              · rename_i e; subst e; cases hf
                exact ⟨Nat.lt_succ_self 0, own_lt hown, own_ok (ρ := ρ) (ρ' := ρ0) (h := hd) (h' := 0) hown rfl hok.2.2 (fun k hk hc => hc.2 hk)⟩
              · cases hf
            · simp only [find] at hf hf'
              split at hf
              · rename_i e; subst e
                rw [if_neg hne] at hf'
                cases hf'
              · cases hf
          have hal : (argVs 1 as).length = as.length := by
            have : ∀ (l : List A) (n : Nat), (argVs n l).length = l.length := fun l => by
              induction l with
              | nil => exact fun _ => rfl
              | cons a l ih => exact fun n => by simp [argVs, ih]
            exact this as 1
          have hcalls := fn_sound (n0 := 1) (B := B0) (args := V.w (.c c0) :: argVs 1 as) hsp (fun ρ w => drawn_ok hm hsp) hf hb (by rw [List.length_cons, hal]; exact hlen) hx hltA (Nat.le_refl _) ρ0 w hh0 (fun k hk => hk.1)
          have he : (V.w (.c c0) :: argVs 1 as).map (V.val ρ0) = (v0 :: vs).map (V.val ρ) := by
            rw [List.map_cons, List.map_cons, hto.1]
            congr 1
            rw [← hc0.1]
            exact C.val_agree (fun x hx => by
              have : x = 0 := by omega
              subst this
              rfl) hc0.2
          rw [he] at hcalls
          refine hcalls.mono ?_
          rintro e w' ⟨ρ', v, hp', nx', rfl, hvlt, hag, hh', hbel, _, hfit⟩
          unfold fitsE at hfit
          split at hfit
          · rename_i o1 hf1
            obtain ⟨e1, hown', hfit2⟩ := mOwn_spec hfit
            subst e1
            have hρ0 : ρ' 0 = ρ hd := hag 0 (Nat.lt_succ_self 0)
            have hblk : o1.blk (ρ hd) = o.blk (ρ hd) := own_blk hown hown' (sameKind_box hkind)
            have hgB : ∀ k, o1.blk (ρ hd) = some k → ¬ B k := fun k hk => by
              rw [hblk] at hk
              exact (O.blk_lt hok.2.2 hk).2
            have hglt : ∀ k, o.blk (ρ hd) = some k → k < w.heap.size := fun k hk => (O.blk_lt hok.2.2 hk).1
            have hsame : ∀ k, k < w.heap.size → o.blk (ρ hd) ≠ some k → w'.heap[k]? = w.heap[k]? := fun k hk hne => hbel.block k ⟨hk, hne⟩
            -- the caller's heap
            have hh1 : HRel ρ B ((hd, o1) :: noViews hp) nx w' := by
              refine ⟨fun x ob hf => ?_, fun x ob x' ob' k hf hf' hne hb hb' => ?_, hh.glob.bel ⟨hbel.os, hbel.tape, hbel.output, hbel.size, fun k hk => hsame k (hB k hk) (fun e => (O.blk_lt hok.2.2 e).2 hk)⟩⟩
              · simp only [find] at hf
                split at hf
                · rename_i e; subst e; cases hf
                  exact ⟨hok.1, own_lt hown', own_ok hown' hρ0.symm (hh'.ok 0 o1 hf1).2.2 (fun k hk => by rw [hρ0] at hk; exact hgB k hk)⟩
                · rename_i hne
                  obtain ⟨o2, h2, h3, h4, h5, h6, h7⟩ := noViews_ok hh hf
                  refine ⟨h3, h4, ?_⟩
                  cases hbk : o.blk (ρ hd) with
                  | none => exact O.ok_except (g := w.heap.size) (fun k hk _ => hsame k hk (by rw [hbk]; simp)) (fun hc => Nat.lt_irrefl _ (hB _ hc)) h5 (fun e => by have := (O.blk_lt h5 e).1; omega) h6
                  | some g => exact O.ok_except (g := g) (fun k hk hne => hsame k hk (by rw [hbk]; simpa using fun e => hne e.symm)) (O.blk_lt hok.2.2 hbk).2 h5 (fun e => hh.apart hd o x o2 g hfo h2 hne hbk (h7 g e)) h6
              · simp only [find] at hf hf'
                split at hf
                · rename_i e; subst e; cases hf
                  rw [if_neg hne] at hf'
                  obtain ⟨o2, h2, _, _, _, _, h7⟩ := noViews_ok hh hf'
                  rw [hblk] at hb
                  exact hh.apart hd o x' o2 k hfo h2 hne hb (h7 k hb')
                · rename_i hne2
                  split at hf'
                  · rename_i e; subst e; cases hf'
                    obtain ⟨o2, h2, _, _, _, _, h7⟩ := noViews_ok hh hf
                    rw [hblk] at hb'
                    exact hh.apart hd o x o2 k hfo h2 hne2 hb' (h7 k hb)
                  · obtain ⟨o2, h2, _, _, _, _, h7⟩ := noViews_ok hh hf
                    obtain ⟨o3, h3, _, _, _, _, h8⟩ := noViews_ok hh hf'
                    exact hh.apart x o2 x' o3 k h2 h3 hne (h7 k hb) (h8 k hb')
            obtain ⟨ws, hws, hfw⟩ : ∃ ws, (tupV ws).val ρ' = v.val ρ' ∧ fitsW hp' rs ws [0] := by
              clear hfit
              match v, hfit2 with
              | .w u, hfit => exact ⟨[u], rfl, hfit⟩
              | .t [], hfit => exact ⟨[], rfl, hfit⟩
              | .t (x :: y :: l), hfit => exact ⟨x :: y :: l, rfl, hfit⟩
            obtain ⟨ρ'', h1, h2, h3, h4, h5, h6⟩ := rv_spec (m := w.heap.size) (us0 := [0]) (fun k hk => by
              by_cases e : o.blk (ρ hd) = some k
              · refine .inr fun u ou b hu hfu hrow hbu hbk => ?_
                subst hbk
                have hne : (0 : Nat) ≠ u := fun e => by subst e; simp at hu
                exact hh'.apart 0 o1 u ou b hf1 hfu hne (by rw [hρ0, hblk]; exact e) hbu
              · exact .inl ⟨hk, e⟩) hB hh' rs ws [0] nx ((hd, o1) :: noViews hp) ρ (fun _ h => h) hfw hh1 (fun k ou b hk hbk => by
                simp only [find] at hk
                split at hk
                · rename_i e; subst e; cases hk
                  rw [hblk] at hbk
                  exact .inl (hglt b hbk)
                · obtain ⟨o2, h2, _, _, h5, _, _⟩ := noViews_ok hh hk
                  exact .inl (O.blk_lt h5 hbk).1)
            refine ⟨ρ'', ?_, h1, tupV_lt h4, h3, h2, ⟨hbel.os, hbel.tape, hbel.output, hbel.size, fun k hk => ?_⟩, (fun h => by cases h), fun h => by cases h⟩
            · show Ending.returned _ = Ending.returned ((tupV (rvW nx rs)).val ρ'')
              rw [← hws, tupV_val, tupV_val]
              simp only [h5]
            · refine hsame k (hB k hk) (fun e => ?_)
              exact (O.blk_lt hok.2.2 e).2 hk
          · exact hfit.elim
        · cases hS
      · cases hS
end

end Go.Sx
