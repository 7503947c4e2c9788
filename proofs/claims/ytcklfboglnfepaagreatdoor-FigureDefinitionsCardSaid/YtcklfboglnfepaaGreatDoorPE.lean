/- Part 5 of the proof of FigureDefinitionsCard: the executor, the mirrors of the functions, the plain facts. -/
import Derived.Test.YtcklfboglnfepaaGreatDoorPD
set_option linter.unusedSectionVars false
set_option linter.unusedSimpArgs false
set_option linter.unusedVariables false
section
open Go.RowKit
namespace Go.Sx
variable [Globs] {P : Program} {sp : Specs}
theorem pureT_okC {f : Nat} {fn : Func} {body : Code} {shs : List SV} {g : List Lf → Option GT} (hf : P.funcs[f]? = some fn) (hb : fn.body = some body) (hn : (fn.name == "runtime.NumGoroutine") = false)
    (h : ∀ ls t, g ls = some t → t.sel.1 → ∀ b : Bv, bldVs shs 0 ls = some b → ∀ (ρ0 : Env) (w : World), (∀ x ∈ b.vs, V.lt b.n x) → HRel ρ0 (fun k => k < w.heap.size) b.hp b.n w →
      Calls P f (b.vs.map (V.val ρ0)).toArray w fun e w' => ∃ ρ' v hp' nx', e = .returned (V.val ρ' v) ∧ v.lt nx' ∧ Agree b.n ρ0 ρ' ∧ HRel ρ' (fun k => k < w.heap.size) hp' nx' w' ∧ Bel (fun k => k < w.heap.size) w w' ∧ fitV b.n t.sel.2 v hp') :
    SpecOK P f true (pureT shs g) := by
  refine .inl ⟨enter_ok hf hb hn, fun ρ B w args hp nx t hS hob hlt hh hB => ?_⟩
  unfold pureT at hS
  split at hS
  · rename_i ls am hto
    split at hS
    · rename_i t' hg
      cases hS
      rw [toRT_sel] at hob ⊢
      have hob : t'.sel.1 := hob
      obtain ⟨b, ρ0, hbl, q⟩ := toVs_spec hh hB shs args ls am hto hlt 0 (fun _ => undef) []
      rw [List.append_nil] at hbl
      have hbn : b.n = am.length := by have := q.nn; omega
      have hh0 : HRel ρ0 (fun k => k < w.heap.size) b.hp b.n w := by
        refine ⟨fun x o hf => ?_, fun x o x' o' k hf hf' _ hb => ?_, glob_all hh.glob hB⟩
        · obtain ⟨_, a2, a3, a4, _⟩ := q.heap x o hf
          exact ⟨a2, a3, a4⟩
        · obtain ⟨_, _, _, _, a5⟩ := q.heap x o hf
          rw [a5] at hb
          cases hb
      have hcalls := h ls t' hg hob b hbl ρ0 w q.lt hh0
      rw [q.val] at hcalls
      refine hcalls.mono ?_
      rintro e w' ⟨ρ', v, hp', nx', rfl, hvlt, hag, hh', hbel, hfit⟩
      have hbw : Below w.heap.size w w' := hbel.below
      have hh1 := hh.below hbw hB
      obtain ⟨ws, hws, hfw⟩ : ∃ ws, (tupV ws).val ρ' = v.val ρ' ∧ fitRs b.n hp' t'.sel.2 ws [] := by
        match v, hfit with
        | .w u, hfit => exact ⟨[u], rfl, hfit⟩
        | .t [], hfit => exact ⟨[], rfl, hfit⟩
        | .t (x :: y :: l), hfit => exact ⟨x :: y :: l, rfl, hfit⟩
      have hin : CIn ρ ρ' B hp hp' nx w.heap.size b.n am w' [] := by
        refine ⟨hh1, fun k o b hk hbk => .inl (O.blk_lt (hh.ok k o hk).2.2 hbk).1, fun i hi => ?_⟩
        have hi2 : i < am.length := by omega
        have h1 := q.own i hi2
        rw [Nat.zero_add] at h1
        refine ⟨?_, by rw [hag i hi]; exact h1.symm⟩
        have : am.getD i (.d (.v undef)) = am[i] := by simp [List.getD, hi2]
        rw [this]
        exact q.xlt _ (List.getElem_mem hi2)
      obtain ⟨us2, ρ2, k⟩ := fitRs_spec (m := w.heap.size) (fun k hk => hB k hk) hh' t'.sel.2 ws [] hfw nx hp ρ hin
      refine ⟨ρ2, ?_, k.agree, tupV_lt k.lt, k.le, k.heap, bel_of hbw hB, fun _ => hbw, fun _ h o b hle hf hbk => ?_⟩
      · show Ending.returned _ = Ending.returned ((tupV (rvRs am t'.sel.2 nx).ws).val ρ2)
        rw [← hws, tupV_val, tupV_val]
        simp only [k.val]
      · have hf : find ((rvRs am t'.sel.2 nx).hp ++ hp) h = some o := hf
        rw [find_append] at hf
        cases hg2 : find (rvRs am t'.sel.2 nx).hp h with
        | some o2 => rw [hg2] at hf; cases hf; exact k.fresh h o b hg2 hbk
        | none =>
          rw [hg2] at hf
          have := (hh.ok h o hf).1
          omega
    · cases hS
  · cases hS
end Go.Sx
namespace Go.Sh
open Go Go.Proofs Go.RowKit Go.Sx
set_option linter.unusedVariables false
attribute [local go_sem] Oper.semAt_some
def k_G_open : List SV := [.a [.d, .r (.floats .f32 []), .d, .d]]
def G_open_b0 (aResponseSamples : List Nat) (aNoise : Int) (x0 : (Int × List (List Int))) : Option ((Int × List (List Int)) ⊕ (List (List Int))) :=
  if x0.1 < (↑(List.length aResponseSamples) : Int) then
   if (0 : Int) ≤ x0.1 ∧ x0.1 < (↑(List.length aResponseSamples) : Int) then
    if Int.toNat x0.1 < List.length aResponseSamples then
     if f2iOk FloatKind.f32 IntKind.i64 (List.getD aResponseSamples (Int.toNat x0.1) (0 : Nat)) = true then
      Option.bind (G_size (f2i FloatKind.f32 (List.getD aResponseSamples (Int.toNat x0.1) (0 : Nat)))) fun r1 =>
      if (List.length x0.2 + List.length [[IntKind.wrap IntKind.i64 ((if IntKind.wrap IntKind.i64 (r1 - aNoise) > (0 : Int) then IntKind.wrap IntKind.i64 (r1 - aNoise) else (0 : Int)) * if IntKind.wrap IntKind.i64 (r1 - aNoise) > (0 : Int) then IntKind.wrap IntKind.i64 (r1 - aNoise) else (0 : Int)), IntKind.wrap IntKind.i64 (IntKind.wrap IntKind.i64 (r1 + aNoise) * IntKind.wrap IntKind.i64 (r1 + aNoise))]]) * (16 : Nat) ≤ (140737488355328 : Nat) ∧ List.length x0.2 + List.length [[IntKind.wrap IntKind.i64 ((if IntKind.wrap IntKind.i64 (r1 - aNoise) > (0 : Int) then IntKind.wrap IntKind.i64 (r1 - aNoise) else (0 : Int)) * if IntKind.wrap IntKind.i64 (r1 - aNoise) > (0 : Int) then IntKind.wrap IntKind.i64 (r1 - aNoise) else (0 : Int)), IntKind.wrap IntKind.i64 (IntKind.wrap IntKind.i64 (r1 + aNoise) * IntKind.wrap IntKind.i64 (r1 + aNoise))]] ≤ (9223372036854775807 : Nat) then
       some (.inl ((IntKind.wrap IntKind.i64 (x0.1 + (1 : Int)), x0.2 ++ [[IntKind.wrap IntKind.i64 ((if IntKind.wrap IntKind.i64 (r1 - aNoise) > (0 : Int) then IntKind.wrap IntKind.i64 (r1 - aNoise) else (0 : Int)) * if IntKind.wrap IntKind.i64 (r1 - aNoise) > (0 : Int) then IntKind.wrap IntKind.i64 (r1 - aNoise) else (0 : Int)), IntKind.wrap IntKind.i64 (IntKind.wrap IntKind.i64 (r1 + aNoise) * IntKind.wrap IntKind.i64 (r1 + aNoise))]])))
      else none
     else none
    else none
   else none
  else
   some (.inr x0.2)
def G_open_r0 (y0_0 : List (List Int)) : Option Unit :=
  if (0 : Int) ≤ IntKind.wrap IntKind.i64 ((↑(List.length y0_0) : Int) + (1 : Int)) ∧ IntKind.wrap IntKind.i64 ((↑(List.length y0_0) : Int) + (1 : Int)) = IntKind.wrap IntKind.i64 ((↑(List.length y0_0) : Int) + (1 : Int)) ∧ (↑(16 : Nat) : Int) * IntKind.wrap IntKind.i64 ((↑(List.length y0_0) : Int) + (1 : Int)) ≤ (281474976710656 : Int) ∧ IntKind.wrap IntKind.i64 ((↑(List.length y0_0) : Int) + (1 : Int)) ≤ (9223372036854775807 : Int) then
   if (0 : Int) ≤ (↑(List.length y0_0) : Int) ∧ (↑(List.length y0_0) : Int) < (↑(List.length (List.replicate (Int.toNat (IntKind.wrap IntKind.i64 ((↑(List.length y0_0) : Int) + (1 : Int)))) [(0 : Int), (0 : Int)])) : Int) then
    if Int.toNat (↑(List.length y0_0) : Int) < List.length (List.replicate (Int.toNat (IntKind.wrap IntKind.i64 ((↑(List.length y0_0) : Int) + (1 : Int)))) [(0 : Int), (0 : Int)]) then
     some ()
    else none
   else none
  else none
def iniS (zs : List (List Int)) (tail : Int) : List (List Int) :=
  List.set (List.replicate (Int.toNat (IntKind.wrap IntKind.i64 ((↑(List.length zs) : Int) + (1 : Int)))) [(0 : Int), (0 : Int)]) (Int.toNat (↑(List.length zs) : Int)) (wr (List.length [D.i IntKind.i64 (0 : Int), D.i IntKind.i64 (0 : Int)]) (List.getD (List.replicate (Int.toNat (IntKind.wrap IntKind.i64 ((↑(List.length zs) : Int) + (1 : Int)))) [(0 : Int), (0 : Int)]) (Int.toNat (↑(List.length zs) : Int)) []) (0 : Nat) [(0 : Int), tail])
def upS (ss : List (List Int)) (i lo hi : Int) : List (List Int) :=
  List.set ss (Int.toNat i) (wr (2 : Nat) (List.getD ss (Int.toNat i) []) (0 : Nat) [IntKind.wrap IntKind.i64 (lo + List.getD (List.getD ss (Int.toNat (IntKind.wrap IntKind.i64 (i + (1 : Int)))) []) (0 : Nat) (0 : Int)), IntKind.wrap IntKind.i64 (hi + List.getD (List.getD ss (Int.toNat (IntKind.wrap IntKind.i64 (i + (1 : Int)))) []) (1 : Nat) (0 : Int))])
def sumsOf (zs : List (List Int)) (tail : Int) (pre : List (Fin zs.length)) : List (List Int) :=
  pre.foldl (fun ss x => upS ss (x.1 : Int) ((zs.getD x.1 []).getD 0 0) ((zs.getD x.1 []).getD 1 0)) (iniS zs tail)
def G_open (aResponseRate : Int) (aResponseSamples : List Nat) (aNoise : Int) (aTail : Int) : Option (Int × List (List Int) × List (List Int)) :=
  Option.bind (y19 aResponseRate aResponseSamples aNoise aTail) fun r0 =>
  if (r0.2 != (0 : Int)) = true then
   some (r0.2, [], [])
  else
   Option.bind (iter (G_open_b0 aResponseSamples aNoise) big (((0 : Int), []))) fun y0 =>
   Option.bind (G_open_r0 y0) fun _ => some (0, y0, sumsOf y0 aTail (Bk.bk y0.length y0.length))
def g_G_open : List Lf → Option GT
  | [.d (.i .i64 aResponseRate), .r (.floats .f32 aResponseSamples), .d (.i .i64 aNoise), .d (.i .i64 aTail)] => some (.br ((val (G_open aResponseRate aResponseSamples aNoise aTail)).1 != (0 : Int))
    (.leaf (ok (G_open aResponseRate aResponseSamples aNoise aTail)) [.c (.d (.v (Value.pointer none))), .c (.d (.i .i64 ((val (G_open aResponseRate aResponseSamples aNoise aTail)).1)))])
    (.leaf (ok (G_open aResponseRate aResponseSamples aNoise aTail)) [.c (.box 133 [.d (.i .i64 aResponseRate), .g 0, .d (.i .i64 aNoise), .d (.i .i64 aTail), .row 30 (.recs 2 ((val (G_open aResponseRate aResponseSamples aNoise aTail)).2.1)), .row 30 (.recs 2 ((val (G_open aResponseRate aResponseSamples aNoise aTail)).2.2))]), .c (.d (.i .i64 (0 : Int)))]))
  | _ => none
abbrev sp_67 : Specs → Specs := addK 67 true (pureT k_G_open g_G_open)
def hpT (rate : Int) (samples : List Nat) (noise tail : Int) (zs ss : List (List Int)) : Hp := [(1, .box 26 [.d (.i .i64 rate), .o 0, .d (.i .i64 noise), .d (.i .i64 tail)]), (2, .box 105 [.p 3 (0 : Nat) 1 (0 : Nat)]), (0, .ext (.floats .f32 samples)), (3, .box 133 [.d (.i .i64 rate), .o 0, .d (.i .i64 noise), .d (.i .i64 tail), .o 4, .o 5]), (4, .row 30 (.recs 2 zs)), (5, .row 30 (.recs 2 ss)), (6, .box 81 [.o 4])]
def stT (rate : Int) (samples : List Nat) (noise tail : Int) (zs ss : List (List Int)) : St := ⟨[(6, .w (.c (.p 2 (0 : Nat) 1 (0 : Nat)))), (89, .w (.c (.fn 141 [6])))], hpT rate samples noise tail zs ss, 7⟩
def subO : List Nat → Code → Code
  | [], c => c
  | 0 :: p, .seq x _ => subO p x
  | _ :: p, .seq _ y => subO p y
  | _ :: p, .block _ c => subO p c
  | _, c => c
def bodyOfR : Code → Code
  | .rangeFunc _ _ _ b => b
  | .block _ c => bodyOfR c
  | _ => .skip
def asgOfR : Code → Code
  | .rangeFunc _ _ a _ => a
  | .block _ c => asgOfR c
  | _ => .skip
noncomputable def openT : Code := tailC' 6 (bodyOf Tryz.f67)
noncomputable def openR5 : Code := subO [0, 0] openT
noncomputable def openB : Code := bodyOfR (subO [0, 1] openT)
noncomputable def openA : Code := asgOfR (subO [0, 1] openT)
def stA (y : Value) (i lo hi : Int) : St := ⟨[(6, .w (.c (.d (.v y)))), (90, vi .i64 i), (91, .w (.a [.d (.i .i64 lo), .d (.i .i64 hi)]))], [], 0⟩
def stA' (y : Value) (i lo hi : Int) : St := ⟨[(6, .w (.c (.d (.v y)))), (12, vi .i64 i), (13, .w (.c (.p 0 0 1 0)))], [(0, .box 30 [.d (.i .i64 lo), .d (.i .i64 hi)])], 1⟩
def stB (rate : Int) (samples : List Nat) (noise tail : Int) (zs ss : List (List Int)) (i lo hi : Int) : St := ⟨[(6, .w (.c (.p 2 (0 : Nat) 1 (0 : Nat)))), (12, vi .i64 i), (13, .w (.c (.p 7 0 1 0)))], (7, .box 30 [.d (.i .i64 lo), .d (.i .i64 hi)]) :: hpT rate samples noise tail zs ss, 8⟩
set_option maxRecDepth 100000 in
theorem openA_vc (y : Value) (i lo hi : Int) : sx Tryz.prog sp0 109 0 0 (fun _ _ _ => none) (drawX Tryz.prog sp0 109) openA 0 [] (stA y i lo hi) (fun e st => match e with | .normal => Le 0 st (stA' y i lo hi) | _ => False) := by
  refine Eq.mp (by kernel_rfl : (
  (Ob (y = y) ∧
   (Ob (i = i) ∧
   (Ob ((0 : Nat) = (0 : Nat)) ∧
   (Ob (lo = lo) ∧
   (Ob (hi = hi) ∧
   True)))))) = _) ?_
  exact (by repeat' (first | exact trivial | exact ⟨rfl⟩ | refine And.intro ?_ ?_))
set_option maxRecDepth 100000 in
theorem openB_vc (rate : Int) (samples : List Nat) (noise tail : Int) (zs ss : List (List Int)) (i lo hi : Int) (hi0 : 0 ≤ i) (hi1 : i + 1 < (ss.length : Int)) (hi2 : (ss.length : Int) ≤ 17592186044417) :
    sx Tryz.prog (sp_117 sp0) 109 8 0 (fun _ _ _ => none) (drawX Tryz.prog (sp_117 sp0) 109) openB 0 [] (stB rate samples noise tail zs ss i lo hi) (fun e st => match e with | .normal => Le 8 st (stB rate samples noise tail zs (upS ss i lo hi) i lo hi) | _ => False) := by
  have hw : IntKind.wrap IntKind.i64 (i + (1 : Int)) = i + 1 := IntWalk.i64_in _ (by omega)
  refine Eq.mp (by kernel_rfl : (
  (Ob ((0 : Int) ≤ IntKind.wrap IntKind.i64 (i + (1 : Int)) ∧ IntKind.wrap IntKind.i64 (i + (1 : Int)) < (↑(List.length ss) : Int)) ∧
   (Ob (Int.toNat (IntKind.wrap IntKind.i64 (i + (1 : Int))) < List.length ss) ∧
   (Ob (ok (G_plus lo hi (List.getD (List.getD ss (Int.toNat (IntKind.wrap IntKind.i64 (i + (1 : Int)))) []) (0 : Nat) (0 : Int)) (List.getD (List.getD ss (Int.toNat (IntKind.wrap IntKind.i64 (i + (1 : Int)))) []) (1 : Nat) (0 : Int)))) ∧
   (Ob ((0 : Int) ≤ i ∧ i < (↑(List.length ss) : Int)) ∧
   (Ob (Int.toNat i < List.length ss) ∧
   (Ob ((0 : Nat) = (0 : Nat)) ∧
   (Ob (i = i) ∧
   (Ob ((0 : Nat) = (0 : Nat)) ∧
   (Ob (lo = lo) ∧
   (Ob (hi = hi) ∧
   (Ob (rate = rate) ∧
   (Ob (noise = noise) ∧
   (Ob (tail = tail) ∧
   (Ob ((0 : Nat) = (0 : Nat)) ∧
   (Ob (samples = samples) ∧
   (Ob (rate = rate) ∧
   (Ob (noise = noise) ∧
   (Ob (tail = tail) ∧
   (Ob (zs = zs) ∧
   (Ob (List.set ss (Int.toNat i) (wr (2 : Nat) (List.getD ss (Int.toNat i) []) (0 : Nat) [IntKind.wrap IntKind.i64 (lo + List.getD (List.getD ss (Int.toNat (IntKind.wrap IntKind.i64 (i + (1 : Int)))) []) (0 : Nat) (0 : Int)), IntKind.wrap IntKind.i64 (hi + List.getD (List.getD ss (Int.toNat (IntKind.wrap IntKind.i64 (i + (1 : Int)))) []) (1 : Nat) (0 : Int))]) = upS ss i lo hi) ∧
   True))))))))))))))))))))) = _) ?_
  refine ⟨⟨by rw [hw]; omega⟩, ⟨by rw [hw]; omega⟩, ⟨rfl⟩, ⟨by omega⟩, ⟨by omega⟩, ?_⟩
  exact (by repeat' (first | exact trivial | exact ⟨rfl⟩ | refine And.intro ?_ ?_))
theorem br_i {b : Bool} {X Y : Prop} (h1 : b = true → X) (h2 : b = false → Y) : Br b X Y := by
  cases b
  · exact h2 rfl
  · exact h1 rfl
set_option maxRecDepth 100000 in
set_option maxHeartbeats 4000000 in
theorem head_vc (aResponseRate : Int) (aResponseSamples : List Nat) (aNoise aTail : Int) (r : List (List Int)) (err : Int) (ha : ok (y19 aResponseRate aResponseSamples aNoise aTail))
    (he : ((val (y19 aResponseRate aResponseSamples aNoise aTail)).2 != (0 : Int)) = true → (val (y19 aResponseRate aResponseSamples aNoise aTail)).2 = err)
    (hn : ((val (y19 aResponseRate aResponseSamples aNoise aTail)).2 != (0 : Int)) = false → Option.bind (iter (G_open_b0 aResponseSamples aNoise) big (((0 : Int), []))) (fun y0 => Option.bind (G_open_r0 y0) (fun _ => some y0)) = some r) :
    sx Tryz.prog (sp_114 (sp_115 (sp_116 (sp_117 sp0)))) 109 1 40 ((fun gs id _ => match id with
 | 0 => some ⟨(Int × List (List Int)) × Nat, fun z => ⟨[(1, .w (.c (.p 1 (0 : Nat) 1 (0 : Nat)))), (6, .w (.c (.p 2 (0 : Nat) 1 (0 : Nat)))), (27, .w (.c (.o 0))), (28, .w (.c (.d (.i .i64 ((↑(List.length aResponseSamples) : Int)))))), (29, .w (.c (.d (.i .i64 (Prod.fst (Prod.fst z))))))], [(1, .box 26 [.d (.i .i64 aResponseRate), .o 0, .d (.i .i64 aNoise), .d (.i .i64 aTail)]), (2, .box 105 [.p 3 (0 : Nat) 1 (0 : Nat)]), (0, .ext (.floats .f32 aResponseSamples)), (3, .box 133 [.d (.i .i64 aResponseRate), .o 0, .d (.i .i64 aNoise), .d (.i .i64 aTail), .o 4, .d (.v (Value.slice none (0 : Nat) (0 : Nat)))]), (4, .row 30 (.recs 2 (Prod.snd (Prod.fst z))))], 5⟩, fun z => Option.bind (iter (G_open_b0 aResponseSamples aNoise) (Prod.snd z) (Prod.fst z)) (fun y0 => Option.bind (G_open_r0 y0) (fun _ => some y0)) = some r, fun z => Prod.snd z⟩
 | _ => none)) (drawX Tryz.prog (sp_114 (sp_115 (sp_116 (sp_117 sp0)))) 109) (headC' 6 (bodyOf Tryz.f67)) 0 [] ⟨argsTm 0 (bldD k_G_open [.d (.i .i64 aResponseRate), .r (.floats .f32 aResponseSamples), .d (.i .i64 aNoise), .d (.i .i64 aTail)]).vs, (bldD k_G_open [.d (.i .i64 aResponseRate), .r (.floats .f32 aResponseSamples), .d (.i .i64 aNoise), .d (.i .i64 aTail)]).hp, 1⟩
      (fun e st => match e with
        | .ret => Ob (((val (y19 aResponseRate aResponseSamples aNoise aTail)).2 != (0 : Int)) = true) ∧ retX Tryz.prog Tryz.f67.results.toList (fun v hp _ => fitV 1 [.c (.d (.v (Value.pointer none))), .c (.d (.i .i64 err))] v hp) .ret st
        | .normal => Ob (((val (y19 aResponseRate aResponseSamples aNoise aTail)).2 != (0 : Int)) = false) ∧ sx Tryz.prog (sp_114 (sp_115 (sp_116 (sp_117 sp0)))) 109 1 40 (fun _ _ _ => none) (drawX Tryz.prog (sp_114 (sp_115 (sp_116 (sp_117 sp0)))) 109) openR5 0 [] st (fun e st => match e with | .normal => Le 1 st (stT aResponseRate aResponseSamples aNoise aTail r (iniS r aTail)) | _ => False)
        | _ => False) := by
  refine Eq.mp (by kernel_rfl : (
  (Ob (ok (y19 aResponseRate aResponseSamples aNoise aTail)) ∧
   Br ((val (y19 aResponseRate aResponseSamples aNoise aTail)).2 != (0 : Int))
   ((Ob (((val (y19 aResponseRate aResponseSamples aNoise aTail)).2 != (0 : Int)) = true) ∧
   (Ob (True) ∧
   (Ob (True) ∧
   (Ob (Value.pointer none = Value.pointer none) ∧
   (Ob ((val (y19 aResponseRate aResponseSamples aNoise aTail)).2 = err) ∧
   True))))))
   (((∃ (v0 : (Int × List (List Int)) × Nat), (Ob ((Option.bind (iter (G_open_b0 aResponseSamples aNoise) v0.2 v0.1) fun y0 => Option.bind (G_open_r0 y0) fun x => some y0) = some r) ∧
   (Ob ((0 : Nat) = (0 : Nat)) ∧
   (Ob ((0 : Nat) = (0 : Nat)) ∧
   (Ob ((↑(List.length aResponseSamples) : Int) = (↑(List.length aResponseSamples) : Int)) ∧
   (Ob ((0 : Int) = v0.1.1) ∧
   (Ob (aResponseRate = aResponseRate) ∧
   (Ob (aNoise = aNoise) ∧
   (Ob (aTail = aTail) ∧
   (Ob ((0 : Nat) = (0 : Nat)) ∧
   (Ob (aResponseSamples = aResponseSamples) ∧
   (Ob (aResponseRate = aResponseRate) ∧
   (Ob (aNoise = aNoise) ∧
   (Ob (aTail = aTail) ∧
   (Ob (Value.slice none (0 : Nat) (0 : Nat) = Value.slice none (0 : Nat) (0 : Nat)) ∧
   (Ob (List.length v0.1.2 = (0 : Nat)) ∧
   True)))))))))))))))) ∧
   (∀ (v0 : (Int × List (List Int)) × Nat), ((Option.bind (iter (G_open_b0 aResponseSamples aNoise) v0.2 v0.1) fun y0 => Option.bind (G_open_r0 y0) fun x => some y0) = some r →
   Br (decide (v0.1.1 < (↑(List.length aResponseSamples) : Int)))
   ((Ob ((0 : Int) ≤ v0.1.1 ∧ v0.1.1 < (↑(List.length aResponseSamples) : Int)) ∧
   (Ob (Int.toNat v0.1.1 < List.length aResponseSamples) ∧
   (Ob (f2iOk FloatKind.f32 IntKind.i64 (List.getD aResponseSamples (Int.toNat v0.1.1) (0 : Nat)) = true) ∧
   (Ob (ok (G_size (f2i FloatKind.f32 (List.getD aResponseSamples (Int.toNat v0.1.1) (0 : Nat))))) ∧
   (Ob ((List.length v0.1.2 + List.length [[IntKind.wrap IntKind.i64 ((if IntKind.wrap IntKind.i64 (val (G_size (f2i FloatKind.f32 (List.getD aResponseSamples (Int.toNat v0.1.1) (0 : Nat)))) - aNoise) > (0 : Int) then IntKind.wrap IntKind.i64 (val (G_size (f2i FloatKind.f32 (List.getD aResponseSamples (Int.toNat v0.1.1) (0 : Nat)))) - aNoise) else (0 : Int)) * if IntKind.wrap IntKind.i64 (val (G_size (f2i FloatKind.f32 (List.getD aResponseSamples (Int.toNat v0.1.1) (0 : Nat)))) - aNoise) > (0 : Int) then IntKind.wrap IntKind.i64 (val (G_size (f2i FloatKind.f32 (List.getD aResponseSamples (Int.toNat v0.1.1) (0 : Nat)))) - aNoise) else (0 : Int)), IntKind.wrap IntKind.i64 (IntKind.wrap IntKind.i64 (val (G_size (f2i FloatKind.f32 (List.getD aResponseSamples (Int.toNat v0.1.1) (0 : Nat)))) + aNoise) * IntKind.wrap IntKind.i64 (val (G_size (f2i FloatKind.f32 (List.getD aResponseSamples (Int.toNat v0.1.1) (0 : Nat)))) + aNoise))]]) * (16 : Nat) ≤ (140737488355328 : Nat) ∧ List.length v0.1.2 + List.length [[IntKind.wrap IntKind.i64 ((if IntKind.wrap IntKind.i64 (val (G_size (f2i FloatKind.f32 (List.getD aResponseSamples (Int.toNat v0.1.1) (0 : Nat)))) - aNoise) > (0 : Int) then IntKind.wrap IntKind.i64 (val (G_size (f2i FloatKind.f32 (List.getD aResponseSamples (Int.toNat v0.1.1) (0 : Nat)))) - aNoise) else (0 : Int)) * if IntKind.wrap IntKind.i64 (val (G_size (f2i FloatKind.f32 (List.getD aResponseSamples (Int.toNat v0.1.1) (0 : Nat)))) - aNoise) > (0 : Int) then IntKind.wrap IntKind.i64 (val (G_size (f2i FloatKind.f32 (List.getD aResponseSamples (Int.toNat v0.1.1) (0 : Nat)))) - aNoise) else (0 : Int)), IntKind.wrap IntKind.i64 (IntKind.wrap IntKind.i64 (val (G_size (f2i FloatKind.f32 (List.getD aResponseSamples (Int.toNat v0.1.1) (0 : Nat)))) + aNoise) * IntKind.wrap IntKind.i64 (val (G_size (f2i FloatKind.f32 (List.getD aResponseSamples (Int.toNat v0.1.1) (0 : Nat)))) + aNoise))]] ≤ (9223372036854775807 : Nat)) ∧
   (∃ (v1 : (Int × List (List Int)) × Nat), (Ob ((Option.bind (iter (G_open_b0 aResponseSamples aNoise) v1.2 v1.1) fun y0 => Option.bind (G_open_r0 y0) fun x => some y0) = some r) ∧
   (Ob (v1.2 < v0.2) ∧
   (Ob ((0 : Nat) = (0 : Nat)) ∧
   (Ob ((0 : Nat) = (0 : Nat)) ∧
   (Ob ((↑(List.length aResponseSamples) : Int) = (↑(List.length aResponseSamples) : Int)) ∧
   (Ob (IntKind.wrap IntKind.i64 (v0.1.1 + (1 : Int)) = v1.1.1) ∧
   (Ob (aResponseRate = aResponseRate) ∧
   (Ob (aNoise = aNoise) ∧
   (Ob (aTail = aTail) ∧
   (Ob ((0 : Nat) = (0 : Nat)) ∧
   (Ob (aResponseSamples = aResponseSamples) ∧
   (Ob (aResponseRate = aResponseRate) ∧
   (Ob (aNoise = aNoise) ∧
   (Ob (aTail = aTail) ∧
   (Ob (Value.slice none (0 : Nat) (0 : Nat) = Value.slice none (0 : Nat) (0 : Nat)) ∧
   (Ob (v0.1.2 ++ [[IntKind.wrap IntKind.i64 ((if IntKind.wrap IntKind.i64 (val (G_size (f2i FloatKind.f32 (List.getD aResponseSamples (Int.toNat v0.1.1) (0 : Nat)))) - aNoise) > (0 : Int) then IntKind.wrap IntKind.i64 (val (G_size (f2i FloatKind.f32 (List.getD aResponseSamples (Int.toNat v0.1.1) (0 : Nat)))) - aNoise) else (0 : Int)) * if IntKind.wrap IntKind.i64 (val (G_size (f2i FloatKind.f32 (List.getD aResponseSamples (Int.toNat v0.1.1) (0 : Nat)))) - aNoise) > (0 : Int) then IntKind.wrap IntKind.i64 (val (G_size (f2i FloatKind.f32 (List.getD aResponseSamples (Int.toNat v0.1.1) (0 : Nat)))) - aNoise) else (0 : Int)), IntKind.wrap IntKind.i64 (IntKind.wrap IntKind.i64 (val (G_size (f2i FloatKind.f32 (List.getD aResponseSamples (Int.toNat v0.1.1) (0 : Nat)))) + aNoise) * IntKind.wrap IntKind.i64 (val (G_size (f2i FloatKind.f32 (List.getD aResponseSamples (Int.toNat v0.1.1) (0 : Nat)))) + aNoise))]] = v1.1.2) ∧
   True)))))))))))))))))))))))
   ((Ob ((0 : Int) ≤ IntKind.wrap IntKind.i64 ((↑(List.length v0.1.2) : Int) + (1 : Int)) ∧ IntKind.wrap IntKind.i64 ((↑(List.length v0.1.2) : Int) + (1 : Int)) = IntKind.wrap IntKind.i64 ((↑(List.length v0.1.2) : Int) + (1 : Int)) ∧ (↑(16 : Nat) : Int) * IntKind.wrap IntKind.i64 ((↑(List.length v0.1.2) : Int) + (1 : Int)) ≤ (281474976710656 : Int) ∧ IntKind.wrap IntKind.i64 ((↑(List.length v0.1.2) : Int) + (1 : Int)) ≤ (9223372036854775807 : Int)) ∧
   (Ob ((0 : Int) ≤ (↑(List.length v0.1.2) : Int) ∧ (↑(List.length v0.1.2) : Int) < (↑(List.length (List.replicate (Int.toNat (IntKind.wrap IntKind.i64 ((↑(List.length v0.1.2) : Int) + (1 : Int)))) [(0 : Int), (0 : Int)])) : Int)) ∧
   (Ob (Int.toNat (↑(List.length v0.1.2) : Int) < List.length (List.replicate (Int.toNat (IntKind.wrap IntKind.i64 ((↑(List.length v0.1.2) : Int) + (1 : Int)))) [(0 : Int), (0 : Int)])) ∧
   (Ob (((val (y19 aResponseRate aResponseSamples aNoise aTail)).2 != (0 : Int)) = false) ∧
   (Ob (True) ∧
   (Ob ((0 : Nat) = (0 : Nat)) ∧
   (Ob (aResponseRate = aResponseRate) ∧
   (Ob (aNoise = aNoise) ∧
   (Ob (aTail = aTail) ∧
   (Ob ((0 : Nat) = (0 : Nat)) ∧
   (Ob (aResponseSamples = aResponseSamples) ∧
   (Ob (aResponseRate = aResponseRate) ∧
   (Ob (aNoise = aNoise) ∧
   (Ob (aTail = aTail) ∧
   (Ob (v0.1.2 = r) ∧
   (Ob (List.set (List.replicate (Int.toNat (IntKind.wrap IntKind.i64 ((↑(List.length v0.1.2) : Int) + (1 : Int)))) [(0 : Int), (0 : Int)]) (Int.toNat (↑(List.length v0.1.2) : Int)) (wr (List.length [D.i IntKind.i64 (0 : Int), D.i IntKind.i64 (0 : Int)]) (List.getD (List.replicate (Int.toNat (IntKind.wrap IntKind.i64 ((↑(List.length v0.1.2) : Int) + (1 : Int)))) [(0 : Int), (0 : Int)]) (Int.toNat (↑(List.length v0.1.2) : Int)) []) (0 : Nat) [(0 : Int), aTail]) = iniS r aTail) ∧
   True))))))))))))))))))))))) = _) ?_
  refine ⟨⟨ha⟩, br_i (fun hb => ?_) (fun hb => ?_)⟩
  · exact ⟨⟨hb⟩, ⟨trivial⟩, ⟨trivial⟩, ⟨rfl⟩, ⟨he hb⟩, trivial⟩
  · have h := hn hb
    refine ⟨⟨(((0 : Int), []), big), ⟨h⟩, (by repeat' (first | exact trivial | exact ⟨rfl⟩ | refine And.intro ?_ ?_))⟩, fun z2 hz2 => ?_⟩
    obtain ⟨k2, hm2, h⟩ := iter_pos hz2
    refine br_d h (fun h => ?_) (fun h => ?_)
    · refine ob_s h fun h => ?_
      refine ob_s h fun h => ?_
      refine ob_s h fun h => ?_
      refine call_s h fun h => ?_
      refine ob_s h fun h => ?_
      exact ⟨((IntKind.wrap IntKind.i64 ((Prod.fst z2).1 + (1 : Int)), (Prod.fst z2).2 ++ [[IntKind.wrap IntKind.i64 ((if IntKind.wrap IntKind.i64 (val (G_size (f2i FloatKind.f32 (List.getD aResponseSamples (Int.toNat (Prod.fst z2).1) (0 : Nat)))) - aNoise) > (0 : Int) then IntKind.wrap IntKind.i64 (val (G_size (f2i FloatKind.f32 (List.getD aResponseSamples (Int.toNat (Prod.fst z2).1) (0 : Nat)))) - aNoise) else (0 : Int)) * if IntKind.wrap IntKind.i64 (val (G_size (f2i FloatKind.f32 (List.getD aResponseSamples (Int.toNat (Prod.fst z2).1) (0 : Nat)))) - aNoise) > (0 : Int) then IntKind.wrap IntKind.i64 (val (G_size (f2i FloatKind.f32 (List.getD aResponseSamples (Int.toNat (Prod.fst z2).1) (0 : Nat)))) - aNoise) else (0 : Int)), IntKind.wrap IntKind.i64 (IntKind.wrap IntKind.i64 (val (G_size (f2i FloatKind.f32 (List.getD aResponseSamples (Int.toNat (Prod.fst z2).1) (0 : Nat)))) + aNoise) * IntKind.wrap IntKind.i64 (val (G_size (f2i FloatKind.f32 (List.getD aResponseSamples (Int.toNat (Prod.fst z2).1) (0 : Nat)))) + aNoise))]]), k2), ⟨next_s h⟩, ⟨lt_gs hm2.symm⟩, (by repeat' (first | exact trivial | exact ⟨rfl⟩ | refine And.intro ?_ ?_))⟩
    · have h := exit_s h
      refine ob_s h fun h => ?_
      refine ob_s h fun h => ?_
      refine ob_s h fun h => ?_
      obtain rfl := Option.some.inj h
      have hb' := hb
      exact (by repeat' (first | exact trivial | exact ⟨rfl⟩ | exact ⟨trivial⟩ | exact ⟨hb⟩ | refine And.intro ?_ ?_))
end Go.Sh
end

section
open Go.RowKit
namespace Go.Sh
open Go Go.Proofs Go.RowKit Go.Sx
set_option linter.unusedVariables false
theorem iniS_len {zs : List (List Int)} (tail : Int) (h : zs.length ≤ 17592186044416) : (iniS zs tail).length = zs.length + 1 := by
  unfold iniS
  rw [List.length_set, List.length_replicate, show IntKind.wrap IntKind.i64 ((zs.length : Int) + 1) = (zs.length : Int) + 1 from IntWalk.i64_in _ (by omega)]
  omega
theorem upS_len (ss : List (List Int)) (i lo hi : Int) : (upS ss i lo hi).length = ss.length := by
  unfold upS
  rw [List.length_set]
theorem sumsOf_snoc (zs : List (List Int)) (tail : Int) (pre : List (Fin zs.length)) (x : Fin zs.length) : sumsOf zs tail (pre ++ [x]) = upS (sumsOf zs tail pre) (x.1 : Int) ((zs.getD x.1 []).getD 0 0) ((zs.getD x.1 []).getD 1 0) := by
  unfold sumsOf
  rw [List.foldl_append]
  rfl
theorem sumsOf_len {zs : List (List Int)} (tail : Int) (h : zs.length ≤ 17592186044416) (pre : List (Fin zs.length)) : (sumsOf zs tail pre).length = zs.length + 1 := by
  unfold sumsOf
  have : ∀ (pre : List (Fin zs.length)) (ss : List (List Int)), ss.length = zs.length + 1 → (pre.foldl (fun ss x => upS ss (x.1 : Int) ((zs.getD x.1 []).getD 0 0) ((zs.getD x.1 []).getD 1 0)) ss).length = zs.length + 1 := by
    intro pre
    induction pre with
    | nil => exact fun ss h => h
    | cons x l ih => exact fun ss h => ih _ ((upS_len _ _ _ _).trans h)
  exact this pre _ (iniS_len tail h)
section
variable {rate : Int} {samples : List Nat} {noise tail : Int} {zs ss : List (List Int)}
theorem hpT_find {h : Nat} {o : O} (hf : find (hpT rate samples noise tail zs ss) h = some o) :
    (h = 1 ∧ o = .box 26 [.d (.i .i64 rate), .o 0, .d (.i .i64 noise), .d (.i .i64 tail)]) ∨ (h = 2 ∧ o = .box 105 [.p 3 (0 : Nat) 1 (0 : Nat)]) ∨ (h = 0 ∧ o = .ext (.floats .f32 samples)) ∨
    (h = 3 ∧ o = .box 133 [.d (.i .i64 rate), .o 0, .d (.i .i64 noise), .d (.i .i64 tail), .o 4, .o 5]) ∨ (h = 4 ∧ o = .row 30 (.recs 2 zs)) ∨ (h = 5 ∧ o = .row 30 (.recs 2 ss)) ∨ (h = 6 ∧ o = .box 81 [.o 4]) := by
  simp only [hpT, find] at hf
  split at hf
  · rename_i e; cases hf; exact .inl ⟨e.symm, rfl⟩
  split at hf
  · rename_i e; cases hf; exact .inr (.inl ⟨e.symm, rfl⟩)
  split at hf
  · rename_i e; cases hf; exact .inr (.inr (.inl ⟨e.symm, rfl⟩))
  split at hf
  · rename_i e; cases hf; exact .inr (.inr (.inr (.inl ⟨e.symm, rfl⟩)))
  split at hf
  · rename_i e; cases hf; exact .inr (.inr (.inr (.inr (.inl ⟨e.symm, rfl⟩))))
  split at hf
  · rename_i e; cases hf; exact .inr (.inr (.inr (.inr (.inr (.inl ⟨e.symm, rfl⟩)))))
  split at hf
  · rename_i e; cases hf; exact .inr (.inr (.inr (.inr (.inr (.inr ⟨e.symm, rfl⟩)))))
  · cases hf
theorem hpT_rng {h : Nat} {o : O} (hf : find (hpT rate samples noise tail zs ss) h = some o) : rngO o = true := by
  rcases hpT_find hf with ⟨_, rfl⟩ | ⟨_, rfl⟩ | ⟨_, rfl⟩ | ⟨_, rfl⟩ | ⟨_, rfl⟩ | ⟨_, rfl⟩ | ⟨_, rfl⟩ <;> rfl
theorem hpT_lt {h : Nat} {o : O} (hf : find (hpT rate samples noise tail zs ss) h = some o) : h < 7 ∧ o.lt 7 := by
  have L : ∀ (l : List C), l.all (fun c => match c with | .d _ => true | .o h => h < 7 | .p h _ _ _ => h < 7 | _ => false) = true → ∀ c ∈ l, C.lt 7 c := by
    intro l hl c hc
    have := List.all_eq_true.1 hl c hc
    cases c with
    | d x => trivial
    | o h => exact (show h < 7 from of_decide_eq_true this)
    | p h i e j => exact (show h < 7 from of_decide_eq_true this)
    | _ => cases this
  rcases hpT_find hf with ⟨rfl, rfl⟩ | ⟨rfl, rfl⟩ | ⟨rfl, rfl⟩ | ⟨rfl, rfl⟩ | ⟨rfl, rfl⟩ | ⟨rfl, rfl⟩ | ⟨rfl, rfl⟩
  · exact ⟨by decide, L _ rfl⟩
  · exact ⟨by decide, L _ rfl⟩
  · exact ⟨by decide, trivial⟩
  · exact ⟨by decide, L _ rfl⟩
  · exact ⟨by decide, trivial⟩
  · exact ⟨by decide, trivial⟩
  · exact ⟨by decide, L _ rfl⟩
theorem hpT_blk {ρ : Env} {h k : Nat} {o : O} (s2 : List (List Int)) (hf : find (hpT rate samples noise tail zs ss) h = some o) (hb : o.blk (ρ h) = some k) : ∃ o', find (hpT rate samples noise tail zs s2) h = some o' ∧ o'.blk (ρ h) = some k := by
  rcases hpT_find hf with ⟨rfl, rfl⟩ | ⟨rfl, rfl⟩ | ⟨rfl, rfl⟩ | ⟨rfl, rfl⟩ | ⟨rfl, rfl⟩ | ⟨rfl, rfl⟩ | ⟨rfl, rfl⟩
  all_goals exact ⟨_, rfl, hb⟩
end
theorem cut_nx {ρ : Env} {B : Bd} {hp hp' : Hp} {n n' : Nat} {w : World} (h : HRel ρ B hp n w) (hs : ∀ k o, find hp' k = some o → find hp k = some o ∧ k < n' ∧ o.lt n') : HRel ρ B hp' n' w :=
  ⟨fun k o hf => ⟨(hs k o hf).2.1, (hs k o hf).2.2, (h.ok k o (hs k o hf).1).2.2⟩, fun k o k' o' b hf hf' => h.apart k o k' o' b (hs k o hf).1 (hs k' o' hf').1, h.glob⟩
theorem ext_bel {ρ : Env} {B : Bd} {w w' : World} {h : Nat} {c : Cont} (hb : Bel B w w') (ho : (O.ext c).ok ρ B w h) : (O.ext c).ok ρ B w' h := by
  obtain ⟨⟨a, cap, h1, h2, h3⟩, h4⟩ := ho
  refine ⟨⟨a, cap, h1, h2, fun hn => ?_⟩, h4⟩
  obtain ⟨b, off, rfl, hx⟩ := h3 hn
  exact ⟨b, off, rfl, fun j x hj => (hb.cell (p := ⟨b, off + j, none⟩) (h4 ⟨b, off, none⟩ _ _ h1 hn)).trans (hx j x hj)⟩
theorem cell_block {W : World} {k : Nat} {v : Value} {t : Nat} {f : Nat × Nat} (h : W.heap[k]? = some (.cells #[v] t f)) : W.cell? ⟨k, 0, none⟩ = some v := by
  simp [World.cell?, h]
theorem cell_put {W : World} {p : Addr} {v : Value} {l : Nat} {o o' : Obj} (h : W.cell? p = some v) (hl : W.heap[l]? = some o) (ho : o.isCells = false) : (W.putObj l o').cell? p = some v := by
  have hlt := World.block_lt_of_cell? W p h
  have hne : p.block ≠ l := by
    intro e
    subst e
    have : W.cell? p = none := by
      unfold World.cell?
      rw [hl]
      cases o <;> first | rfl | cases ho
    rw [this] at h
    cases h
  have hb : (W.putObj l o').heap[p.block]? = W.heap[p.block]? := (grownBy_putObj' W l o').block p.block hlt (fun e => hne (Option.some.inj e))
  exact (World.cell?_of_block (w := W) hb).trans h
theorem rd_put {kb : Nat} {sv : Value} {zs : List (List Int)} {W : World} {l : Nat} {o o' : Obj} (h : Bk.Rd kb sv zs W) (hl : W.heap[l]? = some o) (ho : o.isCells = false) : Bk.Rd kb sv zs (W.putObj l o') := by
  refine ⟨cell_put h.box hl ho, ?_⟩
  obtain ⟨a, cap, h1, h2, h3⟩ := h.row
  refine ⟨a, cap, h1, h2, fun hn => ?_⟩
  obtain ⟨b, off, hab, hx⟩ := h3 hn
  exact ⟨b, off, hab, fun j x hj => cell_put (hx j x hj) hl ho⟩
structure OI (ρ : Env) (B : Bd) (rate : Int) (samples : List Nat) (noise tail : Int) (zs : List (List Int)) (w0 : World) (pre : List (Fin zs.length)) (W : World) : Prop where
  heap : HRel ρ B (hpT rate samples noise tail zs (sumsOf zs tail pre)) 7 W
  bel : Bel B w0 W
  old : Old B W
section
variable {ρ : Env} {B : Bd} {rate : Int} {samples : List Nat} {noise tail : Int} {zs : List (List Int)} {w0 : World}
theorem OI.own (h0 : Old B w0) : OwnFrom w0.heap.size (OI ρ B rate samples noise tail zs w0) := by
  intro pre W W' row hs hg hr
  have hnB : ∀ k, B k → row ≠ some k := fun k hk e => by
    have h1 := (hr k e).1
    have h2 := h0 k hk
    omega
  refine ⟨hs.heap.grown hg hs.old (fun r e => ⟨fun hb => hnB r hb e, (hr r e).2⟩) (fun h o hf => hpT_rng hf), hs.bel.trans ⟨hg.os, hg.tape, hg.output, hg.size, fun k hk => hg.block k (hs.old k hk) (fun e => hnB k hk e.symm)⟩, fun k hk => Nat.lt_of_lt_of_le (hs.old k hk) hg.size⟩
theorem OI.rd {pre : List (Fin zs.length)} {W : World} (h : OI ρ B rate samples noise tail zs w0 pre W) {kb : Nat} (hk : ρ 6 = .pointer (some ⟨kb, 0, none⟩)) : Bk.Rd kb (ρ 4) zs W := by
  obtain ⟨_, _, k, h1, _, h3⟩ := h.heap.ok 6 _ rfl
  rw [hk] at h1
  cases h1
  exact ⟨cell_block h3, row_isRow (h.heap.ok 4 _ rfl).2.2 rfl⟩
end
def OA (y : Value) (zs : List (List Int)) (w0 : World) (x : Fin zs.length) (a : Act) (W : World) : Prop :=
  a.tmps.size = 109 ∧ a.defers = [] ∧ a.tmps.getD 6 undef = y ∧ a.tmps.getD 12 undef = .int .i64 (x.1 : Int) ∧
  ∃ b, w0.heap.size ≤ b ∧ a.tmps.getD 13 undef = .pointer (some ⟨b, 0, none⟩) ∧ W.heap[b]? = some (.cells #[.int .i64 ((zs.getD x.1 []).getD 0 0), .int .i64 ((zs.getD x.1 []).getD 1 0)] 30 (0, 0))
theorem OA.own {y : Value} {zs : List (List Int)} {w0 : World} (x : Fin zs.length) (a : Act) : OwnFrom w0.heap.size (fun (_ : Unit) W => OA y zs w0 x a W) := by
  rintro _ W W' row ⟨h1, h2, h3, h4, b, h5, h6, h7⟩ hg hr
  refine ⟨h1, h2, h3, h4, b, h5, h6, (hg.block b (Array.getElem?_eq_some_iff.1 h7).1 (fun e => ?_)).trans h7⟩
  obtain ⟨_, o, ho, hc⟩ := hr b e.symm
  rw [h7] at ho
  cases ho
  cases hc
theorem tms {a : Act} {y : Value} {i lo hi : Int} (hs : a.tmps.size = 109) (hy : a.tmps.getD 6 undef = y) {t : Nat} {v : V} {ρ : Env} (hv : getT (stA y i lo hi).tm t = some v) :
    V.lt 0 v ∧ (((#[90, 91] : Array Tmp).zip #[.int .i64 i, .agg #[.int .i64 lo, .int .i64 hi]]).foldl (fun t (p, v) => t.setIfInBounds p v) a.tmps).getD t undef = v.val ρ := by
  have e : ((#[90, 91] : Array Tmp).zip #[Value.int .i64 i, .agg #[.int .i64 lo, .int .i64 hi]]).foldl (fun t (p, v) => t.setIfInBounds p v) a.tmps = (a.tmps.setIfInBounds 90 (.int .i64 i)).setIfInBounds 91 (.agg #[.int .i64 lo, .int .i64 hi]) := by simp
  rw [e]
  simp only [stA, getT] at hv
  split at hv
  · rename_i e; subst e; cases hv
    refine ⟨trivial, ?_⟩
    rw [← hy]
    simp [Array.getD, hs, V.val, W.val, C.val, D.val, Array.getElem_setIfInBounds]
  split at hv
  · rename_i e; subst e; cases hv
    exact ⟨trivial, by simp [Array.getD, hs, V.val, W.val, C.val, D.val, vi, Array.getElem_setIfInBounds]⟩
  split at hv
  · rename_i e; subst e; cases hv
    refine ⟨fun c hc => ?_, by simp [Array.getD, hs, V.val, W.val, C.val, D.val, Array.getElem_setIfInBounds]⟩
    simp only [List.mem_cons, List.not_mem_nil, or_false] at hc
    rcases hc with rfl | rfl <;> trivial
  · cases hv
end Go.Sh
end

section
open Go.RowKit
namespace Go.Sh
open Go Go.Proofs Go.RowKit Go.Sx
set_option linter.unusedVariables false
section
variable {ρ : Env} {B : Bd} {rate : Int} {samples : List Nat} {noise tail : Int} {zs : List (List Int)}
set_option maxRecDepth 100000 in
set_option maxHeartbeats 2000000 in
theorem open_body {w0 : World} {n l : Nat} (h0 : Old B w0) (hz : zs.length ≤ 17592186044416) (hblk : ∀ s h o k, find (hpT rate samples noise tail zs s) h = some o → o.blk (ρ h) = some k → k < w0.heap.size)
    {pre : List (Fin zs.length)} {x : Fin zs.length} {a : Act} {W : World} {y : Value} (hy : y = (C.p 2 0 1 0).val ρ) (hI : OI ρ B rate samples noise tail zs w0 pre W) (hA : OA y zs w0 x a W) :
    openB.wpIn (Fence.wide.inRound l) n Tryz.prog (fun e a' W' => e = .normal ∧ KeepsFrom w0.heap.size W W' ∧ OI ρ B rate samples noise tail zs w0 (pre ++ [x]) W') a W := by
  obtain ⟨h1, h2, h3, h4, b, h5, h6, h7⟩ := hA
  generalize hlo : (zs.getD x.1 []).getD 0 0 = lo at *
  generalize hhi : (zs.getD x.1 []).getD 1 0 = hi at *
  have hnB : ¬ B b := fun hb => by have := h0 b hb; omega
  have hh0 := hI.heap.addAt (b := b) (ty := 30) (cs := [.d (.i .i64 lo), .d (.i .i64 hi)]) h7 (fun c hc => by
    simp only [List.mem_cons, List.not_mem_nil, or_false] at hc
    rcases hc with rfl | rfl <;> trivial) hnB (fun h o k hf hk e => by have := hblk _ h o k hf hk; omega)
  have hrng : ∀ h o, find ((7, O.box 30 [.d (.i .i64 lo), .d (.i .i64 hi)]) :: hpT rate samples noise tail zs (sumsOf zs tail pre)) h = some o → rngO o = true := fun h o hf => by
    simp only [find] at hf
    split at hf
    · cases hf; rfl
    · exact hpT_rng hf
  have hh1 := hh0.moreB (B2 := fun k => B k ∨ ∃ o : Obj, W.heap[k]? = some o ∧ o.isCells = false) (fun k h => .inl h) (fun h o k hf hk => by
    rintro (hb | ⟨o', ho', hc⟩)
    · exact (O.blk_lt (hh0.ok h o hf).2.2 hk).2 hb
    · obtain ⟨c, t, f, hcells⟩ := own_cells (hh0.ok h o hf).2.2 (hrng h o hf) hk
      rw [hcells] at ho'
      cases ho'
      cases hc)
  have hag0 := upd_agree ρ 7 (.pointer (some ⟨b, 0, none⟩))
  have hrel : Rel (upd ρ 7 (.pointer (some ⟨b, 0, none⟩))) (fun k => B k ∨ ∃ o : Obj, W.heap[k]? = some o ∧ o.isCells = false) 109 8 (stB rate samples noise tail zs (sumsOf zs tail pre) (x.1 : Int) lo hi) a W := by
    refine ⟨fun t v hv => ?_, h1, h2, hh1, ?_, Nat.le_refl _⟩
    · simp only [stB, getT] at hv
      split at hv
      · rename_i e; subst e; cases hv
        exact ⟨show 2 < 8 by decide, by rw [h3, hy]; rfl⟩
      split at hv
      · rename_i e; subst e; cases hv; exact ⟨trivial, h4⟩
      split at hv
      · rename_i e; subst e; cases hv
        exact ⟨show 7 < 8 by decide, by rw [h6]; rfl⟩
      · cases hv
    · rintro k (hk | ⟨o, ho, _⟩)
      · exact hI.old k hk
      · exact (Array.getElem?_eq_some_iff.1 ho).1
  have hlen := sumsOf_len tail hz pre
  have hx := x.2
  refine wpIn_mono (sxIn_sound mixed (sp_117_ok sp0_ok) openB 0 [] _ _ _ a W (by kernel_rfl) (openB_vc rate samples noise tail zs (sumsOf zs tail pre) (x.1 : Int) lo hi (by omega) (by omega) (by omega)) hrel (Agree.refl _ _) (Bel.refl _ _)) ?_
  rintro e a' W' ⟨ex, ρ', st', rfl, hk, hr', hag', hbl'⟩
  cases ex with
  | normal =>
    obtain ⟨ρ2, hr2, hag2⟩ := Le.rel hk hr'
    have hbB : Bel B W W' := ⟨hbl'.os, hbl'.tape, hbl'.output, hbl'.size, fun k hk => hbl'.block k (.inl hk)⟩
    have hag : ∀ h, h < 7 → ρ2 h = ρ h := fun h hh => by
      have e1 := hag2 h (by omega)
      have e2 := hag' h (by omega)
      rw [e1, e2]
      exact hag0 h hh
    refine ⟨rfl, ⟨hbl'.size, fun k o _ hk ho => (hbl'.block k (.inr ⟨o, hk, ho⟩)).trans hk⟩, ?_, hI.bel.trans hbB, fun k hk => Nat.lt_of_lt_of_le (hI.old k hk) hbl'.size⟩
    rw [sumsOf_snoc, hlo, hhi]
    have hl := hr2.heap.lessB (B := B) (fun k h => .inl h) (hI.heap.glob.bel hbB) (fun h o hf he => by
      simp only [stB, find] at hf
      split at hf
      · cases hf; cases he
      · rcases hpT_find hf with ⟨rfl, rfl⟩ | ⟨rfl, rfl⟩ | ⟨rfl, rfl⟩ | ⟨rfl, rfl⟩ | ⟨rfl, rfl⟩ | ⟨rfl, rfl⟩ | ⟨rfl, rfl⟩
        · cases he
        · cases he
        · have := ext_bel hbB (hI.heap.ok 0 _ rfl).2.2
          unfold O.ok at this ⊢
          rw [hag 0 (by decide)]
          exact this
        all_goals cases he)
    refine (cut_nx (n' := 7) hl (fun k o hf => ⟨?_, (hpT_lt hf).1, (hpT_lt hf).2⟩)).agree (fun h hh => (hag h hh).symm)
    show find (_ :: _) k = some o
    simp only [find]
    rw [if_neg (by have := (hpT_lt hf).1; omega)]
    exact hf
  | exit j => exact hk.elim
  | ret => exact hk.elim
set_option maxRecDepth 100000 in
set_option maxHeartbeats 2000000 in
theorem open_range {n : Nat} {Q : Exit → Act → World → Prop} {a : Act} {w : World} (h1 : 1 ≤ n) (hz : zs.length ≤ 17592186044416) (hr : Rel ρ B 109 1 (stT rate samples noise tail zs (iniS zs tail)) a w)
    (hdone : ∀ (D : Nat) (W : World), w.heap.size ≤ D → OI ρ B rate samples noise tail zs w (Bk.bk zs.length zs.length) W → W.heap[D]? = some (.deferred (some [])) → Q .normal { a with defers := { target := .collected D, args := #[] } :: a.defers } W) :
    (Code.rangeFunc (.tmp 89) #[90, 91] openA openB).wpIn Fence.wide n Tryz.prog Q a w := by
  obtain ⟨_, _, kb, hkb, _, hkc⟩ := hr.heap.ok 6 _ rfl
  have hI0 : OI ρ B rate samples noise tail zs w [] w := ⟨hr.heap, Bel.refl _ _, hr.le⟩
  have hblk : ∀ s h o k, find (hpT rate samples noise tail zs s) h = some o → o.blk (ρ h) = some k → k < w.heap.size := fun s h o k hf hk => by
    obtain ⟨o', hf', hk'⟩ := hpT_blk (iniS zs tail) hf hk
    exact (O.blk_lt (hr.heap.ok h o' hf').2.2 hk').1
  have hg : a.eval (.tmp 89) = .func (.func 141) #[] #[.pointer (some ⟨kb, 0, none⟩)] := by
    have := (hr.tm 89 _ rfl).2
    show a.tmps.getD 89 undef = _
    rw [this]
    show Value.func (.func 141) #[] #[ρ 6] = _
    rw [hkb]
  have hy : a.tmps.getD 6 undef = (C.p 2 0 1 0).val ρ := (hr.tm 6 _ rfl).2
  refine wpIn_rangeFunc_ownH (F := Fence.wide) (n := n) rfl h1 (gf := 141) (lb := #[.pointer (some ⟨kb, 0, none⟩)]) hg trivial (enters_of Tryz.func141 (by kernel_rfl) rfl)
    (Bk.back_stops (n - 1) kb (ρ 4) zs hz w (hI0.rd hkb)) (fun h k r => k (h r)) (fun W l o o' _ hl ho _ r => rd_put r hl ho) (Below.refl _ _) (fun _ => rfl)
    (OI ρ B rate samples noise tail zs w) (fun _ _ _ => False) (OI.own hr.le) (fun _ _ _ _ _ h _ _ => h.elim) hI0 (OA ((C.p 2 0 1 0).val ρ) zs w) (fun x a' => OA.own x a') ?assign ?body ?done ?stop
  case assign =>
    intro l pre x W K hI hK
    have hrel : Rel ρ (fun k => k < W.heap.size) 109 0 (stA ((C.p 2 0 1 0).val ρ) (x.1 : Int) ((zs.getD x.1 []).getD 0 0) ((zs.getD x.1 []).getD 1 0)) { tmps := ((#[90, 91] : Array Tmp).zip (Bk.encs zs x)).foldl (fun t (p, v) => t.setIfInBounds p v) a.tmps, defers := [] } W := by
      refine ⟨fun t v hv => tms hr.size hy hv, ?_, rfl, ⟨fun h o hf => (by cases hf), fun h o h' o' k hf => (by cases hf), glob_all hI.heap.glob hI.old⟩, fun k hk => hk, Nat.le_refl _⟩
      have : ((#[90, 91] : Array Tmp).zip (Bk.encs zs x)).foldl (fun t (p, v) => t.setIfInBounds p v) a.tmps = (a.tmps.setIfInBounds 90 (.int .i64 (x.1 : Int))).setIfInBounds 91 (.agg #[.int .i64 ((zs.getD x.1 []).getD 0 0), .int .i64 ((zs.getD x.1 []).getD 1 0)]) := by simp [Bk.encs]
      show Array.size (Array.foldl _ _ _) = _
      rw [this]
      simp [hr.size]
    refine wpIn_mono (sxIn_sound mixed sp0_ok openA 0 [] _ _ ρ _ W (by kernel_rfl) (openA_vc _ _ _ _) hrel (Agree.refl _ _) (Bel.refl _ _)) ?_
    rintro e a' W' ⟨ex, ρ', st', rfl, hk, hr', hag', hbl'⟩
    cases ex with
    | normal =>
      obtain ⟨ρ2, hr2, hag2⟩ := Le.rel hk hr'
      obtain ⟨_, _, b, hb, hnb, hcb⟩ := hr2.heap.ok 0 _ rfl
      have hI' : OI ρ B rate samples noise tail zs w pre W' := OI.own hr.le pre W W' none hI ⟨hbl'.os, hbl'.tape, hbl'.output, hbl'.size, fun k hk _ => hbl'.block k hk⟩ (fun r e => by cases e)
      refine hK a' W' ⟨hbl'.size, fun k o _ hk ho => (hbl'.block k (Array.getElem?_eq_some_iff.1 hk).1).trans hk⟩ (fun _ => hI'.rd hkb) hI' ⟨hr2.size, hr2.defers, (hr2.tm 6 _ rfl).2, (hr2.tm 12 _ rfl).2, b, Nat.le_trans hI.bel.size (Nat.le_of_not_lt hnb), ?_, ?_⟩
      · have := (hr2.tm 13 _ rfl).2
        rw [this]
        show Value.pointer (some ⟨(base (ρ2 0)).block, (base (ρ2 0)).off + 0, none⟩) = _
        rw [hb]
        rfl
      · exact hcb
    | exit j => exact hk.elim
    | ret => exact hk.elim
  case body =>
    intro l pre x a' W hl _ hI hA hlt
    refine wpIn_mono (open_body hr.le hz hblk rfl hI hA) ?_
    rintro e a2 W' ⟨rfl, hkf, hI'⟩
    exact ⟨hkf, fun _ => hI'.rd hkb, hI'⟩
  case done =>
    intro D xs W hD hS hI hd
    subst hS
    exact hdone D W hD hI hd
  case stop =>
    intro D c pre W _ _ h
    exact h.elim
end
end Go.Sh
end

section
open Go.RowKit
namespace Go.Sh
open Go Go.Proofs Go.RowKit Go.Sx
set_option linter.unusedVariables false
def idOf : Code → Nat
  | .region i _ _ => i
  | _ => 0
noncomputable def oT (i : Nat) : Oper := ((Bk.opsOf (subO [1, 0] openT))[i]?).getD default
def rd1 (t : Nat) (v : V) : Operand → Option V
  | .tmp u => match Nat.beq u t with
    | true => some v
    | false => none
  | _ => none
theorem rd1_reads {ρ : Env} {nx t : Nat} {v : V} {a : Act} (h1 : v.lt nx) (h2 : a.tmps.getD t undef = v.val ρ) : Reads ρ nx (rd1 t v) a := by
  intro x u hx
  unfold rd1 at hx
  split at hx
  · split at hx
    · rename_i e
      cases hx
      have := Nat.eq_of_beq_eq_true e
      subst this
      exact ⟨h1, h2⟩
    · cases hx
  · cases hx
theorem val_step {n : Nat} {ops : Array Oper} {Q : Exit → Act → World → Prop} {o : Oper} {rest : List Oper} {a : Act} {w : World} {v : Value} (hg : o.guard = none) (h : (execOp a.eval o).run Tryz.prog w = .ok (.value v) w)
    (hK : wpListIn Fence.wide n Tryz.prog ops Q rest (a.put o.dst v) w) : wpListIn Fence.wide n Tryz.prog ops Q (o :: rest) a w := by
  refine wpListIn_plain hg fun K hK' => ⟨fun _ _ => trivial, ?_⟩
  have hs : o.semAt Fence.wide.round a.eval = execOp a.eval o := Oper.semAt_none a.eval o
  rw [hs, h]
  exact hK' _ _ hK
abbrev spO : Specs := sp_114 (sp_115 (sp_116 (sp_117 sp0)))
theorem spO_ok : SpecsOK Tryz.prog spO := sp_114_ok (sp_115_ok (sp_116_ok (sp_117_ok sp0_ok)))
theorem r0_len {zs : List (List Int)} (h : G_open_r0 zs = some ()) : zs.length ≤ 17592186044416 := by
  unfold G_open_r0 at h
  split at h
  · rename_i h1
    obtain ⟨h1, _, h2, h3⟩ := h1
    by_cases hc : zs.length + 1 ≤ 9223372036854775807
    · rw [show IntKind.wrap IntKind.i64 ((zs.length : Int) + 1) = (zs.length : Int) + 1 from IntWalk.i64_in _ (by omega)] at h2
      omega
    · exfalso
      split at h
      · rename_i h4
        have hw : IntKind.wrap IntKind.i64 ((zs.length : Int) + 1) ≤ 9223372036854775807 := h3
        obtain ⟨_, h5⟩ := h4
        rw [List.length_replicate] at h5
        omega
      · cases h
  · cases h
set_option maxRecDepth 100000 in
set_option maxHeartbeats 4000000 in
theorem open_calls (rate : Int) (samples : List Nat) (noise tail : Int) (e : Int) (zs ss : List (List Int)) (hG : G_open rate samples noise tail = some (e, zs, ss)) (ρ0 : Env) (w : World)
    (hlt : ∀ x ∈ (bldD k_G_open [.d (.i .i64 rate), .r (.floats .f32 samples), .d (.i .i64 noise), .d (.i .i64 tail)]).vs, V.lt 1 x)
    (hh : HRel ρ0 (fun k => k < w.heap.size) (bldD k_G_open [.d (.i .i64 rate), .r (.floats .f32 samples), .d (.i .i64 noise), .d (.i .i64 tail)]).hp 1 w) :
    Calls Tryz.prog 67 ((bldD k_G_open [.d (.i .i64 rate), .r (.floats .f32 samples), .d (.i .i64 noise), .d (.i .i64 tail)]).vs.map (V.val ρ0)).toArray w fun x w' => ∃ ρ' v hp' nx', x = .returned (V.val ρ' v) ∧ v.lt nx' ∧ Agree 1 ρ0 ρ' ∧ HRel ρ' (fun k => k < w.heap.size) hp' nx' w' ∧ Bel (fun k => k < w.heap.size) w w' ∧
      ((e ≠ 0 ∧ fitV 1 [.c (.d (.v (Value.pointer none))), .c (.d (.i .i64 e))] v hp') ∨ (e = 0 ∧ v = .t [.c (.p 3 0 1 0), .c (.d (.i .i64 0))] ∧ hp' = hpT rate samples noise tail zs ss)) := by
  unfold G_open at hG
  obtain ⟨r0, hr0, hG⟩ := Option.bind_eq_some_iff.1 hG
  have hv : val (y19 rate samples noise tail) = r0 := by rw [hr0]; rfl
  have ha : ok (y19 rate samples noise tail) := by rw [hr0]; rfl
  have hn : ((val (y19 rate samples noise tail)).2 != (0 : Int)) = false → e = 0 ∧ ss = sumsOf zs tail (Bk.bk zs.length zs.length) ∧ G_open_r0 zs = some () ∧ Option.bind (iter (G_open_b0 samples noise) big (((0 : Int), []))) (fun y0 => Option.bind (G_open_r0 y0) (fun _ => some y0)) = some zs := by
    intro hb
    rw [hv] at hb
    rw [if_neg (by rw [hb]; decide)] at hG
    obtain ⟨y0, hy0, hG⟩ := Option.bind_eq_some_iff.1 hG
    obtain ⟨_, hr, hG⟩ := Option.bind_eq_some_iff.1 hG
    cases hG
    refine ⟨rfl, rfl, hr, ?_⟩
    rw [hy0]
    simp [hr]
  have he : ((val (y19 rate samples noise tail)).2 != (0 : Int)) = true → (val (y19 rate samples noise tail)).2 = e := by
    intro hb
    rw [hv] at hb ⊢
    rw [if_pos hb] at hG
    cases hG
    rfl
  refine callsIn_wide.1 (callsIn_of_wp_marks (n := 3) (c := bodyOf Tryz.f67) Tryz.func67 (by kernel_rfl) trivial (wpIn_wide.2 ?_) rfl)
  have hrel := rel_enter (n0 := 1) (N := 109) (Nat.le_of_ble_eq_true (by kernel_rfl)) hlt (Nat.le_refl _) ρ0 w hh (fun k hk => hk)
  refine sx_head spO_ok (drawn_ok mixed spO_ok) (cur := 0) (gs := []) 6 (bodyOf Tryz.f67) _ ρ0 _ w (by kernel_rfl) (head_vc rate samples noise tail zs e ha he (fun hb => (hn hb).2.2.2)) hrel (Agree.refl _ _) (Bel.refl _ _) ?_ ?_
  · rintro ρ1 st1 a1 w1 ⟨⟨hb⟩, hk⟩ hr1 hag1 hbl1
    have hT : tailC' 6 (bodyOf Tryz.f67) = .seq (.seq openR5 (.block 2 (.rangeFunc (.tmp 89) #[90, 91] openA openB))) (.seq (subO [1, 0] openT) (subO [1, 1] openT)) := by kernel_rfl
    rw [hT]
    refine (wpIn_wide (n := 3)).1 (wpIn_seq (wpIn_seq (wpIn_mono (wpIn_wide.2 (sx_sound spO_ok (drawn_ok mixed spO_ok) openR5 0 [] st1 _ ρ1 a1 w1 hk hr1 (Agree.refl _ _) (Bel.refl _ _))) ?_)))
    rintro x a2 w2 ⟨ex, ρ2, st2, rfl, hle, hr2, hag2, hbl2⟩
    cases ex with
    | normal =>
      obtain ⟨ρ3, hr3, hag3⟩ := Le.rel hle hr2
      obtain ⟨he0, hss, hr0', _⟩ := hn hb
      refine wpIn_block (open_range (by decide) (r0_len hr0') hr3 ?_)
      intro D W hD hI hd
      have hR : subO [1, 0] openT = .region (idOf (subO [1, 0] openT)) #[oT 0, oT 1, oT 2] false := by kernel_rfl
      have hRet : subO [1, 1] openT = .ret := by kernel_rfl
      rw [hRet, hR]
      have t6 := (hr3.tm 6 _ rfl)
      have s2 := hr3.size
      generalize hat : ({ a2 with defers := { target := .collected D, args := #[] } :: a2.defers } : Act) = at2
      have hat6 : at2.tmps.getD 6 undef = V.val ρ3 (.w (.c (.p 2 0 1 0))) := by rw [← hat]; exact t6.2
      have hats : at2.tmps.size = 109 := by rw [← hat]; exact s2
      have hatd : at2.defers = [{ target := .collected D, args := #[] }] := by rw [← hat, hr3.defers]
      have g1 := stepV_run (P := Tryz.prog) (o := oT 0) hI.heap (rd1_reads (show V.lt 7 (.w (.c (.p 2 0 1 0))) from (by decide : 2 < 7)) hat6) (show stepV Tryz.prog (oT 0).op _ _ = some (True, .w (.c (.p 3 0 1 0))) from by kernel_rfl) trivial
      have l1 : ∀ v x, x ≠ 108 → (at2.put (some 108) v).tmps.getD x undef = at2.tmps.getD x undef := fun v x hx => by
        rw [put_get (fun y hy => by cases hy; rw [hats]; decide), if_neg (fun e => hx (Option.some.inj e).symm)]
      have p108 : ∀ v, (at2.put (some 108) v).tmps.getD 108 undef = v := fun v => by
        rw [put_get (fun y hy => by cases hy; rw [hats]; decide), if_pos rfl]
      refine wpIn_seq (wpIn_region_list (val_step (o := oT 0) (rest := [oT 1, oT 2]) (by kernel_rfl) g1.1 ?_))
      rw [show (oT 0).dst = some 108 from by kernel_rfl]
      have g2 := stepV_run (P := Tryz.prog) (o := oT 1) hI.heap (rd1_reads g1.2 (p108 _)) (show stepV Tryz.prog (oT 1).op _ _ = some (True, .w (.c (.p 3 0 1 0))) from by kernel_rfl) trivial
      refine val_step (o := oT 1) (by kernel_rfl) g2.1 ?_
      rw [show (oT 1).dst = some 2 from by kernel_rfl]
      generalize hb1 : ((at2.put (some 108) (V.val ρ3 (.w (.c (.p 3 0 1 0))))).put (some 2) (V.val ρ3 (.w (.c (.p 3 0 1 0))))) = b1
      have b1s : b1.tmps.size = 109 := by rw [← hb1, put_size, put_size, hats]
      have b12 : b1.tmps.getD 2 undef = V.val ρ3 (.w (.c (.p 3 0 1 0))) := by
        rw [← hb1, put_get (fun y hy => by cases hy; rw [put_size, hats]; decide), if_pos rfl]
      have b1d : b1.defers = [{ target := .collected D, args := #[] }] := by rw [← hb1, put_defers, put_defers, hatd]
      have g3 := stepV_run (P := Tryz.prog) (o := oT 2) (a := b1) (rd := fun x => match x with | .const v => some (.w (ofValue v)) | _ => none) hI.heap (fun x u hx => by
        cases x with
        | const v =>
          cases hx
          exact ⟨ofValue_lt _ v, (ofValue_val _ v).symm⟩
        | _ => cases hx) (show stepV Tryz.prog (oT 2).op _ _ = some (True, .w (.c (.d (.i .i64 0)))) from by kernel_rfl) trivial
      refine val_step (o := oT 2) (by kernel_rfl) g3.1 (wpListIn_nil (wpIn_ret ?_))
      rw [show (oT 2).dst = some 3 from by kernel_rfl]
      show LeavesInM _ _ _ _ _ _ _ _ _
      rw [put_defers, b1d]
      have hI2 := OwnFrom.putObj (OI.own hr3.le) (.deferred none) hI hD hd rfl
      refine ⟨by simp, .inl ⟨D, _, rfl, run_takeDeferred hd, _, results_tmp2 (t := 2) (u := 3) (by kernel_rfl) _ _ _, ρ3, .t [.c (.p 3 0 1 0), .c (.d (.i .i64 0))], _, 7, ?_, ?_, ?_, hI2.heap, (hbl1.trans hbl2).trans hI2.bel, .inr ⟨he0, rfl, by rw [hss]⟩⟩⟩
      · rw [put_get (fun y hy => by cases hy; rw [b1s]; decide), put_get (fun y hy => by cases hy; rw [b1s]; decide), if_pos rfl, if_neg (by decide), b12]
        rfl
      · intro x hx
        simp only [List.mem_cons, List.not_mem_nil, or_false] at hx
        rcases hx with rfl | rfl
        · exact (by decide : 3 < 7)
        · trivial
      · exact fun h hh => ((hag3 h hh).trans (hag2 h hh)).trans (hag1 h hh)
    | exit j => exact hle.elim
    | ret => exact hle.elim
  · intro ex ρ1 st1 a1 w1 hne hk hr1 hag1 hbl1
    cases ex with
    | normal => exact absurd rfl hne
    | exit j => exact hk.elim
    | ret =>
      show LeavesInM _ _ _ _ _ _ _ _ _
      rw [hr1.defers]
      obtain ⟨⟨hb⟩, hk⟩ := hk
      simp only [retX] at hk
      split at hk
      · rename_i l hl
        have hra := resAll_run hr1 _ l _ hl hk
        refine ⟨(tupV (l.map (·.2))).val ρ1, ?_, ρ1, tupV (l.map (·.2)), st1.hp, st1.nx, rfl, tupV_lt (fun y hy => ?_), hag1, hr1.heap, hbl1, .inl ⟨?_, hra.2.2⟩⟩
        · rw [tupV_val]
          simp only [results_eq, Array.mapM_eq_mapM_toList, Sem.run_bind, Sem.run_map, hra.1, Result.andThen_ok, Sem.run_pure, List.map_map]
          rfl
        · obtain ⟨z, hz, rfl⟩ := List.mem_map.1 hy
          exact hra.2.1 z hz
        · have h1 := he hb
          intro h0
          rw [h1, h0] at hb
          cases hb
      · exact hk.elim
set_option maxRecDepth 100000 in
theorem G_open_ok : SpecOK Tryz.prog 67 true (pureT k_G_open g_G_open) := by
  refine pureT_okC (body := bodyOf Tryz.f67) Tryz.func67 (by kernel_rfl) (by kernel_rfl) ?_
  intro ls t hg ho b hb ρ0 w hlt hh
  unfold g_G_open at hg
  split at hg
  · rename_i rate samples noise tail
    cases hg
    obtain rfl := bld_eq hb
    obtain ⟨⟨e, zs, ss⟩, hr⟩ : ∃ r, G_open rate samples noise tail = some r := by
      have hk : ok (G_open rate samples noise tail) := by
        revert ho
        unfold GT.sel
        split <;> exact fun h => h
      exact Option.isSome_iff_exists.1 hk
    refine (open_calls rate samples noise tail e zs ss hr ρ0 w hlt hh).mono ?_
    rintro x w' ⟨ρ', v, hp', nx', h1, h2, h3, h4, h5, h6⟩
    refine ⟨ρ', v, hp', nx', h1, h2, h3, h4, h5, ?_⟩
    have hv : val (G_open rate samples noise tail) = (e, zs, ss) := by rw [hr]; rfl
    rw [hv]
    rcases h6 with ⟨h6, h7⟩ | ⟨rfl, rfl, rfl⟩
    · rw [show ((e, zs, ss) : Int × List (List Int) × List (List Int)).1 = e from rfl, show (e != 0) = true from by simpa using h6]
      exact h7
    · refine Eq.mp (by kernel_rfl : (
        (Ob (rate = rate) ∧ (Ob (noise = noise) ∧ (Ob (tail = tail) ∧ (Ob (zs = zs) ∧ (Ob (ss = ss) ∧ (Ob ((0 : Int) = (0 : Int)) ∧ True)))))) ) = _) ?_
      exact ⟨⟨rfl⟩, ⟨rfl⟩, ⟨rfl⟩, ⟨rfl⟩, ⟨rfl⟩, ⟨rfl⟩, trivial⟩
  · cases hg
theorem sp_67_ok {sp : Specs} (h : SpecsOK Tryz.prog sp) : SpecsOK Tryz.prog (sp_67 sp) := addK_ok G_open_ok h
end Go.Sh
end

section
open Go.RowKit
namespace Go.Sh
open Go Go.Proofs Go.RowKit Go.Sx
set_option linter.unusedVariables false
set_option maxRecDepth 100000
def k_G_exact : List SV := [.a [.d, .r (.floats .f32 [])]]
def g_G_exact : List Lf → Option GT
  | [.d (.i .i64 rate), .r (.floats .f32 samples)] => some (.br ((val (G_open rate samples 0 0)).1 != (0 : Int))
    (.leaf (ok (G_open rate samples 0 0)) [.c (.d (.v (Value.pointer none))), .c (.d (.i .i64 ((val (G_open rate samples 0 0)).1)))])
    (.leaf (ok (G_open rate samples 0 0)) [.c (.box 133 [.d (.i .i64 rate), .g 0, .d (.i .i64 0), .d (.i .i64 0), .row 30 (.recs 2 ((val (G_open rate samples 0 0)).2.1)), .row 30 (.recs 2 ((val (G_open rate samples 0 0)).2.2))]), .c (.d (.i .i64 (0 : Int)))]))
  | _ => none
abbrev sp_84 : Specs → Specs := addK 84 true (pureT k_G_exact g_G_exact)
theorem exact_vc1 (rate : Int) (samples : List Nat) (e : Int) (ha : ok (G_open rate samples (0 : Int) (0 : Int))) (hc : ((val (G_open rate samples (0 : Int) (0 : Int))).1 != (0 : Int)) = true) (he : (val (G_open rate samples (0 : Int) (0 : Int))).1 = e) : runT Tryz.f84 (sp_67 sp0) (fun _ _ _ => none) (bldD k_G_exact [.d (.i .i64 rate), .r (.floats .f32 samples)]) [.c (.d (.v (Value.pointer none))), .c (.d (.i .i64 e))] := by
  refine Eq.mp (by kernel_rfl : (Br ((val (G_open rate samples (0 : Int) (0 : Int))).1 != (0 : Int))
   ((Ob (ok (G_open rate samples (0 : Int) (0 : Int))) ∧
   (Ob (True) ∧
   (Ob (True) ∧
   (Ob (Value.pointer none = Value.pointer none) ∧
   (Ob ((val (G_open rate samples (0 : Int) (0 : Int))).1 = e) ∧
   True))))))
   ((Ob (ok (G_open rate samples (0 : Int) (0 : Int))) ∧
   (Ob (True) ∧
   (Ob (True) ∧
   False))))) = _) ?_
  exact br_i (fun _ => ⟨⟨ha⟩, ⟨trivial⟩, ⟨trivial⟩, ⟨rfl⟩, ⟨he⟩, trivial⟩) (fun h => by rw [hc] at h; cases h)
theorem exact_vc2 (rate : Int) (samples : List Nat) (zs ss : List (List Int)) (ha : ok (G_open rate samples (0 : Int) (0 : Int))) (hc : ((val (G_open rate samples (0 : Int) (0 : Int))).1 != (0 : Int)) = false) (h1 : (val (G_open rate samples (0 : Int) (0 : Int))).2.1 = zs) (h2 : (val (G_open rate samples (0 : Int) (0 : Int))).2.2 = ss) : runT Tryz.f84 (sp_67 sp0) (fun _ _ _ => none) (bldD k_G_exact [.d (.i .i64 rate), .r (.floats .f32 samples)]) [.c (.box 133 [.d (.i .i64 rate), .g 0, .d (.i .i64 0), .d (.i .i64 0), .row 30 (.recs 2 zs), .row 30 (.recs 2 ss)]), .c (.d (.i .i64 (0 : Int)))] := by
  refine Eq.mp (by kernel_rfl : (Br ((val (G_open rate samples (0 : Int) (0 : Int))).1 != (0 : Int))
   ((Ob (ok (G_open rate samples (0 : Int) (0 : Int))) ∧
   (Ob (True) ∧
   (Ob (True) ∧
   False))))
   ((Ob (ok (G_open rate samples (0 : Int) (0 : Int))) ∧
   (Ob (True) ∧
   (Ob (True) ∧
   (Ob (rate = rate) ∧
   (Ob ((0 : Int) = (0 : Int)) ∧
   (Ob ((0 : Int) = (0 : Int)) ∧
   (Ob ((val (G_open rate samples (0 : Int) (0 : Int))).2.1 = zs) ∧
   (Ob ((val (G_open rate samples (0 : Int) (0 : Int))).2.2 = ss) ∧
   (Ob ((0 : Int) = (0 : Int)) ∧
   True))))))))))) = _) ?_
  exact br_i (fun h => by rw [hc] at h; cases h) (fun _ => ⟨⟨ha⟩, ⟨trivial⟩, ⟨trivial⟩, ⟨rfl⟩, ⟨rfl⟩, ⟨rfl⟩, ⟨h1⟩, ⟨h2⟩, ⟨rfl⟩, trivial⟩)
set_option maxRecDepth 100000 in
theorem G_exact_ok : SpecOK Tryz.prog 84 true (pureT k_G_exact g_G_exact) := by
  refine pureT_ok (sp := (sp_67 sp0)) (fn := Tryz.f84) (body := bodyOf Tryz.f84) mixed (sp_67_ok sp0_ok) Tryz.func84 (by kernel_rfl) (by kernel_rfl) fun ls t h ho b hb => ?_
  unfold g_G_exact at h
  split at h
  · rename_i rate samples
    cases h
    obtain rfl := bld_eq hb
    refine ⟨Nat.le_of_ble_eq_true (by kernel_rfl), 40, fun _ _ _ => none, ?_⟩
    cases hc : ((val (G_open rate samples (0 : Int) (0 : Int))).1 != (0 : Int)) with
    | true =>
      rw [hc] at ho
      exact exact_vc1 rate samples _ ho hc rfl
    | false =>
      rw [hc] at ho
      exact exact_vc2 rate samples _ _ ho hc rfl rfl
  · cases h
theorem sp_84_ok {sp : Specs} (h : SpecsOK Tryz.prog sp) : SpecsOK Tryz.prog (sp_84 sp) := addK_ok G_exact_ok h
def G_openBlock (rate : Int) (samples : List Nat) (block : Int) : Option (Int × Int × List (List Int) × List (List Int)) :=
  Option.bind (G_open rate samples (0 : Int) (0 : Int)) fun r =>
  if (r.1 != (0 : Int)) = true then
   Option.bind (y8 block (1 : Int) (1024 : Int)) fun b =>
   Option.bind (y7 b (2 : Int)) fun u =>
   Option.bind (y18 [r.1, u]) fun f => some (r.1, f, [], [])
  else
   Option.bind (y8 block (1 : Int) (1024 : Int)) fun b =>
   Option.bind (y7 b (2 : Int)) fun u =>
   Option.bind (y18 [(0 : Int), u]) fun f => some (0, f, r.2.1, r.2.2)
def k_G_openBlock : List SV := [.a [.d, .r (.floats .f32 [])], .c .d]
def g_G_openBlock : List Lf → Option GT
  | [.d (.i .i64 rate), .r (.floats .f32 samples), .d (.i .i64 block)] => some (.br ((val (G_openBlock rate samples block)).1 != (0 : Int))
    (.leaf (ok (G_openBlock rate samples block)) [.c (.d (.v (Value.pointer none))), .c (.d (.i .i64 ((val (G_openBlock rate samples block)).2.1)))])
    (.leaf (ok (G_openBlock rate samples block)) [.c (.box 133 [.d (.i .i64 rate), .g 0, .d (.i .i64 0), .d (.i .i64 0), .row 30 (.recs 2 ((val (G_openBlock rate samples block)).2.2.1)), .row 30 (.recs 2 ((val (G_openBlock rate samples block)).2.2.2))]), .c (.d (.i .i64 ((val (G_openBlock rate samples block)).2.1)))]))
  | _ => none
abbrev sp_91 : Specs → Specs := addK 91 true (pureT k_G_openBlock g_G_openBlock)
theorem openBlock_vc1 (rate : Int) (samples : List Nat) (block e : Int) (hc : ((val (G_open rate samples (0 : Int) (0 : Int))).1 != (0 : Int)) = true) (ha : ok (G_open rate samples (0 : Int) (0 : Int))) (hw : ok (y8 block (1 : Int) (1024 : Int))) (hu : ok (y7 (val (y8 block (1 : Int) (1024 : Int))) (2 : Int)))
    (hf : ok (y18 [(val (G_open rate samples (0 : Int) (0 : Int))).1, val (y7 (val (y8 block (1 : Int) (1024 : Int))) (2 : Int))])) (he : val (y18 [(val (G_open rate samples (0 : Int) (0 : Int))).1, val (y7 (val (y8 block (1 : Int) (1024 : Int))) (2 : Int))]) = e) :
    runT Tryz.f91 (sp_68 (sp_85 (sp_76 (sp_84 sp0)))) (fun _ _ _ => none) (bldD k_G_openBlock [.d (.i .i64 rate), .r (.floats .f32 samples), .d (.i .i64 block)]) [.c (.d (.v (Value.pointer none))), .c (.d (.i .i64 e))] := by
  refine Eq.mp (by kernel_rfl : (Br ((val (G_open rate samples (0 : Int) (0 : Int))).1 != (0 : Int))
      ((Ob (ok (G_open rate samples (0 : Int) (0 : Int))) ∧
      (Ob (ok (y8 block (1 : Int) (1024 : Int))) ∧
      (Ob (ok (y7 (val (y8 block (1 : Int) (1024 : Int))) (2 : Int))) ∧
      (Ob (ok (y18 [(val (G_open rate samples (0 : Int) (0 : Int))).1, val (y7 (val (y8 block (1 : Int) (1024 : Int))) (2 : Int))])) ∧
      (Ob (True) ∧
      (Ob (True) ∧
      (Ob (Value.pointer none = Value.pointer none) ∧
      (Ob (val (y18 [(val (G_open rate samples (0 : Int) (0 : Int))).1, val (y7 (val (y8 block (1 : Int) (1024 : Int))) (2 : Int))]) = e) ∧
      True)))))))))
      ((Ob (ok (G_open rate samples (0 : Int) (0 : Int))) ∧
      (Ob (ok (y8 block (1 : Int) (1024 : Int))) ∧
      (Ob (ok (y7 (val (y8 block (1 : Int) (1024 : Int))) (2 : Int))) ∧
      (Ob (ok (y18 [(0 : Int), val (y7 (val (y8 block (1 : Int) (1024 : Int))) (2 : Int))])) ∧
      (Ob (True) ∧
      (Ob (True) ∧
      False)))))))) = _) ?_
  exact br_i (fun _ => ⟨⟨ha⟩, ⟨hw⟩, ⟨hu⟩, ⟨hf⟩, ⟨trivial⟩, ⟨trivial⟩, ⟨rfl⟩, ⟨he⟩, trivial⟩) (fun h => by rw [hc] at h; cases h)
theorem openBlock_vc2 (rate : Int) (samples : List Nat) (block e : Int) (zs ss : List (List Int)) (hc : ((val (G_open rate samples (0 : Int) (0 : Int))).1 != (0 : Int)) = false) (ha : ok (G_open rate samples (0 : Int) (0 : Int))) (hw : ok (y8 block (1 : Int) (1024 : Int))) (hu : ok (y7 (val (y8 block (1 : Int) (1024 : Int))) (2 : Int)))
    (hf : ok (y18 [(0 : Int), val (y7 (val (y8 block (1 : Int) (1024 : Int))) (2 : Int))])) (h1 : (val (G_open rate samples (0 : Int) (0 : Int))).2.1 = zs) (h2 : (val (G_open rate samples (0 : Int) (0 : Int))).2.2 = ss) (he : val (y18 [(0 : Int), val (y7 (val (y8 block (1 : Int) (1024 : Int))) (2 : Int))]) = e) :
    runT Tryz.f91 (sp_68 (sp_85 (sp_76 (sp_84 sp0)))) (fun _ _ _ => none) (bldD k_G_openBlock [.d (.i .i64 rate), .r (.floats .f32 samples), .d (.i .i64 block)]) [.c (.box 133 [.d (.i .i64 rate), .g 0, .d (.i .i64 0), .d (.i .i64 0), .row 30 (.recs 2 zs), .row 30 (.recs 2 ss)]), .c (.d (.i .i64 e))] := by
  refine Eq.mp (by kernel_rfl : (Br ((val (G_open rate samples (0 : Int) (0 : Int))).1 != (0 : Int))
      ((Ob (ok (G_open rate samples (0 : Int) (0 : Int))) ∧
      (Ob (ok (y8 block (1 : Int) (1024 : Int))) ∧
      (Ob (ok (y7 (val (y8 block (1 : Int) (1024 : Int))) (2 : Int))) ∧
      (Ob (ok (y18 [(val (G_open rate samples (0 : Int) (0 : Int))).1, val (y7 (val (y8 block (1 : Int) (1024 : Int))) (2 : Int))])) ∧
      (Ob (True) ∧
      (Ob (True) ∧
      False)))))))
      ((Ob (ok (G_open rate samples (0 : Int) (0 : Int))) ∧
      (Ob (ok (y8 block (1 : Int) (1024 : Int))) ∧
      (Ob (ok (y7 (val (y8 block (1 : Int) (1024 : Int))) (2 : Int))) ∧
      (Ob (ok (y18 [(0 : Int), val (y7 (val (y8 block (1 : Int) (1024 : Int))) (2 : Int))])) ∧
      (Ob (True) ∧
      (Ob (True) ∧
      (Ob (rate = rate) ∧
      (Ob ((0 : Int) = (0 : Int)) ∧
      (Ob ((0 : Int) = (0 : Int)) ∧
      (Ob ((val (G_open rate samples (0 : Int) (0 : Int))).2.1 = zs) ∧
      (Ob ((val (G_open rate samples (0 : Int) (0 : Int))).2.2 = ss) ∧
      (Ob (val (y18 [(0 : Int), val (y7 (val (y8 block (1 : Int) (1024 : Int))) (2 : Int))]) = e) ∧
      True)))))))))))))) = _) ?_
  exact br_i (fun h => by rw [hc] at h; cases h) (fun _ => ⟨⟨ha⟩, ⟨hw⟩, ⟨hu⟩, ⟨hf⟩, ⟨trivial⟩, ⟨trivial⟩, ⟨rfl⟩, ⟨rfl⟩, ⟨rfl⟩, ⟨h1⟩, ⟨h2⟩, ⟨he⟩, trivial⟩)
theorem some_ok {α : Type} {x : Option α} {y : α} (h : x = some y) : ok x := by rw [h]; rfl
theorem some_val {α : Type} [Inhabited α] {x : Option α} {y : α} (h : x = some y) : val x = y := by rw [h]; rfl
set_option maxRecDepth 100000 in
theorem G_openBlock_ok : SpecOK Tryz.prog 91 true (pureT k_G_openBlock g_G_openBlock) := by
  refine pureT_ok (sp := (sp_68 (sp_85 (sp_76 (sp_84 sp0))))) (fn := Tryz.f91) (body := bodyOf Tryz.f91) mixed (sp_68_ok (sp_85_ok (sp_76_ok (sp_84_ok sp0_ok)))) Tryz.func91 (by kernel_rfl) (by kernel_rfl) fun ls t h ho b hb => ?_
  unfold g_G_openBlock at h
  split at h
  · rename_i rate samples block
    cases h
    obtain rfl := bld_eq hb
    refine ⟨Nat.le_of_ble_eq_true (by kernel_rfl), 40, fun _ _ _ => none, ?_⟩
    have hk : ok (G_openBlock rate samples block) := by
      revert ho
      unfold GT.sel
      split <;> exact fun h => h
    obtain ⟨⟨c, e, zs, ss⟩, hr⟩ := Option.isSome_iff_exists.1 hk
    rw [some_val hr]
    unfold G_openBlock at hr
    obtain ⟨r, hr0, hr⟩ := Option.bind_eq_some_iff.1 hr
    split at hr
    · rename_i hc
      obtain ⟨b, hb1, hr⟩ := Option.bind_eq_some_iff.1 hr
      obtain ⟨u, hu, hr⟩ := Option.bind_eq_some_iff.1 hr
      obtain ⟨f, hf, hr⟩ := Option.bind_eq_some_iff.1 hr
      obtain ⟨rfl, rfl, rfl, rfl⟩ : r.1 = c ∧ f = e ∧ [] = zs ∧ [] = ss := by cases hr; exact ⟨rfl, rfl, rfl, rfl⟩
      dsimp only
      rw [hc]
      rw [← some_val hr0] at hc
      rw [← some_val hb1] at hu
      refine openBlock_vc1 rate samples block _ hc (some_ok hr0) (some_ok hb1) (some_ok hu) ?_ ?_
      · rw [some_val hu, some_val hr0]
        exact some_ok hf
      · rw [some_val hu, some_val hr0]
        exact some_val hf
    · rename_i hc
      obtain ⟨b, hb1, hr⟩ := Option.bind_eq_some_iff.1 hr
      obtain ⟨u, hu, hr⟩ := Option.bind_eq_some_iff.1 hr
      obtain ⟨f, hf, hr⟩ := Option.bind_eq_some_iff.1 hr
      cases hr
      have hc : (r.1 != (0 : Int)) = false := by simpa using hc
      rw [← some_val hr0] at hc
      rw [← some_val hb1] at hu
      refine openBlock_vc2 rate samples block _ _ _ hc (some_ok hr0) (some_ok hb1) (some_ok hu) ?_ ?_ ?_ ?_
      · rw [some_val hu]
        exact some_ok hf
      · rw [some_val hr0]
      · rw [some_val hr0]
      · rw [some_val hu]
        exact some_val hf
  · cases h
theorem sp_91_ok {sp : Specs} (h : SpecsOK Tryz.prog sp) : SpecsOK Tryz.prog (sp_91 sp) := addK_ok G_openBlock_ok h
end Go.Sh
end

section
namespace Go.Sh
open Go Go.Proofs Go.RowKit Go.Sx Go.Sx06 Ieee Go.Fl
def fi (b : Nat) : Int := f2i .f32 b
theorem se_whole {b : Nat} (h : se b = 0) : f2iOk .f32 .i64 b = true ∧ -32767 ≤ fi b ∧ fi b ≤ 32767 := by
  unfold se at h
  unfold fi f2i f2iOk
  rcases Fl.read32 b with ⟨s, m, e, hd, hm, he1, he2⟩ | ⟨s, hd⟩ | ⟨s, t, hd⟩
  · have hdec : FloatKind.decode .f32 b = .number s m e := hd
    rw [hdec] at h ⊢
    rw [toIntP (by unfold KK; omega)]
    unfold seD at h
    have h3 : mg KK m e / PP ≤ 32767 := by
      dsimp only at h
      split at h
      · omega
      · split at h
        · omega
        · split at h
          · assumption
          · omega
    clear h
    generalize mg KK m e / PP = Q at *
    have e1 : IntKind.i64.min = -9223372036854775808 := rfl
    have e2 : IntKind.i64.max = 9223372036854775807 := rfl
    simp only [e1, e2, decide_eq_true_eq, Option.getD_some]
    cases s <;> simp only [sg, Bool.false_eq_true, if_false, if_true] <;> omega
  · have hdec : FloatKind.decode .f32 b = .infinity s := hd
    rw [hdec] at h
    simp [seD] at h
  · have hdec : FloatKind.decode .f32 b = .nan s t := hd
    rw [hdec] at h
    simp [seD] at h
def sqP (noise n : Int) : List Int := [max 0 (az n - noise) * max 0 (az n - noise), (az n + noise) * (az n + noise)]
def zsO (noise : Int) (l : List Nat) : List (List Int) := l.map fun b => sqP noise (fi b)
def sLo : List (List Int) → Int
  | [] => 0
  | r :: l => r.getD 0 0 + sLo l
def sHi : List (List Int) → Int
  | [] => 0
  | r :: l => r.getD 1 0 + sHi l
theorem sLo_append (a b : List (List Int)) : sLo (a ++ b) = sLo a + sLo b := by
  induction a with
  | nil => simp [sLo]
  | cons r a ih => simp only [List.cons_append, sLo, ih]; omega
theorem sHi_append (a b : List (List Int)) : sHi (a ++ b) = sHi a + sHi b := by
  induction a with
  | nil => simp [sHi]
  | cons r a ih => simp only [List.cons_append, sHi, ih]; omega
def okZ (r : List Int) : Prop := 0 ≤ r.getD 0 0 ∧ r.getD 0 0 ≤ r.getD 1 0 ∧ r.getD 1 0 ≤ 4294705156
theorem s_range {zs : List (List Int)} (h : ∀ r ∈ zs, okZ r) : 0 ≤ sLo zs ∧ sLo zs ≤ sHi zs ∧ sHi zs ≤ 4294705156 * (zs.length : Int) := by
  induction zs with
  | nil => simp [sLo, sHi]
  | cons r l ih =>
    have h1 := ih fun r hr => h r (List.mem_cons_of_mem _ hr)
    have h2 := h r List.mem_cons_self
    unfold okZ at h2
    simp only [sLo, sHi, List.length_cons]
    omega
theorem az_range {n M : Int} (h : -M ≤ n ∧ n ≤ M) : 0 ≤ az n ∧ az n ≤ M := by unfold az; omega
theorem sqP_ok {noise n : Int} (hn : 0 ≤ noise ∧ noise ≤ 32767) (h : -32767 ≤ n ∧ n ≤ 32767) : okZ (sqP noise n) := by
  have h1 := az_range h
  have h2 : 0 ≤ max 0 (az n - noise) ∧ max 0 (az n - noise) ≤ az n + noise := by omega
  have h3 := Int.mul_nonneg h2.1 h2.1
  have h4 := Int.mul_le_mul h2.2 h2.2 h2.1 (by omega)
  have h5 := Int.mul_le_mul (show az n + noise ≤ 65534 by omega) (show az n + noise ≤ 65534 by omega) (show 0 ≤ az n + noise by omega) (by omega)
  exact ⟨h3, h4, h5⟩
theorem zsO_len (noise : Int) (l : List Nat) : (zsO noise l).length = l.length := by simp [zsO]
theorem zsO_ok {noise : Int} {l : List Nat} (hn : 0 ≤ noise ∧ noise ≤ 32767) (h : ∀ b ∈ l, se b = 0) : ∀ r ∈ zsO noise l, okZ r := by
  intro r hr
  obtain ⟨b, hb, rfl⟩ := List.mem_map.1 hr
  exact sqP_ok hn (se_whole (h b hb)).2
theorem iter_map {α β : Type} (l : List α) (d : α) (f : α → β) {body : Int × List β → Option ((Int × List β) ⊕ List β)} (hlen : l.length < 1000000000000)
    (h1 : ∀ i, i < l.length → ∀ o : List β, o.length = i → body ((i : Int), o) = some (.inl ((i : Int) + 1, o ++ [f (l.getD i d)])))
    (h2 : ∀ o, body ((l.length : Int), o) = some (.inr o)) : iter body big (0, []) = some (l.map f) := by
  refine iter_upto (fun i => ((i : Int), (l.take i).map f)) (k := l.length) (fun i hi => ?_) ?_ (by omega)
  · have := h1 i hi ((l.take i).map f) (by simp; omega)
    rw [this]
    have e : l.take (i + 1) = l.take i ++ [l.getD i d] := by
      rw [List.take_succ_eq_append_getElem hi]
      simp [List.getD, hi]
    rw [e]
    simp
  · rw [List.take_length]; exact h2 _
theorem sq_low {r noise : Int} (h : 0 ≤ r ∧ r ≤ 32767) (hn : 0 ≤ noise ∧ noise ≤ 32767) :
    IntKind.wrap IntKind.i64 ((if IntKind.wrap IntKind.i64 (r - noise) > (0 : Int) then IntKind.wrap IntKind.i64 (r - noise) else (0 : Int)) * if IntKind.wrap IntKind.i64 (r - noise) > (0 : Int) then IntKind.wrap IntKind.i64 (r - noise) else (0 : Int)) = max 0 (r - noise) * max 0 (r - noise) := by
  rw [wr64 (x := r - noise) (by omega)]
  have e : (if r - noise > 0 then r - noise else 0) = max 0 (r - noise) := by split <;> omega
  rw [e]
  have h1 : 0 ≤ max 0 (r - noise) ∧ max 0 (r - noise) ≤ 32767 := by omega
  have h2 := Int.mul_nonneg h1.1 h1.1
  have h3 := Int.mul_le_mul h1.2 h1.2 h1.1 (by omega)
  exact wr64 (by omega)
theorem sq_high {r noise : Int} (h : 0 ≤ r ∧ r ≤ 32767) (hn : 0 ≤ noise ∧ noise ≤ 32767) :
    IntKind.wrap IntKind.i64 (IntKind.wrap IntKind.i64 (r + noise) * IntKind.wrap IntKind.i64 (r + noise)) = (r + noise) * (r + noise) := by
  rw [wr64 (x := r + noise) (by omega)]
  have h1 : 0 ≤ r + noise ∧ r + noise ≤ 65534 := by omega
  have h2 := Int.mul_nonneg h1.1 h1.1
  have h3 := Int.mul_le_mul h1.2 h1.2 h1.1 (by omega)
  exact wr64 (by omega)
theorem open_iter {l : List Nat} {noise : Int} (hl : l.length ≤ 1024) (hs : ∀ b ∈ l, se b = 0) (hn : 0 ≤ noise ∧ noise ≤ 32767) : iter (G_open_b0 l noise) big (0, []) = some (zsO noise l) := by
  refine iter_map l 0 (fun b => sqP noise (fi b)) (by omega) (fun i hi o ho => ?_) (fun o => ?_)
  · unfold G_open_b0
    dsimp only
    have hw := se_whole (hs (l.getD i 0) (by simp [List.getD, hi]))
    have ha := az_range (M := 32767) hw.2
    rw [if_pos (by omega), if_pos (by omega), if_pos (by omega), Int.toNat_natCast, if_pos hw.1]
    rw [show f2i FloatKind.f32 (l.getD i 0) = fi (l.getD i 0) from rfl, sizeG_eq (by unfold inJ; omega), bind_some', if_pos (by simp only [List.length_cons, List.length_nil]; omega), sq_low ha hn, sq_high ha hn, wr64 (by omega)]
    rfl
  · unfold G_open_b0
    dsimp only
    rw [if_neg (by omega)]
def ssO (zs : List (List Int)) (tail : Int) : List (List Int) := (List.range (zs.length + 1)).map fun i => [sLo (zs.drop i), sHi (zs.drop i) + tail]
theorem ssO_len (zs : List (List Int)) (tail : Int) : (ssO zs tail).length = zs.length + 1 := by simp [ssO]
theorem ssO_get {zs : List (List Int)} {tail : Int} {i : Nat} (h : i ≤ zs.length) : (ssO zs tail).getD i [] = [sLo (zs.drop i), sHi (zs.drop i) + tail] := by
  unfold ssO
  have : i < zs.length + 1 := by omega
  simp [List.getD, this]
theorem iniS_get {zs : List (List Int)} (tail : Int) (h : zs.length ≤ 1024) : (iniS zs tail).length = zs.length + 1 ∧ (iniS zs tail).getD zs.length [] = [0, tail] := by
  refine ⟨iniS_len tail (by omega), ?_⟩
  unfold iniS
  rw [wr64 (by omega)]
  have e : Int.toNat ((zs.length : Int) + 1) = zs.length + 1 := by omega
  rw [e, Int.toNat_natCast]
  simp [List.getD, wr]
  rfl
theorem drop_get {zs : List (List Int)} {i : Nat} (h : i < zs.length) : zs.drop i = zs.getD i [] :: zs.drop (i + 1) := by
  rw [List.drop_eq_getElem_cons h]
  simp [List.getD, h]
theorem sums_inv {zs : List (List Int)} {tail : Int} (h : zs.length ≤ 1024) (hz : ∀ r ∈ zs, okZ r) (ht : 0 ≤ tail ∧ tail ≤ 1000000000000) : ∀ k, k ≤ zs.length →
    (sumsOf zs tail (Bk.bk zs.length k)).length = zs.length + 1 ∧ ∀ i, zs.length - k ≤ i → i ≤ zs.length → (sumsOf zs tail (Bk.bk zs.length k)).getD i [] = [sLo (zs.drop i), sHi (zs.drop i) + tail]
  | 0, _ => by
    have h0 := iniS_get tail h
    refine ⟨h0.1, fun i h1 h2 => ?_⟩
    have hi : i = zs.length := by omega
    subst hi
    rw [List.drop_length]
    simp only [sLo, sHi, Int.zero_add]
    exact h0.2
  | k + 1, hk => by
    obtain ⟨hl, hg⟩ := sums_inv h hz ht k (by omega)
    rw [Bk.bk_succ (by omega), sumsOf_snoc]
    dsimp only
    obtain ⟨ss, hss⟩ : ∃ ss, ss = sumsOf zs tail (Bk.bk zs.length k) := ⟨_, rfl⟩
    rw [← hss] at hl hg ⊢
    have hj := hg (zs.length - 1 - k + 1) (by omega) (by omega)
    have hd := drop_get (zs := zs) (i := zs.length - 1 - k) (by omega)
    have hok := hz (zs.getD (zs.length - 1 - k) []) (by simp [List.getD, show zs.length - 1 - k < zs.length by omega])
    have hr := s_range (zs := zs.drop (zs.length - 1 - k + 1)) fun r hr => hz r (List.mem_of_mem_drop hr)
    have hdl : ((zs.drop (zs.length - 1 - k + 1)).length : Int) ≤ 1024 := by rw [List.length_drop]; omega
    unfold okZ at hok
    generalize hi0 : zs.length - 1 - k = i0 at *
    have e1 : ((((i0 : Nat) : Int) + 1).toNat) = i0 + 1 := by omega
    have hup : upS ss (i0 : Int) ((zs.getD i0 []).getD 0 0) ((zs.getD i0 []).getD 1 0) = ss.set i0 [sLo (zs.drop i0), sHi (zs.drop i0) + tail] := by
      unfold upS
      rw [wr64 (x := (i0 : Int) + 1) (by omega), e1, hj, Int.toNat_natCast]
      simp only [List.getD_cons_zero, List.getD_cons_succ]
      rw [wr64 (by omega), wr64 (by omega), hd]
      simp only [sLo, sHi]
      rw [show (zs.getD i0 []).getD 1 0 + (sHi (zs.drop (i0 + 1)) + tail) = (zs.getD i0 []).getD 1 0 + sHi (zs.drop (i0 + 1)) + tail by omega]
      rfl
    rw [hup]
    refine ⟨by rw [List.length_set]; exact hl, fun i h1 h2 => ?_⟩
    by_cases he : i = i0
    · subst he
      simp [List.getD, hl, show i < zs.length + 1 by omega]
    · have := hg i (by omega) h2
      rw [← this]
      simp [List.getD, List.getElem?_set, Ne.symm he]
theorem sums_eq {zs : List (List Int)} {tail : Int} (h : zs.length ≤ 1024) (hz : ∀ r ∈ zs, okZ r) (ht : 0 ≤ tail ∧ tail ≤ 1000000000000) : sumsOf zs tail (Bk.bk zs.length zs.length) = ssO zs tail := by
  obtain ⟨h1, h2⟩ := sums_inv h hz ht zs.length (Nat.le_refl _)
  apply List.ext_getElem
  · rw [h1, ssO_len]
  · intro i hi hi'
    have hi2 : i ≤ zs.length := by omega
    have a := h2 i (by omega) hi2
    have b := ssO_get (tail := tail) hi2
    simp only [List.getD, List.getElem?_eq_getElem hi, Option.getD_some] at a
    simp only [List.getD, List.getElem?_eq_getElem hi', Option.getD_some] at b
    rw [a, b]
theorem open_eq (rate : Int) {l : List Nat} (noise tail : Int) (hl : l.length < 1000000000000) :
    G_open rate l noise tail = some (if (askE rate l noise tail).2 ≠ 0 then ((askE rate l noise tail).2, [], []) else (0, zsO noise l, ssO (zsO noise l) tail)) := by
  unfold G_open
  rw [checkAskG_eq rate noise tail hl, bind_some']
  by_cases h : (askE rate l noise tail).2 = 0
  · obtain ⟨hr, hn, ht⟩ := askE_zero h
    obtain ⟨_, _, h3, h4⟩ := resE_zero hr
    have hzl := zsO_len noise l
    have hzk := zsO_ok hn h4
    rw [if_neg (show ¬ ((askE rate l noise tail).2 != 0) = true by rw [h]; simp), if_neg (by omega), open_iter h3 h4 hn, bind_some']
    have hr0 : G_open_r0 (zsO noise l) = some () := by
      unfold G_open_r0
      rw [wr64 (by omega)]
      have e : Int.toNat (((zsO noise l).length : Int) + 1) = (zsO noise l).length + 1 := by omega
      rw [if_pos (by omega), e, List.length_replicate, if_pos (by omega), Int.toNat_natCast, if_pos (by omega)]
    rw [hr0, bind_some', sums_eq (by omega) hzk ht]
  · rw [if_pos (show ((askE rate l noise tail).2 != 0) = true by simpa using h), if_pos h]
theorem open_e (rate : Int) {l : List Nat} (noise tail : Int) (hl : l.length < 1000000000000) : (val (G_open rate l noise tail)).1 = (askE rate l noise tail).2 := by
  rw [open_eq rate noise tail hl]
  show (if (askE rate l noise tail).2 ≠ 0 then ((askE rate l noise tail).2, ([] : List (List Int)), ([] : List (List Int))) else (0, zsO noise l, ssO (zsO noise l) tail)).1 = _
  split
  · rfl
  · rename_i h; simp at h; rw [h]
end Go.Sh
end

section
namespace Go.Sh
open Go Go.Proofs Go.RowKit Go.Sx
set_option linter.unusedVariables false
def k_R05_Plain : List SV := [.a [.d, .r (.floats .f32 [])]]
def y94 (u10 : Int) (u7 : List Nat) : Option (Int × Int × Int) :=
  some ((u10, (0 : Int), (0 : Int)))
def g_R05_Plain : List Lf → Option GT
  | [.d (.i .i64 u10), .r (.floats .f32 u7)] => some (.leaf (ok (y94 u10 u7)) [.s [.d (.i .i64 ((val (y94 u10 u7)).1)), .g 0, .d (.i .i64 ((val (y94 u10 u7)).2.1)), .d (.i .i64 ((val (y94 u10 u7)).2.2))]])
  | _ => none
abbrev sp_25 : Specs → Specs := addK 25 true (pureT k_R05_Plain g_R05_Plain)
set_option maxRecDepth 100000 in
def R05_Plain_t (u10 : Int) (u7 : List Nat) : T (Int × Int × Int) :=
 .obT
  (.rc (((u10, (0 : Int), (0 : Int)))))
set_option maxRecDepth 100000 in
theorem R05_Plain_vc (u10 : Int) (u7 : List Nat) (r : Int × Int × Int) (h : Option.bind (y94 u10 u7) some = some r) : runT Tryz.f25 (sp0) (fun _ _ _ => none) (bldD k_R05_Plain [.d (.i .i64 u10), .r (.floats .f32 u7)]) [.s [.d (.i .i64 r.1), .g 0, .d (.i .i64 r.2.1), .d (.i .i64 r.2.2)]] :=
  T.vc (t := R05_Plain_t u10 u7) (by kernel_rfl) (by kernel_rfl) h
set_option maxRecDepth 100000 in
theorem R05_Plain_ok : SpecOK Tryz.prog 25 true (pureT k_R05_Plain g_R05_Plain) := by
  refine pureT_ok (sp := sp0) (fn := Tryz.f25) (body := bodyOf Tryz.f25) mixed sp0_ok Tryz.func25 (by kernel_rfl) (by kernel_rfl) fun ls t h ho b hb => ?_
  unfold g_R05_Plain at h
  split at h
  · rename_i u10 u7
    cases h
    obtain rfl := bld_eq hb
    exact ⟨Nat.le_of_ble_eq_true (by kernel_rfl), _, _, R05_Plain_vc u10 u7 _ (ok_some ho)⟩
  · cases h
theorem sp_25_ok {sp : Specs} (h : SpecsOK Tryz.prog sp) : SpecsOK Tryz.prog (sp_25 sp) := addK_ok R05_Plain_ok h
def k_R05_TimeErr : List (Option Cont) := [none]
def y76 (u4 : Int) : Option Int :=
  Option.bind (y67 u4 (0 : Int) (1000000 : Int)) fun r0 =>
  if (!r0) = true then
   some (2 : Int)
  else
   some (0 : Int)
def g_R05_TimeErr : List A → Option (Prop × List RV)
  | [.d (.i .i64 u4)] => some (ok (y76 u4), [.d (.i .i64 ((val (y76 u4))))])
  | _ => none
abbrev sp_27 : Specs → Specs := addK 27 true (pureK k_R05_TimeErr g_R05_TimeErr)
set_option maxRecDepth 100000 in
def R05_TimeErr_t (u4 : Int) : T (Int) :=
 .call (y67 u4 (0 : Int) (1000000 : Int)) fun r0 =>
  .brB (!r0)
  (.obT
  (.rc ((2 : Int))))
  (.obT
  (.rc ((0 : Int))))
set_option maxRecDepth 100000 in
theorem R05_TimeErr_vc (u4 : Int) (r : Int) (h : Option.bind (y76 u4) some = some r) : runF Tryz.f27 ((sp_35 sp0)) (fun _ _ _ => none) [.d (.i .i64 u4)] [.d (.i .i64 r)] :=
  T.vc (t := R05_TimeErr_t u4) (by kernel_rfl) (by kernel_rfl) h
set_option maxRecDepth 100000 in
theorem R05_TimeErr_ok : SpecOK Tryz.prog 27 true (pureK k_R05_TimeErr g_R05_TimeErr) := by
  refine pureK_ok (sp := (sp_35 sp0)) (fn := Tryz.f27) (body := bodyOf Tryz.f27) mixed (sp_35_ok sp0_ok) Tryz.func27 (by kernel_rfl) (by kernel_rfl) fun as_ ob rs h ho => ?_
  unfold g_R05_TimeErr at h
  split at h
  · rename_i u4
    cases h
    exact ⟨Nat.le_of_ble_eq_true rfl, _, _, R05_TimeErr_vc u4 _ (ok_some ho)⟩
  · cases h
theorem sp_27_ok {sp : Specs} (h : SpecsOK Tryz.prog sp) : SpecsOK Tryz.prog (sp_27 sp) := addK_ok R05_TimeErr_ok h
def k_R05_SampleAt : List (Option Cont) := [none, none]
def y83 (u34 : Int) (u4 : Int) : Option (Int × Int) :=
  Option.bind (y75 u34) fun r0 =>
  if (!r0) = true then
   some (((0 : Int), (2 : Int)))
  else
   Option.bind (y76 u4) fun r1 =>
   if (r1 != (0 : Int)) = true then
    some (((0 : Int), r1))
   else
    Option.bind (B_Ceil (IntKind.wrap .i64 (u4 * u34)) (1000000 : Int)) fun r2 =>
    some ((r2, (0 : Int)))
def g_R05_SampleAt : List A → Option (Prop × List RV)
  | [.d (.i .i64 u34), .d (.i .i64 u4)] => some (ok (y83 u34 u4), [.d (.i .i64 ((val (y83 u34 u4)).1)), .d (.i .i64 ((val (y83 u34 u4)).2))])
  | _ => none
abbrev sp_79 : Specs → Specs := addK 79 true (pureK k_R05_SampleAt g_R05_SampleAt)
set_option maxRecDepth 100000 in
def R05_SampleAt_t (u34 : Int) (u4 : Int) : T (Int × Int) :=
 .call (y75 u34) fun r0 =>
  .brB (!r0)
  (.obT
  (.obT
  (.rc ((((0 : Int), (2 : Int)))))))
  (.call (y76 u4) fun r1 =>
  .brB (r1 != (0 : Int))
  (.obT
  (.obT
  (.rc ((((0 : Int), r1))))))
  (.call (B_Ceil (IntKind.wrap .i64 (u4 * u34)) (1000000 : Int)) fun r2 =>
  .obT
  (.obT
  (.rc (((r2, (0 : Int))))))))
set_option maxRecDepth 100000 in
theorem R05_SampleAt_vc (u34 : Int) (u4 : Int) (r : Int × Int) (h : Option.bind (y83 u34 u4) some = some r) : runF Tryz.f79 ((sp_120 (sp_27 (sp_75 sp0)))) (fun _ _ _ => none) [.d (.i .i64 u34), .d (.i .i64 u4)] [.d (.i .i64 r.1), .d (.i .i64 r.2)] :=
  T.vc (t := R05_SampleAt_t u34 u4) (by kernel_rfl) (by kernel_rfl) h
set_option maxRecDepth 100000 in
theorem R05_SampleAt_ok : SpecOK Tryz.prog 79 true (pureK k_R05_SampleAt g_R05_SampleAt) := by
  refine pureK_ok (sp := (sp_120 (sp_27 (sp_75 sp0)))) (fn := Tryz.f79) (body := bodyOf Tryz.f79) mixed (sp_120_ok (sp_27_ok (sp_75_ok sp0_ok))) Tryz.func79 (by kernel_rfl) (by kernel_rfl) fun as_ ob rs h ho => ?_
  unfold g_R05_SampleAt at h
  split at h
  · rename_i u34 u4
    cases h
    exact ⟨Nat.le_of_ble_eq_true rfl, _, _, R05_SampleAt_vc u34 u4 _ (ok_some ho)⟩
  · cases h
theorem sp_79_ok {sp : Specs} (h : SpecsOK Tryz.prog sp) : SpecsOK Tryz.prog (sp_79 sp) := addK_ok R05_SampleAt_ok h
def k_R05_parts : List SV := [.a [.d, .r (.floats .f32 []), .d, .d], .c (.d)]
def y66 (u5 : Int) (u0 : List Nat) (u6 : Int) (u1 : Int) (u4 : Int) : Option (Int × Int × Int × Int) :=
  Option.bind (y83 u5 u4) fun r0 =>
  Option.bind (y16 u5 u0 u6 u1 (0 : Int) (if (↑(List.length u0) : Int) < r0.1 then (↑(List.length u0) : Int) else r0.1)) fun r1 =>
  if ((if (↑(List.length u0) : Int) < r0.1 then (↑(List.length u0) : Int) else r0.1) == (↑(List.length u0) : Int)) = true then
   Option.bind (y16 u5 u0 u6 u1 (if (↑(List.length u0) : Int) < r0.1 then (↑(List.length u0) : Int) else r0.1) (↑(List.length u0) : Int)) fun r2 =>
   some ((r1.1, IntKind.wrap .i64 (r1.2 - u1), r2.1, r2.2))
  else
   Option.bind (y16 u5 u0 u6 u1 (if (↑(List.length u0) : Int) < r0.1 then (↑(List.length u0) : Int) else r0.1) (↑(List.length u0) : Int)) fun r2 =>
   some (r1.1, r1.2, r2.1, r2.2)
def g_R05_parts : List Lf → Option GT
  | [.d (.i .i64 u5), .r (.floats .f32 u0), .d (.i .i64 u6), .d (.i .i64 u1), .d (.i .i64 u4)] => some (.leaf (ok (y66 u5 u0 u6 u1 u4)) [.s [.d (.i .i64 ((val (y66 u5 u0 u6 u1 u4)).1)), .d (.i .i64 ((val (y66 u5 u0 u6 u1 u4)).2.1))], .s [.d (.i .i64 ((val (y66 u5 u0 u6 u1 u4)).2.2.1)), .d (.i .i64 ((val (y66 u5 u0 u6 u1 u4)).2.2.2))]])
  | _ => none
abbrev sp_80 : Specs → Specs := addK 80 true (pureT k_R05_parts g_R05_parts)
set_option maxRecDepth 100000 in
def R05_parts_t (u5 : Int) (u0 : List Nat) (u6 : Int) (u1 : Int) (u4 : Int) : T (Int × Int × Int × Int) :=
 .call (y83 u5 u4) fun r0 =>
  .call (y16 u5 u0 u6 u1 (0 : Int) (if (↑(List.length u0) : Int) < r0.1 then (↑(List.length u0) : Int) else r0.1)) fun r1 =>
  .brB ((if (↑(List.length u0) : Int) < r0.1 then (↑(List.length u0) : Int) else r0.1) == (↑(List.length u0) : Int))
  (.call (y16 u5 u0 u6 u1 (if (↑(List.length u0) : Int) < r0.1 then (↑(List.length u0) : Int) else r0.1) (↑(List.length u0) : Int)) fun r2 =>
  .obT
  (.obT
  (.rc (((r1.1, IntKind.wrap .i64 (r1.2 - u1), r2.1, r2.2))))))
  (.call (y16 u5 u0 u6 u1 (if (↑(List.length u0) : Int) < r0.1 then (↑(List.length u0) : Int) else r0.1) (↑(List.length u0) : Int)) fun r2 =>
  .obT
  (.obT
  (.rc ((r1.1, r1.2, r2.1, r2.2)))))
set_option maxRecDepth 100000 in
theorem R05_parts_vc (u5 : Int) (u0 : List Nat) (u6 : Int) (u1 : Int) (u4 : Int) (r : Int × Int × Int × Int) (h : Option.bind (y66 u5 u0 u6 u1 u4) some = some r) : runT Tryz.f80 ((sp_79 (sp_52 sp0))) (fun _ _ _ => none) (bldD k_R05_parts [.d (.i .i64 u5), .r (.floats .f32 u0), .d (.i .i64 u6), .d (.i .i64 u1), .d (.i .i64 u4)]) [.s [.d (.i .i64 r.1), .d (.i .i64 r.2.1)], .s [.d (.i .i64 r.2.2.1), .d (.i .i64 r.2.2.2)]] :=
  T.vc (t := R05_parts_t u5 u0 u6 u1 u4) (by kernel_rfl) (by kernel_rfl) h
set_option maxRecDepth 100000 in
theorem R05_parts_ok : SpecOK Tryz.prog 80 true (pureT k_R05_parts g_R05_parts) := by
  refine pureT_ok (sp := (sp_79 (sp_52 sp0))) (fn := Tryz.f80) (body := bodyOf Tryz.f80) mixed (sp_79_ok (sp_52_ok sp0_ok)) Tryz.func80 (by kernel_rfl) (by kernel_rfl) fun ls t h ho b hb => ?_
  unfold g_R05_parts at h
  split at h
  · rename_i u5 u0 u6 u1 u4
    cases h
    obtain rfl := bld_eq hb
    exact ⟨Nat.le_of_ble_eq_true (by kernel_rfl), _, _, R05_parts_vc u5 u0 u6 u1 u4 _ (ok_some ho)⟩
  · cases h
theorem sp_80_ok {sp : Specs} (h : SpecsOK Tryz.prog sp) : SpecsOK Tryz.prog (sp_80 sp) := addK_ok R05_parts_ok h
end Go.Sh
end

section
namespace Go.Sh
open Go Go.Proofs Go.RowKit Go.Sx
set_option linter.unusedVariables false
def k_R05_share : List (Option Cont) := [none, none]
def y100 (num : Int) (den : Int) : Option (Int × Int × Int) :=
  if (den == (0 : Int)) = true then
   some (((0 : Int), (0 : Int), (11 : Int)))
  else
   Option.bind (B_Lowest num den) fun r0 =>
   if r0.1 > (1000000000 : Int) then
    some (((0 : Int), (0 : Int), (8 : Int)))
   else
    if r0.2 > (1000000000 : Int) then
     some (((0 : Int), (0 : Int), (8 : Int)))
    else
     some ((r0.1, r0.2, (0 : Int)))
def g_R05_share : List A → Option (Prop × List RV)
  | [.d (.i .i64 num), .d (.i .i64 den)] => some (ok (y100 num den), [.s [.i .i64 ((val (y100 num den)).1), .i .i64 ((val (y100 num den)).2.1)], .d (.i .i64 ((val (y100 num den)).2.2))])
  | _ => none
abbrev sp_90 : Specs → Specs := addK 90 true (pureK k_R05_share g_R05_share)
set_option maxRecDepth 100000 in
def R05_share_t (num : Int) (den : Int) : T (Int × Int × Int) :=
 .brB (den == (0 : Int))
  (.obT
  (.obT
  (.rc ((((0 : Int), (0 : Int), (11 : Int)))))))
  (.call (B_Lowest num den) fun r0 =>
  .brP (r0.1 > (1000000000 : Int))
  (.obT
  (.obT
  (.rc ((((0 : Int), (0 : Int), (8 : Int)))))))
  (.brP (r0.2 > (1000000000 : Int))
  (.obT
  (.obT
  (.rc ((((0 : Int), (0 : Int), (8 : Int)))))))
  (.obT
  (.obT
  (.rc (((r0.1, r0.2, (0 : Int)))))))))
set_option maxRecDepth 100000 in
theorem R05_share_vc (num : Int) (den : Int) (r : Int × Int × Int) (h : Option.bind (y100 num den) some = some r) : runF Tryz.f90 ((sp_130 sp0)) (fun _ _ _ => none) [.d (.i .i64 num), .d (.i .i64 den)] [.s [.i .i64 r.1, .i .i64 r.2.1], .d (.i .i64 r.2.2)] :=
  T.vc (t := R05_share_t num den) (by kernel_rfl) (by kernel_rfl) h
set_option maxRecDepth 100000 in
theorem R05_share_ok : SpecOK Tryz.prog 90 true (pureK k_R05_share g_R05_share) := by
  refine pureK_ok (sp := (sp_130 sp0)) (fn := Tryz.f90) (body := bodyOf Tryz.f90) mixed (sp_130_ok sp0_ok) Tryz.func90 (by kernel_rfl) (by kernel_rfl) fun as_ ob rs h ho => ?_
  unfold g_R05_share at h
  split at h
  · rename_i num den
    cases h
    exact ⟨Nat.le_of_ble_eq_true rfl, _, _, R05_share_vc num den _ (ok_some ho)⟩
  · cases h
theorem sp_90_ok {sp : Specs} (h : SpecsOK Tryz.prog sp) : SpecsOK Tryz.prog (sp_90 sp) := addK_ok R05_share_ok h
end Go.Sh
end

section
namespace Go.Sh
open Go Go.Proofs Go.RowKit Go.Sx
set_option linter.unusedVariables false
def y159 : List SV := [.a [.d, .r (.floats .f32 [])], .c (.d)]
def y4 (u10 : Int) (u7 : List Nat) (u4 : Int) : Option (Int × Int × Int) :=
  Option.bind (y94 u10 u7) fun r0 =>
  Option.bind (y66 u10 u7 (0 : Int) (0 : Int) u4) fun r1 =>
  Option.bind (y94 u10 u7) fun r2 =>
  Option.bind (R05_sum u10 u7 (0 : Int) (0 : Int) (0 : Int)) fun r3 =>
  Option.bind (y100 r1.1 r3.1) fun r4 =>
  some (r4.1, r4.2.1, r4.2.2)
def y160 : List Lf → Option GT
  | [.d (.i .i64 u10), .r (.floats .f32 u7), .d (.i .i64 u4)] => some (.leaf (ok (y4 u10 u7 u4)) [.s [.d (.i .i64 ((val (y4 u10 u7 u4)).1)), .d (.i .i64 ((val (y4 u10 u7 u4)).2.1))], .c (.d (.i .i64 ((val (y4 u10 u7 u4)).2.2)))])
  | _ => none
abbrev sp_45 : Specs → Specs := addK 45 true (pureT y159 y160)
set_option maxRecDepth 100000 in
def R05_Definition_t (u10 : Int) (u7 : List Nat) (u4 : Int) : T (Int × Int × Int) :=
 .call (y94 u10 u7) fun r0 =>
  .call (y66 u10 u7 (0 : Int) (0 : Int) u4) fun r1 =>
  .call (y94 u10 u7) fun r2 =>
  .call (R05_sum u10 u7 (0 : Int) (0 : Int) (0 : Int)) fun r3 =>
  .call (y100 r1.1 r3.1) fun r4 =>
  .obT
  (.obT
  (.rc ((r4.1, r4.2.1, r4.2.2))))
set_option maxRecDepth 100000 in
theorem R05_Definition_vc (u10 : Int) (u7 : List Nat) (u4 : Int) (r : Int × Int × Int) (h : Option.bind (y4 u10 u7 u4) some = some r) : runT Tryz.f45 ((sp_80 (sp_25 (sp_72 (sp_90 sp0))))) (fun _ _ _ => none) (bldD y159 [.d (.i .i64 u10), .r (.floats .f32 u7), .d (.i .i64 u4)]) [.s [.d (.i .i64 r.1), .d (.i .i64 r.2.1)], .c (.d (.i .i64 r.2.2))] :=
  T.vc (t := R05_Definition_t u10 u7 u4) (by kernel_rfl) (by kernel_rfl) h
set_option maxRecDepth 100000 in
theorem R05_Definition_ok : SpecOK Tryz.prog 45 true (pureT y159 y160) := by
  refine pureT_ok (sp := (sp_80 (sp_25 (sp_72 (sp_90 sp0))))) (fn := Tryz.f45) (body := bodyOf Tryz.f45) mixed (sp_80_ok (sp_25_ok (sp_72_ok (sp_90_ok sp0_ok)))) Tryz.func45 (by kernel_rfl) (by kernel_rfl) fun ls t h ho b hb => ?_
  unfold y160 at h
  split at h
  · rename_i u10 u7 u4
    cases h
    obtain rfl := bld_eq hb
    exact ⟨Nat.le_of_ble_eq_true (by kernel_rfl), _, _, R05_Definition_vc u10 u7 u4 _ (ok_some ho)⟩
  · cases h
theorem sp_45_ok {sp : Specs} (h : SpecsOK Tryz.prog sp) : SpecsOK Tryz.prog (sp_45 sp) := addK_ok R05_Definition_ok h
def y104 : List SV := [.a [.d, .r (.floats .f32 []), .d, .d], .c (.d)]
def y1 (u5 : Int) (u0 : List Nat) (u6 : Int) (u1 : Int) (u4 : Int) : Option (Int × Int × Int) :=
  Option.bind (y66 u5 u0 u6 u1 u4) fun r0 =>
  if (IntKind.wrap .i64 (r0.1 + r0.2.2.1) == (0 : Int)) = true then
   some (((0 : Int), (0 : Int), (11 : Int)))
  else
   Option.bind (y20 (IntKind.wrap .i64 ((1000 : Int) * r0.1)) (IntKind.wrap .i64 (r0.1 + r0.2.2.2))) fun r1 =>
   Option.bind (B_Ceil (IntKind.wrap .i64 ((1000 : Int) * r0.2.1)) (IntKind.wrap .i64 (r0.2.1 + r0.2.2.1))) fun r2 =>
   some ((r1, r2, (0 : Int)))
def y105 : List Lf → Option GT
  | [.d (.i .i64 u5), .r (.floats .f32 u0), .d (.i .i64 u6), .d (.i .i64 u1), .d (.i .i64 u4)] => some (.leaf (ok (y1 u5 u0 u6 u1 u4)) [.s [.d (.i .i64 ((val (y1 u5 u0 u6 u1 u4)).1)), .d (.i .i64 ((val (y1 u5 u0 u6 u1 u4)).2.1))], .c (.d (.i .i64 ((val (y1 u5 u0 u6 u1 u4)).2.2)))])
  | _ => none
abbrev sp_46 : Specs → Specs := addK 46 true (pureT y104 y105)
set_option maxRecDepth 100000 in
def R05_DefinitionWithin_t (u5 : Int) (u0 : List Nat) (u6 : Int) (u1 : Int) (u4 : Int) : T (Int × Int × Int) :=
 .call (y66 u5 u0 u6 u1 u4) fun r0 =>
  .brB (IntKind.wrap .i64 (r0.1 + r0.2.2.1) == (0 : Int))
  (.obT
  (.obT
  (.rc ((((0 : Int), (0 : Int), (11 : Int)))))))
  (.call (y20 (IntKind.wrap .i64 ((1000 : Int) * r0.1)) (IntKind.wrap .i64 (r0.1 + r0.2.2.2))) fun r1 =>
  .call (B_Ceil (IntKind.wrap .i64 ((1000 : Int) * r0.2.1)) (IntKind.wrap .i64 (r0.2.1 + r0.2.2.1))) fun r2 =>
  .obT
  (.obT
  (.rc (((r1, r2, (0 : Int)))))))
set_option maxRecDepth 100000 in
theorem R05_DefinitionWithin_vc (u5 : Int) (u0 : List Nat) (u6 : Int) (u1 : Int) (u4 : Int) (r : Int × Int × Int) (h : Option.bind (y1 u5 u0 u6 u1 u4) some = some r) : runT Tryz.f46 ((sp_80 (sp_74 (sp_75 sp0)))) (fun _ _ _ => none) (bldD y104 [.d (.i .i64 u5), .r (.floats .f32 u0), .d (.i .i64 u6), .d (.i .i64 u1), .d (.i .i64 u4)]) [.s [.d (.i .i64 r.1), .d (.i .i64 r.2.1)], .c (.d (.i .i64 r.2.2))] :=
  T.vc (t := R05_DefinitionWithin_t u5 u0 u6 u1 u4) (by kernel_rfl) (by kernel_rfl) h
set_option maxRecDepth 100000 in
theorem R05_DefinitionWithin_ok : SpecOK Tryz.prog 46 true (pureT y104 y105) := by
  refine pureT_ok (sp := (sp_80 (sp_74 (sp_75 sp0)))) (fn := Tryz.f46) (body := bodyOf Tryz.f46) mixed (sp_80_ok (sp_74_ok (sp_75_ok sp0_ok))) Tryz.func46 (by kernel_rfl) (by kernel_rfl) fun ls t h ho b hb => ?_
  unfold y105 at h
  split at h
  · rename_i u5 u0 u6 u1 u4
    cases h
    obtain rfl := bld_eq hb
    exact ⟨Nat.le_of_ble_eq_true (by kernel_rfl), _, _, R05_DefinitionWithin_vc u5 u0 u6 u1 u4 _ (ok_some ho)⟩
  · cases h
theorem sp_46_ok {sp : Specs} (h : SpecsOK Tryz.prog sp) : SpecsOK Tryz.prog (sp_46 sp) := addK_ok R05_DefinitionWithin_ok h
def k_L05_Five : List SV := []
def L05_Five : Option (Int × List Nat) :=
  some (((8000 : Int), [(1090519040 : Nat), (1082130432 : Nat), (1073741824 : Nat), (1065353216 : Nat), (0 : Nat)]))
set_option maxRecDepth 100000 in
def L05_Five_t : T (Int × List Nat) :=
 .obT
  (.rc ((((8000 : Int), [(1090519040 : Nat), (1082130432 : Nat), (1073741824 : Nat), (1065353216 : Nat), (0 : Nat)]))))
set_option maxRecDepth 100000 in
theorem L05_Five_vc (r : Int × List Nat) (h : Option.bind (L05_Five) some = some r) : runT Tryz.f66 (sp0) (fun _ _ _ => none) (bldD k_L05_Five []) [.s [.d (.i .i64 r.1), .row 151 (.floats .f32 r.2)]] :=
  T.vc (t := L05_Five_t) (by kernel_rfl) (by kernel_rfl) h
def k_L05_Few : List SV := [.a [.d, .r (.floats .f32 [])]]
def L05_Few (u10 : Int) (u7 : List Nat) : Option Bool :=
  if (↑(List.length u7) : Int) ≤ (700 : Int) then
   some true
  else
   if (↑(List.length u7) : Int) > (1024 : Int) then
    some (decide ((↑(List.length u7) : Int) ≤ (1026 : Int)))
   else
    some false
def g_L05_Few : List Lf → Option GT
  | [.d (.i .i64 u10), .r (.floats .f32 u7)] => some (.leaf (ok (L05_Few u10 u7)) [.c (.d (.b ((val (L05_Few u10 u7)))))])
  | _ => none
abbrev sp_16 : Specs → Specs := addK 16 true (pureT k_L05_Few g_L05_Few)
set_option maxRecDepth 100000 in
def L05_Few_t (u10 : Int) (u7 : List Nat) : T (Bool) :=
 .brP ((↑(List.length u7) : Int) ≤ (700 : Int))
  (.obT
  (.rc (true)))
  (.brP ((↑(List.length u7) : Int) > (1024 : Int))
  (.obT
  (.rc ((decide ((↑(List.length u7) : Int) ≤ (1026 : Int))))))
  (.obT
  (.rc (false))))
set_option maxRecDepth 100000 in
theorem L05_Few_vc (u10 : Int) (u7 : List Nat) (r : Bool) (h : Option.bind (L05_Few u10 u7) some = some r) : runT Tryz.f16 (sp0) (fun _ _ _ => none) (bldD k_L05_Few [.d (.i .i64 u10), .r (.floats .f32 u7)]) [.c (.d (.b r))] :=
  T.vc (t := L05_Few_t u10 u7) (by kernel_rfl) (by kernel_rfl) h
set_option maxRecDepth 100000 in
theorem L05_Few_ok : SpecOK Tryz.prog 16 true (pureT k_L05_Few g_L05_Few) := by
  refine pureT_ok (sp := sp0) (fn := Tryz.f16) (body := bodyOf Tryz.f16) mixed sp0_ok Tryz.func16 (by kernel_rfl) (by kernel_rfl) fun ls t h ho b hb => ?_
  unfold g_L05_Few at h
  split at h
  · rename_i u10 u7
    cases h
    obtain rfl := bld_eq hb
    exact ⟨Nat.le_of_ble_eq_true (by kernel_rfl), _, _, L05_Few_vc u10 u7 _ (ok_some ho)⟩
  · cases h
theorem sp_16_ok {sp : Specs} (h : SpecsOK Tryz.prog sp) : SpecsOK Tryz.prog (sp_16 sp) := addK_ok L05_Few_ok h
end Go.Sh
end

section
namespace Go.Sh
open Go Go.Proofs Go.RowKit Go.Sx
set_option linter.unusedVariables false
def y143 : List SV := [.c (.p [.d, .r (.floats .f32 []), .d, .d, .r (.recs 2 []), .r (.recs 2 [])]), .c (.d)]
def y27 (u11 : Int) (u12 : List Nat) (u13 : Int) (u14 : Int) (u9 : List (List Int)) (u15 : List (List Int)) (u36 : Int) : Option (Int × Int × Bool) :=
  Option.bind (y41 u15 u11 u12 u13 u14 u9 u15 u36) fun r0 =>
  Option.bind (y42 u15 u11 u12 u13 u14 u9 u15 u36) fun r1 =>
  if r1 < (0 : Int) then
   some (((0 : Int), (0 : Int), false))
  else
   if (r1 == (↑(List.length u9) : Int)) = true then
    some (((0 : Int), (0 : Int), false))
   else
    some ((if IntKind.wrap .i64 (r0 - (1 : Int)) > (0 : Int) then IntKind.wrap .i64 (r0 - (1 : Int)) else (0 : Int), r1, true))
def y144 : List Lf → Option GT
  | [.d (.i .i64 u11), .r (.floats .f32 u12), .d (.i .i64 u13), .d (.i .i64 u14), .r (.recs 2 u9), .r (.recs 2 u15), .d (.i .i64 u36)] => some (.leaf (ok (y27 u11 u12 u13 u14 u9 u15 u36)) [.s [.d (.i .i64 ((val (y27 u11 u12 u13 u14 u9 u15 u36)).1)), .d (.i .i64 ((val (y27 u11 u12 u13 u14 u9 u15 u36)).2.1))], .c (.d (.b ((val (y27 u11 u12 u13 u14 u9 u15 u36)).2.2)))])
  | _ => none
abbrev sp_118 : Specs → Specs := addK 118 true (pureT y143 y144)
set_option maxRecDepth 100000 in
def G_decay_passing_t (u11 : Int) (u12 : List Nat) (u13 : Int) (u14 : Int) (u9 : List (List Int)) (u15 : List (List Int)) (u36 : Int) : T (Int × Int × Bool) :=
 .obT
  (.call (y41 u15 u11 u12 u13 u14 u9 u15 u36) fun r0 =>
  .obT
  (.call (y42 u15 u11 u12 u13 u14 u9 u15 u36) fun r1 =>
  .brP (r1 < (0 : Int))
  (.obT
  (.obT
  (.rc ((((0 : Int), (0 : Int), false))))))
  (.obT
  (.brB (r1 == (↑(List.length u9) : Int))
  (.obT
  (.obT
  (.rc ((((0 : Int), (0 : Int), false))))))
  (.obT
  (.obT
  (.rc (((if IntKind.wrap .i64 (r0 - (1 : Int)) > (0 : Int) then IntKind.wrap .i64 (r0 - (1 : Int)) else (0 : Int), r1, true))))))))))
set_option maxRecDepth 100000 in
theorem G_decay_passing_vc (u11 : Int) (u12 : List Nat) (u13 : Int) (u14 : Int) (u9 : List (List Int)) (u15 : List (List Int)) (u36 : Int) (r : Int × Int × Bool) (h : Option.bind (y27 u11 u12 u13 u14 u9 u15 u36) some = some r) : runT Tryz.f118 ((sp_142 (sp_143 (sp_94 sp0)))) (fun _ _ _ => none) (bldD y143 [.d (.i .i64 u11), .r (.floats .f32 u12), .d (.i .i64 u13), .d (.i .i64 u14), .r (.recs 2 u9), .r (.recs 2 u15), .d (.i .i64 u36)]) [.s [.d (.i .i64 r.1), .d (.i .i64 r.2.1)], .c (.d (.b r.2.2))] :=
  T.vc (t := G_decay_passing_t u11 u12 u13 u14 u9 u15 u36) (by kernel_rfl) (by kernel_rfl) h
set_option maxRecDepth 100000 in
theorem G_decay_passing_ok : SpecOK Tryz.prog 118 true (pureT y143 y144) := by
  refine pureT_ok (sp := (sp_142 (sp_143 (sp_94 sp0)))) (fn := Tryz.f118) (body := bodyOf Tryz.f118) mixed (sp_142_ok (sp_143_ok (sp_94_ok sp0_ok))) Tryz.func118 (by kernel_rfl) (by kernel_rfl) fun ls t h ho b hb => ?_
  unfold y144 at h
  split at h
  · rename_i u11 u12 u13 u14 u9 u15 u36
    cases h
    obtain rfl := bld_eq hb
    exact ⟨Nat.le_of_ble_eq_true (by kernel_rfl), _, _, G_decay_passing_vc u11 u12 u13 u14 u9 u15 u36 _ (ok_some ho)⟩
  · cases h
theorem sp_118_ok {sp : Specs} (h : SpecsOK Tryz.prog sp) : SpecsOK Tryz.prog (sp_118 sp) := addK_ok G_decay_passing_ok h
def y123 : List SV := [.c (.p [.d, .r (.floats .f32 []), .d, .d, .r (.recs 2 []), .r (.recs 2 [])]), .c (.d)]
def y36 (u11 : Int) (u12 : List Nat) (u13 : Int) (u14 : Int) (u9 : List (List Int)) (u15 : List (List Int)) (u32 : Int) : Option (Int × Int × Int) :=
  if (0 : Int) ≤ (0 : Int) ∧ (0 : Int) < (↑(List.length u15) : Int) then
   if (0 : Nat) < List.length u15 then
    if (List.getD (List.getD u15 (0 : Nat) []) (0 : Nat) (0 : Int) == (0 : Int)) = true then
     some (((0 : Int), (0 : Int), (11 : Int)))
    else
     if (0 : Int) ≤ u32 ∧ u32 < (↑(3 : Nat) : Int) then
      if Int.toNat u32 < List.length slopesT then
       if List.getD (List.getD slopesT (Int.toNat u32) []) (0 : Nat) (0 : Int) > (0 : Int) then
        Option.bind (y27 u11 u12 u13 u14 u9 u15 (List.getD (List.getD slopesT (Int.toNat u32) []) (0 : Nat) (0 : Int))) fun r0 =>
        if (!r0.2.2) = true then
         some (((0 : Int), (0 : Int), (12 : Int)))
        else
         Option.bind (y27 u11 u12 u13 u14 u9 u15 (List.getD (List.getD slopesT (Int.toNat u32) []) (1 : Nat) (0 : Int))) fun r1 =>
         if (!r1.2.2) = true then
          some (((0 : Int), (0 : Int), (12 : Int)))
         else
          if u11 ≠ (0 : Int) then
           Option.bind (G_ceil (IntKind.wrap .i64 (IntKind.wrap .i64 (List.getD (List.getD slopesT (Int.toNat u32) []) (2 : Nat) (0 : Int) * IntKind.wrap .i64 (r1.2.1 - r0.1)) * (1000000 : Int))) u11) fun r2 =>
           some ((IntKind.wrap .i64 (Int.tdiv (IntKind.wrap .i64 (IntKind.wrap .i64 (List.getD (List.getD slopesT (Int.toNat u32) []) (2 : Nat) (0 : Int) * if IntKind.wrap .i64 (r1.1 - r0.2.1) > (0 : Int) then IntKind.wrap .i64 (r1.1 - r0.2.1) else (0 : Int)) * (1000000 : Int))) u11), r2, (0 : Int)))
          else none
       else
        Option.bind (y27 u11 u12 u13 u14 u9 u15 (List.getD (List.getD slopesT (Int.toNat u32) []) (1 : Nat) (0 : Int))) fun r1 =>
        if (!r1.2.2) = true then
         some (((0 : Int), (0 : Int), (12 : Int)))
        else
         if u11 ≠ (0 : Int) then
          Option.bind (G_ceil (IntKind.wrap .i64 (IntKind.wrap .i64 (List.getD (List.getD slopesT (Int.toNat u32) []) (2 : Nat) (0 : Int) * IntKind.wrap .i64 (r1.2.1 - (0 : Int))) * (1000000 : Int))) u11) fun r3 =>
          some ((IntKind.wrap .i64 (Int.tdiv (IntKind.wrap .i64 (IntKind.wrap .i64 (List.getD (List.getD slopesT (Int.toNat u32) []) (2 : Nat) (0 : Int) * if IntKind.wrap .i64 (r1.1 - (0 : Int)) > (0 : Int) then IntKind.wrap .i64 (r1.1 - (0 : Int)) else (0 : Int)) * (1000000 : Int))) u11), r3, (0 : Int)))
         else none
      else none
     else none
   else none
  else none
def y124 : List Lf → Option GT
  | [.d (.i .i64 u11), .r (.floats .f32 u12), .d (.i .i64 u13), .d (.i .i64 u14), .r (.recs 2 u9), .r (.recs 2 u15), .d (.i .i64 u32)] => some (.leaf (ok (y36 u11 u12 u13 u14 u9 u15 u32)) [.s [.d (.i .i64 ((val (y36 u11 u12 u13 u14 u9 u15 u32)).1)), .d (.i .i64 ((val (y36 u11 u12 u13 u14 u9 u15 u32)).2.1))], .c (.d (.i .i64 ((val (y36 u11 u12 u13 u14 u9 u15 u32)).2.2)))])
  | _ => none
abbrev sp_69 : Specs → Specs := addK 69 true (pureT y123 y124)
set_option maxRecDepth 100000 in
def G_decay_decayTime_t (u11 : Int) (u12 : List Nat) (u13 : Int) (u14 : Int) (u9 : List (List Int)) (u15 : List (List Int)) (u32 : Int) : T (Int × Int × Int) :=
 .obT
  (.obP ((0 : Int) ≤ (0 : Int) ∧ (0 : Int) < (↑(List.length u15) : Int))
  (.obP ((0 : Nat) < List.length u15)
  (.brB (List.getD (List.getD u15 (0 : Nat) []) (0 : Nat) (0 : Int) == (0 : Int))
  (.obT
  (.obT
  (.rc ((((0 : Int), (0 : Int), (11 : Int)))))))
  (.obP ((0 : Int) ≤ u32 ∧ u32 < (↑(3 : Nat) : Int))
  (.obP (Int.toNat u32 < List.length slopesT)
  (.brP (List.getD (List.getD slopesT (Int.toNat u32) []) (0 : Nat) (0 : Int) > (0 : Int))
  (.call (y27 u11 u12 u13 u14 u9 u15 (List.getD (List.getD slopesT (Int.toNat u32) []) (0 : Nat) (0 : Int))) fun r0 =>
  .brB (!r0.2.2)
  (.obT
  (.obT
  (.rc ((((0 : Int), (0 : Int), (12 : Int)))))))
  (.call (y27 u11 u12 u13 u14 u9 u15 (List.getD (List.getD slopesT (Int.toNat u32) []) (1 : Nat) (0 : Int))) fun r1 =>
  .brB (!r1.2.2)
  (.obT
  (.obT
  (.rc ((((0 : Int), (0 : Int), (12 : Int)))))))
  (.obT
  (.obP (u11 ≠ (0 : Int))
  (.obT
  (.call (G_ceil (IntKind.wrap .i64 (IntKind.wrap .i64 (List.getD (List.getD slopesT (Int.toNat u32) []) (2 : Nat) (0 : Int) * IntKind.wrap .i64 (r1.2.1 - r0.1)) * (1000000 : Int))) u11) fun r2 =>
  .obT
  (.obT
  (.rc (((IntKind.wrap .i64 (Int.tdiv (IntKind.wrap .i64 (IntKind.wrap .i64 (List.getD (List.getD slopesT (Int.toNat u32) []) (2 : Nat) (0 : Int) * if IntKind.wrap .i64 (r1.1 - r0.2.1) > (0 : Int) then IntKind.wrap .i64 (r1.1 - r0.2.1) else (0 : Int)) * (1000000 : Int))) u11), r2, (0 : Int))))))))))))
  (.call (y27 u11 u12 u13 u14 u9 u15 (List.getD (List.getD slopesT (Int.toNat u32) []) (1 : Nat) (0 : Int))) fun r1 =>
  .brB (!r1.2.2)
  (.obT
  (.obT
  (.rc ((((0 : Int), (0 : Int), (12 : Int)))))))
  (.obT
  (.obP (u11 ≠ (0 : Int))
  (.obT
  (.call (G_ceil (IntKind.wrap .i64 (IntKind.wrap .i64 (List.getD (List.getD slopesT (Int.toNat u32) []) (2 : Nat) (0 : Int) * IntKind.wrap .i64 (r1.2.1 - (0 : Int))) * (1000000 : Int))) u11) fun r3 =>
  .obT
  (.obT
  (.rc (((IntKind.wrap .i64 (Int.tdiv (IntKind.wrap .i64 (IntKind.wrap .i64 (List.getD (List.getD slopesT (Int.toNat u32) []) (2 : Nat) (0 : Int) * if IntKind.wrap .i64 (r1.1 - (0 : Int)) > (0 : Int) then IntKind.wrap .i64 (r1.1 - (0 : Int)) else (0 : Int)) * (1000000 : Int))) u11), r3, (0 : Int)))))))))))))))))
set_option maxRecDepth 100000 in
theorem G_decay_decayTime_vc (u11 : Int) (u12 : List Nat) (u13 : Int) (u14 : Int) (u9 : List (List Int)) (u15 : List (List Int)) (u32 : Int) (r : Int × Int × Int) (h : Option.bind (y36 u11 u12 u13 u14 u9 u15 u32) some = some r) : runT Tryz.f69 ((sp_118 (sp_119 sp0))) (fun _ _ _ => none) (bldD y123 [.d (.i .i64 u11), .r (.floats .f32 u12), .d (.i .i64 u13), .d (.i .i64 u14), .r (.recs 2 u9), .r (.recs 2 u15), .d (.i .i64 u32)]) [.s [.d (.i .i64 r.1), .d (.i .i64 r.2.1)], .c (.d (.i .i64 r.2.2))] :=
  T.vc (t := G_decay_decayTime_t u11 u12 u13 u14 u9 u15 u32) (by kernel_rfl) (by kernel_rfl) h
set_option maxRecDepth 100000 in
theorem G_decay_decayTime_ok : SpecOK Tryz.prog 69 true (pureT y123 y124) := by
  refine pureT_ok (sp := (sp_118 (sp_119 sp0))) (fn := Tryz.f69) (body := bodyOf Tryz.f69) mixed (sp_118_ok (sp_119_ok sp0_ok)) Tryz.func69 (by kernel_rfl) (by kernel_rfl) fun ls t h ho b hb => ?_
  unfold y124 at h
  split at h
  · rename_i u11 u12 u13 u14 u9 u15 u32
    cases h
    obtain rfl := bld_eq hb
    exact ⟨Nat.le_of_ble_eq_true (by kernel_rfl), _, _, G_decay_decayTime_vc u11 u12 u13 u14 u9 u15 u32 _ (ok_some ho)⟩
  · cases h
theorem sp_69_ok {sp : Specs} (h : SpecsOK Tryz.prog sp) : SpecsOK Tryz.prog (sp_69 sp) := addK_ok G_decay_decayTime_ok h
def y171 : List SV := [.a [.d, .r (.floats .f32 []), .d, .d], .c (.d)]
def y86 (u5 : Int) (u0 : List Nat) (u6 : Int) (u1 : Int) (u32 : Int) : Option (Int × Int × Int) :=
  if ((val (G_open u5 u0 u6 u1)).1 != (0 : Int)) = true then
   Option.bind (G_open u5 u0 u6 u1) fun r0 =>
   if (r0.1 != (0 : Int)) = true then
    some (((0 : Int), (0 : Int), r0.1))
   else
    none   else
   Option.bind (G_open u5 u0 u6 u1) fun r0 =>
   Option.bind (y8 u32 (0 : Int) (2 : Int)) fun r1 =>
   if (!r1) = true then
    some (((0 : Int), (0 : Int), (15 : Int)))
   else
    Option.bind (y36 u5 u0 u6 u1 r0.2.1 r0.2.2 u32) fun r2 =>
    some (r2.1, r2.2.1, r2.2.2)
def y172 : List Lf → Option GT
  | [.d (.i .i64 u5), .r (.floats .f32 u0), .d (.i .i64 u6), .d (.i .i64 u1), .d (.i .i64 u32)] => some (.leaf (ok (y86 u5 u0 u6 u1 u32)) [.s [.d (.i .i64 ((val (y86 u5 u0 u6 u1 u32)).1)), .d (.i .i64 ((val (y86 u5 u0 u6 u1 u32)).2.1))], .c (.d (.i .i64 ((val (y86 u5 u0 u6 u1 u32)).2.2)))])
  | _ => none
abbrev sp_19 : Specs → Specs := addK 19 true (pureT y171 y172)
set_option maxRecDepth 100000 in
def G_DecayWithin_t (u5 : Int) (u0 : List Nat) (u6 : Int) (u1 : Int) (u32 : Int) : T (Int × Int × Int) :=
 .brB ((val (G_open u5 u0 u6 u1)).1 != (0 : Int))
  (.call (G_open u5 u0 u6 u1) fun r0 =>
  .brB (r0.1 != (0 : Int))
  (.obT
  (.obT
  (.rc ((((0 : Int), (0 : Int), r0.1))))))
  (.bad (fun r => (Ob (ok (y8 u32 (0 : Int) (2 : Int))) ∧
 Br (!val (y8 u32 (0 : Int) (2 : Int)))
  ((Ob (True) ∧
 (Ob (True) ∧
 (Ob ((0 : Int) = r.1) ∧
 (Ob ((0 : Int) = r.2.1) ∧
 (Ob ((15 : Int) = r.2.2) ∧
 True))))))
  (False)))))
  (.call (G_open u5 u0 u6 u1) fun r0 =>
  .call (y8 u32 (0 : Int) (2 : Int)) fun r1 =>
  .brB (!r1)
  (.obT
  (.obT
  (.rc ((((0 : Int), (0 : Int), (15 : Int)))))))
  (.call (y36 u5 u0 u6 u1 r0.2.1 r0.2.2 u32) fun r2 =>
  .obT
  (.obT
  (.rc ((r2.1, r2.2.1, r2.2.2))))))
set_option maxRecDepth 100000 in
theorem G_DecayWithin_vc (u5 : Int) (u0 : List Nat) (u6 : Int) (u1 : Int) (u32 : Int) (r : Int × Int × Int) (h : Option.bind (y86 u5 u0 u6 u1 u32) some = some r) : runT Tryz.f19 ((sp_67 (sp_68 (sp_69 sp0)))) (fun _ _ _ => none) (bldD y171 [.d (.i .i64 u5), .r (.floats .f32 u0), .d (.i .i64 u6), .d (.i .i64 u1), .d (.i .i64 u32)]) [.s [.d (.i .i64 r.1), .d (.i .i64 r.2.1)], .c (.d (.i .i64 r.2.2))] :=
  T.vc (t := G_DecayWithin_t u5 u0 u6 u1 u32) (by kernel_rfl) (by kernel_rfl) h
set_option maxRecDepth 100000 in
theorem G_DecayWithin_ok : SpecOK Tryz.prog 19 true (pureT y171 y172) := by
  refine pureT_ok (sp := (sp_67 (sp_68 (sp_69 sp0)))) (fn := Tryz.f19) (body := bodyOf Tryz.f19) mixed (sp_67_ok (sp_68_ok (sp_69_ok sp0_ok))) Tryz.func19 (by kernel_rfl) (by kernel_rfl) fun ls t h ho b hb => ?_
  unfold y172 at h
  split at h
  · rename_i u5 u0 u6 u1 u32
    cases h
    obtain rfl := bld_eq hb
    exact ⟨Nat.le_of_ble_eq_true (by kernel_rfl), _, _, G_DecayWithin_vc u5 u0 u6 u1 u32 _ (ok_some ho)⟩
  · cases h
theorem sp_19_ok {sp : Specs} (h : SpecsOK Tryz.prog sp) : SpecsOK Tryz.prog (sp_19 sp) := addK_ok G_DecayWithin_ok h
def k_G_Decay : List SV := [.a [.d, .r (.floats .f32 [])], .c (.d)]
def G_Decay (u10 : Int) (u7 : List Nat) (u32 : Int) : Option (Int × Int × Int) :=
  Option.bind (y86 u10 u7 (0 : Int) (0 : Int) u32) fun r0 =>
  some (r0.1, r0.2.1, r0.2.2)
def g_G_Decay : List Lf → Option GT
  | [.d (.i .i64 u10), .r (.floats .f32 u7), .d (.i .i64 u32)] => some (.leaf (ok (G_Decay u10 u7 u32)) [.s [.d (.i .i64 ((val (G_Decay u10 u7 u32)).1)), .d (.i .i64 ((val (G_Decay u10 u7 u32)).2.1))], .c (.d (.i .i64 ((val (G_Decay u10 u7 u32)).2.2)))])
  | _ => none
abbrev sp_17 : Specs → Specs := addK 17 true (pureT k_G_Decay g_G_Decay)
set_option maxRecDepth 100000 in
def G_Decay_t (u10 : Int) (u7 : List Nat) (u32 : Int) : T (Int × Int × Int) :=
 .call (y86 u10 u7 (0 : Int) (0 : Int) u32) fun r0 =>
  .obT
  (.obT
  (.rc ((r0.1, r0.2.1, r0.2.2))))
set_option maxRecDepth 100000 in
theorem G_Decay_vc (u10 : Int) (u7 : List Nat) (u32 : Int) (r : Int × Int × Int) (h : Option.bind (G_Decay u10 u7 u32) some = some r) : runT Tryz.f17 ((sp_19 sp0)) (fun _ _ _ => none) (bldD k_G_Decay [.d (.i .i64 u10), .r (.floats .f32 u7), .d (.i .i64 u32)]) [.s [.d (.i .i64 r.1), .d (.i .i64 r.2.1)], .c (.d (.i .i64 r.2.2))] :=
  T.vc (t := G_Decay_t u10 u7 u32) (by kernel_rfl) (by kernel_rfl) h
set_option maxRecDepth 100000 in
theorem G_Decay_ok : SpecOK Tryz.prog 17 true (pureT k_G_Decay g_G_Decay) := by
  refine pureT_ok (sp := (sp_19 sp0)) (fn := Tryz.f17) (body := bodyOf Tryz.f17) mixed (sp_19_ok sp0_ok) Tryz.func17 (by kernel_rfl) (by kernel_rfl) fun ls t h ho b hb => ?_
  unfold g_G_Decay at h
  split at h
  · rename_i u10 u7 u32
    cases h
    obtain rfl := bld_eq hb
    exact ⟨Nat.le_of_ble_eq_true (by kernel_rfl), _, _, G_Decay_vc u10 u7 u32 _ (ok_some ho)⟩
  · cases h
theorem sp_17_ok {sp : Specs} (h : SpecsOK Tryz.prog sp) : SpecsOK Tryz.prog (sp_17 sp) := addK_ok G_Decay_ok h
def y173 : List SV := [.c (.p [.d, .r (.floats .f32 []), .d, .d, .r (.recs 2 []), .r (.recs 2 [])]), .c (.d)]
def y37 (u11 : Int) (u12 : List Nat) (u13 : Int) (u14 : Int) (u9 : List (List Int)) (u15 : List (List Int)) (u4 : Int) : Option (Int × Int) :=
  Option.bind (y53 u11 u12 u13 u14 u9 u15 u4) fun r0 =>
  Option.bind (y49 u11 u12 u13 u14 u9 u15 (0 : Int) r0) fun r1 =>
  some (r1.1, r1.2)
def y174 : List Lf → Option GT
  | [.d (.i .i64 u11), .r (.floats .f32 u12), .d (.i .i64 u13), .d (.i .i64 u14), .r (.recs 2 u9), .r (.recs 2 u15), .d (.i .i64 u4)] => some (.leaf (ok (y37 u11 u12 u13 u14 u9 u15 u4)) [.s [.d (.i .i64 ((val (y37 u11 u12 u13 u14 u9 u15 u4)).1)), .d (.i .i64 ((val (y37 u11 u12 u13 u14 u9 u15 u4)).2))]])
  | _ => none
abbrev sp_89 : Specs → Specs := addK 89 true (pureT y173 y174)
set_option maxRecDepth 100000 in
def G_decay_early_t (u11 : Int) (u12 : List Nat) (u13 : Int) (u14 : Int) (u9 : List (List Int)) (u15 : List (List Int)) (u4 : Int) : T (Int × Int) :=
 .call (y53 u11 u12 u13 u14 u9 u15 u4) fun r0 =>
  .call (y49 u11 u12 u13 u14 u9 u15 (0 : Int) r0) fun r1 =>
  .obT
  (.rc ((r1.1, r1.2)))
set_option maxRecDepth 100000 in
theorem G_decay_early_vc (u11 : Int) (u12 : List Nat) (u13 : Int) (u14 : Int) (u9 : List (List Int)) (u15 : List (List Int)) (u4 : Int) (r : Int × Int) (h : Option.bind (y37 u11 u12 u13 u14 u9 u15 u4) some = some r) : runT Tryz.f89 ((sp_88 (sp_87 sp0))) (fun _ _ _ => none) (bldD y173 [.d (.i .i64 u11), .r (.floats .f32 u12), .d (.i .i64 u13), .d (.i .i64 u14), .r (.recs 2 u9), .r (.recs 2 u15), .d (.i .i64 u4)]) [.s [.d (.i .i64 r.1), .d (.i .i64 r.2)]] :=
  T.vc (t := G_decay_early_t u11 u12 u13 u14 u9 u15 u4) (by kernel_rfl) (by kernel_rfl) h
set_option maxRecDepth 100000 in
theorem G_decay_early_ok : SpecOK Tryz.prog 89 true (pureT y173 y174) := by
  refine pureT_ok (sp := (sp_88 (sp_87 sp0))) (fn := Tryz.f89) (body := bodyOf Tryz.f89) mixed (sp_88_ok (sp_87_ok sp0_ok)) Tryz.func89 (by kernel_rfl) (by kernel_rfl) fun ls t h ho b hb => ?_
  unfold y174 at h
  split at h
  · rename_i u11 u12 u13 u14 u9 u15 u4
    cases h
    obtain rfl := bld_eq hb
    exact ⟨Nat.le_of_ble_eq_true (by kernel_rfl), _, _, G_decay_early_vc u11 u12 u13 u14 u9 u15 u4 _ (ok_some ho)⟩
  · cases h
theorem sp_89_ok {sp : Specs} (h : SpecsOK Tryz.prog sp) : SpecsOK Tryz.prog (sp_89 sp) := addK_ok G_decay_early_ok h
def k_G_decay_late : List SV := [.c (.p [.d, .r (.floats .f32 []), .d, .d, .r (.recs 2 []), .r (.recs 2 [])]), .c (.d)]
def y54 (u11 : Int) (u12 : List Nat) (u13 : Int) (u14 : Int) (u9 : List (List Int)) (u15 : List (List Int)) (u4 : Int) : Option (Int × Int) :=
  Option.bind (y53 u11 u12 u13 u14 u9 u15 u4) fun r0 =>
  if (0 : Int) ≤ r0 ∧ r0 < (↑(List.length u15) : Int) then
   if Int.toNat r0 < List.length u15 then
    some ((List.getD (List.getD u15 (Int.toNat r0) []) (0 : Nat) (0 : Int), List.getD (List.getD u15 (Int.toNat r0) []) (1 : Nat) (0 : Int)))
   else none
  else none
def g_G_decay_late : List Lf → Option GT
  | [.d (.i .i64 u11), .r (.floats .f32 u12), .d (.i .i64 u13), .d (.i .i64 u14), .r (.recs 2 u9), .r (.recs 2 u15), .d (.i .i64 u4)] => some (.leaf (ok (y54 u11 u12 u13 u14 u9 u15 u4)) [.s [.d (.i .i64 ((val (y54 u11 u12 u13 u14 u9 u15 u4)).1)), .d (.i .i64 ((val (y54 u11 u12 u13 u14 u9 u15 u4)).2))]])
  | _ => none
abbrev sp_122 : Specs → Specs := addK 122 true (pureT k_G_decay_late g_G_decay_late)
set_option maxRecDepth 100000 in
def G_decay_late_t (u11 : Int) (u12 : List Nat) (u13 : Int) (u14 : Int) (u9 : List (List Int)) (u15 : List (List Int)) (u4 : Int) : T (Int × Int) :=
 .obT
  (.call (y53 u11 u12 u13 u14 u9 u15 u4) fun r0 =>
  .obP ((0 : Int) ≤ r0 ∧ r0 < (↑(List.length u15) : Int))
  (.obP (Int.toNat r0 < List.length u15)
  (.obT
  (.rc (((List.getD (List.getD u15 (Int.toNat r0) []) (0 : Nat) (0 : Int), List.getD (List.getD u15 (Int.toNat r0) []) (1 : Nat) (0 : Int))))))))
set_option maxRecDepth 100000 in
theorem G_decay_late_vc (u11 : Int) (u12 : List Nat) (u13 : Int) (u14 : Int) (u9 : List (List Int)) (u15 : List (List Int)) (u4 : Int) (r : Int × Int) (h : Option.bind (y54 u11 u12 u13 u14 u9 u15 u4) some = some r) : runT Tryz.f122 ((sp_88 sp0)) (fun _ _ _ => none) (bldD k_G_decay_late [.d (.i .i64 u11), .r (.floats .f32 u12), .d (.i .i64 u13), .d (.i .i64 u14), .r (.recs 2 u9), .r (.recs 2 u15), .d (.i .i64 u4)]) [.s [.d (.i .i64 r.1), .d (.i .i64 r.2)]] :=
  T.vc (t := G_decay_late_t u11 u12 u13 u14 u9 u15 u4) (by kernel_rfl) (by kernel_rfl) h
set_option maxRecDepth 100000 in
theorem G_decay_late_ok : SpecOK Tryz.prog 122 true (pureT k_G_decay_late g_G_decay_late) := by
  refine pureT_ok (sp := (sp_88 sp0)) (fn := Tryz.f122) (body := bodyOf Tryz.f122) mixed (sp_88_ok sp0_ok) Tryz.func122 (by kernel_rfl) (by kernel_rfl) fun ls t h ho b hb => ?_
  unfold g_G_decay_late at h
  split at h
  · rename_i u11 u12 u13 u14 u9 u15 u4
    cases h
    obtain rfl := bld_eq hb
    exact ⟨Nat.le_of_ble_eq_true (by kernel_rfl), _, _, G_decay_late_vc u11 u12 u13 u14 u9 u15 u4 _ (ok_some ho)⟩
  · cases h
theorem sp_122_ok {sp : Specs} (h : SpecsOK Tryz.prog sp) : SpecsOK Tryz.prog (sp_122 sp) := addK_ok G_decay_late_ok h
def y145 : List SV := [.c (.p [.d, .r (.floats .f32 []), .d, .d, .r (.recs 2 []), .r (.recs 2 [])]), .c (.d)]
def y45 (u11 : Int) (u12 : List Nat) (u13 : Int) (u14 : Int) (u9 : List (List Int)) (u15 : List (List Int)) (u4 : Int) : Option (Int × Int × Int) :=
  Option.bind (y37 u11 u12 u13 u14 u9 u15 u4) fun r0 =>
  Option.bind (y54 u11 u12 u13 u14 u9 u15 u4) fun r1 =>
  Option.bind (y53 u11 u12 u13 u14 u9 u15 u4) fun r2 =>
  if (r2 == (↑(List.length u9) : Int)) = true then
   some (((0 : Int), (0 : Int), (12 : Int)))
  else
   if (r0.1 == (0 : Int)) = true then
    some (((0 : Int), (0 : Int), (11 : Int)))
   else
    if (r1.1 == (0 : Int)) = true then
     some (((0 : Int), (0 : Int), (11 : Int)))
    else
     Option.bind (y99 r0.1 r1.2) fun r3 =>
     Option.bind (y99 r0.2 r1.1) fun r4 =>
     Option.bind (y18 [r3.2.2, r4.2.2]) fun r5 =>
     if (r5 != (0 : Int)) = true then
      some (((0 : Int), (0 : Int), r5))
     else
      some ((r3.1, r4.2.1, (0 : Int)))
def y146 : List Lf → Option GT
  | [.d (.i .i64 u11), .r (.floats .f32 u12), .d (.i .i64 u13), .d (.i .i64 u14), .r (.recs 2 u9), .r (.recs 2 u15), .d (.i .i64 u4)] => some (.leaf (ok (y45 u11 u12 u13 u14 u9 u15 u4)) [.s [.d (.i .i64 ((val (y45 u11 u12 u13 u14 u9 u15 u4)).1)), .d (.i .i64 ((val (y45 u11 u12 u13 u14 u9 u15 u4)).2.1))], .c (.d (.i .i64 ((val (y45 u11 u12 u13 u14 u9 u15 u4)).2.2)))])
  | _ => none
abbrev sp_78 : Specs → Specs := addK 78 true (pureT y145 y146)
set_option maxRecDepth 100000 in
def G_decay_clarity_t (u11 : Int) (u12 : List Nat) (u13 : Int) (u14 : Int) (u9 : List (List Int)) (u15 : List (List Int)) (u4 : Int) : T (Int × Int × Int) :=
 .call (y37 u11 u12 u13 u14 u9 u15 u4) fun r0 =>
  .call (y54 u11 u12 u13 u14 u9 u15 u4) fun r1 =>
  .call (y53 u11 u12 u13 u14 u9 u15 u4) fun r2 =>
  .obT
  (.brB (r2 == (↑(List.length u9) : Int))
  (.obT
  (.obT
  (.rc ((((0 : Int), (0 : Int), (12 : Int)))))))
  (.brB (r0.1 == (0 : Int))
  (.obT
  (.obT
  (.rc ((((0 : Int), (0 : Int), (11 : Int)))))))
  (.brB (r1.1 == (0 : Int))
  (.obT
  (.obT
  (.rc ((((0 : Int), (0 : Int), (11 : Int)))))))
  (.call (y99 r0.1 r1.2) fun r3 =>
  .call (y99 r0.2 r1.1) fun r4 =>
  .call (y18 [r3.2.2, r4.2.2]) fun r5 =>
  .brB (r5 != (0 : Int))
  (.obT
  (.obT
  (.rc ((((0 : Int), (0 : Int), r5))))))
  (.obT
  (.obT
  (.rc (((r3.1, r4.2.1, (0 : Int)))))))))))
set_option maxRecDepth 100000 in
theorem G_decay_clarity_vc (u11 : Int) (u12 : List Nat) (u13 : Int) (u14 : Int) (u9 : List (List Int)) (u15 : List (List Int)) (u4 : Int) (r : Int × Int × Int) (h : Option.bind (y45 u11 u12 u13 u14 u9 u15 u4) some = some r) : runT Tryz.f78 ((sp_89 (sp_122 (sp_88 (sp_123 (sp_76 sp0)))))) (fun _ _ _ => none) (bldD y145 [.d (.i .i64 u11), .r (.floats .f32 u12), .d (.i .i64 u13), .d (.i .i64 u14), .r (.recs 2 u9), .r (.recs 2 u15), .d (.i .i64 u4)]) [.s [.d (.i .i64 r.1), .d (.i .i64 r.2.1)], .c (.d (.i .i64 r.2.2))] :=
  T.vc (t := G_decay_clarity_t u11 u12 u13 u14 u9 u15 u4) (by kernel_rfl) (by kernel_rfl) h
set_option maxRecDepth 100000 in
theorem G_decay_clarity_ok : SpecOK Tryz.prog 78 true (pureT y145 y146) := by
  refine pureT_ok (sp := (sp_89 (sp_122 (sp_88 (sp_123 (sp_76 sp0)))))) (fn := Tryz.f78) (body := bodyOf Tryz.f78) mixed (sp_89_ok (sp_122_ok (sp_88_ok (sp_123_ok (sp_76_ok sp0_ok))))) Tryz.func78 (by kernel_rfl) (by kernel_rfl) fun ls t h ho b hb => ?_
  unfold y146 at h
  split at h
  · rename_i u11 u12 u13 u14 u9 u15 u4
    cases h
    obtain rfl := bld_eq hb
    exact ⟨Nat.le_of_ble_eq_true (by kernel_rfl), _, _, G_decay_clarity_vc u11 u12 u13 u14 u9 u15 u4 _ (ok_some ho)⟩
  · cases h
theorem sp_78_ok {sp : Specs} (h : SpecsOK Tryz.prog sp) : SpecsOK Tryz.prog (sp_78 sp) := addK_ok G_decay_clarity_ok h
def k_G_Clarity : List SV := [.a [.d, .r (.floats .f32 []), .d, .d], .c (.d)]
def G_Clarity (u5 : Int) (u0 : List Nat) (u6 : Int) (u1 : Int) (u4 : Int) : Option (Int × Int × Int) :=
  if ((val (G_open u5 u0 u6 u1)).1 != (0 : Int)) = true then
   Option.bind (G_open u5 u0 u6 u1) fun r0 =>
   Option.bind (y40 u4) fun r1 =>
   Option.bind (y18 [r0.1, r1]) fun r2 =>
   if (r2 != (0 : Int)) = true then
    some (((0 : Int), (0 : Int), r2))
   else
    none   else
   Option.bind (G_open u5 u0 u6 u1) fun r0 =>
   Option.bind (y40 u4) fun r1 =>
   Option.bind (y18 [(0 : Int), r1]) fun r3 =>
   if (r3 != (0 : Int)) = true then
    some (((0 : Int), (0 : Int), r3))
   else
    Option.bind (y45 u5 u0 u6 u1 r0.2.1 r0.2.2 u4) fun r4 =>
    some (r4.1, r4.2.1, r4.2.2)
def g_G_Clarity : List Lf → Option GT
  | [.d (.i .i64 u5), .r (.floats .f32 u0), .d (.i .i64 u6), .d (.i .i64 u1), .d (.i .i64 u4)] => some (.leaf (ok (G_Clarity u5 u0 u6 u1 u4)) [.s [.d (.i .i64 ((val (G_Clarity u5 u0 u6 u1 u4)).1)), .d (.i .i64 ((val (G_Clarity u5 u0 u6 u1 u4)).2.1))], .c (.d (.i .i64 ((val (G_Clarity u5 u0 u6 u1 u4)).2.2)))])
  | _ => none
abbrev sp_26 : Specs → Specs := addK 26 true (pureT k_G_Clarity g_G_Clarity)
set_option maxRecDepth 100000 in
def G_Clarity_t (u5 : Int) (u0 : List Nat) (u6 : Int) (u1 : Int) (u4 : Int) : T (Int × Int × Int) :=
 .brB ((val (G_open u5 u0 u6 u1)).1 != (0 : Int))
  (.call (G_open u5 u0 u6 u1) fun r0 =>
  .call (y40 u4) fun r1 =>
  .call (y18 [r0.1, r1]) fun r2 =>
  .brB (r2 != (0 : Int))
  (.obT
  (.obT
  (.rc ((((0 : Int), (0 : Int), r2))))))
  (.bad (fun r => False)))
  (.call (G_open u5 u0 u6 u1) fun r0 =>
  .call (y40 u4) fun r1 =>
  .call (y18 [(0 : Int), r1]) fun r3 =>
  .brB (r3 != (0 : Int))
  (.obT
  (.obT
  (.rc ((((0 : Int), (0 : Int), r3))))))
  (.call (y45 u5 u0 u6 u1 r0.2.1 r0.2.2 u4) fun r4 =>
  .obT
  (.obT
  (.rc ((r4.1, r4.2.1, r4.2.2))))))
set_option maxRecDepth 100000 in
theorem G_Clarity_vc (u5 : Int) (u0 : List Nat) (u6 : Int) (u1 : Int) (u4 : Int) (r : Int × Int × Int) (h : Option.bind (G_Clarity u5 u0 u6 u1 u4) some = some r) : runT Tryz.f26 ((sp_67 (sp_77 (sp_76 (sp_78 sp0))))) (fun _ _ _ => none) (bldD k_G_Clarity [.d (.i .i64 u5), .r (.floats .f32 u0), .d (.i .i64 u6), .d (.i .i64 u1), .d (.i .i64 u4)]) [.s [.d (.i .i64 r.1), .d (.i .i64 r.2.1)], .c (.d (.i .i64 r.2.2))] :=
  T.vc (t := G_Clarity_t u5 u0 u6 u1 u4) (by kernel_rfl) (by kernel_rfl) h
set_option maxRecDepth 100000 in
theorem G_Clarity_ok : SpecOK Tryz.prog 26 true (pureT k_G_Clarity g_G_Clarity) := by
  refine pureT_ok (sp := (sp_67 (sp_77 (sp_76 (sp_78 sp0))))) (fn := Tryz.f26) (body := bodyOf Tryz.f26) mixed (sp_67_ok (sp_77_ok (sp_76_ok (sp_78_ok sp0_ok)))) Tryz.func26 (by kernel_rfl) (by kernel_rfl) fun ls t h ho b hb => ?_
  unfold g_G_Clarity at h
  split at h
  · rename_i u5 u0 u6 u1 u4
    cases h
    obtain rfl := bld_eq hb
    exact ⟨Nat.le_of_ble_eq_true (by kernel_rfl), _, _, G_Clarity_vc u5 u0 u6 u1 u4 _ (ok_some ho)⟩
  · cases h
theorem sp_26_ok {sp : Specs} (h : SpecsOK Tryz.prog sp) : SpecsOK Tryz.prog (sp_26 sp) := addK_ok G_Clarity_ok h
def y111 : List SV := [.c (.p [.d, .r (.floats .f32 []), .d, .d, .r (.recs 2 []), .r (.recs 2 [])]), .c (.d)]
def y21 (u11 : Int) (u12 : List Nat) (u13 : Int) (u14 : Int) (u9 : List (List Int)) (u15 : List (List Int)) (u4 : Int) : Option (Int × Int × Int) :=
  Option.bind (y37 u11 u12 u13 u14 u9 u15 u4) fun r0 =>
  Option.bind (y54 u11 u12 u13 u14 u9 u15 u4) fun r1 =>
  if (r0.1 == (0 : Int)) = true then
   if (r1.1 == (0 : Int)) = true then
    some (((0 : Int), (0 : Int), (11 : Int)))
   else
    if IntKind.wrap .i64 (r0.1 + r1.2) ≠ (0 : Int) then
     Option.bind (G_ceil (IntKind.wrap .i64 ((1000 : Int) * r0.2)) (IntKind.wrap .i64 (r0.2 + r1.1))) fun r2 =>
     some ((IntKind.wrap .i64 (Int.tdiv (IntKind.wrap .i64 ((1000 : Int) * r0.1)) (IntKind.wrap .i64 (r0.1 + r1.2))), r2, (0 : Int)))
    else none
  else
   if IntKind.wrap .i64 (r0.1 + r1.2) ≠ (0 : Int) then
    Option.bind (G_ceil (IntKind.wrap .i64 ((1000 : Int) * r0.2)) (IntKind.wrap .i64 (r0.2 + r1.1))) fun r2 =>
    some ((IntKind.wrap .i64 (Int.tdiv (IntKind.wrap .i64 ((1000 : Int) * r0.1)) (IntKind.wrap .i64 (r0.1 + r1.2))), r2, (0 : Int)))
   else none
def y112 : List Lf → Option GT
  | [.d (.i .i64 u11), .r (.floats .f32 u12), .d (.i .i64 u13), .d (.i .i64 u14), .r (.recs 2 u9), .r (.recs 2 u15), .d (.i .i64 u4)] => some (.leaf (ok (y21 u11 u12 u13 u14 u9 u15 u4)) [.s [.d (.i .i64 ((val (y21 u11 u12 u13 u14 u9 u15 u4)).1)), .d (.i .i64 ((val (y21 u11 u12 u13 u14 u9 u15 u4)).2.1))], .c (.d (.i .i64 ((val (y21 u11 u12 u13 u14 u9 u15 u4)).2.2)))])
  | _ => none
abbrev sp_98 : Specs → Specs := addK 98 true (pureT y111 y112)
set_option maxRecDepth 100000 in
def G_decay_definition_t (u11 : Int) (u12 : List Nat) (u13 : Int) (u14 : Int) (u9 : List (List Int)) (u15 : List (List Int)) (u4 : Int) : T (Int × Int × Int) :=
 .call (y37 u11 u12 u13 u14 u9 u15 u4) fun r0 =>
  .call (y54 u11 u12 u13 u14 u9 u15 u4) fun r1 =>
  .brB (r0.1 == (0 : Int))
  (.brB (r1.1 == (0 : Int))
  (.obT
  (.obT
  (.rc ((((0 : Int), (0 : Int), (11 : Int)))))))
  (.obP (IntKind.wrap .i64 (r0.1 + r1.2) ≠ (0 : Int))
  (.call (G_ceil (IntKind.wrap .i64 ((1000 : Int) * r0.2)) (IntKind.wrap .i64 (r0.2 + r1.1))) fun r2 =>
  .obT
  (.obT
  (.rc (((IntKind.wrap .i64 (Int.tdiv (IntKind.wrap .i64 ((1000 : Int) * r0.1)) (IntKind.wrap .i64 (r0.1 + r1.2))), r2, (0 : Int)))))))))
  (.obP (IntKind.wrap .i64 (r0.1 + r1.2) ≠ (0 : Int))
  (.call (G_ceil (IntKind.wrap .i64 ((1000 : Int) * r0.2)) (IntKind.wrap .i64 (r0.2 + r1.1))) fun r2 =>
  .obT
  (.obT
  (.rc (((IntKind.wrap .i64 (Int.tdiv (IntKind.wrap .i64 ((1000 : Int) * r0.1)) (IntKind.wrap .i64 (r0.1 + r1.2))), r2, (0 : Int))))))))
set_option maxRecDepth 100000 in
theorem G_decay_definition_vc (u11 : Int) (u12 : List Nat) (u13 : Int) (u14 : Int) (u9 : List (List Int)) (u15 : List (List Int)) (u4 : Int) (r : Int × Int × Int) (h : Option.bind (y21 u11 u12 u13 u14 u9 u15 u4) some = some r) : runT Tryz.f98 ((sp_89 (sp_122 (sp_119 sp0)))) (fun _ _ _ => none) (bldD y111 [.d (.i .i64 u11), .r (.floats .f32 u12), .d (.i .i64 u13), .d (.i .i64 u14), .r (.recs 2 u9), .r (.recs 2 u15), .d (.i .i64 u4)]) [.s [.d (.i .i64 r.1), .d (.i .i64 r.2.1)], .c (.d (.i .i64 r.2.2))] :=
  T.vc (t := G_decay_definition_t u11 u12 u13 u14 u9 u15 u4) (by kernel_rfl) (by kernel_rfl) h
set_option maxRecDepth 100000 in
theorem G_decay_definition_ok : SpecOK Tryz.prog 98 true (pureT y111 y112) := by
  refine pureT_ok (sp := (sp_89 (sp_122 (sp_119 sp0)))) (fn := Tryz.f98) (body := bodyOf Tryz.f98) mixed (sp_89_ok (sp_122_ok (sp_119_ok sp0_ok))) Tryz.func98 (by kernel_rfl) (by kernel_rfl) fun ls t h ho b hb => ?_
  unfold y112 at h
  split at h
  · rename_i u11 u12 u13 u14 u9 u15 u4
    cases h
    obtain rfl := bld_eq hb
    exact ⟨Nat.le_of_ble_eq_true (by kernel_rfl), _, _, G_decay_definition_vc u11 u12 u13 u14 u9 u15 u4 _ (ok_some ho)⟩
  · cases h
theorem sp_98_ok {sp : Specs} (h : SpecsOK Tryz.prog sp) : SpecsOK Tryz.prog (sp_98 sp) := addK_ok G_decay_definition_ok h
def y113 : List SV := [.a [.d, .r (.floats .f32 []), .d, .d], .c (.d)]
def y28 (u5 : Int) (u0 : List Nat) (u6 : Int) (u1 : Int) (u4 : Int) : Option (Int × Int × Int) :=
  if ((val (G_open u5 u0 u6 u1)).1 != (0 : Int)) = true then
   Option.bind (G_open u5 u0 u6 u1) fun r0 =>
   Option.bind (y40 u4) fun r1 =>
   Option.bind (y18 [r0.1, r1]) fun r2 =>
   if (r2 != (0 : Int)) = true then
    some (((0 : Int), (0 : Int), r2))
   else
    none   else
   Option.bind (G_open u5 u0 u6 u1) fun r0 =>
   Option.bind (y40 u4) fun r1 =>
   Option.bind (y18 [(0 : Int), r1]) fun r3 =>
   if (r3 != (0 : Int)) = true then
    some (((0 : Int), (0 : Int), r3))
   else
    Option.bind (y21 u5 u0 u6 u1 r0.2.1 r0.2.2 u4) fun r4 =>
    some (r4.1, r4.2.1, r4.2.2)
def y114 : List Lf → Option GT
  | [.d (.i .i64 u5), .r (.floats .f32 u0), .d (.i .i64 u6), .d (.i .i64 u1), .d (.i .i64 u4)] => some (.leaf (ok (y28 u5 u0 u6 u1 u4)) [.s [.d (.i .i64 ((val (y28 u5 u0 u6 u1 u4)).1)), .d (.i .i64 ((val (y28 u5 u0 u6 u1 u4)).2.1))], .c (.d (.i .i64 ((val (y28 u5 u0 u6 u1 u4)).2.2)))])
  | _ => none
abbrev sp_44 : Specs → Specs := addK 44 true (pureT y113 y114)
set_option maxRecDepth 100000 in
def G_DefinitionWithin_t (u5 : Int) (u0 : List Nat) (u6 : Int) (u1 : Int) (u4 : Int) : T (Int × Int × Int) :=
 .brB ((val (G_open u5 u0 u6 u1)).1 != (0 : Int))
  (.call (G_open u5 u0 u6 u1) fun r0 =>
  .call (y40 u4) fun r1 =>
  .call (y18 [r0.1, r1]) fun r2 =>
  .brB (r2 != (0 : Int))
  (.obT
  (.obT
  (.rc ((((0 : Int), (0 : Int), r2))))))
  (.bad (fun r => False)))
  (.call (G_open u5 u0 u6 u1) fun r0 =>
  .call (y40 u4) fun r1 =>
  .call (y18 [(0 : Int), r1]) fun r3 =>
  .brB (r3 != (0 : Int))
  (.obT
  (.obT
  (.rc ((((0 : Int), (0 : Int), r3))))))
  (.call (y21 u5 u0 u6 u1 r0.2.1 r0.2.2 u4) fun r4 =>
  .obT
  (.obT
  (.rc ((r4.1, r4.2.1, r4.2.2))))))
set_option maxRecDepth 100000 in
theorem G_DefinitionWithin_vc (u5 : Int) (u0 : List Nat) (u6 : Int) (u1 : Int) (u4 : Int) (r : Int × Int × Int) (h : Option.bind (y28 u5 u0 u6 u1 u4) some = some r) : runT Tryz.f44 ((sp_67 (sp_77 (sp_76 (sp_98 sp0))))) (fun _ _ _ => none) (bldD y113 [.d (.i .i64 u5), .r (.floats .f32 u0), .d (.i .i64 u6), .d (.i .i64 u1), .d (.i .i64 u4)]) [.s [.d (.i .i64 r.1), .d (.i .i64 r.2.1)], .c (.d (.i .i64 r.2.2))] :=
  T.vc (t := G_DefinitionWithin_t u5 u0 u6 u1 u4) (by kernel_rfl) (by kernel_rfl) h
set_option maxRecDepth 100000 in
theorem G_DefinitionWithin_ok : SpecOK Tryz.prog 44 true (pureT y113 y114) := by
  refine pureT_ok (sp := (sp_67 (sp_77 (sp_76 (sp_98 sp0))))) (fn := Tryz.f44) (body := bodyOf Tryz.f44) mixed (sp_67_ok (sp_77_ok (sp_76_ok (sp_98_ok sp0_ok)))) Tryz.func44 (by kernel_rfl) (by kernel_rfl) fun ls t h ho b hb => ?_
  unfold y114 at h
  split at h
  · rename_i u5 u0 u6 u1 u4
    cases h
    obtain rfl := bld_eq hb
    exact ⟨Nat.le_of_ble_eq_true (by kernel_rfl), _, _, G_DefinitionWithin_vc u5 u0 u6 u1 u4 _ (ok_some ho)⟩
  · cases h
theorem sp_44_ok {sp : Specs} (h : SpecsOK Tryz.prog sp) : SpecsOK Tryz.prog (sp_44 sp) := addK_ok G_DefinitionWithin_ok h
def k_G_Definition : List SV := [.a [.d, .r (.floats .f32 [])], .c (.d)]
def y63 (u10 : Int) (u7 : List Nat) (u4 : Int) : Option (Int × Int × Int) :=
  if ((val (G_open u10 u7 (0 : Int) (0 : Int))).1 != (0 : Int)) = true then
   Option.bind (G_open u10 u7 (0 : Int) (0 : Int)) fun r0 =>
   Option.bind (y40 u4) fun r1 =>
   Option.bind (y18 [r0.1, r1]) fun r2 =>
   if (r2 != (0 : Int)) = true then
    some (((0 : Int), (0 : Int), r2))
   else
    none   else
   Option.bind (G_open u10 u7 (0 : Int) (0 : Int)) fun r0 =>
   Option.bind (y40 u4) fun r1 =>
   Option.bind (y18 [(0 : Int), r1]) fun r3 =>
   if (r3 != (0 : Int)) = true then
    some (((0 : Int), (0 : Int), r3))
   else
    Option.bind (y37 u10 u7 (0 : Int) (0 : Int) r0.2.1 r0.2.2 u4) fun r4 =>
    if (0 : Int) ≤ (0 : Int) ∧ (0 : Int) < (↑(List.length r0.2.2) : Int) then
     if (0 : Nat) < List.length r0.2.2 then
      Option.bind (G_share r4.1 (List.getD (List.getD r0.2.2 (0 : Nat) []) (0 : Nat) (0 : Int))) fun r5 =>
      some (r5.1, r5.2.1, r5.2.2)
     else none
    else none
def g_G_Definition : List Lf → Option GT
  | [.d (.i .i64 u10), .r (.floats .f32 u7), .d (.i .i64 u4)] => some (.leaf (ok (y63 u10 u7 u4)) [.s [.d (.i .i64 ((val (y63 u10 u7 u4)).1)), .d (.i .i64 ((val (y63 u10 u7 u4)).2.1))], .c (.d (.i .i64 ((val (y63 u10 u7 u4)).2.2)))])
  | _ => none
abbrev sp_43 : Specs → Specs := addK 43 true (pureT k_G_Definition g_G_Definition)
set_option maxRecDepth 100000 in
def G_Definition_t (u10 : Int) (u7 : List Nat) (u4 : Int) : T (Int × Int × Int) :=
 .brB ((val (G_open u10 u7 (0 : Int) (0 : Int))).1 != (0 : Int))
  (.call (G_open u10 u7 (0 : Int) (0 : Int)) fun r0 =>
  .call (y40 u4) fun r1 =>
  .call (y18 [r0.1, r1]) fun r2 =>
  .brB (r2 != (0 : Int))
  (.obT
  (.obT
  (.rc ((((0 : Int), (0 : Int), r2))))))
  (.bad (fun r => False)))
  (.call (G_open u10 u7 (0 : Int) (0 : Int)) fun r0 =>
  .call (y40 u4) fun r1 =>
  .call (y18 [(0 : Int), r1]) fun r3 =>
  .brB (r3 != (0 : Int))
  (.obT
  (.obT
  (.rc ((((0 : Int), (0 : Int), r3))))))
  (.call (y37 u10 u7 (0 : Int) (0 : Int) r0.2.1 r0.2.2 u4) fun r4 =>
  .obP ((0 : Int) ≤ (0 : Int) ∧ (0 : Int) < (↑(List.length r0.2.2) : Int))
  (.obP ((0 : Nat) < List.length r0.2.2)
  (.call (G_share r4.1 (List.getD (List.getD r0.2.2 (0 : Nat) []) (0 : Nat) (0 : Int))) fun r5 =>
  .obT
  (.obT
  (.rc ((r5.1, r5.2.1, r5.2.2))))))))
set_option maxRecDepth 100000 in
theorem G_Definition_vc (u10 : Int) (u7 : List Nat) (u4 : Int) (r : Int × Int × Int) (h : Option.bind (y63 u10 u7 u4) some = some r) : runT Tryz.f43 ((sp_84 (sp_77 (sp_76 (sp_89 (sp_86 sp0)))))) (fun _ _ _ => none) (bldD k_G_Definition [.d (.i .i64 u10), .r (.floats .f32 u7), .d (.i .i64 u4)]) [.s [.d (.i .i64 r.1), .d (.i .i64 r.2.1)], .c (.d (.i .i64 r.2.2))] :=
  T.vc (t := G_Definition_t u10 u7 u4) (by kernel_rfl) (by kernel_rfl) h
set_option maxRecDepth 100000 in
theorem G_Definition_ok : SpecOK Tryz.prog 43 true (pureT k_G_Definition g_G_Definition) := by
  refine pureT_ok (sp := (sp_84 (sp_77 (sp_76 (sp_89 (sp_86 sp0)))))) (fn := Tryz.f43) (body := bodyOf Tryz.f43) mixed (sp_84_ok (sp_77_ok (sp_76_ok (sp_89_ok (sp_86_ok sp0_ok))))) Tryz.func43 (by kernel_rfl) (by kernel_rfl) fun ls t h ho b hb => ?_
  unfold g_G_Definition at h
  split at h
  · rename_i u10 u7 u4
    cases h
    obtain rfl := bld_eq hb
    exact ⟨Nat.le_of_ble_eq_true (by kernel_rfl), _, _, G_Definition_vc u10 u7 u4 _ (ok_some ho)⟩
  · cases h
theorem sp_43_ok {sp : Specs} (h : SpecsOK Tryz.prog sp) : SpecsOK Tryz.prog (sp_43 sp) := addK_ok G_Definition_ok h
def k_G_Transfer : List SV := [.a [.d, .r (.floats .f32 [])], .c (.d)]
def y115 (u10 : Int) (u7 : List Nat) (u35 : Int) : Option (Int × Int × Int) :=
  if ((val (G_openBlock u10 u7 u35)).1 != (0 : Int)) = true then
   Option.bind (G_openBlock u10 u7 u35) fun r0 =>
   if (r0.2.1 != (0 : Int)) = true then
    some (((0 : Int), (0 : Int), r0.2.1))
   else
    none   else
   Option.bind (G_openBlock u10 u7 u35) fun r0 =>
   if (r0.2.1 != (0 : Int)) = true then
    some (((0 : Int), (0 : Int), r0.2.1))
   else
    if (0 : Int) ≤ (0 : Int) ∧ (0 : Int) < (↑(List.length r0.2.2.2) : Int) then
     if (0 : Nat) < List.length r0.2.2.2 then
      if List.getD (List.getD r0.2.2.2 (0 : Nat) []) (0 : Nat) (0 : Int) > (1000000000 : Int) then
       some (((0 : Int), (0 : Int), (8 : Int)))
      else
       Option.bind (y95 u10 u7 (0 : Int) (0 : Int) r0.2.2.1 r0.2.2.2 u35) fun r1 =>
       Option.bind (G_share (IntKind.wrap .i64 (IntKind.wrap .i64 (r1.1 * r1.1) + IntKind.wrap .i64 (r1.2 * r1.2))) (IntKind.wrap .i64 (List.getD (List.getD r0.2.2.2 (0 : Nat) []) (0 : Nat) (0 : Int) * List.getD (List.getD r0.2.2.2 (0 : Nat) []) (0 : Nat) (0 : Int)))) fun r2 =>
       some (r2.1, r2.2.1, r2.2.2)
     else none
    else none
def g_G_Transfer : List Lf → Option GT
  | [.d (.i .i64 u10), .r (.floats .f32 u7), .d (.i .i64 u35)] => some (.leaf (ok (y115 u10 u7 u35)) [.s [.d (.i .i64 ((val (y115 u10 u7 u35)).1)), .d (.i .i64 ((val (y115 u10 u7 u35)).2.1))], .c (.d (.i .i64 ((val (y115 u10 u7 u35)).2.2)))])
  | _ => none
abbrev sp_34 : Specs → Specs := addK 34 true (pureT k_G_Transfer g_G_Transfer)
set_option maxRecDepth 100000 in
def G_Transfer_t (u10 : Int) (u7 : List Nat) (u35 : Int) : T (Int × Int × Int) :=
 .brB ((val (G_openBlock u10 u7 u35)).1 != (0 : Int))
  (.call (G_openBlock u10 u7 u35) fun r0 =>
  .brB (r0.2.1 != (0 : Int))
  (.obT
  (.obT
  (.rc ((((0 : Int), (0 : Int), r0.2.1))))))
  (.bad (fun r => False)))
  (.call (G_openBlock u10 u7 u35) fun r0 =>
  .brB (r0.2.1 != (0 : Int))
  (.obT
  (.obT
  (.rc ((((0 : Int), (0 : Int), r0.2.1))))))
  (.obP ((0 : Int) ≤ (0 : Int) ∧ (0 : Int) < (↑(List.length r0.2.2.2) : Int))
  (.obP ((0 : Nat) < List.length r0.2.2.2)
  (.brP (List.getD (List.getD r0.2.2.2 (0 : Nat) []) (0 : Nat) (0 : Int) > (1000000000 : Int))
  (.obT
  (.obT
  (.rc ((((0 : Int), (0 : Int), (8 : Int)))))))
  (.call (y95 u10 u7 (0 : Int) (0 : Int) r0.2.2.1 r0.2.2.2 u35) fun r1 =>
  .call (G_share (IntKind.wrap .i64 (IntKind.wrap .i64 (r1.1 * r1.1) + IntKind.wrap .i64 (r1.2 * r1.2))) (IntKind.wrap .i64 (List.getD (List.getD r0.2.2.2 (0 : Nat) []) (0 : Nat) (0 : Int) * List.getD (List.getD r0.2.2.2 (0 : Nat) []) (0 : Nat) (0 : Int)))) fun r2 =>
  .obT
  (.obT
  (.rc ((r2.1, r2.2.1, r2.2.2)))))))))
set_option maxRecDepth 100000 in
theorem G_Transfer_vc (u10 : Int) (u7 : List Nat) (u35 : Int) (r : Int × Int × Int) (h : Option.bind (y115 u10 u7 u35) some = some r) : runT Tryz.f34 ((sp_91 (sp_92 (sp_86 sp0)))) (fun _ _ _ => none) (bldD k_G_Transfer [.d (.i .i64 u10), .r (.floats .f32 u7), .d (.i .i64 u35)]) [.s [.d (.i .i64 r.1), .d (.i .i64 r.2.1)], .c (.d (.i .i64 r.2.2))] :=
  T.vc (t := G_Transfer_t u10 u7 u35) (by kernel_rfl) (by kernel_rfl) h
set_option maxRecDepth 100000 in
theorem G_Transfer_ok : SpecOK Tryz.prog 34 true (pureT k_G_Transfer g_G_Transfer) := by
  refine pureT_ok (sp := (sp_91 (sp_92 (sp_86 sp0)))) (fn := Tryz.f34) (body := bodyOf Tryz.f34) mixed (sp_91_ok (sp_92_ok (sp_86_ok sp0_ok))) Tryz.func34 (by kernel_rfl) (by kernel_rfl) fun ls t h ho b hb => ?_
  unfold g_G_Transfer at h
  split at h
  · rename_i u10 u7 u35
    cases h
    obtain rfl := bld_eq hb
    exact ⟨Nat.le_of_ble_eq_true (by kernel_rfl), _, _, G_Transfer_vc u10 u7 u35 _ (ok_some ho)⟩
  · cases h
theorem sp_34_ok {sp : Specs} (h : SpecsOK Tryz.prog sp) : SpecsOK Tryz.prog (sp_34 sp) := addK_ok G_Transfer_ok h
end Go.Sh
end

section
namespace Go.Sh
open Go Go.Proofs Go.RowKit Go.Sx Go.Sx06 Ieee Go.Fl
def seg (zs : List (List Int)) (a b : Nat) : List (List Int) := (zs.drop a).take (b - a)
theorem seg_ok {zs : List (List Int)} (h : ∀ r ∈ zs, okZ r) (a b : Nat) : ∀ r ∈ seg zs a b, okZ r := fun r hr => h r (List.mem_of_mem_drop (List.mem_of_mem_take hr))
theorem seg_len (zs : List (List Int)) (a b : Nat) : (seg zs a b).length ≤ zs.length := by unfold seg; simp; omega
theorem seg_end (zs : List (List Int)) (a : Nat) : seg zs a zs.length = zs.drop a := by
  unfold seg
  rw [List.take_of_length_le (by simp)]
theorem seg_self (zs : List (List Int)) (a : Nat) : seg zs a a = [] := by unfold seg; simp
theorem seg_succ {zs : List (List Int)} {a k : Nat} (h : a + k < zs.length) : seg zs a (a + k + 1) = seg zs a (a + k) ++ [zs.getD (a + k) []] := by
  unfold seg
  have e1 : a + k + 1 - a = k + 1 := by omega
  have e2 : a + k - a = k := by omega
  rw [e1, e2, List.take_succ_eq_append_getElem (by simp; omega)]
  simp [List.getD, h]
theorem take_snoc {L : List (List Int)} {i : Nat} (hi : i < L.length) : L.take (i + 1) = L.take i ++ [L.getD i []] := by
  rw [List.take_succ_eq_append_getElem hi]
  simp [List.getD, hi]
theorem sLo_snoc (a : List (List Int)) (r : List Int) : sLo (a ++ [r]) = sLo a + r.getD 0 0 := by rw [sLo_append]; simp [sLo]
theorem sHi_snoc (a : List (List Int)) (r : List Int) : sHi (a ++ [r]) = sHi a + r.getD 1 0 := by rw [sHi_append]; simp [sHi]
theorem energyG_eq {zs ss : List (List Int)} {rate noise tail : Int} {l : List Nat} {a b : Nat} (hz : ∀ r ∈ zs, okZ r) (hl : zs.length ≤ 1024) (hab : a ≤ b) (hb : b ≤ zs.length) :
    y49 rate l noise tail zs ss (a : Int) (b : Int) = some (sLo (seg zs a b), sHi (seg zs a b)) := by
  unfold y49
  simp only [Option.getD_some]
  rw [if_pos (by omega)]
  have hsl : (seg zs a b).length = b - a := by unfold seg; simp; omega
  have hok := seg_ok hz a b
  have hit : iter (y33 zs (a : Int) (b : Int)) big (0, 0, 0) = some (sLo (seg zs a b), sHi (seg zs a b)) := by
    have h := iter_upto (body := y33 zs (a : Int) (b : Int)) (fun i => ((i : Int), sLo ((seg zs a b).take i), sHi ((seg zs a b).take i))) (k := (seg zs a b).length) (y := (sLo (seg zs a b), sHi (seg zs a b)))
      (fun i hi => by
        have hr := s_range (zs := (seg zs a b).take i) fun r hr => hok r (List.mem_of_mem_take hr)
        have hlen : (((seg zs a b).take i).length : Int) ≤ 1024 := by rw [List.length_take]; omega
        have ho := hok ((seg zs a b).getD i []) (by simp [List.getD, hi])
        unfold okZ at ho
        unfold y33 G_plus
        simp only [Option.getD_some, Int.toNat_natCast]
        change (if (i : Int) < ((seg zs a b).length : Int) then _ else _) = _
        rw [if_pos (by omega), if_pos (by show (0 : Int) ≤ i ∧ (i : Int) < ((seg zs a b).length : Int); omega), if_pos (by exact hi), bind_some', take_snoc hi, sLo_snoc, sHi_snoc]
        change some (Sum.inl (IntKind.wrap .i64 ((i : Int) + 1), IntKind.wrap .i64 (sLo ((seg zs a b).take i) + ((seg zs a b).getD i []).getD 0 0), IntKind.wrap .i64 (sHi ((seg zs a b).take i) + ((seg zs a b).getD i []).getD 1 0))) = _
        rw [wr64 (x := (i : Int) + 1) (by omega), wr64 (by omega), wr64 (by omega)]
        rfl)
      (by
        unfold y33
        simp only [Option.getD_some, Int.toNat_natCast]
        change (if ((seg zs a b).length : Int) < ((seg zs a b).length : Int) then _ else _) = _
        rw [if_neg (by omega), List.take_length]) (by omega)
    simpa [sLo, sHi] using h
  rw [hit]
  rfl
theorem squareR_eq {rate noise tail : Int} {l : List Nat} {t : Nat} (ht : t < l.length) (hs : ∀ b ∈ l, se b = 0) (hn : 0 ≤ noise ∧ noise ≤ 32767) :
    y55 rate l noise tail (t : Int) = some (((zsO noise l).getD t []).getD 0 0, ((zsO noise l).getD t []).getD 1 0) := by
  unfold y55
  have hw := se_whole (hs (l.getD t 0) (by simp [List.getD, ht]))
  have ha := az_range (M := 32767) hw.2
  have hg : (zsO noise l).getD t [] = sqP noise (fi (l.getD t 0)) := by simp [zsO, List.getD, ht]
  rw [if_pos (by omega), Int.toNat_natCast, if_pos ht, if_pos hw.1, show f2i FloatKind.f32 (l.getD t 0) = fi (l.getD t 0) from rfl, sizeB_eq (by unfold inJ; omega), bind_some', sq_low ha hn, sq_high ha hn, hg]
  rfl
theorem energyR_eq {rate noise tail : Int} {l : List Nat} {a b : Nat} (hs : ∀ x ∈ l, se x = 0) (hl : l.length ≤ 1024) (hn : 0 ≤ noise ∧ noise ≤ 32767) (ht : 0 ≤ tail ∧ tail ≤ 1000000000000) (hab : a ≤ b) (hb : b ≤ l.length) :
    y16 rate l noise tail (a : Int) (b : Int) = some (sLo (seg (zsO noise l) a b), sHi (seg (zsO noise l) a b) + if b = l.length then tail else 0) := by
  have hzl := zsO_len noise l
  have hz := zsO_ok hn hs
  have hok := seg_ok hz a b
  unfold y16
  have h := iter_upto (body := y24 rate l noise tail (b : Int)) (fun i => (((a + i : Nat) : Int), sLo (seg (zsO noise l) a (a + i)), sHi (seg (zsO noise l) a (a + i)))) (k := b - a) (y := (sLo (seg (zsO noise l) a b), sHi (seg (zsO noise l) a b)))
    (fun i hi => by
      have hr := s_range (seg_ok hz a (a + i))
      have hlen : ((seg (zsO noise l) a (a + i)).length : Int) ≤ 1024 := by have := seg_len (zsO noise l) a (a + i); omega
      have ho := hz ((zsO noise l).getD (a + i) []) (by simp [List.getD, show a + i < (zsO noise l).length by omega])
      unfold okZ at ho
      unfold y24
      dsimp only
      rw [if_pos (by omega), squareR_eq (by omega) hs hn, bind_some']
      rw [show a + (i + 1) = a + i + 1 by omega, seg_succ (by omega), sLo_snoc, sHi_snoc, wr64 (x := (((a + i : Nat) : Int)) + 1) (by omega), wr64 (by omega), wr64 (by omega)]
      rfl)
    (by
      unfold y24
      dsimp only
      have e : a + (b - a) = b := by omega
      rw [if_neg (by omega), e]) (by omega)
  have h0 : iter (y24 rate l noise tail (b : Int)) big ((a : Int), 0, 0) = some (sLo (seg (zsO noise l) a b), sHi (seg (zsO noise l) a b)) := by
    simpa [sLo, sHi, seg_self] using h
  rw [h0, bind_some']
  unfold y52
  have hr := s_range hok
  have hlen : ((seg (zsO noise l) a b).length : Int) ≤ 1024 := by have := seg_len (zsO noise l) a b; omega
  by_cases he : b = l.length
  · rw [if_pos (show ((b : Int) == (l.length : Int)) = true by rw [he]; simp), if_pos he]
    rw [wr64 (by dsimp only; omega)]
  · rw [if_neg (show ¬ ((b : Int) == (l.length : Int)) = true by simp; omega), if_neg he, Int.add_zero]
theorem sumR_eq {rate noise tail : Int} {l : List Nat} {a : Nat} (hs : ∀ x ∈ l, se x = 0) (hl : l.length ≤ 1024) (hn : 0 ≤ noise ∧ noise ≤ 32767) (ht : 0 ≤ tail ∧ tail ≤ 1000000000000) (ha : a ≤ l.length) :
    R05_sum rate l noise tail (a : Int) = some (sLo ((zsO noise l).drop a), sHi ((zsO noise l).drop a) + tail) := by
  unfold R05_sum
  rw [energyR_eq hs hl hn ht ha (Nat.le_refl _), bind_some', if_pos rfl]
  have := seg_end (zsO noise l) a
  rw [zsO_len] at this
  rw [this]
def nAt (rate time : Int) : Int := (time * rate + 999999) / 1000000
theorem time_rate {rate time : Int} (hr : 8000 ≤ rate ∧ rate ≤ 192000) (ht : 0 ≤ time ∧ time ≤ 1000000) : 0 ≤ time * rate ∧ time * rate ≤ 192000000000 :=
  ⟨Int.mul_nonneg ht.1 (by omega), by have := Int.mul_le_mul ht.2 hr.2 (by omega) (by omega); omega⟩
theorem nAt_range {rate time : Int} (hr : 8000 ≤ rate ∧ rate ≤ 192000) (ht : 0 ≤ time ∧ time ≤ 1000000) : 0 ≤ nAt rate time ∧ nAt rate time ≤ 192000 := by
  have h := time_rate hr ht
  unfold nAt
  omega
theorem numberAt_eq {rate time : Int} (hr : 8000 ≤ rate ∧ rate ≤ 192000) (ht : 0 ≤ time ∧ time ≤ 1000000) : y109 rate time = some (nAt rate time) := by
  have h := time_rate hr ht
  unfold y109 nAt
  rw [wr64 (by omega), ceilG_eq (by omega) h.1 (by omega), bind_some', show time * rate + 1000000 - 1 = time * rate + 999999 by omega]
theorem timeErrG_eq (time : Int) : y40 time = some (if 0 ≤ time ∧ time ≤ 1000000 then 0 else 2) := by
  unfold y40
  rw [withinG_eq, bind_some', unless_eq, bind_some']
  by_cases h : 0 ≤ time ∧ time ≤ 1000000 <;> simp [h]
theorem timeErrR_eq (time : Int) : y76 time = some (if 0 ≤ time ∧ time ≤ 1000000 then 0 else 2) := by
  unfold y76
  rw [withinB_eq, bind_some']
  by_cases h : 0 ≤ time ∧ time ≤ 1000000
  · rw [nd_t h, if_neg Bool.false_ne_true, if_pos h]
  · rw [nd_f h, if_pos rfl, if_neg h]
theorem sampleAtR_eq {rate time : Int} (hr : 8000 ≤ rate ∧ rate ≤ 192000) (ht : 0 ≤ time ∧ time ≤ 1000000) : y83 rate time = some (nAt rate time, 0) := by
  have h := time_rate hr ht
  unfold y83 y75
  rw [withinB_eq, bind_some', bind_some', nd_t hr, if_neg Bool.false_ne_true, timeErrR_eq, if_pos ht, bind_some', if_neg (by simp), wr64 (by omega), ceilB_eq (by omega) (by omega), bind_some', ceil_pos (by omega), show time * rate + 1000000 - 1 = time * rate + 999999 by omega]
  rfl
def cutN (rate time : Int) (n : Nat) : Nat := min n (nAt rate time).toNat
theorem cutN_le (rate time : Int) (n : Nat) : cutN rate time n ≤ n := Nat.min_le_left _ _
theorem cut_min {rate time : Int} (n : Nat) (hr : 8000 ≤ rate ∧ rate ≤ 192000) (ht : 0 ≤ time ∧ time ≤ 1000000) : (if nAt rate time < (n : Int) then nAt rate time else (n : Int)) = (cutN rate time n : Int) ∧ (if (n : Int) < nAt rate time then (n : Int) else nAt rate time) = (cutN rate time n : Int) := by
  have := nAt_range hr ht
  unfold cutN
  constructor <;> split <;> omega
theorem cutG_eq {rate noise tail time : Int} {l : List Nat} {zs ss : List (List Int)} (hr : 8000 ≤ rate ∧ rate ≤ 192000) (ht : 0 ≤ time ∧ time ≤ 1000000) : y53 rate l noise tail zs ss time = some (cutN rate time zs.length : Int) := by
  unfold y53
  rw [numberAt_eq hr ht, bind_some', (cut_min zs.length hr ht).1]
theorem earlyG_eq {rate noise tail time : Int} {l : List Nat} {zs ss : List (List Int)} (hz : ∀ r ∈ zs, okZ r) (hl : zs.length ≤ 1024) (hr : 8000 ≤ rate ∧ rate ≤ 192000) (ht : 0 ≤ time ∧ time ≤ 1000000) :
    y37 rate l noise tail zs ss time = some (sLo (zs.take (cutN rate time zs.length)), sHi (zs.take (cutN rate time zs.length))) := by
  unfold y37
  have h := energyG_eq (rate := rate) (noise := noise) (tail := tail) (l := l) (ss := ss) (a := 0) hz hl (Nat.zero_le _) (cutN_le rate time zs.length)
  have e : seg zs 0 (cutN rate time zs.length) = zs.take (cutN rate time zs.length) := by unfold seg; simp
  rw [e] at h
  have h : y49 rate l noise tail zs ss 0 (cutN rate time zs.length : Int) = _ := h
  rw [cutG_eq hr ht, bind_some', h]
  rfl
theorem lateG_eq {rate noise tail time T : Int} {l : List Nat} {zs : List (List Int)} (hr : 8000 ≤ rate ∧ rate ≤ 192000) (ht : 0 ≤ time ∧ time ≤ 1000000) :
    y54 rate l noise tail zs (ssO zs T) time = some (sLo (zs.drop (cutN rate time zs.length)), sHi (zs.drop (cutN rate time zs.length)) + T) := by
  have hc := cutN_le rate time zs.length
  unfold y54
  rw [cutG_eq hr ht, bind_some', ssO_len, if_pos (by omega), Int.toNat_natCast, if_pos (by omega), ssO_get hc]
  rfl
theorem partsR_eq {rate noise tail time : Int} {l : List Nat} (hs : ∀ x ∈ l, se x = 0) (hl : l.length ≤ 1024) (hn : 0 ≤ noise ∧ noise ≤ 32767) (htl : 0 ≤ tail ∧ tail ≤ 1000000000000) (hr : 8000 ≤ rate ∧ rate ≤ 192000) (ht : 0 ≤ time ∧ time ≤ 1000000) :
    y66 rate l noise tail time = some (sLo ((zsO noise l).take (cutN rate time l.length)), sHi ((zsO noise l).take (cutN rate time l.length)), sLo ((zsO noise l).drop (cutN rate time l.length)), sHi ((zsO noise l).drop (cutN rate time l.length)) + tail) := by
  have hc := cutN_le rate time l.length
  have hzl := zsO_len noise l
  have hz := zsO_ok hn hs
  have hE := energyR_eq (rate := rate) (tail := tail) (a := 0) hs hl hn htl (Nat.zero_le _) hc
  have hL := energyR_eq (rate := rate) (tail := tail) hs hl hn htl hc (Nat.le_refl _)
  have e : seg (zsO noise l) 0 (cutN rate time l.length) = (zsO noise l).take (cutN rate time l.length) := by unfold seg; simp
  have e2 := seg_end (zsO noise l) (cutN rate time l.length)
  rw [hzl] at e2
  rw [e] at hE
  rw [e2, if_pos rfl] at hL
  unfold y66
  rw [sampleAtR_eq hr ht, bind_some']
  dsimp only
  rw [(cut_min l.length hr ht).2]
  have hE : y16 rate l noise tail 0 (cutN rate time l.length : Int) = _ := hE
  rw [hE, bind_some']
  have hrg := s_range (zs := (zsO noise l).take (cutN rate time l.length)) fun r hr => hz r (List.mem_of_mem_take hr)
  have hlen : (((zsO noise l).take (cutN rate time l.length)).length : Int) ≤ 1024 := by rw [List.length_take]; omega
  by_cases hce : cutN rate time l.length = l.length
  · rw [if_pos (show ((cutN rate time l.length : Int) == (l.length : Int)) = true by rw [hce]; simp), if_pos hce, hL, bind_some']
    dsimp only
    rw [show sHi ((zsO noise l).take (cutN rate time l.length)) + tail - tail = sHi ((zsO noise l).take (cutN rate time l.length)) by omega, wr64 (by omega)]
  · rw [if_neg (show ¬ ((cutN rate time l.length : Int) == (l.length : Int)) = true by simp; omega), if_neg hce, hL, bind_some', Int.add_zero]
def shS (num den : Int) : Int × Int × Int :=
  if den = 0 then (0, 0, 11) else if num / (Int.gcd num den : Int) > 1000000000 ∨ den / (Int.gcd num den : Int) > 1000000000 then (0, 0, 8) else (num / (Int.gcd num den : Int), den / (Int.gcd num den : Int), 0)
theorem shareG_eq {num den : Int} (hn : 0 ≤ num) (hn' : num ≤ 9223372036854775807) (hd : 0 ≤ den) (hd' : den ≤ 9223372036854775807) : G_share num den = some (shS num den) := by
  unfold G_share shS
  by_cases h0 : den = 0
  · rw [if_pos (show (den == 0) = true by simpa using h0), if_pos h0]
  · rw [if_neg (show ¬ (den == 0) = true by simpa using h0), if_neg h0]
    have key : ∀ (n : Nat) (a b : Int) (N : Nat), 0 ≤ a → 0 ≤ b → b.natAbs ≤ n → n < N → iter y92 N (a, b) = some (Int.gcd a b : Int) := by
      intro n
      induction n with
      | zero =>
        intro a b N ha hb hbn hN
        obtain ⟨M, rfl⟩ : ∃ M, N = M + 1 := ⟨N - 1, by omega⟩
        have : b = 0 := by omega
        subst this
        unfold iter y92
        rw [if_neg (by simp)]
        simp [Int.gcd]
        omega
      | succ n ih =>
        intro a b N ha hb hbn hN
        obtain ⟨M, rfl⟩ : ∃ M, N = M + 1 := ⟨N - 1, by omega⟩
        by_cases hb0 : b = 0
        · subst hb0
          unfold iter y92
          rw [if_neg (by simp)]
          simp [Int.gcd]
          omega
        · unfold iter y92
          rw [if_pos (show (b != 0) = true by simpa using hb0), if_pos hb0]
          dsimp only
          have h1 := tmod_abs a b hb0
          have h2 : 0 ≤ a.tmod b := Int.tmod_nonneg b ha
          exact (ih b (a.tmod b) M hb h2 (by omega) (by omega)).trans (by rw [gcd_step])
    rw [key den.natAbs num den big hn hd (Nat.le_refl _) (by unfold big; omega), bind_some']
    have hg : 0 < Int.gcd num den := Int.gcd_pos_of_ne_zero_right _ h0
    unfold y135
    have d1 : 0 ≤ num / (Int.gcd num den : Int) ∧ num / (Int.gcd num den : Int) ≤ num := ⟨Int.ediv_nonneg hn (by omega), Int.ediv_le_self _ hn⟩
    have d2 : 0 ≤ den / (Int.gcd num den : Int) ∧ den / (Int.gcd num den : Int) ≤ den := ⟨Int.ediv_nonneg hd (by omega), Int.ediv_le_self _ hd⟩
    rw [if_pos (by omega), if_pos (by omega), Int.tdiv_eq_ediv_of_nonneg hn, Int.tdiv_eq_ediv_of_nonneg hd, wr64 (by omega), wr64 (by omega)]
    by_cases c1 : num / (Int.gcd num den : Int) > 1000000000
    · rw [if_pos c1, if_pos (.inl c1)]
    · by_cases c2 : den / (Int.gcd num den : Int) > 1000000000
      · rw [if_neg c1, if_pos c2, if_pos (.inr c2)]
      · rw [if_neg c1, if_neg c2, if_neg (by omega)]
theorem shareR_eq {num den : Int} (hn : 0 ≤ num) (hn' : num ≤ 9223372036854775807) (hd : 0 ≤ den) (hd' : den ≤ 9223372036854775807) : y100 num den = some (shS num den) := by
  unfold y100 shS
  by_cases h0 : den = 0
  · rw [if_pos (show (den == 0) = true by simpa using h0), if_pos h0]
  · rw [if_neg (show ¬ (den == 0) = true by simpa using h0), if_neg h0, lowestR_eq (by unfold inJ; omega) (by unfold inJ; omega) h0, bind_some']
    unfold lowS
    rw [if_neg (show ¬ den < 0 by omega), Int.tdiv_eq_ediv_of_nonneg hn, Int.tdiv_eq_ediv_of_nonneg hd]
    dsimp only
    by_cases c1 : num / (Int.gcd num den : Int) > 1000000000
    · rw [if_pos c1, if_pos (.inl c1)]
    · by_cases c2 : den / (Int.gcd num den : Int) > 1000000000
      · rw [if_neg c1, if_pos c2, if_pos (.inr c2)]
      · rw [if_neg c1, if_neg c2, if_neg (by omega)]
end Go.Sh
end

section
namespace Go.Sh
open Go Go.Proofs Go.RowKit Go.Sx Go.Sx06 Ieee Go.Fl
end Go.Sh
end

section
namespace Go.Sh
open Go Go.Proofs Go.RowKit Go.Sx Go.Sx06 Ieee Go.Fl
structure ZOK (zs : List (List Int)) (T : Int) : Prop where
  len : zs.length ≤ 1024
  ok : ∀ r ∈ zs, okZ r
  tail : 0 ≤ T ∧ T ≤ 1000000000000
section
variable {zs : List (List Int)} {T f : Int}
theorem ZOK.at_ (h : ZOK zs T) {i : Nat} (hi : i ≤ zs.length) : 0 ≤ sLo (zs.drop i) ∧ sLo (zs.drop i) ≤ sHi (zs.drop i) + T ∧ sHi (zs.drop i) + T ≤ 6000000000000 := by
  have := s_range (zs := zs.drop i) fun r hr => h.ok r (List.mem_of_mem_drop hr)
  have hl := h.len
  have ht := h.tail
  have hd : ((zs.drop i).length : Int) ≤ 1024 := by rw [List.length_drop]; omega
  omega
theorem ZOK.all (h : ZOK zs T) : 0 ≤ sLo zs ∧ sLo zs ≤ sHi zs + T ∧ sHi zs + T ≤ 6000000000000 := by
  have := h.at_ (i := 0) (Nat.zero_le _)
  simpa using this
theorem ss_get {i : Nat} (hi : i ≤ zs.length) : ((ssO zs T).getD i []).getD 0 0 = sLo (zs.drop i) ∧ ((ssO zs T).getD i []).getD 1 0 = sHi (zs.drop i) + T := by
  rw [ssO_get hi]
  exact ⟨rfl, rfl⟩
theorem ss_zero : ((ssO zs T).getD 0 []).getD 0 0 = sLo zs ∧ ((ssO zs T).getD 0 []).getD 1 0 = sHi zs + T := by
  have := ss_get (zs := zs) (T := T) (i := 0) (Nat.zero_le _)
  simpa using this
variable {rate noise tl : Int} {l : List Nat}
end
end Go.Sh
end

section
namespace Go.Sh
open Go Go.Proofs Go.RowKit Go.Sx
set_option linter.unusedVariables false
def k_G_SumsWithin : List SV := [.a [.d, .r (.floats .f32 []), .d, .d]]
def y6 (u5 : Int) (u0 : List Nat) (u6 : Int) (u1 : Int) : Option (List (List Int) × Int) :=
  if ((val (G_open u5 u0 u6 u1)).1 != (0 : Int)) = true then
   Option.bind (G_open u5 u0 u6 u1) fun r0 =>
   if (r0.1 != (0 : Int)) = true then
    some ([], r0.1)
   else
    none   else
   Option.bind (G_open u5 u0 u6 u1) fun r0 =>
   if (0 : Int) ≤ (↑(List.length r0.2.1) : Int) ∧ (↑(List.length r0.2.1) : Int) ≤ (↑(List.length r0.2.1) : Int) ∧ (↑(List.length r0.2.1) : Int) ≤ (↑(List.length r0.2.2) : Int) then
    some ((List.take (Int.toNat (↑(List.length r0.2.1) : Int) - (0 : Nat)) (List.drop (0 : Nat) r0.2.2), (0 : Int)))
   else none
def g_G_SumsWithin : List Lf → Option GT
  | [.d (.i .i64 u5), .r (.floats .f32 u0), .d (.i .i64 u6), .d (.i .i64 u1)] => some (.leaf (ok (y6 u5 u0 u6 u1)) [.c (.rrow (.recs 2 ((val (y6 u5 u0 u6 u1)).1))), .c (.d (.i .i64 ((val (y6 u5 u0 u6 u1)).2)))])
  | _ => none
abbrev sp_54 : Specs → Specs := addK 54 true (pureT k_G_SumsWithin g_G_SumsWithin)
set_option maxRecDepth 100000 in
theorem G_SumsWithin_vc (u5 : Int) (u0 : List Nat) (u6 : Int) (u1 : Int) (r : List (List Int) × Int) (h : Option.bind (y6 u5 u0 u6 u1) some = some r) : runT Tryz.f54 ((sp_67 sp0)) (fun _ _ _ => none) (bldD k_G_SumsWithin [.d (.i .i64 u5), .r (.floats .f32 u0), .d (.i .i64 u6), .d (.i .i64 u1)]) [.c (.rrow (.recs 2 r.1)), .c (.d (.i .i64 r.2))] := by
  refine Eq.mp (by kernel_rfl : (
 Br ((val (G_open u5 u0 u6 u1)).1 != (0 : Int))
   ((Ob (ok (G_open u5 u0 u6 u1)) ∧
 Br ((val (G_open u5 u0 u6 u1)).1 != (0 : Int))
   ((Ob (True) ∧
 (Ob (True) ∧
 (Ob (List.length r.1 = (0 : Nat)) ∧
 (Ob ((val (G_open u5 u0 u6 u1)).1 = r.2) ∧
 True)))))
   (False)))
   ((Ob (ok (G_open u5 u0 u6 u1)) ∧
 (Ob ((0 : Int) ≤ (↑(List.length (val (G_open u5 u0 u6 u1)).2.1) : Int) ∧ (↑(List.length (val (G_open u5 u0 u6 u1)).2.1) : Int) ≤ (↑(List.length (val (G_open u5 u0 u6 u1)).2.1) : Int) ∧ (↑(List.length (val (G_open u5 u0 u6 u1)).2.1) : Int) ≤ (↑(List.length (val (G_open u5 u0 u6 u1)).2.2) : Int)) ∧
 (Ob (True) ∧
 (Ob (True) ∧
 (Ob (List.take (Int.toNat (↑(List.length (val (G_open u5 u0 u6 u1)).2.1) : Int) - (0 : Nat)) (List.drop (0 : Nat) (val (G_open u5 u0 u6 u1)).2.2) = r.1) ∧
 (Ob ((0 : Int) = r.2) ∧
 True)))))))) = _) ?_
  refine br_b h (fun h => ?_) (fun h => ?_)
  · refine call_s h fun h => ?_
    refine br_b h (fun h => ?_) (fun h => ?_)
    · refine ob_t ?_
      refine ob_t ?_
      exact ret_s h (fun e => by subst e; exact (by repeat' (first | exact trivial | exact ⟨rfl⟩ | refine And.intro ?_ ?_)))
    · exact nomatch h
  · refine call_s h fun h => ?_
    refine ob_s h fun h => ?_
    refine ob_t ?_
    refine ob_t ?_
    exact ret_s h (fun e => by subst e; exact (by repeat' (first | exact trivial | exact ⟨rfl⟩ | refine And.intro ?_ ?_)))
set_option maxRecDepth 100000 in
theorem G_SumsWithin_ok : SpecOK Tryz.prog 54 true (pureT k_G_SumsWithin g_G_SumsWithin) := by
  refine pureT_ok (sp := (sp_67 sp0)) (fn := Tryz.f54) (body := bodyOf Tryz.f54) mixed (sp_67_ok sp0_ok) Tryz.func54 (by kernel_rfl) (by kernel_rfl) fun ls t h ho b hb => ?_
  unfold g_G_SumsWithin at h
  split at h
  · rename_i u5 u0 u6 u1
    cases h
    obtain rfl := bld_eq hb
    exact ⟨Nat.le_of_ble_eq_true (by kernel_rfl), _, _, G_SumsWithin_vc u5 u0 u6 u1 _ (ok_some ho)⟩
  · cases h
theorem sp_54_ok {sp : Specs} (h : SpecsOK Tryz.prog sp) : SpecsOK Tryz.prog (sp_54 sp) := addK_ok G_SumsWithin_ok h
def k_G_Sums : List SV := [.a [.d, .r (.floats .f32 [])]]
def G_Sums_b0 (r0 : List (List Int) × Int) (x0 : (Int × List Int)) : Option ((Int × List Int) ⊕ (List Int)) :=
  if x0.1 < (↑(List.length r0.1) : Int) then
   if (0 : Int) ≤ x0.1 ∧ x0.1 < (↑(List.length r0.1) : Int) then
    if Int.toNat x0.1 < List.length r0.1 then
     if (List.length x0.2 + List.length [List.getD (List.getD r0.1 (Int.toNat x0.1) []) (0 : Nat) (0 : Int)]) * (8 : Nat) ≤ (140737488355328 : Nat) ∧ List.length x0.2 + List.length [List.getD (List.getD r0.1 (Int.toNat x0.1) []) (0 : Nat) (0 : Int)] ≤ (9223372036854775807 : Nat) then
      some (.inl ((IntKind.wrap .i64 (x0.1 + (1 : Int)), x0.2 ++ [List.getD (List.getD r0.1 (Int.toNat x0.1) []) (0 : Nat) (0 : Int)])))
     else none
    else none
   else none
  else
   some (.inr x0.2)
def G_Sums_r0 (r0 : List (List Int) × Int) (u16 : List Int) : Option (List Int × Int) :=
  some (u16, r0.2)
def G_Sums (u10 : Int) (u7 : List Nat) : Option (List Int × Int) :=
  Option.bind (y6 u10 u7 (0 : Int) (0 : Int)) fun r0 =>
  Option.bind (iter (G_Sums_b0 r0) big (((0 : Int), []))) (G_Sums_r0 r0)
def g_G_Sums : List Lf → Option GT
  | [.d (.i .i64 u10), .r (.floats .f32 u7)] => some (.leaf (ok (G_Sums u10 u7)) [.c (.row 3 (.ints .i64 ((val (G_Sums u10 u7)).1))), .c (.d (.i .i64 ((val (G_Sums u10 u7)).2)))])
  | _ => none
abbrev sp_53 : Specs → Specs := addK 53 true (pureT k_G_Sums g_G_Sums)
set_option maxRecDepth 100000 in
theorem G_Sums_vc (u10 : Int) (u7 : List Nat) (r : List Int × Int) (h : Option.bind (G_Sums u10 u7) some = some r) : runT Tryz.f53 ((sp_54 sp0)) (fun gs id _ => match id with
 | 0 => some ⟨(Int × List Int) × Nat, fun z => ⟨[(5, .w (.c (.d (.i .i64 ((val (y6 u10 u7 (0 : Int) (0 : Int))).2))))), (6, .w (.c (.o 1))), (15, .w (.c (.o 2))), (16, .w (.c (.d (.i .i64 ((↑(List.length (val (y6 u10 u7 (0 : Int) (0 : Int))).1) : Int)))))), (17, .w (.c (.d (.i .i64 (Prod.fst (Prod.fst z))))))], [(1, .row 3 (.ints .i64 (Prod.snd (Prod.fst z)))), (2, .rrow (.recs 2 ((val (y6 u10 u7 (0 : Int) (0 : Int))).1)))], 3⟩, fun z => Option.bind (iter (G_Sums_b0 (val (y6 u10 u7 (0 : Int) (0 : Int)))) (Prod.snd z) (Prod.fst z)) (fun y0 => Option.bind (G_Sums_r0 (val (y6 u10 u7 (0 : Int) (0 : Int))) y0) some) = some r, fun z => Prod.snd z⟩
 | _ => none) (bldD k_G_Sums [.d (.i .i64 u10), .r (.floats .f32 u7)]) [.c (.row 3 (.ints .i64 r.1)), .c (.d (.i .i64 r.2))] := by
  refine Eq.mp (by kernel_rfl : (
 (Ob (ok (y6 u10 u7 (0 : Int) (0 : Int))) ∧
   ((∃ (v0 : (Int × List Int) × Nat), (Ob ((Option.bind (iter (G_Sums_b0 (val (y6 u10 u7 (0 : Int) (0 : Int)))) v0.2 v0.1) fun y0 => Option.bind (G_Sums_r0 (val (y6 u10 u7 (0 : Int) (0 : Int))) y0) some) = some r) ∧
 (Ob ((val (y6 u10 u7 (0 : Int) (0 : Int))).2 = (val (y6 u10 u7 (0 : Int) (0 : Int))).2) ∧
 (Ob ((↑(List.length (val (y6 u10 u7 (0 : Int) (0 : Int))).1) : Int) = (↑(List.length (val (y6 u10 u7 (0 : Int) (0 : Int))).1) : Int)) ∧
 (Ob ((0 : Int) = v0.1.1) ∧
 (Ob (List.length v0.1.2 = (0 : Nat)) ∧
 (Ob ((val (y6 u10 u7 (0 : Int) (0 : Int))).1 = (val (y6 u10 u7 (0 : Int) (0 : Int))).1) ∧
 True))))))) ∧
   (∀ (v0 : (Int × List Int) × Nat), ((Option.bind (iter (G_Sums_b0 (val (y6 u10 u7 (0 : Int) (0 : Int)))) v0.2 v0.1) fun y0 => Option.bind (G_Sums_r0 (val (y6 u10 u7 (0 : Int) (0 : Int))) y0) some) = some r →
 Br (decide (v0.1.1 < (↑(List.length (val (y6 u10 u7 (0 : Int) (0 : Int))).1) : Int)))
   ((Ob ((0 : Int) ≤ v0.1.1 ∧ v0.1.1 < (↑(List.length (val (y6 u10 u7 (0 : Int) (0 : Int))).1) : Int)) ∧
 (Ob (Int.toNat v0.1.1 < List.length (val (y6 u10 u7 (0 : Int) (0 : Int))).1) ∧
 (Ob ((List.length v0.1.2 + List.length [List.getD (List.getD (val (y6 u10 u7 (0 : Int) (0 : Int))).1 (Int.toNat v0.1.1) []) (0 : Nat) (0 : Int)]) * (8 : Nat) ≤ (140737488355328 : Nat) ∧ List.length v0.1.2 + List.length [List.getD (List.getD (val (y6 u10 u7 (0 : Int) (0 : Int))).1 (Int.toNat v0.1.1) []) (0 : Nat) (0 : Int)] ≤ (9223372036854775807 : Nat)) ∧
   (∃ (v1 : (Int × List Int) × Nat), (Ob ((Option.bind (iter (G_Sums_b0 (val (y6 u10 u7 (0 : Int) (0 : Int)))) v1.2 v1.1) fun y0 => Option.bind (G_Sums_r0 (val (y6 u10 u7 (0 : Int) (0 : Int))) y0) some) = some r) ∧
 (Ob (v1.2 < v0.2) ∧
 (Ob ((val (y6 u10 u7 (0 : Int) (0 : Int))).2 = (val (y6 u10 u7 (0 : Int) (0 : Int))).2) ∧
 (Ob ((↑(List.length (val (y6 u10 u7 (0 : Int) (0 : Int))).1) : Int) = (↑(List.length (val (y6 u10 u7 (0 : Int) (0 : Int))).1) : Int)) ∧
 (Ob (IntKind.wrap .i64 (v0.1.1 + (1 : Int)) = v1.1.1) ∧
 (Ob (v0.1.2 ++ [List.getD (List.getD (val (y6 u10 u7 (0 : Int) (0 : Int))).1 (Int.toNat v0.1.1) []) (0 : Nat) (0 : Int)] = v1.1.2) ∧
 (Ob ((val (y6 u10 u7 (0 : Int) (0 : Int))).1 = (val (y6 u10 u7 (0 : Int) (0 : Int))).1) ∧
 True))))))))))))
   ((Ob (True) ∧
 (Ob (True) ∧
 (Ob (v0.1.2 = r.1) ∧
 (Ob ((val (y6 u10 u7 (0 : Int) (0 : Int))).2 = r.2) ∧
 True)))))))))) = _) ?_
  refine call_s h fun h => ?_
  refine ⟨⟨(((0 : Int), []), big), ⟨loop_s h⟩, (by repeat' (first | exact trivial | exact ⟨rfl⟩ | refine And.intro ?_ ?_))⟩, fun z1 hz1 => ?_⟩
  obtain ⟨k1, hm1, h⟩ := iter_pos hz1
  refine br_d h (fun h => ?_) (fun h => ?_)
  · refine ob_s h fun h => ?_
    refine ob_s h fun h => ?_
    refine ob_s h fun h => ?_
    exact ⟨((IntKind.wrap .i64 ((Prod.fst z1).1 + (1 : Int)), (Prod.fst z1).2 ++ [List.getD (List.getD (val (y6 u10 u7 (0 : Int) (0 : Int))).1 (Int.toNat (Prod.fst z1).1) []) (0 : Nat) (0 : Int)]), k1), ⟨next_s h⟩, ⟨lt_gs hm1.symm⟩, (by repeat' (first | exact trivial | exact ⟨rfl⟩ | refine And.intro ?_ ?_))⟩
  · have h := exit_s h
    refine ob_t ?_
    refine ob_t ?_
    exact ret_s h (fun e => by subst e; exact (by repeat' (first | exact trivial | exact ⟨rfl⟩ | refine And.intro ?_ ?_)))
set_option maxRecDepth 100000 in
theorem G_Sums_ok : SpecOK Tryz.prog 53 true (pureT k_G_Sums g_G_Sums) := by
  refine pureT_ok (sp := (sp_54 sp0)) (fn := Tryz.f53) (body := bodyOf Tryz.f53) mixed (sp_54_ok sp0_ok) Tryz.func53 (by kernel_rfl) (by kernel_rfl) fun ls t h ho b hb => ?_
  unfold g_G_Sums at h
  split at h
  · rename_i u10 u7
    cases h
    obtain rfl := bld_eq hb
    exact ⟨Nat.le_of_ble_eq_true (by kernel_rfl), _, _, G_Sums_vc u10 u7 _ (ok_some ho)⟩
  · cases h
theorem sp_53_ok {sp : Specs} (h : SpecsOK Tryz.prog sp) : SpecsOK Tryz.prog (sp_53 sp) := addK_ok G_Sums_ok h
end Go.Sh
end

section
namespace Go.Sh
open Go Go.Proofs Go.RowKit Go.Sx Go.Sx06 Ieee Go.Fl
theorem ask_zok {rate : Int} {l : List Nat} {noise tail : Int} (h : (askE rate l noise tail).2 = 0) : ZOK (zsO noise l) tail ∧ (8000 ≤ rate ∧ rate ≤ 192000) ∧ (∀ x ∈ l, se x = 0) ∧ l.length ≤ 1024 ∧ (0 ≤ noise ∧ noise ≤ 32767) ∧ (0 ≤ tail ∧ tail ≤ 1000000000000) ∧ 0 < l.length := by
  obtain ⟨hr, hn, ht⟩ := askE_zero h
  obtain ⟨h1, h2, h3, h4⟩ := resE_zero hr
  exact ⟨⟨by rw [zsO_len]; omega, zsO_ok hn h4, ht⟩, h1, h4, h3, hn, ht, h2⟩
theorem open_bad {rate : Int} {l : List Nat} {noise tail : Int} (hl : l.length < 1000000000000) (h : (askE rate l noise tail).2 ≠ 0) : G_open rate l noise tail = some ((askE rate l noise tail).2, [], []) := by
  rw [open_eq rate noise tail hl, if_pos h]
theorem open_good {rate : Int} {l : List Nat} {noise tail : Int} (hl : l.length < 1000000000000) (h : (askE rate l noise tail).2 = 0) : G_open rate l noise tail = some (0, zsO noise l, ssO (zsO noise l) tail) := by
  rw [open_eq rate noise tail hl, if_neg (by omega)]
theorem bne_t {a : Int} (h : a ≠ 0) : (a != (0 : Int)) = true := by simpa using h
theorem bne_f {a : Int} (h : a = 0) : (a != (0 : Int)) = false := by rw [h]; rfl
section
variable {zs : List (List Int)} {T f : Int} {rate noise tl : Int} {l : List Nat}
end
def fewB (l : List Nat) : Bool := decide (l.length ≤ 700 ∨ (1024 < l.length ∧ l.length ≤ 1026))
theorem few_eq (rate : Int) (l : List Nat) : L05_Few rate l = some (fewB l) := by
  unfold L05_Few fewB
  by_cases h : l.length ≤ 700
  · rw [if_pos (by omega), decide_eq_true (show _ ∨ _ from .inl h)]
  · rw [if_neg (by omega)]
    by_cases h2 : 1024 < l.length
    · rw [if_pos (by omega)]
      congr 1
      rw [decide_eq_decide]
      omega
    · rw [if_neg (by omega), decide_eq_false (by omega)]
theorem beq_f {a b : Int} (h : a ≠ b) : (a == b) = false := by simpa using h
theorem few_len {l : List Nat} (h : fewB l = true) : l.length < 1000000000000 := by
  unfold fewB at h
  simp only [decide_eq_true_eq] at h
  omega
theorem copyResponse_eq (rate : Int) {l : List Nat} (h : l.length < 1000000000000) : y43 rate l = some (rate, l) := by
  unfold y43
  rw [if_pos (by omega), List.nil_append]
theorem copyR_eq (rate : Int) {l : List Nat} (noise tail : Int) (h : l.length < 1000000000000) : y103 rate l noise tail = some (rate, l, noise, tail) := by
  unfold y103
  rw [copyResponse_eq rate h]
  rfl
end Go.Sh
end

section
namespace Go.Sh
open Go Go.Proofs Go.RowKit Go.Sx Go.Sx06 Ieee Go.Fl
end Go.Sh
end

section
namespace Go.Sh
open Go Go.Proofs Go.RowKit Go.Sx Go.Sx06 Ieee Go.Fl
theorem sq_wid {noise n : Int} (hn : 0 ≤ noise) : (sqP noise n).getD 0 0 ≤ (sqP 0 n).getD 0 0 ∧ (sqP 0 n).getD 0 0 ≤ (sqP noise n).getD 1 0 := by
  have ha : 0 ≤ az n := by unfold az; omega
  show max 0 (az n - noise) * max 0 (az n - noise) ≤ max 0 (az n - 0) * max 0 (az n - 0) ∧ max 0 (az n - 0) * max 0 (az n - 0) ≤ (az n + noise) * (az n + noise)
  have h1 : 0 ≤ max 0 (az n - noise) := by omega
  have h2 : max 0 (az n - noise) ≤ max 0 (az n - 0) := by omega
  have h3 : max 0 (az n - 0) ≤ az n + noise := by omega
  exact ⟨Int.mul_le_mul h2 h2 h1 (by omega), Int.mul_le_mul h3 h3 (by omega) (by omega)⟩
theorem sLo_wid {noise : Int} (hn : 0 ≤ noise) : ∀ l : List Nat, sLo (zsO noise l) ≤ sLo (zsO 0 l) ∧ sLo (zsO 0 l) ≤ sHi (zsO noise l)
  | [] => ⟨Int.le_refl _, Int.le_refl _⟩
  | b :: l => by
    have h := sq_wid (n := fi b) hn
    have ih := sLo_wid hn l
    show (sqP noise (fi b)).getD 0 0 + sLo (zsO noise l) ≤ (sqP 0 (fi b)).getD 0 0 + sLo (zsO 0 l) ∧ (sqP 0 (fi b)).getD 0 0 + sLo (zsO 0 l) ≤ (sqP noise (fi b)).getD 1 0 + sHi (zsO noise l)
    omega
end Go.Sh
end

section
namespace Go.Sh
open Go Go.Proofs Go.RowKit Go.Sx
set_option linter.unusedVariables false
def k_math_bits_Len64 : List (Option Cont) := [none]
def y84 (x_ : Int) : Option Int :=
  if x_ ≥ (4294967296 : Int) then
   if Int.fdiv x_ ((2 : Int) ^ min (32 : Nat) (IntKind.bits .u64)) ≥ (65536 : Int) then
    if Int.fdiv (Int.fdiv x_ ((2 : Int) ^ min (32 : Nat) (IntKind.bits .u64))) ((2 : Int) ^ min (16 : Nat) (IntKind.bits .u64)) ≥ (256 : Int) then
     if (0 : Int) ≤ IntKind.wrap .u8 (Int.fdiv (Int.fdiv (Int.fdiv x_ ((2 : Int) ^ min (32 : Nat) (IntKind.bits .u64))) ((2 : Int) ^ min (16 : Nat) (IntKind.bits .u64))) ((2 : Int) ^ min (8 : Nat) (IntKind.bits .u64))) ∧ IntKind.wrap .u8 (Int.fdiv (Int.fdiv (Int.fdiv x_ ((2 : Int) ^ min (32 : Nat) (IntKind.bits .u64))) ((2 : Int) ^ min (16 : Nat) (IntKind.bits .u64))) ((2 : Int) ^ min (8 : Nat) (IntKind.bits .u64))) < (↑(ByteArray.size tab8) : Int) then
      some (IntKind.wrap .i64 (IntKind.wrap .i64 (IntKind.wrap .i64 ((32 : Int) + (16 : Int)) + (8 : Int)) + IntKind.wrap .i64 (↑(UInt8.toNat (Array.getD (ByteArray.data tab8) (Int.toNat (IntKind.wrap .u8 (Int.fdiv (Int.fdiv (Int.fdiv x_ ((2 : Int) ^ min (32 : Nat) (IntKind.bits .u64))) ((2 : Int) ^ min (16 : Nat) (IntKind.bits .u64))) ((2 : Int) ^ min (8 : Nat) (IntKind.bits .u64))))) (0 : UInt8))) : Int)))
     else none
    else
     if (0 : Int) ≤ IntKind.wrap .u8 (Int.fdiv (Int.fdiv x_ ((2 : Int) ^ min (32 : Nat) (IntKind.bits .u64))) ((2 : Int) ^ min (16 : Nat) (IntKind.bits .u64))) ∧ IntKind.wrap .u8 (Int.fdiv (Int.fdiv x_ ((2 : Int) ^ min (32 : Nat) (IntKind.bits .u64))) ((2 : Int) ^ min (16 : Nat) (IntKind.bits .u64))) < (↑(ByteArray.size tab8) : Int) then
      some (IntKind.wrap .i64 (IntKind.wrap .i64 ((32 : Int) + (16 : Int)) + IntKind.wrap .i64 (↑(UInt8.toNat (Array.getD (ByteArray.data tab8) (Int.toNat (IntKind.wrap .u8 (Int.fdiv (Int.fdiv x_ ((2 : Int) ^ min (32 : Nat) (IntKind.bits .u64))) ((2 : Int) ^ min (16 : Nat) (IntKind.bits .u64))))) (0 : UInt8))) : Int)))
     else none
   else
    if Int.fdiv x_ ((2 : Int) ^ min (32 : Nat) (IntKind.bits .u64)) ≥ (256 : Int) then
     if (0 : Int) ≤ IntKind.wrap .u8 (Int.fdiv (Int.fdiv x_ ((2 : Int) ^ min (32 : Nat) (IntKind.bits .u64))) ((2 : Int) ^ min (8 : Nat) (IntKind.bits .u64))) ∧ IntKind.wrap .u8 (Int.fdiv (Int.fdiv x_ ((2 : Int) ^ min (32 : Nat) (IntKind.bits .u64))) ((2 : Int) ^ min (8 : Nat) (IntKind.bits .u64))) < (↑(ByteArray.size tab8) : Int) then
      some (IntKind.wrap .i64 (IntKind.wrap .i64 ((32 : Int) + (8 : Int)) + IntKind.wrap .i64 (↑(UInt8.toNat (Array.getD (ByteArray.data tab8) (Int.toNat (IntKind.wrap .u8 (Int.fdiv (Int.fdiv x_ ((2 : Int) ^ min (32 : Nat) (IntKind.bits .u64))) ((2 : Int) ^ min (8 : Nat) (IntKind.bits .u64))))) (0 : UInt8))) : Int)))
     else none
    else
     if (0 : Int) ≤ IntKind.wrap .u8 (Int.fdiv x_ ((2 : Int) ^ min (32 : Nat) (IntKind.bits .u64))) ∧ IntKind.wrap .u8 (Int.fdiv x_ ((2 : Int) ^ min (32 : Nat) (IntKind.bits .u64))) < (↑(ByteArray.size tab8) : Int) then
      some (IntKind.wrap .i64 ((32 : Int) + IntKind.wrap .i64 (↑(UInt8.toNat (Array.getD (ByteArray.data tab8) (Int.toNat (IntKind.wrap .u8 (Int.fdiv x_ ((2 : Int) ^ min (32 : Nat) (IntKind.bits .u64))))) (0 : UInt8))) : Int)))
     else none
  else
   if x_ ≥ (65536 : Int) then
    if Int.fdiv x_ ((2 : Int) ^ min (16 : Nat) (IntKind.bits .u64)) ≥ (256 : Int) then
     if (0 : Int) ≤ IntKind.wrap .u8 (Int.fdiv (Int.fdiv x_ ((2 : Int) ^ min (16 : Nat) (IntKind.bits .u64))) ((2 : Int) ^ min (8 : Nat) (IntKind.bits .u64))) ∧ IntKind.wrap .u8 (Int.fdiv (Int.fdiv x_ ((2 : Int) ^ min (16 : Nat) (IntKind.bits .u64))) ((2 : Int) ^ min (8 : Nat) (IntKind.bits .u64))) < (↑(ByteArray.size tab8) : Int) then
      some (IntKind.wrap .i64 (IntKind.wrap .i64 (IntKind.wrap .i64 ((0 : Int) + (16 : Int)) + (8 : Int)) + IntKind.wrap .i64 (↑(UInt8.toNat (Array.getD (ByteArray.data tab8) (Int.toNat (IntKind.wrap .u8 (Int.fdiv (Int.fdiv x_ ((2 : Int) ^ min (16 : Nat) (IntKind.bits .u64))) ((2 : Int) ^ min (8 : Nat) (IntKind.bits .u64))))) (0 : UInt8))) : Int)))
     else none
    else
     if (0 : Int) ≤ IntKind.wrap .u8 (Int.fdiv x_ ((2 : Int) ^ min (16 : Nat) (IntKind.bits .u64))) ∧ IntKind.wrap .u8 (Int.fdiv x_ ((2 : Int) ^ min (16 : Nat) (IntKind.bits .u64))) < (↑(ByteArray.size tab8) : Int) then
      some (IntKind.wrap .i64 (IntKind.wrap .i64 ((0 : Int) + (16 : Int)) + IntKind.wrap .i64 (↑(UInt8.toNat (Array.getD (ByteArray.data tab8) (Int.toNat (IntKind.wrap .u8 (Int.fdiv x_ ((2 : Int) ^ min (16 : Nat) (IntKind.bits .u64))))) (0 : UInt8))) : Int)))
     else none
   else
    if x_ ≥ (256 : Int) then
     if (0 : Int) ≤ IntKind.wrap .u8 (Int.fdiv x_ ((2 : Int) ^ min (8 : Nat) (IntKind.bits .u64))) ∧ IntKind.wrap .u8 (Int.fdiv x_ ((2 : Int) ^ min (8 : Nat) (IntKind.bits .u64))) < (↑(ByteArray.size tab8) : Int) then
      some (IntKind.wrap .i64 (IntKind.wrap .i64 ((0 : Int) + (8 : Int)) + IntKind.wrap .i64 (↑(UInt8.toNat (Array.getD (ByteArray.data tab8) (Int.toNat (IntKind.wrap .u8 (Int.fdiv x_ ((2 : Int) ^ min (8 : Nat) (IntKind.bits .u64))))) (0 : UInt8))) : Int)))
     else none
    else
     if (0 : Int) ≤ IntKind.wrap .u8 x_ ∧ IntKind.wrap .u8 x_ < (↑(ByteArray.size tab8) : Int) then
      some (IntKind.wrap .i64 ((0 : Int) + IntKind.wrap .i64 (↑(UInt8.toNat (Array.getD (ByteArray.data tab8) (Int.toNat (IntKind.wrap .u8 x_)) (0 : UInt8))) : Int)))
     else none
def y147 : List A → Option (Prop × List RV)
  | [.d (.i .u64 x_)] => some (ok (y84 x_), [.d (.i .i64 ((val (y84 x_))))])
  | _ => none
abbrev sp_166 : Specs → Specs := addK 166 true (pureK k_math_bits_Len64 y147)
set_option maxRecDepth 100000 in
theorem math_bits_Len64_vc (x_ : Int) (r : Int) (h : Option.bind (y84 x_) some = some r) : runF Tryz.f166 (sp0) (fun _ _ _ => none) [.d (.i .u64 x_)] [.d (.i .i64 r)] := by
  refine Eq.mp (by kernel_rfl : (
 Br (decide (x_ ≥ (4294967296 : Int)))
   ((Ob ((0 : Int) ≤ (32 : Int)) ∧
 Br (decide (Int.fdiv x_ ((2 : Int) ^ min (32 : Nat) (IntKind.bits .u64)) ≥ (65536 : Int)))
   ((Ob ((0 : Int) ≤ (16 : Int)) ∧
 Br (decide (Int.fdiv (Int.fdiv x_ ((2 : Int) ^ min (32 : Nat) (IntKind.bits .u64))) ((2 : Int) ^ min (16 : Nat) (IntKind.bits .u64)) ≥ (256 : Int)))
   ((Ob ((0 : Int) ≤ (8 : Int)) ∧
 (Ob (True) ∧
 (Ob ((0 : Int) ≤ IntKind.wrap .u8 (Int.fdiv (Int.fdiv (Int.fdiv x_ ((2 : Int) ^ min (32 : Nat) (IntKind.bits .u64))) ((2 : Int) ^ min (16 : Nat) (IntKind.bits .u64))) ((2 : Int) ^ min (8 : Nat) (IntKind.bits .u64))) ∧ IntKind.wrap .u8 (Int.fdiv (Int.fdiv (Int.fdiv x_ ((2 : Int) ^ min (32 : Nat) (IntKind.bits .u64))) ((2 : Int) ^ min (16 : Nat) (IntKind.bits .u64))) ((2 : Int) ^ min (8 : Nat) (IntKind.bits .u64))) < (↑(ByteArray.size tab8) : Int)) ∧
 (Ob (True) ∧
 (Ob (True) ∧
 (Ob (IntKind.wrap .i64 (IntKind.wrap .i64 (IntKind.wrap .i64 ((32 : Int) + (16 : Int)) + (8 : Int)) + IntKind.wrap .i64 (↑(UInt8.toNat (Array.getD (ByteArray.data tab8) (Int.toNat (IntKind.wrap .u8 (Int.fdiv (Int.fdiv (Int.fdiv x_ ((2 : Int) ^ min (32 : Nat) (IntKind.bits .u64))) ((2 : Int) ^ min (16 : Nat) (IntKind.bits .u64))) ((2 : Int) ^ min (8 : Nat) (IntKind.bits .u64))))) (0 : UInt8))) : Int)) = r) ∧
 True)))))))
   ((Ob (True) ∧
 (Ob ((0 : Int) ≤ IntKind.wrap .u8 (Int.fdiv (Int.fdiv x_ ((2 : Int) ^ min (32 : Nat) (IntKind.bits .u64))) ((2 : Int) ^ min (16 : Nat) (IntKind.bits .u64))) ∧ IntKind.wrap .u8 (Int.fdiv (Int.fdiv x_ ((2 : Int) ^ min (32 : Nat) (IntKind.bits .u64))) ((2 : Int) ^ min (16 : Nat) (IntKind.bits .u64))) < (↑(ByteArray.size tab8) : Int)) ∧
 (Ob (True) ∧
 (Ob (True) ∧
 (Ob (IntKind.wrap .i64 (IntKind.wrap .i64 ((32 : Int) + (16 : Int)) + IntKind.wrap .i64 (↑(UInt8.toNat (Array.getD (ByteArray.data tab8) (Int.toNat (IntKind.wrap .u8 (Int.fdiv (Int.fdiv x_ ((2 : Int) ^ min (32 : Nat) (IntKind.bits .u64))) ((2 : Int) ^ min (16 : Nat) (IntKind.bits .u64))))) (0 : UInt8))) : Int)) = r) ∧
 True))))))))
 (Br (decide (Int.fdiv x_ ((2 : Int) ^ min (32 : Nat) (IntKind.bits .u64)) ≥ (256 : Int)))
   ((Ob ((0 : Int) ≤ (8 : Int)) ∧
 (Ob (True) ∧
 (Ob ((0 : Int) ≤ IntKind.wrap .u8 (Int.fdiv (Int.fdiv x_ ((2 : Int) ^ min (32 : Nat) (IntKind.bits .u64))) ((2 : Int) ^ min (8 : Nat) (IntKind.bits .u64))) ∧ IntKind.wrap .u8 (Int.fdiv (Int.fdiv x_ ((2 : Int) ^ min (32 : Nat) (IntKind.bits .u64))) ((2 : Int) ^ min (8 : Nat) (IntKind.bits .u64))) < (↑(ByteArray.size tab8) : Int)) ∧
 (Ob (True) ∧
 (Ob (True) ∧
 (Ob (IntKind.wrap .i64 (IntKind.wrap .i64 ((32 : Int) + (8 : Int)) + IntKind.wrap .i64 (↑(UInt8.toNat (Array.getD (ByteArray.data tab8) (Int.toNat (IntKind.wrap .u8 (Int.fdiv (Int.fdiv x_ ((2 : Int) ^ min (32 : Nat) (IntKind.bits .u64))) ((2 : Int) ^ min (8 : Nat) (IntKind.bits .u64))))) (0 : UInt8))) : Int)) = r) ∧
 True)))))))
   ((Ob (True) ∧
 (Ob ((0 : Int) ≤ IntKind.wrap .u8 (Int.fdiv x_ ((2 : Int) ^ min (32 : Nat) (IntKind.bits .u64))) ∧ IntKind.wrap .u8 (Int.fdiv x_ ((2 : Int) ^ min (32 : Nat) (IntKind.bits .u64))) < (↑(ByteArray.size tab8) : Int)) ∧
 (Ob (True) ∧
 (Ob (True) ∧
 (Ob (IntKind.wrap .i64 ((32 : Int) + IntKind.wrap .i64 (↑(UInt8.toNat (Array.getD (ByteArray.data tab8) (Int.toNat (IntKind.wrap .u8 (Int.fdiv x_ ((2 : Int) ^ min (32 : Nat) (IntKind.bits .u64))))) (0 : UInt8))) : Int)) = r) ∧
 True)))))))))
 (Br (decide (x_ ≥ (65536 : Int)))
   ((Ob ((0 : Int) ≤ (16 : Int)) ∧
 Br (decide (Int.fdiv x_ ((2 : Int) ^ min (16 : Nat) (IntKind.bits .u64)) ≥ (256 : Int)))
   ((Ob ((0 : Int) ≤ (8 : Int)) ∧
 (Ob (True) ∧
 (Ob ((0 : Int) ≤ IntKind.wrap .u8 (Int.fdiv (Int.fdiv x_ ((2 : Int) ^ min (16 : Nat) (IntKind.bits .u64))) ((2 : Int) ^ min (8 : Nat) (IntKind.bits .u64))) ∧ IntKind.wrap .u8 (Int.fdiv (Int.fdiv x_ ((2 : Int) ^ min (16 : Nat) (IntKind.bits .u64))) ((2 : Int) ^ min (8 : Nat) (IntKind.bits .u64))) < (↑(ByteArray.size tab8) : Int)) ∧
 (Ob (True) ∧
 (Ob (True) ∧
 (Ob (IntKind.wrap .i64 (IntKind.wrap .i64 (IntKind.wrap .i64 ((0 : Int) + (16 : Int)) + (8 : Int)) + IntKind.wrap .i64 (↑(UInt8.toNat (Array.getD (ByteArray.data tab8) (Int.toNat (IntKind.wrap .u8 (Int.fdiv (Int.fdiv x_ ((2 : Int) ^ min (16 : Nat) (IntKind.bits .u64))) ((2 : Int) ^ min (8 : Nat) (IntKind.bits .u64))))) (0 : UInt8))) : Int)) = r) ∧
 True)))))))
   ((Ob (True) ∧
 (Ob ((0 : Int) ≤ IntKind.wrap .u8 (Int.fdiv x_ ((2 : Int) ^ min (16 : Nat) (IntKind.bits .u64))) ∧ IntKind.wrap .u8 (Int.fdiv x_ ((2 : Int) ^ min (16 : Nat) (IntKind.bits .u64))) < (↑(ByteArray.size tab8) : Int)) ∧
 (Ob (True) ∧
 (Ob (True) ∧
 (Ob (IntKind.wrap .i64 (IntKind.wrap .i64 ((0 : Int) + (16 : Int)) + IntKind.wrap .i64 (↑(UInt8.toNat (Array.getD (ByteArray.data tab8) (Int.toNat (IntKind.wrap .u8 (Int.fdiv x_ ((2 : Int) ^ min (16 : Nat) (IntKind.bits .u64))))) (0 : UInt8))) : Int)) = r) ∧
 True))))))))
 (Br (decide (x_ ≥ (256 : Int)))
   ((Ob ((0 : Int) ≤ (8 : Int)) ∧
 (Ob (True) ∧
 (Ob ((0 : Int) ≤ IntKind.wrap .u8 (Int.fdiv x_ ((2 : Int) ^ min (8 : Nat) (IntKind.bits .u64))) ∧ IntKind.wrap .u8 (Int.fdiv x_ ((2 : Int) ^ min (8 : Nat) (IntKind.bits .u64))) < (↑(ByteArray.size tab8) : Int)) ∧
 (Ob (True) ∧
 (Ob (True) ∧
 (Ob (IntKind.wrap .i64 (IntKind.wrap .i64 ((0 : Int) + (8 : Int)) + IntKind.wrap .i64 (↑(UInt8.toNat (Array.getD (ByteArray.data tab8) (Int.toNat (IntKind.wrap .u8 (Int.fdiv x_ ((2 : Int) ^ min (8 : Nat) (IntKind.bits .u64))))) (0 : UInt8))) : Int)) = r) ∧
 True)))))))
   ((Ob (True) ∧
 (Ob ((0 : Int) ≤ IntKind.wrap .u8 x_ ∧ IntKind.wrap .u8 x_ < (↑(ByteArray.size tab8) : Int)) ∧
 (Ob (True) ∧
 (Ob (True) ∧
 (Ob (IntKind.wrap .i64 ((0 : Int) + IntKind.wrap .i64 (↑(UInt8.toNat (Array.getD (ByteArray.data tab8) (Int.toNat (IntKind.wrap .u8 x_)) (0 : UInt8))) : Int)) = r) ∧
 True))))))))) = _) ?_
  refine br_d h (fun h => ?_) (fun h => ?_)
  · refine ob_c (p := (0 : Int) ≤ (32 : Int)) (by decide) ?_
    refine br_d h (fun h => ?_) (fun h => ?_)
    · refine ob_c (p := (0 : Int) ≤ (16 : Int)) (by decide) ?_
      refine br_d h (fun h => ?_) (fun h => ?_)
      · refine ob_c (p := (0 : Int) ≤ (8 : Int)) (by decide) ?_
        refine ob_t ?_
        refine ob_s h fun h => ?_
        refine ob_t ?_
        refine ob_t ?_
        exact ret_s h (fun e => by subst e; exact (by repeat' (first | exact trivial | exact ⟨rfl⟩ | refine And.intro ?_ ?_)))
      · refine ob_t ?_
        refine ob_s h fun h => ?_
        refine ob_t ?_
        refine ob_t ?_
        exact ret_s h (fun e => by subst e; exact (by repeat' (first | exact trivial | exact ⟨rfl⟩ | refine And.intro ?_ ?_)))
    · refine br_d h (fun h => ?_) (fun h => ?_)
      · refine ob_c (p := (0 : Int) ≤ (8 : Int)) (by decide) ?_
        refine ob_t ?_
        refine ob_s h fun h => ?_
        refine ob_t ?_
        refine ob_t ?_
        exact ret_s h (fun e => by subst e; exact (by repeat' (first | exact trivial | exact ⟨rfl⟩ | refine And.intro ?_ ?_)))
      · refine ob_t ?_
        refine ob_s h fun h => ?_
        refine ob_t ?_
        refine ob_t ?_
        exact ret_s h (fun e => by subst e; exact (by repeat' (first | exact trivial | exact ⟨rfl⟩ | refine And.intro ?_ ?_)))
  · refine br_d h (fun h => ?_) (fun h => ?_)
    · refine ob_c (p := (0 : Int) ≤ (16 : Int)) (by decide) ?_
      refine br_d h (fun h => ?_) (fun h => ?_)
      · refine ob_c (p := (0 : Int) ≤ (8 : Int)) (by decide) ?_
        refine ob_t ?_
        refine ob_s h fun h => ?_
        refine ob_t ?_
        refine ob_t ?_
        exact ret_s h (fun e => by subst e; exact (by repeat' (first | exact trivial | exact ⟨rfl⟩ | refine And.intro ?_ ?_)))
      · refine ob_t ?_
        refine ob_s h fun h => ?_
        refine ob_t ?_
        refine ob_t ?_
        exact ret_s h (fun e => by subst e; exact (by repeat' (first | exact trivial | exact ⟨rfl⟩ | refine And.intro ?_ ?_)))
    · refine br_d h (fun h => ?_) (fun h => ?_)
      · refine ob_c (p := (0 : Int) ≤ (8 : Int)) (by decide) ?_
        refine ob_t ?_
        refine ob_s h fun h => ?_
        refine ob_t ?_
        refine ob_t ?_
        exact ret_s h (fun e => by subst e; exact (by repeat' (first | exact trivial | exact ⟨rfl⟩ | refine And.intro ?_ ?_)))
      · refine ob_t ?_
        refine ob_s h fun h => ?_
        refine ob_t ?_
        refine ob_t ?_
        exact ret_s h (fun e => by subst e; exact (by repeat' (first | exact trivial | exact ⟨rfl⟩ | refine And.intro ?_ ?_)))
set_option maxRecDepth 100000 in
theorem math_bits_Len64_ok : SpecOK Tryz.prog 166 true (pureK k_math_bits_Len64 y147) := by
  refine pureK_ok (sp := sp0) (fn := Tryz.f166) (body := bodyOf Tryz.f166) mixed sp0_ok Tryz.func166 (by kernel_rfl) (by kernel_rfl) fun as_ ob rs h ho => ?_
  unfold y147 at h
  split at h
  · rename_i x_
    cases h
    exact ⟨Nat.le_of_ble_eq_true rfl, _, _, math_bits_Len64_vc x_ _ (ok_some ho)⟩
  · cases h
theorem sp_166_ok {sp : Specs} (h : SpecsOK Tryz.prog sp) : SpecsOK Tryz.prog (sp_166 sp) := addK_ok math_bits_Len64_ok h
def y116 : List (Option Cont) := [none]
def y10 (x_ : Int) : Option Int :=
  Option.bind (y84 x_) fun r0 =>
  some (IntKind.wrap .i64 ((64 : Int) - r0))
def y87 : List A → Option (Prop × List RV)
  | [.d (.i .u64 x_)] => some (ok (y10 x_), [.d (.i .i64 ((val (y10 x_))))])
  | _ => none
abbrev sp_150 : Specs → Specs := addK 150 true (pureK y116 y87)
set_option maxRecDepth 100000 in
theorem y188 (x_ : Int) (r : Int) (h : Option.bind (y10 x_) some = some r) : runF Tryz.f150 ((sp_166 sp0)) (fun _ _ _ => none) [.d (.i .u64 x_)] [.d (.i .i64 r)] := by
  refine Eq.mp (by kernel_rfl : (
 (Ob (ok (y84 x_)) ∧
 (Ob (True) ∧
 (Ob (IntKind.wrap .i64 ((64 : Int) - val (y84 x_)) = r) ∧
 True)))) = _) ?_
  refine call_s h fun h => ?_
  refine ob_t ?_
  exact ret_s h (fun e => by subst e; exact (by repeat' (first | exact trivial | exact ⟨rfl⟩ | refine And.intro ?_ ?_)))
set_option maxRecDepth 100000 in
theorem y189 : SpecOK Tryz.prog 150 true (pureK y116 y87) := by
  refine pureK_ok (sp := (sp_166 sp0)) (fn := Tryz.f150) (body := bodyOf Tryz.f150) mixed (sp_166_ok sp0_ok) Tryz.func150 (by kernel_rfl) (by kernel_rfl) fun as_ ob rs h ho => ?_
  unfold y87 at h
  split at h
  · rename_i x_
    cases h
    exact ⟨Nat.le_of_ble_eq_true rfl, _, _, y188 x_ _ (ok_some ho)⟩
  · cases h
theorem sp_150_ok {sp : Specs} (h : SpecsOK Tryz.prog sp) : SpecsOK Tryz.prog (sp_150 sp) := addK_ok y189 h
def k_math_bits_Div64 : List (Option Cont) := [none, none, none]
def y57 (lo : Int) (y_ : Int) (r0 : Int) (x0 : (Int × Int)) : Option ((Int × Int) ⊕ Int) :=
  if x0.1 ≥ (4294967296 : Int) then
   if IntKind.wrap .u64 (x0.2 + Int.fdiv (IntKind.wrap .u64 (y_ * (2 : Int) ^ min (Int.toNat (IntKind.wrap .u64 r0)) (IntKind.bits .u64))) ((2 : Int) ^ min (32 : Nat) (IntKind.bits .u64))) ≥ (4294967296 : Int) then
    some (.inr (IntKind.wrap .u64 (x0.1 - (1 : Int))))
   else
    some (.inl ((IntKind.wrap .u64 (x0.1 - (1 : Int)), IntKind.wrap .u64 (x0.2 + Int.fdiv (IntKind.wrap .u64 (y_ * (2 : Int) ^ min (Int.toNat (IntKind.wrap .u64 r0)) (IntKind.bits .u64))) ((2 : Int) ^ min (32 : Nat) (IntKind.bits .u64))))))
  else
   if IntKind.wrap .u64 (x0.1 * IntKind.wrap .u64 (↑(BitVec.toNat (BitVec.ofInt (IntKind.bits .u64) (IntKind.wrap .u64 (y_ * (2 : Int) ^ min (Int.toNat (IntKind.wrap .u64 r0)) (IntKind.bits .u64))) &&& BitVec.ofInt (IntKind.bits .u64) (4294967295 : Int))) : Int)) > IntKind.wrap .u64 (IntKind.wrap .u64 ((4294967296 : Int) * x0.2) + Int.fdiv (IntKind.wrap .u64 (lo * (2 : Int) ^ min (Int.toNat (IntKind.wrap .u64 r0)) (IntKind.bits .u64))) ((2 : Int) ^ min (32 : Nat) (IntKind.bits .u64))) then
    if IntKind.wrap .u64 (x0.2 + Int.fdiv (IntKind.wrap .u64 (y_ * (2 : Int) ^ min (Int.toNat (IntKind.wrap .u64 r0)) (IntKind.bits .u64))) ((2 : Int) ^ min (32 : Nat) (IntKind.bits .u64))) ≥ (4294967296 : Int) then
     some (.inr (IntKind.wrap .u64 (x0.1 - (1 : Int))))
    else
     some (.inl ((IntKind.wrap .u64 (x0.1 - (1 : Int)), IntKind.wrap .u64 (x0.2 + Int.fdiv (IntKind.wrap .u64 (y_ * (2 : Int) ^ min (Int.toNat (IntKind.wrap .u64 r0)) (IntKind.bits .u64))) ((2 : Int) ^ min (32 : Nat) (IntKind.bits .u64))))))
   else
    some (.inr x0.1)
def y12 (lo : Int) (y_ : Int) (r0 : Int) (x1 : (Int × Int)) : Option ((Int × Int) ⊕ Int) :=
  if x1.2 ≥ (4294967296 : Int) then
   if IntKind.wrap .u64 (x1.1 + Int.fdiv (IntKind.wrap .u64 (y_ * (2 : Int) ^ min (Int.toNat (IntKind.wrap .u64 r0)) (IntKind.bits .u64))) ((2 : Int) ^ min (32 : Nat) (IntKind.bits .u64))) ≥ (4294967296 : Int) then
    some (.inr (IntKind.wrap .u64 (x1.2 - (1 : Int))))
   else
    some (.inl ((IntKind.wrap .u64 (x1.1 + Int.fdiv (IntKind.wrap .u64 (y_ * (2 : Int) ^ min (Int.toNat (IntKind.wrap .u64 r0)) (IntKind.bits .u64))) ((2 : Int) ^ min (32 : Nat) (IntKind.bits .u64))), IntKind.wrap .u64 (x1.2 - (1 : Int)))))
  else
   if IntKind.wrap .u64 (x1.2 * IntKind.wrap .u64 (↑(BitVec.toNat (BitVec.ofInt (IntKind.bits .u64) (IntKind.wrap .u64 (y_ * (2 : Int) ^ min (Int.toNat (IntKind.wrap .u64 r0)) (IntKind.bits .u64))) &&& BitVec.ofInt (IntKind.bits .u64) (4294967295 : Int))) : Int)) > IntKind.wrap .u64 (IntKind.wrap .u64 ((4294967296 : Int) * x1.1) + IntKind.wrap .u64 (↑(BitVec.toNat (BitVec.ofInt (IntKind.bits .u64) (IntKind.wrap .u64 (lo * (2 : Int) ^ min (Int.toNat (IntKind.wrap .u64 r0)) (IntKind.bits .u64))) &&& BitVec.ofInt (IntKind.bits .u64) (4294967295 : Int))) : Int)) then
    if IntKind.wrap .u64 (x1.1 + Int.fdiv (IntKind.wrap .u64 (y_ * (2 : Int) ^ min (Int.toNat (IntKind.wrap .u64 r0)) (IntKind.bits .u64))) ((2 : Int) ^ min (32 : Nat) (IntKind.bits .u64))) ≥ (4294967296 : Int) then
     some (.inr (IntKind.wrap .u64 (x1.2 - (1 : Int))))
    else
     some (.inl ((IntKind.wrap .u64 (x1.1 + Int.fdiv (IntKind.wrap .u64 (y_ * (2 : Int) ^ min (Int.toNat (IntKind.wrap .u64 r0)) (IntKind.bits .u64))) ((2 : Int) ^ min (32 : Nat) (IntKind.bits .u64))), IntKind.wrap .u64 (x1.2 - (1 : Int)))))
   else
    some (.inr x1.2)
def y13 (hi : Int) (lo : Int) (y_ : Int) (u16 : Int) (r0 : Int) (u61 : Int) : Option (Int × Int) :=
  if (0 : Int) ≤ IntKind.wrap .u64 r0 then
   some ((IntKind.wrap .u64 (IntKind.wrap .u64 (u16 * (4294967296 : Int)) + u61), Int.fdiv (IntKind.wrap .u64 (IntKind.wrap .u64 (IntKind.wrap .u64 (IntKind.wrap .u64 (IntKind.wrap .u64 (IntKind.wrap .u64 (IntKind.wrap .u64 (↑(BitVec.toNat (BitVec.ofInt (IntKind.bits .u64) (IntKind.wrap .u64 (hi * (2 : Int) ^ min (Int.toNat (IntKind.wrap .u64 r0)) (IntKind.bits .u64))) ||| BitVec.ofInt (IntKind.bits .u64) (Int.fdiv lo ((2 : Int) ^ min (Int.toNat (IntKind.wrap .u64 ((64 : Int) - IntKind.wrap .u64 r0))) (IntKind.bits .u64))))) : Int) * (4294967296 : Int)) + Int.fdiv (IntKind.wrap .u64 (lo * (2 : Int) ^ min (Int.toNat (IntKind.wrap .u64 r0)) (IntKind.bits .u64))) ((2 : Int) ^ min (32 : Nat) (IntKind.bits .u64))) - IntKind.wrap .u64 (u16 * IntKind.wrap .u64 (y_ * (2 : Int) ^ min (Int.toNat (IntKind.wrap .u64 r0)) (IntKind.bits .u64)))) * (4294967296 : Int)) + IntKind.wrap .u64 (↑(BitVec.toNat (BitVec.ofInt (IntKind.bits .u64) (IntKind.wrap .u64 (lo * (2 : Int) ^ min (Int.toNat (IntKind.wrap .u64 r0)) (IntKind.bits .u64))) &&& BitVec.ofInt (IntKind.bits .u64) (4294967295 : Int))) : Int)) - IntKind.wrap .u64 (u61 * IntKind.wrap .u64 (y_ * (2 : Int) ^ min (Int.toNat (IntKind.wrap .u64 r0)) (IntKind.bits .u64))))) ((2 : Int) ^ min (Int.toNat (IntKind.wrap .u64 r0)) (IntKind.bits .u64))))
  else none
def y58 (hi : Int) (lo : Int) (y_ : Int) (r0 : Int) (u16 : Int) : Option (Int × Int) :=
  if Int.fdiv (IntKind.wrap .u64 (y_ * (2 : Int) ^ min (Int.toNat (IntKind.wrap .u64 r0)) (IntKind.bits .u64))) ((2 : Int) ^ min (32 : Nat) (IntKind.bits .u64)) ≠ (0 : Int) then
   Option.bind (iter (y12 lo y_ r0) big ((IntKind.wrap .u64 (IntKind.wrap .u64 (IntKind.wrap .u64 (IntKind.wrap .u64 (IntKind.wrap .u64 (↑(BitVec.toNat (BitVec.ofInt (IntKind.bits .u64) (IntKind.wrap .u64 (hi * (2 : Int) ^ min (Int.toNat (IntKind.wrap .u64 r0)) (IntKind.bits .u64))) ||| BitVec.ofInt (IntKind.bits .u64) (Int.fdiv lo ((2 : Int) ^ min (Int.toNat (IntKind.wrap .u64 ((64 : Int) - IntKind.wrap .u64 r0))) (IntKind.bits .u64))))) : Int) * (4294967296 : Int)) + Int.fdiv (IntKind.wrap .u64 (lo * (2 : Int) ^ min (Int.toNat (IntKind.wrap .u64 r0)) (IntKind.bits .u64))) ((2 : Int) ^ min (32 : Nat) (IntKind.bits .u64))) - IntKind.wrap .u64 (u16 * IntKind.wrap .u64 (y_ * (2 : Int) ^ min (Int.toNat (IntKind.wrap .u64 r0)) (IntKind.bits .u64)))) - IntKind.wrap .u64 (IntKind.wrap .u64 (Int.tdiv (IntKind.wrap .u64 (IntKind.wrap .u64 (IntKind.wrap .u64 (IntKind.wrap .u64 (↑(BitVec.toNat (BitVec.ofInt (IntKind.bits .u64) (IntKind.wrap .u64 (hi * (2 : Int) ^ min (Int.toNat (IntKind.wrap .u64 r0)) (IntKind.bits .u64))) ||| BitVec.ofInt (IntKind.bits .u64) (Int.fdiv lo ((2 : Int) ^ min (Int.toNat (IntKind.wrap .u64 ((64 : Int) - IntKind.wrap .u64 r0))) (IntKind.bits .u64))))) : Int) * (4294967296 : Int)) + Int.fdiv (IntKind.wrap .u64 (lo * (2 : Int) ^ min (Int.toNat (IntKind.wrap .u64 r0)) (IntKind.bits .u64))) ((2 : Int) ^ min (32 : Nat) (IntKind.bits .u64))) - IntKind.wrap .u64 (u16 * IntKind.wrap .u64 (y_ * (2 : Int) ^ min (Int.toNat (IntKind.wrap .u64 r0)) (IntKind.bits .u64))))) (Int.fdiv (IntKind.wrap .u64 (y_ * (2 : Int) ^ min (Int.toNat (IntKind.wrap .u64 r0)) (IntKind.bits .u64))) ((2 : Int) ^ min (32 : Nat) (IntKind.bits .u64)))) * Int.fdiv (IntKind.wrap .u64 (y_ * (2 : Int) ^ min (Int.toNat (IntKind.wrap .u64 r0)) (IntKind.bits .u64))) ((2 : Int) ^ min (32 : Nat) (IntKind.bits .u64)))), IntKind.wrap .u64 (Int.tdiv (IntKind.wrap .u64 (IntKind.wrap .u64 (IntKind.wrap .u64 (IntKind.wrap .u64 (↑(BitVec.toNat (BitVec.ofInt (IntKind.bits .u64) (IntKind.wrap .u64 (hi * (2 : Int) ^ min (Int.toNat (IntKind.wrap .u64 r0)) (IntKind.bits .u64))) ||| BitVec.ofInt (IntKind.bits .u64) (Int.fdiv lo ((2 : Int) ^ min (Int.toNat (IntKind.wrap .u64 ((64 : Int) - IntKind.wrap .u64 r0))) (IntKind.bits .u64))))) : Int) * (4294967296 : Int)) + Int.fdiv (IntKind.wrap .u64 (lo * (2 : Int) ^ min (Int.toNat (IntKind.wrap .u64 r0)) (IntKind.bits .u64))) ((2 : Int) ^ min (32 : Nat) (IntKind.bits .u64))) - IntKind.wrap .u64 (u16 * IntKind.wrap .u64 (y_ * (2 : Int) ^ min (Int.toNat (IntKind.wrap .u64 r0)) (IntKind.bits .u64))))) (Int.fdiv (IntKind.wrap .u64 (y_ * (2 : Int) ^ min (Int.toNat (IntKind.wrap .u64 r0)) (IntKind.bits .u64))) ((2 : Int) ^ min (32 : Nat) (IntKind.bits .u64))))))) (y13 hi lo y_ u16 r0)
  else none
def y51 (hi : Int) (lo : Int) (y_ : Int) : Option (Int × Int) :=
  if (y_ == (0 : Int)) = true then
   none   else
   if y_ ≤ hi then
    none    else
    if (hi == (0 : Int)) = true then
     if y_ ≠ (0 : Int) then
      if y_ ≠ (0 : Int) then
       some ((IntKind.wrap .u64 (Int.tdiv lo y_), Int.tmod lo y_))
      else none
     else none
    else
     Option.bind (y10 y_) fun r0 =>
     if (0 : Int) ≤ IntKind.wrap .u64 r0 then
      if (0 : Int) ≤ IntKind.wrap .u64 r0 then
       if (0 : Int) ≤ IntKind.wrap .u64 ((64 : Int) - IntKind.wrap .u64 r0) then
        if (0 : Int) ≤ IntKind.wrap .u64 r0 then
         if Int.fdiv (IntKind.wrap .u64 (y_ * (2 : Int) ^ min (Int.toNat (IntKind.wrap .u64 r0)) (IntKind.bits .u64))) ((2 : Int) ^ min (32 : Nat) (IntKind.bits .u64)) ≠ (0 : Int) then
          Option.bind (iter (y57 lo y_ r0) big ((IntKind.wrap .u64 (Int.tdiv (IntKind.wrap .u64 (↑(BitVec.toNat (BitVec.ofInt (IntKind.bits .u64) (IntKind.wrap .u64 (hi * (2 : Int) ^ min (Int.toNat (IntKind.wrap .u64 r0)) (IntKind.bits .u64))) ||| BitVec.ofInt (IntKind.bits .u64) (Int.fdiv lo ((2 : Int) ^ min (Int.toNat (IntKind.wrap .u64 ((64 : Int) - IntKind.wrap .u64 r0))) (IntKind.bits .u64))))) : Int)) (Int.fdiv (IntKind.wrap .u64 (y_ * (2 : Int) ^ min (Int.toNat (IntKind.wrap .u64 r0)) (IntKind.bits .u64))) ((2 : Int) ^ min (32 : Nat) (IntKind.bits .u64)))), IntKind.wrap .u64 (IntKind.wrap .u64 (↑(BitVec.toNat (BitVec.ofInt (IntKind.bits .u64) (IntKind.wrap .u64 (hi * (2 : Int) ^ min (Int.toNat (IntKind.wrap .u64 r0)) (IntKind.bits .u64))) ||| BitVec.ofInt (IntKind.bits .u64) (Int.fdiv lo ((2 : Int) ^ min (Int.toNat (IntKind.wrap .u64 ((64 : Int) - IntKind.wrap .u64 r0))) (IntKind.bits .u64))))) : Int) - IntKind.wrap .u64 (IntKind.wrap .u64 (Int.tdiv (IntKind.wrap .u64 (↑(BitVec.toNat (BitVec.ofInt (IntKind.bits .u64) (IntKind.wrap .u64 (hi * (2 : Int) ^ min (Int.toNat (IntKind.wrap .u64 r0)) (IntKind.bits .u64))) ||| BitVec.ofInt (IntKind.bits .u64) (Int.fdiv lo ((2 : Int) ^ min (Int.toNat (IntKind.wrap .u64 ((64 : Int) - IntKind.wrap .u64 r0))) (IntKind.bits .u64))))) : Int)) (Int.fdiv (IntKind.wrap .u64 (y_ * (2 : Int) ^ min (Int.toNat (IntKind.wrap .u64 r0)) (IntKind.bits .u64))) ((2 : Int) ^ min (32 : Nat) (IntKind.bits .u64)))) * Int.fdiv (IntKind.wrap .u64 (y_ * (2 : Int) ^ min (Int.toNat (IntKind.wrap .u64 r0)) (IntKind.bits .u64))) ((2 : Int) ^ min (32 : Nat) (IntKind.bits .u64))))))) (y58 hi lo y_ r0)
         else none
        else none
       else none
      else none
     else none
def y148 : List A → Option (Prop × List RV)
  | [.d (.i .u64 hi), .d (.i .u64 lo), .d (.i .u64 y_)] => some (ok (y51 hi lo y_), [.d (.i .u64 ((val (y51 hi lo y_)).1)), .d (.i .u64 ((val (y51 hi lo y_)).2))])
  | _ => none
abbrev sp_127 : Specs → Specs := addK 127 true (pureK k_math_bits_Div64 y148)
set_option maxRecDepth 100000 in
private abbrev e0 (hi : Int) (lo : Int) (y_ : Int) : Int := IntKind.wrap .u64 (IntKind.wrap .u64 (↑(BitVec.toNat (BitVec.ofInt (IntKind.bits .u64) (IntKind.wrap .u64 (hi * (2 : Int) ^ min (Int.toNat (IntKind.wrap .u64 (val (y10 y_)))) (IntKind.bits .u64))) ||| BitVec.ofInt (IntKind.bits .u64) (Int.fdiv lo ((2 : Int) ^ min (Int.toNat (IntKind.wrap .u64 ((64 : Int) - IntKind.wrap .u64 (val (y10 y_))))) (IntKind.bits .u64))))) : Int) * (4294967296 : Int)) + Int.fdiv (IntKind.wrap .u64 (lo * (2 : Int) ^ min (Int.toNat (IntKind.wrap .u64 (val (y10 y_)))) (IntKind.bits .u64))) ((2 : Int) ^ min (32 : Nat) (IntKind.bits .u64))
private abbrev e1 (y_ : Int) : Int := IntKind.wrap .u64 (y_ * (2 : Int) ^ min (Int.toNat (IntKind.wrap .u64 (val (y10 y_)))) (IntKind.bits .u64))
private abbrev e2 (y_ : Int) : Int := IntKind.wrap .u64 (val (y10 y_))
private abbrev e3  : Int := (2 : Int) ^ min (32 : Nat) (IntKind.bits .u64)
private abbrev e4 (lo : Int) (y_ : Int) : Int := IntKind.wrap .u64 (lo * (2 : Int) ^ min (Int.toNat (e2 y_)) (IntKind.bits .u64))
private abbrev e5 (y_ : Int) : Int := val (y10 y_)
private abbrev e6 (lo : Int) (y_ : Int) : Int := Int.fdiv lo ((2 : Int) ^ min (Int.toNat (IntKind.wrap .u64 ((64 : Int) - IntKind.wrap .u64 (e5 y_)))) (IntKind.bits .u64))
private abbrev e7 (hi : Int) (y_ : Int) : Int := IntKind.wrap .u64 (hi * (2 : Int) ^ min (Int.toNat (e2 y_)) (IntKind.bits .u64))
private abbrev e8 (hi : Int) (lo : Int) (y_ : Int) : Int := IntKind.wrap .u64 (↑(BitVec.toNat (BitVec.ofInt (IntKind.bits .u64) (e7 hi y_) ||| BitVec.ofInt (IntKind.bits .u64) (e6 lo y_))) : Int)
private abbrev e9 (y_ : Int) : Int := (2 : Int) ^ min (Int.toNat (e2 y_)) (IntKind.bits .u64)
theorem math_bits_Div64_vc (hi : Int) (lo : Int) (y_ : Int) (r : Int × Int) (h : Option.bind (y51 hi lo y_) some = some r) : runF Tryz.f127 ((sp_150 sp0)) (fun gs id _ => match id with
 | 0 => some ⟨(Int × Int) × Nat, fun z => ⟨[(2, .w (.c (.d (.i .u64 (e1 y_))))), (8, .w (.c (.d (.i .u64 (e2 y_))))), (9, .w (.c (.d (.i .u64 (Int.fdiv (e1 y_) (e3 )))))), (10, .w (.c (.d (.i .u64 (IntKind.wrap .u64 (↑(BitVec.toNat (BitVec.ofInt (IntKind.bits .u64) (e1 y_) &&& BitVec.ofInt (IntKind.bits .u64) (4294967295 : Int))) : Int)))))), (11, .w (.c (.d (.i .u64 (e8 hi lo y_))))), (13, .w (.c (.d (.i .u64 (Int.fdiv (e4 lo y_) (e3 )))))), (14, .w (.c (.d (.i .u64 (IntKind.wrap .u64 (↑(BitVec.toNat (BitVec.ofInt (IntKind.bits .u64) (e4 lo y_) &&& BitVec.ofInt (IntKind.bits .u64) (4294967295 : Int))) : Int)))))), (15, .w (.c (.d (.i .u64 (Prod.fst (Prod.fst z)))))), (16, .w (.c (.d (.i .u64 (Prod.snd (Prod.fst z))))))], [], 3⟩, fun z => Option.bind (iter (y57 lo y_ (e5 y_)) (Prod.snd z) (Prod.fst z)) (fun y0 => Option.bind (y58 hi lo y_ (e5 y_) y0) some) = some r, fun z => Prod.snd z⟩
 | 2 => some ⟨Int × (Int × Int) × Nat, fun z => ⟨[(2, .w (.c (.d (.i .u64 (e1 y_))))), (8, .w (.c (.d (.i .u64 (e2 y_))))), (9, .w (.c (.d (.i .u64 (Int.fdiv (e1 y_) (e3 )))))), (10, .w (.c (.d (.i .u64 (IntKind.wrap .u64 (↑(BitVec.toNat (BitVec.ofInt (IntKind.bits .u64) (e1 y_) &&& BitVec.ofInt (IntKind.bits .u64) (4294967295 : Int))) : Int)))))), (14, .w (.c (.d (.i .u64 (IntKind.wrap .u64 (↑(BitVec.toNat (BitVec.ofInt (IntKind.bits .u64) (e4 lo y_) &&& BitVec.ofInt (IntKind.bits .u64) (4294967295 : Int))) : Int)))))), (15, .w (.c (.d (.i .u64 (Prod.fst z))))), (16, .w (.c (.d (.i .u64 (Prod.fst (Prod.fst (Prod.snd z))))))), (17, .w (.c (.d (.i .u64 (IntKind.wrap .u64 (IntKind.wrap .u64 (e0 hi lo y_) - IntKind.wrap .u64 (Prod.fst z * IntKind.wrap .u64 (y_ * (2 : Int) ^ min (Int.toNat (e2 y_)) (IntKind.bits .u64))))))))), (18, .w (.c (.d (.i .u64 (Prod.snd (Prod.fst (Prod.snd z)))))))], [], 3⟩, fun z => Option.bind (iter (y12 lo y_ (e5 y_)) (Prod.snd (Prod.snd z)) (Prod.fst (Prod.snd z))) (fun y0 => Option.bind (y13 hi lo y_ (Prod.fst z) (e5 y_) y0) some) = some r, fun z => Prod.snd (Prod.snd z)⟩
 | _ => none) [.d (.i .u64 hi), .d (.i .u64 lo), .d (.i .u64 y_)] [.d (.i .u64 r.1), .d (.i .u64 r.2)] := by
  refine Eq.mp (by kernel_rfl : (
 Br (y_ == (0 : Int))
   (False)
 (Br (decide (y_ ≤ hi))
   (False)
 (Br (hi == (0 : Int))
   ((Ob (y_ ≠ (0 : Int)) ∧
 (Ob (y_ ≠ (0 : Int)) ∧
 (Ob (True) ∧
 (Ob (True) ∧
 (Ob (IntKind.wrap .u64 (Int.tdiv lo y_) = r.1) ∧
 (Ob (Int.tmod lo y_ = r.2) ∧
 True)))))))
   ((Ob (ok (y10 y_)) ∧
 (Ob (True) ∧
 (Ob ((0 : Int) ≤ IntKind.wrap .u64 (e5 y_)) ∧
 (Ob ((0 : Int) ≤ (32 : Int)) ∧
 (Ob ((0 : Int) ≤ IntKind.wrap .u64 (e5 y_)) ∧
 (Ob ((0 : Int) ≤ IntKind.wrap .u64 ((64 : Int) - IntKind.wrap .u64 (e5 y_))) ∧
 (Ob ((0 : Int) ≤ IntKind.wrap .u64 (e5 y_)) ∧
 (Ob ((0 : Int) ≤ (32 : Int)) ∧
 (Ob (Int.fdiv (e1 y_) (e3 ) ≠ (0 : Int)) ∧
   ((∃ (v0 : (Int × Int) × Nat), (Ob ((Option.bind (iter (y57 lo y_ (e5 y_)) v0.2 v0.1) fun y0 => Option.bind (y58 hi lo y_ (e5 y_) y0) some) = some r) ∧
 (Ob (IntKind.wrap .u64 (y_ * (2 : Int) ^ min (Int.toNat (e2 y_)) (IntKind.bits .u64)) = IntKind.wrap .u64 (y_ * (2 : Int) ^ min (Int.toNat (e2 y_)) (IntKind.bits .u64))) ∧
 (Ob (IntKind.wrap .u64 (e5 y_) = IntKind.wrap .u64 (e5 y_)) ∧
 (Ob (Int.fdiv (e1 y_) (e3 ) = Int.fdiv (e1 y_) (e3 )) ∧
 (Ob (IntKind.wrap .u64 (↑(BitVec.toNat (BitVec.ofInt (IntKind.bits .u64) (e1 y_) &&& BitVec.ofInt (IntKind.bits .u64) (4294967295 : Int))) : Int) = IntKind.wrap .u64 (↑(BitVec.toNat (BitVec.ofInt (IntKind.bits .u64) (e1 y_) &&& BitVec.ofInt (IntKind.bits .u64) (4294967295 : Int))) : Int)) ∧
 (Ob (IntKind.wrap .u64 (↑(BitVec.toNat (BitVec.ofInt (IntKind.bits .u64) (e7 hi y_) ||| BitVec.ofInt (IntKind.bits .u64) (e6 lo y_))) : Int) = IntKind.wrap .u64 (↑(BitVec.toNat (BitVec.ofInt (IntKind.bits .u64) (e7 hi y_) ||| BitVec.ofInt (IntKind.bits .u64) (e6 lo y_))) : Int)) ∧
 (Ob (Int.fdiv (e4 lo y_) (e3 ) = Int.fdiv (e4 lo y_) (e3 )) ∧
 (Ob (IntKind.wrap .u64 (↑(BitVec.toNat (BitVec.ofInt (IntKind.bits .u64) (e4 lo y_) &&& BitVec.ofInt (IntKind.bits .u64) (4294967295 : Int))) : Int) = IntKind.wrap .u64 (↑(BitVec.toNat (BitVec.ofInt (IntKind.bits .u64) (e4 lo y_) &&& BitVec.ofInt (IntKind.bits .u64) (4294967295 : Int))) : Int)) ∧
 (Ob (IntKind.wrap .u64 (Int.tdiv (e8 hi lo y_) (Int.fdiv (e1 y_) (e3 ))) = v0.1.1) ∧
 (Ob (IntKind.wrap .u64 (IntKind.wrap .u64 (↑(BitVec.toNat (BitVec.ofInt (IntKind.bits .u64) (e7 hi y_) ||| BitVec.ofInt (IntKind.bits .u64) (e6 lo y_))) : Int) - IntKind.wrap .u64 (IntKind.wrap .u64 (Int.tdiv (e8 hi lo y_) (Int.fdiv (e1 y_) (e3 ))) * Int.fdiv (e1 y_) (e3 ))) = v0.1.2) ∧
 True))))))))))) ∧
   (∀ (v0 : (Int × Int) × Nat), ((Option.bind (iter (y57 lo y_ (e5 y_)) v0.2 v0.1) fun y0 => Option.bind (y58 hi lo y_ (e5 y_) y0) some) = some r →
 Br (decide (v0.1.1 ≥ (4294967296 : Int)))
 (Br (decide (IntKind.wrap .u64 (v0.1.2 + Int.fdiv (e1 y_) (e3 )) ≥ (4294967296 : Int)))
   ((Ob (Int.fdiv (e1 y_) (e3 ) ≠ (0 : Int)) ∧
   ((∃ (v1 : Int × (Int × Int) × Nat), (Ob ((Option.bind (iter (y12 lo y_ (e5 y_)) v1.2.2 v1.2.1) fun y0 => Option.bind (y13 hi lo y_ v1.1 (e5 y_) y0) some) = some r) ∧
 (Ob (IntKind.wrap .u64 (y_ * (2 : Int) ^ min (Int.toNat (e2 y_)) (IntKind.bits .u64)) = IntKind.wrap .u64 (y_ * (2 : Int) ^ min (Int.toNat (e2 y_)) (IntKind.bits .u64))) ∧
 (Ob (IntKind.wrap .u64 (e5 y_) = IntKind.wrap .u64 (e5 y_)) ∧
 (Ob (Int.fdiv (e1 y_) (e3 ) = Int.fdiv (e1 y_) (e3 )) ∧
 (Ob (IntKind.wrap .u64 (↑(BitVec.toNat (BitVec.ofInt (IntKind.bits .u64) (e1 y_) &&& BitVec.ofInt (IntKind.bits .u64) (4294967295 : Int))) : Int) = IntKind.wrap .u64 (↑(BitVec.toNat (BitVec.ofInt (IntKind.bits .u64) (e1 y_) &&& BitVec.ofInt (IntKind.bits .u64) (4294967295 : Int))) : Int)) ∧
 (Ob (IntKind.wrap .u64 (↑(BitVec.toNat (BitVec.ofInt (IntKind.bits .u64) (e4 lo y_) &&& BitVec.ofInt (IntKind.bits .u64) (4294967295 : Int))) : Int) = IntKind.wrap .u64 (↑(BitVec.toNat (BitVec.ofInt (IntKind.bits .u64) (e4 lo y_) &&& BitVec.ofInt (IntKind.bits .u64) (4294967295 : Int))) : Int)) ∧
 (Ob (IntKind.wrap .u64 (v0.1.1 - (1 : Int)) = v1.1) ∧
 (Ob (IntKind.wrap .u64 (IntKind.wrap .u64 (IntKind.wrap .u64 (e0 hi lo y_) - IntKind.wrap .u64 (IntKind.wrap .u64 (v0.1.1 - (1 : Int)) * IntKind.wrap .u64 (y_ * (2 : Int) ^ min (Int.toNat (e2 y_)) (IntKind.bits .u64)))) - IntKind.wrap .u64 (IntKind.wrap .u64 (Int.tdiv (IntKind.wrap .u64 (IntKind.wrap .u64 (e0 hi lo y_) - IntKind.wrap .u64 (IntKind.wrap .u64 (v0.1.1 - (1 : Int)) * IntKind.wrap .u64 (y_ * (2 : Int) ^ min (Int.toNat (e2 y_)) (IntKind.bits .u64))))) (Int.fdiv (e1 y_) (e3 ))) * Int.fdiv (e1 y_) (e3 ))) = v1.2.1.1) ∧
 (Ob (IntKind.wrap .u64 (IntKind.wrap .u64 (e0 hi lo y_) - IntKind.wrap .u64 (IntKind.wrap .u64 (v0.1.1 - (1 : Int)) * IntKind.wrap .u64 (y_ * (2 : Int) ^ min (Int.toNat (e2 y_)) (IntKind.bits .u64)))) = IntKind.wrap .u64 (IntKind.wrap .u64 (e0 hi lo y_) - IntKind.wrap .u64 (v1.1 * IntKind.wrap .u64 (y_ * (2 : Int) ^ min (Int.toNat (e2 y_)) (IntKind.bits .u64))))) ∧
 (Ob (IntKind.wrap .u64 (Int.tdiv (IntKind.wrap .u64 (IntKind.wrap .u64 (e0 hi lo y_) - IntKind.wrap .u64 (IntKind.wrap .u64 (v0.1.1 - (1 : Int)) * IntKind.wrap .u64 (y_ * (2 : Int) ^ min (Int.toNat (e2 y_)) (IntKind.bits .u64))))) (Int.fdiv (e1 y_) (e3 ))) = v1.2.1.2) ∧
 True))))))))))) ∧
   (∀ (v1 : Int × (Int × Int) × Nat), ((Option.bind (iter (y12 lo y_ (e5 y_)) v1.2.2 v1.2.1) fun y0 => Option.bind (y13 hi lo y_ v1.1 (e5 y_) y0) some) = some r →
 Br (decide (v1.2.1.2 ≥ (4294967296 : Int)))
 (Br (decide (IntKind.wrap .u64 (v1.2.1.1 + Int.fdiv (e1 y_) (e3 )) ≥ (4294967296 : Int)))
   ((Ob ((0 : Int) ≤ IntKind.wrap .u64 (e5 y_)) ∧
 (Ob (True) ∧
 (Ob (True) ∧
 (Ob (IntKind.wrap .u64 (IntKind.wrap .u64 (v1.1 * (4294967296 : Int)) + IntKind.wrap .u64 (v1.2.1.2 - (1 : Int))) = r.1) ∧
 (Ob (Int.fdiv (IntKind.wrap .u64 (IntKind.wrap .u64 (IntKind.wrap .u64 (IntKind.wrap .u64 (IntKind.wrap .u64 (e0 hi lo y_) - IntKind.wrap .u64 (v1.1 * IntKind.wrap .u64 (y_ * (2 : Int) ^ min (Int.toNat (e2 y_)) (IntKind.bits .u64)))) * (4294967296 : Int)) + IntKind.wrap .u64 (↑(BitVec.toNat (BitVec.ofInt (IntKind.bits .u64) (e4 lo y_) &&& BitVec.ofInt (IntKind.bits .u64) (4294967295 : Int))) : Int)) - IntKind.wrap .u64 (IntKind.wrap .u64 (v1.2.1.2 - (1 : Int)) * IntKind.wrap .u64 (y_ * (2 : Int) ^ min (Int.toNat (e2 y_)) (IntKind.bits .u64))))) (e9 y_) = r.2) ∧
 True))))))
   ((∃ (v2 : Int × (Int × Int) × Nat), (Ob ((Option.bind (iter (y12 lo y_ (e5 y_)) v2.2.2 v2.2.1) fun y0 => Option.bind (y13 hi lo y_ v2.1 (e5 y_) y0) some) = some r) ∧
 (Ob (v2.2.2 < v1.2.2) ∧
 (Ob (IntKind.wrap .u64 (y_ * (2 : Int) ^ min (Int.toNat (e2 y_)) (IntKind.bits .u64)) = IntKind.wrap .u64 (y_ * (2 : Int) ^ min (Int.toNat (e2 y_)) (IntKind.bits .u64))) ∧
 (Ob (IntKind.wrap .u64 (e5 y_) = IntKind.wrap .u64 (e5 y_)) ∧
 (Ob (Int.fdiv (e1 y_) (e3 ) = Int.fdiv (e1 y_) (e3 )) ∧
 (Ob (IntKind.wrap .u64 (↑(BitVec.toNat (BitVec.ofInt (IntKind.bits .u64) (e1 y_) &&& BitVec.ofInt (IntKind.bits .u64) (4294967295 : Int))) : Int) = IntKind.wrap .u64 (↑(BitVec.toNat (BitVec.ofInt (IntKind.bits .u64) (e1 y_) &&& BitVec.ofInt (IntKind.bits .u64) (4294967295 : Int))) : Int)) ∧
 (Ob (IntKind.wrap .u64 (↑(BitVec.toNat (BitVec.ofInt (IntKind.bits .u64) (e4 lo y_) &&& BitVec.ofInt (IntKind.bits .u64) (4294967295 : Int))) : Int) = IntKind.wrap .u64 (↑(BitVec.toNat (BitVec.ofInt (IntKind.bits .u64) (e4 lo y_) &&& BitVec.ofInt (IntKind.bits .u64) (4294967295 : Int))) : Int)) ∧
 (Ob (v1.1 = v2.1) ∧
 (Ob (IntKind.wrap .u64 (v1.2.1.1 + Int.fdiv (e1 y_) (e3 )) = v2.2.1.1) ∧
 (Ob (IntKind.wrap .u64 (IntKind.wrap .u64 (e0 hi lo y_) - IntKind.wrap .u64 (v1.1 * IntKind.wrap .u64 (y_ * (2 : Int) ^ min (Int.toNat (e2 y_)) (IntKind.bits .u64)))) = IntKind.wrap .u64 (IntKind.wrap .u64 (e0 hi lo y_) - IntKind.wrap .u64 (v2.1 * IntKind.wrap .u64 (y_ * (2 : Int) ^ min (Int.toNat (e2 y_)) (IntKind.bits .u64))))) ∧
 (Ob (IntKind.wrap .u64 (v1.2.1.2 - (1 : Int)) = v2.2.1.2) ∧
 True))))))))))))))
 (Br (decide (IntKind.wrap .u64 (v1.2.1.2 * IntKind.wrap .u64 (↑(BitVec.toNat (BitVec.ofInt (IntKind.bits .u64) (e1 y_) &&& BitVec.ofInt (IntKind.bits .u64) (4294967295 : Int))) : Int)) > IntKind.wrap .u64 (IntKind.wrap .u64 ((4294967296 : Int) * v1.2.1.1) + IntKind.wrap .u64 (↑(BitVec.toNat (BitVec.ofInt (IntKind.bits .u64) (e4 lo y_) &&& BitVec.ofInt (IntKind.bits .u64) (4294967295 : Int))) : Int))))
 (Br (decide (IntKind.wrap .u64 (v1.2.1.1 + Int.fdiv (e1 y_) (e3 )) ≥ (4294967296 : Int)))
   ((Ob ((0 : Int) ≤ IntKind.wrap .u64 (e5 y_)) ∧
 (Ob (True) ∧
 (Ob (True) ∧
 (Ob (IntKind.wrap .u64 (IntKind.wrap .u64 (v1.1 * (4294967296 : Int)) + IntKind.wrap .u64 (v1.2.1.2 - (1 : Int))) = r.1) ∧
 (Ob (Int.fdiv (IntKind.wrap .u64 (IntKind.wrap .u64 (IntKind.wrap .u64 (IntKind.wrap .u64 (IntKind.wrap .u64 (e0 hi lo y_) - IntKind.wrap .u64 (v1.1 * IntKind.wrap .u64 (y_ * (2 : Int) ^ min (Int.toNat (e2 y_)) (IntKind.bits .u64)))) * (4294967296 : Int)) + IntKind.wrap .u64 (↑(BitVec.toNat (BitVec.ofInt (IntKind.bits .u64) (e4 lo y_) &&& BitVec.ofInt (IntKind.bits .u64) (4294967295 : Int))) : Int)) - IntKind.wrap .u64 (IntKind.wrap .u64 (v1.2.1.2 - (1 : Int)) * IntKind.wrap .u64 (y_ * (2 : Int) ^ min (Int.toNat (e2 y_)) (IntKind.bits .u64))))) (e9 y_) = r.2) ∧
 True))))))
   ((∃ (v2 : Int × (Int × Int) × Nat), (Ob ((Option.bind (iter (y12 lo y_ (e5 y_)) v2.2.2 v2.2.1) fun y0 => Option.bind (y13 hi lo y_ v2.1 (e5 y_) y0) some) = some r) ∧
 (Ob (v2.2.2 < v1.2.2) ∧
 (Ob (IntKind.wrap .u64 (y_ * (2 : Int) ^ min (Int.toNat (e2 y_)) (IntKind.bits .u64)) = IntKind.wrap .u64 (y_ * (2 : Int) ^ min (Int.toNat (e2 y_)) (IntKind.bits .u64))) ∧
 (Ob (IntKind.wrap .u64 (e5 y_) = IntKind.wrap .u64 (e5 y_)) ∧
 (Ob (Int.fdiv (e1 y_) (e3 ) = Int.fdiv (e1 y_) (e3 )) ∧
 (Ob (IntKind.wrap .u64 (↑(BitVec.toNat (BitVec.ofInt (IntKind.bits .u64) (e1 y_) &&& BitVec.ofInt (IntKind.bits .u64) (4294967295 : Int))) : Int) = IntKind.wrap .u64 (↑(BitVec.toNat (BitVec.ofInt (IntKind.bits .u64) (e1 y_) &&& BitVec.ofInt (IntKind.bits .u64) (4294967295 : Int))) : Int)) ∧
 (Ob (IntKind.wrap .u64 (↑(BitVec.toNat (BitVec.ofInt (IntKind.bits .u64) (e4 lo y_) &&& BitVec.ofInt (IntKind.bits .u64) (4294967295 : Int))) : Int) = IntKind.wrap .u64 (↑(BitVec.toNat (BitVec.ofInt (IntKind.bits .u64) (e4 lo y_) &&& BitVec.ofInt (IntKind.bits .u64) (4294967295 : Int))) : Int)) ∧
 (Ob (v1.1 = v2.1) ∧
 (Ob (IntKind.wrap .u64 (v1.2.1.1 + Int.fdiv (e1 y_) (e3 )) = v2.2.1.1) ∧
 (Ob (IntKind.wrap .u64 (IntKind.wrap .u64 (e0 hi lo y_) - IntKind.wrap .u64 (v1.1 * IntKind.wrap .u64 (y_ * (2 : Int) ^ min (Int.toNat (e2 y_)) (IntKind.bits .u64)))) = IntKind.wrap .u64 (IntKind.wrap .u64 (e0 hi lo y_) - IntKind.wrap .u64 (v2.1 * IntKind.wrap .u64 (y_ * (2 : Int) ^ min (Int.toNat (e2 y_)) (IntKind.bits .u64))))) ∧
 (Ob (IntKind.wrap .u64 (v1.2.1.2 - (1 : Int)) = v2.2.1.2) ∧
 True))))))))))))))
   ((Ob ((0 : Int) ≤ IntKind.wrap .u64 (e5 y_)) ∧
 (Ob (True) ∧
 (Ob (True) ∧
 (Ob (IntKind.wrap .u64 (IntKind.wrap .u64 (v1.1 * (4294967296 : Int)) + v1.2.1.2) = r.1) ∧
 (Ob (Int.fdiv (IntKind.wrap .u64 (IntKind.wrap .u64 (IntKind.wrap .u64 (IntKind.wrap .u64 (IntKind.wrap .u64 (e0 hi lo y_) - IntKind.wrap .u64 (v1.1 * IntKind.wrap .u64 (y_ * (2 : Int) ^ min (Int.toNat (e2 y_)) (IntKind.bits .u64)))) * (4294967296 : Int)) + IntKind.wrap .u64 (↑(BitVec.toNat (BitVec.ofInt (IntKind.bits .u64) (e4 lo y_) &&& BitVec.ofInt (IntKind.bits .u64) (4294967295 : Int))) : Int)) - IntKind.wrap .u64 (v1.2.1.2 * IntKind.wrap .u64 (y_ * (2 : Int) ^ min (Int.toNat (e2 y_)) (IntKind.bits .u64))))) (e9 y_) = r.2) ∧
 True))))))))))))
   ((∃ (v1 : (Int × Int) × Nat), (Ob ((Option.bind (iter (y57 lo y_ (e5 y_)) v1.2 v1.1) fun y0 => Option.bind (y58 hi lo y_ (e5 y_) y0) some) = some r) ∧
 (Ob (v1.2 < v0.2) ∧
 (Ob (IntKind.wrap .u64 (y_ * (2 : Int) ^ min (Int.toNat (e2 y_)) (IntKind.bits .u64)) = IntKind.wrap .u64 (y_ * (2 : Int) ^ min (Int.toNat (e2 y_)) (IntKind.bits .u64))) ∧
 (Ob (IntKind.wrap .u64 (e5 y_) = IntKind.wrap .u64 (e5 y_)) ∧
 (Ob (Int.fdiv (e1 y_) (e3 ) = Int.fdiv (e1 y_) (e3 )) ∧
 (Ob (IntKind.wrap .u64 (↑(BitVec.toNat (BitVec.ofInt (IntKind.bits .u64) (e1 y_) &&& BitVec.ofInt (IntKind.bits .u64) (4294967295 : Int))) : Int) = IntKind.wrap .u64 (↑(BitVec.toNat (BitVec.ofInt (IntKind.bits .u64) (e1 y_) &&& BitVec.ofInt (IntKind.bits .u64) (4294967295 : Int))) : Int)) ∧
 (Ob (IntKind.wrap .u64 (↑(BitVec.toNat (BitVec.ofInt (IntKind.bits .u64) (e7 hi y_) ||| BitVec.ofInt (IntKind.bits .u64) (e6 lo y_))) : Int) = IntKind.wrap .u64 (↑(BitVec.toNat (BitVec.ofInt (IntKind.bits .u64) (e7 hi y_) ||| BitVec.ofInt (IntKind.bits .u64) (e6 lo y_))) : Int)) ∧
 (Ob (Int.fdiv (e4 lo y_) (e3 ) = Int.fdiv (e4 lo y_) (e3 )) ∧
 (Ob (IntKind.wrap .u64 (↑(BitVec.toNat (BitVec.ofInt (IntKind.bits .u64) (e4 lo y_) &&& BitVec.ofInt (IntKind.bits .u64) (4294967295 : Int))) : Int) = IntKind.wrap .u64 (↑(BitVec.toNat (BitVec.ofInt (IntKind.bits .u64) (e4 lo y_) &&& BitVec.ofInt (IntKind.bits .u64) (4294967295 : Int))) : Int)) ∧
 (Ob (IntKind.wrap .u64 (v0.1.1 - (1 : Int)) = v1.1.1) ∧
 (Ob (IntKind.wrap .u64 (v0.1.2 + Int.fdiv (e1 y_) (e3 )) = v1.1.2) ∧
 True))))))))))))))
 (Br (decide (IntKind.wrap .u64 (v0.1.1 * IntKind.wrap .u64 (↑(BitVec.toNat (BitVec.ofInt (IntKind.bits .u64) (e1 y_) &&& BitVec.ofInt (IntKind.bits .u64) (4294967295 : Int))) : Int)) > IntKind.wrap .u64 (IntKind.wrap .u64 ((4294967296 : Int) * v0.1.2) + Int.fdiv (e4 lo y_) (e3 ))))
 (Br (decide (IntKind.wrap .u64 (v0.1.2 + Int.fdiv (e1 y_) (e3 )) ≥ (4294967296 : Int)))
   ((Ob (Int.fdiv (e1 y_) (e3 ) ≠ (0 : Int)) ∧
   ((∃ (v1 : Int × (Int × Int) × Nat), (Ob ((Option.bind (iter (y12 lo y_ (e5 y_)) v1.2.2 v1.2.1) fun y0 => Option.bind (y13 hi lo y_ v1.1 (e5 y_) y0) some) = some r) ∧
 (Ob (IntKind.wrap .u64 (y_ * (2 : Int) ^ min (Int.toNat (e2 y_)) (IntKind.bits .u64)) = IntKind.wrap .u64 (y_ * (2 : Int) ^ min (Int.toNat (e2 y_)) (IntKind.bits .u64))) ∧
 (Ob (IntKind.wrap .u64 (e5 y_) = IntKind.wrap .u64 (e5 y_)) ∧
 (Ob (Int.fdiv (e1 y_) (e3 ) = Int.fdiv (e1 y_) (e3 )) ∧
 (Ob (IntKind.wrap .u64 (↑(BitVec.toNat (BitVec.ofInt (IntKind.bits .u64) (e1 y_) &&& BitVec.ofInt (IntKind.bits .u64) (4294967295 : Int))) : Int) = IntKind.wrap .u64 (↑(BitVec.toNat (BitVec.ofInt (IntKind.bits .u64) (e1 y_) &&& BitVec.ofInt (IntKind.bits .u64) (4294967295 : Int))) : Int)) ∧
 (Ob (IntKind.wrap .u64 (↑(BitVec.toNat (BitVec.ofInt (IntKind.bits .u64) (e4 lo y_) &&& BitVec.ofInt (IntKind.bits .u64) (4294967295 : Int))) : Int) = IntKind.wrap .u64 (↑(BitVec.toNat (BitVec.ofInt (IntKind.bits .u64) (e4 lo y_) &&& BitVec.ofInt (IntKind.bits .u64) (4294967295 : Int))) : Int)) ∧
 (Ob (IntKind.wrap .u64 (v0.1.1 - (1 : Int)) = v1.1) ∧
 (Ob (IntKind.wrap .u64 (IntKind.wrap .u64 (IntKind.wrap .u64 (e0 hi lo y_) - IntKind.wrap .u64 (IntKind.wrap .u64 (v0.1.1 - (1 : Int)) * IntKind.wrap .u64 (y_ * (2 : Int) ^ min (Int.toNat (e2 y_)) (IntKind.bits .u64)))) - IntKind.wrap .u64 (IntKind.wrap .u64 (Int.tdiv (IntKind.wrap .u64 (IntKind.wrap .u64 (e0 hi lo y_) - IntKind.wrap .u64 (IntKind.wrap .u64 (v0.1.1 - (1 : Int)) * IntKind.wrap .u64 (y_ * (2 : Int) ^ min (Int.toNat (e2 y_)) (IntKind.bits .u64))))) (Int.fdiv (e1 y_) (e3 ))) * Int.fdiv (e1 y_) (e3 ))) = v1.2.1.1) ∧
 (Ob (IntKind.wrap .u64 (IntKind.wrap .u64 (e0 hi lo y_) - IntKind.wrap .u64 (IntKind.wrap .u64 (v0.1.1 - (1 : Int)) * IntKind.wrap .u64 (y_ * (2 : Int) ^ min (Int.toNat (e2 y_)) (IntKind.bits .u64)))) = IntKind.wrap .u64 (IntKind.wrap .u64 (e0 hi lo y_) - IntKind.wrap .u64 (v1.1 * IntKind.wrap .u64 (y_ * (2 : Int) ^ min (Int.toNat (e2 y_)) (IntKind.bits .u64))))) ∧
 (Ob (IntKind.wrap .u64 (Int.tdiv (IntKind.wrap .u64 (IntKind.wrap .u64 (e0 hi lo y_) - IntKind.wrap .u64 (IntKind.wrap .u64 (v0.1.1 - (1 : Int)) * IntKind.wrap .u64 (y_ * (2 : Int) ^ min (Int.toNat (e2 y_)) (IntKind.bits .u64))))) (Int.fdiv (e1 y_) (e3 ))) = v1.2.1.2) ∧
 True))))))))))) ∧
   (∀ (v1 : Int × (Int × Int) × Nat), ((Option.bind (iter (y12 lo y_ (e5 y_)) v1.2.2 v1.2.1) fun y0 => Option.bind (y13 hi lo y_ v1.1 (e5 y_) y0) some) = some r →
 Br (decide (v1.2.1.2 ≥ (4294967296 : Int)))
 (Br (decide (IntKind.wrap .u64 (v1.2.1.1 + Int.fdiv (e1 y_) (e3 )) ≥ (4294967296 : Int)))
   ((Ob ((0 : Int) ≤ IntKind.wrap .u64 (e5 y_)) ∧
 (Ob (True) ∧
 (Ob (True) ∧
 (Ob (IntKind.wrap .u64 (IntKind.wrap .u64 (v1.1 * (4294967296 : Int)) + IntKind.wrap .u64 (v1.2.1.2 - (1 : Int))) = r.1) ∧
 (Ob (Int.fdiv (IntKind.wrap .u64 (IntKind.wrap .u64 (IntKind.wrap .u64 (IntKind.wrap .u64 (IntKind.wrap .u64 (e0 hi lo y_) - IntKind.wrap .u64 (v1.1 * IntKind.wrap .u64 (y_ * (2 : Int) ^ min (Int.toNat (e2 y_)) (IntKind.bits .u64)))) * (4294967296 : Int)) + IntKind.wrap .u64 (↑(BitVec.toNat (BitVec.ofInt (IntKind.bits .u64) (e4 lo y_) &&& BitVec.ofInt (IntKind.bits .u64) (4294967295 : Int))) : Int)) - IntKind.wrap .u64 (IntKind.wrap .u64 (v1.2.1.2 - (1 : Int)) * IntKind.wrap .u64 (y_ * (2 : Int) ^ min (Int.toNat (e2 y_)) (IntKind.bits .u64))))) (e9 y_) = r.2) ∧
 True))))))
   ((∃ (v2 : Int × (Int × Int) × Nat), (Ob ((Option.bind (iter (y12 lo y_ (e5 y_)) v2.2.2 v2.2.1) fun y0 => Option.bind (y13 hi lo y_ v2.1 (e5 y_) y0) some) = some r) ∧
 (Ob (v2.2.2 < v1.2.2) ∧
 (Ob (IntKind.wrap .u64 (y_ * (2 : Int) ^ min (Int.toNat (e2 y_)) (IntKind.bits .u64)) = IntKind.wrap .u64 (y_ * (2 : Int) ^ min (Int.toNat (e2 y_)) (IntKind.bits .u64))) ∧
 (Ob (IntKind.wrap .u64 (e5 y_) = IntKind.wrap .u64 (e5 y_)) ∧
 (Ob (Int.fdiv (e1 y_) (e3 ) = Int.fdiv (e1 y_) (e3 )) ∧
 (Ob (IntKind.wrap .u64 (↑(BitVec.toNat (BitVec.ofInt (IntKind.bits .u64) (e1 y_) &&& BitVec.ofInt (IntKind.bits .u64) (4294967295 : Int))) : Int) = IntKind.wrap .u64 (↑(BitVec.toNat (BitVec.ofInt (IntKind.bits .u64) (e1 y_) &&& BitVec.ofInt (IntKind.bits .u64) (4294967295 : Int))) : Int)) ∧
 (Ob (IntKind.wrap .u64 (↑(BitVec.toNat (BitVec.ofInt (IntKind.bits .u64) (e4 lo y_) &&& BitVec.ofInt (IntKind.bits .u64) (4294967295 : Int))) : Int) = IntKind.wrap .u64 (↑(BitVec.toNat (BitVec.ofInt (IntKind.bits .u64) (e4 lo y_) &&& BitVec.ofInt (IntKind.bits .u64) (4294967295 : Int))) : Int)) ∧
 (Ob (v1.1 = v2.1) ∧
 (Ob (IntKind.wrap .u64 (v1.2.1.1 + Int.fdiv (e1 y_) (e3 )) = v2.2.1.1) ∧
 (Ob (IntKind.wrap .u64 (IntKind.wrap .u64 (e0 hi lo y_) - IntKind.wrap .u64 (v1.1 * IntKind.wrap .u64 (y_ * (2 : Int) ^ min (Int.toNat (e2 y_)) (IntKind.bits .u64)))) = IntKind.wrap .u64 (IntKind.wrap .u64 (e0 hi lo y_) - IntKind.wrap .u64 (v2.1 * IntKind.wrap .u64 (y_ * (2 : Int) ^ min (Int.toNat (e2 y_)) (IntKind.bits .u64))))) ∧
 (Ob (IntKind.wrap .u64 (v1.2.1.2 - (1 : Int)) = v2.2.1.2) ∧
 True))))))))))))))
 (Br (decide (IntKind.wrap .u64 (v1.2.1.2 * IntKind.wrap .u64 (↑(BitVec.toNat (BitVec.ofInt (IntKind.bits .u64) (e1 y_) &&& BitVec.ofInt (IntKind.bits .u64) (4294967295 : Int))) : Int)) > IntKind.wrap .u64 (IntKind.wrap .u64 ((4294967296 : Int) * v1.2.1.1) + IntKind.wrap .u64 (↑(BitVec.toNat (BitVec.ofInt (IntKind.bits .u64) (e4 lo y_) &&& BitVec.ofInt (IntKind.bits .u64) (4294967295 : Int))) : Int))))
 (Br (decide (IntKind.wrap .u64 (v1.2.1.1 + Int.fdiv (e1 y_) (e3 )) ≥ (4294967296 : Int)))
   ((Ob ((0 : Int) ≤ IntKind.wrap .u64 (e5 y_)) ∧
 (Ob (True) ∧
 (Ob (True) ∧
 (Ob (IntKind.wrap .u64 (IntKind.wrap .u64 (v1.1 * (4294967296 : Int)) + IntKind.wrap .u64 (v1.2.1.2 - (1 : Int))) = r.1) ∧
 (Ob (Int.fdiv (IntKind.wrap .u64 (IntKind.wrap .u64 (IntKind.wrap .u64 (IntKind.wrap .u64 (IntKind.wrap .u64 (e0 hi lo y_) - IntKind.wrap .u64 (v1.1 * IntKind.wrap .u64 (y_ * (2 : Int) ^ min (Int.toNat (e2 y_)) (IntKind.bits .u64)))) * (4294967296 : Int)) + IntKind.wrap .u64 (↑(BitVec.toNat (BitVec.ofInt (IntKind.bits .u64) (e4 lo y_) &&& BitVec.ofInt (IntKind.bits .u64) (4294967295 : Int))) : Int)) - IntKind.wrap .u64 (IntKind.wrap .u64 (v1.2.1.2 - (1 : Int)) * IntKind.wrap .u64 (y_ * (2 : Int) ^ min (Int.toNat (e2 y_)) (IntKind.bits .u64))))) (e9 y_) = r.2) ∧
 True))))))
   ((∃ (v2 : Int × (Int × Int) × Nat), (Ob ((Option.bind (iter (y12 lo y_ (e5 y_)) v2.2.2 v2.2.1) fun y0 => Option.bind (y13 hi lo y_ v2.1 (e5 y_) y0) some) = some r) ∧
 (Ob (v2.2.2 < v1.2.2) ∧
 (Ob (IntKind.wrap .u64 (y_ * (2 : Int) ^ min (Int.toNat (e2 y_)) (IntKind.bits .u64)) = IntKind.wrap .u64 (y_ * (2 : Int) ^ min (Int.toNat (e2 y_)) (IntKind.bits .u64))) ∧
 (Ob (IntKind.wrap .u64 (e5 y_) = IntKind.wrap .u64 (e5 y_)) ∧
 (Ob (Int.fdiv (e1 y_) (e3 ) = Int.fdiv (e1 y_) (e3 )) ∧
 (Ob (IntKind.wrap .u64 (↑(BitVec.toNat (BitVec.ofInt (IntKind.bits .u64) (e1 y_) &&& BitVec.ofInt (IntKind.bits .u64) (4294967295 : Int))) : Int) = IntKind.wrap .u64 (↑(BitVec.toNat (BitVec.ofInt (IntKind.bits .u64) (e1 y_) &&& BitVec.ofInt (IntKind.bits .u64) (4294967295 : Int))) : Int)) ∧
 (Ob (IntKind.wrap .u64 (↑(BitVec.toNat (BitVec.ofInt (IntKind.bits .u64) (e4 lo y_) &&& BitVec.ofInt (IntKind.bits .u64) (4294967295 : Int))) : Int) = IntKind.wrap .u64 (↑(BitVec.toNat (BitVec.ofInt (IntKind.bits .u64) (e4 lo y_) &&& BitVec.ofInt (IntKind.bits .u64) (4294967295 : Int))) : Int)) ∧
 (Ob (v1.1 = v2.1) ∧
 (Ob (IntKind.wrap .u64 (v1.2.1.1 + Int.fdiv (e1 y_) (e3 )) = v2.2.1.1) ∧
 (Ob (IntKind.wrap .u64 (IntKind.wrap .u64 (e0 hi lo y_) - IntKind.wrap .u64 (v1.1 * IntKind.wrap .u64 (y_ * (2 : Int) ^ min (Int.toNat (e2 y_)) (IntKind.bits .u64)))) = IntKind.wrap .u64 (IntKind.wrap .u64 (e0 hi lo y_) - IntKind.wrap .u64 (v2.1 * IntKind.wrap .u64 (y_ * (2 : Int) ^ min (Int.toNat (e2 y_)) (IntKind.bits .u64))))) ∧
 (Ob (IntKind.wrap .u64 (v1.2.1.2 - (1 : Int)) = v2.2.1.2) ∧
 True))))))))))))))
   ((Ob ((0 : Int) ≤ IntKind.wrap .u64 (e5 y_)) ∧
 (Ob (True) ∧
 (Ob (True) ∧
 (Ob (IntKind.wrap .u64 (IntKind.wrap .u64 (v1.1 * (4294967296 : Int)) + v1.2.1.2) = r.1) ∧
 (Ob (Int.fdiv (IntKind.wrap .u64 (IntKind.wrap .u64 (IntKind.wrap .u64 (IntKind.wrap .u64 (IntKind.wrap .u64 (e0 hi lo y_) - IntKind.wrap .u64 (v1.1 * IntKind.wrap .u64 (y_ * (2 : Int) ^ min (Int.toNat (e2 y_)) (IntKind.bits .u64)))) * (4294967296 : Int)) + IntKind.wrap .u64 (↑(BitVec.toNat (BitVec.ofInt (IntKind.bits .u64) (e4 lo y_) &&& BitVec.ofInt (IntKind.bits .u64) (4294967295 : Int))) : Int)) - IntKind.wrap .u64 (v1.2.1.2 * IntKind.wrap .u64 (y_ * (2 : Int) ^ min (Int.toNat (e2 y_)) (IntKind.bits .u64))))) (e9 y_) = r.2) ∧
 True))))))))))))
   ((∃ (v1 : (Int × Int) × Nat), (Ob ((Option.bind (iter (y57 lo y_ (e5 y_)) v1.2 v1.1) fun y0 => Option.bind (y58 hi lo y_ (e5 y_) y0) some) = some r) ∧
 (Ob (v1.2 < v0.2) ∧
 (Ob (IntKind.wrap .u64 (y_ * (2 : Int) ^ min (Int.toNat (e2 y_)) (IntKind.bits .u64)) = IntKind.wrap .u64 (y_ * (2 : Int) ^ min (Int.toNat (e2 y_)) (IntKind.bits .u64))) ∧
 (Ob (IntKind.wrap .u64 (e5 y_) = IntKind.wrap .u64 (e5 y_)) ∧
 (Ob (Int.fdiv (e1 y_) (e3 ) = Int.fdiv (e1 y_) (e3 )) ∧
 (Ob (IntKind.wrap .u64 (↑(BitVec.toNat (BitVec.ofInt (IntKind.bits .u64) (e1 y_) &&& BitVec.ofInt (IntKind.bits .u64) (4294967295 : Int))) : Int) = IntKind.wrap .u64 (↑(BitVec.toNat (BitVec.ofInt (IntKind.bits .u64) (e1 y_) &&& BitVec.ofInt (IntKind.bits .u64) (4294967295 : Int))) : Int)) ∧
 (Ob (IntKind.wrap .u64 (↑(BitVec.toNat (BitVec.ofInt (IntKind.bits .u64) (e7 hi y_) ||| BitVec.ofInt (IntKind.bits .u64) (e6 lo y_))) : Int) = IntKind.wrap .u64 (↑(BitVec.toNat (BitVec.ofInt (IntKind.bits .u64) (e7 hi y_) ||| BitVec.ofInt (IntKind.bits .u64) (e6 lo y_))) : Int)) ∧
 (Ob (Int.fdiv (e4 lo y_) (e3 ) = Int.fdiv (e4 lo y_) (e3 )) ∧
 (Ob (IntKind.wrap .u64 (↑(BitVec.toNat (BitVec.ofInt (IntKind.bits .u64) (e4 lo y_) &&& BitVec.ofInt (IntKind.bits .u64) (4294967295 : Int))) : Int) = IntKind.wrap .u64 (↑(BitVec.toNat (BitVec.ofInt (IntKind.bits .u64) (e4 lo y_) &&& BitVec.ofInt (IntKind.bits .u64) (4294967295 : Int))) : Int)) ∧
 (Ob (IntKind.wrap .u64 (v0.1.1 - (1 : Int)) = v1.1.1) ∧
 (Ob (IntKind.wrap .u64 (v0.1.2 + Int.fdiv (e1 y_) (e3 )) = v1.1.2) ∧
 True))))))))))))))
   ((Ob (Int.fdiv (e1 y_) (e3 ) ≠ (0 : Int)) ∧
   ((∃ (v1 : Int × (Int × Int) × Nat), (Ob ((Option.bind (iter (y12 lo y_ (e5 y_)) v1.2.2 v1.2.1) fun y0 => Option.bind (y13 hi lo y_ v1.1 (e5 y_) y0) some) = some r) ∧
 (Ob (IntKind.wrap .u64 (y_ * (2 : Int) ^ min (Int.toNat (e2 y_)) (IntKind.bits .u64)) = IntKind.wrap .u64 (y_ * (2 : Int) ^ min (Int.toNat (e2 y_)) (IntKind.bits .u64))) ∧
 (Ob (IntKind.wrap .u64 (e5 y_) = IntKind.wrap .u64 (e5 y_)) ∧
 (Ob (Int.fdiv (e1 y_) (e3 ) = Int.fdiv (e1 y_) (e3 )) ∧
 (Ob (IntKind.wrap .u64 (↑(BitVec.toNat (BitVec.ofInt (IntKind.bits .u64) (e1 y_) &&& BitVec.ofInt (IntKind.bits .u64) (4294967295 : Int))) : Int) = IntKind.wrap .u64 (↑(BitVec.toNat (BitVec.ofInt (IntKind.bits .u64) (e1 y_) &&& BitVec.ofInt (IntKind.bits .u64) (4294967295 : Int))) : Int)) ∧
 (Ob (IntKind.wrap .u64 (↑(BitVec.toNat (BitVec.ofInt (IntKind.bits .u64) (e4 lo y_) &&& BitVec.ofInt (IntKind.bits .u64) (4294967295 : Int))) : Int) = IntKind.wrap .u64 (↑(BitVec.toNat (BitVec.ofInt (IntKind.bits .u64) (e4 lo y_) &&& BitVec.ofInt (IntKind.bits .u64) (4294967295 : Int))) : Int)) ∧
 (Ob (v0.1.1 = v1.1) ∧
 (Ob (IntKind.wrap .u64 (IntKind.wrap .u64 (IntKind.wrap .u64 (e0 hi lo y_) - IntKind.wrap .u64 (v0.1.1 * IntKind.wrap .u64 (y_ * (2 : Int) ^ min (Int.toNat (e2 y_)) (IntKind.bits .u64)))) - IntKind.wrap .u64 (IntKind.wrap .u64 (Int.tdiv (IntKind.wrap .u64 (IntKind.wrap .u64 (e0 hi lo y_) - IntKind.wrap .u64 (v0.1.1 * IntKind.wrap .u64 (y_ * (2 : Int) ^ min (Int.toNat (e2 y_)) (IntKind.bits .u64))))) (Int.fdiv (e1 y_) (e3 ))) * Int.fdiv (e1 y_) (e3 ))) = v1.2.1.1) ∧
 (Ob (IntKind.wrap .u64 (IntKind.wrap .u64 (e0 hi lo y_) - IntKind.wrap .u64 (v0.1.1 * IntKind.wrap .u64 (y_ * (2 : Int) ^ min (Int.toNat (e2 y_)) (IntKind.bits .u64)))) = IntKind.wrap .u64 (IntKind.wrap .u64 (e0 hi lo y_) - IntKind.wrap .u64 (v1.1 * IntKind.wrap .u64 (y_ * (2 : Int) ^ min (Int.toNat (e2 y_)) (IntKind.bits .u64))))) ∧
 (Ob (IntKind.wrap .u64 (Int.tdiv (IntKind.wrap .u64 (IntKind.wrap .u64 (e0 hi lo y_) - IntKind.wrap .u64 (v0.1.1 * IntKind.wrap .u64 (y_ * (2 : Int) ^ min (Int.toNat (e2 y_)) (IntKind.bits .u64))))) (Int.fdiv (e1 y_) (e3 ))) = v1.2.1.2) ∧
 True))))))))))) ∧
   (∀ (v1 : Int × (Int × Int) × Nat), ((Option.bind (iter (y12 lo y_ (e5 y_)) v1.2.2 v1.2.1) fun y0 => Option.bind (y13 hi lo y_ v1.1 (e5 y_) y0) some) = some r →
 Br (decide (v1.2.1.2 ≥ (4294967296 : Int)))
 (Br (decide (IntKind.wrap .u64 (v1.2.1.1 + Int.fdiv (e1 y_) (e3 )) ≥ (4294967296 : Int)))
   ((Ob ((0 : Int) ≤ IntKind.wrap .u64 (e5 y_)) ∧
 (Ob (True) ∧
 (Ob (True) ∧
 (Ob (IntKind.wrap .u64 (IntKind.wrap .u64 (v1.1 * (4294967296 : Int)) + IntKind.wrap .u64 (v1.2.1.2 - (1 : Int))) = r.1) ∧
 (Ob (Int.fdiv (IntKind.wrap .u64 (IntKind.wrap .u64 (IntKind.wrap .u64 (IntKind.wrap .u64 (IntKind.wrap .u64 (e0 hi lo y_) - IntKind.wrap .u64 (v1.1 * IntKind.wrap .u64 (y_ * (2 : Int) ^ min (Int.toNat (e2 y_)) (IntKind.bits .u64)))) * (4294967296 : Int)) + IntKind.wrap .u64 (↑(BitVec.toNat (BitVec.ofInt (IntKind.bits .u64) (e4 lo y_) &&& BitVec.ofInt (IntKind.bits .u64) (4294967295 : Int))) : Int)) - IntKind.wrap .u64 (IntKind.wrap .u64 (v1.2.1.2 - (1 : Int)) * IntKind.wrap .u64 (y_ * (2 : Int) ^ min (Int.toNat (e2 y_)) (IntKind.bits .u64))))) (e9 y_) = r.2) ∧
 True))))))
   ((∃ (v2 : Int × (Int × Int) × Nat), (Ob ((Option.bind (iter (y12 lo y_ (e5 y_)) v2.2.2 v2.2.1) fun y0 => Option.bind (y13 hi lo y_ v2.1 (e5 y_) y0) some) = some r) ∧
 (Ob (v2.2.2 < v1.2.2) ∧
 (Ob (IntKind.wrap .u64 (y_ * (2 : Int) ^ min (Int.toNat (e2 y_)) (IntKind.bits .u64)) = IntKind.wrap .u64 (y_ * (2 : Int) ^ min (Int.toNat (e2 y_)) (IntKind.bits .u64))) ∧
 (Ob (IntKind.wrap .u64 (e5 y_) = IntKind.wrap .u64 (e5 y_)) ∧
 (Ob (Int.fdiv (e1 y_) (e3 ) = Int.fdiv (e1 y_) (e3 )) ∧
 (Ob (IntKind.wrap .u64 (↑(BitVec.toNat (BitVec.ofInt (IntKind.bits .u64) (e1 y_) &&& BitVec.ofInt (IntKind.bits .u64) (4294967295 : Int))) : Int) = IntKind.wrap .u64 (↑(BitVec.toNat (BitVec.ofInt (IntKind.bits .u64) (e1 y_) &&& BitVec.ofInt (IntKind.bits .u64) (4294967295 : Int))) : Int)) ∧
 (Ob (IntKind.wrap .u64 (↑(BitVec.toNat (BitVec.ofInt (IntKind.bits .u64) (e4 lo y_) &&& BitVec.ofInt (IntKind.bits .u64) (4294967295 : Int))) : Int) = IntKind.wrap .u64 (↑(BitVec.toNat (BitVec.ofInt (IntKind.bits .u64) (e4 lo y_) &&& BitVec.ofInt (IntKind.bits .u64) (4294967295 : Int))) : Int)) ∧
 (Ob (v1.1 = v2.1) ∧
 (Ob (IntKind.wrap .u64 (v1.2.1.1 + Int.fdiv (e1 y_) (e3 )) = v2.2.1.1) ∧
 (Ob (IntKind.wrap .u64 (IntKind.wrap .u64 (e0 hi lo y_) - IntKind.wrap .u64 (v1.1 * IntKind.wrap .u64 (y_ * (2 : Int) ^ min (Int.toNat (e2 y_)) (IntKind.bits .u64)))) = IntKind.wrap .u64 (IntKind.wrap .u64 (e0 hi lo y_) - IntKind.wrap .u64 (v2.1 * IntKind.wrap .u64 (y_ * (2 : Int) ^ min (Int.toNat (e2 y_)) (IntKind.bits .u64))))) ∧
 (Ob (IntKind.wrap .u64 (v1.2.1.2 - (1 : Int)) = v2.2.1.2) ∧
 True))))))))))))))
 (Br (decide (IntKind.wrap .u64 (v1.2.1.2 * IntKind.wrap .u64 (↑(BitVec.toNat (BitVec.ofInt (IntKind.bits .u64) (e1 y_) &&& BitVec.ofInt (IntKind.bits .u64) (4294967295 : Int))) : Int)) > IntKind.wrap .u64 (IntKind.wrap .u64 ((4294967296 : Int) * v1.2.1.1) + IntKind.wrap .u64 (↑(BitVec.toNat (BitVec.ofInt (IntKind.bits .u64) (e4 lo y_) &&& BitVec.ofInt (IntKind.bits .u64) (4294967295 : Int))) : Int))))
 (Br (decide (IntKind.wrap .u64 (v1.2.1.1 + Int.fdiv (e1 y_) (e3 )) ≥ (4294967296 : Int)))
   ((Ob ((0 : Int) ≤ IntKind.wrap .u64 (e5 y_)) ∧
 (Ob (True) ∧
 (Ob (True) ∧
 (Ob (IntKind.wrap .u64 (IntKind.wrap .u64 (v1.1 * (4294967296 : Int)) + IntKind.wrap .u64 (v1.2.1.2 - (1 : Int))) = r.1) ∧
 (Ob (Int.fdiv (IntKind.wrap .u64 (IntKind.wrap .u64 (IntKind.wrap .u64 (IntKind.wrap .u64 (IntKind.wrap .u64 (e0 hi lo y_) - IntKind.wrap .u64 (v1.1 * IntKind.wrap .u64 (y_ * (2 : Int) ^ min (Int.toNat (e2 y_)) (IntKind.bits .u64)))) * (4294967296 : Int)) + IntKind.wrap .u64 (↑(BitVec.toNat (BitVec.ofInt (IntKind.bits .u64) (e4 lo y_) &&& BitVec.ofInt (IntKind.bits .u64) (4294967295 : Int))) : Int)) - IntKind.wrap .u64 (IntKind.wrap .u64 (v1.2.1.2 - (1 : Int)) * IntKind.wrap .u64 (y_ * (2 : Int) ^ min (Int.toNat (e2 y_)) (IntKind.bits .u64))))) (e9 y_) = r.2) ∧
 True))))))
   ((∃ (v2 : Int × (Int × Int) × Nat), (Ob ((Option.bind (iter (y12 lo y_ (e5 y_)) v2.2.2 v2.2.1) fun y0 => Option.bind (y13 hi lo y_ v2.1 (e5 y_) y0) some) = some r) ∧
 (Ob (v2.2.2 < v1.2.2) ∧
 (Ob (IntKind.wrap .u64 (y_ * (2 : Int) ^ min (Int.toNat (e2 y_)) (IntKind.bits .u64)) = IntKind.wrap .u64 (y_ * (2 : Int) ^ min (Int.toNat (e2 y_)) (IntKind.bits .u64))) ∧
 (Ob (IntKind.wrap .u64 (e5 y_) = IntKind.wrap .u64 (e5 y_)) ∧
 (Ob (Int.fdiv (e1 y_) (e3 ) = Int.fdiv (e1 y_) (e3 )) ∧
 (Ob (IntKind.wrap .u64 (↑(BitVec.toNat (BitVec.ofInt (IntKind.bits .u64) (e1 y_) &&& BitVec.ofInt (IntKind.bits .u64) (4294967295 : Int))) : Int) = IntKind.wrap .u64 (↑(BitVec.toNat (BitVec.ofInt (IntKind.bits .u64) (e1 y_) &&& BitVec.ofInt (IntKind.bits .u64) (4294967295 : Int))) : Int)) ∧
 (Ob (IntKind.wrap .u64 (↑(BitVec.toNat (BitVec.ofInt (IntKind.bits .u64) (e4 lo y_) &&& BitVec.ofInt (IntKind.bits .u64) (4294967295 : Int))) : Int) = IntKind.wrap .u64 (↑(BitVec.toNat (BitVec.ofInt (IntKind.bits .u64) (e4 lo y_) &&& BitVec.ofInt (IntKind.bits .u64) (4294967295 : Int))) : Int)) ∧
 (Ob (v1.1 = v2.1) ∧
 (Ob (IntKind.wrap .u64 (v1.2.1.1 + Int.fdiv (e1 y_) (e3 )) = v2.2.1.1) ∧
 (Ob (IntKind.wrap .u64 (IntKind.wrap .u64 (e0 hi lo y_) - IntKind.wrap .u64 (v1.1 * IntKind.wrap .u64 (y_ * (2 : Int) ^ min (Int.toNat (e2 y_)) (IntKind.bits .u64)))) = IntKind.wrap .u64 (IntKind.wrap .u64 (e0 hi lo y_) - IntKind.wrap .u64 (v2.1 * IntKind.wrap .u64 (y_ * (2 : Int) ^ min (Int.toNat (e2 y_)) (IntKind.bits .u64))))) ∧
 (Ob (IntKind.wrap .u64 (v1.2.1.2 - (1 : Int)) = v2.2.1.2) ∧
 True))))))))))))))
   ((Ob ((0 : Int) ≤ IntKind.wrap .u64 (e5 y_)) ∧
 (Ob (True) ∧
 (Ob (True) ∧
 (Ob (IntKind.wrap .u64 (IntKind.wrap .u64 (v1.1 * (4294967296 : Int)) + v1.2.1.2) = r.1) ∧
 (Ob (Int.fdiv (IntKind.wrap .u64 (IntKind.wrap .u64 (IntKind.wrap .u64 (IntKind.wrap .u64 (IntKind.wrap .u64 (e0 hi lo y_) - IntKind.wrap .u64 (v1.1 * IntKind.wrap .u64 (y_ * (2 : Int) ^ min (Int.toNat (e2 y_)) (IntKind.bits .u64)))) * (4294967296 : Int)) + IntKind.wrap .u64 (↑(BitVec.toNat (BitVec.ofInt (IntKind.bits .u64) (e4 lo y_) &&& BitVec.ofInt (IntKind.bits .u64) (4294967295 : Int))) : Int)) - IntKind.wrap .u64 (v1.2.1.2 * IntKind.wrap .u64 (y_ * (2 : Int) ^ min (Int.toNat (e2 y_)) (IntKind.bits .u64))))) (e9 y_) = r.2) ∧
 True))))))))))))))))))))))))))))) = _) ?_
  refine br_b h (fun h => ?_) (fun h => ?_)
  · exact nomatch h
  · refine br_d h (fun h => ?_) (fun h => ?_)
    · exact nomatch h
    · refine br_b h (fun h => ?_) (fun h => ?_)
      · refine ob_s h fun h => ?_
        refine ob_s h fun h => ?_
        refine ob_t ?_
        refine ob_t ?_
        exact ret_s h (fun e => by subst e; exact (by repeat' (first | exact trivial | exact ⟨rfl⟩ | refine And.intro ?_ ?_)))
      · refine call_s h fun h => ?_
        refine ob_t ?_
        refine ob_s h fun h => ?_
        refine ob_c (p := (0 : Int) ≤ (32 : Int)) (by decide) ?_
        refine ob_s h fun h => ?_
        refine ob_s h fun h => ?_
        refine ob_s h fun h => ?_
        refine ob_c (p := (0 : Int) ≤ (32 : Int)) (by decide) ?_
        refine ob_s h fun h => ?_
        refine ⟨⟨((IntKind.wrap .u64 (Int.tdiv (e8 hi lo y_) (Int.fdiv (e1 y_) (e3 ))), IntKind.wrap .u64 (IntKind.wrap .u64 (↑(BitVec.toNat (BitVec.ofInt (IntKind.bits .u64) (e7 hi y_) ||| BitVec.ofInt (IntKind.bits .u64) (e6 lo y_))) : Int) - IntKind.wrap .u64 (IntKind.wrap .u64 (Int.tdiv (e8 hi lo y_) (Int.fdiv (e1 y_) (e3 ))) * Int.fdiv (e1 y_) (e3 )))), big), ⟨loop_s h⟩, (by repeat' (first | exact trivial | exact ⟨rfl⟩ | refine And.intro ?_ ?_))⟩, fun z1 hz1 => ?_⟩
        obtain ⟨k1, hm1, h⟩ := iter_pos hz1
        refine br_d h (fun h => ?_) (fun h => ?_)
        · refine br_d h (fun h => ?_) (fun h => ?_)
          · have h := exit_s h
            refine ob_s h fun h => ?_
            refine ⟨⟨(IntKind.wrap .u64 ((Prod.fst z1).1 - (1 : Int)), (IntKind.wrap .u64 (IntKind.wrap .u64 (IntKind.wrap .u64 (e0 hi lo y_) - IntKind.wrap .u64 (IntKind.wrap .u64 ((Prod.fst z1).1 - (1 : Int)) * IntKind.wrap .u64 (y_ * (2 : Int) ^ min (Int.toNat (e2 y_)) (IntKind.bits .u64)))) - IntKind.wrap .u64 (IntKind.wrap .u64 (Int.tdiv (IntKind.wrap .u64 (IntKind.wrap .u64 (e0 hi lo y_) - IntKind.wrap .u64 (IntKind.wrap .u64 ((Prod.fst z1).1 - (1 : Int)) * IntKind.wrap .u64 (y_ * (2 : Int) ^ min (Int.toNat (e2 y_)) (IntKind.bits .u64))))) (Int.fdiv (e1 y_) (e3 ))) * Int.fdiv (e1 y_) (e3 ))), IntKind.wrap .u64 (Int.tdiv (IntKind.wrap .u64 (IntKind.wrap .u64 (e0 hi lo y_) - IntKind.wrap .u64 (IntKind.wrap .u64 ((Prod.fst z1).1 - (1 : Int)) * IntKind.wrap .u64 (y_ * (2 : Int) ^ min (Int.toNat (e2 y_)) (IntKind.bits .u64))))) (Int.fdiv (e1 y_) (e3 )))), big), ⟨loop_s h⟩, (by repeat' (first | exact trivial | exact ⟨rfl⟩ | refine And.intro ?_ ?_))⟩, fun z2 hz2 => ?_⟩
            obtain ⟨k2, hm2, h⟩ := iter_pos hz2
            refine br_d h (fun h => ?_) (fun h => ?_)
            · refine br_d h (fun h => ?_) (fun h => ?_)
              · have h := exit_s h
                refine ob_s h fun h => ?_
                refine ob_t ?_
                refine ob_t ?_
                exact ret_s h (fun e => by subst e; exact (by repeat' (first | exact trivial | exact ⟨rfl⟩ | refine And.intro ?_ ?_)))
              · exact ⟨(Prod.fst z2, (IntKind.wrap .u64 ((Prod.fst (Prod.snd z2)).1 + Int.fdiv (e1 y_) (e3 )), IntKind.wrap .u64 ((Prod.fst (Prod.snd z2)).2 - (1 : Int))), k2), ⟨next_s h⟩, ⟨lt_gs hm2.symm⟩, (by repeat' (first | exact trivial | exact ⟨rfl⟩ | refine And.intro ?_ ?_))⟩
            · refine br_d h (fun h => ?_) (fun h => ?_)
              · refine br_d h (fun h => ?_) (fun h => ?_)
                · have h := exit_s h
                  refine ob_s h fun h => ?_
                  refine ob_t ?_
                  refine ob_t ?_
                  exact ret_s h (fun e => by subst e; exact (by repeat' (first | exact trivial | exact ⟨rfl⟩ | refine And.intro ?_ ?_)))
                · exact ⟨(Prod.fst z2, (IntKind.wrap .u64 ((Prod.fst (Prod.snd z2)).1 + Int.fdiv (e1 y_) (e3 )), IntKind.wrap .u64 ((Prod.fst (Prod.snd z2)).2 - (1 : Int))), k2), ⟨next_s h⟩, ⟨lt_gs hm2.symm⟩, (by repeat' (first | exact trivial | exact ⟨rfl⟩ | refine And.intro ?_ ?_))⟩
              · have h := exit_s h
                refine ob_s h fun h => ?_
                refine ob_t ?_
                refine ob_t ?_
                exact ret_s h (fun e => by subst e; exact (by repeat' (first | exact trivial | exact ⟨rfl⟩ | refine And.intro ?_ ?_)))
          · exact ⟨((IntKind.wrap .u64 ((Prod.fst z1).1 - (1 : Int)), IntKind.wrap .u64 ((Prod.fst z1).2 + Int.fdiv (e1 y_) (e3 ))), k1), ⟨next_s h⟩, ⟨lt_gs hm1.symm⟩, (by repeat' (first | exact trivial | exact ⟨rfl⟩ | refine And.intro ?_ ?_))⟩
        · refine br_d h (fun h => ?_) (fun h => ?_)
          · refine br_d h (fun h => ?_) (fun h => ?_)
            · have h := exit_s h
              refine ob_s h fun h => ?_
              refine ⟨⟨(IntKind.wrap .u64 ((Prod.fst z1).1 - (1 : Int)), (IntKind.wrap .u64 (IntKind.wrap .u64 (IntKind.wrap .u64 (e0 hi lo y_) - IntKind.wrap .u64 (IntKind.wrap .u64 ((Prod.fst z1).1 - (1 : Int)) * IntKind.wrap .u64 (y_ * (2 : Int) ^ min (Int.toNat (e2 y_)) (IntKind.bits .u64)))) - IntKind.wrap .u64 (IntKind.wrap .u64 (Int.tdiv (IntKind.wrap .u64 (IntKind.wrap .u64 (e0 hi lo y_) - IntKind.wrap .u64 (IntKind.wrap .u64 ((Prod.fst z1).1 - (1 : Int)) * IntKind.wrap .u64 (y_ * (2 : Int) ^ min (Int.toNat (e2 y_)) (IntKind.bits .u64))))) (Int.fdiv (e1 y_) (e3 ))) * Int.fdiv (e1 y_) (e3 ))), IntKind.wrap .u64 (Int.tdiv (IntKind.wrap .u64 (IntKind.wrap .u64 (e0 hi lo y_) - IntKind.wrap .u64 (IntKind.wrap .u64 ((Prod.fst z1).1 - (1 : Int)) * IntKind.wrap .u64 (y_ * (2 : Int) ^ min (Int.toNat (e2 y_)) (IntKind.bits .u64))))) (Int.fdiv (e1 y_) (e3 )))), big), ⟨loop_s h⟩, (by repeat' (first | exact trivial | exact ⟨rfl⟩ | refine And.intro ?_ ?_))⟩, fun z3 hz3 => ?_⟩
              obtain ⟨k3, hm3, h⟩ := iter_pos hz3
              refine br_d h (fun h => ?_) (fun h => ?_)
              · refine br_d h (fun h => ?_) (fun h => ?_)
                · have h := exit_s h
                  refine ob_s h fun h => ?_
                  refine ob_t ?_
                  refine ob_t ?_
                  exact ret_s h (fun e => by subst e; exact (by repeat' (first | exact trivial | exact ⟨rfl⟩ | refine And.intro ?_ ?_)))
                · exact ⟨(Prod.fst z3, (IntKind.wrap .u64 ((Prod.fst (Prod.snd z3)).1 + Int.fdiv (e1 y_) (e3 )), IntKind.wrap .u64 ((Prod.fst (Prod.snd z3)).2 - (1 : Int))), k3), ⟨next_s h⟩, ⟨lt_gs hm3.symm⟩, (by repeat' (first | exact trivial | exact ⟨rfl⟩ | refine And.intro ?_ ?_))⟩
              · refine br_d h (fun h => ?_) (fun h => ?_)
                · refine br_d h (fun h => ?_) (fun h => ?_)
                  · have h := exit_s h
                    refine ob_s h fun h => ?_
                    refine ob_t ?_
                    refine ob_t ?_
                    exact ret_s h (fun e => by subst e; exact (by repeat' (first | exact trivial | exact ⟨rfl⟩ | refine And.intro ?_ ?_)))
                  · exact ⟨(Prod.fst z3, (IntKind.wrap .u64 ((Prod.fst (Prod.snd z3)).1 + Int.fdiv (e1 y_) (e3 )), IntKind.wrap .u64 ((Prod.fst (Prod.snd z3)).2 - (1 : Int))), k3), ⟨next_s h⟩, ⟨lt_gs hm3.symm⟩, (by repeat' (first | exact trivial | exact ⟨rfl⟩ | refine And.intro ?_ ?_))⟩
                · have h := exit_s h
                  refine ob_s h fun h => ?_
                  refine ob_t ?_
                  refine ob_t ?_
                  exact ret_s h (fun e => by subst e; exact (by repeat' (first | exact trivial | exact ⟨rfl⟩ | refine And.intro ?_ ?_)))
            · exact ⟨((IntKind.wrap .u64 ((Prod.fst z1).1 - (1 : Int)), IntKind.wrap .u64 ((Prod.fst z1).2 + Int.fdiv (e1 y_) (e3 ))), k1), ⟨next_s h⟩, ⟨lt_gs hm1.symm⟩, (by repeat' (first | exact trivial | exact ⟨rfl⟩ | refine And.intro ?_ ?_))⟩
          · have h := exit_s h
            refine ob_s h fun h => ?_
            refine ⟨⟨((Prod.fst z1).1, (IntKind.wrap .u64 (IntKind.wrap .u64 (IntKind.wrap .u64 (e0 hi lo y_) - IntKind.wrap .u64 ((Prod.fst z1).1 * IntKind.wrap .u64 (y_ * (2 : Int) ^ min (Int.toNat (e2 y_)) (IntKind.bits .u64)))) - IntKind.wrap .u64 (IntKind.wrap .u64 (Int.tdiv (IntKind.wrap .u64 (IntKind.wrap .u64 (e0 hi lo y_) - IntKind.wrap .u64 ((Prod.fst z1).1 * IntKind.wrap .u64 (y_ * (2 : Int) ^ min (Int.toNat (e2 y_)) (IntKind.bits .u64))))) (Int.fdiv (e1 y_) (e3 ))) * Int.fdiv (e1 y_) (e3 ))), IntKind.wrap .u64 (Int.tdiv (IntKind.wrap .u64 (IntKind.wrap .u64 (e0 hi lo y_) - IntKind.wrap .u64 ((Prod.fst z1).1 * IntKind.wrap .u64 (y_ * (2 : Int) ^ min (Int.toNat (e2 y_)) (IntKind.bits .u64))))) (Int.fdiv (e1 y_) (e3 )))), big), ⟨loop_s h⟩, (by repeat' (first | exact trivial | exact ⟨rfl⟩ | refine And.intro ?_ ?_))⟩, fun z4 hz4 => ?_⟩
            obtain ⟨k4, hm4, h⟩ := iter_pos hz4
            refine br_d h (fun h => ?_) (fun h => ?_)
            · refine br_d h (fun h => ?_) (fun h => ?_)
              · have h := exit_s h
                refine ob_s h fun h => ?_
                refine ob_t ?_
                refine ob_t ?_
                exact ret_s h (fun e => by subst e; exact (by repeat' (first | exact trivial | exact ⟨rfl⟩ | refine And.intro ?_ ?_)))
              · exact ⟨(Prod.fst z4, (IntKind.wrap .u64 ((Prod.fst (Prod.snd z4)).1 + Int.fdiv (e1 y_) (e3 )), IntKind.wrap .u64 ((Prod.fst (Prod.snd z4)).2 - (1 : Int))), k4), ⟨next_s h⟩, ⟨lt_gs hm4.symm⟩, (by repeat' (first | exact trivial | exact ⟨rfl⟩ | refine And.intro ?_ ?_))⟩
            · refine br_d h (fun h => ?_) (fun h => ?_)
              · refine br_d h (fun h => ?_) (fun h => ?_)
                · have h := exit_s h
                  refine ob_s h fun h => ?_
                  refine ob_t ?_
                  refine ob_t ?_
                  exact ret_s h (fun e => by subst e; exact (by repeat' (first | exact trivial | exact ⟨rfl⟩ | refine And.intro ?_ ?_)))
                · exact ⟨(Prod.fst z4, (IntKind.wrap .u64 ((Prod.fst (Prod.snd z4)).1 + Int.fdiv (e1 y_) (e3 )), IntKind.wrap .u64 ((Prod.fst (Prod.snd z4)).2 - (1 : Int))), k4), ⟨next_s h⟩, ⟨lt_gs hm4.symm⟩, (by repeat' (first | exact trivial | exact ⟨rfl⟩ | refine And.intro ?_ ?_))⟩
              · have h := exit_s h
                refine ob_s h fun h => ?_
                refine ob_t ?_
                refine ob_t ?_
                exact ret_s h (fun e => by subst e; exact (by repeat' (first | exact trivial | exact ⟨rfl⟩ | refine And.intro ?_ ?_)))
set_option maxRecDepth 100000 in
theorem math_bits_Div64_ok : SpecOK Tryz.prog 127 true (pureK k_math_bits_Div64 y148) := by
  refine pureK_ok (sp := (sp_150 sp0)) (fn := Tryz.f127) (body := bodyOf Tryz.f127) mixed (sp_150_ok sp0_ok) Tryz.func127 (by kernel_rfl) (by kernel_rfl) fun as_ ob rs h ho => ?_
  unfold y148 at h
  split at h
  · rename_i hi lo y_
    cases h
    exact ⟨Nat.le_of_ble_eq_true rfl, _, _, math_bits_Div64_vc hi lo y_ _ (ok_some ho)⟩
  · cases h
theorem sp_127_ok {sp : Specs} (h : SpecsOK Tryz.prog sp) : SpecsOK Tryz.prog (sp_127 sp) := addK_ok math_bits_Div64_ok h
def y132 : List SV := [.c (.d), .c (.d), .c (.p [.p [.d, .r (.floats .f32 []), .d, .d, .r (.recs 2 []), .r (.recs 2 [])]])]
def y17 (u65 : Int) (u66 : Int) (u17 : Int) (u18 : List Nat) (u19 : Int) (u20 : Int) (u21 : List (List Int)) (u22 : List (List Int)) : Option (Int × Bool) :=
  Option.bind (y9 (IntKind.wrap .u64 u65) (1000000 : Int)) fun r0 =>
  Option.bind (y51 (IntKind.wrap .u64 (IntKind.wrap .u64 (IntKind.wrap .u64 (Int.fdiv (IntKind.wrap .u64 u65) ((2 : Int) ^ min (32 : Nat) (IntKind.bits .u64)) * Int.fdiv (1000000 : Int) ((2 : Int) ^ min (32 : Nat) (IntKind.bits .u64))) + Int.fdiv (IntKind.wrap .u64 (IntKind.wrap .u64 (Int.fdiv (IntKind.wrap .u64 u65) ((2 : Int) ^ min (32 : Nat) (IntKind.bits .u64)) * IntKind.wrap .u64 (↑(BitVec.toNat (BitVec.ofInt (IntKind.bits .u64) (1000000 : Int) &&& BitVec.ofInt (IntKind.bits .u64) (4294967295 : Int))) : Int)) + Int.fdiv (IntKind.wrap .u64 (IntKind.wrap .u64 (↑(BitVec.toNat (BitVec.ofInt (IntKind.bits .u64) (IntKind.wrap .u64 u65) &&& BitVec.ofInt (IntKind.bits .u64) (4294967295 : Int))) : Int) * IntKind.wrap .u64 (↑(BitVec.toNat (BitVec.ofInt (IntKind.bits .u64) (1000000 : Int) &&& BitVec.ofInt (IntKind.bits .u64) (4294967295 : Int))) : Int))) ((2 : Int) ^ min (32 : Nat) (IntKind.bits .u64)))) ((2 : Int) ^ min (32 : Nat) (IntKind.bits .u64))) + Int.fdiv (IntKind.wrap .u64 (IntKind.wrap .u64 (↑(BitVec.toNat (BitVec.ofInt (IntKind.bits .u64) (IntKind.wrap .u64 (IntKind.wrap .u64 (Int.fdiv (IntKind.wrap .u64 u65) ((2 : Int) ^ min (32 : Nat) (IntKind.bits .u64)) * IntKind.wrap .u64 (↑(BitVec.toNat (BitVec.ofInt (IntKind.bits .u64) (1000000 : Int) &&& BitVec.ofInt (IntKind.bits .u64) (4294967295 : Int))) : Int)) + Int.fdiv (IntKind.wrap .u64 (IntKind.wrap .u64 (↑(BitVec.toNat (BitVec.ofInt (IntKind.bits .u64) (IntKind.wrap .u64 u65) &&& BitVec.ofInt (IntKind.bits .u64) (4294967295 : Int))) : Int) * IntKind.wrap .u64 (↑(BitVec.toNat (BitVec.ofInt (IntKind.bits .u64) (1000000 : Int) &&& BitVec.ofInt (IntKind.bits .u64) (4294967295 : Int))) : Int))) ((2 : Int) ^ min (32 : Nat) (IntKind.bits .u64)))) &&& BitVec.ofInt (IntKind.bits .u64) (4294967295 : Int))) : Int) + IntKind.wrap .u64 (IntKind.wrap .u64 (↑(BitVec.toNat (BitVec.ofInt (IntKind.bits .u64) (IntKind.wrap .u64 u65) &&& BitVec.ofInt (IntKind.bits .u64) (4294967295 : Int))) : Int) * Int.fdiv (1000000 : Int) ((2 : Int) ^ min (32 : Nat) (IntKind.bits .u64))))) ((2 : Int) ^ min (32 : Nat) (IntKind.bits .u64)))) (IntKind.wrap .u64 (IntKind.wrap .u64 u65 * (1000000 : Int))) (IntKind.wrap .u64 (IntKind.wrap .i64 (u66 * u17)))) fun r1 =>
  some ((IntKind.wrap .i64 r1.1, decide (r1.2 > (0 : Int))))
def y133 : List Lf → Option GT
  | [.d (.i .i64 u65), .d (.i .i64 u66), .d (.i .i64 u17), .r (.floats .f32 u18), .d (.i .i64 u19), .d (.i .i64 u20), .r (.recs 2 u21), .r (.recs 2 u22)] => some (.leaf (ok (y17 u65 u66 u17 u18 u19 u20 u21 u22)) [.c (.d (.i .i64 ((val (y17 u65 u66 u17 u18 u19 u20 u21 u22)).1))), .c (.d (.b ((val (y17 u65 u66 u17 u18 u19 u20 u21 u22)).2)))])
  | _ => none
abbrev sp_125 : Specs → Specs := addK 125 true (pureT y132 y133)
set_option maxRecDepth 100000 in
theorem G_decay_centre_1_vc (u65 : Int) (u66 : Int) (u17 : Int) (u18 : List Nat) (u19 : Int) (u20 : Int) (u21 : List (List Int)) (u22 : List (List Int)) (r : Int × Bool) (h : Option.bind (y17 u65 u66 u17 u18 u19 u20 u21 u22) some = some r) : runT Tryz.f125 ((sp_126 (sp_127 sp0))) (fun _ _ _ => none) (bldD y132 [.d (.i .i64 u65), .d (.i .i64 u66), .d (.i .i64 u17), .r (.floats .f32 u18), .d (.i .i64 u19), .d (.i .i64 u20), .r (.recs 2 u21), .r (.recs 2 u22)]) [.c (.d (.i .i64 r.1)), .c (.d (.b r.2))] := by
  refine Eq.mp (by kernel_rfl : (
 (Ob (True) ∧
 (Ob (ok (y9 (IntKind.wrap .u64 u65) (1000000 : Int))) ∧
 (Ob (True) ∧
 (Ob (True) ∧
 (Ob (True) ∧
 (Ob (ok (y51 (IntKind.wrap .u64 (IntKind.wrap .u64 (IntKind.wrap .u64 (Int.fdiv (IntKind.wrap .u64 u65) ((2 : Int) ^ min (32 : Nat) (IntKind.bits .u64)) * Int.fdiv (1000000 : Int) ((2 : Int) ^ min (32 : Nat) (IntKind.bits .u64))) + Int.fdiv (IntKind.wrap .u64 (IntKind.wrap .u64 (Int.fdiv (IntKind.wrap .u64 u65) ((2 : Int) ^ min (32 : Nat) (IntKind.bits .u64)) * IntKind.wrap .u64 (↑(BitVec.toNat (BitVec.ofInt (IntKind.bits .u64) (1000000 : Int) &&& BitVec.ofInt (IntKind.bits .u64) (4294967295 : Int))) : Int)) + Int.fdiv (IntKind.wrap .u64 (IntKind.wrap .u64 (↑(BitVec.toNat (BitVec.ofInt (IntKind.bits .u64) (IntKind.wrap .u64 u65) &&& BitVec.ofInt (IntKind.bits .u64) (4294967295 : Int))) : Int) * IntKind.wrap .u64 (↑(BitVec.toNat (BitVec.ofInt (IntKind.bits .u64) (1000000 : Int) &&& BitVec.ofInt (IntKind.bits .u64) (4294967295 : Int))) : Int))) ((2 : Int) ^ min (32 : Nat) (IntKind.bits .u64)))) ((2 : Int) ^ min (32 : Nat) (IntKind.bits .u64))) + Int.fdiv (IntKind.wrap .u64 (IntKind.wrap .u64 (↑(BitVec.toNat (BitVec.ofInt (IntKind.bits .u64) (IntKind.wrap .u64 (IntKind.wrap .u64 (Int.fdiv (IntKind.wrap .u64 u65) ((2 : Int) ^ min (32 : Nat) (IntKind.bits .u64)) * IntKind.wrap .u64 (↑(BitVec.toNat (BitVec.ofInt (IntKind.bits .u64) (1000000 : Int) &&& BitVec.ofInt (IntKind.bits .u64) (4294967295 : Int))) : Int)) + Int.fdiv (IntKind.wrap .u64 (IntKind.wrap .u64 (↑(BitVec.toNat (BitVec.ofInt (IntKind.bits .u64) (IntKind.wrap .u64 u65) &&& BitVec.ofInt (IntKind.bits .u64) (4294967295 : Int))) : Int) * IntKind.wrap .u64 (↑(BitVec.toNat (BitVec.ofInt (IntKind.bits .u64) (1000000 : Int) &&& BitVec.ofInt (IntKind.bits .u64) (4294967295 : Int))) : Int))) ((2 : Int) ^ min (32 : Nat) (IntKind.bits .u64)))) &&& BitVec.ofInt (IntKind.bits .u64) (4294967295 : Int))) : Int) + IntKind.wrap .u64 (IntKind.wrap .u64 (↑(BitVec.toNat (BitVec.ofInt (IntKind.bits .u64) (IntKind.wrap .u64 u65) &&& BitVec.ofInt (IntKind.bits .u64) (4294967295 : Int))) : Int) * Int.fdiv (1000000 : Int) ((2 : Int) ^ min (32 : Nat) (IntKind.bits .u64))))) ((2 : Int) ^ min (32 : Nat) (IntKind.bits .u64)))) (IntKind.wrap .u64 (IntKind.wrap .u64 u65 * (1000000 : Int))) (IntKind.wrap .u64 (IntKind.wrap .i64 (u66 * u17))))) ∧
 (Ob (True) ∧
 (Ob (True) ∧
 (Ob (True) ∧
 (Ob (IntKind.wrap .i64 (val (y51 (IntKind.wrap .u64 (IntKind.wrap .u64 (IntKind.wrap .u64 (Int.fdiv (IntKind.wrap .u64 u65) ((2 : Int) ^ min (32 : Nat) (IntKind.bits .u64)) * Int.fdiv (1000000 : Int) ((2 : Int) ^ min (32 : Nat) (IntKind.bits .u64))) + Int.fdiv (IntKind.wrap .u64 (IntKind.wrap .u64 (Int.fdiv (IntKind.wrap .u64 u65) ((2 : Int) ^ min (32 : Nat) (IntKind.bits .u64)) * IntKind.wrap .u64 (↑(BitVec.toNat (BitVec.ofInt (IntKind.bits .u64) (1000000 : Int) &&& BitVec.ofInt (IntKind.bits .u64) (4294967295 : Int))) : Int)) + Int.fdiv (IntKind.wrap .u64 (IntKind.wrap .u64 (↑(BitVec.toNat (BitVec.ofInt (IntKind.bits .u64) (IntKind.wrap .u64 u65) &&& BitVec.ofInt (IntKind.bits .u64) (4294967295 : Int))) : Int) * IntKind.wrap .u64 (↑(BitVec.toNat (BitVec.ofInt (IntKind.bits .u64) (1000000 : Int) &&& BitVec.ofInt (IntKind.bits .u64) (4294967295 : Int))) : Int))) ((2 : Int) ^ min (32 : Nat) (IntKind.bits .u64)))) ((2 : Int) ^ min (32 : Nat) (IntKind.bits .u64))) + Int.fdiv (IntKind.wrap .u64 (IntKind.wrap .u64 (↑(BitVec.toNat (BitVec.ofInt (IntKind.bits .u64) (IntKind.wrap .u64 (IntKind.wrap .u64 (Int.fdiv (IntKind.wrap .u64 u65) ((2 : Int) ^ min (32 : Nat) (IntKind.bits .u64)) * IntKind.wrap .u64 (↑(BitVec.toNat (BitVec.ofInt (IntKind.bits .u64) (1000000 : Int) &&& BitVec.ofInt (IntKind.bits .u64) (4294967295 : Int))) : Int)) + Int.fdiv (IntKind.wrap .u64 (IntKind.wrap .u64 (↑(BitVec.toNat (BitVec.ofInt (IntKind.bits .u64) (IntKind.wrap .u64 u65) &&& BitVec.ofInt (IntKind.bits .u64) (4294967295 : Int))) : Int) * IntKind.wrap .u64 (↑(BitVec.toNat (BitVec.ofInt (IntKind.bits .u64) (1000000 : Int) &&& BitVec.ofInt (IntKind.bits .u64) (4294967295 : Int))) : Int))) ((2 : Int) ^ min (32 : Nat) (IntKind.bits .u64)))) &&& BitVec.ofInt (IntKind.bits .u64) (4294967295 : Int))) : Int) + IntKind.wrap .u64 (IntKind.wrap .u64 (↑(BitVec.toNat (BitVec.ofInt (IntKind.bits .u64) (IntKind.wrap .u64 u65) &&& BitVec.ofInt (IntKind.bits .u64) (4294967295 : Int))) : Int) * Int.fdiv (1000000 : Int) ((2 : Int) ^ min (32 : Nat) (IntKind.bits .u64))))) ((2 : Int) ^ min (32 : Nat) (IntKind.bits .u64)))) (IntKind.wrap .u64 (IntKind.wrap .u64 u65 * (1000000 : Int))) (IntKind.wrap .u64 (IntKind.wrap .i64 (u66 * u17))))).1 = r.1) ∧
 (Ob (decide ((val (y51 (IntKind.wrap .u64 (IntKind.wrap .u64 (IntKind.wrap .u64 (Int.fdiv (IntKind.wrap .u64 u65) ((2 : Int) ^ min (32 : Nat) (IntKind.bits .u64)) * Int.fdiv (1000000 : Int) ((2 : Int) ^ min (32 : Nat) (IntKind.bits .u64))) + Int.fdiv (IntKind.wrap .u64 (IntKind.wrap .u64 (Int.fdiv (IntKind.wrap .u64 u65) ((2 : Int) ^ min (32 : Nat) (IntKind.bits .u64)) * IntKind.wrap .u64 (↑(BitVec.toNat (BitVec.ofInt (IntKind.bits .u64) (1000000 : Int) &&& BitVec.ofInt (IntKind.bits .u64) (4294967295 : Int))) : Int)) + Int.fdiv (IntKind.wrap .u64 (IntKind.wrap .u64 (↑(BitVec.toNat (BitVec.ofInt (IntKind.bits .u64) (IntKind.wrap .u64 u65) &&& BitVec.ofInt (IntKind.bits .u64) (4294967295 : Int))) : Int) * IntKind.wrap .u64 (↑(BitVec.toNat (BitVec.ofInt (IntKind.bits .u64) (1000000 : Int) &&& BitVec.ofInt (IntKind.bits .u64) (4294967295 : Int))) : Int))) ((2 : Int) ^ min (32 : Nat) (IntKind.bits .u64)))) ((2 : Int) ^ min (32 : Nat) (IntKind.bits .u64))) + Int.fdiv (IntKind.wrap .u64 (IntKind.wrap .u64 (↑(BitVec.toNat (BitVec.ofInt (IntKind.bits .u64) (IntKind.wrap .u64 (IntKind.wrap .u64 (Int.fdiv (IntKind.wrap .u64 u65) ((2 : Int) ^ min (32 : Nat) (IntKind.bits .u64)) * IntKind.wrap .u64 (↑(BitVec.toNat (BitVec.ofInt (IntKind.bits .u64) (1000000 : Int) &&& BitVec.ofInt (IntKind.bits .u64) (4294967295 : Int))) : Int)) + Int.fdiv (IntKind.wrap .u64 (IntKind.wrap .u64 (↑(BitVec.toNat (BitVec.ofInt (IntKind.bits .u64) (IntKind.wrap .u64 u65) &&& BitVec.ofInt (IntKind.bits .u64) (4294967295 : Int))) : Int) * IntKind.wrap .u64 (↑(BitVec.toNat (BitVec.ofInt (IntKind.bits .u64) (1000000 : Int) &&& BitVec.ofInt (IntKind.bits .u64) (4294967295 : Int))) : Int))) ((2 : Int) ^ min (32 : Nat) (IntKind.bits .u64)))) &&& BitVec.ofInt (IntKind.bits .u64) (4294967295 : Int))) : Int) + IntKind.wrap .u64 (IntKind.wrap .u64 (↑(BitVec.toNat (BitVec.ofInt (IntKind.bits .u64) (IntKind.wrap .u64 u65) &&& BitVec.ofInt (IntKind.bits .u64) (4294967295 : Int))) : Int) * Int.fdiv (1000000 : Int) ((2 : Int) ^ min (32 : Nat) (IntKind.bits .u64))))) ((2 : Int) ^ min (32 : Nat) (IntKind.bits .u64)))) (IntKind.wrap .u64 (IntKind.wrap .u64 u65 * (1000000 : Int))) (IntKind.wrap .u64 (IntKind.wrap .i64 (u66 * u17))))).2 > (0 : Int)) = r.2) ∧
 True)))))))))))) = _) ?_
  refine ob_t ?_
  refine call_s h fun h => ?_
  refine ob_t ?_
  refine ob_t ?_
  refine ob_t ?_
  refine call_s h fun h => ?_
  refine ob_t ?_
  refine ob_t ?_
  refine ob_t ?_
  exact ret_s h (fun e => by subst e; exact (by repeat' (first | exact trivial | exact ⟨rfl⟩ | refine And.intro ?_ ?_)))
set_option maxRecDepth 100000 in
theorem G_decay_centre_1_ok : SpecOK Tryz.prog 125 true (pureT y132 y133) := by
  refine pureT_ok (sp := (sp_126 (sp_127 sp0))) (fn := Tryz.f125) (body := bodyOf Tryz.f125) mixed (sp_126_ok (sp_127_ok sp0_ok)) Tryz.func125 (by kernel_rfl) (by kernel_rfl) fun ls t h ho b hb => ?_
  unfold y133 at h
  split at h
  · rename_i u65 u66 u17 u18 u19 u20 u21 u22
    cases h
    obtain rfl := bld_eq hb
    exact ⟨Nat.le_of_ble_eq_true (by kernel_rfl), _, _, G_decay_centre_1_vc u65 u66 u17 u18 u19 u20 u21 u22 _ (ok_some ho)⟩
  · cases h
theorem sp_125_ok {sp : Specs} (h : SpecsOK Tryz.prog sp) : SpecsOK Tryz.prog (sp_125 sp) := addK_ok G_decay_centre_1_ok h
end Go.Sh
end
