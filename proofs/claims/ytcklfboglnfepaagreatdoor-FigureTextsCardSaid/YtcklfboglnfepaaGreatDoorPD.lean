/- Part 4 of the proof of FigureTextsCard: the executor, the mirrors of the functions, the plain facts. -/
import Derived.Test.YtcklfboglnfepaaGreatDoorPC
import Derived.Lib.AtoiAllCases
import Derived.Lib.ItoaNum
import Derived.Lib.Strings
import Derived.Lib.Split
import Derived.Lib.Join
import Derived.IntWalk
import Derived.Shelf.Strings.OnBuilder
import Derived.Shelf.Strconv.Itoa3
import Derived.Shelf.Strings.Prefix
import Derived.Shelf.Strings.SplitShaped
import Derived.Shelf.Strconv.AtoiAll
import Derived.Lib.ItoaLen
set_option maxRecDepth 100000
set_option linter.unusedSectionVars false
set_option linter.unusedSimpArgs false
set_option linter.unusedVariables false
section
open Go.RowKit
namespace Go.Sh
open Go Go.Proofs Go.RowKit Go.Sx
open Go.IntKind (wrap)
def idOf : Code → Nat
 | .region i _ _ => i
 | _ => 0
noncomputable def oT (i : Nat) : Oper := ((Bk.opsOf (jeF [1, 0] jeY))[i]?).getD default
def rd1 (t : Nat) (v : V) : Operand → Option V
 | .tmp u => match Nat.beq u t with
  | true => some v
  | false => none
 | _ => none
theorem jmp {ρ : Env} {nx t : Nat} {v : V} {a : Act} (h1 : v.lt nx) (h2 : a.tmps.getD t undef = v.val ρ) : jaR ρ nx (rd1 t v) a := by
 intro x u hx
 unfold rd1 at hx
 split at hx
 ·split at hx
  ·rename_i e
   cases hx
   have := Nat.eq_of_beq_eq_true e
   subst this
   exact ⟨h1, h2⟩
  ·cases hx
 ·cases hx
theorem jj6 {n : Nat} {ops : Array Oper} {Q : Exit → Act → World → Prop} {o : Oper} {rest : List Oper} {a : Act} {w : World} {v : Value} (hg : o.guard = none) (h : (execOp a.eval o).run Tryz.prog w = .ok (.value v) w)
  (hK : wpListIn Fence.wide n Tryz.prog ops Q rest (a.put o.dst v) w) : wpListIn Fence.wide n Tryz.prog ops Q (o :: rest) a w := by
 refine wpListIn_plain hg fun K hK' => ⟨fun _ _ => trivial, ?_⟩
 have hs : o.semAt Fence.wide.round a.eval = execOp a.eval o := Oper.semAt_none a.eval o
 rw [hs, h]
 exact hK' _ _ hK
abbrev spO : jaa := sp_114 (sp_115 (sp_116 (sp_117 sp0)))
theorem jlb : jab Tryz.prog spO := sp_114_ok (sp_115_ok (sp_116_ok (sp_117_ok jao)))
theorem jux {zs : List (List Int)} (h : jbQ zs = some ()) : zs.length ≤ 17592186044416 := by
 unfold jbQ at h
 split at h
 ·rename_i h1
  obtain ⟨h1, _, h2, h3⟩ := h1
  by_cases hc : zs.length + 1 ≤ 9223372036854775807
  ·rw [show wrap IntKind.i64 ((zs.length : Int) + 1) = (zs.length : Int) + 1 from IntWalk.i64_in _ (by omega)] at h2
   omega
  ·exfalso
   split at h
   ·rename_i h4
    have hw : wrap IntKind.i64 ((zs.length : Int) + 1) ≤ 9223372036854775807 := h3
    obtain ⟨_, h5⟩ := h4
    rw [List.length_replicate] at h5
    omega
   ·cases h
 ·cases h
set_option maxHeartbeats 4000000 in
theorem jqc (rate : Int) (samples : List Nat) (noise tail : Int) (e : Int) (zs ss : List (List Int)) (hG : jal rate samples noise tail = some (e, zs, ss)) (ρ0 : Env) (w : World)
  (hlt : ∀ x ∈ (ja2 jdl [.d (.i .i64 rate), .r (.floats .f32 samples), .d (.i .i64 noise), .d (.i .i64 tail)]).vs, V.lt 1 x)
  (hh : HRel ρ0 (fun k => k < w.heap.size) (ja2 jdl [.d (.i .i64 rate), .r (.floats .f32 samples), .d (.i .i64 noise), .d (.i .i64 tail)]).hp 1 w) :
  Calls Tryz.prog 67 ((ja2 jdl [.d (.i .i64 rate), .r (.floats .f32 samples), .d (.i .i64 noise), .d (.i .i64 tail)]).vs.map (V.val ρ0)).toArray w fun x w' => ∃ ρ' v hp' nx', x = .returned (V.val ρ' v) ∧ v.lt nx' ∧ jai 1 ρ0 ρ' ∧ HRel ρ' (fun k => k < w.heap.size) hp' nx' w' ∧ Bel (fun k => k < w.heap.size) w w' ∧
   ((e ≠ 0 ∧ jf6 1 [.c (.d (.v (Value.pointer none))), .c (.d (.i .i64 e))] v hp') ∨ (e = 0 ∧ v = .t [.c (.p 3 0 1 0), .c (.d (.i .i64 0))] ∧ hp' = hpT rate samples noise tail zs ss)) := by
 unfold jal at hG
 obtain ⟨r0, hr0, hG⟩ := Option.bind_eq_some_iff.1 hG
 have hv : val (y16 rate samples noise tail) = r0 := by rw [hr0]; rfl
 have ha : ok (y16 rate samples noise tail) := by rw [hr0]; rfl
 have hn : ((val (y16 rate samples noise tail)).2 != (0 : Int)) = false → e = 0 ∧ ss = jcN zs tail (Bk.bk zs.length zs.length) ∧ jbQ zs = some () ∧ Option.bind (jae (jcM samples noise) big (((0 : Int), []))) (fun y0 => Option.bind (jbQ y0) (fun _ => some y0)) = some zs := by
  intro hb
  rw [hv] at hb
  rw [if_neg (by rw [hb]; decide)] at hG
  obtain ⟨y0, hy0, hG⟩ := Option.bind_eq_some_iff.1 hG
  obtain ⟨_, hr, hG⟩ := Option.bind_eq_some_iff.1 hG
  cases hG
  refine ⟨rfl, rfl, hr, ?_⟩
  rw [hy0]
  simp [hr]
 have he : ((val (y16 rate samples noise tail)).2 != (0 : Int)) = true → (val (y16 rate samples noise tail)).2 = e := by
  intro hb
  rw [hv] at hb ⊢
  rw [if_pos hb] at hG
  cases hG
  rfl
 refine callsIn_wide.1 (callsIn_of_wp_marks (n := 3) (c := jah Tryz.f67) Tryz.func67 (by kernel_rfl) trivial (wpIn_wide.2 ?_) rfl)
 have jdH := jfG (n0 := 1) (N := 109) (Nat.le_of_ble_eq_true (by kernel_rfl)) hlt (Nat.le_refl _) ρ0 w hh (fun k hk => hk)
 refine jiV jlb (jbs mixed jlb) (cur := 0) (gs := []) 6 (jah Tryz.f67) _ ρ0 _ w (by kernel_rfl) (jtR rate samples noise tail zs e ha he (fun hb => (hn hb).2.2.2)) jdH (jai.refl _ _) (Bel.refl _ _) ?_ ?_
 ·rintro ρ1 st1 a1 w1 ⟨⟨hb⟩, hk⟩ hr1 hag1 hbl1
  have hT : jgp 6 (jah Tryz.f67) = .seq (.seq jnZ (.block 2 (.rangeFunc (.tmp 89) #[90, 91] jmX jla))) (.seq (jeF [1, 0] jeY) (jeF [1, 1] jeY)) := by kernel_rfl
  rw [hT]
  refine (wpIn_wide (n := 3)).1 (wpIn_seq (wpIn_seq (wpIn_mono (wpIn_wide.2 (ja7 jlb (jbs mixed jlb) jnZ 0 [] st1 _ ρ1 a1 w1 hk hr1 (jai.refl _ _) (Bel.refl _ _))) ?_)))
  rintro x a2 w2 ⟨ex, ρ2, st2, rfl, hle, hr2, hag2, hbl2⟩
  cases ex with
  | normal =>
   obtain ⟨ρ3, hr3, hag3⟩ := Le.rel hle hr2
   obtain ⟨he0, hss, hr0', _⟩ := hn hb
   refine wpIn_block (jqb (by decide) (jux hr0') hr3 ?_)
   intro D W hD hI hd
   have hR : jeF [1, 0] jeY = .region (idOf (jeF [1, 0] jeY)) #[oT 0, oT 1, oT 2] false := by kernel_rfl
   have hRet : jeF [1, 1] jeY = .ret := by kernel_rfl
   rw [hRet, hR]
   have t6 := (hr3.tm 6 _ rfl)
   have s2 := hr3.size
   generalize hat : ({ a2 with defers := { target := .collected D, args := #[] } :: a2.defers } : Act) = at2
   have hat6 : at2.tmps.getD 6 undef = V.val ρ3 (.w (.c (.p 2 0 1 0))) := by rw [← hat]; exact t6.2
   have hats : at2.tmps.size = 109 := by rw [← hat]; exact s2
   have hatd : at2.defers = [{ target := .collected D, args := #[] }] := by rw [← hat, hr3.defers]
   have g1 := jcF (P := Tryz.prog) (o := oT 0) hI.heap (jmp (show V.lt 7 (.w (.c (.p 2 0 1 0))) from (by decide : 2 < 7)) hat6) (show jbL Tryz.prog (oT 0).op _ _ = some (True, .w (.c (.p 3 0 1 0))) from by kernel_rfl) trivial
   have l1 : ∀ v x, x ≠ 108 → (at2.put (some 108) v).tmps.getD x undef = at2.tmps.getD x undef := fun v x hx => by
    rw [jcz (fun y hy => by cases hy; rw [hats]; decide), if_neg (fun e => hx (Option.some.inj e).symm)]
   have p108 : ∀ v, (at2.put (some 108) v).tmps.getD 108 undef = v := fun v => by
    rw [jcz (fun y hy => by cases hy; rw [hats]; decide), if_pos rfl]
   refine wpIn_seq (wpIn_region_list (jj6 (o := oT 0) (rest := [oT 1, oT 2]) (by kernel_rfl) g1.1 ?_))
   rw [show (oT 0).dst = some 108 from by kernel_rfl]
   have g2 := jcF (P := Tryz.prog) (o := oT 1) hI.heap (jmp g1.2 (p108 _)) (show jbL Tryz.prog (oT 1).op _ _ = some (True, .w (.c (.p 3 0 1 0))) from by kernel_rfl) trivial
   refine jj6 (o := oT 1) (by kernel_rfl) g2.1 ?_
   rw [show (oT 1).dst = some 2 from by kernel_rfl]
   generalize hb1 : ((at2.put (some 108) (V.val ρ3 (.w (.c (.p 3 0 1 0))))).put (some 2) (V.val ρ3 (.w (.c (.p 3 0 1 0))))) = b1
   have b1s : b1.tmps.size = 109 := by rw [← hb1, jcn, jcn, hats]
   have b12 : b1.tmps.getD 2 undef = V.val ρ3 (.w (.c (.p 3 0 1 0))) := by
    rw [← hb1, jcz (fun y hy => by cases hy; rw [jcn, hats]; decide), if_pos rfl]
   have b1d : b1.defers = [{ target := .collected D, args := #[] }] := by rw [← hb1, jb3, jb3, hatd]
   have g3 := jcF (P := Tryz.prog) (o := oT 2) (a := b1) (rd := fun x => match x with | .const v => some (.w (ofValue v)) | _ => none) hI.heap (fun x u hx => by
    cases x with
    | const v =>
     cases hx
     exact ⟨jgD _ v, (jfS _ v).symm⟩
    | _ => cases hx) (show jbL Tryz.prog (oT 2).op _ _ = some (True, .w (.c (.d (.i .i64 0)))) from by kernel_rfl) trivial
   refine jj6 (o := oT 2) (by kernel_rfl) g3.1 (wpListIn_nil (wpIn_ret ?_))
   rw [show (oT 2).dst = some 3 from by kernel_rfl]
   show LeavesInM _ _ _ _ _ _ _ _ _
   rw [jb3, b1d]
   have hI2 := OwnFrom.putObj (OI.own hr3.le) (.deferred none) hI hD hd rfl
   refine ⟨by simp, .inl ⟨D, _, rfl, run_takeDeferred hd, _, results_tmp2 (t := 2) (u := 3) (by kernel_rfl) _ _ _, ρ3, .t [.c (.p 3 0 1 0), .c (.d (.i .i64 0))], _, 7, ?_, ?_, ?_, hI2.heap, (hbl1.trans hbl2).trans hI2.bel, .inr ⟨he0, rfl, by rw [hss]⟩⟩⟩
   ·rw [jcz (fun y hy => by cases hy; rw [b1s]; decide), jcz (fun y hy => by cases hy; rw [b1s]; decide), if_pos rfl, if_neg (by decide), b12]
    rfl
   ·intro x hx
    simp only [List.mem_cons, List.not_mem_nil, or_false] at hx
    rcases hx with rfl | rfl
    ·exact (by decide : 3 < 7)
    ·trivial
   ·exact fun h hh => ((hag3 h hh).trans (hag2 h hh)).trans (hag1 h hh)
  | exit j => exact hle.elim
  | ret => exact hle.elim
 ·intro ex ρ1 st1 a1 w1 hne hk hr1 hag1 hbl1
  cases ex with
  | normal => exact absurd rfl hne
  | exit j => exact hk.elim
  | ret =>
   show LeavesInM _ _ _ _ _ _ _ _ _
   rw [hr1.defers]
   obtain ⟨⟨hb⟩, hk⟩ := hk
   simp only [jdG] at hk
   split at hk
   ·rename_i l hl
    have hra := jeV hr1 _ l _ hl hk
    refine ⟨(jb9 (l.map (·.2))).val ρ1, ?_, ρ1, jb9 (l.map (·.2)), st1.hp, st1.nx, rfl, je1 (fun y hy => ?_), hag1, hr1.heap, hbl1, .inl ⟨?_, hra.2.2⟩⟩
    ·rw [jcp]
     simp only [jgP, Array.mapM_eq_mapM_toList, Sem.run_bind, Sem.run_map, hra.1, Result.andThen_ok, Sem.run_pure, List.map_map]
     rfl
    ·obtain ⟨z, hz, rfl⟩ := List.mem_map.1 hy
     exact hra.2.1 z hz
    ·have h1 := he hb
     intro h0
     rw [h1, h0] at hb
     cases hb
   ·exact hk.elim
theorem jrf : jaf Tryz.prog 67 true (jap jdl jj5) := by
 refine jcL (body := jah Tryz.f67) Tryz.func67 (by kernel_rfl) (by kernel_rfl) ?_
 intro ls t hg ho b hb ρ0 w hlt hh
 unfold jj5 at hg
 split at hg
 ·rename_i rate samples noise tail
  cases hg
  obtain rfl := jaO hb
  obtain ⟨⟨e, zs, ss⟩, hr⟩ : ∃ r, jal rate samples noise tail = some r := by
   have hk : ok (jal rate samples noise tail) := by
    revert ho
    unfold GT.sel
    split <;> exact fun h => h
   exact Option.isSome_iff_exists.1 hk
  refine (jqc rate samples noise tail e zs ss hr ρ0 w hlt hh).mono ?_
  rintro x w' ⟨ρ', v, hp', nx', h1, h2, h3, h4, h5, h6⟩
  refine ⟨ρ', v, hp', nx', h1, h2, h3, h4, h5, ?_⟩
  have hv : val (jal rate samples noise tail) = (e, zs, ss) := by rw [hr]; rfl
  rw [hv]
  rcases h6 with ⟨h6, h7⟩ | ⟨rfl, rfl, rfl⟩
  ·rw [show ((e, zs, ss) : Int × List (List Int) × List (List Int)).1 = e from rfl, show (e != 0) = true from by simpa using h6]
   exact h7
  ·refine Eq.mp (by kernel_rfl : (
    (Ob (rate = rate) ∧ (Ob (noise = noise) ∧ (Ob (tail = tail) ∧ (Ob (zs = zs) ∧ (Ob (ss = ss) ∧ (Ob ((0 : Int) = (0 : Int)) ∧ True)))))) ) = _) ?_
   exact ⟨⟨rfl⟩, ⟨rfl⟩, ⟨rfl⟩, ⟨rfl⟩, ⟨rfl⟩, ⟨rfl⟩, trivial⟩
 ·cases hg
theorem sp_67_ok {sp : jaa} (h : jab Tryz.prog sp) : jab Tryz.prog (sp_67 sp) := jag jrf h
end Go.Sh
end

section
namespace Go.Sh
open Go.Lib
def ja9 : Nat → List UInt8 → Nat
 | a, [] => a
 | a, c :: r => ja9 (a * 10 + (c.toNat - 48)) r
def jca (c : UInt8) : Bool := decide (48 ≤ c.toNat) && decide (c.toNat ≤ 57)
def jbx (l : List UInt8) : Bool := l.all jca
theorem jcb {c : UInt8} : jca c = true ↔ 48 ≤ c.toNat ∧ c.toNat ≤ 57 := by simp [jca]
theorem jen : ∀ (l : List UInt8) (a : Nat) (c : UInt8), ja9 a (l ++ [c]) = ja9 a l * 10 + (c.toNat - 48)
 | [], _, _ => rfl
 | x :: l, a, c => jen l (a * 10 + (x.toNat - 48)) c
theorem jiZ : ∀ (l : List UInt8) (a : Nat), jbx l = true → ja9 a l < (a + 1) * 10 ^ l.length
 | [], a, _ => by
  rw [List.length_nil, Nat.pow_zero, Nat.mul_one]
  exact Nat.lt_succ_self a
 | x :: l, a, h => by
  have hx : jca x = true ∧ jbx l = true := by simpa [jbx] using h
  have h1 := jcb.1 hx.1
  have ih := jiZ l (a * 10 + (x.toNat - 48)) hx.2
  have h2 : (a * 10 + (x.toNat - 48) + 1) * 10 ^ l.length ≤ (a + 1) * 10 * 10 ^ l.length := Nat.mul_le_mul_right _ (by omega)
  have e : (a + 1) * 10 ^ (l.length + 1) = (a + 1) * 10 * 10 ^ l.length := by rw [Nat.pow_succ', Nat.mul_assoc]
  show ja9 (a * 10 + (x.toNat - 48)) l < (a + 1) * 10 ^ (l.length + 1)
  rw [e]
  exact Nat.lt_of_lt_of_le ih h2
theorem jlc {d : Nat} (h : d < 10) : (UInt8.ofNat (48 + d)).toNat = 48 + d := by
 rw [UInt8.toNat_ofNat']
 exact Nat.mod_eq_of_lt (by omega)
theorem jph {c : UInt8} (h : jca c = true) : UInt8.ofNat (48 + (c.toNat - 48)) = c := by
 have := jcb.1 h
 rw [show 48 + (c.toNat - 48) = c.toNat by omega]
 exact UInt8.ofNat_toNat
theorem jcc {u : Nat} (h : u < 10) : decDigits u = [UInt8.ofNat (48 + u)] := by rw [decDigits, dif_pos h]
theorem jfq {u : Nat} (h : ¬ u < 10) : decDigits u = decDigits (u / 10) ++ [UInt8.ofNat (48 + u % 10)] := by rw [decDigits, dif_neg h]
theorem jmY (u : Nat) : decDigits u ≠ [] := by
 by_cases h : u < 10
 ·rw [jcc h]; simp
 ·rw [jfq h]; simp
theorem jrg (u : Nat) : ja9 0 (decDigits u) = u := by
 induction u using Nat.strongRecOn with
 | _ u ih =>
  by_cases h : u < 10
  ·rw [jcc h]
   show 0 * 10 + ((UInt8.ofNat (48 + u)).toNat - 48) = u
   rw [jlc h]; omega
  ·rw [jfq h, jen, ih (u / 10) (by omega), jlc (by omega)]; omega
theorem jlT (u : Nat) : jbx (decDigits u) = true := by
 induction u using Nat.strongRecOn with
 | _ u ih =>
  have one : ∀ d, d < 10 → jca (UInt8.ofNat (48 + d)) = true := fun d hd => jcb.2 (by rw [jlc hd]; omega)
  by_cases h : u < 10
  ·rw [jcc h]
   show (jca (UInt8.ofNat (48 + u)) && true) = true
   rw [one u h]; rfl
  ·rw [jfq h]
   have := ih (u / 10) (by omega)
   unfold jbx at this ⊢
   rw [List.all_append, this]
   show (true && (jca (UInt8.ofNat (48 + u % 10)) && true)) = true
   rw [one (u % 10) (by omega)]; rfl
theorem jn3 {e x : List UInt8} (he : e ≠ []) : (e ++ x).head? = e.head? := by
 cases e with
 | nil => exact absurd rfl he
 | cons a b => rfl
theorem jpi {u : Nat} (h0 : u ≠ 0) : (decDigits u).head? ≠ some 48 := by
 induction u using Nat.strongRecOn with
 | _ u ih =>
  by_cases h : u < 10
  ·rw [jcc h]
   intro hh
   have := congrArg UInt8.toNat (Option.some.inj hh)
   rw [jlc h] at this
   have e : (48 : UInt8).toNat = 48 := rfl
   omega
  ·rw [jfq h, jn3 (jmY _)]
   exact ih (u / 10) (by omega) (by omega)
theorem jqd : ∀ (n : Nat) (d : List UInt8), d.length = n → jbx d = true → d ≠ [] → (d.head? = some 48 → d.length = 1) → decDigits (ja9 0 d) = d
 | 0, d, hl, _, hn, _ => absurd (List.eq_nil_of_length_eq_zero hl) hn
 | n + 1, d, hl, hd, hn, hh => by
  obtain ⟨e, c, rfl⟩ : ∃ e c, d = e ++ [c] := ⟨d.dropLast, d.getLast hn, (List.dropLast_concat_getLast hn).symm⟩
  have hel : e.length = n := by simpa using hl
  have hd2 : jbx e = true ∧ jca c = true := by simpa [jbx, List.all_append] using hd
  have hc := jcb.1 hd2.2
  rw [jen]
  by_cases he : e = []
  ·subst he
   show decDigits (0 * 10 + (c.toNat - 48)) = [c]
   rw [jcc (by omega), Nat.zero_mul, Nat.zero_add, jph hd2.2]
  ·have hne : e.head? ≠ some 48 := by
    intro hx
    have h1 := hh (by rw [jn3 he]; exact hx)
    have h2 : e.length ≠ 0 := fun h => he (List.eq_nil_of_length_eq_zero h)
    rw [List.length_append, List.length_singleton] at h1
    omega
   have ih := jqd n e hel hd2.1 he (fun h => absurd h hne)
   have hpos : ja9 0 e ≠ 0 := by
    intro h0
    rw [h0, jcc (by omega)] at ih
    rw [← ih] at hne
    exact hne rfl
   rw [jfq (by omega), show (ja9 0 e * 10 + (c.toNat - 48)) / 10 = ja9 0 e by omega, show (ja9 0 e * 10 + (c.toNat - 48)) % 10 = c.toNat - 48 by omega, ih, jph hd2.2]
theorem jn4 : ∀ (l : List UInt8) (a : Nat), jbx l = true → (a + 1) * 10 ^ l.length ≤ 10 ^ 18 → parseUint10 a l = .ok (ja9 a l)
 | [], _, _, _ => rfl
 | x :: l, a, h, hb => by
  have hx : jca x = true ∧ jbx l = true := by simpa [jbx] using h
  have h1 := jcb.1 hx.1
  have hp : 1 ≤ 10 ^ l.length := Nat.one_le_pow _ _ (by decide)
  have e : (a + 1) * 10 ^ (l.length + 1) = (a + 1) * 10 * 10 ^ l.length := by rw [Nat.pow_succ', Nat.mul_assoc]
  rw [List.length_cons, e] at hb
  have h2 : (a + 1) * 10 ≤ 10 ^ 18 := Nat.le_trans (Nat.le_mul_of_pos_right _ hp) hb
  have h3 : (10 : Nat) ^ 18 = 1000000000000000000 := by decide
  rw [h3] at h2
  unfold parseUint10
  rw [if_pos h1, if_neg (by omega), if_neg (by omega)]
  refine jn4 l _ hx.2 (Nat.le_trans (Nat.mul_le_mul_right _ ?_) hb)
  omega
def behind (l : List UInt8) : List UInt8 := if l.head? = some 45 then l.tail else l
def jby (k : Nat) (l : List UInt8) : Option Int :=
 if behind l = [] ∨ k < (behind l).length ∨ ((behind l).head? = some 48 ∧ 1 < l.length) ∨ jbx (behind l) = false then none else some (if l.head? = some 45 then -(ja9 0 (behind l) : Int) else (ja9 0 (behind l) : Int))
theorem jpj (l : List UInt8) : trimPrefix l [45] = behind l := by
 cases l with
 | nil => rfl
 | cons x r =>
  unfold trimPrefix hasPrefix behind
  by_cases h : x = 45
  ·subst h; simp [List.isPrefixOf]
  ·simp [List.isPrefixOf, h, Ne.symm h]
theorem jrh {k : Nat} {l : List UInt8} {v : Int} (h : jby k l = some v) : behind l ≠ [] ∧ (behind l).length ≤ k ∧ ((behind l).head? = some 48 → l.length = 1) ∧ jbx (behind l) = true ∧ v = (if l.head? = some 45 then -(ja9 0 (behind l) : Int) else (ja9 0 (behind l) : Int)) := by
 unfold jby at h
 split at h
 ·cases h
 ·rename_i hc
  have hc1 : behind l ≠ [] := fun h => hc (.inl h)
  have hl : l ≠ [] := by intro hx; subst hx; exact hc1 rfl
  have hl2 : l.length ≠ 0 := fun h => hl (List.eq_nil_of_length_eq_zero h)
  refine ⟨hc1, Nat.not_lt.1 fun h => hc (.inr (.inl h)), fun hh => ?_, ?_, (Option.some.inj h).symm⟩
  ·have : ¬ 1 < l.length := fun h2 => hc (.inr (.inr (.inl ⟨hh, h2⟩)))
   omega
  ·cases hd : jbx (behind l) with
   | true => rfl
   | false => exact absurd (.inr (.inr (.inr hd))) hc
theorem jtz {k : Nat} {l : List UInt8} {v : Int} (hk : k ≤ 17) (h : jby k l = some v) : itoa v = l ∧ atoiAll l = .ok v ∧ (trimPrefix l [45]).length ≤ k ∧ v.natAbs < 10 ^ k := by
 obtain ⟨h1, h2, h3, h4, rfl⟩ := jrh h
 have hlt := jiZ (behind l) 0 h4
 rw [Nat.zero_add, Nat.one_mul] at hlt
 have hp := Nat.pow_le_pow_right (show 0 < 10 by omega) h2
 have hp2 := Nat.pow_le_pow_right (show 0 < 10 by omega) hk
 have h17 : (10 : Nat) ^ 17 = 100000000000000000 := by decide
 have hpm : parseMag (behind l) = .ok (ja9 0 (behind l)) := by
  unfold parseMag
  rw [if_neg h1]
  refine jn4 _ 0 h4 ?_
  have h18 : (10 : Nat) ^ 18 = 1000000000000000000 := by decide
  omega
 refine ⟨?_, ?_, by rw [jpj]; exact h2, ?_⟩
 ·by_cases hs : l.head? = some 45
  ·rw [if_pos hs]
   have hb : behind l = l.tail := by unfold behind; rw [if_pos hs]
   obtain ⟨r, rfl⟩ : ∃ r, l = 45 :: r := by
    cases l with
    | nil => cases hs
    | cons x r => exact ⟨r, by rw [Option.some.inj hs]⟩
   have hb : behind (45 :: r) = r := hb
   rw [hb] at h1 h2 h3 h4 hlt ⊢
   have h3' : r.head? ≠ some 48 := fun hh => by
    have h5 := h3 hh
    have h6 : r.length ≠ 0 := fun h => h1 (List.eq_nil_of_length_eq_zero h)
    rw [List.length_cons] at h5
    omega
   have dd := jqd r.length r rfl h4 h1 (fun h => absurd h h3')
   have hpos : ja9 0 r ≠ 0 := by
    intro h0
    rw [h0, jcc (by omega)] at dd
    rw [← dd] at h3'
    exact h3' rfl
   unfold itoa
   rw [if_pos (by omega), show (-(ja9 0 r : Int)).natAbs = ja9 0 r by omega, dd]
  ·rw [if_neg hs]
   have hb : behind l = l := by unfold behind; rw [if_neg hs]
   rw [hb] at h1 h3 h4 ⊢
   have dd := jqd l.length l rfl h4 h1 h3
   unfold itoa
   rw [if_neg (by omega), Int.toNat_natCast, dd]
 ·cases l with
  | nil => exact absurd rfl h1
  | cons x r =>
   by_cases hs : x = 45
   ·subst hs
    have hb : behind (45 :: r) = r := rfl
    rw [hb] at hpm hlt hp h4 ⊢
    rw [show (if (45 :: r).head? = some 45 then -(ja9 0 r : Int) else (ja9 0 r : Int)) = -(ja9 0 r : Int) from if_pos rfl, atoiAll_minus, hpm]
    show (if 9223372036854775808 < ja9 0 r then NumEnd.range else NumEnd.ok (-(ja9 0 r : Int))) = _
    rw [if_neg (by omega)]
   ·have hh : ¬ (x :: r).head? = some 45 := fun h => hs (Option.some.inj h)
    have hb : behind (x :: r) = x :: r := by unfold behind; rw [if_neg hh]
    rw [hb] at hpm hlt hp h4 ⊢
    have hx : jca x = true := by
     have : jca x = true ∧ jbx r = true := by simpa [jbx] using h4
     exact this.1
    have hx := jcb.1 hx
    rw [if_neg hh, atoiAll_plain x r (by omega) (by omega), hpm]
    show (if 9223372036854775808 ≤ ja9 0 (x :: r) then NumEnd.range else NumEnd.ok (ja9 0 (x :: r) : Int)) = _
    rw [if_neg (by omega)]
 ·split <;> omega
theorem num_B {k : Nat} {n : Int} (h : (trimPrefix (itoa n) [45]).length ≤ k) : jby k (itoa n) = some n := by
 rw [jpj] at h
 by_cases hn : n < 0
 ·have e : itoa n = 45 :: decDigits n.natAbs := by unfold itoa; rw [if_pos hn]
  have hb : behind (itoa n) = decDigits n.natAbs := by rw [e]; rfl
  have hh : (itoa n).head? = some 45 := by rw [e]; rfl
  unfold jby
  rw [hb] at h ⊢
  rw [if_neg, if_pos hh, jrg]
  ·congr 1; omega
  ·rintro (h1 | h1 | h1 | h1)
   ·exact jmY _ h1
   ·omega
   ·exact jpi (by omega) h1.1
   ·rw [jlT] at h1; cases h1
 ·have e : itoa n = decDigits n.toNat := by unfold itoa; rw [if_neg hn]
  have hd := jlT n.toNat
  have hh : ¬ (itoa n).head? = some 45 := by
   rw [e]
   cases hx : decDigits n.toNat with
   | nil => exact absurd hx (jmY _)
   | cons x r =>
    rw [hx] at hd
    have : jca x = true ∧ jbx r = true := by simpa [jbx] using hd
    intro hh
    have h1 := jcb.1 this.1
    have h2 : x = 45 := Option.some.inj hh
    rw [h2] at h1
    exact absurd h1 (by decide)
  have hb : behind (itoa n) = decDigits n.toNat := by unfold behind; rw [if_neg hh, e]
  unfold jby
  rw [hb] at h ⊢
  rw [if_neg, if_neg hh, jrg]
  ·congr 1; omega
  ·rintro (h1 | h1 | h1 | h1)
   ·exact jmY _ h1
   ·omega
   ·by_cases h0 : n.toNat = 0
    ·rw [e, h0, jcc (by omega)] at h1
     exact absurd h1.2 (by simp)
    ·exact jpi h0 h1.1
   ·rw [jlT] at h1; cases h1
def jaT (c : UInt8) : List UInt8 → List UInt8 → List (List UInt8)
 | p, [] => [p]
 | p, x :: r => if x = c then p :: jaT c [] r else jaT c (p ++ [x]) r
theorem jn5 (c : UInt8) : ∀ l : List UInt8, ∃ h t, jaT c [] l = h :: t ∧ ∀ p, jaT c p l = (p ++ h) :: t
 | [] => ⟨[], [], rfl, fun p => by simp [jaT]⟩
 | x :: r => by
  obtain ⟨h, t, e, f⟩ := jn5 c r
  by_cases hx : x = c
  ·exact ⟨[], jaT c [] r, by simp [jaT, hx], fun p => by simp [jaT, hx]⟩
  ·refine ⟨x :: h, t, ?_, fun p => ?_⟩
   ·unfold jaT; rw [if_neg hx, f]; rfl
   ·unfold jaT; rw [if_neg hx, f]; simp
theorem jri (c x : UInt8) (r : List UInt8) : index (x :: r) [c] = if x = c then 0 else if index r [c] = -1 then -1 else index r [c] + 1 := by
 conv => lhs; unfold index
 by_cases h : x = c
 ·rw [if_pos h, if_pos (by simp [List.isPrefixOf, h])]
 ·rw [if_neg h, if_neg (by simp [List.isPrefixOf, Ne.symm h])]
  by_cases h2 : index r [c] = -1
  ·rw [if_pos h2, if_pos (by simp [h2])]
  ·rw [if_neg h2, if_neg (by simp [h2])]
theorem jmq (c : UInt8) : ∀ l : List UInt8, splitK [c] 0 (count l [c]) l = jaT c [] l
 | [] => by
  have : count [] [c] = 0 := count_miss rfl
  rw [this]; rfl
 | x :: r => by
  have ih := jmq c r
  have hi := jri c x r
  by_cases hx : x = c
  ·rw [if_pos hx] at hi
   have hc := count_hit (s := x :: r) (sub := [c]) (i := 0) (by simp) hi
   rw [hc, Nat.add_comm 1]
   unfold splitK jaT
   rw [hi, if_neg (by decide), if_pos hx]
   show [] :: splitK [c] 0 (count r [c]) r = _
   rw [ih]
  ·rw [if_neg hx] at hi
   obtain ⟨h, t, e, f⟩ := jn5 c r
   have e2 : jaT c [] (x :: r) = (x :: h) :: t := by unfold jaT; rw [if_neg hx, f]; rfl
   rw [e2]
   rw [e] at ih
   by_cases h2 : index r [c] = -1
   ·rw [if_pos h2] at hi
    rw [count_miss hi]
    rw [count_miss h2] at ih
    have ih : [r] = h :: t := ih
    injection ih with q1 q2
    rw [← q1, ← q2]
    rfl
   ·rw [if_neg h2] at hi
    obtain ⟨i, hi0⟩ : ∃ i : Nat, index r [c] = i := ⟨(index r [c]).toNat, by have := index_ge r [c]; omega⟩
    rw [hi0] at hi h2
    have c1 := count_hit (s := x :: r) (sub := [c]) (i := i + 1) (by simp) (by rw [hi]; rfl)
    have c2 := count_hit (s := r) (sub := [c]) (i := i) (by simp) hi0
    have c3 : count (x :: r) [c] = count r [c] := by rw [c1, c2]; rfl
    rw [c3]
    rw [c2, Nat.add_comm 1] at ih ⊢
    unfold splitK at ih ⊢
    rw [hi0, if_neg (by simp)] at ih
    rw [hi, if_neg (by simp; omega)]
    have q0 : ((i : Int) + 1).toNat = i + 1 := by omega
    rw [q0]
    simp only [Int.toNat_natCast, Nat.add_zero] at ih
    injection ih with q1 q2
    rw [← q1, ← q2]
    simp [List.take_succ_cons]
end Go.Sh
end

section
namespace Go.Sx
theorem jcd {x : Int} (h : -9223372036854775808 ≤ x ∧ x ≤ 9223372036854775807) : IntKind.i64.wrap x = x := IntWalk.i64_in _ (by omega)
theorem jn6 {X Y : Type} {body : X → Option (X ⊕ Y)} (f : Nat → X) {y : Y} : ∀ (k : Nat) (s : Nat) (N : Nat), (∀ i, s ≤ i → i < s + k → body (f i) = some (.inl (f (i + 1)))) → body (f (s + k)) = some (.inr y) → k < N → jae body N (f s) = some y
 | 0, s, 0, _, _, h => absurd h (by omega)
 | 0, s, N + 1, _, hy, _ => by
  unfold jae
  rw [Nat.add_zero] at hy
  rw [hy]
 | k + 1, s, 0, _, _, h => absurd h (by omega)
 | k + 1, s, N + 1, h, hy, hN => by
  unfold jae
  rw [h s (Nat.le_refl _) (by omega)]
  exact jn6 f k (s + 1) N (fun i h1 h2 => h i (by omega) (by omega)) (by rw [show s + 1 + k = s + (k + 1) by omega]; exact hy) (by omega)
theorem jcO {X Y : Type} {body : X → Option (X ⊕ Y)} (f : Nat → X) {y : Y} {k : Nat} (h : ∀ i, i < k → body (f i) = some (.inl (f (i + 1)))) (hy : body (f k) = some (.inr y)) (hk : k < 18446744073709551616) : jae body big (f 0) = some y :=
 jn6 f k 0 big (fun i _ h2 => h i (by omega)) (by rw [Nat.zero_add]; exact hy) hk
theorem jqe {α Y : Type} (l : List α) (d : α) (P : α → Bool) {body : Int → Option (Int ⊕ Y)} (hit : Nat → Y) (miss : Y) (hlen : l.length < 9223372036854775807)
  (h1 : ∀ i, i < l.length → P (l.getD i d) = true → body (i : Int) = some (.inr (hit i)))
  (h2 : ∀ i, i < l.length → P (l.getD i d) = false → body (i : Int) = some (.inl ((i : Int) + 1))) (h3 : body (l.length : Int) = some (.inr miss)) :
  jae body big 0 = some (match l.findIdx? P with | some i => hit i | none => miss) := by
 cases hf : l.findIdx? P with
 | none =>
  rw [List.findIdx?_eq_none_iff] at hf
  refine jcO (fun i => (i : Int)) (k := l.length) (fun i hi => ?_) h3 (by omega)
  have := h2 i hi (by simpa [List.getD, hi] using hf l[i] (List.getElem_mem _))
  rw [this]
  rfl
 | some k =>
  rw [List.findIdx?_eq_some_iff_getElem] at hf
  obtain ⟨hk, hp, hbef⟩ := hf
  refine jcO (fun i => (i : Int)) (k := k) (fun i hi => ?_) (h1 k hk (by simpa [List.getD, hk] using hp)) (by omega)
  have hil : i < l.length := by omega
  have := h2 i hil (by simpa [List.getD, hil] using hbef i hi)
  rw [this]
  rfl
def inI (n : Int) : Prop := -9223372036854775808 ≤ n ∧ n ≤ 9223372036854775807
def inJ (n : Int) : Prop := -9223372036854775807 ≤ n ∧ n ≤ 9223372036854775807
theorem jaJ {α β : Type} (x : α) (f : α → Option β) : (some x).bind f = f x := rfl
end Go.Sx
end

section
namespace Go.Sx06
end Go.Sx06
end

section
namespace Go.Sh
open Go Go.Proofs Go.RowKit Go.Sx
abbrev sp_93 : jaa → jaa := jav 93 true (jpT .f64 .u64)
theorem sp_93_ok {sp : jaa} (h : jab Tryz.prog sp) : jab Tryz.prog (sp_93 sp) :=
 jag (jtP (fn := Tryz.f93) (g := Extern.MathFloatBits.float64bits) Tryz.func93 (by kernel_rfl) (by kernel_rfl) (by kernel_rfl) (by kernel_rfl) fun _ => rfl) h
end Go.Sh
end

section
namespace Go.Sh
open Go Go.Proofs Go.RowKit Go.Sx
end Go.Sh
end

section
namespace Go.Sh
open Go Go.Proofs Go.RowKit Go.Sx
open Go.IntKind (wrap)
def jn7 : List (Option Cont) := [some (.ints .i64 []), some (.ints .i64 [])]
def jeu (a : List Int) (b : List Int) (x0 : Int) : Option (Int ⊕ (Unit ⊕ Unit)) :=
 if x0 < (↑(List.length a) : Int) then
  if 0 ≤ x0 ∧ x0 < (↑(List.length a) : Int) then
  if Int.toNat x0 < List.length a then
   if 0 ≤ x0 ∧ x0 < (↑(List.length b) : Int) then
   if Int.toNat x0 < List.length b then
    if (List.getD a (Int.toNat x0) (0 : Int) != List.getD b (Int.toNat x0) (0 : Int)) = true then
    some (.inr ((.inl ())))
    else
    some (.inl (wrap .i64 (x0 + 1)))
   else none
   else none
  else none
  else none
 else
  some (.inr ((.inr ())))
def joP (u9 : Unit) : Option Bool :=
 some false
def joQ (u23 : Unit) : Option Bool :=
 some true
def jev : (Unit ⊕ Unit) → Option Bool :=
 (Sum.elim (joP) (joQ))
def jir (a : List Int) (b : List Int) : Option Bool :=
 if ((↑(List.length a) : Int) != (↑(List.length b) : Int)) = true then
  some false
 else
  Option.bind (jae (jeu a b) big (0 : Int)) (jev)
def jj7 : List A → Option (Prop × List RV)
 | [.r (.ints .i64 a), .r (.ints .i64 b)] => some (ok (jir a b), [.d (.b ((val (jir a b))))])
 | _ => none
abbrev sp_55 : jaa → jaa := jav 55 true (jaq jn7 jj7)
theorem jrj (a : List Int) (b : List Int) (r : Bool) (h : Option.bind (jir a b) some = some r) : ja8 Tryz.f55 (sp0) (fun gs id _ => match id with
 | 0 => some ⟨Int × Nat, fun z => ⟨[(0, .w (.c (.o 0))), (1, .w (.c (.o 1))), (5, .w (.c (.d (.i .i64 (Prod.fst z)))))], [(0, .ext (.ints .i64 a)), (1, .ext (.ints .i64 b))], 2⟩, fun z => Option.bind (jae (jeu a b) (Prod.snd z) (Prod.fst z)) (fun y0 => Option.bind (jev y0) some) = some r, fun z => Prod.snd z⟩
 | _ => none) [.r (.ints .i64 a), .r (.ints .i64 b)] [.d (.b r)] := by
 refine Eq.mp (by kernel_rfl : (
 Br ((↑(List.length a) : Int) != (↑(List.length b) : Int))
  ((Ob True ∧
 (Ob (false = r) ∧
 True)))
  (((∃ (v0 : Int × Nat), (Ob ((Option.bind (jae (jeu a b) v0.2 v0.1) fun y0 => Option.bind (jev y0) some) = some r) ∧
 (Ob ((0 : Int) = v0.1) ∧
 (Ob (a = a) ∧
 (Ob (b = b) ∧
 True))))) ∧
  (∀ (v0 : Int × Nat), ((Option.bind (jae (jeu a b) v0.2 v0.1) fun y0 => Option.bind (jev y0) some) = some r →
 Br (decide (v0.1 < (↑(List.length a) : Int)))
  ((Ob (0 ≤ v0.1 ∧ v0.1 < (↑(List.length a) : Int)) ∧
 (Ob (Int.toNat v0.1 < List.length a) ∧
 (Ob (0 ≤ v0.1 ∧ v0.1 < (↑(List.length b) : Int)) ∧
 (Ob (Int.toNat v0.1 < List.length b) ∧
 Br (List.getD a (Int.toNat v0.1) (0 : Int) != List.getD b (Int.toNat v0.1) (0 : Int))
  ((Ob True ∧
 (Ob (false = r) ∧
 True)))
  ((∃ (v1 : Int × Nat), (Ob ((Option.bind (jae (jeu a b) v1.2 v1.1) fun y0 => Option.bind (jev y0) some) = some r) ∧
 (Ob (v1.2 < v0.2) ∧
 (Ob (wrap .i64 (v0.1 + 1) = v1.1) ∧
 (Ob (a = a) ∧
 (Ob (b = b) ∧
 True))))))))))))
  ((Ob True ∧
 (Ob (true = r) ∧
 True)))))))) = _) ?_
 refine jaS h (fun h => ?_) (fun h => ?_)
 ·refine jac ?_
  exact rcs h
 ·refine ⟨⟨((0 : Int), big), ⟨jaX h⟩, (by repeat' constructor)⟩, fun z0 hz0 => ?_⟩
  obtain ⟨k0, hm0, h⟩ := jaH hz0
  refine jaC h (fun h => ?_) (fun h => ?_)
  ·refine jaj h fun h => ?_
   refine jaj h fun h => ?_
   refine jaj h fun h => ?_
   refine jaj h fun h => ?_
   refine jaS h (fun h => ?_) (fun h => ?_)
   ·have h := jar h
    refine jac ?_
    exact rcs h
   ·exact ⟨(_, k0), ⟨jaG h⟩, ⟨jaQ hm0.symm⟩, (by repeat' constructor)⟩
  ·have h := jar h
   refine jac ?_
   exact rcs h
theorem jrk : jaf Tryz.prog 55 true (jaq jn7 jj7) := by
 refine jaw (sp := sp0) (fn := Tryz.f55) (body := jah Tryz.f55) mixed jao Tryz.func55 (by kernel_rfl) (by kernel_rfl) fun as_ ob rs h ho => ?_
 unfold jj7 at h
 split at h
 ·rename_i a b
  cases h
  exact ⟨Nat.le_of_ble_eq_true rfl, _, _, jrj a b _ (jan ho)⟩
 ·cases h
theorem sp_55_ok {sp : jaa} (h : jab Tryz.prog sp) : jab Tryz.prog (sp_55 sp) := jag jrk h
def jn8 : List (Option Cont) := [none]
def jct (n : Int) : Option Int :=
 some (if wrap .i64 (0 - n) > n then wrap .i64 (0 - n) else n)
def jj8 : List A → Option (Prop × List RV)
 | [.d (.i .i64 n)] => some (ok (jct n), [.d (.i .i64 ((val (jct n))))])
 | _ => none
abbrev sp_128 : jaa → jaa := jav 128 true (jaq jn8 jj8)
theorem jrl (n : Int) (r : Int) (h : Option.bind (jct n) some = some r) : ja8 Tryz.f128 (sp0) (fun _ _ _ => none) [.d (.i .i64 n)] [.d (.i .i64 r)] := by
 refine Eq.mp (by kernel_rfl : (
 (Ob True ∧
 (Ob ((if wrap .i64 (0 - n) > n then wrap .i64 (0 - n) else n) = r) ∧
 True))) = _) ?_
 refine jac ?_
 exact rcs h
theorem jrm : jaf Tryz.prog 128 true (jaq jn8 jj8) := by
 refine jaw (sp := sp0) (fn := Tryz.f128) (body := jah Tryz.f128) mixed jao Tryz.func128 (by kernel_rfl) (by kernel_rfl) fun as_ ob rs h ho => ?_
 unfold jj8 at h
 split at h
 ·rename_i n
  cases h
  exact ⟨Nat.le_of_ble_eq_true rfl, _, _, jrl n _ (jan ho)⟩
 ·cases h
theorem sp_128_ok {sp : jaa} (h : jab Tryz.prog sp) : jab Tryz.prog (sp_128 sp) := jag jrm h
def jpk : List (Option Cont) := [none, none]
def y94 (s : ByteArray) (at_ : Int) (x0 : (Int × Int × List ByteArray)) : Option ((Int × Int × List ByteArray) ⊕ (Int × List ByteArray)) :=
 if x0.2.1 < (↑(ByteArray.size s) : Int) then
  if 0 ≤ x0.2.1 ∧ x0.2.1 < (↑(ByteArray.size s) : Int) then
  if ((↑(UInt8.toNat (Array.getD (ByteArray.data s) (Int.toNat x0.2.1) (0 : UInt8))) : Int) == at_) = true then
   if 0 ≤ Option.getD (some x0.1) (0 : Int) ∧ Option.getD (some x0.1) 0 ≤ Option.getD (some x0.2.1) (↑(ByteArray.size s) : Int) ∧ Option.getD (some x0.2.1) (↑(ByteArray.size s) : Int) ≤ (↑(ByteArray.size s) : Int) then
   if (List.length x0.2.2 + List.length [ByteArray.extract s (Int.toNat (Option.getD (some x0.1) (0 : Int))) (Int.toNat (Option.getD (some x0.2.1) (↑(ByteArray.size s) : Int)))]) * 16 ≤ 140737488355328 ∧ List.length x0.2.2 + List.length [ByteArray.extract s (Int.toNat (Option.getD (some x0.1) (0 : Int))) (Int.toNat (Option.getD (some x0.2.1) (↑(ByteArray.size s) : Int)))] ≤ 9223372036854775807 then
    some (.inl ((wrap .i64 (x0.2.1 + 1), wrap .i64 (x0.2.1 + 1), x0.2.2 ++ [ByteArray.extract s (Int.toNat (Option.getD (some x0.1) (0 : Int))) (Int.toNat (Option.getD (some x0.2.1) (↑(ByteArray.size s) : Int)))])))
   else none
   else none
  else
   some (.inl ((x0.1, wrap .i64 (x0.2.1 + 1), x0.2.2)))
  else none
 else
  some (.inr (x0.1, x0.2.2))
def jdm (s : ByteArray) (u9 : Int × List ByteArray) : Option (List ByteArray) :=
 if 0 ≤ Option.getD (some u9.1) (0 : Int) ∧ Option.getD (some u9.1) 0 ≤ Option.getD none (↑(ByteArray.size s) : Int) ∧ Option.getD none (↑(ByteArray.size s) : Int) ≤ (↑(ByteArray.size s) : Int) then
  if (List.length u9.2 + List.length [ByteArray.extract s (Int.toNat (Option.getD (some u9.1) (0 : Int))) (Int.toNat (Option.getD none (↑(ByteArray.size s) : Int)))]) * 16 ≤ 140737488355328 ∧ List.length u9.2 + List.length [ByteArray.extract s (Int.toNat (Option.getD (some u9.1) (0 : Int))) (Int.toNat (Option.getD none (↑(ByteArray.size s) : Int)))] ≤ 9223372036854775807 then
  some (u9.2 ++ [ByteArray.extract s (Int.toNat (Option.getD (some u9.1) (0 : Int))) (Int.toNat (Option.getD none (↑(ByteArray.size s) : Int)))])
  else none
 else none
def jc8 (s : ByteArray) (at_ : Int) : Option (List ByteArray) :=
 Option.bind (jae (y94 s at_) big (((0 : Int), 0, []))) (jdm s)
def jlU : List A → Option (Prop × List RV)
 | [.d (.s s), .d (.i .u8 at_)] => some (ok (jc8 s at_), [.row 9 (.strs ((val (jc8 s at_))))])
 | _ => none
abbrev sp_111 : jaa → jaa := jav 111 true (jaq jpk jlU)
theorem jsw (s : ByteArray) (at_ : Int) (r : List ByteArray) (h : Option.bind (jc8 s at_) some = some r) : ja8 Tryz.f111 (sp0) (fun gs id _ => match id with
 | 0 => some ⟨(Int × Int × List ByteArray) × Nat, fun z => ⟨[(0, .w (.c (.d (.s s)))), (1, .w (.c (.d (.i .u8 at_)))), (5, .w (.c (.o 2))), (6, .w (.c (.d (.i .i64 (Prod.fst (Prod.fst z)))))), (7, .w (.c (.d (.i .i64 (Prod.fst (Prod.snd (Prod.fst z)))))))], [(2, .row 9 (.strs (Prod.snd (Prod.snd (Prod.fst z)))))], 3⟩, fun z => Option.bind (jae (y94 s at_) (Prod.snd z) (Prod.fst z)) (fun y0 => Option.bind (jdm s y0) some) = some r, fun z => Prod.snd z⟩
 | _ => none) [.d (.s s), .d (.i .u8 at_)] [.row 9 (.strs r)] := by
 refine Eq.mp (by kernel_rfl : (
 ((∃ (v0 : (Int × Int × List ByteArray) × Nat), (Ob ((Option.bind (jae (y94 s at_) v0.2 v0.1) fun y0 => Option.bind (jdm s y0) some) = some r) ∧
 (Ob (s = s) ∧
 (Ob (at_ = at_) ∧
 (Ob ((0 : Int) = v0.1.1) ∧
 (Ob ((0 : Int) = v0.1.2.1) ∧
 (Ob (List.length v0.1.2.2 = (0 : Nat)) ∧
 True))))))) ∧
  (∀ (v0 : (Int × Int × List ByteArray) × Nat), ((Option.bind (jae (y94 s at_) v0.2 v0.1) fun y0 => Option.bind (jdm s y0) some) = some r →
 Br (decide (v0.1.2.1 < (↑(ByteArray.size s) : Int)))
  ((Ob (0 ≤ v0.1.2.1 ∧ v0.1.2.1 < (↑(ByteArray.size s) : Int)) ∧
 Br ((↑(UInt8.toNat (Array.getD (ByteArray.data s) (Int.toNat v0.1.2.1) (0 : UInt8))) : Int) == at_)
  ((Ob (0 ≤ Option.getD (some v0.1.1) (0 : Int) ∧ Option.getD (some v0.1.1) 0 ≤ Option.getD (some v0.1.2.1) (↑(ByteArray.size s) : Int) ∧ Option.getD (some v0.1.2.1) (↑(ByteArray.size s) : Int) ≤ (↑(ByteArray.size s) : Int)) ∧
 (Ob ((List.length v0.1.2.2 + List.length [ByteArray.extract s (Int.toNat (Option.getD (some v0.1.1) (0 : Int))) (Int.toNat (Option.getD (some v0.1.2.1) (↑(ByteArray.size s) : Int)))]) * 16 ≤ 140737488355328 ∧ List.length v0.1.2.2 + List.length [ByteArray.extract s (Int.toNat (Option.getD (some v0.1.1) (0 : Int))) (Int.toNat (Option.getD (some v0.1.2.1) (↑(ByteArray.size s) : Int)))] ≤ 9223372036854775807) ∧
  (∃ (v1 : (Int × Int × List ByteArray) × Nat), (Ob ((Option.bind (jae (y94 s at_) v1.2 v1.1) fun y0 => Option.bind (jdm s y0) some) = some r) ∧
 (Ob (v1.2 < v0.2) ∧
 (Ob (s = s) ∧
 (Ob (at_ = at_) ∧
 (Ob (wrap .i64 (v0.1.2.1 + 1) = v1.1.1) ∧
 (Ob (wrap .i64 (v0.1.2.1 + 1) = v1.1.2.1) ∧
 (Ob (v0.1.2.2 ++ [ByteArray.extract s (Int.toNat (Option.getD (some v0.1.1) (0 : Int))) (Int.toNat (Option.getD (some v0.1.2.1) (↑(ByteArray.size s) : Int)))] = v1.1.2.2) ∧
 True)))))))))))
  ((∃ (v1 : (Int × Int × List ByteArray) × Nat), (Ob ((Option.bind (jae (y94 s at_) v1.2 v1.1) fun y0 => Option.bind (jdm s y0) some) = some r) ∧
 (Ob (v1.2 < v0.2) ∧
 (Ob (s = s) ∧
 (Ob (at_ = at_) ∧
 (Ob (v0.1.1 = v1.1.1) ∧
 (Ob (wrap .i64 (v0.1.2.1 + 1) = v1.1.2.1) ∧
 (Ob (v0.1.2.2 = v1.1.2.2) ∧
 True)))))))))))
  ((Ob (0 ≤ Option.getD (some v0.1.1) (0 : Int) ∧ Option.getD (some v0.1.1) 0 ≤ Option.getD none (↑(ByteArray.size s) : Int) ∧ Option.getD none (↑(ByteArray.size s) : Int) ≤ (↑(ByteArray.size s) : Int)) ∧
 (Ob ((List.length v0.1.2.2 + List.length [ByteArray.extract s (Int.toNat (Option.getD (some v0.1.1) (0 : Int))) (Int.toNat (Option.getD none (↑(ByteArray.size s) : Int)))]) * 16 ≤ 140737488355328 ∧ List.length v0.1.2.2 + List.length [ByteArray.extract s (Int.toNat (Option.getD (some v0.1.1) (0 : Int))) (Int.toNat (Option.getD none (↑(ByteArray.size s) : Int)))] ≤ 9223372036854775807) ∧
 (Ob True ∧
 (Ob (v0.1.2.2 ++ [ByteArray.extract s (Int.toNat (Option.getD (some v0.1.1) (0 : Int))) (Int.toNat (Option.getD none (↑(ByteArray.size s) : Int)))] = r) ∧
 True))))))))) = _) ?_
 refine ⟨⟨(((0 : Int), 0, []), big), ⟨jaX h⟩, (by repeat' constructor)⟩, fun z0 hz0 => ?_⟩
 obtain ⟨k0, hm0, h⟩ := jaH hz0
 refine jaC h (fun h => ?_) (fun h => ?_)
 ·refine jaj h fun h => ?_
  refine jaS h (fun h => ?_) (fun h => ?_)
  ·refine jaj h fun h => ?_
   refine jaj h fun h => ?_
   exact ⟨(_, k0), ⟨jaG h⟩, ⟨jaQ hm0.symm⟩, (by repeat' constructor)⟩
  ·exact ⟨(_, k0), ⟨jaG h⟩, ⟨jaQ hm0.symm⟩, (by repeat' constructor)⟩
 ·have h := jar h
  refine jaj h fun h => ?_
  refine jaj h fun h => ?_
  refine jac ?_
  exact jak h (fun e => by subst e; exact (by repeat' constructor))
theorem jsx : jaf Tryz.prog 111 true (jaq jpk jlU) := by
 refine jaw (sp := sp0) (fn := Tryz.f111) (body := jah Tryz.f111) mixed jao Tryz.func111 (by kernel_rfl) (by kernel_rfl) fun as_ ob rs h ho => ?_
 unfold jlU at h
 split at h
 ·rename_i s at_
  cases h
  exact ⟨Nat.le_of_ble_eq_true rfl, _, _, jsw s at_ _ (jan ho)⟩
 ·cases h
theorem sp_111_ok {sp : jaa} (h : jab Tryz.prog sp) : jab Tryz.prog (sp_111 sp) := jag jsx h
def jld : List (Option Cont) := [none, none]
def y3 (s : ByteArray) (x0 : (Int × Int × Int)) : Option ((Int × Int × Int) ⊕ (Unit ⊕ (Int × Int))) :=
 if x0.2.2 < (↑(ByteArray.size s) : Int) then
  if 0 ≤ x0.2.2 ∧ x0.2.2 < (↑(ByteArray.size s) : Int) then
  if (↑(UInt8.toNat (Array.getD (ByteArray.data s) (Int.toNat x0.2.2) (0 : UInt8))) : Int) < 48 then
   some (.inr ((.inl ())))
  else
   if 0 ≤ x0.2.2 ∧ x0.2.2 < (↑(ByteArray.size s) : Int) then
   if (↑(UInt8.toNat (Array.getD (ByteArray.data s) (Int.toNat x0.2.2) (0 : UInt8))) : Int) > 57 then
    some (.inr ((.inl ())))
   else
    if 0 ≤ x0.2.2 ∧ x0.2.2 < (↑(ByteArray.size s) : Int) then
    some (.inl ((x0.1, wrap .i64 (wrap .i64 (10 * x0.2.1) + wrap .i64 (wrap .u8 ((↑(UInt8.toNat (Array.getD (ByteArray.data s) (Int.toNat x0.2.2) (0 : UInt8))) : Int) - 48))), wrap .i64 (x0.2.2 + 1))))
    else none
   else none
  else none
 else
  some (.inr ((.inr (x0.1, x0.2.1))))
def jmH (u9 : Unit) : Option (Int × Bool) :=
 some (((0 : Int), false))
def jeG (u23 : Int × Int) : Option (Int × Bool) :=
 if (u23.1 == 1) = true then
  some ((wrap .i64 (0 - u23.2), true))
 else
  some (u23.2, true)
def y6 : (Unit ⊕ (Int × Int)) → Option (Int × Bool) :=
 (Sum.elim (jmH) (jeG))
def y39 (s : ByteArray) (u65 : Int) : Option (Int × Bool) :=
 if (↑(ByteArray.size s) : Int) > 0 then
  if (0 : Int) ≤ 0 ∧ 0 < (↑(ByteArray.size s) : Int) then
  if ((↑(UInt8.toNat (Array.getD (ByteArray.data s) (0 : Nat) (0 : UInt8))) : Int) == 45) = true then
   if ((↑(ByteArray.size s) : Int) == 1) = true then
   some (((0 : Int), false))
   else
   if wrap .i64 ((↑(ByteArray.size s) : Int) - 1) > u65 then
    some (((0 : Int), false))
   else
    if (0 : Int) ≤ 1 ∧ 1 < (↑(ByteArray.size s) : Int) then
    if ((↑(UInt8.toNat (Array.getD (ByteArray.data s) (1 : Nat) (0 : UInt8))) : Int) == 48) = true then
     if (↑(ByteArray.size s) : Int) > 1 then
     some (((0 : Int), false))
     else
     Option.bind (jae (y3 s) big (((1 : Int), 0, 1))) (y6)
    else
     Option.bind (jae (y3 s) big (((1 : Int), 0, 1))) (y6)
    else none
  else
   if ((↑(ByteArray.size s) : Int) == 0) = true then
   some (((0 : Int), false))
   else
   if wrap .i64 ((↑(ByteArray.size s) : Int) - 0) > u65 then
    some (((0 : Int), false))
   else
    if (0 : Int) ≤ 0 ∧ 0 < (↑(ByteArray.size s) : Int) then
    if ((↑(UInt8.toNat (Array.getD (ByteArray.data s) (0 : Nat) (0 : UInt8))) : Int) == 48) = true then
     if (↑(ByteArray.size s) : Int) > 1 then
     some (((0 : Int), false))
     else
     Option.bind (jae (y3 s) big (((0 : Int), 0, 0))) (y6)
    else
     Option.bind (jae (y3 s) big (((0 : Int), 0, 0))) (y6)
    else none
  else none
 else
  if ((↑(ByteArray.size s) : Int) == 0) = true then
  some (((0 : Int), false))
  else
  if wrap .i64 ((↑(ByteArray.size s) : Int) - 0) > u65 then
   some (((0 : Int), false))
  else
   if (0 : Int) ≤ 0 ∧ 0 < (↑(ByteArray.size s) : Int) then
   if ((↑(UInt8.toNat (Array.getD (ByteArray.data s) (0 : Nat) (0 : UInt8))) : Int) == 48) = true then
    if (↑(ByteArray.size s) : Int) > 1 then
    some (((0 : Int), false))
    else
    Option.bind (jae (y3 s) big (((0 : Int), 0, 0))) (y6)
   else
    Option.bind (jae (y3 s) big (((0 : Int), 0, 0))) (y6)
   else none
def jhg : List A → Option (Prop × List RV)
 | [.d (.s s), .d (.i .i64 u65)] => some (ok (y39 s u65), [.d (.i .i64 ((val (y39 s u65)).1)), .d (.b ((val (y39 s u65)).2))])
 | _ => none
abbrev sp_112 : jaa → jaa := jav 112 true (jaq jld jhg)
abbrev jcW (s : ByteArray) (v0 : (Int × Int × Int) × Nat) := (↑(UInt8.toNat (Array.getD (ByteArray.data s) (Int.toNat v0.1.2.2) (0 : UInt8))) : Int)
abbrev jbV (s : ByteArray) (v0 : (Int × Int × Int) × Nat) := (0 ≤ v0.1.2.2 ∧ v0.1.2.2 < (↑(ByteArray.size s) : Int))
abbrev ji0 (s : ByteArray) (v0 : (Int × Int × Int) × Nat) (v1 : (Int × Int × Int) × Nat) := (wrap .i64 (wrap .i64 (10 * v0.1.2.1) + wrap .i64 (wrap .u8 ((jcW s v0) - 48))) = v1.1.2.1)
theorem joR (s : ByteArray) (u65 : Int) (r : Int × Bool) (h : Option.bind (y39 s u65) some = some r) : ja8 Tryz.f112 (sp0) (fun gs id _ => match id with
 | 0 => some ⟨(Int × Int × Int) × Nat, fun z => ⟨[(0, .w (.c (.d (.s s)))), (6, .w (.c (.d (.i .i64 (Prod.fst (Prod.fst z)))))), (7, .w (.c (.d (.i .i64 (Prod.fst (Prod.snd (Prod.fst z))))))), (8, .w (.c (.d (.i .i64 (Prod.snd (Prod.snd (Prod.fst z)))))))], [], 2⟩, fun z => Option.bind (jae (y3 s) (Prod.snd z) (Prod.fst z)) (fun y0 => Option.bind (y6 y0) some) = some r, fun z => Prod.snd z⟩
 | _ => none) [.d (.s s), .d (.i .i64 u65)] [.d (.i .i64 r.1), .d (.b r.2)] := by
 refine Eq.mp (by kernel_rfl : (
 Br (decide ((↑(ByteArray.size s) : Int) > 0))
  ((Ob ((0 : Int) ≤ 0 ∧ 0 < (↑(ByteArray.size s) : Int)) ∧
 Br ((↑(UInt8.toNat (Array.getD (ByteArray.data s) (0 : Nat) (0 : UInt8))) : Int) == 45)
 (Br ((↑(ByteArray.size s) : Int) == 1)
  ((Ob True ∧
 (Ob True ∧
 (Ob ((0 : Int) = r.1) ∧
 (Ob (false = r.2) ∧
 True)))))
 (Br (decide (wrap .i64 ((↑(ByteArray.size s) : Int) - 1) > u65))
  ((Ob True ∧
 (Ob True ∧
 (Ob ((0 : Int) = r.1) ∧
 (Ob (false = r.2) ∧
 True)))))
  ((Ob ((0 : Int) ≤ 1 ∧ 1 < (↑(ByteArray.size s) : Int)) ∧
 Br ((↑(UInt8.toNat (Array.getD (ByteArray.data s) (1 : Nat) (0 : UInt8))) : Int) == 48)
 (Br (decide ((↑(ByteArray.size s) : Int) > 1))
  ((Ob True ∧
 (Ob True ∧
 (Ob ((0 : Int) = r.1) ∧
 (Ob (false = r.2) ∧
 True)))))
  (((∃ (v0 : (Int × Int × Int) × Nat), (Ob ((Option.bind (jae (y3 s) v0.2 v0.1) fun y0 => Option.bind (y6 y0) some) = some r) ∧
 (Ob (s = s) ∧
 (Ob ((1 : Int) = v0.1.1) ∧
 (Ob ((0 : Int) = v0.1.2.1) ∧
 (Ob ((1 : Int) = v0.1.2.2) ∧
 True)))))) ∧
  (∀ (v0 : (Int × Int × Int) × Nat), ((Option.bind (jae (y3 s) v0.2 v0.1) fun y0 => Option.bind (y6 y0) some) = some r →
 Br (decide (v0.1.2.2 < (↑(ByteArray.size s) : Int)))
  ((Ob (jbV s v0) ∧
 Br (decide ((jcW s v0) < 48))
  ((Ob True ∧
 (Ob True ∧
 (Ob ((0 : Int) = r.1) ∧
 (Ob (false = r.2) ∧
 True)))))
  ((Ob (jbV s v0) ∧
 Br (decide ((jcW s v0) > 57))
  ((Ob True ∧
 (Ob True ∧
 (Ob ((0 : Int) = r.1) ∧
 (Ob (false = r.2) ∧
 True)))))
  ((Ob (jbV s v0) ∧
 (Ob True ∧
  (∃ (v1 : (Int × Int × Int) × Nat), (Ob ((Option.bind (jae (y3 s) v1.2 v1.1) fun y0 => Option.bind (y6 y0) some) = some r) ∧
 (Ob (v1.2 < v0.2) ∧
 (Ob (s = s) ∧
 (Ob (v0.1.1 = v1.1.1) ∧
 (Ob (ji0 s v0 v1) ∧
 (Ob (wrap .i64 (v0.1.2.2 + 1) = v1.1.2.2) ∧
 True))))))))))))))
 (Br (v0.1.1 == 1)
  ((Ob True ∧
 (Ob True ∧
 (Ob (wrap .i64 (0 - v0.1.2.1) = r.1) ∧
 (Ob (true = r.2) ∧
 True)))))
  ((Ob True ∧
 (Ob True ∧
 (Ob (v0.1.2.1 = r.1) ∧
 (Ob (true = r.2) ∧
 True)))))))))))
  (((∃ (v0 : (Int × Int × Int) × Nat), (Ob ((Option.bind (jae (y3 s) v0.2 v0.1) fun y0 => Option.bind (y6 y0) some) = some r) ∧
 (Ob (s = s) ∧
 (Ob ((1 : Int) = v0.1.1) ∧
 (Ob ((0 : Int) = v0.1.2.1) ∧
 (Ob ((1 : Int) = v0.1.2.2) ∧
 True)))))) ∧
  (∀ (v0 : (Int × Int × Int) × Nat), ((Option.bind (jae (y3 s) v0.2 v0.1) fun y0 => Option.bind (y6 y0) some) = some r →
 Br (decide (v0.1.2.2 < (↑(ByteArray.size s) : Int)))
  ((Ob (jbV s v0) ∧
 Br (decide ((jcW s v0) < 48))
  ((Ob True ∧
 (Ob True ∧
 (Ob ((0 : Int) = r.1) ∧
 (Ob (false = r.2) ∧
 True)))))
  ((Ob (jbV s v0) ∧
 Br (decide ((jcW s v0) > 57))
  ((Ob True ∧
 (Ob True ∧
 (Ob ((0 : Int) = r.1) ∧
 (Ob (false = r.2) ∧
 True)))))
  ((Ob (jbV s v0) ∧
 (Ob True ∧
  (∃ (v1 : (Int × Int × Int) × Nat), (Ob ((Option.bind (jae (y3 s) v1.2 v1.1) fun y0 => Option.bind (y6 y0) some) = some r) ∧
 (Ob (v1.2 < v0.2) ∧
 (Ob (s = s) ∧
 (Ob (v0.1.1 = v1.1.1) ∧
 (Ob (ji0 s v0 v1) ∧
 (Ob (wrap .i64 (v0.1.2.2 + 1) = v1.1.2.2) ∧
 True))))))))))))))
 (Br (v0.1.1 == 1)
  ((Ob True ∧
 (Ob True ∧
 (Ob (wrap .i64 (0 - v0.1.2.1) = r.1) ∧
 (Ob (true = r.2) ∧
 True)))))
  ((Ob True ∧
 (Ob True ∧
 (Ob (v0.1.2.1 = r.1) ∧
 (Ob (true = r.2) ∧
 True))))))))))))))
 (Br ((↑(ByteArray.size s) : Int) == 0)
  ((Ob True ∧
 (Ob True ∧
 (Ob ((0 : Int) = r.1) ∧
 (Ob (false = r.2) ∧
 True)))))
 (Br (decide (wrap .i64 ((↑(ByteArray.size s) : Int) - 0) > u65))
  ((Ob True ∧
 (Ob True ∧
 (Ob ((0 : Int) = r.1) ∧
 (Ob (false = r.2) ∧
 True)))))
  ((Ob ((0 : Int) ≤ 0 ∧ 0 < (↑(ByteArray.size s) : Int)) ∧
 Br ((↑(UInt8.toNat (Array.getD (ByteArray.data s) (0 : Nat) (0 : UInt8))) : Int) == 48)
 (Br (decide ((↑(ByteArray.size s) : Int) > 1))
  ((Ob True ∧
 (Ob True ∧
 (Ob ((0 : Int) = r.1) ∧
 (Ob (false = r.2) ∧
 True)))))
  (((∃ (v0 : (Int × Int × Int) × Nat), (Ob ((Option.bind (jae (y3 s) v0.2 v0.1) fun y0 => Option.bind (y6 y0) some) = some r) ∧
 (Ob (s = s) ∧
 (Ob ((0 : Int) = v0.1.1) ∧
 (Ob ((0 : Int) = v0.1.2.1) ∧
 (Ob ((0 : Int) = v0.1.2.2) ∧
 True)))))) ∧
  (∀ (v0 : (Int × Int × Int) × Nat), ((Option.bind (jae (y3 s) v0.2 v0.1) fun y0 => Option.bind (y6 y0) some) = some r →
 Br (decide (v0.1.2.2 < (↑(ByteArray.size s) : Int)))
  ((Ob (jbV s v0) ∧
 Br (decide ((jcW s v0) < 48))
  ((Ob True ∧
 (Ob True ∧
 (Ob ((0 : Int) = r.1) ∧
 (Ob (false = r.2) ∧
 True)))))
  ((Ob (jbV s v0) ∧
 Br (decide ((jcW s v0) > 57))
  ((Ob True ∧
 (Ob True ∧
 (Ob ((0 : Int) = r.1) ∧
 (Ob (false = r.2) ∧
 True)))))
  ((Ob (jbV s v0) ∧
 (Ob True ∧
  (∃ (v1 : (Int × Int × Int) × Nat), (Ob ((Option.bind (jae (y3 s) v1.2 v1.1) fun y0 => Option.bind (y6 y0) some) = some r) ∧
 (Ob (v1.2 < v0.2) ∧
 (Ob (s = s) ∧
 (Ob (v0.1.1 = v1.1.1) ∧
 (Ob (ji0 s v0 v1) ∧
 (Ob (wrap .i64 (v0.1.2.2 + 1) = v1.1.2.2) ∧
 True))))))))))))))
 (Br (v0.1.1 == 1)
  ((Ob True ∧
 (Ob True ∧
 (Ob (wrap .i64 (0 - v0.1.2.1) = r.1) ∧
 (Ob (true = r.2) ∧
 True)))))
  ((Ob True ∧
 (Ob True ∧
 (Ob (v0.1.2.1 = r.1) ∧
 (Ob (true = r.2) ∧
 True)))))))))))
  (((∃ (v0 : (Int × Int × Int) × Nat), (Ob ((Option.bind (jae (y3 s) v0.2 v0.1) fun y0 => Option.bind (y6 y0) some) = some r) ∧
 (Ob (s = s) ∧
 (Ob ((0 : Int) = v0.1.1) ∧
 (Ob ((0 : Int) = v0.1.2.1) ∧
 (Ob ((0 : Int) = v0.1.2.2) ∧
 True)))))) ∧
  (∀ (v0 : (Int × Int × Int) × Nat), ((Option.bind (jae (y3 s) v0.2 v0.1) fun y0 => Option.bind (y6 y0) some) = some r →
 Br (decide (v0.1.2.2 < (↑(ByteArray.size s) : Int)))
  ((Ob (jbV s v0) ∧
 Br (decide ((jcW s v0) < 48))
  ((Ob True ∧
 (Ob True ∧
 (Ob ((0 : Int) = r.1) ∧
 (Ob (false = r.2) ∧
 True)))))
  ((Ob (jbV s v0) ∧
 Br (decide ((jcW s v0) > 57))
  ((Ob True ∧
 (Ob True ∧
 (Ob ((0 : Int) = r.1) ∧
 (Ob (false = r.2) ∧
 True)))))
  ((Ob (jbV s v0) ∧
 (Ob True ∧
  (∃ (v1 : (Int × Int × Int) × Nat), (Ob ((Option.bind (jae (y3 s) v1.2 v1.1) fun y0 => Option.bind (y6 y0) some) = some r) ∧
 (Ob (v1.2 < v0.2) ∧
 (Ob (s = s) ∧
 (Ob (v0.1.1 = v1.1.1) ∧
 (Ob (ji0 s v0 v1) ∧
 (Ob (wrap .i64 (v0.1.2.2 + 1) = v1.1.2.2) ∧
 True))))))))))))))
 (Br (v0.1.1 == 1)
  ((Ob True ∧
 (Ob True ∧
 (Ob (wrap .i64 (0 - v0.1.2.1) = r.1) ∧
 (Ob (true = r.2) ∧
 True)))))
  ((Ob True ∧
 (Ob True ∧
 (Ob (v0.1.2.1 = r.1) ∧
 (Ob (true = r.2) ∧
 True))))))))))))))))
 (Br ((↑(ByteArray.size s) : Int) == 0)
  ((Ob True ∧
 (Ob True ∧
 (Ob ((0 : Int) = r.1) ∧
 (Ob (false = r.2) ∧
 True)))))
 (Br (decide (wrap .i64 ((↑(ByteArray.size s) : Int) - 0) > u65))
  ((Ob True ∧
 (Ob True ∧
 (Ob ((0 : Int) = r.1) ∧
 (Ob (false = r.2) ∧
 True)))))
  ((Ob ((0 : Int) ≤ 0 ∧ 0 < (↑(ByteArray.size s) : Int)) ∧
 Br ((↑(UInt8.toNat (Array.getD (ByteArray.data s) (0 : Nat) (0 : UInt8))) : Int) == 48)
 (Br (decide ((↑(ByteArray.size s) : Int) > 1))
  ((Ob True ∧
 (Ob True ∧
 (Ob ((0 : Int) = r.1) ∧
 (Ob (false = r.2) ∧
 True)))))
  (((∃ (v0 : (Int × Int × Int) × Nat), (Ob ((Option.bind (jae (y3 s) v0.2 v0.1) fun y0 => Option.bind (y6 y0) some) = some r) ∧
 (Ob (s = s) ∧
 (Ob ((0 : Int) = v0.1.1) ∧
 (Ob ((0 : Int) = v0.1.2.1) ∧
 (Ob ((0 : Int) = v0.1.2.2) ∧
 True)))))) ∧
  (∀ (v0 : (Int × Int × Int) × Nat), ((Option.bind (jae (y3 s) v0.2 v0.1) fun y0 => Option.bind (y6 y0) some) = some r →
 Br (decide (v0.1.2.2 < (↑(ByteArray.size s) : Int)))
  ((Ob (jbV s v0) ∧
 Br (decide ((jcW s v0) < 48))
  ((Ob True ∧
 (Ob True ∧
 (Ob ((0 : Int) = r.1) ∧
 (Ob (false = r.2) ∧
 True)))))
  ((Ob (jbV s v0) ∧
 Br (decide ((jcW s v0) > 57))
  ((Ob True ∧
 (Ob True ∧
 (Ob ((0 : Int) = r.1) ∧
 (Ob (false = r.2) ∧
 True)))))
  ((Ob (jbV s v0) ∧
 (Ob True ∧
  (∃ (v1 : (Int × Int × Int) × Nat), (Ob ((Option.bind (jae (y3 s) v1.2 v1.1) fun y0 => Option.bind (y6 y0) some) = some r) ∧
 (Ob (v1.2 < v0.2) ∧
 (Ob (s = s) ∧
 (Ob (v0.1.1 = v1.1.1) ∧
 (Ob (ji0 s v0 v1) ∧
 (Ob (wrap .i64 (v0.1.2.2 + 1) = v1.1.2.2) ∧
 True))))))))))))))
 (Br (v0.1.1 == 1)
  ((Ob True ∧
 (Ob True ∧
 (Ob (wrap .i64 (0 - v0.1.2.1) = r.1) ∧
 (Ob (true = r.2) ∧
 True)))))
  ((Ob True ∧
 (Ob True ∧
 (Ob (v0.1.2.1 = r.1) ∧
 (Ob (true = r.2) ∧
 True)))))))))))
  (((∃ (v0 : (Int × Int × Int) × Nat), (Ob ((Option.bind (jae (y3 s) v0.2 v0.1) fun y0 => Option.bind (y6 y0) some) = some r) ∧
 (Ob (s = s) ∧
 (Ob ((0 : Int) = v0.1.1) ∧
 (Ob ((0 : Int) = v0.1.2.1) ∧
 (Ob ((0 : Int) = v0.1.2.2) ∧
 True)))))) ∧
  (∀ (v0 : (Int × Int × Int) × Nat), ((Option.bind (jae (y3 s) v0.2 v0.1) fun y0 => Option.bind (y6 y0) some) = some r →
 Br (decide (v0.1.2.2 < (↑(ByteArray.size s) : Int)))
  ((Ob (jbV s v0) ∧
 Br (decide ((jcW s v0) < 48))
  ((Ob True ∧
 (Ob True ∧
 (Ob ((0 : Int) = r.1) ∧
 (Ob (false = r.2) ∧
 True)))))
  ((Ob (jbV s v0) ∧
 Br (decide ((jcW s v0) > 57))
  ((Ob True ∧
 (Ob True ∧
 (Ob ((0 : Int) = r.1) ∧
 (Ob (false = r.2) ∧
 True)))))
  ((Ob (jbV s v0) ∧
 (Ob True ∧
  (∃ (v1 : (Int × Int × Int) × Nat), (Ob ((Option.bind (jae (y3 s) v1.2 v1.1) fun y0 => Option.bind (y6 y0) some) = some r) ∧
 (Ob (v1.2 < v0.2) ∧
 (Ob (s = s) ∧
 (Ob (v0.1.1 = v1.1.1) ∧
 (Ob (ji0 s v0 v1) ∧
 (Ob (wrap .i64 (v0.1.2.2 + 1) = v1.1.2.2) ∧
 True))))))))))))))
 (Br (v0.1.1 == 1)
  ((Ob True ∧
 (Ob True ∧
 (Ob (wrap .i64 (0 - v0.1.2.1) = r.1) ∧
 (Ob (true = r.2) ∧
 True)))))
  ((Ob True ∧
 (Ob True ∧
 (Ob (v0.1.2.1 = r.1) ∧
 (Ob (true = r.2) ∧
 True))))))))))))))) = _) ?_
 refine jaC h (fun h => ?_) (fun h => ?_)
 ·refine jaj h fun h => ?_
  refine jaS h (fun h => ?_) (fun h => ?_)
  ·refine jaS h (fun h => ?_) (fun h => ?_)
   ·refine jac ?_
    refine jac ?_
    exact rcs h
   ·refine jaC h (fun h => ?_) (fun h => ?_)
    ·refine jac ?_
     refine jac ?_
     exact rcs h
    ·refine jaj h fun h => ?_
     refine jaS h (fun h => ?_) (fun h => ?_)
     ·refine jaC h (fun h => ?_) (fun h => ?_)
      ·refine jac ?_
       refine jac ?_
       exact rcs h
      ·refine ⟨⟨(((1 : Int), 0, 1), big), ⟨jaX h⟩, (by repeat' constructor)⟩, fun z0 hz0 => ?_⟩
       obtain ⟨k0, hm0, h⟩ := jaH hz0
       refine jaC h (fun h => ?_) (fun h => ?_)
       ·refine jaj h fun h => ?_
        refine jaC h (fun h => ?_) (fun h => ?_)
        ·have h := jar h
         refine jac ?_
         refine jac ?_
         exact rcs h
        ·refine jaj h fun h => ?_
         refine jaC h (fun h => ?_) (fun h => ?_)
         ·have h := jar h
          refine jac ?_
          refine jac ?_
          exact rcs h
         ·refine jaj h fun h => ?_
          refine jac ?_
          exact ⟨(_, k0), ⟨jaG h⟩, ⟨jaQ hm0.symm⟩, (by repeat' constructor)⟩
       ·have h := jar h
        refine jaS h (fun h => ?_) (fun h => ?_)
        ·refine jac ?_
         refine jac ?_
         exact rcs h
        ·refine jac ?_
         refine jac ?_
         exact rcs h
     ·refine ⟨⟨(((1 : Int), 0, 1), big), ⟨jaX h⟩, (by repeat' constructor)⟩, fun z1 hz1 => ?_⟩
      obtain ⟨k1, hm1, h⟩ := jaH hz1
      refine jaC h (fun h => ?_) (fun h => ?_)
      ·refine jaj h fun h => ?_
       refine jaC h (fun h => ?_) (fun h => ?_)
       ·have h := jar h
        refine jac ?_
        refine jac ?_
        exact rcs h
       ·refine jaj h fun h => ?_
        refine jaC h (fun h => ?_) (fun h => ?_)
        ·have h := jar h
         refine jac ?_
         refine jac ?_
         exact rcs h
        ·refine jaj h fun h => ?_
         refine jac ?_
         exact ⟨(_, k1), ⟨jaG h⟩, ⟨jaQ hm1.symm⟩, (by repeat' constructor)⟩
      ·have h := jar h
       refine jaS h (fun h => ?_) (fun h => ?_)
       ·refine jac ?_
        refine jac ?_
        exact rcs h
       ·refine jac ?_
        refine jac ?_
        exact rcs h
  ·refine jaS h (fun h => ?_) (fun h => ?_)
   ·refine jac ?_
    refine jac ?_
    exact rcs h
   ·refine jaC h (fun h => ?_) (fun h => ?_)
    ·refine jac ?_
     refine jac ?_
     exact rcs h
    ·refine jaj h fun h => ?_
     refine jaS h (fun h => ?_) (fun h => ?_)
     ·refine jaC h (fun h => ?_) (fun h => ?_)
      ·refine jac ?_
       refine jac ?_
       exact rcs h
      ·refine ⟨⟨(((0 : Int), 0, 0), big), ⟨jaX h⟩, (by repeat' constructor)⟩, fun z2 hz2 => ?_⟩
       obtain ⟨k2, hm2, h⟩ := jaH hz2
       refine jaC h (fun h => ?_) (fun h => ?_)
       ·refine jaj h fun h => ?_
        refine jaC h (fun h => ?_) (fun h => ?_)
        ·have h := jar h
         refine jac ?_
         refine jac ?_
         exact rcs h
        ·refine jaj h fun h => ?_
         refine jaC h (fun h => ?_) (fun h => ?_)
         ·have h := jar h
          refine jac ?_
          refine jac ?_
          exact rcs h
         ·refine jaj h fun h => ?_
          refine jac ?_
          exact ⟨(_, k2), ⟨jaG h⟩, ⟨jaQ hm2.symm⟩, (by repeat' constructor)⟩
       ·have h := jar h
        refine jaS h (fun h => ?_) (fun h => ?_)
        ·refine jac ?_
         refine jac ?_
         exact rcs h
        ·refine jac ?_
         refine jac ?_
         exact rcs h
     ·refine ⟨⟨(((0 : Int), 0, 0), big), ⟨jaX h⟩, (by repeat' constructor)⟩, fun z3 hz3 => ?_⟩
      obtain ⟨k3, hm3, h⟩ := jaH hz3
      refine jaC h (fun h => ?_) (fun h => ?_)
      ·refine jaj h fun h => ?_
       refine jaC h (fun h => ?_) (fun h => ?_)
       ·have h := jar h
        refine jac ?_
        refine jac ?_
        exact rcs h
       ·refine jaj h fun h => ?_
        refine jaC h (fun h => ?_) (fun h => ?_)
        ·have h := jar h
         refine jac ?_
         refine jac ?_
         exact rcs h
        ·refine jaj h fun h => ?_
         refine jac ?_
         exact ⟨(_, k3), ⟨jaG h⟩, ⟨jaQ hm3.symm⟩, (by repeat' constructor)⟩
      ·have h := jar h
       refine jaS h (fun h => ?_) (fun h => ?_)
       ·refine jac ?_
        refine jac ?_
        exact rcs h
       ·refine jac ?_
        refine jac ?_
        exact rcs h
 ·refine jaS h (fun h => ?_) (fun h => ?_)
  ·refine jac ?_
   refine jac ?_
   exact rcs h
  ·refine jaC h (fun h => ?_) (fun h => ?_)
   ·refine jac ?_
    refine jac ?_
    exact rcs h
   ·refine jaj h fun h => ?_
    refine jaS h (fun h => ?_) (fun h => ?_)
    ·refine jaC h (fun h => ?_) (fun h => ?_)
     ·refine jac ?_
      refine jac ?_
      exact rcs h
     ·refine ⟨⟨(((0 : Int), 0, 0), big), ⟨jaX h⟩, (by repeat' constructor)⟩, fun z4 hz4 => ?_⟩
      obtain ⟨k4, hm4, h⟩ := jaH hz4
      refine jaC h (fun h => ?_) (fun h => ?_)
      ·refine jaj h fun h => ?_
       refine jaC h (fun h => ?_) (fun h => ?_)
       ·have h := jar h
        refine jac ?_
        refine jac ?_
        exact rcs h
       ·refine jaj h fun h => ?_
        refine jaC h (fun h => ?_) (fun h => ?_)
        ·have h := jar h
         refine jac ?_
         refine jac ?_
         exact rcs h
        ·refine jaj h fun h => ?_
         refine jac ?_
         exact ⟨(_, k4), ⟨jaG h⟩, ⟨jaQ hm4.symm⟩, (by repeat' constructor)⟩
      ·have h := jar h
       refine jaS h (fun h => ?_) (fun h => ?_)
       ·refine jac ?_
        refine jac ?_
        exact rcs h
       ·refine jac ?_
        refine jac ?_
        exact rcs h
    ·refine ⟨⟨(((0 : Int), 0, 0), big), ⟨jaX h⟩, (by repeat' constructor)⟩, fun z5 hz5 => ?_⟩
     obtain ⟨k5, hm5, h⟩ := jaH hz5
     refine jaC h (fun h => ?_) (fun h => ?_)
     ·refine jaj h fun h => ?_
      refine jaC h (fun h => ?_) (fun h => ?_)
      ·have h := jar h
       refine jac ?_
       refine jac ?_
       exact rcs h
      ·refine jaj h fun h => ?_
       refine jaC h (fun h => ?_) (fun h => ?_)
       ·have h := jar h
        refine jac ?_
        refine jac ?_
        exact rcs h
       ·refine jaj h fun h => ?_
        refine jac ?_
        exact ⟨(_, k5), ⟨jaG h⟩, ⟨jaQ hm5.symm⟩, (by repeat' constructor)⟩
     ·have h := jar h
      refine jaS h (fun h => ?_) (fun h => ?_)
      ·refine jac ?_
       refine jac ?_
       exact rcs h
      ·refine jac ?_
       refine jac ?_
       exact rcs h
theorem joS : jaf Tryz.prog 112 true (jaq jld jhg) := by
 refine jaw (sp := sp0) (fn := Tryz.f112) (body := jah Tryz.f112) mixed jao Tryz.func112 (by kernel_rfl) (by kernel_rfl) fun as_ ob rs h ho => ?_
 unfold jhg at h
 split at h
 ·rename_i s u65
  cases h
  exact ⟨Nat.le_of_ble_eq_true rfl, _, _, joR s u65 _ (jan ho)⟩
 ·cases h
theorem sp_112_ok {sp : jaa} (h : jab Tryz.prog sp) : jab Tryz.prog (sp_112 sp) := jag joS h
def jjF : List (Option Cont) := [none]
def y22 (x0 : (Int × ByteArray × ByteArray)) : Option ((Int × ByteArray × ByteArray) ⊕ (ByteArray × ByteArray)) :=
 if (x0.1 != 0) = true then
  Option.bind (jct (Int.tmod x0.1 (10 : Int))) fun r0 =>
  if (↑(ByteArray.size (jc2 [wrap .u8 (wrap .i64 (48 + r0))]) + ByteArray.size x0.2.1) : Int) ≤ 9223372036854775807 then
  some (.inl ((wrap .i64 (Int.tdiv x0.1 (10 : Int)), jc2 [wrap .u8 (wrap .i64 (48 + r0))] ++ x0.2.1, x0.2.2)))
  else none
 else
  some (.inr (x0.2.1, x0.2.2))
def y46 (u9 : ByteArray × ByteArray) : Option ByteArray :=
 if (↑(ByteArray.size u9.2 + ByteArray.size u9.1) : Int) ≤ 9223372036854775807 then
  some (u9.2 ++ u9.1)
 else none
def y20 (n : Int) : Option ByteArray :=
 if (n == 0) = true then
  some (ByteArray.mk #[(48 : UInt8)])
 else
  if n < 0 then
  Option.bind (jae (y22) big ((n, ByteArray.mk #[], ByteArray.mk #[(45 : UInt8)]))) (y46)
  else
  Option.bind (jae (y22) big (n, ByteArray.mk #[], ByteArray.mk #[])) (y46)
def jf9 : List A → Option (Prop × List RV)
 | [.d (.i .i64 n)] => some (ok (y20 n), [.d (.s ((val (y20 n))))])
 | _ => none
abbrev sp_113 : jaa → jaa := jav 113 true (jaq jjF jf9)
theorem jn9 (n : Int) (r : ByteArray) (h : Option.bind (y20 n) some = some r) : ja8 Tryz.f113 ((sp_128 sp0)) (fun gs id _ => match id with
 | 0 => some ⟨(Int × ByteArray × ByteArray) × Nat, fun z => ⟨[(0, .w (.c (.d (.i .i64 (Prod.fst (Prod.fst z)))))), (3, .w (.c (.d (.s (Prod.fst (Prod.snd (Prod.fst z))))))), (4, .w (.c (.d (.s (Prod.snd (Prod.snd (Prod.fst z)))))))], [], 1⟩, fun z => Option.bind (jae (y22) (Prod.snd z) (Prod.fst z)) (fun y0 => Option.bind (y46 y0) some) = some r, fun z => Prod.snd z⟩
 | _ => none) [.d (.i .i64 n)] [.d (.s r)] := by
 refine Eq.mp (by kernel_rfl : (
 Br (n == 0)
  ((Ob True ∧
 (Ob (ByteArray.mk #[(48 : UInt8)] = r) ∧
 True)))
 (Br (decide (n < 0))
  (((∃ (v0 : (Int × ByteArray × ByteArray) × Nat), (Ob ((Option.bind (jae y22 v0.2 v0.1) fun y0 => Option.bind (y46 y0) some) = some r) ∧
 (Ob (n = v0.1.1) ∧
 (Ob (ByteArray.mk #[] = v0.1.2.1) ∧
 (Ob (ByteArray.mk #[(45 : UInt8)] = v0.1.2.2) ∧
 True))))) ∧
  (∀ (v0 : (Int × ByteArray × ByteArray) × Nat), ((Option.bind (jae y22 v0.2 v0.1) fun y0 => Option.bind (y46 y0) some) = some r →
 Br (v0.1.1 != 0)
  ((Ob ((10 : Int) ≠ (0 : Int)) ∧
 (Ob (ok (jct (Int.tmod v0.1.1 (10 : Int)))) ∧
 (Ob True ∧
 (Ob True ∧
 (Ob ((↑(ByteArray.size (jc2 [wrap .u8 (wrap .i64 (48 + val (jct (Int.tmod v0.1.1 (10 : Int)))))]) + ByteArray.size v0.1.2.1) : Int) ≤ 9223372036854775807) ∧
 (Ob ((10 : Int) ≠ (0 : Int)) ∧
  (∃ (v1 : (Int × ByteArray × ByteArray) × Nat), (Ob ((Option.bind (jae y22 v1.2 v1.1) fun y0 => Option.bind (y46 y0) some) = some r) ∧
 (Ob (v1.2 < v0.2) ∧
 (Ob (wrap .i64 (Int.tdiv v0.1.1 (10 : Int)) = v1.1.1) ∧
 (Ob (jc2 [wrap .u8 (wrap .i64 (48 + val (jct (Int.tmod v0.1.1 (10 : Int)))))] ++ v0.1.2.1 = v1.1.2.1) ∧
 (Ob (v0.1.2.2 = v1.1.2.2) ∧
 True)))))))))))))
  ((Ob ((↑(ByteArray.size v0.1.2.2 + ByteArray.size v0.1.2.1) : Int) ≤ 9223372036854775807) ∧
 (Ob True ∧
 (Ob (v0.1.2.2 ++ v0.1.2.1 = r) ∧
 True))))))))
  (((∃ (v0 : (Int × ByteArray × ByteArray) × Nat), (Ob ((Option.bind (jae y22 v0.2 v0.1) fun y0 => Option.bind (y46 y0) some) = some r) ∧
 (Ob (n = v0.1.1) ∧
 (Ob (ByteArray.mk #[] = v0.1.2.1) ∧
 (Ob (ByteArray.mk #[] = v0.1.2.2) ∧
 True))))) ∧
  (∀ (v0 : (Int × ByteArray × ByteArray) × Nat), ((Option.bind (jae y22 v0.2 v0.1) fun y0 => Option.bind (y46 y0) some) = some r →
 Br (v0.1.1 != 0)
  ((Ob ((10 : Int) ≠ (0 : Int)) ∧
 (Ob (ok (jct (Int.tmod v0.1.1 (10 : Int)))) ∧
 (Ob True ∧
 (Ob True ∧
 (Ob ((↑(ByteArray.size (jc2 [wrap .u8 (wrap .i64 (48 + val (jct (Int.tmod v0.1.1 (10 : Int)))))]) + ByteArray.size v0.1.2.1) : Int) ≤ 9223372036854775807) ∧
 (Ob ((10 : Int) ≠ (0 : Int)) ∧
  (∃ (v1 : (Int × ByteArray × ByteArray) × Nat), (Ob ((Option.bind (jae y22 v1.2 v1.1) fun y0 => Option.bind (y46 y0) some) = some r) ∧
 (Ob (v1.2 < v0.2) ∧
 (Ob (wrap .i64 (Int.tdiv v0.1.1 (10 : Int)) = v1.1.1) ∧
 (Ob (jc2 [wrap .u8 (wrap .i64 (48 + val (jct (Int.tmod v0.1.1 (10 : Int)))))] ++ v0.1.2.1 = v1.1.2.1) ∧
 (Ob (v0.1.2.2 = v1.1.2.2) ∧
 True)))))))))))))
  ((Ob ((↑(ByteArray.size v0.1.2.2 + ByteArray.size v0.1.2.1) : Int) ≤ 9223372036854775807) ∧
 (Ob True ∧
 (Ob (v0.1.2.2 ++ v0.1.2.1 = r) ∧
 True)))))))))) = _) ?_
 refine jaS h (fun h => ?_) (fun h => ?_)
 ·refine jac ?_
  exact rcs h
 ·refine jaC h (fun h => ?_) (fun h => ?_)
  ·refine ⟨⟨((n, ByteArray.mk #[], ByteArray.mk #[(45 : UInt8)]), big), ⟨jaX h⟩, (by repeat' constructor)⟩, fun z1 hz1 => ?_⟩
   obtain ⟨k1, hm1, h⟩ := jaH hz1
   refine jaS h (fun h => ?_) (fun h => ?_)
   ·refine jdL (p := (10 : Int) ≠ (0 : Int)) (by decide) ?_
    refine jaE h fun h => ?_
    refine jac ?_
    refine jac ?_
    refine jaj h fun h => ?_
    refine jdL (p := (10 : Int) ≠ (0 : Int)) (by decide) ?_
    exact ⟨(_, k1), ⟨jaG h⟩, ⟨jaQ hm1.symm⟩, (by repeat' constructor)⟩
   ·have h := jar h
    refine jaj h fun h => ?_
    refine jac ?_
    exact rcs h
  ·refine ⟨⟨((n, ByteArray.mk #[], ByteArray.mk #[]), big), ⟨jaX h⟩, (by repeat' constructor)⟩, fun z2 hz2 => ?_⟩
   obtain ⟨k2, hm2, h⟩ := jaH hz2
   refine jaS h (fun h => ?_) (fun h => ?_)
   ·refine jdL (p := (10 : Int) ≠ (0 : Int)) (by decide) ?_
    refine jaE h fun h => ?_
    refine jac ?_
    refine jac ?_
    refine jaj h fun h => ?_
    refine jdL (p := (10 : Int) ≠ (0 : Int)) (by decide) ?_
    exact ⟨(_, k2), ⟨jaG h⟩, ⟨jaQ hm2.symm⟩, (by repeat' constructor)⟩
   ·have h := jar h
    refine jaj h fun h => ?_
    refine jac ?_
    exact rcs h
theorem joa : jaf Tryz.prog 113 true (jaq jjF jf9) := by
 refine jaw (sp := (sp_128 sp0)) (fn := Tryz.f113) (body := jah Tryz.f113) mixed (sp_128_ok jao) Tryz.func113 (by kernel_rfl) (by kernel_rfl) fun as_ ob rs h ho => ?_
 unfold jf9 at h
 split at h
 ·rename_i n
  cases h
  exact ⟨Nat.le_of_ble_eq_true rfl, _, _, jn9 n _ (jan ho)⟩
 ·cases h
theorem sp_113_ok {sp : jaa} (h : jab Tryz.prog sp) : jab Tryz.prog (sp_113 sp) := jag joa h
end Go.Sh
end

section
namespace Go.Sh
open Go Go.Proofs Go.RowKit Go.Sx Go.Sx06 Ieee Go.Fl
def az (n : Int) : Int := max n (-n)
theorem juy (n : Int) : az n = (n.natAbs : Int) := by unfold az; omega
theorem jsy {n : Int} (h : inJ n) : jct n = some (az n) := by
 unfold inJ at h
 unfold jct az
 rw [jcd (x := 0 - n) (by omega)]
 congr 1
 split <;> omega
end Go.Sh
end

section
namespace Go.Sh
open Go Go.Proofs Go.RowKit Go.Sx Go.Sx06 Go.Lib
open Go.IntKind (wrap)
def mkB (l : List UInt8) : ByteArray := ⟨l.toArray⟩
theorem jsz (l : List UInt8) : (mkB l).data.toList = l := rfl
theorem job (s : ByteArray) : mkB s.data.toList = s := mk_data s
theorem jbS (l : List UInt8) : (mkB l).size = l.length := by rw [size_eq]; rfl
theorem ji1 (s : ByteArray) (j : Nat) : Array.getD s.data j 0 = s.data.toList.getD j 0 := by
 obtain ⟨⟨l⟩⟩ := s
 simp [Array.getD, List.getD]
 split
 ·rename_i h; rw [List.getElem?_eq_getElem h]; rfl
 ·rename_i h; rw [List.getElem?_eq_none (by omega)]; rfl
def jbp (c : UInt8) (l : List UInt8) : Nat → Nat × List (List UInt8)
 | 0 => (0, [])
 | j + 1 => if l.getD j 0 = c then (j + 1, (jbp c l j).2 ++ [(l.drop (jbp c l j).1).take (j - (jbp c l j).1)]) else jbp c l j
theorem jhh (c : UInt8) (l : List UInt8) : ∀ j, (jbp c l j).1 ≤ j ∧ (jbp c l j).2.length ≤ j
 | 0 => ⟨Nat.le_refl _, Nat.le_refl _⟩
 | j + 1 => by
  have ih := jhh c l j
  unfold jbp
  split
  ·simp; omega
  ·omega
theorem jmr (c : UInt8) (l : List UInt8) : ∀ j, j ≤ l.length → (jbp c l j).2 ++ jaT c ((l.drop (jbp c l j).1).take (j - (jbp c l j).1)) (l.drop j) = jaT c [] l
 | 0, _ => by simp [jbp]
 | j + 1, h => by
  have ih := jmr c l j (by omega)
  have hle := (jhh c l j).1
  have hd : l.drop j = l.getD j 0 :: l.drop (j + 1) := by
   rw [List.drop_eq_getElem_cons (by omega)]
   simp [List.getD, show j < l.length by omega]
  rw [hd] at ih
  have hg : ∀ p, jaT c p (l.getD j 0 :: l.drop (j + 1)) = if l.getD j 0 = c then p :: jaT c [] (l.drop (j + 1)) else jaT c (p ++ [l.getD j 0]) (l.drop (j + 1)) := fun p => rfl
  rw [hg] at ih
  unfold jbp
  by_cases hc : l.getD j 0 = c
  ·rw [if_pos hc] at ih
   rw [if_pos hc, ← ih]
   simp
  ·rw [if_neg hc] at ih
   rw [if_neg hc, ← ih]
   have e : (l.drop (jbp c l j).1).take (j + 1 - (jbp c l j).1) = (l.drop (jbp c l j).1).take (j - (jbp c l j).1) ++ [l.getD j 0] := by
    rw [show j + 1 - (jbp c l j).1 = (j - (jbp c l j).1) + 1 by omega, List.take_add_one, List.getElem?_drop]
    congr 1
    rw [show (jbp c l j).1 + (j - (jbp c l j).1) = j by omega]
    simp [List.getD, show j < l.length by omega]
   rw [e]
theorem jqf (x c : UInt8) : (((x.toNat : Nat) : Int) == ((c.toNat : Nat) : Int)) = decide (x = c) := by
 by_cases h : x = c
 ·subst h; simp
 ·rw [decide_eq_false h]
  have : x.toNat ≠ c.toNat := fun e => h (UInt8.toNat_inj.1 e)
  simp; omega
theorem jtV (s : ByteArray) (c : UInt8) (hs : s.size ≤ 1000000) : jc8 s (c.toNat : Int) = some ((jaT c [] s.data.toList).map mkB) := by
 have hl := size_eq s
 generalize hL : s.data.toList = l at *
 have hx : ∀ a b : Nat, ByteArray.extract s a b = mkB ((l.drop a).take (b - a)) := fun a b => by rw [extract_eq, hL]; rfl
 have e1 : jae (y94 s (c.toNat : Int)) big ((0 : Int), (0 : Int), []) = some (((jbp c l l.length).1 : Int), (jbp c l l.length).2.map mkB) := by
  refine jcO (fun j => (((jbp c l j).1 : Int), (j : Int), (jbp c l j).2.map mkB)) (k := l.length) (fun j hj => ?_) ?_ (by omega)
  ·have hle := jhh c l j
   unfold y94
   dsimp only
   rw [if_pos (by omega), if_pos (by omega), Int.toNat_natCast, ji1, hL, jqf]
   conv => rhs; unfold jbp
   by_cases hc : l.getD j 0 = c
   ·rw [decide_eq_true hc, if_pos rfl, if_pos hc, if_pos (by simp only [Option.getD_some]; omega), if_pos (by simp; omega)]
    simp only [Option.getD_some, Int.toNat_natCast, hx]
    rw [jcd (by omega)]
    simp
   ·rw [decide_eq_false hc, if_neg Bool.false_ne_true, if_neg hc, jcd (by omega)]
    rfl
  ·unfold y94
   dsimp only
   rw [if_neg (by omega)]
 have hle := jhh c l l.length
 have hi := jmr c l l.length (Nat.le_refl _)
 rw [List.drop_length] at hi
 unfold jc8
 rw [e1, jaJ]
 unfold jdm
 dsimp only
 rw [if_pos (by simp only [Option.getD_some, Option.getD_none]; omega), if_pos (by simp; omega)]
 simp only [Option.getD_some, Option.getD_none, Int.toNat_natCast, hx, hl]
 rw [← hi]
 simp [jaT]
theorem jsA {d : List UInt8} : (jbx d = true ∧ ∀ i, i < d.length → jca (d.getD i 0) = true) ∨ (jbx d = false ∧ ∃ j, j < d.length ∧ jca (d.getD j 0) = false ∧ ∀ i, i < j → jca (d.getD i 0) = true) := by
 induction d with
 | nil => left; exact ⟨rfl, fun i hi => by simp at hi⟩
 | cons x d ih =>
  cases hx : jca x with
  | false => right; exact ⟨by simp [jbx, hx], 0, by simp, by simpa using hx, fun i hi => by omega⟩
  | true =>
   rcases ih with ⟨h1, h2⟩ | ⟨h1, j, h2, h3, h4⟩
   ·left
    refine ⟨by unfold jbx at h1 ⊢; simp [hx, h1], fun i hi => ?_⟩
    cases i with
    | zero => simpa using hx
    | succ i => have := h2 i (by simpa using hi); simpa using this
   ·right
    refine ⟨by unfold jbx at h1 ⊢; simp [hx, h1], j + 1, by simpa using h2, by simpa using h3, fun i hi => ?_⟩
    cases i with
    | zero => simpa using hx
    | succ i => have := h4 i (by omega); simpa using this
theorem jrn {d : List UInt8} {i : Nat} (h : i < d.length) : ja9 0 (d.take (i + 1)) = ja9 0 (d.take i) * 10 + ((d.getD i 0).toNat - 48) := by
 rw [List.take_succ_eq_append_getElem h, jen]
 simp [List.getD, h]
theorem jro {d : List UInt8} {j : Nat} (hj : j ≤ d.length) (h : ∀ i, i < j → jca (d.getD i 0) = true) : jbx (d.take j) = true := by
 unfold jbx
 rw [List.all_eq_true]
 intro x hx
 obtain ⟨i, hi, rfl⟩ := List.getElem_of_mem hx
 rw [List.length_take] at hi
 have := h i (by omega)
 simpa [List.getD, show i < d.length by omega] using this
theorem jrp {d : List UInt8} {i : Nat} (hl : i ≤ 17) (hi : i ≤ d.length) (h : ∀ j, j < i → jca (d.getD j 0) = true) : ja9 0 (d.take i) < 100000000000000000 := by
 have a := jiZ (d.take i) 0 (jro hi h)
 rw [Nat.zero_add, Nat.one_mul] at a
 have b : 10 ^ (d.take i).length ≤ 10 ^ 17 := Nat.pow_le_pow_right (by omega) (by rw [List.length_take]; omega)
 have c : (10 : Nat) ^ 17 = 100000000000000000 := by decide
 omega
theorem jjG (s : ByteArray) (at_ : Nat) (hat : at_ ≤ s.size) (hsz : s.size ≤ 1000000) (hl : s.size - at_ ≤ 18) :
  jae (y3 s) big ((at_ : Int), (0 : Int), (at_ : Int)) = some (if jbx (s.data.toList.drop at_) = true then .inr ((at_ : Int), (ja9 0 (s.data.toList.drop at_) : Int)) else .inl ()) := by
 have hs := size_eq s
 generalize hL : s.data.toList = l at *
 have hdl : (l.drop at_).length = l.length - at_ := List.length_drop
 have hget : ∀ i, (l.drop at_).getD i 0 = l.getD (at_ + i) 0 := fun i => by simp [List.getD, List.getElem?_drop]
 have jbW : ∀ i, i < (l.drop at_).length → (∀ j, j < i → jca ((l.drop at_).getD j 0) = true) →
   y3 s ((at_ : Int), (ja9 0 ((l.drop at_).take i) : Int), ((at_ + i : Nat) : Int)) = if jca ((l.drop at_).getD i 0) = true then some (.inl ((at_ : Int), (ja9 0 ((l.drop at_).take (i + 1)) : Int), ((at_ + (i + 1) : Nat) : Int))) else some (.inr (.inl ())) := by
  intro i hi hd
  have sm := jrp (d := l.drop at_) (i := i) (by omega) (by omega) hd
  unfold y3
  dsimp only
  rw [if_pos (by omega), if_pos (by omega), Int.toNat_natCast, ji1, hL, ← hget]
  by_cases h1 : 48 ≤ ((l.drop at_).getD i 0).toNat
  ·rw [if_neg (by omega), if_pos (by omega)]
   by_cases h2 : ((l.drop at_).getD i 0).toNat ≤ 57
   ·rw [if_neg (by omega), if_pos (by omega), if_pos (jcb.2 ⟨h1, h2⟩), jrn hi]
    have u8 : wrap IntKind.u8 ((((l.drop at_).getD i 0).toNat : Int) - 48) = (((l.drop at_).getD i 0).toNat : Int) - 48 := by
     have hw : ∀ y : Int, IntKind.u8.wrap y = y % 256 := fun y => by
      unfold wrap
      simp [IntKind.signed, IntKind.bits]
     rw [hw]
     omega
    rw [u8, jcd (x := 10 * _) (by omega), jcd (x := (((l.drop at_).getD i 0).toNat : Int) - 48) (by omega), jcd (by omega), jcd (by omega)]
    congr 3
    exact Prod.ext (by dsimp only; omega) (by dsimp only; omega)
   ·rw [if_pos (by omega), if_neg (fun h => h2 (jcb.1 h).2)]
  ·rw [if_pos (by omega), if_neg (fun h => h1 (jcb.1 h).1)]
 rcases jsA (d := l.drop at_) with ⟨h1, h2⟩ | ⟨h1, j, h2, h3, h4⟩
 ·rw [h1, if_pos rfl]
  have := jcO (body := y3 s) (fun i => ((at_ : Int), (ja9 0 ((l.drop at_).take i) : Int), ((at_ + i : Nat) : Int))) (k := (l.drop at_).length) (y := .inr ((at_ : Int), (ja9 0 (l.drop at_) : Int)))
   (fun i hi => by rw [jbW i hi (fun j hj => h2 j (by omega)), h2 i hi, if_pos rfl])
   (by
    unfold y3
    dsimp only
    rw [if_neg (by omega), List.take_length]) (by omega)
  exact this
 ·rw [h1, if_neg Bool.false_ne_true]
  have := jcO (body := y3 s) (fun i => ((at_ : Int), (ja9 0 ((l.drop at_).take i) : Int), ((at_ + i : Nat) : Int))) (k := j) (y := .inl ())
   (fun i hi => by rw [jbW i (by omega) (fun q hq => h4 q (by omega)), h4 i hi, if_pos rfl])
   (by rw [jbW j h2 h4, h3, if_neg Bool.false_ne_true]) (by omega)
  exact this
end Go.Sh
end

section
open Go.RowKit
namespace Go.Sh
open Go Go.Proofs Go.RowKit Go.Sx
set_option maxRecDepth 100000
def jfM : List SV := [.a [.d, .r (.floats .f32 [])]]
def jis : List Lf → Option GT
 | [.d (.i .i64 rate), .r (.floats .f32 samples)] => some (.br ((val (jal rate samples 0 0)).1 != (0 : Int))
  (.leaf (ok (jal rate samples 0 0)) [.c (.d (.v (Value.pointer none))), .c (.d (.i .i64 ((val (jal rate samples 0 0)).1)))])
  (.leaf (ok (jal rate samples 0 0)) [.c (.box 133 [.d (.i .i64 rate), .g 0, .d (.i .i64 0), .d (.i .i64 0), .row 30 (.recs 2 ((val (jal rate samples 0 0)).2.1)), .row 30 (.recs 2 ((val (jal rate samples 0 0)).2.2))]), .c (.d (.i .i64 (0 : Int)))]))
 | _ => none
abbrev sp_84 : jaa → jaa := jav 84 true (jap jfM jis)
theorem jrq (rate : Int) (samples : List Nat) (e : Int) (ha : ok (jal rate samples (0 : Int) (0 : Int))) (hc : ((val (jal rate samples (0 : Int) (0 : Int))).1 != (0 : Int)) = true) (he : (val (jal rate samples (0 : Int) (0 : Int))).1 = e) : jbg Tryz.f84 (sp_67 sp0) (fun _ _ _ => none) (ja2 jfM [.d (.i .i64 rate), .r (.floats .f32 samples)]) [.c (.d (.v (Value.pointer none))), .c (.d (.i .i64 e))] := by
 refine Eq.mp (by kernel_rfl : (Br ((val (jal rate samples (0 : Int) (0 : Int))).1 != (0 : Int))
  ((Ob (ok (jal rate samples (0 : Int) (0 : Int))) ∧
  (Ob True ∧
  (Ob True ∧
  (Ob (Value.pointer none = Value.pointer none) ∧
  (Ob ((val (jal rate samples (0 : Int) (0 : Int))).1 = e) ∧
  True))))))
  ((Ob (ok (jal rate samples (0 : Int) (0 : Int))) ∧
  (Ob True ∧
  (Ob True ∧
  False))))) = _) ?_
 exact jn0 (fun _ => ⟨⟨ha⟩, ⟨trivial⟩, ⟨trivial⟩, ⟨rfl⟩, ⟨he⟩, trivial⟩) (fun h => by rw [hc] at h; cases h)
theorem jrr (rate : Int) (samples : List Nat) (zs ss : List (List Int)) (ha : ok (jal rate samples (0 : Int) (0 : Int))) (hc : ((val (jal rate samples (0 : Int) (0 : Int))).1 != (0 : Int)) = false) (h1 : (val (jal rate samples (0 : Int) (0 : Int))).2.1 = zs) (h2 : (val (jal rate samples (0 : Int) (0 : Int))).2.2 = ss) : jbg Tryz.f84 (sp_67 sp0) (fun _ _ _ => none) (ja2 jfM [.d (.i .i64 rate), .r (.floats .f32 samples)]) [.c (.box 133 [.d (.i .i64 rate), .g 0, .d (.i .i64 0), .d (.i .i64 0), .row 30 (.recs 2 zs), .row 30 (.recs 2 ss)]), .c (.d (.i .i64 (0 : Int)))] := by
 refine Eq.mp (by kernel_rfl : (Br ((val (jal rate samples (0 : Int) (0 : Int))).1 != (0 : Int))
  ((Ob (ok (jal rate samples (0 : Int) (0 : Int))) ∧
  (Ob True ∧
  (Ob True ∧
  False))))
  ((Ob (ok (jal rate samples (0 : Int) (0 : Int))) ∧
  (Ob True ∧
  (Ob True ∧
  (Ob (rate = rate) ∧
  (Ob ((0 : Int) = (0 : Int)) ∧
  (Ob ((0 : Int) = (0 : Int)) ∧
  (Ob ((val (jal rate samples (0 : Int) (0 : Int))).2.1 = zs) ∧
  (Ob ((val (jal rate samples (0 : Int) (0 : Int))).2.2 = ss) ∧
  (Ob ((0 : Int) = (0 : Int)) ∧
  True))))))))))) = _) ?_
 exact jn0 (fun h => by rw [hc] at h; cases h) (fun _ => ⟨⟨ha⟩, ⟨trivial⟩, ⟨trivial⟩, ⟨rfl⟩, ⟨rfl⟩, ⟨rfl⟩, ⟨h1⟩, ⟨h2⟩, ⟨rfl⟩, trivial⟩)
theorem jqg : jaf Tryz.prog 84 true (jap jfM jis) := by
 refine jaF (sp := (sp_67 sp0)) (fn := Tryz.f84) (body := jah Tryz.f84) mixed (sp_67_ok jao) Tryz.func84 (by kernel_rfl) (by kernel_rfl) fun ls t h ho b hb => ?_
 unfold jis at h
 split at h
 ·rename_i rate samples
  cases h
  obtain rfl := jaO hb
  refine ⟨Nat.le_of_ble_eq_true (by kernel_rfl), 40, fun _ _ _ => none, ?_⟩
  cases hc : ((val (jal rate samples (0 : Int) (0 : Int))).1 != (0 : Int)) with
  | true =>
   rw [hc] at ho
   exact jrq rate samples _ ho hc rfl
  | false =>
   rw [hc] at ho
   exact jrr rate samples _ _ ho hc rfl rfl
 ·cases h
theorem sp_84_ok {sp : jaa} (h : jab Tryz.prog sp) : jab Tryz.prog (sp_84 sp) := jag jqg h
def jaY (rate : Int) (samples : List Nat) (block : Int) : Option (Int × Int × List (List Int) × List (List Int)) :=
 Option.bind (jal rate samples (0 : Int) (0 : Int)) fun r =>
 if (r.1 != (0 : Int)) = true then
  Option.bind (y4 block (1 : Int) (1024 : Int)) fun b =>
  Option.bind (y5 b (2 : Int)) fun u =>
  Option.bind (y32 [r.1, u]) fun f => some (r.1, f, [], [])
 else
  Option.bind (y4 block (1 : Int) (1024 : Int)) fun b =>
  Option.bind (y5 b (2 : Int)) fun u =>
  Option.bind (y32 [(0 : Int), u]) fun f => some (0, f, r.2.1, r.2.2)
def jc9 : List SV := [.a [.d, .r (.floats .f32 [])], .c .d]
def jeH : List Lf → Option GT
 | [.d (.i .i64 rate), .r (.floats .f32 samples), .d (.i .i64 block)] => some (.br ((val (jaY rate samples block)).1 != (0 : Int))
  (.leaf (ok (jaY rate samples block)) [.c (.d (.v (Value.pointer none))), .c (.d (.i .i64 ((val (jaY rate samples block)).2.1)))])
  (.leaf (ok (jaY rate samples block)) [.c (.box 133 [.d (.i .i64 rate), .g 0, .d (.i .i64 0), .d (.i .i64 0), .row 30 (.recs 2 ((val (jaY rate samples block)).2.2.1)), .row 30 (.recs 2 ((val (jaY rate samples block)).2.2.2))]), .c (.d (.i .i64 ((val (jaY rate samples block)).2.1)))]))
 | _ => none
abbrev sp_91 : jaa → jaa := jav 91 true (jap jc9 jeH)
theorem jmI (rate : Int) (samples : List Nat) (block e : Int) (hc : ((val (jal rate samples (0 : Int) (0 : Int))).1 != (0 : Int)) = true) (ha : ok (jal rate samples (0 : Int) (0 : Int))) (hw : ok (y4 block (1 : Int) (1024 : Int))) (hu : ok (y5 (val (y4 block (1 : Int) (1024 : Int))) (2 : Int)))
  (hf : ok (y32 [(val (jal rate samples (0 : Int) (0 : Int))).1, val (y5 (val (y4 block (1 : Int) (1024 : Int))) (2 : Int))])) (he : val (y32 [(val (jal rate samples (0 : Int) (0 : Int))).1, val (y5 (val (y4 block (1 : Int) (1024 : Int))) (2 : Int))]) = e) :
  jbg Tryz.f91 (sp_68 (sp_85 (sp_76 (sp_84 sp0)))) (fun _ _ _ => none) (ja2 jc9 [.d (.i .i64 rate), .r (.floats .f32 samples), .d (.i .i64 block)]) [.c (.d (.v (Value.pointer none))), .c (.d (.i .i64 e))] := by
 refine Eq.mp (by kernel_rfl : (Br ((val (jal rate samples (0 : Int) (0 : Int))).1 != (0 : Int))
   ((Ob (ok (jal rate samples (0 : Int) (0 : Int))) ∧
   (Ob (ok (y4 block (1 : Int) (1024 : Int))) ∧
   (Ob (ok (y5 (val (y4 block (1 : Int) (1024 : Int))) (2 : Int))) ∧
   (Ob (ok (y32 [(val (jal rate samples (0 : Int) (0 : Int))).1, val (y5 (val (y4 block (1 : Int) (1024 : Int))) (2 : Int))])) ∧
   (Ob True ∧
   (Ob True ∧
   (Ob (Value.pointer none = Value.pointer none) ∧
   (Ob (val (y32 [(val (jal rate samples (0 : Int) (0 : Int))).1, val (y5 (val (y4 block (1 : Int) (1024 : Int))) (2 : Int))]) = e) ∧
   True)))))))))
   ((Ob (ok (jal rate samples (0 : Int) (0 : Int))) ∧
   (Ob (ok (y4 block (1 : Int) (1024 : Int))) ∧
   (Ob (ok (y5 (val (y4 block (1 : Int) (1024 : Int))) (2 : Int))) ∧
   (Ob (ok (y32 [(0 : Int), val (y5 (val (y4 block (1 : Int) (1024 : Int))) (2 : Int))])) ∧
   (Ob True ∧
   (Ob True ∧
   False)))))))) = _) ?_
 exact jn0 (fun _ => ⟨⟨ha⟩, ⟨hw⟩, ⟨hu⟩, ⟨hf⟩, ⟨trivial⟩, ⟨trivial⟩, ⟨rfl⟩, ⟨he⟩, trivial⟩) (fun h => by rw [hc] at h; cases h)
theorem jmJ (rate : Int) (samples : List Nat) (block e : Int) (zs ss : List (List Int)) (hc : ((val (jal rate samples (0 : Int) (0 : Int))).1 != (0 : Int)) = false) (ha : ok (jal rate samples (0 : Int) (0 : Int))) (hw : ok (y4 block (1 : Int) (1024 : Int))) (hu : ok (y5 (val (y4 block (1 : Int) (1024 : Int))) (2 : Int)))
  (hf : ok (y32 [(0 : Int), val (y5 (val (y4 block (1 : Int) (1024 : Int))) (2 : Int))])) (h1 : (val (jal rate samples (0 : Int) (0 : Int))).2.1 = zs) (h2 : (val (jal rate samples (0 : Int) (0 : Int))).2.2 = ss) (he : val (y32 [(0 : Int), val (y5 (val (y4 block (1 : Int) (1024 : Int))) (2 : Int))]) = e) :
  jbg Tryz.f91 (sp_68 (sp_85 (sp_76 (sp_84 sp0)))) (fun _ _ _ => none) (ja2 jc9 [.d (.i .i64 rate), .r (.floats .f32 samples), .d (.i .i64 block)]) [.c (.box 133 [.d (.i .i64 rate), .g 0, .d (.i .i64 0), .d (.i .i64 0), .row 30 (.recs 2 zs), .row 30 (.recs 2 ss)]), .c (.d (.i .i64 e))] := by
 refine Eq.mp (by kernel_rfl : (Br ((val (jal rate samples (0 : Int) (0 : Int))).1 != (0 : Int))
   ((Ob (ok (jal rate samples (0 : Int) (0 : Int))) ∧
   (Ob (ok (y4 block (1 : Int) (1024 : Int))) ∧
   (Ob (ok (y5 (val (y4 block (1 : Int) (1024 : Int))) (2 : Int))) ∧
   (Ob (ok (y32 [(val (jal rate samples (0 : Int) (0 : Int))).1, val (y5 (val (y4 block (1 : Int) (1024 : Int))) (2 : Int))])) ∧
   (Ob True ∧
   (Ob True ∧
   False)))))))
   ((Ob (ok (jal rate samples (0 : Int) (0 : Int))) ∧
   (Ob (ok (y4 block (1 : Int) (1024 : Int))) ∧
   (Ob (ok (y5 (val (y4 block (1 : Int) (1024 : Int))) (2 : Int))) ∧
   (Ob (ok (y32 [(0 : Int), val (y5 (val (y4 block (1 : Int) (1024 : Int))) (2 : Int))])) ∧
   (Ob True ∧
   (Ob True ∧
   (Ob (rate = rate) ∧
   (Ob ((0 : Int) = (0 : Int)) ∧
   (Ob ((0 : Int) = (0 : Int)) ∧
   (Ob ((val (jal rate samples (0 : Int) (0 : Int))).2.1 = zs) ∧
   (Ob ((val (jal rate samples (0 : Int) (0 : Int))).2.2 = ss) ∧
   (Ob (val (y32 [(0 : Int), val (y5 (val (y4 block (1 : Int) (1024 : Int))) (2 : Int))]) = e) ∧
   True)))))))))))))) = _) ?_
 exact jn0 (fun h => by rw [hc] at h; cases h) (fun _ => ⟨⟨ha⟩, ⟨hw⟩, ⟨hu⟩, ⟨hf⟩, ⟨trivial⟩, ⟨trivial⟩, ⟨rfl⟩, ⟨rfl⟩, ⟨rfl⟩, ⟨h1⟩, ⟨h2⟩, ⟨he⟩, trivial⟩)
theorem jdw {α : Type} {x : Option α} {y : α} (h : x = some y) : ok x := by rw [h]; rfl
theorem jbt {α : Type} [Inhabited α] {x : Option α} {y : α} (h : x = some y) : val x = y := by rw [h]; rfl
theorem jlV : jaf Tryz.prog 91 true (jap jc9 jeH) := by
 refine jaF (sp := (sp_68 (sp_85 (sp_76 (sp_84 sp0))))) (fn := Tryz.f91) (body := jah Tryz.f91) mixed (sp_68_ok (sp_85_ok (sp_76_ok (sp_84_ok jao)))) Tryz.func91 (by kernel_rfl) (by kernel_rfl) fun ls t h ho b hb => ?_
 unfold jeH at h
 split at h
 ·rename_i rate samples block
  cases h
  obtain rfl := jaO hb
  refine ⟨Nat.le_of_ble_eq_true (by kernel_rfl), 40, fun _ _ _ => none, ?_⟩
  have hk : ok (jaY rate samples block) := by
   revert ho
   unfold GT.sel
   split <;> exact fun h => h
  obtain ⟨⟨c, e, zs, ss⟩, hr⟩ := Option.isSome_iff_exists.1 hk
  rw [jbt hr]
  unfold jaY at hr
  obtain ⟨r, hr0, hr⟩ := Option.bind_eq_some_iff.1 hr
  split at hr
  ·rename_i hc
   obtain ⟨b, hb1, hr⟩ := Option.bind_eq_some_iff.1 hr
   obtain ⟨u, hu, hr⟩ := Option.bind_eq_some_iff.1 hr
   obtain ⟨f, hf, hr⟩ := Option.bind_eq_some_iff.1 hr
   obtain ⟨rfl, rfl, rfl, rfl⟩ : r.1 = c ∧ f = e ∧ [] = zs ∧ [] = ss := by cases hr; exact ⟨rfl, rfl, rfl, rfl⟩
   dsimp only
   rw [hc]
   rw [← jbt hr0] at hc
   rw [← jbt hb1] at hu
   refine jmI rate samples block _ hc (jdw hr0) (jdw hb1) (jdw hu) ?_ ?_
   ·rw [jbt hu, jbt hr0]
    exact jdw hf
   ·rw [jbt hu, jbt hr0]
    exact jbt hf
  ·rename_i hc
   obtain ⟨b, hb1, hr⟩ := Option.bind_eq_some_iff.1 hr
   obtain ⟨u, hu, hr⟩ := Option.bind_eq_some_iff.1 hr
   obtain ⟨f, hf, hr⟩ := Option.bind_eq_some_iff.1 hr
   cases hr
   have hc : (r.1 != (0 : Int)) = false := by simpa using hc
   rw [← jbt hr0] at hc
   rw [← jbt hb1] at hu
   refine jmJ rate samples block _ _ _ hc (jdw hr0) (jdw hb1) (jdw hu) ?_ ?_ ?_ ?_
   ·rw [jbt hu]
    exact jdw hf
   ·rw [jbt hr0]
   ·rw [jbt hr0]
   ·rw [jbt hu]
    exact jbt hf
 ·cases h
theorem sp_91_ok {sp : jaa} (h : jab Tryz.prog sp) : jab Tryz.prog (sp_91 sp) := jag jlV h
end Go.Sh
end

section
namespace Go.Sh
open Go Go.Proofs Go.RowKit Go.Sx
open Go.IntKind (wrap)
def y120 : List SV := [.c (.p [.d, .r (.floats .f32 []), .d, .d, .r (.recs 2 []), .r (.recs 2 [])]), .c (.d)]
def y23 (u1 : Int) (u4 : List Nat) (u5 : Int) (u6 : Int) (u0 : List (List Int)) (u7 : List (List Int)) (u53 : Int) : Option (Int × Int × Bool) :=
 Option.bind (y36 u7 u1 u4 u5 u6 u0 u7 u53) fun r0 =>
 Option.bind (y37 u7 u1 u4 u5 u6 u0 u7 u53) fun r1 =>
 if r1 < 0 then
  some (((0 : Int), 0, false))
 else
  if (r1 == (↑(List.length u0) : Int)) = true then
  some (((0 : Int), 0, false))
  else
  some ((if wrap .i64 (r0 - 1) > 0 then wrap .i64 (r0 - 1) else (0 : Int), r1, true))
def y121 : List Lf → Option GT
 | [.d (.i .i64 u1), .r (.floats .f32 u4), .d (.i .i64 u5), .d (.i .i64 u6), .r (.recs 2 u0), .r (.recs 2 u7), .d (.i .i64 u53)] => some (.leaf (ok (y23 u1 u4 u5 u6 u0 u7 u53)) [.s [.d (.i .i64 ((val (y23 u1 u4 u5 u6 u0 u7 u53)).1)), .d (.i .i64 ((val (y23 u1 u4 u5 u6 u0 u7 u53)).2.1))], .c (.d (.b ((val (y23 u1 u4 u5 u6 u0 u7 u53)).2.2)))])
 | _ => none
abbrev sp_118 : jaa → jaa := jav 118 true (jap y120 y121)
def jjh (u1 : Int) (u4 : List Nat) (u5 : Int) (u6 : Int) (u0 : List (List Int)) (u7 : List (List Int)) (u53 : Int) : T (Int × Int × Bool) :=
 .obT
 (.call (y36 u7 u1 u4 u5 u6 u0 u7 u53) fun r0 =>
 .obT
 (.call (y37 u7 u1 u4 u5 u6 u0 u7 u53) fun r1 =>
 .brP (r1 < 0)
 (.obT
 (.obT
 (.rc ((((0 : Int), 0, false))))))
 (.obT
 (.brB (r1 == (↑(List.length u0) : Int))
 (.obT
 (.obT
 (.rc ((((0 : Int), 0, false))))))
 (.obT
 (.obT
 (.rc (((if wrap .i64 (r0 - 1) > 0 then wrap .i64 (r0 - 1) else (0 : Int), r1, true))))))))))
theorem jit (u1 : Int) (u4 : List Nat) (u5 : Int) (u6 : Int) (u0 : List (List Int)) (u7 : List (List Int)) (u53 : Int) (r : Int × Int × Bool) (h : Option.bind (y23 u1 u4 u5 u6 u0 u7 u53) some = some r) : jbg Tryz.f118 ((sp_142 (sp_143 (sp_94 sp0)))) (fun _ _ _ => none) (ja2 y120 [.d (.i .i64 u1), .r (.floats .f32 u4), .d (.i .i64 u5), .d (.i .i64 u6), .r (.recs 2 u0), .r (.recs 2 u7), .d (.i .i64 u53)]) [.s [.d (.i .i64 r.1), .d (.i .i64 r.2.1)], .c (.d (.b r.2.2))] :=
 T.vc (t := jjh u1 u4 u5 u6 u0 u7 u53) (by kernel_rfl) (by kernel_rfl) h
theorem jiu : jaf Tryz.prog 118 true (jap y120 y121) := by
 refine jaF (sp := (sp_142 (sp_143 (sp_94 sp0)))) (fn := Tryz.f118) (body := jah Tryz.f118) mixed (sp_142_ok (sp_143_ok (sp_94_ok jao))) Tryz.func118 (by kernel_rfl) (by kernel_rfl) fun ls t h ho b hb => ?_
 unfold y121 at h
 split at h
 ·rename_i u1 u4 u5 u6 u0 u7 u53
  cases h
  obtain rfl := jaO hb
  exact ⟨Nat.le_of_ble_eq_true (by kernel_rfl), _, _, jit u1 u4 u5 u6 u0 u7 u53 _ (jan ho)⟩
 ·cases h
theorem sp_118_ok {sp : jaa} (h : jab Tryz.prog sp) : jab Tryz.prog (sp_118 sp) := jag jiu h
def y103 : List SV := [.c (.p [.d, .r (.floats .f32 []), .d, .d, .r (.recs 2 []), .r (.recs 2 [])]), .c (.d)]
def y31 (u1 : Int) (u4 : List Nat) (u5 : Int) (u6 : Int) (u0 : List (List Int)) (u7 : List (List Int)) (u33 : Int) : Option (Int × Int × Int) :=
 if (0 : Int) ≤ 0 ∧ 0 < (↑(List.length u7) : Int) then
  if 0 < List.length u7 then
  if (List.getD (List.getD u7 (0 : Nat) []) 0 (0 : Int) == 0) = true then
   some (((0 : Int), 0, 11))
  else
   if 0 ≤ u33 ∧ u33 < (↑(3 : Nat) : Int) then
   if Int.toNat u33 < List.length jbd then
    if List.getD (List.getD jbd (Int.toNat u33) []) 0 (0 : Int) > 0 then
    Option.bind (y23 u1 u4 u5 u6 u0 u7 (List.getD (List.getD jbd (Int.toNat u33) []) 0 (0 : Int))) fun r0 =>
    if (!r0.2.2) = true then
     some (((0 : Int), 0, 12))
    else
     Option.bind (y23 u1 u4 u5 u6 u0 u7 (List.getD (List.getD jbd (Int.toNat u33) []) 1 (0 : Int))) fun r1 =>
     if (!r1.2.2) = true then
     some (((0 : Int), 0, 12))
     else
     if u1 ≠ (0 : Int) then
      Option.bind (jbn (wrap .i64 (wrap .i64 (List.getD (List.getD jbd (Int.toNat u33) []) 2 0 * wrap .i64 (r1.2.1 - r0.1)) * 1000000)) u1) fun r2 =>
      some ((wrap .i64 (Int.tdiv (wrap .i64 (wrap .i64 (List.getD (List.getD jbd (Int.toNat u33) []) 2 0 * if wrap .i64 (r1.1 - r0.2.1) > 0 then wrap .i64 (r1.1 - r0.2.1) else 0) * 1000000)) u1), r2, 0))
     else none
    else
    Option.bind (y23 u1 u4 u5 u6 u0 u7 (List.getD (List.getD jbd (Int.toNat u33) []) 1 (0 : Int))) fun r1 =>
    if (!r1.2.2) = true then
     some (((0 : Int), 0, 12))
    else
     if u1 ≠ (0 : Int) then
     Option.bind (jbn (wrap .i64 (wrap .i64 (List.getD (List.getD jbd (Int.toNat u33) []) 2 0 * wrap .i64 (r1.2.1 - 0)) * 1000000)) u1) fun r3 =>
     some ((wrap .i64 (Int.tdiv (wrap .i64 (wrap .i64 (List.getD (List.getD jbd (Int.toNat u33) []) 2 0 * if wrap .i64 (r1.1 - 0) > 0 then wrap .i64 (r1.1 - 0) else 0) * 1000000)) u1), r3, 0))
     else none
   else none
   else none
  else none
 else none
def y104 : List Lf → Option GT
 | [.d (.i .i64 u1), .r (.floats .f32 u4), .d (.i .i64 u5), .d (.i .i64 u6), .r (.recs 2 u0), .r (.recs 2 u7), .d (.i .i64 u33)] => some (.leaf (ok (y31 u1 u4 u5 u6 u0 u7 u33)) [.s [.d (.i .i64 ((val (y31 u1 u4 u5 u6 u0 u7 u33)).1)), .d (.i .i64 ((val (y31 u1 u4 u5 u6 u0 u7 u33)).2.1))], .c (.d (.i .i64 ((val (y31 u1 u4 u5 u6 u0 u7 u33)).2.2)))])
 | _ => none
abbrev sp_69 : jaa → jaa := jav 69 true (jap y103 y104)
def jhF (u1 : Int) (u4 : List Nat) (u5 : Int) (u6 : Int) (u0 : List (List Int)) (u7 : List (List Int)) (u33 : Int) : T (Int × Int × Int) :=
 .obT
 (.obP ((0 : Int) ≤ 0 ∧ 0 < (↑(List.length u7) : Int))
 (.obP (0 < List.length u7)
 (.brB (List.getD (List.getD u7 (0 : Nat) []) 0 (0 : Int) == 0)
 (.obT
 (.obT
 (.rc ((((0 : Int), 0, 11))))))
 (.obP (0 ≤ u33 ∧ u33 < (↑(3 : Nat) : Int))
 (.obP (Int.toNat u33 < List.length jbd)
 (.brP (List.getD (List.getD jbd (Int.toNat u33) []) 0 (0 : Int) > 0)
 (.call (y23 u1 u4 u5 u6 u0 u7 (List.getD (List.getD jbd (Int.toNat u33) []) 0 (0 : Int))) fun r0 =>
 .brB (!r0.2.2)
 (.obT
 (.obT
 (.rc ((((0 : Int), 0, 12))))))
 (.call (y23 u1 u4 u5 u6 u0 u7 (List.getD (List.getD jbd (Int.toNat u33) []) 1 (0 : Int))) fun r1 =>
 .brB (!r1.2.2)
 (.obT
 (.obT
 (.rc ((((0 : Int), 0, 12))))))
 (.obT
 (.obP (u1 ≠ (0 : Int))
 (.obT
 (.call (jbn (wrap .i64 (wrap .i64 (List.getD (List.getD jbd (Int.toNat u33) []) 2 0 * wrap .i64 (r1.2.1 - r0.1)) * 1000000)) u1) fun r2 =>
 .obT
 (.obT
 (.rc (((wrap .i64 (Int.tdiv (wrap .i64 (wrap .i64 (List.getD (List.getD jbd (Int.toNat u33) []) 2 0 * if wrap .i64 (r1.1 - r0.2.1) > 0 then wrap .i64 (r1.1 - r0.2.1) else 0) * 1000000)) u1), r2, 0)))))))))))
 (.call (y23 u1 u4 u5 u6 u0 u7 (List.getD (List.getD jbd (Int.toNat u33) []) 1 (0 : Int))) fun r1 =>
 .brB (!r1.2.2)
 (.obT
 (.obT
 (.rc ((((0 : Int), 0, 12))))))
 (.obT
 (.obP (u1 ≠ (0 : Int))
 (.obT
 (.call (jbn (wrap .i64 (wrap .i64 (List.getD (List.getD jbd (Int.toNat u33) []) 2 0 * wrap .i64 (r1.2.1 - 0)) * 1000000)) u1) fun r3 =>
 .obT
 (.obT
 (.rc (((wrap .i64 (Int.tdiv (wrap .i64 (wrap .i64 (List.getD (List.getD jbd (Int.toNat u33) []) 2 0 * if wrap .i64 (r1.1 - 0) > 0 then wrap .i64 (r1.1 - 0) else 0) * 1000000)) u1), r3, 0))))))))))))))))
theorem jhi (u1 : Int) (u4 : List Nat) (u5 : Int) (u6 : Int) (u0 : List (List Int)) (u7 : List (List Int)) (u33 : Int) (r : Int × Int × Int) (h : Option.bind (y31 u1 u4 u5 u6 u0 u7 u33) some = some r) : jbg Tryz.f69 ((sp_118 (sp_119 sp0))) (fun _ _ _ => none) (ja2 y103 [.d (.i .i64 u1), .r (.floats .f32 u4), .d (.i .i64 u5), .d (.i .i64 u6), .r (.recs 2 u0), .r (.recs 2 u7), .d (.i .i64 u33)]) [.s [.d (.i .i64 r.1), .d (.i .i64 r.2.1)], .c (.d (.i .i64 r.2.2))] :=
 T.vc (t := jhF u1 u4 u5 u6 u0 u7 u33) (by kernel_rfl) (by kernel_rfl) h
theorem jhj : jaf Tryz.prog 69 true (jap y103 y104) := by
 refine jaF (sp := (sp_118 (sp_119 sp0))) (fn := Tryz.f69) (body := jah Tryz.f69) mixed (sp_118_ok (sp_119_ok jao)) Tryz.func69 (by kernel_rfl) (by kernel_rfl) fun ls t h ho b hb => ?_
 unfold y104 at h
 split at h
 ·rename_i u1 u4 u5 u6 u0 u7 u33
  cases h
  obtain rfl := jaO hb
  exact ⟨Nat.le_of_ble_eq_true (by kernel_rfl), _, _, jhi u1 u4 u5 u6 u0 u7 u33 _ (jan ho)⟩
 ·cases h
theorem sp_69_ok {sp : jaa} (h : jab Tryz.prog sp) : jab Tryz.prog (sp_69 sp) := jag jhj h
def y147 : List SV := [.a [.d, .r (.floats .f32 []), .d, .d], .c (.d)]
def y75 (u17 : Int) (u18 : List Nat) (u19 : Int) (u20 : Int) (u33 : Int) : Option (Int × Int × Int) :=
 if ((val (jal u17 u18 u19 u20)).1 != 0) = true then
  Option.bind (jal u17 u18 u19 u20) fun r0 =>
  if (r0.1 != 0) = true then
  some (((0 : Int), 0, r0.1))
  else
  none   else
  Option.bind (jal u17 u18 u19 u20) fun r0 =>
  Option.bind (y4 u33 (0 : Int) (2 : Int)) fun r1 =>
  if (!r1) = true then
  some (((0 : Int), 0, 15))
  else
  Option.bind (y31 u17 u18 u19 u20 r0.2.1 r0.2.2 u33) fun r2 =>
  some (r2.1, r2.2.1, r2.2.2)
def y148 : List Lf → Option GT
 | [.d (.i .i64 u17), .r (.floats .f32 u18), .d (.i .i64 u19), .d (.i .i64 u20), .d (.i .i64 u33)] => some (.leaf (ok (y75 u17 u18 u19 u20 u33)) [.s [.d (.i .i64 ((val (y75 u17 u18 u19 u20 u33)).1)), .d (.i .i64 ((val (y75 u17 u18 u19 u20 u33)).2.1))], .c (.d (.i .i64 ((val (y75 u17 u18 u19 u20 u33)).2.2)))])
 | _ => none
abbrev sp_19 : jaa → jaa := jav 19 true (jap y147 y148)
def jle (u17 : Int) (u18 : List Nat) (u19 : Int) (u20 : Int) (u33 : Int) : T (Int × Int × Int) :=
 .brB ((val (jal u17 u18 u19 u20)).1 != 0)
 (.call (jal u17 u18 u19 u20) fun r0 =>
 .brB (r0.1 != 0)
 (.obT
 (.obT
 (.rc ((((0 : Int), 0, r0.1))))))
 (.bad (fun r => (Ob (ok (y4 u33 (0 : Int) (2 : Int))) ∧
 Br (!val (y4 u33 (0 : Int) (2 : Int)))
 ((Ob True ∧
 (Ob True ∧
 (Ob ((0 : Int) = r.1) ∧
 (Ob ((0 : Int) = r.2.1) ∧
 (Ob ((15 : Int) = r.2.2) ∧
 True))))))
 (False)))))
 (.call (jal u17 u18 u19 u20) fun r0 =>
 .call (y4 u33 (0 : Int) (2 : Int)) fun r1 =>
 .brB (!r1)
 (.obT
 (.obT
 (.rc ((((0 : Int), 0, 15))))))
 (.call (y31 u17 u18 u19 u20 r0.2.1 r0.2.2 u33) fun r2 =>
 .obT
 (.obT
 (.rc ((r2.1, r2.2.1, r2.2.2))))))
theorem jj9 (u17 : Int) (u18 : List Nat) (u19 : Int) (u20 : Int) (u33 : Int) (r : Int × Int × Int) (h : Option.bind (y75 u17 u18 u19 u20 u33) some = some r) : jbg Tryz.f19 ((sp_67 (sp_68 (sp_69 sp0)))) (fun _ _ _ => none) (ja2 y147 [.d (.i .i64 u17), .r (.floats .f32 u18), .d (.i .i64 u19), .d (.i .i64 u20), .d (.i .i64 u33)]) [.s [.d (.i .i64 r.1), .d (.i .i64 r.2.1)], .c (.d (.i .i64 r.2.2))] :=
 T.vc (t := jle u17 u18 u19 u20 u33) (by kernel_rfl) (by kernel_rfl) h
theorem jka : jaf Tryz.prog 19 true (jap y147 y148) := by
 refine jaF (sp := (sp_67 (sp_68 (sp_69 sp0)))) (fn := Tryz.f19) (body := jah Tryz.f19) mixed (sp_67_ok (sp_68_ok (sp_69_ok jao))) Tryz.func19 (by kernel_rfl) (by kernel_rfl) fun ls t h ho b hb => ?_
 unfold y148 at h
 split at h
 ·rename_i u17 u18 u19 u20 u33
  cases h
  obtain rfl := jaO hb
  exact ⟨Nat.le_of_ble_eq_true (by kernel_rfl), _, _, jj9 u17 u18 u19 u20 u33 _ (jan ho)⟩
 ·cases h
theorem sp_19_ok {sp : jaa} (h : jab Tryz.prog sp) : jab Tryz.prog (sp_19 sp) := jag jka h
def jiv : List SV := [.a [.d, .r (.floats .f32 [])], .c (.d)]
def jd9 (u22 : Int) (u21 : List Nat) (u33 : Int) : Option (Int × Int × Int) :=
 Option.bind (y75 u22 u21 (0 : Int) (0 : Int) u33) fun r0 =>
 some (r0.1, r0.2.1, r0.2.2)
def jiw : List Lf → Option GT
 | [.d (.i .i64 u22), .r (.floats .f32 u21), .d (.i .i64 u33)] => some (.leaf (ok (jd9 u22 u21 u33)) [.s [.d (.i .i64 ((val (jd9 u22 u21 u33)).1)), .d (.i .i64 ((val (jd9 u22 u21 u33)).2.1))], .c (.d (.i .i64 ((val (jd9 u22 u21 u33)).2.2)))])
 | _ => none
abbrev sp_17 : jaa → jaa := jav 17 true (jap jiv jiw)
def jrs (u22 : Int) (u21 : List Nat) (u33 : Int) : T (Int × Int × Int) :=
 .call (y75 u22 u21 (0 : Int) (0 : Int) u33) fun r0 =>
 .obT
 (.obT
 (.rc ((r0.1, r0.2.1, r0.2.2))))
theorem jqh (u22 : Int) (u21 : List Nat) (u33 : Int) (r : Int × Int × Int) (h : Option.bind (jd9 u22 u21 u33) some = some r) : jbg Tryz.f17 ((sp_19 sp0)) (fun _ _ _ => none) (ja2 jiv [.d (.i .i64 u22), .r (.floats .f32 u21), .d (.i .i64 u33)]) [.s [.d (.i .i64 r.1), .d (.i .i64 r.2.1)], .c (.d (.i .i64 r.2.2))] :=
 T.vc (t := jrs u22 u21 u33) (by kernel_rfl) (by kernel_rfl) h
theorem jqi : jaf Tryz.prog 17 true (jap jiv jiw) := by
 refine jaF (sp := (sp_19 sp0)) (fn := Tryz.f17) (body := jah Tryz.f17) mixed (sp_19_ok jao) Tryz.func17 (by kernel_rfl) (by kernel_rfl) fun ls t h ho b hb => ?_
 unfold jiw at h
 split at h
 ·rename_i u22 u21 u33
  cases h
  obtain rfl := jaO hb
  exact ⟨Nat.le_of_ble_eq_true (by kernel_rfl), _, _, jqh u22 u21 u33 _ (jan ho)⟩
 ·cases h
theorem sp_17_ok {sp : jaa} (h : jab Tryz.prog sp) : jab Tryz.prog (sp_17 sp) := jag jqi h
def y149 : List SV := [.c (.p [.d, .r (.floats .f32 []), .d, .d, .r (.recs 2 []), .r (.recs 2 [])]), .c (.d)]
def y57 (u1 : Int) (u4 : List Nat) (u5 : Int) (u6 : Int) (u0 : List (List Int)) (u7 : List (List Int)) (u10 : Int) : Option (Int × Int) :=
 Option.bind (y63 u1 u4 u5 u6 u0 u7 u10) fun r0 =>
 Option.bind (y83 u1 u4 u5 u6 u0 u7 (0 : Int) r0) fun r1 =>
 some (r1.1, r1.2)
def y150 : List Lf → Option GT
 | [.d (.i .i64 u1), .r (.floats .f32 u4), .d (.i .i64 u5), .d (.i .i64 u6), .r (.recs 2 u0), .r (.recs 2 u7), .d (.i .i64 u10)] => some (.leaf (ok (y57 u1 u4 u5 u6 u0 u7 u10)) [.s [.d (.i .i64 ((val (y57 u1 u4 u5 u6 u0 u7 u10)).1)), .d (.i .i64 ((val (y57 u1 u4 u5 u6 u0 u7 u10)).2))]])
 | _ => none
abbrev sp_89 : jaa → jaa := jav 89 true (jap y149 y150)
def jlf (u1 : Int) (u4 : List Nat) (u5 : Int) (u6 : Int) (u0 : List (List Int)) (u7 : List (List Int)) (u10 : Int) : T (Int × Int) :=
 .call (y63 u1 u4 u5 u6 u0 u7 u10) fun r0 =>
 .call (y83 u1 u4 u5 u6 u0 u7 (0 : Int) r0) fun r1 =>
 .obT
 (.rc ((r1.1, r1.2)))
theorem jkb (u1 : Int) (u4 : List Nat) (u5 : Int) (u6 : Int) (u0 : List (List Int)) (u7 : List (List Int)) (u10 : Int) (r : Int × Int) (h : Option.bind (y57 u1 u4 u5 u6 u0 u7 u10) some = some r) : jbg Tryz.f89 ((sp_88 (sp_87 sp0))) (fun _ _ _ => none) (ja2 y149 [.d (.i .i64 u1), .r (.floats .f32 u4), .d (.i .i64 u5), .d (.i .i64 u6), .r (.recs 2 u0), .r (.recs 2 u7), .d (.i .i64 u10)]) [.s [.d (.i .i64 r.1), .d (.i .i64 r.2)]] :=
 T.vc (t := jlf u1 u4 u5 u6 u0 u7 u10) (by kernel_rfl) (by kernel_rfl) h
theorem jkc : jaf Tryz.prog 89 true (jap y149 y150) := by
 refine jaF (sp := (sp_88 (sp_87 sp0))) (fn := Tryz.f89) (body := jah Tryz.f89) mixed (sp_88_ok (sp_87_ok jao)) Tryz.func89 (by kernel_rfl) (by kernel_rfl) fun ls t h ho b hb => ?_
 unfold y150 at h
 split at h
 ·rename_i u1 u4 u5 u6 u0 u7 u10
  cases h
  obtain rfl := jaO hb
  exact ⟨Nat.le_of_ble_eq_true (by kernel_rfl), _, _, jkb u1 u4 u5 u6 u0 u7 u10 _ (jan ho)⟩
 ·cases h
theorem sp_89_ok {sp : jaa} (h : jab Tryz.prog sp) : jab Tryz.prog (sp_89 sp) := jag jkc h
def jea : List SV := [.c (.p [.d, .r (.floats .f32 []), .d, .d, .r (.recs 2 []), .r (.recs 2 [])]), .c (.d)]
def y70 (u1 : Int) (u4 : List Nat) (u5 : Int) (u6 : Int) (u0 : List (List Int)) (u7 : List (List Int)) (u10 : Int) : Option (Int × Int) :=
 Option.bind (y63 u1 u4 u5 u6 u0 u7 u10) fun r0 =>
 if 0 ≤ r0 ∧ r0 < (↑(List.length u7) : Int) then
  if Int.toNat r0 < List.length u7 then
  some ((List.getD (List.getD u7 (Int.toNat r0) []) 0 (0 : Int), List.getD (List.getD u7 (Int.toNat r0) []) 1 (0 : Int)))
  else none
 else none
def jeb : List Lf → Option GT
 | [.d (.i .i64 u1), .r (.floats .f32 u4), .d (.i .i64 u5), .d (.i .i64 u6), .r (.recs 2 u0), .r (.recs 2 u7), .d (.i .i64 u10)] => some (.leaf (ok (y70 u1 u4 u5 u6 u0 u7 u10)) [.s [.d (.i .i64 ((val (y70 u1 u4 u5 u6 u0 u7 u10)).1)), .d (.i .i64 ((val (y70 u1 u4 u5 u6 u0 u7 u10)).2))]])
 | _ => none
abbrev sp_122 : jaa → jaa := jav 122 true (jap jea jeb)
def jlW (u1 : Int) (u4 : List Nat) (u5 : Int) (u6 : Int) (u0 : List (List Int)) (u7 : List (List Int)) (u10 : Int) : T (Int × Int) :=
 .obT
 (.call (y63 u1 u4 u5 u6 u0 u7 u10) fun r0 =>
 .obP (0 ≤ r0 ∧ r0 < (↑(List.length u7) : Int))
 (.obP (Int.toNat r0 < List.length u7)
 (.obT
 (.rc (((List.getD (List.getD u7 (Int.toNat r0) []) 0 (0 : Int), List.getD (List.getD u7 (Int.toNat r0) []) 1 (0 : Int))))))))
theorem jlg (u1 : Int) (u4 : List Nat) (u5 : Int) (u6 : Int) (u0 : List (List Int)) (u7 : List (List Int)) (u10 : Int) (r : Int × Int) (h : Option.bind (y70 u1 u4 u5 u6 u0 u7 u10) some = some r) : jbg Tryz.f122 ((sp_88 sp0)) (fun _ _ _ => none) (ja2 jea [.d (.i .i64 u1), .r (.floats .f32 u4), .d (.i .i64 u5), .d (.i .i64 u6), .r (.recs 2 u0), .r (.recs 2 u7), .d (.i .i64 u10)]) [.s [.d (.i .i64 r.1), .d (.i .i64 r.2)]] :=
 T.vc (t := jlW u1 u4 u5 u6 u0 u7 u10) (by kernel_rfl) (by kernel_rfl) h
theorem jlh : jaf Tryz.prog 122 true (jap jea jeb) := by
 refine jaF (sp := (sp_88 sp0)) (fn := Tryz.f122) (body := jah Tryz.f122) mixed (sp_88_ok jao) Tryz.func122 (by kernel_rfl) (by kernel_rfl) fun ls t h ho b hb => ?_
 unfold jeb at h
 split at h
 ·rename_i u1 u4 u5 u6 u0 u7 u10
  cases h
  obtain rfl := jaO hb
  exact ⟨Nat.le_of_ble_eq_true (by kernel_rfl), _, _, jlg u1 u4 u5 u6 u0 u7 u10 _ (jan ho)⟩
 ·cases h
theorem sp_122_ok {sp : jaa} (h : jab Tryz.prog sp) : jab Tryz.prog (sp_122 sp) := jag jlh h
def y122 : List SV := [.c (.p [.d, .r (.floats .f32 []), .d, .d, .r (.recs 2 []), .r (.recs 2 [])]), .c (.d)]
def y41 (u1 : Int) (u4 : List Nat) (u5 : Int) (u6 : Int) (u0 : List (List Int)) (u7 : List (List Int)) (u10 : Int) : Option (Int × Int × Int) :=
 Option.bind (y57 u1 u4 u5 u6 u0 u7 u10) fun r0 =>
 Option.bind (y70 u1 u4 u5 u6 u0 u7 u10) fun r1 =>
 Option.bind (y63 u1 u4 u5 u6 u0 u7 u10) fun r2 =>
 if (r2 == (↑(List.length u0) : Int)) = true then
  some (((0 : Int), 0, 12))
 else
  if (r0.1 == 0) = true then
  some (((0 : Int), 0, 11))
  else
  if (r1.1 == 0) = true then
   some (((0 : Int), 0, 11))
  else
   Option.bind (y89 r0.1 r1.2) fun r3 =>
   Option.bind (y89 r0.2 r1.1) fun r4 =>
   Option.bind (y32 [r3.2.2, r4.2.2]) fun r5 =>
   if (r5 != 0) = true then
   some (((0 : Int), 0, r5))
   else
   some ((r3.1, r4.2.1, 0))
def y123 : List Lf → Option GT
 | [.d (.i .i64 u1), .r (.floats .f32 u4), .d (.i .i64 u5), .d (.i .i64 u6), .r (.recs 2 u0), .r (.recs 2 u7), .d (.i .i64 u10)] => some (.leaf (ok (y41 u1 u4 u5 u6 u0 u7 u10)) [.s [.d (.i .i64 ((val (y41 u1 u4 u5 u6 u0 u7 u10)).1)), .d (.i .i64 ((val (y41 u1 u4 u5 u6 u0 u7 u10)).2.1))], .c (.d (.i .i64 ((val (y41 u1 u4 u5 u6 u0 u7 u10)).2.2)))])
 | _ => none
abbrev sp_78 : jaa → jaa := jav 78 true (jap y122 y123)
def jji (u1 : Int) (u4 : List Nat) (u5 : Int) (u6 : Int) (u0 : List (List Int)) (u7 : List (List Int)) (u10 : Int) : T (Int × Int × Int) :=
 .call (y57 u1 u4 u5 u6 u0 u7 u10) fun r0 =>
 .call (y70 u1 u4 u5 u6 u0 u7 u10) fun r1 =>
 .call (y63 u1 u4 u5 u6 u0 u7 u10) fun r2 =>
 .obT
 (.brB (r2 == (↑(List.length u0) : Int))
 (.obT
 (.obT
 (.rc ((((0 : Int), 0, 12))))))
 (.brB (r0.1 == 0)
 (.obT
 (.obT
 (.rc ((((0 : Int), 0, 11))))))
 (.brB (r1.1 == 0)
 (.obT
 (.obT
 (.rc ((((0 : Int), 0, 11))))))
 (.call (y89 r0.1 r1.2) fun r3 =>
 .call (y89 r0.2 r1.1) fun r4 =>
 .call (y32 [r3.2.2, r4.2.2]) fun r5 =>
 .brB (r5 != 0)
 (.obT
 (.obT
 (.rc ((((0 : Int), 0, r5))))))
 (.obT
 (.obT
 (.rc (((r3.1, r4.2.1, 0))))))))))
theorem jix (u1 : Int) (u4 : List Nat) (u5 : Int) (u6 : Int) (u0 : List (List Int)) (u7 : List (List Int)) (u10 : Int) (r : Int × Int × Int) (h : Option.bind (y41 u1 u4 u5 u6 u0 u7 u10) some = some r) : jbg Tryz.f78 ((sp_89 (sp_122 (sp_88 (sp_123 (sp_76 sp0)))))) (fun _ _ _ => none) (ja2 y122 [.d (.i .i64 u1), .r (.floats .f32 u4), .d (.i .i64 u5), .d (.i .i64 u6), .r (.recs 2 u0), .r (.recs 2 u7), .d (.i .i64 u10)]) [.s [.d (.i .i64 r.1), .d (.i .i64 r.2.1)], .c (.d (.i .i64 r.2.2))] :=
 T.vc (t := jji u1 u4 u5 u6 u0 u7 u10) (by kernel_rfl) (by kernel_rfl) h
theorem jiy : jaf Tryz.prog 78 true (jap y122 y123) := by
 refine jaF (sp := (sp_89 (sp_122 (sp_88 (sp_123 (sp_76 sp0)))))) (fn := Tryz.f78) (body := jah Tryz.f78) mixed (sp_89_ok (sp_122_ok (sp_88_ok (sp_123_ok (sp_76_ok jao))))) Tryz.func78 (by kernel_rfl) (by kernel_rfl) fun ls t h ho b hb => ?_
 unfold y123 at h
 split at h
 ·rename_i u1 u4 u5 u6 u0 u7 u10
  cases h
  obtain rfl := jaO hb
  exact ⟨Nat.le_of_ble_eq_true (by kernel_rfl), _, _, jix u1 u4 u5 u6 u0 u7 u10 _ (jan ho)⟩
 ·cases h
theorem sp_78_ok {sp : jaa} (h : jab Tryz.prog sp) : jab Tryz.prog (sp_78 sp) := jag jiy h
def jga : List SV := [.a [.d, .r (.floats .f32 []), .d, .d], .c (.d)]
def jcP (u17 : Int) (u18 : List Nat) (u19 : Int) (u20 : Int) (u10 : Int) : Option (Int × Int × Int) :=
 if ((val (jal u17 u18 u19 u20)).1 != 0) = true then
  Option.bind (jal u17 u18 u19 u20) fun r0 =>
  Option.bind (jcK u10) fun r1 =>
  Option.bind (y32 [r0.1, r1]) fun r2 =>
  if (r2 != 0) = true then
  some (((0 : Int), 0, r2))
  else
  none   else
  Option.bind (jal u17 u18 u19 u20) fun r0 =>
  Option.bind (jcK u10) fun r1 =>
  Option.bind (y32 [(0 : Int), r1]) fun r3 =>
  if (r3 != 0) = true then
  some (((0 : Int), 0, r3))
  else
  Option.bind (y41 u17 u18 u19 u20 r0.2.1 r0.2.2 u10) fun r4 =>
  some (r4.1, r4.2.1, r4.2.2)
def jgb : List Lf → Option GT
 | [.d (.i .i64 u17), .r (.floats .f32 u18), .d (.i .i64 u19), .d (.i .i64 u20), .d (.i .i64 u10)] => some (.leaf (ok (jcP u17 u18 u19 u20 u10)) [.s [.d (.i .i64 ((val (jcP u17 u18 u19 u20 u10)).1)), .d (.i .i64 ((val (jcP u17 u18 u19 u20 u10)).2.1))], .c (.d (.i .i64 ((val (jcP u17 u18 u19 u20 u10)).2.2)))])
 | _ => none
abbrev sp_26 : jaa → jaa := jav 26 true (jap jga jgb)
def joT (u17 : Int) (u18 : List Nat) (u19 : Int) (u20 : Int) (u10 : Int) : T (Int × Int × Int) :=
 .brB ((val (jal u17 u18 u19 u20)).1 != 0)
 (.call (jal u17 u18 u19 u20) fun r0 =>
 .call (jcK u10) fun r1 =>
 .call (y32 [r0.1, r1]) fun r2 =>
 .brB (r2 != 0)
 (.obT
 (.obT
 (.rc ((((0 : Int), 0, r2))))))
 (.bad (fun r => False)))
 (.call (jal u17 u18 u19 u20) fun r0 =>
 .call (jcK u10) fun r1 =>
 .call (y32 [(0 : Int), r1]) fun r3 =>
 .brB (r3 != 0)
 (.obT
 (.obT
 (.rc ((((0 : Int), 0, r3))))))
 (.call (y41 u17 u18 u19 u20 r0.2.1 r0.2.2 u10) fun r4 =>
 .obT
 (.obT
 (.rc ((r4.1, r4.2.1, r4.2.2))))))
theorem joc (u17 : Int) (u18 : List Nat) (u19 : Int) (u20 : Int) (u10 : Int) (r : Int × Int × Int) (h : Option.bind (jcP u17 u18 u19 u20 u10) some = some r) : jbg Tryz.f26 ((sp_67 (sp_77 (sp_76 (sp_78 sp0))))) (fun _ _ _ => none) (ja2 jga [.d (.i .i64 u17), .r (.floats .f32 u18), .d (.i .i64 u19), .d (.i .i64 u20), .d (.i .i64 u10)]) [.s [.d (.i .i64 r.1), .d (.i .i64 r.2.1)], .c (.d (.i .i64 r.2.2))] :=
 T.vc (t := joT u17 u18 u19 u20 u10) (by kernel_rfl) (by kernel_rfl) h
theorem jod : jaf Tryz.prog 26 true (jap jga jgb) := by
 refine jaF (sp := (sp_67 (sp_77 (sp_76 (sp_78 sp0))))) (fn := Tryz.f26) (body := jah Tryz.f26) mixed (sp_67_ok (sp_77_ok (sp_76_ok (sp_78_ok jao)))) Tryz.func26 (by kernel_rfl) (by kernel_rfl) fun ls t h ho b hb => ?_
 unfold jgb at h
 split at h
 ·rename_i u17 u18 u19 u20 u10
  cases h
  obtain rfl := jaO hb
  exact ⟨Nat.le_of_ble_eq_true (by kernel_rfl), _, _, joc u17 u18 u19 u20 u10 _ (jan ho)⟩
 ·cases h
theorem sp_26_ok {sp : jaa} (h : jab Tryz.prog sp) : jab Tryz.prog (sp_26 sp) := jag jod h
def y95 : List SV := [.c (.p [.d, .r (.floats .f32 []), .d, .d, .r (.recs 2 []), .r (.recs 2 [])]), .c (.d)]
def y47 (u1 : Int) (u4 : List Nat) (u5 : Int) (u6 : Int) (u0 : List (List Int)) (u7 : List (List Int)) (u10 : Int) : Option (Int × Int × Int) :=
 Option.bind (y57 u1 u4 u5 u6 u0 u7 u10) fun r0 =>
 Option.bind (y70 u1 u4 u5 u6 u0 u7 u10) fun r1 =>
 if (r0.1 == 0) = true then
  if (r1.1 == 0) = true then
  some (((0 : Int), 0, 11))
  else
  if wrap .i64 (r0.1 + r1.2) ≠ (0 : Int) then
   Option.bind (jbn (wrap .i64 (1000 * r0.2)) (wrap .i64 (r0.2 + r1.1))) fun r2 =>
   some ((wrap .i64 (Int.tdiv (wrap .i64 (1000 * r0.1)) (wrap .i64 (r0.1 + r1.2))), r2, 0))
  else none
 else
  if wrap .i64 (r0.1 + r1.2) ≠ (0 : Int) then
  Option.bind (jbn (wrap .i64 (1000 * r0.2)) (wrap .i64 (r0.2 + r1.1))) fun r2 =>
  some ((wrap .i64 (Int.tdiv (wrap .i64 (1000 * r0.1)) (wrap .i64 (r0.1 + r1.2))), r2, 0))
  else none
def y96 : List Lf → Option GT
 | [.d (.i .i64 u1), .r (.floats .f32 u4), .d (.i .i64 u5), .d (.i .i64 u6), .r (.recs 2 u0), .r (.recs 2 u7), .d (.i .i64 u10)] => some (.leaf (ok (y47 u1 u4 u5 u6 u0 u7 u10)) [.s [.d (.i .i64 ((val (y47 u1 u4 u5 u6 u0 u7 u10)).1)), .d (.i .i64 ((val (y47 u1 u4 u5 u6 u0 u7 u10)).2.1))], .c (.d (.i .i64 ((val (y47 u1 u4 u5 u6 u0 u7 u10)).2.2)))])
 | _ => none
abbrev sp_98 : jaa → jaa := jav 98 true (jap y95 y96)
def jhk (u1 : Int) (u4 : List Nat) (u5 : Int) (u6 : Int) (u0 : List (List Int)) (u7 : List (List Int)) (u10 : Int) : T (Int × Int × Int) :=
 .call (y57 u1 u4 u5 u6 u0 u7 u10) fun r0 =>
 .call (y70 u1 u4 u5 u6 u0 u7 u10) fun r1 =>
 .brB (r0.1 == 0)
 (.brB (r1.1 == 0)
 (.obT
 (.obT
 (.rc ((((0 : Int), 0, 11))))))
 (.obP (wrap .i64 (r0.1 + r1.2) ≠ (0 : Int))
 (.call (jbn (wrap .i64 (1000 * r0.2)) (wrap .i64 (r0.2 + r1.1))) fun r2 =>
 .obT
 (.obT
 (.rc (((wrap .i64 (Int.tdiv (wrap .i64 (1000 * r0.1)) (wrap .i64 (r0.1 + r1.2))), r2, 0))))))))
 (.obP (wrap .i64 (r0.1 + r1.2) ≠ (0 : Int))
 (.call (jbn (wrap .i64 (1000 * r0.2)) (wrap .i64 (r0.2 + r1.1))) fun r2 =>
 .obT
 (.obT
 (.rc (((wrap .i64 (Int.tdiv (wrap .i64 (1000 * r0.1)) (wrap .i64 (r0.1 + r1.2))), r2, 0)))))))
theorem jgu (u1 : Int) (u4 : List Nat) (u5 : Int) (u6 : Int) (u0 : List (List Int)) (u7 : List (List Int)) (u10 : Int) (r : Int × Int × Int) (h : Option.bind (y47 u1 u4 u5 u6 u0 u7 u10) some = some r) : jbg Tryz.f98 ((sp_89 (sp_122 (sp_119 sp0)))) (fun _ _ _ => none) (ja2 y95 [.d (.i .i64 u1), .r (.floats .f32 u4), .d (.i .i64 u5), .d (.i .i64 u6), .r (.recs 2 u0), .r (.recs 2 u7), .d (.i .i64 u10)]) [.s [.d (.i .i64 r.1), .d (.i .i64 r.2.1)], .c (.d (.i .i64 r.2.2))] :=
 T.vc (t := jhk u1 u4 u5 u6 u0 u7 u10) (by kernel_rfl) (by kernel_rfl) h
theorem jgv : jaf Tryz.prog 98 true (jap y95 y96) := by
 refine jaF (sp := (sp_89 (sp_122 (sp_119 sp0)))) (fn := Tryz.f98) (body := jah Tryz.f98) mixed (sp_89_ok (sp_122_ok (sp_119_ok jao))) Tryz.func98 (by kernel_rfl) (by kernel_rfl) fun ls t h ho b hb => ?_
 unfold y96 at h
 split at h
 ·rename_i u1 u4 u5 u6 u0 u7 u10
  cases h
  obtain rfl := jaO hb
  exact ⟨Nat.le_of_ble_eq_true (by kernel_rfl), _, _, jgu u1 u4 u5 u6 u0 u7 u10 _ (jan ho)⟩
 ·cases h
theorem sp_98_ok {sp : jaa} (h : jab Tryz.prog sp) : jab Tryz.prog (sp_98 sp) := jag jgv h
def jfr : List SV := [.a [.d, .r (.floats .f32 [])], .c (.d)]
def y97 (u22 : Int) (u21 : List Nat) (u52 : Int) : Option (Int × Int × Int) :=
 if ((val (jaY u22 u21 u52)).1 != 0) = true then
  Option.bind (jaY u22 u21 u52) fun r0 =>
  if (r0.2.1 != 0) = true then
  some (((0 : Int), 0, r0.2.1))
  else
  none   else
  Option.bind (jaY u22 u21 u52) fun r0 =>
  if (r0.2.1 != 0) = true then
  some (((0 : Int), 0, r0.2.1))
  else
  if (0 : Int) ≤ 0 ∧ 0 < (↑(List.length r0.2.2.2) : Int) then
   if 0 < List.length r0.2.2.2 then
   if List.getD (List.getD r0.2.2.2 (0 : Nat) []) 0 (0 : Int) > 1000000000 then
    some (((0 : Int), 0, 8))
   else
    Option.bind (y84 u22 u21 (0 : Int) (0 : Int) r0.2.2.1 r0.2.2.2 u52) fun r1 =>
    Option.bind (jd7 (wrap .i64 (wrap .i64 (r1.1 * r1.1) + wrap .i64 (r1.2 * r1.2))) (wrap .i64 (List.getD (List.getD r0.2.2.2 (0 : Nat) []) 0 0 * List.getD (List.getD r0.2.2.2 (0 : Nat) []) 0 (0 : Int)))) fun r2 =>
    some (r2.1, r2.2.1, r2.2.2)
   else none
  else none
def jfs : List Lf → Option GT
 | [.d (.i .i64 u22), .r (.floats .f32 u21), .d (.i .i64 u52)] => some (.leaf (ok (y97 u22 u21 u52)) [.s [.d (.i .i64 ((val (y97 u22 u21 u52)).1)), .d (.i .i64 ((val (y97 u22 u21 u52)).2.1))], .c (.d (.i .i64 ((val (y97 u22 u21 u52)).2.2)))])
 | _ => none
abbrev sp_34 : jaa → jaa := jav 34 true (jap jfr jfs)
def joe (u22 : Int) (u21 : List Nat) (u52 : Int) : T (Int × Int × Int) :=
 .brB ((val (jaY u22 u21 u52)).1 != 0)
 (.call (jaY u22 u21 u52) fun r0 =>
 .brB (r0.2.1 != 0)
 (.obT
 (.obT
 (.rc ((((0 : Int), 0, r0.2.1))))))
 (.bad (fun r => False)))
 (.call (jaY u22 u21 u52) fun r0 =>
 .brB (r0.2.1 != 0)
 (.obT
 (.obT
 (.rc ((((0 : Int), 0, r0.2.1))))))
 (.obP ((0 : Int) ≤ 0 ∧ 0 < (↑(List.length r0.2.2.2) : Int))
 (.obP (0 < List.length r0.2.2.2)
 (.brP (List.getD (List.getD r0.2.2.2 (0 : Nat) []) 0 (0 : Int) > 1000000000)
 (.obT
 (.obT
 (.rc ((((0 : Int), 0, 8))))))
 (.call (y84 u22 u21 (0 : Int) (0 : Int) r0.2.2.1 r0.2.2.2 u52) fun r1 =>
 .call (jd7 (wrap .i64 (wrap .i64 (r1.1 * r1.1) + wrap .i64 (r1.2 * r1.2))) (wrap .i64 (List.getD (List.getD r0.2.2.2 (0 : Nat) []) 0 0 * List.getD (List.getD r0.2.2.2 (0 : Nat) []) 0 (0 : Int)))) fun r2 =>
 .obT
 (.obT
 (.rc ((r2.1, r2.2.1, r2.2.2)))))))))
theorem jmK (u22 : Int) (u21 : List Nat) (u52 : Int) (r : Int × Int × Int) (h : Option.bind (y97 u22 u21 u52) some = some r) : jbg Tryz.f34 ((sp_91 (sp_92 (sp_86 sp0)))) (fun _ _ _ => none) (ja2 jfr [.d (.i .i64 u22), .r (.floats .f32 u21), .d (.i .i64 u52)]) [.s [.d (.i .i64 r.1), .d (.i .i64 r.2.1)], .c (.d (.i .i64 r.2.2))] :=
 T.vc (t := joe u22 u21 u52) (by kernel_rfl) (by kernel_rfl) h
theorem jmL : jaf Tryz.prog 34 true (jap jfr jfs) := by
 refine jaF (sp := (sp_91 (sp_92 (sp_86 sp0)))) (fn := Tryz.f34) (body := jah Tryz.f34) mixed (sp_91_ok (sp_92_ok (sp_86_ok jao))) Tryz.func34 (by kernel_rfl) (by kernel_rfl) fun ls t h ho b hb => ?_
 unfold jfs at h
 split at h
 ·rename_i u22 u21 u52
  cases h
  obtain rfl := jaO hb
  exact ⟨Nat.le_of_ble_eq_true (by kernel_rfl), _, _, jmK u22 u21 u52 _ (jan ho)⟩
 ·cases h
theorem sp_34_ok {sp : jaa} (h : jab Tryz.prog sp) : jab Tryz.prog (sp_34 sp) := jag jmL h
end Go.Sh
end

section
open Go.RowKit
namespace Go.Proofs
open Go.Shelf
def Tryz.laysM171_ren : Go.Shelf.Ren := ⟨fun | 171 => 109 | 243 => 136 | 246 => 159 | 283 => 178 | 284 => 179 | 285 => 180 | 286 => 181 | 129 => 166 | 317 => 192 | 318 => 193 | 319 => 194 | 320 => 195 | 337 => 200 | 338 => 201 | n => n, fun | 3 => 3 | 9 => 9 | 2 => 2 | 4 => 4 | 171 => 213 | 0 => 0 | 53 => 134 | 37 => 179 | 5 => 5 | 173 => 215 | 212 => 227 | 51 => 228 | 20 => 20 | 213 => 229 | 46 => 189 | 232 => 243 | 233 => 244 | n => n, fun | 17 => 11 | 18 => 14 | 19 => 15 | n => n⟩
theorem Tryz.laysM171 : Go.Proofs.LaysM.n171 Tryz.prog Tryz.laysM171_ren := {
 mixed := by kernel_rfl
 f129 := Tryz.func166.trans (congrArg some (by kernel_rfl))
 f171 := Tryz.func109.trans (congrArg some (by kernel_rfl))
 f243 := Tryz.func136.trans (congrArg some (by kernel_rfl))
 f246 := Tryz.func159.trans (congrArg some (by kernel_rfl))
 f283 := Tryz.func178.trans (congrArg some (by kernel_rfl))
 f284 := Tryz.func179.trans (congrArg some (by kernel_rfl))
 f285 := Tryz.func180.trans (congrArg some (by kernel_rfl))
 f286 := Tryz.func181.trans (congrArg some (by kernel_rfl))
 f317 := Tryz.func192.trans (congrArg some (by kernel_rfl))
 f318 := Tryz.func193.trans (congrArg some (by kernel_rfl))
 f319 := Tryz.func194.trans (congrArg some (by kernel_rfl))
 f320 := Tryz.func195.trans (congrArg some (by kernel_rfl))
 f337 := Tryz.func200.trans (congrArg some (by kernel_rfl))
 f338 := Tryz.func201.trans (congrArg some (by kernel_rfl))
 t0 := Tryz.underlying0
 a0 := Tryz.isAgg0
 z0 := Tryz.sizeOf0
 v0 := Tryz.zeroValue0
 t2 := Tryz.underlying2
 a2 := Tryz.isAgg2
 z2 := Tryz.sizeOf2
 v2 := Tryz.zeroValue2
 t3 := Tryz.underlying3
 a3 := Tryz.isAgg3
 z3 := Tryz.sizeOf3
 v3 := Tryz.zeroValue3
 t4 := Tryz.underlying4
 a4 := Tryz.isAgg4
 z4 := Tryz.sizeOf4
 v4 := Tryz.zeroValue4
 t5 := Tryz.underlying5
 a5 := Tryz.isAgg5
 z5 := Tryz.sizeOf5
 v5 := Tryz.zeroValue5
 t9 := Tryz.underlying9
 a9 := Tryz.isAgg9
 z9 := Tryz.sizeOf9
 v9 := Tryz.zeroValue9
 t20 := Tryz.underlying20
 a20 := Tryz.isAgg20
 z20 := Tryz.sizeOf20
 v20 := Tryz.zeroValue20
 t37 := Tryz.underlying179
 a37 := Tryz.isAgg179
 z37 := Tryz.sizeOf179
 v37 := Tryz.zeroValue179
 t46 := Tryz.underlying189
 a46 := Tryz.isAgg189
 z46 := Tryz.sizeOf189
 v46 := Tryz.zeroValue189
 t51 := Tryz.underlying228
 a51 := Tryz.isAgg228
 z51 := Tryz.sizeOf228
 v51 := Tryz.zeroValue228
 t53 := Tryz.underlying134
 a53 := Tryz.isAgg134
 z53 := Tryz.sizeOf134
 v53 := Tryz.zeroValue134
 t171 := Tryz.underlying213
 a171 := Tryz.isAgg213
 z171 := Tryz.sizeOf213
 v171 := Tryz.zeroValue213
 t173 := Tryz.underlying215
 a173 := Tryz.isAgg215
 z173 := Tryz.sizeOf215
 v173 := Tryz.zeroValue215
 t212 := Tryz.underlying227
 a212 := Tryz.isAgg227
 z212 := Tryz.sizeOf227
 v212 := Tryz.zeroValue227
 t213 := Tryz.underlying229
 a213 := Tryz.isAgg229
 z213 := Tryz.sizeOf229
 t232 := Tryz.underlying243
 a232 := Tryz.isAgg243
 z232 := Tryz.sizeOf243
 v232 := Tryz.zeroValue243
 t233 := Tryz.underlying244
 a233 := Tryz.isAgg244
 z233 := Tryz.sizeOf244
 v233 := Tryz.zeroValue244
 g17 := by kernel_rfl
 g18 := by kernel_rfl
 g19 := by kernel_rfl
 i0 := by kernel_rfl
 i2 := by kernel_rfl
 i3 := by kernel_rfl
 i4 := by kernel_rfl
 i5 := by kernel_rfl
 i9 := by kernel_rfl
 i20 := by kernel_rfl
 i37 := by kernel_rfl
 i46 := by kernel_rfl
 i51 := by kernel_rfl
 i53 := by kernel_rfl
 i171 := by kernel_rfl
 i173 := by kernel_rfl
 i212 := by kernel_rfl
 i232 := by kernel_rfl
 i233 := by kernel_rfl
 m17 := by kernel_rfl
 m18 := by kernel_rfl
 m19 := by kernel_rfl }
def Tryz.lays156_ren : Go.Shelf.Ren := ⟨fun | 156 => 110 | 165 => 137 | 166 => 138 | 169 => 139 | 240 => 160 | 241 => 161 | 276 => 182 | 277 => 183 | n => n, fun | 31 => 142 | 9 => 9 | 3 => 3 | 4 => 4 | 0 => 0 | 20 => 20 | 72 => 181 | 76 => 175 | 70 => 178 | 37 => 179 | 75 => 174 | 127 => 196 | 164 => 217 | 5 => 5 | 80 => 183 | n => n, fun | n => n⟩
theorem Tryz.lays156 : Go.Proofs.Lays.n156 Tryz.prog Tryz.lays156_ren := {
 mixed := by kernel_rfl
 f156 := Tryz.func110.trans (congrArg some (by kernel_rfl))
 f165 := Tryz.func137.trans (congrArg some (by kernel_rfl))
 f166 := Tryz.func138.trans (congrArg some (by kernel_rfl))
 f169 := Tryz.func139.trans (congrArg some (by kernel_rfl))
 f240 := Tryz.func160.trans (congrArg some (by kernel_rfl))
 f241 := Tryz.func161.trans (congrArg some (by kernel_rfl))
 f276 := Tryz.func182.trans (congrArg some (by kernel_rfl))
 f277 := Tryz.func183.trans (congrArg some (by kernel_rfl))
 t0 := Tryz.underlying0
 a0 := Tryz.isAgg0
 z0 := Tryz.sizeOf0
 v0 := Tryz.zeroValue0
 t3 := Tryz.underlying3
 a3 := Tryz.isAgg3
 z3 := Tryz.sizeOf3
 v3 := Tryz.zeroValue3
 t4 := Tryz.underlying4
 a4 := Tryz.isAgg4
 z4 := Tryz.sizeOf4
 v4 := Tryz.zeroValue4
 t9 := Tryz.underlying9
 a9 := Tryz.isAgg9
 z9 := Tryz.sizeOf9
 v9 := Tryz.zeroValue9
 t20 := Tryz.underlying20
 a20 := Tryz.isAgg20
 z20 := Tryz.sizeOf20
 v20 := Tryz.zeroValue20
 t31 := Tryz.underlying142
 a31 := Tryz.isAgg142
 z31 := Tryz.sizeOf142
 v31 := Tryz.zeroValue142
 t37 := Tryz.underlying179
 a37 := Tryz.isAgg179
 z37 := Tryz.sizeOf179
 v37 := Tryz.zeroValue179
 t70 := Tryz.underlying178
 a70 := Tryz.isAgg178
 z70 := Tryz.sizeOf178
 v70 := Tryz.zeroValue178
 t72 := Tryz.underlying181
 a72 := Tryz.isAgg181
 z72 := Tryz.sizeOf181
 v72 := Tryz.zeroValue181
 t75 := Tryz.underlying174
 a75 := Tryz.isAgg174
 z75 := Tryz.sizeOf174
 v75 := Tryz.zeroValue174
 t76 := Tryz.underlying175
 a76 := Tryz.isAgg175
 z76 := Tryz.sizeOf175
 v76 := Tryz.zeroValue175
 t127 := Tryz.underlying196
 a127 := Tryz.isAgg196
 z127 := Tryz.sizeOf196
 v127 := Tryz.zeroValue196
 t164 := Tryz.underlying217
 a164 := Tryz.isAgg217
 z164 := Tryz.sizeOf217
 v164 := Tryz.zeroValue217 }
end Go.Proofs
namespace Go.Sh
open Go Go.Proofs Go.RowKit Go.Sx Go.Shelf
theorem jqj {α : Type} (f : α → D) (l : List α) : (l.flatMap fun x => [f x]) = l.map f := by
 induction l with
 | nil => rfl
 | cons x r ih => simp [List.flatMap_cons, ih]
theorem jli : Builder.Extra Tryz.prog Tryz.lays156_ren where
 sizeBuilder := by kernel_rfl
 liesBuilder := by kernel_rfl
 t5 := by kernel_rfl
 a5 := fun w => jd0 w (by kernel_rfl)
 z5 := fun w => jaP w (by kernel_rfl)
 v5 := fun w => rfl
 infoByte := by kernel_rfl
 cellsByte := by kernel_rfl
 sizeByte := by kernel_rfl
 neB5 := by decide
theorem joU : Tryz.prog.globalNamed "internal/strconv.uint64pow10" = some 11 := by kernel_rfl
theorem juz {B : Bd} {w : World} (h : jbK B w) {g : Nat} {k : IntKind} {l : List Int} {name : String} (hn : Tryz.prog.globalNamed name = some g) (ht : Globs.tab g = some (.ints k l)) : Lib.TabIs Tryz.prog w name k l := by
 obtain ⟨_, hc, cs, t, f, hg, hs⟩ := h.1 g _ ht
 unfold Lib.TabIs World.var?
 rw [hn]
 simp only [Option.bind_some, hg, Option.some.injEq]
 apply Array.ext'
 apply List.ext_getElem?
 intro i
 have hfl : (Cont.ints k l).flat = l.map (D.i k) := jqj _ _
 by_cases hi : i < l.length
 ·have := hc i (.i k l[i]) (by rw [hfl]; simp [hi])
  simp only [World.cell?, hg] at this
  rw [Array.getElem?_toList]
  simp only [List.getElem?_map, List.getElem?_eq_getElem hi, Option.map_some]
  exact this
 ·rw [hfl, List.length_map] at hs
  rw [Array.getElem?_toList, Array.getElem?_eq_none (by omega), List.getElem?_eq_none (by simpa using Nat.le_of_not_lt hi)]
def strconv_Itoa (n : Int) : Option ByteArray := if -9223372036854775808 ≤ n ∧ n ≤ 9223372036854775807 then some ⟨(Lib.itoa n).toArray⟩ else none
def jgw : List SV := [.c (.d)]
def jec : List Lf → Option GT
 | [.d (.i .i64 n)] => some (.leaf (ok (strconv_Itoa n)) [.c (.d (.s (val (strconv_Itoa n))))])
 | _ => none
abbrev sp_109 : jaa → jaa := jav 109 true (jap jgw jec)
theorem jlj : jaf Tryz.prog 109 true (jap jgw jec) := by
 refine jcL (body := jah Tryz.f109) Tryz.func109 (by kernel_rfl) (by kernel_rfl) ?_
 intro ls t hg ho b hb ρ0 w hlt hh
 unfold jec at hg
 split at hg
 ·rename_i n
  cases hg
  obtain rfl := jaO hb
  have hk : ok (strconv_Itoa n) := ho
  unfold strconv_Itoa at hk
  have hn : -9223372036854775808 ≤ n ∧ n ≤ 9223372036854775807 := by
   by_cases h : -9223372036854775808 ≤ n ∧ n ≤ 9223372036854775807
   ·exact h
   ·rw [if_neg h] at hk; cases hk
  have hv : val (strconv_Itoa n) = ⟨(Lib.itoa n).toArray⟩ := by
   unfold strconv_Itoa
   rw [if_pos hn]
   rfl
  have htab := juz hh.glob joU (k := .u64) (l := Lib.pow10Tab) (by kernel_rfl)
  refine (Any.strconv_Itoa Tryz.laysM171 n hn.1 hn.2 w htab).mono ?_
  rintro e w' ⟨rfl, k, os, rfl⟩
  have hbl : Below w.heap.size w (Sort.grow (w.drewN k) os) := by
   refine ⟨rfl, rfl, rfl, by simp [Sort.grow, World.drewN], fun j hj => ?_⟩
   show (w.heap ++ os)[j]? = _
   rw [Array.getElem?_append_left hj]
  refine ⟨ρ0, .w (.c (.d (.s ⟨(Lib.itoa n).toArray⟩))), _, _, rfl, trivial, jai.refl _ _, hh.below hbl (fun k hk => hk), jbR hbl (fun k hk => hk), ?_⟩
  show mD _ _ ∧ True
  rw [hv]
  exact ⟨⟨rfl⟩, trivial⟩
 ·cases hg
theorem sp_109_ok {sp : jaa} (h : jab Tryz.prog sp) : jab Tryz.prog (sp_109 sp) := jag jlj h
def strings_Join (l : List ByteArray) (sep : ByteArray) : Option ByteArray :=
 if l.length ≤ 140737488355328 ∧ (Lib.join (l.map (·.data.toList)) sep.data.toList).length ≤ 140737488355328 then some ⟨(Lib.join (l.map (·.data.toList)) sep.data.toList).toArray⟩ else none
def jed : List SV := [.c (.r (.strs [])), .c (.d)]
def jee : List Lf → Option GT
 | [.r (.strs l), .d (.s sep)] => some (.leaf (ok (strings_Join l sep)) [.c (.d (.s (val (strings_Join l sep))))])
 | _ => none
abbrev sp_110 : jaa → jaa := jav 110 true (jap jed jee)
theorem jlk : jaf Tryz.prog 110 true (jap jed jee) := by
 refine jcL (body := jah Tryz.f110) Tryz.func110 (by kernel_rfl) (by kernel_rfl) ?_
 intro ls t hg ho b hb ρ0 w hlt hh
 unfold jee at hg
 split at hg
 ·rename_i l sep
  cases hg
  obtain rfl := jaO hb
  have hk : ok (strings_Join l sep) := ho
  unfold strings_Join at hk
  have hn : l.length ≤ 140737488355328 ∧ (Lib.join (l.map (·.data.toList)) sep.data.toList).length ≤ 140737488355328 := by
   by_cases h : l.length ≤ 140737488355328 ∧ (Lib.join (l.map (·.data.toList)) sep.data.toList).length ≤ 140737488355328
   ·exact h
   ·rw [if_neg h] at hk; cases hk
  have hv : val (strings_Join l sep) = ⟨(Lib.join (l.map (·.data.toList)) sep.data.toList).toArray⟩ := by
   unfold strings_Join
   rw [if_pos hn]
   rfl
  obtain ⟨_, _, ⟨a, cap, hv0, ⟨hcap, _⟩, hcells⟩, hold⟩ := hh.ok 0 (.ext (.strs l)) rfl
  have hargs : ((ja2 jed [.r (.strs l), .d (.s sep)]).vs.map (V.val ρ0)).toArray = #[ρ0 0, .string sep] := rfl
  rw [hargs, hv0]
  have fin : ∀ w', Below w.heap.size w w' → ∃ ρ' v hp' nx', Ending.returned (.string ⟨(Lib.join (l.map (·.data.toList)) sep.data.toList).toArray⟩) = .returned (V.val ρ' v) ∧ v.lt nx' ∧ jai 1 ρ0 ρ' ∧ HRel ρ' (fun k => k < w.heap.size) hp' nx' w' ∧ Bel (fun k => k < w.heap.size) w w' ∧
    jf6 1 [.c (.d (.s (val (strings_Join l sep))))] v hp' := fun w' hbl => by
   refine ⟨ρ0, .w (.c (.d (.s ⟨(Lib.join (l.map (·.data.toList)) sep.data.toList).toArray⟩))), _, _, rfl, trivial, jai.refl _ _, hh.below hbl (fun k hk => hk), jbR hbl (fun k hk => hk), ?_⟩
   show mD _ _ ∧ True
   rw [hv]
   exact ⟨⟨rfl⟩, trivial⟩
  cases hl : l with
  | nil =>
   subst hl
   refine (Any.strings_Join_none Tryz.lays156 jli a cap sep w).mono ?_
   rintro e w' ⟨rfl, rfl⟩
   exact fin _ (Below.refl _ _)
  | cons x r =>
   rw [← hl]
   have h0 : 0 < l.length := by rw [hl]; simp
   obtain ⟨b, off, rfl, hx⟩ := hcells h0
   refine (Any.strings_Join Tryz.lays156 jli b off cap l sep w (fun j x hj => ?_) (hold _ _ _ hv0 h0) hn.1 hcap hn.2).mono ?_
   ·exact hx j (.s x) (by
     show ((Cont.strs l).flat)[j]? = _
     have hfl : (Cont.strs l).flat = l.map D.s := jqj _ _
     rw [hfl, List.getElem?_map, hj]
     rfl)
   ·rintro e w' ⟨rfl, hbl⟩
    exact fin _ hbl
 ·cases hg
theorem sp_110_ok {sp : jaa} (h : jab Tryz.prog sp) : jab Tryz.prog (sp_110 sp) := jag jlk h
end Go.Sh
end

section
open Go.RowKit
namespace Go.Proofs
open Go.Shelf
def Tryz.lays101_ren : Go.Shelf.Ren := ⟨fun | 101 => 135 | 208 => 158 | 206 => 177 | n => n, fun | 9 => 9 | 4 => 4 | 3 => 3 | n => n, fun | n => n⟩
theorem Tryz.lays101 : Go.Proofs.Lays.n101 Tryz.prog Tryz.lays101_ren := {
 mixed := by kernel_rfl
 f101 := Tryz.func135.trans (congrArg some (by kernel_rfl))
 f206 := Tryz.func177.trans (congrArg some (by kernel_rfl))
 f208 := Tryz.func158.trans (congrArg some (by kernel_rfl))
 t3 := Tryz.underlying3
 a3 := Tryz.isAgg3
 z3 := Tryz.sizeOf3
 v3 := Tryz.zeroValue3
 t4 := Tryz.underlying4
 a4 := Tryz.isAgg4
 z4 := Tryz.sizeOf4
 v4 := Tryz.zeroValue4
 t9 := Tryz.underlying9
 a9 := Tryz.isAgg9
 z9 := Tryz.sizeOf9
 v9 := Tryz.zeroValue9 }
def Tryz.laysM146_ren : Go.Shelf.Ren := ⟨fun | 146 => 105 | 221 => 133 | 268 => 153 | 138 => 154 | 143 => 155 | 195 => 168 | 197 => 169 | 218 => 170 | 219 => 171 | 260 => 184 | 217 => 185 | 225 => 186 | 224 => 187 | 267 => 188 | 266 => 196 | 314 => 197 | n => n, fun | 9 => 9 | 31 => 142 | 3 => 3 | 4 => 4 | 0 => 0 | 105 => 203 | 21 => 21 | 5 => 5 | 46 => 189 | 119 => 231 | 139 => 234 | 138 => 233 | 146 => 235 | 51 => 228 | n => n, fun | 1 => 8 | 3 => 12 | 4 => 13 | n => n⟩
theorem Tryz.laysM146 : Go.Proofs.LaysM.n146 Tryz.prog Tryz.laysM146_ren := {
 mixed := by kernel_rfl
 f138 := Tryz.func154.trans (congrArg some (by kernel_rfl))
 f143 := Tryz.func155.trans (congrArg some (by kernel_rfl))
 f146 := Tryz.func105.trans (congrArg some (by kernel_rfl))
 f195 := Tryz.func168.trans (congrArg some (by kernel_rfl))
 f197 := Tryz.func169.trans (congrArg some (by kernel_rfl))
 f217 := Tryz.func185.trans (congrArg some (by kernel_rfl))
 f218 := Tryz.func170.trans (congrArg some (by kernel_rfl))
 f219 := Tryz.func171.trans (congrArg some (by kernel_rfl))
 f221 := Tryz.func133.trans (congrArg some (by kernel_rfl))
 f224 := Tryz.func187.trans (congrArg some (by kernel_rfl))
 f225 := Tryz.func186.trans (congrArg some (by kernel_rfl))
 f260 := Tryz.func184.trans (congrArg some (by kernel_rfl))
 f266 := Tryz.func196.trans (congrArg some (by kernel_rfl))
 f267 := Tryz.func188.trans (congrArg some (by kernel_rfl))
 f268 := Tryz.func153.trans (congrArg some (by kernel_rfl))
 f314 := Tryz.func197.trans (congrArg some (by kernel_rfl))
 t0 := Tryz.underlying0
 a0 := Tryz.isAgg0
 z0 := Tryz.sizeOf0
 v0 := Tryz.zeroValue0
 t3 := Tryz.underlying3
 a3 := Tryz.isAgg3
 z3 := Tryz.sizeOf3
 v3 := Tryz.zeroValue3
 t4 := Tryz.underlying4
 a4 := Tryz.isAgg4
 z4 := Tryz.sizeOf4
 v4 := Tryz.zeroValue4
 t5 := Tryz.underlying5
 a5 := Tryz.isAgg5
 z5 := Tryz.sizeOf5
 v5 := Tryz.zeroValue5
 t9 := Tryz.underlying9
 a9 := Tryz.isAgg9
 z9 := Tryz.sizeOf9
 v9 := Tryz.zeroValue9
 t21 := Tryz.underlying21
 a21 := Tryz.isAgg21
 z21 := Tryz.sizeOf21
 v21 := Tryz.zeroValue21
 t31 := Tryz.underlying142
 a31 := Tryz.isAgg142
 z31 := Tryz.sizeOf142
 v31 := Tryz.zeroValue142
 t46 := Tryz.underlying189
 a46 := Tryz.isAgg189
 z46 := Tryz.sizeOf189
 v46 := Tryz.zeroValue189
 t51 := Tryz.underlying228
 a51 := Tryz.isAgg228
 z51 := Tryz.sizeOf228
 v51 := Tryz.zeroValue228
 t105 := Tryz.underlying203
 a105 := Tryz.isAgg203
 z105 := Tryz.sizeOf203
 v105 := Tryz.zeroValue203
 t119 := Tryz.underlying231
 a119 := Tryz.isAgg231
 z119 := Tryz.sizeOf231
 t138 := Tryz.underlying233
 a138 := Tryz.isAgg233
 z138 := Tryz.sizeOf233
 v138 := Tryz.zeroValue233
 t139 := Tryz.underlying234
 a139 := Tryz.isAgg234
 z139 := Tryz.sizeOf234
 v139 := Tryz.zeroValue234
 t146 := Tryz.underlying235
 a146 := Tryz.isAgg235
 z146 := Tryz.sizeOf235
 v146 := Tryz.zeroValue235
 g1 := by kernel_rfl
 g3 := by kernel_rfl
 g4 := by kernel_rfl
 i0 := by kernel_rfl
 i3 := by kernel_rfl
 i4 := by kernel_rfl
 i5 := by kernel_rfl
 i9 := by kernel_rfl
 i21 := by kernel_rfl
 i31 := by kernel_rfl
 i46 := by kernel_rfl
 i51 := by kernel_rfl
 i105 := by kernel_rfl
 i138 := by kernel_rfl
 i139 := by kernel_rfl
 i146 := by kernel_rfl
 m1 := by kernel_rfl
 s1_3 := fun w h => Go.Proofs.cell_of_shapedOpen_int (zero := #[.int .i64 0]) (t := 3) h (of_decide_eq_true (by kernel_rfl)) (by kernel_rfl) rfl (by kernel_rfl) (by kernel_rfl) Tryz.underlying3
 m3 := by kernel_rfl
 m4 := by kernel_rfl }
def Tryz.laysC172_ren : Go.Shelf.Ren := ⟨fun | 172 => 134 | 244 => 156 | 245 => 157 | 247 => 172 | 279 => 173 | 280 => 174 | 281 => 175 | 282 => 176 | 287 => 189 | 316 => 190 | 171 => 109 | 205 => 191 | 321 => 198 | 322 => 199 | 243 => 136 | 246 => 159 | 283 => 178 | 284 => 179 | 285 => 180 | 286 => 181 | 129 => 166 | 317 => 192 | 318 => 193 | 319 => 194 | 320 => 195 | 337 => 200 | 338 => 201 | n => n, fun | 9 => 9 | 3 => 3 | 75 => 174 | 76 => 175 | 4 => 4 | 5 => 5 | 167 => 206 | 37 => 179 | 0 => 0 | 85 => 207 | 2 => 2 | 168 => 209 | 53 => 134 | 175 => 220 | 46 => 189 | 210 => 224 | 127 => 196 | 145 => 241 | 143 => 239 | 21 => 21 | 171 => 213 | 173 => 215 | 212 => 227 | 51 => 228 | 20 => 20 | 213 => 229 | 232 => 243 | 233 => 244 | 80 => 183 | n => n, fun | 15 => 9 | 16 => 10 | 17 => 11 | 18 => 14 | 19 => 15 | n => n⟩
theorem Tryz.laysC172 : Go.Proofs.LaysC.n172 Tryz.prog Tryz.laysC172_ren := {
 mixed := by kernel_rfl
 f129 := Tryz.func166.trans (congrArg some (by kernel_rfl))
 f171 := Tryz.func109.trans (congrArg some (by kernel_rfl))
 f172 := Tryz.func134.trans (congrArg some (by kernel_rfl))
 f205 := Tryz.func191.trans (congrArg some (by kernel_rfl))
 f243 := Tryz.func136.trans (congrArg some (by kernel_rfl))
 f244 := Tryz.func156.trans (congrArg some (by kernel_rfl))
 f245 := Tryz.func157.trans (congrArg some (by kernel_rfl))
 f246 := Tryz.func159.trans (congrArg some (by kernel_rfl))
 f247 := Tryz.func172.trans (congrArg some (by kernel_rfl))
 f279 := Tryz.func173.trans (congrArg some (by kernel_rfl))
 f280 := Tryz.func174.trans (congrArg some (by kernel_rfl))
 f281 := Tryz.func175.trans (congrArg some (by kernel_rfl))
 f282 := Tryz.func176.trans (congrArg some (by kernel_rfl))
 f283 := Tryz.func178.trans (congrArg some (by kernel_rfl))
 f284 := Tryz.func179.trans (congrArg some (by kernel_rfl))
 f285 := Tryz.func180.trans (congrArg some (by kernel_rfl))
 f286 := Tryz.func181.trans (congrArg some (by kernel_rfl))
 f287 := Tryz.func189.trans (congrArg some (by kernel_rfl))
 f316 := Tryz.func190.trans (congrArg some (by kernel_rfl))
 f317 := Tryz.func192.trans (congrArg some (by kernel_rfl))
 f318 := Tryz.func193.trans (congrArg some (by kernel_rfl))
 f319 := Tryz.func194.trans (congrArg some (by kernel_rfl))
 f320 := Tryz.func195.trans (congrArg some (by kernel_rfl))
 f321 := Tryz.func198.trans (congrArg some (by kernel_rfl))
 f322 := Tryz.func199.trans (congrArg some (by kernel_rfl))
 f337 := Tryz.func200.trans (congrArg some (by kernel_rfl))
 f338 := Tryz.func201.trans (congrArg some (by kernel_rfl))
 t0 := Tryz.underlying0
 a0 := Tryz.isAgg0
 z0 := Tryz.sizeOf0
 v0 := Tryz.zeroValue0
 t2 := Tryz.underlying2
 a2 := Tryz.isAgg2
 z2 := Tryz.sizeOf2
 v2 := Tryz.zeroValue2
 t3 := Tryz.underlying3
 a3 := Tryz.isAgg3
 z3 := Tryz.sizeOf3
 v3 := Tryz.zeroValue3
 t4 := Tryz.underlying4
 a4 := Tryz.isAgg4
 z4 := Tryz.sizeOf4
 v4 := Tryz.zeroValue4
 t5 := Tryz.underlying5
 a5 := Tryz.isAgg5
 z5 := Tryz.sizeOf5
 v5 := Tryz.zeroValue5
 t9 := Tryz.underlying9
 a9 := Tryz.isAgg9
 z9 := Tryz.sizeOf9
 v9 := Tryz.zeroValue9
 t20 := Tryz.underlying20
 a20 := Tryz.isAgg20
 z20 := Tryz.sizeOf20
 v20 := Tryz.zeroValue20
 t21 := Tryz.underlying21
 a21 := Tryz.isAgg21
 z21 := Tryz.sizeOf21
 v21 := Tryz.zeroValue21
 t37 := Tryz.underlying179
 a37 := Tryz.isAgg179
 z37 := Tryz.sizeOf179
 v37 := Tryz.zeroValue179
 t46 := Tryz.underlying189
 a46 := Tryz.isAgg189
 z46 := Tryz.sizeOf189
 v46 := Tryz.zeroValue189
 t51 := Tryz.underlying228
 a51 := Tryz.isAgg228
 z51 := Tryz.sizeOf228
 v51 := Tryz.zeroValue228
 t53 := Tryz.underlying134
 a53 := Tryz.isAgg134
 z53 := Tryz.sizeOf134
 v53 := Tryz.zeroValue134
 t75 := Tryz.underlying174
 a75 := Tryz.isAgg174
 z75 := Tryz.sizeOf174
 v75 := Tryz.zeroValue174
 t76 := Tryz.underlying175
 a76 := Tryz.isAgg175
 z76 := Tryz.sizeOf175
 v76 := Tryz.zeroValue175
 t85 := Tryz.underlying207
 a85 := Tryz.isAgg207
 z85 := Tryz.sizeOf207
 v85 := Tryz.zeroValue207
 t127 := Tryz.underlying196
 a127 := Tryz.isAgg196
 z127 := Tryz.sizeOf196
 v127 := Tryz.zeroValue196
 t143 := Tryz.underlying239
 a143 := Tryz.isAgg239
 z143 := Tryz.sizeOf239
 v143 := Tryz.zeroValue239
 t145 := Tryz.underlying241
 a145 := Tryz.isAgg241
 z145 := Tryz.sizeOf241
 v145 := Tryz.zeroValue241
 t167 := Tryz.underlying206
 a167 := Tryz.isAgg206
 z167 := Tryz.sizeOf206
 v167 := Tryz.zeroValue206
 t168 := Tryz.underlying209
 a168 := Tryz.isAgg209
 z168 := Tryz.sizeOf209
 v168 := Tryz.zeroValue209
 t171 := Tryz.underlying213
 a171 := Tryz.isAgg213
 z171 := Tryz.sizeOf213
 v171 := Tryz.zeroValue213
 t173 := Tryz.underlying215
 a173 := Tryz.isAgg215
 z173 := Tryz.sizeOf215
 v173 := Tryz.zeroValue215
 t175 := Tryz.underlying220
 a175 := Tryz.isAgg220
 z175 := Tryz.sizeOf220
 v175 := Tryz.zeroValue220
 t210 := Tryz.underlying224
 a210 := Tryz.isAgg224
 z210 := Tryz.sizeOf224
 v210 := Tryz.zeroValue224
 t212 := Tryz.underlying227
 a212 := Tryz.isAgg227
 z212 := Tryz.sizeOf227
 v212 := Tryz.zeroValue227
 t213 := Tryz.underlying229
 a213 := Tryz.isAgg229
 z213 := Tryz.sizeOf229
 t232 := Tryz.underlying243
 a232 := Tryz.isAgg243
 z232 := Tryz.sizeOf243
 v232 := Tryz.zeroValue243
 t233 := Tryz.underlying244
 a233 := Tryz.isAgg244
 z233 := Tryz.sizeOf244
 v233 := Tryz.zeroValue244
 g15 := by kernel_rfl
 g16 := by kernel_rfl
 g17 := by kernel_rfl
 g18 := by kernel_rfl
 g19 := by kernel_rfl
 t80 := Tryz.underlying183
 a80 := Tryz.isAgg183
 z80 := Tryz.sizeOf183
 v80 := Tryz.zeroValue183
 i0 := by kernel_rfl
 i2 := by kernel_rfl
 i3 := by kernel_rfl
 i4 := by kernel_rfl
 i5 := by kernel_rfl
 i9 := by kernel_rfl
 i20 := by kernel_rfl
 i21 := by kernel_rfl
 i37 := by kernel_rfl
 i46 := by kernel_rfl
 i51 := by kernel_rfl
 i53 := by kernel_rfl
 i75 := by kernel_rfl
 i76 := by kernel_rfl
 i80 := by kernel_rfl
 i85 := by kernel_rfl
 i127 := by kernel_rfl
 i143 := by kernel_rfl
 i145 := by kernel_rfl
 i167 := by kernel_rfl
 i168 := by kernel_rfl
 i171 := by kernel_rfl
 i173 := by kernel_rfl
 i175 := by kernel_rfl
 i210 := by kernel_rfl
 i212 := by kernel_rfl
 i232 := by kernel_rfl
 i233 := by kernel_rfl
 m15 := by kernel_rfl
 m16 := by kernel_rfl
 m17 := by kernel_rfl
 m18 := by kernel_rfl
 m19 := by kernel_rfl
 c0 := by kernel_rfl
 c2 := by kernel_rfl
 c3 := by kernel_rfl
 c4 := by kernel_rfl
 c5 := by kernel_rfl
 c9 := by kernel_rfl
 c20 := by kernel_rfl
 c21 := by kernel_rfl
 c37 := by kernel_rfl
 c46 := by kernel_rfl
 c51 := by kernel_rfl
 c53 := by kernel_rfl
 c75 := by kernel_rfl
 c76 := by kernel_rfl
 c80 := by kernel_rfl
 c85 := by kernel_rfl
 c127 := by kernel_rfl
 c143 := by kernel_rfl
 c145 := by kernel_rfl
 c167 := by kernel_rfl
 c168 := by kernel_rfl
 c171 := by kernel_rfl
 c173 := by kernel_rfl
 c175 := by kernel_rfl
 c210 := by kernel_rfl
 c212 := by kernel_rfl
 c213 := by kernel_rfl
 c232 := by kernel_rfl
 c233 := by kernel_rfl }
end Go.Proofs
namespace Go.Sh
open Go Go.Proofs Go.RowKit Go.Sx Go.Shelf
def strings_TrimPrefix (s p : ByteArray) : Option ByteArray := some ⟨(Lib.trimPrefix s.data.toList p.data.toList).toArray⟩
def jdS : List SV := [.c (.d), .c (.d)]
def jcr : List Lf → Option GT
 | [.d (.s s), .d (.s p)] => some (.leaf (ok (strings_TrimPrefix s p)) [.c (.d (.s (val (strings_TrimPrefix s p))))])
 | _ => none
abbrev sp_135 : jaa → jaa := jav 135 true (jap jdS jcr)
theorem jgx : jaf Tryz.prog 135 true (jap jdS jcr) := by
 refine jcL (body := jah Tryz.f135) Tryz.func135 (by kernel_rfl) (by kernel_rfl) ?_
 intro ls t hg ho b hb ρ0 w hlt hh
 unfold jcr at hg
 split at hg
 ·rename_i s p
  cases hg
  obtain rfl := jaO hb
  refine (Any.strings_TrimPrefix Tryz.lays101 s p w).mono ?_
  rintro e w' ⟨rfl, rfl⟩
  refine ⟨ρ0, .w (.c (.d (.s ⟨(Lib.trimPrefix s.data.toList p.data.toList).toArray⟩))), _, _, rfl, trivial, jai.refl _ _, hh, Bel.refl _ _, ?_⟩
  show mD _ _ ∧ True
  exact ⟨⟨rfl⟩, trivial⟩
 ·cases hg
theorem sp_135_ok {sp : jaa} (h : jab Tryz.prog sp) : jab Tryz.prog (sp_135 sp) := jag jgx h
def strings_Split (s sep : ByteArray) : Option (List ByteArray) :=
 if s.size ≤ 1000000 ∧ 1 ≤ sep.size then some (Lib.splitB sep 0 (Lib.countB s sep) s) else none
def jfN : List SV := [.c (.d), .c (.d)]
def jdT : List Lf → Option GT
 | [.d (.s s), .d (.s sep)] => some (.leaf (ok (strings_Split s sep)) [.c (.row 9 (.strs (val (strings_Split s sep))))])
 | _ => none
abbrev sp_105 : jaa → jaa := jav 105 true (jap jfN jdT)
theorem jkd : jaf Tryz.prog 105 true (jap jfN jdT) := by
 refine jcL (body := jah Tryz.f105) Tryz.func105 (by kernel_rfl) (by kernel_rfl) ?_
 intro ls t hg ho b hb ρ0 w hlt hh
 unfold jdT at hg
 split at hg
 ·rename_i s sep
  cases hg
  obtain rfl := jaO hb
  have hk : ok (strings_Split s sep) := ho
  unfold strings_Split at hk
  have hn : s.size ≤ 1000000 ∧ 1 ≤ sep.size := by
   by_cases h : s.size ≤ 1000000 ∧ 1 ≤ sep.size
   ·exact h
   ·rw [if_neg h] at hk; cases hk
  have hv : val (strings_Split s sep) = Lib.splitB sep 0 (Lib.countB s sep) s := by
   unfold strings_Split
   rw [if_pos hn]
   rfl
  have hlen := Lib.splitB_all sep hn.2 0 _ s rfl
  obtain ⟨_, m0, hm, m, rfl⟩ := hh.glob.2 8 _ rfl
  refine (Any.strings_Split { Tryz.laysM146 with } Tryz.laysM146.i9 s sep m w (by omega) hm hn.2).mono ?_
  rintro e w' ⟨rfl, rfl⟩
  generalize hL : Lib.splitB sep 0 (Lib.countB s sep) s = L at *
  have hfl : (L.map Value.string).toArray = ((Cont.strs L).flat.map D.val).toArray := by
   show _ = ((L.flatMap fun x => [D.s x]).map D.val).toArray
   rw [jqj, List.map_map]
   rfl
  have hbl : Below w.heap.size w (w.alloc (.cells (L.map Value.string).toArray 9)) := (Below.refl _ w).alloc (Nat.le_refl _) _
  have hle := Lib.countB_le sep hn.2 s.size s (Nat.le_refl _)
  have hLn : (Cont.strs L).n ≤ 9223372036854775807 := by show L.length ≤ _; omega
  refine ⟨upd ρ0 0 (.slice (some ⟨w.heap.size, 0, none⟩) L.length L.length), .w (.c (.o 0)), (0, .row 9 (.strs L)) :: [], 1, ?_, Nat.lt_succ_self 0, fun h hh => absurd hh (Nat.not_lt_zero _), ?_, jbR hbl (fun k hk => hk), ?_⟩
  ·rw [← hlen]
   rfl
  ·refine HRel.add (nx := 0) (hp := []) hh hbl (fun k hk => hk) (fun h hh => absurd hh (Nat.not_lt_zero _)) trivial ?_ ?_
   ·rw [hfl]
    exact jkB (c := .strs L) (fun k hk => hk) hLn
   ·intro k hk
    rw [upd_same] at hk
    simp [O.blk, Value.ownBlock] at hk
    omega
  ·show jdF _ _ ∧ True
   rw [hv]
   exact ⟨⟨rfl⟩, trivial⟩
 ·cases hg
theorem sp_105_ok {sp : jaa} (h : jab Tryz.prog sp) : jab Tryz.prog (sp_105 sp) := jag jkd h
def jeo (s : ByteArray) : Bool := match Lib.atoiAll s.data.toList with
 | .ok _ => true
 | _ => false
def jbe (s : ByteArray) : Int := match Lib.atoiAll s.data.toList with
 | .ok v => v
 | .range => Lib.atoiSat s.data.toList
 | _ => 0
def jqk : Sx.Spec := fun vs hp nx => match vs with
 | [.w (.c (.d (.s s)))] => some (.br (jeo s)
   (.leaf ⟨s.size ≤ 1000000, .t [.c (.d (.i .i64 (jbe s))), .c (.d (.v .nilIface))], hp, nx⟩)
   (.leaf ⟨s.size ≤ 1000000, .t [.c (.d (.i .i64 (jbe s))), .c (.o nx)], (nx, .err) :: hp, nx + 1⟩))
 | _ => none
abbrev sp_134 : jaa → jaa := jav 134 true jqk
theorem jtW : jaf Tryz.prog 134 true jqk := by
 refine .inl ⟨jdj Tryz.func134 (body := jah Tryz.f134) (by kernel_rfl) (by kernel_rfl), fun ρ B w args hp nx t hS hob hlt hh hB => ?_⟩
 unfold jqk at hS
 split at hS
 ·rename_i s
  cases hS
  have hargs : (List.map (V.val ρ) [V.w (.c (.d (.s s)))]).toArray = #[.string s] := rfl
  rw [hargs]
  cases hb : jeo s with
  | true =>
   simp only [RT.sel, hb] at hob ⊢
   obtain ⟨v, hv⟩ : ∃ v, Lib.atoiAll s.data.toList = .ok v := by
    unfold jeo at hb
    split at hb
    ·rename_i v h; exact ⟨v, h⟩
    ·cases hb
   have hav : jbe s = v := by unfold jbe; rw [hv]
   refine (Any.strconv_Atoi_ok Tryz.laysC172 s (by omega) v hv w).mono ?_
   rintro e w' ⟨rfl, hw⟩
   have hbl : Below w.heap.size w w' := by
    rcases hw with rfl | ⟨t, rfl⟩
    ·exact Below.refl _ _
    ·exact Lib.bytesWorld_below w _ t
   refine ⟨ρ, by rw [hav]; rfl, jai.refl _ _, fun x hx => ?_, Nat.le_refl _, hh.below hbl hB, jbR hbl hB, fun _ => hbl, fun _ h o k hn hf => ?_⟩
   ·simp only [List.mem_cons, List.not_mem_nil, or_false] at hx
    rcases hx with rfl | rfl <;> trivial
   ·have := (hh.ok h o hf).1
    omega
  | false =>
   simp only [RT.sel, hb] at hob ⊢
   have key : ∀ (v : Int), jbe s = v → ∀ (N : Nat) (t : Nat) (w' : World), Below w.heap.size w w' → ∃ ρ', (Ending.returned (.tuple #[.int .i64 v, .iface t (.pointer (some ⟨N, 0, none⟩))]) : Ending) = .returned ((V.t [.c (.d (.i .i64 (jbe s))), .c (.o nx)]).val ρ') ∧
     Go.Sx.Left ρ B nx w ⟨s.size ≤ 1000000, .t [.c (.d (.i .i64 (jbe s))), .c (.o nx)], (nx, .err) :: hp, nx + 1⟩ true ρ' w' := by
    intro v hv N t w' hbl
    refine ⟨upd ρ nx (.iface t (.pointer (some ⟨N, 0, none⟩))), ?_, jat _ _ _, fun x hx => ?_, Nat.le_succ _, ?_, jbR hbl hB, fun _ => hbl, fun _ h o k hn hf hk => ?_⟩
    ·rw [hv]
     simp [V.val, W.val, C.val, D.val]
    ·simp only [List.mem_cons, List.not_mem_nil, or_false] at hx
     rcases hx with rfl | rfl
     ·trivial
     ·exact Nat.lt_succ_self nx
    ·refine hh.add hbl hB (jat _ _ _) trivial ⟨t, _, upd_same _ _ _⟩ ?_
     intro k hk
     simp [O.blk] at hk
    ·simp only [find] at hf
     split at hf
     ·cases hf
      simp [O.blk] at hk
     ·have := (hh.ok h o hf).1
      omega
   cases hv : Lib.atoiAll s.data.toList with
   | ok v =>
    unfold jeo at hb
    rw [hv] at hb
    cases hb
   | range =>
    obtain ⟨_, ev, hev, hev2⟩ := hh.glob.2 10 _ rfl
    refine (Any.strconv_Atoi_range Tryz.laysC172 s (by omega) hv ev w hev hev2).mono ?_
    rintro e w' ⟨N, rfl, _, _, hbl⟩
    exact key _ (by unfold jbe; rw [hv]) N _ w' hbl
   | _ =>
    obtain ⟨_, ev, hev, hev2⟩ := hh.glob.2 9 _ rfl
    refine (Any.strconv_Atoi_syntax Tryz.laysC172 s (by omega) hv ev w hev hev2).mono ?_
    rintro e w' ⟨N, rfl, _, _, hbl⟩
    exact key 0 (by unfold jbe; rw [hv]) N _ w' hbl
 ·cases hS
theorem sp_134_ok {sp : jaa} (h : jab Tryz.prog sp) : jab Tryz.prog (sp_134 sp) := jag jtW h
end Go.Sh
end

section
namespace Go.Sh
open Go Go.Proofs Go.RowKit Go.Sx
open Go.IntKind (wrap)
def jll : List (Option Cont) := [none]
def y76 (s : ByteArray) : Option (Int × Bool) :=
 if (jeo s) = true then
  if ByteArray.size s ≤ 1000000 then
  Option.bind (strconv_Itoa (jbe s)) fun r0 =>
  if (r0 == s) = true then
   Option.bind (strings_TrimPrefix s (ByteArray.mk #[(45 : UInt8)])) fun r1 =>
   some ((jbe s, decide ((↑(ByteArray.size r1) : Int) ≤ 13)))
  else
   some (jbe s, false)
  else none
 else
  if ByteArray.size s ≤ 1000000 then
  some (jbe s, false)
  else none
def jhl : List A → Option (Prop × List RV)
 | [.d (.s s)] => some (ok (y76 s), [.d (.i .i64 ((val (y76 s)).1)), .d (.b ((val (y76 s)).2))])
 | _ => none
abbrev sp_106 : jaa → jaa := jav 106 true (jaq jll jhl)
theorem joV (s : ByteArray) (r : Int × Bool) (h : Option.bind (y76 s) some = some r) : ja8 Tryz.f106 ((sp_134 (sp_109 (sp_135 sp0)))) (fun _ _ _ => none) [.d (.s s)] [.d (.i .i64 r.1), .d (.b r.2)] := by
 refine Eq.mp (by kernel_rfl : (
 Br (jeo s)
  ((Ob (ByteArray.size s ≤ 1000000) ∧
 (Ob (ok (strconv_Itoa (jbe s))) ∧
 Br (val (strconv_Itoa (jbe s)) == s)
  ((Ob (ok (strings_TrimPrefix s (ByteArray.mk #[(45 : UInt8)]))) ∧
 (Ob True ∧
 (Ob True ∧
 (Ob (jbe s = r.1) ∧
 (Ob (decide ((↑(ByteArray.size (val (strings_TrimPrefix s (ByteArray.mk #[(45 : UInt8)])))) : Int) ≤ 13) = r.2) ∧
 True))))))
  ((Ob True ∧
 (Ob True ∧
 (Ob (jbe s = r.1) ∧
 (Ob (false = r.2) ∧
 True))))))))
  ((Ob (ByteArray.size s ≤ 1000000) ∧
 (Ob True ∧
 (Ob True ∧
 (Ob (jbe s = r.1) ∧
 (Ob (false = r.2) ∧
 True))))))) = _) ?_
 refine jaS h (fun h => ?_) (fun h => ?_)
 ·refine jaj h fun h => ?_
  refine jaE h fun h => ?_
  refine jaS h (fun h => ?_) (fun h => ?_)
  ·refine jaE h fun h => ?_
   refine jac ?_
   refine jac ?_
   exact jak h (fun e => by subst e; exact (by repeat' (first | exact trivial | exact ⟨rfl⟩ | refine And.intro ?_ ?_)))
  ·refine jac ?_
   refine jac ?_
   exact jak h (fun e => by subst e; exact (by repeat' (first | exact trivial | exact ⟨rfl⟩ | refine And.intro ?_ ?_)))
 ·refine jaj h fun h => ?_
  refine jac ?_
  refine jac ?_
  exact jak h (fun e => by subst e; exact (by repeat' (first | exact trivial | exact ⟨rfl⟩ | refine And.intro ?_ ?_)))
theorem joW : jaf Tryz.prog 106 true (jaq jll jhl) := by
 refine jaw (sp := (sp_134 (sp_109 (sp_135 sp0)))) (fn := Tryz.f106) (body := jah Tryz.f106) mixed (sp_134_ok (sp_109_ok (sp_135_ok jao))) Tryz.func106 (by kernel_rfl) (by kernel_rfl) fun as_ ob rs h ho => ?_
 unfold jhl at h
 split at h
 ·rename_i s
  cases h
  exact ⟨Nat.le_of_ble_eq_true rfl, _, _, joV s _ (jan ho)⟩
 ·cases h
theorem sp_106_ok {sp : jaa} (h : jab Tryz.prog sp) : jab Tryz.prog (sp_106 sp) := jag joW h
def y167 : List (Option Cont) := [none]
def y51 (u54 : Int) (u55 : Int) : Option Bool :=
 some (decide (u54 > u55))
def y111 : List A → Option (Prop × List RV)
 | [.s [.i .i64 u54, .i .i64 u55]] => some (ok (y51 u54 u55), [.d (.b ((val (y51 u54 u55))))])
 | _ => none
abbrev sp_108 : jaa → jaa := jav 108 true (jaq y167 y111)
theorem jhG (u54 : Int) (u55 : Int) (r : Bool) (h : Option.bind (y51 u54 u55) some = some r) : ja8 Tryz.f108 (sp0) (fun _ _ _ => none) [.s [.i .i64 u54, .i .i64 u55]] [.d (.b r)] := by
 refine Eq.mp (by kernel_rfl : (
 (Ob True ∧
 (Ob (decide (u54 > u55) = r) ∧
 True))) = _) ?_
 refine jac ?_
 exact jak h (fun e => by subst e; exact (by repeat' (first | exact trivial | exact ⟨rfl⟩ | refine And.intro ?_ ?_)))
theorem jhH : jaf Tryz.prog 108 true (jaq y167 y111) := by
 refine jaw (sp := sp0) (fn := Tryz.f108) (body := jah Tryz.f108) mixed jao Tryz.func108 (by kernel_rfl) (by kernel_rfl) fun as_ ob rs h ho => ?_
 unfold y111 at h
 split at h
 ·rename_i u54 u55
  cases h
  exact ⟨Nat.le_of_ble_eq_true rfl, _, _, jhG u54 u55 _ (jan ho)⟩
 ·cases h
theorem sp_108_ok {sp : jaa} (h : jab Tryz.prog sp) : jab Tryz.prog (sp_108 sp) := jag jhH h
def y92 : List (Option Cont) := [some (.recs 2 []), none]
def y9 (s : List (List Int)) (x0 : Int) : Option (Int ⊕ (Int ⊕ Unit)) :=
 if x0 < (↑(List.length s) : Int) then
  if 0 ≤ x0 ∧ x0 < (↑(List.length s) : Int) then
  if Int.toNat x0 < List.length s then
   Option.bind (y51 (List.getD (List.getD s (Int.toNat x0) []) 0 (0 : Int)) (List.getD (List.getD s (Int.toNat x0) []) 1 (0 : Int))) fun r0 =>
   if (r0) = true then
   some (.inr (.inl x0))
   else
   some (.inl (wrap .i64 (x0 + 1)))
  else none
  else none
 else
  some (.inr ((.inr ())))
def y141 (u9 : Int) : Option Int :=
 some u9
def y142 (u23 : Unit) : Option Int :=
 some (-1 : Int)
def y28 : (Int ⊕ Unit) → Option Int :=
 (Sum.elim (y141) (y142))
def y19 (s : List (List Int)) : Option Int :=
 Option.bind (jae (y9 s) big (0 : Int)) (y28)
def y62 : List A → Option (Prop × List RV)
 | [.r (.recs 2 s), .f 108] => some (ok (y19 s), [.d (.i .i64 ((val (y19 s))))])
 | _ => none
abbrev sp_94_108 : jaa → jaa := jav 94 true (jaq y92 y62)
theorem y161 (s : List (List Int)) (r : Int) (h : Option.bind (y19 s) some = some r) : ja8 Tryz.f94 ((sp_108 sp0)) (fun gs id _ => match id with
 | 0 => some ⟨Int × Nat, fun z => ⟨[(0, .w (.c (.o 0))), (1, .w (.c (.fn 108 []))), (7, .w (.c (.d (.i .i64 ((↑(List.length s) : Int)))))), (8, .w (.c (.d (.i .i64 (Prod.fst z)))))], [(0, .ext (.recs 2 s))], 2⟩, fun z => Option.bind (jae (y9 s) (Prod.snd z) (Prod.fst z)) (fun y0 => Option.bind (y28 y0) some) = some r, fun z => Prod.snd z⟩
 | _ => none) [.r (.recs 2 s), .f 108] [.d (.i .i64 r)] := by
 refine Eq.mp (by kernel_rfl : (
 ((∃ (v0 : Int × Nat), (Ob ((Option.bind (jae (y9 s) v0.2 v0.1) fun y0 => Option.bind (y28 y0) some) = some r) ∧
 (Ob ((↑(List.length s) : Int) = (↑(List.length s) : Int)) ∧
 (Ob ((0 : Int) = v0.1) ∧
 (Ob (s = s) ∧
 True))))) ∧
  (∀ (v0 : Int × Nat), ((Option.bind (jae (y9 s) v0.2 v0.1) fun y0 => Option.bind (y28 y0) some) = some r →
 Br (decide (v0.1 < (↑(List.length s) : Int)))
  ((Ob (0 ≤ v0.1 ∧ v0.1 < (↑(List.length s) : Int)) ∧
 (Ob (Int.toNat v0.1 < List.length s) ∧
 (Ob (ok (y51 (List.getD (List.getD s (Int.toNat v0.1) []) 0 (0 : Int)) (List.getD (List.getD s (Int.toNat v0.1) []) 1 (0 : Int)))) ∧
 Br (val (y51 (List.getD (List.getD s (Int.toNat v0.1) []) 0 (0 : Int)) (List.getD (List.getD s (Int.toNat v0.1) []) 1 (0 : Int))))
  ((Ob True ∧
 (Ob (v0.1 = r) ∧
 True)))
  ((∃ (v1 : Int × Nat), (Ob ((Option.bind (jae (y9 s) v1.2 v1.1) fun y0 => Option.bind (y28 y0) some) = some r) ∧
 (Ob (v1.2 < v0.2) ∧
 (Ob ((↑(List.length s) : Int) = (↑(List.length s) : Int)) ∧
 (Ob (wrap .i64 (v0.1 + 1) = v1.1) ∧
 (Ob (s = s) ∧
 True)))))))))))
  ((Ob True ∧
 (Ob ((-1 : Int) = r) ∧
 True))))))) = _) ?_
 refine ⟨⟨((0 : Int), big), ⟨jaX h⟩, (by repeat' (first | exact trivial | exact ⟨rfl⟩ | refine And.intro ?_ ?_))⟩, fun z1 hz1 => ?_⟩
 obtain ⟨k1, hm1, h⟩ := jaH hz1
 refine jaC h (fun h => ?_) (fun h => ?_)
 ·refine jaj h fun h => ?_
  refine jaj h fun h => ?_
  refine jaE h fun h => ?_
  refine jaS h (fun h => ?_) (fun h => ?_)
  ·have h := jar h
   refine jac ?_
   exact jak h (fun e => by subst e; exact (by repeat' (first | exact trivial | exact ⟨rfl⟩ | refine And.intro ?_ ?_)))
  ·exact ⟨(wrap .i64 (Prod.fst z1 + 1), k1), ⟨jaG h⟩, ⟨jaQ hm1.symm⟩, (by repeat' (first | exact trivial | exact ⟨rfl⟩ | refine And.intro ?_ ?_))⟩
 ·have h := jar h
  refine jac ?_
  exact jak h (fun e => by subst e; exact (by repeat' (first | exact trivial | exact ⟨rfl⟩ | refine And.intro ?_ ?_)))
theorem y162 : jaf Tryz.prog 94 true (jaq y92 y62) := by
 refine jaw (sp := (sp_108 sp0)) (fn := Tryz.f94) (body := jah Tryz.f94) mixed (sp_108_ok jao) Tryz.func94 (by kernel_rfl) (by kernel_rfl) fun as_ ob rs h ho => ?_
 unfold y62 at h
 split at h
 ·rename_i s
  cases h
  exact ⟨Nat.le_of_ble_eq_true rfl, _, _, y161 s _ (jan ho)⟩
 ·cases h
theorem sp_94_108_ok {sp : jaa} (h : jab Tryz.prog sp) : jab Tryz.prog (sp_94_108 sp) := jag y162 h
end Go.Sh
end

section
namespace Go.Sh
open Go Go.Proofs Go.RowKit Go.Sx Go.Sx06 Go.Lib
open Go.IntKind (wrap)
theorem jdx (a b : List UInt8) : mkB a ++ mkB b = mkB (a ++ b) := by
 apply ByteArray.ext
 show (mkB a ++ mkB b).data = _
 rw [ByteArray.data_append]
 simp [mkB]
theorem jfO (a b : ByteArray) : (a == b) = decide (a = b) := by
 obtain ⟨⟨x⟩⟩ := a
 obtain ⟨⟨y⟩⟩ := b
 show ((⟨x⟩ : Array UInt8) == ⟨y⟩) = _
 rw [Bool.eq_iff_iff]
 simp
theorem jql (x : UInt8) : (((x.toNat : Nat) : Int) == 48) = decide (x = 48) := jqf x 48
theorem u8_45 (x : UInt8) : (((x.toNat : Nat) : Int) == 45) = decide (x = 45) := jqf x 45
theorem jqm (s : ByteArray) (k : Nat) (hk : k ≤ 17) (hs : s.size ≤ 1000000) :
  y39 s (k : Int) = some (match jby k s.data.toList with | some v => (v, true) | none => (0, false)) := by
 have hl := size_eq s
 have h0 : Array.getD s.data 0 0 = s.data.toList.getD 0 0 := ji1 s 0
 have h1 : Array.getD s.data 1 0 = s.data.toList.getD 1 0 := ji1 s 1
 have b0 := fun h : s.size ≤ 18 => jjG s 0 (Nat.zero_le _) hs h
 have b1 := fun h1 h => jjG s 1 h1 hs h
 generalize hL : s.data.toList = l at *
 cases l with
 | nil =>
  unfold y39
  simp only [List.length_nil] at hl
  rw [if_neg (by omega), if_pos (by simp [hl])]
  rfl
 | cons x r =>
  simp only [List.length_cons] at hl
  have g0 : (x :: r).getD 0 0 = x := rfl
  rw [g0] at h0
  unfold y39
  rw [if_pos (by omega), if_pos (by omega), h0]
  by_cases hx : x = 45
  ·subst hx
   rw [if_pos (by decide)]
   have hb : behind (45 :: r) = r := rfl
   have hh : (45 :: r : List UInt8).head? = some 45 := rfl
   unfold jby
   rw [hb]
   by_cases hr : r = []
   ·subst hr
    rw [if_pos (by simp [hl]), if_pos (.inl rfl)]
   ·have hr2 : r.length ≠ 0 := fun h => hr (List.eq_nil_of_length_eq_zero h)
    rw [if_neg (by simp; omega), jcd (by omega)]
    by_cases hkk : k < r.length
    ·rw [if_pos (by omega), if_pos (.inr (.inl hkk))]
    ·rw [if_neg (by omega), if_pos (by omega), h1]
     obtain ⟨y, q, rfl⟩ : ∃ y q, r = y :: q := by
      cases r with
      | nil => exact absurd rfl hr
      | cons y q => exact ⟨y, q, rfl⟩
     have g1 : (45 :: y :: q : List UInt8).getD 1 0 = y := rfl
     rw [g1]
     by_cases hy : y = 48
     ·subst hy
      rw [if_pos (by decide), if_pos (by omega), if_pos (.inr (.inr (.inl ⟨rfl, by simp⟩)))]
     ·have hy' : ¬ (((y.toNat : Nat) : Int) == 48) = true := by
       rw [jql]
       simpa using hy
      rw [if_neg hy']
      have hb1 := b1 (by omega) (by omega)
      rw [show ((1 : Nat) : Int) = 1 from rfl] at hb1
      rw [hb1, jaJ, show List.drop 1 (45 :: y :: q) = y :: q from rfl]
      unfold y6
      cases hd : jbx (y :: q) with
      | false =>
       rw [if_neg Bool.false_ne_true, if_pos (.inr (.inr (.inr rfl)))]
       rfl
      | true =>
       have hlt := jiZ (y :: q) 0 hd
       rw [Nat.zero_add, Nat.one_mul] at hlt
       have hp := Nat.pow_le_pow_right (show 0 < 10 by omega) (show (y :: q).length ≤ 17 by omega)
       have h17 : (10 : Nat) ^ 17 = 100000000000000000 := by decide
       have hc : ¬ (y :: q = [] ∨ k < (y :: q).length ∨ ((y :: q).head? = some 48 ∧ 1 < (45 :: y :: q : List UInt8).length) ∨ true = false) := by
        rintro (h | h | h | h)
        ·cases h
        ·omega
        ·exact hy (Option.some.inj h.1)
        ·cases h
       rw [if_pos rfl, if_neg hc, if_pos hh]
       show jeG (1, (ja9 0 (y :: q) : Int)) = _
       unfold jeG
       dsimp only
       rw [if_pos (by decide), jcd (by omega)]
       simp
  ·have hx' : ¬ (((x.toNat : Nat) : Int) == 45) = true := by
    rw [u8_45]
    simpa using hx
   rw [if_neg hx']
   have hh : ¬ (x :: r).head? = some 45 := fun h => hx (Option.some.inj h)
   have hb : behind (x :: r) = x :: r := by unfold behind; rw [if_neg hh]
   unfold jby
   rw [hb, if_neg (show ¬ (((s.size : Nat) : Int) == 0) = true from fun h => by have := eq_of_beq h; omega), jcd (x := (s.size : Int) - 0) (by omega)]
   by_cases hkk : k < r.length + 1
   ·rw [if_pos (by omega), if_pos (.inr (.inl hkk))]
   ·rw [if_neg (by omega), if_pos (by omega)]
    have fin : (x = 48 → r = []) → Option.bind (jae (y3 s) big ((0 : Int), (0 : Int), (0 : Int))) y6 = some (match (if x :: r = [] ∨ k < (x :: r).length ∨ ((x :: r).head? = some 48 ∧ 1 < (x :: r).length) ∨ jbx (x :: r) = false then none else some (if (x :: r).head? = some 45 then -(ja9 0 (x :: r) : Int) else (ja9 0 (x :: r) : Int)) : Option Int) with | some v => (v, true) | none => (0, false)) := by
     intro h48
     have hb0 := b0 (by omega)
     rw [show ((0 : Nat) : Int) = 0 from rfl] at hb0
     rw [hb0, jaJ, List.drop_zero]
     unfold y6
     cases hd : jbx (x :: r) with
     | false =>
      rw [if_neg Bool.false_ne_true, if_pos (.inr (.inr (.inr rfl)))]
      rfl
     | true =>
      have hc : ¬ (x :: r = [] ∨ k < (x :: r).length ∨ ((x :: r).head? = some 48 ∧ 1 < (x :: r).length) ∨ true = false) := by
       rintro (h | h | h | h)
       ·cases h
       ·simp at h; omega
       ·have := h48 (Option.some.inj h.1)
        subst this
        simp at h
       ·cases h
      rw [if_pos rfl, if_neg hc, if_neg hh]
      rfl
    by_cases hy : x = 48
    ·have hy' : (((x.toNat : Nat) : Int) == 48) = true := by rw [jql]; simpa using hy
     rw [if_pos hy']
     by_cases hr : r = []
     ·rw [if_neg (by subst hr; simp at hl; omega)]
      exact fin fun _ => hr
     ·have hr2 : r.length ≠ 0 := fun h => hr (List.eq_nil_of_length_eq_zero h)
      rw [if_pos (by omega), if_pos (.inr (.inr (.inl ⟨by rw [hy]; rfl, by simp; omega⟩)))]
    ·have hy' : ¬ (((x.toNat : Nat) : Int) == 48) = true := by rw [jql]; simpa using hy
     rw [if_neg hy']
     exact fin fun h => absurd h hy
theorem jrt {d : Nat} (h : d < 10) : jc2 [wrap IntKind.u8 (wrap IntKind.i64 ((48 : Int) + (d : Int)))] = mkB [UInt8.ofNat (48 + d)] := by
 have hw : ∀ y : Int, IntKind.u8.wrap y = y % 256 := fun y => by
  unfold wrap
  simp [IntKind.signed, IntKind.bits]
 rw [jcd (by omega), hw]
 unfold jc2 mkB
 simp only [List.foldl_cons, List.foldl_nil]
 rw [show ((48 + (d : Int)) % 256).toNat = 48 + d by omega]
 rfl
theorem jof : ∀ (u : Nat) (x : Int) (s : List UInt8) (sg : ByteArray) (N : Nat), x.natAbs = u → u ≠ 0 → -9223372036854775808 ≤ x → x ≤ 9223372036854775807 → s.length + (decDigits u).length ≤ 1000 → u < N →
  jae y22 N (x, mkB s, sg) = some (mkB (decDigits u ++ s), sg) := by
 intro u
 induction u using Nat.strongRecOn with
 | _ u ih =>
  intro x s sg N hx hu h1 h2 hS hN
  obtain ⟨M, rfl⟩ : ∃ M, N = M + 1 := ⟨N - 1, by omega⟩
  have hd : az (x.tmod 10) = ((u % 10 : Nat) : Int) := by
   rw [juy, Int.natAbs_tmod, hx]
   rfl
  have hq : (x.tdiv 10).natAbs = u / 10 := by rw [Int.natAbs_tdiv, hx]; rfl
  have hin : inJ (x.tmod 10) := by
   have : (x.tmod 10).natAbs = u % 10 := by rw [Int.natAbs_tmod, hx]; rfl
   unfold inJ; omega
  have jbW : y22 (x, mkB s, sg) = some (.inl (x.tdiv 10, mkB (UInt8.ofNat (48 + u % 10) :: s), sg)) := by
   unfold y22
   dsimp only
   rw [if_pos (by simp; omega), jsy hin, jaJ, hd, jrt (by omega)]
   rw [if_pos (by rw [jbS, jbS]; simp; omega), jdx, jcd (by omega)]
   rfl
  have hne : jae y22 (M + 1) (x, mkB s, sg) = jae y22 M (x.tdiv 10, mkB (UInt8.ofNat (48 + u % 10) :: s), sg) := by
   conv => lhs; unfold jae
   rw [jbW]
  rw [hne]
  by_cases h10 : u < 10
  ·have hz : x.tdiv 10 = 0 := by omega
   obtain ⟨M', rfl⟩ : ∃ M', M = M' + 1 := ⟨M - 1, by omega⟩
   rw [hz, jcc h10, show u % 10 = u by omega]
   unfold jae y22
   rfl
  ·have hl : (decDigits u).length = (decDigits (u / 10)).length + 1 := by rw [jfq h10]; simp
   rw [ih (u / 10) (by omega) (x.tdiv 10) _ sg M hq (by omega) (by omega) (by omega) (by simp; omega) (by omega), jfq h10]
   simp
theorem jsM {n : Int} (h : -9223372036854775808 ≤ n ∧ n ≤ 9223372036854775807) : (decDigits n.natAbs).length ≤ 21 := by
 have := itoa_length_le n h.1 h.2
 unfold itoa at this
 split at this
 ·simp at this; omega
 ·rw [show n.natAbs = n.toNat by omega]; exact this
theorem jjH {n : Int} (h : -9223372036854775808 ≤ n ∧ n ≤ 9223372036854775807) : y20 n = some (mkB (itoa n)) := by
 have hl := jsM h
 unfold y20 itoa
 by_cases h0 : n = 0
 ·subst h0
  rw [if_pos (by decide), if_neg (by decide), show (0 : Int).toNat = 0 from rfl, jcc (by omega)]
  rfl
 ·rw [if_neg (by simpa using h0)]
  have dl := fun sg => jof n.natAbs n [] sg big rfl (by omega) h.1 h.2 (by simp; omega) (by unfold big; omega)
  simp only [List.append_nil] at dl
  by_cases hn : n < 0
  ·rw [if_pos hn, if_pos hn]
   have e := dl (mkB [45])
   rw [show (n, ByteArray.mk #[], ByteArray.mk #[(45 : UInt8)]) = (n, mkB [], mkB [45]) from rfl, e, jaJ]
   unfold y46
   dsimp only
   rw [if_pos (by rw [jbS, jbS]; simp; omega), jdx]
   rfl
  ·rw [if_neg hn, if_neg hn]
   have e := dl (mkB [])
   rw [show (n, ByteArray.mk #[], ByteArray.mk #[]) = (n, mkB [], mkB []) from rfl, e, jaJ]
   unfold y46
   dsimp only
   rw [if_pos (by rw [jbS, jbS]; simp; omega), jdx, show n.natAbs = n.toNat by omega]
   rfl
theorem jru (s : ByteArray) (c : UInt8) (hs : s.size ≤ 1000000) : strings_Split s (mkB [c]) = some ((jaT c [] s.data.toList).map mkB) := by
 unfold strings_Split
 rw [if_pos ⟨hs, by rw [jbS]; simp⟩]
 have e := splitB_data (mkB [c]) 0 (countB s (mkB [c])) s
 have e2 : (splitB (mkB [c]) 0 (countB s (mkB [c])) s).map (·.data.toList) = jaT c [] s.data.toList := by
  rw [e]
  exact jmq c s.data.toList
 rw [← e2, List.map_map]
 congr 1
 conv => lhs; rw [← List.map_id (splitB (mkB [c]) 0 (countB s (mkB [c])) s)]
 refine List.map_congr_left fun x _ => ?_
 exact (job x).symm
theorem jqn (s : ByteArray) (hs : s.size ≤ 1000000) : ∃ v, y76 s = some (v, (jby 13 s.data.toList).isSome) ∧ ∀ w, jby 13 s.data.toList = some w → v = w := by
 unfold y76
 refine ⟨jbe s, ?_, fun w hw => ?_⟩
 ·cases hn : jby 13 s.data.toList with
  | some w =>
   obtain ⟨p1, p2, p3, p4⟩ := jtz (by omega) hn
   have hv : jbe s = w := by unfold jbe; rw [p2]
   have hb : jeo s = true := by unfold jeo; rw [p2]
   have hr : -9223372036854775808 ≤ w ∧ w ≤ 9223372036854775807 := by
    have h13 : (10 : Nat) ^ 13 = 10000000000000 := by decide
    omega
   rw [if_pos hb, if_pos hs, hv]
   unfold strconv_Itoa
   rw [if_pos hr, jaJ]
   have e : (⟨(Lib.itoa w).toArray⟩ : ByteArray) = s := by rw [p1]
   rw [e, if_pos (by rw [jfO]; simp)]
   unfold strings_TrimPrefix
   rw [jaJ]
   congr 2
   rw [size_eq]
   show decide (((trimPrefix s.data.toList [45]).length : Int) ≤ 13) = true
   exact decide_eq_true (by omega)
  | none =>
   cases hb : jeo s with
   | false => rw [if_neg Bool.false_ne_true, if_pos hs]; rfl
   | true =>
    rw [if_pos rfl, if_pos hs]
    have hr : -9223372036854775808 ≤ jbe s ∧ jbe s ≤ 9223372036854775807 := by
     unfold jeo at hb
     unfold jbe
     cases ha : atoiAll s.data.toList with
     | ok v => exact atoiAll_bounds ha
     | «syntax» => rw [ha] at hb; cases hb
     | range => rw [ha] at hb; cases hb
    unfold strconv_Itoa
    rw [if_pos hr, jaJ]
    by_cases he : (⟨(Lib.itoa (jbe s)).toArray⟩ : ByteArray) = s
    ·rw [if_pos (by rw [jfO]; simpa using he)]
     unfold strings_TrimPrefix
     rw [jaJ]
     congr 2
     rw [size_eq]
     show decide (((trimPrefix s.data.toList [45]).length : Int) ≤ 13) = false
     refine decide_eq_false fun hle => ?_
     have hl : itoa (jbe s) = s.data.toList := congrArg (fun z : ByteArray => z.data.toList) he
     have := num_B (k := 13) (n := jbe s) (by rw [hl]; omega)
     rw [hl, hn] at this
     cases this
    ·rw [if_neg (by rw [jfO]; simpa using he)]
     rfl
 ·have := (jtz (by omega) hw).2.1
  unfold jbe
  rw [this]
end Go.Sh
end

section
namespace Go.Sh
open Go Go.Proofs Go.RowKit Go.Sx
abbrev sp_94b : jaa → jaa := sp_94_108
theorem sp_94b_ok {sp : jaa} (h : jab Tryz.prog sp) : jab Tryz.prog (sp_94b sp) := sp_94_108_ok h
end Go.Sh
end

section
namespace Go.Sh
open Go Go.Proofs Go.RowKit Go.Sx
def y86 : List (Option Cont) := [some (.recs 2 []), none]
def y7 (s : List (List Int)) : Option Bool :=
 Option.bind (y19 s) fun r0 =>
 some (decide (r0 ≥ 0))
def y54 : List A → Option (Prop × List RV)
 | [.r (.recs 2 s), .f 108] => some (ok (y7 s), [.d (.b ((val (y7 s))))])
 | _ => none
abbrev sp_107_108 : jaa → jaa := jav 107 true (jaq y86 y54)
theorem y133 (s : List (List Int)) (r : Bool) (h : Option.bind (y7 s) some = some r) : ja8 Tryz.f107 ((sp_94b (sp_108 sp0))) (fun _ _ _ => none) [.r (.recs 2 s), .f 108] [.d (.b r)] := by
 refine Eq.mp (by kernel_rfl : (
 (Ob (ok (y19 s)) ∧
 (Ob True ∧
 (Ob (decide (val (y19 s) ≥ 0) = r) ∧
 True)))) = _) ?_
 refine jaE h fun h => ?_
 refine jac ?_
 exact jak h (fun e => by subst e; exact (by repeat' (first | exact trivial | exact ⟨rfl⟩ | refine And.intro ?_ ?_)))
theorem y134 : jaf Tryz.prog 107 true (jaq y86 y54) := by
 refine jaw (sp := (sp_94b (sp_108 sp0))) (fn := Tryz.f107) (body := jah Tryz.f107) mixed (sp_94b_ok (sp_108_ok jao)) Tryz.func107 (by kernel_rfl) (by kernel_rfl) fun as_ ob rs h ho => ?_
 unfold y54 at h
 split at h
 ·rename_i s
  cases h
  exact ⟨Nat.le_of_ble_eq_true rfl, _, _, y133 s _ (jan ho)⟩
 ·cases h
theorem sp_107_108_ok {sp : jaa} (h : jab Tryz.prog sp) : jab Tryz.prog (sp_107_108 sp) := jag y134 h
end Go.Sh
namespace Go.Sh
open Go Go.Proofs Go.RowKit Go.Sx
abbrev sp_107 : jaa → jaa := sp_107_108
theorem sp_107_ok {sp : jaa} (h : jab Tryz.prog sp) : jab Tryz.prog (sp_107 sp) := sp_107_108_ok h
end Go.Sh
end

section
namespace Go.Sh
open Go Go.Proofs Go.RowKit Go.Sx Go.Sx06 Go.Lib
abbrev Fg := Bool × Int × Int
abbrev zf : Fg := (false, 0, 0)
def pf1 (W : List ByteArray) : Option (Fg × List ByteArray) :=
 if (W.getD 0 ByteArray.empty).data.toList = [45] ∧ W ≠ [] then some (zf, W.drop 1)
 else if W.length < 2 then none
 else match jby 13 (W.getD 0 ByteArray.empty).data.toList, jby 13 (W.getD 1 ByteArray.empty).data.toList with
  | some lo, some hi => some ((true, lo, hi), W.drop 2)
  | _, _ => none
abbrev Dp := List Fg × List ByteArray
def nx1 (d : Dp) : Dp := match pf1 d.2 with
 | some (x, W) => (d.1 ++ [x], W)
 | none => d
def pfS : Nat → List ByteArray → Option Dp
 | 0, W => some ([], W)
 | n + 1, W => (pfS n W).bind fun d => if (pf1 d.2).isSome = true then some (nx1 d) else none
def jft (L : List Fg) : Bool := (List.range 6).any fun j => decide ((L.getD j zf).2.1 > (L.getD j zf).2.2)
def pfR (W : List ByteArray) : List Fg × Int := match pfS 6 W with
 | none => ([], 7)
 | some d => if d.2 ≠ [] then ([], 7) else if jft d.1 = true then ([], 9) else (d.1, 0)
def jba (L : List Fg) : List D := [.b (L.getD 0 zf).1, .b (L.getD 1 zf).1, .b (L.getD 2 zf).1, .b (L.getD 3 zf).1, .b (L.getD 4 zf).1, .b (L.getD 5 zf).1,
 .i .i64 (L.getD 0 zf).2.1, .i .i64 (L.getD 0 zf).2.2, .i .i64 (L.getD 1 zf).2.1, .i .i64 (L.getD 1 zf).2.2, .i .i64 (L.getD 2 zf).2.1, .i .i64 (L.getD 2 zf).2.2,
 .i .i64 (L.getD 3 zf).2.1, .i .i64 (L.getD 3 zf).2.2, .i .i64 (L.getD 4 zf).2.1, .i .i64 (L.getD 4 zf).2.2, .i .i64 (L.getD 5 zf).2.1, .i .i64 (L.getD 5 zf).2.2]
def rsF (r : List Fg × Int) : List RR := [.s ((jba r.1).map .d), .c (.d (.i .i64 r.2))]
def jdn : List Nat → Code → Code
 | [], c => c
 | 0 :: p, .seq x _ => jdn p x
 | _ :: p, .seq _ y => jdn p y
 | 0 :: p, .cond _ x _ => jdn p x
 | _ :: p, .cond _ _ y => jdn p y
 | _ :: p, .block _ c => jdn p c
 | _ :: p, .loop c => jdn p c
 | _, c => c
noncomputable def pgB : Code := jah Tryz.f61
noncomputable def pgR3 : Code := jdn [1, 1, 1, 0, 0] pgB
noncomputable def pgL : Code := jdn [1, 1, 1, 0, 1, 0, 0] pgB
noncomputable def pgT : Code := jdn [1, 1, 1, 1] pgB
abbrev spPg : jaa := sp_105 (sp_106 (sp_107 sp0))
theorem jdy : jab Tryz.prog spPg := sp_105_ok (sp_106_ok (sp_107_ok jao))
abbrev jfu (c : Code) (st : St) (k : Ex → St → Prop) : Prop := sx Tryz.prog spPg 73 0 0 (fun _ _ _ => none) (jbU Tryz.prog spPg 73) c 0 [] st k
def rowO : Bool → List ByteArray → O
 | true, W => .row 9 (.strs W)
 | false, W => .rrow (.strs W)
def hpPg (b : Bool) (d : Dp) : Hp := [(2, rowO b d.2), (1, .box 95 ((jba d.1).map .d)), (0, .box 95 ((jba []).map .d))]
def tmPg : List (Nat × V) := [(5, .w (.c (.p 1 (0 : Nat) 1 (0 : Nat)))), (4, .w (.c (.o 2))), (3, vi .i64 0), (2, .w (.c (.p 0 (0 : Nat) 1 (0 : Nat))))]
def jfv (b : Bool) (i : Nat) (d : Dp) : St := ⟨(13, vi .i64 (i : Int)) :: tmPg, hpPg b d, 3⟩
def jqo (d : Dp) : St := ⟨tmPg, hpPg false d, 3⟩
abbrev jqp (r : List Fg × Int) (st : St) : Prop := jdG Tryz.prog Tryz.f61.results.toList (fun v hp _ => jf6 0 (rsF r) v hp) .ret st
end Go.Sh
end

section
namespace Go.Sh
open Go Go.Proofs Go.RowKit Go.Sx Go.Sx06 Go.Lib
def CE (L n : List Fg) (p : Prop) : Prop := Ob ((L.getD 0 zf).1 = (n.getD 0 zf).1) ∧ Ob ((L.getD 1 zf).1 = (n.getD 1 zf).1) ∧ Ob ((L.getD 2 zf).1 = (n.getD 2 zf).1) ∧ Ob ((L.getD 3 zf).1 = (n.getD 3 zf).1) ∧ Ob ((L.getD 4 zf).1 = (n.getD 4 zf).1) ∧ Ob ((L.getD 5 zf).1 = (n.getD 5 zf).1) ∧ Ob ((L.getD 0 zf).2.1 = (n.getD 0 zf).2.1) ∧ Ob ((L.getD 0 zf).2.2 = (n.getD 0 zf).2.2) ∧ Ob ((L.getD 1 zf).2.1 = (n.getD 1 zf).2.1) ∧ Ob ((L.getD 1 zf).2.2 = (n.getD 1 zf).2.2) ∧ Ob ((L.getD 2 zf).2.1 = (n.getD 2 zf).2.1) ∧ Ob ((L.getD 2 zf).2.2 = (n.getD 2 zf).2.2) ∧ Ob ((L.getD 3 zf).2.1 = (n.getD 3 zf).2.1) ∧ Ob ((L.getD 3 zf).2.2 = (n.getD 3 zf).2.2) ∧ Ob ((L.getD 4 zf).2.1 = (n.getD 4 zf).2.1) ∧ Ob ((L.getD 4 zf).2.2 = (n.getD 4 zf).2.2) ∧ Ob ((L.getD 5 zf).2.1 = (n.getD 5 zf).2.1) ∧ Ob ((L.getD 5 zf).2.2 = (n.getD 5 zf).2.2) ∧ p
theorem jbl {L n : List Fg} {p : Prop} (h : L = n) (hp : p) : CE L n p := by
 subst h
 exact ⟨⟨rfl⟩, ⟨rfl⟩, ⟨rfl⟩, ⟨rfl⟩, ⟨rfl⟩, ⟨rfl⟩, ⟨rfl⟩, ⟨rfl⟩, ⟨rfl⟩, ⟨rfl⟩, ⟨rfl⟩, ⟨rfl⟩, ⟨rfl⟩, ⟨rfl⟩, ⟨rfl⟩, ⟨rfl⟩, ⟨rfl⟩, ⟨rfl⟩, hp⟩
abbrev gn (W : List ByteArray) (k : Nat) : Int × Bool := val (y76 (W.getD k ByteArray.empty))
def retP (W : List ByteArray) : Prop := pf1 W = none ∧ Ob True ∧ Ob True ∧ CE [] [] (Ob ((7 : Int) = 7) ∧ True)
def nxtP (i : Nat) (L : List Fg) (W' W : List ByteArray) (n : Dp) : Prop := (pf1 W).isSome = true ∧ Ob (IntKind.i64.wrap ((i : Int) + (1 : Int)) = ((i + 1 : Nat) : Int)) ∧ Ob ((0 : Nat) = 0) ∧ Ob ((0 : Int) = 0) ∧ Ob ((0 : Nat) = 0) ∧ Ob (W' = n.2) ∧ CE L n.1 (CE [] [] True)
def numP (i : Nat) (L : List Fg) (W : List ByteArray) (n : Dp) : Prop :=
 Br (decide ((W.length : Int) < (2 : Int))) (retP W) (Ob ((0 : Int) ≤ (0 : Int) ∧ (0 : Int) < (W.length : Int)) ∧ Ob ((0 : Nat) < W.length) ∧ Ob (ok (y76 (W.getD (0 : Nat) ByteArray.empty))) ∧ Ob ((0 : Int) ≤ (1 : Int) ∧ (1 : Int) < (W.length : Int)) ∧ Ob ((1 : Nat) < W.length) ∧ Ob (ok (y76 (W.getD (1 : Nat) ByteArray.empty))) ∧
  Br (!(gn W 0).2) (retP W) (Br (!(gn W 1).2) (retP W) (Ob True ∧ Ob ((0 : Int) ≤ (2 : Int) ∧ (2 : Int) ≤ (W.length : Int)) ∧ Ob ((0 : Int) ≤ (i : Int) ∧ (i : Int) < ((6 : Nat) : Int)) ∧ Ob ((bks (List.map C.d (jba L))).getD i false = true) ∧ Ob ((0 : Int) ≤ (i : Int) ∧ (i : Int) < ((6 : Nat) : Int)) ∧
   Ob ((iks .i64 (jdz i true 0 (List.map C.d (jba L)))).getD (6 + i * 2) false = true ∧ (iks .i64 (jfT .i64 (6 + i * 2) (gn W 0).1 0 (jdz i true 0 (List.map C.d (jba L))))).getD (6 + i * 2 + 1) false = true) ∧
   nxtP i (L ++ [(true, (gn W 0).1, (gn W 1).1)]) (List.take (W.length - 2) (List.drop 2 W)) W n)))
def jcX (i : Nat) (L : List Fg) (W : List ByteArray) (n : Dp) : Prop :=
 Br (decide ((W.length : Int) > (0 : Int))) (Ob ((0 : Int) ≤ (0 : Int) ∧ (0 : Int) < (W.length : Int)) ∧ Ob ((0 : Nat) < W.length) ∧ Br (W.getD (0 : Nat) ByteArray.empty == { data := #[(45 : UInt8)] })
  (Ob ((0 : Int) ≤ (1 : Int) ∧ (1 : Int) ≤ (W.length : Int)) ∧ nxtP i (L ++ [zf]) (List.take (W.length - 1) (List.drop 1 W)) W n) (numP i L W n)) (numP i L W n)
theorem jdU {b : Bool} {X Y : Prop} (h1 : b = true → X) (h2 : b = false → Y) : Br b X Y := by
 cases b
 ·exact h2 rfl
 ·exact h1 rfl
theorem jtA {W : List ByteArray} {k : Nat} (h : (W.getD k ByteArray.empty).size ≤ 1000000) : ok (y76 (W.getD k ByteArray.empty)) ∧ (gn W k).2 = (jby 13 (W.getD k ByteArray.empty).data.toList).isSome ∧ ∀ v, jby 13 (W.getD k ByteArray.empty).data.toList = some v → (gn W k).1 = v := by
 obtain ⟨v, h1, h2⟩ := jqn _ h
 refine ⟨by rw [h1]; rfl, ?_, fun w hw => ?_⟩
 ·show (val (y76 _)).2 = _
  rw [h1]
  rfl
 ·show (val (y76 _)).1 = _
  rw [h1]
  exact h2 w hw
theorem jlX {W : List ByteArray} (h : pf1 W = none) : retP W := ⟨h, ⟨trivial⟩, ⟨trivial⟩, jbl rfl ⟨⟨rfl⟩, trivial⟩⟩
theorem jpl {i : Nat} {L L' : List Fg} {W W' W2 : List ByteArray} {n : Dp} {x : Fg} (hi : i < 6) (hn : n = nx1 (L, W)) (h : pf1 W = some (x, W2)) (hL : L' = L ++ [x]) (hW : W' = W2) : nxtP i L' W' W n := by
 have e : n = (L ++ [x], W2) := by
  rw [hn]
  unfold nx1
  rw [h]
 subst e
 subst hL
 subst hW
 exact ⟨by rw [h]; rfl, ⟨by rw [jcd (by omega)]; omega⟩, ⟨rfl⟩, ⟨rfl⟩, ⟨rfl⟩, ⟨rfl⟩, jbl rfl (jbl rfl trivial)⟩
theorem jog {W : List ByteArray} (k : Nat) : List.take (W.length - k) (List.drop k W) = W.drop k := List.take_of_length_le (by rw [List.length_drop]; omega)
theorem jms {i : Nat} {L : List Fg} {W : List ByteArray} {n : Dp} (hi : i < 6) (hn : n = nx1 (L, W)) (hw : ∀ k, (W.getD k ByteArray.empty).size ≤ 1000000) (hd : ¬ ((W.getD 0 ByteArray.empty).data.toList = [45] ∧ W ≠ [])) : numP i L W n := by
 refine jdU (fun h => jlX ?_) (fun h => ?_)
 ·unfold pf1
  have h := of_decide_eq_true h
  rw [if_neg hd, if_pos (by omega)]
 ·have h := of_decide_eq_false h
  have h2 : ¬ W.length < 2 := by omega
  obtain ⟨g0, g1, g2⟩ := jtA (k := 0) (hw 0)
  obtain ⟨f0, f1, f2⟩ := jtA (k := 1) (hw 1)
  refine ⟨⟨by omega⟩, ⟨by omega⟩, ⟨g0⟩, ⟨by omega⟩, ⟨by omega⟩, ⟨f0⟩, jdU (fun h => jlX ?_) (fun h => jdU (fun h' => jlX ?_) (fun h' => ?_))⟩
  ·unfold pf1
   rw [if_neg hd, if_neg h2]
   rw [g1] at h
   cases hx : jby 13 (W.getD 0 ByteArray.empty).data.toList with
   | none => rfl
   | some v => rw [hx] at h; cases h
  ·unfold pf1
   rw [if_neg hd, if_neg h2]
   rw [f1] at h'
   cases hx : jby 13 (W.getD 1 ByteArray.empty).data.toList with
   | none => cases jby 13 (W.getD 0 ByteArray.empty).data.toList <;> rfl
   | some v => rw [hx] at h'; cases h'
  ·have hb : ∀ j, j < 6 → (bks (List.map C.d (jba L))).getD j false = true := fun j hj => by
    match j, hj with
    | 0, _ => rfl
    | 1, _ => rfl
    | 2, _ => rfl
    | 3, _ => rfl
    | 4, _ => rfl
    | 5, _ => rfl
   have hc : ∀ (j : Nat) (a : Int), j < 6 → (iks .i64 (jdz j true 0 (List.map C.d (jba L)))).getD (6 + j * 2) false = true ∧ (iks .i64 (jfT .i64 (6 + j * 2) a 0 (jdz j true 0 (List.map C.d (jba L))))).getD (6 + j * 2 + 1) false = true := fun j a hj => by
    match j, hj with
    | 0, _ => exact ⟨rfl, rfl⟩
    | 1, _ => exact ⟨rfl, rfl⟩
    | 2, _ => exact ⟨rfl, rfl⟩
    | 3, _ => exact ⟨rfl, rfl⟩
    | 4, _ => exact ⟨rfl, rfl⟩
    | 5, _ => exact ⟨rfl, rfl⟩
   rw [g1] at h
   rw [f1] at h'
   cases hx : jby 13 (W.getD 0 ByteArray.empty).data.toList with
   | none => rw [hx] at h; cases h
   | some v0 =>
   cases hy : jby 13 (W.getD 1 ByteArray.empty).data.toList with
   | none => rw [hy] at h'; cases h'
   | some v1 =>
    have hp : pf1 W = some ((true, v0, v1), W.drop 2) := by
     unfold pf1
     rw [if_neg hd, if_neg h2, hx, hy]
    exact ⟨⟨trivial⟩, ⟨by omega⟩, ⟨by omega⟩, ⟨hb i hi⟩, ⟨by omega⟩, ⟨hc i _ hi⟩, jpl hi hn hp (by rw [g2 v0 hx, f2 v1 hy]) (jog 2)⟩
theorem jqr {i : Nat} {L : List Fg} {W : List ByteArray} {n : Dp} (hi : i < 6) (hn : n = nx1 (L, W)) (hw : ∀ k, (W.getD k ByteArray.empty).size ≤ 1000000) : jcX i L W n := by
 refine jdU (fun h => ?_) (fun h => ?_)
 ·have h1 : 0 < W.length := by simpa using h
  have hne : W ≠ [] := fun e => by rw [e] at h1; cases h1
  refine ⟨⟨by omega⟩, ⟨h1⟩, jdU (fun h => ?_) (fun h => ?_)⟩
  ·have hd : (W.getD 0 ByteArray.empty).data.toList = [45] := by
    rw [jfO] at h
    rw [of_decide_eq_true h]
   exact ⟨⟨by omega⟩, jpl hi hn (by unfold pf1; rw [if_pos ⟨hd, hne⟩]) rfl (jog 1)⟩
  ·refine jms hi hn hw (fun hc => ?_)
   rw [jfO] at h
   refine of_decide_eq_false h ?_
   have := hc.1
   rw [← job (W.getD 0 ByteArray.empty), this]
   rfl
 ·refine jms hi hn hw (fun hc => ?_)
  have : ¬ 0 < W.length := by simpa using h
  exact hc.2 (List.eq_nil_of_length_eq_zero (by omega))
def jiz (i : Nat) (d : Dp) (e : Ex) (st' : St) : Prop := match e with | .normal => (pf1 d.2).isSome = true ∧ Le 0 st' (jfv false (i + 1) (nx1 d)) | .ret => pf1 d.2 = none ∧ jqp ([], 7) st' | .exit _ => False
theorem jsR (W : List ByteArray) (h : jcX 0 [] W (nx1 ([], W))) : jfu pgL (jfv (Nat.beq 0 0) 0 ([], W)) (jiz 0 ([], W)) :=
 Eq.mp (by kernel_rfl : jcX 0 [] W (nx1 ([], W)) = _) h
theorem jsS (x0 : Fg) (W : List ByteArray) (h : jcX 1 [x0] W (nx1 ([x0], W))) : jfu pgL (jfv (Nat.beq 1 0) 1 ([x0], W)) (jiz 1 ([x0], W)) :=
 Eq.mp (by kernel_rfl : jcX 1 [x0] W (nx1 ([x0], W)) = _) h
theorem jsT (x0 x1 : Fg) (W : List ByteArray) (h : jcX 2 [x0, x1] W (nx1 ([x0, x1], W))) : jfu pgL (jfv (Nat.beq 2 0) 2 ([x0, x1], W)) (jiz 2 ([x0, x1], W)) :=
 Eq.mp (by kernel_rfl : jcX 2 [x0, x1] W (nx1 ([x0, x1], W)) = _) h
theorem jsU (x0 x1 x2 : Fg) (W : List ByteArray) (h : jcX 3 [x0, x1, x2] W (nx1 ([x0, x1, x2], W))) : jfu pgL (jfv (Nat.beq 3 0) 3 ([x0, x1, x2], W)) (jiz 3 ([x0, x1, x2], W)) :=
 Eq.mp (by kernel_rfl : jcX 3 [x0, x1, x2] W (nx1 ([x0, x1, x2], W)) = _) h
theorem jsV (x0 x1 x2 x3 : Fg) (W : List ByteArray) (h : jcX 4 [x0, x1, x2, x3] W (nx1 ([x0, x1, x2, x3], W))) : jfu pgL (jfv (Nat.beq 4 0) 4 ([x0, x1, x2, x3], W)) (jiz 4 ([x0, x1, x2, x3], W)) :=
 Eq.mp (by kernel_rfl : jcX 4 [x0, x1, x2, x3] W (nx1 ([x0, x1, x2, x3], W)) = _) h
theorem jsW (x0 x1 x2 x3 x4 : Fg) (W : List ByteArray) (h : jcX 5 [x0, x1, x2, x3, x4] W (nx1 ([x0, x1, x2, x3, x4], W))) : jfu pgL (jfv (Nat.beq 5 0) 5 ([x0, x1, x2, x3, x4], W)) (jiz 5 ([x0, x1, x2, x3, x4], W)) :=
 Eq.mp (by kernel_rfl : jcX 5 [x0, x1, x2, x3, x4] W (nx1 ([x0, x1, x2, x3, x4], W)) = _) h
end Go.Sh
end

section
namespace Go.Sh
open Go Go.Proofs Go.RowKit Go.Sx Go.Sx06 Go.Lib
theorem jtX (s : ByteArray) (h : ok (strings_Split s ⟨#[32]⟩)) : jfu (jgo 3 pgB) ⟨[(0, .w (.c (.d (.s s))))], [], 0⟩ (fun e st => match e with | .normal => jfu pgR3 st (fun e st' => match e with | .normal => Le 0 st' (jfv true 0 ([], val (strings_Split s ⟨#[32]⟩))) | _ => False) | _ => False) := by
 refine Eq.mp (by kernel_rfl : (Ob (ok (strings_Split s ⟨#[32]⟩)) ∧ Ob ((0 : Int) = ((0 : Nat) : Int)) ∧ Ob ((0 : Nat) = 0) ∧ Ob ((0 : Int) = 0) ∧ Ob ((0 : Nat) = 0) ∧ Ob (val (strings_Split s ⟨#[32]⟩) = val (strings_Split s ⟨#[32]⟩)) ∧ CE [] [] (CE [] [] True)) = _) ?_
 exact ⟨⟨h⟩, ⟨rfl⟩, ⟨rfl⟩, ⟨rfl⟩, ⟨rfl⟩, ⟨rfl⟩, jbl rfl (jbl rfl trivial)⟩
theorem jtY (L : List Fg) (W : List ByteArray) : jfu pgL (jfv false 6 (L, W)) (fun e st' => match e with | .exit j => j = 0 ∧ Le 0 st' (jqo (L, W)) | _ => False) := by
 refine Eq.mp (by kernel_rfl : ((0 : Nat) = 0 ∧ Ob ((0 : Nat) = 0) ∧ Ob ((0 : Int) = 0) ∧ Ob ((0 : Nat) = 0) ∧ Ob (W = W) ∧ CE L L (CE [] [] True)) = _) ?_
 exact ⟨rfl, ⟨rfl⟩, ⟨rfl⟩, ⟨rfl⟩, ⟨rfl⟩, jbl rfl (jbl rfl trivial)⟩
def jdV (L : List Fg) : List (List Int) := [[(L.getD 0 zf).2.1, (L.getD 0 zf).2.2], [(L.getD 1 zf).2.1, (L.getD 1 zf).2.2], [(L.getD 2 zf).2.1, (L.getD 2 zf).2.2], [(L.getD 3 zf).2.1, (L.getD 3 zf).2.2], [(L.getD 4 zf).2.1, (L.getD 4 zf).2.2], [(L.getD 5 zf).2.1, (L.getD 5 zf).2.2]]
theorem jtZ (L : List Fg) (W : List ByteArray) (r : List Fg × Int) (h0 : ok (y7 (jdV L))) (h1 : 0 < W.length → r = ([], 7)) (h2 : ¬ 0 < W.length → val (y7 (jdV L)) = true → r = ([], 9)) (h3 : ¬ 0 < W.length → val (y7 (jdV L)) = false → r = (L, 0)) :
  jfu pgT (jqo (L, W)) (fun e st' => match e with | .ret => jqp r st' | _ => False) := by
 refine Eq.mp (by kernel_rfl : (Br (decide ((W.length : Int) > (0 : Int))) (Ob True ∧ Ob True ∧ CE [] r.1 (Ob ((7 : Int) = r.2) ∧ True)) (Ob True ∧ Ob (ok (y7 (jdV L))) ∧ Br (val (y7 (jdV L)))
  (Ob True ∧ Ob True ∧ CE [] r.1 (Ob ((9 : Int) = r.2) ∧ True)) (Ob True ∧ Ob True ∧ CE L r.1 (Ob ((0 : Int) = r.2) ∧ True)))) = _) ?_
 refine jdU (fun h => ?_) (fun h => ⟨⟨trivial⟩, ⟨h0⟩, jdU (fun h' => ?_) (fun h' => ?_)⟩)
 ·have h := of_decide_eq_true h
  rw [h1 (by omega)]
  exact ⟨⟨trivial⟩, ⟨trivial⟩, jbl rfl ⟨⟨rfl⟩, trivial⟩⟩
 ·have h := of_decide_eq_false h
  rw [h2 (by omega) h']
  exact ⟨⟨trivial⟩, ⟨trivial⟩, jbl rfl ⟨⟨rfl⟩, trivial⟩⟩
 ·have h := of_decide_eq_false h
  rw [h3 (by omega) h']
  exact ⟨⟨trivial⟩, ⟨trivial⟩, jbl rfl ⟨⟨rfl⟩, trivial⟩⟩
theorem joX (L : List Fg) : y7 (jdV L) = some (jft L) := by
 have hp : ∀ a b : Int, y51 a b = some (decide (a > b)) := fun a b => rfl
 have hi := jqe (jdV L) [] (fun r => decide (r.getD 0 0 > r.getD 1 0)) (body := y9 (jdV L)) (fun i => .inl (i : Int)) (.inr ()) (by simp [jdV])
  (fun i hi hp' => by
   unfold y9
   rw [if_pos (by omega), if_pos (by omega), if_pos (by omega), Int.toNat_natCast, hp, jaJ, if_pos hp'])
  (fun i hi hp' => by
   have : (jdV L).length = 6 := rfl
   unfold y9
   rw [if_pos (by omega), if_pos (by omega), if_pos (by omega), Int.toNat_natCast, hp, jaJ, if_neg (by rw [hp']; simp), jcd (by omega)])
  (by unfold y9; rw [if_neg (by omega)])
 have hb : jft L = (jdV L).any (fun r => decide (r.getD 0 0 > r.getD 1 0)) := rfl
 unfold y7 y19
 rw [hi, jaJ, hb]
 cases hf : (jdV L).findIdx? (fun r => decide (r.getD 0 0 > r.getD 1 0)) with
 | none =>
  rw [List.findIdx?_eq_none_iff] at hf
  have : (jdV L).any (fun r => decide (r.getD 0 0 > r.getD 1 0)) = false := List.any_eq_false.2 fun x hx => by rw [hf x hx]; simp
  rw [this]
  rfl
 | some k =>
  rw [List.findIdx?_eq_some_iff_getElem] at hf
  obtain ⟨hk, hp', _⟩ := hf
  have : (jdV L).any (fun r => decide (r.getD 0 0 > r.getD 1 0)) = true := List.any_eq_true.2 ⟨_, List.getElem_mem hk, hp'⟩
  rw [this]
  show Option.bind (some (k : Int)) _ = _
  rw [jaJ, decide_eq_true (by omega)]
theorem jhm (c : UInt8) : ∀ (l pre : List UInt8), ∀ x ∈ jaT c pre l, x.length ≤ pre.length + l.length
 | [], pre, x, hx => by
  simp only [jaT, List.mem_singleton] at hx
  subst hx
  simp
 | y :: r, pre, x, hx => by
  unfold jaT at hx
  split at hx
  ·rcases List.mem_cons.1 hx with rfl | hx
   ·simp
   ·have := jhm c r [] x hx
    simp at this ⊢
    omega
  ·have := jhm c r (pre ++ [y]) x hx
   simp at this ⊢
   omega
theorem jrv {d : Dp} {m : Nat} (h : ∀ k, (d.2.getD k ByteArray.empty).size ≤ m) : ∀ k, ((nx1 d).2.getD k ByteArray.empty).size ≤ m := by
 intro k
 have hd : ∀ j, ((d.2.drop j).getD k ByteArray.empty).size ≤ m := fun j => by
  have := h (j + k)
  simpa [List.getD, List.getElem?_drop] using this
 unfold nx1 pf1
 split
 ·rename_i x W he
  split at he
  ·cases he; exact hd 1
  ·split at he
   ·cases he
   ·split at he
    ·cases he; exact hd 2
    ·cases he
 ·exact h k
def joh (W0 : List ByteArray) (i : Nat) (d : Dp) : Prop := pfS i W0 = some d ∧ d.1.length = i ∧ ∀ k, (d.2.getD k ByteArray.empty).size ≤ 1000000
theorem jt0 {d : Dp} (h : (pf1 d.2).isSome = true) : (nx1 d).1.length = d.1.length + 1 := by
 unfold nx1
 obtain ⟨⟨x, W⟩, hx⟩ := Option.isSome_iff_exists.1 h
 rw [hx]
 simp
theorem jrw {W0 : List ByteArray} {i : Nat} {d : Dp} (h : joh W0 i d) (hs : (pf1 d.2).isSome = true) : joh W0 (i + 1) (nx1 d) := by
 refine ⟨?_, by rw [jt0 hs, h.2.1], jrv h.2.2⟩
 show (pfS i W0).bind _ = _
 rw [h.1]
 show (if (pf1 d.2).isSome = true then some (nx1 d) else none) = _
 rw [if_pos hs]
theorem jke {W0 : List ByteArray} : ∀ {j i : Nat}, pfS i W0 = none → pfS (i + j) W0 = none
 | 0, _, h => h
 | j + 1, i, h => by
  show (pfS (i + j) W0).bind _ = none
  rw [jke h]
  rfl
theorem jrx {W0 : List ByteArray} {i : Nat} {d : Dp} (hi : i < 6) (h : joh W0 i d) (hs : pf1 d.2 = none) : pfR W0 = ([], 7) := by
 have h1 : pfS (i + 1) W0 = none := by
  show (pfS i W0).bind _ = _
  rw [h.1]
  show (if (pf1 d.2).isSome = true then some (nx1 d) else none) = _
  rw [hs]
  rfl
 have h6 : pfS 6 W0 = none := by
  have := jke (j := 5 - i) h1
  rw [show i + 1 + (5 - i) = 6 by omega] at this
  exact this
 unfold pfR
 rw [h6]
theorem jt1 {W0 : List ByteArray} {i : Nat} {d : Dp} (hi : i < 6) (h : joh W0 i d) : jfu pgL (jfv (Nat.beq i 0) i d) (jiz i d) := by
 obtain ⟨L, W⟩ := d
 have hl : L.length = i := h.2.1
 have hp := jqr (L := L) (n := nx1 (L, W)) hi rfl h.2.2
 have hc : i = 0 ∨ i = 1 ∨ i = 2 ∨ i = 3 ∨ i = 4 ∨ i = 5 := by omega
 rcases hc with rfl | rfl | rfl | rfl | rfl | rfl
 ·obtain rfl := List.eq_nil_of_length_eq_zero hl
  exact jsR W hp
 ·obtain ⟨x0, rfl⟩ : ∃ x0, L = [x0] := by
   match L, hl with
   | [x0], _ => exact ⟨x0, rfl⟩
  exact jsS x0 W hp
 ·obtain ⟨x0, x1, rfl⟩ : ∃ x0 x1, L = [x0, x1] := by
   match L, hl with
   | [x0, x1], _ => exact ⟨x0, x1, rfl⟩
  exact jsT x0 x1 W hp
 ·obtain ⟨x0, x1, x2, rfl⟩ : ∃ x0 x1 x2, L = [x0, x1, x2] := by
   match L, hl with
   | [x0, x1, x2], _ => exact ⟨x0, x1, x2, rfl⟩
  exact jsU x0 x1 x2 W hp
 ·obtain ⟨x0, x1, x2, x3, rfl⟩ : ∃ x0 x1 x2 x3, L = [x0, x1, x2, x3] := by
   match L, hl with
   | [x0, x1, x2, x3], _ => exact ⟨x0, x1, x2, x3, rfl⟩
  exact jsV x0 x1 x2 x3 W hp
 ·obtain ⟨x0, x1, x2, x3, x4, rfl⟩ : ∃ x0 x1 x2 x3 x4, L = [x0, x1, x2, x3, x4] := by
   match L, hl with
   | [x0, x1, x2, x3, x4], _ => exact ⟨x0, x1, x2, x3, x4, rfl⟩
  exact jsW x0 x1 x2 x3 x4 W hp
theorem jsX (s : ByteArray) (hs : s.size ≤ 1000000) {B : Bd} (ρ0 : Env) (w : World) (hh : HRel ρ0 B [] 0 w) (hB : Old B w) :
  Calls Tryz.prog 61 #[.string s] w (EndR ρ0 B 0 w fun v hp _ => jf6 0 (rsF (pfR ((jaT 32 [] s.data.toList).map mkB))) v hp) := by
 have hsp : strings_Split s ⟨#[32]⟩ = some ((jaT 32 [] s.data.toList).map mkB) := jru s 32 hs
 have hv : val (strings_Split s ⟨#[32]⟩) = (jaT 32 [] s.data.toList).map mkB := by rw [hsp]; rfl
 have hsmall : ∀ k, (((jaT 32 [] s.data.toList).map mkB).getD k ByteArray.empty).size ≤ 1000000 := fun k => by
  by_cases hk : k < ((jaT 32 [] s.data.toList).map mkB).length
  ·rw [List.getD_eq_getElem?_getD, List.getElem?_eq_getElem hk]
   obtain ⟨x, hx, he⟩ := List.mem_map.1 (List.getElem_mem hk)
   show (((jaT 32 [] s.data.toList).map mkB)[k]).size ≤ _
   rw [← he, jbS]
   have h1 := jhm 32 s.data.toList [] x hx
   have h2 := size_eq s
   simp only [List.length_nil, Nat.zero_add] at h1
   omega
  ·rw [List.getD_eq_getElem?_getD, List.getElem?_eq_none (by omega)]
   exact Nat.zero_le _
 generalize hW : (jaT 32 [] s.data.toList).map mkB = W0 at *
 refine calls_of_wp (c := pgB) Tryz.func61 (by kernel_rfl) ?_
 have jdH := jfG (n0 := 0) (N := 73) (args := [.w (.c (.d (.s s)))]) (Nat.le_of_ble_eq_true rfl) (fun x hx => by simp only [List.mem_singleton] at hx; subst hx; trivial) (Nat.le_refl _) ρ0 w hh hB
 refine jiV jdy (jbs mixed jdy) (cur := 0) (gs := []) 3 pgB _ ρ0 _ w (by kernel_rfl) (jtX s (by rw [hsp]; rfl)) jdH (jai.refl _ _) (Bel.refl _ _) ?_ ?_
 ·intro ρ1 st1 a1 w1 hk1 hr1 hag1 hbl1
  have hT : jgp 3 pgB = .seq (.seq pgR3 (.block 0 (.loop pgL))) pgT := by kernel_rfl
  rw [hT]
  refine wp_seq (wp_seq (wp_mono (ja7 jdy (jbs mixed jdy) pgR3 0 [] st1 _ ρ1 a1 w1 hk1 hr1 hag1 hbl1) ?_))
  rintro x a2 w2 ⟨ex, ρ2, st2, rfl, hle, hr2, hag2, hbl2⟩
  cases ex with
  | normal =>
   obtain ⟨ρ3, hr3, hag3⟩ := Le.rel hle hr2
   rw [hv] at hr3
   refine jnI (ti := 13) jdy (jbs mixed jdy) 6 (fun i d => jfv (Nat.beq i 0) i d) (joh W0) (fun st => pfR W0 = ([], 7) ∧ jqp ([], 7) st) jqo jiz (fun i d => rfl)
    (fun i d hi h => jt1 hi h) (fun i d st' hi h hk => ⟨nx1 d, jrw h hk.1, hk.2⟩) (fun i d st' hi h hk => ⟨jrx hi h hk.1, hk.2⟩) (fun i d j st' hk => hk) (fun d _ => jtY d.1 d.2)
    ([], W0) ⟨rfl, rfl, hsmall⟩ hr3 (fun x hx => (hag3 x hx).trans (hag2 x hx)) hbl2 ?_ ?_
   ·rintro ρ4 st4 a4 w4 ⟨h7, hk4⟩ hr4 hag4 hbl4
    rw [h7]
    exact je2 hr4 hag4 hbl4 hk4
   ·intro ρ4 d a4 w4 hd hr4 hag4 hbl4
    have hc := joX d.1
    have hr : pfR W0 = if d.2 ≠ [] then ([], 7) else if jft d.1 = true then ([], 9) else (d.1, 0) := by
     unfold pfR
     rw [hd.1]
    have hlen : 0 < d.2.length ↔ d.2 ≠ [] := List.length_pos_iff
    refine wp_mono (ja7 jdy (jbs mixed jdy) pgT 0 [] _ _ ρ4 a4 w4 (jtZ d.1 d.2 (pfR W0) (by rw [hc]; rfl) (fun h => by rw [hr, if_pos (hlen.1 h)]) (fun h h' => by
     rw [hc] at h'
     have h' : jft d.1 = true := h'
     rw [hr, if_neg (fun e => h (hlen.2 e)), if_pos h']) (fun h h' => by
     rw [hc] at h'
     have h' : jft d.1 = false := h'
     rw [hr, if_neg (fun e => h (hlen.2 e)), h']
     rfl)) hr4 hag4 hbl4) ?_
    rintro e a5 w5 ⟨ex, ρ5, st5, rfl, hk5, hr5, hag5, hbl5⟩
    cases ex with
    | normal => exact hk5.elim
    | exit j => exact hk5.elim
    | ret => exact je2 hr5 hag5 hbl5 hk5
  | exit j => exact hle.elim
  | ret => exact hle.elim
 ·intro ex ρ1 st1 a1 w1 hne hk1 hr1 hag1 hbl1
  cases ex with
  | normal => exact absurd rfl hne
  | exit j => exact hk1.elim
  | ret => exact hk1.elim
end Go.Sh
end

section
namespace Go.Sh
open Go Go.Proofs Go.RowKit Go.Sx Go.Sx06 Go.Lib
noncomputable def prB : Code := jah Tryz.f64
noncomputable def prR4 : Code := jdn [1, 1, 1, 1, 0, 0] prB
noncomputable def prL : Code := jdn [1, 1, 1, 1, 0, 1, 0, 0] prB
noncomputable def prM : Code := jdn [1, 1, 1, 1, 1, 0] prB
noncomputable def jqs : Code := jdn [1, 1, 1, 1, 1, 1, 0, 0] prB
noncomputable def jhn : Code := jdn [1, 1, 1, 1, 1, 1, 0, 1, 0, 0] prB
noncomputable def prE : Code := jdn [1, 1, 1, 1, 1, 1, 1] prB
abbrev spPr : jaa := sp_111 (sp_112 sp0)
theorem jbE : jab Tryz.prog spPr := sp_111_ok (sp_112_ok jao)
abbrev jce (c : Code) (st : St) (k : Ex → St → Prop) : Prop := sx Tryz.prog spPr 95 0 0 (fun _ _ _ => none) (jbU Tryz.prog spPr 95) c 0 [] st k
abbrev Dr := List Fg × Nat
def hpPr (W : List ByteArray) (L : List Fg) : Hp := [(2, .row 9 (.strs W)), (1, .box 95 ((jba L).map .d)), (0, .box 95 ((jba []).map .d))]
def tmPr : List (Nat × V) := [(5, .w (.c (.p 1 (0 : Nat) 1 (0 : Nat)))), (4, .w (.c (.o 2))), (3, vi .i64 0), (2, .w (.c (.p 0 (0 : Nat) 1 (0 : Nat))))]
def jfw (W : List ByteArray) (i : Nat) (d : Dr) : St := ⟨(7, vi .i64 (i : Int)) :: (6, vi .i64 (d.2 : Int)) :: tmPr, hpPr W d.1, 3⟩
def jqv (W : List ByteArray) (d : Dr) : St := ⟨(6, vi .i64 (d.2 : Int)) :: tmPr, hpPr W d.1, 3⟩
def jdW (W : List ByteArray) (i : Nat) (L : List Fg) : St := ⟨(12, vi .i64 (i : Int)) :: tmPr, hpPr W L, 3⟩
def joi (W : List ByteArray) (L : List Fg) : St := ⟨tmPr, hpPr W L, 3⟩
abbrev ji2 (r : List Fg × Int) (st : St) : Prop := jdG Tryz.prog Tryz.f64.results.toList (fun v hp _ => jf6 0 (rsF r) v hp) .ret st
end Go.Sh
end

section
namespace Go.Sh
open Go Go.Proofs Go.RowKit Go.Sx Go.Sx06 Go.Lib
abbrev bn (W : List ByteArray) (j : Int) : Int × Bool := val (y39 (W.getD j.toNat ByteArray.empty) (13 : Int))
def retQ (W : List ByteArray) (k : Nat) : Prop := pf1 (W.drop k) = none ∧ Ob True ∧ Ob True ∧ CE [] [] (Ob ((7 : Int) = 7) ∧ True)
def nxtQ (i : Nat) (L : List Fg) (kv : Int) (W : List ByteArray) (k : Nat) (n : Dr) : Prop := (pf1 (W.drop k)).isSome = true ∧ Ob (IntKind.i64.wrap ((i : Int) + (1 : Int)) = ((i + 1 : Nat) : Int)) ∧ Ob (kv = (n.2 : Int)) ∧ Ob ((0 : Nat) = 0) ∧ Ob ((0 : Int) = 0) ∧ Ob ((0 : Nat) = 0) ∧ Ob (W = W) ∧ CE L n.1 (CE [] [] True)
def numQ (i : Nat) (L : List Fg) (k : Nat) (W : List ByteArray) (n : Dr) : Prop :=
 Br (decide (IntKind.i64.wrap ((k : Int) + (1 : Int)) ≥ (W.length : Int))) (retQ W k) (Ob ((0 : Int) ≤ (k : Int) ∧ (k : Int) < (W.length : Int)) ∧ Ob ((k : Int).toNat < W.length) ∧ Ob (ok (y39 (W.getD (k : Int).toNat ByteArray.empty) (13 : Int))) ∧
  Ob ((0 : Int) ≤ IntKind.i64.wrap ((k : Int) + (1 : Int)) ∧ IntKind.i64.wrap ((k : Int) + (1 : Int)) < (W.length : Int)) ∧ Ob ((IntKind.i64.wrap ((k : Int) + (1 : Int))).toNat < W.length) ∧ Ob (ok (y39 (W.getD (IntKind.i64.wrap ((k : Int) + (1 : Int))).toNat ByteArray.empty) (13 : Int))) ∧
  Br (!(bn W k).2) (retQ W k) (Br (!(bn W (IntKind.i64.wrap ((k : Int) + (1 : Int)))).2) (retQ W k) (Ob ((0 : Int) ≤ (i : Int) ∧ (i : Int) < ((6 : Nat) : Int)) ∧ Ob ((bks (List.map C.d (jba L))).getD i false = true) ∧ Ob ((0 : Int) ≤ (i : Int) ∧ (i : Int) < ((6 : Nat) : Int)) ∧
   Ob ((iks .i64 (jdz i true 0 (List.map C.d (jba L)))).getD (6 + i * 2) false = true ∧ (iks .i64 (jfT .i64 (6 + i * 2) (bn W k).1 0 (jdz i true 0 (List.map C.d (jba L))))).getD (6 + i * 2 + 1) false = true) ∧
   nxtQ i (L ++ [(true, (bn W k).1, (bn W (IntKind.i64.wrap ((k : Int) + (1 : Int)))).1)]) (IntKind.i64.wrap ((k : Int) + (2 : Int))) W k n)))
def jcY (i : Nat) (L : List Fg) (k : Nat) (W : List ByteArray) (n : Dr) : Prop :=
 Br (decide ((k : Int) < (W.length : Int))) (Ob ((0 : Int) ≤ (k : Int) ∧ (k : Int) < (W.length : Int)) ∧ Ob ((k : Int).toNat < W.length) ∧ Br (W.getD (k : Int).toNat ByteArray.empty == { data := #[(45 : UInt8)] })
  (nxtQ i (L ++ [zf]) (IntKind.i64.wrap ((k : Int) + (1 : Int))) W k n) (numQ i L k W n)) (numQ i L k W n)
def nxR (W : List ByteArray) (d : Dr) : Dr := match pf1 (W.drop d.2) with
 | some (x, _) => (d.1 ++ [x], if x.1 = true then d.2 + 2 else d.2 + 1)
 | none => d
theorem jtB {W : List ByteArray} {k : Nat} (h : (W.getD k ByteArray.empty).size ≤ 1000000) : ok (y39 (W.getD k ByteArray.empty) (13 : Int)) ∧ (val (y39 (W.getD k ByteArray.empty) (13 : Int))).2 = (jby 13 (W.getD k ByteArray.empty).data.toList).isSome ∧ ∀ v, jby 13 (W.getD k ByteArray.empty).data.toList = some v → (val (y39 (W.getD k ByteArray.empty) (13 : Int))).1 = v := by
 have h1 := jqm (W.getD k ByteArray.empty) 13 (by omega) h
 have h2 : y39 (W.getD k ByteArray.empty) (13 : Int) = _ := h1
 rw [h2]
 refine ⟨rfl, ?_, fun v hv => ?_⟩
 ·cases jby 13 (W.getD k ByteArray.empty).data.toList <;> rfl
 ·rw [hv]; rfl
theorem jlY {W : List ByteArray} {k : Nat} (h : pf1 (W.drop k) = none) : retQ W k := ⟨h, ⟨trivial⟩, ⟨trivial⟩, jbl rfl ⟨⟨rfl⟩, trivial⟩⟩
theorem jpm {i : Nat} {L L' : List Fg} {W W2 : List ByteArray} {k : Nat} {kv : Int} {n : Dr} {x : Fg} (hi : i < 6) (hn : n = nxR W (L, k)) (h : pf1 (W.drop k) = some (x, W2)) (hL : L' = L ++ [x]) (hk : kv = ((if x.1 = true then k + 2 else k + 1 : Nat) : Int)) : nxtQ i L' kv W k n := by
 have e : n = (L ++ [x], if x.1 = true then k + 2 else k + 1) := by
  rw [hn]
  unfold nxR
  rw [h]
 subst e
 subst hL
 exact ⟨by rw [h]; rfl, ⟨by rw [jcd (by omega)]; omega⟩, ⟨hk⟩, ⟨rfl⟩, ⟨rfl⟩, ⟨rfl⟩, ⟨rfl⟩, jbl rfl (jbl rfl trivial)⟩
theorem jiA {W : List ByteArray} {k : Nat} (j : Nat) : (W.drop k).getD j ByteArray.empty = W.getD (k + j) ByteArray.empty := by simp [List.getD, List.getElem?_drop]
theorem jmt {i k : Nat} {L : List Fg} {W : List ByteArray} {n : Dr} (hi : i < 6) (hk : k ≤ W.length) (hW : W.length ≤ 1000000) (hn : n = nxR W (L, k)) (hw : ∀ k, (W.getD k ByteArray.empty).size ≤ 1000000) (hd : ¬ (((W.drop k).getD 0 ByteArray.empty).data.toList = [45] ∧ W.drop k ≠ [])) : numQ i L k W n := by
 have w1 : IntKind.i64.wrap ((k : Int) + (1 : Int)) = ((k + 1 : Nat) : Int) := by rw [jcd (by omega)]; omega
 have hlen : (W.drop k).length = W.length - k := List.length_drop
 have e0 : (W.drop k).getD 0 ByteArray.empty = W.getD k ByteArray.empty := jiA 0
 have e1 : (W.drop k).getD 1 ByteArray.empty = W.getD (k + 1) ByteArray.empty := jiA 1
 unfold numQ
 rw [w1]
 refine jdU (fun h => jlY ?_) (fun h => ?_)
 ·have h := of_decide_eq_true h
  unfold pf1
  rw [if_neg hd, if_pos (by omega)]
 ·have h := of_decide_eq_false h
  have h2 : ¬ (W.drop k).length < 2 := by omega
  obtain ⟨g0, g1, g2⟩ := jtB (k := k) (hw k)
  obtain ⟨f0, f1, f2⟩ := jtB (k := k + 1) (hw (k + 1))
  refine ⟨⟨by omega⟩, ⟨by omega⟩, ⟨g0⟩, ⟨by omega⟩, ⟨by omega⟩, ⟨f0⟩, jdU (fun h => jlY ?_) (fun h => jdU (fun h' => jlY ?_) (fun h' => ?_))⟩
  ·have h : (!(val (y39 (W.getD k ByteArray.empty) (13 : Int))).2) = true := h
   unfold pf1
   rw [if_neg hd, if_neg h2, e0]
   rw [g1] at h
   cases hx : jby 13 (W.getD k ByteArray.empty).data.toList with
   | none => rfl
   | some v => rw [hx] at h; cases h
  ·have h' : (!(val (y39 (W.getD (k + 1) ByteArray.empty) (13 : Int))).2) = true := h'
   unfold pf1
   rw [if_neg hd, if_neg h2, e1]
   rw [f1] at h'
   cases hx : jby 13 (W.getD (k + 1) ByteArray.empty).data.toList with
   | none => cases jby 13 ((W.drop k).getD 0 ByteArray.empty).data.toList <;> rfl
   | some v => rw [hx] at h'; cases h'
  ·have hb : ∀ j, j < 6 → (bks (List.map C.d (jba L))).getD j false = true := fun j hj => by
    match j, hj with
    | 0, _ => rfl
    | 1, _ => rfl
    | 2, _ => rfl
    | 3, _ => rfl
    | 4, _ => rfl
    | 5, _ => rfl
   have hc : ∀ (j : Nat) (a : Int), j < 6 → (iks .i64 (jdz j true 0 (List.map C.d (jba L)))).getD (6 + j * 2) false = true ∧ (iks .i64 (jfT .i64 (6 + j * 2) a 0 (jdz j true 0 (List.map C.d (jba L))))).getD (6 + j * 2 + 1) false = true := fun j a hj => by
    match j, hj with
    | 0, _ => exact ⟨rfl, rfl⟩
    | 1, _ => exact ⟨rfl, rfl⟩
    | 2, _ => exact ⟨rfl, rfl⟩
    | 3, _ => exact ⟨rfl, rfl⟩
    | 4, _ => exact ⟨rfl, rfl⟩
    | 5, _ => exact ⟨rfl, rfl⟩
   have h : (!(val (y39 (W.getD k ByteArray.empty) (13 : Int))).2) = false := h
   have h' : (!(val (y39 (W.getD (k + 1) ByteArray.empty) (13 : Int))).2) = false := h'
   rw [g1] at h
   rw [f1] at h'
   cases hx : jby 13 (W.getD k ByteArray.empty).data.toList with
   | none => rw [hx] at h; cases h
   | some v0 =>
   cases hy : jby 13 (W.getD (k + 1) ByteArray.empty).data.toList with
   | none => rw [hy] at h'; cases h'
   | some v1 =>
    have hp : pf1 (W.drop k) = some ((true, v0, v1), (W.drop k).drop 2) := by
     unfold pf1
     rw [if_neg hd, if_neg h2, e0, e1, hx, hy]
    have q0 : (bn W (k : Int)).1 = v0 := g2 v0 hx
    have q1 : (bn W ((k + 1 : Nat) : Int)).1 = v1 := f2 v1 hy
    exact ⟨⟨by omega⟩, ⟨hb i hi⟩, ⟨by omega⟩, ⟨hc i _ hi⟩, jpm hi hn hp (by rw [q0, q1]) (by rw [jcd (by omega)]; rfl)⟩
theorem jqy {i k : Nat} {L : List Fg} {W : List ByteArray} {n : Dr} (hi : i < 6) (hk : k ≤ W.length) (hW : W.length ≤ 1000000) (hn : n = nxR W (L, k)) (hw : ∀ k, (W.getD k ByteArray.empty).size ≤ 1000000) : jcY i L k W n := by
 have hlen : (W.drop k).length = W.length - k := List.length_drop
 have e0 : (W.drop k).getD 0 ByteArray.empty = W.getD k ByteArray.empty := jiA 0
 refine jdU (fun h => ?_) (fun h => ?_)
 ·have h := of_decide_eq_true h
  have hne : W.drop k ≠ [] := fun e => by rw [e] at hlen; simp at hlen; omega
  refine ⟨⟨by omega⟩, ⟨by omega⟩, jdU (fun h => ?_) (fun h => ?_)⟩
  ·have h : (W.getD k ByteArray.empty == { data := #[(45 : UInt8)] }) = true := h
   have hd : ((W.drop k).getD 0 ByteArray.empty).data.toList = [45] := by
    rw [jfO] at h
    rw [e0, of_decide_eq_true h]
   exact jpm hi hn (by unfold pf1; rw [if_pos ⟨hd, hne⟩]) rfl (by rw [jcd (by omega)]; rfl)
  ·have h : (W.getD k ByteArray.empty == { data := #[(45 : UInt8)] }) = false := h
   refine jmt hi hk hW hn hw (fun hc => ?_)
   rw [jfO] at h
   refine of_decide_eq_false h ?_
   have := hc.1
   rw [e0] at this
   rw [← job (W.getD k ByteArray.empty), this]
   rfl
 ·have h := of_decide_eq_false h
  refine jmt hi hk hW hn hw (fun hc => ?_)
  exact hc.2 (List.eq_nil_of_length_eq_zero (by omega))
def jiB (W : List ByteArray) (i : Nat) (d : Dr) (e : Ex) (st' : St) : Prop := match e with | .normal => (pf1 (W.drop d.2)).isSome = true ∧ Le 0 st' (jfw W (i + 1) (nxR W d)) | .ret => pf1 (W.drop d.2) = none ∧ ji2 ([], 7) st' | .exit _ => False
theorem js1 (k : Nat) (W : List ByteArray) (h : jcY 0 [] k W (nxR W ([], k))) : jce prL (jfw W 0 ([], k)) (jiB W 0 ([], k)) :=
 Eq.mp (by kernel_rfl : jcY 0 [] k W (nxR W ([], k)) = _) h
theorem js2 (x0 : Fg) (k : Nat) (W : List ByteArray) (h : jcY 1 [x0] k W (nxR W ([x0], k))) : jce prL (jfw W 1 ([x0], k)) (jiB W 1 ([x0], k)) :=
 Eq.mp (by kernel_rfl : jcY 1 [x0] k W (nxR W ([x0], k)) = _) h
theorem js3 (x0 x1 : Fg) (k : Nat) (W : List ByteArray) (h : jcY 2 [x0, x1] k W (nxR W ([x0, x1], k))) : jce prL (jfw W 2 ([x0, x1], k)) (jiB W 2 ([x0, x1], k)) :=
 Eq.mp (by kernel_rfl : jcY 2 [x0, x1] k W (nxR W ([x0, x1], k)) = _) h
theorem js4 (x0 x1 x2 : Fg) (k : Nat) (W : List ByteArray) (h : jcY 3 [x0, x1, x2] k W (nxR W ([x0, x1, x2], k))) : jce prL (jfw W 3 ([x0, x1, x2], k)) (jiB W 3 ([x0, x1, x2], k)) :=
 Eq.mp (by kernel_rfl : jcY 3 [x0, x1, x2] k W (nxR W ([x0, x1, x2], k)) = _) h
theorem js5 (x0 x1 x2 x3 : Fg) (k : Nat) (W : List ByteArray) (h : jcY 4 [x0, x1, x2, x3] k W (nxR W ([x0, x1, x2, x3], k))) : jce prL (jfw W 4 ([x0, x1, x2, x3], k)) (jiB W 4 ([x0, x1, x2, x3], k)) :=
 Eq.mp (by kernel_rfl : jcY 4 [x0, x1, x2, x3] k W (nxR W ([x0, x1, x2, x3], k)) = _) h
theorem js6 (x0 x1 x2 x3 x4 : Fg) (k : Nat) (W : List ByteArray) (h : jcY 5 [x0, x1, x2, x3, x4] k W (nxR W ([x0, x1, x2, x3, x4], k))) : jce prL (jfw W 5 ([x0, x1, x2, x3, x4], k)) (jiB W 5 ([x0, x1, x2, x3, x4], k)) :=
 Eq.mp (by kernel_rfl : jcY 5 [x0, x1, x2, x3, x4] k W (nxR W ([x0, x1, x2, x3, x4], k)) = _) h
def jfP (W : List ByteArray) (i : Nat) (L : List Fg) (e : Ex) (st' : St) : Prop := match e with | .normal => ¬ (L.getD i zf).2.1 > (L.getD i zf).2.2 ∧ Le 0 st' (jdW W (i + 1) L) | .ret => (L.getD i zf).2.1 > (L.getD i zf).2.2 ∧ ji2 ([], 9) st' | .exit _ => False
def jef (i : Nat) (L : List Fg) (W : List ByteArray) : Prop :=
 Ob ((0 : Int) ≤ (i : Int) ∧ (i : Int) < ((6 : Nat) : Int)) ∧ Ob ((iks .i64 (List.map C.d (jba L))).getD (6 + i * 2) false = true) ∧ Ob ((0 : Int) ≤ (i : Int) ∧ (i : Int) < ((6 : Nat) : Int)) ∧ Ob ((iks .i64 (List.map C.d (jba L))).getD (6 + i * 2 + 1) false = true) ∧
 Br (decide ((ivs (List.map C.d (jba L))).getD (6 + i * 2) 0 > (ivs (List.map C.d (jba L))).getD (6 + i * 2 + 1) 0)) ((L.getD i zf).2.1 > (L.getD i zf).2.2 ∧ Ob True ∧ Ob True ∧ CE [] [] (Ob ((9 : Int) = 9) ∧ True))
  (¬ (L.getD i zf).2.1 > (L.getD i zf).2.2 ∧ Ob (IntKind.i64.wrap ((i : Int) + (1 : Int)) = ((i + 1 : Nat) : Int)) ∧ Ob ((0 : Nat) = 0) ∧ Ob ((0 : Int) = 0) ∧ Ob ((0 : Nat) = 0) ∧ Ob (W = W) ∧ CE L L (CE [] [] True))
theorem jry {i : Nat} (hi : i < 6) (L : List Fg) (W : List ByteArray) : jef i L W := by
 have h1 : ∀ j, j < 6 → (iks .i64 (List.map C.d (jba L))).getD (6 + j * 2) false = true ∧ (iks .i64 (List.map C.d (jba L))).getD (6 + j * 2 + 1) false = true ∧ (ivs (List.map C.d (jba L))).getD (6 + j * 2) 0 = (L.getD j zf).2.1 ∧ (ivs (List.map C.d (jba L))).getD (6 + j * 2 + 1) 0 = (L.getD j zf).2.2 := fun j hj => by
  match j, hj with
  | 0, _ => exact ⟨rfl, rfl, rfl, rfl⟩
  | 1, _ => exact ⟨rfl, rfl, rfl, rfl⟩
  | 2, _ => exact ⟨rfl, rfl, rfl, rfl⟩
  | 3, _ => exact ⟨rfl, rfl, rfl, rfl⟩
  | 4, _ => exact ⟨rfl, rfl, rfl, rfl⟩
  | 5, _ => exact ⟨rfl, rfl, rfl, rfl⟩
 obtain ⟨a, b, c, d⟩ := h1 i hi
 refine ⟨⟨by omega⟩, ⟨a⟩, ⟨by omega⟩, ⟨b⟩, ?_⟩
 rw [c, d]
 refine jdU (fun h => ⟨of_decide_eq_true h, ⟨trivial⟩, ⟨trivial⟩, jbl rfl ⟨⟨rfl⟩, trivial⟩⟩) (fun h => ⟨of_decide_eq_false h, ⟨by rw [jcd (by omega)]; omega⟩, ⟨rfl⟩, ⟨rfl⟩, ⟨rfl⟩, ⟨rfl⟩, jbl rfl (jbl rfl trivial)⟩)
theorem jt2 (L : List Fg) (W : List ByteArray) (h : jef 0 L W) : jce jhn (jdW W 0 L) (jfP W 0 L) :=
 Eq.mp (by kernel_rfl : jef 0 L W = _) h
theorem jt3 (L : List Fg) (W : List ByteArray) (h : jef 1 L W) : jce jhn (jdW W 1 L) (jfP W 1 L) :=
 Eq.mp (by kernel_rfl : jef 1 L W = _) h
theorem jt4 (L : List Fg) (W : List ByteArray) (h : jef 2 L W) : jce jhn (jdW W 2 L) (jfP W 2 L) :=
 Eq.mp (by kernel_rfl : jef 2 L W = _) h
theorem jt5 (L : List Fg) (W : List ByteArray) (h : jef 3 L W) : jce jhn (jdW W 3 L) (jfP W 3 L) :=
 Eq.mp (by kernel_rfl : jef 3 L W = _) h
theorem jt6 (L : List Fg) (W : List ByteArray) (h : jef 4 L W) : jce jhn (jdW W 4 L) (jfP W 4 L) :=
 Eq.mp (by kernel_rfl : jef 4 L W = _) h
theorem jt7 (L : List Fg) (W : List ByteArray) (h : jef 5 L W) : jce jhn (jdW W 5 L) (jfP W 5 L) :=
 Eq.mp (by kernel_rfl : jef 5 L W = _) h
theorem juD {i : Nat} (hi : i < 6) (L : List Fg) (W : List ByteArray) : jce jhn (jdW W i L) (jfP W i L) := by
 have h := jry hi L W
 have hc : i = 0 ∨ i = 1 ∨ i = 2 ∨ i = 3 ∨ i = 4 ∨ i = 5 := by omega
 rcases hc with rfl | rfl | rfl | rfl | rfl | rfl
 ·exact jt2 L W h
 ·exact jt3 L W h
 ·exact jt4 L W h
 ·exact jt5 L W h
 ·exact jt6 L W h
 ·exact jt7 L W h
theorem jt8 (s : ByteArray) (h : ok (jc8 s 32)) : jce (jgo 4 prB) ⟨[(0, .w (.c (.d (.s s))))], [], 0⟩ (fun e st => match e with | .normal => jce prR4 st (fun e st' => match e with | .normal => Le 0 st' (jfw (val (jc8 s 32)) 0 ([], 0)) | _ => False) | _ => False) := by
 refine Eq.mp (by kernel_rfl : (Ob (ok (jc8 s 32)) ∧ Ob ((0 : Int) = ((0 : Nat) : Int)) ∧ Ob ((0 : Int) = ((0 : Nat) : Int)) ∧ Ob ((0 : Nat) = 0) ∧ Ob ((0 : Int) = 0) ∧ Ob ((0 : Nat) = 0) ∧ Ob (val (jc8 s 32) = val (jc8 s 32)) ∧ CE [] [] (CE [] [] True)) = _) ?_
 exact ⟨⟨h⟩, ⟨rfl⟩, ⟨rfl⟩, ⟨rfl⟩, ⟨rfl⟩, ⟨rfl⟩, ⟨rfl⟩, jbl rfl (jbl rfl trivial)⟩
theorem jt9 (W : List ByteArray) (d : Dr) : jce prL (jfw W 6 d) (fun e st' => match e with | .exit j => j = 0 ∧ Le 0 st' (jqv W d) | _ => False) := by
 refine Eq.mp (by kernel_rfl : ((0 : Nat) = 0 ∧ Ob ((d.2 : Int) = (d.2 : Int)) ∧ Ob ((0 : Nat) = 0) ∧ Ob ((0 : Int) = 0) ∧ Ob ((0 : Nat) = 0) ∧ Ob (W = W) ∧ CE d.1 d.1 (CE [] [] True)) = _) ?_
 exact ⟨rfl, ⟨rfl⟩, ⟨rfl⟩, ⟨rfl⟩, ⟨rfl⟩, ⟨rfl⟩, jbl rfl (jbl rfl trivial)⟩
theorem juE (W : List ByteArray) (d : Dr) : jce prM (jqv W d) (fun e st' => match e with | .normal => d.2 = W.length ∧ jce jqs st' (fun e st' => match e with | .normal => Le 0 st' (jdW W 0 d.1) | _ => False) | .ret => d.2 ≠ W.length ∧ ji2 ([], 7) st' | .exit _ => False) := by
 refine Eq.mp (by kernel_rfl : (Br ((d.2 : Int) != (W.length : Int)) (d.2 ≠ W.length ∧ Ob True ∧ Ob True ∧ CE [] [] (Ob ((7 : Int) = 7) ∧ True)) (d.2 = W.length ∧ Ob ((0 : Int) = ((0 : Nat) : Int)) ∧ Ob ((0 : Nat) = 0) ∧ Ob ((0 : Int) = 0) ∧ Ob ((0 : Nat) = 0) ∧ Ob (W = W) ∧ CE d.1 d.1 (CE [] [] True))) = _) ?_
 refine jdU (fun h => ⟨fun e => by rw [e] at h; simp at h, ⟨trivial⟩, ⟨trivial⟩, jbl rfl ⟨⟨rfl⟩, trivial⟩⟩) (fun h => ⟨by simp at h; omega, ⟨rfl⟩, ⟨rfl⟩, ⟨rfl⟩, ⟨rfl⟩, ⟨rfl⟩, jbl rfl (jbl rfl trivial)⟩)
theorem js7 (W : List ByteArray) (L : List Fg) : jce jhn (jdW W 6 L) (fun e st' => match e with | .exit j => j = 2 ∧ Le 0 st' (joi W L) | _ => False) := by
 refine Eq.mp (by kernel_rfl : ((2 : Nat) = 2 ∧ Ob ((0 : Nat) = 0) ∧ Ob ((0 : Int) = 0) ∧ Ob ((0 : Nat) = 0) ∧ Ob (W = W) ∧ CE L L (CE [] [] True)) = _) ?_
 exact ⟨rfl, ⟨rfl⟩, ⟨rfl⟩, ⟨rfl⟩, ⟨rfl⟩, jbl rfl (jbl rfl trivial)⟩
theorem juF (W : List ByteArray) (L : List Fg) : jce prE (joi W L) (fun e st' => match e with | .ret => ji2 (L, 0) st' | _ => False) := by
 refine Eq.mp (by kernel_rfl : (Ob True ∧ Ob True ∧ CE L L (Ob ((0 : Int) = 0) ∧ True)) = _) ?_
 exact ⟨⟨trivial⟩, ⟨trivial⟩, jbl rfl ⟨⟨rfl⟩, trivial⟩⟩
end Go.Sh
end

section
namespace Go.Sh
open Go Go.Proofs Go.RowKit Go.Sx Go.Sx06 Go.Lib
theorem jkf (c : UInt8) : ∀ (l pre : List UInt8), (jaT c pre l).length ≤ l.length + 1
 | [], pre => by simp [jaT]
 | y :: r, pre => by
  unfold jaT
  split
  ·have := jkf c r []
   simp
   omega
  ·have := jkf c r (pre ++ [y])
   simp
   omega
theorem jrz {W V : List ByteArray} {x : Fg} (h : pf1 W = some (x, V)) : V = W.drop (if x.1 = true then 2 else 1) ∧ (if x.1 = true then 2 else 1) ≤ W.length := by
 unfold pf1 at h
 split at h
 ·rename_i hc
  cases h
  refine ⟨rfl, ?_⟩
  have : 0 < W.length := List.length_pos_iff.2 hc.2
  exact this
 ·split at h
  ·cases h
  ·rename_i h2
   split at h
   ·cases h
    refine ⟨rfl, ?_⟩
    simp
    omega
   ·cases h
def joj (W0 : List ByteArray) (i : Nat) (d : Dr) : Prop := pfS i W0 = some (d.1, W0.drop d.2) ∧ d.1.length = i ∧ d.2 ≤ W0.length
theorem juG {W0 : List ByteArray} {d : Dr} (hs : (pf1 (W0.drop d.2)).isSome = true) (hk : d.2 ≤ W0.length) : nx1 (d.1, W0.drop d.2) = ((nxR W0 d).1, W0.drop (nxR W0 d).2) ∧ (nxR W0 d).1.length = d.1.length + 1 ∧ (nxR W0 d).2 ≤ W0.length := by
 obtain ⟨⟨x, V⟩, hx⟩ := Option.isSome_iff_exists.1 hs
 obtain ⟨h1, h2⟩ := jrz hx
 rw [List.length_drop] at h2
 have e : nxR W0 d = (d.1 ++ [x], if x.1 = true then d.2 + 2 else d.2 + 1) := by
  unfold nxR
  rw [hx]
 have e2 : nx1 (d.1, W0.drop d.2) = (d.1 ++ [x], V) := by
  show (match pf1 (W0.drop d.2) with | some (x, W) => (d.1 ++ [x], W) | none => _) = _
  rw [hx]
 rw [e, e2, h1]
 cases hb : x.1 with
 | true =>
  rw [hb] at h2
  simp only [if_true] at h2 ⊢
  refine ⟨by rw [List.drop_drop], by simp, by omega⟩
 | false =>
  rw [hb] at h2
  simp only [Bool.false_eq_true, if_false] at h2 ⊢
  refine ⟨by rw [List.drop_drop], by simp, by omega⟩
theorem jrA {W0 : List ByteArray} {i : Nat} {d : Dr} (h : joj W0 i d) (hs : (pf1 (W0.drop d.2)).isSome = true) : joj W0 (i + 1) (nxR W0 d) := by
 obtain ⟨h1, h2, h3⟩ := juG hs h.2.2
 refine ⟨?_, by rw [h2, h.2.1], h3⟩
 show (pfS i W0).bind _ = _
 rw [h.1]
 show (if (pf1 (W0.drop d.2)).isSome = true then some (nx1 (d.1, W0.drop d.2)) else none) = _
 rw [if_pos hs, h1]
theorem jrB {W0 : List ByteArray} {i : Nat} {d : Dr} (hi : i < 6) (h : joj W0 i d) (hs : pf1 (W0.drop d.2) = none) : pfR W0 = ([], 7) := by
 have h1 : pfS (i + 1) W0 = none := by
  show (pfS i W0).bind _ = _
  rw [h.1]
  show (if (pf1 (W0.drop d.2)).isSome = true then some (nx1 (d.1, W0.drop d.2)) else none) = _
  rw [hs]
  rfl
 have h6 : pfS 6 W0 = none := by
  have := jke (j := 5 - i) h1
  rw [show i + 1 + (5 - i) = 6 by omega] at this
  exact this
 unfold pfR
 rw [h6]
theorem jua {W0 : List ByteArray} {i : Nat} {d : Dr} (hW : W0.length ≤ 1000000) (hw : ∀ k, (W0.getD k ByteArray.empty).size ≤ 1000000) (hi : i < 6) (h : joj W0 i d) : jce prL (jfw W0 i d) (jiB W0 i d) := by
 obtain ⟨L, k⟩ := d
 have hl : L.length = i := h.2.1
 have hp := jqy (L := L) (n := nxR W0 (L, k)) hi h.2.2 hW rfl hw
 have hc : i = 0 ∨ i = 1 ∨ i = 2 ∨ i = 3 ∨ i = 4 ∨ i = 5 := by omega
 rcases hc with rfl | rfl | rfl | rfl | rfl | rfl
 ·obtain rfl := List.eq_nil_of_length_eq_zero hl
  exact js1 k W0 hp
 ·obtain ⟨x0, rfl⟩ : ∃ x0, L = [x0] := by
   match L, hl with
   | [x0], _ => exact ⟨x0, rfl⟩
  exact js2 x0 k W0 hp
 ·obtain ⟨x0, x1, rfl⟩ : ∃ x0 x1, L = [x0, x1] := by
   match L, hl with
   | [x0, x1], _ => exact ⟨x0, x1, rfl⟩
  exact js3 x0 x1 k W0 hp
 ·obtain ⟨x0, x1, x2, rfl⟩ : ∃ x0 x1 x2, L = [x0, x1, x2] := by
   match L, hl with
   | [x0, x1, x2], _ => exact ⟨x0, x1, x2, rfl⟩
  exact js4 x0 x1 x2 k W0 hp
 ·obtain ⟨x0, x1, x2, x3, rfl⟩ : ∃ x0 x1 x2 x3, L = [x0, x1, x2, x3] := by
   match L, hl with
   | [x0, x1, x2, x3], _ => exact ⟨x0, x1, x2, x3, rfl⟩
  exact js5 x0 x1 x2 x3 k W0 hp
 ·obtain ⟨x0, x1, x2, x3, x4, rfl⟩ : ∃ x0 x1 x2 x3 x4, L = [x0, x1, x2, x3, x4] := by
   match L, hl with
   | [x0, x1, x2, x3, x4], _ => exact ⟨x0, x1, x2, x3, x4, rfl⟩
  exact js6 x0 x1 x2 x3 x4 k W0 hp
theorem joY (s : ByteArray) (hs : s.size ≤ 100000) : (∀ k, (((jaT 32 [] s.data.toList).map mkB).getD k ByteArray.empty).size ≤ 1000000) ∧ ((jaT 32 [] s.data.toList).map mkB).length ≤ 1000000 := by
 have h2 := size_eq s
 refine ⟨fun k => ?_, ?_⟩
 ·by_cases hk : k < ((jaT 32 [] s.data.toList).map mkB).length
  ·rw [List.getD_eq_getElem?_getD, List.getElem?_eq_getElem hk]
   obtain ⟨x, hx, he⟩ := List.mem_map.1 (List.getElem_mem hk)
   show (((jaT 32 [] s.data.toList).map mkB)[k]).size ≤ _
   rw [← he, jbS]
   have h1 := jhm 32 s.data.toList [] x hx
   simp only [List.length_nil, Nat.zero_add] at h1
   omega
  ·rw [List.getD_eq_getElem?_getD, List.getElem?_eq_none (by omega)]
   exact Nat.zero_le _
 ·rw [List.length_map]
  have := jkf 32 s.data.toList []
  omega
theorem js8 (s : ByteArray) (hs : s.size ≤ 100000) {B : Bd} (ρ0 : Env) (w : World) (hh : HRel ρ0 B [] 0 w) (hB : Old B w) :
  Calls Tryz.prog 64 #[.string s] w (EndR ρ0 B 0 w fun v hp _ => jf6 0 (rsF (pfR ((jaT 32 [] s.data.toList).map mkB))) v hp) := by
 have hsp : jc8 s 32 = some ((jaT 32 [] s.data.toList).map mkB) := jtV s 32 (by omega)
 have hv : val (jc8 s 32) = (jaT 32 [] s.data.toList).map mkB := by rw [hsp]; rfl
 obtain ⟨hsmall, hlen⟩ := joY s hs
 generalize hW : (jaT 32 [] s.data.toList).map mkB = W0 at *
 refine calls_of_wp (c := prB) Tryz.func64 (by kernel_rfl) ?_
 have jdH := jfG (n0 := 0) (N := 95) (args := [.w (.c (.d (.s s)))]) (Nat.le_of_ble_eq_true rfl) (fun x hx => by simp only [List.mem_singleton] at hx; subst hx; trivial) (Nat.le_refl _) ρ0 w hh hB
 refine jiV jbE (jbs mixed jbE) (cur := 0) (gs := []) 4 prB _ ρ0 _ w (by kernel_rfl) (jt8 s (by rw [hsp]; rfl)) jdH (jai.refl _ _) (Bel.refl _ _) ?_ ?_
 ·intro ρ1 st1 a1 w1 hk1 hr1 hag1 hbl1
  have hT : jgp 4 prB = .seq (.seq prR4 (.block 0 (.loop prL))) (.seq prM (.seq (.seq jqs (.block 2 (.loop jhn))) prE)) := by kernel_rfl
  rw [hT]
  refine wp_seq (wp_seq (wp_mono (ja7 jbE (jbs mixed jbE) prR4 0 [] st1 _ ρ1 a1 w1 hk1 hr1 hag1 hbl1) ?_))
  rintro x a2 w2 ⟨ex, ρ2, st2, rfl, hle, hr2, hag2, hbl2⟩
  cases ex with
  | normal =>
   obtain ⟨ρ3, hr3, hag3⟩ := Le.rel hle hr2
   rw [hv] at hr3
   refine jnI (ti := 7) jbE (jbs mixed jbE) 6 (fun i d => jfw W0 i d) (joj W0) (fun st => pfR W0 = ([], 7) ∧ ji2 ([], 7) st) (jqv W0) (jiB W0) (fun i d => rfl)
    (fun i d hi h => jua hlen hsmall hi h) (fun i d st' hi h hk => ⟨nxR W0 d, jrA h hk.1, hk.2⟩) (fun i d st' hi h hk => ⟨jrB hi h hk.1, hk.2⟩) (fun i d j st' hk => hk) (fun d _ => jt9 W0 d)
    ([], 0) ⟨rfl, rfl, Nat.zero_le _⟩ hr3 (fun x hx => (hag3 x hx).trans (hag2 x hx)) hbl2 ?_ ?_
   ·rintro ρ4 st4 a4 w4 ⟨h7, hk4⟩ hr4 hag4 hbl4
    show bodyPost _ _ _ .ret a4 w4
    rw [h7]
    exact je2 hr4 hag4 hbl4 hk4
   ·intro ρ4 d a4 w4 hd hr4 hag4 hbl4
    have hr : pfR W0 = if W0.drop d.2 ≠ [] then ([], 7) else if jft d.1 = true then ([], 9) else (d.1, 0) := by
     unfold pfR
     rw [hd.1]
    have hdl : (W0.drop d.2).length = W0.length - d.2 := List.length_drop
    refine wp_seq (wp_mono (ja7 jbE (jbs mixed jbE) prM 0 [] _ _ ρ4 a4 w4 (juE W0 d) hr4 hag4 hbl4) ?_)
    rintro e a5 w5 ⟨ex, ρ5, st5, rfl, hk5, hr5, hag5, hbl5⟩
    cases ex with
    | normal =>
     obtain ⟨hdk, hk5⟩ := hk5
     have hr' : pfR W0 = if jft d.1 = true then ([], 9) else (d.1, 0) := by
      rw [hr, if_neg]
      rw [hdk, List.drop_length]
      simp
     refine wp_seq (wp_seq (wp_mono (ja7 jbE (jbs mixed jbE) jqs 0 [] st5 _ ρ5 a5 w5 hk5 hr5 hag5 hbl5) ?_))
     rintro x a6 w6 ⟨ex, ρ6, st6, rfl, hle6, hr6, hag6, hbl6⟩
     cases ex with
     | normal =>
      obtain ⟨ρ7, hr7, hag7⟩ := Le.rel hle6 hr6
      have bad : ∀ i, i < 6 → (d.1.getD i zf).2.1 > (d.1.getD i zf).2.2 → jft d.1 = true := fun i hi h => List.any_eq_true.2 ⟨i, List.mem_range.2 hi, decide_eq_true h⟩
      refine jnI (ti := 12) jbE (jbs mixed jbE) 6 (fun i L => jdW W0 i L) (fun i L => L = d.1 ∧ ∀ j, j < i → ¬ (d.1.getD j zf).2.1 > (d.1.getD j zf).2.2) (fun st => pfR W0 = ([], 9) ∧ ji2 ([], 9) st) (joi W0) (jfP W0) (fun i L => rfl)
       (fun i L hi _ => juD hi L W0) (fun i L st' hi h hk => ⟨L, ⟨h.1, fun j hj => by
        by_cases e : j = i
        ·subst e
         rw [← h.1]
         exact hk.1
        ·exact h.2 j (by omega)⟩, hk.2⟩) (fun i L st' hi h hk => ⟨by
        have := hk.1
        rw [h.1] at this
        rw [hr', if_pos (bad i hi this)], hk.2⟩) (fun i d j st' hk => hk) (fun L _ => js7 W0 L)
       d.1 ⟨rfl, fun j hj => absurd hj (by omega)⟩ hr7 (fun x hx => (hag7 x hx).trans (hag6 x hx)) hbl6 ?_ ?_
      ·rintro ρ8 st8 a8 w8 ⟨h9, hk8⟩ hr8 hag8 hbl8
       show bodyPost _ _ _ .ret a8 w8
       rw [h9]
       exact je2 hr8 hag8 hbl8 hk8
      ·rintro ρ8 L a8 w8 ⟨hL, hall⟩ hr8 hag8 hbl8
       subst hL
       have hgood : jft d.1 = false := by
        unfold jft
        refine List.any_eq_false.2 fun j hj => ?_
        have := hall j (List.mem_range.1 hj)
        simpa using this
       have hfin : pfR W0 = (d.1, 0) := by rw [hr', hgood]; rfl
       refine wp_mono (ja7 jbE (jbs mixed jbE) prE 0 [] _ _ ρ8 a8 w8 (juF W0 d.1) hr8 hag8 hbl8) ?_
       rintro e a9 w9 ⟨ex, ρ9, st9, rfl, hk9, hr9, hag9, hbl9⟩
       cases ex with
       | normal => exact hk9.elim
       | exit j => exact hk9.elim
       | ret =>
        rw [hfin]
        exact je2 hr9 hag9 hbl9 hk9
     | exit j => exact hle6.elim
     | ret => exact hle6.elim
    | exit j => exact hk5.elim
    | ret =>
     obtain ⟨hdk, hk5⟩ := hk5
     have h7 : pfR W0 = ([], 7) := by
      rw [hr, if_pos]
      intro e
      rw [e] at hdl
      have := hd.2.2
      simp at hdl
      omega
     show bodyPost _ _ _ .ret a5 w5
     rw [h7]
     exact je2 hr5 hag5 hbl5 hk5
  | exit j => exact hle.elim
  | ret => exact hle.elim
 ·intro ex ρ1 st1 a1 w1 hne hk1 hr1 hag1 hbl1
  cases ex with
  | normal => exact absurd rfl hne
  | exit j => exact hk1.elim
  | ret => exact hk1.elim
def jbc (s : ByteArray) : Option (List Fg × Int) := if s.size ≤ 100000 then some (pfR ((jaT 32 [] s.data.toList).map mkB)) else none
def jaZ (s : ByteArray) : Option (List Fg × Int) := if s.size ≤ 100000 then some (pfR ((jaT 32 [] s.data.toList).map mkB)) else none
def jfx : List SV := [.c (.d)]
def jdo : List Lf → Option GT
 | [.d (.s s)] => some (.leaf (ok (jbc s)) (rsF (val (jbc s))))
 | _ => none
abbrev sp_61 : jaa → jaa := jav 61 true (jap jfx jdo)
theorem jjj : jaf Tryz.prog 61 true (jap jfx jdo) := by
 refine jcL (body := jah Tryz.f61) Tryz.func61 (by kernel_rfl) (by kernel_rfl) ?_
 intro ls t hg ho b hb ρ0 w hlt hh
 unfold jdo at hg
 split at hg
 ·rename_i s
  cases hg
  obtain rfl := jaO hb
  have hk : ok (jbc s) := ho
  unfold jbc at hk
  have hn : s.size ≤ 100000 := by
   by_cases h : s.size ≤ 100000
   ·exact h
   ·rw [if_neg h] at hk; cases hk
  have hv : val (jbc s) = pfR ((jaT 32 [] s.data.toList).map mkB) := by
   unfold jbc
   rw [if_pos hn]
   rfl
  refine (jsX s (by omega) (B := fun k => k < w.heap.size) ρ0 w hh (fun k hk => hk)).mono ?_
  rintro e w' ⟨ρ', v, hp', nx', rfl, h1, h2, h3, h4, h5⟩
  refine ⟨ρ', v, hp', nx', rfl, h1, h2, h3, h4, ?_⟩
  rw [← hv] at h5
  exact h5
 ·cases hg
theorem sp_61_ok {sp : jaa} (h : jab Tryz.prog sp) : jab Tryz.prog (sp_61 sp) := jag jjj h
def jew : List SV := [.c (.d)]
def jcQ : List Lf → Option GT
 | [.d (.s s)] => some (.leaf (ok (jaZ s)) (rsF (val (jaZ s))))
 | _ => none
abbrev sp_64 : jaa → jaa := jav 64 true (jap jew jcQ)
theorem jhI : jaf Tryz.prog 64 true (jap jew jcQ) := by
 refine jcL (body := jah Tryz.f64) Tryz.func64 (by kernel_rfl) (by kernel_rfl) ?_
 intro ls t hg ho b hb ρ0 w hlt hh
 unfold jcQ at hg
 split at hg
 ·rename_i s
  cases hg
  obtain rfl := jaO hb
  have hk : ok (jaZ s) := ho
  unfold jaZ at hk
  have hn : s.size ≤ 100000 := by
   by_cases h : s.size ≤ 100000
   ·exact h
   ·rw [if_neg h] at hk; cases hk
  have hv : val (jaZ s) = pfR ((jaT 32 [] s.data.toList).map mkB) := by
   unfold jaZ
   rw [if_pos hn]
   rfl
  refine (js8 s hn (B := fun k => k < w.heap.size) ρ0 w hh (fun k hk => hk)).mono ?_
  rintro e w' ⟨ρ', v, hp', nx', rfl, h1, h2, h3, h4, h5⟩
  refine ⟨ρ', v, hp', nx', rfl, h1, h2, h3, h4, ?_⟩
  rw [← hv] at h5
  exact h5
 ·cases hg
theorem sp_64_ok {sp : jaa} (h : jab Tryz.prog sp) : jab Tryz.prog (sp_64 sp) := jag jhI h
end Go.Sh
end

section
namespace Go.Sh
open Go Go.Proofs Go.RowKit Go.Sx
open Go.IntKind (wrap)
def jeM : List (Option Cont) := [none]
def y21 (u34 : Bool) (u35 : Bool) (u36 : Bool) (u37 : Bool) (u38 : Bool) (u39 : Bool) (u40 : Int) (u41 : Int) (u42 : Int) (u43 : Int) (u44 : Int) (u45 : Int) (u46 : Int) (u47 : Int) (u48 : Int) (u49 : Int) (u50 : Int) (u51 : Int) (x0 : (Int × List ByteArray)) : Option ((Int × List ByteArray) ⊕ (List ByteArray)) :=
 if x0.1 < 6 then
  if (0 ≤ x0.1 ∧ x0.1 < (↑(6 : Nat) : Int)) ∧ List.getD [true, true, true, true, true, true] (Int.toNat x0.1 * 1) false = true then
  if (!List.getD [u34, u35, u36, u37, u38, u39] (Int.toNat x0.1 * 1) false) = true then
   if (List.length x0.2 + List.length [ByteArray.mk #[(45 : UInt8)]]) * 16 ≤ 140737488355328 ∧ List.length x0.2 + List.length [ByteArray.mk #[(45 : UInt8)]] ≤ 9223372036854775807 then
   some (.inl ((wrap .i64 (x0.1 + 1), x0.2 ++ [ByteArray.mk #[(45 : UInt8)]])))
   else none
  else
   if 0 ≤ x0.1 ∧ x0.1 < (↑(6 : Nat) : Int) then
   if List.getD [false, false, false, false, false, false, true, true, true, true, true, true, true, true, true, true, true, true] (6 + Int.toNat x0.1 * 2 + Field.offset (Field.mk "Lo" (3 : Nat) (0 : Nat) false "" "" (0 : Nat))) false = true then
    Option.bind (strconv_Itoa (List.getD [(0 : Int), 0, 0, 0, 0, 0, u40, u41, u42, u43, u44, u45, u46, u47, u48, u49, u50, u51] (6 + Int.toNat x0.1 * 2 + Field.offset (Field.mk "Lo" (3 : Nat) (0 : Nat) false "" "" (0 : Nat))) (0 : Int))) fun r0 =>
    if 0 ≤ x0.1 ∧ x0.1 < (↑(6 : Nat) : Int) then
    if List.getD [false, false, false, false, false, false, true, true, true, true, true, true, true, true, true, true, true, true] (6 + Int.toNat x0.1 * 2 + Field.offset (Field.mk "Hi" (3 : Nat) (1 : Nat) false "" "" (8 : Nat))) false = true then
     Option.bind (strconv_Itoa (List.getD [(0 : Int), 0, 0, 0, 0, 0, u40, u41, u42, u43, u44, u45, u46, u47, u48, u49, u50, u51] (6 + Int.toNat x0.1 * 2 + Field.offset (Field.mk "Hi" (3 : Nat) (1 : Nat) false "" "" (8 : Nat))) (0 : Int))) fun r1 =>
     if (List.length x0.2 + List.length [r0, r1]) * 16 ≤ 140737488355328 ∧ List.length x0.2 + List.length [r0, r1] ≤ 9223372036854775807 then
     some (.inl ((wrap .i64 (x0.1 + 1), x0.2 ++ [r0, r1])))
     else none
    else none
    else none
   else none
   else none
  else none
 else
  some (.inr x0.2)
def y48 (u9 : List ByteArray) : Option ByteArray :=
 Option.bind (strings_Join u9 (ByteArray.mk #[(32 : UInt8)])) fun r2 =>
 some r2
def y42 (u34 : Bool) (u35 : Bool) (u36 : Bool) (u37 : Bool) (u38 : Bool) (u39 : Bool) (u40 : Int) (u41 : Int) (u42 : Int) (u43 : Int) (u44 : Int) (u45 : Int) (u46 : Int) (u47 : Int) (u48 : Int) (u49 : Int) (u50 : Int) (u51 : Int) : Option ByteArray :=
 Option.bind (jae (y21 u34 u35 u36 u37 u38 u39 u40 u41 u42 u43 u44 u45 u46 u47 u48 u49 u50 u51) big (((0 : Int), []))) (y48)
def y124 : List A → Option (Prop × List RV)
 | [.s [.b u34, .b u35, .b u36, .b u37, .b u38, .b u39, .i .i64 u40, .i .i64 u41, .i .i64 u42, .i .i64 u43, .i .i64 u44, .i .i64 u45, .i .i64 u46, .i .i64 u47, .i .i64 u48, .i .i64 u49, .i .i64 u50, .i .i64 u51]] => some (ok (y42 u34 u35 u36 u37 u38 u39 u40 u41 u42 u43 u44 u45 u46 u47 u48 u49 u50 u51), [.d (.s ((val (y42 u34 u35 u36 u37 u38 u39 u40 u41 u42 u43 u44 u45 u46 u47 u48 u49 u50 u51))))])
 | _ => none
abbrev sp_62 : jaa → jaa := jav 62 true (jaq jeM y124)
abbrev jlm (v0 : (Int × List ByteArray) × Nat) := (6 + Int.toNat v0.1.1 * 2 + Field.offset (Field.mk "Lo" (3 : Nat) (0 : Nat) false "" "" (0 : Nat)))
abbrev jln (v0 : (Int × List ByteArray) × Nat) := (6 + Int.toNat v0.1.1 * 2 + Field.offset (Field.mk "Hi" (3 : Nat) (1 : Nat) false "" "" (8 : Nat)))
theorem jiC (u34 : Bool) (u35 : Bool) (u36 : Bool) (u37 : Bool) (u38 : Bool) (u39 : Bool) (u40 : Int) (u41 : Int) (u42 : Int) (u43 : Int) (u44 : Int) (u45 : Int) (u46 : Int) (u47 : Int) (u48 : Int) (u49 : Int) (u50 : Int) (u51 : Int) (r : ByteArray) (h : Option.bind (y42 u34 u35 u36 u37 u38 u39 u40 u41 u42 u43 u44 u45 u46 u47 u48 u49 u50 u51) some = some r) : ja8 Tryz.f62 ((sp_109 (sp_110 sp0))) (fun gs id _ => match id with
 | 0 => some ⟨(Int × List ByteArray) × Nat, fun z => ⟨[(1, .w (.c (.p 1 0 1 0))), (3, .w (.c (.o 2))), (7, .w (.a [.d (.b u34), .d (.b u35), .d (.b u36), .d (.b u37), .d (.b u38), .d (.b u39)])), (8, .w (.c (.d (.i .i64 (Prod.fst (Prod.fst z))))))], [(1, .box 95 [.d (.b u34), .d (.b u35), .d (.b u36), .d (.b u37), .d (.b u38), .d (.b u39), .d (.i .i64 u40), .d (.i .i64 u41), .d (.i .i64 u42), .d (.i .i64 u43), .d (.i .i64 u44), .d (.i .i64 u45), .d (.i .i64 u46), .d (.i .i64 u47), .d (.i .i64 u48), .d (.i .i64 u49), .d (.i .i64 u50), .d (.i .i64 u51)]), (2, .row 9 (.strs (Prod.snd (Prod.fst z))))], 3⟩, fun z => Option.bind (jae (y21 u34 u35 u36 u37 u38 u39 u40 u41 u42 u43 u44 u45 u46 u47 u48 u49 u50 u51) (Prod.snd z) (Prod.fst z)) (fun y0 => Option.bind (y48 y0) some) = some r, fun z => Prod.snd z⟩
 | _ => none) [.s [.b u34, .b u35, .b u36, .b u37, .b u38, .b u39, .i .i64 u40, .i .i64 u41, .i .i64 u42, .i .i64 u43, .i .i64 u44, .i .i64 u45, .i .i64 u46, .i .i64 u47, .i .i64 u48, .i .i64 u49, .i .i64 u50, .i .i64 u51]] [.d (.s r)] := by
 refine Eq.mp (by kernel_rfl : (
 ((∃ (v0 : (Int × List ByteArray) × Nat), (Ob ((Option.bind (jae (y21 u34 u35 u36 u37 u38 u39 u40 u41 u42 u43 u44 u45 u46 u47 u48 u49 u50 u51) v0.2 v0.1) fun y0 => Option.bind (y48 y0) some) = some r) ∧
 (Ob (0 = 0) ∧
 (Ob (u34 = u34) ∧
 (Ob (u35 = u35) ∧
 (Ob (u36 = u36) ∧
 (Ob (u37 = u37) ∧
 (Ob (u38 = u38) ∧
 (Ob (u39 = u39) ∧
 (Ob ((0 : Int) = v0.1.1) ∧
 (Ob (u34 = u34) ∧
 (Ob (u35 = u35) ∧
 (Ob (u36 = u36) ∧
 (Ob (u37 = u37) ∧
 (Ob (u38 = u38) ∧
 (Ob (u39 = u39) ∧
 (Ob (u40 = u40) ∧
 (Ob (u41 = u41) ∧
 (Ob (u42 = u42) ∧
 (Ob (u43 = u43) ∧
 (Ob (u44 = u44) ∧
 (Ob (u45 = u45) ∧
 (Ob (u46 = u46) ∧
 (Ob (u47 = u47) ∧
 (Ob (u48 = u48) ∧
 (Ob (u49 = u49) ∧
 (Ob (u50 = u50) ∧
 (Ob (u51 = u51) ∧
 (Ob (List.length v0.1.2 = (0 : Nat)) ∧
 True))))))))))))))))))))))))))))) ∧
  (∀ (v0 : (Int × List ByteArray) × Nat), ((Option.bind (jae (y21 u34 u35 u36 u37 u38 u39 u40 u41 u42 u43 u44 u45 u46 u47 u48 u49 u50 u51) v0.2 v0.1) fun y0 => Option.bind (y48 y0) some) = some r →
 Br (decide (v0.1.1 < 6))
  ((Ob ((0 ≤ v0.1.1 ∧ v0.1.1 < (↑(6 : Nat) : Int)) ∧ List.getD [true, true, true, true, true, true] (Int.toNat v0.1.1 * 1) false = true) ∧
 Br (!List.getD [u34, u35, u36, u37, u38, u39] (Int.toNat v0.1.1 * 1) false)
  ((Ob ((List.length v0.1.2 + List.length [ByteArray.mk #[(45 : UInt8)]]) * 16 ≤ 140737488355328 ∧ List.length v0.1.2 + List.length [ByteArray.mk #[(45 : UInt8)]] ≤ 9223372036854775807) ∧
  (∃ (v1 : (Int × List ByteArray) × Nat), (Ob ((Option.bind (jae (y21 u34 u35 u36 u37 u38 u39 u40 u41 u42 u43 u44 u45 u46 u47 u48 u49 u50 u51) v1.2 v1.1) fun y0 => Option.bind (y48 y0) some) = some r) ∧
 (Ob (v1.2 < v0.2) ∧
 (Ob (0 = 0) ∧
 (Ob (u34 = u34) ∧
 (Ob (u35 = u35) ∧
 (Ob (u36 = u36) ∧
 (Ob (u37 = u37) ∧
 (Ob (u38 = u38) ∧
 (Ob (u39 = u39) ∧
 (Ob (wrap .i64 (v0.1.1 + 1) = v1.1.1) ∧
 (Ob (u34 = u34) ∧
 (Ob (u35 = u35) ∧
 (Ob (u36 = u36) ∧
 (Ob (u37 = u37) ∧
 (Ob (u38 = u38) ∧
 (Ob (u39 = u39) ∧
 (Ob (u40 = u40) ∧
 (Ob (u41 = u41) ∧
 (Ob (u42 = u42) ∧
 (Ob (u43 = u43) ∧
 (Ob (u44 = u44) ∧
 (Ob (u45 = u45) ∧
 (Ob (u46 = u46) ∧
 (Ob (u47 = u47) ∧
 (Ob (u48 = u48) ∧
 (Ob (u49 = u49) ∧
 (Ob (u50 = u50) ∧
 (Ob (u51 = u51) ∧
 (Ob (v0.1.2 ++ [ByteArray.mk #[(45 : UInt8)]] = v1.1.2) ∧
 True))))))))))))))))))))))))))))))))
  ((Ob (0 ≤ v0.1.1 ∧ v0.1.1 < (↑(6 : Nat) : Int)) ∧
 (Ob (List.getD [false, false, false, false, false, false, true, true, true, true, true, true, true, true, true, true, true, true] (jlm v0) false = true) ∧
 (Ob (ok (strconv_Itoa (List.getD [(0 : Int), 0, 0, 0, 0, 0, u40, u41, u42, u43, u44, u45, u46, u47, u48, u49, u50, u51] (jlm v0) (0 : Int)))) ∧
 (Ob (0 ≤ v0.1.1 ∧ v0.1.1 < (↑(6 : Nat) : Int)) ∧
 (Ob (List.getD [false, false, false, false, false, false, true, true, true, true, true, true, true, true, true, true, true, true] (jln v0) false = true) ∧
 (Ob (ok (strconv_Itoa (List.getD [(0 : Int), 0, 0, 0, 0, 0, u40, u41, u42, u43, u44, u45, u46, u47, u48, u49, u50, u51] (jln v0) (0 : Int)))) ∧
 (Ob ((List.length v0.1.2 + List.length [val (strconv_Itoa (List.getD [(0 : Int), 0, 0, 0, 0, 0, u40, u41, u42, u43, u44, u45, u46, u47, u48, u49, u50, u51] (jlm v0) (0 : Int))), val (strconv_Itoa (List.getD [(0 : Int), 0, 0, 0, 0, 0, u40, u41, u42, u43, u44, u45, u46, u47, u48, u49, u50, u51] (jln v0) (0 : Int)))]) * 16 ≤ 140737488355328 ∧ List.length v0.1.2 + List.length [val (strconv_Itoa (List.getD [(0 : Int), 0, 0, 0, 0, 0, u40, u41, u42, u43, u44, u45, u46, u47, u48, u49, u50, u51] (jlm v0) (0 : Int))), val (strconv_Itoa (List.getD [(0 : Int), 0, 0, 0, 0, 0, u40, u41, u42, u43, u44, u45, u46, u47, u48, u49, u50, u51] (jln v0) (0 : Int)))] ≤ 9223372036854775807) ∧
  (∃ (v1 : (Int × List ByteArray) × Nat), (Ob ((Option.bind (jae (y21 u34 u35 u36 u37 u38 u39 u40 u41 u42 u43 u44 u45 u46 u47 u48 u49 u50 u51) v1.2 v1.1) fun y0 => Option.bind (y48 y0) some) = some r) ∧
 (Ob (v1.2 < v0.2) ∧
 (Ob (0 = 0) ∧
 (Ob (u34 = u34) ∧
 (Ob (u35 = u35) ∧
 (Ob (u36 = u36) ∧
 (Ob (u37 = u37) ∧
 (Ob (u38 = u38) ∧
 (Ob (u39 = u39) ∧
 (Ob (wrap .i64 (v0.1.1 + 1) = v1.1.1) ∧
 (Ob (u34 = u34) ∧
 (Ob (u35 = u35) ∧
 (Ob (u36 = u36) ∧
 (Ob (u37 = u37) ∧
 (Ob (u38 = u38) ∧
 (Ob (u39 = u39) ∧
 (Ob (u40 = u40) ∧
 (Ob (u41 = u41) ∧
 (Ob (u42 = u42) ∧
 (Ob (u43 = u43) ∧
 (Ob (u44 = u44) ∧
 (Ob (u45 = u45) ∧
 (Ob (u46 = u46) ∧
 (Ob (u47 = u47) ∧
 (Ob (u48 = u48) ∧
 (Ob (u49 = u49) ∧
 (Ob (u50 = u50) ∧
 (Ob (u51 = u51) ∧
 (Ob (v0.1.2 ++ [val (strconv_Itoa (List.getD [(0 : Int), 0, 0, 0, 0, 0, u40, u41, u42, u43, u44, u45, u46, u47, u48, u49, u50, u51] (jlm v0) (0 : Int))), val (strconv_Itoa (List.getD [(0 : Int), 0, 0, 0, 0, 0, u40, u41, u42, u43, u44, u45, u46, u47, u48, u49, u50, u51] (jln v0) (0 : Int)))] = v1.1.2) ∧
 True))))))))))))))))))))))))))))))))))))))))
  ((Ob (ok (strings_Join v0.1.2 (ByteArray.mk #[(32 : UInt8)]))) ∧
 (Ob True ∧
 (Ob (val (strings_Join v0.1.2 (ByteArray.mk #[(32 : UInt8)])) = r) ∧
 True)))))))) = _) ?_
 refine ⟨⟨(((0 : Int), []), big), ⟨jaX h⟩, (by repeat' constructor)⟩, fun z3 hz3 => ?_⟩
 obtain ⟨k3, hm3, h⟩ := jaH hz3
 refine jaC h (fun h => ?_) (fun h => ?_)
 ·refine jaj h fun h => ?_
  refine jaS h (fun h => ?_) (fun h => ?_)
  ·refine jaj h fun h => ?_
   exact ⟨((wrap .i64 ((Prod.fst z3).1 + 1), (Prod.fst z3).2 ++ [ByteArray.mk #[(45 : UInt8)]]), k3), ⟨jaG h⟩, ⟨jaQ hm3.symm⟩, (by repeat' constructor)⟩
  ·refine jaj h fun h => ?_
   refine jaj h fun h => ?_
   refine jaE h fun h => ?_
   refine jaj h fun h => ?_
   refine jaj h fun h => ?_
   refine jaE h fun h => ?_
   refine jaj h fun h => ?_
   exact ⟨((wrap .i64 ((Prod.fst z3).1 + 1), (Prod.fst z3).2 ++ [val (strconv_Itoa (List.getD [(0 : Int), 0, 0, 0, 0, 0, u40, u41, u42, u43, u44, u45, u46, u47, u48, u49, u50, u51] (6 + Int.toNat (Prod.fst z3).1 * 2 + Field.offset (Field.mk "Lo" (3 : Nat) (0 : Nat) false "" "" (0 : Nat))) (0 : Int))), val (strconv_Itoa (List.getD [(0 : Int), 0, 0, 0, 0, 0, u40, u41, u42, u43, u44, u45, u46, u47, u48, u49, u50, u51] (6 + Int.toNat (Prod.fst z3).1 * 2 + Field.offset (Field.mk "Hi" (3 : Nat) (1 : Nat) false "" "" (8 : Nat))) (0 : Int)))]), k3), ⟨jaG h⟩, ⟨jaQ hm3.symm⟩, (by repeat' constructor)⟩
 ·have h := jar h
  refine jaE h fun h => ?_
  refine jac ?_
  exact rcs h
theorem jiD : jaf Tryz.prog 62 true (jaq jeM y124) := by
 refine jaw (sp := (sp_109 (sp_110 sp0))) (fn := Tryz.f62) (body := jah Tryz.f62) mixed (sp_109_ok (sp_110_ok jao)) Tryz.func62 (by kernel_rfl) (by kernel_rfl) fun as_ ob rs h ho => ?_
 unfold y124 at h
 split at h
 ·rename_i u34 u35 u36 u37 u38 u39 u40 u41 u42 u43 u44 u45 u46 u47 u48 u49 u50 u51
  cases h
  exact ⟨Nat.le_of_ble_eq_true rfl, _, _, jiC u34 u35 u36 u37 u38 u39 u40 u41 u42 u43 u44 u45 u46 u47 u48 u49 u50 u51 _ (jan ho)⟩
 ·cases h
theorem sp_62_ok {sp : jaa} (h : jab Tryz.prog sp) : jab Tryz.prog (sp_62 sp) := jag jiD h
end Go.Sh
end

section
namespace Go.Sh
open Go Go.Proofs Go.RowKit Go.Sx
end Go.Sh
end

section
namespace Go.Sh
open Go Go.Proofs Go.RowKit Go.Sx
end Go.Sh
end

section
namespace Go.Sh
open Go Go.Proofs Go.RowKit Go.Sx
end Go.Sh
end

section
namespace Go.Sh
open Go Go.Proofs Go.RowKit Go.Sx
open Go.IntKind (wrap)
def y163 : List (Option Cont) := [none]
def y17 (u34 : Bool) (u35 : Bool) (u36 : Bool) (u37 : Bool) (u38 : Bool) (u39 : Bool) (u40 : Int) (u41 : Int) (u42 : Int) (u43 : Int) (u44 : Int) (u45 : Int) (u46 : Int) (u47 : Int) (u48 : Int) (u49 : Int) (u50 : Int) (u51 : Int) (x0 : (ByteArray × Int)) : Option ((ByteArray × Int) ⊕ ByteArray) :=
 if x0.2 < 6 then
  if 0 ≤ x0.2 ∧ x0.2 < (↑(6 : Nat) : Int) then
  if List.getD [true, true, true, true, true, true, false, false, false, false, false, false, false, false, false, false, false, false] (0 + Int.toNat x0.2 * 1) false = true then
   if (List.getD [u34, u35, u36, u37, u38, u39, false, false, false, false, false, false, false, false, false, false, false, false] (0 + Int.toNat x0.2 * 1) false) = true then
   if (↑(ByteArray.size x0.1 + ByteArray.size (ByteArray.mk #[(32 : UInt8)])) : Int) ≤ 9223372036854775807 then
    if 0 ≤ x0.2 ∧ x0.2 < (↑(6 : Nat) : Int) then
    if List.getD [false, false, false, false, false, false, true, true, true, true, true, true, true, true, true, true, true, true] (6 + Int.toNat x0.2 * 2 + Field.offset (Field.mk "Lo" (3 : Nat) (0 : Nat) false "" "" (0 : Nat))) false = true then
     Option.bind (y20 (List.getD [(0 : Int), 0, 0, 0, 0, 0, u40, u41, u42, u43, u44, u45, u46, u47, u48, u49, u50, u51] (6 + Int.toNat x0.2 * 2 + Field.offset (Field.mk "Lo" (3 : Nat) (0 : Nat) false "" "" (0 : Nat))) (0 : Int))) fun r0 =>
     if (↑(ByteArray.size (x0.1 ++ ByteArray.mk #[(32 : UInt8)]) + ByteArray.size r0) : Int) ≤ 9223372036854775807 then
     if (↑(ByteArray.size (x0.1 ++ ByteArray.mk #[(32 : UInt8)] ++ r0) + ByteArray.size (ByteArray.mk #[(32 : UInt8)])) : Int) ≤ 9223372036854775807 then
      if 0 ≤ x0.2 ∧ x0.2 < (↑(6 : Nat) : Int) then
      if List.getD [false, false, false, false, false, false, true, true, true, true, true, true, true, true, true, true, true, true] (6 + Int.toNat x0.2 * 2 + Field.offset (Field.mk "Hi" (3 : Nat) (1 : Nat) false "" "" (8 : Nat))) false = true then
       Option.bind (y20 (List.getD [(0 : Int), 0, 0, 0, 0, 0, u40, u41, u42, u43, u44, u45, u46, u47, u48, u49, u50, u51] (6 + Int.toNat x0.2 * 2 + Field.offset (Field.mk "Hi" (3 : Nat) (1 : Nat) false "" "" (8 : Nat))) (0 : Int))) fun r1 =>
       if (↑(ByteArray.size (x0.1 ++ ByteArray.mk #[(32 : UInt8)] ++ r0 ++ ByteArray.mk #[(32 : UInt8)]) + ByteArray.size r1) : Int) ≤ 9223372036854775807 then
       some (.inl ((x0.1 ++ ByteArray.mk #[(32 : UInt8)] ++ r0 ++ ByteArray.mk #[(32 : UInt8)] ++ r1, wrap .i64 (x0.2 + 1))))
       else none
      else none
      else none
     else none
     else none
    else none
    else none
   else none
   else
   if (↑(ByteArray.size x0.1 + ByteArray.size (ByteArray.mk #[(32 : UInt8), (45 : UInt8)])) : Int) ≤ 9223372036854775807 then
    some (.inl ((x0.1 ++ ByteArray.mk #[(32 : UInt8), (45 : UInt8)], wrap .i64 (x0.2 + 1))))
   else none
  else none
  else none
 else
  some (.inr x0.1)
def y35 (u9 : ByteArray) : Option ByteArray :=
 if 0 ≤ Option.getD (some (1 : Int)) (0 : Int) ∧ Option.getD (some (1 : Int)) 0 ≤ Option.getD none (↑(ByteArray.size u9) : Int) ∧ Option.getD none (↑(ByteArray.size u9) : Int) ≤ (↑(ByteArray.size u9) : Int) then
  some (ByteArray.extract u9 (1 : Nat) (Int.toNat (Option.getD none (↑(ByteArray.size u9) : Int))))
 else none
def y49 (u34 : Bool) (u35 : Bool) (u36 : Bool) (u37 : Bool) (u38 : Bool) (u39 : Bool) (u40 : Int) (u41 : Int) (u42 : Int) (u43 : Int) (u44 : Int) (u45 : Int) (u46 : Int) (u47 : Int) (u48 : Int) (u49 : Int) (u50 : Int) (u51 : Int) : Option ByteArray :=
 Option.bind (jae (y17 u34 u35 u36 u37 u38 u39 u40 u41 u42 u43 u44 u45 u46 u47 u48 u49 u50 u51) big ((ByteArray.mk #[], 0))) (y35)
def y105 : List A → Option (Prop × List RV)
 | [.s [.b u34, .b u35, .b u36, .b u37, .b u38, .b u39, .i .i64 u40, .i .i64 u41, .i .i64 u42, .i .i64 u43, .i .i64 u44, .i .i64 u45, .i .i64 u46, .i .i64 u47, .i .i64 u48, .i .i64 u49, .i .i64 u50, .i .i64 u51]] => some (ok (y49 u34 u35 u36 u37 u38 u39 u40 u41 u42 u43 u44 u45 u46 u47 u48 u49 u50 u51), [.d (.s ((val (y49 u34 u35 u36 u37 u38 u39 u40 u41 u42 u43 u44 u45 u46 u47 u48 u49 u50 u51))))])
 | _ => none
abbrev sp_65 : jaa → jaa := jav 65 true (jaq y163 y105)
theorem jho (u34 : Bool) (u35 : Bool) (u36 : Bool) (u37 : Bool) (u38 : Bool) (u39 : Bool) (u40 : Int) (u41 : Int) (u42 : Int) (u43 : Int) (u44 : Int) (u45 : Int) (u46 : Int) (u47 : Int) (u48 : Int) (u49 : Int) (u50 : Int) (u51 : Int) (r : ByteArray) (h : Option.bind (y49 u34 u35 u36 u37 u38 u39 u40 u41 u42 u43 u44 u45 u46 u47 u48 u49 u50 u51) some = some r) : ja8 Tryz.f65 ((sp_113 sp0)) (fun gs id _ => match id with
 | 0 => some ⟨(ByteArray × Int) × Nat, fun z => ⟨[(1, .w (.c (.p 1 0 1 0))), (3, .w (.c (.d (.s (Prod.fst (Prod.fst z)))))), (4, .w (.c (.d (.i .i64 (Prod.snd (Prod.fst z))))))], [(1, .box 95 [.d (.b u34), .d (.b u35), .d (.b u36), .d (.b u37), .d (.b u38), .d (.b u39), .d (.i .i64 u40), .d (.i .i64 u41), .d (.i .i64 u42), .d (.i .i64 u43), .d (.i .i64 u44), .d (.i .i64 u45), .d (.i .i64 u46), .d (.i .i64 u47), .d (.i .i64 u48), .d (.i .i64 u49), .d (.i .i64 u50), .d (.i .i64 u51)])], 2⟩, fun z => Option.bind (jae (y17 u34 u35 u36 u37 u38 u39 u40 u41 u42 u43 u44 u45 u46 u47 u48 u49 u50 u51) (Prod.snd z) (Prod.fst z)) (fun y0 => Option.bind (y35 y0) some) = some r, fun z => Prod.snd z⟩
 | _ => none) [.s [.b u34, .b u35, .b u36, .b u37, .b u38, .b u39, .i .i64 u40, .i .i64 u41, .i .i64 u42, .i .i64 u43, .i .i64 u44, .i .i64 u45, .i .i64 u46, .i .i64 u47, .i .i64 u48, .i .i64 u49, .i .i64 u50, .i .i64 u51]] [.d (.s r)] := by
 refine Eq.mp (by kernel_rfl : (
 ((∃ (v0 : (ByteArray × Int) × Nat), (Ob ((Option.bind (jae (y17 u34 u35 u36 u37 u38 u39 u40 u41 u42 u43 u44 u45 u46 u47 u48 u49 u50 u51) v0.2 v0.1) fun y0 => Option.bind (y35 y0) some) = some r) ∧
 (Ob (0 = 0) ∧
 (Ob (ByteArray.mk #[] = v0.1.1) ∧
 (Ob ((0 : Int) = v0.1.2) ∧
 (Ob (u34 = u34) ∧
 (Ob (u35 = u35) ∧
 (Ob (u36 = u36) ∧
 (Ob (u37 = u37) ∧
 (Ob (u38 = u38) ∧
 (Ob (u39 = u39) ∧
 (Ob (u40 = u40) ∧
 (Ob (u41 = u41) ∧
 (Ob (u42 = u42) ∧
 (Ob (u43 = u43) ∧
 (Ob (u44 = u44) ∧
 (Ob (u45 = u45) ∧
 (Ob (u46 = u46) ∧
 (Ob (u47 = u47) ∧
 (Ob (u48 = u48) ∧
 (Ob (u49 = u49) ∧
 (Ob (u50 = u50) ∧
 (Ob (u51 = u51) ∧
 True))))))))))))))))))))))) ∧
  (∀ (v0 : (ByteArray × Int) × Nat), ((Option.bind (jae (y17 u34 u35 u36 u37 u38 u39 u40 u41 u42 u43 u44 u45 u46 u47 u48 u49 u50 u51) v0.2 v0.1) fun y0 => Option.bind (y35 y0) some) = some r →
 Br (decide (v0.1.2 < 6))
  ((Ob (0 ≤ v0.1.2 ∧ v0.1.2 < (↑(6 : Nat) : Int)) ∧
 (Ob (List.getD [true, true, true, true, true, true, false, false, false, false, false, false, false, false, false, false, false, false] (0 + Int.toNat v0.1.2 * 1) false = true) ∧
 Br (List.getD [u34, u35, u36, u37, u38, u39, false, false, false, false, false, false, false, false, false, false, false, false] (0 + Int.toNat v0.1.2 * 1) false)
  ((Ob ((↑(ByteArray.size v0.1.1 + ByteArray.size (ByteArray.mk #[(32 : UInt8)])) : Int) ≤ 9223372036854775807) ∧
 (Ob (0 ≤ v0.1.2 ∧ v0.1.2 < (↑(6 : Nat) : Int)) ∧
 (Ob (List.getD [false, false, false, false, false, false, true, true, true, true, true, true, true, true, true, true, true, true] (6 + Int.toNat v0.1.2 * 2 + Field.offset (Field.mk "Lo" (3 : Nat) (0 : Nat) false "" "" (0 : Nat))) false = true) ∧
 (Ob (ok (y20 (List.getD [(0 : Int), 0, 0, 0, 0, 0, u40, u41, u42, u43, u44, u45, u46, u47, u48, u49, u50, u51] (6 + Int.toNat v0.1.2 * 2 + Field.offset (Field.mk "Lo" (3 : Nat) (0 : Nat) false "" "" (0 : Nat))) (0 : Int)))) ∧
 (Ob ((↑(ByteArray.size (v0.1.1 ++ ByteArray.mk #[(32 : UInt8)]) + ByteArray.size (val (y20 (List.getD [(0 : Int), 0, 0, 0, 0, 0, u40, u41, u42, u43, u44, u45, u46, u47, u48, u49, u50, u51] (6 + Int.toNat v0.1.2 * 2 + Field.offset (Field.mk "Lo" (3 : Nat) (0 : Nat) false "" "" (0 : Nat))) (0 : Int))))) : Int) ≤ 9223372036854775807) ∧
 (Ob ((↑(ByteArray.size (v0.1.1 ++ ByteArray.mk #[(32 : UInt8)] ++ val (y20 (List.getD [(0 : Int), 0, 0, 0, 0, 0, u40, u41, u42, u43, u44, u45, u46, u47, u48, u49, u50, u51] (6 + Int.toNat v0.1.2 * 2 + Field.offset (Field.mk "Lo" (3 : Nat) (0 : Nat) false "" "" (0 : Nat))) (0 : Int)))) + ByteArray.size (ByteArray.mk #[(32 : UInt8)])) : Int) ≤ 9223372036854775807) ∧
 (Ob (0 ≤ v0.1.2 ∧ v0.1.2 < (↑(6 : Nat) : Int)) ∧
 (Ob (List.getD [false, false, false, false, false, false, true, true, true, true, true, true, true, true, true, true, true, true] (6 + Int.toNat v0.1.2 * 2 + Field.offset (Field.mk "Hi" (3 : Nat) (1 : Nat) false "" "" (8 : Nat))) false = true) ∧
 (Ob (ok (y20 (List.getD [(0 : Int), 0, 0, 0, 0, 0, u40, u41, u42, u43, u44, u45, u46, u47, u48, u49, u50, u51] (6 + Int.toNat v0.1.2 * 2 + Field.offset (Field.mk "Hi" (3 : Nat) (1 : Nat) false "" "" (8 : Nat))) (0 : Int)))) ∧
 (Ob ((↑(ByteArray.size (v0.1.1 ++ ByteArray.mk #[(32 : UInt8)] ++ val (y20 (List.getD [(0 : Int), 0, 0, 0, 0, 0, u40, u41, u42, u43, u44, u45, u46, u47, u48, u49, u50, u51] (6 + Int.toNat v0.1.2 * 2 + Field.offset (Field.mk "Lo" (3 : Nat) (0 : Nat) false "" "" (0 : Nat))) (0 : Int))) ++ ByteArray.mk #[(32 : UInt8)]) + ByteArray.size (val (y20 (List.getD [(0 : Int), 0, 0, 0, 0, 0, u40, u41, u42, u43, u44, u45, u46, u47, u48, u49, u50, u51] (6 + Int.toNat v0.1.2 * 2 + Field.offset (Field.mk "Hi" (3 : Nat) (1 : Nat) false "" "" (8 : Nat))) (0 : Int))))) : Int) ≤ 9223372036854775807) ∧
  (∃ (v1 : (ByteArray × Int) × Nat), (Ob ((Option.bind (jae (y17 u34 u35 u36 u37 u38 u39 u40 u41 u42 u43 u44 u45 u46 u47 u48 u49 u50 u51) v1.2 v1.1) fun y0 => Option.bind (y35 y0) some) = some r) ∧
 (Ob (v1.2 < v0.2) ∧
 (Ob (0 = 0) ∧
 (Ob (v0.1.1 ++ ByteArray.mk #[(32 : UInt8)] ++ val (y20 (List.getD [(0 : Int), 0, 0, 0, 0, 0, u40, u41, u42, u43, u44, u45, u46, u47, u48, u49, u50, u51] (6 + Int.toNat v0.1.2 * 2 + Field.offset (Field.mk "Lo" (3 : Nat) (0 : Nat) false "" "" (0 : Nat))) (0 : Int))) ++ ByteArray.mk #[(32 : UInt8)] ++ val (y20 (List.getD [(0 : Int), 0, 0, 0, 0, 0, u40, u41, u42, u43, u44, u45, u46, u47, u48, u49, u50, u51] (6 + Int.toNat v0.1.2 * 2 + Field.offset (Field.mk "Hi" (3 : Nat) (1 : Nat) false "" "" (8 : Nat))) (0 : Int))) = v1.1.1) ∧
 (Ob (wrap .i64 (v0.1.2 + 1) = v1.1.2) ∧
 (Ob (u34 = u34) ∧
 (Ob (u35 = u35) ∧
 (Ob (u36 = u36) ∧
 (Ob (u37 = u37) ∧
 (Ob (u38 = u38) ∧
 (Ob (u39 = u39) ∧
 (Ob (u40 = u40) ∧
 (Ob (u41 = u41) ∧
 (Ob (u42 = u42) ∧
 (Ob (u43 = u43) ∧
 (Ob (u44 = u44) ∧
 (Ob (u45 = u45) ∧
 (Ob (u46 = u46) ∧
 (Ob (u47 = u47) ∧
 (Ob (u48 = u48) ∧
 (Ob (u49 = u49) ∧
 (Ob (u50 = u50) ∧
 (Ob (u51 = u51) ∧
 True)))))))))))))))))))))))))))))))))))
  ((Ob ((↑(ByteArray.size v0.1.1 + ByteArray.size (ByteArray.mk #[(32 : UInt8), (45 : UInt8)])) : Int) ≤ 9223372036854775807) ∧
  (∃ (v1 : (ByteArray × Int) × Nat), (Ob ((Option.bind (jae (y17 u34 u35 u36 u37 u38 u39 u40 u41 u42 u43 u44 u45 u46 u47 u48 u49 u50 u51) v1.2 v1.1) fun y0 => Option.bind (y35 y0) some) = some r) ∧
 (Ob (v1.2 < v0.2) ∧
 (Ob (0 = 0) ∧
 (Ob (v0.1.1 ++ ByteArray.mk #[(32 : UInt8), (45 : UInt8)] = v1.1.1) ∧
 (Ob (wrap .i64 (v0.1.2 + 1) = v1.1.2) ∧
 (Ob (u34 = u34) ∧
 (Ob (u35 = u35) ∧
 (Ob (u36 = u36) ∧
 (Ob (u37 = u37) ∧
 (Ob (u38 = u38) ∧
 (Ob (u39 = u39) ∧
 (Ob (u40 = u40) ∧
 (Ob (u41 = u41) ∧
 (Ob (u42 = u42) ∧
 (Ob (u43 = u43) ∧
 (Ob (u44 = u44) ∧
 (Ob (u45 = u45) ∧
 (Ob (u46 = u46) ∧
 (Ob (u47 = u47) ∧
 (Ob (u48 = u48) ∧
 (Ob (u49 = u49) ∧
 (Ob (u50 = u50) ∧
 (Ob (u51 = u51) ∧
 True)))))))))))))))))))))))))))))
  ((Ob (0 ≤ Option.getD (some (1 : Int)) (0 : Int) ∧ Option.getD (some (1 : Int)) 0 ≤ Option.getD none (↑(ByteArray.size v0.1.1) : Int) ∧ Option.getD none (↑(ByteArray.size v0.1.1) : Int) ≤ (↑(ByteArray.size v0.1.1) : Int)) ∧
 (Ob True ∧
 (Ob (ByteArray.extract v0.1.1 (1 : Nat) (Int.toNat (Option.getD none (↑(ByteArray.size v0.1.1) : Int))) = r) ∧
 True)))))))) = _) ?_
 refine ⟨⟨((ByteArray.mk #[], 0), big), ⟨jaX h⟩, (by repeat' (first | exact trivial | exact ⟨rfl⟩ | refine And.intro ?_ ?_))⟩, fun z2 hz2 => ?_⟩
 obtain ⟨k2, hm2, h⟩ := jaH hz2
 refine jaC h (fun h => ?_) (fun h => ?_)
 ·refine jaj h fun h => ?_
  refine jaj h fun h => ?_
  refine jaS h (fun h => ?_) (fun h => ?_)
  ·refine jaj h fun h => ?_
   refine jaj h fun h => ?_
   refine jaj h fun h => ?_
   refine jaE h fun h => ?_
   refine jaj h fun h => ?_
   refine jaj h fun h => ?_
   refine jaj h fun h => ?_
   refine jaj h fun h => ?_
   refine jaE h fun h => ?_
   refine jaj h fun h => ?_
   exact ⟨(((Prod.fst z2).1 ++ ByteArray.mk #[(32 : UInt8)] ++ val (y20 (List.getD [(0 : Int), 0, 0, 0, 0, 0, u40, u41, u42, u43, u44, u45, u46, u47, u48, u49, u50, u51] (6 + Int.toNat (Prod.fst z2).2 * 2 + Field.offset (Field.mk "Lo" (3 : Nat) (0 : Nat) false "" "" (0 : Nat))) (0 : Int))) ++ ByteArray.mk #[(32 : UInt8)] ++ val (y20 (List.getD [(0 : Int), 0, 0, 0, 0, 0, u40, u41, u42, u43, u44, u45, u46, u47, u48, u49, u50, u51] (6 + Int.toNat (Prod.fst z2).2 * 2 + Field.offset (Field.mk "Hi" (3 : Nat) (1 : Nat) false "" "" (8 : Nat))) (0 : Int))), wrap .i64 ((Prod.fst z2).2 + 1)), k2), ⟨jaG h⟩, ⟨jaQ hm2.symm⟩, (by repeat' (first | exact trivial | exact ⟨rfl⟩ | refine And.intro ?_ ?_))⟩
  ·refine jaj h fun h => ?_
   exact ⟨(((Prod.fst z2).1 ++ ByteArray.mk #[(32 : UInt8), (45 : UInt8)], wrap .i64 ((Prod.fst z2).2 + 1)), k2), ⟨jaG h⟩, ⟨jaQ hm2.symm⟩, (by repeat' (first | exact trivial | exact ⟨rfl⟩ | refine And.intro ?_ ?_))⟩
 ·have h := jar h
  refine jaj h fun h => ?_
  refine jac ?_
  exact jak h (fun e => by subst e; exact (by repeat' (first | exact trivial | exact ⟨rfl⟩ | refine And.intro ?_ ?_)))
theorem jhp : jaf Tryz.prog 65 true (jaq y163 y105) := by
 refine jaw (sp := (sp_113 sp0)) (fn := Tryz.f65) (body := jah Tryz.f65) mixed (sp_113_ok jao) Tryz.func65 (by kernel_rfl) (by kernel_rfl) fun as_ ob rs h ho => ?_
 unfold y105 at h
 split at h
 ·rename_i u34 u35 u36 u37 u38 u39 u40 u41 u42 u43 u44 u45 u46 u47 u48 u49 u50 u51
  cases h
  exact ⟨Nat.le_of_ble_eq_true rfl, _, _, jho u34 u35 u36 u37 u38 u39 u40 u41 u42 u43 u44 u45 u46 u47 u48 u49 u50 u51 _ (jan ho)⟩
 ·cases h
theorem sp_65_ok {sp : jaa} (h : jab Tryz.prog sp) : jab Tryz.prog (sp_65 sp) := jag jhp h
end Go.Sh
end

section
namespace Go.Sh
open Go Go.Proofs Go.RowKit Go.Sx
open Go.IntKind (wrap)
def jeg : List SV := [.a [.d, .r (.floats .f32 []), .d, .d]]
def y38 (u17 : Int) (u18 : List Nat) (u19 : Int) (u20 : Int) : Option (List (List Int) × Int) :=
 if ((val (jal u17 u18 u19 u20)).1 != 0) = true then
  Option.bind (jal u17 u18 u19 u20) fun r0 =>
  if (r0.1 != 0) = true then
  some ([], r0.1)
  else
  none   else
  Option.bind (jal u17 u18 u19 u20) fun r0 =>
  if 0 ≤ (↑(List.length r0.2.1) : Int) ∧ (↑(List.length r0.2.1) : Int) ≤ (↑(List.length r0.2.1) : Int) ∧ (↑(List.length r0.2.1) : Int) ≤ (↑(List.length r0.2.2) : Int) then
  some ((List.take (Int.toNat (↑(List.length r0.2.1) : Int) - 0) (List.drop (0 : Nat) r0.2.2), 0))
  else none
def jeh : List Lf → Option GT
 | [.d (.i .i64 u17), .r (.floats .f32 u18), .d (.i .i64 u19), .d (.i .i64 u20)] => some (.leaf (ok (y38 u17 u18 u19 u20)) [.c (.rrow (.recs 2 ((val (y38 u17 u18 u19 u20)).1))), .c (.d (.i .i64 ((val (y38 u17 u18 u19 u20)).2)))])
 | _ => none
abbrev sp_54 : jaa → jaa := jav 54 true (jap jeg jeh)
theorem jlo (u17 : Int) (u18 : List Nat) (u19 : Int) (u20 : Int) (r : List (List Int) × Int) (h : Option.bind (y38 u17 u18 u19 u20) some = some r) : jbg Tryz.f54 ((sp_67 sp0)) (fun _ _ _ => none) (ja2 jeg [.d (.i .i64 u17), .r (.floats .f32 u18), .d (.i .i64 u19), .d (.i .i64 u20)]) [.c (.rrow (.recs 2 r.1)), .c (.d (.i .i64 r.2))] := by
 refine Eq.mp (by kernel_rfl : (
 Br ((val (jal u17 u18 u19 u20)).1 != 0)
  ((Ob (ok (jal u17 u18 u19 u20)) ∧
 Br ((val (jal u17 u18 u19 u20)).1 != 0)
  ((Ob True ∧
 (Ob True ∧
 (Ob (List.length r.1 = (0 : Nat)) ∧
 (Ob ((val (jal u17 u18 u19 u20)).1 = r.2) ∧
 True)))))
  (False)))
  ((Ob (ok (jal u17 u18 u19 u20)) ∧
 (Ob (0 ≤ (↑(List.length (val (jal u17 u18 u19 u20)).2.1) : Int) ∧ (↑(List.length (val (jal u17 u18 u19 u20)).2.1) : Int) ≤ (↑(List.length (val (jal u17 u18 u19 u20)).2.1) : Int) ∧ (↑(List.length (val (jal u17 u18 u19 u20)).2.1) : Int) ≤ (↑(List.length (val (jal u17 u18 u19 u20)).2.2) : Int)) ∧
 (Ob True ∧
 (Ob True ∧
 (Ob (List.take (Int.toNat (↑(List.length (val (jal u17 u18 u19 u20)).2.1) : Int) - 0) (List.drop (0 : Nat) (val (jal u17 u18 u19 u20)).2.2) = r.1) ∧
 (Ob ((0 : Int) = r.2) ∧
 True)))))))) = _) ?_
 refine jaS h (fun h => ?_) (fun h => ?_)
 ·refine jaE h fun h => ?_
  refine jaS h (fun h => ?_) (fun h => ?_)
  ·refine jac ?_
   refine jac ?_
   exact jak h (fun e => by subst e; exact (by repeat' constructor))
  ·exact nomatch h
 ·refine jaE h fun h => ?_
  refine jaj h fun h => ?_
  refine jac ?_
  refine jac ?_
  exact jak h (fun e => by subst e; exact (by repeat' constructor))
theorem jlp : jaf Tryz.prog 54 true (jap jeg jeh) := by
 refine jaF (sp := (sp_67 sp0)) (fn := Tryz.f54) (body := jah Tryz.f54) mixed (sp_67_ok jao) Tryz.func54 (by kernel_rfl) (by kernel_rfl) fun ls t h ho b hb => ?_
 unfold jeh at h
 split at h
 ·rename_i u17 u18 u19 u20
  cases h
  obtain rfl := jaO hb
  exact ⟨Nat.le_of_ble_eq_true (by kernel_rfl), _, _, jlo u17 u18 u19 u20 _ (jan ho)⟩
 ·cases h
theorem sp_54_ok {sp : jaa} (h : jab Tryz.prog sp) : jab Tryz.prog (sp_54 sp) := jag jlp h
def jkg : List SV := [.a [.d, .r (.floats .f32 [])]]
def jex (r0 : List (List Int) × Int) (x0 : (Int × List Int)) : Option ((Int × List Int) ⊕ (List Int)) :=
 if x0.1 < (↑(List.length r0.1) : Int) then
  if 0 ≤ x0.1 ∧ x0.1 < (↑(List.length r0.1) : Int) then
  if Int.toNat x0.1 < List.length r0.1 then
   if (List.length x0.2 + List.length [List.getD (List.getD r0.1 (Int.toNat x0.1) []) 0 (0 : Int)]) * 8 ≤ 140737488355328 ∧ List.length x0.2 + List.length [List.getD (List.getD r0.1 (Int.toNat x0.1) []) 0 (0 : Int)] ≤ 9223372036854775807 then
   some (.inl ((wrap .i64 (x0.1 + 1), x0.2 ++ [List.getD (List.getD r0.1 (Int.toNat x0.1) []) 0 (0 : Int)])))
   else none
  else none
  else none
 else
  some (.inr x0.2)
def jey (r0 : List (List Int) × Int) (u9 : List Int) : Option (List Int × Int) :=
 some (u9, r0.2)
def jgy (u22 : Int) (u21 : List Nat) : Option (List Int × Int) :=
 Option.bind (y38 u22 u21 (0 : Int) (0 : Int)) fun r0 =>
 Option.bind (jae (jex r0) big (((0 : Int), []))) (jey r0)
def jkh : List Lf → Option GT
 | [.d (.i .i64 u22), .r (.floats .f32 u21)] => some (.leaf (ok (jgy u22 u21)) [.c (.row 3 (.ints .i64 ((val (jgy u22 u21)).1))), .c (.d (.i .i64 ((val (jgy u22 u21)).2)))])
 | _ => none
abbrev sp_53 : jaa → jaa := jav 53 true (jap jkg jkh)
abbrev jbJ (u22 : Int) (u21 : List Nat) := (val (y38 u22 u21 (0 : Int) (0 : Int)))
theorem jrC (u22 : Int) (u21 : List Nat) (r : List Int × Int) (h : Option.bind (jgy u22 u21) some = some r) : jbg Tryz.f53 ((sp_54 sp0)) (fun gs id _ => match id with
 | 0 => some ⟨(Int × List Int) × Nat, fun z => ⟨[(5, .w (.c (.d (.i .i64 ((val (y38 u22 u21 (0 : Int) (0 : Int))).2))))), (6, .w (.c (.o 1))), (15, .w (.c (.o 2))), (16, .w (.c (.d (.i .i64 ((↑(List.length (val (y38 u22 u21 (0 : Int) (0 : Int))).1) : Int)))))), (17, .w (.c (.d (.i .i64 (Prod.fst (Prod.fst z))))))], [(1, .row 3 (.ints .i64 (Prod.snd (Prod.fst z)))), (2, .rrow (.recs 2 ((val (y38 u22 u21 (0 : Int) (0 : Int))).1)))], 3⟩, fun z => Option.bind (jae (jex (val (y38 u22 u21 (0 : Int) (0 : Int)))) (Prod.snd z) (Prod.fst z)) (fun y0 => Option.bind (jey (val (y38 u22 u21 (0 : Int) (0 : Int))) y0) some) = some r, fun z => Prod.snd z⟩
 | _ => none) (ja2 jkg [.d (.i .i64 u22), .r (.floats .f32 u21)]) [.c (.row 3 (.ints .i64 r.1)), .c (.d (.i .i64 r.2))] := by
 refine Eq.mp (by kernel_rfl : (
 (Ob (ok (y38 u22 u21 (0 : Int) (0 : Int))) ∧
  ((∃ (v0 : (Int × List Int) × Nat), (Ob ((Option.bind (jae (jex (jbJ u22 u21)) v0.2 v0.1) fun y0 => Option.bind (jey (jbJ u22 u21) y0) some) = some r) ∧
 (Ob ((jbJ u22 u21).2 = (jbJ u22 u21).2) ∧
 (Ob ((↑(List.length (jbJ u22 u21).1) : Int) = (↑(List.length (jbJ u22 u21).1) : Int)) ∧
 (Ob ((0 : Int) = v0.1.1) ∧
 (Ob (List.length v0.1.2 = (0 : Nat)) ∧
 (Ob ((jbJ u22 u21).1 = (jbJ u22 u21).1) ∧
 True))))))) ∧
  (∀ (v0 : (Int × List Int) × Nat), ((Option.bind (jae (jex (jbJ u22 u21)) v0.2 v0.1) fun y0 => Option.bind (jey (jbJ u22 u21) y0) some) = some r →
 Br (decide (v0.1.1 < (↑(List.length (jbJ u22 u21).1) : Int)))
  ((Ob (0 ≤ v0.1.1 ∧ v0.1.1 < (↑(List.length (jbJ u22 u21).1) : Int)) ∧
 (Ob (Int.toNat v0.1.1 < List.length (jbJ u22 u21).1) ∧
 (Ob ((List.length v0.1.2 + List.length [List.getD (List.getD (jbJ u22 u21).1 (Int.toNat v0.1.1) []) 0 (0 : Int)]) * 8 ≤ 140737488355328 ∧ List.length v0.1.2 + List.length [List.getD (List.getD (jbJ u22 u21).1 (Int.toNat v0.1.1) []) 0 (0 : Int)] ≤ 9223372036854775807) ∧
  (∃ (v1 : (Int × List Int) × Nat), (Ob ((Option.bind (jae (jex (jbJ u22 u21)) v1.2 v1.1) fun y0 => Option.bind (jey (jbJ u22 u21) y0) some) = some r) ∧
 (Ob (v1.2 < v0.2) ∧
 (Ob ((jbJ u22 u21).2 = (jbJ u22 u21).2) ∧
 (Ob ((↑(List.length (jbJ u22 u21).1) : Int) = (↑(List.length (jbJ u22 u21).1) : Int)) ∧
 (Ob (wrap .i64 (v0.1.1 + 1) = v1.1.1) ∧
 (Ob (v0.1.2 ++ [List.getD (List.getD (jbJ u22 u21).1 (Int.toNat v0.1.1) []) 0 (0 : Int)] = v1.1.2) ∧
 (Ob ((jbJ u22 u21).1 = (jbJ u22 u21).1) ∧
 True))))))))))))
  ((Ob True ∧
 (Ob True ∧
 (Ob (v0.1.2 = r.1) ∧
 (Ob ((jbJ u22 u21).2 = r.2) ∧
 True)))))))))) = _) ?_
 refine jaE h fun h => ?_
 refine ⟨⟨(((0 : Int), []), big), ⟨jaX h⟩, (by repeat' constructor)⟩, fun z1 hz1 => ?_⟩
 obtain ⟨k1, hm1, h⟩ := jaH hz1
 refine jaC h (fun h => ?_) (fun h => ?_)
 ·refine jaj h fun h => ?_
  refine jaj h fun h => ?_
  refine jaj h fun h => ?_
  exact ⟨(_, k1), ⟨jaG h⟩, ⟨jaQ hm1.symm⟩, (by repeat' constructor)⟩
 ·have h := jar h
  refine jac ?_
  refine jac ?_
  exact jak h (fun e => by subst e; exact (by repeat' constructor))
theorem jrD : jaf Tryz.prog 53 true (jap jkg jkh) := by
 refine jaF (sp := (sp_54 sp0)) (fn := Tryz.f53) (body := jah Tryz.f53) mixed (sp_54_ok jao) Tryz.func53 (by kernel_rfl) (by kernel_rfl) fun ls t h ho b hb => ?_
 unfold jkh at h
 split at h
 ·rename_i u22 u21
  cases h
  obtain rfl := jaO hb
  exact ⟨Nat.le_of_ble_eq_true (by kernel_rfl), _, _, jrC u22 u21 _ (jan ho)⟩
 ·cases h
theorem sp_53_ok {sp : jaa} (h : jab Tryz.prog sp) : jab Tryz.prog (sp_53 sp) := jag jrD h
end Go.Sh
end
