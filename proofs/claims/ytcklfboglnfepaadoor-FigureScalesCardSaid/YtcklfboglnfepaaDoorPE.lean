/- Part 5 of the proof of FigureScalesCard: the executor, the mirrors of the functions, the plain facts. -/
import Derived.Test.YtcklfboglnfepaaDoorPD
set_option linter.unusedSectionVars false
set_option linter.unusedSimpArgs false
set_option linter.unusedVariables false
section
namespace Go.Sh
open Go Go.Proofs Go.RowKit Go.Sx Go.Sx06 Ieee Go.Fl
def seg (zs : List (List Int)) (a b : Nat) : List (List Int) := (zs.drop a).take (b - a)
theorem seg_ok {zs : List (List Int)} (h : ∀ r ∈ zs, okZ r) (a b : Nat) : ∀ r ∈ seg zs a b, okZ r := fun r hr => h r (List.mem_of_mem_drop (List.mem_of_mem_take hr))
theorem take_snoc {L : List (List Int)} {i : Nat} (hi : i < L.length) : L.take (i + 1) = L.take i ++ [L.getD i []] := by
  rw [List.take_succ_eq_append_getElem hi]
  simp [List.getD, hi]
theorem sLo_snoc (a : List (List Int)) (r : List Int) : sLo (a ++ [r]) = sLo a + r.getD 0 0 := by rw [sLo_append]; simp [sLo]
theorem sHi_snoc (a : List (List Int)) (r : List Int) : sHi (a ++ [r]) = sHi a + r.getD 1 0 := by rw [sHi_append]; simp [sHi]
theorem energyG_eq {zs ss : List (List Int)} {rate noise tail : Int} {l : List Nat} {a b : Nat} (hz : ∀ r ∈ zs, okZ r) (hl : zs.length ≤ 1024) (hab : a ≤ b) (hb : b ≤ zs.length) :
    y56 rate l noise tail zs ss (a : Int) (b : Int) = some (sLo (seg zs a b), sHi (seg zs a b)) := by
  unfold y56
  simp only [Option.getD_some]
  rw [if_pos (by omega)]
  have hsl : (seg zs a b).length = b - a := by unfold seg; simp; omega
  have hok := seg_ok hz a b
  have hit : iter (y41 zs (a : Int) (b : Int)) big (0, 0, 0) = some (sLo (seg zs a b), sHi (seg zs a b)) := by
    have h := iter_upto (body := y41 zs (a : Int) (b : Int)) (fun i => ((i : Int), sLo ((seg zs a b).take i), sHi ((seg zs a b).take i))) (k := (seg zs a b).length) (y := (sLo (seg zs a b), sHi (seg zs a b)))
      (fun i hi => by
        have hr := s_range (zs := (seg zs a b).take i) fun r hr => hok r (List.mem_of_mem_take hr)
        have hlen : (((seg zs a b).take i).length : Int) ≤ 1024 := by rw [List.length_take]; omega
        have ho := hok ((seg zs a b).getD i []) (by simp [List.getD, hi])
        unfold okZ at ho
        unfold y41 G_plus
        simp only [Option.getD_some, Int.toNat_natCast]
        change (if (i : Int) < ((seg zs a b).length : Int) then _ else _) = _
        rw [if_pos (by omega), if_pos (by show (0 : Int) ≤ i ∧ (i : Int) < ((seg zs a b).length : Int); omega), if_pos (by exact hi), bind_some', take_snoc hi, sLo_snoc, sHi_snoc]
        change some (Sum.inl (IntKind.wrap .i64 ((i : Int) + 1), IntKind.wrap .i64 (sLo ((seg zs a b).take i) + ((seg zs a b).getD i []).getD 0 0), IntKind.wrap .i64 (sHi ((seg zs a b).take i) + ((seg zs a b).getD i []).getD 1 0))) = _
        rw [wr64 (x := (i : Int) + 1) (by omega), wr64 (by omega), wr64 (by omega)]
        rfl)
      (by
        unfold y41
        simp only [Option.getD_some, Int.toNat_natCast]
        change (if ((seg zs a b).length : Int) < ((seg zs a b).length : Int) then _ else _) = _
        rw [if_neg (by omega), List.take_length]) (by omega)
    simpa [sLo, sHi] using h
  rw [hit]
  rfl
def nAt (rate time : Int) : Int := (time * rate + 999999) / 1000000
theorem time_rate {rate time : Int} (hr : 8000 ≤ rate ∧ rate ≤ 192000) (ht : 0 ≤ time ∧ time ≤ 1000000) : 0 ≤ time * rate ∧ time * rate ≤ 192000000000 :=
  ⟨Int.mul_nonneg ht.1 (by omega), by have := Int.mul_le_mul ht.2 hr.2 (by omega) (by omega); omega⟩
theorem nAt_range {rate time : Int} (hr : 8000 ≤ rate ∧ rate ≤ 192000) (ht : 0 ≤ time ∧ time ≤ 1000000) : 0 ≤ nAt rate time ∧ nAt rate time ≤ 192000 := by
  have h := time_rate hr ht
  unfold nAt
  omega
theorem numberAt_eq {rate time : Int} (hr : 8000 ≤ rate ∧ rate ≤ 192000) (ht : 0 ≤ time ∧ time ≤ 1000000) : y100 rate time = some (nAt rate time) := by
  have h := time_rate hr ht
  unfold y100 nAt
  rw [wr64 (by omega), ceilG_eq (by omega) h.1 (by omega), bind_some', show time * rate + 1000000 - 1 = time * rate + 999999 by omega]
theorem timeErrG_eq (time : Int) : y65 time = some (if 0 ≤ time ∧ time ≤ 1000000 then 0 else 2) := by
  unfold y65
  rw [withinG_eq, bind_some', unless_eq, bind_some']
  by_cases h : 0 ≤ time ∧ time ≤ 1000000 <;> simp [h]
theorem timeErrR_eq (time : Int) : y92 time = some (if 0 ≤ time ∧ time ≤ 1000000 then 0 else 2) := by
  unfold y92
  rw [withinB_eq, bind_some']
  by_cases h : 0 ≤ time ∧ time ≤ 1000000
  · rw [nd_t h, if_neg Bool.false_ne_true, if_pos h]
  · rw [nd_f h, if_pos rfl, if_neg h]
def cutN (rate time : Int) (n : Nat) : Nat := min n (nAt rate time).toNat
theorem cutN_le (rate time : Int) (n : Nat) : cutN rate time n ≤ n := Nat.min_le_left _ _
theorem cut_min {rate time : Int} (n : Nat) (hr : 8000 ≤ rate ∧ rate ≤ 192000) (ht : 0 ≤ time ∧ time ≤ 1000000) : (if nAt rate time < (n : Int) then nAt rate time else (n : Int)) = (cutN rate time n : Int) ∧ (if (n : Int) < nAt rate time then (n : Int) else nAt rate time) = (cutN rate time n : Int) := by
  have := nAt_range hr ht
  unfold cutN
  constructor <;> split <;> omega
theorem cutG_eq {rate noise tail time : Int} {l : List Nat} {zs ss : List (List Int)} (hr : 8000 ≤ rate ∧ rate ≤ 192000) (ht : 0 ≤ time ∧ time ≤ 1000000) : y61 rate l noise tail zs ss time = some (cutN rate time zs.length : Int) := by
  unfold y61
  rw [numberAt_eq hr ht, bind_some', (cut_min zs.length hr ht).1]
theorem earlyG_eq {rate noise tail time : Int} {l : List Nat} {zs ss : List (List Int)} (hz : ∀ r ∈ zs, okZ r) (hl : zs.length ≤ 1024) (hr : 8000 ≤ rate ∧ rate ≤ 192000) (ht : 0 ≤ time ∧ time ≤ 1000000) :
    y44 rate l noise tail zs ss time = some (sLo (zs.take (cutN rate time zs.length)), sHi (zs.take (cutN rate time zs.length))) := by
  unfold y44
  have h := energyG_eq (rate := rate) (noise := noise) (tail := tail) (l := l) (ss := ss) (a := 0) hz hl (Nat.zero_le _) (cutN_le rate time zs.length)
  have e : seg zs 0 (cutN rate time zs.length) = zs.take (cutN rate time zs.length) := by unfold seg; simp
  rw [e] at h
  have h : y56 rate l noise tail zs ss 0 (cutN rate time zs.length : Int) = _ := h
  rw [cutG_eq hr ht, bind_some', h]
  rfl
theorem lateG_eq {rate noise tail time T : Int} {l : List Nat} {zs : List (List Int)} (hr : 8000 ≤ rate ∧ rate ≤ 192000) (ht : 0 ≤ time ∧ time ≤ 1000000) :
    y63 rate l noise tail zs (ssO zs T) time = some (sLo (zs.drop (cutN rate time zs.length)), sHi (zs.drop (cutN rate time zs.length)) + T) := by
  have hc := cutN_le rate time zs.length
  unfold y63
  rw [cutG_eq hr ht, bind_some', ssO_len, if_pos (by omega), Int.toNat_natCast, if_pos (by omega), ssO_get hc]
  rfl
def shS (num den : Int) : Int × Int × Int :=
  if den = 0 then (0, 0, 11) else if num / (Int.gcd num den : Int) > 1000000000 ∨ den / (Int.gcd num den : Int) > 1000000000 then (0, 0, 8) else (num / (Int.gcd num den : Int), den / (Int.gcd num den : Int), 0)
theorem shareG_eq {num den : Int} (hn : 0 ≤ num) (hn' : num ≤ 9223372036854775807) (hd : 0 ≤ den) (hd' : den ≤ 9223372036854775807) : y97 num den = some (shS num den) := by
  unfold y97 shS
  by_cases h0 : den = 0
  · rw [if_pos (show (den == 0) = true by simpa using h0), if_pos h0]
  · rw [if_neg (show ¬ (den == 0) = true by simpa using h0), if_neg h0]
    have key : ∀ (n : Nat) (a b : Int) (N : Nat), 0 ≤ a → 0 ≤ b → b.natAbs ≤ n → n < N → iter y91 N (a, b) = some (Int.gcd a b : Int) := by
      intro n
      induction n with
      | zero =>
        intro a b N ha hb hbn hN
        obtain ⟨M, rfl⟩ : ∃ M, N = M + 1 := ⟨N - 1, by omega⟩
        have : b = 0 := by omega
        subst this
        unfold iter y91
        rw [if_neg (by simp)]
        simp [Int.gcd]
        omega
      | succ n ih =>
        intro a b N ha hb hbn hN
        obtain ⟨M, rfl⟩ : ∃ M, N = M + 1 := ⟨N - 1, by omega⟩
        by_cases hb0 : b = 0
        · subst hb0
          unfold iter y91
          rw [if_neg (by simp)]
          simp [Int.gcd]
          omega
        · unfold iter y91
          rw [if_pos (show (b != 0) = true by simpa using hb0), if_pos hb0]
          dsimp only
          have h1 := tmod_abs a b hb0
          have h2 : 0 ≤ a.tmod b := Int.tmod_nonneg b ha
          exact (ih b (a.tmod b) M hb h2 (by omega) (by omega)).trans (by rw [gcd_step])
    rw [key den.natAbs num den big hn hd (Nat.le_refl _) (by unfold big; omega), bind_some']
    have hg : 0 < Int.gcd num den := Int.gcd_pos_of_ne_zero_right _ h0
    unfold y119
    have d1 : 0 ≤ num / (Int.gcd num den : Int) ∧ num / (Int.gcd num den : Int) ≤ num := ⟨Int.ediv_nonneg hn (by omega), Int.ediv_le_self _ hn⟩
    have d2 : 0 ≤ den / (Int.gcd num den : Int) ∧ den / (Int.gcd num den : Int) ≤ den := ⟨Int.ediv_nonneg hd (by omega), Int.ediv_le_self _ hd⟩
    rw [if_pos (by omega), if_pos (by omega), Int.tdiv_eq_ediv_of_nonneg hn, Int.tdiv_eq_ediv_of_nonneg hd, wr64 (by omega), wr64 (by omega)]
    by_cases c1 : num / (Int.gcd num den : Int) > 1000000000
    · rw [if_pos c1, if_pos (.inl c1)]
    · by_cases c2 : den / (Int.gcd num den : Int) > 1000000000
      · rw [if_neg c1, if_pos c2, if_pos (.inr c2)]
      · rw [if_neg c1, if_neg c2, if_neg (by omega)]
end Go.Sh
end

section
namespace Go.Sh
open Go Go.Proofs Go.RowKit Go.Sx Go.Sx06 Ieee Go.Fl
def p10 (f : Int) : Int := 10 ^ f.toNat
theorem p10_cases {f : Int} (h : 0 ≤ f ∧ f ≤ 12) : f = 0 ∨ f = 1 ∨ f = 2 ∨ f = 3 ∨ f = 4 ∨ f = 5 ∨ f = 6 ∨ f = 7 ∨ f = 8 ∨ f = 9 ∨ f = 10 ∨ f = 11 ∨ f = 12 := by omega
theorem powers_eq {f : Int} (h : 0 ≤ f ∧ f ≤ 12) : powersT.getD f.toNat 0 = p10 f ∧ 1 ≤ p10 f ∧ p10 f ≤ 1000000000000 := by
  rcases p10_cases h with rfl | rfl | rfl | rfl | rfl | rfl | rfl | rfl | rfl | rfl | rfl | rfl | rfl <;> decide
theorem powers_len : powersT.length = 13 := rfl
def fB (s w f : Int) : Bool := decide (s * s * p10 f ≤ w * w)
theorem sqn {s M : Int} (h : 0 ≤ s ∧ s ≤ M) : 0 ≤ s * s ∧ s * s ≤ M * M := ⟨Int.mul_nonneg h.1 h.1, Int.mul_le_mul h.2 h.2 h.1 (by omega)⟩
theorem fallen_eq {s w f : Int} (hs : 0 ≤ s ∧ s ≤ 10000000000000) (hw : 0 ≤ w ∧ w ≤ 10000000000000) (hf : 0 ≤ f ∧ f ≤ 12) : y70 s w f = some (fB s w f) := by
  obtain ⟨hp, hp1, hp2⟩ := powers_eq hf
  have hss := sqn hs
  have hww := sqn hw
  unfold y70
  have es : IntKind.wrap IntKind.u64 s = s := by rw [u64m]; exact Int.emod_eq_of_lt hs.1 (by omega)
  have ew : IntKind.wrap IntKind.u64 w = w := by rw [u64m]; exact Int.emod_eq_of_lt hw.1 (by omega)
  rw [es, ew, powers_len]
  have m1 := mul64_all (x := s) (y := s) (by omega) (by omega) (by omega) (by omega)
  rw [m1, bind_some', if_pos (by omega), if_pos (by omega), hp]
  have hlo : IntKind.wrap IntKind.u64 (s * s) = s * s % 18446744073709551616 := u64m _
  rw [hlo]
  have hlr : 0 ≤ s * s % 18446744073709551616 ∧ s * s % 18446744073709551616 < 18446744073709551616 := by omega
  have m2 := mul64_all (x := s * s % 18446744073709551616) (y := p10 f) (by omega) (by omega) (by omega) (by omega)
  have m3 := mul64_all (x := w) (y := w) (by omega) (by omega) (by omega) (by omega)
  rw [m2, bind_some', m3, bind_some', if_pos (by omega), if_pos (by omega)]
  unfold y7 at m1 m2 m3
  have e1 := congrArg Prod.fst (Option.some.inj m1)
  have e2 := congrArg Prod.fst (Option.some.inj m2)
  have e3 := congrArg Prod.fst (Option.some.inj m3)
  dsimp only at e1 e2 e3
  rw [e1, e2, e3, u64m, u64m, u64m, u64m, slicesCmp_eq, bind_some']
  have hh : 0 ≤ s * s / 18446744073709551616 ∧ s * s / 18446744073709551616 ≤ 5421010 := by omega
  have hl2 : 0 ≤ s * s % 18446744073709551616 * p10 f / 18446744073709551616 ∧ s * s % 18446744073709551616 * p10 f / 18446744073709551616 ≤ 1000000000000 := by
    have h1 := Int.mul_nonneg hlr.1 (show 0 ≤ p10 f by omega)
    have h2 := Int.mul_le_mul (show s * s % 18446744073709551616 ≤ 18446744073709551616 by omega) hp2 (by omega) (by omega)
    constructor
    · exact Int.ediv_nonneg h1 (by omega)
    · omega
  have hm := Int.mul_nonneg hh.1 (show 0 ≤ p10 f by omega)
  have hm2 := Int.mul_le_mul hh.2 hp2 (show 0 ≤ p10 f by omega) (by omega)
  have ex : s * s * p10 f = (s * s / 18446744073709551616 * p10 f + s * s % 18446744073709551616 * p10 f / 18446744073709551616) * 18446744073709551616 + s * s % 18446744073709551616 * p10 f % 18446744073709551616 := by
    have h0 : s * s = s * s / 18446744073709551616 * 18446744073709551616 + s * s % 18446744073709551616 := by omega
    have h1 : s * s * p10 f = s * s / 18446744073709551616 * p10 f * 18446744073709551616 + s * s % 18446744073709551616 * p10 f := by
      conv => lhs; rw [h0]
      rw [Int.add_mul, Int.mul_right_comm]
    omega
  have key := lex_eq (s * s * p10 f) (w * w)
  have q1 : s * s * p10 f / 18446744073709551616 = s * s / 18446744073709551616 * p10 f + s * s % 18446744073709551616 * p10 f / 18446744073709551616 := by omega
  have q2 : s * s * p10 f % 18446744073709551616 = s * s % 18446744073709551616 * p10 f % 18446744073709551616 := by omega
  have w1 : s * s / 18446744073709551616 * p10 f % 18446744073709551616 = s * s / 18446744073709551616 * p10 f := Int.emod_eq_of_lt hm (by omega)
  rw [w1]
  have w2 : (s * s / 18446744073709551616 * p10 f + s * s % 18446744073709551616 * p10 f / 18446744073709551616) % 18446744073709551616 = s * s / 18446744073709551616 * p10 f + s * s % 18446744073709551616 * p10 f / 18446744073709551616 := Int.emod_eq_of_lt (by omega) (by omega)
  rw [w2, ← q1, ← q2]
  first
    | rw [key]
    | (rw [show w * w % 18446744073709551616 = w * w % 18446744073709551616 from rfl, key])
  unfold fB
  by_cases h1 : s * s * p10 f < w * w
  · rw [if_pos h1, decide_eq_true (show s * s * p10 f ≤ w * w by omega)]; rfl
  · rw [if_neg h1]
    by_cases h2 : w * w < s * s * p10 f
    · rw [if_pos h2, decide_eq_false (show ¬ s * s * p10 f ≤ w * w by omega)]; rfl
    · rw [if_neg h2, decide_eq_true (show s * s * p10 f ≤ w * w by omega)]; rfl
end Go.Sh
end

section
namespace Go.Sh
open Go Go.Proofs Go.RowKit Go.Sx Go.Sx06 Ieee Go.Fl
theorem fB_mono {s s' w w' f : Int} (h1 : 0 ≤ s ∧ s ≤ s') (h2 : 0 ≤ w' ∧ w' ≤ w) (hf : 0 ≤ p10 f) (h : fB s' w' f = true) : fB s w f = true := by
  unfold fB at *
  simp only [decide_eq_true_eq] at *
  have a := Int.mul_le_mul_of_nonneg_right (Int.mul_le_mul h1.2 h1.2 h1.1 (by omega)) hf
  have b := Int.mul_le_mul h2.2 h2.2 h2.1 (by omega)
  omega
theorem p10_pos (f : Int) : 0 ≤ p10 f := by unfold p10; exact Int.pow_nonneg (by omega)
theorem fB_fives {s w f g : Int} (hfg : p10 f ≤ p10 g) (h : fB s w g = true) : fB s w f = true := by
  unfold fB at *
  simp only [decide_eq_true_eq] at *
  have a : 0 ≤ s * s := by
    rcases Int.le_total 0 s with h | h
    · exact Int.mul_nonneg h h
    · exact Int.mul_nonneg_of_nonpos_of_nonpos h h
  have b := Int.mul_le_mul_of_nonneg_left hfg a
  omega
def sfI (zs : List (List Int)) (T f : Int) : Option Nat := (ssO zs T).findIdx? fun r => fB (r.getD 1 0) (sLo zs) f
def phI (zs : List (List Int)) (T f : Int) : Option Nat := (ssO zs T).findIdx? fun r => fB (r.getD 0 0) (sHi zs + T) f
def ixZ (o : Option Nat) : Int := match o with
  | some i => (i : Int)
  | none => -1
def pasS (zs : List (List Int)) (T f : Int) : Int × Int × Bool := match sfI zs T f with
  | some j => if j = zs.length then (0, 0, false) else (max 0 (ixZ (phI zs T f) - 1), (j : Int), true)
  | none => (0, 0, false)
structure ZOK (zs : List (List Int)) (T : Int) : Prop where
  len : zs.length ≤ 1024
  ok : ∀ r ∈ zs, okZ r
  tail : 0 ≤ T ∧ T ≤ 1000000000000
section
variable {zs : List (List Int)} {T f : Int}
theorem ZOK.at_ (h : ZOK zs T) {i : Nat} (hi : i ≤ zs.length) : 0 ≤ sLo (zs.drop i) ∧ sLo (zs.drop i) ≤ sHi (zs.drop i) + T ∧ sHi (zs.drop i) + T ≤ 6000000000000 := by
  have := s_range (zs := zs.drop i) fun r hr => h.ok r (List.mem_of_mem_drop hr)
  have hl := h.len
  have ht := h.tail
  have hd : ((zs.drop i).length : Int) ≤ 1024 := by rw [List.length_drop]; omega
  omega
theorem ZOK.all (h : ZOK zs T) : 0 ≤ sLo zs ∧ sLo zs ≤ sHi zs + T ∧ sHi zs + T ≤ 6000000000000 := by
  have := h.at_ (i := 0) (Nat.zero_le _)
  simpa using this
theorem idx_some {α : Type} {l : List α} {P : α → Bool} {d : α} {j : Nat} (h : l.findIdx? P = some j) : j < l.length ∧ P (l.getD j d) = true ∧ ∀ i, i < j → P (l.getD i d) = false := by
  rw [List.findIdx?_eq_some_iff_getElem] at h
  obtain ⟨hk, hp, hb⟩ := h
  refine ⟨hk, by simpa [List.getD, hk] using hp, fun i hi => ?_⟩
  have := hb i hi
  simpa [List.getD, show i < l.length by omega] using this
theorem idx_none {α : Type} {l : List α} {P : α → Bool} (d : α) (h : l.findIdx? P = none) : ∀ i, i < l.length → P (l.getD i d) = false := by
  rw [List.findIdx?_eq_none_iff] at h
  intro i hi
  simpa [List.getD, hi] using h l[i] (List.getElem_mem _)
theorem idx_le {α : Type} {l : List α} {P : α → Bool} {d : α} {j : Nat} (h1 : j < l.length) (h2 : P (l.getD j d) = true) : ∃ i, l.findIdx? P = some i ∧ i ≤ j := by
  cases h : l.findIdx? P with
  | none => have := idx_none d h j h1; rw [h2] at this; cases this
  | some i =>
    refine ⟨i, rfl, ?_⟩
    have := (idx_some (d := d) h).2.2
    apply Classical.byContradiction
    intro hc
    have h3 := this j (by omega)
    rw [h2] at h3
    cases h3
theorem ss_get {i : Nat} (hi : i ≤ zs.length) : ((ssO zs T).getD i []).getD 0 0 = sLo (zs.drop i) ∧ ((ssO zs T).getD i []).getD 1 0 = sHi (zs.drop i) + T := by
  rw [ssO_get hi]
  exact ⟨rfl, rfl⟩
theorem ss_zero : ((ssO zs T).getD 0 []).getD 0 0 = sLo zs ∧ ((ssO zs T).getD 0 []).getD 1 0 = sHi zs + T := by
  have := ss_get (zs := zs) (T := T) (i := 0) (Nat.zero_le _)
  simpa using this
theorem sf_some {j : Nat} (h : sfI zs T f = some j) : j ≤ zs.length ∧ fB (sHi (zs.drop j) + T) (sLo zs) f = true ∧ ∀ i, i < j → fB (sHi (zs.drop i) + T) (sLo zs) f = false := by
  obtain ⟨h1, h2, h3⟩ := idx_some (d := []) h
  rw [ssO_len] at h1
  have hj : j ≤ zs.length := by omega
  rw [(ss_get hj).2] at h2
  refine ⟨hj, h2, fun i hi => ?_⟩
  have := h3 i hi
  rw [(ss_get (show i ≤ zs.length by omega)).2] at this
  exact this
theorem ph_of_sf (hz : ZOK zs T) {j : Nat} (h : sfI zs T f = some j) : ∃ i, phI zs T f = some i ∧ i ≤ j := by
  obtain ⟨h1, h2, _⟩ := sf_some h
  have a := hz.at_ h1
  have b := hz.all
  refine idx_le (d := []) (by rw [ssO_len]; omega) ?_
  rw [(ss_get h1).1]
  exact fB_mono ⟨a.1, a.2.1⟩ ⟨b.1, b.2.1⟩ (p10_pos f) h2
theorem sf_fives {g : Int} (hfg : p10 f ≤ p10 g) {j : Nat} (h : sfI zs T g = some j) : ∃ i, sfI zs T f = some i ∧ i ≤ j := by
  obtain ⟨h1, h2, _⟩ := sf_some h
  refine idx_le (d := []) (by rw [ssO_len]; omega) ?_
  rw [(ss_get h1).2]
  exact fB_fives hfg h2
theorem pas_true (hz : ZOK zs T) (h : (pasS zs T f).2.2 = true) : ∃ i j : Nat, sfI zs T f = some j ∧ phI zs T f = some i ∧ i ≤ j ∧ j < zs.length ∧ pasS zs T f = (max 0 ((i : Int) - 1), (j : Int), true) := by
  unfold pasS at h ⊢
  cases hs : sfI zs T f with
  | none => rw [hs] at h; cases h
  | some j =>
    rw [hs] at h
    dsimp only at h ⊢
    split at h
    · cases h
    · rename_i hne
      obtain ⟨i, hi, hij⟩ := ph_of_sf hz hs
      have := (sf_some hs).1
      refine ⟨i, j, rfl, hi, hij, by omega, ?_⟩
      rw [if_neg hne, hi]
      rfl
variable {rate noise tl : Int} {l : List Nat}
theorem index1_eq (hz : ZOK zs T) (hf : 0 ≤ f ∧ f ≤ 12) : y27 (ssO zs T) rate l noise tl zs (ssO zs T) f = some (ixZ (phI zs T f)) := by
  have ha := hz.all
  have hlen := hz.len
  have hk := ssO_len zs T
  have h0 := ss_zero (zs := zs) (T := T)
  have hc : ∀ i, i < (ssO zs T).length → y48 (((ssO zs T).getD i []).getD 0 0) (((ssO zs T).getD i []).getD 1 0) rate l noise tl zs (ssO zs T) f = some (fB (((ssO zs T).getD i []).getD 0 0) (sHi zs + T) f) := by
    intro i hi
    unfold y48
    rw [if_pos (by omega), if_pos (by omega), h0.2, (ss_get (show i ≤ zs.length by omega)).1]
    have := hz.at_ (i := i) (by omega)
    rw [fallen_eq (by omega) (by omega) hf]
    rfl
  have h := iter_first (ssO zs T) [] (fun r => fB (r.getD 0 0) (sHi zs + T) f) (body := y13 (ssO zs T) rate l noise tl zs (ssO zs T) f) (fun i => .inl (i : Int)) (.inr ()) (by omega)
    (fun i hi hp => by
      unfold y13
      rw [if_pos (by omega), if_pos (by omega), if_pos (by omega), Int.toNat_natCast, hc i hi, bind_some', if_pos hp])
    (fun i hi hp => by
      unfold y13
      rw [if_pos (by omega), if_pos (by omega), if_pos (by omega), Int.toNat_natCast, hc i hi, bind_some', if_neg (by rw [hp]; simp), wr64 (by omega)])
    (by unfold y13; rw [if_neg (by omega)])
  unfold y27 phI ixZ
  rw [h]
  cases (ssO zs T).findIdx? (fun r => fB (r.getD 0 0) (sHi zs + T) f) <;> rfl
theorem index2_eq (hz : ZOK zs T) (hf : 0 ≤ f ∧ f ≤ 12) : y28 (ssO zs T) rate l noise tl zs (ssO zs T) f = some (ixZ (sfI zs T f)) := by
  have ha := hz.all
  have hlen := hz.len
  have hk := ssO_len zs T
  have h0 := ss_zero (zs := zs) (T := T)
  have hc : ∀ i, i < (ssO zs T).length → y49 (((ssO zs T).getD i []).getD 0 0) (((ssO zs T).getD i []).getD 1 0) rate l noise tl zs (ssO zs T) f = some (fB (((ssO zs T).getD i []).getD 1 0) (sLo zs) f) := by
    intro i hi
    unfold y49
    rw [if_pos (by omega), if_pos (by omega), h0.1, (ss_get (show i ≤ zs.length by omega)).2]
    have := hz.at_ (i := i) (by omega)
    rw [fallen_eq (by omega) (by omega) hf]
    rfl
  have h := iter_first (ssO zs T) [] (fun r => fB (r.getD 1 0) (sLo zs) f) (body := y14 (ssO zs T) rate l noise tl zs (ssO zs T) f) (fun i => .inl (i : Int)) (.inr ()) (by omega)
    (fun i hi hp => by
      unfold y14
      rw [if_pos (by omega), if_pos (by omega), if_pos (by omega), Int.toNat_natCast, hc i hi, bind_some', if_pos hp])
    (fun i hi hp => by
      unfold y14
      rw [if_pos (by omega), if_pos (by omega), if_pos (by omega), Int.toNat_natCast, hc i hi, bind_some', if_neg (by rw [hp]; simp), wr64 (by omega)])
    (by unfold y14; rw [if_neg (by omega)])
  unfold y28 sfI ixZ
  rw [h]
  cases (ssO zs T).findIdx? (fun r => fB (r.getD 1 0) (sLo zs) f) <;> rfl
theorem index3_eq (hz : ZOK zs T) (hf : 0 ≤ f ∧ f ≤ 12) : y31 (ssO zs T) rate l noise tl zs (ssO zs T) f = some (ixZ ((ssO zs T).findIdx? fun r => fB (r.getD 0 0) (sLo zs) f)) := by
  have ha := hz.all
  have hlen := hz.len
  have hk := ssO_len zs T
  have h0 := ss_zero (zs := zs) (T := T)
  have hc : ∀ i, i < (ssO zs T).length → y66 (((ssO zs T).getD i []).getD 0 0) (((ssO zs T).getD i []).getD 1 0) rate l noise tl zs (ssO zs T) f = some (fB (((ssO zs T).getD i []).getD 0 0) (sLo zs) f) := by
    intro i hi
    unfold y66
    rw [if_pos (by omega), if_pos (by omega), h0.1, (ss_get (show i ≤ zs.length by omega)).1]
    have := hz.at_ (i := i) (by omega)
    rw [fallen_eq (by omega) (by omega) hf]
    rfl
  have h := iter_first (ssO zs T) [] (fun r => fB (r.getD 0 0) (sLo zs) f) (body := y19 (ssO zs T) rate l noise tl zs (ssO zs T) f) (fun i => .inl (i : Int)) (.inr ()) (by omega)
    (fun i hi hp => by
      unfold y19
      rw [if_pos (by omega), if_pos (by omega), if_pos (by omega), Int.toNat_natCast, hc i hi, bind_some', if_pos hp])
    (fun i hi hp => by
      unfold y19
      rw [if_pos (by omega), if_pos (by omega), if_pos (by omega), Int.toNat_natCast, hc i hi, bind_some', if_neg (by rw [hp]; simp), wr64 (by omega)])
    (by unfold y19; rw [if_neg (by omega)])
  unfold y31 ixZ
  rw [h]
  cases (ssO zs T).findIdx? (fun r => fB (r.getD 0 0) (sLo zs) f) <;> rfl
theorem passingG_eq (hz : ZOK zs T) (hf : 0 ≤ f ∧ f ≤ 12) : y26 rate l noise tl zs (ssO zs T) f = some (pasS zs T f) := by
  unfold y26
  rw [index1_eq hz hf, bind_some', index2_eq hz hf, bind_some']
  unfold pasS
  cases hs : sfI zs T f with
  | none => rfl
  | some j =>
    obtain ⟨i, hi, hij⟩ := ph_of_sf hz hs
    have hj := (sf_some hs).1
    have hl := hz.len
    rw [hi]
    unfold ixZ
    dsimp only
    rw [if_neg (by omega)]
    by_cases he : j = zs.length
    · rw [if_pos (by rw [he]; simp), if_pos he]
    · rw [if_neg (by simp; omega), if_neg he, wr64 (by omega)]
      congr 2
      split <;> omega
end
end Go.Sh
end

section
namespace Go.Sh
open Go Go.Proofs Go.RowKit Go.Sx
set_option linter.unusedVariables false
def k_G_SumsWithin : List SV := [.a [.d, .r (.floats .f32 []), .d, .d]]
def y6 (u13 : Int) (u14 : List Nat) (u15 : Int) (u16 : Int) : Option (List (List Int) × Int) :=
  if ((val (G_open u13 u14 u15 u16)).1 != (0 : Int)) = true then
   Option.bind (G_open u13 u14 u15 u16) fun r0 =>
   if (r0.1 != (0 : Int)) = true then
    some ([], r0.1)
   else
    none   else
   Option.bind (G_open u13 u14 u15 u16) fun r0 =>
   if (0 : Int) ≤ (↑(List.length r0.2.1) : Int) ∧ (↑(List.length r0.2.1) : Int) ≤ (↑(List.length r0.2.1) : Int) ∧ (↑(List.length r0.2.1) : Int) ≤ (↑(List.length r0.2.2) : Int) then
    some ((List.take (Int.toNat (↑(List.length r0.2.1) : Int) - (0 : Nat)) (List.drop (0 : Nat) r0.2.2), (0 : Int)))
   else none
def g_G_SumsWithin : List Lf → Option GT
  | [.d (.i .i64 u13), .r (.floats .f32 u14), .d (.i .i64 u15), .d (.i .i64 u16)] => some (.leaf (ok (y6 u13 u14 u15 u16)) [.c (.rrow (.recs 2 ((val (y6 u13 u14 u15 u16)).1))), .c (.d (.i .i64 ((val (y6 u13 u14 u15 u16)).2)))])
  | _ => none
abbrev sp_33 : Specs → Specs := addK 33 true (pureT k_G_SumsWithin g_G_SumsWithin)
set_option maxRecDepth 100000 in
theorem G_SumsWithin_vc (u13 : Int) (u14 : List Nat) (u15 : Int) (u16 : Int) (r : List (List Int) × Int) (h : Option.bind (y6 u13 u14 u15 u16) some = some r) : runT Tryd.f33 ((sp_56 sp0)) (fun _ _ _ => none) (bldD k_G_SumsWithin [.d (.i .i64 u13), .r (.floats .f32 u14), .d (.i .i64 u15), .d (.i .i64 u16)]) [.c (.rrow (.recs 2 r.1)), .c (.d (.i .i64 r.2))] := by
  refine Eq.mp (by kernel_rfl : (
 Br ((val (G_open u13 u14 u15 u16)).1 != (0 : Int))
   ((Ob (ok (G_open u13 u14 u15 u16)) ∧
 Br ((val (G_open u13 u14 u15 u16)).1 != (0 : Int))
   ((Ob (True) ∧
 (Ob (True) ∧
 (Ob (List.length r.1 = (0 : Nat)) ∧
 (Ob ((val (G_open u13 u14 u15 u16)).1 = r.2) ∧
 True)))))
   (False)))
   ((Ob (ok (G_open u13 u14 u15 u16)) ∧
 (Ob ((0 : Int) ≤ (↑(List.length (val (G_open u13 u14 u15 u16)).2.1) : Int) ∧ (↑(List.length (val (G_open u13 u14 u15 u16)).2.1) : Int) ≤ (↑(List.length (val (G_open u13 u14 u15 u16)).2.1) : Int) ∧ (↑(List.length (val (G_open u13 u14 u15 u16)).2.1) : Int) ≤ (↑(List.length (val (G_open u13 u14 u15 u16)).2.2) : Int)) ∧
 (Ob (True) ∧
 (Ob (True) ∧
 (Ob (List.take (Int.toNat (↑(List.length (val (G_open u13 u14 u15 u16)).2.1) : Int) - (0 : Nat)) (List.drop (0 : Nat) (val (G_open u13 u14 u15 u16)).2.2) = r.1) ∧
 (Ob ((0 : Int) = r.2) ∧
 True)))))))) = _) ?_
  refine br_b h (fun h => ?_) (fun h => ?_)
  · refine call_s h fun h => ?_
    refine br_b h (fun h => ?_) (fun h => ?_)
    · refine ob_t ?_
      refine ob_t ?_
      exact ret_s h (fun e => by subst e; exact (by repeat' (first | exact trivial | exact ⟨rfl⟩ | refine And.intro ?_ ?_)))
    · exact nomatch h
  · refine call_s h fun h => ?_
    refine ob_s h fun h => ?_
    refine ob_t ?_
    refine ob_t ?_
    exact ret_s h (fun e => by subst e; exact (by repeat' (first | exact trivial | exact ⟨rfl⟩ | refine And.intro ?_ ?_)))
set_option maxRecDepth 100000 in
theorem G_SumsWithin_ok : SpecOK Tryd.prog 33 true (pureT k_G_SumsWithin g_G_SumsWithin) := by
  refine pureT_ok (sp := (sp_56 sp0)) (fn := Tryd.f33) (body := bodyOf Tryd.f33) mixed (sp_56_ok sp0_ok) Tryd.func33 (by kernel_rfl) (by kernel_rfl) fun ls t h ho b hb => ?_
  unfold g_G_SumsWithin at h
  split at h
  · rename_i u13 u14 u15 u16
    cases h
    obtain rfl := bld_eq hb
    exact ⟨Nat.le_of_ble_eq_true (by kernel_rfl), _, _, G_SumsWithin_vc u13 u14 u15 u16 _ (ok_some ho)⟩
  · cases h
theorem sp_33_ok {sp : Specs} (h : SpecsOK Tryd.prog sp) : SpecsOK Tryd.prog (sp_33 sp) := addK_ok G_SumsWithin_ok h
def k_G_Sums : List SV := [.a [.d, .r (.floats .f32 [])]]
def G_Sums_b0 (r0 : List (List Int) × Int) (x0 : (Int × List Int)) : Option ((Int × List Int) ⊕ (List Int)) :=
  if x0.1 < (↑(List.length r0.1) : Int) then
   if (0 : Int) ≤ x0.1 ∧ x0.1 < (↑(List.length r0.1) : Int) then
    if Int.toNat x0.1 < List.length r0.1 then
     if (List.length x0.2 + List.length [List.getD (List.getD r0.1 (Int.toNat x0.1) []) (0 : Nat) (0 : Int)]) * (8 : Nat) ≤ (140737488355328 : Nat) ∧ List.length x0.2 + List.length [List.getD (List.getD r0.1 (Int.toNat x0.1) []) (0 : Nat) (0 : Int)] ≤ (9223372036854775807 : Nat) then
      some (.inl ((IntKind.wrap .i64 (x0.1 + (1 : Int)), x0.2 ++ [List.getD (List.getD r0.1 (Int.toNat x0.1) []) (0 : Nat) (0 : Int)])))
     else none
    else none
   else none
  else
   some (.inr x0.2)
def G_Sums_r0 (r0 : List (List Int) × Int) (u17 : List Int) : Option (List Int × Int) :=
  some (u17, r0.2)
def G_Sums (u4 : Int) (u0 : List Nat) : Option (List Int × Int) :=
  Option.bind (y6 u4 u0 (0 : Int) (0 : Int)) fun r0 =>
  Option.bind (iter (G_Sums_b0 r0) big (((0 : Int), []))) (G_Sums_r0 r0)
def g_G_Sums : List Lf → Option GT
  | [.d (.i .i64 u4), .r (.floats .f32 u0)] => some (.leaf (ok (G_Sums u4 u0)) [.c (.row 3 (.ints .i64 ((val (G_Sums u4 u0)).1))), .c (.d (.i .i64 ((val (G_Sums u4 u0)).2)))])
  | _ => none
abbrev sp_34 : Specs → Specs := addK 34 true (pureT k_G_Sums g_G_Sums)
set_option maxRecDepth 100000 in
theorem G_Sums_vc (u4 : Int) (u0 : List Nat) (r : List Int × Int) (h : Option.bind (G_Sums u4 u0) some = some r) : runT Tryd.f34 ((sp_33 sp0)) (fun gs id _ => match id with
 | 0 => some ⟨(Int × List Int) × Nat, fun z => ⟨[(5, .w (.c (.d (.i .i64 ((val (y6 u4 u0 (0 : Int) (0 : Int))).2))))), (6, .w (.c (.o 1))), (15, .w (.c (.o 2))), (16, .w (.c (.d (.i .i64 ((↑(List.length (val (y6 u4 u0 (0 : Int) (0 : Int))).1) : Int)))))), (17, .w (.c (.d (.i .i64 (Prod.fst (Prod.fst z))))))], [(1, .row 3 (.ints .i64 (Prod.snd (Prod.fst z)))), (2, .rrow (.recs 2 ((val (y6 u4 u0 (0 : Int) (0 : Int))).1)))], 3⟩, fun z => Option.bind (iter (G_Sums_b0 (val (y6 u4 u0 (0 : Int) (0 : Int)))) (Prod.snd z) (Prod.fst z)) (fun y0 => Option.bind (G_Sums_r0 (val (y6 u4 u0 (0 : Int) (0 : Int))) y0) some) = some r, fun z => Prod.snd z⟩
 | _ => none) (bldD k_G_Sums [.d (.i .i64 u4), .r (.floats .f32 u0)]) [.c (.row 3 (.ints .i64 r.1)), .c (.d (.i .i64 r.2))] := by
  refine Eq.mp (by kernel_rfl : (
 (Ob (ok (y6 u4 u0 (0 : Int) (0 : Int))) ∧
   ((∃ (v0 : (Int × List Int) × Nat), (Ob ((Option.bind (iter (G_Sums_b0 (val (y6 u4 u0 (0 : Int) (0 : Int)))) v0.2 v0.1) fun y0 => Option.bind (G_Sums_r0 (val (y6 u4 u0 (0 : Int) (0 : Int))) y0) some) = some r) ∧
 (Ob ((val (y6 u4 u0 (0 : Int) (0 : Int))).2 = (val (y6 u4 u0 (0 : Int) (0 : Int))).2) ∧
 (Ob ((↑(List.length (val (y6 u4 u0 (0 : Int) (0 : Int))).1) : Int) = (↑(List.length (val (y6 u4 u0 (0 : Int) (0 : Int))).1) : Int)) ∧
 (Ob ((0 : Int) = v0.1.1) ∧
 (Ob (List.length v0.1.2 = (0 : Nat)) ∧
 (Ob ((val (y6 u4 u0 (0 : Int) (0 : Int))).1 = (val (y6 u4 u0 (0 : Int) (0 : Int))).1) ∧
 True))))))) ∧
   (∀ (v0 : (Int × List Int) × Nat), ((Option.bind (iter (G_Sums_b0 (val (y6 u4 u0 (0 : Int) (0 : Int)))) v0.2 v0.1) fun y0 => Option.bind (G_Sums_r0 (val (y6 u4 u0 (0 : Int) (0 : Int))) y0) some) = some r →
 Br (decide (v0.1.1 < (↑(List.length (val (y6 u4 u0 (0 : Int) (0 : Int))).1) : Int)))
   ((Ob ((0 : Int) ≤ v0.1.1 ∧ v0.1.1 < (↑(List.length (val (y6 u4 u0 (0 : Int) (0 : Int))).1) : Int)) ∧
 (Ob (Int.toNat v0.1.1 < List.length (val (y6 u4 u0 (0 : Int) (0 : Int))).1) ∧
 (Ob ((List.length v0.1.2 + List.length [List.getD (List.getD (val (y6 u4 u0 (0 : Int) (0 : Int))).1 (Int.toNat v0.1.1) []) (0 : Nat) (0 : Int)]) * (8 : Nat) ≤ (140737488355328 : Nat) ∧ List.length v0.1.2 + List.length [List.getD (List.getD (val (y6 u4 u0 (0 : Int) (0 : Int))).1 (Int.toNat v0.1.1) []) (0 : Nat) (0 : Int)] ≤ (9223372036854775807 : Nat)) ∧
   (∃ (v1 : (Int × List Int) × Nat), (Ob ((Option.bind (iter (G_Sums_b0 (val (y6 u4 u0 (0 : Int) (0 : Int)))) v1.2 v1.1) fun y0 => Option.bind (G_Sums_r0 (val (y6 u4 u0 (0 : Int) (0 : Int))) y0) some) = some r) ∧
 (Ob (v1.2 < v0.2) ∧
 (Ob ((val (y6 u4 u0 (0 : Int) (0 : Int))).2 = (val (y6 u4 u0 (0 : Int) (0 : Int))).2) ∧
 (Ob ((↑(List.length (val (y6 u4 u0 (0 : Int) (0 : Int))).1) : Int) = (↑(List.length (val (y6 u4 u0 (0 : Int) (0 : Int))).1) : Int)) ∧
 (Ob (IntKind.wrap .i64 (v0.1.1 + (1 : Int)) = v1.1.1) ∧
 (Ob (v0.1.2 ++ [List.getD (List.getD (val (y6 u4 u0 (0 : Int) (0 : Int))).1 (Int.toNat v0.1.1) []) (0 : Nat) (0 : Int)] = v1.1.2) ∧
 (Ob ((val (y6 u4 u0 (0 : Int) (0 : Int))).1 = (val (y6 u4 u0 (0 : Int) (0 : Int))).1) ∧
 True))))))))))))
   ((Ob (True) ∧
 (Ob (True) ∧
 (Ob (v0.1.2 = r.1) ∧
 (Ob ((val (y6 u4 u0 (0 : Int) (0 : Int))).2 = r.2) ∧
 True)))))))))) = _) ?_
  refine call_s h fun h => ?_
  refine ⟨⟨(((0 : Int), []), big), ⟨loop_s h⟩, (by repeat' (first | exact trivial | exact ⟨rfl⟩ | refine And.intro ?_ ?_))⟩, fun z1 hz1 => ?_⟩
  obtain ⟨k1, hm1, h⟩ := iter_pos hz1
  refine br_d h (fun h => ?_) (fun h => ?_)
  · refine ob_s h fun h => ?_
    refine ob_s h fun h => ?_
    refine ob_s h fun h => ?_
    exact ⟨((IntKind.wrap .i64 ((Prod.fst z1).1 + (1 : Int)), (Prod.fst z1).2 ++ [List.getD (List.getD (val (y6 u4 u0 (0 : Int) (0 : Int))).1 (Int.toNat (Prod.fst z1).1) []) (0 : Nat) (0 : Int)]), k1), ⟨next_s h⟩, ⟨lt_gs hm1.symm⟩, (by repeat' (first | exact trivial | exact ⟨rfl⟩ | refine And.intro ?_ ?_))⟩
  · have h := exit_s h
    refine ob_t ?_
    refine ob_t ?_
    exact ret_s h (fun e => by subst e; exact (by repeat' (first | exact trivial | exact ⟨rfl⟩ | refine And.intro ?_ ?_)))
set_option maxRecDepth 100000 in
theorem G_Sums_ok : SpecOK Tryd.prog 34 true (pureT k_G_Sums g_G_Sums) := by
  refine pureT_ok (sp := (sp_33 sp0)) (fn := Tryd.f34) (body := bodyOf Tryd.f34) mixed (sp_33_ok sp0_ok) Tryd.func34 (by kernel_rfl) (by kernel_rfl) fun ls t h ho b hb => ?_
  unfold g_G_Sums at h
  split at h
  · rename_i u4 u0
    cases h
    obtain rfl := bld_eq hb
    exact ⟨Nat.le_of_ble_eq_true (by kernel_rfl), _, _, G_Sums_vc u4 u0 _ (ok_some ho)⟩
  · cases h
theorem sp_34_ok {sp : Specs} (h : SpecsOK Tryd.prog sp) : SpecsOK Tryd.prog (sp_34 sp) := addK_ok G_Sums_ok h
end Go.Sh
end

section
namespace Go.Sh
open Go Go.Proofs Go.RowKit Go.Sx Go.Sx06 Ieee Go.Fl
def dcT (times rate blo bhi elo ehi : Int) : Int × Int × Int := (times * max 0 (elo - bhi) * 1000000 / rate, (times * (ehi - blo) * 1000000 + rate - 1) / rate, 0)
def decS (rate : Int) (zs : List (List Int)) (T kind : Int) : Int × Int × Int :=
  if sLo zs = 0 then (0, 0, 11) else
  if kind = 0 then (if (pasS zs T 2).2.2 = false then (0, 0, 12) else dcT 6 rate 0 0 (pasS zs T 2).1 (pasS zs T 2).2.1) else
  if kind = 1 then (if (pasS zs T 1).2.2 = false then (0, 0, 12) else if (pasS zs T 5).2.2 = false then (0, 0, 12) else dcT 3 rate (pasS zs T 1).1 (pasS zs T 1).2.1 (pasS zs T 5).1 (pasS zs T 5).2.1) else
  (if (pasS zs T 1).2.2 = false then (0, 0, 12) else if (pasS zs T 7).2.2 = false then (0, 0, 12) else dcT 2 rate (pasS zs T 1).1 (pasS zs T 1).2.1 (pasS zs T 7).1 (pasS zs T 7).2.1)
def decW (rate : Int) (l : List Nat) (noise tail kind : Int) : Int × Int × Int :=
  if (askE rate l noise tail).2 ≠ 0 then (0, 0, (askE rate l noise tail).2) else if ¬ (0 ≤ kind ∧ kind ≤ 2) then (0, 0, 15) else decS rate (zsO noise l) tail kind
theorem ask_zok {rate : Int} {l : List Nat} {noise tail : Int} (h : (askE rate l noise tail).2 = 0) : ZOK (zsO noise l) tail ∧ (8000 ≤ rate ∧ rate ≤ 192000) ∧ (∀ x ∈ l, se x = 0) ∧ l.length ≤ 1024 ∧ (0 ≤ noise ∧ noise ≤ 32767) ∧ (0 ≤ tail ∧ tail ≤ 1000000000000) ∧ 0 < l.length := by
  obtain ⟨hr, hn, ht⟩ := askE_zero h
  obtain ⟨h1, h2, h3, h4⟩ := resE_zero hr
  exact ⟨⟨by rw [zsO_len]; omega, zsO_ok hn h4, ht⟩, h1, h4, h3, hn, ht, h2⟩
theorem open_bad {rate : Int} {l : List Nat} {noise tail : Int} (hl : l.length < 1000000000000) (h : (askE rate l noise tail).2 ≠ 0) : G_open rate l noise tail = some ((askE rate l noise tail).2, [], []) := by
  rw [open_eq rate noise tail hl, if_pos h]
theorem open_good {rate : Int} {l : List Nat} {noise tail : Int} (hl : l.length < 1000000000000) (h : (askE rate l noise tail).2 = 0) : G_open rate l noise tail = some (0, zsO noise l, ssO (zsO noise l) tail) := by
  rw [open_eq rate noise tail hl, if_neg (by omega)]
theorem bne_t {a : Int} (h : a ≠ 0) : (a != (0 : Int)) = true := by simpa using h
theorem bne_f {a : Int} (h : a = 0) : (a != (0 : Int)) = false := by rw [h]; rfl
section
variable {zs : List (List Int)} {T f : Int} {rate noise tl : Int} {l : List Nat}
theorem pas_range (hz : ZOK zs T) (h : (pasS zs T f).2.2 = true) : 0 ≤ (pasS zs T f).1 ∧ (pasS zs T f).1 ≤ (pasS zs T f).2.1 ∧ (pasS zs T f).2.1 < (zs.length : Int) := by
  obtain ⟨i, j, _, _, hij, hj, e⟩ := pas_true hz h
  rw [e]
  dsimp only
  omega
theorem pas_after {g : Int} (hz : ZOK zs T) (hfg : p10 f ≤ p10 g) (hf : (pasS zs T f).2.2 = true) (hg : (pasS zs T g).2.2 = true) : (pasS zs T f).1 ≤ (pasS zs T g).2.1 := by
  obtain ⟨i, j, hs, _, hij, hj, e⟩ := pas_true hz hf
  obtain ⟨i', j', hs', _, hij', hj', e'⟩ := pas_true hz hg
  obtain ⟨k, hk, hkj⟩ := sf_fives hfg hs'
  rw [hs] at hk
  cases hk
  rw [e, e']
  dsimp only
  omega
theorem dc_lo {times rate d : Int} (ht : 0 ≤ times ∧ times ≤ 6) (hr : 8000 ≤ rate) (hd : -1024 ≤ d ∧ d ≤ 1024) :
    IntKind.wrap IntKind.i64 (IntKind.wrap IntKind.i64 (times * if IntKind.wrap IntKind.i64 d > (0 : Int) then IntKind.wrap IntKind.i64 d else (0 : Int)) * (1000000 : Int)) = times * max 0 d * 1000000 ∧ 0 ≤ times * max 0 d * 1000000 ∧ times * max 0 d * 1000000 ≤ 6144000000 := by
  rw [wr64 (x := d) (by omega)]
  have e : (if d > 0 then d else 0) = max 0 d := by split <;> omega
  have h1 := Int.mul_nonneg ht.1 (show 0 ≤ max 0 d by omega)
  have h2 := Int.mul_le_mul ht.2 (show max 0 d ≤ 1024 by omega) (by omega) (by omega)
  rw [e, wr64 (x := times * max 0 d) (by omega), wr64 (by omega)]
  omega
theorem dc_hi {times d : Int} (ht : 0 ≤ times ∧ times ≤ 6) (hd : 0 ≤ d ∧ d ≤ 1024) :
    IntKind.wrap IntKind.i64 (IntKind.wrap IntKind.i64 (times * IntKind.wrap IntKind.i64 d) * (1000000 : Int)) = times * d * 1000000 ∧ 0 ≤ times * d * 1000000 ∧ times * d * 1000000 ≤ 6144000000 := by
  have h1 := Int.mul_nonneg ht.1 hd.1
  have h2 := Int.mul_le_mul ht.2 hd.2 (by omega) (by omega)
  rw [wr64 (x := d) (by omega), wr64 (x := times * d) (by omega), wr64 (by omega)]
  omega
theorem tdiv_w {n rate : Int} (hr : 8000 ≤ rate) (hn : 0 ≤ n ∧ n ≤ 9223372036854775807) : IntKind.wrap IntKind.i64 (Int.tdiv n rate) = n / rate := by
  have h1 : 0 ≤ n / rate := Int.ediv_nonneg hn.1 (by omega)
  have h2 := Int.ediv_le_self rate hn.1
  rw [Int.tdiv_eq_ediv_of_nonneg hn.1, wr64 (by omega)]
theorem decayTimeG_eq {kind : Int} (hz : ZOK zs T) (hr : 8000 ≤ rate ∧ rate ≤ 192000) (hk : 0 ≤ kind ∧ kind ≤ 2) : y29 rate l noise tl zs (ssO zs T) kind = some (decS rate zs T kind) := by
  unfold y29 decS
  have hlen := hz.len
  rw [ssO_len, if_pos (by omega), if_pos (by omega), ss_zero.1]
  by_cases h0 : sLo zs = 0
  · rw [if_pos (show (sLo zs == 0) = true by simpa using h0), if_pos h0]
  rw [if_neg (show ¬ (sLo zs == 0) = true by simpa using h0), if_neg h0, if_pos (show (0 : Int) ≤ kind ∧ kind < ((3 : Nat) : Int) by omega)]
  have hk3 : kind = 0 ∨ kind = 1 ∨ kind = 2 := by omega
  rcases hk3 with rfl | rfl | rfl
  · rw [if_pos (show Int.toNat 0 < slopesT.length by decide), if_pos (show (0 : Int) = 0 from rfl)]
    have e1 : ((slopesT.getD (Int.toNat 0) []).getD 0 0 : Int) = 0 := rfl
    have e2 : ((slopesT.getD (Int.toNat 0) []).getD 1 0 : Int) = 2 := rfl
    have e3 : ((slopesT.getD (Int.toNat 0) []).getD 2 0 : Int) = 6 := rfl
    rw [e1, e2, e3, if_neg (show ¬ ((0 : Int) > 0) by omega), passingG_eq hz (by omega), bind_some']
    cases hp : (pasS zs T 2).2.2 with
    | false => rw [if_pos (by rfl), if_pos rfl]
    | true =>
      have hg := pas_range hz hp
      rw [if_neg (show ¬ ((!true) = true) by decide), if_neg (show ¬ (true = false) by decide), if_pos (show rate ≠ 0 by omega)]
      obtain ⟨a1, a2, a3⟩ := dc_lo (times := 6) (rate := rate) (d := (pasS zs T 2).1 - 0) (by omega) (by omega) (by omega)
      obtain ⟨b1, b2, b3⟩ := dc_hi (times := 6) (d := (pasS zs T 2).2.1 - 0) (by omega) (by omega)
      rw [a1, b1, ceilG_eq (by omega) b2 (by omega), bind_some', tdiv_w (by omega) (by omega)]
      rfl
  · rw [if_pos (show Int.toNat 1 < slopesT.length by decide), if_neg (show ¬ ((1 : Int) = 0) by omega), if_pos (show (1 : Int) = 1 from rfl)]
    have e1 : ((slopesT.getD (Int.toNat 1) []).getD 0 0 : Int) = 1 := rfl
    have e2 : ((slopesT.getD (Int.toNat 1) []).getD 1 0 : Int) = 5 := rfl
    have e3 : ((slopesT.getD (Int.toNat 1) []).getD 2 0 : Int) = 3 := rfl
    rw [e1, e2, e3, if_pos (show (1 : Int) > 0 by omega), passingG_eq hz (by omega), bind_some']
    cases hp : (pasS zs T 1).2.2 with
    | false => rw [if_pos (by rfl), if_pos rfl]
    | true =>
      have hg := pas_range hz hp
      rw [if_neg (show ¬ ((!true) = true) by decide), if_neg (show ¬ (true = false) by decide), passingG_eq hz (by omega), bind_some']
      cases hq : (pasS zs T 5).2.2 with
      | false => rw [if_pos (by rfl), if_pos rfl]
      | true =>
        have hg' := pas_range hz hq
        have haf := pas_after (f := 1) (g := 5) hz (by decide) hp hq
        rw [if_neg (show ¬ ((!true) = true) by decide), if_neg (show ¬ (true = false) by decide), if_pos (show rate ≠ 0 by omega)]
        obtain ⟨a1, a2, a3⟩ := dc_lo (times := 3) (rate := rate) (d := (pasS zs T 5).1 - (pasS zs T 1).2.1) (by omega) (by omega) (by omega)
        obtain ⟨b1, b2, b3⟩ := dc_hi (times := 3) (d := (pasS zs T 5).2.1 - (pasS zs T 1).1) (by omega) (by omega)
        rw [a1, b1, ceilG_eq (by omega) b2 (by omega), bind_some', tdiv_w (by omega) (by omega)]
        rfl
  · rw [if_pos (show Int.toNat 2 < slopesT.length by decide), if_neg (show ¬ ((2 : Int) = 0) by omega), if_neg (show ¬ ((2 : Int) = 1) by omega)]
    have e1 : ((slopesT.getD (Int.toNat 2) []).getD 0 0 : Int) = 1 := rfl
    have e2 : ((slopesT.getD (Int.toNat 2) []).getD 1 0 : Int) = 7 := rfl
    have e3 : ((slopesT.getD (Int.toNat 2) []).getD 2 0 : Int) = 2 := rfl
    rw [e1, e2, e3, if_pos (show (1 : Int) > 0 by omega), passingG_eq hz (by omega), bind_some']
    cases hp : (pasS zs T 1).2.2 with
    | false => rw [if_pos (by rfl), if_pos rfl]
    | true =>
      have hg := pas_range hz hp
      rw [if_neg (show ¬ ((!true) = true) by decide), if_neg (show ¬ (true = false) by decide), passingG_eq hz (by omega), bind_some']
      cases hq : (pasS zs T 7).2.2 with
      | false => rw [if_pos (by rfl), if_pos rfl]
      | true =>
        have hg' := pas_range hz hq
        have haf := pas_after (f := 1) (g := 7) hz (by decide) hp hq
        rw [if_neg (show ¬ ((!true) = true) by decide), if_neg (show ¬ (true = false) by decide), if_pos (show rate ≠ 0 by omega)]
        obtain ⟨a1, a2, a3⟩ := dc_lo (times := 2) (rate := rate) (d := (pasS zs T 7).1 - (pasS zs T 1).2.1) (by omega) (by omega) (by omega)
        obtain ⟨b1, b2, b3⟩ := dc_hi (times := 2) (d := (pasS zs T 7).2.1 - (pasS zs T 1).1) (by omega) (by omega)
        rw [a1, b1, ceilG_eq (by omega) b2 (by omega), bind_some', tdiv_w (by omega) (by omega)]
        rfl
theorem decayWithinG_eq (rate : Int) {l : List Nat} (noise tail kind : Int) (hl : l.length < 1000000000000) : y64 rate l noise tail kind = some (decW rate l noise tail kind) := by
  unfold y64 decW
  rw [open_e rate noise tail hl]
  by_cases h : (askE rate l noise tail).2 = 0
  · obtain ⟨hz, hr, _⟩ := ask_zok h
    rw [if_neg (by rw [h]; simp), open_good hl h, bind_some', withinG_eq, bind_some', if_neg (show ¬ (askE rate l noise tail).2 ≠ 0 by omega)]
    by_cases hk : 0 ≤ kind ∧ kind ≤ 2
    · rw [nd_t hk, if_neg Bool.false_ne_true, if_neg (fun h => h hk), decayTimeG_eq hz hr hk]
      rfl
    · rw [nd_f hk, if_pos rfl, if_pos hk]
  · rw [if_pos (bne_t h), open_bad hl h, bind_some', if_pos (bne_t h), if_pos h]
theorem decayG_eq (rate : Int) {l : List Nat} (kind : Int) (hl : l.length < 1000000000000) : y57 rate l kind = some (decW rate l 0 0 kind) := by
  unfold y57
  rw [decayWithinG_eq rate 0 0 kind hl]
  rfl
end
def fewB (l : List Nat) : Bool := decide (l.length ≤ 700 ∨ (1024 < l.length ∧ l.length ≤ 1026))
theorem few_eq (rate : Int) (l : List Nat) : L05_Few rate l = some (fewB l) := by
  unfold L05_Few fewB
  by_cases h : l.length ≤ 700
  · rw [if_pos (by omega), decide_eq_true (show _ ∨ _ from .inl h)]
  · rw [if_neg (by omega)]
    by_cases h2 : 1024 < l.length
    · rw [if_pos (by omega)]
      congr 1
      rw [decide_eq_decide]
      omega
    · rw [if_neg (by omega), decide_eq_false (by omega)]
theorem beq_f {a b : Int} (h : a ≠ b) : (a == b) = false := by simpa using h
theorem few_len {l : List Nat} (h : fewB l = true) : l.length < 1000000000000 := by
  unfold fewB at h
  simp only [decide_eq_true_eq] at h
  omega
theorem copyResponse_eq (rate : Int) {l : List Nat} (h : l.length < 1000000000000) : y2 rate l = some (rate, l) := by
  unfold y2
  rw [if_pos (by omega), List.nil_append]
theorem copyR_eq (rate : Int) {l : List Nat} (noise tail : Int) (h : l.length < 1000000000000) : y4 rate l noise tail = some (rate, l, noise, tail) := by
  unfold y4
  rw [copyResponse_eq rate h]
  rfl
end Go.Sh
end

section
namespace Go.Sh
open Go Go.Proofs Go.RowKit Go.Sx Go.Sx06 Ieee Go.Fl
end Go.Sh
end

section
namespace Go.Sh
open Go Go.Proofs Go.RowKit Go.Sx Go.Sx06 Ieee Go.Fl
end Go.Sh
end

section
namespace Go.Sh
open Go Go.Proofs Go.RowKit Go.Sx Go.Sx06 Ieee Go.Fl
structure Nest (zs1 : List (List Int)) (T1 : Int) (zs2 : List (List Int)) (T2 : Int) : Prop where
  z1 : ZOK zs1 T1
  z2 : ZOK zs2 T2
  len : zs2.length ≤ zs1.length
  lo : ∀ i, i ≤ zs2.length → sLo (zs2.drop i) ≤ sLo (zs1.drop i)
  hi : ∀ i, i ≤ zs2.length → sHi (zs1.drop i) + T1 ≤ sHi (zs2.drop i) + T2
  elo : ∀ i, i ≤ zs2.length → sLo (zs2.take i) ≤ sLo (zs1.take i)
  ehi : ∀ i, i ≤ zs2.length → sHi (zs1.take i) ≤ sHi (zs2.take i)
section
variable {zs1 zs2 : List (List Int)} {T1 T2 f rate : Int}
theorem Nest.all (h : Nest zs1 T1 zs2 T2) : sLo zs2 ≤ sLo zs1 ∧ sHi zs1 + T1 ≤ sHi zs2 + T2 := by
  have a := h.lo 0 (Nat.zero_le _)
  have b := h.hi 0 (Nat.zero_le _)
  simp only [List.drop_zero] at a b
  exact ⟨a, b⟩
end
end Go.Sh
end

section
namespace Go.Sh
open Go Go.Proofs Go.RowKit Go.Sx Go.Sx06 Ieee Go.Fl
theorem p10_nine {f : Int} (h : 0 ≤ f ∧ f ≤ 9) : 1 ≤ p10 f ∧ p10 f ≤ 1000000000 := by
  rcases (by omega : f = 0 ∨ f = 1 ∨ f = 2 ∨ f = 3 ∨ f = 4 ∨ f = 5 ∨ f = 6 ∨ f = 7 ∨ f = 8 ∨ f = 9) with rfl | rfl | rfl | rfl | rfl | rfl | rfl | rfl | rfl | rfl <;> exact ⟨by decide, by decide⟩
theorem ratioG_eq {num den parts tens : Int} (hn : 1 ≤ num ∧ num ≤ 10000000000000) (hd : 1 ≤ den ∧ den ≤ 10000000000000) (hp : 1 ≤ parts ∧ parts ≤ 8000000000) (ht : -9 ≤ tens ∧ tens ≤ 9) :
    y34 num den parts tens = some (if parts * p10 (max tens 0) * den < 1000000000 * p10 (max (-tens) 0) * num then -1 else if 1000000000 * p10 (max (-tens) 0) * num < parts * p10 (max tens 0) * den then 1 else 0) := by
  have h9 : y7 (1000000000 : Int) num = some (1000000000 * num / 18446744073709551616, 1000000000 * num % 18446744073709551616) := mul64_all (by omega) (by omega) (by omega) (by omega)
  unfold y34
  by_cases h : tens ≥ 0
  · obtain ⟨hq, _⟩ := powers_eq (f := tens) (by omega)
    have hp9 := p10_nine (f := tens) (by omega)
    rw [if_pos h, if_pos (by omega), if_pos (by rw [powers_len]; omega), hq]
    have hL0 : 0 ≤ parts * p10 tens := Int.mul_nonneg (by omega) (by omega)
    have hL1 := Int.mul_le_mul hp.2 hp9.2 (show 0 ≤ p10 tens by omega) (show (0 : Int) ≤ 8000000000 by omega)
    have eL : IntKind.wrap IntKind.u64 (parts * p10 tens) = parts * p10 tens := by rw [u64m]; exact Int.emod_eq_of_lt hL0 (by omega)
    rw [eL]
    have m1 := mul64_all (x := parts * p10 tens) (y := den) (by omega) (by omega) (by omega) (by omega)
    rw [m1, bind_some', h9, bind_some']
    unfold y7 at m1
    have e1 := congrArg Prod.fst (Option.some.inj m1)
    dsimp only at e1
    rw [e1, show max tens 0 = tens by omega, show max (-tens) 0 = 0 by omega, show p10 0 = 1 from rfl, Int.mul_one]
    have e2 : IntKind.wrap IntKind.u64 (IntKind.wrap IntKind.u64 (IntKind.wrap IntKind.u64 (Int.fdiv (1000000000 : Int) ((2 : Int) ^ min (32 : Nat) (IntKind.bits IntKind.u64)) * Int.fdiv num ((2 : Int) ^ min (32 : Nat) (IntKind.bits IntKind.u64))) + Int.fdiv (IntKind.wrap IntKind.u64 (IntKind.wrap IntKind.u64 (Int.fdiv (1000000000 : Int) ((2 : Int) ^ min (32 : Nat) (IntKind.bits IntKind.u64)) * IntKind.wrap IntKind.u64 (↑(BitVec.toNat (BitVec.ofInt (IntKind.bits IntKind.u64) num &&& BitVec.ofInt (IntKind.bits IntKind.u64) (4294967295 : Int))) : Int)) + Int.fdiv (IntKind.wrap IntKind.u64 ((1000000000 : Int) * IntKind.wrap IntKind.u64 (↑(BitVec.toNat (BitVec.ofInt (IntKind.bits IntKind.u64) num &&& BitVec.ofInt (IntKind.bits IntKind.u64) (4294967295 : Int))) : Int))) ((2 : Int) ^ min (32 : Nat) (IntKind.bits IntKind.u64)))) ((2 : Int) ^ min (32 : Nat) (IntKind.bits IntKind.u64))) + Int.fdiv (IntKind.wrap IntKind.u64 (IntKind.wrap IntKind.u64 (↑(BitVec.toNat (BitVec.ofInt (IntKind.bits IntKind.u64) (IntKind.wrap IntKind.u64 (IntKind.wrap IntKind.u64 (Int.fdiv (1000000000 : Int) ((2 : Int) ^ min (32 : Nat) (IntKind.bits IntKind.u64)) * IntKind.wrap IntKind.u64 (↑(BitVec.toNat (BitVec.ofInt (IntKind.bits IntKind.u64) num &&& BitVec.ofInt (IntKind.bits IntKind.u64) (4294967295 : Int))) : Int)) + Int.fdiv (IntKind.wrap IntKind.u64 ((1000000000 : Int) * IntKind.wrap IntKind.u64 (↑(BitVec.toNat (BitVec.ofInt (IntKind.bits IntKind.u64) num &&& BitVec.ofInt (IntKind.bits IntKind.u64) (4294967295 : Int))) : Int))) ((2 : Int) ^ min (32 : Nat) (IntKind.bits IntKind.u64)))) &&& BitVec.ofInt (IntKind.bits IntKind.u64) (4294967295 : Int))) : Int) + IntKind.wrap IntKind.u64 ((1000000000 : Int) * Int.fdiv num ((2 : Int) ^ min (32 : Nat) (IntKind.bits IntKind.u64))))) ((2 : Int) ^ min (32 : Nat) (IntKind.bits IntKind.u64))) = 1000000000 * num / 18446744073709551616 := by
      have e9 := h9
      unfold y7 at e9
      have e9 := congrArg Prod.fst (Option.some.inj e9)
      dsimp only at e9
      simp only [shr32, mask32, u64m, mw] at e9 ⊢
      rw [show (1000000000 : Int) % 4294967296 = 1000000000 from by decide] at e9
      exact e9
    rw [e2, u64m, u64m, slicesCmp_eq, bind_some', lex_eq]
  · obtain ⟨hq, _⟩ := powers_eq (f := -tens) (by omega)
    have hp9 := p10_nine (f := -tens) (by omega)
    have e0 : IntKind.wrap IntKind.i64 ((0 : Int) - tens) = -tens := by rw [wr64 (by omega), Int.zero_sub]
    rw [if_neg h, e0, if_pos (by omega), if_pos (by rw [powers_len]; omega), hq]
    have eL : IntKind.wrap IntKind.u64 (1000000000 * p10 (-tens)) = 1000000000 * p10 (-tens) := by rw [u64m]; exact Int.emod_eq_of_lt (by omega) (by omega)
    rw [eL]
    have m1 := mul64_all (x := parts) (y := den) (by omega) (by omega) (by omega) (by omega)
    have m2 := mul64_all (x := 1000000000 * p10 (-tens)) (y := num) (by omega) (by omega) (by omega) (by omega)
    rw [m1, bind_some', m2, bind_some']
    unfold y7 at m1 m2
    have e1 := congrArg Prod.fst (Option.some.inj m1)
    have e2 := congrArg Prod.fst (Option.some.inj m2)
    dsimp only at e1 e2
    rw [e1, e2, show max (-tens) 0 = -tens by omega, show max tens 0 = 0 by omega, show p10 0 = 1 from rfl, Int.mul_one, u64m, u64m, slicesCmp_eq, bind_some', lex_eq]
end Go.Sh
end

section
namespace Go.Sh
open Go Go.Proofs Go.RowKit Go.Sx
set_option linter.unusedVariables false
def k_math_bits_Len64 : List (Option Cont) := [none]
def y60 (x_ : Int) : Option Int :=
  if x_ ≥ (4294967296 : Int) then
   if Int.fdiv x_ ((2 : Int) ^ min (32 : Nat) (IntKind.bits .u64)) ≥ (65536 : Int) then
    if Int.fdiv (Int.fdiv x_ ((2 : Int) ^ min (32 : Nat) (IntKind.bits .u64))) ((2 : Int) ^ min (16 : Nat) (IntKind.bits .u64)) ≥ (256 : Int) then
     if (0 : Int) ≤ IntKind.wrap .u8 (Int.fdiv (Int.fdiv (Int.fdiv x_ ((2 : Int) ^ min (32 : Nat) (IntKind.bits .u64))) ((2 : Int) ^ min (16 : Nat) (IntKind.bits .u64))) ((2 : Int) ^ min (8 : Nat) (IntKind.bits .u64))) ∧ IntKind.wrap .u8 (Int.fdiv (Int.fdiv (Int.fdiv x_ ((2 : Int) ^ min (32 : Nat) (IntKind.bits .u64))) ((2 : Int) ^ min (16 : Nat) (IntKind.bits .u64))) ((2 : Int) ^ min (8 : Nat) (IntKind.bits .u64))) < (↑(ByteArray.size tab8) : Int) then
      some (IntKind.wrap .i64 (IntKind.wrap .i64 (IntKind.wrap .i64 ((32 : Int) + (16 : Int)) + (8 : Int)) + IntKind.wrap .i64 (↑(UInt8.toNat (Array.getD (ByteArray.data tab8) (Int.toNat (IntKind.wrap .u8 (Int.fdiv (Int.fdiv (Int.fdiv x_ ((2 : Int) ^ min (32 : Nat) (IntKind.bits .u64))) ((2 : Int) ^ min (16 : Nat) (IntKind.bits .u64))) ((2 : Int) ^ min (8 : Nat) (IntKind.bits .u64))))) (0 : UInt8))) : Int)))
     else none
    else
     if (0 : Int) ≤ IntKind.wrap .u8 (Int.fdiv (Int.fdiv x_ ((2 : Int) ^ min (32 : Nat) (IntKind.bits .u64))) ((2 : Int) ^ min (16 : Nat) (IntKind.bits .u64))) ∧ IntKind.wrap .u8 (Int.fdiv (Int.fdiv x_ ((2 : Int) ^ min (32 : Nat) (IntKind.bits .u64))) ((2 : Int) ^ min (16 : Nat) (IntKind.bits .u64))) < (↑(ByteArray.size tab8) : Int) then
      some (IntKind.wrap .i64 (IntKind.wrap .i64 ((32 : Int) + (16 : Int)) + IntKind.wrap .i64 (↑(UInt8.toNat (Array.getD (ByteArray.data tab8) (Int.toNat (IntKind.wrap .u8 (Int.fdiv (Int.fdiv x_ ((2 : Int) ^ min (32 : Nat) (IntKind.bits .u64))) ((2 : Int) ^ min (16 : Nat) (IntKind.bits .u64))))) (0 : UInt8))) : Int)))
     else none
   else
    if Int.fdiv x_ ((2 : Int) ^ min (32 : Nat) (IntKind.bits .u64)) ≥ (256 : Int) then
     if (0 : Int) ≤ IntKind.wrap .u8 (Int.fdiv (Int.fdiv x_ ((2 : Int) ^ min (32 : Nat) (IntKind.bits .u64))) ((2 : Int) ^ min (8 : Nat) (IntKind.bits .u64))) ∧ IntKind.wrap .u8 (Int.fdiv (Int.fdiv x_ ((2 : Int) ^ min (32 : Nat) (IntKind.bits .u64))) ((2 : Int) ^ min (8 : Nat) (IntKind.bits .u64))) < (↑(ByteArray.size tab8) : Int) then
      some (IntKind.wrap .i64 (IntKind.wrap .i64 ((32 : Int) + (8 : Int)) + IntKind.wrap .i64 (↑(UInt8.toNat (Array.getD (ByteArray.data tab8) (Int.toNat (IntKind.wrap .u8 (Int.fdiv (Int.fdiv x_ ((2 : Int) ^ min (32 : Nat) (IntKind.bits .u64))) ((2 : Int) ^ min (8 : Nat) (IntKind.bits .u64))))) (0 : UInt8))) : Int)))
     else none
    else
     if (0 : Int) ≤ IntKind.wrap .u8 (Int.fdiv x_ ((2 : Int) ^ min (32 : Nat) (IntKind.bits .u64))) ∧ IntKind.wrap .u8 (Int.fdiv x_ ((2 : Int) ^ min (32 : Nat) (IntKind.bits .u64))) < (↑(ByteArray.size tab8) : Int) then
      some (IntKind.wrap .i64 ((32 : Int) + IntKind.wrap .i64 (↑(UInt8.toNat (Array.getD (ByteArray.data tab8) (Int.toNat (IntKind.wrap .u8 (Int.fdiv x_ ((2 : Int) ^ min (32 : Nat) (IntKind.bits .u64))))) (0 : UInt8))) : Int)))
     else none
  else
   if x_ ≥ (65536 : Int) then
    if Int.fdiv x_ ((2 : Int) ^ min (16 : Nat) (IntKind.bits .u64)) ≥ (256 : Int) then
     if (0 : Int) ≤ IntKind.wrap .u8 (Int.fdiv (Int.fdiv x_ ((2 : Int) ^ min (16 : Nat) (IntKind.bits .u64))) ((2 : Int) ^ min (8 : Nat) (IntKind.bits .u64))) ∧ IntKind.wrap .u8 (Int.fdiv (Int.fdiv x_ ((2 : Int) ^ min (16 : Nat) (IntKind.bits .u64))) ((2 : Int) ^ min (8 : Nat) (IntKind.bits .u64))) < (↑(ByteArray.size tab8) : Int) then
      some (IntKind.wrap .i64 (IntKind.wrap .i64 (IntKind.wrap .i64 ((0 : Int) + (16 : Int)) + (8 : Int)) + IntKind.wrap .i64 (↑(UInt8.toNat (Array.getD (ByteArray.data tab8) (Int.toNat (IntKind.wrap .u8 (Int.fdiv (Int.fdiv x_ ((2 : Int) ^ min (16 : Nat) (IntKind.bits .u64))) ((2 : Int) ^ min (8 : Nat) (IntKind.bits .u64))))) (0 : UInt8))) : Int)))
     else none
    else
     if (0 : Int) ≤ IntKind.wrap .u8 (Int.fdiv x_ ((2 : Int) ^ min (16 : Nat) (IntKind.bits .u64))) ∧ IntKind.wrap .u8 (Int.fdiv x_ ((2 : Int) ^ min (16 : Nat) (IntKind.bits .u64))) < (↑(ByteArray.size tab8) : Int) then
      some (IntKind.wrap .i64 (IntKind.wrap .i64 ((0 : Int) + (16 : Int)) + IntKind.wrap .i64 (↑(UInt8.toNat (Array.getD (ByteArray.data tab8) (Int.toNat (IntKind.wrap .u8 (Int.fdiv x_ ((2 : Int) ^ min (16 : Nat) (IntKind.bits .u64))))) (0 : UInt8))) : Int)))
     else none
   else
    if x_ ≥ (256 : Int) then
     if (0 : Int) ≤ IntKind.wrap .u8 (Int.fdiv x_ ((2 : Int) ^ min (8 : Nat) (IntKind.bits .u64))) ∧ IntKind.wrap .u8 (Int.fdiv x_ ((2 : Int) ^ min (8 : Nat) (IntKind.bits .u64))) < (↑(ByteArray.size tab8) : Int) then
      some (IntKind.wrap .i64 (IntKind.wrap .i64 ((0 : Int) + (8 : Int)) + IntKind.wrap .i64 (↑(UInt8.toNat (Array.getD (ByteArray.data tab8) (Int.toNat (IntKind.wrap .u8 (Int.fdiv x_ ((2 : Int) ^ min (8 : Nat) (IntKind.bits .u64))))) (0 : UInt8))) : Int)))
     else none
    else
     if (0 : Int) ≤ IntKind.wrap .u8 x_ ∧ IntKind.wrap .u8 x_ < (↑(ByteArray.size tab8) : Int) then
      some (IntKind.wrap .i64 ((0 : Int) + IntKind.wrap .i64 (↑(UInt8.toNat (Array.getD (ByteArray.data tab8) (Int.toNat (IntKind.wrap .u8 x_)) (0 : UInt8))) : Int)))
     else none
def y131 : List A → Option (Prop × List RV)
  | [.d (.i .u64 x_)] => some (ok (y60 x_), [.d (.i .i64 ((val (y60 x_))))])
  | _ => none
abbrev sp_104 : Specs → Specs := addK 104 true (pureK k_math_bits_Len64 y131)
set_option maxRecDepth 100000 in
theorem math_bits_Len64_vc (x_ : Int) (r : Int) (h : Option.bind (y60 x_) some = some r) : runF Tryd.f104 (sp0) (fun _ _ _ => none) [.d (.i .u64 x_)] [.d (.i .i64 r)] := by
  refine Eq.mp (by kernel_rfl : (
 Br (decide (x_ ≥ (4294967296 : Int)))
   ((Ob ((0 : Int) ≤ (32 : Int)) ∧
 Br (decide (Int.fdiv x_ ((2 : Int) ^ min (32 : Nat) (IntKind.bits .u64)) ≥ (65536 : Int)))
   ((Ob ((0 : Int) ≤ (16 : Int)) ∧
 Br (decide (Int.fdiv (Int.fdiv x_ ((2 : Int) ^ min (32 : Nat) (IntKind.bits .u64))) ((2 : Int) ^ min (16 : Nat) (IntKind.bits .u64)) ≥ (256 : Int)))
   ((Ob ((0 : Int) ≤ (8 : Int)) ∧
 (Ob (True) ∧
 (Ob ((0 : Int) ≤ IntKind.wrap .u8 (Int.fdiv (Int.fdiv (Int.fdiv x_ ((2 : Int) ^ min (32 : Nat) (IntKind.bits .u64))) ((2 : Int) ^ min (16 : Nat) (IntKind.bits .u64))) ((2 : Int) ^ min (8 : Nat) (IntKind.bits .u64))) ∧ IntKind.wrap .u8 (Int.fdiv (Int.fdiv (Int.fdiv x_ ((2 : Int) ^ min (32 : Nat) (IntKind.bits .u64))) ((2 : Int) ^ min (16 : Nat) (IntKind.bits .u64))) ((2 : Int) ^ min (8 : Nat) (IntKind.bits .u64))) < (↑(ByteArray.size tab8) : Int)) ∧
 (Ob (True) ∧
 (Ob (True) ∧
 (Ob (IntKind.wrap .i64 (IntKind.wrap .i64 (IntKind.wrap .i64 ((32 : Int) + (16 : Int)) + (8 : Int)) + IntKind.wrap .i64 (↑(UInt8.toNat (Array.getD (ByteArray.data tab8) (Int.toNat (IntKind.wrap .u8 (Int.fdiv (Int.fdiv (Int.fdiv x_ ((2 : Int) ^ min (32 : Nat) (IntKind.bits .u64))) ((2 : Int) ^ min (16 : Nat) (IntKind.bits .u64))) ((2 : Int) ^ min (8 : Nat) (IntKind.bits .u64))))) (0 : UInt8))) : Int)) = r) ∧
 True)))))))
   ((Ob (True) ∧
 (Ob ((0 : Int) ≤ IntKind.wrap .u8 (Int.fdiv (Int.fdiv x_ ((2 : Int) ^ min (32 : Nat) (IntKind.bits .u64))) ((2 : Int) ^ min (16 : Nat) (IntKind.bits .u64))) ∧ IntKind.wrap .u8 (Int.fdiv (Int.fdiv x_ ((2 : Int) ^ min (32 : Nat) (IntKind.bits .u64))) ((2 : Int) ^ min (16 : Nat) (IntKind.bits .u64))) < (↑(ByteArray.size tab8) : Int)) ∧
 (Ob (True) ∧
 (Ob (True) ∧
 (Ob (IntKind.wrap .i64 (IntKind.wrap .i64 ((32 : Int) + (16 : Int)) + IntKind.wrap .i64 (↑(UInt8.toNat (Array.getD (ByteArray.data tab8) (Int.toNat (IntKind.wrap .u8 (Int.fdiv (Int.fdiv x_ ((2 : Int) ^ min (32 : Nat) (IntKind.bits .u64))) ((2 : Int) ^ min (16 : Nat) (IntKind.bits .u64))))) (0 : UInt8))) : Int)) = r) ∧
 True))))))))
 (Br (decide (Int.fdiv x_ ((2 : Int) ^ min (32 : Nat) (IntKind.bits .u64)) ≥ (256 : Int)))
   ((Ob ((0 : Int) ≤ (8 : Int)) ∧
 (Ob (True) ∧
 (Ob ((0 : Int) ≤ IntKind.wrap .u8 (Int.fdiv (Int.fdiv x_ ((2 : Int) ^ min (32 : Nat) (IntKind.bits .u64))) ((2 : Int) ^ min (8 : Nat) (IntKind.bits .u64))) ∧ IntKind.wrap .u8 (Int.fdiv (Int.fdiv x_ ((2 : Int) ^ min (32 : Nat) (IntKind.bits .u64))) ((2 : Int) ^ min (8 : Nat) (IntKind.bits .u64))) < (↑(ByteArray.size tab8) : Int)) ∧
 (Ob (True) ∧
 (Ob (True) ∧
 (Ob (IntKind.wrap .i64 (IntKind.wrap .i64 ((32 : Int) + (8 : Int)) + IntKind.wrap .i64 (↑(UInt8.toNat (Array.getD (ByteArray.data tab8) (Int.toNat (IntKind.wrap .u8 (Int.fdiv (Int.fdiv x_ ((2 : Int) ^ min (32 : Nat) (IntKind.bits .u64))) ((2 : Int) ^ min (8 : Nat) (IntKind.bits .u64))))) (0 : UInt8))) : Int)) = r) ∧
 True)))))))
   ((Ob (True) ∧
 (Ob ((0 : Int) ≤ IntKind.wrap .u8 (Int.fdiv x_ ((2 : Int) ^ min (32 : Nat) (IntKind.bits .u64))) ∧ IntKind.wrap .u8 (Int.fdiv x_ ((2 : Int) ^ min (32 : Nat) (IntKind.bits .u64))) < (↑(ByteArray.size tab8) : Int)) ∧
 (Ob (True) ∧
 (Ob (True) ∧
 (Ob (IntKind.wrap .i64 ((32 : Int) + IntKind.wrap .i64 (↑(UInt8.toNat (Array.getD (ByteArray.data tab8) (Int.toNat (IntKind.wrap .u8 (Int.fdiv x_ ((2 : Int) ^ min (32 : Nat) (IntKind.bits .u64))))) (0 : UInt8))) : Int)) = r) ∧
 True)))))))))
 (Br (decide (x_ ≥ (65536 : Int)))
   ((Ob ((0 : Int) ≤ (16 : Int)) ∧
 Br (decide (Int.fdiv x_ ((2 : Int) ^ min (16 : Nat) (IntKind.bits .u64)) ≥ (256 : Int)))
   ((Ob ((0 : Int) ≤ (8 : Int)) ∧
 (Ob (True) ∧
 (Ob ((0 : Int) ≤ IntKind.wrap .u8 (Int.fdiv (Int.fdiv x_ ((2 : Int) ^ min (16 : Nat) (IntKind.bits .u64))) ((2 : Int) ^ min (8 : Nat) (IntKind.bits .u64))) ∧ IntKind.wrap .u8 (Int.fdiv (Int.fdiv x_ ((2 : Int) ^ min (16 : Nat) (IntKind.bits .u64))) ((2 : Int) ^ min (8 : Nat) (IntKind.bits .u64))) < (↑(ByteArray.size tab8) : Int)) ∧
 (Ob (True) ∧
 (Ob (True) ∧
 (Ob (IntKind.wrap .i64 (IntKind.wrap .i64 (IntKind.wrap .i64 ((0 : Int) + (16 : Int)) + (8 : Int)) + IntKind.wrap .i64 (↑(UInt8.toNat (Array.getD (ByteArray.data tab8) (Int.toNat (IntKind.wrap .u8 (Int.fdiv (Int.fdiv x_ ((2 : Int) ^ min (16 : Nat) (IntKind.bits .u64))) ((2 : Int) ^ min (8 : Nat) (IntKind.bits .u64))))) (0 : UInt8))) : Int)) = r) ∧
 True)))))))
   ((Ob (True) ∧
 (Ob ((0 : Int) ≤ IntKind.wrap .u8 (Int.fdiv x_ ((2 : Int) ^ min (16 : Nat) (IntKind.bits .u64))) ∧ IntKind.wrap .u8 (Int.fdiv x_ ((2 : Int) ^ min (16 : Nat) (IntKind.bits .u64))) < (↑(ByteArray.size tab8) : Int)) ∧
 (Ob (True) ∧
 (Ob (True) ∧
 (Ob (IntKind.wrap .i64 (IntKind.wrap .i64 ((0 : Int) + (16 : Int)) + IntKind.wrap .i64 (↑(UInt8.toNat (Array.getD (ByteArray.data tab8) (Int.toNat (IntKind.wrap .u8 (Int.fdiv x_ ((2 : Int) ^ min (16 : Nat) (IntKind.bits .u64))))) (0 : UInt8))) : Int)) = r) ∧
 True))))))))
 (Br (decide (x_ ≥ (256 : Int)))
   ((Ob ((0 : Int) ≤ (8 : Int)) ∧
 (Ob (True) ∧
 (Ob ((0 : Int) ≤ IntKind.wrap .u8 (Int.fdiv x_ ((2 : Int) ^ min (8 : Nat) (IntKind.bits .u64))) ∧ IntKind.wrap .u8 (Int.fdiv x_ ((2 : Int) ^ min (8 : Nat) (IntKind.bits .u64))) < (↑(ByteArray.size tab8) : Int)) ∧
 (Ob (True) ∧
 (Ob (True) ∧
 (Ob (IntKind.wrap .i64 (IntKind.wrap .i64 ((0 : Int) + (8 : Int)) + IntKind.wrap .i64 (↑(UInt8.toNat (Array.getD (ByteArray.data tab8) (Int.toNat (IntKind.wrap .u8 (Int.fdiv x_ ((2 : Int) ^ min (8 : Nat) (IntKind.bits .u64))))) (0 : UInt8))) : Int)) = r) ∧
 True)))))))
   ((Ob (True) ∧
 (Ob ((0 : Int) ≤ IntKind.wrap .u8 x_ ∧ IntKind.wrap .u8 x_ < (↑(ByteArray.size tab8) : Int)) ∧
 (Ob (True) ∧
 (Ob (True) ∧
 (Ob (IntKind.wrap .i64 ((0 : Int) + IntKind.wrap .i64 (↑(UInt8.toNat (Array.getD (ByteArray.data tab8) (Int.toNat (IntKind.wrap .u8 x_)) (0 : UInt8))) : Int)) = r) ∧
 True))))))))) = _) ?_
  refine br_d h (fun h => ?_) (fun h => ?_)
  · refine ob_c (p := (0 : Int) ≤ (32 : Int)) (by decide) ?_
    refine br_d h (fun h => ?_) (fun h => ?_)
    · refine ob_c (p := (0 : Int) ≤ (16 : Int)) (by decide) ?_
      refine br_d h (fun h => ?_) (fun h => ?_)
      · refine ob_c (p := (0 : Int) ≤ (8 : Int)) (by decide) ?_
        refine ob_t ?_
        refine ob_s h fun h => ?_
        refine ob_t ?_
        refine ob_t ?_
        exact ret_s h (fun e => by subst e; exact (by repeat' (first | exact trivial | exact ⟨rfl⟩ | refine And.intro ?_ ?_)))
      · refine ob_t ?_
        refine ob_s h fun h => ?_
        refine ob_t ?_
        refine ob_t ?_
        exact ret_s h (fun e => by subst e; exact (by repeat' (first | exact trivial | exact ⟨rfl⟩ | refine And.intro ?_ ?_)))
    · refine br_d h (fun h => ?_) (fun h => ?_)
      · refine ob_c (p := (0 : Int) ≤ (8 : Int)) (by decide) ?_
        refine ob_t ?_
        refine ob_s h fun h => ?_
        refine ob_t ?_
        refine ob_t ?_
        exact ret_s h (fun e => by subst e; exact (by repeat' (first | exact trivial | exact ⟨rfl⟩ | refine And.intro ?_ ?_)))
      · refine ob_t ?_
        refine ob_s h fun h => ?_
        refine ob_t ?_
        refine ob_t ?_
        exact ret_s h (fun e => by subst e; exact (by repeat' (first | exact trivial | exact ⟨rfl⟩ | refine And.intro ?_ ?_)))
  · refine br_d h (fun h => ?_) (fun h => ?_)
    · refine ob_c (p := (0 : Int) ≤ (16 : Int)) (by decide) ?_
      refine br_d h (fun h => ?_) (fun h => ?_)
      · refine ob_c (p := (0 : Int) ≤ (8 : Int)) (by decide) ?_
        refine ob_t ?_
        refine ob_s h fun h => ?_
        refine ob_t ?_
        refine ob_t ?_
        exact ret_s h (fun e => by subst e; exact (by repeat' (first | exact trivial | exact ⟨rfl⟩ | refine And.intro ?_ ?_)))
      · refine ob_t ?_
        refine ob_s h fun h => ?_
        refine ob_t ?_
        refine ob_t ?_
        exact ret_s h (fun e => by subst e; exact (by repeat' (first | exact trivial | exact ⟨rfl⟩ | refine And.intro ?_ ?_)))
    · refine br_d h (fun h => ?_) (fun h => ?_)
      · refine ob_c (p := (0 : Int) ≤ (8 : Int)) (by decide) ?_
        refine ob_t ?_
        refine ob_s h fun h => ?_
        refine ob_t ?_
        refine ob_t ?_
        exact ret_s h (fun e => by subst e; exact (by repeat' (first | exact trivial | exact ⟨rfl⟩ | refine And.intro ?_ ?_)))
      · refine ob_t ?_
        refine ob_s h fun h => ?_
        refine ob_t ?_
        refine ob_t ?_
        exact ret_s h (fun e => by subst e; exact (by repeat' (first | exact trivial | exact ⟨rfl⟩ | refine And.intro ?_ ?_)))
set_option maxRecDepth 100000 in
theorem math_bits_Len64_ok : SpecOK Tryd.prog 104 true (pureK k_math_bits_Len64 y131) := by
  refine pureK_ok (sp := sp0) (fn := Tryd.f104) (body := bodyOf Tryd.f104) mixed sp0_ok Tryd.func104 (by kernel_rfl) (by kernel_rfl) fun as_ ob rs h ho => ?_
  unfold y131 at h
  split at h
  · rename_i x_
    cases h
    exact ⟨Nat.le_of_ble_eq_true rfl, _, _, math_bits_Len64_vc x_ _ (ok_some ho)⟩
  · cases h
theorem sp_104_ok {sp : Specs} (h : SpecsOK Tryd.prog sp) : SpecsOK Tryd.prog (sp_104 sp) := addK_ok math_bits_Len64_ok h
def y105 : List (Option Cont) := [none]
def y11 (x_ : Int) : Option Int :=
  Option.bind (y60 x_) fun r0 =>
  some (IntKind.wrap .i64 ((64 : Int) - r0))
def y88 : List A → Option (Prop × List RV)
  | [.d (.i .u64 x_)] => some (ok (y11 x_), [.d (.i .i64 ((val (y11 x_))))])
  | _ => none
abbrev sp_99 : Specs → Specs := addK 99 true (pureK y105 y88)
set_option maxRecDepth 100000 in
theorem y170 (x_ : Int) (r : Int) (h : Option.bind (y11 x_) some = some r) : runF Tryd.f99 ((sp_104 sp0)) (fun _ _ _ => none) [.d (.i .u64 x_)] [.d (.i .i64 r)] := by
  refine Eq.mp (by kernel_rfl : (
 (Ob (ok (y60 x_)) ∧
 (Ob (True) ∧
 (Ob (IntKind.wrap .i64 ((64 : Int) - val (y60 x_)) = r) ∧
 True)))) = _) ?_
  refine call_s h fun h => ?_
  refine ob_t ?_
  exact ret_s h (fun e => by subst e; exact (by repeat' (first | exact trivial | exact ⟨rfl⟩ | refine And.intro ?_ ?_)))
set_option maxRecDepth 100000 in
theorem y171 : SpecOK Tryd.prog 99 true (pureK y105 y88) := by
  refine pureK_ok (sp := (sp_104 sp0)) (fn := Tryd.f99) (body := bodyOf Tryd.f99) mixed (sp_104_ok sp0_ok) Tryd.func99 (by kernel_rfl) (by kernel_rfl) fun as_ ob rs h ho => ?_
  unfold y88 at h
  split at h
  · rename_i x_
    cases h
    exact ⟨Nat.le_of_ble_eq_true rfl, _, _, y170 x_ _ (ok_some ho)⟩
  · cases h
theorem sp_99_ok {sp : Specs} (h : SpecsOK Tryd.prog sp) : SpecsOK Tryd.prog (sp_99 sp) := addK_ok y171 h
def k_math_bits_Div64 : List (Option Cont) := [none, none, none]
def y38 (lo : Int) (y_ : Int) (r0 : Int) (x0 : (Int × Int)) : Option ((Int × Int) ⊕ Int) :=
  if x0.1 ≥ (4294967296 : Int) then
   if IntKind.wrap .u64 (x0.2 + Int.fdiv (IntKind.wrap .u64 (y_ * (2 : Int) ^ min (Int.toNat (IntKind.wrap .u64 r0)) (IntKind.bits .u64))) ((2 : Int) ^ min (32 : Nat) (IntKind.bits .u64))) ≥ (4294967296 : Int) then
    some (.inr (IntKind.wrap .u64 (x0.1 - (1 : Int))))
   else
    some (.inl ((IntKind.wrap .u64 (x0.1 - (1 : Int)), IntKind.wrap .u64 (x0.2 + Int.fdiv (IntKind.wrap .u64 (y_ * (2 : Int) ^ min (Int.toNat (IntKind.wrap .u64 r0)) (IntKind.bits .u64))) ((2 : Int) ^ min (32 : Nat) (IntKind.bits .u64))))))
  else
   if IntKind.wrap .u64 (x0.1 * IntKind.wrap .u64 (↑(BitVec.toNat (BitVec.ofInt (IntKind.bits .u64) (IntKind.wrap .u64 (y_ * (2 : Int) ^ min (Int.toNat (IntKind.wrap .u64 r0)) (IntKind.bits .u64))) &&& BitVec.ofInt (IntKind.bits .u64) (4294967295 : Int))) : Int)) > IntKind.wrap .u64 (IntKind.wrap .u64 ((4294967296 : Int) * x0.2) + Int.fdiv (IntKind.wrap .u64 (lo * (2 : Int) ^ min (Int.toNat (IntKind.wrap .u64 r0)) (IntKind.bits .u64))) ((2 : Int) ^ min (32 : Nat) (IntKind.bits .u64))) then
    if IntKind.wrap .u64 (x0.2 + Int.fdiv (IntKind.wrap .u64 (y_ * (2 : Int) ^ min (Int.toNat (IntKind.wrap .u64 r0)) (IntKind.bits .u64))) ((2 : Int) ^ min (32 : Nat) (IntKind.bits .u64))) ≥ (4294967296 : Int) then
     some (.inr (IntKind.wrap .u64 (x0.1 - (1 : Int))))
    else
     some (.inl ((IntKind.wrap .u64 (x0.1 - (1 : Int)), IntKind.wrap .u64 (x0.2 + Int.fdiv (IntKind.wrap .u64 (y_ * (2 : Int) ^ min (Int.toNat (IntKind.wrap .u64 r0)) (IntKind.bits .u64))) ((2 : Int) ^ min (32 : Nat) (IntKind.bits .u64))))))
   else
    some (.inr x0.1)
def y12 (lo : Int) (y_ : Int) (r0 : Int) (x1 : (Int × Int)) : Option ((Int × Int) ⊕ Int) :=
  if x1.2 ≥ (4294967296 : Int) then
   if IntKind.wrap .u64 (x1.1 + Int.fdiv (IntKind.wrap .u64 (y_ * (2 : Int) ^ min (Int.toNat (IntKind.wrap .u64 r0)) (IntKind.bits .u64))) ((2 : Int) ^ min (32 : Nat) (IntKind.bits .u64))) ≥ (4294967296 : Int) then
    some (.inr (IntKind.wrap .u64 (x1.2 - (1 : Int))))
   else
    some (.inl ((IntKind.wrap .u64 (x1.1 + Int.fdiv (IntKind.wrap .u64 (y_ * (2 : Int) ^ min (Int.toNat (IntKind.wrap .u64 r0)) (IntKind.bits .u64))) ((2 : Int) ^ min (32 : Nat) (IntKind.bits .u64))), IntKind.wrap .u64 (x1.2 - (1 : Int)))))
  else
   if IntKind.wrap .u64 (x1.2 * IntKind.wrap .u64 (↑(BitVec.toNat (BitVec.ofInt (IntKind.bits .u64) (IntKind.wrap .u64 (y_ * (2 : Int) ^ min (Int.toNat (IntKind.wrap .u64 r0)) (IntKind.bits .u64))) &&& BitVec.ofInt (IntKind.bits .u64) (4294967295 : Int))) : Int)) > IntKind.wrap .u64 (IntKind.wrap .u64 ((4294967296 : Int) * x1.1) + IntKind.wrap .u64 (↑(BitVec.toNat (BitVec.ofInt (IntKind.bits .u64) (IntKind.wrap .u64 (lo * (2 : Int) ^ min (Int.toNat (IntKind.wrap .u64 r0)) (IntKind.bits .u64))) &&& BitVec.ofInt (IntKind.bits .u64) (4294967295 : Int))) : Int)) then
    if IntKind.wrap .u64 (x1.1 + Int.fdiv (IntKind.wrap .u64 (y_ * (2 : Int) ^ min (Int.toNat (IntKind.wrap .u64 r0)) (IntKind.bits .u64))) ((2 : Int) ^ min (32 : Nat) (IntKind.bits .u64))) ≥ (4294967296 : Int) then
     some (.inr (IntKind.wrap .u64 (x1.2 - (1 : Int))))
    else
     some (.inl ((IntKind.wrap .u64 (x1.1 + Int.fdiv (IntKind.wrap .u64 (y_ * (2 : Int) ^ min (Int.toNat (IntKind.wrap .u64 r0)) (IntKind.bits .u64))) ((2 : Int) ^ min (32 : Nat) (IntKind.bits .u64))), IntKind.wrap .u64 (x1.2 - (1 : Int)))))
   else
    some (.inr x1.2)
def y16 (hi : Int) (lo : Int) (y_ : Int) (u17 : Int) (r0 : Int) (u43 : Int) : Option (Int × Int) :=
  if (0 : Int) ≤ IntKind.wrap .u64 r0 then
   some ((IntKind.wrap .u64 (IntKind.wrap .u64 (u17 * (4294967296 : Int)) + u43), Int.fdiv (IntKind.wrap .u64 (IntKind.wrap .u64 (IntKind.wrap .u64 (IntKind.wrap .u64 (IntKind.wrap .u64 (IntKind.wrap .u64 (IntKind.wrap .u64 (↑(BitVec.toNat (BitVec.ofInt (IntKind.bits .u64) (IntKind.wrap .u64 (hi * (2 : Int) ^ min (Int.toNat (IntKind.wrap .u64 r0)) (IntKind.bits .u64))) ||| BitVec.ofInt (IntKind.bits .u64) (Int.fdiv lo ((2 : Int) ^ min (Int.toNat (IntKind.wrap .u64 ((64 : Int) - IntKind.wrap .u64 r0))) (IntKind.bits .u64))))) : Int) * (4294967296 : Int)) + Int.fdiv (IntKind.wrap .u64 (lo * (2 : Int) ^ min (Int.toNat (IntKind.wrap .u64 r0)) (IntKind.bits .u64))) ((2 : Int) ^ min (32 : Nat) (IntKind.bits .u64))) - IntKind.wrap .u64 (u17 * IntKind.wrap .u64 (y_ * (2 : Int) ^ min (Int.toNat (IntKind.wrap .u64 r0)) (IntKind.bits .u64)))) * (4294967296 : Int)) + IntKind.wrap .u64 (↑(BitVec.toNat (BitVec.ofInt (IntKind.bits .u64) (IntKind.wrap .u64 (lo * (2 : Int) ^ min (Int.toNat (IntKind.wrap .u64 r0)) (IntKind.bits .u64))) &&& BitVec.ofInt (IntKind.bits .u64) (4294967295 : Int))) : Int)) - IntKind.wrap .u64 (u43 * IntKind.wrap .u64 (y_ * (2 : Int) ^ min (Int.toNat (IntKind.wrap .u64 r0)) (IntKind.bits .u64))))) ((2 : Int) ^ min (Int.toNat (IntKind.wrap .u64 r0)) (IntKind.bits .u64))))
  else none
def y54 (hi : Int) (lo : Int) (y_ : Int) (r0 : Int) (u17 : Int) : Option (Int × Int) :=
  if Int.fdiv (IntKind.wrap .u64 (y_ * (2 : Int) ^ min (Int.toNat (IntKind.wrap .u64 r0)) (IntKind.bits .u64))) ((2 : Int) ^ min (32 : Nat) (IntKind.bits .u64)) ≠ (0 : Int) then
   Option.bind (iter (y12 lo y_ r0) big ((IntKind.wrap .u64 (IntKind.wrap .u64 (IntKind.wrap .u64 (IntKind.wrap .u64 (IntKind.wrap .u64 (↑(BitVec.toNat (BitVec.ofInt (IntKind.bits .u64) (IntKind.wrap .u64 (hi * (2 : Int) ^ min (Int.toNat (IntKind.wrap .u64 r0)) (IntKind.bits .u64))) ||| BitVec.ofInt (IntKind.bits .u64) (Int.fdiv lo ((2 : Int) ^ min (Int.toNat (IntKind.wrap .u64 ((64 : Int) - IntKind.wrap .u64 r0))) (IntKind.bits .u64))))) : Int) * (4294967296 : Int)) + Int.fdiv (IntKind.wrap .u64 (lo * (2 : Int) ^ min (Int.toNat (IntKind.wrap .u64 r0)) (IntKind.bits .u64))) ((2 : Int) ^ min (32 : Nat) (IntKind.bits .u64))) - IntKind.wrap .u64 (u17 * IntKind.wrap .u64 (y_ * (2 : Int) ^ min (Int.toNat (IntKind.wrap .u64 r0)) (IntKind.bits .u64)))) - IntKind.wrap .u64 (IntKind.wrap .u64 (Int.tdiv (IntKind.wrap .u64 (IntKind.wrap .u64 (IntKind.wrap .u64 (IntKind.wrap .u64 (↑(BitVec.toNat (BitVec.ofInt (IntKind.bits .u64) (IntKind.wrap .u64 (hi * (2 : Int) ^ min (Int.toNat (IntKind.wrap .u64 r0)) (IntKind.bits .u64))) ||| BitVec.ofInt (IntKind.bits .u64) (Int.fdiv lo ((2 : Int) ^ min (Int.toNat (IntKind.wrap .u64 ((64 : Int) - IntKind.wrap .u64 r0))) (IntKind.bits .u64))))) : Int) * (4294967296 : Int)) + Int.fdiv (IntKind.wrap .u64 (lo * (2 : Int) ^ min (Int.toNat (IntKind.wrap .u64 r0)) (IntKind.bits .u64))) ((2 : Int) ^ min (32 : Nat) (IntKind.bits .u64))) - IntKind.wrap .u64 (u17 * IntKind.wrap .u64 (y_ * (2 : Int) ^ min (Int.toNat (IntKind.wrap .u64 r0)) (IntKind.bits .u64))))) (Int.fdiv (IntKind.wrap .u64 (y_ * (2 : Int) ^ min (Int.toNat (IntKind.wrap .u64 r0)) (IntKind.bits .u64))) ((2 : Int) ^ min (32 : Nat) (IntKind.bits .u64)))) * Int.fdiv (IntKind.wrap .u64 (y_ * (2 : Int) ^ min (Int.toNat (IntKind.wrap .u64 r0)) (IntKind.bits .u64))) ((2 : Int) ^ min (32 : Nat) (IntKind.bits .u64)))), IntKind.wrap .u64 (Int.tdiv (IntKind.wrap .u64 (IntKind.wrap .u64 (IntKind.wrap .u64 (IntKind.wrap .u64 (↑(BitVec.toNat (BitVec.ofInt (IntKind.bits .u64) (IntKind.wrap .u64 (hi * (2 : Int) ^ min (Int.toNat (IntKind.wrap .u64 r0)) (IntKind.bits .u64))) ||| BitVec.ofInt (IntKind.bits .u64) (Int.fdiv lo ((2 : Int) ^ min (Int.toNat (IntKind.wrap .u64 ((64 : Int) - IntKind.wrap .u64 r0))) (IntKind.bits .u64))))) : Int) * (4294967296 : Int)) + Int.fdiv (IntKind.wrap .u64 (lo * (2 : Int) ^ min (Int.toNat (IntKind.wrap .u64 r0)) (IntKind.bits .u64))) ((2 : Int) ^ min (32 : Nat) (IntKind.bits .u64))) - IntKind.wrap .u64 (u17 * IntKind.wrap .u64 (y_ * (2 : Int) ^ min (Int.toNat (IntKind.wrap .u64 r0)) (IntKind.bits .u64))))) (Int.fdiv (IntKind.wrap .u64 (y_ * (2 : Int) ^ min (Int.toNat (IntKind.wrap .u64 r0)) (IntKind.bits .u64))) ((2 : Int) ^ min (32 : Nat) (IntKind.bits .u64))))))) (y16 hi lo y_ u17 r0)
  else none
def y46 (hi : Int) (lo : Int) (y_ : Int) : Option (Int × Int) :=
  if (y_ == (0 : Int)) = true then
   none   else
   if y_ ≤ hi then
    none    else
    if (hi == (0 : Int)) = true then
     if y_ ≠ (0 : Int) then
      if y_ ≠ (0 : Int) then
       some ((IntKind.wrap .u64 (Int.tdiv lo y_), Int.tmod lo y_))
      else none
     else none
    else
     Option.bind (y11 y_) fun r0 =>
     if (0 : Int) ≤ IntKind.wrap .u64 r0 then
      if (0 : Int) ≤ IntKind.wrap .u64 r0 then
       if (0 : Int) ≤ IntKind.wrap .u64 ((64 : Int) - IntKind.wrap .u64 r0) then
        if (0 : Int) ≤ IntKind.wrap .u64 r0 then
         if Int.fdiv (IntKind.wrap .u64 (y_ * (2 : Int) ^ min (Int.toNat (IntKind.wrap .u64 r0)) (IntKind.bits .u64))) ((2 : Int) ^ min (32 : Nat) (IntKind.bits .u64)) ≠ (0 : Int) then
          Option.bind (iter (y38 lo y_ r0) big ((IntKind.wrap .u64 (Int.tdiv (IntKind.wrap .u64 (↑(BitVec.toNat (BitVec.ofInt (IntKind.bits .u64) (IntKind.wrap .u64 (hi * (2 : Int) ^ min (Int.toNat (IntKind.wrap .u64 r0)) (IntKind.bits .u64))) ||| BitVec.ofInt (IntKind.bits .u64) (Int.fdiv lo ((2 : Int) ^ min (Int.toNat (IntKind.wrap .u64 ((64 : Int) - IntKind.wrap .u64 r0))) (IntKind.bits .u64))))) : Int)) (Int.fdiv (IntKind.wrap .u64 (y_ * (2 : Int) ^ min (Int.toNat (IntKind.wrap .u64 r0)) (IntKind.bits .u64))) ((2 : Int) ^ min (32 : Nat) (IntKind.bits .u64)))), IntKind.wrap .u64 (IntKind.wrap .u64 (↑(BitVec.toNat (BitVec.ofInt (IntKind.bits .u64) (IntKind.wrap .u64 (hi * (2 : Int) ^ min (Int.toNat (IntKind.wrap .u64 r0)) (IntKind.bits .u64))) ||| BitVec.ofInt (IntKind.bits .u64) (Int.fdiv lo ((2 : Int) ^ min (Int.toNat (IntKind.wrap .u64 ((64 : Int) - IntKind.wrap .u64 r0))) (IntKind.bits .u64))))) : Int) - IntKind.wrap .u64 (IntKind.wrap .u64 (Int.tdiv (IntKind.wrap .u64 (↑(BitVec.toNat (BitVec.ofInt (IntKind.bits .u64) (IntKind.wrap .u64 (hi * (2 : Int) ^ min (Int.toNat (IntKind.wrap .u64 r0)) (IntKind.bits .u64))) ||| BitVec.ofInt (IntKind.bits .u64) (Int.fdiv lo ((2 : Int) ^ min (Int.toNat (IntKind.wrap .u64 ((64 : Int) - IntKind.wrap .u64 r0))) (IntKind.bits .u64))))) : Int)) (Int.fdiv (IntKind.wrap .u64 (y_ * (2 : Int) ^ min (Int.toNat (IntKind.wrap .u64 r0)) (IntKind.bits .u64))) ((2 : Int) ^ min (32 : Nat) (IntKind.bits .u64)))) * Int.fdiv (IntKind.wrap .u64 (y_ * (2 : Int) ^ min (Int.toNat (IntKind.wrap .u64 r0)) (IntKind.bits .u64))) ((2 : Int) ^ min (32 : Nat) (IntKind.bits .u64))))))) (y54 hi lo y_ r0)
         else none
        else none
       else none
      else none
     else none
def y132 : List A → Option (Prop × List RV)
  | [.d (.i .u64 hi), .d (.i .u64 lo), .d (.i .u64 y_)] => some (ok (y46 hi lo y_), [.d (.i .u64 ((val (y46 hi lo y_)).1)), .d (.i .u64 ((val (y46 hi lo y_)).2))])
  | _ => none
abbrev sp_89 : Specs → Specs := addK 89 true (pureK k_math_bits_Div64 y132)
set_option maxRecDepth 100000 in
private abbrev e0 (hi : Int) (lo : Int) (y_ : Int) : Int := IntKind.wrap .u64 (IntKind.wrap .u64 (↑(BitVec.toNat (BitVec.ofInt (IntKind.bits .u64) (IntKind.wrap .u64 (hi * (2 : Int) ^ min (Int.toNat (IntKind.wrap .u64 (val (y11 y_)))) (IntKind.bits .u64))) ||| BitVec.ofInt (IntKind.bits .u64) (Int.fdiv lo ((2 : Int) ^ min (Int.toNat (IntKind.wrap .u64 ((64 : Int) - IntKind.wrap .u64 (val (y11 y_))))) (IntKind.bits .u64))))) : Int) * (4294967296 : Int)) + Int.fdiv (IntKind.wrap .u64 (lo * (2 : Int) ^ min (Int.toNat (IntKind.wrap .u64 (val (y11 y_)))) (IntKind.bits .u64))) ((2 : Int) ^ min (32 : Nat) (IntKind.bits .u64))
private abbrev e1 (y_ : Int) : Int := IntKind.wrap .u64 (y_ * (2 : Int) ^ min (Int.toNat (IntKind.wrap .u64 (val (y11 y_)))) (IntKind.bits .u64))
private abbrev e2 (y_ : Int) : Int := IntKind.wrap .u64 (val (y11 y_))
private abbrev e3  : Int := (2 : Int) ^ min (32 : Nat) (IntKind.bits .u64)
private abbrev e4 (lo : Int) (y_ : Int) : Int := IntKind.wrap .u64 (lo * (2 : Int) ^ min (Int.toNat (e2 y_)) (IntKind.bits .u64))
private abbrev e5 (y_ : Int) : Int := val (y11 y_)
private abbrev e6 (lo : Int) (y_ : Int) : Int := Int.fdiv lo ((2 : Int) ^ min (Int.toNat (IntKind.wrap .u64 ((64 : Int) - IntKind.wrap .u64 (e5 y_)))) (IntKind.bits .u64))
private abbrev e7 (hi : Int) (y_ : Int) : Int := IntKind.wrap .u64 (hi * (2 : Int) ^ min (Int.toNat (e2 y_)) (IntKind.bits .u64))
private abbrev e8 (hi : Int) (lo : Int) (y_ : Int) : Int := IntKind.wrap .u64 (↑(BitVec.toNat (BitVec.ofInt (IntKind.bits .u64) (e7 hi y_) ||| BitVec.ofInt (IntKind.bits .u64) (e6 lo y_))) : Int)
private abbrev e9 (y_ : Int) : Int := (2 : Int) ^ min (Int.toNat (e2 y_)) (IntKind.bits .u64)
theorem math_bits_Div64_vc (hi : Int) (lo : Int) (y_ : Int) (r : Int × Int) (h : Option.bind (y46 hi lo y_) some = some r) : runF Tryd.f89 ((sp_99 sp0)) (fun gs id _ => match id with
 | 0 => some ⟨(Int × Int) × Nat, fun z => ⟨[(2, .w (.c (.d (.i .u64 (e1 y_))))), (8, .w (.c (.d (.i .u64 (e2 y_))))), (9, .w (.c (.d (.i .u64 (Int.fdiv (e1 y_) (e3 )))))), (10, .w (.c (.d (.i .u64 (IntKind.wrap .u64 (↑(BitVec.toNat (BitVec.ofInt (IntKind.bits .u64) (e1 y_) &&& BitVec.ofInt (IntKind.bits .u64) (4294967295 : Int))) : Int)))))), (11, .w (.c (.d (.i .u64 (e8 hi lo y_))))), (13, .w (.c (.d (.i .u64 (Int.fdiv (e4 lo y_) (e3 )))))), (14, .w (.c (.d (.i .u64 (IntKind.wrap .u64 (↑(BitVec.toNat (BitVec.ofInt (IntKind.bits .u64) (e4 lo y_) &&& BitVec.ofInt (IntKind.bits .u64) (4294967295 : Int))) : Int)))))), (15, .w (.c (.d (.i .u64 (Prod.fst (Prod.fst z)))))), (16, .w (.c (.d (.i .u64 (Prod.snd (Prod.fst z))))))], [], 3⟩, fun z => Option.bind (iter (y38 lo y_ (e5 y_)) (Prod.snd z) (Prod.fst z)) (fun y0 => Option.bind (y54 hi lo y_ (e5 y_) y0) some) = some r, fun z => Prod.snd z⟩
 | 2 => some ⟨Int × (Int × Int) × Nat, fun z => ⟨[(2, .w (.c (.d (.i .u64 (e1 y_))))), (8, .w (.c (.d (.i .u64 (e2 y_))))), (9, .w (.c (.d (.i .u64 (Int.fdiv (e1 y_) (e3 )))))), (10, .w (.c (.d (.i .u64 (IntKind.wrap .u64 (↑(BitVec.toNat (BitVec.ofInt (IntKind.bits .u64) (e1 y_) &&& BitVec.ofInt (IntKind.bits .u64) (4294967295 : Int))) : Int)))))), (14, .w (.c (.d (.i .u64 (IntKind.wrap .u64 (↑(BitVec.toNat (BitVec.ofInt (IntKind.bits .u64) (e4 lo y_) &&& BitVec.ofInt (IntKind.bits .u64) (4294967295 : Int))) : Int)))))), (15, .w (.c (.d (.i .u64 (Prod.fst z))))), (16, .w (.c (.d (.i .u64 (Prod.fst (Prod.fst (Prod.snd z))))))), (17, .w (.c (.d (.i .u64 (IntKind.wrap .u64 (IntKind.wrap .u64 (e0 hi lo y_) - IntKind.wrap .u64 (Prod.fst z * IntKind.wrap .u64 (y_ * (2 : Int) ^ min (Int.toNat (e2 y_)) (IntKind.bits .u64))))))))), (18, .w (.c (.d (.i .u64 (Prod.snd (Prod.fst (Prod.snd z)))))))], [], 3⟩, fun z => Option.bind (iter (y12 lo y_ (e5 y_)) (Prod.snd (Prod.snd z)) (Prod.fst (Prod.snd z))) (fun y0 => Option.bind (y16 hi lo y_ (Prod.fst z) (e5 y_) y0) some) = some r, fun z => Prod.snd (Prod.snd z)⟩
 | _ => none) [.d (.i .u64 hi), .d (.i .u64 lo), .d (.i .u64 y_)] [.d (.i .u64 r.1), .d (.i .u64 r.2)] := by
  refine Eq.mp (by kernel_rfl : (
 Br (y_ == (0 : Int))
   (False)
 (Br (decide (y_ ≤ hi))
   (False)
 (Br (hi == (0 : Int))
   ((Ob (y_ ≠ (0 : Int)) ∧
 (Ob (y_ ≠ (0 : Int)) ∧
 (Ob (True) ∧
 (Ob (True) ∧
 (Ob (IntKind.wrap .u64 (Int.tdiv lo y_) = r.1) ∧
 (Ob (Int.tmod lo y_ = r.2) ∧
 True)))))))
   ((Ob (ok (y11 y_)) ∧
 (Ob (True) ∧
 (Ob ((0 : Int) ≤ IntKind.wrap .u64 (e5 y_)) ∧
 (Ob ((0 : Int) ≤ (32 : Int)) ∧
 (Ob ((0 : Int) ≤ IntKind.wrap .u64 (e5 y_)) ∧
 (Ob ((0 : Int) ≤ IntKind.wrap .u64 ((64 : Int) - IntKind.wrap .u64 (e5 y_))) ∧
 (Ob ((0 : Int) ≤ IntKind.wrap .u64 (e5 y_)) ∧
 (Ob ((0 : Int) ≤ (32 : Int)) ∧
 (Ob (Int.fdiv (e1 y_) (e3 ) ≠ (0 : Int)) ∧
   ((∃ (v0 : (Int × Int) × Nat), (Ob ((Option.bind (iter (y38 lo y_ (e5 y_)) v0.2 v0.1) fun y0 => Option.bind (y54 hi lo y_ (e5 y_) y0) some) = some r) ∧
 (Ob (IntKind.wrap .u64 (y_ * (2 : Int) ^ min (Int.toNat (e2 y_)) (IntKind.bits .u64)) = IntKind.wrap .u64 (y_ * (2 : Int) ^ min (Int.toNat (e2 y_)) (IntKind.bits .u64))) ∧
 (Ob (IntKind.wrap .u64 (e5 y_) = IntKind.wrap .u64 (e5 y_)) ∧
 (Ob (Int.fdiv (e1 y_) (e3 ) = Int.fdiv (e1 y_) (e3 )) ∧
 (Ob (IntKind.wrap .u64 (↑(BitVec.toNat (BitVec.ofInt (IntKind.bits .u64) (e1 y_) &&& BitVec.ofInt (IntKind.bits .u64) (4294967295 : Int))) : Int) = IntKind.wrap .u64 (↑(BitVec.toNat (BitVec.ofInt (IntKind.bits .u64) (e1 y_) &&& BitVec.ofInt (IntKind.bits .u64) (4294967295 : Int))) : Int)) ∧
 (Ob (IntKind.wrap .u64 (↑(BitVec.toNat (BitVec.ofInt (IntKind.bits .u64) (e7 hi y_) ||| BitVec.ofInt (IntKind.bits .u64) (e6 lo y_))) : Int) = IntKind.wrap .u64 (↑(BitVec.toNat (BitVec.ofInt (IntKind.bits .u64) (e7 hi y_) ||| BitVec.ofInt (IntKind.bits .u64) (e6 lo y_))) : Int)) ∧
 (Ob (Int.fdiv (e4 lo y_) (e3 ) = Int.fdiv (e4 lo y_) (e3 )) ∧
 (Ob (IntKind.wrap .u64 (↑(BitVec.toNat (BitVec.ofInt (IntKind.bits .u64) (e4 lo y_) &&& BitVec.ofInt (IntKind.bits .u64) (4294967295 : Int))) : Int) = IntKind.wrap .u64 (↑(BitVec.toNat (BitVec.ofInt (IntKind.bits .u64) (e4 lo y_) &&& BitVec.ofInt (IntKind.bits .u64) (4294967295 : Int))) : Int)) ∧
 (Ob (IntKind.wrap .u64 (Int.tdiv (e8 hi lo y_) (Int.fdiv (e1 y_) (e3 ))) = v0.1.1) ∧
 (Ob (IntKind.wrap .u64 (IntKind.wrap .u64 (↑(BitVec.toNat (BitVec.ofInt (IntKind.bits .u64) (e7 hi y_) ||| BitVec.ofInt (IntKind.bits .u64) (e6 lo y_))) : Int) - IntKind.wrap .u64 (IntKind.wrap .u64 (Int.tdiv (e8 hi lo y_) (Int.fdiv (e1 y_) (e3 ))) * Int.fdiv (e1 y_) (e3 ))) = v0.1.2) ∧
 True))))))))))) ∧
   (∀ (v0 : (Int × Int) × Nat), ((Option.bind (iter (y38 lo y_ (e5 y_)) v0.2 v0.1) fun y0 => Option.bind (y54 hi lo y_ (e5 y_) y0) some) = some r →
 Br (decide (v0.1.1 ≥ (4294967296 : Int)))
 (Br (decide (IntKind.wrap .u64 (v0.1.2 + Int.fdiv (e1 y_) (e3 )) ≥ (4294967296 : Int)))
   ((Ob (Int.fdiv (e1 y_) (e3 ) ≠ (0 : Int)) ∧
   ((∃ (v1 : Int × (Int × Int) × Nat), (Ob ((Option.bind (iter (y12 lo y_ (e5 y_)) v1.2.2 v1.2.1) fun y0 => Option.bind (y16 hi lo y_ v1.1 (e5 y_) y0) some) = some r) ∧
 (Ob (IntKind.wrap .u64 (y_ * (2 : Int) ^ min (Int.toNat (e2 y_)) (IntKind.bits .u64)) = IntKind.wrap .u64 (y_ * (2 : Int) ^ min (Int.toNat (e2 y_)) (IntKind.bits .u64))) ∧
 (Ob (IntKind.wrap .u64 (e5 y_) = IntKind.wrap .u64 (e5 y_)) ∧
 (Ob (Int.fdiv (e1 y_) (e3 ) = Int.fdiv (e1 y_) (e3 )) ∧
 (Ob (IntKind.wrap .u64 (↑(BitVec.toNat (BitVec.ofInt (IntKind.bits .u64) (e1 y_) &&& BitVec.ofInt (IntKind.bits .u64) (4294967295 : Int))) : Int) = IntKind.wrap .u64 (↑(BitVec.toNat (BitVec.ofInt (IntKind.bits .u64) (e1 y_) &&& BitVec.ofInt (IntKind.bits .u64) (4294967295 : Int))) : Int)) ∧
 (Ob (IntKind.wrap .u64 (↑(BitVec.toNat (BitVec.ofInt (IntKind.bits .u64) (e4 lo y_) &&& BitVec.ofInt (IntKind.bits .u64) (4294967295 : Int))) : Int) = IntKind.wrap .u64 (↑(BitVec.toNat (BitVec.ofInt (IntKind.bits .u64) (e4 lo y_) &&& BitVec.ofInt (IntKind.bits .u64) (4294967295 : Int))) : Int)) ∧
 (Ob (IntKind.wrap .u64 (v0.1.1 - (1 : Int)) = v1.1) ∧
 (Ob (IntKind.wrap .u64 (IntKind.wrap .u64 (IntKind.wrap .u64 (e0 hi lo y_) - IntKind.wrap .u64 (IntKind.wrap .u64 (v0.1.1 - (1 : Int)) * IntKind.wrap .u64 (y_ * (2 : Int) ^ min (Int.toNat (e2 y_)) (IntKind.bits .u64)))) - IntKind.wrap .u64 (IntKind.wrap .u64 (Int.tdiv (IntKind.wrap .u64 (IntKind.wrap .u64 (e0 hi lo y_) - IntKind.wrap .u64 (IntKind.wrap .u64 (v0.1.1 - (1 : Int)) * IntKind.wrap .u64 (y_ * (2 : Int) ^ min (Int.toNat (e2 y_)) (IntKind.bits .u64))))) (Int.fdiv (e1 y_) (e3 ))) * Int.fdiv (e1 y_) (e3 ))) = v1.2.1.1) ∧
 (Ob (IntKind.wrap .u64 (IntKind.wrap .u64 (e0 hi lo y_) - IntKind.wrap .u64 (IntKind.wrap .u64 (v0.1.1 - (1 : Int)) * IntKind.wrap .u64 (y_ * (2 : Int) ^ min (Int.toNat (e2 y_)) (IntKind.bits .u64)))) = IntKind.wrap .u64 (IntKind.wrap .u64 (e0 hi lo y_) - IntKind.wrap .u64 (v1.1 * IntKind.wrap .u64 (y_ * (2 : Int) ^ min (Int.toNat (e2 y_)) (IntKind.bits .u64))))) ∧
 (Ob (IntKind.wrap .u64 (Int.tdiv (IntKind.wrap .u64 (IntKind.wrap .u64 (e0 hi lo y_) - IntKind.wrap .u64 (IntKind.wrap .u64 (v0.1.1 - (1 : Int)) * IntKind.wrap .u64 (y_ * (2 : Int) ^ min (Int.toNat (e2 y_)) (IntKind.bits .u64))))) (Int.fdiv (e1 y_) (e3 ))) = v1.2.1.2) ∧
 True))))))))))) ∧
   (∀ (v1 : Int × (Int × Int) × Nat), ((Option.bind (iter (y12 lo y_ (e5 y_)) v1.2.2 v1.2.1) fun y0 => Option.bind (y16 hi lo y_ v1.1 (e5 y_) y0) some) = some r →
 Br (decide (v1.2.1.2 ≥ (4294967296 : Int)))
 (Br (decide (IntKind.wrap .u64 (v1.2.1.1 + Int.fdiv (e1 y_) (e3 )) ≥ (4294967296 : Int)))
   ((Ob ((0 : Int) ≤ IntKind.wrap .u64 (e5 y_)) ∧
 (Ob (True) ∧
 (Ob (True) ∧
 (Ob (IntKind.wrap .u64 (IntKind.wrap .u64 (v1.1 * (4294967296 : Int)) + IntKind.wrap .u64 (v1.2.1.2 - (1 : Int))) = r.1) ∧
 (Ob (Int.fdiv (IntKind.wrap .u64 (IntKind.wrap .u64 (IntKind.wrap .u64 (IntKind.wrap .u64 (IntKind.wrap .u64 (e0 hi lo y_) - IntKind.wrap .u64 (v1.1 * IntKind.wrap .u64 (y_ * (2 : Int) ^ min (Int.toNat (e2 y_)) (IntKind.bits .u64)))) * (4294967296 : Int)) + IntKind.wrap .u64 (↑(BitVec.toNat (BitVec.ofInt (IntKind.bits .u64) (e4 lo y_) &&& BitVec.ofInt (IntKind.bits .u64) (4294967295 : Int))) : Int)) - IntKind.wrap .u64 (IntKind.wrap .u64 (v1.2.1.2 - (1 : Int)) * IntKind.wrap .u64 (y_ * (2 : Int) ^ min (Int.toNat (e2 y_)) (IntKind.bits .u64))))) (e9 y_) = r.2) ∧
 True))))))
   ((∃ (v2 : Int × (Int × Int) × Nat), (Ob ((Option.bind (iter (y12 lo y_ (e5 y_)) v2.2.2 v2.2.1) fun y0 => Option.bind (y16 hi lo y_ v2.1 (e5 y_) y0) some) = some r) ∧
 (Ob (v2.2.2 < v1.2.2) ∧
 (Ob (IntKind.wrap .u64 (y_ * (2 : Int) ^ min (Int.toNat (e2 y_)) (IntKind.bits .u64)) = IntKind.wrap .u64 (y_ * (2 : Int) ^ min (Int.toNat (e2 y_)) (IntKind.bits .u64))) ∧
 (Ob (IntKind.wrap .u64 (e5 y_) = IntKind.wrap .u64 (e5 y_)) ∧
 (Ob (Int.fdiv (e1 y_) (e3 ) = Int.fdiv (e1 y_) (e3 )) ∧
 (Ob (IntKind.wrap .u64 (↑(BitVec.toNat (BitVec.ofInt (IntKind.bits .u64) (e1 y_) &&& BitVec.ofInt (IntKind.bits .u64) (4294967295 : Int))) : Int) = IntKind.wrap .u64 (↑(BitVec.toNat (BitVec.ofInt (IntKind.bits .u64) (e1 y_) &&& BitVec.ofInt (IntKind.bits .u64) (4294967295 : Int))) : Int)) ∧
 (Ob (IntKind.wrap .u64 (↑(BitVec.toNat (BitVec.ofInt (IntKind.bits .u64) (e4 lo y_) &&& BitVec.ofInt (IntKind.bits .u64) (4294967295 : Int))) : Int) = IntKind.wrap .u64 (↑(BitVec.toNat (BitVec.ofInt (IntKind.bits .u64) (e4 lo y_) &&& BitVec.ofInt (IntKind.bits .u64) (4294967295 : Int))) : Int)) ∧
 (Ob (v1.1 = v2.1) ∧
 (Ob (IntKind.wrap .u64 (v1.2.1.1 + Int.fdiv (e1 y_) (e3 )) = v2.2.1.1) ∧
 (Ob (IntKind.wrap .u64 (IntKind.wrap .u64 (e0 hi lo y_) - IntKind.wrap .u64 (v1.1 * IntKind.wrap .u64 (y_ * (2 : Int) ^ min (Int.toNat (e2 y_)) (IntKind.bits .u64)))) = IntKind.wrap .u64 (IntKind.wrap .u64 (e0 hi lo y_) - IntKind.wrap .u64 (v2.1 * IntKind.wrap .u64 (y_ * (2 : Int) ^ min (Int.toNat (e2 y_)) (IntKind.bits .u64))))) ∧
 (Ob (IntKind.wrap .u64 (v1.2.1.2 - (1 : Int)) = v2.2.1.2) ∧
 True))))))))))))))
 (Br (decide (IntKind.wrap .u64 (v1.2.1.2 * IntKind.wrap .u64 (↑(BitVec.toNat (BitVec.ofInt (IntKind.bits .u64) (e1 y_) &&& BitVec.ofInt (IntKind.bits .u64) (4294967295 : Int))) : Int)) > IntKind.wrap .u64 (IntKind.wrap .u64 ((4294967296 : Int) * v1.2.1.1) + IntKind.wrap .u64 (↑(BitVec.toNat (BitVec.ofInt (IntKind.bits .u64) (e4 lo y_) &&& BitVec.ofInt (IntKind.bits .u64) (4294967295 : Int))) : Int))))
 (Br (decide (IntKind.wrap .u64 (v1.2.1.1 + Int.fdiv (e1 y_) (e3 )) ≥ (4294967296 : Int)))
   ((Ob ((0 : Int) ≤ IntKind.wrap .u64 (e5 y_)) ∧
 (Ob (True) ∧
 (Ob (True) ∧
 (Ob (IntKind.wrap .u64 (IntKind.wrap .u64 (v1.1 * (4294967296 : Int)) + IntKind.wrap .u64 (v1.2.1.2 - (1 : Int))) = r.1) ∧
 (Ob (Int.fdiv (IntKind.wrap .u64 (IntKind.wrap .u64 (IntKind.wrap .u64 (IntKind.wrap .u64 (IntKind.wrap .u64 (e0 hi lo y_) - IntKind.wrap .u64 (v1.1 * IntKind.wrap .u64 (y_ * (2 : Int) ^ min (Int.toNat (e2 y_)) (IntKind.bits .u64)))) * (4294967296 : Int)) + IntKind.wrap .u64 (↑(BitVec.toNat (BitVec.ofInt (IntKind.bits .u64) (e4 lo y_) &&& BitVec.ofInt (IntKind.bits .u64) (4294967295 : Int))) : Int)) - IntKind.wrap .u64 (IntKind.wrap .u64 (v1.2.1.2 - (1 : Int)) * IntKind.wrap .u64 (y_ * (2 : Int) ^ min (Int.toNat (e2 y_)) (IntKind.bits .u64))))) (e9 y_) = r.2) ∧
 True))))))
   ((∃ (v2 : Int × (Int × Int) × Nat), (Ob ((Option.bind (iter (y12 lo y_ (e5 y_)) v2.2.2 v2.2.1) fun y0 => Option.bind (y16 hi lo y_ v2.1 (e5 y_) y0) some) = some r) ∧
 (Ob (v2.2.2 < v1.2.2) ∧
 (Ob (IntKind.wrap .u64 (y_ * (2 : Int) ^ min (Int.toNat (e2 y_)) (IntKind.bits .u64)) = IntKind.wrap .u64 (y_ * (2 : Int) ^ min (Int.toNat (e2 y_)) (IntKind.bits .u64))) ∧
 (Ob (IntKind.wrap .u64 (e5 y_) = IntKind.wrap .u64 (e5 y_)) ∧
 (Ob (Int.fdiv (e1 y_) (e3 ) = Int.fdiv (e1 y_) (e3 )) ∧
 (Ob (IntKind.wrap .u64 (↑(BitVec.toNat (BitVec.ofInt (IntKind.bits .u64) (e1 y_) &&& BitVec.ofInt (IntKind.bits .u64) (4294967295 : Int))) : Int) = IntKind.wrap .u64 (↑(BitVec.toNat (BitVec.ofInt (IntKind.bits .u64) (e1 y_) &&& BitVec.ofInt (IntKind.bits .u64) (4294967295 : Int))) : Int)) ∧
 (Ob (IntKind.wrap .u64 (↑(BitVec.toNat (BitVec.ofInt (IntKind.bits .u64) (e4 lo y_) &&& BitVec.ofInt (IntKind.bits .u64) (4294967295 : Int))) : Int) = IntKind.wrap .u64 (↑(BitVec.toNat (BitVec.ofInt (IntKind.bits .u64) (e4 lo y_) &&& BitVec.ofInt (IntKind.bits .u64) (4294967295 : Int))) : Int)) ∧
 (Ob (v1.1 = v2.1) ∧
 (Ob (IntKind.wrap .u64 (v1.2.1.1 + Int.fdiv (e1 y_) (e3 )) = v2.2.1.1) ∧
 (Ob (IntKind.wrap .u64 (IntKind.wrap .u64 (e0 hi lo y_) - IntKind.wrap .u64 (v1.1 * IntKind.wrap .u64 (y_ * (2 : Int) ^ min (Int.toNat (e2 y_)) (IntKind.bits .u64)))) = IntKind.wrap .u64 (IntKind.wrap .u64 (e0 hi lo y_) - IntKind.wrap .u64 (v2.1 * IntKind.wrap .u64 (y_ * (2 : Int) ^ min (Int.toNat (e2 y_)) (IntKind.bits .u64))))) ∧
 (Ob (IntKind.wrap .u64 (v1.2.1.2 - (1 : Int)) = v2.2.1.2) ∧
 True))))))))))))))
   ((Ob ((0 : Int) ≤ IntKind.wrap .u64 (e5 y_)) ∧
 (Ob (True) ∧
 (Ob (True) ∧
 (Ob (IntKind.wrap .u64 (IntKind.wrap .u64 (v1.1 * (4294967296 : Int)) + v1.2.1.2) = r.1) ∧
 (Ob (Int.fdiv (IntKind.wrap .u64 (IntKind.wrap .u64 (IntKind.wrap .u64 (IntKind.wrap .u64 (IntKind.wrap .u64 (e0 hi lo y_) - IntKind.wrap .u64 (v1.1 * IntKind.wrap .u64 (y_ * (2 : Int) ^ min (Int.toNat (e2 y_)) (IntKind.bits .u64)))) * (4294967296 : Int)) + IntKind.wrap .u64 (↑(BitVec.toNat (BitVec.ofInt (IntKind.bits .u64) (e4 lo y_) &&& BitVec.ofInt (IntKind.bits .u64) (4294967295 : Int))) : Int)) - IntKind.wrap .u64 (v1.2.1.2 * IntKind.wrap .u64 (y_ * (2 : Int) ^ min (Int.toNat (e2 y_)) (IntKind.bits .u64))))) (e9 y_) = r.2) ∧
 True))))))))))))
   ((∃ (v1 : (Int × Int) × Nat), (Ob ((Option.bind (iter (y38 lo y_ (e5 y_)) v1.2 v1.1) fun y0 => Option.bind (y54 hi lo y_ (e5 y_) y0) some) = some r) ∧
 (Ob (v1.2 < v0.2) ∧
 (Ob (IntKind.wrap .u64 (y_ * (2 : Int) ^ min (Int.toNat (e2 y_)) (IntKind.bits .u64)) = IntKind.wrap .u64 (y_ * (2 : Int) ^ min (Int.toNat (e2 y_)) (IntKind.bits .u64))) ∧
 (Ob (IntKind.wrap .u64 (e5 y_) = IntKind.wrap .u64 (e5 y_)) ∧
 (Ob (Int.fdiv (e1 y_) (e3 ) = Int.fdiv (e1 y_) (e3 )) ∧
 (Ob (IntKind.wrap .u64 (↑(BitVec.toNat (BitVec.ofInt (IntKind.bits .u64) (e1 y_) &&& BitVec.ofInt (IntKind.bits .u64) (4294967295 : Int))) : Int) = IntKind.wrap .u64 (↑(BitVec.toNat (BitVec.ofInt (IntKind.bits .u64) (e1 y_) &&& BitVec.ofInt (IntKind.bits .u64) (4294967295 : Int))) : Int)) ∧
 (Ob (IntKind.wrap .u64 (↑(BitVec.toNat (BitVec.ofInt (IntKind.bits .u64) (e7 hi y_) ||| BitVec.ofInt (IntKind.bits .u64) (e6 lo y_))) : Int) = IntKind.wrap .u64 (↑(BitVec.toNat (BitVec.ofInt (IntKind.bits .u64) (e7 hi y_) ||| BitVec.ofInt (IntKind.bits .u64) (e6 lo y_))) : Int)) ∧
 (Ob (Int.fdiv (e4 lo y_) (e3 ) = Int.fdiv (e4 lo y_) (e3 )) ∧
 (Ob (IntKind.wrap .u64 (↑(BitVec.toNat (BitVec.ofInt (IntKind.bits .u64) (e4 lo y_) &&& BitVec.ofInt (IntKind.bits .u64) (4294967295 : Int))) : Int) = IntKind.wrap .u64 (↑(BitVec.toNat (BitVec.ofInt (IntKind.bits .u64) (e4 lo y_) &&& BitVec.ofInt (IntKind.bits .u64) (4294967295 : Int))) : Int)) ∧
 (Ob (IntKind.wrap .u64 (v0.1.1 - (1 : Int)) = v1.1.1) ∧
 (Ob (IntKind.wrap .u64 (v0.1.2 + Int.fdiv (e1 y_) (e3 )) = v1.1.2) ∧
 True))))))))))))))
 (Br (decide (IntKind.wrap .u64 (v0.1.1 * IntKind.wrap .u64 (↑(BitVec.toNat (BitVec.ofInt (IntKind.bits .u64) (e1 y_) &&& BitVec.ofInt (IntKind.bits .u64) (4294967295 : Int))) : Int)) > IntKind.wrap .u64 (IntKind.wrap .u64 ((4294967296 : Int) * v0.1.2) + Int.fdiv (e4 lo y_) (e3 ))))
 (Br (decide (IntKind.wrap .u64 (v0.1.2 + Int.fdiv (e1 y_) (e3 )) ≥ (4294967296 : Int)))
   ((Ob (Int.fdiv (e1 y_) (e3 ) ≠ (0 : Int)) ∧
   ((∃ (v1 : Int × (Int × Int) × Nat), (Ob ((Option.bind (iter (y12 lo y_ (e5 y_)) v1.2.2 v1.2.1) fun y0 => Option.bind (y16 hi lo y_ v1.1 (e5 y_) y0) some) = some r) ∧
 (Ob (IntKind.wrap .u64 (y_ * (2 : Int) ^ min (Int.toNat (e2 y_)) (IntKind.bits .u64)) = IntKind.wrap .u64 (y_ * (2 : Int) ^ min (Int.toNat (e2 y_)) (IntKind.bits .u64))) ∧
 (Ob (IntKind.wrap .u64 (e5 y_) = IntKind.wrap .u64 (e5 y_)) ∧
 (Ob (Int.fdiv (e1 y_) (e3 ) = Int.fdiv (e1 y_) (e3 )) ∧
 (Ob (IntKind.wrap .u64 (↑(BitVec.toNat (BitVec.ofInt (IntKind.bits .u64) (e1 y_) &&& BitVec.ofInt (IntKind.bits .u64) (4294967295 : Int))) : Int) = IntKind.wrap .u64 (↑(BitVec.toNat (BitVec.ofInt (IntKind.bits .u64) (e1 y_) &&& BitVec.ofInt (IntKind.bits .u64) (4294967295 : Int))) : Int)) ∧
 (Ob (IntKind.wrap .u64 (↑(BitVec.toNat (BitVec.ofInt (IntKind.bits .u64) (e4 lo y_) &&& BitVec.ofInt (IntKind.bits .u64) (4294967295 : Int))) : Int) = IntKind.wrap .u64 (↑(BitVec.toNat (BitVec.ofInt (IntKind.bits .u64) (e4 lo y_) &&& BitVec.ofInt (IntKind.bits .u64) (4294967295 : Int))) : Int)) ∧
 (Ob (IntKind.wrap .u64 (v0.1.1 - (1 : Int)) = v1.1) ∧
 (Ob (IntKind.wrap .u64 (IntKind.wrap .u64 (IntKind.wrap .u64 (e0 hi lo y_) - IntKind.wrap .u64 (IntKind.wrap .u64 (v0.1.1 - (1 : Int)) * IntKind.wrap .u64 (y_ * (2 : Int) ^ min (Int.toNat (e2 y_)) (IntKind.bits .u64)))) - IntKind.wrap .u64 (IntKind.wrap .u64 (Int.tdiv (IntKind.wrap .u64 (IntKind.wrap .u64 (e0 hi lo y_) - IntKind.wrap .u64 (IntKind.wrap .u64 (v0.1.1 - (1 : Int)) * IntKind.wrap .u64 (y_ * (2 : Int) ^ min (Int.toNat (e2 y_)) (IntKind.bits .u64))))) (Int.fdiv (e1 y_) (e3 ))) * Int.fdiv (e1 y_) (e3 ))) = v1.2.1.1) ∧
 (Ob (IntKind.wrap .u64 (IntKind.wrap .u64 (e0 hi lo y_) - IntKind.wrap .u64 (IntKind.wrap .u64 (v0.1.1 - (1 : Int)) * IntKind.wrap .u64 (y_ * (2 : Int) ^ min (Int.toNat (e2 y_)) (IntKind.bits .u64)))) = IntKind.wrap .u64 (IntKind.wrap .u64 (e0 hi lo y_) - IntKind.wrap .u64 (v1.1 * IntKind.wrap .u64 (y_ * (2 : Int) ^ min (Int.toNat (e2 y_)) (IntKind.bits .u64))))) ∧
 (Ob (IntKind.wrap .u64 (Int.tdiv (IntKind.wrap .u64 (IntKind.wrap .u64 (e0 hi lo y_) - IntKind.wrap .u64 (IntKind.wrap .u64 (v0.1.1 - (1 : Int)) * IntKind.wrap .u64 (y_ * (2 : Int) ^ min (Int.toNat (e2 y_)) (IntKind.bits .u64))))) (Int.fdiv (e1 y_) (e3 ))) = v1.2.1.2) ∧
 True))))))))))) ∧
   (∀ (v1 : Int × (Int × Int) × Nat), ((Option.bind (iter (y12 lo y_ (e5 y_)) v1.2.2 v1.2.1) fun y0 => Option.bind (y16 hi lo y_ v1.1 (e5 y_) y0) some) = some r →
 Br (decide (v1.2.1.2 ≥ (4294967296 : Int)))
 (Br (decide (IntKind.wrap .u64 (v1.2.1.1 + Int.fdiv (e1 y_) (e3 )) ≥ (4294967296 : Int)))
   ((Ob ((0 : Int) ≤ IntKind.wrap .u64 (e5 y_)) ∧
 (Ob (True) ∧
 (Ob (True) ∧
 (Ob (IntKind.wrap .u64 (IntKind.wrap .u64 (v1.1 * (4294967296 : Int)) + IntKind.wrap .u64 (v1.2.1.2 - (1 : Int))) = r.1) ∧
 (Ob (Int.fdiv (IntKind.wrap .u64 (IntKind.wrap .u64 (IntKind.wrap .u64 (IntKind.wrap .u64 (IntKind.wrap .u64 (e0 hi lo y_) - IntKind.wrap .u64 (v1.1 * IntKind.wrap .u64 (y_ * (2 : Int) ^ min (Int.toNat (e2 y_)) (IntKind.bits .u64)))) * (4294967296 : Int)) + IntKind.wrap .u64 (↑(BitVec.toNat (BitVec.ofInt (IntKind.bits .u64) (e4 lo y_) &&& BitVec.ofInt (IntKind.bits .u64) (4294967295 : Int))) : Int)) - IntKind.wrap .u64 (IntKind.wrap .u64 (v1.2.1.2 - (1 : Int)) * IntKind.wrap .u64 (y_ * (2 : Int) ^ min (Int.toNat (e2 y_)) (IntKind.bits .u64))))) (e9 y_) = r.2) ∧
 True))))))
   ((∃ (v2 : Int × (Int × Int) × Nat), (Ob ((Option.bind (iter (y12 lo y_ (e5 y_)) v2.2.2 v2.2.1) fun y0 => Option.bind (y16 hi lo y_ v2.1 (e5 y_) y0) some) = some r) ∧
 (Ob (v2.2.2 < v1.2.2) ∧
 (Ob (IntKind.wrap .u64 (y_ * (2 : Int) ^ min (Int.toNat (e2 y_)) (IntKind.bits .u64)) = IntKind.wrap .u64 (y_ * (2 : Int) ^ min (Int.toNat (e2 y_)) (IntKind.bits .u64))) ∧
 (Ob (IntKind.wrap .u64 (e5 y_) = IntKind.wrap .u64 (e5 y_)) ∧
 (Ob (Int.fdiv (e1 y_) (e3 ) = Int.fdiv (e1 y_) (e3 )) ∧
 (Ob (IntKind.wrap .u64 (↑(BitVec.toNat (BitVec.ofInt (IntKind.bits .u64) (e1 y_) &&& BitVec.ofInt (IntKind.bits .u64) (4294967295 : Int))) : Int) = IntKind.wrap .u64 (↑(BitVec.toNat (BitVec.ofInt (IntKind.bits .u64) (e1 y_) &&& BitVec.ofInt (IntKind.bits .u64) (4294967295 : Int))) : Int)) ∧
 (Ob (IntKind.wrap .u64 (↑(BitVec.toNat (BitVec.ofInt (IntKind.bits .u64) (e4 lo y_) &&& BitVec.ofInt (IntKind.bits .u64) (4294967295 : Int))) : Int) = IntKind.wrap .u64 (↑(BitVec.toNat (BitVec.ofInt (IntKind.bits .u64) (e4 lo y_) &&& BitVec.ofInt (IntKind.bits .u64) (4294967295 : Int))) : Int)) ∧
 (Ob (v1.1 = v2.1) ∧
 (Ob (IntKind.wrap .u64 (v1.2.1.1 + Int.fdiv (e1 y_) (e3 )) = v2.2.1.1) ∧
 (Ob (IntKind.wrap .u64 (IntKind.wrap .u64 (e0 hi lo y_) - IntKind.wrap .u64 (v1.1 * IntKind.wrap .u64 (y_ * (2 : Int) ^ min (Int.toNat (e2 y_)) (IntKind.bits .u64)))) = IntKind.wrap .u64 (IntKind.wrap .u64 (e0 hi lo y_) - IntKind.wrap .u64 (v2.1 * IntKind.wrap .u64 (y_ * (2 : Int) ^ min (Int.toNat (e2 y_)) (IntKind.bits .u64))))) ∧
 (Ob (IntKind.wrap .u64 (v1.2.1.2 - (1 : Int)) = v2.2.1.2) ∧
 True))))))))))))))
 (Br (decide (IntKind.wrap .u64 (v1.2.1.2 * IntKind.wrap .u64 (↑(BitVec.toNat (BitVec.ofInt (IntKind.bits .u64) (e1 y_) &&& BitVec.ofInt (IntKind.bits .u64) (4294967295 : Int))) : Int)) > IntKind.wrap .u64 (IntKind.wrap .u64 ((4294967296 : Int) * v1.2.1.1) + IntKind.wrap .u64 (↑(BitVec.toNat (BitVec.ofInt (IntKind.bits .u64) (e4 lo y_) &&& BitVec.ofInt (IntKind.bits .u64) (4294967295 : Int))) : Int))))
 (Br (decide (IntKind.wrap .u64 (v1.2.1.1 + Int.fdiv (e1 y_) (e3 )) ≥ (4294967296 : Int)))
   ((Ob ((0 : Int) ≤ IntKind.wrap .u64 (e5 y_)) ∧
 (Ob (True) ∧
 (Ob (True) ∧
 (Ob (IntKind.wrap .u64 (IntKind.wrap .u64 (v1.1 * (4294967296 : Int)) + IntKind.wrap .u64 (v1.2.1.2 - (1 : Int))) = r.1) ∧
 (Ob (Int.fdiv (IntKind.wrap .u64 (IntKind.wrap .u64 (IntKind.wrap .u64 (IntKind.wrap .u64 (IntKind.wrap .u64 (e0 hi lo y_) - IntKind.wrap .u64 (v1.1 * IntKind.wrap .u64 (y_ * (2 : Int) ^ min (Int.toNat (e2 y_)) (IntKind.bits .u64)))) * (4294967296 : Int)) + IntKind.wrap .u64 (↑(BitVec.toNat (BitVec.ofInt (IntKind.bits .u64) (e4 lo y_) &&& BitVec.ofInt (IntKind.bits .u64) (4294967295 : Int))) : Int)) - IntKind.wrap .u64 (IntKind.wrap .u64 (v1.2.1.2 - (1 : Int)) * IntKind.wrap .u64 (y_ * (2 : Int) ^ min (Int.toNat (e2 y_)) (IntKind.bits .u64))))) (e9 y_) = r.2) ∧
 True))))))
   ((∃ (v2 : Int × (Int × Int) × Nat), (Ob ((Option.bind (iter (y12 lo y_ (e5 y_)) v2.2.2 v2.2.1) fun y0 => Option.bind (y16 hi lo y_ v2.1 (e5 y_) y0) some) = some r) ∧
 (Ob (v2.2.2 < v1.2.2) ∧
 (Ob (IntKind.wrap .u64 (y_ * (2 : Int) ^ min (Int.toNat (e2 y_)) (IntKind.bits .u64)) = IntKind.wrap .u64 (y_ * (2 : Int) ^ min (Int.toNat (e2 y_)) (IntKind.bits .u64))) ∧
 (Ob (IntKind.wrap .u64 (e5 y_) = IntKind.wrap .u64 (e5 y_)) ∧
 (Ob (Int.fdiv (e1 y_) (e3 ) = Int.fdiv (e1 y_) (e3 )) ∧
 (Ob (IntKind.wrap .u64 (↑(BitVec.toNat (BitVec.ofInt (IntKind.bits .u64) (e1 y_) &&& BitVec.ofInt (IntKind.bits .u64) (4294967295 : Int))) : Int) = IntKind.wrap .u64 (↑(BitVec.toNat (BitVec.ofInt (IntKind.bits .u64) (e1 y_) &&& BitVec.ofInt (IntKind.bits .u64) (4294967295 : Int))) : Int)) ∧
 (Ob (IntKind.wrap .u64 (↑(BitVec.toNat (BitVec.ofInt (IntKind.bits .u64) (e4 lo y_) &&& BitVec.ofInt (IntKind.bits .u64) (4294967295 : Int))) : Int) = IntKind.wrap .u64 (↑(BitVec.toNat (BitVec.ofInt (IntKind.bits .u64) (e4 lo y_) &&& BitVec.ofInt (IntKind.bits .u64) (4294967295 : Int))) : Int)) ∧
 (Ob (v1.1 = v2.1) ∧
 (Ob (IntKind.wrap .u64 (v1.2.1.1 + Int.fdiv (e1 y_) (e3 )) = v2.2.1.1) ∧
 (Ob (IntKind.wrap .u64 (IntKind.wrap .u64 (e0 hi lo y_) - IntKind.wrap .u64 (v1.1 * IntKind.wrap .u64 (y_ * (2 : Int) ^ min (Int.toNat (e2 y_)) (IntKind.bits .u64)))) = IntKind.wrap .u64 (IntKind.wrap .u64 (e0 hi lo y_) - IntKind.wrap .u64 (v2.1 * IntKind.wrap .u64 (y_ * (2 : Int) ^ min (Int.toNat (e2 y_)) (IntKind.bits .u64))))) ∧
 (Ob (IntKind.wrap .u64 (v1.2.1.2 - (1 : Int)) = v2.2.1.2) ∧
 True))))))))))))))
   ((Ob ((0 : Int) ≤ IntKind.wrap .u64 (e5 y_)) ∧
 (Ob (True) ∧
 (Ob (True) ∧
 (Ob (IntKind.wrap .u64 (IntKind.wrap .u64 (v1.1 * (4294967296 : Int)) + v1.2.1.2) = r.1) ∧
 (Ob (Int.fdiv (IntKind.wrap .u64 (IntKind.wrap .u64 (IntKind.wrap .u64 (IntKind.wrap .u64 (IntKind.wrap .u64 (e0 hi lo y_) - IntKind.wrap .u64 (v1.1 * IntKind.wrap .u64 (y_ * (2 : Int) ^ min (Int.toNat (e2 y_)) (IntKind.bits .u64)))) * (4294967296 : Int)) + IntKind.wrap .u64 (↑(BitVec.toNat (BitVec.ofInt (IntKind.bits .u64) (e4 lo y_) &&& BitVec.ofInt (IntKind.bits .u64) (4294967295 : Int))) : Int)) - IntKind.wrap .u64 (v1.2.1.2 * IntKind.wrap .u64 (y_ * (2 : Int) ^ min (Int.toNat (e2 y_)) (IntKind.bits .u64))))) (e9 y_) = r.2) ∧
 True))))))))))))
   ((∃ (v1 : (Int × Int) × Nat), (Ob ((Option.bind (iter (y38 lo y_ (e5 y_)) v1.2 v1.1) fun y0 => Option.bind (y54 hi lo y_ (e5 y_) y0) some) = some r) ∧
 (Ob (v1.2 < v0.2) ∧
 (Ob (IntKind.wrap .u64 (y_ * (2 : Int) ^ min (Int.toNat (e2 y_)) (IntKind.bits .u64)) = IntKind.wrap .u64 (y_ * (2 : Int) ^ min (Int.toNat (e2 y_)) (IntKind.bits .u64))) ∧
 (Ob (IntKind.wrap .u64 (e5 y_) = IntKind.wrap .u64 (e5 y_)) ∧
 (Ob (Int.fdiv (e1 y_) (e3 ) = Int.fdiv (e1 y_) (e3 )) ∧
 (Ob (IntKind.wrap .u64 (↑(BitVec.toNat (BitVec.ofInt (IntKind.bits .u64) (e1 y_) &&& BitVec.ofInt (IntKind.bits .u64) (4294967295 : Int))) : Int) = IntKind.wrap .u64 (↑(BitVec.toNat (BitVec.ofInt (IntKind.bits .u64) (e1 y_) &&& BitVec.ofInt (IntKind.bits .u64) (4294967295 : Int))) : Int)) ∧
 (Ob (IntKind.wrap .u64 (↑(BitVec.toNat (BitVec.ofInt (IntKind.bits .u64) (e7 hi y_) ||| BitVec.ofInt (IntKind.bits .u64) (e6 lo y_))) : Int) = IntKind.wrap .u64 (↑(BitVec.toNat (BitVec.ofInt (IntKind.bits .u64) (e7 hi y_) ||| BitVec.ofInt (IntKind.bits .u64) (e6 lo y_))) : Int)) ∧
 (Ob (Int.fdiv (e4 lo y_) (e3 ) = Int.fdiv (e4 lo y_) (e3 )) ∧
 (Ob (IntKind.wrap .u64 (↑(BitVec.toNat (BitVec.ofInt (IntKind.bits .u64) (e4 lo y_) &&& BitVec.ofInt (IntKind.bits .u64) (4294967295 : Int))) : Int) = IntKind.wrap .u64 (↑(BitVec.toNat (BitVec.ofInt (IntKind.bits .u64) (e4 lo y_) &&& BitVec.ofInt (IntKind.bits .u64) (4294967295 : Int))) : Int)) ∧
 (Ob (IntKind.wrap .u64 (v0.1.1 - (1 : Int)) = v1.1.1) ∧
 (Ob (IntKind.wrap .u64 (v0.1.2 + Int.fdiv (e1 y_) (e3 )) = v1.1.2) ∧
 True))))))))))))))
   ((Ob (Int.fdiv (e1 y_) (e3 ) ≠ (0 : Int)) ∧
   ((∃ (v1 : Int × (Int × Int) × Nat), (Ob ((Option.bind (iter (y12 lo y_ (e5 y_)) v1.2.2 v1.2.1) fun y0 => Option.bind (y16 hi lo y_ v1.1 (e5 y_) y0) some) = some r) ∧
 (Ob (IntKind.wrap .u64 (y_ * (2 : Int) ^ min (Int.toNat (e2 y_)) (IntKind.bits .u64)) = IntKind.wrap .u64 (y_ * (2 : Int) ^ min (Int.toNat (e2 y_)) (IntKind.bits .u64))) ∧
 (Ob (IntKind.wrap .u64 (e5 y_) = IntKind.wrap .u64 (e5 y_)) ∧
 (Ob (Int.fdiv (e1 y_) (e3 ) = Int.fdiv (e1 y_) (e3 )) ∧
 (Ob (IntKind.wrap .u64 (↑(BitVec.toNat (BitVec.ofInt (IntKind.bits .u64) (e1 y_) &&& BitVec.ofInt (IntKind.bits .u64) (4294967295 : Int))) : Int) = IntKind.wrap .u64 (↑(BitVec.toNat (BitVec.ofInt (IntKind.bits .u64) (e1 y_) &&& BitVec.ofInt (IntKind.bits .u64) (4294967295 : Int))) : Int)) ∧
 (Ob (IntKind.wrap .u64 (↑(BitVec.toNat (BitVec.ofInt (IntKind.bits .u64) (e4 lo y_) &&& BitVec.ofInt (IntKind.bits .u64) (4294967295 : Int))) : Int) = IntKind.wrap .u64 (↑(BitVec.toNat (BitVec.ofInt (IntKind.bits .u64) (e4 lo y_) &&& BitVec.ofInt (IntKind.bits .u64) (4294967295 : Int))) : Int)) ∧
 (Ob (v0.1.1 = v1.1) ∧
 (Ob (IntKind.wrap .u64 (IntKind.wrap .u64 (IntKind.wrap .u64 (e0 hi lo y_) - IntKind.wrap .u64 (v0.1.1 * IntKind.wrap .u64 (y_ * (2 : Int) ^ min (Int.toNat (e2 y_)) (IntKind.bits .u64)))) - IntKind.wrap .u64 (IntKind.wrap .u64 (Int.tdiv (IntKind.wrap .u64 (IntKind.wrap .u64 (e0 hi lo y_) - IntKind.wrap .u64 (v0.1.1 * IntKind.wrap .u64 (y_ * (2 : Int) ^ min (Int.toNat (e2 y_)) (IntKind.bits .u64))))) (Int.fdiv (e1 y_) (e3 ))) * Int.fdiv (e1 y_) (e3 ))) = v1.2.1.1) ∧
 (Ob (IntKind.wrap .u64 (IntKind.wrap .u64 (e0 hi lo y_) - IntKind.wrap .u64 (v0.1.1 * IntKind.wrap .u64 (y_ * (2 : Int) ^ min (Int.toNat (e2 y_)) (IntKind.bits .u64)))) = IntKind.wrap .u64 (IntKind.wrap .u64 (e0 hi lo y_) - IntKind.wrap .u64 (v1.1 * IntKind.wrap .u64 (y_ * (2 : Int) ^ min (Int.toNat (e2 y_)) (IntKind.bits .u64))))) ∧
 (Ob (IntKind.wrap .u64 (Int.tdiv (IntKind.wrap .u64 (IntKind.wrap .u64 (e0 hi lo y_) - IntKind.wrap .u64 (v0.1.1 * IntKind.wrap .u64 (y_ * (2 : Int) ^ min (Int.toNat (e2 y_)) (IntKind.bits .u64))))) (Int.fdiv (e1 y_) (e3 ))) = v1.2.1.2) ∧
 True))))))))))) ∧
   (∀ (v1 : Int × (Int × Int) × Nat), ((Option.bind (iter (y12 lo y_ (e5 y_)) v1.2.2 v1.2.1) fun y0 => Option.bind (y16 hi lo y_ v1.1 (e5 y_) y0) some) = some r →
 Br (decide (v1.2.1.2 ≥ (4294967296 : Int)))
 (Br (decide (IntKind.wrap .u64 (v1.2.1.1 + Int.fdiv (e1 y_) (e3 )) ≥ (4294967296 : Int)))
   ((Ob ((0 : Int) ≤ IntKind.wrap .u64 (e5 y_)) ∧
 (Ob (True) ∧
 (Ob (True) ∧
 (Ob (IntKind.wrap .u64 (IntKind.wrap .u64 (v1.1 * (4294967296 : Int)) + IntKind.wrap .u64 (v1.2.1.2 - (1 : Int))) = r.1) ∧
 (Ob (Int.fdiv (IntKind.wrap .u64 (IntKind.wrap .u64 (IntKind.wrap .u64 (IntKind.wrap .u64 (IntKind.wrap .u64 (e0 hi lo y_) - IntKind.wrap .u64 (v1.1 * IntKind.wrap .u64 (y_ * (2 : Int) ^ min (Int.toNat (e2 y_)) (IntKind.bits .u64)))) * (4294967296 : Int)) + IntKind.wrap .u64 (↑(BitVec.toNat (BitVec.ofInt (IntKind.bits .u64) (e4 lo y_) &&& BitVec.ofInt (IntKind.bits .u64) (4294967295 : Int))) : Int)) - IntKind.wrap .u64 (IntKind.wrap .u64 (v1.2.1.2 - (1 : Int)) * IntKind.wrap .u64 (y_ * (2 : Int) ^ min (Int.toNat (e2 y_)) (IntKind.bits .u64))))) (e9 y_) = r.2) ∧
 True))))))
   ((∃ (v2 : Int × (Int × Int) × Nat), (Ob ((Option.bind (iter (y12 lo y_ (e5 y_)) v2.2.2 v2.2.1) fun y0 => Option.bind (y16 hi lo y_ v2.1 (e5 y_) y0) some) = some r) ∧
 (Ob (v2.2.2 < v1.2.2) ∧
 (Ob (IntKind.wrap .u64 (y_ * (2 : Int) ^ min (Int.toNat (e2 y_)) (IntKind.bits .u64)) = IntKind.wrap .u64 (y_ * (2 : Int) ^ min (Int.toNat (e2 y_)) (IntKind.bits .u64))) ∧
 (Ob (IntKind.wrap .u64 (e5 y_) = IntKind.wrap .u64 (e5 y_)) ∧
 (Ob (Int.fdiv (e1 y_) (e3 ) = Int.fdiv (e1 y_) (e3 )) ∧
 (Ob (IntKind.wrap .u64 (↑(BitVec.toNat (BitVec.ofInt (IntKind.bits .u64) (e1 y_) &&& BitVec.ofInt (IntKind.bits .u64) (4294967295 : Int))) : Int) = IntKind.wrap .u64 (↑(BitVec.toNat (BitVec.ofInt (IntKind.bits .u64) (e1 y_) &&& BitVec.ofInt (IntKind.bits .u64) (4294967295 : Int))) : Int)) ∧
 (Ob (IntKind.wrap .u64 (↑(BitVec.toNat (BitVec.ofInt (IntKind.bits .u64) (e4 lo y_) &&& BitVec.ofInt (IntKind.bits .u64) (4294967295 : Int))) : Int) = IntKind.wrap .u64 (↑(BitVec.toNat (BitVec.ofInt (IntKind.bits .u64) (e4 lo y_) &&& BitVec.ofInt (IntKind.bits .u64) (4294967295 : Int))) : Int)) ∧
 (Ob (v1.1 = v2.1) ∧
 (Ob (IntKind.wrap .u64 (v1.2.1.1 + Int.fdiv (e1 y_) (e3 )) = v2.2.1.1) ∧
 (Ob (IntKind.wrap .u64 (IntKind.wrap .u64 (e0 hi lo y_) - IntKind.wrap .u64 (v1.1 * IntKind.wrap .u64 (y_ * (2 : Int) ^ min (Int.toNat (e2 y_)) (IntKind.bits .u64)))) = IntKind.wrap .u64 (IntKind.wrap .u64 (e0 hi lo y_) - IntKind.wrap .u64 (v2.1 * IntKind.wrap .u64 (y_ * (2 : Int) ^ min (Int.toNat (e2 y_)) (IntKind.bits .u64))))) ∧
 (Ob (IntKind.wrap .u64 (v1.2.1.2 - (1 : Int)) = v2.2.1.2) ∧
 True))))))))))))))
 (Br (decide (IntKind.wrap .u64 (v1.2.1.2 * IntKind.wrap .u64 (↑(BitVec.toNat (BitVec.ofInt (IntKind.bits .u64) (e1 y_) &&& BitVec.ofInt (IntKind.bits .u64) (4294967295 : Int))) : Int)) > IntKind.wrap .u64 (IntKind.wrap .u64 ((4294967296 : Int) * v1.2.1.1) + IntKind.wrap .u64 (↑(BitVec.toNat (BitVec.ofInt (IntKind.bits .u64) (e4 lo y_) &&& BitVec.ofInt (IntKind.bits .u64) (4294967295 : Int))) : Int))))
 (Br (decide (IntKind.wrap .u64 (v1.2.1.1 + Int.fdiv (e1 y_) (e3 )) ≥ (4294967296 : Int)))
   ((Ob ((0 : Int) ≤ IntKind.wrap .u64 (e5 y_)) ∧
 (Ob (True) ∧
 (Ob (True) ∧
 (Ob (IntKind.wrap .u64 (IntKind.wrap .u64 (v1.1 * (4294967296 : Int)) + IntKind.wrap .u64 (v1.2.1.2 - (1 : Int))) = r.1) ∧
 (Ob (Int.fdiv (IntKind.wrap .u64 (IntKind.wrap .u64 (IntKind.wrap .u64 (IntKind.wrap .u64 (IntKind.wrap .u64 (e0 hi lo y_) - IntKind.wrap .u64 (v1.1 * IntKind.wrap .u64 (y_ * (2 : Int) ^ min (Int.toNat (e2 y_)) (IntKind.bits .u64)))) * (4294967296 : Int)) + IntKind.wrap .u64 (↑(BitVec.toNat (BitVec.ofInt (IntKind.bits .u64) (e4 lo y_) &&& BitVec.ofInt (IntKind.bits .u64) (4294967295 : Int))) : Int)) - IntKind.wrap .u64 (IntKind.wrap .u64 (v1.2.1.2 - (1 : Int)) * IntKind.wrap .u64 (y_ * (2 : Int) ^ min (Int.toNat (e2 y_)) (IntKind.bits .u64))))) (e9 y_) = r.2) ∧
 True))))))
   ((∃ (v2 : Int × (Int × Int) × Nat), (Ob ((Option.bind (iter (y12 lo y_ (e5 y_)) v2.2.2 v2.2.1) fun y0 => Option.bind (y16 hi lo y_ v2.1 (e5 y_) y0) some) = some r) ∧
 (Ob (v2.2.2 < v1.2.2) ∧
 (Ob (IntKind.wrap .u64 (y_ * (2 : Int) ^ min (Int.toNat (e2 y_)) (IntKind.bits .u64)) = IntKind.wrap .u64 (y_ * (2 : Int) ^ min (Int.toNat (e2 y_)) (IntKind.bits .u64))) ∧
 (Ob (IntKind.wrap .u64 (e5 y_) = IntKind.wrap .u64 (e5 y_)) ∧
 (Ob (Int.fdiv (e1 y_) (e3 ) = Int.fdiv (e1 y_) (e3 )) ∧
 (Ob (IntKind.wrap .u64 (↑(BitVec.toNat (BitVec.ofInt (IntKind.bits .u64) (e1 y_) &&& BitVec.ofInt (IntKind.bits .u64) (4294967295 : Int))) : Int) = IntKind.wrap .u64 (↑(BitVec.toNat (BitVec.ofInt (IntKind.bits .u64) (e1 y_) &&& BitVec.ofInt (IntKind.bits .u64) (4294967295 : Int))) : Int)) ∧
 (Ob (IntKind.wrap .u64 (↑(BitVec.toNat (BitVec.ofInt (IntKind.bits .u64) (e4 lo y_) &&& BitVec.ofInt (IntKind.bits .u64) (4294967295 : Int))) : Int) = IntKind.wrap .u64 (↑(BitVec.toNat (BitVec.ofInt (IntKind.bits .u64) (e4 lo y_) &&& BitVec.ofInt (IntKind.bits .u64) (4294967295 : Int))) : Int)) ∧
 (Ob (v1.1 = v2.1) ∧
 (Ob (IntKind.wrap .u64 (v1.2.1.1 + Int.fdiv (e1 y_) (e3 )) = v2.2.1.1) ∧
 (Ob (IntKind.wrap .u64 (IntKind.wrap .u64 (e0 hi lo y_) - IntKind.wrap .u64 (v1.1 * IntKind.wrap .u64 (y_ * (2 : Int) ^ min (Int.toNat (e2 y_)) (IntKind.bits .u64)))) = IntKind.wrap .u64 (IntKind.wrap .u64 (e0 hi lo y_) - IntKind.wrap .u64 (v2.1 * IntKind.wrap .u64 (y_ * (2 : Int) ^ min (Int.toNat (e2 y_)) (IntKind.bits .u64))))) ∧
 (Ob (IntKind.wrap .u64 (v1.2.1.2 - (1 : Int)) = v2.2.1.2) ∧
 True))))))))))))))
   ((Ob ((0 : Int) ≤ IntKind.wrap .u64 (e5 y_)) ∧
 (Ob (True) ∧
 (Ob (True) ∧
 (Ob (IntKind.wrap .u64 (IntKind.wrap .u64 (v1.1 * (4294967296 : Int)) + v1.2.1.2) = r.1) ∧
 (Ob (Int.fdiv (IntKind.wrap .u64 (IntKind.wrap .u64 (IntKind.wrap .u64 (IntKind.wrap .u64 (IntKind.wrap .u64 (e0 hi lo y_) - IntKind.wrap .u64 (v1.1 * IntKind.wrap .u64 (y_ * (2 : Int) ^ min (Int.toNat (e2 y_)) (IntKind.bits .u64)))) * (4294967296 : Int)) + IntKind.wrap .u64 (↑(BitVec.toNat (BitVec.ofInt (IntKind.bits .u64) (e4 lo y_) &&& BitVec.ofInt (IntKind.bits .u64) (4294967295 : Int))) : Int)) - IntKind.wrap .u64 (v1.2.1.2 * IntKind.wrap .u64 (y_ * (2 : Int) ^ min (Int.toNat (e2 y_)) (IntKind.bits .u64))))) (e9 y_) = r.2) ∧
 True))))))))))))))))))))))))))))) = _) ?_
  refine br_b h (fun h => ?_) (fun h => ?_)
  · exact nomatch h
  · refine br_d h (fun h => ?_) (fun h => ?_)
    · exact nomatch h
    · refine br_b h (fun h => ?_) (fun h => ?_)
      · refine ob_s h fun h => ?_
        refine ob_s h fun h => ?_
        refine ob_t ?_
        refine ob_t ?_
        exact ret_s h (fun e => by subst e; exact (by repeat' (first | exact trivial | exact ⟨rfl⟩ | refine And.intro ?_ ?_)))
      · refine call_s h fun h => ?_
        refine ob_t ?_
        refine ob_s h fun h => ?_
        refine ob_c (p := (0 : Int) ≤ (32 : Int)) (by decide) ?_
        refine ob_s h fun h => ?_
        refine ob_s h fun h => ?_
        refine ob_s h fun h => ?_
        refine ob_c (p := (0 : Int) ≤ (32 : Int)) (by decide) ?_
        refine ob_s h fun h => ?_
        refine ⟨⟨((IntKind.wrap .u64 (Int.tdiv (e8 hi lo y_) (Int.fdiv (e1 y_) (e3 ))), IntKind.wrap .u64 (IntKind.wrap .u64 (↑(BitVec.toNat (BitVec.ofInt (IntKind.bits .u64) (e7 hi y_) ||| BitVec.ofInt (IntKind.bits .u64) (e6 lo y_))) : Int) - IntKind.wrap .u64 (IntKind.wrap .u64 (Int.tdiv (e8 hi lo y_) (Int.fdiv (e1 y_) (e3 ))) * Int.fdiv (e1 y_) (e3 )))), big), ⟨loop_s h⟩, (by repeat' (first | exact trivial | exact ⟨rfl⟩ | refine And.intro ?_ ?_))⟩, fun z1 hz1 => ?_⟩
        obtain ⟨k1, hm1, h⟩ := iter_pos hz1
        refine br_d h (fun h => ?_) (fun h => ?_)
        · refine br_d h (fun h => ?_) (fun h => ?_)
          · have h := exit_s h
            refine ob_s h fun h => ?_
            refine ⟨⟨(IntKind.wrap .u64 ((Prod.fst z1).1 - (1 : Int)), (IntKind.wrap .u64 (IntKind.wrap .u64 (IntKind.wrap .u64 (e0 hi lo y_) - IntKind.wrap .u64 (IntKind.wrap .u64 ((Prod.fst z1).1 - (1 : Int)) * IntKind.wrap .u64 (y_ * (2 : Int) ^ min (Int.toNat (e2 y_)) (IntKind.bits .u64)))) - IntKind.wrap .u64 (IntKind.wrap .u64 (Int.tdiv (IntKind.wrap .u64 (IntKind.wrap .u64 (e0 hi lo y_) - IntKind.wrap .u64 (IntKind.wrap .u64 ((Prod.fst z1).1 - (1 : Int)) * IntKind.wrap .u64 (y_ * (2 : Int) ^ min (Int.toNat (e2 y_)) (IntKind.bits .u64))))) (Int.fdiv (e1 y_) (e3 ))) * Int.fdiv (e1 y_) (e3 ))), IntKind.wrap .u64 (Int.tdiv (IntKind.wrap .u64 (IntKind.wrap .u64 (e0 hi lo y_) - IntKind.wrap .u64 (IntKind.wrap .u64 ((Prod.fst z1).1 - (1 : Int)) * IntKind.wrap .u64 (y_ * (2 : Int) ^ min (Int.toNat (e2 y_)) (IntKind.bits .u64))))) (Int.fdiv (e1 y_) (e3 )))), big), ⟨loop_s h⟩, (by repeat' (first | exact trivial | exact ⟨rfl⟩ | refine And.intro ?_ ?_))⟩, fun z2 hz2 => ?_⟩
            obtain ⟨k2, hm2, h⟩ := iter_pos hz2
            refine br_d h (fun h => ?_) (fun h => ?_)
            · refine br_d h (fun h => ?_) (fun h => ?_)
              · have h := exit_s h
                refine ob_s h fun h => ?_
                refine ob_t ?_
                refine ob_t ?_
                exact ret_s h (fun e => by subst e; exact (by repeat' (first | exact trivial | exact ⟨rfl⟩ | refine And.intro ?_ ?_)))
              · exact ⟨(Prod.fst z2, (IntKind.wrap .u64 ((Prod.fst (Prod.snd z2)).1 + Int.fdiv (e1 y_) (e3 )), IntKind.wrap .u64 ((Prod.fst (Prod.snd z2)).2 - (1 : Int))), k2), ⟨next_s h⟩, ⟨lt_gs hm2.symm⟩, (by repeat' (first | exact trivial | exact ⟨rfl⟩ | refine And.intro ?_ ?_))⟩
            · refine br_d h (fun h => ?_) (fun h => ?_)
              · refine br_d h (fun h => ?_) (fun h => ?_)
                · have h := exit_s h
                  refine ob_s h fun h => ?_
                  refine ob_t ?_
                  refine ob_t ?_
                  exact ret_s h (fun e => by subst e; exact (by repeat' (first | exact trivial | exact ⟨rfl⟩ | refine And.intro ?_ ?_)))
                · exact ⟨(Prod.fst z2, (IntKind.wrap .u64 ((Prod.fst (Prod.snd z2)).1 + Int.fdiv (e1 y_) (e3 )), IntKind.wrap .u64 ((Prod.fst (Prod.snd z2)).2 - (1 : Int))), k2), ⟨next_s h⟩, ⟨lt_gs hm2.symm⟩, (by repeat' (first | exact trivial | exact ⟨rfl⟩ | refine And.intro ?_ ?_))⟩
              · have h := exit_s h
                refine ob_s h fun h => ?_
                refine ob_t ?_
                refine ob_t ?_
                exact ret_s h (fun e => by subst e; exact (by repeat' (first | exact trivial | exact ⟨rfl⟩ | refine And.intro ?_ ?_)))
          · exact ⟨((IntKind.wrap .u64 ((Prod.fst z1).1 - (1 : Int)), IntKind.wrap .u64 ((Prod.fst z1).2 + Int.fdiv (e1 y_) (e3 ))), k1), ⟨next_s h⟩, ⟨lt_gs hm1.symm⟩, (by repeat' (first | exact trivial | exact ⟨rfl⟩ | refine And.intro ?_ ?_))⟩
        · refine br_d h (fun h => ?_) (fun h => ?_)
          · refine br_d h (fun h => ?_) (fun h => ?_)
            · have h := exit_s h
              refine ob_s h fun h => ?_
              refine ⟨⟨(IntKind.wrap .u64 ((Prod.fst z1).1 - (1 : Int)), (IntKind.wrap .u64 (IntKind.wrap .u64 (IntKind.wrap .u64 (e0 hi lo y_) - IntKind.wrap .u64 (IntKind.wrap .u64 ((Prod.fst z1).1 - (1 : Int)) * IntKind.wrap .u64 (y_ * (2 : Int) ^ min (Int.toNat (e2 y_)) (IntKind.bits .u64)))) - IntKind.wrap .u64 (IntKind.wrap .u64 (Int.tdiv (IntKind.wrap .u64 (IntKind.wrap .u64 (e0 hi lo y_) - IntKind.wrap .u64 (IntKind.wrap .u64 ((Prod.fst z1).1 - (1 : Int)) * IntKind.wrap .u64 (y_ * (2 : Int) ^ min (Int.toNat (e2 y_)) (IntKind.bits .u64))))) (Int.fdiv (e1 y_) (e3 ))) * Int.fdiv (e1 y_) (e3 ))), IntKind.wrap .u64 (Int.tdiv (IntKind.wrap .u64 (IntKind.wrap .u64 (e0 hi lo y_) - IntKind.wrap .u64 (IntKind.wrap .u64 ((Prod.fst z1).1 - (1 : Int)) * IntKind.wrap .u64 (y_ * (2 : Int) ^ min (Int.toNat (e2 y_)) (IntKind.bits .u64))))) (Int.fdiv (e1 y_) (e3 )))), big), ⟨loop_s h⟩, (by repeat' (first | exact trivial | exact ⟨rfl⟩ | refine And.intro ?_ ?_))⟩, fun z3 hz3 => ?_⟩
              obtain ⟨k3, hm3, h⟩ := iter_pos hz3
              refine br_d h (fun h => ?_) (fun h => ?_)
              · refine br_d h (fun h => ?_) (fun h => ?_)
                · have h := exit_s h
                  refine ob_s h fun h => ?_
                  refine ob_t ?_
                  refine ob_t ?_
                  exact ret_s h (fun e => by subst e; exact (by repeat' (first | exact trivial | exact ⟨rfl⟩ | refine And.intro ?_ ?_)))
                · exact ⟨(Prod.fst z3, (IntKind.wrap .u64 ((Prod.fst (Prod.snd z3)).1 + Int.fdiv (e1 y_) (e3 )), IntKind.wrap .u64 ((Prod.fst (Prod.snd z3)).2 - (1 : Int))), k3), ⟨next_s h⟩, ⟨lt_gs hm3.symm⟩, (by repeat' (first | exact trivial | exact ⟨rfl⟩ | refine And.intro ?_ ?_))⟩
              · refine br_d h (fun h => ?_) (fun h => ?_)
                · refine br_d h (fun h => ?_) (fun h => ?_)
                  · have h := exit_s h
                    refine ob_s h fun h => ?_
                    refine ob_t ?_
                    refine ob_t ?_
                    exact ret_s h (fun e => by subst e; exact (by repeat' (first | exact trivial | exact ⟨rfl⟩ | refine And.intro ?_ ?_)))
                  · exact ⟨(Prod.fst z3, (IntKind.wrap .u64 ((Prod.fst (Prod.snd z3)).1 + Int.fdiv (e1 y_) (e3 )), IntKind.wrap .u64 ((Prod.fst (Prod.snd z3)).2 - (1 : Int))), k3), ⟨next_s h⟩, ⟨lt_gs hm3.symm⟩, (by repeat' (first | exact trivial | exact ⟨rfl⟩ | refine And.intro ?_ ?_))⟩
                · have h := exit_s h
                  refine ob_s h fun h => ?_
                  refine ob_t ?_
                  refine ob_t ?_
                  exact ret_s h (fun e => by subst e; exact (by repeat' (first | exact trivial | exact ⟨rfl⟩ | refine And.intro ?_ ?_)))
            · exact ⟨((IntKind.wrap .u64 ((Prod.fst z1).1 - (1 : Int)), IntKind.wrap .u64 ((Prod.fst z1).2 + Int.fdiv (e1 y_) (e3 ))), k1), ⟨next_s h⟩, ⟨lt_gs hm1.symm⟩, (by repeat' (first | exact trivial | exact ⟨rfl⟩ | refine And.intro ?_ ?_))⟩
          · have h := exit_s h
            refine ob_s h fun h => ?_
            refine ⟨⟨((Prod.fst z1).1, (IntKind.wrap .u64 (IntKind.wrap .u64 (IntKind.wrap .u64 (e0 hi lo y_) - IntKind.wrap .u64 ((Prod.fst z1).1 * IntKind.wrap .u64 (y_ * (2 : Int) ^ min (Int.toNat (e2 y_)) (IntKind.bits .u64)))) - IntKind.wrap .u64 (IntKind.wrap .u64 (Int.tdiv (IntKind.wrap .u64 (IntKind.wrap .u64 (e0 hi lo y_) - IntKind.wrap .u64 ((Prod.fst z1).1 * IntKind.wrap .u64 (y_ * (2 : Int) ^ min (Int.toNat (e2 y_)) (IntKind.bits .u64))))) (Int.fdiv (e1 y_) (e3 ))) * Int.fdiv (e1 y_) (e3 ))), IntKind.wrap .u64 (Int.tdiv (IntKind.wrap .u64 (IntKind.wrap .u64 (e0 hi lo y_) - IntKind.wrap .u64 ((Prod.fst z1).1 * IntKind.wrap .u64 (y_ * (2 : Int) ^ min (Int.toNat (e2 y_)) (IntKind.bits .u64))))) (Int.fdiv (e1 y_) (e3 )))), big), ⟨loop_s h⟩, (by repeat' (first | exact trivial | exact ⟨rfl⟩ | refine And.intro ?_ ?_))⟩, fun z4 hz4 => ?_⟩
            obtain ⟨k4, hm4, h⟩ := iter_pos hz4
            refine br_d h (fun h => ?_) (fun h => ?_)
            · refine br_d h (fun h => ?_) (fun h => ?_)
              · have h := exit_s h
                refine ob_s h fun h => ?_
                refine ob_t ?_
                refine ob_t ?_
                exact ret_s h (fun e => by subst e; exact (by repeat' (first | exact trivial | exact ⟨rfl⟩ | refine And.intro ?_ ?_)))
              · exact ⟨(Prod.fst z4, (IntKind.wrap .u64 ((Prod.fst (Prod.snd z4)).1 + Int.fdiv (e1 y_) (e3 )), IntKind.wrap .u64 ((Prod.fst (Prod.snd z4)).2 - (1 : Int))), k4), ⟨next_s h⟩, ⟨lt_gs hm4.symm⟩, (by repeat' (first | exact trivial | exact ⟨rfl⟩ | refine And.intro ?_ ?_))⟩
            · refine br_d h (fun h => ?_) (fun h => ?_)
              · refine br_d h (fun h => ?_) (fun h => ?_)
                · have h := exit_s h
                  refine ob_s h fun h => ?_
                  refine ob_t ?_
                  refine ob_t ?_
                  exact ret_s h (fun e => by subst e; exact (by repeat' (first | exact trivial | exact ⟨rfl⟩ | refine And.intro ?_ ?_)))
                · exact ⟨(Prod.fst z4, (IntKind.wrap .u64 ((Prod.fst (Prod.snd z4)).1 + Int.fdiv (e1 y_) (e3 )), IntKind.wrap .u64 ((Prod.fst (Prod.snd z4)).2 - (1 : Int))), k4), ⟨next_s h⟩, ⟨lt_gs hm4.symm⟩, (by repeat' (first | exact trivial | exact ⟨rfl⟩ | refine And.intro ?_ ?_))⟩
              · have h := exit_s h
                refine ob_s h fun h => ?_
                refine ob_t ?_
                refine ob_t ?_
                exact ret_s h (fun e => by subst e; exact (by repeat' (first | exact trivial | exact ⟨rfl⟩ | refine And.intro ?_ ?_)))
set_option maxRecDepth 100000 in
theorem math_bits_Div64_ok : SpecOK Tryd.prog 89 true (pureK k_math_bits_Div64 y132) := by
  refine pureK_ok (sp := (sp_99 sp0)) (fn := Tryd.f89) (body := bodyOf Tryd.f89) mixed (sp_99_ok sp0_ok) Tryd.func89 (by kernel_rfl) (by kernel_rfl) fun as_ ob rs h ho => ?_
  unfold y132 at h
  split at h
  · rename_i hi lo y_
    cases h
    exact ⟨Nat.le_of_ble_eq_true rfl, _, _, math_bits_Div64_vc hi lo y_ _ (ok_some ho)⟩
  · cases h
theorem sp_89_ok {sp : Specs} (h : SpecsOK Tryd.prog sp) : SpecsOK Tryd.prog (sp_89 sp) := addK_ok math_bits_Div64_ok h
def y116 : List SV := [.c (.d), .c (.d), .c (.p [.p [.d, .r (.floats .f32 []), .d, .d, .r (.recs 2 []), .r (.recs 2 [])]])]
def y17 (u66 : Int) (u67 : Int) (u19 : Int) (u20 : List Nat) (u21 : Int) (u22 : Int) (u23 : List (List Int)) (u24 : List (List Int)) : Option (Int × Bool) :=
  Option.bind (y7 (IntKind.wrap .u64 u66) (1000000 : Int)) fun r0 =>
  Option.bind (y46 (IntKind.wrap .u64 (IntKind.wrap .u64 (IntKind.wrap .u64 (Int.fdiv (IntKind.wrap .u64 u66) ((2 : Int) ^ min (32 : Nat) (IntKind.bits .u64)) * Int.fdiv (1000000 : Int) ((2 : Int) ^ min (32 : Nat) (IntKind.bits .u64))) + Int.fdiv (IntKind.wrap .u64 (IntKind.wrap .u64 (Int.fdiv (IntKind.wrap .u64 u66) ((2 : Int) ^ min (32 : Nat) (IntKind.bits .u64)) * IntKind.wrap .u64 (↑(BitVec.toNat (BitVec.ofInt (IntKind.bits .u64) (1000000 : Int) &&& BitVec.ofInt (IntKind.bits .u64) (4294967295 : Int))) : Int)) + Int.fdiv (IntKind.wrap .u64 (IntKind.wrap .u64 (↑(BitVec.toNat (BitVec.ofInt (IntKind.bits .u64) (IntKind.wrap .u64 u66) &&& BitVec.ofInt (IntKind.bits .u64) (4294967295 : Int))) : Int) * IntKind.wrap .u64 (↑(BitVec.toNat (BitVec.ofInt (IntKind.bits .u64) (1000000 : Int) &&& BitVec.ofInt (IntKind.bits .u64) (4294967295 : Int))) : Int))) ((2 : Int) ^ min (32 : Nat) (IntKind.bits .u64)))) ((2 : Int) ^ min (32 : Nat) (IntKind.bits .u64))) + Int.fdiv (IntKind.wrap .u64 (IntKind.wrap .u64 (↑(BitVec.toNat (BitVec.ofInt (IntKind.bits .u64) (IntKind.wrap .u64 (IntKind.wrap .u64 (Int.fdiv (IntKind.wrap .u64 u66) ((2 : Int) ^ min (32 : Nat) (IntKind.bits .u64)) * IntKind.wrap .u64 (↑(BitVec.toNat (BitVec.ofInt (IntKind.bits .u64) (1000000 : Int) &&& BitVec.ofInt (IntKind.bits .u64) (4294967295 : Int))) : Int)) + Int.fdiv (IntKind.wrap .u64 (IntKind.wrap .u64 (↑(BitVec.toNat (BitVec.ofInt (IntKind.bits .u64) (IntKind.wrap .u64 u66) &&& BitVec.ofInt (IntKind.bits .u64) (4294967295 : Int))) : Int) * IntKind.wrap .u64 (↑(BitVec.toNat (BitVec.ofInt (IntKind.bits .u64) (1000000 : Int) &&& BitVec.ofInt (IntKind.bits .u64) (4294967295 : Int))) : Int))) ((2 : Int) ^ min (32 : Nat) (IntKind.bits .u64)))) &&& BitVec.ofInt (IntKind.bits .u64) (4294967295 : Int))) : Int) + IntKind.wrap .u64 (IntKind.wrap .u64 (↑(BitVec.toNat (BitVec.ofInt (IntKind.bits .u64) (IntKind.wrap .u64 u66) &&& BitVec.ofInt (IntKind.bits .u64) (4294967295 : Int))) : Int) * Int.fdiv (1000000 : Int) ((2 : Int) ^ min (32 : Nat) (IntKind.bits .u64))))) ((2 : Int) ^ min (32 : Nat) (IntKind.bits .u64)))) (IntKind.wrap .u64 (IntKind.wrap .u64 u66 * (1000000 : Int))) (IntKind.wrap .u64 (IntKind.wrap .i64 (u67 * u19)))) fun r1 =>
  some ((IntKind.wrap .i64 r1.1, decide (r1.2 > (0 : Int))))
def y117 : List Lf → Option GT
  | [.d (.i .i64 u66), .d (.i .i64 u67), .d (.i .i64 u19), .r (.floats .f32 u20), .d (.i .i64 u21), .d (.i .i64 u22), .r (.recs 2 u23), .r (.recs 2 u24)] => some (.leaf (ok (y17 u66 u67 u19 u20 u21 u22 u23 u24)) [.c (.d (.i .i64 ((val (y17 u66 u67 u19 u20 u21 u22 u23 u24)).1))), .c (.d (.b ((val (y17 u66 u67 u19 u20 u21 u22 u23 u24)).2)))])
  | _ => none
abbrev sp_87 : Specs → Specs := addK 87 true (pureT y116 y117)
set_option maxRecDepth 100000 in
theorem G_decay_centre_1_vc (u66 : Int) (u67 : Int) (u19 : Int) (u20 : List Nat) (u21 : Int) (u22 : Int) (u23 : List (List Int)) (u24 : List (List Int)) (r : Int × Bool) (h : Option.bind (y17 u66 u67 u19 u20 u21 u22 u23 u24) some = some r) : runT Tryd.f87 ((sp_88 (sp_89 sp0))) (fun _ _ _ => none) (bldD y116 [.d (.i .i64 u66), .d (.i .i64 u67), .d (.i .i64 u19), .r (.floats .f32 u20), .d (.i .i64 u21), .d (.i .i64 u22), .r (.recs 2 u23), .r (.recs 2 u24)]) [.c (.d (.i .i64 r.1)), .c (.d (.b r.2))] := by
  refine Eq.mp (by kernel_rfl : (
 (Ob (True) ∧
 (Ob (ok (y7 (IntKind.wrap .u64 u66) (1000000 : Int))) ∧
 (Ob (True) ∧
 (Ob (True) ∧
 (Ob (True) ∧
 (Ob (ok (y46 (IntKind.wrap .u64 (IntKind.wrap .u64 (IntKind.wrap .u64 (Int.fdiv (IntKind.wrap .u64 u66) ((2 : Int) ^ min (32 : Nat) (IntKind.bits .u64)) * Int.fdiv (1000000 : Int) ((2 : Int) ^ min (32 : Nat) (IntKind.bits .u64))) + Int.fdiv (IntKind.wrap .u64 (IntKind.wrap .u64 (Int.fdiv (IntKind.wrap .u64 u66) ((2 : Int) ^ min (32 : Nat) (IntKind.bits .u64)) * IntKind.wrap .u64 (↑(BitVec.toNat (BitVec.ofInt (IntKind.bits .u64) (1000000 : Int) &&& BitVec.ofInt (IntKind.bits .u64) (4294967295 : Int))) : Int)) + Int.fdiv (IntKind.wrap .u64 (IntKind.wrap .u64 (↑(BitVec.toNat (BitVec.ofInt (IntKind.bits .u64) (IntKind.wrap .u64 u66) &&& BitVec.ofInt (IntKind.bits .u64) (4294967295 : Int))) : Int) * IntKind.wrap .u64 (↑(BitVec.toNat (BitVec.ofInt (IntKind.bits .u64) (1000000 : Int) &&& BitVec.ofInt (IntKind.bits .u64) (4294967295 : Int))) : Int))) ((2 : Int) ^ min (32 : Nat) (IntKind.bits .u64)))) ((2 : Int) ^ min (32 : Nat) (IntKind.bits .u64))) + Int.fdiv (IntKind.wrap .u64 (IntKind.wrap .u64 (↑(BitVec.toNat (BitVec.ofInt (IntKind.bits .u64) (IntKind.wrap .u64 (IntKind.wrap .u64 (Int.fdiv (IntKind.wrap .u64 u66) ((2 : Int) ^ min (32 : Nat) (IntKind.bits .u64)) * IntKind.wrap .u64 (↑(BitVec.toNat (BitVec.ofInt (IntKind.bits .u64) (1000000 : Int) &&& BitVec.ofInt (IntKind.bits .u64) (4294967295 : Int))) : Int)) + Int.fdiv (IntKind.wrap .u64 (IntKind.wrap .u64 (↑(BitVec.toNat (BitVec.ofInt (IntKind.bits .u64) (IntKind.wrap .u64 u66) &&& BitVec.ofInt (IntKind.bits .u64) (4294967295 : Int))) : Int) * IntKind.wrap .u64 (↑(BitVec.toNat (BitVec.ofInt (IntKind.bits .u64) (1000000 : Int) &&& BitVec.ofInt (IntKind.bits .u64) (4294967295 : Int))) : Int))) ((2 : Int) ^ min (32 : Nat) (IntKind.bits .u64)))) &&& BitVec.ofInt (IntKind.bits .u64) (4294967295 : Int))) : Int) + IntKind.wrap .u64 (IntKind.wrap .u64 (↑(BitVec.toNat (BitVec.ofInt (IntKind.bits .u64) (IntKind.wrap .u64 u66) &&& BitVec.ofInt (IntKind.bits .u64) (4294967295 : Int))) : Int) * Int.fdiv (1000000 : Int) ((2 : Int) ^ min (32 : Nat) (IntKind.bits .u64))))) ((2 : Int) ^ min (32 : Nat) (IntKind.bits .u64)))) (IntKind.wrap .u64 (IntKind.wrap .u64 u66 * (1000000 : Int))) (IntKind.wrap .u64 (IntKind.wrap .i64 (u67 * u19))))) ∧
 (Ob (True) ∧
 (Ob (True) ∧
 (Ob (True) ∧
 (Ob (IntKind.wrap .i64 (val (y46 (IntKind.wrap .u64 (IntKind.wrap .u64 (IntKind.wrap .u64 (Int.fdiv (IntKind.wrap .u64 u66) ((2 : Int) ^ min (32 : Nat) (IntKind.bits .u64)) * Int.fdiv (1000000 : Int) ((2 : Int) ^ min (32 : Nat) (IntKind.bits .u64))) + Int.fdiv (IntKind.wrap .u64 (IntKind.wrap .u64 (Int.fdiv (IntKind.wrap .u64 u66) ((2 : Int) ^ min (32 : Nat) (IntKind.bits .u64)) * IntKind.wrap .u64 (↑(BitVec.toNat (BitVec.ofInt (IntKind.bits .u64) (1000000 : Int) &&& BitVec.ofInt (IntKind.bits .u64) (4294967295 : Int))) : Int)) + Int.fdiv (IntKind.wrap .u64 (IntKind.wrap .u64 (↑(BitVec.toNat (BitVec.ofInt (IntKind.bits .u64) (IntKind.wrap .u64 u66) &&& BitVec.ofInt (IntKind.bits .u64) (4294967295 : Int))) : Int) * IntKind.wrap .u64 (↑(BitVec.toNat (BitVec.ofInt (IntKind.bits .u64) (1000000 : Int) &&& BitVec.ofInt (IntKind.bits .u64) (4294967295 : Int))) : Int))) ((2 : Int) ^ min (32 : Nat) (IntKind.bits .u64)))) ((2 : Int) ^ min (32 : Nat) (IntKind.bits .u64))) + Int.fdiv (IntKind.wrap .u64 (IntKind.wrap .u64 (↑(BitVec.toNat (BitVec.ofInt (IntKind.bits .u64) (IntKind.wrap .u64 (IntKind.wrap .u64 (Int.fdiv (IntKind.wrap .u64 u66) ((2 : Int) ^ min (32 : Nat) (IntKind.bits .u64)) * IntKind.wrap .u64 (↑(BitVec.toNat (BitVec.ofInt (IntKind.bits .u64) (1000000 : Int) &&& BitVec.ofInt (IntKind.bits .u64) (4294967295 : Int))) : Int)) + Int.fdiv (IntKind.wrap .u64 (IntKind.wrap .u64 (↑(BitVec.toNat (BitVec.ofInt (IntKind.bits .u64) (IntKind.wrap .u64 u66) &&& BitVec.ofInt (IntKind.bits .u64) (4294967295 : Int))) : Int) * IntKind.wrap .u64 (↑(BitVec.toNat (BitVec.ofInt (IntKind.bits .u64) (1000000 : Int) &&& BitVec.ofInt (IntKind.bits .u64) (4294967295 : Int))) : Int))) ((2 : Int) ^ min (32 : Nat) (IntKind.bits .u64)))) &&& BitVec.ofInt (IntKind.bits .u64) (4294967295 : Int))) : Int) + IntKind.wrap .u64 (IntKind.wrap .u64 (↑(BitVec.toNat (BitVec.ofInt (IntKind.bits .u64) (IntKind.wrap .u64 u66) &&& BitVec.ofInt (IntKind.bits .u64) (4294967295 : Int))) : Int) * Int.fdiv (1000000 : Int) ((2 : Int) ^ min (32 : Nat) (IntKind.bits .u64))))) ((2 : Int) ^ min (32 : Nat) (IntKind.bits .u64)))) (IntKind.wrap .u64 (IntKind.wrap .u64 u66 * (1000000 : Int))) (IntKind.wrap .u64 (IntKind.wrap .i64 (u67 * u19))))).1 = r.1) ∧
 (Ob (decide ((val (y46 (IntKind.wrap .u64 (IntKind.wrap .u64 (IntKind.wrap .u64 (Int.fdiv (IntKind.wrap .u64 u66) ((2 : Int) ^ min (32 : Nat) (IntKind.bits .u64)) * Int.fdiv (1000000 : Int) ((2 : Int) ^ min (32 : Nat) (IntKind.bits .u64))) + Int.fdiv (IntKind.wrap .u64 (IntKind.wrap .u64 (Int.fdiv (IntKind.wrap .u64 u66) ((2 : Int) ^ min (32 : Nat) (IntKind.bits .u64)) * IntKind.wrap .u64 (↑(BitVec.toNat (BitVec.ofInt (IntKind.bits .u64) (1000000 : Int) &&& BitVec.ofInt (IntKind.bits .u64) (4294967295 : Int))) : Int)) + Int.fdiv (IntKind.wrap .u64 (IntKind.wrap .u64 (↑(BitVec.toNat (BitVec.ofInt (IntKind.bits .u64) (IntKind.wrap .u64 u66) &&& BitVec.ofInt (IntKind.bits .u64) (4294967295 : Int))) : Int) * IntKind.wrap .u64 (↑(BitVec.toNat (BitVec.ofInt (IntKind.bits .u64) (1000000 : Int) &&& BitVec.ofInt (IntKind.bits .u64) (4294967295 : Int))) : Int))) ((2 : Int) ^ min (32 : Nat) (IntKind.bits .u64)))) ((2 : Int) ^ min (32 : Nat) (IntKind.bits .u64))) + Int.fdiv (IntKind.wrap .u64 (IntKind.wrap .u64 (↑(BitVec.toNat (BitVec.ofInt (IntKind.bits .u64) (IntKind.wrap .u64 (IntKind.wrap .u64 (Int.fdiv (IntKind.wrap .u64 u66) ((2 : Int) ^ min (32 : Nat) (IntKind.bits .u64)) * IntKind.wrap .u64 (↑(BitVec.toNat (BitVec.ofInt (IntKind.bits .u64) (1000000 : Int) &&& BitVec.ofInt (IntKind.bits .u64) (4294967295 : Int))) : Int)) + Int.fdiv (IntKind.wrap .u64 (IntKind.wrap .u64 (↑(BitVec.toNat (BitVec.ofInt (IntKind.bits .u64) (IntKind.wrap .u64 u66) &&& BitVec.ofInt (IntKind.bits .u64) (4294967295 : Int))) : Int) * IntKind.wrap .u64 (↑(BitVec.toNat (BitVec.ofInt (IntKind.bits .u64) (1000000 : Int) &&& BitVec.ofInt (IntKind.bits .u64) (4294967295 : Int))) : Int))) ((2 : Int) ^ min (32 : Nat) (IntKind.bits .u64)))) &&& BitVec.ofInt (IntKind.bits .u64) (4294967295 : Int))) : Int) + IntKind.wrap .u64 (IntKind.wrap .u64 (↑(BitVec.toNat (BitVec.ofInt (IntKind.bits .u64) (IntKind.wrap .u64 u66) &&& BitVec.ofInt (IntKind.bits .u64) (4294967295 : Int))) : Int) * Int.fdiv (1000000 : Int) ((2 : Int) ^ min (32 : Nat) (IntKind.bits .u64))))) ((2 : Int) ^ min (32 : Nat) (IntKind.bits .u64)))) (IntKind.wrap .u64 (IntKind.wrap .u64 u66 * (1000000 : Int))) (IntKind.wrap .u64 (IntKind.wrap .i64 (u67 * u19))))).2 > (0 : Int)) = r.2) ∧
 True)))))))))))) = _) ?_
  refine ob_t ?_
  refine call_s h fun h => ?_
  refine ob_t ?_
  refine ob_t ?_
  refine ob_t ?_
  refine call_s h fun h => ?_
  refine ob_t ?_
  refine ob_t ?_
  refine ob_t ?_
  exact ret_s h (fun e => by subst e; exact (by repeat' (first | exact trivial | exact ⟨rfl⟩ | refine And.intro ?_ ?_)))
set_option maxRecDepth 100000 in
theorem G_decay_centre_1_ok : SpecOK Tryd.prog 87 true (pureT y116 y117) := by
  refine pureT_ok (sp := (sp_88 (sp_89 sp0))) (fn := Tryd.f87) (body := bodyOf Tryd.f87) mixed (sp_88_ok (sp_89_ok sp0_ok)) Tryd.func87 (by kernel_rfl) (by kernel_rfl) fun ls t h ho b hb => ?_
  unfold y117 at h
  split at h
  · rename_i u66 u67 u19 u20 u21 u22 u23 u24
    cases h
    obtain rfl := bld_eq hb
    exact ⟨Nat.le_of_ble_eq_true (by kernel_rfl), _, _, G_decay_centre_1_vc u66 u67 u19 u20 u21 u22 u23 u24 _ (ok_some ho)⟩
  · cases h
theorem sp_87_ok {sp : Specs} (h : SpecsOK Tryd.prog sp) : SpecsOK Tryd.prog (sp_87 sp) := addK_ok G_decay_centre_1_ok h
end Go.Sh
end

section
namespace Go.Sh
open Go Go.Proofs Go.RowKit Go.Sx
set_option linter.unusedVariables false
def y143 : List SV := [.c (.p [.d, .r (.floats .f32 []), .d, .d, .r (.recs 2 []), .r (.recs 2 [])])]
def y50 (u6 : List (List Int)) (x0 : (Int × Int × Int)) : Option ((Int × Int × Int) ⊕ (Int × Int)) :=
  if x0.1 < (↑(List.length u6) : Int) then
   if (0 : Int) ≤ x0.1 ∧ x0.1 < (↑(List.length u6) : Int) then
    if Int.toNat x0.1 < List.length u6 then
     Option.bind (G_plus x0.2.1 x0.2.2 (IntKind.wrap .i64 (x0.1 * List.getD (List.getD u6 (Int.toNat x0.1) []) (0 : Nat) (0 : Int))) (IntKind.wrap .i64 (x0.1 * List.getD (List.getD u6 (Int.toNat x0.1) []) (1 : Nat) (0 : Int)))) fun r0 =>
     some (.inl ((IntKind.wrap .i64 (x0.1 + (1 : Int)), IntKind.wrap .i64 (x0.2.1 + IntKind.wrap .i64 (x0.1 * List.getD (List.getD u6 (Int.toNat x0.1) []) (0 : Nat) (0 : Int))), IntKind.wrap .i64 (x0.2.2 + IntKind.wrap .i64 (x0.1 * List.getD (List.getD u6 (Int.toNat x0.1) []) (1 : Nat) (0 : Int))))))
    else none
   else none
  else
   some (.inr (x0.2.1, x0.2.2))
def y72 (u7 : Int) (u9 : List Nat) (u10 : Int) (u11 : Int) (u6 : List (List Int)) (u12 : List (List Int)) (u17 : Int × Int) : Option (Int × Int × Int) :=
  if (0 : Int) ≤ (0 : Int) ∧ (0 : Int) < (↑(List.length u12) : Int) then
   if (0 : Nat) < List.length u12 then
    Option.bind (y17 u17.1 (List.getD (List.getD u12 (0 : Nat) []) (1 : Nat) (0 : Int)) u7 u9 u10 u11 u6 u12) fun r1 =>
    if (0 : Int) ≤ (0 : Int) ∧ (0 : Int) < (↑(List.length u12) : Int) then
     if (0 : Nat) < List.length u12 then
      Option.bind (y17 u17.2 (List.getD (List.getD u12 (0 : Nat) []) (0 : Nat) (0 : Int)) u7 u9 u10 u11 u6 u12) fun r2 =>
      if (r2.2) = true then
       Option.bind (G_ceil (IntKind.wrap .i64 (IntKind.wrap .i64 ((↑(List.length u6) : Int) - (1 : Int)) * (1000000 : Int))) u7) fun r3 =>
       some ((r1.1, if r3 < IntKind.wrap .i64 (r2.1 + (1 : Int)) then r3 else IntKind.wrap .i64 (r2.1 + (1 : Int)), (0 : Int)))
      else
       Option.bind (G_ceil (IntKind.wrap .i64 (IntKind.wrap .i64 ((↑(List.length u6) : Int) - (1 : Int)) * (1000000 : Int))) u7) fun r3 =>
       some ((r1.1, if r3 < r2.1 then r3 else r2.1, (0 : Int)))
     else none
    else none
   else none
  else none
def y3 (u7 : Int) (u9 : List Nat) (u10 : Int) (u11 : Int) (u6 : List (List Int)) (u12 : List (List Int)) : Option (Int × Int × Int) :=
  if (u11 != (0 : Int)) = true then
   some (((0 : Int), (0 : Int), (23 : Int)))
  else
   if (0 : Int) ≤ (0 : Int) ∧ (0 : Int) < (↑(List.length u12) : Int) then
    if (0 : Nat) < List.length u12 then
     if (List.getD (List.getD u12 (0 : Nat) []) (0 : Nat) (0 : Int) == (0 : Int)) = true then
      some (((0 : Int), (0 : Int), (11 : Int)))
     else
      Option.bind (iter (y50 u6) big (((0 : Int), (0 : Int), (0 : Int)))) (y72 u7 u9 u10 u11 u6 u12)
    else none
   else none
def y144 : List Lf → Option GT
  | [.d (.i .i64 u7), .r (.floats .f32 u9), .d (.i .i64 u10), .d (.i .i64 u11), .r (.recs 2 u6), .r (.recs 2 u12)] => some (.leaf (ok (y3 u7 u9 u10 u11 u6 u12)) [.s [.d (.i .i64 ((val (y3 u7 u9 u10 u11 u6 u12)).1)), .d (.i .i64 ((val (y3 u7 u9 u10 u11 u6 u12)).2.1))], .c (.d (.i .i64 ((val (y3 u7 u9 u10 u11 u6 u12)).2.2)))])
  | _ => none
abbrev sp_60 : Specs → Specs := addK 60 true (pureT y143 y144)
set_option maxRecDepth 100000 in
theorem G_decay_centre_vc (u7 : Int) (u9 : List Nat) (u10 : Int) (u11 : Int) (u6 : List (List Int)) (u12 : List (List Int)) (r : Int × Int × Int) (h : Option.bind (y3 u7 u9 u10 u11 u6 u12) some = some r) : runT Tryd.f60 ((sp_83 (sp_87 (sp_81 sp0)))) (fun gs id _ => match id with
 | 1 => some ⟨(Int × Int × Int) × Nat, fun z => ⟨[(1, .w (.c (.p 4 (0 : Nat) 1 (0 : Nat)))), (2, .w (.c (.p 5 (0 : Nat) 1 (0 : Nat)))), (4, .w (.c (.p 6 (0 : Nat) 1 (0 : Nat)))), (33, .w (.c (.o 1))), (34, .w (.c (.d (.i .i64 ((↑(List.length u6) : Int)))))), (35, .w (.c (.d (.i .i64 (Prod.fst (Prod.fst z))))))], [(4, .box 95 [.p 3 (0 : Nat) 1 (0 : Nat)]), (5, .box 24 [.d (.i .i64 (0 : Int)), .d (.i .i64 (0 : Int))]), (6, .box 24 [.d (.i .i64 (Prod.fst (Prod.snd (Prod.fst z)))), .d (.i .i64 (Prod.snd (Prod.snd (Prod.fst z))))]), (1, .ext (.recs 2 u6)), (3, .ebox [.d (.i .i64 u7), .o 0, .d (.i .i64 u10), .d (.i .i64 u11), .o 1, .o 2]), (0, .ext (.floats .f32 u9)), (2, .ext (.recs 2 u12))], 7⟩, fun z => Option.bind (iter (y50 u6) (Prod.snd z) (Prod.fst z)) (fun y0 => Option.bind (y72 u7 u9 u10 u11 u6 u12 y0) some) = some r, fun z => Prod.snd z⟩
 | _ => none) (bldD y143 [.d (.i .i64 u7), .r (.floats .f32 u9), .d (.i .i64 u10), .d (.i .i64 u11), .r (.recs 2 u6), .r (.recs 2 u12)]) [.s [.d (.i .i64 r.1), .d (.i .i64 r.2.1)], .c (.d (.i .i64 r.2.2))] := by
  refine Eq.mp (by kernel_rfl : (
 (Ob (True) ∧
 Br (u11 != (0 : Int))
   ((Ob (True) ∧
 (Ob (True) ∧
 (Ob ((0 : Int) = r.1) ∧
 (Ob ((0 : Int) = r.2.1) ∧
 (Ob ((23 : Int) = r.2.2) ∧
 True))))))
   ((Ob (True) ∧
 (Ob ((0 : Int) ≤ (0 : Int) ∧ (0 : Int) < (↑(List.length u12) : Int)) ∧
 (Ob ((0 : Nat) < List.length u12) ∧
 Br (List.getD (List.getD u12 (0 : Nat) []) (0 : Nat) (0 : Int) == (0 : Int))
   ((Ob (True) ∧
 (Ob (True) ∧
 (Ob ((0 : Int) = r.1) ∧
 (Ob ((0 : Int) = r.2.1) ∧
 (Ob ((11 : Int) = r.2.2) ∧
 True))))))
   ((Ob (True) ∧
   ((∃ (v0 : (Int × Int × Int) × Nat), (Ob ((Option.bind (iter (y50 u6) v0.2 v0.1) fun y0 => Option.bind (y72 u7 u9 u10 u11 u6 u12 y0) some) = some r) ∧
 (Ob ((0 : Nat) = (0 : Nat)) ∧
 (Ob ((0 : Nat) = (0 : Nat)) ∧
 (Ob ((0 : Nat) = (0 : Nat)) ∧
 (Ob ((↑(List.length u6) : Int) = (↑(List.length u6) : Int)) ∧
 (Ob ((0 : Int) = v0.1.1) ∧
 (Ob ((0 : Nat) = (0 : Nat)) ∧
 (Ob ((0 : Int) = (0 : Int)) ∧
 (Ob ((0 : Int) = (0 : Int)) ∧
 (Ob ((0 : Int) = v0.1.2.1) ∧
 (Ob ((0 : Int) = v0.1.2.2) ∧
 (Ob (u6 = u6) ∧
 (Ob (u7 = u7) ∧
 (Ob (u10 = u10) ∧
 (Ob (u11 = u11) ∧
 (Ob (u9 = u9) ∧
 (Ob (u12 = u12) ∧
 True)))))))))))))))))) ∧
   (∀ (v0 : (Int × Int × Int) × Nat), ((Option.bind (iter (y50 u6) v0.2 v0.1) fun y0 => Option.bind (y72 u7 u9 u10 u11 u6 u12 y0) some) = some r →
 Br (decide (v0.1.1 < (↑(List.length u6) : Int)))
   ((Ob ((0 : Int) ≤ v0.1.1 ∧ v0.1.1 < (↑(List.length u6) : Int)) ∧
 (Ob (Int.toNat v0.1.1 < List.length u6) ∧
 (Ob (ok (G_plus v0.1.2.1 v0.1.2.2 (IntKind.wrap .i64 (v0.1.1 * List.getD (List.getD u6 (Int.toNat v0.1.1) []) (0 : Nat) (0 : Int))) (IntKind.wrap .i64 (v0.1.1 * List.getD (List.getD u6 (Int.toNat v0.1.1) []) (1 : Nat) (0 : Int))))) ∧
   (∃ (v1 : (Int × Int × Int) × Nat), (Ob ((Option.bind (iter (y50 u6) v1.2 v1.1) fun y0 => Option.bind (y72 u7 u9 u10 u11 u6 u12 y0) some) = some r) ∧
 (Ob (v1.2 < v0.2) ∧
 (Ob ((0 : Nat) = (0 : Nat)) ∧
 (Ob ((0 : Nat) = (0 : Nat)) ∧
 (Ob ((0 : Nat) = (0 : Nat)) ∧
 (Ob ((↑(List.length u6) : Int) = (↑(List.length u6) : Int)) ∧
 (Ob (IntKind.wrap .i64 (v0.1.1 + (1 : Int)) = v1.1.1) ∧
 (Ob ((0 : Nat) = (0 : Nat)) ∧
 (Ob ((0 : Int) = (0 : Int)) ∧
 (Ob ((0 : Int) = (0 : Int)) ∧
 (Ob (IntKind.wrap .i64 (v0.1.2.1 + IntKind.wrap .i64 (v0.1.1 * List.getD (List.getD u6 (Int.toNat v0.1.1) []) (0 : Nat) (0 : Int))) = v1.1.2.1) ∧
 (Ob (IntKind.wrap .i64 (v0.1.2.2 + IntKind.wrap .i64 (v0.1.1 * List.getD (List.getD u6 (Int.toNat v0.1.1) []) (1 : Nat) (0 : Int))) = v1.1.2.2) ∧
 (Ob (u6 = u6) ∧
 (Ob (u7 = u7) ∧
 (Ob (u10 = u10) ∧
 (Ob (u11 = u11) ∧
 (Ob (u9 = u9) ∧
 (Ob (u12 = u12) ∧
 True)))))))))))))))))))))))
   ((Ob (True) ∧
 (Ob ((0 : Int) ≤ (0 : Int) ∧ (0 : Int) < (↑(List.length u12) : Int)) ∧
 (Ob ((0 : Nat) < List.length u12) ∧
 (Ob (ok (y17 v0.1.2.1 (List.getD (List.getD u12 (0 : Nat) []) (1 : Nat) (0 : Int)) u7 u9 u10 u11 u6 u12)) ∧
 (Ob (True) ∧
 (Ob ((0 : Int) ≤ (0 : Int) ∧ (0 : Int) < (↑(List.length u12) : Int)) ∧
 (Ob ((0 : Nat) < List.length u12) ∧
 (Ob (ok (y17 v0.1.2.2 (List.getD (List.getD u12 (0 : Nat) []) (0 : Nat) (0 : Int)) u7 u9 u10 u11 u6 u12)) ∧
 Br ((val (y17 v0.1.2.2 (List.getD (List.getD u12 (0 : Nat) []) (0 : Nat) (0 : Int)) u7 u9 u10 u11 u6 u12)).2)
   ((Ob (True) ∧
 (Ob (True) ∧
 (Ob (ok (G_ceil (IntKind.wrap .i64 (IntKind.wrap .i64 ((↑(List.length u6) : Int) - (1 : Int)) * (1000000 : Int))) u7)) ∧
 (Ob (True) ∧
 (Ob (True) ∧
 (Ob ((val (y17 v0.1.2.1 (List.getD (List.getD u12 (0 : Nat) []) (1 : Nat) (0 : Int)) u7 u9 u10 u11 u6 u12)).1 = r.1) ∧
 (Ob ((if val (G_ceil (IntKind.wrap .i64 (IntKind.wrap .i64 ((↑(List.length u6) : Int) - (1 : Int)) * (1000000 : Int))) u7) < IntKind.wrap .i64 ((val (y17 v0.1.2.2 (List.getD (List.getD u12 (0 : Nat) []) (0 : Nat) (0 : Int)) u7 u9 u10 u11 u6 u12)).1 + (1 : Int)) then val (G_ceil (IntKind.wrap .i64 (IntKind.wrap .i64 ((↑(List.length u6) : Int) - (1 : Int)) * (1000000 : Int))) u7) else IntKind.wrap .i64 ((val (y17 v0.1.2.2 (List.getD (List.getD u12 (0 : Nat) []) (0 : Nat) (0 : Int)) u7 u9 u10 u11 u6 u12)).1 + (1 : Int))) = r.2.1) ∧
 (Ob ((0 : Int) = r.2.2) ∧
 True)))))))))
   ((Ob (True) ∧
 (Ob (True) ∧
 (Ob (ok (G_ceil (IntKind.wrap .i64 (IntKind.wrap .i64 ((↑(List.length u6) : Int) - (1 : Int)) * (1000000 : Int))) u7)) ∧
 (Ob (True) ∧
 (Ob (True) ∧
 (Ob ((val (y17 v0.1.2.1 (List.getD (List.getD u12 (0 : Nat) []) (1 : Nat) (0 : Int)) u7 u9 u10 u11 u6 u12)).1 = r.1) ∧
 (Ob ((if val (G_ceil (IntKind.wrap .i64 (IntKind.wrap .i64 ((↑(List.length u6) : Int) - (1 : Int)) * (1000000 : Int))) u7) < (val (y17 v0.1.2.2 (List.getD (List.getD u12 (0 : Nat) []) (0 : Nat) (0 : Int)) u7 u9 u10 u11 u6 u12)).1 then val (G_ceil (IntKind.wrap .i64 (IntKind.wrap .i64 ((↑(List.length u6) : Int) - (1 : Int)) * (1000000 : Int))) u7) else (val (y17 v0.1.2.2 (List.getD (List.getD u12 (0 : Nat) []) (0 : Nat) (0 : Int)) u7 u9 u10 u11 u6 u12)).1) = r.2.1) ∧
 (Ob ((0 : Int) = r.2.2) ∧
 True))))))))))))))))))))))))))))) = _) ?_
  refine ob_t ?_
  refine br_b h (fun h => ?_) (fun h => ?_)
  · refine ob_t ?_
    refine ob_t ?_
    exact ret_s h (fun e => by subst e; exact (by repeat' (first | exact trivial | exact ⟨rfl⟩ | refine And.intro ?_ ?_)))
  · refine ob_t ?_
    refine ob_s h fun h => ?_
    refine ob_s h fun h => ?_
    refine br_b h (fun h => ?_) (fun h => ?_)
    · refine ob_t ?_
      refine ob_t ?_
      exact ret_s h (fun e => by subst e; exact (by repeat' (first | exact trivial | exact ⟨rfl⟩ | refine And.intro ?_ ?_)))
    · refine ob_t ?_
      refine ⟨⟨(((0 : Int), (0 : Int), (0 : Int)), big), ⟨loop_s h⟩, (by repeat' (first | exact trivial | exact ⟨rfl⟩ | refine And.intro ?_ ?_))⟩, fun z4 hz4 => ?_⟩
      obtain ⟨k4, hm4, h⟩ := iter_pos hz4
      refine br_d h (fun h => ?_) (fun h => ?_)
      · refine ob_s h fun h => ?_
        refine ob_s h fun h => ?_
        refine call_s h fun h => ?_
        exact ⟨((IntKind.wrap .i64 ((Prod.fst z4).1 + (1 : Int)), IntKind.wrap .i64 ((Prod.fst z4).2.1 + IntKind.wrap .i64 ((Prod.fst z4).1 * List.getD (List.getD u6 (Int.toNat (Prod.fst z4).1) []) (0 : Nat) (0 : Int))), IntKind.wrap .i64 ((Prod.fst z4).2.2 + IntKind.wrap .i64 ((Prod.fst z4).1 * List.getD (List.getD u6 (Int.toNat (Prod.fst z4).1) []) (1 : Nat) (0 : Int)))), k4), ⟨next_s h⟩, ⟨lt_gs hm4.symm⟩, (by repeat' (first | exact trivial | exact ⟨rfl⟩ | refine And.intro ?_ ?_))⟩
      · have h := exit_s h
        refine ob_t ?_
        refine ob_s h fun h => ?_
        refine ob_s h fun h => ?_
        refine call_s h fun h => ?_
        refine ob_t ?_
        refine ob_s h fun h => ?_
        refine ob_s h fun h => ?_
        refine call_s h fun h => ?_
        refine br_b h (fun h => ?_) (fun h => ?_)
        · refine ob_t ?_
          refine ob_t ?_
          refine call_s h fun h => ?_
          refine ob_t ?_
          refine ob_t ?_
          exact ret_s h (fun e => by subst e; exact (by repeat' (first | exact trivial | exact ⟨rfl⟩ | refine And.intro ?_ ?_)))
        · refine ob_t ?_
          refine ob_t ?_
          refine call_s h fun h => ?_
          refine ob_t ?_
          refine ob_t ?_
          exact ret_s h (fun e => by subst e; exact (by repeat' (first | exact trivial | exact ⟨rfl⟩ | refine And.intro ?_ ?_)))
set_option maxRecDepth 100000 in
theorem G_decay_centre_ok : SpecOK Tryd.prog 60 true (pureT y143 y144) := by
  refine pureT_ok (sp := (sp_83 (sp_87 (sp_81 sp0)))) (fn := Tryd.f60) (body := bodyOf Tryd.f60) mixed (sp_83_ok (sp_87_ok (sp_81_ok sp0_ok))) Tryd.func60 (by kernel_rfl) (by kernel_rfl) fun ls t h ho b hb => ?_
  unfold y144 at h
  split at h
  · rename_i u7 u9 u10 u11 u6 u12
    cases h
    obtain rfl := bld_eq hb
    exact ⟨Nat.le_of_ble_eq_true (by kernel_rfl), _, _, G_decay_centre_vc u7 u9 u10 u11 u6 u12 _ (ok_some ho)⟩
  · cases h
theorem sp_60_ok {sp : Specs} (h : SpecsOK Tryd.prog sp) : SpecsOK Tryd.prog (sp_60 sp) := addK_ok G_decay_centre_ok h
def k_G_Centre : List SV := [.a [.d, .r (.floats .f32 []), .d, .d]]
def y55 (u13 : Int) (u14 : List Nat) (u15 : Int) (u16 : Int) : Option (Int × Int × Int) :=
  if ((val (G_open u13 u14 u15 u16)).1 != (0 : Int)) = true then
   Option.bind (G_open u13 u14 u15 u16) fun r0 =>
   if (r0.1 != (0 : Int)) = true then
    some (((0 : Int), (0 : Int), r0.1))
   else
    none   else
   Option.bind (G_open u13 u14 u15 u16) fun r0 =>
   Option.bind (y3 u13 u14 u15 u16 r0.2.1 r0.2.2) fun r1 =>
   some (r1.1, r1.2.1, r1.2.2)
def g_G_Centre : List Lf → Option GT
  | [.d (.i .i64 u13), .r (.floats .f32 u14), .d (.i .i64 u15), .d (.i .i64 u16)] => some (.leaf (ok (y55 u13 u14 u15 u16)) [.s [.d (.i .i64 ((val (y55 u13 u14 u15 u16)).1)), .d (.i .i64 ((val (y55 u13 u14 u15 u16)).2.1))], .c (.d (.i .i64 ((val (y55 u13 u14 u15 u16)).2.2)))])
  | _ => none
abbrev sp_29 : Specs → Specs := addK 29 true (pureT k_G_Centre g_G_Centre)
set_option maxRecDepth 100000 in
def G_Centre_t (u13 : Int) (u14 : List Nat) (u15 : Int) (u16 : Int) : T (Int × Int × Int) :=
 .brB ((val (G_open u13 u14 u15 u16)).1 != (0 : Int))
  (.call (G_open u13 u14 u15 u16) fun r0 =>
  .brB (r0.1 != (0 : Int))
  (.obT
  (.obT
  (.rc ((((0 : Int), (0 : Int), r0.1))))))
  (.bad (fun r => False)))
  (.call (G_open u13 u14 u15 u16) fun r0 =>
  .call (y3 u13 u14 u15 u16 r0.2.1 r0.2.2) fun r1 =>
  .obT
  (.obT
  (.rc ((r1.1, r1.2.1, r1.2.2)))))
set_option maxRecDepth 100000 in
theorem G_Centre_vc (u13 : Int) (u14 : List Nat) (u15 : Int) (u16 : Int) (r : Int × Int × Int) (h : Option.bind (y55 u13 u14 u15 u16) some = some r) : runT Tryd.f29 ((sp_56 (sp_60 sp0))) (fun _ _ _ => none) (bldD k_G_Centre [.d (.i .i64 u13), .r (.floats .f32 u14), .d (.i .i64 u15), .d (.i .i64 u16)]) [.s [.d (.i .i64 r.1), .d (.i .i64 r.2.1)], .c (.d (.i .i64 r.2.2))] :=
  T.vc (t := G_Centre_t u13 u14 u15 u16) (by kernel_rfl) (by kernel_rfl) h
set_option maxRecDepth 100000 in
theorem G_Centre_ok : SpecOK Tryd.prog 29 true (pureT k_G_Centre g_G_Centre) := by
  refine pureT_ok (sp := (sp_56 (sp_60 sp0))) (fn := Tryd.f29) (body := bodyOf Tryd.f29) mixed (sp_56_ok (sp_60_ok sp0_ok)) Tryd.func29 (by kernel_rfl) (by kernel_rfl) fun ls t h ho b hb => ?_
  unfold g_G_Centre at h
  split at h
  · rename_i u13 u14 u15 u16
    cases h
    obtain rfl := bld_eq hb
    exact ⟨Nat.le_of_ble_eq_true (by kernel_rfl), _, _, G_Centre_vc u13 u14 u15 u16 _ (ok_some ho)⟩
  · cases h
theorem sp_29_ok {sp : Specs} (h : SpecsOK Tryd.prog sp) : SpecsOK Tryd.prog (sp_29 sp) := addK_ok G_Centre_ok h
end Go.Sh
end

section
namespace Go.Sh
open Go Go.Proofs Go.RowKit Go.Sx Go.Sx06 Ieee Go.Fl
theorem split_eq {L : Int} (h : -900 ≤ L ∧ L ≤ 900) : G_split L = some (L / 10, L % 10) := by
  unfold G_split
  rw [wr64 (x := L + 900) (by omega), Int.tdiv_eq_ediv_of_nonneg (by omega), Int.tmod_eq_emod_of_nonneg (by omega), wr64 (x := (L + 900) / 10) (by omega), wr64 (by omega)]
  congr 2
  · omega
  · omega
theorem tn_range {k : Int} (h : 0 ≤ k ∧ k < 10) : 1000000000 ≤ tenthsT.getD k.toNat 0 ∧ tenthsT.getD k.toNat 0 ≤ 7943282347 := by
  rcases (by omega : k = 0 ∨ k = 1 ∨ k = 2 ∨ k = 3 ∨ k = 4 ∨ k = 5 ∨ k = 6 ∨ k = 7 ∨ k = 8 ∨ k = 9) with rfl | rfl | rfl | rfl | rfl | rfl | rfl | rfl | rfl | rfl <;> exact ⟨by decide, by decide⟩
def nuL (u L : Int) : Int := (tenthsT.getD (L % 10).toNat 0 + if 0 < L % 10 then u else 0) * p10 (max (L / 10) 0)
def deL (L : Int) : Int := 1000000000 * p10 (max (-(L / 10)) 0)
theorem triLe (x y : Int) : decide ((if x < y then (-1 : Int) else if y < x then 1 else 0) ≤ 0) = decide (x ≤ y) := by
  by_cases h1 : x < y
  · rw [if_pos h1, decide_eq_true (by omega), decide_eq_true (by omega)]
  · by_cases h2 : y < x
    · rw [if_neg h1, if_pos h2, decide_eq_false (by omega), decide_eq_false (by omega)]
    · rw [if_neg h1, if_neg h2, decide_eq_true (by omega), decide_eq_true (by omega)]
theorem triGe (x y : Int) : decide ((if x < y then (-1 : Int) else if y < x then 1 else 0) ≥ 0) = decide (y ≤ x) := by
  by_cases h1 : x < y
  · rw [if_pos h1, decide_eq_false (by omega), decide_eq_false (by omega)]
  · by_cases h2 : y < x
    · rw [if_neg h1, if_pos h2, decide_eq_true (by omega), decide_eq_true (by omega)]
    · rw [if_neg h1, if_neg h2, decide_eq_true (by omega), decide_eq_true (by omega)]
section
variable {num den L : Int}
theorem underG_eq (hn : 1 ≤ num ∧ num ≤ 10000000000000) (hd : 1 ≤ den ∧ den ≤ 10000000000000) (h : -90 ≤ L ∧ L ≤ 90) :
    y73 (IntKind.wrap IntKind.u64 num) (IntKind.wrap IntKind.u64 den) L = some (decide (nuL 1 L * den ≤ deL L * num)) := by
  have ht := tn_range (k := L % 10) (by omega)
  have e1 : IntKind.wrap IntKind.u64 num = num := by rw [u64m]; omega
  have e2 : IntKind.wrap IntKind.u64 den = den := by rw [u64m]; omega
  unfold y73
  rw [split_eq (by omega), bind_some', wr64 (x := L + 900) (by omega), Int.tmod_eq_emod_of_nonneg (by omega), Int.tdiv_eq_ediv_of_nonneg (by omega), wr64 (x := (L + 900) / 10) (by omega), wr64 (by omega), e1, e2]
  rw [show (L + 900) % 10 = L % 10 by omega, show (L + 900) / 10 - 90 = L / 10 by omega]
  have hl : tenthsT.length = 10 := rfl
  rw [if_pos (by omega), if_pos (by rw [hl]; omega)]
  unfold nuL deL
  by_cases hk : L % 10 > 0
  · rw [if_pos hk, if_pos hk]
    have e3 : IntKind.wrap IntKind.u64 (tenthsT.getD (L % 10).toNat 0 + 1) = tenthsT.getD (L % 10).toNat 0 + 1 := by rw [u64m]; omega
    rw [e3, ratioG_eq hn hd (by omega) (by omega), bind_some', triLe]
  · rw [if_neg hk, if_neg hk, ratioG_eq hn hd (by omega) (by omega), bind_some', triLe, Int.add_zero]
theorem overG_eq (hn : 1 ≤ num ∧ num ≤ 10000000000000) (hd : 1 ≤ den ∧ den ≤ 10000000000000) (h : -90 ≤ L ∧ L ≤ 90) :
    y80 (IntKind.wrap IntKind.u64 num) (IntKind.wrap IntKind.u64 den) L = some (decide (deL L * num ≤ nuL 0 L * den)) := by
  have ht := tn_range (k := L % 10) (by omega)
  have e1 : IntKind.wrap IntKind.u64 num = num := by rw [u64m]; omega
  have e2 : IntKind.wrap IntKind.u64 den = den := by rw [u64m]; omega
  unfold y80
  rw [split_eq (by omega), bind_some', wr64 (x := L + 900) (by omega), Int.tmod_eq_emod_of_nonneg (by omega), Int.tdiv_eq_ediv_of_nonneg (by omega), wr64 (x := (L + 900) / 10) (by omega), wr64 (by omega), e1, e2]
  rw [show (L + 900) % 10 = L % 10 by omega, show (L + 900) / 10 - 90 = L / 10 by omega]
  have hl : tenthsT.length = 10 := rfl
  rw [if_pos (by omega), if_pos (by rw [hl]; omega)]
  unfold nuL deL
  rw [ratioG_eq hn hd (by omega) (by omega), bind_some', triGe, show (if 0 < L % 10 then (0 : Int) else 0) = 0 by split <;> rfl, Int.add_zero]
end
end Go.Sh
end

section
namespace Go.Sh
open Go Go.Proofs Go.RowKit Go.Sx Go.Sx06 Ieee Go.Fl
def tmE (time : Int) : Int := if 0 ≤ time ∧ time ≤ 1000000 then 0 else 2
theorem tm_zero {time : Int} (h : tmE time = 0) : 0 ≤ time ∧ time ≤ 1000000 := by
  unfold tmE at h
  by_cases h' : 0 ≤ time ∧ time ≤ 1000000
  · exact h'
  · rw [if_neg h'] at h; omega
theorem take_range {zs : List (List Int)} (hz : ∀ r ∈ zs, okZ r) (hl : zs.length ≤ 1024) (c : Nat) : 0 ≤ sLo (zs.take c) ∧ sLo (zs.take c) ≤ sHi (zs.take c) ∧ sHi (zs.take c) ≤ 5000000000000 := by
  have := s_range (zs := zs.take c) fun r hr => hz r (List.mem_of_mem_take hr)
  have h2 : ((zs.take c).length : Int) ≤ 1024 := by rw [List.length_take]; omega
  omega
theorem drop_range {zs : List (List Int)} (hz : ∀ r ∈ zs, okZ r) (hl : zs.length ≤ 1024) (c : Nat) : 0 ≤ sLo (zs.drop c) ∧ sLo (zs.drop c) ≤ sHi (zs.drop c) ∧ sHi (zs.drop c) ≤ 5000000000000 := by
  have := s_range (zs := zs.drop c) fun r hr => hz r (List.mem_of_mem_drop hr)
  have h2 : ((zs.drop c).length : Int) ≤ 1024 := by rw [List.length_drop]; omega
  omega
def unI (num den : Int) : Option Nat := (List.range 181).findIdx? fun (i : Nat) => decide (nuL 1 (90 - (i : Int)) * den ≤ deL (90 - (i : Int)) * num)
def ovI (num den : Int) : Option Nat := (List.range 181).findIdx? fun (i : Nat) => decide (deL ((i : Int) - 90) * num ≤ nuL 0 ((i : Int) - 90) * den)
def lvS (num den : Int) : Int × Int × Int :=
  if ¬ (1 ≤ num ∧ num ≤ 10000000000000) then (0, 0, 2) else if ¬ (1 ≤ den ∧ den ≤ 10000000000000) then (0, 0, 2) else
  if den * 1000000000 < num then (0, 0, 8) else if num * 1000000000 < den then (0, 0, 8) else (90 - (((unI num den).getD 0 : Nat) : Int), (((ovI num den).getD 0 : Nat) : Int) - 90, 0)
theorem rg {i : Nat} (h : i < 181) : (List.range 181).getD i 0 = i := by simp [List.getD, h]
section
variable {num den : Int}
theorem un_ex (h : den ≤ num * 1000000000) : ∃ j : Nat, unI num den = some j ∧ j < 181 ∧ decide (nuL 1 (90 - (j : Int)) * den ≤ deL (90 - (j : Int)) * num) = true ∧ ∀ i : Nat, i < j → decide (nuL 1 (90 - (i : Int)) * den ≤ deL (90 - (i : Int)) * num) = false := by
  have hx : ∃ j, unI num den = some j ∧ j ≤ 180 := by
    refine idx_le (d := 0) (j := 180) (by simp) ?_
    rw [rg (by omega)]
    have e1 : nuL 1 (90 - ((180 : Nat) : Int)) = 1000000000 := by decide
    have e2 : deL (90 - ((180 : Nat) : Int)) = 1000000000000000000 := by decide
    rw [e1, e2]
    exact decide_eq_true (by omega)
  obtain ⟨j, hj, hle⟩ := hx
  obtain ⟨a, b, c⟩ := idx_some (d := 0) hj
  rw [rg (by omega)] at b
  refine ⟨j, hj, by omega, b, fun i hi => ?_⟩
  have := c i hi
  rw [rg (by omega)] at this
  exact this
theorem ov_ex (h : num ≤ den * 1000000000) : ∃ j : Nat, ovI num den = some j ∧ j < 181 ∧ decide (deL ((j : Int) - 90) * num ≤ nuL 0 ((j : Int) - 90) * den) = true ∧ ∀ i : Nat, i < j → decide (deL ((i : Int) - 90) * num ≤ nuL 0 ((i : Int) - 90) * den) = false := by
  have hx : ∃ j, ovI num den = some j ∧ j ≤ 180 := by
    refine idx_le (d := 0) (j := 180) (by simp) ?_
    rw [rg (by omega)]
    have e1 : nuL 0 (((180 : Nat) : Int) - 90) = 1000000000000000000 := by decide
    have e2 : deL (((180 : Nat) : Int) - 90) = 1000000000 := by decide
    rw [e1, e2]
    exact decide_eq_true (by omega)
  obtain ⟨j, hj, hle⟩ := hx
  obtain ⟨a, b, c⟩ := idx_some (d := 0) hj
  rw [rg (by omega)] at b
  refine ⟨j, hj, by omega, b, fun i hi => ?_⟩
  have := c i hi
  rw [rg (by omega)] at this
  exact this
theorem levelG_eq : y83 num den = some (lvS num den) := by
  unfold y83 lvS y69
  rw [withinG_eq, bind_some', bind_some']
  by_cases hn : 1 ≤ num ∧ num ≤ 10000000000000
  · rw [nd_t hn, if_neg Bool.false_ne_true, if_neg (fun h => h hn), withinG_eq, bind_some', bind_some']
    by_cases hd : 1 ≤ den ∧ den ≤ 10000000000000
    · rw [nd_t hd, if_neg Bool.false_ne_true, if_neg (fun h => h hd)]
      have great : ∀ {a b : Int}, 1 ≤ a ∧ a ≤ 10000000000000 → 1 ≤ b ∧ b ≤ 10000000000000 → y62 a b = some (decide (b * 1000000000 < a)) := by
        intro a b ha hb
        unfold y62
        by_cases h : b ≤ 10000
        · rw [if_pos h, wr64 (by omega)]
        · rw [if_neg h, decide_eq_false (by omega)]
      rw [great hn hd, bind_some']
      by_cases g1 : den * 1000000000 < num
      · rw [decide_eq_true g1, if_pos rfl, if_pos g1]
      · rw [decide_eq_false g1, if_neg Bool.false_ne_true, if_neg g1, great hd hn, bind_some']
        by_cases g2 : num * 1000000000 < den
        · rw [decide_eq_true g2, if_pos rfl, if_pos g2]
        · rw [decide_eq_false g2, if_neg Bool.false_ne_true, if_neg g2]
          obtain ⟨j, hj, j1, j2, j3⟩ := un_ex (num := num) (den := den) (by omega)
          obtain ⟨k, hk, k1, k2, k3⟩ := ov_ex (num := num) (den := den) (by omega)
          have i1 : iter (y81 num den) big (90 : Int) = some (90 - (j : Int)) := by
            refine iter_upto (fun i => (90 : Int) - (i : Int)) (k := j) (fun i hi => ?_) ?_ (by omega)
            · unfold y81
              rw [underG_eq hn hd (by omega), bind_some', j3 i hi, if_pos (by decide), wr64 (by omega)]
              congr 2; omega
            · unfold y81
              rw [underG_eq hn hd (by omega), bind_some', j2, if_neg (by decide)]
          have i2 : iter (y82 num den) big (-90 : Int) = some ((k : Int) - 90) := by
            refine iter_upto (fun i => (i : Int) - 90) (k := k) (fun i hi => ?_) ?_ (by omega)
            · unfold y82
              rw [overG_eq hn hd (by omega), bind_some', k3 i hi, if_pos (by decide), wr64 (by omega)]
              congr 2; omega
            · unfold y82
              rw [overG_eq hn hd (by omega), bind_some', k2, if_neg (by decide)]
          rw [i1, bind_some']
          unfold y98
          rw [i2, bind_some', hj, hk]
          rfl
    · rw [nd_f hd, if_pos rfl, if_pos hd]
  · rw [nd_f hn, if_pos rfl, if_pos hn]
end
def clS (rate : Int) (zs : List (List Int)) (T time : Int) : Int × Int × Int :=
  if cutN rate time zs.length = zs.length then (0, 0, 12) else
  if sLo (zs.take (cutN rate time zs.length)) = 0 then (0, 0, 11) else
  if sLo (zs.drop (cutN rate time zs.length)) = 0 then (0, 0, 11) else
  if (lvS (sLo (zs.take (cutN rate time zs.length))) (sHi (zs.drop (cutN rate time zs.length)) + T)).2.2 ≠ 0 then (0, 0, (lvS (sLo (zs.take (cutN rate time zs.length))) (sHi (zs.drop (cutN rate time zs.length)) + T)).2.2) else
  if (lvS (sHi (zs.take (cutN rate time zs.length))) (sLo (zs.drop (cutN rate time zs.length)))).2.2 ≠ 0 then (0, 0, (lvS (sHi (zs.take (cutN rate time zs.length))) (sLo (zs.drop (cutN rate time zs.length)))).2.2) else
  ((lvS (sLo (zs.take (cutN rate time zs.length))) (sHi (zs.drop (cutN rate time zs.length)) + T)).1, (lvS (sHi (zs.take (cutN rate time zs.length))) (sLo (zs.drop (cutN rate time zs.length)))).2.1, 0)
def clW (rate : Int) (l : List Nat) (noise tail time : Int) : Int × Int × Int :=
  if (askE rate l noise tail).2 ≠ 0 then (0, 0, (askE rate l noise tail).2) else if tmE time ≠ 0 then (0, 0, tmE time) else clS rate (zsO noise l) tail time
theorem dcG_eq {rate noise tail T time : Int} {l : List Nat} {zs : List (List Int)} (hz : ZOK zs T) (hr : 8000 ≤ rate ∧ rate ≤ 192000) (ht : 0 ≤ time ∧ time ≤ 1000000) :
    y35 rate l noise tail zs (ssO zs T) time = some (clS rate zs T time) := by
  unfold y35 clS
  rw [earlyG_eq hz.ok hz.len hr ht, bind_some', lateG_eq hr ht, bind_some', cutG_eq hr ht, bind_some']
  dsimp only
  by_cases h0 : cutN rate time zs.length = zs.length
  · rw [if_pos (show ((cutN rate time zs.length : Int) == (zs.length : Int)) = true by rw [h0]; simp), if_pos h0]
  · rw [if_neg (show ¬ ((cutN rate time zs.length : Int) == (zs.length : Int)) = true by simp; omega), if_neg h0]
    generalize sLo (zs.take (cutN rate time zs.length)) = el at *
    generalize sHi (zs.take (cutN rate time zs.length)) = eh at *
    generalize sLo (zs.drop (cutN rate time zs.length)) = ll at *
    generalize sHi (zs.drop (cutN rate time zs.length)) = lh at *
    by_cases h1 : el = 0
    · rw [if_pos (show (el == 0) = true by simpa using h1), if_pos h1]
    · rw [if_neg (show ¬ (el == 0) = true by simpa using h1), if_neg h1]
      by_cases h2 : ll = 0
      · rw [if_pos (show (ll == 0) = true by simpa using h2), if_pos h2]
      · rw [if_neg (show ¬ (ll == 0) = true by simpa using h2), if_neg h2, levelG_eq, bind_some', levelG_eq, bind_some', first_eq (by simp), bind_some', firE2]
        by_cases h3 : (lvS el (lh + T)).2.2 = 0
        · rw [if_neg (show ¬ (lvS el (lh + T)).2.2 ≠ 0 from fun h => h h3), if_neg (show ¬ (lvS el (lh + T)).2.2 ≠ 0 from fun h => h h3)]
          by_cases h4 : (lvS eh ll).2.2 = 0
          · rw [bne_f h4, if_neg Bool.false_ne_true, if_neg (show ¬ (lvS eh ll).2.2 ≠ 0 from fun h => h h4)]
          · rw [bne_t h4, if_pos rfl, if_pos (show (lvS eh ll).2.2 ≠ 0 from h4)]
        · rw [if_pos (show (lvS el (lh + T)).2.2 ≠ 0 from h3), bne_t h3, if_pos rfl, if_pos (show (lvS el (lh + T)).2.2 ≠ 0 from h3)]
theorem clarityG_eq (rate : Int) {l : List Nat} (noise tail time : Int) (hl : l.length < 1000000000000) : y36 rate l noise tail time = some (clW rate l noise tail time) := by
  unfold y36 clW
  rw [open_e rate noise tail hl]
  by_cases h : (askE rate l noise tail).2 = 0
  · obtain ⟨hz, hr, hs, hl2, _, _, _⟩ := ask_zok h
    rw [bne_f h, if_neg Bool.false_ne_true, open_good hl h, bind_some', if_neg (show ¬ (askE rate l noise tail).2 ≠ 0 from fun hh => hh h)]
    rw [timeErrG_eq, bind_some', show (if 0 ≤ time ∧ time ≤ 1000000 then (0 : Int) else 2) = tmE time from rfl, first_eq (by simp), bind_some', firE2, if_neg (show ¬ (0 : Int) ≠ 0 by simp)]
    by_cases ht : tmE time = 0
    · have ht' := tm_zero ht
      rw [bne_f ht, if_neg Bool.false_ne_true, if_neg (show ¬ tmE time ≠ 0 from fun hh => hh ht)]
      dsimp only
      rw [dcG_eq hz hr ht', bind_some']
    · rw [bne_t ht, if_pos rfl, if_pos (show tmE time ≠ 0 from ht)]
  · rw [bne_t h, if_pos rfl, open_bad hl h, bind_some', timeErrG_eq, bind_some', first_eq (by simp), bind_some', firE2]
    dsimp only
    rw [if_pos (show (askE rate l noise tail).2 ≠ 0 from h), bne_t h, if_pos rfl, if_pos (show (askE rate l noise tail).2 ≠ 0 from h)]
end Go.Sh
end

section
namespace Go.Sh
open Go Go.Proofs Go.RowKit Go.Sx Go.Sx06 Ieee Go.Fl
section
variable {num den n1 d1 n2 d2 : Int}
theorem mul_cut {a b c : Int} (hc : 0 < c) (h : a * c ≤ b * c) : a ≤ b := Int.le_of_mul_le_mul_right h hc
theorem lv_scale {c : Int} (hc : 0 < c) (h1 : num * c ≤ 10000000000000) (h2 : den * c ≤ 10000000000000) : lvS (num * c) (den * c) = lvS num den := by
  have p1 : 1 ≤ num * c ↔ 1 ≤ num := by
    constructor
    · intro h
      refine Int.not_lt.1 fun hh => ?_
      have := Int.mul_le_mul_of_nonneg_right (show num ≤ 0 by omega) (show 0 ≤ c by omega)
      omega
    · intro h
      have := Int.mul_le_mul_of_nonneg_right h (show 0 ≤ c by omega)
      omega
  have p2 : 1 ≤ den * c ↔ 1 ≤ den := by
    constructor
    · intro h
      refine Int.not_lt.1 fun hh => ?_
      have := Int.mul_le_mul_of_nonneg_right (show den ≤ 0 by omega) (show 0 ≤ c by omega)
      omega
    · intro h
      have := Int.mul_le_mul_of_nonneg_right h (show 0 ≤ c by omega)
      omega
  have r1 : 1 ≤ num → num ≤ 10000000000000 := fun h => by
    have := Int.mul_le_mul_of_nonneg_left (show 1 ≤ c by omega) (show 0 ≤ num by omega)
    omega
  have r2 : 1 ≤ den → den ≤ 10000000000000 := fun h => by
    have := Int.mul_le_mul_of_nonneg_left (show 1 ≤ c by omega) (show 0 ≤ den by omega)
    omega
  have m1 : ∀ x y : Int, x * c < y * c ↔ x < y := fun x y => Int.mul_lt_mul_right hc
  have m2 : ∀ x y : Int, x * c ≤ y * c ↔ x ≤ y := fun x y => ⟨mul_cut hc, fun h => Int.mul_le_mul_of_nonneg_right h (by omega)⟩
  have e1 : unI (num * c) (den * c) = unI num den := by
    unfold unI
    congr 1
    funext i
    rw [← Int.mul_assoc, ← Int.mul_assoc]
    exact decide_eq_decide.2 (m2 _ _)
  have e2 : ovI (num * c) (den * c) = ovI num den := by
    unfold ovI
    congr 1
    funext i
    rw [← Int.mul_assoc, ← Int.mul_assoc]
    exact decide_eq_decide.2 (m2 _ _)
  have g1 : den * c * 1000000000 < num * c ↔ den * 1000000000 < num := by rw [show den * c * 1000000000 = den * 1000000000 * c by grind]; exact m1 _ _
  have g2 : num * c * 1000000000 < den * c ↔ num * 1000000000 < den := by rw [show num * c * 1000000000 = num * 1000000000 * c by grind]; exact m1 _ _
  unfold lvS
  rw [e1, e2]
  by_cases hn : 1 ≤ num
  · rw [if_neg (show ¬ ¬ (1 ≤ num * c ∧ num * c ≤ 10000000000000) by have := p1.2 hn; omega), if_neg (show ¬ ¬ (1 ≤ num ∧ num ≤ 10000000000000) by have := r1 hn; omega)]
    by_cases hd : 1 ≤ den
    · rw [if_neg (show ¬ ¬ (1 ≤ den * c ∧ den * c ≤ 10000000000000) by have := p2.2 hd; omega), if_neg (show ¬ ¬ (1 ≤ den ∧ den ≤ 10000000000000) by have := r2 hd; omega)]
      by_cases h1 : den * 1000000000 < num
      · rw [if_pos h1, if_pos (g1.2 h1)]
      · rw [if_neg h1, if_neg (fun h => h1 (g1.1 h))]
        by_cases h2 : num * 1000000000 < den
        · rw [if_pos h2, if_pos (g2.2 h2)]
        · rw [if_neg h2, if_neg (fun h => h2 (g2.1 h))]
    · rw [if_pos (show ¬ (1 ≤ den * c ∧ den * c ≤ 10000000000000) from fun h => hd (p2.1 h.1)), if_pos (show ¬ (1 ≤ den ∧ den ≤ 10000000000000) from fun h => hd h.1)]
  · rw [if_pos (show ¬ (1 ≤ num * c ∧ num * c ≤ 10000000000000) from fun h => hn (p1.1 h.1)), if_pos (show ¬ (1 ≤ num ∧ num ≤ 10000000000000) from fun h => hn h.1)]
end
end Go.Sh
end

section
namespace Go.Sh
open Go Go.Proofs Go.RowKit Go.Sx Go.Sx06 Ieee Go.Fl
def dfW (rate : Int) (l : List Nat) (time : Int) : Int × Int × Int :=
  if (resE rate l).2 ≠ 0 then (0, 0, (resE rate l).2) else if tmE time ≠ 0 then (0, 0, tmE time) else
  shS (sLo ((zsO 0 l).take (cutN rate time l.length))) (sLo (zsO 0 l))
theorem definitionG_eq (rate : Int) {l : List Nat} (time : Int) (hl : l.length < 1000000000000) : y25 rate l time = some (dfW rate l time) := by
  unfold y25 dfW
  rw [open_e rate 0 0 hl, ← askE_plain rate l]
  by_cases h : (askE rate l 0 0).2 = 0
  · obtain ⟨hz, hr, hs, hl2, _, _, _⟩ := ask_zok h
    have hzl := zsO_len 0 l
    rw [bne_f h, if_neg Bool.false_ne_true, open_good hl h, bind_some', if_neg (show ¬ (askE rate l 0 0).2 ≠ 0 from fun hh => hh h)]
    rw [timeErrG_eq, bind_some', show (if 0 ≤ time ∧ time ≤ 1000000 then (0 : Int) else 2) = tmE time from rfl, first_eq (by simp), bind_some', firE2, if_neg (show ¬ (0 : Int) ≠ 0 by simp)]
    by_cases ht : tmE time = 0
    · have ht' := tm_zero ht
      rw [bne_f ht, if_neg Bool.false_ne_true, if_neg (show ¬ tmE time ≠ 0 from fun hh => hh ht)]
      dsimp only
      have a := take_range hz.ok hz.len (cutN rate time l.length)
      have b := hz.all
      rw [earlyG_eq hz.ok hz.len hr ht', bind_some', ssO_len, if_pos (by omega), if_pos (by omega), ss_zero.1, hzl]
      dsimp only
      rw [shareG_eq a.1 (by omega) b.1 (by omega), bind_some']
    · rw [bne_t ht, if_pos rfl, if_pos (show tmE time ≠ 0 from ht)]
  · rw [bne_t h, if_pos rfl, open_bad hl h, bind_some', timeErrG_eq, bind_some', first_eq (by simp), bind_some', firE2]
    dsimp only
    rw [if_pos (show (askE rate l 0 0).2 ≠ 0 from h), bne_t h, if_pos rfl, if_pos (show (askE rate l 0 0).2 ≠ 0 from h)]
end Go.Sh
end

section
namespace Go.Sh
open Go Go.Proofs Go.RowKit Go.Sx Go.Sx06 Ieee Go.Fl
theorem half {X : Type} {body : X → Option (X ⊕ Int)} (mk : Int → Int → X) {yn1 yn0 u c : Int}
    (hb : ∀ q r, 0 ≤ q → q ≤ 4294967297 → 0 ≤ r → r < 4294967296 → body (mk q r) = if 4294967296 ≤ q ∨ 4294967296 * r + c < q * yn0 then (if 4294967296 ≤ r + yn1 then some (.inr (q - 1)) else some (.inl (mk (q - 1) (r + yn1)))) else some (.inr q))
    (hy1 : 2147483648 ≤ yn1 ∧ yn1 < 4294967296) (hy0 : 0 ≤ yn0 ∧ yn0 < 4294967296) (hu : 0 ≤ u ∧ u < yn1 * 4294967296 + yn0) (hc : 0 ≤ c ∧ c < 4294967296) :
    iter body big (mk (u / yn1) (u % yn1)) = some ((u * 4294967296 + c) / (yn1 * 4294967296 + yn0)) := by
  have hv : 0 < yn1 * 4294967296 + yn0 := by omega
  generalize hQ : (u * 4294967296 + c) / (yn1 * 4294967296 + yn0) = Q
  have q0 : 0 ≤ Q := by rw [← hQ]; exact Int.ediv_nonneg (by omega) (by omega)
  have qB : Q < 4294967296 := by rw [← hQ]; exact Int.ediv_lt_of_lt_mul hv (by omega)
  have le_of : ∀ q, q * (yn1 * 4294967296 + yn0) ≤ u * 4294967296 + c → q ≤ Q := fun q h => by rw [← hQ]; exact (Int.le_ediv_iff_mul_le hv).2 h
  have gt : ∀ q, u * 4294967296 + c < q * (yn1 * 4294967296 + yn0) → Q < q := fun q h => by rw [← hQ]; exact Int.ediv_lt_of_lt_mul hv h
  have exp : ∀ q r, q * yn1 + r = u → q * (yn1 * 4294967296 + yn0) = (u - r) * 4294967296 + q * yn0 := by
    intro q r h
    rw [Int.mul_add, ← Int.mul_assoc, show u - r = q * yn1 by omega]
  have main : ∀ (n : Nat) (q r : Int) (M : Nat), q * yn1 + r = u → Q ≤ q → q ≤ 4294967297 → 0 ≤ r → r < 4294967296 → 4294967296 ≤ r + (n : Int) * yn1 → n < M → iter body M (mk q r) = some Q := by
    intro n
    induction n with
    | zero =>
      intro q r M _ _ _ _ h1 h2 _
      rw [show ((0 : Nat) : Int) = 0 from rfl, Int.zero_mul] at h2
      omega
    | succ n ih =>
      intro q r M e hq hq2 hr hr2 hn hM
      obtain ⟨K, rfl⟩ : ∃ K, M = K + 1 := ⟨M - 1, by omega⟩
      unfold iter
      rw [hb q r (by omega) hq2 hr hr2]
      have ex := exp q r e
      by_cases hcnd : 4294967296 ≤ q ∨ 4294967296 * r + c < q * yn0
      · rw [if_pos hcnd]
        have hlt : Q < q := by
          rcases hcnd with h | h
          · omega
          · exact gt q (by rw [ex]; omega)
        have e2 : (q - 1) * yn1 + (r + yn1) = u := by rw [Int.sub_mul]; omega
        by_cases hbr : 4294967296 ≤ r + yn1
        · rw [if_pos hbr]
          have : q - 1 ≤ Q := by
            refine le_of _ ?_
            rw [exp _ _ e2]
            have := Int.mul_le_mul (show q - 1 ≤ 4294967296 by omega) (show yn0 ≤ 4294967296 by omega) hy0.1 (by omega)
            omega
          show some (q - 1) = some Q
          congr 1; omega
        · rw [if_neg hbr]
          refine ih (q - 1) (r + yn1) K e2 (by omega) (by omega) (by omega) (by omega) ?_ (by omega)
          rw [show ((n + 1 : Nat) : Int) = (n : Int) + 1 from rfl, Int.add_mul] at hn
          omega
      · rw [if_neg hcnd]
        have : q ≤ Q := le_of _ (by rw [ex]; omega)
        show some q = some Q
        congr 1; omega
  have em := Int.mul_ediv_add_emod u yn1
  have e0 := Int.emod_nonneg u (show yn1 ≠ 0 by omega)
  have e1 := Int.emod_lt_of_pos u (show 0 < yn1 by omega)
  refine main 2 _ _ big (by rw [Int.mul_comm]; exact em) ?_ ?_ e0 (by omega) (by omega) (by unfold big; omega)
  · refine (Int.le_ediv_iff_mul_le (by omega)).2 ?_
    have h1 : Q * (yn1 * 4294967296 + yn0) ≤ u * 4294967296 + c := by rw [← hQ]; exact Int.ediv_mul_le _ (by omega)
    rw [Int.mul_add, ← Int.mul_assoc] at h1
    have := Int.mul_nonneg q0 hy0.1
    omega
  · have : u / yn1 < 4294967298 := Int.ediv_lt_of_lt_mul (by omega) (by omega)
    omega
end Go.Sh
end

section
namespace Go.Sh
open Go Go.Proofs Go.RowKit Go.Sx Go.Sx06 Ieee Go.Fl
theorem tab8_ok : ∀ b : Fin 256, 1 ≤ b.val → 1 ≤ (Array.getD (ByteArray.data tab8) b.val (0 : UInt8)).toNat ∧ (Array.getD (ByteArray.data tab8) b.val (0 : UInt8)).toNat ≤ 8 ∧ (2 : Int) ^ ((Array.getD (ByteArray.data tab8) b.val (0 : UInt8)).toNat - 1) ≤ (b.val : Int) ∧ (b.val : Int) < (2 : Int) ^ (Array.getD (ByteArray.data tab8) b.val (0 : UInt8)).toNat := by
  decide +kernel
theorem u8m (n : Int) : IntKind.wrap IntKind.u8 n = n % 256 := by
  have h := u64m n
  rfl
theorem shr16 (x : Int) : Int.fdiv x ((2 : Int) ^ min (16 : Nat) (IntKind.bits IntKind.u64)) = x / 65536 := by
  rw [show (2 : Int) ^ min (16 : Nat) (IntKind.bits IntKind.u64) = 65536 from rfl]
  exact Int.fdiv_eq_ediv_of_nonneg _ (by decide)
theorem shr8 (x : Int) : Int.fdiv x ((2 : Int) ^ min (8 : Nat) (IntKind.bits IntKind.u64)) = x / 256 := by
  rw [show (2 : Int) ^ min (8 : Nat) (IntKind.bits IntKind.u64) = 256 from rfl]
  exact Int.fdiv_eq_ediv_of_nonneg _ (by decide)
def LenOf (x : Int) (r : Option Int) : Prop := ∃ n : Nat, r = some (n : Int) ∧ 1 ≤ n ∧ n ≤ 64 ∧ (2 : Int) ^ (n - 1) ≤ x ∧ x < (2 : Int) ^ n
theorem leaf8 {x b c : Int} (s : Nat) (hs : s ≤ 56) (hc : c = (s : Int)) (hb : 1 ≤ b ∧ b < 256) (hx : b * (2 : Int) ^ s ≤ x ∧ x < (b + 1) * (2 : Int) ^ s) :
    LenOf x (if (0 : Int) ≤ IntKind.wrap IntKind.u8 b ∧ IntKind.wrap IntKind.u8 b < (↑(ByteArray.size tab8) : Int) then
      some (IntKind.wrap IntKind.i64 (c + IntKind.wrap IntKind.i64 (↑(UInt8.toNat (Array.getD (ByteArray.data tab8) (Int.toNat (IntKind.wrap IntKind.u8 b)) (0 : UInt8))) : Int))) else none) := by
  have e : IntKind.wrap IntKind.u8 b = b := by rw [u8m]; omega
  have hsz : ByteArray.size tab8 = 256 := by decide +kernel
  rw [e, hsz, if_pos (by omega)]
  obtain ⟨b', rfl⟩ := Int.eq_ofNat_of_zero_le (show 0 ≤ b by omega)
  obtain ⟨h1, h2, h3, h4⟩ := tab8_ok ⟨b', by omega⟩ (by show 1 ≤ b'; omega)
  rw [Int.toNat_natCast]
  change 1 ≤ (Array.getD (ByteArray.data tab8) b' (0 : UInt8)).toNat at h1
  change (Array.getD (ByteArray.data tab8) b' (0 : UInt8)).toNat ≤ 8 at h2
  change (2 : Int) ^ ((Array.getD (ByteArray.data tab8) b' (0 : UInt8)).toNat - 1) ≤ (b' : Int) at h3
  change (b' : Int) < (2 : Int) ^ (Array.getD (ByteArray.data tab8) b' (0 : UInt8)).toNat at h4
  generalize (Array.getD (ByteArray.data tab8) b' (0 : UInt8)).toNat = t at *
  rw [hc, wr64 (x := (t : Int)) (by omega), wr64 (x := (s : Int) + (t : Int)) (by omega)]
  have hp : (0 : Int) < (2 : Int) ^ s := Int.pow_pos (by decide)
  refine ⟨s + t, rfl, by omega, by omega, ?_, ?_⟩
  · have := Int.mul_le_mul_of_nonneg_right h3 (Int.le_of_lt hp)
    rw [show s + t - 1 = (t - 1) + s by omega, Int.pow_add]
    omega
  · have := Int.mul_le_mul_of_nonneg_right (show (b' : Int) + 1 ≤ (2 : Int) ^ t by omega) (Int.le_of_lt hp)
    rw [Nat.add_comm s t, Int.pow_add]
    omega
theorem len64_ok {x : Int} (hx : 1 ≤ x ∧ x < 18446744073709551616) : LenOf x (y60 x) := by
  unfold y60
  simp only [shr32, shr16, shr8]
  have k56 : (2 : Int) ^ 56 = 72057594037927936 := by decide
  have k48 : (2 : Int) ^ 48 = 281474976710656 := by decide
  have k40 : (2 : Int) ^ 40 = 1099511627776 := by decide
  have k32 : (2 : Int) ^ 32 = 4294967296 := by decide
  have k24 : (2 : Int) ^ 24 = 16777216 := by decide
  have k16 : (2 : Int) ^ 16 = 65536 := by decide
  have k8 : (2 : Int) ^ 8 = 256 := by decide
  have k0 : (2 : Int) ^ 0 = 1 := by decide
  by_cases h1 : x ≥ 4294967296
  · rw [if_pos h1]
    by_cases h2 : x / 4294967296 ≥ 65536
    · rw [if_pos h2]
      by_cases h3 : x / 4294967296 / 65536 ≥ 256
      · rw [if_pos h3]; exact leaf8 56 (by omega) (by decide) (by omega) (by rw [k56]; omega)
      · rw [if_neg h3]; exact leaf8 48 (by omega) (by decide) (by omega) (by rw [k48]; omega)
    · rw [if_neg h2]
      by_cases h3 : x / 4294967296 ≥ 256
      · rw [if_pos h3]; exact leaf8 40 (by omega) (by decide) (by omega) (by rw [k40]; omega)
      · rw [if_neg h3]; exact leaf8 32 (by omega) (by decide) (by omega) (by rw [k32]; omega)
  · rw [if_neg h1]
    by_cases h2 : x ≥ 65536
    · rw [if_pos h2]
      by_cases h3 : x / 65536 ≥ 256
      · rw [if_pos h3]; exact leaf8 24 (by omega) (by decide) (by omega) (by rw [k24]; omega)
      · rw [if_neg h3]; exact leaf8 16 (by omega) (by decide) (by omega) (by rw [k16]; omega)
    · rw [if_neg h2]
      by_cases h3 : x ≥ 256
      · rw [if_pos h3]; exact leaf8 8 (by omega) (by decide) (by omega) (by rw [k8]; omega)
      · rw [if_neg h3]; exact leaf8 0 (by omega) (by decide) (by omega) (by rw [k0]; omega)
theorem lead64_ok {y : Int} (hy : 1 ≤ y ∧ y < 18446744073709551616) : ∃ s : Nat, y11 y = some (s : Int) ∧ s ≤ 63 ∧ 9223372036854775808 ≤ y * (2 : Int) ^ s ∧ y * (2 : Int) ^ s < 18446744073709551616 := by
  obtain ⟨n, hn, h1, h2, h3, h4⟩ := len64_ok hy
  have hp : (0 : Int) < (2 : Int) ^ (64 - n) := Int.pow_pos (by decide)
  refine ⟨64 - n, ?_, by omega, ?_, ?_⟩
  · unfold y11
    rw [hn, bind_some', wr64 (by omega)]
    congr 1; omega
  · have := Int.mul_le_mul_of_nonneg_right h3 (Int.le_of_lt hp)
    rw [← Int.pow_add, show n - 1 + (64 - n) = 63 by omega, show (2 : Int) ^ 63 = 9223372036854775808 by decide] at this
    exact this
  · have := Int.mul_lt_mul_of_pos_right h4 hp
    rw [← Int.pow_add, show n + (64 - n) = 64 by omega, show (2 : Int) ^ 64 = 18446744073709551616 by decide] at this
    exact this
end Go.Sh
end

section
namespace Go.Sh
open Go Go.Proofs Go.RowKit Go.Sx Go.Sx06 Ieee Go.Fl
theorem or_add {a C : Int} {s : Nat} (ha : 0 ≤ a) (hA : a * (2 : Int) ^ s < 18446744073709551616) (hC : 0 ≤ C ∧ C < (2 : Int) ^ s) (hs : s ≤ 63) :
    (↑(BitVec.toNat (BitVec.ofInt (IntKind.bits IntKind.u64) (a * (2 : Int) ^ s) ||| BitVec.ofInt (IntKind.bits IntKind.u64) C)) : Int) = a * (2 : Int) ^ s + C := by
  obtain ⟨a', rfl⟩ := Int.eq_ofNat_of_zero_le ha
  obtain ⟨C', rfl⟩ := Int.eq_ofNat_of_zero_le hC.1
  have hp : (2 : Int) ^ s = ((2 ^ s : Nat) : Int) := by simp
  have hC2 : C' < 2 ^ s := by have := hC.2; rw [hp] at this; exact Int.ofNat_lt.1 this
  have hs64 : 2 ^ s ≤ 2 ^ 63 := Nat.pow_le_pow_right (by omega) hs
  have hCs : C' < 18446744073709551616 := by
    have : (2 : Nat) ^ 63 = 9223372036854775808 := by decide
    omega
  rw [hp] at hA ⊢
  have hA2 : a' * 2 ^ s < 18446744073709551616 := by
    have : ((a' * 2 ^ s : Nat) : Int) < 18446744073709551616 := by rw [Int.natCast_mul]; exact hA
    omega
  rw [BitVec.toNat_or, ← Int.natCast_mul, BitVec.ofInt_natCast, BitVec.ofInt_natCast, BitVec.toNat_ofNat, BitVec.toNat_ofNat, b64, show 2 ^ 64 = 18446744073709551616 from by decide, Nat.mod_eq_of_lt hA2, Nat.mod_eq_of_lt hCs, Nat.mul_comm, ← Nat.two_pow_add_eq_or_of_lt hC2, Int.natCast_add]
structure Sh64 (hi lo y P R v u n : Int) : Prop where
  hv : v = y * P
  v1 : 9223372036854775808 ≤ v ∧ v < 18446744073709551616
  hu : u = hi * P + lo / R
  u1 : 0 ≤ u ∧ u < v
  hn : n = lo * P % 18446744073709551616
  tot : u * 18446744073709551616 + n = (hi * 18446744073709551616 + lo) * P
theorem sh64 {hi lo y : Int} (hh : 0 ≤ hi ∧ hi < y) (hy : y < 18446744073709551616) (hl : 0 ≤ lo ∧ lo < 18446744073709551616) {s : Nat} (hs : s ≤ 63) (h1 : 9223372036854775808 ≤ y * (2 : Int) ^ s) (h2 : y * (2 : Int) ^ s < 18446744073709551616) :
    Sh64 hi lo y ((2 : Int) ^ s) ((2 : Int) ^ (64 - s)) (y * (2 : Int) ^ s) (hi * (2 : Int) ^ s + lo / (2 : Int) ^ (64 - s)) (lo * (2 : Int) ^ s % 18446744073709551616) ∧ (0 ≤ lo / (2 : Int) ^ (64 - s) ∧ lo / (2 : Int) ^ (64 - s) < (2 : Int) ^ s) ∧ 0 ≤ hi * (2 : Int) ^ s ∧ hi * (2 : Int) ^ s < 18446744073709551616 := by
  have hP : (0 : Int) < (2 : Int) ^ s := Int.pow_pos (by decide)
  have hR : (0 : Int) < (2 : Int) ^ (64 - s) := Int.pow_pos (by decide)
  have hPR : (2 : Int) ^ s * (2 : Int) ^ (64 - s) = 18446744073709551616 := by rw [← Int.pow_add, show s + (64 - s) = 64 by omega]; decide
  generalize (2 : Int) ^ s = P at *
  generalize (2 : Int) ^ (64 - s) = R at *
  have c0 : 0 ≤ lo / R := Int.ediv_nonneg hl.1 (Int.le_of_lt hR)
  have c1 : lo / R < P := Int.ediv_lt_of_lt_mul hR (by rw [hPR]; exact hl.2)
  have c2 := Int.mul_ediv_add_emod lo R
  have c3 := Int.emod_nonneg lo (show R ≠ 0 by omega)
  have c4 := Int.emod_lt_of_pos lo hR
  have a0 := Int.mul_nonneg hh.1 (Int.le_of_lt hP)
  have a1 := Int.mul_le_mul_of_nonneg_right (show hi + 1 ≤ y by omega) (Int.le_of_lt hP)
  rw [Int.add_mul, Int.one_mul] at a1
  have n1 : lo * P = lo / R * 18446744073709551616 + lo % R * P := by
    conv => lhs; rw [← c2]
    rw [Int.add_mul, ← hPR]
    grind
  have n2 : 0 ≤ lo % R * P := Int.mul_nonneg c3 (Int.le_of_lt hP)
  have n3 : lo % R * P < 18446744073709551616 := by
    have := Int.mul_lt_mul_of_pos_right c4 hP
    rw [Int.mul_comm R P, hPR] at this
    exact this
  refine ⟨⟨rfl, ⟨h1, h2⟩, rfl, ⟨by omega, by omega⟩, rfl, ?_⟩, ⟨c0, c1⟩, a0, by omega⟩
  have e : lo * P % 18446744073709551616 = lo % R * P := by rw [n1]; omega
  rw [e, Int.add_mul (hi * 18446744073709551616), n1]
  grind
theorem wu {x : Int} (h : 0 ≤ x ∧ x < 18446744073709551616) : IntKind.wrap IntKind.u64 x = x := by rw [u64m]; omega
theorem shn {s : Nat} (hs : s ≤ 63) : IntKind.wrap IntKind.u64 (s : Int) = (s : Int) ∧ min s (IntKind.bits IntKind.u64) = s := ⟨wu (by omega), by rw [b64]; omega⟩
theorem shm {s : Nat} (hs : s ≤ 63) : Int.toNat (IntKind.wrap IntKind.u64 ((64 : Int) - (s : Int))) = 64 - s ∧ min (64 - s) (IntKind.bits IntKind.u64) = 64 - s := ⟨by rw [wu (by omega)]; omega, by rw [b64]; omega⟩
theorem qr_bound {w q c : Int} (hw : 0 < w) (hc : 0 ≤ c) (hq : q = c / w) : q * w ≤ c ∧ c < q * w + w := by
  have h1 := Int.mul_ediv_add_emod c w
  have h2 := Int.emod_nonneg c (show w ≠ 0 by omega)
  have h3 := Int.emod_lt_of_pos c hw
  rw [← hq, Int.mul_comm] at h1
  omega
section
variable {lo y v n : Int} {s : Nat}
theorem body0 (hs : s ≤ 63) (hv : y * (2 : Int) ^ s = v) (v1 : 9223372036854775808 ≤ v ∧ v < 18446744073709551616) (hn : lo * (2 : Int) ^ s % 18446744073709551616 = n) (q r : Int) (hq : 0 ≤ q) (hq2 : q ≤ 4294967297) (hr : 0 ≤ r) (hr2 : r < 4294967296) :
    y38 lo y (s : Int) (q, r) = if 4294967296 ≤ q ∨ 4294967296 * r + n / 4294967296 < q * (v % 4294967296) then (if 4294967296 ≤ r + v / 4294967296 then some (.inr (q - 1)) else some (.inl (q - 1, r + v / 4294967296))) else some (.inr q) := by
  have hn1 : 0 ≤ n ∧ n < 18446744073709551616 := by omega
  unfold y38
  simp only [(shn hs).1, Int.toNat_natCast, (shn hs).2, hv, wu (x := v) (by omega), shr32, mask32, u64m (lo * (2 : Int) ^ s), hn]
  have m0 : 0 ≤ v % 4294967296 ∧ v % 4294967296 ≤ 4294967295 := by omega
  have p1 := Int.mul_le_mul hq2 m0.2 m0.1 (by omega)
  have p0 := Int.mul_nonneg hq m0.1
  rw [wu (x := v % 4294967296) (by omega), wu (x := q * (v % 4294967296)) (by omega), wu (x := 4294967296 * r) (by omega), wu (x := 4294967296 * r + n / 4294967296) (by omega), wu (x := r + v / 4294967296) (by omega)]
  by_cases h1 : q ≥ 4294967296
  · rw [if_pos h1, if_pos (Or.inl h1), wu (x := q - 1) (by omega)]
  · rw [if_neg h1]
    by_cases h2 : q * (v % 4294967296) > 4294967296 * r + n / 4294967296
    · have hq1 : 1 ≤ q := by
        rcases Int.lt_or_eq_of_le hq with h | h
        · omega
        · rw [← h, Int.zero_mul] at h2; omega
      rw [if_pos h2, if_pos (Or.inr h2), wu (x := q - 1) (by omega)]
    · rw [if_neg h2, if_neg (by omega)]
theorem body1 (hs : s ≤ 63) (hv : y * (2 : Int) ^ s = v) (v1 : 9223372036854775808 ≤ v ∧ v < 18446744073709551616) (hn : lo * (2 : Int) ^ s % 18446744073709551616 = n) (q r : Int) (hq : 0 ≤ q) (hq2 : q ≤ 4294967297) (hr : 0 ≤ r) (hr2 : r < 4294967296) :
    y12 lo y (s : Int) (r, q) = if 4294967296 ≤ q ∨ 4294967296 * r + n % 4294967296 < q * (v % 4294967296) then (if 4294967296 ≤ r + v / 4294967296 then some (.inr (q - 1)) else some (.inl (r + v / 4294967296, q - 1))) else some (.inr q) := by
  have hn1 : 0 ≤ n ∧ n < 18446744073709551616 := by omega
  unfold y12
  simp only [(shn hs).1, Int.toNat_natCast, (shn hs).2, hv, wu (x := v) (by omega), shr32, mask32, u64m (lo * (2 : Int) ^ s), hn]
  have m0 : 0 ≤ v % 4294967296 ∧ v % 4294967296 ≤ 4294967295 := by omega
  have p1 := Int.mul_le_mul hq2 m0.2 m0.1 (by omega)
  have p0 := Int.mul_nonneg hq m0.1
  rw [wu (x := v % 4294967296) (by omega), wu (x := n % 4294967296) (by omega), wu (x := q * (v % 4294967296)) (by omega), wu (x := 4294967296 * r) (by omega), wu (x := 4294967296 * r + n % 4294967296) (by omega), wu (x := r + v / 4294967296) (by omega)]
  by_cases h1 : q ≥ 4294967296
  · rw [if_pos h1, if_pos (Or.inl h1), wu (x := q - 1) (by omega)]
  · rw [if_neg h1]
    by_cases h2 : q * (v % 4294967296) > 4294967296 * r + n % 4294967296
    · have hq1 : 1 ≤ q := by
        rcases Int.lt_or_eq_of_le hq with h | h
        · omega
        · rw [← h, Int.zero_mul] at h2; omega
      rw [if_pos h2, if_pos (Or.inr h2), wu (x := q - 1) (by omega)]
    · rw [if_neg h2, if_neg (by omega)]
end
end Go.Sh
end

section
namespace Go.Sh
open Go Go.Proofs Go.RowKit Go.Sx Go.Sx06 Ieee Go.Fl
theorem div64_eq {hi lo y : Int} (hh : 0 ≤ hi ∧ hi < y) (hy : y < 18446744073709551616) (hl : 0 ≤ lo ∧ lo < 18446744073709551616) :
    y46 hi lo y = some ((hi * 18446744073709551616 + lo) / y, (hi * 18446744073709551616 + lo) % y) := by
  unfold y46
  rw [if_neg (show ¬ (y == 0) = true by simp; omega), if_neg (by omega)]
  by_cases h0 : hi = 0
  · subst h0
    rw [if_pos (by rfl), if_pos (by omega), if_pos (by omega), Int.tdiv_eq_ediv_of_nonneg hl.1, Int.tmod_eq_emod_of_nonneg hl.1, Int.zero_mul, Int.zero_add]
    have a : 0 ≤ lo / y := Int.ediv_nonneg hl.1 (by omega)
    have b : lo / y ≤ lo := Int.ediv_le_self _ hl.1
    rw [wu (by omega)]
  · rw [if_neg (show ¬ (hi == 0) = true by simpa using h0)]
    obtain ⟨s, hs, s1, g1, g2⟩ := lead64_ok (y := y) (by omega)
    obtain ⟨sh, hC, hA0, hA⟩ := sh64 hh hy hl s1 g1 g2
    have hP : (0 : Int) < (2 : Int) ^ s := Int.pow_pos (by decide)
    have hor := or_add hh.1 hA hC s1
    have hR : (2 : Int) ^ (64 - s) ≥ 0 := Int.le_of_lt (Int.pow_pos (by decide))
    rw [hs, bind_some']
    generalize hv : y * (2 : Int) ^ s = v at *
    generalize hn : lo * (2 : Int) ^ s % 18446744073709551616 = n at *
    generalize hu : hi * (2 : Int) ^ s + lo / (2 : Int) ^ (64 - s) = u at *
    have hv1 := sh.v1
    have hu1 := sh.u1
    have hn1 : 0 ≤ n ∧ n < 18446744073709551616 := by omega
    have tot := sh.tot
    have y1 : 2147483648 ≤ v / 4294967296 ∧ v / 4294967296 < 4294967296 := by omega
    have y0 : 0 ≤ v % 4294967296 ∧ v % 4294967296 < 4294967296 := by omega
    have yv : v / 4294967296 * 4294967296 + v % 4294967296 = v := by omega
    have c1 : 0 ≤ n / 4294967296 ∧ n / 4294967296 < 4294967296 := by omega
    have c0 : 0 ≤ n % 4294967296 ∧ n % 4294967296 < 4294967296 := by omega
    have L0 := half (body := y38 lo y (s : Int)) (fun q r => (q, r)) (fun q r a b c d => body0 s1 hv hv1 hn q r a b c d) y1 y0 (by rw [yv]; exact hu1) c1
    rw [yv] at L0
    generalize hq1 : (u * 4294967296 + n / 4294967296) / v = q1 at *
    have Q1 := qr_bound (w := v) (c := u * 4294967296 + n / 4294967296) (by omega) (by omega) hq1.symm
    have q10 : 0 ≤ q1 := by rw [← hq1]; exact Int.ediv_nonneg (by omega) (by omega)
    have q1B : q1 < 4294967296 := by rw [← hq1]; exact Int.ediv_lt_of_lt_mul (by omega) (by omega)
    generalize hr1 : u * 4294967296 + n / 4294967296 - q1 * v = r1 at *
    have r1b : 0 ≤ r1 ∧ r1 < v := by omega
    have L1 := half (body := y12 lo y (s : Int)) (fun q r => (r, q)) (fun q r a b c d => body1 s1 hv hv1 hn q r a b c d) y1 y0 (by rw [yv]; exact r1b) c0
    rw [yv] at L1
    generalize hq0 : (r1 * 4294967296 + n % 4294967296) / v = q0 at *
    have Q0 := qr_bound (w := v) (c := r1 * 4294967296 + n % 4294967296) (by omega) (by omega) hq0.symm
    have q00 : 0 ≤ q0 := by rw [← hq0]; exact Int.ediv_nonneg (by omega) (by omega)
    have q0B : q0 < 4294967296 := by rw [← hq0]; exact Int.ediv_lt_of_lt_mul (by omega) (by omega)
    have dS : ∀ x : Int, Int.fdiv x ((2 : Int) ^ s) = x / (2 : Int) ^ s := fun x => Int.fdiv_eq_ediv_of_nonneg _ (Int.le_of_lt hP)
    have dR : ∀ x : Int, Int.fdiv x ((2 : Int) ^ (64 - s)) = x / (2 : Int) ^ (64 - s) := fun x => Int.fdiv_eq_ediv_of_nonneg _ hR
    have m1 := qr_bound (w := v / 4294967296) (c := u) (q := u / (v / 4294967296)) (by omega) hu1.1 rfl
    have m1' := Int.mul_ediv_add_emod u (v / 4294967296)
    have m1d : 0 ≤ u / (v / 4294967296) := Int.ediv_nonneg hu1.1 (by omega)
    have m1e : u / (v / 4294967296) ≤ u := Int.ediv_le_self _ hu1.1
    have m1f : 0 ≤ u / (v / 4294967296) * (v / 4294967296) := Int.mul_nonneg m1d (by omega)
    have k1 := qr_bound (w := v / 4294967296) (c := r1) (q := r1 / (v / 4294967296)) (by omega) r1b.1 rfl
    have k1' := Int.mul_ediv_add_emod r1 (v / 4294967296)
    have k1d : 0 ≤ r1 / (v / 4294967296) := Int.ediv_nonneg r1b.1 (by omega)
    have k1e : r1 / (v / 4294967296) ≤ r1 := Int.ediv_le_self _ r1b.1
    have k1f : 0 ≤ r1 / (v / 4294967296) * (v / 4294967296) := Int.mul_nonneg k1d (by omega)
    have e21 : IntKind.wrap .u64 (IntKind.wrap .u64 (IntKind.wrap .u64 (u * 4294967296) + n / 4294967296) - IntKind.wrap .u64 (q1 * v)) = r1 := by
      simp only [u64m]
      omega
    have er : IntKind.wrap .u64 (IntKind.wrap .u64 (IntKind.wrap .u64 (r1 * 4294967296) + n % 4294967296) - IntKind.wrap .u64 (q0 * v)) = r1 * 4294967296 + n % 4294967296 - q0 * v := by
      simp only [u64m]
      omega
    simp only [(shn s1).1, Int.toNat_natCast, (shn s1).2, (shm s1).1, (shm s1).2, dS, dR, hv, wu (x := v) (by omega), shr32, wu (x := hi * (2 : Int) ^ s) ⟨hA0, hA⟩, hor, hu]
    rw [wu (x := u) (by omega), Int.tdiv_eq_ediv_of_nonneg hu1.1, wu (x := u / (v / 4294967296)) (by omega), wu (x := u / (v / 4294967296) * (v / 4294967296)) (by omega), wu (x := u - u / (v / 4294967296) * (v / 4294967296)) (by omega)]
    rw [show u - u / (v / 4294967296) * (v / 4294967296) = u % (v / 4294967296) by rw [Int.mul_comm]; omega]
    have w64 : (0 : Int) ≤ IntKind.wrap IntKind.u64 ((64 : Int) - (s : Int)) := by rw [wu (by omega)]; omega
    rw [if_pos (by omega), if_pos (by omega), if_pos w64, if_pos (by omega), if_pos (by omega), L0, bind_some']
    unfold y54
    simp only [(shn s1).1, Int.toNat_natCast, (shn s1).2, (shm s1).1, (shm s1).2, dS, dR, hv, wu (x := v) (by omega), shr32, wu (x := hi * (2 : Int) ^ s) ⟨hA0, hA⟩, hor, hu, u64m (lo * (2 : Int) ^ s), hn, wu (x := u) (by omega), e21]
    rw [Int.tdiv_eq_ediv_of_nonneg r1b.1, wu (x := r1 / (v / 4294967296)) (by omega), wu (x := r1 / (v / 4294967296) * (v / 4294967296)) (by omega), wu (x := r1 - r1 / (v / 4294967296) * (v / 4294967296)) (by omega)]
    rw [show r1 - r1 / (v / 4294967296) * (v / 4294967296) = r1 % (v / 4294967296) by rw [Int.mul_comm]; omega]
    rw [if_pos (by omega), L1, bind_some']
    unfold y16
    simp only [(shn s1).1, Int.toNat_natCast, (shn s1).2, (shm s1).1, (shm s1).2, dS, dR, hv, wu (x := v) (by omega), shr32, mask32, wu (x := hi * (2 : Int) ^ s) ⟨hA0, hA⟩, hor, hu, u64m (lo * (2 : Int) ^ s), hn, wu (x := u) (by omega), e21, wu (x := n % 4294967296) (by omega), er]
    rw [if_pos (by omega), wu (x := q1 * 4294967296) (by omega), wu (x := q1 * 4294967296 + q0) (by omega)]
    have fin : (hi * 18446744073709551616 + lo) * (2 : Int) ^ s = (q1 * 4294967296 + q0) * v + (r1 * 4294967296 + n % 4294967296 - q0 * v) := by
      rw [← tot, Int.add_mul, Int.mul_right_comm]
      omega
    generalize hrem : r1 * 4294967296 + n % 4294967296 - q0 * v = rem at *
    have remb : 0 ≤ rem ∧ rem < v := by omega
    generalize (hi * 18446744073709551616 + lo) = x at *
    generalize (2 : Int) ^ s = P at *
    have hdiv : x / y = q1 * 4294967296 + q0 := by
      have h1 : (q1 * 4294967296 + q0) * v ≤ x * P := by omega
      have h2 : x * P < (q1 * 4294967296 + q0 + 1) * v := by rw [Int.add_mul _ 1, Int.one_mul]; omega
      rw [← hv, ← Int.mul_assoc] at h1 h2
      have h3 := Int.le_of_mul_le_mul_right h1 hP
      have h4 := Int.lt_of_mul_lt_mul_right h2 (Int.le_of_lt hP)
      have h5 : q1 * 4294967296 + q0 ≤ x / y := (Int.le_ediv_iff_mul_le (by omega)).2 h3
      have h6 : x / y < q1 * 4294967296 + q0 + 1 := Int.ediv_lt_of_lt_mul (by omega) h4
      omega
    have hmod : rem / P = x % y := by
      have h1 := Int.mul_ediv_add_emod x y
      rw [hdiv] at h1
      have : rem = x % y * P := by
        have h2 : x * P = (q1 * 4294967296 + q0) * v + x % y * P := by
          conv => lhs; rw [← h1]
          rw [Int.add_mul, ← hv, Int.mul_comm y, Int.mul_assoc]
        omega
      rw [this]
      exact Int.mul_ediv_cancel _ (by omega)
    rw [hdiv, hmod]
end Go.Sh
end

section
namespace Go.Sh
open Go Go.Proofs Go.RowKit Go.Sx Go.Sx06 Ieee Go.Fl
def mo (j : Nat) (zs : List (List Int)) : Nat → Int
  | 0 => 0
  | k + 1 => mo j zs k + (k : Int) * (zs.getD k []).getD j 0
theorem term_ok {zs : List (List Int)} (hz : ∀ r ∈ zs, okZ r) (hl : zs.length ≤ 1024) {k : Nat} (hk : k < zs.length) :
    0 ≤ (k : Int) * (zs.getD k []).getD 0 0 ∧ (k : Int) * (zs.getD k []).getD 0 0 ≤ (k : Int) * (zs.getD k []).getD 1 0 ∧ (k : Int) * (zs.getD k []).getD 1 0 ≤ 4398046511104 := by
  have ho := hz (zs.getD k []) (by simp [List.getD, hk])
  unfold okZ at ho
  have a := Int.mul_nonneg (show 0 ≤ (k : Int) by omega) ho.1
  have b := Int.mul_le_mul_of_nonneg_left ho.2.1 (show 0 ≤ (k : Int) by omega)
  have c := Int.mul_le_mul (show (k : Int) ≤ 1024 by omega) ho.2.2 (by omega) (by omega)
  omega
theorem mo_range {zs : List (List Int)} (hz : ∀ r ∈ zs, okZ r) (hl : zs.length ≤ 1024) : ∀ k : Nat, k ≤ zs.length → 0 ≤ mo 0 zs k ∧ mo 0 zs k ≤ mo 1 zs k ∧ mo 1 zs k ≤ (k : Int) * 4398046511104
  | 0, _ => by simp [mo]
  | k + 1, h => by
    have ih := mo_range hz hl k (by omega)
    have t := term_ok hz hl (k := k) (by omega)
    unfold mo
    rw [show ((k + 1 : Nat) : Int) = (k : Int) + 1 from rfl, Int.add_mul]
    omega
theorem momG {zs : List (List Int)} (hz : ∀ r ∈ zs, okZ r) (hl : zs.length ≤ 1024) : iter (y50 zs) big (0, 0, 0) = some (mo 0 zs zs.length, mo 1 zs zs.length) := by
  refine iter_upto (fun i => ((i : Int), mo 0 zs i, mo 1 zs i)) (k := zs.length) (fun i hi => ?_) ?_ (by omega)
  · have r := mo_range hz hl i (by omega)
    have t := term_ok hz hl (k := i) hi
    unfold y50 G_plus
    dsimp only
    rw [if_pos (by omega), if_pos (by omega), Int.toNat_natCast, if_pos hi, bind_some', wr64 (x := (i : Int) + 1) (by omega), wr64 (x := (i : Int) * (zs.getD i []).getD 0 0) (by omega), wr64 (x := (i : Int) * (zs.getD i []).getD 1 0) (by omega), wr64 (by omega), wr64 (by omega)]
    rfl
  · unfold y50
    dsimp only
    rw [if_neg (by omega)]
theorem timesG_eq {m e rate noise tail : Int} {l : List Nat} {zs ss : List (List Int)} (hm : 0 ≤ m ∧ m ≤ 4600000000000000) (he : 1 ≤ e ∧ e ≤ 6000000000000) (hr : 8000 ≤ rate ∧ rate ≤ 192000) :
    y17 m e rate l noise tail zs ss = some (m * 1000000 / (e * rate), decide (m * 1000000 % (e * rate) > 0)) := by
  have y0 : 8000 ≤ e * rate := by
    have := Int.mul_le_mul he.1 hr.1 (by omega) (by omega)
    omega
  have y1 : e * rate ≤ 1152000000000000000 := by
    have := Int.mul_le_mul he.2 hr.2 (by omega) (by omega)
    omega
  have h9 : y7 m (1000000 : Int) = some (m * 1000000 / 18446744073709551616, m * 1000000 % 18446744073709551616) := mul64_all (by omega) (by omega) (by omega) (by omega)
  have e9 := h9
  unfold y7 at e9
  have e9 := congrArg Prod.fst (Option.some.inj e9)
  dsimp only at e9
  simp only [shr32, mask32, u64m, mw] at e9
  rw [show (1000000 : Int) % 4294967296 = 1000000 from by decide] at e9
  unfold y17
  rw [wu (x := m) (by omega), h9, bind_some', wr64 (x := e * rate) (by omega), wu (x := e * rate) (by omega)]
  simp only [shr32, mask32, u64m, mw]
  first
    | rw [e9]
    | (rw [show (1000000 : Int) % 4294967296 % 18446744073709551616 = 1000000 from by decide, e9])
    | (rw [show (1000000 : Int) % 4294967296 = 1000000 from by decide, e9])
  have hq0 : 0 ≤ m * 1000000 / (e * rate) := Int.ediv_nonneg (by omega) (by omega)
  have hq1 : m * 1000000 / (e * rate) < 9000000000000000000 := by
    refine Int.ediv_lt_of_lt_mul (by omega) ?_
    omega
  have ex : m * 1000000 / 18446744073709551616 * 18446744073709551616 + m * 1000000 % 18446744073709551616 = m * 1000000 := by omega
  rw [div64_eq (by omega) (by omega) (by omega), bind_some', ex, wr64 (by omega)]
theorem ceil_rest {a b : Int} (hb : 0 < b) : -(-a / b) = a / b + if a % b > 0 then 1 else 0 := by
  have h1 := Int.mul_ediv_add_emod a b
  have h2 := Int.emod_nonneg a (show b ≠ 0 by omega)
  have h3 := Int.emod_lt_of_pos a hb
  by_cases h : a % b > 0
  · rw [if_pos h]
    have : -a / b = -(a / b) - 1 := by
      refine Int.ediv_eq_iff_of_pos hb |>.2 ?_
      grind
    omega
  · rw [if_neg h]
    have : -a / b = -(a / b) := by
      refine Int.ediv_eq_iff_of_pos hb |>.2 ?_
      grind
    omega
def cap (n rate : Int) : Int := ((n - 1) * 1000000 + rate - 1) / rate
def ceS (rate : Int) (zs : List (List Int)) : Int × Int × Int :=
  (mo 0 zs zs.length * 1000000 / (sHi zs * rate),
   (if cap zs.length rate < -(-(mo 1 zs zs.length * 1000000) / (sLo zs * rate)) then cap zs.length rate else -(-(mo 1 zs zs.length * 1000000) / (sLo zs * rate))), 0)
def ceW (rate : Int) (zs : List (List Int)) (T : Int) : Int × Int × Int := if T ≠ 0 then (0, 0, 23) else if sLo zs = 0 then (0, 0, 11) else ceS rate zs
theorem mo_all {zs : List (List Int)} (hz : ∀ r ∈ zs, okZ r) (hl : zs.length ≤ 1024) : 0 ≤ mo 0 zs zs.length ∧ mo 0 zs zs.length ≤ mo 1 zs zs.length ∧ mo 1 zs zs.length ≤ 4600000000000000 := by
  have := mo_range hz hl zs.length (Nat.le_refl _)
  omega
theorem centreG_d {rate noise T : Int} {l : List Nat} {zs : List (List Int)} (hz : ZOK zs T) (hr : 8000 ≤ rate ∧ rate ≤ 192000) (hp : 0 < zs.length) : y3 rate l noise T zs (ssO zs T) = some (ceW rate zs T) := by
  unfold y3 ceW
  by_cases hT : T = 0
  · subst hT
    have hl := hz.len
    have hm := mo_all hz.ok hz.len
    have ha := hz.all
    have z0 := ss_zero (zs := zs) (T := 0)
    rw [if_neg (by decide), ssO_len, if_pos (by omega), if_pos (by omega), if_neg (show ¬ (0 : Int) ≠ 0 by simp), z0.1]
    by_cases h0 : sLo zs = 0
    · rw [if_pos (show (sLo zs == 0) = true by simpa using h0), if_pos h0]
    · rw [if_neg (show ¬ (sLo zs == 0) = true by simpa using h0), if_neg h0, momG hz.ok hz.len, bind_some']
      unfold y72 ceS
      dsimp only
      rw [ssO_len, if_pos (by omega), if_pos (by omega), z0.1, z0.2, Int.add_zero, timesG_eq ⟨hm.1, by omega⟩ (by omega) hr, bind_some', timesG_eq ⟨by omega, hm.2.2⟩ (by omega) hr, bind_some']
      dsimp only
      have yp : 0 < sLo zs * rate := Int.mul_pos (by omega) (by omega)
      have hce := ceil_rest (a := mo 1 zs zs.length * 1000000) yp
      have q0 : 0 ≤ mo 1 zs zs.length * 1000000 / (sLo zs * rate) := Int.ediv_nonneg (by omega) (by omega)
      have q1 : mo 1 zs zs.length * 1000000 / (sLo zs * rate) ≤ mo 1 zs zs.length * 1000000 / 8000 := by
        have y8 : 8000 ≤ sLo zs * rate := by
          have := Int.mul_le_mul (show 1 ≤ sLo zs by omega) hr.1 (by omega) (by omega)
          omega
        have a := Int.ediv_mul_le (mo 1 zs zs.length * 1000000) (show sLo zs * rate ≠ 0 by omega)
        refine (Int.le_ediv_iff_mul_le (by omega)).2 ?_
        have b := Int.mul_le_mul_of_nonneg_left y8 q0
        omega
      have hcap : G_ceil (IntKind.wrap IntKind.i64 (IntKind.wrap IntKind.i64 ((zs.length : Int) - 1) * 1000000)) rate = some (cap zs.length rate) := by
        rw [wr64 (x := (zs.length : Int) - 1) (by omega), wr64 (by omega), ceilG_eq (by omega) (by omega) (by omega)]
        rfl
      rw [hcap]
      by_cases hmore : mo 1 zs zs.length * 1000000 % (sLo zs * rate) > 0
      · rw [if_pos hmore] at hce
        rw [decide_eq_true hmore, if_pos rfl, bind_some', wr64 (by omega), hce, if_pos (by omega), if_pos (by omega)]
      · rw [if_neg hmore, Int.add_zero] at hce
        rw [decide_eq_false hmore, if_neg Bool.false_ne_true, bind_some', hce, if_pos (by omega), if_pos (by omega)]
  · rw [if_pos (show (T != 0) = true by simpa using hT), if_pos (show T ≠ 0 from hT)]
theorem centreG_eq (rate : Int) {l : List Nat} (noise tail : Int) (hl : l.length < 1000000000000) : y55 rate l noise tail = some (if (askE rate l noise tail).2 ≠ 0 then (0, 0, (askE rate l noise tail).2) else ceW rate (zsO noise l) tail) := by
  unfold y55
  rw [open_e rate noise tail hl]
  by_cases h : (askE rate l noise tail).2 = 0
  · obtain ⟨hz, hr, hs, hl2, _, _, hp⟩ := ask_zok h
    rw [bne_f h, if_neg Bool.false_ne_true, open_good hl h, bind_some', if_neg (show ¬ (askE rate l noise tail).2 ≠ 0 from fun hh => hh h)]
    dsimp only
    rw [centreG_d hz hr (by rw [zsO_len]; exact hp), bind_some']
  · rw [bne_t h, if_pos rfl, open_bad hl h, bind_some', if_pos (show (askE rate l noise tail).2 ≠ 0 from h)]
    dsimp only
    rw [bne_t h, if_pos rfl]
end Go.Sh
end

section
namespace Go.Sh
open Go Go.Proofs Go.RowKit Go.Sx Go.Sx06 Ieee Go.Fl
section
variable {zs1 zs2 : List (List Int)} {T1 T2 rate time : Int}
end
inductive In2 : List (List Int) → List (List Int) → Prop
  | nil : In2 [] []
  | cons {r1 r2 : List Int} {l1 l2 : List (List Int)} : r2.getD 0 0 ≤ r1.getD 0 0 → r1.getD 1 0 ≤ r2.getD 1 0 → In2 l1 l2 → In2 (r1 :: l1) (r2 :: l2)
theorem In2.len {a b : List (List Int)} (h : In2 a b) : a.length = b.length := by
  induction h with
  | nil => rfl
  | cons _ _ _ ih => simp [ih]
theorem In2.sum {a b : List (List Int)} (h : In2 a b) : sLo b ≤ sLo a ∧ sHi a ≤ sHi b := by
  induction h with
  | nil => exact ⟨Int.le_refl _, Int.le_refl _⟩
  | cons h1 h2 _ ih => unfold sLo sHi; omega
theorem In2.drop {a b : List (List Int)} (h : In2 a b) : ∀ i, In2 (a.drop i) (b.drop i) := by
  induction h with
  | nil => intro i; simp; exact .nil
  | cons h1 h2 h3 ih =>
    intro i
    cases i with
    | zero => exact .cons h1 h2 h3
    | succ i => exact ih i
theorem In2.take {a b : List (List Int)} (h : In2 a b) : ∀ i, In2 (a.take i) (b.take i) := by
  induction h with
  | nil => intro i; simp; exact .nil
  | cons h1 h2 h3 ih =>
    intro i
    cases i with
    | zero => exact .nil
    | succ i => exact .cons h1 h2 (ih i)
theorem In2.get {a b : List (List Int)} (h : In2 a b) : ∀ i, i < a.length → (b.getD i []).getD 0 0 ≤ (a.getD i []).getD 0 0 ∧ (a.getD i []).getD 1 0 ≤ (b.getD i []).getD 1 0 := by
  induction h with
  | nil => intro i hi; simp at hi
  | cons h1 h2 h3 ih =>
    intro i hi
    cases i with
    | zero => exact ⟨h1, h2⟩
    | succ i => exact ih i (by simpa using hi)
end Go.Sh
end

section
namespace Go.Sh
open Go Go.Proofs Go.RowKit Go.Sx Go.Sx06 Ieee Go.Fl
def fstI (zs : List (List Int)) (f : Int) : Option Nat := (ssO zs 0).findIdx? fun r => fB (r.getD 0 0) (sLo zs) f
def fbW (rate : Int) (l : List Nat) (f : Int) : Int × Int :=
  if (resE rate l).2 ≠ 0 then (0, (resE rate l).2) else if ¬ (0 ≤ f ∧ f ≤ 12) then (0, 2) else if sLo (zsO 0 l) = 0 then (0, 11) else (ixZ (fstI (zsO 0 l) f), 0)
theorem firstBelowG_eq (rate : Int) {l : List Nat} (f : Int) (hl : l.length < 1000000000000) : y37 rate l f = some (fbW rate l f) := by
  unfold y37 fbW
  rw [open_e rate 0 0 hl]
  have hz0 := askE_plain rate l
  rw [← hz0]
  by_cases h : (askE rate l 0 0).2 = 0
  · obtain ⟨hz, hr, hs, hl2, hn, ht, _⟩ := ask_zok h
    rw [bne_f h, if_neg Bool.false_ne_true, open_good hl h, bind_some', if_neg (show ¬ (askE rate l 0 0).2 ≠ 0 from fun hh => hh h)]
    rw [withinG_eq, bind_some']
    by_cases hf : 0 ≤ f ∧ f ≤ 12
    · rw [nd_t hf, if_neg Bool.false_ne_true, if_neg (show ¬ ¬ (0 ≤ f ∧ f ≤ 12) from fun hh => hh hf)]
      dsimp only
      rw [ssO_len, if_pos (by omega), if_pos (by omega), ss_zero.1]
      by_cases h0 : sLo (zsO 0 l) = 0
      · rw [h0]; rfl
      · rw [beq_f h0, if_neg Bool.false_ne_true, if_neg h0, index3_eq hz hf, bind_some']
        rfl
    · rw [nd_f hf, if_pos rfl, if_pos hf]
  · rw [bne_t h, if_pos rfl, open_bad hl h, bind_some', if_pos (show (askE rate l 0 0).2 ≠ 0 from h)]
    dsimp only
    rw [bne_t h, if_pos rfl]
end Go.Sh
end

section
namespace Go.Sh
open Go Go.Proofs Go.RowKit Go.Sx Go.Sx06 Ieee Go.Fl
inductive Sc2 (c : Int) : List (List Int) → List (List Int) → Prop
  | nil : Sc2 c [] []
  | cons {r1 r2 : List Int} {l1 l2 : List (List Int)} : r2.getD 0 0 = r1.getD 0 0 * c → r2.getD 1 0 = r1.getD 1 0 * c → Sc2 c l1 l2 → Sc2 c (r1 :: l1) (r2 :: l2)
section
variable {c : Int} {a b : List (List Int)}
theorem Sc2.len (h : Sc2 c a b) : b.length = a.length := by
  induction h with
  | nil => rfl
  | cons _ _ _ ih => simp [ih]
theorem Sc2.sum (h : Sc2 c a b) : sLo b = sLo a * c ∧ sHi b = sHi a * c := by
  induction h with
  | nil => simp [sLo, sHi]
  | cons h1 h2 _ ih => unfold sLo sHi; rw [Int.add_mul, Int.add_mul]; omega
theorem Sc2.drop (h : Sc2 c a b) : ∀ i, Sc2 c (a.drop i) (b.drop i) := by
  induction h with
  | nil => intro i; simp; exact .nil
  | cons h1 h2 h3 ih =>
    intro i
    cases i with
    | zero => exact .cons h1 h2 h3
    | succ i => exact ih i
theorem Sc2.take (h : Sc2 c a b) : ∀ i, Sc2 c (a.take i) (b.take i) := by
  induction h with
  | nil => intro i; simp; exact .nil
  | cons h1 h2 h3 ih =>
    intro i
    cases i with
    | zero => exact .nil
    | succ i => exact .cons h1 h2 (ih i)
theorem Sc2.get (h : Sc2 c a b) : ∀ i, i < a.length → (b.getD i []).getD 0 0 = (a.getD i []).getD 0 0 * c ∧ (b.getD i []).getD 1 0 = (a.getD i []).getD 1 0 * c := by
  induction h with
  | nil => intro i hi; simp at hi
  | cons h1 h2 h3 ih =>
    intro i hi
    cases i with
    | zero => exact ⟨h1, h2⟩
    | succ i => exact ih i (by simpa using hi)
theorem fB_scale (hc : 0 < c) (s w f : Int) : fB (s * c) (w * c) f = fB s w f := by
  unfold fB
  have p : 0 < c * c := Int.mul_pos hc hc
  rw [show s * c * (s * c) * p10 f = s * s * p10 f * (c * c) by grind, show w * c * (w * c) = w * w * (c * c) by grind]
  exact decide_eq_decide.2 ⟨mul_cut p, fun h => Int.mul_le_mul_of_nonneg_right h (by omega)⟩
theorem idx_map {α β : Type} (g : α → β) (P : β → Bool) : ∀ l : List α, (l.map g).findIdx? P = l.findIdx? fun x => P (g x)
  | [] => rfl
  | x :: l => by
    rw [List.map_cons, List.findIdx?_cons, List.findIdx?_cons, idx_map g P l]
theorem sf_scale (h : Sc2 c a b) (hc : 0 < c) (f : Int) : sfI b 0 f = sfI a 0 f ∧ phI b 0 f = phI a 0 f ∧ fstI b f = fstI a f := by
  have hs := h.sum
  unfold sfI phI fstI ssO
  rw [idx_map, idx_map, idx_map, idx_map, idx_map, idx_map, h.len]
  have d : ∀ i, sLo (b.drop i) = sLo (a.drop i) * c ∧ sHi (b.drop i) = sHi (a.drop i) * c := fun i => (h.drop i).sum
  refine ⟨?_, ?_, ?_⟩ <;> congr 1 <;> funext i
  · show fB (sHi (b.drop i) + 0) (sLo b) f = fB (sHi (a.drop i) + 0) (sLo a) f
    rw [Int.add_zero, Int.add_zero, (d i).2, hs.1, fB_scale hc]
  · show fB (sLo (b.drop i)) (sHi b + 0) f = fB (sLo (a.drop i)) (sHi a + 0) f
    rw [Int.add_zero, Int.add_zero, (d i).1, hs.2, fB_scale hc]
  · show fB (sLo (b.drop i)) (sLo b) f = fB (sLo (a.drop i)) (sLo a) f
    rw [(d i).1, hs.1, fB_scale hc]
theorem pas_scale (h : Sc2 c a b) (hc : 0 < c) (f : Int) : pasS b 0 f = pasS a 0 f := by
  unfold pasS
  rw [(sf_scale h hc f).1, (sf_scale h hc f).2.1, h.len]
theorem zero_scale (hc : 0 < c) {x : Int} : x * c = 0 ↔ x = 0 := by
  constructor
  · intro h
    rcases Int.mul_eq_zero.1 h with h | h <;> omega
  · intro h; rw [h, Int.zero_mul]
theorem ite_iff {α : Type} {p q : Prop} [Decidable p] [Decidable q] (h : p ↔ q) {x y x' y' : α} (hx : x = x') (hy : y = y') : (if p then x else y) = if q then x' else y' := by
  by_cases hp : p
  · rw [if_pos hp, if_pos (h.1 hp), hx]
  · rw [if_neg hp, if_neg (fun hq => hp (h.2 hq)), hy]
theorem dec_scale (h : Sc2 c a b) (hc : 0 < c) (rate kind : Int) : decS rate b 0 kind = decS rate a 0 kind := by
  unfold decS
  simp only [pas_scale h hc]
  exact ite_iff (by rw [h.sum.1]; exact zero_scale hc) rfl rfl
theorem shS_scale (hc : 0 < c) (n d : Int) : shS (n * c) (d * c) = shS n d := by
  unfold shS
  rw [Int.gcd_mul_right]
  have e : ((Int.gcd n d * c.natAbs : Nat) : Int) = (Int.gcd n d : Int) * c := by
    rw [Int.natCast_mul]
    congr 1
    omega
  rw [e, Int.mul_ediv_mul_of_pos_left _ _ hc, Int.mul_ediv_mul_of_pos_left _ _ hc]
  exact ite_iff (zero_scale hc) rfl rfl
theorem mo_scale (h : Sc2 c a b) : ∀ k, k ≤ a.length → mo 0 b k = mo 0 a k * c ∧ mo 1 b k = mo 1 a k * c
  | 0, _ => by simp [mo]
  | k + 1, hk => by
    have ih := mo_scale h k (by omega)
    have g := h.get k (by omega)
    unfold mo
    rw [g.1, g.2, ih.1, ih.2]
    constructor <;> grind
theorem ce_scale (h : Sc2 c a b) (hc : 0 < c) (rate : Int) : ceW rate b 0 = ceW rate a 0 := by
  unfold ceW
  refine ite_iff Iff.rfl rfl (ite_iff (by rw [h.sum.1]; exact zero_scale hc) rfl ?_)
  unfold ceS
  have m := mo_scale h a.length (Nat.le_refl _)
  rw [h.len, m.1, m.2, h.sum.1, h.sum.2]
  have t1 : mo 0 a a.length * c * 1000000 = mo 0 a a.length * 1000000 * c := by grind
  have t2 : sHi a * c * rate = sHi a * rate * c := by grind
  have t3 : -(mo 1 a a.length * c * 1000000) = -(mo 1 a a.length * 1000000) * c := by grind
  have t4 : sLo a * c * rate = sLo a * rate * c := by grind
  rw [t1, t2, t3, t4, Int.mul_ediv_mul_of_pos_left _ _ hc, Int.mul_ediv_mul_of_pos_left _ _ hc]
theorem cl_scale (h : Sc2 c a b) (hc : 0 < c) (rate time : Int) (hb : ZOK b 0) : clS rate b 0 time = clS rate a 0 time := by
  unfold clS
  rw [h.len]
  have hb1 := take_range hb.ok hb.len (cutN rate time a.length)
  have hb2 := drop_range hb.ok hb.len (cutN rate time a.length)
  have s1 := (h.take (cutN rate time a.length)).sum
  have s2 := (h.drop (cutN rate time a.length)).sum
  rw [s1.1, s1.2] at hb1
  rw [s2.1, s2.2] at hb2
  rw [s1.1, s1.2, s2.1, s2.2, Int.add_zero, Int.add_zero, lv_scale hc (by omega) (by omega), lv_scale hc (by omega) (by omega)]
  exact ite_iff Iff.rfl rfl (ite_iff (zero_scale hc) rfl (ite_iff (zero_scale hc) rfl rfl))
end
end Go.Sh
end

section
namespace Go.Sh
open Go Go.Proofs Go.RowKit Go.Sx Go.Sx06 Ieee Go.Fl
def Wh (b : Nat) (n : Int) : Prop := ∃ s m e, single.read b = .number s m e ∧ (-149 ≤ e ∧ e ≤ 104) ∧ mg KK m e = n.natAbs * PP ∧ sg s n.natAbs = n
theorem wh_cut {a b : Nat} : a * PP ≤ b * PP ↔ a ≤ b := ⟨fun h => Nat.le_of_mul_le_mul_right h PP_pos, fun h => Nat.mul_le_mul_right _ h⟩
theorem wh_se {b : Nat} {n : Int} (h : Wh b n) (hn : n.natAbs < 16777216) : se b = (if n.natAbs ≤ 32767 then 0 else 2) ∧ fi b = n := by
  obtain ⟨s, m, e, hr, he, hm, hs⟩ := h
  have hd : FloatKind.decode .f32 b = .number s m e := hr
  have hk : mg KK m e / PP = n.natAbs := by rw [hm]; exact Nat.mul_div_cancel _ PP_pos
  constructor
  · unfold se seD
    rw [hd]
    dsimp only
    rw [hk, hm, if_neg (show ¬ 16777216 * PP ≤ n.natAbs * PP by rw [wh_cut]; omega), if_neg (by simp)]
  · unfold fi f2i
    rw [hd, toIntP (by unfold KK; omega), hk, hs]
    rfl
theorem se_wh {b : Nat} (h : se b = 0) : Wh b (fi b) := by
  unfold se at h
  rcases Fl.read32 b with ⟨s, m, e, hd, hm, he1, he2⟩ | ⟨s, hd⟩ | ⟨s, t, hd⟩
  · have hdec : FloatKind.decode .f32 b = .number s m e := hd
    have hf : fi b = sg s (mg KK m e / PP) := by
      unfold fi f2i
      rw [hdec, toIntP (by unfold KK; omega)]
      rfl
    rw [hdec] at h
    unfold seD at h
    dsimp only at h
    have h2 : mg KK m e / PP * PP = mg KK m e := by
      split at h
      · omega
      · split at h
        · omega
        · omega
    have ha : (fi b).natAbs = mg KK m e / PP := by
      rw [hf]
      generalize mg KK m e / PP = q
      unfold sg
      split <;> omega
    exact ⟨s, m, e, hd, ⟨he1, he2⟩, by rw [ha, h2], by rw [ha, hf]⟩
  · have hdec : FloatKind.decode .f32 b = .infinity s := hd
    rw [hdec] at h; exact absurd (show (27 : Int) = 0 from h) (by decide)
  · have hdec : FloatKind.decode .f32 b = .nan s t := hd
    rw [hdec] at h; exact absurd (show (27 : Int) = 0 from h) (by decide)
theorem lg_mul {n : Nat} (hn : n ≠ 0) (k : Nat) : (n * 2 ^ k).log2 = n.log2 + k := by
  have hp := Nat.two_pow_pos k
  refine (Nat.log2_eq_iff (Nat.mul_ne_zero hn (by omega))).2 ⟨?_, ?_⟩
  · rw [Nat.pow_add]; exact Nat.mul_le_mul_right _ (Nat.log2_self_le hn)
  · rw [show n.log2 + k + 1 = n.log2 + 1 + k by omega, Nat.pow_add]
    exact Nat.mul_lt_mul_of_pos_right Nat.lt_log2_self hp
theorem cut_exact {s : Bool} {k : Nat} (hk : k ≠ 0) (D : Nat) : Toward.cut .even s (k * 2 ^ D) D = k := by
  have hp := Nat.two_pow_pos D
  have hg : (1 <<< min D ((k * 2 ^ D).log2 + 2) : Nat) = 2 ^ D := by
    rw [lg_mul hk, Nat.min_eq_left (by omega), Nat.shiftLeft_eq, Nat.one_mul]
  unfold Toward.cut
  simp only [hg, Nat.mul_div_cancel _ hp, Nat.mul_mod_left]
  have h1 : decide (2 ^ D < 2 * 0) = false := by simp
  have h2 : ((2 ^ D : Nat) == 2 * 0) = false := by simp
  rw [h1, h2]
  rfl
theorem nearest_at {s : Bool} {m : Nat} {place : Int} {q k : Nat} (hm : m ≠ 0) (hq : place + m.log2 = q) (hq2 : q ≤ 23) (hk : Toward.cut .even s (m <<< (place - ((q : Int) - 23)).toNat) (((q : Int) - 23) - place).toNat = k) :
    single.nearest s m place = single.word s (min ((q + 126) * 8388608 + k) 2139095040) := by
  have e2 : single.binade = 8388608 := rfl
  have e3 : single.infRung = 2139095040 := rfl
  have e4 : single.leastPlace = -149 := rfl
  have e5 : single.fractionBits = 23 := rfl
  unfold Format.nearest
  rw [if_neg hm]
  simp only [e2, e3, e4, e5]
  have hl : max (place + (m.log2 : Int) - (23 : Nat)) (-149) = (q : Int) - 23 := by omega
  rw [hl, hk, show ((q : Int) - 23 - -149).toNat = q + 126 by omega]
theorem write_exact {s : Bool} {m N : Nat} {e : Int} (hN : N < 16777216) (h : mg KK m e = N * PP) (he : -1000 ≤ e) : single.write (.number s m e) = single.write (.number s N 0) := by
  show single.nearest s m e = single.nearest s N 0
  by_cases h0 : N = 0
  · subst h0
    have : m = 0 := by
      rw [Nat.zero_mul] at h
      unfold mg at h
      rcases Nat.mul_eq_zero.1 h with h | h
      · exact h
      · have := Nat.two_pow_pos (e + KK).toNat
        omega
    subst this
    unfold Format.nearest
    rw [if_pos rfl, if_pos rfl]
  · have hq : N.log2 ≤ 23 := by
      have := (Nat.log2_lt h0 (k := 24)).2 (by omega)
      omega
    have right : single.nearest s N 0 = single.word s (min ((N.log2 + 126) * 8388608 + N * 2 ^ (23 - N.log2)) 2139095040) := by
      refine nearest_at h0 (by omega) hq ?_
      rw [show ((0 : Int) - ((N.log2 : Int) - 23)).toNat = 23 - N.log2 by omega, show (((N.log2 : Int) - 23) - 0).toNat = 0 by omega, cut_zero _ _ _ rfl, Nat.shiftLeft_eq]
    rw [right]
    by_cases hp : 0 ≤ e
    · obtain ⟨p, rfl⟩ : ∃ p : Nat, e = (p : Int) := ⟨e.toNat, by omega⟩
      rw [mg_up] at h
      have h : m * 2 ^ p = N := Nat.eq_of_mul_eq_mul_right PP_pos h
      have hm : m ≠ 0 := by intro hm; rw [hm, Nat.zero_mul] at h; exact h0 h.symm
      have hl : N.log2 = m.log2 + p := by rw [← h, lg_mul hm]
      refine nearest_at hm (by omega) hq ?_
      rw [show ((p : Int) - ((N.log2 : Int) - 23)).toNat = p + (23 - N.log2) by omega, show (((N.log2 : Int) - 23) - (p : Int)).toNat = 0 by omega, cut_zero _ _ _ rfl, Nat.shiftLeft_eq, Nat.pow_add, ← Nat.mul_assoc, h]
    · obtain ⟨d, rfl⟩ : ∃ d : Nat, e = -(d : Int) := ⟨(-e).toNat, by omega⟩
      have hd : d ≤ 1000 := by omega
      have h : m = N * 2 ^ d := by
        have hk : (-(d : Int) + (KK : Int)).toNat = KK - d := by unfold KK; omega
        unfold mg at h
        rw [hk, PP_eq, show KK = d + (KK - d) by unfold KK; omega, Nat.pow_add, show d + (KK - d) - d = KK - d by omega, ← Nat.mul_assoc] at h
        exact Nat.eq_of_mul_eq_mul_right (Nat.two_pow_pos _) h
      have hm : m ≠ 0 := by rw [h]; exact Nat.mul_ne_zero h0 (by have := Nat.two_pow_pos d; omega)
      have hl : m.log2 = N.log2 + d := by rw [h, lg_mul h0]
      refine nearest_at hm (by omega) hq ?_
      by_cases hdd : d ≤ 23 - N.log2
      · rw [show (-(d : Int) - ((N.log2 : Int) - 23)).toNat = 23 - N.log2 - d by omega, show (((N.log2 : Int) - 23) - -(d : Int)).toNat = 0 by omega, cut_zero _ _ _ rfl, Nat.shiftLeft_eq, h, Nat.mul_assoc, ← Nat.pow_add]
        congr 2
        omega
      · rw [show (-(d : Int) - ((N.log2 : Int) - 23)).toNat = 0 by omega, show (((N.log2 : Int) - 23) - -(d : Int)).toNat = d - (23 - N.log2) by omega, Nat.shiftLeft_zero, h,
          show N * 2 ^ d = N * 2 ^ (23 - N.log2) * 2 ^ (d - (23 - N.log2)) by rw [Nat.mul_assoc, ← Nat.pow_add]; congr 2; omega]
        exact cut_exact (Nat.mul_ne_zero h0 (by have := Nat.two_pow_pos (23 - N.log2); omega)) _
theorem wh_write {s : Bool} {N : Nat} (hN : N < 16777216) : Wh (single.write (.number s N 0)) (sg s N) := by
  have ha : (sg s N).natAbs = N := by unfold sg; split <;> omega
  by_cases h0 : N = 0
  · subst h0
    refine ⟨s, 0, -149, by cases s <;> simp [Format.write, Format.nearest] <;> rfl, by omega, by rw [ha]; simp [mg], by rw [ha]⟩
  · obtain ⟨h1, h2⟩ := round32 (s := s) h0 hN
    refine ⟨s, _, _, h1, by omega, ?_, by rw [ha]⟩
    rw [ha]
    unfold mg
    have e1 : ((N.log2 : Int) - 23 + KK).toNat = KK - (23 - N.log2) := by unfold KK; omega
    rw [e1, Nat.mul_assoc, ← Nat.pow_add, PP_eq]
    congr 2
    unfold KK
    omega
theorem wh_near {n : Int} (hn : n.natAbs < 16777216) : Wh (FloatKind.nearest .f32 n) n := by
  have := wh_write (s := decide (n < 0)) hn
  have e : sg (decide (n < 0)) n.natAbs = n := by
    unfold sg
    by_cases h : n < 0
    · rw [decide_eq_true h, if_pos rfl]; omega
    · rw [decide_eq_false h, if_neg Bool.false_ne_true]; omega
  rw [e] at this
  exact this
theorem sg_wh {s : Bool} {m : Nat} {e n : Int} (h : mg KK m e = n.natAbs * PP) (hs : sg s n.natAbs = n) : sg s (mg KK m e) = n * (PP : Int) := by rw [h, sg_mul, hs]
theorem wh_mul {a b : Nat} {x y : Int} (ha : Wh a x) (hb : Wh b y) (h : (x * y).natAbs < 16777216) : ∃ c, single.mul a b = some c ∧ Wh c (x * y) := by
  obtain ⟨s, m, i, h1, h2, h3, h4⟩ := ha
  obtain ⟨t, n, j, k1, k2, k3, k4⟩ := hb
  unfold Format.mul
  rw [h1, k1]
  simp only [Datum.product, Option.map_some]
  refine ⟨_, rfl, ?_⟩
  have hm : mg KK (m * n) (i + j) = (x * y).natAbs * PP := by
    refine Nat.eq_of_mul_eq_mul_right PP_pos ?_
    have : mg KK (m * n) (i + j) * PP = mg KK m i * mg KK n j := by
      unfold mg
      rw [PP_eq, Nat.mul_assoc (m * n), ← Nat.pow_add, Nat.mul_mul_mul_comm, ← Nat.pow_add]
      congr 2
      unfold KK
      omega
    rw [this, h3, k3, Int.natAbs_mul]
    exact Nat.mul_mul_mul_comm _ _ _ _ |>.trans (Nat.mul_assoc _ _ _).symm
  rw [write_exact h hm (by omega)]
  have w := wh_write (s := s ^^ t) h
  have e : sg (s ^^ t) (x * y).natAbs = x * y := by
    rw [Int.natAbs_mul]
    unfold sg at h4 k4 ⊢
    cases s <;> cases t <;> simp only [Bool.false_eq_true, if_false, if_true, Bool.xor_false, Bool.xor_true, Bool.not_false, Bool.not_true, Bool.false_xor, Bool.true_xor] at h4 k4 ⊢ <;> rw [Int.natCast_mul] <;> (conv => rhs; rw [← h4, ← k4]) <;> simp [Int.neg_mul, Int.mul_neg]
  rw [e] at w
  exact w
theorem wh_order {a b : Nat} {x y : Int} (ha : Wh a x) (hb : Wh b y) : single.order a b = some (compare x y) := by
  obtain ⟨s, m, i, h1, h2, h3, h4⟩ := ha
  obtain ⟨t, n, j, k1, k2, k3, k4⟩ := hb
  have : Datum.order (single.read a) (single.read b) = some (compare x y) := by
    rw [h1, k1, order_mg KK (by unfold KK; omega) (by unfold KK; omega), sg_wh h3 h4, sg_wh k3 k4, compare_mul PP_pos]
  exact this
end Go.Sh
end

section
namespace Go.Sh
open Go Go.Proofs Go.RowKit Go.Sx Go.Sx06 Ieee Go.Fl
section
variable {rate noise tail time kind : Int} {l : List Nat}
theorem decW_ok (h : (askE rate l noise tail).2 = 0) (hk : 0 ≤ kind ∧ kind ≤ 2) : decW rate l noise tail kind = decS rate (zsO noise l) tail kind := by
  unfold decW
  rw [if_neg (show ¬ (askE rate l noise tail).2 ≠ 0 from fun hh => hh h), if_neg (show ¬ ¬ (0 ≤ kind ∧ kind ≤ 2) from fun hh => hh hk)]
theorem clW_ok (h : (askE rate l noise tail).2 = 0) (ht : tmE time = 0) : clW rate l noise tail time = clS rate (zsO noise l) tail time := by
  unfold clW
  rw [if_neg (show ¬ (askE rate l noise tail).2 ≠ 0 from fun hh => hh h), if_neg (show ¬ tmE time ≠ 0 from fun hh => hh ht)]
end
theorem sc2_of {c k : Int} (hc : c = k * k) (hk : 0 < k) : ∀ a b : List Nat, a.length = b.length → (∀ i, i < a.length → fi (b.getD i 0) = k * fi (a.getD i 0)) → Sc2 c (zsO 0 a) (zsO 0 b)
  | [], [], _, _ => .nil
  | [], _ :: _, h, _ => by simp at h
  | _ :: _, [], h, _ => by simp at h
  | x :: a, y :: b, h, hd => by
    have e : fi y = k * fi x := hd 0 (by simp)
    have ea : az (fi y) = k * az (fi x) := by rw [e, az_abs, az_abs, Int.natAbs_mul, Int.natCast_mul]; congr 1; omega
    refine .cons ?_ ?_ (sc2_of hc hk a b (by simpa using h) fun i hi => hd (i + 1) (by simpa using hi))
    · show max 0 (az (fi y) - 0) * max 0 (az (fi y) - 0) = max 0 (az (fi x) - 0) * max 0 (az (fi x) - 0) * c
      have h0 : 0 ≤ az (fi x) := by unfold az; omega
      have h1 : 0 ≤ az (fi y) := by unfold az; omega
      rw [Int.sub_zero, Int.sub_zero, Int.max_eq_right h0, Int.max_eq_right h1, ea, hc]
      grind
    · show (az (fi y) + 0) * (az (fi y) + 0) = (az (fi x) + 0) * (az (fi x) + 0) * c
      rw [Int.add_zero, Int.add_zero, ea, hc]
      grind
def upd_ (l : List Nat) (g : Nat → Nat) (i : Nat) : List Nat := (List.range l.length).map fun j => if j < i then g j else l.getD j 0
section
variable {l : List Nat} {g : Nat → Nat}
theorem upd_len (i : Nat) : (upd_ l g i).length = l.length := by simp [upd_]
theorem upd_at {i j : Nat} (h : j < l.length) : (upd_ l g i).getD j 0 = if j < i then g j else l.getD j 0 := by
  simp [upd_, List.getD, h]
theorem upd_zero : upd_ l g 0 = l := by
  refine List.ext_getElem (by simp [upd_]) fun j h1 h2 => ?_
  simp [upd_, List.getD, h2]
theorem upd_set {i : Nat} (h : i < l.length) : (upd_ l g i).set i (g i) = upd_ l g (i + 1) := by
  refine List.ext_getElem (by simp [upd_]) fun j h1 h2 => ?_
  rw [List.getElem_set]
  simp only [upd_, List.getElem_map, List.getElem_range]
  by_cases h3 : i = j
  · subst h3
    rw [if_pos rfl, if_pos (by omega)]
  · rw [if_neg h3]
    by_cases h4 : j < i
    · rw [if_pos h4, if_pos (by omega)]
    · rw [if_neg h4, if_neg (by omega)]
end
end Go.Sh
end
