/- Part 7 of the proof of FigureClarityCard: the executor, the mirrors of the functions, the plain facts. -/
import Derived.Test.YtcklfboglnfepaaGreatDoorPF
import Derived.LaidLaws
import Derived.LaidHandle
import Derived.LaidMore
import Derived.MakeChecks
import Derived.Handed
import Derived.Test.YtcklfboglnfepaaGreatDoorRows
set_option linter.unusedSectionVars false
set_option linter.unusedSimpArgs false
set_option linter.unusedVariables false
section
namespace Go.Sx
set_option linter.unusedVariables false
open Go.RowKit Go.ChangeShapes Go.WideShapes
section
variable {P : Program} {w : World}
theorem laid_get : ∀ {l : List (String × DataW Unit)} {ps : List MemPlace} {n : String} {d : DataW Unit}, DataW.LaidVars P w l ps → (n, d) ∈ l →
    ∃ g t cs fuel p, P.globalNamed n = some g ∧ (P.globals[g]?).map (·.type) = some t ∧ w.var? P n = some cs ∧ DataW.trod (fun _ => ()) P w 0 (fun _ => true) false fuel t cs.toList = some (d, p)
  | (n', d') :: r, ps, n, d, h, hm => by
    obtain ⟨g, t, cs, fuel, p, q, h1, h2, h3, h4, h5, _⟩ := h
    rcases List.mem_cons.1 hm with e | hm
    · cases e
      exact ⟨g, t, cs, fuel, p, h1, h2, h3, h4⟩
    · exact laid_get h5 hm
variable {enc : TypeId × Value → Unit} {base : Nat} {spare : Nat → Bool} {held : Bool} {fuel : Nat}
theorem take_one {α : Type} {l : List α} {i : Nat} (h : i < l.length) : (l.drop i).take 1 = [l[i]] := by
  rw [List.drop_eq_getElem_cons h]
  rfl
theorem laid_ints {t e n : Nat} {k : IntKind} {l : List Int} {cs : List Value} {p : List MemPlace} (hu : P.underlying t = some (.array n e)) (he : P.underlying e = some (.int k)) (hc : P.cellsOf e = 1) (hct : P.cellsOf t = n) (hl : l.length = n)
    (h : DataW.trod enc P w base spare held fuel t cs = some (.agg (l.map fun x => .lit (.int k x)), p)) : cs = (Cont.ints k l).flat.map D.val := by
  obtain ⟨xs, m, _, hx, hlen, hn, hel⟩ := DataW.trod_array hu h
  have hx1 : l.map (fun x => DataW.lit (H := Unit) (.int k x)) = xs.map (·.1) := by
    have := congrArg Prod.fst hx
    simpa using this
  have hf : (Cont.ints k l).flat.map D.val = l.map fun x => Value.int k x := by
    simp only [Cont.flat, List.map_flatMap, List.map_cons, List.map_nil, D.val]
    rw [← List.flatMap_singleton' (l.map fun x => Value.int k x), List.flatMap_map]
  rw [hf]
  apply List.ext_getElem
  · rw [hlen, hct, List.length_map, hl]
  · intro i h1 h2
    have hi : i < n := by rw [hlen, hct] at h1; exact h1
    have h3 := hel i hi
    rw [hc, Nat.mul_one, take_one h1] at h3
    have hxi : i < xs.length := by omega
    rw [List.getElem?_eq_getElem hxi] at h3
    obtain ⟨a, ha, hb, _⟩ := DataW.trod_int he h3
    have h4 : (l.map (fun x => DataW.lit (H := Unit) (.int k x)))[i]? = (xs.map (·.1))[i]? := by rw [hx1]
    rw [List.getElem?_map, List.getElem?_map, List.getElem?_eq_getElem hxi, List.getElem?_eq_getElem (show i < l.length by omega), hb] at h4
    simp only [Option.map_some, Option.some.injEq] at h4
    have e1 : l[i] = a := by cases h4; rfl
    have e2 : cs[i] = .int k a := by simpa using ha
    rw [e2, List.getElem_map, e1]
theorem laid_recs3 {t e n a b c : Nat} {fs : Array Field} {l : List (List Int)} {cs : List Value} {p : List MemPlace} (hu : P.underlying t = some (.array n e)) (he : P.underlying e = some (.struct fs))
    (hfs : fs.toList.map (fun f => (f.type, f.offset)) = [(a, 0), (b, 1), (c, 2)]) (ha : P.underlying a = some (.int .i64)) (hb : P.underlying b = some (.int .i64)) (hc : P.underlying c = some (.int .i64)) (hca : P.cellsOf a = 1) (hcb : P.cellsOf b = 1) (hcc : P.cellsOf c = 1)
    (hce : P.cellsOf e = 3) (hct : P.cellsOf t = 3 * n) (hl : l.length = n)
    (h : DataW.trod enc P w base spare held fuel t cs = some (.agg (l.map fun x => .agg [.lit (.int .i64 (x.getD 0 0)), .lit (.int .i64 (x.getD 1 0)), .lit (.int .i64 (x.getD 2 0))]), p)) : cs = (Cont.recs 3 l).flat.map D.val := by
  obtain ⟨xs, m, _, hx, hlen, hn, hel⟩ := DataW.trod_array hu h
  have hx1 : l.map (fun x => DataW.agg (H := Unit) [.lit (.int .i64 (x.getD 0 0)), .lit (.int .i64 (x.getD 1 0)), .lit (.int .i64 (x.getD 2 0))]) = xs.map (·.1) := by
    have := congrArg Prod.fst hx
    simpa using this
  have hrow : ∀ i, i < n → (cs.drop (i * 3)).take 3 = [Value.int .i64 ((l.getD i []).getD 0 0), .int .i64 ((l.getD i []).getD 1 0), .int .i64 ((l.getD i []).getD 2 0)] := by
    intro i hi
    have h3 := hel i hi
    rw [hce] at h3
    have hxi : i < xs.length := by omega
    have hli : i < l.length := by omega
    rw [List.getElem?_eq_getElem hxi] at h3
    have h4 : (l.map (fun x => DataW.agg (H := Unit) [.lit (.int .i64 (x.getD 0 0)), .lit (.int .i64 (x.getD 1 0)), .lit (.int .i64 (x.getD 2 0))]))[i]? = (xs.map (·.1))[i]? := by rw [hx1]
    rw [List.getElem?_map, List.getElem?_map, List.getElem?_eq_getElem hxi, List.getElem?_eq_getElem hli] at h4
    simp only [Option.map_some, Option.some.injEq] at h4
    have hgl : l.getD i [] = l[i] := by simp [List.getD, hli]
    rw [hgl]
    obtain ⟨ys, m2, _, hy, hyl, hyn, hye⟩ := DataW.trod_struct he h3
    rw [hce] at hyl
    have hy1 : xs[i].1 = .agg (ys.map (·.1)) := by rw [hy]
    rw [hy1] at h4
    have h5 : [DataW.lit (H := Unit) (.int .i64 (l[i].getD 0 0)), .lit (.int .i64 (l[i].getD 1 0)), .lit (.int .i64 (l[i].getD 2 0))] = ys.map (·.1) := by
      rw [DataW.agg.injEq] at h4
      exact h4
    have hfl : fs.size = 3 := by
      have := congrArg List.length hfs
      simpa using this
    have field : ∀ (j : Nat) (tj : Nat), j < 3 → (fs.toList.map (fun f => (f.type, f.offset)))[j]? = some (tj, j) → P.underlying tj = some (.int .i64) → P.cellsOf tj = 1 → ∃ v, ((cs.drop (i * 3)).take 3)[j]? = some (Value.int .i64 v) ∧ (ys.map (·.1))[j]? = some (.lit (.int .i64 v)) := by
      intro j tj hj hf htj hcj
      rw [List.getElem?_map] at hf
      cases hfj : fs.toList[j]? with
      | none => rw [hfj] at hf; cases hf
      | some f =>
        rw [hfj] at hf
        simp only [Option.map_some, Option.some.injEq, Prod.mk.injEq] at hf
        obtain ⟨e1, e2⟩ := hf
        have h6 := hye j f (by simpa using hfj)
        rw [e1, e2, hcj, take_one (by rw [hyl]; exact hj)] at h6
        have hyj : j < ys.length := by omega
        rw [List.getElem?_eq_getElem hyj] at h6
        obtain ⟨v, hv1, hv2, _⟩ := DataW.trod_int htj h6
        refine ⟨v, ?_, ?_⟩
        · rw [List.getElem?_eq_getElem (by rw [hyl]; exact hj)]
          simpa using hv1
        · rw [List.getElem?_map, List.getElem?_eq_getElem hyj, hv2]
          rfl
    obtain ⟨v0, a0, b0⟩ := field 0 a (by omega) (by rw [hfs]; rfl) ha hca
    obtain ⟨v1, a1, b1⟩ := field 1 b (by omega) (by rw [hfs]; rfl) hb hcb
    obtain ⟨v2, a2, b2⟩ := field 2 c (by omega) (by rw [hfs]; rfl) hc hcc
    rw [← h5] at b0 b1 b2
    have e0 : l[i].getD 0 0 = v0 := by simpa using b0
    have e1 : l[i].getD 1 0 = v1 := by simpa using b1
    have e2 : l[i].getD 2 0 = v2 := by simpa using b2
    rw [e0, e1, e2]
    generalize (cs.drop (i * 3)).take 3 = L at *
    match L, hyl with
    | [x, y, z], _ =>
      simp only [List.getElem?_cons_zero, List.getElem?_cons_succ, Option.some.injEq] at a0 a1 a2
      rw [a0, a1, a2]
  apply List.ext_getElem?
  intro j
  have hfl := (Cont.recs 3 l).flat_length
  have hn3 : (Cont.recs 3 l).n * (Cont.recs 3 l).e = n * 3 := by simp [Cont.n, Cont.e, hl]
  by_cases hj : j < n * 3
  · have hi : j / 3 < n := by omega
    have h7 := hrow (j / 3) hi
    have h8 := (Cont.recs 3 l).flat_get (i := j / 3) (j := j % 3) (by simpa [Cont.n, hl] using hi) (by simp only [Cont.e]; omega)
    have e9 : j / 3 * (Cont.recs 3 l).e + j % 3 = j := by simp only [Cont.e]; omega
    rw [e9] at h8
    rw [List.getElem?_map, h8]
    have h10 : cs[j]? = ((cs.drop (j / 3 * 3)).take 3)[j % 3]? := by
      rw [List.getElem?_take, if_pos (by omega), List.getElem?_drop]
      congr 1
      omega
    rw [h10, h7]
    have hm : j % 3 = 0 ∨ j % 3 = 1 ∨ j % 3 = 2 := by omega
    rcases hm with h | h | h <;> rw [h] <;> rfl
  · rw [List.getElem?_eq_none (by rw [hlen, hct]; omega), List.getElem?_eq_none (by rw [List.length_map, hfl, hn3]; omega)]
theorem tab_of {n : String} {g : Nat} {cs : Array Value} {c : Cont} (hg : P.globalNamed n = some g) (hv : w.var? P n = some cs) (hc : cs.toList = c.flat.map D.val) :
    g < w.heap.size ∧ (∀ j x, c.flat[j]? = some x → w.cell? ⟨g, j, none⟩ = some x.val) ∧ ∃ cs t f, w.heap[g]? = some (.cells cs t f) ∧ cs.size = c.flat.length := by
  have hcell := World.var?_cell hg hv
  have hsz : cs.size = c.flat.length := by
    have := congrArg List.length hc
    simpa using this
  simp only [World.var?, hg, Option.bind_some] at hv
  split at hv
  · rename_i cs' t f hh
    cases hv
    refine ⟨(Array.getElem?_eq_some_iff.1 hh).1, fun j x hj => ?_, cs, t, f, hh, hsz⟩
    rw [hcell j]
    have : cs.toList[j]? = some x.val := by rw [hc, List.getElem?_map, hj]; rfl
    simpa using this
  · cases hv
end
end Go.Sx
end

section
namespace Go.Proofs.YtcklfboglnfepaaGreatDoor
open Go Go.Proofs Go.RowKit Go.Sx
set_option maxRecDepth 100000
theorem globs_ok {W : World} {laid : List (String × DataW Unit)} (hp : (laid.all fun x => x.2.handleName?.isNone) = true)
    (hm : ∀ x ∈ [("internal/strconv.uint64pow10", Rows.laid_internal_strconv_uint64pow10 (H := Unit)), ("shoebox/figure.powers", Rows.laid_shoebox_figure_powers), ("shoebox/figure.slopes", Rows.laid_shoebox_figure_slopes), ("shoebox/figure.tenths", Rows.laid_shoebox_figure_tenths), ("shoebox/figure.decayKinds", Rows.laid_shoebox_figure_decayKinds)], x ∈ laid)
    (h : laidMetH Tryz.prog laid W) : GlobOK (fun k => k < W.heap.size) W := by
  rw [MakeChecks.laidMetH_plain _ _ _ hp] at h
  obtain ⟨ps, hl, _, _⟩ := h
  have t0 : (Tryz.prog.globals[0]?).map (·.type) = some 141 := by kernel_rfl
  have t1 : (Tryz.prog.globals[1]?).map (·.type) = some 159 := by kernel_rfl
  have t3 : (Tryz.prog.globals[3]?).map (·.type) = some 169 := by kernel_rfl
  have t7 : (Tryz.prog.globals[7]?).map (·.type) = some 198 := by kernel_rfl
  have t11 : (Tryz.prog.globals[11]?).map (·.type) = some 227 := by kernel_rfl
  refine ⟨fun g c hg => ?_, held_none (fun g => rfl) _ _⟩
  have hg : tabZ g = some c := hg
  unfold tabZ at hg
  split at hg
  · cases hg
    obtain ⟨g, t, cs, fuel, p, h1, h2, h3, h4⟩ := laid_get hl (hm ("shoebox/figure.decayKinds", Rows.laid_shoebox_figure_decayKinds) (by simp))
    obtain rfl := Option.some.inj ((show Tryz.prog.globalNamed "shoebox/figure.decayKinds" = some 0 by kernel_rfl).symm.trans h1)
    obtain rfl := Option.some.inj (t0.symm.trans h2)
    have hc := laid_ints (n := 3) (e := 3) (k := .i64) (l := kindsT) (by kernel_rfl) (by kernel_rfl) (by kernel_rfl) (by kernel_rfl) rfl h4
    exact tab_of h1 h3 hc
  · cases hg
    obtain ⟨g, t, cs, fuel, p, h1, h2, h3, h4⟩ := laid_get hl (hm ("shoebox/figure.slopes", Rows.laid_shoebox_figure_slopes) (by simp))
    obtain rfl := Option.some.inj ((show Tryz.prog.globalNamed "shoebox/figure.slopes" = some 1 by kernel_rfl).symm.trans h1)
    obtain rfl := Option.some.inj (t1.symm.trans h2)
    have hu : ∃ fs, Tryz.prog.underlying 158 = some (.struct fs) ∧ fs.toList.map (fun f => (f.type, f.offset)) = [(3, 0), (3, 1), (3, 2)] := by
      have u := Tryz.underlying158
      exact ⟨_, u, by kernel_rfl⟩
    obtain ⟨fs, u2, u3⟩ := hu
    have hc := laid_recs3 (n := 3) (l := slopesT) (e := 158) (by kernel_rfl) u2 u3 (by kernel_rfl) (by kernel_rfl) (by kernel_rfl) (by kernel_rfl) (by kernel_rfl) (by kernel_rfl) (by kernel_rfl) (by kernel_rfl) rfl h4
    exact tab_of h1 h3 hc
  · cases hg
    obtain ⟨g, t, cs, fuel, p, h1, h2, h3, h4⟩ := laid_get hl (hm ("shoebox/figure.powers", Rows.laid_shoebox_figure_powers) (by simp))
    obtain rfl := Option.some.inj ((show Tryz.prog.globalNamed "shoebox/figure.powers" = some 3 by kernel_rfl).symm.trans h1)
    obtain rfl := Option.some.inj (t3.symm.trans h2)
    have hc := laid_ints (n := 13) (l := powersT) (e := 134) (k := .u64) (by kernel_rfl) (by kernel_rfl) (by kernel_rfl) (by kernel_rfl) rfl h4
    exact tab_of h1 h3 hc
  · cases hg
    obtain ⟨g, t, cs, fuel, p, h1, h2, h3, h4⟩ := laid_get hl (hm ("shoebox/figure.tenths", Rows.laid_shoebox_figure_tenths) (by simp))
    obtain rfl := Option.some.inj ((show Tryz.prog.globalNamed "shoebox/figure.tenths" = some 7 by kernel_rfl).symm.trans h1)
    obtain rfl := Option.some.inj (t7.symm.trans h2)
    have hc := laid_ints (n := 10) (l := tenthsT) (e := 134) (k := .u64) (by kernel_rfl) (by kernel_rfl) (by kernel_rfl) (by kernel_rfl) rfl h4
    exact tab_of h1 h3 hc
  · cases hg
    obtain ⟨g, t, cs, fuel, p, h1, h2, h3, h4⟩ := laid_get hl (hm ("internal/strconv.uint64pow10", Rows.laid_internal_strconv_uint64pow10) (by simp))
    obtain rfl := Option.some.inj ((show Tryz.prog.globalNamed "internal/strconv.uint64pow10" = some 11 by kernel_rfl).symm.trans h1)
    obtain rfl := Option.some.inj (t11.symm.trans h2)
    have hc := laid_ints (n := 20) (l := pow10T) (e := 134) (k := .u64) (by kernel_rfl) (by kernel_rfl) (by kernel_rfl) (by kernel_rfl) rfl h4
    exact tab_of h1 h3 hc
  · cases hg
end Go.Proofs.YtcklfboglnfepaaGreatDoor
end
