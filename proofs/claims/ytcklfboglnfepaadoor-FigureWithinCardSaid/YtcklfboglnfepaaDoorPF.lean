/- Part 6 of the proof of FigureWithinCard: the executor, the mirrors of the functions, the plain facts. -/
import Derived.Test.YtcklfboglnfepaaDoorPE
import Derived.Shelf.Strings.OnBuilder
import Derived.Shelf.Strconv.Itoa3
import Derived.Carry
import Derived.ChangeArms
import Derived.OpenShut
import Derived.ChangeShapes
import Derived.ChangeSame
import Derived.SizedLaws
import Derived.WideShapes
import Derived.LaidLaws
import Derived.LaidHandle
import Derived.LaidMore
import Derived.MakeChecks
import Derived.Handed
import Derived.Test.YtcklfboglnfepaaDoorRows
set_option linter.unusedSectionVars false
set_option linter.unusedSimpArgs false
set_option linter.unusedVariables false
section
open Go.RowKit
namespace Go.Proofs
open Go.Shelf
def Tryd.laysM171_ren : Go.Shelf.Ren := ⟨fun | 171 => 72 | 243 => 92 | 246 => 101 | 283 => 106 | 284 => 107 | 285 => 108 | 286 => 109 | 129 => 104 | 317 => 112 | 318 => 113 | 319 => 114 | 320 => 115 | 337 => 116 | 338 => 117 | n => n, fun | 3 => 3 | 9 => 9 | 2 => 2 | 4 => 4 | 171 => 155 | 0 => 0 | 53 => 84 | 37 => 138 | 5 => 5 | 173 => 157 | 212 => 163 | 51 => 164 | 20 => 20 | 213 => 165 | 46 => 149 | 232 => 168 | 233 => 169 | n => n, fun | 17 => 6 | 18 => 8 | 19 => 9 | n => n⟩
theorem Tryd.laysM171 : Go.Proofs.LaysM.n171 Tryd.prog Tryd.laysM171_ren := {
  mixed := by kernel_rfl
  f129 := Tryd.func104.trans (congrArg some (by kernel_rfl))
  f171 := Tryd.func72.trans (congrArg some (by kernel_rfl))
  f243 := Tryd.func92.trans (congrArg some (by kernel_rfl))
  f246 := Tryd.func101.trans (congrArg some (by kernel_rfl))
  f283 := Tryd.func106.trans (congrArg some (by kernel_rfl))
  f284 := Tryd.func107.trans (congrArg some (by kernel_rfl))
  f285 := Tryd.func108.trans (congrArg some (by kernel_rfl))
  f286 := Tryd.func109.trans (congrArg some (by kernel_rfl))
  f317 := Tryd.func112.trans (congrArg some (by kernel_rfl))
  f318 := Tryd.func113.trans (congrArg some (by kernel_rfl))
  f319 := Tryd.func114.trans (congrArg some (by kernel_rfl))
  f320 := Tryd.func115.trans (congrArg some (by kernel_rfl))
  f337 := Tryd.func116.trans (congrArg some (by kernel_rfl))
  f338 := Tryd.func117.trans (congrArg some (by kernel_rfl))
  t0 := Tryd.underlying0
  a0 := Tryd.isAgg0
  z0 := Tryd.sizeOf0
  v0 := Tryd.zeroValue0
  t2 := Tryd.underlying2
  a2 := Tryd.isAgg2
  z2 := Tryd.sizeOf2
  v2 := Tryd.zeroValue2
  t3 := Tryd.underlying3
  a3 := Tryd.isAgg3
  z3 := Tryd.sizeOf3
  v3 := Tryd.zeroValue3
  t4 := Tryd.underlying4
  a4 := Tryd.isAgg4
  z4 := Tryd.sizeOf4
  v4 := Tryd.zeroValue4
  t5 := Tryd.underlying5
  a5 := Tryd.isAgg5
  z5 := Tryd.sizeOf5
  v5 := Tryd.zeroValue5
  t9 := Tryd.underlying9
  a9 := Tryd.isAgg9
  z9 := Tryd.sizeOf9
  v9 := Tryd.zeroValue9
  t20 := Tryd.underlying20
  a20 := Tryd.isAgg20
  z20 := Tryd.sizeOf20
  v20 := Tryd.zeroValue20
  t37 := Tryd.underlying138
  a37 := Tryd.isAgg138
  z37 := Tryd.sizeOf138
  v37 := Tryd.zeroValue138
  t46 := Tryd.underlying149
  a46 := Tryd.isAgg149
  z46 := Tryd.sizeOf149
  v46 := Tryd.zeroValue149
  t51 := Tryd.underlying164
  a51 := Tryd.isAgg164
  z51 := Tryd.sizeOf164
  v51 := Tryd.zeroValue164
  t53 := Tryd.underlying84
  a53 := Tryd.isAgg84
  z53 := Tryd.sizeOf84
  v53 := Tryd.zeroValue84
  t171 := Tryd.underlying155
  a171 := Tryd.isAgg155
  z171 := Tryd.sizeOf155
  v171 := Tryd.zeroValue155
  t173 := Tryd.underlying157
  a173 := Tryd.isAgg157
  z173 := Tryd.sizeOf157
  v173 := Tryd.zeroValue157
  t212 := Tryd.underlying163
  a212 := Tryd.isAgg163
  z212 := Tryd.sizeOf163
  v212 := Tryd.zeroValue163
  t213 := Tryd.underlying165
  a213 := Tryd.isAgg165
  z213 := Tryd.sizeOf165
  t232 := Tryd.underlying168
  a232 := Tryd.isAgg168
  z232 := Tryd.sizeOf168
  v232 := Tryd.zeroValue168
  t233 := Tryd.underlying169
  a233 := Tryd.isAgg169
  z233 := Tryd.sizeOf169
  v233 := Tryd.zeroValue169
  g17 := by kernel_rfl
  g18 := by kernel_rfl
  g19 := by kernel_rfl
  i0 := by kernel_rfl
  i2 := by kernel_rfl
  i3 := by kernel_rfl
  i4 := by kernel_rfl
  i5 := by kernel_rfl
  i9 := by kernel_rfl
  i20 := by kernel_rfl
  i37 := by kernel_rfl
  i46 := by kernel_rfl
  i51 := by kernel_rfl
  i53 := by kernel_rfl
  i171 := by kernel_rfl
  i173 := by kernel_rfl
  i212 := by kernel_rfl
  i232 := by kernel_rfl
  i233 := by kernel_rfl
  m17 := by kernel_rfl
  m18 := by kernel_rfl
  m19 := by kernel_rfl }
def Tryd.lays156_ren : Go.Shelf.Ren := ⟨fun | 156 => 73 | 165 => 93 | 166 => 94 | 169 => 95 | 240 => 102 | 241 => 103 | 276 => 110 | 277 => 111 | n => n, fun | 31 => 111 | 9 => 9 | 3 => 3 | 4 => 4 | 0 => 0 | 20 => 20 | 72 => 140 | 76 => 144 | 70 => 137 | 37 => 138 | 75 => 143 | 127 => 153 | 164 => 159 | 5 => 5 | 80 => 146 | n => n, fun | n => n⟩
theorem Tryd.lays156 : Go.Proofs.Lays.n156 Tryd.prog Tryd.lays156_ren := {
  mixed := by kernel_rfl
  f156 := Tryd.func73.trans (congrArg some (by kernel_rfl))
  f165 := Tryd.func93.trans (congrArg some (by kernel_rfl))
  f166 := Tryd.func94.trans (congrArg some (by kernel_rfl))
  f169 := Tryd.func95.trans (congrArg some (by kernel_rfl))
  f240 := Tryd.func102.trans (congrArg some (by kernel_rfl))
  f241 := Tryd.func103.trans (congrArg some (by kernel_rfl))
  f276 := Tryd.func110.trans (congrArg some (by kernel_rfl))
  f277 := Tryd.func111.trans (congrArg some (by kernel_rfl))
  t0 := Tryd.underlying0
  a0 := Tryd.isAgg0
  z0 := Tryd.sizeOf0
  v0 := Tryd.zeroValue0
  t3 := Tryd.underlying3
  a3 := Tryd.isAgg3
  z3 := Tryd.sizeOf3
  v3 := Tryd.zeroValue3
  t4 := Tryd.underlying4
  a4 := Tryd.isAgg4
  z4 := Tryd.sizeOf4
  v4 := Tryd.zeroValue4
  t9 := Tryd.underlying9
  a9 := Tryd.isAgg9
  z9 := Tryd.sizeOf9
  v9 := Tryd.zeroValue9
  t20 := Tryd.underlying20
  a20 := Tryd.isAgg20
  z20 := Tryd.sizeOf20
  v20 := Tryd.zeroValue20
  t31 := Tryd.underlying111
  a31 := Tryd.isAgg111
  z31 := Tryd.sizeOf111
  v31 := Tryd.zeroValue111
  t37 := Tryd.underlying138
  a37 := Tryd.isAgg138
  z37 := Tryd.sizeOf138
  v37 := Tryd.zeroValue138
  t70 := Tryd.underlying137
  a70 := Tryd.isAgg137
  z70 := Tryd.sizeOf137
  v70 := Tryd.zeroValue137
  t72 := Tryd.underlying140
  a72 := Tryd.isAgg140
  z72 := Tryd.sizeOf140
  v72 := Tryd.zeroValue140
  t75 := Tryd.underlying143
  a75 := Tryd.isAgg143
  z75 := Tryd.sizeOf143
  v75 := Tryd.zeroValue143
  t76 := Tryd.underlying144
  a76 := Tryd.isAgg144
  z76 := Tryd.sizeOf144
  v76 := Tryd.zeroValue144
  t127 := Tryd.underlying153
  a127 := Tryd.isAgg153
  z127 := Tryd.sizeOf153
  v127 := Tryd.zeroValue153
  t164 := Tryd.underlying159
  a164 := Tryd.isAgg159
  z164 := Tryd.sizeOf159
  v164 := Tryd.zeroValue159 }
end Go.Proofs
namespace Go.Sh
open Go Go.Proofs Go.RowKit Go.Sx Go.Shelf
set_option linter.unusedVariables false
theorem flat1 {α : Type} (f : α → D) (l : List α) : (l.flatMap fun x => [f x]) = l.map f := by
  induction l with
  | nil => rfl
  | cons x r ih => simp [List.flatMap_cons, ih]
set_option maxRecDepth 100000 in
theorem builder156 : Builder.Extra Tryd.prog Tryd.lays156_ren where
  sizeBuilder := by kernel_rfl
  liesBuilder := by kernel_rfl
  t5 := by kernel_rfl
  a5 := fun w => run_aggT w (by kernel_rfl)
  z5 := fun w => run_szT w (by kernel_rfl)
  v5 := fun w => rfl
  infoByte := by kernel_rfl
  cellsByte := by kernel_rfl
  sizeByte := by kernel_rfl
  neB5 := by decide
set_option maxRecDepth 100000 in
theorem pow10_named : Tryd.prog.globalNamed "internal/strconv.uint64pow10" = some 6 := by kernel_rfl
theorem tab_is {B : Bd} {w : World} (h : GlobOK B w) {g : Nat} {k : IntKind} {l : List Int} {name : String} (hn : Tryd.prog.globalNamed name = some g) (ht : Globs.tab g = some (.ints k l)) : Lib.TabIs Tryd.prog w name k l := by
  obtain ⟨_, hc, cs, t, f, hg, hs⟩ := h.1 g _ ht
  unfold Lib.TabIs World.var?
  rw [hn]
  simp only [Option.bind_some, hg, Option.some.injEq]
  apply Array.ext'
  apply List.ext_getElem?
  intro i
  have hfl : (Cont.ints k l).flat = l.map (D.i k) := flat1 _ _
  by_cases hi : i < l.length
  · have := hc i (.i k l[i]) (by rw [hfl]; simp [hi])
    simp only [World.cell?, hg] at this
    rw [Array.getElem?_toList]
    simp only [List.getElem?_map, List.getElem?_eq_getElem hi, Option.map_some]
    exact this
  · rw [hfl, List.length_map] at hs
    rw [Array.getElem?_toList, Array.getElem?_eq_none (by omega), List.getElem?_eq_none (by simpa using Nat.le_of_not_lt hi)]
def strconv_Itoa (n : Int) : Option ByteArray := if -9223372036854775808 ≤ n ∧ n ≤ 9223372036854775807 then some ⟨(Lib.itoa n).toArray⟩ else none
def k_strconv_Itoa : List SV := [.c (.d)]
def g_strconv_Itoa : List Lf → Option GT
  | [.d (.i .i64 n)] => some (.leaf (ok (strconv_Itoa n)) [.c (.d (.s (val (strconv_Itoa n))))])
  | _ => none
abbrev sp_72 : Specs → Specs := addK 72 true (pureT k_strconv_Itoa g_strconv_Itoa)
set_option maxRecDepth 100000 in
theorem strconv_Itoa_ok : SpecOK Tryd.prog 72 true (pureT k_strconv_Itoa g_strconv_Itoa) := by
  refine pureT_okC (body := bodyOf Tryd.f72) Tryd.func72 (by kernel_rfl) (by kernel_rfl) ?_
  intro ls t hg ho b hb ρ0 w hlt hh
  unfold g_strconv_Itoa at hg
  split at hg
  · rename_i n
    cases hg
    obtain rfl := bld_eq hb
    have hk : ok (strconv_Itoa n) := ho
    unfold strconv_Itoa at hk
    have hn : -9223372036854775808 ≤ n ∧ n ≤ 9223372036854775807 := by
      by_cases h : -9223372036854775808 ≤ n ∧ n ≤ 9223372036854775807
      · exact h
      · rw [if_neg h] at hk; cases hk
    have hv : val (strconv_Itoa n) = ⟨(Lib.itoa n).toArray⟩ := by
      unfold strconv_Itoa
      rw [if_pos hn]
      rfl
    have htab := tab_is hh.glob pow10_named (k := .u64) (l := Lib.pow10Tab) (by kernel_rfl)
    refine (Any.strconv_Itoa Tryd.laysM171 n hn.1 hn.2 w htab).mono ?_
    rintro e w' ⟨rfl, k, os, rfl⟩
    have hbl : Below w.heap.size w (Sort.grow (w.drewN k) os) := by
      refine ⟨rfl, rfl, rfl, by simp [Sort.grow, World.drewN], fun j hj => ?_⟩
      show (w.heap ++ os)[j]? = _
      rw [Array.getElem?_append_left hj]
    refine ⟨ρ0, .w (.c (.d (.s ⟨(Lib.itoa n).toArray⟩))), _, _, rfl, trivial, Agree.refl _ _, hh.below hbl (fun k hk => hk), bel_of hbl (fun k hk => hk), ?_⟩
    show mD _ _ ∧ True
    rw [hv]
    exact ⟨⟨rfl⟩, trivial⟩
  · cases hg
theorem sp_72_ok {sp : Specs} (h : SpecsOK Tryd.prog sp) : SpecsOK Tryd.prog (sp_72 sp) := addK_ok strconv_Itoa_ok h
def strings_Join (l : List ByteArray) (sep : ByteArray) : Option ByteArray :=
  if l.length ≤ 140737488355328 ∧ (Lib.join (l.map (·.data.toList)) sep.data.toList).length ≤ 140737488355328 then some ⟨(Lib.join (l.map (·.data.toList)) sep.data.toList).toArray⟩ else none
def k_strings_Join : List SV := [.c (.r (.strs [])), .c (.d)]
def g_strings_Join : List Lf → Option GT
  | [.r (.strs l), .d (.s sep)] => some (.leaf (ok (strings_Join l sep)) [.c (.d (.s (val (strings_Join l sep))))])
  | _ => none
abbrev sp_73 : Specs → Specs := addK 73 true (pureT k_strings_Join g_strings_Join)
set_option maxRecDepth 100000 in
theorem strings_Join_ok : SpecOK Tryd.prog 73 true (pureT k_strings_Join g_strings_Join) := by
  refine pureT_okC (body := bodyOf Tryd.f73) Tryd.func73 (by kernel_rfl) (by kernel_rfl) ?_
  intro ls t hg ho b hb ρ0 w hlt hh
  unfold g_strings_Join at hg
  split at hg
  · rename_i l sep
    cases hg
    obtain rfl := bld_eq hb
    have hk : ok (strings_Join l sep) := ho
    unfold strings_Join at hk
    have hn : l.length ≤ 140737488355328 ∧ (Lib.join (l.map (·.data.toList)) sep.data.toList).length ≤ 140737488355328 := by
      by_cases h : l.length ≤ 140737488355328 ∧ (Lib.join (l.map (·.data.toList)) sep.data.toList).length ≤ 140737488355328
      · exact h
      · rw [if_neg h] at hk; cases hk
    have hv : val (strings_Join l sep) = ⟨(Lib.join (l.map (·.data.toList)) sep.data.toList).toArray⟩ := by
      unfold strings_Join
      rw [if_pos hn]
      rfl
    obtain ⟨_, _, ⟨a, cap, hv0, ⟨hcap, _⟩, hcells⟩, hold⟩ := hh.ok 0 (.ext (.strs l)) rfl
    have hargs : ((bldD k_strings_Join [.r (.strs l), .d (.s sep)]).vs.map (V.val ρ0)).toArray = #[ρ0 0, .string sep] := rfl
    rw [hargs, hv0]
    have fin : ∀ w', Below w.heap.size w w' → ∃ ρ' v hp' nx', Ending.returned (.string ⟨(Lib.join (l.map (·.data.toList)) sep.data.toList).toArray⟩) = .returned (V.val ρ' v) ∧ v.lt nx' ∧ Agree 1 ρ0 ρ' ∧ HRel ρ' (fun k => k < w.heap.size) hp' nx' w' ∧ Bel (fun k => k < w.heap.size) w w' ∧
        fitV 1 [.c (.d (.s (val (strings_Join l sep))))] v hp' := fun w' hbl => by
      refine ⟨ρ0, .w (.c (.d (.s ⟨(Lib.join (l.map (·.data.toList)) sep.data.toList).toArray⟩))), _, _, rfl, trivial, Agree.refl _ _, hh.below hbl (fun k hk => hk), bel_of hbl (fun k hk => hk), ?_⟩
      show mD _ _ ∧ True
      rw [hv]
      exact ⟨⟨rfl⟩, trivial⟩
    cases hl : l with
    | nil =>
      subst hl
      refine (Any.strings_Join_none Tryd.lays156 builder156 a cap sep w).mono ?_
      rintro e w' ⟨rfl, rfl⟩
      exact fin _ (Below.refl _ _)
    | cons x r =>
      rw [← hl]
      have h0 : 0 < l.length := by rw [hl]; simp
      obtain ⟨b, off, rfl, hx⟩ := hcells h0
      refine (Any.strings_Join Tryd.lays156 builder156 b off cap l sep w (fun j x hj => ?_) (hold _ _ _ hv0 h0) hn.1 hcap hn.2).mono ?_
      · exact hx j (.s x) (by
          show ((Cont.strs l).flat)[j]? = _
          have hfl : (Cont.strs l).flat = l.map D.s := flat1 _ _
          rw [hfl, List.getElem?_map, hj]
          rfl)
      · rintro e w' ⟨rfl, hbl⟩
        exact fin _ hbl
  · cases hg
theorem sp_73_ok {sp : Specs} (h : SpecsOK Tryd.prog sp) : SpecsOK Tryd.prog (sp_73 sp) := addK_ok strings_Join_ok h
end Go.Sh
end

section
namespace Go.Sh
open Go Go.Proofs Go.RowKit Go.Sx
set_option linter.unusedVariables false
def k_G_FormatFigures : List (Option Cont) := [none]
def y65 (u47 : Bool) (u48 : Bool) (u49 : Bool) (u50 : Bool) (u51 : Bool) (u52 : Bool) (u53 : Int) (u54 : Int) (u55 : Int) (u56 : Int) (u57 : Int) (u58 : Int) (u59 : Int) (u60 : Int) (u61 : Int) (u62 : Int) (u63 : Int) (u65 : Int) (x0 : (Int × List ByteArray)) : Option ((Int × List ByteArray) ⊕ (List ByteArray)) :=
  if x0.1 < (6 : Int) then
   if ((0 : Int) ≤ x0.1 ∧ x0.1 < (↑(6 : Nat) : Int)) ∧ List.getD [true, true, true, true, true, true] (Int.toNat x0.1 * (1 : Nat)) false = true then
    if (!List.getD [u47, u48, u49, u50, u51, u52] (Int.toNat x0.1 * (1 : Nat)) false) = true then
     if (List.length x0.2 + List.length [ByteArray.mk #[(45 : UInt8)]]) * (16 : Nat) ≤ (140737488355328 : Nat) ∧ List.length x0.2 + List.length [ByteArray.mk #[(45 : UInt8)]] ≤ (9223372036854775807 : Nat) then
      some (.inl ((IntKind.wrap .i64 (x0.1 + (1 : Int)), x0.2 ++ [ByteArray.mk #[(45 : UInt8)]])))
     else none
    else
     if (0 : Int) ≤ x0.1 ∧ x0.1 < (↑(6 : Nat) : Int) then
      if List.getD [false, false, false, false, false, false, true, true, true, true, true, true, true, true, true, true, true, true] ((6 : Nat) + Int.toNat x0.1 * (2 : Nat) + Field.offset (Field.mk "Lo" (3 : Nat) (0 : Nat) false "" "" (0 : Nat))) false = true then
       Option.bind (strconv_Itoa (List.getD [(0 : Int), (0 : Int), (0 : Int), (0 : Int), (0 : Int), (0 : Int), u53, u54, u55, u56, u57, u58, u59, u60, u61, u62, u63, u65] ((6 : Nat) + Int.toNat x0.1 * (2 : Nat) + Field.offset (Field.mk "Lo" (3 : Nat) (0 : Nat) false "" "" (0 : Nat))) (0 : Int))) fun r0 =>
       if (0 : Int) ≤ x0.1 ∧ x0.1 < (↑(6 : Nat) : Int) then
        if List.getD [false, false, false, false, false, false, true, true, true, true, true, true, true, true, true, true, true, true] ((6 : Nat) + Int.toNat x0.1 * (2 : Nat) + Field.offset (Field.mk "Hi" (3 : Nat) (1 : Nat) false "" "" (8 : Nat))) false = true then
         Option.bind (strconv_Itoa (List.getD [(0 : Int), (0 : Int), (0 : Int), (0 : Int), (0 : Int), (0 : Int), u53, u54, u55, u56, u57, u58, u59, u60, u61, u62, u63, u65] ((6 : Nat) + Int.toNat x0.1 * (2 : Nat) + Field.offset (Field.mk "Hi" (3 : Nat) (1 : Nat) false "" "" (8 : Nat))) (0 : Int))) fun r1 =>
         if (List.length x0.2 + List.length [r0, r1]) * (16 : Nat) ≤ (140737488355328 : Nat) ∧ List.length x0.2 + List.length [r0, r1] ≤ (9223372036854775807 : Nat) then
          some (.inl ((IntKind.wrap .i64 (x0.1 + (1 : Int)), x0.2 ++ [r0, r1])))
         else none
        else none
       else none
      else none
     else none
   else none
  else
   some (.inr x0.2)
def y66 (u17 : List ByteArray) : Option ByteArray :=
  Option.bind (strings_Join u17 (ByteArray.mk #[(32 : UInt8)])) fun r2 =>
  some r2
def y96 (u47 : Bool) (u48 : Bool) (u49 : Bool) (u50 : Bool) (u51 : Bool) (u52 : Bool) (u53 : Int) (u54 : Int) (u55 : Int) (u56 : Int) (u57 : Int) (u58 : Int) (u59 : Int) (u60 : Int) (u61 : Int) (u62 : Int) (u63 : Int) (u65 : Int) : Option ByteArray :=
  Option.bind (iter (y65 u47 u48 u49 u50 u51 u52 u53 u54 u55 u56 u57 u58 u59 u60 u61 u62 u63 u65) big (((0 : Int), []))) (y66)
def y133 : List A → Option (Prop × List RV)
  | [.s [.b u47, .b u48, .b u49, .b u50, .b u51, .b u52, .i .i64 u53, .i .i64 u54, .i .i64 u55, .i .i64 u56, .i .i64 u57, .i .i64 u58, .i .i64 u59, .i .i64 u60, .i .i64 u61, .i .i64 u62, .i .i64 u63, .i .i64 u65]] => some (ok (y96 u47 u48 u49 u50 u51 u52 u53 u54 u55 u56 u57 u58 u59 u60 u61 u62 u63 u65), [.d (.s ((val (y96 u47 u48 u49 u50 u51 u52 u53 u54 u55 u56 u57 u58 u59 u60 u61 u62 u63 u65))))])
  | _ => none
abbrev sp_39 : Specs → Specs := addK 39 true (pureK k_G_FormatFigures y133)
private abbrev w11q0 (v0 : (Int × List ByteArray) × Nat) := ((6 : Nat) + Int.toNat v0.1.1 * (2 : Nat) + Field.offset (Field.mk "Lo" (3 : Nat) (0 : Nat) false "" "" (0 : Nat)))
private abbrev w11q1 (v0 : (Int × List ByteArray) × Nat) := ((6 : Nat) + Int.toNat v0.1.1 * (2 : Nat) + Field.offset (Field.mk "Hi" (3 : Nat) (1 : Nat) false "" "" (8 : Nat)))
set_option maxRecDepth 100000 in
theorem G_FormatFigures_vc (u47 : Bool) (u48 : Bool) (u49 : Bool) (u50 : Bool) (u51 : Bool) (u52 : Bool) (u53 : Int) (u54 : Int) (u55 : Int) (u56 : Int) (u57 : Int) (u58 : Int) (u59 : Int) (u60 : Int) (u61 : Int) (u62 : Int) (u63 : Int) (u65 : Int) (r : ByteArray) (h : Option.bind (y96 u47 u48 u49 u50 u51 u52 u53 u54 u55 u56 u57 u58 u59 u60 u61 u62 u63 u65) some = some r) : runF Tryd.f39 ((sp_72 (sp_73 sp0))) (fun gs id _ => match id with
 | 0 => some ⟨(Int × List ByteArray) × Nat, fun z => ⟨[(1, .w (.c (.p 1 (0 : Nat) 1 (0 : Nat)))), (3, .w (.c (.o 2))), (7, .w (.a [.d (.b u47), .d (.b u48), .d (.b u49), .d (.b u50), .d (.b u51), .d (.b u52)])), (8, .w (.c (.d (.i .i64 (Prod.fst (Prod.fst z))))))], [(1, .box 78 [.d (.b u47), .d (.b u48), .d (.b u49), .d (.b u50), .d (.b u51), .d (.b u52), .d (.i .i64 u53), .d (.i .i64 u54), .d (.i .i64 u55), .d (.i .i64 u56), .d (.i .i64 u57), .d (.i .i64 u58), .d (.i .i64 u59), .d (.i .i64 u60), .d (.i .i64 u61), .d (.i .i64 u62), .d (.i .i64 u63), .d (.i .i64 u65)]), (2, .row 9 (.strs (Prod.snd (Prod.fst z))))], 3⟩, fun z => Option.bind (iter (y65 u47 u48 u49 u50 u51 u52 u53 u54 u55 u56 u57 u58 u59 u60 u61 u62 u63 u65) (Prod.snd z) (Prod.fst z)) (fun y0 => Option.bind (y66 y0) some) = some r, fun z => Prod.snd z⟩
 | _ => none) [.s [.b u47, .b u48, .b u49, .b u50, .b u51, .b u52, .i .i64 u53, .i .i64 u54, .i .i64 u55, .i .i64 u56, .i .i64 u57, .i .i64 u58, .i .i64 u59, .i .i64 u60, .i .i64 u61, .i .i64 u62, .i .i64 u63, .i .i64 u65]] [.d (.s r)] := by
  refine Eq.mp (by kernel_rfl : (
  ((∃ (v0 : (Int × List ByteArray) × Nat), (Ob ((Option.bind (iter (y65 u47 u48 u49 u50 u51 u52 u53 u54 u55 u56 u57 u58 u59 u60 u61 u62 u63 u65) v0.2 v0.1) fun y0 => Option.bind (y66 y0) some) = some r) ∧
 (Ob ((0 : Nat) = (0 : Nat)) ∧
 (Ob (u47 = u47) ∧
 (Ob (u48 = u48) ∧
 (Ob (u49 = u49) ∧
 (Ob (u50 = u50) ∧
 (Ob (u51 = u51) ∧
 (Ob (u52 = u52) ∧
 (Ob ((0 : Int) = v0.1.1) ∧
 (Ob (u47 = u47) ∧
 (Ob (u48 = u48) ∧
 (Ob (u49 = u49) ∧
 (Ob (u50 = u50) ∧
 (Ob (u51 = u51) ∧
 (Ob (u52 = u52) ∧
 (Ob (u53 = u53) ∧
 (Ob (u54 = u54) ∧
 (Ob (u55 = u55) ∧
 (Ob (u56 = u56) ∧
 (Ob (u57 = u57) ∧
 (Ob (u58 = u58) ∧
 (Ob (u59 = u59) ∧
 (Ob (u60 = u60) ∧
 (Ob (u61 = u61) ∧
 (Ob (u62 = u62) ∧
 (Ob (u63 = u63) ∧
 (Ob (u65 = u65) ∧
 (Ob (List.length v0.1.2 = (0 : Nat)) ∧
 True))))))))))))))))))))))))))))) ∧
   (∀ (v0 : (Int × List ByteArray) × Nat), ((Option.bind (iter (y65 u47 u48 u49 u50 u51 u52 u53 u54 u55 u56 u57 u58 u59 u60 u61 u62 u63 u65) v0.2 v0.1) fun y0 => Option.bind (y66 y0) some) = some r →
 Br (decide (v0.1.1 < (6 : Int)))
   ((Ob (((0 : Int) ≤ v0.1.1 ∧ v0.1.1 < (↑(6 : Nat) : Int)) ∧ List.getD [true, true, true, true, true, true] (Int.toNat v0.1.1 * (1 : Nat)) false = true) ∧
 Br (!List.getD [u47, u48, u49, u50, u51, u52] (Int.toNat v0.1.1 * (1 : Nat)) false)
   ((Ob ((List.length v0.1.2 + List.length [ByteArray.mk #[(45 : UInt8)]]) * (16 : Nat) ≤ (140737488355328 : Nat) ∧ List.length v0.1.2 + List.length [ByteArray.mk #[(45 : UInt8)]] ≤ (9223372036854775807 : Nat)) ∧
   (∃ (v1 : (Int × List ByteArray) × Nat), (Ob ((Option.bind (iter (y65 u47 u48 u49 u50 u51 u52 u53 u54 u55 u56 u57 u58 u59 u60 u61 u62 u63 u65) v1.2 v1.1) fun y0 => Option.bind (y66 y0) some) = some r) ∧
 (Ob (v1.2 < v0.2) ∧
 (Ob ((0 : Nat) = (0 : Nat)) ∧
 (Ob (u47 = u47) ∧
 (Ob (u48 = u48) ∧
 (Ob (u49 = u49) ∧
 (Ob (u50 = u50) ∧
 (Ob (u51 = u51) ∧
 (Ob (u52 = u52) ∧
 (Ob (IntKind.wrap .i64 (v0.1.1 + (1 : Int)) = v1.1.1) ∧
 (Ob (u47 = u47) ∧
 (Ob (u48 = u48) ∧
 (Ob (u49 = u49) ∧
 (Ob (u50 = u50) ∧
 (Ob (u51 = u51) ∧
 (Ob (u52 = u52) ∧
 (Ob (u53 = u53) ∧
 (Ob (u54 = u54) ∧
 (Ob (u55 = u55) ∧
 (Ob (u56 = u56) ∧
 (Ob (u57 = u57) ∧
 (Ob (u58 = u58) ∧
 (Ob (u59 = u59) ∧
 (Ob (u60 = u60) ∧
 (Ob (u61 = u61) ∧
 (Ob (u62 = u62) ∧
 (Ob (u63 = u63) ∧
 (Ob (u65 = u65) ∧
 (Ob (v0.1.2 ++ [ByteArray.mk #[(45 : UInt8)]] = v1.1.2) ∧
 True))))))))))))))))))))))))))))))))
   ((Ob ((0 : Int) ≤ v0.1.1 ∧ v0.1.1 < (↑(6 : Nat) : Int)) ∧
 (Ob (List.getD [false, false, false, false, false, false, true, true, true, true, true, true, true, true, true, true, true, true] (w11q0 v0) false = true) ∧
 (Ob (ok (strconv_Itoa (List.getD [(0 : Int), (0 : Int), (0 : Int), (0 : Int), (0 : Int), (0 : Int), u53, u54, u55, u56, u57, u58, u59, u60, u61, u62, u63, u65] (w11q0 v0) (0 : Int)))) ∧
 (Ob ((0 : Int) ≤ v0.1.1 ∧ v0.1.1 < (↑(6 : Nat) : Int)) ∧
 (Ob (List.getD [false, false, false, false, false, false, true, true, true, true, true, true, true, true, true, true, true, true] (w11q1 v0) false = true) ∧
 (Ob (ok (strconv_Itoa (List.getD [(0 : Int), (0 : Int), (0 : Int), (0 : Int), (0 : Int), (0 : Int), u53, u54, u55, u56, u57, u58, u59, u60, u61, u62, u63, u65] (w11q1 v0) (0 : Int)))) ∧
 (Ob ((List.length v0.1.2 + List.length [val (strconv_Itoa (List.getD [(0 : Int), (0 : Int), (0 : Int), (0 : Int), (0 : Int), (0 : Int), u53, u54, u55, u56, u57, u58, u59, u60, u61, u62, u63, u65] (w11q0 v0) (0 : Int))), val (strconv_Itoa (List.getD [(0 : Int), (0 : Int), (0 : Int), (0 : Int), (0 : Int), (0 : Int), u53, u54, u55, u56, u57, u58, u59, u60, u61, u62, u63, u65] (w11q1 v0) (0 : Int)))]) * (16 : Nat) ≤ (140737488355328 : Nat) ∧ List.length v0.1.2 + List.length [val (strconv_Itoa (List.getD [(0 : Int), (0 : Int), (0 : Int), (0 : Int), (0 : Int), (0 : Int), u53, u54, u55, u56, u57, u58, u59, u60, u61, u62, u63, u65] (w11q0 v0) (0 : Int))), val (strconv_Itoa (List.getD [(0 : Int), (0 : Int), (0 : Int), (0 : Int), (0 : Int), (0 : Int), u53, u54, u55, u56, u57, u58, u59, u60, u61, u62, u63, u65] (w11q1 v0) (0 : Int)))] ≤ (9223372036854775807 : Nat)) ∧
   (∃ (v1 : (Int × List ByteArray) × Nat), (Ob ((Option.bind (iter (y65 u47 u48 u49 u50 u51 u52 u53 u54 u55 u56 u57 u58 u59 u60 u61 u62 u63 u65) v1.2 v1.1) fun y0 => Option.bind (y66 y0) some) = some r) ∧
 (Ob (v1.2 < v0.2) ∧
 (Ob ((0 : Nat) = (0 : Nat)) ∧
 (Ob (u47 = u47) ∧
 (Ob (u48 = u48) ∧
 (Ob (u49 = u49) ∧
 (Ob (u50 = u50) ∧
 (Ob (u51 = u51) ∧
 (Ob (u52 = u52) ∧
 (Ob (IntKind.wrap .i64 (v0.1.1 + (1 : Int)) = v1.1.1) ∧
 (Ob (u47 = u47) ∧
 (Ob (u48 = u48) ∧
 (Ob (u49 = u49) ∧
 (Ob (u50 = u50) ∧
 (Ob (u51 = u51) ∧
 (Ob (u52 = u52) ∧
 (Ob (u53 = u53) ∧
 (Ob (u54 = u54) ∧
 (Ob (u55 = u55) ∧
 (Ob (u56 = u56) ∧
 (Ob (u57 = u57) ∧
 (Ob (u58 = u58) ∧
 (Ob (u59 = u59) ∧
 (Ob (u60 = u60) ∧
 (Ob (u61 = u61) ∧
 (Ob (u62 = u62) ∧
 (Ob (u63 = u63) ∧
 (Ob (u65 = u65) ∧
 (Ob (v0.1.2 ++ [val (strconv_Itoa (List.getD [(0 : Int), (0 : Int), (0 : Int), (0 : Int), (0 : Int), (0 : Int), u53, u54, u55, u56, u57, u58, u59, u60, u61, u62, u63, u65] (w11q0 v0) (0 : Int))), val (strconv_Itoa (List.getD [(0 : Int), (0 : Int), (0 : Int), (0 : Int), (0 : Int), (0 : Int), u53, u54, u55, u56, u57, u58, u59, u60, u61, u62, u63, u65] (w11q1 v0) (0 : Int)))] = v1.1.2) ∧
 True))))))))))))))))))))))))))))))))))))))))
   ((Ob (ok (strings_Join v0.1.2 (ByteArray.mk #[(32 : UInt8)]))) ∧
 (Ob (True) ∧
 (Ob (val (strings_Join v0.1.2 (ByteArray.mk #[(32 : UInt8)])) = r) ∧
 True)))))))) = _) ?_
  refine ⟨⟨(((0 : Int), []), big), ⟨loop_s h⟩, (by repeat' constructor)⟩, fun z3 hz3 => ?_⟩
  obtain ⟨k3, hm3, h⟩ := iter_pos hz3
  refine br_d h (fun h => ?_) (fun h => ?_)
  · refine ob_s h fun h => ?_
    refine br_b h (fun h => ?_) (fun h => ?_)
    · refine ob_s h fun h => ?_
      exact ⟨((IntKind.wrap .i64 ((Prod.fst z3).1 + (1 : Int)), (Prod.fst z3).2 ++ [ByteArray.mk #[(45 : UInt8)]]), k3), ⟨next_s h⟩, ⟨lt_gs hm3.symm⟩, (by repeat' constructor)⟩
    · refine ob_s h fun h => ?_
      refine ob_s h fun h => ?_
      refine call_s h fun h => ?_
      refine ob_s h fun h => ?_
      refine ob_s h fun h => ?_
      refine call_s h fun h => ?_
      refine ob_s h fun h => ?_
      exact ⟨((IntKind.wrap .i64 ((Prod.fst z3).1 + (1 : Int)), (Prod.fst z3).2 ++ [val (strconv_Itoa (List.getD [(0 : Int), (0 : Int), (0 : Int), (0 : Int), (0 : Int), (0 : Int), u53, u54, u55, u56, u57, u58, u59, u60, u61, u62, u63, u65] ((6 : Nat) + Int.toNat (Prod.fst z3).1 * (2 : Nat) + Field.offset (Field.mk "Lo" (3 : Nat) (0 : Nat) false "" "" (0 : Nat))) (0 : Int))), val (strconv_Itoa (List.getD [(0 : Int), (0 : Int), (0 : Int), (0 : Int), (0 : Int), (0 : Int), u53, u54, u55, u56, u57, u58, u59, u60, u61, u62, u63, u65] ((6 : Nat) + Int.toNat (Prod.fst z3).1 * (2 : Nat) + Field.offset (Field.mk "Hi" (3 : Nat) (1 : Nat) false "" "" (8 : Nat))) (0 : Int)))]), k3), ⟨next_s h⟩, ⟨lt_gs hm3.symm⟩, (by repeat' constructor)⟩
  · have h := exit_s h
    refine call_s h fun h => ?_
    refine ob_t ?_
    exact ret_s h (fun e => by subst e; exact (by repeat' constructor))
set_option maxRecDepth 100000 in
theorem G_FormatFigures_ok : SpecOK Tryd.prog 39 true (pureK k_G_FormatFigures y133) := by
  refine pureK_ok (sp := (sp_72 (sp_73 sp0))) (fn := Tryd.f39) (body := bodyOf Tryd.f39) mixed (sp_72_ok (sp_73_ok sp0_ok)) Tryd.func39 (by kernel_rfl) (by kernel_rfl) fun as_ ob rs h ho => ?_
  unfold y133 at h
  split at h
  · rename_i u47 u48 u49 u50 u51 u52 u53 u54 u55 u56 u57 u58 u59 u60 u61 u62 u63 u65
    cases h
    exact ⟨Nat.le_of_ble_eq_true rfl, _, _, G_FormatFigures_vc u47 u48 u49 u50 u51 u52 u53 u54 u55 u56 u57 u58 u59 u60 u61 u62 u63 u65 _ (ok_some ho)⟩
  · cases h
theorem sp_39_ok {sp : Specs} (h : SpecsOK Tryd.prog sp) : SpecsOK Tryd.prog (sp_39 sp) := addK_ok G_FormatFigures_ok h
end Go.Sh
end

section
namespace Go.Sh
open Go Go.Proofs Go.RowKit Go.Sx
set_option linter.unusedVariables false
def freeR : Int := 8000
def freeS : List Nat := [1090519040, 1082130432, 1073741824, 1065353216, 0]
def g_five (fr : Int) (fs : List Nat) : List Lf → Option GT
  | [] => some (.leaf True [.s [.d (.i .i64 fr), .row 54 (.floats .f32 fs)]])
  | _ => none
abbrev sp_35v (fr : Int) (fs : List Nat) : Specs → Specs := addK 35 true (pureT k_L05_Five (g_five fr fs))
set_option maxRecDepth 100000 in
theorem five_ok : SpecOK Tryd.prog 35 true (pureT k_L05_Five (g_five freeR freeS)) := by
  refine pureT_ok (sp := sp0) (fn := Tryd.f35) (body := bodyOf Tryd.f35) mixed sp0_ok Tryd.func35 (by kernel_rfl) (by kernel_rfl) fun ls t h ho b hb => ?_
  unfold g_five at h
  split at h
  · cases h
    obtain rfl := bld_eq hb
    exact ⟨Nat.le_of_ble_eq_true (by kernel_rfl), _, _, L05_Five_vc (freeR, freeS) rfl⟩
  · cases h
theorem sp_35v_ok {sp : Specs} (h : SpecsOK Tryd.prog sp) : SpecsOK Tryd.prog (sp_35v freeR freeS sp) := addK_ok five_ok h
end Go.Sh
end

section
namespace Go.Sh
open Go Go.Proofs Go.RowKit Go.Sx
set_option linter.unusedVariables false
def k_L05_awake : List (Option Cont) := []
def L05_awake (fr : Int) (fs : List Nat) : Option Bool :=
  Option.bind (G_Sums fr fs) fun r0 =>
  Option.bind (y93 fr fs (1 : Int)) fun r1 =>
  Option.bind (y48 fr fs (0 : Int) (0 : Int) (125 : Int)) fun r2 =>
  Option.bind (y105 fr fs (1 : Int)) fun r3 =>
  Option.bind (y18 fr fs (0 : Int) (0 : Int)) fun r4 =>
  if (r0.2 == (0 : Int)) = true then
   Option.bind (B_Ints r0.1 [(85 : Int), (21 : Int), (5 : Int), (1 : Int), (0 : Int)]) fun r5 =>
   if (r5) = true then
    if (r1.2.2 == (0 : Int)) = true then
     if (r1.1 == (750 : Int) && r1.2.1 == (1500 : Int)) = true then
      if (r2.2.2 == (0 : Int)) = true then
       if (r2.1 == (4 : Int) && r2.2.1 == (5 : Int)) = true then
        if (r3.2.2 == (0 : Int)) = true then
         if (r3.1 == (9 : Int) && r3.2.1 == (17 : Int)) = true then
          if (r4.2.2.2.2.2.2.2.2.2.2.2.2.2.2.2.2.2.2 == (0 : Int)) = true then
           Option.bind (y96 r4.1 r4.2.1 r4.2.2.1 r4.2.2.2.1 r4.2.2.2.2.1 r4.2.2.2.2.2.1 r4.2.2.2.2.2.2.1 r4.2.2.2.2.2.2.2.1 r4.2.2.2.2.2.2.2.2.1 r4.2.2.2.2.2.2.2.2.2.1 r4.2.2.2.2.2.2.2.2.2.2.1 r4.2.2.2.2.2.2.2.2.2.2.2.1 r4.2.2.2.2.2.2.2.2.2.2.2.2.1 r4.2.2.2.2.2.2.2.2.2.2.2.2.2.1 r4.2.2.2.2.2.2.2.2.2.2.2.2.2.2.1 r4.2.2.2.2.2.2.2.2.2.2.2.2.2.2.2.1 r4.2.2.2.2.2.2.2.2.2.2.2.2.2.2.2.2.1 r4.2.2.2.2.2.2.2.2.2.2.2.2.2.2.2.2.2.1) fun r6 =>
           some (r6 == ByteArray.mk #[(55 : UInt8), (53 : UInt8), (48 : UInt8), (32 : UInt8), (49 : UInt8), (53 : UInt8), (48 : UInt8), (48 : UInt8), (32 : UInt8), (55 : UInt8), (53 : UInt8), (48 : UInt8), (32 : UInt8), (49 : UInt8), (53 : UInt8), (48 : UInt8), (48 : UInt8), (32 : UInt8), (53 : UInt8), (48 : UInt8), (48 : UInt8), (32 : UInt8), (49 : UInt8), (48 : UInt8), (48 : UInt8), (48 : UInt8), (32 : UInt8), (45 : UInt8), (32 : UInt8), (49 : UInt8), (48 : UInt8), (48 : UInt8), (48 : UInt8), (32 : UInt8), (49 : UInt8), (48 : UInt8), (48 : UInt8), (48 : UInt8), (32 : UInt8), (51 : UInt8), (57 : UInt8), (32 : UInt8), (52 : UInt8), (48 : UInt8)])
          else
           some false
         else
          some false
        else
         some false
       else
        some false
      else
       some false
     else
      some false
    else
     some false
   else
    some false
  else
   some false
set_option maxRecDepth 100000 in
def L05_awake_t (fr : Int) (fs : List Nat) : T (Bool) :=
 .obT
  (.call (G_Sums fr fs) fun r0 =>
  .obT
  (.call (y93 fr fs (1 : Int)) fun r1 =>
  .obT
  (.call (y48 fr fs (0 : Int) (0 : Int) (125 : Int)) fun r2 =>
  .obT
  (.call (y105 fr fs (1 : Int)) fun r3 =>
  .obT
  (.call (y18 fr fs (0 : Int) (0 : Int)) fun r4 =>
  .brB (r0.2 == (0 : Int))
  (.call (B_Ints r0.1 [(85 : Int), (21 : Int), (5 : Int), (1 : Int), (0 : Int)]) fun r5 =>
  .brB (r5)
  (.brB (r1.2.2 == (0 : Int))
  (.brB (r1.1 == (750 : Int) && r1.2.1 == (1500 : Int))
  (.brB (r2.2.2 == (0 : Int))
  (.brB (r2.1 == (4 : Int) && r2.2.1 == (5 : Int))
  (.brB (r3.2.2 == (0 : Int))
  (.brB (r3.1 == (9 : Int) && r3.2.1 == (17 : Int))
  (.brB (r4.2.2.2.2.2.2.2.2.2.2.2.2.2.2.2.2.2.2 == (0 : Int))
  (.call (y96 r4.1 r4.2.1 r4.2.2.1 r4.2.2.2.1 r4.2.2.2.2.1 r4.2.2.2.2.2.1 r4.2.2.2.2.2.2.1 r4.2.2.2.2.2.2.2.1 r4.2.2.2.2.2.2.2.2.1 r4.2.2.2.2.2.2.2.2.2.1 r4.2.2.2.2.2.2.2.2.2.2.1 r4.2.2.2.2.2.2.2.2.2.2.2.1 r4.2.2.2.2.2.2.2.2.2.2.2.2.1 r4.2.2.2.2.2.2.2.2.2.2.2.2.2.1 r4.2.2.2.2.2.2.2.2.2.2.2.2.2.2.1 r4.2.2.2.2.2.2.2.2.2.2.2.2.2.2.2.1 r4.2.2.2.2.2.2.2.2.2.2.2.2.2.2.2.2.1 r4.2.2.2.2.2.2.2.2.2.2.2.2.2.2.2.2.2.1) fun r6 =>
  .obT
  (.rc ((r6 == ByteArray.mk #[(55 : UInt8), (53 : UInt8), (48 : UInt8), (32 : UInt8), (49 : UInt8), (53 : UInt8), (48 : UInt8), (48 : UInt8), (32 : UInt8), (55 : UInt8), (53 : UInt8), (48 : UInt8), (32 : UInt8), (49 : UInt8), (53 : UInt8), (48 : UInt8), (48 : UInt8), (32 : UInt8), (53 : UInt8), (48 : UInt8), (48 : UInt8), (32 : UInt8), (49 : UInt8), (48 : UInt8), (48 : UInt8), (48 : UInt8), (32 : UInt8), (45 : UInt8), (32 : UInt8), (49 : UInt8), (48 : UInt8), (48 : UInt8), (48 : UInt8), (32 : UInt8), (49 : UInt8), (48 : UInt8), (48 : UInt8), (48 : UInt8), (32 : UInt8), (51 : UInt8), (57 : UInt8), (32 : UInt8), (52 : UInt8), (48 : UInt8)]))))
  (.obT
  (.rc (false))))
  (.obT
  (.rc (false))))
  (.obT
  (.rc (false))))
  (.obT
  (.rc (false))))
  (.obT
  (.rc (false))))
  (.obT
  (.rc (false))))
  (.obT
  (.rc (false))))
  (.obT
  (.rc (false))))
  (.obT
  (.rc (false))))))))
set_option maxRecDepth 100000 in
theorem L05_awake_vc (fr : Int) (fs : List Nat) (r : Bool) (h : Option.bind (L05_awake fr fs) some = some r) : runF Tryd.f8 ((sp_34 (sp_24 (sp_27 (sp_36 (sp_35v fr fs (sp_37 (sp_38 (sp_39 sp0))))))))) (fun _ _ _ => none) [] [.d (.b r)] :=
  T.vc (t := L05_awake_t fr fs) (by kernel_rfl) (by kernel_rfl) h
end Go.Sh
end

section
namespace Go.Sh
open Go Go.Proofs Go.RowKit Go.Sx
set_option maxRecDepth 100000
set_option maxHeartbeats 4000000
theorem awake_eq : L05_awake freeR freeS = some true := by kernel_rfl
end Go.Sh
end

section
namespace Go.Sh
open Go Go.Proofs Go.RowKit Go.Sx
set_option maxRecDepth 100000
def g_awake : List A → Option (Prop × List RV)
  | [] => some (True, [.d (.b true)])
  | _ => none
abbrev sp_8b : Specs → Specs := addK 8 true (pureK k_L05_awake g_awake)
theorem awakeT_ok : SpecOK Tryd.prog 8 true (pureK k_L05_awake g_awake) := by
  refine pureK_ok (sp := (sp_34 (sp_24 (sp_27 (sp_36 (sp_35v freeR freeS (sp_37 (sp_38 (sp_39 sp0))))))))) (fn := Tryd.f8) (body := bodyOf Tryd.f8) mixed (sp_34_ok (sp_24_ok (sp_27_ok (sp_36_ok (sp_35v_ok (sp_37_ok (sp_38_ok (sp_39_ok sp0_ok)))))))) Tryd.func8 (by kernel_rfl) (by kernel_rfl) fun as_ ob rs h ho => ?_
  unfold g_awake at h
  split at h
  · cases h
    exact ⟨Nat.le_of_ble_eq_true rfl, _, _, L05_awake_vc freeR freeS true (by rw [awake_eq]; rfl)⟩
  · cases h
theorem sp_8b_ok {sp : Specs} (h : SpecsOK Tryd.prog sp) : SpecsOK Tryd.prog (sp_8b sp) := addK_ok awakeT_ok h
end Go.Sh
end

section
namespace Go.Sh
open Go Go.Proofs Go.RowKit Go.Sx
set_option linter.unusedVariables false
def k_L05_meets : List (Option Cont) := [none, none]
def y24 (aLo : Int) (aHi : Int) (bLo : Int) (bHi : Int) : Option Bool :=
  some (decide ((if bLo > aLo then bLo else aLo) ≤ if bHi < aHi then bHi else aHi))
def g_L05_meets : List A → Option (Prop × List RV)
  | [.s [.i .i64 aLo, .i .i64 aHi], .s [.i .i64 bLo, .i .i64 bHi]] => some (ok (y24 aLo aHi bLo bHi), [.d (.b ((val (y24 aLo aHi bLo bHi))))])
  | _ => none
abbrev sp_26 : Specs → Specs := addK 26 true (pureK k_L05_meets g_L05_meets)
set_option maxRecDepth 100000 in
def L05_meets_t (aLo : Int) (aHi : Int) (bLo : Int) (bHi : Int) : T (Bool) :=
 .obT
  (.rc ((decide ((if bLo > aLo then bLo else aLo) ≤ if bHi < aHi then bHi else aHi))))
set_option maxRecDepth 100000 in
theorem L05_meets_vc (aLo : Int) (aHi : Int) (bLo : Int) (bHi : Int) (r : Bool) (h : Option.bind (y24 aLo aHi bLo bHi) some = some r) : runF Tryd.f26 (sp0) (fun _ _ _ => none) [.s [.i .i64 aLo, .i .i64 aHi], .s [.i .i64 bLo, .i .i64 bHi]] [.d (.b r)] :=
  T.vc (t := L05_meets_t aLo aHi bLo bHi) (by kernel_rfl) (by kernel_rfl) h
set_option maxRecDepth 100000 in
theorem L05_meets_ok : SpecOK Tryd.prog 26 true (pureK k_L05_meets g_L05_meets) := by
  refine pureK_ok (sp := sp0) (fn := Tryd.f26) (body := bodyOf Tryd.f26) mixed sp0_ok Tryd.func26 (by kernel_rfl) (by kernel_rfl) fun as_ ob rs h ho => ?_
  unfold g_L05_meets at h
  split at h
  · rename_i aLo aHi bLo bHi
    cases h
    exact ⟨Nat.le_of_ble_eq_true rfl, _, _, L05_meets_vc aLo aHi bLo bHi _ (ok_some ho)⟩
  · cases h
theorem sp_26_ok {sp : Specs} (h : SpecsOK Tryd.prog sp) : SpecsOK Tryd.prog (sp_26 sp) := addK_ok L05_meets_ok h
end Go.Sh
end

section
namespace Go.Sh
open Go Go.Proofs Go.RowKit Go.Sx
set_option linter.unusedVariables false
private theorem rtc {a r : Bool} (h : Option.bind (some a) some = some r) : Ob True ∧ Ob (a = r) ∧ True := ⟨⟨trivial⟩, ⟨Option.some.inj h⟩, trivial⟩
def k_L05_FigureWithin : List SV := [.a [.d, .r (.floats .f32 []), .d, .d], .a [.r (.ints .i64 []), .r (.ints .i64 [])], .c (.d)]
def L05_FigureWithin_b0 (u0 : Int) (wBy : List Int) (x0 : (Int × List Nat)) : Option ((Int × List Nat) ⊕ (Unit ⊕ (List Nat))) :=
  if x0.1 < (↑(List.length x0.2) : Int) then
   if x0.1 < (↑(List.length wBy) : Int) then
    if (0 : Int) ≤ x0.1 ∧ x0.1 < (↑(List.length wBy) : Int) then
     if Int.toNat x0.1 < List.length wBy then
      Option.bind (y38 (List.getD wBy (Int.toNat x0.1) (0 : Int)) (IntKind.wrap .i64 ((0 : Int) - u0)) u0) fun r4 =>
      if (!r4) = true then
       some (.inr ((.inl ())))
      else
       if (0 : Int) ≤ x0.1 ∧ x0.1 < (↑(List.length x0.2) : Int) then
        if Int.toNat x0.1 < List.length x0.2 then
         if (0 : Int) ≤ x0.1 ∧ x0.1 < (↑(List.length wBy) : Int) then
          if Int.toNat x0.1 < List.length wBy then
           if Option.isSome (Ieee.Format.add (FloatKind.format .f32) (List.getD x0.2 (Int.toNat x0.1) (0 : Nat)) (FloatKind.nearest .f32 (List.getD wBy (Int.toNat x0.1) (0 : Int)))) = true then
            if (0 : Int) ≤ x0.1 ∧ x0.1 < (↑(List.length x0.2) : Int) then
             if Int.toNat x0.1 < List.length x0.2 then
              some (.inl ((IntKind.wrap .i64 (x0.1 + (1 : Int)), List.set x0.2 (Int.toNat x0.1) (Option.getD (Ieee.Format.add (FloatKind.format .f32) (List.getD x0.2 (Int.toNat x0.1) (0 : Nat)) (FloatKind.nearest .f32 (List.getD wBy (Int.toNat x0.1) (0 : Int)))) (0 : Nat)))))
             else none
            else none
           else none
          else none
         else none
        else none
       else none
     else none
    else none
   else
    some (.inr (.inr x0.2))
  else
   some (.inr (.inr x0.2))
def L05_FigureWithin_r0_0 (u4 : Int) (u5 : List Nat) (u0 : Int) (u6 : Int) (u24 : List Int) (u7 : Int) (r3 : Int × List Nat) (u17 : Unit) : Option Bool :=
  some true
def L05_FigureWithin_b1 (u24 : List Int) (x1 : (Int × Int × List Nat)) : Option ((Int × Int × List Nat) ⊕ (Unit ⊕ (Int × List Nat))) :=
  if x1.2.1 < (↑(List.length u24) : Int) then
   if (0 : Int) ≤ x1.2.1 ∧ x1.2.1 < (↑(List.length u24) : Int) then
    if Int.toNat x1.2.1 < List.length u24 then
     Option.bind (y38 (List.getD u24 (Int.toNat x1.2.1) (0 : Int)) (-32767 : Int) (32767 : Int)) fun r5 =>
     if (!r5) = true then
      some (.inr ((.inl ())))
     else
      if (0 : Int) ≤ x1.2.1 ∧ x1.2.1 < (↑(List.length u24) : Int) then
       if Int.toNat x1.2.1 < List.length u24 then
        if (0 : Int) ≤ x1.2.1 ∧ x1.2.1 < (↑(List.length u24) : Int) then
         if Int.toNat x1.2.1 < List.length u24 then
          if (0 : Int) ≤ x1.2.1 ∧ x1.2.1 < (↑(List.length u24) : Int) then
           if Int.toNat x1.2.1 < List.length u24 then
            if (List.length x1.2.2 + List.length [FloatKind.nearest .f32 (List.getD u24 (Int.toNat x1.2.1) (0 : Int))]) * (4 : Nat) ≤ (140737488355328 : Nat) ∧ List.length x1.2.2 + List.length [FloatKind.nearest .f32 (List.getD u24 (Int.toNat x1.2.1) (0 : Int))] ≤ (9223372036854775807 : Nat) then
             some (.inl ((IntKind.wrap .i64 (x1.1 + IntKind.wrap .i64 (List.getD u24 (Int.toNat x1.2.1) (0 : Int) * List.getD u24 (Int.toNat x1.2.1) (0 : Int))), IntKind.wrap .i64 (x1.2.1 + (1 : Int)), x1.2.2 ++ [FloatKind.nearest .f32 (List.getD u24 (Int.toNat x1.2.1) (0 : Int))])))
            else none
           else none
          else none
         else none
        else none
       else none
      else none
    else none
   else none
  else
   some (.inr ((.inr (x1.1, x1.2.2))))
def L05_FigureWithin_r1_0 (u4 : Int) (u5 : List Nat) (u0 : Int) (u6 : Int) (u24 : List Int) (u7 : Int) (r3 : Int × List Nat) (u45 : Unit) : Option Bool :=
  some true
def L05_FigureWithin_b2 (u4 : Int) (u5 : List Nat) (u0 : Int) (u6 : Int) (u38 : Int × List Nat) (r3 : Int × List Nat) (x2 : Int) : Option (Int ⊕ (Unit ⊕ Unit)) :=
  if x2 ≤ (2 : Int) then
   Option.bind (y4 r3.1 u38.2) fun r7 =>
   Option.bind (y93 r7.1 r7.2 x2) fun r8 =>
   Option.bind (y3 u4 u5 u0 u6) fun r9 =>
   Option.bind (y32 r9.1 r9.2.1 r9.2.2.1 r9.2.2.2 x2) fun r10 =>
   if (r10.2.2 == (0 : Int)) = true then
    if (r8.2.2 != (0 : Int)) = true then
     some (.inr ((.inl ())))
    else
     Option.bind (y24 r8.1 r8.2.1 r10.1 r10.2.1) fun r11 =>
     if (!r11) = true then
      some (.inr ((.inl ())))
     else
      some (.inl (IntKind.wrap .i64 (x2 + (1 : Int))))
   else
    some (.inl (IntKind.wrap .i64 (x2 + (1 : Int))))
  else
   some (.inr ((.inr ())))
def L05_FigureWithin_r2_0 (u4 : Int) (u5 : List Nat) (u0 : Int) (u6 : Int) (u24 : List Int) (u7 : Int) (u38 : Int × List Nat) (r3 : Int × List Nat) (u70 : Unit) : Option Bool :=
  some false
def L05_FigureWithin_r2_1 (u4 : Int) (u5 : List Nat) (u0 : Int) (u6 : Int) (u24 : List Int) (u7 : Int) (u38 : Int × List Nat) (r3 : Int × List Nat) (u71 : Unit) : Option Bool :=
  Option.bind (y3 r3.1 u38.2 (0 : Int) (0 : Int)) fun r12 =>
  Option.bind (y48 r12.1 r12.2.1 r12.2.2.1 r12.2.2.2 u7) fun r13 =>
  Option.bind (y3 u4 u5 u0 u6) fun r9 =>
  Option.bind (y48 r9.1 r9.2.1 r9.2.2.1 r9.2.2.2 u7) fun r14 =>
  if (r13.2.2 == (0 : Int)) = true then
   if (r14.2.2 == (0 : Int)) = true then
    Option.bind (y24 r13.1 r13.2.1 r14.1 r14.2.1) fun r15 =>
    if (!r15) = true then
     some false
    else
     Option.bind (y3 r3.1 u38.2 (0 : Int) (0 : Int)) fun r16 =>
     Option.bind (y7 r12.1 r12.2.1 r12.2.2.1 r12.2.2.2 u7) fun r17 =>
     Option.bind (y3 u4 u5 u0 u6) fun r18 =>
     Option.bind (y7 r9.1 r9.2.1 r9.2.2.1 r9.2.2.2 u7) fun r19 =>
     if (r17.2.2 == (0 : Int)) = true then
      if (r19.2.2 == (0 : Int)) = true then
       Option.bind (y24 r17.1 r17.2.1 r19.1 r19.2.1) fun r20 =>
       if (!r20) = true then
        some false
       else
        Option.bind (y3 r3.1 u38.2 (0 : Int) (0 : Int)) fun r21 =>
        Option.bind (y20 r12.1 r12.2.1 r12.2.2.1 r12.2.2.2) fun r22 =>
        Option.bind (y3 u4 u5 u0 u6) fun r23 =>
        Option.bind (y20 r9.1 r9.2.1 r9.2.2.1 r9.2.2.2) fun r24 =>
        if (r22.2.2 != (0 : Int)) = true then
         some true
        else
         if (r24.2.2 != (0 : Int)) = true then
          some true
         else
          if (↑(List.length u24) : Int) > (0 : Int) then
           some true
          else
           Option.bind (y24 r22.1 r22.2.1 r24.1 r24.2.1) fun r25 =>
           some r25
      else
       Option.bind (y3 r3.1 u38.2 (0 : Int) (0 : Int)) fun r21 =>
       Option.bind (y20 r12.1 r12.2.1 r12.2.2.1 r12.2.2.2) fun r22 =>
       Option.bind (y3 u4 u5 u0 u6) fun r23 =>
       Option.bind (y20 r9.1 r9.2.1 r9.2.2.1 r9.2.2.2) fun r24 =>
       if (r22.2.2 != (0 : Int)) = true then
        some true
       else
        if (r24.2.2 != (0 : Int)) = true then
         some true
        else
         if (↑(List.length u24) : Int) > (0 : Int) then
          some true
         else
          Option.bind (y24 r22.1 r22.2.1 r24.1 r24.2.1) fun r25 =>
          some r25
     else
      Option.bind (y3 r3.1 u38.2 (0 : Int) (0 : Int)) fun r21 =>
      Option.bind (y20 r12.1 r12.2.1 r12.2.2.1 r12.2.2.2) fun r22 =>
      Option.bind (y3 u4 u5 u0 u6) fun r23 =>
      Option.bind (y20 r9.1 r9.2.1 r9.2.2.1 r9.2.2.2) fun r24 =>
      if (r22.2.2 != (0 : Int)) = true then
       some true
      else
       if (r24.2.2 != (0 : Int)) = true then
        some true
       else
        if (↑(List.length u24) : Int) > (0 : Int) then
         some true
        else
         Option.bind (y24 r22.1 r22.2.1 r24.1 r24.2.1) fun r25 =>
         some r25
   else
    Option.bind (y3 r3.1 u38.2 (0 : Int) (0 : Int)) fun r16 =>
    Option.bind (y7 r12.1 r12.2.1 r12.2.2.1 r12.2.2.2 u7) fun r17 =>
    Option.bind (y3 u4 u5 u0 u6) fun r18 =>
    Option.bind (y7 r9.1 r9.2.1 r9.2.2.1 r9.2.2.2 u7) fun r19 =>
    if (r17.2.2 == (0 : Int)) = true then
     if (r19.2.2 == (0 : Int)) = true then
      Option.bind (y24 r17.1 r17.2.1 r19.1 r19.2.1) fun r20 =>
      if (!r20) = true then
       some false
      else
       Option.bind (y3 r3.1 u38.2 (0 : Int) (0 : Int)) fun r21 =>
       Option.bind (y20 r12.1 r12.2.1 r12.2.2.1 r12.2.2.2) fun r22 =>
       Option.bind (y3 u4 u5 u0 u6) fun r23 =>
       Option.bind (y20 r9.1 r9.2.1 r9.2.2.1 r9.2.2.2) fun r24 =>
       if (r22.2.2 != (0 : Int)) = true then
        some true
       else
        if (r24.2.2 != (0 : Int)) = true then
         some true
        else
         if (↑(List.length u24) : Int) > (0 : Int) then
          some true
         else
          Option.bind (y24 r22.1 r22.2.1 r24.1 r24.2.1) fun r25 =>
          some r25
     else
      Option.bind (y3 r3.1 u38.2 (0 : Int) (0 : Int)) fun r21 =>
      Option.bind (y20 r12.1 r12.2.1 r12.2.2.1 r12.2.2.2) fun r22 =>
      Option.bind (y3 u4 u5 u0 u6) fun r23 =>
      Option.bind (y20 r9.1 r9.2.1 r9.2.2.1 r9.2.2.2) fun r24 =>
      if (r22.2.2 != (0 : Int)) = true then
       some true
      else
       if (r24.2.2 != (0 : Int)) = true then
        some true
       else
        if (↑(List.length u24) : Int) > (0 : Int) then
         some true
        else
         Option.bind (y24 r22.1 r22.2.1 r24.1 r24.2.1) fun r25 =>
         some r25
    else
     Option.bind (y3 r3.1 u38.2 (0 : Int) (0 : Int)) fun r21 =>
     Option.bind (y20 r12.1 r12.2.1 r12.2.2.1 r12.2.2.2) fun r22 =>
     Option.bind (y3 u4 u5 u0 u6) fun r23 =>
     Option.bind (y20 r9.1 r9.2.1 r9.2.2.1 r9.2.2.2) fun r24 =>
     if (r22.2.2 != (0 : Int)) = true then
      some true
     else
      if (r24.2.2 != (0 : Int)) = true then
       some true
      else
       if (↑(List.length u24) : Int) > (0 : Int) then
        some true
       else
        Option.bind (y24 r22.1 r22.2.1 r24.1 r24.2.1) fun r25 =>
        some r25
  else
   Option.bind (y3 r3.1 u38.2 (0 : Int) (0 : Int)) fun r16 =>
   Option.bind (y7 r12.1 r12.2.1 r12.2.2.1 r12.2.2.2 u7) fun r17 =>
   Option.bind (y3 u4 u5 u0 u6) fun r18 =>
   Option.bind (y7 r9.1 r9.2.1 r9.2.2.1 r9.2.2.2 u7) fun r19 =>
   if (r17.2.2 == (0 : Int)) = true then
    if (r19.2.2 == (0 : Int)) = true then
     Option.bind (y24 r17.1 r17.2.1 r19.1 r19.2.1) fun r20 =>
     if (!r20) = true then
      some false
     else
      Option.bind (y3 r3.1 u38.2 (0 : Int) (0 : Int)) fun r21 =>
      Option.bind (y20 r12.1 r12.2.1 r12.2.2.1 r12.2.2.2) fun r22 =>
      Option.bind (y3 u4 u5 u0 u6) fun r23 =>
      Option.bind (y20 r9.1 r9.2.1 r9.2.2.1 r9.2.2.2) fun r24 =>
      if (r22.2.2 != (0 : Int)) = true then
       some true
      else
       if (r24.2.2 != (0 : Int)) = true then
        some true
       else
        if (↑(List.length u24) : Int) > (0 : Int) then
         some true
        else
         Option.bind (y24 r22.1 r22.2.1 r24.1 r24.2.1) fun r25 =>
         some r25
    else
     Option.bind (y3 r3.1 u38.2 (0 : Int) (0 : Int)) fun r21 =>
     Option.bind (y20 r12.1 r12.2.1 r12.2.2.1 r12.2.2.2) fun r22 =>
     Option.bind (y3 u4 u5 u0 u6) fun r23 =>
     Option.bind (y20 r9.1 r9.2.1 r9.2.2.1 r9.2.2.2) fun r24 =>
     if (r22.2.2 != (0 : Int)) = true then
      some true
     else
      if (r24.2.2 != (0 : Int)) = true then
       some true
      else
       if (↑(List.length u24) : Int) > (0 : Int) then
        some true
       else
        Option.bind (y24 r22.1 r22.2.1 r24.1 r24.2.1) fun r25 =>
        some r25
   else
    Option.bind (y3 r3.1 u38.2 (0 : Int) (0 : Int)) fun r21 =>
    Option.bind (y20 r12.1 r12.2.1 r12.2.2.1 r12.2.2.2) fun r22 =>
    Option.bind (y3 u4 u5 u0 u6) fun r23 =>
    Option.bind (y20 r9.1 r9.2.1 r9.2.2.1 r9.2.2.2) fun r24 =>
    if (r22.2.2 != (0 : Int)) = true then
     some true
    else
     if (r24.2.2 != (0 : Int)) = true then
      some true
     else
      if (↑(List.length u24) : Int) > (0 : Int) then
       some true
      else
       Option.bind (y24 r22.1 r22.2.1 r24.1 r24.2.1) fun r25 =>
       some r25
def L05_FigureWithin_r2 (u4 : Int) (u5 : List Nat) (u0 : Int) (u6 : Int) (u24 : List Int) (u7 : Int) (u38 : Int × List Nat) (r3 : Int × List Nat) : (Unit ⊕ Unit) → Option Bool :=
  (Sum.elim (L05_FigureWithin_r2_0 u4 u5 u0 u6 u24 u7 u38 r3) (L05_FigureWithin_r2_1 u4 u5 u0 u6 u24 u7 u38 r3))
def L05_FigureWithin_r1_1 (u4 : Int) (u5 : List Nat) (u0 : Int) (u6 : Int) (u24 : List Int) (u7 : Int) (r3 : Int × List Nat) (u38 : Int × List Nat) : Option Bool :=
  if u38.1 > u6 then
   some true
  else
   Option.bind (y47 r3.1 u38.2) fun r6 =>
   if (r6 != (0 : Int)) = true then
    some true
   else
    Option.bind (iter (L05_FigureWithin_b2 u4 u5 u0 u6 u38 r3) big (0 : Int)) (L05_FigureWithin_r2 u4 u5 u0 u6 u24 u7 u38 r3)
def L05_FigureWithin_r1 (u4 : Int) (u5 : List Nat) (u0 : Int) (u6 : Int) (u24 : List Int) (u7 : Int) (r3 : Int × List Nat) : (Unit ⊕ (Int × List Nat)) → Option Bool :=
  (Sum.elim (L05_FigureWithin_r1_0 u4 u5 u0 u6 u24 u7 r3) (L05_FigureWithin_r1_1 u4 u5 u0 u6 u24 u7 r3))
def L05_FigureWithin_r0_1 (u4 : Int) (u5 : List Nat) (u0 : Int) (u6 : Int) (u24 : List Int) (u7 : Int) (r3 : Int × List Nat) (u25 : List Nat) : Option Bool :=
  Option.bind (iter (L05_FigureWithin_b1 u24) big (((0 : Int), (0 : Int), u25))) (L05_FigureWithin_r1 u4 u5 u0 u6 u24 u7 r3)
def L05_FigureWithin_r0 (u4 : Int) (u5 : List Nat) (u0 : Int) (u6 : Int) (u24 : List Int) (u7 : Int) (r3 : Int × List Nat) : (Unit ⊕ (List Nat)) → Option Bool :=
  (Sum.elim (L05_FigureWithin_r0_0 u4 u5 u0 u6 u24 u7 r3) (L05_FigureWithin_r0_1 u4 u5 u0 u6 u24 u7 r3))
def L05_FigureWithin (u4 : Int) (u5 : List Nat) (u0 : Int) (u6 : Int) (wBy : List Int) (u24 : List Int) (u7 : Int) : Option Bool :=
  Option.bind (L05_Few u4 u5) fun r0 =>
  if (!r0) = true then
   some true
  else
   Option.bind (y95 u4 u5 u0 u6) fun r1 =>
   if (r1 != (0 : Int)) = true then
    some true
   else
    if (↑(List.length wBy) : Int) > (700 : Int) then
     some true
    else
     if (↑(List.length u24) : Int) > (10 : Int) then
      some true
     else
      Option.bind (y90 u7) fun r2 =>
      if (r2 != (0 : Int)) = true then
       some true
      else
       Option.bind (y4 u4 u5) fun r3 =>
       Option.bind (iter (L05_FigureWithin_b0 u0 wBy) big (((0 : Int), r3.2))) (L05_FigureWithin_r0 u4 u5 u0 u6 u24 u7 r3)
def g_L05_FigureWithin : List Lf → Option GT
  | [.d (.i .i64 u4), .r (.floats .f32 u5), .d (.i .i64 u0), .d (.i .i64 u6), .r (.ints .i64 wBy), .r (.ints .i64 u24), .d (.i .i64 u7)] => some (.leaf (ok (L05_FigureWithin u4 u5 u0 u6 wBy u24 u7)) [.c (.d (.b ((val (L05_FigureWithin u4 u5 u0 u6 wBy u24 u7)))))])
  | _ => none
private abbrev wq0 (u4 : Int) (u5 : List Nat) (u0 : Int) (u6 : Int) (v2a : List Nat × (Int × List Nat) × Int × Nat) := (y24 (val (y20 (val (y3 (val (y4 u4 u5)).1 v2a.2.1.2 (0 : Int) (0 : Int))).1 (val (y3 (val (y4 u4 u5)).1 v2a.2.1.2 (0 : Int) (0 : Int))).2.1 (val (y3 (val (y4 u4 u5)).1 v2a.2.1.2 (0 : Int) (0 : Int))).2.2.1 (val (y3 (val (y4 u4 u5)).1 v2a.2.1.2 (0 : Int) (0 : Int))).2.2.2)).1 (val (y20 (val (y3 (val (y4 u4 u5)).1 v2a.2.1.2 (0 : Int) (0 : Int))).1 (val (y3 (val (y4 u4 u5)).1 v2a.2.1.2 (0 : Int) (0 : Int))).2.1 (val (y3 (val (y4 u4 u5)).1 v2a.2.1.2 (0 : Int) (0 : Int))).2.2.1 (val (y3 (val (y4 u4 u5)).1 v2a.2.1.2 (0 : Int) (0 : Int))).2.2.2)).2.1 (val (y20 (val (y3 u4 u5 u0 u6)).1 (val (y3 u4 u5 u0 u6)).2.1 (val (y3 u4 u5 u0 u6)).2.2.1 (val (y3 u4 u5 u0 u6)).2.2.2)).1 (val (y20 (val (y3 u4 u5 u0 u6)).1 (val (y3 u4 u5 u0 u6)).2.1 (val (y3 u4 u5 u0 u6)).2.2.1 (val (y3 u4 u5 u0 u6)).2.2.2)).2.1)
private abbrev wq1 (u4 : Int) (u5 : List Nat) (v2a : List Nat × (Int × List Nat) × Int × Nat) := (val (y3 (val (y4 u4 u5)).1 v2a.2.1.2 (0 : Int) (0 : Int)))
private abbrev wq2 (u4 : Int) (u5 : List Nat) (u0 : Int) (u6 : Int) (u7 : Int) (v2a : List Nat × (Int × List Nat) × Int × Nat) := (y24 (val (y7 (wq1 u4 u5 v2a).1 (wq1 u4 u5 v2a).2.1 (wq1 u4 u5 v2a).2.2.1 (wq1 u4 u5 v2a).2.2.2 u7)).1 (val (y7 (wq1 u4 u5 v2a).1 (wq1 u4 u5 v2a).2.1 (wq1 u4 u5 v2a).2.2.1 (wq1 u4 u5 v2a).2.2.2 u7)).2.1 (val (y7 (val (y3 u4 u5 u0 u6)).1 (val (y3 u4 u5 u0 u6)).2.1 (val (y3 u4 u5 u0 u6)).2.2.1 (val (y3 u4 u5 u0 u6)).2.2.2 u7)).1 (val (y7 (val (y3 u4 u5 u0 u6)).1 (val (y3 u4 u5 u0 u6)).2.1 (val (y3 u4 u5 u0 u6)).2.2.1 (val (y3 u4 u5 u0 u6)).2.2.2 u7)).2.1)
private abbrev wq3 (u4 : Int) (u5 : List Nat) (u0 : Int) (u6 : Int) := (y20 (val (y3 u4 u5 u0 u6)).1 (val (y3 u4 u5 u0 u6)).2.1 (val (y3 u4 u5 u0 u6)).2.2.1 (val (y3 u4 u5 u0 u6)).2.2.2)
private abbrev wq4 (u4 : Int) (u5 : List Nat) (v2a : List Nat × (Int × List Nat) × Int × Nat) := (y20 (wq1 u4 u5 v2a).1 (wq1 u4 u5 v2a).2.1 (wq1 u4 u5 v2a).2.2.1 (wq1 u4 u5 v2a).2.2.2)
private abbrev wq5 (u4 : Int) (u5 : List Nat) (u0 : Int) (u6 : Int) (v2a : List Nat × (Int × List Nat) × Int × Nat) := (y24 (val (y93 (val (y4 (val (y4 u4 u5)).1 v2a.2.1.2)).1 (val (y4 (val (y4 u4 u5)).1 v2a.2.1.2)).2 v2a.2.2.1)).1 (val (y93 (val (y4 (val (y4 u4 u5)).1 v2a.2.1.2)).1 (val (y4 (val (y4 u4 u5)).1 v2a.2.1.2)).2 v2a.2.2.1)).2.1 (val (y32 (val (y3 u4 u5 u0 u6)).1 (val (y3 u4 u5 u0 u6)).2.1 (val (y3 u4 u5 u0 u6)).2.2.1 (val (y3 u4 u5 u0 u6)).2.2.2 v2a.2.2.1)).1 (val (y32 (val (y3 u4 u5 u0 u6)).1 (val (y3 u4 u5 u0 u6)).2.1 (val (y3 u4 u5 u0 u6)).2.2.1 (val (y3 u4 u5 u0 u6)).2.2.2 v2a.2.2.1)).2.1)
private abbrev wq6 (u4 : Int) (u5 : List Nat) (u0 : Int) (u6 : Int) (u7 : Int) (v2a : List Nat × (Int × List Nat) × Int × Nat) := (y24 (val (y48 (wq1 u4 u5 v2a).1 (wq1 u4 u5 v2a).2.1 (wq1 u4 u5 v2a).2.2.1 (wq1 u4 u5 v2a).2.2.2 u7)).1 (val (y48 (wq1 u4 u5 v2a).1 (wq1 u4 u5 v2a).2.1 (wq1 u4 u5 v2a).2.2.1 (wq1 u4 u5 v2a).2.2.2 u7)).2.1 (val (y48 (val (y3 u4 u5 u0 u6)).1 (val (y3 u4 u5 u0 u6)).2.1 (val (y3 u4 u5 u0 u6)).2.2.1 (val (y3 u4 u5 u0 u6)).2.2.2 u7)).1 (val (y48 (val (y3 u4 u5 u0 u6)).1 (val (y3 u4 u5 u0 u6)).2.1 (val (y3 u4 u5 u0 u6)).2.2.1 (val (y3 u4 u5 u0 u6)).2.2.2 u7)).2.1)
private abbrev wq7 (u4 : Int) (u5 : List Nat) (u0 : Int) (u6 : Int) (u7 : Int) := (y7 (val (y3 u4 u5 u0 u6)).1 (val (y3 u4 u5 u0 u6)).2.1 (val (y3 u4 u5 u0 u6)).2.2.1 (val (y3 u4 u5 u0 u6)).2.2.2 u7)
private abbrev wq8 (u4 : Int) (u5 : List Nat) (u7 : Int) (v2a : List Nat × (Int × List Nat) × Int × Nat) := (y7 (wq1 u4 u5 v2a).1 (wq1 u4 u5 v2a).2.1 (wq1 u4 u5 v2a).2.2.1 (wq1 u4 u5 v2a).2.2.2 u7)
private abbrev wq9 (u4 : Int) (u5 : List Nat) := (val (y4 u4 u5))
private abbrev wq10 (u4 : Int) (u5 : List Nat) (v2a : List Nat × (Int × List Nat) × Int × Nat) := (ok (y3 (wq9 u4 u5).1 v2a.2.1.2 (0 : Int) (0 : Int)))
private abbrev wq11 (u24 : List Int) := (decide ((↑(List.length u24) : Int) > (0 : Int)))
private abbrev wq12 (u4 : Int) (u5 : List Nat) (u0 : Int) (u6 : Int) (u7 : Int) := (y48 (val (y3 u4 u5 u0 u6)).1 (val (y3 u4 u5 u0 u6)).2.1 (val (y3 u4 u5 u0 u6)).2.2.1 (val (y3 u4 u5 u0 u6)).2.2.2 u7)
private abbrev wq13 (u4 : Int) (u5 : List Nat) (u0 : Int) (u6 : Int) (v2a : List Nat × (Int × List Nat) × Int × Nat) := (y32 (val (y3 u4 u5 u0 u6)).1 (val (y3 u4 u5 u0 u6)).2.1 (val (y3 u4 u5 u0 u6)).2.2.1 (val (y3 u4 u5 u0 u6)).2.2.2 v2a.2.2.1)
private abbrev wq14 (u4 : Int) (u5 : List Nat) := ((wq9 u4 u5).1 = (wq9 u4 u5).1)
private abbrev wq15 (u24 : List Int) (v1a : List Nat × (Int × Int × List Nat) × Nat) := ((0 : Int) ≤ v1a.2.1.2.1 ∧ v1a.2.1.2.1 < (↑(List.length u24) : Int))
private abbrev wq16 (u4 : Int) (u5 : List Nat) (u7 : Int) (v2a : List Nat × (Int × List Nat) × Int × Nat) := (y48 (wq1 u4 u5 v2a).1 (wq1 u4 u5 v2a).2.1 (wq1 u4 u5 v2a).2.2.1 (wq1 u4 u5 v2a).2.2.2 u7)
private abbrev wq17 (u4 : Int) (u5 : List Nat) (u0 : Int) (u6 : Int) := ((val (wq3 u4 u5 u0 u6)).2.2 != (0 : Int))
private abbrev wq18 (u4 : Int) (u5 : List Nat) (v2a : List Nat × (Int × List Nat) × Int × Nat) := ((val (wq4 u4 u5 v2a)).2.2 != (0 : Int))
private abbrev wq19 (u4 : Int) (u5 : List Nat) (v2a : List Nat × (Int × List Nat) × Int × Nat) := (y93 (val (y4 (wq9 u4 u5).1 v2a.2.1.2)).1 (val (y4 (wq9 u4 u5).1 v2a.2.1.2)).2 v2a.2.2.1)
private abbrev wq20 (u24 : List Int) (v1a : List Nat × (Int × Int × List Nat) × Nat) := (List.getD u24 (Int.toNat v1a.2.1.2.1) (0 : Int))
set_option maxRecDepth 100000 in
theorem L05_FigureWithin_vc (u4 : Int) (u5 : List Nat) (u0 : Int) (u6 : Int) (wBy : List Int) (u24 : List Int) (u7 : Int) (r : Bool) (h : Option.bind (L05_FigureWithin u4 u5 u0 u6 wBy u24 u7) some = some r) : runT Tryd.f5 ((sp_8b (sp_12 (sp_21 (sp_22 (sp_11 (sp_23 (sp_14 (sp_24 (sp_25 (sp_27 (sp_28 (sp_16 (sp_29 (sp_26 sp0))))))))))))))) (fun gs id _ => match id with
 | 0 => some ⟨(Int × List Nat) × Nat, fun z => ⟨[(2, .w (.c (.d (.i .i64 u7)))), (3, .w (.c (.p 3 (0 : Nat) 1 (0 : Nat)))), (4, .w (.c (.p 4 (0 : Nat) 1 (0 : Nat)))), (7, .w (.c (.p 5 (0 : Nat) 1 (0 : Nat)))), (8, .w (.c (.d (.i .i64 (Prod.fst (Prod.fst z))))))], [(3, .box 36 [.d (.i .i64 u4), .o 0, .d (.i .i64 u0), .d (.i .i64 u6)]), (4, .box 51 [.o 1, .o 2]), (5, .box 34 [.d (.i .i64 ((val (y4 u4 u5)).1)), .o 6]), (0, .ext (.floats .f32 u5)), (1, .ext (.ints .i64 wBy)), (2, .ext (.ints .i64 u24)), (6, .row 54 (.floats .f32 (Prod.snd (Prod.fst z))))], 7⟩, fun z => Option.bind (iter (L05_FigureWithin_b0 u0 wBy) (Prod.snd z) (Prod.fst z)) (fun y0 => Option.bind (L05_FigureWithin_r0 u4 u5 u0 u6 u24 u7 (val (y4 u4 u5)) y0) some) = some r, fun z => Prod.snd z⟩
 | 2 => some ⟨List Nat × (Int × Int × List Nat) × Nat, fun z => ⟨[(2, .w (.c (.d (.i .i64 u7)))), (3, .w (.c (.p 3 (0 : Nat) 1 (0 : Nat)))), (4, .w (.c (.p 4 (0 : Nat) 1 (0 : Nat)))), (7, .w (.c (.p 5 (0 : Nat) 1 (0 : Nat)))), (9, .w (.c (.d (.i .i64 (Prod.fst (Prod.fst (Prod.snd z))))))), (10, .w (.c (.d (.i .i64 (Prod.fst (Prod.snd (Prod.fst (Prod.snd z))))))))], [(3, .box 36 [.d (.i .i64 u4), .o 0, .d (.i .i64 u0), .d (.i .i64 u6)]), (4, .box 51 [.o 1, .o 2]), (5, .box 34 [.d (.i .i64 ((val (y4 u4 u5)).1)), .o 6]), (0, .ext (.floats .f32 u5)), (1, .ext (.ints .i64 wBy)), (2, .ext (.ints .i64 u24)), (6, .row 54 (.floats .f32 (Prod.snd (Prod.snd (Prod.fst (Prod.snd z))))))], 7⟩, fun z => Option.bind (iter (L05_FigureWithin_b1 u24) (Prod.snd (Prod.snd z)) (Prod.fst (Prod.snd z))) (fun y0 => Option.bind (L05_FigureWithin_r1 u4 u5 u0 u6 u24 u7 (val (y4 u4 u5)) y0) some) = some r, fun z => Prod.snd (Prod.snd z)⟩
 | 4 => some ⟨List Nat × (Int × List Nat) × Int × Nat, fun z => ⟨[(2, .w (.c (.d (.i .i64 u7)))), (3, .w (.c (.p 3 (0 : Nat) 1 (0 : Nat)))), (4, .w (.c (.p 4 (0 : Nat) 1 (0 : Nat)))), (7, .w (.c (.p 5 (0 : Nat) 1 (0 : Nat)))), (11, .w (.c (.d (.i .i64 (Prod.fst (Prod.snd (Prod.snd z)))))))], [(3, .box 36 [.d (.i .i64 u4), .o 0, .d (.i .i64 u0), .d (.i .i64 u6)]), (4, .box 51 [.o 1, .o 2]), (5, .box 34 [.d (.i .i64 ((val (y4 u4 u5)).1)), .o 6]), (0, .ext (.floats .f32 u5)), (1, .ext (.ints .i64 wBy)), (2, .ext (.ints .i64 u24)), (6, .row 54 (.floats .f32 ((Prod.fst (Prod.snd z)).2)))], 7⟩, fun z => Option.bind (iter (L05_FigureWithin_b2 u4 u5 u0 u6 (Prod.fst (Prod.snd z)) (val (y4 u4 u5))) (Prod.snd (Prod.snd (Prod.snd z))) (Prod.fst (Prod.snd (Prod.snd z)))) (fun y0 => Option.bind (L05_FigureWithin_r2 u4 u5 u0 u6 u24 u7 (Prod.fst (Prod.snd z)) (val (y4 u4 u5)) y0) some) = some r, fun z => Prod.snd (Prod.snd (Prod.snd z))⟩
 | _ => none) (bldD k_L05_FigureWithin [.d (.i .i64 u4), .r (.floats .f32 u5), .d (.i .i64 u0), .d (.i .i64 u6), .r (.ints .i64 wBy), .r (.ints .i64 u24), .d (.i .i64 u7)]) [.c (.d (.b r))] := by
  refine Eq.mp (by kernel_rfl : (
 (Ob (True) ∧
 (Ob (ok (L05_Few u4 u5)) ∧
 Br (!val (L05_Few u4 u5))
   ((Ob (True) ∧
 (Ob (true = r) ∧
 True)))
   ((Ob (ok (y95 u4 u5 u0 u6)) ∧
 Br (val (y95 u4 u5 u0 u6) != (0 : Int))
   ((Ob (True) ∧
 (Ob (true = r) ∧
 True)))
 (Br (decide ((↑(List.length wBy) : Int) > (700 : Int)))
   ((Ob (True) ∧
 (Ob (true = r) ∧
 True)))
 (Br (decide ((↑(List.length u24) : Int) > (10 : Int)))
   ((Ob (True) ∧
 (Ob (true = r) ∧
 True)))
   ((Ob (ok (y90 u7)) ∧
 Br (val (y90 u7) != (0 : Int))
   ((Ob (True) ∧
 (Ob (true = r) ∧
 True)))
   ((Ob (ok (y4 u4 u5)) ∧
   ((∃ (v0 : (Int × List Nat) × Nat), (Ob ((Option.bind (iter (L05_FigureWithin_b0 u0 wBy) v0.2 v0.1) fun y0 => Option.bind (L05_FigureWithin_r0 u4 u5 u0 u6 u24 u7 (wq9 u4 u5) y0) some) = some r) ∧
 (Ob (u7 = u7) ∧
 (Ob ((0 : Nat) = (0 : Nat)) ∧
 (Ob ((0 : Nat) = (0 : Nat)) ∧
 (Ob ((0 : Nat) = (0 : Nat)) ∧
 (Ob ((0 : Int) = v0.1.1) ∧
 (Ob (u4 = u4) ∧
 (Ob (u0 = u0) ∧
 (Ob (u6 = u6) ∧
 (Ob (wq14 u4 u5) ∧
 (Ob (u5 = u5) ∧
 (Ob (wBy = wBy) ∧
 (Ob (u24 = u24) ∧
 (Ob ((wq9 u4 u5).2 = v0.1.2) ∧
 True))))))))))))))) ∧
   (∀ (v0 : (Int × List Nat) × Nat), ((Option.bind (iter (L05_FigureWithin_b0 u0 wBy) v0.2 v0.1) fun y0 => Option.bind (L05_FigureWithin_r0 u4 u5 u0 u6 u24 u7 (wq9 u4 u5) y0) some) = some r →
 Br (decide (v0.1.1 < (↑(List.length v0.1.2) : Int)))
 (Br (decide (v0.1.1 < (↑(List.length wBy) : Int)))
   ((Ob ((0 : Int) ≤ v0.1.1 ∧ v0.1.1 < (↑(List.length wBy) : Int)) ∧
 (Ob (Int.toNat v0.1.1 < List.length wBy) ∧
 (Ob (ok (y38 (List.getD wBy (Int.toNat v0.1.1) (0 : Int)) (IntKind.wrap .i64 ((0 : Int) - u0)) u0)) ∧
 Br (!val (y38 (List.getD wBy (Int.toNat v0.1.1) (0 : Int)) (IntKind.wrap .i64 ((0 : Int) - u0)) u0))
   ((Ob (True) ∧
 (Ob (true = r) ∧
 True)))
   ((Ob ((0 : Int) ≤ v0.1.1 ∧ v0.1.1 < (↑(List.length v0.1.2) : Int)) ∧
 (Ob (Int.toNat v0.1.1 < List.length v0.1.2) ∧
 (Ob ((0 : Int) ≤ v0.1.1 ∧ v0.1.1 < (↑(List.length wBy) : Int)) ∧
 (Ob (Int.toNat v0.1.1 < List.length wBy) ∧
 (Ob (True) ∧
 (Ob (Option.isSome (Ieee.Format.add (FloatKind.format .f32) (List.getD v0.1.2 (Int.toNat v0.1.1) (0 : Nat)) (FloatKind.nearest .f32 (List.getD wBy (Int.toNat v0.1.1) (0 : Int)))) = true) ∧
 (Ob ((0 : Int) ≤ v0.1.1 ∧ v0.1.1 < (↑(List.length v0.1.2) : Int)) ∧
 (Ob (Int.toNat v0.1.1 < List.length v0.1.2) ∧
   (∃ (v1 : (Int × List Nat) × Nat), (Ob ((Option.bind (iter (L05_FigureWithin_b0 u0 wBy) v1.2 v1.1) fun y0 => Option.bind (L05_FigureWithin_r0 u4 u5 u0 u6 u24 u7 (wq9 u4 u5) y0) some) = some r) ∧
 (Ob (v1.2 < v0.2) ∧
 (Ob (u7 = u7) ∧
 (Ob ((0 : Nat) = (0 : Nat)) ∧
 (Ob ((0 : Nat) = (0 : Nat)) ∧
 (Ob ((0 : Nat) = (0 : Nat)) ∧
 (Ob (IntKind.wrap .i64 (v0.1.1 + (1 : Int)) = v1.1.1) ∧
 (Ob (u4 = u4) ∧
 (Ob (u0 = u0) ∧
 (Ob (u6 = u6) ∧
 (Ob (wq14 u4 u5) ∧
 (Ob (u5 = u5) ∧
 (Ob (wBy = wBy) ∧
 (Ob (u24 = u24) ∧
 (Ob (List.set v0.1.2 (Int.toNat v0.1.1) (Option.getD (Ieee.Format.add (FloatKind.format .f32) (List.getD v0.1.2 (Int.toNat v0.1.1) (0 : Nat)) (FloatKind.nearest .f32 (List.getD wBy (Int.toNat v0.1.1) (0 : Int)))) (0 : Nat)) = v1.1.2) ∧
 True)))))))))))))))))))))))))))))
   (((∃ (v1a : List Nat × (Int × Int × List Nat) × Nat), (Ob ((Option.bind (iter (L05_FigureWithin_b1 u24) v1a.2.2 v1a.2.1) fun y0 => Option.bind (L05_FigureWithin_r1 u4 u5 u0 u6 u24 u7 (wq9 u4 u5) y0) some) = some r) ∧
 (Ob (u7 = u7) ∧
 (Ob ((0 : Nat) = (0 : Nat)) ∧
 (Ob ((0 : Nat) = (0 : Nat)) ∧
 (Ob ((0 : Nat) = (0 : Nat)) ∧
 (Ob ((0 : Int) = v1a.2.1.1) ∧
 (Ob ((0 : Int) = v1a.2.1.2.1) ∧
 (Ob (u4 = u4) ∧
 (Ob (u0 = u0) ∧
 (Ob (u6 = u6) ∧
 (Ob (wq14 u4 u5) ∧
 (Ob (u5 = u5) ∧
 (Ob (wBy = wBy) ∧
 (Ob (u24 = u24) ∧
 (Ob (v0.1.2 = v1a.2.1.2.2) ∧
 True)))))))))))))))) ∧
   (∀ (v1a : List Nat × (Int × Int × List Nat) × Nat), ((Option.bind (iter (L05_FigureWithin_b1 u24) v1a.2.2 v1a.2.1) fun y0 => Option.bind (L05_FigureWithin_r1 u4 u5 u0 u6 u24 u7 (wq9 u4 u5) y0) some) = some r →
 Br (decide (v1a.2.1.2.1 < (↑(List.length u24) : Int)))
   ((Ob (wq15 u24 v1a) ∧
 (Ob (Int.toNat v1a.2.1.2.1 < List.length u24) ∧
 (Ob (ok (y38 (wq20 u24 v1a) (-32767 : Int) (32767 : Int))) ∧
 Br (!val (y38 (wq20 u24 v1a) (-32767 : Int) (32767 : Int)))
   ((Ob (True) ∧
 (Ob (true = r) ∧
 True)))
   ((Ob (wq15 u24 v1a) ∧
 (Ob (Int.toNat v1a.2.1.2.1 < List.length u24) ∧
 (Ob (wq15 u24 v1a) ∧
 (Ob (Int.toNat v1a.2.1.2.1 < List.length u24) ∧
 (Ob (wq15 u24 v1a) ∧
 (Ob (Int.toNat v1a.2.1.2.1 < List.length u24) ∧
 (Ob (True) ∧
 (Ob ((List.length v1a.2.1.2.2 + List.length [FloatKind.nearest .f32 (wq20 u24 v1a)]) * (4 : Nat) ≤ (140737488355328 : Nat) ∧ List.length v1a.2.1.2.2 + List.length [FloatKind.nearest .f32 (wq20 u24 v1a)] ≤ (9223372036854775807 : Nat)) ∧
   (∃ (v2 : List Nat × (Int × Int × List Nat) × Nat), (Ob ((Option.bind (iter (L05_FigureWithin_b1 u24) v2.2.2 v2.2.1) fun y0 => Option.bind (L05_FigureWithin_r1 u4 u5 u0 u6 u24 u7 (wq9 u4 u5) y0) some) = some r) ∧
 (Ob (v2.2.2 < v1a.2.2) ∧
 (Ob (u7 = u7) ∧
 (Ob ((0 : Nat) = (0 : Nat)) ∧
 (Ob ((0 : Nat) = (0 : Nat)) ∧
 (Ob ((0 : Nat) = (0 : Nat)) ∧
 (Ob (IntKind.wrap .i64 (v1a.2.1.1 + IntKind.wrap .i64 (List.getD u24 (Int.toNat v1a.2.1.2.1) (0 : Int) * List.getD u24 (Int.toNat v1a.2.1.2.1) (0 : Int))) = v2.2.1.1) ∧
 (Ob (IntKind.wrap .i64 (v1a.2.1.2.1 + (1 : Int)) = v2.2.1.2.1) ∧
 (Ob (u4 = u4) ∧
 (Ob (u0 = u0) ∧
 (Ob (u6 = u6) ∧
 (Ob (wq14 u4 u5) ∧
 (Ob (u5 = u5) ∧
 (Ob (wBy = wBy) ∧
 (Ob (u24 = u24) ∧
 (Ob (v1a.2.1.2.2 ++ [FloatKind.nearest .f32 (wq20 u24 v1a)] = v2.2.1.2.2) ∧
 True))))))))))))))))))))))))))))))
 (Br (decide (v1a.2.1.1 > u6))
   ((Ob (True) ∧
 (Ob (true = r) ∧
 True)))
   ((Ob (ok (y47 (wq9 u4 u5).1 v1a.2.1.2.2)) ∧
 Br (val (y47 (wq9 u4 u5).1 v1a.2.1.2.2) != (0 : Int))
   ((Ob (True) ∧
 (Ob (true = r) ∧
 True)))
   (((∃ (v2a : List Nat × (Int × List Nat) × Int × Nat), (Ob ((Option.bind (iter (L05_FigureWithin_b2 u4 u5 u0 u6 v2a.2.1 (wq9 u4 u5)) v2a.2.2.2 v2a.2.2.1) fun y0 => Option.bind (L05_FigureWithin_r2 u4 u5 u0 u6 u24 u7 v2a.2.1 (wq9 u4 u5) y0) some) = some r) ∧
 (Ob (u7 = u7) ∧
 (Ob ((0 : Nat) = (0 : Nat)) ∧
 (Ob ((0 : Nat) = (0 : Nat)) ∧
 (Ob ((0 : Nat) = (0 : Nat)) ∧
 (Ob ((0 : Int) = v2a.2.2.1) ∧
 (Ob (u4 = u4) ∧
 (Ob (u0 = u0) ∧
 (Ob (u6 = u6) ∧
 (Ob (wq14 u4 u5) ∧
 (Ob (u5 = u5) ∧
 (Ob (wBy = wBy) ∧
 (Ob (u24 = u24) ∧
 (Ob (v1a.2.1.2.2 = v2a.2.1.2) ∧
 True))))))))))))))) ∧
   (∀ (v2a : List Nat × (Int × List Nat) × Int × Nat), ((Option.bind (iter (L05_FigureWithin_b2 u4 u5 u0 u6 v2a.2.1 (wq9 u4 u5)) v2a.2.2.2 v2a.2.2.1) fun y0 => Option.bind (L05_FigureWithin_r2 u4 u5 u0 u6 u24 u7 v2a.2.1 (wq9 u4 u5) y0) some) = some r →
 Br (decide (v2a.2.2.1 ≤ (2 : Int)))
   ((Ob (ok (y4 (wq9 u4 u5).1 v2a.2.1.2)) ∧
 (Ob (ok (wq19 u4 u5 v2a)) ∧
 (Ob (ok (y3 u4 u5 u0 u6)) ∧
 (Ob (ok (wq13 u4 u5 u0 u6 v2a)) ∧
 Br ((val (wq13 u4 u5 u0 u6 v2a)).2.2 == (0 : Int))
 (Br ((val (wq19 u4 u5 v2a)).2.2 != (0 : Int))
   ((Ob (True) ∧
 (Ob (false = r) ∧
 True)))
   ((Ob (ok (wq5 u4 u5 u0 u6 v2a)) ∧
 Br (!val (wq5 u4 u5 u0 u6 v2a))
   ((Ob (True) ∧
 (Ob (false = r) ∧
 True)))
   ((∃ (v3 : List Nat × (Int × List Nat) × Int × Nat), (Ob ((Option.bind (iter (L05_FigureWithin_b2 u4 u5 u0 u6 v3.2.1 (wq9 u4 u5)) v3.2.2.2 v3.2.2.1) fun y0 => Option.bind (L05_FigureWithin_r2 u4 u5 u0 u6 u24 u7 v3.2.1 (wq9 u4 u5) y0) some) = some r) ∧
 (Ob (v3.2.2.2 < v2a.2.2.2) ∧
 (Ob (u7 = u7) ∧
 (Ob ((0 : Nat) = (0 : Nat)) ∧
 (Ob ((0 : Nat) = (0 : Nat)) ∧
 (Ob ((0 : Nat) = (0 : Nat)) ∧
 (Ob (IntKind.wrap .i64 (v2a.2.2.1 + (1 : Int)) = v3.2.2.1) ∧
 (Ob (u4 = u4) ∧
 (Ob (u0 = u0) ∧
 (Ob (u6 = u6) ∧
 (Ob (wq14 u4 u5) ∧
 (Ob (u5 = u5) ∧
 (Ob (wBy = wBy) ∧
 (Ob (u24 = u24) ∧
 (Ob (v2a.2.1.2 = v3.2.1.2) ∧
 True))))))))))))))))))))
   ((∃ (v3 : List Nat × (Int × List Nat) × Int × Nat), (Ob ((Option.bind (iter (L05_FigureWithin_b2 u4 u5 u0 u6 v3.2.1 (wq9 u4 u5)) v3.2.2.2 v3.2.2.1) fun y0 => Option.bind (L05_FigureWithin_r2 u4 u5 u0 u6 u24 u7 v3.2.1 (wq9 u4 u5) y0) some) = some r) ∧
 (Ob (v3.2.2.2 < v2a.2.2.2) ∧
 (Ob (u7 = u7) ∧
 (Ob ((0 : Nat) = (0 : Nat)) ∧
 (Ob ((0 : Nat) = (0 : Nat)) ∧
 (Ob ((0 : Nat) = (0 : Nat)) ∧
 (Ob (IntKind.wrap .i64 (v2a.2.2.1 + (1 : Int)) = v3.2.2.1) ∧
 (Ob (u4 = u4) ∧
 (Ob (u0 = u0) ∧
 (Ob (u6 = u6) ∧
 (Ob (wq14 u4 u5) ∧
 (Ob (u5 = u5) ∧
 (Ob (wBy = wBy) ∧
 (Ob (u24 = u24) ∧
 (Ob (v2a.2.1.2 = v3.2.1.2) ∧
 True))))))))))))))))))))))
   ((Ob (wq10 u4 u5 v2a) ∧
 (Ob (ok (wq16 u4 u5 u7 v2a)) ∧
 (Ob (ok (y3 u4 u5 u0 u6)) ∧
 (Ob (ok (wq12 u4 u5 u0 u6 u7)) ∧
 Br ((val (wq16 u4 u5 u7 v2a)).2.2 == (0 : Int))
 (Br ((val (wq12 u4 u5 u0 u6 u7)).2.2 == (0 : Int))
   ((Ob (ok (wq6 u4 u5 u0 u6 u7 v2a)) ∧
 Br (!val (wq6 u4 u5 u0 u6 u7 v2a))
   ((Ob (True) ∧
 (Ob (false = r) ∧
 True)))
   ((Ob (wq10 u4 u5 v2a) ∧
 (Ob (ok (wq8 u4 u5 u7 v2a)) ∧
 (Ob (ok (y3 u4 u5 u0 u6)) ∧
 (Ob (ok (wq7 u4 u5 u0 u6 u7)) ∧
 Br ((val (wq8 u4 u5 u7 v2a)).2.2 == (0 : Int))
 (Br ((val (wq7 u4 u5 u0 u6 u7)).2.2 == (0 : Int))
   ((Ob (ok (wq2 u4 u5 u0 u6 u7 v2a)) ∧
 Br (!val (wq2 u4 u5 u0 u6 u7 v2a))
   ((Ob (True) ∧
 (Ob (false = r) ∧
 True)))
   ((Ob (wq10 u4 u5 v2a) ∧
 (Ob (ok (wq4 u4 u5 v2a)) ∧
 (Ob (ok (y3 u4 u5 u0 u6)) ∧
 (Ob (ok (wq3 u4 u5 u0 u6)) ∧
 Br (wq18 u4 u5 v2a)
   ((Ob (True) ∧
 (Ob (true = r) ∧
 True)))
 (Br (wq17 u4 u5 u0 u6)
   ((Ob (True) ∧
 (Ob (true = r) ∧
 True)))
 (Br (wq11 u24)
   ((Ob (True) ∧
 (Ob (true = r) ∧
 True)))
   ((Ob (ok (wq0 u4 u5 u0 u6 v2a)) ∧
 (Ob (True) ∧
 (Ob (val (wq0 u4 u5 u0 u6 v2a) = r) ∧
 True)))))))))))))
   ((Ob (wq10 u4 u5 v2a) ∧
 (Ob (ok (wq4 u4 u5 v2a)) ∧
 (Ob (ok (y3 u4 u5 u0 u6)) ∧
 (Ob (ok (wq3 u4 u5 u0 u6)) ∧
 Br (wq18 u4 u5 v2a)
   ((Ob (True) ∧
 (Ob (true = r) ∧
 True)))
 (Br (wq17 u4 u5 u0 u6)
   ((Ob (True) ∧
 (Ob (true = r) ∧
 True)))
 (Br (wq11 u24)
   ((Ob (True) ∧
 (Ob (true = r) ∧
 True)))
   ((Ob (ok (wq0 u4 u5 u0 u6 v2a)) ∧
 (Ob (True) ∧
 (Ob (val (wq0 u4 u5 u0 u6 v2a) = r) ∧
 True))))))))))))
   ((Ob (wq10 u4 u5 v2a) ∧
 (Ob (ok (wq4 u4 u5 v2a)) ∧
 (Ob (ok (y3 u4 u5 u0 u6)) ∧
 (Ob (ok (wq3 u4 u5 u0 u6)) ∧
 Br (wq18 u4 u5 v2a)
   ((Ob (True) ∧
 (Ob (true = r) ∧
 True)))
 (Br (wq17 u4 u5 u0 u6)
   ((Ob (True) ∧
 (Ob (true = r) ∧
 True)))
 (Br (wq11 u24)
   ((Ob (True) ∧
 (Ob (true = r) ∧
 True)))
   ((Ob (ok (wq0 u4 u5 u0 u6 v2a)) ∧
 (Ob (True) ∧
 (Ob (val (wq0 u4 u5 u0 u6 v2a) = r) ∧
 True))))))))))))))))))
   ((Ob (wq10 u4 u5 v2a) ∧
 (Ob (ok (wq8 u4 u5 u7 v2a)) ∧
 (Ob (ok (y3 u4 u5 u0 u6)) ∧
 (Ob (ok (wq7 u4 u5 u0 u6 u7)) ∧
 Br ((val (wq8 u4 u5 u7 v2a)).2.2 == (0 : Int))
 (Br ((val (wq7 u4 u5 u0 u6 u7)).2.2 == (0 : Int))
   ((Ob (ok (wq2 u4 u5 u0 u6 u7 v2a)) ∧
 Br (!val (wq2 u4 u5 u0 u6 u7 v2a))
   ((Ob (True) ∧
 (Ob (false = r) ∧
 True)))
   ((Ob (wq10 u4 u5 v2a) ∧
 (Ob (ok (wq4 u4 u5 v2a)) ∧
 (Ob (ok (y3 u4 u5 u0 u6)) ∧
 (Ob (ok (wq3 u4 u5 u0 u6)) ∧
 Br (wq18 u4 u5 v2a)
   ((Ob (True) ∧
 (Ob (true = r) ∧
 True)))
 (Br (wq17 u4 u5 u0 u6)
   ((Ob (True) ∧
 (Ob (true = r) ∧
 True)))
 (Br (wq11 u24)
   ((Ob (True) ∧
 (Ob (true = r) ∧
 True)))
   ((Ob (ok (wq0 u4 u5 u0 u6 v2a)) ∧
 (Ob (True) ∧
 (Ob (val (wq0 u4 u5 u0 u6 v2a) = r) ∧
 True)))))))))))))
   ((Ob (wq10 u4 u5 v2a) ∧
 (Ob (ok (wq4 u4 u5 v2a)) ∧
 (Ob (ok (y3 u4 u5 u0 u6)) ∧
 (Ob (ok (wq3 u4 u5 u0 u6)) ∧
 Br (wq18 u4 u5 v2a)
   ((Ob (True) ∧
 (Ob (true = r) ∧
 True)))
 (Br (wq17 u4 u5 u0 u6)
   ((Ob (True) ∧
 (Ob (true = r) ∧
 True)))
 (Br (wq11 u24)
   ((Ob (True) ∧
 (Ob (true = r) ∧
 True)))
   ((Ob (ok (wq0 u4 u5 u0 u6 v2a)) ∧
 (Ob (True) ∧
 (Ob (val (wq0 u4 u5 u0 u6 v2a) = r) ∧
 True))))))))))))
   ((Ob (wq10 u4 u5 v2a) ∧
 (Ob (ok (wq4 u4 u5 v2a)) ∧
 (Ob (ok (y3 u4 u5 u0 u6)) ∧
 (Ob (ok (wq3 u4 u5 u0 u6)) ∧
 Br (wq18 u4 u5 v2a)
   ((Ob (True) ∧
 (Ob (true = r) ∧
 True)))
 (Br (wq17 u4 u5 u0 u6)
   ((Ob (True) ∧
 (Ob (true = r) ∧
 True)))
 (Br (wq11 u24)
   ((Ob (True) ∧
 (Ob (true = r) ∧
 True)))
   ((Ob (ok (wq0 u4 u5 u0 u6 v2a)) ∧
 (Ob (True) ∧
 (Ob (val (wq0 u4 u5 u0 u6 v2a) = r) ∧
 True)))))))))))))))))
   ((Ob (wq10 u4 u5 v2a) ∧
 (Ob (ok (wq8 u4 u5 u7 v2a)) ∧
 (Ob (ok (y3 u4 u5 u0 u6)) ∧
 (Ob (ok (wq7 u4 u5 u0 u6 u7)) ∧
 Br ((val (wq8 u4 u5 u7 v2a)).2.2 == (0 : Int))
 (Br ((val (wq7 u4 u5 u0 u6 u7)).2.2 == (0 : Int))
   ((Ob (ok (wq2 u4 u5 u0 u6 u7 v2a)) ∧
 Br (!val (wq2 u4 u5 u0 u6 u7 v2a))
   ((Ob (True) ∧
 (Ob (false = r) ∧
 True)))
   ((Ob (wq10 u4 u5 v2a) ∧
 (Ob (ok (wq4 u4 u5 v2a)) ∧
 (Ob (ok (y3 u4 u5 u0 u6)) ∧
 (Ob (ok (wq3 u4 u5 u0 u6)) ∧
 Br (wq18 u4 u5 v2a)
   ((Ob (True) ∧
 (Ob (true = r) ∧
 True)))
 (Br (wq17 u4 u5 u0 u6)
   ((Ob (True) ∧
 (Ob (true = r) ∧
 True)))
 (Br (wq11 u24)
   ((Ob (True) ∧
 (Ob (true = r) ∧
 True)))
   ((Ob (ok (wq0 u4 u5 u0 u6 v2a)) ∧
 (Ob (True) ∧
 (Ob (val (wq0 u4 u5 u0 u6 v2a) = r) ∧
 True)))))))))))))
   ((Ob (wq10 u4 u5 v2a) ∧
 (Ob (ok (wq4 u4 u5 v2a)) ∧
 (Ob (ok (y3 u4 u5 u0 u6)) ∧
 (Ob (ok (wq3 u4 u5 u0 u6)) ∧
 Br (wq18 u4 u5 v2a)
   ((Ob (True) ∧
 (Ob (true = r) ∧
 True)))
 (Br (wq17 u4 u5 u0 u6)
   ((Ob (True) ∧
 (Ob (true = r) ∧
 True)))
 (Br (wq11 u24)
   ((Ob (True) ∧
 (Ob (true = r) ∧
 True)))
   ((Ob (ok (wq0 u4 u5 u0 u6 v2a)) ∧
 (Ob (True) ∧
 (Ob (val (wq0 u4 u5 u0 u6 v2a) = r) ∧
 True))))))))))))
   ((Ob (wq10 u4 u5 v2a) ∧
 (Ob (ok (wq4 u4 u5 v2a)) ∧
 (Ob (ok (y3 u4 u5 u0 u6)) ∧
 (Ob (ok (wq3 u4 u5 u0 u6)) ∧
 Br (wq18 u4 u5 v2a)
   ((Ob (True) ∧
 (Ob (true = r) ∧
 True)))
 (Br (wq17 u4 u5 u0 u6)
   ((Ob (True) ∧
 (Ob (true = r) ∧
 True)))
 (Br (wq11 u24)
   ((Ob (True) ∧
 (Ob (true = r) ∧
 True)))
   ((Ob (ok (wq0 u4 u5 u0 u6 v2a)) ∧
 (Ob (True) ∧
 (Ob (val (wq0 u4 u5 u0 u6 v2a) = r) ∧
 True)))))))))))))))))))))))))))))))))
   (((∃ (v1a : List Nat × (Int × Int × List Nat) × Nat), (Ob ((Option.bind (iter (L05_FigureWithin_b1 u24) v1a.2.2 v1a.2.1) fun y0 => Option.bind (L05_FigureWithin_r1 u4 u5 u0 u6 u24 u7 (wq9 u4 u5) y0) some) = some r) ∧
 (Ob (u7 = u7) ∧
 (Ob ((0 : Nat) = (0 : Nat)) ∧
 (Ob ((0 : Nat) = (0 : Nat)) ∧
 (Ob ((0 : Nat) = (0 : Nat)) ∧
 (Ob ((0 : Int) = v1a.2.1.1) ∧
 (Ob ((0 : Int) = v1a.2.1.2.1) ∧
 (Ob (u4 = u4) ∧
 (Ob (u0 = u0) ∧
 (Ob (u6 = u6) ∧
 (Ob (wq14 u4 u5) ∧
 (Ob (u5 = u5) ∧
 (Ob (wBy = wBy) ∧
 (Ob (u24 = u24) ∧
 (Ob (v0.1.2 = v1a.2.1.2.2) ∧
 True)))))))))))))))) ∧
   (∀ (v1a : List Nat × (Int × Int × List Nat) × Nat), ((Option.bind (iter (L05_FigureWithin_b1 u24) v1a.2.2 v1a.2.1) fun y0 => Option.bind (L05_FigureWithin_r1 u4 u5 u0 u6 u24 u7 (wq9 u4 u5) y0) some) = some r →
 Br (decide (v1a.2.1.2.1 < (↑(List.length u24) : Int)))
   ((Ob (wq15 u24 v1a) ∧
 (Ob (Int.toNat v1a.2.1.2.1 < List.length u24) ∧
 (Ob (ok (y38 (wq20 u24 v1a) (-32767 : Int) (32767 : Int))) ∧
 Br (!val (y38 (wq20 u24 v1a) (-32767 : Int) (32767 : Int)))
   ((Ob (True) ∧
 (Ob (true = r) ∧
 True)))
   ((Ob (wq15 u24 v1a) ∧
 (Ob (Int.toNat v1a.2.1.2.1 < List.length u24) ∧
 (Ob (wq15 u24 v1a) ∧
 (Ob (Int.toNat v1a.2.1.2.1 < List.length u24) ∧
 (Ob (wq15 u24 v1a) ∧
 (Ob (Int.toNat v1a.2.1.2.1 < List.length u24) ∧
 (Ob (True) ∧
 (Ob ((List.length v1a.2.1.2.2 + List.length [FloatKind.nearest .f32 (wq20 u24 v1a)]) * (4 : Nat) ≤ (140737488355328 : Nat) ∧ List.length v1a.2.1.2.2 + List.length [FloatKind.nearest .f32 (wq20 u24 v1a)] ≤ (9223372036854775807 : Nat)) ∧
   (∃ (v2 : List Nat × (Int × Int × List Nat) × Nat), (Ob ((Option.bind (iter (L05_FigureWithin_b1 u24) v2.2.2 v2.2.1) fun y0 => Option.bind (L05_FigureWithin_r1 u4 u5 u0 u6 u24 u7 (wq9 u4 u5) y0) some) = some r) ∧
 (Ob (v2.2.2 < v1a.2.2) ∧
 (Ob (u7 = u7) ∧
 (Ob ((0 : Nat) = (0 : Nat)) ∧
 (Ob ((0 : Nat) = (0 : Nat)) ∧
 (Ob ((0 : Nat) = (0 : Nat)) ∧
 (Ob (IntKind.wrap .i64 (v1a.2.1.1 + IntKind.wrap .i64 (List.getD u24 (Int.toNat v1a.2.1.2.1) (0 : Int) * List.getD u24 (Int.toNat v1a.2.1.2.1) (0 : Int))) = v2.2.1.1) ∧
 (Ob (IntKind.wrap .i64 (v1a.2.1.2.1 + (1 : Int)) = v2.2.1.2.1) ∧
 (Ob (u4 = u4) ∧
 (Ob (u0 = u0) ∧
 (Ob (u6 = u6) ∧
 (Ob (wq14 u4 u5) ∧
 (Ob (u5 = u5) ∧
 (Ob (wBy = wBy) ∧
 (Ob (u24 = u24) ∧
 (Ob (v1a.2.1.2.2 ++ [FloatKind.nearest .f32 (wq20 u24 v1a)] = v2.2.1.2.2) ∧
 True))))))))))))))))))))))))))))))
 (Br (decide (v1a.2.1.1 > u6))
   ((Ob (True) ∧
 (Ob (true = r) ∧
 True)))
   ((Ob (ok (y47 (wq9 u4 u5).1 v1a.2.1.2.2)) ∧
 Br (val (y47 (wq9 u4 u5).1 v1a.2.1.2.2) != (0 : Int))
   ((Ob (True) ∧
 (Ob (true = r) ∧
 True)))
   (((∃ (v2a : List Nat × (Int × List Nat) × Int × Nat), (Ob ((Option.bind (iter (L05_FigureWithin_b2 u4 u5 u0 u6 v2a.2.1 (wq9 u4 u5)) v2a.2.2.2 v2a.2.2.1) fun y0 => Option.bind (L05_FigureWithin_r2 u4 u5 u0 u6 u24 u7 v2a.2.1 (wq9 u4 u5) y0) some) = some r) ∧
 (Ob (u7 = u7) ∧
 (Ob ((0 : Nat) = (0 : Nat)) ∧
 (Ob ((0 : Nat) = (0 : Nat)) ∧
 (Ob ((0 : Nat) = (0 : Nat)) ∧
 (Ob ((0 : Int) = v2a.2.2.1) ∧
 (Ob (u4 = u4) ∧
 (Ob (u0 = u0) ∧
 (Ob (u6 = u6) ∧
 (Ob (wq14 u4 u5) ∧
 (Ob (u5 = u5) ∧
 (Ob (wBy = wBy) ∧
 (Ob (u24 = u24) ∧
 (Ob (v1a.2.1.2.2 = v2a.2.1.2) ∧
 True))))))))))))))) ∧
   (∀ (v2a : List Nat × (Int × List Nat) × Int × Nat), ((Option.bind (iter (L05_FigureWithin_b2 u4 u5 u0 u6 v2a.2.1 (wq9 u4 u5)) v2a.2.2.2 v2a.2.2.1) fun y0 => Option.bind (L05_FigureWithin_r2 u4 u5 u0 u6 u24 u7 v2a.2.1 (wq9 u4 u5) y0) some) = some r →
 Br (decide (v2a.2.2.1 ≤ (2 : Int)))
   ((Ob (ok (y4 (wq9 u4 u5).1 v2a.2.1.2)) ∧
 (Ob (ok (wq19 u4 u5 v2a)) ∧
 (Ob (ok (y3 u4 u5 u0 u6)) ∧
 (Ob (ok (wq13 u4 u5 u0 u6 v2a)) ∧
 Br ((val (wq13 u4 u5 u0 u6 v2a)).2.2 == (0 : Int))
 (Br ((val (wq19 u4 u5 v2a)).2.2 != (0 : Int))
   ((Ob (True) ∧
 (Ob (false = r) ∧
 True)))
   ((Ob (ok (wq5 u4 u5 u0 u6 v2a)) ∧
 Br (!val (wq5 u4 u5 u0 u6 v2a))
   ((Ob (True) ∧
 (Ob (false = r) ∧
 True)))
   ((∃ (v3 : List Nat × (Int × List Nat) × Int × Nat), (Ob ((Option.bind (iter (L05_FigureWithin_b2 u4 u5 u0 u6 v3.2.1 (wq9 u4 u5)) v3.2.2.2 v3.2.2.1) fun y0 => Option.bind (L05_FigureWithin_r2 u4 u5 u0 u6 u24 u7 v3.2.1 (wq9 u4 u5) y0) some) = some r) ∧
 (Ob (v3.2.2.2 < v2a.2.2.2) ∧
 (Ob (u7 = u7) ∧
 (Ob ((0 : Nat) = (0 : Nat)) ∧
 (Ob ((0 : Nat) = (0 : Nat)) ∧
 (Ob ((0 : Nat) = (0 : Nat)) ∧
 (Ob (IntKind.wrap .i64 (v2a.2.2.1 + (1 : Int)) = v3.2.2.1) ∧
 (Ob (u4 = u4) ∧
 (Ob (u0 = u0) ∧
 (Ob (u6 = u6) ∧
 (Ob (wq14 u4 u5) ∧
 (Ob (u5 = u5) ∧
 (Ob (wBy = wBy) ∧
 (Ob (u24 = u24) ∧
 (Ob (v2a.2.1.2 = v3.2.1.2) ∧
 True))))))))))))))))))))
   ((∃ (v3 : List Nat × (Int × List Nat) × Int × Nat), (Ob ((Option.bind (iter (L05_FigureWithin_b2 u4 u5 u0 u6 v3.2.1 (wq9 u4 u5)) v3.2.2.2 v3.2.2.1) fun y0 => Option.bind (L05_FigureWithin_r2 u4 u5 u0 u6 u24 u7 v3.2.1 (wq9 u4 u5) y0) some) = some r) ∧
 (Ob (v3.2.2.2 < v2a.2.2.2) ∧
 (Ob (u7 = u7) ∧
 (Ob ((0 : Nat) = (0 : Nat)) ∧
 (Ob ((0 : Nat) = (0 : Nat)) ∧
 (Ob ((0 : Nat) = (0 : Nat)) ∧
 (Ob (IntKind.wrap .i64 (v2a.2.2.1 + (1 : Int)) = v3.2.2.1) ∧
 (Ob (u4 = u4) ∧
 (Ob (u0 = u0) ∧
 (Ob (u6 = u6) ∧
 (Ob (wq14 u4 u5) ∧
 (Ob (u5 = u5) ∧
 (Ob (wBy = wBy) ∧
 (Ob (u24 = u24) ∧
 (Ob (v2a.2.1.2 = v3.2.1.2) ∧
 True))))))))))))))))))))))
   ((Ob (wq10 u4 u5 v2a) ∧
 (Ob (ok (wq16 u4 u5 u7 v2a)) ∧
 (Ob (ok (y3 u4 u5 u0 u6)) ∧
 (Ob (ok (wq12 u4 u5 u0 u6 u7)) ∧
 Br ((val (wq16 u4 u5 u7 v2a)).2.2 == (0 : Int))
 (Br ((val (wq12 u4 u5 u0 u6 u7)).2.2 == (0 : Int))
   ((Ob (ok (wq6 u4 u5 u0 u6 u7 v2a)) ∧
 Br (!val (wq6 u4 u5 u0 u6 u7 v2a))
   ((Ob (True) ∧
 (Ob (false = r) ∧
 True)))
   ((Ob (wq10 u4 u5 v2a) ∧
 (Ob (ok (wq8 u4 u5 u7 v2a)) ∧
 (Ob (ok (y3 u4 u5 u0 u6)) ∧
 (Ob (ok (wq7 u4 u5 u0 u6 u7)) ∧
 Br ((val (wq8 u4 u5 u7 v2a)).2.2 == (0 : Int))
 (Br ((val (wq7 u4 u5 u0 u6 u7)).2.2 == (0 : Int))
   ((Ob (ok (wq2 u4 u5 u0 u6 u7 v2a)) ∧
 Br (!val (wq2 u4 u5 u0 u6 u7 v2a))
   ((Ob (True) ∧
 (Ob (false = r) ∧
 True)))
   ((Ob (wq10 u4 u5 v2a) ∧
 (Ob (ok (wq4 u4 u5 v2a)) ∧
 (Ob (ok (y3 u4 u5 u0 u6)) ∧
 (Ob (ok (wq3 u4 u5 u0 u6)) ∧
 Br (wq18 u4 u5 v2a)
   ((Ob (True) ∧
 (Ob (true = r) ∧
 True)))
 (Br (wq17 u4 u5 u0 u6)
   ((Ob (True) ∧
 (Ob (true = r) ∧
 True)))
 (Br (wq11 u24)
   ((Ob (True) ∧
 (Ob (true = r) ∧
 True)))
   ((Ob (ok (wq0 u4 u5 u0 u6 v2a)) ∧
 (Ob (True) ∧
 (Ob (val (wq0 u4 u5 u0 u6 v2a) = r) ∧
 True)))))))))))))
   ((Ob (wq10 u4 u5 v2a) ∧
 (Ob (ok (wq4 u4 u5 v2a)) ∧
 (Ob (ok (y3 u4 u5 u0 u6)) ∧
 (Ob (ok (wq3 u4 u5 u0 u6)) ∧
 Br (wq18 u4 u5 v2a)
   ((Ob (True) ∧
 (Ob (true = r) ∧
 True)))
 (Br (wq17 u4 u5 u0 u6)
   ((Ob (True) ∧
 (Ob (true = r) ∧
 True)))
 (Br (wq11 u24)
   ((Ob (True) ∧
 (Ob (true = r) ∧
 True)))
   ((Ob (ok (wq0 u4 u5 u0 u6 v2a)) ∧
 (Ob (True) ∧
 (Ob (val (wq0 u4 u5 u0 u6 v2a) = r) ∧
 True))))))))))))
   ((Ob (wq10 u4 u5 v2a) ∧
 (Ob (ok (wq4 u4 u5 v2a)) ∧
 (Ob (ok (y3 u4 u5 u0 u6)) ∧
 (Ob (ok (wq3 u4 u5 u0 u6)) ∧
 Br (wq18 u4 u5 v2a)
   ((Ob (True) ∧
 (Ob (true = r) ∧
 True)))
 (Br (wq17 u4 u5 u0 u6)
   ((Ob (True) ∧
 (Ob (true = r) ∧
 True)))
 (Br (wq11 u24)
   ((Ob (True) ∧
 (Ob (true = r) ∧
 True)))
   ((Ob (ok (wq0 u4 u5 u0 u6 v2a)) ∧
 (Ob (True) ∧
 (Ob (val (wq0 u4 u5 u0 u6 v2a) = r) ∧
 True))))))))))))))))))
   ((Ob (wq10 u4 u5 v2a) ∧
 (Ob (ok (wq8 u4 u5 u7 v2a)) ∧
 (Ob (ok (y3 u4 u5 u0 u6)) ∧
 (Ob (ok (wq7 u4 u5 u0 u6 u7)) ∧
 Br ((val (wq8 u4 u5 u7 v2a)).2.2 == (0 : Int))
 (Br ((val (wq7 u4 u5 u0 u6 u7)).2.2 == (0 : Int))
   ((Ob (ok (wq2 u4 u5 u0 u6 u7 v2a)) ∧
 Br (!val (wq2 u4 u5 u0 u6 u7 v2a))
   ((Ob (True) ∧
 (Ob (false = r) ∧
 True)))
   ((Ob (wq10 u4 u5 v2a) ∧
 (Ob (ok (wq4 u4 u5 v2a)) ∧
 (Ob (ok (y3 u4 u5 u0 u6)) ∧
 (Ob (ok (wq3 u4 u5 u0 u6)) ∧
 Br (wq18 u4 u5 v2a)
   ((Ob (True) ∧
 (Ob (true = r) ∧
 True)))
 (Br (wq17 u4 u5 u0 u6)
   ((Ob (True) ∧
 (Ob (true = r) ∧
 True)))
 (Br (wq11 u24)
   ((Ob (True) ∧
 (Ob (true = r) ∧
 True)))
   ((Ob (ok (wq0 u4 u5 u0 u6 v2a)) ∧
 (Ob (True) ∧
 (Ob (val (wq0 u4 u5 u0 u6 v2a) = r) ∧
 True)))))))))))))
   ((Ob (wq10 u4 u5 v2a) ∧
 (Ob (ok (wq4 u4 u5 v2a)) ∧
 (Ob (ok (y3 u4 u5 u0 u6)) ∧
 (Ob (ok (wq3 u4 u5 u0 u6)) ∧
 Br (wq18 u4 u5 v2a)
   ((Ob (True) ∧
 (Ob (true = r) ∧
 True)))
 (Br (wq17 u4 u5 u0 u6)
   ((Ob (True) ∧
 (Ob (true = r) ∧
 True)))
 (Br (wq11 u24)
   ((Ob (True) ∧
 (Ob (true = r) ∧
 True)))
   ((Ob (ok (wq0 u4 u5 u0 u6 v2a)) ∧
 (Ob (True) ∧
 (Ob (val (wq0 u4 u5 u0 u6 v2a) = r) ∧
 True))))))))))))
   ((Ob (wq10 u4 u5 v2a) ∧
 (Ob (ok (wq4 u4 u5 v2a)) ∧
 (Ob (ok (y3 u4 u5 u0 u6)) ∧
 (Ob (ok (wq3 u4 u5 u0 u6)) ∧
 Br (wq18 u4 u5 v2a)
   ((Ob (True) ∧
 (Ob (true = r) ∧
 True)))
 (Br (wq17 u4 u5 u0 u6)
   ((Ob (True) ∧
 (Ob (true = r) ∧
 True)))
 (Br (wq11 u24)
   ((Ob (True) ∧
 (Ob (true = r) ∧
 True)))
   ((Ob (ok (wq0 u4 u5 u0 u6 v2a)) ∧
 (Ob (True) ∧
 (Ob (val (wq0 u4 u5 u0 u6 v2a) = r) ∧
 True)))))))))))))))))
   ((Ob (wq10 u4 u5 v2a) ∧
 (Ob (ok (wq8 u4 u5 u7 v2a)) ∧
 (Ob (ok (y3 u4 u5 u0 u6)) ∧
 (Ob (ok (wq7 u4 u5 u0 u6 u7)) ∧
 Br ((val (wq8 u4 u5 u7 v2a)).2.2 == (0 : Int))
 (Br ((val (wq7 u4 u5 u0 u6 u7)).2.2 == (0 : Int))
   ((Ob (ok (wq2 u4 u5 u0 u6 u7 v2a)) ∧
 Br (!val (wq2 u4 u5 u0 u6 u7 v2a))
   ((Ob (True) ∧
 (Ob (false = r) ∧
 True)))
   ((Ob (wq10 u4 u5 v2a) ∧
 (Ob (ok (wq4 u4 u5 v2a)) ∧
 (Ob (ok (y3 u4 u5 u0 u6)) ∧
 (Ob (ok (wq3 u4 u5 u0 u6)) ∧
 Br (wq18 u4 u5 v2a)
   ((Ob (True) ∧
 (Ob (true = r) ∧
 True)))
 (Br (wq17 u4 u5 u0 u6)
   ((Ob (True) ∧
 (Ob (true = r) ∧
 True)))
 (Br (wq11 u24)
   ((Ob (True) ∧
 (Ob (true = r) ∧
 True)))
   ((Ob (ok (wq0 u4 u5 u0 u6 v2a)) ∧
 (Ob (True) ∧
 (Ob (val (wq0 u4 u5 u0 u6 v2a) = r) ∧
 True)))))))))))))
   ((Ob (wq10 u4 u5 v2a) ∧
 (Ob (ok (wq4 u4 u5 v2a)) ∧
 (Ob (ok (y3 u4 u5 u0 u6)) ∧
 (Ob (ok (wq3 u4 u5 u0 u6)) ∧
 Br (wq18 u4 u5 v2a)
   ((Ob (True) ∧
 (Ob (true = r) ∧
 True)))
 (Br (wq17 u4 u5 u0 u6)
   ((Ob (True) ∧
 (Ob (true = r) ∧
 True)))
 (Br (wq11 u24)
   ((Ob (True) ∧
 (Ob (true = r) ∧
 True)))
   ((Ob (ok (wq0 u4 u5 u0 u6 v2a)) ∧
 (Ob (True) ∧
 (Ob (val (wq0 u4 u5 u0 u6 v2a) = r) ∧
 True))))))))))))
   ((Ob (wq10 u4 u5 v2a) ∧
 (Ob (ok (wq4 u4 u5 v2a)) ∧
 (Ob (ok (y3 u4 u5 u0 u6)) ∧
 (Ob (ok (wq3 u4 u5 u0 u6)) ∧
 Br (wq18 u4 u5 v2a)
   ((Ob (True) ∧
 (Ob (true = r) ∧
 True)))
 (Br (wq17 u4 u5 u0 u6)
   ((Ob (True) ∧
 (Ob (true = r) ∧
 True)))
 (Br (wq11 u24)
   ((Ob (True) ∧
 (Ob (true = r) ∧
 True)))
   ((Ob (ok (wq0 u4 u5 u0 u6 v2a)) ∧
 (Ob (True) ∧
 (Ob (val (wq0 u4 u5 u0 u6 v2a) = r) ∧
 True)))))))))))))))))))))))))))))))))))))))))))))) = _) ?_
  refine ob_t ?_
  refine call_s h fun h => ?_
  refine br_b h (fun h => ?_) (fun h => ?_)
  · exact rtc h
  · refine call_s h fun h => ?_
    refine br_b h (fun h => ?_) (fun h => ?_)
    · exact rtc h
    · refine br_d h (fun h => ?_) (fun h => ?_)
      · exact rtc h
      · refine br_d h (fun h => ?_) (fun h => ?_)
        · exact rtc h
        · refine call_s h fun h => ?_
          refine br_b h (fun h => ?_) (fun h => ?_)
          · exact rtc h
          · refine call_s h fun h => ?_
            refine ⟨⟨(((0 : Int), (val (y4 u4 u5)).2), big), ⟨loop_s h⟩, (by repeat' constructor)⟩, fun z26 hz26 => ?_⟩
            obtain ⟨k26, hm26, h⟩ := iter_pos hz26
            refine br_d h (fun h => ?_) (fun h => ?_)
            · refine br_d h (fun h => ?_) (fun h => ?_)
              · refine ob_s h fun h => ?_
                refine ob_s h fun h => ?_
                refine call_s h fun h => ?_
                refine br_b h (fun h => ?_) (fun h => ?_)
                · have h := exit_s h
                  exact rtc h
                · refine ob_s h fun h => ?_
                  refine ob_s h fun h => ?_
                  refine ob_s h fun h => ?_
                  refine ob_s h fun h => ?_
                  refine ob_t ?_
                  refine ob_s h fun h => ?_
                  refine ob_s h fun h => ?_
                  refine ob_s h fun h => ?_
                  exact ⟨((IntKind.wrap .i64 ((Prod.fst z26).1 + (1 : Int)), List.set (Prod.fst z26).2 (Int.toNat (Prod.fst z26).1) (Option.getD (Ieee.Format.add (FloatKind.format .f32) (List.getD (Prod.fst z26).2 (Int.toNat (Prod.fst z26).1) (0 : Nat)) (FloatKind.nearest .f32 (List.getD wBy (Int.toNat (Prod.fst z26).1) (0 : Int)))) (0 : Nat))), k26), ⟨next_s h⟩, ⟨lt_gs hm26.symm⟩, (by repeat' constructor)⟩
              · have h := exit_s h
                refine ⟨⟨((Prod.fst z26).2, ((0 : Int), (0 : Int), (Prod.fst z26).2), big), ⟨loop_s h⟩, (by repeat' constructor)⟩, fun z27 hz27 => ?_⟩
                obtain ⟨k27, hm27, h⟩ := iter_pos hz27
                refine br_d h (fun h => ?_) (fun h => ?_)
                · refine ob_s h fun h => ?_
                  refine ob_s h fun h => ?_
                  refine call_s h fun h => ?_
                  refine br_b h (fun h => ?_) (fun h => ?_)
                  · have h := exit_s h
                    exact rtc h
                  · refine ob_s h fun h => ?_
                    refine ob_s h fun h => ?_
                    refine ob_s h fun h => ?_
                    refine ob_s h fun h => ?_
                    refine ob_s h fun h => ?_
                    refine ob_s h fun h => ?_
                    refine ob_t ?_
                    refine ob_s h fun h => ?_
                    exact ⟨(Prod.fst z27, (IntKind.wrap .i64 ((Prod.fst (Prod.snd z27)).1 + IntKind.wrap .i64 (List.getD u24 (Int.toNat (Prod.fst (Prod.snd z27)).2.1) (0 : Int) * List.getD u24 (Int.toNat (Prod.fst (Prod.snd z27)).2.1) (0 : Int))), IntKind.wrap .i64 ((Prod.fst (Prod.snd z27)).2.1 + (1 : Int)), (Prod.fst (Prod.snd z27)).2.2 ++ [FloatKind.nearest .f32 (List.getD u24 (Int.toNat (Prod.fst (Prod.snd z27)).2.1) (0 : Int))]), k27), ⟨next_s h⟩, ⟨lt_gs hm27.symm⟩, (by repeat' constructor)⟩
                · have h := exit_s h
                  refine br_d h (fun h => ?_) (fun h => ?_)
                  · exact rtc h
                  · refine call_s h fun h => ?_
                    refine br_b h (fun h => ?_) (fun h => ?_)
                    · exact rtc h
                    · refine ⟨⟨(Prod.fst z27, ((Prod.fst (Prod.snd z27)).1, (Prod.fst (Prod.snd z27)).2.2), (0 : Int), big), ⟨loop_s h⟩, (by repeat' constructor)⟩, fun z28 hz28 => ?_⟩
                      obtain ⟨k28, hm28, h⟩ := iter_pos hz28
                      refine br_d h (fun h => ?_) (fun h => ?_)
                      · refine call_s h fun h => ?_
                        refine call_s h fun h => ?_
                        refine call_s h fun h => ?_
                        refine call_s h fun h => ?_
                        refine br_b h (fun h => ?_) (fun h => ?_)
                        · refine br_b h (fun h => ?_) (fun h => ?_)
                          · have h := exit_s h
                            exact rtc h
                          · refine call_s h fun h => ?_
                            refine br_b h (fun h => ?_) (fun h => ?_)
                            · have h := exit_s h
                              exact rtc h
                            · exact ⟨(Prod.fst z28, Prod.fst (Prod.snd z28), IntKind.wrap .i64 (Prod.fst (Prod.snd (Prod.snd z28)) + (1 : Int)), k28), ⟨next_s h⟩, ⟨lt_gs hm28.symm⟩, (by repeat' constructor)⟩
                        · exact ⟨(Prod.fst z28, Prod.fst (Prod.snd z28), IntKind.wrap .i64 (Prod.fst (Prod.snd (Prod.snd z28)) + (1 : Int)), k28), ⟨next_s h⟩, ⟨lt_gs hm28.symm⟩, (by repeat' constructor)⟩
                      · have h := exit_s h
                        refine call_s h fun h => ?_
                        refine call_s h fun h => ?_
                        refine call_s h fun h => ?_
                        refine call_s h fun h => ?_
                        refine br_b h (fun h => ?_) (fun h => ?_)
                        · refine br_b h (fun h => ?_) (fun h => ?_)
                          · refine call_s h fun h => ?_
                            refine br_b h (fun h => ?_) (fun h => ?_)
                            · exact rtc h
                            · refine call_s h fun h => ?_
                              refine call_s h fun h => ?_
                              refine call_s h fun h => ?_
                              refine call_s h fun h => ?_
                              refine br_b h (fun h => ?_) (fun h => ?_)
                              · refine br_b h (fun h => ?_) (fun h => ?_)
                                · refine call_s h fun h => ?_
                                  refine br_b h (fun h => ?_) (fun h => ?_)
                                  · exact rtc h
                                  · refine call_s h fun h => ?_
                                    refine call_s h fun h => ?_
                                    refine call_s h fun h => ?_
                                    refine call_s h fun h => ?_
                                    refine br_b h (fun h => ?_) (fun h => ?_)
                                    · exact rtc h
                                    · refine br_b h (fun h => ?_) (fun h => ?_)
                                      · exact rtc h
                                      · refine br_d h (fun h => ?_) (fun h => ?_)
                                        · exact rtc h
                                        · refine call_s h fun h => ?_
                                          exact rtc h
                                · refine call_s h fun h => ?_
                                  refine call_s h fun h => ?_
                                  refine call_s h fun h => ?_
                                  refine call_s h fun h => ?_
                                  refine br_b h (fun h => ?_) (fun h => ?_)
                                  · exact rtc h
                                  · refine br_b h (fun h => ?_) (fun h => ?_)
                                    · exact rtc h
                                    · refine br_d h (fun h => ?_) (fun h => ?_)
                                      · exact rtc h
                                      · refine call_s h fun h => ?_
                                        exact rtc h
                              · refine call_s h fun h => ?_
                                refine call_s h fun h => ?_
                                refine call_s h fun h => ?_
                                refine call_s h fun h => ?_
                                refine br_b h (fun h => ?_) (fun h => ?_)
                                · exact rtc h
                                · refine br_b h (fun h => ?_) (fun h => ?_)
                                  · exact rtc h
                                  · refine br_d h (fun h => ?_) (fun h => ?_)
                                    · exact rtc h
                                    · refine call_s h fun h => ?_
                                      exact rtc h
                          · refine call_s h fun h => ?_
                            refine call_s h fun h => ?_
                            refine call_s h fun h => ?_
                            refine call_s h fun h => ?_
                            refine br_b h (fun h => ?_) (fun h => ?_)
                            · refine br_b h (fun h => ?_) (fun h => ?_)
                              · refine call_s h fun h => ?_
                                refine br_b h (fun h => ?_) (fun h => ?_)
                                · exact rtc h
                                · refine call_s h fun h => ?_
                                  refine call_s h fun h => ?_
                                  refine call_s h fun h => ?_
                                  refine call_s h fun h => ?_
                                  refine br_b h (fun h => ?_) (fun h => ?_)
                                  · exact rtc h
                                  · refine br_b h (fun h => ?_) (fun h => ?_)
                                    · exact rtc h
                                    · refine br_d h (fun h => ?_) (fun h => ?_)
                                      · exact rtc h
                                      · refine call_s h fun h => ?_
                                        exact rtc h
                              · refine call_s h fun h => ?_
                                refine call_s h fun h => ?_
                                refine call_s h fun h => ?_
                                refine call_s h fun h => ?_
                                refine br_b h (fun h => ?_) (fun h => ?_)
                                · exact rtc h
                                · refine br_b h (fun h => ?_) (fun h => ?_)
                                  · exact rtc h
                                  · refine br_d h (fun h => ?_) (fun h => ?_)
                                    · exact rtc h
                                    · refine call_s h fun h => ?_
                                      exact rtc h
                            · refine call_s h fun h => ?_
                              refine call_s h fun h => ?_
                              refine call_s h fun h => ?_
                              refine call_s h fun h => ?_
                              refine br_b h (fun h => ?_) (fun h => ?_)
                              · exact rtc h
                              · refine br_b h (fun h => ?_) (fun h => ?_)
                                · exact rtc h
                                · refine br_d h (fun h => ?_) (fun h => ?_)
                                  · exact rtc h
                                  · refine call_s h fun h => ?_
                                    exact rtc h
                        · refine call_s h fun h => ?_
                          refine call_s h fun h => ?_
                          refine call_s h fun h => ?_
                          refine call_s h fun h => ?_
                          refine br_b h (fun h => ?_) (fun h => ?_)
                          · refine br_b h (fun h => ?_) (fun h => ?_)
                            · refine call_s h fun h => ?_
                              refine br_b h (fun h => ?_) (fun h => ?_)
                              · exact rtc h
                              · refine call_s h fun h => ?_
                                refine call_s h fun h => ?_
                                refine call_s h fun h => ?_
                                refine call_s h fun h => ?_
                                refine br_b h (fun h => ?_) (fun h => ?_)
                                · exact rtc h
                                · refine br_b h (fun h => ?_) (fun h => ?_)
                                  · exact rtc h
                                  · refine br_d h (fun h => ?_) (fun h => ?_)
                                    · exact rtc h
                                    · refine call_s h fun h => ?_
                                      exact rtc h
                            · refine call_s h fun h => ?_
                              refine call_s h fun h => ?_
                              refine call_s h fun h => ?_
                              refine call_s h fun h => ?_
                              refine br_b h (fun h => ?_) (fun h => ?_)
                              · exact rtc h
                              · refine br_b h (fun h => ?_) (fun h => ?_)
                                · exact rtc h
                                · refine br_d h (fun h => ?_) (fun h => ?_)
                                  · exact rtc h
                                  · refine call_s h fun h => ?_
                                    exact rtc h
                          · refine call_s h fun h => ?_
                            refine call_s h fun h => ?_
                            refine call_s h fun h => ?_
                            refine call_s h fun h => ?_
                            refine br_b h (fun h => ?_) (fun h => ?_)
                            · exact rtc h
                            · refine br_b h (fun h => ?_) (fun h => ?_)
                              · exact rtc h
                              · refine br_d h (fun h => ?_) (fun h => ?_)
                                · exact rtc h
                                · refine call_s h fun h => ?_
                                  exact rtc h
            · have h := exit_s h
              refine ⟨⟨((Prod.fst z26).2, ((0 : Int), (0 : Int), (Prod.fst z26).2), big), ⟨loop_s h⟩, (by repeat' constructor)⟩, fun z29 hz29 => ?_⟩
              obtain ⟨k29, hm29, h⟩ := iter_pos hz29
              refine br_d h (fun h => ?_) (fun h => ?_)
              · refine ob_s h fun h => ?_
                refine ob_s h fun h => ?_
                refine call_s h fun h => ?_
                refine br_b h (fun h => ?_) (fun h => ?_)
                · have h := exit_s h
                  exact rtc h
                · refine ob_s h fun h => ?_
                  refine ob_s h fun h => ?_
                  refine ob_s h fun h => ?_
                  refine ob_s h fun h => ?_
                  refine ob_s h fun h => ?_
                  refine ob_s h fun h => ?_
                  refine ob_t ?_
                  refine ob_s h fun h => ?_
                  exact ⟨(Prod.fst z29, (IntKind.wrap .i64 ((Prod.fst (Prod.snd z29)).1 + IntKind.wrap .i64 (List.getD u24 (Int.toNat (Prod.fst (Prod.snd z29)).2.1) (0 : Int) * List.getD u24 (Int.toNat (Prod.fst (Prod.snd z29)).2.1) (0 : Int))), IntKind.wrap .i64 ((Prod.fst (Prod.snd z29)).2.1 + (1 : Int)), (Prod.fst (Prod.snd z29)).2.2 ++ [FloatKind.nearest .f32 (List.getD u24 (Int.toNat (Prod.fst (Prod.snd z29)).2.1) (0 : Int))]), k29), ⟨next_s h⟩, ⟨lt_gs hm29.symm⟩, (by repeat' constructor)⟩
              · have h := exit_s h
                refine br_d h (fun h => ?_) (fun h => ?_)
                · exact rtc h
                · refine call_s h fun h => ?_
                  refine br_b h (fun h => ?_) (fun h => ?_)
                  · exact rtc h
                  · refine ⟨⟨(Prod.fst z29, ((Prod.fst (Prod.snd z29)).1, (Prod.fst (Prod.snd z29)).2.2), (0 : Int), big), ⟨loop_s h⟩, (by repeat' constructor)⟩, fun z30 hz30 => ?_⟩
                    obtain ⟨k30, hm30, h⟩ := iter_pos hz30
                    refine br_d h (fun h => ?_) (fun h => ?_)
                    · refine call_s h fun h => ?_
                      refine call_s h fun h => ?_
                      refine call_s h fun h => ?_
                      refine call_s h fun h => ?_
                      refine br_b h (fun h => ?_) (fun h => ?_)
                      · refine br_b h (fun h => ?_) (fun h => ?_)
                        · have h := exit_s h
                          exact rtc h
                        · refine call_s h fun h => ?_
                          refine br_b h (fun h => ?_) (fun h => ?_)
                          · have h := exit_s h
                            exact rtc h
                          · exact ⟨(Prod.fst z30, Prod.fst (Prod.snd z30), IntKind.wrap .i64 (Prod.fst (Prod.snd (Prod.snd z30)) + (1 : Int)), k30), ⟨next_s h⟩, ⟨lt_gs hm30.symm⟩, (by repeat' constructor)⟩
                      · exact ⟨(Prod.fst z30, Prod.fst (Prod.snd z30), IntKind.wrap .i64 (Prod.fst (Prod.snd (Prod.snd z30)) + (1 : Int)), k30), ⟨next_s h⟩, ⟨lt_gs hm30.symm⟩, (by repeat' constructor)⟩
                    · have h := exit_s h
                      refine call_s h fun h => ?_
                      refine call_s h fun h => ?_
                      refine call_s h fun h => ?_
                      refine call_s h fun h => ?_
                      refine br_b h (fun h => ?_) (fun h => ?_)
                      · refine br_b h (fun h => ?_) (fun h => ?_)
                        · refine call_s h fun h => ?_
                          refine br_b h (fun h => ?_) (fun h => ?_)
                          · exact rtc h
                          · refine call_s h fun h => ?_
                            refine call_s h fun h => ?_
                            refine call_s h fun h => ?_
                            refine call_s h fun h => ?_
                            refine br_b h (fun h => ?_) (fun h => ?_)
                            · refine br_b h (fun h => ?_) (fun h => ?_)
                              · refine call_s h fun h => ?_
                                refine br_b h (fun h => ?_) (fun h => ?_)
                                · exact rtc h
                                · refine call_s h fun h => ?_
                                  refine call_s h fun h => ?_
                                  refine call_s h fun h => ?_
                                  refine call_s h fun h => ?_
                                  refine br_b h (fun h => ?_) (fun h => ?_)
                                  · exact rtc h
                                  · refine br_b h (fun h => ?_) (fun h => ?_)
                                    · exact rtc h
                                    · refine br_d h (fun h => ?_) (fun h => ?_)
                                      · exact rtc h
                                      · refine call_s h fun h => ?_
                                        exact rtc h
                              · refine call_s h fun h => ?_
                                refine call_s h fun h => ?_
                                refine call_s h fun h => ?_
                                refine call_s h fun h => ?_
                                refine br_b h (fun h => ?_) (fun h => ?_)
                                · exact rtc h
                                · refine br_b h (fun h => ?_) (fun h => ?_)
                                  · exact rtc h
                                  · refine br_d h (fun h => ?_) (fun h => ?_)
                                    · exact rtc h
                                    · refine call_s h fun h => ?_
                                      exact rtc h
                            · refine call_s h fun h => ?_
                              refine call_s h fun h => ?_
                              refine call_s h fun h => ?_
                              refine call_s h fun h => ?_
                              refine br_b h (fun h => ?_) (fun h => ?_)
                              · exact rtc h
                              · refine br_b h (fun h => ?_) (fun h => ?_)
                                · exact rtc h
                                · refine br_d h (fun h => ?_) (fun h => ?_)
                                  · exact rtc h
                                  · refine call_s h fun h => ?_
                                    exact rtc h
                        · refine call_s h fun h => ?_
                          refine call_s h fun h => ?_
                          refine call_s h fun h => ?_
                          refine call_s h fun h => ?_
                          refine br_b h (fun h => ?_) (fun h => ?_)
                          · refine br_b h (fun h => ?_) (fun h => ?_)
                            · refine call_s h fun h => ?_
                              refine br_b h (fun h => ?_) (fun h => ?_)
                              · exact rtc h
                              · refine call_s h fun h => ?_
                                refine call_s h fun h => ?_
                                refine call_s h fun h => ?_
                                refine call_s h fun h => ?_
                                refine br_b h (fun h => ?_) (fun h => ?_)
                                · exact rtc h
                                · refine br_b h (fun h => ?_) (fun h => ?_)
                                  · exact rtc h
                                  · refine br_d h (fun h => ?_) (fun h => ?_)
                                    · exact rtc h
                                    · refine call_s h fun h => ?_
                                      exact rtc h
                            · refine call_s h fun h => ?_
                              refine call_s h fun h => ?_
                              refine call_s h fun h => ?_
                              refine call_s h fun h => ?_
                              refine br_b h (fun h => ?_) (fun h => ?_)
                              · exact rtc h
                              · refine br_b h (fun h => ?_) (fun h => ?_)
                                · exact rtc h
                                · refine br_d h (fun h => ?_) (fun h => ?_)
                                  · exact rtc h
                                  · refine call_s h fun h => ?_
                                    exact rtc h
                          · refine call_s h fun h => ?_
                            refine call_s h fun h => ?_
                            refine call_s h fun h => ?_
                            refine call_s h fun h => ?_
                            refine br_b h (fun h => ?_) (fun h => ?_)
                            · exact rtc h
                            · refine br_b h (fun h => ?_) (fun h => ?_)
                              · exact rtc h
                              · refine br_d h (fun h => ?_) (fun h => ?_)
                                · exact rtc h
                                · refine call_s h fun h => ?_
                                  exact rtc h
                      · refine call_s h fun h => ?_
                        refine call_s h fun h => ?_
                        refine call_s h fun h => ?_
                        refine call_s h fun h => ?_
                        refine br_b h (fun h => ?_) (fun h => ?_)
                        · refine br_b h (fun h => ?_) (fun h => ?_)
                          · refine call_s h fun h => ?_
                            refine br_b h (fun h => ?_) (fun h => ?_)
                            · exact rtc h
                            · refine call_s h fun h => ?_
                              refine call_s h fun h => ?_
                              refine call_s h fun h => ?_
                              refine call_s h fun h => ?_
                              refine br_b h (fun h => ?_) (fun h => ?_)
                              · exact rtc h
                              · refine br_b h (fun h => ?_) (fun h => ?_)
                                · exact rtc h
                                · refine br_d h (fun h => ?_) (fun h => ?_)
                                  · exact rtc h
                                  · refine call_s h fun h => ?_
                                    exact rtc h
                          · refine call_s h fun h => ?_
                            refine call_s h fun h => ?_
                            refine call_s h fun h => ?_
                            refine call_s h fun h => ?_
                            refine br_b h (fun h => ?_) (fun h => ?_)
                            · exact rtc h
                            · refine br_b h (fun h => ?_) (fun h => ?_)
                              · exact rtc h
                              · refine br_d h (fun h => ?_) (fun h => ?_)
                                · exact rtc h
                                · refine call_s h fun h => ?_
                                  exact rtc h
                        · refine call_s h fun h => ?_
                          refine call_s h fun h => ?_
                          refine call_s h fun h => ?_
                          refine call_s h fun h => ?_
                          refine br_b h (fun h => ?_) (fun h => ?_)
                          · exact rtc h
                          · refine br_b h (fun h => ?_) (fun h => ?_)
                            · exact rtc h
                            · refine br_d h (fun h => ?_) (fun h => ?_)
                              · exact rtc h
                              · refine call_s h fun h => ?_
                                exact rtc h
set_option maxRecDepth 100000 in
theorem L05_FigureWithin_ok : SpecOK Tryd.prog 5 true (pureT k_L05_FigureWithin g_L05_FigureWithin) := by
  refine pureT_ok (sp := (sp_8b (sp_12 (sp_21 (sp_22 (sp_11 (sp_23 (sp_14 (sp_24 (sp_25 (sp_27 (sp_28 (sp_16 (sp_29 (sp_26 sp0))))))))))))))) (fn := Tryd.f5) (body := bodyOf Tryd.f5) mixed (sp_8b_ok (sp_12_ok (sp_21_ok (sp_22_ok (sp_11_ok (sp_23_ok (sp_14_ok (sp_24_ok (sp_25_ok (sp_27_ok (sp_28_ok (sp_16_ok (sp_29_ok (sp_26_ok sp0_ok)))))))))))))) Tryd.func5 (by kernel_rfl) (by kernel_rfl) fun ls t h ho b hb => ?_
  unfold g_L05_FigureWithin at h
  split at h
  · rename_i u4 u5 u0 u6 wBy u24 u7
    cases h
    obtain rfl := bld_eq hb
    exact ⟨Nat.le_of_ble_eq_true (by kernel_rfl), _, _, L05_FigureWithin_vc u4 u5 u0 u6 wBy u24 u7 _ (ok_some ho)⟩
  · cases h
end Go.Sh
end

section
namespace Go.Sh
open Go Go.Proofs Go.RowKit Go.Sx Go.Sx06 Ieee Go.Fl
theorem meets_eq (a b c d : Int) : y24 a b c d = some (decide (max a c ≤ min b d)) := by
  unfold y24
  congr 1
  refine decide_eq_decide.2 ?_
  split <;> split <;> omega
def plusB (b : Nat) (d : Int) : Nat := (Format.add (FloatKind.format .f32) b (FloatKind.nearest .f32 d)).getD 0
theorem plusB_wh {b : Nat} {d : Int} (h : se b = 0) (hd : -32767 ≤ d ∧ d ≤ 32767) : Option.isSome (Format.add (FloatKind.format .f32) b (FloatKind.nearest .f32 d)) = true ∧ Wh (plusB b d) (fi b + d) := by
  have hb := (se_whole h).2
  obtain ⟨c, hc, hw⟩ := wh_add (se_wh h) (wh_near (n := d) (by omega)) (by omega)
  have hc : Format.add (FloatKind.format .f32) b (FloatKind.nearest .f32 d) = some c := hc
  unfold plusB
  rw [hc]
  exact ⟨rfl, hw⟩
section
variable {l : List Nat} {noise : Int} {ds : List Int}
theorem by_step {i : Nat} (hl : l.length ≤ 1024) (hn : 0 ≤ noise ∧ noise ≤ 32767) (hi : i < l.length) (hd : i < ds.length) (hs : se (l.getD i 0) = 0) :
    L05_FigureWithin_b0 noise ds ((i : Int), upd_ l (fun j => plusB (l.getD j 0) (ds.getD j 0)) i) = if decide (-noise ≤ ds.getD i 0 ∧ ds.getD i 0 ≤ noise) = false then some (.inr (.inl ())) else some (.inl ((i : Int) + 1, upd_ l (fun j => plusB (l.getD j 0) (ds.getD j 0)) (i + 1))) := by
  unfold L05_FigureWithin_b0
  dsimp only
  rw [upd_len]
  simp only [Int.toNat_natCast, show ((i : Int) < (l.length : Int)) by omega, show ((i : Int) < (ds.length : Int)) by omega, show ((0 : Int) ≤ (i : Int)) by omega, hi, hd, and_self, if_true, upd_at hi, Nat.lt_irrefl, if_false]
  rw [wr64 (x := 0 - noise) (by omega), Int.zero_sub, withinB_eq, bind_some']
  by_cases h : -noise ≤ ds.getD i 0 ∧ ds.getD i 0 ≤ noise
  · rw [nd_t h, if_neg Bool.false_ne_true, decide_eq_true h, if_neg (show ¬ true = false by decide), if_pos (plusB_wh hs (by omega)).1, wr64 (by omega), ← upd_set (l := l) hi]
    rfl
  · rw [nd_f h, if_pos rfl, decide_eq_false h, if_pos rfl]
def sqs (ds : List Int) : Nat → Int
  | 0 => 0
  | i + 1 => sqs ds i + ds.getD i 0 * ds.getD i 0
theorem sq_small {d : Int} (h : -32767 ≤ d ∧ d ≤ 32767) : 0 ≤ d * d ∧ d * d ≤ 1073676289 := by
  have e : d * d = (d.natAbs : Int) * (d.natAbs : Int) := (Int.natAbs_mul_self' d).symm
  rw [e]
  have a : (d.natAbs : Int) ≤ 32767 := by omega
  have b : (0 : Int) ≤ (d.natAbs : Int) := by omega
  exact ⟨Int.mul_nonneg b b, Int.mul_le_mul a a b (by omega)⟩
theorem sqs_range (h : ∀ i, i < ds.length → -32767 ≤ ds.getD i 0 ∧ ds.getD i 0 ≤ 32767) : ∀ k, k ≤ ds.length → 0 ≤ sqs ds k ∧ sqs ds k ≤ 1073676289 * (k : Int)
  | 0, _ => by simp [sqs]
  | k + 1, hk => by
    have ih := sqs_range h k (by omega)
    have s := sq_small (h k (by omega))
    unfold sqs
    omega
theorem behind_step {i : Nat} {S : Int} {m : List Nat} (hm : m.length ≤ 2000) (hS : 0 ≤ S ∧ S ≤ 100000000000) (hi : i < ds.length) (hds : ds.length ≤ 10) :
    L05_FigureWithin_b1 ds (S, (i : Int), m) = if decide (-32767 ≤ ds.getD i 0 ∧ ds.getD i 0 ≤ 32767) = false then some (.inr (.inl ())) else some (.inl (S + ds.getD i 0 * ds.getD i 0, (i : Int) + 1, m ++ [FloatKind.nearest .f32 (ds.getD i 0)])) := by
  unfold L05_FigureWithin_b1
  dsimp only
  simp only [Int.toNat_natCast, show ((i : Int) < (ds.length : Int)) by omega, show ((0 : Int) ≤ (i : Int)) by omega, hi, and_self, if_true]
  rw [withinB_eq, bind_some']
  by_cases h : -32767 ≤ ds.getD i 0 ∧ ds.getD i 0 ≤ 32767
  · have s := sq_small h
    rw [nd_t h, if_neg Bool.false_ne_true, decide_eq_true h, if_neg (show ¬ true = false by decide), if_pos (by simp only [List.length_singleton]; omega), wr64 (x := ds.getD i 0 * ds.getD i 0) (by omega), wr64 (by omega), wr64 (by omega)]
  · rw [nd_f h, if_pos rfl, decide_eq_false h, if_pos rfl]
theorem take_map_snoc (ds : List Int) {i : Nat} (hi : i < ds.length) : (ds.take (i + 1)).map (FloatKind.nearest .f32) = (ds.take i).map (FloatKind.nearest .f32) ++ [FloatKind.nearest .f32 (ds.getD i 0)] := by
  rw [List.take_succ_eq_append_getElem hi, List.map_append]
  simp [List.getD, hi]
theorem behind_sum (h : ∀ i, i < ds.length → -32767 ≤ ds.getD i 0 ∧ ds.getD i 0 ≤ 32767) : ∀ k, k ≤ ds.length → sHi (zsO 0 ((ds.take k).map (FloatKind.nearest .f32))) = sqs ds k
  | 0, _ => by simp [zsO, sHi, sqs]
  | k + 1, hk => by
    have ih := behind_sum h k (by omega)
    have hd := h k (by omega)
    rw [take_map_snoc ds (by omega)]
    have e : ∀ a b : List Nat, zsO 0 (a ++ b) = zsO 0 a ++ zsO 0 b := fun a b => by simp [zsO]
    rw [e, sHi_append, ih]
    have f := (wh_se (wh_near (n := ds.getD k 0) (by omega)) (by omega)).2
    show sqs ds k + (sHi [sqP 0 (fi (FloatKind.nearest .f32 (ds.getD k 0)))]) = sqs ds k + ds.getD k 0 * ds.getD k 0
    rw [f]
    show sqs ds k + ((az (ds.getD k 0) + 0) * (az (ds.getD k 0) + 0) + 0) = _
    rw [Int.add_zero, Int.add_zero, az_abs, Int.natAbs_mul_self']
end
theorem zsO_app (n : Int) (a b : List Nat) : zsO n (a ++ b) = zsO n a ++ zsO n b := by simp [zsO]
theorem within_tail {rate noise tail time : Int} {l own : List Nat} {bh : List Int} {x : Int} (hl : l.length < 1000000000000) (ho : own.length < 1000000000000) (ha : (askE rate l noise tail).2 = 0) (h0 : (resE rate own).2 = 0) (ht : tmE time = 0)
    (hn : Nest (zsO 0 own) 0 (zsO noise l) tail) (hc : ¬ ((bh.length : Int) > 0) → In2 (zsO 0 own) (zsO noise l)) :
    Option.bind (iter (L05_FigureWithin_b2 rate l noise tail (x, own) (rate, l)) big (0 : Int)) (L05_FigureWithin_r2 rate l noise tail bh time (x, own) (rate, l)) = some true := by
  have a0 : (askE rate own 0 0).2 = 0 := by rw [askE_plain]; exact h0
  obtain ⟨z1, hr, _, hl2, _, _, hp⟩ := ask_zok a0
  obtain ⟨z2, _, _, hl3, _, _, _⟩ := ask_zok ha
  have e2 : iter (L05_FigureWithin_b2 rate l noise tail (x, own) (rate, l)) big (0 : Int) = some (.inr ()) := by
    refine iter_upto (fun i => (i : Int)) (k := 3) (fun i hi => ?_) ?_ (by omega)
    · have hk : 0 ≤ (i : Int) ∧ (i : Int) ≤ 2 := by omega
      unfold L05_FigureWithin_b2
      dsimp only
      rw [if_pos (by omega), copyResponse_eq rate ho, bind_some']
      dsimp only
      rw [decayG_eq rate _ ho, bind_some', copyR_eq rate _ _ hl, bind_some']
      dsimp only
      rw [decayWithinG_eq rate _ _ _ hl, bind_some', decW_ok ha hk, decW_ok a0 hk, wr64 (by omega)]
      by_cases he : (decS rate (zsO noise l) tail (i : Int)).2.2 = 0
      · obtain ⟨d1, d2, d3⟩ := dec_nest hn hr.1 he
        have d4 := decS_le (rate := rate) (kind := (i : Int)) z1 hr.1
        rw [if_pos (show ((decS rate (zsO noise l) tail (i : Int)).2.2 == 0) = true by simpa using he), bne_f d1, if_neg Bool.false_ne_true, meets_eq, bind_some', nd_t (by omega), if_neg Bool.false_ne_true]
        rfl
      · rw [if_neg (show ¬ ((decS rate (zsO noise l) tail (i : Int)).2.2 == 0) = true by simpa using he)]
        rfl
    · rfl
  rw [e2, bind_some']
  show L05_FigureWithin_r2_1 rate l noise tail bh time (x, own) (rate, l) () = some true
  have q1 : clW rate own 0 0 time = clS rate (zsO 0 own) 0 time := clW_ok a0 ht
  have q2 : clW rate l noise tail time = clS rate (zsO noise l) tail time := clW_ok ha ht
  have q3 : dwW rate own 0 0 time = dwZ rate time (zsO 0 own) 0 := dwW_ok a0 ht
  have q4 : dwW rate l noise tail time = dwZ rate time (zsO noise l) tail := dwW_ok ha ht
  have C : (clS rate (zsO 0 own) 0 time).2.2 = 0 → (clS rate (zsO noise l) tail time).2.2 = 0 → decide (max (clS rate (zsO 0 own) 0 time).1 (clS rate (zsO noise l) tail time).1 ≤ min (clS rate (zsO 0 own) 0 time).2.1 (clS rate (zsO noise l) tail time).2.1) = true := by
    intro g1 g2
    have := cl_nest hn g1 g2
    exact decide_eq_true (by omega)
  have D : (dwZ rate time (zsO 0 own) 0).2.2 = 0 → (dwZ rate time (zsO noise l) tail).2.2 = 0 → decide (max (dwZ rate time (zsO 0 own) 0).1 (dwZ rate time (zsO noise l) tail).1 ≤ min (dwZ rate time (zsO 0 own) 0).2.1 (dwZ rate time (zsO noise l) tail).2.1) = true := by
    intro _ g2
    have := dw_nest hn g2
    exact decide_eq_true (by omega)
  have E : ¬ ((bh.length : Int) > 0) → (ceW rate (zsO 0 own) 0).2.2 = 0 → (ceW rate (zsO noise l) tail).2.2 = 0 → decide (max (ceW rate (zsO 0 own) 0).1 (ceW rate (zsO noise l) tail).1 ≤ min (ceW rate (zsO 0 own) 0).2.1 (ceW rate (zsO noise l) tail).2.1) = true := by
    intro g0 g1 g2
    have := ce_nest (hc g0) z1 z2 hr.1 (by rw [zsO_len]; omega) g1 g2
    exact decide_eq_true (by omega)
  have na0 : ¬ (askE rate own 0 0).2 ≠ 0 := fun hh => hh a0
  have naa : ¬ (askE rate l noise tail).2 ≠ 0 := fun hh => hh ha
  unfold L05_FigureWithin_r2_1
  simp only [copyR_eq rate _ _ hl, copyR_eq rate _ _ ho, bind_some', clarityG_eq rate _ _ _ hl, clarityG_eq rate _ _ _ ho, definitionWithinG_eq rate _ _ _ hl, definitionWithinG_eq rate _ _ _ ho, centreG_eq rate _ _ hl, centreG_eq rate _ _ ho, if_neg na0, if_neg naa, q1, q2, q3, q4, meets_eq]
  generalize clS rate (zsO 0 own) 0 time = c1 at *
  generalize clS rate (zsO noise l) tail time = c2 at *
  generalize dwZ rate time (zsO 0 own) 0 = d1 at *
  generalize dwZ rate time (zsO noise l) tail = d2 at *
  generalize ceW rate (zsO 0 own) 0 = e1 at *
  generalize ceW rate (zsO noise l) tail = e3 at *
  clear hn hc z1 z2 e2 q1 q2 q3 q4
  have F : (if (e1.2.2 != (0 : Int)) = true then some true else if (e3.2.2 != (0 : Int)) = true then some true else if (bh.length : Int) > 0 then some true else some (decide (max e1.1 e3.1 ≤ min e1.2.1 e3.2.1))) = some true := by
    by_cases g1 : e1.2.2 = 0
    · by_cases g2 : e3.2.2 = 0
      · rw [bne_f g1, bne_f g2, if_neg Bool.false_ne_true, if_neg Bool.false_ne_true]
        by_cases g0 : (bh.length : Int) > 0
        · rw [if_pos g0]
        · rw [if_neg g0, E g0 g1 g2]
      · rw [bne_f g1, bne_t g2, if_neg Bool.false_ne_true, if_pos rfl]
    · rw [bne_t g1, if_pos rfl]
  simp only [F]
  by_cases g1 : c1.2.2 = 0
  · by_cases g2 : c2.2.2 = 0
    · simp only [g1, g2, beq_self_eq_true, if_true, C g1 g2, Bool.not_true, Bool.false_eq_true, if_false]
      by_cases g3 : d1.2.2 = 0
      · by_cases g4 : d2.2.2 = 0
        · simp only [g3, g4, beq_self_eq_true, if_true, D g3 g4, Bool.not_true, Bool.false_eq_true, if_false]
        · simp only [g3, beq_f g4, beq_self_eq_true, if_true, Bool.false_eq_true, if_false]
      · simp only [beq_f g3, Bool.false_eq_true, if_false]
    · simp only [g1, beq_f g2, beq_self_eq_true, if_true, Bool.false_eq_true, if_false]
      by_cases g3 : d1.2.2 = 0
      · by_cases g4 : d2.2.2 = 0
        · simp only [g3, g4, beq_self_eq_true, if_true, D g3 g4, Bool.not_true, Bool.false_eq_true, if_false]
        · simp only [g3, beq_f g4, beq_self_eq_true, if_true, Bool.false_eq_true, if_false]
      · simp only [beq_f g3, Bool.false_eq_true, if_false]
  · simp only [beq_f g1, Bool.false_eq_true, if_false]
    by_cases g3 : d1.2.2 = 0
    · by_cases g4 : d2.2.2 = 0
      · simp only [g3, g4, beq_self_eq_true, if_true, D g3 g4, Bool.not_true, Bool.false_eq_true, if_false]
      · simp only [g3, beq_f g4, beq_self_eq_true, if_true, Bool.false_eq_true, if_false]
    · simp only [beq_f g3, Bool.false_eq_true, if_false]
theorem figureWithin_true (rate : Int) {l : List Nat} (noise tail : Int) (ds bh : List Int) (time : Int) : L05_FigureWithin rate l noise tail ds bh time = some true := by
  unfold L05_FigureWithin
  rw [few_eq, bind_some']
  by_cases hf : fewB l = false
  · rw [hf]; rfl
  have hf : fewB l = true := by simpa using hf
  have hl : l.length < 1000000000000 := few_len hf
  rw [hf, if_neg (by decide), askErr_eq rate _ _ hl, bind_some']
  by_cases ha : (askE rate l noise tail).2 = 0
  case neg => rw [bne_t ha, if_pos rfl]
  rw [bne_f ha, if_neg Bool.false_ne_true]
  by_cases h7 : (ds.length : Int) > 700
  case pos => rw [if_pos h7]
  rw [if_neg h7]
  by_cases h10 : (bh.length : Int) > 10
  case pos => rw [if_pos h10]
  rw [if_neg h10, timeErrR_eq, bind_some', show (if 0 ≤ time ∧ time ≤ 1000000 then (0 : Int) else 2) = tmE time from rfl]
  by_cases ht : tmE time = 0
  case neg => rw [bne_t ht, if_pos rfl]
  rw [bne_f ht, if_neg Bool.false_ne_true, copyResponse_eq rate hl, bind_some']
  dsimp only
  obtain ⟨z2, hr, hs, hl2, hn, htl, hl0⟩ := ask_zok ha
  have hse : ∀ i, i < l.length → se (l.getD i 0) = 0 := fun i hi => hs _ (by simp [List.getD, hi])
  let g : Nat → Nat := fun j => plusB (l.getD j 0) (ds.getD j 0)
  let k := min l.length ds.length
  have hkd : k = min l.length ds.length := rfl
  cases hb : (List.range k).findIdx? (fun i => !decide (-noise ≤ ds.getD i 0 ∧ ds.getD i 0 ≤ noise)) with
  | some j =>
    obtain ⟨j1, j2, j3⟩ := idx_some (d := 0) hb
    simp only [List.length_range] at j1
    have rgd : ∀ i, i < k → (List.range k).getD i 0 = i := fun i hi => by simp [List.getD, hi]
    rw [rgd j j1] at j2
    have j1' : j < l.length ∧ j < ds.length := by omega
    have e0 : iter (L05_FigureWithin_b0 noise ds) big ((0 : Int), l) = some (.inl ()) := by
      have := iter_upto (body := L05_FigureWithin_b0 noise ds) (fun i => ((i : Int), upd_ l g i)) (k := j) (y := .inl ())
        (fun i hi => by
          have h3 := j3 i hi
          rw [rgd i (by omega)] at h3
          rw [by_step hl2 hn (by omega) (by omega) (hse i (by omega)), if_neg (by rw [Bool.not_eq_false'] at h3; rw [h3]; decide)]
          rfl) (by rw [by_step hl2 hn (by omega) (by omega) (hse j (by omega)), if_pos (by rw [Bool.not_eq_true'] at j2; exact j2)]) (by omega)
      rw [upd_zero] at this
      exact this
    rw [e0]
    rfl
  | none =>
    have nb : ∀ i, i < k → -noise ≤ ds.getD i 0 ∧ ds.getD i 0 ≤ noise := by
      intro i hi
      have := idx_none 0 hb i (by simpa using hi)
      rw [show (List.range k).getD i 0 = i by simp [List.getD, hi]] at this
      simpa using this
    have hk : k ≤ l.length ∧ k ≤ ds.length := by omega
    have e0 : iter (L05_FigureWithin_b0 noise ds) big ((0 : Int), l) = some (.inr (upd_ l g k)) := by
      have := iter_upto (body := L05_FigureWithin_b0 noise ds) (fun i => ((i : Int), upd_ l g i)) (k := k) (y := .inr (upd_ l g k))
        (fun i hi => by rw [by_step hl2 hn (by omega) (by omega) (hse i (by omega)), if_neg (by have := nb i hi; simpa using this)]; rfl)
        (by
          unfold L05_FigureWithin_b0
          dsimp only
          rw [upd_len]
          by_cases h : k = l.length
          · rw [if_neg (by omega)]
          · have : k = ds.length := by omega
            rw [if_pos (by omega), if_neg (by omega)]) (by omega)
      rw [upd_zero] at this
      exact this
    rw [e0, bind_some']
    show L05_FigureWithin_r0_1 rate l noise tail bh time (rate, l) (upd_ l g k) = some true
    unfold L05_FigureWithin_r0_1
    have hml : (upd_ l g k).length = l.length := upd_len _
    have hmw : ∀ i, i < l.length → ∃ n, Wh ((upd_ l g k).getD i 0) n ∧ 0 + az (n - fi (l.getD i 0)) ≤ noise ∧ n.natAbs < 16777216 := by
      intro i hi
      have hq := (se_whole (hse i hi)).2
      rw [upd_at hi]
      by_cases h : i < k
      · rw [if_pos h]
        have b := nb i h
        refine ⟨_, (plusB_wh (hse i hi) (by omega)).2, by unfold az; omega, by omega⟩
      · rw [if_neg h]
        exact ⟨_, se_wh (hse i hi), by unfold az; omega, by omega⟩
    generalize upd_ l g k = m at *
    cases hb2 : (List.range bh.length).findIdx? (fun i => !decide (-32767 ≤ bh.getD i 0 ∧ bh.getD i 0 ≤ 32767)) with
    | some j =>
      obtain ⟨j1, j2, j3⟩ := idx_some (d := 0) hb2
      simp only [List.length_range] at j1
      have rgd : ∀ i, i < bh.length → (List.range bh.length).getD i 0 = i := fun i hi => by simp [List.getD, hi]
      rw [rgd j j1] at j2
      have ok : ∀ i, i < j → -32767 ≤ bh.getD i 0 ∧ bh.getD i 0 ≤ 32767 := by
        intro i hi
        have h3 := j3 i hi
        rw [rgd i (by omega)] at h3
        simpa using h3
      have sr : ∀ i, i ≤ j → 0 ≤ sqs bh i ∧ sqs bh i ≤ 1073676289 * (i : Int) := by
        intro i
        induction i with
        | zero => intro _; simp [sqs]
        | succ i ih =>
          intro hi
          have a := ih (by omega)
          have b := sq_small (ok i (by omega))
          unfold sqs
          omega
      have e1 : iter (L05_FigureWithin_b1 bh) big ((0 : Int), (0 : Int), m) = some (.inl ()) := by
        have := iter_upto (body := L05_FigureWithin_b1 bh) (fun i => (sqs bh i, (i : Int), m ++ (bh.take i).map (FloatKind.nearest .f32))) (k := j) (y := .inl ())
          (fun i hi => by
            have a := sr i (by omega)
            rw [behind_step (by simp; omega) (by omega) (by omega) (by omega), if_neg (by have := ok i hi; simpa using this), take_map_snoc bh (by omega), List.append_assoc]
            rfl)
          (by
            have a := sr j (by omega)
            rw [behind_step (by simp; omega) (by omega) (by omega) (by omega), if_pos (by rw [Bool.not_eq_true'] at j2; exact j2)]) (by omega)
        simp only [List.take_zero, List.map_nil, List.append_nil] at this
        exact this
      rw [e1]
      rfl
    | none =>
      have ok : ∀ i, i < bh.length → -32767 ≤ bh.getD i 0 ∧ bh.getD i 0 ≤ 32767 := by
        intro i hi
        have := idx_none 0 hb2 i (by simpa using hi)
        rw [show (List.range bh.length).getD i 0 = i by simp [List.getD, hi]] at this
        simpa using this
      have sr := sqs_range ok
      have e1 : iter (L05_FigureWithin_b1 bh) big ((0 : Int), (0 : Int), m) = some (.inr (sqs bh bh.length, m ++ bh.map (FloatKind.nearest .f32))) := by
        have := iter_upto (body := L05_FigureWithin_b1 bh) (fun i => (sqs bh i, (i : Int), m ++ (bh.take i).map (FloatKind.nearest .f32))) (k := bh.length) (y := .inr (sqs bh bh.length, m ++ bh.map (FloatKind.nearest .f32)))
          (fun i hi => by
            have a := sr i (by omega)
            rw [behind_step (by simp; omega) (by omega) (by omega) (by omega), if_neg (by have := ok i hi; simpa using this), take_map_snoc bh (by omega), List.append_assoc]
            rfl)
          (by
            unfold L05_FigureWithin_b1
            dsimp only
            rw [if_neg (by omega), List.take_length]) (by omega)
        simp only [List.take_zero, List.map_nil, List.append_nil] at this
        exact this
      rw [e1, bind_some']
      show L05_FigureWithin_r1_1 rate l noise tail bh time (rate, l) (sqs bh bh.length, m ++ bh.map (FloatKind.nearest .f32)) = some true
      unfold L05_FigureWithin_r1_1
      dsimp only
      by_cases hbt : sqs bh bh.length > tail
      case pos => rw [if_pos hbt]
      have ho : (m ++ bh.map (FloatKind.nearest .f32)).length < 1000000000000 := by simp; omega
      rw [if_neg hbt, responseErr_eq rate ho, bind_some']
      by_cases h0 : (resE rate (m ++ bh.map (FloatKind.nearest .f32))).2 = 0
      case neg => rw [bne_t h0, if_pos rfl]
      rw [bne_f h0, if_neg Bool.false_ne_true]
      obtain ⟨z1, _, hs1, _, _, _, _⟩ := ask_zok (rate := rate) (noise := 0) (tail := 0) (by rw [askE_plain]; exact h0)
      have hin : In2 (zsO 0 m) (zsO noise l) := in2_of (Int.le_refl _) m l hml fun i hi => by
        obtain ⟨n, w1, w2, w3⟩ := hmw i (by omega)
        rw [(wh_se w1 w3).2]
        exact w2
      have hbs := behind_sum ok bh.length (Nat.le_refl _)
      rw [List.take_length] at hbs
      have hnest : Nest (zsO 0 (m ++ bh.map (FloatKind.nearest .f32))) 0 (zsO noise l) tail := by
        rw [zsO_app] at z1 ⊢
        exact nest_of hin (by rw [hbs]; omega) z1 z2
      refine within_tail hl ho ha h0 ht hnest fun hz => ?_
      have : bh = [] := List.eq_nil_of_length_eq_zero (by omega)
      rw [this, List.map_nil, List.append_nil]
      exact hin
end Go.Sh
end

section
namespace Go.Sx
set_option linter.unusedVariables false
open Go.RowKit Go.ChangeShapes Go.WideShapes
inductive K where
  | i (k : IntKind) | b | f (k : FloatKind) | s
def K.fits : K → D → Prop
  | .i k, .i k' n => k' = k ∧ (Lit.int k n).wf = true
  | .b, .b _ => True
  | .f k, .f k' n => k' = k ∧ (Lit.float k n).wf = true
  | .s, .s x => x.size ≤ maxLen
  | _, _ => False
def fitsAll : List K → List D → Prop
  | [], [] => True
  | k :: ks, d :: ds => k.fits d ∧ fitsAll ks ds
  | _, _ => False
theorem fitsAll_append : ∀ {ks : List K} {ds : List D} {ks' : List K} {ds' : List D}, fitsAll ks ds → fitsAll ks' ds' → fitsAll (ks ++ ks') (ds ++ ds')
  | [], [], _, _, _, h => h
  | _ :: _, _ :: _, _, _, h, h' => ⟨h.1, fitsAll_append h.2 h'⟩
  | [], _ :: _, _, _, h, _ => h.elim
  | _ :: _, [], _, _, h, _ => h.elim
theorem fitsAll_length : ∀ {ks : List K} {ds : List D}, fitsAll ks ds → ds.length = ks.length
  | [], [], _ => rfl
  | _ :: _, _ :: _, h => by simp [fitsAll_length h.2]
  | [], _ :: _, h => h.elim
  | _ :: _, [], h => h.elim
def kindsOf (g : TypeId → Option (List K)) (P : Program) : Nat → List Field → Option (List K)
  | _, [] => some []
  | n, f :: fs => match g f.type with
    | none => none
    | some ks => if f.offset = n ∧ P.cellsOf f.type = ks.length then (kindsOf g P (n + ks.length) fs).map (ks ++ ·) else none
def kinds (P : Program) : Nat → TypeId → Option (List K)
  | 0, _ => none
  | d + 1, t => match P.underlying t with
    | some .bool => some [.b]
    | some (.int k) => some [.i k]
    | some (.float k) => some [.f k]
    | some .string => some [.s]
    | some (.struct fs) => match kindsOf (kinds P d) P 0 fs.toList with
      | some ks => if P.cellsOf t = ks.length then some ks else none
      | none => none
    | some (.array n e) => match kinds P d e with
      | some ks => if P.cellsOf t = n * ks.length ∧ P.cellsOf e = ks.length then some (List.replicate n ks).flatten else none
      | none => none
    | _ => none
section
variable {H : Type} {enc : TypeId × Value → H} {P : Program} {w : World} {base : Nat} {spare : Nat → Bool} {held : Bool}
theorem array_cells {ks : List K} {e : TypeId} {m : Nat} (ih : ∀ cs x, DataW.trod enc P w base spare held m e cs = some x → ∃ ds : List D, cs = ds.map D.val ∧ fitsAll ks ds) :
    ∀ (n : Nat) (cs : List Value), cs.length = n * ks.length → (∀ i, i < n → ∃ x, DataW.trod enc P w base spare held m e ((cs.drop (i * ks.length)).take ks.length) = some x) → ∃ ds : List D, cs = ds.map D.val ∧ fitsAll (List.replicate n ks).flatten ds
  | 0, cs, hl, _ => ⟨[], by simpa using hl, trivial⟩
  | n + 1, cs, hl, h => by
    obtain ⟨x, hx⟩ := h 0 (by omega)
    obtain ⟨ds0, h0, h1⟩ := ih _ x hx
    obtain ⟨ds1, h2, h3⟩ := array_cells ih n (cs.drop ks.length) (by rw [List.length_drop, hl, Nat.add_mul]; omega) (fun i hi => by
      obtain ⟨y, hy⟩ := h (i + 1) (by omega)
      refine ⟨y, ?_⟩
      rw [List.drop_drop]
      rw [show ks.length + i * ks.length = (i + 1) * ks.length by rw [Nat.add_mul]; omega]
      exact hy)
    refine ⟨ds0 ++ ds1, ?_, fitsAll_append h1 h3⟩
    rw [List.map_append, ← h0, ← h2]
    simp
theorem struct_cells {g : TypeId → Option (List K)} {m : Nat} (ih : ∀ t ks cs x, g t = some ks → DataW.trod enc P w base spare held m t cs = some x → ∃ ds : List D, cs = ds.map D.val ∧ fitsAll ks ds) :
    ∀ (fs : List Field) (n : Nat) (ks : List K) (cs : List Value), kindsOf g P n fs = some ks → cs.length = n + ks.length → (∀ f ∈ fs, ∃ x, DataW.trod enc P w base spare held m f.type ((cs.drop f.offset).take (P.cellsOf f.type)) = some x) →
      ∃ ds : List D, cs.drop n = ds.map D.val ∧ fitsAll ks ds
  | [], n, ks, cs, hk, hl, _ => by
    simp only [kindsOf, Option.some.injEq] at hk
    subst hk
    refine ⟨[], ?_, trivial⟩
    simp at hl
    simp [hl]
  | f :: fs, n, ks, cs, hk, hl, h => by
    simp only [kindsOf] at hk
    split at hk
    · cases hk
    · rename_i kf hg
      split at hk
      · rename_i hc
        cases hr : kindsOf g P (n + kf.length) fs with
        | none => simp [hr] at hk
        | some kr =>
          simp only [hr, Option.map_some, Option.some.injEq] at hk
          subst hk
          obtain ⟨x, hx⟩ := h f List.mem_cons_self
          rw [hc.1, hc.2] at hx
          obtain ⟨ds0, h0, h1⟩ := ih f.type kf _ x hg hx
          obtain ⟨ds1, h2, h3⟩ := struct_cells ih fs (n + kf.length) kr cs hr (by rw [hl, List.length_append]; omega) (fun f' hf' => h f' (List.mem_cons_of_mem _ hf'))
          refine ⟨ds0 ++ ds1, ?_, fitsAll_append h1 h3⟩
          rw [List.map_append, ← h0, ← h2, ← List.drop_drop]
          exact (List.take_append_drop _ _).symm
      · cases hk
theorem trod_cells : ∀ (d : Nat) (t : TypeId) (ks : List K) (fuel : Nat) (cs : List Value) (x : DataW H × List MemPlace), kinds P d t = some ks → DataW.trod enc P w base spare held fuel t cs = some x →
    ∃ ds : List D, cs = ds.map D.val ∧ fitsAll ks ds
  | 0, _, _, _, _, _, h, _ => by cases h
  | d + 1, t, ks, fuel, cs, x, hk, hx => by
    unfold kinds at hk
    split at hk
    · rename_i ht
      cases hk
      obtain ⟨b, rfl, _⟩ := DataW.trod_bool ht hx
      exact ⟨[.b b], rfl, trivial, trivial⟩
    · rename_i k ht
      cases hk
      obtain ⟨n, rfl, _, hw⟩ := DataW.trod_int ht hx
      exact ⟨[.i k n], rfl, ⟨rfl, hw⟩, trivial⟩
    · rename_i k ht
      cases hk
      cases fuel with
      | zero => simp [DataW.trod] at hx
      | succ n =>
        rcases cs with _ | ⟨v, _ | ⟨v', r⟩⟩
        · simp [DataW.trod, ht] at hx
        · cases v with
          | float k2 n2 =>
            simp only [DataW.trod, ht] at hx
            split at hx
            · rename_i hh
              exact ⟨[.f k2 n2], rfl, ⟨hh.1, hh.2⟩, trivial⟩
            · cases hx
          | _ => simp [DataW.trod, ht] at hx
        · simp [DataW.trod, ht] at hx
    · rename_i ht
      cases hk
      obtain ⟨z, rfl, _, hw⟩ := DataW.trod_string ht hx
      exact ⟨[.s z], rfl, hw, trivial⟩
    · rename_i fs ht
      split at hk
      · rename_i ks' hks
        split at hk
        · rename_i hc
          cases hk
          obtain ⟨xs, n, rfl, _, hl, hxl, hf⟩ := DataW.trod_struct ht hx
          have := struct_cells (enc := enc) (w := w) (base := base) (spare := spare) (held := held) (g := kinds P d) (m := n) (fun t ks cs x h1 h2 => trod_cells d t ks n cs x h1 h2) fs.toList 0 ks cs hks (by rw [hl, hc]; omega) (fun f hfm => by
            obtain ⟨i, hi, hfi⟩ := List.mem_iff_getElem.1 hfm
            have hi' : i < fs.size := by simpa using hi
            have h1 := hf i f (by rw [Array.getElem?_eq_getElem hi']; simpa using hfi)
            exact ⟨xs[i]'(by omega), by rw [h1, List.getElem?_eq_getElem]⟩)
          simpa using this
        · cases hk
      · cases hk
    · rename_i n e ht
      split at hk
      · rename_i ks' hks
        split at hk
        · rename_i hc
          cases hk
          obtain ⟨xs, m, rfl, _, hl, hxl, hf⟩ := DataW.trod_array ht hx
          exact array_cells (fun cs x h => trod_cells d e ks' m cs x hks h) n cs (by rw [hl, hc.1]) (fun i hi => by
            have h1 := hf i hi
            rw [hc.2] at h1
            exact ⟨xs[i]'(by omega), by rw [h1, List.getElem?_eq_getElem]⟩)
        · cases hk
      · cases hk
    · cases hk
theorem trod_rows {t e : TypeId} {ks : List K} {d fuel : Nat} {cs : List Value} {x : DataW H × List MemPlace} (ht : P.underlying t = some (.slice e)) (hk : kinds P d e = some ks) (hc : P.cellsOf e = ks.length) (h0 : 0 < ks.length)
    (hx : DataW.trod enc P w base spare held fuel t cs = some x) :
    ∃ (v : Value) (rows : List (List D)), cs = [v] ∧ (∀ r ∈ rows, fitsAll ks r) ∧ IsRow w v (.lits ks.length rows) ∧ (x.1 = .nil ∧ rows = [] ∨ ∃ el sp, x.1 = .slice el sp ∧ el.length = rows.length) := by
  rcases DataW.trod_slice ht hx with ⟨rfl, rfl⟩ | ⟨a, len, cap, elems, rest, n, rfl, rfl, rfl, hb, hl, hm, hel, hi, _, _⟩
  · exact ⟨_, [], rfl, (fun _ h => by cases h), ⟨none, 0, rfl, ⟨by simp [Cont.n], fun _ => rfl⟩, fun h => absurd h (by simp [Cont.n])⟩, .inl ⟨rfl, rfl⟩⟩
  · -- each element's cells
    have hget : ∀ i, i < len → ∃ ds : List D, fitsAll ks ds ∧ ∀ j, j < ks.length → w.cell? ((a.add (i * ks.length)).add j) = (ds[j]?).map D.val := fun i hil => by
      have h1 := hi i hil
      rw [hc] at h1
      have h2 : elems[i]? = some (elems[i]'(by omega)) := List.getElem?_eq_getElem (by omega)
      rw [h2] at h1
      obtain ⟨cs', hcs, htr⟩ := Option.bind_eq_some_iff.1 h1
      obtain ⟨ds, hds, hfit⟩ := trod_cells d e ks n cs' _ hk htr
      obtain ⟨_, hcl, hat⟩ := World.cells?_some hcs
      refine ⟨ds, hfit, fun j hj => ?_⟩
      rw [hat j hj, hds, List.getElem?_map]
    let R : Nat → List D := fun i => if h : i < len then Classical.choose (hget i h) else []
    have hR : ∀ i (h : i < len), fitsAll ks (R i) ∧ ∀ j, j < ks.length → w.cell? ((a.add (i * ks.length)).add j) = ((R i)[j]?).map D.val := fun i h => by
      show fitsAll ks (if h : i < len then _ else _) ∧ _
      simp only [R, dif_pos h]
      exact Classical.choose_spec (hget i h)
    refine ⟨_, (List.range len).map R, rfl, fun r hr => ?_, ?_, .inr ⟨_, _, rfl, by simp [hel]⟩⟩
    · obtain ⟨i, hi', rfl⟩ := List.mem_map.1 hr
      exact (hR i (by simpa using hi')).1
    · refine ⟨some a, cap, by simp [Cont.n], ⟨by simpa [Cont.n] using hl, fun h => by cases h⟩, fun hn => ?_⟩
      have hn : 0 < len := by simpa [Cont.n] using hn
      have hsp : a.spot = none := by
        have h1 := (hR 0 hn).2 0 h0
        have hfl := fitsAll_length (hR 0 hn).1
        rw [List.getElem?_eq_getElem (by omega)] at h1
        simp [Addr.add] at h1
        cases hs : a.spot with
        | none => rfl
        | some s =>
          exfalso
          unfold World.cell? at h1
          simp only [hs] at h1
          split at h1
          · simp at h1
          · cases h1
      obtain ⟨b, off, sp⟩ := a
      simp only at hsp
      subst hsp
      refine ⟨b, off, rfl, fun j y hj => ?_⟩
      have hne : 0 < ks.length := h0
      have hjl : j < (Cont.lits ks.length ((List.range len).map R)).flat.length := (List.getElem?_eq_some_iff.1 hj).1
      rw [Cont.flat_length] at hjl
      simp only [Cont.n, Cont.e, List.length_map, List.length_range] at hjl
      have hq : j / ks.length < len := Nat.div_lt_of_lt_mul (by rw [Nat.mul_comm]; exact hjl)
      have hr : j % ks.length < ks.length := Nat.mod_lt _ hne
      have hg := Cont.flat_get (.lits ks.length ((List.range len).map R)) (i := j / ks.length) (j := j % ks.length) (by simpa [Cont.n] using hq) hr
      have ej : j / ks.length * ks.length + j % ks.length = j := by rw [Nat.mul_comm]; exact Nat.div_add_mod j _
      simp only [Cont.e] at hg
      rw [ej, hj] at hg
      have hcell := (hR (j / ks.length) hq).2 (j % ks.length) hr
      have hfl := fitsAll_length (hR (j / ks.length) hq).1
      rw [add_at, add_at, Nat.add_assoc, ej, List.getElem?_eq_getElem (by omega)] at hcell
      rw [hcell]
      simp only [Option.some.injEq] at hg
      simp [hg, Cont.cell, List.getD, hq, List.getElem?_eq_getElem (show j % ks.length < (R (j / ks.length)).length by omega)]
theorem isRow_of {v : Value} {c c' : Cont} (h : IsRow w v c) (hn : c'.n = c.n) (hf : c'.flat = c.flat) : IsRow w v c' := by
  obtain ⟨a, cap, hv, hc, hcell⟩ := h
  exact ⟨a, cap, by rw [hn]; exact hv, by rw [hn]; exact hc, fun h => by
    obtain ⟨b, off, e, hx⟩ := hcell (by rw [← hn]; exact h)
    exact ⟨b, off, e, by rw [hf]; exact hx⟩⟩
theorem ints_of : ∀ {n : Nat} {r : List D}, fitsAll (List.replicate n (.i .i64)) r → ∃ l : List Int, r = l.map (D.i .i64) ∧ l.length = n ∧ ∀ x ∈ l, inI x
  | 0, [], _ => ⟨[], rfl, rfl, fun _ h => by cases h⟩
  | n + 1, .i k x :: r, h => by
    obtain ⟨l, h1, h2, h3⟩ := ints_of (n := n) h.2
    obtain ⟨rfl, hw⟩ := h.1
    refine ⟨x :: l, by rw [h1]; rfl, by simp [h2], fun y hy => ?_⟩
    rcases List.mem_cons.1 hy with rfl | hy
    · unfold inI
      simpa [Lit.wf, IntKind.min, IntKind.max, IntKind.signed, IntKind.bits] using hw
    · exact h3 y hy
  | 0, _ :: _, h => h.elim
  | _ + 1, [], h => h.elim
  | _ + 1, .b _ :: _, h => h.1.elim
  | _ + 1, .f _ _ :: _, h => h.1.elim
  | _ + 1, .s _ :: _, h => h.1.elim
  | _ + 1, .v _ :: _, h => h.1.elim
theorem rows_ints {n : Nat} {rows : List (List D)} (h : ∀ r ∈ rows, fitsAll (List.replicate n (.i .i64)) r) : ∃ l : List (List Int), rows = l.map (fun r => r.map (D.i .i64)) ∧ l.length = rows.length ∧ ∀ r ∈ l, r.length = n ∧ ∀ x ∈ r, inI x := by
  induction rows with
  | nil => exact ⟨[], rfl, rfl, fun _ h => by cases h⟩
  | cons r rows ih =>
    obtain ⟨l, h1, h2, h3⟩ := ih fun r hr => h r (List.mem_cons_of_mem _ hr)
    obtain ⟨x, h4, h5, h6⟩ := ints_of (h r List.mem_cons_self)
    refine ⟨x :: l, by rw [h1, h4]; rfl, by simp [h2], fun y hy => ?_⟩
    rcases List.mem_cons.1 hy with rfl | hy
    · exact ⟨h5, h6⟩
    · exact h3 y hy
theorem lits_recs {n : Nat} {l : List (List Int)} (h : ∀ r ∈ l, r.length = n) : (Cont.recs n l).flat = (Cont.lits n (l.map fun r => r.map (D.i .i64))).flat := by
  simp only [Cont.flat]
  induction l with
  | nil => rfl
  | cons r l ih =>
    rw [List.flatMap_cons, List.map_cons, List.flatMap_cons, ih fun r hr => h r (List.mem_cons_of_mem _ hr)]
    congr 1
    have hr := h r List.mem_cons_self
    subst hr
    rw [recD_self]
    exact (litD_self' (r.map (D.i .i64)) (by simp)).symm
  where
  litD_self' {n : Nat} (r : List D) (h : r.length = n) : litD n r = r := by subst h; exact litD_self r
end
inductive ArgIs (w : World) : Value → A → Prop where
  | d (x : D) : ArgIs w x.val (.d x)
  | s (l : List D) : ArgIs w (.agg (l.map D.val).toArray) (.s l)
  | r (v : Value) (c : Cont) (he : 0 < c.e) (h : IsRow w v c) : ArgIs w v (.r c)
section
variable [Globs] {P : Program} {w : World}
end
section
variable {H : Type} {enc : TypeId × Value → H} {P : Program}
theorem trod_all {sp : Nat → Bool} (hl : laidOutB P = true) {W W' : World} (hb : Below W.heap.size W W') : ∀ (ts : List TypeId) (vs : List Value) (ds : List (DataW H)) (ps : List MemPlace), (∀ t ∈ ts, P.readableRec t = true ∧ t < P.types.size) →
    DataW.TrodAll enc P W 0 (fun _ => true) true ts vs ds ps → (∀ p ∈ ps, p.block < W.heap.size) → (∀ p ∈ ps, sp p.block = true) → DataW.TrodAll enc P W' 0 sp true ts vs ds ps
  | [], [], [], _, _, h, _, _ => h
  | t :: ts, v :: vs, d :: ds, ps, ht, h, hlt, hs => by
    obtain ⟨p, q, h1, h2, rfl⟩ := h
    have htt := ht t List.mem_cons_self
    exact ⟨p, q, WideElems.Trod_stays hl htt.1 htt.2 h1 (fun x hx => hb.same (hlt x (List.mem_append_left _ hx))) (fun x hx => hs x (List.mem_append_left _ hx)),
      trod_all hl hb ts vs ds q (fun t ht' => ht t (List.mem_cons_of_mem _ ht')) h2 (fun x hx => hlt x (List.mem_append_right _ hx)) (fun x hx => hs x (List.mem_append_right _ hx)), rfl⟩
  | [], _ :: _, _, _, _, h, _, _ => h.elim
  | _ :: _, [], _, _, _, h, _, _ => h.elim
  | [], [], _ :: _, _, _, h, _, _ => h.elim
  | _ :: _, _ :: _, [], _, _, h, _, _ => h.elim
theorem law_post {f : Func} {s : ChangeSpec} {apart fresh handsOn again : Bool} {W W' : World} {args : Array Value} {ds gs : List (DataW H)} {before : List MemPlace} {tb : TypeId} (hvars : s.vars = []) (hrt : f.resultTypes = #[tb]) (htb : P.underlying tb = some .bool)
    (hres : (s.fn H (ds ++ gs)).results = [.lit (.bool true)]) (hargs : (s.fn H (ds ++ gs)).args = ds) (hsv : (s.fn H (ds ++ gs)).vars = []) (hl : laidOutB P = true) (hread : ∀ t ∈ f.params.toList, P.readableRec t = true ∧ t < P.types.size)
    (hW : DataW.Whole enc P f.params.toList s.vars apart W args.toList ds gs before) (hb : Below W.heap.size W W') : s.post enc P f apart fresh handsOn again W args (.bool true) W' := by
  have hlt : ∀ p ∈ before, p.block < W.heap.size := fun p hp => hW.lt p hp
  have hW' := hW
  obtain ⟨p, q, h1, h2, rfl, hfz, hnd⟩ := hW'
  rw [hvars] at h2
  have hq : q = [] := by
    cases gs with
    | nil => exact h2
    | cons _ _ => exact h2.elim
  subst hq
  rw [List.append_nil] at hlt hfz hnd
  have hA : ∀ sp : Nat → Bool, (∀ x ∈ p, sp x.block = true) → DataW.TrodAll enc P W' 0 sp true f.params.toList args.toList ds p := fun sp hs => trod_all hl hb _ _ _ _ hread h1 hlt hs
  have hR : ∀ (b : Nat) (sp : Nat → Bool) (hd : Bool), DataW.TrodAll enc P W' b sp hd [tb] [.bool true] [.lit (.bool true)] [] := fun b sp hd => ⟨[], [], ⟨1, by simp [DataW.trod, htb, Value.cells]⟩, rfl, rfl⟩
  have hrl : (Value.bool true).resultList f.resultTypes.size = [.bool true] := by rw [hrt]; rfl
  have hrt' : f.resultTypes.toList = [tb] := by rw [hrt]
  refine ⟨ds, gs, p ++ [], [], p, [], hW, ?_, ?_, ?_, World.keptBut_mono (fun x hx => ⟨hx, .inr (.inl (by simpa using hx))⟩) (hb.frame (· ∈ p ++ [])), fun _ => ⟨fun j t r hj hr => ?_, ?_⟩⟩
  · rw [hrl, hrt', hres]; exact hR _ _ _
  · rw [hargs]; exact hA _ (fun x hx => by simpa using hlt x hx)
  · rw [hvars, hsv]; rfl
  · rw [hrt] at hj
    rw [hrl] at hr
    cases j with
    | zero =>
      simp at hj hr
      subst hj; subst hr
      exact okWide_bool_mk htb _
    | succ j => simp at hj
  · refine ⟨[.lit (.bool true)] ++ ds, [], p, ⟨p, [], ?_, by rw [hvars]; rfl, by simp, ?_, ?_⟩, fun x hx _ => by simpa using hx⟩
    · rw [hrl, hrt']
      exact ⟨[], p, ⟨1, by simp [DataW.trod, htb, Value.cells]⟩, hA _ (fun _ _ => rfl), rfl⟩
    · intro b off hp
      rw [hb.frozen (hlt _ hp)]
      exact hfz b off hp
    · exact hnd
end
section
variable {H : Type} {enc : TypeId × Value → H} {P : Program} {w : World} {base : Nat} {spare : Nat → Bool} {held : Bool} {r : Reach} {b0 : Nat}
theorem arg_int {t : TypeId} {v : Value} {x : DataW H} {p : List MemPlace} (ht : P.underlying t = some (.int .i64)) (hval : Value.okWide P w r b0 t v) (h : DataW.Trod enc P w base spare held t v x p) :
    ∃ n : Int, ArgIs w v (.d (.i .i64 n)) ∧ inI n := by
  obtain ⟨n, rfl, _, _, hw⟩ := open_int ht hval h
  refine ⟨n, .d (.i .i64 n), ?_⟩
  unfold inI
  simpa [Lit.wf, IntKind.min, IntKind.max, IntKind.signed, IntKind.bits] using hw
end
end Go.Sx
end

section
namespace Go.Sx
set_option linter.unusedVariables false
open Go.RowKit Go.ChangeShapes Go.WideShapes
inductive K2 where
  | d (k : K)
  | s (ks : List K)
inductive T1 where
  | d (x : D)
  | r (c : Cont)
inductive Cell2 (w : World) : K2 → Value → T1 → Prop where
  | d (k : K) (x : D) (h : k.fits x) : Cell2 w (.d k) x.val (.d x)
  | s (ks : List K) (v : Value) (rows : List (List D)) (h0 : 0 < ks.length) (h : ∀ r ∈ rows, fitsAll ks r) (hr : IsRow w v (.lits ks.length rows)) : Cell2 w (.s ks) v (.r (.lits ks.length rows))
inductive Cells2 (w : World) : List K2 → List Value → List T1 → Prop where
  | nil : Cells2 w [] [] []
  | cons {k : K2} {v : Value} {t : T1} {ks : List K2} {vs : List Value} {ts : List T1} (h : Cell2 w k v t) (r : Cells2 w ks vs ts) : Cells2 w (k :: ks) (v :: vs) (t :: ts)
theorem Cells2.append {w : World} {ks ks' : List K2} {vs vs' : List Value} {ts ts' : List T1} (h : Cells2 w ks vs ts) (h' : Cells2 w ks' vs' ts') : Cells2 w (ks ++ ks') (vs ++ vs') (ts ++ ts') := by
  induction h with
  | nil => exact h'
  | cons h r ih => exact .cons h ih
def kinds2Of (g : TypeId → Option (List K2)) (P : Program) : Nat → List Field → Option (List K2)
  | _, [] => some []
  | n, f :: fs => match g f.type with
    | none => none
    | some ks => if f.offset = n ∧ P.cellsOf f.type = ks.length then (kinds2Of g P (n + ks.length) fs).map (ks ++ ·) else none
def kinds2 (P : Program) : Nat → TypeId → Option (List K2)
  | 0, _ => none
  | d + 1, t => match kinds P d t with
    | some ks => some (ks.map .d)
    | none => match P.underlying t with
      | some (.slice e) => match kinds P d e with
        | some (k :: ks) => if P.cellsOf e = ks.length + 1 then some [.s (k :: ks)] else none
        | _ => none
      | some (.struct fs) => match kinds2Of (kinds2 P d) P 0 fs.toList with
        | some ks => if P.cellsOf t = ks.length then some ks else none
        | none => none
      | _ => none
section
variable {H : Type} {enc : TypeId × Value → H} {P : Program} {w : World} {base : Nat} {spare : Nat → Bool} {held : Bool}
theorem cells2_d {ks : List K} {ds : List D} (h : fitsAll ks ds) : Cells2 w (ks.map .d) (ds.map D.val) (ds.map .d) := by
  induction ks generalizing ds with
  | nil => cases ds with
    | nil => exact .nil
    | cons _ _ => exact h.elim
  | cons k ks ih => cases ds with
    | nil => exact h.elim
    | cons d ds => exact .cons (.d k d h.1) (ih h.2)
theorem struct_cells2 {g : TypeId → Option (List K2)} {m : Nat} (ih : ∀ t ks cs x, g t = some ks → DataW.trod enc P w base spare held m t cs = some x → ∃ ts, Cells2 w ks cs ts) :
    ∀ (fs : List Field) (n : Nat) (ks : List K2) (cs : List Value), kinds2Of g P n fs = some ks → cs.length = n + ks.length → (∀ f ∈ fs, ∃ x, DataW.trod enc P w base spare held m f.type ((cs.drop f.offset).take (P.cellsOf f.type)) = some x) →
      ∃ ts, Cells2 w ks (cs.drop n) ts
  | [], n, ks, cs, hk, hl, _ => by
    simp only [kinds2Of, Option.some.injEq] at hk
    subst hk
    refine ⟨[], ?_⟩
    simp at hl
    rw [List.drop_eq_nil_of_le (by omega)]
    exact .nil
  | f :: fs, n, ks, cs, hk, hl, h => by
    simp only [kinds2Of] at hk
    split at hk
    · cases hk
    · rename_i kf hg
      split at hk
      · rename_i hc
        cases hr : kinds2Of g P (n + kf.length) fs with
        | none => simp [hr] at hk
        | some kr =>
          simp only [hr, Option.map_some, Option.some.injEq] at hk
          subst hk
          obtain ⟨x, hx⟩ := h f List.mem_cons_self
          rw [hc.1, hc.2] at hx
          obtain ⟨ts0, h0⟩ := ih f.type kf _ x hg hx
          obtain ⟨ts1, h1⟩ := struct_cells2 ih fs (n + kf.length) kr cs hr (by rw [hl, List.length_append]; omega) (fun f' hf' => h f' (List.mem_cons_of_mem _ hf'))
          refine ⟨ts0 ++ ts1, ?_⟩
          have e : cs.drop n = (cs.drop n).take kf.length ++ cs.drop (n + kf.length) := by rw [← List.drop_drop]; exact (List.take_append_drop _ _).symm
          rw [e]
          exact h0.append h1
      · cases hk
theorem trod_cells2 : ∀ (d : Nat) (t : TypeId) (ks : List K2) (fuel : Nat) (cs : List Value) (x : DataW H × List MemPlace), kinds2 P d t = some ks → DataW.trod enc P w base spare held fuel t cs = some x → ∃ ts, Cells2 w ks cs ts
  | 0, _, _, _, _, _, h, _ => by cases h
  | d + 1, t, ks, fuel, cs, x, hk, hx => by
    unfold kinds2 at hk
    split at hk
    · rename_i ks' hks
      cases hk
      obtain ⟨ds, rfl, h2⟩ := trod_cells d t ks' fuel cs x hks hx
      exact ⟨_, cells2_d h2⟩
    · split at hk
      · rename_i e ht
        split at hk
        · rename_i k ks' hks
          split at hk
          · rename_i hc
            cases hk
            obtain ⟨v, rows, rfl, h2, h3, _⟩ := trod_rows ht hks (by simpa using hc) (by simp) hx
            exact ⟨_, .cons (.s _ v rows (by simp) h2 h3) .nil⟩
          · cases hk
        · cases hk
      · rename_i fs ht
        split at hk
        · rename_i ks' hks
          split at hk
          · rename_i hc
            cases hk
            obtain ⟨xs, n, rfl, _, hl, hxl, hf⟩ := DataW.trod_struct ht hx
            have := struct_cells2 (enc := enc) (w := w) (base := base) (spare := spare) (held := held) (g := kinds2 P d) (m := n) (fun t ks cs x h1 h2 => trod_cells2 d t ks n cs x h1 h2) fs.toList 0 ks cs hks (by rw [hl, hc]; omega) (fun f hfm => by
              obtain ⟨i, hi, hfi⟩ := List.mem_iff_getElem.1 hfm
              have hi' : i < fs.size := by simpa using hi
              have h1 := hf i f (by rw [Array.getElem?_eq_getElem hi']; simpa using hfi)
              exact ⟨xs[i]'(by omega), by rw [h1, List.getElem?_eq_getElem]⟩)
            simpa using this
          · cases hk
        · cases hk
      · cases hk
end
inductive T1Is (w : World) : Value → T1 → Prop where
  | d (x : D) : T1Is w x.val (.d x)
  | r (v : Value) (c : Cont) (he : 0 < c.e) (h : IsRow w v c) : T1Is w v (.r c)
theorem cell_int {w : World} {v : Value} {t : T1} (h : Cell2 w (.d (.i .i64)) v t) : ∃ n : Int, T1Is w v (.d (.i .i64 n)) ∧ inI n := by
  cases h with
  | d k x h =>
    cases x with
    | i k n =>
      obtain ⟨rfl, hw⟩ := h
      exact ⟨n, .d _, by unfold inI; simpa [Lit.wf, IntKind.min, IntKind.max, IntKind.signed, IntKind.bits] using hw⟩
    | _ => exact h.elim
theorem cell_recs {w : World} {n : Nat} {v : Value} {t : T1} (h : Cell2 w (.s (List.replicate n (.i .i64))) v t) : ∃ l : List (List Int), T1Is w v (.r (.recs n l)) ∧ ∀ r ∈ l, r.length = n ∧ ∀ x ∈ r, inI x := by
  cases h with
  | s ks v rows h0 h2 h3 =>
    obtain ⟨l, h5, h6, h7⟩ := rows_ints h2
    subst h5
    rw [List.length_replicate] at h0 h3
    exact ⟨l, .r v _ h0 (isRow_of h3 (by simp [Cont.n]) (lits_recs fun r hr => (h7 r hr).1)), h7⟩
theorem cell_ints {w : World} {v : Value} {t : T1} (h : Cell2 w (.s [.i .i64]) v t) : ∃ l : List Int, T1Is w v (.r (.ints .i64 l)) ∧ ∀ x ∈ l, inI x := by
  obtain ⟨l, h2, h3⟩ := cell_recs (n := 1) h
  cases h2 with
  | r _ _ _ h2 =>
    refine ⟨l.map (fun r => r.getD 0 0), .r v _ (Nat.succ_pos 0) (isRow_of h2 (by simp [Cont.n]) ?_), fun x hx => ?_⟩
    · simp only [Cont.flat]
      rename_i he
      clear h2 he
      induction l with
      | nil => rfl
      | cons r l ih =>
        rw [List.map_cons, List.flatMap_cons, List.flatMap_cons, ih (fun r hr => h3 r (List.mem_cons_of_mem _ hr))]
        rfl
    · obtain ⟨r, hr, rfl⟩ := List.mem_map.1 hx
      have := h3 r hr
      match r, this with
      | [y], this => exact this.2 y (by simp)
theorem flts_of {k : FloatKind} {r : List D} (h : fitsAll [.f k] r) : ∃ n : Nat, r = [.f k n] ∧ (Lit.float k n).wf = true := by
  match r, h with
  | [.f k' n], h => obtain ⟨⟨rfl, hw⟩, _⟩ := h; exact ⟨n, rfl, hw⟩
theorem cell_flts {w : World} {k : FloatKind} {v : Value} {t : T1} (h : Cell2 w (.s [.f k]) v t) : ∃ l : List Nat, T1Is w v (.r (.floats k l)) ∧ ∀ x ∈ l, (Lit.float k x).wf = true := by
  cases h with
  | s ks v rows h0 h2 h3 =>
    have key : ∀ rows : List (List D), (∀ r ∈ rows, fitsAll [.f k] r) → ∃ l : List Nat, rows = l.map (fun n => [D.f k n]) ∧ ∀ x ∈ l, (Lit.float k x).wf = true := fun rows => by
      induction rows with
      | nil => exact fun _ => ⟨[], rfl, fun _ h => by cases h⟩
      | cons r rows ih =>
        intro h
        obtain ⟨l, e1, e2⟩ := ih fun r hr => h r (List.mem_cons_of_mem _ hr)
        obtain ⟨n, e3, e4⟩ := flts_of (h r List.mem_cons_self)
        refine ⟨n :: l, by rw [e1, e3]; rfl, fun x hx => ?_⟩
        rcases List.mem_cons.1 hx with rfl | hx
        · exact e4
        · exact e2 x hx
    obtain ⟨l, rfl, e2⟩ := key rows h2
    refine ⟨l, .r v _ (Nat.succ_pos 0) (isRow_of h3 (by simp [Cont.n]) ?_), e2⟩
    simp only [Cont.flat]
    clear h3 e2 h2
    induction l with
    | nil => rfl
    | cons n l ih =>
      rw [List.map_cons, List.flatMap_cons, List.flatMap_cons, ih]
      rfl
theorem t1_d {w : World} {v : Value} {x : D} (h : ArgIs w v (.d x)) : T1Is w v (.d x) := by
  cases h with
  | d x => exact .d x
theorem arg_cells2 {H : Type} {enc : TypeId × Value → H} {P : Program} {w : World} {base : Nat} {spare : Nat → Bool} {held : Bool} {r : Reach} {b0 : Nat} {t : TypeId} {d : Nat} {ks : List K2} {v : Value} {x : DataW H} {p : List MemPlace} (ht : aggT P t = some true) (hk : kinds2 P d t = some ks)
    (hval : Value.okWide P w r b0 t v) (h : DataW.Trod enc P w base spare held t v x p) : ∃ vs ts, v = .agg (List.toArray vs) ∧ Cells2 w ks vs ts := by
  obtain ⟨fuel, hx⟩ := h
  obtain ⟨ts, h1⟩ := trod_cells2 d t ks fuel _ _ hk hx
  have hv : ∃ cs, v = .agg cs := by
    unfold Value.okWide at hval
    cases hU : P.underlying t with
    | none => simp [aggT, hU] at ht
    | some u =>
      rw [hU] at hval
      cases u with
      | struct fs => obtain ⟨cs, h, _⟩ := hval; exact ⟨cs, h⟩
      | array n e => obtain ⟨cs, h, _⟩ := hval; exact ⟨cs, h⟩
      | _ => simp [aggT, hU] at ht
  obtain ⟨cs, rfl⟩ := hv
  exact ⟨cs.toList, ts, by simp, h1⟩
section
variable [Globs]
inductive T2 where
  | c (t : T1)
  | a (l : List T1)
inductive T1sAre (w : World) : List Value → List T1 → Prop where
  | nil : T1sAre w [] []
  | cons {v : Value} {t : T1} {vs : List Value} {ts : List T1} (h : T1Is w v t) (r : T1sAre w vs ts) : T1sAre w (v :: vs) (t :: ts)
inductive T2Is (w : World) : Value → T2 → Prop where
  | c {v : Value} {t : T1} (h : T1Is w v t) : T2Is w v (.c t)
  | a {vs : List Value} {ts : List T1} (h : T1sAre w vs ts) : T2Is w (.agg vs.toArray) (.a ts)
inductive T2sAre (w : World) : List Value → List T2 → Prop where
  | nil : T2sAre w [] []
  | cons {v : Value} {t : T2} {vs : List Value} {ts : List T2} (h : T2Is w v t) (r : T2sAre w vs ts) : T2sAre w (v :: vs) (t :: ts)
structure TB where
  cs : List C
  hp : Hp
  n : Nat
def T1.bld (n : Nat) : T1 → TB
  | .d x => ⟨[.d x], [], n⟩
  | .r c => ⟨[.o n], [(n, .ext c)], n + 1⟩
def bldT1 : Nat → List T1 → TB
  | n, [] => ⟨[], [], n⟩
  | n, t :: l => let a := t.bld n; let b := bldT1 a.n l; ⟨a.cs ++ b.cs, b.hp ++ a.hp, b.n⟩
structure TV where
  vs : List V
  hp : Hp
  n : Nat
def T2.bld (n : Nat) : T2 → TV
  | .c t => let a := t.bld n; ⟨[.w (.c (headC a.cs))], a.hp, a.n⟩
  | .a l => let a := bldT1 n l; ⟨[.w (.a a.cs)], a.hp, a.n⟩
def bldT2 : Nat → List T2 → TV
  | n, [] => ⟨[], [], n⟩
  | n, t :: l => let a := t.bld n; let b := bldT2 a.n l; ⟨a.vs ++ b.vs, b.hp ++ a.hp, b.n⟩
structure TOK (w : World) (n : Nat) (ρ ρ' : Env) (vals : List Value) (cs : List C) (hp : Hp) (n' : Nat) : Prop where
  agree : Agree n ρ ρ'
  le : n ≤ n'
  val : cs.map (C.val ρ') = vals
  lt : ∀ c ∈ cs, C.lt n' c
  heap : ∀ k o, find hp k = some o → n ≤ k ∧ k < n' ∧ ∃ c, o = .ext c ∧ IsRow w (ρ' k) c ∧ 0 < c.e
theorem T1.bld_ok {w : World} {v : Value} {t : T1} (h : T1Is w v t) (n : Nat) (ρ : Env) : ∃ ρ', TOK w n ρ ρ' [v] (t.bld n).cs (t.bld n).hp (t.bld n).n := by
  cases h with
  | d x => exact ⟨ρ, Agree.refl _ _, Nat.le_refl _, rfl, (fun c hc => by simp only [T1.bld, List.mem_singleton] at hc; subst hc; trivial), fun _ _ h => by cases h⟩
  | r v c he h =>
    refine ⟨upd ρ n v, upd_agree _ _ _, Nat.le_succ _, by simp [T1.bld, C.val], (fun c hc => by simp only [T1.bld, List.mem_singleton] at hc; subst hc; exact Nat.lt_succ_self n), fun k o hf => ?_⟩
    simp only [T1.bld, find] at hf
    split at hf
    · rename_i e
      subst e
      cases hf
      exact ⟨Nat.le_refl _, Nat.lt_succ_self _, c, rfl, by rw [upd_same]; exact h, he⟩
    · cases hf
theorem TOK.append {w : World} {n n1 n2 : Nat} {ρ ρ1 ρ2 : Env} {a b : List Value} {ca cb : List C} {ha hb : Hp} (h1 : TOK w n ρ ρ1 a ca ha n1) (h2 : TOK w n1 ρ1 ρ2 b cb hb n2) : TOK w n ρ ρ2 (a ++ b) (ca ++ cb) (hb ++ ha) n2 := by
  refine ⟨h1.agree.trans h2.agree h1.le, Nat.le_trans h1.le h2.le, ?_, ?_, ?_⟩
  · rw [List.map_append, h2.val, ← h1.val]
    congr 1
    exact List.map_congr_left fun c hc => C.val_agree h2.agree (h1.lt c hc)
  · intro c hc
    rcases List.mem_append.1 hc with hc | hc
    · exact C.lt_mono h2.le (h1.lt c hc)
    · exact h2.lt c hc
  · intro k o hf
    rw [find_append] at hf
    cases hg : find hb k with
    | some o2 =>
      rw [hg] at hf
      cases hf
      obtain ⟨q1, q2, q3⟩ := h2.heap k o hg
      exact ⟨Nat.le_trans h1.le q1, q2, q3⟩
    | none =>
      rw [hg] at hf
      obtain ⟨q1, q2, c, q3, q4, q5⟩ := h1.heap k o hf
      exact ⟨q1, Nat.lt_of_lt_of_le q2 h2.le, c, q3, by rw [h2.agree k q2]; exact q4, q5⟩
theorem bldT1_ok {w : World} {vs : List Value} {ts : List T1} (h : T1sAre w vs ts) : ∀ (n : Nat) (ρ : Env), ∃ ρ', TOK w n ρ ρ' vs (bldT1 n ts).cs (bldT1 n ts).hp (bldT1 n ts).n := by
  induction h with
  | nil => exact fun n ρ => ⟨ρ, Agree.refl _ _, Nat.le_refl _, rfl, (fun _ h => by cases h), fun _ _ h => by cases h⟩
  | cons h r ih =>
    intro n ρ
    obtain ⟨ρ1, k1⟩ := T1.bld_ok h n ρ
    obtain ⟨ρ2, k2⟩ := ih _ ρ1
    exact ⟨ρ2, k1.append k2⟩
structure TVOK (w : World) (n : Nat) (ρ ρ' : Env) (vals : List Value) (vs : List V) (hp : Hp) (n' : Nat) : Prop where
  agree : Agree n ρ ρ'
  le : n ≤ n'
  val : vs.map (V.val ρ') = vals
  lt : ∀ c ∈ vs, V.lt n' c
  heap : ∀ k o, find hp k = some o → n ≤ k ∧ k < n' ∧ ∃ c, o = .ext c ∧ IsRow w (ρ' k) c ∧ 0 < c.e
theorem T2.bld_ok {w : World} {v : Value} {t : T2} (h : T2Is w v t) (n : Nat) (ρ : Env) : ∃ ρ', TVOK w n ρ ρ' [v] (t.bld n).vs (t.bld n).hp (t.bld n).n := by
  cases h with
  | @c v t h =>
    obtain ⟨ρ', k⟩ := T1.bld_ok h n ρ
    have hone : ∃ c, (t.bld n).cs = [c] := by cases t <;> exact ⟨_, rfl⟩
    obtain ⟨c, hc⟩ := hone
    have hval := k.val
    have hlt := k.lt
    rw [hc] at hval hlt
    refine ⟨ρ', k.agree, k.le, ?_, ?_, k.heap⟩
    · simp only [T2.bld, hc, headC, List.map_cons, List.map_nil, V.val, W.val]
      simpa using hval
    · intro y hy
      simp only [T2.bld, hc, headC, List.mem_singleton] at hy
      subst hy
      exact hlt c List.mem_cons_self
  | @a vs ts h =>
    obtain ⟨ρ', k⟩ := bldT1_ok h n ρ
    refine ⟨ρ', k.agree, k.le, ?_, ?_, k.heap⟩
    · simp only [T2.bld, List.map_cons, List.map_nil, V.val, W.val, k.val]
    · intro y hy
      simp only [T2.bld, List.mem_singleton] at hy
      subst hy
      exact k.lt
theorem bldT2_ok {w : World} {vs : List Value} {ts : List T2} (h : T2sAre w vs ts) : ∀ (n : Nat) (ρ : Env), ∃ ρ', TVOK w n ρ ρ' vs (bldT2 n ts).vs (bldT2 n ts).hp (bldT2 n ts).n := by
  induction h with
  | nil => exact fun n ρ => ⟨ρ, Agree.refl _ _, Nat.le_refl _, rfl, (fun _ h => by cases h), fun _ _ h => by cases h⟩
  | @cons v t vs ts h r ih =>
    intro n ρ
    obtain ⟨ρ1, k1⟩ := T2.bld_ok h n ρ
    obtain ⟨ρ2, k2⟩ := ih (t.bld n).n ρ1
    refine ⟨ρ2, k1.agree.trans k2.agree k1.le, Nat.le_trans k1.le k2.le, ?_, ?_, ?_⟩
    · simp only [bldT2, List.map_append, k2.val]
      have : (t.bld n).vs.map (V.val ρ2) = [v] := by
        rw [← k1.val]
        exact List.map_congr_left fun c hc => V.val_agree k2.agree (k1.lt c hc)
      rw [this]
      rfl
    · intro c hc
      rcases List.mem_append.1 hc with hc | hc
      · exact V.lt_mono k2.le (k1.lt c hc)
      · exact k2.lt c hc
    · intro k o hf
      have hf : find ((bldT2 (t.bld n).n ts).hp ++ (t.bld n).hp) k = some o := hf
      rw [find_append] at hf
      cases hg : find (bldT2 (t.bld n).n ts).hp k with
      | some o2 =>
        rw [hg] at hf
        cases hf
        obtain ⟨q1, q2, q3⟩ := k2.heap k o hg
        exact ⟨Nat.le_trans k1.le q1, q2, q3⟩
      | none =>
        rw [hg] at hf
        obtain ⟨q1, q2, c, q3, q4, q5⟩ := k1.heap k o hf
        exact ⟨q1, Nat.lt_of_lt_of_le q2 k2.le, c, q3, by rw [k2.agree k q2]; exact q4, q5⟩
theorem law_callsT {P : Program} {w : World} {f : Nat} {shs : List SV} {g : List Lf → Option GT} {vs : List Value} {ts : List T2} {ls : List Lf} {am : List C} {ob : Prop} {b : Bool} {fn : Func} (hok : SpecOK P f true (pureT shs g)) (hargs : T2sAre w vs ts)
    (hto : toVs (bldT2 0 ts).hp shs (bldT2 0 ts).vs = some (ls, am)) (hg : g ls = some (.leaf ob [.c (.d (.b b))])) (ho : ob) (hb : b = true)
    (hfn : P.funcs[f]? = some fn) (hbody : fn.body = some (fn.body.getD .skip)) (hn : (fn.name == "runtime.NumGoroutine") = false) (hgl : GlobOK (fun k => k < w.heap.size) w) :
    Calls P f vs.toArray w fun e w' => e = .returned (.bool true) ∧ Below w.heap.size w w' := by
  subst hb
  obtain ⟨ρ, k⟩ := bldT2_ok hargs 0 (fun _ => undef)
  have hh : HRel ρ (fun k => k < w.heap.size) (bldT2 0 ts).hp (bldT2 0 ts).n w := by
    refine ⟨fun x o hf => ?_, fun x o x' o' q hf hf' _ hb => ?_, hgl⟩
    · obtain ⟨_, q2, c, rfl, q4, q5⟩ := k.heap x o hf
      exact ⟨q2, trivial, q4, IsRow.lt q4 q5⟩
    · obtain ⟨_, _, c, rfl, _, _⟩ := k.heap x o hf
      cases hb
  have := (hok.sound hfn hbody hn).sound ρ (fun k => k < w.heap.size) w (bldT2 0 ts).vs (bldT2 0 ts).hp (bldT2 0 ts).n ((GT.leaf ob [.c (.d (.b true))]).toRT am (bldT2 0 ts).hp (bldT2 0 ts).n) (by
    unfold pureT
    rw [hto]
    dsimp only
    rw [hg]) ho k.lt hh (fun k hk => hk)
  rw [k.val] at this
  refine this.mono ?_
  rintro e w' ⟨ρ', rfl, hl⟩
  exact ⟨rfl, hl.mono rfl⟩
end
end Go.Sx
end

section
namespace Go.Sx
set_option linter.unusedVariables false
open Go.RowKit Go.ChangeShapes Go.WideShapes
section
variable {P : Program} {w : World}
theorem laid_get : ∀ {l : List (String × DataW Unit)} {ps : List MemPlace} {n : String} {d : DataW Unit}, DataW.LaidVars P w l ps → (n, d) ∈ l →
    ∃ g t cs fuel p, P.globalNamed n = some g ∧ (P.globals[g]?).map (·.type) = some t ∧ w.var? P n = some cs ∧ DataW.trod (fun _ => ()) P w 0 (fun _ => true) false fuel t cs.toList = some (d, p)
  | (n', d') :: r, ps, n, d, h, hm => by
    obtain ⟨g, t, cs, fuel, p, q, h1, h2, h3, h4, h5, _⟩ := h
    rcases List.mem_cons.1 hm with e | hm
    · cases e
      exact ⟨g, t, cs, fuel, p, h1, h2, h3, h4⟩
    · exact laid_get h5 hm
variable {enc : TypeId × Value → Unit} {base : Nat} {spare : Nat → Bool} {held : Bool} {fuel : Nat}
theorem take_one {α : Type} {l : List α} {i : Nat} (h : i < l.length) : (l.drop i).take 1 = [l[i]] := by
  rw [List.drop_eq_getElem_cons h]
  rfl
theorem laid_ints {t e n : Nat} {k : IntKind} {l : List Int} {cs : List Value} {p : List MemPlace} (hu : P.underlying t = some (.array n e)) (he : P.underlying e = some (.int k)) (hc : P.cellsOf e = 1) (hct : P.cellsOf t = n) (hl : l.length = n)
    (h : DataW.trod enc P w base spare held fuel t cs = some (.agg (l.map fun x => .lit (.int k x)), p)) : cs = (Cont.ints k l).flat.map D.val := by
  obtain ⟨xs, m, _, hx, hlen, hn, hel⟩ := DataW.trod_array hu h
  have hx1 : l.map (fun x => DataW.lit (H := Unit) (.int k x)) = xs.map (·.1) := by
    have := congrArg Prod.fst hx
    simpa using this
  have hf : (Cont.ints k l).flat.map D.val = l.map fun x => Value.int k x := by
    simp only [Cont.flat, List.map_flatMap, List.map_cons, List.map_nil, D.val]
    rw [← List.flatMap_singleton' (l.map fun x => Value.int k x), List.flatMap_map]
  rw [hf]
  apply List.ext_getElem
  · rw [hlen, hct, List.length_map, hl]
  · intro i h1 h2
    have hi : i < n := by rw [hlen, hct] at h1; exact h1
    have h3 := hel i hi
    rw [hc, Nat.mul_one, take_one h1] at h3
    have hxi : i < xs.length := by omega
    rw [List.getElem?_eq_getElem hxi] at h3
    obtain ⟨a, ha, hb, _⟩ := DataW.trod_int he h3
    have h4 : (l.map (fun x => DataW.lit (H := Unit) (.int k x)))[i]? = (xs.map (·.1))[i]? := by rw [hx1]
    rw [List.getElem?_map, List.getElem?_map, List.getElem?_eq_getElem hxi, List.getElem?_eq_getElem (show i < l.length by omega), hb] at h4
    simp only [Option.map_some, Option.some.injEq] at h4
    have e1 : l[i] = a := by cases h4; rfl
    have e2 : cs[i] = .int k a := by simpa using ha
    rw [e2, List.getElem_map, e1]
theorem laid_recs3 {t e n a b c : Nat} {fs : Array Field} {l : List (List Int)} {cs : List Value} {p : List MemPlace} (hu : P.underlying t = some (.array n e)) (he : P.underlying e = some (.struct fs))
    (hfs : fs.toList.map (fun f => (f.type, f.offset)) = [(a, 0), (b, 1), (c, 2)]) (ha : P.underlying a = some (.int .i64)) (hb : P.underlying b = some (.int .i64)) (hc : P.underlying c = some (.int .i64)) (hca : P.cellsOf a = 1) (hcb : P.cellsOf b = 1) (hcc : P.cellsOf c = 1)
    (hce : P.cellsOf e = 3) (hct : P.cellsOf t = 3 * n) (hl : l.length = n)
    (h : DataW.trod enc P w base spare held fuel t cs = some (.agg (l.map fun x => .agg [.lit (.int .i64 (x.getD 0 0)), .lit (.int .i64 (x.getD 1 0)), .lit (.int .i64 (x.getD 2 0))]), p)) : cs = (Cont.recs 3 l).flat.map D.val := by
  obtain ⟨xs, m, _, hx, hlen, hn, hel⟩ := DataW.trod_array hu h
  have hx1 : l.map (fun x => DataW.agg (H := Unit) [.lit (.int .i64 (x.getD 0 0)), .lit (.int .i64 (x.getD 1 0)), .lit (.int .i64 (x.getD 2 0))]) = xs.map (·.1) := by
    have := congrArg Prod.fst hx
    simpa using this
  have hrow : ∀ i, i < n → (cs.drop (i * 3)).take 3 = [Value.int .i64 ((l.getD i []).getD 0 0), .int .i64 ((l.getD i []).getD 1 0), .int .i64 ((l.getD i []).getD 2 0)] := by
    intro i hi
    have h3 := hel i hi
    rw [hce] at h3
    have hxi : i < xs.length := by omega
    have hli : i < l.length := by omega
    rw [List.getElem?_eq_getElem hxi] at h3
    have h4 : (l.map (fun x => DataW.agg (H := Unit) [.lit (.int .i64 (x.getD 0 0)), .lit (.int .i64 (x.getD 1 0)), .lit (.int .i64 (x.getD 2 0))]))[i]? = (xs.map (·.1))[i]? := by rw [hx1]
    rw [List.getElem?_map, List.getElem?_map, List.getElem?_eq_getElem hxi, List.getElem?_eq_getElem hli] at h4
    simp only [Option.map_some, Option.some.injEq] at h4
    have hgl : l.getD i [] = l[i] := by simp [List.getD, hli]
    rw [hgl]
    obtain ⟨ys, m2, _, hy, hyl, hyn, hye⟩ := DataW.trod_struct he h3
    rw [hce] at hyl
    have hy1 : xs[i].1 = .agg (ys.map (·.1)) := by rw [hy]
    rw [hy1] at h4
    have h5 : [DataW.lit (H := Unit) (.int .i64 (l[i].getD 0 0)), .lit (.int .i64 (l[i].getD 1 0)), .lit (.int .i64 (l[i].getD 2 0))] = ys.map (·.1) := by
      rw [DataW.agg.injEq] at h4
      exact h4
    have hfl : fs.size = 3 := by
      have := congrArg List.length hfs
      simpa using this
    have field : ∀ (j : Nat) (tj : Nat), j < 3 → (fs.toList.map (fun f => (f.type, f.offset)))[j]? = some (tj, j) → P.underlying tj = some (.int .i64) → P.cellsOf tj = 1 → ∃ v, ((cs.drop (i * 3)).take 3)[j]? = some (Value.int .i64 v) ∧ (ys.map (·.1))[j]? = some (.lit (.int .i64 v)) := by
      intro j tj hj hf htj hcj
      rw [List.getElem?_map] at hf
      cases hfj : fs.toList[j]? with
      | none => rw [hfj] at hf; cases hf
      | some f =>
        rw [hfj] at hf
        simp only [Option.map_some, Option.some.injEq, Prod.mk.injEq] at hf
        obtain ⟨e1, e2⟩ := hf
        have h6 := hye j f (by simpa using hfj)
        rw [e1, e2, hcj, take_one (by rw [hyl]; exact hj)] at h6
        have hyj : j < ys.length := by omega
        rw [List.getElem?_eq_getElem hyj] at h6
        obtain ⟨v, hv1, hv2, _⟩ := DataW.trod_int htj h6
        refine ⟨v, ?_, ?_⟩
        · rw [List.getElem?_eq_getElem (by rw [hyl]; exact hj)]
          simpa using hv1
        · rw [List.getElem?_map, List.getElem?_eq_getElem hyj, hv2]
          rfl
    obtain ⟨v0, a0, b0⟩ := field 0 a (by omega) (by rw [hfs]; rfl) ha hca
    obtain ⟨v1, a1, b1⟩ := field 1 b (by omega) (by rw [hfs]; rfl) hb hcb
    obtain ⟨v2, a2, b2⟩ := field 2 c (by omega) (by rw [hfs]; rfl) hc hcc
    rw [← h5] at b0 b1 b2
    have e0 : l[i].getD 0 0 = v0 := by simpa using b0
    have e1 : l[i].getD 1 0 = v1 := by simpa using b1
    have e2 : l[i].getD 2 0 = v2 := by simpa using b2
    rw [e0, e1, e2]
    generalize (cs.drop (i * 3)).take 3 = L at *
    match L, hyl with
    | [x, y, z], _ =>
      simp only [List.getElem?_cons_zero, List.getElem?_cons_succ, Option.some.injEq] at a0 a1 a2
      rw [a0, a1, a2]
  apply List.ext_getElem?
  intro j
  have hfl := (Cont.recs 3 l).flat_length
  have hn3 : (Cont.recs 3 l).n * (Cont.recs 3 l).e = n * 3 := by simp [Cont.n, Cont.e, hl]
  by_cases hj : j < n * 3
  · have hi : j / 3 < n := by omega
    have h7 := hrow (j / 3) hi
    have h8 := (Cont.recs 3 l).flat_get (i := j / 3) (j := j % 3) (by simpa [Cont.n, hl] using hi) (by simp only [Cont.e]; omega)
    have e9 : j / 3 * (Cont.recs 3 l).e + j % 3 = j := by simp only [Cont.e]; omega
    rw [e9] at h8
    rw [List.getElem?_map, h8]
    have h10 : cs[j]? = ((cs.drop (j / 3 * 3)).take 3)[j % 3]? := by
      rw [List.getElem?_take, if_pos (by omega), List.getElem?_drop]
      congr 1
      omega
    rw [h10, h7]
    have hm : j % 3 = 0 ∨ j % 3 = 1 ∨ j % 3 = 2 := by omega
    rcases hm with h | h | h <;> rw [h] <;> rfl
  · rw [List.getElem?_eq_none (by rw [hlen, hct]; omega), List.getElem?_eq_none (by rw [List.length_map, hfl, hn3]; omega)]
theorem tab_of {n : String} {g : Nat} {cs : Array Value} {c : Cont} (hg : P.globalNamed n = some g) (hv : w.var? P n = some cs) (hc : cs.toList = c.flat.map D.val) :
    g < w.heap.size ∧ (∀ j x, c.flat[j]? = some x → w.cell? ⟨g, j, none⟩ = some x.val) ∧ ∃ cs t f, w.heap[g]? = some (.cells cs t f) ∧ cs.size = c.flat.length := by
  have hcell := World.var?_cell hg hv
  have hsz : cs.size = c.flat.length := by
    have := congrArg List.length hc
    simpa using this
  simp only [World.var?, hg, Option.bind_some] at hv
  split at hv
  · rename_i cs' t f hh
    cases hv
    refine ⟨(Array.getElem?_eq_some_iff.1 hh).1, fun j x hj => ?_, cs, t, f, hh, hsz⟩
    rw [hcell j]
    have : cs.toList[j]? = some x.val := by rw [hc, List.getElem?_map, hj]; rfl
    simpa using this
  · cases hv
end
end Go.Sx
end

section
namespace Go.Proofs.YtcklfboglnfepaaDoor
open Go Go.Proofs Go.RowKit Go.Sx
set_option maxRecDepth 100000
theorem globs_ok {W : World} {laid : List (String × DataW Unit)} (hp : (laid.all fun x => x.2.handleName?.isNone) = true)
    (hm : ∀ x ∈ [("internal/strconv.uint64pow10", Rows.laid_internal_strconv_uint64pow10 (H := Unit)), ("shoebox/figure.powers", Rows.laid_shoebox_figure_powers), ("shoebox/figure.slopes", Rows.laid_shoebox_figure_slopes), ("shoebox/figure.tenths", Rows.laid_shoebox_figure_tenths), ("shoebox/figure.decayKinds", Rows.laid_shoebox_figure_decayKinds)], x ∈ laid)
    (h : laidMetH Tryd.prog laid W) : GlobOK (fun k => k < W.heap.size) W := by
  rw [MakeChecks.laidMetH_plain _ _ _ hp] at h
  obtain ⟨ps, hl, _, _⟩ := h
  have t0 : (Tryd.prog.globals[0]?).map (·.type) = some 110 := by kernel_rfl
  have t2 : (Tryd.prog.globals[2]?).map (·.type) = some 123 := by kernel_rfl
  have t3 : (Tryd.prog.globals[3]?).map (·.type) = some 131 := by kernel_rfl
  have t1 : (Tryd.prog.globals[1]?).map (·.type) = some 114 := by kernel_rfl
  have t6 : (Tryd.prog.globals[6]?).map (·.type) = some 163 := by kernel_rfl
  refine ⟨fun g c hg => ?_, held_none (fun g => rfl) _ _⟩
  have hg : tabZ g = some c := hg
  unfold tabZ at hg
  split at hg
  · cases hg
    obtain ⟨g, t, cs, fuel, p, h1, h2, h3, h4⟩ := laid_get hl (hm ("shoebox/figure.decayKinds", Rows.laid_shoebox_figure_decayKinds) (by simp))
    obtain rfl := Option.some.inj ((show Tryd.prog.globalNamed "shoebox/figure.decayKinds" = some 0 by kernel_rfl).symm.trans h1)
    obtain rfl := Option.some.inj (t0.symm.trans h2)
    have hc := laid_ints (n := 3) (e := 3) (k := .i64) (l := kindsT) (by kernel_rfl) (by kernel_rfl) (by kernel_rfl) (by kernel_rfl) rfl h4
    exact tab_of h1 h3 hc
  · cases hg
    obtain ⟨g, t, cs, fuel, p, h1, h2, h3, h4⟩ := laid_get hl (hm ("shoebox/figure.slopes", Rows.laid_shoebox_figure_slopes) (by simp))
    obtain rfl := Option.some.inj ((show Tryd.prog.globalNamed "shoebox/figure.slopes" = some 2 by kernel_rfl).symm.trans h1)
    obtain rfl := Option.some.inj (t2.symm.trans h2)
    have hu : ∃ fs, Tryd.prog.underlying 122 = some (.struct fs) ∧ fs.toList.map (fun f => (f.type, f.offset)) = [(3, 0), (3, 1), (3, 2)] := by
      have u := Tryd.underlying122
      exact ⟨_, u, by kernel_rfl⟩
    obtain ⟨fs, u2, u3⟩ := hu
    have hc := laid_recs3 (n := 3) (l := slopesT) (e := 122) (by kernel_rfl) u2 u3 (by kernel_rfl) (by kernel_rfl) (by kernel_rfl) (by kernel_rfl) (by kernel_rfl) (by kernel_rfl) (by kernel_rfl) (by kernel_rfl) rfl h4
    exact tab_of h1 h3 hc
  · cases hg
    obtain ⟨g, t, cs, fuel, p, h1, h2, h3, h4⟩ := laid_get hl (hm ("shoebox/figure.powers", Rows.laid_shoebox_figure_powers) (by simp))
    obtain rfl := Option.some.inj ((show Tryd.prog.globalNamed "shoebox/figure.powers" = some 3 by kernel_rfl).symm.trans h1)
    obtain rfl := Option.some.inj (t3.symm.trans h2)
    have hc := laid_ints (n := 13) (l := powersT) (e := 84) (k := .u64) (by kernel_rfl) (by kernel_rfl) (by kernel_rfl) (by kernel_rfl) rfl h4
    exact tab_of h1 h3 hc
  · cases hg
    obtain ⟨g, t, cs, fuel, p, h1, h2, h3, h4⟩ := laid_get hl (hm ("shoebox/figure.tenths", Rows.laid_shoebox_figure_tenths) (by simp))
    obtain rfl := Option.some.inj ((show Tryd.prog.globalNamed "shoebox/figure.tenths" = some 1 by kernel_rfl).symm.trans h1)
    obtain rfl := Option.some.inj (t1.symm.trans h2)
    have hc := laid_ints (n := 10) (l := tenthsT) (e := 84) (k := .u64) (by kernel_rfl) (by kernel_rfl) (by kernel_rfl) (by kernel_rfl) rfl h4
    exact tab_of h1 h3 hc
  · cases hg
    obtain ⟨g, t, cs, fuel, p, h1, h2, h3, h4⟩ := laid_get hl (hm ("internal/strconv.uint64pow10", Rows.laid_internal_strconv_uint64pow10) (by simp))
    obtain rfl := Option.some.inj ((show Tryd.prog.globalNamed "internal/strconv.uint64pow10" = some 6 by kernel_rfl).symm.trans h1)
    obtain rfl := Option.some.inj (t6.symm.trans h2)
    have hc := laid_ints (n := 20) (l := pow10T) (e := 84) (k := .u64) (by kernel_rfl) (by kernel_rfl) (by kernel_rfl) (by kernel_rfl) rfl h4
    exact tab_of h1 h3 hc
  · cases hg
end Go.Proofs.YtcklfboglnfepaaDoor
end
