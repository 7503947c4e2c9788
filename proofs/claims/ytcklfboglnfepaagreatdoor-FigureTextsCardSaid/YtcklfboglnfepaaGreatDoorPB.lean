/- Part 2 of the proof of FigureTextsCard: the executor, the mirrors of the functions, the plain facts. -/
import Derived.Test.YtcklfboglnfepaaGreatDoorPA
import Derived.WalkKit
import Derived.RangeFuncNested
import Derived.RangeFuncBound
import Derived.RangeFuncCalls
import Derived.RangeFuncLeaves
import Derived.OwnWalkIn
import Derived.TacticsInMore
import Derived.OrdersIn
set_option maxRecDepth 100000
set_option linter.unusedSectionVars false
set_option linter.unusedSimpArgs false
set_option linter.unusedVariables false
section
namespace Go.Fl
open Ieee
theorem nan32 (t : Nat) : (single.read ((t % 2) * 2 ^ 31 + 0x7f800000 + 1 + (t / 2) % (2 ^ 23 - 1))).isNaN = true := by
 have e1 : single.signWeight = 2147483648 := rfl
 have e2 : single.binade = 8388608 := rfl
 have e3 : single.infRung = 2139095040 := rfl
 have hx : (t / 2) % (2 ^ 23 - 1) < 8388607 := Nat.mod_lt _ (by decide)
 have ht : t % 2 < 2 := Nat.mod_lt _ (by decide)
 generalize (t / 2) % (2 ^ 23 - 1) = x at *
 generalize t % 2 = y at *
 have hr : (y * 2 ^ 31 + 0x7f800000 + 1 + x) % 2147483648 = 2139095041 + x := by omega
 unfold Format.read
 simp only [e1, e2, e3, hr]
 rw [if_neg (by omega), if_neg (by omega), if_neg (by omega)]
 rfl
theorem nan64 (t : Nat) : (double.read ((t % 2) * 2 ^ 63 + 0x7ff0000000000000 + 1 + (t / 2) % (2 ^ 52 - 1))).isNaN = true := by
 have e1 : double.signWeight = 9223372036854775808 := rfl
 have e2 : double.binade = 4503599627370496 := rfl
 have e3 : double.infRung = 9218868437227405312 := rfl
 have hx : (t / 2) % (2 ^ 52 - 1) < 4503599627370495 := Nat.mod_lt _ (by decide)
 have ht : t % 2 < 2 := Nat.mod_lt _ (by decide)
 generalize (t / 2) % (2 ^ 52 - 1) = x at *
 generalize t % 2 = y at *
 have hr : (y * 2 ^ 63 + 0x7ff0000000000000 + 1 + x) % 9223372036854775808 = 9218868437227405313 + x := by omega
 unfold Format.read
 simp only [e1, e2, e3, hr]
 rw [if_neg (by omega), if_neg (by omega), if_neg (by omega)]
 rfl
theorem juj (b : Nat) : (∃ s m e, single.read b = .number s m e ∧ m < 16777216 ∧ -149 ≤ e ∧ e ≤ 104) ∨ (∃ s, single.read b = .infinity s) ∨ ∃ s t, single.read b = .nan s t := by
 have e1 : single.signWeight = 2147483648 := rfl
 have e2 : single.binade = 8388608 := rfl
 have e3 : single.infRung = 2139095040 := rfl
 have e4 : single.leastPlace = -149 := rfl
 unfold Format.read
 simp only [e1, e2, e3, e4]
 have hr : b % 2147483648 < 2147483648 := Nat.mod_lt _ (by decide)
 generalize b % 2147483648 = r at *
 split
 ·exact .inl ⟨_, _, _, rfl, by omega, by omega, by omega⟩
 ·split
  ·refine .inl ⟨_, _, _, rfl, ?_, ?_, ?_⟩
   ·have : r % 8388608 < 8388608 := Nat.mod_lt _ (by decide)
    omega
   ·omega
   ·have : r / 8388608 ≤ 254 := by omega
    omega
  ·split
   ·exact .inr (.inl ⟨_, rfl⟩)
   ·exact .inr (.inr ⟨_, _, rfl⟩)
theorem jrR (way : Toward) (neg : Bool) (n : Nat) (hw : way = .even) : way.cut neg n 0 = n := by
 subst hw
 simp [Toward.cut, Nat.mod_one]
theorem jtH {s : Bool} {m : Nat} {e : Int} (hm0 : m ≠ 0) (hm : m < 9007199254740992) (he1 : -1000 ≤ e) (he2 : e ≤ 900) :
  double.write (.number s m e) = double.word s ((e + m.log2 - 52 + 1074).toNat * 4503599627370496 + m * 2 ^ (52 - m.log2)) ∧ m.log2 ≤ 52 ∧ 4503599627370496 ≤ m * 2 ^ (52 - m.log2) ∧ m * 2 ^ (52 - m.log2) < 9007199254740992 := by
 have hl : m.log2 ≤ 52 := by
  have := (Nat.log2_lt hm0 (k := 53)).2 (by omega)
  omega
 have hlo : 2 ^ m.log2 ≤ m := Nat.log2_self_le hm0
 have hhi : m < 2 ^ (m.log2 + 1) := Nat.lt_log2_self
 have hp : 2 ^ m.log2 * 2 ^ (52 - m.log2) = 4503599627370496 := by rw [← Nat.pow_add, Nat.add_sub_cancel' hl]
 have h1 : 4503599627370496 ≤ m * 2 ^ (52 - m.log2) := by rw [← hp]; exact Nat.mul_le_mul_right _ hlo
 have h2 : m * 2 ^ (52 - m.log2) < 9007199254740992 := by
  have h3 : m * 2 ^ (52 - m.log2) < 2 ^ (m.log2 + 1) * 2 ^ (52 - m.log2) := Nat.mul_lt_mul_of_pos_right hhi (Nat.two_pow_pos _)
  have h4 : 2 ^ (m.log2 + 1) * 2 ^ (52 - m.log2) = 9007199254740992 := by rw [Nat.pow_succ, Nat.mul_assoc, Nat.mul_comm 2, ← Nat.mul_assoc, hp]
  omega
 refine ⟨?_, hl, h1, h2⟩
 have e2 : double.binade = 4503599627370496 := rfl
 have e3 : double.infRung = 9218868437227405312 := rfl
 have e4 : double.leastPlace = -1074 := rfl
 have e5 : double.fractionBits = 52 := rfl
 simp only [Format.write, Format.nearest, if_neg hm0, e2, e3, e4, e5]
 have hlast : max (e + (m.log2 : Int) - 52) (-1074) = e + (m.log2 : Int) - 52 := by omega
 have hlast' : max (e + (m.log2 : Int) - (52 : Nat)) (-1074) = e + (m.log2 : Int) - 52 := hlast
 rw [hlast']
 have ha : (e - (e + (m.log2 : Int) - 52)).toNat = 52 - m.log2 := by omega
 have hb : ((e + (m.log2 : Int) - 52) - e).toNat = 0 := by omega
 rw [ha, hb, jrR _ _ _ rfl, Nat.shiftLeft_eq]
 have hc : (e + (m.log2 : Int) - 52 - -1074).toNat = (e + (m.log2 : Int) - 52 + 1074).toNat := by omega
 rw [hc]
 have hd : (e + (m.log2 : Int) - 52 + 1074).toNat ≤ 2000 := by omega
 rw [Nat.min_eq_left (by omega)]
theorem joy {s : Bool} {r : Nat} (h1 : 4503599627370496 ≤ r) (h2 : r < 9218868437227405312) : double.read (double.word s r) = .number s (4503599627370496 + r % 4503599627370496) (-1074 + (r / 4503599627370496 - 1 : Nat)) := by
 have e1 : double.signWeight = 9223372036854775808 := rfl
 have e2 : double.binade = 4503599627370496 := rfl
 have e3 : double.infRung = 9218868437227405312 := rfl
 have e4 : double.leastPlace = -1074 := rfl
 unfold Format.read Format.word
 simp only [e1, e2, e3, e4]
 cases s
 ·simp only [Bool.false_eq_true, if_false]
  have ha : r % 9223372036854775808 = r := Nat.mod_eq_of_lt (by omega)
  have hb : r / 9223372036854775808 = 0 := Nat.div_eq_of_lt (by omega)
  rw [ha, hb, if_neg (by omega), if_pos h2]
  rfl
 ·simp only [if_true]
  have ha : (9223372036854775808 + r) % 9223372036854775808 = r := by omega
  have hb : (9223372036854775808 + r) / 9223372036854775808 = 1 := by omega
  rw [ha, hb, if_neg (by omega), if_pos h2]
  rfl
theorem jtI {s : Bool} {m : Nat} {e : Int} (hm0 : m ≠ 0) (hm : m < 9007199254740992) (he1 : -1000 ≤ e) (he2 : e ≤ 900) :
  double.read (double.write (.number s m e)) = .number s (m * 2 ^ (52 - m.log2)) (e + m.log2 - 52) ∧ m.log2 ≤ 52 := by
 obtain ⟨h1, hl, h2, h3⟩ := jtH (s := s) hm0 hm he1 he2
 rw [h1]
 generalize hk : m * 2 ^ (52 - m.log2) = k at *
 have hK : (e + (m.log2 : Int) - 52 + 1074).toNat ≤ 2000 := by omega
 have hK0 : 0 ≤ e + (m.log2 : Int) - 52 + 1074 := by omega
 generalize hq : (e + (m.log2 : Int) - 52 + 1074).toNat = q at *
 refine ⟨?_, hl⟩
 rw [joy (by omega) (by omega)]
 have ha : 4503599627370496 + (q * 4503599627370496 + k) % 4503599627370496 = k := by omega
 have hb : (q * 4503599627370496 + k) / 4503599627370496 - 1 = q := by omega
 rw [ha, hb]
 congr 1
 omega
theorem juk (s : Bool) (e : Int) : double.read (double.write (.number s 0 e)) = .number s 0 (-1074) := by
 cases s <;> simp [Format.write, Format.nearest] <;> rfl
theorem up64 {b : Nat} {s : Bool} {m : Nat} {e : Int} (h : single.read b = .number s m e) : (double.read (double.write (.number s m e))).isInfinity = false := by
 rcases juj b with ⟨s', m', e', h', hm, he1, he2⟩ | ⟨s', h'⟩ | ⟨s', t', h'⟩
 ·rw [h] at h'
  cases h'
  by_cases hm0 : m = 0
  ·subst hm0; rw [juk]; rfl
  ·rw [(jtI hm0 (by omega) (by omega) (by omega)).1]; rfl
 ·rw [h] at h'; cases h'
 ·rw [h] at h'; cases h'
end Go.Fl
end

section
open Go.RowKit
namespace Go.Sx
section
variable [Globs] {P : Program} {ρ : Env} {B : Bd} {nx : Nat} {hp : Hp} {w : World} {rd : Operand → Option V} {a : Act} {sp : jaa}
theorem jlE {o : Oper} {t h j n elem e ty : Nat} {x : Operand} {cs : List C} {z ds : List D} {c : Cont} (hh : HRel ρ B hp nx w) (hB : Old B w) (hr : jaR ρ nx rd a) (ho : o.op = .slice t x none none none)
  (hu : P.underlying t = some (.array n elem)) (hx : rd x = some (.w (.c (.p h 0 1 j)))) (hf : find hp h = some (.box ty cs)) (hs : szT P elem = some (e + 1)) (hds : jbC ((cs.drop j).take (n * (e + 1))) = some ds)
  (hl : z.length = e + 1 ∧ ds.length = n * (e + 1) ∧ 0 < n) (hc : jer z (jgJ (e + 1) n ds) = some c) :
  jaV P ρ B nx a w o ⟨True, .w (.c (.o nx)), (nx, .view h c true) :: hp, nx + 1⟩ true := by
 obtain ⟨hz, hdl, hn0⟩ := hl
 obtain ⟨hlt, hol, g, hk, hBg, hheap⟩ := hh.ok h _ hf
 have hck := jgK (e + 1) n ds hdl
 have hmk := jek hc
 have hxv : a.eval x = .pointer (some ⟨g, j, none⟩) := by rw [(hr _ _ hx).2]; simp [C.val, hk, base]
 refine jaz (ρ' := upd ρ nx (.slice (some ⟨g, j, none⟩) n n)) (w' := w) ?_ ?_
 ·unfold execOp
  have hsb : (Instr.sliceBounds false n n none none none).run P w = .ok (0, n, n) w := by simp [Instr.sliceBounds]
  simp only [ho, hxv, Option.map_none, Instr.sliceAt, Sem.run_bind, run_underlying hu, Result.andThen_ok, Instr.sureAddr, Sem.run_pure, hsb, jaP w hs]
  rw [if_neg (by omega)]
  simp [V.val, W.val, C.val, jbh]
 ·refine jd3 hh hB _ (.view h c true) rfl rfl (show V.lt (nx + 1) (.w (.c (.o nx))) from Nat.lt_succ_self nx) true (Nat.lt_of_lt_of_le hlt (Nat.le_succ nx)) ⟨?_, fun _ a' n' cap' heq => by rw [upd_same] at heq; cases heq; rfl⟩ rfl
  ·rw [upd_same]
   refine ⟨some ⟨g, j, none⟩, n, by rw [hmk.2.1, hck.2], ⟨by rw [hmk.2.1, hck.2]; exact Nat.le_refl _, fun h => by cases h⟩, fun _ => ⟨g, j, rfl, fun m x hm => ?_⟩⟩
   rw [hmk.1, hck.1] at hm
   rw [cell_of_row w g _ _ ty (0, 0) hheap]
   have hde := jcy hds
   have hml : m < n * (e + 1) := by rw [← hdl]; exact (List.getElem?_eq_some_iff.1 hm).1
   have h1 : ((cs.drop j).take (n * (e + 1)))[m]? = some (C.d x) := by rw [hde, List.getElem?_map, hm]; rfl
   rw [List.getElem?_take, if_pos hml, List.getElem?_drop] at h1
   simp [h1, C.val]
theorem jpE {t ty elem e b : Nat} {i : TypeInfo} {z : Value} (hu : P.underlying t = some (.slice elem)) (hi : P.info? elem = some i) (hz : i.zero = some z) (hsz : i.size = e + 1) (hby : i.bytes = b) (hzs : z.cells.size = e + 1)
  {v xv : Value} {n m : Nat} {xs news : List Value} (hown : w.ownsRow 0 elem (e + 1) v n xs) (hl : news.length = m * (e + 1)) (h1 : ∀ u ∈ news, u.oneCell' = true)
  (hx : (xv = .slice none 0 0 ∧ m = 0) ∨ ∃ ad c, xv = .slice (some ad) m c ∧ ∀ j u, news[j]? = some u → w.cell? (ad.add j) = some u)
  (h63 : n + m ≤ 9223372036854775807) (hbytes : (n + m) * b ≤ 140737488355328) :
  ∃ v' w', (Builtin.append_ #[t, t] ty #[v, xv]).run P w = .ok v' w' ∧ w'.ownsRow 0 elem (e + 1) v' (n + m) (xs ++ news) ∧ w.grownBy w' v.ownBlock ∧
   ∀ k, v'.ownBlock = some k → v.ownBlock = some k ∨ w.heap.size ≤ k := by
 rcases hx with ⟨rfl, rfl⟩ | ⟨ad, c, rfl, hnews⟩
 ·-- nothing is appended
  have hne : news = [] := List.eq_nil_of_length_eq_zero (by simpa using hl)
  subst hne
  have hszT : szT P elem = some (e + 1) := by simp [szT, hi, hsz]
  refine ⟨v, w, ?_, by simpa using hown, ⟨rfl, rfl, rfl, Nat.le_refl _, fun _ _ _ => rfl⟩, fun k hk => .inl hk⟩
  rcases hown.2 with ⟨rfl, rfl⟩ | ⟨g, cap, cur, rfl, hb, hg, hnc, _⟩
  ·simp [Builtin.append_, run_underlying hu, jaP w hszT, Builtin.lenOf, Builtin.firstCells]
  ·simp [Builtin.append_, run_underlying hu, jaP w hszT, Builtin.lenOf, Builtin.firstCells, hnc, storeCells]
 ·obtain ⟨v', w', hrun, hown', hgrown, hnil⟩ := run_append_own (P := P) w 0 t ty elem i z (e + 1) b hu hi hz hsz hby hzs (Nat.succ_pos e) v n xs hown ad m c news hl hnews h1 (by simpa [maxLen] using h63) hbytes (Nat.zero_le _)
  refine ⟨v', w', hrun, hown', hgrown, fun k hk => ?_⟩
  rcases hown.2 with ⟨rfl, rfl⟩ | ⟨g, cap, cur, rfl, hbg, hg, hnc, hcm, hcs, htk⟩
  ·by_cases hm : m = 0
   ·have := hnil.2 ⟨rfl, hm⟩
    subst this
    simp [Value.ownBlock] at hk
   ·have hr2 := run_append_nil (P := P) w t ty elem i z hu hi hz ad m c news (by rw [hsz]; exact hl) hnews (by omega) (by omega) (by rw [hby]; have hb := hbytes; simp only [Nat.zero_add] at hb; omega)
    rw [hrun] at hr2
    cases hr2
    simp [Value.ownBlock] at hk
    exact .inr (by omega)
  ·by_cases hroom : n + m ≤ cap
   ·have hfit : n * i.size + news.length ≤ cur.size := by rw [hl, hcs, hsz, ← Nat.add_mul]; exact Nat.mul_le_mul_right _ hroom
    have hr2 := run_append_room (P := P) w t ty elem i hu hi g n cap cur hg ad m c news (by rw [hsz]; exact hl) hnews h1 hroom hfit
    rw [hrun] at hr2
    cases hr2
    exact .inl hk
   ·have holds : ∀ j u, xs[j]? = some u → w.cell? ((⟨g, 0, none⟩ : Addr).add j) = some u := hown.cells (g := g) rfl
    have hr2 := run_append_grow (P := P) w t ty elem i z hu hi hz ⟨g, 0, none⟩ n cap xs (by rw [hsz]; exact hown.1) holds ad m c news (by rw [hsz]; exact hl) hnews (by omega) (by omega) (growslice_fits (by omega) (by rw [hby]; exact hbytes))
    rw [hrun] at hr2
    cases hr2
    simp [Value.ownBlock] at hk
    exact .inr (by omega)
theorem jjx {w' : World} {row : Option Nat} (hg : w.grownBy w' row) (h : ∀ k, row = some k → ¬ B k) (hB : Old B w) : Bel B w w' :=
 ⟨hg.os, hg.tape, hg.output, hg.size, fun k hk => hg.block k (hB k hk) (fun e => h k e.symm hk)⟩
theorem HRel.grow {w' : World} {v v' : Value} {o' : O} {hp1 : Hp} (hh : HRel ρ B hp nx w) (hB : Old B w) (hg : w.grownBy w' v.ownBlock) (hgB : ∀ k, v.ownBlock = some k → ¬ B k)
  (hp1s : ∀ k o, find hp1 k = some o → find (ja1 hp) k = some o ∨ o = .dead ∧ k < nx) (hfree : ∀ k o g, find hp1 k = some o → o.blk (ρ k) = some g → v.ownBlock ≠ some g)
  (ho : o'.ok (upd ρ nx v') B w' nx) (hl : o'.lt (nx + 1)) (hb : ∀ k, o'.blk v' = some k → v.ownBlock = some k ∨ w.heap.size ≤ k) :
  HRel (upd ρ nx v') B ((nx, o') :: hp1) (nx + 1) w' := by
 have hag := jat ρ nx v'
 have old : ∀ k o, find hp1 k = some o → k < nx ∧ o.lt nx ∧ o.ok ρ B w k ∧ (∀ r c fl, o ≠ .view r c fl) := by
  intro k o hk
  rcases hp1s k o hk with h | ⟨h, h2⟩
  ·obtain ⟨_, _, h3, h4, h5, h6, _⟩ := jbM hh h
   exact ⟨h3, h4, h5, h6⟩
  ·subst h; exact ⟨h2, trivial, trivial, fun _ _ _ => by simp⟩
 have blklt : ∀ k o g, find hp1 k = some o → o.blk (ρ k) = some g → g < w.heap.size := fun k o g hk hbk => (O.blk_lt (old k o hk).2.2.1 hbk).1
 refine ⟨?_, ?_, hh.glob.bel (jjx hg hgB hB)⟩
 ·intro k o hk
  simp only [find] at hk
  split at hk
  ·rename_i e
   subst e
   cases hk
   exact ⟨by omega, hl, ho⟩
  ·obtain ⟨h3, h4, h5, h6⟩ := old k o hk
   refine ⟨by omega, O.lt_mono (Nat.le_succ nx) h4, ?_⟩
   refine O.ok_agree hag h3 h4 ?_
   cases hv : v.ownBlock with
   | none =>
    exact O.ok_except (g := w.heap.size) (fun b hb2 _ => hg.block b hb2 (by rw [hv]; simp)) (fun hc => Nat.lt_irrefl _ (hB _ hc)) h5 (fun e => by have := blklt k o _ hk e; omega) h6
   | some g =>
    exact O.ok_except (g := g) (fun b hb2 hne => hg.block b hb2 (by rw [hv]; simpa using hne)) (hgB g hv) h5 (fun e => hfree k o g hk e hv) h6
 ·intro k o1 k' o1' b hk hk' hne hbk hbk'
  simp only [find] at hk hk'
  split at hk
  ·rename_i e
   subst e
   cases hk
   rw [if_neg hne] at hk'
   obtain ⟨h3, _, _, _⟩ := old k' o1' hk'
   rw [upd_same] at hbk
   rw [hag k' h3] at hbk'
   rcases hb b hbk with h | h
   ·exact hfree k' o1' b hk' hbk' h
   ·have := blklt k' o1' b hk' hbk'
    omega
  ·split at hk'
   ·rename_i e
    subst e
    cases hk'
    obtain ⟨h3, _, _, _⟩ := old k o1 hk
    rw [upd_same] at hbk'
    rw [hag k h3] at hbk
    rcases hb b hbk' with h | h
    ·exact hfree k o1 b hk hbk h
    ·have := blklt k o1 b hk hbk
     omega
   ·obtain ⟨h3, _, _, _⟩ := old k o1 hk
    obtain ⟨h3', _, _, _⟩ := old k' o1' hk'
    rw [hag k h3] at hbk
    rw [hag k' h3'] at hbk'
    rcases hp1s k o1 hk with h | ⟨h, _⟩
    ·rcases hp1s k' o1' hk' with h' | ⟨h', _⟩
     ·obtain ⟨o2, h2, _, _, _, _, h7⟩ := jbM hh h
      obtain ⟨o3, h3, _, _, _, _, h8⟩ := jbM hh h'
      exact hh.apart k o2 k' o3 b h2 h3 hne (h7 b hbk) (h8 b hbk')
     ·subst h'; simp [O.blk] at hbk'
    ·subst h; simp [O.blk] at hbk
theorem jdE {v : V} {hs : Option Nat} {cs : Option Cont} (hh : HRel ρ B hp nx w) (h : jcS hp v = some (hs, cs)) :
  (hs = none ∧ cs = none ∧ v.val ρ = .slice none 0 0) ∨ ∃ k o c, hs = some k ∧ cs = some c ∧ v.val ρ = ρ k ∧ find hp k = some o ∧ o.cont = some c ∧ ja6 w (ρ k) c := by
 unfold jcS at h
 split at h
 ·rename_i k
  split at h
  ·rename_i c hc
   cases h
   cases hf : find hp k with
   | none => simp [hf] at hc
   | some o =>
    simp only [hf, Option.bind_some] at hc
    exact .inr ⟨k, o, c, rfl, rfl, rfl, hf, hc, jbf (hh.ok k o hf).2.2 hc⟩
  ·cases h
 ·cases h
  exact .inl ⟨rfl, rfl, rfl⟩
 ·cases h
theorem jnp {o : Oper} {t elem e b : Nat} {s x : Operand} {c : Call} {us ux : V} {hs hx : Option Nat} {cs cx : Option Cont} {z : List D} {c1 c2 c3 : Cont} (hh : HRel ρ B hp nx w) (hB : Old B w) (hr : jaR ρ nx rd a)
  (ho : o.op = .call c) (hcal : c.callee = .builtin .append) (hargs : c.args = #[s, x]) (hts : c.argTypes = #[t, t]) (hu : P.underlying t = some (.slice elem))
  (hrs : rd s = some us) (hrx : rd x = some ux) (hss : jcS hp us = some (hs, cs)) (hsx : jcS hp ux = some (hx, cx)) (hz : (jbo P elem).bind jbC = some z) (hsz : szT P elem = some (e + 1)) (hby : jdC P elem = some b)
  (hown : match hs, find hp (hs.getD nx) with | none, _ => True | some _, some (.row ty _) => ty = elem | _, _ => False)
  (h1 : jdB z cs = some c1) (h2 : jdB z cx = some c2) (h3 : c1.app c2 = some c3) (hzl : z.length = e + 1) (he1 : c1.e = e + 1)
  (hob : (c1.n + c2.n) * b ≤ 140737488355328 ∧ c1.n + c2.n ≤ 9223372036854775807) (hone : ∀ x ∈ c2.flat, x.val.oneCell' = true) (r : Res) (hrn : r.nx = nx + 1) (hrv : r.v = .w (.c (.o nx)))
  (hrh : r.hp = (nx, .row elem c3) :: (match hs with | some h => (h, .dead) :: ja1 hp | none => ja1 hp)) :
  jaV P ρ B nx a w o r false := by
 have happ := Cont.app_flat h3
 have hvs := (hr _ _ hrs).2
 have hvx := (hr _ _ hrx).2
 cases hi : P.info? elem with
 | none => simp [szT, hi] at hsz
 | some i =>
  have hsz' : i.size = e + 1 := by simpa [szT, hi] using hsz
  have hby' : i.bytes = b := by simpa [jdC, hi] using hby
  cases hzz : i.zero with
  | none => simp [jbo, hi, hzz] at hz
  | some zv =>
   cases hzc : jbo P elem with
   | none => simp [hzc] at hz
   | some zc =>
    simp only [hzc, Option.bind_some] at hz
    obtain ⟨v0, hv0, hvc, _⟩ := jb1 (P := P) (w := w) (ρ := ρ) hzc
    have hvz : v0 = zv := by
     simp [zeroValue, typeInfo, hi, hzz] at hv0
     exact hv0.symm
    subst hvz
    have hzce := jcy hz
    have hzs : v0.cells.size = e + 1 := by rw [hvc, hzce]; simp [hzl]
    have hmk0 : ∀ c, jer z [] = some c → c.n = 0 ∧ c.flat = [] := fun c hc => by have := jek hc; exact ⟨this.2.1, this.1⟩
    have hbase : w.ownsRow 0 elem (e + 1) (us.val ρ) c1.n (c1.flat.map D.val) ∧ (∀ k, (us.val ρ).ownBlock = some k → ∃ h o, hs = some h ∧ find hp h = some o ∧ o.blk (ρ h) = some k) := by
     rcases jdE hh hss with ⟨rfl, rfl, hv⟩ | ⟨k, ob, c, rfl, rfl, hv, hf, hc, _⟩
     ·have := hmk0 c1 h1
      rw [hv, this.1, this.2]
      exact ⟨World.ownsRow_nil w 0 elem (e + 1), fun k hk => by simp [Value.ownBlock] at hk⟩
     ·simp only [jdB, Option.some.injEq] at h1
      subst h1
      simp only [Option.getD_some, hf] at hown
      cases ob with
      | row ty c' =>
       simp only at hown
       subst hown
       simp [O.cont] at hc
       subst hc
       have hok := (hh.ok k _ hf).2.2
       rw [hv]
       refine ⟨by rw [← he1]; exact hok.1, fun g hg => ⟨k, _, rfl, hf, hg⟩⟩
      | _ => exact hown.elim
    have hsrc : ((ux.val ρ) = .slice none 0 0 ∧ c2.n = 0) ∨ ∃ ad cc, (ux.val ρ) = .slice (some ad) c2.n cc ∧ ∀ j u, (c2.flat.map D.val)[j]? = some u → w.cell? (ad.add j) = some u := by
     rcases jdE hh hsx with ⟨rfl, rfl, hv⟩ | ⟨k, ob, c, rfl, rfl, hv, hf, hc, hrow⟩
     ·exact .inl ⟨hv, (hmk0 c2 h2).1⟩
     ·simp only [jdB, Option.some.injEq] at h2
      subst h2
      obtain ⟨a', cap, h5, ⟨h6, h6'⟩, h7⟩ := hrow
      by_cases hn : 0 < c.n
      ·obtain ⟨bb, off, rfl, hcell⟩ := h7 hn
       refine .inr ⟨⟨bb, off, none⟩, cap, by rw [hv, h5], fun j u hj => ?_⟩
       rw [List.getElem?_map] at hj
       cases hjx : c.flat[j]? with
       | none => simp [hjx] at hj
       | some x => simp [hjx] at hj; subst hj; rw [jbh]; exact hcell j x hjx
      ·cases a' with
       | some ad =>
        refine .inr ⟨ad, cap, by rw [hv, h5], fun j u hj => ?_⟩
        have hc0 : c.n = 0 := by omega
        have : c.flat = [] := List.eq_nil_of_length_eq_zero (by rw [Cont.flat_length, hc0, Nat.zero_mul])
        rw [this] at hj
        simp at hj
       | none =>
        have hcap : cap = 0 := h6' rfl
        subst hcap
        have : c.n = 0 := by omega
        exact .inl ⟨by rw [hv, h5, this], this⟩
    obtain ⟨v', w', hrun, hown', hgrown, hwhere⟩ := jpE (ty := o.type) hu hi hzz hsz' hby' hzs hbase.1 (news := c2.flat.map D.val) (m := c2.n) (by simp [Cont.flat_length, happ.2.2.2, he1]) (fun u hu2 => by
     obtain ⟨x, hx1, rfl⟩ := List.mem_map.1 hu2
     exact hone x hx1) hsrc hob.2 hob.1
    have hown3 : w'.ownsRow 0 elem c3.e v' c3.n (c3.flat.map D.val) := by
     rw [happ.1, happ.2.1, happ.2.2.1, he1, List.map_append]
     exact hown'
    have hgB : ∀ k, (us.val ρ).ownBlock = some k → ¬ B k := fun k hk => by
     obtain ⟨h, ob, _, hf, hbo⟩ := hbase.2 k hk
     exact (O.blk_lt (hh.ok h ob hf).2.2 hbo).2
    refine jaz (ρ' := upd ρ nx v') (w' := w') ?_ ?_
    ·unfold execOp
     simp only [ho, hcal, resolve, hargs, hts, List.map_toArray, List.map_cons, List.map_nil, Sem.run_bind, Sem.run_pure, Result.andThen_ok, invoke, builtin, hvs, hvx, hrun]
     simp [hrv, V.val, W.val, C.val]
    ·refine ⟨jat _ _ _, by rw [hrv, hrn]; exact Nat.lt_succ_self nx, by omega, ?_, jjx hgrown hgB hB, (fun h => by cases h), fun h => by cases h⟩
     rw [hrh, hrn]
     refine HRel.grow hh hB hgrown hgB ?_ ?_ (by unfold O.ok; rw [upd_same]; exact ⟨hown3, fun k hk hc => by
      rcases hwhere k hk with h | h
      ·exact hgB k h hc
      ·have := hB k hc; omega⟩) trivial (fun k hk => hwhere k hk)
     ·intro k o1 hk
      cases hs with
      | none => exact .inl hk
      | some h =>
       simp only [find] at hk
       split at hk
       ·rename_i e
        cases hk
        refine .inr ⟨rfl, ?_⟩
        rcases jdE hh hss with ⟨h', _, _⟩ | ⟨k2, ob, c, h', _, _, hf, _, _⟩
        ·cases h'
        ·cases h'
         rw [← e]
         exact (hh.ok _ _ hf).1
       ·exact .inl hk
     ·intro k o1 g hk hbk hvg
      obtain ⟨h, ob, rfl, hf, hbo⟩ := hbase.2 g hvg
      simp only [find] at hk
      split at hk
      ·cases hk
       simp [O.blk] at hbk
      ·rename_i hne
       obtain ⟨o2, h2', _, _, _, _, h7⟩ := jbM hh hk
       exact hh.apart h ob k o2 g hf h2' hne hbo (h7 g hbk)
theorem jmy {o : Oper} {t elem e b h q : Nat} {s x : Operand} {c : Call} {ux : V} {hx : Option Nat} {cx : Option Cont} {z : List D} {c1 c2 c3 : Cont} (hh : HRel ρ B hp nx w) (hB : Old B w) (hr : jaR ρ nx rd a)
  (ho : o.op = .call c) (hcal : c.callee = .builtin .append) (hargs : c.args = #[s, x]) (hts : c.argTypes = #[t, t]) (hu : P.underlying t = some (.slice elem))
  (hrs : rd s = some (.w (.c (.o h)))) (hf : find hp h = some (.view q c1 true)) (hrx : rd x = some ux) (hsx : jcS hp ux = some (hx, cx)) (hz : (jbo P elem).bind jbC = some z) (hsz : szT P elem = some (e + 1)) (hby : jdC P elem = some b)
  (h2 : jdB z cx = some c2) (h3 : c1.app c2 = some c3) (hzl : z.length = e + 1) (he1 : c1.e = e + 1) (hn1 : 0 < c1.n)
  (hob : 0 < c2.n ∧ (c1.n + c2.n) * b ≤ 140737488355328 ∧ c1.n + c2.n ≤ 9223372036854775807) (r : Res) (hrn : r.nx = nx + 1) (hrv : r.v = .w (.c (.o nx)))
  (hrh : r.hp = (nx, .row elem c3) :: hp) : jaV P ρ B nx a w o r false := by
 have happ := Cont.app_flat h3
 have hvs : a.eval s = ρ h := (hr _ _ hrs).2
 have hvx := (hr _ _ hrx).2
 obtain ⟨hlt, hol, ⟨a1, cap1, hv1, hc1, hcell1⟩, hfull⟩ := hh.ok h _ hf
 have hcap := hfull rfl _ _ _ hv1
 subst hcap
 obtain ⟨b1, off1, rfl, hx1⟩ := hcell1 hn1
 cases hi : P.info? elem with
 | none => simp [szT, hi] at hsz
 | some i =>
  have hsz' : i.size = e + 1 := by simpa [szT, hi] using hsz
  have hby' : i.bytes = b := by simpa [jdC, hi] using hby
  cases hzz : i.zero with
  | none => simp [jbo, hi, hzz] at hz
  | some zv =>
   cases hzc : jbo P elem with
   | none => simp [hzc] at hz
   | some zc =>
    simp only [hzc, Option.bind_some] at hz
    obtain ⟨v0, hv0, hvc, _⟩ := jb1 (P := P) (w := w) (ρ := ρ) hzc
    have hvz : v0 = zv := by
     simp [zeroValue, typeInfo, hi, hzz] at hv0
     exact hv0.symm
    subst hvz
    have hzce := jcy hz
    have hzs : v0.cells.size = e + 1 := by rw [hvc, hzce]; simp [hzl]
    have hmk0 : ∀ c, jer z [] = some c → c.n = 0 ∧ c.flat = [] := fun c hc => by have := jek hc; exact ⟨this.2.1, this.1⟩
    obtain ⟨ad, cc, hxv, hx2⟩ : ∃ ad cc, (ux.val ρ) = .slice (some ad) c2.n cc ∧ ∀ j u, (c2.flat.map D.val)[j]? = some u → w.cell? (ad.add j) = some u := by
     rcases jdE hh hsx with ⟨rfl, rfl, hv⟩ | ⟨k, ob, c, rfl, rfl, hv, hf, hc, hrow⟩
     ·have := (hmk0 c2 h2).1
      omega
     ·simp only [jdB, Option.some.injEq] at h2
      subst h2
      obtain ⟨a', cap, h5, ⟨h6, h6'⟩, h7⟩ := hrow
      obtain ⟨bb, off, rfl, hcell⟩ := h7 hob.1
      refine ⟨⟨bb, off, none⟩, cap, by rw [hv, h5], fun j u hj => ?_⟩
      rw [List.getElem?_map] at hj
      cases hjx : c.flat[j]? with
      | none => simp [hjx] at hj
      | some x => simp [hjx] at hj; subst hj; rw [jbh]; exact hcell j x hjx
    have hl1 : (c1.flat.map D.val).length = c1.n * i.size := by simp [Cont.flat_length, he1, hsz']
    have hl2 : (c2.flat.map D.val).length = c2.n * i.size := by simp [Cont.flat_length, happ.2.2.2, he1, hsz']
    have hrun := run_append_grow (P := P) w t o.type elem i v0 hu hi hzz ⟨b1, off1, none⟩ c1.n c1.n (c1.flat.map D.val) hl1 (fun j u hj => by
     rw [List.getElem?_map] at hj
     cases hjx : c1.flat[j]? with
     | none => simp [hjx] at hj
     | some x => simp [hjx] at hj; subst hj; rw [jbh]; exact hx1 j x hjx) ad c2.n cc (c2.flat.map D.val) hl2 hx2 (by omega) (by have := hob.2.2; omega) (growslice_fits (by omega) (by rw [hby']; exact hob.2.1))
    have hge := grownCap_ge w (c1.n + c2.n) c1.n elem
    have hcm : grownCap w (c1.n + c2.n) c1.n elem ≤ maxLen := grownCap_le_maxLen w (c1.n + c2.n) c1.n elem (by have := hob.2.2; simpa [maxLen] using this)
    have hbel : Below w.heap.size w (w.drew.alloc (.cells ((c1.flat.map D.val).toArray ++ (c2.flat.map D.val).toArray ++ Builtin.zeroCells v0.cells (grownCap w (c1.n + c2.n) c1.n elem - (c1.n + c2.n))) elem)) := ((Below.refl _ w).drew).alloc (Nat.le_refl _) _
    refine jaz (ρ' := upd ρ nx (.slice (some ⟨w.heap.size, 0, none⟩) (c1.n + c2.n) (grownCap w (c1.n + c2.n) c1.n elem)))
     (w' := w.drew.alloc (.cells ((c1.flat.map D.val).toArray ++ (c2.flat.map D.val).toArray ++ Builtin.zeroCells v0.cells (grownCap w (c1.n + c2.n) c1.n elem - (c1.n + c2.n))) elem)) ?_ ?_
    ·unfold execOp
     simp only [ho, hcal, resolve, hargs, hts, List.map_toArray, List.map_cons, List.map_nil, Sem.run_bind, Sem.run_pure, Result.andThen_ok, invoke, builtin, hvs, hvx, hv1, hxv, hrun]
     simp [hrv, V.val, W.val, C.val]
    ·refine ⟨jat _ _ _, by rw [hrv, hrn]; exact Nat.lt_succ_self nx, by omega, ?_, jbR hbel hB, (fun h => by cases h), fun h => by cases h⟩
     rw [hrh, hrn]
     refine hh.add hbel hB (jat _ _ _) trivial ⟨?_, fun k hk hc => ?_⟩ (by simp [O.blk, Value.ownBlock])
     ·rw [upd_same, happ.1, happ.2.1, happ.2.2.1, he1, List.map_append]
      refine ⟨by rw [List.length_append, hl1, hl2, hsz', ← Nat.add_mul], .inr ⟨w.heap.size, _, _, rfl, Nat.zero_le _, heap_alloc_new w.drew _, hge, hcm, ?_, ?_⟩⟩
      ·simp only [Array.size_append, List.size_toArray, size_zeroCells, hzs, hl1, hl2, hsz', ← Nat.add_mul]
       congr 1
       omega
      ·simp only [Array.toList_append]
       have : ((c1.flat.map D.val) ++ (c2.flat.map D.val)).length = (c1.n + c2.n) * (e + 1) := by rw [List.length_append, hl1, hl2, hsz', ← Nat.add_mul]
       rw [← this]
       exact List.take_left
     ·rw [upd_same] at hk
      simp only [Value.ownBlock, Option.some.injEq] at hk
      have := hB k hc
      omega
theorem Cont.one_all {c : Cont} (h : c.one = true) : ∀ x ∈ c.flat, x.val.oneCell' = true := by
 intro x hx
 cases c with
 | ints k l => simp [Cont.flat] at hx; obtain ⟨y, _, rfl⟩ := hx; rfl
 | floats k l => simp [Cont.flat] at hx; obtain ⟨y, _, rfl⟩ := hx; rfl
 | strs l => simp [Cont.flat] at hx; obtain ⟨y, _, rfl⟩ := hx; rfl
 | bools l => simp [Cont.flat] at hx; rcases hx with ⟨_, rfl⟩ | ⟨_, rfl⟩ <;> rfl
 | recs e l => simp [Cont.flat, jgB] at hx; obtain ⟨y, _, i, _, rfl⟩ := hx; rfl
 | lits e l => exact D.one_val (List.all_eq_true.1 h x hx)
 | frs k e l => simp [Cont.flat, frD] at hx; obtain ⟨y, _, i, _, rfl⟩ := hx; rfl
theorem jh1 (hr : jaR ρ nx rd a) : ∀ (xs : List Operand) (l : List V), jfB rd xs = some l → xs.map a.eval = l.map (V.val ρ) ∧ ∀ v ∈ l, V.lt nx v
 | [], l, h => by simp only [jfB, Option.some.injEq] at h; subst h; exact ⟨rfl, fun _ h => by cases h⟩
 | x :: r, l, h => by
  simp only [jfB] at h
  split at h
  ·rename_i v l' hx hl
   cases h
   have ih := jh1 hr r l' hl
   have h1 := hr x _ hx
   refine ⟨by simp only [List.map_cons, ih.1, h1.2], fun y hy => ?_⟩
   rcases List.mem_cons.1 hy with rfl | hy
   ·exact h1.1
   ·exact ih.2 y hy
  ·cases h
theorem jkI {o : Oper} {c : Call} {f : Operand} {g : Nat} {hs : List Nat} {vs : List V} {M : Bool} {S : Spec} {r : RT} (hh : HRel ρ B hp nx w) (hB : Old B w) (hr : jaR ρ nx rd a)
  (ho : o.op = .call c) (hcal : c.callee = .value f) (hrf : rd f = some (.w (.c (.fn g hs)))) (hvs : jfB rd c.args.toList = some vs) (hok : jaf P g M S)
  (hS : S (vs ++ hs.map fun h => .w (.c (.o h))) hp nx = some r) (hob : r.sel.ob) : jaV P ρ B nx a w o r.sel M := by
 have hf := hr _ _ hrf
 have hargs := jh1 hr _ _ hvs
 have hltA : ∀ x ∈ vs ++ hs.map (fun h => V.w (.c (.o h))), V.lt nx x := fun x hx => by
  rcases List.mem_append.1 hx with h | h
  ·exact hargs.2 x h
  ·obtain ⟨k, hk, rfl⟩ := List.mem_map.1 h
   exact hf.1 k hk
 have ha : c.args.map a.eval = (vs.map (V.val ρ)).toArray := by
  rw [← hargs.1]
  apply Array.ext'
  simp
 have hcall : (execOp a.eval o).run P w = (callFunc g ((vs ++ hs.map fun h => V.w (.c (.o h))).map (V.val ρ)).toArray).run P w := by
  unfold execOp
  simp only [ho, resolve, hcal, hf.2, ha, Deferred.ofValue, V.val, W.val, C.val, Sem.run_bind, Sem.run_pure, Result.andThen_ok, invoke]
  congr 2
  simp [V.val, W.val, C.val, Function.comp_def]
 rcases hok with hok | hok
 ·intro K Q hK
  have hcalls := hok.sound ρ B w _ hp nx r hS hob hltA hh hB
  unfold Oper.wp
  rw [hcall, hok.enter]
  refine hcalls.mono fun e w' ⟨ρ', he', hl⟩ => ?_
  subst he'
  exact hK ρ' w' hl
 ·obtain ⟨ob, v, hsel, hv, hrun⟩ := hok ρ B w _ hp nx r hS hob hltA hh hB
  rw [hsel]
  exact jaz (ρ' := ρ) (w' := w) (hcall.trans hrun) ⟨jai.refl _ _, hv, Nat.le_refl _, hh, Bel.refl _ _, (fun _ => Below.refl _ _), fun _ h o k hn hf _ => absurd (hh.ok h o hf).1 (by omega)⟩
theorem jjy {o : Oper} {c : Call} {f : Operand} {g : Nat} {hs : List Nat} {vs : List V} {M : Bool} {S : Spec} {r : RT} (hh : HRel ρ B hp nx w) (hB : Old B w) (hr : jaR ρ nx rd a)
  (ho : o.op = .call c) (hcal : c.callee = .value f) (hrf : rd f = some (.w (.c (.fb g hs)))) (hvs : jfB rd c.args.toList = some vs) (hok : jaf P g M S)
  (hS : S ((hs.map fun h => .w (.c (.o h))) ++ vs) hp nx = some r) (hob : r.sel.ob) : jaV P ρ B nx a w o r.sel M := by
 have hf := hr _ _ hrf
 have hargs := jh1 hr _ _ hvs
 have hltA : ∀ x ∈ hs.map (fun h => V.w (.c (.o h))) ++ vs, V.lt nx x := fun x hx => by
  rcases List.mem_append.1 hx with h | h
  ·obtain ⟨k, hk, rfl⟩ := List.mem_map.1 h
   exact hf.1 k hk
  ·exact hargs.2 x h
 have ha : c.args.map a.eval = (vs.map (V.val ρ)).toArray := by
  rw [← hargs.1]
  apply Array.ext'
  simp
 have hcall : (execOp a.eval o).run P w = (callFunc g ((hs.map (fun h => V.w (.c (.o h))) ++ vs).map (V.val ρ)).toArray).run P w := by
  unfold execOp
  simp only [ho, resolve, hcal, hf.2, ha, Deferred.ofValue, V.val, W.val, C.val, Sem.run_bind, Sem.run_pure, Result.andThen_ok, invoke]
  congr 2
  simp [V.val, W.val, C.val, Function.comp_def]
 rcases hok with hok | hok
 ·intro K Q hK
  have hcalls := hok.sound ρ B w _ hp nx r hS hob hltA hh hB
  unfold Oper.wp
  rw [hcall, hok.enter]
  refine hcalls.mono fun e w' ⟨ρ', he', hl⟩ => ?_
  subst he'
  exact hK ρ' w' hl
 ·obtain ⟨ob, v, hsel, hv, hrun⟩ := hok ρ B w _ hp nx r hS hob hltA hh hB
  rw [hsel]
  exact jaz (ρ' := ρ) (w' := w) (hcall.trans hrun) ⟨jai.refl _ _, hv, Nat.le_refl _, hh, Bel.refl _ _, (fun _ => Below.refl _ _), fun _ h o k hn hf _ => absurd (hh.ok h o hf).1 (by omega)⟩
theorem jeS {o : Oper} {r : Res} (hsp : jab P sp) (hh : HRel ρ B hp nx w) (hB : Old B w) (hr : jaR ρ nx rd a) (h : jbW P sp o.op rd hp nx = some r) (hob : r.ob) :
  jaV P ρ B nx a w o r (jaN sp o.op rd) := by
 unfold jbW at h
 split at h
 ·rename_i ob v hv
  cases h
  have hrun := jcF hh hr hv hob
  refine jaz (ρ' := ρ) (w' := w) hrun.1 ⟨jai.refl _ _, hrun.2, Nat.le_refl _, hh, Bel.refl _ _, (fun _ => Below.refl _ _), fun _ h o k hn hf _ => absurd (hh.ok h o hf).1 (by omega)⟩
 ·rename_i hnone
  clear hnone
  split at h
  ·rename_i r0 hX
   cases h
   exact jow hh hr hX hob
  rename_i hnone
  clear hnone
  split at h
  ·rename_i r0 hX
   cases h
   exact jox hh hB hr hX hob
  rename_i hnone
  clear hnone
  unfold jkA at h
  split at h
  ·-- box
   rename_i elem x hop
   split at h
   ·rename_i u hx
    split at h
    ·rename_i hone
     cases h
     simp only [hop, jaN]
     exact jqJ hh hB hr hop hx hone
    ·cases h
   ·cases h
  ·rename_i elem hop
   split at h
   ·rename_i z hz
    cases h
    simp only [hop, jaN]
    exact jou hh hB hop hz
   ·cases h
  ·rename_i t n parts hop
   split at h
   ·rename_i elem l hu hl
    split at h
    ·rename_i c hc
     cases h
     simp only [hop, jaN]
     exact jjP hh hB hr hop hu hl hc
    ·cases h
   ·cases h
  ·-- makeSlice
   rename_i t l c hop
   split at h
   ·rename_i elem k n k' m hu hl hc
    split at h
    ·rename_i z e b hz hs hb
     split at h
     ·rename_i hzl
      split at h
      ·rename_i cc hcc
       cases h
       simp only [hop, jaN]
       cases hrl : rd l with
       | none => simp [hrl] at hl
       | some u =>
        cases hrc : rd c with
        | none => simp [hrc] at hc
        | some u' =>
         simp only [hrl, Option.bind_some] at hl
         simp only [hrc, Option.bind_some] at hc
         exact jkD hh hB hr hop hu hrl hl hrc hc hz hs hb hzl hcc hob
      ·cases h
     ·cases h
    ·cases h
   ·cases h
  ·-- slice
   rename_i t x lo hi hop
   split at h
   ·rename_i n elem k j hu hx hlo hhi
    have hlo' : lo = none := by
     cases lo with
     | none => rfl
     | some y => simp only [ja0] at hlo; split at hlo <;> simp at hlo
    have hhi' : hi = none := by
     cases hi with
     | none => rfl
     | some y => simp only [ja0] at hhi; split at hhi <;> simp at hhi
    subst hlo'
    subst hhi'
    split at h
    ·rename_i ty cs e z hf hs hz
     split at h
     ·rename_i ds hds
      split at h
      ·rename_i hl
       split at h
       ·rename_i c hc
        cases h
        simp only [hop, jaN]
        exact jdD (jlE hh hB hr hop hu hx hf hs hds hl hc)
       ·cases h
      ·cases h
     ·cases h
    ·cases h
   ·rename_i elem k l m hu hx hlo hhi
    split at h
    ·rename_i ob e hf hs
     split at h
     ·rename_i c hc
      split at h
      ·rename_i hce
       cases h
       simp only [hop, jaN]
       exact jdD (jfc hh hB hr hop hu hx hlo hhi hf hs hc hce hob _ rfl rfl rfl)
      ·cases h
     ·cases h
    ·cases h
   ·cases h
  ·-- store
   rename_i t x y hop
   split at h
   ·rename_i k i e j u hx hy
    split at h
    ·rename_i hc
     obtain ⟨hone, hs, hall⟩ := hc
     split at h
     ·rename_i ty cs hf
      split at h
      ·rename_i p cs' hst
       cases h
       simp only [hop, jaN]
       obtain ⟨rfl, hle⟩ := jpD (i := i) hst hob
       exact jqK (jgi hh hr hop hx hy hone hs hall hf hle) rfl rfl rfl
      ·split at h
       ·rename_i hle
        cases h
        simp only [hop, jaN]
        exact jgi hh hr hop hx hy hone hs hall hf hle
       ·cases h
     ·rename_i ty c hf
      split at h
      ·rename_i ds hds
       split at h
       ·rename_i c' hc'
        split at h
        ·rename_i he
         cases h
         simp only [hop, jaN]
         exact jd2 hh hr hop hx hy hone hs hall hf hds (Cont.upd_cell hc' hob) he.1 he.2 hob
        ·cases h
       ·cases h
      ·cases h
     ·cases h
    ·cases h
   ·cases h
  ·-- call
   rename_i c hop
   split at h
   ·-- append
    rename_i s x t t' hcal hargs hts
    split at h
    ·rename_i htt
     subst htt
     split at h
     ·rename_i cv hfv
      unfold jne at hfv
      split at hfv
      ·rename_i k hrs
       split at hfv
       ·rename_i q c1 hfk
        cases hfv
        unfold jfW at h
        split at h
        ·rename_i elem hx cx hu hsx
         split at h
         ·rename_i z e b hz hsz hby
          split at h
          ·rename_i c2 h2
           split at h
           ·rename_i c3 h3
            split at h
            ·rename_i hcond
             cases h
             have e1 : c.args = #[s, x] := by apply Array.ext'; simpa using hargs
             have e2 : c.argTypes = #[t, t] := by apply Array.ext'; simpa using hts
             cases hrx : rd x with
             | none => simp [hrx] at hsx
             | some ux =>
              simp only [hrx, Option.bind_some] at hsx
              have hm : jaN sp o.op rd = false := by simp only [hop, jaN, hcal]
              rw [hm]
              exact jmy hh hB hr hop hcal e1 e2 hu hrs hfk hrx hsx hz hsz hby h2 h3 hcond.1 hcond.2 hob.1 hob.2 _ rfl rfl rfl
            ·cases h
           ·cases h
          ·cases h
         ·cases h
        ·cases h
       ·cases hfv
      ·cases hfv
     ·rename_i hfv
      split at h
      ·rename_i elem hs cs hx cx hu hss hsx
       split at h
       ·rename_i z e b hz hsz hby
        split at h
        ·rename_i c1 c2 hownB h1 h2
         split at h
         ·rename_i c3 h3
          split at h
          ·rename_i hcond
           cases h
           have e1 : c.args = #[s, x] := by apply Array.ext'; simpa using hargs
           have e2 : c.argTypes = #[t, t] := by apply Array.ext'; simpa using hts
           cases hrs : rd s with
           | none => simp [hrs] at hss
           | some us =>
            cases hrx : rd x with
            | none => simp [hrx] at hsx
            | some ux =>
             simp only [hrs, Option.bind_some] at hss
             simp only [hrx, Option.bind_some] at hsx
             have hm : jaN sp o.op rd = false := by simp only [hop, jaN, hcal]
             rw [hm]
             refine jnp hh hB hr hop hcal e1 e2 hu hrs hrx hss hsx hz hsz hby ?_ h1 h2 h3 hcond.1 hcond.2.1 hob (Cont.one_all hcond.2.2) _ rfl rfl rfl
             cases hs with
             | none => trivial
             | some k =>
              simp only [Option.getD_some] at hownB ⊢
              cases hfk : find hp k with
              | none => simp [hfk] at hownB
              | some ob =>
               cases ob with
               | row ty c' => simp only [hfk] at hownB; exact beq_iff_eq.1 hownB
               | _ => simp [hfk] at hownB
          ·cases h
         ·cases h
        ·cases h
       ·cases h
      ·cases h
    ·cases h
   ·-- a call
    rename_i f args ats hcal
    split at h
    ·rename_i g hs vs hrf hvs
     split at h
     ·rename_i M S hsg
      have hm : jaN sp o.op rd = M := by simp only [hop, jaN, hcal, hrf, hsg]
      rw [hm]
      obtain ⟨t, ht, hl⟩ := Option.bind_eq_some_iff.1 h
      cases t with
      | leaf r0 =>
       cases hl
       exact jkI hh hB hr hop hcal hrf hvs (hsp g M S hsg) ht hob
      | br => cases hl
     ·cases h
    ·rename_i g hs vs hrf hvs
     split at h
     ·rename_i M S hsg
      have hm : jaN sp o.op rd = M := by simp only [hop, jaN, hcal, hrf, hsg]
      rw [hm]
      obtain ⟨t, ht, hl⟩ := Option.bind_eq_some_iff.1 h
      cases t with
      | leaf r0 =>
       cases hl
       exact jjy hh hB hr hop hcal hrf hvs (hsp g M S hsg) ht hob
      | br => cases hl
     ·cases h
    ·cases h
   ·cases h
  ·cases h
def drew (w : World) : World := { w with drawn := w.drawn + 1 }
theorem jkJ (n : Nat) (w : World) : Below n w (drew w) := ⟨rfl, rfl, rfl, Nat.le_refl _, fun _ _ => rfl⟩
theorem jo6 {r : Res} (hh : HRel ρ B hp nx w) (hB : Old B w) {k : FloatKind} {n : Nat} (hn : (k.decode n).isNaN = true) (hrv : r.v = .w (.c (.o nx))) (hr : r.hp = (nx, .nan k) :: hp) (hrn : r.nx = nx + 1) (M : Bool) :
  Left ρ B nx w r M (upd ρ nx (.float k n)) (drew w) := by
 refine ⟨jat _ _ _, by rw [hrn, hrv]; exact Nat.lt_succ_self nx, by omega, ?_, ⟨rfl, rfl, rfl, Nat.le_refl _, fun _ _ => rfl⟩, fun _ => jkJ _ _, fun _ h o q hnh hf hk => ?_⟩
 ·rw [hr, hrn]
  exact hh.add (jkJ _ w) hB (jat _ _ _) trivial ⟨n, upd_same _ _ _, hn⟩ (by simp [O.blk])
 ·rw [hr] at hf
  simp only [find] at hf
  split at hf
  ·cases hf; cases hk
  ·have := (hh.ok h o hf).1
   omega
theorem jnq {k : FloatKind} {x y t : Nat} : (k.decode ((Question.nanBits k x y).cut t)).isNaN = true := by
 cases k
 ·exact Fl.nan32 t
 ·exact Fl.nan64 t
theorem jnr {k : FloatKind} {x t : Nat} : (k.decode ((Question.nanConv k x).cut t)).isNaN = true := by
 cases k
 ·exact Fl.nan32 t
 ·exact Fl.nan64 t
theorem joz {o : Oper} {t : RT} (hsp : jab P sp) (hh : HRel ρ B hp nx w) (hB : Old B w) (hr : jaR ρ nx rd a) (h : jpC P sp o.op rd hp nx = some t) (hob : t.sel.ob) :
  ∃ M, jaV P ρ B nx a w o t.sel M := by
 unfold jpC at h
 split at h
 ·rename_i op ty x y yt hop
  split at h
  ·rename_i k m k' n hx hy
   split at h
   ·rename_i r hk hr2
    have hk := jbq hk
    subst hk
    cases h
    have h1 := (hr _ _ hx).2
    have h2 := (hr _ _ hy).2
    have hg : (eqGuard op ty x y (Value.float k m) (Value.float k n)).run P w = .ok () w := by
     cases op <;> simp [eqGuard]
    have hb : binOp op ty (.float k m) (.float k n) = Op.floatArith op k m n := by
     unfold jpB at hr2
     cases op <;> simp at hr2 <;> simp [binOp]
    have hfa : Op.floatArith op k m n = (match (generalizing := false) r with | some q => pure (.float k q) | none => (choose (.nanBits k m n) >>= fun z => pure (.float k z)) : Sem Value) := by
     unfold jpB at hr2
     cases op <;> simp at hr2 <;> subst hr2 <;> simp [Op.floatArith] <;> split <;> rename_i hq <;> simp [hq]
    cases r with
    | some q =>
     refine ⟨true, ?_⟩
     refine jaz (ρ' := ρ) (w' := w) ?_ ⟨jai.refl _ _, trivial, Nat.le_refl _, hh, Bel.refl _ _, (fun _ => Below.refl _ _), fun _ h o k hn hf _ => absurd (hh.ok h o hf).1 (by omega)⟩
     unfold execOp
     have e1 : a.eval x = .float k m := h1
     have e2 : a.eval y = .float k n := h2
     simp only [hop, e1, e2, Sem.run_bind, hg, Result.andThen_ok, hb, hfa, Sem.run_pure]
     rfl
    | none =>
     refine ⟨true, ?_⟩
     refine jaz (ρ' := upd ρ nx (.float k ((Question.nanBits k m n).cut (w.tape w.drawn (.nanBits k m n))))) (w' := drew w) ?_ (jo6 hh hB jnq rfl rfl rfl true)
     unfold execOp
     have e1 : a.eval x = .float k m := h1
     have e2 : a.eval y = .float k n := h2
     simp only [hop, e1, e2, Sem.run_bind, hg, Result.andThen_ok, hb, hfa, choose, Sem.run, Question.forced]
     simp [RT.sel, V.val, W.val, C.val, drew]
   ·cases h
  ·cases h
 ·rename_i src dst x hop
  split at h
  ·rename_i n hs hd hx
   cases h
   have h1 := (hr _ _ hx).2
   have e1 : a.eval x = .float .f32 n := h1
   have hc : convert src dst (.float .f32 n) = (convert src dst (.float .f32 n)) := rfl
   have hrun : (convert src dst (.float .f32 n)).run P w = (Conv.floatToFloat .f32 n .f64).run P w := by
    simp [convert, run_underlying hs, run_underlying hd]
   unfold jo1 to64
   cases hdec : FloatKind.decode .f32 n with
   | nan s f =>
    refine ⟨true, ?_⟩
    refine jaz (ρ' := upd ρ nx (.float .f64 ((Question.nanConv .f64 n).cut (w.tape w.drawn (.nanConv .f64 n))))) (w' := drew w) ?_ (jo6 hh hB jnr rfl rfl rfl true)
    unfold execOp
    simp only [hop, e1, Sem.run_bind, hrun]
    simp [Conv.floatToFloat, hdec, choose, Sem.run, Question.forced, RT.sel, V.val, W.val, C.val, drew, Ieee.Datum.isNaN]
   | infinity s =>
    refine ⟨true, ?_⟩
    refine jaz (ρ' := ρ) (w' := w) ?_ ⟨jai.refl _ _, trivial, Nat.le_refl _, hh, Bel.refl _ _, (fun _ => Below.refl _ _), fun _ h o k hn hf _ => absurd (hh.ok h o hf).1 (by omega)⟩
    unfold execOp
    simp only [hop, e1, Sem.run_bind, hrun]
    simp [Conv.floatToFloat, hdec, RT.sel, V.val, W.val, C.val, D.val, vf, Ieee.Datum.isNaN]
   | number s m e =>
    refine ⟨true, ?_⟩
    refine jaz (ρ' := ρ) (w' := w) ?_ ⟨jai.refl _ _, trivial, Nat.le_refl _, hh, Bel.refl _ _, (fun _ => Below.refl _ _), fun _ h o k hn hf _ => absurd (hh.ok h o hf).1 (by omega)⟩
    unfold execOp
    have hinf : (FloatKind.decode .f64 (FloatKind.encode .f64 (.number s m e))).isInfinity = false := Fl.up64 (b := n) hdec
    simp only [hop, e1, Sem.run_bind, hrun]
    simp [Conv.floatToFloat, hdec, hinf, RT.sel, V.val, W.val, C.val, D.val, vf, Ieee.Datum.isNaN]
  ·cases h
 ·rename_i c hop
  split at h
  ·rename_i f hcal
   split at h
   ·rename_i g hs vs hrf hvs
    split at h
    ·rename_i M S hsg
     exact ⟨M, jkI hh hB hr hop hcal hrf hvs (hsp g M S hsg) h hob⟩
    ·cases h
   ·rename_i g hs vs hrf hvs
    split at h
    ·rename_i M S hsg
     exact ⟨M, jjy hh hB hr hop hcal hrf hvs (hsp g M S hsg) h hob⟩
    ·cases h
   ·cases h
  ·cases h
 ·cases h
end
end Go.Sx
end

section
open Go.RowKit
namespace Go.Sx
structure St where
 tm : List (Nat × V)
 hp : Hp
 nx : Nat
def ja4 : List (Nat × V) → Nat → Option V
 | [], _ => none
 | (k, v) :: r, t => if k = t then some v else ja4 r t
def jdh [Globs] (st : St) : Operand → Option V
 | .tmp t => ja4 st.tm t
 | .const v => some (.w (ofValue v))
 | .global g => match Globs.tab g with
  | some c => some (.w (.c (.g g 0 c.e 0)))
  | none => some (.w (.c (.d (.v (.pointer (some ⟨g, 0, none⟩))))))
 | .func f => some (.w (.c (.fn f [])))
structure RelD [Globs] (ds : List Deferred) (ρ : Env) (B : Bd) (N n0 : Nat) (st : St) (a : Act) (w : World) : Prop where
 tm : ∀ t v, ja4 st.tm t = some v → v.lt st.nx ∧ a.tmps.getD t undef = v.val ρ
 size : a.tmps.size = N
 defers : a.defers = ds
 heap : HRel ρ B st.hp st.nx w
 le : Old B w
 n0 : n0 ≤ st.nx
abbrev Rel [Globs] := RelD []
theorem RelD.reads [Globs] {ds : List Deferred} {ρ : Env} {B : Bd} {N n0 : Nat} {st : St} {a : Act} {w : World} (h : RelD ds ρ B N n0 st a w) : jaR ρ st.nx (jdh st) a := by
 intro x u hx
 cases x with
 | tmp t => exact h.tm t u hx
 | const v =>
  simp only [jdh, Option.some.injEq] at hx
  subst hx
  exact ⟨jgD _ v, (jfS ρ v).symm⟩
 | global g =>
  simp only [jdh] at hx
  split at hx
  ·cases hx
   exact ⟨trivial, by simp [V.val, W.val, C.val, Act.eval]⟩
  ·cases hx
   exact ⟨trivial, rfl⟩
 | func f =>
  simp only [jdh, Option.some.injEq] at hx
  subst hx
  exact ⟨(fun _ hh => by cases hh), by simp [V.val, W.val, C.val, Act.eval]⟩
def Br (b : Bool) (x y : Prop) : Prop := Bool.rec (motive := fun _ => Prop) y x b
structure Ob (p : Prop) : Prop where
 h : p
theorem Br.intro {b : Bool} {x y : Prop} (h : b = true → x) (k : b = false → y) : Br b x y := by
 cases b
 ·exact k rfl
 ·exact h rfl
def St.put (st : St) (d : Option Nat) (r : Res) : St :=
 match d with
 | some t => ⟨(t, r.v) :: st.tm, r.hp, r.nx⟩
 | none => ⟨st.tm, r.hp, r.nx⟩
def jc7 (N : Nat) : Option Nat → Bool
 | some t => Nat.blt t N
 | none => true
def jcf (op : Op) (rd : Operand → Option V) (hp : Hp) : Bool :=
 match op with
 | .move _ | .assign _ | .pick _ _ _ | .unOp _ _ _ | .extract _ _ | .field _ _ _ | .nilCheck _ | .fieldAddr _ _ _ | .build _ _ | .makeFunc _ _ _ | .box _ _ | .alloc _ | .buildSlice _ _ _ => true
 | .binOp op _ x _ _ => match op with
  | .quo | .rem | .shl | .shr => false
  | .add => match (rd x).bind V.str?, (rd x).bind V.flt? with
   | none, none => true
   | _, _ => false
  | .mul => match (rd x).bind V.flt? with
   | none => true
   | some _ => false
  | _ => true
 | .load _ x => match rd x with
  | some (.w (.c (.p h _ (_ + 1) _))) => match find hp h with
   | some (.box _ _) => true
   | _ => false
  | _ => false
 | .store _ x _ => match rd x with
  | some (.w (.c (.p h _ (_ + 1) _))) => match find hp h with
   | some (.box _ _) => true
   | _ => false
  | _ => false
 | .call c => match c.callee with
  | .builtin .len => true
  | .builtin .min => true
  | .builtin .max => true
  | _ => false
 | _ => false
def RT.run : RT → (Res → Prop) → Prop
 | .leaf r, k => k r
 | .br b x y, k => Br b (x.run k) (y.run k)
theorem RT.run_sel : ∀ {t : RT} {k : Res → Prop}, t.run k → k t.sel
 | .leaf _, _, h => h
 | .br b x y, k, h => by
  cases b
  ·exact RT.run_sel (t := y) h
  ·exact RT.run_sel (t := x) h
def jns [Globs] (P : Program) (sp : jaa) (N : Nat) (o : Oper) (st : St) (k : St → Prop) : Prop :=
 match jpC P sp o.op (jdh st) st.hp st.nx with
 | some t => match jc7 N o.dst with
  | true => t.run fun r => Ob r.ob ∧ k (st.put o.dst r)
  | false => False
 | none =>
 match jbW P sp o.op (jdh st) st.hp st.nx with
 | some r => match jc7 N o.dst with
  | true => match jcf o.op (jdh st) st.hp with
   | true => k (st.put o.dst r)
   | false => Ob r.ob ∧ k (st.put o.dst r)
  | false => False
 | none => False
def jh2 (N : Nat) (o : Oper) (st : St) (k : St → Prop) : Prop :=
 match jc7 N o.dst with
 | true => k (st.put o.dst ⟨True, vu, st.hp, st.nx⟩)
 | false => False
def jlF (all : List Oper) (j : Nat) (st : St) : Option (Nat × V) :=
 match (all[j]?).bind (·.dst) with
 | some t => (ja4 st.tm t).map fun v => (t, v)
 | none => none
def jfY [Globs] (P : Program) (sp : jaa) (N : Nat) (all : List Oper) : List Oper → St → (St → Prop) → Prop
 | [], st, k => k st
 | o :: r, st, k =>
  match o.guard with
  | none => jns P sp N o st fun st' => jfY P sp N all r st' k
  | some (j, want) =>
   match jlF all j st with
   | some (t, .w (.c (.d (.b b)))) =>
    Br b
     (match want with
      | true => jns P sp N o ⟨(t, vb true) :: st.tm, st.hp, st.nx⟩ fun st' => jfY P sp N all r st' k
      | false => jh2 N o ⟨(t, vb true) :: st.tm, st.hp, st.nx⟩ fun st' => jfY P sp N all r st' k)
     (match want with
      | true => jh2 N o ⟨(t, vb false) :: st.tm, st.hp, st.nx⟩ fun st' => jfY P sp N all r st' k
      | false => jns P sp N o ⟨(t, vb false) :: st.tm, st.hp, st.nx⟩ fun st' => jfY P sp N all r st' k)
   | some (_, .w (.c (.d (.v (.tuple _))))) => jh2 N o st fun st' => jfY P sp N all r st' k
   | _ => False
inductive Ex where
 | normal
 | exit (n : Nat)
 | ret
def Ex.toExit : Ex → Exit
 | .normal => .normal
 | .exit n => .exit n
 | .ret => .ret
abbrev Rn := List (Nat × Option Nat)
def jbj : Rn → Nat → Option (Option Nat)
 | [], _ => none
 | (k, v) :: r, h => if k = h then some v else jbj r h
def jmQ (m : Rn) (h : Nat) : Bool := m.any fun x => x.2 == some h
def jiR (h' h : Nat) (m : Rn) (k : Rn → Prop) : Prop :=
 match jbj m h' with
 | some (some s) => if s = h then k m else False
 | some none => False
 | none => match jmQ m h with
  | true => False
  | false => k ((h', some h) :: m)
def jmR : List Nat → List Nat → Rn → (Rn → Prop) → Prop
 | [], [], m, k => k m
 | h' :: r', h :: r, m, k => jiR h' h m fun m => jmR r' r m k
 | _, _, _, _ => False
def mD : D → D → Prop
 | .i k n, .i k' n' => if k = k' then Ob (n' = n) else False
 | .b x, .b y => Ob (y = x)
 | .f k n, .f k' n' => if k = k' then Ob (n' = n) else False
 | .s x, .s y => Ob (y = x)
 | .v x, .v y => Ob (y = x)
 | .z k' x, .z k y => match jbZ k' k with
  | true => Ob (y = x)
  | false => False
 | _, _ => False
def mC (x' x : C) (m : Rn) (k : Rn → Prop) : Prop :=
 match x', x with
 | .d d', .d d => mD d' d ∧ k m
 | .p h' i' e' j', .p h i e j => if e' = e ∧ j' = j then Ob (i = i') ∧ jiR h' h m k else False
 | .o h', .o h => jiR h' h m k
 | .o h', .d (.v (.slice none 0 0)) => match jbj m h' with
  | some none => k m
  | some (some _) => False
  | none => k ((h', none) :: m)
 | .fn f' hs', .fn f hs => if f' = f then jmR hs' hs m k else False
 | .fb f' hs', .fb f hs => if f' = f then jmR hs' hs m k else False
 | .g n' i' e' j', .g n i e j => if n' = n ∧ e' = e ∧ j' = j then Ob (i = i') ∧ k m else False
 | _, _ => False
def mCs : List C → List C → Rn → (Rn → Prop) → Prop
 | [], [], m, k => k m
 | x' :: r', x :: r, m, k => mC x' x m fun m => mCs r' r m k
 | _, _, _, _ => False
def mW (x' x : W) (m : Rn) (k : Rn → Prop) : Prop :=
 match x', x with
 | .c y', .c y => mC y' y m k
 | .a l', .a l => mCs l' l m k
 | .b k' e' r', .b k0 e r => if k' = k0 ∧ e' = e then Ob (r = r') ∧ k m else False
 | _, _ => False
def mWs : List W → List W → Rn → (Rn → Prop) → Prop
 | [], [], m, k => k m
 | x' :: r', x :: r, m, k => mW x' x m fun m => mWs r' r m k
 | _, _, _, _ => False
def mV (x' x : V) (m : Rn) (k : Rn → Prop) : Prop :=
 match x', x with
 | .w y', .w y => mW y' y m k
 | .t l', .t l => mWs l' l m k
 | _, _ => False
def mT : List (Nat × V) → List (Nat × V) → Rn → (Rn → Prop) → Prop
 | [], _, m, k => k m
 | (t, v') :: r, tm, m, k => match ja4 tm t with
  | some v => mV v' v m fun m => mT r tm m k
  | none => False
def jdF : Cont → Cont → Prop
 | .ints k l, .ints k' l' => if k = k' then Ob (l' = l) else False
 | .recs e l, .recs e' l' => if e = e' then Ob (l' = l) else False
 | .floats k l, .floats k' l' => if k = k' then Ob (l' = l) else False
 | .strs l, .strs l' => Ob (l' = l)
 | .bools l, .bools l' => Ob (l' = l)
 | .lits e l, .lits e' l' => if e = e' then Ob (l' = l) else False
 | .frs k e l, .frs k' e' l' => if k = k' ∧ e = e' then Ob (l' = l) else False
 | _, _ => False
def mX : XC → XC → Prop
 | .st sh l, .st sh' l' => if sh = sh' then Ob (l' = l) else False
 | .ii k l, .ii k' l' => if k = k' then Ob (l' = l) else False
 | .ff k l, .ff k' l' => if k = k' then Ob (l' = l) else False
 | .bb k e l, .bb k' e' l' => if k = k' ∧ e = e' then Ob (l' = l) else False
 | .rr e l, .rr e' l' => if e = e' then Ob (l' = l) else False
 | _, _ => False
def mO (o' o : O) (m : Rn) (k : Rn → Prop) : Prop :=
 match o', o with
 | .box ty cs', .box ty' cs => if ty = ty' then mCs cs' cs m k else False
 | .row ty c', .row ty' c => if ty = ty' then jdF c' c ∧ k m else False
 | .ext c', .ext c => jdF c' c ∧ k m
 | .nan q', .nan q => match jbZ q' q with
  | true => k m
  | false => False
 | .ebox cs', .ebox cs => mCs cs' cs m k
 | .arr ty q e r, .arr ty' q' e' r' => if ty = ty' ∧ q = q' ∧ e = e' then Ob (r' = r) ∧ k m else False
 | .xext X', .xext X => mX X' X ∧ k m
 | .map es', .map es => Ob (es = es') ∧ k m
 | .rrow c', .rrow c => jdF c' c ∧ k m
 | .view _ c' false, o => match o.cont with
  | some c => jdF c' c ∧ k m
  | none => False
 | _, _ => False
def mH : Hp → Hp → Rn → (Rn → Prop) → Prop
 | [], _, m, k => k m
 | (h', o') :: r, hp, m, k =>
  match jbj m h' with
  | some (some h) => match find hp h with
   | some o => mO o' o m fun m => mH r hp m k
   | none => False
  | some none => match o' with
   | .row _ c => Ob (c.n = 0) ∧ mH r hp m k
   | _ => False
  | none => match find hp h' with
   | some o => jiR h' h' m fun m => mO o' o m fun m => mH r hp m k
   | none => False
def D.ltb (_ : Nat) : D → Bool
 | _ => true
def C.ltb (n : Nat) : C → Bool
 | .d _ => true
 | .p h _ _ _ => Nat.blt h n
 | .o h => Nat.blt h n
 | .fn _ hs => hs.all fun h => Nat.blt h n
 | .fb _ hs => hs.all fun h => Nat.blt h n
 | .g _ _ _ _ => true
def W.ltb (n : Nat) : W → Bool
 | .c x => x.ltb n
 | .a l => l.all (C.ltb n)
 | .b _ _ _ => true
def V.ltb (n : Nat) : V → Bool
 | .w x => x.ltb n
 | .t l => l.all (W.ltb n)
def O.ltb (n : Nat) : O → Bool
 | .box _ cs => cs.all (C.ltb n)
 | .view r _ _ => Nat.blt r n
 | .ebox cs => cs.all (C.ltb n)
 | _ => true
def St.wfb (st : St) : Bool := (st.tm.all fun x => x.2.ltb st.nx) && (st.hp.all fun x => Nat.blt x.1 st.nx && x.2.ltb st.nx)
def jqM (n0 : Nat) (m : Rn) : Bool := m.all fun x => !(Nat.blt x.1 n0) || x.2 == some x.1
def Le (n0 : Nat) (st st' : St) : Prop :=
 match st'.wfb && Nat.ble n0 st'.nx with
 | true => mT st'.tm st.tm [] fun m => mH st'.hp st.hp m fun m => match jqM n0 m with | true => True | false => False
 | false => False
structure LI where
 X : Type
 st : X → St
 inv : X → Prop
 mu : X → Nat
abbrev jfE := List Nat → Nat → St → Option LI
def jnt (body : St → (Ex → St → Prop) → Prop) : Nat → St → (Ex → St → Prop) → Prop
 | 0, _, _ => False
 | n + 1, st, k => body st fun e st' => match e with
  | .normal => jnt body n st' k
  | e => k e st'
def sx [Globs] (P : Program) (sp : jaa) (N n0 fuel : Nat) (loops : jfE) (drawn : Array Oper → St → (St → Prop) → Prop) : Code → Nat → List Nat → St → (Ex → St → Prop) → Prop
 | .skip, _, _, st, k => k .normal st
 | .label _, _, _, st, k => k .normal st
 | .region _ ops draw, _, _, st, k =>
  match draw with
  | false => jfY P sp N ops.toList ops.toList st fun st' => k .normal st'
  | true => drawn ops st fun st' => k .normal st'
 | .seq x y, cur, gs, st, k => sx P sp N n0 fuel loops drawn x cur gs st fun e st' => match e with
  | .normal => sx P sp N n0 fuel loops drawn y cur gs st' k
  | e => k e st'
 | .cond c x y, cur, gs, st, k =>
  match (jdh st c).bind V.bool? with
  | some b => Br b (sx P sp N n0 fuel loops drawn x cur gs st k) (sx P sp N n0 fuel loops drawn y cur gs st k)
  | none => False
 | .block id c, _, gs, st, k => sx P sp N n0 fuel loops drawn c id gs st fun e st' => match e with
  | .exit j => if j = id then k .normal st' else k (.exit j) st'
  | e => k e st'
 | .loop c, cur, gs, st, k =>
  match loops gs cur st with
  | some L => (∃ x, Ob (L.inv x) ∧ Le n0 st (L.st x)) ∧ ∀ x, L.inv x → sx P sp N n0 fuel loops drawn c cur (L.mu x :: gs) (L.st x) fun e st' => match e with
   | .normal => ∃ x', Ob (L.inv x') ∧ Ob (L.mu x' < L.mu x) ∧ Le n0 st' (L.st x')
   | e => k e st'
  | none => jnt (fun st k => sx P sp N n0 fuel loops drawn c cur gs st k) fuel st k
 | .exit id, _, _, st, k => k (.exit id) st
 | .ret, _, _, st, k => k .ret st
 | _, _, _, _, _ => False
end Go.Sx
end

section
open Go.RowKit
namespace Go.Sx
section
variable [Globs] {P : Program} {ρ : Env} {B : Bd} {N n0 : Nat} {st : St} {w : World} {a : Act} {sp : jaa} {ds : List Deferred}
theorem jnu {d : Option Nat} (h : jc7 N d = true) : ∀ t, d = some t → t < N := by
 intro t ht
 subst ht
 simpa [jc7, Nat.blt_eq] using h
theorem jcz {a : Act} {d : Option Nat} {v : Value} {t : Nat} (hd : ∀ x, d = some x → x < a.tmps.size) :
  (a.put d v).tmps.getD t undef = if d = some t then v else a.tmps.getD t undef := by
 cases d with
 | none => simp [Act.put]
 | some x =>
  have := hd x rfl
  simp only [Act.put, Option.some.injEq]
  by_cases h : x = t
  ·subst h; simp [this]
  ·simp [h, Array.getElem?_setIfInBounds_ne h]
theorem jcn {a : Act} {d : Option Nat} {v : Value} : (a.put d v).tmps.size = a.tmps.size := by
 cases d <;> simp [Act.put]
theorem jb3 {a : Act} {d : Option Nat} {v : Value} : (a.put d v).defers = a.defers := by
 cases d <;> simp [Act.put]
theorem RelD.put {o : Oper} {r : Res} {M : Bool} {ρ' : Env} {w' : World} (h : RelD ds ρ B N n0 st a w) (hd : jc7 N o.dst = true) (hl : Left ρ B st.nx w r M ρ' w') :
  RelD ds ρ' B N n0 (st.put o.dst r) (a.put o.dst (r.v.val ρ')) w' := by
 have hdl : ∀ x, o.dst = some x → x < a.tmps.size := fun x hx => by rw [h.size]; exact jnu hd x hx
 have hnx : (st.put o.dst r).nx = r.nx := by cases o.dst <;> rfl
 have hhp : (st.put o.dst r).hp = r.hp := by cases o.dst <;> rfl
 refine ⟨fun t v hv => ?_, by rw [jcn]; exact h.size, by rw [jb3]; exact h.defers, by rw [hhp, hnx]; exact hl.heap, hl.below.old h.le, by rw [hnx]; exact Nat.le_trans h.n0 hl.le⟩
 rw [jcz hdl, hnx]
 have hold : ∀ v, ja4 st.tm t = some v → v.lt r.nx ∧ a.tmps.getD t undef = v.val ρ' := fun v hv => by
  have := h.tm t v hv
  exact ⟨V.lt_mono hl.le this.1, by rw [this.2, V.val_agree hl.agree this.1]⟩
 cases hdst : o.dst with
 | none =>
  simp only [hdst, St.put] at hv
  simpa using hold v hv
 | some x =>
  simp only [hdst, St.put, ja4] at hv
  split at hv
  ·rename_i e
   subst e
   cases hv
   simp [hl.lt]
  ·rename_i e
   simp only [Option.some.injEq, e, if_false]
   exact hold v hv
theorem RelD.skip {o : Oper} (h : RelD ds ρ B N n0 st a w) (hd : jc7 N o.dst = true) : RelD ds ρ B N n0 (st.put o.dst ⟨True, vu, st.hp, st.nx⟩) (a.put o.dst undef) w :=
 h.put (M := true) (o := o) (r := ⟨True, vu, st.hp, st.nx⟩) hd ⟨jai.refl _ _, trivial, Nat.le_refl _, h.heap, Bel.refl _ _, (fun _ => Below.refl _ _), fun _ k o b hn hf _ => absurd (h.heap.ok k o hf).1 (by omega)⟩
theorem RelD.know {t : Nat} {b : Bool} (h : RelD ds ρ B N n0 st a w) (hb : ja4 st.tm t = some (vb b)) : RelD ds ρ B N n0 ⟨(t, vb b) :: st.tm, st.hp, st.nx⟩ a w := by
 refine ⟨fun t' v hv => ?_, h.size, h.defers, h.heap, h.le, h.n0⟩
 simp only [ja4] at hv
 split at hv
 ·rename_i e
  subst e
  cases hv
  exact h.tm t _ hb
 ·exact h.tm t' v hv
def Qx (ds : List Deferred) (ρ0 : Env) (B : Bd) (N n0 : Nat) (w0 : World) (k : Ex → St → Prop) : Exit → Act → World → Prop := fun e a w =>
 ∃ x ρ st, e = x.toExit ∧ k x st ∧ RelD ds ρ B N n0 st a w ∧ jai n0 ρ0 ρ ∧ Bel B w0 w
variable {ρ0 : Env} {w0 : World}
theorem joA {op : BinOp} {k k' : IntKind} {m n : Int} {ob : Prop} {v : V} (ht : (match op with | .quo | .rem | .shl | .shr => false | _ => true) = true) (h : jhO op k m k' n = some (ob, v)) : ob := by
 unfold jhO at h
 cases op <;> simp at ht h <;> obtain ⟨_, h, _⟩ := h <;> first | exact h | exact h ▸ trivial
theorem jbr {α : Type} {x : Option α} {f : α → Prop × V} {ob : Prop} {v : V} (h : x.map f = some (ob, v)) (hf : ∀ a, (f a).1 = True) : ob := by
 cases x with
 | none => cases h
 | some a =>
  simp only [Option.map_some, Option.some.injEq] at h
  have := hf a
  rw [h] at this
  exact cast this.symm trivial
theorem jrS {op : Op} {rd : Operand → Option V} {hp : Hp} {ob : Prop} {v : V} (ht : jcf op rd hp = true) (h : jgE P op rd hp = some (ob, v)) : ob := by
 unfold jgE at h
 unfold jcf at ht
 cases op with
 | binOp op t x y yt =>
  dsimp only at h ht
  split at h
  ·rename_i u u' hx hy
   split at h
   ·rename_i a b hu hu'
    split at h
    ·simp [hx, hu] at ht
    ·cases h
   ·split at h
    ·unfold jm2 at h
     cases op <;> simp at h <;> exact h.1
    ·split at h
     ·unfold jkt at h
      cases op <;> simp at h <;> exact h.1
     ·cases h
  ·cases h
 | load t x =>
  dsimp only at h ht
  split at h
  ·rename_i hx
   simp [hx] at ht
  ·cases h
 | call c =>
  dsimp only at h ht
  split at h
  ·split at h
   ·split at h
    ·cases h; trivial
    ·cases h
   ·cases h
  ·rename_i hc _
   split at h
   ·split at h
    ·cases h; trivial
    ·cases h
   ·cases h
  ·split at h
   ·cases h; trivial
   ·cases h
  ·split at h
   ·cases h; trivial
   ·cases h
  ·cases h
 | nilCheck x =>
  dsimp only at h
  split at h
  ·cases h; trivial
  ·cases h
 | fieldAddr s x f =>
  dsimp only at h
  split at h
  ·split at h
   ·split at h
    ·cases h; trivial
    ·cases h
   ·cases h
  ·cases h
 | slice t x lo hi mx => simp at ht
 | convert s d x => simp at ht
 | index t x i => simp at ht
 | indexAddr t x i => simp at ht
 | sliceToArrayPointer t x => simp at ht
 | _ => simp at h
theorem jrT {op : Op} {rd : Operand → Option V} {hp : Hp} {nx : Nat} {r : Res} (ht : jcf op rd hp = true) (h : jfC P op rd hp nx = some r) : r.ob := by
 unfold jfC at h
 unfold jcf at ht
 cases op with
 | box elem x =>
  dsimp only at h
  split at h
  ·cases h; trivial
  ·cases h
 | alloc elem =>
  dsimp only at h
  split at h
  ·cases h; trivial
  ·cases h
 | buildSlice t n ps =>
  dsimp only at h
  split at h
  ·split at h
   ·split at h
    ·cases h; trivial
    ·cases h
   ·cases h
  ·cases h
 | slice t x lo hi mx => simp at ht
 | convert s d x => simp at ht
 | load t x =>
  dsimp only at h ht
  split at h
  ·rename_i hx
   split at h
   ·rename_i hf
    simp only [hx] at ht
    split at ht
    ·rename_i heq
     cases heq
     simp [hf] at ht
    ·cases ht
   ·cases h
  ·cases h
 | store t x y =>
  dsimp only at h ht
  split at h
  ·rename_i hx hy
   split at h
   ·rename_i hf
    simp only [hx] at ht
    split at ht
    ·rename_i heq
     cases heq
     simp [hf] at ht
    ·cases ht
   ·rename_i hf
    simp only [hx] at ht
    split at ht
    ·rename_i heq
     cases heq
     simp [hf] at ht
    ·cases ht
   ·cases h
  ·rename_i hx hy
   split at h
   ·rename_i hf
    simp only [hx] at ht
    split at ht
    ·rename_i heq
     cases heq
     simp [hf] at ht
    ·cases ht
   ·rename_i hf
    simp only [hx] at ht
    split at ht
    ·rename_i heq
     cases heq
     simp [hf] at ht
    ·cases ht
   ·cases h
  ·rename_i hx hy
   split at h
   ·rename_i hf
    simp only [hx] at ht
    split at ht
    ·rename_i heq
     cases heq
     simp [hf] at ht
    ·cases ht
   ·cases h
  ·cases h
 | makeMap t r =>
  cases r with
  | none =>
   dsimp only at h
   split at h
   ·cases h; trivial
   ·cases h
  | some r => simp at h
 | lookup t x i ok =>
  cases ok with
  | true =>
   dsimp only at h
   split at h
   ·split at h
    ·cases h; trivial
    ·cases h
   ·cases h
  | false => simp at h
 | mapUpdate t m i y =>
  dsimp only at h
  split at h
  ·split at h
   ·cases h; trivial
   ·cases h
  ·cases h
 | _ => simp at h
theorem jiS {op : Op} {rd : Operand → Option V} {hp : Hp} {nx : Nat} {r : Res} (ht : jcf op rd hp = true) (h : jbW P sp op rd hp nx = some r) : r.ob := by
 unfold jbW at h
 cases hv : jbL P op rd hp with
 | some p =>
  obtain ⟨ob, v⟩ := p
  simp only [hv, Option.some.injEq] at h
  subst h
  show ob
  unfold jbL at hv
  split at hv
  rotate_left
  ·exact jrS ht hv
  rename_i p hv0
  cases hv
  have hv := hv0
  clear hv0
  unfold jge at hv
  unfold jcf at ht
  cases op with
  | binOp op t x y yt =>
   dsimp only at hv ht
   split at hv
   ·split at hv
    ·refine joA ?_ hv
     cases op <;> first | rfl | exact ht
    ·split at hv
     ·split at hv
      ·unfold jiN at hv
       cases op <;> simp at hv <;> exact hv.1
      ·cases hv
     ·split at hv
      ·unfold jkq at hv
       cases op <;> simp at hv <;> exact hv.1
      ·split at hv
       ·rename_i hu _
        unfold jkp at hv
        split at hv
        ·cases op <;> simp at hv <;> first | exact hv.1 | (simp_all)
        ·cases hv
       ·split at hv
        ·split at hv
         ·exact jbr hv (fun _ => rfl)
         ·exact jbr hv (fun _ => rfl)
         ·cases hv
        ·cases hv
   ·cases hv
  | load t x =>
   dsimp only at hv ht
   split at hv
   ·rename_i k i e j hx
    cases e with
    | zero => simp [hx] at ht
    | succ e =>
    simp only [hx] at ht
    split at hv
    ·rename_i o hf
     simp only [hf] at ht
     cases o with
     | box ty cs =>
      unfold jfy at hv
      split at hv
      ·dsimp only [jiO] at hv
       split at hv
       ·split at hv
        ·cases hv; trivial
        ·cases hv
       ·cases hc : cs[i * (e + 1) + j]? with
        | none => simp [hc] at hv
        | some c => simp [hc] at hv; exact hv.1
      ·cases hv
     | _ => simp at ht
    ·cases hv
   ·cases hv
  | call c =>
   dsimp only at hv ht
   split at hv
   ·split at hv
    ·exact jbr hv (fun _ => rfl)
    ·split at hv
     ·cases hv; trivial
     ·cases hv
    ·exact jbr hv (fun _ => rfl)
    ·cases hv; trivial
    ·cases hv
   ·split at hv
    ·exact jbr hv (fun _ => rfl)
    ·cases hv
   ·split at hv
    ·exact jbr hv (fun _ => rfl)
    ·cases hv
   ·cases hv
  | pick c x y =>
   dsimp only at hv
   split at hv
   ·exact jbr hv (fun _ => rfl)
   ·exact jbr hv (fun _ => rfl)
   ·cases hv
  | unOp op t x =>
   dsimp only at hv
   split at hv
   ·exact jbr hv (fun _ => rfl)
   ·exact jbr hv (fun _ => rfl)
   ·cases hv
  | move x => exact jbr hv (fun _ => rfl)
  | assign x => exact jbr hv (fun _ => rfl)
  | extract t i =>
   dsimp only at hv
   split at hv
   ·exact jbr hv (fun _ => rfl)
   ·cases hv
  | field t x f =>
   dsimp only at hv
   split at hv
   ·split at hv
    ·exact jbr hv (fun _ => rfl)
    ·cases hv
   ·cases hv
  | nilCheck x =>
   dsimp only at hv
   split at hv
   ·cases hv; trivial
   ·cases hv
  | fieldAddr s x f =>
   dsimp only at hv
   split at hv
   ·split at hv
    ·split at hv
     ·cases hv; trivial
     ·cases hv
    ·cases hv
   ·cases hv
  | build t parts =>
   dsimp only at hv
   split at hv
   ·exact jbr hv (fun _ => rfl)
   ·cases hv
  | makeFunc f first cap =>
   cases f with
   | func f =>
    dsimp only at hv
    split at hv
    ·cases hv; trivial
    ·split at hv
     ·cases hv; trivial
     ·cases hv
    ·cases hv
   | _ => simp at hv
  | _ => simp at hv ht
 | none =>
  simp only [hv] at h
  split at h
  ·rename_i r0 hR
   unfold jc6 at hR
   split at hR
   ·simp [jcf] at ht
   ·simp [jcf] at ht
   ·cases hR
  split at h
  ·rename_i r0 hX
   cases h
   exact jrT ht hX
  unfold jkA at h
  unfold jcf at ht
  cases op with
  | box elem x =>
   dsimp only at h
   split at h
   ·split at h
    ·cases h; trivial
    ·cases h
   ·cases h
  | alloc elem =>
   dsimp only at h
   split at h
   ·cases h; trivial
   ·cases h
  | buildSlice t n ps =>
   dsimp only at h
   split at h
   ·split at h
    ·cases h; trivial
    ·cases h
   ·cases h
  | store t x y =>
   dsimp only at h ht
   split at h
   ·rename_i k i e j u hx hy
    cases e with
    | zero => simp [hx] at ht
    | succ e =>
    simp only [hx] at ht
    split at h
    ·split at h
     ·simp only [jmO] at h
      split at h
      ·cases h; trivial
      ·cases h
     ·rename_i hf
      simp [hf] at ht
     ·cases h
    ·cases h
   ·cases h
  | call c =>
   dsimp only at h ht
   split at h
   ·rename_i hc _ _
    simp [hc] at ht
   ·rename_i hc
    simp [hc] at ht
   ·cases h
  | _ => simp at h ht
theorem jgM {o : Oper} {k : St → Prop} {K : Act → World → Prop} {Q : Exit → Act → World → Prop} (hsp : jab P sp) (hr : RelD ds ρ B N n0 st a w) (hag : jai n0 ρ0 ρ) (hbl : Bel B w0 w) (h : jns P sp N o st k)
  (hK : ∀ ρ' st' a' w', RelD ds ρ' B N n0 st' a' w' → jai n0 ρ0 ρ' → Bel B w0 w' → k st' → K a' w') : o.wp P a w K Q := by
 unfold jns at h
 split at h
 ·rename_i t ht2
  split at h
  ·rename_i hd
   have h := RT.run_sel h
   obtain ⟨M, hS⟩ := joz hsp hr.heap hr.le hr.reads ht2 h.1.h
   refine hS K Q fun ρ' w' hl => ?_
   exact hK ρ' _ _ w' (hr.put hd hl) (hag.trans hl.agree hr.n0) (hbl.trans hl.below) h.2
  ·exact h.elim
 split at h
 ·rename_i r hr2
  split at h
  ·rename_i hd
   split at h
   ·rename_i ht
    refine jeS hsp hr.heap hr.le hr.reads hr2 (jiS ht hr2) K Q fun ρ' w' hl => ?_
    exact hK ρ' _ _ w' (hr.put hd hl) (hag.trans hl.agree hr.n0) (hbl.trans hl.below) h
   ·refine jeS hsp hr.heap hr.le hr.reads hr2 h.1.h K Q fun ρ' w' hl => ?_
    exact hK ρ' _ _ w' (hr.put hd hl) (hag.trans hl.agree hr.n0) (hbl.trans hl.below) h.2
  ·exact h.elim
 ·exact h.elim
theorem jff {o : Oper} {k : St → Prop} {K : Act → World → Prop} (hr : RelD ds ρ B N n0 st a w) (hag : jai n0 ρ0 ρ) (hbl : Bel B w0 w) (h : jh2 N o st k)
  (hK : ∀ ρ' st' a' w', RelD ds ρ' B N n0 st' a' w' → jai n0 ρ0 ρ' → Bel B w0 w' → k st' → K a' w') : K (a.put o.dst undef) w := by
 unfold jh2 at h
 split at h
 ·rename_i hd
  exact hK ρ _ _ w (hr.skip hd) hag hbl h
 ·exact h.elim
theorem jhx {all : List Oper} {j t : Nat} {v : V} (hr : RelD ds ρ B N n0 st a w) (h : jlF all j st = some (t, v)) (ht : t < N ∨ v = v) :
  yielded all.toArray a.tmps j = (match v.val ρ with | .bool b => some b | _ => none) ∧ ja4 st.tm t = some v := by
 unfold jlF at h
 cases hd : (all[j]?).bind (·.dst) with
 | none => simp [hd] at h
 | some t' =>
  cases hg : ja4 st.tm t' with
  | none => simp [hd, hg] at h
  | some v' =>
   simp [hd, hg] at h
   obtain ⟨rfl, rfl⟩ := h
   refine ⟨?_, hg⟩
   have h1 := (hr.tm t' v' hg).2
   unfold yielded
   have hd2 : ((all.toArray[j]?).bind (·.dst)) = some t' := by simpa using hd
   rw [hd2]
   simp only [Option.bind_some]
   rw [← h1]
   by_cases hlt : t' < a.tmps.size
   ·simp only [Array.getD_eq_getD_getElem?, Array.getElem?_eq_getElem hlt, Option.getD_some]
    cases a.tmps[t'] <;> rfl
   ·simp [hlt, undef]
theorem jeT {all : List Oper} {Q : Exit → Act → World → Prop} {k : St → Prop} (hsp : jab P sp)
  (hQ : ∀ ρ' st' a' w', RelD ds ρ' B N n0 st' a' w' → jai n0 ρ0 ρ' → Bel B w0 w' → k st' → Q .normal a' w') :
  ∀ (l : List Oper) (ρ : Env) (st : St) (a : Act) (w : World), RelD ds ρ B N n0 st a w → jai n0 ρ0 ρ → Bel B w0 w → jfY P sp N all l st k → wpList P all.toArray Q l a w
 | [], ρ, st, a, w, hr, hag, hbl, h => hQ ρ st a w hr hag hbl h
 | o :: r, ρ, st, a, w, hr, hag, hbl, h => by
  have ih := fun ρ' st' a' w' (h1 : RelD ds ρ' B N n0 st' a' w') h2 h3 h4 => jeT (all := all) hsp hQ r ρ' st' a' w' h1 h2 h3 h4
  unfold jfY at h
  unfold wpList
  cases hg : o.guard with
  | none =>
   simp only [hg] at h
   have hw : Region.wanted o (yielded all.toArray a.tmps) = true := by simp [Region.wanted, hg]
   rw [if_pos hw]
   exact .inl (jgM hsp hr hag hbl h ih)
  | some p =>
   obtain ⟨j, want⟩ := p
   simp only [hg] at h
   have hwanted : ∀ ob, yielded all.toArray a.tmps j = ob → Region.wanted o (yielded all.toArray a.tmps) = (ob == some want) := fun ob hob => by simp [Region.wanted, hg, hob]
   split at h
   ·rename_i t b hgo
    obtain ⟨hy, hget⟩ := jhx hr hgo (.inr rfl)
    have hw := hwanted _ hy
    have hval : (V.w (.c (.d (.b b)))).val ρ = .bool b := rfl
    rw [hval] at hw
    have hkn := hr.know hget
    cases b <;> cases want <;> simp only [Br] at h
    ·rw [if_pos (by rw [hw]; rfl)]
     exact .inl (jgM hsp hkn hag hbl h ih)
    ·rw [if_neg (by rw [hw]; simp)]
     exact jff hkn hag hbl h ih
    ·rw [if_neg (by rw [hw]; simp)]
     exact jff hkn hag hbl h ih
    ·rw [if_pos (by rw [hw]; rfl)]
     exact .inl (jgM hsp hkn hag hbl h ih)
   ·rename_i t vs hgo
    obtain ⟨hy, hget⟩ := jhx hr hgo (.inr rfl)
    have hw := hwanted _ hy
    have hval : (V.w (.c (.d (.v (.tuple vs))))).val ρ = .tuple vs := rfl
    rw [hval] at hw
    rw [if_neg (by rw [hw]; simp)]
    exact jff hr hag hbl h ih
   ·exact h.elim
def jb4 (ρ : Env) (m : Rn) : Env := fun h => match jbj m h with
 | some (some s) => ρ s
 | some none => .slice none 0 0
 | none => ρ h
def Ext (m m' : Rn) : Prop := ∀ h x, jbj m h = some x → jbj m' h = some x
theorem Ext.refl (m : Rn) : Ext m m := fun _ _ h => h
theorem Ext.trans {a b c : Rn} (h : Ext a b) (k : Ext b c) : Ext a c := fun x y hx => k x y (h x y hx)
def Inj (m : Rn) : Prop := ∀ h h' s, jbj m h = some (some s) → jbj m h' = some (some s) → h = h'
theorem jpF {m : Rn} {s : Nat} (h : jmQ m s = false) : ∀ x, jbj m x ≠ some (some s) := by
 induction m with
 | nil => intro x hx; simp [jbj] at hx
 | cons p r ih =>
  obtain ⟨k, v⟩ := p
  simp only [jmQ, List.any_cons, Bool.or_eq_false_iff] at h
  intro x hx
  simp only [jbj] at hx
  split at hx
  ·simp only [Option.some.injEq] at hx
   subst hx
   simp at h
  ·exact ih (by simpa [jmQ] using h.2) x hx
theorem jnv {m : Rn} {h : Nat} {x : Option Nat} (hn : jbj m h = none) : Ext m ((h, x) :: m) := by
 intro k y hk
 simp only [jbj]
 split
 ·rename_i e
  subst e
  rw [hn] at hk
  cases hk
 ·exact hk
theorem jeU {h' h : Nat} {m : Rn} {k : Rn → Prop} (hb : jiR h' h m k) (hi : Inj m) : ∃ m', k m' ∧ Ext m m' ∧ Inj m' ∧ jbj m' h' = some (some h) := by
 unfold jiR at hb
 split at hb
 ·rename_i s hs
  split at hb
  ·rename_i e
   subst e
   exact ⟨m, hb, Ext.refl m, hi, hs⟩
  ·exact hb.elim
 ·exact hb.elim
 ·rename_i hn
  split at hb
  ·exact hb.elim
  ·rename_i hu
   have hu' := jpF hu
   refine ⟨_, hb, jnv hn, ?_, by simp [jbj]⟩
   intro x y s hx hy
   simp only [jbj] at hx hy
   split at hx
   ·rename_i e
    subst e
    simp only [Option.some.injEq] at hx
    subst hx
    split at hy
    ·rename_i e; exact e
    ·exact absurd hy (hu' y)
   ·split at hy
    ·rename_i e
     subst e
     simp only [Option.some.injEq] at hy
     subst hy
     exact absurd hx (hu' x)
    ·exact hi x y s hx hy
theorem jrU {m : Rn} {h : Nat} (hi : Inj m) : Inj ((h, none) :: m) := by
 intro x y s hx hy
 simp only [jbj] at hx hy
 split at hx
 ·cases hx
 ·split at hy
  ·cases hy
  ·exact hi x y s hx hy
theorem jiT {d' d : D} (h : mD d' d) : d' = d := by
 unfold mD at h
 split at h
 all_goals first
  | exact h.elim
  | (rw [h.h]; done)
  | (
    split at h
    ·rename_i e; obtain ⟨rfl, rfl⟩ := e; rw [h.h]
    ·exact h.elim)
  | (
    split at h
    ·rename_i e; subst e; rw [h.h]
    ·exact h.elim)
  | (
    split at h
    ·rename_i e; rw [jbq e, h.h]
    ·exact h.elim)
theorem jtJ {c' c : XC} (h : mX c' c) : c' = c := by
 unfold mX at h
 split at h
 all_goals first
  | exact h.elim
  | (
    split at h
    ·rename_i e; obtain ⟨rfl, rfl⟩ := e; rw [h.h]
    ·exact h.elim)
  | (
    split at h
    ·rename_i e; subst e; rw [h.h]
    ·exact h.elim)
def Same (ρ : Env) (m : Rn) (f : Env → Value) (v : Value) : Prop := ∀ m', Ext m m' → f (jb4 ρ m') = v
theorem jaW {ρ : Env} {m : Rn} {h s : Nat} (h1 : jbj m h = some (some s)) : jb4 ρ m h = ρ s := by simp [jb4, h1]
theorem jfF {ρ : Env} {m : Rn} {h : Nat} (h1 : jbj m h = some none) : jb4 ρ m h = .slice none 0 0 := by simp [jb4, h1]
theorem jgN : ∀ {l' l : List Nat} {m : Rn} {k : Rn → Prop}, jmR l' l m k → Inj m → ∃ m', k m' ∧ Ext m m' ∧ Inj m' ∧ ∀ m2, Ext m' m2 → l'.map (jb4 ρ m2) = l.map ρ
 | [], [], m, k, h, hi => ⟨m, h, Ext.refl m, hi, fun _ _ => rfl⟩
 | x' :: r', x :: r, m, k, h, hi => by
  obtain ⟨m1, h1, hE1, hI1, hl1⟩ := jeU h hi
  obtain ⟨m2, h2, hE2, hI2, hS2⟩ := jgN h1 hI1
  refine ⟨m2, h2, hE1.trans hE2, hI2, fun m3 h3 => ?_⟩
  simp only [List.map_cons, hS2 m3 h3, jaW (h3 _ _ (hE2 _ _ hl1))]
 | [], _ :: _, _, _, h, _ => h.elim
 | _ :: _, [], _, _, h, _ => h.elim
theorem jo7 {x' x : C} {m : Rn} {k : Rn → Prop} (h : mC x' x m k) (hi : Inj m) : ∃ m', k m' ∧ Ext m m' ∧ Inj m' ∧ Same ρ m' (fun ρ' => x'.val ρ') (x.val ρ) := by
 unfold mC at h
 split at h
 ·rename_i d' d
  exact ⟨m, h.2, Ext.refl m, hi, fun m' _ => by rw [jiT h.1]; rfl⟩
 ·rename_i h' i' e' j' hh i e j
  split at h
  ·rename_i he
   obtain ⟨rfl, rfl⟩ := he
   obtain ⟨⟨rfl⟩, hb⟩ := h
   obtain ⟨m', hk, hE, hI, hl⟩ := jeU hb hi
   exact ⟨m', hk, hE, hI, fun m2 h2 => by simp only [C.val, jaW (h2 _ _ hl)]⟩
  ·exact h.elim
 ·rename_i h' hh
  obtain ⟨m', hk, hE, hI, hl⟩ := jeU h hi
  exact ⟨m', hk, hE, hI, fun m2 h2 => by simp only [C.val, jaW (h2 _ _ hl)]⟩
 ·rename_i h'
  split at h
  ·rename_i hl
   exact ⟨m, h, Ext.refl m, hi, fun m2 h2 => by simp only [C.val, jfF (h2 _ _ hl), D.val]⟩
  ·exact h.elim
  ·rename_i hn
   refine ⟨_, h, jnv hn, jrU hi, fun m2 h2 => ?_⟩
   simp only [C.val, jfF (h2 h' none (by simp [jbj])), D.val]
 ·split at h
  ·rename_i e
   subst e
   obtain ⟨m', hk, hE, hI, hl⟩ := jgN (ρ := ρ) h hi
   exact ⟨m', hk, hE, hI, fun m2 h2 => by simp only [C.val, hl m2 h2]⟩
  ·exact h.elim
 ·split at h
  ·rename_i e
   subst e
   obtain ⟨m', hk, hE, hI, hl⟩ := jgN (ρ := ρ) h hi
   exact ⟨m', hk, hE, hI, fun m2 h2 => by simp only [C.val, hl m2 h2]⟩
  ·exact h.elim
 ·split at h
  ·rename_i e
   obtain ⟨rfl, rfl, rfl⟩ := e
   obtain ⟨⟨rfl⟩, hk⟩ := h
   exact ⟨m, hk, Ext.refl m, hi, fun _ _ => rfl⟩
  ·exact h.elim
 ·exact h.elim
theorem jgO : ∀ {l' l : List C} {m : Rn} {k : Rn → Prop}, mCs l' l m k → Inj m → ∃ m', k m' ∧ Ext m m' ∧ Inj m' ∧ ∀ m2, Ext m' m2 → l'.map (C.val (jb4 ρ m2)) = l.map (C.val ρ)
 | [], [], m, k, h, hi => ⟨m, h, Ext.refl m, hi, fun _ _ => rfl⟩
 | x' :: r', x :: r, m, k, h, hi => by
  obtain ⟨m1, h1, hE1, hI1, hS1⟩ := jo7 (ρ := ρ) h hi
  obtain ⟨m2, h2, hE2, hI2, hS2⟩ := jgO h1 hI1
  refine ⟨m2, h2, hE1.trans hE2, hI2, fun m3 h3 => ?_⟩
  simp only [List.map_cons, hS2 m3 h3, hS1 m3 (hE2.trans h3)]
 | [], _ :: _, _, _, h, _ => h.elim
 | _ :: _, [], _, _, h, _ => h.elim
theorem jo8 {x' x : W} {m : Rn} {k : Rn → Prop} (h : mW x' x m k) (hi : Inj m) : ∃ m', k m' ∧ Ext m m' ∧ Inj m' ∧ Same ρ m' (fun ρ' => x'.val ρ') (x.val ρ) := by
 unfold mW at h
 split at h
 ·exact jo7 h hi
 ·obtain ⟨m', h1, h2, h3, h4⟩ := jgO (ρ := ρ) h hi
  exact ⟨m', h1, h2, h3, fun m2 h5 => by simp only [W.val, h4 m2 h5]⟩
 ·split at h
  ·rename_i e
   obtain ⟨rfl, rfl⟩ := e
   obtain ⟨⟨rfl⟩, hk⟩ := h
   exact ⟨m, hk, Ext.refl m, hi, fun _ _ => rfl⟩
  ·exact h.elim
 ·exact h.elim
theorem jnw : ∀ {l' l : List W} {m : Rn} {k : Rn → Prop}, mWs l' l m k → Inj m → ∃ m', k m' ∧ Ext m m' ∧ Inj m' ∧ ∀ m2, Ext m' m2 → l'.map (W.val (jb4 ρ m2)) = l.map (W.val ρ)
 | [], [], m, k, h, hi => ⟨m, h, Ext.refl m, hi, fun _ _ => rfl⟩
 | x' :: r', x :: r, m, k, h, hi => by
  obtain ⟨m1, h1, hE1, hI1, hS1⟩ := jo8 (ρ := ρ) h hi
  obtain ⟨m2, h2, hE2, hI2, hS2⟩ := jnw h1 hI1
  refine ⟨m2, h2, hE1.trans hE2, hI2, fun m3 h3 => ?_⟩
  simp only [List.map_cons, hS2 m3 h3, hS1 m3 (hE2.trans h3)]
 | [], _ :: _, _, _, h, _ => h.elim
 | _ :: _, [], _, _, h, _ => h.elim
theorem jtK {x' x : V} {m : Rn} {k : Rn → Prop} (h : mV x' x m k) (hi : Inj m) : ∃ m', k m' ∧ Ext m m' ∧ Inj m' ∧ Same ρ m' (fun ρ' => x'.val ρ') (x.val ρ) := by
 unfold mV at h
 split at h
 ·exact jo8 h hi
 ·obtain ⟨m', h1, h2, h3, h4⟩ := jnw (ρ := ρ) h hi
  exact ⟨m', h1, h2, h3, fun m2 h5 => by simp only [V.val, h4 m2 h5]⟩
 ·exact h.elim
theorem jo9 (tm : List (Nat × V)) : ∀ {l : List (Nat × V)} {m : Rn} {k : Rn → Prop}, mT l tm m k → Inj m → ∃ m', k m' ∧ Ext m m' ∧ Inj m' ∧
  ∀ t v', ja4 l t = some v' → ∃ v, ja4 tm t = some v ∧ Same ρ m' (fun ρ' => v'.val ρ') (v.val ρ)
 | [], m, k, h, hi => ⟨m, h, Ext.refl m, hi, fun _ _ hv => by cases hv⟩
 | (t0, v0) :: r, m, k, h, hi => by
  unfold mT at h
  split at h
  ·rename_i v hv
   obtain ⟨m1, h1, hE1, hI1, hS1⟩ := jtK (ρ := ρ) h hi
   obtain ⟨m2, h2, hE2, hI2, hS2⟩ := jo9 tm h1 hI1
   refine ⟨m2, h2, hE1.trans hE2, hI2, fun t v' hv' => ?_⟩
   simp only [ja4] at hv'
   split at hv'
   ·rename_i e
    subst e
    cases hv'
    exact ⟨v, hv, fun m3 h3 => hS1 m3 (hE2.trans h3)⟩
   ·exact hS2 t v' hv'
  ·exact h.elim
theorem jco {c' c : Cont} (h : jdF c' c) : c' = c := by
 unfold jdF at h
 split at h
 all_goals first
  | exact h.elim
  | (rw [h.h]; done)
  | (
    split at h
    ·rename_i e; obtain ⟨rfl, rfl⟩ := e; rw [h.h]
    ·exact h.elim)
  | (
    split at h
    ·rename_i e; subst e; rw [h.h]
    ·exact h.elim)
def jjR (ρ : Env) (B : Bd) (w : World) (hp : Hp) (m : Rn) (h' : Nat) (o' : O) : Prop :=
 (∀ m2, Ext m m2 → o'.ok (jb4 ρ m2) B w h') ∧
 ((∃ s o, jbj m h' = some (some s) ∧ find hp s = some o ∧ ∀ m2, Ext m m2 → ∀ k, o'.blk (jb4 ρ m2 h') = some k → o.blk (ρ s) = some k) ∨ (∀ m2, Ext m m2 → o'.blk (jb4 ρ m2 h') = none))
theorem jjR.mono {hp : Hp} {m m' : Rn} {h' : Nat} {o' : O} (h : jjR ρ B w hp m h' o') (hE : Ext m m') : jjR ρ B w hp m' h' o' := by
 refine ⟨fun m2 h2 => h.1 m2 (hE.trans h2), ?_⟩
 rcases h.2 with ⟨s, o, h1, h2, h3⟩ | h1
 ·exact .inl ⟨s, o, hE _ _ h1, h2, fun m2 h4 => h3 m2 (hE.trans h4)⟩
 ·exact .inr fun m2 h2 => h1 m2 (hE.trans h2)
theorem jpa {hp : Hp} {nx h' s : Nat} {o' o : O} {m : Rn} {k : Rn → Prop} (h : mO o' o m k) (hi : Inj m) (hh : HRel ρ B hp nx w) (hf : find hp s = some o) (hl : jbj m h' = some (some s)) :
  ∃ m', k m' ∧ Ext m m' ∧ Inj m' ∧ jjR ρ B w hp m' h' o' := by
 have hok := (hh.ok s o hf).2.2
 unfold mO at h
 split at h
 ·rename_i ty cs' ty' cs
  split at h
  ·rename_i e
   subst e
   obtain ⟨m1, h1, hE, hI, hS⟩ := jgO (ρ := ρ) h hi
   refine ⟨m1, h1, hE, hI, fun m2 h2 => ?_, .inl ⟨s, _, hE _ _ hl, hf, fun m2 h2 k hk => ?_⟩⟩
   ·obtain ⟨g, h3, h4, h5⟩ := hok
    exact ⟨g, by rw [jaW (h2 _ _ (hE _ _ hl))]; exact h3, h4, by rw [hS m2 h2]; exact h5⟩
   ·rw [jaW (h2 _ _ (hE _ _ hl))] at hk
    exact hk
  ·exact h.elim
 ·rename_i ty c' ty' c
  split at h
  ·rename_i e
   subst e
   have hc := jco h.1
   subst hc
   refine ⟨m, h.2, Ext.refl m, hi, fun m2 h2 => ?_, .inl ⟨s, _, hl, hf, fun m2 h2 k hk => ?_⟩⟩
   ·unfold O.ok
    rw [jaW (h2 _ _ hl)]
    exact hok
   ·rw [jaW (h2 _ _ hl)] at hk
    exact hk
  ·exact h.elim
 ·rename_i c' c
  have hc := jco h.1
  subst hc
  refine ⟨m, h.2, Ext.refl m, hi, fun m2 h2 => ?_, .inr fun _ _ => rfl⟩
  unfold O.ok
  rw [jaW (h2 _ _ hl)]
  exact hok
 ·split at h
  ·rename_i hk
   have hk := jbq hk
   subst hk
   refine ⟨m, h, Ext.refl m, hi, fun m2 h2 => ?_, .inr fun _ _ => rfl⟩
   unfold O.ok
   rw [jaW (h2 _ _ hl)]
   exact hok
  ·exact h.elim
 ·rename_i cs' cs
  obtain ⟨m1, h1, hE, hI, hS⟩ := jgO (ρ := ρ) h hi
  refine ⟨m1, h1, hE, hI, fun m2 h2 => ?_, .inr fun _ _ => rfl⟩
  obtain ⟨g, o, h3, h4, h5⟩ := hok
  refine ⟨g, o, by rw [jaW (h2 _ _ (hE _ _ hl))]; exact h3, h4, fun j c hj => ?_⟩
  have hj2 : (List.map (C.val (jb4 ρ m2)) cs')[j]? = some (c.val (jb4 ρ m2)) := by rw [List.getElem?_map, hj]; rfl
  rw [hS m2 h2, List.getElem?_map] at hj2
  obtain ⟨c0, hc0, he0⟩ := Option.map_eq_some_iff.1 hj2
  rw [← he0]
  exact h5 j c0 hc0
 ·split at h
  ·rename_i e
   obtain ⟨rfl, rfl, rfl⟩ := e
   obtain ⟨⟨rfl⟩, hk⟩ := h
   refine ⟨m, hk, Ext.refl m, hi, fun m2 h2 => ?_, .inl ⟨s, _, hl, hf, fun m2 h2 k hk => ?_⟩⟩
   ·unfold O.ok
    rw [jaW (h2 _ _ hl)]
    exact hok
   ·rw [jaW (h2 _ _ hl)] at hk
    exact hk
  ·exact h.elim
 ·have hc := jtJ h.1
  subst hc
  refine ⟨m, h.2, Ext.refl m, hi, fun m2 h2 => ?_, .inr fun _ _ => rfl⟩
  unfold O.ok
  rw [jaW (h2 _ _ hl)]
  exact hok
 ·obtain ⟨⟨rfl⟩, hk⟩ := h
  refine ⟨m, hk, Ext.refl m, hi, fun m2 h2 => ?_, .inl ⟨s, _, hl, hf, fun m2 h2 k hk => ?_⟩⟩
  ·unfold O.ok
   rw [jaW (h2 _ _ hl)]
   exact hok
  ·rw [jaW (h2 _ _ hl)] at hk
   exact hk
 ·have hc := jco h.1
  subst hc
  refine ⟨m, h.2, Ext.refl m, hi, fun m2 h2 => ?_, .inl ⟨s, _, hl, hf, fun m2 h2 k hk => ?_⟩⟩
  ·unfold O.ok
   rw [jaW (h2 _ _ hl)]
   exact hok
  ·rw [jaW (h2 _ _ hl)] at hk
   exact hk
 ·rename_i r' c'
  split at h
  ·rename_i c hc
   have he := jco h.1
   subst he
   refine ⟨m, h.2, Ext.refl m, hi, fun m2 h2 => ?_, .inr fun _ _ => rfl⟩
   unfold O.ok
   rw [jaW (h2 _ _ hl)]
   exact ⟨jbf hok hc, fun h => by cases h⟩
  ·exact h.elim
 ·exact h.elim
theorem jpb {hp : Hp} {nx : Nat} (hh : HRel ρ B hp nx w) : ∀ {l : Hp} {m : Rn} {k : Rn → Prop}, mH l hp m k → Inj m → ∃ m', k m' ∧ Ext m m' ∧ Inj m' ∧ ∀ h' o', find l h' = some o' → jjR ρ B w hp m' h' o'
 | [], m, k, h, hi => ⟨m, h, Ext.refl m, hi, fun _ _ hv => by cases hv⟩
 | (h0, o0) :: r, m, k, h, hi => by
  have close : ∀ m1, Ext m m1 → Inj m1 → jjR ρ B w hp m1 h0 o0 → mH r hp m1 k → ∃ m', k m' ∧ Ext m m' ∧ Inj m' ∧ ∀ h' o', find ((h0, o0) :: r) h' = some o' → jjR ρ B w hp m' h' o' := by
   intro m1 hE1 hI1 hO1 h1
   obtain ⟨m2, h2, hE2, hI2, hS2⟩ := jpb hh h1 hI1
   refine ⟨m2, h2, hE1.trans hE2, hI2, fun h' o' hf => ?_⟩
   simp only [find] at hf
   split at hf
   ·rename_i e
    subst e
    cases hf
    exact hO1.mono hE2
   ·exact hS2 h' o' hf
  unfold mH at h
  split at h
  ·rename_i s hs
   split at h
   ·rename_i o hf
    obtain ⟨m1, h1, hE1, hI1, hO1⟩ := jpa h hi hh hf hs
    exact close m1 hE1 hI1 hO1 h1
   ·exact h.elim
  ·rename_i hs
   split at h
   ·rename_i ty c
    refine close m (Ext.refl m) hi ⟨fun m2 h2 => ?_, .inr fun m2 h2 => ?_⟩ h.2
    ·have hfl : c.flat = [] := List.eq_nil_of_length_eq_zero (by rw [Cont.flat_length, h.1.h, Nat.zero_mul])
     show w.ownsRow 0 ty c.e (jb4 ρ m2 h0) c.n (c.flat.map D.val) ∧ ∀ k, (jb4 ρ m2 h0).ownBlock = some k → ¬ B k
     rw [jfF (h2 _ _ hs), hfl, h.1.h]
     exact ⟨World.ownsRow_nil w 0 ty c.e, fun k hk => by cases hk⟩
    ·rw [jfF (h2 _ _ hs)]
     rfl
   ·exact h.elim
  ·split at h
   ·rename_i o hf
    obtain ⟨m1, h1, hE1, hI1, hl1⟩ := jeU h hi
    obtain ⟨m2, h2, hE2, hI2, hO2⟩ := jpa h1 hI1 hh hf hl1
    exact close m2 (hE1.trans hE2) hI2 hO2 h2
   ·exact h.elim
theorem C.ltb_spec {n : Nat} {x : C} (h : x.ltb n = true) : x.lt n := by
 cases x with
 | d => trivial
 | p => simpa [C.ltb, C.lt, Nat.blt_eq] using h
 | o => simpa [C.ltb, C.lt, Nat.blt_eq] using h
 | fn f hs => intro y hy; have := List.all_eq_true.1 h y hy; simpa [Nat.blt_eq] using this
 | fb f hs => intro y hy; have := List.all_eq_true.1 h y hy; simpa [Nat.blt_eq] using this
 | g => trivial
theorem W.ltb_spec {n : Nat} {x : W} (h : x.ltb n = true) : x.lt n := by
 cases x with
 | c c => exact C.ltb_spec h
 | a l => exact fun y hy => C.ltb_spec (List.all_eq_true.1 h y hy)
 | b => trivial
theorem V.ltb_spec {n : Nat} {x : V} (h : x.ltb n = true) : x.lt n := by
 cases x with
 | w c => exact W.ltb_spec h
 | t l => exact fun y hy => W.ltb_spec (List.all_eq_true.1 h y hy)
theorem O.ltb_spec {n : Nat} {x : O} (h : x.ltb n = true) : x.lt n := by
 cases x with
 | box ty cs => exact fun y hy => C.ltb_spec (List.all_eq_true.1 h y hy)
 | view r c _ => simpa [O.ltb, O.lt, Nat.blt_eq] using h
 | ebox cs => exact fun y hy => C.ltb_spec (List.all_eq_true.1 h y hy)
 | _ => trivial
theorem jrV {l : List (Nat × V)} {t : Nat} {v : V} (h : ja4 l t = some v) : (t, v) ∈ l := by
 induction l with
 | nil => cases h
 | cons p r ih =>
  obtain ⟨k, x⟩ := p
  simp only [ja4] at h
  split at h
  ·rename_i e; subst e; cases h; exact List.mem_cons_self
  ·exact List.mem_cons_of_mem _ (ih h)
theorem jnx {l : Hp} {t : Nat} {v : O} (h : find l t = some v) : (t, v) ∈ l := by
 induction l with
 | nil => cases h
 | cons p r ih =>
  obtain ⟨k, x⟩ := p
  simp only [find] at h
  split at h
  ·rename_i e; subst e; cases h; exact List.mem_cons_self
  ·exact List.mem_cons_of_mem _ (ih h)
theorem jqN {l : Rn} {t : Nat} {v : Option Nat} (h : jbj l t = some v) : (t, v) ∈ l := by
 induction l with
 | nil => cases h
 | cons p r ih =>
  obtain ⟨k, x⟩ := p
  simp only [jbj] at h
  split at h
  ·rename_i e; subst e; cases h; exact List.mem_cons_self
  ·exact List.mem_cons_of_mem _ (ih h)
theorem Le.rel {st' : St} (h : Le n0 st st') (hr : RelD ds ρ B N n0 st a w) : ∃ ρ', RelD ds ρ' B N n0 st' a w ∧ jai n0 ρ ρ' := by
 unfold Le at h
 split at h
 ·rename_i hwf
  simp only [Bool.and_eq_true] at hwf
  obtain ⟨hwf, hn0⟩ := hwf
  simp only [St.wfb, Bool.and_eq_true, List.all_eq_true] at hwf
  obtain ⟨m1, h1, hE1, hI1, hT⟩ := jo9 (ρ := ρ) st.tm h (fun _ _ _ hx => by cases hx)
  obtain ⟨m2, h2, hE2, hI2, hO⟩ := jpb hr.heap h1 hI1
  have h2 : jqM n0 m2 = true := by
   split at h2
   ·assumption
   ·exact h2.elim
  refine ⟨jb4 ρ m2, ⟨fun t v' hv' => ?_, hr.size, hr.defers, ⟨fun h' o' hf => ?_, fun h' o' g' p' k hf hf' hne hk hk' => ?_, hr.heap.glob⟩, hr.le, by simpa [Nat.ble_eq] using hn0⟩, fun h hh => ?_⟩
  ·obtain ⟨v, hv, hS⟩ := hT t v' hv'
   refine ⟨V.ltb_spec (hwf.1 (t, v') (jrV hv')), ?_⟩
   rw [(hr.tm t v hv).2]
   exact (hS m2 hE2).symm
  ·have hm := hwf.2 (h', o') (jnx hf)
   simp only [Nat.blt_eq] at hm
   exact ⟨hm.1, O.ltb_spec hm.2, (hO h' o' hf).1 m2 (Ext.refl _)⟩
  ·rcases (hO h' o' hf).2 with ⟨s, o, h3, h4, h5⟩ | h3
   ·rcases (hO g' p' hf').2 with ⟨s', o2, h3', h4', h5'⟩ | h3'
    ·have hss : s ≠ s' := fun e => hne (hI2 h' g' s h3 (by rw [e]; exact h3'))
     exact hr.heap.apart s o s' o2 k h4 h4' hss (h5 m2 (Ext.refl _) k hk) (h5' m2 (Ext.refl _) k hk')
    ·rw [h3' m2 (Ext.refl _)] at hk'; cases hk'
   ·rw [h3 m2 (Ext.refl _)] at hk; cases hk
  ·unfold jb4
   cases hl : jbj m2 h with
   | none => rfl
   | some x =>
    have := List.all_eq_true.1 h2 (h, x) (jqN hl)
    have hb : h.blt n0 = true := by rw [Nat.blt_eq]; exact hh
    simp [hb] at this
    subst this
    rfl
 ·exact h.elim
end
end Go.Sx
end

section
open Go.RowKit
namespace Go.Sx
section
variable [Globs] {P : Program} {B : Bd} {N n0 : Nat} {sp : jaa} {ρ0 : Env} {w0 : World} {ds : List Deferred}
def jgk [Globs] (P : Program) (B : Bd) (N n0 : Nat) (ρ0 : Env) (w0 : World) (drawn : Array Oper → St → (St → Prop) → Prop) : Prop :=
 ∀ ⦃ds : List Deferred⦄ (id : Nat) (ops : Array Oper) (st : St) (k : St → Prop) (ρ : Env) (a : Act) (w : World) (Q : Exit → Act → World → Prop), drawn ops st k → RelD ds ρ B N n0 st a w → jai n0 ρ0 ρ → Bel B w0 w →
  (∀ ρ' st' a' w', RelD ds ρ' B N n0 st' a' w' → jai n0 ρ0 ρ' → Bel B w0 w' → k st' → Q .normal a' w') → (Code.region id ops true).wp P Q a w
theorem jl7 {ρ : Env} {st : St} {a : Act} {w : World} {c : Operand} {b : Bool} (hr : RelD ds ρ B N n0 st a w) (h : (jdh st c).bind V.bool? = some b) : a.eval c = .bool b := by
 cases hc : jdh st c with
 | none => simp [hc] at h
 | some v =>
  simp only [hc, Option.bind_some] at h
  rw [(hr.reads c v hc).2, V.bool?_eq h]
  rfl
theorem jh3 {c : Code} {F : St → (Ex → St → Prop) → Prop} (hF : ∀ st k ρ a w, F st k → RelD ds ρ B N n0 st a w → jai n0 ρ0 ρ → Bel B w0 w → c.wp P (Qx ds ρ0 B N n0 w0 k) a w) :
  ∀ (n : Nat) (st : St) (k : Ex → St → Prop) (ρ : Env) (a : Act) (w : World), jnt F n st k → RelD ds ρ B N n0 st a w → jai n0 ρ0 ρ → Bel B w0 w → Code.rounds P c (Qx ds ρ0 B N n0 w0 k) n a w
 | 0, _, _, _, _, _, h, _, _, _ => h.elim
 | n + 1, st, k, ρ, a, w, h, hr, hag, hbl => by
  rw [rounds_succ]
  refine wp_mono (hF st _ ρ a w h hr hag hbl) ?_
  rintro e a' w' ⟨x, ρ', st', rfl, hk, hr', hag', hbl'⟩
  cases x with
  | normal => exact jh3 hF n st' k ρ' a' w' hk hr' hag' hbl'
  | exit j => exact ⟨.exit j, ρ', st', rfl, hk, hr', hag', hbl'⟩
  | ret => exact ⟨.ret, ρ', st', rfl, hk, hr', hag', hbl'⟩
theorem ja7 {fuel : Nat} {loops : jfE} {drawn : Array Oper → St → (St → Prop) → Prop} (hsp : jab P sp) (hdr : jgk P B N n0 ρ0 w0 drawn) :
  ∀ (c : Code) (cur : Nat) (gs : List Nat) (st : St) (k : Ex → St → Prop) (ρ : Env) (a : Act) (w : World), sx P sp N n0 fuel loops drawn c cur gs st k → RelD ds ρ B N n0 st a w → jai n0 ρ0 ρ → Bel B w0 w →
   c.wp P (Qx ds ρ0 B N n0 w0 k) a w
 | .skip, _, _, st, k, ρ, a, w, h, hr, hag, hbl => wp_skip ⟨.normal, ρ, st, rfl, h, hr, hag, hbl⟩
 | .label _, _, _, st, k, ρ, a, w, h, hr, hag, hbl => wp_label ⟨.normal, ρ, st, rfl, h, hr, hag, hbl⟩
 | .region id ops draw, _, _, st, k, ρ, a, w, h, hr, hag, hbl => by
  unfold sx at h
  cases draw with
  | false =>
   refine wp_region_list ?_
   have := jeT (P := P) (Q := Qx ds ρ0 B N n0 w0 k) (k := fun st' => k .normal st') (all := ops.toList) hsp (fun ρ' st' a' w' h1 h2 h3 h4 => ⟨.normal, ρ', st', rfl, h4, h1, h2, h3⟩) ops.toList ρ st a w hr hag hbl h
   simpa using this
  | true => exact hdr id ops st _ ρ a w _ h hr hag hbl (fun ρ' st' a' w' h1 h2 h3 h4 => ⟨.normal, ρ', st', rfl, h4, h1, h2, h3⟩)
 | .seq x y, cur, gs, st, k, ρ, a, w, h, hr, hag, hbl => by
  unfold sx at h
  refine wp_seq (wp_mono (ja7 hsp hdr x cur gs st _ ρ a w h hr hag hbl) ?_)
  rintro e a' w' ⟨ex, ρ', st', rfl, hk, hr', hag', hbl'⟩
  cases ex with
  | normal => exact ja7 hsp hdr y cur gs st' k ρ' a' w' hk hr' hag' hbl'
  | exit j => exact ⟨.exit j, ρ', st', rfl, hk, hr', hag', hbl'⟩
  | ret => exact ⟨.ret, ρ', st', rfl, hk, hr', hag', hbl'⟩
 | .cond c x y, cur, gs, st, k, ρ, a, w, h, hr, hag, hbl => by
  unfold sx at h
  split at h
  ·rename_i b hb
   have he := jl7 hr hb
   cases b with
   | true => exact wp_cond_true he (ja7 hsp hdr x cur gs st k ρ a w h hr hag hbl)
   | false => exact wp_cond_false he (ja7 hsp hdr y cur gs st k ρ a w h hr hag hbl)
  ·exact h.elim
 | .block id c, _, gs, st, k, ρ, a, w, h, hr, hag, hbl => by
  unfold sx at h
  refine wp_block (wp_mono (ja7 hsp hdr c id gs st _ ρ a w h hr hag hbl) ?_)
  rintro e a' w' ⟨ex, ρ', st', rfl, hk, hr', hag', hbl'⟩
  cases ex with
  | normal => exact ⟨.normal, ρ', st', rfl, hk, hr', hag', hbl'⟩
  | exit j =>
   simp only [Ex.toExit, Exit.inBlock]
   dsimp only at hk
   split
   ·rename_i e
    rw [if_pos e] at hk
    exact ⟨.normal, ρ', st', rfl, hk, hr', hag', hbl'⟩
   ·rename_i e
    rw [if_neg e] at hk
    exact ⟨.exit j, ρ', st', rfl, hk, hr', hag', hbl'⟩
  | ret => exact ⟨.ret, ρ', st', rfl, hk, hr', hag', hbl'⟩
 | .loop c, cur, gs, st, k, ρ, a, w, h, hr, hag, hbl => by
  unfold sx at h
  split at h
  ·rename_i L hL
   obtain ⟨⟨x0, ⟨hx0⟩, hle0⟩, hround⟩ := h
   obtain ⟨ρ1, hr1, hag1⟩ := hle0.rel hr
   have hag01 : jai n0 ρ0 ρ1 := fun h hh => (hag1 h hh).trans (hag h hh)
   have key : ∀ (n : Nat) (x : L.X), L.mu x = n → L.inv x → ∀ (ρ : Env) (a : Act) (w : World), RelD ds ρ B N n0 (L.st x) a w → jai n0 ρ0 ρ → Bel B w0 w → Code.rounds P c (Qx ds ρ0 B N n0 w0 k) (n + 1) a w := by
    intro n
    induction n using Nat.strongRecOn with
    | _ n ih =>
     intro x hn hx ρ a w hr hag hbl
     rw [rounds_succ]
     refine wp_mono (ja7 hsp hdr c cur (L.mu x :: gs) (L.st x) _ ρ a w (hround x hx) hr hag hbl) ?_
     rintro e a' w' ⟨ex, ρ', st', rfl, hk, hr', hag', hbl'⟩
     cases ex with
     | normal =>
      obtain ⟨x', ⟨hx'⟩, ⟨hmu⟩, hle⟩ := hk
      obtain ⟨ρ2, hr2, hag2⟩ := Le.rel hle hr'
      have hlt : L.mu x' < n := by omega
      have := ih (L.mu x') hlt x' rfl hx' ρ2 a' w' hr2 (fun h hh => (hag2 h hh).trans (hag' h hh)) hbl'
      exact rounds_le (by omega) this
     | exit j => exact ⟨.exit j, ρ', st', rfl, hk, hr', hag', hbl'⟩
     | ret => exact ⟨.ret, ρ', st', rfl, hk, hr', hag', hbl'⟩
   exact wp_loop_rounds _ (key _ x0 rfl hx0 ρ1 a w hr1 hag01 hbl)
  ·refine wp_loop_rounds fuel (jh3 (F := fun st k => sx P sp N n0 fuel loops drawn c cur gs st k) ?_ fuel st k ρ a w h hr hag hbl)
   intro st k ρ a w h hr hag hbl
   exact ja7 hsp hdr c cur gs st k ρ a w h hr hag hbl
 | .exit id, _, _, st, k, ρ, a, w, h, hr, hag, hbl => wp_exit ⟨.exit id, ρ, st, rfl, h, hr, hag, hbl⟩
 | .ret, _, _, st, k, ρ, a, w, h, hr, hag, hbl => wp_ret ⟨.ret, ρ, st, rfl, h, hr, hag, hbl⟩
 | .scope _, _, _, _, _, _, _, _, h, _, _, _ => h.elim
 | .goto _, _, _, _, _, _, _, _, h, _, _, _ => h.elim
 | .rangeFunc _ _ _ _, _, _, _, _, _, _, _, h, _, _, _ => h.elim
 | .refuse _, _, _, _, _, _, _, _, h, _, _, _ => h.elim
 where
 rounds_le {c : Code} {Q : Exit → Act → World → Prop} : ∀ {n m : Nat} {a : Act} {w : World}, n ≤ m → Code.rounds P c Q n a w → Code.rounds P c Q m a w
  | 0, _, _, _, _, h => h.elim
  | n + 1, 0, _, _, hl, _ => by omega
  | n + 1, m + 1, a, w, hl, h => by
   rw [rounds_succ] at *
   refine wp_mono h ?_
   intro e a' w' hq
   cases e <;> first | exact rounds_le (Nat.le_of_succ_le_succ hl) hq | exact hq
end
end Go.Sx
end

section
open Go.RowKit
namespace Go.Sx
def jny (P : Program) (st : St) : ResultVar → Option (Prop × W)
 | .tmp t => match ja4 st.tm t with
  | some (.w u) => some (True, u)
  | _ => none
 | .cell t ty => match ja4 st.tm t with
  | some (.w (.c (.p h i e j))) => match find st.hp h with
   | some o => match jfy P ty o i e j with
    | some (ob, .w u) => some (ob, u)
    | _ => none
   | none => none
  | _ => none
def jgl (P : Program) (st : St) : List ResultVar → Option (List (Prop × W))
 | [] => some []
 | r :: rs => match jny P st r, jgl P st rs with
  | some x, some l => some (x :: l)
  | _, _ => none
def jb9 : List W → V
 | [u] => .w u
 | l => .t l
def jkK : List (Prop × W) → Prop → Prop
 | [], k => k
 | x :: l, k => Ob x.1 ∧ jkK l k
def jdG (P : Program) (rs : List ResultVar) (post : V → Hp → Nat → Prop) : Ex → St → Prop
 | .exit _, _ => False
 | _, st => match jgl P st rs with
  | some l => jkK l (post (jb9 (l.map (·.2))) st.hp st.nx)
  | none => False
def jcI : Nat → List V → List (Nat × V)
 | _, [] => []
 | n, v :: l => (n, v) :: jcI (n + 1) l
def jkL (tmps : Array Value) : ResultVar → Sem Value
 | .tmp t => pure (tmps.getD t undef)
 | .cell c t => do loadVar t (← asAddr (tmps.getD c undef))
theorem jgP (fn : Func) (tmps : Array Value) : results fn tmps = (fn.results.mapM (jkL tmps) >>= fun vs => pure (if h : vs.size = 1 then vs[0] else .tuple vs)) := by
 unfold results
 congr 1
section
variable [Globs] {P : Program} {B : Bd} {N n0 : Nat} {ρ : Env} {st : St} {a : Act} {w : World} {ds : List Deferred}
theorem jpH {r : ResultVar} {ob : Prop} {u : W} (hr : RelD ds ρ B N n0 st a w) (h : jny P st r = some (ob, u)) (ho : ob) :
  (jkL a.tmps r).run P w = .ok (u.val ρ) w ∧ u.lt st.nx := by
 unfold jny at h
 split at h
 ·rename_i t
  split at h
  ·rename_i u' hg
   cases h
   have := hr.tm t _ hg
   exact ⟨by simp only [jkL, Sem.run_pure, this.2]; rfl, this.1⟩
  ·cases h
 ·rename_i t ty
  split at h
  ·rename_i k i e j hg
   split at h
   ·rename_i o hf
    split at h
    ·rename_i ob' u' hro
     cases h
     have h1 := (hr.tm t _ hg).2
     have h2 := jhT hr.heap hf hro ho
     refine ⟨?_, h2.2⟩
     simp only [jkL, h1, cell_val, C.val, asAddr, Sem.run_bind, Sem.run_pure, Result.andThen_ok]
     exact h2.1
    ·cases h
   ·cases h
  ·cases h
theorem jeV (hr : RelD ds ρ B N n0 st a w) : ∀ (rs : List ResultVar) (l : List (Prop × W)) (k : Prop), jgl P st rs = some l → jkK l k →
  (rs.mapM (jkL a.tmps)).run P w = .ok (l.map fun x => x.2.val ρ) w ∧ (∀ x ∈ l, x.2.lt st.nx) ∧ k
 | [], l, k, h, ho => by
  simp only [jgl, Option.some.injEq] at h
  subst h
  exact ⟨by simp, (fun _ hx => by cases hx), ho⟩
 | r :: rs, l, k, h, ho => by
  simp only [jgl] at h
  split at h
  ·rename_i x l' hx hl
   cases h
   obtain ⟨h1, h2⟩ := ho
   have ih := jeV hr rs l' k hl h2
   have h3 := jpH hr hx h1.h
   refine ⟨?_, ?_, ih.2.2⟩
   ·simp only [List.mapM_cons, Sem.run_bind, h3.1, Result.andThen_ok, ih.1, Sem.run_pure, List.map_cons]
   ·intro y hy
    rcases List.mem_cons.1 hy with rfl | hy
    ·exact h3.2
    ·exact ih.2.1 y hy
  ·cases h
theorem jcp (l : List W) : (jb9 l).val ρ = (if h : (l.map (W.val ρ)).toArray.size = 1 then (l.map (W.val ρ)).toArray[0] else .tuple (l.map (W.val ρ)).toArray) := by
 match l with
 | [] => rfl
 | [u] => rfl
 | u :: v :: r => simp [jb9, V.val]
theorem je1 {n : Nat} {l : List W} (h : ∀ x ∈ l, x.lt n) : (jb9 l).lt n := by
 match l with
 | [] => exact h
 | [u] => exact h u List.mem_cons_self
 | u :: v :: r => exact h
theorem jl8 : ∀ (l : List V) (n t : Nat) (v : V), ja4 (jcI n l) t = some v → n ≤ t ∧ l[t - n]? = some v
 | [], _, _, _, h => by cases h
 | x :: l, n, t, v, h => by
  simp only [jcI, ja4] at h
  split at h
  ·rename_i e
   subst e
   cases h
   simp
  ·have := jl8 l (n + 1) t v h
   refine ⟨by omega, ?_⟩
   have e : t - n = (t - (n + 1)) + 1 := by omega
   rw [e]
   simpa using this.2
theorem jfG {N : Nat} {args : List V} {hp0 : Hp} {nx0 : Nat} (hlen : args.length ≤ N) (hlt : ∀ x ∈ args, V.lt nx0 x) (hn0 : n0 ≤ nx0) (ρ : Env) (w : World) (hh : HRel ρ B hp0 nx0 w) (hB : Old B w) :
  Rel ρ B N n0 ⟨jcI 0 args, hp0, nx0⟩ { tmps := (args.map (V.val ρ)).toArray ++ Array.replicate (N - (args.map (V.val ρ)).toArray.size) undef, defers := [] } w := by
 refine ⟨fun t v hv => ?_, by simp; omega, rfl, hh, hB, hn0⟩
 have hg := jl8 args 0 t v hv
 simp only [Nat.sub_zero] at hg
 have hlt2 : t < args.length := (List.getElem?_eq_some_iff.1 hg.2).1
 refine ⟨hlt v (List.mem_of_getElem? hg.2), ?_⟩
 have hv2 : args[t] = v := (List.getElem?_eq_some_iff.1 hg.2).2
 have hsz : t < ((args.map (V.val ρ)).toArray ++ Array.replicate (N - (args.map (V.val ρ)).toArray.size) undef).size := by simp; omega
 simp only [Array.getD_eq_getD_getElem?, Array.getElem?_eq_getElem hsz, Option.getD_some]
 rw [Array.getElem_append_left (by simpa using hlt2)]
 simp [hv2]
theorem jnz {sp : jaa} {fuel : Nat} {loops : jfE} {drawn : Array Oper → St → (St → Prop) → Prop} {f : Nat} {fn : Func} {body : Code} {args : List V} {hp0 : Hp} {nx0 : Nat} {post : V → Hp → Nat → Prop}
  (hsp : jab P sp) (hdr : ∀ ρ w, jgk P B fn.ntmps n0 ρ w drawn) (hf : P.funcs[f]? = some fn) (hb : fn.body = some body) (hlen : args.length ≤ fn.ntmps)
  (h : sx P sp fn.ntmps n0 fuel loops drawn body 0 [] ⟨jcI 0 args, hp0, nx0⟩ (jdG P fn.results.toList post)) (hlt : ∀ x ∈ args, V.lt nx0 x) (hn0 : n0 ≤ nx0) (ρ : Env) (w : World) (hh : HRel ρ B hp0 nx0 w) (hB : Old B w) :
  Calls P f (args.map (V.val ρ)).toArray w fun e w' => ∃ ρ' v hp' nx', e = .returned (v.val ρ') ∧ v.lt nx' ∧ jai n0 ρ ρ' ∧ HRel ρ' B hp' nx' w' ∧ Bel B w w' ∧ Old B w' ∧ post v hp' nx' := by
 refine calls_of_wp hf hb ?_
 have jdH := jfG (n0 := n0) hlen hlt hn0 ρ w hh hB
 refine wp_mono (ja7 hsp (hdr ρ w) body 0 [] _ _ ρ _ w h jdH (jai.refl _ _) (Bel.refl _ _)) ?_
 rintro e a' w' ⟨x, ρ', st', rfl, hk, hr', hag', hbl'⟩
 have fin : ∀ l : List (Prop × W), jgl P st' fn.results.toList = some l → jkK l (post (jb9 (l.map (·.2))) st'.hp st'.nx) →
   a'.defers = [] ∧ ∃ v, (results fn a'.tmps).run P w' = .ok v w' ∧ ∃ ρ' v' hp' nx', Ending.returned v = .returned (v'.val ρ') ∧ v'.lt nx' ∧ jai n0 ρ ρ' ∧ HRel ρ' B hp' nx' w' ∧ Bel B w w' ∧ Old B w' ∧ post v' hp' nx' := by
  intro l hl ho
  have hra := jeV hr' _ l _ hl ho
  refine ⟨hr'.defers, (jb9 (l.map (·.2))).val ρ', ?_, ρ', jb9 (l.map (·.2)), st'.hp, st'.nx, rfl, je1 (fun y hy => ?_), hag', hr'.heap, hbl', hr'.le, hra.2.2⟩
  ·rw [jcp]
   simp only [jgP, Array.mapM_eq_mapM_toList, Sem.run_bind, Sem.run_map, hra.1, Result.andThen_ok, Sem.run_pure, List.map_map]
   rfl
  ·obtain ⟨z, hz, rfl⟩ := List.mem_map.1 hy
   exact hra.2.1 z hz
 cases x with
 | normal =>
  simp only [jdG] at hk
  split at hk
  ·rename_i l hl
   exact fin l hl hk
  ·exact hk.elim
 | exit j => exact hk.elim
 | ret =>
  simp only [jdG] at hk
  split at hk
  ·rename_i l hl
   exact fin l hl hk
  ·exact hk.elim
end
end Go.Sx
end

section
open Go.RowKit
namespace Go.Sx
def jkM (n : Nat) (l : List Nat) : List Nat := match l.contains n with
 | true => l
 | false => n :: l
def jgQ (a b : List Nat) : List Nat := a.foldr jkM b
def jcA (acc : List (List Nat)) : List Edge → List Nat
 | [] => []
 | e :: r => match Region.binds .any e with
  | true => jkM e.on (jgQ (acc.getD e.on []) (jcA acc r))
  | false => jcA acc r
def jh4 : List Oper → List (List Nat) → List (List Nat)
 | [], acc => acc
 | o :: r, acc => jh4 r (acc ++ [jcA acc o.after.toList])
theorem jkN {n m : Nat} {l : List Nat} : m ∈ jkM n l ↔ m = n ∨ m ∈ l := by
 unfold jkM
 split
 ·rename_i h
  simp at h
  constructor
  ·exact .inr
  ·rintro (rfl | h')
   ·exact h
   ·exact h'
 ·simp
theorem jh5 {m : Nat} : ∀ {a b : List Nat}, m ∈ jgQ a b ↔ m ∈ a ∨ m ∈ b
 | [], b => by simp [jgQ]
 | x :: a, b => by
  have := jh5 (m := m) (a := a) (b := b)
  simp only [jgQ, List.foldr_cons] at *
  rw [jkN, this]
  simp [or_assoc]
theorem jfZ {acc : List (List Nat)} {k : Nat} : ∀ {es : List Edge}, k ∈ jcA acc es → ∃ e ∈ es, Region.binds .any e = true ∧ (k = e.on ∨ k ∈ acc.getD e.on [])
 | [], h => by cases h
 | e :: r, h => by
  unfold jcA at h
  split at h
  ·rename_i hb
   rcases jkN.1 h with h | h
   ·exact ⟨e, List.mem_cons_self, hb, .inl h⟩
   ·rcases jh5.1 h with h | h
    ·exact ⟨e, List.mem_cons_self, hb, .inr h⟩
    ·obtain ⟨e', he', h'⟩ := jfZ h
     exact ⟨e', List.mem_cons_of_mem _ he', h'⟩
  ·obtain ⟨e', he', h'⟩ := jfZ h
   exact ⟨e', List.mem_cons_of_mem _ he', h'⟩
def jcg (L : List Oper) (tab : List (List Nat)) : Prop :=
 ∀ i k, k ∈ tab.getD i [] → ∃ o, L[i]? = some o ∧ ∃ e ∈ o.after.toList, Region.binds .any e = true ∧ (k = e.on ∨ (e.on < i ∧ k ∈ tab.getD e.on []))
theorem jpc (L : List Oper) : ∀ (r : List Oper) (acc : List (List Nat)), L = L.take acc.length ++ r → jcg L acc → jcg L (jh4 r acc)
 | [], acc, _, h => h
 | o :: r, acc, hL, h => by
  unfold jh4
  have hlen : acc.length < L.length := by
   have := congrArg List.length hL
   simp at this
   omega
  have ho : L[acc.length]? = some o := by
   rw [hL, List.getElem?_append_right (by simp; omega)]
   simp [Nat.min_eq_left (Nat.le_of_lt hlen)]
  refine jpc L r (acc ++ [jcA acc o.after.toList]) ?_ ?_
  ·have h1 : L.take (acc.length + 1) = L.take acc.length ++ [o] := by
    rw [List.take_succ_eq_append_getElem hlen]
    congr 2
    have := List.getElem?_eq_getElem hlen
    rw [this] at ho
    exact Option.some.inj ho
   simp only [List.length_append, List.length_singleton, h1, List.append_assoc, List.singleton_append]
   exact hL
  ·intro i k hk
   by_cases hi : i < acc.length
   ·have e1 : (acc ++ [jcA acc o.after.toList]).getD i [] = acc.getD i [] := by simp [List.getD, List.getElem?_append_left hi]
    rw [e1] at hk
    obtain ⟨o', ho', e, he, hb, hor⟩ := h i k hk
    refine ⟨o', ho', e, he, hb, hor.imp id fun ⟨h1, h2⟩ => ⟨h1, ?_⟩⟩
    simpa [List.getD, List.getElem?_append_left (show e.on < acc.length by omega)] using h2
   ·by_cases hi2 : i = acc.length
    ·subst hi2
     have e1 : (acc ++ [jcA acc o.after.toList]).getD acc.length [] = jcA acc o.after.toList := by simp [List.getD]
     rw [e1] at hk
     obtain ⟨e, he, hb, hor⟩ := jfZ hk
     refine ⟨o, ho, e, he, hb, hor.imp id fun h2 => ?_⟩
     have hlt : e.on < acc.length := by
      rcases Nat.lt_or_ge e.on acc.length with h | h
      ·exact h
      ·simp [List.getD, List.getElem?_eq_none h] at h2
     exact ⟨hlt, by simpa [List.getD, List.getElem?_append_left hlt] using h2⟩
    ·have : (acc ++ [jcA acc o.after.toList]).getD i [] = [] := by
      rw [List.getD, List.getElem?_eq_none (by simp; omega)]
      rfl
     rw [this] at hk
     cases hk
def jb5 (L : List Oper) (D : Nat → Bool) : Prop := ∀ j o, L[j]? = some o → D j = true → ∀ e ∈ o.after.toList, Region.binds .any e = true → D e.on = true
theorem jd5 {L : List Oper} {tab : List (List Nat)} {D : Nat → Bool} (ht : jcg L tab) (hc : jb5 L D) :
  ∀ (i : Nat) (k : Nat), (∀ o, L[i]? = some o → ∀ e ∈ o.after.toList, Region.binds .any e = true → D e.on = true) → k ∈ tab.getD i [] → D k = true := by
 intro i
 induction i using Nat.strongRecOn with
 | _ i ih =>
  intro k hd hk
  obtain ⟨o, ho, e, he, hb, hor⟩ := ht i k hk
  have h1 := hd o ho e he hb
  rcases hor with rfl | ⟨hlt, hk'⟩
  ·exact h1
  ·exact ih e.on hlt k (fun o' ho' e' he' hb' => hc e.on o' ho' h1 e' he' hb') hk'
structure Rec where
 v : V
 hp : Hp
 nx : Nat
 kd : Nat
 nw : Hp
 tg : Option Nat
def jaK : Op → Bool
 | .load _ _ => true
 | .binOp _ _ _ y _ => jhP y
 | _ => false
def loadAt (op : Op) (rd : Operand → Option V) : Option Nat :=
 match op with
 | .load _ x => match rd x with
  | some (.w (.c (.p h _ _ _))) => some h
  | _ => none
 | .binOp _ _ x _ _ => match rd x with
  | some (.w (.c (.o h))) => some h
  | _ => none
 | _ => none
def storeAt (op : Op) (rd : Operand → Option V) : Option Nat :=
 match op with
 | .store _ x _ => match rd x with
  | some (.w (.c (.p h _ _ _))) => some h
  | _ => none
 | .call c => match c.callee, c.args.toList with
  | .builtin .append, [s, _] => match rd s with
   | some (.w (.c (.o h))) => some h
   | some (.w (.c (.d (.v (.slice none 0 0))))) => some 1000000007
   | _ => none
  | _, _ => none
 | _ => none
def jdI : Option O → Bool
 | some (.box _ _) => true
 | some (.row _ _) => true
 | some (.ext _) => true
 | some (.ebox _) => true
 | some (.arr _ _ _ _) => true
 | some (.xext _) => true
 | _ => false
def jb6 (L : List Oper) (j : Nat) : Option Nat := (L[j]?).bind (·.dst)
def jaL (st0 : St) : List Rec → Hp
 | [] => st0.hp
 | r :: _ => r.hp
def jad (st0 : St) : List Rec → Nat
 | [] => st0.nx
 | r :: _ => r.nx
def jci (L : List Oper) (bef : List Nat) (st0 : St) (t : Nat) : List Rec → Option V
 | [] => ja4 st0.tm t
 | r :: tr => match jb6 L tr.length with
  | some d => if d = t then (match bef.contains tr.length with | true => some r.v | false => none) else jci L bef st0 t tr
  | none => jci L bef st0 t tr
def jbz [Globs] (L : List Oper) (nm : List Nat) (bef : List Nat) (st0 : St) (tr : List Rec) : Operand → Option V
 | .tmp t => match nm.contains t with
  | true => jci L bef st0 t tr
  | false => none
 | x => jdh st0 x
def jau (q : Nat → Bool) (st0 : St) : List Rec → Nat → Bool
 | [], _ => true
 | _ :: tr, h => match Nat.ble (jad st0 tr) h with
  | true => q tr.length
  | false => jau q st0 tr h
def jgm (bef : List Nat) (st0 : St) (tr : List Rec) : Hp := (jaL st0 tr).filter fun x => jau (fun j => bef.contains j) st0 tr x.1
def jl9 : Op → Bool
 | .build _ _ => true
 | _ => false
def jbD (st0 : St) : List Rec → Nat → Bool
 | [], h => C.one st0.hp (.o h)
 | r :: tr, h => match Nat.ble (jad st0 tr) h with
  | true => C.one r.hp (.o h)
  | false => jbD st0 tr h
def jgn (bef : List Nat) (st0 : St) (tr : List Rec) : Hp := ((jaL st0 tr).filter fun x => jau (fun j => bef.contains j) st0 tr x.1 && jbD st0 tr x.1).map fun x => (x.1, O.atom)
def C.allB (p : Nat → Bool) : C → Bool
 | .d _ => true
 | .p h _ _ _ => p h
 | .o h => p h
 | .fn _ hs => hs.all p
 | .fb _ hs => hs.all p
 | .g _ _ _ _ => true
def W.allB (p : Nat → Bool) : W → Bool
 | .c x => x.allB p
 | .a l => l.all (C.allB p)
 | .b _ _ _ => true
def V.allB (p : Nat → Bool) : V → Bool
 | .w x => x.allB p
 | .t l => l.all (W.allB p)
def O.allB (p : Nat → Bool) : O → Bool
 | .box _ cs => cs.all (C.allB p)
 | .view r _ _ => p r
 | .ebox cs => cs.all (C.allB p)
 | _ => true
def jbA (bef : List Nat) (st0 : St) (tr : List Rec) (v : V) (hp : Hp) (nx : Nat) : Bool :=
 Nat.ble (jad st0 tr) nx && v.allB (fun h => Nat.blt h nx && (Nat.ble (jad st0 tr) h || jau (fun j => bef.contains j) st0 tr h)) &&
  hp.all (fun x => Nat.blt x.1 nx && x.2.allB fun h => Nat.blt h nx && (Nat.ble (jad st0 tr) h || jau (fun j => bef.contains j) st0 tr h))
def jc5 (n : Nat) (hp : Hp) : Hp := hp.filter fun x => Nat.ble n x.1
def jaB : Op → Bool
 | .binOp _ _ _ y _ => !(jhP y)
 | .move _ | .assign _ | .pick _ _ _ | .unOp _ _ _ | .extract _ _ | .field _ _ _ | .fieldAddr _ _ _ | .nilCheck _ | .convert _ _ _ | .build _ _ => true
 | _ => false
def jcT (tab : List (List Nat)) (i : Nat) (lf : Bool) : Nat → List Oper → Bool
 | _, [] => true
 | j, o :: r => (Nat.beq j i || jaB o.op || (tab.getD i []).contains j || (tab.getD j []).contains i || (lf && jaK o.op)) && jcT tab i lf (j + 1) r
def jaI (L : List Oper) (o : Oper) : List Nat :=
 o.dst.toList ++ (o.op.operands.toList.filterMap fun | .tmp t => some t | _ => none) ++ (match o.guard with | some (g, _) => (jb6 L g).toList | none => [])
def jeW (L : List Oper) (tab : List (List Nat)) (j t : Nat) : Nat → List Oper → Bool
 | _, [] => true
 | i, o :: r => (!(Nat.blt i j) || !((jaI L o).contains t) || (tab.getD j []).contains i) && jeW L tab j t (i + 1) r
def jcj (L : List Oper) (tab : List (List Nat)) : Nat → List Oper → Bool
 | _, [] => true
 | j, o :: r => (match o.dst with | some t => jeW L tab j t 0 L | none => true) && jcj L tab (j + 1) r
def obT (t : Bool) (ob k : Prop) : Prop := match t with
 | true => k
 | false => Ob ob ∧ k
def jdr [Globs] (L : List Oper) (tab : List (List Nat)) (st0 : St) (bef : List Nat) (h : Nat) : List Rec → Bool
 | [] => true
 | _ :: tr => (match L[tr.length]? with
  | none => false
  | some o => match jaK o.op with
   | false => true
   | true => bef.contains tr.length || match loadAt o.op (jbz L (jaI L o) (tab.getD tr.length []) st0 tr) with
    | none => false
    | some x => !(Nat.beq x h) && jdI (find (jaL st0 tr) x)) && jdr L tab st0 bef h tr
def jdJ (st0 : St) (bef : List Nat) (h : Nat) : List Rec → Bool
 | [] => true
 | r :: tr => (!(Nat.beq r.kd 2) || bef.contains tr.length || match r.tg with
  | none => false
  | some t => !(Nat.beq t h) && jdI (find (jaL st0 tr) h)) && jdJ st0 bef h tr
def jds [Globs] (L : List Oper) (tab : List (List Nat)) (st0 : St) (o : Oper) (tr : List Rec) : Option Nat :=
 match storeAt o.op (jbz L (jaI L o) (tab.getD tr.length []) st0 tr) with
 | some h => match jdr L tab st0 (tab.getD tr.length []) h tr with
  | true => some h
  | false => none
 | none => none
def dop [Globs] (P : Program) (sp : jaa) (N : Nat) (L : List Oper) (tab : List (List Nat)) (st0 : St) (o : Oper) (tr : List Rec) (k : Rec → Prop) : Prop :=
 match jc7 N o.dst with
 | false => False
 | true =>
  match jbL P o.op (jbz L (jaI L o) (tab.getD tr.length []) st0 tr) [] with
  | some (ob, v) => match jbA (tab.getD tr.length []) st0 tr v [] (jad st0 tr) with
   | true => obT (jcf o.op (jbz L (jaI L o) (tab.getD tr.length []) st0 tr) []) ob (k ⟨v, jaL st0 tr, jad st0 tr, 0, [], none⟩)
   | false => False
  | none =>
   match jaB o.op with
   | true => match jl9 o.op with
    | true => match jbL P o.op (jbz L (jaI L o) (tab.getD tr.length []) st0 tr) (jgn (tab.getD tr.length []) st0 tr) with
     | some (ob, v) => match jbA (tab.getD tr.length []) st0 tr v [] (jad st0 tr) with
      | true => obT (jcf o.op (jbz L (jaI L o) (tab.getD tr.length []) st0 tr) (jgn (tab.getD tr.length []) st0 tr)) ob (k ⟨v, jaL st0 tr, jad st0 tr, 0, [], none⟩)
      | false => False
     | none => False
    | false => False
   | false =>
    match jaK o.op with
    | true => match loadAt o.op (jbz L (jaI L o) (tab.getD tr.length []) st0 tr) with
     | none => False
     | some h => match find (jaL st0 tr) h with
      | none => False
      | some x => match jau (fun j => (tab.getD tr.length []).contains j) st0 tr h && jdJ st0 (tab.getD tr.length []) h tr with
       | false => False
       | true => match jbL P o.op (jbz L (jaI L o) (tab.getD tr.length []) st0 tr) [(h, x)] with
        | none => False
        | some (ob, v) => match jbA (tab.getD tr.length []) st0 tr v [] (jad st0 tr) with
         | true => obT (jcf o.op (jbz L (jaI L o) (tab.getD tr.length []) st0 tr) [(h, x)]) ob (k ⟨v, jaL st0 tr, jad st0 tr, 0, [], none⟩)
         | false => False
    | false =>
    match jaN sp o.op (jbz L (jaI L o) (tab.getD tr.length []) st0 tr) with
    | true => match jbW P sp o.op (jbz L (jaI L o) (tab.getD tr.length []) st0 tr) (jgm (tab.getD tr.length []) st0 tr) (jad st0 tr) with
     | some res => match jbA (tab.getD tr.length []) st0 tr res.v (jc5 (jad st0 tr) res.hp) res.nx with
      | true => obT (jcf o.op (jbz L (jaI L o) (tab.getD tr.length []) st0 tr) (jgm (tab.getD tr.length []) st0 tr)) res.ob (k ⟨res.v, jc5 (jad st0 tr) res.hp ++ jaL st0 tr, res.nx, 1, jc5 (jad st0 tr) res.hp, none⟩)
      | false => False
     | none => False
    | false => match jcT tab tr.length ((jds L tab st0 o tr).isSome) 0 L with
     | false => False
     | true => match jbW P sp o.op (jbz L (jaI L o) (tab.getD tr.length []) st0 tr) (jaL st0 tr) (jad st0 tr) with
      | some res => match jbA (tab.getD tr.length []) st0 tr res.v res.hp res.nx with
       | true => obT (jcf o.op (jbz L (jaI L o) (tab.getD tr.length []) st0 tr) (jaL st0 tr)) res.ob (k ⟨res.v, res.hp, res.nx, 2, [], jds L tab st0 o tr⟩)
       | false => False
      | none => False
def jkO (N : Nat) (st0 : St) (o : Oper) (tr : List Rec) (k : Rec → Prop) : Prop :=
 match jc7 N o.dst with
 | false => False
 | true => k ⟨vu, jaL st0 tr, jad st0 tr, 0, [], none⟩
def jcU (L : List Oper) (t : Nat) (v : V) : List Rec → List Rec
 | [] => []
 | r :: tr => match jb6 L tr.length with
  | some d => if d = t then { r with v := v } :: tr else r :: jcU L t v tr
  | none => r :: jcU L t v tr
def jf0 [Globs] (P : Program) (sp : jaa) (N : Nat) (L : List Oper) (tab : List (List Nat)) (st0 : St) : List Oper → List Rec → (List Rec → Prop) → Prop
 | [], tr, k => k tr
 | o :: rest, tr, k =>
  match o.guard with
  | none => dop P sp N L tab st0 o tr fun r => jf0 P sp N L tab st0 rest (r :: tr) k
  | some (g, want) =>
   match jb6 L g with
   | none => False
   | some t =>
    match jci L (tab.getD tr.length []) st0 t tr with
    | some (.w (.c (.d (.b b)))) =>
     Br b
      (match want with
       | true => dop P sp N L tab st0 o (jcU L t (vb true) tr) fun r => jf0 P sp N L tab st0 rest (r :: jcU L t (vb true) tr) k
       | false => jkO N st0 o (jcU L t (vb true) tr) fun r => jf0 P sp N L tab st0 rest (r :: jcU L t (vb true) tr) k)
      (match want with
       | true => jkO N st0 o (jcU L t (vb false) tr) fun r => jf0 P sp N L tab st0 rest (r :: jcU L t (vb false) tr) k
       | false => dop P sp N L tab st0 o (jcU L t (vb false) tr) fun r => jf0 P sp N L tab st0 rest (r :: jcU L t (vb false) tr) k)
    | some (.w (.c (.d (.v (.tuple _))))) => jkO N st0 o tr fun r => jf0 P sp N L tab st0 rest (r :: tr) k
    | _ => False
def jnA (L : List Oper) (st0 : St) : List Rec → List (Nat × V)
 | [] => st0.tm
 | r :: tr => match jb6 L tr.length with
  | some d => (d, r.v) :: jnA L st0 tr
  | none => jnA L st0 tr
def jtt (L : List Oper) (st0 : St) (tr : List Rec) : St := ⟨jnA L st0 tr, jaL st0 tr, jad st0 tr⟩
def jdt : Nat → List Oper → Bool
 | _, [] => true
 | i, o :: r => (o.after.toList.all fun e => !(Region.binds .any e) || Nat.blt e.on i) && jdt (i + 1) r
def jkP [Globs] (P : Program) (sp : jaa) (N : Nat) (ops : Array Oper) (st : St) (k : St → Prop) : Prop :=
 match jcj ops.toList (jh4 ops.toList []) 0 ops.toList && jdt 0 ops.toList with
 | true => jf0 P sp N ops.toList (jh4 ops.toList []) st ops.toList [] fun tr => k (jtt ops.toList st tr)
 | false => False
end Go.Sx
end

section
open Go.RowKit
namespace Go.Sx
section
variable [Globs] {P : Program} {sp : jaa} {B : Bd} {N n0 : Nat} {L : List Oper} {tab : List (List Nat)} {st0 : St} {ρ0 : Env} {w0 : World}
def jbk (L : List Oper) (tab : List (List Nat)) (st0 : St) (o : Oper) (tr : List Rec) (b : Bool) : Prop :=
 match o.guard with
 | none => b = true
 | some (g, want) => ∃ t v, jb6 L g = some t ∧ jci L (tab.getD tr.length []) st0 t tr = some v ∧ ((∃ c, v = vb c ∧ (c == want) = b) ∨ ((∃ l, v = .w (.c (.d (.v (.tuple l))))) ∧ b = false))
inductive Kind [Globs] (P : Program) (sp : jaa) (L : List Oper) (tab : List (List Nat)) (st0 : St) (o : Oper) (tr : List Rec) (r : Rec) : Prop where
 | skip (g : jbk L tab st0 o tr false) (h : r = ⟨vu, jaL st0 tr, jad st0 tr, 0, [], none⟩)
 | pure (g : jbk L tab st0 o tr true) (ob : Prop) (hs : jbL P o.op (jbz L (jaI L o) (tab.getD tr.length []) st0 tr) [] = some (ob, r.v)) (ho : ob) (hk : jbA (tab.getD tr.length []) st0 tr r.v [] (jad st0 tr) = true) (h : r = ⟨r.v, jaL st0 tr, jad st0 tr, 0, [], none⟩)
 | built (g : jbk L tab st0 o tr true) (hb : jl9 o.op = true) (ob : Prop) (hs : jbL P o.op (jbz L (jaI L o) (tab.getD tr.length []) st0 tr) (jgn (tab.getD tr.length []) st0 tr) = some (ob, r.v)) (ho : ob) (hk : jbA (tab.getD tr.length []) st0 tr r.v [] (jad st0 tr) = true) (h : r = ⟨r.v, jaL st0 tr, jad st0 tr, 0, [], none⟩)
 | load (g : jbk L tab st0 o tr true) (hp : jaB o.op = false) (hl : jaK o.op = true) (x : Nat) (xo : O) (hx : loadAt o.op (jbz L (jaI L o) (tab.getD tr.length []) st0 tr) = some x) (hf : find (jaL st0 tr) x = some xo)
   (hb : jau (fun j => (tab.getD tr.length []).contains j) st0 tr x = true) (hst : jdJ st0 (tab.getD tr.length []) x tr = true) (ob : Prop)
   (hs : jbL P o.op (jbz L (jaI L o) (tab.getD tr.length []) st0 tr) [(x, xo)] = some (ob, r.v)) (ho : ob) (hk : jbA (tab.getD tr.length []) st0 tr r.v [] (jad st0 tr) = true) (h : r = ⟨r.v, jaL st0 tr, jad st0 tr, 0, [], none⟩)
 | mono (g : jbk L tab st0 o tr true) (hp : jaB o.op = false) (hl : jaK o.op = false) (hm : jaN sp o.op (jbz L (jaI L o) (tab.getD tr.length []) st0 tr) = true) (res : Res)
   (hs : jbW P sp o.op (jbz L (jaI L o) (tab.getD tr.length []) st0 tr) (jgm (tab.getD tr.length []) st0 tr) (jad st0 tr) = some res) (ho : res.ob)
   (hk : jbA (tab.getD tr.length []) st0 tr res.v (jc5 (jad st0 tr) res.hp) res.nx = true)
   (h : r = ⟨res.v, jc5 (jad st0 tr) res.hp ++ jaL st0 tr, res.nx, 1, jc5 (jad st0 tr) res.hp, none⟩)
 | effect (g : jbk L tab st0 o tr true) (hp : jaB o.op = false) (hl : jaK o.op = false) (hf : jcT tab tr.length ((jds L tab st0 o tr).isSome) 0 L = true) (res : Res)
   (hs : jbW P sp o.op (jbz L (jaI L o) (tab.getD tr.length []) st0 tr) (jaL st0 tr) (jad st0 tr) = some res) (ho : res.ob)
   (hk : jbA (tab.getD tr.length []) st0 tr res.v res.hp res.nx = true) (h : r = ⟨res.v, res.hp, res.nx, 2, [], jds L tab st0 o tr⟩)
structure RecOK [Globs] (P : Program) (sp : jaa) (N : Nat) (L : List Oper) (tab : List (List Nat)) (st0 : St) (tr : List Rec) (r : Rec) (o : Oper) : Prop where
 op : L[tr.length]? = some o
 dst : jc7 N o.dst = true
 kind : Kind P sp L tab st0 o tr r
inductive GoodTr [Globs] (P : Program) (sp : jaa) (N : Nat) (L : List Oper) (tab : List (List Nat)) (st0 : St) : List Rec → Prop where
 | nil : GoodTr P sp N L tab st0 []
 | cons {tr : List Rec} {r : Rec} (h : GoodTr P sp N L tab st0 tr) (o : Oper) (hr : RecOK P sp N L tab st0 tr r o) : GoodTr P sp N L tab st0 (r :: tr)
theorem jfg {t : Bool} {ob k : Prop} (h : obT t ob k) (ht : t = true → ob) : ob ∧ k := by
 cases t
 ·exact ⟨h.1.h, h.2⟩
 ·exact ⟨ht rfl, h⟩
theorem jjS {op : Op} {rd : Operand → Option V} {hp : Hp} {ob : Prop} {v : V} (ht : jcf op rd hp = true) (h : jbL P op rd hp = some (ob, v)) : ob :=
 jiS (sp := fun _ => none) (nx := 0) (r := ⟨ob, v, hp, 0⟩) (P := P) ht (by unfold jbW; rw [h])
theorem jgR {bef : List Nat} {t : Nat} {v : V} : ∀ {tr : List Rec}, jci L bef st0 t tr = some v → jcU L t v tr = tr
 | [], _ => rfl
 | r :: tr, h => by
  simp only [jci] at h
  simp only [jcU]
  cases hd : jb6 L tr.length with
  | none =>
   simp only [hd] at h
   rw [jgR h]
  | some d =>
   simp only [hd] at h ⊢
   split at h
   ·rename_i e
    rw [if_pos e]
    split at h
    ·cases h; rfl
    ·cases h
   ·rename_i e
    rw [if_neg e, jgR h]
theorem jjT {o : Oper} {tr : List Rec} {k : Rec → Prop} (h : dop P sp N L tab st0 o tr k) (hg : jbk L tab st0 o tr true) (hL : L[tr.length]? = some o) : ∃ r, k r ∧ RecOK P sp N L tab st0 tr r o := by
 unfold dop at h
 split at h
 ·exact h.elim
 ·rename_i hd
  split at h
  ·rename_i ob v hs
   split at h
   ·rename_i hok
    obtain ⟨ho, hk⟩ := jfg h (fun ht => jjS ht hs)
    exact ⟨_, hk, hL, hd, .pure hg ob hs ho hok rfl⟩
   ·exact h.elim
  ·split at h
   ·split at h
    ·rename_i hbo
     split at h
     ·rename_i ob v hs
      split at h
      ·rename_i hok
       obtain ⟨ho, hk⟩ := jfg h (fun ht => jjS ht hs)
       exact ⟨_, hk, hL, hd, .built hg hbo ob hs ho hok rfl⟩
      ·exact h.elim
     ·exact h.elim
    ·exact h.elim
   ·rename_i hsp
    split at h
    ·rename_i hl
     split at h
     ·exact h.elim
     ·rename_i x hx
      split at h
      ·exact h.elim
      ·rename_i xo hf
       split at h
       ·exact h.elim
       ·rename_i hbs
        split at h
        ·exact h.elim
        ·rename_i ob v hs
         split at h
         ·rename_i hok
          obtain ⟨ho, hk⟩ := jfg h (fun ht => jjS ht hs)
          simp only [Bool.and_eq_true] at hbs
          exact ⟨_, hk, hL, hd, .load hg hsp hl x xo hx hf hbs.1 hbs.2 ob hs ho hok rfl⟩
         ·exact h.elim
    ·rename_i hl
     split at h
     ·rename_i hm
      split at h
      ·rename_i res hs
       split at h
       ·rename_i hok
        obtain ⟨ho, hk⟩ := jfg h (fun ht => jiS ht hs)
        exact ⟨_, hk, hL, hd, .mono hg hsp hl hm res hs ho hok rfl⟩
       ·exact h.elim
      ·exact h.elim
     ·split at h
      ·exact h.elim
      ·rename_i hf
       split at h
       ·rename_i res hs
        split at h
        ·rename_i hok
         obtain ⟨ho, hk⟩ := jfg h (fun ht => jiS ht hs)
         exact ⟨_, hk, hL, hd, .effect hg hsp hl hf res hs ho hok rfl⟩
        ·exact h.elim
       ·exact h.elim
theorem jgS {o : Oper} {tr : List Rec} {k : Rec → Prop} (h : jkO N st0 o tr k) (hg : jbk L tab st0 o tr false) (hL : L[tr.length]? = some o) : ∃ r, k r ∧ RecOK P sp N L tab st0 tr r o := by
 unfold jkO at h
 split at h
 ·exact h.elim
 ·rename_i hd
  exact ⟨_, h, hL, hd, .skip hg rfl⟩
theorem jma : ∀ (rest : List Oper) (tr : List Rec) (k : List Rec → Prop), jf0 P sp N L tab st0 rest tr k → GoodTr P sp N L tab st0 tr → L = L.take tr.length ++ rest → tr.length + rest.length = L.length →
  ∃ T, k T ∧ GoodTr P sp N L tab st0 T ∧ T.length = L.length
 | [], tr, k, h, hg, _, hlen => ⟨tr, h, hg, by simpa using hlen⟩
 | o :: rest, tr, k, h, hg, hL, hlen => by
  have hlt : tr.length < L.length := by simp at hlen; omega
  have ho : L[tr.length]? = some o := by
   rw [hL, List.getElem?_append_right (by simp; omega)]
   simp [Nat.min_eq_left (Nat.le_of_lt hlt)]
  have next : ∀ r, jf0 P sp N L tab st0 rest (r :: tr) k → RecOK P sp N L tab st0 tr r o → ∃ T, k T ∧ GoodTr P sp N L tab st0 T ∧ T.length = L.length := by
   intro r hr hok
   refine jma rest (r :: tr) k hr (.cons hg o hok) ?_ (by simp at hlen ⊢; omega)
   have h1 : L.take (tr.length + 1) = L.take tr.length ++ [o] := by
    rw [List.take_succ_eq_append_getElem hlt]
    congr 2
    have := List.getElem?_eq_getElem hlt
    rw [this] at ho
    exact Option.some.inj ho
   simp only [List.length_cons, h1, List.append_assoc, List.singleton_append]
   exact hL
  unfold jf0 at h
  split at h
  ·rename_i hgd
   obtain ⟨r, hk, hok⟩ := jjT h (by unfold jbk; rw [hgd]) ho
   exact next r hk hok
  ·rename_i g want hgd
   split at h
   ·exact h.elim
   ·rename_i t hdt
    split at h
    ·rename_i b hsl
     have hset : ∀ c, b = c → jcU L t (vb c) tr = tr := fun c e => jgR (by rw [hsl, e]; rfl)
     have says : ∀ c d, b = c → (c == want) = d → jbk L tab st0 o tr d := fun c d e e2 => by
      unfold jbk
      rw [hgd]
      exact ⟨t, _, hdt, hsl, .inl ⟨b, rfl, by rw [e]; exact e2⟩⟩
     cases b <;> cases want <;> simp only [Br, hset _ rfl] at h
     ·obtain ⟨r, hk, hok⟩ := jjT h (says false true rfl rfl) ho
      exact next r hk hok
     ·obtain ⟨r, hk, hok⟩ := jgS (P := P) (sp := sp) h (says false false rfl rfl) ho
      exact next r hk hok
     ·obtain ⟨r, hk, hok⟩ := jgS (P := P) (sp := sp) h (says true false rfl rfl) ho
      exact next r hk hok
     ·obtain ⟨r, hk, hok⟩ := jjT h (says true true rfl rfl) ho
      exact next r hk hok
    ·rename_i l hsl
     obtain ⟨r, hk, hok⟩ := jgS (P := P) (sp := sp) h (by unfold jbk; rw [hgd]; exact ⟨t, _, hdt, hsl, .inr ⟨⟨l, rfl⟩, rfl⟩⟩) ho
     exact next r hk hok
    ·exact h.elim
def jbw (L : List Oper) (D : Nat → Bool) (st0 : St) (t : Nat) : List Rec → Option V
 | [] => ja4 st0.tm t
 | r :: tr => if jb6 L tr.length = some t ∧ D tr.length = true then some r.v else jbw L D st0 t tr
def jaD (D : Nat → Bool) (st0 : St) : List Rec → Hp
 | [] => st0.hp
 | r :: tr => if D tr.length = true then (if r.kd = 2 then r.hp else r.nw ++ jaD D st0 tr) else jaD D st0 tr
theorem jaA {a b : Hp} {h : Nat} : find (a ++ b) h = (find a h).or (find b h) := by
 induction a with
 | nil => rfl
 | cons p r ih =>
  obtain ⟨k, o⟩ := p
  simp only [List.cons_append, find]
  split
  ·rfl
  ·exact ih
theorem jf1 {hp : Hp} {p : Nat → Bool} {h : Nat} : find (hp.filter fun x => p x.1) h = if p h = true then find hp h else none := by
 induction hp with
 | nil => simp [find]
 | cons x r ih =>
  obtain ⟨k, o⟩ := x
  simp only [List.filter_cons, find]
  by_cases hk : p k = true
  ·rw [if_pos hk]
   simp only [find]
   by_cases e : k = h
   ·subst e; simp [hk]
   ·rw [if_neg e, if_neg e]; exact ih
  ·rw [if_neg hk]
   by_cases e : k = h
   ·subst e; rw [ih]; simp [hk]
   ·rw [if_neg e]; exact ih
end
end Go.Sx
end

section
open Go.RowKit
namespace Go.Sx
theorem C.val_eqB {p : Nat → Bool} {ρ ρ' : Env} (hρ : ∀ h, p h = true → ρ' h = ρ h) : ∀ {x : C}, x.allB p = true → x.val ρ' = x.val ρ
 | .d _, _ => rfl
 | .p h _ _ _, hx => by have hx : p h = true := hx; simp only [C.val, hρ h hx]
 | .o h, hx => hρ h hx
 | .fn _ hs, hx => by
  simp only [C.val]
  congr 2
  exact List.map_congr_left fun a ha => hρ a (List.all_eq_true.1 hx a ha)
 | .g _ _ _ _, _ => rfl
 | .fb _ hs, hx => by
  simp only [C.val]
  congr 2
  exact List.map_congr_left fun a ha => hρ a (List.all_eq_true.1 hx a ha)
theorem W.val_eqB {p : Nat → Bool} {ρ ρ' : Env} (hρ : ∀ h, p h = true → ρ' h = ρ h) : ∀ {x : W}, x.allB p = true → x.val ρ' = x.val ρ
 | .c _, hx => C.val_eqB hρ hx
 | .a l, hx => by
  simp only [W.val]
  congr 2
  exact List.map_congr_left fun a ha => C.val_eqB hρ (List.all_eq_true.1 hx a ha)
 | .b _ _ _, _ => rfl
theorem V.val_eqB {p : Nat → Bool} {ρ ρ' : Env} (hρ : ∀ h, p h = true → ρ' h = ρ h) : ∀ {x : V}, x.allB p = true → x.val ρ' = x.val ρ
 | .w _, hx => W.val_eqB hρ hx
 | .t l, hx => by
  simp only [V.val]
  congr 2
  exact List.map_congr_left fun a ha => W.val_eqB hρ (List.all_eq_true.1 hx a ha)
theorem C.allB_mono {p q : Nat → Bool} (h : ∀ x, p x = true → q x = true) : ∀ {x : C}, x.allB p = true → x.allB q = true
 | .d _, _ => rfl
 | .p _ _ _ _, hx => h _ hx
 | .o _, hx => h _ hx
 | .fn _ _, hx => List.all_eq_true.2 fun a ha => h a (List.all_eq_true.1 hx a ha)
 | .fb _ _, hx => List.all_eq_true.2 fun a ha => h a (List.all_eq_true.1 hx a ha)
 | .g _ _ _ _, _ => rfl
theorem W.allB_mono {p q : Nat → Bool} (h : ∀ x, p x = true → q x = true) : ∀ {x : W}, x.allB p = true → x.allB q = true
 | .c _, hx => C.allB_mono h hx
 | .a _, hx => List.all_eq_true.2 fun a ha => C.allB_mono h (List.all_eq_true.1 hx a ha)
 | .b _ _ _, _ => rfl
theorem V.allB_mono {p q : Nat → Bool} (h : ∀ x, p x = true → q x = true) : ∀ {x : V}, x.allB p = true → x.allB q = true
 | .w _, hx => W.allB_mono h hx
 | .t _, hx => List.all_eq_true.2 fun a ha => W.allB_mono h (List.all_eq_true.1 hx a ha)
theorem O.allB_mono {p q : Nat → Bool} (h : ∀ x, p x = true → q x = true) : ∀ {x : O}, x.allB p = true → x.allB q = true
 | .box _ _, hx => List.all_eq_true.2 fun a ha => C.allB_mono h (List.all_eq_true.1 hx a ha)
 | .view _ _ _, hx => h _ hx
 | .row _ _, _ => rfl
 | .ext _, _ => rfl
 | .dead, _ => rfl
 | .nan _, _ => rfl
 | .err, _ => rfl
 | .atom, _ => rfl
 | .ebox _, hx => List.all_eq_true.2 fun a ha => C.allB_mono h (List.all_eq_true.1 hx a ha)
 | .arr _ _ _ _, _ => rfl
 | .xext _, _ => rfl
 | .map _, _ => rfl
 | .rrow _, _ => rfl
theorem C.lt_of_allB {n : Nat} {p : Nat → Bool} (h : ∀ x, p x = true → x < n) : ∀ {x : C}, x.allB p = true → x.lt n
 | .d _, _ => trivial
 | .p _ _ _ _, hx => h _ hx
 | .o _, hx => h _ hx
 | .fn _ _, hx => fun a ha => h a (List.all_eq_true.1 hx a ha)
 | .fb _ _, hx => fun a ha => h a (List.all_eq_true.1 hx a ha)
 | .g _ _ _ _, _ => trivial
theorem W.lt_of_allB {n : Nat} {p : Nat → Bool} (h : ∀ x, p x = true → x < n) : ∀ {x : W}, x.allB p = true → x.lt n
 | .c _, hx => C.lt_of_allB h hx
 | .a _, hx => fun a ha => C.lt_of_allB h (List.all_eq_true.1 hx a ha)
 | .b _ _ _, _ => trivial
theorem V.lt_of_allB {n : Nat} {p : Nat → Bool} (h : ∀ x, p x = true → x < n) : ∀ {x : V}, x.allB p = true → x.lt n
 | .w _, hx => W.lt_of_allB h hx
 | .t _, hx => fun a ha => W.lt_of_allB h (List.all_eq_true.1 hx a ha)
theorem O.lt_of_allB {n : Nat} {p : Nat → Bool} (h : ∀ x, p x = true → x < n) : ∀ {x : O}, x.allB p = true → x.lt n
 | .box _ _, hx => fun a ha => C.lt_of_allB h (List.all_eq_true.1 hx a ha)
 | .view _ _ _, hx => h _ hx
 | .row _ _, _ => trivial
 | .ext _, _ => trivial
 | .dead, _ => trivial
 | .nan _, _ => trivial
 | .err, _ => trivial
 | .atom, _ => trivial
 | .ebox _, hx => fun a ha => C.lt_of_allB h (List.all_eq_true.1 hx a ha)
 | .arr _ _ _ _, _ => trivial
 | .xext _, _ => trivial
 | .map _, _ => trivial
 | .rrow _, _ => trivial
theorem C.allB_of_lt {n : Nat} {p : Nat → Bool} (h : ∀ x, x < n → p x = true) : ∀ {x : C}, x.lt n → x.allB p = true
 | .d _, _ => rfl
 | .p _ _ _ _, hx => h _ hx
 | .o _, hx => h _ hx
 | .fn _ _, hx => List.all_eq_true.2 fun a ha => h a (hx a ha)
 | .fb _ _, hx => List.all_eq_true.2 fun a ha => h a (hx a ha)
 | .g _ _ _ _, _ => rfl
theorem W.allB_of_lt {n : Nat} {p : Nat → Bool} (h : ∀ x, x < n → p x = true) : ∀ {x : W}, x.lt n → x.allB p = true
 | .c _, hx => C.allB_of_lt h hx
 | .a _, hx => List.all_eq_true.2 fun a ha => C.allB_of_lt h (hx a ha)
 | .b _ _ _, _ => rfl
theorem V.allB_of_lt {n : Nat} {p : Nat → Bool} (h : ∀ x, x < n → p x = true) : ∀ {x : V}, x.lt n → x.allB p = true
 | .w _, hx => W.allB_of_lt h hx
 | .t _, hx => List.all_eq_true.2 fun a ha => W.allB_of_lt h (hx a ha)
theorem O.allB_of_lt {n : Nat} {p : Nat → Bool} (h : ∀ x, x < n → p x = true) : ∀ {x : O}, x.lt n → x.allB p = true
 | .box _ _, hx => List.all_eq_true.2 fun a ha => C.allB_of_lt h (hx a ha)
 | .view _ _ _, hx => h _ hx
 | .row _ _, _ => rfl
 | .ext _, _ => rfl
 | .dead, _ => rfl
 | .nan _, _ => rfl
 | .err, _ => rfl
 | .atom, _ => rfl
 | .ebox _, hx => List.all_eq_true.2 fun a ha => C.allB_of_lt h (hx a ha)
 | .arr _ _ _ _, _ => rfl
 | .xext _, _ => rfl
 | .map _, _ => rfl
 | .rrow _, _ => rfl
section
variable [Globs] {P : Program} {sp : jaa} {B : Bd} {N n0 : Nat} {L : List Oper} {tab : List (List Nat)} {st0 : St} {ρ0 : Env} {w0 : World} {ds : List Deferred}
theorem RecOK.nx_le {tr : List Rec} {r : Rec} {o : Oper} (h : RecOK P sp N L tab st0 tr r o) : jad st0 tr ≤ r.nx := by
 cases h.kind with
 | skip g e => rw [e]; exact Nat.le_refl _
 | pure g ob hs ho hk e => rw [e]; exact Nat.le_refl _
 | built g hb ob hs ho hk e => rw [e]; exact Nat.le_refl _
 | load g hp hl x xo hx hf hb hst ob hs ho hk e => rw [e]; exact Nat.le_refl _
 | mono g hp hl hm res hs ho hk e =>
  simp only [jbA, Bool.and_eq_true, Nat.ble_eq] at hk
  rw [e]; exact hk.1.1
 | effect g hp hl hf res hs ho hk e =>
  simp only [jbA, Bool.and_eq_true, Nat.ble_eq] at hk
  rw [e]; exact hk.1.1
theorem GoodTr.tail {later tr : List Rec} (h : GoodTr P sp N L tab st0 (later ++ tr)) : GoodTr P sp N L tab st0 tr := by
 induction later with
 | nil => exact h
 | cons r l ih => cases h with | cons h' o hr => exact ih h'
theorem jdi {later tr : List Rec} (h : GoodTr P sp N L tab st0 (later ++ tr)) : jad st0 tr ≤ jad st0 (later ++ tr) := by
 induction later with
 | nil => exact Nat.le_refl _
 | cons r l ih => cases h with | cons h' o hr => exact Nat.le_trans (ih h') hr.nx_le
theorem jiU {tr : List Rec} (h : GoodTr P sp N L tab st0 tr) : st0.nx ≤ jad st0 tr := by
 have := jdi (later := tr) (tr := []) (by rw [List.append_nil]; exact h)
 rw [List.append_nil] at this
 exact this
theorem jtL {T : List Rec} (h : GoodTr P sp N L tab st0 T) {i : Nat} (hi : i < T.length) : ∃ later r tr o, T = later ++ r :: tr ∧ tr.length = i ∧ RecOK P sp N L tab st0 tr r o := by
 induction h with
 | nil => simp at hi
 | @cons tr r h o hr ih =>
  by_cases he : i = tr.length
  ·exact ⟨[], r, tr, o, rfl, he.symm, hr⟩
  ·obtain ⟨later, r', tr', o', h1, h2, h3⟩ := ih (by simp at hi; omega)
   exact ⟨r :: later, r', tr', o', by simp [h1], h2, h3⟩
theorem jgT {q : Nat → Bool} {later tr : List Rec} {h : Nat} (hg : GoodTr P sp N L tab st0 (later ++ tr)) (hh : h < jad st0 tr) : jau q st0 (later ++ tr) h = jau q st0 tr h := by
 induction later with
 | nil => rfl
 | cons r l ih =>
  cases hg with
  | cons h' o hr =>
   have h1 := jdi h'
   simp only [List.cons_append, jau]
   have : Nat.ble (jad st0 (l ++ tr)) h = false := by
    rw [Bool.eq_false_iff]
    intro hc
    rw [Nat.ble_eq] at hc
    omega
   rw [this]
   exact ih h'
theorem jpd {q : Nat → Bool} {later tr : List Rec} {r : Rec} {h : Nat} (hg : GoodTr P sp N L tab st0 (later ++ r :: tr)) (h1 : jad st0 tr ≤ h) (h2 : h < r.nx) : jau q st0 (later ++ r :: tr) h = q tr.length := by
 rw [jgT hg (show h < jad st0 (r :: tr) from h2)]
 simp only [jau]
 have : Nat.ble (jad st0 tr) h = true := by rw [Nat.ble_eq]; exact h1
 rw [this]
theorem jhy {later tr : List Rec} {h : Nat} (hg : GoodTr P sp N L tab st0 (later ++ tr)) (hh : h < jad st0 tr) : jbD st0 (later ++ tr) h = jbD st0 tr h := by
 induction later with
 | nil => rfl
 | cons r l ih =>
  cases hg with
  | cons h' o hr =>
   have h1 := jdi h'
   simp only [List.cons_append, jbD]
   have : Nat.ble (jad st0 (l ++ tr)) h = false := by
    rw [Bool.eq_false_iff]
    intro hc
    rw [Nat.ble_eq] at hc
    omega
   rw [this]
   exact ih h'
theorem jpI {later tr : List Rec} {r : Rec} {h : Nat} (hg : GoodTr P sp N L tab st0 (later ++ r :: tr)) (h1 : jad st0 tr ≤ h) (h2 : h < r.nx) : jbD st0 (later ++ r :: tr) h = C.one r.hp (.o h) := by
 rw [jhy hg (show h < jad st0 (r :: tr) from h2)]
 simp only [jbD]
 have : Nat.ble (jad st0 tr) h = true := by rw [Nat.ble_eq]; exact h1
 rw [this]
theorem jh6 {h : Nat} (hh : h < st0.nx) : ∀ {tr : List Rec}, GoodTr P sp N L tab st0 tr → jbD st0 tr h = C.one st0.hp (.o h)
 | [], _ => rfl
 | r :: tr, hg => by
  cases hg with
  | cons h' o hr =>
   have := jiU h'
   simp only [jbD]
   have e : Nat.ble (jad st0 tr) h = false := by
    rw [Bool.eq_false_iff]
    intro hc
    rw [Nat.ble_eq] at hc
    omega
   rw [e]
   exact jh6 hh h'
theorem jkQ {q q' : Nat → Bool} {x : Nat} : ∀ {tr : List Rec}, (∀ j, j < tr.length → q' j = q j) → jau q' st0 tr x = jau q st0 tr x
 | [], _ => rfl
 | r :: tr, hq => by
  simp only [jau]
  split
  ·exact hq _ (by simp)
  ·exact jkQ fun j hj => hq j (by simp; omega)
theorem jrW {q q' : Nat → Bool} {later tr : List Rec} {r : Rec} {x : Nat} (hq : ∀ j, j ≠ tr.length → q' j = q j) (hx : ¬ (jad st0 tr ≤ x ∧ x < r.nx)) (hg : GoodTr P sp N L tab st0 (later ++ r :: tr)) (hlt : x < jad st0 (later ++ r :: tr)) :
  jau q' st0 (later ++ r :: tr) x = jau q st0 (later ++ r :: tr) x := by
 induction later with
 | nil =>
  have hlt : x < r.nx := hlt
  have h1 : ¬ jad st0 tr ≤ x := fun h => hx ⟨h, hlt⟩
  have e : Nat.ble (jad st0 tr) x = false := by
   rw [Bool.eq_false_iff]; intro hc; rw [Nat.ble_eq] at hc; exact h1 hc
  simp only [List.nil_append, jau, e]
  exact jkQ fun j hj => hq j (by omega)
 | cons r' l ih =>
  cases hg with
  | cons h' o hr =>
   simp only [List.cons_append, jau]
   split
   ·exact hq _ (by simp; omega)
   ·rename_i hb
    refine ih h' ?_
    have : ¬ jad st0 (l ++ r :: tr) ≤ x := fun hc => by rw [Nat.ble_eq_true_of_le hc] at hb; cases hb
    omega
theorem jes {q q' : Nat → Bool} (hq : ∀ j, q j = true → q' j = true) : ∀ (tr : List Rec) (h : Nat), jau q st0 tr h = true → jau q' st0 tr h = true
 | [], _, _ => rfl
 | r :: tr, h, hb => by
  simp only [jau] at hb ⊢
  split at hb
  ·exact hq _ hb
  ·exact jes hq tr h hb
theorem jmb {q : Nat → Bool} {h : Nat} (hh : h < st0.nx) : ∀ {tr : List Rec}, GoodTr P sp N L tab st0 tr → jau q st0 tr h = true
 | [], _ => rfl
 | r :: tr, hg => by
  cases hg with
  | cons h' o hr =>
   have := jiU h'
   simp only [jau]
   have e : Nat.ble (jad st0 tr) h = false := by
    rw [Bool.eq_false_iff]
    intro hc
    rw [Nat.ble_eq] at hc
    omega
   rw [e]
   exact jmb hh h'
theorem jfh {bef : List Nat} {D : Nat → Bool} {t : Nat} (hb : ∀ j, j ∈ bef → D j = true) : ∀ {tr : List Rec} {v : V}, jci L bef st0 t tr = some v → jbw L D st0 t tr = some v
 | [], _, h => h
 | r :: tr, v, h => by
  simp only [jci] at h
  simp only [jbw]
  cases hd : jb6 L tr.length with
  | none =>
   simp only [hd] at h
   rw [if_neg (by simp)]
   exact jfh hb h
  | some d =>
   simp only [hd] at h
   split at h
   ·rename_i e
    subst e
    split at h
    ·rename_i hc
     rw [if_pos ⟨rfl, hb _ (by simpa using hc)⟩]
     exact h
    ·cases h
   ·rename_i e
    rw [if_neg (by simp [e])]
    exact jfh hb h
theorem jf2 {D : Nat → Bool} {t : Nat} {tr : List Rec} : ∀ {later : List Rec}, (∀ j, tr.length ≤ j → jb6 L j = some t → D j = false) → jbw L D st0 t (later ++ tr) = jbw L D st0 t tr
 | [], _ => rfl
 | r :: l, h => by
  simp only [List.cons_append, jbw]
  rw [if_neg (fun ⟨h1, h2⟩ => by rw [h _ (by simp) h1] at h2; cases h2)]
  exact jf2 h
theorem jjz {D D' : Nat → Bool} {t : Nat} : ∀ {tr : List Rec}, (∀ j, j < tr.length → D' j = D j) → jbw L D' st0 t tr = jbw L D st0 t tr
 | [], _ => rfl
 | r :: tr, h => by
  simp only [jbw]
  rw [h tr.length (by simp), jjz (fun j hj => h j (by simp; omega))]
theorem jf3 {D D' : Nat → Bool} : ∀ {tr : List Rec}, (∀ j, j < tr.length → D' j = D j) → jaD D' st0 tr = jaD D st0 tr
 | [], _ => rfl
 | r :: tr, h => by
  simp only [jaD]
  rw [h tr.length (by simp), jf3 (fun j hj => h j (by simp; omega))]
theorem jfH {j t : Nat} : ∀ {l : List Oper} {i : Nat}, jeW L tab j t i l = true → ∀ m o, l[m]? = some o → i + m < j → t ∈ jaI L o → (i + m) ∈ tab.getD j []
 | [], _, _, _, _, h, _, _ => by simp at h
 | o' :: r, i, hs, m, o, h, hlt, ht => by
  simp only [jeW, Bool.and_eq_true] at hs
  cases m with
  | zero =>
   simp at h
   subst h
   have h1 := hs.1
   have hb : Nat.blt i j = true := by rw [Nat.blt_eq]; omega
   have hc : (jaI L o').contains t = true := by simpa using ht
   rw [hb, hc] at h1
   simpa using h1
  | succ m =>
   have := jfH hs.2 m o (by simpa using h) (by omega) ht
   rw [show i + (m + 1) = i + 1 + m by omega]
   exact this
theorem jh7 : ∀ {l : List Oper} {j : Nat}, jcj L tab j l = true → ∀ m o t, l[m]? = some o → o.dst = some t → ∀ i o', L[i]? = some o' → i < j + m → t ∈ jaI L o' → i ∈ tab.getD (j + m) []
 | [], _, _, _, _, _, h, _, _, _, _, _, _ => by simp at h
 | o0 :: r, j, hs, m, o, t, h, hd, i, o', ho', hlt, ht => by
  simp only [jcj, Bool.and_eq_true] at hs
  cases m with
  | zero =>
   simp at h
   subst h
   have h1 := hs.1
   rw [hd] at h1
   have := jfH h1 i o' ho' (by simpa using hlt) ht
   simpa using this
  | succ m =>
   have := jh7 hs.2 m o t (by simpa using h) hd i o' ho' (by omega) ht
   rw [show j + (m + 1) = j + 1 + m by omega]
   exact this
theorem jh8 {D : Nat → Bool} {i t : Nat} {o : Oper} (hs : jcj L tab 0 L = true) (ht : jcg L tab) (hc : jb5 L D) (hi : D i = false) (ho : L[i]? = some o) (hn : t ∈ jaI L o) :
  ∀ j, i < j → jb6 L j = some t → D j = false := by
 intro j hij hd
 rw [Bool.eq_false_iff]
 intro hD
 unfold jb6 at hd
 cases hj : L[j]? with
 | none => simp [hj] at hd
 | some oj =>
  simp only [hj, Option.bind_some] at hd
  have h1 := jh7 hs j oj t (by simpa using hj) hd i o ho (by omega) hn
  rw [Nat.zero_add] at h1
  have := jd5 ht hc j i (fun o' ho' e he hb => hc j o' ho' hD e he hb) h1
  rw [this] at hi
  cases hi
theorem jmc {D : Nat → Bool} {later tr : List Rec} {r : Rec} {o : Oper} {t : Nat} {v : V} (hs : jcj L tab 0 L = true) (ht : jcg L tab) (hc : jb5 L D) (hi : D tr.length = false) (ho : L[tr.length]? = some o) (hn : t ∈ jaI L o)
  (hb : ∀ j, j ∈ tab.getD tr.length [] → D j = true) (h : jci L (tab.getD tr.length []) st0 t tr = some v) : jbw L D st0 t (later ++ r :: tr) = some v := by
 rw [show later ++ r :: tr = (later ++ [r]) ++ tr by simp, jf2]
 ·exact jfh hb h
 ·intro j hj hd
  by_cases he : j = tr.length
  ·rw [he]; exact hi
  ·exact jh8 hs ht hc hi ho hn j (by omega) hd
def ja3 (st0 : St) (T : List Rec) (D : Nat → Bool) (h : Nat) : Bool := Nat.blt h (jad st0 T) && jau D st0 T h
structure Inv [Globs] (ds : List Deferred) (L : List Oper) (st0 : St) (B : Bd) (N n0 : Nat) (ρ0 : Env) (w0 : World) (T : List Rec) (D : Nat → Bool) (a : Act) (w : World) (ρ : Env) : Prop where
 tm : ∀ t v, jbw L D st0 t T = some v → v.allB (ja3 st0 T D) = true ∧ a.tmps.getD t undef = v.val ρ
 size : a.tmps.size = N
 defers : a.defers = ds
 heap : HRel ρ B (jaD D st0 T) (jad st0 T) w
 hal : ∀ h o, find (jaD D st0 T) h = some o → ja3 st0 T D h = true ∧ o.allB (ja3 st0 T D) = true
 le : Old B w
 agree : jai n0 ρ0 ρ
 below : Bel B w0 w
 one : ∀ h, ja3 st0 T D h = true → jbD st0 T h = true → (ρ h).oneCell' = true
theorem jdu {D : Nat → Bool} {later tr : List Rec} {r : Rec} {o : Oper} {a : Act} {w : World} {ρ : Env} {b : Bool} (hs : jcj L tab 0 L = true) (ht : jcg L tab) (hc : jb5 L D) (hi : D tr.length = false) (ho : L[tr.length]? = some o)
  (hb : ∀ j, j ∈ tab.getD tr.length [] → D j = true) (hinv : Inv ds L st0 B N n0 ρ0 w0 (later ++ r :: tr) D a w ρ) (hg : jbk L tab st0 o tr b) : Region.wanted o (yielded L.toArray a.tmps) = b := by
 unfold jbk at hg
 unfold Region.wanted
 cases hgd : o.guard with
 | none => rw [hgd] at hg; exact hg.symm
 | some p =>
  obtain ⟨g, want⟩ := p
  rw [hgd] at hg
  obtain ⟨t, v, hdt, hsl, hor⟩ := hg
  have hn : t ∈ jaI L o := by simp [jaI, hgd, hdt]
  have hsd := jmc (later := later) (r := r) hs ht hc hi ho hn hb hsl
  have h1 := (hinv.tm t v hsd).2
  have hy : yielded L.toArray a.tmps g = (match v.val ρ with | .bool b => some b | _ => none) := by
   unfold yielded
   have hd2 : ((L.toArray[g]?).bind (·.dst)) = some t := by simpa [jb6] using hdt
   rw [hd2]
   simp only [Option.bind_some]
   rw [← h1]
   by_cases hlt : t < a.tmps.size
   ·simp only [Array.getD_eq_getD_getElem?, Array.getElem?_eq_getElem hlt, Option.getD_some]
    cases a.tmps[t] <;> rfl
   ·simp [hlt, undef]
  dsimp only
  rw [hy]
  rcases hor with ⟨c, rfl, hcw⟩ | ⟨⟨l, rfl⟩, rfl⟩
  ·simpa using hcw
  ·rfl
theorem jlG {D D' : Nat → Bool} {later tr : List Rec} {r : Rec} {o : Oper} {a : Act} {w : World} {ρ ρ' : Env} (hs : jcj L tab 0 L = true) (ht : jcg L tab) (hc : jb5 L D) (hi : D tr.length = false) (ho : L[tr.length]? = some o)
  (hok : jc7 N o.dst = true) (hD1 : D' tr.length = true) (hD2 : ∀ j, j ≠ tr.length → D' j = D j) (hinv : Inv ds L st0 B N n0 ρ0 w0 (later ++ r :: tr) D a w ρ)
  (hρ : ∀ h, ja3 st0 (later ++ r :: tr) D h = true → ρ' h = ρ h) (hv : r.v.allB (ja3 st0 (later ++ r :: tr) D') = true) :
  ∀ t v, jbw L D' st0 t (later ++ r :: tr) = some v → v.allB (ja3 st0 (later ++ r :: tr) D') = true ∧ (a.put o.dst (r.v.val ρ')).tmps.getD t undef = v.val ρ' := by
 intro t v hsl
 have hdl : ∀ x, o.dst = some x → x < a.tmps.size := fun x hx => by rw [hinv.size]; exact jnu hok x hx
 rw [jcz hdl]
 have hdst : jb6 L tr.length = o.dst := by simp [jb6, ho]
 have hal : ∀ h, ja3 st0 (later ++ r :: tr) D h = true → ja3 st0 (later ++ r :: tr) D' h = true := by
  intro h hh
  simp only [ja3, Bool.and_eq_true] at hh ⊢
  refine ⟨hh.1, jes (fun j hj => ?_) _ _ hh.2⟩
  by_cases he : j = tr.length
  ·rw [he]; exact hD1
  ·rw [hD2 j he]; exact hj
 by_cases hdt : o.dst = some t
 ·rw [if_pos hdt]
  have hn : t ∈ jaI L o := by simp [jaI, hdt]
  have hlat : jbw L D' st0 t (later ++ r :: tr) = jbw L D' st0 t (r :: tr) := by
   apply jf2
   intro j hj hd
   simp at hj
   rw [hD2 j (by omega)]
   exact jh8 hs ht hc hi ho hn j (by omega) hd
  rw [hlat] at hsl
  simp only [jbw] at hsl
  rw [if_pos ⟨by rw [hdst]; exact hdt, hD1⟩] at hsl
  cases hsl
  exact ⟨hv, rfl⟩
 ·rw [if_neg hdt]
  have hsame : jbw L D' st0 t (later ++ r :: tr) = jbw L D st0 t (later ++ r :: tr) := by
   clear hsl hinv hρ hv hal
   induction later with
   | nil =>
    simp only [List.nil_append, jbw]
    rw [if_neg (fun h => hdt (by rw [← hdst]; exact h.1)), if_neg (fun h => hdt (by rw [← hdst]; exact h.1))]
    exact jjz fun j hj => hD2 j (by omega)
   | cons x l ih =>
    simp only [List.cons_append, jbw]
    rw [hD2 _ (by simp; omega), ih]
  rw [hsame] at hsl
  have h1 := hinv.tm t v hsl
  refine ⟨V.allB_mono hal h1.1, ?_⟩
  rw [h1.2]
  exact (V.val_eqB hρ h1.1).symm
theorem jrX {D : Nat → Bool} {later tr : List Rec} {r : Rec} {o : Oper} {a : Act} {w : World} {ρ : Env} (hg : GoodTr P sp N L tab st0 (later ++ r :: tr)) (hs : jcj L tab 0 L = true) (ht : jcg L tab) (hc : jb5 L D) (hi : D tr.length = false) (ho : L[tr.length]? = some o)
  (hb : ∀ j, j ∈ tab.getD tr.length [] → D j = true) (hbase : ∀ t v, ja4 st0.tm t = some v → v.lt st0.nx) (hinv : Inv ds L st0 B N n0 ρ0 w0 (later ++ r :: tr) D a w ρ) :
  jaR ρ (jad st0 tr) (jbz L (jaI L o) (tab.getD tr.length []) st0 tr) a := by
 have hgt : GoodTr P sp N L tab st0 tr := GoodTr.tail (later := later ++ [r]) (by simpa using hg)
 have slot_lt : ∀ (tr : List Rec), GoodTr P sp N L tab st0 tr → ∀ bef t v, jci L bef st0 t tr = some v → v.lt (jad st0 tr) := by
  intro tr hg
  induction hg with
  | nil => exact fun bef t v h => hbase t v h
  | @cons tr r h o hr ih =>
   intro bef t v hsl
   simp only [jci] at hsl
   have down : jci L bef st0 t tr = some v → v.lt r.nx := fun h' => V.lt_mono hr.nx_le (ih bef t v h')
   cases hd : jb6 L tr.length with
   | none => simp only [hd] at hsl; exact down hsl
   | some d =>
    simp only [hd] at hsl
    split at hsl
    ·split at hsl
     ·cases hsl
      show V.lt r.nx r.v
      cases hr.kind with
      | skip g e => rw [e]; trivial
      | pure g ob hs ho hk e =>
       simp only [jbA, Bool.and_eq_true] at hk
       rw [e]
       exact V.lt_of_allB (fun x hx => by simp only [Bool.and_eq_true, Nat.blt_eq] at hx; exact hx.1) hk.1.2
      | built g hb ob hs ho hk e =>
       simp only [jbA, Bool.and_eq_true] at hk
       rw [e]
       exact V.lt_of_allB (fun x hx => by simp only [Bool.and_eq_true, Nat.blt_eq] at hx; exact hx.1) hk.1.2
      | load g hp hl x xo hx hf hb hst ob hs ho hk e =>
       simp only [jbA, Bool.and_eq_true] at hk
       rw [e]
       exact V.lt_of_allB (fun x hx => by simp only [Bool.and_eq_true, Nat.blt_eq] at hx; exact hx.1) hk.1.2
      | mono g hp hl hm res hs ho hk e =>
       simp only [jbA, Bool.and_eq_true] at hk
       rw [e]
       exact V.lt_of_allB (fun x hx => by simp only [Bool.and_eq_true, Nat.blt_eq] at hx; exact hx.1) hk.1.2
      | effect g hp hl hf res hs ho hk e =>
       simp only [jbA, Bool.and_eq_true] at hk
       rw [e]
       exact V.lt_of_allB (fun x hx => by simp only [Bool.and_eq_true, Nat.blt_eq] at hx; exact hx.1) hk.1.2
     ·cases hsl
    ·exact down hsl
 intro x u hx
 cases x with
 | tmp t =>
  simp only [jbz] at hx
  split at hx
  ·rename_i hcn
   have hn : t ∈ jaI L o := by simpa using hcn
   exact ⟨slot_lt tr hgt _ t u hx, (hinv.tm t u (jmc hs ht hc hi ho hn hb hx)).2⟩
  ·cases hx
 | const v =>
  simp only [jbz, jdh, Option.some.injEq] at hx
  subst hx
  exact ⟨jgD _ v, (jfS ρ v).symm⟩
 | global g =>
  simp only [jbz, jdh] at hx
  split at hx
  ·cases hx
   exact ⟨trivial, by simp [V.val, W.val, C.val, Act.eval]⟩
  ·cases hx
   exact ⟨trivial, rfl⟩
 | func f =>
  simp only [jbz, jdh, Option.some.injEq] at hx
  subst hx
  exact ⟨(fun _ hh => by cases hh), by simp [V.val, W.val, C.val, Act.eval]⟩
end
end Go.Sx
end

section
open Go.RowKit
namespace Go.Sx
section
variable [Globs] {P : Program} {sp : jaa} {B : Bd} {N n0 : Nat} {L : List Oper} {tab : List (List Nat)} {st0 : St} {ρ0 : Env} {w0 : World} {ds : List Deferred}
theorem jbO {i : Nat} {lf : Bool} : ∀ {l : List Oper} {k : Nat}, jcT tab i lf k l = true → ∀ m o, l[m]? = some o → k + m = i ∨ jaB o.op = true ∨ (k + m) ∈ tab.getD i [] ∨ i ∈ tab.getD (k + m) [] ∨ (lf = true ∧ jaK o.op = true)
 | [], _, _, _, _, h => by simp at h
 | o' :: r, k, hs, m, o, h => by
  simp only [jcT, Bool.and_eq_true, Bool.or_eq_true] at hs
  cases m with
  | zero =>
   simp at h
   subst h
   rcases hs.1 with (((h1 | h1) | h1) | h1) | h1
   ·exact .inl (by simpa using Nat.eq_of_beq_eq_true h1)
   ·exact .inr (.inl h1)
   ·exact .inr (.inr (.inl (by simpa using h1)))
   ·exact .inr (.inr (.inr (.inl (by simpa using h1))))
   ·exact .inr (.inr (.inr (.inr h1)))
  | succ m =>
   have := jbO hs.2 m o (by simpa using h)
   rw [show k + (m + 1) = k + 1 + m by omega]
   exact this
theorem jgU : ∀ {l : List Oper} {k : Nat}, jdt k l = true → ∀ m o, l[m]? = some o → ∀ e ∈ o.after.toList, Region.binds .any e = true → e.on < k + m
 | [], _, _, _, _, h => by simp at h
 | o' :: r, k, hs, m, o, h => by
  simp only [jdt, Bool.and_eq_true] at hs
  cases m with
  | zero =>
   simp at h
   subst h
   intro e he hb
   have := List.all_eq_true.1 hs.1 e he
   rw [hb] at this
   simpa using this
  | succ m =>
   have := jgU hs.2 m o (by simpa using h)
   rw [show k + (m + 1) = k + 1 + m by omega]
   exact this
theorem jqO (he : jdt 0 L = true) (ht : jcg L tab) : ∀ (i k : Nat), k ∈ tab.getD i [] → k < i := by
 intro i
 induction i using Nat.strongRecOn with
 | _ i ih =>
  intro k hk
  obtain ⟨o, ho, e, hem, hb, hor⟩ := ht i k hk
  have h1 := jgU he i o ho e hem hb
  rw [Nat.zero_add] at h1
  rcases hor with rfl | ⟨hlt, hk'⟩
  ·exact h1
  ·exact Nat.lt_trans (ih e.on hlt k hk') hlt
def jh9 (st0 : St) : Prop := ∀ h o, find st0.hp h = some o → h < st0.nx ∧ o.lt st0.nx
theorem jkR {bef : List Nat} {tr : List Rec} {v : V} {hp : Hp} {nx : Nat} (hk : jbA bef st0 tr v hp nx = true) {h : Nat} {o : O} (hf : find hp h = some o) :
  h < nx ∧ o.allB (fun h => Nat.blt h nx && (Nat.ble (jad st0 tr) h || jau (fun j => bef.contains j) st0 tr h)) = true := by
 simp only [jbA, Bool.and_eq_true] at hk
 have := List.all_eq_true.1 hk.2 (h, o) (jnx hf)
 simp only [Bool.and_eq_true, Nat.blt_eq] at this
 exact this
theorem jnB {bef : List Nat} {tr : List Rec} {v : V} {hp : Hp} {nx : Nat} (hk : jbA bef st0 tr v hp nx = true) :
  v.allB (fun h => Nat.blt h nx && (Nat.ble (jad st0 tr) h || jau (fun j => bef.contains j) st0 tr h)) = true := by
 simp only [jbA, Bool.and_eq_true] at hk
 exact hk.1.2
theorem jmd {n : Nat} {hp : Hp} {h : Nat} : find (jc5 n hp) h = if Nat.ble n h = true then find hp h else none := jf1 (p := fun k => Nat.ble n k)
theorem keys {tr : List Rec} (hg : GoodTr P sp N L tab st0 tr) (hb : jh9 st0) : ∀ h o, find (jaL st0 tr) h = some o → h < jad st0 tr ∧ o.lt (jad st0 tr) := by
 induction hg with
 | nil => exact hb
 | @cons tr r hgt o hr ih =>
  intro h ob hf
  show h < r.nx ∧ ob.lt r.nx
  have hf : find r.hp h = some ob := hf
  cases hr.kind with
  | skip g e => rw [e] at hf ⊢; exact ih h ob hf
  | pure g ob' hs ho hk e => rw [e] at hf ⊢; exact ih h ob hf
  | built g hb0 ob' hs ho hk e => rw [e] at hf ⊢; exact ih h ob hf
  | load g hp hl x xo hx hf0 hb0 hst ob' hs ho hk e => rw [e] at hf ⊢; exact ih h ob hf
  | mono g hp hl hm res hs ho hk e =>
   rw [e] at hf ⊢
   have hle : jad st0 tr ≤ res.nx := by simp only [jbA, Bool.and_eq_true, Nat.ble_eq] at hk; exact hk.1.1
   simp only [jaA] at hf
   cases hn : find (jc5 (jad st0 tr) res.hp) h with
   | some x =>
    rw [hn] at hf
    cases hf
    have := jkR hk hn
    exact ⟨this.1, O.lt_of_allB (p := fun h => Nat.blt h res.nx && (Nat.ble (jad st0 tr) h || jau (fun j => (tab.getD tr.length []).contains j) st0 tr h)) (fun x hx => by simp only [Bool.and_eq_true, Nat.blt_eq] at hx; exact hx.1) this.2⟩
   | none =>
    rw [hn] at hf
    have := ih h ob hf
    exact ⟨Nat.lt_of_lt_of_le this.1 hle, O.lt_mono hle this.2⟩
  | effect g hp hl hf' res hs ho hk e =>
   rw [e] at hf ⊢
   have := jkR hk hf
   exact ⟨this.1, O.lt_of_allB (p := fun h => Nat.blt h res.nx && (Nat.ble (jad st0 tr) h || jau (fun j => (tab.getD tr.length []).contains j) st0 tr h)) (fun x hx => by simp only [Bool.and_eq_true, Nat.blt_eq] at hx; exact hx.1) this.2⟩
theorem GoodTr.inv {tr : List Rec} {r : Rec} (h : GoodTr P sp N L tab st0 (r :: tr)) : GoodTr P sp N L tab st0 tr ∧ ∃ o, RecOK P sp N L tab st0 tr r o := by
 cases h with | cons h o hr => exact ⟨h, o, hr⟩
theorem jbP {tr : List Rec} {r : Rec} {o : Oper} (hr : RecOK P sp N L tab st0 tr r o) (h : r.kd = 2) : jcT tab tr.length (r.tg.isSome) 0 L = true ∧ jaB o.op = false ∧ jaK o.op = false := by
 cases hr.kind with
 | skip g e => rw [e] at h; cases h
 | pure g ob hs ho hk e => rw [e] at h; cases h
 | built g hb0 ob hs ho hk e => rw [e] at h; cases h
 | load g hp hl x xo hx hf hb hst ob hs ho hk e => rw [e] at h; cases h
 | mono g hp hl hm res hs ho hk e => rw [e] at h; cases h
 | effect g hp hl hf res hs ho hk e => exact ⟨by rw [e]; exact hf, hp, hl⟩
theorem joB {t x y : _} {rd : Operand → Option V} {hp : Hp} {nx h : Nat} {res : Res} (hs : jbW P sp (.store t x y) rd hp nx = some res) (ht : storeAt (.store t x y) rd = some h) : ∃ o', res.hp = (h, o') :: ja1 hp := by
 unfold storeAt at ht
 dsimp only at ht
 split at ht
 ·rename_i h' i e j hx
  cases ht
  unfold jbW at hs
  have hv : jbL P (.store t x y) rd hp = none := by simp [jbL, jge, jgE]
  have hR : jc6 P (.store t x y) rd hp nx = none := by simp [jc6]
  simp only [hv, hR] at hs
  split at hs
  ·rename_i r0 hX
   cases hs
   unfold jfC at hX
   dsimp only at hX
   rw [hx] at hX
   split at hX
   ·rename_i h3 _
    cases h3
    split at hX
    ·split at hX
     ·cases hX; exact ⟨_, rfl⟩
     ·cases hX
    ·split at hX
     ·cases hX; exact ⟨_, rfl⟩
     ·cases hX
    ·cases hX
   ·rename_i h3 _
    cases h3
    split at hX
    ·split at hX
     ·cases hX; exact ⟨_, rfl⟩
     ·cases hX
    ·split at hX
     ·cases hX; exact ⟨_, rfl⟩
     ·cases hX
    ·cases hX
   ·rename_i h3 _
    cases h3
    split at hX
    ·split at hX
     ·split at hX
      ·cases hX; exact ⟨_, rfl⟩
      ·cases hX
     ·cases hX
    ·cases hX
   ·cases hX
  unfold jkA at hs
  dsimp only at hs
  rw [hx] at hs
  split at hs
  ·rename_i h2 i2 e2 j2 u h3 hy
   cases h3
   split at hs
   ·split at hs
    ·split at hs
     ·cases hs; exact ⟨_, rfl⟩
     ·split at hs
      ·cases hs; exact ⟨_, rfl⟩
      ·cases hs
    ·split at hs
     ·split at hs
      ·split at hs
       ·cases hs; exact ⟨_, rfl⟩
       ·cases hs
      ·cases hs
     ·cases hs
    ·cases hs
   ·cases hs
  ·cases hs
 ·cases ht
theorem jez {hp : Hp} {x : Nat} {ob : O} (hpl : jdI (some ob) = true) : find (ja1 hp) x = some ob ↔ find hp x = some ob := by
 rw [jhX]
 cases hf : find hp x with
 | none => simp
 | some o =>
  simp only [Option.map_some, Option.some.injEq]
  cases o <;> cases ob <;> simp_all [jdI]
theorem joC {op : Op} {rd : Operand → Option V} {hp : Hp} {nx h : Nat} {res : Res} (hs : jbW P sp op rd hp nx = some res) (ht : storeAt op rd = some h) {x : Nat} {ob : O} (hx : x ≠ h) (hn : x < nx) (hp1 : jdI (some ob) = true) (hf : find hp x = some ob) : find res.hp x = some ob := by
 cases op with
 | store t a b =>
  obtain ⟨o', ho'⟩ := joB hs ht
  rw [ho']
  simp only [find]
  rw [if_neg (fun e => hx e.symm)]
  exact (jez hp1).2 hf
 | call c =>
  have hna : c.callee = .builtin .append ∧ ∃ s y, c.args.toList = [s, y] ∧ ∀ k, rd s = some (.w (.c (.o k))) → k = h := by
   unfold storeAt at ht
   dsimp only at ht
   split at ht
   ·rename_i s y hc ha
    refine ⟨hc, s, y, ha, fun k hk => ?_⟩
    rw [hk] at ht
    cases ht; rfl
   ·cases ht
  obtain ⟨hcal, s, y, hargs, hk⟩ := hna
  unfold jbW at hs
  have h1 : jbL P (.call c) rd hp = none := by simp [jbL, jge, jgE, hcal]
  have h2 : jfC P (.call c) rd hp nx = none := by simp [jfC]
  have hR : jc6 P (.call c) rd hp nx = none := by simp [jc6]
  simp only [h1, hR, h2] at hs
  unfold jkA at hs
  dsimp only at hs
  rw [hcal, hargs] at hs
  split at hs
  ·rename_i s' y' t t' _ e _
   simp only [List.cons.injEq, and_true] at e
   obtain ⟨rfl, rfl⟩ := e
   split at hs
   ·split at hs
    ·unfold jfW at hs
     split at hs
     ·split at hs
      ·split at hs
       ·split at hs
        ·split at hs
         ·cases hs
          simp only [find]
          rw [if_neg (by omega)]
          exact hf
         ·cases hs
        ·cases hs
       ·cases hs
      ·cases hs
     ·cases hs
    ·split at hs
     ·rename_i elem hs' cs hx' cx hu hss hsx
      split at hs
      ·split at hs
       ·split at hs
        ·split at hs
         ·cases hs
          cases hs' with
          | none =>
           simp only [find]
           rw [if_neg (by omega)]
           exact (jez hp1).2 hf
          | some k =>
           have hkh : k = h := by
            cases hrs : rd s with
            | none => simp [hrs] at hss
            | some us =>
             simp only [hrs, Option.bind_some] at hss
             unfold jcS at hss
             split at hss
             ·split at hss
              ·cases hss; exact hk _ hrs
              ·cases hss
             ·cases hss
             ·cases hss
           subst hkh
           simp only [find]
           rw [if_neg (by omega), if_neg (fun e => hx e.symm)]
           exact (jez hp1).2 hf
         ·cases hs
        ·cases hs
       ·cases hs
      ·cases hs
     ·cases hs
   ·cases hs
  ·rename_i hc2
   cases hc2
  ·cases hs
 | _ => simp [storeAt] at ht
theorem jnC {tr : List Rec} {r : Rec} {o : Oper} {t : Nat} (hr : RecOK P sp N L tab st0 tr r o) (h : r.kd = 2) (ht : r.tg = some t) :
  (∀ x ob, x ≠ t → x < jad st0 tr → jdI (some ob) = true → find (jaL st0 tr) x = some ob → find r.hp x = some ob) ∧ jdr L tab st0 (tab.getD tr.length []) t tr = true := by
 cases hr.kind with
 | skip g e => rw [e] at h; cases h
 | pure g ob hs ho hk e => rw [e] at h; cases h
 | built g hb0 ob hs ho hk e => rw [e] at h; cases h
 | load g hp hl x xo hx hf hb hst ob hs ho hk e => rw [e] at h; cases h
 | mono g hp hl hm res hs ho hk e => rw [e] at h; cases h
 | effect g hp hl hf res hs ho hk e =>
  have ht2 : jds L tab st0 o tr = some t := by rw [e] at ht; exact ht
  unfold jds at ht2
  split at ht2
  ·rename_i h' hst
   split at ht2
   ·rename_i hlf
    cases ht2
    refine ⟨fun x ob hx hn hpl hfx => ?_, hlf⟩
    rw [e]
    exact joC hs hst hx hn hpl hfx
   ·cases ht2
  ·cases ht2
theorem jbI {tr : List Rec} {r : Rec} {o : Oper} (hr : RecOK P sp N L tab st0 tr r o) (h : r.kd ≠ 2) : r.hp = r.nw ++ jaL st0 tr ∧ (∀ k ob, find r.nw k = some ob → jad st0 tr ≤ k ∧ k < r.nx) ∧ ((jaB o.op || jaK o.op) = true → r.nw = [] ∧ r.nx = jad st0 tr) := by
 cases hr.kind with
 | skip g e => rw [e]; exact ⟨rfl, (fun k ob h => by cases h), fun _ => ⟨rfl, rfl⟩⟩
 | pure g ob hs ho hk e => rw [e]; exact ⟨rfl, (fun k ob h => by cases h), fun _ => ⟨rfl, rfl⟩⟩
 | built g hb0 ob hs ho hk e => rw [e]; exact ⟨rfl, (fun k ob h => by cases h), fun _ => ⟨rfl, rfl⟩⟩
 | load g hp hl x xo hx hf hb hst ob hs ho hk e => rw [e]; exact ⟨rfl, (fun k ob h => by cases h), fun _ => ⟨rfl, rfl⟩⟩
 | mono g hp hl hm res hs ho hk e =>
  rw [e]
  refine ⟨rfl, fun k ob hf => ?_, fun h => by rw [hp, hl] at h; cases h⟩
  have h1 := (jkR hk hf).1
  have hf : find (jc5 (jad st0 tr) res.hp) k = some ob := hf
  rw [jmd] at hf
  split at hf
  ·rename_i hle; exact ⟨by simpa [Nat.ble_eq] using hle, h1⟩
  ·cases hf
 | effect g hp hl hf res hs ho hk e => rw [e] at h; exact absurd rfl h
theorem jme {tr : List Rec} {r : Rec} {o : Oper} (hr : RecOK P sp N L tab st0 tr r o) (hs : (jaB o.op || jaK o.op) = true) : r.kd ≠ 2 := fun h => by
 rw [(jbP hr h).2.1, (jbP hr h).2.2] at hs; cases hs
theorem jtM {D : Nat → Bool} {i : Nat} {o : Oper} (hns : jaB o.op = false) (hnl : jaK o.op = false) (ho : L[i]? = some o) (hlow : ∀ i k, k ∈ tab.getD i [] → k < i) (hbase : jh9 st0) (hb : ∀ j, j ∈ tab.getD i [] → D j = true) {tr : List Rec} (hg : GoodTr P sp N L tab st0 tr) :
  tr.length ≤ i → ∀ h ob, find (jaL st0 tr) h = some ob → jau (fun j => (tab.getD i []).contains j) st0 tr h = true → find (jaD D st0 tr) h = some ob := by
 induction hg with
 | nil => exact fun _ h ob hf _ => hf
 | @cons tr r hgt o' hr ih =>
  intro hl h ob hf hbn
  have hl : tr.length + 1 ≤ i := hl
  have hf : find r.hp h = some ob := hf
  simp only [jaD]
  by_cases hk : r.kd = 2
  ·have hfo := jbP hr hk
   have hD : D tr.length = true := by
    rcases jbO hfo.1 i o ho with h1 | h1 | h1 | h1 | h1
    ·omega
    ·rw [hns] at h1; cases h1
    ·rw [Nat.zero_add] at h1; have := hlow _ _ h1; omega
    ·rw [Nat.zero_add] at h1; exact hb _ h1
    ·rw [hnl] at h1; cases h1.2
   rw [if_pos hD, if_pos hk]
   exact hf
  ·have ho := jbI hr hk
   rw [ho.1, jaA] at hf
   rw [if_neg hk]
   cases hn : find r.nw h with
   | some x =>
    rw [hn] at hf
    cases hf
    have h1 := (ho.2.1 h ob hn).1
    have hD : D tr.length = true := by
     simp only [jau] at hbn
     rw [show Nat.ble (jad st0 tr) h = true from Nat.ble_eq_true_of_le h1] at hbn
     exact hb _ (by simpa using hbn)
    rw [if_pos hD, jaA, hn]
    rfl
   | none =>
    rw [hn] at hf
    have hf : find (jaL st0 tr) h = some ob := hf
    have h1 := (keys hgt hbase h ob hf).1
    have hbn' : jau (fun j => (tab.getD i []).contains j) st0 tr h = true := by
     simp only [jau] at hbn
     have e : Nat.ble (jad st0 tr) h = false := by
      rw [Bool.eq_false_iff]; intro hc; rw [Nat.ble_eq] at hc; omega
     rw [e] at hbn
     exact hbn
    have := ih (by omega) h ob hf hbn'
    split
    ·rw [jaA, hn]; exact this
    ·exact this
theorem jqP {D : Nat → Bool} (hbase : jh9 st0) {tr : List Rec} (hg : GoodTr P sp N L tab st0 tr) : ∀ h ob, find (jaD D st0 tr) h = some ob → h < jad st0 tr := by
 induction hg with
 | nil => exact fun h ob hf => (hbase h ob hf).1
 | @cons tr r hgt o hr ih =>
  intro h ob hf
  have hle := hr.nx_le
  simp only [jaD] at hf
  split at hf
  ·split at hf
   ·exact (keys (.cons hgt o hr) hbase h ob hf).1
   ·rename_i hk
    rw [jaA] at hf
    cases hn : find r.nw h with
    | some x => exact ((jbI hr hk).2.1 h x hn).2
    | none => rw [hn] at hf; exact Nat.lt_of_lt_of_le (ih h ob hf) hle
  ·exact Nat.lt_of_lt_of_le (ih h ob hf) hle
theorem jfI {D : Nat → Bool} {i k : Nat} {o ok : Oper} {lf : Bool} (hns : jaB o.op = false) (hnl : jaK o.op = false) (ho : L[i]? = some o) (hok : L[k]? = some ok) (hnk : jaB ok.op = false) (hlk : jaK ok.op = false) (hlow : ∀ i k, k ∈ tab.getD i [] → k < i) (ht : jcg L tab) (hc : jb5 L D) (hi : D i = false) (hik : i < k)
  (hf : jcT tab k lf 0 L = true ∨ jcT tab i lf 0 L = true) : D k = false := by
 have hor : i ∈ tab.getD k [] := by
  rcases hf with hf | hf
  ·rcases jbO hf i o ho with h1 | h1 | h1 | h1 | h1
   ·omega
   ·rw [hns] at h1; cases h1
   ·rw [Nat.zero_add] at h1; exact h1
   ·rw [Nat.zero_add] at h1; have := hlow _ _ h1; omega
   ·rw [hnl] at h1; cases h1.2
  ·rcases jbO hf k ok hok with h1 | h1 | h1 | h1 | h1
   ·omega
   ·rw [hnk] at h1; cases h1
   ·rw [Nat.zero_add] at h1; have := hlow _ _ h1; omega
   ·rw [Nat.zero_add] at h1; exact h1
   ·rw [hlk] at h1; cases h1.2
 rw [Bool.eq_false_iff]
 intro hD
 have := jd5 ht hc k i (fun o' ho' e he hb => hc k o' ho' hD e he hb) hor
 rw [this] at hi
 cases hi
theorem jtN {D : Nat → Bool} {i : Nat} (hlow : ∀ i k, k ∈ tab.getD i [] → k < i) (hbase : jh9 st0) (hb : ∀ j, j ∈ tab.getD i [] → D j = true) {h : Nat} {ob : O} {tr : List Rec} (hg : GoodTr P sp N L tab st0 tr) :
  find (jaL st0 tr) h = some ob → jau (fun j => (tab.getD i []).contains j) st0 tr h = true → jdJ st0 (tab.getD i []) h tr = true → find (jaD D st0 tr) h = some ob := by
 induction hg with
 | nil => exact fun hf _ _ => hf
 | @cons tr r hgt o' hr ih =>
  intro hf hbn hst
  simp only [jdJ, Bool.and_eq_true] at hst
  have hf : find r.hp h = some ob := hf
  simp only [jaD]
  by_cases hk : r.kd = 2
  ·rw [if_pos hk]
   by_cases hD : D tr.length = true
   ·rw [if_pos hD]; exact hf
   ·rw [if_neg hD]
    have h1 := hst.1
    have hc : (tab.getD i []).contains tr.length = false := by
     cases hcc : (tab.getD i []).contains tr.length with
     | false => rfl
     | true => exact absurd (hb _ (by simpa using hcc)) hD
    have hkb : Nat.beq r.kd 2 = true := by rw [hk]; rfl
    rw [hc, hkb] at h1
    simp only [Bool.not_true, Bool.false_or] at h1
    split at h1
    ·cases h1
    ·rename_i t htg
     simp only [Bool.and_eq_true, Bool.not_eq_true'] at h1
     have hne : h ≠ t := fun e => by
      have h2 := h1.1
      subst e
      have : Nat.beq h h = true := by simp
      rw [this] at h2; cases h2
     have hs := jnC hr hk htg
     have hpl : ∃ o1, find (jaL st0 tr) h = some o1 ∧ jdI (some o1) = true := by
      cases hq : find (jaL st0 tr) h with
      | none => rw [hq] at h1; cases h1.2
      | some o1 => rw [hq] at h1; exact ⟨o1, rfl, h1.2⟩
     obtain ⟨o1, hq, hp1⟩ := hpl
     have hlt := (keys hgt hbase h o1 hq).1
     have := hs.1 h o1 hne hlt hp1 hq
     rw [this] at hf
     cases hf
     refine ih hq ?_ hst.2
     have e : Nat.ble (jad st0 tr) h = false := by
      rw [Bool.eq_false_iff]; intro hcc; rw [Nat.ble_eq] at hcc; omega
     simp only [jau] at hbn
     rw [e] at hbn
     exact hbn
  ·have ho := jbI hr hk
   rw [ho.1, jaA] at hf
   rw [if_neg hk]
   cases hn : find r.nw h with
   | some x =>
    rw [hn] at hf
    cases hf
    have h1 := (ho.2.1 h ob hn).1
    have hD : D tr.length = true := by
     simp only [jau] at hbn
     rw [show Nat.ble (jad st0 tr) h = true from Nat.ble_eq_true_of_le h1] at hbn
     exact hb _ (by simpa using hbn)
    rw [if_pos hD, jaA, hn]
    rfl
   | none =>
    rw [hn] at hf
    have hf : find (jaL st0 tr) h = some ob := hf
    have h1 := (keys hgt hbase h ob hf).1
    have hbn' : jau (fun j => (tab.getD i []).contains j) st0 tr h = true := by
     simp only [jau] at hbn
     have e : Nat.ble (jad st0 tr) h = false := by
      rw [Bool.eq_false_iff]; intro hc; rw [Nat.ble_eq] at hc; omega
     rw [e] at hbn
     exact hbn
    have := ih hf hbn' hst.2
    split
    ·rw [jaA, hn]; exact this
    ·exact this
theorem jkS {bef : List Nat} {t : Nat} {r0 : Rec} {tr : List Rec} {o : Oper} (ho : L[tr.length]? = some o) (hl : jaK o.op = true) : ∀ {l : List Rec}, jdr L tab st0 bef t (l ++ r0 :: tr) = true →
  bef.contains tr.length = true ∨ ∃ x, loadAt o.op (jbz L (jaI L o) (tab.getD tr.length []) st0 tr) = some x ∧ x ≠ t ∧ jdI (find (jaL st0 tr) x) = true
 | [], h => by
  simp only [List.nil_append, jdr, ho, hl, Bool.and_eq_true, Bool.or_eq_true] at h
  rcases h.1 with h1 | h1
  ·exact .inl h1
  ·split at h1
   ·cases h1
   ·rename_i x hx
    simp only [Bool.and_eq_true, Bool.not_eq_true'] at h1
    refine .inr ⟨x, hx, fun e => ?_, h1.2⟩
    have h2 := h1.1
    rw [e] at h2
    have : Nat.beq t t = true := by simp
    rw [this] at h2; cases h2
 | r :: l, h => by
  simp only [List.cons_append, jdr, Bool.and_eq_true] at h
  exact jkS ho hl h.2
theorem jmf {D : Nat → Bool} {tr : List Rec} {r0 : Rec} {o : Oper} {x : Nat} {xo : O} (ho : L[tr.length]? = some o) (hlo : jaK o.op = true) (hns : jaB o.op = false) (hx : loadAt o.op (jbz L (jaI L o) (tab.getD tr.length []) st0 tr) = some x) (hf : find (jaL st0 tr) x = some xo) (hr0 : r0.hp = jaL st0 tr)
  (hlow : ∀ i k, k ∈ tab.getD i [] → k < i) (ht : jcg L tab) (hc : jb5 L D) (hi : D tr.length = false) (hxl : x < jad st0 tr) (hin : find (jaD D st0 tr) x = some xo) :
  ∀ {later : List Rec}, GoodTr P sp N L tab st0 (later ++ r0 :: tr) → find (jaD D st0 (later ++ r0 :: tr)) x = some xo ∧
   ((∀ k, tr.length < k → k < (later ++ r0 :: tr).length → ∀ ok, L[k]? = some ok → jaB ok.op = false → jaK ok.op = false → tr.length ∈ tab.getD k [] → False) → True) ∧
   (find (jaL st0 (later ++ r0 :: tr)) x = some xo ∨ ∃ l1 rk trk, later ++ r0 :: tr = l1 ++ rk :: trk ∧ tr.length < trk.length ∧ rk.kd = 2 ∧ tr.length ∈ tab.getD trk.length [])
 | [], _ => by
  refine ⟨?_, fun _ => trivial, .inl ?_⟩
  ·simp only [List.nil_append, jaD, hi, Bool.false_eq_true, if_false]; exact hin
  ·show find r0.hp x = _
   rw [hr0]; exact hf
 | r :: l, hg => by
  obtain ⟨hgt, o', hr⟩ := GoodTr.inv (tr := l ++ r0 :: tr) hg
  obtain ⟨ih1, _, ih3⟩ := jmf ho hlo hns hx hf hr0 hlow ht hc hi hxl hin hgt
  have hlen : tr.length < (l ++ r0 :: tr).length := by simp; omega
  by_cases hk : r.kd = 2
  ·have hfo := jbP hr hk
   by_cases hw : tr.length ∈ tab.getD (l ++ r0 :: tr).length []
   ·have hDk : D (l ++ r0 :: tr).length = false := by
     rw [Bool.eq_false_iff]
     intro hD
     have := jd5 ht hc (l ++ r0 :: tr).length tr.length (fun o' ho' e he hb => hc _ o' ho' hD e he hb) hw
     rw [this] at hi; cases hi
    refine ⟨?_, fun _ => trivial, .inr ⟨[], r, l ++ r0 :: tr, rfl, hlen, hk, hw⟩⟩
    simp only [List.cons_append, jaD, hDk, Bool.false_eq_true, if_false]
    exact ih1
   ·have htg : r.tg.isSome = true := by
     rcases jbO hfo.1 tr.length o ho with h1 | h1 | h1 | h1 | h1
     ·omega
     ·rw [hns] at h1; cases h1
     ·rw [Nat.zero_add] at h1; exact absurd h1 hw
     ·rw [Nat.zero_add] at h1; have := hlow _ _ h1; omega
     ·exact h1.1
    cases htt : r.tg with
    | none => rw [htt] at htg; cases htg
    | some t =>
     have hst := jnC hr hk htt
     have hsp := jkS ho hlo hst.2
     rcases hsp with hsp | ⟨x', hx', hne, hpl⟩
     ·exact absurd (by simpa using hsp) hw
     ·rw [hx] at hx'
      cases hx'
      have hplx : jdI (some xo) = true := by rw [hf] at hpl; exact hpl
      rcases ih3 with h3 | ⟨l1, rk, trk, e1, e2, e3, e4⟩
      ·have hr' : find r.hp x = some xo := by
        refine hst.1 x xo hne ?_ hplx h3
        have h2 := jdi (later := l ++ [r0]) (tr := tr) (by simpa using hgt)
        have h4 : jad st0 tr ≤ jad st0 (l ++ r0 :: tr) := by simpa using h2
        omega
       refine ⟨?_, fun _ => trivial, .inl hr'⟩
       simp only [List.cons_append, jaD]
       split
       ·first | exact hr' | (rw [if_pos hk]; exact hr')
       ·exact ih1
      ·-- an earlier store waits for the load; this one waits for that one
       have hgk : GoodTr P sp N L tab st0 (rk :: trk) := GoodTr.tail (later := l1) (by rw [← e1]; exact hgt)
       obtain ⟨_, ok, hrk⟩ := hgk.inv
       have hkk := jbP hrk e3
       have hlt : trk.length < (l ++ r0 :: tr).length := by rw [e1]; simp; omega
       have hDk : D (l ++ r0 :: tr).length = false := by
        rw [Bool.eq_false_iff]
        intro hD
        have hdk : D trk.length = true := by
         rcases jbO hfo.1 trk.length ok hrk.op with h1 | h1 | h1 | h1 | h1
         ·omega
         ·rw [hkk.2.1] at h1; cases h1
         ·rw [Nat.zero_add] at h1
          exact jd5 ht hc _ trk.length (fun o' ho' e he hb => hc _ o' ho' hD e he hb) h1
         ·rw [Nat.zero_add] at h1; have := hlow _ _ h1; omega
         ·rw [hkk.2.2] at h1; cases h1.2
        have := jd5 ht hc trk.length tr.length (fun o' ho' e he hb => hc _ o' ho' hdk e he hb) e4
        rw [this] at hi; cases hi
       refine ⟨?_, fun _ => trivial, .inr ⟨r :: l1, rk, trk, by rw [List.cons_append, e1]; rfl, e2, e3, e4⟩⟩
       simp only [List.cons_append, jaD, hDk, Bool.false_eq_true, if_false]
       exact ih1
  ·have hoth := jbI hr hk
   have hnone : find r.nw x = none := by
    cases hn : find r.nw x with
    | none => rfl
    | some y =>
     have h1 := (hoth.2.1 x y hn).1
     have h2 := jdi (later := l ++ [r0]) (tr := tr) (by simpa using hgt)
     have h3 : jad st0 tr ≤ jad st0 (l ++ r0 :: tr) := by simpa using h2
     omega
   refine ⟨?_, fun _ => trivial, ?_⟩
   ·simp only [List.cons_append, jaD]
    split
    ·first | (rw [jaA, hnone]; exact ih1) | (rw [if_neg hk, jaA, hnone]; exact ih1)
    ·exact ih1
   ·rcases ih3 with h3 | ⟨l1, rk, trk, e1, e2, e3, e4⟩
    ·left
     show find r.hp x = _
     rw [hoth.1, jaA, hnone]; exact h3
    ·right
     exact ⟨r :: l1, rk, trk, by rw [List.cons_append, e1]; rfl, e2, e3, e4⟩
theorem jmg {D : Nat → Bool} {i : Nat} {o : Oper} (hns : jaB o.op = false) (hnl : jaK o.op = false) (ho : L[i]? = some o) (hlow : ∀ i k, k ∈ tab.getD i [] → k < i) (ht : jcg L tab) (hc : jb5 L D) (hi : D i = false) {tr : List Rec} (htr : i < tr.length) {h : Nat} (hh : h < jad st0 tr) :
  ∀ {later : List Rec}, GoodTr P sp N L tab st0 (later ++ tr) → find (jaD D st0 (later ++ tr)) h = find (jaD D st0 tr) h
 | [], _ => rfl
 | r :: l, hg => by
   obtain ⟨hgt, o', hr⟩ := GoodTr.inv (tr := l ++ tr) hg
   have ih := jmg hns hnl ho hlow ht hc hi htr hh hgt
   simp only [List.cons_append, jaD]
   split
   ·rename_i hD
    split
    ·rename_i hk
     have := jbP hr hk
     rw [jfI hns hnl ho hr.op this.2.1 this.2.2 hlow ht hc hi (by simp; omega) (.inl this.1)] at hD
     cases hD
    ·rename_i hk
     rw [jaA]
     have : find r.nw h = none := by
      cases hn : find r.nw h with
      | none => rfl
      | some x =>
       have h1 := ((jbI hr hk).2.1 h x hn).1
       have h2 := jdi hgt
       omega
     rw [this]
     exact ih
   ·exact ih
theorem jjA {D D' : Nat → Bool} {tr : List Rec} {r : Rec} {o : Oper} (hns : jaB o.op = false) (hnl : jaK o.op = false) (ho : L[tr.length]? = some o) (hlow : ∀ i k, k ∈ tab.getD i [] → k < i) (ht : jcg L tab) (hc : jb5 L D) (hi : D tr.length = false) (hbase : jh9 st0)
  (hD1 : D' tr.length = true) (hD2 : ∀ j, j ≠ tr.length → D' j = D j) (hk : r.kd ≠ 2) {h : Nat} :
  ∀ {later : List Rec}, GoodTr P sp N L tab st0 (later ++ r :: tr) → find (jaD D' st0 (later ++ r :: tr)) h = (find (jaD D st0 (later ++ r :: tr)) h).or (find r.nw h)
 | [], hg => by
  cases hg with
  | cons hgt o' hr =>
   simp only [List.nil_append, jaD, hD1, hi, if_true, if_neg hk, jaA, Bool.false_eq_true, if_false]
   rw [jf3 (D := D) (D' := D') (fun j hj => hD2 j (by omega))]
   cases hn : find r.nw h with
   | none => simp
   | some x =>
    have h1 := ((jbI hr hk).2.1 h x hn).1
    cases hd : find (jaD D st0 tr) h with
    | none => rfl
    | some y =>
     have := jqP hbase hgt h y hd
     omega
 | r' :: l, hg => by
   obtain ⟨hgt, o', hr⟩ := GoodTr.inv (tr := l ++ r :: tr) hg
   have ih := jjA hns hnl ho hlow ht hc hi hbase hD1 hD2 hk (h := h) hgt
   simp only [List.cons_append, jaD]
   rw [hD2 _ (by simp; omega)]
   split
   ·rename_i hD
    split
    ·rename_i hk'
     have := jbP hr hk'
     rw [jfI hns hnl ho hr.op this.2.1 this.2.2 hlow ht hc hi (by simp; omega) (.inl this.1)] at hD
     cases hD
    ·simp only [jaA, ih, Option.or_assoc]
   ·exact ih
theorem jmh {D D' : Nat → Bool} {tr : List Rec} {r : Rec} (hi : D tr.length = false)
  (hD1 : D' tr.length = true) (hD2 : ∀ j, j ≠ tr.length → D' j = D j) (hk : r.kd ≠ 2) (hn : r.nw = []) :
  ∀ {later : List Rec}, jaD D' st0 (later ++ r :: tr) = jaD D st0 (later ++ r :: tr)
 | [] => by
  simp only [List.nil_append, jaD, hD1, hi, if_true, if_neg hk, hn, Bool.false_eq_true, if_false]
  exact jf3 (fun j hj => hD2 j (by omega))
 | r' :: l => by
  have ih := jmh hi hD1 hD2 hk hn (later := l)
  simp only [List.cons_append, jaD]
  rw [hD2 _ (by simp; omega), ih]
theorem jjB {D : Nat → Bool} {i : Nat} (hall : ∀ j oj, j < i → L[j]? = some oj → (jaB oj.op || jaK oj.op) = false → D j = true) {tr : List Rec} (hg : GoodTr P sp N L tab st0 tr) :
  tr.length ≤ i → jaD D st0 tr = jaL st0 tr ∧ ∀ h, h < jad st0 tr → jau D st0 tr h = true := by
 induction hg with
 | nil => exact fun _ => ⟨rfl, fun _ _ => rfl⟩
 | @cons tr r hgt o hr ih =>
  intro hl
  have hl : tr.length + 1 ≤ i := hl
  have ih := ih (by omega)
  constructor
  ·simp only [jaD]
   show _ = r.hp
   by_cases hk : r.kd = 2
   ·rw [if_pos (hall _ o (by omega) hr.op (by rw [(jbP hr hk).2.1, (jbP hr hk).2.2]; rfl)), if_pos hk]
   ·have h1 := jbI hr hk
    rw [h1.1, if_neg hk, ih.1]
    split
    ·rfl
    ·rename_i hD
     cases hs : (jaB o.op || jaK o.op) with
     | true => rw [(h1.2.2 hs).1]; rfl
     | false => exact absurd (hall _ o (by omega) hr.op hs) hD
  ·intro h hh
   have hh : h < r.nx := hh
   simp only [jau]
   split
   ·rename_i e
    rw [Nat.ble_eq] at e
    cases hs : (jaB o.op || jaK o.op) with
    | false => exact hall _ o (by omega) hr.op hs
    | true =>
     have := ((jbI hr (jme hr hs)).2.2 hs).2
     omega
   ·rename_i e
    apply ih.2
    rw [Bool.eq_false_iff] at e
    have : ¬ (jad st0 tr ≤ h) := fun hc => e (Nat.ble_eq_true_of_le hc)
    omega
theorem jgV {D : Nat → Bool} {i : Nat} (hall : ∀ j oj, i < j → L[j]? = some oj → (jaB oj.op || jaK oj.op) = false → D j = false) {tr : List Rec} (htr : i < tr.length) :
  ∀ {later : List Rec}, GoodTr P sp N L tab st0 (later ++ tr) → jaD D st0 (later ++ tr) = jaD D st0 tr
 | [], _ => rfl
 | r :: l, hg => by
   obtain ⟨hgt, o, hr⟩ := GoodTr.inv (tr := l ++ tr) hg
   have ih := jgV hall htr hgt
   simp only [List.cons_append, jaD]
   split
   ·rename_i hD
    cases hs : (jaB o.op || jaK o.op) with
    | false => rw [hall _ o (by simp; omega) hr.op hs] at hD; cases hD
    | true =>
     have hk := jme hr hs
     rw [if_neg hk, ((jbI hr hk).2.2 hs).1, ih]
     rfl
   ·exact ih
end
end Go.Sx
end

section
open Go.RowKit
namespace Go.Sx
theorem O.ok_eqB {p : Nat → Bool} {ρ ρ' : Env} {B : Bd} {h : Nat} {w : World} (ha : ∀ x, p x = true → ρ' x = ρ x) (hh : ρ' h = ρ h) : ∀ {o : O}, o.allB p = true → o.ok ρ B w h → o.ok ρ' B w h
 | .box ty cs, hl, ⟨k, h1, h2, h3⟩ => ⟨k, hh.trans h1, h2, by
   rw [h3]; congr 3; exact List.map_congr_left fun a ha' => (C.val_eqB ha (List.all_eq_true.1 hl a ha')).symm⟩
 | .row ty c, _, hr => by unfold O.ok at *; rw [hh]; exact hr
 | .ext c, _, hr => by unfold O.ok at *; rw [hh]; exact hr
 | .view r c _, hl, hr => by
  have hl' : p r = true := hl
  unfold O.ok at *; rw [hh]; simp only; exact hr
 | .dead, _, _ => trivial
 | .nan _, _, hr => by unfold O.ok at *; rw [hh]; exact hr
 | .err, _, hr => by unfold O.ok at *; rw [hh]; exact hr
 | .atom, _, hr => by unfold O.ok at *; rw [hh]; exact hr
 | .ebox cs, hl, ⟨k, o, h1, h2, h3⟩ => ⟨k, o, hh.trans h1, h2, fun j c hj => by rw [C.val_eqB ha (List.all_eq_true.1 hl c (List.mem_of_getElem? hj))]; exact h3 j c hj⟩
 | .arr _ _ _ _, _, hr => by unfold O.ok at *; rw [hh]; exact hr
 | .xext _, _, hr => by unfold O.ok at *; rw [hh]; exact hr
 | .map _, _, hr => by unfold O.ok at *; rw [hh]; exact hr
 | .rrow _, _, hr => by unfold O.ok at *; rw [hh]; exact hr
def jcB (ρ ρ' : Env) (lo hi : Nat) : Env := fun h => match Nat.ble lo h && Nat.blt h hi with
 | true => ρ' h
 | false => ρ h
section
variable [Globs] {P : Program} {sp : jaa} {B : Bd} {N n0 : Nat} {L : List Oper} {tab : List (List Nat)} {st0 : St} {ρ0 : Env} {w0 : World} {ds : List Deferred}
structure At [Globs] (P : Program) (sp : jaa) (N : Nat) (L : List Oper) (tab : List (List Nat)) (st0 : St) (D D' : Nat → Bool) (later : List Rec) (r : Rec) (tr : List Rec) (o : Oper) : Prop where
 good : GoodTr P sp N L tab st0 (later ++ r :: tr)
 len : (later ++ r :: tr).length = L.length
 ok : RecOK P sp N L tab st0 tr r o
 slots : jcj L tab 0 L = true
 edges : jdt 0 L = true
 tabok : jcg L tab
 closed : jb5 L D
 out : D tr.length = false
 bef : ∀ j, j ∈ tab.getD tr.length [] → D j = true
 D1 : D' tr.length = true
 D2 : ∀ j, j ≠ tr.length → D' j = D j
 base : jh9 st0
 baseTm : ∀ t v, ja4 st0.tm t = some v → v.lt st0.nx
 n0 : n0 ≤ st0.nx
variable {D D' : Nat → Bool} {later tr : List Rec} {r : Rec} {o : Oper} {a : Act} {w w' : World} {ρ ρ' : Env}
theorem At.low (h : At (n0 := n0) P sp N L tab st0 D D' later r tr o) : ∀ i k, k ∈ tab.getD i [] → k < i := jqO h.edges h.tabok
theorem At.gr (h : At (n0 := n0) P sp N L tab st0 D D' later r tr o) : GoodTr P sp N L tab st0 (r :: tr) := GoodTr.tail h.good
theorem At.gt (h : At (n0 := n0) P sp N L tab st0 D D' later r tr o) : GoodTr P sp N L tab st0 tr := h.gr.inv.1
theorem At.mono (h : At (n0 := n0) P sp N L tab st0 D D' later r tr o) : ∀ j, D j = true → D' j = true := fun j hj => by
 by_cases e : j = tr.length
 ·rw [e]; exact h.D1
 ·rw [h.D2 j e]; exact hj
theorem At.nx (h : At (n0 := n0) P sp N L tab st0 D D' later r tr o) : r.nx ≤ jad st0 (later ++ r :: tr) := jdi (tr := r :: tr) h.good
theorem At.alive_mono (h : At (n0 := n0) P sp N L tab st0 D D' later r tr o) {x : Nat} (hx : ja3 st0 (later ++ r :: tr) D x = true) : ja3 st0 (later ++ r :: tr) D' x = true := by
 simp only [ja3, Bool.and_eq_true] at hx ⊢
 exact ⟨hx.1, jes h.mono _ _ hx.2⟩
theorem At.alive_out (h : At (n0 := n0) P sp N L tab st0 D D' later r tr o) {x : Nat} (hx : ja3 st0 (later ++ r :: tr) D x = true) : ¬ (jad st0 tr ≤ x ∧ x < r.nx) := by
 rintro ⟨h1, h2⟩
 simp only [ja3, Bool.and_eq_true] at hx
 rw [jpd h.good h1 h2, h.out] at hx
 cases hx.2
theorem At.alive_new (h : At (n0 := n0) P sp N L tab st0 D D' later r tr o) {q : Nat → Bool} (hq : ∀ j, q j = true → D' j = true) {x : Nat}
  (hx : (Nat.blt x r.nx && (Nat.ble (jad st0 tr) x || jau q st0 tr x)) = true) : ja3 st0 (later ++ r :: tr) D' x = true := by
 simp only [Bool.and_eq_true, Nat.blt_eq, Bool.or_eq_true] at hx
 simp only [ja3, Bool.and_eq_true, Nat.blt_eq]
 refine ⟨Nat.lt_of_lt_of_le hx.1 h.nx, ?_⟩
 by_cases hle : jad st0 tr ≤ x
 ·rw [jpd h.good hle hx.1]; exact h.D1
 ·have h1 : jau q st0 tr x = true := by
   rcases hx.2 with h1 | h1
   ·rw [Nat.ble_eq] at h1; exact absurd h1 hle
   ·exact h1
  have : later ++ r :: tr = (later ++ [r]) ++ tr := by simp
  rw [this, jgT (by rw [← this]; exact h.good) (by omega)]
  exact jes hq _ _ h1
theorem jkT (h : At (n0 := n0) P sp N L tab st0 D D' later r tr o) {x : Nat} (hx : ja3 st0 (later ++ r :: tr) D x = true) : jcB ρ ρ' (jad st0 tr) r.nx x = ρ x := by
 have := h.alive_out hx
 unfold jcB
 split
 ·rename_i e
  simp only [Bool.and_eq_true, Nat.ble_eq, Nat.blt_eq] at e
  exact absurd e this
 ·rfl
theorem jgW {lo hi : Nat} (ha : jai lo ρ ρ') : jai hi ρ' (jcB ρ ρ' lo hi) := by
 intro x hx
 unfold jcB
 split
 ·rfl
 ·rename_i e
  have : ¬ lo ≤ x := fun hc => by
   rw [Bool.eq_false_iff] at e
   exact e (by simp only [Bool.and_eq_true, Nat.ble_eq, Nat.blt_eq]; exact ⟨hc, hx⟩)
  exact (ha x (by omega)).symm
theorem jmi {lo hi : Nat} {m : Nat} (hm : m ≤ lo) (ha : jai m ρ0 ρ) : jai m ρ0 (jcB ρ ρ' lo hi) := by
 intro x hx
 unfold jcB
 split
 ·rename_i e
  simp only [Bool.and_eq_true, Nat.ble_eq, Nat.blt_eq] at e
  omega
 ·exact ha x hx
theorem At.n0le (h : At (n0 := n0) P sp N L tab st0 D D' later r tr o) : n0 ≤ jad st0 tr := Nat.le_trans h.n0 (jiU h.gt)
theorem jkU : ∀ {hp : Hp} {x : Nat}, find (hp.map fun y => (y.1, O.atom)) x = (find hp x).map fun _ => O.atom
 | [], _ => rfl
 | (k, o) :: hp, x => by
  simp only [List.map_cons, find]
  split
  ·rfl
  ·exact jkU
theorem jjU (h : At (n0 := n0) P sp N L tab st0 D D' later r tr o) (hinv : Inv ds L st0 B N n0 ρ0 w0 (later ++ r :: tr) D a w ρ) {ρ2 : Env} (hE : ∀ x, ja3 st0 (later ++ r :: tr) D x = true → ρ2 x = ρ x)
  (hnew : ∀ x, jad st0 tr ≤ x → x < r.nx → C.one r.hp (.o x) = true → (ρ2 x).oneCell' = true) : ∀ x, ja3 st0 (later ++ r :: tr) D' x = true → jbD st0 (later ++ r :: tr) x = true → (ρ2 x).oneCell' = true := by
 intro x hx hb
 by_cases hn : jad st0 tr ≤ x ∧ x < r.nx
 ·rw [jpI h.good hn.1 hn.2] at hb
  exact hnew x hn.1 hn.2 hb
 ·have hx2 := hx
  simp only [ja3, Bool.and_eq_true, Nat.blt_eq] at hx2
  have hal : ja3 st0 (later ++ r :: tr) D x = true := by
   simp only [ja3, Bool.and_eq_true, Nat.blt_eq]
   refine ⟨hx2.1, ?_⟩
   rw [jrW (q := D') (q' := D) (fun j hj => (h.D2 j hj).symm) hn h.good hx2.1]
   exact hx2.2
  rw [hE x hal]
  exact hinv.one x hal hb
theorem jgX (h : At (n0 := n0) P sp N L tab st0 D D' later r tr o) (hinv : Inv ds L st0 B N n0 ρ0 w0 (later ++ r :: tr) D a w ρ) (hk : r.kd ≠ 2) (hn : r.nw = []) (hnx : r.nx = jad st0 tr)
  (hv : r.v.allB (fun x => Nat.blt x r.nx && (Nat.ble (jad st0 tr) x || jau (fun j => (tab.getD tr.length []).contains j) st0 tr x)) = true) :
  Inv ds L st0 B N n0 ρ0 w0 (later ++ r :: tr) D' (a.put o.dst (r.v.val ρ)) w ρ := by
 have he := jmh (st0 := st0) (later := later) h.out h.D1 h.D2 hk hn
 have hv' : r.v.allB (ja3 st0 (later ++ r :: tr) D') = true := V.allB_mono (fun x hx => h.alive_new (fun j hj => h.mono j (h.bef j (by simpa using hj))) hx) hv
 refine ⟨jlG h.slots h.tabok h.closed h.out h.ok.op h.ok.dst h.D1 h.D2 hinv (fun _ _ => rfl) hv', by rw [jcn]; exact hinv.size, by rw [jb3]; exact hinv.defers, by rw [he]; exact hinv.heap, ?_, hinv.le, hinv.agree, hinv.below, jjU h hinv (fun _ _ => rfl) (fun x h1 h2 _ => by omega)⟩
 intro x ob hf
 rw [he] at hf
 have := hinv.hal x ob hf
 exact ⟨h.alive_mono this.1, O.allB_mono (fun y hy => h.alive_mono hy) this.2⟩
theorem jrY (h : At (n0 := n0) P sp N L tab st0 D D' later r tr o) (hinv : Inv ds L st0 B N n0 ρ0 w0 (later ++ r :: tr) D a w ρ) (hns : jaB o.op = false) (hnl : jaK o.op = false) (hk : r.kd ≠ 2)
  (hv : r.v.allB (fun x => Nat.blt x r.nx && (Nat.ble (jad st0 tr) x || jau (fun j => (tab.getD tr.length []).contains j) st0 tr x)) = true)
  (hnw : ∀ x ob, find r.nw x = some ob → ob.allB (fun x => Nat.blt x r.nx && (Nat.ble (jad st0 tr) x || jau (fun j => (tab.getD tr.length []).contains j) st0 tr x)) = true)
  (hag : jai (jad st0 tr) ρ ρ') (hbl : Bel B w w') (hbw : Below w.heap.size w w') (hnew : HRel ρ' B r.nw r.nx w') (hfresh : ∀ x ob k, find r.nw x = some ob → ob.blk (ρ' x) = some k → w.heap.size ≤ k) :
  Inv ds L st0 B N n0 ρ0 w0 (later ++ r :: tr) D' (a.put o.dst (r.v.val (jcB ρ ρ' (jad st0 tr) r.nx))) w' (jcB ρ ρ' (jad st0 tr) r.nx) := by
 have hq : ∀ j, (tab.getD tr.length []).contains j = true → D' j = true := fun j hj => h.mono j (h.bef j (by simpa using hj))
 have hv' : r.v.allB (ja3 st0 (later ++ r :: tr) D') = true := V.allB_mono (fun x hx => h.alive_new hq hx) hv
 have hE1 : ∀ x, ja3 st0 (later ++ r :: tr) D x = true → jcB ρ ρ' (jad st0 tr) r.nx x = ρ x := fun x hx => jkT h hx
 have hE2 : jai r.nx ρ' (jcB ρ ρ' (jad st0 tr) r.nx) := jgW hag
 have hins : ∀ x, find (jaD D' st0 (later ++ r :: tr)) x = (find (jaD D st0 (later ++ r :: tr)) x).or (find r.nw x) := fun x =>
  jjA hns hnl h.ok.op h.low h.tabok h.closed h.out h.base h.D1 h.D2 hk h.good
 have hkey : ∀ k ob, find r.nw k = some ob → jad st0 tr ≤ k ∧ k < r.nx := (jbI h.ok hk).2.1
 have hnew' := hnew.agree hE2
 refine ⟨jlG h.slots h.tabok h.closed h.out h.ok.op h.ok.dst h.D1 h.D2 hinv hE1 hv', by rw [jcn]; exact hinv.size, by rw [jb3]; exact hinv.defers, ⟨?_, ?_, hinv.heap.glob.bel hbl⟩, ?_, hbl.old hinv.le, jmi h.n0le hinv.agree, hinv.below.trans hbl, jjU h hinv hE1 (fun x h1 h2 h3 => by
  rw [hE2 x h2]
  refine C.one_val (c := .o x) hnew ?_
  have hh := (jbI h.ok hk).1
  have hnone : find (jaL st0 tr) x = none := by
   cases hf : find (jaL st0 tr) x with
   | none => rfl
   | some y => have := (keys h.gt h.base x y hf).1; omega
  simp only [C.one, hh, jaA, hnone] at h3
  simp only [C.one]
  cases hf : find r.nw x with
  | none => rw [hf] at h3; cases h3
  | some y => rw [hf] at h3; exact h3)⟩
 ·intro x ob hf
  rw [hins] at hf
  cases hd : find (jaD D st0 (later ++ r :: tr)) x with
  | some y =>
   rw [hd] at hf
   cases hf
   have h1 := hinv.heap.ok x ob hd
   have h2 := hinv.hal x ob hd
   exact ⟨h1.1, h1.2.1, O.ok_eqB hE1 (hE1 x h2.1) h2.2 (O.ok_below hbw hinv.le h1.2.2)⟩
  | none =>
   rw [hd] at hf
   have hf : find r.nw x = some ob := hf
   have h1 := hnew'.ok x ob hf
   exact ⟨Nat.lt_of_lt_of_le h1.1 h.nx, O.lt_mono h.nx h1.2.1, h1.2.2⟩
 ·intro x ob x' ob' k hf hf' hne hb
  rw [hins] at hf hf'
  have old : ∀ y oy, find (jaD D st0 (later ++ r :: tr)) y = some oy → ∀ k, oy.blk (jcB ρ ρ' (jad st0 tr) r.nx y) = some k → k < w.heap.size := fun y oy hy k hk => by
   rw [hE1 y (hinv.hal y oy hy).1] at hk
   exact (O.blk_lt (hinv.heap.ok y oy hy).2.2 hk).1
  have new : ∀ y oy, find r.nw y = some oy → ∀ k, oy.blk (jcB ρ ρ' (jad st0 tr) r.nx y) = some k → w.heap.size ≤ k := fun y oy hy k hk => by
   rw [hE2 y (hkey y oy hy).2] at hk
   exact hfresh y oy k hy hk
  cases hd : find (jaD D st0 (later ++ r :: tr)) x with
  | some y =>
   rw [hd] at hf
   cases hf
   cases hd' : find (jaD D st0 (later ++ r :: tr)) x' with
   | some y' =>
    rw [hd'] at hf'
    cases hf'
    rw [hE1 x (hinv.hal x ob hd).1] at hb
    rw [hE1 x' (hinv.hal x' ob' hd').1]
    exact hinv.heap.apart x ob x' ob' k hd hd' hne hb
   | none =>
    rw [hd'] at hf'
    intro hb'
    have h1 := old x ob hd k hb
    have h2 := new x' ob' hf' k hb'
    omega
  | none =>
   rw [hd] at hf
   cases hd' : find (jaD D st0 (later ++ r :: tr)) x' with
   | some y' =>
    rw [hd'] at hf'
    cases hf'
    intro hb'
    have h1 := old x' ob' hd' k hb'
    have h2 := new x ob hf k hb
    omega
   | none =>
    rw [hd'] at hf'
    exact hnew'.apart x ob x' ob' k hf hf' hne hb
 ·intro x ob hf
  rw [hins] at hf
  cases hd : find (jaD D st0 (later ++ r :: tr)) x with
  | some y =>
   rw [hd] at hf
   cases hf
   have := hinv.hal x ob hd
   exact ⟨h.alive_mono this.1, O.allB_mono (fun y hy => h.alive_mono hy) this.2⟩
  | none =>
   rw [hd] at hf
   have hf : find r.nw x = some ob := hf
   have h1 := hkey x ob hf
   refine ⟨h.alive_new (q := fun _ => false) (fun _ hj => by cases hj) ?_, O.allB_mono (fun y hy => h.alive_new hq hy) (hnw x ob hf)⟩
   simp only [Bool.and_eq_true, Nat.blt_eq, Bool.or_eq_true]
   exact ⟨h1.2, .inl (Nat.ble_eq_true_of_le h1.1)⟩
theorem jpJ (h : At (n0 := n0) P sp N L tab st0 D D' later r tr o) (hinv : Inv ds L st0 B N n0 ρ0 w0 (later ++ r :: tr) D a w ρ) (hk : r.kd = 2)
  (hv : r.v.allB (fun x => Nat.blt x r.nx && (Nat.ble (jad st0 tr) x || jau (fun j => (tab.getD tr.length []).contains j) st0 tr x)) = true)
  (hnw : ∀ x ob, find r.hp x = some ob → ob.allB (fun x => Nat.blt x r.nx && (Nat.ble (jad st0 tr) x || jau (fun j => (tab.getD tr.length []).contains j) st0 tr x)) = true)
  (hag : jai (jad st0 tr) ρ ρ') (hbl : Bel B w w') (hnew : HRel ρ' B r.hp r.nx w') :
  Inv ds L st0 B N n0 ρ0 w0 (later ++ r :: tr) D' (a.put o.dst (r.v.val (jcB ρ ρ' (jad st0 tr) r.nx))) w' (jcB ρ ρ' (jad st0 tr) r.nx) := by
 have hq : ∀ j, (tab.getD tr.length []).contains j = true → D' j = true := fun j hj => h.mono j (h.bef j (by simpa using hj))
 have hv' : r.v.allB (ja3 st0 (later ++ r :: tr) D') = true := V.allB_mono (fun x hx => h.alive_new hq hx) hv
 have hE1 : ∀ x, ja3 st0 (later ++ r :: tr) D x = true → jcB ρ ρ' (jad st0 tr) r.nx x = ρ x := fun x hx => jkT h hx
 have hE2 : jai r.nx ρ' (jcB ρ ρ' (jad st0 tr) r.nx) := jgW hag
 have hfo := jbP h.ok hk
 have hall : ∀ j oj, tr.length < j → L[j]? = some oj → (jaB oj.op || jaK oj.op) = false → D' j = false := fun j oj hij hj hs => by
  rw [h.D2 j (by omega)]
  simp only [Bool.or_eq_false_iff] at hs
  exact jfI hfo.2.1 hfo.2.2 h.ok.op hj hs.1 hs.2 h.low h.tabok h.closed h.out hij (.inr hfo.1)
 have hbefore : ∀ j oj, j < tr.length → L[j]? = some oj → (jaB oj.op || jaK oj.op) = false → D j = true := fun j oj hij hj hs => by
  simp only [Bool.or_eq_false_iff] at hs
  rcases jbO hfo.1 j oj hj with h1 | h1 | h1 | h1 | h1
  ·omega
  ·rw [hs.1] at h1; cases h1
  ·rw [Nat.zero_add] at h1; exact h.bef _ h1
  ·rw [Nat.zero_add] at h1; have := h.low _ _ h1; omega
  ·rw [hs.2] at h1; cases h1.2
 have hhp : jaD D' st0 (later ++ r :: tr) = r.hp := by
  rw [jgV hall (i := tr.length) (tr := r :: tr) (by simp) h.good]
  simp only [jaD, h.D1, hk, if_true]
 have hnew' := hnew.agree hE2
 refine ⟨jlG h.slots h.tabok h.closed h.out h.ok.op h.ok.dst h.D1 h.D2 hinv hE1 hv', by rw [jcn]; exact hinv.size, by rw [jb3]; exact hinv.defers, by rw [hhp]; exact hnew'.mono_nx h.nx, ?_, hbl.old hinv.le, jmi h.n0le hinv.agree, hinv.below.trans hbl, jjU h hinv hE1 (fun x h1 h2 h3 => by rw [hE2 x h2]; exact C.one_val (c := .o x) hnew h3)⟩
 intro x ob hf
 rw [hhp] at hf
 refine ⟨h.alive_new (q := D) h.mono ?_, O.allB_mono (fun y hy => h.alive_new hq hy) (hnw x ob hf)⟩
 have h1 := (hnew.ok x ob hf).1
 simp only [Bool.and_eq_true, Nat.blt_eq, Bool.or_eq_true]
 refine ⟨h1, ?_⟩
 by_cases hle : jad st0 tr ≤ x
 ·exact .inl (Nat.ble_eq_true_of_le hle)
 ·exact .inr ((jjB hbefore h.gt (Nat.le_refl _)).2 x (by omega))
theorem jrZ (h : At (n0 := n0) P sp N L tab st0 D D' later r tr o) (hinv : Inv ds L st0 B N n0 ρ0 w0 (later ++ r :: tr) D a w ρ) (hns : jaB o.op = false) (hnl : jaK o.op = false) : HRel ρ B (jgm (tab.getD tr.length []) st0 tr) (jad st0 tr) w := by
 have key : ∀ x ob, find (jgm (tab.getD tr.length []) st0 tr) x = some ob → find (jaD D st0 (later ++ r :: tr)) x = some ob ∧ x < jad st0 tr ∧ ob.lt (jad st0 tr) := by
  intro x ob hf
  unfold jgm at hf
  rw [jf1 (p := fun x => jau (fun j => (tab.getD tr.length []).contains j) st0 tr x)] at hf
  split at hf
  ·rename_i hb
   have h1 := keys h.gt h.base x ob hf
   refine ⟨?_, h1⟩
   have h2 := jtM hns hnl h.ok.op h.low h.base h.bef h.gt (Nat.le_refl _) x ob hf hb
   rw [jmg hns hnl h.ok.op h.low h.tabok h.closed h.out (tr := r :: tr) (by simp) (show x < r.nx from Nat.lt_of_lt_of_le h1.1 h.ok.nx_le) h.good]
   simp only [jaD, h.out, Bool.false_eq_true, if_false]
   exact h2
  ·cases hf
 exact ⟨fun x ob hf => ⟨(key x ob hf).2.1, (key x ob hf).2.2, (hinv.heap.ok x ob (key x ob hf).1).2.2⟩,
  fun x ob x' ob' k hf hf' => hinv.heap.apart x ob x' ob' k (key x ob hf).1 (key x' ob' hf').1, hinv.heap.glob⟩
theorem jqQ (h : At (n0 := n0) P sp N L tab st0 D D' later r tr o) (hinv : Inv ds L st0 B N n0 ρ0 w0 (later ++ r :: tr) D a w ρ) (hns : jaB o.op = false) (hnl : jaK o.op = false) {lf : Bool} (hf : jcT tab tr.length lf 0 L = true) : HRel ρ B (jaL st0 tr) (jad st0 tr) w := by
 have hbefore : ∀ j oj, j < tr.length → L[j]? = some oj → (jaB oj.op || jaK oj.op) = false → D j = true := fun j oj hij hj hs => by
  simp only [Bool.or_eq_false_iff] at hs
  rcases jbO hf j oj hj with h1 | h1 | h1 | h1 | h1
  ·omega
  ·rw [hs.1] at h1; cases h1
  ·rw [Nat.zero_add] at h1; exact h.bef _ h1
  ·rw [Nat.zero_add] at h1; have := h.low _ _ h1; omega
  ·rw [hs.2] at h1; cases h1.2
 have hall : ∀ j oj, tr.length < j → L[j]? = some oj → (jaB oj.op || jaK oj.op) = false → D j = false := fun j oj hij hj hs => by
  simp only [Bool.or_eq_false_iff] at hs
  exact jfI hns hnl h.ok.op hj hs.1 hs.2 h.low h.tabok h.closed h.out hij (.inr hf)
 have e : jaD D st0 (later ++ r :: tr) = jaL st0 tr := by
  rw [jgV hall (i := tr.length) (tr := r :: tr) (by simp) h.good]
  simp only [jaD, h.out, Bool.false_eq_true, if_false]
  exact (jjB hbefore h.gt (Nat.le_refl _)).1
 have h1 := hinv.heap
 rw [e] at h1
 exact ⟨fun x ob hf => ⟨(keys h.gt h.base x ob hf).1, (keys h.gt h.base x ob hf).2, (h1.ok x ob hf).2.2⟩, h1.apart, h1.glob⟩
theorem jul (hsp : jab P sp) (h : At (n0 := n0) P sp N L tab st0 D D' later r tr o) (hinv : Inv ds L st0 B N n0 ρ0 w0 (later ++ r :: tr) D a w ρ) {K : Act → World → Prop} {Q : Exit → Act → World → Prop}
  (hK : ∀ ρ' a' w', Inv ds L st0 B N n0 ρ0 w0 (later ++ r :: tr) D' a' w' ρ' → K a' w') : wpOp P L.toArray Q tr.length K a w := by
 have hgt := h.gt
 have hreads := jrX h.good h.slots h.tabok h.closed h.out h.ok.op h.bef h.baseTm hinv
 have ho : L.toArray[tr.length]? = some o := by simpa using h.ok.op
 unfold wpOp
 rw [ho]
 dsimp only
 cases h.ok.kind with
 | skip g e =>
  rw [jdu h.slots h.tabok h.closed h.out h.ok.op h.bef hinv g]
  refine hK ρ _ _ ?_
  have := jgX h hinv (by rw [e]; exact (by decide : (0 : Nat) ≠ 2)) (by rw [e]) (by rw [e]) (by rw [e]; rfl)
  rw [show r.v.val ρ = undef by rw [e]; rfl] at this
  exact this
 | pure g ob hs ob' hk e =>
  rw [jdu h.slots h.tabok h.closed h.out h.ok.op h.bef hinv g]
  left
  have hh : HRel ρ B [] (jad st0 tr) w := ⟨(fun _ _ hf => by cases hf), (fun _ _ _ _ _ hf => by cases hf), hinv.heap.glob⟩
  have hrun := jcF hh hreads hs ob'
  unfold Oper.wp
  rw [hrun.1]
  refine hK ρ _ _ (jgX h hinv (by rw [e]; exact (by decide : (0 : Nat) ≠ 2)) (by rw [e]) (by rw [e]) ?_)
  have := jnB hk
  have e2 : r.nx = jad st0 tr := by rw [e]
  rw [e2]
  exact this
 | built g hbo ob hs ob' hk e =>
  rw [jdu h.slots h.tabok h.closed h.out h.ok.op h.bef hinv g]
  left
  have hfo : ∀ x ob, find (jgn (tab.getD tr.length []) st0 tr) x = some ob → ob = .atom ∧ x < jad st0 tr ∧ jau (fun j => (tab.getD tr.length []).contains j) st0 tr x = true ∧ jbD st0 tr x = true := by
   intro x ob hf
   unfold jgn at hf
   rw [jkU] at hf
   cases hy : find ((jaL st0 tr).filter fun x => jau (fun j => (tab.getD tr.length []).contains j) st0 tr x.1 && jbD st0 tr x.1) x with
   | none => rw [hy] at hf; cases hf
   | some y =>
    rw [hy] at hf
    cases hf
    rw [jf1 (p := fun x => jau (fun j => (tab.getD tr.length []).contains j) st0 tr x && jbD st0 tr x)] at hy
    split at hy
    ·rename_i hp
     simp only [Bool.and_eq_true] at hp
     exact ⟨rfl, (keys h.gt h.base x y hy).1, hp.1, hp.2⟩
    ·cases hy
  have hh : HRel ρ B (jgn (tab.getD tr.length []) st0 tr) (jad st0 tr) w := by
   refine ⟨fun x ob hf => ?_, fun x ob x' ob' k hf hf' _ hb => ?_, hinv.heap.glob⟩
   ·obtain ⟨rfl, h1, h2, h3⟩ := hfo x ob hf
    refine ⟨h1, trivial, ?_⟩
    have e1 : later ++ r :: tr = (later ++ [r]) ++ tr := by simp
    refine hinv.one x ?_ ?_
    ·simp only [ja3, Bool.and_eq_true, Nat.blt_eq]
     refine ⟨Nat.lt_of_lt_of_le h1 (Nat.le_trans h.ok.nx_le h.nx), ?_⟩
     rw [e1, jgT (by rw [← e1]; exact h.good) h1]
     exact jes (fun j hj => h.bef j (by simpa using hj)) _ _ h2
    ·rw [e1, jhy (by rw [← e1]; exact h.good) h1]
     exact h3
   ·obtain ⟨rfl, _⟩ := hfo x ob hf
    cases hb
  have hrun := jcF hh hreads hs ob'
  unfold Oper.wp
  rw [hrun.1]
  refine hK ρ _ _ (jgX h hinv (by rw [e]; exact (by decide : (0 : Nat) ≠ 2)) (by rw [e]) (by rw [e]) ?_)
  have := jnB hk
  have e2 : r.nx = jad st0 tr := by rw [e]
  rw [e2]
  exact this
 | load g hp hl x xo hx hf hb hst ob hs ob' hk e =>
  rw [jdu h.slots h.tabok h.closed h.out h.ok.op h.bef hinv g]
  left
  have hxl := (keys h.gt h.base x xo hf).1
  have hin := jtN h.low h.base h.bef h.gt hf hb hst
  have htl := (jmf h.ok.op hl hp hx hf (by rw [e]) h.low h.tabok h.closed h.out hxl hin h.good).1
  have hok := hinv.heap.ok x xo htl
  have hh : HRel ρ B [(x, xo)] (jad st0 tr) w := by
   refine ⟨fun y oy hy => ?_, fun y oy y' oy' k hy hy' hne hby => ?_, hinv.heap.glob⟩
   ·simp only [find] at hy
    split at hy
    ·rename_i e1; subst e1; cases hy
     exact ⟨hxl, (keys h.gt h.base x xo hf).2, hok.2.2⟩
    ·cases hy
   ·simp only [find] at hy hy'
    split at hy
    ·rename_i e1; subst e1
     rw [if_neg hne] at hy'
     cases hy'
    ·cases hy
  have hrun := jcF hh hreads hs ob'
  unfold Oper.wp
  rw [hrun.1]
  refine hK ρ _ _ (jgX h hinv (by rw [e]; exact (by decide : (0 : Nat) ≠ 2)) (by rw [e]) (by rw [e]) ?_)
  have := jnB hk
  have e2 : r.nx = jad st0 tr := by rw [e]
  rw [e2]
  exact this
 | mono g hp hnl hm res hs ob hk e =>
  rw [jdu h.slots h.tabok h.closed h.out h.ok.op h.bef hinv g]
  left
  have hsnd := jeS hsp (jrZ h hinv hp hnl) hinv.le hreads hs ob
  rw [hm] at hsnd
  refine hsnd K Q fun ρ' w' hl => ?_
  have ev : r.v = res.v := by rw [e]
  have en : r.nw = jc5 (jad st0 tr) res.hp := by rw [e]
  have ex : r.nx = res.nx := by rw [e]
  have hsub : ∀ x ob, find r.nw x = some ob → find res.hp x = some ob ∧ jad st0 tr ≤ x := fun x ob hf => by
   rw [en, jmd] at hf
   split at hf
   ·rename_i hle; exact ⟨hf, by simpa [Nat.ble_eq] using hle⟩
   ·cases hf
  have := jrY h hinv hp hnl (by rw [e]; exact (by decide : (1 : Nat) ≠ 2)) (by rw [ev, ex]; exact jnB hk) (fun x ob hf => by rw [ex]; rw [en] at hf; exact (jkR hk hf).2) hl.agree hl.below (hl.mono rfl)
   (by rw [ex]; exact hl.heap.sub fun k o hf => (hsub k o hf).1) (fun x ob k hf hb => hl.fresh rfl x ob k (hsub x ob hf).2 (hsub x ob hf).1 hb)
  have e3 : res.v.val ρ' = r.v.val (jcB ρ ρ' (jad st0 tr) r.nx) := by
   rw [ev]
   exact (V.val_agree (jgW hl.agree) (by rw [ex]; exact hl.lt)).symm
  rw [e3]
  exact hK _ _ _ this
 | effect g hp hnl hf res hs ob hk e =>
  rw [jdu h.slots h.tabok h.closed h.out h.ok.op h.bef hinv g]
  left
  have hsnd := jeS hsp (jqQ h hinv hp hnl hf) hinv.le hreads hs ob
  refine hsnd K Q fun ρ' w' hl => ?_
  have ev : r.v = res.v := by rw [e]
  have eh : r.hp = res.hp := by rw [e]
  have ex : r.nx = res.nx := by rw [e]
  have := jpJ h hinv (by rw [e]) (by rw [ev, ex]; exact jnB hk) (fun x ob hf => by rw [ex]; rw [eh] at hf; exact (jkR hk hf).2) hl.agree hl.below (by rw [ex, eh]; exact hl.heap)
  have e3 : res.v.val ρ' = r.v.val (jcB ρ ρ' (jad st0 tr) r.nx) := by
   rw [ev]
   exact (V.val_agree (jgW hl.agree) (by rw [ex]; exact hl.lt)).symm
  rw [e3]
  exact hK _ _ _ this
def DL (l : Array Bool) (j : Nat) : Bool := l.getD j false
theorem jpK {l : Array Bool} {i : Nat} (hc : jb5 L (DL l)) (hb : ∀ o, L[i]? = some o → ∀ e ∈ o.after.toList, Region.binds .any e = true → DL l e.on = true) : jb5 L (DL (l.setIfInBounds i true)) := by
 intro j o ho hD e he hbd
 by_cases hij : j = i
 ·subst hij
  exact getD_set_true (hb o ho e he hbd)
 ·unfold DL at hD
  rw [getD_set_ne false (Ne.symm hij)] at hD
  exact getD_set_true (hc j o ho hD e he hbd)
theorem jkV {l : Array Bool} (hl : l.size = L.length) (he : jdt 0 L = true) (hr : Region.ready .any L.toArray l = []) : ∀ j, j < L.length → DL l j = true := by
 intro j
 induction j using Nat.strongRecOn with
 | _ j ih =>
  intro hj
  cases hD : DL l j with
  | true => rfl
  | false =>
   exfalso
   have hmem : j ∈ Region.ready .any L.toArray l := by
    rw [mem_ready]
    refine ⟨?_, L[j], by simp [hj], fun e hem hb => ?_⟩
    ·unfold DL at hD
     simp only [Array.getD_eq_getD_getElem?, Array.getElem?_eq_getElem (show j < l.size by omega), Option.getD_some] at hD ⊢
     exact hD
    ·have := jgU he j L[j] (by simp [hj]) e (by simpa using hem) hb
     exact ih e.on (by omega) (by omega)
   rw [hr] at hmem
   cases hmem
theorem count_set {l : Array Bool} {i : Nat} (hi : i < l.size) (h : l[i] = false) : (l.setIfInBounds i true).toList.count false + 1 = l.toList.count false := by
 have h1 : (l.setIfInBounds i true).toList = l.toList.set i true := by simp
 rw [h1, List.count_set (by simpa using hi)]
 have h2 : l.toList[i]'(by simpa using hi) = false := by simpa using h
 have h3 : 0 < l.toList.count false := List.count_pos_iff.2 (by rw [← h2]; exact List.getElem_mem _)
 rw [show l.toList[i]'(by simpa using hi) = false from h2]
 simp only [beq_self_eq_true, if_true, show (true == false) = false from rfl, Bool.false_eq_true, if_false]
 omega
theorem jum (hsp : jab P sp) {T : List Rec} (hg : GoodTr P sp N L tab st0 T) (hlen : T.length = L.length) (hs : jcj L tab 0 L = true) (he : jdt 0 L = true) (ht : jcg L tab) (hbase : jh9 st0)
  (hbt : ∀ t v, ja4 st0.tm t = some v → v.lt st0.nx) (hn0 : n0 ≤ st0.nx) {Q : Exit → Act → World → Prop}
  (hQ : ∀ D ρ a w, (∀ j, j < L.length → D j = true) → Inv ds L st0 B N n0 ρ0 w0 T D a w ρ → Q .normal a w) :
  ∀ (fuel : Nat) (l : Array Bool) (a : Act) (w : World) (ρ : Env), l.size = L.length → jb5 L (DL l) → l.toList.count false ≤ fuel → Inv ds L st0 B N n0 ρ0 w0 T (DL l) a w ρ → wpAny P .any L.toArray Q fuel l a w := by
 intro fuel
 induction fuel with
 | zero =>
  intro l a w ρ hl hc hcount hinv
  have hall : ∀ j, j < l.size → l[j]? ≠ some false := fun j hj h => by
   have hm : false ∈ l.toList := by rw [Array.mem_toList_iff]; exact Array.mem_of_getElem? h
   have := List.count_pos_iff.2 hm
   omega
  have hr : Region.ready .any L.toArray l = [] := by
   apply List.eq_nil_iff_forall_not_mem.2
   intro j hj
   obtain ⟨h0, o, ho, _⟩ := mem_ready.1 hj
   have hlt : j < l.size := by
    have := (Array.getElem?_eq_some_iff.1 ho).1
    simp at this
    omega
   apply hall j hlt
   simp only [Array.getD_eq_getD_getElem?, Array.getElem?_eq_getElem hlt, Option.getD_some] at h0
   rw [Array.getElem?_eq_getElem hlt, h0]
  exact ⟨hr, hQ _ ρ a w (jkV hl he hr) hinv⟩
 | succ fuel ih =>
  intro l a w ρ hl hc hcount hinv
  refine ⟨fun hr => hQ _ ρ a w (jkV hl he hr) hinv, fun i hi => ?_⟩
  obtain ⟨h0, o, ho, hed⟩ := mem_ready.1 hi
  have ho' : L[i]? = some o := by simpa using ho
  have hiL : i < L.length := (List.getElem?_eq_some_iff.1 ho').1
  have hil : i < l.size := by omega
  have hlf : l[i] = false := by simpa [hil] using h0
  have hedge : ∀ o', L[i]? = some o' → ∀ e ∈ o'.after.toList, Region.binds .any e = true → DL l e.on = true := fun o' ho'' e hem hb => by
   rw [ho'] at ho''
   cases ho''
   exact hed e (by simpa using hem) hb
  obtain ⟨later, r, tr, o2, rfl, htl, hrec⟩ := jtL hg (show i < T.length by omega)
  subst htl
  have hoo : o2 = o := by
   have := hrec.op
   rw [ho'] at this
   exact (Option.some.inj this).symm
  subst hoo
  have hat : At (n0 := n0) P sp N L tab st0 (DL l) (DL (l.setIfInBounds tr.length true)) later r tr o2 := by
   refine ⟨hg, hlen, hrec, hs, he, ht, hc, ?_, fun j hj => jd5 ht hc _ j hedge hj, ?_, fun j hj => ?_, hbase, hbt, hn0⟩
   ·unfold DL; simp [hil, hlf]
   ·unfold DL; simp [hil]
   ·unfold DL; exact getD_set_ne false (Ne.symm hj)
  refine jul hsp hat hinv fun ρ' a' w' hinv' => ?_
  have := count_set hil hlf
  exact ih _ a' w' ρ' (by simpa using hl) (jpK hc hedge) (by omega) hinv'
end
end Go.Sx
end

section
open Go.RowKit
namespace Go.Sx
section
variable [Globs] {P : Program} {sp : jaa} {B : Bd} {N n0 : Nat} {L : List Oper} {tab : List (List Nat)} {st0 : St} {ρ0 : Env} {w0 : World} {ds : List Deferred}
theorem jnD {D : Nat → Bool} {t : Nat} : ∀ {T : List Rec}, (∀ j, j < T.length → D j = true) → jbw L D st0 t T = ja4 (jnA L st0 T) t
 | [], _ => rfl
 | r :: tr, h => by
  have ih := jnD (D := D) (t := t) (T := tr) (fun j hj => h j (by simp; omega))
  simp only [jbw, jnA]
  rw [h tr.length (by simp)]
  cases hd : jb6 L tr.length with
  | none => simp [ih]
  | some d =>
   simp only [ja4]
   by_cases e : d = t
   ·simp [e]
   ·simp [e, ih]
theorem jr0 {D : Nat → Bool} {T : List Rec} (hg : GoodTr P sp N L tab st0 T) : (∀ j, j < T.length → D j = true) → jaD D st0 T = jaL st0 T := by
 induction hg with
 | nil => exact fun _ => rfl
 | @cons tr r hgt o hr ih =>
  intro h
  have ih := ih (fun j hj => h j (by simp; omega))
  simp only [jaD]
  show _ = r.hp
  rw [if_pos (h tr.length (by simp))]
  by_cases hk : r.kd = 2
  ·rw [if_pos hk]
  ·rw [if_neg hk, ih, (jbI hr hk).1]
theorem jmj (hm : P.follows .mixedOrders = true) (hsp : jab P sp) {ops : Array Oper} {st : St} {k : St → Prop} {ρ : Env} {a : Act} {w : World} {Q : Exit → Act → World → Prop} (hd : jkP P sp N ops st k) (hr : RelD ds ρ B N n0 st a w) (hag : jai n0 ρ0 ρ) (hbl : Bel B w0 w)
  (hK : ∀ (ρ' : Env) (st' : St) (a' : Act) (w' : World), RelD ds ρ' B N n0 st' a' w' → jai n0 ρ0 ρ' → Bel B w0 w' → k st' → Q .normal a' w') :
  wpAny P .any ops Q ops.size (Array.replicate ops.size false) a { w with drawn := w.drawn + 1 } := by
 unfold jkP at hd
 split at hd
 ·rename_i hok
  simp only [Bool.and_eq_true] at hok
  have htab : jcg ops.toList (jh4 ops.toList []) := jpc _ _ [] (by simp) (by intro i k hk; simp [List.getD] at hk)
  obtain ⟨T, hk, hg, hlen⟩ := jma ops.toList [] _ hd .nil (by simp) (by simp)
  have hbase : jh9 st := fun x o hf => ⟨(hr.heap.ok x o hf).1, (hr.heap.ok x o hf).2.1⟩
  have hbt : ∀ t v, ja4 st.tm t = some v → v.lt st.nx := fun t v h => (hr.tm t v h).1
  have hnx := jiU hg
  have hal : ∀ x, x < st.nx → ja3 st T (DL (Array.replicate ops.size false)) x = true := fun x hx => by
   simp only [ja3, Bool.and_eq_true, Nat.blt_eq]
   exact ⟨Nat.lt_of_lt_of_le hx hnx, jmb hx hg⟩
  have hF : ∀ j, DL (Array.replicate ops.size false) j = false := fun j => by
   unfold DL
   simp only [Array.getD_eq_getD_getElem?, Array.getElem?_replicate]
   split <;> rfl
  have hslot : ∀ t (T : List Rec), jbw ops.toList (DL (Array.replicate ops.size false)) st t T = ja4 st.tm t := fun t T => by
   induction T with
   | nil => rfl
   | cons r tr ih => simp only [jbw, hF]; simpa using ih
  have hheap : ∀ (T : List Rec), jaD (DL (Array.replicate ops.size false)) st T = st.hp := fun T => by
   induction T with
   | nil => rfl
   | cons r tr ih => simp only [jaD, hF]; simpa using ih
  have hbw : Below w.heap.size w { w with drawn := w.drawn + 1 } := ⟨rfl, rfl, rfl, Nat.le_refl _, fun _ _ => rfl⟩
  have hinv : Inv ds ops.toList st B N n0 ρ0 w0 T (DL (Array.replicate ops.size false)) a { w with drawn := w.drawn + 1 } ρ := by
   refine ⟨fun t v hv => ?_, hr.size, hr.defers, ?_, fun x o hf => ?_, hr.le, hag, ⟨hbl.os, hbl.tape, hbl.output, hbl.size, hbl.block⟩, fun x => ?_⟩
   ·rw [hslot] at hv
    exact ⟨V.allB_of_lt hal (hr.tm t v hv).1, (hr.tm t v hv).2⟩
   ·rw [hheap]
    exact (hr.heap.below hbw hr.le).mono_nx hnx
   ·rw [hheap] at hf
    exact ⟨hal x (hbase x o hf).1, O.allB_of_lt hal (hbase x o hf).2⟩
   ·have hfb : ∀ (T : List Rec), GoodTr P sp N ops.toList (jh4 ops.toList []) st T → x < jad st T → jau (DL (Array.replicate ops.size false)) st T x = true → x < st.nx := fun T hg => by
     induction hg with
     | nil => exact fun h _ => h
     | @cons tr r h' o hr ih =>
      intro hlt hb
      simp only [jau] at hb
      split at hb
      ·rw [hF] at hb; cases hb
      ·rename_i hb'
       exact ih (Nat.lt_of_not_le fun hc => by rw [Nat.ble_eq_true_of_le hc] at hb'; cases hb') hb
    intro hx hb
    simp only [ja3, Bool.and_eq_true, Nat.blt_eq] at hx
    have hlt := hfb T hg hx.1 hx.2
    rw [jh6 hlt hg] at hb
    exact C.one_val (c := .o x) hr.heap hb
  have := jum (Q := Q) (n0 := n0) (B := B) (ρ0 := ρ0) (w0 := w0) hsp hg hlen hok.1 hok.2 htab hbase hbt hr.n0 (fun D ρ' a' w' hall hi => ?_) ops.size (Array.replicate ops.size false) a _ ρ (by simp) (fun j o _ hD => by rw [hF] at hD; cases hD) (by simp) hinv
  ·simpa using this
  ·have hall' : ∀ j, j < T.length → D j = true := fun j hj => hall j (by omega)
   refine hK ρ' (jtt ops.toList st T) a' w' ⟨fun t v hv => ?_, hi.size, hi.defers, ?_, hi.le, Nat.le_trans hr.n0 hnx⟩ hi.agree hi.below hk
   ·have h1 := hi.tm t v (by rw [jnD hall']; exact hv)
    refine ⟨V.lt_of_allB (fun x hx => ?_) h1.1, h1.2⟩
    simp only [ja3, Bool.and_eq_true, Nat.blt_eq] at hx
    exact hx.1
   ·have := hi.heap
    rw [jr0 hg hall'] at this
    exact this
 ·exact hd.elim
end
end Go.Sx
end

section
open Go.RowKit
namespace Go.Sx
def jpL [Globs] (t : Nat) : Option Operand → Option Operand → Bool
 | some _, none => Globs.cutT t
 | _, _ => false
def jnE [Globs] (P : Program) (op : Op) (rd : Operand → Option V) (hp : Hp) (nx : Nat) : Option Res :=
 match op with
 | .move x => (rd x).map fun v => ⟨True, v, hp, nx⟩
 | .slice t x lo hi none => match jpL t lo hi with
  | true => jc6 P (.slice t x lo hi none) rd hp nx
  | false => match P.underlying t, rd x, ja0 rd lo, ja0 rd hi with
   | some (.slice elem), some (.w (.c (.o h))), some l, some m => match find hp h, szT P elem with
    | some ob, some (e + 1) => match ob.cont with
     | some c => match Nat.beq c.e (e + 1) with
      | true => some ⟨0 ≤ l.getD 0 ∧ l.getD 0 ≤ m.getD (c.n : Int) ∧ m.getD (c.n : Int) ≤ (c.n : Int), .w (.c (.o nx)), (nx, jfV h ob (c.sub (l.getD 0).toNat (m.getD (c.n : Int)).toNat)) :: hp, nx + 1⟩
      | false => none
     | none => none
    | _, _ => none
   | _, _, _, _ => none
 | _ => none
def jqR : Op → Bool
 | .slice _ _ _ _ none => true
 | _ => false
def jqS : Op → Bool
 | .store _ _ _ => true
 | _ => false
def jun (L : List Oper) (tab : List (List Nat)) (j : Nat) : Bool :=
 match L[j]? with
 | some o => jqR o.op && (List.range L.length).any fun i => match L[i]? with
  | some s => jqS s.op && !((tab.getD i []).contains j) && !((tab.getD j []).contains i)
  | none => false
 | none => false
def jr1 (L : List Oper) : List Nat :=
 let tab := jh4 L []
 let bad := (List.range L.length).filter (jun L tab)
 (List.range L.length).filter fun i => bad.contains i || bad.any fun j => (tab.getD j []).contains i
def jet (o : Oper) (t : Nat) : Oper := { o with op := .move (.tmp t) }
def jck (ops : Array Oper) (i t : Nat) (o : Oper) : Array Oper := ops.setIfInBounds i (jet o t)
def jmS (ops : Array Oper) (listed : Array Bool) (i : Nat) : Bool :=
 Region.noSelect ops && Region.free .any ops listed i && (Region.ready .any ops listed).contains i
def jkW [Globs] (P : Program) (sp : jaa) (N : Nat) (ops : Array Oper) : List Nat → Array Bool → Array Oper → St → (St → Prop) → Prop
 | [], _, ops', st, k => jkP P sp N ops' st k
 | i :: F, listed, ops', st, k => match ops[i]?, jmS ops listed i with
  | some o, true => match o.guard, o.dst with
   | none, some t => match jnE P o.op (jdh st) st.hp st.nx, Nat.blt t N with
    | some r, true => Ob r.ob ∧ jkW P sp N ops F (listed.setIfInBounds i true) (jck ops' i t o) (st.put (some t) r) k
    | _, _ => False
   | _, _ => False
  | _, _ => False
def jbU [Globs] (P : Program) (sp : jaa) (N : Nat) (ops : Array Oper) (st : St) (k : St → Prop) : Prop :=
 match jr1 ops.toList with
 | [] => jkP P sp N ops st k
 | i :: F => match Nat.ble (i :: F).length ops.size with
  | false => False
  | true => jkW P sp N ops (i :: F) (Array.replicate ops.size false) ops st k
section
variable {P : Program} {ops ops' : Array Oper} {Q : Exit → Act → World → Prop}
theorem jjV {l : Array Bool} (h1 : ops'.size = ops.size) (h2 : ∀ j : Nat, (ops'[j]?).map Oper.after = (ops[j]?).map Oper.after) : Region.ready .any ops' l = Region.ready .any ops l := by
 unfold Region.ready
 rw [h1]
 refine List.filter_congr fun i _ => ?_
 have := h2 i
 cases ha : ops'[i]? <;> cases hb : ops[i]? <;> simp [ha, hb] at this ⊢
 rw [this]
theorem jpM (h2 : ∀ j : Nat, (ops'[j]?).map Oper.dst = (ops[j]?).map Oper.dst) (tmps : Array Value) : yielded ops' tmps = yielded ops tmps := by
 funext g
 unfold yielded
 have : (ops'[g]?).bind Oper.dst = (ops[g]?).bind Oper.dst := by
  have := h2 g
  cases ha : ops'[g]? <;> cases hb : ops[g]? <;> simp [ha, hb] at this ⊢
  exact this
 rw [this]
theorem jkX (h1 : ops'.size = ops.size) (h2 : ∀ j : Nat, (ops'[j]?).map Oper.after = (ops[j]?).map Oper.after) (h3 : ∀ j : Nat, (ops'[j]?).map Oper.dst = (ops[j]?).map Oper.dst) :
  ∀ (n : Nat) (l : Array Bool) (a : Act) (w : World), (∀ j : Nat, l.getD j true = false → ops'[j]? = ops[j]?) → wpAny P .any ops' Q n l a w → wpAny P .any ops Q n l a w
 | 0, l, a, w, _, h => by
  rw [wpAny] at h ⊢
  rw [jjV h1 h2] at h
  exact h
 | n + 1, l, a, w, hs, h => by
  rw [wpAny] at h ⊢
  rw [jjV h1 h2] at h
  refine ⟨h.1, fun i hi => ?_⟩
  have hk := h.2 i hi
  have hun := (mem_ready.1 hi).1
  have ih := fun a w => jkX h1 h2 h3 n (l.setIfInBounds i true) a w (fun j hj => by
   refine hs j ?_
   by_cases e : i = j
   ·subst e; exact hun
   ·rwa [getD_set_ne true e] at hj)
  have hk2 := wpOp_mono ih hk
  unfold wpOp at hk2 ⊢
  rw [hs i hun] at hk2
  simp only [jpM h3] at hk2
  exact hk2
theorem jr2 {a : Act} {t : Nat} : a.put (some t) (a.tmps.getD t undef) = a := by
 obtain ⟨tmps, d⟩ := a
 simp only [Act.put]
 congr 1
 apply Array.ext
 ·simp
 ·intro i h1 h2
  rw [Array.getElem_setIfInBounds]
  split
  ·rename_i e; subst e; simp [h2]
  ·rfl
theorem jqT {n i t : Nat} {o : Oper} {l : Array Bool} {a : Act} {w : World} (hi : ops'[i]? = some (jet o t)) (hg : o.guard = none) (hd : o.dst = some t) (hr : i ∈ Region.ready .any ops' l)
  (h : wpAny P .any ops' Q (n + 1) l a w) : wpAny P .any ops' Q n (l.setIfInBounds i true) a w := by
 rw [wpAny] at h
 have hk := h.2 i hr
 unfold wpOp at hk
 have hw : Region.wanted (jet o t) (yielded ops' a.tmps) = true := by simp [Region.wanted, jet, hg]
 simp only [hi, hw, if_true] at hk
 have hrun : (execOp a.eval (jet o t)).run P w = .ok (.value (a.tmps.getD t undef)) w := by
  unfold execOp jet
  simp [Act.eval]
 rcases hk with hk | hk
 ·unfold Oper.wp at hk
  rw [hrun] at hk
  simp only [Oper.upon] at hk
  have hdst : (jet o t).dst = some t := hd
  rw [hdst, jr2] at hk
  exact hk
 ·have hk := hk.1.1
  change noRoomEvent ∈ (#[] : Array Event) at hk
  simp at hk
end
section
variable [Globs] {P : Program} {sp : jaa} {B : Bd} {N n0 : Nat} {ρ : Env} {a : Act} {w : World} {hp : Hp} {nx : Nat} {rd : Operand → Option V} {ds : List Deferred}
theorem jqU {o : Oper} {r : Res} {t : Nat} (hh : HRel ρ B hp nx w) (hB : Old B w) (hr : jaR ρ nx rd a) (h : jnE P o.op rd hp nx = some r) (hob : r.ob) (hd : o.dst = some t) (ht : t < a.tmps.size) :
  ∃ ρ' M, Left ρ B nx w r M ρ' w ∧ ∀ w', (execOp a.eval o).run P w' = .ok (.value (r.v.val ρ')) w' := by
 unfold jnE at h
 split at h
 ·rename_i x hop
  cases hx : rd x with
  | none => simp [hx] at h
  | some v =>
   simp only [hx, Option.map_some, Option.some.injEq] at h
   subst h
   have := hr x v hx
   refine ⟨ρ, true, ⟨jai.refl _ _, this.1, Nat.le_refl _, hh, Bel.refl _ _, fun _ => Below.refl _ _, fun _ h o k hn hf _ => absurd (hh.ok h o hf).1 (by omega)⟩, fun w' => ?_⟩
   unfold execOp
   simp [hop, this.2]
 ·rename_i ty x lo hi hop
  split at h
  ·rename_i hcut
   cases lo with
   | none => simp [jpL] at hcut
   | some lo =>
   cases hi with
   | some hi => simp [jpL] at hcut
   | none =>
   unfold jc6 at h
   dsimp only at h
   split at h
   ·split at h
    ·rename_i elem hh' k l hu hx hl
     split at h
     ·rename_i c e hfc hs
      split at h
      ·rename_i hce
       cases h
       cases hf : find hp hh' with
       | none => simp [hf] at hfc
       | some ob =>
        simp only [hf, Option.bind_some] at hfc
        obtain ⟨v, hrun, hl⟩ := jhw hh hr hop hu hx hl hf hfc hs (Nat.eq_of_beq_eq_true hce) hob
        exact ⟨upd ρ nx v, false, hl, fun w' => by rw [hrun w']; show Result.ok (Next.value v) w' = .ok (.value (upd ρ nx v nx)) w'; rw [upd_same]⟩
      ·cases h
     ·cases h
    ·cases h
   ·cases h
  rename_i hcut
  split at h
  ·rename_i elem hh' l m hu hx hl hm
   split at h
   ·rename_i ob e hf hs
    split at h
    ·rename_i c hc
     split at h
     ·rename_i hce
      cases h
      have hce : c.e = e + 1 := Nat.eq_of_beq_eq_true hce
      obtain ⟨h0, h1, h2⟩ := hob
      have hok := hh.ok hh' ob hf
      obtain ⟨a2, cap, hv, ⟨hcap, _⟩, _⟩ := jbf hok.2.2 hc
      obtain ⟨k1, hlv⟩ := jfD hr hl
      obtain ⟨k2, hmv⟩ := jfD hr hm
      have hxv : a.eval x = .slice a2 c.n cap := by rw [(hr _ _ hx).2]; exact hv
      have hrun : ∀ w', (execOp a.eval o).run P w' = .ok (.value (.slice (if cap = (l.getD 0).toNat then a2 else a2.map (·.add ((l.getD 0).toNat * c.e))) ((m.getD (c.n : Int)).toNat - (l.getD 0).toNat) (cap - (l.getD 0).toNat))) w' := fun w' => by
       have hsb := jcC (P := P) (w := w') (len := c.n) (cap := cap) (l := l) (m := m) (k := k1) (k' := k2) h0 h1 h2 hcap
       unfold execOp
       simp only [hop, hxv, hlv, hmv, Option.map_none, Instr.sliceAt, Instr.slice, Sem.run_bind, run_underlying hu, Result.andThen_ok, hsb, jaP w' hs, Sem.run_pure]
       simp [hce]
      have hS := jfc (P := P) hh hB hr hop hu hx hl hm hf hs hc hce ⟨h0, h1, h2⟩ ⟨0 ≤ l.getD 0 ∧ l.getD 0 ≤ m.getD (c.n : Int) ∧ m.getD (c.n : Int) ≤ (c.n : Int), .w (.c (.o nx)), (nx, jfV hh' ob (c.sub (l.getD 0).toNat (m.getD (c.n : Int)).toNat)) :: hp, nx + 1⟩ rfl rfl rfl
       (fun a' w' => ∃ ρ', Left ρ B nx w ⟨0 ≤ l.getD 0 ∧ l.getD 0 ≤ m.getD (c.n : Int) ∧ m.getD (c.n : Int) ≤ (c.n : Int), .w (.c (.o nx)), (nx, jfV hh' ob (c.sub (l.getD 0).toNat (m.getD (c.n : Int)).toNat)) :: hp, nx + 1⟩ true ρ' w' ∧ a' = a.put o.dst (ρ' nx)) (fun _ _ _ => False) (fun ρ' w' hl' => ⟨ρ', hl', rfl⟩)
      unfold Oper.wp at hS
      rw [hrun w] at hS
      simp only [Oper.upon] at hS
      obtain ⟨ρ', hl', he⟩ := hS
      refine ⟨ρ', true, hl', fun w' => ?_⟩
      rw [hrun w']
      have e2 := congrArg (fun x : Act => x.tmps.getD t undef) he
      rw [hd] at e2
      simp only [Act.put, Array.getD_eq_getD_getElem?, Array.getElem?_setIfInBounds_self_of_lt ht, Option.getD_some] at e2
      rw [e2]
      rfl
     ·cases h
    ·cases h
   ·cases h
  ·cases h
 ·cases h
theorem jpN {ops ops' : Array Oper} {i t : Nat} {o : Oper} (h : ∀ j : Nat, (ops'[j]?).map Oper.after = (ops[j]?).map Oper.after) (hi : ops[i]? = some o) (j : Nat) : ((jck ops' i t o)[j]?).map Oper.after = (ops[j]?).map Oper.after := by
 unfold jck
 rw [Array.getElem?_setIfInBounds]
 split
 ·rename_i e
  subst e
  have := h i
  rw [hi] at this ⊢
  split
  ·rfl
  ·rename_i hlt
   rw [Array.getElem?_eq_none (by omega)] at this
   cases this
 ·exact h j
theorem jr3 {ops ops' : Array Oper} {i t : Nat} {o : Oper} (h : ∀ j : Nat, (ops'[j]?).map Oper.dst = (ops[j]?).map Oper.dst) (hi : ops[i]? = some o) (j : Nat) : ((jck ops' i t o)[j]?).map Oper.dst = (ops[j]?).map Oper.dst := by
 unfold jck
 rw [Array.getElem?_setIfInBounds]
 split
 ·rename_i e
  subst e
  have := h i
  rw [hi] at this ⊢
  split
  ·rfl
  ·rename_i hlt
   rw [Array.getElem?_eq_none (by omega)] at this
   cases this
 ·exact h j
inductive Taken (ops : Array Oper) : Array Bool → Array Oper → Nat → Prop where
 | nil : Taken ops (Array.replicate ops.size false) ops 0
 | cons {l : Array Bool} {ops' : Array Oper} {n i t : Nat} {o : Oper} : Taken ops l ops' n → ops[i]? = some o → jmS ops l i = true → o.guard = none → o.dst = some t →
   Taken ops (l.setIfInBounds i true) (jck ops' i t o) (n + 1)
theorem jgY {ops : Array Oper} {l : Array Bool} {i : Nat} (h : jmS ops l i = true) : Region.noSelect ops = true ∧ Region.free .any ops l i = true ∧ i ∈ Region.ready .any ops l := by
 simp only [jmS, Bool.and_eq_true] at h
 exact ⟨h.1.1, h.1.2, by simpa using h.2⟩
theorem Taken.facts {ops : Array Oper} {l : Array Bool} {ops' : Array Oper} {n : Nat} (h : Taken ops l ops' n) :
  ops'.size = ops.size ∧ (∀ j : Nat, (ops'[j]?).map Oper.after = (ops[j]?).map Oper.after) ∧ (∀ j : Nat, (ops'[j]?).map Oper.dst = (ops[j]?).map Oper.dst) ∧
   (∀ j : Nat, l.getD j true = false → ops'[j]? = ops[j]?) ∧ l.size = ops.size := by
 induction h with
 | nil => exact ⟨rfl, fun _ => rfl, fun _ => rfl, fun _ _ => rfl, by simp⟩
 | @cons l ops' n i t o h hi ht hg hd ih =>
  obtain ⟨h1, h2, h3, h4, h5⟩ := ih
  refine ⟨by simp [jck, h1], jpN h2 hi, jr3 h3 hi, fun j hj => ?_, by simp [h5]⟩
  by_cases e : i = j
  ·subst e
   have hlt : i < l.size := by rw [h5]; exact (Array.getElem?_eq_some_iff.1 hi).1
   simp [hlt] at hj
  ·rw [getD_set_ne true e] at hj
   unfold jck
   rw [Array.getElem?_setIfInBounds_ne e]
   exact h4 j hj
theorem Taken.idle {ops : Array Oper} {Q : Exit → Act → World → Prop} {a : Act} {w : World} {l : Array Bool} {ops' : Array Oper} {n : Nat} (h : Taken ops l ops' n) :
  ∀ (opsF : Array Oper) (m : Nat), opsF.size = ops.size → (∀ j : Nat, (opsF[j]?).map Oper.after = (ops[j]?).map Oper.after) → (∀ j : Nat, l.getD j true = true → opsF[j]? = ops'[j]?) →
   wpAny P .any opsF Q (m + n) (Array.replicate ops.size false) a w → wpAny P .any opsF Q m l a w := by
 induction h with
 | nil => exact fun _ _ _ _ _ h => h
 | @cons l ops' n i t o h hi ht hg hd ih =>
  intro opsF m h1 h2 h3 hw
  obtain ⟨f1, f2, f3, f4, f5⟩ := h.facts
  have hlt : i < ops.size := (Array.getElem?_eq_some_iff.1 hi).1
  have hself : opsF[i]? = some (jet o t) := by
   rw [h3 i (by simp [hlt, f5])]
   unfold jck
   simp [f1, hlt]
  refine jqT hself hg hd ?_ (ih opsF (m + 1) h1 h2 (fun j hj => ?_) (by rwa [Nat.add_assoc, Nat.add_comm 1 n]))
  ·rw [jjV h1 h2]
   exact (jgY ht).2.2
  ·by_cases e : i = j
   ·subst e
    have := (mem_ready.1 (jgY ht).2.2).1
    rw [this] at hj
    cases hj
   ·rw [h3 j (by rw [getD_set_ne true e]; exact hj)]
    unfold jck
    rw [Array.getElem?_setIfInBounds_ne e]
variable {w0 : World} {ρ0 : Env} in
theorem jnF (hm : P.follows .mixedOrders = true) (hsp : jab P sp) {ops : Array Oper} {k : St → Prop} {Q : Exit → Act → World → Prop} (hQ : ∀ c a w, ¬ Q (.panic c) a w)
  (hK : ∀ (ρ' : Env) (st' : St) (a' : Act) (w' : World), RelD ds ρ' B N n0 st' a' w' → jai n0 ρ0 ρ' → Bel B w0 w' → k st' → Q .normal a' w') :
  ∀ (F : List Nat) (l : Array Bool) (ops' : Array Oper) (n m : Nat) (st : St) (ρ : Env) (a : Act) (w : World), jkW P sp N ops F l ops' st k → Taken ops l ops' n → m + n = ops.size → F.length ≤ m → RelD ds ρ B N n0 st a w → jai n0 ρ0 ρ → Bel B w0 w →
   wpAny P .any ops Q m l a { w with drawn := w.drawn + 1 }
 | [], l, ops', n, m, st, ρ, a, w, h, ht, hn, _, hr, hag, hbl => by
  unfold jkW at h
  obtain ⟨f1, f2, f3, f4, f5⟩ := ht.facts
  have h1 := jmj (Q := Q) hm hsp h hr hag hbl hK
  rw [f1, ← hn] at h1
  have h2 := ht.idle (Q := Q) ops' m f1 f2 (fun _ _ => rfl) (by rw [← hn]; exact h1)
  exact jkX f1 f2 f3 m l a _ f4 h2
 | i :: F, l, ops', n, m, st, ρ, a, w, h, ht, hn, hF, hr, hag, hbl => by
  unfold jkW at h
  split at h
  ·rename_i o hi htb
   split at h
   ·rename_i t hg hd
    split at h
    ·rename_i r hr2 hlt
     obtain ⟨ρ', M, hl, hrun⟩ := jqU hr.heap hr.le hr.reads hr2 h.1.h hd (by rw [hr.size]; simpa [Nat.blt_eq] using hlt)
     have hput := hr.put (o := o) (by rw [hd]; simpa [jc7] using hlt) hl
     rw [hd] at hput
     obtain ⟨m', rfl⟩ : ∃ m', m = m' + 1 := ⟨m - 1, by simp at hF; omega⟩
     have ih := jnF hm hsp hQ hK F (l.setIfInBounds i true) (jck ops' i t o) (n + 1) m' (st.put (some t) r) ρ' _ w h.2 (ht.cons hi htb hg hd) (by omega) (by simpa using hF) hput (hag.trans hl.agree hr.n0) hbl
     obtain ⟨t1, t2, t3⟩ := jgY htb
     refine wpAny_take (v := r.v.val ρ') hi t1 t2 (by simpa using t3) (fun c a w hq => absurd hq (hQ c _ w)) (.inl ⟨by simp [Region.wanted, hg], hrun⟩) ?_
     rw [hd]
     exact ih
    ·exact h.elim
   ·exact h.elim
  ·exact h.elim
theorem jkY {w0 : World} {ρ0 : Env} (hm : P.follows .mixedOrders = true) (hsp : jab P sp) {ops : Array Oper} {st : St} {k : St → Prop} {ρ : Env} {a : Act} {w : World} {Q : Exit → Act → World → Prop} (hQ : ∀ c a w, ¬ Q (.panic c) a w) (hd : jbU P sp N ops st k) (hr : RelD ds ρ B N n0 st a w) (hag : jai n0 ρ0 ρ) (hbl : Bel B w0 w)
  (hK : ∀ (ρ' : Env) (st' : St) (a' : Act) (w' : World), RelD ds ρ' B N n0 st' a' w' → jai n0 ρ0 ρ' → Bel B w0 w' → k st' → Q .normal a' w') :
  wpAny P .any ops Q ops.size (Array.replicate ops.size false) a { w with drawn := w.drawn + 1 } := by
 unfold jbU at hd
 split at hd
 ·exact jmj hm hsp hd hr hag hbl hK
 ·rename_i i F _
  split at hd
  ·exact hd.elim
  ·rename_i hle
   exact jnF hm hsp hQ hK (i :: F) _ ops 0 ops.size st ρ a w hd .nil rfl (Nat.le_of_ble_eq_true hle) hr hag hbl
theorem jbs {w0 : World} {ρ0 : Env} (hm : P.follows .mixedOrders = true) (hsp : jab P sp) : jgk P B N n0 ρ0 w0 (jbU P sp N) := by
 intro ds id ops st k ρ a w Q hd hr hag hbl hK
 have h1 := wp_region_any (id := id) hm (jkY (Q := fun e a w => match e with | .normal => Q .normal a w | _ => False) hm hsp (fun _ _ _ h => h) hd hr hag hbl hK)
 refine wp_mono h1 ?_
 intro e a w h
 cases e <;> first | exact h | exact h.elim
end
end Go.Sx
end

section
open Go.RowKit
namespace Go.Sx
def jfJ (o : Oper) : Bool := match o.op with
 | .defer _ => false
 | _ => true
theorem jpO {o : Oper} (h : jfJ o = true) : ∀ c, o.op ≠ .defer c := fun c e => by
 unfold jfJ at h
 rw [e] at h
 cases h
section
variable {P : Program} {l n : Nat} {a : Act} {w : World} {Q : Exit → Act → World → Prop}
theorem Oper.wpIn_of_wp {o : Oper} {K K' : Act → World → Prop} (hd : jfJ o = true) (hK : ∀ a w, K a w → K' a w) (h : o.wp P a w K Q) : o.wpIn (Fence.wide.inRound l) n P a w K' Q := by
 refine ⟨fun _ _ => trivial, ?_⟩
 have hs : o.semAt (some l) a.eval = execOp a.eval o := Oper.semAt_some l a.eval o (jpO hd)
 show o.uponIn (Fence.wide.inRound l) n P a K' Q ((o.semAt (some l) a.eval).run P w)
 rw [hs]
 unfold Oper.wp at h
 generalize (execOp a.eval o).run P w = r at *
 cases r with
 | ok x w' =>
  cases x with
  | value v => exact hK _ _ h
  | skip => exact hK _ _ h
  | defer d => exact hK _ _ h
  | enter f args =>
   refine ⟨fun h => (by cases h), CallsIn.inRound l (callsIn_wide.2 (Calls.mono (show Calls P f args w' _ from h) ?_))⟩
   intro e w'' he
   cases e with
   | returned v => exact hK _ _ he
   | panicked ch => exact he
   | outgrown => exact he
  | row r args =>
   refine ⟨fun h => (by cases h), ?_⟩
   intro c cs _
   obtain ⟨v, w'', hr, hst⟩ := h c cs
   exact ⟨v, w'', hK _ _ hr, (stepsIn_wide (P := P)).2 hst⟩
  | _ => exact h.elim
 | halt x w' =>
  cases x with
  | panic v => exact h
  | _ => exact h.elim
theorem jf4 {ops : Array Oper} (hlo : ¬ LetsOut Q) : ∀ (os : List Oper) (a : Act) (w : World), os.all jfJ = true → wpList P ops Q os a w → wpListIn (Fence.wide.inRound l) n P ops Q os a w
 | [], _, _, _, h => h
 | o :: r, a, w, hd, h => by
  simp only [List.all_cons, Bool.and_eq_true] at hd
  unfold wpList at h
  unfold wpListIn
  split at h
  ·rename_i hw
   rw [if_pos hw]
   rcases h with h | h
   ·exact Oper.wpIn_of_wp hd.1 (fun a w => jf4 hlo r a w hd.2) h
   ·exact absurd h.2 hlo
  ·rename_i hw
   rw [if_neg hw]
   exact ⟨fun _ _ => trivial, jf4 hlo r _ _ hd.2 h⟩
theorem jeX {ops : Array Oper} (hlo : ¬ LetsOut Q) (hd : ops.toList.all jfJ = true) : ∀ (f : Nat) (b : Array Bool) (a : Act) (w : World), wpAny P .any ops Q f b a w → wpAnyIn (Fence.wide.inRound l) n P .any ops Q f b a w
 | 0, _, _, _, h => h
 | f + 1, b, a, w, h => by
  refine ⟨h.1, fun i hi => ?_⟩
  have h2 := h.2 i hi
  unfold wpOp at h2
  unfold wpOpIn
  cases ho : ops[i]? with
  | none =>
   rw [ho] at h2
   exact jeX hlo hd f _ a w h2
  | some o =>
   rw [ho] at h2
   dsimp only at h2 ⊢
   have hod : jfJ o = true := List.all_eq_true.1 hd o (by
    have := List.mem_of_getElem? (l := ops.toList) (i := i) (a := o) (by simpa using ho)
    exact this)
   split at h2
   ·rename_i hw
    rw [if_pos hw]
    rcases h2 with h2 | h2
    ·exact Oper.wpIn_of_wp hod (fun a w => jeX hlo hd f _ a w) h2
    ·exact absurd h2.2 hlo
   ·rename_i hw
    rw [if_neg hw]
    exact ⟨fun _ _ => trivial, jeX hlo hd f _ _ _ h2⟩
end
theorem jfi {P : Program} {n : Nat} {ops : Array Oper} {Q : Exit → Act → World → Prop} (hlo : ¬ LetsOut Q) {l2 : List Oper} : ∀ (l1 : List Oper) (a : Act) (w : World), wpList P ops (Exit.then (fun a w => wpListIn Fence.wide n P ops Q l2 a w) Q) l1 a w → wpListIn Fence.wide n P ops Q (l1 ++ l2) a w
 | [], _, _, h => h
 | o :: r, a, w, h => by
  unfold wpList at h
  show wpListIn Fence.wide n P ops Q (o :: (r ++ l2)) a w
  unfold wpListIn
  split at h
  ·rename_i hw
   rw [if_pos hw]
   rcases h with h | h
   ·have ih := jfi (P := P) (ops := ops) (n := n) hlo (l2 := l2) r
    refine ⟨fun _ _ => trivial, ?_⟩
    have hs : o.semAt Fence.wide.round a.eval = execOp a.eval o := Oper.semAt_none a.eval o
    rw [hs]
    unfold Oper.wp at h
    generalize (execOp a.eval o).run P w = x at *
    cases x with
    | ok x w' =>
     cases x with
     | value v => exact ih _ _ h
     | skip => exact ih _ _ h
     | defer d => exact ih _ _ h
     | enter f args =>
      refine ⟨fun h => (by cases h), callsIn_wide.2 (Calls.mono (show Calls P f args w' _ from h) ?_)⟩
      intro e w'' he
      cases e with
      | returned v => exact ih _ _ he
      | panicked ch => exact he
      | outgrown => exact he
     | row q args =>
      refine ⟨fun h => (by cases h), ?_⟩
      intro c cs _
      obtain ⟨v, w'', hr, hst⟩ := h c cs
      exact ⟨v, w'', ih _ _ hr, (stepsIn_wide (P := P)).2 hst⟩
     | _ => exact h.elim
    | halt x w' =>
     cases x with
     | panic v => exact h
     | _ => exact h.elim
   ·exact absurd h.2 hlo
  ·rename_i hw
   rw [if_neg hw]
   exact ⟨fun _ _ => trivial, jfi hlo r _ _ h⟩
def jcJ : Code → Bool
 | .skip => true
 | .label _ => true
 | .region _ ops _ => ops.toList.all jfJ
 | .seq x y => jcJ x && jcJ y
 | .cond _ x y => jcJ x && jcJ y
 | .block _ c => jcJ c
 | .exit _ => true
 | .ret => true
 | _ => false
section
variable [Globs] {P : Program} {sp : jaa} {B : Bd} {N n0 : Nat} {ρ0 : Env} {w0 : World} {ds : List Deferred}
theorem jpe {k : Ex → St → Prop} : ¬ LetsOut (Qx ds ρ0 B N n0 w0 k) := by
 rintro ⟨a, w, x, ρ', st', he, _⟩
 cases x <;> cases he
theorem jcq {l n fuel : Nat} {loops : jfE} (hm : P.follows .mixedOrders = true) (hsp : jab P sp) :
  ∀ (c : Code) (cur : Nat) (gs : List Nat) (st : St) (k : Ex → St → Prop) (ρ : Env) (a : Act) (w : World), jcJ c = true → sx P sp N n0 fuel loops (jbU P sp N) c cur gs st k → RelD ds ρ B N n0 st a w → jai n0 ρ0 ρ → Bel B w0 w →
   c.wpIn (Fence.wide.inRound l) n P (Qx ds ρ0 B N n0 w0 k) a w
 | .skip, _, _, st, k, ρ, a, w, _, h, hr, hag, hbl => wpIn_skip ⟨.normal, ρ, st, rfl, h, hr, hag, hbl⟩
 | .label _, _, _, st, k, ρ, a, w, _, h, hr, hag, hbl => wpIn_label ⟨.normal, ρ, st, rfl, h, hr, hag, hbl⟩
 | .region id ops draw, _, _, st, k, ρ, a, w, hst, h, hr, hag, hbl => by
  unfold sx at h
  have hd : ops.toList.all jfJ = true := hst
  cases draw with
  | false =>
   refine wpIn_region_list (jf4 jpe ops.toList a w hd ?_)
   have := jeT (P := P) (Q := Qx ds ρ0 B N n0 w0 k) (k := fun st' => k .normal st') (all := ops.toList) hsp (fun ρ' st' a' w' h1 h2 h3 h4 => ⟨.normal, ρ', st', rfl, h4, h1, h2, h3⟩) ops.toList ρ st a w hr hag hbl h
   simpa using this
  | true => exact wpIn_region_any hm (jeX jpe hd _ _ _ _ (jkY (Q := Qx ds ρ0 B N n0 w0 k) hm hsp (fun c a w ⟨x, _, _, he, _⟩ => by cases x <;> cases he) h hr hag hbl (fun ρ' st' a' w' h1 h2 h3 h4 => ⟨.normal, ρ', st', rfl, h4, h1, h2, h3⟩)))
 | .seq x y, cur, gs, st, k, ρ, a, w, hst, h, hr, hag, hbl => by
  unfold sx at h
  simp only [jcJ, Bool.and_eq_true] at hst
  refine wpIn_seq (wpIn_mono (jcq hm hsp x cur gs st _ ρ a w hst.1 h hr hag hbl) ?_)
  rintro e a' w' ⟨ex, ρ', st', rfl, hk, hr', hag', hbl'⟩
  cases ex with
  | normal => exact jcq hm hsp y cur gs st' k ρ' a' w' hst.2 hk hr' hag' hbl'
  | exit j => exact ⟨.exit j, ρ', st', rfl, hk, hr', hag', hbl'⟩
  | ret => exact ⟨.ret, ρ', st', rfl, hk, hr', hag', hbl'⟩
 | .cond c x y, cur, gs, st, k, ρ, a, w, hst, h, hr, hag, hbl => by
  unfold sx at h
  simp only [jcJ, Bool.and_eq_true] at hst
  split at h
  ·rename_i b hb
   have he := jl7 hr hb
   cases b with
   | true => exact wpIn_cond_true he (jcq hm hsp x cur gs st k ρ a w hst.1 h hr hag hbl)
   | false => exact wpIn_cond_false he (jcq hm hsp y cur gs st k ρ a w hst.2 h hr hag hbl)
  ·exact h.elim
 | .block id c, _, gs, st, k, ρ, a, w, hst, h, hr, hag, hbl => by
  unfold sx at h
  refine wpIn_block (wpIn_mono (jcq hm hsp c id gs st _ ρ a w hst h hr hag hbl) ?_)
  rintro e a' w' ⟨ex, ρ', st', rfl, hk, hr', hag', hbl'⟩
  cases ex with
  | normal => exact ⟨.normal, ρ', st', rfl, hk, hr', hag', hbl'⟩
  | exit j =>
   simp only [Ex.toExit, Exit.inBlock]
   dsimp only at hk
   split
   ·rename_i e
    rw [if_pos e] at hk
    exact ⟨.normal, ρ', st', rfl, hk, hr', hag', hbl'⟩
   ·rename_i e
    rw [if_neg e] at hk
    exact ⟨.exit j, ρ', st', rfl, hk, hr', hag', hbl'⟩
  | ret => exact ⟨.ret, ρ', st', rfl, hk, hr', hag', hbl'⟩
 | .exit j, _, _, st, k, ρ, a, w, _, h, hr, hag, hbl => wpIn_exit ⟨.exit j, ρ, st, rfl, h, hr, hag, hbl⟩
 | .ret, _, _, st, k, ρ, a, w, _, h, hr, hag, hbl => wpIn_ret ⟨.ret, ρ, st, rfl, h, hr, hag, hbl⟩
 | .loop _, _, _, _, _, _, _, _, hst, _, _, _, _ => by cases hst
 | .goto _, _, _, _, _, _, _, _, hst, _, _, _, _ => by cases hst
 | .rangeFunc _ _ _ _, _, _, _, _, _, _, _, hst, _, _, _, _ => by cases hst
end
def jgo : Nat → Code → Code
 | 0, _ => .skip
 | n + 1, .seq x y => .seq x (jgo n y)
 | _ + 1, c => c
def jgp : Nat → Code → Code
 | 0, c => c
 | n + 1, .seq _ y => jgp n y
 | _ + 1, _ => .skip
def jqV : Nat → Code → Bool
 | 0, _ => true
 | n + 1, .seq _ y => jqV n y
 | _ + 1, _ => false
section
variable [Globs] {P : Program} {sp : jaa} {B : Bd} {N n0 : Nat} {ρ0 : Env} {w0 : World} {ds : List Deferred}
theorem jiV {fuel : Nat} {loops : jfE} {drawn : Array Oper → St → (St → Prop) → Prop} (hsp : jab P sp) (hdr : jgk P B N n0 ρ0 w0 drawn) {Q : Exit → Act → World → Prop} {k : Ex → St → Prop} :
  ∀ (m : Nat) (c : Code) (cur : Nat) (gs : List Nat) (st : St) (ρ : Env) (a : Act) (w : World), jqV m c = true → sx P sp N n0 fuel loops drawn (jgo m c) cur gs st k → RelD ds ρ B N n0 st a w → jai n0 ρ0 ρ → Bel B w0 w →
   (∀ ρ' st' a' w', k .normal st' → RelD ds ρ' B N n0 st' a' w' → jai n0 ρ0 ρ' → Bel B w0 w' → (jgp m c).wp P Q a' w') →
   (∀ ex ρ' st' a' w', ex ≠ .normal → k ex st' → RelD ds ρ' B N n0 st' a' w' → jai n0 ρ0 ρ' → Bel B w0 w' → Q ex.toExit a' w') → c.wp P Q a w
 | 0, c, _, _, st, ρ, a, w, _, h, hr, hag, hbl, hn, _ => hn ρ st a w h hr hag hbl
 | m + 1, .seq x y, cur, gs, st, ρ, a, w, hs, h, hr, hag, hbl, hn, he => by
  simp only [jgo] at h
  unfold sx at h
  refine wp_seq (wp_mono (ja7 hsp hdr x cur gs st _ ρ a w h hr hag hbl) ?_)
  rintro e a' w' ⟨ex, ρ', st', rfl, hk, hr', hag', hbl'⟩
  cases ex with
  | normal => exact jiV hsp hdr m y cur gs st' ρ' a' w' hs hk hr' hag' hbl' hn he
  | exit j => exact he (.exit j) ρ' st' a' w' (by simp) hk hr' hag' hbl'
  | ret => exact he .ret ρ' st' a' w' (by simp) hk hr' hag' hbl'
end
section
variable [Globs] {ρ : Env} {B B2 : Bd} {hp : Hp} {nx : Nat} {w w' : World}
theorem O.ok_moreB {h : Nat} (hs : ∀ k, B k → B2 k) : ∀ {o : O}, o.ok ρ B w h → (∀ k, o.blk (ρ h) = some k → ¬ B2 k) → o.ok ρ B2 w h
 | .box _ _, ⟨k, h1, h2, h3⟩, hn => ⟨k, h1, hn k (by simp [O.blk, h1, base]), h3⟩
 | .row _ _, ⟨hr, _⟩, hn => ⟨hr, fun k hk => hn k hk⟩
 | .ext _, ⟨h1, h2⟩, _ => ⟨h1, fun a n cap e hn => hs _ (h2 a n cap e hn)⟩
 | .view _ _ _, h, _ => h
 | .dead, _, _ => trivial
 | .nan _, h, _ => h
 | .err, h, _ => h
 | .atom, h, _ => h
 | .ebox _, ⟨k, o, h1, h2, h3⟩, _ => ⟨k, o, h1, hs _ h2, h3⟩
 | .arr _ _ _ _, ⟨k, h1, h2, h3⟩, hn => ⟨k, h1, hn k (by simp [O.blk, h1, base]), h3⟩
 | .xext _, h, _ => jnh hs h
 | .map _, ⟨b, e, c, h1, h2, h3⟩, hn => ⟨b, e, c, h1, hn b (by simp [O.blk, h1, jep]), h3⟩
 | .rrow _, ⟨h1, h2⟩, hn => ⟨h1, fun k hk => ⟨hn k hk, (h2 k hk).2⟩⟩
theorem HRel.moreB (hh : HRel ρ B hp nx w) (hs : ∀ k, B k → B2 k) (hn : ∀ h o k, find hp h = some o → o.blk (ρ h) = some k → ¬ B2 k) : HRel ρ B2 hp nx w :=
 ⟨fun h o hf => ⟨(hh.ok h o hf).1, (hh.ok h o hf).2.1, O.ok_moreB hs (hh.ok h o hf).2.2 (fun k hk => hn h o k hf hk)⟩, hh.apart, hh.glob.sub hs⟩
def extB : O → Bool
 | .ext _ => true
 | .ebox _ => true
 | .xext _ => true
 | _ => false
theorem O.ok_lessB {h : Nat} (hs : ∀ k, B k → B2 k) : ∀ {o : O}, o.ok ρ B2 w h → extB o = false → o.ok ρ B w h
 | .box _ _, ⟨k, h1, h2, h3⟩, _ => ⟨k, h1, fun hb => h2 (hs _ hb), h3⟩
 | .row _ _, ⟨hr, hk⟩, _ => ⟨hr, fun k hk' hb => hk k hk' (hs _ hb)⟩
 | .ext _, _, h => by cases h
 | .view _ _ _, h, _ => h
 | .dead, _, _ => trivial
 | .nan _, h, _ => h
 | .err, h, _ => h
 | .atom, h, _ => h
 | .ebox _, _, h => by cases h
 | .arr _ _ _ _, ⟨k, h1, h2, h3⟩, _ => ⟨k, h1, fun hb => h2 (hs _ hb), h3⟩
 | .xext _, _, h => by cases h
 | .map _, ⟨b, e, c, h1, h2, h3⟩, _ => ⟨b, e, c, h1, fun hb => h2 (hs _ hb), h3⟩
 | .rrow _, ⟨h1, h2⟩, _ => ⟨h1, fun k hk => ⟨fun hb => (h2 k hk).1 (hs _ hb), (h2 k hk).2⟩⟩
theorem HRel.lessB (hh : HRel ρ B2 hp nx w) (hs : ∀ k, B k → B2 k) (hg : jbK B w) (hE : ∀ h o, find hp h = some o → extB o = true → o.ok ρ B w h) : HRel ρ B hp nx w :=
 ⟨fun h o hf => ⟨(hh.ok h o hf).1, (hh.ok h o hf).2.1, by
  cases he : extB o with
  | true => exact hE h o hf he
  | false => exact O.ok_lessB hs (hh.ok h o hf).2.2 he⟩, hh.apart, hg⟩
def rngO : O → Bool
 | .view _ _ _ => false
 | .map _ => false
 | .rrow _ => false
 | _ => true
theorem jmk {h k : Nat} : ∀ {o : O}, o.ok ρ B w h → rngO o = true → o.blk (ρ h) = some k → ∃ c t f, w.heap[k]? = some (.cells c t f)
 | .box _ _, ⟨g, h1, _, h3⟩, _, hb => by
  simp only [O.blk, h1, base, Option.some.injEq] at hb
  subst hb
  exact ⟨_, _, _, h3⟩
 | .arr _ _ _ _, ⟨g, h1, _, h3⟩, _, hb => by
  simp only [O.blk, h1, base, Option.some.injEq] at hb
  subst hb
  exact ⟨_, _, _, h3⟩
 | .row _ _, ⟨⟨_, hr⟩, _⟩, _, hb => by
  rcases hr with ⟨h1, _⟩ | ⟨g, cap, cur, h1, _, h3, _⟩
  ·simp [O.blk, h1, Value.ownBlock] at hb
  ·simp only [O.blk, h1, Value.ownBlock, Option.some.injEq] at hb
   subst hb
   exact ⟨_, _, _, h3⟩
theorem HRel.grown {row : Option Nat} (hh : HRel ρ B hp nx w) (hg : w.grownBy w' row) (hB : Old B w) (hr : ∀ r, row = some r → ¬ B r ∧ ∃ o : Obj, w.heap[r]? = some o ∧ o.isCells = false) (hn : ∀ h o, find hp h = some o → rngO o = true) : HRel ρ B hp nx w' := by
 obtain ⟨g, hgB, hgw, hgc⟩ : ∃ g, ¬ B g ∧ (∀ k, k < w.heap.size → k ≠ g → w'.heap[k]? = w.heap[k]?) ∧ ∀ c t f, w.heap[g]? ≠ some (.cells c t f) := by
  cases row with
  | none => exact ⟨w.heap.size, fun h => absurd (hB _ h) (Nat.lt_irrefl _), fun k hk _ => hg.block k hk (by simp), fun c t f h => absurd (Array.getElem?_eq_some_iff.1 h).1 (Nat.lt_irrefl _)⟩
  | some r =>
   obtain ⟨h1, o, h2, h3⟩ := hr r rfl
   refine ⟨r, h1, fun k hk hne => hg.block k hk (fun e => hne (Option.some.inj e)), fun c t f h => ?_⟩
   rw [h2] at h
   cases h
   cases h3
 refine ⟨fun h o hf => ⟨(hh.ok h o hf).1, (hh.ok h o hf).2.1, ?_⟩, hh.apart, jhv hgw hgB hh.glob⟩
 refine O.ok_except hgw hgB (hh.ok h o hf).2.2 (fun he => ?_) (fun r c fl e => ?_)
 ·obtain ⟨c, t, f, hc⟩ := jmk (hh.ok h o hf).2.2 (hn h o hf) he
  exact hgc c t f hc
 ·subst e
  cases hn h _ hf
theorem HRel.addAt {b ty : Nat} {cs : List C} (hh : HRel ρ B hp nx w) (hc : w.heap[b]? = some (.cells (cs.map (C.val ρ)).toArray ty (0, 0))) (hcs : ∀ c ∈ cs, C.lt nx c) (hb : ¬ B b) (hap : ∀ h o k, find hp h = some o → o.blk (ρ h) = some k → k ≠ b) :
  HRel (upd ρ nx (.pointer (some ⟨b, 0, none⟩))) B ((nx, .box ty cs) :: hp) (nx + 1) w := by
 have ha := jat ρ nx (.pointer (some ⟨b, 0, none⟩))
 have h1 := (hh.agree ha).mono_nx (Nat.le_succ nx)
 refine ⟨fun h o hf => ?_, fun h o h' o' k hf hf' hne hk hk' => ?_, h1.glob⟩
 ·simp only [find] at hf
  split at hf
  ·rename_i e
   subst e
   cases hf
   refine ⟨Nat.lt_succ_self _, fun c hc' => C.lt_mono (Nat.le_succ _) (hcs c hc'), b, upd_same _ _ _, hb, ?_⟩
   rw [hc]
   congr 3
   exact List.map_congr_left fun c hc' => (C.val_agree ha (hcs c hc')).symm
  ·exact h1.ok h o hf
 ·have old : ∀ x ox, x ≠ nx → find ((nx, O.box ty cs) :: hp) x = some ox → find hp x = some ox := fun x ox hx hf => by
   simp only [find] at hf
   rw [if_neg (fun e => hx e.symm)] at hf
   exact hf
  have new : ∀ ox, find ((nx, O.box ty cs) :: hp) nx = some ox → ∀ q, ox.blk (upd ρ nx (.pointer (some ⟨b, 0, none⟩)) nx) = some q → q = b := fun ox hf q hq => by
   simp only [find, if_true, Option.some.injEq] at hf
   subst hf
   rw [upd_same] at hq
   simp only [O.blk, base, Option.some.injEq] at hq
   exact hq.symm
  by_cases e1 : h = nx
  ·subst e1
   have f' := old h' o' (fun e => hne e.symm) hf'
   have e2 := new o hf k hk
   have hlt := (hh.ok h' o' f').1
   rw [ha h' hlt] at hk'
   exact hap h' o' k f' hk' e2
  ·have f1 := old h o e1 hf
   have hlt := (hh.ok h o f1).1
   rw [ha h hlt] at hk
   by_cases e2 : h' = nx
   ·subst e2
    exact hap h o k f1 hk (new o' hf' k hk')
   ·have f2 := old h' o' e2 hf'
    rw [ha h' (hh.ok h' o' f2).1] at hk'
    exact hh.apart h o h' o' k f1 f2 hne hk hk'
end
end Go.Sx
end

section
open Go.RowKit
namespace Go.Sx
inductive A where
 | d (x : D)
 | s (l : List D)
 | r (c : Cont)
 | f (n : Nat)
inductive RV where
 | d (x : D)
 | s (l : List D)
 | row (ty : Nat) (c : Cont)
def toA (hp : Hp) : V → Option A
 | .w (.c (.d x)) => some (.d x)
 | .w (.a l) => (jbC l).map .s
 | .w (.c (.fn n [])) => some (.f n)
 | .w (.c (.o h)) => match (find hp h).bind O.cont with
  | some c => match c.e with
   | 0 => none
   | _ + 1 => some (.r c)
  | none => none
 | _ => none
def jlH (n : Nat) : A → V
 | .d x => .w (.c (.d x))
 | .s l => .w (.a (l.map C.d))
 | .r _ => .w (.c (.o n))
 | .f g => .w (.c (.fn g []))
def jem : Nat → List A → List V
 | _, [] => []
 | n, a :: l => jlH n a :: jem (n + 1) l
def jcD : Nat → List A → Hp
 | _, [] => []
 | n, .r c :: l => (n, .ext c) :: jcD (n + 1) l
 | n, _ :: l => jcD (n + 1) l
def rvW : Nat → List RV → List W
 | _, [] => []
 | n, .d x :: l => .c (.d x) :: rvW n l
 | n, .s c :: l => .a (c.map C.d) :: rvW n l
 | n, .row _ _ :: l => .c (.o n) :: rvW (n + 1) l
def jjW : Nat → List RV → Hp → Hp
 | _, [], hp => hp
 | n, .row ty c :: l, hp => jjW (n + 1) l ((n, .row ty c) :: hp)
 | n, .d _ :: l, hp => jjW n l hp
 | n, .s _ :: l, hp => jjW n l hp
def jf5 : Nat → List RV → Nat
 | n, [] => n
 | n, .row _ _ :: l => jf5 (n + 1) l
 | n, .d _ :: l => jf5 n l
 | n, .s _ :: l => jf5 n l
def jkZ : List D → List D → Prop → Prop
 | [], [], k => k
 | x :: l, y :: m, k => mD y x ∧ jkZ l m k
 | _, _, _ => False
theorem jjC [Globs] {k : Prop} : ∀ {l m : List D}, jkZ l m k → l = m ∧ k
 | [], [], h => ⟨rfl, h⟩
 | x :: l, y :: m, h => by
  have := jjC h.2
  exact ⟨by rw [jiT h.1, this.1], this.2⟩
 | [], _ :: _, h => h.elim
 | _ :: _, [], h => h.elim
def jcV (hp : Hp) : List RV → List W → List Nat → Prop
 | [], [], _ => True
 | .d x :: rs, .c (.d y) :: ws, us => mD x y ∧ jcV hp rs ws us
 | .s l :: rs, .a cs :: ws, us => match jbC cs with
  | some ds => jkZ ds l (jcV hp rs ws us)
  | none => False
 | .row ty c :: rs, .c (.o h) :: ws, us => match us.contains h with
  | true => False
  | false => match find hp h with
   | some (.row ty' c') => match Nat.beq ty' ty with
    | true => jdF c c' ∧ jcV hp rs ws (h :: us)
    | false => False
   | _ => False
 | .row _ c :: rs, .c (.d (.v (.slice none 0 0))) :: ws, us => Ob (c.n = 0) ∧ jcV hp rs ws us
 | _, _, _ => False
def jtu (rs : List RV) (v : V) (hp : Hp) : Prop := match v with
 | .w u => jcV hp rs [u] []
 | .t [_] => False
 | .t l => jcV hp rs l []
theorem jdj {P : Program} {f : Nat} {fn : Func} {body : Code} (hf : P.funcs[f]? = some fn) (hb : fn.body = some body) (hn : (fn.name == "runtime.NumGoroutine") = false) (args : Array Value) (w : World) :
  (callFunc f args).run P w = .ok (.enter f args) w := by
 unfold callFunc
 simp only [Sem.run_bind, run_program, Result.andThen_ok, hf, hn, Bool.false_eq_true, if_false, hb, Option.isNone_some]
 rfl
theorem jaf.sound [Globs] {P : Program} {f : Nat} {fn : Func} {body : Code} {M : Bool} {S : Spec} (h : jaf P f M S) (hf : P.funcs[f]? = some fn) (hb : fn.body = some body) (hn : (fn.name == "runtime.NumGoroutine") = false) : RunOK P f M S := by
 rcases h with h | h
 ·exact h
 ·refine ⟨jdj hf hb hn, fun ρ B w args hp nx t hS hob hlt hh hB => ?_⟩
  obtain ⟨ob, v, _, _, hrun⟩ := h ρ B w args hp nx t hS hob hlt hh hB
  rw [jdj hf hb hn] at hrun
  cases hrun
section
variable [Globs] {P : Program} {sp : jaa} {ρ : Env} {B : Bd} {nx : Nat} {hp : Hp} {w w' : World}
theorem jgZ (h : jbK B w) (hB : Old B w) : jbK (fun k => k < w.heap.size) w := h.sub hB
theorem HRel.add1 (h : HRel ρ B hp nx w) {v : Value} {o : O} (hl : o.lt (nx + 1)) (ho : o.ok (upd ρ nx v) B w nx) (hap : ∀ k o' b, find hp k = some o' → o'.blk (ρ k) = some b → o.blk v ≠ some b) :
  HRel (upd ρ nx v) B ((nx, o) :: hp) (nx + 1) w := by
 have h1 := (h.agree (jat ρ nx v)).mono_nx (Nat.le_succ nx)
 refine ⟨?_, ?_, h1.glob⟩
 ·intro k o' hf
  simp only [find] at hf
  split at hf
  ·rename_i e; subst e; cases hf; exact ⟨by omega, hl, ho⟩
  ·exact h1.ok k o' hf
 ·intro k o1 k' o2 b hf hf' hne hb hb'
  simp only [find] at hf hf'
  split at hf
  ·rename_i e
   subst e
   cases hf
   rw [if_neg hne] at hf'
   rw [upd_same] at hb
   rw [jat ρ nx v k' (h.ok k' o2 hf').1] at hb'
   exact hap k' o2 b hf' hb' hb
  ·split at hf'
   ·rename_i e
    subst e
    cases hf'
    rw [upd_same] at hb'
    rw [jat ρ nx v k (h.ok k o1 hf).1] at hb
    exact hap k o1 b hf hb hb'
   ·exact h1.apart k o1 k' o2 b hf hf' hne hb hb'
theorem jgq {B0 : Bd} {hp' : Hp} {nx' : Nat} {ρ' : Env} {m : Nat} {us0 : List Nat} (hB0 : ∀ k, k < m → B0 k ∨ ∀ u o b, us0.contains u = false → find hp' u = some o → (∃ ty c, o = .row ty c) → o.blk (ρ' u) = some b → b ≠ k) (hBm : ∀ k, B k → k < m) (hh' : HRel ρ' B0 hp' nx' w') :
  ∀ (rs : List RV) (ws : List W) (us : List Nat) (nx : Nat) (hp : Hp) (ρ : Env), (∀ x, us0.contains x = true → us.contains x = true) → jcV hp' rs ws us → HRel ρ B hp nx w' →
   (∀ k o b, find hp k = some o → o.blk (ρ k) = some b → b < m ∨ ∃ u ∈ us, ∃ ou, find hp' u = some ou ∧ ou.blk (ρ' u) = some b) →
   ∃ ρ'', jai nx ρ ρ'' ∧ HRel ρ'' B (jjW nx rs hp) (jf5 nx rs) w' ∧ nx ≤ jf5 nx rs ∧ (∀ x ∈ rvW nx rs, W.lt (jf5 nx rs) x) ∧ ws.map (W.val ρ') = (rvW nx rs).map (W.val ρ'') ∧
    ∀ h o k, find (jjW nx rs hp) h = some o → (nx ≤ h → o.blk (ρ'' h) = some k → m ≤ k) ∧ (h < nx → find hp h = some o)
 | [], ws, us, nx, hp, ρ, _, hf, hh, _ => by
  cases ws with
  | nil => exact ⟨ρ, jai.refl _ _, hh, Nat.le_refl _, (fun _ h => by cases h), rfl, fun h o k hf => ⟨fun hle _ => absurd (hh.ok h o hf).1 (by omega), fun _ => hf⟩⟩
  | cons w ws => cases w <;> exact hf.elim
 | .d x :: rs, ws, us, nx, hp, ρ, hsu, hf, hh, hinv => by
  match ws, hf with
  | .c (.d y) :: ws, hf =>
   obtain ⟨ρ'', h1, h2, h3, h4, h5, h6⟩ := jgq hB0 hBm hh' rs ws us nx hp ρ hsu hf.2 hh hinv
   refine ⟨ρ'', h1, h2, h3, fun u hu => ?_, ?_, h6⟩
   ·rcases List.mem_cons.1 hu with rfl | hu
    ·trivial
    ·exact h4 u hu
   ·rw [← jiT hf.1]
    simp only [List.map_cons, rvW, h5]
    rfl
 | .s l :: rs, ws, us, nx, hp, ρ, hsu, hf, hh, hinv => by
  match ws, hf with
  | .a cs :: ws, hf =>
   simp only [jcV] at hf
   split at hf
   ·rename_i ds hds
    obtain ⟨hl, hf2⟩ := jjC hf
    subst hl
    obtain ⟨ρ'', h1, h2, h3, h4, h5, h6⟩ := jgq hB0 hBm hh' rs ws us nx hp ρ hsu hf2 hh hinv
    refine ⟨ρ'', h1, h2, h3, fun u hu => ?_, ?_, h6⟩
    ·rcases List.mem_cons.1 hu with rfl | hu
     ·intro x hx
      obtain ⟨y, _, rfl⟩ := List.mem_map.1 hx
      trivial
     ·exact h4 u hu
    ·rw [jcy hds]
     simp only [List.map_cons, rvW, h5]
     congr 1
     simp [W.val, C.val, Function.comp_def]
   ·exact hf.elim
 | .row ty c :: rs, ws, us, nx, hp, ρ, hsu, hf, hh, hinv => by
  match ws, hf with
  | .c (.o h) :: ws, hq =>
   rw [jcV] at hq
   split at hq
   ·exact hq.elim
   ·rename_i hus
    split at hq
    ·rename_i ty' c' hfind
     split at hq
     ·rename_i hty
      have hty : ty' = ty := Nat.eq_of_beq_eq_true hty
      subst hty
      have hc := (jco hq.1).symm
      subst hc
      have hok := (hh'.ok h _ hfind).2.2
      have hblk : ∀ b, (ρ' h).ownBlock = some b → m ≤ b := fun b hb => by
       rcases Nat.lt_or_ge b m with hlt | hge
       ·rcases hB0 b hlt with h1 | h1
        ·exact absurd h1 (hok.2 b hb)
        ·have hu0 : us0.contains h = false := by
          cases hc : us0.contains h with
          | false => rfl
          | true => rw [hsu h hc] at hus; cases hus
         exact absurd rfl (h1 h _ b hu0 hfind ⟨_, _, rfl⟩ hb)
       ·exact hge
      have hadd := hh.add1 (v := ρ' h) (o := .row ty' c') trivial (by
       refine ⟨by rw [upd_same]; exact hok.1, fun b hb hBb => ?_⟩
       rw [upd_same] at hb
       have := hblk b hb
       have := hBm b hBb
       omega) (fun k o' b hk hb hb2 => by
        rcases hinv k o' b hk hb with h1 | ⟨u, hu, ou, h1, h2⟩
        ·have := hblk b hb2; omega
        ·refine hh'.apart h _ u ou b hfind h1 (fun e => ?_) hb2 h2
         subst e
         rw [List.contains_iff_mem.2 hu] at hus
         cases hus)
      obtain ⟨ρ'', h1, h2, h3, h4, h5, h6⟩ := jgq hB0 hBm hh' rs ws (h :: us) (nx + 1) ((nx, .row ty' c') :: hp) (upd ρ nx (ρ' h)) (fun x hx => by have := hsu x hx; simp at this ⊢; exact .inr this) hq.2 hadd (fun k o b hk hb => by
       simp only [find] at hk
       split at hk
       ·rename_i e
        subst e
        cases hk
        rw [upd_same] at hb
        exact .inr ⟨h, List.mem_cons_self, _, hfind, hb⟩
       ·rw [jat ρ nx (ρ' h) k (hh.ok k o hk).1] at hb
        rcases hinv k o b hk hb with h1 | ⟨u, hu, ou, h1, h2⟩
        ·exact .inl h1
        ·exact .inr ⟨u, List.mem_cons_of_mem _ hu, ou, h1, h2⟩)
      have hnx : ρ'' nx = ρ' h := by rw [h1 nx (Nat.lt_succ_self nx), upd_same]
      refine ⟨ρ'', fun k hk => by rw [h1 k (by omega), jat ρ nx (ρ' h) k hk], h2, by unfold jf5; omega, fun u hu => ?_, ?_, fun k o b hk => ?_⟩
      ·rcases List.mem_cons.1 hu with rfl | hu
       ·exact Nat.lt_of_lt_of_le (Nat.lt_succ_self nx) h3
       ·exact h4 u hu
      ·simp only [List.map_cons, rvW, h5]
       congr 1
       exact hnx.symm
      ·have h7 := h6 k o b hk
       refine ⟨fun hle hb => ?_, fun hlt => ?_⟩
       ·by_cases hle2 : nx + 1 ≤ k
        ·exact h7.1 hle2 hb
        ·have e : k = nx := by omega
         subst e
         have h8 := h7.2 (Nat.lt_succ_self k)
         simp only [find, if_true] at h8
         cases h8
         rw [hnx] at hb
         exact hblk b hb
       ·have h8 := h7.2 (by omega)
        simp only [find] at h8
        rw [if_neg (by omega)] at h8
        exact h8
     ·exact hq.elim
    ·exact hq.elim
  | .c (.d (.v (.slice none 0 0))) :: ws, hf =>
   simp only [jcV] at hf
   have hn := hf.1.h
   have hfl : c.flat = [] := List.eq_nil_of_length_eq_zero (by rw [Cont.flat_length, hn, Nat.zero_mul])
   have hadd := hh.add1 (v := .slice none 0 0) (o := .row ty c) trivial (by
    refine ⟨?_, fun b hb => ?_⟩
    ·rw [upd_same, hfl, hn]
     exact World.ownsRow_nil w' 0 ty c.e
    ·rw [upd_same] at hb; cases hb) (fun k o' b hk hb hb2 => by cases hb2)
   obtain ⟨ρ'', h1, h2, h3, h4, h5, h6⟩ := jgq hB0 hBm hh' rs ws us (nx + 1) ((nx, .row ty c) :: hp) (upd ρ nx (.slice none 0 0)) hsu hf.2 hadd (fun k o b hk hb => by
    simp only [find] at hk
    split at hk
    ·rename_i e
     subst e
     cases hk
     rw [upd_same] at hb
     cases hb
    ·rw [jat ρ nx _ k (hh.ok k o hk).1] at hb
     exact hinv k o b hk hb)
   have hnx : ρ'' nx = .slice none 0 0 := by rw [h1 nx (Nat.lt_succ_self nx), upd_same]
   refine ⟨ρ'', fun k hk => by rw [h1 k (by omega), jat ρ nx _ k hk], h2, by unfold jf5; omega, fun u hu => ?_, ?_, fun k o b hk => ?_⟩
   ·rcases List.mem_cons.1 hu with rfl | hu
    ·exact Nat.lt_of_lt_of_le (Nat.lt_succ_self nx) h3
    ·exact h4 u hu
   ·simp only [List.map_cons, rvW, h5]
    congr 1
    exact hnx.symm
   ·have h7 := h6 k o b hk
    refine ⟨fun hle hb => ?_, fun hlt => ?_⟩
    ·by_cases hle2 : nx + 1 ≤ k
     ·exact h7.1 hle2 hb
     ·have e : k = nx := by omega
      subst e
      have h8 := h7.2 (Nat.lt_succ_self k)
      simp only [find, if_true] at h8
      cases h8
      rw [hnx] at hb
      cases hb
    ·have h8 := h7.2 (by omega)
     simp only [find] at h8
     rw [if_neg (by omega)] at h8
     exact h8
end
end Go.Sx
end

section
open Go.RowKit
namespace Go.Sx
def O.own : O → Bool
 | .box _ cs => cs.all fun c => match c with
  | .d _ => true
  | _ => false
 | .row _ _ => true
 | _ => false
def mOwn : O → O → Prop → Prop
 | .row ty c, .row ty' c', k => match Nat.beq ty ty' with
  | true => jdF c c' ∧ k
  | false => False
 | .box ty cs, .box ty' cs', k => match Nat.beq ty ty', jbC cs, jbC cs' with
  | true, some ds, some ds' => jkZ ds' ds k
  | _, _, _ => False
 | _, _, _ => False
def fitsU (rs : List RV) (v : V) (hp : Hp) : Prop := match v with
 | .w u => jcV hp rs [u] [0]
 | .t [_] => False
 | .t l => jcV hp rs l [0]
def fitsE (o' : O) (rs : List RV) (v : V) (hp : Hp) : Prop := match find hp 0 with
 | some o1 => mOwn o' o1 (fitsU rs v hp)
 | none => False
section
variable [Globs] {P : Program} {sp : jaa}
end
end Go.Sx
end
