/- A symbolic executor for the model's code: appends, calls, any step, proved. -/
import Derived.Test.YtndhdojnlobloaaSxZ
import Derived.Test.YtndhdojnlobloaaFl
set_option linter.unusedSectionVars false
set_option linter.unusedSimpArgs false
set_option linter.unusedVariables false
open Go.RowKit
namespace Go.Sx

section
variable [Globs] {P : Program} {ρ : Env} {B : Bd} {nx : Nat} {hp : Hp} {w : World} {rd : Operand → Option V} {a : Act} {sp : Specs}

theorem sliceArr_sound {o : Oper} {t h j n elem e ty : Nat} {x : Operand} {cs : List C} {z ds : List D} {c : Cont} (hh : HRel ρ B hp nx w) (hB : Old B w) (hr : Reads ρ nx rd a) (ho : o.op = .slice t x none none none)
    (hu : P.underlying t = some (.array n elem)) (hx : rd x = some (.w (.c (.p h 0 1 j)))) (hf : find hp h = some (.box ty cs)) (hs : szT P elem = some (e + 1)) (hds : dsOf ((cs.drop j).take (n * (e + 1))) = some ds)
    (hl : z.length = e + 1 ∧ ds.length = n * (e + 1) ∧ 0 < n) (hc : mkCont z (chunk (e + 1) n ds) = some c) :
    Sound P ρ B nx a w o ⟨True, .w (.c (.o nx)), (nx, .view h c true) :: hp, nx + 1⟩ true := by
  obtain ⟨hz, hdl, hn0⟩ := hl
  obtain ⟨hlt, hol, g, hk, hBg, hheap⟩ := hh.ok h _ hf
  have hck := chunk_flat (e + 1) n ds hdl
  have hmk := mkCont_flat hc
  have hxv : a.eval x = .pointer (some ⟨g, j, none⟩) := by rw [(hr _ _ hx).2]; simp [C.val, hk, base]
  refine sound_value (ρ' := upd ρ nx (.slice (some ⟨g, j, none⟩) n n)) (w' := w) ?_ ?_
  · unfold execOp
    have hsb : (Instr.sliceBounds false n n none none none).run P w = .ok (0, n, n) w := by simp [Instr.sliceBounds]
    simp only [ho, hxv, Option.map_none, Instr.sliceAt, Sem.run_bind, run_underlying hu, Result.andThen_ok, Instr.sureAddr, Sem.run_pure, hsb, run_szT w hs]
    rw [if_neg (by omega)]
    simp [V.val, W.val, C.val, add_at]
  · refine left_new hh hB _ (.view h c true) rfl rfl (show V.lt (nx + 1) (.w (.c (.o nx))) from Nat.lt_succ_self nx) true (Nat.lt_of_lt_of_le hlt (Nat.le_succ nx)) ⟨?_, fun _ a' n' cap' heq => by rw [upd_same] at heq; cases heq; rfl⟩ rfl
    · rw [upd_same]
      refine ⟨some ⟨g, j, none⟩, n, by rw [hmk.2.1, hck.2], ⟨by rw [hmk.2.1, hck.2]; exact Nat.le_refl _, fun h => by cases h⟩, fun _ => ⟨g, j, rfl, fun m x hm => ?_⟩⟩
      rw [hmk.1, hck.1] at hm
      rw [cell_of_row w g _ _ ty (0, 0) hheap]
      have hde := dsOf_eq hds
      have hml : m < n * (e + 1) := by rw [← hdl]; exact (List.getElem?_eq_some_iff.1 hm).1
      have h1 : ((cs.drop j).take (n * (e + 1)))[m]? = some (C.d x) := by rw [hde, List.getElem?_map, hm]; rfl
      rw [List.getElem?_take, if_pos hml, List.getElem?_drop] at h1
      simp [h1, C.val]

/-- An append: the row behind it, and where it lies. -/
theorem append_run {t ty elem e b : Nat} {i : TypeInfo} {z : Value} (hu : P.underlying t = some (.slice elem)) (hi : P.info? elem = some i) (hz : i.zero = some z) (hsz : i.size = e + 1) (hby : i.bytes = b) (hzs : z.cells.size = e + 1)
    {v xv : Value} {n m : Nat} {xs news : List Value} (hown : w.ownsRow 0 elem (e + 1) v n xs) (hl : news.length = m * (e + 1)) (h1 : ∀ u ∈ news, u.oneCell' = true)
    (hx : (xv = .slice none 0 0 ∧ m = 0) ∨ ∃ ad c, xv = .slice (some ad) m c ∧ ∀ j u, news[j]? = some u → w.cell? (ad.add j) = some u)
    (h63 : n + m ≤ 9223372036854775807) (hbytes : (n + m) * b ≤ 140737488355328) :
    ∃ v' w', (Builtin.append_ #[t, t] ty #[v, xv]).run P w = .ok v' w' ∧ w'.ownsRow 0 elem (e + 1) v' (n + m) (xs ++ news) ∧ w.grownBy w' v.ownBlock ∧
      ∀ k, v'.ownBlock = some k → v.ownBlock = some k ∨ w.heap.size ≤ k := by
  rcases hx with ⟨rfl, rfl⟩ | ⟨ad, c, rfl, hnews⟩
  · -- nothing is appended
    have hne : news = [] := List.eq_nil_of_length_eq_zero (by simpa using hl)
    subst hne
    have hszT : szT P elem = some (e + 1) := by simp [szT, hi, hsz]
    refine ⟨v, w, ?_, by simpa using hown, ⟨rfl, rfl, rfl, Nat.le_refl _, fun _ _ _ => rfl⟩, fun k hk => .inl hk⟩
    rcases hown.2 with ⟨rfl, rfl⟩ | ⟨g, cap, cur, rfl, hb, hg, hnc, _⟩
    · simp [Builtin.append_, run_underlying hu, run_szT w hszT, Builtin.lenOf, Builtin.firstCells]
    · simp [Builtin.append_, run_underlying hu, run_szT w hszT, Builtin.lenOf, Builtin.firstCells, hnc, storeCells]
  · obtain ⟨v', w', hrun, hown', hgrown, hnil⟩ := run_append_own (P := P) w 0 t ty elem i z (e + 1) b hu hi hz hsz hby hzs (Nat.succ_pos e) v n xs hown ad m c news hl hnews h1 (by simpa [maxLen] using h63) hbytes (Nat.zero_le _)
    refine ⟨v', w', hrun, hown', hgrown, fun k hk => ?_⟩
    rcases hown.2 with ⟨rfl, rfl⟩ | ⟨g, cap, cur, rfl, hbg, hg, hnc, hcm, hcs, htk⟩
    · by_cases hm : m = 0
      · have := hnil.2 ⟨rfl, hm⟩
        subst this
        simp [Value.ownBlock] at hk
      · have hr2 := run_append_nil (P := P) w t ty elem i z hu hi hz ad m c news (by rw [hsz]; exact hl) hnews (by omega) (by omega) (by rw [hby]; have hb := hbytes; simp only [Nat.zero_add] at hb; omega)
        rw [hrun] at hr2
        cases hr2
        simp [Value.ownBlock] at hk
        exact .inr (by omega)
    · by_cases hroom : n + m ≤ cap
      · have hfit : n * i.size + news.length ≤ cur.size := by rw [hl, hcs, hsz, ← Nat.add_mul]; exact Nat.mul_le_mul_right _ hroom
        have hr2 := run_append_room (P := P) w t ty elem i hu hi g n cap cur hg ad m c news (by rw [hsz]; exact hl) hnews h1 hroom hfit
        rw [hrun] at hr2
        cases hr2
        exact .inl hk
      · have holds : ∀ j u, xs[j]? = some u → w.cell? ((⟨g, 0, none⟩ : Addr).add j) = some u := hown.cells (g := g) rfl
        have hr2 := run_append_grow (P := P) w t ty elem i z hu hi hz ⟨g, 0, none⟩ n cap xs (by rw [hsz]; exact hown.1) holds ad m c news (by rw [hsz]; exact hl) hnews (by omega) (by omega) (growslice_fits (by omega) (by rw [hby]; exact hbytes))
        rw [hrun] at hr2
        cases hr2
        simp [Value.ownBlock] at hk
        exact .inr (by omega)

theorem below_grown {w' : World} {row : Option Nat} (hg : w.grownBy w' row) (h : ∀ k, row = some k → ¬ B k) (hB : Old B w) : Bel B w w' :=
  ⟨hg.os, hg.tape, hg.output, hg.size, fun k hk => hg.block k (hB k hk) (fun e => h k e.symm hk)⟩

/-- The heap behind an append. -/
theorem HRel.grow {w' : World} {v v' : Value} {o' : O} {hp1 : Hp} (hh : HRel ρ B hp nx w) (hB : Old B w) (hg : w.grownBy w' v.ownBlock) (hgB : ∀ k, v.ownBlock = some k → ¬ B k)
    (hp1s : ∀ k o, find hp1 k = some o → find (noViews hp) k = some o ∨ o = .dead ∧ k < nx) (hfree : ∀ k o g, find hp1 k = some o → o.blk (ρ k) = some g → v.ownBlock ≠ some g)
    (ho : o'.ok (upd ρ nx v') B w' nx) (hl : o'.lt (nx + 1)) (hb : ∀ k, o'.blk v' = some k → v.ownBlock = some k ∨ w.heap.size ≤ k) :
    HRel (upd ρ nx v') B ((nx, o') :: hp1) (nx + 1) w' := by
  have hag := upd_agree ρ nx v'
  have old : ∀ k o, find hp1 k = some o → k < nx ∧ o.lt nx ∧ o.ok ρ B w k ∧ (∀ r c fl, o ≠ .view r c fl) := by
    intro k o hk
    rcases hp1s k o hk with h | ⟨h, h2⟩
    · obtain ⟨_, _, h3, h4, h5, h6, _⟩ := noViews_ok hh h
      exact ⟨h3, h4, h5, h6⟩
    · subst h; exact ⟨h2, trivial, trivial, fun _ _ _ => by simp⟩
  have blklt : ∀ k o g, find hp1 k = some o → o.blk (ρ k) = some g → g < w.heap.size := fun k o g hk hbk => (O.blk_lt (old k o hk).2.2.1 hbk).1
  refine ⟨?_, ?_, hh.glob.bel (below_grown hg hgB hB)⟩
  · intro k o hk
    simp only [find] at hk
    split at hk
    · rename_i e
      subst e
      cases hk
      exact ⟨by omega, hl, ho⟩
    · obtain ⟨h3, h4, h5, h6⟩ := old k o hk
      refine ⟨by omega, O.lt_mono (Nat.le_succ nx) h4, ?_⟩
      refine O.ok_agree hag h3 h4 ?_
      cases hv : v.ownBlock with
      | none =>
        exact O.ok_except (g := w.heap.size) (fun b hb2 _ => hg.block b hb2 (by rw [hv]; simp)) (fun hc => Nat.lt_irrefl _ (hB _ hc)) h5 (fun e => by have := blklt k o _ hk e; omega) h6
      | some g =>
        exact O.ok_except (g := g) (fun b hb2 hne => hg.block b hb2 (by rw [hv]; simpa using hne)) (hgB g hv) h5 (fun e => hfree k o g hk e hv) h6
  · intro k o1 k' o1' b hk hk' hne hbk hbk'
    simp only [find] at hk hk'
    split at hk
    · rename_i e
      subst e
      cases hk
      rw [if_neg hne] at hk'
      obtain ⟨h3, _, _, _⟩ := old k' o1' hk'
      rw [upd_same] at hbk
      rw [hag k' h3] at hbk'
      rcases hb b hbk with h | h
      · exact hfree k' o1' b hk' hbk' h
      · have := blklt k' o1' b hk' hbk'
        omega
    · split at hk'
      · rename_i e
        subst e
        cases hk'
        obtain ⟨h3, _, _, _⟩ := old k o1 hk
        rw [upd_same] at hbk'
        rw [hag k h3] at hbk
        rcases hb b hbk' with h | h
        · exact hfree k o1 b hk hbk h
        · have := blklt k o1 b hk hbk
          omega
      · obtain ⟨h3, _, _, _⟩ := old k o1 hk
        obtain ⟨h3', _, _, _⟩ := old k' o1' hk'
        rw [hag k h3] at hbk
        rw [hag k' h3'] at hbk'
        rcases hp1s k o1 hk with h | ⟨h, _⟩
        · rcases hp1s k' o1' hk' with h' | ⟨h', _⟩
          · obtain ⟨o2, h2, _, _, _, _, h7⟩ := noViews_ok hh h
            obtain ⟨o3, h3, _, _, _, _, h8⟩ := noViews_ok hh h'
            exact hh.apart k o2 k' o3 b h2 h3 hne (h7 b hbk) (h8 b hbk')
          · subst h'; simp [O.blk] at hbk'
        · subst h; simp [O.blk] at hbk

theorem sliceOf_spec {v : V} {hs : Option Nat} {cs : Option Cont} (hh : HRel ρ B hp nx w) (h : sliceOf hp v = some (hs, cs)) :
    (hs = none ∧ cs = none ∧ v.val ρ = .slice none 0 0) ∨ ∃ k o c, hs = some k ∧ cs = some c ∧ v.val ρ = ρ k ∧ find hp k = some o ∧ o.cont = some c ∧ IsRow w (ρ k) c := by
  unfold sliceOf at h
  split at h
  · rename_i k
    split at h
    · rename_i c hc
      cases h
      cases hf : find hp k with
      | none => simp [hf] at hc
      | some o =>
        simp only [hf, Option.bind_some] at hc
        exact .inr ⟨k, o, c, rfl, rfl, rfl, hf, hc, row_isRow (hh.ok k o hf).2.2 hc⟩
    · cases h
  · cases h
    exact .inl ⟨rfl, rfl, rfl⟩
  · cases h

theorem append_sound {o : Oper} {t elem e b : Nat} {s x : Operand} {c : Call} {us ux : V} {hs hx : Option Nat} {cs cx : Option Cont} {z : List D} {c1 c2 c3 : Cont} (hh : HRel ρ B hp nx w) (hB : Old B w) (hr : Reads ρ nx rd a)
    (ho : o.op = .call c) (hcal : c.callee = .builtin .append) (hargs : c.args = #[s, x]) (hts : c.argTypes = #[t, t]) (hu : P.underlying t = some (.slice elem))
    (hrs : rd s = some us) (hrx : rd x = some ux) (hss : sliceOf hp us = some (hs, cs)) (hsx : sliceOf hp ux = some (hx, cx)) (hz : (zeroC P elem).bind dsOf = some z) (hsz : szT P elem = some (e + 1)) (hby : bytesT P elem = some b)
    (hown : match hs, find hp (hs.getD nx) with | none, _ => True | some _, some (.row ty _) => ty = elem | _, _ => False)
    (h1 : contOr z cs = some c1) (h2 : contOr z cx = some c2) (h3 : c1.app c2 = some c3) (hzl : z.length = e + 1) (he1 : c1.e = e + 1)
    (hob : (c1.n + c2.n) * b ≤ 140737488355328 ∧ c1.n + c2.n ≤ 9223372036854775807) (hone : ∀ x ∈ c2.flat, x.val.oneCell' = true) (r : Res) (hrn : r.nx = nx + 1) (hrv : r.v = .w (.c (.o nx)))
    (hrh : r.hp = (nx, .row elem c3) :: (match hs with | some h => (h, .dead) :: noViews hp | none => noViews hp)) :
    Sound P ρ B nx a w o r false := by
  have happ := Cont.app_flat h3
  have hvs := (hr _ _ hrs).2
  have hvx := (hr _ _ hrx).2
  -- the element's row of the table
  cases hi : P.info? elem with
  | none => simp [szT, hi] at hsz
  | some i =>
    have hsz' : i.size = e + 1 := by simpa [szT, hi] using hsz
    have hby' : i.bytes = b := by simpa [bytesT, hi] using hby
    cases hzz : i.zero with
    | none => simp [zeroC, hi, hzz] at hz
    | some zv =>
      cases hzc : zeroC P elem with
      | none => simp [hzc] at hz
      | some zc =>
        simp only [hzc, Option.bind_some] at hz
        obtain ⟨v0, hv0, hvc, _⟩ := zeroC_run (P := P) (w := w) (ρ := ρ) hzc
        have hvz : v0 = zv := by
          simp [zeroValue, typeInfo, hi, hzz] at hv0
          exact hv0.symm
        subst hvz
        have hzce := dsOf_eq hz
        have hzs : v0.cells.size = e + 1 := by rw [hvc, hzce]; simp [hzl]
        -- the base
        have hmk0 : ∀ c, mkCont z [] = some c → c.n = 0 ∧ c.flat = [] := fun c hc => by have := mkCont_flat hc; exact ⟨this.2.1, this.1⟩
        have hbase : w.ownsRow 0 elem (e + 1) (us.val ρ) c1.n (c1.flat.map D.val) ∧ (∀ k, (us.val ρ).ownBlock = some k → ∃ h o, hs = some h ∧ find hp h = some o ∧ o.blk (ρ h) = some k) := by
          rcases sliceOf_spec hh hss with ⟨rfl, rfl, hv⟩ | ⟨k, ob, c, rfl, rfl, hv, hf, hc, _⟩
          · have := hmk0 c1 h1
            rw [hv, this.1, this.2]
            exact ⟨World.ownsRow_nil w 0 elem (e + 1), fun k hk => by simp [Value.ownBlock] at hk⟩
          · simp only [contOr, Option.some.injEq] at h1
            subst h1
            simp only [Option.getD_some, hf] at hown
            cases ob with
            | row ty c' =>
              simp only at hown
              subst hown
              simp [O.cont] at hc
              subst hc
              have hok := (hh.ok k _ hf).2.2
              rw [hv]
              refine ⟨by rw [← he1]; exact hok.1, fun g hg => ⟨k, _, rfl, hf, hg⟩⟩
            | _ => exact hown.elim
        -- what is appended
        have hsrc : ((ux.val ρ) = .slice none 0 0 ∧ c2.n = 0) ∨ ∃ ad cc, (ux.val ρ) = .slice (some ad) c2.n cc ∧ ∀ j u, (c2.flat.map D.val)[j]? = some u → w.cell? (ad.add j) = some u := by
          rcases sliceOf_spec hh hsx with ⟨rfl, rfl, hv⟩ | ⟨k, ob, c, rfl, rfl, hv, hf, hc, hrow⟩
          · exact .inl ⟨hv, (hmk0 c2 h2).1⟩
          · simp only [contOr, Option.some.injEq] at h2
            subst h2
            obtain ⟨a', cap, h5, ⟨h6, h6'⟩, h7⟩ := hrow
            by_cases hn : 0 < c.n
            · obtain ⟨bb, off, rfl, hcell⟩ := h7 hn
              refine .inr ⟨⟨bb, off, none⟩, cap, by rw [hv, h5], fun j u hj => ?_⟩
              rw [List.getElem?_map] at hj
              cases hjx : c.flat[j]? with
              | none => simp [hjx] at hj
              | some x => simp [hjx] at hj; subst hj; rw [add_at]; exact hcell j x hjx
            · cases a' with
              | some ad =>
                refine .inr ⟨ad, cap, by rw [hv, h5], fun j u hj => ?_⟩
                have hc0 : c.n = 0 := by omega
                have : c.flat = [] := List.eq_nil_of_length_eq_zero (by rw [Cont.flat_length, hc0, Nat.zero_mul])
                rw [this] at hj
                simp at hj
              | none =>
                -- a nil slice with room is none
                have hcap : cap = 0 := h6' rfl
                subst hcap
                have : c.n = 0 := by omega
                exact .inl ⟨by rw [hv, h5, this], this⟩
        obtain ⟨v', w', hrun, hown', hgrown, hwhere⟩ := append_run (ty := o.type) hu hi hzz hsz' hby' hzs hbase.1 (news := c2.flat.map D.val) (m := c2.n) (by simp [Cont.flat_length, happ.2.2.2, he1]) (fun u hu2 => by
          obtain ⟨x, hx1, rfl⟩ := List.mem_map.1 hu2
          exact hone x hx1) hsrc hob.2 hob.1
        have hown3 : w'.ownsRow 0 elem c3.e v' c3.n (c3.flat.map D.val) := by
          rw [happ.1, happ.2.1, happ.2.2.1, he1, List.map_append]
          exact hown'
        have hgB : ∀ k, (us.val ρ).ownBlock = some k → ¬ B k := fun k hk => by
          obtain ⟨h, ob, _, hf, hbo⟩ := hbase.2 k hk
          exact (O.blk_lt (hh.ok h ob hf).2.2 hbo).2
        refine sound_value (ρ' := upd ρ nx v') (w' := w') ?_ ?_
        · unfold execOp
          simp only [ho, hcal, resolve, hargs, hts, List.map_toArray, List.map_cons, List.map_nil, Sem.run_bind, Sem.run_pure, Result.andThen_ok, invoke, builtin, hvs, hvx, hrun]
          simp [hrv, V.val, W.val, C.val]
        · refine ⟨upd_agree _ _ _, by rw [hrv, hrn]; exact Nat.lt_succ_self nx, by omega, ?_, below_grown hgrown hgB hB, (fun h => by cases h), fun h => by cases h⟩
          rw [hrh, hrn]
          refine HRel.grow hh hB hgrown hgB ?_ ?_ (by unfold O.ok; rw [upd_same]; exact ⟨hown3, fun k hk hc => by
            rcases hwhere k hk with h | h
            · exact hgB k h hc
            · have := hB k hc; omega⟩) trivial (fun k hk => hwhere k hk)
          · intro k o1 hk
            cases hs with
            | none => exact .inl hk
            | some h =>
              simp only [find] at hk
              split at hk
              · rename_i e
                cases hk
                refine .inr ⟨rfl, ?_⟩
                rcases sliceOf_spec hh hss with ⟨h', _, _⟩ | ⟨k2, ob, c, h', _, _, hf, _, _⟩
                · cases h'
                · cases h'
                  rw [← e]
                  exact (hh.ok _ _ hf).1
              · exact .inl hk
          · intro k o1 g hk hbk hvg
            obtain ⟨h, ob, rfl, hf, hbo⟩ := hbase.2 g hvg
            simp only [find] at hk
            split at hk
            · cases hk
              simp [O.blk] at hbk
            · rename_i hne
              obtain ⟨o2, h2', _, _, _, _, h7⟩ := noViews_ok hh hk
              exact hh.apart h ob k o2 g hf h2' hne hbo (h7 g hbk)

/-- An append to a slice that is full: a new row. -/
theorem appView_sound {o : Oper} {t elem e b h q : Nat} {s x : Operand} {c : Call} {ux : V} {hx : Option Nat} {cx : Option Cont} {z : List D} {c1 c2 c3 : Cont} (hh : HRel ρ B hp nx w) (hB : Old B w) (hr : Reads ρ nx rd a)
    (ho : o.op = .call c) (hcal : c.callee = .builtin .append) (hargs : c.args = #[s, x]) (hts : c.argTypes = #[t, t]) (hu : P.underlying t = some (.slice elem))
    (hrs : rd s = some (.w (.c (.o h)))) (hf : find hp h = some (.view q c1 true)) (hrx : rd x = some ux) (hsx : sliceOf hp ux = some (hx, cx)) (hz : (zeroC P elem).bind dsOf = some z) (hsz : szT P elem = some (e + 1)) (hby : bytesT P elem = some b)
    (h2 : contOr z cx = some c2) (h3 : c1.app c2 = some c3) (hzl : z.length = e + 1) (he1 : c1.e = e + 1) (hn1 : 0 < c1.n)
    (hob : 0 < c2.n ∧ (c1.n + c2.n) * b ≤ 140737488355328 ∧ c1.n + c2.n ≤ 9223372036854775807) (r : Res) (hrn : r.nx = nx + 1) (hrv : r.v = .w (.c (.o nx)))
    (hrh : r.hp = (nx, .row elem c3) :: hp) : Sound P ρ B nx a w o r false := by
  have happ := Cont.app_flat h3
  have hvs : a.eval s = ρ h := (hr _ _ hrs).2
  have hvx := (hr _ _ hrx).2
  obtain ⟨hlt, hol, ⟨a1, cap1, hv1, hc1, hcell1⟩, hfull⟩ := hh.ok h _ hf
  have hcap := hfull rfl _ _ _ hv1
  subst hcap
  obtain ⟨b1, off1, rfl, hx1⟩ := hcell1 hn1
  cases hi : P.info? elem with
  | none => simp [szT, hi] at hsz
  | some i =>
    have hsz' : i.size = e + 1 := by simpa [szT, hi] using hsz
    have hby' : i.bytes = b := by simpa [bytesT, hi] using hby
    cases hzz : i.zero with
    | none => simp [zeroC, hi, hzz] at hz
    | some zv =>
      cases hzc : zeroC P elem with
      | none => simp [hzc] at hz
      | some zc =>
        simp only [hzc, Option.bind_some] at hz
        obtain ⟨v0, hv0, hvc, _⟩ := zeroC_run (P := P) (w := w) (ρ := ρ) hzc
        have hvz : v0 = zv := by
          simp [zeroValue, typeInfo, hi, hzz] at hv0
          exact hv0.symm
        subst hvz
        have hzce := dsOf_eq hz
        have hzs : v0.cells.size = e + 1 := by rw [hvc, hzce]; simp [hzl]
        have hmk0 : ∀ c, mkCont z [] = some c → c.n = 0 ∧ c.flat = [] := fun c hc => by have := mkCont_flat hc; exact ⟨this.2.1, this.1⟩
        obtain ⟨ad, cc, hxv, hx2⟩ : ∃ ad cc, (ux.val ρ) = .slice (some ad) c2.n cc ∧ ∀ j u, (c2.flat.map D.val)[j]? = some u → w.cell? (ad.add j) = some u := by
          rcases sliceOf_spec hh hsx with ⟨rfl, rfl, hv⟩ | ⟨k, ob, c, rfl, rfl, hv, hf, hc, hrow⟩
          · have := (hmk0 c2 h2).1
            omega
          · simp only [contOr, Option.some.injEq] at h2
            subst h2
            obtain ⟨a', cap, h5, ⟨h6, h6'⟩, h7⟩ := hrow
            obtain ⟨bb, off, rfl, hcell⟩ := h7 hob.1
            refine ⟨⟨bb, off, none⟩, cap, by rw [hv, h5], fun j u hj => ?_⟩
            rw [List.getElem?_map] at hj
            cases hjx : c.flat[j]? with
            | none => simp [hjx] at hj
            | some x => simp [hjx] at hj; subst hj; rw [add_at]; exact hcell j x hjx
        have hl1 : (c1.flat.map D.val).length = c1.n * i.size := by simp [Cont.flat_length, he1, hsz']
        have hl2 : (c2.flat.map D.val).length = c2.n * i.size := by simp [Cont.flat_length, happ.2.2.2, he1, hsz']
        have hrun := run_append_grow (P := P) w t o.type elem i v0 hu hi hzz ⟨b1, off1, none⟩ c1.n c1.n (c1.flat.map D.val) hl1 (fun j u hj => by
          rw [List.getElem?_map] at hj
          cases hjx : c1.flat[j]? with
          | none => simp [hjx] at hj
          | some x => simp [hjx] at hj; subst hj; rw [add_at]; exact hx1 j x hjx) ad c2.n cc (c2.flat.map D.val) hl2 hx2 (by omega) (by have := hob.2.2; omega) (growslice_fits (by omega) (by rw [hby']; exact hob.2.1))
        have hge := grownCap_ge w (c1.n + c2.n) c1.n elem
        have hcm : grownCap w (c1.n + c2.n) c1.n elem ≤ maxLen := grownCap_le_maxLen w (c1.n + c2.n) c1.n elem (by have := hob.2.2; simpa [maxLen] using this)
        have hbel : Below w.heap.size w (w.drew.alloc (.cells ((c1.flat.map D.val).toArray ++ (c2.flat.map D.val).toArray ++ Builtin.zeroCells v0.cells (grownCap w (c1.n + c2.n) c1.n elem - (c1.n + c2.n))) elem)) := ((Below.refl _ w).drew).alloc (Nat.le_refl _) _
        refine sound_value (ρ' := upd ρ nx (.slice (some ⟨w.heap.size, 0, none⟩) (c1.n + c2.n) (grownCap w (c1.n + c2.n) c1.n elem)))
          (w' := w.drew.alloc (.cells ((c1.flat.map D.val).toArray ++ (c2.flat.map D.val).toArray ++ Builtin.zeroCells v0.cells (grownCap w (c1.n + c2.n) c1.n elem - (c1.n + c2.n))) elem)) ?_ ?_
        · unfold execOp
          simp only [ho, hcal, resolve, hargs, hts, List.map_toArray, List.map_cons, List.map_nil, Sem.run_bind, Sem.run_pure, Result.andThen_ok, invoke, builtin, hvs, hvx, hv1, hxv, hrun]
          simp [hrv, V.val, W.val, C.val]
        · refine ⟨upd_agree _ _ _, by rw [hrv, hrn]; exact Nat.lt_succ_self nx, by omega, ?_, bel_of hbel hB, (fun h => by cases h), fun h => by cases h⟩
          rw [hrh, hrn]
          refine hh.add hbel hB (upd_agree _ _ _) trivial ⟨?_, fun k hk hc => ?_⟩ (by simp [O.blk, Value.ownBlock])
          · rw [upd_same, happ.1, happ.2.1, happ.2.2.1, he1, List.map_append]
            refine ⟨by rw [List.length_append, hl1, hl2, hsz', ← Nat.add_mul], .inr ⟨w.heap.size, _, _, rfl, Nat.zero_le _, heap_alloc_new w.drew _, hge, hcm, ?_, ?_⟩⟩
            · simp only [Array.size_append, List.size_toArray, size_zeroCells, hzs, hl1, hl2, hsz', ← Nat.add_mul]
              congr 1
              omega
            · simp only [Array.toList_append]
              have : ((c1.flat.map D.val) ++ (c2.flat.map D.val)).length = (c1.n + c2.n) * (e + 1) := by rw [List.length_append, hl1, hl2, hsz', ← Nat.add_mul]
              rw [← this]
              exact List.take_left
          · rw [upd_same] at hk
            simp only [Value.ownBlock, Option.some.injEq] at hk
            have := hB k hc
            omega

theorem Cont.one_all {c : Cont} (h : c.one = true) : ∀ x ∈ c.flat, x.val.oneCell' = true := by
  intro x hx
  cases c with
  | ints k l => simp [Cont.flat] at hx; obtain ⟨y, _, rfl⟩ := hx; rfl
  | floats k l => simp [Cont.flat] at hx; obtain ⟨y, _, rfl⟩ := hx; rfl
  | strs l => simp [Cont.flat] at hx; obtain ⟨y, _, rfl⟩ := hx; rfl
  | bools l => simp [Cont.flat] at hx; rcases hx with ⟨_, rfl⟩ | ⟨_, rfl⟩ <;> rfl
  | recs e l => simp [Cont.flat, recD] at hx; obtain ⟨y, _, i, _, rfl⟩ := hx; rfl
  | lits e l => exact D.one_val (List.all_eq_true.1 h x hx)
  | frs k e l => simp [Cont.flat, frD] at hx; obtain ⟨y, _, i, _, rfl⟩ := hx; rfl

theorem rdAll_run (hr : Reads ρ nx rd a) : ∀ (xs : List Operand) (l : List V), rdAll rd xs = some l → xs.map a.eval = l.map (V.val ρ) ∧ ∀ v ∈ l, V.lt nx v
  | [], l, h => by simp only [rdAll, Option.some.injEq] at h; subst h; exact ⟨rfl, fun _ h => by cases h⟩
  | x :: r, l, h => by
    simp only [rdAll] at h
    split at h
    · rename_i v l' hx hl
      cases h
      have ih := rdAll_run hr r l' hl
      have h1 := hr x _ hx
      refine ⟨by simp only [List.map_cons, ih.1, h1.2], fun y hy => ?_⟩
      rcases List.mem_cons.1 hy with rfl | hy
      · exact h1.1
      · exact ih.2 y hy
    · cases h

theorem call_sound {o : Oper} {c : Call} {f : Operand} {g : Nat} {hs : List Nat} {vs : List V} {M : Bool} {S : Spec} {r : RT} (hh : HRel ρ B hp nx w) (hB : Old B w) (hr : Reads ρ nx rd a)
    (ho : o.op = .call c) (hcal : c.callee = .value f) (hrf : rd f = some (.w (.c (.fn g hs)))) (hvs : rdAll rd c.args.toList = some vs) (hok : SpecOK P g M S)
    (hS : S (vs ++ hs.map fun h => .w (.c (.o h))) hp nx = some r) (hob : r.sel.ob) : Sound P ρ B nx a w o r.sel M := by
  have hf := hr _ _ hrf
  have hargs := rdAll_run hr _ _ hvs
  have hltA : ∀ x ∈ vs ++ hs.map (fun h => V.w (.c (.o h))), V.lt nx x := fun x hx => by
    rcases List.mem_append.1 hx with h | h
    · exact hargs.2 x h
    · obtain ⟨k, hk, rfl⟩ := List.mem_map.1 h
      exact hf.1 k hk
  have ha : c.args.map a.eval = (vs.map (V.val ρ)).toArray := by
    rw [← hargs.1]
    apply Array.ext'
    simp
  have hcall : (execOp a.eval o).run P w = (callFunc g ((vs ++ hs.map fun h => V.w (.c (.o h))).map (V.val ρ)).toArray).run P w := by
    unfold execOp
    simp only [ho, resolve, hcal, hf.2, ha, Deferred.ofValue, V.val, W.val, C.val, Sem.run_bind, Sem.run_pure, Result.andThen_ok, invoke]
    congr 2
    simp [V.val, W.val, C.val, Function.comp_def]
  rcases hok with hok | hok
  · intro K Q hK
    have hcalls := hok.sound ρ B w _ hp nx r hS hob hltA hh hB
    unfold Oper.wp
    rw [hcall, hok.enter]
    refine hcalls.mono fun e w' ⟨ρ', he', hl⟩ => ?_
    subst he'
    exact hK ρ' w' hl
  · obtain ⟨ob, v, hsel, hv, hrun⟩ := hok ρ B w _ hp nx r hS hob hltA hh hB
    rw [hsel]
    exact sound_value (ρ' := ρ) (w' := w) (hcall.trans hrun) ⟨Agree.refl _ _, hv, Nat.le_refl _, hh, Bel.refl _ _, (fun _ => Below.refl _ _), fun _ h o k hn hf _ => absurd (hh.ok h o hf).1 (by omega)⟩

theorem callB_sound {o : Oper} {c : Call} {f : Operand} {g : Nat} {hs : List Nat} {vs : List V} {M : Bool} {S : Spec} {r : RT} (hh : HRel ρ B hp nx w) (hB : Old B w) (hr : Reads ρ nx rd a)
    (ho : o.op = .call c) (hcal : c.callee = .value f) (hrf : rd f = some (.w (.c (.fb g hs)))) (hvs : rdAll rd c.args.toList = some vs) (hok : SpecOK P g M S)
    (hS : S ((hs.map fun h => .w (.c (.o h))) ++ vs) hp nx = some r) (hob : r.sel.ob) : Sound P ρ B nx a w o r.sel M := by
  have hf := hr _ _ hrf
  have hargs := rdAll_run hr _ _ hvs
  have hltA : ∀ x ∈ hs.map (fun h => V.w (.c (.o h))) ++ vs, V.lt nx x := fun x hx => by
    rcases List.mem_append.1 hx with h | h
    · obtain ⟨k, hk, rfl⟩ := List.mem_map.1 h
      exact hf.1 k hk
    · exact hargs.2 x h
  have ha : c.args.map a.eval = (vs.map (V.val ρ)).toArray := by
    rw [← hargs.1]
    apply Array.ext'
    simp
  have hcall : (execOp a.eval o).run P w = (callFunc g ((hs.map (fun h => V.w (.c (.o h))) ++ vs).map (V.val ρ)).toArray).run P w := by
    unfold execOp
    simp only [ho, resolve, hcal, hf.2, ha, Deferred.ofValue, V.val, W.val, C.val, Sem.run_bind, Sem.run_pure, Result.andThen_ok, invoke]
    congr 2
    simp [V.val, W.val, C.val, Function.comp_def]
  rcases hok with hok | hok
  · intro K Q hK
    have hcalls := hok.sound ρ B w _ hp nx r hS hob hltA hh hB
    unfold Oper.wp
    rw [hcall, hok.enter]
    refine hcalls.mono fun e w' ⟨ρ', he', hl⟩ => ?_
    subst he'
    exact hK ρ' w' hl
  · obtain ⟨ob, v, hsel, hv, hrun⟩ := hok ρ B w _ hp nx r hS hob hltA hh hB
    rw [hsel]
    exact sound_value (ρ' := ρ) (w' := w) (hcall.trans hrun) ⟨Agree.refl _ _, hv, Nat.le_refl _, hh, Bel.refl _ _, (fun _ => Below.refl _ _), fun _ h o k hn hf _ => absurd (hh.ok h o hf).1 (by omega)⟩

/-- **One operation, proved.** -/
theorem step_sound {o : Oper} {r : Res} (hsp : SpecsOK P sp) (hh : HRel ρ B hp nx w) (hB : Old B w) (hr : Reads ρ nx rd a) (h : step P sp o.op rd hp nx = some r) (hob : r.ob) :
    Sound P ρ B nx a w o r (monoOp sp o.op rd) := by
  unfold step at h
  split at h
  · rename_i ob v hv
    cases h
    have hrun := stepV_run hh hr hv hob
    refine sound_value (ρ' := ρ) (w' := w) hrun.1 ⟨Agree.refl _ _, hrun.2, Nat.le_refl _, hh, Bel.refl _ _, (fun _ => Below.refl _ _), fun _ h o k hn hf _ => absurd (hh.ok h o hf).1 (by omega)⟩
  · rename_i hnone
    clear hnone
    split at h
    · rename_i r0 hX
      cases h
      exact stepR_sound hh hr hX hob
    rename_i hnone
    clear hnone
    split at h
    · rename_i r0 hX
      cases h
      exact stepX_sound hh hB hr hX hob
    rename_i hnone
    clear hnone
    unfold stepH at h
    split at h
    · -- box
      rename_i elem x hop
      split at h
      · rename_i u hx
        split at h
        · rename_i hone
          cases h
          simp only [hop, monoOp]
          exact box_sound hh hB hr hop hx hone
        · cases h
      · cases h
    · rename_i elem hop
      split at h
      · rename_i z hz
        cases h
        simp only [hop, monoOp]
        exact alloc_sound hh hB hop hz
      · cases h
    · rename_i t n parts hop
      split at h
      · rename_i elem l hu hl
        split at h
        · rename_i c hc
          cases h
          simp only [hop, monoOp]
          exact buildSlice_sound hh hB hr hop hu hl hc
        · cases h
      · cases h
    · -- makeSlice
      rename_i t l c hop
      split at h
      · rename_i elem k n k' m hu hl hc
        split at h
        · rename_i z e b hz hs hb
          split at h
          · rename_i hzl
            split at h
            · rename_i cc hcc
              cases h
              simp only [hop, monoOp]
              cases hrl : rd l with
              | none => simp [hrl] at hl
              | some u =>
                cases hrc : rd c with
                | none => simp [hrc] at hc
                | some u' =>
                  simp only [hrl, Option.bind_some] at hl
                  simp only [hrc, Option.bind_some] at hc
                  exact makeSlice_sound hh hB hr hop hu hrl hl hrc hc hz hs hb hzl hcc hob
            · cases h
          · cases h
        · cases h
      · cases h
    · -- slice
      rename_i t x lo hi hop
      split at h
      · rename_i n elem k j hu hx hlo hhi
        have hlo' : lo = none := by
          cases lo with
          | none => rfl
          | some y => simp only [rdBound] at hlo; split at hlo <;> simp at hlo
        have hhi' : hi = none := by
          cases hi with
          | none => rfl
          | some y => simp only [rdBound] at hhi; split at hhi <;> simp at hhi
        subst hlo'
        subst hhi'
        split at h
        · rename_i ty cs e z hf hs hz
          split at h
          · rename_i ds hds
            split at h
            · rename_i hl
              split at h
              · rename_i c hc
                cases h
                simp only [hop, monoOp]
                exact sliceArr_sound hh hB hr hop hu hx hf hs hds hl hc
              · cases h
            · cases h
          · cases h
        · cases h
      · rename_i elem k l m hu hx hlo hhi
        split at h
        · rename_i ob e hf hs
          split at h
          · rename_i c hc
            split at h
            · rename_i hce
              cases h
              simp only [hop, monoOp]
              exact sliceSlice_sound hh hB hr hop hu hx hlo hhi hf hs hc hce hob _ rfl rfl rfl
            · cases h
          · cases h
        · cases h
      · cases h
    · -- store
      rename_i t x y hop
      split at h
      · rename_i k i e j u hx hy
        split at h
        · rename_i hc
          obtain ⟨hone, hs, hall⟩ := hc
          split at h
          · rename_i ty cs hf
            split at h
            · rename_i hle
              cases h
              simp only [hop, monoOp]
              exact storeBox_sound hh hr hop hx hy hone hs hall hf hle
            · cases h
          · rename_i ty c hf
            split at h
            · rename_i ds hds
              split at h
              · rename_i c' hc'
                split at h
                · rename_i he
                  cases h
                  simp only [hop, monoOp]
                  exact storeRow_sound hh hr hop hx hy hone hs hall hf hds (Cont.upd_cell hc' hob) he.1 he.2 hob
                · cases h
              · cases h
            · cases h
          · cases h
        · cases h
      · cases h
    · -- call
      rename_i c hop
      split at h
      · -- append
        rename_i s x t t' hcal hargs hts
        split at h
        · rename_i htt
          subst htt
          split at h
          · rename_i cv hfv
            unfold fullView at hfv
            split at hfv
            · rename_i k hrs
              split at hfv
              · rename_i q c1 hfk
                cases hfv
                unfold stepAppView at h
                split at h
                · rename_i elem hx cx hu hsx
                  split at h
                  · rename_i z e b hz hsz hby
                    split at h
                    · rename_i c2 h2
                      split at h
                      · rename_i c3 h3
                        split at h
                        · rename_i hcond
                          cases h
                          have e1 : c.args = #[s, x] := by apply Array.ext'; simpa using hargs
                          have e2 : c.argTypes = #[t, t] := by apply Array.ext'; simpa using hts
                          cases hrx : rd x with
                          | none => simp [hrx] at hsx
                          | some ux =>
                            simp only [hrx, Option.bind_some] at hsx
                            have hm : monoOp sp o.op rd = false := by simp only [hop, monoOp, hcal]
                            rw [hm]
                            exact appView_sound hh hB hr hop hcal e1 e2 hu hrs hfk hrx hsx hz hsz hby h2 h3 hcond.1 hcond.2 hob.1 hob.2 _ rfl rfl rfl
                        · cases h
                      · cases h
                    · cases h
                  · cases h
                · cases h
              · cases hfv
            · cases hfv
          · rename_i hfv
            split at h
            · rename_i elem hs cs hx cx hu hss hsx
              split at h
              · rename_i z e b hz hsz hby
                split at h
                · rename_i c1 c2 hownB h1 h2
                  split at h
                  · rename_i c3 h3
                    split at h
                    · rename_i hcond
                      cases h
                      have e1 : c.args = #[s, x] := by apply Array.ext'; simpa using hargs
                      have e2 : c.argTypes = #[t, t] := by apply Array.ext'; simpa using hts
                      cases hrs : rd s with
                      | none => simp [hrs] at hss
                      | some us =>
                        cases hrx : rd x with
                        | none => simp [hrx] at hsx
                        | some ux =>
                          simp only [hrs, Option.bind_some] at hss
                          simp only [hrx, Option.bind_some] at hsx
                          have hm : monoOp sp o.op rd = false := by simp only [hop, monoOp, hcal]
                          rw [hm]
                          refine append_sound hh hB hr hop hcal e1 e2 hu hrs hrx hss hsx hz hsz hby ?_ h1 h2 h3 hcond.1 hcond.2.1 hob (Cont.one_all hcond.2.2) _ rfl rfl rfl
                          cases hs with
                          | none => trivial
                          | some k =>
                            simp only [Option.getD_some] at hownB ⊢
                            cases hfk : find hp k with
                            | none => simp [hfk] at hownB
                            | some ob =>
                              cases ob with
                              | row ty c' => simp only [hfk] at hownB; exact beq_iff_eq.1 hownB
                              | _ => simp [hfk] at hownB
                    · cases h
                  · cases h
                · cases h
              · cases h
            · cases h
        · cases h
      · -- a call
        rename_i f args ats hcal
        split at h
        · rename_i g hs vs hrf hvs
          split at h
          · rename_i M S hsg
            have hm : monoOp sp o.op rd = M := by simp only [hop, monoOp, hcal, hrf, hsg]
            rw [hm]
            obtain ⟨t, ht, hl⟩ := Option.bind_eq_some_iff.1 h
            cases t with
            | leaf r0 =>
              cases hl
              exact call_sound hh hB hr hop hcal hrf hvs (hsp g M S hsg) ht hob
            | br => cases hl
          · cases h
        · rename_i g hs vs hrf hvs
          split at h
          · rename_i M S hsg
            have hm : monoOp sp o.op rd = M := by simp only [hop, monoOp, hcal, hrf, hsg]
            rw [hm]
            obtain ⟨t, ht, hl⟩ := Option.bind_eq_some_iff.1 h
            cases t with
            | leaf r0 =>
              cases hl
              exact callB_sound hh hB hr hop hcal hrf hvs (hsp g M S hsg) ht hob
            | br => cases hl
          · cases h
        · cases h
      · cases h
    · cases h

/-- The world behind a draw. -/
def drew (w : World) : World := { w with drawn := w.drawn + 1 }
theorem drew_below (n : Nat) (w : World) : Below n w (drew w) := ⟨rfl, rfl, rfl, Nat.le_refl _, fun _ _ => rfl⟩

theorem nan_new {r : Res} (hh : HRel ρ B hp nx w) (hB : Old B w) {k : FloatKind} {n : Nat} (hn : (k.decode n).isNaN = true) (hrv : r.v = .w (.c (.o nx))) (hr : r.hp = (nx, .nan k) :: hp) (hrn : r.nx = nx + 1) (M : Bool) :
    Left ρ B nx w r M (upd ρ nx (.float k n)) (drew w) := by
  refine ⟨upd_agree _ _ _, by rw [hrn, hrv]; exact Nat.lt_succ_self nx, by omega, ?_, ⟨rfl, rfl, rfl, Nat.le_refl _, fun _ _ => rfl⟩, fun _ => drew_below _ _, fun _ h o q hnh hf hk => ?_⟩
  · rw [hr, hrn]
    exact hh.add (drew_below _ w) hB (upd_agree _ _ _) trivial ⟨n, upd_same _ _ _, hn⟩ (by simp [O.blk])
  · rw [hr] at hf
    simp only [find] at hf
    split at hf
    · cases hf; cases hk
    · have := (hh.ok h o hf).1
      omega

theorem nanBits_spec {k : FloatKind} {x y t : Nat} : (k.decode ((Question.nanBits k x y).cut t)).isNaN = true := by
  cases k
  · exact Fl.nan32 t
  · exact Fl.nan64 t
theorem nanConv_spec {k : FloatKind} {x t : Nat} : (k.decode ((Question.nanConv k x).cut t)).isNaN = true := by
  cases k
  · exact Fl.nan32 t
  · exact Fl.nan64 t

/-- **An operation that may come to no number, or a call.** -/
theorem stepT_sound {o : Oper} {t : RT} (hsp : SpecsOK P sp) (hh : HRel ρ B hp nx w) (hB : Old B w) (hr : Reads ρ nx rd a) (h : stepT P sp o.op rd hp nx = some t) (hob : t.sel.ob) :
    ∃ M, Sound P ρ B nx a w o t.sel M := by
  unfold stepT at h
  split at h
  · rename_i op ty x y yt hop
    split at h
    · rename_i k m k' n hx hy
      split at h
      · rename_i r hk hr2
        have hk := sameK_eq hk
        subst hk
        cases h
        have h1 := (hr _ _ hx).2
        have h2 := (hr _ _ hy).2
        have hg : (eqGuard op ty x y (Value.float k m) (Value.float k n)).run P w = .ok () w := by
          cases op <;> simp [eqGuard]
        have hb : binOp op ty (.float k m) (.float k n) = Op.floatArith op k m n := by
          unfold arith at hr2
          cases op <;> simp at hr2 <;> simp [binOp]
        have hfa : Op.floatArith op k m n = (match (generalizing := false) r with | some q => pure (.float k q) | none => (choose (.nanBits k m n) >>= fun z => pure (.float k z)) : Sem Value) := by
          unfold arith at hr2
          cases op <;> simp at hr2 <;> subst hr2 <;> simp [Op.floatArith] <;> split <;> rename_i hq <;> simp [hq]
        cases r with
        | some q =>
          refine ⟨true, ?_⟩
          refine sound_value (ρ' := ρ) (w' := w) ?_ ⟨Agree.refl _ _, trivial, Nat.le_refl _, hh, Bel.refl _ _, (fun _ => Below.refl _ _), fun _ h o k hn hf _ => absurd (hh.ok h o hf).1 (by omega)⟩
          unfold execOp
          have e1 : a.eval x = .float k m := h1
          have e2 : a.eval y = .float k n := h2
          simp only [hop, e1, e2, Sem.run_bind, hg, Result.andThen_ok, hb, hfa, Sem.run_pure]
          rfl
        | none =>
          refine ⟨true, ?_⟩
          refine sound_value (ρ' := upd ρ nx (.float k ((Question.nanBits k m n).cut (w.tape w.drawn (.nanBits k m n))))) (w' := drew w) ?_ (nan_new hh hB nanBits_spec rfl rfl rfl true)
          unfold execOp
          have e1 : a.eval x = .float k m := h1
          have e2 : a.eval y = .float k n := h2
          simp only [hop, e1, e2, Sem.run_bind, hg, Result.andThen_ok, hb, hfa, choose, Sem.run, Question.forced]
          simp [RT.sel, V.val, W.val, C.val, drew]
      · cases h
    · cases h
  · rename_i src dst x hop
    split at h
    · rename_i n hs hd hx
      cases h
      have h1 := (hr _ _ hx).2
      have e1 : a.eval x = .float .f32 n := h1
      have hc : convert src dst (.float .f32 n) = (convert src dst (.float .f32 n)) := rfl
      have hrun : (convert src dst (.float .f32 n)).run P w = (Conv.floatToFloat .f32 n .f64).run P w := by
        simp [convert, run_underlying hs, run_underlying hd]
      unfold isNan32 to64
      cases hdec : FloatKind.decode .f32 n with
      | nan s f =>
        refine ⟨true, ?_⟩
        refine sound_value (ρ' := upd ρ nx (.float .f64 ((Question.nanConv .f64 n).cut (w.tape w.drawn (.nanConv .f64 n))))) (w' := drew w) ?_ (nan_new hh hB nanConv_spec rfl rfl rfl true)
        unfold execOp
        simp only [hop, e1, Sem.run_bind, hrun]
        simp [Conv.floatToFloat, hdec, choose, Sem.run, Question.forced, RT.sel, V.val, W.val, C.val, drew, Ieee.Datum.isNaN]
      | infinity s =>
        refine ⟨true, ?_⟩
        refine sound_value (ρ' := ρ) (w' := w) ?_ ⟨Agree.refl _ _, trivial, Nat.le_refl _, hh, Bel.refl _ _, (fun _ => Below.refl _ _), fun _ h o k hn hf _ => absurd (hh.ok h o hf).1 (by omega)⟩
        unfold execOp
        simp only [hop, e1, Sem.run_bind, hrun]
        simp [Conv.floatToFloat, hdec, RT.sel, V.val, W.val, C.val, D.val, vf, Ieee.Datum.isNaN]
      | number s m e =>
        refine ⟨true, ?_⟩
        refine sound_value (ρ' := ρ) (w' := w) ?_ ⟨Agree.refl _ _, trivial, Nat.le_refl _, hh, Bel.refl _ _, (fun _ => Below.refl _ _), fun _ h o k hn hf _ => absurd (hh.ok h o hf).1 (by omega)⟩
        unfold execOp
        have hinf : (FloatKind.decode .f64 (FloatKind.encode .f64 (.number s m e))).isInfinity = false := Fl.up64 (b := n) hdec
        simp only [hop, e1, Sem.run_bind, hrun]
        simp [Conv.floatToFloat, hdec, hinf, RT.sel, V.val, W.val, C.val, D.val, vf, Ieee.Datum.isNaN]
    · cases h
  · rename_i c hop
    split at h
    · rename_i f hcal
      split at h
      · rename_i g hs vs hrf hvs
        split at h
        · rename_i M S hsg
          exact ⟨M, call_sound hh hB hr hop hcal hrf hvs (hsp g M S hsg) h hob⟩
        · cases h
      · rename_i g hs vs hrf hvs
        split at h
        · rename_i M S hsg
          exact ⟨M, callB_sound hh hB hr hop hcal hrf hvs (hsp g M S hsg) h hob⟩
        · cases h
      · cases h
    · cases h
  · cases h
end

end Go.Sx
