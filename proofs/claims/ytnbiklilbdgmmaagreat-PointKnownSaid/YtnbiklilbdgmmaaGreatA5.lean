/- Operations that write. -/
import Derived.Test.YtnbiklilbdgmmaaGreatA4
import Derived.Calls
set_option linter.constructorNameAsVariable false
set_option linter.unusedVariables false
set_option linter.unusedSimpArgs false
namespace Go.AM
open Go
section
variable {P : Program} {Pr : Nat → Prop} {w0 w w' : World} {μ : Mu} {h : Nat → Option AO} {nx : Nat} {N : Nat} {e : Env} {a : Act}
theorem zInfo {t : TypeId} {z : AV} {s b : Nat} (μ : Mu) (h : zOf P t = some z) (hs : szOf P t = some s) (hb : byOf P t = some b) : ∃ i cz, P.info? t = some i ∧ i.zero = some cz ∧ i.size = s ∧ i.bytes = b ∧ VR μ z cz := by
  unfold zOf at h
  obtain ⟨cz, h1, h2⟩ := Option.bind_eq_some_iff.1 h
  obtain ⟨i, hi, h3⟩ := Option.bind_eq_some_iff.1 h1
  unfold szOf at hs; unfold byOf at hb
  rw [hi] at hs hb
  simp at hs hb
  exact ⟨i, cz, hi, h3, hs, hb, cvV_ok μ h2⟩
theorem mark_ok {H : Hp} (R : Rel Pr w0 μ H.get nx w) {b : Nat} {l : List AV} {bi : BI} (hg : H.get b = some (.c .w l)) (hm : μ b = some bi) (o : Nat) :
    ∃ w', (markStringish ⟨bi.cb, o, none⟩).run P w = .ok () w' ∧ Rel Pr w0 μ H.get nx w' := by
  obtain ⟨C, el, lo, hi, k1, k3, k4, k5, k6, k7, k8⟩ := R.row hg hm
  refine ⟨w.freeze ⟨bi.cb, C.size, none⟩ 1, ?_, ?_⟩
  · have hsh : w.shape? bi.cb = some (el, C.size) := by simp [World.shape?, k1]
    simp only [markStringish, Sem.run_bind, run_shape, Result.andThen_ok, hsh, run_freeze]
  · obtain ⟨lo', hi', hfr, hlo⟩ : ∃ lo' hi', (if lo == hi then (C.size, C.size + 1) else (min lo C.size, max hi (C.size + 1))) = (lo', hi') ∧ C.size ≤ lo' := by
      by_cases c : lo = hi
      · exact ⟨C.size, C.size + 1, by simp [c], Nat.le_refl _⟩
      · exact ⟨min lo C.size, max hi (C.size + 1), by simp [c], by rcases k6 with h | h <;> omega⟩
    have U : Upd w (w.freeze ⟨bi.cb, C.size, none⟩ 1) bi.cb (.cells C el (lo', hi')) := by
      have hmod : ∀ b', (w.freeze ⟨bi.cb, C.size, none⟩ 1).heap[b']? = if bi.cb = b' then some (.cells C el (lo', hi')) else w.heap[b']? := by
        intro b'
        simp only [World.freeze, Nat.one_ne_zero, if_false, Array.getElem?_modify]
        by_cases c : bi.cb = b'
        · subst c
          rw [if_pos rfl, if_pos rfl, k1, Option.map_some]
          show some (Obj.cells C el (if lo == hi then (C.size, C.size + 1) else (min lo C.size, max hi (C.size + 1)))) = _
          rw [hfr]
        · rw [if_neg c, if_neg c]
      exact ⟨by rw [hmod, if_pos rfl], fun b' hb' => by rw [hmod, if_neg (Ne.symm hb')], rfl, rfl, rfl⟩
    have hmap : MapOK μ H.get H.get w (w.freeze ⟨bi.cb, C.size, none⟩ 1) := by
      refine mapOK_same (fun m n l e => e) fun m n l mb hm' hmb => ?_
      refine U.rest _ ?_
      have hne : m ≠ b := fun c => by subst c; rw [hg] at hm'; cases hm'
      rcases R.sep m b _ _ mb bi hne hm' hg hmb hm rfl with x | ⟨x, _⟩
      · exact x
      · cases x
    refine ⟨?_, R.sep, R.new, ?_, R.away, R.os, R.tape, R.out⟩
    · intro b' o' hbo
      obtain ⟨b2, hb2, ho2⟩ := R.obj b' o' hbo
      refine ⟨b2, hb2, ?_⟩
      by_cases ec : b2.cb = bi.cb
      · have hc : o'.isC = true := by
          by_cases e' : b' = b
          · subst e'; rw [hg] at hbo; cases hbo; rfl
          · rcases R.sep b' b o' _ b2 bi e' hbo hg hb2 hm (by simp [AO.wr]) with x | ⟨x, _⟩
            · exact absurd ec x
            · exact x
        match o', ho2, hc with
        | .c wr l2, ho2, _ =>
          obtain ⟨C0, el0, lo0, hi0, q1, q3, q4, q5, q6, q7, q8⟩ := ho2
          rw [ec, k1] at q1; cases q1
          exact ⟨C, el, lo', hi', by rw [ec]; exact U.at_, q3, q4, q5, fun _ => .inr hlo, q7, q8⟩
      · exact ho2.frame (Ext.refl _) (U.rest _ ec) hmap
    · intro B hB
      have hne : B ≠ bi.cb := fun c => R.away b _ bi hg hm rfl (c ▸ hB)
      obtain ⟨p, q⟩ := R.prot B hB
      refine ⟨(U.rest _ hne).trans p, ?_⟩
      have h2 := U.rest _ hne
      rw [Array.getElem?_eq_getElem q] at h2
      exact (Array.getElem?_eq_some_iff.1 h2).1
theorem e_ok {H H' : Hp} (R : Rel Pr w0 μ H.get H.nx w) {o : Oper} {d : Option Nat} {eo : EO} (hc : cOp P o = some (.e d eo)) (hE : ER μ N e a.tmps) {v : AV} (hr : eo.run e H = some (v, H')) :
    o.dst = d ∧ RK H H' ∧ EOk P Pr w0 μ w a o v H H' := by
  obtain ⟨dst, op, ty, pos, after, guard⟩ := o
  cases op with
  | store t x y =>
    cases dst <;> simp only [cOp] at hc
    · split at hc
      · rename_i n x' y' hn hx' hy'
        cases hc
        have hx := cO_ok hE hx'
        have hy := (cO_ok hE hy').cells
        have hyl := hy.length
        simp only [EO.run] at hr
        split at hr
        · rename_i b ofs hb
          rw [hb] at hx
          obtain ⟨bi, h1, h2⟩ := vr_p hx
          split at hr
          · rename_i l hg
            split at hr
            · rename_i hcond
              obtain ⟨c1, c2, c3⟩ := hcond
              cases hr
              obtain ⟨p1, p2, p3, p4⟩ := R.write (P := P) hg h1 (o := ofs) (by rw [c1]; exact c2) hy c3
              refine ⟨rfl, RK.set hg rfl rfl nofun, .skip, _, μ, ?_, rfl, Eu.refl _ _, p4⟩
              have hs : (a.eval y).cells.size = n := by rw [← Array.length_toList, hyl, c1]
              simp [execOp, Instr.storeAt, h2, Instr.sureAddr, storeVar, r_size hn, hs, p3]
            · cases hr
          · cases hr
        · cases hr
      · cases hc
    · cases hc
  | convert s t x =>
    cases dst <;> simp only [cOp] at hc
    · cases hc
    · split at hc
      · cases hc
      · cases hc
      · split at hc <;> cases hc
      · split at hc <;> cases hc
      · rename_i el el' x' h1 h2 h3
        split at hc
        · rename_i h4
          split at hc
          · rename_i hst
            simp only [Bool.and_eq_true, beq_iff_eq] at hst
            obtain ⟨rfl, rfl⟩ := hst
            cases hc
            have hx := cO_ok hE h3
            simp only [EO.run] at hr
            split at hr
            · rename_i b z ofs n c hb
              rw [hb] at hx
              split at hr
              case isFalse => cases hr
              rename_i hc0
              split at hr
              · rename_i l hg
                cases hr
                obtain ⟨ad, c', hcv, hsl⟩ := vr_sl hx
                obtain ⟨bi, k1, k2, k3, k4, k5, k6, k7, k8⟩ := hsl
                obtain ⟨w', q1, q2⟩ := mark_ok (P := P) R hg k1 (bi.base + ofs)
                refine ⟨rfl, RK.refl _, .value (a.eval x), w', μ, ?_, hx, Eu.refl _ _, q2⟩
                have had := k8 (by omega)
                simp [execOp, convert, r_und h1, r_und h4, hcv, had, q1]
              · cases hr
            · cases hr
          · cases hc
        · cases hc
      · cases hc
  | mapUpdate t m k x =>
    cases dst <;> simp only [cOp] at hc
    · split at hc
      · rename_i kt vt m' k' x' hu hm hk hx
        split at hc
        · rename_i et het
          split at hc
          · rename_i hko
            cases hc
            have hm' := cO_ok hE hm
            have hk' := cO_ok hE hk
            have hx' := cO_ok hE hx
            simp only [EO.run] at hr
            split at hr
            · rename_i r hb
              rw [hb] at hm'
              obtain ⟨bi, h1, h2⟩ := vr_m hm'
              split at hr
              · rename_i l hl
                obtain ⟨n, hg⟩ := hp_map hl
                split at hr
                case isFalse => cases hr
                rename_i hkk
                split at hr
                · cases hr
                · rename_i i u hlook
                  split at hr
                  · rename_i x2 y2 hli
                    split at hr
                    · rename_i hveq
                      cases hr
                      obtain ⟨w', q1, q2⟩ := run_mapUpdate (P := P) R hu hko het hk' hx' hkk hg h1 hlook (.inl ⟨i, u, x2, y2, rfl, hli, hveq, rfl⟩)
                      exact ⟨rfl, RK.set hg rfl rfl nofun, .skip, w', μ, by simp [execOp, h2, q1], rfl, Eu.refl _ _, q2⟩
                    · cases hr
                  · cases hr
                · rename_i hlook
                  cases hr
                  obtain ⟨w', q1, q2⟩ := run_mapUpdate (P := P) R hu hko het hk' hx' hkk hg h1 hlook (.inr ⟨rfl, rfl⟩)
                  exact ⟨rfl, RK.set hg rfl rfl nofun, .skip, w', μ, by simp [execOp, h2, q1], rfl, Eu.refl _ _, q2⟩
              · cases hr
            · cases hr
          · cases hc
        · cases hc
      · cases hc
    · cases hc
  | insert t m k x =>
    cases dst <;> simp only [cOp] at hc
    · split at hc
      · rename_i kt vt m' k' x' hu hm hk hx
        split at hc
        · rename_i et het
          split at hc
          · rename_i hko
            cases hc
            have hm' := cO_ok hE hm
            have hk' := cO_ok hE hk
            have hx' := cO_ok hE hx
            simp only [EO.run] at hr
            split at hr
            · rename_i r hb
              rw [hb] at hm'
              obtain ⟨bi, h1, h2⟩ := vr_m hm'
              split at hr
              · rename_i l hl
                obtain ⟨n, hg⟩ := hp_map hl
                split at hr
                case isFalse => cases hr
                rename_i hkk
                split at hr
                · cases hr
                · rename_i i u hlook
                  split at hr
                  · rename_i x2 y2 hli
                    split at hr
                    · rename_i hveq
                      cases hr
                      obtain ⟨w', q1, q2⟩ := run_mapUpdate (P := P) R hu hko het hk' hx' hkk hg h1 hlook (.inl ⟨i, u, x2, y2, rfl, hli, hveq, rfl⟩)
                      exact ⟨rfl, RK.set hg rfl rfl nofun, .skip, w', μ, by simp [execOp, h2, q1], rfl, Eu.refl _ _, q2⟩
                    · cases hr
                  · cases hr
                · rename_i hlook
                  cases hr
                  obtain ⟨w', q1, q2⟩ := run_mapUpdate (P := P) R hu hko het hk' hx' hkk hg h1 hlook (.inr ⟨rfl, rfl⟩)
                  exact ⟨rfl, RK.set hg rfl rfl nofun, .skip, w', μ, by simp [execOp, h2, q1], rfl, Eu.refl _ _, q2⟩
              · cases hr
            · cases hr
          · cases hc
        · cases hc
      · cases hc
    · cases hc
  | range t x =>
    cases dst <;> simp only [cOp] at hc
    · cases hc
    · rename_i dd
      split at hc
      · rename_i kt vt x' hu hx
        cases hc
        have hx' := cO_ok hE hx
        have hμ : μ H.nx = none := R.new _ (Nat.le_refl _)
        have push : ∀ (ob : Obj) (ao : AO), ao.wr = true → (∀ m n l c, ao = .it (some m) n l c → H.get m ≠ none) → (Instr.range t (a.eval x)).run P w = .ok (.pointer (some ⟨w.heap.size, 0, none⟩)) { w with heap := w.heap.push ob } →
            (∀ w' μ', Ext μ μ' → (∀ B, B < w.heap.size → w'.heap[B]? = w.heap[B]?) → w'.heap[w.heap.size]? = some ob → OR μ' (H.new ao).get ⟨w.heap.size, 0, 0, 0⟩ w' ao) →
            RK H (H.new ao) ∧ EOk P Pr w0 μ w a ⟨some dd, .range t x, ty, pos, after, guard⟩ (.p H.nx 0) H (H.new ao) := by
          intro ob ao hwr hai hrun hor
          refine ⟨RK.new (get_nx R) hwr hai, .value (.pointer (some ⟨w.heap.size, 0, none⟩)), { w with heap := w.heap.push ob }, μ.put H.nx ⟨w.heap.size, 0, 0, 0⟩, ?_, .p (Mu.put_at _ _ _) 0, Eu.put hμ (Nat.le_refl _), ?_⟩
          · simp only [execOp, Sem.run_bind, hrun, Result.andThen_ok, Sem.run_pure]
          · refine R.push (bi := ⟨w.heap.size, 0, 0, 0⟩) hμ (Nat.le_succ _) (Nat.lt_succ_self _) (fun B hB => ?_) ?_ rfl rfl rfl rfl (fun b => rfl) (Hp.get_new _ _) (hor _ _ (Ext.put hμ) (fun B hB => ?_) ?_)
            · show (w.heap.push _)[B]? = _
              rw [Array.getElem?_push, if_neg (by omega)]
            · show _ ≤ (w.heap.push _).size
              simp
            · show (w.heap.push _)[B]? = _
              rw [Array.getElem?_push, if_neg (by omega)]
            · show (w.heap.push _)[w.heap.size]? = _
              simp
        simp only [EO.run] at hr
        split at hr
        · rename_i hb
          cases hr
          rw [hb] at hx'
          have := push (.mapIter none 0 #[] 0) (.it none 0 [] none) rfl nofun (by simp [Instr.range, r_und hu, vr_nm hx']) (fun w' μ' _ _ h2 => ⟨rfl, _, _, _, h2⟩)
          exact ⟨rfl, this⟩
        · rename_i r hb
          rw [hb] at hx'
          obtain ⟨bi, h1, h2⟩ := vr_m hx'
          split at hr
          · rename_i n l hg
            cases hr
            obtain ⟨E, clk, g1, g2, g3⟩ := R.mp hg h1
            have hlt : bi.cb < w.heap.size := (Array.getElem?_eq_some_iff.1 g1).1
            have := push (.mapIter (some bi.cb) clk #[] clk) (.it (some r) n l none) rfl (fun m n' l' c h => by cases h; rw [hg]; simp) (by simp [Instr.range, r_und hu, h2, run_getObj g1 rfl]) (fun w' μ' hx hold hnew => ?_)
            · exact ⟨rfl, this⟩
            · have hrne : r ≠ H.nx := fun c => by rw [c, R.none_of (R.new _ (Nat.le_refl _))] at hg; cases hg
              have hget : ∀ o', (H.new (AO.it (some r) n l none)).get r = some o' → o' = .mp n l := fun o' ho => by
                rw [Hp.get_new, if_neg hrne, hg] at ho; cases ho; rfl
              refine ⟨rfl, bi, clk, #[], clk, hnew, hx _ _ h1, fun n' l' hl' => ?_, fun l' hl' E' clk' hE' => ?_⟩
              · cases hget _ hl'; exact Nat.le_refl _
              · cases hget _ hl'
                rw [hold _ hlt, g1] at hE'
                cases hE'
                refine ⟨rfl, rfl, ?_, fun k v hk => by cases hk⟩
                have : E.toList.filter (fun e => !(#[] : Array Nat).contains e.born) = E.toList := by
                  apply List.filter_eq_self.2; intro x _; simp
                rw [this]
                exact g2.mono hx
          · cases hr
        · cases hr
      · cases hc
  | call c =>
    obtain ⟨callee, args, argTypes⟩ := c
    obtain ⟨args⟩ := args
    obtain ⟨argTypes⟩ := argTypes
    simp only [cOp] at hc
    split at hc
    · -- append
      rename_i x y t u
      split at hc
      · rename_i elem u' x' y' hu hu2 hx hy
        have hx' := cO_ok hE hx
        have hy' := cO_ok hE hy
        have fin : ∀ {s b : Nat} {z : AV} {cv : List Value} {av : List AV} {n : Nat} {i : TypeInfo} {cz : Value}, P.info? elem = some i → i.zero = some cz → i.size = s → i.bytes = b → VR μ z cz → z.cells.length = s →
            VRL μ av cv → av.length = n * s → (av.all AV.one = true → ApRun P t u ty elem i cz (a.eval y) n cv w) → apRun H s b (ev e x') av n = some (v, H') →
            RK H H' ∧ EOk P Pr w0 μ w a ⟨dst, .call ⟨.builtin .append, ⟨[x, y]⟩, ⟨[t, u]⟩⟩, ty, pos, after, guard⟩ v H H' := by
          intro s b z cv av n i cz i1 i2 i3 i4 hz hzl hv hvl hs hr
          have hzc := hz.cells.length
          simp only [Array.length_toList] at hzc
          obtain ⟨q1, cr, w', μ', q2, q3, q4, q5⟩ := ap_ok (P := P) (tx := u) (ty := ty) R hu i1 i3 i4 i2 (by omega) hx' hv hvl hs hr
          refine ⟨q1, .value cr, w', μ', ?_, q3, q4, q5⟩
          rw [exec_builtin]
          simp only [builtin, List.map_cons, List.map_nil, Sem.run_bind, q2, Result.andThen_ok, Sem.run_pure]
        have fin2 : ∀ {s b : Nat} {z : AV}, szOf P elem = some s → byOf P elem = some b → zOf P elem = some z → z.cells.length = s → ((∃ e', u' = .slice e') ∨ u' = .string) → EO.run e H (.ap s z.cells b x' y') = some (v, H') →
            RK H H' ∧ EOk P Pr w0 μ w a ⟨dst, .call ⟨.builtin .append, ⟨[x, y]⟩, ⟨[t, u]⟩⟩, ty, pos, after, guard⟩ v H H' := by
          intro s b z hs hb hz hzl hk hr
          simp only [EO.run] at hr
          split at hr
          · rename_i av n hsrc
            obtain ⟨i, cz, i1, i2, i3, i4, i5⟩ := zInfo μ hz hs hb
            obtain ⟨cv, q1, q2, q3, _, _⟩ := src_ok P R hy' hsrc
            refine fin i1 i2 i3 i4 i5 hzl q1 q2 (fun hone => ?_) hr
            subst i3
            exact ApRun.ofSrc hu i1 i2 (q3 hu2 hk (vrl_one q1 hone) w rfl)
          · cases hr
        split at hc
        · rename_i k s b z h1 h2 h3
          split at hc
          · rename_i hzl
            cases hc
            simp only [EO.run] at hr
            split at hr
            · rename_i m hm
              split at hr
              · rename_i hcond
                obtain ⟨c1, c2, c3, c4⟩ := hcond
                obtain ⟨i, cz, i1, i2, i3, i4, i5⟩ := zInfo μ h3 h1 h2
                rw [hm] at hy'
                have hyv := vr_i hy'
                have hcc := i5.cells
                have hcl := hcc.length
                simp only [Array.length_toList] at hcl
                have hrep := rep_ok hcc m.toNat s (by omega)
                have hz0 : 0 < s := by
                  unfold apRun at hr
                  split at hr
                  · rename_i hh; exact hh.1
                  · cases hr
                subst i3; subst i4
                have hmm : (m.toNat : Int) = m := by omega
                refine ⟨rfl, fin i1 i2 rfl rfl i5 hzl hrep (by rw [rep_length, hzl]) (fun hone => ?_) hr⟩
                have hb2 : m.toNat * i.bytes ≤ 1000000000000 := by
                  have : ((m.toNat * i.bytes : Nat) : Int) ≤ 1000000000000 := by
                    rw [Int.natCast_mul, hmm]; exact c3
                  omega
                have hzone : ∀ u ∈ cz.cells.toList, u.oneCell' = true ∨ m.toNat = 0 := by
                  intro u' hu'
                  rcases Nat.eq_zero_or_pos m.toNat with h0 | h0
                  · exact .inr h0
                  · refine .inl (vrl_one hcc ?_ u' hu')
                    obtain ⟨m', hm'⟩ : ∃ m', m.toNat = m' + 1 := ⟨m.toNat - 1, by omega⟩
                    rw [hm'] at hone
                    simp only [rep, List.all_append, Bool.and_eq_true] at hone
                    exact hone.1
                have hyv2 : a.eval y = .int .i64 (m.toNat : Int) := by rw [hyv, hmm]
                rw [hyv2]
                have hlist : (Builtin.zeroCells cz.cells m.toNat).toList = (List.range (m.toNat * i.size)).map fun j => cz.cells[j % cz.cells.size]! := by
                  simp [Builtin.zeroCells, hcl, hzl]
                rw [← hlist]
                rcases Nat.eq_zero_or_pos m.toNat with h0 | h0
                · rw [h0]
                  refine ApRun.ofZeros0 hu hu2 i1 i2 (by omega) hz0
                · exact ApRun.ofZeros hu hu2 i1 i2 (by omega) hz0 (by omega) hb2 fun u' hu' => (hzone u' hu').resolve_right (by omega)
              · cases hr
            · cases hr
          · cases hc
        · rename_i s b z h1 h2 h3
          split at hc
          · rename_i hzl
            cases hc
            exact ⟨rfl, fin2 h1 h2 h3 hzl (.inr rfl) hr⟩
          · cases hc
        · rename_i e' s b z h1 h2 h3
          split at hc
          · rename_i hzl
            cases hc
            exact ⟨rfl, fin2 h1 h2 h3 hzl (.inl ⟨_, rfl⟩) hr⟩
          · cases hc
        · cases hc
      · cases hc
    · -- len
      split at hc
      · cases hc
      · cases hc
      · cases hc
      · split at hc <;> cases hc
      · cases hc
      · cases hc
    · split at hc <;> cases hc
    · -- copy
      rename_i x y t u
      split at hc
      · rename_i elem x' y' hu hx hy
        obtain ⟨s, hs, hh⟩ := Option.map_eq_some_iff.1 hc
        cases hh
        have hx' := cO_ok hE hx
        have hy' := cO_ok hE hy
        simp only [EO.run] at hr
        split at hr
        · cases hr
        · rename_i av n hsrc
          obtain ⟨cv, q1, q2, q3, q4, q5⟩ := src_ok P R hy' hsrc
          split at hr
          · rename_i hb
            cases hr
            rw [hb] at hx'
            refine ⟨rfl, RK.refl _, .value (.int .i64 0), w, μ, ?_, .i _ _, Eu.refl _ _, R⟩
            rw [exec_builtin]
            have h0 := q5 0 w (Nat.zero_le _) rfl
            simp [builtin, Builtin.copy_, r_und hu, vr_ns hx', q4, r_size hs, h0, goInt]
          · rename_i b z' ofs k c hb
            rw [hb] at hx'
            split at hr
            · rename_i l hg
              split at hr
              · rename_i hcond
                obtain ⟨rfl, c2, c3, c4⟩ := hcond
                cases hr
                obtain ⟨ad, c', hcv, hsl⟩ := vr_sl hx'
                obtain ⟨bi, k1, k2, k3, k4, k5, k6, k7, k8⟩ := hsl
                have hmin : Nat.min n k = min n k := rfl
                have htl : (av.take (min n k * z')).length = min n k * z' := by
                  rw [List.length_take, q2]
                  exact Nat.min_eq_left (Nat.mul_le_mul_right _ (Nat.min_le_left _ _))
                obtain ⟨p1, p2, p3, p4⟩ := R.write (P := P) hg k1 (o := ofs) (v := av.take (min n k * z')) (cv := cv.take (min n k * z')) (by rw [htl]; exact c3) (q1.take _) (all_take _ c4)
                have h0 := q5 (min n k) w (Nat.min_le_left _ _) rfl
                have hst : (storeCells ad (cv.take (min n k * z'))).run P w = .ok () (w.setCells bi.cb (bi.base + ofs) (cv.take (min n k * z'))) := by
                  rcases Nat.eq_zero_or_pos c' with h0 | h0
                  · have hk0 : min n k = 0 := by omega
                    rw [hk0, Nat.zero_mul, List.take_zero]; rfl
                  · rw [k8 h0]; exact p3
                refine ⟨rfl, RK.set hg rfl rfl nofun, .value (.int .i64 (min n k : Nat)), _, μ, ?_, .i _ _, Eu.refl _ _, p4⟩
                rw [exec_builtin]
                simp [builtin, Builtin.copy_, r_und hu, hcv, q4, r_size hs, hmin, h0, hst, goInt]
              · cases hr
            · cases hr
          · cases hr
      · cases hc
    · -- clear
      rename_i x t
      split at hc
      · rename_i elem x' hu hx
        obtain ⟨z, hz, hh⟩ := Option.map_eq_some_iff.1 hc
        cases hh
        have hx' := cO_ok hE hx
        simp only [EO.run] at hr
        split at hr
        · rename_i hb
          cases hr
          rw [hb] at hx'
          refine ⟨rfl, RK.refl _, .value (.tuple #[]), w, μ, ?_, .tp .nil, Eu.refl _ _, R⟩
          rw [exec_builtin]
          simp [builtin, Builtin.clear_, r_und hu, vr_ns hx']
        · rename_i b z' ofs n c hb
          rw [hb] at hx'
          obtain ⟨ad, c', hcv, hsl⟩ := vr_sl hx'
          obtain ⟨bi, k1, k2, k3, k4, k5, k6, k7, k8⟩ := hsl
          split at hr
          · rename_i hn
            subst hn
            cases hr
            refine ⟨rfl, RK.refl _, .value (.tuple #[]), w, μ, ?_, .tp .nil, Eu.refl _ _, R⟩
            rw [exec_builtin]
            simp [builtin, Builtin.clear_, r_und hu, hcv]
          · rename_i hn
            split at hr
            · rename_i l hg
              split at hr
              · rename_i hcond
                obtain ⟨c1, c2, c3⟩ := hcond
                cases hr
                obtain ⟨cz, hcz, hzr⟩ := r_zero μ hz
                have hcc := hcz.cells
                have hcl := hcc.length
                simp only [Array.length_toList] at hcl
                have hrep := rep_ok hcc n z' (by omega)
                obtain ⟨p1, p2, p3, p4⟩ := R.write (P := P) hg k1 (o := ofs) (by rw [rep_length, ← c1]; exact c2) hrep (rep_all c3 n)
                have hlist : (Builtin.zeroCells cz.cells n).toList = (List.range (n * z')).map fun j => cz.cells[j % cz.cells.size]! := by
                  simp [Builtin.zeroCells, hcl, c1]
                have had := k8 (by omega)
                refine ⟨rfl, RK.set hg rfl rfl nofun, .value (.tuple #[]), _, μ, ?_, .tp .nil, Eu.refl _ _, p4⟩
                rw [exec_builtin]
                obtain ⟨m, rfl⟩ : ∃ m, n = m + 1 := ⟨n - 1, by omega⟩
                simp only [builtin, Builtin.clear_, List.map_cons, List.map_nil, List.getElem?_toArray, List.getElem?_cons_zero, Sem.run_bind, r_und hu, Result.andThen_ok, hcv]
                simp only [Sem.run_bind, hzr, Result.andThen_ok, hlist, had, p3, Sem.run_pure]
              · cases hr
            · cases hr
        · cases hr
      · cases hc
    · -- delete
      rename_i m k t u
      split at hc
      · rename_i kt vt m' k' hu hm hk
        split at hc
        · rename_i et het
          split at hc
          · rename_i hko
            cases hc
            have hm' := cO_ok hE hm
            have hk' := cO_ok hE hk
            simp only [EO.run] at hr
            split at hr
            · rename_i hb
              rw [hb] at hm'
              split at hr
              · rename_i hkk
                cases hr
                have hck := check_ok (P := P) (w := w) hko het hk' hkk true
                refine ⟨rfl, RK.refl _, .value (.tuple #[]), w, μ, ?_, .tp .nil, Eu.refl _ _, R⟩
                rw [exec_builtin]
                simp [builtin, Builtin.delete_, r_und hu, vr_nm hm', hck]
              · cases hr
            · rename_i r hb
              rw [hb] at hm'
              obtain ⟨bi, h1, h2⟩ := vr_m hm'
              split at hr
              · rename_i l hl
                obtain ⟨n, hg⟩ := hp_map hl
                split at hr
                case isFalse => cases hr
                rename_i hkk
                split at hr
                · cases hr
                · rename_i i u' hlook
                  cases hr
                  obtain ⟨w', q1, q2⟩ := run_delete (P := P) (tk := u) (ty := ty) R hu hko het hk' hkk hg h1 hlook
                  refine ⟨rfl, RK.set hg rfl rfl nofun, .value (.tuple #[]), w', μ, ?_, .tp .nil, Eu.refl _ _, q2⟩
                  rw [exec_builtin]
                  simp only [builtin, List.map_cons, List.map_nil, h2, Sem.run_bind, q1, Result.andThen_ok, Sem.run_pure]
                · rename_i hlook
                  cases hr
                  obtain ⟨w', q1, q2⟩ := run_delete (P := P) (tk := u) (ty := ty) R hu hko het hk' hkk hg h1 hlook
                  refine ⟨rfl, RK.refl _, .value (.tuple #[]), w', μ, ?_, .tp .nil, Eu.refl _ _, q2⟩
                  rw [exec_builtin]
                  simp only [builtin, List.map_cons, List.map_nil, h2, Sem.run_bind, q1, Result.andThen_ok, Sem.run_pure]
              · cases hr
            · cases hr
          · cases hc
        · cases hc
      · cases hc
    · split at hc <;> cases hc
    · split at hc <;> cases hc
    · split at hc
      · split at hc
        · obtain ⟨_, _, hh⟩ := Option.map_eq_some_iff.1 hc; cases hh
          cases hr
        · cases hc
      · cases hc
    · split at hc
      · cases hc; cases hr
      · cases hc
    · cases hc
  | makeFunc fn x y => cases dst <;> cases fn <;> simp only [cOp] at hc <;> first | (cases hc; done) | (split at hc <;> cases hc)
  | next x s => cases dst <;> cases s <;> simp only [cOp] at hc <;> first | (cases hc; done) | (obtain ⟨_, _, hh⟩ := Option.map_eq_some_iff.1 hc; cases hh; cases hr)
  | binOp op t x y u =>
    cases dst <;> simp only [cOp] at hc
    · cases hc
    · split at hc
      · obtain ⟨po, hh⟩ := cBin_p P _ _ _ _ _ hc
        cases hh
      · cases hc
  | _ =>
    exfalso
    cases dst <;> simp only [cOp] at hc <;> (try cases hc) <;>
      repeat' (first | (cases hc; done) | (obtain ⟨_, _, hh⟩ := Option.map_eq_some_iff.1 hc; cases hh; done) | split at hc)
end
end Go.AM
/- A step of a way through a map. -/
set_option linter.unusedVariables false
set_option linter.unusedSimpArgs false
namespace Go.AM
open Go
theorem filter_ne {L : List MapEntry} (hp : L.Pairwise (fun a b => a.born ≠ b.born)) : ∀ {k : Nat} {e : MapEntry}, L[k]? = some e → L.filter (fun x => !(x.born == e.born)) = L.eraseIdx k := by
  induction L with
  | nil => intro k e h; simp at h
  | cons x L ih =>
    intro k e h
    rw [List.pairwise_cons] at hp
    cases k with
    | zero =>
      simp at h; subst h
      simp only [List.eraseIdx_cons_zero, List.filter_cons, beq_self_eq_true, Bool.not_true, Bool.false_eq_true, if_false]
      apply List.filter_eq_self.2
      intro y hy
      simpa using Ne.symm (hp.1 y hy)
    | succ k =>
      simp at h
      have hne : x.born ≠ e.born := hp.1 e (List.mem_of_getElem? h)
      simp [List.filter_cons, hne, ih hp.2 h]
section
variable {P : Program} {Pr : Nat → Prop} {w0 w w' : World} {μ : Mu} {h : Nat → Option AO} {nx : Nat} {N : Nat} {e : Env} {a : Act}
theorem nx_ok {H : Hp} (R : Rel Pr w0 μ H.get H.nx w) {o : Oper} {d : Option Nat} {x : O} (hc : cOp P o = some (.e d (.nx x))) (hE : ER μ N e a.tmps) {r0 : AV × Hp} (hr : nxRun H (ev e x) 0 = some r0) :
    o.dst = d ∧ ∃ k v H', nxRun H (ev e x) k = some (v, H') ∧ RK H H' ∧ EOk P Pr w0 μ w a o v H H' := by
  obtain ⟨dst, op, ty, pos, after, guard⟩ := o
  cases op with
  | next y s =>
    cases dst <;> cases s <;> simp only [cOp] at hc
    · cases hc
    · cases hc
    · rename_i dd
      obtain ⟨x', hx', hh⟩ := Option.map_eq_some_iff.1 hc
      cases hh
      have hx := cO_ok hE hx'
      refine ⟨rfl, ?_⟩
      unfold nxRun at hr
      split at hr
      · rename_i b hb
        rw [hb] at hx
        obtain ⟨bi, h1, h2⟩ := vr_p hx
        split at hr
        · rename_i n left cur hg
          obtain ⟨bi', hb', z0, p1, p2, p3, p4⟩ := R.obj b _ hg
          rw [h1] at hb'; cases hb'
          refine ⟨0, .tp [.b false], H, by simp [nxRun, hb, hg], RK.refl _, .value (.tuple #[.bool false]), w, μ, ?_, .tp (.cons (.b false) .nil), Eu.refl _ _, R⟩
          simp [execOp, h2, z0, Instr.next, run_getObj p4 rfl]
        · rename_i m n left cur hg
          split at hr
          · rename_i n' l hgm
            split at hr
            case isFalse => cases hr
            rename_i hn
            subst hn
            obtain ⟨bi', hb', z0, mb, since, seen, last, q1, q2, q3, q4⟩ := R.obj b _ hg
            rw [h1] at hb'; cases hb'
            obtain ⟨E, clk, e1, e2, e3⟩ := R.mp hgm q2
            obtain ⟨u1, u2, u3, u4⟩ := q4 _ hgm E clk e1
            subst u1; subst u2
            have hb0 : bi.base + 0 = 0 := by omega
            rw [hb0] at h2
            have hlf : (leftOf E seen).toList = E.toList.filter fun e => !seen.contains e.born := by simp [leftOf]
            rcases run_next_at (P := P) w ty bi.cb mb.cb last last seen E last q1 e1 (fun x hx => e3.1 x hx) (Nat.le_refl _) with ⟨s1, s2⟩ | ⟨en, s1, w1, s2, s3⟩
            · have hl0 : left = [] := by
                have := u3.length
                rw [← hlf, Array.length_toList, s1] at this
                exact List.eq_nil_of_length_eq_zero this.symm
              subst hl0
              refine ⟨0, .tp [.b false], H, by simp [nxRun, hb, hg, hgm], RK.refl _, .value (.tuple #[.bool false]), w, μ, ?_, .tp (.cons (.b false) .nil), Eu.refl _ _, R⟩
              simp only [execOp, h2, Sem.run_bind, s2, Result.andThen_ok, Sem.run_pure]
            · obtain ⟨k, hk1, hk2⟩ := List.getElem_of_mem s1
              have hk : (E.toList.filter fun e => !seen.contains e.born)[k]? = some en := by
                rw [← hlf, List.getElem?_eq_getElem hk1, hk2]
              have hlen := u3.length
              obtain ⟨uv, huv⟩ : ∃ uv, left[k]? = some uv := by
                have : k < left.length := by rw [← hlen, ← hlf]; exact hk1
                exact ⟨_, List.getElem?_eq_getElem this⟩
              obtain ⟨u, v⟩ := uv
              obtain ⟨en', t1, t2, t3⟩ := u3.get k huv
              rw [hk] at t1; cases t1
              have hne : ∃ y ys, left = y :: ys := by
                cases left with
                | nil => simp at huv
                | cons y ys => exact ⟨y, ys, rfl⟩
              have hpw : (E.toList.filter fun e => !seen.contains e.born).Pairwise (fun a b => a.born ≠ b.born) := e3.2.sublist List.filter_sublist
              have hfil : E.toList.filter (fun e => !(seen.push en.born).contains e.born) = (E.toList.filter fun e => !seen.contains e.born).eraseIdx k := by
                rw [← filter_ne hpw hk, List.filter_filter]
                congr 1
                funext x
                have hcon : (seen.push en.born).contains x.born = (seen.contains x.born || x.born == en.born) := by
                  rw [Bool.eq_iff_iff]; simp
                rw [hcon]
                cases seen.contains x.born <;> cases (x.born == en.born) <;> rfl
              have R1 : Rel Pr w0 μ H.get H.nx w1 ∧ w1.heap = w.heap := by
                rcases s2 with rfl | rfl
                · exact ⟨R, rfl⟩
                · exact ⟨R.heap rfl rfl rfl rfl, rfl⟩
              have q1' : w1.heap[bi.cb]? = some (.mapIter (some mb.cb) last seen last) := by rw [R1.2]; exact q1
              have U : Upd w1 (ChangeMaps.setBlock w1 bi.cb (.mapIter (some mb.cb) last (seen.push en.born) last)) bi.cb (.mapIter (some mb.cb) last (seen.push en.born) last) := by
                obtain ⟨hlt, _⟩ := Array.getElem?_eq_some_iff.1 q1'
                exact ⟨by simp [ChangeMaps.setBlock, hlt], fun b' hb' => by simp [ChangeMaps.setBlock, Array.getElem?_setIfInBounds, Ne.symm hb'], rfl, rfl, rfl⟩
              have hbm : b ≠ m := fun c => by subst c; rw [hg] at hgm; cases hgm
              have hget : ∀ o', (H.set b (AO.it (some m) n' (left.eraseIdx k) (some (u, v)))).get m = some o' → o' = .mp n' l := fun o' ho => by
                rw [Hp.get_set, if_neg (Ne.symm hbm), hgm] at ho; cases ho; rfl
              have hcbne : mb.cb ≠ bi.cb := by
                rcases R.sep m b _ _ mb bi (Ne.symm hbm) hgm hg q2 h1 rfl with x | ⟨x, _⟩
                · exact x
                · cases x
              refine ⟨k, .tp [.b true, u, v], H.set b (.it (some m) n' (left.eraseIdx k) (some (u, v))), ?_, RK.set hg rfl rfl (fun m n l c h => by cases h; exact ⟨_, _, _, rfl⟩), .value (.tuple #[.bool true, en.key, en.val]), ChangeMaps.setBlock w1 bi.cb (.mapIter (some mb.cb) last (seen.push en.born) last), μ, ?_, .tp (.cons (.b true) (.cons t2 (.cons t3 .nil))), Eu.refl _ _, ?_⟩
              · obtain ⟨y, ys, rfl⟩ := hne
                simp only [nxRun, hb, hg, hgm, if_true, huv]
              · simp only [execOp, h2, Sem.run_bind, s3, Result.andThen_ok, Sem.run_pure]
              · refine R1.1.updO hg rfl rfl h1 U (fun n l he => by cases he) (Hp.get_set _ _ _) ?_
                refine ⟨z0, mb, last, seen.push en.born, last, U.at_, q2, fun n2 l2 hl2 => ?_, fun l2 hl2 E2 clk2 hE2 => ?_⟩
                · cases hget _ hl2; exact Nat.le_refl _
                · cases hget _ hl2
                  rw [U.rest _ hcbne, R1.2, e1] at hE2
                  cases hE2
                  refine ⟨rfl, rfl, ?_, fun k' v' hkv => ?_⟩
                  · rw [hfil]; exact u3.erase k
                  · cases hkv
                    refine ⟨en.born, en, by simp, ?_, t2, t3⟩
                    have hmem : en ∈ E.toList := (List.mem_filter.1 (List.mem_of_getElem? hk)).1
                    exact find_born en E.toList (by
                      have := List.pairwise_map.2 e3.2
                      exact this) hmem
          · cases hr
        · cases hr
      · cases hr
    · cases hc
  | makeFunc fn x y => cases dst <;> cases fn <;> simp only [cOp] at hc <;> first | (cases hc; done) | (split at hc <;> cases hc)
  | binOp op t x y u =>
    cases dst <;> simp only [cOp] at hc
    · cases hc
    · split at hc
      · obtain ⟨po, hh⟩ := cBin_p P _ _ _ _ _ hc
        cases hh
      · cases hc
  | call c =>
    exfalso
    obtain ⟨callee, args, argTypes⟩ := c
    obtain ⟨args⟩ := args
    obtain ⟨argTypes⟩ := argTypes
    simp only [cOp] at hc
    repeat' (first | (cases hc; done) | (obtain ⟨_, _, hh⟩ := Option.map_eq_some_iff.1 hc; cases hh; done) | split at hc)
  | _ =>
    exfalso
    cases dst <;> simp only [cOp] at hc <;> (try cases hc) <;>
      repeat' (first | (cases hc; done) | (obtain ⟨_, _, hh⟩ := Option.map_eq_some_iff.1 hc; cases hh; done) | split at hc)
end
end Go.AM
/- The machine's side: states that are related, contracts, one operation. -/
set_option linter.unusedVariables false
set_option linter.unusedSimpArgs false
namespace Go.AM
open Go
/-- A function that a call enters. -/
def Ent (P : Program) (f : Nat) : Prop := ∃ fn c, P.funcs[f]? = some fn ∧ fn.body = some c ∧ (fn.name == "runtime.NumGoroutine") = false
structure St (Pr : Nat → Prop) (w0 : World) (μ : Mu) (N : Nat) (e : Env) (H : Hp) (a : Act) (w : World) : Prop where
  d : a.defers = []
  er : ER μ N e a.tmps
  rel : Rel Pr w0 μ H.get H.nx w
/-- A contract of a function: from arguments args and a heap H it comes back with a value and a heap of K. -/
def CT (P : Program) (f : Nat) (args : List AV) (H : Hp) (K : AV → Hp → Prop) : Prop :=
  Ent P f ∧ ∀ (Pr : Nat → Prop) (w0 : World) (μ : Mu) (w : World) (cargs : List Value), Rel Pr w0 μ H.get H.nx w → VRL μ args cargs →
    Calls P f cargs.toArray w fun en w' => ∃ cv v H' μ', en = .returned cv ∧ K v H' ∧ VR μ' v cv ∧ Eu H.nx μ μ' ∧ RK H H' ∧ Rel Pr w0 μ' H'.get H'.nx w'
theorem CT.mono {P : Program} {f : Nat} {args : List AV} {H : Hp} {K K' : AV → Hp → Prop} (h : CT P f args H K) (hk : ∀ v H', K v H' → K' v H') : CT P f args H K' :=
  ⟨h.1, fun Pr w0 μ w cargs R hv => (h.2 Pr w0 μ w cargs R hv).mono fun en w' ⟨cv, v, H', μ', q1, q2, q3⟩ => ⟨cv, v, H', μ', q1, hk _ _ q2, q3⟩⟩
section
variable {P : Program} {Pr : Nat → Prop} {w0 w w' : World} {μ μ' : Mu} {N : Nat} {e : Env} {a : Act} {H H' : Hp}
theorem VRL.mapE {l : List AV} {l' : List Value} (h : VRL μ l l') (hx : Ext μ μ') : VRL μ' l l' := h.mono hx
theorem ER.ext (h : ER μ N e a.tmps) (hx : Ext μ μ') : ER μ' N e a.tmps := ⟨h.1, fun t => (h.2 t).mono hx⟩
theorem ER.put (h : ER μ N e a.tmps) {d : Nat} (hd : d < N) {v : AV} {cv : Value} (hv : VR μ v cv) : ER μ N (e.st d v) (a.put (some d) cv).tmps := by
  refine ⟨by simp only [Act.put, Array.size_setIfInBounds]; exact h.1, fun t => ?_⟩
  rw [Env.g_st]
  simp only [Act.put]
  by_cases c : t = d
  · subst c
    rw [if_pos rfl]
    have : (a.tmps.setIfInBounds t cv).getD t undef = cv := by
      rw [Array.getD_eq_getD_getElem?, Array.getElem?_setIfInBounds, if_pos rfl, if_pos (by rw [h.1]; exact hd)]; rfl
    rw [this]; exact hv
  · rw [if_neg c]
    have : (a.tmps.setIfInBounds d cv).getD t undef = a.tmps.getD t undef := by
      rw [Array.getD_eq_getD_getElem?, Array.getElem?_setIfInBounds, if_neg (fun h => c h.symm), Array.getD_eq_getD_getElem?]
    rw [this]; exact h.2 t
theorem ER.putO (h : ER μ N e a.tmps) {d : Option Nat} (hd : ∀ x, d = some x → x < N) {v : AV} {cv : Value} (hv : VR μ v cv) : ER μ N (putO e d v) (a.put d cv).tmps := by
  cases d with
  | none => exact h
  | some d => exact h.put (hd d rfl) hv
theorem vr_undef : VR μ (.tp []) undef := .tp .nil
theorem put_defers (a : Act) (d : Option Tmp) (v : Value) : (a.put d v).defers = a.defers := by cases d <;> rfl
theorem call_ok {o : Oper} {d : Option Nat} {eo : EO} (hc : cOp P o = some (.e d eo)) (hE : ER μ N e a.tmps) {f : Nat} {args : List AV} (hcal : eo.callee e = some (f, args)) (hent : Ent P f) :
    o.dst = d ∧ ∃ cargs, VRL μ args cargs ∧ ∀ w, (execOp a.eval o).run P w = .ok (.enter f cargs.toArray) w := by
  obtain ⟨dst, op, ty, pos, after, guard⟩ := o
  obtain ⟨fn, c, hf, hbody, hn⟩ := hent
  have hn' : ¬ fn.name = "runtime.NumGoroutine" := by simpa using hn
  cases op with
  | call c =>
    obtain ⟨callee, cargs, argTypes⟩ := c
    obtain ⟨cargs⟩ := cargs
    obtain ⟨argTypes⟩ := argTypes
    simp only [cOp] at hc
    split at hc
    · split at hc
      · split at hc
        · split at hc
          · cases hc; cases hcal
          · cases hc
        · split at hc
          · cases hc; cases hcal
          · cases hc
        · split at hc
          · cases hc; cases hcal
          · cases hc
        · cases hc
      · cases hc
    · split at hc
      · cases hc
      · cases hc
      · cases hc
      · split at hc <;> cases hc
      · cases hc
      · cases hc
    · split at hc <;> cases hc
    · split at hc
      · obtain ⟨_, _, hh⟩ := Option.map_eq_some_iff.1 hc; cases hh; cases hcal
      · cases hc
    · split at hc
      · obtain ⟨_, _, hh⟩ := Option.map_eq_some_iff.1 hc; cases hh; cases hcal
      · cases hc
    · split at hc
      · split at hc
        · split at hc
          · cases hc; cases hcal
          · cases hc
        · cases hc
      · cases hc
    · split at hc <;> cases hc
    · split at hc <;> cases hc
    · rename_i f' l
      split at hc
      · rename_i fn' hf'
        split at hc
        · rename_i hcond
          obtain ⟨l', hl', hh⟩ := Option.map_eq_some_iff.1 hc
          cases hh
          simp only [EO.callee, Option.some.injEq, Prod.mk.injEq] at hcal
          obtain ⟨rfl, rfl⟩ := hcal
          refine ⟨rfl, _, cOs_ok hE hl', fun w => ?_⟩
          simp [execOp, resolve, Deferred.ofValue, Act.eval, invoke, callFunc, hf, hbody, hn']
        · cases hc
      · cases hc
    · rename_i x l _ _
      split at hc
      · rename_i x' l' hx' hl'
        cases hc
        simp only [EO.callee] at hcal
        split at hcal
        · rename_i g p q hb
          simp only [Option.some.injEq, Prod.mk.injEq] at hcal
          obtain ⟨rfl, rfl⟩ := hcal
          have hx := cO_ok hE hx'
          rw [hb] at hx
          obtain ⟨p', q', hcv, hp, hq⟩ := vr_fn hx
          refine ⟨rfl, _, (hp.append (cOs_ok hE hl')).append hq, fun w => ?_⟩
          simp [execOp, resolve, Deferred.ofValue, hcv, invoke, callFunc, hf, hbody, hn']
        · cases hcal
      · cases hc
    · cases hc
  | makeFunc fn x y => cases dst <;> cases fn <;> simp only [cOp] at hc <;> first | (cases hc; done) | (split at hc <;> cases hc)
  | next x s => cases dst <;> cases s <;> simp only [cOp] at hc <;> first | (cases hc; done) | (obtain ⟨_, _, hh⟩ := Option.map_eq_some_iff.1 hc; cases hh; cases hcal)
  | binOp op t x y u =>
    cases dst <;> simp only [cOp] at hc
    · cases hc
    · split at hc
      · obtain ⟨po, hh⟩ := cBin_p P _ _ _ _ _ hc
        cases hh
      · cases hc
  | _ =>
    exfalso
    cases dst <;> simp only [cOp] at hc <;> (try cases hc) <;>
      repeat' (first | (cases hc; done) | (cases hc; cases hcal; done) | (obtain ⟨_, _, hh⟩ := Option.map_eq_some_iff.1 hc; cases hh; done) | split at hc)
theorem cOp_dst {o : Oper} {op : AM.Op} (hc : cOp P o = some op) : op.dst = o.dst ∧ ∀ t b x, op ≠ .g t b x := by
  obtain ⟨dst, op', ty, pos, after, guard⟩ := o
  cases op' with
  | makeFunc fn x y => cases dst <;> cases fn <;> simp only [cOp] at hc <;> first | (cases hc; done) | (split at hc <;> cases hc; exact ⟨rfl, fun _ _ _ h => by cases h⟩)
  | next x s => cases dst <;> cases s <;> simp only [cOp] at hc <;> first | (cases hc; done) | (obtain ⟨_, _, hh⟩ := Option.map_eq_some_iff.1 hc; cases hh; exact ⟨rfl, fun _ _ _ h => by cases h⟩)
  | binOp op t x y u =>
    cases dst <;> simp only [cOp] at hc
    · cases hc
    · split at hc
      · obtain ⟨po, hh⟩ := cBin_p P _ _ _ _ _ hc
        cases hh; exact ⟨rfl, fun _ _ _ h => by cases h⟩
      · cases hc
  | call c =>
    obtain ⟨callee, cargs, argTypes⟩ := c
    obtain ⟨cargs⟩ := cargs
    obtain ⟨argTypes⟩ := argTypes
    simp only [cOp] at hc
    repeat' (first | (cases hc; done) | (cases hc; exact ⟨rfl, fun _ _ _ h => by cases h⟩) | (obtain ⟨_, _, hh⟩ := Option.map_eq_some_iff.1 hc; cases hh; exact ⟨rfl, fun _ _ _ h => by cases h⟩) | split at hc)
  | _ =>
    cases dst <;> simp only [cOp] at hc <;> (try (cases hc; done)) <;>
      repeat' (first | (cases hc; done) | (cases hc; exact ⟨rfl, fun _ _ _ h => by cases h⟩) | (obtain ⟨_, _, hh⟩ := Option.map_eq_some_iff.1 hc; cases hh; exact ⟨rfl, fun _ _ _ h => by cases h⟩) | split at hc)
/-- Behind an operation. -/
def Beh (Pr : Nat → Prop) (w0 : World) (μ : Mu) (N : Nat) (H : Hp) (K : Env → Hp → Prop) (a : Act) (w : World) : Prop :=
  ∃ e' H' μ', K e' H' ∧ St Pr w0 μ' N e' H' a w ∧ Eu H.nx μ μ' ∧ RK H H'
def CalOk (P : Program) (cal : Cal) : Prop := ∀ f args H (K : AV → Hp → R) r, cal f args H K = some r → CT P f args H fun v H' => K v H' = some r
theorem value_ok {o : Oper} {d : Option Nat} {v : AV} (hd : o.dst = d) (hN : ∀ x, d = some x → x < N) {K : Env → Hp → Prop} (hK : K (putO e d v) H') (hS : St Pr w0 μ N e H a w) (Q : Exit → Act → World → Prop)
    {nxt : Next} (hrun : (execOp a.eval o).run P w = .ok nxt w') (hv : NV μ' d v nxt) (hx : Eu H.nx μ μ') (hk : RK H H') (R : Rel Pr w0 μ' H'.get H'.nx w') : o.wp P a w (Beh Pr w0 μ N H K) Q := by
  unfold Oper.wp
  rw [hrun]
  cases nxt with
  | value cv =>
    rw [Oper.upon_value, hd]
    exact ⟨_, _, _, hK, ⟨by rw [put_defers]; exact hS.d, (hS.er.ext hx.1).putO hN hv, R⟩, hx, hk⟩
  | skip =>
    have hdn : d = none := hv
    subst hdn
    rw [Oper.upon_skip, hd]
    exact ⟨_, _, _, hK, ⟨by rw [put_defers]; exact hS.d, hS.er.ext hx.1, R⟩, hx, hk⟩
  | _ => exact hv.elim
theorem op1_ok {cal : Cal} (hcal : CalOk P cal) {o : Oper} {op : AM.Op} (hc : cOp P o = some op) (hN : ∀ x, o.dst = some x → x < N) {K : Env → Hp → R} {r : AV × Hp} (hr : op1 cal op e H K = some r)
    (hS : St Pr w0 μ N e H a w) (Q : Exit → Act → World → Prop) : o.wp P a w (Beh Pr w0 μ N H fun e' H' => K e' H' = some r) Q := by
  cases op with
  | p d po =>
    simp only [op1, opP] at hr
    split at hr
    · rename_i v hv
      obtain ⟨h1, cv, h2, h3⟩ := p_ok (P := P) hc hS.er hv
      exact value_ok (μ' := μ) (d := some d) h1 (by rw [← h1]; exact hN) hr hS Q (h3 w) h2 (Eu.refl _ _) (RK.refl _) hS.rel
    · cases hr
  | r d ro =>
    simp only [op1, opR] at hr
    split at hr
    · rename_i v hv
      obtain ⟨h1, cv, h2, h3⟩ := r_ok (P := P) hS.rel hc hS.er hv
      exact value_ok (μ' := μ) (d := some d) h1 (by rw [← h1]; exact hN) hr hS Q h3 h2 (Eu.refl _ _) (RK.refl _) hS.rel
    · cases hr
  | n d no =>
    simp only [op1, opN] at hr
    split at hr
    · rename_i ob f hv
      obtain ⟨h1, cv, w', bi, h2, _, h3⟩ := n_ok (P := P) hS.rel hc hS.er hv
      have hμ : μ H.nx = none := hS.rel.new _ (Nat.le_refl _)
      obtain ⟨h4, h5⟩ := h3 H.nx hμ
      have hni : ∀ m n l c, ob = .it (some m) n l c → H.get m ≠ none := by
        intro m n l c he
        cases no <;> simp only [NO.run] at hv <;> repeat' (first | (cases hv; done) | (cases hv; cases he; done) | split at hv)
      have hwr : ob.wr = true := by
        cases no <;> simp only [NO.run] at hv <;> repeat' (first | (cases hv; done) | (cases hv; rfl) | split at hv)
      exact value_ok (μ' := μ.put H.nx bi) (d := some d) h1 (by rw [← h1]; exact hN) hr hS Q h2 h4 (Eu.put hμ (Nat.le_refl _)) (RK.new (get_nx hS.rel) hwr hni) (h5 _ _ (Nat.le_succ _) (Nat.lt_succ_self _) (Hp.get_new _ _))
    · cases hr
  | e d eo =>
    simp only [op1, opE] at hr
    split at hr
    · rename_i f args hce
      have hct := hcal _ _ _ _ _ hr
      obtain ⟨h1, cargs, h2, h3⟩ := call_ok (P := P) hc hS.er hce hct.1
      unfold Oper.wp
      rw [h3, Oper.upon_enter]
      refine (hct.2 Pr w0 μ w cargs hS.rel h2).mono fun en w' ⟨cv, v, H', μ', q1, q2, q3, q4, q5, q6⟩ => ?_
      subst q1
      subst h1
      exact ⟨_, _, _, q2, ⟨by rw [put_defers]; exact hS.d, (hS.er.ext q4.1).putO hN q3, q6⟩, q4, q5⟩
    · split at hr
      · rename_i v H1 hv
        obtain ⟨h1, h2, nxt, w', μ', h3, h4, h5, h6⟩ := e_ok (P := P) hS.rel hc hS.er hv
        exact value_ok (μ' := μ') (d := d) h1 (by rw [← h1]; exact hN) hr hS Q h3 (h1 ▸ h4) h5 h2 h6
      · cases hr
  | g t b o => simp [op1] at hr
theorem op1_bad {cal : Cal} {o : Oper} {K : Env → Hp → R} {r : AV × Hp} : ¬ op1 cal (badOp o) e H K = some r := by
  unfold badOp
  cases o.dst <;> simp [op1, opP, opE, PO.run, EO.run, EO.callee]
/-- What an operation is on the abstract machine. -/
def IsOp (P : Program) (ops : Array Oper) (o : Oper) (op : AM.Op) : Prop := cOpG P ops o = some op ∨ op = badOp o
def WpG (P : Program) (ops : Array Oper) (o : Oper) (a : Act) (w : World) (K : Act → World → Prop) (Q : Exit → Act → World → Prop) : Prop :=
  if Region.wanted o (yielded ops a.tmps) then o.wp P a w K Q else K (a.put o.dst undef) w
theorem wanted_ok {ops : Array Oper} {j : Nat} {b : Bool} {t : Nat} (hS : ER μ N e a.tmps) (ht : (ops[j]?).bind (·.dst) = some t) (hN : t < N) : wanted e t b = (yielded ops a.tmps j == some b) := by
  unfold wanted yielded
  rw [ht]
  have hv := hS.2 t
  have hg : a.tmps[t]? = some (a.tmps.getD t undef) := by
    rw [Array.getD_eq_getD_getElem?, Array.getElem?_eq_getElem (by rw [hS.1]; exact hN)]; rfl
  rw [Option.bind_some, hg]
  generalize a.tmps.getD t undef = cv at hv ⊢
  generalize e.g t = v at hv ⊢
  cases hv <;> rfl
theorem badOp_nog {o : Oper} : ∀ t b x, badOp o ≠ .g t b x := by
  intro t b x; unfold badOp; split <;> simp
theorem op0_ok {cal : Cal} (hcal : CalOk P cal) {ops : Array Oper} {o : Oper} {op : AM.Op} (hc : IsOp P ops o op) (hN : ∀ x, o.dst = some x → x < N) (hNs : ∀ (j : Nat) (o' : Oper) (x : Nat), ops[j]? = some o' → o'.dst = some x → x < N)
    {K : Env → Hp → R} {r : AV × Hp} (hr : op0 cal op e H K = some r)
    (hS : St Pr w0 μ N e H a w) (Q : Exit → Act → World → Prop) : WpG P ops o a w (Beh Pr w0 μ N H fun e' H' => K e' H' = some r) Q := by
  rcases hc with hc | rfl
  · unfold cOpG at hc
    split at hc
    · rename_i hg
      have hng : ∀ t b x, op ≠ .g t b x := by
        exact (cOp_dst hc).2
      have hr' : op1 cal op e H K = some r := by
        cases op <;> first | exact hr | exact absurd rfl (hng _ _ _)
      unfold WpG Region.wanted
      rw [hg]
      simp only [if_true]
      exact op1_ok hcal hc hN hr' hS Q
    · rename_i j b op' hg hc'
      split at hc
      · rename_i t ht
        cases hc
        have htN : t < N := by
          obtain ⟨o', h1, h2⟩ := Option.bind_eq_some_iff.1 ht
          exact hNs j o' t h1 h2
        unfold WpG Region.wanted
        rw [hg]
        simp only [op0] at hr
        rw [wanted_ok (ops := ops) (j := j) hS.er ht htN] at hr
        split at hr
        · rename_i hw
          rw [if_pos hw]
          exact op1_ok hcal hc' hN hr hS Q
        · rename_i hw
          rw [if_neg hw]
          have hdst : op'.dst = o.dst := (cOp_dst hc').1
          rw [hdst] at hr
          exact ⟨_, _, μ, hr, ⟨by rw [put_defers]; exact hS.d, hS.er.putO hN vr_undef, hS.rel⟩, Eu.refl _ _, RK.refl _⟩
      · cases hc
    · cases hc
  · exfalso
    have : op0 cal (badOp o) e H K = op1 cal (badOp o) e H K := by
      generalize hb : badOp o = b
      cases b <;> first | rfl | exact absurd hb (badOp_nog _ _ _)
    rw [this] at hr
    exact op1_bad hr
end
end Go.AM
/- Code on the machine's side. -/
set_option linter.unusedVariables false
set_option linter.unusedSimpArgs false
namespace Go.AM
open Go
def exR : Ex → Exit → Prop
  | .n, .normal => True
  | .x i, .exit j => i = j
  | .r, .ret => True
  | _, _ => False
def PostK (Pr : Nat → Prop) (w0 : World) (μ : Mu) (N : Nat) (H : Hp) (K : Ex → Env → Hp → Prop) (ex : Exit) (a : Act) (w : World) : Prop :=
  ∃ x e' H' μ', exR x ex ∧ K x e' H' ∧ St Pr w0 μ' N e' H' a w ∧ Eu H.nx μ μ' ∧ RK H H'
/-- Code c, from every related state, ends as K says. -/
def S (P : Program) (N : Nat) (c : Code) (e : Env) (H : Hp) (K : Ex → Env → Hp → Prop) : Prop :=
  ∀ Pr w0 μ w a, St Pr w0 μ N e H a w → c.wp P (PostK Pr w0 μ N H K) a w
section
variable {P : Program} {Pr : Nat → Prop} {w0 w w' : World} {μ μ' : Mu} {N : Nat} {e : Env} {a : Act} {H H' : Hp} {K K' : Ex → Env → Hp → Prop}
theorem PostK.lift {ex : Exit} (h : PostK Pr w0 μ' N H' K ex a w) (hx : Eu H.nx μ μ') (hk : RK H H') : PostK Pr w0 μ N H K ex a w := by
  obtain ⟨x, e', H2, μ2, q1, q2, q3, q4, q5⟩ := h
  exact ⟨x, e', H2, μ2, q1, q2, q3, hx.trans q4 hk.le, hk.trans q5⟩
theorem S.mono {c : Code} (h : S P N c e H K) (hk : ∀ x e' H', K x e' H' → K' x e' H') : S P N c e H K' := fun Pr w0 μ w a hS =>
  wp_mono (h Pr w0 μ w a hS) fun ex a' w' ⟨x, e', H2, μ2, q1, q2, q3⟩ => ⟨x, e', H2, μ2, q1, hk _ _ _ q2, q3⟩
theorem S.skip (h : K .n e H) : S P N .skip e H K := fun Pr w0 μ w a hS => wp_skip ⟨.n, e, H, μ, trivial, h, hS, Eu.refl _ _, RK.refl _⟩
theorem S.ret (h : K .r e H) : S P N .ret e H K := fun Pr w0 μ w a hS => wp_ret ⟨.r, e, H, μ, trivial, h, hS, Eu.refl _ _, RK.refl _⟩
theorem S.exit {id : Nat} (h : K (.x id) e H) : S P N (.exit id) e H K := fun Pr w0 μ w a hS => wp_exit ⟨.x id, e, H, μ, rfl, h, hS, Eu.refl _ _, RK.refl _⟩
/-- What stands behind a piece that comes to its end. -/
def Ex.then (n : Env → Hp → Prop) (K : Ex → Env → Hp → Prop) : Ex → Env → Hp → Prop
  | .n, e, H => n e H
  | z, e, H => K z e H
theorem S.seq {x y : Code} (h : S P N x e H (Ex.then (fun e' H' => S P N y e' H' K) K)) : S P N (.seq x y) e H K := fun Pr w0 μ w a hS =>
  wp_seq (wp_mono (h Pr w0 μ w a hS) fun ex a' w' ⟨z, e', H2, μ2, q1, q2, q3, q4, q5⟩ => by
    cases ex <;> cases z <;> first | exact q1.elim | skip
    · exact wp_mono (q2 Pr w0 μ2 w' a' q3) fun ex2 a2 w2 hp => hp.lift q4 q5
    · exact ⟨_, e', H2, μ2, q1, q2, q3, q4, q5⟩
    · exact ⟨_, e', H2, μ2, q1, q2, q3, q4, q5⟩)
theorem S.cond {c : Operand} {c' : O} {x y : Code} {t : Bool} (hc : cO c = some c') (ht : ev e c' = .b t) (h : S P N (if t then x else y) e H K) : S P N (.cond c x y) e H K := fun Pr w0 μ w a hS => by
  have hv := cO_ok hS.er hc
  rw [ht] at hv
  exact wp_cond (vr_b hv) (h Pr w0 μ w a hS)
def Ex.blk (id : Nat) (K : Ex → Env → Hp → Prop) : Ex → Env → Hp → Prop
  | .x i, e, H => if i = id then K .n e H else K (.x i) e H
  | z, e, H => K z e H
theorem S.block {id : Nat} {c : Code} (h : S P N c e H (Ex.blk id K)) : S P N (.block id c) e H K := fun Pr w0 μ w a hS =>
  wp_block (wp_mono (h Pr w0 μ w a hS) fun ex a' w' ⟨z, e', H2, μ2, q1, q2, q3, q4, q5⟩ => by
    cases ex <;> cases z <;> first | exact q1.elim | skip
    · exact ⟨_, e', H2, μ2, q1, q2, q3, q4, q5⟩
    · rename_i j _ i
      have hid : i = j := q1
      subst hid
      simp only [Exit.inBlock]
      simp only [Ex.blk] at q2
      split
      · rename_i he; rw [if_pos he] at q2; exact ⟨.n, e', H2, μ2, trivial, q2, q3, q4, q5⟩
      · rename_i he; rw [if_neg he] at q2; exact ⟨.x i, e', H2, μ2, rfl, q2, q3, q4, q5⟩
    · exact ⟨_, e', H2, μ2, q1, q2, q3, q4, q5⟩)
/-- A loop, round by round; a number that falls. -/
theorem wp_loop_ix {Q : Exit → Act → World → Prop} {c : Code} (I : Nat → Act → World → Prop) {n0 : Nat} (h₀ : I n0 a w)
    (round : ∀ n a w, I n a w → c.wp P (Exit.then (fun a' w' => ∃ m, m < n ∧ I m a' w') Q) a w) : (Code.loop c).wp P Q a w := by
  intro b k cs
  have key : ∀ n a w, I n a w → ∃ e a' w', Q e a' w' ∧ Arrives P (lone (b.at a (.code c :: .inLoop c :: k)) cs w) b k cs e a' w' := by
    intro n
    induction n using Nat.strongRecOn with
    | _ n ih =>
      intro a w hI
      obtain ⟨e, a₁, w₁, hq, harr⟩ := round n a w hI b (.inLoop c :: k) cs
      cases e with
      | normal =>
        obtain ⟨m, hlt, hI₁⟩ := hq
        obtain ⟨e₂, a₂, w₂, hq₂, harr₂⟩ := ih m hlt a₁ w₁ hI₁
        exact ⟨e₂, a₂, w₂, hq₂, .of_steps (Steps.trans harr (.one step_inLoop)) harr₂⟩
      | _ => exact ⟨_, a₁, w₁, hq, .pass (x := .inLoop c) rfl (fun _ _ => .inl (by simp)) harr⟩
  obtain ⟨e, a', w', hq, harr⟩ := key _ a w h₀
  exact ⟨e, a', w', hq, .of_steps (.one step_loop) harr⟩
theorem S.loop {c : Code} (I : Nat → Env → Hp → Prop) {n0 : Nat} (h0 : I n0 e H) (hr : ∀ n e H, I n e H → S P N c e H (Ex.then (fun e' H' => ∃ m, m < n ∧ I m e' H') K)) : S P N (.loop c) e H K := fun Pr w0 μ w a hS =>
  wp_loop_ix (fun n a' w' => ∃ e' H' μ', I n e' H' ∧ St Pr w0 μ' N e' H' a' w' ∧ Eu H.nx μ μ' ∧ RK H H') (n0 := n0) ⟨e, H, μ, h0, hS, Eu.refl _ _, RK.refl _⟩ fun n a' w' ⟨e', H', μ', q1, q2, q3, q4⟩ =>
    wp_mono (hr n e' H' q1 Pr w0 μ' w' a' q2) fun ex a2 w2 ⟨z, e2, H2, μ2, p1, p2, p3, p4, p5⟩ => by
      cases ex <;> cases z <;> first | exact p1.elim | skip
      · obtain ⟨m, hm, hI⟩ := p2
        exact ⟨m, hm, e2, H2, μ2, hI, p3, q3.trans p4 q4.le, q4.trans p5⟩
      · exact ⟨_, e2, H2, μ2, p1, p2, p3, q3.trans p4 q4.le, q4.trans p5⟩
      · exact ⟨_, e2, H2, μ2, p1, p2, p3, q3.trans p4 q4.le, q4.trans p5⟩
/-- A row of operations in its order. -/
def IsOps (P : Program) (N : Nat) (ops : Array Oper) (l : List AM.Op) : Prop :=
  (∀ (j : Nat) (o' : Oper) (x : Nat), ops[j]? = some o' → o'.dst = some x → x < N) ∧ l.length = ops.size ∧ ∀ (j : Nat) (o : Oper) (op : AM.Op), ops[j]? = some o → l[j]? = some op → IsOp P ops o op
theorem opsL_ok {cal : Cal} (hcal : CalOk P cal) {ops : Array Oper} {l : List AM.Op} (hl : IsOps P N ops l) {K : Env → Hp → R} {r : AV × Hp} (Q : Exit → Act → World → Prop) (hQ : ∀ a' w', Beh Pr w0 μ N H (fun e' H' => K e' H' = some r) a' w' → Q .normal a' w') :
    ∀ (m k : Nat), k + m = ops.size → ∀ {e' : Env} {H' : Hp} {μ' : Mu} {a : Act} {w : World}, opsL cal (l.drop k) e' H' K = some r → St Pr w0 μ' N e' H' a w → Eu H.nx μ μ' → RK H H' → wpOps P ops Q (List.range' k m) a w
  | 0, k, hk, e', H', μ', a, w, hr, hS, hx, hrk => by
    have : l.drop k = [] := List.drop_eq_nil_of_le (by rw [hl.2.1]; omega)
    rw [this] at hr
    exact hQ _ _ ⟨e', H', μ', hr, hS, hx, hrk⟩
  | m + 1, k, hk, e', H', μ', a, w, hr, hS, hx, hrk => by
    have hko : k < ops.size := by omega
    have hkl : k < l.length := by rw [hl.2.1]; exact hko
    obtain ⟨o, ho⟩ : ∃ o, ops[k]? = some o := ⟨_, Array.getElem?_eq_getElem hko⟩
    obtain ⟨op, hop⟩ : ∃ op, l[k]? = some op := ⟨_, List.getElem?_eq_getElem hkl⟩
    have hdrop : l.drop k = op :: l.drop (k + 1) := by
      rw [List.drop_eq_getElem_cons hkl]
      congr 1
      rw [List.getElem?_eq_getElem hkl] at hop
      exact Option.some.inj hop
    rw [hdrop] at hr
    simp only [opsL] at hr
    have h0 := op0_ok hcal (hl.2.2 k o op ho hop) (fun x hx => hl.1 k o x ho hx) hl.1 hr hS Q
    have hcont : ∀ a' w', Beh Pr w0 μ' N H' (fun e1 H1 => opsL cal (l.drop (k + 1)) e1 H1 K = some r) a' w' → wpOps P ops Q (List.range' (k + 1) m) a' w' := by
      intro a' w' ⟨e2, H2, μ2, q1, q2, q3, q4⟩
      exact opsL_ok hcal hl Q hQ m (k + 1) (by omega) q1 q2 (hx.trans q3 hrk.le) (hrk.trans q4)
    rw [List.range'_succ, wpOps_cons]
    simp only [wpOp, ho]
    unfold WpG at h0
    split
    · rename_i hw; rw [if_pos hw] at h0; exact .inl (Oper.wp_mono hcont h0)
    · rename_i hw; rw [if_neg hw] at h0; exact hcont _ _ h0
theorem S.region {cal : Cal} (hcal : CalOk P cal) {id : Nat} {ops : Array Oper} {l : List AM.Op} (hl : IsOps P N ops l) {K : Ex → Env → Hp → R} {r : AV × Hp} (hr : opsL cal l e H (K .n) = some r) :
    S P N (.region id ops false) e H fun x e' H' => K x e' H' = some r := fun Pr w0 μ w a hS => by
  refine wp_region ?_
  rw [List.range_eq_range']
  exact opsL_ok hcal hl _ (fun a' w' ⟨e', H', μ', q1, q2, q3, q4⟩ => ⟨.n, e', H', μ', trivial, q1, q2, q3, q4⟩) ops.size 0 (by omega) (by simpa using hr) hS (Eu.refl _ _) (RK.refl _)
/-- What a function hands back. -/
def rvRun (tmps : Array Value) : ResultVar → Sem Value
  | .tmp t => pure (tmps.getD t undef)
  | .cell ad t => do loadVar t (← asAddr (tmps.getD ad undef))
theorem resOne {rv : ResultVar} {r : RV} (hc : cRV P rv = some r) {v : AV} (hr : r.get e H = some v) (hS : St Pr w0 μ N e H a w) :
    ∃ cv, VR μ v cv ∧ (rvRun a.tmps rv).run P w = .ok cv w := by
  cases rv with
  | tmp t =>
    simp only [cRV, Option.some.injEq] at hc
    subst hc
    simp only [RV.get, Option.some.injEq] at hr
    subst hr
    exact ⟨_, hS.er.2 t, rfl⟩
  | cell ad t =>
    simp only [cRV] at hc
    split at hc
    · rename_i b n hb hn
      cases hc
      have hx := hS.er.2 ad
      simp only [RV.get] at hr
      split at hr
      · rename_i hbt
        subst hbt
        simp only [RO.run, ev] at hr
        split at hr
        · rename_i b o hb2
          rw [hb2] at hx
          obtain ⟨bi, h1, h2⟩ := vr_p hx
          split at hr
          · rename_i l hl
            obtain ⟨vs, hvs, rfl⟩ := Option.map_eq_some_iff.1 hr
            obtain ⟨wr, hg⟩ := hp_cells hl
            obtain ⟨cvs, g1, g2, g3⟩ := hS.rel.cells hg h1 hvs
            refine ⟨_, .ag g1, ?_⟩
            simp [rvRun, h2, asAddr, loadVar, r_agg hb, r_size hn, run_loadN g2 g3]
          · cases hr
        · cases hr
      · rename_i hbt
        have hbf : b = false := by simpa using hbt
        subst hbf
        simp only [RO.run, ev] at hr
        split at hr
        · rename_i b o hb2
          rw [hb2] at hx
          obtain ⟨bi, h1, h2⟩ := vr_p hx
          split at hr
          · rename_i l hl
            obtain ⟨wr, hg⟩ := hp_cells hl
            obtain ⟨cv, g1, g2⟩ := hS.rel.cell hg h1 hr
            refine ⟨cv, g2, ?_⟩
            simp [rvRun, h2, asAddr, loadVar, r_agg hb, g1]
          · cases hr
        · cases hr
    · cases hc
theorem resList : ∀ {rvs : List ResultVar} {rs : List RV}, rvs.mapM (cRV P) = some rs → ∀ {l : List AV}, resL e H rs = some l → St Pr w0 μ N e H a w →
    ∃ cl, VRL μ l cl ∧ (rvs.mapM (rvRun a.tmps)).run P w = .ok cl w
  | [], rs, hc, l, hr, hS => by
    simp at hc; subst hc
    simp only [resL, Option.some.injEq] at hr; subst hr
    exact ⟨[], .nil, rfl⟩
  | rv :: rvs, rs, hc, l, hr, hS => by
    simp only [List.mapM_cons, Option.bind_eq_bind, Option.bind_eq_some_iff] at hc
    obtain ⟨r1, h1, rs', h2, h3⟩ := hc
    cases h3
    simp only [resL] at hr
    split at hr
    · rename_i v hv
      obtain ⟨l', hl', rfl⟩ := Option.map_eq_some_iff.1 hr
      obtain ⟨cv, q1, q2⟩ := resOne h1 hv hS
      obtain ⟨cl, q3, q4⟩ := resList h2 hl' hS
      refine ⟨cv :: cl, .cons q1 q3, ?_⟩
      simp only [List.mapM_cons, Sem.run_bind]
      rw [q2, Result.andThen_ok, q4]
      rfl
    · cases hr
theorem results_ok {fn : Func} {rs : List RV} (hc : fn.results.toList.mapM (cRV P) = some rs) {v : AV} (hr : results rs e H = some v) (hS : St Pr w0 μ N e H a w) :
    ∃ cv, VR μ v cv ∧ (Go.results fn a.tmps).run P w = .ok cv w := by
  unfold results at hr
  have key : ∀ l, resL e H rs = some l → ∃ cl, VRL μ l cl ∧ (Go.results fn a.tmps).run P w = .ok (if h : cl.toArray.size = 1 then cl.toArray[0] else .tuple cl.toArray) w := by
    intro l hl
    obtain ⟨cl, q1, q2⟩ := resList hc hl hS
    refine ⟨cl, q1, ?_⟩
    have hres : Go.results fn a.tmps = (do
      let vs ← fn.results.mapM (rvRun a.tmps)
      pure (if h : vs.size = 1 then vs[0] else .tuple vs)) := by
      unfold Go.results
      congr 1
    rw [hres, Array.mapM_eq_mapM_toList]
    simp only [Sem.run_bind, Sem.run_map, q2, Result.andThen_ok, Sem.run_pure]
  split at hr
  · rename_i v' hl
    cases hr
    obtain ⟨cl, q1, q2⟩ := key _ hl
    cases q1 with
    | cons h1 h2 =>
      cases h2
      exact ⟨_, h1, by simpa using q2⟩
  · rename_i l hne hl
    cases hr
    obtain ⟨cl, q1, q2⟩ := key _ hl
    refine ⟨.tuple cl.toArray, .tp q1, ?_⟩
    have hlen := q1.length
    rw [q2, dif_neg]
    intro h1
    simp at h1
    match l, hl, hlen with
    | [v], hl, _ => exact hne v rfl
    | [], _, hlen => rw [h1] at hlen; cases hlen
    | _ :: _ :: _, _, hlen => rw [h1] at hlen; simp at hlen
  · cases hr
theorem envOf_g : ∀ (l : List AV) (k t : Nat), (envOf k l).g t = if k ≤ t then (l[t - k]?).getD (.tp []) else .tp []
  | [], k, t => by
    have : (envOf k []).g t = .tp [] := rfl
    rw [this]; split <;> simp
  | v :: l, k, t => by
    simp only [envOf]
    rw [Env.g_st, envOf_g l (k + 1) t]
    by_cases c : t = k
    · subst c; simp
    · rw [if_neg c]
      by_cases c2 : k ≤ t
      · rw [if_pos c2, if_pos (by omega)]
        rw [show t - k = t - (k + 1) + 1 by omega]; simp
      · rw [if_neg c2, if_neg (by omega)]
theorem enter_er {args : List AV} {cargs : List Value} (h : VRL μ args cargs) {n : Nat} (hn : args.length ≤ n) : ER μ n (envOf 0 args) (cargs.toArray ++ Array.replicate (n - cargs.toArray.size) undef) := by
  have hlen := h.length
  refine ⟨by simp; omega, fun t => ?_⟩
  rw [envOf_g, if_pos (Nat.zero_le _), Nat.sub_zero]
  have key : (cargs.toArray ++ Array.replicate (n - cargs.toArray.size) undef).getD t undef = (cargs[t]?).getD undef := by
    rw [Array.getD_eq_getD_getElem?, Array.getElem?_append]
    by_cases c : t < cargs.length
    · simp [c]
    · simp [c]
      by_cases c2 : t - cargs.length < n - cargs.length
      · simp [c2]
      · simp [c2]
  rw [key]
  cases hv : args[t]? with
  | none =>
    have : cargs[t]? = none := List.getElem?_eq_none (by rw [hlen]; exact List.getElem?_eq_none_iff.1 hv)
    rw [this]; exact vr_undef
  | some v =>
    obtain ⟨cv, q1, q2⟩ := h.get t v hv
    rw [q1]; exact q2
/-- A function, from its body. -/
theorem CT.of_body {f : Nat} {fn : Func} {c : Code} {rs : List RV} (hf : P.funcs[f]? = some fn) (hb : fn.body = some c) (hn : (fn.name == "runtime.NumGoroutine") = false) (hrs : fn.results.toList.mapM (cRV P) = some rs) {args : List AV} (hlen : args.length ≤ fn.ntmps)
    {K : AV → Hp → Prop} (h : S P fn.ntmps c (envOf 0 args) H fun x e' H' => (x = .n ∨ x = .r) ∧ ∃ v, results rs e' H' = some v ∧ K v H') : CT P f args H K := by
  refine ⟨⟨fn, c, hf, hb, hn⟩, fun Pr w0 μ w cargs R hv => ?_⟩
  refine calls_of_wp hf hb (wp_mono (h Pr w0 μ w _ ⟨rfl, enter_er hv hlen, R⟩) fun ex a' w' ⟨x, e', H', μ', q1, ⟨q2, v, q3, q4⟩, q5, q6, q7⟩ => ?_)
  obtain ⟨cv, p1, p2⟩ := results_ok hrs q3 q5
  cases ex <;> cases x <;> first | exact q1.elim | skip
  · exact ⟨q5.d, cv, p2, cv, v, H', μ', rfl, q4, p1, q6, q7, q5.rel⟩
  · rcases q2 with q2 | q2 <;> cases q2
  · exact ⟨q5.d, cv, p2, cv, v, H', μ', rfl, q4, p1, q6, q7, q5.rel⟩
end
end Go.AM
