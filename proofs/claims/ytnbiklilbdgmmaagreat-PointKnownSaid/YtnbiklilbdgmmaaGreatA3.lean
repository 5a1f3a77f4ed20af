/- The operations that touch no memory: the theorem. -/
import Derived.Test.YtnbiklilbdgmmaaGreatA2
import Derived.Laws.Cells
set_option linter.constructorNameAsVariable false
set_option linter.unusedVariables false
set_option linter.unusedSimpArgs false
namespace Go.AM
open Go
section
variable {P : Program} {μ : Mu} {N : Nat} {e : Env} {a : Act}
theorem foldInt_ok (mx : Bool) (hE : ER μ N e a.tmps) : ∀ {l : List Operand} {r : List O} {k : IntKind} {x : Int} {v : AV}, cOs l = some r →
    foldInt (if mx then (fun x y => if y > x then y else x) else (fun x y => if y < x then y else x)) e k x r = some v →
    ∃ cv, VR μ v cv ∧ ∀ w, ((l.map a.eval).foldlM (if mx then Builtin.max2 else Builtin.min2) (.int k x) : Sem Value).run P w = .ok cv w
  | [], r, k, x, v, h, hf => by
    simp [cOs] at h; subst h
    simp only [foldInt, Option.some.injEq] at hf; subst hf
    exact ⟨_, .i _ _, fun w => rfl⟩
  | y :: l, r, k, x, v, h, hf => by
    simp only [cOs, List.mapM_cons, Option.bind_eq_bind, Option.bind_eq_some_iff] at h
    obtain ⟨o, ho, r', hr', he⟩ := h
    cases he
    have hy := cO_ok hE ho
    simp only [foldInt] at hf
    split at hf
    · rename_i k' b hb
      split at hf
      · rename_i hk; subst hk
        rw [hb] at hy
        have hy' := vr_i hy
        obtain ⟨cv, h1, h2⟩ := foldInt_ok mx hE hr' hf
        refine ⟨cv, h1, fun w => ?_⟩
        simp only [List.map_cons, List.foldlM_cons, hy', Sem.run_bind]
        cases mx
        · simp only [Bool.false_eq_true, if_false, Builtin.min2, Sem.run_pure, Result.andThen_ok]
          simpa using h2 w
        · simp only [if_true, Builtin.max2, Sem.run_pure, Result.andThen_ok]
          simpa using h2 w
      · cases hf
    · cases hf
theorem SlR.cut {b z o n c : Nat} {ad : Addr} {c' l h m m' : Nat} (hs : SlR μ b z o n c ad c') (h1 : l ≤ h) (h2 : h ≤ m) (h3 : m ≤ c) (h4 : m' = m ∨ (m = c ∧ m' = c')) :
    SlR μ b z (o + l * z) (h - l) (m - l) (if m' = l then ad else ad.add (l * z)) (m' - l) := by
  obtain ⟨bi, hb, g1, g2, g3, g4, g5, g6, g7⟩ := hs
  have e1 : l * z + (m - l) * z = m * z := by rw [← Nat.add_mul]; congr 1; omega
  have e2 : l * z + (m' - l) * z = m' * z := by rw [← Nat.add_mul]; congr 1; omega
  have e3 : m * z ≤ c * z := Nat.mul_le_mul_right _ h3
  have e4 : m' * z ≤ c' * z := Nat.mul_le_mul_right _ (by omega)
  refine ⟨bi, hb, by omega, g2, by omega, by omega, by omega, ?_, ?_⟩
  · intro hlt
    rcases h4 with h4 | ⟨h4, h5⟩
    · omega
    · subst h4; have := g6 (by omega); omega
  · intro hpos
    rw [if_neg (by omega), g7 (by omega), add_none, Nat.add_assoc]
end
end Go.AM
/- The operations that touch no memory: the theorem. -/
set_option linter.unusedVariables false
set_option linter.unusedSimpArgs false
namespace Go.AM
open Go
section
variable {P : Program} {μ : Mu} {N : Nat} {e : Env} {a : Act}
theorem exec_builtin (b : Builtin) (l : List Operand) (ts : List TypeId) (dst : Option Tmp) (ty : TypeId) (pos : String) (after : Array Edge) (guard : Option (Nat × Bool)) (w : World) :
    (execOp a.eval ⟨dst, .call ⟨.builtin b, ⟨l⟩, ⟨ts⟩⟩, ty, pos, after, guard⟩).run P w = (builtin b ⟨ts⟩ ty ((⟨l⟩ : Array Operand).map fun | .const _ => true | _ => false) ⟨l.map a.eval⟩).run P w := by
  simp only [execOp, resolve, Sem.run_bind, Sem.run_pure, Result.andThen_ok, invoke]
  simp only [List.map_toArray]
  rfl
theorem minmax_ok (mx : Bool) (hE : ER μ N e a.tmps) {l : List Operand} {r : List O} {v : AV} {dst : Option Tmp} {ty : TypeId} {pos : String} {after : Array Edge} {guard : Option (Nat × Bool)} {ts : List TypeId}
    (hl : cOs l = some r) (hr : (if mx then rMx e r else rMn e r) = some v) : PS P μ a ⟨dst, .call ⟨.builtin (if mx then .max else .min), ⟨l⟩, ⟨ts⟩⟩, ty, pos, after, guard⟩ v := by
  cases l with
  | nil =>
    simp [cOs] at hl; subst hl
    cases mx <;> simp [rMx, rMn] at hr
  | cons x l =>
    simp only [cOs, List.mapM_cons, Option.bind_eq_bind, Option.bind_eq_some_iff] at hl
    obtain ⟨o, ho, r', hr', he⟩ := hl
    cases he
    have hx := cO_ok hE ho
    cases mx
    · simp only [Bool.false_eq_true, if_false, rMn] at hr
      split at hr
      · rename_i k n hb
        rw [hb] at hx
        obtain ⟨cv, h1, h2⟩ := foldInt_ok (P := P) false hE hr' hr
        refine ⟨cv, h1, fun w => ?_⟩
        simp only [Bool.false_eq_true, if_false]
        rw [exec_builtin]
        simp only [builtin, Builtin.min_, List.map_cons, vr_i hx, Sem.run_bind]
        have := h2 w
        simp only [Bool.false_eq_true, if_false] at this
        rw [this]; rfl
      · cases hr
    · simp only [if_true, rMx] at hr
      split at hr
      · rename_i k n hb
        rw [hb] at hx
        obtain ⟨cv, h1, h2⟩ := foldInt_ok (P := P) true hE hr' hr
        refine ⟨cv, h1, fun w => ?_⟩
        simp only [if_true]
        rw [exec_builtin]
        simp only [builtin, Builtin.max_, List.map_cons, vr_i hx, Sem.run_bind]
        have := h2 w
        simp only [if_true] at this
        rw [this]; rfl
      · cases hr
theorem p_ok {o : Oper} {d : Nat} {po : PO} (hc : cOp P o = some (.p d po)) (hE : ER μ N e a.tmps) {v : AV} (hr : po.run e = some v) : o.dst = some d ∧ PS P μ a o v := by
  obtain ⟨dst, op, ty, pos, after, guard⟩ := o
  cases op with
  | move x =>
    cases dst <;> simp only [cOp] at hc
    · cases hc
    · obtain ⟨o, ho, hh⟩ := Option.map_eq_some_iff.1 hc
      cases hh
      simp only [PO.run, Option.some.injEq] at hr; subst hr
      exact ⟨rfl, _, cO_ok hE ho, fun w => rfl⟩
  | assign x =>
    cases dst <;> simp only [cOp] at hc
    · cases hc
    · obtain ⟨o, ho, hh⟩ := Option.map_eq_some_iff.1 hc
      cases hh
      simp only [PO.run, Option.some.injEq] at hr; subst hr
      exact ⟨rfl, _, cO_ok hE ho, fun w => rfl⟩
  | pick c x y =>
    cases dst <;> simp only [cOp] at hc
    · cases hc
    · split at hc
      · rename_i c' x' y' h1 h2 h3
        cases hc
        simp only [PO.run, rPk] at hr
        split at hr
        · rename_i t ht
          cases hr
          have hb := cO_ok hE h1
          rw [ht] at hb
          refine ⟨rfl, if t then a.eval x else a.eval y, ?_, fun w => ?_⟩
          · cases t
            · exact cO_ok hE h3
            · exact cO_ok hE h2
          · simp [execOp, vr_b hb, asBool]
        · cases hr
      · cases hc
  | nilCheck x =>
    cases dst <;> simp only [cOp] at hc
    · cases hc
    · obtain ⟨o, ho, hh⟩ := Option.map_eq_some_iff.1 hc
      cases hh
      have hx := cO_ok hE ho
      simp only [PO.run, rNc] at hr
      split at hr
      · rename_i b o' hb
        cases hr
        rw [hb] at hx
        obtain ⟨bi, h1, h2⟩ := vr_p hx
        exact ⟨rfl, _, hx, fun w => by simp [execOp, h2]⟩
      · rename_i f x' y' hb
        cases hr
        rw [hb] at hx
        obtain ⟨x'', y'', h1, _, _⟩ := vr_fn hx
        exact ⟨rfl, _, hx, fun w => by simp [execOp, h1]⟩
      · cases hr
  | build t parts =>
    cases dst <;> simp only [cOp] at hc
    · cases hc
    · split at hc
      · rename_i z fields hz hu
        split at hc
        case isFalse => cases hc
        rename_i hall
        obtain ⟨l, hl, hh⟩ := Option.map_eq_some_iff.1 hc
        cases hh
        simp only [PO.run] at hr
        obtain ⟨out, hout, rfl⟩ := Option.map_eq_some_iff.1 hr
        obtain ⟨cz, hcz, hzr⟩ := r_zero μ hz
        obtain ⟨out', ho1, ho2⟩ := lay_ok hE hl hcz.cells hout
        refine ⟨rfl, _, .ag ho1, fun w => ?_⟩
        have hm : ∀ (l : List Field) (w : World), (∀ f ∈ l, (szOf P f.type).isSome = true) →
            (l.mapM (fun f => do pure (f.offset, ← sizeOf f.type) : Field → Sem (Nat × Nat))).run P w = .ok (l.map fun (f : Field) => (f.offset, (szOf P f.type).getD 0)) w := by
          intro l
          induction l with
          | nil => intro w _; rfl
          | cons f l ih =>
            intro w hall
            obtain ⟨n, hn⟩ := Option.isSome_iff_exists.1 (hall f (by simp))
            simp only [List.mapM_cons, Sem.run_bind, r_size hn, Result.andThen_ok, Sem.run_pure, ih w (fun f hf => hall f (by simp [hf])), List.map_cons, hn, Option.getD_some]
        have hm2 : (fields.mapM (fun f => do pure (f.offset, ← sizeOf f.type) : Field → Sem (Nat × Nat))).run P w = .ok (fields.map fun (f : Field) => (f.offset, (szOf P f.type).getD 0)) w := by
          rw [Array.mapM_eq_mapM_toList, Sem.run_map, hm fields.toList w (by rw [List.all_eq_true] at hall; exact hall), Result.andThen_ok]
          congr 1
          apply Array.ext'
          simp
        simp only [execOp, Instr.build, Sem.run_bind, hzr, r_und hu, Result.andThen_ok, hm2]
        have hpl : (fun (i : Nat) => (fields.map fun (f : Field) => (f.offset, (szOf P f.type).getD 0))[i]?) = fun (i : Nat) => (fields.toList[i]?).map fun (f : Field) => (f.offset, (szOf P f.type).getD 0) := by
          funext i; simp
        have harr : (parts.map fun (i, x) => (i, a.eval x)).toList = parts.toList.map fun (i, x) => (i, a.eval x) := by simp
        rw [harr]
        have ho3 : Instr.fill (fun (i : Nat) => (fields.map fun (f : Field) => (f.offset, (szOf P f.type).getD 0))[i]?) cz.cells (parts.toList.map fun (i, x) => (i, a.eval x)) = some out'.toArray := by
          rw [hpl]; exact ho2
        simp only [ho3]
        simp
      · rename_i z _ elem hz hu
        split at hc
        · rename_i s hs
          obtain ⟨l, hl, hh⟩ := Option.map_eq_some_iff.1 hc
          cases hh
          simp only [PO.run] at hr
          obtain ⟨out, hout, rfl⟩ := Option.map_eq_some_iff.1 hr
          obtain ⟨cz, hcz, hzr⟩ := r_zero μ hz
          obtain ⟨out', ho1, ho2⟩ := lay_ok hE hl hcz.cells hout
          refine ⟨rfl, _, .ag ho1, fun w => ?_⟩
          simp only [execOp, Instr.build, Sem.run_bind, hzr, r_und hu, Result.andThen_ok, r_size hs]
          have harr : (parts.map fun (i, x) => (i, a.eval x)).toList = parts.toList.map fun (i, x) => (i, a.eval x) := by simp
          rw [harr]
          have ho3 : Instr.fill (fun i => some (i * s, s)) cz.cells (parts.toList.map fun (i, x) => (i, a.eval x)) = some out'.toArray := ho2
          simp only [ho3]
          simp
        · cases hc
      · cases hc
  | binOp op t x y u =>
    cases dst <;> simp only [cOp] at hc
    · cases hc
    · rename_i dd
      split at hc
      · rename_i x' y' h1 h2
        have hx := cO_ok hE h1
        have hy := cO_ok hE h2
        have bo : ∀ op', (.p dd (.bo op' x' y') : AM.Op) = .p d po → op' = op → some dd = some d ∧ PS P μ a ⟨some dd, .binOp op t x y u, ty, pos, after, guard⟩ v := by
          intro op' hh ho
          cases hh; subst ho
          simp only [PO.run] at hr
          obtain ⟨cv, g1, g2⟩ := bin_ok (P := P) hx hy hr
          exact ⟨rfl, cv, g1, fun w => by
            have := g2 t x y w
            simp only [execOp, Sem.run_bind] at this ⊢
            rw [this]; rfl⟩
        have eqc : ∀ (neg : Bool), (op = .eql ∧ neg = false ∨ op = .neq ∧ neg = true) → (match P.underlying t with
            | some (.int _) | some .string => some (.p dd (.bo op x' y'))
            | _ => match eqT P 6 t with
              | some (.ag l) => if P.eqGuardType P.depth t then none else some (.p dd (.eq neg (.ag l) x' y'))
              | some e => some (.p dd (.eq neg e x' y'))
              | none => none : Option AM.Op) = some (.p d po) → some dd = some d ∧ PS P μ a ⟨some dd, .binOp op t x y u, ty, pos, after, guard⟩ v := by
          intro neg hneg hc
          have eqv' : ∀ et, eqT P 6 t = some et → (et.isAg = true → P.eqGuardType P.depth t = false) → (.p dd (.eq neg et x' y') : AM.Op) = .p d po → some dd = some d ∧ PS P μ a ⟨some dd, .binOp op t x y u, ty, pos, after, guard⟩ v := by
            intro et het hag hh
            cases hh
            simp only [PO.run, rEq] at hr
            split at hr
            · rename_i r hev
              cases hr
              have hq := eq_ok (P := P) (μ := μ) 6 t et het _ _ _ _ _ hx hy hev 10000 (by omega)
              refine ⟨rfl, _, .b _, fun w => ?_⟩
              generalize hcx : a.eval x = cx at *
              generalize hcy : a.eval y = cy at *
              generalize ev e x' = ax at *
              generalize ev e y' = ay at *
              unfold eqv at hev
              rcases hneg with ⟨rfl, rfl⟩ | ⟨rfl, rfl⟩ <;> split at hev <;> first | (cases hev; done) | skip
              all_goals first | (split at hev <;> first | (cases hev; done) | skip) | skip
              all_goals
                cases hx; cases hy
                have hq' := hq w
                first
                | (simp [execOp, hcx, hcy, eqGuard_at_int, eqGuard_at_string, eqGuard_at_bool, eqGuard_at_pointer, eqGuard_at_slice, eqGuard_at_map, eqGuard_at_func, eqGuard_at_nilFunc, binOp, Op.equal, Op.maxDepth, Op.intCmp, Op.stringOp, hq', ByteArray.toList_eq]; done)
                | (simp [execOp, hcx, hcy, run_eqGuard_agg w _ t x y _ _ (hag rfl), binOp, Op.equal, Op.maxDepth, hq']; done)
                | (cases hev; simp_all [execOp, hcx, hcy, eqGuard_at_int, eqGuard_at_string, binOp, Op.intCmp, Op.stringOp, ByteArray.toList_eq] <;> rfl)
            · cases hr
          split at hc
          · rename_i hu
            exact bo op (Option.some.inj hc) rfl
          · exact bo op (Option.some.inj hc) rfl
          · split at hc
            · rename_i l hl
              split at hc
              · cases hc
              · rename_i hg
                exact eqv' _ hl (fun _ => by simpa using hg) (Option.some.inj hc)
            · exact eqv' _ (by assumption) (fun h => by rename_i et _ hna _ ; cases et <;> simp_all [ET.isAg]) (Option.some.inj hc)
            · cases hc
        cases op
        case eql => exact eqc false (.inl ⟨rfl, rfl⟩) hc
        case neq => exact eqc true (.inr ⟨rfl, rfl⟩) hc
        all_goals exact bo _ (Option.some.inj hc) rfl
      · cases hc
  | unOp op t x =>
    cases dst <;> simp only [cOp] at hc
    · cases hc
    · obtain ⟨o, ho, hh⟩ := Option.map_eq_some_iff.1 hc
      cases hh
      have hx := cO_ok hE ho
      simp only [PO.run, rUn] at hr
      split at hr
      · split at hr
        · rename_i t hb
          cases hr; rw [hb] at hx
          exact ⟨rfl, _, .b _, fun w => by simp [execOp, vr_b hx, Op.unary]⟩
        · cases hr
      · split at hr
        · rename_i k n hb
          cases hr; rw [hb] at hx
          exact ⟨rfl, _, .i _ _, fun w => by simp [execOp, vr_i hx, Op.unary, Op.intArith, wr_eq]⟩
        · cases hr
      · cases hr
  | convert s t x =>
    cases dst <;> simp only [cOp] at hc
    · cases hc
    · split at hc
      · rename_i k1 k x' h1 h2 h3
        cases hc
        have hx := cO_ok hE h3
        simp only [PO.run, rCi] at hr
        split at hr
        · rename_i k2 n hb
          cases hr; rw [hb] at hx
          exact ⟨rfl, _, .i _ _, fun w => by simp [execOp, vr_i hx, convert, r_und h1, r_und h2, Conv.intToInt, wr_eq]⟩
        · cases hr
      · rename_i x' h1 h2 h3
        cases hc
        have hx := cO_ok hE h3
        simp only [PO.run] at hr
        rw [show ev e (.c (.s [])) = .s [] from rfl] at hr
        generalize ev e x' = ax at *
        generalize hcx : a.eval x = cx at *
        cases hx <;> simp only [bin] at hr <;> first | (cases hr; done) | skip
        split at hr
        · cases hr
          rename_i y _
          refine ⟨rfl, .string y, by have := VR.s (μ := μ) y; simpa using this, fun w => by simp [execOp, hcx, convert, r_und h1, r_und h2]⟩
        · cases hr
      · split at hc <;> cases hc
      · split at hc <;> cases hc
      · split at hc
        · split at hc <;> cases hc
        · cases hc
      · cases hc
  | makeFunc fn x y =>
    cases dst <;> cases fn <;> simp only [cOp] at hc <;> first | (cases hc; done) | skip
    split at hc
    · rename_i x' y' h1 h2
      cases hc
      simp only [PO.run, Option.some.injEq] at hr; subst hr
      refine ⟨rfl, _, .fn _ (cOs_ok hE h1) (cOs_ok hE h2), fun w => ?_⟩
      simp only [execOp, Instr.makeFunc, Sem.run_bind, Sem.run_pure, Result.andThen_ok]
      have e1 : ∀ z : Array Operand, (z.toList.map a.eval).toArray = z.map a.eval := fun z => by apply Array.ext'; simp
      rw [e1, e1]
    · cases hc
  | slice t x lo hi mx =>
    cases dst <;> simp only [cOp] at hc
    · cases hc
    · split at hc
      · rename_i el x' lo' hi' mx' hu hx' h1 h2 h3
        obtain ⟨z, hz, hh⟩ := Option.map_eq_some_iff.1 hc
        cases hh
        have hx := cO_ok hE hx'
        simp only [PO.run, rSl] at hr
        split at hr
        · rename_i hb
          rw [hb] at hx
          split at hr
          · rename_i q hq
            cases hr
            obtain ⟨l, h, m⟩ := q
            obtain ⟨m', g1, g2, g3, g4, g5⟩ := bnds_ok (P := P) hE h1 h2 h3 hq (Nat.le_refl 0) (Nat.le_refl 0) true
            obtain rfl : m = 0 := by omega
            obtain rfl : h = 0 := by omega
            obtain rfl : l = 0 := by omega
            obtain rfl : m' = 0 := by omega
            refine ⟨rfl, _, .ns, fun w => ?_⟩
            simp only [execOp, Instr.sliceAt, Sem.run_bind, r_und hu, Result.andThen_ok, Instr.slice, vr_ns hx, g1, r_size hz]
            simp
          · cases hr
        · rename_i b z' o n c hb
          rw [hb] at hx
          split at hr
          · rename_i hzz
            subst hzz
            split at hr
            · rename_i l h m hq
              cases hr
              obtain ⟨ad, c', hcv, hs⟩ := vr_sl hx
              have hs' := hs
              obtain ⟨bi, k1, k2, k3, k4, k5, _⟩ := hs'
              obtain ⟨m', g1, g2, g3, g4, g5⟩ := bnds_ok (P := P) hE h1 h2 h3 hq k2 k5 true
              refine ⟨rfl, _, .sl (hs.cut g2 g3 g4 g5), fun w => ?_⟩
              simp only [execOp, Instr.sliceAt, Sem.run_bind, r_und hu, Result.andThen_ok, Instr.slice, hcv, g1, r_size hz, Sem.run_pure]
              by_cases hm : m' = l <;> simp [hm]
            · cases hr
          · cases hr
        · cases hr
      · rename_i x' lo' hi' hu hx' h1 h2 h3
        cases hc
        have hx := cO_ok hE hx'
        simp only [PO.run, rSs] at hr
        split at hr
        · rename_i l' hb
          rw [hb] at hx
          obtain ⟨y, hy, hyl⟩ := vr_s hx
          split at hr
          · rename_i lo2 h m hq
            cases hr
            have hlen : l'.length = y.size := by rw [← hyl]; simp
            rw [hlen] at hq
            obtain ⟨m', g1, _⟩ := bnds_ok (P := P) hE h1 h2 h3 hq (Nat.le_refl _) (Nat.le_refl _) false
            obtain rfl : mx = none := by
              cases mx with
              | none => rfl
              | some q => simp [cOo] at h3
            refine ⟨rfl, .string (y.extract lo2 h), ?_, fun w => ?_⟩
            · have := VR.s (μ := μ) (y.extract lo2 h)
              rw [extract_list, hyl] at this
              exact this
            · simp only [execOp, Instr.sliceAt, Sem.run_bind, r_und hu, Result.andThen_ok, Instr.slice, hy]
              have := g1 w
              simp only [Option.map_none] at this
              simp [this]
          · cases hr
        · cases hr
      · cases hc
  | fieldAddr st x f =>
    cases dst <;> simp only [cOp] at hc
    · cases hc
    · split at hc
      · rename_i fields x' hu hx'
        split at hc
        · rename_i fd hfd
          split at hc
          · cases hc
          · rename_i n hn0 hn
            cases hc
            have hx := cO_ok hE hx'
            simp only [PO.run, rFa] at hr
            split at hr
            · rename_i b o hb
              cases hr; rw [hb] at hx
              obtain ⟨bi, h1, h2⟩ := vr_p hx
              refine ⟨rfl, _, .p h1 (o + fd.offset), fun w => ?_⟩
              have hfd' : fields[f]? = some fd := by simpa using hfd
              have hn1 : ¬ n = 0 := fun c => by subst c; exact hn0 rfl
              simp [execOp, Instr.fieldAt, r_und hu, hfd', h2, Instr.sureAddr, fieldPlace, r_size hn, hn1, add_none, Nat.add_assoc]
            · cases hr
          · cases hc
        · cases hc
      · cases hc
  | field st x f =>
    cases dst <;> simp only [cOp] at hc
    · cases hc
    · split at hc
      · rename_i fields x' hu hx'
        split at hc
        · rename_i fd hfd
          split at hc
          · rename_i ag n hag hn
            cases hc
            have hx := cO_ok hE hx'
            simp only [PO.run, rFd] at hr
            split at hr
            · rename_i l hb
              rw [hb] at hx
              obtain ⟨l', h1, h2⟩ := vr_ag hx
              obtain ⟨cv, g1, g2⟩ := part_ok h2 hag hn hr
              have hfd' : fields[f]? = some fd := by simpa using hfd
              exact ⟨rfl, cv, g1, fun w => by simp [execOp, Instr.field, r_und hu, hfd', h1, asAgg, g2]⟩
            · cases hr
          · cases hc
        · cases hc
      · cases hc
  | indexAddr t x i =>
    cases dst <;> simp only [cOp] at hc
    · cases hc
    · split at hc
      · rename_i len el x' i' hu hx' hi'
        obtain ⟨z, hz, hh⟩ := Option.map_eq_some_iff.1 hc
        cases hh
        have hx := cO_ok hE hx'
        have hi := cO_ok hE hi'
        simp only [PO.run, rIA] at hr
        split at hr
        · rename_i b o k kk hb hk
          rw [hb] at hx; rw [hk] at hi
          split at hr
          · rename_i hcond
            cases hr
            obtain ⟨bi, h1, h2⟩ := vr_p hx
            refine ⟨rfl, _, .p h1 _, fun w => ?_⟩
            simp [execOp, Instr.indexAt, asIntOf, vr_i hi, r_und hu, h2, Instr.sureAddr, hcond, r_size hz, add_none, Nat.add_assoc]
          · cases hr
        · cases hr
      · rename_i el x' i' hu hx' hi'
        obtain ⟨z, hz, hh⟩ := Option.map_eq_some_iff.1 hc
        cases hh
        have hx := cO_ok hE hx'
        have hi := cO_ok hE hi'
        simp only [PO.run, rIa] at hr
        split at hr
        · rename_i b z' o n c k kk hb hk
          rw [hb] at hx; rw [hk] at hi
          split at hr
          · rename_i hcond
            cases hr
            obtain ⟨ad, c', hcv, hs⟩ := vr_sl hx
            obtain ⟨bi, h1, g1, g2, g3, g4, g5, g6, g7⟩ := hs
            refine ⟨rfl, _, .p h1 _, fun w => ?_⟩
            have h3 := g7 (by omega)
            simp [execOp, Instr.indexAt, asIntOf, vr_i hi, r_und hu, hcv, hcond.1, hcond.2.1, r_size hz, h3, add_none, Nat.add_assoc]
          · cases hr
        · cases hr
      · cases hc
  | index t x i =>
    cases dst <;> simp only [cOp] at hc
    · cases hc
    · split at hc
      · rename_i len el x' i' hu hx' hi'
        split at hc
        · rename_i ag z hag hz
          cases hc
          have hx := cO_ok hE hx'
          have hi := cO_ok hE hi'
          simp only [PO.run, rIg] at hr
          split at hr
          · rename_i l k kk hb hk
            rw [hb] at hx; rw [hk] at hi
            split at hr
            · rename_i hcond
              obtain ⟨l', h1, h2⟩ := vr_ag hx
              obtain ⟨cv, g1, g2⟩ := part_ok h2 hag hz hr
              refine ⟨rfl, cv, g1, fun w => ?_⟩
              simp [execOp, Instr.index, asIntOf, vr_i hi, r_und hu, h1, hcond, r_size hz, g2]
            · cases hr
          · cases hr
        · cases hc
      · rename_i x' i' hu hx' hi'
        cases hc
        have hx := cO_ok hE hx'
        have hi := cO_ok hE hi'
        simp only [PO.run, rIx] at hr
        split at hr
        · rename_i l k kk hb hk
          rw [hb] at hx; rw [hk] at hi
          split at hr
          · rename_i hcond
            obtain ⟨c, hcc, rfl⟩ := Option.map_eq_some_iff.1 hr
            obtain ⟨y, hy, hyl⟩ := vr_s hx
            refine ⟨rfl, _, .i _ _, fun w => ?_⟩
            have hget : y[kk.toNat]? = some c := by
              rw [← hyl] at hcc
              rw [Array.getElem?_toList] at hcc
              obtain ⟨h1, h2⟩ := Array.getElem?_eq_some_iff.1 hcc
              have h1' : kk.toNat < y.size := h1
              simp only [getElem?_def, h1', dif_pos, Option.some.injEq]
              exact h2
            simp [execOp, Instr.index, asIntOf, vr_i hi, r_und hu, hy, hcond, hget]
          · cases hr
        · cases hr
      · cases hc
  | extract x i =>
    cases dst <;> simp only [cOp] at hc
    · cases hc
    · obtain ⟨o, ho, hh⟩ := Option.map_eq_some_iff.1 hc
      cases hh
      have hx := cO_ok hE ho
      simp only [PO.run, rEx] at hr
      split at hr
      · rename_i l hb
        rw [hb] at hx
        obtain ⟨l', h1, h2⟩ := vr_tp hx
        obtain ⟨cv, g1, g2⟩ := h2.get _ _ hr
        exact ⟨rfl, cv, g2, fun w => by simp [execOp, Instr.extract, h1, g1]⟩
      · cases hr
  | call c =>
    obtain ⟨callee, args, argTypes⟩ := c
    obtain ⟨args⟩ := args
    obtain ⟨argTypes⟩ := argTypes
    simp only [cOp] at hc
    split at hc
    · -- append
      split at hc
      · split at hc
        · split at hc <;> cases hc
        · split at hc <;> cases hc
        · split at hc <;> cases hc
        · cases hc
      · cases hc
    · -- len
      rename_i x t
      split at hc
      · rename_i x' dd hu hx'
        cases hc
        have hx := cO_ok hE hx'
        simp only [PO.run, rLs] at hr
        split at hr
        · rename_i l hb
          cases hr; rw [hb] at hx
          obtain ⟨y, hy, hyl⟩ := vr_s hx
          refine ⟨rfl, _, .i _ _, fun w => ?_⟩
          rw [exec_builtin]
          have : y.size = l.length := by rw [← hyl]; simp
          simp [builtin, Builtin.len_, r_und hu, goInt, hy, this]
        · cases hr
      · rename_i x' dd el hu hx'
        cases hc
        have hx := cO_ok hE hx'
        simp only [PO.run, rLn] at hr
        split at hr
        · rename_i hb
          cases hr; rw [hb] at hx
          refine ⟨rfl, _, .i _ _, fun w => ?_⟩
          rw [exec_builtin]
          simp [builtin, Builtin.len_, r_und hu, goInt, vr_ns hx]
        · rename_i b z o n c hb
          cases hr; rw [hb] at hx
          obtain ⟨ad, c', hcv, _⟩ := vr_sl hx
          refine ⟨rfl, _, .i _ _, fun w => ?_⟩
          rw [exec_builtin]
          simp [builtin, Builtin.len_, r_und hu, goInt, hcv]
        · cases hr
      · rename_i n el _ dd hu hx'
        cases hc
        simp only [PO.run, Option.some.injEq] at hr; subst hr
        refine ⟨rfl, _, .i _ _, fun w => ?_⟩
        rw [exec_builtin]
        simp [builtin, Builtin.len_, r_und hu, goInt]
      · rename_i p _ dd hu hx'
        split at hc
        · rename_i n el hu2
          cases hc
          simp only [PO.run, Option.some.injEq] at hr; subst hr
          refine ⟨rfl, _, .i _ _, fun w => ?_⟩
          rw [exec_builtin]
          simp [builtin, Builtin.len_, r_und hu, r_und hu2, goInt]
        · cases hc
      · cases hc
      · cases hc
    · -- cap
      rename_i x t
      split at hc
      · rename_i el x' dd hu hx'
        cases hc
        have hx := cO_ok hE hx'
        simp only [PO.run, rCp] at hr
        split at hr
        · rename_i hb
          cases hr
          rw [hb] at hx
          refine ⟨rfl, _, .i _ _, fun w => ?_⟩
          rw [exec_builtin]
          simp [builtin, Builtin.cap_, r_und hu, goInt, vr_ns hx]
        · cases hr
      · cases hc
    · -- copy
      split at hc
      · obtain ⟨_, _, hh⟩ := Option.map_eq_some_iff.1 hc; cases hh
      · cases hc
    · -- clear
      split at hc
      · obtain ⟨_, _, hh⟩ := Option.map_eq_some_iff.1 hc; cases hh
      · cases hc
    · -- delete
      split at hc
      · split at hc
        · split at hc <;> cases hc
        · cases hc
      · cases hc
    · -- max
      split at hc
      · rename_i l dd hl
        cases hc
        exact ⟨rfl, minmax_ok true hE hl (by simpa [PO.run] using hr)⟩
      · cases hc
    · -- min
      split at hc
      · rename_i l dd hl
        cases hc
        exact ⟨rfl, minmax_ok false hE hl (by simpa [PO.run] using hr)⟩
      · cases hc
    · split at hc
      · split at hc
        · obtain ⟨_, _, hh⟩ := Option.map_eq_some_iff.1 hc; cases hh
        · cases hc
      · cases hc
    · split at hc <;> cases hc
    · cases hc
  | alloc t => cases dst <;> simp only [cOp] at hc <;> first | (cases hc; done) | (obtain ⟨_, _, hh⟩ := Option.map_eq_some_iff.1 hc; cases hh)
  | box t x => cases dst <;> simp only [cOp] at hc <;> first | (cases hc; done) | (obtain ⟨_, _, hh⟩ := Option.map_eq_some_iff.1 hc; cases hh)
  | buildSlice t n parts =>
    cases dst <;> simp only [cOp] at hc
    · cases hc
    · split at hc
      · split at hc
        · split at hc
          · obtain ⟨_, _, hh⟩ := Option.map_eq_some_iff.1 hc; cases hh
          · cases hc
        · cases hc
      · cases hc
  | load t x => cases dst <;> simp only [cOp] at hc <;> first | (cases hc; done) | (split at hc <;> cases hc)
  | store t x y => cases dst <;> simp only [cOp] at hc <;> first | (cases hc; done) | (split at hc <;> cases hc)
  | makeMap t r => cases dst <;> simp only [cOp] at hc <;> first | (cases hc; done) | (split at hc <;> cases hc)
  | makeSlice t l c =>
    cases dst <;> simp only [cOp] at hc
    · cases hc
    · split at hc
      · split at hc <;> cases hc
      · cases hc
  | lookup t x k ok =>
    cases dst <;> simp only [cOp] at hc
    · cases hc
    · split at hc
      · split at hc
        · split at hc <;> cases hc
        · cases hc
      · cases hc
  | mapUpdate t m k v =>
    cases dst <;> simp only [cOp] at hc
    · split at hc
      · split at hc
        · split at hc <;> cases hc
        · cases hc
      · cases hc
    · cases hc
  | insert t m k v =>
    cases dst <;> simp only [cOp] at hc
    · split at hc
      · split at hc
        · split at hc <;> cases hc
        · cases hc
      · cases hc
    · cases hc
  | range t x => cases dst <;> simp only [cOp] at hc <;> first | (cases hc; done) | (split at hc <;> cases hc)
  | next x s => cases dst <;> cases s <;> simp only [cOp] at hc <;> first | (cases hc; done) | (obtain ⟨_, _, hh⟩ := Option.map_eq_some_iff.1 hc; cases hh)
  | entry x => cases dst <;> simp only [cOp] at hc <;> first | (cases hc; done) | (obtain ⟨_, _, hh⟩ := Option.map_eq_some_iff.1 hc; cases hh)
  | _ => simp [cOp] at hc
end
end Go.AM
/- The operations that read. -/
set_option linter.unusedVariables false
set_option linter.unusedSimpArgs false
namespace Go.AM
open Go
section
variable {P : Program} {Pr : Nat → Prop} {w0 w : World} {μ : Mu} {h : Nat → Option AO} {nx : Nat} {N : Nat} {e : Env} {a : Act}
/-- A cell that is read. -/
theorem Rel.cell (R : Rel Pr w0 μ h nx w) {b : Nat} {wr : Fl} {l : List AV} {bi : BI} (hb : h b = some (.c wr l)) (hm : μ b = some bi) {o : Nat} {v : AV} (hv : l[o]? = some v) :
    ∃ cv, w.cell? ⟨bi.cb, bi.base + o, none⟩ = some cv ∧ VR μ v cv := by
  obtain ⟨bi', hb', C, el, lo, hi, k1, k3, k4, k5, k6, k7, k8⟩ := R.obj b _ hb
  rw [hm] at hb'; cases hb'
  obtain ⟨cv, h1, h2⟩ := k7.get _ _ hv
  refine ⟨cv, ?_, h2⟩
  rw [List.getElem?_take] at h1
  split at h1
  · rw [List.getElem?_drop, Array.getElem?_toList] at h1
    simp only [World.cell?, k1]
    simpa using h1
  · cases h1
theorem Rel.cells (R : Rel Pr w0 μ h nx w) {b : Nat} {wr : Fl} {l : List AV} {bi : BI} (hb : h b = some (.c wr l)) (hm : μ b = some bi) {o n : Nat} {vs : List AV} (hv : rdN l o n = some vs) :
    ∃ cvs, VRL μ vs cvs ∧ cvs.length = n ∧ ∀ j v, cvs[j]? = some v → w.cell? ((⟨bi.cb, bi.base + o, none⟩ : Addr).add j) = some v := by
  unfold rdN at hv
  split at hv
  · rename_i hn
    cases hv
    obtain ⟨bi', hb', C, el, lo, hi, k1, k3, k4, k5, k6, k7, k8⟩ := R.obj b _ hb
    rw [hm] at hb'; cases hb'
    have hlen := k7.length
    refine ⟨_, (k7.drop o).take n, ?_, fun j v hj => ?_⟩
    · simp only [List.length_take, List.length_drop] at hlen ⊢
      omega
    · rw [List.getElem?_take] at hj
      split at hj
      · rw [List.getElem?_drop, List.getElem?_take] at hj
        split at hj
        · rw [List.getElem?_drop, Array.getElem?_toList] at hj
          rw [add_none]
          simp only [World.cell?, k1]
          rw [if_neg (by simp), show bi.base + o + j = bi.base + (o + j) by omega]
          exact hj
        · cases hj
      · cases hj
  · cases hv
theorem run_loadN {ad : Addr} {cs : List Value} {n : Nat} (hn : cs.length = n) (h : ∀ j v, cs[j]? = some v → w.cell? (ad.add j) = some v) : (loadCells ad n).run P w = .ok cs.toArray w := by
  subst hn; exact run_loadCells_list w ad cs h
theorem hp_cells {H : Hp} {b : Nat} {l : List AV} (h : H.cells b = some l) : ∃ wr, H.get b = some (.c wr l) := by
  unfold Hp.cells at h
  split at h
  · rename_i wr l' hh; cases h; exact ⟨wr, hh⟩
  · cases h
theorem hp_map {H : Hp} {b : Nat} {l : List (AV × AV)} (h : H.map b = some l) : ∃ n, H.get b = some (.mp n l) := by
  unfold Hp.map at h
  split at h
  · rename_i n l' hh; cases h; exact ⟨n, hh⟩
  · cases h
/-- The entries of a map. -/
theorem Rel.mp (R : Rel Pr w0 μ h nx w) {r n : Nat} {l : List (AV × AV)} {bi : BI} (hr : h r = some (.mp n l)) (hm : μ r = some bi) :
    ∃ E clk, w.heap[bi.cb]? = some (.map E clk) ∧ ERL μ l E.toList ∧ Borns E.toList clk := by
  obtain ⟨bi', hb', E, clk, k1, k2, k3⟩ := R.obj r _ hr
  rw [hm] at hb'; cases hb'
  exact ⟨E, clk, k1, k2, k3⟩
theorem run_getObj {r : Nat} {o : Obj} (ho : w.heap[r]? = some o) (hc : (match o with | .cells _ _ _ => true | _ => false) = false) : (getObj r).run P w = .ok o w := by
  simp only [getObj, Sem.run, ho]
  cases o <;> first | rfl | cases hc
theorem check_basic {t : TypeId} {d : TypeDesc} {ck : Value} (hu : P.underlying t = some d) (hd : (match d with | .int _ | .string | .bool => true | _ => false) = true) (em : Bool) (n : Nat) :
    (Instr.checkKey em (n + 1) t ck).run P w = .ok () w := by
  simp only [Instr.checkKey, Sem.run_bind, r_und hu, Result.andThen_ok]
  cases d <;> first | (cases hd; done) | (cases ck <;> rfl)
theorem check_fields (em : Bool) (n : Nat) (xs' : List Value) : ∀ (fs : List Field) (w : World), (∀ f ∈ fs, (∃ k m, P.underlying f.type = some (.int k) ∧ xs'[f.offset]? = some m)) →
    (forIn fs PUnit.unit (fun f r => do
      if f.name ≠ "_" then do
        let x ← part f.type xs'.toArray f.offset
        Instr.checkKey em (n + 1) f.type x
        pure (ForInStep.yield PUnit.unit)
      else pure (ForInStep.yield PUnit.unit)) : Sem PUnit).run P w = .ok PUnit.unit w
  | [], w, _ => by simp
  | f :: fs, w, hall => by
    obtain ⟨k, m, hu, hm⟩ := hall f (by simp)
    have hag : agOf P f.type = some false := by simp [agOf, hu]
    have hp : (part f.type xs'.toArray f.offset).run P w = .ok m w := by
      simp only [part, Sem.run_bind, r_agg hag, Result.andThen_ok, Bool.false_eq_true, if_false]
      simp [hm]
    have ih := check_fields em n xs' fs w (fun f hf => hall f (by simp [hf]))
    simp only [List.forIn_cons, Sem.run_bind, Sem.run_ite, hp, Result.andThen_ok, check_basic hu rfl, Sem.run_pure]
    split <;> simp only [Result.andThen_ok] <;> exact ih
/-- A key's check. -/
theorem check_ok {t : TypeId} {et : ET} (hk : keyOk P t = true) (ht : eqT P 6 t = some et) {k : AV} {ck : Value} (hv : VR μ k ck) (hok : kOK et k = true) (em : Bool) :
    (Instr.checkKey em 10000 t ck).run P w = .ok () w := by
  suffices hs : ∀ n, (Instr.checkKey em (n + 2) t ck).run P w = .ok () w from hs 9998
  intro n
  obtain ⟨m6, hm6⟩ : ∃ m, 6 = m + 1 := ⟨5, rfl⟩
  rw [hm6] at ht
  simp only [eqT] at ht
  unfold keyOk at hk
  split at hk
  · rename_i k' hu; exact check_basic hu rfl em _
  · rename_i hu; exact check_basic hu rfl em _
  · rename_i hu; exact check_basic hu rfl em _
  · rename_i fields hu
    simp only [hu] at ht
    split at ht
    · cases ht
    · obtain ⟨l, hl, rfl⟩ := Option.map_eq_some_iff.1 ht
      cases hv <;> simp only [kOK] at hok <;> first | (cases hok; done) | skip
      rename_i xs xs' hxs
      have hall : ∀ f ∈ fields.toList, (∃ k m, P.underlying f.type = some (.int k) ∧ xs'[f.offset]? = some m) := by
        have hint : ∀ f ∈ fields.toList, ∃ k, P.underlying f.type = some (.int k) := by
          intro f hf
          rw [List.all_eq_true] at hk
          obtain ⟨i, hi⟩ := List.mem_iff_getElem?.1 hf
          have := hk (f, i) (by
            rw [List.mem_iff_getElem?]
            exact ⟨i, by simp [hi]⟩)
          simp only [Bool.and_eq_true] at this
          have h2 := this.2
          split at h2
          · rename_i k hk'; exact ⟨k, hk'⟩
          · cases h2
        clear hk hu ht
        generalize fields.toList = fs at *
        induction fs generalizing l with
        | nil => intro f hf; cases hf
        | cons f fs ih =>
          simp only [List.mapM_cons, Option.bind_eq_bind, Option.bind_eq_some_iff] at hl
          obtain ⟨q, hq, l', hl', he⟩ := hl
          cases he
          rw [List.all_cons, Bool.and_eq_true] at hok
          intro g hg
          rcases List.mem_cons.1 hg with rfl | hg
          · obtain ⟨k, hk⟩ := hint g (by simp)
            split at hq
            · cases hq
            · split at hq
              · rename_i z et hz het
                cases hq
                have h1 := hok.1
                simp only at h1
                split at h1
                · rename_i k2 n2 _ hx2
                  obtain ⟨cv, hc1, hc2⟩ := hxs.get _ _ hx2
                  exact ⟨k, cv, hk, hc1⟩
                · cases h1
              · cases hq
          · exact ih l' hok.2 hl' (fun f hf => hint f (by simp [hf])) g hg
      unfold Instr.checkKey
      simp only [Sem.run_bind, r_und hu, Result.andThen_ok]
      rw [← Array.forIn_toList]
      have := check_fields (P := P) em n xs' fields.toList w hall
      simp only [this, Result.andThen_ok]
      rfl
  · cases hk
theorem look_none_or {t : ET} {k : AV} : ∀ {l : List (AV × AV)} {r : Option (Nat × AV)}, look t k l = some r → ∀ i v, r = some (i, v) → i < l.length ∧ ∃ u, l[i]? = some (u, v)
  | [], r, h, i, v, hr => by simp only [look, Option.some.injEq] at h; subst h; cases hr
  | (x, y) :: l, r, h, i, v, hr => by
    simp only [look] at h
    split at h
    · cases h; cases hr; exact ⟨by simp, x, rfl⟩
    · split at h
      · rename_i j u hj
        cases h; cases hr
        obtain ⟨h1, q, h2⟩ := look_none_or hj _ _ rfl
        exact ⟨by simp; omega, q, by simpa using h2⟩
      · rename_i hnot
        cases hl : look t k l with
        | none => rw [hl] at h; cases h
        | some r' =>
          rw [hl] at h; cases h
          subst hr
          exact absurd hl (hnot _ _)
    · cases h
/-- Where a key stands. -/
def at_ (E : List MapEntry) (i0 : Nat) (r : Option (Nat × AV)) : Option (Nat × Value) := match r with | none => none | some (i, _) => (E[i]?).map fun e => (i0 + i, e.val)
theorem look_split {t : ET} {k x v : AV} {l : List (AV × AV)} {r : Option (Nat × AV)} (h : look t k ((x, v) :: l) = some r) :
    (eqv t k x = some true ∧ r = some (0, v)) ∨ (eqv t k x = some false ∧ ∃ r', look t k l = some r' ∧ r = r'.map fun q => (q.1 + 1, q.2)) := by
  simp only [look] at h
  split at h
  · rename_i he; cases h; exact .inl ⟨he, rfl⟩
  · rename_i he
    refine .inr ⟨he, ?_⟩
    cases hl : look t k l with
    | none => rw [hl] at h; cases h
    | some r' =>
      rw [hl] at h
      cases r' with
      | none => cases h; exact ⟨none, rfl, rfl⟩
      | some q => obtain ⟨i, u⟩ := q; cases h; exact ⟨_, rfl, rfl⟩
  · cases h
theorem asking_ok {t : TypeId} {et : ET} (ht : eqT P 6 t = some et) {k : AV} {ck : Value} (hv : VR μ k ck) : ∀ {l : List (AV × AV)} {E : List MapEntry} (hE : ERL μ l E)
    {r : Option (Nat × AV)} (hr : look et k l = some r) (i0 : Nat), (Instr.findAsking t ck E i0).run P w = .ok (at_ E i0 r) w
  | _, _, .nil, r, hr, i0 => by simp only [look, Option.some.injEq] at hr; subst hr; rfl
  | _, _, .cons (e := e) (l' := E) hk hv2 hE, r, hr, i0 => by
    rcases look_split hr with ⟨h1, rfl⟩ | ⟨h1, r', h2, rfl⟩
    · have h3 : (Op.equal t ck e.key).run P w = .ok true w := eq_ok 6 t et ht _ _ _ _ _ hv hk h1 10000 (by omega) w
      simp [Instr.findAsking, h3, at_]
    · have h3 : (Op.equal t ck e.key).run P w = .ok false w := eq_ok 6 t et ht _ _ _ _ _ hv hk h1 10000 (by omega) w
      have ih := asking_ok ht hv hE h2 (i0 + 1)
      simp only [Instr.findAsking, Sem.run_bind, h3, Result.andThen_ok, Bool.false_eq_true, if_false, ih]
      cases r' with
      | none => rfl
      | some q => obtain ⟨i, u⟩ := q; simp only [at_, Option.map_some, List.getElem?_cons_succ]; rw [show i0 + 1 + i = i0 + (i + 1) by omega]
theorem same_now {d : TypeDesc} {t : ET} {k x : AV} {ck cx : Value} (hk : VR μ k ck) (hx : VR μ x cx) {b b' : Bool} (h : Instr.sameNow d ck cx = some b) (he : eqv t k x = some b') : b = b' := by
  unfold Instr.sameNow at h
  split at h
  · cases hk; cases hx
    cases t <;> simp only [eqv] at he <;> first | (cases he; done) | skip
    split at h
    · rename_i hkk; subst hkk; simp at he; cases h; exact he
    · cases h
  · cases hk; cases hx
    cases t <;> simp only [eqv] at he <;> first | (cases he; done) | skip
    cases h; cases he
    rw [beq_toListBytes, ByteArray.toList_eq, ByteArray.toList_eq]
  · cases hk; cases hx
    cases t <;> simp only [eqv] at he <;> first | (cases he; done) | skip
    cases h; cases he; rfl
  · cases h
theorem now_ok {d : TypeDesc} {et : ET} {k : AV} {ck : Value} (hv : VR μ k ck) : ∀ {l : List (AV × AV)} {E : List MapEntry} (hE : ERL μ l E)
    {r : Option (Nat × AV)} (hr : look et k l = some r) (i0 : Nat) {r0 : Option (Nat × Value)}, Instr.findNow d ck E i0 = some r0 → r0 = at_ E i0 r
  | _, _, .nil, r, hr, i0, r0, h => by
    simp only [look, Option.some.injEq] at hr; subst hr
    simp only [Instr.findNow, Option.some.injEq] at h; subst h; rfl
  | _, _, .cons (e := e) (l' := E) hk hv2 hE, r, hr, i0, r0, h => by
    simp only [Instr.findNow] at h
    rcases look_split hr with ⟨h1, rfl⟩ | ⟨h1, r', h2, rfl⟩
    · split at h
      · cases h; simp [at_]
      · rename_i hs; exact absurd (same_now hv hk hs h1) (by simp)
      · cases h
    · split at h
      · rename_i hs; exact absurd (same_now hv hk hs h1) (by simp)
      · have ih := now_ok hv hE h2 (i0 + 1) h
        rw [ih]
        cases r' with
        | none => rfl
        | some q => obtain ⟨i, u⟩ := q; simp only [at_, Option.map_some, List.getElem?_cons_succ]; rw [show i0 + 1 + i = i0 + (i + 1) by omega]
      · cases h
theorem find_ok {t : TypeId} {et : ET} (ht : eqT P 6 t = some et) {k : AV} {ck : Value} (hv : VR μ k ck) {l : List (AV × AV)} {E : List MapEntry} (hE : ERL μ l E)
    {r : Option (Nat × AV)} (hr : look et k l = some r) : (Instr.findKey t ck E).run P w = .ok (at_ E 0 r) w := by
  have hd : ∃ d, P.underlying t = some d := by
    obtain ⟨m6, hm6⟩ : ∃ m, 6 = m + 1 := ⟨5, rfl⟩
    rw [hm6] at ht
    simp only [eqT] at ht
    split at ht
    case h_10 => cases ht
    all_goals exact ⟨_, by assumption⟩
  obtain ⟨d, hd⟩ := hd
  simp only [Instr.findKey, Sem.run_bind, r_und hd, Result.andThen_ok]
  split
  · rename_i r0 h0
    rw [now_ok hv hE hr 0 h0]; rfl
  · exact asking_ok ht hv hE hr 0
theorem bytes_ok : ∀ {l : List AV} {bs : List UInt8} {l' : List Value}, bytesOf l = some bs → VRL μ l l' → ∀ (s : ByteArray) (w : World),
    (forIn l' s (fun c (r : ByteArray) => match c with
      | .int .u8 n => pure (ForInStep.yield (r.push (UInt8.ofNat n.toNat)))
      | _ => do
        stuck "bytesToString: byte expected"
        pure (ForInStep.yield r)) : Sem ByteArray).run P w = .ok ⟨s.data ++ bs.toArray⟩ w
  | [], bs, _, h, .nil, s, w => by
    simp only [bytesOf, Option.some.injEq] at h; subst h
    simp
  | x :: l, bs, _, h, .cons hx hl, s, w => by
    cases x <;> (try simp only [bytesOf] at h) <;> first | (cases h; done) | skip
    rename_i k n
    cases k <;> (try simp only [bytesOf] at h) <;> first | (cases h; done) | skip
    obtain ⟨b, hb, rfl⟩ := Option.map_eq_some_iff.1 h
    rw [vr_i hx]
    simp only [List.forIn_cons, Sem.run_bind, Sem.run_pure, Result.andThen_ok]
    rw [bytes_ok hb hl]
    congr 2
    apply Array.ext'
    simp [ByteArray.push]
theorem cBin_p (P : Program) (d : Nat) (op : BinOp) (t : TypeId) (x y : O) {r : AM.Op} (h : cBin P d op t x y = some r) : ∃ po, r = .p d po := by
  unfold cBin at h
  have key : ∀ neg, (match P.underlying t with
    | some (.int _) | some .string => some (.p d (.bo op x y))
    | _ => match eqT P 6 t with
      | some (.ag l) => if P.eqGuardType P.depth t then none else some (.p d (.eq neg (.ag l) x y))
      | some e => some (.p d (.eq neg e x y))
      | none => none : Option AM.Op) = some r → ∃ po, r = .p d po := by
    intro neg h
    split at h
    · cases h; exact ⟨_, rfl⟩
    · cases h; exact ⟨_, rfl⟩
    · split at h
      · split at h
        · cases h
        · cases h; exact ⟨_, rfl⟩
      · cases h; exact ⟨_, rfl⟩
      · cases h
  cases op
  case eql => exact key _ h
  case neq => exact key _ h
  all_goals cases h; exact ⟨_, rfl⟩
theorem cBin_not_r (P : Program) (d : Nat) (op : BinOp) (t : TypeId) (x y : O) (d' : Nat) (ro : RO) : ¬ cBin P d op t x y = some (.r d' ro) := by
  intro h
  obtain ⟨po, hh⟩ := cBin_p P d op t x y h
  cases hh
/-- The operations that read answer as the model's. -/
theorem r_ok {H : Hp} (R : Rel Pr w0 μ H.get nx w) {o : Oper} {d : Nat} {ro : RO} (hc : cOp P o = some (.r d ro)) (hE : ER μ N e a.tmps) {v : AV} (hr : ro.run e H = some v) :
    o.dst = some d ∧ ∃ cv, VR μ v cv ∧ (execOp a.eval o).run P w = .ok (.value cv) w := by
  obtain ⟨dst, op, ty, pos, after, guard⟩ := o
  cases op with
  | load t x =>
    cases dst <;> simp only [cOp] at hc
    · cases hc
    · split at hc
      · rename_i n x' hag hn hx'
        cases hc
        have hx := cO_ok hE hx'
        simp only [RO.run] at hr
        split at hr
        · rename_i b o hb
          rw [hb] at hx
          obtain ⟨bi, h1, h2⟩ := vr_p hx
          split at hr
          · rename_i l hl
            obtain ⟨vs, hvs, rfl⟩ := Option.map_eq_some_iff.1 hr
            obtain ⟨wr, hg⟩ := hp_cells hl
            obtain ⟨cvs, g1, g2, g3⟩ := R.cells hg h1 hvs
            refine ⟨rfl, _, .ag g1, ?_⟩
            simp [execOp, Instr.loadAt, h2, Instr.sureAddr, loadVar, r_agg hag, r_size hn, run_loadN g2 g3]
          · cases hr
        · cases hr
      · rename_i n x' hag hn hx'
        cases hc
        have hx := cO_ok hE hx'
        simp only [RO.run] at hr
        split at hr
        · rename_i b o hb
          rw [hb] at hx
          obtain ⟨bi, h1, h2⟩ := vr_p hx
          split at hr
          · rename_i l hl
            obtain ⟨wr, hg⟩ := hp_cells hl
            obtain ⟨cv, g1, g2⟩ := R.cell hg h1 hr
            refine ⟨rfl, _, g2, ?_⟩
            simp [execOp, Instr.loadAt, h2, Instr.sureAddr, loadVar, r_agg hag, g1]
          · cases hr
        · cases hr
      · cases hc
  | lookup t x k ok =>
    cases dst <;> simp only [cOp] at hc
    · cases hc
    · split at hc
      · rename_i kt el x' k' hu hx' hk'
        split at hc
        · rename_i et z het hz
          split at hc
          · rename_i hko
            cases hc
            have hx := cO_ok hE hx'
            have hk := cO_ok hE hk'
            simp only [RO.run] at hr
            split at hr
            · cases hr
            · rename_i l hl
              split at hr
              case isFalse => cases hr
              rename_i hkk
              have hes : ∃ E : Array MapEntry, ERL μ l E.toList ∧ ((a.eval x = .map none ∧ E = #[]) ∨ ∃ r clk, a.eval x = .map (some r) ∧ w.heap[r]? = some (.map E clk)) := by
                split at hl
                · rename_i hb
                  cases hl
                  rw [hb] at hx
                  exact ⟨#[], .nil, .inl ⟨vr_nm hx, rfl⟩⟩
                · rename_i r hb
                  rw [hb] at hx
                  obtain ⟨bi, h1, h2⟩ := vr_m hx
                  obtain ⟨n, hg⟩ := hp_map hl
                  obtain ⟨E, clk, g1, g2, g3⟩ := R.mp hg h1
                  exact ⟨E, g2, .inr ⟨_, clk, h2, g1⟩⟩
                · cases hl
              obtain ⟨E, hE1, hE2⟩ := hes
              obtain ⟨cz, hcz, hzr⟩ := r_zero μ hz
              have hck := check_ok (P := P) (w := w) hko het hk hkk E.isEmpty
              split at hr
              · cases hr
              · rename_i i u hlook
                have hf := find_ok (P := P) (w := w) het hk hE1 hlook
                obtain ⟨hi, q, hq⟩ := look_none_or hlook _ _ rfl
                have hent : ∃ en, E.toList[i]? = some en ∧ VR μ u en.val := by
                  clear hlook hf hE2 hl hck
                  generalize E.toList = El at *
                  induction hE1 generalizing i with
                  | nil => simp at hq
                  | cons ck cv rr ih =>
                    cases i with
                    | zero => simp at hq; exact ⟨_, rfl, hq.2 ▸ cv⟩
                    | succ i => simpa using ih i (by simp at hi; omega) (by simpa using hq)
                obtain ⟨en, hen, hval⟩ := hent
                cases hr
                refine ⟨rfl, if ok then .tuple #[en.val, .bool true] else en.val, ?_, ?_⟩
                · cases ok
                  · exact hval
                  · exact .tp (.cons hval (.cons (.b true) .nil))
                · rcases hE2 with ⟨h1, h2⟩ | ⟨r, clk, h1, h2⟩
                  · subst h2
                    simp [execOp, Instr.lookup, r_und hu, h1, hck, hf, at_, hen]
                    simp at hen
                  · simp [execOp, Instr.lookup, r_und hu, h1, run_getObj h2 rfl, hck, hf, at_, hen]
              · rename_i hlook
                have hf := find_ok (P := P) (w := w) het hk hE1 hlook
                cases hr
                refine ⟨rfl, if ok then .tuple #[cz, .bool false] else cz, ?_, ?_⟩
                · cases ok
                  · exact hcz
                  · exact .tp (.cons hcz (.cons (.b false) .nil))
                · rcases hE2 with ⟨h1, h2⟩ | ⟨r, clk, h1, h2⟩
                  · subst h2
                    simp at hck hf
                    simp [execOp, Instr.lookup, r_und hu, h1, hck, hf, at_, hzr]
                  · simp [execOp, Instr.lookup, r_und hu, h1, run_getObj h2 rfl, hck, hf, at_, hzr]
          · cases hc
        · cases hc
      · cases hc
  | convert s t x =>
    cases dst <;> simp only [cOp] at hc
    · cases hc
    · split at hc
      · cases hc
      · cases hc
      · split at hc <;> cases hc
      · rename_i el x' h1 h2 h3
        split at hc
        · rename_i h4
          cases hc
          have hx := cO_ok hE h3
          simp only [RO.run] at hr
          split at hr
          · rename_i hb
            cases hr; rw [hb] at hx
            refine ⟨rfl, .string .empty, (show VR μ (.s ByteArray.empty.data.toList) _ from .s _), ?_⟩
            simp [execOp, convert, r_und h1, r_und h2, r_und h4, vr_ns hx, Conv.bytesToString]
          · rename_i b z o n c hb
            rw [hb] at hx
            split at hr
            case isFalse => cases hr
            rename_i hz
            split at hr
            · rename_i l hl
              split at hr
              · rename_i vs hvs
                obtain ⟨bs, hbs, rfl⟩ := Option.map_eq_some_iff.1 hr
                obtain ⟨wr, hg⟩ := hp_cells hl
                obtain ⟨ad, c', hcv, hs⟩ := vr_sl hx
                obtain ⟨bi, k1, k2, k3, k4, k5, k6, k7, k8⟩ := hs
                obtain ⟨cvs, g1, g2, g3⟩ := R.cells hg k1 hvs
                refine ⟨rfl, .string ⟨bs.toArray⟩, by simpa using VR.s (μ := μ) ⟨bs.toArray⟩, ?_⟩
                have hload : (loadCells ad n).run P w = .ok cvs.toArray w := by
                  rcases Nat.eq_zero_or_pos n with h0 | h0
                  · subst h0
                    have : cvs = [] := List.eq_nil_of_length_eq_zero g2
                    subst this
                    rfl
                  · rw [k8 (by omega)]
                    exact run_loadN g2 g3
                have hb2 := bytes_ok (P := P) hbs g1 ByteArray.empty w
                simp only [execOp, convert, Sem.run_bind, r_und h1, r_und h2, r_und h4, hcv, Result.andThen_ok, Conv.bytesToString, hload]
                rw [← Array.forIn_toList]
                have : ByteArray.empty.data ++ bs.toArray = bs.toArray := by
                  show (#[] : Array UInt8) ++ bs.toArray = _
                  simp
                rw [this] at hb2
                exact congrArg (fun r : Result ByteArray => (r.andThen fun a w' => Result.ok (Value.string a) w').andThen fun a w' => Result.ok (Next.value a) w') hb2
              · cases hr
            · cases hr
          · cases hr
        · cases hc
      · split at hc
        · split at hc <;> cases hc
        · cases hc
      · cases hc
  | entry x =>
    cases dst <;> simp only [cOp] at hc
    · cases hc
    · obtain ⟨x', hx', hh⟩ := Option.map_eq_some_iff.1 hc
      cases hh
      have hx := cO_ok hE hx'
      simp only [RO.run] at hr
      split at hr
      · rename_i b hb
        rw [hb] at hx
        obtain ⟨bi, h1, h2⟩ := vr_p hx
        split at hr
        · rename_i m n left k v' hg
          split at hr
          · rename_i n' l' hg'
            split at hr
            case isFalse => cases hr
            rename_i hn
            subst hn
            cases hr
            obtain ⟨bi', hb', q0, mb, since, seen, last, q1, q2, q3, q4⟩ := R.obj b _ hg
            rw [h1] at hb'; cases hb'
            obtain ⟨E, clk, e1, e2, e3⟩ := R.mp hg' q2
            obtain ⟨u1, u2, u3, u4⟩ := q4 _ hg' E clk e1
            obtain ⟨bb, ee, r1, r2, r3, r4⟩ := u4 _ _ rfl
            subst u1; subst u2
            refine ⟨rfl, .tuple #[ee.key, ee.val], .tp (.cons r3 (.cons r4 .nil)), ?_⟩
            have r2' : E.find? (·.born == bb) = some ee := by rw [← Array.find?_toList]; exact r2
            simp [execOp, h2, q0, Instr.entry, run_getObj q1 rfl, r1, run_getObj e1 rfl, r2']
          · cases hr
        · cases hr
      · cases hr
  | call c =>
    obtain ⟨callee, args, argTypes⟩ := c
    obtain ⟨args⟩ := args
    obtain ⟨argTypes⟩ := argTypes
    simp only [cOp] at hc
    split at hc
    · split at hc
      · split at hc
        · split at hc <;> cases hc
        · split at hc <;> cases hc
        · split at hc <;> cases hc
        · cases hc
      · cases hc
    · rename_i x t
      split at hc
      · cases hc
      · cases hc
      · cases hc
      · split at hc <;> cases hc
      · rename_i kt el x' dd hu hx'
        cases hc
        have hx := cO_ok hE hx'
        simp only [RO.run] at hr
        split at hr
        · rename_i hb
          cases hr; rw [hb] at hx
          refine ⟨rfl, _, .i _ _, ?_⟩
          rw [exec_builtin]
          simp [builtin, Builtin.len_, r_und hu, goInt, vr_nm hx]
        · rename_i r hb
          rw [hb] at hx
          obtain ⟨bi, h1, h2⟩ := vr_m hx
          split at hr
          · rename_i l hl
            cases hr
            obtain ⟨n, hg⟩ := hp_map hl
            obtain ⟨E, clk, g1, g2, g3⟩ := R.mp hg h1
            refine ⟨rfl, _, .i _ _, ?_⟩
            rw [exec_builtin]
            have := g2.length
            simp at this
            simp [builtin, Builtin.len_, r_und hu, goInt, h2, run_getObj g1 rfl, this]
          · cases hr
        · cases hr
      · cases hc
    · split at hc <;> cases hc
    · split at hc
      · obtain ⟨_, _, hh⟩ := Option.map_eq_some_iff.1 hc; cases hh
      · cases hc
    · split at hc
      · obtain ⟨_, _, hh⟩ := Option.map_eq_some_iff.1 hc; cases hh
      · cases hc
    · split at hc
      · split at hc
        · split at hc <;> cases hc
        · cases hc
      · cases hc
    · split at hc <;> cases hc
    · split at hc <;> cases hc
    · split at hc
      · split at hc
        · obtain ⟨_, _, hh⟩ := Option.map_eq_some_iff.1 hc; cases hh
        · cases hc
      · cases hc
    · split at hc <;> cases hc
    · cases hc
  | move x => cases dst <;> simp only [cOp] at hc <;> first | (cases hc; done) | (obtain ⟨_, _, hh⟩ := Option.map_eq_some_iff.1 hc; cases hh)
  | assign x => cases dst <;> simp only [cOp] at hc <;> first | (cases hc; done) | (obtain ⟨_, _, hh⟩ := Option.map_eq_some_iff.1 hc; cases hh)
  | pick c x y => cases dst <;> simp only [cOp] at hc <;> first | (cases hc; done) | (split at hc <;> cases hc)
  | alloc t => cases dst <;> simp only [cOp] at hc <;> first | (cases hc; done) | (obtain ⟨_, _, hh⟩ := Option.map_eq_some_iff.1 hc; cases hh)
  | box t x => cases dst <;> simp only [cOp] at hc <;> first | (cases hc; done) | (obtain ⟨_, _, hh⟩ := Option.map_eq_some_iff.1 hc; cases hh)
  | build t parts =>
    cases dst <;> simp only [cOp] at hc
    · cases hc
    · split at hc
      · split at hc
        · obtain ⟨_, _, hh⟩ := Option.map_eq_some_iff.1 hc; cases hh
        · cases hc
      · split at hc
        · obtain ⟨_, _, hh⟩ := Option.map_eq_some_iff.1 hc; cases hh
        · cases hc
      · cases hc
  | buildSlice t n parts =>
    cases dst <;> simp only [cOp] at hc
    · cases hc
    · split at hc
      · split at hc
        · split at hc
          · obtain ⟨_, _, hh⟩ := Option.map_eq_some_iff.1 hc; cases hh
          · cases hc
        · cases hc
      · cases hc
  | store t x y => cases dst <;> simp only [cOp] at hc <;> first | (cases hc; done) | (split at hc <;> cases hc)
  | nilCheck x => cases dst <;> simp only [cOp] at hc <;> first | (cases hc; done) | (obtain ⟨_, _, hh⟩ := Option.map_eq_some_iff.1 hc; cases hh)
  | binOp op t x y u =>
    cases dst <;> simp only [cOp] at hc
    · cases hc
    · split at hc
      · exact absurd hc (cBin_not_r _ _ _ _ _ _ _ _)
      · cases hc
  | unOp op t x => cases dst <;> simp only [cOp] at hc <;> first | (cases hc; done) | (obtain ⟨_, _, hh⟩ := Option.map_eq_some_iff.1 hc; cases hh)
  | makeFunc fn x y => cases dst <;> cases fn <;> simp only [cOp] at hc <;> first | (cases hc; done) | (split at hc <;> cases hc)
  | makeMap t r => cases dst <;> simp only [cOp] at hc <;> first | (cases hc; done) | (split at hc <;> cases hc)
  | makeSlice t l c =>
    cases dst <;> simp only [cOp] at hc
    · cases hc
    · split at hc
      · split at hc <;> cases hc
      · cases hc
  | slice t x lo hi mx =>
    cases dst <;> simp only [cOp] at hc
    · cases hc
    · split at hc
      · obtain ⟨_, _, hh⟩ := Option.map_eq_some_iff.1 hc; cases hh
      · cases hc
      · cases hc
  | fieldAddr st x f =>
    cases dst <;> simp only [cOp] at hc
    · cases hc
    · split at hc
      · split at hc
        · split at hc <;> cases hc
        · cases hc
      · cases hc
  | field st x f =>
    cases dst <;> simp only [cOp] at hc
    · cases hc
    · split at hc
      · split at hc
        · split at hc <;> cases hc
        · cases hc
      · cases hc
  | indexAddr t x i =>
    cases dst <;> simp only [cOp] at hc
    · cases hc
    · split at hc
      · obtain ⟨_, _, hh⟩ := Option.map_eq_some_iff.1 hc; cases hh
      · obtain ⟨_, _, hh⟩ := Option.map_eq_some_iff.1 hc; cases hh
      · cases hc
  | index t x i =>
    cases dst <;> simp only [cOp] at hc
    · cases hc
    · split at hc
      · split at hc <;> cases hc
      · cases hc
      · cases hc
  | mapUpdate t m k v =>
    cases dst <;> simp only [cOp] at hc
    · split at hc
      · split at hc
        · split at hc <;> cases hc
        · cases hc
      · cases hc
    · cases hc
  | insert t m k v =>
    cases dst <;> simp only [cOp] at hc
    · split at hc
      · split at hc
        · split at hc <;> cases hc
        · cases hc
      · cases hc
    · cases hc
  | range t x => cases dst <;> simp only [cOp] at hc <;> first | (cases hc; done) | (split at hc <;> cases hc)
  | next x s => cases dst <;> cases s <;> simp only [cOp] at hc <;> first | (cases hc; done) | (obtain ⟨_, _, hh⟩ := Option.map_eq_some_iff.1 hc; cases hh)
  | extract x i => cases dst <;> simp only [cOp] at hc <;> first | (cases hc; done) | (obtain ⟨_, _, hh⟩ := Option.map_eq_some_iff.1 hc; cases hh)
  | _ => simp [cOp] at hc
end
end Go.AM
