/- The operations that make an object. -/
import Derived.Test.YtnbiklilbdgmmaaGreatA3
import Derived.Laws.AppendOwn
import Derived.Deep.AppendSrc
import Derived.Laws.IdiomCopy
import Derived.Deep.Upon
import Derived.Maps.RangeRun
set_option linter.constructorNameAsVariable false
set_option linter.unusedVariables false
set_option linter.unusedSimpArgs false
namespace Go.AM
open Go
def Mu.put (μ : Mu) (a : Nat) (bi : BI) : Mu := fun b => if b = a then some bi else μ b
theorem Mu.put_at (μ : Mu) (a : Nat) (bi : BI) : μ.put a bi a = some bi := by simp [Mu.put]
theorem Ext.put {μ : Mu} {a : Nat} {bi : BI} (h : μ a = none) : Ext μ (μ.put a bi) := fun b b1 e => by
  unfold Mu.put; split
  · rename_i c; subst c; rw [h] at e; cases e
  · exact e
/-- More objects are placed, none below n. -/
def Eu (n : Nat) (μ μ' : Mu) : Prop := Ext μ μ' ∧ ∀ a, a < n → μ a = none → μ' a = none
theorem Eu.refl (n : Nat) (μ : Mu) : Eu n μ μ := ⟨Ext.refl _, fun _ _ h => h⟩
theorem Eu.put {n : Nat} {μ : Mu} {a : Nat} {bi : BI} (h : μ a = none) (hn : n ≤ a) : Eu n μ (μ.put a bi) := ⟨Ext.put h, fun b hb e => by
  unfold Mu.put; rw [if_neg (by omega)]; exact e⟩
theorem Eu.trans {n n' : Nat} {μ μ' μ'' : Mu} (h : Eu n μ μ') (h' : Eu n' μ' μ'') (hn : n ≤ n') : Eu n μ μ'' := ⟨h.1.trans h'.1, fun a ha e => h'.2 a (by omega) (h.2 a ha e)⟩
theorem Eu.le {n n' : Nat} {μ μ' : Mu} (h : Eu n' μ μ') (hn : n ≤ n') : Eu n μ μ' := ⟨h.1, fun a ha e => h.2 a (by omega) e⟩
theorem rep_length (z : List AV) : ∀ n, (rep z n).length = n * z.length
  | 0 => by simp [rep]
  | n + 1 => by simp [rep, rep_length z n, Nat.succ_mul]; omega
theorem rep_all {z : List AV} (h : z.all AV.one = true) : ∀ n, (rep z n).all AV.one = true
  | 0 => rfl
  | n + 1 => by simp only [rep, List.all_append, h, rep_all h n, Bool.and_self]
theorem rep_ok {μ : Mu} {z : List AV} {cz : Array Value} (h : VRL μ z cz.toList) : ∀ k s, s = cz.size → VRL μ (rep z k) ((List.range (k * s)).map fun i => cz[i % cz.size]!)
  | 0, s, hs => by simp only [Nat.zero_mul, List.range_zero, List.map_nil, rep]; exact .nil
  | k + 1, s, hs => by
    subst hs
    have : (List.range ((k + 1) * cz.size)).map (fun i => cz[i % cz.size]!) = cz.toList ++ (List.range (k * cz.size)).map fun i => cz[i % cz.size]! := by
      rw [show (k + 1) * cz.size = cz.size + k * cz.size by rw [Nat.succ_mul]; omega, List.range_add, List.map_append, List.map_map]
      congr 1
      · apply List.ext_getElem?
        intro i
        by_cases c : i < cz.size
        · simp [c, List.getElem?_range, Nat.mod_eq_of_lt c]
        · simp [c]
      · apply List.map_congr_left
        intro i _
        simp [Nat.add_mod_left]
    rw [this]
    exact h.append (rep_ok h k _ rfl)
theorem vrl_one {μ : Mu} : ∀ {l : List AV} {l' : List Value}, VRL μ l l' → l.all AV.one = true → ∀ v ∈ l', v.oneCell' = true
  | _, _, .nil, _, v, hv => by cases hv
  | _, _, .cons hx hl, h, v, hv => by
    simp only [List.all_cons, Bool.and_eq_true] at h
    rcases List.mem_cons.1 hv with rfl | hv
    · have := hx.one h.1
      cases v <;> first | rfl | cases this
    · exact vrl_one hl h.2 v hv
section
variable {P : Program} {Pr : Nat → Prop} {w0 w w' : World} {μ : Mu} {h : Nat → Option AO} {nx : Nat} {N : Nat} {e : Env} {a : Act}
/-- A new row of cells. -/
theorem Rel.newC (R : Rel Pr w0 μ h nx w) {aid : Nat} (ha : μ aid = none) {l : List AV} {C : Array Value} {el : TypeId} {lo hi : Nat} (hv : VRL μ l (C.toList.take l.length)) (hlen : l.length ≤ C.size)
    (h1 : l.all AV.one = true) (hfr : lo = hi ∨ C.size ≤ lo) (hh : w'.heap = w.heap.push (.cells C el (lo, hi))) (e1 : w'.os = w.os) (e2 : w'.tape = w.tape) (e3 : w'.output = w.output)
    {h' : Nat → Option AO} {nx' : Nat} (hn : nx ≤ nx') (hlt : aid < nx') (hh' : ∀ b, h' b = if b = aid then some (.c .w l) else h b) :
    Rel Pr w0 (μ.put aid ⟨w.heap.size, 0, l.length, C.size⟩) h' nx' w' := by
  refine R.push (bi := ⟨w.heap.size, 0, l.length, C.size⟩) ha hn hlt (fun B hB => ?_) ?_ rfl e1 e2 e3 (fun b => rfl) hh' ?_
  · rw [hh, Array.getElem?_push, if_neg (by omega)]
  · rw [hh]; simp
  · refine ⟨C, el, lo, hi, by rw [hh]; simp, rfl, hlen, by simp, fun _ => hfr, ?_, h1⟩
    simpa using hv.mono (Ext.put ha)
/-- What a new object is, at whatever number that is free. -/
def NR (P : Program) (Pr : Nat → Prop) (w0 : World) (μ : Mu) (h : Nat → Option AO) (nx : Nat) (w : World) (a : Act) (o : Oper) (ob : AO) (f : Nat → AV) : Prop :=
  ∃ cv w' bi, (execOp a.eval o).run P w = .ok (.value cv) w' ∧ bi.cb = w.heap.size ∧ ∀ aid, μ aid = none → VR (μ.put aid bi) (f aid) cv ∧
    ∀ h' nx', nx ≤ nx' → aid < nx' → (∀ b, h' b = if b = aid then some ob else h b) → Rel Pr w0 (μ.put aid bi) h' nx' w'
theorem n_ok (R : Rel Pr w0 μ h nx w) {o : Oper} {d : Nat} {no : NO} (hc : cOp P o = some (.n d no)) (hE : ER μ N e a.tmps) {ob : AO} {f : Nat → AV} (hr : no.run e = some (ob, f)) :
    o.dst = some d ∧ NR P Pr w0 μ h nx w a o ob f := by
  obtain ⟨dst, op, ty, pos, after, guard⟩ := o
  cases op with
  | alloc t =>
    cases dst <;> simp only [cOp] at hc
    · cases hc
    · obtain ⟨z, hz, hh⟩ := Option.map_eq_some_iff.1 hc
      cases hh
      simp only [NO.run] at hr
      split at hr
      · rename_i h1
        cases hr
        obtain ⟨cz, hcz, hzr⟩ := r_zero μ hz
        have hcc := hcz.cells
        have hl := hcc.length
        have hrun : (execOp a.eval ⟨some d, .alloc t, ty, pos, after, guard⟩).run P w = .ok (.value (.pointer (some ⟨w.heap.size, 0, none⟩))) { w with heap := w.heap.push (.cells cz.cells t (0, 0)) } := by simp [execOp, Instr.alloc, hzr, newVar, newRow]
        refine ⟨rfl, _, _, ⟨w.heap.size, 0, z.cells.length, cz.cells.size⟩, hrun, rfl, fun aid ha => ⟨.p (Mu.put_at _ _ _) 0, fun h' nx' hn hlt hh => ?_⟩⟩
        simp only [Array.length_toList] at hl
        refine R.newC (C := cz.cells) (el := t) (lo := 0) (hi := 0) ha (by rw [List.take_of_length_le (by simp [hl])]; exact hcc) (by omega) h1 (.inl rfl) ?_ ?_ ?_ ?_ hn hlt hh <;> rfl
      · cases hr
  | box t x =>
    cases dst <;> simp only [cOp] at hc
    · cases hc
    · obtain ⟨z, hz, hh⟩ := Option.map_eq_some_iff.1 hc
      cases hh
      simp only [NO.run] at hr
      split at hr
      · rename_i h1
        cases hr
        have hcc := (cO_ok hE hz).cells
        have hl := hcc.length
        have hrun : (execOp a.eval ⟨some d, .box t x, ty, pos, after, guard⟩).run P w = .ok (.value (.pointer (some ⟨w.heap.size, 0, none⟩))) { w with heap := w.heap.push (.cells (a.eval x).cells t (0, 0)) } := by simp [execOp, Instr.box, newVar, newRow]
        refine ⟨rfl, _, _, ⟨w.heap.size, 0, (ev e z).cells.length, (a.eval x).cells.size⟩, hrun, rfl, fun aid ha => ⟨.p (Mu.put_at _ _ _) 0, fun h' nx' hn hlt hh => ?_⟩⟩
        simp only [Array.length_toList] at hl
        refine R.newC (C := (a.eval x).cells) (el := t) (lo := 0) (hi := 0) ha (by rw [List.take_of_length_le (by simp [hl])]; exact hcc) (by omega) h1 (.inl rfl) ?_ ?_ ?_ ?_ hn hlt hh <;> rfl
      · cases hr
  | buildSlice t n parts =>
    cases dst <;> simp only [cOp] at hc
    · cases hc
    · split at hc
      · rename_i elem hu
        split at hc
        · rename_i s z hs hz
          split at hc
          · rename_i hcond
            obtain ⟨l, hl, hh⟩ := Option.map_eq_some_iff.1 hc
            cases hh
            simp only [NO.run] at hr
            split at hr
            · rename_i cs hcs
              split at hr
              · rename_i h1
                cases hr
                obtain ⟨cz, hcz, hzr⟩ := r_zero μ hz
                have hcc := hcz.cells
                have hcl := hcc.length
                simp only [Array.length_toList] at hcl
                have hrep := rep_ok hcc n s (by omega)
                obtain ⟨out', ho1, ho2⟩ := lay_ok hE hl hrep hcs
                have ho3 : Instr.fill (fun i => some (i * s, s)) ((Array.range (n * s)).map fun i => cz.cells[i % cz.cells.size]!) (parts.map fun (i, x) => (i, a.eval x)).toList = some out'.toArray := by
                  have e1 : ((Array.range (n * s)).map fun i => cz.cells[i % cz.cells.size]!) = (List.map (fun i => cz.cells[i % cz.cells.size]!) (List.range (n * s))).toArray := by
                    apply Array.ext'; simp
                  rw [e1]
                  have harr : (parts.map fun (i, x) => (i, a.eval x)).toList = parts.toList.map fun (i, x) => (i, a.eval x) := by simp
                  rw [harr]
                  exact ho2
                have hol := ho1.length
                have hrun : (execOp a.eval ⟨some d, .buildSlice t n parts, ty, pos, after, guard⟩).run P w = .ok (.value (.slice (some ⟨w.heap.size, 0, none⟩) n n)) { w with heap := w.heap.push (.cells out'.toArray elem (0, 0)) } := by
                  simp only [execOp, Instr.buildSlice, Sem.run_bind, r_und hu, r_size hs, Result.andThen_ok]
                  rw [if_neg (by omega)]
                  by_cases c0 : n * s = 0
                  · have e0 : ((Array.range (n * s)).map fun i => (#[] : Array Value)[i % (#[] : Array Value).size]!) = ((Array.range (n * s)).map fun i => cz.cells[i % cz.cells.size]!) := by
                      rw [c0]; simp
                    simp only [if_pos c0, Sem.run_bind, Sem.run_pure, Result.andThen_ok]
                    rw [e0]
                    simp only [ho3]
                    simp [newRow]
                  · simp only [if_neg c0, Sem.run_bind, Sem.run_pure, hzr, Result.andThen_ok, ho3]
                    simp [newRow]
                refine ⟨rfl, _, _, ⟨w.heap.size, 0, cs.length, out'.toArray.size⟩, hrun, rfl, fun aid ha => ⟨?_, fun h' nx' hn hlt hh => ?_⟩⟩
                · exact .sl ⟨_, Mu.put_at _ _ _, Nat.le_refl _, h1.1, (show 0 + n * s ≤ cs.length by omega), Nat.le_refl _, (show 0 + n * s ≤ out'.toArray.size by simp only [List.size_toArray]; omega), fun _ => rfl, fun _ => rfl⟩
                · refine R.newC (C := out'.toArray) (el := elem) (lo := 0) (hi := 0) ha (by rw [List.take_of_length_le (by simp [hol])]; exact ho1) (by simp [hol]) h1.2.2 (.inl rfl) ?_ ?_ ?_ ?_ hn hlt hh <;> rfl
              · cases hr
            · cases hr
          · cases hc
        · cases hc
      · cases hc
  | makeMap t r =>
    cases dst <;> simp only [cOp] at hc
    · cases hc
    · have hrun : no = .mm ∧ d = (by assumption : Nat) ∧ (execOp a.eval ⟨some d, .makeMap t r, ty, pos, after, guard⟩).run P w = .ok (.value (.map (some w.heap.size))) { w with heap := w.heap.push (.map #[] 0) } := by
        split at hc
        · cases hc
          exact ⟨rfl, rfl, by simp [execOp, Instr.makeMap]⟩
        · rename_i hu
          cases hc
          exact ⟨rfl, rfl, by simp [execOp, Instr.makeMap, r_und hu, asInt, asIntOf, Act.eval]⟩
        · cases hc
      obtain ⟨rfl, rfl, hrun⟩ := hrun
      simp only [NO.run, Option.some.injEq, Prod.mk.injEq] at hr
      obtain ⟨rfl, rfl⟩ := hr
      refine ⟨rfl, _, _, ⟨w.heap.size, 0, 0, 0⟩, hrun, rfl, fun aid ha => ⟨.m (Mu.put_at _ _ _), fun h' nx' hn hlt hh => ?_⟩⟩
      refine R.push (bi := ⟨w.heap.size, 0, 0, 0⟩) ha hn hlt (fun B hB => ?_) ?_ rfl rfl rfl rfl (fun b => rfl) hh ?_
      · show (w.heap.push _)[B]? = _
        rw [Array.getElem?_push, if_neg (by omega)]
      · show _ ≤ (w.heap.push _).size
        simp
      · refine ⟨#[], 0, by show (w.heap.push _)[w.heap.size]? = _; simp, .nil, ?_, ?_⟩
        · intro e he; simp at he
        · exact .nil
  | makeSlice t x y =>
    cases dst <;> simp only [cOp] at hc
    · cases hc
    · split at hc
      · rename_i elem hu
        split at hc
        · rename_i s b z x' y' hs hb hz hx hy
          cases hc
          simp only [NO.run] at hr
          split at hr
          · rename_i p q hp hq
            split at hr
            · rename_i h1
              obtain ⟨g1, g2, g3, g4, g5, g6, g7⟩ := h1
              cases hr
              subst g3
              obtain ⟨cz, hcz, hzr⟩ := r_zero μ hz
              have hcc := hcz.cells
              have hcl := hcc.length
              simp only [Array.length_toList] at hcl
              have hx' := cO_ok hE hx
              have hy' := cO_ok hE hy
              rw [hp] at hx'; rw [hq] at hy'
              have hrep := rep_ok hcc p.toNat s (by omega)
              unfold byOf at hb
              obtain ⟨i, hi, rfl⟩ := Option.map_eq_some_iff.1 hb
              have hw : IntKind.i64.wrap p = p := by
                rw [← wr_eq]; unfold wr; rw [if_pos (by omega)]
              have hrun : (execOp a.eval ⟨some d, .makeSlice t x y, ty, pos, after, guard⟩).run P w = .ok (.value (.slice (some ⟨w.heap.size, 0, none⟩) p.toNat p.toNat)) { w with heap := w.heap.push (.cells ((List.map (fun i => cz.cells[i % cz.cells.size]!) (List.range (p.toNat * s))).toArray) elem (0, 0)) } := by
                have e1 : ((Array.range (p.toNat * s)).map fun i => cz.cells[i % cz.cells.size]!) = (List.map (fun i => cz.cells[i % cz.cells.size]!) (List.range (p.toNat * s))).toArray := by
                  apply Array.ext'; simp
                have hbig : ¬ ((i.bytes : Int) * p > 2 ^ 48) := by
                  rw [Int.mul_comm]
                  have : (2 : Int) ^ 48 = 281474976710656 := by decide
                  omega
                have hneg : ¬ (p < 0) := by omega
                simp only [execOp, Instr.makeSlice, Sem.run_bind, r_und hu, vr_i hx', vr_i hy', asInt, asIntOf, Sem.run_pure, Result.andThen_ok, r_info hi, hw]
                simp only [hneg, hbig, decide_false, Bool.or_false, Bool.or_self, Int.lt_irrefl, gt_iff_lt, Bool.false_eq_true, if_false, run_askRoom, Result.andThen_ok, Sem.run_bind, r_size hs]
                by_cases c0 : p.toNat * s = 0
                · have e0 : ((Array.range (p.toNat * s)).map fun i => (#[] : Array Value)[i % (#[] : Array Value).size]!) = ((Array.range (p.toNat * s)).map fun i => cz.cells[i % cz.cells.size]!) := by
                    rw [c0]; simp
                  simp only [if_pos c0, Sem.run_bind, Sem.run_pure, Result.andThen_ok]
                  rw [e0, e1]
                  simp [newRow]
                · simp only [if_neg c0, Sem.run_bind, Sem.run_pure, hzr, Result.andThen_ok, e1]
                  simp [newRow]
              have hol := hrep.length
              have hrl := rep_length z.cells p.toNat
              rw [g6] at hrl
              refine ⟨rfl, _, _, ⟨w.heap.size, 0, (rep z.cells p.toNat).length, ((List.map (fun i => cz.cells[i % cz.cells.size]!) (List.range (p.toNat * s))).toArray).size⟩, hrun, rfl, fun aid ha => ⟨?_, fun h' nx' hn hlt hh => ?_⟩⟩
              · exact .sl ⟨_, Mu.put_at _ _ _, Nat.le_refl _, g1, by simp only [hrl]; omega, Nat.le_refl _, by simp, fun _ => rfl, fun _ => rfl⟩
              · refine R.newC (el := elem) (lo := 0) (hi := 0) ha (by rw [List.take_of_length_le (by simp [hrl])]; exact hrep) (by simp [hrl]) (rep_all g7 _) (.inl rfl) ?_ ?_ ?_ ?_ hn hlt hh <;> rfl
            · cases hr
          · cases hr
        · cases hc
      · cases hc
  | convert s t x =>
    cases dst <;> simp only [cOp] at hc
    · cases hc
    · split at hc
      · cases hc
      · cases hc
      · rename_i el x' h1 h2 h3
        split at hc
        · rename_i h4 h5
          cases hc
          have hx := cO_ok hE h3
          simp only [NO.run] at hr
          split at hr
          · rename_i l hl
            split at hr
            · rename_i hlen
              cases hr
              rw [hl] at hx
              obtain ⟨y, hy, hyl⟩ := vr_s hx
              have hys : l.length = y.size := by rw [← hyl]; rfl
              have hge := grownCap_ge w y.size 0 el
              have hrun : (execOp a.eval ⟨some d, .convert s t x, ty, pos, after, guard⟩).run P w = .ok (.value (.slice (some ⟨w.heap.size, 0, none⟩) y.size (grownCap w y.size 0 el)))
                  { w with drawn := w.drawn + 1, heap := w.heap.push (.cells (y.data.map (fun (b : UInt8) => Value.int .u8 b.toNat) ++ Array.replicate (grownCap w y.size 0 el - y.size) (Value.int .u8 0)) el (grownCap w y.size 0 el, grownCap w y.size 0 el + 1)) } := by
                have e1 : y.size + (grownCap w y.size 0 el - y.size) = grownCap w y.size 0 el := by omega
                have hsz0 : (y.data.map (fun (b : UInt8) => Value.int .u8 b.toNat) ++ Array.replicate (grownCap w y.size 0 el - y.size) (Value.int .u8 0)).size = grownCap w y.size 0 el := by
                  simp only [Array.size_append, Array.size_map, Array.size_replicate]; exact e1
                generalize hC : y.data.map (fun (b : UInt8) => Value.int .u8 b.toNat) ++ Array.replicate (grownCap w y.size 0 el - y.size) (Value.int .u8 0) = C at hsz0 ⊢
                have hmk : (markStringish ⟨w.heap.size, 0, none⟩).run P (w.drew.alloc (.cells C el)) = .ok () { w with drawn := w.drawn + 1, heap := w.heap.push (.cells C el (grownCap w y.size 0 el, grownCap w y.size 0 el + 1)) } := by
                  simp only [markStringish, Sem.run_bind, run_shape, Result.andThen_ok]
                  have hsh : (w.drew.alloc (.cells C el)).shape? w.heap.size = some (el, C.size) := by
                    show (match (w.heap.push (.cells C el))[w.heap.size]? with | some (.cells c elem _) => some (elem, c.size) | _ => none) = _
                    simp
                  simp only [hsh, run_freeze, hsz0]
                  congr 1
                  simp only [World.freeze, World.alloc, World.drew, Nat.one_ne_zero, if_false]
                  congr 1
                  apply Array.ext_getElem?
                  intro i
                  rw [Array.getElem?_modify, Array.getElem?_push, Array.getElem?_push]
                  by_cases c : i = w.heap.size
                  · subst c; simp
                  · simp [c, Ne.symm c]
                have hch : (choose (.appendCap y.size 0 el)).run P w = .ok (grownCap w y.size 0 el) w.drew := by
                  simp [Question.forced, grownCap]
                have hrow : (newRow el (y.data.map (fun (b : UInt8) => Value.int .u8 b.toNat) ++ Array.replicate (grownCap w y.size 0 el - y.size) (Value.int .u8 0))).run P w.drew = .ok ⟨w.heap.size, 0, none⟩ (w.drew.alloc (.cells C el)) := by
                  rw [hC]; simp [newRow]; rfl
                simp only [execOp, convert, Sem.run_bind, r_und h1, r_und h2, r_und h4, hy, Result.andThen_ok, Conv.stringToBytes, hch, hrow, hmk, Sem.run_pure]
              refine ⟨rfl, _, _, ⟨w.heap.size, 0, l.length, grownCap w y.size 0 el⟩, hrun, rfl, fun aid ha => ⟨?_, fun h' nx' hn hlt hh => ?_⟩⟩
              · rw [hys]
                exact .sl ⟨_, Mu.put_at _ _ _, Nat.le_refl _, by omega, by simp, hge, by simp, fun hlt => by simp at hlt, fun _ => rfl⟩
              · have hsz : (y.data.map (fun (b : UInt8) => Value.int .u8 b.toNat) ++ Array.replicate (grownCap w y.size 0 el - y.size) (Value.int .u8 0)).size = grownCap w y.size 0 el := by
                  simp
                  show y.size + _ = _
                  omega
                have hvl : ∀ (m : List UInt8), VRL μ (m.map fun c => AV.i .u8 c.toNat) (m.map fun b => Value.int .u8 b.toNat) := by
                  intro m
                  induction m with
                  | nil => exact .nil
                  | cons x m ih => exact .cons (.i _ _) ih
                have hml : (l.map fun c => AV.i .u8 c.toNat).length = y.size := by simp [hys]
                have := R.newC (el := el) (lo := grownCap w y.size 0 el) (hi := grownCap w y.size 0 el + 1) (w' := { w with drawn := w.drawn + 1, heap := w.heap.push (.cells (y.data.map (fun (b : UInt8) => Value.int .u8 b.toNat) ++ Array.replicate (grownCap w y.size 0 el - y.size) (Value.int .u8 0)) el (grownCap w y.size 0 el, grownCap w y.size 0 el + 1)) }) ha (l := l.map fun c => AV.i .u8 c.toNat) (C := y.data.map (fun (b : UInt8) => Value.int .u8 b.toNat) ++ Array.replicate (grownCap w y.size 0 el - y.size) (Value.int .u8 0))
                  (by
                    rw [hml, Array.toList_append, List.take_append_of_le_length (by simp), List.take_of_length_le (by simp)]
                    rw [← hyl]
                    simpa using hvl y.data.toList)
                  (by rw [hsz, hml]; exact hge)
                  (by simp only [List.all_map, List.all_eq_true]; intro c _; rfl) (.inr (by rw [hsz]; exact Nat.le_refl _)) rfl rfl rfl rfl hn hlt hh
                rw [hsz, hml] at this
                rw [hys]
                exact this
            · cases hr
          · cases hr
        · cases hc
      · split at hc <;> cases hc
      · split at hc
        · split at hc <;> cases hc
        · cases hc
      · cases hc
  | binOp op t x y u =>
    cases dst <;> simp only [cOp] at hc
    · cases hc
    · split at hc
      · obtain ⟨po, hh⟩ := cBin_p P _ _ _ _ _ hc
        cases hh
      · cases hc
  | makeFunc fn x y => cases dst <;> cases fn <;> simp only [cOp] at hc <;> first | (cases hc; done) | (split at hc <;> cases hc)
  | next x s => cases dst <;> cases s <;> simp only [cOp] at hc <;> first | (cases hc; done) | (obtain ⟨_, _, hh⟩ := Option.map_eq_some_iff.1 hc; cases hh)
  | _ =>
    exfalso
    cases dst <;> simp only [cOp] at hc <;> (try cases hc) <;>
      repeat' (first | (cases hc; done) | (obtain ⟨_, _, hh⟩ := Option.map_eq_some_iff.1 hc; cases hh; done) | split at hc)
end
end Go.AM
/- Writing to rows of cells. -/
set_option linter.unusedVariables false
set_option linter.unusedSimpArgs false
namespace Go.AM
open Go
theorem wr_get {α : Type} {l v : List α} {o : Nat} (h : o + v.length ≤ l.length) (i : Nat) : (l.take o ++ v ++ l.drop (o + v.length))[i]? = if o ≤ i ∧ i < o + v.length then v[i - o]? else l[i]? := by
  rw [List.getElem?_append, List.getElem?_append]
  simp only [List.length_append, List.length_take, List.getElem?_take, List.getElem?_drop]
  rw [show min o l.length = o by omega]
  by_cases c1 : i < o
  · rw [if_pos (by omega), if_pos c1, if_pos c1, if_neg (by omega)]
  · by_cases c2 : i < o + v.length
    · rw [if_pos c2, if_neg c1, if_pos (by omega)]
    · rw [if_neg c2, if_neg (by omega)]
      congr 1
      omega
section
variable {P : Program} {Pr : Nat → Prop} {w0 w w' : World} {μ : Mu} {h : Nat → Option AO} {nx : Nat} {N : Nat} {e : Env} {a : Act}
theorem setCell_upd {b o : Nat} {v : Value} {C : Array Value} {el : TypeId} {fr : Nat × Nat} (hb : w.heap[b]? = some (.cells C el fr)) : Upd w (w.setCell ⟨b, o, none⟩ v) b (.cells (C.setIfInBounds o v) el fr) where
  at_ := by
    simp only [World.setCell]
    rw [Array.getElem?_modify, if_pos rfl, hb]
    simp
  rest c hc := by
    simp only [World.setCell]
    rw [Array.getElem?_modify, if_neg (Ne.symm hc)]
  os := rfl
  tape := rfl
  out := rfl
theorem Upd.trans {w'' : World} {b : Nat} {o o' : Obj} (h1 : Upd w w' b o) (h2 : Upd w' w'' b o') : Upd w w'' b o' where
  at_ := h2.at_
  rest c hc := (h2.rest c hc).trans (h1.rest c hc)
  os := h2.os.trans h1.os
  tape := h2.tape.trans h1.tape
  out := h2.out.trans h1.out
theorem setCells_upd {b : Nat} {el : TypeId} {fr : Nat × Nat} : ∀ (vs : List Value) (o : Nat) (w : World) (C : Array Value), w.heap[b]? = some (.cells C el fr) → o + vs.length ≤ C.size →
    ∃ C', Upd w (w.setCells b o vs) b (.cells C' el fr) ∧ C'.toList = C.toList.take o ++ vs ++ C.toList.drop (o + vs.length)
  | [], o, w, C, hb, _ => ⟨C, ⟨hb, fun _ _ => rfl, rfl, rfl, rfl⟩, by simp⟩
  | v :: r, o, w, C, hb, hl => by
    have U1 := setCell_upd (o := o) (v := v) hb
    simp only [List.length_cons] at hl
    obtain ⟨C', U2, h2⟩ := setCells_upd r (o + 1) (w.setCell ⟨b, o, none⟩ v) (C.setIfInBounds o v) U1.at_ (by simp; omega)
    refine ⟨C', U1.trans U2, ?_⟩
    rw [h2]
    apply List.ext_getElem?
    intro i
    rw [wr_get (by simp; omega), wr_get (by simp; omega)]
    simp only [Array.toList_setIfInBounds, List.length_cons, List.getElem?_set, Array.length_toList]
    by_cases c1 : o = i
    · subst c1
      rw [if_neg (by omega), if_pos rfl, if_pos (by omega), if_pos (by omega)]
      simp
    · by_cases c2 : o + 1 ≤ i ∧ i < o + 1 + r.length
      · rw [if_pos c2, if_pos (by omega)]
        rw [show i - o = i - (o + 1) + 1 by omega]; simp
      · rw [if_neg c2, if_neg c1, if_neg (by omega)]
theorem wrN_length {l v : List AV} {o : Nat} (h : o + v.length ≤ l.length) : (wrN l o v).length = l.length := by
  simp [wrN]; omega
theorem all_take {l : List AV} (n : Nat) (h : l.all AV.one = true) : (l.take n).all AV.one = true := by
  rw [List.all_eq_true] at h ⊢; exact fun x hx => h x (List.mem_of_mem_take hx)
theorem all_drop {l : List AV} (n : Nat) (h : l.all AV.one = true) : (l.drop n).all AV.one = true := by
  rw [List.all_eq_true] at h ⊢; exact fun x hx => h x (List.mem_of_mem_drop hx)
theorem wrN_all {l v : List AV} {o : Nat} (h : l.all AV.one = true) (h' : v.all AV.one = true) : (wrN l o v).all AV.one = true := by
  simp only [wrN, List.all_append, all_take o h, h', all_drop _ h, Bool.and_self]
/-- What a row of cells is, seen from its object. -/
theorem Rel.row (R : Rel Pr w0 μ h nx w) {b : Nat} {l : List AV} {bi : BI} (hg : h b = some (.c .w l)) (hm : μ b = some bi) :
    ∃ C el lo hi, w.heap[bi.cb]? = some (.cells C el (lo, hi)) ∧ l.length = bi.size ∧ bi.size ≤ bi.ext ∧ bi.base + bi.ext ≤ C.size ∧ (lo = hi ∨ C.size ≤ lo) ∧ VRL μ l ((C.toList.drop bi.base).take bi.size) ∧ l.all AV.one = true := by
  obtain ⟨bi', hb', C, el, lo, hi, k1, k3, k4, k5, k6, k7, k8⟩ := R.obj b _ hg
  rw [hm] at hb'; cases hb'
  exact ⟨C, el, lo, hi, k1, k3, k4, k5, k6 rfl, k7, k8⟩
theorem run_cells {b o : Nat} {C : Array Value} {el : TypeId} {lo hi : Nat} {cv : List Value} (k1 : w.heap[b]? = some (.cells C el (lo, hi))) (hfr : lo = hi ∨ C.size ≤ lo) (hle : o + cv.length ≤ C.size) (h1 : ∀ u ∈ cv, u.oneCell' = true) :
    (∀ j, j < cv.length → (w.cell? ⟨b, o + j, none⟩).isSome = true) ∧ (∀ j, j < cv.length → w.frozen? ⟨b, o + j, none⟩ = false) ∧
    (storeCells ⟨b, o, none⟩ cv).run P w = .ok () (w.setCells b o cv) := by
  have hc : ∀ j, j < cv.length → (w.cell? ⟨b, o + j, none⟩).isSome = true := by
    intro j hj
    have : o + j < C.size := by omega
    simp only [World.cell?, k1]
    simp [this]
  have hf : ∀ j, j < cv.length → w.frozen? ⟨b, o + j, none⟩ = false := by
    intro j hj
    simp only [World.frozen?, k1, Bool.and_eq_false_iff, decide_eq_false_iff_not]
    omega
  refine ⟨hc, hf, ?_⟩
  have := run_storeCells_cells (P := P) b o cv 0 w (by simpa using hc) (by simpa using hf) h1
  simpa using this
/-- Cells of an object are written. -/
theorem Rel.write {H : Hp} (R : Rel Pr w0 μ H.get nx w) {b : Nat} {l : List AV} {bi : BI} (hg : H.get b = some (.c .w l)) (hm : μ b = some bi) {o : Nat} {v : List AV} {cv : List Value}
    (hle : o + v.length ≤ l.length) (hv : VRL μ v cv) (h1 : v.all AV.one = true) :
    (∀ j, j < cv.length → (w.cell? ⟨bi.cb, bi.base + o + j, none⟩).isSome = true) ∧ (∀ j, j < cv.length → w.frozen? ⟨bi.cb, bi.base + o + j, none⟩ = false) ∧
    (storeCells ⟨bi.cb, bi.base + o, none⟩ cv).run P w = .ok () (w.setCells bi.cb (bi.base + o) cv) ∧ Rel Pr w0 μ (H.set b (.c .w (wrN l o v))).get nx (w.setCells bi.cb (bi.base + o) cv) := by
  obtain ⟨C, el, lo, hi, k1, k3, k4, k5, k6, k7, k8⟩ := R.row hg hm
  have hlen := hv.length
  obtain ⟨p1, p2, p3⟩ := run_cells (P := P) (o := bi.base + o) k1 k6 (by omega) (vrl_one hv h1)
  refine ⟨p1, p2, p3, ?_⟩
  obtain ⟨C', U, hC'⟩ := setCells_upd cv (bi.base + o) w C k1 (by omega)
  have hsz : C'.size = C.size := by
    rw [← Array.length_toList, hC', ← Array.length_toList]
    simp; omega
  refine R.updC hg hm k1 U hsz (fun i hi => ?_) ?_ ?_ (wrN_all k8 h1) (Hp.get_set _ _ _)
  · rw [hC', wr_get (by simp; omega), if_neg (by omega)]
  · rw [wrN_length hle, k3]
  · have : (C'.toList.drop bi.base).take bi.size = ((C.toList.drop bi.base).take bi.size).take o ++ cv ++ ((C.toList.drop bi.base).take bi.size).drop (o + v.length) := by
      apply List.ext_getElem?
      intro i
      rw [← hlen, wr_get (by simp; omega), hC']
      rw [List.getElem?_take, List.getElem?_drop, wr_get (by simp; omega), List.getElem?_take, List.getElem?_drop]
      by_cases c1 : i < bi.size
      · rw [if_pos c1, if_pos c1]
        by_cases c2 : o ≤ i ∧ i < o + cv.length
        · rw [if_pos (by omega), if_pos c2]; congr 1; omega
        · rw [if_neg (by omega), if_neg c2]
      · rw [if_neg c1, if_neg c1, if_neg (by omega)]
    rw [this]
    exact ((k7.take o).append hv).append (k7.drop _)
/-- What an effect leaves. -/
def NV (μ : Mu) (d : Option Nat) (v : AV) : Next → Prop
  | .value cv => VR μ v cv
  | .skip => d = none
  | _ => False
/-- What may not be written was there, and stays; nothing comes back; who goes through a map goes through one that was there, or is new. -/
structure RK (H H' : Hp) : Prop where
  ro : ∀ a l, H'.get a = some (.c .r l) → H.get a = some (.c .r l)
  le : H.nx ≤ H'.nx
  old : ∀ a, H'.get a ≠ none → H.get a ≠ none ∨ H.nx ≤ a
  it : ∀ a m n l cur, H'.get a = some (.it (some m) n l cur) → (∃ n l cur, H.get a = some (.it (some m) n l cur)) ∨ H.get m ≠ none ∨ H.nx ≤ m
  fz : ∀ a f l, f ≠ .w → H.get a = some (.c f l) → H'.get a = some (.c f l)
theorem RK.refl (H : Hp) : RK H H := ⟨fun _ _ h => h, Nat.le_refl _, fun _ h => .inl h, fun a m n l cur h => .inl ⟨n, l, cur, h⟩, fun _ _ _ _ h => h⟩
theorem RK.set {H : Hp} {b : Nat} {o o' : AO} (hb : H.get b = some o') (h : o.wr = true) (h' : o'.wr = true) (hi : ∀ m n l c, o = .it (some m) n l c → ∃ n l c, o' = .it (some m) n l c) : RK H (H.set b o) := by
  refine ⟨fun a l hl => ?_, Nat.le_refl _, fun a ha => ?_, fun a m n l cur ha => ?_, fun a f l hf ha => ?_⟩
  · rw [Hp.get_set] at hl; split at hl
    · cases hl; cases h
    · exact hl
  · rw [Hp.get_set] at ha; split at ha
    · rename_i c; subst c; exact .inl (by rw [hb]; simp)
    · exact .inl ha
  · rw [Hp.get_set] at ha; split at ha
    · rename_i c; subst c; cases ha
      obtain ⟨n', l', c', rfl⟩ := hi m n l cur rfl
      exact .inl ⟨_, _, _, hb⟩
    · exact .inl ⟨_, _, _, ha⟩
  · rw [Hp.get_set]; split
    · rename_i c; subst c; rw [hb] at ha; cases ha; cases f <;> first | exact absurd rfl hf | cases h'
    · exact ha
theorem RK.new {H : Hp} {o : AO} (hn : H.get H.nx = none) (h : o.wr = true) (hi : ∀ m n l c, o = .it (some m) n l c → H.get m ≠ none) : RK H (H.new o) := by
  refine ⟨fun a l hl => ?_, Nat.le_succ _, fun a ha => ?_, fun a m n l cur ha => ?_, fun a f l hf ha => ?_⟩
  · rw [Hp.get_new] at hl; split at hl
    · cases hl; cases h
    · exact hl
  · rw [Hp.get_new] at ha; split at ha
    · rename_i c; subst c; exact .inr (Nat.le_refl _)
    · exact .inl ha
  · rw [Hp.get_new] at ha; split at ha
    · cases ha; exact .inr (.inl (hi m n l cur rfl))
    · exact .inl ⟨_, _, _, ha⟩
  · rw [Hp.get_new]; split
    · rename_i c; subst c; rw [hn] at ha; cases ha
    · exact ha
theorem RK.kill {H : Hp} {b : Nat} {o' : AO} (hb : H.get b = some o') (h' : o'.wr = true) : RK H (H.kill b) := by
  refine ⟨fun a l hl => ?_, Nat.le_refl _, fun a ha => ?_, fun a m n l cur ha => ?_, fun a f l hf ha => ?_⟩
  · rw [Hp.get_kill] at hl; split at hl
    · cases hl
    · exact hl
  · rw [Hp.get_kill] at ha; split at ha
    · exact absurd rfl ha
    · exact .inl ha
  · rw [Hp.get_kill] at ha; split at ha
    · cases ha
    · exact .inl ⟨_, _, _, ha⟩
  · rw [Hp.get_kill]; split
    · rename_i c; subst c; rw [hb] at ha; cases ha; cases f <;> first | exact absurd rfl hf | cases h'
    · exact ha
theorem RK.trans {H H' H'' : Hp} (h : RK H H') (h' : RK H' H'') : RK H H'' := by
  have old : ∀ a, H'.get a ≠ none ∨ H'.nx ≤ a → H.get a ≠ none ∨ H.nx ≤ a := fun a ha => by
    rcases ha with ha | ha
    · exact h.old a ha
    · exact .inr (Nat.le_trans h.le ha)
  refine ⟨fun a l hl => h.ro a l (h'.ro a l hl), Nat.le_trans h.le h'.le, fun a ha => old a (h'.old a ha), fun a m n l cur ha => ?_, fun a f l hf ha => h'.fz a f l hf (h.fz a f l hf ha)⟩
  rcases h'.it a m n l cur ha with ⟨n', l', c', hb⟩ | hb
  · exact h.it a m n' l' c' hb
  · exact .inr (old m hb)
theorem get_nx {Pr : Nat → Prop} {w0 w : World} {μ : Mu} {H : Hp} (R : Rel Pr w0 μ H.get H.nx w) : H.get H.nx = none := by
  cases h : H.get H.nx with
  | none => rfl
  | some o => exact absurd (R.lt h) (Nat.lt_irrefl _)
def EOk (P : Program) (Pr : Nat → Prop) (w0 : World) (μ : Mu) (w : World) (a : Act) (o : Oper) (v : AV) (H H' : Hp) : Prop :=
  ∃ nxt w' μ', (execOp a.eval o).run P w = .ok nxt w' ∧ NV μ' o.dst v nxt ∧ Eu H.nx μ μ' ∧ Rel Pr w0 μ' H'.get H'.nx w'
/-- What an append brings. -/
theorem src_ok (P : Program) {H : Hp} (R : Rel Pr w0 μ H.get nx w) {size : Nat} 
    {y : AV} {cy : Value} (hy : VR μ y cy) {v : List AV} {n : Nat} (hs : apSrc H size y = some (v, n)) :
    ∃ cv, VRL μ v cv ∧ v.length = n * size ∧ (∀ {tx : TypeId} {td : TypeDesc}, P.underlying tx = some td → ((∃ e', td = .slice e') ∨ td = .string) → (∀ u ∈ cv, u.oneCell' = true) → ∀ w' : World, w'.heap = w.heap → Src P size tx cy n cv w') ∧
      (∀ w' : World, (Builtin.lenOf cy).run P w' = .ok n w') ∧ (∀ m w', m ≤ n → w'.heap = w.heap → (Builtin.firstCells size m cy).run P w' = .ok (cv.take (m * size)).toArray w') := by
  unfold apSrc at hs
  split at hs
  · cases hs
    rw [vr_ns hy]
    refine ⟨[], .nil, by simp, fun htx hk _ w' _ => ?_, fun w' => rfl, fun m w' hm _ => ?_⟩
    · rcases hk with ⟨e', rfl⟩ | rfl
      · exact Src.ofNil w' htx 0
      · exact ⟨.inr htx, fun _ => rfl, run_firstCells_none w' size 0 0 0, run_firstCells_none w'.drew size 0 0 0, by simp, fun _ h => by cases h⟩
    · simpa using run_firstCells_none w' size m 0 0
  · rename_i l
    split at hs
    · rename_i hz
      cases hs
      subst hz
      obtain ⟨yb, hyv, hyl⟩ := vr_s hy
      have hlen : l.length = yb.size := by rw [← hyl]; rfl
      have hvl : ∀ (m : List UInt8), VRL μ (m.map fun c => AV.i .u8 c.toNat) (m.map fun b => Value.int .u8 b.toNat) := by
        intro m
        induction m with
        | nil => exact .nil
        | cons x m ih => exact .cons (.i _ _) ih
      rw [hyv, hlen]
      refine ⟨byteCells yb, ?_, by simp [hlen], fun htx hk _ w' _ => ?_, fun w' => rfl, fun m w' hm _ => ?_⟩
      · unfold byteCells; rw [hyl]; exact hvl l
      · rcases hk with ⟨e', rfl⟩ | rfl
        · exact ⟨.inl ⟨e', htx⟩, fun _ => rfl, firstCells_string yb w', firstCells_string yb w'.drew, by rw [byteCells_length, Nat.mul_one], fun u hu => by
            obtain ⟨_, _, rfl⟩ := List.mem_map.1 hu
            rfl⟩
        · exact Src.ofString w' htx yb
      · simp [Builtin.firstCells, byteCells]
        apply Array.ext'
        simp [List.map_take]
    · cases hs
  · rename_i b z' o n' c
    split at hs
    · rename_i hz
      subst hz
      split at hs
      · rename_i l hl
        obtain ⟨vs, hvs, he⟩ := Option.map_eq_some_iff.1 hs
        cases he
        obtain ⟨wr, hg⟩ := hp_cells hl
        obtain ⟨ad, c', hcv, hsl⟩ := vr_sl hy
        obtain ⟨bi, k1, k2, k3, k4, k5, k6, k7, k8⟩ := hsl
        obtain ⟨cvs, g1, g2, g3⟩ := R.cells hg k1 hvs
        have hvlen : v.length = n * z' := by rw [← g1.length, g2]
        rw [hcv]
        have hcell : ∀ w' : World, w'.heap = w.heap → ∀ j u, cvs[j]? = some u → w'.cell? (ad.add j) = some u := by
          intro w' hw' j u hj
          have hn : 0 < c' := by
            rcases Nat.eq_zero_or_pos n with h0 | h0
            · subst h0
              have : cvs = [] := List.eq_nil_of_length_eq_zero (by simpa using g2)
              subst this; simp at hj
            · omega
          rw [k8 hn]
          have := g3 j u hj
          unfold World.cell? at this ⊢
          rw [hw']; exact this
        refine ⟨cvs, g1, hvlen, fun htx hk h1 w' hw' => ?_, fun w' => rfl, fun m w' hm hw' => ?_⟩
        · rcases hk with ⟨e', rfl⟩ | rfl
          · exact Src.ofSlice w' htx ad n c' cvs g2 (hcell w' hw') h1
          · exact ⟨.inr htx, fun _ => rfl, run_firstCells_some w' z' n ad n c' cvs g2 (hcell w' hw'), run_firstCells_some w'.drew z' n ad n c' cvs g2 (hcell w'.drew hw'), g2, h1⟩
        · refine run_firstCells_some w' z' m ad n c' _ ?_ fun j u hj => hcell w' hw' j u ?_
          · rw [List.length_take, g2, Nat.min_eq_left (Nat.mul_le_mul_right _ hm)]
          · rw [List.getElem?_take] at hj
            split at hj
            · exact hj
            · cases hj
      · cases hs
    · cases hs
  · cases hs
end
end Go.AM
/- Appends. -/
set_option linter.unusedVariables false
set_option linter.unusedSimpArgs false
namespace Go.AM
open Go
section
variable {P : Program} {Pr : Nat → Prop} {w0 w w' : World} {μ : Mu} {h : Nat → Option AO} {nx : Nat} {N : Nat} {e : Env} {a : Act}
/-- An append's run, whatever is appended: cells cv, of n elements. -/
structure ApRun (P : Program) (t tx ty elem : TypeId) (i : TypeInfo) (zv cy : Value) (n : Nat) (cv : List Value) (w : World) : Prop where
  no : n = 0 → cv = [] → ∀ (base : Option Addr) (sLen sCap : Nat), sLen ≤ sCap → (Builtin.append_ #[t, tx] ty #[.slice base sLen sCap, cy]).run P w = .ok (.slice base sLen sCap) w
  room : ∀ (b off sLen sCap : Nat), sLen + n ≤ sCap → (∀ j, j < cv.length → (w.cell? ⟨b, off + sLen * i.size + j, none⟩).isSome = true) → (∀ j, j < cv.length → w.frozen? ⟨b, off + sLen * i.size + j, none⟩ = false) →
    (Builtin.append_ #[t, tx] ty #[.slice (some ⟨b, off, none⟩) sLen sCap, cy]).run P w = .ok (.slice (some ⟨b, off, none⟩) (sLen + n) sCap) (w.setCells b (off + sLen * i.size) cv)
  grow : ∀ (base : Option Addr) (sLen sCap : Nat) (olds : List Value), (Builtin.firstCells i.size sLen (.slice base sLen sCap)).run P w.drew = .ok olds.toArray w.drew → sLen ≤ sCap →
    sCap < sLen + n → ((sLen + n : Nat) : Int) ≤ 9223372036854775807 → Builtin.nextslicecap (sLen + n) sCap * i.bytes ≤ 281474976710656 →
    (Builtin.append_ #[t, tx] ty #[.slice base sLen sCap, cy]).run P w =
      .ok (.slice (some ⟨w.heap.size, 0, none⟩) (sLen + n) (grownCap w (sLen + n) sCap elem))
        (w.drew.alloc (.cells ((olds ++ cv).toArray ++ Builtin.zeroCells zv.cells (grownCap w (sLen + n) sCap elem - (sLen + n))) elem))
theorem ApRun.ofSrc {t tx ty elem : TypeId} {i : TypeInfo} {zv cy : Value} {n : Nat} {cv : List Value} (ht : P.underlying t = some (.slice elem)) (hi : P.info? elem = some i) (hz : i.zero = some zv)
    (hs : Src P i.size tx cy n cv w) : ApRun P t tx ty elem i zv cy n cv w where
  no h0 h1 base sLen sCap hle := by
    subst h0; subst h1
    exact run_append_nothing w t tx ty elem i ht hi base sLen sCap hle cy hs
  room b off sLen sCap hr hc hf := run_append_room_src w t tx ty elem i ht hi b off sLen sCap cy n cv hs hr hc hf
  grow base sLen sCap olds ho _ hg h63 hfit := run_append_grow_src w t tx ty elem i zv ht hi hz base sLen sCap olds ho cy n cv hs hg h63 hfit
theorem ApRun.ofZeros {t tx ty elem : TypeId} {k : IntKind} {i : TypeInfo} {zv : Value} {n : Nat} (ht : P.underlying t = some (.slice elem)) (htx : P.underlying tx = some (.int k)) (hi : P.info? elem = some i) (hz : i.zero = some zv)
    (hzc : zv.cells.size = i.size) (hz0 : 0 < i.size) (hn : n ≤ 1000000000000) (hb : n * i.bytes ≤ 1000000000000) (h1 : ∀ u ∈ zv.cells.toList, u.oneCell' = true) :
    ApRun P t tx ty elem i zv (.int .i64 n) n (Builtin.zeroCells zv.cells n).toList w := by
  have hw : IntKind.i64.wrap (n : Int) = n := by rw [← wr_eq]; unfold wr; rw [if_pos (by omega)]
  have hneg : ¬ ((n : Int) < 0) := by omega
  have hbig : ¬ ((n : Int) * (i.bytes : Int) > 2 ^ 48) := by
    have : (2 : Int) ^ 48 = 281474976710656 := by decide
    omega
  have hone : ∀ u ∈ (Builtin.zeroCells zv.cells n).toList, u.oneCell' = true := by
    intro u hu
    simp only [Builtin.zeroCells, Array.toList_map, List.mem_map] at hu
    obtain ⟨j, hj, rfl⟩ := hu
    have : j % zv.cells.size < zv.cells.size := Nat.mod_lt _ (by omega)
    rw [getElem!_pos zv.cells _ this]
    exact h1 _ (by simp)
  have hbig' : ¬ (281474976710656 < (n : Int) * (i.bytes : Int)) := by omega
  have hz00 : i.size ≠ 0 := by omega
  constructor
  · intro h0 _ base sLen sCap hle
    subst h0
    cases base <;> simp [Builtin.append_, r_und ht, r_und htx, sizeOf, typeInfo, hi, asInt, asIntOf, hw, hle, storeCells, show IntKind.i64.wrap 0 = 0 from hw]
  · intro b off sLen sCap hr hc hf
    have hst := run_storeCells_cells (P := P) b (off + sLen * i.size) (Builtin.zeroCells zv.cells n).toList 0 w (by simpa using hc) (by simpa using hf) hone
    simp only [Nat.add_zero] at hst
    by_cases h0 : n = 0
    · subst h0
      simp [Builtin.append_, r_und ht, r_und htx, sizeOf, typeInfo, hi, asInt, asIntOf, hw, show sLen ≤ sCap from hr, storeCells, show IntKind.i64.wrap 0 = 0 from hw, Builtin.zeroCells, World.setCells]
    · have hnz : n * i.size ≠ 0 := Nat.mul_ne_zero h0 hz00
      simp [Builtin.append_, r_und ht, r_und htx, sizeOf, typeInfo, hi, asInt, asIntOf, hw, hneg, hbig', hr, hnz, zeroValue, hz, Addr.add_lit, hst]
  · intro base sLen sCap olds ho hle hg h63 hfit
    have hn : ¬ (sLen + n ≤ sCap) := by omega
    have h63' : ¬ (9223372036854775807 < ((sLen : Int) + (n : Int))) := by omega
    have h48' : ¬ (281474976710656 < Builtin.nextslicecap (sLen + n) sCap * i.bytes) := by omega
    have h0 : n ≠ 0 ∨ n = 0 := by omega
    rcases h0 with h0 | h0
    · have hnz : n * i.size ≠ 0 := Nat.mul_ne_zero h0 hz00
      simp [Builtin.append_, r_und ht, r_und htx, sizeOf, typeInfo, zeroValue, hi, hz, asInt, asIntOf, hw, hneg, hbig', hn, h63', h48', hnz, Question.forced, ho, newRow, grownCap]
      congr 2
      apply Array.ext'
      simp
    · omega
theorem ApRun.ofZeros0 {t tx ty elem : TypeId} {k : IntKind} {i : TypeInfo} {zv : Value} (ht : P.underlying t = some (.slice elem)) (htx : P.underlying tx = some (.int k)) (hi : P.info? elem = some i) (hz : i.zero = some zv)
    (hzc : zv.cells.size = i.size) (hz0 : 0 < i.size) :
    ApRun P t tx ty elem i zv (.int .i64 (0 : Nat)) 0 (Builtin.zeroCells zv.cells 0).toList w := by
  have hw : IntKind.i64.wrap (0 : Int) = 0 := by rw [← wr_eq]; unfold wr; rw [if_pos (by omega)]
  constructor
  · intro h0 _ base sLen sCap hle
    cases base <;> simp [Builtin.append_, r_und ht, r_und htx, sizeOf, typeInfo, hi, asInt, asIntOf, hw, hle, storeCells]
  · intro b off sLen sCap hr hc hf
    simp [Builtin.append_, r_und ht, r_und htx, sizeOf, typeInfo, hi, asInt, asIntOf, hw, show sLen ≤ sCap from hr, storeCells, Builtin.zeroCells, World.setCells]
  · intro base sLen sCap olds ho hle hg h63 hfit
    omega
theorem ap_ok {H : Hp} (R : Rel Pr w0 μ H.get H.nx w) {t tx ty elem : TypeId} {i : TypeInfo} {zv : Value} {z bytes : Nat} (ht : P.underlying t = some (.slice elem)) (hi : P.info? elem = some i) (hsz : i.size = z) (hby : i.bytes = bytes)
    (hz : i.zero = some zv) (hzc : zv.cells.size = z) {x : AV} {cx cy : Value} (hx : VR μ x cx) {v : List AV} {n : Nat} {cv : List Value} (hv : VRL μ v cv) (hvl : v.length = n * z)
    (hs : v.all AV.one = true → ApRun P t tx ty elem i zv cy n cv w) {r : AV} {H' : Hp} (hr : apRun H z bytes x v n = some (r, H')) :
    RK H H' ∧ ∃ cr w' μ', (Builtin.append_ #[t, tx] ty #[cx, cy]).run P w = .ok cr w' ∧ VR μ' r cr ∧ Eu H.nx μ μ' ∧ Rel Pr w0 μ' H'.get H'.nx w' := by
  subst hsz; subst hby
  unfold apRun at hr
  split at hr
  case isFalse => cases hr
  rename_i hcond
  obtain ⟨hz0, hone⟩ := hcond
  have hcl := hv.length
  have hμ : μ H.nx = none := R.new _ (Nat.le_refl _)
  have hsrc := hs hone
  have hzl : ∀ m, (Builtin.zeroCells zv.cells m).size = m * i.size := fun m => by simp [Builtin.zeroCells, hzc]
  split at hr
  · rw [vr_ns hx]
    split at hr
    · rename_i hn
      subst hn
      cases hr
      have hcv : cv = [] := List.eq_nil_of_length_eq_zero (by omega)
      subst hcv
      exact ⟨RK.refl _, _, w, μ, hsrc.no rfl rfl none 0 0 (Nat.le_refl _), .ns, Eu.refl _ _, R⟩
    · rename_i hn
      split at hr
      · rename_i hb
        cases hr
        have hns := nextslicecap_le (need := 0 + n) (old := 0) (by omega)
        have hmul : Builtin.nextslicecap (0 + n) 0 * i.bytes ≤ 2 * (0 + n) * i.bytes := Nat.mul_le_mul_right _ hns
        rw [Nat.mul_assoc, Nat.zero_add] at hmul
        have hge := grownCap_ge w (0 + n) 0 elem
        refine ⟨RK.new (get_nx R) rfl nofun, _, _, μ.put H.nx ⟨w.heap.size, 0, v.length, (([] ++ cv).toArray ++ Builtin.zeroCells zv.cells (grownCap w (0 + n) 0 elem - (0 + n))).size⟩, hsrc.grow none 0 0 [] (by simpa using run_firstCells_none w.drew i.size 0 0 0) (Nat.le_refl _) (by omega) (by omega) (by rw [Nat.zero_add]; omega), ?_, Eu.put hμ (Nat.le_refl _), ?_⟩
        · rw [Nat.zero_add] at hge ⊢
          refine .sl ⟨_, Mu.put_at _ _ _, Nat.le_refl _, hz0, by simp only [hvl]; omega, by omega, ?_, fun hlt => by simp only [hvl] at hlt; omega, fun _ => rfl⟩
          simp only [Array.size_append, List.size_toArray, List.nil_append, hzl, hcl, hvl, Nat.zero_add]
          rw [← Nat.add_mul]
          exact Nat.mul_le_mul_right _ (by omega)
        · refine R.newC (el := elem) (lo := 0) (hi := 0) (C := (([] ++ cv).toArray ++ Builtin.zeroCells zv.cells (grownCap w (0 + n) 0 elem - (0 + n)))) hμ ?_ ?_ hone (.inl rfl) ?_ ?_ ?_ ?_ (Nat.le_succ _) (Nat.lt_succ_self _) (Hp.get_new _ _)
          · simp only [Array.toList_append, List.nil_append]
            rw [List.take_append_of_le_length (by simp [hcl]), List.take_of_length_le (by simp [hcl])]
            exact hv
          · simp [hcl]
          all_goals rfl
      · cases hr
  · rename_i b z' o k c
    split at hr
    case isFalse => cases hr
    rename_i hzz
    subst hzz
    split at hr
    case h_2 => cases hr
    rename_i l hg
    obtain ⟨ad, c', hcv, hsl⟩ := vr_sl hx
    obtain ⟨bi, k1, k2, k3, k4, k5, k6, k7, k8⟩ := hsl
    rw [hcv]
    obtain ⟨C, el, lo, hi', r1, r2, r3, r4, r5, r6, r7⟩ := R.row hg k1
    split at hr
    · rename_i hkc
      split at hr
      case isFalse => cases hr
      rename_i hfit
      cases hr
      refine ⟨RK.set hg rfl rfl nofun, ?_⟩
      have hres : VR μ (.sl b i.size o (k + n) c) (.slice (some ad) (k + n) c') := .sl ⟨bi, k1, hkc, k3, k4, k5, k6, k7, k8⟩
      rcases Nat.eq_zero_or_pos c' with h0 | h0
      · have hn : n = 0 := by omega
        subst hn
        have hcv : cv = [] := List.eq_nil_of_length_eq_zero (by omega)
        subst hcv
        have hvv : v = [] := List.eq_nil_of_length_eq_zero (by omega)
        subst hvv
        refine ⟨_, w, μ, hsrc.no rfl rfl (some ad) k c' (by omega), hres, Eu.refl _ _, ?_⟩
        refine R.sub fun x y hy => ?_
        rw [Hp.get_set] at hy
        split at hy
        · rename_i hxb; subst hxb; cases hy; rw [hg]; simp [wrN]
        · exact hy
      · have hvle : o + k * i.size + v.length ≤ l.length := by rw [hvl]; rw [Nat.add_mul] at hfit; omega
        obtain ⟨p1, p2, p3, p4⟩ := R.write (P := P) hg k1 hvle hv hone
        have had := k8 h0
        rw [had] at hres ⊢
        have e1 : bi.base + o + k * i.size = bi.base + (o + k * i.size) := by omega
        exact ⟨_, _, μ, hsrc.room bi.cb (bi.base + o) k c' (by omega) (by rw [e1]; exact p1) (by rw [e1]; exact p2), hres, Eu.refl _ _, by rw [e1]; exact p4⟩
    · rename_i hkc
      split at hr
      case isFalse => cases hr
      rename_i hfit
      obtain ⟨f1, f2, f3⟩ := hfit
      cases hr
      refine ⟨(RK.kill hg rfl).trans (RK.new (by rw [Hp.get_kill]; split; rfl; exact get_nx R) rfl nofun), ?_⟩
      have hkz : k * i.size ≤ c * i.size := Nat.mul_le_mul_right _ k2
      have hll : ((l.drop o).take (k * i.size) ++ v).length = (k + n) * i.size := by
        simp only [List.length_append, List.length_take, List.length_drop, hvl, Nat.add_mul]; omega
      have hnew : ∀ (ob : AO) (b' : Nat), ((H.kill b).new ob).get b' = if b' = H.nx then some ob else if b' = b then none else H.get b' := fun ob b' => by
        rw [Hp.get_new, Hp.get_kill]; rfl
      by_cases hkc' : k + n ≤ c'
      · have h0 : 0 < c' := by omega
        have had := k8 h0
        have hoc : bi.size ≤ o + c * i.size := by
          rcases Nat.lt_or_ge (o + c * i.size) bi.size with hh | hh
          · have := k7 hh; omega
          · exact hh
        have hcc' : (k + n) * i.size ≤ c' * i.size := Nat.mul_le_mul_right _ hkc'
        have hkn : (k + n) * i.size = k * i.size + n * i.size := Nat.add_mul _ _ _
        have hcvl : cv.length = n * i.size := by rw [hcl, hvl]
        obtain ⟨p1, p2, p3⟩ := run_cells (P := P) (w := w) (o := bi.base + o + k * i.size) (cv := cv) r1 r5 (by omega) (vrl_one hv hone)
        obtain ⟨C', U, hC'⟩ := setCells_upd cv (bi.base + o + k * i.size) w C r1 (by omega)
        have hCs : C'.size = C.size := by
          rw [← Array.length_toList, hC', ← Array.length_toList]
          simp; omega
        rw [had]
        refine ⟨_, _, μ.put H.nx ⟨bi.cb, bi.base + o, (k + n) * i.size, c' * i.size⟩, hsrc.room bi.cb (bi.base + o) k c' hkc' p1 p2, ?_, Eu.put hμ (Nat.le_refl _), ?_⟩
        · exact .sl ⟨_, Mu.put_at _ _ _, Nat.le_refl _, hz0, (show 0 + (k + n) * i.size ≤ (k + n) * i.size by omega), hkc', (show 0 + c' * i.size ≤ c' * i.size by omega), fun hlt => absurd hlt (by show ¬ (0 + (k + n) * i.size < (k + n) * i.size); omega), fun _ => rfl⟩
        · refine R.reseat (bi' := ⟨bi.cb, bi.base + o, (k + n) * i.size, c' * i.size⟩) hg k1 r1 U hCs (fun j hj => ?_) hμ (Nat.le_succ _) (Nat.lt_succ_self _) rfl (by show bi.base ≤ bi.base + o; omega) (by show bi.base + o + c' * i.size ≤ _; omega) hll hcc' ?_ (by simp only [List.all_append, all_take _ (all_drop _ r7), hone, Bool.and_self]) (fun _ => rfl) (hnew _)
          · rw [hC', wr_get (by simp; omega), if_neg (by omega)]
          · have : (C'.toList.drop (bi.base + o)).take ((k + n) * i.size) = ((((C.toList.drop bi.base).take bi.size).drop o).take (k * i.size)) ++ cv := by
              apply List.ext_getElem?
              intro j
              rw [List.getElem?_take, List.getElem?_drop, hC', wr_get (by simp; omega), List.getElem?_append]
              simp only [List.length_take, List.length_drop, Array.length_toList, List.getElem?_take, List.getElem?_drop]
              have hmin : min (k * i.size) (min bi.size (C.size - bi.base) - o) = k * i.size := by omega
              rw [hmin]
              by_cases c1 : j < k * i.size
              · rw [if_pos (by omega), if_neg (by omega), if_pos c1, if_pos c1, if_pos (by omega)]
                congr 1; omega
              · by_cases c2 : j < (k + n) * i.size
                · rw [if_pos c2, if_pos (by omega), if_neg c1]
                  congr 1; omega
                · rw [if_neg c2, if_neg c1, List.getElem?_eq_none (by omega)]
            show VRL μ _ ((C'.toList.drop (bi.base + o)).take ((k + n) * i.size))
            rw [this]
            exact ((r6.drop o).take _).append hv
      · have hrd : rdN l o (k * i.size) = some ((l.drop o).take (k * i.size)) := by unfold rdN; rw [if_pos f1]
        obtain ⟨olds, g1, g2, g3⟩ := R.cells hg k1 hrd
        have hold : (Builtin.firstCells i.size k (.slice (some ad) k c')).run P w.drew = .ok olds.toArray w.drew := by
          refine run_firstCells_some w.drew i.size k ad k c' olds g2 fun j u hj => ?_
          rcases Nat.eq_zero_or_pos k with h0 | h0
          · subst h0
            have : olds = [] := List.eq_nil_of_length_eq_zero (by simpa using g2)
            subst this; simp at hj
          · rw [k8 (by omega)]; exact g3 j u hj
        have hns := nextslicecap_le (need := k + n) (old := c') (by omega)
        have hmul : Builtin.nextslicecap (k + n) c' * i.bytes ≤ 2 * (k + n) * i.bytes := Nat.mul_le_mul_right _ hns
        rw [Nat.mul_assoc] at hmul
        have hge := grownCap_ge w (k + n) c' elem
        have hall := g1.append hv
        have hal := hall.length
        rw [hll] at hal
        have R1 : Rel Pr w0 μ (H.kill b).get (H.kill b).nx w := R.sub fun x y hy => by
          rw [Hp.get_kill] at hy
          split at hy
          · cases hy
          · exact hy
        refine ⟨_, _, μ.put H.nx ⟨w.heap.size, 0, ((l.drop o).take (k * i.size) ++ v).length, ((olds ++ cv).toArray ++ Builtin.zeroCells zv.cells (grownCap w (k + n) c' elem - (k + n))).size⟩, hsrc.grow (some ad) k c' olds hold (by omega) (by omega) (by omega) (by omega), ?_, Eu.put hμ (Nat.le_refl _), ?_⟩
        · refine .sl ⟨_, Mu.put_at _ _ _, Nat.le_refl _, hz0, by simp only [hll]; omega, hge, ?_, fun hlt => by simp only [hll] at hlt; omega, fun _ => rfl⟩
          simp only [Array.size_append, List.size_toArray, hzl, hal, Nat.zero_add]
          rw [← Nat.add_mul]
          exact Nat.mul_le_mul_right _ (by omega)
        · refine R1.newC (el := elem) (lo := 0) (hi := 0) (C := ((olds ++ cv).toArray ++ Builtin.zeroCells zv.cells (grownCap w (k + n) c' elem - (k + n)))) hμ ?_ ?_ (by simp only [List.all_append, all_take _ (all_drop _ r7), hone, Bool.and_self]) (.inl rfl) ?_ ?_ ?_ ?_ (Nat.le_succ _) (Nat.lt_succ_self _) (Hp.get_new _ _)
          · rw [hll]
            simp only [Array.toList_append]
            rw [List.take_append_of_le_length (l₁ := olds ++ cv) (by rw [hal]; exact Nat.le_refl _), List.take_of_length_le (l := olds ++ cv) (by rw [hal]; exact Nat.le_refl _)]
            exact hall
          · rw [hll, Array.size_append, List.size_toArray, hal]; exact Nat.le_add_right _ _
          all_goals rfl
  · cases hr
end
end Go.AM
/- Maps that are written. -/
set_option linter.unusedVariables false
set_option linter.unusedSimpArgs false
namespace Go.AM
open Go
mutual
theorem veq_eq : ∀ (x y : AV), veq x y = true → x = y
  | .i _ _, y, h => by cases y <;> simp_all [veq]
  | .b _, y, h => by cases y <;> simp_all [veq]
  | .s _, y, h => by cases y <;> simp_all [veq]
  | .np, y, h => by cases y <;> simp_all [veq]
  | .ns, y, h => by cases y <;> simp_all [veq]
  | .nm, y, h => by cases y <;> simp_all [veq]
  | .nf, y, h => by cases y <;> simp_all [veq]
  | .p _ _, y, h => by cases y <;> simp_all [veq]
  | .sl _ _ _ _ _, y, h => by cases y <;> simp_all [veq]
  | .m _, y, h => by cases y <;> simp_all [veq]
  | .fn f a b, y, h => by
    cases y <;> simp only [veq, Bool.false_eq_true] at h
    simp only [Bool.and_eq_true, beq_iff_eq] at h
    rw [h.1.1, veqs_eq a _ h.1.2, veqs_eq b _ h.2]
  | .ag l, y, h => by
    cases y <;> simp only [veq, Bool.false_eq_true] at h
    rw [veqs_eq l _ h]
  | .tp l, y, h => by
    cases y <;> simp only [veq, Bool.false_eq_true] at h
    rw [veqs_eq l _ h]
theorem veqs_eq : ∀ (x y : List AV), veqs x y = true → x = y
  | [], y, h => by cases y <;> simp_all [veqs]
  | x :: l, y, h => by
    cases y <;> simp only [veqs, Bool.false_eq_true] at h
    simp only [Bool.and_eq_true] at h
    rw [veq_eq x _ h.1, veqs_eq l _ h.2]
end
namespace ERL
variable {μ : Mu}
theorem get : ∀ {l : List (AV × AV)} {l' : List MapEntry}, ERL μ l l' → ∀ (i : Nat) {k v : AV}, l[i]? = some (k, v) → ∃ en, l'[i]? = some en ∧ VR μ k en.key ∧ VR μ v en.val
  | _, _, .nil, i, k, v, h => by simp at h
  | _, _, .cons hk hv r, 0, k, v, h => by simp at h; obtain ⟨rfl, rfl⟩ := h; exact ⟨_, rfl, hk, hv⟩
  | _, _, .cons hk hv r, i + 1, k, v, h => by
    simp only [List.getElem?_cons_succ] at h ⊢
    exact get r i h
theorem erase : ∀ {l : List (AV × AV)} {l' : List MapEntry}, ERL μ l l' → ∀ (i : Nat), ERL μ (l.eraseIdx i) (l'.eraseIdx i)
  | _, _, .nil, i => by simp; exact .nil
  | _, _, .cons hk hv r, 0 => by simpa using r
  | _, _, .cons hk hv r, i + 1 => by simp only [List.eraseIdx_cons_succ]; exact .cons hk hv (erase r i)
theorem push : ∀ {l : List (AV × AV)} {l' : List MapEntry}, ERL μ l l' → ∀ {k v : AV} {en : MapEntry}, VR μ k en.key → VR μ v en.val → ERL μ (l ++ [(k, v)]) (l' ++ [en])
  | _, _, .nil, _, _, _, h1, h2 => .cons h1 h2 .nil
  | _, _, .cons hk hv r, _, _, _, h1, h2 => .cons hk hv (push r h1 h2)
theorem set : ∀ {l : List (AV × AV)} {l' : List MapEntry}, ERL μ l l' → ∀ (i : Nat) {k v : AV} {f : MapEntry → MapEntry}, (∀ en, l'[i]? = some en → VR μ k (f en).key ∧ VR μ v (f en).val) → ERL μ (l.set i (k, v)) (l'.modify i f)
  | _, _, .nil, i, k, v, f, h => by simp; exact .nil
  | _, _, .cons hk hv r, 0, k, v, f, h => by
    obtain ⟨h1, h2⟩ := h _ rfl
    simp only [List.set_cons_zero, List.modify_zero_cons]
    exact .cons h1 h2 r
  | _, _, .cons hk hv r, i + 1, k, v, f, h => by
    simp only [List.set_cons_succ, List.modify_succ_cons]
    exact .cons hk hv (set r i fun en he => h en (by simpa using he))
end ERL
theorem Borns.modify {es : List MapEntry} {clk i : Nat} {f : MapEntry → MapEntry} (hf : ∀ e, (f e).born = e.born) (h : Borns es clk) : Borns (es.modify i f) clk := by
  have hm : (es.modify i f).map (·.born) = es.map (·.born) := by
    apply List.ext_getElem?
    intro j
    simp only [List.getElem?_map, List.getElem?_modify]
    cases es[j]? with
    | none => rfl
    | some e => by_cases c : i = j <;> simp [c, hf]
  constructor
  · intro e he
    have : e.born ∈ (es.modify i f).map (·.born) := List.mem_map_of_mem he
    rw [hm] at this
    obtain ⟨e', h1, h2⟩ := List.mem_map.1 this
    rw [← h2]; exact h.1 e' h1
  · have h2 : (es.map (·.born)).Pairwise (· ≠ ·) := List.pairwise_map.2 h.2
    rw [← hm] at h2
    exact List.pairwise_map.1 h2
theorem Borns.push {es : List MapEntry} {clk : Nat} {e : MapEntry} (he : e.born = clk) (h : Borns es clk) : Borns (es ++ [e]) (clk + 1) := by
  constructor
  · intro x hx
    rcases List.mem_append.1 hx with hx | hx
    · have := h.1 x hx; omega
    · simp at hx; subst hx; omega
  · rw [List.pairwise_append]
    refine ⟨h.2, List.pairwise_singleton _ _, fun x hx y hy => ?_⟩
    simp at hy; subst hy
    have := h.1 x hx
    omega
theorem Borns.erase {es : List MapEntry} {clk i : Nat} (h : Borns es clk) : Borns (es.eraseIdx i) clk :=
  ⟨fun e he => h.1 e (List.mem_of_mem_eraseIdx he), h.2.sublist (List.eraseIdx_sublist _ _)⟩
section
variable {P : Program} {Pr : Nat → Prop} {w0 w w' : World} {μ : Mu} {h : Nat → Option AO} {nx : Nat} {N : Nat} {e : Env} {a : Act}
theorem setObj_upd {r : Nat} {o o' : Obj} (hr : w.heap[r]? = some o) (hc : (match o with | .cells _ _ _ => true | _ => false) = false) :
    ∃ w', (setObj r o').run P w = .ok () w' ∧ Upd w w' r o' := by
  refine ⟨{ w with heap := w.heap.setIfInBounds r o' }, ?_, ?_⟩
  · simp only [setObj, Sem.run, hr]
    cases o <;> first | rfl | cases hc
  · obtain ⟨hlt, _⟩ := Array.getElem?_eq_some_iff.1 hr
    exact ⟨by simp [hlt], fun b hb => by simp [Array.getElem?_setIfInBounds, Ne.symm hb], rfl, rfl, rfl⟩
/-- Two draws: the world's heap stays. -/
theorem keyStays {old new : Value} : ∃ k w', (Instr.keyThatStays old new).run P w = .ok k w' ∧ (k = old ∨ k = new) ∧ w'.heap = w.heap ∧ w'.os = w.os ∧ w'.tape = w.tape ∧ w'.output = w.output := by
  unfold Instr.keyThatStays
  split
  · exact ⟨new, w, rfl, .inr rfl, rfl, rfl, rfl, rfl⟩
  · simp only [Sem.run_bind, run_choose, Question.forced]
    simp only [show (decide (2 = 1)) = false from rfl, Bool.false_eq_true, if_false, Result.andThen_ok]
    refine ⟨_, _, rfl, ?_, rfl, rfl, rfl, rfl⟩
    split
    · exact .inr rfl
    · exact .inl rfl
/-- A map is turned. -/
theorem Rel.mapSet {H : Hp} (R : Rel Pr w0 μ H.get nx w) {r n : Nat} {l l' : List (AV × AV)} {bi : BI} (hg : H.get r = some (.mp n l)) (hm : μ r = some bi) {E : Array MapEntry} {clk : Nat} (U : Upd w w' bi.cb (.map E clk))
    (hE : ERL μ l' E.toList) (hB : Borns E.toList clk) : Rel Pr w0 μ (H.set r (.mp (H.ver r + 1) l')).get nx w' := by
  have hver : H.ver r = n := by unfold Hp.ver; rw [hg]
  refine R.updO hg rfl rfl hm U (fun n' l'' he => ?_) (Hp.get_set _ _ _) ⟨E, clk, U.at_, hE, hB⟩
  cases he
  exact ⟨n, l, rfl, by omega⟩
theorem run_mapUpdate {H : Hp} (R : Rel Pr w0 μ H.get nx w) {t kt et' : TypeId} {et : ET} (hu : P.underlying t = some (.map kt et')) (hko : keyOk P kt = true) (het : eqT P 6 kt = some et)
    {k v : AV} {ck cv : Value} (hk : VR μ k ck) (hv : VR μ v cv) (hkk : kOK et k = true) {r n : Nat} {l : List (AV × AV)} {bi : BI} (hg : H.get r = some (.mp n l)) (hm : μ r = some bi) {q : Option (Nat × AV)} (hlk : look et k l = some q)
    {l' : List (AV × AV)} (hl' : (∃ i u x y, q = some (i, u) ∧ l[i]? = some (x, y) ∧ veq k x = true ∧ l' = l.set i (k, v)) ∨ (q = none ∧ l' = l ++ [(k, v)])) :
    ∃ w', (Instr.mapUpdate t (.map (some bi.cb)) ck cv).run P w = .ok () w' ∧ Rel Pr w0 μ (H.set r (.mp (H.ver r + 1) l')).get nx w' := by
  obtain ⟨E, clk, g1, g2, g3⟩ := R.mp hg hm
  have hck := check_ok (P := P) (w := w) hko het hk hkk false
  have hf := find_ok (P := P) (w := w) het hk g2 hlk
  simp only [Instr.mapUpdate, Sem.run_bind, r_und hu, Result.andThen_ok, run_getObj g1 rfl, hck, hf]
  rcases hl' with ⟨i, u, x, y, rfl, hx, he, rfl⟩ | ⟨rfl, rfl⟩
  · obtain ⟨en, hen, hek, hev⟩ := g2.get i hx
    have hkx := veq_eq _ _ he
    subst hkx
    simp only [at_, hen, Option.map_some, Nat.zero_add]
    have hold : ((E[i]?).map (·.key)).getD ck = en.key := by rw [← Array.getElem?_toList, hen]; rfl
    rw [hold]
    simp only [Sem.run_bind]
    obtain ⟨k2, w2, q1, q2, q3, q4, q5, q6⟩ := keyStays (P := P) (w := w) (old := en.key) (new := ck)
    rw [q1, Result.andThen_ok]
    have g1' : w2.heap[bi.cb]? = some (.map E clk) := by rw [q3]; exact g1
    obtain ⟨w3, p1, U⟩ := setObj_upd (P := P) (o' := .map (E.modify i fun e => { e with key := k2, val := cv }) clk) g1' rfl
    refine ⟨w3, p1, (R.heap q3 q4 q5 q6).mapSet hg hm U ?_ ?_⟩
    · rw [Array.toList_modify]
      refine g2.set i fun e' he' => ⟨?_, hv⟩
      rcases q2 with rfl | rfl
      · exact hek
      · exact hk
    · rw [Array.toList_modify]; exact g3.modify fun _ => rfl
  · simp only [at_]
    obtain ⟨w3, p1, U⟩ := setObj_upd (P := P) (o' := .map (E.push { key := ck, val := cv, born := clk }) (clk + 1)) g1 rfl
    refine ⟨w3, p1, R.mapSet hg hm U ?_ ?_⟩
    · rw [Array.toList_push]; exact g2.push hk hv
    · rw [Array.toList_push]; exact g3.push rfl
theorem run_delete {H : Hp} (R : Rel Pr w0 μ H.get nx w) {t tk ty kt et' : TypeId} {et : ET} (hu : P.underlying t = some (.map kt et')) (hko : keyOk P kt = true) (het : eqT P 6 kt = some et)
    {k : AV} {ck : Value} (hk : VR μ k ck) (hkk : kOK et k = true) {r n : Nat} {l : List (AV × AV)} {bi : BI} (hg : H.get r = some (.mp n l)) (hm : μ r = some bi) {q : Option (Nat × AV)} (hlk : look et k l = some q) :
    ∃ w', (Builtin.delete_ #[t, tk] ty #[.map (some bi.cb), ck]).run P w = .ok (.tuple #[]) w' ∧ Rel Pr w0 μ (match q with | some (i, _) => H.set r (.mp (H.ver r + 1) (l.eraseIdx i)) | none => H).get nx w' := by
  obtain ⟨E, clk, g1, g2, g3⟩ := R.mp hg hm
  have hck := check_ok (P := P) (w := w) hko het hk hkk E.isEmpty
  have hf := find_ok (P := P) (w := w) het hk g2 hlk
  simp only [Builtin.delete_, List.getElem?_toArray, List.getElem?_cons_zero, List.getElem?_cons_succ, Sem.run_bind, r_und hu, Result.andThen_ok, run_getObj g1 rfl, hck, hf]
  cases q with
  | none =>
    simp only [at_]
    obtain ⟨w3, p1, U⟩ := setObj_upd (P := P) (o' := .map E clk) g1 rfl
    simp only [Sem.run_bind, p1, Result.andThen_ok, Sem.run_pure]
    refine ⟨w3, rfl, ?_⟩
    have hh : w3.heap = w.heap := by
      apply Array.ext_getElem?
      intro b
      by_cases c : b = bi.cb
      · subst c; rw [U.at_, g1]
      · exact U.rest b c
    exact R.heap hh U.os U.tape U.out
  | some q =>
    obtain ⟨i, u⟩ := q
    obtain ⟨hi, x, hx⟩ := look_none_or hlk _ _ rfl
    obtain ⟨en, hen, _⟩ := g2.get i hx
    simp only [at_, hen, Option.map_some, Nat.zero_add]
    obtain ⟨w3, p1, U⟩ := setObj_upd (P := P) (o' := .map (E.eraseIdxIfInBounds i) clk) g1 rfl
    simp only [Sem.run_bind, p1, Result.andThen_ok, Sem.run_pure]
    refine ⟨w3, rfl, R.mapSet hg hm U ?_ ?_⟩
    · rw [Array.toList_eraseIdxIfInBounds]; exact g2.erase i
    · rw [Array.toList_eraseIdxIfInBounds]; exact g3.erase
end
end Go.AM
