/- How the relation lives on: reads, stores, new objects, objects that are gone. -/
import Derived.Test.YtnbiklilbdgmmaaGreatA1
import Derived.Laws.Entries
import Derived.Laws.Strings
import Derived.Laws.Concat
import Derived.WideShapes
import Derived.Laws.StructEq
import Derived.ChangeKeysEq
set_option linter.constructorNameAsVariable false
set_option linter.unusedVariables false
namespace Go.AM
open Go

/-- What becomes of the maps that are gone through. -/
def MapOK (μ : Mu) (h h' : Nat → Option AO) (w w' : World) : Prop :=
  ∀ m mb n l, μ m = some mb → h' m = some (.mp n l) → (h m = some (.mp n l) ∧ w'.heap[mb.cb]? = w.heap[mb.cb]?) ∨ (∃ n0 l0, h m = some (.mp n0 l0) ∧ n0 < n)
theorem OR.frame {μ μ' : Mu} {h h' : Nat → Option AO} {bi : BI} {w w' : World} {o : AO} (H : OR μ h bi w o) (hμ : Ext μ μ')
    (hb : w'.heap[bi.cb]? = w.heap[bi.cb]?) (hm : MapOK μ h h' w w') : OR μ' h' bi w' o := by
  match o, H with
  | .c wr l, H =>
    obtain ⟨C, el, lo, hi, a, c, d, f, g, i, j⟩ := H
    exact ⟨C, el, lo, hi, hb.trans a, c, d, f, g, i.mono hμ, j⟩
  | .mp n l, H =>
    obtain ⟨E, clk, a, b, c⟩ := H
    exact ⟨E, clk, hb.trans a, b.mono hμ, c⟩
  | .it none n l cur, H =>
    obtain ⟨z, a, b, c, d⟩ := H
    exact ⟨z, a, b, c, hb.trans d⟩
  | .it (some m) n left cur, H =>
    obtain ⟨z, mb, since, seen, last, a, b, c, d⟩ := H
    refine ⟨z, mb, since, seen, last, hb.trans a, hμ _ _ b, ?_, ?_⟩
    · intro n' l hl
      rcases hm m mb n' l b hl with ⟨h1, _⟩ | ⟨n0, l0, h1, h2⟩
      · exact c _ _ h1
      · exact Nat.le_trans (c _ _ h1) (Nat.le_of_lt h2)
    · intro l hl E clk hE
      rcases hm m mb n l b hl with ⟨h1, h2⟩ | ⟨n0, l0, h1, h2⟩
      · obtain ⟨x, y, z, u⟩ := d l h1 E clk (h2 ▸ hE)
        refine ⟨x, y, z.mono hμ, fun k v hk => ?_⟩
        obtain ⟨bb, ee, p, q, r, s⟩ := u k v hk
        exact ⟨bb, ee, p, q, r.mono hμ, s.mono hμ⟩
      · exact absurd (c _ _ h1) (by omega)
section
variable {Pr : Nat → Prop} {w0 w w' : World} {μ μ' : Mu} {h h' : Nat → Option AO} {nx nx' : Nat}
theorem Rel.none_of (R : Rel Pr w0 μ h nx w) {a : Nat} (ha : μ a = none) : h a = none := by
  cases e : h a with
  | none => rfl
  | some o =>
    obtain ⟨bi, hb, _⟩ := R.obj a o e
    rw [ha] at hb; cases hb
theorem Rel.lt (R : Rel Pr w0 μ h nx w) {a : Nat} {o : AO} (ha : h a = some o) : a < nx := by
  rcases Nat.lt_or_ge a nx with l | l
  · exact l
  · rw [R.none_of (R.new a l)] at ha; cases ha
theorem mapOK_same (hh : ∀ m n l, h' m = some (.mp n l) → h m = some (.mp n l)) (hw : ∀ m n l mb, h' m = some (.mp n l) → μ m = some mb → w'.heap[mb.cb]? = w.heap[mb.cb]?) : MapOK μ h h' w w' :=
  fun m mb n l hb hl => .inl ⟨hh _ _ _ hl, hw _ _ _ _ hl hb⟩
/-- Fewer objects. -/
theorem Rel.sub (R : Rel Pr w0 μ h nx w) (hs : ∀ a o, h' a = some o → h a = some o) : Rel Pr w0 μ h' nx w where
  obj a o ha := by
    obtain ⟨bi, hb, ho⟩ := R.obj a o (hs _ _ ha)
    exact ⟨bi, hb, ho.frame (Ext.refl _) rfl (mapOK_same (fun m n l e => hs _ _ e) fun _ _ _ _ _ _ => rfl)⟩
  sep a1 a2 o1 o2 b1 b2 ne h1 h2 := R.sep a1 a2 o1 o2 b1 b2 ne (hs _ _ h1) (hs _ _ h2)
  new := R.new
  prot := R.prot
  away a o bi ha := R.away a o bi (hs _ _ ha)
  os := R.os
  tape := R.tape
  out := R.out
/-- Only the draws have moved. -/
theorem Rel.heap (R : Rel Pr w0 μ h nx w) (e : w'.heap = w.heap) (e1 : w'.os = w.os) (e2 : w'.tape = w.tape) (e3 : w'.output = w.output) : Rel Pr w0 μ h nx w' where
  obj a o ha := by
    obtain ⟨bi, hb, ho⟩ := R.obj a o ha
    exact ⟨bi, hb, ho.frame (Ext.refl _) (by rw [e]) (mapOK_same (fun m n l e => e) fun _ _ _ _ _ _ => by rw [e])⟩
  sep := R.sep
  new := R.new
  prot B hB := by rw [e]; exact R.prot B hB
  away := R.away
  os := e1.trans R.os
  tape := e2.trans R.tape
  out := e3.trans R.out
theorem Rel.nxle (R : Rel Pr w0 μ h nx w) (hn : nx ≤ nx') : Rel Pr w0 μ h nx' w :=
  { R with new := fun a ha => R.new a (Nat.le_trans hn ha) }
/-- One block is another one. -/
structure Upd (w w' : World) (B : Nat) (o : Obj) : Prop where
  at_ : w'.heap[B]? = some o
  rest : ∀ b, b ≠ B → w'.heap[b]? = w.heap[b]?
  os : w'.os = w.os
  tape : w'.tape = w.tape
  out : w'.output = w.output
theorem take_drop_eq {α : Type} {l l' : List α} {b n : Nat} (hl : l'.length = l.length) (h : ∀ i, b ≤ i → i < b + n → l'[i]? = l[i]?) : (l'.drop b).take n = (l.drop b).take n := by
  apply List.ext_getElem?
  intro i
  simp only [List.getElem?_take, List.getElem?_drop]
  split
  · exact h _ (by omega) (by omega)
  · rfl
/-- A row of cells is written, within what its object owns. -/
theorem Rel.updC (R : Rel Pr w0 μ h nx w) {a : Nat} {l l' : List AV} {bi : BI} {C C' : Array Value} {el : TypeId} {fr : Nat × Nat} (ha : h a = some (.c .w l)) (hb : μ a = some bi)
    (hC : w.heap[bi.cb]? = some (.cells C el fr)) (U : Upd w w' bi.cb (.cells C' el fr)) (hs : C'.size = C.size)
    (ho : ∀ i : Nat, (i < bi.base ∨ bi.base + bi.ext ≤ i) → C'.toList[i]? = C.toList[i]?)
    (hl : l'.length = bi.size) (hv : VRL μ l' ((C'.toList.drop bi.base).take bi.size)) (h1 : l'.all AV.one = true)
    (hh : ∀ b, h' b = if b = a then some (.c .w l') else h b) : Rel Pr w0 μ h' nx w' := by
  have hmap : MapOK μ h h' w w' := by
    refine mapOK_same (fun m n l e => ?_) fun m n l mb e hm => ?_
    · rw [hh] at e; split at e
      · cases e
      · exact e
    · have e' : h m = some (.mp n l) := by
        rw [hh] at e; split at e
        · cases e
        · exact e
      have hne : m ≠ a := fun c => by subst c; rw [ha] at e'; cases e'
      refine U.rest _ ?_
      rcases R.sep m a _ _ mb bi hne e' ha hm hb rfl with x | ⟨x, _⟩
      · exact x
      · cases x
  refine ⟨?_, ?_, R.new, ?_, ?_, U.os.trans R.os, U.tape.trans R.tape, U.out.trans R.out⟩
  · intro b o hbo
    rw [hh] at hbo
    by_cases e' : b = a
    · rw [if_pos e'] at hbo
      cases hbo
      obtain ⟨bi', hb', C0, el0, lo, hi, k1, k3, k4, k5, k6, k7, k8⟩ := R.obj a _ ha
      rw [hb] at hb'; cases hb'
      rw [hC] at k1; cases k1
      subst e'
      exact ⟨bi, hb, C', el, lo, hi, U.at_, hl, k4, by omega, fun _ => by rw [hs]; exact k6 rfl, hv, h1⟩
    · rw [if_neg e'] at hbo
      obtain ⟨b2, hb2, ho2⟩ := R.obj b o hbo
      refine ⟨b2, hb2, ?_⟩
      by_cases ec : b2.cb = bi.cb
      · rcases R.sep b a o _ b2 bi e' hbo ha hb2 hb (by simp [AO.wr]) with x | ⟨x, _, y⟩
        · exact absurd ec x
        · match o, ho2, x with
          | .c wr l2, ho2, _ =>
            obtain ⟨C0, el0, lo, hi, k1, k3, k4, k5, k6, k7, k8⟩ := ho2
            rw [ec, hC] at k1; cases k1
            refine ⟨C', el, lo, hi, by rw [ec]; exact U.at_, k3, k4, by omega, fun q => by rw [hs]; exact k6 q, ?_, k8⟩
            rw [take_drop_eq (l := C.toList) (by simpa using hs) fun i hi1 hi2 => ho i (by omega)]
            exact k7
      · exact ho2.frame (Ext.refl _) (U.rest _ ec) hmap
  · intro a1 a2 o1 o2 b1 b2 ne h1' h2' hb1 hb2 hw
    have key : ∀ b o, h' b = some o → ∃ o', h b = some o' ∧ o'.wr = o.wr ∧ o'.isC = o.isC := by
      intro b o hbo
      rw [hh] at hbo
      split at hbo
      · rename_i e'; cases hbo; subst e'; exact ⟨_, ha, rfl, rfl⟩
      · exact ⟨_, hbo, rfl, rfl⟩
    obtain ⟨p1, q1, r1, s1⟩ := key _ _ h1'
    obtain ⟨p2, q2, r2, s2⟩ := key _ _ h2'
    have := R.sep a1 a2 p1 p2 b1 b2 ne q1 q2 hb1 hb2 (by rw [r1, r2]; exact hw)
    unfold Apart at this ⊢
    rwa [s1, s2] at this
  · intro B hB
    have hne : B ≠ bi.cb := fun c => R.away a _ bi ha hb rfl (c ▸ hB)
    obtain ⟨p, q⟩ := R.prot B hB
    refine ⟨(U.rest _ hne).trans p, ?_⟩
    have h2 : w'.heap[B]? = w.heap[B]? := U.rest _ hne
    rw [Array.getElem?_eq_getElem q] at h2
    exact (Array.getElem?_eq_some_iff.1 h2).1
  · intro b o b2 hbo hb2 hw
    rw [hh] at hbo
    split at hbo
    · rename_i e'; subst e'; exact R.away _ _ b2 ha hb2 rfl
    · exact R.away _ _ b2 hbo hb2 hw
/-- A new object in a new block. -/
theorem Rel.push' (R : Rel Pr w0 μ h nx w) {a : Nat} {o : AO} {bi : BI} (ha : μ a = none) (hn : nx ≤ nx') (hlt : a < nx')
    (hold : ∀ B, B < w.heap.size → w'.heap[B]? = w.heap[B]?) (hsz : w.heap.size ≤ w'.heap.size) (hcb : w.heap.size ≤ bi.cb)
    (e1 : w'.os = w.os) (e2 : w'.tape = w.tape) (e3 : w'.output = w.output)
    (hμ : ∀ b, μ' b = if b = a then some bi else μ b) (hh : ∀ b, h' b = if b = a then some o else h b) (ho : OR μ' h' bi w' o) : Rel Pr w0 μ' h' nx' w' := by
  have hex : Ext μ μ' := fun b b1 e => by
    rw [hμ]; split
    · rename_i c; subst c; rw [ha] at e; cases e
    · exact e
  have hlt' : ∀ b o b1, h b = some o → μ b = some b1 → b1.cb < w.heap.size := by
    intro b o b1 hb hb1
    obtain ⟨b2, hb2, ho2⟩ := R.obj b o hb
    rw [hb1] at hb2; cases hb2
    have : ∃ ob, w.heap[b1.cb]? = some ob := by
      match o, ho2 with
      | .c wr l, ⟨C, el, lo, hi, k, _⟩ => exact ⟨_, k⟩
      | .mp n l, ⟨E, clk, k, _⟩ => exact ⟨_, k⟩
      | .it none n l c, ⟨_, _, _, _, k⟩ => exact ⟨_, k⟩
      | .it (some m) n l c, ⟨_, _, _, _, _, k, _⟩ => exact ⟨_, k⟩
    obtain ⟨ob, k⟩ := this
    exact (Array.getElem?_eq_some_iff.1 k).1
  have hmap : MapOK μ h h' w w' := by
    intro m mb n l hm hl
    rw [hh] at hl
    split at hl
    · rename_i c; subst c; rw [ha] at hm; cases hm
    · exact .inl ⟨hl, hold _ (hlt' _ _ _ hl hm)⟩
  refine ⟨?_, ?_, ?_, ?_, ?_, e1.trans R.os, e2.trans R.tape, e3.trans R.out⟩
  · intro b ob hb
    rw [hh] at hb
    by_cases c : b = a
    · rw [if_pos c] at hb; cases hb
      exact ⟨bi, by rw [hμ, if_pos c], ho⟩
    · rw [if_neg c] at hb
      obtain ⟨b2, hb2, ho2⟩ := R.obj b ob hb
      exact ⟨b2, hex _ _ hb2, ho2.frame hex (hold _ (hlt' _ _ _ hb hb2)) hmap⟩
  · intro a1 a2 o1 o2 b1 b2 ne h1 h2 hb1 hb2 hw
    rw [hh] at h1 h2; rw [hμ] at hb1 hb2
    by_cases c1 : a1 = a
    · rw [if_pos c1] at h1 hb1
      rw [if_neg (fun c => ne (c1.trans c.symm))] at h2 hb2
      cases hb1
      have := hlt' _ _ _ h2 hb2
      exact .inl (by omega)
    · rw [if_neg c1] at h1 hb1
      by_cases c2 : a2 = a
      · rw [if_pos c2] at h2 hb2
        cases hb2
        have := hlt' _ _ _ h1 hb1
        exact .inl (by omega)
      · rw [if_neg c2] at h2 hb2
        exact R.sep a1 a2 o1 o2 b1 b2 ne h1 h2 hb1 hb2 hw
  · intro b hb
    rw [hμ, if_neg (by omega)]
    exact R.new b (by omega)
  · intro B hB
    obtain ⟨p, q⟩ := R.prot B hB
    exact ⟨(hold B q).trans p, by omega⟩
  · intro b ob b1 hb hb1 hw hP
    rw [hh] at hb; rw [hμ] at hb1
    split at hb
    · rename_i c; rw [if_pos c] at hb1; cases hb1
      have := (R.prot _ hP).2
      omega
    · rename_i c; rw [if_neg c] at hb1
      exact R.away _ _ _ hb hb1 hw hP
theorem Rel.push (R : Rel Pr w0 μ h nx w) {a : Nat} {o : AO} {bi : BI} (ha : μ a = none) (hn : nx ≤ nx') (hlt : a < nx')
    (hold : ∀ B, B < w.heap.size → w'.heap[B]? = w.heap[B]?) (hsz : w.heap.size ≤ w'.heap.size) (hcb : bi.cb = w.heap.size)
    (e1 : w'.os = w.os) (e2 : w'.tape = w.tape) (e3 : w'.output = w.output)
    (hμ : ∀ b, μ' b = if b = a then some bi else μ b) (hh : ∀ b, h' b = if b = a then some o else h b) (ho : OR μ' h' bi w' o) : Rel Pr w0 μ' h' nx' w' :=
  R.push' ha hn hlt hold hsz (Nat.le_of_eq hcb.symm) e1 e2 e3 hμ hh ho
/-- More blocks, of which nothing is told. -/
theorem Rel.grow (R : Rel Pr w0 μ h nx w) (hold : ∀ B, B < w.heap.size → w'.heap[B]? = w.heap[B]?) (hsz : w.heap.size ≤ w'.heap.size) (e1 : w'.os = w.os) (e2 : w'.tape = w.tape) (e3 : w'.output = w.output) : Rel Pr w0 μ h nx w' := by
  have hlt : ∀ b o b1, h b = some o → μ b = some b1 → b1.cb < w.heap.size := by
    intro b o b1 hb hb1
    obtain ⟨b2, hb2, ho2⟩ := R.obj b o hb
    rw [hb1] at hb2; cases hb2
    have : ∃ ob, w.heap[b1.cb]? = some ob := by
      match o, ho2 with
      | .c wr l, ⟨C, el, lo, hi, k, _⟩ => exact ⟨_, k⟩
      | .mp n l, ⟨E, clk, k, _⟩ => exact ⟨_, k⟩
      | .it none n l c, ⟨_, _, _, _, k⟩ => exact ⟨_, k⟩
      | .it (some m) n l c, ⟨_, _, _, _, _, k, _⟩ => exact ⟨_, k⟩
    obtain ⟨ob, k⟩ := this
    exact (Array.getElem?_eq_some_iff.1 k).1
  refine ⟨fun b ob hb => ?_, R.sep, R.new, fun B hB => ?_, R.away, e1.trans R.os, e2.trans R.tape, e3.trans R.out⟩
  · obtain ⟨b2, hb2, ho2⟩ := R.obj b ob hb
    exact ⟨b2, hb2, ho2.frame (Ext.refl _) (hold _ (hlt _ _ _ hb hb2)) (mapOK_same (fun m n l e => e) fun m n l mb e hm => hold _ (hlt _ _ _ e hm))⟩
  · obtain ⟨p, q⟩ := R.prot B hB
    exact ⟨(hold B q).trans p, by omega⟩
/-- What an object owned, another one takes (the old one is gone), its block perhaps turned there. -/
theorem Rel.reseat (R : Rel Pr w0 μ h nx w) {a a' : Nat} {l l' : List AV} {bi bi' : BI} {C C' : Array Value} {el : TypeId} {fr : Nat × Nat} (ha : h a = some (.c .w l)) (hb : μ a = some bi)
    (hC : w.heap[bi.cb]? = some (.cells C el fr)) (U : Upd w w' bi.cb (.cells C' el fr)) (hs : C'.size = C.size)
    (hout : ∀ i : Nat, (i < bi.base ∨ bi.base + bi.ext ≤ i) → C'.toList[i]? = C.toList[i]?)
    (ha' : μ a' = none) (hn : nx ≤ nx') (hlt : a' < nx') (hcb : bi'.cb = bi.cb) (h1 : bi.base ≤ bi'.base) (h2 : bi'.base + bi'.ext ≤ bi.base + bi.ext) 
    (hl : l'.length = bi'.size) (hse : bi'.size ≤ bi'.ext) (hv : VRL μ l' ((C'.toList.drop bi'.base).take bi'.size)) (h1' : l'.all AV.one = true)
    (hμ : ∀ b, μ' b = if b = a' then some bi' else μ b) (hh : ∀ b, h' b = if b = a' then some (.c .w l') else if b = a then none else h b) : Rel Pr w0 μ' h' nx' w' := by
  have hex : Ext μ μ' := fun b b1 e => by
    rw [hμ]; split
    · rename_i c; subst c; rw [ha'] at e; cases e
    · exact e
  have hmap : MapOK μ h h' w w' := by
    intro m mb n l hm hl
    rw [hh] at hl
    split at hl
    · cases hl
    · split at hl
      · cases hl
      · rename_i c
        refine .inl ⟨hl, U.rest _ ?_⟩
        rcases R.sep m a _ _ mb bi c hl ha hm hb rfl with x | ⟨x, _⟩
        · exact x
        · cases x
  obtain ⟨bi0, hb0, C0, el0, lo, hi, k1, k3, k4, k5, k6, k7, k8⟩ := R.obj a _ ha
  rw [hb] at hb0; cases hb0
  rw [hC] at k1; cases k1
  have old : ∀ b ob, b ≠ a → h b = some ob → ∀ b2, μ b = some b2 → OR μ' h' b2 w' ob := by
    intro b ob hne hbo b2 hb2
    obtain ⟨b3, hb3, ho2⟩ := R.obj b ob hbo
    rw [hb2] at hb3; cases hb3
    by_cases ec : b2.cb = bi.cb
    · rcases R.sep b a ob _ b2 bi hne hbo ha hb2 hb (by simp [AO.wr]) with x | ⟨x, _, y⟩
      · exact absurd ec x
      · match ob, ho2, x with
        | .c wr l2, ho2, _ =>
          obtain ⟨C0, el0, lo', hi', k1, k3, k4, k5, k6, k7, k8⟩ := ho2
          rw [ec, hC] at k1; cases k1
          refine ⟨C', el, _, _, by rw [ec]; exact U.at_, k3, k4, by omega, fun q => by rw [hs]; exact k6 q, ?_, k8⟩
          rw [take_drop_eq (l := C.toList) (by simpa using hs) fun i hi1 hi2 => hout i (by omega)]
          exact k7.mono hex
    · exact ho2.frame hex (U.rest _ ec) hmap
  refine ⟨?_, ?_, ?_, ?_, ?_, U.os.trans R.os, U.tape.trans R.tape, U.out.trans R.out⟩
  · intro b ob hbo
    rw [hh] at hbo
    by_cases c : b = a'
    · rw [if_pos c] at hbo; cases hbo
      exact ⟨bi', by rw [hμ, if_pos c], C', el, lo, hi, by rw [hcb]; exact U.at_, hl, hse, by omega, fun _ => by rw [hs]; exact k6 rfl, hv.mono hex, h1'⟩
    · rw [if_neg c] at hbo
      split at hbo
      · cases hbo
      · rename_i c2
        obtain ⟨b2, hb2, _⟩ := R.obj b ob hbo
        exact ⟨b2, hex _ _ hb2, old b ob c2 hbo b2 hb2⟩
  · intro a1 a2 o1 o2 b1 b2 ne g1 g2 hb1 hb2 hw
    have key : ∀ b ob b2, b ≠ a' → h' b = some ob → μ' b = some b2 → Apart b2 bi' ob (.c .w l') := by
      intro b ob b2 c hbo hb2
      rw [hh, if_neg c] at hbo; rw [hμ, if_neg c] at hb2
      split at hbo
      · cases hbo
      · rename_i c2
        rcases R.sep b a ob _ b2 bi c2 hbo ha hb2 hb (by simp [AO.wr]) with x | ⟨x, _, y⟩
        · exact .inl (by rw [hcb]; exact x)
        · exact .inr ⟨x, rfl, by omega⟩
    by_cases c1 : a1 = a'
    · have g1' : h' a1 = some (.c .w l') := by rw [hh, if_pos c1]
      rw [g1'] at g1; cases g1
      rw [hμ, if_pos c1] at hb1; cases hb1
      have := key a2 o2 b2 (fun c => ne (c1.trans c.symm)) g2 hb2
      rcases this with x | ⟨x, y, z⟩
      · exact .inl (Ne.symm x)
      · exact .inr ⟨y, x, z.symm⟩
    · by_cases c2 : a2 = a'
      · have g2' : h' a2 = some (.c .w l') := by rw [hh, if_pos c2]
        rw [g2'] at g2; cases g2
        rw [hμ, if_pos c2] at hb2; cases hb2
        exact key a1 o1 b1 c1 g1 hb1
      · rw [hh, if_neg c1] at g1; rw [hh, if_neg c2] at g2; rw [hμ, if_neg c1] at hb1; rw [hμ, if_neg c2] at hb2
        split at g1
        · cases g1
        · split at g2
          · cases g2
          · exact R.sep a1 a2 o1 o2 b1 b2 ne g1 g2 hb1 hb2 hw
  · intro b hb
    rw [hμ, if_neg (by omega)]
    exact R.new b (by omega)
  · intro B hB
    have hne : B ≠ bi.cb := fun c => R.away a _ bi ha hb rfl (c ▸ hB)
    obtain ⟨p, q⟩ := R.prot B hB
    refine ⟨(U.rest _ hne).trans p, ?_⟩
    have h2 : w'.heap[B]? = w.heap[B]? := U.rest _ hne
    rw [Array.getElem?_eq_getElem q] at h2
    exact (Array.getElem?_eq_some_iff.1 h2).1
  · intro b ob b2 hbo hb2 hw
    rw [hh] at hbo; rw [hμ] at hb2
    by_cases c : b = a'
    · rw [if_pos c] at hb2; cases hb2
      rw [hcb]; exact R.away _ _ _ ha hb rfl
    · rw [if_neg c] at hbo hb2
      split at hbo
      · cases hbo
      · exact R.away _ _ _ hbo hb2 hw
/-- An object that is no row of cells is turned. -/
theorem Rel.updO (R : Rel Pr w0 μ h nx w) {a : Nat} {o o' : AO} {bi : BI} {ob : Obj} (ha : h a = some o) (hc : o.isC = false) (hc' : o'.isC = false) (hb : μ a = some bi)
    (U : Upd w w' bi.cb ob) (hmap : ∀ n l, o' = .mp n l → ∃ n0 l0, o = .mp n0 l0 ∧ n0 < n) (hh : ∀ b, h' b = if b = a then some o' else h b)
    (ho : OR μ h' bi w' o') : Rel Pr w0 μ h' nx w' := by
  have hwr : ∀ x : AO, x.isC = false → x.wr = true := fun x hx => by cases x <;> first | rfl | cases hx
  have hm : MapOK μ h h' w w' := by
    intro m mb n l hm hl
    rw [hh] at hl
    by_cases c : m = a
    · rw [if_pos c] at hl; cases hl
      obtain ⟨n0, l0, e, hlt⟩ := hmap n l rfl
      subst c; subst e
      exact .inr ⟨n0, l0, ha, hlt⟩
    · rw [if_neg c] at hl
      refine .inl ⟨hl, U.rest _ ?_⟩
      rcases R.sep m a _ _ mb bi c hl ha hm hb (by rw [hwr o hc]; simp) with x | ⟨x, _⟩
      · exact x
      · cases x
  refine ⟨?_, ?_, R.new, ?_, ?_, U.os.trans R.os, U.tape.trans R.tape, U.out.trans R.out⟩
  · intro b o1 hbo
    rw [hh] at hbo
    by_cases c : b = a
    · rw [if_pos c] at hbo; cases hbo
      exact ⟨bi, c ▸ hb, ho⟩
    · rw [if_neg c] at hbo
      obtain ⟨b2, hb2, ho2⟩ := R.obj b o1 hbo
      refine ⟨b2, hb2, ho2.frame (Ext.refl _) (U.rest _ ?_) hm⟩
      rcases R.sep b a o1 o b2 bi c hbo ha hb2 hb (by rw [hwr o hc]; simp) with x | ⟨_, x, _⟩
      · exact x
      · rw [hc] at x; cases x
  · intro a1 a2 o1 o2 b1 b2 ne h1 h2 hb1 hb2 hw
    rw [hh] at h1 h2
    by_cases c1 : a1 = a
    · rw [if_pos c1] at h1; rw [if_neg (fun c => ne (c1.trans c.symm))] at h2
      subst c1; rw [hb] at hb1; cases hb1
      rcases R.sep a1 a2 o o2 bi b2 ne ha h2 hb hb2 (by rw [hwr o hc]; simp) with x | ⟨x, _⟩
      · exact .inl x
      · rw [hc] at x; cases x
    · rw [if_neg c1] at h1
      by_cases c2 : a2 = a
      · rw [if_pos c2] at h2
        subst c2; rw [hb] at hb2; cases hb2
        rcases R.sep a1 a2 o1 o b1 bi ne h1 ha hb1 hb (by rw [hwr o hc]; simp) with x | ⟨_, x, _⟩
        · exact .inl x
        · rw [hc] at x; cases x
      · rw [if_neg c2] at h2
        exact R.sep a1 a2 o1 o2 b1 b2 ne h1 h2 hb1 hb2 hw
  · intro B hB
    have hne : B ≠ bi.cb := fun c => R.away a _ bi ha hb (AO.own_of (hwr o hc)) (c ▸ hB)
    obtain ⟨p, q⟩ := R.prot B hB
    refine ⟨(U.rest _ hne).trans p, ?_⟩
    have h2 : w'.heap[B]? = w.heap[B]? := U.rest _ hne
    rw [Array.getElem?_eq_getElem q] at h2
    exact (Array.getElem?_eq_some_iff.1 h2).1
  · intro b o1 b2 hbo hb2 hw
    rw [hh] at hbo
    by_cases c : b = a
    · subst c; exact R.away _ _ _ ha hb2 (AO.own_of (hwr o hc))
    · rw [if_neg c] at hbo
      exact R.away _ _ _ hbo hb2 hw
end
end Go.AM
/- The operations that touch no memory. -/
set_option linter.unusedVariables false
set_option linter.unusedSimpArgs false
namespace Go.AM
open Go

def ER (μ : Mu) (N : Nat) (e : Env) (tmps : Array Value) : Prop := tmps.size = N ∧ ∀ t, VR μ (e.g t) (tmps.getD t undef)
theorem cvN_ok (μ : Mu) : ∀ (n : Nat) (v : Value) (x : AV), cvN n v = some x → VR μ x v := by
  intro n
  induction n with
  | zero =>
    intro v x h
    cases v <;> (try simp only [cvN] at h)
    case bool b => cases h; exact .b b
    case int k n => cases h; exact .i k n
    case string s => cases h; exact .s s
    case pointer p => cases p <;> simp only [cvN] at h <;> cases h; exact .np
    case slice p n c =>
      cases p with
      | some p => simp [cvN] at h
      | none =>
        cases n with
        | succ n => simp [cvN] at h
        | zero => cases c with
          | succ c => simp [cvN] at h
          | zero => simp [cvN] at h; cases h; exact .ns
    case map r => cases r <;> simp only [cvN] at h <;> cases h; exact .nm
    case nilFunc => cases h; exact .nf
    all_goals cases h
  | succ n ih =>
    intro v x h
    cases v <;> (try simp only [cvN] at h)
    case bool b => cases h; exact .b b
    case int k n => cases h; exact .i k n
    case string s => cases h; exact .s s
    case pointer p => cases p <;> simp only [cvN] at h <;> cases h; exact .np
    case slice p n c =>
      cases p with
      | some p => simp [cvN] at h
      | none =>
        cases n with
        | succ n => simp [cvN] at h
        | zero => cases c with
          | succ c => simp [cvN] at h
          | zero => simp [cvN] at h; cases h; exact .ns
    case map r => cases r <;> simp only [cvN] at h <;> cases h; exact .nm
    case nilFunc => cases h; exact .nf
    case agg cs =>
      obtain ⟨l, hl, rfl⟩ := Option.map_eq_some_iff.1 h
      have key : ∀ (cs : List Value) (l : List AV), cs.mapM (cvN n) = some l → VRL μ l cs := by
        intro cs
        induction cs with
        | nil => intro l hl; simp at hl; subst hl; exact .nil
        | cons c cs ihc =>
          intro l hl
          simp only [List.mapM_cons, Option.bind_eq_bind, Option.bind_eq_some_iff] at hl
          obtain ⟨y, hy, l', hl', he⟩ := hl
          cases he
          exact .cons (ih _ _ hy) (ihc _ hl')
      have := VR.ag (key _ _ hl)
      simpa using this
    all_goals cases h
theorem cvV_ok (μ : Mu) {v : Value} {x : AV} (h : cvV v = some x) : VR μ x v := cvN_ok μ _ _ _ h
section
variable {μ : Mu} {N : Nat} {e : Env} {a : Act}
theorem cO_ok (hE : ER μ N e a.tmps) {x : Operand} {o : O} (h : cO x = some o) : VR μ (ev e o) (a.eval x) := by
  cases x with
  | tmp t => simp only [cO, Option.some.injEq] at h; subst h; exact hE.2 t
  | const v =>
    simp only [cO] at h
    obtain ⟨x, hx, rfl⟩ := Option.map_eq_some_iff.1 h
    exact cvV_ok μ hx
  | global g => simp [cO] at h
  | func f => simp only [cO, Option.some.injEq] at h; subst h; exact .fn f .nil .nil
theorem cOs_ok (hE : ER μ N e a.tmps) : ∀ {l : List Operand} {r : List O}, cOs l = some r → VRL μ (r.map (ev e)) (l.map a.eval)
  | [], r, h => by simp [cOs] at h; subst h; exact .nil
  | x :: l, r, h => by
    simp only [cOs, List.mapM_cons, Option.bind_eq_bind, Option.bind_eq_some_iff] at h
    obtain ⟨y, hy, l', hl', he⟩ := h
    cases he
    exact .cons (cO_ok hE hy) (cOs_ok hE hl')
end
section
variable {P : Program} {w : World}
theorem r_und {t : TypeId} {d : TypeDesc} (h : P.underlying t = some d) (w : World) : (underlying t).run P w = .ok d w := run_underlying h w
theorem r_info {t : TypeId} {i : TypeInfo} (h : P.info? t = some i) (w : World) : (typeInfo t).run P w = .ok i w := by simp [typeInfo, h]
theorem r_size {t : TypeId} {n : Nat} (h : szOf P t = some n) (w : World) : (sizeOf t).run P w = .ok n w := by
  unfold szOf at h
  obtain ⟨i, hi, rfl⟩ := Option.map_eq_some_iff.1 h
  simp [sizeOf, r_info hi]
theorem r_agg {t : TypeId} {b : Bool} (h : agOf P t = some b) (w : World) : (isAgg t).run P w = .ok b w := by
  unfold agOf at h
  obtain ⟨d, hd, rfl⟩ := Option.map_eq_some_iff.1 h
  simp only [isAgg, Sem.run_bind, r_und hd, Result.andThen_ok]
  cases d <;> rfl
theorem r_zero {t : TypeId} {z : AV} (μ : Mu) (h : zOf P t = some z) : ∃ cz, VR μ z cz ∧ ∀ w, (zeroValue t).run P w = .ok cz w := by
  unfold zOf at h
  obtain ⟨cz, h1, h2⟩ := Option.bind_eq_some_iff.1 h
  obtain ⟨i, hi, h3⟩ := Option.bind_eq_some_iff.1 h1
  exact ⟨cz, cvV_ok μ h2, fun w => by simp [zeroValue, r_info hi, h3]⟩
theorem add_none (b o n : Nat) : (⟨b, o, none⟩ : Addr).add n = ⟨b, o + n, none⟩ := Addr.add_lit b o n
end
end Go.AM
/- The operations that touch no memory: each answers as the model's. -/
set_option linter.unusedVariables false
set_option linter.unusedSimpArgs false
namespace Go.AM
open Go
section
variable {P : Program} {μ : Mu} {w : World}
theorem vr_i {k : IntKind} {n : Int} {cv : Value} (h : VR μ (.i k n) cv) : cv = .int k n := by cases h; rfl
theorem vr_b {x : Bool} {cv : Value} (h : VR μ (.b x) cv) : cv = .bool x := by cases h; rfl
theorem vr_s {x : List UInt8} {cv : Value} (h : VR μ (.s x) cv) : ∃ y : ByteArray, cv = .string y ∧ y.data.toList = x := by cases h; exact ⟨_, rfl, rfl⟩
theorem vr_p {b o : Nat} {cv : Value} (h : VR μ (.p b o) cv) : ∃ bi, μ b = some bi ∧ cv = .pointer (some ⟨bi.cb, bi.base + o, none⟩) := by cases h; exact ⟨_, by assumption, rfl⟩
theorem vr_sl {b z o n c : Nat} {cv : Value} (h : VR μ (.sl b z o n c) cv) : ∃ ad c', cv = .slice (some ad) n c' ∧ SlR μ b z o n c ad c' := by cases h; exact ⟨_, _, rfl, by assumption⟩
theorem vr_ns {cv : Value} (h : VR μ .ns cv) : cv = .slice none 0 0 := by cases h; rfl
theorem vr_np {cv : Value} (h : VR μ .np cv) : cv = .pointer none := by cases h; rfl
theorem vr_nm {cv : Value} (h : VR μ .nm cv) : cv = .map none := by cases h; rfl
theorem vr_m {r : Nat} {cv : Value} (h : VR μ (.m r) cv) : ∃ bi, μ r = some bi ∧ cv = .map (some bi.cb) := by cases h; exact ⟨_, by assumption, rfl⟩
theorem vr_ag {l : List AV} {cv : Value} (h : VR μ (.ag l) cv) : ∃ l', cv = .agg l'.toArray ∧ VRL μ l l' := by cases h; exact ⟨_, rfl, by assumption⟩
theorem vr_tp {l : List AV} {cv : Value} (h : VR μ (.tp l) cv) : ∃ l', cv = .tuple l'.toArray ∧ VRL μ l l' := by cases h; exact ⟨_, rfl, by assumption⟩
theorem vr_fn {f : Nat} {x y : List AV} {cv : Value} (h : VR μ (.fn f x y) cv) : ∃ x' y', cv = .func (.func f) x'.toArray y'.toArray ∧ VRL μ x x' ∧ VRL μ y y' := by cases h; exact ⟨_, _, rfl, by assumption, by assumption⟩
theorem arith_ok {op : BinOp} {k : IntKind} {x y : Int} {v : AV} (h : arith op k x y = some v) (h1 : op ≠ .shl) (h2 : op ≠ .shr) :
    ∃ cv, VR μ v cv ∧ ∀ t w, (binOp op t (.int k x) (.int k y)).run P w = .ok cv w := by
  cases op <;> simp only [arith] at h
  case add => cases h; exact ⟨_, .i _ _, fun t w => by simp [binOp_add, Op.intArith, wr_eq]⟩
  case sub => cases h; exact ⟨_, .i _ _, fun t w => by simp [binOp_sub, Op.intArith, wr_eq]⟩
  case mul => cases h; exact ⟨_, .i _ _, fun t w => by simp [binOp_mul, Op.intArith, wr_eq]⟩
  case quo =>
    split at h
    · cases h
    · rename_i hy; cases h; exact ⟨_, .i _ _, fun t w => by simp [binOp_quo, Op.intDiv, wr_eq, hy]⟩
  case rem =>
    split at h
    · cases h
    · rename_i hy; cases h; exact ⟨_, .i _ _, fun t w => by simp [binOp_rem, Op.intDiv, hy]⟩
  case and => cases h; exact ⟨_, .i _ _, fun t w => by simp [binOp_and, Op.intBits, wr_eq]⟩
  case or => cases h; exact ⟨_, .i _ _, fun t w => by simp [binOp_or, Op.intBits, wr_eq]⟩
  case xor => cases h; exact ⟨_, .i _ _, fun t w => by simp [binOp_xor, Op.intBits, wr_eq]⟩
  case eql => cases h; exact ⟨_, .b _, fun t w => by simp [binOp_eql]⟩
  case neq => cases h; exact ⟨_, .b _, fun t w => by simp [binOp_neq]⟩
  case lss => cases h; exact ⟨_, .b _, fun t w => by simp [binOp_lss]⟩
  case leq => cases h; exact ⟨_, .b _, fun t w => by simp [binOp_leq]⟩
  case gtr => cases h; exact ⟨_, .b _, fun t w => by simp [binOp_gtr]⟩
  case geq => cases h; exact ⟨_, .b _, fun t w => by simp [binOp_geq]⟩
  all_goals cases h
theorem bin_ok {op : BinOp} {x y v : AV} {cx cy : Value} (hx : VR μ x cx) (hy : VR μ y cy) (h : bin op x y = some v) :
    ∃ cv, VR μ v cv ∧ ∀ t ox oy w, (do eqGuard op t ox oy cx cy; binOp op t cx cy : Sem Value).run P w = .ok cv w := by
  cases hx <;> cases hy <;> simp only [bin] at h <;> first | (cases h; done) | skip
  · rename_i k n k' n'
    have key : ∀ op', op = op' → op' ≠ .shl → op' ≠ .shr → (if k = k' then arith op' k n n' else none) = some v → ∃ cv, VR μ v cv ∧ ∀ t ox oy w, (do eqGuard op t ox oy (.int k n) (.int k' n'); binOp op t (.int k n) (.int k' n') : Sem Value).run P w = .ok cv w := by
      intro op' e h1 h2 g
      subst e
      clear h
      split at g
      · rename_i hk; subst hk
        obtain ⟨cv, hv, hr⟩ := arith_ok (P := P) (μ := μ) g h1 h2
        exact ⟨cv, hv, fun t ox oy w => by simp [eqGuard_at_int, hr]⟩
      · cases g
    cases op
    case shl =>
      simp only at h
      split at h
      · cases h
      · rename_i hn; cases h
        exact ⟨_, .i _ _, fun t ox oy w => by simp [eqGuard_at_int, binOp_shl, Op.shift, hn, wr_eq]⟩
    case shr =>
      simp only at h
      split at h
      · cases h
      · rename_i hn; cases h
        exact ⟨_, .i _ _, fun t ox oy w => by simp [eqGuard_at_int, binOp_shr, Op.shift, hn]⟩
    all_goals exact key _ rfl (by simp) (by simp) h
  · rename_i a b
    cases op <;> simp only at h <;> first | (cases h; done) | skip
    case add =>
      split at h
      · rename_i hl
        cases h
        have hl' : a.size + b.size ≤ 1000000000000 := by simpa using hl
        have : (Op.stringOp .add a b) = (pure (.string (a ++ b)) : Sem Value) := by
          simp only [Op.stringOp, IntKind.max_i64]
          rw [if_neg (by omega)]
        refine ⟨.string (a ++ b), ?_, fun t ox oy w => by simp [eqGuard_at_string, binOp_string_add, this]⟩
        have := VR.s (μ := μ) (a ++ b)
        simpa using this
      · cases h
    case eql => cases h; exact ⟨_, .b _, fun t ox oy w => by simp [eqGuard_at_string, binOp_string_eql, ByteArray.toList_eq]⟩
    case neq => cases h; exact ⟨_, .b _, fun t ox oy w => by simp [eqGuard_at_string, binOp_string_neq, ByteArray.toList_eq]⟩
end
end Go.AM
/- Equality. -/
set_option linter.unusedVariables false
set_option linter.unusedSimpArgs false
namespace Go.AM
open Go
section
variable {P : Program} {μ : Mu}
theorem part_ok {t : TypeId} {ag : Bool} {off n : Nat} {l : List AV} {l' : List Value} {v : AV} (hl : VRL μ l l') (ha : agOf P t = some ag) (hz : szOf P t = some n) (h : partOf ag l off n = some v) :
    ∃ cv, VR μ v cv ∧ ∀ w, (part t l'.toArray off).run P w = .ok cv w := by
  cases ag with
  | true =>
    simp only [partOf, if_true, Option.some.injEq] at h
    subst h
    refine ⟨_, .ag ((hl.drop off).take n), fun w => ?_⟩
    simp only [part, Sem.run_bind, r_agg ha, Result.andThen_ok, if_true, r_size hz, Sem.run_pure]
    congr 2
    apply Array.ext'
    simp [List.extract_eq_take_drop]
  | false =>
    simp only [partOf, Bool.false_eq_true, if_false] at h
    obtain ⟨cv, h1, h2⟩ := hl.get _ _ h
    refine ⟨cv, h2, fun w => ?_⟩
    simp only [part, Sem.run_bind, r_agg ha, Result.andThen_ok, Bool.false_eq_true, if_false]
    simp [h1]
def ET.isAg : ET → Bool
  | .ag _ => true
  | _ => false
theorem eqT_ag {n : Nat} {t : TypeId} {et : ET} (h : eqT P n t = some et) : agOf P t = some et.isAg := by
  cases n with
  | zero => simp [eqT] at h
  | succ n =>
    simp only [eqT] at h
    unfold agOf
    split at h
    all_goals rename_i hu
    case h_8 =>
      split at h
      · cases h
      · obtain ⟨l, _, rfl⟩ := Option.map_eq_some_iff.1 h; simp [hu, ET.isAg]
    case h_9 =>
      split at h
      · cases h; simp [hu, ET.isAg]
      · cases h
    case h_10 => cases h
    all_goals cases h; simp [hu, ET.isAg]
theorem eqvs_cons (off n : Nat) (t : ET) (l : List (Nat × Nat × ET)) (xs ys : List AV) : eqvs ((off, n, t) :: l) xs ys =
    match partOf t.isAg xs off n, partOf t.isAg ys off n with
    | some x, some y => match eqv t x y with
      | some true => eqvs l xs ys
      | some false => some false
      | none => none
    | _, _ => none := by
  cases t <;> rfl
theorem eqvs_split {off n : Nat} {t : ET} {l : List (Nat × Nat × ET)} {xs ys : List AV} {r : Bool} (h : eqvs ((off, n, t) :: l) xs ys = some r) :
    ∃ x y b, partOf t.isAg xs off n = some x ∧ partOf t.isAg ys off n = some y ∧ eqv t x y = some b ∧ (if b then eqvs l xs ys = some r else r = false) := by
  rw [eqvs_cons] at h
  split at h
  · rename_i x y hx hy
    split at h
    · rename_i he; exact ⟨x, y, true, hx, hy, he, by simpa using h⟩
    · rename_i he; cases h; exact ⟨x, y, false, hx, hy, he, by simp⟩
    · cases h
  · cases h
theorem eq_ok : ∀ (n : Nat) (t : TypeId) (et : ET), eqT P n t = some et → ∀ (x y : AV) (cx cy : Value) (r : Bool), VR μ x cx → VR μ y cy → eqv et x y = some r →
    ∀ d, n ≤ d → ∀ w, (Op.equalIn d t cx cy).run P w = .ok r w := by
  intro n
  induction n with
  | zero => intro t et h; simp [eqT] at h
  | succ n ih =>
    intro t et h x y cx cy r hx hy hr d hd w
    obtain ⟨d, rfl⟩ : ∃ d', d = d' + 1 := ⟨d - 1, by omega⟩
    have hd' : n ≤ d := by omega
    simp only [eqT] at h
    split at h
    all_goals rename_i hu
    · cases h
      cases hx <;> cases hy <;> simp only [eqv] at hr <;> first | (cases hr; done) | skip
      cases hr
      exact run_equalIn_bool w d t _ _ hu
    · cases h
      cases hx <;> cases hy <;> simp only [eqv] at hr <;> first | (cases hr; done) | skip
      split at hr
      · cases hr; rename_i hk; subst hk
        exact run_equalIn_int w d t _ _ _ _ hu
      · cases hr
    · cases h
      cases hx <;> cases hy <;> simp only [eqv] at hr <;> first | (cases hr; done) | skip
      cases hr
      rw [run_equalIn_string w d t _ _ hu, ByteArray.toList_eq, ByteArray.toList_eq]
    · cases h
      cases hx <;> cases hy <;> simp only [eqv] at hr <;> first | (cases hr; done) | skip
      all_goals cases hr; simp [Op.equalIn, run_underlying hu]
    · cases h
      cases hx <;> cases hy <;> simp only [eqv] at hr <;> first | (cases hr; done) | skip
      all_goals cases hr; simp [Op.equalIn, run_underlying hu]
    · cases h
      cases hx <;> cases hy <;> simp only [eqv] at hr <;> first | (cases hr; done) | skip
      all_goals cases hr; simp [Op.equalIn, run_underlying hu]
    · cases h
      cases hx <;> cases hy <;> simp only [eqv] at hr <;> first | (cases hr; done) | skip
      all_goals cases hr; simp [Op.equalIn, run_underlying hu]
    · split at h
      · cases h
      · rename_i fields hst
        obtain ⟨l, hl, rfl⟩ := Option.map_eq_some_iff.1 h
        cases hx <;> cases hy <;> simp only [eqv] at hr <;> first | (cases hr; done) | skip
        rename_i xs xs' hxs ys ys' hys
        have hf : P.fieldsOf t = fields := by simp [Program.fieldsOf, hu]
        rw [run_equalIn_struct (P := P) w d t _ _ (by rw [hf]; exact hu) (by simpa using hst), hf]
        generalize fields.toList = fs at hl
        clear h hu hf
        induction fs generalizing l r with
        | nil =>
          simp at hl; subst hl
          simp only [eqvs, Option.some.injEq] at hr; subst hr
          simp [Op.eqFields]
        | cons f fs ihf =>
          simp only [List.mapM_cons, Option.bind_eq_bind, Option.bind_eq_some_iff] at hl
          obtain ⟨q, hq, l', hl', he⟩ := hl
          cases he
          split at hq
          · cases hq
          · rename_i hname
            split at hq
            · rename_i z et hz het
              cases hq
              obtain ⟨x, y, b, h1, h2, h3, h4⟩ := eqvs_split hr
              obtain ⟨ca, ha1, ha2⟩ := part_ok hxs (eqT_ag het) hz h1
              obtain ⟨cb, hb1, hb2⟩ := part_ok hys (eqT_ag het) hz h2
              have h5 := ih _ _ het _ _ _ _ _ ha1 hb1 h3 d hd' w
              simp only [Op.eqFields, if_pos hname, Sem.run_bind, ha2, hb2, h5, Result.andThen_ok]
              cases b
              · simp only [Bool.false_eq_true, if_false] at h4; subst h4; simp
              · simp only [if_true] at h4
                simpa using ihf _ _ h4 hl'
            · cases hq
    · split at h
      · rename_i len elem _ _ z et hz het
        cases h
        cases hx <;> cases hy <;> simp only [eqv] at hr <;> first | (cases hr; done) | skip
        rename_i xs xs' hxs ys ys' hys
        obtain ⟨i, hi, hzi⟩ := Option.map_eq_some_iff.1 (show (P.info? elem).map (·.size) = some z from hz)
        have hc : P.cellsOf elem = z := by simp [Program.cellsOf, hi, hzi]
        rw [run_equalIn_array w d _ _ hu hi, hc]
        generalize List.range len = is at hr
        clear hu
        induction is generalizing r with
        | nil =>
          simp only [List.map_nil, eqvs, Option.some.injEq] at hr; subst hr
          simp [Op.eqItems]
        | cons j is ihj =>
          simp only [List.map_cons] at hr
          obtain ⟨x, y, b, h1, h2, h3, h4⟩ := eqvs_split hr
          obtain ⟨ca, ha1, ha2⟩ := part_ok hxs (eqT_ag het) hz h1
          obtain ⟨cb, hb1, hb2⟩ := part_ok hys (eqT_ag het) hz h2
          have h5 := ih _ _ het _ _ _ _ _ ha1 hb1 h3 d hd' w
          simp only [Op.eqItems, Sem.run_bind, ha2, hb2, h5, Result.andThen_ok]
          cases b
          · simp only [Bool.false_eq_true, if_false] at h4; subst h4; simp
          · simp only [if_true] at h4
            simpa using ihj _ h4
      · cases h
    · cases h
end
end Go.AM
/- The operations that touch no memory, all of them. -/
set_option linter.unusedVariables false
set_option linter.unusedSimpArgs false
namespace Go.AM
open Go
section
variable {P : Program} {μ : Mu} {N : Nat} {e : Env} {a : Act}
/-- It comes to a value, the world as it was. -/
def PS (P : Program) (μ : Mu) (a : Act) (o : Oper) (v : AV) : Prop := ∃ cv, VR μ v cv ∧ ∀ w, (execOp a.eval o).run P w = .ok (.value cv) w
theorem bnd_le {x : AV} {y n : Nat} (h : bnd x y = some n) : n ≤ y := by
  unfold bnd at h
  split at h
  · split at h
    · cases h; omega
    · cases h
  · cases h
theorem bnd_ok {x : AV} {cx : Value} {y y' n : Nat} (hx : VR μ x cx) (h : bnd x y = some n) (hy : y ≤ y') (code : BoundsCode) : ∀ w, (Instr.sliceBound cx y' code).run P w = .ok n w := by
  intro w
  cases hx <;> simp only [bnd] at h <;> first | (cases h; done) | skip
  split at h
  · rename_i hn
    cases h
    simp only [Instr.sliceBound, asIntOf, Sem.run_bind, Sem.run_pure, Result.andThen_ok]
    rw [if_pos (by omega)]; rfl
  · cases h
/-- A bound's operand, if there is one. -/
theorem cOo_ok (hE : ER μ N e a.tmps) {x : Option Operand} {o : Option O} (h : cOo x = some o) : (x = none ∧ o = none) ∨ ∃ y z, x = some y ∧ o = some z ∧ VR μ (ev e z) (a.eval y) := by
  cases x with
  | none => simp [cOo] at h; exact .inl ⟨rfl, h.symm⟩
  | some x =>
    simp only [cOo] at h
    obtain ⟨z, hz, rfl⟩ := Option.map_eq_some_iff.1 h
    exact .inr ⟨x, z, rfl, rfl, cO_ok hE hz⟩
theorem bnds_ok (hE : ER μ N e a.tmps) {lo hi mx : Option Operand} {lo' hi' mx' : Option O} (h1 : cOo lo = some lo') (h2 : cOo hi = some hi') (h3 : cOo mx = some mx')
    {len cap c' l h m : Nat} (hb : bnds e len cap lo' hi' mx' = some (l, h, m)) (hlen : len ≤ cap) (hcap : cap ≤ c') (is : Bool) :
    ∃ m', (∀ w, (Instr.sliceBounds is len c' (lo.map a.eval) (hi.map a.eval) (mx.map a.eval)).run P w = .ok (l, h, m') w) ∧ l ≤ h ∧ h ≤ m ∧ m ≤ cap ∧ (m' = m ∨ (m = cap ∧ m' = c')) := by
  unfold bnds at hb
  rcases cOo_ok hE h3 with ⟨rfl, rfl⟩ | ⟨xm, zm, rfl, rfl, vm⟩
  · simp only at hb
    rcases cOo_ok hE h2 with ⟨rfl, rfl⟩ | ⟨xh, zh, rfl, rfl, vh⟩
    · simp only at hb
      rcases cOo_ok hE h1 with ⟨rfl, rfl⟩ | ⟨xl, zl, rfl, rfl, vl⟩
      · simp only [Option.some.injEq, Prod.mk.injEq] at hb
        obtain ⟨rfl, rfl, rfl⟩ := hb
        exact ⟨c', fun w => by simp [Instr.sliceBounds], by omega, by omega, by omega, .inr ⟨rfl, rfl⟩⟩
      · split at hb
        · cases hb
        · rename_i hl
          simp only [Option.some.injEq, Prod.mk.injEq] at hb
          obtain ⟨rfl, rfl, rfl⟩ := hb
          exact ⟨c', fun w => by simp [Instr.sliceBounds, bnd_ok vl hl (Nat.le_refl _)], bnd_le hl, by omega, by omega, .inr ⟨rfl, rfl⟩⟩
    · split at hb
      · cases hb
      · rename_i hh
        rcases cOo_ok hE h1 with ⟨rfl, rfl⟩ | ⟨xl, zl, rfl, rfl, vl⟩
        · simp only [Option.some.injEq, Prod.mk.injEq] at hb
          obtain ⟨rfl, rfl, rfl⟩ := hb
          exact ⟨c', fun w => by simp [Instr.sliceBounds, bnd_ok vh hh hcap], by omega, bnd_le hh, by omega, .inr ⟨rfl, rfl⟩⟩
        · split at hb
          · cases hb
          · rename_i hl
            simp only [Option.some.injEq, Prod.mk.injEq] at hb
            obtain ⟨rfl, rfl, rfl⟩ := hb
            exact ⟨c', fun w => by simp [Instr.sliceBounds, bnd_ok vh hh hcap, bnd_ok vl hl (Nat.le_refl _)], bnd_le hl, bnd_le hh, by omega, .inr ⟨rfl, rfl⟩⟩
  · split at hb
    · cases hb
    · rename_i hm
      simp only at hm
      rcases cOo_ok hE h2 with ⟨rfl, rfl⟩ | ⟨xh, zh, rfl, rfl, vh⟩
      · simp at hb
      · simp only at hb
        split at hb
        · cases hb
        · rename_i hh
          rcases cOo_ok hE h1 with ⟨rfl, rfl⟩ | ⟨xl, zl, rfl, rfl, vl⟩
          · simp only [Option.some.injEq, Prod.mk.injEq] at hb
            obtain ⟨rfl, rfl, rfl⟩ := hb
            exact ⟨_, fun w => by simp [Instr.sliceBounds, bnd_ok vm hm hcap, bnd_ok vh hh (Nat.le_refl _)], by omega, bnd_le hh, bnd_le hm, .inl rfl⟩
          · split at hb
            · cases hb
            · rename_i hl
              simp only [Option.some.injEq, Prod.mk.injEq] at hb
              obtain ⟨rfl, rfl, rfl⟩ := hb
              exact ⟨_, fun w => by simp [Instr.sliceBounds, bnd_ok vm hm hcap, bnd_ok vh hh (Nat.le_refl _), bnd_ok vl hl (Nat.le_refl _)], bnd_le hl, bnd_le hh, bnd_le hm, .inl rfl⟩
theorem extract_list (x : ByteArray) (l h : Nat) : (x.extract l h).data.toList = (x.data.toList.take h).drop l := by
  rw [ByteArray.data_extract]
  simp [List.extract_eq_take_drop, List.drop_take]
theorem fold_set : ∀ (v : List Value) (off k : Nat) (cs : Array Value),
    ((v.zipIdx k).foldl (fun (cs : Array Value) (p : Value × Nat) => cs.setIfInBounds (off + p.2) p.1) cs).size = cs.size ∧
    ∀ i : Nat, ((v.zipIdx k).foldl (fun (cs : Array Value) (p : Value × Nat) => cs.setIfInBounds (off + p.2) p.1) cs)[i]? = if off + k ≤ i ∧ i < off + k + v.length ∧ i < cs.size then v[i - (off + k)]? else cs[i]?
  | [], off, k, cs => ⟨rfl, fun i => by simp; omega⟩
  | y :: v, off, k, cs => by
    simp only [List.zipIdx_cons, List.foldl_cons]
    obtain ⟨h1, h2⟩ := fold_set v off (k + 1) (cs.setIfInBounds (off + k) y)
    refine ⟨by rw [h1]; simp, fun i => ?_⟩
    rw [h2 i]
    simp only [Array.size_setIfInBounds, List.length_cons]
    by_cases c : off + (k + 1) ≤ i ∧ i < off + (k + 1) + v.length ∧ i < cs.size
    · rw [if_pos c, if_pos (by omega)]
      rw [show i - (off + k) = i - (off + (k + 1)) + 1 by omega]
      simp
    · rw [if_neg c]
      by_cases c2 : i = off + k
      · subst c2
        by_cases c3 : off + k < cs.size
        · rw [if_pos (by omega)]; simp [c3]
        · rw [if_neg (by omega)]; simp [c3]
      · rw [if_neg (by omega)]
        rw [Array.getElem?_setIfInBounds, if_neg (by omega)]
theorem lay_ok (hE : ER μ N e a.tmps) {place : Nat → Option (Nat × Nat)} : ∀ {l : List (Nat × Operand)} {r : List (Nat × Nat × O)} {cs : List AV} {cs' : List Value} {out : List AV},
    cParts place l = some r → VRL μ cs cs' → lay e cs r = some out →
    ∃ out', VRL μ out out' ∧ Instr.fill place cs'.toArray (l.map fun (i, x) => (i, a.eval x)) = some out'.toArray
  | [], r, cs, cs', out, hp, hc, hl => by
    simp [cParts] at hp; subst hp
    simp only [lay, Option.some.injEq] at hl; subst hl
    exact ⟨cs', hc, rfl⟩
  | (i, x) :: l, r, cs, cs', out, hp, hc, hl => by
    simp only [cParts, List.mapM_cons, Option.bind_eq_bind, Option.bind_eq_some_iff] at hp
    obtain ⟨q, hq, r', hr', he⟩ := hp
    cases he
    split at hq
    · rename_i off z o hpl hx
      cases hq
      simp only [lay] at hl
      split at hl
      · rename_i hcond
        obtain ⟨g1, g2, g3⟩ := hcond
        have hv := (cO_ok hE hx).cells
        have hlen := hv.length
        have hcl := hc.length
        have hnew : VRL μ (cs.take off ++ (ev e o).cells ++ cs.drop (off + z)) (cs'.take off ++ (a.eval x).cells.toList ++ cs'.drop (off + z)) := ((hc.take off).append hv).append (hc.drop _)
        obtain ⟨out', ho1, ho2⟩ := lay_ok hE hr' hnew hl
        refine ⟨out', ho1, ?_⟩
        simp only [List.map_cons, Instr.fill, hpl]
        have hsz : (a.eval x).cells.size = z := by rw [← Array.length_toList, hlen, g1]
        rw [if_neg (by simp; omega)]
        rw [← ho2]
        have hf := fold_set (a.eval x).cells.toList off 0 cs'.toArray
        have : (a.eval x).cells.zipIdx.foldl (fun (cs : Array Value) (p : Value × Nat) => cs.setIfInBounds (off + p.2) p.1) cs'.toArray = (cs'.take off ++ (a.eval x).cells.toList ++ cs'.drop (off + z)).toArray := by
          rw [← Array.foldl_toList, Array.toList_zipIdx]
          apply Array.ext'
          apply List.ext_getElem?
          intro i
          have h2 := hf.2 i
          rw [← Array.getElem?_toList] at h2
          rw [h2]
          rw [List.getElem?_append, List.getElem?_append]
          simp only [List.size_toArray, List.length_append, List.length_take, Nat.add_zero, List.getElem?_toArray, List.getElem?_take, List.getElem?_drop]
          have hm : min off cs'.length = off := by omega
          rw [hm, hlen, g1]
          by_cases c1 : i < off
          · rw [if_neg (by omega), if_pos (by omega), if_pos c1, if_pos c1]
          · by_cases c2 : i < off + z
            · rw [if_pos (by omega), if_pos (by omega), if_neg c1]
            · rw [if_neg (by omega), if_neg (by omega)]
              congr 1
              omega
        exact congrArg (fun c => Instr.fill place c (l.map fun (i, x) => (i, a.eval x))) this
      · cases hl
    · cases hq
end
end Go.AM
