/- Sorting a row of numbers in place: the plain law of insertion, and the row in memory. -/
import Derived.Test.YtnbiklilbdgmmaaGreatA8
import Derived.ChangeSame
import Derived.Below
set_option linter.constructorNameAsVariable false
set_option linter.unusedVariables false
set_option linter.unusedSimpArgs false
namespace Go.AM
open Go
/-- H1 is H, but that the row X holds the numbers d. -/
structure At (H : Hp) (X : Nat) (d : List Int) (H1 : Hp) : Prop where
  nx : H1.nx = H.nx
  oth : ∀ a, a ≠ X → H1.get a = H.get a
  row : H1.get X = some (.c .w (d.map (AV.i .i64)))
theorem At.self {H : Hp} {X : Nat} {d : List Int} (h : H.get X = some (.c .w (d.map (AV.i .i64)))) : At H X d H := ⟨rfl, fun _ _ => rfl, h⟩
section
variable {H H1 : Hp} {X L j : Nat} {d : List Int}
theorem ia1 (h : j < L) : iaV (.sl X 1 0 L L) (.i .i64 j) 1 = some (.p X j) := by
  rw [iaV_sl (by omega) (by omega)]; simp
theorem At.ld (h : At H X d H1) (hj : j < d.length) : ldV H1 (.p X j) = some (.i .i64 d[j]) := by
  rw [ldV_p h.row]; simp [hj]
theorem At.st (h : At H X d H1) (hj : j < d.length) (v : Int) : ∃ H2, stV H1 (.p X j) (.i .i64 v) 1 = some (.tp [], H2) ∧ At H X (d.set j v) H2 := by
  refine ⟨_, stV_1 h.row (by simpa using hj) rfl, h.nx, fun a ha => ?_, ?_⟩
  · rw [Hp.get_set, if_neg ha, h.oth a ha]
  · rw [Hp.get_set, if_pos rfl, List.map_set]
theorem wr64s (h : 0 < j) (h' : j < 9223372036854775807) : wr .i64 ((j : Int) - 1) = ((j - 1 : Nat) : Int) := by rw [wr64 (by omega) (by omega)]; omega
end
/-- In order up to i, but for what stands at j. -/
def Ord (R : Int → Int → Prop) (d : List Int) (i j : Nat) : Prop := ∀ p q x y, p < q → q ≤ i → q ≠ j → d[p]? = some x → d[q]? = some y → R x y
section
variable {R : Int → Int → Prop} {d : List Int} {i j : Nat}
theorem Ord.start (h : ∀ p q x y, p < q → q < i → d[p]? = some x → d[q]? = some y → R x y) : Ord R d i i := fun p q x y h1 h2 h3 => h p q x y h1 (by omega)
theorem Ord.zero (h : Ord R d i 0) : ∀ p q x y, p < q → q < i + 1 → d[p]? = some x → d[q]? = some y → R x y := fun p q x y h1 h2 => h p q x y h1 (by omega) (by omega)
theorem Ord.stop (tr : ∀ a b c, R a b → R b c → R a c) (h : Ord R d i j) (hj : 0 < j) (hl : j < d.length) (hr : R d[j - 1] d[j]) : ∀ p q x y, p < q → q < i + 1 → d[p]? = some x → d[q]? = some y → R x y := by
  intro p q x y h1 h2 h3 h4
  by_cases hq : q = j
  · subst hq
    have e1 : y = d[q] := by rw [List.getElem?_eq_getElem hl] at h4; exact (Option.some.inj h4).symm
    subst e1
    by_cases hp : p = q - 1
    · subst hp
      rw [List.getElem?_eq_getElem (by omega)] at h3
      cases h3; exact hr
    · exact tr _ _ _ (h p (q - 1) x _ (by omega) (by omega) (by omega) h3 (List.getElem?_eq_getElem (by omega))) hr
  · exact h p q x y h1 (by omega) hq h3 h4
theorem Ord.swap (h : Ord R d i j) (hj : 0 < j) (hl : j < d.length) (hji : j ≤ i) (hr : R d[j] d[j - 1]) : Ord R ((d.set j d[j - 1]).set (j - 1) d[j]) i (j - 1) := by
  have g : ∀ m, ((d.set j d[j - 1]).set (j - 1) d[j])[m]? = if m = j - 1 then some d[j] else if m = j then some d[j - 1] else d[m]? := by
    intro m
    rw [List.getElem?_set, List.getElem?_set]
    simp only [List.length_set]
    by_cases h1 : m = j - 1
    · rw [if_pos h1.symm, if_pos h1, if_pos (by omega)]
    · rw [if_neg (fun c => h1 c.symm), if_neg h1]
      by_cases h2 : m = j
      · rw [if_pos h2.symm, if_pos h2, if_pos hl]
      · rw [if_neg (fun c => h2 c.symm), if_neg h2]
  intro p q x y h1 h2 h3 h4 h5
  rw [g] at h4 h5
  have ej : d[j]? = some d[j] := List.getElem?_eq_getElem hl
  have ej1 : d[j - 1]? = some d[j - 1] := List.getElem?_eq_getElem (by omega)
  rw [if_neg h3] at h5
  by_cases q1 : q = j
  · subst q1
    rw [if_pos rfl] at h5; cases h5
    by_cases p1 : p = q - 1
    · rw [if_pos p1] at h4; cases h4; exact hr
    · rw [if_neg p1, if_neg (by omega)] at h4
      exact h p (q - 1) x _ (by omega) (by omega) (by omega) h4 ej1
  · rw [if_neg q1] at h5
    by_cases p1 : p = j - 1
    · rw [if_pos p1] at h4; cases h4
      exact h j q _ y (by omega) h2 q1 ej h5
    · rw [if_neg p1] at h4
      by_cases p2 : p = j
      · rw [if_pos p2] at h4; cases h4
        exact h (j - 1) q _ y (by omega) h2 q1 ej1 h5
      · rw [if_neg p2] at h4
        exact h p q x y h1 h2 q1 h4 h5
theorem pw_of (h : ∀ p q x y, p < q → q < d.length → d[p]? = some x → d[q]? = some y → R x y) : d.Pairwise R := by
  rw [List.pairwise_iff_getElem]
  intro p q hp hq hpq
  exact h p q _ _ hpq hq (List.getElem?_eq_getElem hp) (List.getElem?_eq_getElem hq)
theorem swap_perm (hj : 0 < j) (hl : j < d.length) : ((d.set j d[j - 1]).set (j - 1) d[j]).Perm d := List.set_set_perm hl (by omega)
end
end Go.AM
/- Sorted lists of numbers; small rules of contracts. -/
set_option linter.unusedVariables false
namespace Go.AM
open Go
def insR (r : Int → Int → Bool) (a : Int) : List Int → List Int
  | [] => [a]
  | b :: l => if r a b = true then a :: b :: l else b :: insR r a l
def sortR (r : Int → Int → Bool) : List Int → List Int
  | [] => []
  | a :: l => insR r a (sortR r l)
section
variable {r : Int → Int → Bool}
theorem insR_perm (a : Int) : ∀ l : List Int, (insR r a l).Perm (a :: l)
  | [] => .refl _
  | b :: l => by
    unfold insR; split
    · exact .refl _
    · exact ((insR_perm a l).cons b).trans (.swap _ _ _)
theorem sortR_perm : ∀ l : List Int, (sortR r l).Perm l
  | [] => .refl _
  | a :: l => (insR_perm a _).trans ((sortR_perm l).cons a)
theorem insR_pw (tot : ∀ a b, r a b = false → r b a = true) (tr : ∀ a b c, r a b = true → r b c = true → r a c = true) (a : Int) : ∀ l : List Int, l.Pairwise (fun a b => r a b = true) → (insR r a l).Pairwise (fun a b => r a b = true)
  | [], _ => by simp [insR]
  | b :: l, h => by
    rw [List.pairwise_cons] at h
    unfold insR; split
    · rename_i hab
      rw [List.pairwise_cons]
      refine ⟨fun c hc => ?_, List.pairwise_cons.2 h⟩
      rcases List.mem_cons.1 hc with rfl | hc
      · exact hab
      · exact tr _ _ _ hab (h.1 c hc)
    · rename_i hab
      rw [List.pairwise_cons]
      refine ⟨fun c hc => ?_, insR_pw tot tr a l h.2⟩
      rcases List.mem_cons.1 ((insR_perm a l).mem_iff.1 hc) with rfl | hc
      · exact tot _ _ (by simpa using hab)
      · exact h.1 c hc
theorem sortR_pw (tot : ∀ a b, r a b = false → r b a = true) (tr : ∀ a b c, r a b = true → r b c = true → r a c = true) : ∀ l : List Int, (sortR r l).Pairwise (fun a b => r a b = true)
  | [] => .nil
  | a :: l => insR_pw tot tr a _ (sortR_pw tot tr l)
/-- Only one order. -/
theorem sortR_eq (tot : ∀ a b, r a b = false → r b a = true) (tr : ∀ a b c, r a b = true → r b c = true → r a c = true) (anti : ∀ a b, r a b = true → r b a = true → a = b) {d ks : List Int} (hp : d.Perm ks) (hs : d.Pairwise (fun a b => r a b = true)) : d = sortR r ks :=
  List.Perm.eq_of_pairwise (fun a b _ _ h1 h2 => anti a b h1 h2) hs (sortR_pw tot tr ks) (hp.trans (sortR_perm ks).symm)
end
theorem ent_of {P : Program} {f : Nat} {s : List (List DC)} {fn : AFn} (hf : cF P f s = some fn) : Ent P f := by
  unfold cF at hf
  split at hf
  · rename_i fn' hfn
    split at hf
    · rename_i c hb
      split at hf
      · split at hf
        · cases hf
        · rename_i hname
          exact ⟨_, c, hfn, hb, by simpa using hname⟩
      · cases hf
    · cases hf
  · cases hf
/-- Numbers not given hold nothing. -/
def Hp.ok (H : Hp) : Prop := ∀ a o, H.get a = some o → a < H.nx
theorem CT.wf {P : Program} {f : Nat} {args : List AV} {H : Hp} {K : AV → Hp → Prop} (he : Ent P f) (h : H.ok → CT P f args H K) : CT P f args H K :=
  ⟨he, fun Pr w0 μ w cargs R hv => (h fun a o ha => R.lt ha).2 Pr w0 μ w cargs R hv⟩
theorem Hp.ok.new {H : Hp} (h : H.ok) {ob : AO} {a : Nat} {o : AO} (ha : H.get a = some o) : (H.new ob).get a = some o := by
  rw [Hp.get_new, if_neg (by have := h a o ha; omega)]; exact ha
theorem flat_ints (l : List Int) : (l.map (AV.i .i64)).all AV.flat = true := by
  rw [List.all_eq_true]; intro x hx; obtain ⟨k, _, rfl⟩ := List.mem_map.1 hx; rfl
end Go.AM
namespace Go.AM
open Go
/-! ### A map of numbers -/
def mpV (H : Hp) (x : AV) : Option (List (AV × AV)) := match x with | .nm => some [] | .m r => H.map r | _ => none
def lkV (t : ET) (z : AV) (ok : Bool) (l : Option (List (AV × AV))) (k : AV) : Option AV := match l with
  | none => none
  | some l => if kOK t k then (match look t k l with
      | none => none
      | some (some (_, v)) => some (if ok then .tp [v, .b true] else v)
      | some none => some (if ok then .tp [z, .b false] else z)) else none
@[go_sem] theorem ro_lk {e : Env} {H : Hp} {t : ET} {z : AV} {x k : O} {ok : Bool} : RO.run e H (.lk t z x k ok) = lkV t z ok (mpV H (ev e x)) (ev e k) := rfl
def intEs (ps : List (Int × Int)) : List (AV × AV) := ps.map fun p => (.i .i64 p.1, .i .i64 p.2)
def dlOf (ps : List (Int × Int)) (k : Int) : Int := match ps with
  | [] => 0
  | p :: ps => if k = p.1 then p.2 else dlOf ps k
theorem lk_ints (ps : List (Int × Int)) (k : Int) : lkV .i (.i .i64 0) false (some (intEs ps)) (.i .i64 k) = some (.i .i64 (dlOf ps k)) := by
  have h : (look .i (.i .i64 k) (intEs ps) = some none ∧ dlOf ps k = 0) ∨ ∃ i, look .i (.i .i64 k) (intEs ps) = some (some (i, .i .i64 (dlOf ps k))) := by
    induction ps with
    | nil => exact .inl ⟨rfl, rfl⟩
    | cons p ps ih =>
      by_cases hk : k = p.1
      · exact .inr ⟨0, by simp [intEs, look, eqv, dlOf, hk]⟩
      · have hb : (k == p.1) = false := by simpa using hk
        rcases ih with ⟨h1, h2⟩ | ⟨i, h1⟩
        · refine .inl ⟨?_, by simp [dlOf, hk, h2]⟩
          simp only [intEs, List.map_cons, look, eqv, hb] at h1 ⊢
          simp [h1]
        · refine .inr ⟨i + 1, ?_⟩
          simp only [intEs, List.map_cons, look, eqv, hb] at h1 ⊢
          simp [h1, dlOf, hk]
  simp only [lkV, kOK]
  rcases h with ⟨h1, h2⟩ | ⟨i, h1⟩
  · simp [h1, h2]
  · simp [h1]
/-- A cell that holds an order's address; in it the map of what is due. -/
def OrdAt (H : Hp) (q oq : Nat) (ps : List (Int × Int)) : Prop := ∃ od oo x, ldV H (.p q oq) = some (.p od oo) ∧ ldV H (.p od oo) = some x ∧ mpV H x = some (intEs ps)
def cmpI (a b : Int) : Int := if a < b then -1 else if b < a then 1 else 0
def cfO (ps : List (Int × Int)) (a b : Int) : Int := if cmpI (dlOf ps a) (dlOf ps b) ≠ 0 then cmpI (dlOf ps a) (dlOf ps b) else cmpI a b
/-- By what is due, then by number. -/
def rO (ps : List (Int × Int)) (a b : Int) : Bool := decide (dlOf ps a < dlOf ps b ∨ (dlOf ps a = dlOf ps b ∧ a ≤ b))
section
variable {ps : List (Int × Int)}
theorem rO_tot (a b : Int) (h : rO ps a b = false) : rO ps b a = true := by
  simp only [rO, decide_eq_false_iff_not, decide_eq_true_eq] at *; omega
theorem rO_tr (a b c : Int) (h1 : rO ps a b = true) (h2 : rO ps b c = true) : rO ps a c = true := by
  simp only [rO, decide_eq_true_eq] at *; omega
theorem rO_anti (a b : Int) (h1 : rO ps a b = true) (h2 : rO ps b a = true) : a = b := by
  simp only [rO, decide_eq_true_eq] at *; omega
theorem cmpI_lt {a b : Int} : cmpI a b < 0 ↔ a < b := by unfold cmpI; split <;> (try split) <;> omega
theorem cfO_lt {a b : Int} : cfO ps a b < 0 ↔ (dlOf ps a < dlOf ps b ∨ (dlOf ps a = dlOf ps b ∧ a < b)) := by
  unfold cfO cmpI; split <;> (repeat' split at *) <;> omega
theorem cfO_r1 (a b : Int) (h : ¬ cfO ps b a < 0) : rO ps a b = true := by
  rw [cfO_lt] at h
  simp only [rO, decide_eq_true_eq]; omega
theorem cfO_r2 (a b : Int) (h : cfO ps a b < 0) : rO ps a b = true := by
  rw [cfO_lt] at h
  simp only [rO, decide_eq_true_eq]; omega
end
end Go.AM
namespace Go.AM
open Go
theorem no_bs2 {e : Env} {i j : Nat} {x y : Int} (h1 : e.g i = .i .i64 x) (h2 : e.g j = .i .i64 y) : NO.run e (.bs 1 [.i .i64 0] 2 [(0, 1, .t i), (1, 1, .t j)]) = some (.c .w [.i .i64 x, .i .i64 y], fun a => .sl a 1 0 2 2) := by
  simp [NO.run, rep, lay, ev, h1, h2, AV.cells, AV.one]
end Go.AM
/- From a contract to a law's shell: nothing of what was there turns. -/
set_option linter.unusedVariables false
namespace Go.AM
open Go Go.ChangeShapes Go.WideShapes
section
variable {H : Type} {enc : TypeId × Value → H} {P : Program}
/-- As the kit's post_of_same, but asking for the blocks that were there alone. -/
theorem post_of_old {f : Func} {s : ChangeSpec} {apart fresh handsOn again : Bool} {W W' : World} {args : Array Value} {v : Value} {ds gs : List (DataW H)} {before pa pv : List MemPlace}
    (hW : DataW.Whole enc P f.params.toList s.vars apart W args.toList ds gs before)
    (hres : ∀ (b : Nat) (sp : Nat → Bool) (hd : Bool), DataW.TrodAll enc P W' b sp hd f.resultTypes.toList (v.resultList f.resultTypes.size) (s.fn H (ds ++ gs)).results [])
    (hargs : ∀ sp : Nat → Bool, (∀ p ∈ before, sp p.block = true) → DataW.TrodAll enc P W' 0 sp true f.params.toList args.toList (s.fn H (ds ++ gs)).args pa)
    (hvars : ∀ sp : Nat → Bool, (∀ p ∈ before, sp p.block = true) → DataW.TrodVars enc P W' sp s.vars (s.fn H (ds ++ gs)).vars pv)
    (hps : before = pa ++ pv) (hb : RowKit.Below W.heap.size W W')
    (hok : ∀ (j : Nat) (t : TypeId) (r : Value), f.resultTypes[j]? = some t → (v.resultList f.resultTypes.size)[j]? = some r → Value.okWide P W' .any 0 t r) :
    s.post enc P f apart fresh handsOn again W args v W' := by
  have hold : ∀ p ∈ before, (fun b => decide (b < W.heap.size)) p.block = true := fun p hp => by simpa using hW.lt p hp
  have hlt := hW.lt
  refine ⟨ds, gs, before, [], pa, pv, hW, hres _ _ _, hargs _ hold, hvars _ hold, World.keptBut_mono (fun p hp => ⟨hp, ?_⟩) (hb.frame (· ∈ before)), fun _ => ?_⟩
  · rw [hps, List.mem_append] at hp
    exact Or.inr hp
  · obtain ⟨_, _, _, _, _, hz, hn⟩ := hW
    refine ⟨hok, _, _, ([] ++ pa) ++ pv, ⟨[] ++ pa, pv, trodAll_append (hargs _ (fun _ _ => rfl)) (hres _ _ _), hvars _ (fun _ _ => rfl), rfl, ?_, ?_⟩, ?_⟩
    · intro b off hp
      have hp' : MemPlace.cell b off ∈ before := by rw [hps]; simpa using hp
      rw [hb.frozen (hlt _ hp')]
      exact hz b off hp'
    · intro ha
      have := hn ha
      rw [hps] at this
      simpa using this
    · intro p hp _
      rw [hps]
      simpa using hp
end
theorem Rel.below {w w' : World} {μ : Mu} {h : Nat → Option AO} {nx : Nat} (R : Rel (fun b => b < w.heap.size) w μ h nx w') : RowKit.Below w.heap.size w w' where
  os := R.os
  tape := R.tape
  output := R.out
  size := by
    rcases Nat.eq_zero_or_pos w.heap.size with h0 | h0
    · rw [h0]; exact Nat.zero_le _
    · have := (R.prot (w.heap.size - 1) (Nat.sub_lt h0 Nat.one_pos)).2
      exact Nat.le_of_pred_lt this
  block := fun b hb => (R.prot b hb).1
/-- A law without arguments. -/
theorem closed_law {P : Program} {f : Nat} (h : CT P f [] Hp.empty fun v _ => v = .b true) (w : World) : Calls P f #[] w fun e w' => e = .returned (.bool true) ∧ RowKit.Below w.heap.size w w' := by
  have no : ∀ a o, Hp.empty.get a ≠ some o := fun a o ha => by cases ha
  have R : Rel (fun b => b < w.heap.size) w (fun _ => none) Hp.empty.get Hp.empty.nx w := {
    obj := fun a o ha => absurd ha (no a o)
    sep := fun a1 a2 o1 o2 b1 b2 _ h1 => absurd h1 (no a1 o1)
    new := fun _ _ => rfl
    prot := fun B hB => ⟨rfl, hB⟩
    away := fun a o bi ha => absurd ha (no a o)
    os := rfl
    tape := rfl
    out := rfl }
  refine (h.2 _ _ _ _ [] R .nil).mono fun en w' ⟨cv, v, H', μ', q1, q2, q3, _, _, q6⟩ => ?_
  subst q2
  cases q3
  exact ⟨q1, q6.below⟩
end Go.AM
