/- The orders of what is due: comparison, and the sorters over the keys of a map. -/
import Derived.Test.YtnbiklilbdgmmaaGreatB1
import Derived.Test.YtnbiklilbdgmmaaGreatM2
import Derived.Test.YtnbiklilbdgmmaaGreatM3
set_option linter.constructorNameAsVariable false
set_option linter.unusedVariables false
set_option linter.unusedSimpArgs false
namespace Go.AM.Sb
open Go Go.AM Go.AM.SbS
theorem cmp_ct (a b : Int) (H : Hp) : CT P 121 [.i .i64 a, .i .i64 b] H fun v H1 => v = .i .i64 (cmpI a b) ∧ H1 = H := by
  refine CT.of_w hm e121 ?_ (by show 2 ≤ 20; omega)
  simp only [a121, go_sem, ↓reduceIte, Nat.reduceEqDiff, Nat.reduceAdd]
  refine wCa_of (nan_ct a H) ?_
  rintro v H1 ⟨rfl, rfl⟩ _
  simp only [go_sem, ↓reduceIte, Nat.reduceEqDiff, Nat.reduceAdd]
  refine wCa_of (nan_ct b H1) ?_
  rintro v H2 ⟨rfl, rfl⟩ _
  simp only [go_sem, ↓reduceIte, Nat.reduceEqDiff, Nat.reduceAdd]
  by_cases h1 : a < b
  · simp only [go_sem, ↓reduceIte, Nat.reduceEqDiff, Nat.reduceAdd, h1, decide_true]
    simp [cmpI, h1]
  · by_cases h2 : b < a
    · simp only [go_sem, ↓reduceIte, Nat.reduceEqDiff, Nat.reduceAdd, h1, h2, decide_true, decide_false]
      simp [cmpI, h1, h2]
    · simp only [go_sem, ↓reduceIte, Nat.reduceEqDiff, Nat.reduceAdd, h1, h2, decide_false]
      simp [cmpI, h1, h2]
theorem or_ct (a b : Int) {H : Hp} {X : Nat} {f : Fl} (hX : H.get X = some (.c f [.i .i64 a, .i .i64 b])) : CT P 120 [.sl X 1 0 2 2] H fun v H1 => v = .i .i64 (if a ≠ 0 then a else b) ∧ H1 = H := by
  refine CT.of_w hm e120 ?_ (by show 1 ≤ 18; omega)
  simp only [a120, go_sem, ↓reduceIte, Nat.reduceEqDiff, Nat.reduceAdd]
  have l0 : ldV H (.p X 0) = some (.i .i64 a) := by rw [ldV_p hX]; rfl
  have l1 : ldV H (.p X 1) = some (.i .i64 b) := by rw [ldV_p hX]; rfl
  have i0 : iaV (.sl X 1 0 2 2) (.i .i64 ((0 : Nat) : Int)) 1 = some (.p X 0) := ia1 (by omega)
  have i1 : iaV (.sl X 1 0 2 2) (.i .i64 ((1 : Nat) : Int)) 1 = some (.p X 1) := ia1 (by omega)
  refine wV_inv hm (fun r e H1 => ∃ i : Nat, i + r = 2 ∧ e.g 3 = .i .i64 0 ∧ e.g 6 = .sl X 1 0 2 2 ∧ e.g 7 = .i .i64 2 ∧ e.g 8 = .i .i64 i ∧ (1 ≤ i → a = 0) ∧ (2 ≤ i → b = 0) ∧ H1 = H) 2 ⟨0, by omega, by simp only [go_sem, ↓reduceIte, Nat.reduceEqDiff, Nat.reduceAdd], by simp only [go_sem, ↓reduceIte, Nat.reduceEqDiff, Nat.reduceAdd], by simp only [go_sem, ↓reduceIte, Nat.reduceEqDiff, Nat.reduceAdd]; rfl, by simp only [go_sem, ↓reduceIte, Nat.reduceEqDiff, Nat.reduceAdd]; rfl, by omega, by omega, rfl⟩ ?_
  rintro r e H1 ⟨i, h1, h2, h3, h4, h5, h6, h7, rfl⟩
  have hi : i = 0 ∨ i = 1 ∨ i = 2 := by omega
  rcases hi with rfl | rfl | rfl
  · simp only [go_sem, ↓reduceIte, Nat.reduceEqDiff, Nat.reduceAdd, h2, h3, h4, h5, show decide (((0 : Nat) : Int) < 2) = true by decide, i0, l0]
    by_cases ha : a = 0
    · simp only [go_sem, ↓reduceIte, Nat.reduceEqDiff, Nat.reduceAdd, ha, bne_self_eq_false, h5]
      refine ⟨r - 1, by omega, Ivv.mk ⟨1, by omega, ?_⟩⟩
      simp only [go_sem, ↓reduceIte, Nat.reduceEqDiff, Nat.reduceAdd, h2, h3, h4]
      exact ⟨congrArg (AV.i .i64) (by decide), by omega⟩
    · have : (a != 0) = true := by simpa using ha
      simp only [go_sem, ↓reduceIte, Nat.reduceEqDiff, Nat.reduceAdd, this]
      simp [ha]
  · have ha := h6 (by omega)
    simp only [go_sem, ↓reduceIte, Nat.reduceEqDiff, Nat.reduceAdd, h2, h3, h4, h5, show decide (((1 : Nat) : Int) < 2) = true by decide, i1, l1]
    by_cases hb : b = 0
    · simp only [go_sem, ↓reduceIte, Nat.reduceEqDiff, Nat.reduceAdd, hb, bne_self_eq_false, h5]
      refine ⟨r - 1, by omega, Ivv.mk ⟨2, by omega, ?_⟩⟩
      simp only [go_sem, ↓reduceIte, Nat.reduceEqDiff, Nat.reduceAdd, h2, h3, h4]
      exact ⟨congrArg (AV.i .i64) (by decide), by omega⟩
    · have : (b != 0) = true := by simpa using hb
      simp only [go_sem, ↓reduceIte, Nat.reduceEqDiff, Nat.reduceAdd, this]
      simp [ha]
  · simp only [go_sem, ↓reduceIte, Nat.reduceEqDiff, Nat.reduceAdd, h2, h3, h4, h5, show decide (((2 : Nat) : Int) < 2) = false by decide]
    simp [h6, h7]
theorem all1_ct {H : Hp} {q oq : Nat} {ps : List (Int × Int)} (ho : OrdAt H q oq ps) (a b : Int) : CT P 119 [.i .i64 a, .i .i64 b, .p q oq] H fun v H1 => v = .i .i64 (cfO ps a b) ∧ H1 = H := by
  refine CT.wf (ent_of e119) fun hok => ?_
  refine CT.still (K := fun v H1 => v = .i .i64 (cfO ps a b) ∧ ∃ ob, H1 = H.new ob) ?_ fun v H' ⟨h1, ob, h2⟩ _ => ?_
  · obtain ⟨od, oo, x, o1, o2, o3⟩ := ho
    refine CT.of_w hm e119 ?_ (by show 3 ≤ 24; omega)
    simp only [a119, go_sem, ↓reduceIte, Nat.reduceEqDiff, Nat.reduceAdd, o1, o2, o3, lk_ints, Nat.add_zero]
    refine wdCa_of (cmp_ct _ _ H) ?_
    rintro v H1 ⟨rfl, rfl⟩ _
    simp only [go_sem, ↓reduceIte, Nat.reduceEqDiff, Nat.reduceAdd]
    refine wdCa_of (cmp_ct _ _ H1) ?_
    rintro v H2 ⟨rfl, rfl⟩ _
    simp only [go_sem, ↓reduceIte, Nat.reduceEqDiff, Nat.reduceAdd]
    rw [show ∀ e : Env, NO.run e (.bs 1 [.i .i64 0] 2 [(0, 1, 18), (1, 1, 21)]) = NO.run e (.bs 1 [.i .i64 0] 2 [(0, 1, .t 18), (1, 1, .t 21)]) from fun _ => rfl, no_bs2 (x := cmpI (dlOf ps a) (dlOf ps b)) (y := cmpI a b) (by simp only [go_sem, ↓reduceIte, Nat.reduceEqDiff, Nat.reduceAdd]) (by simp only [go_sem, ↓reduceIte, Nat.reduceEqDiff, Nat.reduceAdd])]
    simp only [go_sem, ↓reduceIte, Nat.reduceEqDiff, Nat.reduceAdd]
    refine wdCa_of (or_ct (cmpI (dlOf ps a) (dlOf ps b)) (cmpI a b) (f := .w) (by rw [Hp.get_new, if_pos rfl])) ?_
    rintro v H3 ⟨rfl, rfl⟩ _
    simp only [go_sem, ↓reduceIte, Nat.reduceEqDiff, Nat.reduceAdd]
    exact ⟨rfl, _, rfl⟩
  · subst h1; subst h2
    exact ⟨fun a o ha => hok.new ha, rfl, rfl⟩
/-! ### No row at all -/
theorem insON_ct (H : Hp) : CT P 316 [.ns, .i .i64 0, .i .i64 0] H fun v H1 => H1 = H := by
  refine CT.of_w hm e316 ?_ (by show 3 ≤ 49; omega)
  have w1 : wr .i64 (0 + 1) = 1 := by decide
  simp only [a316, go_sem, ↓reduceIte, Nat.reduceEqDiff, Nat.reduceAdd, w1]
  refine wV_inv hm (fun n e H1 => e.g 2 = .i .i64 0 ∧ e.g 6 = .i .i64 1 ∧ H1 = H) 0 ⟨by simp only [go_sem, ↓reduceIte, Nat.reduceEqDiff, Nat.reduceAdd], by simp only [go_sem, ↓reduceIte, Nat.reduceEqDiff, Nat.reduceAdd], rfl⟩ ?_
  rintro n e H1 ⟨h2, h6, rfl⟩
  simp only [go_sem, ↓reduceIte, Nat.reduceEqDiff, Nat.reduceAdd, h2, h6, show decide ((1 : Int) < 0) = false by decide]
theorem insCN_ct (H : Hp) (c : AV) : CT P 286 [.ns, .i .i64 0, .i .i64 0, c] H fun v H1 => H1 = H := by
  refine CT.of_w hm e286 ?_ (by show 4 ≤ 53; omega)
  have w1 : wr .i64 (0 + 1) = 1 := by decide
  simp only [a286, go_sem, ↓reduceIte, Nat.reduceEqDiff, Nat.reduceAdd, w1]
  refine wV_inv hm (fun n e H1 => e.g 2 = .i .i64 0 ∧ e.g 8 = .i .i64 1 ∧ H1 = H) 0 ⟨by simp only [go_sem, ↓reduceIte, Nat.reduceEqDiff, Nat.reduceAdd], by simp only [go_sem, ↓reduceIte, Nat.reduceEqDiff, Nat.reduceAdd], rfl⟩ ?_
  rintro n e H1 ⟨h2, h6, rfl⟩
  simp only [go_sem, ↓reduceIte, Nat.reduceEqDiff, Nat.reduceAdd, h2, h6, show decide ((1 : Int) < 0) = false by decide]
theorem pdqON_ct (H : Hp) (lim : Int) : CT P 307 [.ns, .i .i64 0, .i .i64 0, .i .i64 lim] H fun v H1 => H1 = H := by
  refine CT.of_w hm e307 ?_ (by show 4 ≤ 134; omega)
  have w0 : wr .i64 ((0 : Int) - 0) = 0 := by decide
  simp only [a307, go_sem, ↓reduceIte, Nat.reduceEqDiff, Nat.reduceAdd]
  refine wV_inv hm (fun n e H1 => e.g 0 = .ns ∧ e.g 1 = .i .i64 0 ∧ e.g 2 = .i .i64 0 ∧ H1 = H) 0 ⟨by simp only [go_sem, ↓reduceIte, Nat.reduceEqDiff, Nat.reduceAdd], by simp only [go_sem, ↓reduceIte, Nat.reduceEqDiff, Nat.reduceAdd], by simp only [go_sem, ↓reduceIte, Nat.reduceEqDiff, Nat.reduceAdd], rfl⟩ ?_
  rintro n e H1 ⟨h0, h1, h2, rfl⟩
  simp only [go_sem, ↓reduceIte, Nat.reduceEqDiff, Nat.reduceAdd, h0, h1, h2, w0, show decide ((0 : Int) ≤ 12) = true by decide]
  refine wCa_of (insON_ct _) ?_
  rintro v H2 hq _
  simp only [go_sem, ↓reduceIte, Nat.reduceEqDiff, Nat.reduceAdd]
  exact hq
theorem pdqCN_ct (H : Hp) (lim : Int) (c : AV) : CT P 255 [.ns, .i .i64 0, .i .i64 0, .i .i64 lim, c] H fun v H1 => H1 = H := by
  refine CT.of_w hm e255 ?_ (by show 5 ≤ 148; omega)
  have w0 : wr .i64 ((0 : Int) - 0) = 0 := by decide
  simp only [a255, go_sem, ↓reduceIte, Nat.reduceEqDiff, Nat.reduceAdd]
  refine wV_inv hm (fun n e H1 => e.g 0 = .ns ∧ e.g 1 = .i .i64 0 ∧ e.g 2 = .i .i64 0 ∧ e.g 4 = c ∧ H1 = H) 0 ⟨by simp only [go_sem, ↓reduceIte, Nat.reduceEqDiff, Nat.reduceAdd], by simp only [go_sem, ↓reduceIte, Nat.reduceEqDiff, Nat.reduceAdd], by simp only [go_sem, ↓reduceIte, Nat.reduceEqDiff, Nat.reduceAdd], by simp only [go_sem, ↓reduceIte, Nat.reduceEqDiff, Nat.reduceAdd], rfl⟩ ?_
  rintro n e H1 ⟨h0, h1, h2, h4, rfl⟩
  simp only [go_sem, ↓reduceIte, Nat.reduceEqDiff, Nat.reduceAdd, h0, h1, h2, h4, w0, show decide ((0 : Int) ≤ 12) = true by decide]
  refine wCa_of (insCN_ct _ _) ?_
  rintro v H2 hq _
  simp only [go_sem, ↓reduceIte, Nat.reduceEqDiff, Nat.reduceAdd]
  exact hq
theorem sortN_ct (H : Hp) : CT P 284 [.ns] H fun v H1 => H1 = H := by
  refine CT.of_w hm e284 ?_ (by show 1 ≤ 11; omega)
  have w0 : wr .u64 0 = ((0 : Nat) : Int) := by decide
  simp only [a284, go_sem, ↓reduceIte, Nat.reduceEqDiff, Nat.reduceAdd, w0]
  refine wCa_of (len_ct 0 (by omega) H) ?_
  rintro v H1 ⟨rfl, rfl⟩ _
  simp only [go_sem, ↓reduceIte, Nat.reduceEqDiff, Nat.reduceAdd]
  refine wCa_of (pdqON_ct _ _) ?_
  rintro v H2 hq _
  simp only [go_sem, ↓reduceIte, Nat.reduceEqDiff, Nat.reduceAdd]
  exact hq
theorem sortFN_ct (H : Hp) (c : AV) : CT P 192 [.ns, c] H fun v H1 => H1 = H := by
  refine CT.of_w hm e192 ?_ (by show 2 ≤ 14; omega)
  have w0 : wr .u64 0 = ((0 : Nat) : Int) := by decide
  simp only [a192, go_sem, ↓reduceIte, Nat.reduceEqDiff, Nat.reduceAdd, w0]
  refine wCa_of (len_ct 0 (by omega) H) ?_
  rintro v H1 ⟨rfl, rfl⟩ _
  simp only [go_sem, ↓reduceIte, Nat.reduceEqDiff, Nat.reduceAdd]
  refine wCa_of (pdqCN_ct _ _ _) ?_
  rintro v H2 hq _
  simp only [go_sem, ↓reduceIte, Nat.reduceEqDiff, Nat.reduceAdd]
  exact hq
/-! ### Sorted, SortedFunc -/
/-- The keys that Collect hands back, in some order. -/
def Cll (H : Hp) (args : List AV) (ks : List Int) : Prop := CT P 191 args H fun v H1 => ∃ ss : List Int, ss.Perm ks ∧ ((ss = [] ∧ v = .ns ∧ H1 = H) ∨ (ss ≠ [] ∧ v = .sl H.nx 1 0 ss.length ss.length ∧ H1 = H.new (.c .w (ss.map (AV.i .i64)))))
/-- A new row of the numbers ks. -/
def Row (H : Hp) (ks : List Int) : AV × Hp := match ks with
  | [] => (.ns, H)
  | k :: l => (.sl H.nx 1 0 (k :: l).length (k :: l).length, H.new (.c .w ((k :: l).map (AV.i .i64))))
def leI (a b : Int) : Bool := decide (a ≤ b)
theorem row_of {H : Hp} {ks d : List Int} (hd : d = ks) (hne : d ≠ []) : Row H ks = (.sl H.nx 1 0 d.length d.length, H.new (.c .w (d.map (AV.i .i64)))) := by
  subst hd
  cases d with
  | nil => exact absurd rfl hne
  | cons k l => rfl
theorem sorted_ct {H : Hp} {x : AV} {ks : List Int} (hc : Cll H [x] ks) (hl : ks.length ≤ 12) : CT P 248 [x] H fun v H1 => v = (Row H (sortR leI ks)).1 ∧ H1 = (Row H (sortR leI ks)).2 := by
  refine CT.wf (ent_of e248) fun hok => ?_
  refine CT.fresh (K := fun v H1 => (ks = [] ∧ v = .ns ∧ H1 = H) ∨ ∃ d, d = sortR leI ks ∧ d ≠ [] ∧ v = .sl H.nx 1 0 d.length d.length ∧ (∀ a o, H.get a = some o → H1.get a = some o) ∧ H1.get H.nx = some (.c .w (d.map (AV.i .i64)))) ?_ fun v H' hk _ => ?_
  · refine CT.of_w hm e248 ?_ (by show 1 ≤ 9; omega)
    simp only [a248, go_sem, ↓reduceIte, Nat.reduceEqDiff, Nat.reduceAdd]
    refine wCa_of hc ?_
    rintro v H1 ⟨ss, hp, hq⟩ _
    have hsl := hp.length_eq
    rcases hq with ⟨rfl, rfl, rfl⟩ | ⟨hne, rfl, rfl⟩
    · simp only [go_sem, ↓reduceIte, Nat.reduceEqDiff, Nat.reduceAdd]
      refine wCa_of (sortN_ct _) ?_
      rintro v H1 rfl _
      simp only [go_sem, ↓reduceIte, Nat.reduceEqDiff, Nat.reduceAdd]
      exact .inl (by simpa using hp.symm)
    · simp only [go_sem, ↓reduceIte, Nat.reduceEqDiff, Nat.reduceAdd]
      refine wCa_of (sort_ct (by rw [Hp.get_new, if_pos rfl]) (by omega)) ?_
      rintro v H1 ⟨d, d1, d2, d3⟩ _
      simp only [go_sem, ↓reduceIte, Nat.reduceEqDiff, Nat.reduceAdd]
      have hd : d = sortR leI ks := by
        refine sortR_eq (r := leI) (fun a b => by simp only [leI, decide_eq_false_iff_not, decide_eq_true_eq]; omega) (fun a b c => by simp only [leI, decide_eq_true_eq]; omega) (fun a b => by simp only [leI, decide_eq_true_eq]; omega) (d1.trans hp) (d2.imp ?_)
        intro a b h; simpa [leI] using h
      have hdl := d1.length_eq
      refine .inr ⟨d, hd, fun c => hne ?_, by rw [hdl], fun a o ha => ?_, d3.row⟩
      · subst c; exact List.length_eq_zero_iff.1 (by simpa using hdl.symm)
      · rw [d3.oth a (by have := hok a o ha; omega)]; exact hok.new ha
  · rcases hk with ⟨rfl, rfl, rfl⟩ | ⟨d, h1, h2, rfl, h4, h5⟩
    · exact ⟨fun _ _ h => h, .inl ⟨rfl, rfl, rfl⟩⟩
    · refine ⟨h4, .inr ⟨H.nx, 1, d.length, _, rfl, Nat.le_refl _, h5, flat_ints d, ?_⟩⟩
      rw [row_of h1 h2]; exact ⟨rfl, rfl⟩
theorem sortedF_ct {H : Hp} {x : AV} {ks : List Int} (hc : Cll H [x] ks) (hl : ks.length ≤ 12) {q oq : Nat} {ps : List (Int × Int)} (ho : OrdAt H q oq ps) :
    CT P 117 [x, .fn 119 [] [.p q oq]] H fun v H1 => v = (Row H (sortR (rO ps) ks)).1 ∧ H1 = (Row H (sortR (rO ps) ks)).2 := by
  refine CT.wf (ent_of e117) fun hok => ?_
  refine CT.fresh (K := fun v H1 => (ks = [] ∧ v = .ns ∧ H1 = H) ∨ ∃ d, d = sortR (rO ps) ks ∧ d ≠ [] ∧ v = .sl H.nx 1 0 d.length d.length ∧ (∀ a o, H.get a = some o → H1.get a = some o) ∧ H1.get H.nx = some (.c .w (d.map (AV.i .i64)))) ?_ fun v H' hk _ => ?_
  · refine CT.of_w hm e117 ?_ (by show 2 ≤ 12; omega)
    simp only [a117, go_sem, ↓reduceIte, Nat.reduceEqDiff, Nat.reduceAdd]
    refine wCa_of hc ?_
    rintro v H1 ⟨ss, hp, hq⟩ _
    have hsl := hp.length_eq
    rcases hq with ⟨rfl, rfl, rfl⟩ | ⟨hne, rfl, rfl⟩
    · simp only [go_sem, ↓reduceIte, Nat.reduceEqDiff, Nat.reduceAdd]
      refine wCa_of (sortFN_ct _ _) ?_
      rintro v H1 rfl _
      simp only [go_sem, ↓reduceIte, Nat.reduceEqDiff, Nat.reduceAdd]
      exact .inl (by simpa using hp.symm)
    · simp only [go_sem, ↓reduceIte, Nat.reduceEqDiff, Nat.reduceAdd]
      have hcmp : CmpOk 119 [] [.p q oq] (H.new (.c .w (ss.map (AV.i .i64)))) H.nx (cfO ps) := by
        intro d H1 a b hA
        refine all1_ct ?_ a b
        have hk : ∀ a o, H.get a = some o → H1.get a = some o := fun a o ha => by rw [hA.oth a (by have := hok a o ha; omega)]; exact hok.new ha
        obtain ⟨od, oo, x, o1, o2, o3⟩ := ho
        have hld : ∀ a o v, ldV H (.p a o) = some v → ldV H1 (.p a o) = some v := by
          intro a o v h
          simp only [ldV, Hp.cells] at h ⊢
          cases hg : H.get a with
          | none => rw [hg] at h; cases h
          | some ob => rw [hg] at h; rw [hk a ob hg]; exact h
        refine ⟨od, oo, x, hld _ _ _ o1, hld _ _ _ o2, ?_⟩
        unfold mpV at o3 ⊢
        cases x with
        | m r =>
          simp only [Hp.map] at o3 ⊢
          cases hg : H.get r with
          | none => rw [hg] at o3; cases o3
          | some ob => rw [hg] at o3; rw [hk r ob hg]; exact o3
        | nm => exact o3
        | _ => cases o3
      refine wCa_of (sortF_ct (R := fun a b => rO ps a b = true) (by rw [Hp.get_new, if_pos rfl]) (by omega) hcmp rO_tr cfO_r1 cfO_r2) ?_
      rintro v H1 ⟨d, d1, d2, d3⟩ _
      simp only [go_sem, ↓reduceIte, Nat.reduceEqDiff, Nat.reduceAdd]
      have hd : d = sortR (rO ps) ks := sortR_eq rO_tot rO_tr rO_anti (d1.trans hp) d2
      have hdl := d1.length_eq
      refine .inr ⟨d, hd, fun c => hne ?_, by rw [hdl], fun a o ha => ?_, d3.row⟩
      · subst c; exact List.length_eq_zero_iff.1 (by simpa using hdl.symm)
      · rw [d3.oth a (by have := hok a o ha; omega)]; exact hok.new ha
  · rcases hk with ⟨rfl, rfl, rfl⟩ | ⟨d, h1, h2, rfl, h4, h5⟩
    · exact ⟨fun _ _ h => h, .inl ⟨rfl, rfl, rfl⟩⟩
    · refine ⟨h4, .inr ⟨H.nx, 1, d.length, _, rfl, Nat.le_refl _, h5, flat_ints d, ?_⟩⟩
      rw [row_of h1 h2]; exact ⟨rfl, rfl⟩
end Go.AM.Sb
