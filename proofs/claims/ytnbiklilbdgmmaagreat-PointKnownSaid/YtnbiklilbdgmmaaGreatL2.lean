/- Leaves, more: sizes of numbers, tags over rows of bytes. -/
import Derived.Test.YtnbiklilbdgmmaaGreatL1
set_option linter.constructorNameAsVariable false
set_option linter.unusedVariables false
set_option linter.unusedSimpArgs false
namespace Go.AM.Sb
open Go Go.AM
/-- A row of whole numbers. -/
def jc (n : Int) : List AV := [.i .i64 n]
abbrev Js := Sl 1 jc
theorem jc_len (n : Int) : (jc n).length = 1 := rfl
theorem Js.at {H : Hp} {x : AV} {bs : List Int} (h : Js H x bs) {i : Nat} {c : Int} (hc : bs[i]? = some c) {k : IntKind} : ∃ a o, iaV x (.i k i) 1 = some (.p a o) ∧ ldV H (.p a o) = some (.i .i64 c) := by
  obtain ⟨a, o, h1, _, h3⟩ := Sl.at h jc_len hc (k := k)
  exact ⟨a, o, h1, h3 0 (by omega)⟩
def badI (n : Int) : Bool := decide (n < 0) || decide (4611686018427387903 < n)
theorem may1_ct (n : Int) (H : Hp) : CT P 315 [.i .i64 n] H fun v H1 => v = .b (badI n) ∧ H1 = H := by
  refine CT.of_w hm e315 ?_ (by show 1 ≤ 9; omega)
  simp only [a315, go_sem, ↓reduceIte, Nat.reduceEqDiff, Nat.reduceAdd]
  by_cases h : n < 0
  · simp only [go_sem, ↓reduceIte, Nat.reduceEqDiff, Nat.reduceAdd, h, decide_true]
    simp [badI, h]
  · simp only [go_sem, ↓reduceIte, Nat.reduceEqDiff, Nat.reduceAdd, h, decide_false]
    simp [badI, h]
theorem idx_ct {H : Hp} {x : AV} {xs : List Int} (hx : Js H x xs) (hl : xs.length < 4611686018427387904) : CT P 198 [x, .fn 315 [] []] H fun v H1 => (∃ r, v = .i .i64 r ∧ decide (0 ≤ r) = xs.any badI) ∧ H1 = H := by
  refine CT.of_w hm e198 ?_ (by show 2 ≤ 19; omega)
  simp only [a198, go_sem, ↓reduceIte, Nat.reduceEqDiff, Nat.reduceAdd, hx.ln]
  refine wV_inv hm (fun n e H1 => ∃ i, i + n = xs.length ∧ e.g 0 = x ∧ e.g 1 = .fn 315 [] [] ∧ e.g 7 = .i .i64 xs.length ∧ e.g 8 = .i .i64 i ∧ (xs.take i).any badI = false ∧ H1 = H) xs.length ⟨0, by omega, by simp only [go_sem, ↓reduceIte, Nat.reduceEqDiff, Nat.reduceAdd], by simp only [go_sem, ↓reduceIte, Nat.reduceEqDiff, Nat.reduceAdd], by simp only [go_sem, ↓reduceIte, Nat.reduceEqDiff, Nat.reduceAdd], by simp only [go_sem, ↓reduceIte, Nat.reduceEqDiff, Nat.reduceAdd]; rfl, rfl, rfl⟩ ?_
  rintro n e H1 ⟨i, h1, h2, h3, h4, h5, h6, rfl⟩
  by_cases hi : i < xs.length
  · have hb : xs[i]? = some xs[i] := List.getElem?_eq_getElem hi
    obtain ⟨a1, o1, r1, r2⟩ := hx.at hb (k := .i64)
    simp only [go_sem, ↓reduceIte, Nat.reduceEqDiff, Nat.reduceAdd, h2, h3, h4, h5, show decide ((i : Int) < xs.length) = true by simp; omega, r1, r2]
    refine wCa_of (may1_ct _ H1) ?_
    rintro v H2 ⟨rfl, rfl⟩ _
    cases hc : badI xs[i] with
    | true =>
      simp only [go_sem, ↓reduceIte, Nat.reduceEqDiff, Nat.reduceAdd, h5]
      refine ⟨_, rfl, ?_⟩
      have : xs.any badI = true := List.any_eq_true.2 ⟨xs[i], List.getElem_mem hi, hc⟩
      rw [this]; simp
    | false =>
      simp only [go_sem, ↓reduceIte, Nat.reduceEqDiff, Nat.reduceAdd, h5, wr64n (show i < 9223372036854775807 by omega)]
      refine ⟨n - 1, by omega, Ivv.mk ⟨i + 1, by omega, ?_⟩⟩
      simp only [go_sem, ↓reduceIte, Nat.reduceEqDiff, Nat.reduceAdd, h2, h3, h4]
      rw [List.take_add_one, hb, List.any_append, h6]
      simp [hc]
  · simp only [go_sem, ↓reduceIte, Nat.reduceEqDiff, Nat.reduceAdd, h4, h5, show decide ((i : Int) < xs.length) = false by simp; omega]
    refine ⟨_, rfl, ?_⟩
    rw [List.take_of_length_le (by omega)] at h6
    rw [h6]; decide
theorem cont_ct {H : Hp} {x : AV} {xs : List Int} (hx : Js H x xs) (hl : xs.length < 4611686018427387904) : CT P 314 [x, .fn 315 [] []] H fun v H1 => v = .b (xs.any badI) ∧ H1 = H := by
  refine CT.of_w hm e314 ?_ (by show 2 ≤ 9; omega)
  simp only [a314, go_sem, ↓reduceIte, Nat.reduceEqDiff, Nat.reduceAdd]
  refine wCa_of (idx_ct hx hl) ?_
  rintro v H1 ⟨⟨r, rfl, hr⟩, rfl⟩ _
  simp only [go_sem, ↓reduceIte, Nat.reduceEqDiff, Nat.reduceAdd, hr]
theorem may_ct {H : Hp} {x : AV} {xs : List Int} (hx : Js H x xs) (hl : xs.length < 4611686018427387904) : CT P 296 [x] H fun v H1 => v = .b (!xs.any badI) ∧ H1 = H := by
  refine CT.of_w hm e296 ?_ (by show 1 ≤ 6; omega)
  simp only [a296, go_sem, ↓reduceIte, Nat.reduceEqDiff, Nat.reduceAdd]
  refine wCa_of (cont_ct hx hl) ?_
  rintro v H1 ⟨rfl, rfl⟩ _
  simp only [go_sem, ↓reduceIte, Nat.reduceEqDiff, Nat.reduceAdd]
/-- The sizes of numbers, added up. -/
def sizeI : List Int → Int → Int
  | [], s => s
  | n :: l, s => if kindI n < 0 then -1 else sizeI l (wr .i64 (s + ishl .i64 1 (kindI n)))
theorem size_ct {H : Hp} {x : AV} {xs : List Int} (hx : Js H x xs) (hl : xs.length < 4611686018427387904) (hr : ∀ n ∈ xs, -9223372036854775808 ≤ n ∧ n ≤ 9223372036854775807) : CT P 262 [x] H fun v H1 => v = .i .i64 (sizeI xs 0) ∧ H1 = H := by
  refine CT.of_w hm e262 ?_ (by show 1 ≤ 23; omega)
  simp only [a262, go_sem, ↓reduceIte, Nat.reduceEqDiff, Nat.reduceAdd, hx.ln]
  refine wV_inv hm (fun n e H1 => ∃ (i : Nat) (s : Int), i + n = xs.length ∧ e.g 3 = .i .i64 s ∧ e.g 7 = x ∧ e.g 8 = .i .i64 xs.length ∧ e.g 9 = .i .i64 i ∧ sizeI (xs.drop i) s = sizeI xs 0 ∧ H1 = H) xs.length ⟨0, 0, by omega, by simp only [go_sem, ↓reduceIte, Nat.reduceEqDiff, Nat.reduceAdd], by simp only [go_sem, ↓reduceIte, Nat.reduceEqDiff, Nat.reduceAdd], by simp only [go_sem, ↓reduceIte, Nat.reduceEqDiff, Nat.reduceAdd], by simp only [go_sem, ↓reduceIte, Nat.reduceEqDiff, Nat.reduceAdd]; rfl, rfl, rfl⟩ ?_
  rintro n e H1 ⟨i, s, h1, h2, h3, h4, h5, h6, rfl⟩
  by_cases hi : i < xs.length
  · have hb : xs[i]? = some xs[i] := List.getElem?_eq_getElem hi
    obtain ⟨a1, o1, r1, r2⟩ := hx.at hb (k := .i64)
    rw [List.drop_eq_getElem_cons hi] at h6
    simp only [go_sem, ↓reduceIte, Nat.reduceEqDiff, Nat.reduceAdd, h2, h3, h4, h5, show decide ((i : Int) < xs.length) = true by simp; omega, r1, r2]
    refine wCa_of (kind_ct _ H1 (hr _ (List.getElem_mem hi))) ?_
    rintro v H2 ⟨rfl, rfl⟩ _
    by_cases hc : kindI xs[i] < 0
    · simp only [go_sem, ↓reduceIte, Nat.reduceEqDiff, Nat.reduceAdd, hc, decide_true]
      rw [← h6, sizeI, if_pos hc]
    · simp only [go_sem, ↓reduceIte, Nat.reduceEqDiff, Nat.reduceAdd, hc, decide_false, h2, h5, bin_shl (show 0 ≤ kindI xs[i] by omega), wr64n (show i < 9223372036854775807 by omega)]
      refine ⟨n - 1, by omega, Ivv.mk ⟨i + 1, wr .i64 (s + ishl .i64 1 (kindI xs[i])), by omega, ?_⟩⟩
      simp only [go_sem, ↓reduceIte, Nat.reduceEqDiff, Nat.reduceAdd, h2, h3, h4]
      rw [← h6, sizeI, if_neg hc]
  · simp only [go_sem, ↓reduceIte, Nat.reduceEqDiff, Nat.reduceAdd, h2, h4, h5, show decide ((i : Int) < xs.length) = false by simp; omega]
    rw [List.drop_of_length_le (by omega)] at h6
    rw [← h6, sizeI]
end Go.AM.Sb
