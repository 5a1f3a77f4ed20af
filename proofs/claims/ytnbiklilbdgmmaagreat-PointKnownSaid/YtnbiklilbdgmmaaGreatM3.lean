/- Sorting by insertion, as contracts of the abstract machine. -/
import Derived.Test.YtnbiklilbdgmmaaGreatB1
import Derived.Test.YtnbiklilbdgmmaaGreatL1
import Derived.Test.YtnbiklilbdgmmaaGreatSE
set_option linter.constructorNameAsVariable false
set_option linter.unusedVariables false
set_option linter.unusedSimpArgs false
namespace Go.AM.Sb
open Go Go.AM Go.AM.SbS
theorem nan_ct (a : Int) (H : Hp) : CT P 194 [.i .i64 a] H fun v H1 => v = .b false ∧ H1 = H := by
  refine CT.of_w hm e194 ?_ (by simp [a194])
  simp only [a194, go_sem, ↓reduceIte, Nat.reduceEqDiff, Nat.reduceAdd, bne_self_eq_false]
theorem less_ct (a b : Int) (H : Hp) : CT P 322 [.i .i64 a, .i .i64 b] H fun v H1 => v = .b (decide (a < b)) ∧ H1 = H := by
  refine CT.of_w hm e322 ?_ (by simp [a322])
  simp only [a322, go_sem, ↓reduceIte, Nat.reduceEqDiff, Nat.reduceAdd]
  refine wCa_of (nan_ct a H) ?_
  rintro v H1 ⟨rfl, rfl⟩ _
  simp only [go_sem, ↓reduceIte, Nat.reduceEqDiff, Nat.reduceAdd]
theorem insO_ct {H : Hp} {X : Nat} {xs : List Int} (hX : H.get X = some (.c .w (xs.map (AV.i .i64)))) (hl : xs.length < 4611686018427387904) :
    CT P 316 [.sl X 1 0 xs.length xs.length, .i .i64 0, .i .i64 xs.length] H fun v H1 => ∃ d, d.Perm xs ∧ d.Pairwise (· ≤ ·) ∧ At H X d H1 := by
  refine CT.of_w hm e316 ?_ (by show 3 ≤ 49; omega)
  have w1 : wr .i64 (0 + 1) = ((1 : Nat) : Int) := by decide
  simp only [a316, go_sem, ↓reduceIte, Nat.reduceEqDiff, Nat.reduceAdd, w1]
  refine wV_inv hm (fun n e H1 => ∃ i d, i + n = xs.length + 1 ∧ 1 ≤ i ∧ e.g 0 = .sl X 1 0 xs.length xs.length ∧ e.g 1 = .i .i64 0 ∧ e.g 2 = .i .i64 xs.length ∧ e.g 6 = .i .i64 i ∧ d.Perm xs ∧ At H X d H1 ∧ ∀ p q x y, p < q → q < i → d[p]? = some x → d[q]? = some y → x ≤ y) xs.length ?_ ?_
  · refine ⟨1, xs, by omega, by omega, by simp only [go_sem, ↓reduceIte, Nat.reduceEqDiff, Nat.reduceAdd], by simp only [go_sem, ↓reduceIte, Nat.reduceEqDiff, Nat.reduceAdd], by simp only [go_sem, ↓reduceIte, Nat.reduceEqDiff, Nat.reduceAdd], by simp only [go_sem, ↓reduceIte, Nat.reduceEqDiff, Nat.reduceAdd], .refl _, At.self hX, fun p q x y h1 h2 => by omega⟩
  · rintro n e H1 ⟨i, d, h1, h2, h3, h4, h5, h6, h7, h8, h9⟩
    have hdl : d.length = xs.length := h7.length_eq
    by_cases hi : i < xs.length
    · simp only [go_sem, ↓reduceIte, Nat.reduceEqDiff, Nat.reduceAdd, h5, h6, show decide ((i : Int) < xs.length) = true by simp; omega]
      refine wV_inv hm (fun j e H1 => ∃ d, j ≤ i ∧ e.g 0 = .sl X 1 0 xs.length xs.length ∧ e.g 1 = .i .i64 0 ∧ e.g 2 = .i .i64 xs.length ∧ e.g 6 = .i .i64 i ∧ e.g 7 = .i .i64 j ∧ d.Perm xs ∧ At H X d H1 ∧ Ord (· ≤ ·) d i j) i ?_ ?_
      · exact ⟨d, Nat.le_refl _, by simp only [go_sem, ↓reduceIte, Nat.reduceEqDiff, Nat.reduceAdd, h3], by simp only [go_sem, ↓reduceIte, Nat.reduceEqDiff, Nat.reduceAdd, h4], by simp only [go_sem, ↓reduceIte, Nat.reduceEqDiff, Nat.reduceAdd, h5], by simp only [go_sem, ↓reduceIte, Nat.reduceEqDiff, Nat.reduceAdd, h6], by simp only [go_sem, ↓reduceIte, Nat.reduceEqDiff, Nat.reduceAdd, h6], h7, h8, Ord.start h9⟩
      · rintro j e2 H2 ⟨d2, k1, k2, k3, k4, k5, k6, k7, k8, k9⟩
        have hdl2 : d2.length = xs.length := k7.length_eq
        have wi : wr .i64 ((i : Int) + 1) = ((i + 1 : Nat) : Int) := wr64n (by omega)
        by_cases hj : 0 < j
        · have wj := wr64s hj (by omega)
          simp only [go_sem, ↓reduceIte, Nat.reduceEqDiff, Nat.reduceAdd, k2, k3, k6, show decide ((0 : Int) < j) = true by simp; omega, wj, ia1 (X := X) (show j < xs.length by omega), ia1 (X := X) (show j - 1 < xs.length by omega), k8.ld (show j < d2.length by omega), k8.ld (show j - 1 < d2.length by omega)]
          refine wdCa_of (less_ct _ _ H2) ?_
          rintro v H3 ⟨rfl, rfl⟩ _
          by_cases hc : d2[j] < d2[j - 1]
          · simp only [go_sem, ↓reduceIte, Nat.reduceEqDiff, Nat.reduceAdd, hc, decide_true]
            obtain ⟨H4, s1, s2⟩ := k8.st (show j < d2.length by omega) d2[j - 1]
            obtain ⟨H5, s3, s4⟩ := s2.st (show j - 1 < (d2.set j d2[j - 1]).length by rw [List.length_set]; omega) d2[j]
            simp only [go_sem, ↓reduceIte, Nat.reduceEqDiff, Nat.reduceAdd, k2, k3, k6, wj, ia1 (X := X) (show j < xs.length by omega), ia1 (X := X) (show j - 1 < xs.length by omega), k8.ld (show j < d2.length by omega), k8.ld (show j - 1 < d2.length by omega), s1, s3]
            refine ⟨j - 1, by omega, Ivv.mk ⟨(d2.set j d2[j - 1]).set (j - 1) d2[j], by omega, ?_⟩⟩
            simp only [go_sem, ↓reduceIte, Nat.reduceEqDiff, Nat.reduceAdd, k2, k3, k4, k5]
            exact ⟨(swap_perm hj (by omega)).trans k7, s4, Ord.swap k9 hj (by omega) k1 (by show d2[j] ≤ d2[j-1]; omega)⟩
          · simp only [go_sem, ↓reduceIte, Nat.reduceEqDiff, Nat.reduceAdd, show decide (d2[j] < d2[j - 1]) = false by simpa using hc, k5, wi]
            refine ⟨n - 1, by omega, Ivv.mk ⟨i + 1, d2, by omega, by omega, ?_⟩⟩
            simp only [go_sem, ↓reduceIte, Nat.reduceEqDiff, Nat.reduceAdd, k2, k3, k4]
            exact ⟨k7, k8, Ord.stop (fun a b c => Int.le_trans) k9 hj (by omega) (by show d2[j - 1] ≤ d2[j]; omega)⟩
        · have hj0 : j = 0 := by omega
          subst hj0
          simp only [go_sem, ↓reduceIte, Nat.reduceEqDiff, Nat.reduceAdd, k2, k3, k6, show decide ((0 : Int) < (0 : Nat)) = false by simp, k5, wi]
          refine ⟨n - 1, by omega, Ivv.mk ⟨i + 1, d2, by omega, by omega, ?_⟩⟩
          simp only [go_sem, ↓reduceIte, Nat.reduceEqDiff, Nat.reduceAdd, k2, k3, k4]
          exact ⟨k7, k8, Ord.zero k9⟩
    · simp only [go_sem, ↓reduceIte, Nat.reduceEqDiff, Nat.reduceAdd, h5, h6, show decide ((i : Int) < xs.length) = false by simp; omega]
      exact ⟨d, h7, pw_of fun p q x y q1 q2 => h9 p q x y q1 (by omega), h8⟩
/-- What a comparison must do: answer, and change nothing. -/
def CmpOk (f : Nat) (x y : List AV) (H : Hp) (X : Nat) (cf : Int → Int → Int) : Prop := ∀ d H1 a b, At H X d H1 → CT P f (x ++ [.i .i64 a, .i .i64 b] ++ y) H1 fun v H2 => v = .i .i64 (cf a b) ∧ H2 = H1
theorem insC_ct {H : Hp} {X : Nat} {xs : List Int} (hX : H.get X = some (.c .w (xs.map (AV.i .i64)))) (hl : xs.length < 4611686018427387904) {f : Nat} {x y : List AV} {cf : Int → Int → Int} {R : Int → Int → Prop} (hc : CmpOk f x y H X cf)
    (tr : ∀ a b c, R a b → R b c → R a c) (r1 : ∀ a b, ¬ cf b a < 0 → R a b) (r2 : ∀ a b, cf a b < 0 → R a b) :
    CT P 286 [.sl X 1 0 xs.length xs.length, .i .i64 0, .i .i64 xs.length, .fn f x y] H fun v H1 => ∃ d, d.Perm xs ∧ d.Pairwise R ∧ At H X d H1 := by
  refine CT.of_w hm e286 ?_ (by show 4 ≤ 53; omega)
  have w1 : wr .i64 (0 + 1) = ((1 : Nat) : Int) := by decide
  simp only [a286, go_sem, ↓reduceIte, Nat.reduceEqDiff, Nat.reduceAdd, w1]
  refine wV_inv hm (fun n e H1 => ∃ i d, i + n = xs.length + 1 ∧ 1 ≤ i ∧ e.g 0 = .sl X 1 0 xs.length xs.length ∧ e.g 1 = .i .i64 0 ∧ e.g 2 = .i .i64 xs.length ∧ e.g 3 = .fn f x y ∧ e.g 8 = .i .i64 i ∧ d.Perm xs ∧ At H X d H1 ∧ ∀ p q x y, p < q → q < i → d[p]? = some x → d[q]? = some y → R x y) xs.length ?_ ?_
  · refine ⟨1, xs, by omega, by omega, by simp only [go_sem, ↓reduceIte, Nat.reduceEqDiff, Nat.reduceAdd], by simp only [go_sem, ↓reduceIte, Nat.reduceEqDiff, Nat.reduceAdd], by simp only [go_sem, ↓reduceIte, Nat.reduceEqDiff, Nat.reduceAdd], by simp only [go_sem, ↓reduceIte, Nat.reduceEqDiff, Nat.reduceAdd], by simp only [go_sem, ↓reduceIte, Nat.reduceEqDiff, Nat.reduceAdd], .refl _, At.self hX, fun p q x y h1 h2 => by omega⟩
  · rintro n e H1 ⟨i, d, h1, h2, h3, h4, h5, hf, h6, h7, h8, h9⟩
    have hdl : d.length = xs.length := h7.length_eq
    by_cases hi : i < xs.length
    · simp only [go_sem, ↓reduceIte, Nat.reduceEqDiff, Nat.reduceAdd, h5, h6, show decide ((i : Int) < xs.length) = true by simp; omega]
      refine wV_inv hm (fun j e H1 => ∃ d, j ≤ i ∧ e.g 0 = .sl X 1 0 xs.length xs.length ∧ e.g 1 = .i .i64 0 ∧ e.g 2 = .i .i64 xs.length ∧ e.g 3 = .fn f x y ∧ e.g 8 = .i .i64 i ∧ e.g 9 = .i .i64 j ∧ d.Perm xs ∧ At H X d H1 ∧ Ord R d i j) i ?_ ?_
      · exact ⟨d, Nat.le_refl _, by simp only [go_sem, ↓reduceIte, Nat.reduceEqDiff, Nat.reduceAdd, h3], by simp only [go_sem, ↓reduceIte, Nat.reduceEqDiff, Nat.reduceAdd, h4], by simp only [go_sem, ↓reduceIte, Nat.reduceEqDiff, Nat.reduceAdd, h5], by simp only [go_sem, ↓reduceIte, Nat.reduceEqDiff, Nat.reduceAdd, hf], by simp only [go_sem, ↓reduceIte, Nat.reduceEqDiff, Nat.reduceAdd, h6], by simp only [go_sem, ↓reduceIte, Nat.reduceEqDiff, Nat.reduceAdd, h6], h7, h8, Ord.start h9⟩
      · rintro j e2 H2 ⟨d2, k1, k2, k3, k4, kf, k5, k6, k7, k8, k9⟩
        have hdl2 : d2.length = xs.length := k7.length_eq
        have wi : wr .i64 ((i : Int) + 1) = ((i + 1 : Nat) : Int) := wr64n (by omega)
        by_cases hj : 0 < j
        · have wj := wr64s hj (by omega)
          simp only [go_sem, ↓reduceIte, Nat.reduceEqDiff, Nat.reduceAdd, k2, k3, kf, k6, show decide ((0 : Int) < j) = true by simp; omega, wj, ia1 (X := X) (show j < xs.length by omega), ia1 (X := X) (show j - 1 < xs.length by omega), k8.ld (show j < d2.length by omega), k8.ld (show j - 1 < d2.length by omega)]
          refine wdCa_of (hc d2 H2 _ _ k8) ?_
          rintro v H3 ⟨rfl, rfl⟩ _
          by_cases hc : cf d2[j] d2[j - 1] < 0
          · simp only [go_sem, ↓reduceIte, Nat.reduceEqDiff, Nat.reduceAdd, hc, decide_true]
            obtain ⟨H4, s1, s2⟩ := k8.st (show j < d2.length by omega) d2[j - 1]
            obtain ⟨H5, s3, s4⟩ := s2.st (show j - 1 < (d2.set j d2[j - 1]).length by rw [List.length_set]; omega) d2[j]
            simp only [go_sem, ↓reduceIte, Nat.reduceEqDiff, Nat.reduceAdd, k2, k3, k6, wj, ia1 (X := X) (show j < xs.length by omega), ia1 (X := X) (show j - 1 < xs.length by omega), k8.ld (show j < d2.length by omega), k8.ld (show j - 1 < d2.length by omega), s1, s3]
            refine ⟨j - 1, by omega, Ivv.mk ⟨(d2.set j d2[j - 1]).set (j - 1) d2[j], by omega, ?_⟩⟩
            simp only [go_sem, ↓reduceIte, Nat.reduceEqDiff, Nat.reduceAdd, k2, k3, k4, kf, k5]
            exact ⟨(swap_perm hj (by omega)).trans k7, s4, Ord.swap k9 hj (by omega) k1 (r2 _ _ hc)⟩
          · simp only [go_sem, ↓reduceIte, Nat.reduceEqDiff, Nat.reduceAdd, show decide (cf d2[j] d2[j - 1] < 0) = false by simpa using hc, k5, wi]
            refine ⟨n - 1, by omega, Ivv.mk ⟨i + 1, d2, by omega, by omega, ?_⟩⟩
            simp only [go_sem, ↓reduceIte, Nat.reduceEqDiff, Nat.reduceAdd, k2, k3, k4, kf]
            exact ⟨k7, k8, Ord.stop tr k9 hj (by omega) (r1 _ _ hc)⟩
        · have hj0 : j = 0 := by omega
          subst hj0
          simp only [go_sem, ↓reduceIte, Nat.reduceEqDiff, Nat.reduceAdd, k2, k3, k6, show decide ((0 : Int) < (0 : Nat)) = false by simp, k5, wi]
          refine ⟨n - 1, by omega, Ivv.mk ⟨i + 1, d2, by omega, by omega, ?_⟩⟩
          simp only [go_sem, ↓reduceIte, Nat.reduceEqDiff, Nat.reduceAdd, k2, k3, k4, kf]
          exact ⟨k7, k8, Ord.zero k9⟩
    · simp only [go_sem, ↓reduceIte, Nat.reduceEqDiff, Nat.reduceAdd, h5, h6, show decide ((i : Int) < xs.length) = false by simp; omega]
      exact ⟨d, h7, pw_of fun p q x y q1 q2 => h9 p q x y q1 (by omega), h8⟩
/-! ### Through the sorters' doors, for rows of twelve at most -/
theorem lenN (n : Nat) (h : n ≤ 12) : wr .u64 (n : Int) = n := by unfold wr; simp only; omega
theorem pdqO_ct {H : Hp} {X : Nat} {xs : List Int} (hX : H.get X = some (.c .w (xs.map (AV.i .i64)))) (hl : xs.length ≤ 12) (lim : Int) :
    CT P 307 [.sl X 1 0 xs.length xs.length, .i .i64 0, .i .i64 xs.length, .i .i64 lim] H fun v H1 => ∃ d, d.Perm xs ∧ d.Pairwise (· ≤ ·) ∧ At H X d H1 := by
  refine CT.of_w hm e307 ?_ (by show 4 ≤ 134; omega)
  have w0 : wr .i64 ((xs.length : Int) - 0) = xs.length := by rw [wr64 (by omega) (by omega)]; omega
  simp only [a307, go_sem, ↓reduceIte, Nat.reduceEqDiff, Nat.reduceAdd]
  refine wV_inv hm (fun n e H1 => e.g 0 = .sl X 1 0 xs.length xs.length ∧ e.g 1 = .i .i64 0 ∧ e.g 2 = .i .i64 xs.length ∧ H1 = H) 0 ⟨by simp only [go_sem, ↓reduceIte, Nat.reduceEqDiff, Nat.reduceAdd], by simp only [go_sem, ↓reduceIte, Nat.reduceEqDiff, Nat.reduceAdd], by simp only [go_sem, ↓reduceIte, Nat.reduceEqDiff, Nat.reduceAdd], rfl⟩ ?_
  rintro n e H1 ⟨h0, h1, h2, rfl⟩
  simp only [go_sem, ↓reduceIte, Nat.reduceEqDiff, Nat.reduceAdd, h0, h1, h2, w0, show decide ((xs.length : Int) ≤ 12) = true by simp; omega]
  refine wCa_of (insO_ct hX (by omega)) ?_
  rintro v H2 hq _
  simp only [go_sem, ↓reduceIte, Nat.reduceEqDiff, Nat.reduceAdd]
  exact hq
theorem pdqC_ct {H : Hp} {X : Nat} {xs : List Int} (hX : H.get X = some (.c .w (xs.map (AV.i .i64)))) (hl : xs.length ≤ 12) (lim : Int) {f : Nat} {x y : List AV} {cf : Int → Int → Int} {R : Int → Int → Prop} (hc : CmpOk f x y H X cf)
    (tr : ∀ a b c, R a b → R b c → R a c) (r1 : ∀ a b, ¬ cf b a < 0 → R a b) (r2 : ∀ a b, cf a b < 0 → R a b) :
    CT P 255 [.sl X 1 0 xs.length xs.length, .i .i64 0, .i .i64 xs.length, .i .i64 lim, .fn f x y] H fun v H1 => ∃ d, d.Perm xs ∧ d.Pairwise R ∧ At H X d H1 := by
  refine CT.of_w hm e255 ?_ (by show 5 ≤ 148; omega)
  have w0 : wr .i64 ((xs.length : Int) - 0) = xs.length := by rw [wr64 (by omega) (by omega)]; omega
  simp only [a255, go_sem, ↓reduceIte, Nat.reduceEqDiff, Nat.reduceAdd]
  refine wV_inv hm (fun n e H1 => e.g 0 = .sl X 1 0 xs.length xs.length ∧ e.g 1 = .i .i64 0 ∧ e.g 2 = .i .i64 xs.length ∧ e.g 4 = .fn f x y ∧ H1 = H) 0 ⟨by simp only [go_sem, ↓reduceIte, Nat.reduceEqDiff, Nat.reduceAdd], by simp only [go_sem, ↓reduceIte, Nat.reduceEqDiff, Nat.reduceAdd], by simp only [go_sem, ↓reduceIte, Nat.reduceEqDiff, Nat.reduceAdd], by simp only [go_sem, ↓reduceIte, Nat.reduceEqDiff, Nat.reduceAdd], rfl⟩ ?_
  rintro n e H1 ⟨h0, h1, h2, h4, rfl⟩
  simp only [go_sem, ↓reduceIte, Nat.reduceEqDiff, Nat.reduceAdd, h0, h1, h2, h4, w0, show decide ((xs.length : Int) ≤ 12) = true by simp; omega]
  refine wCa_of (insC_ct hX (by omega) hc tr r1 r2) ?_
  rintro v H2 hq _
  simp only [go_sem, ↓reduceIte, Nat.reduceEqDiff, Nat.reduceAdd]
  exact hq
theorem sort_ct {H : Hp} {X : Nat} {xs : List Int} (hX : H.get X = some (.c .w (xs.map (AV.i .i64)))) (hl : xs.length ≤ 12) :
    CT P 284 [.sl X 1 0 xs.length xs.length] H fun v H1 => ∃ d, d.Perm xs ∧ d.Pairwise (· ≤ ·) ∧ At H X d H1 := by
  refine CT.of_w hm e284 ?_ (by show 1 ≤ 11; omega)
  simp only [a284, go_sem, ↓reduceIte, Nat.reduceEqDiff, Nat.reduceAdd, lenN _ hl]
  refine wCa_of (len_ct xs.length (by omega) H) ?_
  rintro v H1 ⟨rfl, rfl⟩ _
  simp only [go_sem, ↓reduceIte, Nat.reduceEqDiff, Nat.reduceAdd]
  refine wCa_of (pdqO_ct hX hl _) ?_
  rintro v H2 hq _
  simp only [go_sem, ↓reduceIte, Nat.reduceEqDiff, Nat.reduceAdd]
  exact hq
theorem sortF_ct {H : Hp} {X : Nat} {xs : List Int} (hX : H.get X = some (.c .w (xs.map (AV.i .i64)))) (hl : xs.length ≤ 12) {f : Nat} {x y : List AV} {cf : Int → Int → Int} {R : Int → Int → Prop} (hc : CmpOk f x y H X cf)
    (tr : ∀ a b c, R a b → R b c → R a c) (r1 : ∀ a b, ¬ cf b a < 0 → R a b) (r2 : ∀ a b, cf a b < 0 → R a b) :
    CT P 192 [.sl X 1 0 xs.length xs.length, .fn f x y] H fun v H1 => ∃ d, d.Perm xs ∧ d.Pairwise R ∧ At H X d H1 := by
  refine CT.of_w hm e192 ?_ (by show 2 ≤ 14; omega)
  simp only [a192, go_sem, ↓reduceIte, Nat.reduceEqDiff, Nat.reduceAdd, lenN _ hl]
  refine wCa_of (len_ct xs.length (by omega) H) ?_
  rintro v H1 ⟨rfl, rfl⟩ _
  simp only [go_sem, ↓reduceIte, Nat.reduceEqDiff, Nat.reduceAdd]
  refine wCa_of (pdqC_ct hX hl _ hc tr r1 r2) ?_
  rintro v H2 hq _
  simp only [go_sem, ↓reduceIte, Nat.reduceEqDiff, Nat.reduceAdd]
  exact hq
end Go.AM.Sb
