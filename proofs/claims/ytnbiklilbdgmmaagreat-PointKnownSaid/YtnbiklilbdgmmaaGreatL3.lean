/- Leaves, more: tags over rows of bytes. -/
import Derived.Test.YtnbiklilbdgmmaaGreatL2
set_option linter.constructorNameAsVariable false
set_option linter.unusedVariables false
set_option linter.unusedSimpArgs false
namespace Go.AM.Sb
open Go Go.AM
def tagB (bs : List Int) (h : Int) : Int := bs.foldl (fun h c => stepI h (wr .u64 c)) h
def tagP (h : Int) (bs : List Int) : Int := stepI (tagB bs h) (wr .u64 (256 + wr .u64 bs.length))
def vc (v : AV) : List AV := [v]
theorem vc_len (v : AV) : (vc v).length = 1 := rfl
abbrev Vs := Sl 1 vc
theorem Vs.at {H : Hp} {x : AV} {ys : List AV} (h : Vs H x ys) {i : Nat} {y : AV} (hy : ys[i]? = some y) {k : IntKind} : ∃ a o, iaV x (.i k i) 1 = some (.p a o) ∧ ldV H (.p a o) = some y := by
  obtain ⟨a, o, h1, _, h3⟩ := Sl.at h vc_len hy (k := k)
  exact ⟨a, o, h1, h3 0 (by omega)⟩
theorem tag_ct {H : Hp} {x : AV} {ys : List AV} {bss : List (List Int)} (hx : Vs H x ys) (hlen : ys.length = bss.length) (hl : bss.length < 4611686018427387904) (hp : ∀ (i : Nat) (y : AV) (bs : List Int), ys[i]? = some y → bss[i]? = some bs → Is H y bs ∧ bs.length < 4611686018427387904) (h : Int) :
    CT P 272 [.i .u64 h, x] H fun v H1 => v = .i .u64 (bss.foldl tagP h) ∧ H1 = H := by
  refine CT.of_w hm e272 ?_ (by show 2 ≤ 34; omega)
  simp only [a272, go_sem, ↓reduceIte, Nat.reduceEqDiff, Nat.reduceAdd, hx.ln]
  refine wV_inv hm (fun n e H1 => ∃ (i : Nat) (g : Int), i + n = ys.length ∧ e.g 0 = .i .u64 g ∧ e.g 9 = x ∧ e.g 10 = .i .i64 ys.length ∧ e.g 11 = .i .i64 i ∧ (bss.drop i).foldl tagP g = bss.foldl tagP h ∧ H1 = H) ys.length ⟨0, h, by omega, by simp only [go_sem, ↓reduceIte, Nat.reduceEqDiff, Nat.reduceAdd], by simp only [go_sem, ↓reduceIte, Nat.reduceEqDiff, Nat.reduceAdd], by simp only [go_sem, ↓reduceIte, Nat.reduceEqDiff, Nat.reduceAdd], by simp only [go_sem, ↓reduceIte, Nat.reduceEqDiff, Nat.reduceAdd]; rfl, rfl, rfl⟩ ?_
  rintro n e H1 ⟨i, g, h1, h2, h3, h4, h5, h6, rfl⟩
  by_cases hi : i < ys.length
  · have hy : ys[i]? = some ys[i] := List.getElem?_eq_getElem hi
    have hb : bss[i]? = some bss[i] := List.getElem?_eq_getElem (by omega)
    obtain ⟨hI, hL⟩ := hp i _ _ hy hb
    obtain ⟨a1, o1, r1, r2⟩ := hx.at hy (k := .i64)
    rw [List.drop_eq_getElem_cons (by omega), List.foldl_cons] at h6
    simp only [go_sem, ↓reduceIte, Nat.reduceEqDiff, Nat.reduceAdd, h3, h4, h5, show decide ((i : Int) < ys.length) = true by simp; omega, r1, r2, hI.ln]
    refine wV_inv hm (fun n e H2 => ∃ (j : Nat) (g2 : Int), j + n = bss[i].length ∧ e.g 0 = .i .u64 g2 ∧ e.g 6 = ys[i] ∧ e.g 9 = x ∧ e.g 10 = .i .i64 ys.length ∧ e.g 11 = .i .i64 i ∧ e.g 15 = ys[i] ∧ e.g 16 = .i .i64 bss[i].length ∧ e.g 17 = .i .i64 j ∧ tagB (bss[i].drop j) g2 = tagB bss[i] g ∧ H2 = H1) bss[i].length ⟨0, g, by omega, by simp only [go_sem, ↓reduceIte, Nat.reduceEqDiff, Nat.reduceAdd, h2], by simp only [go_sem, ↓reduceIte, Nat.reduceEqDiff, Nat.reduceAdd], by simp only [go_sem, ↓reduceIte, Nat.reduceEqDiff, Nat.reduceAdd, h3], by simp only [go_sem, ↓reduceIte, Nat.reduceEqDiff, Nat.reduceAdd, h4], by simp only [go_sem, ↓reduceIte, Nat.reduceEqDiff, Nat.reduceAdd, h5], by simp only [go_sem, ↓reduceIte, Nat.reduceEqDiff, Nat.reduceAdd], by simp only [go_sem, ↓reduceIte, Nat.reduceEqDiff, Nat.reduceAdd], by simp only [go_sem, ↓reduceIte, Nat.reduceEqDiff, Nat.reduceAdd]; rfl, rfl, rfl⟩ ?_
    rintro n2 e2 H2 ⟨j, g2, k1, k2, k3, k4, k5, k6, k7, k8, k9, k10, rfl⟩
    by_cases hj : j < bss[i].length
    · have hc : bss[i][j]? = some bss[i][j] := List.getElem?_eq_getElem hj
      obtain ⟨a2, o2, r3, r4⟩ := hI.at hc (k := .i64)
      rw [List.drop_eq_getElem_cons hj] at k10
      simp only [go_sem, ↓reduceIte, Nat.reduceEqDiff, Nat.reduceAdd, k2, k7, k8, k9, show decide ((j : Int) < bss[i].length) = true by simp; omega, r3, r4]
      refine wCa_of (step_ct _ _ _) ?_
      rintro v H3 ⟨rfl, rfl⟩ _
      simp only [go_sem, ↓reduceIte, Nat.reduceEqDiff, Nat.reduceAdd, k9, wr64n (show j < 9223372036854775807 by omega)]
      refine ⟨n2 - 1, by omega, Ivv.mk ⟨j + 1, stepI g2 (wr .u64 bss[i][j]), by omega, ?_⟩⟩
      simp only [go_sem, ↓reduceIte, Nat.reduceEqDiff, Nat.reduceAdd, k3, k4, k5, k6, k7, k8]
      rw [← k10]; rfl
    · simp only [go_sem, ↓reduceIte, Nat.reduceEqDiff, Nat.reduceAdd, k2, k3, k8, k9, show decide ((j : Int) < bss[i].length) = false by simp; omega, hI.ln]
      rw [List.drop_of_length_le (by omega)] at k10
      refine wCa_of (step_ct _ _ _) ?_
      rintro v H3 ⟨rfl, rfl⟩ _
      simp only [go_sem, ↓reduceIte, Nat.reduceEqDiff, Nat.reduceAdd, k6, wr64n (show i < 9223372036854775807 by omega)]
      refine ⟨n - 1, by omega, Ivv.mk ⟨i + 1, stepI g2 (wr .u64 (256 + wr .u64 bss[i].length)), by omega, ?_⟩⟩
      simp only [go_sem, ↓reduceIte, Nat.reduceEqDiff, Nat.reduceAdd, k4, k5]
      rw [show tagB [] g2 = g2 from rfl] at k10
      have hst : stepI g2 (wr .u64 (256 + wr .u64 bss[i].length)) = tagP g bss[i] := by rw [tagP, ← k10]
      rw [hst]; exact h6
  · simp only [go_sem, ↓reduceIte, Nat.reduceEqDiff, Nat.reduceAdd, h2, h4, h5, show decide ((i : Int) < ys.length) = false by simp; omega]
    rw [List.drop_of_length_le (by omega)] at h6
    exact congrArg (AV.i .u64) h6
end Go.AM.Sb
