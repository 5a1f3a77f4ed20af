/- Leaves, more: copies of rows of bytes; masks. -/
import Derived.Test.YtnbiklilbdgmmaaGreatB2
import Derived.Test.YtnbiklilbdgmmaaGreatL3
set_option linter.constructorNameAsVariable false
set_option linter.unusedVariables false
set_option linter.unusedSimpArgs false
namespace Go.AM.Sb
open Go Go.AM
def u8s (l : List Int) : List AV := l.map (AV.i .u8)
theorem u8s_flat (l : List Int) : (u8s l).all AV.flat = true := by
  rw [List.all_eq_true]; intro x hx; obtain ⟨k, _, rfl⟩ := List.mem_map.1 hx; rfl
theorem u8s_one (l : List Int) : (u8s l).all AV.one = true := flat_one (u8s_flat l)
theorem ic_u8s : ∀ l : List Int, l.flatMap ic = u8s l
  | [] => rfl
  | v :: l => by rw [List.flatMap_cons, ic_u8s l]; rfl
/-- A row of bytes that is new; none where there was none. -/
def RowB (H : Hp) (x : AV) (bs : List Int) : AV × Hp := match x with
  | .ns => (.ns, H)
  | _ => (.sl H.nx 1 0 bs.length bs.length, H.new (.c .w (u8s bs)))
theorem clone_ct {H : Hp} {x : AV} {bs : List Int} (hx : Is H x bs) (hl : bs.length ≤ 1000000000000) : CT P 48 [x] H fun v H1 => v = (RowB H x bs).1 ∧ H1 = (RowB H x bs).2 := by
  refine CT.wf (ent_of e48) fun hok => ?_
  rcases hx with ⟨rfl, rfl⟩ | ⟨a, o, c, f, l, rfl, hg, hr⟩
  · refine CT.of_w hm e48 ?_ (by show 1 ≤ 8; omega)
    simp only [a48, go_sem, ↓reduceIte, Nat.reduceEqDiff, Nat.reduceAdd]
    exact ⟨rfl, rfl⟩
  · refine CT.fresh (K := fun v H1 => ∃ b, v = .sl b 1 0 bs.length bs.length ∧ H.nx ≤ b ∧ H1.get b = some (.c .w (u8s bs)) ∧ ∀ a o, H.get a = some o → H1.get a = some o) ?_ fun v H' ⟨b, h1, h2, h3, h4⟩ _ => ⟨h4, .inr ⟨b, 1, _, _, h1, h2, h3, u8s_flat bs, rfl, rfl⟩⟩
    refine CT.of_w hm e48 ?_ (by show 1 ≤ 8; omega)
    simp only [a48, go_sem, ↓reduceIte, Nat.reduceEqDiff, Nat.reduceAdd]
    rw [no_bs0]
    simp only [go_sem, ↓reduceIte, Nat.reduceEqDiff, Nat.reduceAdd]
    have hg1 : (H.new (.c .w [])).get a = some (.c f l) := hok.new hg
    have hsrc : apSrc (H.new (.c .w [])) 1 (.sl a 1 o bs.length c) = some (u8s bs, bs.length) := by
      simp only [apSrc, Hp.cells, hg1, if_true, hr, Option.map_some, ic_u8s]
    have hnx : (H.new (.c .w [])).get H.nx = some (.c .w []) := by rw [Hp.get_new, if_pos rfl]
    by_cases h0 : bs.length = 0
    · have hb : bs = [] := List.length_eq_zero_iff.1 h0
      subst hb
      have hap : apV (H.new (.c .w [])) 1 1 (.sl H.nx 1 0 0 0) (.sl a 1 o ([] : List Int).length c) = some (.sl H.nx 1 0 0 0, (H.new (.c .w [])).set H.nx (.c .w (wrN [] 0 []))) := by
        simp only [apV, hsrc, apRun, hnx]
        simp [u8s]
      simp only [go_sem, ↓reduceIte, Nat.reduceEqDiff, Nat.reduceAdd, hap]
      refine ⟨H.nx, rfl, Nat.le_refl _, ?_, fun a o ha => ?_⟩
      · rw [Hp.get_set, if_pos rfl]; rfl
      · rw [Hp.get_set, if_neg (by have := hok a o ha; omega)]; exact hok.new ha
    · have hap : apV (H.new (.c .w [])) 1 1 (.sl H.nx 1 0 0 0) (.sl a 1 o bs.length c) = some (.sl (H.nx + 1) 1 0 bs.length bs.length, ((H.new (.c .w [])).kill H.nx).new (.c .w (u8s bs))) := by
        simp only [apV, hsrc, apRun, hnx, u8s_one]
        rw [if_pos ⟨Nat.zero_lt_one, trivial⟩, if_pos trivial, if_neg (by omega), if_pos ⟨by simp, by omega, by omega⟩]
        simp only [Nat.zero_add]
        rfl
      simp only [go_sem, ↓reduceIte, Nat.reduceEqDiff, Nat.reduceAdd, hap]
      refine ⟨H.nx + 1, rfl, by omega, ?_, fun a o ha => ?_⟩
      · rw [Hp.get_new, if_pos (show H.nx + 1 = ((H.new (AO.c Fl.w [])).kill H.nx).nx from rfl)]
      · have hlt := hok a o ha
        have hn : ((H.new (AO.c Fl.w [])).kill H.nx).nx = H.nx + 1 := rfl
        rw [Hp.get_new, if_neg (by rw [hn]; omega), Hp.get_kill, if_neg (by omega)]; exact hok.new ha
theorem clip_ct {H : Hp} {a o n c : Nat} (hc : n ≤ c) : CT P 157 [.sl a 1 o n c] H fun v H1 => v = .sl a 1 o n n ∧ H1 = H := by
  refine CT.of_w hm e157 ?_ (by show 1 ≤ 9; omega)
  have hs : slV (.sl a 1 o n c) 1 none (some (.i .i64 n)) (some (.i .i64 n)) = some (.sl a 1 o n n) := by
    have h1 : AM.bnd (.i .i64 (n : Int)) c = some n := by simp [AM.bnd, hc]
    have h2 : AM.bnd (.i .i64 (n : Int)) n = some n := by simp [AM.bnd]
    have hb : bndsV n c none (some (.i .i64 n)) (some (.i .i64 n)) = some (0, n, n) := by
      unfold bndsV
      simp only [h1, h2]
    simp only [slV, if_true, hb]
    simp
  simp only [a157, go_sem, ↓reduceIte, Nat.reduceEqDiff, Nat.reduceAdd, hs]
theorem clipN_ct (H : Hp) : CT P 157 [.ns] H fun v H1 => v = .ns ∧ H1 = H := by
  refine CT.of_w hm e157 ?_ (by show 1 ≤ 9; omega)
  have hs : slV .ns 1 none (some (.i .i64 0)) (some (.i .i64 0)) = some .ns := rfl
  simp only [a157, go_sem, ↓reduceIte, Nat.reduceEqDiff, Nat.reduceAdd, hs]
/-- Byte i under its mask. -/
def maskB (q : Int) (i : Nat) (b : Int) : Int := ixor .u8 b (wr .u8 (ishr .u64 (stepI q (wr .u64 i)) 32))
def maskI (q : Int) (bs : List Int) : List Int := bs.mapIdx (fun i b => maskB q i b)
theorem mask_ct {H : Hp} {x : AV} {bs : List Int} (hx : Is H x bs) (hl : bs.length ≤ 1000000000000) (h n : Int) :
    CT P 240 [.i .u64 h, .i .i64 n, x] H fun v H1 => v = (RowB H x (maskI (stepI h (wr .u64 n)) bs)).1 ∧ H1 = (RowB H x (maskI (stepI h (wr .u64 n)) bs)).2 := by
  refine CT.wf (ent_of e240) fun hok => ?_
  rcases hx with ⟨rfl, rfl⟩ | ⟨a, o, c, f, l, rfl, hg, hr⟩
  · refine CT.of_w hm e240 ?_ (by show 3 ≤ 36; omega)
    simp only [a240, go_sem, ↓reduceIte, Nat.reduceEqDiff, Nat.reduceAdd]
    refine wCa_of (step_ct _ _ _) ?_
    rintro v H1 ⟨rfl, rfl⟩ _
    simp only [go_sem, ↓reduceIte, Nat.reduceEqDiff, Nat.reduceAdd]
    refine wCa_of (clone_ct (bs := []) (.inl ⟨rfl, rfl⟩) hl) ?_
    rintro v H2 ⟨rfl, rfl⟩ _
    simp only [go_sem, ↓reduceIte, Nat.reduceEqDiff, Nat.reduceAdd, RowB]
    refine wV_inv hm (fun n e H3 => e.g 8 = .ns ∧ e.g 17 = .i .i64 0 ∧ e.g 18 = .i .i64 0 ∧ H3 = H2) 0 ⟨by simp only [go_sem, ↓reduceIte, Nat.reduceEqDiff, Nat.reduceAdd], by simp only [go_sem, ↓reduceIte, Nat.reduceEqDiff, Nat.reduceAdd], by simp only [go_sem, ↓reduceIte, Nat.reduceEqDiff, Nat.reduceAdd], rfl⟩ ?_
    rintro n e H2 ⟨h1, h2, h3, rfl⟩
    simp only [go_sem, ↓reduceIte, Nat.reduceEqDiff, Nat.reduceAdd, h1, h2, h3, show decide ((0 : Int) < 0) = false by decide]
    refine wCa_of (clipN_ct _) ?_
    rintro v H3 ⟨rfl, rfl⟩ _
    simp only [go_sem, ↓reduceIte, Nat.reduceEqDiff, Nat.reduceAdd]
  · have hlm : (maskI (stepI h (wr .u64 n)) bs).length = bs.length := by simp [maskI]
    refine CT.fresh (K := fun v H1 => v = .sl H.nx 1 0 bs.length bs.length ∧ H1.get H.nx = some (.c .w (u8s (maskI (stepI h (wr .u64 n)) bs))) ∧ ∀ a o, H.get a = some o → H1.get a = some o) ?_ fun v H' ⟨h1, h3, h4⟩ _ => ⟨h4, .inr ⟨H.nx, 1, bs.length, _, h1, Nat.le_refl _, h3, u8s_flat _, ?_⟩⟩
    rotate_left
    · unfold RowB; simp only [hlm]; exact ⟨trivial, trivial⟩
    refine CT.of_w hm e240 ?_ (by show 3 ≤ 36; omega)
    simp only [a240, go_sem, ↓reduceIte, Nat.reduceEqDiff, Nat.reduceAdd]
    refine wCa_of (step_ct _ _ _) ?_
    rintro v H1 ⟨rfl, rfl⟩ _
    simp only [go_sem, ↓reduceIte, Nat.reduceEqDiff, Nat.reduceAdd]
    refine wCa_of (clone_ct (bs := bs) (.inr ⟨a, o, c, f, l, rfl, hg, hr⟩) hl) ?_
    rintro v H2 ⟨rfl, rfl⟩ _
    simp only [go_sem, ↓reduceIte, Nat.reduceEqDiff, Nat.reduceAdd, RowB]
    have hX : ∀ H : Hp, (H.new (AO.c .w (u8s bs))).get H.nx = some (AO.c .w (u8s bs)) := fun H => by rw [Hp.get_new, if_pos rfl]
    have hml : ∀ q, (maskI q bs).length = bs.length := fun q => by simp [maskI]
    generalize hq : stepI h (wr .u64 n) = q
    have hol : ∀ a o, H1.get a = some o → (H1.new (AO.c .w (u8s bs))).get a = some o := fun a o ha => hok.new ha
    refine wV_inv hm (fun n e H2 => ∃ (i : Nat) (d : List Int), i + n = bs.length ∧ e.g 7 = .i .u64 q ∧ e.g 8 = .sl H1.nx 1 0 bs.length bs.length ∧ e.g 17 = .i .i64 bs.length ∧ e.g 18 = .i .i64 i ∧ d.length = bs.length ∧ (∀ j, d[j]? = if j < i then (maskI q bs)[j]? else bs[j]?) ∧ H2.get H1.nx = some (.c .w (u8s d)) ∧ ∀ a o, H1.get a = some o → H2.get a = some o) bs.length ⟨0, bs, by omega, by simp only [go_sem, ↓reduceIte, Nat.reduceEqDiff, Nat.reduceAdd], by simp only [go_sem, ↓reduceIte, Nat.reduceEqDiff, Nat.reduceAdd], by simp only [go_sem, ↓reduceIte, Nat.reduceEqDiff, Nat.reduceAdd], by simp only [go_sem, ↓reduceIte, Nat.reduceEqDiff, Nat.reduceAdd]; rfl, rfl, fun j => by simp, hX _, hol⟩ ?_
    rintro r e H2 ⟨i, d, h1, h2, h3, h4, h5, h6, h7, h8, h9⟩
    by_cases hi : i < bs.length
    · have hdi : d[i]? = some bs[i] := by rw [h7, if_neg (by omega)]; exact List.getElem?_eq_getElem hi
      have hld : ldV H2 (.p H1.nx i) = some (.i .u8 bs[i]) := by rw [ldV_p h8]; simp [u8s, hdi]
      simp only [go_sem, ↓reduceIte, Nat.reduceEqDiff, Nat.reduceAdd, h2, h3, h4, h5, show decide ((i : Int) < bs.length) = true by simp; omega, ia1 (X := H1.nx) hi, hld]
      refine wdm_ca (K := fun v H3 => v = .i .u64 (stepI q (wr .u64 i)) ∧ H3 = H2) (by simp only [go_sem, ↓reduceIte, Nat.reduceEqDiff, Nat.reduceAdd]; exact step_ct _ _ _) ?_
      rintro v H3 ⟨rfl, rfl⟩ _
      refine ⟨?_, ?_⟩
      · simp only [go_sem, ↓reduceIte, Nat.reduceEqDiff, Nat.reduceAdd, againAll, unmask, again, again1, hld]
        simp [veq]
      · simp only [go_sem, ↓reduceIte, Nat.reduceEqDiff, Nat.reduceAdd, unmask, hld, bin_shr (show (0 : Int) ≤ 32 by decide), ia1 (X := H1.nx) hi]
        have hs := stV_1 h8 (o := i) (v := .i .u8 (maskB q i bs[i])) (by simp [u8s, h6, hi]) rfl
        unfold maskB at hs
        simp only [go_sem, ↓reduceIte, Nat.reduceEqDiff, Nat.reduceAdd, hs, h5, wr64n (show i < 9223372036854775807 by omega)]
        refine ⟨r - 1, by omega, Ivv.mk ⟨i + 1, d.set i (maskB q i bs[i]), by omega, ?_⟩⟩
        simp only [go_sem, ↓reduceIte, Nat.reduceEqDiff, Nat.reduceAdd, h2, h3, h4]
        refine ⟨by rw [List.length_set, h6], fun j => ?_, ?_, fun a o ha => ?_⟩
        · rw [List.getElem?_set]
          by_cases hj : i = j
          · subst hj
            rw [if_pos rfl, if_pos (by omega), if_pos (by omega)]
            simp [maskI, hi]
          · rw [if_neg hj, h7]
            by_cases hj2 : j < i
            · rw [if_pos hj2, if_pos (by omega)]
            · rw [if_neg hj2, if_neg (by omega)]
        · rw [Hp.get_set, if_pos rfl]
          simp only [u8s, List.map_set]
          rfl
        · rw [Hp.get_set, if_neg (by have := hok a o ha; omega)]; exact h9 a o ha
    · simp only [go_sem, ↓reduceIte, Nat.reduceEqDiff, Nat.reduceAdd, h3, h4, h5, show decide ((i : Int) < bs.length) = false by simp; omega]
      refine wCa_of (clip_ct (Nat.le_refl _)) ?_
      rintro v H3 ⟨rfl, rfl⟩ _
      simp only [go_sem, ↓reduceIte, Nat.reduceEqDiff, Nat.reduceAdd]
      have hd : d = maskI q bs := List.ext_getElem? fun j => by
        rw [h7]
        by_cases hj : j < i
        · rw [if_pos hj]
        · rw [if_neg hj, List.getElem?_eq_none (by omega), List.getElem?_eq_none (by rw [hml]; omega)]
      rw [← hd]
      exact ⟨h8, h9⟩
end Go.AM.Sb
