/- Leaves: seals, numbers as bytes, equality of bytes. -/
import Derived.Test.YtnbiklilbdgmmaaGreatA8
import Derived.Test.YtnbiklilbdgmmaaGreatE
import Derived.KernelRfl
set_option linter.constructorNameAsVariable false
set_option linter.unusedVariables false
set_option linter.unusedSimpArgs false
namespace Go.AM.Sb
open Go Go.AM
noncomputable abbrev P : Program := Go.Proofs.Tryz.prog
theorem hm : P.follows .mixedOrders = true := by kernel_rfl
def rotl (a : Int) : Int := ior .u64 (ishl .u64 a 13) (ishr .u64 a 51)
theorem rotl_ct (a : Int) (H : Hp) : CT P 115 [.i .u64 a, .i .i64 13] H fun v H1 => v = .i .u64 (rotl a) ∧ H1 = H := by
  refine CT.of_w hm e115 ?_ (by simp [a115])
  have h1 : iand .u64 (wr .u64 13) 63 = 13 := by decide
  have h2 : wr .u64 (64 - 13) = 51 := by decide
  simp only [a115, go_sem, ↓reduceIte, Nat.reduceEqDiff, Nat.reduceAdd, h1, h2, bin_shl (show (0 : Int) ≤ 13 by decide), bin_shr (show (0 : Int) ≤ 51 by decide)]
  rfl
def stepI (h c : Int) : Int := wr .u64 (ixor .u64 (rotl h) c * 15485907386658061715)
theorem step_ct (h c : Int) (H : Hp) : CT P 45 [.i .u64 h, .i .u64 c] H fun v H1 => v = .i .u64 (stepI h c) ∧ H1 = H := by
  refine CT.of_w hm e45 ?_ (by simp [a45])
  simp only [a45, go_sem, ↓reduceIte, Nat.reduceEqDiff, Nat.reduceAdd]
  refine wCa_of (rotl_ct h H) ?_
  rintro v H1 ⟨rfl, rfl⟩ _
  simp only [go_sem, ↓reduceIte, Nat.reduceEqDiff, Nat.reduceAdd]
  rfl
theorem equalI_ct {x y : AV} {bs cs : List Int} {H : Hp} (hx : Is H x bs) (hy : Is H y cs) (hb : bs.length < 4611686018427387904) : CT P 238 [x, y] H fun v H1 => v = .b (decide (bs = cs)) ∧ H1 = H := by
  refine CT.of_w hm e238 ?_ (by simp [a238])
  simp only [a238, go_sem, ↓reduceIte, Nat.reduceEqDiff, Nat.reduceAdd, hx.ln, hy.ln]
  by_cases hl : bs.length = cs.length
  · simp only [go_sem, ↓reduceIte, Nat.reduceEqDiff, Nat.reduceAdd, hl, bne_self_eq_false, hx.ln]
    refine wV_inv hm (fun n e H1 => ∃ i, i + n = bs.length ∧ e.g 0 = x ∧ e.g 1 = y ∧ e.g 12 = .i .i64 bs.length ∧ e.g 13 = .i .i64 i ∧ bs.take i = cs.take i ∧ H1 = H) bs.length ?_ ?_
    · refine ⟨0, ?_⟩
      simp only [go_sem, ↓reduceIte, Nat.reduceEqDiff, Nat.reduceAdd, hl]
      simp
    · rintro n e H1 ⟨i, h1, h2, h3, h4, h5, h6, rfl⟩
      simp only [go_sem, ↓reduceIte, Nat.reduceEqDiff, Nat.reduceAdd, h2, h3, h4, h5]
      by_cases hi : i < bs.length
      · have hb1 : bs[i]? = some bs[i] := List.getElem?_eq_getElem hi
        have hc1 : cs[i]? = some cs[i] := List.getElem?_eq_getElem (by omega)
        obtain ⟨a1, o1, r1, r2⟩ := hx.at hb1 (k := .i64)
        obtain ⟨a2, o2, r3, r4⟩ := hy.at hc1 (k := .i64)
        simp only [go_sem, ↓reduceIte, Nat.reduceEqDiff, Nat.reduceAdd, show decide ((i : Int) < bs.length) = true by simp; omega, h2, h3, h5, r1, r2, r3, r4]
        by_cases he : bs[i] = cs[i]
        · simp only [go_sem, ↓reduceIte, Nat.reduceEqDiff, Nat.reduceAdd, he, bne_self_eq_false, h5]
          refine ⟨n - 1, by omega, Ivv.mk ⟨i + 1, by omega, ?_⟩⟩
          simp only [go_sem, ↓reduceIte, Nat.reduceEqDiff, Nat.reduceAdd, h2, h3, h4, wr64n (show i < 9223372036854775807 by omega)]
          rw [List.take_add_one, List.take_add_one, hb1, hc1, h6, he]
        · have hne : (bs[i] != cs[i]) = true := by simpa using he
          simp only [go_sem, ↓reduceIte, Nat.reduceEqDiff, Nat.reduceAdd, hne]
          have : bs ≠ cs := fun h => he (by subst h; rfl)
          simp [this]
      · simp only [go_sem, ↓reduceIte, Nat.reduceEqDiff, Nat.reduceAdd, show decide ((i : Int) < bs.length) = false by simp; omega]
        have hb1 : bs = cs := by
          have e1 : bs.take i = bs := List.take_of_length_le (by omega)
          have e2 : cs.take i = cs := List.take_of_length_le (by omega)
          rw [← e1, h6, e2]
        simp [hb1]
  · have hne : ((bs.length : Int) != cs.length) = true := by simp; omega
    simp only [go_sem, ↓reduceIte, Nat.reduceEqDiff, Nat.reduceAdd, hne]
    have : bs ≠ cs := fun h => hl (by rw [h])
    simp [this]
/-- How many bits. -/
def bl (n : Nat) : Nat := if n = 0 then 0 else n.log2 + 1
theorem bl_le {n m : Nat} : bl n ≤ m ↔ n < 2 ^ m := by
  unfold bl
  split
  · rename_i h; subst h; simp [Nat.two_pow_pos]
  · rename_i h
    rw [← Nat.log2_lt h]
    omega
theorem bl_shr {n k : Nat} (h : 2 ^ k ≤ n) : bl n = k + bl (n / 2 ^ k) := by
  have hp : 0 < 2 ^ k := Nat.two_pow_pos k
  have h0 : n / 2 ^ k ≠ 0 := by
    have := Nat.div_pos h hp
    omega
  apply Nat.le_antisymm
  · rw [bl_le, Nat.pow_add]
    have : n / 2 ^ k < 2 ^ bl (n / 2 ^ k) := bl_le.1 (Nat.le_refl _)
    rw [Nat.div_lt_iff_lt_mul hp] at this
    rw [Nat.mul_comm]; exact this
  · apply Nat.le_of_not_lt
    intro hc
    have h1 : n < 2 ^ bl n := bl_le.1 (Nat.le_refl _)
    have h2 : k < bl n := by
      apply Nat.lt_of_not_le
      intro hk
      have := bl_le.1 hk
      omega
    have h3 : n / 2 ^ k < 2 ^ (bl n - k) := by
      rw [Nat.div_lt_iff_lt_mul hp, ← Nat.pow_add, Nat.sub_add_cancel (Nat.le_of_lt h2)]
      exact h1
    have := bl_le.2 h3
    omega
theorem shr_nat (n k : Nat) (hk : k ≤ 64) : ishr .u64 (n : Int) (k : Int) = ((n / 2 ^ k : Nat) : Int) := by
  unfold ishr
  have : min (k : Int).toNat IntKind.u64.bits = k := by simp [IntKind.bits]; omega
  rw [this, Int.ofNat_fdiv]
theorem len64_ct (n : Nat) (hn : n < 2 ^ 64) (H : Hp) : CT P 271 [.i .u64 n] H fun v H1 => v = .i .i64 (bl n) ∧ H1 = H := by
  refine CT.of_w hm e271 ?_ (by show 1 ≤ 25; omega)
  have tab : ∀ m : Nat, m < 256 → len8tab[m]? = some (UInt8.ofNat (bl m)) := by
    intro m hm
    have h : (List.range 256).all (fun m => len8tab[m]? == some (UInt8.ofNat (bl m))) = true := by decide +kernel
    have := List.all_eq_true.1 h m (List.mem_range.2 hm)
    simpa using this
  have fin : ∀ (m : Nat), m < 256 → ixV (.s len8tab) (.i .u8 (wr .u8 (m : Int))) = some (.i .u8 (bl m : Nat)) := by
    intro m hm
    have h1 : wr .u8 (m : Int) = m := by unfold wr; simp only; omega
    have h2 : (UInt8.ofNat (bl m)).toNat = bl m := by
      have : bl m ≤ 8 := bl_le.2 (by omega)
      simp; omega
    simp only [ixV, h1]
    rw [if_pos (by omega)]
    simp only [Int.toNat_natCast, tab m hm, Option.map_some, h2]
  have w1 : ∀ (m b : Nat), m ≤ 8 → b ≤ 56 → wr .i64 ((b : Int) + (m : Int)) = ((b + m : Nat) : Int) := by
    intro m b h1 h2
    rw [wr64 (by omega) (by omega)]; simp
  have w0 : ∀ m : Nat, m ≤ 8 → wr .i64 (m : Int) = m := fun m h => wr64 (by omega) (by omega)
  have b8 : ∀ m : Nat, m < 256 → bl m ≤ 8 := fun m h => bl_le.2 (by omega)
  have s32 := shr_nat n 32 (by omega)
  have c32 : ((32 : Nat) : Int) = 32 := rfl
  have c16 : ((16 : Nat) : Int) = 16 := rfl
  have c8 : ((8 : Nat) : Int) = 8 := rfl
  rw [c32] at s32
  simp only [a271, go_sem, ↓reduceIte, Nat.reduceEqDiff, Nat.reduceAdd]
  have step3 : ∀ (m b : Nat), m < 2 ^ 16 → b ≤ 48 → bl n = b + bl m → ∀ e : Env, e.g 0 = .i .u64 m → e.g 2 = .i .i64 b →
      wCd P (.b (decide ((256 : Int) ≤ m))) (.sq (.rg [.p 15 (.mv 0), .p 16 (.bo .shr 15 (.c (.i .u64 8))), .p 0 (.mv 16)]) (.rg [.p 17 (.mv 2), .p 18 (.bo .add 17 (k 8)), .p 2 (.mv 18)])) .sk e H (.sq (.sq (.rg [.p 19 (.mv 2), .p 20 (.mv 0), .p 21 (.ci .u8 20), .p 22 (.ix (.c (.s len8tab)) 21), .p 23 (.ci .i64 22), .p 24 (.bo .add 19 23), .p 2 (.mv 24)]) (.rt)) (.ret [.t 2] fun v H1 => v = AV.i IntKind.i64 (bl n) ∧ H1 = H)) := by
    intro m b hm hb hbl e h0 h2
    have s8 := shr_nat m 8 (by omega)
    rw [c8] at s8
    have a8 : wr .i64 ((b : Int) + 8) = ((b + 8 : Nat) : Int) := by rw [wr64 (by omega) (by omega)]; simp
    by_cases hc : 256 ≤ m
    · have hq : m / 2 ^ 8 < 256 := by omega
      have := bl_shr (n := m) (k := 8) hc
      have f1 := w0 _ (b8 _ hq)
      have f2 := w1 _ (b + 8) (b8 _ hq) (Nat.add_le_add_right hb 8)
      simp only [go_sem, ↓reduceIte, Nat.reduceEqDiff, Nat.reduceAdd, show decide ((256 : Int) ≤ m) = true by simp; omega, h0, h2, bin_shr (show (0 : Int) ≤ 8 by decide), s8, a8, fin _ hq, f1, f2]
      simp [hbl, this]; omega
    · have hq : m < 256 := by omega
      have f1 := w0 _ (b8 _ hq)
      have f2 := w1 _ b (b8 _ hq) (Nat.le_trans hb (by decide))
      simp only [go_sem, ↓reduceIte, Nat.reduceEqDiff, Nat.reduceAdd, show decide ((256 : Int) ≤ m) = false by simp; omega, h0, h2, fin _ hq, f1, f2]
      simp [hbl]
  have step2 : ∀ (m b : Nat), m < 2 ^ 32 → b ≤ 32 → bl n = b + bl m → ∀ e : Env, e.g 0 = .i .u64 m → e.g 2 = .i .i64 b →
      wCd P (.b (decide ((65536 : Int) ≤ m))) (.sq (.rg [.p 9 (.mv 0), .p 10 (.bo .shr 9 (.c (.i .u64 16))), .p 0 (.mv 10)]) (.rg [.p 11 (.mv 2), .p 12 (.bo .add 11 (k 16)), .p 2 (.mv 12)])) .sk e H (.sq (.sq (.sq (.rg [.p 13 (.mv 0), .p 14 (.bo .geq 13 (.c (.i .u64 256)))]) (.cd 14 (.sq (.rg [.p 15 (.mv 0), .p 16 (.bo .shr 15 (.c (.i .u64 8))), .p 0 (.mv 16)]) (.rg [.p 17 (.mv 2), .p 18 (.bo .add 17 (k 8)), .p 2 (.mv 18)])) (.sk))) (.sq (.rg [.p 19 (.mv 2), .p 20 (.mv 0), .p 21 (.ci .u8 20), .p 22 (.ix (.c (.s len8tab)) 21), .p 23 (.ci .i64 22), .p 24 (.bo .add 19 23), .p 2 (.mv 24)]) (.rt))) (.ret [.t 2] fun v H1 => v = AV.i IntKind.i64 (bl n) ∧ H1 = H)) := by
    intro m b hm hb hbl e h0 h2
    have s16 := shr_nat m 16 (by omega)
    rw [c16] at s16
    have a16 : wr .i64 ((b : Int) + 16) = ((b + 16 : Nat) : Int) := by rw [wr64 (by omega) (by omega)]; simp
    by_cases hc : 65536 ≤ m
    · have := bl_shr (n := m) (k := 16) hc
      simp only [go_sem, ↓reduceIte, Nat.reduceEqDiff, Nat.reduceAdd, show decide ((65536 : Int) ≤ m) = true by simp; omega, h0, h2, bin_shr (show (0 : Int) ≤ 16 by decide), s16, a16]
      exact step3 _ (b + 16) (by omega) (Nat.add_le_add_right hb 16) (by rw [hbl, this]; omega) _ (by simp only [go_sem, ↓reduceIte, Nat.reduceEqDiff, Nat.reduceAdd]) (by simp only [go_sem, ↓reduceIte, Nat.reduceEqDiff, Nat.reduceAdd])
    · simp only [go_sem, ↓reduceIte, Nat.reduceEqDiff, Nat.reduceAdd, show decide ((65536 : Int) ≤ m) = false by simp; omega, h0, h2]
      exact step3 m b (by omega) (Nat.le_trans hb (by decide)) hbl _ (by simp only [go_sem, ↓reduceIte, Nat.reduceEqDiff, Nat.reduceAdd, h0]) (by simp only [go_sem, ↓reduceIte, Nat.reduceEqDiff, Nat.reduceAdd, h2])
  by_cases hc : 4294967296 ≤ n
  · have := bl_shr (n := n) (k := 32) hc
    simp only [show decide ((4294967296 : Int) ≤ n) = true by simp; omega, go_sem, ↓reduceIte, Nat.reduceEqDiff, Nat.reduceAdd, bin_shr (show (0 : Int) ≤ 32 by decide), s32]
    exact step2 _ 32 (by omega) (by decide) this _ (by simp only [go_sem, ↓reduceIte, Nat.reduceEqDiff, Nat.reduceAdd]) (by simp only [go_sem, ↓reduceIte, Nat.reduceEqDiff, Nat.reduceAdd]; rfl)
  · simp only [show decide ((4294967296 : Int) ≤ n) = false by simp; omega, go_sem, ↓reduceIte, Nat.reduceEqDiff, Nat.reduceAdd]
    exact step2 n 0 (by omega) (by decide) (by simp) _ (by simp only [go_sem, ↓reduceIte, Nat.reduceEqDiff, Nat.reduceAdd]) (by simp only [go_sem, ↓reduceIte, Nat.reduceEqDiff, Nat.reduceAdd]; rfl)
theorem len_ct (n : Nat) (hn : n < 2 ^ 64) (H : Hp) : CT P 233 [.i .u64 n] H fun v H1 => v = .i .i64 (bl n) ∧ H1 = H := by
  refine CT.of_w hm e233 ?_ (by show 1 ≤ 8; omega)
  simp only [a233, go_sem, ↓reduceIte, Nat.reduceEqDiff, Nat.reduceAdd]
  refine wCa_of (len64_ct n hn H) ?_
  rintro v H1 ⟨rfl, rfl⟩ _
  simp only [go_sem, ↓reduceIte, Nat.reduceEqDiff, Nat.reduceAdd]
def kindI (n : Int) : Int := if n < 0 ∨ 4611686018427387903 < n then -1 else if n < 64 then 0 else if n < 16384 then 1 else if n < 1073741824 then 2 else 3
theorem kind_ct (n : Int) (H : Hp) (hn : -9223372036854775808 ≤ n ∧ n ≤ 9223372036854775807) : CT P 159 [.i .i64 n] H fun v H1 => v = .i .i64 (kindI n) ∧ H1 = H := by
  refine CT.of_w hm e159 ?_ (by show 1 ≤ 22; omega)
  simp only [a159, go_sem, ↓reduceIte, Nat.reduceEqDiff, Nat.reduceAdd]
  by_cases h0 : n < 0
  · simp only [go_sem, ↓reduceIte, Nat.reduceEqDiff, Nat.reduceAdd, h0, decide_true]
    simp [kindI, h0]
  · simp only [go_sem, ↓reduceIte, Nat.reduceEqDiff, Nat.reduceAdd, show decide (n < 0) = false by simpa using h0]
    by_cases h1 : 4611686018427387903 < n
    · simp only [go_sem, ↓reduceIte, Nat.reduceEqDiff, Nat.reduceAdd, h1, decide_true]
      simp [kindI, h1]
    · simp only [go_sem, ↓reduceIte, Nat.reduceEqDiff, Nat.reduceAdd, show decide (4611686018427387903 < n) = false by simpa using h1]
      obtain ⟨m, rfl⟩ : ∃ m : Nat, n = m := ⟨n.toNat, by omega⟩
      have hw : wr .u64 (m : Int) = m := by unfold wr; simp only; omega
      refine wV_inv hm (fun r e H1 => ∃ i : Nat, i + r = 3 ∧ e.g 0 = .i .i64 m ∧ e.g 10 = .i .i64 i ∧ (1 ≤ i → 64 ≤ m) ∧ (2 ≤ i → 16384 ≤ m) ∧ (3 ≤ i → 1073741824 ≤ m) ∧ H1 = H) 3 ⟨0, by omega, by simp only [go_sem, ↓reduceIte, Nat.reduceEqDiff, Nat.reduceAdd], by simp only [go_sem, ↓reduceIte, Nat.reduceEqDiff, Nat.reduceAdd]; rfl, by omega, by omega, by omega, rfl⟩ ?_
      rintro r e H1 ⟨i, h2, h3, h4, h5, h6, h7, rfl⟩
      have hi : i = 0 ∨ i = 1 ∨ i = 2 ∨ i = 3 := by omega
      simp only [go_sem, ↓reduceIte, Nat.reduceEqDiff, Nat.reduceAdd, h4]
      rcases hi with rfl | rfl | rfl | rfl
      · have hs : wr .i64 (ishl .i64 8 ((0 : Nat) : Int) - 2) = 6 := by decide
        simp only [go_sem, ↓reduceIte, Nat.reduceEqDiff, Nat.reduceAdd, h3, h4, hw, show decide (((0 : Nat) : Int) < 3) = true by decide, bin_shl (show (0 : Int) ≤ ((0 : Nat) : Int) by decide), hs]
        refine wdCa_of (len_ct m (by omega) H1) ?_
        rintro v H2 ⟨rfl, rfl⟩ _
        simp only [go_sem, ↓reduceIte, Nat.reduceEqDiff, Nat.reduceAdd, h3, h4]
        have hb : bl m ≤ 6 ↔ m < 64 := bl_le
        by_cases hc : m < 64
        · simp only [go_sem, ↓reduceIte, Nat.reduceEqDiff, Nat.reduceAdd, show decide ((bl m : Int) ≤ 6) = true by simp only [decide_eq_true_eq]; omega]
          simp [kindI]; omega
        · simp only [go_sem, ↓reduceIte, Nat.reduceEqDiff, Nat.reduceAdd, show decide ((bl m : Int) ≤ 6) = false by simp only [decide_eq_false_iff_not]; omega, h3, h4]
          refine ⟨r - 1, by omega, Ivv.mk ⟨1, by omega, ?_⟩⟩
          simp only [go_sem, ↓reduceIte, Nat.reduceEqDiff, Nat.reduceAdd, h3]
          refine ⟨congrArg (AV.i .i64) (by decide), by omega, by omega, by omega⟩
      · have hs : wr .i64 (ishl .i64 8 ((1 : Nat) : Int) - 2) = 14 := by decide
        simp only [go_sem, ↓reduceIte, Nat.reduceEqDiff, Nat.reduceAdd, h3, h4, hw, show decide (((1 : Nat) : Int) < 3) = true by decide, bin_shl (show (0 : Int) ≤ ((1 : Nat) : Int) by decide), hs]
        refine wdCa_of (len_ct m (by omega) H1) ?_
        rintro v H2 ⟨rfl, rfl⟩ _
        simp only [go_sem, ↓reduceIte, Nat.reduceEqDiff, Nat.reduceAdd, h3, h4]
        have hb : bl m ≤ 14 ↔ m < 16384 := bl_le
        by_cases hc : m < 16384
        · simp only [go_sem, ↓reduceIte, Nat.reduceEqDiff, Nat.reduceAdd, show decide ((bl m : Int) ≤ 14) = true by simp only [decide_eq_true_eq]; omega]
          simp [kindI]; omega
        · simp only [go_sem, ↓reduceIte, Nat.reduceEqDiff, Nat.reduceAdd, show decide ((bl m : Int) ≤ 14) = false by simp only [decide_eq_false_iff_not]; omega, h3, h4]
          refine ⟨r - 1, by omega, Ivv.mk ⟨2, by omega, ?_⟩⟩
          simp only [go_sem, ↓reduceIte, Nat.reduceEqDiff, Nat.reduceAdd, h3]
          refine ⟨congrArg (AV.i .i64) (by decide), by omega, by omega, by omega⟩
      · have hs : wr .i64 (ishl .i64 8 ((2 : Nat) : Int) - 2) = 30 := by decide
        simp only [go_sem, ↓reduceIte, Nat.reduceEqDiff, Nat.reduceAdd, h3, h4, hw, show decide (((2 : Nat) : Int) < 3) = true by decide, bin_shl (show (0 : Int) ≤ ((2 : Nat) : Int) by decide), hs]
        refine wdCa_of (len_ct m (by omega) H1) ?_
        rintro v H2 ⟨rfl, rfl⟩ _
        simp only [go_sem, ↓reduceIte, Nat.reduceEqDiff, Nat.reduceAdd, h3, h4]
        have hb : bl m ≤ 30 ↔ m < 1073741824 := bl_le
        by_cases hc : m < 1073741824
        · simp only [go_sem, ↓reduceIte, Nat.reduceEqDiff, Nat.reduceAdd, show decide ((bl m : Int) ≤ 30) = true by simp only [decide_eq_true_eq]; omega]
          simp [kindI]; omega
        · simp only [go_sem, ↓reduceIte, Nat.reduceEqDiff, Nat.reduceAdd, show decide ((bl m : Int) ≤ 30) = false by simp only [decide_eq_false_iff_not]; omega, h3, h4]
          refine ⟨r - 1, by omega, Ivv.mk ⟨3, by omega, ?_⟩⟩
          simp only [go_sem, ↓reduceIte, Nat.reduceEqDiff, Nat.reduceAdd, h3]
          refine ⟨congrArg (AV.i .i64) (by decide), by omega, by omega, by omega⟩
      · simp only [go_sem, ↓reduceIte, Nat.reduceEqDiff, Nat.reduceAdd, show decide (((3 : Nat) : Int) < 3) = false by decide]
        simp [kindI]; omega
end Go.AM.Sb
