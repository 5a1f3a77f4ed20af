/- Regions whose order is open: the theorem, but for the effects' step. -/
import Derived.Test.YtnbiklilbdgmmaaGreatA6
set_option linter.constructorNameAsVariable false
set_option linter.unusedVariables false
set_option linter.unusedSimpArgs false
namespace Go.AM
open Go
/-- The step of an effect. -/
def RunE (P : Program) : Prop := ∀ {Pr : Nat → Prop} {w0 : World} {n0 N : Nat} {ops : Array Oper} {l : List AM.Op} {e0 : Env} {listed : Array Bool} {D : Nat} {eD : Env} {F : Hp} {μ : Mu} {a : Act} {w : World} {cal : Cal},
  CalOk P cal → Inv Pr w0 n0 N ops l e0 listed D eD F μ a w → backB ops.toList 0 = true → distB l [] = true → ordB (ancs ops.toList []) l = true → IsOps P N ops l →
  ∀ {i : Nat} {ms cs : List Nat} {s : List DC}, i ∈ Region.ready .any ops listed → ∀ {o : Oper}, ops[i]? = some o → schedB (ancs ops.toList []) l (.e i ms cs :: s) D = true →
  ∀ {K : Env → Hp → R} {r : AV × Hp}, opD cal l (.e i ms cs) eD F K = some r → ∀ (Q : Exit → Act → World → Prop),
  WpG P ops o a w (fun a' w' => ∃ μ' eD' F', Eu n0 μ μ' ∧ RK F F' ∧ Inv Pr w0 n0 N ops l e0 (listed.setIfInBounds i true) (D ||| 2 ^ i) eD' F' μ' a' w' ∧ K eD' F' = some r) Q
section
variable {P : Program} {Pr : Nat → Prop} {w0 : World} {n0 N : Nat} {ops : Array Oper} {l : List AM.Op} {e0 e : Env} {listed : Array Bool} {D : Nat} {eD : Env} {F H0 : Hp} {μ μ0 : Mu} {a : Act} {w : World} {cal : Cal}
def Sync : List DC → Prop
  | [] => True
  | .e _ _ _ :: _ => True
  | _ => False
/-- Up to the next effect. -/
theorem advAll (hdist : distB l [] = true) (hord : ordB (ancs ops.toList []) l = true) (hlen : l.length = ops.size) {K : Env → Hp → R} {r : AV × Hp} : ∀ (s : List DC) {D : Nat} {eD : Env} {F : Hp},
    Inv Pr w0 n0 N ops l e0 listed D eD F μ a w → schedB (ancs ops.toList []) l s D = true → opsD cal l s eD F K = some r →
    ∃ s' D' eD' F', Sync s' ∧ Inv Pr w0 n0 N ops l e0 listed D' eD' F' μ a w ∧ schedB (ancs ops.toList []) l s' D' = true ∧ opsD cal l s' eD' F' K = some r ∧ RK F F'
  | [], D, eD, F, I, hs, hr => ⟨[], D, eD, F, trivial, I, hs, hr, RK.refl _⟩
  | .e i ms cs :: s, D, eD, F, I, hs, hr => ⟨.e i ms cs :: s, D, eD, F, trivial, I, hs, hr, RK.refl _⟩
  | .n i :: s, D, eD, F, I, hs, hr => by
    simp only [schedB] at hs
    simp only [opsD, opD] at hr
    split at hs
    · rename_i op hop
      rw [hop] at hr
      simp only [Bool.and_eq_true, Bool.not_eq_true', decide_eq_true_eq, beq_iff_eq] at hs
      obtain ⟨⟨⟨h1, h2⟩, h3⟩, h4⟩ := hs
      replace hr : op0 cal op eD F (fun e1 H1 => opsD cal l s e1 H1 K) = some r := hr
      rw [op0_eq] at hr
      have hanc : ∀ k, ((ancs ops.toList []).getD i 0).testBit k = true → D.testBit k = true := by
        intro k hk
        rw [← h3, Nat.testBit_and, Bool.and_eq_true] at hk
        exact hk.2
      obtain ⟨v, F', q1, q0, q2⟩ := I.adv hdist hord hlen hop h1 h2 hanc hr
      obtain ⟨s', D', eD', F3, p1, p2, p3, p4, p5⟩ := advAll hdist hord hlen s q2 h4 q1
      exact ⟨s', D', eD', F3, p1, p2, p3, p4, q0.trans p5⟩
    · cases hs
theorem getD_false {i : Nat} (hi : i < listed.size) : listed.getD i false = listed.getD i true := by
  rw [Array.getD_eq_getD_getElem?, Array.getD_eq_getD_getElem?, Array.getElem?_eq_getElem hi]; rfl
theorem draw_main (hE : RunE P) (hcal : CalOk P cal) (hback : backB ops.toList 0 = true) (hdist : distB l [] = true) (hord : ordB (ancs ops.toList []) l = true) (hl : IsOps P N ops l) {K : Env → Hp → R} {r : AV × Hp} (Q : Exit → Act → World → Prop)
    (hQ : ∀ a' w', Beh Pr w0 μ0 N H0 (fun e' H' => K e' H' = some r) a' w' → Q .normal a' w') : ∀ (m : Nat) {listed : Array Bool} {D : Nat} {eD : Env} {F : Hp} {μ : Mu} {a : Act} {w : World} {s : List DC},
    listed.toList.count false ≤ m → Inv Pr w0 H0.nx N ops l e0 listed D eD F μ a w → schedB (ancs ops.toList []) l s D = true → opsD cal l s eD F K = some r → Eu H0.nx μ0 μ → RK H0 F → wpAny P .any ops Q m listed a w := by
  -- all have run
  have done : ∀ {listed : Array Bool} {D : Nat} {eD : Env} {F : Hp} {μ : Mu} {a : Act} {w : World} {s : List DC}, Inv Pr w0 H0.nx N ops l e0 listed D eD F μ a w → schedB (ancs ops.toList []) l s D = true → opsD cal l s eD F K = some r → Eu H0.nx μ0 μ → RK H0 F →
      (∀ i, i < ops.size → listed.getD i false = true) → Q .normal a w := by
    intro listed D eD F μ a w s I hs hr hx hk hall
    have hsn : s = [] := by
      match s, hs with
      | [], _ => rfl
      | .n i :: s, hs =>
        simp only [schedB] at hs
        split at hs
        · rename_i op hop
          simp only [Bool.and_eq_true, Bool.not_eq_true'] at hs
          have := I.sub i (hall i (by rw [← hl.2.1]; exact (List.getElem?_eq_some_iff.1 hop).1))
          rw [hs.1.1.1] at this; cases this
        · cases hs
      | .e i ms cs :: s, hs =>
        simp only [schedB] at hs
        split at hs
        · rename_i op hop
          simp only [Bool.and_eq_true, Bool.not_eq_true'] at hs
          have := I.sub i (hall i (by rw [← hl.2.1]; exact (List.getElem?_eq_some_iff.1 hop).1))
          rw [hs.1.1.1.1.1] at this; cases this
        · cases hs
    subst hsn
    have hP : ∀ i, isP listed D i = false := by
      intro i
      unfold isP
      by_cases hi : i < listed.size
      · rw [← getD_false hi, hall i (by rw [← I.clo.sz]; exact hi)]; simp
      · rw [Array.getD_eq_getD_getElem?, Array.getElem?_eq_none (by omega)]; simp
    have hpd : ∀ t, t ∉ pendD l listed D := fun t ht => by
      obtain ⟨i, _, _, h, _⟩ := mem_pendD.1 ht
      rw [hP i] at h; cases h
    have hpu : ∀ b, b ∉ pendU l listed D eD := fun b hb => by
      obtain ⟨i, _, _, _, h, _⟩ := mem_pendU.1 hb
      rw [hP i] at h; cases h
    refine hQ _ _ ⟨eD, F, μ, hr, ⟨I.df, ⟨I.er.1, fun t => ?_⟩, ?_⟩, hx, hk⟩
    · have := I.er.2 t
      rw [resetL_g, if_neg (hpd t)] at this
      exact this
    · have : (killL (pendU l listed D eD) F).get = F.get := by
        funext b
        rw [killL_get, if_neg (hpu b)]
      rw [← this]; exact I.rel
  intro m
  induction m with
  | zero =>
    intro listed D eD F μ a w s hc I hs hr hx hk
    have hall : ∀ i, i < ops.size → listed.getD i false = true := by
      intro i hi
      have h0 : false ∉ listed.toList := List.count_eq_zero.1 (by omega)
      have hi' : i < listed.size := by rw [I.clo.sz]; exact hi
      rw [Array.getD_eq_getD_getElem?, Array.getElem?_eq_getElem hi']
      simp only [Option.getD_some]
      cases h : listed[i] with
      | true => rfl
      | false => exact absurd (by rw [← h]; simp) h0
    refine ⟨?_, done I hs hr hx hk hall⟩
    refine Classical.byContradiction fun hne => ?_
    obtain ⟨i, hi⟩ := List.exists_mem_of_ne_nil _ hne
    obtain ⟨o, h1, h2, _⟩ := ready_iff.1 hi
    have hio := (Array.getElem?_eq_some_iff.1 h1).1
    rw [← getD_false (by rw [I.clo.sz]; exact hio), hall i hio] at h2
    cases h2
  | succ m ih =>
    intro listed D eD F μ a w s hc I hs hr hx hk
    refine ⟨fun hnil => ?_, fun i hi => ?_⟩
    · refine done I hs hr hx hk fun i hi => ?_
      cases h : listed.getD i false with
      | true => rfl
      | false => exact absurd hnil (ready_ne I.clo hback hi h)
    · obtain ⟨s', D', eD', F', p1, I', p3, p4, p5⟩ := advAll hdist hord hl.2.1 s I hs hr
      obtain ⟨o, h1, h2, h3⟩ := ready_iff.1 hi
      have hio := (Array.getElem?_eq_some_iff.1 h1).1
      have hisz : i < listed.size := by rw [I.clo.sz]; exact hio
      obtain ⟨op, hop⟩ : ∃ op, l[i]? = some op := ⟨_, List.getElem?_eq_getElem (by rw [hl.2.1]; exact hio)⟩
      have hcnt : (listed.setIfInBounds i true).toList.count false ≤ m := by
        rw [Array.toList_setIfInBounds, List.count_set (by simpa using hisz)]
        have hf : listed.toList[i]'(by simpa using hisz) = false := by
          rw [Array.getElem_toList]
          rw [Array.getD_eq_getD_getElem?, Array.getElem?_eq_getElem hisz] at h2
          simpa using h2
        have hpos : 0 < listed.toList.count false := List.count_pos_iff.2 (by rw [← hf]; simp)
        rw [hf]
        show listed.toList.count false - 1 + 0 ≤ m
        omega
      have cont : ∀ (K2 : Act → World → Prop), WpG P ops o a w K2 Q → (∀ a' w', K2 a' w' → wpAny P .any ops Q m (listed.setIfInBounds i true) a' w') → wpOp P ops Q i (wpAny P .any ops Q m (listed.setIfInBounds i true)) a w := by
        intro K2 hw hk2
        unfold wpOp
        simp only [h1]
        unfold WpG at hw
        split
        · rename_i hwt; rw [if_pos hwt] at hw; exact .inl (Oper.wp_mono hk2 hw)
        · rename_i hwt; rw [if_neg hwt] at hw; exact hk2 _ _ hw
      by_cases hp : isP listed D' i = true
      · refine cont _ (I'.run_n hback hdist hord hl hi hp h1 hop Q) fun a' w' ⟨μ', q1, q2⟩ => ?_
        exact ih hcnt q2 p3 p4 (hx.trans q1 (Nat.le_refl _)) (hk.trans p5)
      · have hDi : D'.testBit i = false := by
          cases h : D'.testBit i with
          | false => rfl
          | true => exact absurd (by unfold isP; rw [h, h2]; rfl) hp
        match s', p1, p3, p4 with
        | [], _, p3, p4 =>
          simp only [schedB, beq_iff_eq] at p3
          rw [p3, Nat.testBit_two_pow_sub_one] at hDi
          rw [hl.2.1] at hDi
          simp at hDi
          omega
        | .e j ms cs :: s2, _, p3, p4 =>
          have hij : i = j := by
            have p3' := p3
            simp only [schedB] at p3'
            split at p3'
            · rename_i oj hoj
              simp only [Bool.and_eq_true, Bool.not_eq_true'] at p3'
              obtain ⟨⟨⟨⟨⟨b1, b2⟩, b3⟩, b4⟩, b45⟩, b5⟩ := p3'
              rw [List.all_eq_true] at b4
              have b6 := b4 (op, i) (by rw [List.mem_zipIdx_iff_getElem?]; exact hop)
              simp only [hDi, Bool.false_eq_true, if_false, Bool.or_eq_true, beq_iff_eq] at b6
              rcases b6 with b6 | b6
              · exact b6
              · have := I'.sub j (anc_listed I.clo hback (.inr hi) b6)
                rw [b1] at this; cases this
            · cases p3'
          subst hij
          simp only [opsD] at p4
          refine cont _ (hE hcal I' hback hdist hord hl hi h1 p3 p4 Q) fun a' w' ⟨μ', eD2, F2, q1, q2, q3, q4⟩ => ?_
          have p3' := p3
          simp only [schedB] at p3'
          split at p3'
          · simp only [Bool.and_eq_true] at p3'
            exact ih hcnt q3 p3'.2 q4 (hx.trans q1 (Nat.le_refl _)) ((hk.trans p5).trans q2)
          · cases p3'
end
end Go.AM
/- Regions whose order is open: from the start. -/
set_option linter.unusedVariables false
set_option linter.unusedSimpArgs false
namespace Go.AM
open Go
section
variable {P : Program} {Pr : Nat → Prop} {w0 : World} {n0 N : Nat} {ops : Array Oper} {l : List AM.Op} {e : Env} {H : Hp} {μ : Mu} {a : Act} {w : World} {cal : Cal}
theorem replD {n i : Nat} : (Array.replicate n false).getD i false = false := by
  rw [Array.getD_eq_getD_getElem?, Array.getElem?_replicate]
  split <;> rfl
theorem Inv.init (hS : St Pr w0 μ N e H a w) {w1 : World} (h1 : w1.heap = w.heap) (h2 : w1.os = w.os) (h3 : w1.tape = w.tape) (h4 : w1.output = w.output) :
    Inv Pr w0 H.nx N ops l e (Array.replicate ops.size false) 0 e H μ a w1 := by
  have hP : ∀ i, isP (Array.replicate ops.size false) 0 i = false := fun i => by unfold isP; simp
  have hpd : ∀ t, t ∉ pendD l (Array.replicate ops.size false) 0 := fun t ht => by
    obtain ⟨i, _, _, h, _⟩ := mem_pendD.1 ht
    rw [hP i] at h; cases h
  have hpu : ∀ b, b ∉ pendU l (Array.replicate ops.size false) 0 e := fun b hb => by
    obtain ⟨i, _, _, _, h, _⟩ := mem_pendU.1 hb
    rw [hP i] at h; cases h
  have hL : ∀ i, ¬ (Array.replicate ops.size false).getD i false = true := fun i h => by rw [replD] at h; cases h
  have hPn : ∀ i, ¬ isP (Array.replicate ops.size false) 0 i = true := fun i h => by rw [hP i] at h; cases h
  have hz : ∀ i, ¬ (0 : Nat).testBit i = true := fun i h => by simp at h
  have hitl : ∀ c m n left cur, H.get c = some (.it (some m) n left cur) → m < H.nx := by
    intro c m n left cur hc
    obtain ⟨bi, _, _, mb, _, _, _, _, h3, _⟩ := hS.rel.obj c _ hc
    rcases Nat.lt_or_ge m H.nx with h | h
    · exact h
    · rw [hS.rel.new m h] at h3; cases h3
  refine ⟨⟨by simp, fun i o _ h => absurd h (hL i)⟩, fun i h => absurd h (hL i), fun i k h => absurd h (hz i), fun i h => absurd h (hz i), fun t _ => rfl, ⟨hS.er.1, fun t => ?_⟩, fun i op _ h => absurd h (hPn i),
    fun b hb => absurd hb (hpu b), fun i j op op' d d' b _ _ h => absurd h (hPn i), ?_, fun b o hb => hS.rel.lt hb, hS.d, fun b hb => absurd hb (hpu b), Nat.le_refl _, hitl, fun i op d b _ h => absurd h (hz i), fun i op d b _ h => absurd h (hL i)⟩
  · rw [resetL_g, if_neg (hpd t)]; exact hS.er.2 t
  · have : (killL (pendU l (Array.replicate ops.size false) 0 e) H).get = H.get := by
      funext b; rw [killL_get, if_neg (hpu b)]
    rw [this]
    exact hS.rel.heap h1 h2 h3 h4
theorem anc_lt (hback : backB ops.toList 0 = true) {i k : Nat} (h : ((ancs ops.toList []).getD i 0).testBit k = true) : k < i := by
  have hP : AncP ops.toList (ancs ops.toList []) := ancs_ok ops.toList [] [] rfl (fun i k h => by simp at h)
  induction i using Nat.strongRecOn generalizing k with
  | _ i ih =>
    obtain ⟨o, e, h1, h2, h3, h4⟩ := hP i k h
    have hlt := back_ok hback h1 h2 h3
    rcases h4 with rfl | h4
    · omega
    · have := ih e.on (by omega) h4
      omega
theorem sched_row (hback : backB ops.toList 0 = true) (hall : l.all (fun o => o.kind < 3) = true) : ∀ (m k : Nat), k + m = l.length → schedB (ancs ops.toList []) l ((List.range' k m).map .n) (2 ^ k - 1) = true
  | 0, k, h => by
    have : k = l.length := by omega
    subst this
    simp [schedB]
  | m + 1, k, h => by
    have hk : k < l.length := by omega
    simp only [List.range'_succ, List.map_cons, schedB, List.getElem?_eq_getElem hk]
    have hkind : (l[k]).kind < 3 := by simpa using List.all_eq_true.1 hall l[k] (by simp)
    have hD : (2 ^ k - 1) ||| 2 ^ k = 2 ^ (k + 1) - 1 := by
      apply Nat.eq_of_testBit_eq
      intro j
      rw [Nat.testBit_or, Nat.testBit_two_pow_sub_one, Nat.testBit_two_pow, Nat.testBit_two_pow_sub_one]
      by_cases c1 : j < k
      · simp [c1]; omega
      · by_cases c2 : k = j
        · subst c2; simp
        · simp [c1, c2]; omega
    have hanc : (ancs ops.toList []).getD k 0 &&& (2 ^ k - 1) = (ancs ops.toList []).getD k 0 := by
      apply Nat.eq_of_testBit_eq
      intro j
      rw [Nat.testBit_and, Nat.testBit_two_pow_sub_one]
      cases hb : ((ancs ops.toList []).getD k 0).testBit j with
      | false => rfl
      | true => simpa using anc_lt hback hb
    rw [hD, sched_row hback hall m (k + 1) (by omega), hanc]
    simp [Nat.testBit_two_pow_sub_one, hkind]
theorem opsD_row {K : Env → Hp → R} : ∀ (m k : Nat), k + m = l.length → ∀ (e : Env) (H : Hp), opsD cal l ((List.range' k m).map .n) e H K = opsL cal (l.drop k) e H K
  | 0, k, h, e, H => by
    have : l.drop k = [] := List.drop_eq_nil_of_le (by omega)
    rw [this]; rfl
  | m + 1, k, h, e, H => by
    have hk : k < l.length := by omega
    rw [List.drop_eq_getElem_cons hk]
    simp only [List.range'_succ, List.map_cons, opsD, opD, opsL, List.getElem?_eq_getElem hk]
    congr 1
    funext e1 H1
    exact opsD_row m (k + 1) (by omega) e1 H1
theorem drawOk_of (hm : P.follows .mixedOrders = true) (hE : RunE P) : DrawOk P := by
  intro N cal hcal id ops l s hl hb e H K r hr Pr w0 μ w a hS
  unfold drawB at hb
  simp only [Bool.and_eq_true] at hb
  obtain ⟨⟨⟨hback, hdist⟩, hord⟩, hs⟩ := hb
  have main : ∀ s', schedB (ancs ops.toList []) l s' 0 = true → opsD cal l s' e H (K .n) = some r → (Code.region id ops true).wp P (PostK Pr w0 μ N H fun x e' H' => K x e' H' = some r) a w := by
    intro s' hs' hr'
    refine wp_region_any hm ?_
    exact draw_main (μ0 := μ) (H0 := H) hE hcal hback hdist hord hl _ (fun a' w' ⟨e', H', μ', q1, q2, q3, q4⟩ => ⟨.n, e', H', μ', trivial, q1, q2, q3, q4⟩) ops.size (by simp) (Inv.init hS rfl rfl rfl rfl) hs' hr' (Eu.refl _ _) (RK.refl _)
  cases s with
  | nil =>
    have h0 := opsD_row (cal := cal) (K := K .n) (l := l) l.length 0 (by omega) e H
    refine main ((List.range' 0 l.length).map .n) (sched_row hback hs l.length 0 (by omega)) ?_
    rw [h0]
    exact hr
  | cons c s => exact main (c :: s) hs hr
end
end Go.AM
/- Objects out of sight. -/
set_option linter.unusedVariables false
set_option linter.unusedSimpArgs false
namespace Go.AM
open Go
theorem maskL_ok {e : Env} : ∀ {ms : List Nat} {H M : Hp} {r : List (Nat × AO)}, maskL e H ms = some (M, r) →
    M.nx = H.nx ∧ (∀ b, M.get b = if b ∈ r.map Prod.fst then none else H.get b) ∧ (∀ b o, (b, o) ∈ r → H.get b = some o ∧ o.msk = true) ∧ (r.map Prod.fst).Nodup ∧
    (∀ t, t ∈ ms → ∀ b, blk (e.g t) = some b → b ∈ r.map Prod.fst) ∧ (∀ b, b ∈ r.map Prod.fst → ∃ t, t ∈ ms ∧ blk (e.g t) = some b)
  | [], H, M, r, h => by
    simp only [maskL, Option.some.injEq, Prod.mk.injEq] at h
    obtain ⟨rfl, rfl⟩ := h
    exact ⟨rfl, fun b => by simp, fun b o hb => by simp at hb, by simp, fun t ht => by simp at ht, fun b hb => by simp at hb⟩
  | t :: ms, H, M, r, h => by
    simp only [maskL] at h
    split at h
    · rename_i hb
      obtain ⟨h1, h2, h3, h4, h5, h6⟩ := maskL_ok h
      refine ⟨h1, h2, h3, h4, fun s hs b hsb => ?_, fun b hb' => ?_⟩
      · rcases List.mem_cons.1 hs with rfl | hs
        · rw [hb] at hsb; cases hsb
        · exact h5 s hs b hsb
      · obtain ⟨s, q1, q2⟩ := h6 b hb'
        exact ⟨s, List.mem_cons_of_mem _ q1, q2⟩
    · rename_i b hb
      split at h
      · cases h
      · rename_i o0 hg
        split at h
        · rename_i hwr
          split at h
          · rename_i M' r' hr
            simp only [Option.some.injEq, Prod.mk.injEq] at h
            obtain ⟨rfl, rfl⟩ := h
            obtain ⟨h1, h2, h3, h4, h5, h6⟩ := maskL_ok hr
            have hnot : b ∉ r'.map Prod.fst := by
              intro hm
              obtain ⟨⟨b', o⟩, hm1, hm2⟩ := List.mem_map.1 hm
              simp only at hm2
              subst hm2
              have := (h3 _ _ hm1).1
              rw [Hp.get_kill, if_pos rfl] at this; cases this
            refine ⟨h1, fun c' => ?_, fun c' o hc => ?_, ?_, fun s hs b' hsb => ?_, fun b' hb' => ?_⟩
            · rw [h2, Hp.get_kill]
              simp only [List.map_cons, List.mem_cons]
              by_cases c1 : c' = b
              · subst c1; simp
              · simp only [c1, false_or, if_false]
            · rcases List.mem_cons.1 hc with hc | hc
              · cases hc; exact ⟨hg, hwr⟩
              · obtain ⟨q1, q2⟩ := h3 c' o hc
                rw [Hp.get_kill] at q1
                split at q1
                · cases q1
                · exact ⟨q1, q2⟩
            · simp only [List.map_cons]
              exact List.nodup_cons.2 ⟨hnot, h4⟩
            · rcases List.mem_cons.1 hs with rfl | hs
              · rw [hb] at hsb; cases hsb; simp
              · simp only [List.map_cons]
                exact List.mem_cons_of_mem _ (h5 s hs b' hsb)
            · simp only [List.map_cons, List.mem_cons] at hb'
              rcases hb' with rfl | hb'
              · exact ⟨t, List.mem_cons_self, hb⟩
              · obtain ⟨s, q1, q2⟩ := h6 b' hb'
                exact ⟨s, List.mem_cons_of_mem _ q1, q2⟩
          · cases h
        · cases h
theorem unmask_ok : ∀ {r : List (Nat × AO)} {H : Hp}, (r.map Prod.fst).Nodup → (unmask H r).nx = H.nx ∧ (∀ b o, (b, o) ∈ r → (unmask H r).get b = some o) ∧ (∀ b, b ∉ r.map Prod.fst → (unmask H r).get b = H.get b)
  | [], H, _ => ⟨rfl, fun b o h => by simp at h, fun b _ => rfl⟩
  | (a, o) :: r, H, hn => by
    simp only [List.map_cons] at hn
    obtain ⟨hn1, hn2⟩ := List.nodup_cons.1 hn
    obtain ⟨h1, h2, h3⟩ := unmask_ok (r := r) (H := H.set a o) hn2
    simp only [unmask]
    refine ⟨h1, fun b o' hb => ?_, fun b hb => ?_⟩
    · rcases List.mem_cons.1 hb with hb | hb
      · cases hb
        rw [h3 a hn1, Hp.get_set, if_pos rfl]
      · exact h2 b o' hb
    · simp only [List.map_cons, List.mem_cons, not_or] at hb
      rw [h3 b hb.2, Hp.get_set, if_neg hb.1]
end Go.AM
/- Regions whose order is open: the step of an effect. -/
set_option linter.unusedVariables false
set_option linter.unusedSimpArgs false
namespace Go.AM
open Go
section
variable {P : Program} {Pr : Nat → Prop} {w0 : World} {N : Nat} {ops : Array Oper} {l : List AM.Op} {e0 : Env} {listed : Array Bool} {D : Nat} {eD : Env} {F : Hp} {μ : Mu} {a : Act} {w : World}
/-- The blocks of what has run and is masked. -/
def PrM (Pr : Nat → Prop) (μ : Mu) (U : List Nat) (r : List (Nat × AO)) (B : Nat) : Prop := Pr B ∨ ∃ b o bi, (b, o) ∈ r ∧ b ∉ U ∧ μ b = some bi ∧ bi.cb = B
theorem OR.swap {h h' : Nat → Option AO} {bi : BI} {o : AO} (H : OR μ h bi w o) (hm : ∀ m n l c, o = .it (some m) n l c → ∀ n l, h' m = some (.mp n l) → h m = some (.mp n l)) : OR μ h' bi w o := by
  match o, H with
  | .c wr l, H => exact H
  | .mp n l, H => exact H
  | .it none n l cur, H => exact H
  | .it (some m) n left cur, H =>
    obtain ⟨z, mb, since, seen, last, a, b, c, d⟩ := H
    exact ⟨z, mb, since, seen, last, a, b, fun n' l hl => c n' l (hm m n left cur rfl n' l hl), fun l hl => d l (hm m n left cur rfl n l hl)⟩
theorem frame_in {U : List Nat} {M : Hp} {r : List (Nat × AO)} (R : Rel Pr w0 μ (killL U F).get F.nx w) (m1 : M.nx = F.nx) (m2 : ∀ b, M.get b = if b ∈ r.map Prod.fst then none else F.get b) (m3 : ∀ b o, (b, o) ∈ r → F.get b = some o ∧ o.msk = true)
    (hU : ∀ b, b ∈ U → b ∈ r.map Prod.fst)
    (hal : ∀ b o, (b, o) ∈ r → b ∉ U → ∃ bi, μ b = some bi ∧ ∀ c oc bc, c ≠ b → (killL U F).get c = some oc → μ c = some bc → bc.cb ≠ bi.cb) :
    Rel (PrM Pr μ U r) w μ M.get M.nx w := by
  have hsub : ∀ b o, M.get b = some o → (killL U F).get b = some o ∧ b ∉ r.map Prod.fst := by
    intro b o hb
    rw [m2] at hb
    split at hb
    · cases hb
    · rename_i hn
      exact ⟨by rw [killL_get, if_neg (fun h => hn (hU b h))]; exact hb, hn⟩
  have R1 := R.sub (h' := M.get) fun b o hb => (hsub b o hb).1
  refine ⟨R1.obj, R1.sep, by rw [m1]; exact R.new, fun B hB => ⟨rfl, ?_⟩, fun b o bi hb hm hw hP => ?_, rfl, rfl, rfl⟩
  · rcases hB with hB | ⟨b, o, bi, h1, h2, h3, rfl⟩
    · exact (R.prot B hB).2
    · exact R.lt_heap (b := b) (o := o) (by rw [killL_get, if_neg h2]; exact (m3 b o h1).1) h3
  · rcases hP with hP | ⟨b2, o2, bi2, h1, h2, h3, h4⟩
    · exact R1.away b o bi hb hm hw hP
    · obtain ⟨bi3, q1, q2⟩ := hal b2 o2 h1 h2
      rw [h3] at q1; cases q1
      obtain ⟨g1, g2⟩ := hsub b o hb
      have hne : b ≠ b2 := fun c => by subst c; exact g2 (List.mem_map.2 ⟨_, h1, rfl⟩)
      exact q2 b o bi hne g1 hm h4.symm
theorem frame_out {U : List Nat} {M : Hp} {r : List (Nat × AO)} (R : Rel Pr w0 μ (killL U F).get F.nx w) (m2 : ∀ b, M.get b = if b ∈ r.map Prod.fst then none else F.get b) (m3 : ∀ b o, (b, o) ∈ r → F.get b = some o ∧ o.msk = true)
    (nd : (r.map Prod.fst).Nodup) (hU : ∀ b, b ∈ U → b ∈ r.map Prod.fst) {H1 : Hp} {μ' : Mu} {w' : World} (hx : Ext μ μ') (hk : RK M H1) (hit : ∀ c m n left cur, H1.get c = some (.it (some m) n left cur) → m ∉ r.map Prod.fst) (R2 : Rel (PrM Pr μ U r) w μ' H1.get H1.nx w') :
    Rel Pr w0 μ' (killL U (unmask H1 r)).get H1.nx w' := by
  obtain ⟨u1, u2, u3⟩ := unmask_ok (H := H1) nd
  have old : ∀ b o, (b, o) ∈ r → b ∉ U → (killL U F).get b = some o := fun b o h1 h2 => by rw [killL_get, if_neg h2]; exact (m3 b o h1).1
  have hcase : ∀ b o, (killL U (unmask H1 r)).get b = some o → b ∉ U ∧ ((b, o) ∈ r ∨ (b ∉ r.map Prod.fst ∧ H1.get b = some o)) := by
    intro b o hb
    rw [killL_get] at hb
    split at hb
    · cases hb
    · rename_i hn
      refine ⟨hn, ?_⟩
      by_cases c : b ∈ r.map Prod.fst
      · obtain ⟨⟨b', o'⟩, q1, q2⟩ := List.mem_map.1 c
        simp only at q2; subst q2
        rw [u2 _ _ q1] at hb; cases hb
        exact .inl q1
      · rw [u3 b c] at hb; exact .inr ⟨c, hb⟩
  refine ⟨fun b o hb => ?_, fun b1 b2 o1 o2 i1 i2 hne h1 h2 hi1 hi2 hw => ?_, R2.new, fun B hB => ?_, fun b o bi hb hm hw hP => ?_, R2.os.trans R.os, R2.tape.trans R.tape, R2.out.trans R.out⟩
  · obtain ⟨hnU, hr | ⟨_, hr⟩⟩ := hcase b o hb
    · obtain ⟨_, hmk⟩ := m3 _ _ hr
      obtain ⟨bi, q1, q2⟩ := R.obj b _ (old _ _ hr hnU)
      have hp := (R2.prot bi.cb (.inr ⟨b, _, bi, hr, hnU, q1, rfl⟩)).1
      refine ⟨bi, hx _ _ q1, ?_⟩
      match o, hmk, q2 with
      | .c .w c, _, ⟨C, el, lo, hi, k1, k2, k3, k4, k5, k6, k7⟩ => exact ⟨C, el, lo, hi, hp.trans k1, k2, k3, k4, k5, k6.mono hx, k7⟩
      | .mp n l, _, ⟨E, clk, k1, k2, k3⟩ => exact ⟨E, clk, hp.trans k1, k2.mono hx, k3⟩
    · obtain ⟨bi, q1, q2⟩ := R2.obj b o hr
      refine ⟨bi, q1, q2.swap fun m n l c he n' l' hm => ?_⟩
      subst he
      rcases (hcase m _ hm).2 with h | h
      · exact absurd (List.mem_map.2 ⟨_, h, rfl⟩) (hit b m n l c hr)
      · exact h.2
  · have mixed : ∀ bA oA iA bB oB iB, (bA, oA) ∈ r → bA ∉ U → bB ∉ U → bB ∉ r.map Prod.fst → H1.get bB = some oB → μ' bA = some iA → μ' bB = some iB → bA ≠ bB → (oA.wr || oB.wr) = true → Apart iA iB oA oB := by
      intro bA oA iA bB oB iB hA hAU hBU hBr hB hiA hiB hne hw
      obtain ⟨bi, q1, _⟩ := R.obj bA _ (old _ _ hA hAU)
      have : iA = bi := by have := hx _ _ q1; rw [hiA] at this; exact Option.some.inj this
      subst this
      by_cases hwB : oB.own = true
      · exact .inl fun c => R2.away bB oB iB hB hiB hwB (.inr ⟨bA, oA, iA, hA, hAU, q1, c⟩)
      · match oB, hwB with
        | .c .r l2, _ =>
          have hM := hk.ro bB l2 hB
          rw [m2, if_neg hBr] at hM
          have hold : (killL U F).get bB = some (.c .r l2) := by rw [killL_get, if_neg hBU]; exact hM
          obtain ⟨bi2, p1, _⟩ := R.obj bB _ hold
          have : iB = bi2 := by have := hx _ _ p1; rw [hiB] at this; exact Option.some.inj this
          subst this
          exact R.sep bA bB oA _ iA iB hne (old _ _ hA hAU) hold q1 p1 hw
        | .c .w l2, h => exact absurd rfl h
        | .c .z l2, h => exact absurd rfl h
        | .mp _ _, h => exact absurd rfl h
        | .it _ _ _ _, h => exact absurd rfl h
    have symm : ∀ {x y : BI} {p q : AO}, Apart x y p q → Apart y x q p := fun h => by
      rcases h with h | ⟨h1, h2, h3⟩
      · exact .inl (Ne.symm h)
      · exact .inr ⟨h2, h1, h3.symm⟩
    obtain ⟨n1, c1⟩ := hcase b1 o1 h1
    obtain ⟨n2, c2⟩ := hcase b2 o2 h2
    rcases c1 with c1 | ⟨d1, c1⟩ <;> rcases c2 with c2 | ⟨d2, c2⟩
    · obtain ⟨bi1, p1, _⟩ := R.obj b1 _ (old _ _ c1 n1)
      obtain ⟨bi2, p2, _⟩ := R.obj b2 _ (old _ _ c2 n2)
      have e1 : i1 = bi1 := by have := hx _ _ p1; rw [hi1] at this; exact Option.some.inj this
      have e2 : i2 = bi2 := by have := hx _ _ p2; rw [hi2] at this; exact Option.some.inj this
      subst e1; subst e2
      exact R.sep b1 b2 o1 o2 i1 i2 hne (old _ _ c1 n1) (old _ _ c2 n2) p1 p2 hw
    · exact mixed b1 o1 i1 b2 o2 i2 c1 n1 n2 d2 c2 hi1 hi2 hne hw
    · exact symm (mixed b2 o2 i2 b1 o1 i1 c2 n2 n1 d1 c1 hi2 hi1 (Ne.symm hne) (by rw [Bool.or_comm]; exact hw))
    · exact R2.sep b1 b2 o1 o2 i1 i2 hne c1 c2 hi1 hi2 hw
  · obtain ⟨p, q⟩ := R2.prot B (.inl hB)
    exact ⟨p.trans (R.prot B hB).1, q⟩
  · obtain ⟨hnU, hr | ⟨_, hr⟩⟩ := hcase b o hb
    · obtain ⟨bi2, p1, _⟩ := R.obj b _ (old _ _ hr hnU)
      have e1 : bi = bi2 := by have := hx _ _ p1; rw [hm] at this; exact Option.some.inj this
      subst e1
      exact R.away b o bi (old _ _ hr hnU) p1 hw hP
    · exact R2.away b o bi hr hm hw (.inl hP)
end
end Go.AM
/- Regions whose order is open: the step of an effect, put together. -/
set_option linter.unusedVariables false
set_option linter.unusedSimpArgs false
namespace Go.AM
open Go
theorem againAll_ok {l : List AM.Op} {e : Env} {H : Hp} : ∀ {cs : List Nat}, againAll l e H cs = true → ∀ c, c ∈ cs → ∃ op, l[c]? = some op ∧ again e H op = true
  | [], _, c, hc => by cases hc
  | x :: cs, h, c, hc => by
    simp only [againAll] at h
    split at h
    · rename_i op hop
      split at h
      · rename_i ha
        rcases List.mem_cons.1 hc with rfl | hc
        · exact ⟨op, hop, ha⟩
        · exact againAll_ok h c hc
      · cases h
    · cases h
/-- A read that is tried again gives its value. -/
theorem again_nval {op : AM.Op} {e : Env} {H : Hp} {d : Nat} (hd : op.dst = some d) (hk : op.kind = 1) (hoff : (∃ t b o, op = .g t b o ∧ wanted e t b = false) → e.g d = .tp []) (h : again e H op = true) : NValG op e H (e.g d) := by
  have one : ∀ op : AM.Op, op.dst = some d → again1 e H op = true → NVal op e H (e.g d) := by
    intro op hd h
    cases op <;> simp only [again1, Bool.false_eq_true] at h
    rename_i d' ro
    simp only [Op.dst, Option.some.injEq] at hd
    subst hd
    split at h
    · rename_i v hv
      rw [veq_eq _ _ h] at hv
      exact hv
    · cases h
  cases op with
  | g t b o =>
    simp only [again] at h
    simp only [NValG]
    split
    · rename_i hw
      rw [if_pos hw] at h
      exact one o hd h
    · rename_i hw
      exact hoff ⟨t, b, o, rfl, by simpa using hw⟩
  | p d' o => exact one (.p d' o) hd h
  | r d' o => exact one (.r d' o) hd h
  | n d' o => exact one (.n d' o) hd h
  | e d' o => exact absurd hk (by simp [Op.kind])
section
variable {P : Program} {Pr : Nat → Prop} {w0 : World} {n0 N : Nat} {ops : Array Oper} {l : List AM.Op} {e0 : Env} {listed : Array Bool} {D : Nat} {eD : Env} {F : Hp} {μ : Mu} {a : Act} {w : World}
/-- An operation that is ready sees what it is to see. -/
theorem Inv.sees (I : Inv Pr w0 n0 N ops l e0 listed D eD F μ a w) (hback : backB ops.toList 0 = true) (hdist : distB l [] = true) (hord : ordB (ancs ops.toList []) l = true) (hlen : l.length = ops.size)
    {i : Nat} (hi : i ∈ Region.ready .any ops listed) {op : AM.Op} (hop : l[i]? = some op) (hDi : D.testBit i = false) : Agree op.uses eD (resetL e0 (pendD l listed D) eD) := by
  intro t ht
  rw [resetL_g]
  split
  · rename_i hm
    obtain ⟨k, opk, q1, q2, q3⟩ := mem_pendD.1 hm
    unfold isP at q2
    simp only [Bool.and_eq_true, Bool.not_eq_true'] at q2
    rcases (ord_ok hord hop q1 q3 ht).2 with h | h
    · have h1 := anc_listed I.clo hback (.inr hi) h
      have hk : k < listed.size := by rw [I.clo.sz, ← hlen]; exact (List.getElem?_eq_some_iff.1 q1).1
      rw [getD_false hk, q2.2] at h1
      cases h1
    · rw [I.dcl k i q2.1 h] at hDi; cases hDi
  · rfl
end
end Go.AM
/- Regions whose order is open: the step of an effect . -/
set_option linter.unusedVariables false
set_option linter.unusedSimpArgs false
namespace Go.AM
open Go
theorem WpG.mono {P : Program} {ops : Array Oper} {o : Oper} {a : Act} {w : World} {K K' : Act → World → Prop} {Q : Exit → Act → World → Prop} (h : WpG P ops o a w K Q) (hk : ∀ a' w', K a' w' → K' a' w') : WpG P ops o a w K' Q := by
  unfold WpG at h ⊢
  split
  · rename_i hw; rw [if_pos hw] at h; exact Oper.wp_mono hk h
  · rename_i hw; rw [if_neg hw] at h; exact hk _ _ h
theorem isOp_dst {P : Program} {ops : Array Oper} {o : Oper} {op : AM.Op} (h : IsOp P ops o op) : op.dst = o.dst := by
  rcases h with h | h
  · unfold cOpG at h
    split at h
    · exact (cOp_dst h).1
    · rename_i j b op' hg hc'
      split at h
      · cases h; exact (cOp_dst hc').1
      · cases h
    · cases h
  · subst h
    unfold badOp
    cases o.dst <;> rfl
theorem run_e {P : Program} : RunE P := by
  intro Pr w0 n0 N ops l e0 listed D eD F μ a w cal hcal I hback hdist hord hl i ms cs s hi o ho hs K r hr Q
  simp only [schedB] at hs
  split at hs
  case h_2 => cases hs
  rename_i op hop
  simp only [Bool.and_eq_true, Bool.not_eq_true', beq_iff_eq] at hs
  obtain ⟨⟨⟨⟨⟨b1, b2⟩, b3⟩, b4⟩, b45⟩, b5⟩ := hs
  simp only [opD, hop, opM] at hr
  split at hr
  case h_2 => cases hr
  rename_i M rr hmask
  rw [op0_eq] at hr
  obtain ⟨m1, m2, m3, m4, m5, m6⟩ := maskL_ok hmask
  have hsee := I.sees hback hdist hord hl.2.1 hi hop b1
  rw [opV_congr hsee] at hr
  rw [List.all_eq_true] at b4
  have hmiss : ∀ k opk, l[k]? = some opk → isP listed D k = true → ((ancs ops.toList []).getD i 0).testBit k = false := by
    intro k opk hk hp
    unfold isP at hp
    simp only [Bool.and_eq_true, Bool.not_eq_true'] at hp
    cases h : ((ancs ops.toList []).getD i 0).testBit k with
    | false => rfl
    | true =>
      have h1 := anc_listed I.clo hback (.inr hi) h
      have hks : k < listed.size := by rw [I.clo.sz, ← hl.2.1]; exact (List.getElem?_eq_some_iff.1 hk).1
      rw [getD_false hks, hp.2] at h1
      cases h1
  have hU : ∀ b, b ∈ pendU l listed D eD → b ∈ rr.map Prod.fst := by
    intro b hb
    obtain ⟨k, opk, dk, h1, h2, h3, h4, h5⟩ := mem_pendU.1 hb
    have h6 := b4 (opk, k) (by rw [List.mem_zipIdx_iff_getElem?]; exact h1)
    have hD : D.testBit k = true := by unfold isP at h2; simp only [Bool.and_eq_true] at h2; exact h2.1
    simp only [hD, if_true, hmiss k opk h1 h2, Bool.false_eq_true, if_false, h3, h4] at h6
    exact m5 dk (by simpa using h6) b h5
  have hal : ∀ b ob, (b, ob) ∈ rr → b ∉ pendU l listed D eD → ∃ bi, μ b = some bi ∧ ∀ c oc bc, c ≠ b → (killL (pendU l listed D eD) F).get c = some oc → μ c = some bc → bc.cb ≠ bi.cb := by
    intro b ob hb hbU
    obtain ⟨t, ht, htb⟩ := m6 b (List.mem_map.2 ⟨_, hb, rfl⟩)
    have h7 := List.all_eq_true.1 b45 t ht
    obtain ⟨⟨y, k⟩, hyk, h8⟩ := List.any_eq_true.1 h7
    rw [List.mem_zipIdx_iff_getElem?] at hyk
    simp only [Bool.and_eq_true, beq_iff_eq] at h8
    obtain ⟨⟨⟨h9, h10⟩, h11⟩, h12⟩ := h8
    have hls : listed.getD k false = true := by
      have hks : k < listed.size := by rw [I.clo.sz, ← hl.2.1]; exact (List.getElem?_eq_some_iff.1 hyk).1
      cases h : listed.getD k false with
      | true => rfl
      | false =>
        rw [getD_false hks] at h
        exact absurd (mem_pendU.2 ⟨k, y, t, hyk, by unfold isP; rw [h11, h]; rfl, h10, h9, htb⟩) hbU
    obtain ⟨bi, ob2, q1, _, q3⟩ := I.alone k y t b hyk hls h10 h9 htb fun j z hz hzk hj => by
      have := List.all_eq_true.1 h12 (z, j) (by rw [List.mem_zipIdx_iff_getElem?]; exact hz)
      simpa [hzk, hj] using this
    exact ⟨bi, q1, q3⟩
  have R1 := frame_in I.rel m1 m2 m3 hU hal
  refine (opV_ok hcal (hl.2.2 i o op ho hop) hl.1 hr I.er R1 Q).mono fun a' w' ⟨v, H1, μ', cv, q1, q2, q3, q4, q5, q6⟩ => ?_
  -- who goes through a map does not go through a masked one
  have hslot : ∀ b, b ∈ rr.map Prod.fst → ∃ k y t, l[k]? = some y ∧ D.testBit k = true ∧ y.kind = 2 ∧ y.dst = some t ∧ blk (eD.g t) = some b ∧ Fresh ops l D k := by
    intro b hb
    obtain ⟨t, ht, htb⟩ := m6 b hb
    have h7 := List.all_eq_true.1 b45 t ht
    obtain ⟨⟨y, k⟩, hyk, h8⟩ := List.any_eq_true.1 h7
    rw [List.mem_zipIdx_iff_getElem?] at hyk
    simp only [Bool.and_eq_true, beq_iff_eq] at h8
    obtain ⟨⟨⟨h9, h10⟩, h11⟩, h12⟩ := h8
    refine ⟨k, y, t, hyk, h11, h10, h9, htb, fun j z hz hzk hj => ?_⟩
    have := List.all_eq_true.1 h12 (z, j) (by rw [List.mem_zipIdx_iff_getElem?]; exact hz)
    simpa [hzk, hj] using this
  have hitM : ∀ c m n left cur, H1.get c = some (.it (some m) n left cur) → (∀ n left cur, F.get c = some (.it (some m) n left cur) → ∀ b, b ∈ rr.map Prod.fst → m ≠ b) → ∀ b, b ∈ rr.map Prod.fst → m ≠ b := by
    intro c m n left cur hc hF b hb he
    subst he
    rcases q5.it c m n left cur hc with ⟨n', l', c', h⟩ | h | h
    · rw [m2] at h
      split at h
      · cases h
      · exact hF _ _ _ h m hb rfl
    · exact h (by rw [m2, if_pos hb])
    · obtain ⟨⟨b', o'⟩, p1, p2⟩ := List.mem_map.1 hb
      simp only at p2; subst p2
      have := I.low _ _ (m3 _ _ p1).1
      omega
  have hit : ∀ c m n left cur, H1.get c = some (.it (some m) n left cur) → m ∉ rr.map Prod.fst := by
    intro c m n left cur hc hm
    refine hitM c m n left cur hc (fun n left cur hF b hb => ?_) m hm rfl
    obtain ⟨k, y, t, z1, z2, z3, z4, z5, z6⟩ := hslot b hb
    exact I.noit k y t b z1 z2 z3 z4 z5 z6 c m n left cur hF
  have R2 := frame_out I.rel m2 m3 m4 hU q4.1 q5 hit q6
  obtain ⟨u1, u2, u3⟩ := unmask_ok (H := H1) m4
  have hdst : op.dst = o.dst := isOp_dst (hl.2.2 i o op ho hop)
  replace q1 : (if againAll l (putO eD op.dst v) (unmask H1 rr) cs = true then K (putO eD op.dst v) (unmask H1 rr) else none) = some r := q1
  generalize hF' : unmask H1 rr = F' at *
  generalize heD' : putO eD op.dst v = eD' at *
  have q7 : againAll l eD' F' cs = true ∧ K eD' F' = some r := by
    split at q1
    · rename_i h; exact ⟨h, q1⟩
    · cases q1
  have hFM : M.nx ≤ H1.nx := q5.le
  have hFF : F.nx ≤ F'.nx := by rw [u1, ← m1]; exact hFM
  obtain ⟨_, hdis⟩ := dist_ok hdist
  have hg : ∀ t, op.dst ≠ some t → eD'.g t = eD.g t := by
    intro t ht
    rw [← heD']
    unfold putO
    split
    · rename_i d hd; rw [Env.g_st, if_neg (fun c => ht (by rw [hd, c]))]
    · rfl
  have hgd : ∀ d, op.dst = some d → eD'.g d = v := by
    intro d hd
    rw [← heD']
    unfold putO
    rw [hd]
    simp only
    rw [Env.g_st, if_pos rfl]
  have hil : i < l.length := (List.getElem?_eq_some_iff.1 hop).1
  have hsz : i < listed.size := by rw [I.clo.sz, ← hl.2.1]; exact hil
  have hPi : ∀ j, isP listed D j = true → j ≠ i := by
    intro j hj c
    subst c
    unfold isP at hj
    rw [b1] at hj; cases hj
  have hP : isP (listed.setIfInBounds i true) (D ||| 2 ^ i) = isP listed D := by
    funext j
    unfold isP
    rw [setD hsz, bit_add]
    by_cases c : i = j
    · subst c; simp [b1]
    · simp [c]
  have hne : ∀ j op' d', l[j]? = some op' → op'.dst = some d' → j ≠ i → op.dst ≠ some d' := by
    intro j op' d' h1 h2 h3 h4
    exact h3 (hdis j i op' op d' h1 hop h2 h4)
  have hpD : pendD l (listed.setIfInBounds i true) (D ||| 2 ^ i) = pendD l listed D := by
    unfold pendD; rw [hP]
  have hpU : ∀ b, b ∈ pendU l (listed.setIfInBounds i true) (D ||| 2 ^ i) eD' ↔ b ∈ pendU l listed D eD := by
    intro b
    rw [mem_pendU, mem_pendU, hP]
    constructor
    · rintro ⟨j, op', d', h1, h2, h3, h4, h5⟩
      rw [hg _ (hne j op' d' h1 h4 (hPi j h2))] at h5
      exact ⟨j, op', d', h1, h2, h3, h4, h5⟩
    · rintro ⟨j, op', d', h1, h2, h3, h4, h5⟩
      rw [← hg _ (hne j op' d' h1 h4 (hPi j h2))] at h5
      exact ⟨j, op', d', h1, h2, h3, h4, h5⟩
  have hkill : (killL (pendU l (listed.setIfInBounds i true) (D ||| 2 ^ i) eD') F').get = (killL (pendU l listed D eD) F').get := by
    funext b
    rw [killL_get, killL_get]
    simp only [hpU]
  have hrr : ∀ b, b ∈ rr.map Prod.fst → ∃ ob, (b, ob) ∈ rr := by
    intro b hb
    obtain ⟨⟨b', o'⟩, p1, p2⟩ := List.mem_map.1 hb
    simp only at p2; subst p2
    exact ⟨_, p1⟩
  have hlist : ∀ j, (listed.setIfInBounds i true).getD j false = true → j = i ∨ listed.getD j false = true := by
    intro j hj
    rw [setD hsz] at hj
    by_cases c : i = j
    · exact .inl c.symm
    · rw [if_neg c] at hj; exact .inr hj
  have hdcl : ∀ k, ((ancs ops.toList []).getD i 0).testBit k = true → D.testBit k = true := by
    intro k hk
    rw [← b3, Nat.testBit_and, Bool.and_eq_true] at hk
    exact hk.2
  -- a slot of op is not looked at by what is pending, but under an effect's order
  have hsl : ∀ j op', l[j]? = some op' → isP listed D j = true → ∀ t, t ∈ op'.uses → op.dst = some t → ((ancs ops.toList []).getD i 0).testBit j = true := by
    intro j op' hj hp t ht hd
    have hDj : D.testBit j = true := by unfold isP at hp; simp only [Bool.and_eq_true] at hp; exact hp.1
    rcases (ord_ok hord hj hop hd ht).2 with h | h
    · rw [I.dcl j i hDj h] at b1; cases b1
    · exact h
  have hslN : ∀ j op', l[j]? = some op' → isP listed D j = true → ∀ t, t ∈ op'.uses → op.dst ≠ some t := by
    intro j op' hj hp t ht hd
    have := hsl j op' hj hp t ht hd
    rw [hmiss j op' hj hp] at this; cases this
  have hF1 : ∀ {c m n left cur}, F'.get c = some (.it (some m) n left cur) → H1.get c = some (.it (some m) n left cur) := by
    intro c m n left cur hc
    by_cases hm : c ∈ rr.map Prod.fst
    · obtain ⟨ob, p⟩ := hrr c hm
      rw [u2 c ob p] at hc
      cases hc
      exact absurd rfl (AO.msk_it (m3 c _ p).2 m n left cur)
    · rw [u3 c hm] at hc; exact hc
  have hRK : RK F F' := by
    refine ⟨fun b c hb => ?_, hFF, fun b hb => ?_, fun c m n left cur hc => ?_, fun b f c hf hb => ?_⟩
    · by_cases hm : b ∈ rr.map Prod.fst
      · obtain ⟨ob, p⟩ := hrr b hm
        rw [u2 b ob p] at hb
        cases hb
        exact absurd (m3 b _ p).2 (by simp [AO.msk])
      · rw [u3 b hm] at hb
        have := q5.ro b c hb
        rw [m2, if_neg hm] at this
        exact this
    · by_cases hm : b ∈ rr.map Prod.fst
      · obtain ⟨ob, p⟩ := hrr b hm
        exact .inl (by rw [(m3 b ob p).1]; simp)
      · rw [u3 b hm] at hb
        rcases q5.old b hb with h | h
        · rw [m2, if_neg hm] at h; exact .inl h
        · exact .inr (by rw [← m1]; exact h)
    · rcases q5.it c m n left cur (hF1 hc) with ⟨n', l', c', h⟩ | h | h
      · rw [m2] at h
        split at h
        · cases h
        · exact .inl ⟨_, _, _, h⟩
      · rw [m2] at h
        split at h
        · exact absurd rfl h
        · exact .inr (.inl h)
      · exact .inr (.inr (by rw [← m1]; exact h))
    · by_cases hm : b ∈ rr.map Prod.fst
      · obtain ⟨ob, p⟩ := hrr b hm
        obtain ⟨p1, p2⟩ := m3 b ob p
        rw [hb] at p1; cases p1
        cases f <;> first | exact absurd rfl hf | simp [AO.msk] at p2
      · rw [u3 b hm]
        exact q5.fz b f c hf (by rw [m2, if_neg hm]; exact hb)
  refine ⟨μ', eD', F', q4.le (by rw [m1]; exact I.nx0), hRK, ⟨I.clo.step hi, fun j hj => ?_, fun j k hj hk => ?_, fun j hj => ?_, fun t ht => ?_, ?_, fun j op' hj hp => ?_, fun b hb => ?_, fun j k op1 op2 d1 d2 b h1 h2 h3 h4 h5 h6 h7 h8 h9 h10 => ?_, ?_, fun b ob hb => ?_, ?_, fun b hb => I.old b ((hpU b).1 hb), Nat.le_trans I.nx0 hFF, fun c m n left cur hc => ?_, fun j op' d' b h1 h2 h3 h4 h5 h6 c m n left cur hc => ?_, fun j op' d' b h1 h2 h3 h4 h5 h6 => ?_⟩, q7.2⟩
  · rw [bit_add]
    rcases hlist j hj with rfl | h
    · simp
    · rw [I.sub j h]; rfl
  · rw [bit_add, Bool.or_eq_true] at hj ⊢
    rcases hj with hj | hj
    · exact .inl (I.dcl j k hj hk)
    · have : i = j := by simpa using hj
      subst this
      exact .inl (hdcl k hk)
  · rw [bit_add, Bool.or_eq_true] at hj
    rcases hj with hj | hj
    · exact I.dlt j hj
    · have : i = j := by simpa using hj
      subst this; exact hil
  · have htd : op.dst ≠ some t := ht i op hop (by rw [bit_add]; simp)
    rw [hg t htd]
    exact I.unw t fun j op' h1 h2 => ht j op' h1 (by rw [bit_add, h2]; rfl)
  · -- the slots
    rw [hpD, q2, ← hdst]
    have hE := I.er.ext q4.1
    cases hd : op.dst with
    | none =>
      refine ⟨hE.1, fun t => ?_⟩
      have h0 := hE.2 t
      rw [resetL_g] at h0 ⊢
      rw [hg t (by rw [hd]; simp)]
      exact h0
    | some d =>
      have hput := hE.put (d := d) (v := v) (cv := cv) (hl.1 i o d ho (by rw [← hdst]; exact hd)) (q3 ⟨d, by rw [← hdst]; exact hd⟩)
      refine ⟨hput.1, fun t => ?_⟩
      have h0 := hput.2 t
      rw [Env.g_st, resetL_g] at h0
      rw [resetL_g]
      by_cases c : t = d
      · subst c
        rw [if_pos rfl] at h0
        rw [if_neg (fun hm => ?_), hgd t hd]
        · exact h0
        · obtain ⟨k, opk, p1, p2, p3⟩ := mem_pendD.1 hm
          exact hne k opk t p1 p3 (hPi k p2) hd
      · rw [if_neg c] at h0
        rw [hg t (by rw [hd]; simpa using fun h => c h.symm)]
        exact h0
  · -- what is pending
    rw [hP] at hp
    obtain ⟨d', p1, p2, p3⟩ := I.pend j op' hj hp
    have hji := hPi j hp
    have hDj : D.testBit j = true := by unfold isP at hp; simp only [Bool.and_eq_true] at hp; exact hp.1
    refine ⟨d', p1, p2, fun e' he' => ?_⟩
    rw [hg d' (hne j op' d' hj p2 hji)]
    have hsees : Sees ops l e0 j eD op'.uses e' := by
      intro t ht
      obtain ⟨s1, s2⟩ := he' t ht
      refine ⟨s1, fun hn => ?_⟩
      rw [s2 hn]
      exact hg t (hslN j op' hj hp t ht)
    have hold := p3 e' hsees
    have h6 := b4 (op', j) (by rw [List.mem_zipIdx_iff_getElem?]; exact hj)
    simp only [hDj, if_true, hmiss j op' hj hp, Bool.false_eq_true, if_false] at h6
    have hk3 : op'.kind = 0 ∨ op'.kind = 1 ∨ op'.kind = 2 := by omega
    rcases hk3 with hk | hk | hk
    · -- no memory
      cases op' with
      | g t b y =>
        simp only [NValG] at hold ⊢
        split
        · rename_i hw
          rw [if_pos hw] at hold
          cases y <;> first | exact hold | simp [Op.kind] at hk
        · rename_i hw
          rw [if_neg hw] at hold
          exact hold
      | p d o => exact hold
      | r d o => simp [Op.kind] at hk
      | n d o => simp [Op.kind] at hk
      | e d o => simp [Op.kind] at hk
    · -- a read
      rw [hk] at h6
      simp only [Bool.and_eq_true] at h6
      obtain ⟨c1, c2⟩ := h6
      have hst : ∀ k opk t, l[k]? = some opk → opk.dst = some t → t ∈ op'.uses → ((ancs ops.toList []).getD k 0).testBit j = false := by
        intro k opk t h1 h2 h3
        unfold steadyB at c2
        rw [List.all_eq_true] at c2
        have := c2 (opk, k) (by rw [List.mem_zipIdx_iff_getElem?]; exact h1)
        simp only [h2] at this
        rw [if_pos (by simpa using h3)] at this
        simp only [Bool.and_eq_true, Bool.not_eq_true'] at this
        exact this.2
      have hself : ∀ t, t ∈ op'.uses → ¬ ∃ k opk, l[k]? = some opk ∧ opk.dst = some t ∧ ((ancs ops.toList []).getD k 0).testBit j = true := by
        rintro t ht ⟨k, opk, h1, h2, h3⟩
        rw [hst k opk t h1 h2 ht] at h3; cases h3
      have hag : Agree op'.uses eD' e' := fun t ht => ((he' t ht).2 (hself t ht)).symm
      obtain ⟨op2, z1, z2⟩ := againAll_ok q7.1 j (by simpa using c1)
      rw [hj] at z1; cases z1
      have hd'' : eD'.g d' = eD.g d' := hg d' (hne j op' d' hj p2 hji)
      have := again_nval (H := F') p2 hk (e := eD') (fun ⟨t, b, y, hy, hw⟩ => ?_) z2
      · rw [hd''] at this
        exact this.congr hag
      · subst hy
        rw [hd'']
        have hsame := p3 eD (fun t ht => ⟨fun h => absurd h (hself t ht), fun _ => rfl⟩)
        simp only [NValG] at hsame
        have hw' : wanted eD t b = false := by
          unfold wanted at hw ⊢
          rw [← hg t (hslN j _ hj hp t (by simp [Op.uses]))]
          exact hw
        rw [hw'] at hsame
        simpa using hsame
    · -- an object
      have hnv : ∀ d o, NVal (.n d o) e' F (eD.g d') → (∀ b, blk (eD.g d') = some b → b ∈ rr.map Prod.fst) → NVal (.n d o) e' F' (eD.g d') := by
        intro d o h hb
        obtain ⟨ob, f, b, g1, g2, g3, g4⟩ := h
        have hblk := (NO.blk g1 b).1
        rw [← g2] at hblk
        obtain ⟨ob', z⟩ := hrr b (hb b hblk)
        have h7 := (m3 b ob' z).1
        rw [g3] at h7; cases h7
        exact ⟨ob, f, b, g1, g2, u2 b ob z, by omega⟩
      have hb : ∀ b, blk (eD.g d') = some b → b ∈ rr.map Prod.fst := fun b hb => hU b (mem_pendU.2 ⟨j, op', d', hj, hp, hk, p2, hb⟩)
      cases op' with
      | g t b y =>
        simp only [NValG] at hold ⊢
        split
        · rename_i hw
          rw [if_pos hw] at hold
          cases y <;> first | exact hnv _ _ hold hb | simp [Op.kind] at hk
        · rename_i hw
          rw [if_neg hw] at hold
          exact hold
      | n d o => exact hnv d o hold hb
      | p d o => simp [Op.kind] at hk
      | r d o => simp [Op.kind] at hk
      | e d o => simp [Op.kind] at hk
  · obtain ⟨p1, p2⟩ := I.free b ((hpU b).1 hb)
    exact ⟨q4.2 b (by rw [m1]; exact p2) p1, by omega⟩
  · rw [hP] at h3 h4
    rw [hg _ (hne j op1 d1 h1 h7 (hPi j h3))] at h9
    rw [hg _ (hne k op2 d2 h2 h8 (hPi k h4))] at h10
    exact I.dis j k op1 op2 d1 d2 b h1 h2 h3 h4 h5 h6 h7 h8 h9 h10
  · rw [hkill, u1]; exact R2
  · by_cases hm : b ∈ rr.map Prod.fst
    · obtain ⟨ob', p⟩ := hrr b hm
      have := I.low b ob' (m3 b ob' p).1
      omega
    · rw [u3 b hm] at hb
      rw [u1]
      exact q6.lt hb
  · rw [q2, put_defers]; exact I.df
  · -- what is gone through
    have hc' := hF1 hc
    obtain ⟨bi, _, _, mb, _, _, _, _, h3, _⟩ := q6.obj c _ hc'
    rw [u1]
    rcases Nat.lt_or_ge m H1.nx with h | h
    · exact h
    · rw [q6.new m h] at h3; cases h3
  · have hji : j ≠ i := fun c => by subst c; rw [hop] at h1; cases h1; omega
    have hDj : D.testBit j = true := by
      rw [bit_add, Bool.or_eq_true] at h2
      exact h2.resolve_right (by simpa using fun h => hji h.symm)
    rw [hg d' (hne j op' d' h1 h4 hji)] at h5
    have hfr : Fresh ops l D j := fun k opk z1 z2 z3 => h6 k opk z1 z2 (by rw [bit_add, z3]; rfl)
    have hij : ((ancs ops.toList []).getD i 0).testBit j = false := h6 i op hop b2 (by rw [bit_add]; simp)
    have h7 := b4 (op', j) (by rw [List.mem_zipIdx_iff_getElem?]; exact h1)
    simp only [hDj, if_true, hij, Bool.false_eq_true, if_false, h3, h4] at h7
    have hbr := m5 d' (by simpa using h7) b h5
    refine hitM c m n left cur (hF1 hc) (fun n left cur hF b hb => ?_) b hbr
    obtain ⟨k, y, t, z1, z2, z3, z4, z5, z6⟩ := hslot b hb
    exact I.noit k y t b z1 z2 z3 z4 z5 z6 c m n left cur hF
  · -- alone
    have hji : j ≠ i := fun c => by subst c; rw [hop] at h1; cases h1; omega
    have hls : listed.getD j false = true := (hlist j h2).resolve_left hji
    have hDj := I.sub j hls
    rw [hg d' (hne j op' d' h1 h4 hji)] at h5
    obtain ⟨bi, ob, p1, p2, p3⟩ := I.alone j op' d' b h1 hls h3 h4 h5 fun k opk z1 z2 z3 => h6 k opk z1 z2 (by rw [bit_add, z3]; rfl)
    have hij : ((ancs ops.toList []).getD i 0).testBit j = false := h6 i op hop b2 (by rw [bit_add]; simp)
    have h7 := b4 (op', j) (by rw [List.mem_zipIdx_iff_getElem?]; exact h1)
    simp only [hDj, if_true, hij, Bool.false_eq_true, if_false, h3, h4] at h7
    have hbr := m5 d' (by simpa using h7) b h5
    obtain ⟨ob', z⟩ := hrr b hbr
    have h8 := (m3 b ob' z).1
    rw [p2] at h8; cases h8
    have hbU : b ∉ pendU l listed D eD := fun h => by rw [(I.free b h).1] at p1; cases p1
    have hPr : PrM Pr μ (pendU l listed D eD) rr bi.cb := .inr ⟨b, ob, bi, z, hbU, p1, rfl⟩
    refine ⟨bi, ob, q4.1 _ _ p1, u2 b ob z, fun c oc bc hc hget hm => ?_⟩
    rw [hkill, killL_get] at hget
    split at hget
    · cases hget
    · rename_i hcU
      have older : (killL (pendU l listed D eD) F).get c = some oc → bc.cb ≠ bi.cb := by
        intro h
        obtain ⟨bc', g1, _⟩ := I.rel.obj c oc h
        have : bc = bc' := by have := q4.1 _ _ g1; rw [hm] at this; exact Option.some.inj this
        subst this
        exact p3 c oc bc hc h g1
      by_cases hcr : c ∈ rr.map Prod.fst
      · obtain ⟨oc', zc⟩ := hrr c hcr
        rw [u2 c oc' zc] at hget; cases hget
        exact older (by rw [killL_get, if_neg hcU]; exact (m3 c _ zc).1)
      · rw [u3 c hcr] at hget
        by_cases hw : oc.own = true
        · exact fun h => q6.away c oc bc hget hm hw (h ▸ hPr)
        · match oc, hw with
          | .c .r lc, _ =>
            have hM := q5.ro c lc hget
            rw [m2, if_neg hcr] at hM
            exact older (by rw [killL_get, if_neg hcU]; exact hM)
          | .c .w _, h => exact absurd rfl h
          | .c .z _, h => exact absurd rfl h
          | .mp _ _, h => exact absurd rfl h
          | .it _ _ _ _, h => exact absurd rfl h
end Go.AM
