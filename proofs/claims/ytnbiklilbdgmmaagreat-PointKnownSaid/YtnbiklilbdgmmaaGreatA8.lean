/- Weakest preconditions over the abstract machine's code. -/
import Derived.Test.YtnbiklilbdgmmaaGreatA7
import Derived.Attr
set_option linter.constructorNameAsVariable false
set_option linter.unusedVariables false
set_option linter.unusedSimpArgs false
namespace Go.AM
open Go
/-- Behind an answer that is there. -/
def bb {α : Type} (x : Option α) (f : α → Prop) : Prop := ∃ v, x = some v ∧ f v
@[congr] theorem bb_congr {α : Type} {x y : Option α} {f : α → Prop} (h : x = y) : bb x f = bb y f := by rw [h]
theorem bb_some {α : Type} {v : α} {f : α → Prop} : bb (some v) f = f v := by simp [bb]
theorem bb_none {α : Type} {f : α → Prop} : bb none f = False := by simp [bb]
/-- By a truth value. -/
def cnd (c : AV) (a b : Prop) : Prop := match c with
  | .b t => if t = true then a else b
  | _ => False
@[congr] theorem cnd_congr {c c' : AV} {a b : Prop} (h : c = c') : cnd c a b = cnd c' a b := by rw [h]
theorem cnd_true {a b : Prop} : cnd (.b true) a b = a := by simp [cnd]
theorem cnd_false {a b : Prop} : cnd (.b false) a b = b := by simp [cnd]
theorem cnd_b {t : Bool} {a b : Prop} : cnd (.b t) a b = if t = true then a else b := rfl
/-- A call: what it comes back with, and what it keeps. -/
def cll (P : Program) (f : Nat) (args : List AV) (H : Hp) (K : AV → Hp → Prop) : Prop := CT P f args H fun v H1 => RK H H1 → K v H1
@[congr] theorem cll_congr {P : Program} {f f' : Nat} {args args' : List AV} {H : Hp} {K : AV → Hp → Prop} (hf : f = f') (h : args = args') : cll P f args H K = cll P f' args' H K := by rw [h, hf]
theorem CT.rk {P : Program} {f : Nat} {args : List AV} {H : Hp} {K : AV → Hp → Prop} (h : CT P f args H fun v H1 => RK H H1 → K v H1) : CT P f args H K :=
  ⟨h.1, fun Pr w0 μ w cargs R hv => (h.2 Pr w0 μ w cargs R hv).mono fun en w' ⟨cv, v, H', μ', q1, q2, q3, q4, q5, q6⟩ => ⟨cv, v, H', μ', q1, q2 q5, q3, q4, q5, q6⟩⟩
theorem cll_of {P : Program} {f : Nat} {args : List AV} {H : Hp} {K K' : AV → Hp → Prop} (h : CT P f args H K) (hk : ∀ v H1, K v H1 → RK H H1 → K' v H1) : cll P f args H K' := h.mono hk
section
variable (P : Program)
def wop1 (o : AM.Op) (e : Env) (H : Hp) (K : Env → Hp → Prop) : Prop := match o with
  | .p d o => bb (o.run e) fun v => K (e.st d v) H
  | .r d o => bb (o.run e H) fun v => K (e.st d v) H
  | .n d o => bb (o.run e) fun q => K (e.st d (q.2 H.nx)) (H.new q.1)
  | .e d o => match o.callee e with
    | some (f, args) => cll P f args H fun v H1 => K (putO e d v) H1
    | none => bb (o.run e H) fun q => K (putO e d q.1) q.2
  | .g _ _ _ => False
/-- Behind a step through a map: whichever entry comes. -/
def wnx (x : AV) (H : Hp) (K : AV → Hp → Prop) : Prop := (∃ r, nxRun H x 0 = some r) ∧ ∀ k v H1, nxRun H x k = some (v, H1) → K v H1
def wop0 (o : AM.Op) (e : Env) (H : Hp) (K : Env → Hp → Prop) : Prop := match o with
  | .g t w o => if wanted e t w = true then wop1 P o e H K else K (putO e o.dst (.tp [])) H
  | o => wop1 P o e H K
def wopx (o : AM.Op) (e : Env) (H : Hp) (K : Env → Hp → Prop) : Prop := match o with
  | .e d (.nx x) => wnx (ev e x) H fun v H1 => K (putO e d v) H1
  | o => wop0 P o e H K
def wL : List AM.Op → Env → Hp → (Env → Hp → Prop) → Prop
  | [], e, H, K => K e H
  | o :: l, e, H, K => wopx P o e H fun e1 H1 => wL l e1 H1 K
def wD1 (ops : List AM.Op) (c : DC) (e : Env) (H : Hp) (K : Env → Hp → Prop) : Prop := match c with
  | .n i => bb (ops[i]?) fun o => wop0 P o e H K
  | .e i ms cs => bb (ops[i]?) fun o => bb (maskL e H ms) fun q => wop0 P o e q.1 fun e1 H1 => againAll ops e1 (unmask H1 q.2) cs = true ∧ K e1 (unmask H1 q.2)
def wD (ops : List AM.Op) : List DC → Env → Hp → (Env → Hp → Prop) → Prop
  | [], e, H, K => K e H
  | c :: s, e, H, K => wD1 P ops c e H fun e1 H1 => wD ops s e1 H1 K
def wDr (l : List AM.Op) (s : List DC) (e : Env) (H : Hp) (K : Env → Hp → Prop) : Prop := match s with
  | [] => wL P l e H K
  | c :: s => wD P l (c :: s) e H K
/-- Code c of the abstract machine, from e and H, ends as K says: whatever code it is of. -/
def V (c : AC) (e : Env) (H : Hp) (K : Ex → Env → Hp → Prop) : Prop := ∀ N code s s', cC P N code s = some (c, s') → S P N code e H K
@[congr] theorem V_congr {c : AC} {e : Env} {H : Hp} {K : Ex → Env → Hp → Prop} : V P c e H K = V P c e H K := rfl
def kSqW (b : Env → Hp → Prop) (K : Ex → Env → Hp → Prop) (x : Ex) (e : Env) (H : Hp) : Prop := match x with
  | .n => b e H
  | x => K x e H
def kBlW (id : Nat) (K : Ex → Env → Hp → Prop) (x : Ex) (e : Env) (H : Hp) : Prop := match x with
  | .x i => if i = id then K .n e H else K (.x i) e H
  | x => K x e H
/-- What stands behind a round of a loop. -/
def kLpW (I : Env → Hp → Prop) (K : Ex → Env → Hp → Prop) (x : Ex) (e : Env) (H : Hp) : Prop := match x with
  | .n => I e H
  | x => K x e H
def W : AC → Env → Hp → (Ex → Env → Hp → Prop) → Prop
  | .sk, e, H, K => K .n e H
  | .rg l, e, H, K => wL P l e H (K .n)
  | .dr l s, e, H, K => wDr P l s e H (K .n)
  | .sq a b, e, H, K => W a e H (kSqW (fun e1 H1 => W b e1 H1 K) K)
  | .cd c a b, e, H, K => cnd (ev e c) (W a e H K) (W b e H K)
  | .bl id a, e, H, K => W a e H (kBlW id K)
  | .lp a, e, H, K => V P (.lp a) e H K
  | .ex id, e, H, K => K (.x id) e H
  | .rt, e, H, K => K .r e H
end
/-! ### What is shown of it -/
section
variable {P : Program} {N : Nat} {e : Env} {H : Hp}
noncomputable section
open Classical in
def hat (K : Env → Hp → Prop) : Env → Hp → R := fun e H => if K e H then some (.np, Hp.empty) else none
open Classical in
def hcal (P : Program) : Cal := fun f args H K => if CT P f args H (fun v H1 => K v H1 = some (.np, Hp.empty)) then some (.np, Hp.empty) else none
end
abbrev r0 : AV × Hp := (.np, Hp.empty)
theorem hat_iff {K : Env → Hp → Prop} {e : Env} {H : Hp} : hat K e H = some r0 ↔ K e H := by
  unfold hat; split <;> simp [*]
theorem hcal_ok : CalOk P (hcal P) := by
  intro f args H K r h
  unfold hcal at h
  split at h
  · rename_i hc; cases h; exact hc
  · cases h
theorem hcal_of {f : Nat} {args : List AV} {H : Hp} {K : AV → Hp → R} (h : CT P f args H fun v H1 => RK H H1 → K v H1 = some r0) : hcal P f args H K = some r0 := by
  unfold hcal; rw [if_pos h.rk]
theorem w1_op {o : AM.Op} {K : Env → Hp → Prop} {K' : Env → Hp → R} (hk : ∀ e H, K e H → K' e H = some r0) (h : wop1 P o e H K) : op1 (hcal P) o e H K' = some r0 := by
  cases o with
  | p d o => obtain ⟨v, h1, h2⟩ := h; simp only [op1, opP, h1]; exact hk _ _ h2
  | r d o => obtain ⟨v, h1, h2⟩ := h; simp only [op1, opR, h1]; exact hk _ _ h2
  | n d o => obtain ⟨⟨ob, f⟩, h1, h2⟩ := h; simp only [op1, opN, h1]; exact hk _ _ h2
  | e d o =>
    simp only [wop1] at h
    simp only [op1, opE]
    split at h
    · rename_i f args hc
      rw [hc]
      exact hcal_of (h.mono fun v H1 q hr => hk _ _ (q hr))
    · rename_i hc
      rw [hc]
      obtain ⟨⟨v, H1⟩, h1, h2⟩ := h
      simp only [h1]
      exact hk _ _ h2
  | g t w o => exact h.elim
theorem w0_op {o : AM.Op} {K : Env → Hp → Prop} {K' : Env → Hp → R} (hk : ∀ e H, K e H → K' e H = some r0) (h : wop0 P o e H K) : op0 (hcal P) o e H K' = some r0 := by
  cases o with
  | g t w o =>
    simp only [wop0] at h
    simp only [op0]
    split at h
    · rename_i hw; rw [if_pos hw]; exact w1_op hk h
    · rename_i hw; rw [if_neg hw]; exact hk _ _ h
  | p d o => exact w1_op (P := P) (o := .p d o) hk h
  | r d o => exact w1_op (P := P) (o := .r d o) hk h
  | n d o => exact w1_op (P := P) (o := .n d o) hk h
  | e d o => exact w1_op (P := P) (o := .e d o) hk h
theorem wD_ops {l : List AM.Op} : ∀ {s : List DC} {e : Env} {H : Hp} {K : Env → Hp → Prop} {K' : Env → Hp → R}, (∀ e H, K e H → K' e H = some r0) → wD P l s e H K → opsD (hcal P) l s e H K' = some r0
  | [], e, H, K, K', hk, h => hk _ _ h
  | c :: s, e, H, K, K', hk, h => by
    simp only [wD] at h
    simp only [opsD]
    cases c with
    | n i =>
      obtain ⟨o, h1, h2⟩ := h
      simp only [opD, h1]
      exact w0_op (fun e1 H1 q => wD_ops hk q) h2
    | e i ms cs =>
      obtain ⟨o, h1, ⟨M, r⟩, h2, h3⟩ := h
      simp only [opD, h1, opM, h2]
      refine w0_op (fun e1 H1 q => ?_) h3
      simp only [q.1, if_true]
      exact wD_ops hk q.2
variable {Pr : Nat → Prop} {w0 w : World} {μ : Mu} {a : Act}
theorem wopx_ok {ops : Array Oper} {o : Oper} {op : AM.Op} (hc : IsOp P ops o op) (hN : ∀ x, o.dst = some x → x < N) (hNs : ∀ (j : Nat) (o' : Oper) (x : Nat), ops[j]? = some o' → o'.dst = some x → x < N)
    {K : Env → Hp → Prop} (h : wopx P op e H K) (hS : St Pr w0 μ N e H a w) (Q : Exit → Act → World → Prop) : WpG P ops o a w (Beh Pr w0 μ N H K) Q := by
  have plain : wop0 P op e H K → WpG P ops o a w (Beh Pr w0 μ N H K) Q := fun h => by
    refine (op0_ok hcal_ok hc hN hNs (w0_op (fun e1 H1 q => hat_iff.2 q) h) hS Q).mono fun a' w' ⟨e', H', μ', q1, q2⟩ => ⟨e', H', μ', hat_iff.1 q1, q2⟩
  match op, h with
  | .e d (.nx x), h =>
    obtain ⟨⟨r, hr⟩, hall⟩ := h
    rcases hc with hc | hc
    · unfold cOpG at hc
      split at hc
      · rename_i hg
        unfold WpG Region.wanted
        rw [hg]
        simp only [if_true]
        obtain ⟨h1, k, v, H1, h2, h3, nxt, w', μ', h4, h5, h6, h7⟩ := nx_ok (P := P) hS.rel hc hS.er hr
        exact value_ok (μ' := μ') (d := d) h1 (by rw [← h1]; exact hN) (hall k v H1 h2) hS Q h4 (h1 ▸ h5) h6 h3 h7
      · split at hc <;> cases hc
      · cases hc
    · exfalso
      unfold badOp at hc
      cases h2 : o.dst <;> rw [h2] at hc <;> cases hc
  | .p d o, h => exact plain h
  | .r d o, h => exact plain h
  | .n d o, h => exact plain h
  | .g t b o, h => exact plain h
  | .e d (.st _ _ _), h => exact plain h
  | .e d (.ap _ _ _ _ _), h => exact plain h
  | .e d (.az _ _ _ _ _), h => exact plain h
  | .e d (.cy _ _ _), h => exact plain h
  | .e d (.cl _ _), h => exact plain h
  | .e d (.mu _ _ _ _), h => exact plain h
  | .e d (.dl _ _ _), h => exact plain h
  | .e d (.mk _), h => exact plain h
  | .e d (.rg _), h => exact plain h
  | .e d .no, h => exact plain h
  | .e d (.ca _ _), h => exact plain h
  | .e d (.cv _ _), h => exact plain h
theorem wL_ok {ops : Array Oper} {l : List AM.Op} (hl : IsOps P N ops l) {K : Env → Hp → Prop} (Q : Exit → Act → World → Prop) (hQ : ∀ a' w', Beh Pr w0 μ N H K a' w' → Q .normal a' w') :
    ∀ (m k : Nat), k + m = ops.size → ∀ {e' : Env} {H' : Hp} {μ' : Mu} {a : Act} {w : World}, wL P (l.drop k) e' H' K → St Pr w0 μ' N e' H' a w → Eu H.nx μ μ' → RK H H' → wpOps P ops Q (List.range' k m) a w
  | 0, k, hk, e', H', μ', a, w, hr, hS, hx, hrk => by
    have : l.drop k = [] := List.drop_eq_nil_of_le (by rw [hl.2.1]; omega)
    rw [this] at hr
    exact hQ _ _ ⟨e', H', μ', hr, hS, hx, hrk⟩
  | m + 1, k, hk, e', H', μ', a, w, hr, hS, hx, hrk => by
    have hko : k < ops.size := by omega
    have hkl : k < l.length := by rw [hl.2.1]; exact hko
    obtain ⟨o, ho⟩ : ∃ o, ops[k]? = some o := ⟨_, Array.getElem?_eq_getElem hko⟩
    obtain ⟨op, hop⟩ : ∃ op, l[k]? = some op := ⟨_, List.getElem?_eq_getElem hkl⟩
    have hdrop : l.drop k = op :: l.drop (k + 1) := by
      rw [List.drop_eq_getElem_cons hkl]
      congr 1
      rw [List.getElem?_eq_getElem hkl] at hop
      exact Option.some.inj hop
    rw [hdrop] at hr
    simp only [wL] at hr
    have h0 := wopx_ok (hl.2.2 k o op ho hop) (fun x hx => hl.1 k o x ho hx) hl.1 hr hS Q
    have hcont : ∀ a' w', Beh Pr w0 μ' N H' (fun e1 H1 => wL P (l.drop (k + 1)) e1 H1 K) a' w' → wpOps P ops Q (List.range' (k + 1) m) a' w' := by
      intro a' w' ⟨e2, H2, μ2, q1, q2, q3, q4⟩
      exact wL_ok hl Q hQ m (k + 1) (by omega) q1 q2 (hx.trans q3 hrk.le) (hrk.trans q4)
    rw [List.range'_succ, wpOps_cons]
    simp only [wpOp, ho]
    unfold WpG at h0
    split
    · rename_i hw; rw [if_pos hw] at h0; exact .inl (Oper.wp_mono hcont h0)
    · rename_i hw; rw [if_neg hw] at h0; exact hcont _ _ h0
end
section
variable {P : Program} {e : Env} {H : Hp} {K K' : Ex → Env → Hp → Prop}
theorem V.mono {c : AC} (h : V P c e H K) (hk : ∀ x e' H', K x e' H' → K' x e' H') : V P c e H K' := fun N code s s' hc => (h N code s s' hc).mono hk
theorem bb_mono {α : Type} {x : Option α} {f g : α → Prop} (h : bb x f) (hk : ∀ v, f v → g v) : bb x g := by
  obtain ⟨v, h1, h2⟩ := h; exact ⟨v, h1, hk v h2⟩
section
variable {KL KL' : Env → Hp → Prop} (hk : ∀ e H, KL e H → KL' e H)
include hk
theorem wop1_mono {o : AM.Op} (h : wop1 P o e H KL) : wop1 P o e H KL' := by
  cases o with
  | p d o => exact bb_mono h fun v q => hk _ _ q
  | r d o => exact bb_mono h fun v q => hk _ _ q
  | n d o => exact bb_mono h fun v q => hk _ _ q
  | e d o =>
    simp only [wop1] at h ⊢
    split
    · rename_i f args hc
      rw [hc] at h
      exact h.mono fun v H1 q hr => hk _ _ (q hr)
    · rename_i hc
      rw [hc] at h
      exact bb_mono h fun v q => hk _ _ q
  | g t b o => exact h.elim
theorem wop0_mono {o : AM.Op} (h : wop0 P o e H KL) : wop0 P o e H KL' := by
  cases o with
  | g t b o =>
    simp only [wop0] at h ⊢
    split
    · rename_i hw; rw [if_pos hw] at h; exact wop1_mono hk h
    · rename_i hw; rw [if_neg hw] at h; exact hk _ _ h
  | p d o => exact wop1_mono (P := P) hk (o := .p d o) h
  | r d o => exact wop1_mono (P := P) hk (o := .r d o) h
  | n d o => exact wop1_mono (P := P) hk (o := .n d o) h
  | e d o => exact wop1_mono (P := P) hk (o := .e d o) h
theorem wopx_mono {o : AM.Op} (h : wopx P o e H KL) : wopx P o e H KL' := by
  unfold wopx at h ⊢
  split at h
  · exact ⟨h.1, fun k v H1 q => hk _ _ (h.2 k v H1 q)⟩
  · exact wop0_mono hk h
end
theorem wL_mono {KL KL' : Env → Hp → Prop} (hk : ∀ e H, KL e H → KL' e H) : ∀ {l : List AM.Op} {e : Env} {H : Hp}, wL P l e H KL → wL P l e H KL'
  | [], e, H, h => hk _ _ h
  | o :: l, e, H, h => by
    simp only [wL] at h ⊢
    exact wopx_mono (fun e1 H1 q => wL_mono hk q) h
theorem wD_mono {l : List AM.Op} {KL KL' : Env → Hp → Prop} (hk : ∀ e H, KL e H → KL' e H) : ∀ {s : List DC} {e : Env} {H : Hp}, wD P l s e H KL → wD P l s e H KL'
  | [], e, H, h => hk _ _ h
  | .n i :: s, e, H, h => by
    obtain ⟨o, h1, h2⟩ := h
    exact ⟨o, h1, wop0_mono (fun e1 H1 q => wD_mono hk q) h2⟩
  | .e i ms cs :: s, e, H, h => by
    obtain ⟨o, h1, q, h2, h3⟩ := h
    exact ⟨o, h1, q, h2, wop0_mono (fun e1 H1 q => ⟨q.1, wD_mono hk q.2⟩) h3⟩
theorem W_mono : ∀ {c : AC} {e : Env} {H : Hp} {K K' : Ex → Env → Hp → Prop}, W P c e H K → (∀ x e1 H1, K x e1 H1 → K' x e1 H1) → W P c e H K' := by
  intro c
  induction c with
  | sk => intro e H K K' h hk; exact hk _ _ _ h
  | rg l => intro e H K K' h hk; exact wL_mono (fun e1 H1 q => hk _ _ _ q) h
  | dr l s =>
    intro e H K K' h hk
    cases s with
    | nil => exact wL_mono (fun e1 H1 q => hk _ _ _ q) h
    | cons c s => exact wD_mono (fun e1 H1 q => hk _ _ _ q) h
  | sq a b iha ihb =>
    intro e H K K' h hk
    refine iha h fun x e1 H1 q => ?_
    cases x with
    | n => exact ihb q hk
    | x i => exact hk _ _ _ q
    | r => exact hk _ _ _ q
  | cd c a b iha ihb =>
    intro e H K K' h hk
    simp only [W, cnd] at h ⊢
    split
    · rename_i t ht
      rw [ht] at h
      split
      · rename_i hc; simp only [hc, if_true] at h; exact iha h hk
      · rename_i hc; simp only [hc] at h; exact ihb (by simpa using h) hk
    · rename_i hn
      split at h
      · rename_i t ht; exact absurd ht (hn t)
      · exact h
  | bl id a iha =>
    intro e H K K' h hk
    refine iha h fun x e1 H1 q => ?_
    cases x with
    | n => exact hk _ _ _ q
    | x i =>
      simp only [kBlW] at q ⊢
      split
      · rename_i hi; rw [if_pos hi] at q; exact hk _ _ _ q
      · rename_i hi; rw [if_neg hi] at q; exact hk _ _ _ q
    | r => exact hk _ _ _ q
  | lp a iha => intro e H K K' h hk; exact h.mono hk
  | ex id => intro e H K K' h hk; exact hk _ _ _ h
  | rt => intro e H K K' h hk; exact hk _ _ _ h
theorem noD_of {P : Program} (hm : P.follows .mixedOrders = true) : DrawOk P := drawOk_of hm run_e
theorem noLs {l : List AM.Op} (h : (l.all fun o => o.kind < 3) = true) {cal : Cal} {e : Env} {H : Hp} {K : Env → Hp → Prop} (hw : wL P l e H K) : opsL (hcal P) l e H (hat K) = some r0 := by
  induction l generalizing e H with
  | nil => exact hat_iff.2 hw
  | cons o l ih =>
    simp only [List.all_cons, Bool.and_eq_true] at h
    simp only [wL] at hw
    simp only [opsL]
    have : wop0 P o e H fun e1 H1 => wL P l e1 H1 K := by
      match o, h.1, hw with
      | .p d o, _, hw => exact hw
      | .r d o, _, hw => exact hw
      | .n d o, _, hw => exact hw
      | .g t b o, _, hw => exact hw
      | .e d o, hk, _ => simp [Op.kind] at hk
    exact w0_op (fun e1 H1 q => ih h.2 q) this
theorem W_ok (hm : P.follows .mixedOrders = true) : ∀ {c : AC} {e : Env} {H : Hp} {K : Ex → Env → Hp → Prop}, W P c e H K → V P c e H K := by
  intro c
  induction c with
  | sk =>
    intro e H K h N code s s' hc
    cases code with
    | skip => cases hc; exact S.skip h
    | region id ops draw => cases draw <;> simp only [cC] at hc <;> repeat' (first | (cases hc; done) | split at hc)
    | _ => simp only [cC] at hc <;> repeat' (first | (cases hc; done) | split at hc)
  | rt =>
    intro e H K h N code s s' hc
    cases code with
    | ret => cases hc; exact S.ret h
    | region id ops draw => cases draw <;> simp only [cC] at hc <;> repeat' (first | (cases hc; done) | split at hc)
    | _ => simp only [cC] at hc <;> repeat' (first | (cases hc; done) | split at hc)
  | ex id =>
    intro e H K h N code s s' hc
    cases code with
    | exit id0 => cases hc; exact S.exit h
    | region id ops draw => cases draw <;> simp only [cC] at hc <;> repeat' (first | (cases hc; done) | split at hc)
    | _ => simp only [cC] at hc <;> repeat' (first | (cases hc; done) | split at hc)
  | rg l =>
    intro e H K h N code s s' hc
    cases code with
    | region id ops draw =>
      cases draw with
      | false =>
        simp only [cC] at hc
        split at hc
        · rename_i hd
          cases hc
          intro Pr w0 μ w a hS
          refine wp_region ?_
          rw [List.range_eq_range']
          exact wL_ok (isOps_of hd) _ (fun a' w' ⟨e', H', μ', q1, q2, q3, q4⟩ => ⟨.n, e', H', μ', trivial, q1, q2, q3, q4⟩) ops.size 0 (by omega) (by simpa only [List.drop_zero] using (show wL P _ e H (K .n) from h)) hS (Eu.refl _ _) (RK.refl _)
        · cases hc
      | true =>
        simp only [cC] at hc
        repeat' (first | (cases hc; done) | split at hc)
    | _ => simp only [cC] at hc <;> repeat' (first | (cases hc; done) | split at hc)
  | dr l sc =>
    intro e H K h N code s s' hc
    cases code with
    | region id ops draw =>
      cases draw with
      | false =>
        simp only [cC] at hc
        repeat' (first | (cases hc; done) | split at hc)
      | true =>
        simp only [cC] at hc
        split at hc
        · split at hc
          · rename_i hd
            cases hc
            simp only [Bool.and_eq_true] at hd
            refine (noD_of hm N (hcal P) hcal_ok id ops _ _ (isOps_of hd.1) hd.2 e H (fun x => hat (K x)) r0 ?_).mono fun x e' H' q => hat_iff.1 q
            cases sc with
            | nil =>
              have hk : ((opsOf P ops).all fun o => o.kind < 3) = true := by
                have := hd.2
                unfold drawB at this
                simp only [Bool.and_eq_true] at this
                exact this.2
              exact noLs (cal := hcal P) hk h
            | cons c sc => exact wD_ops (fun e1 H1 q => hat_iff.2 q) h
          · cases hc
        · cases hc
    | _ => simp only [cC] at hc <;> repeat' (first | (cases hc; done) | split at hc)
  | sq a b iha ihb =>
    intro e H K h N code s s' hc
    cases code with
    | seq x y =>
      simp only [cC] at hc
      split at hc
      · rename_i a' s1 ha
        split at hc
        · rename_i b' s2 hb
          cases hc
          refine S.seq ((iha h N x s s1 ha).mono fun z e' H' hk => ?_)
          cases z with
          | n => exact ihb hk N y s1 _ hb
          | x id => exact hk
          | r => exact hk
        · cases hc
      · cases hc
    | region id ops draw => cases draw <;> simp only [cC] at hc <;> repeat' (first | (cases hc; done) | split at hc)
    | _ => simp only [cC] at hc <;> repeat' (first | (cases hc; done) | split at hc)
  | cd c a b iha ihb =>
    intro e H K h N code s s' hc
    cases code with
    | cond c0 x y =>
      simp only [cC] at hc
      split at hc
      · rename_i c' hcc
        split at hc
        · rename_i a' s1 ha
          split at hc
          · rename_i b' s2 hb
            cases hc
            simp only [W, cnd] at h
            split at h
            · rename_i t ht
              refine S.cond hcc ht ?_
              cases t with
              | true => exact iha (by simpa using h) N x s s1 ha
              | false => exact ihb (by simpa using h) N y s1 _ hb
            · exact h.elim
          · cases hc
        · cases hc
      · cases hc
    | region id ops draw => cases draw <;> simp only [cC] at hc <;> repeat' (first | (cases hc; done) | split at hc)
    | _ => simp only [cC] at hc <;> repeat' (first | (cases hc; done) | split at hc)
  | bl id a iha =>
    intro e H K h N code s s' hc
    cases code with
    | block id0 x =>
      simp only [cC] at hc
      split at hc
      · rename_i a' s1 ha
        cases hc
        refine S.block ((iha h N x s _ ha).mono fun z e' H' hk => ?_)
        cases z with
        | n => exact hk
        | x i => exact hk
        | r => exact hk
      · cases hc
    | region id ops draw => cases draw <;> simp only [cC] at hc <;> repeat' (first | (cases hc; done) | split at hc)
    | _ => simp only [cC] at hc <;> repeat' (first | (cases hc; done) | split at hc)
  | lp a iha => intro e H K h; exact h
/-- A loop: a number that falls from round to round. -/
theorem V.loop (hm : P.follows .mixedOrders = true) {a : AC} (I : Nat → Env → Hp → Prop) (n0 : Nat) (h0 : I n0 e H) (hr : ∀ n e H, I n e H → W P a e H (kLpW (fun e' H' => ∃ m, m < n ∧ I m e' H') K)) : V P (.lp a) e H K := by
  intro N code s s' hc
  cases code with
  | loop x =>
    simp only [cC] at hc
    split at hc
    · rename_i a' s1 ha
      cases hc
      refine S.loop I (n0 := n0) h0 fun n e1 H1 hI => ((W_ok hm (hr n e1 H1 hI)) N x s _ ha).mono fun z e' H' hk => ?_
      cases z with
      | n => exact hk
      | x id => exact hk
      | r => exact hk
    · cases hc
  | region id ops draw => cases draw <;> simp only [cC] at hc <;> repeat' (first | (cases hc; done) | split at hc)
  | _ => simp only [cC] at hc <;> repeat' (first | (cases hc; done) | split at hc)
def kRet (rs : List RV) (K : AV → Hp → Prop) (x : Ex) (e : Env) (H : Hp) : Prop := match x with
  | .x _ => False
  | _ => bb (results rs e H) fun v => K v H
/-- A function's contract, from its code. -/
theorem CT.of_W (hm : P.follows .mixedOrders = true) {f : Nat} {s : List (List DC)} {fn : AFn} (hf : cF P f s = some fn) {args : List AV} (hlen : args.length ≤ fn.n) {K : AV → Hp → Prop} (h : W P fn.c (envOf 0 args) H (kRet fn.rs K)) : CT P f args H K := by
  unfold cF at hf
  split at hf
  · rename_i fn' hfn
    split at hf
    · rename_i c hb
      split at hf
      · rename_i rs ac s' h1 h2
        split at hf
        · cases hf
        · rename_i hname
          cases hf
          refine CT.of_body hfn hb (by simpa using hname) h1 hlen ((W_ok hm h _ c s s' h2).mono fun x e' H' hk => ?_)
          cases x with
          | x id => exact hk.elim
          | n => obtain ⟨v, q1, q2⟩ := hk; exact ⟨.inl rfl, v, q1, q2⟩
          | r => obtain ⟨v, q1, q2⟩ := hk; exact ⟨.inr rfl, v, q1, q2⟩
      · cases hf
    · cases hf
  · cases hf
end
end Go.AM
/- The walk's words: how the abstract machine's code is reckoned through. What stands behind is data, so that nothing is reckoned ahead of its turn. -/
set_option linter.unusedVariables false
set_option linter.unusedSimpArgs false
namespace Go.AM
open Go
/-- What stands behind a piece of code. -/
inductive Kt where
  | top (K : Ex → Env → Hp → Prop)
  | ret (rs : List RV) (K : AV → Hp → Prop)
  | sq (b : AC) (k : Kt)
  | bl (id : Nat) (k : Kt)
  | lp (I : Env → Hp → Prop) (k : Kt)
section
variable (P : Program)
def Kt.den : Kt → Ex → Env → Hp → Prop
  | .top K => K
  | .ret rs K => kRet rs K
  | .sq b k => kSqW (fun e1 H1 => W P b e1 H1 (den k)) (den k)
  | .bl id k => kBlW id (den k)
  | .lp I k => kLpW I (den k)
def ka (k : Kt) (x : Ex) (e : Env) (H : Hp) : Prop := k.den P x e H
def w (c : AC) (e : Env) (H : Hp) (k : Kt) : Prop := W P c e H (k.den P)
def wl (l : List AM.Op) (e : Env) (H : Hp) (k : Kt) : Prop := wL P l e H (k.den P .n)
/-- Behind an answer. -/
def wS (r : Option AV) (d : Nat) (l : List AM.Op) (e : Env) (H : Hp) (k : Kt) : Prop := bb r fun v => wl P l (e.st d v) H k
def wSn (r : Option (AO × (Nat → AV))) (d : Nat) (l : List AM.Op) (e : Env) (H : Hp) (k : Kt) : Prop := bb r fun q => wl P l (e.st d (q.2 H.nx)) (H.new q.1) k
def wSe (r : Option (AV × Hp)) (d : Option Nat) (l : List AM.Op) (e : Env) (k : Kt) : Prop := bb r fun q => wl P l (putO e d q.1) q.2 k
def wCa (f : Nat) (args : List AV) (H : Hp) (d : Option Nat) (l : List AM.Op) (e : Env) (k : Kt) : Prop := cll P f args H fun v H1 => wl P l (putO e d v) H1 k
def fnOf : AV → Option (Nat × List AV × List AV)
  | .fn f x y => some (f, x, y)
  | _ => none
def wCv (f : AV) (args : List AV) (H : Hp) (d : Option Nat) (l : List AM.Op) (e : Env) (k : Kt) : Prop := bb (fnOf f) fun q => wCa P q.1 (q.2.1 ++ args ++ q.2.2) H d l e k
def wNx (x : AV) (H : Hp) (d : Option Nat) (l : List AM.Op) (e : Env) (k : Kt) : Prop := wnx x H fun v H1 => wl P l (putO e d v) H1 k
def wG (c : AV) (b : Bool) (o : AM.Op) (l : List AM.Op) (e : Env) (H : Hp) (k : Kt) : Prop := match c with
  | .b x => if x = b then wl P (o :: l) e H k else wl P l (putO e o.dst (.tp [])) H k
  | _ => wl P l (putO e o.dst (.tp [])) H k
def wCd (c : AV) (a b : AC) (e : Env) (H : Hp) (k : Kt) : Prop := cnd c (w P a e H k) (w P b e H k)
def wR (r : Option AV) (H : Hp) (K : AV → Hp → Prop) : Prop := bb r fun v => K v H
def wV (a : AC) (e : Env) (H : Hp) (k : Kt) : Prop := V P (.lp a) e H (k.den P)
/-- In an open region. -/
def wd (ops : List AM.Op) (s : List DC) (e : Env) (H : Hp) (k : Kt) : Prop := wD P ops s e H (k.den P .n)
end
section
variable {P : Program} {e : Env} {H : Hp} {k : Kt} {l : List AM.Op} {d : Nat} {dd : Option Nat}
@[go_sem] theorem w_sk : w P .sk e H k = ka P k .n e H := rfl
@[go_sem] theorem w_rg : w P (.rg l) e H k = wl P l e H k := rfl
@[go_sem] theorem w_dr0 : w P (.dr l []) e H k = wl P l e H k := rfl
@[go_sem] theorem w_dr {c : DC} {s : List DC} : w P (.dr l (c :: s)) e H k = wd P l (c :: s) e H k := rfl
@[go_sem] theorem w_sq {a b : AC} : w P (.sq a b) e H k = w P a e H (.sq b k) := rfl
@[go_sem] theorem w_cd {c : O} {a b : AC} : w P (.cd c a b) e H k = wCd P (ev e c) a b e H k := rfl
@[go_sem] theorem wCd_t {a b : AC} : wCd P (.b true) a b e H k = w P a e H k := by simp [wCd, cnd]
@[go_sem] theorem wCd_f {a b : AC} : wCd P (.b false) a b e H k = w P b e H k := by simp [wCd, cnd]
@[go_sem] theorem w_bl {id : Nat} {a : AC} : w P (.bl id a) e H k = w P a e H (.bl id k) := rfl
@[go_sem] theorem w_lp {a : AC} : w P (.lp a) e H k = wV P a e H k := rfl
@[go_sem] theorem w_ex {id : Nat} : w P (.ex id) e H k = ka P k (.x id) e H := rfl
@[go_sem] theorem w_rt : w P .rt e H k = ka P k .r e H := rfl
@[go_sem] theorem ka_sqn {b : AC} : ka P (.sq b k) .n e H = w P b e H k := rfl
@[go_sem] theorem ka_sqx {b : AC} {i : Nat} : ka P (.sq b k) (.x i) e H = ka P k (.x i) e H := rfl
@[go_sem] theorem ka_sqr {b : AC} : ka P (.sq b k) .r e H = ka P k .r e H := rfl
@[go_sem] theorem ka_bln {id : Nat} : ka P (.bl id k) .n e H = ka P k .n e H := rfl
@[go_sem] theorem ka_blx {id i : Nat} : ka P (.bl id k) (.x i) e H = if i = id then ka P k .n e H else ka P k (.x i) e H := rfl
@[go_sem] theorem ka_blr {id : Nat} : ka P (.bl id k) .r e H = ka P k .r e H := rfl
@[go_sem] theorem ka_lpn {I : Env → Hp → Prop} : ka P (.lp I k) .n e H = I e H := rfl
@[go_sem] theorem ka_lpx {I : Env → Hp → Prop} {i : Nat} : ka P (.lp I k) (.x i) e H = ka P k (.x i) e H := rfl
@[go_sem] theorem ka_lpr {I : Env → Hp → Prop} : ka P (.lp I k) .r e H = ka P k .r e H := rfl
@[go_sem] theorem ka_rn {rs : List RV} {K : AV → Hp → Prop} : ka P (.ret rs K) .n e H = wR (results rs e H) H K := rfl
@[go_sem] theorem ka_rr {rs : List RV} {K : AV → Hp → Prop} : ka P (.ret rs K) .r e H = wR (results rs e H) H K := rfl
@[go_sem] theorem ka_top {K : Ex → Env → Hp → Prop} {x : Ex} : ka P (.top K) x e H = K x e H := rfl
@[go_sem] theorem wR_some {v : AV} {K : AV → Hp → Prop} : wR (some v) H K = K v H := by simp [wR, bb]
/-! ### Operations in a row -/
@[go_sem] theorem wl_nil : wl P [] e H k = ka P k .n e H := rfl
@[go_sem] theorem wl_p {o : PO} : wl P (.p d o :: l) e H k = wS P (o.run e) d l e H k := rfl
@[go_sem] theorem wl_r {o : RO} : wl P (.r d o :: l) e H k = wS P (o.run e H) d l e H k := rfl
@[go_sem] theorem wl_n {o : NO} : wl P (.n d o :: l) e H k = wSn P (o.run e) d l e H k := rfl
@[go_sem] theorem wS_some {v : AV} : wS P (some v) d l e H k = wl P l (e.st d v) H k := by simp [wS, bb]
@[go_sem] theorem wSn_some {q : AO × (Nat → AV)} : wSn P (some q) d l e H k = wl P l (e.st d (q.2 H.nx)) (H.new q.1) k := by simp [wSn, bb]
@[go_sem] theorem wSe_some {q : AV × Hp} : wSe P (some q) dd l e k = wl P l (putO e dd q.1) q.2 k := by simp [wSe, bb]
@[go_sem] theorem wl_ca {f : Nat} {x : List O} : wl P (.e dd (.ca f x) :: l) e H k = wCa P f (x.map (ev e)) H dd l e k := rfl
@[go_sem] theorem wl_cv {f : O} {x : List O} : wl P (.e dd (.cv f x) :: l) e H k = wCv P (ev e f) (x.map (ev e)) H dd l e k := by
  show wop1 P (.e dd (.cv f x)) e H (fun e1 H1 => wL P l e1 H1 (k.den P .n)) = _
  simp only [wop1, EO.callee]
  cases ev e f <;> simp [wCv, fnOf, bb, EO.run]
  rfl
@[go_sem] theorem wCv_fn {f : Nat} {x y args : List AV} : wCv P (.fn f x y) args H dd l e k = wCa P f (x ++ args ++ y) H dd l e k := by simp [wCv, fnOf, bb]
@[go_sem] theorem wl_st {x v : O} {n : Nat} : wl P (.e dd (.st x v n) :: l) e H k = wSe P (EO.run e H (.st x v n)) dd l e k := rfl
@[go_sem] theorem wl_ap {z b : Nat} {c : List AV} {x y : O} : wl P (.e dd (.ap z c b x y) :: l) e H k = wSe P (EO.run e H (.ap z c b x y)) dd l e k := rfl
@[go_sem] theorem wl_az {z b : Nat} {c : List AV} {x y : O} : wl P (.e dd (.az z c b x y) :: l) e H k = wSe P (EO.run e H (.az z c b x y)) dd l e k := rfl
@[go_sem] theorem wl_cy {z : Nat} {x y : O} : wl P (.e dd (.cy z x y) :: l) e H k = wSe P (EO.run e H (.cy z x y)) dd l e k := rfl
@[go_sem] theorem wl_cl {c : List AV} {x : O} : wl P (.e dd (.cl c x) :: l) e H k = wSe P (EO.run e H (.cl c x)) dd l e k := rfl
@[go_sem] theorem wl_mu {t : ET} {m q v : O} : wl P (.e dd (.mu t m q v) :: l) e H k = wSe P (EO.run e H (.mu t m q v)) dd l e k := rfl
@[go_sem] theorem wl_dl {t : ET} {m q : O} : wl P (.e dd (.dl t m q) :: l) e H k = wSe P (EO.run e H (.dl t m q)) dd l e k := rfl
@[go_sem] theorem wl_mk {x : O} : wl P (.e dd (.mk x) :: l) e H k = wSe P (EO.run e H (.mk x)) dd l e k := rfl
@[go_sem] theorem wl_rg {x : O} : wl P (.e dd (.rg x) :: l) e H k = wSe P (EO.run e H (.rg x)) dd l e k := rfl
@[go_sem] theorem wl_nx {x : O} : wl P (.e dd (.nx x) :: l) e H k = wNx P (ev e x) H dd l e k := rfl
@[go_sem] theorem wG_tt {o : AM.Op} : wG P (.b true) true o l e H k = wl P (o :: l) e H k := by simp [wG]
@[go_sem] theorem wG_ft {o : AM.Op} : wG P (.b false) true o l e H k = wl P l (putO e o.dst (.tp [])) H k := by simp [wG]
@[go_sem] theorem wG_tf {o : AM.Op} : wG P (.b true) false o l e H k = wl P l (putO e o.dst (.tp [])) H k := by simp [wG]
@[go_sem] theorem wG_ff {o : AM.Op} : wG P (.b false) false o l e H k = wl P (o :: l) e H k := by simp [wG]
theorem wl_g {t : Nat} {b : Bool} {o : AM.Op} (ho : ∀ t' w' o', o ≠ .g t' w' o') (hn : ∀ d x, o ≠ .e d (.nx x)) : wl P (.g t b o :: l) e H k = wG P (e.g t) b o l e H k := by
  show (if wanted e t b = true then wop1 P o e H _ else _) = _
  have h : wop1 P o e H (fun e1 H1 => wL P l e1 H1 (k.den P .n)) = wl P (o :: l) e H k := by
    match o, ho, hn with
    | .p _ _, _, _ => rfl
    | .r _ _, _, _ => rfl
    | .n _ _, _, _ => rfl
    | .g _ _ _, ho, _ => exact absurd rfl (ho _ _ _)
    | .e _ (.nx _), _, hn => exact absurd rfl (hn _ _)
    | .e _ (.ca _ _), _, _ => rfl
    | .e _ (.cv _ _), _, _ => rfl
    | .e _ (.st _ _ _), _, _ => rfl
    | .e _ (.ap _ _ _ _ _), _, _ => rfl
    | .e _ (.az _ _ _ _ _), _, _ => rfl
    | .e _ (.cy _ _ _), _, _ => rfl
    | .e _ (.cl _ _), _, _ => rfl
    | .e _ (.mu _ _ _ _), _, _ => rfl
    | .e _ (.dl _ _ _), _, _ => rfl
    | .e _ (.mk _), _, _ => rfl
    | .e _ (.rg _), _, _ => rfl
    | .e _ .no, _, _ => rfl
  rw [h]
  unfold wanted wG
  cases e.g t <;> simp <;> rfl
section
variable {t : Nat} {b : Bool}
@[go_sem] theorem wl_gp {o : PO} : wl P (.g t b (.p d o) :: l) e H k = wG P (e.g t) b (.p d o) l e H k := wl_g nofun nofun
@[go_sem] theorem wl_gr {o : RO} : wl P (.g t b (.r d o) :: l) e H k = wG P (e.g t) b (.r d o) l e H k := wl_g nofun nofun
@[go_sem] theorem wl_gn {o : NO} : wl P (.g t b (.n d o) :: l) e H k = wG P (e.g t) b (.n d o) l e H k := wl_g nofun nofun
@[go_sem] theorem wl_gca {f : Nat} {x : List O} : wl P (.g t b (.e dd (.ca f x)) :: l) e H k = wG P (e.g t) b (.e dd (.ca f x)) l e H k := wl_g nofun nofun
@[go_sem] theorem wl_gcv {f : O} {x : List O} : wl P (.g t b (.e dd (.cv f x)) :: l) e H k = wG P (e.g t) b (.e dd (.cv f x)) l e H k := wl_g nofun nofun
@[go_sem] theorem wl_gmk {x : O} : wl P (.g t b (.e dd (.mk x)) :: l) e H k = wG P (e.g t) b (.e dd (.mk x)) l e H k := wl_g nofun nofun
end
attribute [go_sem] Op.dst
/-! ### Open regions -/
section
variable (P)
def wdi (o : Option AM.Op) (ops : List AM.Op) (s : List DC) (e : Env) (H : Hp) (k : Kt) : Prop := bb o fun o => wop0 P o e H fun e1 H1 => wd P ops s e1 H1 k
def wdS (r : Option AV) (d : Nat) (ops : List AM.Op) (s : List DC) (e : Env) (H : Hp) (k : Kt) : Prop := bb r fun v => wd P ops s (e.st d v) H k
def wdSn (r : Option (AO × (Nat → AV))) (d : Nat) (ops : List AM.Op) (s : List DC) (e : Env) (H : Hp) (k : Kt) : Prop := bb r fun q => wd P ops s (e.st d (q.2 H.nx)) (H.new q.1) k
def wdSe (r : Option (AV × Hp)) (d : Option Nat) (ops : List AM.Op) (s : List DC) (e : Env) (k : Kt) : Prop := bb r fun q => wd P ops s (putO e d q.1) q.2 k
def wdCa (f : Nat) (args : List AV) (H : Hp) (d : Option Nat) (ops : List AM.Op) (s : List DC) (e : Env) (k : Kt) : Prop := cll P f args H fun v H1 => wd P ops s (putO e d v) H1 k
def wdCv (f : AV) (args : List AV) (H : Hp) (d : Option Nat) (ops : List AM.Op) (s : List DC) (e : Env) (k : Kt) : Prop := bb (fnOf f) fun q => wdCa P q.1 (q.2.1 ++ args ++ q.2.2) H d ops s e k
def wdG (c : AV) (b : Bool) (o : AM.Op) (ops : List AM.Op) (s : List DC) (e : Env) (H : Hp) (k : Kt) : Prop := match c with
  | .b x => if x = b then wdi P (some o) ops s e H k else wd P ops s (putO e o.dst (.tp [])) H k
  | _ => wd P ops s (putO e o.dst (.tp [])) H k
/-- With objects out of sight. -/
def wdm (o : Option AM.Op) (q : Option (Hp × List (Nat × AO))) (cs : List Nat) (ops : List AM.Op) (s : List DC) (e : Env) (k : Kt) : Prop := bb o fun o => bb q fun q => wop0 P o e q.1 fun e1 H1 => againAll ops e1 (unmask H1 q.2) cs = true ∧ wd P ops s e1 (unmask H1 q.2) k
end
section
variable {ops : List AM.Op} {s : List DC} {i : Nat}
@[go_sem] theorem wd_nil : wd P ops [] e H k = ka P k .n e H := rfl
@[go_sem] theorem wd_n : wd P ops (.n i :: s) e H k = wdi P (ops[i]?) ops s e H k := rfl
theorem wop0_and {o : AM.Op} {KL : Env → Hp → Prop} : (wop0 P o e H fun e1 H1 => True ∧ KL e1 H1) = wop0 P o e H KL := by simp
@[go_sem] theorem wd_e0 : wd P ops (.e i [] [] :: s) e H k = wdi P (ops[i]?) ops s e H k := by
  show (bb (ops[i]?) fun o => bb (some (H, [])) fun q => wop0 P o e q.1 fun e1 H1 => againAll ops e1 (unmask H1 q.2) [] = true ∧ wD P ops s e1 (unmask H1 q.2) (k.den P .n)) = _
  simp only [bb_some, againAll, unmask, true_and, wdi]; rfl
@[go_sem] theorem wd_e {m : Nat} {ms cs : List Nat} : wd P ops (.e i (m :: ms) cs :: s) e H k = wdm P (ops[i]?) (maskL e H (m :: ms)) cs ops s e k := rfl
@[go_sem] theorem wd_ec {c : Nat} {cs : List Nat} : wd P ops (.e i [] (c :: cs) :: s) e H k = wdm P (ops[i]?) (some (H, [])) (c :: cs) ops s e k := rfl
@[go_sem] theorem wdi_p {o : PO} : wdi P (some (.p d o)) ops s e H k = wdS P (o.run e) d ops s e H k := by simp only [wdi, bb_some]; rfl
@[go_sem] theorem wdi_r {o : RO} : wdi P (some (.r d o)) ops s e H k = wdS P (o.run e H) d ops s e H k := by simp only [wdi, bb_some]; rfl
@[go_sem] theorem wdi_nn {o : NO} : wdi P (some (.n d o)) ops s e H k = wdSn P (o.run e) d ops s e H k := by simp only [wdi, bb_some]; rfl
@[go_sem] theorem wdS_some {v : AV} : wdS P (some v) d ops s e H k = wd P ops s (e.st d v) H k := by simp [wdS, bb]
@[go_sem] theorem wdSn_some {q : AO × (Nat → AV)} : wdSn P (some q) d ops s e H k = wd P ops s (e.st d (q.2 H.nx)) (H.new q.1) k := by simp [wdSn, bb]
@[go_sem] theorem wdSe_some {q : AV × Hp} : wdSe P (some q) dd ops s e k = wd P ops s (putO e dd q.1) q.2 k := by simp [wdSe, bb]
@[go_sem] theorem wdi_ca {f : Nat} {x : List O} : wdi P (some (.e dd (.ca f x))) ops s e H k = wdCa P f (x.map (ev e)) H dd ops s e k := by simp only [wdi, bb_some]; rfl
@[go_sem] theorem wdi_cv {f : O} {x : List O} : wdi P (some (.e dd (.cv f x))) ops s e H k = wdCv P (ev e f) (x.map (ev e)) H dd ops s e k := by
  simp only [wdi, bb_some]
  show wop1 P (.e dd (.cv f x)) e H (fun e1 H1 => wd P ops s e1 H1 k) = _
  simp only [wop1, EO.callee]
  cases ev e f <;> simp [wdCv, fnOf, bb, EO.run]
  rfl
@[go_sem] theorem wdCv_fn {f : Nat} {x y args : List AV} : wdCv P (.fn f x y) args H dd ops s e k = wdCa P f (x ++ args ++ y) H dd ops s e k := by simp [wdCv, fnOf, bb]
@[go_sem] theorem wdi_st {x v : O} {n : Nat} : wdi P (some (.e dd (.st x v n))) ops s e H k = wdSe P (EO.run e H (.st x v n)) dd ops s e k := by simp only [wdi, bb_some]; rfl
@[go_sem] theorem wdi_ap {z b : Nat} {c : List AV} {x y : O} : wdi P (some (.e dd (.ap z c b x y))) ops s e H k = wdSe P (EO.run e H (.ap z c b x y)) dd ops s e k := by simp only [wdi, bb_some]; rfl
@[go_sem] theorem wdi_cy {z : Nat} {x y : O} : wdi P (some (.e dd (.cy z x y))) ops s e H k = wdSe P (EO.run e H (.cy z x y)) dd ops s e k := by simp only [wdi, bb_some]; rfl
@[go_sem] theorem wdi_mu {t : ET} {m q v : O} : wdi P (some (.e dd (.mu t m q v))) ops s e H k = wdSe P (EO.run e H (.mu t m q v)) dd ops s e k := by simp only [wdi, bb_some]; rfl
@[go_sem] theorem wdi_mk {x : O} : wdi P (some (.e dd (.mk x))) ops s e H k = wdSe P (EO.run e H (.mk x)) dd ops s e k := by simp only [wdi, bb_some]; rfl
@[go_sem] theorem wdG_tt {o : AM.Op} : wdG P (.b true) true o ops s e H k = wdi P (some o) ops s e H k := by simp [wdG]
@[go_sem] theorem wdG_ft {o : AM.Op} : wdG P (.b false) true o ops s e H k = wd P ops s (putO e o.dst (.tp [])) H k := by simp [wdG]
@[go_sem] theorem wdG_tf {o : AM.Op} : wdG P (.b true) false o ops s e H k = wd P ops s (putO e o.dst (.tp [])) H k := by simp [wdG]
@[go_sem] theorem wdG_ff {o : AM.Op} : wdG P (.b false) false o ops s e H k = wdi P (some o) ops s e H k := by simp [wdG]
@[go_sem] theorem wdi_g {t : Nat} {b : Bool} {o : AM.Op} (ho : ∀ t' w' o', o ≠ .g t' w' o') : wdi P (some (.g t b o)) ops s e H k = wdG P (e.g t) b o ops s e H k := by
  simp only [wdi, bb_some]
  show (if wanted e t b = true then wop1 P o e H _ else _) = _
  have h : wop1 P o e H (fun e1 H1 => wd P ops s e1 H1 k) = wdi P (some o) ops s e H k := by
    simp only [wdi, bb_some]
    match o, ho with
    | .p _ _, _ => rfl
    | .r _ _, _ => rfl
    | .n _ _, _ => rfl
    | .g _ _ _, ho => exact absurd rfl (ho _ _ _)
    | .e _ _, _ => rfl
  rw [h]
  unfold wanted wdG
  cases e.g t <;> simp <;> rfl
theorem wdCa_of {f : Nat} {args : List AV} {K : AV → Hp → Prop} (h : CT P f args H K) (hk : ∀ v H1, K v H1 → RK H H1 → wd P ops s (putO e dd v) H1 k) : wdCa P f args H dd ops s e k := cll_of h hk
/-- A call with objects out of sight. -/
theorem wdm_ca {f : Nat} {x : List O} {M : Hp} {r : List (Nat × AO)} {cs : List Nat} {K : AV → Hp → Prop} (h : CT P f (x.map (ev e)) M K) (hk : ∀ v H1, K v H1 → RK M H1 → againAll ops (putO e dd v) (unmask H1 r) cs = true ∧ wd P ops s (putO e dd v) (unmask H1 r) k) :
    wdm P (some (.e dd (.ca f x))) (some (M, r)) cs ops s e k := by
  simp only [wdm, bb_some]
  exact cll_of h hk
end
attribute [go_sem] List.getElem?_cons_zero List.getElem?_cons_succ ne_eq reduceCtorEq not_false_eq_true implies_true
/-- A call by its contract. -/
theorem wCa_of {f : Nat} {args : List AV} {K : AV → Hp → Prop} (h : CT P f args H K) (hk : ∀ v H1, K v H1 → RK H H1 → wl P l (putO e dd v) H1 k) : wCa P f args H dd l e k := cll_of h hk
theorem wV_loop (hm : P.follows .mixedOrders = true) {a : AC} (I : Nat → Env → Hp → Prop) (n0 : Nat) (h0 : I n0 e H) (hr : ∀ n e H, I n e H → w P a e H (.lp (fun e' H' => ∃ m, m < n ∧ I m e' H') k)) : wV P a e H k := V.loop hm I n0 h0 hr
/-- What holds at the head of each round, kept whole. -/
def Ivv (I : Nat → Env → Hp → Prop) (n : Nat) (e : Env) (H : Hp) : Prop := I n e H
theorem Ivv.mk {I : Nat → Env → Hp → Prop} {n : Nat} {e : Env} {H : Hp} (h : I n e H) : Ivv I n e H := h
theorem wV_inv (hm : P.follows .mixedOrders = true) {a : AC} (I : Nat → Env → Hp → Prop) (n0 : Nat) (h0 : I n0 e H) (hr : ∀ n e H, I n e H → w P a e H (.lp (fun e' H' => ∃ m, m < n ∧ Ivv I m e' H') k)) : wV P a e H k := V.loop hm I n0 h0 hr
theorem CT.of_w (hm : P.follows .mixedOrders = true) {f : Nat} {s : List (List DC)} {fn : AFn} (hf : cF P f s = some fn) {args : List AV} {K : AV → Hp → Prop} (h : w P fn.c (envOf 0 args) H (.ret fn.rs K)) (hlen : args.length ≤ fn.n) : CT P f args H K := CT.of_W hm hf hlen h
end
/-! ### Slots -/
section
variable {e : Env}
@[go_sem] theorem ev_t {n : Nat} : ev e (.t n) = e.g n := rfl
@[go_sem] theorem ev_lit {n : Nat} : ev e (no_index (OfNat.ofNat n)) = e.g n := rfl
@[go_sem] theorem ev_c {v : AV} : ev e (.c v) = v := rfl
@[go_sem] theorem ev_k {n : Int} : ev e (k n) = .i .i64 n := rfl
attribute [go_sem] Env.g_st List.map_cons List.map_nil Option.map_some and_self and_true true_and
@[go_sem] theorem putO_some {d : Nat} {v : AV} : putO e (some d) v = e.st d v := rfl
@[go_sem] theorem putO_none {v : AV} : putO e none v = e := rfl
@[go_sem] theorem envOf_nil {k : Nat} : envOf k [] = .nil := rfl
@[go_sem] theorem envOf_cons {k : Nat} {v : AV} {l : List AV} : envOf k (v :: l) = (envOf (k + 1) l).st k v := rfl
@[go_sem] theorem nil_g {n : Nat} : Env.g Tr.nil n = .tp [] := rfl
/-! ### What operations answer -/
@[go_sem] theorem po_mv {x : O} : PO.run e (.mv x) = some (ev e x) := rfl
@[go_sem] theorem po_bo {op : BinOp} {x y : O} : PO.run e (.bo op x y) = bin op (ev e x) (ev e y) := rfl
@[go_sem] theorem po_ci64 {n : Nat} : PO.run e (.ci64 n) = some (.i .i64 n) := rfl
@[go_sem] theorem po_mf {f : Nat} {x y : List O} : PO.run e (.mf f x y) = some (.fn f (x.map (ev e)) (y.map (ev e))) := rfl
@[go_sem] theorem po_bd {z : List AV} {l : List (Nat × Nat × O)} : PO.run e (.bd z l) = (lay e z l).map .ag := rfl
@[go_sem] theorem po_no : PO.run e .no = none := rfl
section
variable {k : IntKind} {a b : Int}
@[go_sem] theorem bin_add : bin .add (.i k a) (.i k b) = some (.i k (wr k (a + b))) := by simp [bin, arith]
@[go_sem] theorem bin_sub : bin .sub (.i k a) (.i k b) = some (.i k (wr k (a - b))) := by simp [bin, arith]
@[go_sem] theorem bin_mul : bin .mul (.i k a) (.i k b) = some (.i k (wr k (a * b))) := by simp [bin, arith]
theorem bin_quo (h : b ≠ 0) : bin .quo (.i k a) (.i k b) = some (.i k (wr k (a.tdiv b))) := by simp [bin, arith, h]
theorem bin_rem (h : b ≠ 0) : bin .rem (.i k a) (.i k b) = some (.i k (a.tmod b)) := by simp [bin, arith, h]
def iand (k : IntKind) (a b : Int) : Int := AM.wr k (BitVec.ofInt k.bits a &&& BitVec.ofInt k.bits b).toNat
def ior (k : IntKind) (a b : Int) : Int := AM.wr k (BitVec.ofInt k.bits a ||| BitVec.ofInt k.bits b).toNat
def ixor (k : IntKind) (a b : Int) : Int := AM.wr k (BitVec.ofInt k.bits a ^^^ BitVec.ofInt k.bits b).toNat
def ishl (k : IntKind) (a b : Int) : Int := AM.wr k (a * (2 ^ min b.toNat k.bits : Nat))
def ishr (k : IntKind) (a b : Int) : Int := a.fdiv (2 ^ min b.toNat k.bits : Nat)
@[go_sem] theorem bin_and : bin .and (.i k a) (.i k b) = some (.i k (iand k a b)) := by simp [bin, arith, iand]
@[go_sem] theorem bin_or : bin .or (.i k a) (.i k b) = some (.i k (ior k a b)) := by simp [bin, arith, ior]
@[go_sem] theorem bin_xor : bin .xor (.i k a) (.i k b) = some (.i k (ixor k a b)) := by simp [bin, arith, ixor]
@[go_sem] theorem bin_eql : bin .eql (.i k a) (.i k b) = some (.b (a == b)) := by simp [bin, arith]
@[go_sem] theorem bin_neq : bin .neq (.i k a) (.i k b) = some (.b (a != b)) := by simp [bin, arith]
@[go_sem] theorem bin_lss : bin .lss (.i k a) (.i k b) = some (.b (decide (a < b))) := by simp [bin, arith]
@[go_sem] theorem bin_leq : bin .leq (.i k a) (.i k b) = some (.b (decide (a ≤ b))) := by simp [bin, arith]
@[go_sem] theorem bin_gtr : bin .gtr (.i k a) (.i k b) = some (.b (decide (b < a))) := by simp [bin, arith]
@[go_sem] theorem bin_geq : bin .geq (.i k a) (.i k b) = some (.b (decide (b ≤ a))) := by simp [bin, arith]
theorem bin_shl {k' : IntKind} (h : 0 ≤ b) : bin .shl (.i k a) (.i k' b) = some (.i k (ishl k a b)) := by simp only [bin, ishl]; rw [if_neg (by omega)]
theorem bin_shr {k' : IntKind} (h : 0 ≤ b) : bin .shr (.i k a) (.i k' b) = some (.i k (ishr k a b)) := by simp only [bin, ishr]; rw [if_neg (by omega)]
@[go_sem] theorem bin_seql {x y : List UInt8} : bin .eql (.s x) (.s y) = some (.b (x == y)) := rfl
@[go_sem] theorem bin_sneq {x y : List UInt8} : bin .neq (.s x) (.s y) = some (.b (!(x == y))) := rfl
end
/-! By values: facts on what lies in memory are stated of these words. -/
def pkV (c x y : AV) : Option AV := match c with | .b t => some (if t = true then x else y) | _ => none
def ncV (v : AV) : Option AV := match v with | .p a o => some (.p a o) | .fn f x y => some (.fn f x y) | _ => none
def eqV (neg : Bool) (t : ET) (x y : AV) : Option AV := match eqv t x y with | some r => some (.b (if neg = true then !r else r)) | none => none
def unV (op : UnOp) (v : AV) : Option AV := match op with
  | .not => (match v with | .b t => some (.b !t) | _ => none)
  | .neg => (match v with | .i k n => some (.i k (wr k (0 - n))) | _ => none)
  | _ => none
def ciV (k : IntKind) (v : AV) : Option AV := match v with | .i _ n => some (.i k (wr k n)) | _ => none
def faV (v : AV) (off : Nat) : Option AV := match v with | .p a o => some (.p a (o + off)) | _ => none
def fdV (v : AV) (agg : Bool) (off n : Nat) : Option AV := match v with | .ag l => partOf agg l off n | _ => none
def iaV (x i : AV) (z : Nat) : Option AV := match x, i with
  | .sl a z' o n _, .i _ k => if 0 ≤ k ∧ k < n ∧ z' = z then some (.p a (o + k.toNat * z)) else none
  | _, _ => none
def iAV (x i : AV) (len z : Nat) : Option AV := match x, i with
  | .p a o, .i _ k => if 0 ≤ k ∧ k < len then some (.p a (o + k.toNat * z)) else none
  | _, _ => none
def ixV (x i : AV) : Option AV := match x, i with
  | .s l, .i _ k => if 0 ≤ k then (l[k.toNat]?).map fun c => .i .u8 c.toNat else none
  | _, _ => none
def igV (x i : AV) (agg : Bool) (len z : Nat) : Option AV := match x, i with
  | .ag l, .i _ k => if 0 ≤ k ∧ k < len then partOf agg l (k.toNat * z) z else none
  | _, _ => none
def bndsV (len cap : Nat) (lo hi mx : Option AV) : Option (Nat × Nat × Nat) :=
  match (match mx with | some v => AM.bnd v cap | none => some cap) with
  | none => none
  | some m =>
    match (match hi, mx with | some v, some _ => AM.bnd v m | some v, none => AM.bnd v m | none, none => some len | none, some _ => none) with
    | none => none
    | some h =>
      match (match lo with | some v => AM.bnd v h | none => some 0) with
      | none => none
      | some l => some (l, h, m)
def slV (x : AV) (z : Nat) (lo hi mx : Option AV) : Option AV := match x with
  | .ns => match bndsV 0 0 lo hi mx with | some _ => some .ns | none => none
  | .sl a z' o n c => if z' = z then (match bndsV n c lo hi mx with | some (l, h, m) => some (.sl a z (o + l * z) (h - l) (m - l)) | none => none) else none
  | _ => none
def ssV (x : AV) (lo hi : Option AV) : Option AV := match x with
  | .s l => match bndsV l.length l.length lo hi none with | some (a, h, _) => some (.s ((l.take h).drop a)) | none => none
  | _ => none
def exV (v : AV) (i : Nat) : Option AV := match v with | .tp l => l[i]? | _ => none
def lnV (v : AV) : Option AV := match v with | .ns => some (.i .i64 0) | .sl _ _ _ n _ => some (.i .i64 n) | _ => none
def lsV (v : AV) : Option AV := match v with | .s l => some (.i .i64 l.length) | _ => none
def cpV (v : AV) : Option AV := match v with | .ns => some (.i .i64 0) | _ => none
def ldV (H : Hp) (v : AV) : Option AV := match v with | .p a o => (match H.cells a with | some l => l[o]? | none => none) | _ => none
def laV (H : Hp) (v : AV) (n : Nat) : Option AV := match v with | .p a o => (match H.cells a with | some l => (rdN l o n).map .ag | none => none) | _ => none
@[go_sem] theorem po_pk {c x y : O} : PO.run e (.pk c x y) = pkV (ev e c) (ev e x) (ev e y) := rfl
@[go_sem] theorem po_nc {x : O} : PO.run e (.nc x) = ncV (ev e x) := rfl
@[go_sem] theorem po_eq {n : Bool} {t : ET} {x y : O} : PO.run e (.eq n t x y) = eqV n t (ev e x) (ev e y) := rfl
@[go_sem] theorem po_un {op : UnOp} {x : O} : PO.run e (.un op x) = unV op (ev e x) := rfl
@[go_sem] theorem po_ci {k : IntKind} {x : O} : PO.run e (.ci k x) = ciV k (ev e x) := rfl
@[go_sem] theorem po_fa {x : O} {n : Nat} : PO.run e (.fa x n) = faV (ev e x) n := rfl
@[go_sem] theorem po_fd {x : O} {g : Bool} {o n : Nat} : PO.run e (.fd x g o n) = fdV (ev e x) g o n := rfl
@[go_sem] theorem po_ia {x i : O} {n : Nat} : PO.run e (.ia x i n) = iaV (ev e x) (ev e i) n := by simp only [PO.run, rIa, iaV]; cases ev e x <;> cases ev e i <;> rfl
@[go_sem] theorem po_iA {x i : O} {m n : Nat} : PO.run e (.iA x i m n) = iAV (ev e x) (ev e i) m n := by simp only [PO.run, rIA, iAV]; cases ev e x <;> cases ev e i <;> rfl
@[go_sem] theorem po_ix {x i : O} : PO.run e (.ix x i) = ixV (ev e x) (ev e i) := by simp only [PO.run, rIx, ixV]; cases ev e x <;> cases ev e i <;> rfl
@[go_sem] theorem po_ig {x i : O} {g : Bool} {m n : Nat} : PO.run e (.ig x i g m n) = igV (ev e x) (ev e i) g m n := by simp only [PO.run, rIg, igV]; cases ev e x <;> cases ev e i <;> rfl
theorem bndsV_eq {len cap : Nat} {lo hi mx : Option O} : bnds e len cap lo hi mx = bndsV len cap (lo.map (ev e)) (hi.map (ev e)) (mx.map (ev e)) := by
  cases lo <;> cases hi <;> cases mx <;> rfl
@[go_sem] theorem po_sl {x : O} {z : Nat} {a b c : Option O} : PO.run e (.sl x z a b c) = slV (ev e x) z (a.map (ev e)) (b.map (ev e)) (c.map (ev e)) := by
  simp only [PO.run, rSl, slV, bndsV_eq]; rfl
@[go_sem] theorem po_ss {x : O} {a b : Option O} : PO.run e (.ss x a b) = ssV (ev e x) (a.map (ev e)) (b.map (ev e)) := by
  simp only [PO.run, rSs, ssV, bndsV_eq]; rfl
@[go_sem] theorem po_ex {x : O} {i : Nat} : PO.run e (.ex x i) = exV (ev e x) i := rfl
@[go_sem] theorem po_ln {x : O} : PO.run e (.ln x) = lnV (ev e x) := rfl
@[go_sem] theorem po_ls {x : O} : PO.run e (.ls x) = lsV (ev e x) := rfl
@[go_sem] theorem po_cp {x : O} : PO.run e (.cp x) = cpV (ev e x) := rfl
@[go_sem] theorem po_mn {l : List O} : PO.run e (.mn l) = rMn e l := rfl
@[go_sem] theorem po_mx {l : List O} : PO.run e (.mx l) = rMx e l := rfl
@[go_sem] theorem ro_ld {H : Hp} {x : O} : RO.run e H (.ld x) = ldV H (ev e x) := rfl
@[go_sem] theorem ro_la {H : Hp} {x : O} {n : Nat} : RO.run e H (.la x n) = laV H (ev e x) n := rfl
attribute [go_sem] rMn rMx foldInt eqv eqvs partOf lay AV.cells AV.one resL results RV.get Option.map_none
section
variable {x y : AV} {t : Bool} {a o n m z c : Nat} {k k' : IntKind} {u : Int}
@[go_sem] theorem pkV_t : pkV (.b true) x y = some x := rfl
@[go_sem] theorem pkV_f : pkV (.b false) x y = some y := rfl
theorem pkV_b : pkV (.b t) x y = some (if t = true then x else y) := rfl
@[go_sem] theorem ncV_p : ncV (.p a o) = some (.p a o) := rfl
@[go_sem] theorem ncV_fn {f : Nat} {p q : List AV} : ncV (.fn f p q) = some (.fn f p q) := rfl
attribute [go_sem] eqV
@[go_sem] theorem unV_not : unV .not (.b t) = some (.b !t) := rfl
@[go_sem] theorem unV_neg : unV .neg (.i k u) = some (.i k (wr k (0 - u))) := rfl
@[go_sem] theorem ciV_i : ciV k (.i k' u) = some (.i k (wr k u)) := rfl
@[go_sem] theorem faV_p : faV (.p a o) n = some (.p a (o + n)) := rfl
@[go_sem] theorem fdV_a {l : List AV} : fdV (.ag l) true n m = some (.ag ((l.drop n).take m)) := rfl
@[go_sem] theorem fdV_1 {l : List AV} : fdV (.ag l) false n m = l[n]? := rfl
@[go_sem] theorem exV_t {l : List AV} : exV (.tp l) n = l[n]? := rfl
@[go_sem] theorem lnV_ns : lnV .ns = some (.i .i64 0) := rfl
@[go_sem] theorem lnV_sl : lnV (.sl a z o n c) = some (.i .i64 n) := rfl
@[go_sem] theorem lsV_s {l : List UInt8} : lsV (.s l) = some (.i .i64 l.length) := rfl
@[go_sem] theorem cpV_ns : cpV .ns = some (.i .i64 0) := rfl
theorem iaV_sl {i : Int} (h : 0 ≤ i) (h' : i < n) : iaV (.sl a z o n c) (.i k i) z = some (.p a (o + i.toNat * z)) := by simp [iaV, h, h']
theorem iAV_p {i : Int} (h : 0 ≤ i) (h' : i < n) : iAV (.p a o) (.i k i) n z = some (.p a (o + i.toNat * z)) := by simp [iAV, h, h']
theorem ldV_p {H : Hp} {f : Fl} {l : List AV} (h : H.get a = some (.c f l)) : ldV H (.p a o) = l[o]? := by simp [ldV, Hp.cells, h]
theorem laV_p {H : Hp} {f : Fl} {l : List AV} (h : H.get a = some (.c f l)) : laV H (.p a o) n = (rdN l o n).map .ag := by simp [laV, Hp.cells, h]
end
@[go_sem] theorem bnd_i {k : IntKind} {n : Int} {y : Nat} : AM.bnd (.i k n) y = if 0 ≤ n ∧ n ≤ y then some n.toNat else none := rfl
end
theorem cells_of {H : Hp} {a : Nat} {f : Fl} {l : List AV} (h : H.get a = some (.c f l)) : H.cells a = some l := by unfold Hp.cells; rw [h]
theorem map_of {H : Hp} {a n : Nat} {l : List (AV × AV)} (h : H.get a = some (.mp n l)) : H.map a = some l := by unfold Hp.map; rw [h]
theorem wr64 {n : Int} (h : -9223372036854775808 ≤ n) (h' : n ≤ 9223372036854775807) : wr .i64 n = n := by unfold wr; simp only; rw [if_pos ⟨h, h'⟩]
end Go.AM
/- Rows of elements in memory. -/
set_option linter.unusedVariables false
set_option linter.unusedSimpArgs false
namespace Go.AM
open Go
theorem rdN_some {l v : List AV} {o n : Nat} (h : rdN l o n = some v) : o + n ≤ l.length ∧ v = (l.drop o).take n := by
  unfold rdN at h
  split at h
  · cases h; exact ⟨by assumption, rfl⟩
  · cases h
theorem rdN_of {l : List AV} {o n : Nat} (h : o + n ≤ l.length) : rdN l o n = some ((l.drop o).take n) := by unfold rdN; rw [if_pos h]
theorem rdN_len {l v : List AV} {o n : Nat} (h : rdN l o n = some v) : v.length = n := by
  obtain ⟨h1, rfl⟩ := rdN_some h
  simp; omega
/-- A piece of what was read. -/
theorem rdN_sub {l v : List AV} {o n i m : Nat} (h : rdN l o n = some v) (hi : i + m ≤ n) : rdN l (o + i) m = some ((v.drop i).take m) := by
  obtain ⟨h1, rfl⟩ := rdN_some h
  rw [rdN_of (by omega)]
  rw [List.drop_take, List.take_take, List.drop_drop, Nat.min_eq_left (by omega)]
theorem rdN_get {l v : List AV} {o n i : Nat} (h : rdN l o n = some v) (hi : i < n) : l[o + i]? = v[i]? := by
  obtain ⟨h1, rfl⟩ := rdN_some h
  rw [List.getElem?_take, if_pos hi, List.getElem?_drop]
section
variable {α : Type}
/-- A slice of elements, each of z cells. -/
def Sl (z : Nat) (enc : α → List AV) (H : Hp) (x : AV) (vs : List α) : Prop :=
  (x = .ns ∧ vs = []) ∨ ∃ a o c f l, x = .sl a z o vs.length c ∧ H.get a = some (.c f l) ∧ rdN l o (vs.length * z) = some (vs.flatMap enc)
variable {z : Nat} {enc : α → List AV} {H H' : Hp} {x : AV} {vs : List α}
theorem Sl.ln (h : Sl z enc H x vs) : lnV x = some (.i .i64 vs.length) := by
  rcases h with ⟨rfl, rfl⟩ | ⟨a, o, c, f, l, rfl, _, _⟩ <;> rfl
theorem flat_len (hz : ∀ v, (enc v).length = z) : ∀ vs : List α, (vs.flatMap enc).length = vs.length * z
  | [] => by simp
  | v :: vs => by simp [List.flatMap_cons, hz, flat_len hz vs, Nat.succ_mul]; omega
theorem flat_at (hz : ∀ v, (enc v).length = z) : ∀ (vs : List α) (i : Nat) (v : α), vs[i]? = some v → ((vs.flatMap enc).drop (i * z)).take z = enc v
  | [], i, v, h => by simp at h
  | u :: vs, 0, v, h => by
    simp at h; subst h
    simp [List.flatMap_cons, ← hz u]
  | u :: vs, i + 1, v, h => by
    simp at h
    have : (i + 1) * z = (enc u).length + i * z := by rw [hz, Nat.succ_mul]; omega
    rw [List.flatMap_cons, this, ← List.drop_drop, List.drop_left]
    exact flat_at hz vs i v h
/-- An element's address, and what lies there. -/
theorem Sl.at (h : Sl z enc H x vs) (hz : ∀ v, (enc v).length = z) {i : Nat} {v : α} (hv : vs[i]? = some v) {k : IntKind} :
    ∃ a o, iaV x (.i k i) z = some (.p a o) ∧ laV H (.p a o) z = some (.ag (enc v)) ∧ ∀ j, j < z → ldV H (.p a (o + j)) = (enc v)[j]? := by
  rcases h with ⟨rfl, rfl⟩ | ⟨a, o, c, f, l, rfl, hg, hr⟩
  · simp at hv
  · have hi : i < vs.length := (List.getElem?_eq_some_iff.1 hv).1
    have hle : i * z + z ≤ vs.length * z := by
      have : (i + 1) * z ≤ vs.length * z := Nat.mul_le_mul_right _ hi
      rw [Nat.succ_mul] at this; exact this
    have hs := rdN_sub hr hle
    rw [flat_at hz vs i v hv] at hs
    refine ⟨a, o + i * z, ?_, ?_, fun j hj => ?_⟩
    · rw [iaV_sl (by omega) (by omega)]; simp
    · rw [laV_p hg, hs]; rfl
    · rw [ldV_p hg, rdN_get hs hj]
/-- As long as its row stays. -/
theorem Sl.keep (h : Sl z enc H x vs) (hk : ∀ a f l, blk x = some a → H.get a = some (.c f l) → H'.get a = some (.c f l)) : Sl z enc H' x vs := by
  rcases h with h | ⟨a, o, c, f, l, rfl, hg, hr⟩
  · exact .inl h
  · exact .inr ⟨a, o, c, f, l, rfl, hk a f l rfl hg, hr⟩
end
/-- Bytes. -/
def bc (c : UInt8) : List AV := [.i .u8 c.toNat]
abbrev Bs := Sl 1 bc
theorem bc_len (c : UInt8) : (bc c).length = 1 := rfl
theorem Bs.at {H : Hp} {x : AV} {bs : List UInt8} (h : Bs H x bs) {i : Nat} {c : UInt8} (hc : bs[i]? = some c) {k : IntKind} : ∃ a o, iaV x (.i k i) 1 = some (.p a o) ∧ ldV H (.p a o) = some (.i .u8 c.toNat) := by
  obtain ⟨a, o, h1, _, h3⟩ := Sl.at h bc_len hc (k := k)
  exact ⟨a, o, h1, h3 0 (by omega)⟩
/-- Bytes as numbers. -/
def ic (n : Int) : List AV := [.i .u8 n]
abbrev Is := Sl 1 ic
theorem ic_len (n : Int) : (ic n).length = 1 := rfl
theorem Is.at {H : Hp} {x : AV} {bs : List Int} (h : Is H x bs) {i : Nat} {c : Int} (hc : bs[i]? = some c) {k : IntKind} : ∃ a o, iaV x (.i k i) 1 = some (.p a o) ∧ ldV H (.p a o) = some (.i .u8 c) := by
  obtain ⟨a, o, h1, _, h3⟩ := Sl.at h ic_len hc (k := k)
  exact ⟨a, o, h1, h3 0 (by omega)⟩
theorem wr64n {n : Nat} (h : n < 9223372036854775807) : wr .i64 ((n : Int) + 1) = ((n + 1 : Nat) : Int) := by rw [wr64 (by omega) (by omega)]; simp
def len8tab : List UInt8 := [0, 1, 2, 2] ++ List.replicate 4 3 ++ List.replicate 8 4 ++ List.replicate 16 5 ++ List.replicate 32 6 ++ List.replicate 64 7 ++ List.replicate 128 8
end Go.AM
namespace Go.AM
open Go
/-! ### Stores -/
def stV (H : Hp) (x v : AV) (n : Nat) : Option (AV × Hp) := match x with
  | .p a o => match H.get a with
    | some (.c .w l) => if v.cells.length = n ∧ o + n ≤ l.length ∧ v.cells.all AV.one then some (.tp [], H.set a (.c .w (wrN l o v.cells))) else none
    | _ => none
  | _ => none
@[go_sem] theorem eo_st {e : Env} {H : Hp} {x v : O} {n : Nat} : EO.run e H (.st x v n) = stV H (ev e x) (ev e v) n := rfl
theorem wrN_1 {l : List AV} {o : Nat} {v : AV} (h : o < l.length) : wrN l o [v] = l.set o v := by
  unfold wrN
  rw [List.set_eq_take_append_cons_drop, if_pos h]
  simp
theorem stV_1 {H : Hp} {a o : Nat} {l : List AV} {v : AV} (hg : H.get a = some (.c .w l)) (ho : o < l.length) (hv : v.one = true) : stV H (.p a o) v 1 = some (.tp [], H.set a (.c .w (l.set o v))) := by
  have hc : v.cells = [v] := by cases v <;> first | rfl | (simp [AV.one] at hv)
  simp only [stV, hg, hc]
  rw [if_pos ⟨rfl, by omega, by simp [hv]⟩, wrN_1 ho]
end Go.AM
/- Contracts brought to a plain form: what was there stays; what is new lies at the next numbers. -/
set_option linter.unusedVariables false
set_option linter.unusedSimpArgs false
namespace Go.AM
open Go
mutual
theorem VR.back {μ μ' : Mu} (hx : Ext μ μ') : ∀ {v : AV} {cv0 cv : Value}, VR μ v cv0 → VR μ' v cv → VR μ v cv
  | .i k n, _, _, _, h => by cases h; exact .i k n
  | .b x, _, _, _, h => by cases h; exact .b x
  | .s x, _, _, _, h => by cases h; exact .s _
  | .np, _, _, _, h => by cases h; exact .np
  | .ns, _, _, _, h => by cases h; exact .ns
  | .nm, _, _, _, h => by cases h; exact .nm
  | .nf, _, _, _, h => by cases h; exact .nf
  | .p a o, _, _, h0, h => by
    obtain ⟨b0, e0, _⟩ := vr_p h0
    obtain ⟨b1, e1, rfl⟩ := vr_p h
    rw [hx _ _ e0] at e1; cases e1
    exact .p e0 o
  | .m r, _, _, h0, h => by
    obtain ⟨b0, e0, _⟩ := vr_m h0
    obtain ⟨b1, e1, rfl⟩ := vr_m h
    rw [hx _ _ e0] at e1; cases e1
    exact .m e0
  | .sl a z o n c, _, _, h0, h => by
    obtain ⟨ad0, c0, _, b0, e0, _⟩ := vr_sl h0
    obtain ⟨ad, c', rfl, b1, e1, r⟩ := vr_sl h
    rw [hx _ _ e0] at e1; cases e1
    exact .sl ⟨_, e0, r⟩
  | .fn f x y, _, _, h0, h => by
    obtain ⟨x0, y0, _, p0, q0⟩ := vr_fn h0
    obtain ⟨x1, y1, rfl, p1, q1⟩ := vr_fn h
    exact .fn f (VRL.back hx p0 p1) (VRL.back hx q0 q1)
  | .ag l, _, _, h0, h => by
    cases h0 with
    | ag p0 => cases h with
      | ag p1 => exact .ag (VRL.back hx p0 p1)
  | .tp l, _, _, h0, h => by
    cases h0 with
    | tp p0 => cases h with
      | tp p1 => exact .tp (VRL.back hx p0 p1)
theorem VRL.back {μ μ' : Mu} (hx : Ext μ μ') : ∀ {l : List AV} {l0 l' : List Value}, VRL μ l l0 → VRL μ' l l' → VRL μ l l'
  | [], _, _, _, .nil => .nil
  | v :: l, _, _, .cons p0 q0, .cons p q => .cons (VR.back hx p0 p) (VRL.back hx q0 q)
end
theorem ERL.back {μ μ' : Mu} (hx : Ext μ μ') : ∀ {l : List (AV × AV)} {l0 l' : List MapEntry}, ERL μ l l0 → ERL μ' l l' → ERL μ l l'
  | [], _, _, _, .nil => .nil
  | _ :: l, _, _, .cons p0 p1 q0, .cons p p' q => .cons (p0.back hx p) (p1.back hx p') (ERL.back hx q0 q)
section
variable {P : Program} {Pr : Nat → Prop} {w0 w w' : World} {μ μ' : Mu} {H H' : Hp} {nx nx' : Nat}
/-- What was there, in the later world. -/
theorem Rel.back (R : Rel Pr w0 μ H.get H.nx w) (R' : Rel Pr w0 μ' H'.get H'.nx w') (hx : Eu H.nx μ μ') (keep : ∀ a o, H.get a = some o → H'.get a = some o) : Rel Pr w0 μ H.get H.nx w' := by
  have pl : ∀ {a bi}, μ a = some bi → μ' a = some bi := fun h => hx.1 _ _ h
  refine ⟨fun a o ha => ?_, fun a1 a2 o1 o2 b1 b2 ne h1 h2 e1 e2 hw => R'.sep a1 a2 o1 o2 b1 b2 ne (keep _ _ h1) (keep _ _ h2) (pl e1) (pl e2) hw, R.new, R'.prot, fun a o bi ha hb hw => R'.away a o bi (keep _ _ ha) (pl hb) hw, R'.os, R'.tape, R'.out⟩
  obtain ⟨bi, hb, ho⟩ := R.obj a o ha
  obtain ⟨bi', hb', ho'⟩ := R'.obj a o (keep _ _ ha)
  rw [pl hb] at hb'; cases hb'
  refine ⟨bi, hb, ?_⟩
  match o, ho, ho' with
  | .c f l, ⟨C, el, lo, hi, k1, k2, k3, k4, k5, k6, k7⟩, ⟨C', el', lo', hi', g1, g2, g3, g4, g5, g6, g7⟩ => exact ⟨C', el', lo', hi', g1, g2, g3, g4, g5, VRL.back hx.1 k6 g6, g7⟩
  | .mp n l, ⟨E, clk, k1, k2, k3⟩, ⟨E', clk', g1, g2, g3⟩ => exact ⟨E', clk', g1, ERL.back hx.1 k2 g2, g3⟩
  | .it none n l c, _, h => exact h
  | .it (some m) n left cur, ⟨z, mb, since, seen, last, k1, k2, k3, k4⟩, ⟨z', mb', since', seen', last', g1, g2, g3, g4⟩ =>
    have e : mb = mb' := by have := pl k2; rw [g2] at this; cases this; rfl
    subst e
    refine ⟨z, mb, since', seen', last', g1, k2, fun n' l hl => k3 n' l hl, fun l hl E clk hE => ?_⟩
    obtain ⟨p1, p2, p3, p4⟩ := g4 l (keep _ _ hl) E clk hE
    obtain ⟨mb2, q1, E0, clk0, q2, q3, q4⟩ := R.obj m _ hl
    rw [k2] at q1; cases q1
    obtain ⟨s1, s2, s3, s4⟩ := k4 l hl E0 clk0 q2
    refine ⟨p1, p2, ERL.back hx.1 s3 p3, fun k v hk => ?_⟩
    obtain ⟨b0, e0, _, _, t1, t2⟩ := s4 k v hk
    obtain ⟨b1, e1, u1, u2, u3, u4⟩ := p4 k v hk
    exact ⟨b1, e1, u1, u2, t1.back hx.1 u3, t2.back hx.1 u4⟩
/-- A new object, at the next number. -/
theorem Rel.add (R : Rel Pr w0 μ H.get H.nx w') (R' : Rel Pr w0 μ' H'.get H'.nx w') (hx : Ext μ μ') (keep : ∀ a o, H.get a = some o → H'.get a = some o) {b : Nat} {bi : BI} {f : Fl} {l l' : List AV} (hb : H'.get b = some (.c f l)) (hbi : μ' b = some bi) (hnew : ∀ o, H.get b ≠ some o) (hf : f ≠ .r)
    {cl : List Value} (hv : ∀ C el fr, w'.heap[bi.cb]? = some (.cells C el fr) → VRL (μ.put H.nx bi) l' ((C.toList.drop bi.base).take bi.size)) (hl : l'.length = l.length) (h1 : l'.all AV.one = true) : Rel Pr w0 (μ.put H.nx bi) (H.new (.c f l')).get (H.nx + 1) w' := by
  have hμ : μ H.nx = none := R.new _ (Nat.le_refl _)
  have hE : Ext μ (μ.put H.nx bi) := Ext.put hμ
  have hlt : ∀ a o, H.get a = some o → a ≠ H.nx := fun a o h => by have := R.lt h; omega
  have hmap : MapOK μ H.get (H.new (.c f l')).get w' w' := by
    refine mapOK_same (fun m n l e => ?_) fun _ _ _ _ _ _ => rfl
    rw [Hp.get_new] at e
    split at e
    · cases e
    · exact e
  refine ⟨fun a o ha => ?_, fun a1 a2 o1 o2 b1 b2 ne g1 g2 e1 e2 hw => ?_, fun a ha => ?_, R.prot, fun a o b1 ha e hw => ?_, R.os, R.tape, R.out⟩
  · rw [Hp.get_new] at ha
    split at ha
    · rename_i c; subst c; cases ha
      obtain ⟨bi', g1, C, el, lo, hi, g2, g3, g4, g5, g6, g7, g8⟩ := R'.obj b _ hb
      rw [hbi] at g1; cases g1
      exact ⟨bi, Mu.put_at _ _ _, C, el, lo, hi, g2, by rw [hl]; exact g3, g4, g5, g6, hv C el _ g2, h1⟩
    · obtain ⟨b1, g1, g2⟩ := R.obj a o ha
      exact ⟨b1, hE _ _ g1, g2.frame hE rfl hmap⟩
  · have two : ∀ a o b1, H.get a = some o → μ a = some b1 → (o.wr || (AO.c f l).wr) = true → Apart b1 bi o (.c f l) := by
      intro a o b1 ha he hw
      refine R'.sep a b o _ b1 bi (fun c => ?_) (keep _ _ ha) hb (hx _ _ he) hbi hw
      subst c; exact hnew o ha
    have sym : ∀ {x y : BI} {p q : AO}, Apart x y p q → Apart y x q p := fun h => by
      rcases h with h | ⟨h1, h2, h3⟩
      · exact .inl (Ne.symm h)
      · exact .inr ⟨h2, h1, h3.symm⟩
    have chg : ∀ {x y : BI} {p : AO}, Apart x y p (.c f l) → Apart x y p (.c f l') := fun h => by
      rcases h with h | ⟨h1, _, h3⟩
      · exact .inl h
      · exact .inr ⟨h1, rfl, h3⟩
    have wrl : (AO.c f l').wr = (AO.c f l).wr := by cases f <;> rfl
    rw [Hp.get_new] at g1 g2
    unfold Mu.put at e1 e2
    by_cases c1 : a1 = H.nx
    · rw [if_pos c1] at g1 e1; cases g1; cases e1
      have c2 : a2 ≠ H.nx := fun c => ne (c1.trans c.symm)
      rw [if_neg c2] at g2 e2
      exact sym (chg (two a2 o2 b2 g2 e2 (by rw [← wrl, Bool.or_comm]; exact hw)))
    · rw [if_neg c1] at g1 e1
      by_cases c2 : a2 = H.nx
      · rw [if_pos c2] at g2 e2; cases g2; cases e2
        exact chg (two a1 o1 b1 g1 e1 (by rw [← wrl]; exact hw))
      · rw [if_neg c2] at g2 e2
        exact R.sep a1 a2 o1 o2 b1 b2 ne g1 g2 e1 e2 hw
  · unfold Mu.put
    rw [if_neg (by omega)]
    exact R.new a (by omega)
  · rw [Hp.get_new] at ha
    unfold Mu.put at e
    by_cases c : a = H.nx
    · rw [if_pos c] at ha e; cases ha; cases e
      exact R'.away b _ _ hb hbi (by cases f <;> first | rfl | exact absurd rfl hf)
    · rw [if_neg c] at ha e
      exact R.away a o b1 ha e hw
/-- No part that points anywhere. -/
def AV.flat : AV → Bool
  | .i _ _ | .b _ | .s _ | .np | .ns | .nm | .nf => true
  | _ => false
theorem VR.flat {v : AV} {cv : Value} (h : VR μ v cv) (hf : v.flat = true) (μ' : Mu) : VR μ' v cv := by
  cases h <;> first | (simp [AV.flat] at hf; done) | constructor
theorem VRL.flat : ∀ {l : List AV} {l' : List Value}, VRL μ l l' → l.all AV.flat = true → ∀ μ' : Mu, VRL μ' l l'
  | _, _, .nil, _, _ => .nil
  | _, _, .cons h r, hf, μ' => by
    simp only [List.all_cons, Bool.and_eq_true] at hf
    exact .cons (h.flat hf.1 μ') (r.flat hf.2 μ')
theorem flat_one : ∀ {l : List AV}, l.all AV.flat = true → l.all AV.one = true
  | [], _ => rfl
  | v :: l, h => by
    simp only [List.all_cons, Bool.and_eq_true] at h ⊢
    exact ⟨by cases v <;> first | rfl | (simp [AV.flat] at h), flat_one h.2⟩
/-- A contract of a function that changes nothing: its value; the heap as it was. -/
theorem CT.still {f : Nat} {args : List AV} {K : AV → Hp → Prop} (h : CT P f args H K) {K' : AV → Prop} (hk : ∀ v H', K v H' → RK H H' → (∀ a o, H.get a = some o → H'.get a = some o) ∧ v.flat = true ∧ K' v) : CT P f args H fun v H1 => K' v ∧ H1 = H := by
  refine ⟨h.1, fun Pr w0 μ w cargs R hv => (h.2 Pr w0 μ w cargs R hv).mono fun en w' ⟨cv, v, H', μ', q1, q2, q3, q4, q5, q6⟩ => ?_⟩
  obtain ⟨h1, h2, h3⟩ := hk v H' q2 q5
  exact ⟨cv, v, H, μ, q1, ⟨h3, rfl⟩, q3.flat h2 μ, Eu.refl _ _, RK.refl _, R.back q6 q4 h1⟩
/-- A contract of a function that makes one flat row: it lies at the next number. -/
theorem CT.fresh {f : Nat} {args : List AV} {K : AV → Hp → Prop} (h : CT P f args H K) {K' : AV → Hp → Prop} (hk : ∀ v H', K v H' → RK H H' → (∀ a o, H.get a = some o → H'.get a = some o) ∧
      ((v.flat = true ∧ K' v H) ∨ ∃ b z n l, v = .sl b z 0 n n ∧ H.nx ≤ b ∧ H'.get b = some (.c .w l) ∧ l.all AV.flat = true ∧ K' (.sl H.nx z 0 n n) (H.new (.c .w l)))) : CT P f args H K' := by
  refine ⟨h.1, fun Pr w0 μ w cargs R hv => (h.2 Pr w0 μ w cargs R hv).mono fun en w' ⟨cv, v, H', μ', q1, q2, q3, q4, q5, q6⟩ => ?_⟩
  obtain ⟨h1, h2⟩ := hk v H' q2 q5
  have R1 := R.back q6 q4 h1
  rcases h2 with ⟨h2, h3⟩ | ⟨b, z, n, l, rfl, hb, hg, hf, h3⟩
  · exact ⟨cv, v, H, μ, q1, h3, q3.flat h2 μ, Eu.refl _ _, RK.refl _, R1⟩
  · obtain ⟨ad, c', rfl, bi, e1, e2⟩ := vr_sl q3
    have hnew : ∀ o, H.get b ≠ some o := fun o c => by have := R.lt c; omega
    have hμ : μ H.nx = none := R.new _ (Nat.le_refl _)
    refine ⟨_, _, _, μ.put H.nx bi, q1, h3, .sl ⟨bi, Mu.put_at _ _ _, e2⟩, Eu.put hμ (Nat.le_refl _), RK.new (get_nx R) rfl nofun, ?_⟩
    refine R1.add q6 q4.1 h1 hg e1 hnew (by simp) (cl := []) (fun C el fr hC => ?_) rfl (flat_one hf)
    obtain ⟨bi', g1, C', el', lo, hi, g2, g3, g4, g5, g6, g7, g8⟩ := q6.obj b _ hg
    rw [e1] at g1; cases g1
    rw [hC] at g2; cases g2
    exact g7.flat hf _
end
end Go.AM
