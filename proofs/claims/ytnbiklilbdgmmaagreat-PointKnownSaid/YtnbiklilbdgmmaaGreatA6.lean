/- Regions whose order is open: what is checked; code, as a whole, to the abstract machine's. -/
import Derived.Test.YtnbiklilbdgmmaaGreatA5
set_option linter.constructorNameAsVariable false
set_option linter.unusedVariables false
namespace Go.AM
open Go
def O.uses : O → List Nat
  | .t n => [n]
  | .c _ => []
def usesL : List O → List Nat
  | [] => []
  | x :: l => x.uses ++ usesL l
def usesP : List (Nat × Nat × O) → List Nat
  | [] => []
  | (_, _, x) :: l => x.uses ++ usesP l
def usesO : Option O → List Nat
  | some x => x.uses
  | none => []
def PO.uses : PO → List Nat
  | .mv x | .nc x | .un _ x | .ci _ x | .fa x _ | .fd x _ _ _ | .ex x _ | .ln x | .ls x | .cp x => x.uses
  | .pk c x y => c.uses ++ (x.uses ++ y.uses)
  | .bo _ x y | .eq _ _ x y | .ia x y _ | .iA x y _ _ | .ix x y | .ig x y _ _ _ => x.uses ++ y.uses
  | .mf _ x y => usesL x ++ usesL y
  | .sl x _ lo hi hm => x.uses ++ (usesO lo ++ (usesO hi ++ usesO hm))
  | .ss x lo hi => x.uses ++ (usesO lo ++ usesO hi)
  | .bd _ l => usesP l
  | .mn l | .mx l => usesL l
  | .ci64 _ | .no => []
def RO.uses : RO → List Nat
  | .ld x | .la x _ | .lm x | .bs x | .en x => x.uses
  | .lk _ _ x y _ => x.uses ++ y.uses
def NO.uses : NO → List Nat
  | .al _ | .mm => []
  | .bx x | .sb x => x.uses
  | .bs _ _ _ l => usesP l
  | .ms _ _ _ n c => n.uses ++ c.uses
def EO.uses : EO → List Nat
  | .st x y _ | .ap _ _ _ x y | .az _ _ _ x y | .cy _ x y => x.uses ++ y.uses
  | .cl _ x | .mk x | .rg x | .nx x => x.uses
  | .mu _ m k v => m.uses ++ (k.uses ++ v.uses)
  | .dl _ m k => m.uses ++ k.uses
  | .no => []
  | .ca _ l => usesL l
  | .cv f l => f.uses ++ usesL l
def Op.uses : AM.Op → List Nat
  | .p _ o => o.uses
  | .r _ o => o.uses
  | .n _ o => o.uses
  | .e _ o => o.uses
  | .g t _ o => t :: o.uses
/-- Which kind: 0 touches no memory; 1 reads; 2 makes an object; 3 an effect. -/
def Op.kind : AM.Op → Nat
  | .p _ _ => 0
  | .r _ _ => 1
  | .n _ _ => 2
  | .e _ _ => 3
  | .g _ _ o => match o with
    | .p _ _ => 0
    | .r _ _ => 1
    | .n _ _ => 2
    | _ => 3
/-- All that must come before: bits. -/
def ancOf (acc : List Nat) : List Edge → Nat
  | [] => 0
  | e :: l => if Region.binds .any e then ((2 ^ e.on) ||| (acc.getD e.on 0)) ||| ancOf acc l else ancOf acc l
def ancs : List Oper → List Nat → List Nat
  | [], acc => acc
  | o :: l, acc => ancs l (acc ++ [ancOf acc o.after.toList])
/-- Edges lead back. -/
def backB : List Oper → Nat → Bool
  | [], _ => true
  | o :: l, k => o.after.toList.all (fun e => !Region.binds .any e || decide (e.on < k)) && backB l (k + 1)
/-- No slot has two writers. -/
def distB : List AM.Op → List Nat → Bool
  | [], _ => true
  | o :: l, seen => match o.dst with
    | some d => !seen.contains d && distB l (d :: seen)
    | none => distB l seen
/-- A writer and a reader of a slot stand in an order. -/
def ordB (an : List Nat) (l : List AM.Op) : Bool :=
  l.zipIdx.all fun (x, i) => l.zipIdx.all fun (y, k) => match y.dst with
    | some d => if x.uses.contains d then i != k && ((an.getD i 0).testBit k || (an.getD k 0).testBit i) else true
    | none => true
/-- A read that is tried again has no slot that is written behind it. -/
def steadyB (an : List Nat) (l : List AM.Op) (i : Nat) (u : List Nat) : Bool :=
  l.zipIdx.all fun (y, k) => match y.dst with
    | some d => if u.contains d then k != i && !(an.getD k 0).testBit i else true
    | none => true
def schedB (an : List Nat) (l : List AM.Op) : List DC → Nat → Bool
  | [], D => D == 2 ^ l.length - 1
  | .n i :: s, D => match l[i]? with
    | some o => !D.testBit i && o.kind < 3 && ((an.getD i 0) &&& D == an.getD i 0) && schedB an l s (D ||| 2 ^ i)
    | none => false
  | .e i ms cs :: s, D => match l[i]? with
    | some o => !D.testBit i && o.kind == 3 && ((an.getD i 0) &&& D == an.getD i 0) &&
      (l.zipIdx.all fun (y, k) =>
        if D.testBit k then
          (if (an.getD i 0).testBit k then true else
            match y.kind with
            | 1 => cs.contains k && steadyB an l k y.uses
            | 2 => (match y.dst with | some d => ms.contains d | none => false)
            | _ => true)
        else k == i || (an.getD k 0).testBit i) &&
      (ms.all fun t => l.zipIdx.any fun (y, k) => y.dst == some t && y.kind == 2 && D.testBit k && (l.zipIdx.all fun (z, j) => if z.kind == 3 && (D.testBit j || j == i) then !(an.getD j 0).testBit k else true)) &&
      schedB an l s (D ||| 2 ^ i)
    | none => false
def drawB (ops : Array Oper) (l : List AM.Op) (s : List DC) : Bool :=
  let an := ancs ops.toList []
  backB ops.toList 0 && distB l [] && ordB an l && (match s with
    | [] => l.all (fun o => o.kind < 3)
    | s => schedB an l s 0)
/-- The code, and the orders that are given for its open regions, one behind the other. -/
def dstB (N : Nat) (ops : Array Oper) : Bool := ops.toList.all fun o => match o.dst with | some d => decide (d < N) | none => true
section
variable (P : Program) (N : Nat)
def opsOf (ops : Array Oper) : List AM.Op := ops.toList.map fun o => match cOpG P ops o with | some x => x | none => badOp o
def cC : Code → List (List DC) → Option (AC × List (List DC))
  | .skip, s => some (.sk, s)
  | .ret, s => some (.rt, s)
  | .exit id, s => some (.ex id, s)
  | .region _ ops false, s => if dstB N ops then some (.rg (opsOf P ops), s) else none
  | .region _ ops true, s => match s with
    | x :: s => if dstB N ops && drawB ops (opsOf P ops) x then some (.dr (opsOf P ops) x, s) else none
    | [] => none
  | .seq a b, s => match cC a s with
    | some (a', s1) => match cC b s1 with
      | some (b', s2) => some (.sq a' b', s2)
      | none => none
    | none => none
  | .cond c a b, s => match cO c with
    | some c' => match cC a s with
      | some (a', s1) => match cC b s1 with
        | some (b', s2) => some (.cd c' a' b', s2)
        | none => none
      | none => none
    | none => none
  | .block id a, s => match cC a s with
    | some (a', s1) => some (.bl id a', s1)
    | none => none
  | .loop a, s => match cC a s with
    | some (a', s1) => some (.lp a', s1)
    | none => none
  | _, _ => none
end
def cF (P : Program) (f : Nat) (s : List (List DC)) : Option AFn :=
  match P.funcs[f]? with
  | some fn => match fn.body with
    | some c => match fn.results.toList.mapM (cRV P), cC P fn.ntmps c s with
      | some rs, some (ac, _) => if fn.name == "runtime.NumGoroutine" then none else some ⟨fn.ntmps, rs, ac⟩
      | _, _ => none
    | none => none
  | none => none
end Go.AM
/- The abstract machine's run is the model's. -/
set_option linter.unusedVariables false
namespace Go.AM
open Go
section
variable {P : Program} {N : Nat}
theorem isOps_of {ops : Array Oper} (hd : dstB N ops = true) : IsOps P N ops (opsOf P ops) := by
  refine ⟨fun j o x ho hx => ?_, by simp [opsOf], fun j o op ho hop => ?_⟩
  · unfold dstB at hd
    rw [List.all_eq_true] at hd
    have := hd o (by rw [Array.mem_toList_iff]; exact Array.mem_of_getElem? ho)
    rw [hx] at this
    simpa using this
  · unfold opsOf at hop
    rw [List.getElem?_map, Array.getElem?_toList, ho] at hop
    simp only [Option.map_some, Option.some.injEq] at hop
    unfold IsOp
    subst hop
    split
    · rename_i x hx; exact .inl hx
    · exact .inr rfl
/-- The theorem on regions whose order is open. -/
def DrawOk (P : Program) : Prop := ∀ (N : Nat) (cal : Cal), CalOk P cal → ∀ (id : Nat) (ops : Array Oper) (l : List AM.Op) (s : List DC), IsOps P N ops l → drawB ops l s = true → ∀ (e : Env) (H : Hp) (K : Ex → Env → Hp → R) (r : AV × Hp),
  opsDr cal l s e H (K .n) = some r → S P N (.region id ops true) e H fun x e' H' => K x e' H' = some r
/-- The tables are the program's code; what is taken over is so. -/
def GOk (P : Program) (G : Nat → Option AFn) : Prop := ∀ f fn, G f = some fn → ∃ s, cF P f s = some fn
def OvOk (P : Program) (ov : Nat → Option (List AV → Hp → R)) : Prop := ∀ f φ, ov f = some φ → ∀ args H v H1, φ args H = some (v, H1) → CT P f args H fun v' H' => v' = v ∧ H' = H1
variable {G : Nat → Option AFn} {ov : Nat → Option (List AV → Hp → R)}
theorem run_ok (hdr : DrawOk P) (hG : GOk P G) (hov : OvOk P ov) : ∀ (n : Nat) (N : Nat) (c : Code) (s s' : List (List DC)) (ac : AC) (e : Env) (H : Hp) (K : Ex → Env → Hp → R) (r : AV × Hp),
    cC P N c s = some (ac, s') → run G ov n ac e H K = some r → S P N c e H fun x e' H' => K x e' H' = some r := by
  intro n
  induction n using Nat.strongRecOn with
  | _ n ihs =>
  cases n with
  | zero => intro N c s s' ac e H K r hc hr; simp [run] at hr
  | succ n =>
    have ih := ihs n (Nat.lt_succ_self _)
    have hcal : CalOk P (calG G ov (run G ov n)) := by
      intro f args H K r hr
      unfold calG at hr
      split at hr
      · rename_i φ hφ
        split at hr
        · rename_i v H1 hv
          exact (hov f φ hφ args H v H1 hv).mono fun v' H' ⟨h1, h2⟩ => by subst h1; subst h2; exact hr
        · cases hr
      · split at hr
        · rename_i fn hfn
          split at hr
          · rename_i hlen
            obtain ⟨s, hs⟩ := hG f fn hfn
            unfold cF at hs
            split at hs
            · rename_i fn' hf
              split at hs
              · rename_i c hb
                split at hs
                · rename_i rs ac s' h1 h2
                  split at hs
                  · cases hs
                  · rename_i hname
                    cases hs
                    refine CT.of_body hf hb (by simpa using hname) h1 hlen ?_
                    refine (ih _ c s s' ac _ H _ r h2 hr).mono fun x e' H' hk => ?_
                    cases x with
                    | x id => simp [kCl] at hk
                    | n =>
                      simp only [kCl] at hk
                      split at hk
                      · rename_i v hv; exact ⟨.inl rfl, v, hv, hk⟩
                      · cases hk
                    | r =>
                      simp only [kCl] at hk
                      split at hk
                      · rename_i v hv; exact ⟨.inr rfl, v, hv, hk⟩
                      · cases hk
                · cases hs
              · cases hs
            · cases hs
          · cases hr
        · cases hr
    intro N c s s' ac e H K r hc hr
    cases c with
    | skip => simp only [cC, Option.some.injEq, Prod.mk.injEq] at hc; obtain ⟨rfl, rfl⟩ := hc; exact S.skip hr
    | ret => simp only [cC, Option.some.injEq, Prod.mk.injEq] at hc; obtain ⟨rfl, rfl⟩ := hc; exact S.ret hr
    | exit id => simp only [cC, Option.some.injEq, Prod.mk.injEq] at hc; obtain ⟨rfl, rfl⟩ := hc; exact S.exit hr
    | region id ops draw =>
      cases draw with
      | false =>
        simp only [cC] at hc
        split at hc
        · rename_i hd
          cases hc
          exact S.region hcal (isOps_of hd) hr
        · cases hc
      | true =>
        simp only [cC] at hc
        split at hc
        · split at hc
          · rename_i hd
            cases hc
            simp only [Bool.and_eq_true] at hd
            exact hdr N _ hcal id ops _ _ (isOps_of hd.1) hd.2 e H K r hr
          · cases hc
        · cases hc
    | seq x y =>
      simp only [cC] at hc
      split at hc
      · rename_i a' s1 ha
        split at hc
        · rename_i b' s2 hb
          cases hc
          simp only [run] at hr
          refine S.seq ((ih N x s s1 a' e H _ r ha hr).mono fun z e' H' hk => ?_)
          cases z with
          | n => exact ih N y s1 s' b' e' H' K r hb hk
          | x id => exact hk
          | r => exact hk
        · cases hc
      · cases hc
    | cond c x y =>
      simp only [cC] at hc
      split at hc
      · rename_i c' hcc
        split at hc
        · rename_i a' s1 ha
          split at hc
          · rename_i b' s2 hb
            cases hc
            simp only [run, runCd] at hr
            split at hr
            · rename_i t ht
              refine S.cond hcc ht ?_
              cases t with
              | true => exact ih N x s s1 a' e H K r ha hr
              | false => exact ih N y s1 s' b' e H K r hb hr
            · cases hr
          · cases hc
        · cases hc
      · cases hc
    | block id x =>
      simp only [cC] at hc
      split at hc
      · rename_i a' s1 ha
        cases hc
        simp only [run] at hr
        refine S.block ((ih N x s s' a' e H _ r ha hr).mono fun z e' H' hk => ?_)
        cases z with
        | n => exact hk
        | x i =>
          simp only [kBl] at hk
          simp only [Ex.blk]
          split
          · rename_i hi; rw [if_pos hi] at hk; exact hk
          · rename_i hi; rw [if_neg hi] at hk; exact hk
        | r => exact hk
      · cases hc
    | loop x =>
      simp only [cC] at hc
      split at hc
      · rename_i a' s1 ha
        cases hc
        refine S.loop (fun m e' H' => m ≤ n + 1 ∧ run G ov m (.lp a') e' H' K = some r) (n0 := n + 1) ⟨Nat.le_refl _, hr⟩ fun m e' H' ⟨hm, hrm⟩ => ?_
        cases m with
        | zero => simp [run] at hrm
        | succ m =>
          simp only [run] at hrm
          refine (ihs m (by omega) N x s s' a' e' H' _ r ha hrm).mono fun z e2 H2 hk => ?_
          cases z with
          | n => exact ⟨m, by omega, by omega, hk⟩
          | x id => exact hk
          | r => exact hk
      · cases hc
    | _ => simp [cC] at hc
end
end Go.AM
/- What an operation looks at. -/
set_option linter.unusedVariables false
set_option linter.unusedSimpArgs false
namespace Go.AM
open Go
section
variable {e e' : Env}
def Agree (l : List Nat) (e e' : Env) : Prop := ∀ t, t ∈ l → e.g t = e'.g t
theorem Agree.left {l r : List Nat} (h : Agree (l ++ r) e e') : Agree l e e' := fun t ht => h t (List.mem_append_left _ ht)
theorem Agree.right {l r : List Nat} (h : Agree (l ++ r) e e') : Agree r e e' := fun t ht => h t (List.mem_append_right _ ht)
theorem Agree.ev {x : O} (h : Agree x.uses e e') : ev e x = ev e' x := by
  cases x with
  | t n => exact h n (by simp [O.uses])
  | c v => rfl
theorem Agree.evs : ∀ {l : List O}, Agree (usesL l) e e' → l.map (AM.ev e) = l.map (AM.ev e')
  | [], _ => rfl
  | x :: l, h => by
    simp only [usesL] at h
    simp only [List.map_cons, h.left.ev, h.right.evs]
theorem Agree.lay : ∀ {l : List (Nat × Nat × O)}, Agree (usesP l) e e' → ∀ cs, lay e cs l = lay e' cs l
  | [], _, cs => rfl
  | (off, n, x) :: l, h, cs => by
    simp only [usesP] at h
    simp only [AM.lay, h.left.ev, h.right.lay]
theorem Agree.bnds {lo hi mx : Option O} (h : Agree (usesO lo ++ (usesO hi ++ usesO mx)) e e') (n c : Nat) : bnds e n c lo hi mx = bnds e' n c lo hi mx := by
  have h1 := h.left
  have h2 := h.right.left
  have h3 := h.right.right
  unfold AM.bnds
  cases lo <;> cases hi <;> cases mx <;> simp only [usesO] at h1 h2 h3 <;> (try have g1 := h1.ev) <;> (try have g2 := h2.ev) <;> (try have g3 := h3.ev) <;> simp only [*]
theorem Agree.fold {f : Int → Int → Int} : ∀ {l : List O}, Agree (usesL l) e e' → ∀ k a, foldInt f e k a l = foldInt f e' k a l
  | [], _, k, a => rfl
  | x :: l, h, k, a => by
    simp only [usesL] at h
    simp only [foldInt, h.left.ev]
    split
    · split
      · exact h.right.fold _ _
      · rfl
    · rfl
theorem PO.congr {o : PO} (h : Agree o.uses e e') : o.run e = o.run e' := by
  cases o <;> simp only [PO.uses] at h <;> simp only [PO.run, rPk, rNc, rEq, rUn, rCi, rFa, rFd, rIa, rIA, rIx, rIg, rSl, rSs, rEx, rLn, rLs, rCp]
  case mv => rw [h.ev]
  case pk => rw [h.left.ev, h.right.left.ev, h.right.right.ev]
  case nc => rw [h.ev]
  case bo => rw [h.left.ev, h.right.ev]
  case eq => rw [h.left.ev, h.right.ev]
  case un => rw [h.ev]
  case ci => rw [h.ev]
  case fa => rw [h.ev]
  case fd => rw [h.ev]
  case ia => rw [h.left.ev, h.right.ev]
  case iA => rw [h.left.ev, h.right.ev]
  case ix => rw [h.left.ev, h.right.ev]
  case ig => rw [h.left.ev, h.right.ev]
  case mf => rw [h.left.evs, h.right.evs]
  case sl => rw [h.left.ev]; simp only [h.right.bnds]
  case ss => rw [h.left.ev]; simp only [Agree.bnds (mx := none) (show Agree (_ ++ (_ ++ usesO none)) e e' by simpa [usesO] using h.right)]
  case bd => rw [h.lay]
  case ex => rw [h.ev]
  case ln => rw [h.ev]
  case ls => rw [h.ev]
  case cp => rw [h.ev]
  case mn l =>
    cases l with
    | nil => rfl
    | cons x l =>
      simp only [usesL] at h
      simp only [rMn, h.left.ev, h.right.fold]
  case mx l =>
    cases l with
    | nil => rfl
    | cons x l =>
      simp only [usesL] at h
      simp only [rMx, h.left.ev, h.right.fold]
theorem RO.congr {o : RO} (h : Agree o.uses e e') (H : Hp) : o.run e H = o.run e' H := by
  cases o <;> simp only [RO.uses] at h <;> simp only [RO.run]
  case lk => rw [h.left.ev, h.right.ev]
  all_goals rw [h.ev]
theorem NO.congr {o : NO} (h : Agree o.uses e e') : o.run e = o.run e' := by
  cases o <;> simp only [NO.uses] at h <;> simp only [NO.run]
  case bx => rw [h.ev]
  case bs => rw [h.lay]
  case ms => rw [h.left.ev, h.right.ev]
  case sb => rw [h.ev]
theorem EO.congr {o : EO} (h : Agree o.uses e e') (H : Hp) : o.run e H = o.run e' H := by
  cases o <;> simp only [EO.uses] at h <;> simp only [EO.run]
  case st => rw [h.left.ev, h.right.ev]
  case ap => rw [h.left.ev, h.right.ev]
  case az => rw [h.left.ev, h.right.ev]
  case cy => rw [h.left.ev, h.right.ev]
  case cl => rw [h.ev]
  case mk => rw [h.ev]
  case rg => rw [h.ev]
  case mu => rw [h.left.ev, h.right.left.ev, h.right.right.ev]
  case dl => rw [h.left.ev, h.right.ev]
theorem EO.congrC {o : EO} (h : Agree o.uses e e') : o.callee e = o.callee e' := by
  cases o <;> simp only [EO.uses] at h <;> simp only [EO.callee]
  case ca => rw [h.evs]
  case cv => rw [h.left.ev, h.right.evs]
/-- A read in a heap that has more. -/
def Sub (H H' : Hp) : Prop := ∀ a o, H.get a = some o → H'.get a = some o
theorem RO.more {o : RO} {H H' : Hp} (hs : Sub H H') {v : AV} (h : o.run e H = some v) : o.run e H' = some v := by
  have hc : ∀ a l, H.cells a = some l → H'.cells a = some l := fun a l hl => by
    obtain ⟨wr, hg⟩ := hp_cells hl
    unfold Hp.cells; rw [hs _ _ hg]
  have hm : ∀ a l, H.map a = some l → H'.map a = some l := fun a l hl => by
    obtain ⟨n, hg⟩ := hp_map hl
    unfold Hp.map; rw [hs _ _ hg]
  cases o <;> simp only [RO.run] at h ⊢
  case ld x =>
    split at h
    · split at h
      · rename_i l hl; rw [hc _ _ hl]; exact h
      · cases h
    · cases h
  case la x n =>
    split at h
    · split at h
      · rename_i l hl; rw [hc _ _ hl]; exact h
      · cases h
    · cases h
  case lk t z x k ok =>
    split at h
    · cases h
    · rename_i l hl
      split at hl
      · rename_i hb; cases hl; simp only [hb]; exact h
      · rename_i r hb; simp only [hb, hm _ _ hl]; exact h
      · cases hl
  case lm x =>
    split at h
    · exact h
    · split at h
      · rename_i l hl; rw [hm _ _ hl]; exact h
      · cases h
    · cases h
  case bs x =>
    split at h
    · exact h
    · split at h
      · rename_i hz
        rw [if_pos hz]
        split at h
        · rename_i l hl; rw [hc _ _ hl]; exact h
        · cases h
      · cases h
    · cases h
  case en x =>
    split at h
    · split at h
      · rename_i hg
        rw [hs _ _ hg]
        split at h
        · rename_i hg2; simp only [hs _ _ hg2]; exact h
        · cases h
      · cases h
    · cases h
end
end Go.AM
/- One operation, by its value. -/
set_option linter.unusedVariables false
set_option linter.unusedSimpArgs false
namespace Go.AM
open Go
section
variable {P : Program} {Pr : Nat → Prop} {w0 w w' : World} {μ μ' : Mu} {N nx : Nat} {e e' : Env} {a : Act} {H H' : Hp}
theorem vr_placed {v : AV} {cv : Value} {b : Nat} (h : VR μ v cv) (hb : blk v = some b) : μ b ≠ none := by
  cases v <;> simp only [blk, Option.some.injEq] at hb <;> first | (cases hb; done) | skip
  · subst hb; obtain ⟨bi, h1, _⟩ := vr_p h; rw [h1]; simp
  · subst hb; obtain ⟨ad, c', _, bi, h1, _⟩ := vr_sl h; rw [h1]; simp
  · subst hb; obtain ⟨bi, h1, _⟩ := vr_m h; rw [h1]; simp
theorem AO.msk_wr {o : AO} (h : o.msk = true) : o.wr = true := by
  match o, h with
  | .c .w _, _ => rfl
  | .mp _ _, _ => rfl
theorem AO.msk_it {o : AO} (h : o.msk = true) : ∀ m n l c, o ≠ .it (some m) n l c := by
  intro m n l c e; subst e; cases h
/-- A read in a heap that lacks what is not placed. -/
theorem RO.less {o : RO} (R : Rel Pr w0 μ H'.get nx w) (hk : ∀ b, μ b ≠ none → H'.get b = H.get b) {v : AV} (h : o.run e H = some v)
    (hp : ∀ x : O, (o = .ld x ∨ (∃ n, o = .la x n) ∨ (∃ t z k ok, o = .lk t z x k ok) ∨ o = .lm x ∨ o = .bs x ∨ o = .en x) → ∀ b, blk (ev e x) = some b → μ b ≠ none) : o.run e H' = some v := by
  have hc : ∀ b, μ b ≠ none → H'.cells b = H.cells b := fun b hb => by unfold Hp.cells; rw [hk b hb]
  have hm : ∀ b, μ b ≠ none → H'.map b = H.map b := fun b hb => by unfold Hp.map; rw [hk b hb]
  cases o <;> simp only [RO.run] at h ⊢
  case ld x =>
    split at h
    · rename_i b o hb; rw [hc b (hp x (.inl rfl) b (by rw [hb]; rfl))]; exact h
    · cases h
  case la x n =>
    split at h
    · rename_i b o hb; rw [hc b (hp x (.inr (.inl ⟨_, rfl⟩)) b (by rw [hb]; rfl))]; exact h
    · cases h
  case lk t z x k ok =>
    split at h
    · cases h
    · rename_i l hl
      split at hl
      · rename_i hb; cases hl; simp only [hb]; exact h
      · rename_i r hb; simp only [hb, hm r (hp x (.inr (.inr (.inl ⟨_, _, _, _, rfl⟩))) r (by rw [hb]; rfl)), hl]; exact h
      · cases hl
  case lm x =>
    split at h
    · exact h
    · rename_i r hb; rw [hm r (hp x (.inr (.inr (.inr (.inl rfl)))) r (by rw [hb]; rfl))]; exact h
    · cases h
  case bs x =>
    split at h
    · exact h
    · rename_i b z o n c hb; rw [hc b (hp x (.inr (.inr (.inr (.inr (.inl rfl))))) b (by rw [hb]; rfl))]; exact h
    · cases h
  case en x =>
    split at h
    · rename_i b hb
      have hb' := hp x (.inr (.inr (.inr (.inr (.inr rfl))))) b (by rw [hb]; rfl)
      rw [hk b hb']
      split at h
      · rename_i m n l k' v' hg
        have hmp : μ m ≠ none := by
          obtain ⟨bi, h1, h2⟩ := R.obj b _ (by rw [hk b hb']; exact hg)
          obtain ⟨_, mb, _, _, _, _, h3, _⟩ := h2
          rw [h3]; simp
        simp only [hk m hmp]
        exact h
      · cases h
    · cases h
/-- Behind an operation, by its value. -/
def BehV (Pr : Nat → Prop) (w0 : World) (μ : Mu) (H : Hp) (o : Oper) (a : Act) (K : AV → Hp → Prop) (a' : Act) (w' : World) : Prop :=
  ∃ v H' μ' cv, K v H' ∧ a' = a.put o.dst cv ∧ ((∃ d, o.dst = some d) → VR μ' v cv) ∧ Eu H.nx μ μ' ∧ RK H H' ∧ Rel Pr w0 μ' H'.get H'.nx w'
def opV1 (cal : Cal) (o : AM.Op) (e : Env) (H : Hp) (K : AV → Hp → R) : R := match o with
  | .p _ o => match o.run e with | some v => K v H | none => none
  | .r _ o => match o.run e H with | some v => K v H | none => none
  | .n _ o => match o.run e with | some (ob, f) => K (f H.nx) (H.new ob) | none => none
  | .e _ o => match o.callee e with
    | some (f, args) => cal f args H K
    | none => match o.run e H with
      | some (v, H1) => K v H1
      | none => none
  | .g _ _ _ => none
def opV (cal : Cal) (o : AM.Op) (e : Env) (H : Hp) (K : AV → Hp → R) : R := match o with
  | .g t w o => if wanted e t w then opV1 cal o e H K else K (.tp []) H
  | o => opV1 cal o e H K
theorem op1_eq {cal : Cal} {o : AM.Op} {K : Env → Hp → R} : op1 cal o e H K = opV1 cal o e H fun v H1 => K (putO e o.dst v) H1 := by
  cases o <;> rfl
theorem op0_eq {cal : Cal} {o : AM.Op} {K : Env → Hp → R} : op0 cal o e H K = opV cal o e H fun v H1 => K (putO e o.dst v) H1 := by
  cases o with
  | g t w o => simp only [op0, opV, op1_eq]; rfl
  | _ => rfl
theorem opV1_congr {cal : Cal} {o : AM.Op} {K : AV → Hp → R} (h : Agree o.uses e e') : opV1 cal o e H K = opV1 cal o e' H K := by
  cases o <;> simp only [Op.uses] at h <;> simp only [opV1]
  · rw [PO.congr h]
  · rw [RO.congr h]
  · rw [NO.congr h]
  · rw [EO.congrC h, EO.congr h]
theorem opV_congr {cal : Cal} {o : AM.Op} {K : AV → Hp → R} (h : Agree o.uses e e') : opV cal o e H K = opV cal o e' H K := by
  cases o with
  | g t w o =>
    have ht : e.g t = e'.g t := h t (by simp [Op.uses])
    have hw : wanted e t w = wanted e' t w := by unfold wanted; rw [ht]
    simp only [opV, hw]
    rw [opV1_congr (e := e) (e' := e')]
    intro s hs
    exact h s (by simp only [Op.uses]; exact List.mem_cons_of_mem _ hs)
  | p d o => exact opV1_congr (cal := cal) (o := .p d o) h
  | r d o => exact opV1_congr (cal := cal) (o := .r d o) h
  | n d o => exact opV1_congr (cal := cal) (o := .n d o) h
  | e d o => exact opV1_congr (cal := cal) (o := .e d o) h
theorem valueV_ok {o : Oper} {d : Option Nat} {v : AV} (hd : o.dst = d) {K : AV → Hp → Prop} (hK : K v H') (Q : Exit → Act → World → Prop)
    {nxt : Next} (hrun : (execOp a.eval o).run P w = .ok nxt w') (hv : NV μ' d v nxt) (hx : Eu H.nx μ μ') (hk : RK H H') (R : Rel Pr w0 μ' H'.get H'.nx w') : o.wp P a w (BehV Pr w0 μ H o a K) Q := by
  unfold Oper.wp
  rw [hrun]
  cases nxt with
  | value cv =>
    rw [Oper.upon_value]
    exact ⟨v, H', μ', cv, hK, rfl, fun _ => hv, hx, hk, R⟩
  | skip =>
    have hdn : d = none := hv
    rw [Oper.upon_skip]
    exact ⟨v, H', μ', undef, hK, rfl, fun hd' => absurd hd' (by rw [hd, hdn]; rintro ⟨d', h⟩; cases h), hx, hk, R⟩
  | _ => exact hv.elim
theorem opV1_ok {cal : Cal} (hcal : CalOk P cal) {o : Oper} {op : AM.Op} (hc : cOp P o = some op) {K : AV → Hp → R} {r : AV × Hp} (hr : opV1 cal op e H K = some r)
    (hE : ER μ N e a.tmps) (R : Rel Pr w0 μ H.get H.nx w) (Q : Exit → Act → World → Prop) : o.wp P a w (BehV Pr w0 μ H o a fun v H' => K v H' = some r) Q := by
  cases op with
  | p d po =>
    simp only [opV1] at hr
    split at hr
    · rename_i v hv
      obtain ⟨h1, cv, h2, h3⟩ := p_ok (P := P) hc hE hv
      exact valueV_ok (μ' := μ) (d := some d) h1 hr Q (h3 w) h2 (Eu.refl _ _) (RK.refl _) R
    · cases hr
  | r d ro =>
    simp only [opV1] at hr
    split at hr
    · rename_i v hv
      obtain ⟨h1, cv, h2, h3⟩ := r_ok (P := P) R hc hE hv
      exact valueV_ok (μ' := μ) (d := some d) h1 hr Q h3 h2 (Eu.refl _ _) (RK.refl _) R
    · cases hr
  | n d no =>
    simp only [opV1] at hr
    split at hr
    · rename_i ob f hv
      obtain ⟨h1, cv, w', bi, h2, _, h3⟩ := n_ok (P := P) R hc hE hv
      have hμ : μ H.nx = none := R.new _ (Nat.le_refl _)
      obtain ⟨h4, h5⟩ := h3 H.nx hμ
      have hni : ∀ m n l c, ob = .it (some m) n l c → H.get m ≠ none := by
        intro m n l c he
        cases no <;> simp only [NO.run] at hv <;> repeat' (first | (cases hv; done) | (cases hv; cases he; done) | split at hv)
      have hwr : ob.wr = true := by
        cases no <;> simp only [NO.run] at hv <;> repeat' (first | (cases hv; done) | (cases hv; rfl) | split at hv)
      exact valueV_ok (μ' := μ.put H.nx bi) (d := some d) h1 hr Q h2 h4 (Eu.put hμ (Nat.le_refl _)) (RK.new (get_nx R) hwr hni) (h5 _ _ (Nat.le_succ _) (Nat.lt_succ_self _) (Hp.get_new _ _))
    · cases hr
  | e d eo =>
    simp only [opV1] at hr
    split at hr
    · rename_i f args hce
      have hct := hcal _ _ _ _ _ hr
      obtain ⟨h1, cargs, h2, h3⟩ := call_ok (P := P) hc hE hce hct.1
      unfold Oper.wp
      rw [h3, Oper.upon_enter]
      refine (hct.2 Pr w0 μ w cargs R h2).mono fun en w' ⟨cv, v, H', μ', q1, q2, q3, q4, q5, q6⟩ => ?_
      subst q1
      exact ⟨v, H', μ', cv, q2, rfl, fun _ => q3, q4, q5, q6⟩
    · split at hr
      · rename_i v H1 hv
        obtain ⟨h1, h2, nxt, w', μ', h3, h4, h5, h6⟩ := e_ok (P := P) R hc hE hv
        exact valueV_ok (μ' := μ') (d := d) h1 hr Q h3 (h1 ▸ h4) h5 h2 h6
      · cases hr
  | g t b o => simp [opV1] at hr
theorem opV1_bad {cal : Cal} {o : Oper} {K : AV → Hp → R} {r : AV × Hp} : ¬ opV1 cal (badOp o) e H K = some r := by
  unfold badOp
  cases o.dst <;> simp [opV1, PO.run, EO.run, EO.callee]
theorem opV_ok {cal : Cal} (hcal : CalOk P cal) {ops : Array Oper} {o : Oper} {op : AM.Op} (hc : IsOp P ops o op) (hNs : ∀ (j : Nat) (o' : Oper) (x : Nat), ops[j]? = some o' → o'.dst = some x → x < N)
    {K : AV → Hp → R} {r : AV × Hp} (hr : opV cal op e H K = some r)
    (hE : ER μ N e a.tmps) (R : Rel Pr w0 μ H.get H.nx w) (Q : Exit → Act → World → Prop) : WpG P ops o a w (BehV Pr w0 μ H o a fun v H' => K v H' = some r) Q := by
  rcases hc with hc | rfl
  · unfold cOpG at hc
    split at hc
    · rename_i hg
      have hr' : opV1 cal op e H K = some r := by
        cases op <;> first | exact hr | exact absurd rfl ((cOp_dst hc).2 _ _ _)
      unfold WpG Region.wanted
      rw [hg]
      simp only [if_true]
      exact opV1_ok hcal hc hr' hE R Q
    · rename_i j b op' hg hc'
      split at hc
      · rename_i t ht
        cases hc
        have htN : t < N := by
          obtain ⟨o', h1, h2⟩ := Option.bind_eq_some_iff.1 ht
          exact hNs j o' t h1 h2
        unfold WpG Region.wanted
        rw [hg]
        simp only [opV] at hr
        rw [wanted_ok (ops := ops) (j := j) hE ht htN] at hr
        split at hr
        · rename_i hw
          rw [if_pos hw]
          exact opV1_ok hcal hc' hr hE R Q
        · rename_i hw
          rw [if_neg hw]
          exact ⟨_, _, μ, undef, hr, rfl, fun _ => vr_undef, Eu.refl _ _, RK.refl _, R⟩
      · cases hc
    · cases hc
  · exfalso
    have : opV cal (badOp o) e H K = opV1 cal (badOp o) e H K := by
      generalize hb : badOp o = b
      cases b <;> first | rfl | exact absurd hb (badOp_nog _ _ _)
    rw [this] at hr
    exact opV1_bad hr
/-- The value of an operation that changes nothing that is there; what it makes lies at its number. -/
def NVal (o : AM.Op) (e : Env) (F : Hp) (x : AV) : Prop := match o with
  | .p _ o => o.run e = some x
  | .r _ o => o.run e F = some x
  | .n _ o => ∃ ob f b, o.run e = some (ob, f) ∧ x = f b ∧ F.get b = some ob ∧ b < F.nx
  | _ => False
def NValG (o : AM.Op) (e : Env) (F : Hp) (x : AV) : Prop := match o with
  | .g t w o => if wanted e t w then NVal o e F x else x = .tp []
  | o => NVal o e F x
theorem NO.blk {no : NO} {ob : AO} {f : Nat → AV} (h : no.run e = some (ob, f)) (b : Nat) : AM.blk (f b) = some b ∧ ob.msk = true := by
  cases no <;> simp only [NO.run] at h <;> repeat' (first | (cases h; done) | (cases h; exact ⟨rfl, rfl⟩) | split at h)
end
end Go.AM
/- Regions whose order is open: what comes before what. -/
set_option linter.unusedVariables false
set_option linter.unusedSimpArgs false
namespace Go.AM
open Go
theorem ancOf_bit {acc : List Nat} {k : Nat} : ∀ {es : List Edge}, (ancOf acc es).testBit k = true → ∃ e, e ∈ es ∧ Region.binds .any e = true ∧ (e.on = k ∨ (acc.getD e.on 0).testBit k = true)
  | [], h => by simp [ancOf] at h
  | e :: l, h => by
    simp only [ancOf] at h
    split at h
    · rename_i hb
      rw [Nat.testBit_or, Nat.testBit_or, Bool.or_eq_true, Bool.or_eq_true] at h
      rcases h with (h | h) | h
      · refine ⟨e, by simp, hb, .inl ?_⟩
        rw [Nat.testBit_two_pow] at h
        simpa using h
      · exact ⟨e, by simp, hb, .inr h⟩
      · obtain ⟨e', h1, h2⟩ := ancOf_bit h
        exact ⟨e', by simp [h1], h2⟩
    · obtain ⟨e', h1, h2⟩ := ancOf_bit h
      exact ⟨e', by simp [h1], h2⟩
def AncP (L : List Oper) (acc : List Nat) : Prop := ∀ i k, (acc.getD i 0).testBit k = true → ∃ o e, L[i]? = some o ∧ e ∈ o.after.toList ∧ Region.binds .any e = true ∧ (e.on = k ∨ (acc.getD e.on 0).testBit k = true)
theorem getD_append {acc : List Nat} {x j k : Nat} (h : (acc.getD j 0).testBit k = true) : ((acc ++ [x]).getD j 0).testBit k = true := by
  have hj : j < acc.length := by
    rcases Nat.lt_or_ge j acc.length with h1 | h1
    · exact h1
    · rw [List.getD_eq_getElem?_getD, List.getElem?_eq_none h1] at h; simp at h
  rw [List.getD_eq_getElem?_getD, List.getElem?_append_left hj, ← List.getD_eq_getElem?_getD]; exact h
theorem ancs_ok : ∀ (L2 L1 : List Oper) (acc : List Nat), acc.length = L1.length → AncP (L1 ++ L2) acc → AncP (L1 ++ L2) (ancs L2 acc)
  | [], L1, acc, _, h => h
  | o :: L2, L1, acc, hl, h => by
    simp only [ancs]
    have := ancs_ok L2 (L1 ++ [o]) (acc ++ [ancOf acc o.after.toList]) (by simp [hl]) ?_
    · simpa using this
    · intro i k hb
      by_cases hi : i < acc.length
      · have hb' : (acc.getD i 0).testBit k = true := by
          rw [List.getD_eq_getElem?_getD, List.getElem?_append_left hi, ← List.getD_eq_getElem?_getD] at hb; exact hb
        obtain ⟨o', e, h1, h2, h3, h4⟩ := h i k hb'
        exact ⟨o', e, by simpa using h1, h2, h3, h4.imp id getD_append⟩
      · by_cases hi2 : i = acc.length
        · subst hi2
          rw [List.getD_eq_getElem?_getD, List.getElem?_append_right (Nat.le_refl _)] at hb
          simp only [Nat.sub_self, List.getElem?_cons_zero, Option.getD_some] at hb
          obtain ⟨e, h2, h3, h4⟩ := ancOf_bit hb
          refine ⟨o, e, ?_, h2, h3, h4.imp id getD_append⟩
          rw [hl]; simp
        · rw [List.getD_eq_getElem?_getD, List.getElem?_eq_none (by simp; omega)] at hb; simp at hb
theorem back_ok : ∀ {L : List Oper} {k : Nat}, backB L k = true → ∀ {i : Nat} {o : Oper} {e : Edge}, L[i]? = some o → e ∈ o.after.toList → Region.binds .any e = true → e.on < k + i
  | [], k, _, i, o, e, ho, _, _ => by simp at ho
  | x :: L, k, h, i, o, e, ho, he, hb => by
    simp only [backB, Bool.and_eq_true] at h
    cases i with
    | zero =>
      simp at ho; subst ho
      have := List.all_eq_true.1 h.1 e he
      rw [hb] at this
      simpa using this
    | succ i =>
      have := back_ok h.2 (i := i) (by simpa using ho) he hb
      omega
section
variable {ops : Array Oper}
/-- What has run is closed. -/
structure Clo (ops : Array Oper) (listed : Array Bool) : Prop where
  sz : listed.size = ops.size
  cl : ∀ i o, ops[i]? = some o → listed.getD i false = true → ∀ e ∈ o.after.toList, Region.binds .any e = true → listed.getD e.on false = true
theorem ready_iff {listed : Array Bool} {i : Nat} : i ∈ Region.ready .any ops listed ↔ ∃ o, ops[i]? = some o ∧ listed.getD i true = false ∧ ∀ e ∈ o.after.toList, Region.binds .any e = true → listed.getD e.on false = true := by
  unfold Region.ready
  simp only [List.mem_filter, List.mem_range, Bool.and_eq_true, Bool.not_eq_true']
  constructor
  · rintro ⟨h1, h2, h3⟩
    refine ⟨ops[i], by simp [h1], h2, fun e he hb => ?_⟩
    rw [Array.getElem?_eq_getElem h1] at h3
    simp only [Option.map_some, Option.getD_some] at h3
    have h4 := (Array.all_eq_true_iff_forall_mem.1 h3) e (Array.mem_toList_iff.1 he)
    rw [hb] at h4
    simpa using h4
  · rintro ⟨o, h1, h2, h3⟩
    have hi : i < ops.size := (Array.getElem?_eq_some_iff.1 h1).1
    refine ⟨hi, h2, ?_⟩
    rw [h1]
    simp only [Option.map_some, Option.getD_some]
    rw [Array.all_eq_true_iff_forall_mem]
    intro e he
    cases hb : Region.binds .any e with
    | false => rfl
    | true => simpa using h3 e (Array.mem_toList_iff.2 he) hb
theorem anc_listed {listed : Array Bool} (hc : Clo ops listed) (hback : backB ops.toList 0 = true) {i : Nat} (hi : listed.getD i false = true ∨ i ∈ Region.ready .any ops listed) {k : Nat} (hk : ((ancs ops.toList []).getD i 0).testBit k = true) :
    listed.getD k false = true := by
  have hP : AncP ops.toList (ancs ops.toList []) := ancs_ok ops.toList [] [] rfl (fun i k h => by simp at h)
  induction i using Nat.strongRecOn generalizing k with
  | _ i ih =>
    obtain ⟨o, e, h1, h2, h3, h4⟩ := hP i k hk
    have h1' : ops[i]? = some o := by rw [← Array.getElem?_toList]; exact h1
    have hon : listed.getD e.on false = true := by
      rcases hi with hi | hi
      · exact hc.cl i o h1' hi e h2 h3
      · obtain ⟨o', q1, q2, q3⟩ := ready_iff.1 hi
        rw [h1'] at q1; cases q1
        exact q3 e h2 h3
    rcases h4 with rfl | h4
    · exact hon
    · have hlt := back_ok hback h1 h2 h3
      exact ih e.on (by omega) (.inl hon) h4
theorem Clo.step {listed : Array Bool} (hc : Clo ops listed) {i : Nat} (hi : i ∈ Region.ready .any ops listed) : Clo ops (listed.setIfInBounds i true) := by
  obtain ⟨o, h1, h2, h3⟩ := ready_iff.1 hi
  have hlt : i < listed.size := by rw [hc.sz]; exact (Array.getElem?_eq_some_iff.1 h1).1
  have mono : ∀ j, listed.getD j false = true → (listed.setIfInBounds i true).getD j false = true := by
    intro j hj
    rw [Array.getD_eq_getD_getElem?] at hj ⊢
    rw [Array.getElem?_setIfInBounds]
    split
    · simp [hlt]
    · exact hj
  refine ⟨by simp [hc.sz], fun j o' ho hj e he hb => ?_⟩
  by_cases c : j = i
  · subst c
    rw [h1] at ho; cases ho
    exact mono _ (h3 e he hb)
  · refine mono _ (hc.cl j o' ho ?_ e he hb)
    rw [Array.getD_eq_getD_getElem?, Array.getElem?_setIfInBounds, if_neg (fun h => c h.symm)] at hj
    rw [Array.getD_eq_getD_getElem?]; exact hj
theorem ready_ne {listed : Array Bool} (hc : Clo ops listed) (hback : backB ops.toList 0 = true) {i : Nat} (hi : i < ops.size) (hl : listed.getD i false = false) : Region.ready .any ops listed ≠ [] := by
  induction i using Nat.strongRecOn with
  | _ i ih =>
    have hg : listed.getD i true = false := by
      rw [Array.getD_eq_getD_getElem?] at hl ⊢
      rw [Array.getElem?_eq_getElem (by rw [hc.sz]; exact hi)] at hl ⊢
      exact hl
    by_cases hr : i ∈ Region.ready .any ops listed
    · intro h; rw [h] at hr; cases hr
    · have : ∃ e, e ∈ (ops[i]).after.toList ∧ Region.binds .any e = true ∧ listed.getD e.on false = false := by
        refine Classical.byContradiction fun hn => hr (ready_iff.2 ⟨ops[i], by simp [hi], hg, fun e he hb => ?_⟩)
        cases hx : listed.getD e.on false with
        | true => rfl
        | false => exact absurd ⟨e, he, hb, hx⟩ hn
      obtain ⟨e, he, hb, hx⟩ := this
      have hlt := back_ok (o := ops[i]) (i := i) hback (by rw [Array.getElem?_toList]; simp [hi]) he hb
      exact ih e.on (by omega) (by omega) hx
end
end Go.AM
/- Regions whose order is open: where the model and the abstract machine stand. -/
set_option linter.unusedVariables false
set_option linter.unusedSimpArgs false
namespace Go.AM
open Go
def resetL (e0 : Env) : List Nat → Env → Env
  | [], e => e
  | t :: r, e => (resetL e0 r e).st t (e0.g t)
theorem resetL_g {e0 e : Env} {t : Nat} : ∀ {L : List Nat}, (resetL e0 L e).g t = if t ∈ L then e0.g t else e.g t
  | [] => by simp [resetL]
  | s :: L => by
    simp only [resetL]
    rw [Env.g_st, resetL_g]
    by_cases c : t = s
    · subst c; simp
    · simp [c]
def killL : List Nat → Hp → Hp
  | [], H => H
  | a :: r, H => (killL r H).kill a
theorem killL_get {H : Hp} {b : Nat} : ∀ {L : List Nat}, (killL L H).get b = if b ∈ L then none else H.get b
  | [] => by simp [killL]
  | a :: L => by
    simp only [killL]
    rw [Hp.get_kill, killL_get]
    by_cases c : b = a
    · subst c; simp
    · simp [c]
theorem killL_nx {H : Hp} : ∀ {L : List Nat}, (killL L H).nx = H.nx
  | [] => rfl
  | a :: L => by simp only [killL, Hp.nx_kill]; exact killL_nx
/-- Its turn has come on the abstract machine, not yet in the model. -/
def isP (listed : Array Bool) (D i : Nat) : Bool := D.testBit i && !listed.getD i true
def pendD (l : List AM.Op) (listed : Array Bool) (D : Nat) : List Nat := (List.range l.length).filterMap fun i => if isP listed D i then (l[i]?).bind AM.Op.dst else none
def pendU (l : List AM.Op) (listed : Array Bool) (D : Nat) (eD : Env) : List Nat :=
  (List.range l.length).filterMap fun i => if isP listed D i then (match l[i]? with | some op => if op.kind == 2 then (op.dst).bind (fun d => blk (eD.g d)) else none | none => none) else none
theorem mem_pendD {l : List AM.Op} {listed : Array Bool} {D t : Nat} : t ∈ pendD l listed D ↔ ∃ i op, l[i]? = some op ∧ isP listed D i = true ∧ op.dst = some t := by
  unfold pendD
  simp only [List.mem_filterMap, List.mem_range]
  constructor
  · rintro ⟨i, hi, h⟩
    split at h
    · rename_i hp
      obtain ⟨op, h1, h2⟩ := Option.bind_eq_some_iff.1 h
      exact ⟨i, op, h1, hp, h2⟩
    · cases h
  · rintro ⟨i, op, h1, h2, h3⟩
    refine ⟨i, (List.getElem?_eq_some_iff.1 h1).1, ?_⟩
    rw [if_pos h2, h1]; exact h3
theorem mem_pendU {l : List AM.Op} {listed : Array Bool} {D b : Nat} {eD : Env} : b ∈ pendU l listed D eD ↔ ∃ i op d, l[i]? = some op ∧ isP listed D i = true ∧ op.kind = 2 ∧ op.dst = some d ∧ blk (eD.g d) = some b := by
  unfold pendU
  simp only [List.mem_filterMap, List.mem_range]
  constructor
  · rintro ⟨i, hi, h⟩
    split at h
    · rename_i hp
      split at h
      · rename_i op hop
        split at h
        · rename_i hk
          obtain ⟨d, h1, h2⟩ := Option.bind_eq_some_iff.1 h
          exact ⟨i, op, d, hop, hp, by simpa using hk, h1, h2⟩
        · cases h
      · cases h
    · cases h
  · rintro ⟨i, op, d, h1, h2, h3, h4, h5⟩
    refine ⟨i, (List.getElem?_eq_some_iff.1 h1).1, ?_⟩
    rw [if_pos h2, h1]
    simp [h3, h4, h5]
section
variable (P : Program) (Pr : Nat → Prop) (w0 : World) (n0 N : Nat) (ops : Array Oper) (l : List AM.Op) (e0 : Env)
/-- What operation i is to see. -/
def Sees (i : Nat) (eD : Env) (u : List Nat) (e' : Env) : Prop := ∀ t, t ∈ u →
  ((∃ k op, l[k]? = some op ∧ op.dst = some t ∧ ((ancs ops.toList []).getD k 0).testBit i = true) → e'.g t = e0.g t) ∧
  ((¬ ∃ k op, l[k]? = some op ∧ op.dst = some t ∧ ((ancs ops.toList []).getD k 0).testBit i = true) → e'.g t = eD.g t)
/-- No effect that has run had it in sight. -/
def Fresh (D i : Nat) : Prop := ∀ j op, l[j]? = some op → op.kind = 3 → D.testBit j = true → ((ancs ops.toList []).getD j 0).testBit i = false
structure Inv (listed : Array Bool) (D : Nat) (eD : Env) (F : Hp) (μ : Mu) (a : Act) (w : World) : Prop where
  clo : Clo ops listed
  sub : ∀ i, listed.getD i false = true → D.testBit i = true
  dcl : ∀ i k, D.testBit i = true → ((ancs ops.toList []).getD i 0).testBit k = true → D.testBit k = true
  dlt : ∀ i, D.testBit i = true → i < l.length
  unw : ∀ t, (∀ (i : Nat) (op : AM.Op), l[i]? = some op → D.testBit i = true → op.dst ≠ some t) → eD.g t = e0.g t
  er : ER μ N (resetL e0 (pendD l listed D) eD) a.tmps
  pend : ∀ (i : Nat) (op : AM.Op), l[i]? = some op → isP listed D i = true → ∃ d, op.kind < 3 ∧ op.dst = some d ∧ ∀ e', Sees ops l e0 i eD op.uses e' → NValG op e' F (eD.g d)
  free : ∀ b, b ∈ pendU l listed D eD → μ b = none ∧ b < F.nx
  dis : ∀ (i j : Nat) (op op' : AM.Op) (d d' b : Nat), l[i]? = some op → l[j]? = some op' → isP listed D i = true → isP listed D j = true → op.kind = 2 → op'.kind = 2 → op.dst = some d → op'.dst = some d' → blk (eD.g d) = some b → blk (eD.g d') = some b → i = j
  rel : Rel Pr w0 μ (killL (pendU l listed D eD) F).get F.nx w
  low : ∀ b o, F.get b = some o → b < F.nx
  df : a.defers = []
  old : ∀ b, b ∈ pendU l listed D eD → n0 ≤ b
  nx0 : n0 ≤ F.nx
  itl : ∀ c m n left cur, F.get c = some (.it (some m) n left cur) → m < F.nx
  noit : ∀ (i : Nat) (op : AM.Op) (d b : Nat), l[i]? = some op → D.testBit i = true → op.kind = 2 → op.dst = some d → blk (eD.g d) = some b → Fresh ops l D i →
    ∀ c m n left cur, F.get c = some (.it (some m) n left cur) → m ≠ b
  alone : ∀ (i : Nat) (op : AM.Op) (d b : Nat), l[i]? = some op → listed.getD i false = true → op.kind = 2 → op.dst = some d → blk (eD.g d) = some b → Fresh ops l D i →
    ∃ bi ob, μ b = some bi ∧ F.get b = some ob ∧ ∀ c o bc, c ≠ b → (killL (pendU l listed D eD) F).get c = some o → μ c = some bc → bc.cb ≠ bi.cb
end
theorem dist_ok : ∀ {l : List AM.Op} {seen : List Nat}, distB l seen = true → (∀ (i : Nat) (op : AM.Op) (d : Nat), l[i]? = some op → op.dst = some d → d ∉ seen) ∧ (∀ (i j : Nat) (op op' : AM.Op) (d : Nat), l[i]? = some op → l[j]? = some op' → op.dst = some d → op'.dst = some d → i = j)
  | [], seen, _ => ⟨fun i op d h => by simp at h, fun i j op op' d h => by simp at h⟩
  | o :: l, seen, h => by
    simp only [distB] at h
    have key : ∃ seen', distB l seen' = true ∧ (∀ x, x ∈ seen → x ∈ seen') ∧ (∀ d, o.dst = some d → d ∉ seen ∧ d ∈ seen') := by
      split at h
      · rename_i d hd
        simp only [Bool.and_eq_true, Bool.not_eq_true'] at h
        refine ⟨d :: seen, h.2, fun x hx => List.mem_cons_of_mem _ hx, fun d' hd' => ?_⟩
        rw [hd] at hd'; cases hd'
        exact ⟨by simpa using h.1, List.mem_cons_self⟩
      · rename_i hd
        exact ⟨seen, h, fun x hx => hx, fun d' hd' => by rw [hd] at hd'; cases hd'⟩
    obtain ⟨seen', h1, h2, h3⟩ := key
    obtain ⟨q1, q2⟩ := dist_ok h1
    refine ⟨fun i op d ho hd => ?_, fun i j op op' d hi hj hd hd' => ?_⟩
    · cases i with
      | zero => simp at ho; subst ho; exact (h3 d hd).1
      | succ i => exact fun hm => q1 i op d (by simpa using ho) hd (h2 d hm)
    · cases i with
      | zero =>
        cases j with
        | zero => rfl
        | succ j =>
          simp at hi; subst hi
          exact absurd (h3 d hd).2 (q1 j op' d (by simpa using hj) hd')
      | succ i =>
        cases j with
        | zero =>
          simp at hj; subst hj
          exact absurd (h3 d hd').2 (q1 i op d (by simpa using hi) hd)
        | succ j => rw [q2 i j op op' d (by simpa using hi) (by simpa using hj) hd hd']
theorem ord_ok {an : List Nat} {l : List AM.Op} (h : ordB an l = true) {i k : Nat} {x y : AM.Op} {d : Nat} (hi : l[i]? = some x) (hk : l[k]? = some y) (hd : y.dst = some d) (hu : d ∈ x.uses) :
    i ≠ k ∧ ((an.getD i 0).testBit k = true ∨ (an.getD k 0).testBit i = true) := by
  unfold ordB at h
  rw [List.all_eq_true] at h
  have h1 := h (x, i) (by rw [List.mem_zipIdx_iff_getElem?]; exact hi)
  rw [List.all_eq_true] at h1
  have h2 := h1 (y, k) (by rw [List.mem_zipIdx_iff_getElem?]; exact hk)
  simp only [hd] at h2
  rw [if_pos (by simpa using hu)] at h2
  simp only [Bool.and_eq_true, bne_iff_ne, Bool.or_eq_true] at h2
  exact h2
end Go.AM
/- Regions whose order is open: the abstract machine goes ahead. -/
set_option linter.unusedVariables false
set_option linter.unusedSimpArgs false
namespace Go.AM
open Go
theorem Sub.new {F : Hp} (hlow : ∀ b o, F.get b = some o → b < F.nx) (ob : AO) : Sub F (F.new ob) := fun b o h => by
  rw [Hp.get_new, if_neg (by have := hlow b o h; omega)]; exact h
theorem NVal.more {o : AM.Op} {e : Env} {F F' : Hp} {x : AV} (h : NVal o e F x) (hs : Sub F F') (hn : F.nx ≤ F'.nx) : NVal o e F' x := by
  cases o <;> simp only [NVal] at h ⊢
  · exact h
  · exact RO.more hs h
  · obtain ⟨ob, f, b, h1, h2, h3, h4⟩ := h
    exact ⟨ob, f, b, h1, h2, hs _ _ h3, by omega⟩
theorem NValG.more {o : AM.Op} {e : Env} {F F' : Hp} {x : AV} (h : NValG o e F x) (hs : Sub F F') (hn : F.nx ≤ F'.nx) : NValG o e F' x := by
  cases o with
  | g t w o =>
    simp only [NValG] at h ⊢
    split
    · rename_i hw; rw [if_pos hw] at h; exact h.more hs hn
    · rename_i hw; rw [if_neg hw] at h; exact h
  | p d o => exact NVal.more (o := .p d o) (e := e) (x := x) h hs hn
  | r d o => exact NVal.more (o := .r d o) (e := e) (x := x) h hs hn
  | n d o => exact NVal.more (o := .n d o) (e := e) (x := x) h hs hn
  | e d o => exact NVal.more (o := .e d o) (e := e) (x := x) h hs hn
theorem NVal.congr {o : AM.Op} {e e' : Env} {F : Hp} {x : AV} (h : NVal o e F x) (ha : Agree o.uses e e') : NVal o e' F x := by
  cases o <;> simp only [NVal, Op.uses] at h ha ⊢
  · rw [← PO.congr ha]; exact h
  · rw [← RO.congr ha]; exact h
  · rw [← NO.congr ha]; exact h
theorem NValG.congr {o : AM.Op} {e e' : Env} {F : Hp} {x : AV} (h : NValG o e F x) (ha : Agree o.uses e e') : NValG o e' F x := by
  cases o with
  | g t w o =>
    have ht : e.g t = e'.g t := ha t (by simp [Op.uses])
    have hw : wanted e t w = wanted e' t w := by unfold wanted; rw [ht]
    simp only [NValG, hw] at h ⊢
    split
    · rename_i hw; rw [if_pos hw] at h; exact h.congr fun s hs => ha s (by simp only [Op.uses]; exact List.mem_cons_of_mem _ hs)
    · rename_i hw; rw [if_neg hw] at h; exact h
  | p d o => exact NVal.congr (o := .p d o) (F := F) (x := x) h ha
  | r d o => exact NVal.congr (o := .r d o) (F := F) (x := x) h ha
  | n d o => exact NVal.congr (o := .n d o) (F := F) (x := x) h ha
  | e d o => exact NVal.congr (o := .e d o) (F := F) (x := x) h ha
/-- What an operation that changes nothing does. -/
theorem opV_n {cal : Cal} {op : AM.Op} {e : Env} {F : Hp} {KV : AV → Hp → R} {r : AV × Hp} (hk : op.kind < 3) (hlow : ∀ b o, F.get b = some o → b < F.nx) (h : opV cal op e F KV = some r) :
    ∃ v F' d, op.dst = some d ∧ KV v F' = some r ∧ NValG op e F' v ∧ ((F' = F ∧ (op.kind = 2 → blk v = none)) ∨ (∃ ob, F' = F.new ob ∧ op.kind = 2 ∧ blk v = some F.nx ∧ ob.msk = true)) := by
  have one : ∀ op : AM.Op, op.kind < 3 → (∀ t b x, op ≠ .g t b x) → opV1 cal op e F KV = some r →
      ∃ v F' d, op.dst = some d ∧ KV v F' = some r ∧ NVal op e F' v ∧ ((F' = F ∧ (op.kind = 2 → blk v = none)) ∨ (∃ ob, F' = F.new ob ∧ op.kind = 2 ∧ blk v = some F.nx ∧ ob.msk = true)) := by
    intro op hk hng h
    cases op with
    | p d po =>
      simp only [opV1] at h
      split at h
      · rename_i v hv; exact ⟨v, F, d, rfl, h, hv, .inl ⟨rfl, fun hk => by simp [Op.kind] at hk⟩⟩
      · cases h
    | r d ro =>
      simp only [opV1] at h
      split at h
      · rename_i v hv; exact ⟨v, F, d, rfl, h, hv, .inl ⟨rfl, fun hk => by simp [Op.kind] at hk⟩⟩
      · cases h
    | n d no =>
      simp only [opV1] at h
      split at h
      · rename_i ob f hv
        exact ⟨f F.nx, F.new ob, d, rfl, h, ⟨ob, f, F.nx, hv, rfl, by rw [Hp.get_new, if_pos rfl], Nat.lt_succ_self _⟩, .inr ⟨ob, rfl, rfl, (NO.blk hv F.nx).1, (NO.blk hv F.nx).2⟩⟩
      · cases h
    | e d eo => simp [Op.kind] at hk
    | g t b o => exact absurd rfl (hng _ _ _)
  cases op with
  | g t w o =>
    have hko : o.kind = (AM.Op.g t w o).kind ∨ (∃ t b x, o = .g t b x) := by cases o <;> first | exact .inl rfl | exact .inr ⟨_, _, _, rfl⟩
    simp only [opV] at h
    rcases hko with hko | ⟨t', b', x', rfl⟩
    · have hng : ∀ t b x, o ≠ .g t b x := fun t b x he => by subst he; simp [Op.kind] at hk
      split at h
      · rename_i hw
        obtain ⟨v, F', d, h1, h2, h3, h4⟩ := one o (by rw [hko]; exact hk) hng h
        rw [hko] at h4
        exact ⟨v, F', d, h1, h2, by simp only [NValG, if_pos hw]; exact h3, h4⟩
      · rename_i hw
        have hd : ∃ d, o.dst = some d := by cases o <;> first | exact ⟨_, rfl⟩ | simp [Op.kind] at hk
        obtain ⟨d, hd⟩ := hd
        exact ⟨.tp [], F, d, hd, h, by simp only [NValG, if_neg hw], .inl ⟨rfl, fun _ => rfl⟩⟩
    · simp [Op.kind] at hk
  | p d o => exact one (.p d o) hk (by intro _ _ _ h; cases h) h
  | r d o => exact one (.r d o) hk (by intro _ _ _ h; cases h) h
  | n d o => exact one (.n d o) hk (by intro _ _ _ h; cases h) h
  | e d o => simp [Op.kind] at hk
theorem bit_add {D i j : Nat} : (D ||| 2 ^ i).testBit j = (D.testBit j || decide (i = j)) := by
  rw [Nat.testBit_or, Nat.testBit_two_pow]
section
variable {P : Program} {Pr : Nat → Prop} {w0 : World} {n0 N : Nat} {ops : Array Oper} {l : List AM.Op} {e0 : Env} {listed : Array Bool} {D : Nat} {eD : Env} {F : Hp} {μ : Mu} {a : Act} {w : World}
theorem Inv.adv {cal : Cal} (I : Inv Pr w0 n0 N ops l e0 listed D eD F μ a w) (hdist : distB l [] = true) (hord : ordB (ancs ops.toList []) l = true) (hlen : l.length = ops.size) {i : Nat} {op : AM.Op} (hop : l[i]? = some op) (hD : D.testBit i = false) (hk : op.kind < 3)
    (ha : ∀ k, ((ancs ops.toList []).getD i 0).testBit k = true → D.testBit k = true) {KV : AV → Hp → R} {r : AV × Hp} (hr : opV cal op eD F KV = some r) :
    ∃ v F', KV v F' = some r ∧ RK F F' ∧ Inv Pr w0 n0 N ops l e0 listed (D ||| 2 ^ i) (putO eD op.dst v) F' μ a w := by
  obtain ⟨v, F', d, hd, hK, hnv, hF⟩ := opV_n hk I.low hr
  refine ⟨v, F', hK, ?_, ?_⟩
  · rcases hF with ⟨rfl, _⟩ | ⟨ob, rfl, _, _, hw⟩
    · exact RK.refl _
    · exact RK.new (by cases hx : F.get F.nx with | none => rfl | some o => exact absurd (I.low _ _ hx) (Nat.lt_irrefl _)) (AO.msk_wr hw) (fun m n l c e => absurd e (AO.msk_it hw m n l c))
  rw [hd]
  show Inv Pr w0 n0 N ops l e0 listed (D ||| 2 ^ i) (eD.st d v) F' μ a w
  have hil : i < l.length := (List.getElem?_eq_some_iff.1 hop).1
  have hs : Sub F F' := by
    rcases hF with ⟨rfl, _⟩ | ⟨ob, rfl, _⟩
    · exact fun _ _ h => h
    · exact Sub.new I.low ob
  have hn : F.nx ≤ F'.nx := by
    rcases hF with ⟨rfl, _⟩ | ⟨ob, rfl, _⟩
    · exact Nat.le_refl _
    · exact Nat.le_succ _
  obtain ⟨_, hdis⟩ := dist_ok hdist
  have hli : listed.getD i false = false := by
    cases h : listed.getD i false with
    | false => rfl
    | true => rw [I.sub i h] at hD; cases hD
  have hlt : listed.getD i true = false := by
    have hsz : i < listed.size := by rw [I.clo.sz, ← hlen]; exact hil
    rw [Array.getD_eq_getD_getElem?, Array.getElem?_eq_getElem hsz] at hli ⊢
    exact hli
  have hP : ∀ j, isP listed (D ||| 2 ^ i) j = (isP listed D j || decide (i = j)) := by
    intro j
    unfold isP
    rw [bit_add]
    by_cases c : i = j
    · subst c; simp [hlt]
    · simp [c]
  have hPi : isP listed D i = false := by unfold isP; rw [hD]; rfl
  have hne : ∀ j op' d', l[j]? = some op' → op'.dst = some d' → j ≠ i → d' ≠ d := by
    intro j op' d' h1 h2 h3 h4
    subst h4
    exact h3 (hdis j i op' op d' h1 hop h2 hd)
  have hg : ∀ t, t ≠ d → (eD.st d v).g t = eD.g t := fun t ht => by rw [Env.g_st, if_neg ht]
  have hgd : (eD.st d v).g d = v := by rw [Env.g_st, if_pos rfl]
  have hunw : ∀ t, (∀ j op', l[j]? = some op' → D.testBit j = true → op'.dst ≠ some t) → eD.g t = e0.g t := I.unw
  have hd0 : eD.g d = e0.g d := hunw d fun j op' h1 h2 h3 => by
    have := hdis j i op' op d h1 hop h3 hd
    subst this
    rw [hD] at h2; cases h2
  have hU : ∀ b, b ∈ pendU l listed (D ||| 2 ^ i) (eD.st d v) ↔ b ∈ pendU l listed D eD ∨ (op.kind = 2 ∧ blk v = some b) := by
    intro b
    rw [mem_pendU, mem_pendU]
    constructor
    · rintro ⟨j, op', d', h1, h2, h3, h4, h5⟩
      by_cases c : j = i
      · subst c
        rw [hop] at h1; cases h1
        rw [hd] at h4; cases h4
        rw [hgd] at h5
        exact .inr ⟨h3, h5⟩
      · rw [hP, Bool.or_eq_true] at h2
        have h2' := h2.resolve_right (by simpa using fun h => c h.symm)
        rw [hg _ (hne j op' d' h1 h4 c)] at h5
        exact .inl ⟨j, op', d', h1, h2', h3, h4, h5⟩
    · rintro (⟨j, op', d', h1, h2, h3, h4, h5⟩ | ⟨h1, h2⟩)
      · have c : j ≠ i := fun c => by subst c; rw [hPi] at h2; cases h2
        exact ⟨j, op', d', h1, by rw [hP, h2]; rfl, h3, h4, by rw [hg _ (hne j op' d' h1 h4 c)]; exact h5⟩
      · exact ⟨i, op, d, hop, by rw [hP]; simp, h1, hd, by rw [hgd]; exact h2⟩
  have hfun : (killL (pendU l listed (D ||| 2 ^ i) (eD.st d v)) F').get = (killL (pendU l listed D eD) F).get := by
    funext b
    rw [killL_get, killL_get]
    rcases hF with ⟨rfl, h2⟩ | ⟨ob, rfl, h2, h3, _⟩
    · have : b ∈ pendU l listed (D ||| 2 ^ i) (eD.st d v) ↔ b ∈ pendU l listed D eD := by
        rw [hU]
        constructor
        · rintro (h | ⟨h4, h5⟩)
          · exact h
          · rw [h2 h4] at h5; cases h5
        · exact .inl
      simp only [this]
    · by_cases c : b = F.nx
      · subst c
        rw [if_pos ((hU _).2 (.inr ⟨h2, h3⟩))]
        split
        · rfl
        · cases hx : F.get F.nx with
          | none => rfl
          | some o => exact absurd (I.low _ _ hx) (Nat.lt_irrefl _)
      · have : b ∈ pendU l listed (D ||| 2 ^ i) (eD.st d v) ↔ b ∈ pendU l listed D eD := by
          rw [hU]
          constructor
          · rintro (h | ⟨h4, h5⟩)
            · exact h
            · rw [h3] at h5; cases h5; exact absurd rfl c
          · exact .inl
        simp only [this]
        rw [Hp.get_new, if_neg c]
  have hitF : ∀ {c m n left cur}, F'.get c = some (.it (some m) n left cur) → F.get c = some (.it (some m) n left cur) := by
    intro c m n left cur hc
    rcases hF with ⟨rfl, _⟩ | ⟨ob, rfl, _, _, hw⟩
    · exact hc
    · rw [Hp.get_new] at hc
      split at hc
      · cases hc; exact absurd rfl (AO.msk_it hw m n left cur)
      · exact hc
  have hold : ∀ b, b ∈ pendU l listed (D ||| 2 ^ i) (eD.st d v) → n0 ≤ b := by
    intro b hb
    rcases (hU b).1 hb with h | ⟨h1, h2⟩
    · exact I.old b h
    · rcases hF with ⟨rfl, h3⟩ | ⟨ob, rfl, h3, h4, _⟩
      · rw [h3 h1] at h2; cases h2
      · rw [h4] at h2; cases h2; exact I.nx0
  refine ⟨I.clo, fun j hj => by rw [bit_add, I.sub j hj]; rfl, fun j k hj hk' => ?_, fun j hj => ?_, fun t ht => ?_, ⟨I.er.1, fun t => ?_⟩, fun j op' hj hp => ?_, fun b hb => ?_, fun j k op1 op2 d1 d2 b h1 h2 h3 h4 h5 h6 h7 h8 h9 h10 => ?_, ?_, fun b o hb => ?_, I.df, hold, Nat.le_trans I.nx0 hn, fun c m n left cur hc => Nat.lt_of_lt_of_le (I.itl c m n left cur (hitF hc)) hn, fun j op' d' b h1 h2 h3 h4 h5 h6 c m n left cur hc => ?noit, fun j op' d' b h1 h2 h3 h4 h5 h6 => ?_⟩
  case noit =>
    have hc' := hitF hc
    by_cases c1 : j = i
    · subst c1
      rw [hop] at h1; cases h1
      rw [hd] at h4; cases h4
      rw [hgd] at h5
      rcases hF with ⟨rfl, h7⟩ | ⟨ob, rfl, _, h7, _⟩
      · rw [h7 h3] at h5; cases h5
      · rw [h7] at h5; cases h5
        have := I.itl c m n left cur hc'
        omega
    · rw [hg _ (hne j op' d' h1 h4 c1)] at h5
      rw [bit_add, Bool.or_eq_true] at h2
      have h2' := h2.resolve_right (by simpa using fun h => c1 h.symm)
      exact I.noit j op' d' b h1 h2' h3 h4 h5 (fun k opk m1 m2 m3 => h6 k opk m1 m2 (by rw [bit_add, m3]; rfl)) c m n left cur hc'
  · rw [bit_add, Bool.or_eq_true] at hj ⊢
    rcases hj with hj | hj
    · exact .inl (I.dcl j k hj hk')
    · have : i = j := by simpa using hj
      subst this
      exact .inl (ha k hk')
  · rw [bit_add, Bool.or_eq_true] at hj
    rcases hj with hj | hj
    · exact I.dlt j hj
    · have : i = j := by simpa using hj
      subst this; exact hil
  · have htd : t ≠ d := fun c => ht i op hop (by rw [bit_add]; simp) (by rw [hd, c])
    rw [hg t htd]
    exact hunw t fun j op' h1 h2 => ht j op' h1 (by rw [bit_add, h2]; rfl)
  · have h0 := I.er.2 t
    rw [resetL_g] at h0 ⊢
    by_cases c : t = d
    · subst c
      have hm : t ∈ pendD l listed (D ||| 2 ^ i) := mem_pendD.2 ⟨i, op, hop, by rw [hP]; simp, hd⟩
      rw [if_pos hm]
      split at h0
      · exact h0
      · rw [hd0] at h0; exact h0
    · have : t ∈ pendD l listed (D ||| 2 ^ i) ↔ t ∈ pendD l listed D := by
        rw [mem_pendD, mem_pendD]
        constructor
        · rintro ⟨j, op', h1, h2, h3⟩
          refine ⟨j, op', h1, ?_, h3⟩
          rw [hP, Bool.or_eq_true] at h2
          refine h2.resolve_right fun h => ?_
          have : i = j := by simpa using h
          subst this
          rw [hop] at h1; cases h1
          rw [hd] at h3; cases h3; exact c rfl
        · rintro ⟨j, op', h1, h2, h3⟩
          exact ⟨j, op', h1, by rw [hP, h2]; rfl, h3⟩
      simp only [this]
      rw [hg t c]
      exact h0
  · by_cases c : j = i
    · subst c
      rw [hop] at hj; cases hj
      refine ⟨d, hk, hd, fun e' he' => ?_⟩
      rw [hgd]
      refine hnv.congr fun t ht => ?_
      have htd : t ≠ d := fun c => by
        subst c
        exact (ord_ok hord hop hop hd ht).1 rfl
      obtain ⟨s1, s2⟩ := he' t ht
      by_cases hex : ∃ k op', l[k]? = some op' ∧ op'.dst = some t ∧ ((ancs ops.toList []).getD k 0).testBit j = true
      · rw [s1 hex]
        obtain ⟨k, op', q1, q2, q3⟩ := hex
        refine hunw t fun m opm m1 m2 m3 => ?_
        have := hdis m k opm op' t m1 q1 m3 q2
        subst this
        rw [I.dcl m j m2 q3] at hD; cases hD
      · rw [s2 hex, hg t htd]
    · rw [hP, Bool.or_eq_true] at hp
      have hp' := hp.resolve_right (by simpa using fun h => c h.symm)
      obtain ⟨d', p1, p2, p3⟩ := I.pend j op' hj hp'
      refine ⟨d', p1, p2, fun e' he' => ?_⟩
      rw [hg _ (hne j op' d' hj p2 c)]
      refine (p3 e' fun t ht => ?_).more hs hn
      obtain ⟨s1, s2⟩ := he' t ht
      refine ⟨s1, fun hn => ?_⟩
      rw [s2 hn]
      refine hg t fun htd => ?_
      subst htd
      have hDj : D.testBit j = true := by unfold isP at hp'; simp only [Bool.and_eq_true] at hp'; exact hp'.1
      rcases (ord_ok hord hj hop hd ht).2 with h | h
      · rw [I.dcl j i hDj h] at hD; cases hD
      · exact hn ⟨i, op, hop, hd, h⟩
  · rcases (hU b).1 hb with h | ⟨h1, h2⟩
    · obtain ⟨q1, q2⟩ := I.free b h
      exact ⟨q1, by omega⟩
    · rcases hF with ⟨rfl, h3⟩ | ⟨ob, rfl, h3, h4, _⟩
      · rw [h3 h1] at h2; cases h2
      · rw [h4] at h2; cases h2
        exact ⟨I.rel.new _ (Nat.le_refl _), Nat.lt_succ_self _⟩
  · by_cases c1 : j = i
    · by_cases c2 : k = i
      · rw [c1, c2]
      · exfalso
        subst c1
        rw [hop] at h1; cases h1
        rw [hd] at h7; cases h7
        rw [hgd] at h9
        rw [hP, Bool.or_eq_true] at h4
        have h4' := h4.resolve_right (by simpa using fun h => c2 h.symm)
        rw [hg _ (hne k op2 d2 h2 h8 c2)] at h10
        have := (I.free b (mem_pendU.2 ⟨k, op2, d2, h2, h4', h6, h8, h10⟩)).2
        rcases hF with ⟨_, h11⟩ | ⟨ob, _, _, h12, _⟩
        · rw [h11 h5] at h9; cases h9
        · rw [h12] at h9; cases h9; omega
    · rw [hP, Bool.or_eq_true] at h3
      have h3' := h3.resolve_right (by simpa using fun h => c1 h.symm)
      rw [hg _ (hne j op1 d1 h1 h7 c1)] at h9
      by_cases c2 : k = i
      · exfalso
        subst c2
        rw [hop] at h2; cases h2
        rw [hd] at h8; cases h8
        rw [hgd] at h10
        have := (I.free b (mem_pendU.2 ⟨j, op1, d1, h1, h3', h5, h7, h9⟩)).2
        rcases hF with ⟨_, h11⟩ | ⟨ob, _, _, h12, _⟩
        · rw [h11 h6] at h10; cases h10
        · rw [h12] at h10; cases h10; omega
      · rw [hP, Bool.or_eq_true] at h4
        have h4' := h4.resolve_right (by simpa using fun h => c2 h.symm)
        rw [hg _ (hne k op2 d2 h2 h8 c2)] at h10
        exact I.dis j k op1 op2 d1 d2 b h1 h2 h3' h4' h5 h6 h7 h8 h9 h10
  · rw [hfun]; exact I.rel.nxle hn
  · rcases hF with ⟨rfl, _⟩ | ⟨ob, rfl, _⟩
    · exact I.low b o hb
    · rw [Hp.get_new] at hb
      split at hb
      · rename_i c; subst c; exact Nat.lt_succ_self _
      · have := I.low b o hb
        show b < F.nx + 1
        omega
  · have c : j ≠ i := fun c => by subst c; rw [hli] at h2; cases h2
    rw [hg _ (hne j op' d' h1 h4 c)] at h5
    obtain ⟨bi, ob, q1, q2, q3⟩ := I.alone j op' d' b h1 h2 h3 h4 h5 fun k opk m1 m2 m3 => h6 k opk m1 m2 (by rw [bit_add, m3]; rfl)
    refine ⟨bi, ob, q1, hs _ _ q2, ?_⟩
    rw [hfun]
    exact q3
end
end Go.AM
/- Regions whose order is open: the model runs an operation that changes nothing. -/
set_option linter.unusedVariables false
set_option linter.unusedSimpArgs false
namespace Go.AM
open Go
section
variable {P : Program} {Pr : Nat → Prop} {w0 : World} {n0 N : Nat} {ops : Array Oper} {l : List AM.Op} {e0 e : Env} {listed : Array Bool} {D nx : Nat} {eD : Env} {F : Hp} {μ : Mu} {a : Act} {w : World} {h : Nat → Option AO}
theorem Rel.lt_heap (R : Rel Pr w0 μ h nx w) {b : Nat} {o : AO} {bi : BI} (hb : h b = some o) (hm : μ b = some bi) : bi.cb < w.heap.size := by
  obtain ⟨b2, hb2, ho2⟩ := R.obj b o hb
  rw [hm] at hb2; cases hb2
  have : ∃ ob, w.heap[bi.cb]? = some ob := by
    match o, ho2 with
    | .c wr l, ⟨C, el, lo, hi, k, _⟩ => exact ⟨_, k⟩
    | .mp n l, ⟨E, clk, k, _⟩ => exact ⟨_, k⟩
    | .it none n l c, ⟨_, _, _, _, k⟩ => exact ⟨_, k⟩
    | .it (some m) n l c, ⟨_, _, _, _, _, k, _⟩ => exact ⟨_, k⟩
  obtain ⟨ob, k⟩ := this
  exact (Array.getElem?_eq_some_iff.1 k).1
/-- The operand that a read looks through. -/
def RO.at : RO → O
  | .ld x | .la x _ | .lm x | .bs x | .en x => x
  | .lk _ _ x _ _ => x
theorem ro_vr {o : Oper} {d : Nat} {ro : RO} (hc : cOp P o = some (.r d ro)) (hE : ER μ N e a.tmps) : ∃ cv, VR μ (ev e ro.at) cv := by
  obtain ⟨dst, op, ty, pos, after, guard⟩ := o
  cases op with
  | load t x =>
    cases dst <;> simp only [cOp] at hc
    · cases hc
    · split at hc
      · cases hc; exact ⟨_, cO_ok hE (by assumption)⟩
      · cases hc; exact ⟨_, cO_ok hE (by assumption)⟩
      · cases hc
  | lookup t x k ok =>
    cases dst <;> simp only [cOp] at hc
    · cases hc
    · split at hc
      · rename_i kt vt x' k' hu hx hk
        split at hc
        · split at hc
          · cases hc; exact ⟨_, cO_ok hE hx⟩
          · cases hc
        · cases hc
      · cases hc
  | convert s t x =>
    cases dst <;> simp only [cOp] at hc
    · cases hc
    · split at hc
      · cases hc
      · cases hc
      · split at hc <;> cases hc
      · split at hc
        · cases hc; exact ⟨_, cO_ok hE (by assumption)⟩
        · cases hc
      · split at hc
        · split at hc <;> cases hc
        · cases hc
      · cases hc
  | entry x =>
    cases dst <;> simp only [cOp] at hc
    · cases hc
    · obtain ⟨x', hx', hh⟩ := Option.map_eq_some_iff.1 hc
      cases hh
      exact ⟨_, cO_ok hE hx'⟩
  | call c =>
    obtain ⟨callee, args, argTypes⟩ := c
    obtain ⟨args⟩ := args
    obtain ⟨argTypes⟩ := argTypes
    simp only [cOp] at hc
    repeat' (first | (cases hc; done) | (cases hc; exact ⟨_, cO_ok hE (by assumption)⟩) | (obtain ⟨_, _, hh⟩ := Option.map_eq_some_iff.1 hc; cases hh; done) | split at hc)
  | makeFunc fn x y => cases dst <;> cases fn <;> simp only [cOp] at hc <;> first | (cases hc; done) | (split at hc <;> cases hc)
  | next x s => cases dst <;> cases s <;> simp only [cOp] at hc <;> first | (cases hc; done) | (obtain ⟨_, _, hh⟩ := Option.map_eq_some_iff.1 hc; cases hh)
  | binOp op t x y u =>
    cases dst <;> simp only [cOp] at hc
    · cases hc
    · split at hc
      · obtain ⟨po, hh⟩ := cBin_p P _ _ _ _ _ hc
        cases hh
      · cases hc
  | _ =>
    exfalso
    cases dst <;> simp only [cOp] at hc <;> (try cases hc) <;>
      repeat' (first | (cases hc; done) | (obtain ⟨_, _, hh⟩ := Option.map_eq_some_iff.1 hc; cases hh; done) | split at hc)
/-- One of them, in the model: its value; what it makes lies at its number. -/
theorem nval_ok {U : List Nat} (R : Rel Pr w0 μ (killL U F).get F.nx w) (hU : ∀ b, b ∈ U → μ b = none) {o : Oper} {op : AM.Op} (hc : cOp P o = some op) (hE : ER μ N e a.tmps) {x : AV} (hv : NVal op e F x)
    (hfree : op.kind = 2 → ∀ b, blk x = some b → μ b = none) :
    ∃ cv w' μ' d, (execOp a.eval o).run P w = .ok (.value cv) w' ∧ o.dst = some d ∧ VR μ' x cv ∧
      ((op.kind ≠ 2 ∧ w' = w ∧ μ' = μ) ∨ (op.kind = 2 ∧ ∃ b ob bi, blk x = some b ∧ F.get b = some ob ∧ bi.cb = w.heap.size ∧ μ b = none ∧ μ' = μ.put b bi ∧ ∀ h', (∀ c, h' c = if c = b then some ob else (killL U F).get c) → Rel Pr w0 μ' h' F.nx w')) := by
  cases op with
  | p d po =>
    obtain ⟨h1, cv, h2, h3⟩ := p_ok (P := P) hc hE hv
    exact ⟨cv, w, μ, d, h3 w, h1, h2, .inl ⟨by simp [Op.kind], rfl, rfl⟩⟩
  | r d ro =>
    have hless : ro.run e (killL U F) = some x := by
      refine RO.less (H := F) R (fun b hb => ?_) hv fun y hy b hb => ?_
      · rw [killL_get, if_neg (fun h => hb (hU b h))]
      · have hyat : ro.at = y := by
          rcases hy with rfl | ⟨_, rfl⟩ | ⟨_, _, _, _, rfl⟩ | rfl | rfl | rfl <;> rfl
        obtain ⟨cv, hcv⟩ := ro_vr hc hE
        rw [hyat] at hcv
        exact vr_placed hcv hb
    obtain ⟨h1, cv, h2, h3⟩ := r_ok (P := P) R hc hE hless
    exact ⟨cv, w, μ, d, h3, h1, h2, .inl ⟨by simp [Op.kind], rfl, rfl⟩⟩
  | n d no =>
    obtain ⟨ob, f, b, q1, q2, q3, q4⟩ := hv
    obtain ⟨h1, cv, w', bi, h2, h3, h4⟩ := n_ok (P := P) R hc hE q1
    have hblk := (NO.blk q1 b).1
    subst q2
    have hb : μ b = none := hfree rfl b hblk
    obtain ⟨h5, h6⟩ := h4 b hb
    exact ⟨cv, w', μ.put b bi, d, h2, h1, h5, .inr ⟨rfl, b, ob, bi, hblk, q3, h3, hb, rfl, fun h' hh => h6 h' F.nx (Nat.le_refl _) q4 hh⟩⟩
  | e d eo => exact hv.elim
  | g t b o => exact hv.elim
theorem setD {i j : Nat} {d0 : Bool} (hi : i < listed.size) : (listed.setIfInBounds i true).getD j d0 = if i = j then true else listed.getD j d0 := by
  rw [Array.getD_eq_getD_getElem?, Array.getElem?_setIfInBounds, Array.getD_eq_getD_getElem?]
  by_cases c : i = j
  · subst c; simp [hi]
  · simp [c]
theorem Inv.run_n (I : Inv Pr w0 n0 N ops l e0 listed D eD F μ a w) (hback : backB ops.toList 0 = true) (hdist : distB l [] = true) (hord : ordB (ancs ops.toList []) l = true) (hl : IsOps P N ops l)
    {i : Nat} (hi : i ∈ Region.ready .any ops listed) (hp : isP listed D i = true) {o : Oper} (ho : ops[i]? = some o) {op : AM.Op} (hop : l[i]? = some op) (Q : Exit → Act → World → Prop) :
    WpG P ops o a w (fun a' w' => ∃ μ', Eu n0 μ μ' ∧ Inv Pr w0 n0 N ops l e0 (listed.setIfInBounds i true) D eD F μ' a' w') Q := by
  obtain ⟨d, hk, hd, hnv⟩ := I.pend i op hop hp
  have hDi : D.testBit i = true := by unfold isP at hp; simp only [Bool.and_eq_true] at hp; exact hp.1
  have hli : listed.getD i true = false := by unfold isP at hp; simp only [Bool.and_eq_true, Bool.not_eq_true'] at hp; exact hp.2
  have hsz : i < listed.size := by rw [I.clo.sz]; exact (Array.getElem?_eq_some_iff.1 ho).1
  have hlf : listed.getD i false = false := by
    rw [Array.getD_eq_getD_getElem?, Array.getElem?_eq_getElem hsz] at hli ⊢
    exact hli
  obtain ⟨_, hdis⟩ := dist_ok hdist
  have notP : ∀ k, listed.getD k false = true → isP listed D k = false := by
    intro k hk'
    unfold isP
    have hks : k < listed.size := by
      rcases Nat.lt_or_ge k listed.size with h | h
      · exact h
      · rw [Array.getD_eq_getD_getElem?, Array.getElem?_eq_none h] at hk'; cases hk'
    have : listed.getD k true = true := by
      rw [Array.getD_eq_getD_getElem?, Array.getElem?_eq_getElem hks] at hk' ⊢
      exact hk'
    rw [this]; simp
  have anc1 : ∀ k, ((ancs ops.toList []).getD i 0).testBit k = true → listed.getD k false = true := fun k hk' => anc_listed I.clo hback (.inr hi) hk'
  have anc2 : ∀ k, ((ancs ops.toList []).getD k 0).testBit i = true → listed.getD k false = false := fun k hk' => by
    cases h : listed.getD k false with
    | false => rfl
    | true => rw [anc_listed I.clo hback (.inl h) hk'] at hlf; cases hlf
  generalize hX : resetL e0 (pendD l listed D) eD = eX
  have hXg : ∀ t, eX.g t = if t ∈ pendD l listed D then e0.g t else eD.g t := fun t => by rw [← hX, resetL_g]
  have hER : ER μ N eX a.tmps := hX ▸ I.er
  have hsees : Sees ops l e0 i eD op.uses eX := by
    intro t ht
    rw [hXg]
    constructor
    · rintro ⟨k, opk, q1, q2, q3⟩
      split
      · rfl
      · rename_i hnm
        refine I.unw t fun m opm m1 m2 m3 => ?_
        have := hdis m k opm opk t m1 q1 m3 q2
        subst this
        refine hnm (mem_pendD.2 ⟨m, opm, m1, ?_, m3⟩)
        unfold isP
        have h1 := anc2 m q3
        have hms : m < listed.size := by rw [I.clo.sz, ← hl.2.1]; exact (List.getElem?_eq_some_iff.1 m1).1
        rw [m2]
        rw [Array.getD_eq_getD_getElem?, Array.getElem?_eq_getElem hms] at h1
        rw [Array.getD_eq_getD_getElem?, Array.getElem?_eq_getElem hms]
        simp only [Option.getD_some] at h1 ⊢
        rw [h1]; rfl
    · intro hne
      rw [if_neg]
      intro hm
      obtain ⟨k, opk, q1, q2, q3⟩ := mem_pendD.1 hm
      rcases (ord_ok hord hop q1 q3 ht).2 with h | h
      · rw [notP k (anc1 k h)] at q2; cases q2
      · exact hne ⟨k, opk, q1, q3, h⟩
  have hval := hnv eX hsees
  have hN : d < N := by
    rcases hl.2.2 i o op ho hop with h | h
    · unfold cOpG at h
      split at h
      · have := (cOp_dst h).1; rw [hd] at this; exact hl.1 i o d ho this.symm
      · rename_i j b op' hg hc'
        split at h
        · cases h
          have := (cOp_dst hc').1
          have hd' : op'.dst = some d := hd
          rw [hd'] at this
          exact hl.1 i o d ho this.symm
        · cases h
      · cases h
    · subst h
      unfold badOp at hd
      cases h2 : o.dst with
      | none => rw [h2] at hd; simp [Op.dst] at hd
      | some d' => rw [h2] at hd; simp [Op.dst] at hd; subst hd; exact hl.1 i o d' ho h2
  -- the end, for each way
  have hP : ∀ j, isP (listed.setIfInBounds i true) D j = (isP listed D j && decide (i ≠ j)) := by
    intro j
    unfold isP
    rw [setD hsz]
    by_cases c : i = j
    · subst c; simp
    · simp [c]
  have fin : ∀ (cv : Value) (w' : World) (μ' : Mu), o.dst = some d → VR μ' (eD.g d) cv → Eu n0 μ μ' →
      ((op.kind = 2 → blk (eD.g d) = none) ∧ w' = w ∧ μ' = μ ∨ (op.kind = 2 ∧ ∃ b ob bi, blk (eD.g d) = some b ∧ F.get b = some ob ∧ bi.cb = w.heap.size ∧ μ b = none ∧ μ' = μ.put b bi ∧ ∀ h', (∀ c, h' c = if c = b then some ob else (killL (pendU l listed D eD) F).get c) → Rel Pr w0 μ' h' F.nx w')) →
      ∃ μ', Eu n0 μ μ' ∧ Inv Pr w0 n0 N ops l e0 (listed.setIfInBounds i true) D eD F μ' (a.put o.dst cv) w' := by
    intro cv w' μ' hod hv hx hcase
    refine ⟨μ', hx, ?_⟩
    have hU : ∀ b, b ∈ pendU l (listed.setIfInBounds i true) D eD ↔ b ∈ pendU l listed D eD ∧ ¬ (op.kind = 2 ∧ blk (eD.g d) = some b) := by
      intro b
      rw [mem_pendU, mem_pendU]
      constructor
      · rintro ⟨j, op', d', h1, h2, h3, h4, h5⟩
        rw [hP, Bool.and_eq_true] at h2
        refine ⟨⟨j, op', d', h1, h2.1, h3, h4, h5⟩, fun ⟨h6, h7⟩ => ?_⟩
        have := I.dis i j op op' d d' b hop h1 hp h2.1 h6 h3 hd h4 h7 h5
        simp [this] at h2
      · rintro ⟨⟨j, op', d', h1, h2, h3, h4, h5⟩, h6⟩
        refine ⟨j, op', d', h1, ?_, h3, h4, h5⟩
        rw [hP, h2]
        simp only [Bool.true_and, decide_eq_true_eq]
        intro c
        subst c
        rw [hop] at h1; cases h1
        rw [hd] at h4; cases h4
        exact h6 ⟨h3, h5⟩
    have hD' : ∀ t, t ∈ pendD l (listed.setIfInBounds i true) D ↔ t ∈ pendD l listed D ∧ t ≠ d := by
      intro t
      rw [mem_pendD, mem_pendD]
      constructor
      · rintro ⟨j, op', h1, h2, h3⟩
        rw [hP, Bool.and_eq_true] at h2
        refine ⟨⟨j, op', h1, h2.1, h3⟩, fun c => ?_⟩
        subst c
        have := hdis i j op op' t hop h1 hd h3
        simp [this] at h2
      · rintro ⟨⟨j, op', h1, h2, h3⟩, h4⟩
        refine ⟨j, op', h1, ?_, h3⟩
        rw [hP, h2]
        simp only [Bool.true_and, decide_eq_true_eq]
        intro c
        subst c
        rw [hop] at h1; cases h1
        rw [hd] at h3; cases h3
        exact h4 rfl
    have hmono : ∀ j, (listed.setIfInBounds i true).getD j false = true → j = i ∨ listed.getD j false = true := by
      intro j hj
      rw [setD hsz] at hj
      by_cases c : i = j
      · exact .inl c.symm
      · rw [if_neg c] at hj; exact .inr hj
    have hrel : Rel Pr w0 μ' (killL (pendU l (listed.setIfInBounds i true) D eD) F).get F.nx w' := by
      rcases hcase with ⟨h1, rfl, rfl⟩ | ⟨h1, b, ob, bi, h2, h3, h4, h5, h6, h7⟩
      · have : (killL (pendU l (listed.setIfInBounds i true) D eD) F).get = (killL (pendU l listed D eD) F).get := by
          funext c
          rw [killL_get, killL_get]
          have : c ∈ pendU l (listed.setIfInBounds i true) D eD ↔ c ∈ pendU l listed D eD := by
            rw [hU]
            exact ⟨fun h => h.1, fun h => ⟨h, fun ⟨h8, h9⟩ => by rw [h1 h8] at h9; cases h9⟩⟩
          simp only [this]
        rw [this]; exact I.rel
      · refine h7 _ fun c => ?_
        rw [killL_get, killL_get]
        by_cases hc : c = b
        · subst hc
          rw [if_pos rfl, if_neg (fun h => ((hU _).1 h).2 ⟨h1, h2⟩)]; exact h3
        · rw [if_neg hc]
          have : c ∈ pendU l (listed.setIfInBounds i true) D eD ↔ c ∈ pendU l listed D eD := by
            rw [hU]
            exact ⟨fun h => h.1, fun h => ⟨h, fun ⟨h8, h9⟩ => by rw [h2] at h9; cases h9; exact hc rfl⟩⟩
          simp only [this]
    refine ⟨I.clo.step hi, fun j hj => ?_, I.dcl, I.dlt, I.unw, ?_, fun j op' h1 h2 => ?_, fun b hb => ?_, fun j k op1 op2 d1 d2 b h1 h2 h3 h4 => ?_, hrel, I.low, by rw [put_defers]; exact I.df, fun b hb => I.old b ((hU b).1 hb).1, I.nx0, I.itl, I.noit, fun j op' d' b h1 h2 h3 h4 h5 h6 => ?_⟩
    · rcases hmono j hj with rfl | h
      · exact hDi
      · exact I.sub j h
    · have hput := (hER.ext hx.1).put hN hv
      rw [hod]
      refine ⟨hput.1, fun t => ?_⟩
      have h0 := hput.2 t
      rw [Env.g_st, hXg] at h0
      rw [resetL_g]
      by_cases c : t = d
      · subst c
        rw [if_neg (fun h => ((hD' _).1 h).2 rfl)]
        rw [if_pos rfl] at h0; exact h0
      · rw [if_neg c] at h0
        have : t ∈ pendD l (listed.setIfInBounds i true) D ↔ t ∈ pendD l listed D := by
          rw [hD']; exact ⟨fun h => h.1, fun h => ⟨h, c⟩⟩
        simp only [this]
        exact h0
    · rw [hP, Bool.and_eq_true] at h2
      exact I.pend j op' h1 h2.1
    · obtain ⟨q1, q2⟩ := (hU b).1 hb
      obtain ⟨q3, q4⟩ := I.free b q1
      refine ⟨?_, q4⟩
      rcases hcase with ⟨_, _, rfl⟩ | ⟨g1, b', ob, bi, g2, _, _, _, rfl, _⟩
      · exact q3
      · unfold Mu.put
        rw [if_neg (fun c => by subst c; exact q2 ⟨g1, g2⟩)]
        exact q3
    · rw [hP, Bool.and_eq_true] at h3 h4
      exact I.dis j k op1 op2 d1 d2 b h1 h2 h3.1 h4.1
    · rcases hmono j h2 with rfl | h2'
      · rw [hop] at h1; cases h1
        rw [hd] at h4; cases h4
        rcases hcase with ⟨g1, _, _⟩ | ⟨g1, b', ob, bi, g2, g3, g4, g5, rfl, g7⟩
        · rw [g1 h3] at h5; cases h5
        · rw [g2] at h5; cases h5
          refine ⟨bi, ob, Mu.put_at _ _ _, g3, fun c oc bc hc hget hm => ?_⟩
          unfold Mu.put at hm
          rw [if_neg hc] at hm
          rw [killL_get] at hget
          split at hget
          · cases hget
          · rename_i hcU
            have hold : (killL (pendU l listed D eD) F).get c = some oc := by
              rw [killL_get, if_neg (fun h => hcU ((hU c).2 ⟨h, fun ⟨_, h9⟩ => by rw [g2] at h9; cases h9; exact hc rfl⟩))]
              exact hget
            have := I.rel.lt_heap hold hm
            omega
      · obtain ⟨bj, obj, q1, q2, q3⟩ := I.alone j op' d' b h1 h2' h3 h4 h5 h6
        refine ⟨bj, obj, hx.1 _ _ q1, q2, fun c oc bc hc hget hm => ?_⟩
        have hbU : b ∉ pendU l listed D eD := fun h => by rw [(I.free b h).1] at q1; cases q1
        have hbl := I.rel.lt_heap (show (killL (pendU l listed D eD) F).get b = some obj by rw [killL_get, if_neg hbU]; exact q2) q1
        rw [killL_get] at hget
        split at hget
        · cases hget
        · rename_i hcU
          rcases hcase with ⟨g1, _, rfl⟩ | ⟨g1, b', ob, bi, g2, g3, g4, g5, rfl, g7⟩
          · refine q3 c oc bc hc ?_ hm
            rw [killL_get, if_neg (fun h => hcU ((hU c).2 ⟨h, fun ⟨h8, h9⟩ => by rw [g1 h8] at h9; cases h9⟩))]
            exact hget
          · unfold Mu.put at hm
            by_cases hcb : c = b'
            · rw [if_pos hcb] at hm; cases hm; omega
            · rw [if_neg hcb] at hm
              refine q3 c oc bc hc ?_ hm
              rw [killL_get, if_neg (fun h => hcU ((hU c).2 ⟨h, fun ⟨_, h9⟩ => by rw [g2] at h9; cases h9; exact hcb rfl⟩))]
              exact hget
  have hUn : ∀ b, b ∈ pendU l listed D eD → μ b = none := fun b hb => (I.free b hb).1
  have hfree : op.kind = 2 → ∀ b, blk (eD.g d) = some b → μ b = none := fun hk2 b hb => hUn b (mem_pendU.2 ⟨i, op, d, hop, hp, hk2, hd, hb⟩)
  have way : ∀ op' : AM.Op, cOp P o = some op' → op'.kind = op.kind → op'.dst = some d → NVal op' eX F (eD.g d) → o.wp P a w (fun a' w' => ∃ μ', Eu n0 μ μ' ∧ Inv Pr w0 n0 N ops l e0 (listed.setIfInBounds i true) D eD F μ' a' w') Q := by
    intro op' hc hkk hdd hval
    obtain ⟨cv, w', μ', d', q1, q2, q3, q4⟩ := nval_ok (P := P) I.rel hUn hc hER hval (by rw [hkk]; exact hfree)
    have hdo : o.dst = some d := by rw [← (cOp_dst hc).1]; exact hdd
    unfold Oper.wp
    rw [q1, Oper.upon_value]
    rcases q4 with ⟨g1, rfl, rfl⟩ | ⟨g1, b, ob, bi, g2, g3, g4, g5, rfl, g7⟩
    · exact fin cv _ _ hdo q3 (Eu.refl _ _) (.inl ⟨fun h => absurd h (by rw [← hkk]; exact g1), rfl, rfl⟩)
    · exact fin cv w' _ hdo q3 (Eu.put g5 (I.old b (mem_pendU.2 ⟨i, op, d, hop, hp, by rw [← hkk]; exact g1, hd, g2⟩))) (.inr ⟨by rw [← hkk]; exact g1, b, ob, bi, g2, g3, g4, g5, rfl, g7⟩)
  rcases hl.2.2 i o op ho hop with hc | hc
  · unfold cOpG at hc
    unfold WpG Region.wanted
    split at hc
    · rename_i hg
      rw [hg]
      simp only [if_true]
      refine way op hc rfl hd ?_
      have hng := (cOp_dst hc).2
      cases op <;> first | exact hval | exact absurd rfl (hng _ _ _)
    · rename_i j b op' hg hc'
      split at hc
      · rename_i t ht
        cases hc
        rw [hg]
        have htN : t < N := by
          obtain ⟨o', h1, h2⟩ := Option.bind_eq_some_iff.1 ht
          exact hl.1 j o' t h1 h2
        simp only [NValG] at hval
        rw [wanted_ok (ops := ops) (j := j) hER ht htN] at hval
        have hkk : op'.kind = (AM.Op.g t b op').kind := by
          have hng := (cOp_dst hc').2
          cases op' <;> first | rfl | exact absurd rfl (hng _ _ _)
        have hdd : op'.dst = some d := hd
        have hdo : o.dst = some d := by rw [← (cOp_dst hc').1]; exact hdd
        split at hval
        · rename_i hw
          rw [if_pos hw]
          exact way op' hc' hkk hdd hval
        · rename_i hw
          rw [if_neg hw]
          exact fin undef w μ hdo (by rw [hval]; exact vr_undef) (Eu.refl _ _) (.inl ⟨fun _ => by rw [hval]; rfl, rfl, rfl⟩)
      · cases hc
    · cases hc
  · exfalso
    subst hc
    unfold badOp at hval hk
    cases h2 : o.dst with
    | none => rw [h2] at hk; simp [Op.kind] at hk
    | some d' => rw [h2] at hval; simp [NValG, NVal, PO.run] at hval
end
end Go.AM
