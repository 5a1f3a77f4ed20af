/- Collect over what maps.Keys handed back, as a contract of the abstract machine. -/
import Derived.Test.YtnbiklilbdgmmaaGreatM1
set_option linter.constructorNameAsVariable false
set_option linter.unusedVariables false
namespace Go.AM
open Go Go.Proofs Go.Shelf
/-- What a map with whole numbers for keys holds. -/
def KeysAre (es : List (AV × AV)) (ks : List Int) : Prop := es.map Prod.fst = ks.map (AV.i .i64) ∧ ks.Nodup ∧ (∀ k ∈ ks, -9223372036854775808 ≤ k ∧ k ≤ 9223372036854775807) ∧ ks.length ≤ 1000000
theorem erl_keys {μ : Mu} : ∀ {es : List (AV × AV)} {E : List MapEntry} {ks : List Int}, ERL μ es E → es.map Prod.fst = ks.map (AV.i .i64) → E.map (·.key) = ks.map (Value.int .i64)
  | _, _, [], .nil, _ => rfl
  | _, _, k :: ks, .nil, h => by simp at h
  | _, _, [], .cons _ _ _, h => by simp at h
  | _, _, k :: ks, .cons hk hv r, h => by
    simp only [List.map_cons, List.cons.injEq] at h ⊢
    obtain ⟨rfl, h2⟩ := h
    refine ⟨?_, erl_keys r h2⟩
    exact (vr_i hk)
/-- The reader that looks at no value. -/
abbrev R0 : Value → Option (DataW Unit × List MemPlace) := fun _ => some (.nil, [])
theorem owns_of {P : Program} {T : TypeId} (hT : P.underlying T = some (.int .i64)) {w : World} {b : Nat} {E : Array MapEntry} {clk : Nat} (hb : w.heap[b]? = some (.map E clk)) {ks : List Int} (hk : E.toList.map (·.key) = ks.map (Value.int .i64))
    (hB : Borns E.toList clk) (nd : ks.Nodup) (hr : ∀ k ∈ ks, -9223372036854775808 ≤ k ∧ k ≤ 9223372036854775807) (hl : ks.length ≤ 1000000) :
    ∃ D0 : DataW Unit, w.ownsMap P T R0 b E.size D0 ∧ (intKeys D0).Perm ks ∧ Maps.size D0 = ks.length := by
  have hread : ∀ x ∈ E.toList, ∃ k : Int, x.key = .int .i64 k ∧ k ∈ ks ∧ WideElems.rd P T R0 x = some (.int .i64 k, .nil) := by
    intro x hx
    have hm : x.key ∈ ks.map (Value.int .i64) := by rw [← hk]; exact List.mem_map.2 ⟨x, hx, rfl⟩
    obtain ⟨k, hk1, hk2⟩ := List.mem_map.1 hm
    refine ⟨k, hk2.symm, hk1, ?_⟩
    have hw : (Lit.int .i64 k).wf = true := by
      obtain ⟨h1, h2⟩ := hr k hk1
      have hmin : IntKind.i64.min = -9223372036854775808 := by decide
      simp [Lit.wf, hmin]
      exact ⟨h1, h2⟩
    unfold WideElems.rd keyOf
    rw [hT, ← hk2]
    simp [mapKey, hT, hw]
  have hsz : E.size = ks.length := by
    have := congrArg List.length hk
    simpa using this
  refine ⟨_, ⟨E, clk, hb, ⟨by rw [hsz]; unfold maxLen; omega, ⟨hB.1, ?_, ?_⟩, fun x hx => ?_⟩, Nat.le_refl _, rfl⟩, ?_, ?_⟩
  · exact List.pairwise_map.2 (hB.2.imp fun h => h)
  · rw [hk]; exact List.pairwise_map.2 (nd.imp fun h e => h (by cases e; rfl))
  · obtain ⟨k, _, _, h⟩ := hread x hx; exact ⟨_, h⟩
  · show ((E.toList.map (WideElems.rg P T R0)).foldr DataW.insert []).map (fun p => intOf p.1) |>.Perm ks
    have h1 := (WideShapes.sorted_perm (E.toList.map (WideElems.rg P T R0))).map (fun p : Lit × DataW Unit => intOf p.1)
    refine h1.trans ?_
    rw [List.map_map]
    have : E.toList.map ((fun p : Lit × DataW Unit => intOf p.1) ∘ WideElems.rg P T R0) = ks := by
      have hinj : (E.toList.map ((fun p : Lit × DataW Unit => intOf p.1) ∘ WideElems.rg P T R0)).map (Value.int .i64) = ks.map (Value.int .i64) := by
        rw [← hk, List.map_map]
        refine List.map_congr_left fun x hx => ?_
        obtain ⟨k, h1, _, h2⟩ := hread x hx
        simp [WideElems.rg, h2, intOf, h1]
      exact (List.map_inj_right (fun a b h => by cases h; rfl)).1 hinj
    rw [this]
  · show ((E.toList.map (WideElems.rg P T R0)).foldr DataW.insert []).length = _
    rw [(WideShapes.sorted_perm _).length_eq, List.length_map, Array.length_toList, hsz]
theorem vrl_ints {μ : Mu} : ∀ {ss : List Int}, VRL μ (ss.map (AV.i .i64)) (ss.map encZ)
  | [] => .nil
  | s :: ss => .cons (.i _ _) vrl_ints
theorem bears_ent {P : Program} {f : Nat} {B : Func} {c : Code} (h : Bears P f B) (hb : B.body = some c) : Ent P f := by
  obtain ⟨nm, hn, hf⟩ := h
  exact ⟨_, c, hf, hb, hn⟩
/-- A new slice of numbers behind a call that leaves what was there. -/
theorem rel_ints {P : Program} {Pr : Nat → Prop} {w0 w w' : World} {μ : Mu} {H : Hp} (R : Rel Pr w0 μ H.get H.nx w) {T : TypeId} {v : Value} {ss : List Int} (hrow : w'.ownsRow w.heap.size T 1 v ss.length (ss.map encZ)) (hnil : v = .slice none 0 0 ↔ ss = []) (hb : RowKit.Below w.heap.size w w') :
    ∃ x H1 μ', VR μ' x v ∧ Eu H.nx μ μ' ∧ RK H H1 ∧ Rel Pr w0 μ' H1.get H1.nx w' ∧ ((ss = [] ∧ x = .ns ∧ H1 = H) ∨ (ss ≠ [] ∧ x = .sl H.nx 1 0 ss.length ss.length ∧ H1 = H.new (.c .w (ss.map (AV.i .i64))))) := by
  obtain ⟨hlen, hr⟩ := hrow
  rcases hr with ⟨hv, hz⟩ | ⟨g, cap, cur, hv, hg, hcur, r1, r2, r3, r4⟩
  · have hss := hnil.1 hv
    subst hv; subst hss
    exact ⟨.ns, H, μ, .ns, Eu.refl _ _, RK.refl _, R.grow (fun B hB => hb.block B hB) hb.size hb.os hb.tape hb.output, .inl ⟨rfl, rfl, rfl⟩⟩
  · have hne : ss ≠ [] := fun c => by have := hnil.2 c; rw [hv] at this; cases this
    subst hv
    have hn : 0 < ss.length := List.length_pos_iff.2 hne
    have hμ : μ H.nx = none := R.new _ (Nat.le_refl _)
    have hgl : g < w'.heap.size := (Array.getElem?_eq_some_iff.1 hcur).1
    refine ⟨.sl H.nx 1 0 ss.length ss.length, H.new (.c .w (ss.map (AV.i .i64))), μ.put H.nx ⟨g, 0, ss.length, cap⟩, .sl ⟨_, Mu.put_at _ _ _, Nat.le_refl _, Nat.zero_lt_one, by simp, r1, by simp, fun h => absurd h (by simp), fun _ => rfl⟩, Eu.put hμ (Nat.le_refl _), RK.new (get_nx R) rfl nofun, ?_, .inr ⟨hne, rfl, rfl⟩⟩
    refine R.push' hμ (Nat.le_succ _) (Nat.lt_succ_self _) (fun B hB => hb.block B hB) hb.size hg hb.os hb.tape hb.output (fun b => rfl) (fun b => Hp.get_new _ _ _) ?_
    refine ⟨cur, T, 0, 0, hcur, by simp, r1, by simp [r3], fun _ => .inl rfl, ?_, ?_⟩
    · have : (cur.toList.drop 0).take ss.length = ss.map encZ := by simpa using r4
      rw [this]; exact vrl_ints
    · simp [AV.one]
theorem collect_ct {P : Program} {ρ8 ρ10 : Ren} (L8 : SlLaysZI.n8 P ρ8) (L10 : SlLaysZI.n10 P ρ10) {H : Hp} {b o : Nat} {f : Fl} {l : List AV} (hg : H.get b = some (.c f l)) {r n : Nat} {es : List (AV × AV)} (ho : l[o]? = some (.m r)) (hr : H.get r = some (.mp n es)) {ks : List Int} (hk : KeysAre es ks) :
    CT P (ρ8.f 8) [.fn (ρ10.f 10) [] [.p b o]] H fun v H1 => ∃ ss : List Int, ss.Perm ks ∧ ((ss = [] ∧ v = .ns ∧ H1 = H) ∨ (ss ≠ [] ∧ v = .sl H.nx 1 0 ss.length ss.length ∧ H1 = H.new (.c .w (ss.map (AV.i .i64))))) := by
  obtain ⟨k1, k2, k3, k4⟩ := hk
  refine ⟨bears_ent L8.f8 rfl, fun Pr w0 μ w cargs R hv => ?_⟩
  have hargs : ∃ cv, cargs = [cv] ∧ VR μ (.fn (ρ10.f 10) [] [.p b o]) cv := by
    cases hv with
    | cons h1 h2 => cases h2; exact ⟨_, rfl, h1⟩
  obtain ⟨cv, rfl, hcv⟩ := hargs
  obtain ⟨x', y', rfl, hx, hy⟩ := vr_fn hcv
  cases hx
  have hy' : ∃ cp, y' = [cp] ∧ VR μ (.p b o) cp := by
    cases hy with
    | cons h1 h2 => cases h2; exact ⟨_, rfl, h1⟩
  obtain ⟨cp, rfl, hcp⟩ := hy'
  obtain ⟨bi, hb1, rfl⟩ := vr_p hcp
  obtain ⟨cm, hcm1, hcm2⟩ := R.cell hg hb1 ho
  obtain ⟨mb, hm1, rfl⟩ := vr_m hcm2
  obtain ⟨mb2, hm2, E, clk, e1, e2, e3⟩ := R.obj r _ hr
  rw [hm1] at hm2; cases hm2
  obtain ⟨D0, hown, hperm, hsz⟩ := owns_of (P := P) (T := ρ10.t 26) L10.t26 e1 (erl_keys e2 k1) e3 k2 k3 k4
  have hlt : bi.cb < w.heap.size := R.lt_heap hg hb1
  have hseq := keysOff_gives L10 Fence.wide 4 trivial rfl (by omega) bi.cb (bi.base + o) mb.cb E.size D0 w hlt hcm1 hown
  have hc := AnyZI.collect_in L8 Fence.wide 6 trivial trivial rfl (by omega) (ρ10.f 10) #[.pointer (some ⟨bi.cb, bi.base + o, none⟩)] trivial (L10.f10.enters rfl) _ _ (by rw [hsz]; unfold maxLen; omega) (by rw [hsz]; omega) w hseq
  refine ((callsIn_wide (n := 6)).1 hc).mono fun en w' ⟨v, ss, h1, h2, h3, h4, h5⟩ => ?_
  obtain ⟨x, H1, μ', q1, q2, q3, q4, q5⟩ := rel_ints (P := P) R h3 h4 h5
  exact ⟨v, x, H1, μ', h1, ⟨ss, h2.trans hperm, q5⟩, q1, q2, q3, q4⟩
/-- Over no map. -/
theorem collectNil_ct {P : Program} {ρ8 ρ10 : Ren} (L8 : SlLaysZI.n8 P ρ8) (L10 : SlLaysZI.n10 P ρ10) {H : Hp} {b o : Nat} {f : Fl} {l : List AV} (hg : H.get b = some (.c f l)) (ho : l[o]? = some .nm) :
    CT P (ρ8.f 8) [.fn (ρ10.f 10) [] [.p b o]] H fun v H1 => v = .ns ∧ H1 = H := by
  refine ⟨bears_ent L8.f8 rfl, fun Pr w0 μ w cargs R hv => ?_⟩
  have hargs : ∃ cv, cargs = [cv] ∧ VR μ (.fn (ρ10.f 10) [] [.p b o]) cv := by
    cases hv with
    | cons h1 h2 => cases h2; exact ⟨_, rfl, h1⟩
  obtain ⟨cv, rfl, hcv⟩ := hargs
  obtain ⟨x', y', rfl, hx, hy⟩ := vr_fn hcv
  cases hx
  have hy' : ∃ cp, y' = [cp] ∧ VR μ (.p b o) cp := by
    cases hy with
    | cons h1 h2 => cases h2; exact ⟨_, rfl, h1⟩
  obtain ⟨cp, rfl, hcp⟩ := hy'
  obtain ⟨bi, hb1, rfl⟩ := vr_p hcp
  obtain ⟨cm, hcm1, hcm2⟩ := R.cell hg hb1 ho
  cases hcm2
  have hlt : bi.cb < w.heap.size := R.lt_heap hg hb1
  have hseq := keysOffNil_gives L10 Fence.wide 4 trivial rfl bi.cb (bi.base + o) w hlt hcm1
  have hc := AnyZI.collect_in L8 Fence.wide 6 trivial trivial rfl (by omega) (ρ10.f 10) #[.pointer (some ⟨bi.cb, bi.base + o, none⟩)] trivial (L10.f10.enters rfl) _ _ (by unfold maxLen; omega) (by omega) w hseq
  refine ((callsIn_wide (n := 6)).1 hc).mono fun en w' ⟨v, ss, h1, h2, h3, h4, h5⟩ => ?_
  obtain ⟨x, H1, μ', q1, q2, q3, q4, q5⟩ := rel_ints (P := P) R h3 h4 h5
  subst h2
  rcases q5 with ⟨_, e1, e2⟩ | ⟨e, _⟩
  · exact ⟨v, x, H1, μ', h1, ⟨e1, e2⟩, q1, q2, q3, q4⟩
  · exact absurd rfl e
end Go.AM
