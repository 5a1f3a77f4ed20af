/- What the quick run takes by contract: seals, bytes' equality, sorted keys. -/
import Derived.Test.YtnbiklilbdgmmaaGreatM4
import Derived.Test.YtnbiklilbdgmmaaGreatS1
import Derived.Test.YtnbiklilbdgmmaaGreatA9
set_option linter.constructorNameAsVariable false
set_option linter.unusedVariables false
set_option linter.unusedSimpArgs false
namespace Go.AM.Sb
open Go Go.AM Go.AM.SbS
noncomputable section
/-! ### Rows of bytes -/
def byteN : AV → Option Int
  | .i .u8 n => some n
  | _ => none
def bytesN : List AV → Option (List Int)
  | [] => some []
  | v :: l => match byteN v, bytesN l with
    | some n, some r => some (n :: r)
    | _, _ => none
theorem byteN_eq {v : AV} {n : Int} (h : byteN v = some n) : v = .i .u8 n := by
  unfold byteN at h
  split at h
  · cases h; rfl
  · cases h
theorem bytesN_eq : ∀ {l : List AV} {r : List Int}, bytesN l = some r → l = r.flatMap ic
  | [], r, h => by cases h; rfl
  | v :: l, r, h => by
    simp only [bytesN] at h
    split at h
    · rename_i n r' h1 h2
      cases h
      rw [byteN_eq h1, bytesN_eq h2]; rfl
    · cases h
def isN (H : Hp) (x : AV) : Option (List Int) := match x with
  | .ns => some []
  | .sl a 1 o n c => match F.hget H a with
    | some (.c f l) => match F.rd l o n with
      | some v => bytesN v
      | none => none
    | _ => none
  | _ => none
theorem isN_eq {H : Hp} {x : AV} {bs : List Int} (h : isN H x = some bs) : Is H x bs := by
  unfold isN at h
  split at h
  · cases h; exact .inl ⟨rfl, rfl⟩
  · rename_i a o n c
    split at h
    · rename_i f l hg
      rw [F.hget_eq] at hg
      split at h
      · rename_i v hr
        rw [F.rd_eq] at hr
        have hv := bytesN_eq h
        have hl : v.length = bs.length := by rw [hv, flat_len ic_len]; omega
        have hn := rdN_len hr
        have hnb : n = bs.length := by omega
        subst hnb
        exact .inr ⟨a, o, c, f, l, rfl, hg, by rw [Nat.mul_one, hr, hv]⟩
      · cases h
    · cases h
  · cases h
def eqL : List Int → List Int → Bool
  | [], [] => true
  | a :: l, b :: m => F.ieq a b && eqL l m
  | _, _ => false
theorem eqL_eq : ∀ l m : List Int, eqL l m = decide (l = m)
  | [], [] => rfl
  | [], b :: m => by simp [eqL]
  | a :: l, [] => by simp [eqL]
  | a :: l, b :: m => by
    rw [eqL, F.ieq_eq, eqL_eq l m]
    by_cases h1 : a = b <;> by_cases h2 : l = m <;> simp [h1, h2]
def φEqual : List AV → Hp → R := fun args H => match args with
  | [x, y] => match isN H x, isN H y with
    | some bs, some cs => if bs.length < 4611686018427387904 then some (.b (eqL bs cs), H) else none
    | _, _ => none
  | _ => none
theorem φEqual_ok (args : List AV) (H : Hp) (v : AV) (H1 : Hp) (h : φEqual args H = some (v, H1)) : CT P 238 args H fun v' H' => v' = v ∧ H' = H1 := by
  unfold φEqual at h
  split at h
  · split at h
    · rename_i hx hy
      split at h
      · cases h
        rw [eqL_eq]
        exact equalI_ct (isN_eq hx) (isN_eq hy) (by assumption)
      · cases h
    · cases h
  · cases h
def φStep : List AV → Hp → R := fun args H => match args with
  | [.i .u64 h, .i .u64 c] => some (.i .u64 (stepI h c), H)
  | _ => none
theorem φStep_ok (args : List AV) (H : Hp) (v : AV) (H1 : Hp) (h : φStep args H = some (v, H1)) : CT P 45 args H fun v' H' => v' = v ∧ H' = H1 := by
  unfold φStep at h
  split at h
  · cases h; exact step_ct _ _ _
  · cases h
def φKind : List AV → Hp → R := fun args H => match args with
  | [.i .i64 n] => if -9223372036854775808 ≤ n ∧ n ≤ 9223372036854775807 then some (.i .i64 (kindI n), H) else none
  | _ => none
theorem φKind_ok (args : List AV) (H : Hp) (v : AV) (H1 : Hp) (h : φKind args H = some (v, H1)) : CT P 159 args H fun v' H' => v' = v ∧ H' = H1 := by
  unfold φKind at h
  split at h
  · split at h
    · cases h; exact kind_ct _ _ (by assumption)
    · cases h
  · cases h
/-! ### Keys -/
def keyN : List (AV × AV) → Option (List Int)
  | [] => some []
  | p :: l => match p.1, keyN l with
    | .i .i64 n, some r => some (n :: r)
    | _, _ => none
theorem keyN_eq : ∀ {l : List (AV × AV)} {r : List Int}, keyN l = some r → l.map Prod.fst = r.map (AV.i .i64)
  | [], r, h => by cases h; rfl
  | p :: l, r, h => by
    simp only [keyN] at h
    split at h
    · rename_i n r' h1 h2
      cases h
      rw [List.map_cons, List.map_cons, h1, keyN_eq h2]
    · cases h
def keysN (es : List (AV × AV)) : Option (List Int) := match keyN es with
  | some ks => if ks.Nodup ∧ (∀ k ∈ ks, -9223372036854775808 ≤ k ∧ k ≤ 9223372036854775807) ∧ ks.length ≤ 12 then some ks else none
  | none => none
theorem keysN_eq {es : List (AV × AV)} {ks : List Int} (h : keysN es = some ks) : KeysAre es ks ∧ ks.length ≤ 12 := by
  unfold keysN at h
  split at h
  · rename_i ks' hk
    split at h
    · rename_i hc
      cases h
      exact ⟨⟨keyN_eq hk, hc.1, hc.2.1, by omega⟩, hc.2.2⟩
    · cases h
  · cases h
/-- The keys behind a call of maps.Keys. -/
def cllN (H : Hp) (x : AV) : Option (List Int) := match x with
  | .fn c [] [.p b o] => if c = 193 ∨ c = 285 ∨ c = 299 then (match F.hget H b with
    | some (.c f l) => match l[o]? with
      | some (.m r) => match F.hget H r with
        | some (.mp n es) => keysN es
        | _ => none
      | some .nm => some []
      | _ => none
    | _ => none) else none
  | _ => none
theorem cllN_eq {H : Hp} {x : AV} {ks : List Int} (h : cllN H x = some ks) : Cll H [x] ks ∧ ks.length ≤ 12 := by
  unfold cllN at h
  split at h
  · rename_i c b o
    split at h
    · rename_i hc
      split at h
      · rename_i f l hg
        rw [F.hget_eq] at hg
        split at h
        · rename_i r ho
          split at h
          · rename_i n es hr
            rw [F.hget_eq] at hr
            obtain ⟨h1, h2⟩ := keysN_eq h
            refine ⟨?_, h2⟩
            rcases hc with rfl | rfl | rfl
            · exact collect_ct coll keysA hg ho hr h1
            · exact collect_ct coll keysB hg ho hr h1
            · exact collect_ct coll keysC hg ho hr h1
          · cases h
        · rename_i ho
          cases h
          refine ⟨?_, by simp⟩
          have nil : ∀ {f args}, CT P f args H (fun v H1 => v = .ns ∧ H1 = H) → CT P f args H fun v H1 => ∃ ss : List Int, ss.Perm [] ∧ ((ss = [] ∧ v = .ns ∧ H1 = H) ∨ (ss ≠ [] ∧ v = .sl H.nx 1 0 ss.length ss.length ∧ H1 = H.new (.c .w (ss.map (AV.i .i64))))) :=
            fun h => h.mono fun v H1 q => ⟨[], .refl _, .inl ⟨rfl, q⟩⟩
          rcases hc with rfl | rfl | rfl
          · exact nil (collectNil_ct coll keysA hg ho)
          · exact nil (collectNil_ct coll keysB hg ho)
          · exact nil (collectNil_ct coll keysC hg ho)
        · cases h
      · cases h
    · cases h
  · cases h
def φSorted : List AV → Hp → R := fun args H => match args with
  | [x] => match cllN H x with
    | some ks => some (Row H (sortR leI ks))
    | none => none
  | _ => none
theorem φSorted_ok (args : List AV) (H : Hp) (v : AV) (H1 : Hp) (h : φSorted args H = some (v, H1)) : CT P 248 args H fun v' H' => v' = v ∧ H' = H1 := by
  unfold φSorted at h
  split at h
  · split at h
    · rename_i ks hk
      obtain ⟨h1, h2⟩ := cllN_eq hk
      have h3 := sorted_ct h1 h2
      simp only [Option.some.injEq] at h
      rw [h] at h3; exact h3
    · cases h
  · cases h
def psN : List (AV × AV) → Option (List (Int × Int))
  | [] => some []
  | p :: l => match p.1, p.2, psN l with
    | .i .i64 n, .i .i64 m, some r => some ((n, m) :: r)
    | _, _, _ => none
theorem psN_eq : ∀ {l : List (AV × AV)} {r : List (Int × Int)}, psN l = some r → l = intEs r
  | [], r, h => by cases h; rfl
  | p :: l, r, h => by
    simp only [psN] at h
    split at h
    · rename_i n m r' h1 h2 h3
      cases h
      rw [psN_eq h3]
      show _ = (AV.i .i64 n, AV.i .i64 m) :: intEs r'
      rw [← h1, ← h2]
    · cases h
def ordN (H : Hp) (q oq : Nat) : Option (List (Int × Int)) := match F.hcells H q with
  | some lq => match lq[oq]? with
    | some (.p od oo) => match F.hcells H od with
      | some lo => match lo[oo]? with
        | some (.m r) => match F.hmap H r with
          | some es => psN es
          | none => none
        | some .nm => some []
        | _ => none
      | none => none
    | _ => none
  | none => none
theorem ordN_eq {H : Hp} {q oq : Nat} {ps : List (Int × Int)} (h : ordN H q oq = some ps) : OrdAt H q oq ps := by
  unfold ordN at h
  split at h
  · rename_i lq h1
    rw [F.hcells_eq] at h1
    split at h
    · rename_i od oo h2
      split at h
      · rename_i lo h3
        rw [F.hcells_eq] at h3
        have l1 : ldV H (.p q oq) = some (.p od oo) := by simp only [ldV, h1, h2]
        split at h
        · rename_i r h4
          split at h
          · rename_i es h5
            rw [F.hmap_eq] at h5
            exact ⟨od, oo, .m r, l1, by simp only [ldV, h3, h4], by simp only [mpV, h5, psN_eq h]⟩
          · cases h
        · rename_i h4
          cases h
          exact ⟨od, oo, .nm, l1, by simp only [ldV, h3, h4], rfl⟩
        · cases h
      · cases h
    · cases h
  · cases h
def φSortedF : List AV → Hp → R := fun args H => match args with
  | [x, .fn c [] [.p q oq]] => if c = 119 then (match cllN H x, ordN H q oq with
    | some ks, some ps => some (Row H (sortR (rO ps) ks))
    | _, _ => none) else none
  | _ => none
theorem φSortedF_ok (args : List AV) (H : Hp) (v : AV) (H1 : Hp) (h : φSortedF args H = some (v, H1)) : CT P 117 args H fun v' H' => v' = v ∧ H' = H1 := by
  unfold φSortedF at h
  split at h
  · split at h
    · rename_i hc
      subst hc
      split at h
      · rename_i ks ps hk ho
        obtain ⟨h1, h2⟩ := cllN_eq hk
        have h3 := sortedF_ct h1 h2 (ordN_eq ho)
        simp only [Option.some.injEq] at h
        rw [h] at h3; exact h3
      · cases h
    · cases h
  · cases h
end
end Go.AM.Sb
