/- What the quick run takes by contract, more: what frames may hold; sizes; a law's own example. -/
import Derived.Test.YtnbiklilbdgmmaaGreatB2
import Derived.Test.YtnbiklilbdgmmaaGreatL4
import Derived.Test.YtnbiklilbdgmmaaGreatN2
set_option linter.constructorNameAsVariable false
set_option linter.unusedVariables false
set_option linter.unusedSimpArgs false
namespace Go.AM.Sb
open Go Go.AM
noncomputable section
def intN : AV → Option Int
  | .i .i64 n => some n
  | _ => none
def intsN : List AV → Option (List Int)
  | [] => some []
  | v :: l => match intN v, intsN l with
    | some n, some r => some (n :: r)
    | _, _ => none
theorem intN_eq {v : AV} {n : Int} (h : intN v = some n) : v = .i .i64 n := by
  unfold intN at h
  split at h
  · cases h; rfl
  · cases h
theorem intsN_eq : ∀ {l : List AV} {r : List Int}, intsN l = some r → l = r.flatMap jc
  | [], r, h => by cases h; rfl
  | v :: l, r, h => by
    simp only [intsN] at h
    split at h
    · rename_i n r' h1 h2
      cases h
      rw [intN_eq h1, intsN_eq h2]; rfl
    · cases h
def jsN (H : Hp) (x : AV) : Option (List Int) := match x with
  | .ns => some []
  | .sl a 1 o n c => match F.hget H a with
    | some (.c f l) => match F.rd l o n with
      | some v => intsN v
      | none => none
    | _ => none
  | _ => none
theorem jsN_eq {H : Hp} {x : AV} {bs : List Int} (h : jsN H x = some bs) : Js H x bs := by
  unfold jsN at h
  split at h
  · cases h; exact .inl ⟨rfl, rfl⟩
  · rename_i a o n c
    split at h
    · rename_i f l hg
      rw [F.hget_eq] at hg
      split at h
      · rename_i v hr
        rw [F.rd_eq] at hr
        have hv := intsN_eq h
        have hl : v.length = bs.length := by rw [hv, flat_len jc_len]; omega
        have hn := rdN_len hr
        have hnb : n = bs.length := by omega
        subst hnb
        exact .inr ⟨a, o, c, f, l, rfl, hg, by rw [Nat.mul_one, hr, hv]⟩
      · cases h
    · cases h
  · cases h
def φMay : List AV → Hp → R := fun args H => match args with
  | [x] => match jsN H x with
    | some bs => if bs.length < 4611686018427387904 then some (.b (!bs.any badI), H) else none
    | _ => none
  | _ => none
theorem φMay_ok (args : List AV) (H : Hp) (v : AV) (H1 : Hp) (h : φMay args H = some (v, H1)) : CT P 296 args H fun v' H' => v' = v ∧ H' = H1 := by
  unfold φMay at h
  split at h
  · split at h
    · rename_i hx
      split at h
      · cases h
        exact may_ct (jsN_eq hx) (by assumption)
      · cases h
    · cases h
  · cases h
def φSize : List AV → Hp → R := fun args H => match args with
  | [x] => match jsN H x with
    | some bs => if bs.length < 4611686018427387904 ∧ ∀ n ∈ bs, -9223372036854775808 ≤ n ∧ n ≤ 9223372036854775807 then some (.i .i64 (sizeI bs 0), H) else none
    | _ => none
  | _ => none
theorem φSize_ok (args : List AV) (H : Hp) (v : AV) (H1 : Hp) (h : φSize args H = some (v, H1)) : CT P 262 args H fun v' H' => v' = v ∧ H' = H1 := by
  unfold φSize at h
  split at h
  · split at h
    · rename_i hx
      split at h
      · rename_i hc
        cases h
        exact size_ct (jsN_eq hx) hc.1 hc.2
      · cases h
    · cases h
  · cases h
def partsN (H : Hp) : List AV → Option (List (List Int))
  | [] => some []
  | y :: l => match isN H y, partsN H l with
    | some bs, some r => if bs.length < 4611686018427387904 then some (bs :: r) else none
    | _, _ => none
theorem partsN_eq {H : Hp} : ∀ {ys : List AV} {bss : List (List Int)}, partsN H ys = some bss → ys.length = bss.length ∧ ∀ (i : Nat) (y : AV) (bs : List Int), ys[i]? = some y → bss[i]? = some bs → Is H y bs ∧ bs.length < 4611686018427387904
  | [], bss, h => by cases h; exact ⟨rfl, fun i y bs h => by simp at h⟩
  | y :: l, bss, h => by
    simp only [partsN] at h
    split at h
    · rename_i bs r h1 h2
      split at h
      · rename_i hl
        cases h
        obtain ⟨q1, q2⟩ := partsN_eq h2
        refine ⟨by simp [q1], fun i y' bs' hy hb => ?_⟩
        cases i with
        | zero => simp at hy hb; subst hy; subst hb; exact ⟨isN_eq h1, hl⟩
        | succ i => exact q2 i y' bs' (by simpa using hy) (by simpa using hb)
      · cases h
    · cases h
def vsN (H : Hp) (x : AV) : Option (List AV) := match x with
  | .ns => some []
  | .sl a 1 o n c => match F.hget H a with
    | some (.c f l) => F.rd l o n
    | _ => none
  | _ => none
theorem vc_flat : ∀ l : List AV, l.flatMap vc = l
  | [] => rfl
  | v :: l => by rw [List.flatMap_cons, vc_flat l]; rfl
theorem vsN_eq {H : Hp} {x : AV} {ys : List AV} (h : vsN H x = some ys) : Vs H x ys := by
  unfold vsN at h
  split at h
  · cases h; exact .inl ⟨rfl, rfl⟩
  · rename_i a o n c
    split at h
    · rename_i f l hg
      rw [F.hget_eq] at hg
      rw [F.rd_eq] at h
      have hn := rdN_len h
      subst hn
      exact .inr ⟨a, o, c, f, l, rfl, hg, by rw [Nat.mul_one, h, vc_flat]⟩
    · cases h
  · cases h
def φTag : List AV → Hp → R := fun args H => match args with
  | [.i .u64 h, x] => match vsN H x with
    | some ys => match partsN H ys with
      | some bss => if bss.length < 4611686018427387904 then some (.i .u64 (bss.foldl tagP h), H) else none
      | none => none
    | none => none
  | _ => none
theorem φTag_ok (args : List AV) (H : Hp) (v : AV) (H1 : Hp) (h : φTag args H = some (v, H1)) : CT P 272 args H fun v' H' => v' = v ∧ H' = H1 := by
  unfold φTag at h
  split at h
  · split at h
    · rename_i ys hy
      split at h
      · rename_i bss hb
        split at h
        · rename_i hl
          cases h
          obtain ⟨q1, q2⟩ := partsN_eq hb
          exact tag_ct (vsN_eq hy) q1 hl q2 _
        · cases h
      · cases h
    · cases h
  · cases h
def mapG (g : Nat → Int → Int) : List Int → Nat → List Int
  | [], _ => []
  | b :: l, i => g i b :: mapG g l (Nat.succ i)
theorem mapG_eq (g : Nat → Int → Int) : ∀ (l : List Int) (i : Nat), mapG g l i = l.mapIdx (fun j b => g (i + j) b)
  | [], i => rfl
  | b :: l, i => by
    rw [mapG, mapG_eq g l, List.mapIdx_cons]
    congr 2
    funext j b
    rw [Nat.succ_eq_add_one, Nat.add_assoc, Nat.add_comm 1 j]
theorem mapG_0 (g : Nat → Int → Int) (l : List Int) : mapG g l 0 = l.mapIdx g := by
  rw [mapG_eq]
  simp only [Nat.zero_add]
def maskG (q : Int) (l : List Int) (i : Nat) : List Int := mapG (maskB q) l i
theorem maskG_0 (q : Int) (l : List Int) : maskG q l 0 = maskI q l := mapG_0 (maskB q) l
def φMask : List AV → Hp → R := fun args H => match args with
  | [.i .u64 h, .i .i64 n, x] => match isN H x with
    | some bs => if bs.length ≤ 1000000000000 then some (RowB H x (maskG (stepI h (wr .u64 n)) bs 0)) else none
    | none => none
  | _ => none
theorem φMask_ok (args : List AV) (H : Hp) (v : AV) (H1 : Hp) (h : φMask args H = some (v, H1)) : CT P 240 args H fun v' H' => v' = v ∧ H' = H1 := by
  unfold φMask at h
  split at h
  · split at h
    · rename_i bs hb
      split at h
      · rename_i hl
        have := mask_ct (isN_eq hb) hl
        simp only [Option.some.injEq, maskG_0] at h
        rename_i hh n _ _
        have := this hh n
        rw [h] at this
        exact this
      · cases h
    · cases h
  · cases h
def φClone : List AV → Hp → R := fun args H => match args with
  | [x] => match isN H x with
    | some bs => if bs.length ≤ 1000000000000 then some (RowB H x bs) else none
    | none => none
  | _ => none
theorem φClone_ok (args : List AV) (H : Hp) (v : AV) (H1 : Hp) (h : φClone args H = some (v, H1)) : CT P 48 args H fun v' H' => v' = v ∧ H' = H1 := by
  unfold φClone at h
  split at h
  · split at h
    · rename_i bs hb
      split at h
      · rename_i hl
        have := clone_ct (isN_eq hb) hl
        simp only [Option.some.injEq] at h
        rw [h] at this
        exact this
      · cases h
    · cases h
  · cases h
def φClip : List AV → Hp → R := fun args H => match args with
  | [.sl a 1 o n c] => if n ≤ c then some (.sl a 1 o n n, H) else none
  | [.ns] => some (.ns, H)
  | _ => none
theorem φClip_ok (args : List AV) (H : Hp) (v : AV) (H1 : Hp) (h : φClip args H = some (v, H1)) : CT P 157 args H fun v' H' => v' = v ∧ H' = H1 := by
  unfold φClip at h
  split at h
  · split at h
    · rename_i hc
      cases h; exact clip_ct hc
    · cases h
  · cases h; exact clipN_ct _
  · cases h
def ovl2 : List (Nat × (List AV → Hp → R)) := (240, φMask) :: (48, φClone) :: (157, φClip) :: (272, φTag) :: (296, φMay) :: (262, φSize) :: ovl
def OV2 : Tr (List AV → Hp → R) := ovc ovl2
theorem OV2_ok : OvOk P OV2.get := by
  refine ovc_ok fun p hp => ?_
  simp only [ovl2, ovl, List.mem_cons, List.not_mem_nil, or_false] at hp
  rcases hp with rfl | rfl | rfl | rfl | rfl | rfl | rfl | rfl | rfl | rfl | rfl
  · exact φMask_ok
  · exact φClone_ok
  · exact φClip_ok
  · exact φTag_ok
  · exact φMay_ok
  · exact φSize_ok
  · exact φEqual_ok
  · exact φStep_ok
  · exact φKind_ok
  · exact φSorted_ok
  · exact φSortedF_ok
theorem law2_of {n f : Nat} {H1 : Hp} (h : F.value G OV2 n f [] Hp.empty = some (.b true, H1)) : CT P f [] Hp.empty fun v _ => v = .b true := F.value_ok hm G_ok OV2_ok h
/-- With a law's own example taken by contract: it comes back with true. -/
def φTrue : List AV → Hp → R := fun args H => match args with
  | [] => some (.b true, H)
  | _ => none
theorem φTrue_ok {f : Nat} (h : CT P f [] Hp.empty fun v _ => v = .b true) (args : List AV) (H : Hp) (v : AV) (H1 : Hp) (h' : φTrue args H = some (v, H1)) : CT P f args H fun v' H' => v' = v ∧ H' = H1 := by
  unfold φTrue at h'
  split at h'
  · cases h'; exact h.frame rfl rfl H
  · cases h'
def OV3 (f : Nat) : Tr (List AV → Hp → R) := ovc ((f, φTrue) :: ovl2)
theorem OV3_ok {f : Nat} (h : CT P f [] Hp.empty fun v _ => v = .b true) : OvOk P (OV3 f).get := by
  refine ovc_ok fun p hp => ?_
  simp only [ovl2, ovl, List.mem_cons, List.not_mem_nil, or_false] at hp
  rcases hp with rfl | rfl | rfl | rfl | rfl | rfl | rfl | rfl | rfl | rfl | rfl | rfl
  · exact φTrue_ok h
  · exact φMask_ok
  · exact φClone_ok
  · exact φClip_ok
  · exact φTag_ok
  · exact φMay_ok
  · exact φSize_ok
  · exact φEqual_ok
  · exact φStep_ok
  · exact φKind_ok
  · exact φSorted_ok
  · exact φSortedF_ok
theorem law3_of {n f g : Nat} {H1 : Hp} (hg : CT P g [] Hp.empty fun v _ => v = .b true) (h : F.value G (OV3 g) n f [] Hp.empty = some (.b true, H1)) : CT P f [] Hp.empty fun v _ => v = .b true := F.value_ok hm G_ok (OV3_ok hg) h
end
end Go.AM.Sb
