/- A contract shown from an empty heap holds from every heap, if arguments and value point nowhere. -/
import Derived.Test.YtnbiklilbdgmmaaGreatB1
set_option linter.constructorNameAsVariable false
set_option linter.unusedVariables false
namespace Go.AM
open Go
theorem CT.frame {P : Program} {f : Nat} {args : List AV} {v0 : AV} (h : CT P f args Hp.empty fun v _ => v = v0) (ha : args.all AV.flat = true) (hv : v0.flat = true) (H : Hp) : CT P f args H fun v H1 => v = v0 ∧ H1 = H := by
  refine ⟨h.1, fun Pr w0 μ w cargs R hva => ?_⟩
  have no : ∀ a o, Hp.empty.get a ≠ some o := fun a o ha => by cases ha
  have R0 : Rel (fun b => b < w.heap.size) w (fun _ => none) Hp.empty.get Hp.empty.nx w := {
    obj := fun a o ha => absurd ha (no a o)
    sep := fun a1 a2 o1 o2 b1 b2 _ h1 => absurd h1 (no a1 o1)
    new := fun _ _ => rfl
    prot := fun B hB => ⟨rfl, hB⟩
    away := fun a o bi ha => absurd ha (no a o)
    os := rfl
    tape := rfl
    out := rfl }
  refine (h.2 _ _ _ _ cargs R0 (hva.flat ha _)).mono fun en w' ⟨cv, v, H', μ', q1, q2, q3, _, _, q6⟩ => ?_
  subst q2
  have hb := q6.below
  exact ⟨cv, v, H, μ, q1, ⟨rfl, rfl⟩, q3.flat hv μ, Eu.refl _ _, RK.refl _, R.grow (fun B hB => hb.block B hB) hb.size hb.os hb.tape hb.output⟩
end Go.AM
namespace Go.AM
open Go
/-! ### Appends -/
def apV (H : Hp) (z bytes : Nat) (x y : AV) : Option (AV × Hp) := match apSrc H z y with | some (v, n) => apRun H z bytes x v n | none => none
@[go_sem] theorem eo_ap {e : Env} {H : Hp} {z b : Nat} {c : List AV} {x y : O} : EO.run e H (.ap z c b x y) = apV H z b (ev e x) (ev e y) := rfl
theorem no_bs0 {e : Env} {v : AV} : NO.run e (.bs 1 [v] 0 []) = some (.c .w [], fun a => .sl a 1 0 0 0) := by
  simp [NO.run, rep, lay]
end Go.AM
