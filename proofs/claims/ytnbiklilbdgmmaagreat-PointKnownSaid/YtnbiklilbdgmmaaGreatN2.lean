/- The quick run of this seat's program. -/
import Derived.Test.YtnbiklilbdgmmaaGreatN1
import Derived.Test.YtnbiklilbdgmmaaGreatG
set_option linter.constructorNameAsVariable false
namespace Go.AM.Sb
open Go Go.AM
noncomputable section
def ovl : List (Nat × (List AV → Hp → R)) := [(238, φEqual), (45, φStep), (159, φKind), (248, φSorted), (117, φSortedF)]
def ovc : List (Nat × (List AV → Hp → R)) → Tr (List AV → Hp → R) := List.rec .nil (fun p _ ih => ih.put p.1 (some p.2))
def OV : Tr (List AV → Hp → R) := ovc ovl
theorem ovc_ok : ∀ {l : List (Nat × (List AV → Hp → R))}, (∀ p ∈ l, ∀ args H v H1, p.2 args H = some (v, H1) → CT P p.1 args H fun v' H' => v' = v ∧ H' = H1) → OvOk P (ovc l).get
  | [], _ => fun f φ h => by rw [show ovc [] = .nil from rfl, Tr.get_nil] at h; cases h
  | p :: l, h => fun f φ hf => by
    rw [show ovc (p :: l) = (ovc l).put p.1 (some p.2) from rfl, Tr.get_put] at hf
    split at hf
    · rename_i hk; subst hk; cases hf; exact h p (List.mem_cons_self ..)
    · exact ovc_ok (fun q hq => h q (List.mem_cons_of_mem _ hq)) f φ hf
theorem OV_ok : OvOk P OV.get := by
  refine ovc_ok fun p hp => ?_
  simp only [ovl, List.mem_cons, List.not_mem_nil, or_false] at hp
  rcases hp with rfl | rfl | rfl | rfl | rfl
  · exact φEqual_ok
  · exact φStep_ok
  · exact φKind_ok
  · exact φSorted_ok
  · exact φSortedF_ok
/-- What the quick run says of a closed law. -/
theorem law_of {n f : Nat} {H1 : Hp} (h : F.value G OV n f [] Hp.empty = some (.b true, H1)) : CT P f [] Hp.empty fun v _ => v = .b true := F.value_ok hm G_ok OV_ok h
end
end Go.AM.Sb
