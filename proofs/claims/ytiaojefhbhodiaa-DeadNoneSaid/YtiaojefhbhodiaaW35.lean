/-
  A region whose order branches, by hand: an operation that its guard passes over.
-/
import Derived.Test.YtiaojefhbhodiaaW18
set_option linter.unusedVariables false
namespace Go.Proofs.Ytiaojefhbhodiaa
open Go.RowKit

section
variable {P : Program} {Q : Exit → Act → World → Prop} {S : World → Prop} {os : List Oper} {T : List Nat} {fuel : Nat} {listed : Array Bool} {a : Act} {w : World} {o : Oper}
theorem GoG.skip (i : Nat) (hi : os[i]? = some o) (hB : (Region.noSelect os.toArray && Region.free .any os.toArray listed i && (Region.ready .any os.toArray listed).contains i && allNeeds os.toArray (fun j => T.contains j && decide (j < os.toArray.size)) i) = true)
    (hQ : ∀ c a w, ¬ Q (.panic c) a w) (hS : S w) (hw : Region.wanted o (yielded os.toArray a.tmps) = false)
    (h : GoG P os Q S (fun j => T.contains j && decide (j < os.toArray.size)) fuel (listed.setIfInBounds i true) (a.put o.dst undef) w) : GoG P os Q S (fun j => T.contains j && decide (j < os.toArray.size)) (fuel + 1) listed a w := by
  simp only [Bool.and_eq_true] at hB
  obtain ⟨⟨⟨h1, h2⟩, h3⟩, h4⟩ := hB
  have hi' : os.toArray[i]? = some o := by simpa using hi
  have hr : i ∈ Region.ready .any os.toArray listed := by simpa using h3
  refine ⟨fun hc => wpAnyG_first hi' (Region.noSelect_spec h1) hQ (allNeeds_spec (fun j hj => by simp at hj ⊢; intro _; exact hj) h4) fuel listed a w hc (Region.free_spec hi' h2) hr (.inr ⟨hw, rfl⟩) hS (h.out (hc.set hr))⟩
end
end Go.Proofs.Ytiaojefhbhodiaa
