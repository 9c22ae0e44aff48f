/-
  The document's examples of layer 32, reckoned.
-/
import Derived.Test.YtiaojefhbhodiaaW23
set_option linter.unusedVariables false
namespace Go.Proofs.Ytiaojefhbhodiaa
open Go.RowKit

def exF : Fn := ⟨3, [⟨[⟨1, 0, 0, 0, 0, 0, 0, 5⟩, ⟨2, 1, 0, 0, 0, 0, 0, 0⟩, ⟨9, 0, 2, 0, 0, 0, 0, 0⟩], 3, 0, 0, 0⟩]⟩
def exM : Fn := ⟨3, [⟨[⟨1, 0, 0, 0, 0, 0, 0, 5⟩, ⟨9, 0, 2, 0, 0, 0, 0, 0⟩], 3, 0, 0, 0⟩]⟩
def exG : Fn := ⟨3, [⟨[⟨9, 0, 2, 0, 0, 0, 0, 0⟩], 3, 0, 0, 0⟩]⟩
def exH : Fn := ⟨1, [⟨[⟨1, 0, 0, 0, 0, 0, 0, 5⟩, ⟨9, 0, 0, 0, 0, 0, 0, 0⟩], 3, 0, 0, 0⟩]⟩

theorem live_two (f : Fn) (I O : Rows) (h1 : (passB f.blocks (noRows f.blocks.length f.regs.toNat) (noRows f.blocks.length f.regs.toNat)).more = true) (h2 : passB f.blocks (passB f.blocks (noRows f.blocks.length f.regs.toNat) (noRows f.blocks.length f.regs.toNat)).I (passB f.blocks (noRows f.blocks.length f.regs.toNat) (noRows f.blocks.length f.regs.toNat)).O = ⟨I, O, false⟩) : f.live = ⟨I, O⟩ := by
  unfold Fn.live
  rw [liveGo, dif_pos h1, liveGo, h2]
  rfl
theorem live_one (f : Fn) (I O : Rows) (h2 : passB f.blocks (noRows f.blocks.length f.regs.toNat) (noRows f.blocks.length f.regs.toNat) = ⟨I, O, false⟩) : f.live = ⟨I, O⟩ := by
  unfold Fn.live
  rw [liveGo, h2]
  rfl
theorem exF_live : exF.live = ⟨[[false, false, true]], [[false, false, false]]⟩ := live_two _ _ _ (by rfl) (by rfl)
theorem exM_live : exM.live = ⟨[[false, false, true]], [[false, false, false]]⟩ := live_two _ _ _ (by rfl) (by rfl)
theorem exG_live : exG.live = ⟨[[false, false, true]], [[false, false, false]]⟩ := live_two _ _ _ (by rfl) (by rfl)
theorem exH_live : exH.live = ⟨[[false]], [[false]]⟩ := live_one _ _ _ (by rfl)
theorem exM_once : exM.once = exG := by
  unfold Fn.once
  rw [exM_live]
  rfl
theorem exF_once : exF.once = exM := by
  unfold Fn.once
  rw [exF_live]
  rfl
theorem exG_once : exG.once = exG := by
  unfold Fn.once
  rw [exG_live]
  rfl
theorem exH_once : exH.once = exH := by
  unfold Fn.once
  rw [exH_live]
  rfl
theorem exF_dead : exF.dead = exG := by
  rw [dead_step exF (by rw [exF_once]; decide), exF_once, dead_step exM (by rw [exM_once]; decide), exM_once, dead_end exG (by rw [exG_once]; decide), exG_once]
theorem exH_dead : exH.dead = exH := by
  rw [dead_end exH (by rw [exH_once]; decide), exH_once]
theorem exF_ok : exF.ok := by
  refine ⟨⟨by decide, by decide, by decide, fun x hx => ?_, fun x hx k hk => ?_⟩, fun x hx t ht hp => ?_, fun x hx => ?_, by decide⟩
  all_goals
    simp only [exF, List.mem_cons, List.not_mem_nil, or_false] at hx
    subst hx
  · refine ⟨fun t ht => ?_, fun h => absurd h (by decide)⟩
    simp only [List.mem_cons, List.not_mem_nil, or_false] at ht
    rcases ht with rfl | rfl | rfl <;> (refine ⟨fun u hu => ?_, by decide⟩; revert u; decide)
  · revert k; decide
  · simp only [List.mem_cons, List.not_mem_nil, or_false] at ht
    rcases ht with rfl | rfl | rfl <;> (revert hp; decide)
  · decide
theorem exH_ok : exH.ok := by
  refine ⟨⟨by decide, by decide, by decide, fun x hx => ?_, fun x hx k hk => ?_⟩, fun x hx t ht hp => ?_, fun x hx => ?_, by decide⟩
  all_goals
    simp only [exH, List.mem_cons, List.not_mem_nil, or_false] at hx
    subst hx
  · refine ⟨fun t ht => ?_, fun h => absurd h (by decide)⟩
    simp only [List.mem_cons, List.not_mem_nil, or_false] at ht
    rcases ht with rfl | rfl <;> (refine ⟨fun u hu => ?_, by decide⟩; revert u; decide)
  · revert k; decide
  · simp only [List.mem_cons, List.not_mem_nil, or_false] at ht
    rcases ht with rfl | rfl <;> (revert hp; decide)
  · decide
end Go.Proofs.Ytiaojefhbhodiaa
