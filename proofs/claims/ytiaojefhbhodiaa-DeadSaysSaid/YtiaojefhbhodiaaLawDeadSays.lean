/-
  The row DeadSays: the law, of the walk.
-/
import Derived.Test.YtiaojefhbhodiaaRows
import Derived.Test.YtiaojefhbhodiaaW33
import Derived.Test.YtiaojefhbhodiaaW11
import Derived.Test.YtiaojefhbhodiaaW19
import Derived.Test.YtiaojefhbhodiaaOpn
import Derived.WalkKit
import Derived.ProofKit
import Derived.OpenShut
import Derived.ShutString
import Derived.ChangeOld
import Derived.Below
import Derived.SizedLaws
namespace Go.Proofs.Ytiaojefhbhodiaa.deadSays
open Go.ChangeShapes Go.WideShapes Go.ChangeAt Go.RowKit
set_option linter.unusedVariables false
theorem own : ownKnob Try.prog.godebug = none := by kernel_rfl
theorem laidOut : laidOutB Try.prog = true := by kernel_rfl
set_option maxRecDepth 100000 in
theorem lifted (os : Os) (started : os.Started) (H : Type) (enc : TypeId × Value → H) :
    ReturnsInHanded {} Try.checked os 4 .any (Rows.deadSaysSpec.pre6 enc Try.prog Try.f4 Rows.deadSaysRow.domain false) (Rows.deadSaysSpec.post enc Try.prog Try.f4 false true false false) := by
  refine returnsInHanded_of_change_sized (C := Try.checked) own started (by kernel_rfl) Try.func4
    (ChangeSpec.witness6 (enc := enc) (C := Try.checked) false ⟨#[], #[.agg #[.int .i64 0, .slice none 0 0]], []⟩ 8 (by kernel_rfl) (by kernel_rfl) (by kernel_rfl) (by kernel_rfl)) ?_
  intro W base args ds gs before hval0 hW hcnd hsz0 _
  have hsz : (DataW.weightsEach Try.prog (Try.f4.params.toList ++ Rows.deadSaysSpec.plain.varTypes Try.prog) (ds ++ gs)).all (· ≤ reachBytes) = true := hsz0
  have hval : ∀ (j : Nat) t v, Try.f4.params[j]? = some t → args[j]? = some v → Value.okWide Try.prog W .any base t v := hval0
  have hW' := hW
  obtain ⟨p, q, hA0, hV, rfl, hfz, hnd⟩ := hW
  have hA : DataW.TrodAll enc Try.prog W 0 (fun _ => true) true Try.f4.params.toList args.toList ds p := hA0
  rw [Try.params4] at hA hval hsz
  obtain ⟨v0, vs0, d0, ds0, p0, q0, hargs, rfl, rfl, h0, r0⟩ := trodAll_cons hA
  obtain ⟨rfl, rfl, rfl⟩ := trodAll_nil r0
  obtain rfl : args = #[v0] := by cases args; simp_all
  obtain ⟨rfl, rfl⟩ := trodVars_none hV
  obtain ⟨cs, rfl, hcs, _⟩ : ∃ cs, v0 = .agg cs ∧ cs.size = Try.prog.cellsOf 24 ∧ Row.okWide Try.prog W .any base 24 cs := by
    have := hval 0 24 v0 rfl rfl
    unfold Value.okWide at this
    rw [Try.underlying24] at this
    exact this
  have k0 := h0
  have lt0 : ∀ x ∈ p0, x.block < W.heap.size := by obtain ⟨m, hm⟩ := k0; exact DataW.trod_lt m _ _ _ hm
  obtain ⟨f, va, hf, hSl⟩ : ∃ (f : Fn) (va : Value), cs = #[.int .i64 f.regs, va] ∧ Sl RBlk W (fun b => b < W.heap.size) f.blocks va := by
    obtain ⟨fuel, hm⟩ := h0
    obtain ⟨f, va, h1, h2⟩ := opens_fn fuel _ _ hm (fun n hn => by simpa using List.all_eq_true.1 hsz n (DataW.weights_mem_each (j := 0) (t := 24) (d := d0) rfl rfl n hn))
    exact ⟨f, va, by rw [← h1]; rfl, h2⟩
  subst hf
  clear hA0 hval0 hsz0 hsz
  refine (saysL (fun f va ok w ha hf => ofL f va ok w ha hf) (fun f va ok w ha hf => of27 f va ok w ha hf) f va _ W hSl).mono fun e W' ⟨he, bel⟩ => ?_
  subst he
  exact ⟨_, rfl, _, _, _, [], _, [], hW', trodAll_mk1 (shut_bool Try.underlying4 _), (trodAll_cons_mk (Below.trod laidOut (by kernel_rfl) (of_decide_eq_true (by kernel_rfl)) k0 bel lt0) trodAll_mk0), rfl, bel.frame _, fun h => by cases h⟩
theorem over : Rows.deadSaysRow.holds Try.pinned (OpenSpec.ofChange Rows.deadSaysSpec) :=
  OpenClaim.holds_of_wide 4 Try.f4 rfl rfl rfl rfl rfl rfl rfl ⟨rfl, rfl, rfl, rfl, rfl⟩ rfl rfl rfl rfl rfl (by kernel_rfl) Try.func4 (by kernel_rfl)
    (of_decide_eq_true (by kernel_rfl)) (by unfold Func.isWrapper; first | (rw [if_pos (by decide +kernel)]; kernel_rfl) | (rw [if_neg (by decide +kernel)]; exact ⟨rfl, rfl⟩))
    (fun os started H enc _ => lifted os started H enc)
theorem proved : Rows.DeadSaysSaid := over
end Go.Proofs.Ytiaojefhbhodiaa.deadSays
namespace Go.Proofs.Ytiaojefhbhodiaa
/-- The row, under a short name, for the claim. -/
theorem deadSays_holds : Rows.DeadSaysSaid := deadSays.proved
end Go.Proofs.Ytiaojefhbhodiaa
#print axioms Go.Proofs.Ytiaojefhbhodiaa.deadSays_holds
