/-
  No cell of these rows narrows 'for every input' (looked for: loops, veiled, ifaces, maps, wideKeys, modest, calm, conditions, laid).
  DERIVED. THE GIVEN ROWS OF THIS SEAT. 6 by the template 'for every input the law returns true; each argument reads behind the call as it read before'; 0 by the template 'total and deterministic' (their statements: YtiaojefhbhodiaaTotals.lean).
  GIVEN WITH THE SEED: the statements are not yours to turn. If you find one false, say at which input.
  Laid BY PROGRAM, IN A SANDBOX (cutbox-rows.mjs): the forced cells as the released guide's own fill.sh prints them over the translation 911b935d820f5044… (all of the seat's roots in one cut). By AI agents, Wed Nov 11 2026. No macro, syntax, notation, axiom, sorry.
-/
import Derived.Test.YtiaojefhbhodiaaChecked
import GoSem.Claim
import GoSem.ClaimJoined
import GoSem.ClaimMapViews
import Derived.JoinedTies
import Derived.KernelRfl
namespace Go.Proofs.Ytiaojefhbhodiaa
/- THE CELL 'sum', in the pinned program and in every row, IS THE sha256 OF THE DUMP (.gsa) THAT YtiaojefhbhodiaaProg.lean LOADS. Nothing in Lean hashes anything: it is a label: what it is worth is what the hold of that sum in a sandbox is worth. -/
noncomputable def Try.pinned : Pinned := { name := "ytiaojefhbhodiaa", sum := "911b935d820f50446c4d14c39725a2b20d8c64bc4ddd7c2e703b4f0dad8cbb6a", checked := Try.checked }
namespace Rows
def none {H : Type} : Left H := { results := [], args := [] }

/-- 'seedcornlaw32.DeadLeaves': WHATEVER THE INPUT: true; the input reads as it did. -/
def deadLeavesSpec : ChangeSpec := { name := "deadLeaves", fn := fun _ => fun
  | [d1, d2] => { results := [.lit (.bool true)], args := [d1, d2] }
  | _ => none }
def deadLeavesRow : OpenClaim := { program := "ytiaojefhbhodiaa", sum := "911b935d820f50446c4d14c39725a2b20d8c64bc4ddd7c2e703b4f0dad8cbb6a", func := "seedcorn/seedcornlaw32.DeadLeaves", spec := "deadLeaves", unfollowed := true, recurses := true, apart := false }
def DeadLeavesSaid : Prop := deadLeavesRow.holds Try.pinned (OpenSpec.ofChange deadLeavesSpec)

/-- ITS FALSE NEIGHBOUR: 'it returns false'. Refute it at one input. -/
def deadLeavesWrong : ChangeSpec := { name := "deadLeaves", fn := fun _ => fun
  | [d1, d2] => { results := [.lit (.bool false)], args := [d1, d2] }
  | _ => none }
def DeadLeavesWrongFalsely : Prop := deadLeavesRow.holds Try.pinned (OpenSpec.ofChange deadLeavesWrong)

/-- 'seedcornlaw32.DeadSays': WHATEVER THE INPUT: true; the input reads as it did. -/
def deadSaysSpec : ChangeSpec := { name := "deadSays", fn := fun _ => fun
  | [d] => { results := [.lit (.bool true)], args := [d] }
  | _ => none }
def deadSaysRow : OpenClaim := { program := "ytiaojefhbhodiaa", sum := "911b935d820f50446c4d14c39725a2b20d8c64bc4ddd7c2e703b4f0dad8cbb6a", func := "seedcorn/seedcornlaw32.DeadSays", spec := "deadSays", unfollowed := true, recurses := true, apart := false }
def DeadSaysSaid : Prop := deadSaysRow.holds Try.pinned (OpenSpec.ofChange deadSaysSpec)

/-- ITS FALSE NEIGHBOUR: 'it returns false'. Refute it at one input. -/
def deadSaysWrong : ChangeSpec := { name := "deadSays", fn := fun _ => fun
  | [d] => { results := [.lit (.bool false)], args := [d] }
  | _ => none }
def DeadSaysWrongFalsely : Prop := deadSaysRow.holds Try.pinned (OpenSpec.ofChange deadSaysWrong)

/-- 'seedcornlaw32.DeadMeans': WHATEVER THE INPUT: true; the input reads as it did. -/
def deadMeansSpec : ChangeSpec := { name := "deadMeans", fn := fun _ => fun
  | [d1, d2, d3] => { results := [.lit (.bool true)], args := [d1, d2, d3] }
  | _ => none }
def deadMeansRow : OpenClaim := { program := "ytiaojefhbhodiaa", sum := "911b935d820f50446c4d14c39725a2b20d8c64bc4ddd7c2e703b4f0dad8cbb6a", func := "seedcorn/seedcornlaw32.DeadMeans", spec := "deadMeans", unfollowed := true, recurses := true, apart := false }
def DeadMeansSaid : Prop := deadMeansRow.holds Try.pinned (OpenSpec.ofChange deadMeansSpec)

/-- ITS FALSE NEIGHBOUR: 'it returns false'. Refute it at one input. -/
def deadMeansWrong : ChangeSpec := { name := "deadMeans", fn := fun _ => fun
  | [d1, d2, d3] => { results := [.lit (.bool false)], args := [d1, d2, d3] }
  | _ => none }
def DeadMeansWrongFalsely : Prop := deadMeansRow.holds Try.pinned (OpenSpec.ofChange deadMeansWrong)

/-- 'seedcornlaw32.DeadEffects': WHATEVER THE INPUT: true; the input reads as it did. -/
def deadEffectsSpec : ChangeSpec := { name := "deadEffects", fn := fun _ => fun
  | [d] => { results := [.lit (.bool true)], args := [d] }
  | _ => none }
def deadEffectsRow : OpenClaim := { program := "ytiaojefhbhodiaa", sum := "911b935d820f50446c4d14c39725a2b20d8c64bc4ddd7c2e703b4f0dad8cbb6a", func := "seedcorn/seedcornlaw32.DeadEffects", spec := "deadEffects", unfollowed := true, recurses := true, apart := false }
def DeadEffectsSaid : Prop := deadEffectsRow.holds Try.pinned (OpenSpec.ofChange deadEffectsSpec)

/-- ITS FALSE NEIGHBOUR: 'it returns false'. Refute it at one input. -/
def deadEffectsWrong : ChangeSpec := { name := "deadEffects", fn := fun _ => fun
  | [d] => { results := [.lit (.bool false)], args := [d] }
  | _ => none }
def DeadEffectsWrongFalsely : Prop := deadEffectsRow.holds Try.pinned (OpenSpec.ofChange deadEffectsWrong)

/-- 'seedcornlaw32.DeadNone': WHATEVER THE INPUT: true; the input reads as it did. -/
def deadNoneSpec : ChangeSpec := { name := "deadNone", fn := fun _ => fun
  | [d] => { results := [.lit (.bool true)], args := [d] }
  | _ => none }
def deadNoneRow : OpenClaim := { program := "ytiaojefhbhodiaa", sum := "911b935d820f50446c4d14c39725a2b20d8c64bc4ddd7c2e703b4f0dad8cbb6a", func := "seedcorn/seedcornlaw32.DeadNone", spec := "deadNone", unfollowed := true, recurses := true, apart := false }
def DeadNoneSaid : Prop := deadNoneRow.holds Try.pinned (OpenSpec.ofChange deadNoneSpec)

/-- ITS FALSE NEIGHBOUR: 'it returns false'. Refute it at one input. -/
def deadNoneWrong : ChangeSpec := { name := "deadNone", fn := fun _ => fun
  | [d] => { results := [.lit (.bool false)], args := [d] }
  | _ => none }
def DeadNoneWrongFalsely : Prop := deadNoneRow.holds Try.pinned (OpenSpec.ofChange deadNoneWrong)

/-- 'seedcornlaw32.DeadRuns': WHATEVER THE INPUT: true; the input reads as it did. -/
def deadRunsSpec : ChangeSpec := { name := "deadRuns", fn := fun _ => fun
  | [d1, d2] => { results := [.lit (.bool true)], args := [d1, d2] }
  | _ => none }
def deadRunsRow : OpenClaim := { program := "ytiaojefhbhodiaa", sum := "911b935d820f50446c4d14c39725a2b20d8c64bc4ddd7c2e703b4f0dad8cbb6a", func := "seedcorn/seedcornlaw32.DeadRuns", spec := "deadRuns", unfollowed := true, recurses := true, apart := false }
def DeadRunsSaid : Prop := deadRunsRow.holds Try.pinned (OpenSpec.ofChange deadRunsSpec)

/-- ITS FALSE NEIGHBOUR: 'it returns false'. Refute it at one input. -/
def deadRunsWrong : ChangeSpec := { name := "deadRuns", fn := fun _ => fun
  | [d1, d2] => { results := [.lit (.bool false)], args := [d1, d2] }
  | _ => none }
def DeadRunsWrongFalsely : Prop := deadRunsRow.holds Try.pinned (OpenSpec.ofChange deadRunsWrong)

/- THE SECOND FORM. 'bulk': how many values and letters a reading holds, each counted each time it is reached (what is shared counts as often as it is met; a slice's spare places count too). A statement '..UptoSaid' is the law's where the arguments, and the package variables that the reading takes, are together of bulk at most 1048576: NARROWER than '..Said'. Prove '..Said' where nothing that the law and all that it calls make is longer than what came in: it says more and counts as full. Else prove '..UptoSaid'. A law counts once. -/
mutual
def uptoBulk {H : Type} : DataW H → Nat
  | .lit (.string bytes) => bytes.length + 1
  | .lit _ => 1
  | .nil => 1
  | .ptr d => uptoBulk d + 1
  | .slice elems spare => uptoBulkAll elems + uptoBulkAll spare + 1
  | .agg parts => uptoBulkAll parts + 1
  | .iface _ d => uptoBulk d + 1
  | .map entries => uptoBulkEntries entries + 1
  | .held _ => 1
def uptoBulkAll {H : Type} : List (DataW H) → Nat
  | [] => 0
  | d :: r => uptoBulk d + uptoBulkAll r
def uptoBulkEntries {H : Type} : List (Lit × DataW H) → Nat
  | [] => 0
  | x :: r => uptoBulkEntry x + uptoBulkEntries r
def uptoBulkEntry {H : Type} : Lit × DataW H → Nat
  | (.string bytes, d) => bytes.length + uptoBulk d + 1
  | (_, d) => uptoBulk d + 1
 end
def uptoSmall : (H : Type) → List (DataW H) → Bool := fun _ ds => decide (uptoBulkAll ds ≤ 1048576)
def OpenSpec.upto (s : _root_.Go.ChangeSpec) : _root_.Go.OpenSpec := { _root_.Go.OpenSpec.ofChange s with cond := some uptoSmall }

/-- 'seedcornlaw32.DeadLeaves', WHERE WHAT IT READS IS OF BULK AT MOST 1048576: true; the input reads as it did. -/
def deadLeavesUptoRow : OpenClaim := { program := "ytiaojefhbhodiaa", sum := "911b935d820f50446c4d14c39725a2b20d8c64bc4ddd7c2e703b4f0dad8cbb6a", func := "seedcorn/seedcornlaw32.DeadLeaves", spec := "deadLeaves", unfollowed := true, recurses := true, apart := false, narrowed := true }
def DeadLeavesUptoSaid : Prop := deadLeavesUptoRow.holds Try.pinned (OpenSpec.upto deadLeavesSpec)

/-- 'seedcornlaw32.DeadSays', WHERE WHAT IT READS IS OF BULK AT MOST 1048576: true; the input reads as it did. -/
def deadSaysUptoRow : OpenClaim := { program := "ytiaojefhbhodiaa", sum := "911b935d820f50446c4d14c39725a2b20d8c64bc4ddd7c2e703b4f0dad8cbb6a", func := "seedcorn/seedcornlaw32.DeadSays", spec := "deadSays", unfollowed := true, recurses := true, apart := false, narrowed := true }
def DeadSaysUptoSaid : Prop := deadSaysUptoRow.holds Try.pinned (OpenSpec.upto deadSaysSpec)

/-- 'seedcornlaw32.DeadMeans', WHERE WHAT IT READS IS OF BULK AT MOST 1048576: true; the input reads as it did. -/
def deadMeansUptoRow : OpenClaim := { program := "ytiaojefhbhodiaa", sum := "911b935d820f50446c4d14c39725a2b20d8c64bc4ddd7c2e703b4f0dad8cbb6a", func := "seedcorn/seedcornlaw32.DeadMeans", spec := "deadMeans", unfollowed := true, recurses := true, apart := false, narrowed := true }
def DeadMeansUptoSaid : Prop := deadMeansUptoRow.holds Try.pinned (OpenSpec.upto deadMeansSpec)

/-- 'seedcornlaw32.DeadEffects', WHERE WHAT IT READS IS OF BULK AT MOST 1048576: true; the input reads as it did. -/
def deadEffectsUptoRow : OpenClaim := { program := "ytiaojefhbhodiaa", sum := "911b935d820f50446c4d14c39725a2b20d8c64bc4ddd7c2e703b4f0dad8cbb6a", func := "seedcorn/seedcornlaw32.DeadEffects", spec := "deadEffects", unfollowed := true, recurses := true, apart := false, narrowed := true }
def DeadEffectsUptoSaid : Prop := deadEffectsUptoRow.holds Try.pinned (OpenSpec.upto deadEffectsSpec)

/-- 'seedcornlaw32.DeadNone', WHERE WHAT IT READS IS OF BULK AT MOST 1048576: true; the input reads as it did. -/
def deadNoneUptoRow : OpenClaim := { program := "ytiaojefhbhodiaa", sum := "911b935d820f50446c4d14c39725a2b20d8c64bc4ddd7c2e703b4f0dad8cbb6a", func := "seedcorn/seedcornlaw32.DeadNone", spec := "deadNone", unfollowed := true, recurses := true, apart := false, narrowed := true }
def DeadNoneUptoSaid : Prop := deadNoneUptoRow.holds Try.pinned (OpenSpec.upto deadNoneSpec)

/-- 'seedcornlaw32.DeadRuns', WHERE WHAT IT READS IS OF BULK AT MOST 1048576: true; the input reads as it did. -/
def deadRunsUptoRow : OpenClaim := { program := "ytiaojefhbhodiaa", sum := "911b935d820f50446c4d14c39725a2b20d8c64bc4ddd7c2e703b4f0dad8cbb6a", func := "seedcorn/seedcornlaw32.DeadRuns", spec := "deadRuns", unfollowed := true, recurses := true, apart := false, narrowed := true }
def DeadRunsUptoSaid : Prop := deadRunsUptoRow.holds Try.pinned (OpenSpec.upto deadRunsSpec)

end Rows
end Go.Proofs.Ytiaojefhbhodiaa
