/-
  Walk: the statement DeadLeaves.
-/
import Derived.Test.YtiaojefhbhodiaaW31
import Derived.Test.YtiaojefhbhodiaaW26
import Derived.Test.YtiaojefhbhodiaaW25
set_option linter.unusedVariables false
namespace Go.Proofs.Ytiaojefhbhodiaa
open Go.RowKit

set_option maxRecDepth 100000 in
set_option maxHeartbeats 8000000 in
theorem leavesL (hOf : OfL) (hOf2 : Of27L) (f : Fn) (t : Tac) (va : Value) (ok : Nat → Prop) (w : World) (ha : Sl RBlk w ok f.blocks va) :
    Calls Try.prog 3 #[.agg #[.int .i64 f.regs, va], .agg #[.int .i64 t.op, .int .i64 t.d, .int .i64 t.a, .int .i64 t.b, .int .i64 t.k, .int .i64 t.base, .int .i64 t.size, .int .u32 t.n]] w fun e w' => e = .returned (.bool true) ∧ Below w.heap.size w w' := by
  obtain ⟨A, c, rfl, hc, hn2⟩ := ha.form
  have HA := bk (ha.mono (ok' := fun b => b < w.heap.size) (fun b _ h => h))
  clear ha
  go_enter Try.func3, Try.ntmps3
  go_wp2_with fail
  refine name_world_calls (fun W0 hW0 => ?_)
  have HB0 : Bk (Below w.heap.size w W0) := by subst hW0; exact bk (by repeat (first | exact Below.refl _ _ | exact alloc1 _ _ | refine Below.drew ?_ | refine Below.alloc ?_ (by simp; try omega) _ | refine Below.setCell ?_ (by simp; try omega) _))
  have HX0 : Bk (Bx W0 w.heap.size #[.int .i64 f.regs, .slice A f.blocks.length c] 24) := by subst hW0; exact bk ((Bx.new _ _ _).alloc _)
  have HT0 : Bk (Bx W0 (w.heap.size + 1) #[.int .i64 t.op, .int .i64 t.d, .int .i64 t.a, .int .i64 t.b, .int .i64 t.k, .int .i64 t.base, .int .i64 t.size, .int .u32 t.n] 27) := by subst hW0; exact bk (Bx.new' (by simp))
  clear hW0
  refine (aliveL hOf W0).mono ?_
  rintro e W1 ⟨rfl, hb1⟩
  have HX1 := bk (HX0.out.below hb1); have HT1 := bk (HT0.out.below hb1); have HB1 := bk (below0 HB0.out hb1)
  have hs1 := hb1.size
  clear hb1
  go_upto_region 3 with fail
  have q0 : W1.cell? ⟨w.heap.size + 1, 0, none⟩ = some (.int .i64 t.op) := HT1.out.cell 0
  have q1 : W1.cell? ⟨w.heap.size + 1, 1, none⟩ = some (.int .i64 t.d) := HT1.out.cell 1
  have q2 : W1.cell? ⟨w.heap.size + 1, 2, none⟩ = some (.int .i64 t.a) := HT1.out.cell 2
  have q3 : W1.cell? ⟨w.heap.size + 1, 3, none⟩ = some (.int .i64 t.b) := HT1.out.cell 3
  have q4 : W1.cell? ⟨w.heap.size + 1, 4, none⟩ = some (.int .i64 t.k) := HT1.out.cell 4
  have q5 : W1.cell? ⟨w.heap.size + 1, 5, none⟩ = some (.int .i64 t.base) := HT1.out.cell 5
  have q6 : W1.cell? ⟨w.heap.size + 1, 6, none⟩ = some (.int .i64 t.size) := HT1.out.cell 6
  have q7 : W1.cell? ⟨w.heap.size + 1, 7, none⟩ = some (.int .u32 t.n) := HT1.out.cell 7
  have HP1 := bk (fun W => pureD t.op t.d t.a t.b t.k t.base t.size t.n W)
  have HP2 := bk (fun W => pure32 t.op t.d t.a t.b t.k t.base t.size t.n W)
  generalize Tac.pure ⟨t.op, t.d, t.a, t.b, t.k, t.base, t.size, t.n⟩ = pr at *
  refine wp_region_noPanic ?_
  refine wp_region_G [] (fun w' => w'.cell? ⟨w.heap.size + 1, 0, none⟩ = some (.int .i64 t.op) ∧ w'.cell? ⟨w.heap.size + 1, 1, none⟩ = some (.int .i64 t.d) ∧ w'.cell? ⟨w.heap.size + 1, 2, none⟩ = some (.int .i64 t.a) ∧ w'.cell? ⟨w.heap.size + 1, 3, none⟩ = some (.int .i64 t.b) ∧ w'.cell? ⟨w.heap.size + 1, 4, none⟩ = some (.int .i64 t.k) ∧ w'.cell? ⟨w.heap.size + 1, 5, none⟩ = some (.int .i64 t.base) ∧ w'.cell? ⟨w.heap.size + 1, 6, none⟩ = some (.int .i64 t.size) ∧ w'.cell? ⟨w.heap.size + 1, 7, none⟩ = some (.int .u32 t.n)) (by kernel_rfl) ?_
  refine GoG.take 0 rfl (by kernel_rfl) (fun c a w h => h) ⟨q0, q1, q2, q3, q4, q5, q6, q7⟩ ?_ (by rfl) ?_ ?_
  rotate_left 1
  · intro w hSw
    obtain ⟨s0, s1, s2, s3, s4, s5, s6, s7⟩ := hSw
    go_simp
    with_reducible rfl
  try simp only [Act.put, List.setIfInBounds_toArray, List.set_cons_zero, List.set_cons_succ]
  refine GoG.take 2 rfl (by kernel_rfl) (fun c a w h => h) ⟨q0, q1, q2, q3, q4, q5, q6, q7⟩ ?_ (by rfl) ?_ ?_
  rotate_left 1
  · intro w hSw
    obtain ⟨s0, s1, s2, s3, s4, s5, s6, s7⟩ := hSw
    go_simp
    with_reducible rfl
  try simp only [Act.put, List.setIfInBounds_toArray, List.set_cons_zero, List.set_cons_succ]
  refine GoG.alone 1 rfl (by kernel_rfl) (fun K hK => ?_)
  go_simp
  refine (HP1.out _).mono ?_
  rintro e W2 ⟨rfl, hb2⟩
  have hb2' := undrew hb2
  have HB2 := bk hb2'
  clear hb2
  refine hK _ _ (fun _ => ⟨cell_below hb2' q0, cell_below hb2' q1, cell_below hb2' q2, cell_below hb2' q3, cell_below hb2' q4, cell_below hb2' q5, cell_below hb2' q6, cell_below hb2' q7⟩) ?_
  clear hK K
  try simp only [Act.put, List.setIfInBounds_toArray, List.set_cons_zero, List.set_cons_succ]
  refine GoG.alone 3 rfl (by kernel_rfl) (fun K hK => ?_)
  go_simp
  refine (HP2.out _).mono ?_
  rintro e W3 ⟨rfl, hb3⟩
  have hb3' := below0 HB2.out hb3
  have HB3 := bk hb3'
  clear hb3 hb2'
  refine hK _ _ (fun _ => ⟨cell_below hb3' q0, cell_below hb3' q1, cell_below hb3' q2, cell_below hb3' q3, cell_below hb3' q4, cell_below hb3' q5, cell_below hb3' q6, cell_below hb3' q7⟩) ?_
  clear hK K
  try simp only [Act.put, List.setIfInBounds_toArray, List.set_cons_zero, List.set_cons_succ]
  refine GoG.take 4 rfl (by kernel_rfl) (fun c a w h => h) ⟨cell_below hb3' q0, cell_below hb3' q1, cell_below hb3' q2, cell_below hb3' q3, cell_below hb3' q4, cell_below hb3' q5, cell_below hb3' q6, cell_below hb3' q7⟩ ?_ (by rfl) ?_ ?_
  rotate_left 1
  · intro w hSw
    go_simp
    with_reducible rfl
  clear hb3' q0 q1 q2 q3 q4 q5 q6 q7
  try simp only [Act.put, List.setIfInBounds_toArray, List.set_cons_zero, List.set_cons_succ]
  refine GoG.done (by kernel_rfl) ?_
  refine NoPanic.normal ?_
  have hs3 := HB3.out.size
  have x3 := HX1.out.below HB3.out
  have cx3 := x3.cell
  have lx3 := x3.lt
  have HX3 := bk x3
  have HBW3 := bk (below0 HB1.out HB3.out)
  clear x3
  go_wp2_with fail
  refine (few32 f.few f _ _ W3 (HA.out.below HBW3.out) rfl).mono ?_
  rintro e W4 ⟨rfl, hb4⟩
  have HX4 := bk (HX3.out.below hb4); have HB4 := bk (below0 HBW3.out hb4)
  have hs4 := hb4.size
  clear hb4 cx3
  cases hfew : f.few with
  | false =>
    go_wp2_with fail
    go_ret
    exact ⟨rfl, HB4.out⟩
  | true =>
    have HOK := bk (few_ok f hfew)
    have cx4 := HX4.out.cell
    have lx4 := HX4.out.lt
    go_wp2_with fail
    refine (deadOf hOf f _ _ W4 (HA.out.below HB4.out) HOK.out).mono ?_
    rintro e W5 ⟨⟨v5, vs5, rfl, hv5, hc5⟩, hb5⟩
    obtain ⟨A5, c5, rfl, _⟩ := hv5.form
    obtain ⟨B5, d5, rfl, _⟩ := hc5.form
    have HV5 := bk hv5; have HX5 := bk (HX4.out.below hb5); have HB5 := bk (below0 HB4.out hb5)
    have hs5 := hb5.size
    clear hv5 hc5 hb5 cx4
    go_upto_region 8 with fail
    refine name_world (fun W6 hW6 => ?_)
    have HB56 : Bk (Below W5.heap.size W5 W6) := by subst hW6; exact bk (by repeat (first | exact Below.refl _ _ | exact alloc1 _ _ | refine Below.drew ?_ | refine Below.alloc ?_ (by simp; try omega) _ | refine Below.setCell ?_ (by simp; try omega) _))
    have HT6 : Bk (Bx W6 W5.heap.size #[.int .i64 f.regs, .slice A5 f.dead.blocks.length c5] 24) := by subst hW6; exact bk ((Bx.new _ _ _).alloc _)
    clear hW6
    have HX6 := bk (HX5.out.below HB56.out)
    have HB6 := bk (below0 HB5.out HB56.out)
    have k0 : W6.cell? ⟨w.heap.size, 0, none⟩ = some (.int .i64 f.regs) := HX6.out.cell 0
    have k1 : W6.cell? ⟨w.heap.size, 1, none⟩ = some (.slice A f.blocks.length c) := HX6.out.cell 1
    have k2 : W6.cell? ⟨W5.heap.size, 0, none⟩ = some (.int .i64 f.regs) := HT6.out.cell 0
    have k3 : W6.cell? ⟨W5.heap.size, 1, none⟩ = some (.slice A5 f.dead.blocks.length c5) := HT6.out.cell 1
    refine wp_region_noPanic ?_
    refine wp_region_mix [true, true, false, false, false] (fun w' => w'.cell? ⟨w.heap.size, 0, none⟩ = some (.int .i64 f.regs) ∧ w'.cell? ⟨w.heap.size, 1, none⟩ = some (.slice A f.blocks.length c) ∧ w'.cell? ⟨W5.heap.size, 0, none⟩ = some (.int .i64 f.regs) ∧ w'.cell? ⟨W5.heap.size, 1, none⟩ = some (.slice A5 f.dead.blocks.length c5)) (by kernel_rfl) (by kernel_rfl) (by kernel_rfl) (fun c a w h => h) ⟨k0, k1, k2, k3⟩ ?_
    iterate 2
      refine wpMix_held ?_ (by rfl) ?_ ?_
      rotate_left 1
      · intro w hSw
        obtain ⟨s0, s1, s2, s3⟩ := hSw
        go_simp
        with_reducible rfl
      simp only [Act.put, List.setIfInBounds_toArray, List.set_cons_zero, List.set_cons_succ]
    refine wpMix_step (fun K hK => ?_)
    go_simp
    refine (func32 hOf2 f _ _ _ (HA.out.below HB6.out).drew HOK.out).mono ?_
    rintro e W7 ⟨⟨v7, rfl, hv7⟩, hb7⟩
    have hb7' := undrew hb7
    have HV7 := bk hv7; have HB7 := bk hb7'
    refine hK _ _ ⟨cell_below hb7' k0, cell_below hb7' k1, cell_below hb7' k2, cell_below hb7' k3⟩ ?_
    clear hK K hb7 hv7
    try simp only [Act.put, List.setIfInBounds_toArray, List.set_cons_zero, List.set_cons_succ]
    refine wpMix_step (fun K hK => ?_)
    go_simp
    refine (sameFunc24 f.dead.blocks f.dead.blocks _ _ f.regs f.regs _ _ W7 ((HV5.out.below HB56.out).below HB7.out) HV7.out).mono ?_
    rintro e W8 ⟨rfl, hb8⟩
    rw [show decide ((⟨f.regs, f.dead.blocks⟩ : Fn) = ⟨f.regs, f.dead.blocks⟩) = true from by simp]
    have hb8' := below0 hb7' hb8
    have HB8 := bk (below0 HB6.out hb8')
    refine hK _ _ ⟨cell_below hb8' k0, cell_below hb8' k1, cell_below hb8' k2, cell_below hb8' k3⟩ ?_
    clear hK K hb8 hb7'
    try simp only [Act.put, List.setIfInBounds_toArray, List.set_cons_zero, List.set_cons_succ]
    refine wpMix_step (fun K hK => ?_)
    go_simp
    refine hK _ _ ⟨cell_below hb8' k0, cell_below hb8' k1, cell_below hb8' k2, cell_below hb8' k3⟩ ?_
    clear hK K hb8'
    try simp only [Act.put, List.setIfInBounds_toArray, List.set_cons_zero, List.set_cons_succ]
    refine wpMix_nil ?_
    refine NoPanic.normal ?_
    go_wp2_with fail
    go_ret
    exact ⟨rfl, HB8.out⟩
end Go.Proofs.Ytiaojefhbhodiaa
