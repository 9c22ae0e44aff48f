/-
  Walk: the statement DeadSays.
-/
import Derived.Test.YtiaojefhbhodiaaW32
set_option linter.unusedVariables false
namespace Go.Proofs.Ytiaojefhbhodiaa
open Go.RowKit

theorem rowsB_refl (r : Rows) : rowsB r r = true := by simp [rowsB]

set_option maxRecDepth 100000 in
set_option maxHeartbeats 8000000 in
theorem saysL (hOf : OfL) (hOf2 : Of27L) (f : Fn) (va : Value) (ok : Nat → Prop) (w : World) (ha : Sl RBlk w ok f.blocks va) :
    Calls Try.prog 4 #[.agg #[.int .i64 f.regs, va]] w fun e w' => e = .returned (.bool true) ∧ Below w.heap.size w w' := by
  obtain ⟨A, c, rfl, hc, hn2⟩ := ha.form
  have HA := bk (ha.mono (ok' := fun b => b < w.heap.size) (fun b _ h => h))
  clear ha
  go_enter Try.func4, Try.ntmps4
  go_wp2_with fail
  refine name_world_calls (fun W0 hW0 => ?_)
  have HB0 : Bk (Below w.heap.size w W0) := by subst hW0; exact bk (by repeat (first | exact Below.refl _ _ | exact alloc1 _ _ | refine Below.drew ?_ | refine Below.alloc ?_ (by simp; try omega) _ | refine Below.setCell ?_ (by simp; try omega) _))
  have HX0 : Bk (Bx W0 w.heap.size #[.int .i64 f.regs, .slice A f.blocks.length c] 24) := by subst hW0; exact bk (Bx.new _ _ _)
  clear hW0
  refine (aliveL hOf W0).mono ?_
  rintro e W1 ⟨rfl, hb1⟩
  have x1 := HX0.out.below hb1
  have cx1 := x1.cell
  have HX1 := bk x1; have HB1 := bk (below0 HB0.out hb1)
  clear x1 hb1
  go_wp2_with fail
  refine (few32 f.few f _ _ W1 (HA.out.below HB1.out) rfl).mono ?_
  rintro e W2 ⟨rfl, hb2⟩
  have HX2 := bk (HX1.out.below hb2); have HB2 := bk (below0 HB1.out hb2)
  clear hb2 cx1
  cases hfew : f.few with
  | false =>
    go_wp2_with fail
    go_ret
    exact ⟨rfl, HB2.out⟩
  | true =>
    have HOK := bk (few_ok f hfew)
    have cx2 := HX2.out.cell
    have lx2 := HX2.out.lt
    go_wp2_with fail
    refine (deadOf hOf f _ _ W2 (HA.out.below HB2.out) HOK.out).mono ?_
    rintro e W3 ⟨⟨v3, vs3, rfl, hv3, hc3⟩, hb3⟩
    obtain ⟨A3, c3, rfl, _⟩ := hv3.form
    obtain ⟨B3, d3, rfl, _⟩ := hc3.form
    have HV3 := bk hv3; have HC3 := bk hc3; have HX3 := bk (HX2.out.below hb3); have HB3 := bk (below0 HB2.out hb3)
    have hs3 := hb3.size
    clear hv3 hc3 hb3 cx2
    have cx3 := HX3.out.cell
    have lx3 := HX3.out.lt
    have lx3b : w.heap.size < W3.heap.size + 1 := by omega
    go_wp2_with fail
    refine name_world_calls (fun W4 hW4 => ?_)
    have hz4 : W4.heap.size = W3.heap.size + 2 := by subst hW4; simp
    have HB34 : Bk (Below W3.heap.size W3 W4) := by subst hW4; exact bk (by repeat (first | exact Below.refl _ _ | exact alloc1 _ _ | refine Below.drew ?_ | refine Below.alloc ?_ (by simp; try omega) _ | refine Below.setCell ?_ (by simp; try omega) _))
    have HT3 : Bk (Bx W4 W3.heap.size #[.int .i64 f.regs, .slice A3 f.dead.blocks.length c3] 24) := by subst hW4; exact bk ((Bx.new _ _ _).alloc _)
    have HT4 : Bk (Bx W4 (W3.heap.size + 1) #[.slice B3 f.dead.live.In.length d3] 33) := by subst hW4; exact bk (Bx.new' (by simp))
    clear hW4 cx3
    have HX4 := bk (HX3.out.below HB34.out)
    have HB4 := bk (below0 HB3.out HB34.out)
    refine (of32 hOf2 f _ _ W4 (HA.out.below HB4.out) HOK.out).mono ?_
    rintro e W5 ⟨⟨v5, vs5, rfl, hv5, hc5⟩, hb5⟩
    obtain ⟨A5, c5, rfl, _⟩ := hv5.form
    obtain ⟨B5, d5, rfl, _⟩ := hc5.form
    have HV5 := bk hv5; have HC5 := bk hc5; have HB5 := bk (below0 HB4.out hb5)
    have HB35 := bk (below0 HB34.out hb5)
    have HT3' := bk (HT3.out.below hb5); have HT4' := bk (HT4.out.below hb5)
    have hs5 := hb5.size
    clear hv5 hc5 hb5
    go_upto_region 7 with fail
    refine name_world (fun W6 hW6 => ?_)
    have hz6 : W6.heap.size = W5.heap.size + 2 := by subst hW6; simp
    have HB56 : Bk (Below W5.heap.size W5 W6) := by subst hW6; exact bk (by repeat (first | exact Below.refl _ _ | exact alloc1 _ _ | refine Below.drew ?_ | refine Below.alloc ?_ (by simp; try omega) _ | refine Below.setCell ?_ (by simp; try omega) _))
    have HT6 : Bk (Bx W6 (W5.heap.size + 1) #[.slice B5 f.dead.live.In.length d5] 33) := by subst hW6; exact bk (Bx.new' (by simp))
    clear hW6
    have HB6 := bk (below0 HB5.out HB56.out)
    have HB36 := bk (below0 HB35.out HB56.out)
    have t3 := HT3'.out.below HB56.out
    have t4 := HT4'.out.below HB56.out
    have k0 : W6.cell? ⟨W3.heap.size, 0, none⟩ = some (.int .i64 f.regs) := t3.cell 0
    have k1 : W6.cell? ⟨W3.heap.size, 1, none⟩ = some (.slice A3 f.dead.blocks.length c3) := t3.cell 1
    have k2 : W6.cell? ⟨W3.heap.size + 1, 0, none⟩ = some (.slice B3 f.dead.live.In.length d3) := t4.cell 0
    have k3 : W6.cell? ⟨W5.heap.size + 1, 0, none⟩ = some (.slice B5 f.dead.live.In.length d5) := HT6.out.cell 0
    have HV6 := bk (HV3.out.below HB36.out)
    have HC6 := bk (HC3.out.below HB36.out)
    have HC56 := bk (HC5.out.below HB56.out)
    have HDOK := bk (dead_ok f HOK.out)
    have hre := rowsB_refl f.dead.live.In
    have HRE := bk hre
    have HR := bk @rows27
    have HDR := bk (dead_regs f)
    clear t3 t4 hre
    have HLV := bk (fun (W : World) (h : Sl RBlk W (fun c => W2.heap.size ≤ c) f.dead.blocks (.slice A3 f.dead.blocks.length c3)) => hOf2 f.dead _ _ W h HDOK.out.idx)
    rw [HDR.out] at HLV
    generalize f.dead = g at *
    refine wp_region_noPanic ?_
    refine wp_region_mix [true, true, true, true, false, true, true, true, true, false, true, false, true, false] (fun w' => w'.cell? ⟨W3.heap.size, 0, none⟩ = some (.int .i64 f.regs) ∧ w'.cell? ⟨W3.heap.size, 1, none⟩ = some (.slice A3 g.blocks.length c3) ∧ w'.cell? ⟨W3.heap.size + 1, 0, none⟩ = some (.slice B3 g.live.In.length d3) ∧ w'.cell? ⟨W5.heap.size + 1, 0, none⟩ = some (.slice B5 g.live.In.length d5)) (by kernel_rfl) (by kernel_rfl) (by kernel_rfl) (fun c a w h => h) ⟨k0, k1, k2, k3⟩ ?_
    iterate 4
      refine wpMix_held ?_ (by rfl) ?_ ?_
      rotate_left 1
      · intro w hSw
        obtain ⟨s0, s1, s2, s3⟩ := hSw
        go_simp
        with_reducible rfl
      simp only [Act.put, List.setIfInBounds_toArray, List.set_cons_zero, List.set_cons_succ]
    refine wpMix_step (fun K hK => ?_)
    go_simp
    refine (HR.out g.live.In g.live.In _ _ _ _ _ HC6.out.drew HC56.out.drew).mono ?_
    rintro e W7 ⟨rfl, hb7⟩
    rw [HRE.out]
    have hb7' := undrew hb7
    refine hK _ _ ⟨cell_below hb7' k0, cell_below hb7' k1, cell_below hb7' k2, cell_below hb7' k3⟩ ?_
    clear hK K hb7
    try simp only [Act.put, List.setIfInBounds_toArray, List.set_cons_zero, List.set_cons_succ]
    iterate 4
      refine wpMix_held ?_ (by rfl) ?_ ?_
      rotate_left 1
      · intro w hSw
        obtain ⟨s0, s1, s2, s3⟩ := hSw
        go_simp
        with_reducible rfl
      simp only [Act.put, List.setIfInBounds_toArray, List.set_cons_zero, List.set_cons_succ]
    refine wpMix_step (fun K hK => ?_)
    go_simp
    refine (HLV.out _ (HV6.out.below hb7')).mono ?_
    rintro e W8 ⟨⟨vi, vo, rfl, hI, hO⟩, hb8⟩
    obtain ⟨Ai, ci, rfl, _⟩ := hI.form
    obtain ⟨Ao, co, rfl, _⟩ := hO.form
    have hfd : ∀ w : World, (Instr.field 41 (.agg #[.slice Ai g.live.In.length ci, .slice Ao g.live.Out.length co]) 0).run Try.prog w = .ok (.slice Ai g.live.In.length ci) w := fun _ => by kernel_rfl
    have HI := bk hI
    have hb8' := below0 hb7' hb8
    refine hK _ _ ⟨cell_below hb8' k0, cell_below hb8' k1, cell_below hb8' k2, cell_below hb8' k3⟩ ?_
    clear hK K hb8 hI hO
    try simp only [Act.put, List.setIfInBounds_toArray, List.set_cons_zero, List.set_cons_succ]
    iterate 1
      refine wpMix_held ?_ (by rfl) ?_ ?_
      rotate_left 1
      · intro w hSw
        obtain ⟨s0, s1, s2, s3⟩ := hSw
        go_simp
        with_reducible rfl
      simp only [Act.put, List.setIfInBounds_toArray, List.set_cons_zero, List.set_cons_succ]
    refine wpMix_step (fun K hK => ?_)
    go_simp
    refine (HR.out g.live.In g.live.In _ _ _ _ _ (HC6.out.below hb8') HI.out).mono ?_
    rintro e W9 ⟨rfl, hb9⟩
    rw [HRE.out]
    have hb9' := below0 hb8' hb9
    have HB9 := bk (below0 HB6.out hb9')
    refine hK _ _ ⟨cell_below hb9' k0, cell_below hb9' k1, cell_below hb9' k2, cell_below hb9' k3⟩ ?_
    clear hK K hb9 hb7' hb8'
    try simp only [Act.put, List.setIfInBounds_toArray, List.set_cons_zero, List.set_cons_succ]
    iterate 1
      refine wpMix_held ?_ (by rfl) ?_ ?_
      rotate_left 1
      · intro w hSw
        obtain ⟨s0, s1, s2, s3⟩ := hSw
        go_simp
        with_reducible rfl
      simp only [Act.put, List.setIfInBounds_toArray, List.set_cons_zero, List.set_cons_succ]
    refine wpMix_step (fun K hK => ?_)
    go_simp
    refine hK _ _ ⟨cell_below hb9' k0, cell_below hb9' k1, cell_below hb9' k2, cell_below hb9' k3⟩ ?_
    clear hK K hb9'
    try simp only [Act.put, List.setIfInBounds_toArray, List.set_cons_zero, List.set_cons_succ]
    refine wpMix_nil ?_
    refine NoPanic.normal ?_
    go_wp2_with fail
    go_ret
    exact ⟨rfl, HB9.out⟩
end Go.Proofs.Ytiaojefhbhodiaa
