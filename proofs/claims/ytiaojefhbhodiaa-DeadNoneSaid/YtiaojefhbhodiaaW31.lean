/-
  Walk: seedcornref32.Of: a function without what is dead, and the certificate: the document's answer.
-/
import Derived.Test.YtiaojefhbhodiaaW30
set_option linter.unusedVariables false
namespace Go.Proofs.Ytiaojefhbhodiaa
open Go.RowKit

theorem dead_regs (f : Fn) : f.dead.regs = f.regs := by
  rw [Fn.dead]
  split
  · rename_i h
    exact dead_regs f.once
  · rfl
termination_by f.count
theorem dead_ok (f : Fn) (hf : f.ok) : f.dead.ok := by
  rw [Fn.dead]
  split
  · rename_i h
    exact dead_ok f.once (once_ok f hf)
  · exact once_ok f hf
termination_by f.count

set_option maxRecDepth 100000 in
set_option maxHeartbeats 4000000 in
theorem of32 (hOf : Of27L) (f : Fn) (va : Value) (ok : Nat → Prop) (w : World) (ha : Sl RBlk w ok f.blocks va) (hf : f.ok) :
    Calls Try.prog 16 #[.agg #[.int .i64 f.regs, va]] w
    fun e w' => (∃ v vs, e = .returned (.tuple #[.agg #[.int .i64 f.regs, v], .agg #[vs]]) ∧ Sl RBlk w' (fun c => w.heap.size ≤ c) f.dead.blocks v ∧ Sl (.slice RB) w' (fun c => w.heap.size ≤ c) f.dead.live.In vs) ∧ Below w.heap.size w w' := by
  obtain ⟨A, c, rfl, hc, hn2⟩ := ha.form
  have HA := bk ha; have HF := bk hf
  clear ha hf
  go_enter Try.func16, Try.ntmps16
  go_wp2_with fail
  refine name_world_calls (fun W0 hW0 => ?_)
  have hz : W0.heap.size = w.heap.size + 3 := by subst hW0; simp
  have HR0 : Bk (Bx W0 (w.heap.size + 1) #[.int .i64 0, .slice none 0 0] 24) := by subst hW0; exact bk ((Bx.new' (by simp)).alloc _)
  have HC0 : Bk (Bx W0 (w.heap.size + 1 + 1) #[.slice none 0 0] 33) := by subst hW0; exact bk (Bx.new' (by simp))
  have HB0 : Bk (Below w.heap.size w W0) := by subst hW0; exact bk (by repeat (first | exact Below.refl _ _ | exact alloc1 _ _ | refine Below.drew ?_ | refine Below.alloc ?_ (by simp; try omega) _ | refine Below.setCell ?_ (by simp; try omega) _))
  clear hW0
  refine (func32 hOf f _ ok W0 (HA.out.below HB0.out) HF.out).mono ?_
  rintro e W1 ⟨⟨v0, rfl, hv0⟩, hb1⟩
  obtain ⟨Av, cv, rfl, _⟩ := hv0.form
  have HV0 := bk (hv0.mono (ok' := fun b => W0.heap.size ≤ b ∧ b < W1.heap.size) (fun b h1 h2 => ⟨h1, h2⟩))
  have HR1 := bk (HR0.out.below hb1)
  have HC1 := bk (HC0.out.below hb1)
  have HB1 := bk (below0 HB0.out hb1)
  have hs1 := hb1.size
  clear hv0 hb1
  go_upto_region 2 with fail
  refine name_world (fun wr hW2 => ?_)
  have hz2 : wr.heap.size = W1.heap.size + 1 := by subst hW2; simp
  have HB12 : Bk (Below W1.heap.size W1 wr) := by subst hW2; exact bk (alloc1 _ _)
  have HOUT : Bk (Bx wr W1.heap.size #[.int .i64 f.regs, .slice Av f.dead.blocks.length cv] 24) := by subst hW2; exact bk (Bx.new _ _ _)
  clear hW2
  have HV := bk (HV0.out.below HB12.out)
  have HBF := bk (below0 HB1.out HB12.out)
  have HOK := bk (dead_ok f HF.out)
  have HLV := bk (fun (W : World) (h : Sl RBlk W (fun b => W0.heap.size ≤ b ∧ b < W1.heap.size) f.dead.blocks (.slice Av f.dead.blocks.length cv)) => hOf f.dead _ _ W h HOK.out.idx)
  rw [dead_regs f] at HLV
  generalize hg : f.dead = g at *
  have HG := bk hg
  clear hg
  have hc0 : wr.cell? ⟨W1.heap.size, 0, none⟩ = some (.int .i64 f.regs) := HOUT.out.cell 0
  have hc1 : wr.cell? ⟨W1.heap.size, 1, none⟩ = some (.slice Av g.blocks.length cv) := HOUT.out.cell 1
  have xr := HR1.out.below HB12.out
  have xc := HC1.out.below HB12.out
  have XR := bk xr; have XC := bk xc
  have lr := xr.lt
  have lc := xc.lt
  clear xr xc
  refine wp_region_noPanic ?_
  refine wp_region_mix [true, true, false, true, true, false, false] (fun w' => w'.cell? ⟨W1.heap.size, 0, none⟩ = some (.int .i64 f.regs) ∧ w'.cell? ⟨W1.heap.size, 1, none⟩ = some (.slice Av g.blocks.length cv)) (by kernel_rfl) (by kernel_rfl) (by kernel_rfl) (fun c a w h => h) ⟨hc0, hc1⟩ ?_
  iterate 2
    refine wpMix_held ?_ (by rfl) ?_ ?_
    rotate_left 1
    · intro w hSw
      obtain ⟨s1, s2⟩ := hSw
      go_simp
      with_reducible rfl
    simp only [Act.put, List.setIfInBounds_toArray, List.set_cons_zero, List.set_cons_succ]
  refine wpMix_step (fun K hK => ?_)
  go_simp
  refine (HLV.out _ HV.out.drew).mono ?_
  rintro e W5 ⟨⟨vi, vo, rfl, hI, hO⟩, hb5⟩
  obtain ⟨Ai, ci, rfl, _⟩ := hI.form
  obtain ⟨Ao, co, rfl, _⟩ := hO.form
  have hfd : ∀ w : World, (Instr.field 41 (.agg #[.slice Ai g.live.In.length ci, .slice Ao g.live.Out.length co]) 0).run Try.prog w = .ok (.slice Ai g.live.In.length ci) w := fun _ => by kernel_rfl
  have hb5' := undrew hb5
  have h50 := cell_below hb5' hc0
  have h51 := cell_below hb5' hc1
  have xr5 := XR.out.below hb5'
  have xc5 := XC.out.below hb5'
  have cr5 := xr5.cell
  have fr5 := xr5.frozen
  have cc5 := xc5.cell
  have fc5 := xc5.frozen
  have l15 := xr5.lt
  have HI := bk hI; have HB5 := bk hb5'; have XR5 := bk xr5; have XC5 := bk xc5
  have hs5 := hb5'.size
  clear hI hO hb5 hb5' xr5 xc5
  refine hK _ _ ⟨h50, h51⟩ ?_
  clear hK K
  try simp only [Act.put, List.setIfInBounds_toArray, List.set_cons_zero, List.set_cons_succ]
  iterate 2
    refine wpMix_held ?_ (by rfl) ?_ ?_
    rotate_left 1
    · intro w hSw
      obtain ⟨s1, s2⟩ := hSw
      go_simp
      with_reducible rfl
    simp only [Act.put, List.setIfInBounds_toArray, List.set_cons_zero, List.set_cons_succ]
  have hne1 : w.heap.size + 1 ≠ w.heap.size + 1 + 1 := by omega
  have hne2 : w.heap.size + 1 + 1 ≠ w.heap.size + 1 := by omega
  refine wpMix_step (fun K hK => ?_)
  go_simp
  have FS1 : Fr (fun b => b = w.heap.size + 1 ∨ b = w.heap.size + 1 + 1) W5 ((W5.setCell ⟨w.heap.size + 1, 0, none⟩ (.int .i64 f.regs)).setCell ⟨w.heap.size + 1, 1, none⟩ (.slice Av g.blocks.length cv)) := ((Fr.refl (fun b => b = w.heap.size + 1 ∨ b = w.heap.size + 1 + 1) W5).setCell (p := ⟨w.heap.size + 1, 0, none⟩) (fun _ => .inl rfl) _).setCell (p := ⟨w.heap.size + 1, 1, none⟩) (fun _ => .inl rfl) _
  have FS2 := FS1.setCell (p := ⟨w.heap.size + 1 + 1, 0, none⟩) (fun _ => .inr rfl) (.slice Ai g.live.In.length ci)
  have nS1 : ¬ (W1.heap.size = w.heap.size + 1 ∨ W1.heap.size = w.heap.size + 1 + 1) := by omega
  refine hK _ _ ⟨fr_cell (a := ⟨W1.heap.size, 0, none⟩) FS1 h50 nS1, fr_cell (a := ⟨W1.heap.size, 1, none⟩) FS1 h51 nS1⟩ ?_
  clear hK K
  try simp only [Act.put, List.setIfInBounds_toArray, List.set_cons_zero, List.set_cons_succ]
  have xr6 := ((XR5.out.set 0 (.int .i64 f.regs)).set 1 (.slice Av g.blocks.length cv)).other ⟨w.heap.size + 1 + 1, 0, none⟩ (.slice Ai g.live.In.length ci) hne1
  have xc6 := ((XC5.out.other ⟨w.heap.size + 1, 0, none⟩ (.int .i64 f.regs) hne2).other ⟨w.heap.size + 1, 1, none⟩ (.slice Av g.blocks.length cv) hne2).set 0 (.slice Ai g.live.In.length ci)
  have hr0 := xr6.cell 0
  have hr1 := xr6.cell 1
  have hr2 := xc6.cell 0
  simp at hr0 hr1 hr2
  clear xr6 xc6
  have HFS1 := bk FS1; have HFS2 := bk FS2
  clear FS1
  refine wpMix_step (fun K hK => ?_)
  go_simp
  refine hK _ _ ⟨fr_cell (a := ⟨W1.heap.size, 0, none⟩) FS2 h50 nS1, fr_cell (a := ⟨W1.heap.size, 1, none⟩) FS2 h51 nS1⟩ ?_
  clear hK K FS2
  refine wpMix_nil ?_
  refine NoPanic.normal ?_
  go_wp2_with fail
  refine bodyPost_ret (v := .tuple #[.agg #[.int .i64 f.regs, .slice Av g.blocks.length cv], .agg #[.slice Ai g.live.In.length ci]]) (by simp [results, Try.results16, go_sem, hr0, hr1, hr2]) rfl ⟨⟨_, _, rfl, ?_, ?_⟩, ?_⟩
  · rw [HG.out]
    exact ((HV.out.below HB5.out).fr HFS2.out (fun b hb _ => by omega)).mono (fun b hb _ => by omega)
  · rw [HG.out]
    exact (HI.out.fr HFS2.out (fun b hb _ => by simp at hb; omega)).mono (fun b hb _ => by simp at hb; omega)
  · have hbw := below0 HBF.out HB5.out
    exact hbw.trans (HFS2.out.to_below (fun b hb => by omega) hbw.size)
end Go.Proofs.Ytiaojefhbhodiaa
