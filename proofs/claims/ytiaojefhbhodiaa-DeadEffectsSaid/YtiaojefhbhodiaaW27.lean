/-
  Walk: the statement DeadEffects.
-/
import Derived.Test.YtiaojefhbhodiaaW26
import Derived.Test.YtiaojefhbhodiaaW25
import Derived.Deep.CutRange
set_option linter.unusedVariables false
namespace Go.Proofs.Ytiaojefhbhodiaa
open Go.RowKit

set_option maxRecDepth 100000 in
set_option maxHeartbeats 16000000 in
theorem effectsL (hOf : OfL) (f : Fn) (va : Value) (ok : Nat → Prop) (w : World) (ha : Sl RBlk w ok f.blocks va) :
    Calls Try.prog 6 #[.agg #[.int .i64 f.regs, va]] w fun e w' => e = .returned (.bool true) ∧ Below w.heap.size w w' := by
  obtain ⟨A, c, rfl, hc, hn2⟩ := ha.form
  have HA := bk (ha.mono (ok' := fun b => b < w.heap.size) (fun b _ h => h))
  clear ha
  go_enter Try.func6, Try.ntmps6
  go_wp2_with fail
  refine name_world_calls (fun W0 hW0 => ?_)
  have HB0 : Bk (Below w.heap.size w W0) := by subst hW0; exact bk (by repeat (first | exact Below.refl _ _ | exact alloc1 _ _ | refine Below.drew ?_ | refine Below.alloc ?_ (by simp; try omega) _ | refine Below.setCell ?_ (by simp; try omega) _))
  have HX0 : Bk (Bx W0 w.heap.size #[.int .i64 f.regs, .slice A f.blocks.length c] 24) := by subst hW0; exact bk (Bx.new _ _ _)
  clear hW0
  refine (aliveL hOf W0).mono ?_
  rintro e W1 ⟨rfl, hb1⟩
  have x1 := HX0.out.below hb1
  have cx1 := x1.cell
  have HX1 := bk x1; have HB1 := bk (below0 HB0.out hb1)
  clear x1 hb1
  go_wp2_with fail
  refine (few32 f.few f _ _ W1 (HA.out.below HB1.out) rfl).mono ?_
  rintro e W2 ⟨rfl, hb2⟩
  have x2 := HX1.out.below hb2
  have cx2 := x2.cell
  have HX2 := bk x2; have HB2 := bk (below0 HB1.out hb2)
  clear x2 hb2 cx1
  cases hfew : f.few with
  | false =>
    go_wp2_with fail
    go_ret
    exact ⟨rfl, HB2.out⟩
  | true =>
    have HOK := bk (few_ok f hfew)
    have HSUB := bk (dead_sub f)
    go_wp2_with fail
    refine (deadOf hOf f _ _ W2 (HA.out.below HB2.out) HOK.out).mono ?_
    rintro e W3 ⟨⟨v3, vs3, rfl, hv3, hc3⟩, hb3⟩
    obtain ⟨A3, c3, rfl, _⟩ := hv3.form
    obtain ⟨B3, d3, rfl, _⟩ := hc3.form
    have hlen : f.dead.blocks.length = f.blocks.length := HSUB.out.len
    rw [hlen] at hv3 ⊢
    have x3 := HX2.out.below hb3
    have cx3 := x3.cell
    have lx3 := x3.lt
    have lx3b : w.heap.size < W3.heap.size + 1 := by omega
    have HX3 := bk x3; have HB3 := bk (below0 HB2.out hb3)
    have HV3 := bk (hv3.mono (ok' := fun b => b < W3.heap.size) (fun b _ h => h))
    clear x3 hb3 hv3 hc3 cx2
    have HLEN := bk hlen
    clear hlen
    go_wp2_with fail
    refine name_world (fun W4 hW4 => ?_)
    have hz4 : W4.heap.size = W3.heap.size + 2 := by subst hW4; simp
    have HB34 : Bk (Below W3.heap.size W3 W4) := by subst hW4; exact bk (by repeat (first | exact Below.refl _ _ | exact alloc1 _ _ | refine Below.drew ?_ | refine Below.alloc ?_ (by simp; try omega) _ | refine Below.setCell ?_ (by simp; try omega) _))
    have HT3 : Bk (Bx W4 W3.heap.size #[.int .i64 f.regs, .slice A3 f.blocks.length c3] 24) := by subst hW4; exact bk ((Bx.new _ _ _).alloc _)
    clear hW4 cx3
    have HX4 := bk (HX3.out.below HB34.out)
    have HV4 := bk (HV3.out.below HB34.out)
    have HB4 := bk (below0 HB3.out HB34.out)
    have HA4 := bk (HA.out.below HB4.out)
    go_loopw [5] (fun jj wr => ∃ i : Nat, i ≤ f.blocks.length ∧ jj = .int .i64 i ∧ Below W4.heap.size W4 wr) (fun jj _ => f.blocks.length - (intOf jj).toNat)
    case atStart => exact ⟨0, Nat.zero_le _, rfl, Below.refl _ _⟩
    case round =>
      obtain ⟨Wi, rfl⟩ : ∃ W', W' = wr := ⟨_, rfl⟩
      obtain ⟨i, hi, rfl, hbi⟩ := hrel
      have HBI := bk hbi
      have hsi := hbi.size
      have e1 : Wi.cell? ⟨w.heap.size, 1, none⟩ = some (.slice A f.blocks.length c) := (HX4.out.below hbi).cell 1
      have e3 : Wi.cell? ⟨W3.heap.size, 1, none⟩ = some (.slice A3 f.blocks.length c3) := (HT3.out.below hbi).cell 1
      clear hbi
      by_cases hlt : i < f.blocks.length
      · have hlt2 : i < f.dead.blocks.length := by rw [HLEN.out]; exact hlt
        obtain ⟨g, o, B, m, hA, hgw, hg, hxi, hxn, q0, q1, q2, q3, q4⟩ := (HA4.out.below HBI.out).blk i hlt
        obtain ⟨g3, o3, By, my, hA3, hg3w, hg3, hyi, hyn, r0, r1, r2, r3, r4⟩ := (HV4.out.below HBI.out).blk i hlt2
        subst hA hA3
        have hsb := HSUB.out.blk i hlt hlt2
        rw [hsb.hfin] at r1
        rw [hsb.hv] at r2
        rw [hsb.hto] at r3
        rw [hsb.hels] at r4
        have HSI := bk hsb.ins
        have HXI := bk hxi; have HYI := bk hyi
        clear hxi hyi hsb
        generalize f.blocks[i] = x at *
        generalize f.dead.blocks[i] = y at *
        have p1 : W3.heap.size < Wi.heap.size := by omega
        go_wp2_with fail
        go_cut [6, 7] from 41 to 50 (fun s6 s7 wx => ∃ b6 b7, s6 = .pointer (some ⟨b6, 0, none⟩) ∧ s7 = .pointer (some ⟨b7, 0, none⟩) ∧ Bx wx b6 #[.slice B x.ins.length m, .int .i64 x.fin, .int .i64 x.v, .int .i64 x.to, .int .i64 x.els] 54 ∧
          Bx wx b7 #[.slice By y.ins.length my, .int .i64 x.fin, .int .i64 x.v, .int .i64 x.to, .int .i64 x.els] 54 ∧ Below Wi.heap.size Wi wx)
        case first =>
          go_region_held3 (fun w' => w'.cell? ⟨w.heap.size, 1, none⟩ = some (.slice (some ⟨g, o, none⟩) f.blocks.length c) ∧ w'.cell? ⟨W3.heap.size, 1, none⟩ = some (.slice (some ⟨g3, o3, none⟩) f.blocks.length c3) ∧ w'.cell? ⟨g, o + i * 5, none⟩ = some (.slice B x.ins.length m) ∧ w'.cell? ⟨g, o + i * 5 + 1, none⟩ = some (.int .i64 x.fin) ∧ w'.cell? ⟨g, o + i * 5 + 2, none⟩ = some (.int .i64 x.v) ∧ w'.cell? ⟨g, o + i * 5 + 3, none⟩ = some (.int .i64 x.to) ∧ w'.cell? ⟨g, o + i * 5 + 4, none⟩ = some (.int .i64 x.els) ∧ w'.cell? ⟨g3, o3 + i * 5, none⟩ = some (.slice By y.ins.length my) ∧ w'.cell? ⟨g3, o3 + i * 5 + 1, none⟩ = some (.int .i64 x.fin) ∧ w'.cell? ⟨g3, o3 + i * 5 + 2, none⟩ = some (.int .i64 x.v) ∧ w'.cell? ⟨g3, o3 + i * 5 + 3, none⟩ = some (.int .i64 x.to) ∧ w'.cell? ⟨g3, o3 + i * 5 + 4, none⟩ = some (.int .i64 x.els))
            (exact ⟨cell_below (by repeat (first | exact Below.refl _ _ | exact alloc1 _ _ | refine Below.drew ?_ | refine Below.alloc ?_ (by simp; try omega) _ | refine Below.setCell ?_ (by simp; try omega) _)) e1, cell_below (by repeat (first | exact Below.refl _ _ | exact alloc1 _ _ | refine Below.drew ?_ | refine Below.alloc ?_ (by simp; try omega) _ | refine Below.setCell ?_ (by simp; try omega) _)) e3, cell_below (by repeat (first | exact Below.refl _ _ | exact alloc1 _ _ | refine Below.drew ?_ | refine Below.alloc ?_ (by simp; try omega) _ | refine Below.setCell ?_ (by simp; try omega) _)) q0, cell_below (by repeat (first | exact Below.refl _ _ | exact alloc1 _ _ | refine Below.drew ?_ | refine Below.alloc ?_ (by simp; try omega) _ | refine Below.setCell ?_ (by simp; try omega) _)) q1, cell_below (by repeat (first | exact Below.refl _ _ | exact alloc1 _ _ | refine Below.drew ?_ | refine Below.alloc ?_ (by simp; try omega) _ | refine Below.setCell ?_ (by simp; try omega) _)) q2, cell_below (by repeat (first | exact Below.refl _ _ | exact alloc1 _ _ | refine Below.drew ?_ | refine Below.alloc ?_ (by simp; try omega) _ | refine Below.setCell ?_ (by simp; try omega) _)) q3, cell_below (by repeat (first | exact Below.refl _ _ | exact alloc1 _ _ | refine Below.drew ?_ | refine Below.alloc ?_ (by simp; try omega) _ | refine Below.setCell ?_ (by simp; try omega) _)) q4, cell_below (by repeat (first | exact Below.refl _ _ | exact alloc1 _ _ | refine Below.drew ?_ | refine Below.alloc ?_ (by simp; try omega) _ | refine Below.setCell ?_ (by simp; try omega) _)) r0, cell_below (by repeat (first | exact Below.refl _ _ | exact alloc1 _ _ | refine Below.drew ?_ | refine Below.alloc ?_ (by simp; try omega) _ | refine Below.setCell ?_ (by simp; try omega) _)) r1, cell_below (by repeat (first | exact Below.refl _ _ | exact alloc1 _ _ | refine Below.drew ?_ | refine Below.alloc ?_ (by simp; try omega) _ | refine Below.setCell ?_ (by simp; try omega) _)) r2, cell_below (by repeat (first | exact Below.refl _ _ | exact alloc1 _ _ | refine Below.drew ?_ | refine Below.alloc ?_ (by simp; try omega) _ | refine Below.setCell ?_ (by simp; try omega) _)) r3, cell_below (by repeat (first | exact Below.refl _ _ | exact alloc1 _ _ | refine Below.drew ?_ | refine Below.alloc ?_ (by simp; try omega) _ | refine Below.setCell ?_ (by simp; try omega) _)) r4⟩) (fail)
          all_goals
            go_wp2_with fail
            go_meet
            apply Exists.intro
            apply Exists.intro
            refine ⟨rfl, rfl, ?_, ?_, ?_⟩
            · repeat (first | with_reducible refine Bx.drew ?_ | (refine Bx.new' ?_; simp; done) | with_reducible refine Bx.alloc ?_ _)
            · repeat (first | with_reducible refine Bx.drew ?_ | (refine Bx.new' ?_; simp; done) | with_reducible refine Bx.alloc ?_ _)
            · exact (by repeat (first | exact Below.refl _ _ | exact alloc1 _ _ | refine Below.drew ?_ | refine Below.alloc ?_ (by simp; try omega) _ | refine Below.setCell ?_ (by simp; try omega) _))
        case rest =>
          obtain ⟨b6, b7, rfl, rfl, x6, x7, hbx⟩ := hcut
          have X6 := bk x6; have X7 := bk x7
          have HBX := bk (HBI.out.trans (hbx.mono (by omega)))
          have HXW := bk (HXI.out.below hbx); have HYW := bk (HYI.out.below hbx)
          have c6 := x6.cell
          have c7 := x7.cell
          have hsx := hbx.size
          clear x6 x7 hbx e1 e3 q0 q1 q2 q3 q4 r0 r1 r2 r3 r4 HXI HYI
          go_wp2_with fail
          go_loopw [8, 9] (fun sk sj wr => ∃ j k : Nat, j ≤ x.ins.length ∧ k ≤ y.ins.length ∧ sj = .int .i64 j ∧ sk = .int .i64 k ∧ Sub (x.ins.drop j) (y.ins.drop k) ∧ Below wc.heap.size wc wr) (fun _ sj _ => x.ins.length - (intOf sj).toNat)
          case atStart => exact ⟨0, 0, Nat.zero_le _, Nat.zero_le _, rfl, rfl, HSI.out, Below.refl _ _⟩
          case round =>
            obtain ⟨Wj, rfl⟩ : ∃ W', W' = wr := ⟨_, rfl⟩
            obtain ⟨j, k, hj, hk, rfl, rfl, hsub, hbj⟩ := hrel
            have HSJ := bk hsub; have HBJ := bk hbj
            have z6 : Wj.cell? ⟨b6, 0, none⟩ = some (.slice B x.ins.length m) := (X6.out.below hbj).cell 0
            have z7 : Wj.cell? ⟨b7, 0, none⟩ = some (.slice By y.ins.length my) := (X7.out.below hbj).cell 0
            clear hsub hbj c6 c7
            by_cases hlj : j < x.ins.length
            · obtain ⟨gx, ox, hBx, _, _, hrx, _⟩ := (HXW.out.below HBJ.out).tac j hlj
              subst hBx
              obtain ⟨a0, a1, a2, a3, a4, a5, a6, a7⟩ := hrx.tac
              have hdx : x.ins.drop j = x.ins[j] :: x.ins.drop (j + 1) := List.drop_eq_getElem_cons hlj
              rw [hdx] at HSJ
              clear hrx hdx
              by_cases hky : k < y.ins.length
              · obtain ⟨gy, oy, hBy, _, _, hry, _⟩ := (HYW.out.below HBJ.out).tac k hky
                subst hBy
                obtain ⟨b0, b1, b2, b3, b4, b5, b6y, b7y⟩ := hry.tac
                have hdy : y.ins.drop k = y.ins[k] :: y.ins.drop (k + 1) := List.drop_eq_getElem_cons hky
                rw [hdy] at HSJ
                have HDY := bk hdy
                clear hry hdy
                generalize x.ins[j] = tx at *
                generalize y.ins[k] = ty at *
                have heq : ∀ w : World, (binOp .eql 27 (.agg #[.int .i64 ty.op, .int .i64 ty.d, .int .i64 ty.a, .int .i64 ty.b, .int .i64 ty.k, .int .i64 ty.base, .int .i64 ty.size, .int .u32 ty.n]) (.agg #[.int .i64 tx.op, .int .i64 tx.d, .int .i64 tx.a, .int .i64 tx.b, .int .i64 tx.k, .int .i64 tx.base, .int .i64 tx.size, .int .u32 tx.n])).run Try.prog w = .ok (.bool (decide (ty = tx))) w := fun w => by
                  rw [run_eql_struct]
                  rw [show (10000 : Nat) = 9998 + 2 from rfl, eqTac]
                  rfl
                by_cases he : ty = tx
                · rw [show decide (ty = tx) = true from decide_eq_true he] at heq
                  have HNX : Bk (Sub (x.ins.drop (j + 1)) (y.ins.drop (k + 1))) := bk (by
                    have h := HSJ.out
                    rw [he] at h
                    exact h.match)
                  clear he
                  go_upto_region 18 with fail
                  refine wp_region_noPanic ?_
                  refine wp_region_mix [true, true, true, true, true, true, true, true, true, true, true, true, true, true, true, true, true, true] (fun w' => w'.cell? ⟨b6, 0, none⟩ = some (.slice (some ⟨gx, ox, none⟩) x.ins.length m) ∧ w'.cell? ⟨b7, 0, none⟩ = some (.slice (some ⟨gy, oy, none⟩) y.ins.length my) ∧ w'.cell? ⟨gx, ox + j * 8, none⟩ = some (.int .i64 tx.op) ∧ w'.cell? ⟨gx, ox + j * 8 + 1, none⟩ = some (.int .i64 tx.d) ∧ w'.cell? ⟨gx, ox + j * 8 + 2, none⟩ = some (.int .i64 tx.a) ∧ w'.cell? ⟨gx, ox + j * 8 + 3, none⟩ = some (.int .i64 tx.b) ∧ w'.cell? ⟨gx, ox + j * 8 + 4, none⟩ = some (.int .i64 tx.k) ∧ w'.cell? ⟨gx, ox + j * 8 + 5, none⟩ = some (.int .i64 tx.base) ∧ w'.cell? ⟨gx, ox + j * 8 + 6, none⟩ = some (.int .i64 tx.size) ∧ w'.cell? ⟨gx, ox + j * 8 + 7, none⟩ = some (.int .u32 tx.n) ∧ w'.cell? ⟨gy, oy + k * 8, none⟩ = some (.int .i64 ty.op) ∧ w'.cell? ⟨gy, oy + k * 8 + 1, none⟩ = some (.int .i64 ty.d) ∧ w'.cell? ⟨gy, oy + k * 8 + 2, none⟩ = some (.int .i64 ty.a) ∧ w'.cell? ⟨gy, oy + k * 8 + 3, none⟩ = some (.int .i64 ty.b) ∧ w'.cell? ⟨gy, oy + k * 8 + 4, none⟩ = some (.int .i64 ty.k) ∧ w'.cell? ⟨gy, oy + k * 8 + 5, none⟩ = some (.int .i64 ty.base) ∧ w'.cell? ⟨gy, oy + k * 8 + 6, none⟩ = some (.int .i64 ty.size) ∧ w'.cell? ⟨gy, oy + k * 8 + 7, none⟩ = some (.int .u32 ty.n)) (by kernel_rfl) (by kernel_rfl) (by kernel_rfl) (fun c a w h => h) ⟨z6, z7, a0, a1, a2, a3, a4, a5, a6, a7, b0, b1, b2, b3, b4, b5, b6y, b7y⟩ ?_
                  iterate 18
                    refine wpMix_held ?_ (by rfl) ?_ ?_
                    rotate_left 1
                    · intro w hSw
                      obtain ⟨s0, s1, s2, s3, s4, s5, s6, s7, s8, s9, s10, s11, s12, s13, s14, s15, s16, s17⟩ := hSw
                      go_simp
                      with_reducible rfl
                    simp only [Act.put, List.setIfInBounds_toArray, List.set_cons_zero, List.set_cons_succ]
                  refine wpMix_nil ?_
                  refine NoPanic.normal ?_
                  go_wp2_with fail
                  go_roundw
                  case measure => simp [intOf]; omega
                  case rel => exact ⟨j + 1, k + 1, by omega, by omega, by go_num, by go_num, HNX.out, HBJ.out.drew⟩
                · rw [show decide (ty = tx) = false from decide_eq_false he] at heq
                  have HMISS := bk (HSJ.out.miss (fun z e => he (List.cons.inj e).1))
                  clear he
                  go_upto_region 18 with fail
                  refine wp_region_noPanic ?_
                  refine wp_region_mix [true, true, true, true, true, true, true, true, true, true, true, true, true, true, true, true, true, true] (fun w' => w'.cell? ⟨b6, 0, none⟩ = some (.slice (some ⟨gx, ox, none⟩) x.ins.length m) ∧ w'.cell? ⟨b7, 0, none⟩ = some (.slice (some ⟨gy, oy, none⟩) y.ins.length my) ∧ w'.cell? ⟨gx, ox + j * 8, none⟩ = some (.int .i64 tx.op) ∧ w'.cell? ⟨gx, ox + j * 8 + 1, none⟩ = some (.int .i64 tx.d) ∧ w'.cell? ⟨gx, ox + j * 8 + 2, none⟩ = some (.int .i64 tx.a) ∧ w'.cell? ⟨gx, ox + j * 8 + 3, none⟩ = some (.int .i64 tx.b) ∧ w'.cell? ⟨gx, ox + j * 8 + 4, none⟩ = some (.int .i64 tx.k) ∧ w'.cell? ⟨gx, ox + j * 8 + 5, none⟩ = some (.int .i64 tx.base) ∧ w'.cell? ⟨gx, ox + j * 8 + 6, none⟩ = some (.int .i64 tx.size) ∧ w'.cell? ⟨gx, ox + j * 8 + 7, none⟩ = some (.int .u32 tx.n) ∧ w'.cell? ⟨gy, oy + k * 8, none⟩ = some (.int .i64 ty.op) ∧ w'.cell? ⟨gy, oy + k * 8 + 1, none⟩ = some (.int .i64 ty.d) ∧ w'.cell? ⟨gy, oy + k * 8 + 2, none⟩ = some (.int .i64 ty.a) ∧ w'.cell? ⟨gy, oy + k * 8 + 3, none⟩ = some (.int .i64 ty.b) ∧ w'.cell? ⟨gy, oy + k * 8 + 4, none⟩ = some (.int .i64 ty.k) ∧ w'.cell? ⟨gy, oy + k * 8 + 5, none⟩ = some (.int .i64 ty.base) ∧ w'.cell? ⟨gy, oy + k * 8 + 6, none⟩ = some (.int .i64 ty.size) ∧ w'.cell? ⟨gy, oy + k * 8 + 7, none⟩ = some (.int .u32 ty.n)) (by kernel_rfl) (by kernel_rfl) (by kernel_rfl) (fun c a w h => h) ⟨z6, z7, a0, a1, a2, a3, a4, a5, a6, a7, b0, b1, b2, b3, b4, b5, b6y, b7y⟩ ?_
                  iterate 18
                    refine wpMix_held ?_ (by rfl) ?_ ?_
                    rotate_left 1
                    · intro w hSw
                      obtain ⟨s0, s1, s2, s3, s4, s5, s6, s7, s8, s9, s10, s11, s12, s13, s14, s15, s16, s17⟩ := hSw
                      go_simp
                      with_reducible rfl
                    simp only [Act.put, List.setIfInBounds_toArray, List.set_cons_zero, List.set_cons_succ]
                  refine wpMix_nil ?_
                  refine NoPanic.normal ?_
                  go_wp2_with fail
                  refine (pure32 tx.op tx.d tx.a tx.b tx.k tx.base tx.size tx.n _).mono ?_
                  rintro e W8 ⟨rfl, hb8⟩
                  rw [show Tac.pure ⟨tx.op, tx.d, tx.a, tx.b, tx.k, tx.base, tx.size, tx.n⟩ = true from HMISS.out.1]
                  have HB8 := bk (undrew hb8)
                  clear hb8
                  go_wp2_with fail
                  go_roundw
                  case measure => simp [intOf]; omega
                  case rel => exact ⟨j + 1, k, by omega, by omega, by go_num, rfl, (by rw [HDY.out]; exact HMISS.out.2), below0 HBJ.out HB8.out⟩
              · have hkk : k = y.ins.length := by omega
                have hdn : y.ins.drop k = [] := by rw [hkk, List.drop_length]
                rw [hdn] at HSJ
                generalize x.ins[j] = tx at *
                have HMISS := bk (HSJ.out.miss (fun z e => by cases e))
                have HMISS2 : Bk (Sub (x.ins.drop (j + 1)) (y.ins.drop k)) := bk (by rw [hdn]; exact HMISS.out.2)
                clear hdn hkk
                go_upto_region 18 with fail
                refine wp_region_noPanic ?_
                refine wp_region_mix [true, true, true, true, true, true, true, true, true, true, true, true, true, true, true, true, true, true] (fun w' => w'.cell? ⟨b6, 0, none⟩ = some (.slice (some ⟨gx, ox, none⟩) x.ins.length m) ∧ w'.cell? ⟨b7, 0, none⟩ = some (.slice By y.ins.length my) ∧ w'.cell? ⟨gx, ox + j * 8, none⟩ = some (.int .i64 tx.op) ∧ w'.cell? ⟨gx, ox + j * 8 + 1, none⟩ = some (.int .i64 tx.d) ∧ w'.cell? ⟨gx, ox + j * 8 + 2, none⟩ = some (.int .i64 tx.a) ∧ w'.cell? ⟨gx, ox + j * 8 + 3, none⟩ = some (.int .i64 tx.b) ∧ w'.cell? ⟨gx, ox + j * 8 + 4, none⟩ = some (.int .i64 tx.k) ∧ w'.cell? ⟨gx, ox + j * 8 + 5, none⟩ = some (.int .i64 tx.base) ∧ w'.cell? ⟨gx, ox + j * 8 + 6, none⟩ = some (.int .i64 tx.size) ∧ w'.cell? ⟨gx, ox + j * 8 + 7, none⟩ = some (.int .u32 tx.n)) (by kernel_rfl) (by kernel_rfl) (by kernel_rfl) (fun c a w h => h) ⟨z6, z7, a0, a1, a2, a3, a4, a5, a6, a7⟩ ?_
                iterate 6
                  refine wpMix_held ?_ (by rfl) ?_ ?_
                  rotate_left 1
                  · intro w hSw
                    obtain ⟨s0, s1, s2, s3, s4, s5, s6, s7, s8, s9⟩ := hSw
                    go_simp
                    with_reducible rfl
                  simp only [Act.put, List.setIfInBounds_toArray, List.set_cons_zero, List.set_cons_succ]
                iterate 11
                  refine wpMix_unheld (by rfl) ?_
                  simp only [Act.put, List.setIfInBounds_toArray, List.set_cons_zero, List.set_cons_succ]
                iterate 1
                  refine wpMix_held ?_ (by rfl) ?_ ?_
                  rotate_left 1
                  · intro w hSw
                    obtain ⟨s0, s1, s2, s3, s4, s5, s6, s7, s8, s9⟩ := hSw
                    go_simp
                    with_reducible rfl
                  simp only [Act.put, List.setIfInBounds_toArray, List.set_cons_zero, List.set_cons_succ]
                refine wpMix_nil ?_
                refine NoPanic.normal ?_
                go_wp2_with fail
                refine (pure32 tx.op tx.d tx.a tx.b tx.k tx.base tx.size tx.n _).mono ?_
                rintro e W8 ⟨rfl, hb8⟩
                rw [show Tac.pure ⟨tx.op, tx.d, tx.a, tx.b, tx.k, tx.base, tx.size, tx.n⟩ = true from HMISS.out.1]
                have HB8 := bk (undrew hb8)
                clear hb8
                go_wp2_with fail
                go_roundw
                case measure => simp [intOf]; omega
                case rel => exact ⟨j + 1, k, by omega, by omega, by go_num, rfl, HMISS2.out, below0 HBJ.out HB8.out⟩
            · have hjj : j = x.ins.length := by omega
              subst hjj
              rw [List.drop_length] at HSJ
              have hkk : k = y.ins.length := by
                have h := HSJ.out.of_nil
                have := List.drop_eq_nil_iff.1 h
                omega
              subst hkk
              go_wp2_with fail
              go_roundw
              case measure => simp [intOf]; omega
              case rel => exact ⟨i + 1, by omega, by go_num, HBX.out.trans (HBJ.out.mono HBX.out.size)⟩
      · have hii : i = f.blocks.length := by omega
        subst hii
        go_wp2_with fail
        go_ret
        exact ⟨rfl, HB4.out.trans (HBI.out.mono HB4.out.size)⟩
end Go.Proofs.Ytiaojefhbhodiaa
