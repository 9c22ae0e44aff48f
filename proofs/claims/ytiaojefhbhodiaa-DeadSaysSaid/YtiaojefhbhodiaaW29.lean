/-
  Walk: seedcornref32.once: what is dead is left out, once, and how many that were: the reference.
-/
import Derived.Test.YtiaojefhbhodiaaW22
import Derived.Test.YtiaojefhbhodiaaW28
set_option linter.unusedVariables false
namespace Go.Proofs.Ytiaojefhbhodiaa
open Go.RowKit

/-- What seedcornref27.Of does (proved elsewhere). -/
def Of27L : Prop := ∀ (f : Fn) (va : Value) (ok : Nat → Prop) (w : World), Sl RBlk w ok f.blocks va → f.idx →
    Calls Try.prog 18 #[.agg #[.int .i64 f.regs, va]] w
    fun e w' => (∃ vi vo, e = .returned (.agg #[vi, vo]) ∧ Sl (.slice RB) w' (fun c => w.heap.size ≤ c) f.live.In vi ∧ Sl (.slice RB) w' (fun c => w.heap.size ≤ c) f.live.Out vo) ∧ Below w.heap.size w w'

theorem countI_le9 (bs : List Blk) (hin : ∀ x ∈ bs, x.ins.length ≤ 900000) : ∀ k, k ≤ bs.length → countI (bs.take k) ≤ k * 900000
  | 0, _ => by simp [countI]
  | k + 1, h => by
    have ih := countI_le9 bs hin k (by omega)
    rw [countI_take _ _ (by omega)]
    have := hin _ (List.getElem_mem (l := bs) (n := k) (by omega))
    omega

set_option maxRecDepth 100000 in
set_option maxHeartbeats 8000000 in
theorem once32 (hOf : Of27L) (f : Fn) (va : Value) (ok : Nat → Prop) (w : World) (ha : Sl RBlk w ok f.blocks va) (hf : f.idx) (h0 : f.sets0) (hin : ∀ x ∈ f.blocks, x.ins.length ≤ 900000) (hn9 : f.blocks.length ≤ 900000) :
    Calls Try.prog 29 #[.agg #[.int .i64 f.regs, va]] w
    fun e w' => (∃ v, e = .returned (.tuple #[.agg #[.int .i64 f.regs, v], .int .i64 ((f.count - f.once.count : Nat) : Int)]) ∧ Sl RBlk w' (fun c => w.heap.size ≤ c) f.once.blocks v) ∧ Below w.heap.size w w' := by
  obtain ⟨A, c, rfl, hc, hn2⟩ := ha.form
  have HA := bk ha; have HF := bk hf
  clear ha hf
  go_enter Try.func29, Try.ntmps29
  go_wp2_with fail
  refine name_world_calls (fun W0 hW0 => ?_)
  have hz : W0.heap.size = w.heap.size + 2 := by subst hW0; simp
  have HX0 : Bk (Bx W0 w.heap.size #[.int .i64 f.regs, .slice A f.blocks.length c] 24) := by subst hW0; exact bk ((Bx.new _ _ _).alloc _)
  have HR0 : Bk (Bx W0 (w.heap.size + 1) #[.int .i64 0, .slice none 0 0] 24) := by subst hW0; exact bk (Bx.new' (by simp))
  have HB0 : Bk (Below w.heap.size w W0) := by subst hW0; exact bk (by repeat (first | exact Below.refl _ _ | exact alloc1 _ _ | refine Below.drew ?_ | refine Below.alloc ?_ (by simp; try omega) _ | refine Below.setCell ?_ (by simp; try omega) _))
  clear hW0
  refine (hOf f _ ok W0 (HA.out.below HB0.out) HF.out).mono ?_
  rintro e W1 ⟨⟨vi, vo, rfl, hI, hO⟩, hb1⟩
  obtain ⟨Ai, ci, rfl, _⟩ := hI.form
  obtain ⟨Ao, co, rfl, _⟩ := hO.form
  have HO := bk (hO.mono (ok' := fun b => b < W1.heap.size) (fun b _ h => h))
  have hx := HX0.out.below hb1
  have HX1 := bk hx
  have cx := hx.cell
  have lx := hx.lt
  have HR1 := bk (HR0.out.below hb1)
  have HB1 := bk (below0 HB0.out hb1)
  have hs01 := hb1.size
  clear hI hO hb1 hx
  go_wp2_with fail
  refine name_world (fun W2 hW2 => ?_)
  have hz2 : W2.heap.size = W1.heap.size + 2 := by subst hW2; simp
  have HB12 : Bk (Below W1.heap.size W1 W2) := by subst hW2; exact bk (by repeat (first | exact Below.refl _ _ | exact alloc1 _ _ | refine Below.drew ?_ | refine Below.alloc ?_ (by simp; try omega) _ | refine Below.setCell ?_ (by simp; try omega) _))
  have HL2 : Bk (Bx W2 W1.heap.size #[.slice Ai f.live.In.length ci, .slice Ao f.live.Out.length co] 41) := by subst hW2; exact bk ((Bx.new _ _ _).alloc _)
  have HOUT : Bk (Bx W2 (W1.heap.size + 1) #[.int .i64 f.regs, .slice none 0 0] 24) := by subst hW2; exact bk (Bx.new' (by simp))
  clear hW2 cx
  have HX2 := bk (HX1.out.below HB12.out)
  have HR2 := bk (HR1.out.below HB12.out)
  have HB2 := bk (below0 HB1.out HB12.out)
  have HO2 := bk (HO.out.below HB12.out)
  have HA2 := bk ((HA.out.mono (ok' := fun b => b < w.heap.size) (fun b _ h => h)).below HB2.out)
  have HWID := bk (live_wide f HF.out)
  clear HX1 HR1 HX0 HR0 HO
  go_loopw [6, 7] (fun sm j wr => ∃ (k c : Nat) (v : Value), k ≤ f.blocks.length ∧ j = .int .i64 k ∧ sm = .int .i64 c ∧ c + countI (f.once.blocks.take k) = countI (f.blocks.take k) ∧ Bx wr (W1.heap.size + 1) #[.int .i64 f.regs, v] 24 ∧
    Own RBlk 54 wr W2.heap.size (fun b => W2.heap.size ≤ b ∧ b < wr.heap.size ∧ v.ownBlock ≠ some b) (f.once.blocks.take k) v ∧ Fr (fun b => b = W1.heap.size + 1 ∨ W2.heap.size ≤ b) W2 wr) (fun _ j _ => f.blocks.length - (intOf j).toNat)
  case atStart => exact ⟨0, 0, _, Nat.zero_le _, rfl, rfl, by simp [countI], HOUT.out, Own.nil _ _ _ _ _, Fr.refl _ _⟩
  case round =>
    obtain ⟨k, c6, v, hk, rfl, rfl, hcnt, xo, hown, hfr⟩ := hrel
    have XO := bk xo; have HOW := bk hown; have HFR := bk hfr; have HCNT := bk hcnt
    have hsw := hfr.size
    have nS : ∀ y, y < W1.heap.size + 1 → ¬ (y = W1.heap.size + 1 ∨ W2.heap.size ≤ y) := fun y hy h => by omega
    have cx := (HX2.out.fr hfr (nS _ (by omega))).cell
    have cl := (HL2.out.fr hfr (nS _ (by omega))).cell
    have NS := bk nS
    clear hown xo hcnt
    by_cases hlt : k < f.blocks.length
    · obtain ⟨g, o, B, m, hA, hgw, hg, hxi, hxn, q0, q1, q2, q3, q4⟩ := (HA2.out.fr hfr (fun b hb _ => nS b (by omega))).blk k hlt
      subst hA
      have HXI := bk hxi
      clear hxi hfr nS
      have lw : w.heap.size < wr.heap.size := by omega
      have l1 : W1.heap.size < wr.heap.size := by omega
      have l2 : W1.heap.size + 1 < wr.heap.size := by omega
      go_wp2_with fail
      refine name_world_calls (fun W3 hW3 => ?_)
      have hz3 : W3.heap.size = wr.heap.size + 1 := by subst hW3; simp
      have HB3 : Bk (Below wr.heap.size wr W3) := by subst hW3; exact bk (alloc1 _ _)
      have X83 : Bk (Bx W3 wr.heap.size #[.slice B f.blocks[k].ins.length m, .int .i64 f.blocks[k].fin, .int .i64 f.blocks[k].v, .int .i64 f.blocks[k].to, .int .i64 f.blocks[k].els] 54) := by subst hW3; exact bk (Bx.new _ _ _)
      clear hW3 cx cl
      have hOl : f.live.Out.length = f.blocks.length := HWID.out.2.1
      have hko : k < f.live.Out.length := by omega
      have hol : f.live.Out[k].length = f.regs.toNat := HWID.out.2.get k hko
      have hidx := HF.out
      have hr0 := hidx.r0
      have hr1 := hidx.r1
      have hbk := hidx.blk _ (List.getElem_mem hlt)
      have hink := hin _ (List.getElem_mem hlt)
      have HF3 := bk (HFR.out.trans (Fr.of_below HB3.out _))
      refine (behind27 f f.live k _ _ _ (fun b => b < w.heap.size) (fun b => b < W1.heap.size) W3 (HA2.out.fr HF3.out (fun b hb _ => NS.out b (by omega))) (HO2.out.fr HF3.out (fun b hb _ => NS.out b (by omega))) hlt hko (by rw [hol]; exact hbk) (by rw [hol]; omega) (by omega)).mono ?_
      rintro e W4 ⟨⟨vb, rfl, hvb⟩, hb4⟩
      obtain ⟨Ab, cb, rfl, _⟩ := hvb.form
      have hbl := behind_len f.live f.blocks[k] k
      have x84 := X83.out.below hb4
      have c8 := x84.cell
      have l8 := x84.lt
      have l84 : wr.heap.size < W4.heap.size + 1 := by omega
      have HB4 := bk (below0 HB3.out hb4)
      have HVB := bk hvb; have X84 := bk x84
      have HIDX := bk hbk; have HOL := bk hol; have HBL := bk hbl
      have hs4 := hb4.size
      clear hvb hb4 x84 hidx hbk hol hbl hOl
      go_wp2_with fail
      have hkl := countI_le9 f.blocks hin k (by omega)
      have hlr : (f.live.behind f.blocks[k] k).length = f.blocks[k].ins.length := HBL.out
      have hpk : ∀ t ∈ f.blocks[k].ins, t.pure = true → 0 ≤ t.sets := fun t ht hp => h0 _ (List.getElem_mem hlt) t ht hp
      have hxk : ∀ i (h : i < f.blocks[k].ins.length) (h' : i < (f.live.behind f.blocks[k] k).length), f.blocks[k].ins[i].sets < ((f.live.behind f.blocks[k] k)[i].length : Int) := fun i hi hi' => by
          have h1 := (HIDX.out.1 _ (List.getElem_mem hi)).2
          have h2 : (f.live.behind f.blocks[k] k)[i].length = f.regs.toNat := by
            have h3 := behindB_length f.blocks[k].ins (lastB f.blocks[k] (f.live.Out.getD k [])) _ (List.getElem_mem (l := f.live.behind f.blocks[k] k) hi')
            rw [lastB_length, getD_get2 _ _ hko, HOL.out] at h3
            exact h3
          rw [h2]; exact h1
      have honce : onceBlk f.live f.blocks[k] k = ⟨keepB f.blocks[k].ins (f.live.behind f.blocks[k] k), f.blocks[k].fin, f.blocks[k].v, f.blocks[k].to, f.blocks[k].els⟩ := rfl
      have htk := once_take f k hlt
      rw [honce] at htk
      have hct1 := countI_take f.blocks k hlt
      have hct2 : countI (f.once.blocks.take (k + 1)) = countI (f.once.blocks.take k) + (keepB f.blocks[k].ins (f.live.behind f.blocks[k] k)).length := by
        rw [htk]; simp [countI]
      have HPK := bk hpk; have HXK := bk hxk; have HTK := bk htk; have HCT1 := bk hct1; have HCT2 := bk hct2; have HVBL := bk hlr
      have HIN := bk hink
      clear hpk hxk htk hct1 hct2 honce hlr hink c8 HIDX
      generalize f.live.behind f.blocks[k] k = rows at *
      generalize f.blocks[k] = x at *
      have hxl9 := HIN.out
      obtain ⟨rn, hrn⟩ : ∃ rn, rn = rows.length := ⟨_, rfl⟩
      rw [← hrn] at HVB ⊢
      have HRN := bk (hrn.trans HVBL.out)
      clear hrn
      obtain ⟨wo, rfl⟩ : ∃ wo : World, wo = wr := ⟨_, rfl⟩
      go_loopw [6, 10, 11] (fun s6 v10 s11 wi => ∃ (j c7 : Nat), j ≤ x.ins.length ∧ s11 = .int .i64 j ∧ s6 = .int .i64 c7 ∧ c7 + (keepB (x.ins.take j) (rows.take j)).length = c6 + j ∧ Own RTac 27 wi W4.heap.size (fun _ => False) (keepB (x.ins.take j) (rows.take j)) v10 ∧ Below W4.heap.size W4 wi) (fun _ _ s11 _ => x.ins.length - (intOf s11).toNat)
      case atStart => exact ⟨0, c6, Nat.zero_le _, rfl, rfl, by simp [keepB], Own.nil _ _ _ _ _, Below.refl _ _⟩
      case round =>
        obtain ⟨wi, rfl⟩ : ∃ wi : World, wi = wr := ⟨_, rfl⟩
        obtain ⟨j, c7, hj, rfl, rfl, hc7, hown, hbi⟩ := hrel
        have HC7 := bk hc7; have HO := bk hown; have HBI := bk hbi
        have hsi := hbi.size
        have x8i := X84.out.below hbi
        have z8 : wi.cell? ⟨wo.heap.size, 0, none⟩ = some (.slice B x.ins.length m) := x8i.cell 0
        have c8 := x8i.cell
        have l8i := x8i.lt
        have X8I := bk x8i
        have hc6b : c6 ≤ k * 900000 := by have := HCNT.out; omega
        have hkb : k * 900000 ≤ 900000 * 900000 := Nat.mul_le_mul (by omega) (Nat.le_refl _)
        have hc7b : c7 + 1 ≤ 1000000000000 := by omega
        have hc7i : (c7 : Int) + 1 ≤ 1000000000000 := by omega
        clear hown hbi hc7 x8i
        by_cases hjl : j < x.ins.length
        · clear c8
          have hjr : j < rows.length := by have := HVBL.out; omega
          obtain ⟨gt, ot, hBt, _, hgt, hrow, htok⟩ := ((HXI.out.below HB4.out).below HBI.out).tac j hjl
          subst hBt
          obtain ⟨q0, q1, q2, q3, q4, q5, q6, q7⟩ := hrow.tac
          obtain ⟨gr, or, Br, mr, hAr, hokr, hgr, hsr, hnr, hcr⟩ := (HVB.out.below HBI.out).row j hjr
          subst hAr
          have HX := bk (HXK.out j hjl hjr)
          have HP := bk (HPK.out _ (List.getElem_mem hjl))
          have HKT := bk (keepB_take x.ins rows j hjl hjr)
          have HTOK := bk htok; have HSR := bk hsr
          clear hrow htok hsr
          generalize rows[j] = r at *
          generalize x.ins[j] = t at *
          have HPU := bk (fun W => pure32 t.op t.d t.a t.b t.k t.base t.size t.n W)
          have HSE := bk (fun W => sets24 t.op t.d t.a t.b t.k t.base t.size t.n W)
          have hpu : Tac.pure ⟨t.op, t.d, t.a, t.b, t.k, t.base, t.size, t.n⟩ = t.pure := rfl
          have hse : Tac.sets ⟨t.op, t.d, t.a, t.b, t.k, t.base, t.size, t.n⟩ = t.sets := rfl
          rw [hpu] at HPU
          rw [hse] at HSE
          clear hpu hse
          have HDD : Bk (∀ d, deadB t r = d → deadB t r = d) := bk (fun d h => h)
          have hjrn : j < rn := by have := HRN.out; omega
          cases hpp : t.pure with
          | false =>
            rw [hpp] at HPU
            have hdd : deadB t r = false := by unfold deadB; rw [hpp]; rfl
            go_upto_region 13 with fail
            refine wp_region_noPanic ?_
            refine wp_region_mix [true, true, true, true, true, false, true, true, true, true, true, true, true, true, true, true, false, true, true, true, true] (fun w' => w'.cell? ⟨wo.heap.size, 0, none⟩ = some (.slice (some ⟨gt, ot, none⟩) x.ins.length m) ∧ w'.cell? ⟨gt, ot + j * 8, none⟩ = some (.int .i64 t.op) ∧ w'.cell? ⟨gt, ot + j * 8 + 1, none⟩ = some (.int .i64 t.d) ∧ w'.cell? ⟨gt, ot + j * 8 + 2, none⟩ = some (.int .i64 t.a) ∧ w'.cell? ⟨gt, ot + j * 8 + 3, none⟩ = some (.int .i64 t.b) ∧ w'.cell? ⟨gt, ot + j * 8 + 4, none⟩ = some (.int .i64 t.k) ∧ w'.cell? ⟨gt, ot + j * 8 + 5, none⟩ = some (.int .i64 t.base) ∧ w'.cell? ⟨gt, ot + j * 8 + 6, none⟩ = some (.int .i64 t.size) ∧ w'.cell? ⟨gt, ot + j * 8 + 7, none⟩ = some (.int .u32 t.n)) (by kernel_rfl) (by kernel_rfl) (by kernel_rfl) (fun c a w h => h) ⟨cell_below (undrew2 wi) z8, cell_below (undrew2 wi) q0, cell_below (undrew2 wi) q1, cell_below (undrew2 wi) q2, cell_below (undrew2 wi) q3, cell_below (undrew2 wi) q4, cell_below (undrew2 wi) q5, cell_below (undrew2 wi) q6, cell_below (undrew2 wi) q7⟩ ?_
            iterate 5
              refine wpMix_held ?_ (by rfl) ?_ ?_
              rotate_left 1
              · intro w hSw
                obtain ⟨s0, s1, s2, s3, s4, s5, s6, s7, s8⟩ := hSw
                go_simp
                with_reducible rfl
              simp only [Act.put, List.setIfInBounds_toArray, List.set_cons_zero, List.set_cons_succ]
            refine wpMix_step (fun K hK => ?_)
            go_simp
            refine (HPU.out _).mono ?_
            rintro e w1 ⟨rfl, hb1⟩
            have HB1 := undrew hb1
            clear hb1
            refine hK _ _ ⟨cell_below HB1 z8, cell_below HB1 q0, cell_below HB1 q1, cell_below HB1 q2, cell_below HB1 q3, cell_below HB1 q4, cell_below HB1 q5, cell_below HB1 q6, cell_below HB1 q7⟩ ?_
            clear hK K
            try simp only [Act.put, List.setIfInBounds_toArray, List.set_cons_zero, List.set_cons_succ]
            iterate 1
              refine wpMix_held ?_ (by rfl) ?_ ?_
              rotate_left 1
              · intro w hSw
                obtain ⟨s0, s1, s2, s3, s4, s5, s6, s7, s8⟩ := hSw
                go_simp
                with_reducible rfl
              simp only [Act.put, List.setIfInBounds_toArray, List.set_cons_zero, List.set_cons_succ]
            iterate 9
              refine wpMix_unheld (by rfl) ?_
              simp only [Act.put, List.setIfInBounds_toArray, List.set_cons_zero, List.set_cons_succ]
            refine wpMix_step (fun K hK => ?_)
            go_simp
            refine hK _ _ ⟨cell_below HB1 z8, cell_below HB1 q0, cell_below HB1 q1, cell_below HB1 q2, cell_below HB1 q3, cell_below HB1 q4, cell_below HB1 q5, cell_below HB1 q6, cell_below HB1 q7⟩ ?_
            clear hK K
            try simp only [Act.put, List.setIfInBounds_toArray, List.set_cons_zero, List.set_cons_succ]
            iterate 3
              refine wpMix_unheld (by rfl) ?_
              simp only [Act.put, List.setIfInBounds_toArray, List.set_cons_zero, List.set_cons_succ]
            iterate 1
              refine wpMix_held ?_ (by rfl) ?_ ?_
              rotate_left 1
              · intro w hSw
                obtain ⟨s0, s1, s2, s3, s4, s5, s6, s7, s8⟩ := hSw
                go_simp
                with_reducible rfl
              simp only [Act.put, List.setIfInBounds_toArray, List.set_cons_zero, List.set_cons_succ]
            refine wpMix_nil ?_
            refine NoPanic.normal ?_
            have HKT2 : Bk (keepB (x.ins.take (j + 1)) (rows.take (j + 1)) = keepB (x.ins.take j) (rows.take j) ++ [t]) := bk (by rw [HKT.out, hdd]; simp)
            obtain ⟨y0, y1, y2, y3, y4, y5, y6, y7, y8⟩ : w1.cell? ⟨wo.heap.size, 0, none⟩ = some (.slice (some ⟨gt, ot, none⟩) x.ins.length m) ∧ w1.cell? ⟨gt, ot + j * 8, none⟩ = some (.int .i64 t.op) ∧ w1.cell? ⟨gt, ot + j * 8 + 1, none⟩ = some (.int .i64 t.d) ∧ w1.cell? ⟨gt, ot + j * 8 + 2, none⟩ = some (.int .i64 t.a) ∧ w1.cell? ⟨gt, ot + j * 8 + 3, none⟩ = some (.int .i64 t.b) ∧ w1.cell? ⟨gt, ot + j * 8 + 4, none⟩ = some (.int .i64 t.k) ∧ w1.cell? ⟨gt, ot + j * 8 + 5, none⟩ = some (.int .i64 t.base) ∧ w1.cell? ⟨gt, ot + j * 8 + 6, none⟩ = some (.int .i64 t.size) ∧ w1.cell? ⟨gt, ot + j * 8 + 7, none⟩ = some (.int .u32 t.n) := ⟨cell_below HB1 z8, cell_below HB1 q0, cell_below HB1 q1, cell_below HB1 q2, cell_below HB1 q3, cell_below HB1 q4, cell_below HB1 q5, cell_below HB1 q6, cell_below HB1 q7⟩
            have HB1k := bk HB1
            have hsw1 := HB1.size
            clear HB1 hdd
            go_wp2_with (at_builtin; refine Stp.out ?_)
            refine Stp.mk ?_
            refine Own.append RTac (by rfl) _ _ 52 27 (.agg #[.int .i64 0, .int .i64 0, .int .i64 0, .int .i64 0, .int .i64 0, .int .i64 0, .int .i64 0, .int .u32 0]) 64 (by rfl) Try.underlying52 infoT rfl W4.heap.size (fun _ => False) w1 _ (keepB (x.ins.take j) (rows.take j)) t t.cells (by rfl) (by rfl)
              (HO.out.below HB1k.out) ⟨rfl, HTOK.out⟩ (by omega) (fun _ h => h.elim) ?_ (by omega) ?_
            · have := keepB_le (x.ins.take j) (rows.take j)
              have e : (x.ins.take j).length = j := by rw [List.length_take]; omega
              omega
            intro v3 w3 hown3 hg3 hat3 hv3
            obtain ⟨g3, c3, rfl⟩ := hv3
            have HO3 := bk hown3
            have HB3 : Bk (Below W4.heap.size W4 w3) := bk ((below0 HBI.out HB1k.out).grown hg3 (by omega) (fun q hq => (HO.out.lt q hq).1))
            clear hown3 hg3 hat3
            go_wp2_with fail
            go_roundw
            case measure => simp [intOf]; omega
            case rel =>
              refine ⟨j + 1, c7, by omega, by go_num, rfl, ?_, ?_, HB3.out⟩
              · rw [HKT2.out, List.length_append]
                have := HC7.out
                simp only [List.length_cons, List.length_nil]
                omega
              · rw [HKT2.out]
                exact HO3.out
          | true =>
            rw [hpp] at HPU
            have h00 := HP.out hpp
            have hx1 := HX.out
            have hltr : t.sets.toNat < r.length := by omega
            obtain ⟨gb, ob, hB, _, hgb, hcb0⟩ := HSR.out.one t.sets.toNat hltr
            subst hB
            have hcb : wi.cell? ⟨gb, ob + t.sets.toNat, none⟩ = some (.bool (r.getD t.sets.toNat false)) := by
              rw [hcb0, List.getD_eq_getElem?_getD, List.getElem?_eq_getElem hltr]
              rfl
            have hde : deadB t r = !(r.getD t.sets.toNat false) := by unfold deadB; rw [hpp]; rfl
            have HDE := bk hde
            clear hcb0 hde
            cases hdd0 : r.getD t.sets.toNat false with
            | true =>
              have hdd : deadB t r = false := by rw [HDE.out, hdd0]; rfl
              rw [hdd0] at hcb
              clear hdd0
              go_upto_region 13 with fail
              refine wp_region_noPanic ?_
              refine wp_region_mix [true, true, true, true, true, false, true, true, true, true, true, true, true, true, true, true, false, true, true, true, true] (fun w' => w'.cell? ⟨wo.heap.size, 0, none⟩ = some (.slice (some ⟨gt, ot, none⟩) x.ins.length m) ∧ w'.cell? ⟨gt, ot + j * 8, none⟩ = some (.int .i64 t.op) ∧ w'.cell? ⟨gt, ot + j * 8 + 1, none⟩ = some (.int .i64 t.d) ∧ w'.cell? ⟨gt, ot + j * 8 + 2, none⟩ = some (.int .i64 t.a) ∧ w'.cell? ⟨gt, ot + j * 8 + 3, none⟩ = some (.int .i64 t.b) ∧ w'.cell? ⟨gt, ot + j * 8 + 4, none⟩ = some (.int .i64 t.k) ∧ w'.cell? ⟨gt, ot + j * 8 + 5, none⟩ = some (.int .i64 t.base) ∧ w'.cell? ⟨gt, ot + j * 8 + 6, none⟩ = some (.int .i64 t.size) ∧ w'.cell? ⟨gt, ot + j * 8 + 7, none⟩ = some (.int .u32 t.n) ∧ w'.cell? ⟨gr, or + j, none⟩ = some (.slice (some ⟨gb, ob, none⟩) r.length mr) ∧ w'.cell? ⟨gb, ob + t.sets.toNat, none⟩ = some (.bool true)) (by kernel_rfl) (by kernel_rfl) (by kernel_rfl) (fun c a w h => h) ⟨cell_below (undrew2 wi) z8, cell_below (undrew2 wi) q0, cell_below (undrew2 wi) q1, cell_below (undrew2 wi) q2, cell_below (undrew2 wi) q3, cell_below (undrew2 wi) q4, cell_below (undrew2 wi) q5, cell_below (undrew2 wi) q6, cell_below (undrew2 wi) q7, cell_below (undrew2 wi) hcr, cell_below (undrew2 wi) hcb⟩ ?_
              iterate 5
                refine wpMix_held ?_ (by rfl) ?_ ?_
                rotate_left 1
                · intro w hSw
                  obtain ⟨s0, s1, s2, s3, s4, s5, s6, s7, s8, s9, s10⟩ := hSw
                  go_simp
                  with_reducible rfl
                simp only [Act.put, List.setIfInBounds_toArray, List.set_cons_zero, List.set_cons_succ]
              refine wpMix_step (fun K hK => ?_)
              go_simp
              refine (HPU.out _).mono ?_
              rintro e w1 ⟨rfl, hb1⟩
              have HB1 := undrew hb1
              clear hb1
              refine hK _ _ ⟨cell_below HB1 z8, cell_below HB1 q0, cell_below HB1 q1, cell_below HB1 q2, cell_below HB1 q3, cell_below HB1 q4, cell_below HB1 q5, cell_below HB1 q6, cell_below HB1 q7, cell_below HB1 hcr, cell_below HB1 hcb⟩ ?_
              clear hK K
              try simp only [Act.put, List.setIfInBounds_toArray, List.set_cons_zero, List.set_cons_succ]
              iterate 10
                refine wpMix_held ?_ (by rfl) ?_ ?_
                rotate_left 1
                · intro w hSw
                  obtain ⟨s0, s1, s2, s3, s4, s5, s6, s7, s8, s9, s10⟩ := hSw
                  go_simp
                  with_reducible rfl
                simp only [Act.put, List.setIfInBounds_toArray, List.set_cons_zero, List.set_cons_succ]
              refine wpMix_step (fun K hK => ?_)
              go_simp
              refine (HSE.out _).mono ?_
              rintro e w2 ⟨rfl, hb1⟩
              have HB2 := below0 HB1 hb1
              clear hb1
              refine hK _ _ ⟨cell_below HB2 z8, cell_below HB2 q0, cell_below HB2 q1, cell_below HB2 q2, cell_below HB2 q3, cell_below HB2 q4, cell_below HB2 q5, cell_below HB2 q6, cell_below HB2 q7, cell_below HB2 hcr, cell_below HB2 hcb⟩ ?_
              clear hK K
              try simp only [Act.put, List.setIfInBounds_toArray, List.set_cons_zero, List.set_cons_succ]
              iterate 4
                refine wpMix_held ?_ (by rfl) ?_ ?_
                rotate_left 1
                · intro w hSw
                  obtain ⟨s0, s1, s2, s3, s4, s5, s6, s7, s8, s9, s10⟩ := hSw
                  go_simp
                  with_reducible rfl
                simp only [Act.put, List.setIfInBounds_toArray, List.set_cons_zero, List.set_cons_succ]
              refine wpMix_nil ?_
              refine NoPanic.normal ?_
              have HKT2 : Bk (keepB (x.ins.take (j + 1)) (rows.take (j + 1)) = keepB (x.ins.take j) (rows.take j) ++ [t]) := bk (by rw [HKT.out, hdd]; simp)
              obtain ⟨y0, y1, y2, y3, y4, y5, y6, y7, y8⟩ : w2.cell? ⟨wo.heap.size, 0, none⟩ = some (.slice (some ⟨gt, ot, none⟩) x.ins.length m) ∧ w2.cell? ⟨gt, ot + j * 8, none⟩ = some (.int .i64 t.op) ∧ w2.cell? ⟨gt, ot + j * 8 + 1, none⟩ = some (.int .i64 t.d) ∧ w2.cell? ⟨gt, ot + j * 8 + 2, none⟩ = some (.int .i64 t.a) ∧ w2.cell? ⟨gt, ot + j * 8 + 3, none⟩ = some (.int .i64 t.b) ∧ w2.cell? ⟨gt, ot + j * 8 + 4, none⟩ = some (.int .i64 t.k) ∧ w2.cell? ⟨gt, ot + j * 8 + 5, none⟩ = some (.int .i64 t.base) ∧ w2.cell? ⟨gt, ot + j * 8 + 6, none⟩ = some (.int .i64 t.size) ∧ w2.cell? ⟨gt, ot + j * 8 + 7, none⟩ = some (.int .u32 t.n) := ⟨cell_below HB2 z8, cell_below HB2 q0, cell_below HB2 q1, cell_below HB2 q2, cell_below HB2 q3, cell_below HB2 q4, cell_below HB2 q5, cell_below HB2 q6, cell_below HB2 q7⟩
              have HB2k := bk HB2
              have hsw2 := HB2.size
              clear HB2 hdd
              go_wp2_with (at_builtin; refine Stp.out ?_)
              refine Stp.mk ?_
              refine Own.append RTac (by rfl) _ _ 52 27 (.agg #[.int .i64 0, .int .i64 0, .int .i64 0, .int .i64 0, .int .i64 0, .int .i64 0, .int .i64 0, .int .u32 0]) 64 (by rfl) Try.underlying52 infoT rfl W4.heap.size (fun _ => False) w2 _ (keepB (x.ins.take j) (rows.take j)) t t.cells (by rfl) (by rfl)
                (HO.out.below HB2k.out) ⟨rfl, HTOK.out⟩ (by omega) (fun _ h => h.elim) ?_ (by omega) ?_
              · have := keepB_le (x.ins.take j) (rows.take j)
                have e : (x.ins.take j).length = j := by rw [List.length_take]; omega
                omega
              intro v3 w3 hown3 hg3 hat3 hv3
              obtain ⟨g3, c3, rfl⟩ := hv3
              have HO3 := bk hown3
              have HB3 : Bk (Below W4.heap.size W4 w3) := bk ((below0 HBI.out HB2k.out).grown hg3 (by omega) (fun q hq => (HO.out.lt q hq).1))
              clear hown3 hg3 hat3
              go_wp2_with fail
              go_roundw
              case measure => simp [intOf]; omega
              case rel =>
                refine ⟨j + 1, c7, by omega, by go_num, rfl, ?_, ?_, HB3.out⟩
                · rw [HKT2.out, List.length_append]
                  have := HC7.out
                  simp only [List.length_cons, List.length_nil]
                  omega
                · rw [HKT2.out]
                  exact HO3.out
            | false =>
              have hdd : deadB t r = true := by rw [HDE.out, hdd0]; rfl
              rw [hdd0] at hcb
              clear hdd0
              go_upto_region 13 with fail
              refine wp_region_noPanic ?_
              refine wp_region_mix [true, true, true, true, true, false, true, true, true, true, true, true, true, true, true, true, false, true, true, true, true] (fun w' => w'.cell? ⟨wo.heap.size, 0, none⟩ = some (.slice (some ⟨gt, ot, none⟩) x.ins.length m) ∧ w'.cell? ⟨gt, ot + j * 8, none⟩ = some (.int .i64 t.op) ∧ w'.cell? ⟨gt, ot + j * 8 + 1, none⟩ = some (.int .i64 t.d) ∧ w'.cell? ⟨gt, ot + j * 8 + 2, none⟩ = some (.int .i64 t.a) ∧ w'.cell? ⟨gt, ot + j * 8 + 3, none⟩ = some (.int .i64 t.b) ∧ w'.cell? ⟨gt, ot + j * 8 + 4, none⟩ = some (.int .i64 t.k) ∧ w'.cell? ⟨gt, ot + j * 8 + 5, none⟩ = some (.int .i64 t.base) ∧ w'.cell? ⟨gt, ot + j * 8 + 6, none⟩ = some (.int .i64 t.size) ∧ w'.cell? ⟨gt, ot + j * 8 + 7, none⟩ = some (.int .u32 t.n) ∧ w'.cell? ⟨gr, or + j, none⟩ = some (.slice (some ⟨gb, ob, none⟩) r.length mr) ∧ w'.cell? ⟨gb, ob + t.sets.toNat, none⟩ = some (.bool false)) (by kernel_rfl) (by kernel_rfl) (by kernel_rfl) (fun c a w h => h) ⟨cell_below (undrew2 wi) z8, cell_below (undrew2 wi) q0, cell_below (undrew2 wi) q1, cell_below (undrew2 wi) q2, cell_below (undrew2 wi) q3, cell_below (undrew2 wi) q4, cell_below (undrew2 wi) q5, cell_below (undrew2 wi) q6, cell_below (undrew2 wi) q7, cell_below (undrew2 wi) hcr, cell_below (undrew2 wi) hcb⟩ ?_
              iterate 5
                refine wpMix_held ?_ (by rfl) ?_ ?_
                rotate_left 1
                · intro w hSw
                  obtain ⟨s0, s1, s2, s3, s4, s5, s6, s7, s8, s9, s10⟩ := hSw
                  go_simp
                  with_reducible rfl
                simp only [Act.put, List.setIfInBounds_toArray, List.set_cons_zero, List.set_cons_succ]
              refine wpMix_step (fun K hK => ?_)
              go_simp
              refine (HPU.out _).mono ?_
              rintro e w1 ⟨rfl, hb1⟩
              have HB1 := undrew hb1
              clear hb1
              refine hK _ _ ⟨cell_below HB1 z8, cell_below HB1 q0, cell_below HB1 q1, cell_below HB1 q2, cell_below HB1 q3, cell_below HB1 q4, cell_below HB1 q5, cell_below HB1 q6, cell_below HB1 q7, cell_below HB1 hcr, cell_below HB1 hcb⟩ ?_
              clear hK K
              try simp only [Act.put, List.setIfInBounds_toArray, List.set_cons_zero, List.set_cons_succ]
              iterate 10
                refine wpMix_held ?_ (by rfl) ?_ ?_
                rotate_left 1
                · intro w hSw
                  obtain ⟨s0, s1, s2, s3, s4, s5, s6, s7, s8, s9, s10⟩ := hSw
                  go_simp
                  with_reducible rfl
                simp only [Act.put, List.setIfInBounds_toArray, List.set_cons_zero, List.set_cons_succ]
              refine wpMix_step (fun K hK => ?_)
              go_simp
              refine (HSE.out _).mono ?_
              rintro e w2 ⟨rfl, hb1⟩
              have HB2 := below0 HB1 hb1
              clear hb1
              refine hK _ _ ⟨cell_below HB2 z8, cell_below HB2 q0, cell_below HB2 q1, cell_below HB2 q2, cell_below HB2 q3, cell_below HB2 q4, cell_below HB2 q5, cell_below HB2 q6, cell_below HB2 q7, cell_below HB2 hcr, cell_below HB2 hcb⟩ ?_
              clear hK K
              try simp only [Act.put, List.setIfInBounds_toArray, List.set_cons_zero, List.set_cons_succ]
              iterate 4
                refine wpMix_held ?_ (by rfl) ?_ ?_
                rotate_left 1
                · intro w hSw
                  obtain ⟨s0, s1, s2, s3, s4, s5, s6, s7, s8, s9, s10⟩ := hSw
                  go_simp
                  with_reducible rfl
                simp only [Act.put, List.setIfInBounds_toArray, List.set_cons_zero, List.set_cons_succ]
              refine wpMix_nil ?_
              refine NoPanic.normal ?_
              have HKT2 : Bk (keepB (x.ins.take (j + 1)) (rows.take (j + 1)) = keepB (x.ins.take j) (rows.take j)) := bk (by rw [HKT.out, hdd]; simp)
              have HB2k := bk HB2
              clear HB2 hdd
              go_wp2_with fail
              go_roundw
              case measure => simp [intOf]; omega
              case rel =>
                refine ⟨j + 1, c7 + 1, by omega, by go_num, by go_num, ?_, ?_, below0 HBI.out HB2k.out⟩
                · rw [HKT2.out]
                  have := HC7.out
                  omega
                · rw [HKT2.out]
                  exact HO.out.below HB2k.out
        · have hjj : j = x.ins.length := by omega
          subst hjj
          obtain ⟨v10, rfl⟩ : ∃ v10 : Value, v10 = u10 := ⟨_, rfl⟩
          have hrt : rows.take x.ins.length = rows := by rw [← HVBL.out, List.take_length]
          rw [List.take_length, hrt] at HO HC7
          have hkle := keepB_le x.ins rows
          have hvk : Sl RTac wi (fun b => W4.heap.size ≤ b) (keepB x.ins rows) v10 := HO.out.sl (fun _ h => h.elim) (fun q hq => (HO.out.lt q hq).1) (by omega)
          obtain ⟨Ak, ck, rfl, _⟩ := hvk.form
          have f8 := X8I.out.frozen
          have HB6 := bk (below0 HB4.out HBI.out)
          have HF6 := bk (HFR.out.trans (Fr.of_below HB6.out _))
          have xo6 := XO.out.below HB6.out
          have co := xo6.cell
          have fo := xo6.frozen
          have lo := xo6.lt
          have ne1 : wo.heap.size ≠ W1.heap.size + 1 := by omega
          have ne2 : W1.heap.size + 1 ≠ wo.heap.size := by omega
          have HVK := bk (hvk.mono (ok' := fun b => W4.heap.size ≤ b ∧ b < wi.heap.size) (fun b h1 h2 => ⟨h1, h2⟩))
          have XO6 := bk xo6
          have HV0 := bk HOW.out.lt
          clear hvk xo6 hrt HO z8
          generalize keepB x.ins rows = kp at *
          go_wp2_with (at_builtin; refine Stp.out ?_)
          refine Stp.mk ?_
          obtain ⟨W7, hW7⟩ : ∃ W7, W7 = wi.setCell ⟨wo.heap.size, 0, none⟩ (.slice Ak kp.length ck) := ⟨_, rfl⟩
          have FS7 : Bk (Fr (fun b => b = wo.heap.size) wi W7) := bk (by rw [hW7]; exact (Fr.refl (fun b => b = wo.heap.size) wi).setCell (p := ⟨wo.heap.size, 0, none⟩) (fun _ => rfl) _)
          have hz7 : W7.heap.size = wi.heap.size := by rw [hW7]; simp
          rw [← hW7]
          clear hW7
          have XO7 := bk (XO6.out.fr FS7.out ne2)
          have KEEP : Bk (∀ b, b < wo.heap.size → W7.heap[b]? = wo.heap[b]?) := bk (fun b hb => (FS7.out.block b (by omega) (by omega)).trans (HB6.out.block b hb))
          have HOW7 : Bk (Own RBlk 54 W7 W2.heap.size (fun b => W2.heap.size ≤ b ∧ b < wi.heap.size ∧ v.ownBlock ≠ some b) (f.once.blocks.take k) v) := bk ((HOW.out.keep (fun b _ hlt => KEEP.out b hlt) (by omega)).mono (fun b hb _ => ⟨hb.1, by omega, hb.2.2⟩) (fun q hq h => h.2.2 hq))
          have HVK7 : Bk (Sl RTac W7 (fun b => W2.heap.size ≤ b ∧ b < wi.heap.size ∧ v.ownBlock ≠ some b) kp (.slice Ak kp.length ck)) := bk ((HVK.out.fr FS7.out (fun b hb _ => by show ¬ b = _; omega)).mono (fun b hb _ => ⟨by omega, hb.2, fun e => by have := HV0.out b e; omega⟩))
          refine Own.append RBlk (by rfl) _ _ 22 54 (.agg #[.slice none 0 0, .int .i64 0, .int .i64 0, .int .i64 0, .int .i64 0]) 56 (by rfl) Try.underlying22 infoBlk rfl W2.heap.size (fun b => W2.heap.size ≤ b ∧ b < wi.heap.size ∧ v.ownBlock ≠ some b) W7 v (f.once.blocks.take k) (⟨kp, x.fin, x.v, x.to, x.els⟩ : Blk)
            [.slice Ak kp.length ck, .int .i64 x.fin, .int .i64 x.v, .int .i64 x.to, .int .i64 x.els] (by rfl) (by show Value.slice (some ⟨wi.heap.size, 0, none⟩) 1 1 = _; rw [hz7]) HOW7.out ⟨_, rfl, HVK7.out⟩ (by omega) (fun b hb => by omega) (by rw [List.length_take]; omega) (by omega) ?_
          intro v3 w3 hown3 hg3 hat3 hv3
          obtain ⟨g3, c3, hv3⟩ := hv3
          have hl3 : (f.once.blocks.take k).length = k := by rw [List.length_take]; simp [Fn.once]; omega
          rw [hl3] at hv3
          subst hv3
          have xo3 := XO7.out.keep (hg3.block _ XO7.out.lt (fun e => by have := HV0.out _ e.symm; omega))
          have co3 := xo3.cell
          have fo3 := xo3.frozen
          have lo3 := xo3.lt
          have XO3 := bk xo3
          have hs3 := hg3.size
          have HO3 := bk hown3; have HAT3 := bk hat3
          have HFR3 : Bk (Fr (fun b => b = W1.heap.size + 1 ∨ W2.heap.size ≤ b) W2 w3) := bk (((HF6.out.trans (FS7.out.mono (fun b _ e => by right; omega)))).grown hg3 (fun q e _ => .inr (HV0.out q e).1))
          clear hown3 hg3 hat3 xo3 co fo
          go_wp2_with fail
          go_roundw
          case measure => simp [intOf]; omega
          case rel =>
            have FS8 : Fr (fun b => b = W1.heap.size + 1) w3 (w3.setCell ⟨W1.heap.size + 1, 1, none⟩ (.slice (some ⟨g3, 0, none⟩) (k + 1) c3)) := (Fr.refl (fun b => b = W1.heap.size + 1) w3).setCell (p := ⟨W1.heap.size + 1, 1, none⟩) (fun _ => rfl) _
            refine ⟨k + 1, c7, .slice (some ⟨g3, 0, none⟩) (k + 1) c3, by omega, by go_num, rfl, ?_, XO3.out.set 1 _, ?_, HFR3.out.trans (FS8.mono (fun b _ e => .inl e))⟩
            · rw [HCT1.out, HCT2.out]
              have h1 := HC7.out
              have h2 := HCNT.out
              omega
            · rw [HTK.out]
              refine (HO3.out.keep (fun b hb hlt3 => FS8.block b hlt3 ?_) FS8.size).mono (fun b hb hlt3 => ⟨hb.1, hlt3, fun e => ?_⟩) (fun q hq h => h.2.2 hq)
              · show ¬ b = _
                rcases hb with hb | hb
                · omega
                · have := HO3.out.lt b hb; omega
              · rcases HAT3.out with h | ⟨b0, h, h'⟩
                · rw [h] at e; exact hb.2.2 e
                · rw [h] at e; cases e; omega
    · have hkk : k = f.blocks.length := by omega
      subst hkk
      have hol : f.once.blocks.length = f.blocks.length := by simp [Fn.once]
      have hall : f.once.blocks.take f.blocks.length = f.once.blocks := List.take_of_length_le (by omega)
      rw [hall] at HOW
      have hsl : Sl RBlk wr (fun c => W2.heap.size ≤ c) f.once.blocks v := HOW.out.sl (fun b hb _ => hb.1) (fun q hq => (HOW.out.lt q hq).1) (by omega)
      obtain ⟨Av, cv, rfl, _⟩ := hsl.form
      rw [hol] at hsl XO
      have HSL := bk hsl
      have co := XO.out.cell
      have hwz : w.heap.size + 1 < W1.heap.size := by omega
      have xr := HR2.out.fr hfr (nS _ (by omega))
      have cr := xr.cell
      have frz := xr.frozen
      have hr0 := (xr.set 0 (.int .i64 f.regs)).cell 0
      have hr1 := ((xr.set 0 (.int .i64 f.regs)).set 1 (.slice Av f.blocks.length cv)).cell 1
      simp at hr0 hr1
      have hst : ((f.count - f.once.count : Nat) : Int) = c6 := by
        have h1 := HCNT.out
        rw [hall, List.take_length] at h1
        unfold Fn.count
        omega
      have HST := bk hst
      have lo := XO.out.lt
      have HBF : Bk (Below w.heap.size w wr) := bk (HB2.out.trans (HFR.out.to_below (fun b hb => by have := HB1.out.size; omega) HB2.out.size))
      have HR := bk xr
      clear hsl xr hfr hst
      go_wp2_with fail
      refine bodyPost_ret (v := .tuple #[  .agg #[.int .i64 f.regs, .slice Av f.blocks.length cv], .int .i64 c6]) (by simp [results, Try.results29, go_sem, hr0, hr1]) rfl ⟨⟨_, by rw [HST.out], ?_⟩, ?_⟩
      · exact (HSL.out.fr (((Fr.refl (fun b => b = w.heap.size + 1) wr).setCell (p := ⟨w.heap.size + 1, 0, none⟩) (fun _ => rfl) _).setCell (p := ⟨w.heap.size + 1, 1, none⟩) (fun _ => rfl) _) (fun b hb _ => by show ¬ b = _; omega)).mono (fun b hb _ => by omega)
      · exact (HBF.out.setCell (p := ⟨w.heap.size + 1, 0, none⟩) (by show w.heap.size ≤ w.heap.size + 1; omega) _).setCell (p := ⟨w.heap.size + 1, 1, none⟩) (by show w.heap.size ≤ w.heap.size + 1; omega) _
end Go.Proofs.Ytiaojefhbhodiaa
