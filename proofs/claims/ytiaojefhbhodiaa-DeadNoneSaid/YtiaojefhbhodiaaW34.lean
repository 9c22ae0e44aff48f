/-
  Walk: the statement DeadNone.
-/
import Derived.Test.YtiaojefhbhodiaaW32
set_option linter.unusedVariables false
namespace Go.Proofs.Ytiaojefhbhodiaa
open Go.RowKit

theorem Sub.eq_of_len {x y : List Tac} (h : Sub x y) (hl : x.length ≤ y.length) : y = x := by
  induction h with
  | nil => rfl
  | keep t h ih => rw [ih (by simpa using hl)]
  | drop t hp h ih =>
    have := h.len
    simp only [List.length_cons] at hl
    omega
/-- What takes nothing out turns nothing. -/
theorem once_fix (f : Fn) (h : ¬ f.once.count < f.count) : f.once = f := by
  have hl : f.once.blocks.length = f.blocks.length := by simp [Fn.once]
  have key : ∀ k, k ≤ f.blocks.length → countI (f.once.blocks.drop (f.blocks.length - k)) ≤ countI (f.blocks.drop (f.blocks.length - k)) ∧ (countI (f.blocks.drop (f.blocks.length - k)) ≤ countI (f.once.blocks.drop (f.blocks.length - k)) → f.once.blocks.drop (f.blocks.length - k) = f.blocks.drop (f.blocks.length - k)) := by
    intro k
    induction k with
    | zero => intro _; simp [hl, List.drop_of_length_le]
    | succ k ih =>
      intro hk
      obtain ⟨h1, h2⟩ := ih (by omega)
      have hi : f.blocks.length - (k + 1) < f.blocks.length := by omega
      have hi' : f.blocks.length - (k + 1) < f.once.blocks.length := by omega
      have e : f.blocks.length - (k + 1) + 1 = f.blocks.length - k := by omega
      rw [List.drop_eq_getElem_cons hi, List.drop_eq_getElem_cons hi', e]
      have hs := (once_sub f).blk _ hi hi'
      have hle := hs.ins.len
      simp only [countI, List.map_cons, List.sum_cons] at h1 h2 ⊢
      refine ⟨by omega, fun hc => ?_⟩
      have hb : f.once.blocks[f.blocks.length - (k + 1)] = f.blocks[f.blocks.length - (k + 1)] := by
        have hins := hs.ins.eq_of_len (by omega)
        have a1 := hs.hfin; have a2 := hs.hv; have a3 := hs.hto; have a4 := hs.hels
        generalize f.once.blocks[f.blocks.length - (k + 1)] = y at *
        generalize f.blocks[f.blocks.length - (k + 1)] = x at *
        cases x; cases y; simp_all
      rw [hb, h2 (by rw [hb] at hc; omega)]
  have := (key f.blocks.length (Nat.le_refl _)).2
  simp only [Nat.sub_self, List.drop_zero] at this
  have hb := this (by unfold Fn.count at h; omega)
  have hr : f.once.regs = f.regs := rfl
  generalize hg : f.once = g at *
  cases f; cases g; simp_all
theorem dead_once (f : Fn) : f.dead.once = f.dead := by
  rw [Fn.dead]
  split
  · rename_i h
    exact dead_once f.once
  · rename_i h
    rw [once_fix f h, once_fix f h]
termination_by f.count
theorem dead_dead (f : Fn) : f.dead.dead = f.dead := by
  rw [dead_end f.dead (by rw [dead_once]; exact Nat.lt_irrefl _), dead_once]

set_option maxRecDepth 100000 in
set_option maxHeartbeats 8000000 in
theorem noneL (hOf : OfL) (hOf2 : Of27L) (f : Fn) (va : Value) (ok : Nat → Prop) (w : World) (ha : Sl RBlk w ok f.blocks va) :
    Calls Try.prog 7 #[.agg #[.int .i64 f.regs, va]] w fun e w' => e = .returned (.bool true) ∧ Below w.heap.size w w' := by
  obtain ⟨A, c, rfl, hc, hn2⟩ := ha.form
  have HA := bk (ha.mono (ok' := fun b => b < w.heap.size) (fun b _ h => h))
  clear ha
  go_enter Try.func7, Try.ntmps7
  go_wp2_with fail
  refine name_world_calls (fun W0 hW0 => ?_)
  have HB0 : Bk (Below w.heap.size w W0) := by subst hW0; exact bk (by repeat (first | exact Below.refl _ _ | exact alloc1 _ _ | refine Below.drew ?_ | refine Below.alloc ?_ (by simp; try omega) _ | refine Below.setCell ?_ (by simp; try omega) _))
  have HX0 : Bk (Bx W0 w.heap.size #[.int .i64 f.regs, .slice A f.blocks.length c] 24) := by subst hW0; exact bk (Bx.new _ _ _)
  clear hW0
  refine (aliveL hOf W0).mono ?_
  rintro e W1 ⟨rfl, hb1⟩
  have x1 := HX0.out.below hb1
  have cx1 := x1.cell
  have HX1 := bk x1; have HB1 := bk (below0 HB0.out hb1)
  clear x1 hb1
  go_wp2_with fail
  refine (few32 f.few f _ _ W1 (HA.out.below HB1.out) rfl).mono ?_
  rintro e W2 ⟨rfl, hb2⟩
  have HX2 := bk (HX1.out.below hb2); have HB2 := bk (below0 HB1.out hb2)
  clear hb2 cx1
  cases hfew : f.few with
  | false =>
    go_wp2_with fail
    go_ret
    exact ⟨rfl, HB2.out⟩
  | true =>
    have HOK := bk (few_ok f hfew)
    have cx2 := HX2.out.cell
    have lx2 := HX2.out.lt
    go_wp2_with fail
    refine (deadOf hOf f _ _ W2 (HA.out.below HB2.out) HOK.out).mono ?_
    rintro e W3 ⟨⟨v3, vs3, rfl, hv3, hc3⟩, hb3⟩
    obtain ⟨A3, c3, rfl, _⟩ := hv3.form
    obtain ⟨B3, d3, rfl, _⟩ := hc3.form
    have HV3 := bk hv3; have HC3 := bk hc3; have HX3 := bk (HX2.out.below hb3); have HB3 := bk (below0 HB2.out hb3)
    have hs3 := hb3.size
    clear hv3 hc3 hb3 cx2
    go_wp2_with fail
    refine name_world_calls (fun W4 hW4 => ?_)
    have hz4 : W4.heap.size = W3.heap.size + 2 := by subst hW4; simp
    have HB34 : Bk (Below W3.heap.size W3 W4) := by subst hW4; exact bk (by repeat (first | exact Below.refl _ _ | exact alloc1 _ _ | refine Below.drew ?_ | refine Below.alloc ?_ (by simp; try omega) _ | refine Below.setCell ?_ (by simp; try omega) _))
    have HT3 : Bk (Bx W4 W3.heap.size #[.int .i64 f.regs, .slice A3 f.dead.blocks.length c3] 24) := by subst hW4; exact bk ((Bx.new _ _ _).alloc _)
    clear hW4
    have HB4 := bk (below0 HB3.out HB34.out)
    have HDOK := bk (dead_ok f HOK.out)
    have HDR := bk (dead_regs f)
    have HDD := bk (dead_dead f)
    have HD0 := bk (dead_once f)
    have HDE := bk (fun (W : World) (h : Sl RBlk W (fun c => W2.heap.size ≤ c) f.dead.blocks (.slice A3 f.dead.blocks.length c3)) => deadOf hOf f.dead _ _ W h HDOK.out)
    have HDN := bk (fun (W : World) (h : Sl RBlk W (fun c => W2.heap.size ≤ c) f.dead.blocks (.slice A3 f.dead.blocks.length c3)) => dead32 hOf2 f.dead _ _ W h HDOK.out)
    rw [HDR.out] at HDE HDN
    rw [HDD.out] at HDE
    rw [HD0.out, Nat.sub_self] at HDN
    refine (HDE.out W4 (HV3.out.below HB34.out)).mono ?_
    rintro e W5 ⟨⟨v5, vs5, rfl, hv5, hc5⟩, hb5⟩
    obtain ⟨A5, c5, rfl, _⟩ := hv5.form
    obtain ⟨B5, d5, rfl, _⟩ := hc5.form
    have HV5 := bk hv5; have HB5 := bk (below0 HB4.out hb5)
    have HB35 := bk (below0 HB34.out hb5)
    have t3 := HT3.out.below hb5
    have ct3 := t3.cell
    have lt3 := t3.lt
    have lt3b : W3.heap.size < W5.heap.size + 1 := by omega
    have HT3' := bk t3
    have hs5 := hb5.size
    clear hv5 hc5 hb5 t3
    go_wp2_with fail
    refine name_world_calls (fun W6 hW6 => ?_)
    have hz6 : W6.heap.size = W5.heap.size + 2 := by subst hW6; simp
    have HB56 : Bk (Below W5.heap.size W5 W6) := by subst hW6; exact bk (by repeat (first | exact Below.refl _ _ | exact alloc1 _ _ | refine Below.drew ?_ | refine Below.alloc ?_ (by simp; try omega) _ | refine Below.setCell ?_ (by simp; try omega) _))
    have HT6 : Bk (Bx W6 W5.heap.size #[.int .i64 f.regs, .slice A5 f.dead.blocks.length c5] 24) := by subst hW6; exact bk ((Bx.new _ _ _).alloc _)
    clear hW6 ct3
    have HB36 := bk (below0 HB35.out HB56.out)
    have HB6 := bk (below0 HB5.out HB56.out)
    refine (HDN.out W6 (HV3.out.below HB36.out)).mono ?_
    rintro e W7 ⟨rfl, hb7⟩
    have t3 := (HT3'.out.below HB56.out).below hb7
    have t6 := HT6.out.below hb7
    have k0 : W7.cell? ⟨W3.heap.size, 0, none⟩ = some (.int .i64 f.regs) := t3.cell 0
    have k1 : W7.cell? ⟨W3.heap.size, 1, none⟩ = some (.slice A3 f.dead.blocks.length c3) := t3.cell 1
    have k2 : W7.cell? ⟨W5.heap.size, 0, none⟩ = some (.int .i64 f.regs) := t6.cell 0
    have k3 : W7.cell? ⟨W5.heap.size, 1, none⟩ = some (.slice A5 f.dead.blocks.length c5) := t6.cell 1
    have HB7 := bk (below0 HB6.out hb7)
    have HB37 := bk (below0 HB36.out hb7)
    have HB57 := bk (below0 HB56.out hb7)
    clear t3 t6 hb7
    go_wp2_with fail
    refine (sameFunc24 f.dead.blocks f.dead.blocks _ _ f.regs f.regs _ _ W7 (HV3.out.below HB37.out) (HV5.out.below HB57.out)).mono ?_
    rintro e W8 ⟨rfl, hb8⟩
    rw [show decide ((⟨f.regs, f.dead.blocks⟩ : Fn) = ⟨f.regs, f.dead.blocks⟩) = true from by simp]
    have HB8 := bk (below0 HB7.out hb8)
    clear hb8
    go_wp2_with fail
    go_ret
    exact ⟨rfl, HB8.out⟩
end Go.Proofs.Ytiaojefhbhodiaa
