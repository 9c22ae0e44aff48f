/-
  Walks: which instruction of a block is dead; a list without those.
-/
import Derived.Test.YtiaojefhbhodiaaW10b
import Derived.Test.YtiaojefhbhodiaaW12
import Derived.Test.YtiaojefhbhodiaaW18
import Derived.Deep.RegionHeld3
import Derived.Deep.CutRange
set_option linter.unusedVariables false
namespace Go.Proofs.Ytiaojefhbhodiaa
open Go.RowKit

theorem undrew2 (w : World) : Below w.heap.size w w.drew := (Below.refl _ _).drew
def deadB (t : Tac) (r : List Bool) : Bool := t.pure && !(r.getD t.sets.toNat false)

set_option maxRecDepth 100000 in
set_option maxHeartbeats 4000000 in
theorem onceFn (i b8 b9 : Nat) (xs : List Tac) (rows : Rows) (A Ar : Option Addr) (c cr : Nat) (ok ok' : Nat → Prop) (w : World) (hc8 : w.cell? ⟨b8, 0, none⟩ = some (.slice A xs.length c)) (hs : Sl RTac w ok xs (.slice A xs.length c))
    (hc9 : w.cell? ⟨b9, 0, none⟩ = some (.slice Ar rows.length cr)) (hr : Sl (.slice RB) w ok' rows (.slice Ar rows.length cr)) (hi : i < xs.length) (hl : rows.length = xs.length) (hp : xs[i].pure = true → 0 ≤ xs[i].sets) (hx : xs[i].sets < (rows[i]'(by omega)).length) :
    Calls Try.prog 42 #[.int .i64 i, .pointer (some ⟨b8, 0, none⟩), .pointer (some ⟨b9, 0, none⟩)] w
    fun e w' => e = .returned (.bool (deadB xs[i] (rows[i]'(by omega)))) ∧ Below w.heap.size w w' := by
  obtain ⟨g, o, hA, hok, hg, hrow, _⟩ := hs.tac i hi
  have hir : i < rows.length := by omega
  obtain ⟨gr, or, B, m, hAr, hokr, hgr, hsr, hnr, hcr⟩ := hr.row i hir
  subst hA hAr
  obtain ⟨q0, q1, q2, q3, q4, q5, q6, q7⟩ := hrow.tac
  have HX := bk hx; have HP := bk hp; have HSR := bk hsr
  have hl8 := World.block_lt_of_cell? w _ hc8
  have hl9 := World.block_lt_of_cell? w _ hc9
  dsimp only at hl8 hl9
  have hcell : xs[i].pure = true → ∃ gb ob, B = some ⟨gb, ob, none⟩ ∧ gb < w.heap.size ∧ w.cell? ⟨gb, ob + xs[i].sets.toNat, none⟩ = some (.bool (rows[i].getD xs[i].sets.toNat false)) := fun h => by
    have h0 := hp h
    have hlt : xs[i].sets.toNat < rows[i].length := by omega
    obtain ⟨gb, ob, hB, _, h2, h3⟩ := HSR.out.one xs[i].sets.toNat hlt
    refine ⟨gb, ob, hB, h2, ?_⟩
    rw [h3, List.getD_eq_getElem?_getD, List.getElem?_eq_getElem hlt]
    rfl
  have HPU := bk (fun W => pureD xs[i].op xs[i].d xs[i].a xs[i].b xs[i].k xs[i].base xs[i].size xs[i].n W)
  have HSE := bk (fun W => setsB xs[i].op xs[i].d xs[i].a xs[i].b xs[i].k xs[i].base xs[i].size xs[i].n W)
  have HCELL := bk hcell
  have hs1 : xs[i].sets < rows[i].length := hx
  clear hs hr hsr hrow hp hx hcell
  unfold deadB
  generalize hrl : rows[i] = r at *
  generalize htt : xs[i] = t at *
  have hpu : Tac.pure ⟨t.op, t.d, t.a, t.b, t.k, t.base, t.size, t.n⟩ = t.pure := rfl
  have hse : Tac.sets ⟨t.op, t.d, t.a, t.b, t.k, t.base, t.size, t.n⟩ = t.sets := rfl
  rw [hpu] at HPU
  rw [hse] at HSE
  clear hpu hse hrl htt
  cases hpp : t.pure with
  | false =>
    rw [hpp] at HPU
    go_enter Try.func42, Try.ntmps42
    go_upto_region 1 with fail
    refine wp_region_noPanic ?_
    refine wp_region_mix [true, true, true, true, true, false, true, true, true, true, true, true, true, true, true, true, false, true, true, true, true, false] (fun w' => w'.cell? ⟨b8, 0, none⟩ = some (.slice (some ⟨g, o, none⟩) xs.length c) ∧ w'.cell? ⟨g, o + i * 8, none⟩ = some (.int .i64 t.op) ∧ w'.cell? ⟨g, o + i * 8 + 1, none⟩ = some (.int .i64 t.d) ∧ w'.cell? ⟨g, o + i * 8 + 2, none⟩ = some (.int .i64 t.a) ∧ w'.cell? ⟨g, o + i * 8 + 3, none⟩ = some (.int .i64 t.b) ∧ w'.cell? ⟨g, o + i * 8 + 4, none⟩ = some (.int .i64 t.k) ∧ w'.cell? ⟨g, o + i * 8 + 5, none⟩ = some (.int .i64 t.base) ∧ w'.cell? ⟨g, o + i * 8 + 6, none⟩ = some (.int .i64 t.size) ∧ w'.cell? ⟨g, o + i * 8 + 7, none⟩ = some (.int .u32 t.n)) (by kernel_rfl) (by kernel_rfl) (by kernel_rfl) (fun c a w h => h) ⟨cell_below (undrew2 w) hc8, cell_below (undrew2 w) q0, cell_below (undrew2 w) q1, cell_below (undrew2 w) q2, cell_below (undrew2 w) q3, cell_below (undrew2 w) q4, cell_below (undrew2 w) q5, cell_below (undrew2 w) q6, cell_below (undrew2 w) q7⟩ ?_
    iterate 5
      refine wpMix_held ?_ (by rfl) ?_ ?_
      rotate_left 1
      · intro w hSw
        obtain ⟨s0, s1, s2, s3, s4, s5, s6, s7, s8⟩ := hSw
        go_simp
        with_reducible rfl
      simp only [Act.put, List.setIfInBounds_toArray, List.set_cons_zero, List.set_cons_succ]
    refine wpMix_step (fun K hK => ?_)
    go_simp
    refine (HPU.out _).mono ?_
    rintro e w1 ⟨rfl, hb1⟩
    have HB1 := undrew hb1
    clear hb1
    refine hK _ _ ⟨cell_below HB1 hc8, cell_below HB1 q0, cell_below HB1 q1, cell_below HB1 q2, cell_below HB1 q3, cell_below HB1 q4, cell_below HB1 q5, cell_below HB1 q6, cell_below HB1 q7⟩ ?_
    clear hK K
    try simp only [Act.put, List.setIfInBounds_toArray, List.set_cons_zero, List.set_cons_succ]
    iterate 1
      refine wpMix_held ?_ (by rfl) ?_ ?_
      rotate_left 1
      · intro w hSw
        obtain ⟨s0, s1, s2, s3, s4, s5, s6, s7, s8⟩ := hSw
        go_simp
        with_reducible rfl
      simp only [Act.put, List.setIfInBounds_toArray, List.set_cons_zero, List.set_cons_succ]
    iterate 9
      refine wpMix_unheld (by rfl) ?_
      simp only [Act.put, List.setIfInBounds_toArray, List.set_cons_zero, List.set_cons_succ]
    refine wpMix_step (fun K hK => ?_)
    go_simp
    refine hK _ _ ⟨cell_below HB1 hc8, cell_below HB1 q0, cell_below HB1 q1, cell_below HB1 q2, cell_below HB1 q3, cell_below HB1 q4, cell_below HB1 q5, cell_below HB1 q6, cell_below HB1 q7⟩ ?_
    clear hK K
    try simp only [Act.put, List.setIfInBounds_toArray, List.set_cons_zero, List.set_cons_succ]
    iterate 3
      refine wpMix_unheld (by rfl) ?_
      simp only [Act.put, List.setIfInBounds_toArray, List.set_cons_zero, List.set_cons_succ]
    iterate 1
      refine wpMix_held ?_ (by rfl) ?_ ?_
      rotate_left 1
      · intro w hSw
        obtain ⟨s0, s1, s2, s3, s4, s5, s6, s7, s8⟩ := hSw
        go_simp
        with_reducible rfl
      simp only [Act.put, List.setIfInBounds_toArray, List.set_cons_zero, List.set_cons_succ]
    refine wpMix_step (fun K hK => ?_)
    go_simp
    refine hK _ _ ⟨cell_below HB1 hc8, cell_below HB1 q0, cell_below HB1 q1, cell_below HB1 q2, cell_below HB1 q3, cell_below HB1 q4, cell_below HB1 q5, cell_below HB1 q6, cell_below HB1 q7⟩ ?_
    clear hK K
    try simp only [Act.put, List.setIfInBounds_toArray, List.set_cons_zero, List.set_cons_succ]
    refine wpMix_nil ?_
    refine NoPanic.normal ?_
    go_wp2_with fail
    go_ret
    exact ⟨rfl, HB1⟩
  | true =>
    rw [hpp] at HPU
    obtain ⟨gb, ob, hB, hgb, hcb⟩ := HCELL.out hpp
    subst hB
    have h0 := HP.out hpp
    go_enter Try.func42, Try.ntmps42
    go_upto_region 1 with fail
    refine wp_region_noPanic ?_
    refine wp_region_mix [true, true, true, true, true, false, true, true, true, true, true, true, true, true, true, true, false, true, true, true, true, false] (fun w' => w'.cell? ⟨b8, 0, none⟩ = some (.slice (some ⟨g, o, none⟩) xs.length c) ∧ w'.cell? ⟨g, o + i * 8, none⟩ = some (.int .i64 t.op) ∧ w'.cell? ⟨g, o + i * 8 + 1, none⟩ = some (.int .i64 t.d) ∧ w'.cell? ⟨g, o + i * 8 + 2, none⟩ = some (.int .i64 t.a) ∧ w'.cell? ⟨g, o + i * 8 + 3, none⟩ = some (.int .i64 t.b) ∧ w'.cell? ⟨g, o + i * 8 + 4, none⟩ = some (.int .i64 t.k) ∧ w'.cell? ⟨g, o + i * 8 + 5, none⟩ = some (.int .i64 t.base) ∧ w'.cell? ⟨g, o + i * 8 + 6, none⟩ = some (.int .i64 t.size) ∧ w'.cell? ⟨g, o + i * 8 + 7, none⟩ = some (.int .u32 t.n) ∧ w'.cell? ⟨b9, 0, none⟩ = some (.slice (some ⟨gr, or, none⟩) rows.length cr) ∧ w'.cell? ⟨gr, or + i, none⟩ = some (.slice (some ⟨gb, ob, none⟩) r.length m) ∧ w'.cell? ⟨gb, ob + t.sets.toNat, none⟩ = some (.bool (r.getD t.sets.toNat false))) (by kernel_rfl) (by kernel_rfl) (by kernel_rfl) (fun c a w h => h) ⟨cell_below (undrew2 w) hc8, cell_below (undrew2 w) q0, cell_below (undrew2 w) q1, cell_below (undrew2 w) q2, cell_below (undrew2 w) q3, cell_below (undrew2 w) q4, cell_below (undrew2 w) q5, cell_below (undrew2 w) q6, cell_below (undrew2 w) q7, cell_below (undrew2 w) hc9, cell_below (undrew2 w) hcr, cell_below (undrew2 w) hcb⟩ ?_
    iterate 5
      refine wpMix_held ?_ (by rfl) ?_ ?_
      rotate_left 1
      · intro w hSw
        obtain ⟨s0, s1, s2, s3, s4, s5, s6, s7, s8, s9, s10, s11⟩ := hSw
        go_simp
        with_reducible rfl
      simp only [Act.put, List.setIfInBounds_toArray, List.set_cons_zero, List.set_cons_succ]
    refine wpMix_step (fun K hK => ?_)
    go_simp
    refine (HPU.out _).mono ?_
    rintro e w1 ⟨rfl, hb1⟩
    have HB1 := undrew hb1
    clear hb1
    refine hK _ _ ⟨cell_below HB1 hc8, cell_below HB1 q0, cell_below HB1 q1, cell_below HB1 q2, cell_below HB1 q3, cell_below HB1 q4, cell_below HB1 q5, cell_below HB1 q6, cell_below HB1 q7, cell_below HB1 hc9, cell_below HB1 hcr, cell_below HB1 hcb⟩ ?_
    clear hK K
    try simp only [Act.put, List.setIfInBounds_toArray, List.set_cons_zero, List.set_cons_succ]
    iterate 10
      refine wpMix_held ?_ (by rfl) ?_ ?_
      rotate_left 1
      · intro w hSw
        obtain ⟨s0, s1, s2, s3, s4, s5, s6, s7, s8, s9, s10, s11⟩ := hSw
        go_simp
        with_reducible rfl
      simp only [Act.put, List.setIfInBounds_toArray, List.set_cons_zero, List.set_cons_succ]
    refine wpMix_step (fun K hK => ?_)
    go_simp
    refine (HSE.out _).mono ?_
    rintro e w2 ⟨rfl, hb1⟩
    have HB2 := below0 HB1 hb1
    clear hb1
    refine hK _ _ ⟨cell_below HB2 hc8, cell_below HB2 q0, cell_below HB2 q1, cell_below HB2 q2, cell_below HB2 q3, cell_below HB2 q4, cell_below HB2 q5, cell_below HB2 q6, cell_below HB2 q7, cell_below HB2 hc9, cell_below HB2 hcr, cell_below HB2 hcb⟩ ?_
    clear hK K
    try simp only [Act.put, List.setIfInBounds_toArray, List.set_cons_zero, List.set_cons_succ]
    iterate 4
      refine wpMix_held ?_ (by rfl) ?_ ?_
      rotate_left 1
      · intro w hSw
        obtain ⟨s0, s1, s2, s3, s4, s5, s6, s7, s8, s9, s10, s11⟩ := hSw
        go_simp
        with_reducible rfl
      simp only [Act.put, List.setIfInBounds_toArray, List.set_cons_zero, List.set_cons_succ]
    refine wpMix_step (fun K hK => ?_)
    go_simp
    refine hK _ _ ⟨cell_below HB2 hc8, cell_below HB2 q0, cell_below HB2 q1, cell_below HB2 q2, cell_below HB2 q3, cell_below HB2 q4, cell_below HB2 q5, cell_below HB2 q6, cell_below HB2 q7, cell_below HB2 hc9, cell_below HB2 hcr, cell_below HB2 hcb⟩ ?_
    clear hK K
    try simp only [Act.put, List.setIfInBounds_toArray, List.set_cons_zero, List.set_cons_succ]
    refine wpMix_nil ?_
    refine NoPanic.normal ?_
    go_wp2_with fail
    go_ret
    exact ⟨ret_bool (by simp [List.getElem?_eq_getElem (show t.sets.toNat < r.length by omega)]), HB2⟩
end Go.Proofs.Ytiaojefhbhodiaa
