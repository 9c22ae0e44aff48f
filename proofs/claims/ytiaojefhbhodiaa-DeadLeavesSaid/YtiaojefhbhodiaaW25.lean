/-
  Walk: the document's examples hold.
-/
import Derived.Test.YtiaojefhbhodiaaW24
import Derived.Test.YtiaojefhbhodiaaEqs
import Derived.Deep.CutRange
set_option linter.unusedVariables false
namespace Go.Proofs.Ytiaojefhbhodiaa
open Go.RowKit

/-- A block that holds a list's cells, one element after another. -/
theorem Sl.of_flat {α : Type} (d : Rep α) {W : World} {b : Nat} {t : TypeId} {ok : Nat → Prop} {xs : List α} (css : List (List Value)) (hl : css.length = xs.length) (hi : ∀ i (h : i < xs.length) (h' : i < css.length), d.is W ok xs[i] css[i]) (hb : Bx W b css.flatten.toArray t) (hok : ok b) (c : Nat) (hc : xs.length ≤ c) (hn : xs.length ≤ 140737488355328) :
    Sl d W ok xs (.slice (some ⟨b, 0, none⟩) xs.length c) := by
  refine ⟨_, _, c, rfl, rfl, hc, hn, fun _ => ⟨b, 0, rfl, hok, hb.lt, fun i h => ⟨css[i]'(by omega), hi i h (by omega), fun j hj => ?_⟩⟩⟩
  have hd := hi i h (by omega)
  have hj' : j < d.sz := by rw [← d.len hd]; exact hj
  have hget := flatten_get d.sz css (fun c hc => by
    obtain ⟨k, hk, rfl⟩ := List.getElem_of_mem hc
    exact d.len (hi k (by omega) hk)) i j (by omega) hj' css[i] (by simp)
  rw [hb.cell, List.getElem?_toArray, Nat.zero_add, hget]
  simp

def exTac : Value := .agg #[.int .i64 9, .int .i64 0, .int .i64 2, .int .i64 0, .int .i64 0, .int .i64 0, .int .i64 0, .int .u32 0]

set_option maxRecDepth 100000 in
set_option maxHeartbeats 8000000 in
theorem aliveL (hOf : OfL) (w : World) : Calls Try.prog 9 #[] w fun e w' => e = .returned (.bool true) ∧ Below w.heap.size w w' := by
  have heq : ∀ w : World, (binOp .eql 27 (.agg #[.int .i64 9, .int .i64 0, .int .i64 2, .int .i64 0, .int .i64 0, .int .i64 0, .int .i64 0, .int .u32 0]) (.agg #[.int .i64 9, .int .i64 0, .int .i64 2, .int .i64 0, .int .i64 0, .int .i64 0, .int .i64 0, .int .u32 0])).run Try.prog w = .ok (.bool true) w := fun w => by
    rw [run_eql_struct]
    rw [show (10000 : Nat) = 9998 + 2 from rfl, eqTac]
    rfl
  have HROWS := bk @rows27; have HSAME := bk @sameFunc24
  go_enter Try.func9, Try.ntmps9
  go_wp2_with fail
  refine name_world_calls (fun W0 hW0 => ?_)
  have hz : W0.heap.size = w.heap.size + 3 := by subst hW0; simp
  have HB0 : Bk (Below w.heap.size w W0) := by subst hW0; exact bk (by repeat (first | exact Below.refl _ _ | exact alloc1 _ _ | refine Below.drew ?_ | refine Below.alloc ?_ (by simp; try omega) _ | refine Below.setCell ?_ (by simp; try omega) _))
  have x0 : Bx W0 w.heap.size (List.flatten [Tac.cells ⟨1, 0, 0, 0, 0, 0, 0, 5⟩, Tac.cells ⟨2, 1, 0, 0, 0, 0, 0, 0⟩, Tac.cells ⟨9, 0, 2, 0, 0, 0, 0, 0⟩]).toArray 27 := by subst hW0; exact ((Bx.new _ _ _).alloc _).alloc _
  have x1 : Bx W0 (w.heap.size + 1) (List.flatten [[.slice (some ⟨w.heap.size, 0, none⟩) 3 3, .int .i64 3, .int .i64 0, .int .i64 0, .int .i64 0]]).toArray 54 := by subst hW0; exact (Bx.new' (by simp)).alloc _
  clear hW0
  have hs0 : Sl RBlk W0 (fun _ => True) exF.blocks (.slice (some ⟨w.heap.size + 1, 0, none⟩) 1 1) := by
    refine Sl.of_flat RBlk (xs := exF.blocks) [[.slice (some ⟨w.heap.size, 0, none⟩) 3 3, .int .i64 3, .int .i64 0, .int .i64 0, .int .i64 0]] rfl (fun i h h' => ?_) x1 trivial 1 (by decide) (by decide)
    have : i = 0 := by simp at h'; exact h'
    subst this
    refine ⟨_, rfl, ?_⟩
    refine Sl.of_flat RTac (xs := [⟨1, 0, 0, 0, 0, 0, 0, 5⟩, ⟨2, 1, 0, 0, 0, 0, 0, 0⟩, ⟨9, 0, 2, 0, 0, 0, 0, 0⟩]) [Tac.cells ⟨1, 0, 0, 0, 0, 0, 0, 5⟩, Tac.cells ⟨2, 1, 0, 0, 0, 0, 0, 0⟩, Tac.cells ⟨9, 0, 2, 0, 0, 0, 0, 0⟩] rfl (fun i h h' => ?_) x0 trivial 3 (by decide) (by decide)
    simp at h
    rcases i with _ | _ | _ | i
    · exact ⟨rfl, by show inU 5; unfold inU; decide⟩
    · exact ⟨rfl, by show inU 0; unfold inU; decide⟩
    · exact ⟨rfl, by show inU 0; unfold inU; decide⟩
    · omega
  clear x0 x1
  refine (deadOf hOf exF _ _ W0 hs0 exF_ok).mono ?_
  rintro e W1 ⟨⟨v1, vs1, rfl, hv1, hc1⟩, hb1⟩
  rw [exF_dead] at hv1 hc1
  rw [exG_live] at hc1
  obtain ⟨A1, c1, rfl, _⟩ := hv1.form
  obtain ⟨B1, d1, rfl, _⟩ := hc1.form
  have HV1 := bk hv1; have HC1 := bk hc1; have HB1 := bk (below0 HB0.out hb1)
  clear hv1 hc1 hb1 hs0
  have hg1 : exG.blocks.length = 1 := rfl
  have hg2 : ([[false, false, true]] : Rows).length = 1 := rfl
  rw [hg1] at HV1 ⊢
  rw [hg2] at HC1 ⊢
  clear hg1 hg2
  go_wp2_with fail
  refine name_world_calls (fun W2 hW2 => ?_)
  have hz2 : W2.heap.size = W1.heap.size + 5 := by subst hW2; simp
  have HB12 : Bk (Below W1.heap.size W1 W2) := by subst hW2; exact bk (by repeat (first | exact Below.refl _ _ | exact alloc1 _ _ | refine Below.drew ?_ | refine Below.alloc ?_ (by simp; try omega) _ | refine Below.setCell ?_ (by simp; try omega) _))
  have HT2 : Bk (Bx W2 W1.heap.size #[.int .i64 3, .slice A1 1 c1] 24) := by subst hW2; exact bk (((((Bx.new _ _ _).alloc _).alloc _).alloc _).alloc _)
  have HT3 : Bk (Bx W2 (W1.heap.size + 1) #[.slice B1 1 d1] 33) := by subst hW2; exact bk ((((Bx.new' (by simp)).alloc _).alloc _).alloc _)
  have x0 : Bx W2 (W1.heap.size + 1 + 1) (List.flatten [Tac.cells ⟨1, 0, 0, 0, 0, 0, 0, 5⟩, Tac.cells ⟨9, 0, 0, 0, 0, 0, 0, 0⟩]).toArray 27 := by subst hW2; exact ((Bx.new' (by simp)).alloc _).alloc _
  have x1 : Bx W2 (W1.heap.size + 1 + 1 + 1) (List.flatten [[.slice (some ⟨W1.heap.size + 1 + 1, 0, none⟩) 2 2, .int .i64 3, .int .i64 0, .int .i64 0, .int .i64 0]]).toArray 54 := by subst hW2; exact (Bx.new' (by simp)).alloc _
  have HT4 : Bk (Bx W2 (W1.heap.size + 1 + 1 + 1 + 1) #[.int .i64 1, .slice (some ⟨W1.heap.size + 1 + 1 + 1, 0, none⟩) 1 1] 24) := by subst hW2; exact bk (Bx.new' (by simp))
  clear hW2
  have hs2 : Sl RBlk W2 (fun _ => True) exH.blocks (.slice (some ⟨W1.heap.size + 1 + 1 + 1, 0, none⟩) 1 1) := by
    refine Sl.of_flat RBlk (xs := exH.blocks) [[.slice (some ⟨W1.heap.size + 1 + 1, 0, none⟩) 2 2, .int .i64 3, .int .i64 0, .int .i64 0, .int .i64 0]] rfl (fun i h h' => ?_) x1 trivial 1 (by decide) (by decide)
    have : i = 0 := by simp at h'; exact h'
    subst this
    refine ⟨_, rfl, ?_⟩
    refine Sl.of_flat RTac (xs := [⟨1, 0, 0, 0, 0, 0, 0, 5⟩, ⟨9, 0, 0, 0, 0, 0, 0, 0⟩]) [Tac.cells ⟨1, 0, 0, 0, 0, 0, 0, 5⟩, Tac.cells ⟨9, 0, 0, 0, 0, 0, 0, 0⟩] rfl (fun i h h' => ?_) x0 trivial 2 (by decide) (by decide)
    simp at h
    rcases i with _ | _ | i
    · exact ⟨rfl, by show inU 5; unfold inU; decide⟩
    · exact ⟨rfl, by show inU 0; unfold inU; decide⟩
    · omega
  have HS2 := bk hs2
  clear x0 x1 hs2
  refine (deadOf hOf exH _ _ W2 HS2.out exH_ok).mono ?_
  rintro e W3 ⟨⟨v3, vs3, rfl, hv3, hc3⟩, hb3⟩
  rw [exH_dead] at hv3
  obtain ⟨A3, c3, rfl, _⟩ := hv3.form
  obtain ⟨B3, d3, rfl, _⟩ := hc3.form
  have hg1 : exH.blocks.length = 1 := rfl
  rw [hg1] at hv3 ⊢
  have HV3 := bk hv3
  have HB3 := bk hb3
  have hs23 := hb3.size
  clear hv3 hc3 hb3 hg1
  go_upto_region 5 with fail
  refine name_world (fun W4 hW4 => ?_)
  have hz4 : W4.heap.size = W3.heap.size + 2 := by subst hW4; simp
  have HB34 : Bk (Below W3.heap.size W3 W4) := by subst hW4; exact bk (by repeat (first | exact Below.refl _ _ | exact alloc1 _ _ | refine Below.drew ?_ | refine Below.alloc ?_ (by simp; try omega) _ | refine Below.setCell ?_ (by simp; try omega) _))
  have HT5 : Bk (Bx W4 W3.heap.size #[.int .i64 1, .slice A3 1 c3] 24) := by subst hW4; exact bk ((Bx.new _ _ _).alloc _)
  clear hW4
  have HB24 := bk (below0 HB3.out HB34.out)
  have HB14 := bk (below0 HB12.out HB24.out)
  have t2 := (HT2.out.below HB24.out)
  have t3 := (HT3.out.below HB24.out)
  have k20 : W4.cell? ⟨W1.heap.size, 0, none⟩ = some (.int .i64 3) := t2.cell 0
  have k21 : W4.cell? ⟨W1.heap.size, 1, none⟩ = some (.slice A1 1 c1) := t2.cell 1
  have k30 : W4.cell? ⟨W1.heap.size + 1, 0, none⟩ = some (.slice B1 1 d1) := t3.cell 0
  obtain ⟨g, o, Bi, mi, hA, _, _, hxi, _, q0, q1, q2, q3, q4⟩ := (HV1.out.below HB14.out).blk 0 (by decide)
  subst hA
  have hbl : exG.blocks[0].ins = [⟨9, 0, 2, 0, 0, 0, 0, 0⟩] := rfl
  simp only [hbl] at hxi q0
  have hl1 : ([⟨9, 0, 2, 0, 0, 0, 0, 0⟩] : List Tac).length = 1 := rfl
  rw [hl1] at hxi q0
  obtain ⟨gt, ot, hAt, _, _, hrow, _⟩ := hxi.tac 0 (by decide)
  subst hAt
  obtain ⟨r0, r1, r2, r3, r4, r5, r6, r7⟩ := hrow.tac
  simp only [List.getElem_cons_zero, Nat.zero_mul, Nat.add_zero] at r0 r1 r2 r3 r4 r5 r6 r7 q0
  have HT2b := bk t2
  clear t2 t3 hxi hrow q1 q2 q3 q4 hbl hl1
  go_wp2_with fail
  refine name_world_calls (fun W5 hW5 => ?_)
  have HB45 : Bk (Below W4.heap.size W4 W5) := by subst hW5; exact bk (by repeat (first | exact Below.refl _ _ | exact alloc1 _ _ | refine Below.drew ?_ | refine Below.alloc ?_ (by simp; try omega) _ | refine Below.setCell ?_ (by simp; try omega) _))
  have y0 : Bx W5 (W3.heap.size + 2) (List.map Value.bool [false, false, true]).toArray 4 := by subst hW5; exact (Bx.new' hz4.symm).alloc _
  have y1 : Bx W5 (W3.heap.size + 2 + 1) (List.flatten [[.slice (some ⟨W3.heap.size + 2, 0, none⟩) 3 3]]).toArray 57 := by subst hW5; exact Bx.new' (by simp [hz4])
  clear hW5
  have hrow : Sl (.slice RB) W5 (fun _ => True) [[false, false, true]] (.slice (some ⟨W3.heap.size + 2 + 1, 0, none⟩) 1 1) := by
    refine Sl.of_flat (.slice RB) (xs := [[false, false, true]]) [[.slice (some ⟨W3.heap.size + 2, 0, none⟩) 3 3]] rfl (fun i h h' => ?_) y1 trivial 1 (by decide) (by decide)
    have : i = 0 := by simp at h'; exact h'
    subst this
    exact ⟨_, rfl, Sl.of_bx (ok := fun _ => True) [false, false, true] 3 y0 rfl trivial (by decide) (by decide) rfl⟩
  have HROW := bk hrow
  clear y0 y1 hrow
  have HB15 := bk (below0 HB14.out HB45.out)
  have HB35 := bk (below0 HB34.out HB45.out)
  have HB25 := bk (below0 HB24.out HB45.out)
  refine (HROWS.out [[false, false, true]] [[false, false, true]] _ _ _ _ W5 (HC1.out.below HB15.out) HROW.out).mono ?_
  rintro e W6 ⟨rfl, hb6⟩
  rw [show rowsB [[false, false, true]] [[false, false, true]] = true from by decide]
  have t5 := (HT5.out.below HB45.out).below hb6
  have t4 := (HT4.out.below HB25.out).below hb6
  have k50 : W6.cell? ⟨W3.heap.size, 0, none⟩ = some (.int .i64 1) := t5.cell 0
  have k51 : W6.cell? ⟨W3.heap.size, 1, none⟩ = some (.slice A3 1 c3) := t5.cell 1
  have k40 : W6.cell? ⟨W1.heap.size + 1 + 1 + 1 + 1, 0, none⟩ = some (.int .i64 1) := t4.cell 0
  have k41 : W6.cell? ⟨W1.heap.size + 1 + 1 + 1 + 1, 1, none⟩ = some (.slice (some ⟨W1.heap.size + 1 + 1 + 1, 0, none⟩) 1 1) := t4.cell 1
  have HB36 := bk (below0 HB35.out hb6)
  have HB26 := bk (below0 HB25.out hb6)
  have HB16 := bk (below0 HB15.out hb6)
  clear hb6 t5 t4
  go_wp2_with fail
  refine (HSAME.out exH.blocks exH.blocks _ _ 1 1 _ _ W6 (HV3.out.below HB36.out) (HS2.out.below HB26.out)).mono ?_
  rintro e W7 ⟨rfl, hb7⟩
  rw [show decide ((⟨1, exH.blocks⟩ : Fn) = ⟨1, exH.blocks⟩) = true from by simp]
  have HB7 := bk (below0 (below0 HB1.out HB16.out) hb7)
  clear hb7
  go_wp2_with fail
  go_ret
  exact ⟨rfl, HB7.out⟩
end Go.Proofs.Ytiaojefhbhodiaa
