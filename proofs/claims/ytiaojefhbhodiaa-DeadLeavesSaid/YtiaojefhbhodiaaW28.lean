/-
  Walk: seedcornref27.Behind: what matters behind each instruction of a block: the reference.
-/
import Derived.Test.YtiaojefhbhodiaaW17
import Derived.Test.YtiaojefhbhodiaaW10b
set_option linter.unusedVariables false
namespace Go.Proofs.Ytiaojefhbhodiaa
open Go.RowKit

theorem behindB_get (l : List Tac) (s : List Bool) : ∀ (i : Nat) (h : i < (behindB l s).length), (behindB l s)[i] = (l.drop (i + 1)).foldr backB s := by
  induction l with
  | nil => intro i h; simp [behindB] at h
  | cons t l ih =>
    intro i h
    cases i with
    | zero => simp [behindB]
    | succ i => simpa [behindB] using ih i (by simpa [behindB] using h)
theorem behindB_len (l : List Tac) (s : List Bool) : (behindB l s).length = l.length := by
  induction l with
  | nil => rfl
  | cons t l ih => simp [behindB, ih]

set_option maxRecDepth 100000 in
set_option maxHeartbeats 8000000 in
theorem behind27 (f : Fn) (l : Lv) (b : Nat) (va vi vo : Value) (okf oko : Nat → Prop) (w : World) (ha : Sl RBlk w okf f.blocks va) (ho : Sl (.slice RB) w oko l.Out vo) (hb : b < f.blocks.length) (hbo : b < l.Out.length)
    (hx : f.blocks[b].idx l.Out[b].length) (hlen : l.Out[b].length ≤ 1000000) (hins : f.blocks[b].ins.length ≤ 1000000) :
    Calls Try.prog 49 #[.agg #[.int .i64 f.regs, va], .agg #[vi, vo], .int .i64 b] w
    fun e w' => (∃ v, e = .returned v ∧ Sl (.slice RB) w' (fun c => w.heap.size ≤ c) (l.behind f.blocks[b] b) v) ∧ Below w.heap.size w w' := by
  obtain ⟨A, c, rfl, hc, hn⟩ := ha.form
  obtain ⟨Ao, co, rfl, hco, hno⟩ := ho.form
  obtain ⟨g, o, B, m, hA, hokg, hg, hxi, hxn, q0, q1, q2, q3, q4⟩ := ha.blk b hb
  obtain ⟨go, oo, Bo, mo, hAo, hoko, hgo, hrow, hrn, r0⟩ := ho.row b hbo
  subst hA hAo
  have HA := bk (hxi.mono (ok' := fun b => b < w.heap.size) (fun b _ h => h)); have HS := bk hrow; have HX := bk hx
  have hbe : l.behind f.blocks[b] b = behindB f.blocks[b].ins (lastB f.blocks[b] l.Out[b]) := by
    unfold Lv.behind
    rw [List.getD_eq_getElem?_getD, List.getElem?_eq_getElem hbo]
    rfl
  rw [hbe]
  generalize f.blocks[b] = x at *
  generalize l.Out[b] = s at *
  clear ha ho hxi hrow hx hbe
  have hmk := run_mk (P := Try.prog) 31 57 (.slice none 0 0) 24 Try.underlying31 infoR rfl (by omega) x.ins.length (by omega)
  go_enter Try.func49, Try.ntmps49
  go_upto_region 3 with fail
  refine name_world (fun W0 hW0 => ?_)
  have hz : W0.heap.size = w.heap.size + 4 := by subst hW0; simp
  have x1 : Bx W0 (w.heap.size + 1) #[vi, .slice (some ⟨go, oo, none⟩) l.Out.length co] 41 := by subst hW0; exact ((Bx.new' (by simp)).alloc _).alloc _
  have x2 : Bx W0 (w.heap.size + 1 + 1) #[.slice B x.ins.length m, .int .i64 x.fin, .int .i64 x.v, .int .i64 x.to, .int .i64 x.els] 54 := by subst hW0; exact (Bx.new' (by simp)).alloc _
  have x3 : Bk (Bx W0 (w.heap.size + 1 + 1 + 1) (Array.replicate x.ins.length (.slice none 0 0)) 57) := by subst hW0; exact bk (Bx.new' (by simp))
  have HB0 : Bk (Below w.heap.size w W0) := by subst hW0; exact bk (by repeat (first | exact Below.refl _ _ | exact alloc1 _ _ | refine Below.drew ?_ | refine Below.alloc ?_ (by simp; try omega) _ | refine Below.setCell ?_ (by simp; try omega) _))
  have k1 : W0.cell? ⟨w.heap.size + 1, 1, none⟩ = some (.slice (some ⟨go, oo, none⟩) l.Out.length co) := x1.cell 1
  have k2 : W0.cell? ⟨go, oo + b, none⟩ = some (.slice Bo s.length mo) := (HB0.out.cell (p := ⟨go, oo + b, none⟩) hgo).trans r0
  have k3 : W0.cell? ⟨w.heap.size + 1 + 1, 0, none⟩ = some (.slice B x.ins.length m) := x2.cell 0
  have k4 : W0.cell? ⟨w.heap.size + 1 + 1, 1, none⟩ = some (.int .i64 x.fin) := x2.cell 1
  have k5 : W0.cell? ⟨w.heap.size + 1 + 1, 2, none⟩ = some (.int .i64 x.v) := x2.cell 2
  have k6 : W0.cell? ⟨w.heap.size + 1 + 1, 3, none⟩ = some (.int .i64 x.to) := x2.cell 3
  have k7 : W0.cell? ⟨w.heap.size + 1 + 1, 4, none⟩ = some (.int .i64 x.els) := x2.cell 4
  have X2 := bk x2
  have hgW : go < W0.heap.size := by omega
  clear hW0 x1 x2 hmk
  refine wp_region_noPanic ?_
  refine wp_region_mix [true, true, true, true, true, true, false, false] (fun w' => w'.cell? ⟨w.heap.size + 1, 1, none⟩ = some (.slice (some ⟨go, oo, none⟩) l.Out.length co) ∧ w'.cell? ⟨go, oo + b, none⟩ = some (.slice Bo s.length mo) ∧
        w'.cell? ⟨w.heap.size + 1 + 1, 0, none⟩ = some (.slice B x.ins.length m) ∧ w'.cell? ⟨w.heap.size + 1 + 1, 1, none⟩ = some (.int .i64 x.fin) ∧ w'.cell? ⟨w.heap.size + 1 + 1, 2, none⟩ = some (.int .i64 x.v) ∧ w'.cell? ⟨w.heap.size + 1 + 1, 3, none⟩ = some (.int .i64 x.to) ∧ w'.cell? ⟨w.heap.size + 1 + 1, 4, none⟩ = some (.int .i64 x.els)) (by kernel_rfl) (by kernel_rfl) (by kernel_rfl) (fun c a w h => h) ⟨k1, k2, k3, k4, k5, k6, k7⟩ ?_
  iterate 6
    refine wpMix_held ?_ (by rfl) ?_ ?_
    rotate_left 1
    · intro w hSw
      obtain ⟨s1, s2, s3, s4, s5, s6, s7⟩ := hSw
      go_simp
      with_reducible rfl
    simp only [Act.put, List.setIfInBounds_toArray, List.set_cons_zero, List.set_cons_succ]
  refine wpMix_step (fun K hK => ?_)
  go_simp
  refine (last27 x _ _ s oko _ ((HS.out.below HB0.out).drew) HX.out.2 hlen).mono ?_
  rintro e w1 ⟨⟨v1, rfl, ho1⟩, hb1⟩
  have hb1' := undrew hb1
  have j1 := cell_below hb1' k1
  have j2 := cell_below hb1' k2
  have j3 := cell_below hb1' k3
  have j4 := cell_below hb1' k4
  have j5 := cell_below hb1' k5
  have j6 := cell_below hb1' k6
  have j7 := cell_below hb1' k7
  have HO1 : Bk (OwS Value.bool 4 w1 W0.heap.size (lastB x s) v1) := bk ho1
  have HB1 := bk hb1'
  have X21 := bk (X2.out.below hb1')
  have X31 := bk (x3.out.below hb1')
  have hs1 := hb1'.size
  clear ho1 hb1 hb1'
  refine hK _ _ ⟨j1, j2, j3, j4, j5, j6, j7⟩ ?_
  clear hK K
  try simp only [Act.put, List.setIfInBounds_toArray, List.set_cons_zero, List.set_cons_succ]
  refine wpMix_step (fun K hK => ?_)
  go_simp
  refine hK _ _ ⟨j1, j2, j3, j4, j5, j6, j7⟩ ?_
  clear hK K k1 k2 k3 k4 k5 k6 k7 j1 j2 j4 j5 j6 j7
  try simp only [Act.put, List.setIfInBounds_toArray, List.set_cons_zero, List.set_cons_succ]
  refine wpMix_nil ?_
  refine NoPanic.normal ?_
  have l2 : w.heap.size + 1 + 1 < w1.heap.size := by omega
  go_wp2_with fail
  have hlast := lastB_length x s
  have HLA := bk hlast
  clear hlast
  generalize hsl : lastB x s = sl at *
  have HSL := bk hsl
  clear hsl
  go_loopw [9, 10] (fun v i wr => ∃ (z : Int) (vals : List Value), i = .int .i64 z ∧ -1 ≤ z ∧ z < x.ins.length ∧ vals.length = x.ins.length ∧ Bx wr (w.heap.size + 1 + 1 + 1) vals.toArray 57 ∧
    (∀ (j : Nat) (h : j < vals.length), z < j → OwS Value.bool 4 wr W0.heap.size ((x.ins.drop (j + 1)).foldr backB sl) vals[j]) ∧ OwS Value.bool 4 wr W0.heap.size ((x.ins.drop (z + 1).toNat).foldr backB sl) v ∧ Fr (fun b => b = w.heap.size + 1 + 1 + 1) w1 wr) (fun _ i _ => (intOf i + 1).toNat)
  case atStart =>
    refine ⟨_, List.replicate x.ins.length (.slice none 0 0), rfl, by omega, by omega, by simp, by simpa using X31.out, fun j h hj => ?_, ?_, Fr.refl _ _⟩
    · simp at h; omega
    · rw [show ((x.ins.length : Int) - 1 + 1).toNat = x.ins.length by omega, List.drop_length]
      exact HO1.out
  case round =>
    obtain ⟨z, vals, rfl, hz1, hz2, hvl, xo, hrows, hown, hfr⟩ := hrel
    have HOW := bk hown; have XO := bk xo; have HRW := bk hrows; have HFR := bk hfr; have HVL := bk hvl
    have cx := (X21.out.fr hfr (by omega)).cell
    have hs3 := hfr.size
    have fo := xo.frozen
    have co' := xo.cell
    have lo := xo.lt
    clear hown xo hrows hfr j3 hvl
    by_cases h0 : 0 ≤ z
    · obtain ⟨j, rfl⟩ := Int.eq_ofNat_of_zero_le h0
      have hj : j < x.ins.length := by omega
      obtain ⟨gt, ot, hAt, _, hgt, hrow, _⟩ := (((HA.out.below HB0.out).below HB1.out).fr HFR.out (fun b hb _ => by show ¬ b = _; omega)).tac j hj
      subst hAt
      obtain ⟨p0, p1, p2, p3, p4, p5, p6, p7⟩ := hrow.tac
      clear hrow
      have hjl : j < vals.length := by have := HVL.out; omega
      obtain ⟨vj, hjv⟩ : ∃ vj, vals.toArray[j]? = some vj := ⟨vals[j], by simp [hjl]⟩
      have hix := HX.out.1 _ (List.getElem_mem hj)
      have hd := foldr_drop x.ins sl j hj
      have e1 : ((j : Int) + 1).toNat = j + 1 := by omega
      have hown2 := HOW.out
      rw [e1] at hown2
      have hl2 : ((x.ins.drop (j + 1)).foldr backB sl).length = s.length := by rw [foldr_backB_length, HLA.out]
      generalize hs2 : (x.ins.drop (j + 1)).foldr backB sl = s2 at *
      generalize x.ins[j] = t at *
      obtain ⟨Av, cv, rfl, _⟩ := hown2.any
      have HIX := bk hix; have HD := bk hd; have HO2 := bk hown2; have HL2 := bk hl2; have HE2 := bk hs2
      have FS : Fr (fun b => b = w.heap.size + 1 + 1 + 1) wr (wr.setCell ⟨w.heap.size + 1 + 1 + 1, j, none⟩ (.slice Av s2.length cv)) := (Fr.refl (fun b => b = w.heap.size + 1 + 1 + 1) wr).setCell (p := ⟨w.heap.size + 1 + 1 + 1, j, none⟩) (fun _ => rfl) _
      have HFS := bk FS
      have HNB : Bk (∀ (r : List Bool) (u : Value), OwS Value.bool 4 wr W0.heap.size r u → ∀ k, u.ownBlock = some k → ¬ k = w.heap.size + 1 + 1 + 1) := bk (fun r u h k hk => by have := (h.lt k hk).1; omega)
      have ne2 : w.heap.size + 1 + 1 ≠ w.heap.size + 1 + 1 + 1 := by omega
      have ne3 : w.heap.size + 1 + 1 + 1 ≠ w.heap.size + 1 + 1 := by omega
      have net : gt ≠ w.heap.size + 1 + 1 + 1 := by omega
      have net' : w.heap.size + 1 + 1 + 1 ≠ gt := by omega
      clear hix hd hown2 hl2 e1 HOW FS hs2
      go_wp2_with fail
      refine (back27 t _ s2 (fun _ => True) _ ((HO2.out.fr HFS.out (HNB.out _ _ HO2.out)).sl (fun _ _ => trivial) (by have := HL2.out; omega)) (by rw [HL2.out]; exact HIX.out) (by have := HL2.out; omega)).mono ?_
      rintro e w4 ⟨⟨v4, rfl, ho4⟩, hb4⟩
      have HO4 := bk ho4
      have HB4 := bk hb4
      have hs4 := hb4.size
      simp only [World.size_setCell] at hs4
      clear ho4 hb4
      go_wp2_with fail
      go_roundw
      case measure => simp [intOf]
      case rel =>
        have hbw : ∀ (r : List Bool) (u : Value), OwS Value.bool 4 wr W0.heap.size r u → OwS Value.bool 4 w4 W0.heap.size r u := fun r u h => (h.fr HFS.out (HNB.out _ _ h)).below HB4.out
        refine ⟨(j : Int) - 1, vals.set j (.slice Av s2.length cv), by go_num, by omega, by omega, by rw [List.length_set]; exact HVL.out, ?_, ?_, ?_, HFR.out.trans (HFS.out.trans (Fr.of_below HB4.out _))⟩
        · have h := (XO.out.set j (.slice Av s2.length cv)).below HB4.out
          simpa using h
        · intro k hk hjk
          by_cases e : k = j
          · subst e
            rw [List.getElem_set_self, HE2.out]
            exact hbw _ _ HO2.out
          · rw [List.getElem_set_ne (fun h => e h.symm)]
            exact hbw _ _ (HRW.out k (by simpa using hk) (by omega))
        · rw [show ((j : Int) - 1 + 1).toNat = j by omega, HD.out]
          exact HO4.out.rebase fun b hb => by have := (HO4.out.lt b hb).1; simp only [World.size_setCell] at this; omega
    · have e : z = -1 := by omega
      subst e
      go_wp2_with fail
      go_ret
      refine ⟨⟨_, rfl, ?_⟩, ?_⟩
      · have h := rows_sl (W := wr) (g := w.heap.size + 1 + 1 + 1) (base := W0.heap.size) (b0 := w.heap.size) (vals := vals) (rows := behindB x.ins sl) XO.out (by rw [behindB_len]; exact HVL.out) (by rw [behindB_len]; omega) (by omega) (by omega) (fun i h1 h2 => by
          rw [behindB_get]
          exact ⟨HRW.out i h1 (by omega), by rw [foldr_backB_length, HLA.out]; exact hlen⟩)
        rw [behindB_len, ← HSL.out] at h
        exact h
      · have hbw := below0 HB0.out HB1.out
        exact hbw.trans (HFR.out.to_below (fun b hb => by omega) hbw.size)
end Go.Proofs.Ytiaojefhbhodiaa
