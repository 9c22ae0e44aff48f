/-
  Walks: the same block, the same function.
-/
import Derived.Test.YtiaojefhbhodiaaW2
import Derived.Test.YtiaojefhbhodiaaEqs
import Derived.StillTailTactics
set_option linter.unusedVariables false
namespace Go.Proofs.Ytiaojefhbhodiaa
open Go.RowKit

set_option maxHeartbeats 2000000 in
theorem sameBlock24 (xi yi : List Tac) (va vb : Value) (xf xv xt xe yf yv yt ye : Int) (ok ok' : Nat → Prop) (w : World) (ha : Sl RTac w ok xi va) (hb : Sl RTac w ok' yi vb) :
    Calls Try.prog 28 #[.agg #[va, .int .i64 xf, .int .i64 xv, .int .i64 xt, .int .i64 xe], .agg #[vb, .int .i64 yf, .int .i64 yv, .int .i64 yt, .int .i64 ye]] w
    fun e w' => e = .returned (.bool (decide ((⟨xi, xf, xv, xt, xe⟩ : Blk) = ⟨yi, yf, yv, yt, ye⟩))) ∧ Below w.heap.size w w' := by
  obtain ⟨A, ca, rfl, hca, hna⟩ := ha.form
  obtain ⟨B, cb, rfl, hcb, hnb⟩ := hb.form
  have HA := Lib.hid ha; clear ha
  have HB := Lib.hid hb; clear hb
  by_cases h : xf = yf ∧ xv = yv ∧ xt = yt ∧ xe = ye ∧ xi.length = yi.length
  · obtain ⟨rfl, rfl, rfl, rfl, hl⟩ := h
    have HL := Lib.hid hl
    have hl' : ((xi.length : Int) != yi.length) = false := by simp [hl]
    clear hl
    go_enter Try.func28, Try.ntmps28
    go_wp2
    refine name_world (fun W0 hW0 => ?_)
    obtain ⟨e1, e2⟩ := cells_eq hW0
    have hz : W0.heap.size = w.heap.size + 2 := by subst hW0; simp
    have B0 : Below w.heap.size w W0 := by subst hW0; exact (by repeat (first | exact Below.refl _ _ | exact alloc1 _ _ | refine Below.drew ?_ | refine Below.alloc ?_ (by simp; try omega) _ | refine Below.setCell ?_ (by simp; try omega) _))
    have HB0 := Lib.hid B0
    clear hW0 B0
    go_loopw [5] (fun i wr => ∃ k : Nat, k ≤ xi.length ∧ i = .int .i64 k ∧ Hid (∀ j, j < k → xi[j]? = yi[j]?) ∧ Below W0.heap.size W0 wr) (fun i _ => xi.length - (intOf i).toNat)
    case atStart => exact ⟨0, Nat.zero_le _, rfl, fun j hj => absurd hj (Nat.not_lt_zero _), Below.refl _ _⟩
    case round =>
      obtain ⟨k, hk, rfl, hall, hb⟩ := hrel
      obtain ⟨c1, c2⟩ := bcells hb
      have hB := Lib.hid hb; clear hb
      by_cases hlt : k < xi.length
      · have hltb : k < yi.length := by have := HL.out; omega
        obtain ⟨ga, oa, rfl, _, hga, hxr, _⟩ := ((HA.out.below HB0.out).below hB.out).tac k hlt
        obtain ⟨gb, ob, rfl, _, hgb, hyr, _⟩ := ((HB.out.below HB0.out).below hB.out).tac k hltb
        have E : Hid (xi[k] = yi[k] → ∀ j, j < k + 1 → xi[j]? = yi[j]?) := by
          intro hxy j hj
          by_cases e : j = k
          · subst e
            rw [List.getElem?_eq_getElem hlt, List.getElem?_eq_getElem hltb, hxy]
          · exact hall j (by omega)
        have E' : Hid (xi[k] ≠ yi[k] → xi ≠ yi) := by
          intro hxy e
          subst e
          exact hxy rfl
        obtain ⟨q1, q2, q3, q4, q5, q6, q7, q8⟩ := hxr.tac
        obtain ⟨r1, r2, r3, r4, r5, r6, r7, r8⟩ := hyr.tac
        clear hxr hyr
        generalize xi[k] = x at *
        generalize yi[k] = y at *
        have HE := Lib.hid E; clear E
        have HE' := Lib.hid E'; clear E'
        obtain ⟨p1, p2, p3, p4, p5, p6, p7, p8⟩ := x
        obtain ⟨s1, s2, s3, s4, s5, s6, s7, s8⟩ := y
        dsimp only at q1 q2 q3 q4 q5 q6 q7 q8 r1 r2 r3 r4 r5 r6 r7 r8
        have eqt := fun d w => eqTac d w p1 p2 p3 p4 p5 p6 p7 p8 s1 s2 s3 s4 s5 s6 s7 s8
        by_cases hxy : (⟨p1, p2, p3, p4, p5, p6, p7, p8⟩ : Tac) = ⟨s1, s2, s3, s4, s5, s6, s7, s8⟩
        · have hd : decide ((⟨p1, p2, p3, p4, p5, p6, p7, p8⟩ : Tac) = ⟨s1, s2, s3, s4, s5, s6, s7, s8⟩) = true := decide_eq_true hxy
          rw [hd] at eqt
          have HXY := Lib.hid hxy; clear hxy hd
          go_wp2
          go_quiet (fail)
          go_wp2
          go_roundw
          case rel => exact ⟨k + 1, by omega, by go_num, HE.out.out HXY.out, below_drewN hB.out _⟩
          case measure => simp [intOf]; omega
        · have hd : decide ((⟨p1, p2, p3, p4, p5, p6, p7, p8⟩ : Tac) = ⟨s1, s2, s3, s4, s5, s6, s7, s8⟩) = false := decide_eq_false hxy
          rw [hd] at eqt
          have HXY := Lib.hid hxy; clear hxy hd
          go_wp2
          go_quiet (fail)
          go_wp2
          go_ret
          refine ⟨ret_bool ?_, HB0.out.trans ((below_drewN hB.out _).mono (by simp [hz]))⟩
          symm
          simp only [decide_eq_false_iff_not]
          intro e
          injection e with e
          exact HE'.out.out HXY.out e
      · go_wp2
        go_ret
        refine ⟨ret_bool ?_, HB0.out.trans (hB.out.mono (by simp [hz]))⟩
        symm
        simp only [decide_eq_true_eq, Blk.mk.injEq, and_true]
        apply List.ext_getElem?
        intro i
        by_cases hi : i < k
        · exact hall i hi
        · rw [List.getElem?_eq_none (by omega), List.getElem?_eq_none (by have := HL.out; omega)]
  · have NE : decide ((⟨xi, xf, xv, xt, xe⟩ : Blk) = ⟨yi, yf, yv, yt, ye⟩) = false := by
      simp only [decide_eq_false_iff_not]
      intro e
      injection e with e1 e2 e3 e4 e5
      exact h ⟨e2, e3, e4, e5, by rw [e1]⟩
    have HN := Lib.hid NE; clear NE
    go_enter Try.func28, Try.ntmps28
    go_wp2
    all_goals first
      | (exfalso; apply h; refine ⟨?_, ?_, ?_, ?_, ?_⟩ <;> (simp_all <;> done) <;> done)
      | (go_ret; exact ⟨ret_bool HN.out.symm, (by repeat (first | exact Below.refl _ _ | exact alloc1 _ _ | refine Below.drew ?_ | refine Below.alloc ?_ (by simp; try omega) _ | refine Below.setCell ?_ (by simp; try omega) _))⟩)

theorem bcall {B : Nat} {a b c : World} (h : Below B a b) (k : Below b.heap.size b c) (hB : B ≤ b.heap.size) : Below B a c := h.trans (k.mono hB)
theorem below0 {a b c : World} (h : Below a.heap.size a b) (k : Below b.heap.size b c) : Below a.heap.size a c := h.trans (k.mono h.size)

/-- The contract at blocks that are told by their fields. -/
theorem sameBlock24' (r : Bool) (x y : Blk) (va vb : Value) (ok ok' : Nat → Prop) (w : World) (ha : Sl RTac w ok x.ins va) (hb : Sl RTac w ok' y.ins vb) (hr : decide (x = y) = r) :
    Calls Try.prog 28 #[.agg #[va, .int .i64 x.fin, .int .i64 x.v, .int .i64 x.to, .int .i64 x.els], .agg #[vb, .int .i64 y.fin, .int .i64 y.v, .int .i64 y.to, .int .i64 y.els]] w
    fun e w' => e = .returned (.bool r) ∧ Below w.heap.size w w' :=
  (sameBlock24 x.ins y.ins va vb x.fin x.v x.to x.els y.fin y.v y.to y.els ok ok' w ha hb).mono fun e w' h => by subst hr; exact h

set_option maxRecDepth 100000 in
set_option maxHeartbeats 2000000 in
theorem sameFunc24 (xi yi : List Blk) (va vb : Value) (xr yr : Int) (ok ok' : Nat → Prop) (w : World) (ha : Sl RBlk w ok xi va) (hb : Sl RBlk w ok' yi vb) :
    Calls Try.prog 14 #[.agg #[.int .i64 xr, va], .agg #[.int .i64 yr, vb]] w
    fun e w' => e = .returned (.bool (decide ((⟨xr, xi⟩ : Fn) = ⟨yr, yi⟩))) ∧ Below w.heap.size w w' := by
  obtain ⟨A, ca, rfl, hca, hna⟩ := ha.form
  obtain ⟨B, cb, rfl, hcb, hnb⟩ := hb.form
  have HA := Lib.hid ha; clear ha
  have HB := Lib.hid hb; clear hb
  by_cases h : xr = yr ∧ xi.length = yi.length
  · obtain ⟨rfl, hl⟩ := h
    have HL := Lib.hid hl
    have hl' : ((xi.length : Int) != yi.length) = false := by simp [hl]
    clear hl
    go_enter Try.func14, Try.ntmps14
    go_wp2
    refine name_world (fun W0 hW0 => ?_)
    obtain ⟨e1, e2⟩ := cells_eq hW0
    have hz : W0.heap.size = w.heap.size + 2 := by subst hW0; simp
    have B0 : Below w.heap.size w W0 := by subst hW0; exact (by repeat (first | exact Below.refl _ _ | exact alloc1 _ _ | refine Below.drew ?_ | refine Below.alloc ?_ (by simp; try omega) _ | refine Below.setCell ?_ (by simp; try omega) _))
    have HB0 := Lib.hid B0
    clear hW0 B0
    go_loopw [5] (fun i wr => ∃ k : Nat, k ≤ xi.length ∧ i = .int .i64 k ∧ Hid (∀ j, j < k → xi[j]? = yi[j]?) ∧ Below W0.heap.size W0 wr) (fun i _ => xi.length - (intOf i).toNat)
    case atStart => exact ⟨0, Nat.zero_le _, rfl, fun j hj => absurd hj (Nat.not_lt_zero _), Below.refl _ _⟩
    case round =>
      obtain ⟨k, hk, rfl, hall, hb⟩ := hrel
      obtain ⟨c1, c2⟩ := bcells hb
      have hB := Lib.hid hb; clear hb
      by_cases hlt : k < xi.length
      · have hltb : k < yi.length := by have := HL.out; omega
        obtain ⟨ga, oa, xA, xc, rfl, _, hga, hxs, hxn, q1, q2, q3, q4, q5⟩ := ((HA.out.below HB0.out).below hB.out).blk k hlt
        obtain ⟨gb, ob, yA, yc, rfl, _, hgb, hys, hyn, r1, r2, r3, r4, r5⟩ := ((HB.out.below HB0.out).below hB.out).blk k hltb
        have E : Hid (xi[k] = yi[k] → ∀ j, j < k + 1 → xi[j]? = yi[j]?) := by
          intro hxy j hj
          by_cases e : j = k
          · subst e
            rw [List.getElem?_eq_getElem hlt, List.getElem?_eq_getElem hltb, hxy]
          · exact hall j (by omega)
        have E' : Hid (xi[k] ≠ yi[k] → xi ≠ yi) := by
          intro hxy e
          subst e
          exact hxy rfl
        generalize xi[k] = x at *
        generalize yi[k] = y at *
        have HE := Lib.hid E; clear E
        have HE' := Lib.hid E'; clear E'
        have HX := Lib.hid hxs; clear hxs
        have HY := Lib.hid hys; clear hys
        rcases hr : decide (x = y) with _ | _
        all_goals
          have HR := Lib.hid hr; clear hr
          go_wp2_with fail
          go_still_tail 10, (by kernel_rfl)
          change wpList _ _ _ _ _ wr.drew
        · go_wp2_with (go_at_call 28; refine (sameBlock24' _ x y _ _ _ _ _ HX.out.drew HY.out.drew HR.out).mono ?_; rintro e w1 ⟨rfl, hb1⟩)
          go_ret
          refine ⟨ret_bool ?_, below0 HB0.out (below0 hB.out.drew hb1)⟩
          symm
          have hxy := HR.out
          simp only [decide_eq_false_iff_not] at hxy ⊢
          intro e
          injection e with e1 e2
          exact HE'.out.out hxy e2
        · go_wp2_with (go_at_call 28; refine (sameBlock24' _ x y _ _ _ _ _ HX.out.drew HY.out.drew HR.out).mono ?_; rintro e w1 ⟨rfl, hb1⟩)
          go_roundw
          case rel => exact ⟨k + 1, by omega, by go_num, HE.out.out (of_decide_eq_true HR.out), below0 hB.out.drew hb1⟩
          case measure => simp [intOf]; omega
      · go_wp2
        go_ret
        refine ⟨ret_bool ?_, below0 HB0.out hB.out⟩
        symm
        simp only [decide_eq_true_eq, Fn.mk.injEq, true_and]
        apply List.ext_getElem?
        intro i
        by_cases hi : i < k
        · exact hall i hi
        · rw [List.getElem?_eq_none (by omega), List.getElem?_eq_none (by have := HL.out; omega)]
  · have NE : decide ((⟨xr, xi⟩ : Fn) = ⟨yr, yi⟩) = false := by
      simp only [decide_eq_false_iff_not]
      intro e
      injection e with e1 e2
      exact h ⟨e1, by rw [e2]⟩
    have HN := Lib.hid NE; clear NE
    go_enter Try.func14, Try.ntmps14
    go_wp2
    all_goals first
      | (exfalso; apply h; refine ⟨?_, ?_⟩ <;> (simp_all <;> done) <;> done)
      | (go_ret; exact ⟨ret_bool HN.out.symm, (by repeat (first | exact Below.refl _ _ | exact alloc1 _ _ | refine Below.drew ?_ | refine Below.alloc ?_ (by simp; try omega) _ | refine Below.setCell ?_ (by simp; try omega) _))⟩)
end Go.Proofs.Ytiaojefhbhodiaa
