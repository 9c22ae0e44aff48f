/-
  Walks: may a function be, a program.
-/
import Derived.Test.YtiaojefhbhodiaaW4
set_option linter.unusedVariables false
namespace Go.Proofs.Ytiaojefhbhodiaa
open Go.RowKit

set_option maxRecDepth 100000 in
set_option maxHeartbeats 4000000 in
theorem fits24 (r : Bool) (t : Tac) (f regs words : Int) (w : World) (h0 : -1099511627776 ≤ words) (h1 : words ≤ 1099511627776) (hr : t.fits f regs words = r) :
    Calls Try.prog 39 #[.agg #[.int .i64 t.op, .int .i64 t.d, .int .i64 t.a, .int .i64 t.b, .int .i64 t.k, .int .i64 t.base, .int .i64 t.size, .int .u32 t.n], .int .i64 f, .int .i64 regs, .int .i64 words] w
    fun e w' => e = .returned (.bool r) ∧ Below w.heap.size w w' := by
  obtain ⟨op, d, a, b, k, base, size, n⟩ := t
  subst hr
  by_cases e : 1 ≤ op ∧ op ≤ 10
  · have : op = 1 ∨ op = 2 ∨ op = 3 ∨ op = 4 ∨ op = 5 ∨ op = 6 ∨ op = 7 ∨ op = 8 ∨ op = 9 ∨ op = 10 := by omega
    rcases this with rfl | rfl | rfl | rfl | rfl | rfl | rfl | rfl | rfl | rfl
    · exact fits24_1 d a b k base size n f regs words w h0 h1
    · exact fits24_2 d a b k base size n f regs words w h0 h1
    · exact fits24_3 d a b k base size n f regs words w h0 h1
    · exact fits24_4 d a b k base size n f regs words w h0 h1
    · exact fits24_5 d a b k base size n f regs words w h0 h1
    · exact fits24_6 d a b k base size n f regs words w h0 h1
    · exact fits24_7 d a b k base size n f regs words w h0 h1
    · exact fits24_8 d a b k base size n f regs words w h0 h1
    · exact fits24_9 d a b k base size n f regs words w h0 h1
    · exact fits24_10 d a b k base size n f regs words w h0 h1
  · have e' : Tac.fits ⟨op, d, a, b, k, base, size, n⟩ f regs words = false := by
      unfold Tac.fits
      dsimp only
      repeat rw [if_neg (by omega)]
    rw [e']
    clear e'
    by_cases e1 : op < 1
    · have d1 : decide (op < 1) = true := decide_eq_true e1
      clear e
      go_enter Try.func39, Try.ntmps39
      go_wp2
      go_ret
      exact ⟨rfl, (by repeat (first | exact Below.refl _ _ | exact alloc1 _ _ | refine Below.drew ?_ | refine Below.alloc ?_ (by simp; try omega) _ | refine Below.setCell ?_ (by simp; try omega) _))⟩
    · have d1 : decide (op < 1) = false := decide_eq_false e1
      have d2 : decide ((10 : Int) < op) = true := decide_eq_true (by omega)
      clear e
      go_enter Try.func39, Try.ntmps39
      go_wp2
      go_ret
      exact ⟨rfl, (by repeat (first | exact Below.refl _ _ | exact alloc1 _ _ | refine Below.drew ?_ | refine Below.alloc ?_ (by simp; try omega) _ | refine Below.setCell ?_ (by simp; try omega) _))⟩

theorem undrew {w w' : World} (h : Below w.drew.heap.size w.drew w') : Below w.heap.size w w' := ⟨h.os, h.tape, h.output, h.size, h.block⟩

theorem ends24' (r : Bool) (x : Blk) (v : Value) (blocks regs : Int) (w : World) (hr : x.ends blocks regs = r) :
    Calls Try.prog 38 #[.agg #[v, .int .i64 x.fin, .int .i64 x.v, .int .i64 x.to, .int .i64 x.els], .int .i64 blocks, .int .i64 regs] w
    fun e w' => e = .returned (.bool r) ∧ Below w.heap.size w w' :=
  (ends24 v x.fin x.v x.to x.els blocks regs w).mono fun e w' h => by subst hr; exact h

def Blk.good (x : Blk) (blocks regs number words : Int) : Bool := x.ends blocks regs && x.ins.all fun t => t.fits number regs words

set_option maxRecDepth 100000 in
set_option maxHeartbeats 4000000 in
theorem one24 (xi : List Blk) (va : Value) (xr number words : Int) (ok : Nat → Prop) (w : World) (ha : Sl RBlk w ok xi va) (h0 : -1099511627776 ≤ words) (h1 : words ≤ 1099511627776) :
    Calls Try.prog 25 #[.agg #[.int .i64 xr, va], .int .i64 number, .int .i64 words] w
    fun e w' => e = .returned (.bool (Fn.one ⟨xr, xi⟩ number words)) ∧ Below w.heap.size w w' := by
  obtain ⟨A, ca, rfl, hca, hna⟩ := ha.form
  have HA := Lib.hid ha; clear ha
  by_cases h : 0 ≤ xr ∧ xr ≤ 4000 ∧ xi ≠ []
  · obtain ⟨ha, hb, hc⟩ := h
    have hlen : 0 < xi.length := List.length_pos_iff.2 hc
    have d1 : ((xi.length : Int) == 0) = false := by simp; exact hc
    clear hc
    go_enter Try.func25, Try.ntmps25
    go_wp2
    refine name_world (fun W0 hW0 => ?_)
    obtain ⟨e1, e2⟩ := cells_eq hW0
    have hz : W0.heap.size = w.heap.size + 1 := by subst hW0; simp
    have B0 : Below w.heap.size w W0 := by subst hW0; exact (by repeat (first | exact Below.refl _ _ | exact alloc1 _ _ | refine Below.drew ?_ | refine Below.alloc ?_ (by simp; try omega) _ | refine Below.setCell ?_ (by simp; try omega) _))
    have HB0 := Lib.hid B0
    clear hW0 B0
    go_loopw [7] (fun i wr => ∃ k : Nat, k ≤ xi.length ∧ i = .int .i64 k ∧ Hid (∀ j (hj : j < xi.length), j < k → xi[j].good xi.length xr number words = true) ∧ Below W0.heap.size W0 wr) (fun i _ => xi.length - (intOf i).toNat)
    case atStart => exact ⟨0, Nat.zero_le _, rfl, fun j hj hj' => absurd hj' (Nat.not_lt_zero _), Below.refl _ _⟩
    case round =>
      obtain ⟨wo, rfl⟩ : ∃ wo : World, wo = wr := ⟨_, rfl⟩
      obtain ⟨k, hk, rfl, hall, hb⟩ := hrel
      obtain ⟨c1, c2⟩ := bcells hb
      have hs1 : w.heap.size < wo.heap.size := by have := hb.size; omega
      have hB := Lib.hid hb; clear hb
      by_cases hlt : k < xi.length
      · obtain ⟨ga, oa, xA, xc, rfl, _, hga, hxs, hxn, q1, q2, q3, q4, q5⟩ := ((HA.out.below HB0.out).below hB.out).blk k hlt
        have E : Hid (xi[k].good xi.length xr number words = true → ∀ j (hj : j < xi.length), j < k + 1 → xi[j].good xi.length xr number words = true) := by
          intro hg j hj hjk
          by_cases e : j = k
          · subst e; exact hg
          · exact hall j hj (by omega)
        have E' : Hid (xi[k].good xi.length xr number words = false → Fn.one ⟨xr, xi⟩ number words = false) := by
          intro hg
          unfold Fn.one
          rw [Bool.and_eq_false_iff]
          right
          rw [List.all_eq_false]
          exact ⟨xi[k], List.getElem_mem hlt, by unfold Blk.good at hg; rw [hg]; simp⟩
        generalize xi[k] = x at *
        have HE := Lib.hid E; clear E
        have HE' := Lib.hid E'; clear E'
        have HX := Lib.hid hxs; clear hxs
        rcases hr : x.ends xi.length xr with _ | _
        · have HR := Lib.hid hr; clear hr
          go_wp2_with fail
          go_still_tail 10, (by kernel_rfl)
          change wpList _ _ _ _ _ wo.drew
          go_wp2_with (go_at_call 38; refine (ends24' _ x _ _ _ _ HR.out).mono ?_; rintro e w1 ⟨rfl, hb1⟩)
          go_ret
          exact ⟨ret_bool (HE'.out.out (by unfold Blk.good; rw [HR.out]; rfl)).symm, below0 HB0.out (below0 hB.out.drew hb1)⟩
        · have HR := Lib.hid hr; clear hr
          go_wp2_with fail
          go_still_tail 10, (by kernel_rfl)
          change wpList _ _ _ _ _ wo.drew
          go_wp2_with fail
          refine (ends24' _ x _ _ _ _ HR.out).mono ?_
          rintro e w1 ⟨rfl, hb1⟩
          replace hb1 := undrew hb1
          obtain ⟨c3, c4⟩ := bcells hb1
          have hs2 : wo.heap.size ≤ w1.heap.size := hb1.size
          have hs4 : w.heap.size < w1.heap.size := by omega
          have hs5 : ga < w1.heap.size := by omega
          have hB1 := Lib.hid hb1
          clear hb1
          go_wp2_with fail
          go_loopw [8] (fun i wr => ∃ m : Nat, m ≤ x.ins.length ∧ i = .int .i64 m ∧ Hid (∀ j (hj : j < x.ins.length), j < m → x.ins[j].fits number xr words = true) ∧ Below w1.heap.size w1 wr) (fun i _ => x.ins.length - (intOf i).toNat)
          case atStart => exact ⟨0, Nat.zero_le _, rfl, fun j hj hj' => absurd hj' (Nat.not_lt_zero _), Below.refl _ _⟩
          case round =>
            obtain ⟨m, hm, rfl, hin, hb⟩ := hrel
            obtain ⟨c5, c6⟩ := bcells hb
            have hs3 : w1.heap.size ≤ wr.heap.size := hb.size
            have hB2 := Lib.hid hb; clear hb
            by_cases hlt2 : m < x.ins.length
            · obtain ⟨gb, ob, rfl, _, hgb, hyr, _⟩ := ((HX.out.below hB1.out).below hB2.out).tac m hlt2
              obtain ⟨s1, s2, s3, s4, s5, s6, s7, s8⟩ := hyr.tac
              clear hyr
              have F : Hid (x.ins[m].fits number xr words = true → ∀ j (hj : j < x.ins.length), j < m + 1 → x.ins[j].fits number xr words = true) := by
                intro hg j hj hjk
                by_cases e : j = m
                · subst e; exact hg
                · exact hin j hj (by omega)
              have F' : Hid (x.ins[m].fits number xr words = false → Fn.one ⟨xr, xi⟩ number words = false) := by
                intro hg
                apply HE'.out.out
                unfold Blk.good
                rw [Bool.and_eq_false_iff]
                right
                rw [List.all_eq_false]
                exact ⟨x.ins[m], List.getElem_mem hlt2, by rw [hg]; simp⟩
              generalize x.ins[m] = y at *
              have HF := Lib.hid F; clear F
              have HF' := Lib.hid F'; clear F'
              rcases hr : y.fits number xr words with _ | _
              · have HR2 := Lib.hid hr; clear hr
                go_wp2_with fail
                go_still_tail 13, (by kernel_rfl)
                change wpList _ _ _ _ _ wr.drew
                go_wp2_with fail
                refine (fits24 _ y _ _ _ _ h0 h1 HR2.out).mono ?_
                rintro e w2 ⟨rfl, hb2⟩
                go_wp2_with fail
                go_ret
                exact ⟨ret_bool (HF'.out.out HR2.out).symm, below0 HB0.out (below0 hB.out (below0 hB1.out (below0 hB2.out.drew hb2)))⟩
              · have HR2 := Lib.hid hr; clear hr
                go_wp2_with fail
                go_still_tail 13, (by kernel_rfl)
                change wpList _ _ _ _ _ wr.drew
                go_wp2_with fail
                refine (fits24 _ y _ _ _ _ h0 h1 HR2.out).mono ?_
                rintro e w2 ⟨rfl, hb2⟩
                go_wp2_with fail
                go_roundw
                case rel => exact ⟨m + 1, by omega, by go_num, HF.out.out HR2.out, below0 hB2.out.drew hb2⟩
                case measure => simp [intOf]; omega
            · go_wp2_with fail
              go_roundw
              case rel =>
                refine ⟨k + 1, by omega, by go_num, HE.out.out ?_, below0 hB.out (below0 hB1.out hB2.out)⟩
                unfold Blk.good
                rw [HR.out, Bool.true_and, List.all_eq_true]
                intro t ht
                obtain ⟨j, hj, rfl⟩ := List.getElem_of_mem ht
                exact hin j hj (by omega)
              case measure => simp [intOf]; omega
      · go_wp2_with fail
        go_ret
        refine ⟨ret_bool ?_, below0 HB0.out hB.out⟩
        symm
        unfold Fn.one
        rw [Bool.and_eq_true]
        refine ⟨decide_eq_true ⟨ha, hb, List.length_pos_iff.1 hlen⟩, ?_⟩
        rw [List.all_eq_true]
        intro t ht
        obtain ⟨j, hj, rfl⟩ := List.getElem_of_mem ht
        have hj' : j < xi.length := hj
        exact hall j hj (by omega)
  · have NE : Fn.one ⟨xr, xi⟩ number words = false := by
      unfold Fn.one
      rw [decide_eq_false h]
      rfl
    have HN := Lib.hid NE; clear NE
    have H := Lib.hid h; clear h
    go_enter Try.func25, Try.ntmps25
    go_wp2
    all_goals first
      | (go_ret; exact ⟨ret_bool HN.out.symm, (by repeat (first | exact Below.refl _ _ | exact alloc1 _ _ | refine Below.drew ?_ | refine Below.alloc ?_ (by simp; try omega) _ | refine Below.setCell ?_ (by simp; try omega) _))⟩)
      | (exfalso; apply H.out; simp_all; done)
end Go.Proofs.Ytiaojefhbhodiaa
