/-
  Walks: is a function small, is a program right.
-/
import Derived.Test.YtiaojefhbhodiaaW5
set_option linter.unusedVariables false
namespace Go.Proofs.Ytiaojefhbhodiaa
open Go.RowKit

def countI (l : List Blk) : Nat := (l.map fun x => x.ins.length).sum
def Fn.few (f : Fn) : Bool := decide (f.blocks.length ≤ 30 ∧ f.regs ≤ 20) && decide (countI f.blocks ≤ 150) && f.one 1073741824 32768

theorem countI_take (l : List Blk) (k : Nat) (h : k < l.length) : countI (l.take (k + 1)) = countI (l.take k) + l[k].ins.length := by
  unfold countI
  rw [List.take_succ_eq_append_getElem h, List.map_append, List.sum_append]
  simp
theorem countI_le (l : List Blk) (k : Nat) : countI (l.take k) ≤ countI l := by
  unfold countI
  rw [← List.take_append_drop k l, List.map_append, List.sum_append]
  simp

theorem one24' (r : Bool) (f : Fn) (va : Value) (number words : Int) (ok : Nat → Prop) (w : World) (ha : Sl RBlk w ok f.blocks va) (h0 : -1099511627776 ≤ words) (h1 : words ≤ 1099511627776) (hr : f.one number words = r) :
    Calls Try.prog 25 #[.agg #[.int .i64 f.regs, va], .int .i64 number, .int .i64 words] w
    fun e w' => e = .returned (.bool r) ∧ Below w.heap.size w w' :=
  (one24 f.blocks va f.regs number words ok w ha h0 h1).mono fun e w' h => by subst hr; exact h

set_option maxRecDepth 100000 in
set_option maxHeartbeats 4000000 in
theorem few32 (r : Bool) (f : Fn) (va : Value) (ok : Nat → Prop) (w : World) (ha : Sl RBlk w ok f.blocks va) (hr : f.few = r) :
    Calls Try.prog 12 #[.agg #[.int .i64 f.regs, va]] w
    fun e w' => e = .returned (.bool r) ∧ Below w.heap.size w w' := by
  obtain ⟨xr, xi⟩ := f
  dsimp only at ha ⊢
  obtain ⟨A, ca, rfl, hca, hna⟩ := ha.form
  have HA := Lib.hid ha; clear ha
  by_cases h : xi.length ≤ 30 ∧ xr ≤ 20
  · obtain ⟨h30, h20⟩ := h
    have HR : Hid (r = (decide (countI xi ≤ 150) && Fn.one ⟨xr, xi⟩ 1073741824 32768)) := by
      rw [← hr]; show _ = _; unfold Fn.few; rw [decide_eq_true (show _ ∧ _ from ⟨h30, h20⟩), Bool.true_and]
    clear hr
    go_enter Try.func12, Try.ntmps12
    go_wp2_with fail
    refine name_world (fun W0 hW0 => ?_)
    obtain ⟨e1, e2⟩ := cells_eq hW0
    have hz : W0.heap.size = w.heap.size + 1 := by subst hW0; simp
    have B0 : Below w.heap.size w W0 := by subst hW0; exact (by repeat (first | exact Below.refl _ _ | exact alloc1 _ _ | refine Below.drew ?_ | refine Below.alloc ?_ (by simp; try omega) _ | refine Below.setCell ?_ (by simp; try omega) _))
    have HB0 := Lib.hid B0
    clear hW0 B0
    go_loop [3, 4] (fun n i => ∃ k : Nat, k ≤ xi.length ∧ i = .int .i64 k ∧ n = .int .i64 (countI (xi.take k)) ∧ countI (xi.take k) ≤ 150) (fun _ i => xi.length - (intOf i).toNat)
    case atStart => exact ⟨0, Nat.zero_le _, rfl, rfl, by simp [countI]⟩
    case round =>
      obtain ⟨k, hk, rfl, rfl, hc⟩ := hrel
      by_cases hlt : k < xi.length
      · obtain ⟨ga, oa, xA, xc, rfl, _, hga, hxs, hxn, q1, q2, q3, q4, q5⟩ := HA.out.blk k hlt
        have hs := countI_take xi k hlt
        have hs2 := countI_le xi (k + 1)
        generalize xi[k] = x at *
        generalize hcc : countI (xi.take k) = c at *
        have HS := Lib.hid hs; clear hs
        have HC := Lib.hid hcc; clear hcc
        by_cases hgt : c + x.ins.length ≤ 150
        · go_wp2_with fail
          go_round
          case rel => exact ⟨k + 1, by omega, by go_num, by rw [HS.out]; go_num, by have := HS.out; omega⟩
          case measure => simp [intOf]; omega
        · go_wp2_with fail
          go_ret
          refine ⟨ret_bool ?_, HB0.out⟩
          rw [HR.out, decide_eq_false (by have := HS.out; omega)]
          rfl
      · have : k = xi.length := by omega
        subst this
        rw [List.take_length] at hc
        have HC := Lib.hid hc; clear hc
        go_wp2_with fail
        refine (one24' r ⟨xr, xi⟩ _ _ _ _ _ (HA.out.below HB0.out) (by omega) (by omega) (by rw [HR.out, decide_eq_true HC.out, Bool.true_and])).mono ?_
        rintro e w1 ⟨rfl, hb1⟩
        go_wp2_with fail
        go_ret
        exact ⟨rfl, below0 HB0.out hb1⟩
  · have HR : Hid (r = false) := by
      rw [← hr]; show _ = _; unfold Fn.few; rw [decide_eq_false h]; rfl
    have H := Lib.hid h; clear h hr
    go_enter Try.func12, Try.ntmps12
    go_wp2_with fail
    all_goals first
      | (go_ret; exact ⟨ret_bool HR.out.symm, (by repeat (first | exact Below.refl _ _ | exact alloc1 _ _ | refine Below.drew ?_ | refine Below.alloc ?_ (by simp; try omega) _ | refine Below.setCell ?_ (by simp; try omega) _))⟩)
      | (exfalso; exact H.out (by constructor <;> omega))

def Prg.right (b : Prg) : Bool := decide (0 ≤ b.words ∧ b.words ≤ 1048576 ∧ b.funcs ≠ []) && b.funcs.zipIdx.all fun p => p.1.one p.2 b.words
def Prg.small (b : Prg) : Bool := decide (b.funcs.length ≤ 10 ∧ b.words ≤ 400) && b.funcs.all Fn.few && b.right

theorem right_all {l : List Fn} {words : Int} (h : ∀ j (hj : j < l.length), l[j].one j words = true) : (l.zipIdx.all fun p => p.1.one p.2 words) = true := by
  rw [List.all_eq_true]
  rintro ⟨f, j⟩ hm
  obtain ⟨hj, e⟩ := List.mem_zipIdx' hm
  show f.one j words = true
  rw [e]
  exact h j hj
theorem right_not {l : List Fn} {words : Int} (j : Nat) (hj : j < l.length) (h : l[j].one j words = false) : (l.zipIdx.all fun p => p.1.one p.2 words) = false := by
  rw [List.all_eq_false]
  refine ⟨(l[j], j), ?_, by simp [h]⟩
  rw [List.mem_iff_getElem]
  exact ⟨j, by simpa using hj, by simp⟩

set_option maxRecDepth 100000 in
set_option maxHeartbeats 4000000 in
theorem right24 (r : Bool) (b : Prg) (va : Value) (ok : Nat → Prop) (w : World) (ha : Sl RFn w ok b.funcs va) (hr : b.right = r) :
    Calls Try.prog 21 #[.agg #[.int .i64 b.words, va]] w
    fun e w' => e = .returned (.bool r) ∧ Below w.heap.size w w' := by
  obtain ⟨xr, xi⟩ := b
  dsimp only at ha ⊢
  obtain ⟨A, ca, rfl, hca, hna⟩ := ha.form
  have HA := Lib.hid ha; clear ha
  by_cases h : 0 ≤ xr ∧ xr ≤ 1048576 ∧ xi ≠ []
  · have HR : Hid (r = (xi.zipIdx.all fun p => p.1.one p.2 xr)) := by
      rw [← hr]; show _ = _; unfold Prg.right; rw [decide_eq_true (show _ ∧ _ from h), Bool.true_and]
    obtain ⟨ha, hb, hc⟩ := h
    have hlen : 0 < xi.length := List.length_pos_iff.2 hc
    have d1 : ((xi.length : Int) == 0) = false := by simp; exact hc
    clear hr hc
    go_enter Try.func21, Try.ntmps21
    go_wp2_with fail
    refine name_world (fun W0 hW0 => ?_)
    obtain ⟨e1, e2⟩ := cells_eq hW0
    have hz : W0.heap.size = w.heap.size + 1 := by subst hW0; simp
    have B0 : Below w.heap.size w W0 := by subst hW0; exact (by repeat (first | exact Below.refl _ _ | exact alloc1 _ _ | refine Below.drew ?_ | refine Below.alloc ?_ (by simp; try omega) _ | refine Below.setCell ?_ (by simp; try omega) _))
    have HB0 := Lib.hid B0
    clear hW0 B0
    go_loopw [3] (fun i wr => ∃ k : Nat, k ≤ xi.length ∧ i = .int .i64 k ∧ Hid (∀ j (hj : j < xi.length), j < k → xi[j].one j xr = true) ∧ Below W0.heap.size W0 wr) (fun i _ => xi.length - (intOf i).toNat)
    case atStart => exact ⟨0, Nat.zero_le _, rfl, fun j hj hj' => absurd hj' (Nat.not_lt_zero _), Below.refl _ _⟩
    case round =>
      obtain ⟨k, hk, rfl, hall, hb⟩ := hrel
      obtain ⟨c1, c2⟩ := bcells hb
      have hs1 : w.heap.size < wr.heap.size := by have := hb.size; omega
      have hB := Lib.hid hb; clear hb
      by_cases hlt : k < xi.length
      · obtain ⟨ga, oa, xA, xc, rfl, _, hga, hxs, hxn, q1, q2⟩ := ((HA.out.below HB0.out).below hB.out).fn k hlt
        have E : Hid (xi[k].one k xr = true → ∀ j (hj : j < xi.length), j < k + 1 → xi[j].one j xr = true) := by
          intro hg j hj hjk
          by_cases e : j = k
          · subst e; exact hg
          · exact hall j hj (by omega)
        have E' : Hid (xi[k].one k xr = false → r = false) := by
          intro hg
          rw [HR.out]
          exact right_not k hlt hg
        generalize xi[k] = x at *
        have HE := Lib.hid E; clear E
        have HE' := Lib.hid E'; clear E'
        have HX := Lib.hid hxs; clear hxs
        rcases hr : x.one k xr with _ | _
        all_goals
          have HR2 := Lib.hid hr; clear hr
          go_wp2_with fail
          go_still_tail 8, (by kernel_rfl)
          change wpList _ _ _ _ _ wr.drew
          go_wp2_with fail
          refine (one24' _ x _ _ xr _ _ HX.out.drew (by omega) (by omega) HR2.out).mono ?_
          rintro e w1 ⟨rfl, hb1⟩
          go_wp2_with fail
        · go_ret
          exact ⟨ret_bool (HE'.out.out HR2.out).symm, below0 HB0.out (below0 hB.out.drew hb1)⟩
        · go_roundw
          case rel => exact ⟨k + 1, by omega, by go_num, HE.out.out HR2.out, below0 hB.out.drew hb1⟩
          case measure => simp [intOf]; omega
      · go_wp2_with fail
        go_ret
        refine ⟨ret_bool ?_, below0 HB0.out hB.out⟩
        rw [HR.out]
        symm
        exact right_all fun j hj => hall j hj (by omega)
  · have HR : Hid (r = false) := by
      rw [← hr]; show _ = _; unfold Prg.right; rw [decide_eq_false h]; rfl
    have H := Lib.hid h; clear h hr
    go_enter Try.func21, Try.ntmps21
    go_wp2_with fail
    all_goals first
      | (go_ret; exact ⟨ret_bool HR.out.symm, (by repeat (first | exact Below.refl _ _ | exact alloc1 _ _ | refine Below.drew ?_ | refine Below.alloc ?_ (by simp; try omega) _ | refine Below.setCell ?_ (by simp; try omega) _))⟩)
      | (exfalso; apply H.out; simp_all; done)

set_option maxRecDepth 100000 in
set_option maxHeartbeats 4000000 in
theorem small32 (r : Bool) (b : Prg) (va : Value) (ok : Nat → Prop) (w : World) (ha : Sl RFn w ok b.funcs va) (hr : b.small = r) :
    Calls Try.prog 19 #[.agg #[.int .i64 b.words, va]] w
    fun e w' => e = .returned (.bool r) ∧ Below w.heap.size w w' := by
  obtain ⟨xr, xi⟩ := b
  dsimp only at ha ⊢
  obtain ⟨A, ca, rfl, hca, hna⟩ := ha.form
  have HA := Lib.hid ha; clear ha
  by_cases h : xi.length ≤ 10 ∧ xr ≤ 400
  · have HR : Hid (r = (xi.all Fn.few && Prg.right ⟨xr, xi⟩)) := by
      rw [← hr]; show _ = _; unfold Prg.small; rw [decide_eq_true (show _ ∧ _ from h), Bool.true_and]
    obtain ⟨h10, h400⟩ := h
    clear hr
    go_enter Try.func19, Try.ntmps19
    go_wp2_with fail
    refine name_world (fun W0 hW0 => ?_)
    obtain ⟨e1, e2⟩ := cells_eq hW0
    have hz : W0.heap.size = w.heap.size + 1 := by subst hW0; simp
    have B0 : Below w.heap.size w W0 := by subst hW0; exact (by repeat (first | exact Below.refl _ _ | exact alloc1 _ _ | refine Below.drew ?_ | refine Below.alloc ?_ (by simp; try omega) _ | refine Below.setCell ?_ (by simp; try omega) _))
    have HB0 := Lib.hid B0
    clear hW0 B0
    go_loopw [3] (fun i wr => ∃ k : Nat, k ≤ xi.length ∧ i = .int .i64 k ∧ Hid (∀ j (hj : j < xi.length), j < k → xi[j].few = true) ∧ Below W0.heap.size W0 wr) (fun i _ => xi.length - (intOf i).toNat)
    case atStart => exact ⟨0, Nat.zero_le _, rfl, fun j hj hj' => absurd hj' (Nat.not_lt_zero _), Below.refl _ _⟩
    case round =>
      obtain ⟨k, hk, rfl, hall, hb⟩ := hrel
      obtain ⟨c1, c2⟩ := bcells hb
      have hs1 : w.heap.size < wr.heap.size := by have := hb.size; omega
      have hB := Lib.hid hb; clear hb
      by_cases hlt : k < xi.length
      · obtain ⟨ga, oa, xA, xc, rfl, _, hga, hxs, hxn, q1, q2⟩ := ((HA.out.below HB0.out).below hB.out).fn k hlt
        have E : Hid (xi[k].few = true → ∀ j (hj : j < xi.length), j < k + 1 → xi[j].few = true) := by
          intro hg j hj hjk
          by_cases e : j = k
          · subst e; exact hg
          · exact hall j hj (by omega)
        have E' : Hid (xi[k].few = false → r = false) := by
          intro hg
          rw [HR.out, Bool.and_eq_false_iff]
          left
          rw [List.all_eq_false]
          exact ⟨xi[k], List.getElem_mem hlt, by rw [hg]; simp⟩
        generalize xi[k] = x at *
        have HE := Lib.hid E; clear E
        have HE' := Lib.hid E'; clear E'
        have HX := Lib.hid hxs; clear hxs
        rcases hr : x.few with _ | _
        all_goals
          have HR2 := Lib.hid hr; clear hr
          go_wp2_with fail
          refine (few32 _ x _ _ _ HX.out HR2.out).mono ?_
          rintro e w1 ⟨rfl, hb1⟩
          go_wp2_with fail
        · go_ret
          exact ⟨ret_bool (HE'.out.out HR2.out).symm, below0 HB0.out (below0 hB.out hb1)⟩
        · go_roundw
          case rel => exact ⟨k + 1, by omega, by go_num, HE.out.out HR2.out, below0 hB.out hb1⟩
          case measure => simp [intOf]; omega
      · have hall2 : xi.all Fn.few = true := by
          rw [List.all_eq_true]
          intro t ht
          obtain ⟨j, hj, rfl⟩ := List.getElem_of_mem ht
          exact hall j hj (by omega)
        have HALL := Lib.hid hall2; clear hall2
        go_wp2_with fail
        refine (right24 r ⟨xr, xi⟩ _ _ _ ((HA.out.below HB0.out).below hB.out) (by rw [HR.out, HALL.out, Bool.true_and])).mono ?_
        rintro e w1 ⟨rfl, hb1⟩
        go_wp2_with fail
        go_ret
        exact ⟨rfl, below0 HB0.out (below0 hB.out hb1)⟩
  · have HR : Hid (r = false) := by
      rw [← hr]; show _ = _; unfold Prg.small; rw [decide_eq_false h]; rfl
    have H := Lib.hid h; clear h hr
    go_enter Try.func19, Try.ntmps19
    go_wp2_with fail
    all_goals first
      | (go_ret; exact ⟨ret_bool HR.out.symm, (by repeat (first | exact Below.refl _ _ | exact alloc1 _ _ | refine Below.drew ?_ | refine Below.alloc ?_ (by simp; try omega) _ | refine Below.setCell ?_ (by simp; try omega) _))⟩)
      | (exfalso; exact H.out (by constructor <;> omega))
end Go.Proofs.Ytiaojefhbhodiaa
