/-
  Walks: the program's iterators over a list from its end on.
-/
import Derived.Test.YtiaojefhbhodiaaW14
import Derived.Test.YtiaojefhbhodiaaW1
set_option linter.unusedVariables false
namespace Go.Proofs.Ytiaojefhbhodiaa
open Go.RowKit Go.Shelf
attribute [local go_sem] Oper.semAt_some

theorem Row.blk {w : World} {g o : Nat} {v a b c d : Value} (h : Row w g o [v, a, b, c, d]) :
    w.cell? ⟨g, o, none⟩ = some v ∧ w.cell? ⟨g, o + 1, none⟩ = some a ∧ w.cell? ⟨g, o + 2, none⟩ = some b ∧ w.cell? ⟨g, o + 3, none⟩ = some c ∧ w.cell? ⟨g, o + 4, none⟩ = some d := by
  refine ⟨?_, ?_, ?_, ?_, ?_⟩
  · simpa using h 0 (by simp)
  · simpa using h 1 (by simp)
  · simpa using h 2 (by simp)
  · simpa using h 3 (by simp)
  · simpa using h 4 (by simp)

set_option maxHeartbeats 1000000 in
theorem backwardT (A : Option Addr) (n c : Nat) (w : World) : Calls Try.prog 60 #[.slice A n c] w
    fun e w' => e = .returned (.func (.func 66) #[] #[.pointer (some ⟨w.heap.size, 0, none⟩)]) ∧ w' = w.alloc (.cells #[.slice A n c] 52) := by
  go_enter Try.func60, Try.ntmps60
  go_wp2_with fail
  go_ret
  exact ⟨rfl, rfl⟩

set_option maxRecDepth 100000 in
set_option maxHeartbeats 4000000 in
theorem backT_stops (xs : List Tac) (A : Option Addr) (c : Nat) (bb : Nat) (T : Nat → Prop) (w : World) (hn : xs.length ≤ 140737488355328) (hbb : Bx w bb #[.slice A xs.length c] 52) (hT : ¬ T bb) (hcap : xs.length ≤ c)
    (hrow : ∀ i : Fin xs.length, ∃ g o, A = some ⟨g, o, none⟩ ∧ g < w.heap.size ∧ ¬ T g ∧ Row w g (o + i.1 * 8) (#[.int .i64 xs[i.1].op, .int .i64 xs[i.1].d, .int .i64 xs[i.1].a, .int .i64 xs[i.1].b, .int .i64 xs[i.1].k, .int .i64 xs[i.1].base, .int .i64 xs[i.1].size, .int .u32 xs[i.1].n]).toList) :
    SeqStopsK Fence.wide 9 Try.prog 66 #[.pointer (some ⟨bb, 0, none⟩)] (fun i : Fin xs.length => #[.int .i64 (i.1 : Int), .agg (#[.int .i64 xs[i.1].op, .int .i64 xs[i.1].d, .int .i64 xs[i.1].a, .int .i64 xs[i.1].b, .int .i64 xs[i.1].k, .int .i64 xs[i.1].base, .int .i64 xs[i.1].size, .int .u32 xs[i.1].n])]) (Fr T) (fun ys => ys = backTo xs.length xs.length) (fun _ => True) xs.length w := by
  intro l J Jx W hW _ _ hY h0
  have HB := Lib.hid (hbb.below hW); have HY := Lib.hid hY; have HH := Lib.hid h0
  have HT : Hid (¬ T bb) := hT
  have HSZ : Hid (∀ i : Fin xs.length, ∃ g o, A = some ⟨g, o, none⟩ ∧ g < W.heap.size ∧ ¬ T g ∧ Row W g (o + i.1 * 8) (#[.int .i64 xs[i.1].op, .int .i64 xs[i.1].d, .int .i64 xs[i.1].a, .int .i64 xs[i.1].b, .int .i64 xs[i.1].k, .int .i64 xs[i.1].base, .int .i64 xs[i.1].size, .int .u32 xs[i.1].n]).toList) := fun i => by
    obtain ⟨g, o, h1, h2, h3, h4⟩ := hrow i
    exact ⟨g, o, h1, by have := hW.size; omega, h3, h4.keep (hW.block g h2)⟩
  have cb := HB.out.cell
  have cbl := HB.out.lt
  clear hbb hrow hY h0 hW hT
  refine callsIn_of_wp Try.func66 rfl trivial ?_ rfl
  simp only [Try.ntmps66, List.size_toArray, List.length_cons, List.length_nil, Nat.reduceAdd, Nat.reduceSub, Array.replicate_succ, Array.replicate_zero, List.push_toArray, List.append_toArray, List.nil_append, List.cons_append]
  gi_wp2
  gi_loopw [3] (fun i wr => ∃ z : Int, i = .int .i64 z ∧ -1 ≤ z ∧ z < xs.length ∧ J (backTo xs.length ((xs.length : Int) - 1 - z).toNat) wr ∧ Fr T W wr) (fun i _ => (intOf i + 1).toNat)
  case atStart => exact ⟨_, rfl, by omega, by omega, by rw [show ((xs.length : Int) - 1 - ((xs.length : Int) - 1)).toNat = 0 by omega]; exact HH.out, Fr.refl _ _⟩
  case round =>
    obtain ⟨z, rfl, hz1, hz2, hJs, hfr⟩ := hrel
    have HFR := Lib.hid hfr; have HJ := Lib.hid hJs
    have cx := (HB.out.fr hfr HT.out).cell
    clear hfr hJs cb
    by_cases h0 : 0 ≤ z
    · obtain ⟨i, rfl⟩ := Int.eq_ofNat_of_zero_le h0
      have hi : i < xs.length := by omega
      obtain ⟨g0, o0, hA0, hg1, hg2, hr0⟩ := HSZ.out ⟨i, hi⟩
      subst hA0
      have hr1 := hr0.keep (HFR.out.block g0 hg1 hg2)
      obtain ⟨q0, q1, q2, q3, q4, q5, q6, q7⟩ := Row.tac (t := xs[i]) hr1
      clear hr0 hr1
      have hbk : Hid (backTo xs.length (((xs.length : Int) - 1 - ((i : Int) - 1))).toNat = backTo xs.length ((xs.length : Int) - 1 - (i : Int)).toNat ++ [⟨i, hi⟩]) := by
        show _ = _
        rw [show (((xs.length : Int) - 1 - ((i : Int) - 1))).toNat = ((xs.length : Int) - 1 - (i : Int)).toNat + 1 by omega, backTo_succ _ _ (by omega)]
        congr 3
        omega
      obtain ⟨fn, tmps, assign, body, hy, hR⟩ := HY.out _ ⟨i, hi⟩ wr HJ.out (by rw [backTo_length _ _ (by omega)]; omega)
      dsimp only at hy
      gi_wp2
      refine hR.mono ?_
      rintro e W3 (⟨rfl, hJ3, hk3⟩ | ⟨rfl, hJx3⟩)
      · have HJ3 := Lib.hid hJ3; have HK3 := Lib.hid hk3
        clear hJ3 hk3
        gi_wp2
        go_roundw
        case rel => exact ⟨(i : Int) - 1, by go_num, by omega, by omega, by rw [hbk.out]; exact HJ3.out, HFR.out.trans HK3.out⟩
        case measure => first | (simp [intOf]; done) | (simp [intOf]; omega)
      · have HJ3 := Lib.hid hJx3
        clear hJx3
        gi_wp2
        refine bodyPost_ret (results_none rfl _ _ _) rfl ?_
        exact ⟨⟨_, rfl⟩, .inr ⟨_, trivial, HJ3.out⟩⟩
    · have hzz : z = -1 := by omega
      subst hzz
      gi_wp2
      go_end0
      refine ⟨⟨_, rfl⟩, .inl ?_⟩
      have h := HJ.out
      rwa [show ((xs.length : Int) - 1 - (-1)).toNat = xs.length by omega] at h


set_option maxHeartbeats 1000000 in
theorem backwardB (A : Option Addr) (n c : Nat) (w : World) : Calls Try.prog 46 #[.slice A n c] w
    fun e w' => e = .returned (.func (.func 63) #[] #[.pointer (some ⟨w.heap.size, 0, none⟩)]) ∧ w' = w.alloc (.cells #[.slice A n c] 22) := by
  go_enter Try.func46, Try.ntmps46
  go_wp2_with fail
  go_ret
  exact ⟨rfl, rfl⟩

set_option maxRecDepth 100000 in
set_option maxHeartbeats 4000000 in
theorem backB_stops (xs : List Blk) (vs : Fin xs.length → Value) (A : Option Addr) (c : Nat) (bb : Nat) (T : Nat → Prop) (w : World) (hn : xs.length ≤ 140737488355328) (hbb : Bx w bb #[.slice A xs.length c] 22) (hT : ¬ T bb) (hcap : xs.length ≤ c)
    (hrow : ∀ i : Fin xs.length, ∃ g o, A = some ⟨g, o, none⟩ ∧ g < w.heap.size ∧ ¬ T g ∧ Row w g (o + i.1 * 5) (#[vs i, .int .i64 xs[i.1].fin, .int .i64 xs[i.1].v, .int .i64 xs[i.1].to, .int .i64 xs[i.1].els]).toList) :
    SeqStopsK Fence.wide 9 Try.prog 63 #[.pointer (some ⟨bb, 0, none⟩)] (fun i : Fin xs.length => #[.int .i64 (i.1 : Int), .agg (#[vs i, .int .i64 xs[i.1].fin, .int .i64 xs[i.1].v, .int .i64 xs[i.1].to, .int .i64 xs[i.1].els])]) (Fr T) (fun ys => ys = backTo xs.length xs.length) (fun _ => True) xs.length w := by
  intro l J Jx W hW _ _ hY h0
  have HB := Lib.hid (hbb.below hW); have HY := Lib.hid hY; have HH := Lib.hid h0
  have HT : Hid (¬ T bb) := hT
  have HSZ : Hid (∀ i : Fin xs.length, ∃ g o, A = some ⟨g, o, none⟩ ∧ g < W.heap.size ∧ ¬ T g ∧ Row W g (o + i.1 * 5) (#[vs i, .int .i64 xs[i.1].fin, .int .i64 xs[i.1].v, .int .i64 xs[i.1].to, .int .i64 xs[i.1].els]).toList) := fun i => by
    obtain ⟨g, o, h1, h2, h3, h4⟩ := hrow i
    exact ⟨g, o, h1, by have := hW.size; omega, h3, h4.keep (hW.block g h2)⟩
  have cb := HB.out.cell
  have cbl := HB.out.lt
  clear hbb hrow hY h0 hW hT
  refine callsIn_of_wp Try.func63 rfl trivial ?_ rfl
  simp only [Try.ntmps63, List.size_toArray, List.length_cons, List.length_nil, Nat.reduceAdd, Nat.reduceSub, Array.replicate_succ, Array.replicate_zero, List.push_toArray, List.append_toArray, List.nil_append, List.cons_append]
  gi_wp2
  gi_loopw [3] (fun i wr => ∃ z : Int, i = .int .i64 z ∧ -1 ≤ z ∧ z < xs.length ∧ J (backTo xs.length ((xs.length : Int) - 1 - z).toNat) wr ∧ Fr T W wr) (fun i _ => (intOf i + 1).toNat)
  case atStart => exact ⟨_, rfl, by omega, by omega, by rw [show ((xs.length : Int) - 1 - ((xs.length : Int) - 1)).toNat = 0 by omega]; exact HH.out, Fr.refl _ _⟩
  case round =>
    obtain ⟨z, rfl, hz1, hz2, hJs, hfr⟩ := hrel
    have HFR := Lib.hid hfr; have HJ := Lib.hid hJs
    have cx := (HB.out.fr hfr HT.out).cell
    clear hfr hJs cb
    by_cases h0 : 0 ≤ z
    · obtain ⟨i, rfl⟩ := Int.eq_ofNat_of_zero_le h0
      have hi : i < xs.length := by omega
      obtain ⟨g0, o0, hA0, hg1, hg2, hr0⟩ := HSZ.out ⟨i, hi⟩
      subst hA0
      have hr1 := hr0.keep (HFR.out.block g0 hg1 hg2)
      obtain ⟨q0, q1, q2, q3, q4⟩ := Row.blk hr1
      clear hr0 hr1
      have hbk : Hid (backTo xs.length (((xs.length : Int) - 1 - ((i : Int) - 1))).toNat = backTo xs.length ((xs.length : Int) - 1 - (i : Int)).toNat ++ [⟨i, hi⟩]) := by
        show _ = _
        rw [show (((xs.length : Int) - 1 - ((i : Int) - 1))).toNat = ((xs.length : Int) - 1 - (i : Int)).toNat + 1 by omega, backTo_succ _ _ (by omega)]
        congr 3
        omega
      obtain ⟨fn, tmps, assign, body, hy, hR⟩ := HY.out _ ⟨i, hi⟩ wr HJ.out (by rw [backTo_length _ _ (by omega)]; omega)
      dsimp only at hy
      gi_wp2
      refine hR.mono ?_
      rintro e W3 (⟨rfl, hJ3, hk3⟩ | ⟨rfl, hJx3⟩)
      · have HJ3 := Lib.hid hJ3; have HK3 := Lib.hid hk3
        clear hJ3 hk3
        gi_wp2
        go_roundw
        case rel => exact ⟨(i : Int) - 1, by go_num, by omega, by omega, by rw [hbk.out]; exact HJ3.out, HFR.out.trans HK3.out⟩
        case measure => first | (simp [intOf]; done) | (simp [intOf]; omega)
      · have HJ3 := Lib.hid hJx3
        clear hJx3
        gi_wp2
        refine bodyPost_ret (results_none rfl _ _ _) rfl ?_
        exact ⟨⟨_, rfl⟩, .inr ⟨_, trivial, HJ3.out⟩⟩
    · have hzz : z = -1 := by omega
      subst hzz
      gi_wp2
      go_end0
      refine ⟨⟨_, rfl⟩, .inl ?_⟩
      have h := HJ.out
      rwa [show ((xs.length : Int) - 1 - (-1)).toNat = xs.length by omega] at h

end Go.Proofs.Ytiaojefhbhodiaa
